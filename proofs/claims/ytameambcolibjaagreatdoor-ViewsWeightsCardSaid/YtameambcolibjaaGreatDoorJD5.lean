/- Lemmas. No condition. -/
import Derived.Shelf.Strings.Builder1
import Derived.Shelf.Strings.Builder2
import Derived.Shelf.Strings.OnBuilder
import Derived.Shelf.Small.Bits
import Derived.Shelf.Small.Wraps
import Derived.Shelf.Strings.BuilderF
import Derived.Shelf.Strings.BuilderK
import Derived.Shelf.Strings.Builder2Cap
import Derived.Shelf.Strconv.Itoa0
import Derived.Shelf.Strconv.Itoa1
import Derived.Shelf.LaysM
import Derived.Shelf.Strconv.Itoa2
import Derived.Shelf.Strconv.Itoa3
import Derived.Shelf.Strconv.Clone
import Derived.Shelf.Strconv.SyntaxError
import Derived.Shelf.LaysC
import Derived.Shelf.Strconv.ToError
import Derived.Shelf.Strconv.Lower
import Derived.Shelf.Strconv.ParseUint10
import Derived.Shelf.Strconv.ParseUint10Empty
import Derived.Shelf.Strconv.ParseUint10Any
import Derived.Shelf.Strconv.RangeError
import Derived.Shelf.Strconv.ToErrorRange
import Derived.Shelf.Strconv.ParseUintEmpty
import Derived.Shelf.Strconv.ParseUint10b64
import Derived.Shelf.Strconv.ParseUint10b32
import Derived.Shelf.Strconv.ParseUint10b16
import Derived.Shelf.Strconv.ParseUint10b8
import Derived.Shelf.Strconv.ParseUint10At
import Derived.Ground.MpProg
import Derived.Shelf.Pu.ParseUintPublic10
import Derived.Shelf.Pu.ErrVarParseUint
import Derived.Shelf.Strings.Search1
import Derived.Shelf.Strings.Search2
import Derived.Shelf.Strings.Cut
import Derived.Shelf.Strings.Shaped
import Derived.Shelf.Sort.Plain
import Derived.Shelf.Strings.Prefix
import Derived.Shelf.Bits.Mul64
import Derived.Shelf.Strings.Repeat
import Derived.Shelf.Strings.BuilderCap
import Derived.Shelf.Slices.Turned
import Derived.Shelf.Slices.Equal
import Derived.Ground.Names2Prog
import Derived.Shelf.Slices.Clone
import Derived.Shelf.Slices.SearchI
import Derived.Shelf.Slices.In.SortNone
import Derived.Shelf.Slices.Empties2
import Derived.Test.YtameambcolibjaaGreatDoorProg
import Derived.Test.YtameambcolibjaaGreatDoorJD4
set_option maxRecDepth 100000
set_option maxHeartbeats 4000000
open Go.RowKit Go.Proofs.Tryz
open Option renaming some→UF,none→UG
open Bool renaming true→VA,false→WA
namespace Go.Proofs.YtameambcolibjaaGreatDoor
variable{l:List Nat}{k a b n x y:Nat}
section
def cz(l:List Nat):List PV:=l.map fun(n:Nat)=>PV.int .u64 (n:Int)
abbrev RB(l:List Nat):PV:=.sl UG l.length (cz l)
abbrev bU(n:Nat):PV:=RB (ae n)
theorem eh(l:List Nat):(cz l).length=l.length:=by simp[cz]
theorem Mz(h:k<l.length):(cz l)[k*1]? =UF (.int .u64 (l[k]:Int)):=by simp[cz,h]
theorem dE(h:k<l.length):(cz l)[k*1]? =UF (.int .u64 (lim l k:Int)):=by rw[Mz h,dZ h]
theorem gu(h:k<l.length):cz l≠[]:=λe=>by have:=eh l;rw[e]at this;simp at this;omega
theorem sE(l:List Nat)(k:Nat):(cz l).take k=cz (l.take k):=by simp[cz,List.map_take]
theorem jN(l:List Nat)(k x:Nat):(cz l).set k (.int .u64 (x:Int))=cz (l.set k x):=by simp[cz,U9]
theorem rD{a b:Int}(h:(a==b)=VA):a=b:=by simpa using h
theorem lq{a b:Int}(h:(a==b)=WA):a≠b:=by simpa using h
theorem C4{a b:Int}(h:(a !=b)=VA):a≠b:=by simpa using h
theorem vK{a b:Int}(h:(a !=b)=WA):a=b:=by simpa using h
theorem EL(i:Int):FnP prog 281 [.int .i64 i] (· = .int .i64 (if i<0 then-1 else if 0<i then 1 else 0)):=by
 refine FnP.of func281 O ntmps281 X2 λ_ _ _ _=>?_
 refine Z1 O<|Z3 O<|Gp O (λd=>?_) (λd=>?_)
 .exact Z1 O<|Gt O<|⟨_,_,O,O,ah (PV.int .i64) (by rw[AT XX])⟩
 refine Z3 O ?_;refine Gp O (λj=>?_) (λj=>?_)
 .exact Z1 O<|Gt O<|⟨_,_,O,O,ah (PV.int .i64) (by rw[pF XX,AT XX])⟩
 exact TM<|Z1 O<|Gt O<|⟨_,_,O,O,ah (PV.int .i64) (by rw[pF XX,pF XX])⟩
theorem od(l:List Nat)(i:Nat)(r:l.length<=1000000000):FnP prog 280 [RB l,.int .i64 i] (· = .int .u64 (lim l i:Int)):=by
 refine FnP.of func280 O ntmps280 X2 λ_ _ _ _=>?_
 refine Z1 O<|Z4 O<|Gp O (λd=>?_) (λd=>?_)
 .have hil:i<l.length:=XX;have q:=dE hil;have j:=gu hil;refine Z3 O ?_;first|refine A2 O X0 ?_|refine A1 O ?_
  exact A1 O<|Gt O<|⟨_,_,O,O,O⟩
 exact TM<|Z1 O<|Gt O<|⟨_,_,O,O,ah (PV.int .u64) (by rw[jn XX];rfl)⟩
theorem E4(l:List Nat)(s:l.length<=1000000000)(q:Lok l):FnP prog 222 [RB l] (· =bU (val l)):=by
 refine FnP.of func222 O ntmps222 X2 λ_ _ _ _=>?_
 refine Z1 O<|Z3 O<|Gz O (st:=λX6:Nat=>([(0,UG),(3,UF (pIi X6))],[])) 0
  (I:=λX6=>X6<=l.length/\∀i,X6<=i->l.getD i 0=0) (μ:=λX6=>X6) (x0:=(l.length)) (TO (aS O) trivial O O) (⟨tJ _,λi hi=>jn hi⟩) ?_
 rintro n ⟨hn,hz⟩;by_cases hp:0<n
 .have hil:n-1<l.length:=XX;have r:=dE hil;have j:=gu hil;refine Z1 O<|Rs O (XJ.cast (v':=.pv (.bool VA)) (aD O O O) X3)<|Ar 4 O<|Rg O (ag (n-1) underlying97 iH O O XX hil j) ?_;first|refine A2 O X0 ?_|refine A1 O ?_
  refine Rg O (aD O O O)<|A1 O<|Gc O (λd=>?_) (λd=>?_)
  .have hz0:lim l (n-1)=0:=by have:=rD d;omega
   exact TM<|Z3 O<|⟨(n-1),TO ⟨O,ah (λi:Int=>V.pv (PV.int .i64 i)) (show(n:Int)-1=((n-1:Nat):Int) by omega),X5⟩ trivial O O,⟨XX,λi hi=>by rcases We i n with e|e;rw[show i=n-1 by omega];exact hz0;exact hz i e⟩,XX⟩
  have hz0:lim l (n-1)≠0:=by have:=lq d;omega
  refine Gx O<|Z2 O<|Rs O ((dR n underlying97 iH O O O hn (by rw[eh];omega)).cast (v':=.pv (.sl UG n (cz (l.take n)))) (by rw[Uv,sE]))<|A1 O<|Gt O ?_;have e:=iO q hn hz (.inr hz0);exact⟨_,_,O,O,by show PV.sl UG n (cz (l.take n))=bU (val l);rw[bU,e,RB,OF,U5 hn]⟩
 refine Z1 O<|Rs O (XJ.cast (v':=.pv (.bool WA)) (aD O O O) X3)<|Ar 8 O ?_;refine Gc O (λd=>absurd d X2) (λd=>?_);refine Gx O<|Z2 O<|Rs O ((dR n underlying97 iH O O O hn (by rw[eh];omega)).cast (v':=.pv (.sl UG n (cz (l.take n)))) (by rw[Uv,sE]))<|A1 O<|Gt O ?_;have e:=iO q hn hz (.inl XX);exact⟨_,_,O,O,by show PV.sl UG n (cz (l.take n))=bU (val l);rw[bU,e,RB,OF,U5 hn]⟩
theorem cT{v:Nat}(l:List Nat)(d:l.length=n)(j:n<=1000000000)(q:Lok l)(r:val l=v):FnP prog 222 [.sl UG n (cz l)] (· =bU v):=by
 subst d r;exact E4 l j q
def yw(a b:Nat):Int:=if a<b then-1 else if b<a then 1 else 0
theorem vk(h:a<b):yw a b= -1:=AT h
theorem lx(h:b<a):yw a b=1:=by unfold yw;rw[pF XX,AT h]
theorem Ft(h:a=b):yw a b=0:=by unfold yw;rw[pF XX,pF XX]
theorem oW(a b:Nat)(J:(ae a).length<=1000000000)(L:(ae b).length<=1000000000):FnP prog 229 [bU a,bU b] (· = .int .i64 (yw a b)):=by
 refine FnP.of func229 O ntmps229 X2 λ_ _ _ _=>?_
 refine Z1 O<|Gr O<|Ar 5 O<|Gc O (λj=>?_) (λj=>?_)
 .refine Gr O<|Ar 5 O<|Rs O (aa call281 (EL _) O)<|A1 O<|Gt O ?_;have D:(ae a).length≠(ae b).length:=by have:=C4 j;omega
  refine⟨_,_,O,O,ah (PV.int .i64) ?_⟩;rcases We (ae a).length (ae b).length with h|h
  .rw[AT XX,vk (gx h)]
  rw[pF XX,AT XX,lx (gx XX)]
 have hlen:(ae a).length=(ae b).length:=by have:=vK j;omega
 refine TM<|Z4 O<|Gz O (st:=λX6:Nat=>([(0,UG),(1,UG),(5,UF (pIi ((X6:Int)-1)))],[])) 0
  (I:=λX6=>X6<=(ae a).length/\(ae a).drop X6=(ae b).drop X6) (μ:=λX6=>X6) (x0:=((ae a).length)) (TO (aS O) trivial O O) (⟨tJ _,by rw[Vf (tJ _),Vf XX]⟩) ?_
 rintro i ⟨hi,hd⟩;refine Z2 O<|Gp O (λz=>?_) (λz=>?_)
 .have hia:i-1<(ae a).length:=XX;have d:i-1<(ae b).length:=XX;have E:=dE hia;have r:=gu hia;have G:=dE d;have s:=gu d;have q:(ae a).drop (i-1+1)=(ae b).drop (i-1+1):=by rw[show i-1+1=i by omega];exact hd
  refine TM<|UB 9 O<|Dr 2 O<|Ds [] O (λτ h=>ag (i-1) underlying97 iH (Ee h 0 O O) (Ee h 1 O O) XX hia r) O XY ?_;first|refine D2 O O X0 ?_|refine D1 O ?_
  refine Dr 2 O<|Ds [] O (λτ h=>ag (i-1) underlying97 iH (Ee h 0 O O) (Ee h 1 O O) XX d s) O XY ?_;first|refine D2 O O X0 ?_|refine D1 O ?_
  refine D1 O ?_;refine⟨XY,?_⟩;refine Gp O (λA=>?_) (λA=>?_)
  .refine Z1 O<|Gt O ?_;have u:=pJ (aZ a) hlen hia q (by show lim _ _<lim _ _;omega);rw[aI,aI]at u;exact⟨_,_,O,O,ah (PV.int .i64) (vk u).symm⟩
  refine TM<|UB 9 O<|Dr 2 O<|Ds [] O (λτ h=>ag (i-1) underlying97 iH (Ee h 0 O O) (Ee h 1 O O) XX hia r) O XY ?_;first|refine D2 O O X0 ?_|refine D1 O ?_
  refine Dr 2 O<|Ds [] O (λτ h=>ag (i-1) underlying97 iH (Ee h 0 O O) (Ee h 1 O O) XX d s) O XY ?_;first|refine D2 O O X0 ?_|refine D1 O ?_
  refine D1 O ?_;refine⟨XY,?_⟩;refine Gp O (λB=>?_) (λB=>?_)
  .refine Z1 O<|Gt O ?_;have u:=pJ (aZ b) hlen.symm d q.symm (by show lim _ _<lim _ _;omega);rw[aI,aI]at u;exact⟨_,_,O,O,ah (PV.int .i64) (lx u).symm⟩
  exact TM<|Z3 O<|⟨(i-1),TO ⟨O,O,ah (λi:Int=>V.pv (PV.int .i64 i)) (show(i:Int)-1-1=((i-1:Nat):Int)-1 by omega),X5⟩ trivial O O,⟨XX,by rw[Us hia,Us d,q,<-dZ hia,<-dZ d];congr 1;omega⟩,XX⟩
 refine Gx O<|Z1 O<|Gt O ?_;have H:i=0:=XX;subst H;exact⟨_,_,O,O,ah (PV.int .i64) (Ft (wi (by simpa using hd))).symm⟩
theorem Lok.q9(h:Lok l)(k x:Nat):Lok (l.set k (x%1000000000)):=h.set (Vi _ XZ)
theorem IP(d:(ae a).length<=n):a<1000000000^n:=aY.1 d
theorem wO(a b:Nat)(E:(ae a).length<=1000000)(G:(ae b).length<=1000000):FnP prog 228 [bU a,bU b] (· =bU (a+b)):=by
 refine FnP.of func228 O ntmps228 X2 λ_ _ _ _=>?_
 obtain⟨n,hn⟩:∃n:Nat,n=max (ae a).length (ae b).length:=⟨_,O⟩;have d:(if((ae b).length:Int)>(ae a).length then((ae b).length:Int)else(ae a).length)=(n:Int):=by split<;>omega
 refine Z1 O<|Gr O<|Ar 5 O<|Rs O (XJ.cast (v':= pIi ((n+1:Nat):Int)) (kM O O (by rw[d];omega)) (by rw[d];rfl))<|Rs O (kU (zs:=[.int .u64 0]) 0 (n+1) ND O O O O O XX O)<|A1 O<|Z1 O<|Z3 O ?_;refine Gz O (st:=λX6:Nat×List Nat×Nat=>([(0,UG),(1,UG),(5,UG),(6,UF (.pv (.int .u64 (X6.2.2:Int)))),(17,UG),(18,UF (pIi X6.1))],[(0,UF (.cells 262 (cz X6.2.1)))])) 1
  (I:=λX6=>(X6.1<=n+1/\X6.2.1.length=n+1)/\(Lok X6.2.1/\X6.2.2<=1)/\sm (lim X6.2.1) X6.1+1000000000^X6.1*X6.2.2=sm (lim (ae a)) X6.1+sm (lim (ae b)) X6.1) (μ:=λX6=>n+1-X6.1) (x0:=(0,List.replicate (n+1) 0,0)) (TO (aS O) ⟨ah (λc=>UF (Ob.cells 262 c)) ((cH (.int .u64 0) ((n+1)*1)).trans (by simp[cz])),X5⟩ O O) (⟨⟨aJ _,X2⟩,⟨Lok.replicate _,aJ _⟩,by simp[sm]⟩) ?_
 rintro⟨i,o,c⟩ ⟨⟨hi,hol⟩,⟨hok,hc⟩,he⟩;try simp only at hi hol hok hc he ⊢
 refine Z1 O<|Gp O (λr=>?_) (λr=>?_)
 .have hil:i<o.length:=XX;have z:=cR (aZ a) i;have A:=cR (aZ b) i;have s:=L7 hil he;have B:=eh o;have j:=od (ae a) i XX;have q:=od (ae b) i XX;generalize lim (ae a) i=x at*;generalize lim (ae b) i=y at*;exact TM<|Z2 O<|Z2 O<|Rs O (aa call280 j O)<|Y2 O<|Rs O (aa call280 q O)<|Ar 4 O<|Gr O<|Ar 6 O<|Rs O (aj i underlying97 iH O O O O XX)<|Y2 O<|Z2 O<|⟨(i+1,o.set i ((x+y+c)%1000000000),(x+y+c)/1000000000),TO (aS O) ⟨ah (λc=>UF (Ob.cells 262 c)) (by rw[Uv,jN]),X5⟩ O O,⟨⟨X4,by simp only[Ut];exact hol⟩,⟨hok.q9 _ _,X4⟩,s⟩,X4⟩
 refine Gx O ?_;obtain rfl:i=n+1:=XX;have D:val o=a+b:=Pk hol (IP XX) (IP XX) (by rw[he,eD _ XX,eD _ XX,aI,aI]);have u:=cT o hol XX hok D;exact TN (TR 0 O O)<|Z1 O<|Rs O (aa call222 u O)<|A1 O<|Gt O<|⟨_,_,O,O,O⟩
theorem qF(a b:Nat)(M:(ae a).length<=1000000)(s:b<=a):FnP prog 230 [bU a,bU b] (· =bU (a-b)):=by
 refine FnP.of func230 O ntmps230 X2 λ_ _ _ _=>?_
 obtain⟨n,hn⟩:∃n:Nat,n=(ae a).length:=⟨_,O⟩;have D:(ae b).length<=n:=by rw[hn];exact aY.2 (Xa s (dV a))
 refine Z1 O<|Z2 O<|Rs O (kU (zs:=[.int .u64 0]) 0 (ae a).length ND O O O O O XX O)<|A1 O<|Z1 O<|Z3 O<|Gl O (st:=λX6:Nat×List Nat×Nat=>mkS [(0,.pv (bU a)),(1,.pv (bU b)),(5,.osl 0 1 (ae a).length),(6,.pv (.int .u64 (X6.2.2:Int))),(13,.pv (.int .i64 (ae a).length)),(14,pIi X6.1)] [(0,.cells 262 (cz X6.2.1))] 1)
  (I:=λX6=>(X6.1<=n/\X6.2.1.length=n)/\(Lok X6.2.1/\X6.2.2<=1)/\sm (lim X6.2.1) X6.1+sm (lim (ae b)) X6.1=sm (lim (ae a)) X6.1+1000000000^X6.1*X6.2.2) (μ:=λX6=>n-X6.1) (x0:=(0,List.replicate (ae a).length 0,0)) (TO (aS O) ⟨ah (λc=>UF (Ob.cells 262 c)) ((cH (.int .u64 0) ((ae a).length*1)).trans (by simp[cz])),X5⟩ O O) (⟨⟨aJ _,by simp[hn]⟩,⟨Lok.replicate _,aJ _⟩,by simp[sm]⟩) ?_
 rintro⟨i,o,c⟩ ⟨⟨hi,hol⟩,⟨hok,hc⟩,he⟩;try simp only at hi hol hok hc he ⊢
 refine Z1 O<|Gp O (λr=>?_) (λr=>?_)
 .have hil:i<o.length:=XX;have d:i<(ae a).length:=XX;have E:=dE d;have u:=gu d;have G:=cR (aZ a) i;have H:=cR (aZ b) i;have j:=od (ae b) i XX;have z:=λx b' hx=>KG (x:=x) (b':=b') hil he hx
  have J:=eh o;generalize lim (ae a) i=x at*;generalize lim (ae b) i=y at*;have q:=z ((x+1000000000-y-c)%1000000000) (1-(x+1000000000-y-c)/1000000000) XX;refine TM<|Z2 O<|UB 12 O<|Dr 2 O<|Ds [] O (λτ h=>ag i underlying97 iH (Ee h 0 O O) (Ee h 1 O O) O d u) O XY ?_;first|refine D2 O O X0 ?_|refine D1 O ?_
  refine Ds [] O (λτ h=>tM (b:=1000000000) (Ee h 0 O O) (Ee h 1 O O) XX) O XY<|Dr 2 O<|Ds [] O (λτ h=>aa call280 j (h.aE O)) O XY<|Ds [] O (λτ h=>tG (Ee h 0 O O) (Ee h 1 O O) XX) O XY<|D1 O<|Ds [] O (λτ h=>tG (Ee h 0 O O) (Ee h 1 O O) XX) O XY<|D1 O ?_;refine⟨XY,?_⟩;exact Z3 O<|Rs O (pY (b:=1000000000) O O XX)<|A1 O<|Rs O (rz (b:=1000000000) O O XX)<|Rs O (tG (a:=1) O O XX)<|Rs O (aj i underlying97 iH O O O O XX)<|Y2 O<|Z2 O<|⟨(i+1,o.set i ((x+1000000000-y-c)%1000000000),1-(x+1000000000-y-c)/1000000000),TO (aS O) ⟨ah (λc=>UF (Ob.cells 262 c)) (by rw[Uv,jN]),X5⟩ O O,⟨⟨X4,by simp only[Ut];exact hol⟩,⟨hok.q9 _ _,X4⟩,q⟩,X4⟩
 refine Gx O ?_;obtain rfl:i=n:=XX;have L:val o=a-b:=Ru hol hok s (by have B:=he;rw[eD (ae a) (Vl hn.symm),eD (ae b) D,aI,aI]at B;exact B);have A:=cT o (hol.trans hn) XX hok L;exact TN (TR 0 O O)<|Z1 O<|Rs O (aa call222 A O)<|A1 O<|Gt O<|⟨_,_,O,O,O⟩
end
section
theorem w6(d:x<1000000000)(j:y<1000000000):x*y<=999999998000000001:=
 AI (Va (show x<=999999999 by omega) (show y<=999999999 by omega)) XZ
theorem QI{o:List Nat}{V m c:Nat}{i:Nat}(d:i+m<o.length)(j:lim o (i+m)=0)(h:val o+1000000000^(i+m)*c=V*b+1000000000^i*(x*b)):val (o.set (i+m) c)=(V+1000000000^i*x)*b:=by
 have e:=EZ (x:=c) d;rw[<-dZ d,j,Xz,Wf]at e;rw[e,h,XT,Vm]
theorem Fa(a b:Nat)(ha:(ae a).length<=1000000)(hb:(ae b).length<=1000000):FnP prog 224 [bU a,bU b] (· =bU (a*b)):=by
 refine FnP.of func224 O ntmps224 X2 λ_ _ _ _=>?_
 obtain⟨la,hla⟩:∃n:Nat,n=(ae a).length:=⟨_,O⟩;obtain⟨lb,hlb⟩:∃n:Nat,n=(ae b).length:=⟨_,O⟩;refine Z1 O<|Gr O<|Ar 7 O<|Z3 O<|Gz O (st:=λX6:Nat×List Nat=>([(1,UG),(5,UG),(18,UG),(19,UG),(20,UF (pIi X6.1))],[(0,UF (.cells 262 (cz X6.2)))])) 1
  (I:=λX6=>(X6.1<=la/\X6.2.length=la+lb)/\Lok X6.2/\val X6.2=sm (lim (ae a)) X6.1*b/\∀j,X6.1+lb<=j->lim X6.2 j=0) (μ:=λX6=>la-X6.1) (x0:=(0,List.replicate ((ae a).length+(ae b).length) 0)) (TO (aS O) ⟨ah (λc=>UF (Ob.cells 262 c)) ((cH (.int .u64 0) (((ae a).length+(ae b).length)*1)).trans (by simp[cz])),X5⟩ O O) (⟨⟨aJ _,by simp[hla,hlb]⟩,Lok.replicate _,by rw[val_zero (λi=>by simp only[List.getD,Wr];split<;>rfl)];simp[sm],λj _=>by simp only[lim,List.getD,Wr];split<;>rfl⟩) ?_
 rintro⟨i,o⟩ ⟨⟨hi,hol⟩,hok,hv,hz⟩;try simp only at hi hol hok hv hz ⊢
 refine Z1 O<|Gp O (λA=>?_) (λA=>?_)
 .have hia:i<(ae a).length:=XX;have U:=dE hia;have V:=gu hia;have D:=cR (aZ a) i;have E:sm (lim (ae a)) (i+1)=sm (lim (ae a)) i+1000000000^i*lim (ae a) i:=rfl;generalize lim (ae a) i=x at*;refine TM<|Z2 O ?_;first|refine A2 O X0 ?_|refine A1 O ?_
  refine Y2 O<|Z1 O<|Z3 O<|Gz O (st:=λd:Nat×List Nat×Nat=>([(1,UG),(5,UG),(6,UG),(7,UG),(8,UF (.pv (.int .u64 (d.2.2:Int)))),(18,UG),(19,UG),(20,UG),(25,UG),(26,UG),(27,UF (pIi d.1))],[(0,UF (.cells 262 (cz d.2.1)))])) 1
   (I:=λd=>(d.1<=lb/\d.2.1.length=la+lb)/\(Lok d.2.1/\d.2.2<1000000000)/\val d.2.1+1000000000^(i+d.1)*d.2.2=sm (lim (ae a)) i*b+1000000000^i*(x*sm (lim (ae b)) d.1)/\∀j,i+lb<=j->lim d.2.1 j=0) (μ:=λd=>lb-d.1) (x0:=(0,o,0)) (TO (aS O) (aO O) O O) (⟨⟨aJ _,hol⟩,⟨hok,Nat.zero_lt_succ 999999999⟩,by rw[hv];simp[sm],hz⟩) ?_
  rintro⟨k,o2,c⟩ ⟨⟨hk,hol2⟩,⟨hok2,hc⟩,he,hz2⟩;try simp only at hk hol2 hok2 hc he hz2 ⊢
  refine Z1 O<|Gp O (λB=>?_) (λB=>?_)
  .have hkb:k<(ae b).length:=XX;have W:=dE hkb;have X:=gu hkb;have G:=cR (aZ b) k;have q:i+k<o2.length:=XX;have H:=dE q;have r:=A5 (y:=lim (ae b) k) q he;have J:sm (lim (ae b)) (k+1)=sm (lim (ae b)) k+1000000000^k*lim (ae b) k:=rfl;rw[<-J]at r;have Y:=cR hok2 (i+k);have L:=eh o2;generalize lim (ae b) k=y at*;generalize lim o2 (i+k)=u at*;have Z:=w6 D G;refine TM<|Z2 O ?_;first|refine A2 O X0 ?_|refine A1 O ?_
   refine Y2 O<|Z4 O<|Rs O (aj (i+k) underlying97 iH O O O O XX) ?_;first|refine A2 O X0 ?_|refine A1 O ?_
   exact Ar 7 O<|Gr O<|Ar 5 O<|Rs O (pY (b:=1000000000) O O XX)<|A1 O<|Rs O (rz (b:=1000000000) O O XX)<|Rs O (aj (i+k) underlying97 iH O O O O XX)<|Y2 O<|Z2 O<|⟨(k+1,o2.set (i+k) ((u+x*y+c)%1000000000),(u+x*y+c)/1000000000),TO (aS O) ⟨ah (λc=>UF (Ob.cells 262 c)) (by rw[Uv,jN]),X5⟩ O O,⟨⟨X4,by simp only[Ut];exact hol2⟩,⟨hok2.q9 _ _,X4⟩,r,λj hj=>by rw[jm q,pF XX];exact hz2 j hj⟩,X4⟩
  refine Gx O ?_;obtain rfl:k=lb:=XX;have q:i+k<o2.length:=XX;have s:=hz2 (i+k) (tJ _);have H:(cz o2)[(i+k)*1]? =UF (.int .u64 ((0:Nat):Int)):=by rw[dE q,s]
  have L:=eh o2;rw[eD (ae b) (Vl hlb.symm),aI]at he;have z:=QI q s he;have ab:(ae b).length=k:=hlb.symm;refine Gr O<|Ar 5 O<|Rs O (aj (i+k) underlying97 iH O O O XX XX) ?_;first|refine A2 O X0 ?_|refine A1 O ?_
  exact A1 O<|Rs O (XJ.cast (v':=.pv (.int .u64 (c:Int))) (tM (a:=0) O O XX) (by rw[UQ]))<|Rs O (aj (i+k) underlying97 iH O O O XX XX)<|A1 O<|Z2 O<|⟨(i+1,o2.set (i+k) c),TO (aS O) ⟨ah (λc=>UF (Ob.cells 262 c)) (by rw[Uv,jN]),X5⟩ O O,⟨⟨X4,by simp only[Ut];exact hol2⟩,hok2.set hc,by rw[E];exact z,λj hj=>by simp only at hj ⊢; rw[jm q,pF XX];exact hz2 j XX⟩,X4⟩
 refine Gx O ?_;obtain rfl:i=la:=XX;have M:val o=a*b:=by rw[hv,eD (ae a) (Vl hla.symm),aI]
 have T:=cT o (show o.length=(ae a).length+(ae b).length by omega) XX hok M;exact TN (TR 0 O O)<|Z1 O<|Rs O (aa call222 T O)<|A1 O<|Gt O<|⟨_,_,O,O,O⟩
theorem Ax(a d:Nat)(U:(ae a).length<=1000000)(z:0<d)(T:d<1000000000):FnP prog 309 [bU a,.int .u64 (d:Int)] (· = .tup [bU (a/d),.int .u64 ((a%d:Nat):Int)]):=by
 refine FnP.of func309 O ntmps309 X2 λ_ _ _ _=>?_
 obtain⟨n,hn⟩:∃n:Nat,n=(ae a).length:=⟨_,O⟩;refine Z2 O<|Z4 O<|Z1 O<|Z4 O<|Gl O (st:=λX6:Nat×List Nat×Nat=>mkS [(0,.pv (bU a)),(1,.pv (.int .u64 (d:Int))),(6,.osl 0 1 (ae a).length),(7,.pv (.int .u64 (X6.2.2:Int))),(8,pIi ((X6.1:Int)-1))] [(0,.cells 262 (cz X6.2.1))] 1)
  (I:=λX6=>(X6.1<=n/\X6.2.1.length=n)/\(Lok X6.2.1/\X6.2.2<d)/\val ((ae a).drop X6.1)=d*val (X6.2.1.drop X6.1)+X6.2.2) (μ:=λX6=>X6.1) (x0:=((ae a).length,List.replicate (ae a).length 0,0)) (TO (aS O) ⟨ah (λc=>UF (Ob.cells 262 c)) ((cH (.int .u64 0) ((ae a).length*1)).trans (by simp[cz])),X5⟩ O O) (⟨⟨Vl hn.symm,by simp[hn]⟩,⟨Lok.replicate _,z⟩,by simp only;rw[Vf (tJ _),Vf X2];simp[val]⟩) ?_
 rintro⟨i,o,r⟩ ⟨⟨hi,hol⟩,⟨hok,hr⟩,he⟩;try simp only at hi hol hok hr he ⊢
 refine Z2 O<|Gp O (λu=>?_) (λu=>?_)
 .have hia:i-1<(ae a).length:=XX;have H:=dE hia;have A:=gu hia;have B:=cR (aZ a) (i-1);have J:i-1<o.length:=XX;have D:=Er (q:=o) (r:=r) hia XX z (by rw[show i-1+1=i by omega];exact he);have L:=eh o;generalize lim (ae a) (i-1)=x at*;have j:=Jq z hr B;refine TM<|Z1 O<|Rs O (rH (b:=1000000000) O O XX)<|Y2 O<|Rs O (ag (i-1) underlying97 iH O O XX hia A) ?_;first|refine A2 O X0 ?_|refine A1 O ?_
  refine Y2 O<|UB 11 O<|Dr 8 O<|Ds [_] O (λτ h=>aj (i-1) underlying97 iH (Ee h 0 O O) (Eo h 0 O O) (Ee h 1 O O) XX XX) O XY<|Dr 2 O ?_;refine⟨XY,?_⟩;exact Z3 O<|⟨(i-1,o.set (i-1) ((r*1000000000+x)/d),(r*1000000000+x)%d),TO ⟨O,O,O,O,ah (λi:Int=>V.pv (PV.int .i64 i)) (show(i:Int)-1-1=((i-1:Nat):Int)-1 by omega),X5⟩ ⟨ah (λc=>UF (Ob.cells 262 c)) (by rw[Uv,jN]),X5⟩ O O,⟨⟨X4,by simp only[Ut];exact hol⟩,⟨hok.set j.1,j.2⟩,D⟩,X4⟩
 refine Gx O ?_;obtain rfl:i=0:=XX;have s:a=d*val o+r:=by simpa[aI]using he
 have M:val o=a/d:=by rw[s,Nat.mul_add_div z,WU hr,Wf]
 have E:r=a%d:=by rw[s,Nat.mul_add_mod,Wx hr]
 have G:=cT o (hol.trans hn) XX hok M;exact TN (TR 0 O O)<|Z1 O<|Rs O (aa call222 G O)<|Y3 O<|Gt O<|⟨_,_,O,O,by rw[<-E];rfl⟩
theorem ml(n i:Nat):lim (ae n) i=n/1000000000^i%1000000000:=by
 induction i generalizing n with
 | zero=>
   by_cases h:n=0
   .subst h;rw[aX];rfl
   rw[c8 h];simp[lim]
 | succ i ih=>
   by_cases h:n=0
   .subst h;rw[aX];simp[lim]
   rw[c8 h,Vc,U8,<-Nat.div_div_eq_div_mul,<-ih];simp[lim]
theorem fH(a:Nat)(z:a<1000000000000000000):FnP prog 291 [bU a] (· = .int .u64 (a:Int)):=by
 refine FnP.of func291 O ntmps291 X2 λ_ _ _ _=>?_
 have j:(ae a).length<=2:=aY.2 z;have q:=od (ae a) 1 XX;have r:=od (ae a) 0 XX;have s:=ml a 1;have u:=ml a 0;rw[Nat.pow_one]at s;rw[Nat.pow_zero,Nat.div_one]at u;generalize lim (ae a) 1=x at*;generalize lim (ae a) 0=y at*;have d:x*1000000000+y=a:=XX;exact Z1 O<|Z1 O<|Rs O (aa call280 q O)<|Rs O (rH (b:=1000000000) O O XX)<|A1 O<|Rs O (aa call280 r O)<|Y2 O<|Gt O<|⟨_,_,O,O,by rw[<-d];rfl⟩
end
section
def Gw(a b:Nat):Prop:=FnP prog 279 [bU a,bU b] (· = .tup [bU (a/b),bU (a%b)])
theorem wF:bU 0= .sl UG 0 []:=by rw[bU,aX];rfl
theorem val_one(a:Nat):val [a]=a:=by simp[val]
theorem Lok.one(h:a<1000000000):Lok [a]:=λb hb=>by simp at hb;omega
theorem Hj(a b:Nat)(G:(ae a).length<=1000000)(D:0<b)(r:b<1000000000):Gw a b:=by
 unfold Gw;refine FnP.fg2 (FnP.of func279 O ntmps279 X2 λ_ _ _ _=>?_);have q:ae b=[b]:=eJ XX r;have u:(ae b).length=1:=by rw[q];rfl
 have E:(cz (ae b))[0*1]? =UF (.int .u64 (b:Int)):=by rw[q];rfl
 have z:cz (ae b)≠[]:=by rw[q];simp[cz]
 have A:a%b<1000000000:=Xp (Vi _ D) r;have B:=cT (n:=1) [a%b] O XX (Lok.one A) (val_one _);refine Z2 O<|Z2 O<|Rs O (aa call229 (oW a b XX XX) O)<|A1 O<|Gp O (λd=>?_) (λd=>?_)
 .refine Z3 O<|Gt O ?_;have s:a<b:=by unfold yw at d;split at d;assumption;split at d<;>omega
  exact⟨_,_,O,O,by rw[WU s,Wx s,wF];rfl⟩
 refine TM<|Z3 O ?_;refine Gc O (λj=>?_) (λj=>absurd j (by rw[u];simp));refine Z2 O<|Rs O (ag 0 underlying97 iH O O O XX z) ?_;first|refine A2 O X0 ?_|refine A1 O ?_
 exact Rs O (aa call309 (Ax a b G D r) O)<|Ar 5 O<|Z2 O<|Rs O (ax UG X2 ND O XZ XZ O O)<|Rs O (aa call222 B O)<|Y2 O<|Gt O<|⟨_,_,O,O,O⟩
theorem len2(h:¬2<(ae n).length):n<1000000000000000000:=aY.1 (show(ae n).length<=2 by omega)
theorem Hy(d:0<y)(h:(ae y).length<=k):(ae (x%y)).length<=k:=aY.2 (Xp (Vi _ d) (aY.1 h))
theorem nN(h:0<(ae n).length):0<n:=by grind[Ve,aX]
theorem mP(x y:Nat):Nat.gcd y (x%y)=Nat.gcd x y:=by rw[Nat.gcd_comm y,<-Nat.gcd_rec,Nat.gcd_comm]
theorem wy(h:x<1000000000000000000):Lok [x%1000000000,x/1000000000]/\val [x%1000000000,x/1000000000]=x:=by
 refine⟨λa ha=>?_,by simp[val];omega⟩;simp at ha;omega
theorem FJ(I:Nat->Nat->Prop)(L:∀x y,I x y->0<y->(2<(ae y).length\/2<(ae x).length)->(ae x).length<=1000000->(ae y).length<=1000000->Gw x y/\I y (x%y))(a b:Nat)(M:I a b)(T:(ae a).length<=1000000)(U:(ae b).length<=1000000):
  FnP prog 278 [bU a,bU b] (· =bU (Nat.gcd a b)):=by
 refine FnP.of func278 O ntmps278 X2 λ_ _ _ _=>?_
 refine Z1 O<|Gl O (st:=λX6:Nat×Nat=>mkS [(0,.pv (bU X6.1)),(1,.pv (bU X6.2))] [] 0)
  (I:=λX6=>Nat.gcd X6.1 X6.2=Nat.gcd a b/\I X6.1 X6.2/\(ae X6.1).length<=1000000/\(ae X6.2).length<=1000000) (μ:=λX6=>X6.2) (x0:=(a,b)) (TO (aS O) trivial O O) (⟨O,M,T,U⟩) ?_
 rintro⟨x,y⟩ ⟨hg,hxy,hx,hy⟩;try simp only at hg hxy hx hy ⊢
 refine Z3 O<|Gp O (λH=>?_) (λH=>?_)
 .have r:0<y:=nN XX;have E:=L x y hxy r (.inl XX) hx hy;exact TM<|Z2 O<|Rs O (aa call279 E.1 O)<|Ar 5 O<|Z4 O<|⟨(y,x%y),TO (aS O) trivial O O,⟨by rw[<-hg];exact mP x y,E.2,hy,Hy r hy⟩,Vi _ r⟩
 have hy2:=len2 (show ¬2<(ae y).length by omega);refine Gx O<|Z3 O<|Gc O (λA=>?_) (λA=>?_)
 .refine Z2 O<|Gt O ?_;have r:y=0:=bI.1 (by have:=rD A;omega);exact⟨_,_,O,O,ah bU (by rw[<-hg,r,Nat.gcd_zero_right])⟩
 have r:0<y:=nN (by have:=lq A;omega);refine TM<|Z3 O<|Gp O (λJ=>?_) (λJ=>?_)
 .have E:=L x y hxy r (.inr XX) hx hy;refine Z2 O<|Rs O (aa call279 E.1 O)<|Ar 5 O<|Z4 O ?_;have s:=hy2;have z:x%y<1000000000000000000:=Xp (Vi _ r) hy2;have B:Nat.gcd y (x%y)=Nat.gcd a b:=by rw[<-hg];exact mP x y
  clear hg hxy E;generalize x%y=q at*;obtain⟨p,rfl⟩:∃p,p=y:=⟨y,O⟩;refine Z1 O<|Rs O (aa call291 (fH p s) O)<|A1 O<|Rs O (aa call291 (fH q z) O)<|Y2 O<|Gl O (st:=λd:Nat×Nat=>mkS [(9,.pv (.int .u64 (d.1:Int))),(10,.pv (.int .u64 (d.2:Int)))] [] 0)
   (I:=λd=>Nat.gcd d.1 d.2=Nat.gcd a b/\d.1<1000000000000000000/\d.2<1000000000000000000) (μ:=λd=>d.2) (x0:=(p,q)) (TO (aS O) trivial O O) (⟨B,s,z⟩) ?_
  rintro⟨u,v⟩ ⟨hg2,hu,hv⟩;try simp only at hg2 hu hv ⊢
  refine Z2 O<|Gc O (λj=>?_) (λj=>?_)
  .have hv0:0<v:=by have:=C4 j;omega
   refine TM<|UB 6 O<|Dr 6 O ?_;refine⟨XY,?_⟩;exact⟨(v,u%v),TO (aS O) trivial O O,⟨by rw[<-hg2];exact mP u v,hv,Xp (Vi _ hv0) hv⟩,Vi _ hv0⟩
  have hv0:v=0:=by have:=vK j;omega
  refine Gx O ?_;have G:=wy hu;have D:=cT (n:=2) [u%1000000000,u/1000000000] O XX G.1 G.2;exact Z1 O<|Rs O (pY (b:=1000000000) O O XX)<|A1 O<|Rs O (rz (b:=1000000000) O O XX)<|Rs O (ax UG X2 ND O XZ XZ O O)<|Rs O (aa call222 D O)<|A1 O<|Gt O<|⟨_,_,O,O,ah bU (by rw[<-hg2,hv0,Nat.gcd_zero_right])⟩
 have s:=len2 (show ¬2<(ae x).length by omega);have z:=hy2;have B:=hg;clear hg hxy;obtain⟨p,rfl⟩:∃p,p=x:=⟨x,O⟩;obtain⟨q,rfl⟩:∃q,q=y:=⟨y,O⟩;refine TM<|Z1 O<|Rs O (aa call291 (fH p s) O)<|A1 O<|Rs O (aa call291 (fH q z) O)<|Y2 O<|Gl O (st:=λd:Nat×Nat=>mkS [(9,.pv (.int .u64 (d.1:Int))),(10,.pv (.int .u64 (d.2:Int)))] [] 0)
  (I:=λd=>Nat.gcd d.1 d.2=Nat.gcd a b/\d.1<1000000000000000000/\d.2<1000000000000000000) (μ:=λd=>d.2) (x0:=(p,q)) (TO (aS O) trivial O O) (⟨B,s,z⟩) ?_
 rintro⟨u,v⟩ ⟨hg2,hu,hv⟩;try simp only at hg2 hu hv ⊢
 refine Z2 O<|Gc O (λj=>?_) (λj=>?_)
 .have hv0:0<v:=by have:=C4 j;omega
  refine TM<|UB 6 O<|Dr 6 O ?_;refine⟨XY,?_⟩;exact⟨(v,u%v),TO (aS O) trivial O O,⟨by rw[<-hg2];exact mP u v,hv,Xp (Vi _ hv0) hv⟩,Vi _ hv0⟩
 have hv0:v=0:=by have:=vK j;omega
 refine Gx O ?_;have G:=wy hu;have D:=cT (n:=2) [u%1000000000,u/1000000000] O XX G.1 G.2;exact Z1 O<|Rs O (pY (b:=1000000000) O O XX)<|A1 O<|Rs O (rz (b:=1000000000) O O XX)<|Rs O (ax UG X2 ND O XZ XZ O O)<|Rs O (aa call222 D O)<|A1 O<|Gt O<|⟨_,_,O,O,ah bU (by rw[<-hg2,hv0,Nat.gcd_zero_right])⟩
def JB(x y:Nat):Prop:=y<1000000000\/(x<1000000000000000000/\y<1000000000000000000)
theorem Sj(h:JB x y)(d:0<y)(r:2<(ae y).length\/2<(ae x).length)(q:(ae x).length<=1000000):Gw x y/\JB y (x%y):=by
 have j:∀{n:Nat},2<(ae n).length->¬n<1000000000000000000:=fun{n} h e=>by
  have:=aY.2 (show n<1000000000^2 from e);omega
 rcases h with h|⟨h3,h4⟩
 .exact⟨Hj x y q d h,.inl (Xp (Vi _ d) h)⟩
 grind
end
section
abbrev RG(z:Int):List PV:=[.bool (decide (z<0)),bU z.natAbs]
abbrev fc(z:Int):PV:=.agg (RG z)
def sgn(neg:Bool)(n:Nat):Int:=if neg then-(n:Int)else n
theorem zd(neg:Bool)(n:Nat):(neg&&decide (((ae n).length:Int)>0))=decide (sgn neg n<0):=by
 have h:0<(ae n).length↔0<n:=⟨nN,λh=>WN λe=>by have:=bI.1 e;omega⟩;cases neg with
 |false=>simp[sgn]
 | true=>
   simp only[sgn,XO,WV];by_cases hn:0<n
   .grind
   grind
theorem vx(neg:Bool)(n:Nat):(sgn neg n).natAbs=n:=by cases neg<;>simp[sgn]
theorem bJ(neg:Bool)(n:Nat):FnP prog 221 [.bool neg,bU n] (· =fc (sgn neg n)):=by
 refine FnP.ofC func221 O ntmps221 X2 λ_ _ _ _=>?_
 refine Z1 O<|Z2 O ?_;apply TY 4 6 10 [7,8,9] O X8
 .intro hb1;exact Ar 4 O<|TQ X7 O O O
 .intro hb1;exact Ar 4 O<|TQ X7 O O O
 exact Y3 O<|Gt O<|⟨_,_,O,O,⟨au ⟨_,underlying99,O⟩ yA O O O,X5⟩,by rw[fc,RG,<-zd,vx];rfl⟩
theorem n4(z:Int):FnP prog 205 [fc z] (· = .int .i64 z.sign):=by
 refine FnP.of func205 O ntmps205 X2 λ_ _ _ _=>?_
 refine Z2 O<|Z3 O<|Gc O (λd=>?_) (λd=>?_)
 .exact Z1 O<|Gt O<|⟨_,_,O,O,ah (PV.int .i64) (by rw[Int.sign_eq_neg_one_of_neg (by simpa using d)])⟩
 refine Gr O<|Ar 5 O ?_;refine Gp O (λj=>?_) (λj=>?_)
 .exact Z1 O<|Gt O<|⟨_,_,O,O,ah (PV.int .i64) (by have q:=nN (n:=z.natAbs) XX;have r:¬z<0:=(by simpa using d);exact(Int.sign_eq_one_of_pos (show 0<z by omega)).symm)⟩
 exact TM<|Z1 O<|Gt O<|⟨_,_,O,O,ah (PV.int .i64) (by have q:=bI.1 (show(ae z.natAbs).length=0 by omega);rw[show z=0 by omega];rfl)⟩
theorem FQ(z:Int):FnP prog 225 [fc z] (· =fc (-z)):=by
 refine FnP.ofC func225 O ntmps225 X2 λ_ _ _ _=>?_
 have d:sgn (!decide (z<0)) z.natAbs= -z:=by
  by_cases h:z<0
  .rw[SR h];simp[sgn];omega
  rw[Up h];simp[sgn];omega
 exact Z2 O<|Gr O<|Ar 5 O<|Rs O (aa call221 (bJ _ _) O)<|A1 O<|Gt O<|⟨_,_,O,O,⟨au ⟨_,underlying99,O⟩ yA O O O,X5⟩,by rw[<-d];rfl⟩
theorem BF{x y:Int}(h:(decide (x<0)==decide (y<0))=VA):sgn (decide (x<0)) (x.natAbs+y.natAbs)=x+y:=by grind[sgn]
theorem H4{x y:Int}(h:(decide (x<0)==decide (y<0))=WA)(hc:y.natAbs<=x.natAbs):sgn (decide (x<0)) (x.natAbs-y.natAbs)=x+y:=by grind[sgn]
theorem G5{x y:Int}(h:(decide (x<0)==decide (y<0))=WA)(hc:x.natAbs<=y.natAbs):sgn (decide (y<0)) (y.natAbs-x.natAbs)=x+y:=by grind[sgn]
theorem nY:yw a b>=0↔b<=a:=by grind[yw]
theorem lH(x y:Int)(q:(ae x.natAbs).length<=1000000)(r:(ae y.natAbs).length<=1000000):FnP prog 167 [fc x,fc y] (· =fc (x+y)):=by
 refine FnP.ofC func167 O ntmps167 X2 λ_ _ _ _=>?_
 refine Z3 O<|Gr O<|Ar 6 O<|Gc O (λj=>?_) (λj=>?_)
 .have e:=BF j;refine UB 9 O<|Dr 6 O<|Ds [] O (λτ h=>aa call228 (wO x.natAbs y.natAbs q r) (h.aE O)) O XY<|Ds [] O (λτ h=>aa call221 (bJ _ _) (h.aE O)) O XY<|D1 O ?_;refine⟨XY,?_⟩;exact Gt O<|⟨_,_,O,O,⟨au ⟨_,underlying99,O⟩ yA O O O,X5⟩,by rw[<-e];rfl⟩
 have hd:=j;refine Z4 O<|Rs O (aa call229 (oW x.natAbs y.natAbs XX XX) O)<|Y2 O<|Gp O (λd=>?_) (λd=>?_)
 .have hle:=nY.1 d;have e:=H4 hd hle;refine UB 9 O<|Dr 6 O<|Ds [] O (λτ h=>aa call230 (qF x.natAbs y.natAbs q hle) (h.aE O)) O XY<|Ds [] O (λτ h=>aa call221 (bJ _ _) (h.aE O)) O XY<|D1 O ?_;refine⟨XY,?_⟩;exact Gt O<|⟨_,_,O,O,⟨au ⟨_,underlying99,O⟩ yA O O O,X5⟩,by rw[<-e];rfl⟩
 have hle:x.natAbs<=y.natAbs:=Xc (Nat.lt_of_not_le λe=>d (nY.2 e));have e:=G5 hd hle;refine TM<|UB 9 O<|Dr 6 O<|Ds [] O (λτ h=>aa call230 (qF y.natAbs x.natAbs r hle) (h.aE O)) O XY<|Ds [] O (λτ h=>aa call221 (bJ _ _) (h.aE O)) O XY<|D1 O ?_;refine⟨XY,?_⟩;exact Gt O<|⟨_,_,O,O,⟨au ⟨_,underlying99,O⟩ yA O O O,X5⟩,by rw[<-e];rfl⟩
theorem yK(x y:Int)(d:(ae x.natAbs).length<=1000000)(j:(ae y.natAbs).length<=1000000):FnP prog 277 [fc x,fc y] (· =fc (x-y)):=by
 refine FnP.ofC func277 O ntmps277 X2 λ_ _ _ _=>?_
 refine Z3 O<|UB 5 O<|Dr 2 O<|Ds [] O (λτ h=>aa call225 (FQ y) (h.aE O)) O XY<|Ds [] O (λτ h=>aa call167 (lH x (-y) d (by rw[Int.natAbs_neg];exact j)) (h.aE O)) O XY<|D1 O ?_;refine⟨XY,?_⟩;exact Gt O<|⟨_,_,O,O,⟨au ⟨_,underlying99,O⟩ yA O O O,X5⟩,by rw[Int.sub_eq_add_neg];rfl⟩
theorem iW(x y:Int)(d:(ae x.natAbs).length<=1000000)(j:(ae y.natAbs).length<=1000000):FnP prog 223 [fc x,fc y] (· = .int .i64 (x-y).sign):=by
 refine FnP.of func223 O ntmps223 X2 λ_ _ _ _=>?_
 exact Z3 O<|Z2 O<|Rs O (aa call277 (yK x y d j) O)<|Rs O (aa call205 (n4 (x-y)) O)<|A1 O<|Gt O<|⟨_,_,O,O,O⟩
theorem qA(I:Nat->Nat->Prop)(d:∀x y,I x y->0<y->(2<(ae y).length\/2<(ae x).length)->(ae x).length<=1000000->(ae y).length<=1000000->Gw x y/\I y (x%y))(x y:Int)(j:I x.natAbs y.natAbs)(q:(ae x.natAbs).length<=1000000)(r:(ae y.natAbs).length<=1000000):
  FnP prog 226 [fc x,fc y] (· =fc (Int.gcd x y:Int)):=by
 refine FnP.ofC func226 O ntmps226 X2 λ_ _ _ _=>?_
 exact Z3 O<|Z4 O<|Rs O (aa call278 (FJ I d x.natAbs y.natAbs j q r) O)<|Rs O (aa call221 (bJ WA _) O)<|A1 O<|Gt O<|⟨_,_,O,O,⟨au ⟨_,underlying99,O⟩ yA O O O,X5⟩,O⟩
end
section
theorem Py(i:Int):IntKind.u64.wrap i=i%18446744073709551616:=rfl
theorem ME{n:Int}(d: -9223372036854775808<=n)(h:n<0):IntKind.u64.wrap (-(IntKind.u64.wrap n))=((n.natAbs:Nat):Int):=by
 rw[Py,Py];omega
theorem MP{n:Int}(d:n<=9223372036854775807)(h:¬n<0):IntKind.u64.wrap n=((n.natAbs:Nat):Int):=by
 rw[Py];omega
section
variable {C:Ctx}{n:Nat}{σ:St}{dst:Option Tmp}{ty t t':TypeId}{pos:String}{after:Array Edge}{gd:Option (Nat×Bool)}{x y:Operand}
theorem QD{i:Int}(d:σ.ev n x= .pv (.int .u64 i)):XJ C n ⟨dst,.unOp .neg t x,ty,pos,after,gd⟩ σ ⟨.pv (.int .u64 (IntKind.u64.wrap (-i))),[],[]⟩:=
 .val λa w m R hw=>⟨.int .u64 (IntKind.u64.wrap (-i)),by simp[execOp,hw.int d,Op.unary,Op.intArith],by simp only[Rel,RelP]⟩
end
theorem lZ(n:Int)(r: -9223372036854775808<=n)(s:n<=9223372036854775807):FnP prog 162 [.int .i64 n] (· =fc n):=by
 refine FnP.ofC func162 O ntmps162 X2 λ_ _ _ _=>?_
 have j:Lok [n.natAbs%1000000000,n.natAbs/1000000000%1000000000,n.natAbs/1000000000/1000000000]:=λb hb=>by
  simp at hb;omega
 have q:val [n.natAbs%1000000000,n.natAbs/1000000000%1000000000,n.natAbs/1000000000/1000000000]=n.natAbs:=by simp[val];omega
 refine Z1 O<|Z1 O<|Rs O (jk underlying3 underlying262 O)<|A1 O<|Z2 O<|Gp O (λd=>?_) (λd=>?_)
 .have hu:IntKind.u64.wrap (-(IntKind.u64.wrap n))=((n.natAbs:Nat):Int):=ME r d;refine Z1 O<|Rs O (XJ.cast (v':=.pv (.int .u64 (n.natAbs:Int))) (QD O) (ah (λi=>V.pv (.int .u64 i)) hu))<|A1 O<|Gr O<|Ar 10 O<|Rs O (ax UG X2 ND O XZ XZ O O)<|Rs O (aa call222 (cT (n:=3) _ O XZ j q) O)<|Rs O (aa call221 (bJ _ _) O)<|A1 O<|Gt O ?_;have e:sgn (decide (n<0)) n.natAbs=n:=by cases h:decide (n<0)<;>simp at h<;>simp[sgn]<;>omega
  exact⟨_,_,O,O,⟨au ⟨_,underlying99,O⟩ yA O O O,X5⟩,ah fc e⟩
 have hu:IntKind.u64.wrap n=((n.natAbs:Nat):Int):=MP s d;refine TM<|Z2 O<|Rs O (XJ.cast (v':=.pv (.int .u64 (n.natAbs:Int))) nV (ah (λi=>V.pv (.int .u64 i)) hu))<|A1 O<|Rs O (XJ.cast (v':=.pv (.int .u64 (n.natAbs:Int))) nV (ah (λi=>V.pv (.int .u64 i)) hu))<|Y2 O<|Rs O (XJ.cast (v':=.pv (.int .u64 (n.natAbs:Int))) nV (ah (λi=>V.pv (.int .u64 i)) hu))<|Y2 O<|Rs O (ax UG X2 ND O XZ XZ O O)<|Rs O (aa call222 (cT (n:=3) _ O XZ j q) O)<|Rs O (aa call221 (bJ _ _) O)<|A1 O<|Gt O ?_;have e:sgn (decide (n<0)) n.natAbs=n:=by cases h:decide (n<0)<;>simp at h<;>simp[sgn]<;>omega
 exact⟨_,_,O,O,⟨au ⟨_,underlying99,O⟩ yA O O O,X5⟩,ah fc e⟩
theorem GL(x y:Int):sgn (decide (x<0) !=decide (y<0)) (x.natAbs*y.natAbs)=x*y:=by
 by_cases hx:x<0<;>by_cases hy:y<0<;>simp only[hx,hy,decide_true,decide_false,Xf,Bool.bne_true,Bool.bne_false,Bool.not_false,Bool.not_true,Bool.true_bne,Bool.false_bne,sgn,XO,Vv,XR]
 .grind
 .grind
 .grind
 grind
theorem fJ(x y:Int)(q:(ae x.natAbs).length<=1000000)(r:(ae y.natAbs).length<=1000000):FnP prog 165 [fc x,fc y] (· =fc (x*y)):=by
 refine FnP.ofC func165 O ntmps165 X2 λ_ _ _ _=>?_
 have d:=Fa x.natAbs y.natAbs q r;have j:=GL x y;refine Z3 O<|UB 12 O<|Dr 9 O<|Ds [] O (λτ h=>aa call224 d (h.aE O)) O XY<|Ds [] O (λτ h=>aa call221 (bJ _ _) (h.aE O)) O XY<|D1 O ?_;refine⟨XY,?_⟩;exact Gt O<|⟨_,_,O,O,⟨au ⟨_,underlying99,O⟩ yA O O O,X5⟩,ah fc j⟩
end
end Go.Proofs.YtameambcolibjaaGreatDoor
namespace Go.Proofs
open Go.Proofs.YtameambcolibjaaGreatDoor
open Go.Shelf
def Tryz.re:Go.Shelf.Ren:=⟨fun|156=>137|165=>206|166=>207|169=>208|240=>256|241=>257|276=>294|277=>295|n=>n,fun|31=>39|9=>9|3=>3|4=>4|0=>0|20=>20|72=>301|76=>305|70=>299|37=>231|75=>304|127=>345|164=>370|5=>5|80=>212|n=>n,fun|n=>n⟩
theorem Tryz.Fj:Go.Proofs.Lays.n156 prog Tryz.re:={
 mixed:=XY
 f156:=Tryz.func137.trans (ah UF XY)
 f165:=Tryz.func206.trans (ah UF XY)
 f166:=Tryz.func207.trans (ah UF XY)
 f169:=Tryz.func208.trans (ah UF XY)
 f240:=Tryz.func256.trans (ah UF XY)
 f241:=Tryz.func257.trans (ah UF XY)
 f276:=Tryz.func294.trans (ah UF XY)
 f277:=Tryz.func295.trans (ah UF XY)
 t0:=Tryz.underlying0
 a0:=Tryz.isAgg0
 z0:=Tryz.sizeOf0
 v0:=Tryz.zeroValue0
 t3:=Tryz.underlying3
 a3:=Tryz.isAgg3
 z3:=Tryz.sizeOf3
 v3:=Tryz.zeroValue3
 t4:=Tryz.underlying4
 a4:=Tryz.isAgg4
 z4:=Tryz.sizeOf4
 v4:=Tryz.zeroValue4
 t9:=Tryz.underlying9
 a9:=Tryz.isAgg9
 z9:=Tryz.sizeOf9
 v9:=Tryz.zeroValue9
 t20:=Tryz.underlying20
 a20:=Tryz.isAgg20
 z20:=Tryz.sizeOf20
 v20:=Tryz.zeroValue20
 t31:=Tryz.underlying39
 a31:=Tryz.isAgg39
 z31:=Tryz.sizeOf39
 v31:=Tryz.zeroValue39
 t37:=Tryz.underlying231
 a37:=Tryz.isAgg231
 z37:=Tryz.sizeOf231
 v37:=Tryz.zeroValue231
 t70:=Tryz.underlying299
 a70:=Tryz.isAgg299
 z70:=Tryz.sizeOf299
 v70:=Tryz.zeroValue299
 t72:=Tryz.underlying301
 a72:=Tryz.isAgg301
 z72:=Tryz.sizeOf301
 v72:=Tryz.zeroValue301
 t75:=Tryz.underlying304
 a75:=Tryz.isAgg304
 z75:=Tryz.sizeOf304
 v75:=Tryz.zeroValue304
 t76:=Tryz.underlying305
 a76:=Tryz.isAgg305
 z76:=Tryz.sizeOf305
 v76:=Tryz.zeroValue305
 t127:=Tryz.underlying345
 a127:=Tryz.isAgg345
 z127:=Tryz.sizeOf345
 v127:=Tryz.zeroValue345
 t164:=Tryz.underlying370
 a164:=Tryz.isAgg370
 z164:=Tryz.sizeOf370
 v164:=Tryz.zeroValue370 }
theorem Tryz.iQ:Builder.Extra prog Tryz.re:={
 sizeBuilder:=XY
 liesBuilder:=XY
 t5:=Tryz.underlying5
 a5:=Tryz.isAgg5
 z5:=Tryz.sizeOf5
 v5:=Tryz.zeroValue5
 infoByte:=XY
 cellsByte:=XY
 sizeByte:=XY
 neB5:=by decide }
open Go.RowKit in
theorem Tryz.strings_Join_none (a:Option Addr) (c:Nat) (sep:ByteArray) (w:World):
  Calls prog 137 #[.slice a 0 c,.string sep] w λe w'=>e= .returned (.string ⟨#[]⟩)/\w'=w:=Any.strings_Join_none Tryz.Fj Tryz.iQ a c sep w
open Go.RowKit in
theorem Tryz.strings_Join (bk o c:Nat) (xs:List ByteArray) (sep:ByteArray) (w:World) (d:∀ (j:Nat) x,xs[j]? =UF x->w.cell? ⟨bk,o+j,UG⟩=UF (.string x)) (s:bk<w.heap.size) (u:xs.length<=140737488355328) (q:xs.length<=c) (r:(Lib.join (xs.map (·.data.toList)) sep.data.toList).length<=140737488355328):
  Calls prog 137 #[.slice (UF ⟨bk,o,UG⟩) xs.length c,.string sep] w λe w'=>e= .returned (.string ⟨(Lib.join (xs.map (·.data.toList)) sep.data.toList).toArray⟩)/\Below w.heap.size w w':=Any.strings_Join Tryz.Fj Tryz.iQ bk o c xs sep w d s u q r
def Tryz.za:Go.Shelf.Ren:=⟨fun|103=>232|210=>283|206=>315|n=>n,fun|9=>9|4=>4|24=>326|3=>3|n=>n,fun|n=>n⟩
theorem Tryz.Qo:Go.Proofs.Lays.n103 prog Tryz.za:={
 mixed:=XY
 f103:=Tryz.func232.trans (ah UF XY)
 f206:=Tryz.func315.trans (ah UF XY)
 f210:=Tryz.func283.trans (ah UF XY)
 t3:=Tryz.underlying3
 a3:=Tryz.isAgg3
 z3:=Tryz.sizeOf3
 v3:=Tryz.zeroValue3
 t4:=Tryz.underlying4
 a4:=Tryz.isAgg4
 z4:=Tryz.sizeOf4
 v4:=Tryz.zeroValue4
 t9:=Tryz.underlying9
 a9:=Tryz.isAgg9
 z9:=Tryz.sizeOf9
 v9:=Tryz.zeroValue9
 t24:=Tryz.underlying326
 a24:=Tryz.isAgg326
 z24:=Tryz.sizeOf326
 v24:=Tryz.zeroValue326 }
open Go.RowKit in
theorem Tryz.strings_CutPrefix (s p:ByteArray) (w:World):
  Calls prog 232 #[.string s,.string p] w λe w'=>e= .returned (.tuple #[.string ⟨(Lib.trimPrefix s.data.toList p.data.toList).toArray⟩,.bool (Lib.hasPrefix s.data.toList p.data.toList)])/\w'=w:=Any.strings_CutPrefix Tryz.Qo s p w
def Tryz.zI:Go.Shelf.Ren:=⟨fun|122=>146|215=>213|n=>n,fun|3=>3|4=>4|n=>n,fun|n=>n⟩
theorem Tryz.P7:Go.Proofs.Lays.n122 prog Tryz.zI:={
 mixed:=XY
 f122:=Tryz.func146.trans (ah UF XY)
 f215:=Tryz.func213.trans (ah UF XY)
 t3:=Tryz.underlying3
 a3:=Tryz.isAgg3
 z3:=Tryz.sizeOf3
 v3:=Tryz.zeroValue3
 t4:=Tryz.underlying4
 a4:=Tryz.isAgg4
 z4:=Tryz.sizeOf4
 v4:=Tryz.zeroValue4 }
open Go.RowKit in
theorem Tryz.cmp_Compare_int (x y:Int) (w:World):
  Calls prog 146 #[.int .i64 x,.int .i64 y] w λe w'=>e= .returned (.int .i64 (Lib.compareInt x y))/\w'=w:=Any.cmp_Compare_int Tryz.P7 x y w
def Tryz.zl:Go.Shelf.Ren:=⟨fun|283=>296|n=>n,fun|3=>3|9=>9|4=>4|n=>n,fun|n=>n⟩
theorem Tryz.O3:Go.Proofs.Lays.n283 prog Tryz.zl:={
 mixed:=XY
 f283:=Tryz.func296.trans (ah UF XY)
 t3:=Tryz.underlying3
 a3:=Tryz.isAgg3
 z3:=Tryz.sizeOf3
 v3:=Tryz.zeroValue3
 t4:=Tryz.underlying4
 a4:=Tryz.isAgg4
 z4:=Tryz.sizeOf4
 v4:=Tryz.zeroValue4
 t9:=Tryz.underlying9
 a9:=Tryz.isAgg9
 z9:=Tryz.sizeOf9
 v9:=Tryz.zeroValue9 }
open Go.Lib in
theorem Tryz.internal_strconv_small (i:Nat) (h:i<100) (w:World):
  Calls prog 296 #[.int .i64 i] w λe w'=>e= .returned (.string ⟨(Lib.decDigits i).toArray⟩)/\w'=w:=Any.internal_strconv_small Tryz.O3 i h w
def Tryz.vY:Go.Shelf.Ren:=⟨fun|284=>297|129=>159|317=>333|318=>334|n=>n,fun|53=>262|3=>3|212=>401|0=>0|4=>4|46=>161|5=>5|9=>9|n=>n,fun|17=>1|n=>n⟩
theorem Tryz.KI:Go.Proofs.LaysM.n284 prog Tryz.vY:={
 mixed:=XY
 f129:=Tryz.func159.trans (ah UF XY)
 f284:=Tryz.func297.trans (ah UF XY)
 f317:=Tryz.func333.trans (ah UF XY)
 f318:=Tryz.func334.trans (ah UF XY)
 t0:=Tryz.underlying0
 a0:=Tryz.isAgg0
 z0:=Tryz.sizeOf0
 v0:=Tryz.zeroValue0
 t3:=Tryz.underlying3
 a3:=Tryz.isAgg3
 z3:=Tryz.sizeOf3
 v3:=Tryz.zeroValue3
 t4:=Tryz.underlying4
 a4:=Tryz.isAgg4
 z4:=Tryz.sizeOf4
 v4:=Tryz.zeroValue4
 t5:=Tryz.underlying5
 a5:=Tryz.isAgg5
 z5:=Tryz.sizeOf5
 v5:=Tryz.zeroValue5
 t9:=Tryz.underlying9
 a9:=Tryz.isAgg9
 z9:=Tryz.sizeOf9
 v9:=Tryz.zeroValue9
 t46:=Tryz.underlying161
 a46:=Tryz.isAgg161
 z46:=Tryz.sizeOf161
 v46:=Tryz.zeroValue161
 t53:=Tryz.underlying262
 a53:=Tryz.isAgg262
 z53:=Tryz.sizeOf262
 v53:=Tryz.zeroValue262
 t212:=Tryz.underlying401
 a212:=Tryz.isAgg401
 z212:=Tryz.sizeOf401
 v212:=Tryz.zeroValue401
 g17:=XY
 i0:=XY
 i3:=XY
 i4:=XY
 i5:=XY
 i9:=XY
 i46:=XY
 i53:=XY
 i212:=XY
 m17:=by kernel_rfl }
open Go.Lib in
theorem Tryz.internal_strconv_numDigits (u:Nat) (j:1<=u) (q:u<18446744073709551616) (w:World) (d:Lib.TabIs prog w "internal/strconv.uint64pow10" .u64 Lib.pow10Tab):
  Calls prog 297 #[.int .u64 u] w λe w'=>e= .returned (.int .i64 (Lib.nDigits u))/\w'=w:=Any.internal_strconv_numDigits Tryz.KI u j q w d
def Tryz.ze:Go.Shelf.Ren:=⟨fun|285=>298|n=>n,fun|37=>231|53=>262|3=>3|4=>4|51=>260|9=>9|5=>5|0=>0|n=>n,fun|n=>n⟩
theorem Tryz.PY:Go.Proofs.Lays.n285 prog Tryz.ze:={
 mixed:=XY
 f285:=Tryz.func298.trans (ah UF XY)
 t0:=Tryz.underlying0
 a0:=Tryz.isAgg0
 z0:=Tryz.sizeOf0
 v0:=Tryz.zeroValue0
 t3:=Tryz.underlying3
 a3:=Tryz.isAgg3
 z3:=Tryz.sizeOf3
 v3:=Tryz.zeroValue3
 t4:=Tryz.underlying4
 a4:=Tryz.isAgg4
 z4:=Tryz.sizeOf4
 v4:=Tryz.zeroValue4
 t5:=Tryz.underlying5
 a5:=Tryz.isAgg5
 z5:=Tryz.sizeOf5
 v5:=Tryz.zeroValue5
 t9:=Tryz.underlying9
 a9:=Tryz.isAgg9
 z9:=Tryz.sizeOf9
 v9:=Tryz.zeroValue9
 t37:=Tryz.underlying231
 a37:=Tryz.isAgg231
 z37:=Tryz.sizeOf231
 v37:=Tryz.zeroValue231
 t51:=Tryz.underlying260
 a51:=Tryz.isAgg260
 z51:=Tryz.sizeOf260
 v51:=Tryz.zeroValue260
 t53:=Tryz.underlying262
 a53:=Tryz.isAgg262
 z53:=Tryz.sizeOf262
 v53:=Tryz.zeroValue262 }
open Go.RowKit Go.Sort Go.Lib in
theorem Tryz.internal_strconv_formatBase10 (blk off cap:Nat) (u:Nat) (d:Array UInt8) (w:World) (r:Holds (λ(b:UInt8)=>Value.int .u8 (b.toNat:Int)) w blk off d) (s:u<10^d.size) (j:u<18446744073709551616) (q:d.size<4611686018427387904):
  Calls prog 298 #[.slice (UF ⟨blk,off,UG⟩) d.size cap,.int .u64 u] w λe w'=>
   e= .returned (.tuple #[])/\∃(n v':Nat)(dk:Array UInt8),w'=(putRow (fun(b:UInt8)=>Value.int .u8 (b.toNat:Int)) w blk off dk).drewN n/\FmtInv d.size u 0 v' dk:=Any.internal_strconv_formatBase10 Tryz.PY blk off cap u d w r s j q
def Tryz.wb:Go.Shelf.Ren:=⟨fun|14=>233|16=>284|17=>285|19=>316|20=>317|21=>318|22=>319|23=>320|24=>321|25=>343|27=>345|26=>344|28=>351|29=>353|30=>296|31=>297|32=>298|33=>299|35=>159|34=>333|36=>334|37=>335|38=>336|39=>349|40=>350|n=>n,fun|9=>9|3=>3|22=>262|24=>304|25=>328|4=>4|34=>389|5=>5|36=>161|37=>231|0=>0|39=>391|21=>21|44=>412|47=>345|50=>418|48=>416|2=>2|52=>374|55=>376|59=>401|60=>260|20=>20|61=>402|65=>420|66=>421|67=>212|n=>n,fun|0=>2|1=>3|2=>1|3=>4|4=>5|n=>n⟩
theorem Tryz.Lk:Go.Proofs.LaysPu.n14 prog Tryz.wb:={
 mixed:=XY
 f14:=Tryz.func233.trans (ah UF XY)
 f16:=Tryz.func284.trans (ah UF XY)
 f17:=Tryz.func285.trans (ah UF XY)
 f19:=Tryz.func316.trans (ah UF XY)
 f20:=Tryz.func317.trans (ah UF XY)
 f21:=Tryz.func318.trans (ah UF XY)
 f22:=Tryz.func319.trans (ah UF XY)
 f23:=Tryz.func320.trans (ah UF XY)
 f24:=Tryz.func321.trans (ah UF XY)
 f25:=Tryz.func343.trans (ah UF XY)
 f26:=Tryz.func344.trans (ah UF XY)
 f27:=Tryz.func345.trans (ah UF XY)
 f28:=Tryz.func351.trans (ah UF XY)
 f29:=Tryz.func353.trans (ah UF XY)
 f30:=Tryz.func296.trans (ah UF XY)
 f31:=Tryz.func297.trans (ah UF XY)
 f32:=Tryz.func298.trans (ah UF XY)
 f33:=Tryz.func299.trans (ah UF XY)
 f34:=Tryz.func333.trans (ah UF XY)
 f35:=Tryz.func159.trans (ah UF XY)
 f36:=Tryz.func334.trans (ah UF XY)
 f37:=Tryz.func335.trans (ah UF XY)
 f38:=Tryz.func336.trans (ah UF XY)
 f39:=Tryz.func349.trans (ah UF XY)
 f40:=Tryz.func350.trans (ah UF XY)
 t0:=Tryz.underlying0
 a0:=Tryz.isAgg0
 z0:=Tryz.sizeOf0
 v0:=Tryz.zeroValue0
 i0:=XY
 t2:=Tryz.underlying2
 a2:=Tryz.isAgg2
 z2:=Tryz.sizeOf2
 v2:=Tryz.zeroValue2
 i2:=XY
 t3:=Tryz.underlying3
 a3:=Tryz.isAgg3
 z3:=Tryz.sizeOf3
 v3:=Tryz.zeroValue3
 i3:=XY
 t4:=Tryz.underlying4
 a4:=Tryz.isAgg4
 z4:=Tryz.sizeOf4
 v4:=Tryz.zeroValue4
 i4:=XY
 t5:=Tryz.underlying5
 a5:=Tryz.isAgg5
 z5:=Tryz.sizeOf5
 v5:=Tryz.zeroValue5
 i5:=XY
 t9:=Tryz.underlying9
 a9:=Tryz.isAgg9
 z9:=Tryz.sizeOf9
 v9:=Tryz.zeroValue9
 i9:=XY
 t20:=Tryz.underlying20
 a20:=Tryz.isAgg20
 z20:=Tryz.sizeOf20
 v20:=Tryz.zeroValue20
 i20:=XY
 t21:=Tryz.underlying21
 a21:=Tryz.isAgg21
 z21:=Tryz.sizeOf21
 v21:=Tryz.zeroValue21
 i21:=XY
 t22:=Tryz.underlying262
 a22:=Tryz.isAgg262
 z22:=Tryz.sizeOf262
 v22:=Tryz.zeroValue262
 i22:=XY
 t24:=Tryz.underlying304
 a24:=Tryz.isAgg304
 z24:=Tryz.sizeOf304
 v24:=Tryz.zeroValue304
 i24:=XY
 t25:=Tryz.underlying328
 a25:=Tryz.isAgg328
 z25:=Tryz.sizeOf328
 v25:=Tryz.zeroValue328
 i25:=XY
 t34:=Tryz.underlying389
 a34:=Tryz.isAgg389
 z34:=Tryz.sizeOf389
 v34:=Tryz.zeroValue389
 i34:=XY
 c34:=XY
 t36:=Tryz.underlying161
 a36:=Tryz.isAgg161
 z36:=Tryz.sizeOf161
 v36:=Tryz.zeroValue161
 i36:=XY
 t37:=Tryz.underlying231
 a37:=Tryz.isAgg231
 z37:=Tryz.sizeOf231
 v37:=Tryz.zeroValue231
 i37:=XY
 t39:=Tryz.underlying391
 a39:=Tryz.isAgg391
 z39:=Tryz.sizeOf391
 v39:=Tryz.zeroValue391
 i39:=XY
 t44:=Tryz.underlying412
 a44:=Tryz.isAgg412
 z44:=Tryz.sizeOf412
 v44:=Tryz.zeroValue412
 i44:=XY
 t47:=Tryz.underlying345
 a47:=Tryz.isAgg345
 z47:=Tryz.sizeOf345
 v47:=Tryz.zeroValue345
 i47:=XY
 t48:=Tryz.underlying416
 a48:=Tryz.isAgg416
 z48:=Tryz.sizeOf416
 v48:=Tryz.zeroValue416
 i48:=XY
 t50:=Tryz.underlying418
 a50:=Tryz.isAgg418
 z50:=Tryz.sizeOf418
 v50:=Tryz.zeroValue418
 i50:=XY
 t52:=Tryz.underlying374
 a52:=Tryz.isAgg374
 z52:=Tryz.sizeOf374
 v52:=Tryz.zeroValue374
 i52:=XY
 t55:=Tryz.underlying376
 a55:=Tryz.isAgg376
 z55:=Tryz.sizeOf376
 v55:=Tryz.zeroValue376
 i55:=XY
 t59:=Tryz.underlying401
 a59:=Tryz.isAgg401
 z59:=Tryz.sizeOf401
 v59:=Tryz.zeroValue401
 i59:=XY
 t60:=Tryz.underlying260
 a60:=Tryz.isAgg260
 z60:=Tryz.sizeOf260
 v60:=Tryz.zeroValue260
 i60:=XY
 t61:=Tryz.underlying402
 a61:=Tryz.isAgg402
 z61:=Tryz.sizeOf402
 t65:=Tryz.underlying420
 a65:=Tryz.isAgg420
 z65:=Tryz.sizeOf420
 v65:=Tryz.zeroValue420
 i65:=XY
 t66:=Tryz.underlying421
 a66:=Tryz.isAgg421
 z66:=Tryz.sizeOf421
 v66:=Tryz.zeroValue421
 i66:=XY
 t67:=Tryz.underlying212
 a67:=Tryz.isAgg212
 z67:=Tryz.sizeOf212
 v67:=Tryz.zeroValue212
 i67:=XY
 g0:=XY
 m0:=XY
 g1:=XY
 m1:=XY
 g2:=XY
 m2:=XY
 g3:=XY
 m3:=XY
 g4:=XY
 m4:=by kernel_rfl }
open Go.RowKit in
theorem Tryz.strconv_ParseUint_10_at64_ok (s:ByteArray) (d:s.size<=9223372036854775806) (u:Nat) (h:Lib.parseUintB 64 s.data.toList= .ok u) (w:World):
  Calls prog 233 #[.string s,.int .i64 10,.int .i64 64] w λe w'=>e= .returned (.tuple #[.int .u64 u,.nilIface])/\(w'=w\/w'=Lib.bytesWorld w 5 s):=Any.strconv_ParseUint_10_at64_ok Tryz.Lk s d u h w
def Tryz.yT:Go.Shelf.Ren:=⟨fun|145=>168|220=>231|219=>282|217=>311|225=>312|224=>313|267=>314|266=>341|314=>342|n=>n,fun|9=>9|4=>4|59=>271|3=>3|5=>5|46=>161|146=>403|51=>260|n=>n,fun|1=>0|n=>n⟩
theorem Tryz.PF:Go.Proofs.Lays.n145 prog Tryz.yT:={
 mixed:=XY
 f145:=Tryz.func168.trans (ah UF XY)
 f217:=Tryz.func311.trans (ah UF XY)
 f219:=Tryz.func282.trans (ah UF XY)
 f220:=Tryz.func231.trans (ah UF XY)
 f224:=Tryz.func313.trans (ah UF XY)
 f225:=Tryz.func312.trans (ah UF XY)
 f266:=Tryz.func341.trans (ah UF XY)
 f267:=Tryz.func314.trans (ah UF XY)
 f314:=Tryz.func342.trans (ah UF XY)
 t3:=Tryz.underlying3
 a3:=Tryz.isAgg3
 z3:=Tryz.sizeOf3
 v3:=Tryz.zeroValue3
 t4:=Tryz.underlying4
 a4:=Tryz.isAgg4
 z4:=Tryz.sizeOf4
 v4:=Tryz.zeroValue4
 t5:=Tryz.underlying5
 a5:=Tryz.isAgg5
 z5:=Tryz.sizeOf5
 v5:=Tryz.zeroValue5
 t9:=Tryz.underlying9
 a9:=Tryz.isAgg9
 z9:=Tryz.sizeOf9
 v9:=Tryz.zeroValue9
 t46:=Tryz.underlying161
 a46:=Tryz.isAgg161
 z46:=Tryz.sizeOf161
 v46:=Tryz.zeroValue161
 t51:=Tryz.underlying260
 a51:=Tryz.isAgg260
 z51:=Tryz.sizeOf260
 v51:=Tryz.zeroValue260
 t59:=Tryz.underlying271
 a59:=Tryz.isAgg271
 z59:=Tryz.sizeOf271
 v59:=Tryz.zeroValue271
 t146:=Tryz.underlying403
 a146:=Tryz.isAgg403
 z146:=Tryz.sizeOf403
 v146:=Tryz.zeroValue403
 g1:=by kernel_rfl }
open Go.RowKit Go.Lib in
theorem Tryz.strings_Cut (s sep:ByteArray) (m:Int) (w:World) (d:s.size<4294967281) (j:w.cell? ⟨0,0,UG⟩=UF (.int .i64 m)):
  Calls prog 168 #[.string s,.string sep] w λe w'=>e= .returned (.tuple #[.string ⟨(Lib.cut s.data.toList sep.data.toList).1.toArray⟩,.string ⟨(Lib.cut s.data.toList sep.data.toList).2.1.toArray⟩,.bool (Lib.cut s.data.toList sep.data.toList).2.2])/\∃n,w'=w.drewN n:=Any.strings_Cut Tryz.PF s sep m w d j
def Tryz.As:Go.Shelf.Ren:=⟨fun|190=>254|125=>88|258=>293|128=>158|129=>159|302=>324|303=>325|304=>326|305=>327|306=>328|307=>329|308=>330|309=>331|310=>332|333=>346|329=>217|330=>218|334=>347|335=>348|336=>160|344=>352|n=>n,fun|31=>39|9=>9|3=>3|46=>161|0=>0|51=>260|53=>262|4=>4|183=>253|182=>252|131=>257|5=>5|218=>312|222=>316|228=>356|229=>357|n=>n,fun|n=>n⟩
theorem Tryz.FU:Go.Proofs.Lays.n190 prog Tryz.As:={
 mixed:=XY
 f125:=Tryz.func88.trans (ah UF XY)
 f128:=Tryz.func158.trans (ah UF XY)
 f129:=Tryz.func159.trans (ah UF XY)
 f190:=Tryz.func254.trans (ah UF XY)
 f258:=Tryz.func293.trans (ah UF XY)
 f302:=Tryz.func324.trans (ah UF XY)
 f303:=Tryz.func325.trans (ah UF XY)
 f304:=Tryz.func326.trans (ah UF XY)
 f305:=Tryz.func327.trans (ah UF XY)
 f306:=Tryz.func328.trans (ah UF XY)
 f307:=Tryz.func329.trans (ah UF XY)
 f308:=Tryz.func330.trans (ah UF XY)
 f309:=Tryz.func331.trans (ah UF XY)
 f310:=Tryz.func332.trans (ah UF XY)
 f329:=Tryz.func217.trans (ah UF XY)
 f330:=Tryz.func218.trans (ah UF XY)
 f333:=Tryz.func346.trans (ah UF XY)
 f334:=Tryz.func347.trans (ah UF XY)
 f335:=Tryz.func348.trans (ah UF XY)
 f336:=Tryz.func160.trans (ah UF XY)
 f344:=Tryz.func352.trans (ah UF XY)
 t0:=Tryz.underlying0
 a0:=Tryz.isAgg0
 z0:=Tryz.sizeOf0
 v0:=Tryz.zeroValue0
 t3:=Tryz.underlying3
 a3:=Tryz.isAgg3
 z3:=Tryz.sizeOf3
 v3:=Tryz.zeroValue3
 t4:=Tryz.underlying4
 a4:=Tryz.isAgg4
 z4:=Tryz.sizeOf4
 v4:=Tryz.zeroValue4
 t5:=Tryz.underlying5
 a5:=Tryz.isAgg5
 z5:=Tryz.sizeOf5
 v5:=Tryz.zeroValue5
 t9:=Tryz.underlying9
 a9:=Tryz.isAgg9
 z9:=Tryz.sizeOf9
 v9:=Tryz.zeroValue9
 t31:=Tryz.underlying39
 a31:=Tryz.isAgg39
 z31:=Tryz.sizeOf39
 v31:=Tryz.zeroValue39
 t46:=Tryz.underlying161
 a46:=Tryz.isAgg161
 z46:=Tryz.sizeOf161
 v46:=Tryz.zeroValue161
 t51:=Tryz.underlying260
 a51:=Tryz.isAgg260
 z51:=Tryz.sizeOf260
 v51:=Tryz.zeroValue260
 t53:=Tryz.underlying262
 a53:=Tryz.isAgg262
 z53:=Tryz.sizeOf262
 v53:=Tryz.zeroValue262
 t131:=Tryz.underlying257
 a131:=Tryz.isAgg257
 z131:=Tryz.sizeOf257
 v131:=Tryz.zeroValue257
 t182:=Tryz.underlying252
 a182:=Tryz.isAgg252
 z182:=Tryz.sizeOf252
 v182:=Tryz.zeroValue252
 t183:=Tryz.underlying253
 a183:=Tryz.isAgg253
 z183:=Tryz.sizeOf253
 v183:=Tryz.zeroValue253
 t218:=Tryz.underlying312
 a218:=Tryz.isAgg312
 z218:=Tryz.sizeOf312
 v218:=Tryz.zeroValue312
 t222:=Tryz.underlying316
 a222:=Tryz.isAgg316
 z222:=Tryz.sizeOf316
 v222:=Tryz.zeroValue316
 t228:=Tryz.underlying356
 a228:=Tryz.isAgg356
 z228:=Tryz.sizeOf356
 v228:=Tryz.zeroValue356
 t229:=Tryz.underlying357
 a229:=Tryz.isAgg357
 z229:=Tryz.sizeOf357
 v229:=Tryz.zeroValue357 }
open Go.Sort Go.RowKit in
theorem Tryz.slices_Sort_string (blk off cap:Nat) (ss:List (List UInt8)) (w:World) (q:Holds encStr w blk off ss.toArray) (d:blk<w.heap.size) (j:ss.length<4611686018427387904):
  Calls prog 254 #[.slice (UF ⟨blk,off,UG⟩) ss.length cap] w λe w'=>
   e= .returned (.tuple #[])/\∃n os,w'=grow (putRow encStr (Sort.ahead w n) blk off (ss.mergeSort λx y=>decide (x<=y)).toArray) os:=Any.slices_Sort_string Tryz.FU blk off cap ss w q d j
def Tryz.y7:Go.Shelf.Ren:=⟨fun|101=>290|208=>323|206=>315|n=>n,fun|9=>9|4=>4|3=>3|n=>n,fun|n=>n⟩
theorem Tryz.OH:Go.Proofs.Lays.n101 prog Tryz.y7:={
 mixed:=XY
 f101:=Tryz.func290.trans (ah UF XY)
 f206:=Tryz.func315.trans (ah UF XY)
 f208:=Tryz.func323.trans (ah UF XY)
 t3:=Tryz.underlying3
 a3:=Tryz.isAgg3
 z3:=Tryz.sizeOf3
 v3:=Tryz.zeroValue3
 t4:=Tryz.underlying4
 a4:=Tryz.isAgg4
 z4:=Tryz.sizeOf4
 v4:=Tryz.zeroValue4
 t9:=Tryz.underlying9
 a9:=Tryz.isAgg9
 z9:=Tryz.sizeOf9
 v9:=Tryz.zeroValue9 }
open Go.RowKit Go.Lib in
theorem Tryz.strings_TrimPrefix (s p:ByteArray) (w:World):
  Calls prog 290 #[.string s,.string p] w λe w'=>e= .returned (.string ⟨(Lib.trimPrefix s.data.toList p.data.toList).toArray⟩)/\w'=w:=Any.strings_TrimPrefix Tryz.OH s p w
open Go.RowKit Go.Sort in
theorem Tryz.slices_Sort_string_none (p:Option Addr) (cap:Nat) (w:World):
  Calls prog 254 #[.slice p 0 cap] w λe w'=>e= .returned (.tuple #[])/\w'=w:=Any.slices_Sort_string_none Tryz.FU p cap w
end Go.Proofs
namespace Go.Proofs.YtameambcolibjaaGreatDoor
section
theorem DS(w:World)(n:Nat):Below w.heap.size w (w.drewN n):=⟨O,O,O,tJ _,λ_ _=>rfl⟩
theorem y6(w:World)(n:Nat)(os:Array Obj):Below w.heap.size w (Go.Sort.grow (w.drewN n) os):=by
 refine⟨O,O,O,?_,λk hk=>?_⟩
 .simp_all
 show(w.heap++os)[k]? =w.heap[k]?;rw[Array.getElem?_append_left hk]
theorem Af(w:World)(e:TypeId)(s:ByteArray):Below w.heap.size w (Lib.bytesWorld w e s):=by
 refine⟨O,O,O,?_,λk hk=>Lib.bytesWorld_at_old w e s k hk⟩;rw[Lib.bytesWorld_size];omega
section
variable {P:Program}{f:FuncId}
theorem kO{w:World}{R:Nat->Prop}{s:ByteArray}{us:List Value}{ps:List PV}(h:RelPL w R (.str s::ps) us):∃vs,us= .string s::vs/\RelPL w R ps vs:=by grind[RelPL,RelP]
theorem oF{w:World}{R:Nat->Prop}{k:IntKind}{n:Int}{us:List Value}{ps:List PV}(h:RelPL w R (.int k n::ps) us):∃vs,us= .int k n::vs/\RelPL w R ps vs:=by grind[RelPL,RelP]
theorem n5{w:World}{R:Nat->Prop}{us:List Value}(h:RelPL w R [] us):us=[]:=by simpa only[RelPL]using h
end
theorem Q6{w:World}{R:Nat->Prop}(h:rN w R):Lib.TabIs prog w "internal/strconv.uint64pow10" .u64 Lib.pow10Tab:=by
 obtain⟨_,o,h1,t,fz,rfl⟩:=h (1,_) (by simp only[glb];exact Vx);have d:prog.globalNamed "internal/strconv.uint64pow10" =UF 1:=XY;simp only[Lib.TabIs,World.var?,d,Option.bind_some,h1];rfl
theorem P0{w:World}{R:Nat->Prop}(h:rN w R):∃m:Int,w.cell? ⟨0,0,UG⟩=UF (.int .i64 m):=by
 obtain⟨_,o,h1,m,t,fz,rfl⟩:=h (0,_) (by simp only[glb];exact U0 _ Vx);exact⟨m,by simp[World.cell?,h1]⟩
theorem JW(s sep:ByteArray)(d:s.size<4294967281):FnP prog 168 [.str s,.str sep] (· = .tup [.str ⟨(Lib.cut s.data.toList sep.data.toList).1.toArray⟩,.str ⟨(Lib.cut s.data.toList sep.data.toList).2.1.toArray⟩,.bool (Lib.cut s.data.toList sep.data.toList).2.2]):=by
 intro w R us hG hR hrel;obtain⟨v11,rfl,h11⟩:=kO hrel;obtain⟨v12,rfl,h12⟩:=kO h11;obtain rfl:=n5 h12;obtain⟨m,hm⟩:=P0 hG;exact(Tryz.strings_Cut s sep m w d hm).mono λe w' ⟨he,n,hw⟩=>⟨_,_,he,O,by rw[hw];exact DS w n,by simp[RelP,RelPL]⟩
theorem wH(s p:ByteArray):FnP prog 232 [.str s,.str p] (· = .tup [.str ⟨(Lib.trimPrefix s.data.toList p.data.toList).toArray⟩,.bool (Lib.hasPrefix s.data.toList p.data.toList)]):=by
 intro w R us hG hR hrel;obtain⟨v11,rfl,h11⟩:=kO hrel;obtain⟨v12,rfl,h12⟩:=kO h11;obtain rfl:=n5 h12;exact(Tryz.strings_CutPrefix s p w).mono λe w' ⟨he,hw⟩=>⟨_,_,he,O,by rw[hw];exact Below.refl _ _,by simp[RelP,RelPL]⟩
theorem vo(s p:ByteArray):FnP prog 290 [.str s,.str p] (· = .str ⟨(Lib.trimPrefix s.data.toList p.data.toList).toArray⟩):=by
 intro w R us hG hR hrel;obtain⟨v11,rfl,h11⟩:=kO hrel;obtain⟨v12,rfl,h12⟩:=kO h11;obtain rfl:=n5 h12;exact(Tryz.strings_TrimPrefix s p w).mono λe w' ⟨he,hw⟩=>⟨_,_,he,O,by rw[hw];exact Below.refl _ _,by simp only[RelP]⟩
theorem wC(s:ByteArray)(d:s.size<=9223372036854775806)(u:Nat)(j:Lib.parseUintB 64 s.data.toList= .ok u):FnP prog 233 [.str s,.int .i64 10,.int .i64 64] (· = .tup [.int .u64 (u:Int),.niliface]):=by
 intro w R us hG hR hrel;obtain⟨v11,rfl,h11⟩:=kO hrel;obtain⟨v12,rfl,h12⟩:=oF h11;obtain⟨v13,rfl,h13⟩:=oF h12;obtain rfl:=n5 h13;refine(Tryz.strconv_ParseUint_10_at64_ok s d u j w).mono λe w' ⟨he,hw⟩=>⟨_,_,he,O,?_,by simp[RelP,RelPL]⟩
 rcases hw with rfl|rfl
 .exact Below.refl _ _
 exact Af w _ s
theorem IZ(x y:Int):FnP prog 146 [.int .i64 x,.int .i64 y] (· = .int .i64 (if x<y then-1 else if y<x then 1 else 0)):=by
 intro w R us hG hR hrel;obtain⟨v11,rfl,h11⟩:=oF hrel;obtain⟨v12,rfl,h12⟩:=oF h11;obtain rfl:=n5 h12;exact(Tryz.cmp_Compare_int x y w).mono λe w' ⟨he,hw⟩=>⟨_,.int .i64 (if x<y then-1 else if y<x then 1 else 0),he,O,by rw[hw];exact Below.refl _ _,by simp only[RelP];rfl⟩
theorem Lc{w:World}{R:Nat->Prop}(l:List ByteArray):RelPL w R (ct l) (l.map Value.string):=by
 induction l with
 |nil=>exact RelPL.nil
 |cons x l ih=>exact RelPL.cons (by simp only[RelP]) ih
theorem pX{w:World}{R:Nat->Prop}:∀{l:List ByteArray}{us:List Value},RelPL w R (ct l) us->us=l.map Value.string
 |[],us,h=>by simpa[RelPL]using h
 | x::l,us,h=>by
   simp only[cd,RelPL]at h;obtain⟨u,vs,rfl,h1,h2⟩:=h;simp only[RelP]at h1;rw[h1,pX (l:=l) h2];rfl
theorem PB(xs:List ByteArray)(sep:ByteArray)(r:xs.length<=140737488355328)(d:(Lib.join (xs.map (·.data.toList)) sep.data.toList).length<=140737488355328):FnP prog 137 [bh xs,.str sep] (· = .str ⟨(Lib.join (xs.map (·.data.toList)) sep.data.toList).toArray⟩):=by
 intro w R us hG hR hrel;simp only[RelPL]at hrel;obtain⟨u0,_,rfl,k0,u1,_,rfl,k1,rfl⟩:=hrel;simp only[RelP]at k1;subst k1;simp only[bh,RelP]at k0;obtain⟨A,c,rfl,hc,_,_,_,h5⟩:=k0;by_cases hne:ct xs=[]
 .have hx:xs=[]:=by simpa using hne
  subst hx;exact(Tryz.strings_Join_none A c sep w).mono λe w' ⟨he,hw⟩=>⟨_,_,he,O,by rw[hw];exact Below.refl _ _,by simp only[RelP];rfl⟩
 obtain ⟨b,off,us,rfl,hr,hs⟩:=h5 hne;have e:us=xs.map Value.string:=pX hr;subst e;exact(Tryz.strings_Join b off c xs sep w (λj x hj=>by
  have q:j<xs.length:=(RE.1 hj).1;rw[hs.2 j (by simpa using q),Wc,hj];rfl) (hR b hs.1) r hc d).mono λe w' ⟨he,hb⟩=>⟨_,_,he,O,hb,by simp only[RelP]⟩
end
def kj(c:UInt8):Bool:=decide (48<=c.toNat)&&decide (c.toNat<=57)
def eB(l:List UInt8):Nat:=l.foldl (λa c=>a*10+(c.toNat-48)) 0
theorem wZ(l:List UInt8)(a:Nat):l.foldl (λa c=>a*10+(c.toNat-48)) a=a*10^l.length+eB l:=by
 induction l generalizing a with
 |nil=>simp[eB]
 | cons c l ih=>
   have e:eB (c::l)=(0*10+(c.toNat-48))*10^l.length+eB l:=by rw[eB,VO,ih]
   rw[VO,ih,e,IN,Vc,XT,XW,UQ,Vm,U8 10,Nat.add_assoc]
theorem yD(a b:List UInt8):eB (a++b)=eB a*10^b.length+eB b:=by
 rw[eB,W5,wZ];rfl
theorem zb{l:List UInt8}(h:∀c∈l,kj c=VA):eB l<10^l.length:=by
 suffices ∀a,l.foldl (λa c=>a*10+(c.toNat-48)) a<(a+1)*10^l.length by simpa[eB]using this 0
 induction l with
 |nil=>intro a;simp
 | cons c l ih=>
   intro a;have hc:=h c X2;simp only[kj,dO,OC]at hc;have:=ih (λd hd=>h d (by simp[hd])) (a*10+(c.toNat-48));rw[VO,IN,Vc,U8 (10^l.length),<-Vm];exact Uq this (Vk _ XX)
theorem Dd{l:List UInt8}(h:∀c∈l,kj c=VA)(a:Nat)(j:(a+1)*10^l.length<=1000000000000000000):Lib.parseUintM (2^64-1) a l= .ok (l.foldl (λa c=>a*10+(c.toNat-48)) a):=by
 induction l generalizing a with
 |nil=>rfl
 | cons c l ih=>
   have hc:=h c X2;simp only[kj,dO,OC]at hc;rw[IN,Vc,U8 (10^l.length),<-Vm]at j;have q:1<=10^l.length:=Nat.pow_pos XZ;have r:(a+1)*10*1<=(a+1)*10*10^l.length:=US _ q;have s:(a+1)*10<=1000000000000000000:=XX;rw[Lib.parseUintM,AT hc,pF XX,pF XX,VO];exact ih (λd hd=>h d (by simp[hd])) _ (AI (Vk _ XX) j)
theorem MS{l:List UInt8}(h:∀c∈l,kj c=VA)(d:l≠[])(j:l.length<=9):Lib.parseUintB 64 l= .ok (eB l):=by
 rw[Lib.parseUintB,pF d];refine Dd h 0 ?_;have:10^l.length<=10^9:=Vr XZ j;omega
def az(s:ByteArray):List UInt8:=Lib.trimPrefix s.data.toList [45]
def gp(s:ByteArray):Bool:=Lib.hasPrefix s.data.toList [45]
def rdZ(s:ByteArray):Int:=sgn (gp s) (eB (az s))
theorem read_step{D:List UInt8}{z lo k V:Nat}(q:z<=D.length)(j:lo=z-9)(h:eB D=eB (D.take z)*1000000000^k+V):
  eB D=eB (D.take lo)*1000000000^(k+1)+(V+1000000000^k*eB ((D.drop lo).take (z-lo))):=by
 have e:D.take z=D.take lo++(D.drop lo).take (z-lo):=by
  rw[<-List.take_add,show lo+(z-lo)=z by omega]
 have d:((D.drop lo).take (z-lo)).length=z-lo:=by simp;omega
 rw[e,yD,d]at h;rw[h];generalize eB ((D.drop lo).take (z-lo))=u;by_cases h9:9<=z
 .have:z-lo=9:=XX;rw[this,show(10:Nat)^9=1000000000 from O,Vc,XT,U8 u,Vm,U8 1000000000 (1000000000^k)];omega
 have:lo=0:=XX;subst this;rw[Xt];simp only[eB,List.foldl_nil,XW,UQ];rw[U8 u,WZ]
attribute [simp] eh
theorem EK(l:List Nat)(n:Nat):cz l++[.int .u64 (n:Int)]=cz (l++[n]):=by simp[cz]
def lX(D:List UInt8)(z:Nat):Nat:=eB ((D.drop (z-9)).take (z-(z-9)))
theorem Nt(D:List UInt8)(a b:Nat):((⟨D.toArray⟩:ByteArray).extract a b).data.toList=(D.drop a).take (b-a):=by
 rw[ByteArray.extract_mk]
theorem Ff{D:List UInt8}(d:∀c∈D,kj c=VA){z:Nat}(j:0<z/\z<=D.length):Lib.parseUintB 64 ((⟨D.toArray⟩:ByteArray).extract (z-9) z).data.toList= .ok (lX D z):=by
 rw[Nt];refine MS (λc hc=>d c (V8 (Xe hc))) (λe=>?_) X3;have:=ah List.length e;simp at this;omega
theorem pQ{D:List UInt8}(j:∀c∈D,kj c=VA)(z:Nat):lX D z<1000000000:=by
 have:=zb (l:=(D.drop (z-9)).take (z-(z-9))) (λc hc=>j c (V8 (Xe hc)));refine Uq this ?_;have d:((D.drop (z-9)).take (z-(z-9))).length<=9:=by simp;omega
 exact AI (Vr XZ d) XZ
section
theorem fx(s:ByteArray)(D:∀c∈az s,kj c=VA)(G:(az s).length<=1000000):FnP prog 169 [.str s] (· =fc (rdZ s)):=by
 refine FnP.ofC func169 O ntmps169 X2 λ_ _ _ _=>?_
 have j:FnP prog 232 [.str s,.str ⟨#[45]⟩] (· = .tup [.str ⟨(az s).toArray⟩,.bool (gp s)]):=wH s ⟨#[45]⟩;have q:(⟨(az s).toArray⟩:ByteArray).size=(az s).length:=by simp[ByteArray.size]
 refine Z1 O<|Z1 O<|Rs O (aa call232 j O)<|Ar 5 O<|Z1 O<|TN (TU 5 1 1 262 O O)<|Z1 O<|Rs O (XJ.cast (v':= pIi ((az s).length:Int)) (J1 underlying9 O) (ah (fun(i:Nat)=>pIi (i:Int)) q))<|A1 O ?_;refine Gz O (st:=λX6:Int×List Nat=>([(2,UG),(3,UG),(4,UG),(5,UF (.gsl 1 1 X6.2.length)),(6,UF (pIi X6.1))],[(0,UG),(1,UF (.gro 262 (cz X6.2)))])) 2
  (I:=λX6=>X6.1<=((az s).length:Int)/\ -9<X6.1/\Lok X6.2/\X6.2.length+X6.1.toNat<=(az s).length/\eB (az s)=eB ((az s).take X6.1.toNat)*1000000000^X6.2.length+val X6.2) (μ:=λX6=>X6.1.toNat) (x0:=(((az s).length:Int),[])) (TO (aS O) (aO O) O O) (⟨Int.le_refl _,XX,λ_ h=>absurd h X2,X2,by simp[val]⟩) ?_
 rintro⟨z,l⟩ ⟨hz,hz9,hok,hll,hv⟩;try simp only at hz hz9 hok hll hv ⊢
 refine Z2 O<|Gp O (λd=>?_) (λd=>?_)
 .refine TM ?_
  repeat apply TZ
  refine AW.block ?_;have E:0<z:=d;have r:(if z-9>0 then z-9 else 0)=((z.toNat-9:Nat):Int):=by split<;>omega
  have u:z=((z.toNat:Nat):Int):=XX;have A:=Ff D (z:=z.toNat) ⟨XX,XX⟩;exact Z3 O<|Rs O (XJ.cast (v':= pIi ((z.toNat-9:Nat):Int)) (Ce O O) (ah (λi=>pIi i) r))<|Rs O (XJ.cast (v':= pIi ((z.toNat:Nat):Int)) nV (ah (λi=>pIi i) u))<|A1 O<|Rs O (aa call233 (wC _ X3 _ A) O)<|Ar 5 O<|Gr O<|Ar 5 O<|Z3 O<|⟨(z-9,l++[lX (az s) z.toNat]),TP [0,3] ⟨O,O,O,by simp only[D8,Uu];rfl,O,X5⟩ ⟨O,ah (λc=>UF (Ob.gro 262 c)) (EK _ _),X5⟩ O O XZ O,⟨XX,XX,hok.append (λb hb=>by rw[IT.1 hb];exact pQ D _),by rw[D8,Uu];omega,by rw[D8,Uu,cU,val_one,show(z-9).toNat=z.toNat-9 by omega];exact read_step XX O hv⟩,XX⟩
 refine Gx O<|TN (TR 1 O O) ?_;have B:z.toNat=0:=XX;rw[B,Xt,show eB []=0 from O,XW,UQ]at hv;exact Z2 O<|Rs O (aa call222 (cT l O XX hok hv.symm) O)<|Rs O (aa call221 (bJ _ _) O)<|A1 O<|Gt O<|⟨_,_,O,O,⟨au ⟨_,underlying99,O⟩ yA O O O,X5⟩,O⟩
end
section
open Mk
theorem fS(s:ByteArray)(k:Nat)(h:k<s.size):s.data.toList.getD k 0=s[k]'h:=by
 rw[Ur,BY (by simpa using h)];rfl
def qp(c:UInt8):Bool:= !(((decide ((c.toNat:Int)>=97)&&decide ((c.toNat:Int)<=122))||(decide ((c.toNat:Int)>=48)&&decide ((c.toNat:Int)<=57)))||((c.toNat:Int)==45))
theorem yt(k:Nat)(s:0<k)(c:UInt8):qp c= !rT k c.toNat:=by
 unfold qp rT;generalize c.toNat=n;have d:decide (k≠0)=VA:=SR XX;have j:((n:Int)==45)=(n==45):=by grind
 have q:(decide ((n:Int)>=97)&&decide ((n:Int)<=122))=decide (97<=n/\n<=122):=by
  rw[UH];simp;omega
 have r:(decide ((n:Int)>=48)&&decide ((n:Int)<=57))=decide (48<=n/\n<=57):=by
  rw[UH];simp;omega
 rw[d,j,q,r];cases decide (97<=n/\n<=122)<;>cases (n==45)<;>cases decide (48<=n/\n<=57)<;>rfl
theorem Mq(s:ByteArray)(h:s.size=0\/12<s.size):fI s=WA:=by
 unfold fI;rw[uj];have:s.data.toList.length=s.size:=UR;rw[this];rcases h with h|h
 .grind
 grind
theorem PZ(n:Nat):rT 0 n=decide (97<=n/\n<=122):=by unfold rT;simp
def BV(s:ByteArray):Bool:=((((s.size:Int)==0)||decide ((s.size:Int)>12))||decide (((s.data.toList.getD 0 0).toNat:Int)<97))||decide (((s.data.toList.getD 0 0).toNat:Int)>122)
theorem OR{s:ByteArray}(h:BV s=VA):fI s=WA:=by
 unfold BV at h;simp only[UW,VK,OC]at h;by_cases hl:s.size=0\/12<s.size
 .exact Mq s hl
 refine zJ s 0 XX ?_;rw[PZ];exact Up XX
theorem Nj{s:ByteArray}(h:BV s=WA):(1<=s.size/\s.size<=12)/\rT 0 (s.data.toList.getD 0 0).toNat=VA:=by grind[BV,UK,PZ]
theorem PH{s:ByteArray}(j:rT 0 (s.data.toList.getD 0 0).toNat=VA){k:Nat}(d:k<s.size)(hc:qp (s[k]'d)=VA):fI s=WA:=by grind[fS,Ve,PZ,qp,zJ,yt]
theorem Mb{s:ByteArray}(j:rT 0 (s.data.toList.getD 0 0).toNat=VA){k:Nat}(d:k<s.size)(hc:qp (s[k]'d)=WA):rT k (s.data.toList.getD k 0).toNat=VA:=by grind[Ve,fS,yt]
theorem ow(s:ByteArray)(E:s.size<=9223372036854775807):FnP prog 170 [.str s] (· = .bool (fI s)):=by
 refine FnP.of func170 O ntmps170 X2 λ_ _ _ _=>?_
 have B:s.data.toList.length=s.size:=UR;refine Z1 O ?_;have r:((s.size:Int)==0||decide ((s.size:Int)>12))=WA->0<s.size:=λh=>by simp only[UK,VP,Vt]at h;omega
 refine Z4 O ?_;apply TX 4 7 11 [8,9,10] O X8
 .intro hb3;exact Ar 4 O<|TQ X7 O O O
 .intro hb3;exact Ar 4 O<|TQ X7 O O O
 refine A1 O ?_;apply TX 4 12 16 [13,14,15] O X8
 .intro hb8;exact Ar 4 O<|TQ X7 O O O
 .intro hb8;have z:=r hb8;exact A1 O<|Rg O (bz 0 underlying9 O O O z)<|Rg O ((aD O O O).cast (v':=.pv (.bool (decide (((s.data.toList.getD 0 0).toNat:Int)<97)))) (by rw[fS s 0 z]))<|A1 O<|TQ X7 O O O
 refine A1 O ?_;apply TX 4 17 21 [18,19,20] O X8
 .intro hb13;exact Ar 4 O<|TQ X7 O O O
 .intro hb13;have z:=r (by rw[UK]at hb13;exact hb13.1);exact A1 O<|Rg O (bz 0 underlying9 O O O z)<|Rg O ((aD O O O).cast (v':=.pv (.bool (decide (((s.data.toList.getD 0 0).toNat:Int)>122)))) (by rw[fS s 0 z]))<|A1 O<|TQ X7 O O O
 refine Gc O (λd=>?_) (λd=>?_)
 .exact Z1 O<|Gt O<|⟨_,_,O,O,ah PV.bool (OR d).symm⟩
 obtain⟨hsz2,hok0⟩:=Nj d;refine TM<|Z1 O<|Gz O (st:=λX6:Nat=>([(0,UG),(3,UF (pIi X6))],[])) 0
  (I:=λX6=>X6<=s.size/\∀j,j<X6->rT j (s.data.toList.getD j 0).toNat=VA) (μ:=λX6=>s.size-X6) (x0:=(0)) (TO (aS O) trivial O O) (⟨aJ _,λj hj=>absurd hj (VV _)⟩) ?_
 rintro k ⟨hk,hall⟩;refine Z4 O<|Gp O (λA=>?_) (λA=>?_)
 .have hlt:k<s.size:=XX;have D:=fS s k hlt;refine TM<|Z2 O<|Rs O (bz k underlying9 O O O hlt)<|Y2 O ?_;apply TY 5 32 37 [33,34,35,36] O X8
  .intro hb4;exact Y2 O<|Rg O (bz k underlying9 O O O hlt)<|Y2 O<|TQ X7 O O O
  .intro hb4;exact Ar 5 O<|TQ X7 O O O
  refine A1 O ?_;apply TX 11 38 49 [39,40,41,42,43,44,45,46,47,48] O X8
  .intro hb10;exact Ar 11 O<|TQ X7 O O O
  .intro hb10;refine Y2 O<|Rg O (bz k underlying9 O O O hlt)<|Y2 O ?_;apply TY 5 43 48 [44,45,46,47] O X8
   .intro hb15;exact Y2 O<|Rg O (bz k underlying9 O O O hlt)<|Y2 O<|TQ X7 O O O
   .intro hb15;exact Ar 5 O<|TQ X7 O O O
   exact A1 O<|TQ X7 O O O
  refine A1 O ?_;apply TX 5 50 55 [51,52,53,54] O X8
  .intro hb22;exact Ar 5 O<|TQ X7 O O O
  .intro hb22;exact Y2 O<|Rg O (bz k underlying9 O O O hlt)<|Y2 O<|TQ X7 O O O
  refine A1 O<|Gc O (λq=>?_) (λq=>?_)
  .have hc:qp (s[k]'hlt)=VA:=q;exact Z1 O<|Gt O<|⟨_,_,O,O,ah PV.bool (PH hok0 hlt hc).symm⟩
  have hc:qp (s[k]'hlt)=WA:=q;have u:=Mb hok0 hlt hc;exact TM<|Z3 O<|⟨(k+1),TO (aS O) trivial O O,⟨XX,λj hj=>by rcases Vu.1 hj with h|rfl;exact hall j h;exact u⟩,XX⟩
 exact Gx O<|Z1 O<|Gt O<|⟨_,_,O,O,ah PV.bool (by rw[AX s (λj hj=>hall j XX),SR hsz2.1,SR hsz2.2];rfl)⟩
end
section
open Mk
def o0(D:List UInt8):Bool:= !D.isEmpty&&decide (D.length<=400)&&(D.getD 0 0 !=48)&&D.all kj
def aQ(s:ByteArray):Bool:=(s.toList==(⟨#[48]⟩:ByteArray).toList)||o0 (az s)
theorem qq{s:ByteArray}(h:(s.toList==(⟨#[48]⟩:ByteArray).toList)=VA):aQ s=VA:=by rw[aQ,h];rfl
theorem lr{s:ByteArray}(h:(s.toList==(⟨#[48]⟩:ByteArray).toList)=WA):aQ s=o0 (az s):=by rw[aQ,h];rfl
def oP(x:ByteArray):Bool:=(((x.toList==(⟨#[]⟩:ByteArray).toList)||decide ((x.size:Int)>400))||((((x.data.toList.getD 0 0).toNat:Nat):Int)==48))
theorem mJ(x:ByteArray):(x.toList==(⟨#[]⟩:ByteArray).toList)=x.data.toList.isEmpty:=by
 rw[Lib.toList_data,Lib.toList_data];cases x.data.toList with
 |nil=>rfl
 |cons a l=>rfl
theorem Sc(c:UInt8):(((c.toNat:Nat):Int)==48)=(c==48):=by
 rw[UH,VK,VK];constructor
 .intro h;exact Xm.1 (show c.toNat=(48:UInt8).toNat from Int.ofNat_inj.1 h)
 .intro h;rw[h];rfl
theorem yd(D:List UInt8):oP ⟨D.toArray⟩= !(!D.isEmpty&&decide (D.length<=400)&&(D.getD 0 0 !=48)):=by
 have d:(⟨D.toArray⟩:ByteArray).size=D.length:=by simp[ByteArray.size]
 rw[oP,mJ,Sc,d];have j:decide ((D.length:Int)>400)= !decide (D.length<=400):=by
  rw[UH];simp;omega
 rw[j];show(D.isEmpty|| !decide (D.length<=400)||(D.getD 0 0==48))=_;rw[bne];cases D.isEmpty<;>cases decide (D.length<=400)<;>cases (D.getD 0 0==48)<;>rfl
theorem uL{D:List UInt8}(h:oP ⟨D.toArray⟩=VA):o0 D=WA:=by
 rw[yd]at h;rw[o0];simp only[VM]at h;rw[h];rfl
theorem tT{D:List UInt8}(h:oP ⟨D.toArray⟩=WA):o0 D=D.all kj/\0<D.length/\D.length<=400:=by
 rw[yd]at h;simp only[Bool.not_eq_false']at h;rw[o0,h];simp only[dO,OC]at h;refine⟨O,?_,h.1.2⟩;cases D with
 |nil=>simp at h
 |cons a l=>simp
def K7(c:UInt8):Bool:=decide ((c.toNat:Int)<48)||decide ((c.toNat:Int)>57)
theorem BO(c:UInt8):K7 c= !kj c:=by
 rw[K7,kj,UH];simp;omega
theorem FT{D:List UInt8}{k:Nat}(d:k<D.length)(h:K7 (D[k]'d)=VA):D.all kj=WA:=by grind[BO,WG,ak]
theorem Aj{D:List UInt8}(h:∀j,j<D.length->kj (D.getD j 0)=VA):D.all kj=VA:=by
 rw[IX];intro c hc;obtain⟨j,hj,rfl⟩:=Vz hc;have:=h j hj;rwa [Ur,BY hj]at this
theorem Am{D:List UInt8}{k:Nat}(d:k<D.length)(h:K7 (D[k]'d)=WA):kj (D.getD k 0)=VA:=by
 rw[BO]at h;rw[Ur,BY d];simpa using h
theorem vpos{x:ByteArray}(h:((x.toList==(⟨#[]⟩:ByteArray).toList)||decide ((x.size:Int)>400))=WA):0<x.size:=by
 rw[UK,mJ]at h;have d:=h.1;rw[Lib.size_eq];cases e:x.data.toList with
 |nil=>rw[e]at d;simp at d
 |cons a l=>simp
theorem eP(s:ByteArray):FnP prog 245 [.str s] (· = .bool (aQ s)):=by
 refine FnP.of func245 O ntmps245 X2 λ_ _ _ _=>?_
 have B:FnP prog 290 [.str s,.str ⟨#[45]⟩] (· = .str ⟨(az s).toArray⟩):=vo s ⟨#[45]⟩;refine Z1 O<|Z2 O<|Gc O (λr=>?_) (λr=>?_)
 .exact Z1 O<|Gt O<|⟨_,_,O,O,ah PV.bool (qq r).symm⟩
 have hs:aQ s=o0 (az s):=lr r;clear r;generalize az s=D at*;have E:=@uL D;have G:=@tT D;have L:(⟨D.toArray⟩:ByteArray).data.toList=D:=rfl;have M:(⟨D.toArray⟩:ByteArray).size=D.length:=by simp[ByteArray.size]
 refine TM<|Z1 O<|Rs O (aa call290 B O)<|A1 O<|Z3 O ?_;apply TX 4 12 16 [13,14,15] O X8
 .intro hb2;exact Ar 4 O<|TQ X7 O O O
 .intro hb2;exact Ar 4 O<|TQ X7 O O O
 refine A1 O ?_;apply TX 4 17 21 [18,19,20] O X8
 .intro hb7;exact Ar 4 O<|TQ X7 O O O
 .intro hb7;have J:=vpos hb7;exact A1 O<|Rg O (bz 0 underlying9 O O O J)<|Rg O ((aD O O O).cast (v':=.pv (.bool ((((((⟨D.toArray⟩:ByteArray).data.toList.getD 0 0).toNat:Nat):Int)==48)))) (by rw[fS _ 0 J]))<|A1 O<|TQ X7 O O O
 refine Gc O (λd=>?_) (λd=>?_)
 .have H:oP ⟨D.toArray⟩=VA:=d;exact Z1 O<|Gt O<|⟨_,_,O,O,ah PV.bool (hs.trans (E H)).symm⟩
 obtain⟨hg2,hD0,hD4⟩:=G (show oP ⟨D.toArray⟩=WA from d);refine TM<|Z4 O<|Gz O (st:=λX6:Nat=>([(23,UG),(24,UG),(25,UF (pIi X6))],[])) 0
  (I:=λX6=>X6<=D.length/\∀j,j<X6->kj (D.getD j 0)=VA) (μ:=λX6=>D.length-X6) (x0:=(0)) (TO (aS O) trivial O O) (⟨aJ _,λj hj=>absurd hj (VV _)⟩) ?_
 rintro k ⟨hk,hall⟩;refine Z1 O<|Gp O (λA=>?_) (λA=>?_)
 .have hlt:k<D.length:=XX;have H:=qK hlt;have T:=pP hlt;have u:=FT hlt;have z:=Am hlt;refine TM ?_
  repeat apply TZ
  refine AW.block ?_;generalize D[k]=c at u z H ⊢;refine Z1 O ?_;first|refine A2 O X0 ?_|refine A1 O ?_
  refine A1 O<|Z3 O ?_;apply TX 3 31 34 [32,33] O X8
  .intro hb2;exact Y3 O<|TQ X7 O O O
  .intro hb2;exact Y3 O<|TQ X7 O O O
  refine Gc O (λq=>?_) (λq=>?_)
  .have hc:=u q;exact Z1 O<|Gt O<|⟨_,_,O,O,ah PV.bool (by rw[hs,hg2,hc])⟩
  have hc:=z q;exact TM<|Z2 O<|⟨(k+1),TO (aS O) trivial O O,⟨XX,λj hj=>by rcases Vu.1 hj with h|rfl;exact hall j h;exact hc⟩,XX⟩
 exact Gx O<|Z1 O<|Gt O<|⟨_,_,O,O,ah PV.bool (by rw[hs,hg2,Aj λj hj=>hall j XX])⟩
theorem bK{s:ByteArray}(h:aQ s=VA):(∀c∈az s,kj c=VA)/\(az s).length<=400:=by
 rw[aQ,UW]at h;rcases h with h|h
 .rw[Lib.toList_data,Lib.toList_data,VK]at h;have e:az s=[48]:=by rw[az,h];rfl
  rw[e];exact⟨λc hc=>by rw[IT.1 hc];rfl,XZ⟩
 simp only[o0,dO,OC,IX]at h;exact⟨h.2,h.1.1.2⟩
theorem P9(s:ByteArray):(rdZ s).natAbs=eB (az s):=vx _ _
theorem Ql{n k:Nat}(h:n<=9*k):10^n<=1000000000^k:=by
 rw[show(1000000000:Nat)=10^9 from O,<-Nat.pow_mul];exact Vr XZ h
theorem cA{a b:Nat}(h:a<=b):(ae a).length<=(ae b).length:=aY.2 (Xa h (aY.1 (tJ _)))
theorem og{s:ByteArray}(h:aQ s=VA):(ae (rdZ s).natAbs).length<=400:=by
 obtain⟨h1,h2⟩:=bK h;rw[P9];obtain⟨k,hk⟩:∃k,k=400:=⟨_,O⟩;rw[<-hk]at h2 ⊢;exact aY.2 (Uq (zb h1) (Ql XX))
theorem oC(s:ByteArray)(h:aQ s=VA):FnP prog 249 [.str s] (· =fc (rdZ s)):=by
 refine FnP.ofC func249 O ntmps249 X2 λ_ _ _ _=>?_
 have d:=bK h;exact Z1 O<|Z1 O<|Rs O (aa call169 (fx s d.1 XX) O)<|A1 O<|Gt O<|⟨_,_,O,O,⟨au ⟨_,underlying99,O⟩ yA O O O,X5⟩,O⟩
theorem IB(a b:ByteArray)(u:aQ a=VA)(z:aQ b=VA):FnP prog 246 [.str a,.str b] (· = .int .i64 (rdZ a-rdZ b).sign):=by
 refine FnP.of func246 O ntmps246 X2 λ_ _ _ _=>?_
 have j:=eP a;have q:=eP b;have A:=og u;have B:=og z;have r:=oC a u;have s:=oC b z;rw[u]at j;rw[z]at q;refine Z1 O<|Z1 O<|Rs O (aa call245 j O)<|Y2 O ?_;apply TX 4 8 12 [9,10,11] O X8
 .intro hb3;exact Ar 4 O<|TQ X7 O O O
 .intro hb3;exact A1 O<|Rg O (aa call245 q O)<|Y2 O<|TQ X7 O O O
 refine Gc O (λd=>absurd d X2) (λd=>?_);exact TM<|Z1 O<|Rs O (aa call249 r O)<|A1 O<|Rs O (aa call249 s O)<|Rs O (aa call223 (iW _ _ XX XX) O)<|A1 O<|Gt O<|⟨_,_,O,O,O⟩
def PO(x y:Int):Prop:=FnP prog 226 [fc x,fc y] (· =fc (Int.gcd x y:Int))
def gq(s:ByteArray):ByteArray:=⟨(Lib.cut s.data.toList [47]).1.toArray⟩
def jv(s:ByteArray):ByteArray:=⟨(Lib.cut s.data.toList [47]).2.1.toArray⟩
def bF(s:ByteArray):Bool:=(Lib.cut s.data.toList [47]).2.2
def yv:ByteArray:=⟨#[49]⟩
def uP:ByteArray:=⟨#[48]⟩
def Mg(s:ByteArray):Bool:=((gq s).toList==uP.toList)|| !aQ (jv s)||decide (rdZ (jv s)<=1)
def dA(s:ByteArray):Bool:=if(!aQ (gq s)|| !bF s)=VA then !bF s&&aQ (gq s)else !Mg s&&decide (Int.gcd (rdZ (gq s)) (rdZ (jv s))=1)
theorem vu:rdZ yv=1:=XZ
theorem iz:aQ yv=VA:=by rw[aQ,UW];exact .inr XZ
theorem Rn(a:Int):decide ((a-1).sign<=0)=decide (a<=1):=by grind
theorem sign_eq(a:Int):((a-1).sign==0)=decide (a=1):=by grind
theorem lF(s:ByteArray)(T:s.size<4294967281)(U:aQ (gq s)=VA->Mg s=WA->PO (rdZ (gq s)) (rdZ (jv s))):FnP prog 183 [.str s] (· = .bool (dA s)):=by
 refine FnP.of func183 O ntmps183 X2 λ_ _ _ _=>?_
 have u:FnP prog 168 [.str s,.str ⟨#[47]⟩] (· = .tup [.str (gq s),.str (jv s),.bool (bF s)]):=JW s ⟨#[47]⟩ T;have z:=dA.eq_1 s;have I:=Mg.eq_1 s;generalize dA s=v at*;generalize Mg s=bad at*;generalize gq s=nu at*;generalize jv s=de at*;generalize bF s=ok at*;have A:=eP nu;have B:=eP de;refine Z1 O<|Z1 O<|Rs O (aa call168 u O)<|Ar 7 O<|Z1 O<|Rs O (aa call245 A O)<|Y2 O ?_;apply TX 3 15 18 [16,17] O X8
 .intro hb3;exact Y3 O<|TQ X7 O O O
 .intro hb3;exact Y3 O<|TQ X7 O O O
 refine Gc O (λj=>?_) (λj=>?_)
 .rw[AT j]at z;refine Z3 O ?_;apply TY 3 21 24 [22,23] O X8
  .intro hb2;exact A1 O<|Rg O (aa call245 A O)<|A1 O<|TQ X7 O O O
  .intro hb2;exact Y3 O<|TQ X7 O O O
  exact A1 O<|Gt O<|⟨_,_,O,O,ah PV.bool z.symm⟩
 rw[pF (by simpa using j)]at z;have r:aQ nu=VA:=by simp only[UK]at j;simpa using j.1
 refine TM<|Z3 O ?_;apply TX 4 27 31 [28,29,30] O X8
 .intro hb2;exact Ar 4 O<|TQ X7 O O O
 .intro hb2;exact A1 O<|Rg O (aa call245 B O)<|Y2 O<|TQ X7 O O O
 refine A1 O ?_;apply TX 4 32 36 [33,34,35] O X8
 .intro hb7;exact Ar 4 O<|TQ X7 O O O
 .intro hb7;have q:aQ de=VA:=by simp only[UK]at hb7;simpa using hb7.2
  exact A1 O<|Rg O (aa call246 (IB de yv q iz) O)<|Rg O ((aD O O O).cast (v':=.pv (.bool (decide (rdZ de<=1)))) (ah (λb=>V.pv (.bool b)) (by rw[vu,Rn])))<|A1 O<|TQ X7 O O O
 refine Gc O (λd=>?_) (λd=>?_)
 .have hbt:bad=VA:=I.trans d;exact Z1 O<|Gt O<|⟨_,_,O,O,ah PV.bool (by rw[z,hbt];rfl)⟩
 have hbt:bad=WA:=I.trans d;have D:=U r hbt;refine TM ?_;have q:aQ de=VA:=by simp only[UK]at d;simpa using d.1.2
 have J:=og r;have L:=og q;have E:=fx nu (bK r).1 (by have:=(bK r).2;omega);have G:=fx de (bK q).1 (by have:=(bK q).2;omega);have M:1<rdZ de:=by simp only[UK,Vt]at d;omega
 have H:(ae (Int.gcd (rdZ nu) (rdZ de):Int).natAbs).length<=1000000:=by rw[Uz];exact AI (cA (Nat.le_of_dvd XX (Nat.gcd_dvd_right _ _))) XX
 exact Z1 O<|Rs O (aa call169 E O)<|A1 O<|Rs O (aa call169 G O)<|Rs O (aa call226 D O)<|Rs O (aa call162 (lZ 1 XZ XZ) O)<|Rs O (aa call223 (iW _ _ H (by rw[eJ XZ XZ];decide)) O)<|Y2 O<|Gt O<|⟨_,_,O,O,ah PV.bool (by rw[z,hbt,sign_eq];simp;omega)⟩
end
section
def gF(l:List Nat):List PV:=l.map fun(n:Nat)=>PV.int .i64 (n:Int)
abbrev pli(l:List Nat):PV:=.sl UG l.length (gF l)
abbrev bigC(z:Int):List PV:=[.bool (decide (z<0)),pli (ae z.natAbs)]
abbrev lJ(z:Int):PV:=.agg (bigC z)
theorem uM(l:List Nat):(gF l).length=l.length:=by simp[gF]
theorem cC{l:List Nat}{k:Nat}(h:k<l.length):(gF l)[k*1]? =UF (.int .i64 (lim l k:Int)):=by rw[dZ h];simp[gF,h]
theorem dh{l:List Nat}{k:Nat}(h:k<l.length):gF l≠[]:=λe=>by have:=uM l;rw[e]at this;simp at this;omega
theorem JH(l:List Nat)(k:Nat):(gF l).take k=gF (l.take k):=by simp[gF,List.map_take]
theorem gK(l:List Nat)(k x:Nat):(gF l).set k (.int .i64 (x:Int))=gF (l.set k x):=by simp[gF,U9]
theorem limI_snoc(l:List Nat)(n:Nat):gF l++[.int .i64 (n:Int)]=gF (l++[n]):=by simp[gF]
attribute [simp] uM
theorem c7{α:Type}(l:List α)(a:α):l.length+1=(l++[a]).length:=X2
theorem Lr(neg:Bool)(n:Nat):(neg&&decide (0<(ae n).length))=decide (sgn neg n<0):=by
 rw[<-zd];congr 1;rw[UH];simp
theorem N5{neg b:Bool}{l:List Nat}{n:Nat}(s:n<=l.length)(e:ae (val l)=l.take n)(r:b=(neg&&decide (0<n))):PV.agg [.bool b,.sl UG n (gF (l.take n))]=lJ (sgn neg (val l)):=by
 have d:(ae (val l)).length=n:=by rw[e,OF];omega
 have j:b=decide (sgn neg (val l)<0):=by rw[r,<-Lr,d]
 have q:(sgn neg (val l)).natAbs=val l:=vx _ _;show _=PV.agg [.bool (decide (sgn neg (val l)<0)),.sl UG (ae (sgn neg (val l)).natAbs).length (gF (ae (sgn neg (val l)).natAbs))];rw[q,j,d,e]
theorem sD(neg:Bool)(l:List Nat)(z:l.length<=1000000000)(s:Lok l):FnP prog 176 [.agg [.bool neg,pli l]] (· =lJ (sgn neg (val l))):=by
 refine FnP.ofC func176 O ntmps176 X2 λ_ _ _ _=>?_
 refine Z2 O<|Gz O (st:=λX6:Nat=>([(1,UG),(2,UG)],[(0,UF (.mix 124 [.pv (.bool neg),.pv (.sl UG X6 (gF (l.take X6)))])),(1,UG)])) 2
  (I:=λX6=>X6<=l.length/\∀i,X6<=i->l.getD i 0=0) (μ:=λX6=>X6) (x0:=(l.length)) (TO (aS O) ⟨by rw[V7];rfl,O,X5⟩ O O) (⟨tJ _,λi hi=>jn hi⟩) ?_
 rintro n ⟨hn,hz⟩;by_cases hp:0<n
 .have hil:n-1<(l.take n).length:=by simp;omega
  have u:(gF (l.take n))[(n-1)*1]? =UF (.int .i64 (lim l (n-1):Int)):=by rw[cC hil];simp[lim,List.getD,Uw,show n-1<n by omega]
  have q:=dh hil;have r:n-1<n:=XX;refine Z3 O<|Rs O (XJ.cast (v':=.pv (.bool VA)) (aD O O O) X3)<|Ar 7 O<|Rg O (ag (n-1) underlying22 sz3 O O XX r q) ?_;first|refine A2 O X0 ?_|refine A1 O ?_
  refine Y2 O<|Gc O (λd=>?_) (λd=>?_)
  .have hz0:lim l (n-1)=0:=by have:=rD d;omega
   exact TM<|Gr O<|Ar 5 O<|Rs O (XJ.cast (v':= pIi ((n-1:Nat):Int)) (N1 O O XX) (ah (λi=>pIi i) XX))<|Rs O ((dR (n-1) underlying22 sz3 O O O XX X3).cast (v':=.pv (.sl UG (n-1) (gF (l.take (n-1))))) (by rw[Uv,JH,Xr,U5 XX]))<|Y2 O<|⟨(n-1),TO (aS O) (aO O) O O,⟨XX,λi hi=>by rcases We i n with e|e;rw[show i=n-1 by omega];exact hz0;exact hz i e⟩,XX⟩
  have hz0:lim l (n-1)≠0:=by have:=lq d;omega
  refine Gx O<|Z4 O<|Gc O (λj=>?_) (λj=>?_)
  .refine Z2 O<|Z2 O<|Gt O ?_;exfalso;have:=rD j;omega
  refine TM<|Z2 O<|Gt O ?_;have e:=iO s hn hz (.inr hz0);exact⟨_,_,O,O,⟨au ⟨_,underlying124,O⟩ nJ O O O,X5⟩,N5 hn e (by simp[hp])⟩
 refine Z3 O<|Rs O (XJ.cast (v':=.pv (.bool WA)) (aD O O O) X3)<|Ar 11 O ?_;refine Gc O (λd=>absurd d X2) (λd=>?_);refine Gx O<|Z4 O<|Gc O (λj=>?_) (λj=>?_)
 .refine Z2 O<|Z2 O<|Gt O ?_;have e:=iO s hn hz (.inl XX);exact⟨_,_,O,O,⟨au ⟨_,underlying124,O⟩ nJ O O O,X5⟩,N5 hn e (by simp[hp])⟩
 refine TM<|Z2 O<|Gt O ?_;exfalso;have:=lq j;omega
theorem cO{neg:Bool}{n v:Nat}(l:List Nat)(d:l.length=n)(j:n<=1000000000)(q:Lok l)(r:val l=v):FnP prog 176 [.agg [.bool neg,.sl UG n (gF l)]] (· =lJ (sgn neg v)):=by
 subst d r;exact sD neg l j q
theorem iv(a b:Nat)(L:(ae a).length<=1000000000)(M:(ae b).length<=1000000000):FnP prog 237 [pli (ae a),pli (ae b)] (· = .int .i64 (yw a b)):=by
 refine FnP.of func237 O ntmps237 X2 λ_ _ _ _=>?_
 refine Z1 O<|Gr O<|Ar 5 O<|Gc O (λj=>?_) (λj=>?_)
 .refine Gr O<|Ar 5 O ?_;refine Gp O (λz=>?_) (λz=>?_)
  .exact Z1 O<|Gt O<|⟨_,_,O,O,ah (PV.int .i64) (vk (gx XX)).symm⟩
  refine TM<|Z1 O<|Gt O ?_;have E:=C4 j;exact⟨_,_,O,O,ah (PV.int .i64) (lx (gx XX)).symm⟩
 have hlen:(ae a).length=(ae b).length:=by have:=vK j;omega
 refine TM<|Z4 O<|Gz O (st:=λX6:Nat=>([(0,UG),(1,UG),(5,UF (pIi ((X6:Int)-1)))],[])) 0
  (I:=λX6=>X6<=(ae a).length/\(ae a).drop X6=(ae b).drop X6) (μ:=λX6=>X6) (x0:=((ae a).length)) (TO (aS O) trivial O O) (⟨tJ _,by rw[Vf (tJ _),Vf XX]⟩) ?_
 rintro i ⟨hi,hd⟩;refine Z2 O<|Gp O (λA=>?_) (λA=>?_)
 .have hia:i-1<(ae a).length:=XX;have d:i-1<(ae b).length:=XX;have G:=cC hia;have r:=dh hia;have H:=cC d;have s:=dh d;have q:(ae a).drop (i-1+1)=(ae b).drop (i-1+1):=by rw[show i-1+1=i by omega];exact hd
  refine TM<|UB 9 O<|Dr 2 O<|Ds [] O (λτ h=>ag (i-1) underlying22 sz3 (Ee h 0 O O) (Ee h 1 O O) XX hia r) O XY ?_;first|refine D2 O O X0 ?_|refine D1 O ?_
  refine Dr 2 O<|Ds [] O (λτ h=>ag (i-1) underlying22 sz3 (Ee h 0 O O) (Ee h 1 O O) XX d s) O XY ?_;first|refine D2 O O X0 ?_|refine D1 O ?_
  refine D1 O ?_;refine⟨XY,?_⟩;refine Gp O (λB=>?_) (λB=>?_)
  .refine Z1 O<|Gt O ?_;have u:=pJ (aZ a) hlen hia q (by show lim _ _<lim _ _;omega);rw[aI,aI]at u;exact⟨_,_,O,O,ah (PV.int .i64) (vk u).symm⟩
  refine TM<|UB 9 O<|Dr 2 O<|Ds [] O (λτ h=>ag (i-1) underlying22 sz3 (Ee h 0 O O) (Ee h 1 O O) XX hia r) O XY ?_;first|refine D2 O O X0 ?_|refine D1 O ?_
  refine Dr 2 O<|Ds [] O (λτ h=>ag (i-1) underlying22 sz3 (Ee h 0 O O) (Ee h 1 O O) XX d s) O XY ?_;first|refine D2 O O X0 ?_|refine D1 O ?_
  refine D1 O ?_;refine⟨XY,?_⟩;refine Gp O (λD=>?_) (λD=>?_)
  .refine Z1 O<|Gt O ?_;have u:=pJ (aZ b) hlen.symm d q.symm (by show lim _ _<lim _ _;omega);rw[aI,aI]at u;exact⟨_,_,O,O,ah (PV.int .i64) (lx u).symm⟩
  exact TM<|Z3 O<|⟨(i-1),TO ⟨O,O,ah (λi:Int=>V.pv (PV.int .i64 i)) (show(i:Int)-1-1=((i-1:Nat):Int)-1 by omega),X5⟩ trivial O O,⟨XX,by rw[Us hia,Us d,q,<-dZ hia,<-dZ d];congr 1;omega⟩,XX⟩
 refine Gx O<|Z1 O<|Gt O ?_;have J:i=0:=XX;subst J;exact⟨_,_,O,O,ah (PV.int .i64) (Ft (wi (by simpa using hd))).symm⟩
theorem Lt(neg:Bool)(a:Nat):(sgn neg a).tmod 1000000000=sgn neg (a%1000000000):=by
 cases neg
 .rfl
 show(-(a:Int)).tmod 1000000000= -((a%1000000000:Nat):Int);rw[Int.neg_tmod];rfl
theorem Bw(neg:Bool)(a:Nat):(sgn neg a).tdiv 1000000000=sgn neg (a/1000000000):=by
 cases neg
 .rfl
 show(-(a:Int)).tdiv 1000000000= -((a/1000000000:Nat):Int);rw[Int.neg_tdiv];rfl
theorem BQ(n:Int):sgn (decide (n<0)) n.natAbs=n:=by grind[sgn]
theorem ve(n:Int)(A: -9223372036854775808<=n)(B:n<=9223372036854775807):FnP prog 99 [.int .i64 n] (· =lJ n):=by
 refine FnP.ofC func99 O ntmps99 X2 λ_ _ _ _=>?_
 obtain⟨neg,hneg⟩:∃b,b=decide (n<0):=⟨_,O⟩;have r:sgn neg n.natAbs=n:=by rw[hneg];exact BQ n
 refine Z1 O<|Z1 O<|Rs O (XJ.cast (v':=.pv (.bool neg)) (aD O O O) (ah (λb=>V.pv (.bool b)) hneg.symm))<|Y3 O<|TN (St.cV 1 1 2 1 3 O O O) ?_;refine Gz O (st:=λX6:Nat×List Nat=>([(0,UF (pIi (sgn neg X6.1))),(2,UG),(3,UG)],[(0,UG),(1,UF (.mix 124 [.pv (.bool neg),.gsl 2 1 X6.2.length])),(2,UF (.gro 3 (gF X6.2)))])) 3
  (I:=λX6=>X6.2++ae X6.1=ae n.natAbs/\X6.1<=n.natAbs) (μ:=λX6=>X6.1) (x0:=(n.natAbs,[])) (TO ⟨ah (λi=>pIi i) r.symm,O,O,X5⟩ (aO O) O O) (⟨O,tJ _⟩) ?_
 rintro⟨a,l⟩ ⟨hla,hle⟩;try simp only at hla hle ⊢
 refine Z2 O<|Gc O (λq=>?_) (λq=>?_)
 .refine TM ?_
  repeat apply TZ
  refine AW.block ?_;have j:a≠0:=λe=>by rw[e]at q;cases neg<;>simp[sgn]at q
  refine Z1 O<|Rs O (XJ.cast (v':= pIi (sgn neg (a%1000000000))) (fp O O XZ) (ah (λi=>pIi i) (Lt neg a)))<|A1 O<|Z2 O<|Gp O (λd=>?_) (λd=>?_)
  .refine Z1 O<|Rs O (XJ.cast (v':= pIi ((a%1000000000:Nat):Int)) (NM O (by cases neg<;>simp[sgn]<;>omega) (by cases neg<;>simp[sgn]<;>omega)) (ah (λi=>pIi i) (by cases neg<;>simp[sgn]at d ⊢ ;omega)))<|A1 O ?_;have s:l.length<=1000000:=by
    have u:=ah List.length hla;rw[D8]at u;have z:(ae n.natAbs).length<=3:=aY.2 XX;omega
   refine Gr O<|Ar 7 O<|Z1 O<|Rs O (XJ.cast (v':= pIi (sgn neg (a/1000000000))) (dw O O XZ) (ah (λi=>pIi i) (by rw[Bw,eF];cases neg<;>simp[sgn]<;>omega))) ?_;exact A1 O<|⟨(a/1000000000,l++[a%1000000000]),TP [0,1,4] (aT O) ⟨O,UI (b:=UF (.mix 124 [.pv (.bool neg),.gsl 4 1 (l.length+1)])) XY (ah (λn=>UF (Ob.mix 124 [.pv (.bool neg),.gsl 4 1 n])) (c7 l _)),ah (λc=>UF (Ob.gro 3 c)) (limI_snoc _ _),X5⟩ O O XZ O,⟨by rw[<-hla,c8 j];simp,XX⟩,XX⟩
  have hd:sgn neg (a%1000000000)=((a%1000000000:Nat):Int):=by cases neg<;>simp[sgn]at d ⊢ ;omega
  refine TM ?_;have s:l.length<=1000000:=by
   have u:=ah List.length hla;rw[D8]at u;have z:(ae n.natAbs).length<=3:=aY.2 XX;omega
  refine Z2 O<|Rs O (XJ.cast (v':= pIi ((a%1000000000:Nat):Int)) nV (ah (λi=>pIi i) hd))<|Ar 4 O<|Z1 O<|Rs O (XJ.cast (v':= pIi (sgn neg (a/1000000000))) (dw O O XZ) (ah (λi=>pIi i) (by rw[Bw,eF];cases neg<;>simp[sgn]<;>omega))) ?_;exact A1 O<|⟨(a/1000000000,l++[a%1000000000]),TP [0,1,4] (aT O) ⟨O,UI (b:=UF (.mix 124 [.pv (.bool neg),.gsl 4 1 (l.length+1)])) XY (ah (λn=>UF (Ob.mix 124 [.pv (.bool neg),.gsl 4 1 n])) (c7 l _)),ah (λc=>UF (Ob.gro 3 c)) (limI_snoc _ _),X5⟩ O O XZ O,⟨by rw[<-hla,c8 j];simp,XX⟩,XX⟩
 refine Gx O ?_;have j:a=0:=by cases neg<;>simp[sgn]at q<;>omega
 rw[j,aX,Vg]at hla;exact TN (TR 2 O O)<|Z2 O<|Gt O<|⟨_,_,O,O,⟨au ⟨_,underlying124,O⟩ nJ O O O,X5⟩,by rw[hla,hneg];rfl⟩
end
end Go.Proofs.YtameambcolibjaaGreatDoor
