/- Lemmas. No condition. -/
import Derived.Shelf.Strings.Builder1
import Derived.Shelf.Strings.Builder2
import Derived.Shelf.Strings.OnBuilder
import Derived.Shelf.Small.Bits
import Derived.Shelf.Small.Wraps
import Derived.Shelf.Strings.BuilderF
import Derived.Shelf.Strings.BuilderK
import Derived.Shelf.Strings.Builder2Cap
import Derived.Shelf.Strconv.Itoa0
import Derived.Shelf.Strconv.Itoa1
import Derived.Shelf.LaysM
import Derived.Shelf.Strconv.Itoa2
import Derived.Shelf.Strconv.Itoa3
import Derived.Shelf.Strconv.Clone
import Derived.Shelf.Strconv.SyntaxError
import Derived.Shelf.LaysC
import Derived.Shelf.Strconv.ToError
import Derived.Shelf.Strconv.Lower
import Derived.Shelf.Strconv.ParseUint10
import Derived.Shelf.Strconv.ParseUint10Empty
import Derived.Shelf.Strconv.ParseUint10Any
import Derived.Shelf.Strconv.RangeError
import Derived.Shelf.Strconv.ToErrorRange
import Derived.Shelf.Strconv.ParseUintEmpty
import Derived.Shelf.Strconv.ParseUint10b64
import Derived.Shelf.Strconv.ParseUint10b32
import Derived.Shelf.Strconv.ParseUint10b16
import Derived.Shelf.Strconv.ParseUint10b8
import Derived.Shelf.Strconv.ParseUint10At
import Derived.Ground.MpProg
import Derived.Shelf.Pu.ParseUintPublic10
import Derived.Shelf.Pu.ErrVarParseUint
import Derived.Shelf.Strings.Search1
import Derived.Shelf.Strings.Search2
import Derived.Shelf.Strings.Cut
import Derived.Shelf.Strings.Shaped
import Derived.Shelf.Sort.Plain
import Derived.Shelf.Strings.Prefix
import Derived.Shelf.Bits.Mul64
import Derived.Shelf.Strings.Repeat
import Derived.Shelf.Strings.BuilderCap
import Derived.Shelf.Slices.Turned
import Derived.Shelf.Slices.Equal
import Derived.Ground.Names2Prog
import Derived.Shelf.Slices.Clone
import Derived.Shelf.Slices.SearchI
import Derived.Shelf.Slices.In.SortNone
import Derived.Shelf.Slices.Empties2
import Derived.Test.YtkkenamefaegfaaGreatDoorProg
import Derived.Test.YtkkenamefaegfaaGreatDoorJE4
set_option maxRecDepth 100000
set_option maxHeartbeats 4000000
open Go.RowKit Go.Proofs.Tryz
open Option renaming some→UF,none→UG
open Bool renaming true→VA,false→VC
namespace Go.Proofs.YtkkenamefaegfaaGreatDoor
variable{l:List Nat}{k a b n x y:Nat}
section
def cA(l:List Nat):List PV:=l.map fun(n:Nat)=>PV.int .u64 (n:Int)
abbrev Rj(l:List Nat):PV:= .sl UG l.length (cA l)
abbrev bY(n:Nat):PV:=Rj (ae n)
theorem eu(l:List Nat):(cA l).length=l.length:=by simp[cA]
theorem L9(h:k<l.length):(cA l)[k*1]? =UF (.int .u64 (l[k]:Int)):=by simp[cA,h]
theorem dG(h:k<l.length):(cA l)[k*1]? =UF (.int .u64 (lim l k:Int)):=by rw[L9 h,eL h]
theorem gH(h:k<l.length):cA l≠[]:=λe=>by have:=eu l;rw[e]at this;simp at this;omega
theorem sy(l:List Nat)(k:Nat):(cA l).take k=cA (l.take k):=by simp[cA,List.map_take]
theorem jF(l:List Nat)(k x:Nat):(cA l).set k (.int .u64 (x:Int))=cA (l.set k x):=by simp[cA,US]
theorem qJ{a b:Int}(h:(a==b)=VA):a=b:=by simpa using h
theorem k9{a b:Int}(h:(a==b)=VC):a≠b:=by simpa using h
theorem C5{a b:Int}(h:(a !=b)=VA):a≠b:=by simpa using h
theorem uZ{a b:Int}(h:(a !=b)=VC):a=b:=by simpa using h
theorem DI(i:Int):FnP prog 283 [.int .i64 i] (· = .int .i64 (if i<0 then-1 else if 0<i then 1 else 0)):=by
 refine FnP.of func283 O ntmps283 Xn λ_ _ _ _=>?_
 refine Z1 O<|Z3 O<|Gp O (λj=>?_) (λj=>?_)
 .exact Z1 O<|VF O<|ah (PV.int .i64) (by rw[By Xj])
 refine Z3 O ?_;refine Gp O (λq=>?_) (λq=>?_)
 .exact Z1 O<|VF O<|ah (PV.int .i64) (by rw[sh Xj,By Xj])
 exact Ti<|Z1 O<|VF O<|ah (PV.int .i64) (by rw[sh Xj,sh Xj])
theorem nE(l:List Nat)(i:Nat)(s:l.length<=1000000000):FnP prog 282 [Rj l,.int .i64 i] (· = .int .u64 (lim l i:Int)):=by
 refine FnP.of func282 O ntmps282 Xn λ_ _ _ _=>?_
 refine Z1 O<|Z4 O<|Gp O (λj=>?_) (λj=>?_)
 .have hil:i<l.length:=Xj;have r:=dG hil;have q:=gH hil;refine Z3 O<|A2 O Xm ?_;exact A1 O<|VF O O
 exact Ti<|Z1 O<|VF O<|ah (PV.int .u64) (by rw[js Xj];rfl)
theorem F9(l:List Nat)(u:l.length<=1000000000)(r:Lok l):FnP prog 225 [Rj l] (· =bY (val l)):=by
 refine FnP.of func225 O ntmps225 Xn λ_ _ _ _=>?_
 refine Z1 O<|Z3 O<|Gz O (st:=λXr:Nat=>([(0,UG),(3,UF (pIi Xr))],[])) 0
  (I:=λXr=>Xr<=l.length/\∀i,Xr<=i->l.getD i 0=0) (μ:=λXr=>Xr) (x0:=(l.length)) (Tk (aS O) trivial O O) (⟨AT _,λi hi=>js hi⟩) ?_
 rintro n ⟨hn,hz⟩;by_cases hp:0<n
 .have hil:n-1<l.length:=Xj;have s:=dG hil;have q:=gH hil;refine Z1 O<|Rs O (XJ.cast (v':= .pv (.bool VA)) (ba O O O) Xo)<|Ar 4 O<|Rg O (ag (n-1) underlying105 iM O O Xj hil q)<|A2 O Xm ?_;refine Rg O (ba O O O)<|A1 O ?_;refine Gc O (λj=>?_) (λj=>?_)
  .have hz0:lim l (n-1)=0:=by have:=qJ j;omega
   exact Ti<|Z3 O<|⟨(n-1),Tk ⟨O,ah (λi:Int=>V.pv (PV.int .i64 i)) (show(n:Int)-1=((n-1:Nat):Int) by omega),Xq⟩ trivial O O,⟨Xj,λi hi=>by rcases Vo i n with e|e;rw[show i=n-1 by omega];exact hz0;exact hz i e⟩,Xj⟩
  have hz0:lim l (n-1)≠0:=by have:=k9 j;omega
  refine Gx O<|Z2 O<|Rs O ((eS n underlying105 iM O O O hn (by rw[eu];omega)).cast (v':= .pv (.sl UG n (cA (l.take n)))) (by rw[TZ,sy]))<|A1 O<|Gt O ?_;have e:=iH r hn hz (.inr hz0);exact⟨_,_,O,O,by show PV.sl UG n (cA (l.take n))=bY (val l);rw[bY,e,Rj,TC,Ul hn]⟩
 refine Z1 O<|Rs O (XJ.cast (v':= .pv (.bool VC)) (ba O O O) Xo)<|Ar 8 O ?_;refine Gc O (λj=>absurd j Xn) (λj=>?_);refine Gx O<|Z2 O<|Rs O ((eS n underlying105 iM O O O hn (by rw[eu];omega)).cast (v':= .pv (.sl UG n (cA (l.take n)))) (by rw[TZ,sy]))<|A1 O<|Gt O ?_;have e:=iH r hn hz (.inl Xj);exact⟨_,_,O,O,by show PV.sl UG n (cA (l.take n))=bY (val l);rw[bY,e,Rj,TC,Ul hn]⟩
theorem cW{v:Nat}(l:List Nat)(j:l.length=n)(q:n<=1000000000)(r:Lok l)(s:val l=v):FnP prog 225 [.sl UG n (cA l)] (· =bY v):=by
 subst j s;exact F9 l q r
def vX(a b:Nat):Int:=if a<b then-1 else if b<a then 1 else 0
theorem tZ(h:a<b):vX a b= -1:=By h
theorem lz(h:b<a):vX a b=1:=by unfold vX;rw[sh Xj,By h]
theorem EZ(h:a=b):vX a b=0:=by unfold vX;rw[sh Xj,sh Xj]
theorem oM(a b:Nat)(L:(ae a).length<=1000000000)(M:(ae b).length<=1000000000):FnP prog 232 [bY a,bY b] (· = .int .i64 (vX a b)):=by
 refine FnP.of func232 O ntmps232 Xn λ_ _ _ _=>?_
 refine Z1 O<|Gr O<|Ar 5 O<|Gc O (λq=>?_) (λq=>?_)
 .refine Gr O<|Ar 5 O<|Rs O (aa call283 (DI _) O)<|A1 O<|Gt O ?_;have E:(ae a).length≠(ae b).length:=by have:=C5 q;omega
  refine⟨_,_,O,O,ah (PV.int .i64) ?_⟩;rcases Vo (ae a).length (ae b).length with h|h
  .rw[By Xj,tZ (gP h)]
  rw[sh Xj,By Xj,lz (gP Xj)]
 have hlen:(ae a).length=(ae b).length:=by have:=uZ q;omega
 refine Ti<|Z4 O<|Gz O (st:=λXr:Nat=>([(0,UG),(1,UG),(5,UF (pIi ((Xr:Int)-1)))],[])) 0
  (I:=λXr=>Xr<=(ae a).length/\(ae a).drop Xr=(ae b).drop Xr) (μ:=λXr=>Xr) (x0:=((ae a).length)) (Tk (aS O) trivial O O) (⟨AT _,by rw[Uu (AT _),Uu Xj]⟩) ?_
 rintro i ⟨hi,hd⟩;refine Z2 O<|Gp O (λA=>?_) (λA=>?_)
 .have hia:i-1<(ae a).length:=Xj;have j:i-1<(ae b).length:=Xj;have G:=dG hia;have s:=gH hia;have H:=dG j;have u:=gH j;have r:(ae a).drop (i-1+1)=(ae b).drop (i-1+1):=by rw[show i-1+1=i by omega];exact hd
  refine Ti<|UB 9 O<|Dr 2 O<|TR O (λτ h=>ag (i-1) underlying105 iM (Ee h 0 O O) (Ee h 1 O O) Xj hia s)<|D2 O O Xm ?_;refine Dr 2 O<|TR O (λτ h=>ag (i-1) underlying105 iM (Ee h 0 O O) (Ee h 1 O O) Xj j u)<|D2 O O Xm ?_;refine D1 O ?_;refine⟨Xk,?_⟩;refine Gp O (λB=>?_) (λB=>?_)
  .refine Z1 O<|Gt O ?_;have z:=ph (aZ a) hlen hia r (by show lim _ _<lim _ _;omega);rw[aL,aL]at z;exact⟨_,_,O,O,ah (PV.int .i64) (tZ z).symm⟩
  refine Ti<|UB 9 O<|Dr 2 O<|TR O (λτ h=>ag (i-1) underlying105 iM (Ee h 0 O O) (Ee h 1 O O) Xj hia s)<|D2 O O Xm ?_;refine Dr 2 O<|TR O (λτ h=>ag (i-1) underlying105 iM (Ee h 0 O O) (Ee h 1 O O) Xj j u)<|D2 O O Xm ?_;refine D1 O ?_;refine⟨Xk,?_⟩;refine Gp O (λD=>?_) (λD=>?_)
  .refine Z1 O<|Gt O ?_;have z:=ph (aZ b) hlen.symm j r.symm (by show lim _ _<lim _ _;omega);rw[aL,aL]at z;exact⟨_,_,O,O,ah (PV.int .i64) (lz z).symm⟩
  exact Ti<|Z3 O<|⟨(i-1),Tk ⟨O,O,ah (λi:Int=>V.pv (PV.int .i64 i)) (show(i:Int)-1-1=((i-1:Nat):Int)-1 by omega),Xq⟩ trivial O O,⟨Xj,by rw[TN hia,TN j,r,<-eL hia,<-eL j];congr 1;omega⟩,Xj⟩
 refine Gx O<|Z1 O<|Gt O ?_;have J:i=0:=Xj;subst J;exact⟨_,_,O,O,ah (PV.int .i64) (EZ (wE (by simpa using hd))).symm⟩
theorem Lok.rE(h:Lok l)(k x:Nat):Lok (l.set k (x%1000000000)):=h.set (UH _ Xl)
theorem JJ(j:(ae a).length<=n):a<1000000000^n:=aR.1 j
theorem w6(a b:Nat)(G:(ae a).length<=1000000)(H:(ae b).length<=1000000):FnP prog 231 [bY a,bY b] (· =bY (a+b)):=by
 refine FnP.of func231 O ntmps231 Xn λ_ _ _ _=>?_
 obtain⟨n,hn⟩:∃n:Nat,n=max (ae a).length (ae b).length:=⟨_,O⟩;have j:(if((ae b).length:Int)>(ae a).length then((ae b).length:Int)else(ae a).length)=(n:Int):=by split<;>omega
 refine Z1 O<|Gr O<|Ar 5 O<|Rs O (XJ.cast (v':= pIi ((n+1:Nat):Int)) (l9 O O (by rw[j];omega)) (by rw[j];rfl))<|Rs O (qB (zs:=[.int .u64 0]) 0 (n+1) wQ O O O O O Xj O)<|A1 O<|Z1 O<|Z3 O ?_;refine Gz O (st:=λXr:Nat×List Nat×Nat=>([(0,UG),(1,UG),(5,UG),(6,UF (.pv (.int .u64 (Xr.2.2:Int)))),(17,UG),(18,UF (pIi Xr.1))],[(0,UF (.cells 261 (cA Xr.2.1)))])) 1
  (I:=λXr=>(Xr.1<=n+1/\Xr.2.1.length=n+1)/\(Lok Xr.2.1/\Xr.2.2<=1)/\sm (lim Xr.2.1) Xr.1+1000000000^Xr.1*Xr.2.2=sm (lim (ae a)) Xr.1+sm (lim (ae b)) Xr.1) (μ:=λXr=>n+1-Xr.1) (x0:=(0,List.replicate (n+1) 0,0)) (Tk (aS O) ⟨ah (λc=>UF (Ob.cells 261 c)) ((dh (.int .u64 0) ((n+1)*1)).trans (by simp[cA])),Xq⟩ O O) (⟨⟨aJ _,Xn⟩,⟨Lok.replicate _,aJ _⟩,by simp[sm]⟩) ?_
 rintro⟨i,o,c⟩ ⟨⟨hi,hol⟩,⟨hok,hc⟩,he⟩;try simp only at hi hol hok hc he ⊢
 refine Z1 O<|Gp O (λs=>?_) (λs=>?_)
 .have hil:i<o.length:=Xj;have A:=cR (aZ a) i;have B:=cR (aZ b) i;have u:=MO hil he;have D:=eu o;have q:=nE (ae a) i Xj;have r:=nE (ae b) i Xj;generalize lim (ae a) i=x at*;generalize lim (ae b) i=y at*;exact Ti<|Z2 O<|Z2 O<|Rs O (aa call282 q O)<|Y2 O<|Rs O (aa call282 r O)<|Ar 4 O<|Gr O<|Ar 6 O<|Rs O (ak i underlying105 iM O O O O Xj)<|Y2 O<|Z2 O<|⟨(i+1,o.set i ((x+y+c)%1000000000),(x+y+c)/1000000000),Tk (aS O) ⟨ah (λc=>UF (Ob.cells 261 c)) (by rw[TZ,jF]),Xq⟩ O O,⟨⟨Xp,by simp only[TQ];exact hol⟩,⟨hok.rE _ _,Xp⟩,u⟩,Xp⟩
 refine Gx O ?_;obtain rfl:i=n+1:=Xj;have E:val o=a+b:=Pv hol (JJ Xj) (JJ Xj) (by rw[he,eR _ Xj,eR _ Xj,aL,aL]);have z:=cW o hol Xj hok E;exact Tj (Tn 0 O O)<|Z1 O<|Rs O (aa call225 z O)<|A1 O<|VF O O
theorem qw(a b:Nat)(T:(ae a).length<=1000000)(u:b<=a):FnP prog 233 [bY a,bY b] (· =bY (a-b)):=by
 refine FnP.of func233 O ntmps233 Xn λ_ _ _ _=>?_
 obtain⟨n,hn⟩:∃n:Nat,n=(ae a).length:=⟨_,O⟩;have E:(ae b).length<=n:=by rw[hn];exact aR.2 (Wq u (er a))
 refine Z1 O<|Z2 O<|Rs O (qB (zs:=[.int .u64 0]) 0 (ae a).length wQ O O O O O Xj O)<|A1 O<|Z1 O<|Z3 O<|Gl O (st:=λXr:Nat×List Nat×Nat=>mkS [(0,.pv (bY a)),(1,.pv (bY b)),(5,.osl 0 1 (ae a).length),(6,.pv (.int .u64 (Xr.2.2:Int))),(13,.pv (.int .i64 (ae a).length)),(14,pIi Xr.1)] [(0,.cells 261 (cA Xr.2.1))] 1)
  (I:=λXr=>(Xr.1<=n/\Xr.2.1.length=n)/\(Lok Xr.2.1/\Xr.2.2<=1)/\sm (lim Xr.2.1) Xr.1+sm (lim (ae b)) Xr.1=sm (lim (ae a)) Xr.1+1000000000^Xr.1*Xr.2.2) (μ:=λXr=>n-Xr.1) (x0:=(0,List.replicate (ae a).length 0,0)) (Tk (aS O) ⟨ah (λc=>UF (Ob.cells 261 c)) ((dh (.int .u64 0) ((ae a).length*1)).trans (by simp[cA])),Xq⟩ O O) (⟨⟨aJ _,by simp[hn]⟩,⟨Lok.replicate _,aJ _⟩,by simp[sm]⟩) ?_
 rintro⟨i,o,c⟩ ⟨⟨hi,hol⟩,⟨hok,hc⟩,he⟩;try simp only at hi hol hok hc he ⊢
 refine Z1 O<|Gp O (λs=>?_) (λs=>?_)
 .have hil:i<o.length:=Xj;have j:i<(ae a).length:=Xj;have G:=dG j;have z:=gH j;have H:=cR (aZ a) i;have J:=cR (aZ b) i;have q:=nE (ae b) i Xj;have A:=λx b' hx=>KF (x:=x) (b':=b') hil he hx
  have L:=eu o;generalize lim (ae a) i=x at*;generalize lim (ae b) i=y at*;have r:=A ((x+1000000000-y-c)%1000000000) (1-(x+1000000000-y-c)/1000000000) Xj;refine Ti<|Z2 O<|UB 12 O<|Dr 2 O<|TR O (λτ h=>ag i underlying105 iM (Ee h 0 O O) (Ee h 1 O O) O j z)<|D2 O O Xm ?_;refine TR O (λτ h=>vR (b:=1000000000) (Ee h 0 O O) (Ee h 1 O O) Xj)<|Dr 2 O<|TR O (λτ h=>aa call282 q (h.aD O))<|TR O (λτ h=>tD (Ee h 0 O O) (Ee h 1 O O) Xj)<|D1 O<|TR O (λτ h=>tD (Ee h 0 O O) (Ee h 1 O O) Xj)<|D1 O ?_;refine⟨Xk,?_⟩;exact Z3 O<|Rs O (qg (b:=1000000000) O O Xj)<|A1 O<|Rs O (qR (b:=1000000000) O O Xj)<|Rs O (tD (a:=1) O O Xj)<|Rs O (ak i underlying105 iM O O O O Xj)<|Y2 O<|Z2 O<|⟨(i+1,o.set i ((x+1000000000-y-c)%1000000000),1-(x+1000000000-y-c)/1000000000),Tk (aS O) ⟨ah (λc=>UF (Ob.cells 261 c)) (by rw[TZ,jF]),Xq⟩ O O,⟨⟨Xp,by simp only[TQ];exact hol⟩,⟨hok.rE _ _,Xp⟩,r⟩,Xp⟩
 refine Gx O ?_;obtain rfl:i=n:=Xj;have M:val o=a-b:=PS hol hok u (by have D:=he;rw[eR (ae a) (UM hn.symm),eR (ae b) E,aL,aL]at D;exact D);have B:=cW o (hol.trans hn) Xj hok M;exact Tj (Tn 0 O O)<|Z1 O<|Rs O (aa call225 B O)<|A1 O<|VF O O
end
section
theorem SI(j:x<1000000000)(q:y<1000000000):x*y<=999999998000000001:=
 AS (Uy (show x<=999999999 by omega) (show y<=999999999 by omega)) Xl
theorem Ot{o:List Nat}{V m c:Nat}{i:Nat}(j:i+m<o.length)(q:lim o (i+m)=0)(h:val o+1000000000^(i+m)*c=V*b+1000000000^i*(x*b)):val (o.set (i+m) c)=(V+1000000000^i*x)*b:=by
 have e:=Im (x:=c) j;rw[<-eL j,q,Xa,Vt]at e;rw[e,h,Xe,U1]
theorem GH(a b:Nat)(ha:(ae a).length<=1000000)(hb:(ae b).length<=1000000):FnP prog 227 [bY a,bY b] (· =bY (a*b)):=by
 refine FnP.of func227 O ntmps227 Xn λ_ _ _ _=>?_
 obtain⟨la,hla⟩:∃n:Nat,n=(ae a).length:=⟨_,O⟩;obtain⟨lb,hlb⟩:∃n:Nat,n=(ae b).length:=⟨_,O⟩;refine Z1 O<|Gr O<|Ar 7 O<|Z3 O<|Gz O (st:=λXr:Nat×List Nat=>([(1,UG),(5,UG),(18,UG),(19,UG),(20,UF (pIi Xr.1))],[(0,UF (.cells 261 (cA Xr.2)))])) 1
  (I:=λXr=>(Xr.1<=la/\Xr.2.length=la+lb)/\Lok Xr.2/\val Xr.2=sm (lim (ae a)) Xr.1*b/\∀j,Xr.1+lb<=j->lim Xr.2 j=0) (μ:=λXr=>la-Xr.1) (x0:=(0,List.replicate ((ae a).length+(ae b).length) 0)) (Tk (aS O) ⟨ah (λc=>UF (Ob.cells 261 c)) ((dh (.int .u64 0) (((ae a).length+(ae b).length)*1)).trans (by simp[cA])),Xq⟩ O O) (⟨⟨aJ _,by simp[hla,hlb]⟩,Lok.replicate _,by rw[val_zero (λi=>by simp only[List.getD,Vv];split<;>rfl)];simp[sm],λj _=>by simp only[lim,List.getD,Vv];split<;>rfl⟩) ?_
 rintro⟨i,o⟩ ⟨⟨hi,hol⟩,hok,hv,hz⟩;try simp only at hi hol hok hv hz ⊢
 refine Z1 O<|Gp O (λB=>?_) (λB=>?_)
 .have hia:i<(ae a).length:=Xj;have V:=dG hia;have W:=gH hia;have E:=cR (aZ a) i;have G:sm (lim (ae a)) (i+1)=sm (lim (ae a)) i+1000000000^i*lim (ae a) i:=rfl;generalize lim (ae a) i=x at*;refine Ti<|Z2 O<|A2 O Xm ?_;refine Y2 O<|Z1 O<|Z3 O ?_;refine Gz O (st:=λq:Nat×List Nat×Nat=>([(1,UG),(5,UG),(6,UG),(7,UG),(8,UF (.pv (.int .u64 (q.2.2:Int)))),(18,UG),(19,UG),(20,UG),(25,UG),(26,UG),(27,UF (pIi q.1))],[(0,UF (.cells 261 (cA q.2.1)))])) 1
   (I:=λq=>(q.1<=lb/\q.2.1.length=la+lb)/\(Lok q.2.1/\q.2.2<1000000000)/\val q.2.1+1000000000^(i+q.1)*q.2.2=sm (lim (ae a)) i*b+1000000000^i*(x*sm (lim (ae b)) q.1)/\∀j,i+lb<=j->lim q.2.1 j=0) (μ:=λq=>lb-q.1) (x0:=(0,o,0)) (WA O) (⟨⟨aJ _,hol⟩,⟨hok,Nat.zero_lt_succ 999999999⟩,by rw[hv];simp[sm],hz⟩) ?_
  rintro⟨k,o2,c⟩ ⟨⟨hk,hol2⟩,⟨hok2,hc⟩,he,hz2⟩;try simp only at hk hol2 hok2 hc he hz2 ⊢
  refine Z1 O<|Gp O (λD=>?_) (λD=>?_)
  .have hkb:k<(ae b).length:=Xj;have X:=dG hkb;have Y:=gH hkb;have H:=cR (aZ b) k;have r:i+k<o2.length:=Xj;have J:=dG r;have s:=BT (y:=lim (ae b) k) r he;have L:sm (lim (ae b)) (k+1)=sm (lim (ae b)) k+1000000000^k*lim (ae b) k:=rfl;rw[<-L]at s;have Z:=cR hok2 (i+k);have M:=eu o2;generalize lim (ae b) k=y at*;generalize lim o2 (i+k)=u at*;have ab:=SI E H;refine Ti<|Z2 O<|A2 O Xm ?_;refine Y2 O<|Z4 O<|Rs O (ak (i+k) underlying105 iM O O O O Xj)<|A2 O Xm ?_;exact Ar 7 O<|Gr O<|Ar 5 O<|Rs O (qg (b:=1000000000) O O Xj)<|A1 O<|Rs O (qR (b:=1000000000) O O Xj)<|Rs O (ak (i+k) underlying105 iM O O O O Xj)<|Y2 O<|Z2 O<|⟨(k+1,o2.set (i+k) ((u+x*y+c)%1000000000),(u+x*y+c)/1000000000),Tk (aS O) ⟨ah (λc=>UF (Ob.cells 261 c)) (by rw[TZ,jF]),Xq⟩ O O,⟨⟨Xp,by simp only[TQ];exact hol2⟩,⟨hok2.rE _ _,Xp⟩,s,λj hj=>by rw[ja r,sh Xj];exact hz2 j hj⟩,Xp⟩
  refine Gx O ?_;obtain rfl:k=lb:=Xj;have r:i+k<o2.length:=Xj;have z:=hz2 (i+k) (AT _);have J:(cA o2)[(i+k)*1]? =UF (.int .u64 ((0:Nat):Int)):=by rw[dG r,z]
  have M:=eu o2;rw[eR (ae b) (UM hlb.symm),aL]at he;have A:=Ot r z he;have ac:(ae b).length=k:=hlb.symm;refine Gr O<|Ar 5 O<|Rs O (ak (i+k) underlying105 iM O O O Xj Xj)<|A2 O Xm ?_;exact A1 O<|Rs O (XJ.cast (v':= .pv (.int .u64 (c:Int))) (vR (a:=0) O O Xj) (by rw[T8]))<|Rs O (ak (i+k) underlying105 iM O O O Xj Xj)<|A1 O<|Z2 O<|⟨(i+1,o2.set (i+k) c),Tk (aS O) ⟨ah (λc=>UF (Ob.cells 261 c)) (by rw[TZ,jF]),Xq⟩ O O,⟨⟨Xp,by simp only[TQ];exact hol2⟩,hok2.set hc,by rw[G];exact A,λj hj=>by simp only at hj ⊢; rw[ja r,sh Xj];exact hz2 j Xj⟩,Xp⟩
 refine Gx O ?_;obtain rfl:i=la:=Xj;have T:val o=a*b:=by rw[hv,eR (ae a) (UM hla.symm),aL]
 have U:=cW o (show o.length=(ae a).length+(ae b).length by omega) Xj hok T;exact Tj (Tn 0 O O)<|Z1 O<|Rs O (aa call225 U O)<|A1 O<|VF O O
theorem Ad(a d:Nat)(U:(ae a).length<=1000000)(z:0<d)(T:d<1000000000):FnP prog 311 [bY a,.int .u64 (d:Int)] (· = .tup [bY (a/d),.int .u64 ((a%d:Nat):Int)]):=by
 refine FnP.of func311 O ntmps311 Xn λ_ _ _ _=>?_
 obtain⟨n,hn⟩:∃n:Nat,n=(ae a).length:=⟨_,O⟩;refine Z2 O<|Z4 O<|Z1 O<|Z4 O<|Gl O (st:=λXr:Nat×List Nat×Nat=>mkS [(0,.pv (bY a)),(1,.pv (.int .u64 (d:Int))),(6,.osl 0 1 (ae a).length),(7,.pv (.int .u64 (Xr.2.2:Int))),(8,pIi ((Xr.1:Int)-1))] [(0,.cells 261 (cA Xr.2.1))] 1)
  (I:=λXr=>(Xr.1<=n/\Xr.2.1.length=n)/\(Lok Xr.2.1/\Xr.2.2<d)/\val ((ae a).drop Xr.1)=d*val (Xr.2.1.drop Xr.1)+Xr.2.2) (μ:=λXr=>Xr.1) (x0:=((ae a).length,List.replicate (ae a).length 0,0)) (Tk (aS O) ⟨ah (λc=>UF (Ob.cells 261 c)) ((dh (.int .u64 0) ((ae a).length*1)).trans (by simp[cA])),Xq⟩ O O) (⟨⟨UM hn.symm,by simp[hn]⟩,⟨Lok.replicate _,z⟩,by simp only;rw[Uu (AT _),Uu Xn];simp[val]⟩) ?_
 rintro⟨i,o,r⟩ ⟨⟨hi,hol⟩,⟨hok,hr⟩,he⟩;try simp only at hi hol hok hr he ⊢
 refine Z2 O<|Gp O (λu=>?_) (λu=>?_)
 .have hia:i-1<(ae a).length:=Xj;have H:=dG hia;have A:=gH hia;have B:=cR (aZ a) (i-1);have J:i-1<o.length:=Xj;have D:=EK (q:=o) (r:=r) hia Xj z (by rw[show i-1+1=i by omega];exact he);have L:=eu o;generalize lim (ae a) (i-1)=x at*;have j:=Ht z hr B;refine Ti<|Z1 O<|Rs O (qN (b:=1000000000) O O Xj)<|Y2 O<|Rs O (ag (i-1) underlying105 iM O O Xj hia A)<|A2 O Xm ?_;refine Y2 O<|UB 11 O<|Dr 8 O<|VE [_] O (λτ h=>ak (i-1) underlying105 iM (Ee h 0 O O) (Eo h 0 O O) (Ee h 1 O O) Xj Xj)<|Dr 2 O ?_;refine⟨Xk,?_⟩;exact Z3 O<|⟨(i-1,o.set (i-1) ((r*1000000000+x)/d),(r*1000000000+x)%d),Tk ⟨O,O,O,O,ah (λi:Int=>V.pv (PV.int .i64 i)) (show(i:Int)-1-1=((i-1:Nat):Int)-1 by omega),Xq⟩ ⟨ah (λc=>UF (Ob.cells 261 c)) (by rw[TZ,jF]),Xq⟩ O O,⟨⟨Xp,by simp only[TQ];exact hol⟩,⟨hok.set j.1,j.2⟩,D⟩,Xp⟩
 refine Gx O ?_;obtain rfl:i=0:=Xj;have s:a=d*val o+r:=by simpa[aL]using he
 have M:val o=a/d:=by rw[s,Nat.mul_add_div z,VR hr,Vt]
 have E:r=a%d:=by rw[s,Nat.mul_add_mod,VU hr]
 have G:=cW o (hol.trans hn) Xj hok M;exact Tj (Tn 0 O O)<|Z1 O<|Rs O (aa call225 G O)<|Y3 O<|VF O<|by rw[<-E];rfl
theorem mX(n i:Nat):lim (ae n) i=n/1000000000^i%1000000000:=by
 induction i generalizing n with
 | zero=>
   by_cases h:n=0
   .subst h;rw[aV];rfl
   rw[dE h];simp[lim]
 | succ i ih=>
   by_cases h:n=0
   .subst h;rw[aV];simp[lim]
   rw[dE h,Um,Uo,<-Nat.div_div_eq_div_mul,<-ih];simp[lim]
theorem fV(a:Nat)(A:a<1000000000000000000):FnP prog 293 [bY a] (· = .int .u64 (a:Int)):=by
 refine FnP.of func293 O ntmps293 Xn λ_ _ _ _=>?_
 have q:(ae a).length<=2:=aR.2 A;have r:=nE (ae a) 1 Xj;have s:=nE (ae a) 0 Xj;have u:=mX a 1;have z:=mX a 0;rw[Nat.pow_one]at u;rw[Nat.pow_zero,Nat.div_one]at z;generalize lim (ae a) 1=x at*;generalize lim (ae a) 0=y at*;have j:x*1000000000+y=a:=Xj;exact Z1 O<|Z1 O<|Rs O (aa call282 r O)<|Rs O (qN (b:=1000000000) O O Xj)<|A1 O<|Rs O (aa call282 s O)<|Y2 O<|VF O<|by rw[<-j];rfl
end
section
def Hi(a b:Nat):Prop:=FnP prog 281 [bY a,bY b] (· = .tup [bY (a/b),bY (a%b)])
theorem ye:bY 0= .sl UG 0 []:=by rw[bY,aV];rfl
theorem val_one(a:Nat):val [a]=a:=by simp[val]
theorem Lok.one(h:a<1000000000):Lok [a]:=λb hb=>by simp at hb;omega
theorem Fs(a b:Nat)(H:(ae a).length<=1000000)(E:0<b)(s:b<1000000000):Hi a b:=by
 unfold Hi;refine FnP.fg2 (FnP.of func281 O ntmps281 Xn λ_ _ _ _=>?_);have r:ae b=[b]:=eV Xj s;have z:(ae b).length=1:=by rw[r];rfl
 have G:(cA (ae b))[0*1]? =UF (.int .u64 (b:Int)):=by rw[r];rfl
 have A:cA (ae b)≠[]:=by rw[r];simp[cA]
 have B:a%b<1000000000:=WR (UH _ E) s;have D:=cW (n:=1) [a%b] O Xj (Lok.one B) (val_one _);refine Z2 O<|Z2 O<|Rs O (aa call232 (oM a b Xj Xj) O)<|A1 O<|Gp O (λj=>?_) (λj=>?_)
 .refine Z3 O<|Gt O ?_;have u:a<b:=by unfold vX at j;split at j;assumption;split at j<;>omega
  exact⟨_,_,O,O,by rw[VR u,VU u,ye];rfl⟩
 refine Ti<|Z3 O ?_;refine Gc O (λq=>?_) (λq=>absurd q (by rw[z];simp));refine Z2 O<|Rs O (ag 0 underlying105 iM O O O Xj A)<|A2 O Xm ?_;exact Rs O (aa call311 (Ad a b H E s) O)<|Ar 5 O<|Z2 O<|Rs O (au UG Xn wQ O Xl Xl O O)<|Rs O (aa call225 D O)<|Y2 O<|VF O O
theorem len2(h:¬2<(ae n).length):n<1000000000000000000:=aR.1 (show(ae n).length<=2 by omega)
theorem HU(j:0<y)(h:(ae y).length<=k):(ae (x%y)).length<=k:=aR.2 (WR (UH _ j) (aR.1 h))
theorem nZ(h:0<(ae n).length):0<n:=by grind[UJ,aV]
theorem mq(x y:Nat):Nat.gcd y (x%y)=Nat.gcd x y:=by rw[Nat.gcd_comm y,<-Nat.gcd_rec,Nat.gcd_comm]
theorem x6(h:x<1000000000000000000):Lok [x%1000000000,x/1000000000]/\val [x%1000000000,x/1000000000]=x:=by
 refine⟨λa ha=>?_,by simp[val];omega⟩;simp at ha;omega
theorem JG(I:Nat->Nat->Prop)(M:∀x y,I x y->0<y->(2<(ae y).length\/2<(ae x).length)->(ae x).length<=1000000->(ae y).length<=1000000->Hi x y/\I y (x%y))(a b:Nat)(T:I a b)(U:(ae a).length<=1000000)(V:(ae b).length<=1000000):
  FnP prog 280 [bY a,bY b] (· =bY (Nat.gcd a b)):=by
 refine FnP.of func280 O ntmps280 Xn λ_ _ _ _=>?_
 refine Z1 O<|Gl O (st:=λXr:Nat×Nat=>mkS [(0,.pv (bY Xr.1)),(1,.pv (bY Xr.2))] [] 0)
  (I:=λXr=>Nat.gcd Xr.1 Xr.2=Nat.gcd a b/\I Xr.1 Xr.2/\(ae Xr.1).length<=1000000/\(ae Xr.2).length<=1000000) (μ:=λXr=>Xr.2) (x0:=(a,b)) (Tk (aS O) trivial O O) (⟨O,T,U,V⟩) ?_
 rintro⟨x,y⟩ ⟨hg,hxy,hx,hy⟩;try simp only at hg hxy hx hy ⊢
 refine Z3 O<|Gp O (λJ=>?_) (λJ=>?_)
 .have s:0<y:=nZ Xj;have G:=M x y hxy s (.inl Xj) hx hy;exact Ti<|Z2 O<|Rs O (aa call281 G.1 O)<|Ar 5 O<|Z4 O<|⟨(y,x%y),Tk (aS O) trivial O O,⟨by rw[<-hg];exact mq x y,G.2,hy,HU s hy⟩,UH _ s⟩
 have hy2:=len2 (show ¬2<(ae y).length by omega);refine Gx O<|Z3 O<|Gc O (λB=>?_) (λB=>?_)
 .refine Z2 O<|Gt O ?_;have s:y=0:=bJ.1 (by have:=qJ B;omega);exact⟨_,_,O,O,ah bY (by rw[<-hg,s,Nat.gcd_zero_right])⟩
 have s:0<y:=nZ (by have:=k9 B;omega);refine Ti<|Z3 O<|Gp O (λL=>?_) (λL=>?_)
 .have G:=M x y hxy s (.inr Xj) hx hy;refine Z2 O<|Rs O (aa call281 G.1 O)<|Ar 5 O<|Z4 O ?_;have z:=hy2;have A:x%y<1000000000000000000:=WR (UH _ s) hy2;have D:Nat.gcd y (x%y)=Nat.gcd a b:=by rw[<-hg];exact mq x y
  clear hg hxy G;generalize x%y=q at*;obtain⟨p,rfl⟩:∃p,p=y:=⟨y,O⟩;refine Z1 O<|Rs O (aa call293 (fV p z) O)<|A1 O<|Rs O (aa call293 (fV q A) O)<|Y2 O<|Gl O (st:=λj:Nat×Nat=>mkS [(9,.pv (.int .u64 (j.1:Int))),(10,.pv (.int .u64 (j.2:Int)))] [] 0)
   (I:=λj=>Nat.gcd j.1 j.2=Nat.gcd a b/\j.1<1000000000000000000/\j.2<1000000000000000000) (μ:=λj=>j.2) (x0:=(p,q)) (Tk (aS O) trivial O O) (⟨D,z,A⟩) ?_
  rintro⟨u,v⟩ ⟨hg2,hu,hv⟩;try simp only at hg2 hu hv ⊢
  refine Z2 O<|Gc O (λr=>?_) (λr=>?_)
  .have hv0:0<v:=by have:=C5 r;omega
   refine Ti<|UB 6 O<|Dr 6 O ?_;refine⟨Xk,?_⟩;exact⟨(v,u%v),Tk (aS O) trivial O O,⟨by rw[<-hg2];exact mq u v,hv,WR (UH _ hv0) hv⟩,UH _ hv0⟩
  have hv0:v=0:=by have:=uZ r;omega
  refine Gx O ?_;have H:=x6 hu;have E:=cW (n:=2) [u%1000000000,u/1000000000] O Xj H.1 H.2;exact Z1 O<|Rs O (qg (b:=1000000000) O O Xj)<|A1 O<|Rs O (qR (b:=1000000000) O O Xj)<|Rs O (au UG Xn wQ O Xl Xl O O)<|Rs O (aa call225 E O)<|A1 O<|VF O<|ah bY (by rw[<-hg2,hv0,Nat.gcd_zero_right])
 have z:=len2 (show ¬2<(ae x).length by omega);have A:=hy2;have D:=hg;clear hg hxy;obtain⟨p,rfl⟩:∃p,p=x:=⟨x,O⟩;obtain⟨q,rfl⟩:∃q,q=y:=⟨y,O⟩;refine Ti<|Z1 O<|Rs O (aa call293 (fV p z) O)<|A1 O<|Rs O (aa call293 (fV q A) O)<|Y2 O<|Gl O (st:=λj:Nat×Nat=>mkS [(9,.pv (.int .u64 (j.1:Int))),(10,.pv (.int .u64 (j.2:Int)))] [] 0)
  (I:=λj=>Nat.gcd j.1 j.2=Nat.gcd a b/\j.1<1000000000000000000/\j.2<1000000000000000000) (μ:=λj=>j.2) (x0:=(p,q)) (Tk (aS O) trivial O O) (⟨D,z,A⟩) ?_
 rintro⟨u,v⟩ ⟨hg2,hu,hv⟩;try simp only at hg2 hu hv ⊢
 refine Z2 O<|Gc O (λr=>?_) (λr=>?_)
 .have hv0:0<v:=by have:=C5 r;omega
  refine Ti<|UB 6 O<|Dr 6 O ?_;refine⟨Xk,?_⟩;exact⟨(v,u%v),Tk (aS O) trivial O O,⟨by rw[<-hg2];exact mq u v,hv,WR (UH _ hv0) hv⟩,UH _ hv0⟩
 have hv0:v=0:=by have:=uZ r;omega
 refine Gx O ?_;have H:=x6 hu;have E:=cW (n:=2) [u%1000000000,u/1000000000] O Xj H.1 H.2;exact Z1 O<|Rs O (qg (b:=1000000000) O O Xj)<|A1 O<|Rs O (qR (b:=1000000000) O O Xj)<|Rs O (au UG Xn wQ O Xl Xl O O)<|Rs O (aa call225 E O)<|A1 O<|VF O<|ah bY (by rw[<-hg2,hv0,Nat.gcd_zero_right])
def Ib(x y:Nat):Prop:=y<1000000000\/(x<1000000000000000000/\y<1000000000000000000)
theorem SX(h:Ib x y)(j:0<y)(s:2<(ae y).length\/2<(ae x).length)(r:(ae x).length<=1000000):Hi x y/\Ib y (x%y):=by
 have q:∀{n:Nat},2<(ae n).length->¬n<1000000000000000000:=fun{n} h e=>by
  have:=aR.2 (show n<1000000000^2 from e);omega
 rcases h with h|⟨h3,h4⟩
 .exact⟨Fs x y r j h,.inl (WR (UH _ j) h)⟩
 grind
end
section
abbrev Rh(z:Int):List PV:=[.bool (decide (z<0)),bY z.natAbs]
abbrev fr(z:Int):PV:= .agg (Rh z)
def sgn(neg:Bool)(n:Nat):Int:=if neg then-(n:Int)else n
theorem yA(neg:Bool)(n:Nat):(neg&&decide (((ae n).length:Int)>0))=decide (sgn neg n<0):=by
 have h:0<(ae n).length↔0<n:=⟨nZ,λh=>V6 λe=>by have:=bJ.1 e;omega⟩;cases neg with
 |false=>simp[sgn]
 | true=>
   simp only[sgn,WH,Ws];by_cases hn:0<n
   .grind
   grind
theorem uW(neg:Bool)(n:Nat):(sgn neg n).natAbs=n:=by cases neg<;>simp[sgn]
theorem bP(neg:Bool)(n:Nat):FnP prog 224 [.bool neg,bY n] (· =fr (sgn neg n)):=by
 refine FnP.ofC func224 O ntmps224 Xn λ_ _ _ _=>?_
 refine Z1 O<|Z2 O ?_;apply Tu 4 6 10 [7,8,9] O Xt
 .intro hb1;exact Ar 4 O<|Tm Xs O O O
 .intro hb1;exact Ar 4 O<|Tm Xs O O O
 exact Y3 O<|VF O ⟨⟨ax ⟨_,underlying107,O⟩ kP O O O,Xq⟩,by rw[fr,Rh,<-yA,uW];rfl⟩
theorem ou(z:Int):FnP prog 208 [fr z] (· = .int .i64 z.sign):=by
 refine FnP.of func208 O ntmps208 Xn λ_ _ _ _=>?_
 refine Z2 O<|Z3 O<|Gc O (λj=>?_) (λj=>?_)
 .exact Z1 O<|VF O<|ah (PV.int .i64) (by rw[Int.sign_eq_neg_one_of_neg (by simpa using j)])
 refine Gr O<|Ar 5 O ?_;refine Gp O (λq=>?_) (λq=>?_)
 .exact Z1 O<|VF O<|ah (PV.int .i64) (by have r:=nZ (n:=z.natAbs) Xj;have s:¬z<0:=(by simpa using j);exact(Int.sign_eq_one_of_pos (show 0<z by omega)).symm)
 exact Ti<|Z1 O<|VF O<|ah (PV.int .i64) (by have r:=bJ.1 (show(ae z.natAbs).length=0 by omega);rw[show z=0 by omega];rfl)
theorem Hn(z:Int):FnP prog 228 [fr z] (· =fr (-z)):=by
 refine FnP.ofC func228 O ntmps228 Xn λ_ _ _ _=>?_
 have j:sgn (!decide (z<0)) z.natAbs= -z:=by
  by_cases h:z<0
  .rw[TD h];simp[sgn];omega
  rw[TL h];simp[sgn];omega
 exact Z2 O<|Gr O<|Ar 5 O<|Rs O (aa call224 (bP _ _) O)<|A1 O<|VF O ⟨⟨ax ⟨_,underlying107,O⟩ kP O O O,Xq⟩,by rw[<-j];rfl⟩
theorem CV{x y:Int}(h:(decide (x<0)==decide (y<0))=VA):sgn (decide (x<0)) (x.natAbs+y.natAbs)=x+y:=by grind[sgn]
theorem I1{x y:Int}(h:(decide (x<0)==decide (y<0))=VC)(hc:y.natAbs<=x.natAbs):sgn (decide (x<0)) (x.natAbs-y.natAbs)=x+y:=by grind[sgn]
theorem IQ{x y:Int}(h:(decide (x<0)==decide (y<0))=VC)(hc:x.natAbs<=y.natAbs):sgn (decide (y<0)) (y.natAbs-x.natAbs)=x+y:=by grind[sgn]
theorem oE:vX a b>=0↔b<=a:=by grind[vX]
theorem lx(x y:Int)(r:(ae x.natAbs).length<=1000000)(s:(ae y.natAbs).length<=1000000):FnP prog 171 [fr x,fr y] (· =fr (x+y)):=by
 refine FnP.ofC func171 O ntmps171 Xn λ_ _ _ _=>?_
 refine Z3 O<|Gr O<|Ar 6 O<|Gc O (λq=>?_) (λq=>?_)
 .have e:=CV q;refine UB 9 O<|Dr 6 O<|TR O (λτ h=>aa call231 (w6 x.natAbs y.natAbs r s) (h.aD O))<|TR O (λτ h=>aa call224 (bP _ _) (h.aD O))<|D1 O ?_;refine⟨Xk,?_⟩;exact VF O ⟨⟨ax ⟨_,underlying107,O⟩ kP O O O,Xq⟩,by rw[<-e];rfl⟩
 have hd:=q;refine Z4 O<|Rs O (aa call232 (oM x.natAbs y.natAbs Xj Xj) O)<|Y2 O<|Gp O (λj=>?_) (λj=>?_)
 .have hle:=oE.1 j;have e:=I1 hd hle;refine UB 9 O<|Dr 6 O<|TR O (λτ h=>aa call233 (qw x.natAbs y.natAbs r hle) (h.aD O))<|TR O (λτ h=>aa call224 (bP _ _) (h.aD O))<|D1 O ?_;refine⟨Xk,?_⟩;exact VF O ⟨⟨ax ⟨_,underlying107,O⟩ kP O O O,Xq⟩,by rw[<-e];rfl⟩
 have hle:x.natAbs<=y.natAbs:=WG (Nat.lt_of_not_le λe=>j (oE.2 e));have e:=IQ hd hle;refine Ti<|UB 9 O<|Dr 6 O<|TR O (λτ h=>aa call233 (qw y.natAbs x.natAbs s hle) (h.aD O))<|TR O (λτ h=>aa call224 (bP _ _) (h.aD O))<|D1 O ?_;refine⟨Xk,?_⟩;exact VF O ⟨⟨ax ⟨_,underlying107,O⟩ kP O O O,Xq⟩,by rw[<-e];rfl⟩
theorem Ac(x y:Int)(j:(ae x.natAbs).length<=1000000)(q:(ae y.natAbs).length<=1000000):FnP prog 279 [fr x,fr y] (· =fr (x-y)):=by
 refine FnP.ofC func279 O ntmps279 Xn λ_ _ _ _=>?_
 refine Z3 O<|UB 5 O<|Dr 2 O<|TR O (λτ h=>aa call228 (Hn y) (h.aD O))<|TR O (λτ h=>aa call171 (lx x (-y) j (by rw[Int.natAbs_neg];exact q)) (h.aD O))<|D1 O ?_;refine⟨Xk,?_⟩;exact VF O ⟨⟨ax ⟨_,underlying107,O⟩ kP O O O,Xq⟩,by rw[Int.sub_eq_add_neg];rfl⟩
theorem jf(x y:Int)(j:(ae x.natAbs).length<=1000000)(q:(ae y.natAbs).length<=1000000):FnP prog 226 [fr x,fr y] (· = .int .i64 (x-y).sign):=by
 refine FnP.of func226 O ntmps226 Xn λ_ _ _ _=>?_
 exact Z3 O<|Z2 O<|Rs O (aa call279 (Ac x y j q) O)<|Rs O (aa call208 (ou (x-y)) O)<|A1 O<|VF O O
theorem qY(I:Nat->Nat->Prop)(j:∀x y,I x y->0<y->(2<(ae y).length\/2<(ae x).length)->(ae x).length<=1000000->(ae y).length<=1000000->Hi x y/\I y (x%y))(x y:Int)(q:I x.natAbs y.natAbs)(r:(ae x.natAbs).length<=1000000)(s:(ae y.natAbs).length<=1000000):
  FnP prog 229 [fr x,fr y] (· =fr (Int.gcd x y:Int)):=by
 refine FnP.ofC func229 O ntmps229 Xn λ_ _ _ _=>?_
 exact Z3 O<|Z4 O<|Rs O (aa call280 (JG I j x.natAbs y.natAbs q r s) O)<|Rs O (aa call224 (bP VC _) O)<|A1 O<|VF O ⟨⟨ax ⟨_,underlying107,O⟩ kP O O O,Xq⟩,O⟩
end
section
theorem O9(i:Int):IntKind.u64.wrap i=i%18446744073709551616:=rfl
theorem Ms{n:Int}(j: -9223372036854775808<=n)(h:n<0):IntKind.u64.wrap (-(IntKind.u64.wrap n))=((n.natAbs:Nat):Int):=by
 rw[O9,O9];omega
theorem Mw{n:Int}(j:n<=9223372036854775807)(h:¬n<0):IntKind.u64.wrap n=((n.natAbs:Nat):Int):=by
 rw[O9];omega
section
variable {C:Ctx}{n:Nat}{σ:St}{dst:Option Tmp}{ty t t':TypeId}{pos:String}{after:Array Edge}{gd:Option (Nat×Bool)}{x y:Operand}
theorem QF{i:Int}(j:σ.ev n x= .pv (.int .u64 i)):XJ C n ⟨dst,.unOp .neg t x,ty,pos,after,gd⟩ σ ⟨.pv (.int .u64 (IntKind.u64.wrap (-i))),[],[]⟩:=
 .val λa w m R hw=>⟨.int .u64 (IntKind.u64.wrap (-i)),by simp[execOp,hw.int j,Op.unary,Op.intArith],by simp only[Rel,RelP]⟩
end
theorem mV(n:Int)(s: -9223372036854775808<=n)(u:n<=9223372036854775807):FnP prog 166 [.int .i64 n] (· =fr n):=by
 refine FnP.ofC func166 O ntmps166 Xn λ_ _ _ _=>?_
 have q:Lok [n.natAbs%1000000000,n.natAbs/1000000000%1000000000,n.natAbs/1000000000/1000000000]:=λb hb=>by
  simp at hb;omega
 have r:val [n.natAbs%1000000000,n.natAbs/1000000000%1000000000,n.natAbs/1000000000/1000000000]=n.natAbs:=by simp[val];omega
 refine Z1 O<|Z1 O<|Rs O (jC underlying3 underlying261 O)<|A1 O<|Z2 O<|Gp O (λj=>?_) (λj=>?_)
 .have hu:IntKind.u64.wrap (-(IntKind.u64.wrap n))=((n.natAbs:Nat):Int):=Ms s j;refine Z1 O<|Rs O (XJ.cast (v':= .pv (.int .u64 (n.natAbs:Int))) (QF O) (ah (λi=>V.pv (.int .u64 i)) hu))<|A1 O<|Gr O<|Ar 10 O<|Rs O (au UG Xn wQ O Xl Xl O O)<|Rs O (aa call225 (cW (n:=3) _ O Xl q r) O)<|Rs O (aa call224 (bP _ _) O)<|A1 O<|Gt O ?_;have e:sgn (decide (n<0)) n.natAbs=n:=by cases h:decide (n<0)<;>simp at h<;>simp[sgn]<;>omega
  exact⟨_,_,O,O,⟨ax ⟨_,underlying107,O⟩ kP O O O,Xq⟩,ah fr e⟩
 have hu:IntKind.u64.wrap n=((n.natAbs:Nat):Int):=Mw u j;refine Ti<|Z2 O<|Rs O (XJ.cast (v':= .pv (.int .u64 (n.natAbs:Int))) od (ah (λi=>V.pv (.int .u64 i)) hu))<|A1 O<|Rs O (XJ.cast (v':= .pv (.int .u64 (n.natAbs:Int))) od (ah (λi=>V.pv (.int .u64 i)) hu))<|Y2 O<|Rs O (XJ.cast (v':= .pv (.int .u64 (n.natAbs:Int))) od (ah (λi=>V.pv (.int .u64 i)) hu))<|Y2 O<|Rs O (au UG Xn wQ O Xl Xl O O)<|Rs O (aa call225 (cW (n:=3) _ O Xl q r) O)<|Rs O (aa call224 (bP _ _) O)<|A1 O<|Gt O ?_;have e:sgn (decide (n<0)) n.natAbs=n:=by cases h:decide (n<0)<;>simp at h<;>simp[sgn]<;>omega
 exact⟨_,_,O,O,⟨ax ⟨_,underlying107,O⟩ kP O O O,Xq⟩,ah fr e⟩
theorem JN(x y:Int):sgn (decide (x<0) !=decide (y<0)) (x.natAbs*y.natAbs)=x*y:=by
 by_cases hx:x<0<;>by_cases hy:y<0<;>simp only[hx,hy,decide_true,decide_false,bne_self_eq_false,Bool.bne_true,Bool.bne_false,Bool.not_false,Bool.not_true,Bool.true_bne,Bool.false_bne,sgn,WH,UO,WZ]
 .grind
 .grind
 .grind
 grind
theorem gj(x y:Int)(r:(ae x.natAbs).length<=1000000)(s:(ae y.natAbs).length<=1000000):FnP prog 169 [fr x,fr y] (· =fr (x*y)):=by
 refine FnP.ofC func169 O ntmps169 Xn λ_ _ _ _=>?_
 have j:=GH x.natAbs y.natAbs r s;have q:=JN x y;refine Z3 O<|UB 12 O<|Dr 9 O<|TR O (λτ h=>aa call227 j (h.aD O))<|TR O (λτ h=>aa call224 (bP _ _) (h.aD O))<|D1 O ?_;refine⟨Xk,?_⟩;exact VF O ⟨⟨ax ⟨_,underlying107,O⟩ kP O O O,Xq⟩,ah fr q⟩
end
end Go.Proofs.YtkkenamefaegfaaGreatDoor
namespace Go.Proofs
open Go.Proofs.YtkkenamefaegfaaGreatDoor
open Go.Shelf
def Tryz.pI:Go.Shelf.Ren:=⟨fun|156=>141|165=>209|166=>210|169=>211|240=>258|241=>259|276=>296|277=>297|n=>n,fun|31=>53|9=>9|3=>3|4=>4|0=>0|20=>20|72=>298|76=>302|70=>296|37=>155|75=>301|127=>341|164=>366|5=>5|80=>214|n=>n,fun|n=>n⟩
theorem Tryz.Fa:Go.Proofs.Lays.n156 prog Tryz.pI:={
 mixed:=Xk
 f156:=Tryz.func141.trans (ah UF Xk)
 f165:=Tryz.func209.trans (ah UF Xk)
 f166:=Tryz.func210.trans (ah UF Xk)
 f169:=Tryz.func211.trans (ah UF Xk)
 f240:=Tryz.func258.trans (ah UF Xk)
 f241:=Tryz.func259.trans (ah UF Xk)
 f276:=Tryz.func296.trans (ah UF Xk)
 f277:=Tryz.func297.trans (ah UF Xk)
 t0:=Tryz.underlying0
 a0:=Tryz.isAgg0
 z0:=Tryz.sizeOf0
 v0:=Tryz.zeroValue0
 t3:=Tryz.underlying3
 a3:=Tryz.isAgg3
 z3:=Tryz.sizeOf3
 v3:=Tryz.zeroValue3
 t4:=Tryz.underlying4
 a4:=Tryz.isAgg4
 z4:=Tryz.sizeOf4
 v4:=Tryz.zeroValue4
 t9:=Tryz.underlying9
 a9:=Tryz.isAgg9
 z9:=Tryz.sizeOf9
 v9:=Tryz.zeroValue9
 t20:=Tryz.underlying20
 a20:=Tryz.isAgg20
 z20:=Tryz.sizeOf20
 v20:=Tryz.zeroValue20
 t31:=Tryz.underlying53
 a31:=Tryz.isAgg53
 z31:=Tryz.sizeOf53
 v31:=Tryz.zeroValue53
 t37:=Tryz.underlying155
 a37:=Tryz.isAgg155
 z37:=Tryz.sizeOf155
 v37:=Tryz.zeroValue155
 t70:=Tryz.underlying296
 a70:=Tryz.isAgg296
 z70:=Tryz.sizeOf296
 v70:=Tryz.zeroValue296
 t72:=Tryz.underlying298
 a72:=Tryz.isAgg298
 z72:=Tryz.sizeOf298
 v72:=Tryz.zeroValue298
 t75:=Tryz.underlying301
 a75:=Tryz.isAgg301
 z75:=Tryz.sizeOf301
 v75:=Tryz.zeroValue301
 t76:=Tryz.underlying302
 a76:=Tryz.isAgg302
 z76:=Tryz.sizeOf302
 v76:=Tryz.zeroValue302
 t127:=Tryz.underlying341
 a127:=Tryz.isAgg341
 z127:=Tryz.sizeOf341
 v127:=Tryz.zeroValue341
 t164:=Tryz.underlying366
 a164:=Tryz.isAgg366
 z164:=Tryz.sizeOf366
 v164:=Tryz.zeroValue366 }
theorem Tryz.iq:Builder.Extra prog Tryz.pI:={
 sizeBuilder:=Xk
 liesBuilder:=Xk
 t5:=Tryz.underlying5
 a5:=Tryz.isAgg5
 z5:=Tryz.sizeOf5
 v5:=Tryz.zeroValue5
 infoByte:=Xk
 cellsByte:=Xk
 sizeByte:=Xk
 neB5:=by decide }
open Go.RowKit in
theorem Tryz.strings_Join_none (a:Option Addr) (c:Nat) (sep:ByteArray) (w:World):
  Calls prog 141 #[.slice a 0 c,.string sep] w λe w'=>e= .returned (.string ⟨#[]⟩)/\w'=w:=Any.strings_Join_none Tryz.Fa Tryz.iq a c sep w
open Go.RowKit in
theorem Tryz.strings_Join (bk o c:Nat) (xs:List ByteArray) (sep:ByteArray) (w:World) (q:∀ (j:Nat) x,xs[j]? =UF x->w.cell? ⟨bk,o+j,UG⟩=UF (.string x)) (u:bk<w.heap.size) (z:xs.length<=140737488355328) (r:xs.length<=c) (s:(Lib.join (xs.map (·.data.toList)) sep.data.toList).length<=140737488355328):
  Calls prog 141 #[.slice (UF ⟨bk,o,UG⟩) xs.length c,.string sep] w λe w'=>e= .returned (.string ⟨(Lib.join (xs.map (·.data.toList)) sep.data.toList).toArray⟩)/\Below w.heap.size w w':=Any.strings_Join Tryz.Fa Tryz.iq bk o c xs sep w q u z r s
def Tryz.zl:Go.Shelf.Ren:=⟨fun|103=>235|210=>285|206=>317|n=>n,fun|9=>9|4=>4|24=>323|3=>3|n=>n,fun|n=>n⟩
theorem Tryz.Q1:Go.Proofs.Lays.n103 prog Tryz.zl:={
 mixed:=Xk
 f103:=Tryz.func235.trans (ah UF Xk)
 f206:=Tryz.func317.trans (ah UF Xk)
 f210:=Tryz.func285.trans (ah UF Xk)
 t3:=Tryz.underlying3
 a3:=Tryz.isAgg3
 z3:=Tryz.sizeOf3
 v3:=Tryz.zeroValue3
 t4:=Tryz.underlying4
 a4:=Tryz.isAgg4
 z4:=Tryz.sizeOf4
 v4:=Tryz.zeroValue4
 t9:=Tryz.underlying9
 a9:=Tryz.isAgg9
 z9:=Tryz.sizeOf9
 v9:=Tryz.zeroValue9
 t24:=Tryz.underlying323
 a24:=Tryz.isAgg323
 z24:=Tryz.sizeOf323
 v24:=Tryz.zeroValue323 }
open Go.RowKit in
theorem Tryz.strings_CutPrefix (s p:ByteArray) (w:World):
  Calls prog 235 #[.string s,.string p] w λe w'=>e= .returned (.tuple #[.string ⟨(Lib.trimPrefix s.data.toList p.data.toList).toArray⟩,.bool (Lib.hasPrefix s.data.toList p.data.toList)])/\w'=w:=Any.strings_CutPrefix Tryz.Q1 s p w
def Tryz.y6:Go.Shelf.Ren:=⟨fun|122=>150|215=>216|n=>n,fun|3=>3|4=>4|n=>n,fun|n=>n⟩
theorem Tryz.Qf:Go.Proofs.Lays.n122 prog Tryz.y6:={
 mixed:=Xk
 f122:=Tryz.func150.trans (ah UF Xk)
 f215:=Tryz.func216.trans (ah UF Xk)
 t3:=Tryz.underlying3
 a3:=Tryz.isAgg3
 z3:=Tryz.sizeOf3
 v3:=Tryz.zeroValue3
 t4:=Tryz.underlying4
 a4:=Tryz.isAgg4
 z4:=Tryz.sizeOf4
 v4:=Tryz.zeroValue4 }
open Go.RowKit in
theorem Tryz.cmp_Compare_int (x y:Int) (w:World):
  Calls prog 150 #[.int .i64 x,.int .i64 y] w λe w'=>e= .returned (.int .i64 (Lib.compareInt x y))/\w'=w:=Any.cmp_Compare_int Tryz.Qf x y w
def Tryz.zR:Go.Shelf.Ren:=⟨fun|283=>298|n=>n,fun|3=>3|9=>9|4=>4|n=>n,fun|n=>n⟩
theorem Tryz.PF:Go.Proofs.Lays.n283 prog Tryz.zR:={
 mixed:=Xk
 f283:=Tryz.func298.trans (ah UF Xk)
 t3:=Tryz.underlying3
 a3:=Tryz.isAgg3
 z3:=Tryz.sizeOf3
 v3:=Tryz.zeroValue3
 t4:=Tryz.underlying4
 a4:=Tryz.isAgg4
 z4:=Tryz.sizeOf4
 v4:=Tryz.zeroValue4
 t9:=Tryz.underlying9
 a9:=Tryz.isAgg9
 z9:=Tryz.sizeOf9
 v9:=Tryz.zeroValue9 }
open Go.Lib in
theorem Tryz.internal_strconv_small (i:Nat) (h:i<100) (w:World):
  Calls prog 298 #[.int .i64 i] w λe w'=>e= .returned (.string ⟨(Lib.decDigits i).toArray⟩)/\w'=w:=Any.internal_strconv_small Tryz.PF i h w
def Tryz.yp:Go.Shelf.Ren:=⟨fun|284=>299|129=>163|317=>335|318=>336|n=>n,fun|53=>261|3=>3|212=>397|0=>0|4=>4|46=>164|5=>5|9=>9|n=>n,fun|17=>1|n=>n⟩
theorem Tryz.Mi:Go.Proofs.LaysM.n284 prog Tryz.yp:={
 mixed:=Xk
 f129:=Tryz.func163.trans (ah UF Xk)
 f284:=Tryz.func299.trans (ah UF Xk)
 f317:=Tryz.func335.trans (ah UF Xk)
 f318:=Tryz.func336.trans (ah UF Xk)
 t0:=Tryz.underlying0
 a0:=Tryz.isAgg0
 z0:=Tryz.sizeOf0
 v0:=Tryz.zeroValue0
 t3:=Tryz.underlying3
 a3:=Tryz.isAgg3
 z3:=Tryz.sizeOf3
 v3:=Tryz.zeroValue3
 t4:=Tryz.underlying4
 a4:=Tryz.isAgg4
 z4:=Tryz.sizeOf4
 v4:=Tryz.zeroValue4
 t5:=Tryz.underlying5
 a5:=Tryz.isAgg5
 z5:=Tryz.sizeOf5
 v5:=Tryz.zeroValue5
 t9:=Tryz.underlying9
 a9:=Tryz.isAgg9
 z9:=Tryz.sizeOf9
 v9:=Tryz.zeroValue9
 t46:=Tryz.underlying164
 a46:=Tryz.isAgg164
 z46:=Tryz.sizeOf164
 v46:=Tryz.zeroValue164
 t53:=Tryz.underlying261
 a53:=Tryz.isAgg261
 z53:=Tryz.sizeOf261
 v53:=Tryz.zeroValue261
 t212:=Tryz.underlying397
 a212:=Tryz.isAgg397
 z212:=Tryz.sizeOf397
 v212:=Tryz.zeroValue397
 g17:=Xk
 i0:=Xk
 i3:=Xk
 i4:=Xk
 i5:=Xk
 i9:=Xk
 i46:=Xk
 i53:=Xk
 i212:=Xk
 m17:=by kernel_rfl }
open Go.Lib in
theorem Tryz.internal_strconv_numDigits (u:Nat) (q:1<=u) (r:u<18446744073709551616) (w:World) (j:Lib.TabIs prog w "internal/strconv.uint64pow10" .u64 Lib.pow10Tab):
  Calls prog 299 #[.int .u64 u] w λe w'=>e= .returned (.int .i64 (Lib.nDigits u))/\w'=w:=Any.internal_strconv_numDigits Tryz.Mi u q r w j
def Tryz.Ag:Go.Shelf.Ren:=⟨fun|285=>300|n=>n,fun|37=>155|53=>261|3=>3|4=>4|51=>259|9=>9|5=>5|0=>0|n=>n,fun|n=>n⟩
theorem Tryz.QO:Go.Proofs.Lays.n285 prog Tryz.Ag:={
 mixed:=Xk
 f285:=Tryz.func300.trans (ah UF Xk)
 t0:=Tryz.underlying0
 a0:=Tryz.isAgg0
 z0:=Tryz.sizeOf0
 v0:=Tryz.zeroValue0
 t3:=Tryz.underlying3
 a3:=Tryz.isAgg3
 z3:=Tryz.sizeOf3
 v3:=Tryz.zeroValue3
 t4:=Tryz.underlying4
 a4:=Tryz.isAgg4
 z4:=Tryz.sizeOf4
 v4:=Tryz.zeroValue4
 t5:=Tryz.underlying5
 a5:=Tryz.isAgg5
 z5:=Tryz.sizeOf5
 v5:=Tryz.zeroValue5
 t9:=Tryz.underlying9
 a9:=Tryz.isAgg9
 z9:=Tryz.sizeOf9
 v9:=Tryz.zeroValue9
 t37:=Tryz.underlying155
 a37:=Tryz.isAgg155
 z37:=Tryz.sizeOf155
 v37:=Tryz.zeroValue155
 t51:=Tryz.underlying259
 a51:=Tryz.isAgg259
 z51:=Tryz.sizeOf259
 v51:=Tryz.zeroValue259
 t53:=Tryz.underlying261
 a53:=Tryz.isAgg261
 z53:=Tryz.sizeOf261
 v53:=Tryz.zeroValue261 }
open Go.RowKit Go.Sort Go.Lib in
theorem Tryz.internal_strconv_formatBase10 (blk off cap:Nat) (u:Nat) (d:Array UInt8) (w:World) (r:Holds (λ(b:UInt8)=>Value.int .u8 (b.toNat:Int)) w blk off d) (s:u<10^d.size) (j:u<18446744073709551616) (q:d.size<4611686018427387904):
  Calls prog 300 #[.slice (UF ⟨blk,off,UG⟩) d.size cap,.int .u64 u] w λe w'=>
   e= .returned (.tuple #[])/\∃(n v':Nat)(dk:Array UInt8),w'=(putRow (fun(b:UInt8)=>Value.int .u8 (b.toNat:Int)) w blk off dk).drewN n/\FmtInv d.size u 0 v' dk:=Any.internal_strconv_formatBase10 Tryz.QO blk off cap u d w r s j q
def Tryz.x8:Go.Shelf.Ren:=⟨fun|14=>236|16=>286|17=>287|19=>318|20=>319|21=>320|22=>321|23=>322|24=>323|25=>345|27=>347|26=>346|28=>353|29=>355|30=>298|31=>299|32=>300|33=>301|35=>163|34=>335|36=>336|37=>337|38=>338|39=>351|40=>352|n=>n,fun|9=>9|3=>3|22=>261|24=>301|25=>325|4=>4|34=>385|5=>5|36=>164|37=>155|0=>0|39=>387|21=>21|44=>408|47=>341|50=>414|48=>412|2=>2|52=>370|55=>372|59=>397|60=>259|20=>20|61=>398|65=>416|66=>417|67=>214|n=>n,fun|0=>2|1=>3|2=>1|3=>4|4=>5|n=>n⟩
theorem Tryz.Ko:Go.Proofs.LaysPu.n14 prog Tryz.x8:={
 mixed:=Xk
 f14:=Tryz.func236.trans (ah UF Xk)
 f16:=Tryz.func286.trans (ah UF Xk)
 f17:=Tryz.func287.trans (ah UF Xk)
 f19:=Tryz.func318.trans (ah UF Xk)
 f20:=Tryz.func319.trans (ah UF Xk)
 f21:=Tryz.func320.trans (ah UF Xk)
 f22:=Tryz.func321.trans (ah UF Xk)
 f23:=Tryz.func322.trans (ah UF Xk)
 f24:=Tryz.func323.trans (ah UF Xk)
 f25:=Tryz.func345.trans (ah UF Xk)
 f26:=Tryz.func346.trans (ah UF Xk)
 f27:=Tryz.func347.trans (ah UF Xk)
 f28:=Tryz.func353.trans (ah UF Xk)
 f29:=Tryz.func355.trans (ah UF Xk)
 f30:=Tryz.func298.trans (ah UF Xk)
 f31:=Tryz.func299.trans (ah UF Xk)
 f32:=Tryz.func300.trans (ah UF Xk)
 f33:=Tryz.func301.trans (ah UF Xk)
 f34:=Tryz.func335.trans (ah UF Xk)
 f35:=Tryz.func163.trans (ah UF Xk)
 f36:=Tryz.func336.trans (ah UF Xk)
 f37:=Tryz.func337.trans (ah UF Xk)
 f38:=Tryz.func338.trans (ah UF Xk)
 f39:=Tryz.func351.trans (ah UF Xk)
 f40:=Tryz.func352.trans (ah UF Xk)
 t0:=Tryz.underlying0
 a0:=Tryz.isAgg0
 z0:=Tryz.sizeOf0
 v0:=Tryz.zeroValue0
 i0:=Xk
 t2:=Tryz.underlying2
 a2:=Tryz.isAgg2
 z2:=Tryz.sizeOf2
 v2:=Tryz.zeroValue2
 i2:=Xk
 t3:=Tryz.underlying3
 a3:=Tryz.isAgg3
 z3:=Tryz.sizeOf3
 v3:=Tryz.zeroValue3
 i3:=Xk
 t4:=Tryz.underlying4
 a4:=Tryz.isAgg4
 z4:=Tryz.sizeOf4
 v4:=Tryz.zeroValue4
 i4:=Xk
 t5:=Tryz.underlying5
 a5:=Tryz.isAgg5
 z5:=Tryz.sizeOf5
 v5:=Tryz.zeroValue5
 i5:=Xk
 t9:=Tryz.underlying9
 a9:=Tryz.isAgg9
 z9:=Tryz.sizeOf9
 v9:=Tryz.zeroValue9
 i9:=Xk
 t20:=Tryz.underlying20
 a20:=Tryz.isAgg20
 z20:=Tryz.sizeOf20
 v20:=Tryz.zeroValue20
 i20:=Xk
 t21:=Tryz.underlying21
 a21:=Tryz.isAgg21
 z21:=Tryz.sizeOf21
 v21:=Tryz.zeroValue21
 i21:=Xk
 t22:=Tryz.underlying261
 a22:=Tryz.isAgg261
 z22:=Tryz.sizeOf261
 v22:=Tryz.zeroValue261
 i22:=Xk
 t24:=Tryz.underlying301
 a24:=Tryz.isAgg301
 z24:=Tryz.sizeOf301
 v24:=Tryz.zeroValue301
 i24:=Xk
 t25:=Tryz.underlying325
 a25:=Tryz.isAgg325
 z25:=Tryz.sizeOf325
 v25:=Tryz.zeroValue325
 i25:=Xk
 t34:=Tryz.underlying385
 a34:=Tryz.isAgg385
 z34:=Tryz.sizeOf385
 v34:=Tryz.zeroValue385
 i34:=Xk
 c34:=Xk
 t36:=Tryz.underlying164
 a36:=Tryz.isAgg164
 z36:=Tryz.sizeOf164
 v36:=Tryz.zeroValue164
 i36:=Xk
 t37:=Tryz.underlying155
 a37:=Tryz.isAgg155
 z37:=Tryz.sizeOf155
 v37:=Tryz.zeroValue155
 i37:=Xk
 t39:=Tryz.underlying387
 a39:=Tryz.isAgg387
 z39:=Tryz.sizeOf387
 v39:=Tryz.zeroValue387
 i39:=Xk
 t44:=Tryz.underlying408
 a44:=Tryz.isAgg408
 z44:=Tryz.sizeOf408
 v44:=Tryz.zeroValue408
 i44:=Xk
 t47:=Tryz.underlying341
 a47:=Tryz.isAgg341
 z47:=Tryz.sizeOf341
 v47:=Tryz.zeroValue341
 i47:=Xk
 t48:=Tryz.underlying412
 a48:=Tryz.isAgg412
 z48:=Tryz.sizeOf412
 v48:=Tryz.zeroValue412
 i48:=Xk
 t50:=Tryz.underlying414
 a50:=Tryz.isAgg414
 z50:=Tryz.sizeOf414
 v50:=Tryz.zeroValue414
 i50:=Xk
 t52:=Tryz.underlying370
 a52:=Tryz.isAgg370
 z52:=Tryz.sizeOf370
 v52:=Tryz.zeroValue370
 i52:=Xk
 t55:=Tryz.underlying372
 a55:=Tryz.isAgg372
 z55:=Tryz.sizeOf372
 v55:=Tryz.zeroValue372
 i55:=Xk
 t59:=Tryz.underlying397
 a59:=Tryz.isAgg397
 z59:=Tryz.sizeOf397
 v59:=Tryz.zeroValue397
 i59:=Xk
 t60:=Tryz.underlying259
 a60:=Tryz.isAgg259
 z60:=Tryz.sizeOf259
 v60:=Tryz.zeroValue259
 i60:=Xk
 t61:=Tryz.underlying398
 a61:=Tryz.isAgg398
 z61:=Tryz.sizeOf398
 t65:=Tryz.underlying416
 a65:=Tryz.isAgg416
 z65:=Tryz.sizeOf416
 v65:=Tryz.zeroValue416
 i65:=Xk
 t66:=Tryz.underlying417
 a66:=Tryz.isAgg417
 z66:=Tryz.sizeOf417
 v66:=Tryz.zeroValue417
 i66:=Xk
 t67:=Tryz.underlying214
 a67:=Tryz.isAgg214
 z67:=Tryz.sizeOf214
 v67:=Tryz.zeroValue214
 i67:=Xk
 g0:=Xk
 m0:=Xk
 g1:=Xk
 m1:=Xk
 g2:=Xk
 m2:=Xk
 g3:=Xk
 m3:=Xk
 g4:=Xk
 m4:=by kernel_rfl }
open Go.RowKit in
theorem Tryz.strconv_ParseUint_10_at64_ok (s:ByteArray) (j:s.size<=9223372036854775806) (u:Nat) (h:Lib.parseUintB 64 s.data.toList= .ok u) (w:World):
  Calls prog 236 #[.string s,.int .i64 10,.int .i64 64] w λe w'=>e= .returned (.tuple #[.int .u64 u,.nilIface])/\(w'=w\/w'=Lib.bytesWorld w 5 s):=Any.strconv_ParseUint_10_at64_ok Tryz.Ko s j u h w
def Tryz.yZ:Go.Shelf.Ren:=⟨fun|145=>172|220=>234|219=>284|217=>313|225=>314|224=>315|267=>316|266=>343|314=>344|n=>n,fun|9=>9|4=>4|59=>269|3=>3|5=>5|46=>164|146=>399|51=>259|n=>n,fun|1=>0|n=>n⟩
theorem Tryz.O4:Go.Proofs.Lays.n145 prog Tryz.yZ:={
 mixed:=Xk
 f145:=Tryz.func172.trans (ah UF Xk)
 f217:=Tryz.func313.trans (ah UF Xk)
 f219:=Tryz.func284.trans (ah UF Xk)
 f220:=Tryz.func234.trans (ah UF Xk)
 f224:=Tryz.func315.trans (ah UF Xk)
 f225:=Tryz.func314.trans (ah UF Xk)
 f266:=Tryz.func343.trans (ah UF Xk)
 f267:=Tryz.func316.trans (ah UF Xk)
 f314:=Tryz.func344.trans (ah UF Xk)
 t3:=Tryz.underlying3
 a3:=Tryz.isAgg3
 z3:=Tryz.sizeOf3
 v3:=Tryz.zeroValue3
 t4:=Tryz.underlying4
 a4:=Tryz.isAgg4
 z4:=Tryz.sizeOf4
 v4:=Tryz.zeroValue4
 t5:=Tryz.underlying5
 a5:=Tryz.isAgg5
 z5:=Tryz.sizeOf5
 v5:=Tryz.zeroValue5
 t9:=Tryz.underlying9
 a9:=Tryz.isAgg9
 z9:=Tryz.sizeOf9
 v9:=Tryz.zeroValue9
 t46:=Tryz.underlying164
 a46:=Tryz.isAgg164
 z46:=Tryz.sizeOf164
 v46:=Tryz.zeroValue164
 t51:=Tryz.underlying259
 a51:=Tryz.isAgg259
 z51:=Tryz.sizeOf259
 v51:=Tryz.zeroValue259
 t59:=Tryz.underlying269
 a59:=Tryz.isAgg269
 z59:=Tryz.sizeOf269
 v59:=Tryz.zeroValue269
 t146:=Tryz.underlying399
 a146:=Tryz.isAgg399
 z146:=Tryz.sizeOf399
 v146:=Tryz.zeroValue399
 g1:=by kernel_rfl }
open Go.RowKit Go.Lib in
theorem Tryz.strings_Cut (s sep:ByteArray) (m:Int) (w:World) (j:s.size<4294967281) (q:w.cell? ⟨0,0,UG⟩=UF (.int .i64 m)):
  Calls prog 172 #[.string s,.string sep] w λe w'=>e= .returned (.tuple #[.string ⟨(Lib.cut s.data.toList sep.data.toList).1.toArray⟩,.string ⟨(Lib.cut s.data.toList sep.data.toList).2.1.toArray⟩,.bool (Lib.cut s.data.toList sep.data.toList).2.2])/\∃n,w'=w.drewN n:=Any.strings_Cut Tryz.O4 s sep m w j q
def Tryz.zY:Go.Shelf.Ren:=⟨fun|190=>256|125=>93|258=>295|128=>162|129=>163|302=>326|303=>327|304=>328|305=>329|306=>330|307=>331|308=>332|309=>333|310=>334|333=>348|329=>220|330=>221|334=>349|335=>350|336=>164|344=>354|n=>n,fun|31=>53|9=>9|3=>3|46=>164|0=>0|51=>259|53=>261|4=>4|183=>253|182=>252|131=>218|5=>5|218=>309|222=>313|228=>352|229=>353|n=>n,fun|n=>n⟩
theorem Tryz.H4:Go.Proofs.Lays.n190 prog Tryz.zY:={
 mixed:=Xk
 f125:=Tryz.func93.trans (ah UF Xk)
 f128:=Tryz.func162.trans (ah UF Xk)
 f129:=Tryz.func163.trans (ah UF Xk)
 f190:=Tryz.func256.trans (ah UF Xk)
 f258:=Tryz.func295.trans (ah UF Xk)
 f302:=Tryz.func326.trans (ah UF Xk)
 f303:=Tryz.func327.trans (ah UF Xk)
 f304:=Tryz.func328.trans (ah UF Xk)
 f305:=Tryz.func329.trans (ah UF Xk)
 f306:=Tryz.func330.trans (ah UF Xk)
 f307:=Tryz.func331.trans (ah UF Xk)
 f308:=Tryz.func332.trans (ah UF Xk)
 f309:=Tryz.func333.trans (ah UF Xk)
 f310:=Tryz.func334.trans (ah UF Xk)
 f329:=Tryz.func220.trans (ah UF Xk)
 f330:=Tryz.func221.trans (ah UF Xk)
 f333:=Tryz.func348.trans (ah UF Xk)
 f334:=Tryz.func349.trans (ah UF Xk)
 f335:=Tryz.func350.trans (ah UF Xk)
 f336:=Tryz.func164.trans (ah UF Xk)
 f344:=Tryz.func354.trans (ah UF Xk)
 t0:=Tryz.underlying0
 a0:=Tryz.isAgg0
 z0:=Tryz.sizeOf0
 v0:=Tryz.zeroValue0
 t3:=Tryz.underlying3
 a3:=Tryz.isAgg3
 z3:=Tryz.sizeOf3
 v3:=Tryz.zeroValue3
 t4:=Tryz.underlying4
 a4:=Tryz.isAgg4
 z4:=Tryz.sizeOf4
 v4:=Tryz.zeroValue4
 t5:=Tryz.underlying5
 a5:=Tryz.isAgg5
 z5:=Tryz.sizeOf5
 v5:=Tryz.zeroValue5
 t9:=Tryz.underlying9
 a9:=Tryz.isAgg9
 z9:=Tryz.sizeOf9
 v9:=Tryz.zeroValue9
 t31:=Tryz.underlying53
 a31:=Tryz.isAgg53
 z31:=Tryz.sizeOf53
 v31:=Tryz.zeroValue53
 t46:=Tryz.underlying164
 a46:=Tryz.isAgg164
 z46:=Tryz.sizeOf164
 v46:=Tryz.zeroValue164
 t51:=Tryz.underlying259
 a51:=Tryz.isAgg259
 z51:=Tryz.sizeOf259
 v51:=Tryz.zeroValue259
 t53:=Tryz.underlying261
 a53:=Tryz.isAgg261
 z53:=Tryz.sizeOf261
 v53:=Tryz.zeroValue261
 t131:=Tryz.underlying218
 a131:=Tryz.isAgg218
 z131:=Tryz.sizeOf218
 v131:=Tryz.zeroValue218
 t182:=Tryz.underlying252
 a182:=Tryz.isAgg252
 z182:=Tryz.sizeOf252
 v182:=Tryz.zeroValue252
 t183:=Tryz.underlying253
 a183:=Tryz.isAgg253
 z183:=Tryz.sizeOf253
 v183:=Tryz.zeroValue253
 t218:=Tryz.underlying309
 a218:=Tryz.isAgg309
 z218:=Tryz.sizeOf309
 v218:=Tryz.zeroValue309
 t222:=Tryz.underlying313
 a222:=Tryz.isAgg313
 z222:=Tryz.sizeOf313
 v222:=Tryz.zeroValue313
 t228:=Tryz.underlying352
 a228:=Tryz.isAgg352
 z228:=Tryz.sizeOf352
 v228:=Tryz.zeroValue352
 t229:=Tryz.underlying353
 a229:=Tryz.isAgg353
 z229:=Tryz.sizeOf353
 v229:=Tryz.zeroValue353 }
open Go.Sort Go.RowKit in
theorem Tryz.slices_Sort_string (blk off cap:Nat) (ss:List (List UInt8)) (w:World) (r:Holds encStr w blk off ss.toArray) (j:blk<w.heap.size) (q:ss.length<4611686018427387904):
  Calls prog 256 #[.slice (UF ⟨blk,off,UG⟩) ss.length cap] w λe w'=>
   e= .returned (.tuple #[])/\∃n os,w'=grow (putRow encStr (Sort.ahead w n) blk off (ss.mergeSort λx y=>decide (x<=y)).toArray) os:=Any.slices_Sort_string Tryz.H4 blk off cap ss w r j q
def Tryz.zn:Go.Shelf.Ren:=⟨fun|101=>292|208=>325|206=>317|n=>n,fun|9=>9|4=>4|3=>3|n=>n,fun|n=>n⟩
theorem Tryz.Q2:Go.Proofs.Lays.n101 prog Tryz.zn:={
 mixed:=Xk
 f101:=Tryz.func292.trans (ah UF Xk)
 f206:=Tryz.func317.trans (ah UF Xk)
 f208:=Tryz.func325.trans (ah UF Xk)
 t3:=Tryz.underlying3
 a3:=Tryz.isAgg3
 z3:=Tryz.sizeOf3
 v3:=Tryz.zeroValue3
 t4:=Tryz.underlying4
 a4:=Tryz.isAgg4
 z4:=Tryz.sizeOf4
 v4:=Tryz.zeroValue4
 t9:=Tryz.underlying9
 a9:=Tryz.isAgg9
 z9:=Tryz.sizeOf9
 v9:=Tryz.zeroValue9 }
open Go.RowKit Go.Lib in
theorem Tryz.strings_TrimPrefix (s p:ByteArray) (w:World):
  Calls prog 292 #[.string s,.string p] w λe w'=>e= .returned (.string ⟨(Lib.trimPrefix s.data.toList p.data.toList).toArray⟩)/\w'=w:=Any.strings_TrimPrefix Tryz.Q2 s p w
open Go.RowKit Go.Sort in
theorem Tryz.slices_Sort_string_none (p:Option Addr) (cap:Nat) (w:World):
  Calls prog 256 #[.slice p 0 cap] w λe w'=>e= .returned (.tuple #[])/\w'=w:=Any.slices_Sort_string_none Tryz.H4 p cap w
end Go.Proofs
namespace Go.Proofs.YtkkenamefaegfaaGreatDoor
section
theorem DX(w:World)(n:Nat):Below w.heap.size w (w.drewN n):=⟨O,O,O,AT _,λ_ _=>rfl⟩
theorem yK(w:World)(n:Nat)(os:Array Obj):Below w.heap.size w (Go.Sort.grow (w.drewN n) os):=by
 refine⟨O,O,O,?_,λk hk=>?_⟩
 .simp_all
 show(w.heap++os)[k]? =w.heap[k]?;rw[Array.getElem?_append_left hk]
theorem z1(w:World)(e:TypeId)(s:ByteArray):Below w.heap.size w (Lib.bytesWorld w e s):=by
 refine⟨O,O,O,?_,λk hk=>Lib.bytesWorld_at_old w e s k hk⟩;rw[Lib.bytesWorld_size];omega
section
variable {P:Program}{f:FuncId}
theorem lg{w:World}{R:Nat->Prop}{s:ByteArray}{us:List Value}{ps:List PV}(h:RelPL w R (.str s::ps) us):∃vs,us= .string s::vs/\RelPL w R ps vs:=by grind[RelPL,RelP]
theorem nO{w:World}{R:Nat->Prop}{k:IntKind}{n:Int}{us:List Value}{ps:List PV}(h:RelPL w R (.int k n::ps) us):∃vs,us= .int k n::vs/\RelPL w R ps vs:=by grind[RelPL,RelP]
theorem nM{w:World}{R:Nat->Prop}{us:List Value}(h:RelPL w R [] us):us=[]:=by simpa only[RelPL]using h
end
theorem QL{w:World}{R:Nat->Prop}(h:re w R):Lib.TabIs prog w "internal/strconv.uint64pow10" .u64 Lib.pow10Tab:=by
 obtain⟨_,o,h1,t,fz,rfl⟩:=h (1,_) (by simp only[glb];exact Vr);have j:prog.globalNamed "internal/strconv.uint64pow10" =UF 1:=Xk;simp only[Lib.TabIs,World.var?,j,Option.bind_some,h1];rfl
theorem P0{w:World}{R:Nat->Prop}(h:re w R):∃m:Int,w.cell? ⟨0,0,UG⟩=UF (.int .i64 m):=by
 obtain⟨_,o,h1,m,t,fz,rfl⟩:=h (0,_) (by simp only[glb];exact Ur _ Vr);exact⟨m,by simp[World.cell?,h1]⟩
theorem Iz(s sep:ByteArray)(j:s.size<4294967281):FnP prog 172 [.str s,.str sep] (· = .tup [.str ⟨(Lib.cut s.data.toList sep.data.toList).1.toArray⟩,.str ⟨(Lib.cut s.data.toList sep.data.toList).2.1.toArray⟩,.bool (Lib.cut s.data.toList sep.data.toList).2.2]):=by
 intro w R us hG hR hrel;obtain⟨v11,rfl,h11⟩:=lg hrel;obtain⟨v12,rfl,h12⟩:=lg h11;obtain rfl:=nM h12;obtain⟨m,hm⟩:=P0 hG;exact(Tryz.strings_Cut s sep m w j hm).mono λe w' ⟨he,n,hw⟩=>⟨_,_,he,O,by rw[hw];exact DX w n,by simp[RelP,RelPL]⟩
theorem wC(s p:ByteArray):FnP prog 235 [.str s,.str p] (· = .tup [.str ⟨(Lib.trimPrefix s.data.toList p.data.toList).toArray⟩,.bool (Lib.hasPrefix s.data.toList p.data.toList)]):=by
 intro w R us hG hR hrel;obtain⟨v11,rfl,h11⟩:=lg hrel;obtain⟨v12,rfl,h12⟩:=lg h11;obtain rfl:=nM h12;exact(Tryz.strings_CutPrefix s p w).mono λe w' ⟨he,hw⟩=>⟨_,_,he,O,by rw[hw];exact Below.refl _ _,by simp[RelP,RelPL]⟩
theorem vJ(s p:ByteArray):FnP prog 292 [.str s,.str p] (· = .str ⟨(Lib.trimPrefix s.data.toList p.data.toList).toArray⟩):=by
 intro w R us hG hR hrel;obtain⟨v11,rfl,h11⟩:=lg hrel;obtain⟨v12,rfl,h12⟩:=lg h11;obtain rfl:=nM h12;exact(Tryz.strings_TrimPrefix s p w).mono λe w' ⟨he,hw⟩=>⟨_,_,he,O,by rw[hw];exact Below.refl _ _,by simp only[RelP]⟩
theorem wR(s:ByteArray)(j:s.size<=9223372036854775806)(u:Nat)(q:Lib.parseUintB 64 s.data.toList= .ok u):FnP prog 236 [.str s,.int .i64 10,.int .i64 64] (· = .tup [.int .u64 (u:Int),.niliface]):=by
 intro w R us hG hR hrel;obtain⟨v11,rfl,h11⟩:=lg hrel;obtain⟨v12,rfl,h12⟩:=nO h11;obtain⟨v13,rfl,h13⟩:=nO h12;obtain rfl:=nM h13;refine(Tryz.strconv_ParseUint_10_at64_ok s j u q w).mono λe w' ⟨he,hw⟩=>⟨_,_,he,O,?_,by simp[RelP,RelPL]⟩
 rcases hw with rfl|rfl
 .exact Below.refl _ _
 exact z1 w _ s
theorem IA(x y:Int):FnP prog 150 [.int .i64 x,.int .i64 y] (· = .int .i64 (if x<y then-1 else if y<x then 1 else 0)):=by
 intro w R us hG hR hrel;obtain⟨v11,rfl,h11⟩:=nO hrel;obtain⟨v12,rfl,h12⟩:=nO h11;obtain rfl:=nM h12;exact(Tryz.cmp_Compare_int x y w).mono λe w' ⟨he,hw⟩=>⟨_,.int .i64 (if x<y then-1 else if y<x then 1 else 0),he,O,by rw[hw];exact Below.refl _ _,by simp only[RelP];rfl⟩
theorem KW{w:World}{R:Nat->Prop}(l:List ByteArray):RelPL w R (bW l) (l.map Value.string):=by
 induction l with
 |nil=>exact RelPL.nil
 |cons x l ih=>exact RelPL.cons (by simp only[RelP]) ih
theorem q8{w:World}{R:Nat->Prop}:∀{l:List ByteArray}{us:List Value},RelPL w R (bW l) us->us=l.map Value.string
 |[],us,h=>by simpa[RelPL]using h
 | x::l,us,h=>by
   simp only[cu,RelPL]at h;obtain⟨u,vs,rfl,h1,h2⟩:=h;simp only[RelP]at h1;rw[h1,q8 (l:=l) h2];rfl
theorem Qs(xs:List ByteArray)(sep:ByteArray)(s:xs.length<=140737488355328)(q:(Lib.join (xs.map (·.data.toList)) sep.data.toList).length<=140737488355328):FnP prog 141 [bh xs,.str sep] (· = .str ⟨(Lib.join (xs.map (·.data.toList)) sep.data.toList).toArray⟩):=by
 intro w R us hG hR hrel;simp only[RelPL]at hrel;obtain⟨u0,_,rfl,k0,u1,_,rfl,k1,rfl⟩:=hrel;simp only[RelP]at k1;subst k1;simp only[bh,RelP]at k0;obtain⟨A,c,rfl,hc,_,_,_,h5⟩:=k0;by_cases hne:bW xs=[]
 .have hx:xs=[]:=by simpa using hne
  subst hx;exact(Tryz.strings_Join_none A c sep w).mono λe w' ⟨he,hw⟩=>⟨_,_,he,O,by rw[hw];exact Below.refl _ _,by simp only[RelP];rfl⟩
 obtain ⟨b,off,us,rfl,hr,hs⟩:=h5 hne;have e:us=xs.map Value.string:=q8 hr;subst e;exact(Tryz.strings_Join b off c xs sep w (λj x hj=>by
  have r:j<xs.length:=(TE.1 hj).1;rw[hs.2 j (by simpa using r),VO,hj];rfl) (hR b hs.1) s hc q).mono λe w' ⟨he,hb⟩=>⟨_,_,he,O,hb,by simp only[RelP]⟩
end
def kF(c:UInt8):Bool:=decide (48<=c.toNat)&&decide (c.toNat<=57)
def eO(l:List UInt8):Nat:=l.foldl (λa c=>a*10+(c.toNat-48)) 0
theorem xG(l:List UInt8)(a:Nat):l.foldl (λa c=>a*10+(c.toNat-48)) a=a*10^l.length+eO l:=by
 induction l generalizing a with
 |nil=>simp[eO]
 | cons c l ih=>
   have e:eO (c::l)=(0*10+(c.toNat-48))*10^l.length+eO l:=by rw[eO,U0,ih]
   rw[U0,ih,e,IT,Um,Xe,Xi,T8,U1,Uo 10,Nat.add_assoc]
theorem Al(a b:List UInt8):eO (a++b)=eO a*10^b.length+eO b:=by
 rw[eO,VN,xG];rfl
theorem Ao{l:List UInt8}(h:∀c∈l,kF c=VA):eO l<10^l.length:=by
 suffices ∀a,l.foldl (λa c=>a*10+(c.toNat-48)) a<(a+1)*10^l.length by simpa[eO]using this 0
 induction l with
 |nil=>intro a;simp
 | cons c l ih=>
   intro a;have hc:=h c Xn;simp only[kF,du,Tz]at hc;have:=ih (λd hd=>h d (by simp[hd])) (a*10+(c.toNat-48));rw[U0,IT,Um,Uo (10^l.length),<-U1];exact TM this (UK _ Xj)
theorem DG{l:List UInt8}(h:∀c∈l,kF c=VA)(a:Nat)(j:(a+1)*10^l.length<=1000000000000000000):Lib.parseUintM (2^64-1) a l= .ok (l.foldl (λa c=>a*10+(c.toNat-48)) a):=by
 induction l generalizing a with
 |nil=>rfl
 | cons c l ih=>
   have hc:=h c Xn;simp only[kF,du,Tz]at hc;rw[IT,Um,Uo (10^l.length),<-U1]at j;have q:1<=10^l.length:=Nat.pow_pos Xl;have r:(a+1)*10*1<=(a+1)*10*10^l.length:=T9 _ q;have s:(a+1)*10<=1000000000000000000:=Xj;rw[Lib.parseUintM,By hc,sh Xj,sh Xj,U0];exact ih (λd hd=>h d (by simp[hd])) _ (AS (UK _ Xj) j)
theorem KG{l:List UInt8}(h:∀c∈l,kF c=VA)(j:l≠[])(q:l.length<=9):Lib.parseUintB 64 l= .ok (eO l):=by
 rw[Lib.parseUintB,sh j];refine DG h 0 ?_;have:10^l.length<=10^9:=UY Xl q;omega
def aA(s:ByteArray):List UInt8:=Lib.trimPrefix s.data.toList [45]
def gA(s:ByteArray):Bool:=Lib.hasPrefix s.data.toList [45]
def rdZ(s:ByteArray):Int:=sgn (gA s) (eO (aA s))
theorem read_step{D:List UInt8}{z lo k V:Nat}(r:z<=D.length)(q:lo=z-9)(h:eO D=eO (D.take z)*1000000000^k+V):
  eO D=eO (D.take lo)*1000000000^(k+1)+(V+1000000000^k*eO ((D.drop lo).take (z-lo))):=by
 have e:D.take z=D.take lo++(D.drop lo).take (z-lo):=by
  rw[<-List.take_add,show lo+(z-lo)=z by omega]
 have j:((D.drop lo).take (z-lo)).length=z-lo:=by simp;omega
 rw[e,Al,j]at h;rw[h];generalize eO ((D.drop lo).take (z-lo))=u;by_cases h9:9<=z
 .have:z-lo=9:=Xj;rw[this,show(10:Nat)^9=1000000000 from O,Um,Xe,Uo u,U1,Uo 1000000000 (1000000000^k)];omega
 have:lo=0:=Xj;subst this;rw[WI];simp only[eO,List.foldl_nil,Xi,T8];rw[Uo u,Wi]
attribute [simp] eu
theorem Ew(l:List Nat)(n:Nat):cA l++[.int .u64 (n:Int)]=cA (l++[n]):=by simp[cA]
def mD(D:List UInt8)(z:Nat):Nat:=eO ((D.drop (z-9)).take (z-(z-9)))
theorem ME(D:List UInt8)(a b:Nat):((⟨D.toArray⟩:ByteArray).extract a b).data.toList=(D.drop a).take (b-a):=by
 rw[ByteArray.extract_mk]
theorem Fw{D:List UInt8}(j:∀c∈D,kF c=VA){z:Nat}(q:0<z/\z<=D.length):Lib.parseUintB 64 ((⟨D.toArray⟩:ByteArray).extract (z-9) z).data.toList= .ok (mD D z):=by
 rw[ME];refine KG (λc hc=>j c (Vq (Vp hc))) (λe=>?_) Xo;have:=ah List.length e;simp at this;omega
theorem qV{D:List UInt8}(q:∀c∈D,kF c=VA)(z:Nat):mD D z<1000000000:=by
 have:=Ao (l:=(D.drop (z-9)).take (z-(z-9))) (λc hc=>q c (Vq (Vp hc)));refine TM this ?_;have j:((D.drop (z-9)).take (z-(z-9))).length<=9:=by simp;omega
 exact AS (UY Xl j) Xl
section
theorem fP(s:ByteArray)(E:∀c∈aA s,kF c=VA)(H:(aA s).length<=1000000):FnP prog 173 [.str s] (· =fr (rdZ s)):=by
 refine FnP.ofC func173 O ntmps173 Xn λ_ _ _ _=>?_
 have q:FnP prog 235 [.str s,.str ⟨#[45]⟩] (· = .tup [.str ⟨(aA s).toArray⟩,.bool (gA s)]):=wC s ⟨#[45]⟩;have r:(⟨(aA s).toArray⟩:ByteArray).size=(aA s).length:=by simp[ByteArray.size]
 refine Z1 O<|Z1 O<|Rs O (aa call235 q O)<|Ar 5 O<|Z1 O<|Tj (Tp 5 1 1 261 O O)<|Z1 O<|Rs O (XJ.cast (v':= pIi ((aA s).length:Int)) (IL underlying9 O) (ah (fun(i:Nat)=>pIi (i:Int)) r))<|A1 O ?_;refine Gz O (st:=λXr:Int×List Nat=>([(2,UG),(3,UG),(4,UG),(5,UF (.gsl 1 1 Xr.2.length)),(6,UF (pIi Xr.1))],[(0,UG),(1,UF (.gro 261 (cA Xr.2)))])) 2
  (I:=λXr=>Xr.1<=((aA s).length:Int)/\ -9<Xr.1/\Lok Xr.2/\Xr.2.length+Xr.1.toNat<=(aA s).length/\eO (aA s)=eO ((aA s).take Xr.1.toNat)*1000000000^Xr.2.length+val Xr.2) (μ:=λXr=>Xr.1.toNat) (x0:=(((aA s).length:Int),[])) (WA O) (⟨Int.le_refl _,Xj,λ_ h=>absurd h Xn,Xn,by simp[val]⟩) ?_
 rintro⟨z,l⟩ ⟨hz,hz9,hok,hll,hv⟩;try simp only at hz hz9 hok hll hv ⊢
 refine Z2 O<|Gp O (λj=>?_) (λj=>?_)
 .refine Ti ?_
  repeat apply Tv
  refine AW.block ?_;have G:0<z:=j;have u:(if z-9>0 then z-9 else 0)=((z.toNat-9:Nat):Int):=by split<;>omega
  have A:z=((z.toNat:Nat):Int):=Xj;have B:=Fw E (z:=z.toNat) ⟨Xj,Xj⟩;exact Z3 O<|Rs O (XJ.cast (v':= pIi ((z.toNat-9:Nat):Int)) (BM O O) (ah (λi=>pIi i) u))<|Rs O (XJ.cast (v':= pIi ((z.toNat:Nat):Int)) od (ah (λi=>pIi i) A))<|A1 O<|Rs O (aa call236 (wR _ Xo _ B) O)<|Ar 5 O<|Gr O<|Ar 5 O<|Z3 O<|⟨(z-9,l++[mD (aA s) z.toNat]),Tl [0,3] ⟨O,O,O,by simp only[IN,TP];rfl,O,Xq⟩ ⟨O,ah (λc=>UF (Ob.gro 261 c)) (Ew _ _),Xq⟩ O O Xl O,⟨Xj,Xj,hok.append (λb hb=>by rw[TF.1 hb];exact qV E _),by rw[IN,TP];omega,by rw[IN,TP,dq,val_one,show(z-9).toNat=z.toNat-9 by omega];exact read_step Xj O hv⟩,Xj⟩
 refine Gx O<|Tj (Tn 1 O O) ?_;have D:z.toNat=0:=Xj;rw[D,WI,show eO []=0 from O,Xi,T8]at hv;exact Z2 O<|Rs O (aa call225 (cW l O Xj hok hv.symm) O)<|Rs O (aa call224 (bP _ _) O)<|A1 O<|VF O ⟨⟨ax ⟨_,underlying107,O⟩ kP O O O,Xq⟩,O⟩
end
section
open Mk
theorem gy(s:ByteArray)(k:Nat)(h:k<s.size):s.data.toList.getD k 0=s[k]'h:=by
 rw[TO,IS (by simpa using h)];rfl
def qu(c:UInt8):Bool:= !(((decide ((c.toNat:Int)>=97)&&decide ((c.toNat:Int)<=122))||(decide ((c.toNat:Int)>=48)&&decide ((c.toNat:Int)<=57)))||((c.toNat:Int)==45))
theorem x7(k:Nat)(u:0<k)(c:UInt8):qu c= !rM k c.toNat:=by
 unfold qu rM;generalize c.toNat=n;have j:decide (k≠0)=VA:=TD Xj;have q:((n:Int)==45)=(n==45):=by grind
 have r:(decide ((n:Int)>=97)&&decide ((n:Int)<=122))=decide (97<=n/\n<=122):=by
  rw[TY];simp;omega
 have s:(decide ((n:Int)>=48)&&decide ((n:Int)<=57))=decide (48<=n/\n<=57):=by
  rw[TY];simp;omega
 rw[j,q,r,s];cases decide (97<=n/\n<=122)<;>cases (n==45)<;>cases decide (48<=n/\n<=57)<;>rfl
theorem LK(s:ByteArray)(h:s.size=0\/12<s.size):fE s=VC:=by
 unfold fE;rw[tK];have:s.data.toList.length=s.size:=Ua;rw[this];rcases h with h|h
 .grind
 grind
theorem O7(n:Nat):rM 0 n=decide (97<=n/\n<=122):=by unfold rM;simp
def CK(s:ByteArray):Bool:=((((s.size:Int)==0)||decide ((s.size:Int)>12))||decide (((s.data.toList.getD 0 0).toNat:Int)<97))||decide (((s.data.toList.getD 0 0).toNat:Int)>122)
theorem OZ{s:ByteArray}(h:CK s=VA):fE s=VC:=by
 unfold CK at h;simp only[Ub,U6,Tz]at h;by_cases hl:s.size=0\/12<s.size
 .exact LK s hl
 refine yI s 0 Xj ?_;rw[O7];exact TL Xj
theorem MY{s:ByteArray}(h:CK s=VC):(1<=s.size/\s.size<=12)/\rM 0 (s.data.toList.getD 0 0).toNat=VA:=by grind[CK,T5,O7]
theorem OT{s:ByteArray}(q:rM 0 (s.data.toList.getD 0 0).toNat=VA){k:Nat}(j:k<s.size)(hc:qu (s[k]'j)=VA):fE s=VC:=by grind[gy,UJ,O7,qu,yI,x7]
theorem L4{s:ByteArray}(q:rM 0 (s.data.toList.getD 0 0).toNat=VA){k:Nat}(j:k<s.size)(hc:qu (s[k]'j)=VC):rM k (s.data.toList.getD k 0).toNat=VA:=by grind[UJ,gy,x7]
theorem kA(s:ByteArray)(G:s.size<=9223372036854775807):FnP prog 105 [.str s] (· = .bool (fE s)):=by
 refine FnP.of func105 O ntmps105 Xn λ_ _ _ _=>?_
 have D:s.data.toList.length=s.size:=Ua;refine Z1 O ?_;have u:((s.size:Int)==0||decide ((s.size:Int)>12))=VC->0<s.size:=λh=>by simp only[T5,UU,U7]at h;omega
 refine Z4 O ?_;apply Tt 4 7 11 [8,9,10] O Xt
 .intro hb3;exact Ar 4 O<|Tm Xs O O O
 .intro hb3;exact Ar 4 O<|Tm Xs O O O
 refine A1 O ?_;apply Tt 4 12 16 [13,14,15] O Xt
 .intro hb8;exact Ar 4 O<|Tm Xs O O O
 .intro hb8;have A:=u hb8;exact A1 O<|Rg O (bB 0 underlying9 O O O A)<|Rg O ((ba O O O).cast (v':= .pv (.bool (decide (((s.data.toList.getD 0 0).toNat:Int)<97)))) (by rw[gy s 0 A]))<|A1 O<|Tm Xs O O O
 refine A1 O ?_;apply Tt 4 17 21 [18,19,20] O Xt
 .intro hb13;exact Ar 4 O<|Tm Xs O O O
 .intro hb13;have A:=u (by rw[T5]at hb13;exact hb13.1);exact A1 O<|Rg O (bB 0 underlying9 O O O A)<|Rg O ((ba O O O).cast (v':= .pv (.bool (decide (((s.data.toList.getD 0 0).toNat:Int)>122)))) (by rw[gy s 0 A]))<|A1 O<|Tm Xs O O O
 refine Gc O (λq=>?_) (λq=>?_)
 .exact Z1 O<|VF O<|ah PV.bool (OZ q).symm
 obtain⟨hsz2,hok0⟩:=MY q;refine Ti<|Z1 O<|Gz O (st:=λXr:Nat=>([(0,UG),(3,UF (pIi Xr))],[])) 0
  (I:=λXr=>Xr<=s.size/\∀j,j<Xr->rM j (s.data.toList.getD j 0).toNat=VA) (μ:=λXr=>s.size-Xr) (x0:=0) (Tk (aS O) trivial O O) (⟨aJ _,λj hj=>absurd hj (VP _)⟩) ?_
 rintro k ⟨hk,hall⟩;refine Z4 O<|Gp O (λB=>?_) (λB=>?_)
 .have hlt:k<s.size:=Xj;have E:=gy s k hlt;refine Ti<|Z2 O<|Rs O (bB k underlying9 O O O hlt)<|Y2 O ?_;apply Tu 5 32 37 [33,34,35,36] O Xt
  .intro hb4;exact Y2 O<|Rg O (bB k underlying9 O O O hlt)<|Y2 O<|Tm Xs O O O
  .intro hb4;exact Ar 5 O<|Tm Xs O O O
  refine A1 O ?_;apply Tt 11 38 49 [39,40,41,42,43,44,45,46,47,48] O Xt
  .intro hb10;exact Ar 11 O<|Tm Xs O O O
  .intro hb10;refine Y2 O<|Rg O (bB k underlying9 O O O hlt)<|Y2 O ?_;apply Tu 5 43 48 [44,45,46,47] O Xt
   .intro hb15;exact Y2 O<|Rg O (bB k underlying9 O O O hlt)<|Y2 O<|Tm Xs O O O
   .intro hb15;exact Ar 5 O<|Tm Xs O O O
   exact A1 O<|Tm Xs O O O
  refine A1 O ?_;apply Tt 5 50 55 [51,52,53,54] O Xt
  .intro hb22;exact Ar 5 O<|Tm Xs O O O
  .intro hb22;exact Y2 O<|Rg O (bB k underlying9 O O O hlt)<|Y2 O<|Tm Xs O O O
  refine A1 O<|Gc O (λr=>?_) (λr=>?_)
  .have hc:qu (s[k]'hlt)=VA:=r;exact Z1 O<|VF O<|ah PV.bool (OT hok0 hlt hc).symm
  have hc:qu (s[k]'hlt)=VC:=r;have z:=L4 hok0 hlt hc;exact Ti<|Z3 O<|⟨(k+1),Tk (aS O) trivial O O,⟨Xj,λj hj=>by rcases Vd.1 hj with h|rfl;exact hall j h;exact z⟩,Xj⟩
 exact Gx O<|Z1 O<|VF O<|ah PV.bool (by rw[BL s (λj hj=>hall j Xj),TD hsz2.1,TD hsz2.2];rfl)
end
section
open Mk
def oS(D:List UInt8):Bool:= !D.isEmpty&&decide (D.length<=400)&&(D.getD 0 0 !=48)&&D.all kF
def aN(s:ByteArray):Bool:=(s.toList==(⟨#[48]⟩:ByteArray).toList)||oS (aA s)
theorem pO{s:ByteArray}(h:(s.toList==(⟨#[48]⟩:ByteArray).toList)=VA):aN s=VA:=by rw[aN,h];rfl
theorem lM{s:ByteArray}(h:(s.toList==(⟨#[48]⟩:ByteArray).toList)=VC):aN s=oS (aA s):=by rw[aN,h];rfl
def oP(x:ByteArray):Bool:=(((x.toList==(⟨#[]⟩:ByteArray).toList)||decide ((x.size:Int)>400))||((((x.data.toList.getD 0 0).toNat:Nat):Int)==48))
theorem mJ(x:ByteArray):(x.toList==(⟨#[]⟩:ByteArray).toList)=x.data.toList.isEmpty:=by
 rw[Lib.toList_data,Lib.toList_data];cases x.data.toList with
 |nil=>rfl
 |cons a l=>rfl
theorem Sq(c:UInt8):(((c.toNat:Nat):Int)==48)=(c==48):=by
 rw[TY,U6,U6];constructor
 .intro h;exact Wy.1 (show c.toNat=(48:UInt8).toNat from Int.ofNat_inj.1 h)
 .intro h;rw[h];rfl
theorem xJ(D:List UInt8):oP ⟨D.toArray⟩= !(!D.isEmpty&&decide (D.length<=400)&&(D.getD 0 0 !=48)):=by
 have j:(⟨D.toArray⟩:ByteArray).size=D.length:=by simp[ByteArray.size]
 rw[oP,mJ,Sq,j];have q:decide ((D.length:Int)>400)= !decide (D.length<=400):=by
  rw[TY];simp;omega
 rw[q];show(D.isEmpty|| !decide (D.length<=400)||(D.getD 0 0==48))=_;rw[bne];cases D.isEmpty<;>cases decide (D.length<=400)<;>cases (D.getD 0 0==48)<;>rfl
theorem tV{D:List UInt8}(h:oP ⟨D.toArray⟩=VA):oS D=VC:=by
 rw[xJ]at h;rw[oS];simp only[Vg]at h;rw[h];rfl
theorem vg{D:List UInt8}(h:oP ⟨D.toArray⟩=VC):oS D=D.all kF/\0<D.length/\D.length<=400:=by
 rw[xJ]at h;simp only[Bool.not_eq_false']at h;rw[oS,h];simp only[du,Tz]at h;refine⟨O,?_,h.1.2⟩;cases D with
 |nil=>simp at h
 |cons a l=>simp
def LG(c:UInt8):Bool:=decide ((c.toNat:Int)<48)||decide ((c.toNat:Int)>57)
theorem BW(c:UInt8):LG c= !kF c:=by
 rw[LG,kF,TY];simp;omega
theorem E5{D:List UInt8}{k:Nat}(j:k<D.length)(h:LG (D[k]'j)=VA):D.all kF=VC:=by grind[BW,V0,aq]
theorem zi{D:List UInt8}(h:∀j,j<D.length->kF (D.getD j 0)=VA):D.all kF=VA:=by
 rw[OF];intro c hc;obtain⟨j,hj,rfl⟩:=Ux hc;have:=h j hj;rwa [TO,IS hj]at this
theorem zx{D:List UInt8}{k:Nat}(j:k<D.length)(h:LG (D[k]'j)=VC):kF (D.getD k 0)=VA:=by
 rw[BW]at h;rw[TO,IS j];simpa using h
theorem vpos{x:ByteArray}(h:((x.toList==(⟨#[]⟩:ByteArray).toList)||decide ((x.size:Int)>400))=VC):0<x.size:=by
 rw[T5,mJ]at h;have j:=h.1;rw[Lib.size_eq];cases e:x.data.toList with
 |nil=>rw[e]at j;simp at j
 |cons a l=>simp
theorem eZ(s:ByteArray):FnP prog 248 [.str s] (· = .bool (aN s)):=by
 refine FnP.of func248 O ntmps248 Xn λ_ _ _ _=>?_
 have E:FnP prog 292 [.str s,.str ⟨#[45]⟩] (· = .str ⟨(aA s).toArray⟩):=vJ s ⟨#[45]⟩;refine Z1 O<|Z2 O<|Gc O (λu=>?_) (λu=>?_)
 .exact Z1 O<|VF O<|ah PV.bool (pO u).symm
 have hs:aN s=oS (aA s):=lM u;clear u;generalize aA s=D at*;have G:=@tV D;have H:=@vg D;have M:(⟨D.toArray⟩:ByteArray).data.toList=D:=rfl;have T:(⟨D.toArray⟩:ByteArray).size=D.length:=by simp[ByteArray.size]
 refine Ti<|Z1 O<|Rs O (aa call292 E O)<|A1 O<|Z3 O ?_;apply Tt 4 12 16 [13,14,15] O Xt
 .intro hb2;exact Ar 4 O<|Tm Xs O O O
 .intro hb2;exact Ar 4 O<|Tm Xs O O O
 refine A1 O ?_;apply Tt 4 17 21 [18,19,20] O Xt
 .intro hb7;exact Ar 4 O<|Tm Xs O O O
 .intro hb7;have L:=vpos hb7;exact A1 O<|Rg O (bB 0 underlying9 O O O L)<|Rg O ((ba O O O).cast (v':= .pv (.bool ((((((⟨D.toArray⟩:ByteArray).data.toList.getD 0 0).toNat:Nat):Int)==48)))) (by rw[gy _ 0 L]))<|A1 O<|Tm Xs O O O
 refine Gc O (λq=>?_) (λq=>?_)
 .have J:oP ⟨D.toArray⟩=VA:=q;exact Z1 O<|VF O<|ah PV.bool (hs.trans (G J)).symm
 obtain⟨hg2,hD0,hD4⟩:=H (show oP ⟨D.toArray⟩=VC from q);refine Ti<|Z4 O<|Gz O (st:=λXr:Nat=>([(23,UG),(24,UG),(25,UF (pIi Xr))],[])) 0
  (I:=λXr=>Xr<=D.length/\∀j,j<Xr->kF (D.getD j 0)=VA) (μ:=λXr=>D.length-Xr) (x0:=0) (Tk (aS O) trivial O O) (⟨aJ _,λj hj=>absurd hj (VP _)⟩) ?_
 rintro k ⟨hk,hall⟩;refine Z1 O<|Gp O (λB=>?_) (λB=>?_)
 .have hlt:k<D.length:=Xj;have J:=pL hlt;have U:=qa hlt;have z:=E5 hlt;have A:=zx hlt;refine Ti ?_
  repeat apply Tv
  refine AW.block ?_;generalize D[k]=c at z A J ⊢;refine Z1 O<|A2 O Xm ?_;refine A1 O<|Z3 O ?_;apply Tt 3 31 34 [32,33] O Xt
  .intro hb2;exact Y3 O<|Tm Xs O O O
  .intro hb2;exact Y3 O<|Tm Xs O O O
  refine Gc O (λr=>?_) (λr=>?_)
  .have hc:=z r;exact Z1 O<|VF O<|ah PV.bool (by rw[hs,hg2,hc])
  have hc:=A r;exact Ti<|Z2 O<|⟨(k+1),Tk (aS O) trivial O O,⟨Xj,λj hj=>by rcases Vd.1 hj with h|rfl;exact hall j h;exact hc⟩,Xj⟩
 exact Gx O<|Z1 O<|VF O<|ah PV.bool (by rw[hs,hg2,zi λj hj=>hall j Xj])
theorem bE{s:ByteArray}(h:aN s=VA):(∀c∈aA s,kF c=VA)/\(aA s).length<=400:=by
 rw[aN,Ub]at h;rcases h with h|h
 .rw[Lib.toList_data,Lib.toList_data,U6]at h;have e:aA s=[48]:=by rw[aA,h];rfl
  rw[e];exact⟨λc hc=>by rw[TF.1 hc];rfl,Xl⟩
 simp only[oS,du,Tz,OF]at h;exact⟨h.2,h.1.1.2⟩
theorem QV(s:ByteArray):(rdZ s).natAbs=eO (aA s):=uW _ _
theorem Q3{n k:Nat}(h:n<=9*k):10^n<=1000000000^k:=by
 rw[show(1000000000:Nat)=10^9 from O,<-Nat.pow_mul];exact UY Xl h
theorem cD{a b:Nat}(h:a<=b):(ae a).length<=(ae b).length:=aR.2 (Wq h (aR.1 (AT _)))
theorem nL{s:ByteArray}(h:aN s=VA):(ae (rdZ s).natAbs).length<=400:=by
 obtain⟨h1,h2⟩:=bE h;rw[QV];obtain⟨k,hk⟩:∃k,k=400:=⟨_,O⟩;rw[<-hk]at h2 ⊢;exact aR.2 (TM (Ao h1) (Q3 Xj))
theorem nr(s:ByteArray)(h:aN s=VA):FnP prog 252 [.str s] (· =fr (rdZ s)):=by
 refine FnP.ofC func252 O ntmps252 Xn λ_ _ _ _=>?_
 have j:=bE h;exact Z1 O<|Z1 O<|Rs O (aa call173 (fP s j.1 Xj) O)<|A1 O<|VF O ⟨⟨ax ⟨_,underlying107,O⟩ kP O O O,Xq⟩,O⟩
theorem FD(a b:ByteArray)(z:aN a=VA)(A:aN b=VA):FnP prog 249 [.str a,.str b] (· = .int .i64 (rdZ a-rdZ b).sign):=by
 refine FnP.of func249 O ntmps249 Xn λ_ _ _ _=>?_
 have q:=eZ a;have r:=eZ b;have B:=nL z;have D:=nL A;have s:=nr a z;have u:=nr b A;rw[z]at q;rw[A]at r;refine Z1 O<|Z1 O<|Rs O (aa call248 q O)<|Y2 O ?_;apply Tt 4 8 12 [9,10,11] O Xt
 .intro hb3;exact Ar 4 O<|Tm Xs O O O
 .intro hb3;exact A1 O<|Rg O (aa call248 r O)<|Y2 O<|Tm Xs O O O
 refine Gc O (λj=>absurd j Xn) (λj=>?_);exact Ti<|Z1 O<|Rs O (aa call252 s O)<|A1 O<|Rs O (aa call252 u O)<|Rs O (aa call226 (jf _ _ Xj Xj) O)<|A1 O<|VF O O
def Qj(x y:Int):Prop:=FnP prog 229 [fr x,fr y] (· =fr (Int.gcd x y:Int))
def fT(s:ByteArray):ByteArray:=⟨(Lib.cut s.data.toList [47]).1.toArray⟩
def ky(s:ByteArray):ByteArray:=⟨(Lib.cut s.data.toList [47]).2.1.toArray⟩
def bD(s:ByteArray):Bool:=(Lib.cut s.data.toList [47]).2.2
def yx:ByteArray:=⟨#[49]⟩
def DD:ByteArray:=⟨#[48]⟩
def Lb(s:ByteArray):Bool:=((fT s).toList==DD.toList)|| !aN (ky s)||decide (rdZ (ky s)<=1)
def dF(s:ByteArray):Bool:=if(!aN (fT s)|| !bD s)=VA then !bD s&&aN (fT s)else !Lb s&&decide (Int.gcd (rdZ (fT s)) (rdZ (ky s))=1)
theorem oH:rdZ yx=1:=Xl
theorem fL:aN yx=VA:=by rw[aN,Ub];exact .inr Xl
theorem Pp(a:Int):decide ((a-1).sign<=0)=decide (a<=1):=by grind
theorem sign_eq(a:Int):((a-1).sign==0)=decide (a=1):=by grind
theorem lB(s:ByteArray)(U:s.size<4294967281)(W:aN (fT s)=VA->Lb s=VC->Qj (rdZ (fT s)) (rdZ (ky s))):FnP prog 188 [.str s] (· = .bool (dF s)):=by
 refine FnP.of func188 O ntmps188 Xn λ_ _ _ _=>?_
 have z:FnP prog 172 [.str s,.str ⟨#[47]⟩] (· = .tup [.str (fT s),.str (ky s),.bool (bD s)]):=Iz s ⟨#[47]⟩ U;have A:=dF.eq_1 s;have J:=Lb.eq_1 s;generalize dF s=v at*;generalize Lb s=bad at*;generalize fT s=nu at*;generalize ky s=de at*;generalize bD s=ok at*;have B:=eZ nu;have D:=eZ de;refine Z1 O<|Z1 O<|Rs O (aa call172 z O)<|Ar 7 O<|Z1 O<|Rs O (aa call248 B O)<|Y2 O ?_;apply Tt 3 15 18 [16,17] O Xt
 .intro hb3;exact Y3 O<|Tm Xs O O O
 .intro hb3;exact Y3 O<|Tm Xs O O O
 refine Gc O (λq=>?_) (λq=>?_)
 .rw[By q]at A;refine Z3 O ?_;apply Tu 3 21 24 [22,23] O Xt
  .intro hb2;exact A1 O<|Rg O (aa call248 B O)<|A1 O<|Tm Xs O O O
  .intro hb2;exact Y3 O<|Tm Xs O O O
  exact A1 O<|VF O<|ah PV.bool A.symm
 rw[sh (by simpa using q)]at A;have u:aN nu=VA:=by simp only[T5]at q;simpa using q.1
 refine Ti<|Z3 O ?_;apply Tt 4 27 31 [28,29,30] O Xt
 .intro hb2;exact Ar 4 O<|Tm Xs O O O
 .intro hb2;exact A1 O<|Rg O (aa call248 D O)<|Y2 O<|Tm Xs O O O
 refine A1 O ?_;apply Tt 4 32 36 [33,34,35] O Xt
 .intro hb7;exact Ar 4 O<|Tm Xs O O O
 .intro hb7;have r:aN de=VA:=by simp only[T5]at hb7;simpa using hb7.2
  exact A1 O<|Rg O (aa call249 (FD de yx r fL) O)<|Rg O ((ba O O O).cast (v':= .pv (.bool (decide (rdZ de<=1)))) (ah (λb=>V.pv (.bool b)) (by rw[oH,Pp])))<|A1 O<|Tm Xs O O O
 refine Gc O (λj=>?_) (λj=>?_)
 .have hbt:bad=VA:=J.trans j;exact Z1 O<|VF O<|ah PV.bool (by rw[A,hbt];rfl)
 have hbt:bad=VC:=J.trans j;have E:=W u hbt;refine Ti ?_;have r:aN de=VA:=by simp only[T5]at j;simpa using j.1.2
 have L:=nL u;have M:=nL r;have G:=fP nu (bE u).1 (by have:=(bE u).2;omega);have H:=fP de (bE r).1 (by have:=(bE r).2;omega);have T:1<rdZ de:=by simp only[T5,U7]at j;omega
 have I:(ae (Int.gcd (rdZ nu) (rdZ de):Int).natAbs).length<=1000000:=by rw[TW];exact AS (cD (Nat.le_of_dvd Xj (Nat.gcd_dvd_right _ _))) Xj
 exact Z1 O<|Rs O (aa call173 G O)<|A1 O<|Rs O (aa call173 H O)<|Rs O (aa call229 E O)<|Rs O (aa call166 (mV 1 Xl Xl) O)<|Rs O (aa call226 (jf _ _ I (by rw[eV Xl Xl];decide)) O)<|Y2 O<|VF O<|ah PV.bool (by rw[A,hbt,sign_eq];simp;omega)
end
section
def gD(l:List Nat):List PV:=l.map fun(n:Nat)=>PV.int .i64 (n:Int)
abbrev pli(l:List Nat):PV:= .sl UG l.length (gD l)
abbrev bigC(z:Int):List PV:=[.bool (decide (z<0)),pli (ae z.natAbs)]
abbrev lP(z:Int):PV:= .agg (bigC z)
theorem vQ(l:List Nat):(gD l).length=l.length:=by simp[gD]
theorem cw{l:List Nat}{k:Nat}(h:k<l.length):(gD l)[k*1]? =UF (.int .i64 (lim l k:Int)):=by rw[eL h];simp[gD,h]
theorem dj{l:List Nat}{k:Nat}(h:k<l.length):gD l≠[]:=λe=>by have:=vQ l;rw[e]at this;simp at this;omega
theorem J0(l:List Nat)(k:Nat):(gD l).take k=gD (l.take k):=by simp[gD,List.map_take]
theorem gN(l:List Nat)(k x:Nat):(gD l).set k (.int .i64 (x:Int))=gD (l.set k x):=by simp[gD,US]
theorem limI_snoc(l:List Nat)(n:Nat):gD l++[.int .i64 (n:Int)]=gD (l++[n]):=by simp[gD]
attribute [simp] vQ
theorem di{α:Type}(l:List α)(a:α):l.length+1=(l++[a]).length:=Xn
theorem LI(neg:Bool)(n:Nat):(neg&&decide (0<(ae n).length))=decide (sgn neg n<0):=by
 rw[<-yA];congr 1;rw[TY];simp
theorem Nv{neg b:Bool}{l:List Nat}{n:Nat}(u:n<=l.length)(e:ae (val l)=l.take n)(s:b=(neg&&decide (0<n))):PV.agg [.bool b,.sl UG n (gD (l.take n))]=lP (sgn neg (val l)):=by
 have j:(ae (val l)).length=n:=by rw[e,TC];omega
 have q:b=decide (sgn neg (val l)<0):=by rw[s,<-LI,j]
 have r:(sgn neg (val l)).natAbs=val l:=uW _ _;show _=PV.agg [.bool (decide (sgn neg (val l)<0)),.sl UG (ae (sgn neg (val l)).natAbs).length (gD (ae (sgn neg (val l)).natAbs))];rw[r,q,j,e]
theorem su(neg:Bool)(l:List Nat)(A:l.length<=1000000000)(u:Lok l):FnP prog 237 [.agg [.bool neg,pli l]] (· =lP (sgn neg (val l))):=by
 refine FnP.ofC func237 O ntmps237 Xn λ_ _ _ _=>?_
 refine Z2 O<|Gz O (st:=λXr:Nat=>([(1,UG),(2,UG)],[(0,UF (.mix 132 [.pv (.bool neg),.pv (.sl UG Xr (gD (l.take Xr)))])),(1,UG)])) 2
  (I:=λXr=>Xr<=l.length/\∀i,Xr<=i->l.getD i 0=0) (μ:=λXr=>Xr) (x0:=(l.length)) (Tk (aS O) ⟨by rw[VM];rfl,O,Xq⟩ O O) (⟨AT _,λi hi=>js hi⟩) ?_
 rintro n ⟨hn,hz⟩;by_cases hp:0<n
 .have hil:n-1<(l.take n).length:=by simp;omega
  have z:(gD (l.take n))[(n-1)*1]? =UF (.int .i64 (lim l (n-1):Int)):=by rw[cw hil];simp[lim,List.getD,TS,show n-1<n by omega]
  have r:=dj hil;have s:n-1<n:=Xj;refine Z3 O<|Rs O (XJ.cast (v':= .pv (.bool VA)) (ba O O O) Xo)<|Ar 7 O<|Rg O (ag (n-1) underlying22 sz3 O O Xj s r)<|A2 O Xm ?_;refine Y2 O ?_;refine Gc O (λj=>?_) (λj=>?_)
  .have hz0:lim l (n-1)=0:=by have:=qJ j;omega
   exact Ti<|Gr O<|Ar 5 O<|Rs O (XJ.cast (v':= pIi ((n-1:Nat):Int)) (Np O O Xj) (ah (λi=>pIi i) Xj))<|Rs O ((eS (n-1) underlying22 sz3 O O O Xj Xo).cast (v':= .pv (.sl UG (n-1) (gD (l.take (n-1))))) (by rw[TZ,J0,W5,Ul Xj]))<|Y2 O<|⟨(n-1),WA O,⟨Xj,λi hi=>by rcases Vo i n with e|e;rw[show i=n-1 by omega];exact hz0;exact hz i e⟩,Xj⟩
  have hz0:lim l (n-1)≠0:=by have:=k9 j;omega
  refine Gx O<|Z4 O<|Gc O (λq=>?_) (λq=>?_)
  .refine Z2 O<|Z2 O<|Gt O ?_;exfalso;have:=qJ q;omega
  refine Ti<|Z2 O<|Gt O ?_;have e:=iH u hn hz (.inr hz0);exact⟨_,_,O,O,⟨ax ⟨_,underlying132,O⟩ np O O O,Xq⟩,Nv hn e (by simp[hp])⟩
 refine Z3 O<|Rs O (XJ.cast (v':= .pv (.bool VC)) (ba O O O) Xo)<|Ar 11 O ?_;refine Gc O (λj=>absurd j Xn) (λj=>?_);refine Gx O<|Z4 O<|Gc O (λq=>?_) (λq=>?_)
 .refine Z2 O<|Z2 O<|Gt O ?_;have e:=iH u hn hz (.inl Xj);exact⟨_,_,O,O,⟨ax ⟨_,underlying132,O⟩ np O O O,Xq⟩,Nv hn e (by simp[hp])⟩
 refine Ti<|Z2 O<|Gt O ?_;exfalso;have:=k9 q;omega
theorem cM{neg:Bool}{n v:Nat}(l:List Nat)(j:l.length=n)(q:n<=1000000000)(r:Lok l)(s:val l=v):FnP prog 237 [.agg [.bool neg,.sl UG n (gD l)]] (· =lP (sgn neg v)):=by
 subst j s;exact su neg l q r
theorem fO(a b:Nat)(M:(ae a).length<=1000000000)(T:(ae b).length<=1000000000):FnP prog 178 [pli (ae a),pli (ae b)] (· = .int .i64 (vX a b)):=by
 refine FnP.of func178 O ntmps178 Xn λ_ _ _ _=>?_
 refine Z1 O<|Gr O<|Ar 5 O<|Gc O (λq=>?_) (λq=>?_)
 .refine Gr O<|Ar 5 O ?_;refine Gp O (λA=>?_) (λA=>?_)
  .exact Z1 O<|VF O<|ah (PV.int .i64) (tZ (gP Xj)).symm
  refine Ti<|Z1 O<|Gt O ?_;have G:=C5 q;exact⟨_,_,O,O,ah (PV.int .i64) (lz (gP Xj)).symm⟩
 have hlen:(ae a).length=(ae b).length:=by have:=uZ q;omega
 refine Ti<|Z4 O<|Gz O (st:=λXr:Nat=>([(0,UG),(1,UG),(5,UF (pIi ((Xr:Int)-1)))],[])) 0
  (I:=λXr=>Xr<=(ae a).length/\(ae a).drop Xr=(ae b).drop Xr) (μ:=λXr=>Xr) (x0:=((ae a).length)) (Tk (aS O) trivial O O) (⟨AT _,by rw[Uu (AT _),Uu Xj]⟩) ?_
 rintro i ⟨hi,hd⟩;refine Z2 O<|Gp O (λB=>?_) (λB=>?_)
 .have hia:i-1<(ae a).length:=Xj;have j:i-1<(ae b).length:=Xj;have H:=cw hia;have s:=dj hia;have J:=cw j;have u:=dj j;have r:(ae a).drop (i-1+1)=(ae b).drop (i-1+1):=by rw[show i-1+1=i by omega];exact hd
  refine Ti<|UB 9 O<|Dr 2 O<|TR O (λτ h=>ag (i-1) underlying22 sz3 (Ee h 0 O O) (Ee h 1 O O) Xj hia s)<|D2 O O Xm ?_;refine Dr 2 O<|TR O (λτ h=>ag (i-1) underlying22 sz3 (Ee h 0 O O) (Ee h 1 O O) Xj j u)<|D2 O O Xm ?_;refine D1 O ?_;refine⟨Xk,?_⟩;refine Gp O (λD=>?_) (λD=>?_)
  .refine Z1 O<|Gt O ?_;have z:=ph (aZ a) hlen hia r (by show lim _ _<lim _ _;omega);rw[aL,aL]at z;exact⟨_,_,O,O,ah (PV.int .i64) (tZ z).symm⟩
  refine Ti<|UB 9 O<|Dr 2 O<|TR O (λτ h=>ag (i-1) underlying22 sz3 (Ee h 0 O O) (Ee h 1 O O) Xj hia s)<|D2 O O Xm ?_;refine Dr 2 O<|TR O (λτ h=>ag (i-1) underlying22 sz3 (Ee h 0 O O) (Ee h 1 O O) Xj j u)<|D2 O O Xm ?_;refine D1 O ?_;refine⟨Xk,?_⟩;refine Gp O (λE=>?_) (λE=>?_)
  .refine Z1 O<|Gt O ?_;have z:=ph (aZ b) hlen.symm j r.symm (by show lim _ _<lim _ _;omega);rw[aL,aL]at z;exact⟨_,_,O,O,ah (PV.int .i64) (lz z).symm⟩
  exact Ti<|Z3 O<|⟨(i-1),Tk ⟨O,O,ah (λi:Int=>V.pv (PV.int .i64 i)) (show(i:Int)-1-1=((i-1:Nat):Int)-1 by omega),Xq⟩ trivial O O,⟨Xj,by rw[TN hia,TN j,r,<-eL hia,<-eL j];congr 1;omega⟩,Xj⟩
 refine Gx O<|Z1 O<|Gt O ?_;have L:i=0:=Xj;subst L;exact⟨_,_,O,O,ah (PV.int .i64) (EZ (wE (by simpa using hd))).symm⟩
theorem MN(neg:Bool)(a:Nat):(sgn neg a).tmod 1000000000=sgn neg (a%1000000000):=by
 cases neg
 .rfl
 show(-(a:Int)).tmod 1000000000= -((a%1000000000:Nat):Int);rw[Int.neg_tmod];rfl
theorem A8(neg:Bool)(a:Nat):(sgn neg a).tdiv 1000000000=sgn neg (a/1000000000):=by
 cases neg
 .rfl
 show(-(a:Int)).tdiv 1000000000= -((a/1000000000:Nat):Int);rw[Int.neg_tdiv];rfl
theorem C0(n:Int):sgn (decide (n<0)) n.natAbs=n:=by grind[sgn]
theorem pE(n:Int)(B: -9223372036854775808<=n)(D:n<=9223372036854775807):FnP prog 103 [.int .i64 n] (· =lP n):=by
 refine FnP.ofC func103 O ntmps103 Xn λ_ _ _ _=>?_
 obtain⟨neg,hneg⟩:∃b,b=decide (n<0):=⟨_,O⟩;have s:sgn neg n.natAbs=n:=by rw[hneg];exact C0 n
 refine Z1 O<|Z1 O<|Rs O (XJ.cast (v':= .pv (.bool neg)) (ba O O O) (ah (λb=>V.pv (.bool b)) hneg.symm))<|Y3 O<|Tj (St.da 1 1 2 1 3 O O O) ?_;refine Gz O (st:=λXr:Nat×List Nat=>([(0,UF (pIi (sgn neg Xr.1))),(2,UG),(3,UG)],[(0,UG),(1,UF (.mix 132 [.pv (.bool neg),.gsl 2 1 Xr.2.length])),(2,UF (.gro 3 (gD Xr.2)))])) 3
  (I:=λXr=>Xr.2++ae Xr.1=ae n.natAbs/\Xr.1<=n.natAbs) (μ:=λXr=>Xr.1) (x0:=(n.natAbs,[])) (Tk ⟨ah (λi=>pIi i) s.symm,O,O,Xq⟩ (aO O) O O) (⟨O,AT _⟩) ?_
 rintro⟨a,l⟩ ⟨hla,hle⟩;try simp only at hla hle ⊢
 refine Z2 O<|Gc O (λr=>?_) (λr=>?_)
 .refine Ti ?_
  repeat apply Tv
  refine AW.block ?_;have q:a≠0:=λe=>by rw[e]at r;cases neg<;>simp[sgn]at r
  refine Z1 O<|Rs O (XJ.cast (v':= pIi (sgn neg (a%1000000000))) (fZ O O Xl) (ah (λi=>pIi i) (MN neg a)))<|A1 O<|Z2 O<|Gp O (λj=>?_) (λj=>?_)
  .refine Z1 O<|Rs O (XJ.cast (v':= pIi ((a%1000000000:Nat):Int)) (NU O (by cases neg<;>simp[sgn]<;>omega) (by cases neg<;>simp[sgn]<;>omega)) (ah (λi=>pIi i) (by cases neg<;>simp[sgn]at j ⊢ ;omega)))<|A1 O ?_;have u:l.length<=1000000:=by
    have z:=ah List.length hla;rw[IN]at z;have A:(ae n.natAbs).length<=3:=aR.2 Xj;omega
   refine Gr O<|Ar 7 O<|Z1 O<|Rs O (XJ.cast (v':= pIi (sgn neg (a/1000000000))) (dJ O O Xl) (ah (λi=>pIi i) (by rw[A8,fw];cases neg<;>simp[sgn]<;>omega))) ?_;exact A1 O<|⟨(a/1000000000,l++[a%1000000000]),Tl [0,1,4] (aT O) ⟨O,TX (b:=UF (.mix 132 [.pv (.bool neg),.gsl 4 1 (l.length+1)])) Xk (ah (λn=>UF (Ob.mix 132 [.pv (.bool neg),.gsl 4 1 n])) (di l _)),ah (λc=>UF (Ob.gro 3 c)) (limI_snoc _ _),Xq⟩ O O Xl O,⟨by rw[<-hla,dE q];simp,Xj⟩,Xj⟩
  have hd:sgn neg (a%1000000000)=((a%1000000000:Nat):Int):=by cases neg<;>simp[sgn]at j ⊢ ;omega
  refine Ti ?_;have u:l.length<=1000000:=by
   have z:=ah List.length hla;rw[IN]at z;have A:(ae n.natAbs).length<=3:=aR.2 Xj;omega
  refine Z2 O<|Rs O (XJ.cast (v':= pIi ((a%1000000000:Nat):Int)) od (ah (λi=>pIi i) hd))<|Ar 4 O<|Z1 O<|Rs O (XJ.cast (v':= pIi (sgn neg (a/1000000000))) (dJ O O Xl) (ah (λi=>pIi i) (by rw[A8,fw];cases neg<;>simp[sgn]<;>omega))) ?_;exact A1 O<|⟨(a/1000000000,l++[a%1000000000]),Tl [0,1,4] (aT O) ⟨O,TX (b:=UF (.mix 132 [.pv (.bool neg),.gsl 4 1 (l.length+1)])) Xk (ah (λn=>UF (Ob.mix 132 [.pv (.bool neg),.gsl 4 1 n])) (di l _)),ah (λc=>UF (Ob.gro 3 c)) (limI_snoc _ _),Xq⟩ O O Xl O,⟨by rw[<-hla,dE q];simp,Xj⟩,Xj⟩
 refine Gx O ?_;have q:a=0:=by cases neg<;>simp[sgn]at r<;>omega
 rw[q,aV,Uh]at hla;exact Tj (Tn 2 O O)<|Z2 O<|VF O ⟨⟨ax ⟨_,underlying132,O⟩ np O O O,Xq⟩,by rw[hla,hneg];rfl⟩
end
end Go.Proofs.YtkkenamefaegfaaGreatDoor
