/- Lemmas for the statement of this claim's last text. No condition. -/
import Derived.Shelf.Strings.Builder1
import Derived.Shelf.Strings.Builder2
import Derived.Shelf.Small.Bits
import Derived.Shelf.Small.Wraps
import Derived.Shelf.Strings.BuilderF
import Derived.Shelf.Strings.BuilderK
import Derived.Shelf.Strings.Builder2Cap
import Derived.Shelf.Strconv.Itoa0
import Derived.Shelf.Strconv.Itoa1
import Derived.Shelf.LaysM
import Derived.Shelf.Strconv.Itoa2
import Derived.Shelf.Strconv.Itoa3
import Derived.Shelf.Strconv.Clone
import Derived.Shelf.Strconv.SyntaxError
import Derived.Shelf.LaysC
import Derived.Shelf.Strconv.ToError
import Derived.Shelf.Strconv.Lower
import Derived.Shelf.Strconv.ParseUint10
import Derived.Shelf.Strconv.ParseUint10Empty
import Derived.Shelf.Strconv.ParseUint10Any
import Derived.Shelf.Strconv.RangeError
import Derived.Shelf.Strconv.ToErrorRange
import Derived.Shelf.Strconv.ParseUintEmpty
import Derived.Shelf.Strconv.ParseUint10b64
import Derived.Shelf.Strconv.ParseUint10b32
import Derived.Shelf.Strconv.ParseUint10b16
import Derived.Shelf.Strconv.ParseUint10b8
import Derived.Shelf.Strconv.ParseUint10At
import Derived.Ground.MpProg
import Derived.Shelf.Pu.ParseUintPublic10
import Derived.Shelf.Pu.ErrVarParseUint
import Derived.Shelf.Strings.Search1
import Derived.Shelf.Strings.Search2
import Derived.Shelf.Strings.Cut
import Derived.Shelf.Strings.Shaped
import Derived.Shelf.Sort.Plain
import Derived.Shelf.Strings.Prefix
import Derived.Shelf.Bits.Mul64
import Derived.Shelf.Strings.Repeat
import Derived.Shelf.Strings.BuilderCap
import Derived.Shelf.Slices.Turned
import Derived.Shelf.Slices.Equal
import Derived.Ground.Names2Prog
import Derived.Shelf.Slices.Clone
import Derived.Shelf.Slices.CompactS
import Derived.Shelf.Slices.Cells
import Derived.Shelf.Slices.In.SortNone
import Derived.Shelf.Slices.Empties2
import Derived.Ground.SlgnProg
import Derived.Shelf.SlicesE.Clone
import Derived.Test.YtedfonppffochaaGreatDoorProg
import Derived.Test.YtedfonppffochaaGreatDoorJA4
set_option maxRecDepth 100000
set_option maxHeartbeats 4000000
open Go.RowKit Go.Proofs.Tryz
namespace Go.Proofs.YtedfonppffochaaGreatDoor
section
theorem HV {x y:Nat} (hx:x<1000000000) (hy:y<1000000000):x*y<=999999998000000001:=
 uv (Nat.mul_le_mul (show x<=999999999 by omega) (show y<=999999999 by omega)) OE
theorem FK {o:List Nat} {V x b m c:Nat} {i:Nat} (hm:i+m<o.length) (h0:lim o (i+m)=0) (h:val o+1000000000^(i+m)*c=V*b+1000000000^i*(x*b)):val (o.set (i+m) c)=(V+1000000000^i*x)*b:=by
 have e:=Ab (x:=c) hm;rw [<-gj hm,h0,Nat.mul_zero,KX] at e;rw [e,h,Oe,Le]
theorem z7 (a b:Nat) (ha:(aj a).length<=1000000) (hb:(aj b).length<=1000000):FnP Tryz.prog 136 [z1 a,z1 b] (· =z1 (a*b)):=by
 refine FnP.of func136 O ntmps136 OG fun m0 w0 F R0=>?_
 obtain ⟨la,hla⟩:∃ n:Nat,n=(aj a).length:=⟨_,O⟩;obtain ⟨lb,hlb⟩:∃ n:Nat,n=(aj b).length:=⟨_,O⟩;refine Z1 O O<|Gr O ?_;iterate 7 refine A1 O ?_
 refine Z3 O O O O ?_;refine Gl O (st:=fun x_0:Nat×List Nat=>mkS [(1,.pv (z1 b)),(5,.osl 0 1 ((aj a).length+(aj b).length)),(18,.pv (z1 a)),(19,.pv (.int .i64 (aj a).length)),(20,.pv (.int .i64 x_0.1))] [(0,.cells 136 (bX x_0.2))] 1)
  (I:=fun x_0=>(x_0.1<=la/\x_0.2.length=la+lb)/\Lok x_0.2/\val x_0.2=sm (lim (aj a)) x_0.1*b/\∀ j,x_0.1+lb<=j->lim x_0.2 j=0) (μ:=fun x_0=>la-x_0.1) (x0:=(0,List.replicate ((aj a).length+(aj b).length) 0)) (Io (aS O) ⟨af (fun c=>some (Ob.cells 136 c)) ((ct (.int .u64 0) (((aj a).length+(aj b).length)*1)).trans (by simp [bX])),OK⟩ O O) (⟨⟨eF _,by simp [hla,hlb]⟩,Lok.replicate _,by rw [val_zero (fun i=>by simp only [List.getD,List.getElem?_replicate];split<;>rfl)];simp [sm],fun j _=>by simp only [lim,List.getD,List.getElem?_replicate];split<;>rfl⟩) ?_
 rintro ⟨i,o⟩ ⟨⟨hi,hol⟩,hok,hv,hz⟩;try simp only at hi hol hok hv hz ⊢
 refine Z1 O O ?_;refine Gp O O (fun hc21=>?_) (fun hc21=>?_)
 ·have hia:i<(aj a).length:=OC;have hva:=cN hia;have hna:=eO hia;have hxl:=jc (c7 a) i;have hsm:sm (lim (aj a)) (i+1)=sm (lim (aj a)) i+1000000000^i*lim (aj a) i:=rfl;generalize lim (aj a) i=x at*;refine Il<|Z2 O O O ?_;first | refine A2 O OF ?_ | refine A1 O ?_
  refine Y2 O O<|Z1 O O<|Z3 O O O O ?_;refine Gl O (st:=fun x_1:Nat×List Nat×Nat=>mkS [(1,.pv (z1 b)),(5,.osl 0 1 ((aj a).length+(aj b).length)),(6,.pv (.int .i64 i)),(7,.pv (.int .u64 (x:Int))),(8,.pv (.int .u64 (x_1.2.2:Int))),(18,.pv (z1 a)),(19,.pv (.int .i64 (aj a).length)),(20,.pv (.int .i64 i)),(25,.pv (z1 b)),(26,.pv (.int .i64 (aj b).length)),(27,.pv (.int .i64 x_1.1))] [(0,.cells 136 (bX x_1.2.1))] 1)
   (I:=fun x_1=>(x_1.1<=lb/\x_1.2.1.length=la+lb)/\(Lok x_1.2.1/\x_1.2.2<1000000000)/\val x_1.2.1+1000000000^(i+x_1.1)*x_1.2.2=sm (lim (aj a)) i*b+1000000000^i*(x*sm (lim (aj b)) x_1.1)/\∀ j,i+lb<=j->lim x_1.2.1 j=0) (μ:=fun x_1=>lb-x_1.1) (x0:=(0,o,0)) (Io (aS O) (aO O) O O) (⟨⟨eF _,hol⟩,⟨hok,Nat.zero_lt_succ 999999999⟩,by rw [hv];simp [sm],hz⟩) ?_
  rintro ⟨k,o2,c⟩ ⟨⟨hk,hol2⟩,⟨hok2,hc⟩,he,hz2⟩;try simp only at hk hol2 hok2 hc he hz2 ⊢
  refine Z1 O O ?_;refine Gp O O (fun hc28=>?_) (fun hc28=>?_)
  ·have hkb:k<(aj b).length:=OC;have hvb:=cN hkb;have hnb:=eO hkb;have hyl:=jc (c7 b) k;have hikl:i+k<o2.length:=OC;have hvo:=cN hikl;have hst:=Db (y:=lim (aj b) k) hikl he;have hsb:sm (lim (aj b)) (k+1)=sm (lim (aj b)) k+1000000000^k*lim (aj b) k:=rfl;rw [<-hsb] at hst;have hul:=jc hok2 (i+k);have hnl:=dc o2;generalize lim (aj b) k=y at*;generalize lim o2 (i+k)=u at*;have hxy:=HV hxl hyl;refine Il<|Z2 O O O ?_;first | refine A2 O OF ?_ | refine A1 O ?_
   refine Y2 O O<|Z4 O O O O O<|Rs 36 O O (aa (i+k) underlying89 gk O O O O OC) ?_;first | refine A2 O OF ?_ | refine A1 O ?_
   iterate 7 refine A1 O ?_
   refine Gr O ?_;iterate 5 refine A1 O ?_
   exact Rs 49 O O (Mg (b:=1000000000) O O OC)<|A1 O<|Rs 51 O O (lh (b:=1000000000) O O OC)<|Rs 52 O O (aa (i+k) underlying89 gk O O O O OC)<|Y2 O O<|Z2 O O O<|⟨(k+1,o2.set (i+k) ((u+x*y+c)%1000000000),(u+x*y+c)/1000000000),Io (aS O) ⟨af (fun c=>some (Ob.cells 136 c)) (by rw [ID,gz]),OK⟩ O O,⟨⟨OI,by simp only [tx];exact hol2⟩,⟨hok2.sn _ _,OI⟩,hst,fun j hj=>by rw [kY hikl,ga OC];exact hz2 j hj⟩,OI⟩
  ·refine Gx O ?_;obtain rfl:k=lb:=OC;have hikl:i+k<o2.length:=OC;have hz0:=hz2 (i+k) (qT _);have hvo:(bX o2)[(i+k)*1]? =some (.int .u64 ((0:Nat):Int)):=by rw [cN hikl,hz0]
   have hnl:=dc o2;rw [ji (aj b) (Oo hlb.symm),bh] at he;have hrow:=FK hikl hz0 he;have hkl:(aj b).length=k:=hlb.symm;refine Gr O ?_;iterate 5 refine A1 O ?_
   refine Rs 59 O O (aa (i+k) underlying89 gk O O O OC OC) ?_;first | refine A2 O OF ?_ | refine A1 O ?_
   exact A1 O<|Rs 62 O O (XJ.cast (v':= .pv (.int .u64 (c:Int))) (nR (a:=0) O O OC) (by rw [Dq]))<|Rs 63 O O (aa (i+k) underlying89 gk O O O OC OC)<|A1 O<|Z2 O O O<|⟨(i+1,o2.set (i+k) c),Io (aS O) ⟨af (fun c=>some (Ob.cells 136 c)) (by rw [ID,gz]),OK⟩ O O,⟨⟨OI,by simp only [tx];exact hol2⟩,hok2.set hc,by rw [hsm];exact hrow,fun j hj=>by simp only at hj ⊢; rw [kY hikl,ga OC];exact hz2 j OC⟩,OI⟩
 ·refine Gx O ?_;obtain rfl:i=la:=OC;have hv2:val o=a*b:=by rw [hv,ji (aj a) (Oo hla.symm),bh]
  have htr:=cw o (show o.length=(aj a).length+(aj b).length by omega) OC hok hv2;exact Im (Ir 0 O O)<|Z1 O O<|Rs 66 O O (ae call95 htr O)<|A1 O<|Gt O<|⟨_,_,O,O,O⟩
theorem gA (n i:Nat):lim (aj n) i=n/1000000000^i%1000000000:=by
 induction i generalizing n with
 | zero=>
   by_cases h:n=0
   ·subst h;rw [aV];rfl
   ·rw [cj h];simp [lim]
 | succ i ih=>
   by_cases h:n=0
   ·subst h;rw [aV];simp [lim]
   ·rw [cj h,Kz,KK,<-Nat.div_div_eq_div_mul,<-ih];simp [lim]
theorem dF (a:Nat) (ha:a<1000000000000000000):FnP Tryz.prog 270 [z1 a] (· = .int .u64 (a:Int)):=by
 refine FnP.of func270 O ntmps270 OG fun m0 w0 F R0=>?_
 have hlen:(aj a).length<=2:=bF.2 ha;have h1:=ja (aj a) 1 OC;have h0:=ja (aj a) 0 OC;have e1:=gA a 1;have e0:=gA a 0;rw [Nat.pow_one] at e1;rw [Nat.pow_zero,Nat.div_one] at e0;generalize lim (aj a) 1=x at*;generalize lim (aj a) 0=y at*;have hxy:x*1000000000+y=a:=OC;exact Z1 O O<|Z1 O O<|Rs 4 O O (ae call184 h1 O)<|Rs 5 O O (nL (b:=1000000000) O O OC)<|A1 O<|Rs 7 O O (ae call184 h0 O)<|Y2 O O<|Gt O<|⟨_,_,O,O,by rw [<-hxy];rfl⟩
end
section
def Ia (a b:Nat):Prop:=FnP Tryz.prog 283 [z1 a,z1 b] (· = .tup [z1 (a/b),z1 (a%b)])
theorem val_one (a:Nat):val [a]=a:=by simp [val]
theorem G0 {n:Nat} (h:¬ 2<(aj n).length):n<1000000000000000000:=bF.1 (show (aj n).length<=2 by omega)
theorem Fy {x y k:Nat} (hy:0<y) (h:(aj y).length<=k):(aj (x%y)).length<=k:=bF.2 (Nat.lt_trans (Lc _ hy) (bF.1 h))
theorem nX {n:Nat} (h:0<(aj n).length):0<n:=by
 rcases J6 n with e | e
 ·subst e;rw [aV] at h;simp at h
 ·exact e
theorem jH (x y:Nat):Nat.gcd y (x%y)=Nat.gcd x y:=by rw [Nat.gcd_comm y,<-Nat.gcd_rec,Nat.gcd_comm]
theorem qv {x:Nat} (h:x<1000000000000000000):Lok [x%1000000000,x/1000000000]/\val [x%1000000000,x/1000000000]=x:=by
 refine ⟨fun a ha=>?_,by simp [val];omega⟩;simp at ha;omega
theorem AB (I:Nat->Nat->Prop) (hI:∀ x y,I x y->0<y->(2<(aj y).length\/2<(aj x).length)->(aj x).length<=1000000->(aj y).length<=1000000->Ia x y/\I y (x%y)) (a b:Nat) (h0:I a b) (ha:(aj a).length<=1000000) (hb:(aj b).length<=1000000):
  FnP Tryz.prog 277 [z1 a,z1 b] (· =z1 (Nat.gcd a b)):=by
 refine FnP.of func277 O ntmps277 OG fun m0 w0 F R0=>?_
 refine Z1 O O ?_;refine Gl O (st:=fun x_0:Nat×Nat=>mkS [(0,.pv (z1 x_0.1)),(1,.pv (z1 x_0.2))] [] 0)
  (I:=fun x_0=>Nat.gcd x_0.1 x_0.2=Nat.gcd a b/\I x_0.1 x_0.2/\(aj x_0.1).length<=1000000/\(aj x_0.2).length<=1000000) (μ:=fun x_0=>x_0.2) (x0:=(a,b)) (Io (aS O) trivial O O) (⟨O,h0,ha,hb⟩) ?_
 rintro ⟨x,y⟩ ⟨hg,hxy,hx,hy⟩;try simp only at hg hxy hx hy ⊢
 refine Z3 O O O O ?_;refine Gp O O (fun hc13=>?_) (fun hc13=>?_)
 ·have hy0:0<y:=nX OC;have hD:=hI x y hxy hy0 (.inl OC) hx hy;refine Il<|Z2 O O O<|Rs 17 O O (ae call283 hD.1 O) ?_;iterate 5 refine A1 O ?_
  exact Z4 O O O O O<|⟨(y,x%y),Io (aS O) trivial O O,⟨by rw [<-hg];exact jH x y,hD.2,hy,Fy hy0 hy⟩,Lc _ hy0⟩
 ·have hy2:=G0 (show ¬ 2<(aj y).length by omega);refine Gx O<|Z3 O O O O ?_;refine Gc O O (fun hc24=>?_) (fun hc24=>?_)
  ·refine Z2 O O O<|Gt O ?_;have hy0:y=0:=cU.1 (by have:=Be hc24;omega);exact ⟨_,_,O,O,af z1 (by rw [<-hg,hy0,Nat.gcd_zero_right])⟩
  ·have hy0:0<y:=nX (by have:=sS hc24;omega);refine Il<|Z3 O O O O ?_;refine Gp O O (fun hc28=>?_) (fun hc28=>?_)
   ·have hD:=hI x y hxy hy0 (.inr OC) hx hy;refine Z2 O O O<|Rs 32 O O (ae call283 hD.1 O) ?_;iterate 5 refine A1 O ?_
    refine Z4 O O O O O ?_;have hp2:=hy2;have hq2:x%y<1000000000000000000:=Nat.lt_trans (Lc _ hy0) hy2;have hpq:Nat.gcd y (x%y)=Nat.gcd a b:=by rw [<-hg];exact jH x y
    clear hg hxy hD;generalize x%y=q at*;obtain ⟨p,rfl⟩:∃ p,p=y:=⟨y,O⟩;refine Z1 O O<|Rs 38 O O (ae call270 (dF p hp2) O)<|A1 O<|Rs 40 O O (ae call270 (dF q hq2) O)<|Y2 O O ?_;refine Gl O (st:=fun x_1:Nat×Nat=>mkS [(9,.pv (.int .u64 (x_1.1:Int))),(10,.pv (.int .u64 (x_1.2:Int)))] [] 0)
     (I:=fun x_1=>Nat.gcd x_1.1 x_1.2=Nat.gcd a b/\x_1.1<1000000000000000000/\x_1.2<1000000000000000000) (μ:=fun x_1=>x_1.2) (x0:=(p,q)) (Io (aS O) trivial O O) (⟨hpq,hp2,hq2⟩) ?_
    rintro ⟨u,v⟩ ⟨hg2,hu,hv⟩;try simp only at hg2 hu hv ⊢
    refine Z2 O O O ?_;refine Gc O O (fun hc42=>?_) (fun hc42=>?_)
    ·have hv0:0<v:=by have:=xn hc42;omega
     refine Il<|Ge O follows [0,1,2,3,4,5] OD ?_;iterate 6 refine D1 O O ?_
     refine ⟨OD,?_⟩;exact ⟨(v,u%v),Io (aS O) trivial O O,⟨by rw [<-hg2];exact jH u v,hv,Nat.lt_trans (Lc _ hv0) hv⟩,Lc _ hv0⟩
    ·have hv0:v=0:=by have:=sL hc42;omega
     refine Gx O ?_;have h2:=qv hu;have htr:=cw (n:=2) [u%1000000000,u/1000000000] O OC h2.1 h2.2;exact Z1 O O<|Rs 48 O O (Mg (b:=1000000000) O O OC)<|A1 O<|Rs 50 O O (lh (b:=1000000000) O O OC)<|Rs 51 O O (aq none OG GV O OE OE O O)<|Rs 52 O O (ae call95 htr O)<|A1 O<|Gt O<|⟨_,_,O,O,af z1 (by rw [<-hg2,hv0,Nat.gcd_zero_right])⟩
   ·have hp2:=G0 (show ¬ 2<(aj x).length by omega);have hq2:=hy2;have hpq:=hg;clear hg hxy;obtain ⟨p,rfl⟩:∃ p,p=x:=⟨x,O⟩;obtain ⟨q,rfl⟩:∃ q,q=y:=⟨y,O⟩;refine Il<|Z1 O O<|Rs 38 O O (ae call270 (dF p hp2) O)<|A1 O<|Rs 40 O O (ae call270 (dF q hq2) O)<|Y2 O O ?_;refine Gl O (st:=fun x_1:Nat×Nat=>mkS [(9,.pv (.int .u64 (x_1.1:Int))),(10,.pv (.int .u64 (x_1.2:Int)))] [] 0)
     (I:=fun x_1=>Nat.gcd x_1.1 x_1.2=Nat.gcd a b/\x_1.1<1000000000000000000/\x_1.2<1000000000000000000) (μ:=fun x_1=>x_1.2) (x0:=(p,q)) (Io (aS O) trivial O O) (⟨hpq,hp2,hq2⟩) ?_
    rintro ⟨u,v⟩ ⟨hg2,hu,hv⟩;try simp only at hg2 hu hv ⊢
    refine Z2 O O O ?_;refine Gc O O (fun hc42=>?_) (fun hc42=>?_)
    ·have hv0:0<v:=by have:=xn hc42;omega
     refine Il<|Ge O follows [0,1,2,3,4,5] OD ?_;iterate 6 refine D1 O O ?_
     refine ⟨OD,?_⟩;exact ⟨(v,u%v),Io (aS O) trivial O O,⟨by rw [<-hg2];exact jH u v,hv,Nat.lt_trans (Lc _ hv0) hv⟩,Lc _ hv0⟩
    ·have hv0:v=0:=by have:=sL hc42;omega
     refine Gx O ?_;have h2:=qv hu;have htr:=cw (n:=2) [u%1000000000,u/1000000000] O OC h2.1 h2.2;exact Z1 O O<|Rs 48 O O (Mg (b:=1000000000) O O OC)<|A1 O<|Rs 50 O O (lh (b:=1000000000) O O OC)<|Rs 51 O O (aq none OG GV O OE OE O O)<|Rs 52 O O (ae call95 htr O)<|A1 O<|Gt O<|⟨_,_,O,O,af z1 (by rw [<-hg2,hv0,Nat.gcd_zero_right])⟩
end
section
abbrev numC (z:Int):List PV:=[.bool (decide (z<0)),z1 z.natAbs]
abbrev ec (z:Int):PV:= .agg (numC z)
def sgn (neg:Bool) (n:Nat):Int:=if neg then-(n:Int) else n
theorem Fw (neg:Bool) (n:Nat):(neg&&decide (((aj n).length:Int)>0))=decide (sgn neg n<0):=by
 have h:0<(aj n).length↔0<n:=⟨nX,fun h=>Nat.pos_of_ne_zero fun e=>by have:=cU.1 e;omega⟩;cases neg with
 | false=>simp [sgn]
 | true=>
   simp only [sgn,if_true,Oh];by_cases hn:0<n
   ·have:=h.2 hn;rw [x7 OC,x7 OC]
   ·have:¬ 0<(aj n).length:=fun e=>hn (h.1 e)
    rw [Et OC,Et OC]
theorem yc (neg:Bool) (n:Nat):(sgn neg n).natAbs=n:=by cases neg<;>simp [sgn]
theorem AK (neg:Bool) (n:Nat):FnP Tryz.prog 94 [.bool neg,z1 n] (· =ec (sgn neg n)):=by
 refine FnP.ofC func94 O ntmps94 OG fun m0 w0 F R0=>?_
 refine Z1 O O<|Z2 O O O ?_;apply Iy 4 6 10 [7,8,9] O ON
 ·intro hb1;iterate 4 refine A1 O ?_
  exact Iq OM O O O
 ·intro hb1;iterate 4 refine A1 O ?_
  exact Iq OM O O O
 exact Y3 O O O<|Gt O<|⟨_,_,O,O,⟨aY ⟨_,underlying91,O⟩ lK O O O,OK⟩,by rw [ec,numC,<-Fw,yc];rfl⟩
theorem nj (z:Int):FnP Tryz.prog 89 [ec z] (· = .int .i64 z.sign):=by
 refine FnP.of func89 O ntmps89 OG fun m0 w0 F R0=>?_
 refine Z2 O O O<|Z3 O O O O ?_;refine Gc O O (fun hc3=>?_) (fun hc3=>?_)
 ·exact Z1 O O<|Gt O<|⟨_,_,O,O,af (PV.int .i64) (by rw [Int.sign_eq_neg_one_of_neg (by simpa using hc3)])⟩
 ·refine Gr O ?_;iterate 5 refine A1 O ?_
  refine Gp O O (fun hc6=>?_) (fun hc6=>?_)
  ·exact Z1 O O<|Gt O<|⟨_,_,O,O,af (PV.int .i64) (by have h1:=nX (n:=z.natAbs) OC;have h3:¬ z<0:=(by simpa using hc3);exact (Int.sign_eq_one_of_pos (show 0<z by omega)).symm)⟩
  ·exact Il<|Z1 O O<|Gt O<|⟨_,_,O,O,af (PV.int .i64) (by have h1:=cU.1 (show (aj z.natAbs).length=0 by omega);rw [show z=0 by omega];rfl)⟩
theorem y0 (z:Int):FnP Tryz.prog 139 [ec z] (· =ec (-z)):=by
 refine FnP.ofC func139 O ntmps139 OG fun m0 w0 F R0=>?_
 have hn:sgn (!decide (z<0)) z.natAbs= -z:=by
  by_cases h:z<0
  ·rw [x7 h];simp [sgn];omega
  ·rw [Et h];simp [sgn];omega
 refine Z2 O O O<|Gr O ?_;iterate 5 refine A1 O ?_
 exact Rs 8 O O (ae call94 (AK _ _) O)<|A1 O<|Gt O<|⟨_,_,O,O,⟨aY ⟨_,underlying91,O⟩ lK O O O,OK⟩,by rw [<-hn];rfl⟩
theorem BL {x y:Int} (h:(decide (x<0)==decide (y<0))=true):sgn (decide (x<0)) (x.natAbs+y.natAbs)=x+y:=by
 by_cases hx:x<0<;>by_cases hy:y<0<;>simp [hx,hy] at h<;>simp [sgn,hx]<;>omega
theorem GJ {x y:Int} (h:(decide (x<0)==decide (y<0))=false) (hc:y.natAbs<=x.natAbs):sgn (decide (x<0)) (x.natAbs-y.natAbs)=x+y:=by
 by_cases hx:x<0<;>by_cases hy:y<0<;>simp [hx,hy] at h<;>simp [sgn,hx]<;>omega
theorem GC {x y:Int} (h:(decide (x<0)==decide (y<0))=false) (hc:x.natAbs<=y.natAbs):sgn (decide (y<0)) (y.natAbs-x.natAbs)=x+y:=by
 by_cases hx:x<0<;>by_cases hy:y<0<;>simp [hx,hy] at h<;>simp [sgn,hy]<;>omega
theorem yB {a b:Nat}:Ep a b>=0↔b<=a:=by
 unfold Ep;split
 ·constructor<;>intro h<;>omega
 ·split<;>constructor<;>intro h<;>omega
theorem j1 (x y:Int) (hx:(aj x.natAbs).length<=1000000) (hy:(aj y.natAbs).length<=1000000):FnP Tryz.prog 86 [ec x,ec y] (· =ec (x+y)):=by
 refine FnP.ofC func86 O ntmps86 OG fun m0 w0 F R0=>?_
 refine Z3 O O O O<|Gr O ?_;iterate 6 refine A1 O ?_
 refine Gc O O (fun hc5=>?_) (fun hc5=>?_)
 ·have e:=BL hc5;refine Ge O follows [0,1,2,3,4,5,6,7,8] OD ?_;iterate 6 refine D1 O O ?_
  refine Ds 17 [] O O O (fun τ h=>ae call133 (zz x.natAbs y.natAbs hx hy) (h.bt O)) O OD<|Ds 18 [] O O O (fun τ h=>ae call94 (AK _ _) (h.bt O)) O OD<|D1 O O ?_;refine ⟨OD,?_⟩;exact Gt O<|⟨_,_,O,O,⟨aY ⟨_,underlying91,O⟩ lK O O O,OK⟩,by rw [<-e];rfl⟩
 ·have hd:=hc5;refine Z4 O O O O O<|Rs 24 O O (ae call134 (qd x.natAbs y.natAbs OC OC) O)<|Y2 O O ?_;refine Gp O O (fun hc19=>?_) (fun hc19=>?_)
  ·have hle:=yB.1 hc19;have e:=GJ hd hle;refine Ge O follows [0,1,2,3,4,5,6,7,8] OD ?_;iterate 6 refine D1 O O ?_
   refine Ds 32 [] O O O (fun τ h=>ae call135 (pR x.natAbs y.natAbs hx hle) (h.bt O)) O OD<|Ds 33 [] O O O (fun τ h=>ae call94 (AK _ _) (h.bt O)) O OD<|D1 O O ?_;refine ⟨OD,?_⟩;exact Gt O<|⟨_,_,O,O,⟨aY ⟨_,underlying91,O⟩ lK O O O,OK⟩,by rw [<-e];rfl⟩
  ·have hle:x.natAbs<=y.natAbs:=Nat.le_of_lt (Nat.lt_of_not_le fun e=>hc19 (yB.2 e));have e:=GC hd hle;refine Il<|Ge O follows [0,1,2,3,4,5,6,7,8] OD ?_;iterate 6 refine D1 O O ?_
   refine Ds 40 [] O O O (fun τ h=>ae call135 (pR y.natAbs x.natAbs hy hle) (h.bt O)) O OD<|Ds 41 [] O O O (fun τ h=>ae call94 (AK _ _) (h.bt O)) O OD<|D1 O O ?_;refine ⟨OD,?_⟩;exact Gt O<|⟨_,_,O,O,⟨aY ⟨_,underlying91,O⟩ lK O O O,OK⟩,by rw [<-e];rfl⟩
theorem ML (x y:Int) (hx:(aj x.natAbs).length<=1000000) (hy:(aj y.natAbs).length<=1000000):FnP Tryz.prog 93 [ec x,ec y] (· =ec (x-y)):=by
 refine FnP.ofC func93 O ntmps93 OG fun m0 w0 F R0=>?_
 refine Z3 O O O O<|Ge O follows [0,1,2,3,4] OD ?_;iterate 2 refine D1 O O ?_
 refine Ds 7 [] O O O (fun τ h=>ae call139 (y0 y) (h.bt O)) O OD<|Ds 8 [] O O O (fun τ h=>ae call86 (j1 x (-y) hx (by rw [Int.natAbs_neg];exact hy)) (h.bt O)) O OD<|D1 O O ?_;refine ⟨OD,?_⟩;exact Gt O<|⟨_,_,O,O,⟨aY ⟨_,underlying91,O⟩ lK O O O,OK⟩,by rw [Int.sub_eq_add_neg];rfl⟩
theorem gl (x y:Int) (hx:(aj x.natAbs).length<=1000000) (hy:(aj y.natAbs).length<=1000000):FnP Tryz.prog 50 [ec x,ec y] (· = .int .i64 (x-y).sign):=by
 refine FnP.of func50 O ntmps50 OG fun m0 w0 F R0=>?_
 exact Z3 O O O O<|Z2 O O O<|Rs 7 O O (ae call93 (ML x y hx hy) O)<|Rs 8 O O (ae call89 (nj (x-y)) O)<|A1 O<|Gt O<|⟨_,_,O,O,O⟩
theorem sF (I:Nat->Nat->Prop) (hI:∀ x y,I x y->0<y->(2<(aj y).length\/2<(aj x).length)->(aj x).length<=1000000->(aj y).length<=1000000->Ia x y/\I y (x%y)) (x y:Int) (h0:I x.natAbs y.natAbs) (hx:(aj x.natAbs).length<=1000000) (hy:(aj y.natAbs).length<=1000000):
  FnP Tryz.prog 267 [ec x,ec y] (· =ec (Int.gcd x y:Int)):=by
 refine FnP.ofC func267 O ntmps267 OG fun m0 w0 F R0=>?_
 exact Z3 O O O O<|Z4 O O O O O<|Rs 9 O O (ae call277 (AB I hI x.natAbs y.natAbs h0 hx hy) O)<|Rs 10 O O (ae call94 (AK false _) O)<|A1 O<|Gt O<|⟨_,_,O,O,⟨aY ⟨_,underlying91,O⟩ lK O O O,OK⟩,O⟩
end
section
theorem E8 (i:Int):IntKind.u64.wrap i=i%18446744073709551616:=rfl
theorem B2 {n:Int} (h0: -9223372036854775808<=n) (h:n<0):IntKind.u64.wrap (-(IntKind.u64.wrap n))=((n.natAbs:Nat):Int):=by
 rw [E8,E8];omega
theorem B0 {n:Int} (h1:n<=9223372036854775807) (h:¬ n<0):IntKind.u64.wrap n=((n.natAbs:Nat):Int):=by
 rw [E8];omega
section
variable {C:Ctx} {n:Nat} {σ:St} {dst:Option Tmp} {ty t t':TypeId} {pos:String} {after:Array Edge} {gd:Option (Nat×Bool)} {x y:Operand}
theorem FY {i:Int} (hx:σ.ev n x= .pv (.int .u64 i)):XJ C n ⟨dst,.unOp .neg t x,ty,pos,after,gd⟩ σ ⟨.pv (.int .u64 (IntKind.u64.wrap (-i))),[],[]⟩:=
 .val fun a w m R hw=>⟨.int .u64 (IntKind.u64.wrap (-i)),by simp [execOp,hw.int hx,Op.unary,Op.intArith],by simp only [Rel,RelP]⟩
end
theorem fO (n:Int) (h0: -9223372036854775808<=n) (h1:n<=9223372036854775807):FnP Tryz.prog 51 [.int .i64 n] (· =ec n):=by
 refine FnP.ofC func51 O ntmps51 OG fun m0 w0 F R0=>?_
 have hok:Lok [n.natAbs%1000000000,n.natAbs/1000000000%1000000000,n.natAbs/1000000000/1000000000]:=fun b hb=>by
  simp at hb;omega
 have hvl:val [n.natAbs%1000000000,n.natAbs/1000000000%1000000000,n.natAbs/1000000000/1000000000]=n.natAbs:=by simp [val];omega
 refine Z1 O O<|Z1 O O<|Rs 5 O O (en underlying3 underlying136 O)<|A1 O<|Z2 O O O ?_;refine Gp O O (fun hc7=>?_) (fun hc7=>?_)
 ·have hu:IntKind.u64.wrap (-(IntKind.u64.wrap n))=((n.natAbs:Nat):Int):=B2 h0 hc7;refine Z1 O O<|Rs 9 O O (XJ.cast (v':= .pv (.int .u64 (n.natAbs:Int))) (FY O) (af (fun i=>V.pv (.int .u64 i)) hu))<|A1 O<|Gr O ?_;iterate 10 refine A1 O ?_
  refine Rs 20 O O (aq none OG GV O OE OE O O)<|Rs 21 O O (ae call95 (cw (n:=3) _ O OE hok hvl) O)<|Rs 22 O O (ae call94 (AK _ _) O)<|A1 O<|Gt O ?_;have e:sgn (decide (n<0)) n.natAbs=n:=by cases h:decide (n<0)<;>simp at h<;>simp [sgn]<;>omega
  exact ⟨_,_,O,O,⟨aY ⟨_,underlying91,O⟩ lK O O O,OK⟩,af ec e⟩
 ·have hu:IntKind.u64.wrap n=((n.natAbs:Nat):Int):=B0 h1 hc7;refine Il<|Z2 O O O<|Rs 12 O O (XJ.cast (v':= .pv (.int .u64 (n.natAbs:Int))) iZ (af (fun i=>V.pv (.int .u64 i)) hu))<|A1 O<|Rs 14 O O (XJ.cast (v':= .pv (.int .u64 (n.natAbs:Int))) iZ (af (fun i=>V.pv (.int .u64 i)) hu))<|Y2 O O<|Rs 17 O O (XJ.cast (v':= .pv (.int .u64 (n.natAbs:Int))) iZ (af (fun i=>V.pv (.int .u64 i)) hu))<|Y2 O O<|Rs 20 O O (aq none OG GV O OE OE O O)<|Rs 21 O O (ae call95 (cw (n:=3) _ O OE hok hvl) O)<|Rs 22 O O (ae call94 (AK _ _) O)<|A1 O<|Gt O ?_;have e:sgn (decide (n<0)) n.natAbs=n:=by cases h:decide (n<0)<;>simp at h<;>simp [sgn]<;>omega
  exact ⟨_,_,O,O,⟨aY ⟨_,underlying91,O⟩ lK O O O,OK⟩,af ec e⟩
theorem EO (x y:Int):sgn (decide (x<0) !=decide (y<0)) (x.natAbs*y.natAbs)=x*y:=by
 by_cases hx:x<0<;>by_cases hy:y<0<;>simp only [hx,hy,decide_true,decide_false,bne_self_eq_false,Bool.bne_true,Bool.bne_false,Bool.not_false,Bool.not_true,Bool.true_bne,Bool.false_bne,sgn,if_true,Lp,if_false]
 ·rw [L5,Int.ofNat_natAbs_of_nonpos OC,Int.ofNat_natAbs_of_nonpos OC,Int.neg_mul_neg]
 ·rw [L5,Int.ofNat_natAbs_of_nonpos OC,Int.natAbs_of_nonneg OC,Int.neg_mul,Int.neg_neg]
 ·rw [L5,Int.natAbs_of_nonneg OC,Int.ofNat_natAbs_of_nonpos OC,Int.mul_neg,Int.neg_neg]
 ·rw [L5,Int.natAbs_of_nonneg OC,Int.natAbs_of_nonneg OC]
theorem sE (x y:Int) (hx:(aj x.natAbs).length<=1000000) (hy:(aj y.natAbs).length<=1000000):FnP Tryz.prog 87 [ec x,ec y] (· =ec (x*y)):=by
 refine FnP.ofC func87 O ntmps87 OG fun m0 w0 F R0=>?_
 have hm:=z7 x.natAbs y.natAbs hx hy;have he:=EO x y;refine Z3 O O O O<|Ge O follows [0,1,2,3,4,5,6,7,8,9,10,11] OD ?_;iterate 9 refine D1 O O ?_
 refine Ds 14 [] O O O (fun τ h=>ae call136 hm (h.bt O)) O OD<|Ds 15 [] O O O (fun τ h=>ae call94 (AK _ _) (h.bt O)) O OD<|D1 O O ?_;refine ⟨OD,?_⟩;exact Gt O<|⟨_,_,O,O,⟨aY ⟨_,underlying91,O⟩ lK O O O,OK⟩,af ec he⟩
end
end Go.Proofs.YtedfonppffochaaGreatDoor
namespace Go.Proofs
open Go.Proofs.YtedfonppffochaaGreatDoor
open Go.Shelf
def Tryz.rY:Go.Shelf.Ren:=⟨fun | 103=>275 | 210=>280 | 206=>209 | n=>n,fun | 9=>9 | 4=>4 | 24=>205 | 3=>3 | n=>n,fun | n=>n⟩
theorem Tryz.FT:Go.Proofs.Lays.n103 Tryz.prog Tryz.rY:={
 mixed:=OD
 f103:=Tryz.func275.trans (af some OD)
 f206:=Tryz.func209.trans (af some OD)
 f210:=Tryz.func280.trans (af some OD)
 t3:=Tryz.underlying3
 a3:=Tryz.isAgg3
 z3:=Tryz.sizeOf3
 v3:=Tryz.zeroValue3
 t4:=Tryz.underlying4
 a4:=Tryz.isAgg4
 z4:=Tryz.sizeOf4
 v4:=Tryz.zeroValue4
 t9:=Tryz.underlying9
 a9:=Tryz.isAgg9
 z9:=Tryz.sizeOf9
 v9:=Tryz.zeroValue9
 t24:=Tryz.underlying205
 a24:=Tryz.isAgg205
 z24:=Tryz.sizeOf205
 v24:=Tryz.zeroValue205 }
open Go.RowKit in
theorem Tryz.strings_CutPrefix (s p:ByteArray) (w:World):
  Calls Tryz.prog 275 #[.string s,.string p] w fun e w'=>e= .returned (.tuple #[.string ⟨(Lib.trimPrefix s.data.toList p.data.toList).toArray⟩,.bool (Lib.hasPrefix s.data.toList p.data.toList)])/\w'=w:=Any.strings_CutPrefix Tryz.FT s p w
def Tryz.tr:Go.Shelf.Ren:=⟨fun | 283=>203 | n=>n,fun | 3=>3 | 9=>9 | 4=>4 | n=>n,fun | n=>n⟩
theorem Tryz.EY:Go.Proofs.Lays.n283 Tryz.prog Tryz.tr:={
 mixed:=OD
 f283:=Tryz.func203.trans (af some OD)
 t3:=Tryz.underlying3
 a3:=Tryz.isAgg3
 z3:=Tryz.sizeOf3
 v3:=Tryz.zeroValue3
 t4:=Tryz.underlying4
 a4:=Tryz.isAgg4
 z4:=Tryz.sizeOf4
 v4:=Tryz.zeroValue4
 t9:=Tryz.underlying9
 a9:=Tryz.isAgg9
 z9:=Tryz.sizeOf9
 v9:=Tryz.zeroValue9 }
open Go.Lib in
theorem Tryz.internal_strconv_small (i:Nat) (h:i<100) (w:World):
  Calls Tryz.prog 203 #[.int .i64 i] w fun e w'=>e= .returned (.string ⟨(Lib.decDigits i).toArray⟩)/\w'=w:=Any.internal_strconv_small Tryz.EY i h w
def Tryz.qA:Go.Shelf.Ren:=⟨fun | 284=>204 | 129=>164 | 317=>239 | 318=>240 | n=>n,fun | 53=>136 | 3=>3 | 212=>283 | 0=>0 | 4=>4 | 46=>161 | 5=>5 | 9=>9 | n=>n,fun | 17=>0 | n=>n⟩
theorem Tryz.BZ:Go.Proofs.LaysM.n284 Tryz.prog Tryz.qA:={
 mixed:=OD
 f129:=Tryz.func164.trans (af some OD)
 f284:=Tryz.func204.trans (af some OD)
 f317:=Tryz.func239.trans (af some OD)
 f318:=Tryz.func240.trans (af some OD)
 t0:=Tryz.underlying0
 a0:=Tryz.isAgg0
 z0:=Tryz.sizeOf0
 v0:=Tryz.zeroValue0
 t3:=Tryz.underlying3
 a3:=Tryz.isAgg3
 z3:=Tryz.sizeOf3
 v3:=Tryz.zeroValue3
 t4:=Tryz.underlying4
 a4:=Tryz.isAgg4
 z4:=Tryz.sizeOf4
 v4:=Tryz.zeroValue4
 t5:=Tryz.underlying5
 a5:=Tryz.isAgg5
 z5:=Tryz.sizeOf5
 v5:=Tryz.zeroValue5
 t9:=Tryz.underlying9
 a9:=Tryz.isAgg9
 z9:=Tryz.sizeOf9
 v9:=Tryz.zeroValue9
 t46:=Tryz.underlying161
 a46:=Tryz.isAgg161
 z46:=Tryz.sizeOf161
 v46:=Tryz.zeroValue161
 t53:=Tryz.underlying136
 a53:=Tryz.isAgg136
 z53:=Tryz.sizeOf136
 v53:=Tryz.zeroValue136
 t212:=Tryz.underlying283
 a212:=Tryz.isAgg283
 z212:=Tryz.sizeOf283
 v212:=Tryz.zeroValue283
 g17:=OD
 i0:=OD
 i3:=OD
 i4:=OD
 i5:=OD
 i9:=OD
 i46:=OD
 i53:=OD
 i212:=OD
 m17:=by kernel_rfl }
open Go.Lib in
theorem Tryz.internal_strconv_numDigits (u:Nat) (h1:1<=u) (h2:u<18446744073709551616) (w:World) (htab:Lib.TabIs Tryz.prog w "internal/strconv.uint64pow10" .u64 Lib.pow10Tab):
  Calls Tryz.prog 204 #[.int .u64 u] w fun e w'=>e= .returned (.int .i64 (Lib.nDigits u))/\w'=w:=Any.internal_strconv_numDigits Tryz.BZ u h1 h2 w htab
def Tryz.sU:Go.Shelf.Ren:=⟨fun | 285=>205 | n=>n,fun | 37=>163 | 53=>136 | 3=>3 | 4=>4 | 51=>218 | 9=>9 | 5=>5 | 0=>0 | n=>n,fun | n=>n⟩
theorem Tryz.Gf:Go.Proofs.Lays.n285 Tryz.prog Tryz.sU:={
 mixed:=OD
 f285:=Tryz.func205.trans (af some OD)
 t0:=Tryz.underlying0
 a0:=Tryz.isAgg0
 z0:=Tryz.sizeOf0
 v0:=Tryz.zeroValue0
 t3:=Tryz.underlying3
 a3:=Tryz.isAgg3
 z3:=Tryz.sizeOf3
 v3:=Tryz.zeroValue3
 t4:=Tryz.underlying4
 a4:=Tryz.isAgg4
 z4:=Tryz.sizeOf4
 v4:=Tryz.zeroValue4
 t5:=Tryz.underlying5
 a5:=Tryz.isAgg5
 z5:=Tryz.sizeOf5
 v5:=Tryz.zeroValue5
 t9:=Tryz.underlying9
 a9:=Tryz.isAgg9
 z9:=Tryz.sizeOf9
 v9:=Tryz.zeroValue9
 t37:=Tryz.underlying163
 a37:=Tryz.isAgg163
 z37:=Tryz.sizeOf163
 v37:=Tryz.zeroValue163
 t51:=Tryz.underlying218
 a51:=Tryz.isAgg218
 z51:=Tryz.sizeOf218
 v51:=Tryz.zeroValue218
 t53:=Tryz.underlying136
 a53:=Tryz.isAgg136
 z53:=Tryz.sizeOf136
 v53:=Tryz.zeroValue136 }
open Go.RowKit Go.Sort Go.Lib in
theorem Tryz.internal_strconv_formatBase10 (blk off cap:Nat) (u:Nat) (d:Array UInt8) (w:World) (hH:Holds (fun (b:UInt8)=>Value.int .u8 (b.toNat:Int)) w blk off d) (hu:u<10^d.size) (hu64:u<18446744073709551616) (hsz:d.size<4611686018427387904):
  Calls Tryz.prog 205 #[.slice (some ⟨blk,off,none⟩) d.size cap,.int .u64 u] w fun e w'=>
   e= .returned (.tuple #[])/\∃ (n v':Nat) (dk:Array UInt8),w'=(putRow (fun (b:UInt8)=>Value.int .u8 (b.toNat:Int)) w blk off dk).drewN n/\FmtInv d.size u 0 v' dk:=Any.internal_strconv_formatBase10 Tryz.Gf blk off cap u d w hH hu hu64 hsz
def Tryz.pF:Go.Shelf.Ren:=⟨fun | 14=>276 | 16=>281 | 17=>282 | 19=>288 | 20=>289 | 21=>290 | 22=>291 | 23=>292 | 24=>293 | 25=>298 | 27=>300 | 26=>299 | 28=>301 | 29=>302 | 30=>203 | 31=>204 | 32=>205 | 33=>206 | 35=>164 | 34=>239 | 36=>240 | 37=>241 | 38=>242 | 39=>263 | 40=>264 | n=>n,fun | 9=>9 | 3=>3 | 22=>136 | 24=>167 | 25=>306 | 4=>4 | 34=>312 | 5=>5 | 36=>161 | 37=>163 | 0=>0 | 39=>314 | 21=>21 | 44=>323 | 47=>224 | 50=>327 | 48=>325 | 2=>2 | 52=>255 | 55=>257 | 59=>283 | 60=>218 | 20=>20 | 61=>284 | 65=>303 | 66=>304 | 67=>98 | n=>n,fun | 0=>4 | 1=>5 | 2=>0 | 3=>2 | 4=>3 | n=>n⟩
theorem Tryz.B4:Go.Proofs.LaysPu.n14 Tryz.prog Tryz.pF:={
 mixed:=OD
 f14:=Tryz.func276.trans (af some OD)
 f16:=Tryz.func281.trans (af some OD)
 f17:=Tryz.func282.trans (af some OD)
 f19:=Tryz.func288.trans (af some OD)
 f20:=Tryz.func289.trans (af some OD)
 f21:=Tryz.func290.trans (af some OD)
 f22:=Tryz.func291.trans (af some OD)
 f23:=Tryz.func292.trans (af some OD)
 f24:=Tryz.func293.trans (af some OD)
 f25:=Tryz.func298.trans (af some OD)
 f26:=Tryz.func299.trans (af some OD)
 f27:=Tryz.func300.trans (af some OD)
 f28:=Tryz.func301.trans (af some OD)
 f29:=Tryz.func302.trans (af some OD)
 f30:=Tryz.func203.trans (af some OD)
 f31:=Tryz.func204.trans (af some OD)
 f32:=Tryz.func205.trans (af some OD)
 f33:=Tryz.func206.trans (af some OD)
 f34:=Tryz.func239.trans (af some OD)
 f35:=Tryz.func164.trans (af some OD)
 f36:=Tryz.func240.trans (af some OD)
 f37:=Tryz.func241.trans (af some OD)
 f38:=Tryz.func242.trans (af some OD)
 f39:=Tryz.func263.trans (af some OD)
 f40:=Tryz.func264.trans (af some OD)
 t0:=Tryz.underlying0
 a0:=Tryz.isAgg0
 z0:=Tryz.sizeOf0
 v0:=Tryz.zeroValue0
 i0:=OD
 t2:=Tryz.underlying2
 a2:=Tryz.isAgg2
 z2:=Tryz.sizeOf2
 v2:=Tryz.zeroValue2
 i2:=OD
 t3:=Tryz.underlying3
 a3:=Tryz.isAgg3
 z3:=Tryz.sizeOf3
 v3:=Tryz.zeroValue3
 i3:=OD
 t4:=Tryz.underlying4
 a4:=Tryz.isAgg4
 z4:=Tryz.sizeOf4
 v4:=Tryz.zeroValue4
 i4:=OD
 t5:=Tryz.underlying5
 a5:=Tryz.isAgg5
 z5:=Tryz.sizeOf5
 v5:=Tryz.zeroValue5
 i5:=OD
 t9:=Tryz.underlying9
 a9:=Tryz.isAgg9
 z9:=Tryz.sizeOf9
 v9:=Tryz.zeroValue9
 i9:=OD
 t20:=Tryz.underlying20
 a20:=Tryz.isAgg20
 z20:=Tryz.sizeOf20
 v20:=Tryz.zeroValue20
 i20:=OD
 t21:=Tryz.underlying21
 a21:=Tryz.isAgg21
 z21:=Tryz.sizeOf21
 v21:=Tryz.zeroValue21
 i21:=OD
 t22:=Tryz.underlying136
 a22:=Tryz.isAgg136
 z22:=Tryz.sizeOf136
 v22:=Tryz.zeroValue136
 i22:=OD
 t24:=Tryz.underlying167
 a24:=Tryz.isAgg167
 z24:=Tryz.sizeOf167
 v24:=Tryz.zeroValue167
 i24:=OD
 t25:=Tryz.underlying306
 a25:=Tryz.isAgg306
 z25:=Tryz.sizeOf306
 v25:=Tryz.zeroValue306
 i25:=OD
 t34:=Tryz.underlying312
 a34:=Tryz.isAgg312
 z34:=Tryz.sizeOf312
 v34:=Tryz.zeroValue312
 i34:=OD
 c34:=OD
 t36:=Tryz.underlying161
 a36:=Tryz.isAgg161
 z36:=Tryz.sizeOf161
 v36:=Tryz.zeroValue161
 i36:=OD
 t37:=Tryz.underlying163
 a37:=Tryz.isAgg163
 z37:=Tryz.sizeOf163
 v37:=Tryz.zeroValue163
 i37:=OD
 t39:=Tryz.underlying314
 a39:=Tryz.isAgg314
 z39:=Tryz.sizeOf314
 v39:=Tryz.zeroValue314
 i39:=OD
 t44:=Tryz.underlying323
 a44:=Tryz.isAgg323
 z44:=Tryz.sizeOf323
 v44:=Tryz.zeroValue323
 i44:=OD
 t47:=Tryz.underlying224
 a47:=Tryz.isAgg224
 z47:=Tryz.sizeOf224
 v47:=Tryz.zeroValue224
 i47:=OD
 t48:=Tryz.underlying325
 a48:=Tryz.isAgg325
 z48:=Tryz.sizeOf325
 v48:=Tryz.zeroValue325
 i48:=OD
 t50:=Tryz.underlying327
 a50:=Tryz.isAgg327
 z50:=Tryz.sizeOf327
 v50:=Tryz.zeroValue327
 i50:=OD
 t52:=Tryz.underlying255
 a52:=Tryz.isAgg255
 z52:=Tryz.sizeOf255
 v52:=Tryz.zeroValue255
 i52:=OD
 t55:=Tryz.underlying257
 a55:=Tryz.isAgg257
 z55:=Tryz.sizeOf257
 v55:=Tryz.zeroValue257
 i55:=OD
 t59:=Tryz.underlying283
 a59:=Tryz.isAgg283
 z59:=Tryz.sizeOf283
 v59:=Tryz.zeroValue283
 i59:=OD
 t60:=Tryz.underlying218
 a60:=Tryz.isAgg218
 z60:=Tryz.sizeOf218
 v60:=Tryz.zeroValue218
 i60:=OD
 t61:=Tryz.underlying284
 a61:=Tryz.isAgg284
 z61:=Tryz.sizeOf284
 t65:=Tryz.underlying303
 a65:=Tryz.isAgg303
 z65:=Tryz.sizeOf303
 v65:=Tryz.zeroValue303
 i65:=OD
 t66:=Tryz.underlying304
 a66:=Tryz.isAgg304
 z66:=Tryz.sizeOf304
 v66:=Tryz.zeroValue304
 i66:=OD
 t67:=Tryz.underlying98
 a67:=Tryz.isAgg98
 z67:=Tryz.sizeOf98
 v67:=Tryz.zeroValue98
 i67:=OD
 g0:=OD
 m0:=OD
 g1:=OD
 m1:=OD
 g2:=OD
 m2:=OD
 g3:=OD
 m3:=OD
 g4:=OD
 m4:=by kernel_rfl }
open Go.RowKit in
theorem Tryz.strconv_ParseUint_10_at64_ok (s:ByteArray) (hmax:s.size<=9223372036854775806) (u:Nat) (h:Lib.parseUintB 64 s.data.toList= .ok u) (w:World):
  Calls Tryz.prog 276 #[.string s,.int .i64 10,.int .i64 64] w fun e w'=>e= .returned (.tuple #[.int .u64 u,.nilIface])/\(w'=w\/w'=Lib.bytesWorld w 5 s):=Any.strconv_ParseUint_10_at64_ok Tryz.B4 s hmax u h w
def Tryz.sV:Go.Shelf.Ren:=⟨fun | 145=>247 | 220=>268 | 219=>278 | 217=>284 | 225=>285 | 224=>286 | 267=>287 | 266=>296 | 314=>297 | n=>n,fun | 9=>9 | 4=>4 | 59=>288 | 3=>3 | 5=>5 | 46=>161 | 146=>259 | 51=>218 | n=>n,fun | 1=>1 | n=>n⟩
theorem Tryz.FP:Go.Proofs.Lays.n145 Tryz.prog Tryz.sV:={
 mixed:=OD
 f145:=Tryz.func247.trans (af some OD)
 f217:=Tryz.func284.trans (af some OD)
 f219:=Tryz.func278.trans (af some OD)
 f220:=Tryz.func268.trans (af some OD)
 f224:=Tryz.func286.trans (af some OD)
 f225:=Tryz.func285.trans (af some OD)
 f266:=Tryz.func296.trans (af some OD)
 f267:=Tryz.func287.trans (af some OD)
 f314:=Tryz.func297.trans (af some OD)
 t3:=Tryz.underlying3
 a3:=Tryz.isAgg3
 z3:=Tryz.sizeOf3
 v3:=Tryz.zeroValue3
 t4:=Tryz.underlying4
 a4:=Tryz.isAgg4
 z4:=Tryz.sizeOf4
 v4:=Tryz.zeroValue4
 t5:=Tryz.underlying5
 a5:=Tryz.isAgg5
 z5:=Tryz.sizeOf5
 v5:=Tryz.zeroValue5
 t9:=Tryz.underlying9
 a9:=Tryz.isAgg9
 z9:=Tryz.sizeOf9
 v9:=Tryz.zeroValue9
 t46:=Tryz.underlying161
 a46:=Tryz.isAgg161
 z46:=Tryz.sizeOf161
 v46:=Tryz.zeroValue161
 t51:=Tryz.underlying218
 a51:=Tryz.isAgg218
 z51:=Tryz.sizeOf218
 v51:=Tryz.zeroValue218
 t59:=Tryz.underlying288
 a59:=Tryz.isAgg288
 z59:=Tryz.sizeOf288
 v59:=Tryz.zeroValue288
 t146:=Tryz.underlying259
 a146:=Tryz.isAgg259
 z146:=Tryz.sizeOf259
 v146:=Tryz.zeroValue259
 g1:=by kernel_rfl }
open Go.RowKit Go.Lib in
theorem Tryz.strings_Cut (s sep:ByteArray) (m:Int) (w:World) (hs:s.size<4294967281) (hm:w.cell? ⟨1,0,none⟩=some (.int .i64 m)):
  Calls Tryz.prog 247 #[.string s,.string sep] w fun e w'=>e= .returned (.tuple #[.string ⟨(Lib.cut s.data.toList sep.data.toList).1.toArray⟩,.string ⟨(Lib.cut s.data.toList sep.data.toList).2.1.toArray⟩,.bool (Lib.cut s.data.toList sep.data.toList).2.2])/\∃ n,w'=w.drewN n:=Any.strings_Cut Tryz.FP s sep m w hs hm
def Tryz.sD:Go.Shelf.Ren:=⟨fun | 101=>269 | 208=>279 | 206=>209 | n=>n,fun | 9=>9 | 4=>4 | 3=>3 | n=>n,fun | n=>n⟩
theorem Tryz.Ft:Go.Proofs.Lays.n101 Tryz.prog Tryz.sD:={
 mixed:=OD
 f101:=Tryz.func269.trans (af some OD)
 f206:=Tryz.func209.trans (af some OD)
 f208:=Tryz.func279.trans (af some OD)
 t3:=Tryz.underlying3
 a3:=Tryz.isAgg3
 z3:=Tryz.sizeOf3
 v3:=Tryz.zeroValue3
 t4:=Tryz.underlying4
 a4:=Tryz.isAgg4
 z4:=Tryz.sizeOf4
 v4:=Tryz.zeroValue4
 t9:=Tryz.underlying9
 a9:=Tryz.isAgg9
 z9:=Tryz.sizeOf9
 v9:=Tryz.zeroValue9 }
open Go.RowKit Go.Lib in
theorem Tryz.strings_TrimPrefix (s p:ByteArray) (w:World):
  Calls Tryz.prog 269 #[.string s,.string p] w fun e w'=>e= .returned (.string ⟨(Lib.trimPrefix s.data.toList p.data.toList).toArray⟩)/\w'=w:=Any.strings_TrimPrefix Tryz.Ft s p w
end Go.Proofs
namespace Go.Proofs.YtedfonppffochaaGreatDoor
section
theorem vX (w:World) (n:Nat):Below w.heap.size w (w.drewN n):=⟨O,O,O,qT _,fun _ _=>rfl⟩
theorem tn (w:World) (n:Nat) (os:Array Obj):Below w.heap.size w (Go.Sort.grow (w.drewN n) os):=by
 refine ⟨O,O,O,?_,fun k hk=>?_⟩
 ·show w.heap.size<=(w.heap++os).size;simp
 ·show (w.heap++os)[k]? =w.heap[k]?;rw [Array.getElem?_append_left hk]
theorem sC (w:World) (e:TypeId) (s:ByteArray):Below w.heap.size w (Lib.bytesWorld w e s):=by
 refine ⟨O,O,O,?_,fun k hk=>Lib.bytesWorld_at_old w e s k hk⟩;rw [Lib.bytesWorld_size];omega
section
variable {P:Program} {f:FuncId}
theorem gw {w:World} {R:Nat->Prop} {s:ByteArray} {us:List Value} {ps:List PV} (h:RelPL w R (.str s::ps) us):∃ vs,us= .string s::vs/\RelPL w R ps vs:=by
 simp only [RelPL] at h;obtain ⟨u,vs,rfl,h1,h2⟩:=h;simp only [RelP] at h1;exact ⟨vs,by rw [h1],h2⟩
theorem nJ {w:World} {R:Nat->Prop} {k:IntKind} {n:Int} {us:List Value} {ps:List PV} (h:RelPL w R (.int k n::ps) us):∃ vs,us= .int k n::vs/\RelPL w R ps vs:=by
 simp only [RelPL] at h;obtain ⟨u,vs,rfl,h1,h2⟩:=h;simp only [RelP] at h1;exact ⟨vs,by rw [h1],h2⟩
theorem kj {w:World} {R:Nat->Prop} {us:List Value} (h:RelPL w R [] us):us=[]:=by simpa only [RelPL] using h
end
theorem GQ {w:World} {R:Nat->Prop} (h:lA w R):Lib.TabIs Tryz.prog w "internal/strconv.uint64pow10" .u64 Lib.pow10Tab:=by
 obtain ⟨_,o,h1,t,fz,rfl⟩:=h (0,_) (by simp only [glb];exact Kl);have hg:Tryz.prog.globalNamed "internal/strconv.uint64pow10" =some 0:=OD;simp only [Lib.TabIs,World.var?,hg,Option.bind_some,h1];rfl
theorem FG {w:World} {R:Nat->Prop} (h:lA w R):∃ m:Int,w.cell? ⟨1,0,none⟩=some (.int .i64 m):=by
 obtain ⟨_,o,h1,m,t,fz,rfl⟩:=h (1,_) (by simp only [glb];exact vf _ Kl);exact ⟨m,by simp [World.cell?,h1]⟩
theorem DY (s sep:ByteArray) (hs:s.size<4294967281):FnP Tryz.prog 247 [.str s,.str sep] (· = .tup [.str ⟨(Lib.cut s.data.toList sep.data.toList).1.toArray⟩,.str ⟨(Lib.cut s.data.toList sep.data.toList).2.1.toArray⟩,.bool (Lib.cut s.data.toList sep.data.toList).2.2]):=by
 intro w R us hG hR hrel;obtain ⟨v11,rfl,h11⟩:=gw hrel;obtain ⟨v12,rfl,h12⟩:=gw h11;obtain rfl:=kj h12;obtain ⟨m,hm⟩:=FG hG;exact (Tryz.strings_Cut s sep m w hs hm).mono fun e w' ⟨he,n,hw⟩=>⟨_,_,he,O,by rw [hw];exact vX w n,by simp [RelP,RelPL]⟩
theorem qy (s p:ByteArray):FnP Tryz.prog 275 [.str s,.str p] (· = .tup [.str ⟨(Lib.trimPrefix s.data.toList p.data.toList).toArray⟩,.bool (Lib.hasPrefix s.data.toList p.data.toList)]):=by
 intro w R us hG hR hrel;obtain ⟨v11,rfl,h11⟩:=gw hrel;obtain ⟨v12,rfl,h12⟩:=gw h11;obtain rfl:=kj h12;exact (Tryz.strings_CutPrefix s p w).mono fun e w' ⟨he,hw⟩=>⟨_,_,he,O,by rw [hw];exact Below.refl _ _,by simp [RelP,RelPL]⟩
theorem oI (s p:ByteArray):FnP Tryz.prog 269 [.str s,.str p] (· = .str ⟨(Lib.trimPrefix s.data.toList p.data.toList).toArray⟩):=by
 intro w R us hG hR hrel;obtain ⟨v11,rfl,h11⟩:=gw hrel;obtain ⟨v12,rfl,h12⟩:=gw h11;obtain rfl:=kj h12;exact (Tryz.strings_TrimPrefix s p w).mono fun e w' ⟨he,hw⟩=>⟨_,_,he,O,by rw [hw];exact Below.refl _ _,by simp only [RelP]⟩
theorem po (s:ByteArray) (hmax:s.size<=9223372036854775806) (u:Nat) (hu:Lib.parseUintB 64 s.data.toList= .ok u):FnP Tryz.prog 276 [.str s,.int .i64 10,.int .i64 64] (· = .tup [.int .u64 (u:Int),.niliface]):=by
 intro w R us hG hR hrel;obtain ⟨v11,rfl,h11⟩:=gw hrel;obtain ⟨v12,rfl,h12⟩:=nJ h11;obtain ⟨v13,rfl,h13⟩:=nJ h12;obtain rfl:=kj h13;refine (Tryz.strconv_ParseUint_10_at64_ok s hmax u hu w).mono fun e w' ⟨he,hw⟩=>⟨_,_,he,O,?_,by simp [RelP,RelPL]⟩
 rcases hw with rfl | rfl
 ·exact Below.refl _ _
 ·exact sC w _ s
end
def oY (c:UInt8):Bool:=decide (48<=c.toNat)&&decide (c.toNat<=57)
def jy (l:List UInt8):Nat:=l.foldl (fun a c=>a*10+(c.toNat-48)) 0
theorem yN (l:List UInt8) (a:Nat):l.foldl (fun a c=>a*10+(c.toNat-48)) a=a*10^l.length+jy l:=by
 induction l generalizing a with
 | nil=>simp [jy]
 | cons c l ih=>
   have e:jy (c::l)=(0*10+(c.toNat-48))*10^l.length+jy l:=by rw [jy,FE,ih]
   rw [FE,ih,e,qU,Kz,Oe,OB,Dq,Le,KK 10,Ov]
theorem sA (a b:List UInt8):jy (a++b)=jy a*10^b.length+jy b:=by
 rw [jy,J0,yN];rfl
theorem yA {l:List UInt8} (h:∀ c∈l,oY c=true):jy l<10^l.length:=by
 suffices ∀ a,l.foldl (fun a c=>a*10+(c.toNat-48)) a<(a+1)*10^l.length by simpa [jy] using this 0
 induction l with
 | nil=>intro a;simp
 | cons c l ih=>
   intro a;have hc:=h c OG;simp only [oY,cH,AS] at hc;have:=ih (fun d hd=>h d (by simp [hd])) (a*10+(c.toNat-48));rw [FE,qU,Kz,KK (10^l.length),<-Le];exact IP this (JQ _ OC)
theorem wQ {l:List UInt8} (h:∀ c∈l,oY c=true) (a:Nat) (hl:(a+1)*10^l.length<=1000000000000000000):Lib.parseUintM (2^64-1) a l= .ok (l.foldl (fun a c=>a*10+(c.toNat-48)) a):=by
 induction l generalizing a with
 | nil=>rfl
 | cons c l ih=>
   have hc:=h c OG;simp only [oY,cH,AS] at hc;rw [qU,Kz,KK (10^l.length),<-Le] at hl;have hp:1<=10^l.length:=Nat.pow_pos OE;have h1:(a+1)*10*1<=(a+1)*10*10^l.length:=Ks _ hp;have h2:(a+1)*10<=1000000000000000000:=OC;rw [Lib.parseUintM,og hc,ga OC,ga OC,FE];exact ih (fun d hd=>h d (by simp [hd])) _ (uv (JQ _ OC) hl)
theorem C5 {l:List UInt8} (h:∀ c∈l,oY c=true) (h0:l≠[]) (hl:l.length<=9):Lib.parseUintB 64 l= .ok (jy l):=by
 rw [Lib.parseUintB,ga h0];refine wQ h 0 ?_;have:10^l.length<=10^9:=Kf OE hl;omega
def bP (s:ByteArray):List UInt8:=Lib.trimPrefix s.data.toList [45]
def Fg (s:ByteArray):Bool:=Lib.hasPrefix s.data.toList [45]
def rdZ (s:ByteArray):Int:=sgn (Fg s) (jy (bP s))
theorem read_step {D:List UInt8} {z lo k V:Nat} (hz:z<=D.length) (hlo:lo=z-9) (h:jy D=jy (D.take z)*1000000000^k+V):
  jy D=jy (D.take lo)*1000000000^(k+1)+(V+1000000000^k*jy ((D.drop lo).take (z-lo))):=by
 have e:D.take z=D.take lo++(D.drop lo).take (z-lo):=by
  rw [<-List.take_add,show lo+(z-lo)=z by omega]
 have hl:((D.drop lo).take (z-lo)).length=z-lo:=by simp;omega
 rw [e,sA,hl] at h;rw [h];generalize jy ((D.drop lo).take (z-lo))=u;by_cases h9:9<=z
 ·have:z-lo=9:=OC;rw [this,show (10:Nat)^9=1000000000 from O,Kz,Oe,KK u,Le,KK 1000000000 (1000000000^k)];omega
 ·have:lo=0:=OC;subst this;rw [List.take_zero];simp only [jy,List.foldl_nil,OB,Dq];rw [KK u,LL]
attribute [simp] dc
theorem vu (l:List Nat) (n:Nat):bX l++[.int .u64 (n:Int)]=bX (l++[n]):=by simp [bX]
def zO (D:List UInt8) (z:Nat):Nat:=jy ((D.drop (z-9)).take (z-(z-9)))
theorem Cu (D:List UInt8) (a b:Nat):((⟨D.toArray⟩:ByteArray).extract a b).data.toList=(D.drop a).take (b-a):=by
 rw [ByteArray.extract_mk]
theorem xI {D:List UInt8} (hd:∀ c∈D,oY c=true) {z:Nat} (hz:0<z/\z<=D.length):Lib.parseUintB 64 ((⟨D.toArray⟩:ByteArray).extract (z-9) z).data.toList= .ok (zO D z):=by
 rw [Cu];refine C5 (fun c hc=>hd c (LM (Kk hc))) (fun e=>?_) OH;have:=af List.length e;simp at this;omega
theorem yq {D:List UInt8} (hd:∀ c∈D,oY c=true) (z:Nat):zO D z<1000000000:=by
 have:=yA (l:=(D.drop (z-9)).take (z-(z-9))) (fun c hc=>hd c (LM (Kk hc)));refine IP this ?_;have h9:((D.drop (z-9)).take (z-(z-9))).length<=9:=by simp;omega
 exact uv (Kf OE h9) OE
section
theorem iB (s:ByteArray) (hd:∀ c∈bP s,oY c=true) (hl:(bP s).length<=1000000):FnP Tryz.prog 266 [.str s] (· =ec (rdZ s)):=by
 refine FnP.ofC func266 O ntmps266 OG fun m0 w0 F R0=>?_
 have hcp:FnP Tryz.prog 275 [.str s,.str ⟨#[45]⟩] (· = .tup [.str ⟨(bP s).toArray⟩,.bool (Fg s)]):=qy s ⟨#[45]⟩;have hsz:(⟨(bP s).toArray⟩:ByteArray).size=(bP s).length:=by simp [ByteArray.size]
 refine Z1 O O<|Z1 O O<|Rs 11 O O (ae call275 hcp O) ?_;iterate 5 refine A1 O ?_
 refine Z1 O O<|Im (Iu 5 1 1 136 O O)<|Z1 O O<|Rs 15 O O (XJ.cast (v':= .pv (.int .i64 ((bP s).length:Int))) (Ap underlying9 O) (af (fun (i:Nat)=>V.pv (.int .i64 (i:Int))) hsz))<|A1 O ?_;refine Gl O (st:=fun x_0:Int×List Nat=>mkS [(2,.ptr 0 0),(3,.pv (.str ⟨(bP s).toArray⟩)),(4,.pv (.bool (Fg s))),(5,.gsl 1 1 x_0.2.length),(6,.pv (.int .i64 x_0.1))] [(0,.mix 91 [.pv (.bool false),.pv nS]),(1,.gro 136 (bX x_0.2))] 2)
  (I:=fun x_0=>x_0.1<=((bP s).length:Int)/\ -9<x_0.1/\Lok x_0.2/\x_0.2.length+x_0.1.toNat<=(bP s).length/\jy (bP s)=jy ((bP s).take x_0.1.toNat)*1000000000^x_0.2.length+val x_0.2) (μ:=fun x_0=>x_0.1.toNat) (x0:=(((bP s).length:Int),[])) (Io (aS O) (aO O) O O) (⟨Int.le_refl _,OC,fun _ h=>absurd h OG,OG,by simp [val]⟩) ?_
 rintro ⟨z,l⟩ ⟨hz,hz9,hok,hll,hv⟩;try simp only at hz hz9 hok hll hv ⊢
 refine Z2 O O O ?_;refine Gp O O (fun hc17=>?_) (fun hc17=>?_)
 ·refine Il ?_
  repeat apply Iz
  refine AW.block ?_;have hzp:0<z:=hc17;have hmx:(if z-9>0 then z-9 else 0)=((z.toNat-9:Nat):Int):=by split<;>omega
  have hzz:z=((z.toNat:Nat):Int):=OC;have hpu:=xI hd (z:=z.toNat) ⟨OC,OC⟩;refine Z3 O O O O<|Rs 24 O O (XJ.cast (v':= .pv (.int .i64 ((z.toNat-9:Nat):Int))) (yX O O) (af (fun i=>V.pv (.int .i64 i)) hmx))<|Rs 25 O O (XJ.cast (v':= .pv (.int .i64 ((z.toNat:Nat):Int))) iZ (af (fun i=>V.pv (.int .i64 i)) hzz))<|A1 O<|Rs 27 O O (ae call276 (po _ OH _ hpu) O) ?_;iterate 5 refine A1 O ?_
  refine Gr O ?_;iterate 5 refine A1 O ?_
  exact Z3 O O O O<|⟨(z-9,l++[zO (bP s) z.toNat]),Ip [0,3] ⟨O,O,O,by simp only [a6,vt];rfl,O,OK⟩ ⟨O,af (fun c=>some (Ob.gro 136 c)) (vu _ _),OK⟩ O O OE O,⟨OC,OC,hok.append (fun b hb=>by rw [fe.1 hb];exact yq hd _),by rw [a6,vt];omega,by rw [a6,vt,ez,val_one,show (z-9).toNat=z.toNat-9 by omega];exact read_step OC O hv⟩,OC⟩
 ·refine Gx O<|Im (Ir 1 O O) ?_;have hz0:z.toNat=0:=OC;rw [hz0,List.take_zero,show jy []=0 from O,OB,Dq] at hv;exact Z2 O O O<|Rs 36 O O (ae call95 (cw l O OC hok hv.symm) O)<|Rs 37 O O (ae call94 (AK _ _) O)<|A1 O<|Gt O<|⟨_,_,O,O,⟨aY ⟨_,underlying91,O⟩ lK O O O,OK⟩,O⟩
end
section
open Mk
theorem HY (s:ByteArray) (k:Nat) (h:k<s.size):s.data.toList.getD k 0=s[k]'h:=by
 rw [sh,fI (by simpa using h)];rfl
end
section
open Mk
def pW (D:List UInt8):Bool:= !D.isEmpty&&decide (D.length<=400)&&(D.getD 0 0 !=48)&&D.all oY
def bo (s:ByteArray):Bool:=(s.toList==(⟨#[48]⟩:ByteArray).toList)||pW (bP s)
theorem r7 {s:ByteArray} (h:(s.toList==(⟨#[48]⟩:ByteArray).toList)=true):bo s=true:=by rw [bo,h];rfl
theorem rH {s:ByteArray} (h:(s.toList==(⟨#[48]⟩:ByteArray).toList)=false):bo s=pW (bP s):=by rw [bo,h];rfl
def mb (x:ByteArray):Bool:=(((x.toList==(⟨#[]⟩:ByteArray).toList)||decide ((x.size:Int)>400))||((((x.data.toList.getD 0 0).toNat:Nat):Int)==48))
theorem p7 (x:ByteArray):(x.toList==(⟨#[]⟩:ByteArray).toList)=x.data.toList.isEmpty:=by
 rw [Lib.toList_data,Lib.toList_data];cases x.data.toList with
 | nil=>rfl
 | cons a l=>rfl
theorem HE (c:UInt8):(((c.toNat:Nat):Int)==48)=(c==48):=by
 rw [BY,Li,Li];constructor
 ·intro h;exact UInt8.toNat_inj.1 (show c.toNat=(48:UInt8).toNat from Int.ofNat_inj.1 h)
 ·intro h;rw [h];rfl
theorem pM (D:List UInt8):mb ⟨D.toArray⟩= !(!D.isEmpty&&decide (D.length<=400)&&(D.getD 0 0 !=48)):=by
 have hsz:(⟨D.toArray⟩:ByteArray).size=D.length:=by simp [ByteArray.size]
 rw [mb,p7,HE,hsz];have h2:decide ((D.length:Int)>400)= !decide (D.length<=400):=by
  rw [BY];simp;omega
 rw [h2];show (D.isEmpty|| !decide (D.length<=400)||(D.getD 0 0==48))=_;rw [bne];cases D.isEmpty<;>cases decide (D.length<=400)<;>cases (D.getD 0 0==48)<;>rfl
theorem Dd {D:List UInt8} (h:mb ⟨D.toArray⟩=true):pW D=false:=by
 rw [pM] at h;rw [pW];simp only [LB] at h;rw [h];rfl
theorem DQ {D:List UInt8} (h:mb ⟨D.toArray⟩=false):pW D=D.all oY/\0<D.length/\D.length<=400:=by
 rw [pM] at h;simp only [Bool.not_eq_false'] at h;rw [pW,h];simp only [cH,AS] at h;refine ⟨O,?_,h.1.2⟩;cases D with
 | nil=>simp at h
 | cons a l=>simp
def B8 (c:UInt8):Bool:=decide ((c.toNat:Int)<48)||decide ((c.toNat:Int)>57)
theorem uY (c:UInt8):B8 c= !oY c:=by
 rw [B8,oY,BY];simp;omega
theorem Hz {D:List UInt8} {k:Nat} (hk:k<D.length) (h:B8 (D[k]'hk)=true):D.all oY=false:=by
 rw [uY] at h;rw [Od];exact ⟨_,aJ hk,by simpa using h⟩
theorem Fm {D:List UInt8} (h:∀ j,j<D.length->oY (D.getD j 0)=true):D.all oY=true:=by
 rw [nP];intro c hc;obtain ⟨j,hj,rfl⟩:=By hc;have:=h j hj;rwa [sh,fI hj] at this
theorem F2 {D:List UInt8} {k:Nat} (hk:k<D.length) (h:B8 (D[k]'hk)=false):oY (D.getD k 0)=true:=by
 rw [uY] at h;rw [sh,fI hk];simpa using h
theorem vpos {x:ByteArray} (h:((x.toList==(⟨#[]⟩:ByteArray).toList)||decide ((x.size:Int)>400))=false):0<x.size:=by
 rw [IS,p7] at h;have h1:=h.1;rw [Lib.size_eq];cases e:x.data.toList with
 | nil=>rw [e] at h1;simp at h1
 | cons a l=>simp
theorem cV (s:ByteArray):FnP Tryz.prog 248 [.str s] (· = .bool (bo s)):=by
 refine FnP.of func248 O ntmps248 OG fun m0 w0 F R0=>?_
 have hcp:FnP Tryz.prog 269 [.str s,.str ⟨#[45]⟩] (· = .str ⟨(bP s).toArray⟩):=oI s ⟨#[45]⟩;refine Z1 O O<|Z2 O O O ?_;refine Gc O O (fun hc7=>?_) (fun hc7=>?_)
 ·exact Z1 O O<|Gt O<|⟨_,_,O,O,af PV.bool (r7 hc7).symm⟩
 ·have hs:bo s=pW (bP s):=rH hc7;clear hc7;generalize bP s=D at*;have hgn:=@Dd D;have hgg:=@DQ D;have hdl:(⟨D.toArray⟩:ByteArray).data.toList=D:=rfl;have hsz:(⟨D.toArray⟩:ByteArray).size=D.length:=by simp [ByteArray.size]
  refine Il<|Z1 O O<|Rs 9 O O (ae call269 hcp O)<|A1 O<|Z3 O O O O ?_;apply Ix 4 12 16 [13,14,15] O ON
  ·intro hb2;iterate 4 refine A1 O ?_
   exact Iq OM O O O
  ·intro hb2;iterate 4 refine A1 O ?_
   exact Iq OM O O O
  refine A1 O ?_;apply Ix 4 17 21 [18,19,20] O ON
  ·intro hb7;iterate 4 refine A1 O ?_
   exact Iq OM O O O
  ·intro hb7;have hp:=vpos hb7;exact A1 O<|Rg 19 O O O (pz 0 underlying9 O O O hp)<|Rg 20 O O O ((aQ O O O).cast (v':= .pv (.bool ((((((⟨D.toArray⟩:ByteArray).data.toList.getD 0 0).toNat:Nat):Int)==48)))) (by rw [HY _ 0 hp]))<|A1 O<|Iq OM O O O
  refine Gc O O (fun hc21=>?_) (fun hc21=>?_)
  ·have hv:mb ⟨D.toArray⟩=true:=hc21;exact Z1 O O<|Gt O<|⟨_,_,O,O,af PV.bool (hs.trans (hgn hv)).symm⟩
  ·obtain ⟨hg2,hD0,hD4⟩:=hgg (show mb ⟨D.toArray⟩=false from hc21);refine Il<|Z4 O O O O O ?_;refine Gl O (st:=fun x_0:Nat=>mkS [(23,.pv (.sl (some false) D.length (az D))),(24,.pv (.int .i64 D.length)),(25,.pv (.int .i64 x_0))] [] 0)
    (I:=fun x_0=>x_0<=D.length/\∀ j,j<x_0->oY (D.getD j 0)=true) (μ:=fun x_0=>D.length-x_0) (x0:=(0)) (Io (aS O) trivial O O) (⟨eF _,fun j hj=>absurd hj (Nat.not_lt_zero _)⟩) ?_
   rintro k ⟨hk,hall⟩;refine Z1 O O ?_;refine Gp O O (fun hc26=>?_) (fun hc26=>?_)
   ·have hlt:k<D.length:=OC;have hv:=kp hlt;have hne:=jZ hlt;have hno:=Hz hlt;have hye:=F2 hlt;refine Il ?_
    repeat apply Iz
    refine AW.block ?_;generalize D[k]=c at hno hye hv ⊢;refine Z1 O O ?_;first | refine A2 O OF ?_ | refine A1 O ?_
    refine A1 O<|Z3 O O O O ?_;apply Ix 3 31 34 [32,33] O ON
    ·intro hb2;exact Y3 O O O<|Iq OM O O O
    ·intro hb2;exact Y3 O O O<|Iq OM O O O
    refine Gc O O (fun hc34=>?_) (fun hc34=>?_)
    ·have hc:=hno hc34;exact Z1 O O<|Gt O<|⟨_,_,O,O,af PV.bool (by rw [hs,hg2,hc])⟩
    ·have hc:=hye hc34;exact Il<|Z2 O O O<|⟨(k+1),Io (aS O) trivial O O,⟨OC,fun j hj=>by rcases DJ.1 hj with h | rfl;exact hall j h;exact hc⟩,OC⟩
   ·exact Gx O<|Z1 O O<|Gt O<|⟨_,_,O,O,af PV.bool (by rw [hs,hg2,Fm fun j hj=>hall j OC])⟩
theorem dA {s:ByteArray} (h:bo s=true):(∀ c∈bP s,oY c=true)/\(bP s).length<=400:=by
 rw [bo,Jy] at h;rcases h with h | h
 ·rw [Lib.toList_data,Lib.toList_data,Li] at h;have e:bP s=[48]:=by rw [bP,h];rfl
  rw [e];exact ⟨fun c hc=>by rw [fe.1 hc];rfl,OE⟩
 ·simp only [pW,cH,AS,nP] at h;exact ⟨h.2,h.1.1.2⟩
theorem EH (s:ByteArray):(rdZ s).natAbs=jy (bP s):=yc _ _
theorem FO {n k:Nat} (h:n<=9*k):10^n<=1000000000^k:=by
 rw [show (1000000000:Nat)=10^9 from O,<-Nat.pow_mul];exact Kf OE h
theorem vY {a b:Nat} (h:a<=b):(aj a).length<=(aj b).length:=bF.2 (Nat.lt_of_le_of_lt h (bF.1 (qT _)))
theorem oq {s:ByteArray} (h:bo s=true):(aj (rdZ s).natAbs).length<=400:=by
 obtain ⟨h1,h2⟩:=dA h;rw [EH];obtain ⟨k,hk⟩:∃ k,k=400:=⟨_,O⟩;rw [<-hk] at h2 ⊢;exact bF.2 (IP (yA h1) (FO OC))
theorem iC (s:ByteArray) (h:bo s=true):FnP Tryz.prog 249 [.str s] (· =ec (rdZ s)):=by
 refine FnP.ofC func249 O ntmps249 OG fun m0 w0 F R0=>?_
 have hd:=dA h;exact Z1 O O<|Z1 O O<|Rs 4 O O (ae call266 (iB s hd.1 OC) O)<|A1 O<|Gt O<|⟨_,_,O,O,⟨aY ⟨_,underlying91,O⟩ lK O O O,OK⟩,O⟩
theorem xW (a b:ByteArray) (ha:bo a=true) (hb:bo b=true):FnP Tryz.prog 265 [.str a,.str b] (· = .int .i64 (rdZ a-rdZ b).sign):=by
 refine FnP.of func265 O ntmps265 OG fun m0 w0 F R0=>?_
 have hva:=cV a;have hvb:=cV b;have hla:=oq ha;have hlb:=oq hb;have hra:=iC a ha;have hrb:=iC b hb;rw [ha] at hva;rw [hb] at hvb;refine Z1 O O<|Z1 O O<|Rs 6 O O (ae call248 hva O)<|Y2 O O ?_;apply Ix 4 8 12 [9,10,11] O ON
 ·intro hb3;iterate 4 refine A1 O ?_
  exact Iq OM O O O
 ·intro hb3;exact A1 O<|Rg 10 O O O (ae call248 hvb O)<|Y2 O O<|Iq OM O O O
 refine Gc O O (fun hc12=>absurd hc12 OG) (fun hc12=>?_);exact Il<|Z1 O O<|Rs 14 O O (ae call249 hra O)<|A1 O<|Rs 16 O O (ae call249 hrb O)<|Rs 17 O O (ae call50 (gl _ _ OC OC) O)<|A1 O<|Gt O<|⟨_,_,O,O,O⟩
def Gy (x y:Int):Prop:=FnP Tryz.prog 267 [ec x,ec y] (· =ec (Int.gcd x y:Int))
def sO (s:ByteArray):ByteArray:=⟨(Lib.cut s.data.toList [47]).1.toArray⟩
def o5 (s:ByteArray):ByteArray:=⟨(Lib.cut s.data.toList [47]).2.1.toArray⟩
def cS (s:ByteArray):Bool:=(Lib.cut s.data.toList [47]).2.2
def EE:ByteArray:=⟨#[49]⟩
def zeroT:ByteArray:=⟨#[48]⟩
def HA (s:ByteArray):Bool:=((sO s).toList==zeroT.toList)|| !bo (o5 s)||decide (rdZ (o5 s)<=1)
def mP (s:ByteArray):Bool:=if (!bo (sO s)|| !cS s)=true then !cS s&&bo (sO s) else !HA s&&decide (Int.gcd (rdZ (sO s)) (rdZ (o5 s))=1)
theorem se:rdZ EE=1:=OE
theorem nk:bo EE=true:=by rw [bo,Jy];exact .inr OE
theorem F5 (a:Int):decide ((a-1).sign<=0)=decide (a<=1):=by
 rw [BY,AS,AS];rcases Int.lt_trichotomy (a-1) 0 with h | h | h
 ·rw [Int.sign_eq_neg_one_of_neg h];omega
 ·rw [h];simp;omega
 ·rw [Int.sign_eq_one_of_pos h];omega
theorem sign_eq (a:Int):((a-1).sign==0)=decide (a=1):=by
 rw [BY,AS,Li,Int.sign_eq_zero_iff_zero];omega
theorem j9 (s:ByteArray) (hs:s.size<4294967281) (hG:bo (sO s)=true->HA s=false->Gy (rdZ (sO s)) (rdZ (o5 s))):FnP Tryz.prog 246 [.str s] (· = .bool (mP s)):=by
 refine FnP.of func246 O ntmps246 OG fun m0 w0 F R0=>?_
 have hcut:FnP Tryz.prog 247 [.str s,.str ⟨#[47]⟩] (· = .tup [.str (sO s),.str (o5 s),.bool (cS s)]):=DY s ⟨#[47]⟩ hs;have hv:=mP.eq_1 s;have hb:=HA.eq_1 s;generalize mP s=v at*;generalize HA s=bad at*;generalize sO s=nu at*;generalize o5 s=de at*;generalize cS s=ok at*;have hvn:=cV nu;have hvd:=cV de;refine Z1 O O<|Z1 O O<|Rs 8 O O (ae call247 hcut O) ?_;iterate 7 refine A1 O ?_
 refine Z1 O O<|Rs 13 O O (ae call248 hvn O)<|Y2 O O ?_;apply Ix 3 15 18 [16,17] O ON
 ·intro hb3;exact Y3 O O O<|Iq OM O O O
 ·intro hb3;exact Y3 O O O<|Iq OM O O O
 refine Gc O O (fun hc18=>?_) (fun hc18=>?_)
 ·rw [og hc18] at hv;refine Z3 O O O O ?_;apply Iy 3 21 24 [22,23] O ON
  ·intro hb2;exact A1 O<|Rg 23 O O O (ae call248 hvn O)<|A1 O<|Iq OM O O O
  ·intro hb2;exact Y3 O O O<|Iq OM O O O
  exact A1 O<|Gt O<|⟨_,_,O,O,af PV.bool hv.symm⟩
 ·rw [ga (by simpa using hc18)] at hv;have hin:bo nu=true:=by simp only [IS] at hc18;simpa using hc18.1
  refine Il<|Z3 O O O O ?_;apply Ix 4 27 31 [28,29,30] O ON
  ·intro hb2;iterate 4 refine A1 O ?_
   exact Iq OM O O O
  ·intro hb2;exact A1 O<|Rg 29 O O O (ae call248 hvd O)<|Y2 O O<|Iq OM O O O
  refine A1 O ?_;apply Ix 4 32 36 [33,34,35] O ON
  ·intro hb7;iterate 4 refine A1 O ?_
   exact Iq OM O O O
  ·intro hb7;have hid:bo de=true:=by simp only [IS] at hb7;simpa using hb7.2
   exact A1 O<|Rg 34 O O O (ae call265 (xW de EE hid nk) O)<|Rg 35 O O O ((aQ O O O).cast (v':= .pv (.bool (decide (rdZ de<=1)))) (af (fun b=>V.pv (.bool b)) (by rw [se,F5])))<|A1 O<|Iq OM O O O
  refine Gc O O (fun hc36=>?_) (fun hc36=>?_)
  ·have hbt:bad=true:=hb.trans hc36;exact Z1 O O<|Gt O<|⟨_,_,O,O,af PV.bool (by rw [hv,hbt];rfl)⟩
  ·have hbt:bad=false:=hb.trans hc36;have hgc:=hG hin hbt;refine Il ?_;have hid:bo de=true:=by simp only [IS] at hc36;simpa using hc36.1.2
   have hln:=oq hin;have hld:=oq hid;have hrn:=iB nu (dA hin).1 (by have:=(dA hin).2;omega);have hrd:=iB de (dA hid).1 (by have:=(dA hid).2;omega);have hdp:1<rdZ de:=by simp only [IS,decide_eq_false_iff_not] at hc36;omega
   have hlg:(aj (Int.gcd (rdZ nu) (rdZ de):Int).natAbs).length<=1000000:=by rw [Int.natAbs_natCast];exact uv (vY (Nat.le_of_dvd OC (Nat.gcd_dvd_right _ _))) OC
   exact Z1 O O<|Rs 38 O O (ae call266 hrn O)<|A1 O<|Rs 40 O O (ae call266 hrd O)<|Rs 41 O O (ae call267 hgc O)<|Rs 42 O O (ae call51 (fO 1 OE OE) O)<|Rs 43 O O (ae call50 (gl _ _ hlg (by rw [ru OE OE];decide)) O)<|Y2 O O<|Gt O<|⟨_,_,O,O,af PV.bool (by rw [hv,hbt,sign_eq];simp;omega)⟩
end
namespace Jn
structure Rw where
 v:List ByteArray
 w:Int
theorem xu {a b:ByteArray} (h:a.data.toList=b.data.toList):a=b:=ByteArray.ext (Array.ext' h)
def vZ (v:List ByteArray):List (List UInt8):=v.map (·.data.toList)
theorem uH:∀ {a b:List ByteArray},vZ a=vZ b->a=b
 | [],[],_=>rfl
 | [],_::_,h=>by simp [vZ] at h
 | _::_,[],h=>by simp [vZ] at h
 | x::a,y::b,h=>by
   rw [vZ,jt,vZ,jt,Lo] at h;rw [xu h.1,uH (a:=a) (b:=b) h.2]
def aZ (a b:List ByteArray):Bool:=decide (vZ a<vZ b)
theorem cz (a:List ByteArray):aZ a a=false:=Et (List.lt_irrefl _)
theorem cT {a b c:List ByteArray} (h1:aZ a b=true) (h2:aZ b c=true):aZ a c=true:=
 x7 (List.lt_trans (Kh h1) (Kh h2))
theorem gO {a b:List ByteArray} (h1:aZ a b=false) (h2:aZ b a=false):a=b:=
 uH (List.le_antisymm (List.not_lt.1 (Kq h2)) (List.not_lt.1 (Kq h1)))
def dB (x:Rw):List Rw->List Rw
 | []=>[x]
 | y::l=>if aZ y.v x.v=true then y::dB x l else if y.v=x.v then ⟨y.v,y.w+x.w⟩::l else x::y::l
def lH (l:List Rw):List Rw:=(l.foldl (fun out x=>dB x out) []).filter fun x=>x.w !=0
def Aj (l:List Rw):Prop:=l.Pairwise fun a b=>aZ a.v b.v=true
theorem jL {x:Rw}:∀ {l:List Rw} {y:Rw},y∈dB x l->y.v=x.v\/∃ z∈l,y.v=z.v
 | [],y,h=>by rw [dB,fe] at h;exact .inl (by rw [h])
 | z::l,y,h=>by
   rw [dB] at h;split at h
   ·rcases k6.1 h with rfl | h
    ·exact .inr ⟨_,OG,O⟩
    ·rcases jL h with e | ⟨z',hz,e⟩
     ·exact .inl e
     ·exact .inr ⟨z',by simp [hz],e⟩
   ·split at h
    ·rcases k6.1 h with rfl | h
     ·exact .inr ⟨z,OG,O⟩
     ·exact .inr ⟨y,by simp [h],O⟩
    ·rcases k6.1 h with rfl | h
     ·exact .inl O
     ·exact .inr ⟨y,h,O⟩
theorem Ms {x:Rw}:∀ {l:List Rw},Aj l->Aj (dB x l)
 | [],_=>by rw [dB];exact JR _ _
 | z::l,h=>by
   have h':=Km.1 h;rw [dB];split
   ·rename_i hz;refine Km.2 ⟨fun y hy=>?_,Ms h'.2⟩;rcases jL hy with e | ⟨y',hy',e⟩
    ·rw [e];exact hz
    ·rw [e];exact h'.1 y' hy'
   ·rename_i hz;split
    ·exact Km.2 ⟨fun y hy=>h'.1 y hy,h'.2⟩
    ·rename_i hne;have hlt:aZ x.v z.v=true:=by
      cases e:aZ x.v z.v with
      | true=>rfl
      | false=>exact absurd (gO (by simpa using hz) e) hne
     refine Km.2 ⟨fun y hy=>?_,h⟩;rcases k6.1 hy with rfl | hy
     ·exact hlt
     ·exact cT hlt (h'.1 y hy)
def o0 (l:List Rw):Int:=(l.map (·.w)).sum
theorem tS (x:Rw):∀ l:List Rw,o0 (dB x l)=o0 l+x.w
 | []=>by simp [dB,o0]
 | z::l=>by
   rw [dB];split
   ·have:=tS x l;simp only [o0,jt,Oi] at *; omega
   ·split<;>(simp only [o0,jt,Oi];omega)
theorem uI {x:Rw} (hx:0<x.w):∀ {l:List Rw},(∀ y∈l,0<y.w)->∀ y∈dB x l,0<y.w
 | [],_,y,hy=>by rw [dB,fe] at hy;rw [hy];exact hx
 | z::l,h,y,hy=>by
   have hz:=h z OG;have hl:∀ y∈l,0<y.w:=fun y hy=>h y (by simp [hy])
   rw [dB] at hy;split at hy
   ·rcases k6.1 hy with rfl | hy
    ·exact hz
    ·exact uI hx hl y hy
   ·split at hy
    ·rcases k6.1 hy with rfl | hy
     ·show 0<z.w+x.w;omega
     ·exact hl y hy
    ·rcases k6.1 hy with rfl | hy
     ·exact hx
     ·exact h y hy
theorem nU (x:Rw):∀ l:List Rw,(dB x l).length<=l.length+1
 | []=>by simp [dB]
 | z::l=>by
   rw [dB];split
   ·have:=nU x l;simp only [qU];omega
   ·split<;>simp
structure SortOk (l out:List Rw):Prop where
 asc:Aj out
 val:∀ y∈out,∃ z∈l,y.v=z.v
 tot:o0 out=o0 l
 pos:(∀ z∈l,0<z.w)->∀ y∈out,0<y.w
 len:out.length<=l.length
theorem As:∀ (l pre out:List Rw),SortOk pre out->SortOk (pre++l) (l.foldl (fun out x=>dB x out) out)
 | [],pre,out,h=>by simpa using h
 | x::l,pre,out,h=>by
   have:=As l (pre++[x]) (dB x out) ⟨Ms h.asc,fun y hy=>by
    rcases jL hy with e | ⟨z,hz,e⟩
    ·exact ⟨x,OG,e⟩
    ·obtain ⟨z',hz',e'⟩:=h.val z hz;exact ⟨z',by simp [hz'],e.trans e'⟩,by rw [tS,h.tot];simp [o0],fun hp=>uI (hp x OG) (h.pos fun z hz=>hp z (by simp [hz])),by
    have h1:=nU x out;have h2:=h.len;simp only [a6,vt];omega⟩
   rw [FE,show pre++x::l=(pre++[x])++l by simp];exact this
theorem tU {l:List Rw} (hp:∀ z∈l,0<z.w):SortOk l (lH l):=by
 have h:=As l [] [] ⟨List.Pairwise.nil,fun y hy=>absurd hy OG,O,fun _ y hy=>absurd hy OG,qT _⟩;rw [Ew] at h;have hpos:=h.pos hp;have e:lH l=l.foldl (fun out x=>dB x out) []:=by
  rw [lH,Ol];intro y hy;have:=hpos y hy;simp only [bne_iff_ne,ne_eq];omega
 rw [e];exact h
theorem zR:∀ {l:List Rw},(∀ y∈l,0<y.w)->∀ y∈l,y.w<=o0 l
 | z::l,h,y,hy=>by
   have hl:∀ y∈l,0<y.w:=fun y hy=>h y (by simp [hy])
   have h0:0<=o0 l:=by
    clear h hy;induction l with
    | nil=>simp [o0]
    | cons a l ih=>
      have:=ih fun y hy=>hl y (by simp [hy])
      have:=hl a OG;simp only [o0,jt,Oi] at *; omega
   have hz:=h z OG;have e:o0 (z::l)=z.w+o0 l:=by simp [o0]
   rcases k6.1 hy with rfl | hy
   ·omega
   ·have:=zR hl y hy;omega
end Jn
section
open Mk
theorem lV (l:List ByteArray) (k:Nat) (hk:k<l.length) (hl:l.length<=1000000) (hw:l[k].size<=9223372036854775807):FnP Tryz.prog 175 [aI l,.int .i64 k] (· = .int .i64 (dY l k)):=by
 refine FnP.of func175 O ntmps175 OG fun m0 w0 F R0=>?_
 have hv:=aM hk;have hne:=bc hk;have hgd:l.getD k default=l[k]:=by simp [List.getD,hk]
 have htk:(aA l).take (k*1)=aA (l.take k):=OG;have hsl:PV.sl none k (aA (l.take k))=aI (l.take k):=by simp [aI];omega
 refine Z1 O O<|Z3 O O O O ?_;first | refine A2 O OF ?_ | refine A1 O ?_
 refine Rs 10 O O (ae call212 (q9 l[k] hw) O)<|Y2 O O ?_;refine Gc O O (fun hc5=>?_) (fun hc5=>?_)
 ·exact Z1 O O<|Gt O<|⟨_,_,O,O,af (PV.int .i64) (by unfold dY;rw [hgd,og (by simpa using hc5)])⟩
 ·refine Ge O follows [0,1,2,3,4,5,6,7,8] OD ?_;iterate 2 refine D1 O O ?_
  refine Ds 15 [] O O O (fun τ h=>XJ.cast (v':= .pv (aI (l.take k))) (dv k underlying47 sz9 (Ee h 0 O O) (Ee h 1 O O) O OC OG) (by rw [htk,hsl])) O OD ?_;iterate 3 refine D1 O O ?_
  first | refine D2 O O OF ?_ | refine D1 O O ?_
  refine Ds 20 [] O O O (fun τ h=>ae call213 (lC (l.take k) l[k] OH) (h.bt O)) O OD<|D1 O O ?_;refine ⟨OD,?_⟩;refine Gc O O (fun hc12=>?_) (fun hc12=>?_)
  ·exact Z1 O O<|Gt O<|⟨_,_,O,O,af (PV.int .i64) (by unfold dY;rw [hgd,ga (by simpa using hc5),og hc12])⟩
  ·exact Il<|Z1 O O<|Gt O<|⟨_,_,O,O,af (PV.int .i64) (by unfold dY;rw [hgd,ga (by simpa using hc5),ga (by simp [hc12])])⟩
structure SB (S:Sch):Prop where
 a:S.attrs.length<=1000000
 r:S.rels.length<=1000000
 f:S.feats.length<=1000000
 an:∀ x∈S.attrs,x.1.size<=9223372036854775807
 rn:∀ x∈S.rels,x.1.size<=9223372036854775807
 rl:∀ x∈S.rels,x.2.length<=1000000
theorem od {l:List (ByteArray×Int)} {k:Nat} (h:k<l.length):((cc l).drop (k*2)).take 2=[.str l[k].1,.int .i64 l[k].2]:=iq _ 2 (fun _=>rfl) l k h
theorem lq {l:List (ByteArray×Int)} {k:Nat} (h:k<l.length):cc l≠[]:=fun e=>by have:=mi l;rw [e] at this;simp at this;omega
theorem qi (L:List ByteArray) (x:ByteArray):aA (L++[x])=aA L++[.str x]:=OG
theorem ml (L:List ByteArray) (x:ByteArray):aI (L++[x])= .sl none (L.length+1) (aA L++[.str x]):=OG
theorem Mm {l:List ByteArray} {k n:Nat} (h:k<n):dY (l.take n) k=dY l k:=by
 unfold dY;have e1:(l.take n).getD k default=l.getD k default:=by simp [List.getD,vR,h]
 have e2:(l.take n).take k=l.take k:=by rw [LC,K3 OC]
 rw [e1,e2]
theorem bT {α:Type} {l:List α} {k:Nat} (h:k<l.length):l.take (k+1)=l.take k++[l[k]]:=aR h
theorem kx (S:Sch) (hS:SB S):FnP Tryz.prog 121 [gK S] (· = .int .i64 (bZ (ju S) S.attrs.length)):=by
 refine FnP.of func121 O ntmps121 OG fun m0 w0 F R0=>?_
 have hb:=hS.a;have hAl:=mi S.attrs;refine Z2 O O O<|Z1 O O<|Im (Iu 3 1 1 9 O O)<|Z4 O O O O O ?_;refine Gl O (st:=fun x_0:Nat×List ByteArray=>mkS [(3,.gsl 1 1 x_0.2.length),(8,.pv (.sl none S.attrs.length (cc S.attrs))),(9,.pv (.int .i64 S.attrs.length)),(10,.pv (.int .i64 x_0.1))] [(1,.gro 9 (aA x_0.2))] 2)
  (I:=fun x_0=>x_0.1<=S.attrs.length/\x_0.2=(S.attrs.map (·.1)).take x_0.1/\bZ (ju S) x_0.1=0) (μ:=fun x_0=>S.attrs.length-x_0.1) (x0:=(0,[])) (Io (aS O) (aO O) O O) (⟨eF _,O,O⟩) ?_
 rintro ⟨k,L⟩ ⟨hk,hL,hs⟩;try simp only at hk hL hs ⊢
 refine Z1 O O ?_;refine Gp O O (fun hc11=>?_) (fun hc11=>?_)
 ·have hlt:k<S.attrs.length:=OC;have hrow:=od hlt;have hne:=lq hlt;have hnl:L.length=k:=by rw [hL];simp;omega
  have htk:L++[S.attrs[k].1]=(S.attrs.map (·.1)).take (k+1):=by rw [bT (by simpa using hlt),hL];simp
  have hns:=lV (L++[S.attrs[k].1]) k OH OH (by simp only [<-hnl];simp;exact hS.an _ (aJ _));rw [ml,htk,Mm OC] at hns;have hgd:S.attrs.getD k default=S.attrs[k]:=by simp [List.getD,hlt]
  have hsl:(aA L).length=L.length*1:=OG;refine Il<|Z2 O O O<|Rs 14 O O (db ⟨_,underlying27,O⟩ G1 O hrow O)<|Y3 O O O<|Gr O ?_;iterate 6 refine A1 O ?_
  refine Z2 O O O<|Rs 22 O O (oQ call175 hns O O)<|A1 O<|Z2 O O O ?_;refine Gc O O (fun hc24=>?_) (fun hc24=>?_)
  ·exact Z2 O O O<|Gt O<|⟨_,_,O,O,af (PV.int .i64) (by rw [gQ hs (by unfold ju;rw [og (inT hc24)];exact inT hc24) hlt];unfold ju;rw [og (inT hc24)])⟩
  ·refine Il<|Z4 O O O O O ?_;apply Ix 4 29 33 [30,31,32] O ON
   ·intro hb3;iterate 4 refine A1 O ?_
    exact Iq OM O O O
   ·intro hb3;iterate 4 refine A1 O ?_
    exact Iq OM O O O
   refine Gc O O (fun hc33=>?_) (fun hc33=>?_)
   ·exact Z1 O O<|Gt O<|⟨_,_,O,O,af (PV.int .i64) (by have e:ju S k=7:=(by unfold ju;rw [ga (by simp [inF hc24]),hgd,og (by simpa using hc33)]);rw [gQ hs (by rw [e];decide) hlt,e])⟩
   ·exact Il<|Z2 O O O<|⟨(k+1,L++[S.attrs[k].1]),Ip [0,4] ⟨by simp;rfl,O,O,O,OK⟩ ⟨af (fun c=>some (Ob.gro 9 c)) (qi L S.attrs[k].1).symm,OK⟩ O O OE O,⟨OI,htk,by simp only;rw [eA hs];unfold ju;rw [ga (by simp [inF hc24]),hgd,ga (by simpa using hc33)]⟩,OI⟩
 ·exact Gx O<|Z1 O O<|Gt O<|⟨_,_,O,O,af (PV.int .i64) (by rw [show S.attrs.length=k by omega,hs])⟩
end
section
open Mk
theorem cW {l:List (ByteArray×List Int)} {k:Nat} (h:k<l.length):((bj l).drop (k*2)).take 2=[.str l[k].1,ak l[k].2]:=iq _ 2 (fun _=>rfl) l k h
theorem ew {l:List (ByteArray×List Int)} {k:Nat} (h:k<l.length):bj l≠[]:=fun e=>by have:=yQ l;rw [e] at this;simp at this;omega
def ey (n:Nat) (U:List Bool) (p:Nat->Bool):Prop:=U.length=n/\∀ a,a<n->U[a]? =some (p a)
theorem ey.zero (n:Nat):ey n (List.replicate n false) (fun _=>false):=⟨OG,fun a ha=>by simp [ha]⟩
theorem ey.set {n:Nat} {U:List Bool} {p:Nat->Bool} (h:ey n U p) {a:Nat} (ha:a<n):ey n (U.set a true) (fun b=>p b||(b==a)):=by
 refine ⟨by simp [h.1],fun b hb=>?_⟩;by_cases e:b=a
 ·subst e;simp [h.1,hb]
 ·rw [Kj (fun e'=>e e'.symm),h.2 b hb];simp [e]
theorem ey.congr {n:Nat} {U:List Bool} {p q:Nat->Bool} (h:ey n U p) (e:∀ a,a<n->p a=q a):ey n U q:=⟨h.1,fun a ha=>by rw [h.2 a ha,e a ha]⟩
theorem ey.mem {n:Nat} {U:List Bool} {p:Nat->Bool} (h:ey n U p):decide (false∈U)= !((List.range n).all p):=by
 rw [BY];simp only [AS,LB,Od,Hq];constructor
 ·intro hm;obtain ⟨a,ha,e⟩:=By hm;refine ⟨a,by rw [<-h.1];exact ha,?_⟩;have:=h.2 a (by rw [<-h.1];exact ha);rw [fI ha,e] at this;simpa using this.symm
 ·rintro ⟨a,ha,e⟩;have:=h.2 a ha;have e':p a=false:=by simpa using e
  rw [e'] at this;exact Ke this
theorem xX (U:List Bool) (a:Nat):(ay U).set a (.bool true)=ay (U.set a true):=by simp [Kx]
theorem J5 {b:Bool} {l:List Int} {q j a:Nat} (hq:q<l.length) (hj:l[q]=(j:Int)):((b||inB (l.take q) a)||(a==j))=(b||inB (l.take (q+1)) a):=by
 rw [bT hq,Bool.or_assoc]
 congr 1
 rw [BY];simp [inB,hj];exact or_congr Iff.rfl ⟨fun h=>by rw [h],fun h=>by omega⟩
theorem Dj {l:List Int} {q n:Nat} (hq:q<l.length) (h:∀ a∈l.take q,0<=a/\a<(n:Int)) (hx:0<=l[q]/\l[q]<n):∀ a∈l.take (q+1),0<=a/\a<(n:Int):=by
 rw [bT hq];intro a ha;rcases my.1 ha with h1 | h1
 ·exact h a h1
 ·rw [fe.1 h1];exact hx
theorem Br {l:List Int} {p:Nat} (hp:p<l.length) (hp1:1<=p) (h:∀ i,i+1<p->i+1<l.length->l.getD i 0<l.getD (i+1) 0) (hx:l[p-1]'OC<l[p]):∀ i,i+1<p+1->i+1<l.length->l.getD i 0<l.getD (i+1) 0:=by
 intro i h1 h2;by_cases e:i+1=p
 ·have e2:i=p-1:=OC;subst e2;have e3:p-1+1=p:=OC;simp only [e3,List.getD,fI hp,fI (show p-1<l.length by omega)];exact hx
 ·exact h i OC h2
theorem CZ {rs:List (ByteArray×List Int)} {k q a:Nat} (hk:k<rs.length) (hq:rs[k].2.length<=q):(((rs.take k).any fun r=>inB r.2 a)||inB (rs[k].2.take q) a)=((rs.take (k+1)).any fun r=>inB r.2 a):=by
 rw [bT hk,bk hq];simp only [List.any_append,List.any_cons,List.any_nil,J9]
theorem lE (S:Sch) (hS:SB S):FnP Tryz.prog 122 [gK S] (· = .int .i64 (iM S)):=by
 refine FnP.of func122 O ntmps122 OG fun m0 w0 F R0=>?_
 have hb:=hS.a;have hb2:=hS.r;refine Z2 O O O<|Z1 O O<|Im (Iu 3 1 1 9 O O)<|Gr O ?_;iterate 5 refine A1 O ?_
 refine Z4 O O O O O ?_;refine Gl O (st:=fun x_0:Nat×List ByteArray×List Bool=>mkS [(3,.gsl 1 1 x_0.2.1.length),(4,.osl 2 1 S.attrs.length),(16,.pv (.sl none S.rels.length (bj S.rels))),(17,.pv (.int .i64 S.rels.length)),(18,.pv (.int .i64 x_0.1))] [(1,.gro 9 (aA x_0.2.1)),(2,.cells 4 (ay x_0.2.2))] 3)
  (I:=fun x_0=>x_0.1<=S.rels.length/\x_0.2.1=(S.rels.map (·.1)).take x_0.1/\ey S.attrs.length x_0.2.2 (fun a=>(S.rels.take x_0.1).any fun r=>inB r.2 a)/\bZ (xe S) x_0.1=0) (μ:=fun x_0=>S.rels.length-x_0.1) (x0:=(0,[],List.replicate S.attrs.length false)) (Io (aS O) ⟨O,af (fun c=>some (Ob.cells 4 c)) ((ct (.bool false) (S.attrs.length*1)).trans OG),OK⟩ O O) (⟨eF _,O,ey.zero _,O⟩) ?_
 rintro ⟨k,L,U⟩ ⟨hk,hL,hU,hs⟩;try simp only at hk hL hU hs ⊢
 refine Z1 O O ?_;refine Gp O O (fun hc19=>?_) (fun hc19=>?_)
 ·have hlt:k<S.rels.length:=OC;have hrow:=cW hlt;have hne:=ew hlt;have hnl:L.length=k:=by rw [hL];simp;omega
  have htk:L++[S.rels[k].1]=(S.rels.map (·.1)).take (k+1):=by rw [bT (by simpa using hlt),hL];simp
  have hns:=lV (L++[S.rels[k].1]) k OH OH (by simp only [<-hnl];simp;exact hS.rn _ (aJ _));rw [ml,htk,Mm OC] at hns;have hre:=Cj S k hlt;have hgd:S.rels.getD k default=S.rels[k]:=by simp [List.getD,hlt]
  have hsl:(aA L).length=L.length*1:=OG;have hll:=hS.rl _ (aJ hlt);have hul:=hU.1;refine Il<|Z2 O O O<|Rs 22 O O (db ⟨_,underlying30,O⟩ Eu O hrow O)<|Y3 O O O<|Gr O ?_;iterate 6 refine A1 O ?_
  refine Z2 O O O<|Rs 30 O O (oQ call175 hns O O)<|A1 O<|Z2 O O O ?_;refine Gc O O (fun hc32=>?_) (fun hc32=>?_)
  ·refine Z2 O O O<|Gt O ?_;exact ⟨_,_,O,O,af (PV.int .i64) (by have e:xe S k=dY (S.rels.map (·.1)) k:=(by unfold xe;rw [og (inT hc32)]);unfold iM;rw [gQ hs (by rw [e];exact inT hc32) hlt,og (by rw [e];exact inT hc32),e])⟩
  ·have hn0:dY (S.rels.map (·.1)) k=0:=inF hc32;have hre:xe S k=if S.rels[k].2=[] then 7 else if (S.rels[k].2.all fun a=>decide (0<=a)&&decide (a<S.attrs.length))=false then 2 else if BJ S.rels[k].2=false then 10 else 0:=by unfold xe;rw [ga (by simp [hn0]),hgd]
   have hfin:∀ e:Int,e≠0->xe S k=e->PV.int .i64 e= .int .i64 (iM S):=fun e h0 h1=>af (PV.int .i64) (by unfold iM;rw [gQ hs (by rw [h1];exact h0) hlt,og (by rw [h1];exact h0),h1])
   refine Il<|Z4 O O O O O ?_;refine Gc O O (fun hc37=>?_) (fun hc37=>?_)
   ·exact Z1 O O<|Gt O<|⟨_,_,O,O,hfin 7 OE (by rw [hre,og (by have:=ibT hc37;apply vG;omega)])⟩
   ·have hl0:¬ S.rels[k].2=[]:=fun e=>by rw [e] at hc37;simp at hc37
    refine Il<|Z4 O O O O O ?_;refine Gl O (st:=fun x_1:Nat×List Bool=>mkS [(3,.gsl 5 1 (L.length+1)),(4,.osl 2 1 S.attrs.length),(6,.ptr 3 0),(16,.pv (.sl none S.rels.length (bj S.rels))),(17,.pv (.int .i64 S.rels.length)),(18,.pv (.int .i64 k)),(39,.pv (ak S.rels[k].2)),(40,.pv (.int .i64 S.rels[k].2.length)),(41,.pv (.int .i64 x_1.1))] [(2,.cells 4 (ay x_1.2)),(3,.mix 30 [.pv (.str S.rels[k].1),.pv (ak S.rels[k].2)]),(5,.gro 9 (aA L++[.str S.rels[k].1]))] 6)
     (I:=fun x_1=>x_1.1<=S.rels[k].2.length/\ey S.attrs.length x_1.2 (fun a=>((S.rels.take k).any fun r=>inB r.2 a)||inB (S.rels[k].2.take x_1.1) a)/\∀ a∈S.rels[k].2.take x_1.1,0<=a/\a<S.attrs.length) (μ:=fun x_1=>S.rels[k].2.length-x_1.1) (x0:=(0,U)) (Io (aS O) (aO O) O O) (⟨eF _,hU.congr (fun a _=>by simp [inB]),OG⟩) ?_
    rintro ⟨q,U2⟩ ⟨hq,hU2,hr⟩;try simp only at hq hU2 hr ⊢
    refine Z1 O O ?_;refine Gp O O (fun hc42=>?_) (fun hc42=>?_)
    ·have hql:q<S.rels[k].2.length:=OC;have hv:=cE hql;have hne2:=aH hql;have hul2:=hU2.1;refine Il<|Z1 O O ?_;first | refine A2 O OF ?_ | refine A1 O ?_
     refine A1 O<|Z3 O O O O ?_;apply Ix 5 47 52 [48,49,50,51] O ON
     ·intro hb2;iterate 5 refine A1 O ?_
      exact Iq OM O O O
     ·intro hb2;iterate 5 refine A1 O ?_
      exact Iq OM O O O
     refine Gc O O (fun hc52=>?_) (fun hc52=>?_)
     ·exact Z1 O O<|Gt O<|⟨_,_,O,O,hfin 2 OE (by rw [hre,ga hl0,og (HB hql (by simp at hc52;omega))])⟩
     ·have hx:0<=S.rels[k].2[q]/\S.rels[k].2[q]<S.attrs.length:=by simp only [IS,decide_eq_false_iff_not] at hc52;omega
      obtain ⟨j,hj⟩:=rK hx.1;exact Il<|Z2 O O O<|Rs 55 O O (aa j underlying115 sz4 O O O hj OC)<|A1 O<|Z2 O O O<|⟨(q+1,U2.set j true),Io (aS O) ⟨by show some (Ob.cells _ _)=_;rw [<-xX];simp,O,O,OK⟩ O O,⟨OI,(hU2.set (a:=j) OC).congr (fun a _=>J5 hql hj),Dj hql hr hx⟩,OI⟩
    ·have hrng:(S.rels[k].2.all fun a=>decide (0<=a)&&decide (a<S.attrs.length))=true:=FZ (fun a ha=>hr a (by rw [bk OC];exact ha));refine Gx O<|Z1 O O ?_;refine Gl O (st:=fun x_2:Nat=>mkS [(3,.gsl 5 1 (L.length+1)),(4,.osl 2 1 S.attrs.length),(6,.ptr 3 0),(10,.pv (.int .i64 x_2)),(16,.pv (.sl none S.rels.length (bj S.rels))),(17,.pv (.int .i64 S.rels.length)),(18,.pv (.int .i64 k))] [(2,.cells 4 (ay U2)),(3,.mix 30 [.pv (.str S.rels[k].1),.pv (ak S.rels[k].2)]),(5,.gro 9 (aA L++[.str S.rels[k].1]))] 6)
      (I:=fun x_2=>1<=x_2/\∀ i,i+1<x_2->i+1<S.rels[k].2.length->S.rels[k].2.getD i 0<S.rels[k].2.getD (i+1) 0) (μ:=fun x_2=>S.rels[k].2.length-x_2) (x0:=(1)) (Io (aS O) (aO O) O O) (⟨qT _,fun i hi=>by omega⟩) ?_
     rintro p ⟨hp1,hasc⟩;refine Gr O ?_;iterate 5 refine A1 O ?_
     refine Gp O O (fun hc61=>?_) (fun hc61=>?_)
     ·have hpl:p<S.rels[k].2.length:=OC;have hpl1:p-1<S.rels[k].2.length:=OC;have hv:=cE hpl;have hv1:=cE hpl1;have hne2:=aH hpl;refine Il<|Ge O follows [0,1,2,3,4,5,6,7,8,9,10,11] OD ?_;iterate 4 refine D1 O O ?_
      first | refine D2 O O OF ?_ | refine D1 O O ?_
      iterate 4 refine D1 O O ?_
      refine Ds 73 [] O O O (fun τ h=>ag (p-1) underlying22 sz3 (Ee h 0 O O) (Ee h 1 O O) OC OC hne2) O OD ?_;first | refine D2 O O OF ?_ | refine D1 O O ?_
      refine D1 O O ?_;refine ⟨OD,?_⟩;refine Gp O O (fun hc75=>?_) (fun hc75=>?_)
      ·exact Z1 O O<|Gt O<|⟨_,_,O,O,hfin 10 OE (by rw [hre,ga hl0,ga (by rw [hrng];decide),og (HQ hp1 hpl hc75)])⟩
      ·exact Il<|Z3 O O O O<|⟨(p+1),Io (aS O) (aO O) O O,⟨OC,Br hpl hp1 hasc OC⟩,OC⟩
     ·exact Gx O<|Z2 O O O<|⟨(k+1,L++[S.rels[k].1],U2),Ip [0,5,2] ⟨by simp;rfl,O,O,O,O,OK⟩ ⟨af (fun c=>some (Ob.gro 9 c)) (qi L S.rels[k].1).symm,O,OK⟩ O O OE O,⟨OI,htk,hU2.congr (fun a _=>CZ hlt OC),by simp only;rw [eA hs,hre,ga hl0,ga (by rw [hrng];decide),ga (by rw [GI (fun i hi=>hasc i OC hi)];decide)]⟩,OI⟩
 ·have hfull:((List.range S.attrs.length).all fun a=>(S.rels.take k).any fun r=>inB r.2 a)=((List.range S.attrs.length).all fun a=>DB S a):=by rw [bk OC];rfl
  refine Gx O<|Z1 O O<|Rs 78 O O (oQ call176 (lI U false (by have:=hU.1;omega)) (by rw [uN,hU.1];rfl) O) ?_;refine Gc O O (fun hc78=>?_) (fun hc78=>?_)
  ·exact Z1 O O<|Gt O<|⟨_,_,O,O,af (PV.int .i64) (by unfold iM;rw [show S.rels.length=k by omega,ga (by simp [hs]),og (by rw [<-hfull];rw [hU.mem] at hc78;simpa using hc78)])⟩
  ·exact Il<|Z1 O O<|Gt O<|⟨_,_,O,O,af (PV.int .i64) (by unfold iM;rw [show S.rels.length=k by omega,ga (by simp [hs]),ga (by rw [<-hfull];rw [hU.mem] at hc78;simpa using hc78)])⟩
end
section
open Mk
abbrev zn (f:Int×Int×Int):List PV:=[.int .i64 f.1,.int .i64 f.2.1,.int .i64 f.2.2]
theorem vp {l:List (Int×Int×Int)} {k:Nat} (h:k<l.length):((bm l).drop (k*3)).take 3=zn l[k]:=iq _ 3 (fun _=>rfl) l k h
theorem AH {l:List (Int×Int×Int)} {k:Nat} (h:k<l.length):bm l≠[]:=fun e=>by have:=fL l;rw [e] at this;simp at this;omega
theorem DH {α:Type} {l:List α} {p:α->Bool} {k:Nat} (hk:k<l.length) (h:(l.take k).any p=false) (hn:p l[k]=false):(l.take (k+1)).any p=false:=by
 rw [bT hk];simp only [List.any_append,h,List.any_cons,hn,List.any_nil,J9]
theorem HS {α:Type} {l:List α} {p:α->Bool} {k:Nat} (hk:k<l.length) (h:p l[k]=true):l.any p=true:=IF.2 ⟨_,aJ hk,h⟩
theorem AL (l:List (Int×Int×Int)) (g:FuncId) (caps:List PV) (p:Int×Int×Int->Bool) (hl:l.length<=1000000) (hc:bN Tryz.prog g) (hg:∀ f∈l,FnP Tryz.prog g ([]++[.agg (zn f)]++caps) (· = .bool (p f))):
  FnP Tryz.prog 215 [.sl none l.length (bm l),.fn (.func g) [] caps] (fun v=>∃ i:Int,v= .int .i64 i/\decide (0<=i)=l.any p):=by
 refine FnP.of func215 O ntmps215 OG fun m0 w0 F R0=>?_
 refine Z1 O O<|Z3 O O O O ?_;refine Gl O (st:=fun x_0:Nat=>mkS [(0,.pv (.sl none l.length (bm l))),(1,.pv (.fn (.func g) [] caps)),(7,.pv (.int .i64 l.length)),(8,.pv (.int .i64 x_0))] [] 0)
  (I:=fun x_0=>x_0<=l.length/\(l.take x_0).any p=false) (μ:=fun x_0=>l.length-x_0) (x0:=(0)) (Io (aS O) trivial O O) (⟨eF _,O⟩) ?_
 rintro k ⟨hk,hno⟩;refine Z1 O O ?_;refine Gp O O (fun hc9=>?_) (fun hc9=>?_)
 ·have hlt:k<l.length:=OC;have hrow:=vp hlt;have hne:=AH hlt;have hgk:=hg _ (aJ hlt);refine Il<|Z2 O O O<|Z4 O O O O O<|Rs 15 O O (db ⟨_,underlying107,O⟩ EJ O hrow O)<|Rs 16 O O (bb hc O hgk O) ?_;refine Gc O O (fun hc16=>?_) (fun hc16=>?_)
  ·exact Z2 O O O<|Gt O<|⟨_,_,O,O,_,O,by rw [HS hlt hc16];exact x7 OC⟩
  ·exact Il<|Z2 O O O<|⟨(k+1),Io (aS O) trivial O O,⟨OC,DH hlt hno hc16⟩,OC⟩
 ·exact Gx O<|Z1 O O<|Gt O<|⟨_,_,O,O,_,O,by rw [bk OC] at hno;rw [hno];rfl⟩
theorem lL (l:List (Int×Int×Int)) (g:FuncId) (caps:List PV) (p:Int×Int×Int->Bool) (hl:l.length<=1000000) (hc:bN Tryz.prog g) (hg:∀ f∈l,FnP Tryz.prog g ([]++[.agg (zn f)]++caps) (· = .bool (p f))):
  FnP Tryz.prog 177 [.sl none l.length (bm l),.fn (.func g) [] caps] (· = .bool (l.any p)):=by
 refine FnP.of func177 O ntmps177 OG fun m0 w0 F R0=>?_
 refine Z1 O O<|Z2 O O O ?_;refine RL.call O (dE call215 (AL l g caps p hl hc hg) O ?_);rintro _ ⟨i,rfl,hi⟩;exact Y2 O O<|Gt O<|⟨_,_,O,O,af PV.bool hi⟩
theorem wq (f:Int×Int×Int) (c:List PV) (a:Int) (hc:c[0]? =some (.int .i64 a)):FnP Tryz.prog 178 [.agg (zn f),.rp c 0] (· = .bool (f.1==a)):=by
 refine FnP.of func178 O ntmps178 OG fun m0 w0 F R0=>?_
 refine Z2 O O O<|Z3 O O O O ?_;first | refine A1 O ?_ | refine A2 O OF ?_
 exact Y2 O O<|Gt O<|⟨_,_,O,O,O⟩
theorem vN (l:List (Int×Int×Int)) (k:Nat) (hk:k<=l.length):PV.sl none k ((bm l).take (k*3))= .sl none (l.take k).length (bm (l.take k)):=by
 have e:(bm l).take (k*3)=bm (l.take k):=by
  conv=>lhs;rw [<-zj k l]
  have:bm (l.take k++l.drop k)=bm (l.take k)++bm (l.drop k):=by unfold bm;rw [Jw]
  rw [this,LN (by rw [fL];simp;omega),bk (by rw [fL];simp;omega)]
 rw [e];simp;omega
theorem nz (S:Sch) (hS:SB S):FnP Tryz.prog 123 [gK S] (· = .int .i64 (bZ (k7 S) S.feats.length)):=by
 refine FnP.of func123 O ntmps123 OG fun m0 w0 F R0=>?_
 have hb:=hS.a;have hb2:=hS.f;have hFl:=fL S.feats;refine Z2 O O O<|Z4 O O O O O ?_;refine Gl O (st:=fun x_0:Nat=>mkS [(1,.ptr 0 0),(9,.pv (.sl none S.feats.length (bm S.feats))),(10,.pv (.int .i64 S.feats.length)),(11,.pv (.int .i64 x_0))] [(0,.mix 34 [.pv (.sl none S.attrs.length (cc S.attrs)),.pv (.sl none S.rels.length (bj S.rels)),.pv (.sl none S.feats.length (bm S.feats)),.pv (.int .i64 S.label)])] 1)
  (I:=fun x_0=>x_0<=S.feats.length/\bZ (k7 S) x_0=0) (μ:=fun x_0=>S.feats.length-x_0) (x0:=(0)) (Io (aS O) (aO O) O O) (⟨eF _,O⟩) ?_
 rintro k ⟨hk,hs⟩;refine Z1 O O ?_;refine Gp O O (fun hc12=>?_) (fun hc12=>?_)
 ·have hlt:k<S.feats.length:=OC;have hrow:=vp hlt;have hne:=AH hlt;have hfe:=yF S k hlt;have hfin:∀ e:Int,e≠0->k7 S k=e->PV.int .i64 e= .int .i64 (bZ (k7 S) S.feats.length):=fun e h0 h1=>af (PV.int .i64) (by rw [gQ hs (by rw [h1];exact h0) hlt,h1])
  refine Il<|Z2 O O O<|Rs 15 O O (db ⟨_,underlying107,O⟩ EJ O hrow O)<|Y3 O O O<|Z4 O O O O O ?_;apply Ix 7 19 26 [20,21,22,23,24,25] O ON
  ·intro hb3;iterate 7 refine A1 O ?_
   exact Iq OM O O O
  ·intro hb3;iterate 7 refine A1 O ?_
   exact Iq OM O O O
  refine Gc O O (fun hc26=>?_) (fun hc26=>?_)
  ·exact Z1 O O<|Gt O<|⟨_,_,O,O,hfin 2 OE (by rw [hfe,og (by simpa using hc26)])⟩
  ·have hx:0<=S.feats[k].1/\S.feats[k].1<S.attrs.length:=by simp only [IS,decide_eq_false_iff_not] at hc26;omega
   obtain ⟨a,ha⟩:=rK hx.1;have hal:a<S.attrs.length:=OC;have hk2:(cc S.attrs)[a*2+1]? =some (.int .i64 S.attrs[a].2):=oC _ 2 (fun _=>rfl) S.attrs a 1 hal OE;have hane:=lq hal;have hkd:(S.attrs.getD S.feats[k].1.toNat default).2=S.attrs[a].2:=by rw [ha];simp [List.getD,hal]
   refine Il<|Z4 O O O O O<|Rs 31 O O (ag a underlying28 G1 O O ha hal hane)<|A1 O ?_;first | refine A2 O OF ?_ | refine A1 O ?_
   refine A1 O<|Z4 O O O O O ?_;apply Iy 3 37 40 [38,39] O ON
   ·intro hb3;exact Y3 O O O<|Iq OM O O O
   ·intro hb3;exact Y3 O O O<|Iq OM O O O
   refine A1 O ?_;apply Iy 9 41 50 [42,43,44,45,46,47,48,49] O ON
   ·intro hb7;iterate 4 refine A1 O ?_
    apply Ix 4 45 49 [46,47,48] O ON
    ·intro hb11;iterate 4 refine A1 O ?_
     exact Iq OM O O O
    ·intro hb11;iterate 4 refine A1 O ?_
     exact Iq OM O O O
    exact A1 O<|Iq OM O O O
   ·intro hb7;iterate 9 refine A1 O ?_
    exact Iq OM O O O
   refine A1 O<|Z4 O O O O O ?_;apply Iy 3 54 57 [55,56] O ON
   ·intro hb3;exact Y3 O O O<|Iq OM O O O
   ·intro hb3;exact Y3 O O O<|Iq OM O O O
   refine A1 O ?_;apply Iy 4 58 62 [59,60,61] O ON
   ·intro hb7;iterate 4 refine A1 O ?_
    exact Iq OM O O O
   ·intro hb7;iterate 4 refine A1 O ?_
    exact Iq OM O O O
   refine A1 O<|Z3 O O O O ?_;apply Iy 3 65 68 [66,67] O ON
   ·intro hb2;exact Y3 O O O<|Iq OM O O O
   ·intro hb2;exact Y3 O O O<|Iq OM O O O
   refine Gc O O (fun hc68=>?_) (fun hc68=>?_)
   ·exact Z1 O O<|Gt O<|⟨_,_,O,O,hfin 7 OE (by rw [hfe,ga OC,hkd,og (by rw [IS];rw [cH,LB,LB] at hc68;exact hc68)])⟩
   ·refine Il<|Im (St.fS 1 O O)<|Gr O ?_;iterate 6 refine A1 O ?_
    apply Ix 7 74 81 [75,76,77,78,79,80] O ON
    ·intro hb5;iterate 7 refine A1 O ?_
     exact Iq OM O O O
    ·intro hb5;exact Y3 O O O<|Rg 78 O O O (XJ.cast (v':= .pv (.sl none (S.feats.take k).length (bm (S.feats.take k)))) (dv k underlying32 EJ O O O OC hFl) (by rw [vN _ _ hk]))<|A1 O<|Rg 80 O O O (ae call177 (lL (S.feats.take k) 178 [.rp (zn S.feats[k]) 0] (fun g=>g.1==S.feats[k].1) OH call178 (fun f _=>wq f _ _ O)) O)<|A1 O<|Iq OM O O O
    refine Gc O O (fun hc81=>?_) (fun hc81=>?_)
    ·exact Z1 O O<|Gt O<|⟨_,_,O,O,hfin 9 OE (by rw [hfe,ga OC,hkd,ga (by intro h;rw [IS] at h;rw [h.1,h.2] at hc68;cases hc68),og hc81])⟩
    ·exact Il<|Z2 O O O<|⟨(k+1),Io (aS O) (aO O) O O,⟨OC,by rw [eA hs,hfe,ga OC,hkd,ga (by intro h;rw [IS] at h;rw [h.1,h.2] at hc68;cases hc68),ga (by rw [hc81];decide)]⟩,OC⟩
 ·exact Gx O<|Z1 O O<|Gt O<|⟨_,_,O,O,af (PV.int .i64) (by rw [show S.feats.length=k by omega,hs])⟩
end
section
open Mk
theorem D9 (S:Sch):((((((S.attrs.length:Int)==0)||decide ((12:Int)<S.attrs.length))||((S.rels.length:Int)==0))||decide ((6:Int)<S.rels.length))||decide ((8:Int)<S.feats.length))=true↔S.attrs.length=0\/12<S.attrs.length\/S.rels.length=0\/6<S.rels.length\/8<S.feats.length:=by
 simp only [Jy,Li,AS];omega
def AA (S:Sch):Nat->Int
 | 0=>bZ (ju S) S.attrs.length
 | 1=>iM S
 | _=>bZ (k7 S) S.feats.length
def FI:Nat->FuncId
 | 0=>121
 | 1=>122
 | _=>123
theorem wi (S:Sch) (hS:SB S) (k:Nat):FnP Tryz.prog (FI k) [gK S] (· = .int .i64 (AA S k)):=by
 match k with
 | 0=>exact kx S hS
 | 1=>exact lE S hS
 | k+2=>exact nz S hS
theorem DO (k:Nat):bN Tryz.prog (FI k):=by
 match k with
 | 0=>exact call121
 | 1=>exact call122
 | k+2=>exact call123
theorem Ck (k:Nat) (hk:k<3):([.fn (.func 121) [] [],.fn (.func 122) [] [],.fn (.func 123) [] []]:List PV)[k*1]? =some (.fn (.func (FI k)) [] []):=by
 match k,hk with
 | 0,_=>rfl
 | 1,_=>rfl
 | 2,_=>rfl
theorem CB {S:Sch} {k:Nat} (hlim:¬ (S.attrs.length=0\/12<S.attrs.length\/S.rels.length=0\/6<S.rels.length\/8<S.feats.length)) (hk:k<3) (hz:∀ j,j<k->AA S j=0) (h:¬ AA S k=0):AA S k=cI S:=by
 unfold cI;rw [ga hlim];match k,hk with
 | 0,_=>rw [og (show bZ (ju S) S.attrs.length≠0 from h)];rfl
 | 1,_=>have h0:=hz 0 OC;rw [ga (fun e=>e h0),og (show iM S≠0 from h)];rfl
 | 2,_=>have h0:=hz 0 OC;have h1:=hz 1 OC;rw [ga (fun e=>e h0),ga (fun e=>e h1),og (show bZ (k7 S) S.feats.length≠0 from h)];rfl
theorem tN (S:Sch) (hS:SB S):FnP Tryz.prog 81 [gK S] (· = .int .i64 (cI S)):=by
 refine FnP.of func81 O ntmps81 OG fun m0 w0 F R0=>?_
 have hb:=hS.a;refine Z2 O O O<|Gr O ?_;iterate 5 refine A1 O ?_
 apply Ix 5 10 15 [11,12,13,14] O ON
 ·intro hb4;iterate 5 refine A1 O ?_
  exact Iq OM O O O
 ·intro hb4;iterate 5 refine A1 O ?_
  exact Iq OM O O O
 refine A1 O ?_;apply Ix 5 16 21 [17,18,19,20] O ON
 ·intro hb10;iterate 5 refine A1 O ?_
  exact Iq OM O O O
 ·intro hb10;iterate 5 refine A1 O ?_
  exact Iq OM O O O
 refine A1 O ?_;apply Ix 5 22 27 [23,24,25,26] O ON
 ·intro hb16;iterate 5 refine A1 O ?_
  exact Iq OM O O O
 ·intro hb16;iterate 5 refine A1 O ?_
  exact Iq OM O O O
 refine A1 O ?_;apply Ix 5 28 33 [29,30,31,32] O ON
 ·intro hb22;iterate 5 refine A1 O ?_
  exact Iq OM O O O
 ·intro hb22;iterate 5 refine A1 O ?_
  exact Iq OM O O O
 refine Gc O O (fun hc33=>?_) (fun hc33=>?_)
 ·exact Z1 O O<|Gt O<|⟨_,_,O,O,af (PV.int .i64) (by unfold cI;rw [og ((D9 S).1 hc33)])⟩
 ·have hlim:¬ (S.attrs.length=0\/12<S.attrs.length\/S.rels.length=0\/6<S.rels.length\/8<S.feats.length):=fun h=>by rw [(D9 S).2 h] at hc33;cases hc33
  refine Il<|Gr O<|Rs 34 O O (aq none OG el181 O OE OE O O)<|Y2 O O ?_;refine Gl O (st:=fun x_0:Nat=>mkS [(1,.ptr 0 0),(34,.pv (.sl none 3 [.fn (.func 121) [] [],.fn (.func 122) [] [],.fn (.func 123) [] []])),(35,.pv (.int .i64 3)),(36,.pv (.int .i64 x_0))] [(0,.mix 34 [.pv (.sl none S.attrs.length (cc S.attrs)),.pv (.sl none S.rels.length (bj S.rels)),.pv (.sl none S.feats.length (bm S.feats)),.pv (.int .i64 S.label)])] 1)
   (I:=fun x_0=>x_0<=3/\∀ j,j<x_0->AA S j=0) (μ:=fun x_0=>3-x_0) (x0:=(0)) (Io (aS O) (aO O) O O) (⟨OC,fun j hj=>absurd hj (Nat.not_lt_zero _)⟩) ?_
  rintro k ⟨hk,hz⟩;refine Z1 O O ?_;refine Gp O O (fun hc37=>?_) (fun hc37=>?_)
  ·have hlt:k<3:=OC;have hv:=Ck k hlt;refine Il<|Gr O<|Rs 38 O O (ag k underlying181 sz123 O O O hlt OG) ?_;first | refine A2 O OF ?_ | refine A1 O ?_
   refine A1 O<|Z2 O O O<|Rs 42 O O (bb (DO k) O (wi S hS k) O)<|A1 O<|Z2 O O O ?_;refine Gc O O (fun hc44=>?_) (fun hc44=>?_)
   ·exact Z2 O O O<|Gt O<|⟨_,_,O,O,af (PV.int .i64) (CB hlim hlt hz (inT hc44))⟩
   ·exact Il<|Z2 O O O<|⟨(k+1),Io (aS O) (aO O) O O,⟨OC,fun j hj=>by rcases DJ.1 hj with h | rfl;exact hz j h;exact inF hc44⟩,OC⟩
  ·have h0:=hz 0 OC;have h1:=hz 1 OC;have h2:=hz 2 OC;have hcl:=zL hlim h0 h1 h2;refine Gx O<|Z4 O O O O O ?_;apply Ix 7 51 58 [52,53,54,55,56,57] O ON
   ·intro hb3;iterate 7 refine A1 O ?_
    exact Iq OM O O O
   ·intro hb3;iterate 7 refine A1 O ?_
    exact Iq OM O O O
   refine A1 O ?_;refine Gc O O (fun hc47=>?_) (fun hc47=>?_)
   ·exact Z1 O O<|Gt O<|⟨_,_,O,O,af (PV.int .i64) (by rw [hcl,og (by simpa using hc47)])⟩
   ·have hn:¬ (S.label< -1\/(S.attrs.length:Int)<=S.label):=by simpa using hc47
    have hlv:0<=S.label->∃ (a:Nat),S.label=(a:Int)/\a<S.attrs.length/\(cc S.attrs)[a*2+1]? =some (.int .i64 (S.attrs.getD S.label.toNat default).2):=fun h=>by obtain ⟨a,ha⟩:=rK h;have hal:a<S.attrs.length:=OC;refine ⟨a,ha,hal,?_⟩;rw [ha];simp only [yR,List.getD,fI hal];exact oC _ 2 (fun _=>rfl) S.attrs a 1 hal OE
    refine Z4 O O O O O ?_;apply Iy 9 63 72 [64,65,66,67,68,69,70,71] O ON
    ·intro hb3;obtain ⟨a,ha,hal,hk2⟩:=hlv (Kh hb3);have hane:=lq hal;iterate 4 refine A1 O ?_
     refine Rg 68 O O O (ag a underlying28 G1 O O ha hal hane)<|A1 O ?_;first | refine A2 O OF ?_ | refine A1 O ?_
     exact Y2 O O<|Iq OM O O O
    ·intro hb3;iterate 9 refine A1 O ?_
     exact Iq OM O O O
    refine A1 O ?_;refine Gc O O (fun hc59=>?_) (fun hc59=>?_)
    ·exact Z1 O O<|Gt O<|⟨_,_,O,O,af (PV.int .i64) (by rw [hcl,ga hn,og (by simpa using hc59)])⟩
    ·exact Il<|Z1 O O<|Gt O<|⟨_,_,O,O,af (PV.int .i64) (by rw [hcl,ga hn,ga (by rintro ⟨h1,h2⟩;rw [x7 (show S.label>=0 from h1),Oh,bne_eq_false_iff_eq] at hc59;exact h2 hc59)])⟩
end
section
open Mk
end
def upF (P:List Int):Nat->Int->Option (List Int)
 | 0,x=>if x<0 then some [] else none
 | k+1,x=>if x<0 then some [] else (upF P k (P.getD x.toNat 0)).map (x:: ·)
def abv (P:List Int) (v:Int):Option (List Int):=upF P P.length (P.getD v.toNat 0)
def bp (P:List Int) (v:Int):List Int:=(abv P v).getD []
def hiB (P:List Int) (a b:Int):Bool:=decide (a∈bp P b)
def mu (P:List Int) (l:List Int):Bool:=l.all fun a=>l.all fun b=>a==b||hiB P a b||hiB P b a
def fk (P:List Int) (v:Int):List Int:=((List.range P.length).map Int.ofNat).filter fun a=>a==v||hiB P v a
def eS (S:Sch) (a b:Int):Bool:=S.rels.any fun r=>decide (a∈r.2)&&decide (b∈r.2)
def H7 (S:Sch) (P:List Int) (v:Int):List Int:=(bp P v).filter fun a=>(fk P v).any fun b=>eS S a b
theorem sW {P:List Int} {k:Nat} {x:Int} (h:x<0):upF P k x=some []:=by
 cases k<;>simp [upF,h]
theorem ym {P:List Int} {k a:Nat} (ha:a<P.length):upF P (k+1) (a:Int)=(upF P k P[a]).map ((a:Int):: ·):=by
 have h:¬ ((a:Int)<0):=OC;simp [upF,List.getD,ha,h]
theorem zg {P:List Int}:∀ {k:Nat} {x:Int} {l:List Int},upF P k x=some l->l.length<=k
 | 0,x,l,h=>by
   simp only [upF] at h;split at h
   ·cases h;simp
   ·cases h
 | k+1,x,l,h=>by
   simp only [upF] at h;split at h
   ·cases h;simp
   ·cases e:upF P k (P.getD x.toNat 0) with
    | none=>rw [e] at h;cases h
    | some l'=>rw [e] at h;cases h;simp;exact zg e
theorem vg (P:List Int) (v:Int):(bp P v).length<=P.length:=by
 unfold bp;cases h:abv P v with
 | none=>simp
 | some l=>exact zg h
section
open Mk
abbrev Fe (P:List Int):PV:= .agg [ak P]
theorem BE {α:Type} {l:List α} {p:α->Bool} {k:Nat} (hk:k<l.length) (h:(l.take k).all p=true) (hn:p l[k]=true):(l.take (k+1)).all p=true:=by
 rw [bT hk];simp only [List.all_append,h,K9,hn,Oz,Lu]
structure Valid (S:Sch):Prop where
 n1:1<=S.attrs.length
 n2:S.attrs.length<=12
 r1:1<=S.rels.length
 r2:S.rels.length<=6
 ne:∀ r∈S.rels,r.2≠[]
 rng:∀ r∈S.rels,∀ a∈r.2,0<=a/\a<S.attrs.length
 asc:∀ r∈S.rels,BJ r.2=true
 use:∀ a,a<S.attrs.length->∃ r∈S.rels,(a:Int)∈r.2
theorem jF {S:Sch} (h:cI S=0):Valid S:=by
 unfold cI at h;split at h
 ·cases h
 ·rename_i hlim;split at h
  ·rename_i h1;exact absurd h h1
  ·split at h
   ·rename_i h1;exact absurd h h1
   ·rename_i _ hr;have hr:iM S=0:=CP hr;unfold iM at hr;split at hr
    ·rename_i h1;exact absurd hr h1
    ·rename_i hs;have hs:bZ (xe S) S.rels.length=0:=CP hs;split at hr
     ·cases hr
     ·rename_i hu;have hrel:∀ r∈S.rels,r.2≠[]/\(r.2.all fun a=>decide (0<=a)&&decide (a<S.attrs.length))=true/\BJ r.2=true:=by
       intro r hr;obtain ⟨i,hi,rfl⟩:=By hr;have he:=wT.1 hs i hi;unfold xe at he;rw [show S.rels.getD i default=S.rels[i] by simp [List.getD,hi]] at he;split at he
       ·rename_i h1;exact absurd he h1
       ·split at he
        ·cases he
        ·split at he
         ·cases he
         ·split at he
          ·cases he
          ·rename_i h1 h2 h3;exact ⟨h1,by simpa using h2,by simpa using h3⟩
      refine ⟨OC,OC,OC,OC,fun r hr=>(hrel r hr).1,fun r hr a ha=>?_,fun r hr=>(hrel r hr).2.2,fun a ha=>?_⟩
      ·have:=nP.1 (hrel r hr).2.1 a ha;simpa using this
      ·have hu:((List.range S.attrs.length).all fun a=>DB S a)=true:=by simpa using hu
       have:=nP.1 hu a (Hq.2 ha);unfold DB at this;obtain ⟨r,hr,hm⟩:=IF.1 this;exact ⟨r,hr,by simpa [inB] using hm⟩
end
end Go.Proofs.YtedfonppffochaaGreatDoor
