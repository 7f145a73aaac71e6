/- Lemmas. No condition. -/
import Derived.Shelf.Strings.Builder1
import Derived.Shelf.Strings.Builder2
import Derived.Shelf.Small.Bits
import Derived.Shelf.Small.Wraps
import Derived.Shelf.Strings.BuilderF
import Derived.Shelf.Strings.BuilderK
import Derived.Shelf.Strings.Builder2Cap
import Derived.Shelf.Strconv.Itoa0
import Derived.Shelf.Strconv.Itoa1
import Derived.Shelf.LaysM
import Derived.Shelf.Strconv.Itoa2
import Derived.Shelf.Strconv.Itoa3
import Derived.Shelf.Strconv.Clone
import Derived.Shelf.Strconv.SyntaxError
import Derived.Shelf.LaysC
import Derived.Shelf.Strconv.ToError
import Derived.Shelf.Strconv.Lower
import Derived.Shelf.Strconv.ParseUint10
import Derived.Shelf.Strconv.ParseUint10Empty
import Derived.Shelf.Strconv.ParseUint10Any
import Derived.Shelf.Strconv.RangeError
import Derived.Shelf.Strconv.ToErrorRange
import Derived.Shelf.Strconv.ParseUintEmpty
import Derived.Shelf.Strconv.ParseUint10b64
import Derived.Shelf.Strconv.ParseUint10b32
import Derived.Shelf.Strconv.ParseUint10b16
import Derived.Shelf.Strconv.ParseUint10b8
import Derived.Shelf.Strconv.ParseUint10At
import Derived.Ground.MpProg
import Derived.Shelf.Pu.ParseUintPublic10
import Derived.Shelf.Pu.ErrVarParseUint
import Derived.Shelf.Strings.Search1
import Derived.Shelf.Strings.Search2
import Derived.Shelf.Strings.Cut
import Derived.Shelf.Strings.Shaped
import Derived.Shelf.Sort.Plain
import Derived.Shelf.Strings.Prefix
import Derived.Shelf.Bits.Mul64
import Derived.Shelf.Strings.Repeat
import Derived.Shelf.Strings.BuilderCap
import Derived.Shelf.Slices.Turned
import Derived.Ground.Names2Prog
import Derived.Shelf.Slices.Clone
import Derived.Shelf.Slices.CompactS
import Derived.Shelf.Slices.SearchI
import Derived.Shelf.Slices.Cells
import Derived.Shelf.Slices.In.SortNone
import Derived.Test.YthicoeegbdboeaaGreatDoorProg
import Derived.Lib.Builder
import Derived.Lib.UnsafeStr
import Derived.Lib.AppendStr
import Derived.Laws.Externs
import Derived.Laws.Pointers
import Derived.Test.YthicoeegbdboeaaGreatDoorJF7
set_option maxRecDepth 100000
set_option maxHeartbeats 4000000
open Go.RowKit Go.Proofs.Tryz
open Option renaming some→WB,none→WC
open Bool renaming true→YK,false→YL
namespace Go.Proofs.YthicoeegbdboeaaGreatDoor
variable{a n x:Nat}{y:Int}
section
def GY(a b:Nat):Prop:=ZK prog 255 [bE a,bE b] (· = .bS [bE (a/b),bE (a%b)])
theorem x6:bE 0= .sl WC 0 []:=by rw[bE,aV];rfl
theorem val_one(a:Nat):val [a]=a:=by simp[val]
theorem Lok.one(h:a<1000000000):Lok [a]:=λb hb=>by simp at hb;omega
theorem JR(a b:Nat)(I:(ae a).length<=1000000)(G:0<b)(s:b<1000000000):GY a b:=by
 unfold GY;refine ZK.fg2 (ZC func255 O ntmps255 λ_ _ _ _=>?_);have r:ae b=[b]:=eY Zi s;have z:(ae b).length=1:=by rw[r];rfl
 have H:(b7 (ae b))[0*1]? =WB (.int .u64 (b:Int)):=by rw[r];rfl
 have B:b7 (ae b)≠[]:=by rw[r];simp[b7]
 have D:a%b<1000000000:=YU (WI _ G) s;have E:=cO (n:=1) [a%b] O Zi (Lok.one D) (val_one _);refine Z2 O<|Z2 O<|Rs O (aa call214 (pq a b Zi Zi) O)<|A1 O<|Gp O (λj=>?_) (λj=>?_)
 .refine Z3 O<|Gt O ?_;have u:a<b:=by unfold zZ at j;split at j;assumption;split at j<;>omega
  exact⟨_,_,O,O,by rw[Yg u,X5 u,x6];rfl⟩
 refine Vl<|Z3 O ?_;refine Gc O (λq=>?_) (λq=>absurd q (by rw[z];simp));refine Z2 O<|Rs O (ai 0 aaq iK O O O Zi B)<|A2 O Zl ?_;exact Rs O (aa call294 (BA a b I G s) O)<|Ar 5 O<|Z2 O<|Rs O (ax WC Zm Qm O Zk Zk O O)<|Rs O (aa call209 E O)<|Y2 O<|YR O O
theorem len2(h:¬2<(ae n).length):n<1000000000000000000:=aW.1 (show(ae n).length<=2 by omega)
theorem K9{y k:Nat}(j:0<y)(h:(ae y).length<=k):(ae (x%y)).length<=k:=aW.2 (YU (WI _ j) (aW.1 h))
theorem oI(h:0<(ae n).length):0<n:=by grind[WG,aV]
theorem mP(x y:Nat):Nat.gcd y (x%y)=Nat.gcd x y:=by rw[Nat.gcd_comm y,<-Nat.gcd_rec,Nat.gcd_comm]
theorem xm(h:x<1000000000000000000):Lok [x%1000000000,x/1000000000]/\val [x%1000000000,x/1000000000]=x:=by refine⟨λa ha=>?_,by simp[val];omega⟩;simp at ha;omega
theorem Li(I:Nat->ew)(U:∀x y,I x y->0<y->(2<(ae y).length\/2<(ae x).length)->(ae x).length<=1000000->(ae y).length<=1000000->GY x y/\I y (x%y))(a b:Nat)(V:I a b)(W:(ae a).length<=1000000)(X:(ae b).length<=1000000):
  ZK prog 245 [bE a,bE b] (· =bE (Nat.gcd a b)):=by
 refine ZC func245 O ntmps245 λ_ _ _ _=>?_
 refine Z1 O<|Gl O (st:=λZq:Nat×Nat=>ZT [(0,.pv (bE Zq.1)),(1,.pv (bE Zq.2))] [] 0)
  (I:=λZq=>Nat.gcd Zq.1 Zq.2=Nat.gcd a b/\I Zq.1 Zq.2/\(ae Zq.1).length<=1000000/\(ae Zq.2).length<=1000000) (μ:=λZq=>Zq.2) (x0:=(a,b)) (Vn (aS O) trivial O O) (⟨O,V,W,X⟩) ?_
 rintro⟨x,y⟩ ⟨hg,hxy,hx,hy⟩;try simp only at hg hxy hx hy ⊢
 refine Z3 O<|Gp O (λM=>?_) (λM=>?_)
 .have s:0<y:=oI Zi;have H:=U x y hxy s (.inl Zi) hx hy;exact Vl<|Z2 O<|Rs O (aa call255 H.1 O)<|Ar 5 O<|Z4 O<|⟨(y,x%y),Vn (aS O) trivial O O,⟨by rw[<-hg];exact mP x y,H.2,hy,K9 s hy⟩,WI _ s⟩
 have hy2:=len2 (show ¬2<(ae y).length by omega);refine Gx O<|Z3 O<|Gc O (λD=>?_) (λD=>?_)
 .refine Z2 O<|Gt O ?_;have s:y=0:=bJ.1 (by have:=sk D;omega);exact⟨_,_,O,O,ah bE (by rw[<-hg,s,Nat.gcd_zero_right])⟩
 have s:0<y:=oI (by have:=lT D;omega);refine Vl<|Z3 O<|Gp O (λT=>?_) (λT=>?_)
 .have H:=U x y hxy s (.inr Zi) hx hy;refine Z2 O<|Rs O (aa call255 H.1 O)<|Ar 5 O<|Z4 O ?_;have z:=hy2;have B:x%y<1000000000000000000:=YU (WI _ s) hy2;have E:Nat.gcd y (x%y)=Nat.gcd a b:=by rw[<-hg];exact mP x y
  clear hg hxy H;generalize x%y=q at*;obtain⟨p,rfl⟩:∃p,p=y:=⟨y,O⟩;refine Z1 O<|Rs O (aa call289 (fY p z) O)<|A1 O<|Rs O (aa call289 (fY q B) O)<|Y2 O<|Gl O (st:=λj:Nat×Nat=>ZT [(9,.pv (.int .u64 (j.1:Int))),(10,.pv (.int .u64 (j.2:Int)))] [] 0)
   (I:=λj=>Nat.gcd j.1 j.2=Nat.gcd a b/\j.1<1000000000000000000/\j.2<1000000000000000000) (μ:=λj=>j.2) (x0:=(p,q)) (Vn (aS O) trivial O O) (⟨E,z,B⟩) ?_
  rintro⟨u,v⟩ ⟨hg2,hu,hv⟩;try simp only at hg2 hu hv ⊢
  refine Z2 O<|Gc O (λr=>?_) (λr=>?_)
  .have hv0:0<v:=by have:=CU r;omega
   refine Vl<|VC 6 O<|Dr 6 O ⟨Zj,⟨(v,u%v),Vn (aS O) trivial O O,⟨by rw[<-hg2];exact mP u v,hv,YU (WI _ hv0) hv⟩,WI _ hv0⟩⟩
  have hv0:v=0:=by have:=wY r;omega
  refine Gx O ?_;have L:=xm hu;have G:=cO (n:=2) [u%1000000000,u/1000000000] O Zi L.1 L.2;exact Z1 O<|Rs O (sG (b:=1000000000) O O Zi)<|A1 O<|Rs O (so (b:=1000000000) O O Zi)<|Rs O (ax WC Zm Qm O Zk Zk O O)<|Rs O (aa call209 G O)<|A1 O<|YR O<|ah bE (by rw[<-hg2,hv0,Nat.gcd_zero_right])
 have z:=len2 (show ¬2<(ae x).length by omega);have B:=hy2;have E:=hg;clear hg hxy;obtain⟨p,rfl⟩:∃p,p=x:=⟨x,O⟩;obtain⟨q,rfl⟩:∃q,q=y:=⟨y,O⟩;refine Vl<|Z1 O<|Rs O (aa call289 (fY p z) O)<|A1 O<|Rs O (aa call289 (fY q B) O)<|Y2 O<|Gl O (st:=λj:Nat×Nat=>ZT [(9,.pv (.int .u64 (j.1:Int))),(10,.pv (.int .u64 (j.2:Int)))] [] 0)
  (I:=λj=>Nat.gcd j.1 j.2=Nat.gcd a b/\j.1<1000000000000000000/\j.2<1000000000000000000) (μ:=λj=>j.2) (x0:=(p,q)) (Vn (aS O) trivial O O) (⟨E,z,B⟩) ?_
 rintro⟨u,v⟩ ⟨hg2,hu,hv⟩;try simp only at hg2 hu hv ⊢
 refine Z2 O<|Gc O (λr=>?_) (λr=>?_)
 .have hv0:0<v:=by have:=CU r;omega
  refine Vl<|VC 6 O<|Dr 6 O ⟨Zj,⟨(v,u%v),Vn (aS O) trivial O O,⟨by rw[<-hg2];exact mP u v,hv,YU (WI _ hv0) hv⟩,WI _ hv0⟩⟩
 have hv0:v=0:=by have:=wY r;omega
 refine Gx O ?_;have L:=xm hu;have G:=cO (n:=2) [u%1000000000,u/1000000000] O Zi L.1 L.2;exact Z1 O<|Rs O (sG (b:=1000000000) O O Zi)<|A1 O<|Rs O (so (b:=1000000000) O O Zi)<|Rs O (ax WC Zm Qm O Zk Zk O O)<|Rs O (aa call209 G O)<|A1 O<|YR O<|ah bE (by rw[<-hg2,hv0,Nat.gcd_zero_right])
def Hk(x y:Nat):Prop:=y<1000000000\/(x<1000000000000000000/\y<1000000000000000000)
theorem TG{y:Nat}(h:Hk x y)(j:0<y)(s:2<(ae y).length\/2<(ae x).length)(r:(ae x).length<=1000000):GY x y/\Hk y (x%y):=by
 have q:∀{n:Nat},2<(ae n).length->¬n<1000000000000000000:=fun{n} h e=>by
  have:=aW.2 (show n<1000000000^2 from e);omega
 rcases h with h|⟨h3,h4⟩
 .exact⟨JR x y r j h,.inl (YU (WI _ j) h)⟩
 grind
abbrev TC(z:Int):na:=[.bool (decide (z<0)),bE z.natAbs]
abbrev fb(z:Int):PV:= .agg (TC z)
def sgn(neg:Bool)(n:Nat):Int:=if neg then-(n:Int)else n
theorem BL(neg:Bool)(n:Nat):(neg&&decide (((ae n).length:Int)>0))=decide (sgn neg n<0):=by
 have h:0<(ae n).length↔0<n:=⟨oI,λh=>X1 λe=>by have:=bJ.1 e;omega⟩;cases neg with
 |false=>simp[sgn]
 | true=>
   simp only[sgn,Yk,Yb];by_cases hn:0<n
   .grind
   grind
theorem vQ(neg:Bool)(n:Nat):(sgn neg n).natAbs=n:=by cases neg<;>simp[sgn]
theorem bK(neg:Bool)(n:Nat):ZK prog 208 [.bool neg,bE n] (· =fb (sgn neg n)):=by
 refine ZD func208 O ntmps208 λ_ _ _ _=>?_
 refine Z1 O<|Z2 O ?_;apply Vx 4 6 10 [7,8,9] O Zs
 .intro hb1;exact Ar 4 O<|Vp Zr O O O
 .intro hb1;exact Ar 4 O<|Vp Zr O O O
 exact Y3 O<|YR O ⟨⟨ar ⟨_,aat,O⟩ zX O O O,Zp⟩,by rw[fb,TC,<-BL,vQ];rfl⟩
theorem o0(z:Int):ZK prog 163 [fb z] (· = ZU z.sign):=by
 refine ZC func163 O ntmps163 λ_ _ _ _=>?_
 refine Z2 O<|Z3 O<|Gc O (λj=>?_) (λj=>?_)
 .exact Z1 O<|YR O<|ah (PV.int .i64) (by rw[Int.sign_eq_neg_one_of_neg (by simpa using j)])
 refine Gr O<|Ar 5 O ?_;refine Gp O (λq=>?_) (λq=>?_)
 .exact Z1 O<|YR O<|ah (PV.int .i64) (by have r:=oI (n:=z.natAbs) Zi;have s:¬z<0:=(by simpa using j);exact(Int.sign_eq_one_of_pos (show 0<z by omega)).symm)
 exact Vl<|Z1 O<|YR O<|ah (PV.int .i64) (by have r:=bJ.1 (show(ae z.natAbs).length=0 by omega);rw[show z=0 by omega];rfl)
theorem Hh(z:Int):ZK prog 211 [fb z] (· =fb (-z)):=by
 refine ZD func211 O ntmps211 λ_ _ _ _=>?_
 have j:sgn (!decide (z<0)) z.natAbs= -z:=by
  by_cases h:z<0
  .rw[VK h];simp[sgn];omega
  rw[VL h];simp[sgn];omega
 exact Z2 O<|Gr O<|Ar 5 O<|Rs O (aa call208 (bK _ _) O)<|A1 O<|YR O ⟨⟨ar ⟨_,aat,O⟩ zX O O O,Zp⟩,by rw[<-j];rfl⟩
theorem Ei{x:Int}(h:(decide (x<0)==decide (y<0))=YK):sgn (decide (x<0)) (x.natAbs+y.natAbs)=x+y:=by grind[sgn]
theorem KJ{x:Int}(h:(decide (x<0)==decide (y<0))=YL)(hc:y.natAbs<=x.natAbs):sgn (decide (x<0)) (x.natAbs-y.natAbs)=x+y:=by grind[sgn]
theorem Ic{x:Int}(h:(decide (x<0)==decide (y<0))=YL)(hc:x.natAbs<=y.natAbs):sgn (decide (y<0)) (y.natAbs-x.natAbs)=x+y:=by grind[sgn]
theorem nX{b:Nat}:zZ a b>=0↔b<=a:=by grind[zZ]
theorem lO(x y:Int)(r:(ae x.natAbs).length<=1000000)(s:(ae y.natAbs).length<=1000000):ZK prog 162 [fb x,fb y] (· =fb (x+y)):=by
 refine ZD func162 O ntmps162 λ_ _ _ _=>?_
 refine Z3 O<|Gr O<|Ar 6 O<|Gc O (λq=>?_) (λq=>?_)
 .have e:=Ei q;refine VC 9 O<|Dr 6 O<|YM O (λτ h=>aa call213 (yi x.natAbs y.natAbs r s) (h.aE O))<|YM O (λτ h=>aa call208 (bK _ _) (h.aE O))<|D1 O O ⟨Zj,YR O ⟨⟨ar ⟨_,aat,O⟩ zX O O O,Zp⟩,by rw[<-e];rfl⟩⟩
 have hd:=q;refine Z4 O<|Rs O (aa call214 (pq x.natAbs y.natAbs Zi Zi) O)<|Y2 O<|Gp O (λj=>?_) (λj=>?_)
 .have hle:=nX.1 j;have e:=KJ hd hle;refine VC 9 O<|Dr 6 O<|YM O (λτ h=>aa call215 (qP x.natAbs y.natAbs r hle) (h.aE O))<|YM O (λτ h=>aa call208 (bK _ _) (h.aE O))<|D1 O O ⟨Zj,YR O ⟨⟨ar ⟨_,aat,O⟩ zX O O O,Zp⟩,by rw[<-e];rfl⟩⟩
 have hle:x.natAbs<=y.natAbs:=Yy (Nat.lt_of_not_le λe=>j (nX.2 e));have e:=Ic hd hle;refine Vl<|VC 9 O<|Dr 6 O<|YM O (λτ h=>aa call215 (qP y.natAbs x.natAbs s hle) (h.aE O))<|YM O (λτ h=>aa call208 (bK _ _) (h.aE O))<|D1 O O ⟨Zj,YR O ⟨⟨ar ⟨_,aat,O⟩ zX O O O,Zp⟩,by rw[<-e];rfl⟩⟩
theorem Ac(x y:Int)(j:(ae x.natAbs).length<=1000000)(q:(ae y.natAbs).length<=1000000):ZK prog 246 [fb x,fb y] (· =fb (x-y)):=by
 refine ZD func246 O ntmps246 λ_ _ _ _=>?_
 refine Z3 O<|VC 5 O<|Dr 2 O<|YM O (λτ h=>aa call211 (Hh y) (h.aE O))<|YM O (λτ h=>aa call162 (lO x (-y) j (by rw[Int.natAbs_neg];exact q)) (h.aE O))<|D1 O O ⟨Zj,YR O ⟨⟨ar ⟨_,aat,O⟩ zX O O O,Zp⟩,by rw[Int.sub_eq_add_neg];rfl⟩⟩
theorem jr(x y:Int)(j:(ae x.natAbs).length<=1000000)(q:(ae y.natAbs).length<=1000000):ZK prog 191 [fb x,fb y] (· = ZU (x-y).sign):=by
 refine ZC func191 O ntmps191 λ_ _ _ _=>?_
 exact Z3 O<|Z2 O<|Rs O (aa call246 (Ac x y j q) O)<|Rs O (aa call163 (o0 (x-y)) O)<|A1 O<|YR O O
theorem qY(I:Nat->ew)(j:∀x y,I x y->0<y->(2<(ae y).length\/2<(ae x).length)->(ae x).length<=1000000->(ae y).length<=1000000->GY x y/\I y (x%y))(x y:Int)(q:I x.natAbs y.natAbs)(r:(ae x.natAbs).length<=1000000)(s:(ae y.natAbs).length<=1000000):
  ZK prog 190 [fb x,fb y] (· =fb (Int.gcd x y:Int)):=by
 refine ZD func190 O ntmps190 λ_ _ _ _=>?_
 exact Z3 O<|Z4 O<|Rs O (aa call245 (Li I j x.natAbs y.natAbs q r s) O)<|Rs O (aa call208 (bK YL _) O)<|A1 O<|YR O ⟨⟨ar ⟨_,aat,O⟩ zX O O O,Zp⟩,O⟩
end
section
theorem RF(i:Int):IntKind.u64.wrap i=i%18446744073709551616:=rfl
theorem Om{n:Int}(j: -9223372036854775808<=n)(h:n<0):IntKind.u64.wrap (-(IntKind.u64.wrap n))=((n.natAbs:Nat):Int):=by rw[RF,RF];omega
theorem MG{n:Int}(j:n<=9223372036854775807)(h:¬n<0):IntKind.u64.wrap n=((n.natAbs:Nat):Int):=by rw[RF];omega
section
variable {C:Ctx}{n:Nat}{σ:St}{dst:YX}{ty t t':TypeId}{pos:String}{after:Y4}{gd:Option (Nat×Bool)}{x y:Operand}
theorem SQ{i:Int}(j:σ.ev n x= .pv (.int .u64 i)):XJ C n ⟨dst,.unOp .neg t x,ty,pos,after,gd⟩ σ ⟨.pv (.int .u64 (IntKind.u64.wrap (-i))),[],[]⟩:=
 .val λa w m R hw=>⟨.int .u64 (IntKind.u64.wrap (-i)),by simp[execOp,hw.int j,Op.unary,Op.intArith],by simp only[Rel,ZH]⟩
end
theorem mU(n:Int)(s: -9223372036854775808<=n)(u:n<=9223372036854775807):ZK prog 157 [ZU n] (· =fb n):=by
 refine ZD func157 O ntmps157 λ_ _ _ _=>?_
 have q:Lok [n.natAbs%1000000000,n.natAbs/1000000000%1000000000,n.natAbs/1000000000/1000000000]:=λb hb=>by
  simp at hb;omega
 have r:val [n.natAbs%1000000000,n.natAbs/1000000000%1000000000,n.natAbs/1000000000/1000000000]=n.natAbs:=by simp[val];omega
 refine Z1 O<|Z1 O<|Rs O (eX aan aaE O)<|A1 O<|Z2 O<|Gp O (λj=>?_) (λj=>?_)
 .have hu:IntKind.u64.wrap (-(IntKind.u64.wrap n))=((n.natAbs:Nat):Int):=Om s j;refine Z1 O<|Rs O (XJ.cast (v':= .pv (.int .u64 (n.natAbs:Int))) (SQ O) (ah (λi=>V.pv (.int .u64 i)) hu))<|A1 O<|Gr O<|Ar 10 O<|Rs O (ax WC Zm Qm O Zk Zk O O)<|Rs O (aa call209 (cO (n:=3) _ O Zk q r) O)<|Rs O (aa call208 (bK _ _) O)<|A1 O<|Gt O ?_;have e:sgn (decide (n<0)) n.natAbs=n:=by cases h:decide (n<0)<;>simp at h<;>simp[sgn]<;>omega
  exact⟨_,_,O,O,⟨ar ⟨_,aat,O⟩ zX O O O,Zp⟩,ah fb e⟩
 have hu:IntKind.u64.wrap n=((n.natAbs:Nat):Int):=MG u j;refine Vl<|Z2 O<|Rs O (XJ.cast (v':= .pv (.int .u64 (n.natAbs:Int))) oJ (ah (λi=>V.pv (.int .u64 i)) hu))<|A1 O<|Rs O (XJ.cast (v':= .pv (.int .u64 (n.natAbs:Int))) oJ (ah (λi=>V.pv (.int .u64 i)) hu))<|Y2 O<|Rs O (XJ.cast (v':= .pv (.int .u64 (n.natAbs:Int))) oJ (ah (λi=>V.pv (.int .u64 i)) hu))<|Y2 O<|Rs O (ax WC Zm Qm O Zk Zk O O)<|Rs O (aa call209 (cO (n:=3) _ O Zk q r) O)<|Rs O (aa call208 (bK _ _) O)<|A1 O<|Gt O ?_;have e:sgn (decide (n<0)) n.natAbs=n:=by cases h:decide (n<0)<;>simp at h<;>simp[sgn]<;>omega
 exact⟨_,_,O,O,⟨ar ⟨_,aat,O⟩ zX O O O,Zp⟩,ah fb e⟩
theorem Ix(x y:Int):sgn (decide (x<0) !=decide (y<0)) (x.natAbs*y.natAbs)=x*y:=by
 by_cases hx:x<0<;>by_cases hy:y<0<;>simp only[hx,hy,YJ,Yo,bne_self_eq_false,Bool.bne_true,Bool.bne_false,Bool.not_false,Bool.not_true,Bool.true_bne,Bool.false_bne,sgn,Yk,Wj,Yd]
 .grind
 .grind
 .grind
 grind
theorem gx(x y:Int)(r:(ae x.natAbs).length<=1000000)(s:(ae y.natAbs).length<=1000000):ZK prog 160 [fb x,fb y] (· =fb (x*y)):=by
 refine ZD func160 O ntmps160 λ_ _ _ _=>?_
 have j:=KG x.natAbs y.natAbs r s;have q:=Ix x y;refine Z3 O<|VC 12 O<|Dr 9 O<|YM O (λτ h=>aa call210 j (h.aE O))<|YM O (λτ h=>aa call208 (bK _ _) (h.aE O))<|D1 O O ⟨Zj,YR O ⟨⟨ar ⟨_,aat,O⟩ zX O O O,Zp⟩,ah fb q⟩⟩
end
end Go.Proofs.YthicoeegbdboeaaGreatDoor
namespace Go.Proofs
open Go.Proofs.YthicoeegbdboeaaGreatDoor
open Go.Shelf
def Tryz.AZ:Go.Shelf.Ren:=⟨fun|103=>227|210=>273|206=>305|n=>n,fun|9=>9|4=>4|24=>316|3=>3|n=>n,fun|n=>n⟩
theorem Tryz.RG:Go.Proofs.Lays.n103 prog Tryz.AZ:={
 mixed:=Zj
 f103:=Tryz.func227.trans (ah WB Zj)
 f206:=Tryz.func305.trans (ah WB Zj)
 f210:=Tryz.func273.trans (ah WB Zj)
 t3:=Tryz.underlying3
 a3:=Tryz.isAgg3
 z3:=Tryz.sizeOf3
 v3:=Tryz.zeroValue3
 t4:=Tryz.underlying4
 a4:=Tryz.isAgg4
 z4:=Tryz.sizeOf4
 v4:=Tryz.zeroValue4
 t9:=Tryz.underlying9
 a9:=Tryz.isAgg9
 z9:=Tryz.sizeOf9
 v9:=Tryz.zeroValue9
 t24:=Tryz.underlying316
 a24:=Tryz.isAgg316
 z24:=Tryz.sizeOf316
 v24:=Tryz.zeroValue316 }
open Go.RowKit in
theorem Tryz.strings_CutPrefix (s p:er) (w:World):
  Calls prog 227 #[.string s,.string p] w λe w'=>e= .returned (.tuple #[.string ⟨(Lib.trimPrefix s.data.toList p.data.toList).toArray⟩,.bool (Lib.hasPrefix s.data.toList p.data.toList)])/\w'=w:=Any.strings_CutPrefix Tryz.RG s p w
def Tryz.B1:Go.Shelf.Ren:=⟨fun|122=>121|215=>174|n=>n,fun|3=>3|4=>4|n=>n,fun|n=>n⟩
theorem Tryz.Si:Go.Proofs.Lays.n122 prog Tryz.B1:={
 mixed:=Zj
 f122:=Tryz.func121.trans (ah WB Zj)
 f215:=Tryz.func174.trans (ah WB Zj)
 t3:=Tryz.underlying3
 a3:=Tryz.isAgg3
 z3:=Tryz.sizeOf3
 v3:=Tryz.zeroValue3
 t4:=Tryz.underlying4
 a4:=Tryz.isAgg4
 z4:=Tryz.sizeOf4
 v4:=Tryz.zeroValue4 }
open Go.RowKit in
theorem Tryz.cmp_Compare_int (x y:Int) (w:World):
  Calls prog 121 #[.int .i64 x,.int .i64 y] w λe w'=>e= .returned (.int .i64 (Lib.compareInt x y))/\w'=w:=Any.cmp_Compare_int Tryz.Si x y w
def Tryz.BB:Go.Shelf.Ren:=⟨fun|283=>276|n=>n,fun|3=>3|9=>9|4=>4|n=>n,fun|n=>n⟩
theorem Tryz.QF:Go.Proofs.Lays.n283 prog Tryz.BB:={
 mixed:=Zj
 f283:=Tryz.func276.trans (ah WB Zj)
 t3:=Tryz.underlying3
 a3:=Tryz.isAgg3
 z3:=Tryz.sizeOf3
 v3:=Tryz.zeroValue3
 t4:=Tryz.underlying4
 a4:=Tryz.isAgg4
 z4:=Tryz.sizeOf4
 v4:=Tryz.zeroValue4
 t9:=Tryz.underlying9
 a9:=Tryz.isAgg9
 z9:=Tryz.sizeOf9
 v9:=Tryz.zeroValue9 }
open Go.Lib in
theorem Tryz.internal_strconv_small (i:Nat) (h:i<100) (w:World):
  Calls prog 276 #[.int .i64 i] w λe w'=>e= .returned (.string ⟨(Lib.decDigits i).toArray⟩)/\w'=w:=Any.internal_strconv_small Tryz.QF i h w
def Tryz.yo:Go.Shelf.Ren:=⟨fun|284=>277|129=>203|317=>312|318=>313|n=>n,fun|53=>268|3=>3|212=>383|0=>0|4=>4|46=>210|5=>5|9=>9|n=>n,fun|17=>1|n=>n⟩
theorem Tryz.OB:Go.Proofs.LaysM.n284 prog Tryz.yo:={
 mixed:=Zj
 f129:=Tryz.func203.trans (ah WB Zj)
 f284:=Tryz.func277.trans (ah WB Zj)
 f317:=Tryz.func312.trans (ah WB Zj)
 f318:=Tryz.func313.trans (ah WB Zj)
 t0:=Tryz.underlying0
 a0:=Tryz.isAgg0
 z0:=Tryz.sizeOf0
 v0:=Tryz.zeroValue0
 t3:=Tryz.underlying3
 a3:=Tryz.isAgg3
 z3:=Tryz.sizeOf3
 v3:=Tryz.zeroValue3
 t4:=Tryz.underlying4
 a4:=Tryz.isAgg4
 z4:=Tryz.sizeOf4
 v4:=Tryz.zeroValue4
 t5:=Tryz.underlying5
 a5:=Tryz.isAgg5
 z5:=Tryz.sizeOf5
 v5:=Tryz.zeroValue5
 t9:=Tryz.underlying9
 a9:=Tryz.isAgg9
 z9:=Tryz.sizeOf9
 v9:=Tryz.zeroValue9
 t46:=Tryz.underlying210
 a46:=Tryz.isAgg210
 z46:=Tryz.sizeOf210
 v46:=Tryz.zeroValue210
 t53:=Tryz.underlying268
 a53:=Tryz.isAgg268
 z53:=Tryz.sizeOf268
 v53:=Tryz.zeroValue268
 t212:=Tryz.underlying383
 a212:=Tryz.isAgg383
 z212:=Tryz.sizeOf383
 v212:=Tryz.zeroValue383
 g17:=Zj
 i0:=Zj
 i3:=Zj
 i4:=Zj
 i5:=Zj
 i9:=Zj
 i46:=Zj
 i53:=Zj
 i212:=Zj
 m17:=by kernel_rfl }
open Go.Lib in
theorem Tryz.internal_strconv_numDigits (u:Nat) (q:1<=u) (r:u<18446744073709551616) (w:World) (j:Lib.TabIs prog w "internal/strconv.uint64pow10" .u64 Lib.pow10Tab):
  Calls prog 277 #[.int .u64 u] w λe w'=>e= .returned (.int .i64 (Lib.nDigits u))/\w'=w:=Any.internal_strconv_numDigits Tryz.OB u q r w j
def Tryz.AD:Go.Shelf.Ren:=⟨fun|285=>278|n=>n,fun|37=>178|53=>268|3=>3|4=>4|51=>291|9=>9|5=>5|0=>0|n=>n,fun|n=>n⟩
theorem Tryz.S9:Go.Proofs.Lays.n285 prog Tryz.AD:={
 mixed:=Zj
 f285:=Tryz.func278.trans (ah WB Zj)
 t0:=Tryz.underlying0
 a0:=Tryz.isAgg0
 z0:=Tryz.sizeOf0
 v0:=Tryz.zeroValue0
 t3:=Tryz.underlying3
 a3:=Tryz.isAgg3
 z3:=Tryz.sizeOf3
 v3:=Tryz.zeroValue3
 t4:=Tryz.underlying4
 a4:=Tryz.isAgg4
 z4:=Tryz.sizeOf4
 v4:=Tryz.zeroValue4
 t5:=Tryz.underlying5
 a5:=Tryz.isAgg5
 z5:=Tryz.sizeOf5
 v5:=Tryz.zeroValue5
 t9:=Tryz.underlying9
 a9:=Tryz.isAgg9
 z9:=Tryz.sizeOf9
 v9:=Tryz.zeroValue9
 t37:=Tryz.underlying178
 a37:=Tryz.isAgg178
 z37:=Tryz.sizeOf178
 v37:=Tryz.zeroValue178
 t51:=Tryz.underlying291
 a51:=Tryz.isAgg291
 z51:=Tryz.sizeOf291
 v51:=Tryz.zeroValue291
 t53:=Tryz.underlying268
 a53:=Tryz.isAgg268
 z53:=Tryz.sizeOf268
 v53:=Tryz.zeroValue268 }
open Go.RowKit Go.Sort Go.Lib in
theorem Tryz.internal_strconv_formatBase10 (blk off cap:Nat) (u:Nat) (d:Array UInt8) (w:World) (r:Holds (λ(b:UInt8)=>Value.int .u8 (b.toNat:Int)) w blk off d) (s:u<10^d.size) (j:u<18446744073709551616) (q:d.size<4611686018427387904):
  Calls prog 278 #[.slice (WB ⟨blk,off,WC⟩) d.size cap,.int .u64 u] w λe w'=>
   e= .returned (.tuple #[])/\∃(n v':Nat)(dk:Array UInt8),w'=(putRow (fun(b:UInt8)=>Value.int .u8 (b.toNat:Int)) w blk off dk).drewN n/\FmtInv d.size u 0 v' dk:=Any.internal_strconv_formatBase10 Tryz.S9 blk off cap u d w r s j q
def Tryz.yp:Go.Shelf.Ren:=⟨fun|14=>228|16=>274|17=>275|19=>306|20=>307|21=>308|22=>309|23=>310|24=>311|25=>333|27=>335|26=>334|28=>342|29=>344|30=>276|31=>277|32=>278|33=>279|35=>203|34=>312|36=>313|37=>314|38=>315|39=>336|40=>337|n=>n,fun|9=>9|3=>3|22=>268|24=>310|25=>318|4=>4|34=>377|5=>5|36=>210|37=>178|0=>0|39=>379|21=>21|44=>400|47=>345|50=>407|48=>405|2=>2|52=>352|55=>354|59=>383|60=>291|20=>20|61=>384|65=>408|66=>409|67=>172|n=>n,fun|0=>2|1=>3|2=>1|3=>4|4=>5|n=>n⟩
theorem Tryz.NJ:Go.Proofs.LaysPu.n14 prog Tryz.yp:={
 mixed:=Zj
 f14:=Tryz.func228.trans (ah WB Zj)
 f16:=Tryz.func274.trans (ah WB Zj)
 f17:=Tryz.func275.trans (ah WB Zj)
 f19:=Tryz.func306.trans (ah WB Zj)
 f20:=Tryz.func307.trans (ah WB Zj)
 f21:=Tryz.func308.trans (ah WB Zj)
 f22:=Tryz.func309.trans (ah WB Zj)
 f23:=Tryz.func310.trans (ah WB Zj)
 f24:=Tryz.func311.trans (ah WB Zj)
 f25:=Tryz.func333.trans (ah WB Zj)
 f26:=Tryz.func334.trans (ah WB Zj)
 f27:=Tryz.func335.trans (ah WB Zj)
 f28:=Tryz.func342.trans (ah WB Zj)
 f29:=Tryz.func344.trans (ah WB Zj)
 f30:=Tryz.func276.trans (ah WB Zj)
 f31:=Tryz.func277.trans (ah WB Zj)
 f32:=Tryz.func278.trans (ah WB Zj)
 f33:=Tryz.func279.trans (ah WB Zj)
 f34:=Tryz.func312.trans (ah WB Zj)
 f35:=Tryz.func203.trans (ah WB Zj)
 f36:=Tryz.func313.trans (ah WB Zj)
 f37:=Tryz.func314.trans (ah WB Zj)
 f38:=Tryz.func315.trans (ah WB Zj)
 f39:=Tryz.func336.trans (ah WB Zj)
 f40:=Tryz.func337.trans (ah WB Zj)
 t0:=Tryz.underlying0
 a0:=Tryz.isAgg0
 z0:=Tryz.sizeOf0
 v0:=Tryz.zeroValue0
 i0:=Zj
 t2:=Tryz.underlying2
 a2:=Tryz.isAgg2
 z2:=Tryz.sizeOf2
 v2:=Tryz.zeroValue2
 i2:=Zj
 t3:=Tryz.underlying3
 a3:=Tryz.isAgg3
 z3:=Tryz.sizeOf3
 v3:=Tryz.zeroValue3
 i3:=Zj
 t4:=Tryz.underlying4
 a4:=Tryz.isAgg4
 z4:=Tryz.sizeOf4
 v4:=Tryz.zeroValue4
 i4:=Zj
 t5:=Tryz.underlying5
 a5:=Tryz.isAgg5
 z5:=Tryz.sizeOf5
 v5:=Tryz.zeroValue5
 i5:=Zj
 t9:=Tryz.underlying9
 a9:=Tryz.isAgg9
 z9:=Tryz.sizeOf9
 v9:=Tryz.zeroValue9
 i9:=Zj
 t20:=Tryz.underlying20
 a20:=Tryz.isAgg20
 z20:=Tryz.sizeOf20
 v20:=Tryz.zeroValue20
 i20:=Zj
 t21:=Tryz.underlying21
 a21:=Tryz.isAgg21
 z21:=Tryz.sizeOf21
 v21:=Tryz.zeroValue21
 i21:=Zj
 t22:=Tryz.underlying268
 a22:=Tryz.isAgg268
 z22:=Tryz.sizeOf268
 v22:=Tryz.zeroValue268
 i22:=Zj
 t24:=Tryz.underlying310
 a24:=Tryz.isAgg310
 z24:=Tryz.sizeOf310
 v24:=Tryz.zeroValue310
 i24:=Zj
 t25:=Tryz.underlying318
 a25:=Tryz.isAgg318
 z25:=Tryz.sizeOf318
 v25:=Tryz.zeroValue318
 i25:=Zj
 t34:=Tryz.underlying377
 a34:=Tryz.isAgg377
 z34:=Tryz.sizeOf377
 v34:=Tryz.zeroValue377
 i34:=Zj
 c34:=Zj
 t36:=Tryz.underlying210
 a36:=Tryz.isAgg210
 z36:=Tryz.sizeOf210
 v36:=Tryz.zeroValue210
 i36:=Zj
 t37:=Tryz.underlying178
 a37:=Tryz.isAgg178
 z37:=Tryz.sizeOf178
 v37:=Tryz.zeroValue178
 i37:=Zj
 t39:=Tryz.underlying379
 a39:=Tryz.isAgg379
 z39:=Tryz.sizeOf379
 v39:=Tryz.zeroValue379
 i39:=Zj
 t44:=Tryz.underlying400
 a44:=Tryz.isAgg400
 z44:=Tryz.sizeOf400
 v44:=Tryz.zeroValue400
 i44:=Zj
 t47:=Tryz.underlying345
 a47:=Tryz.isAgg345
 z47:=Tryz.sizeOf345
 v47:=Tryz.zeroValue345
 i47:=Zj
 t48:=Tryz.underlying405
 a48:=Tryz.isAgg405
 z48:=Tryz.sizeOf405
 v48:=Tryz.zeroValue405
 i48:=Zj
 t50:=Tryz.underlying407
 a50:=Tryz.isAgg407
 z50:=Tryz.sizeOf407
 v50:=Tryz.zeroValue407
 i50:=Zj
 t52:=Tryz.underlying352
 a52:=Tryz.isAgg352
 z52:=Tryz.sizeOf352
 v52:=Tryz.zeroValue352
 i52:=Zj
 t55:=Tryz.underlying354
 a55:=Tryz.isAgg354
 z55:=Tryz.sizeOf354
 v55:=Tryz.zeroValue354
 i55:=Zj
 t59:=Tryz.underlying383
 a59:=Tryz.isAgg383
 z59:=Tryz.sizeOf383
 v59:=Tryz.zeroValue383
 i59:=Zj
 t60:=Tryz.underlying291
 a60:=Tryz.isAgg291
 z60:=Tryz.sizeOf291
 v60:=Tryz.zeroValue291
 i60:=Zj
 t61:=Tryz.underlying384
 a61:=Tryz.isAgg384
 z61:=Tryz.sizeOf384
 t65:=Tryz.underlying408
 a65:=Tryz.isAgg408
 z65:=Tryz.sizeOf408
 v65:=Tryz.zeroValue408
 i65:=Zj
 t66:=Tryz.underlying409
 a66:=Tryz.isAgg409
 z66:=Tryz.sizeOf409
 v66:=Tryz.zeroValue409
 i66:=Zj
 t67:=Tryz.underlying172
 a67:=Tryz.isAgg172
 z67:=Tryz.sizeOf172
 v67:=Tryz.zeroValue172
 i67:=Zj
 g0:=Zj
 m0:=Zj
 g1:=Zj
 m1:=Zj
 g2:=Zj
 m2:=Zj
 g3:=Zj
 m3:=Zj
 g4:=Zj
 m4:=by kernel_rfl }
open Go.RowKit in
theorem Tryz.strconv_ParseUint_10_at64_ok (s:er) (j:s.size<=9223372036854775806) (u:Nat) (h:Lib.parseUintB 64 s.data.toList= .ok u) (w:World):
  Calls prog 228 #[.string s,.int .i64 10,.int .i64 64] w λe w'=>e= .returned (.tuple #[.int .u64 u,.nilIface])/\(w'=w\/w'=Lib.bytesWorld w 5 s):=Any.strconv_ParseUint_10_at64_ok Tryz.NJ s j u h w
def Tryz.BR:Go.Shelf.Ren:=⟨fun|145=>167|220=>226|219=>272|217=>301|225=>302|224=>303|267=>304|266=>331|314=>332|n=>n,fun|9=>9|4=>4|59=>263|3=>3|5=>5|46=>210|146=>385|51=>291|n=>n,fun|1=>0|n=>n⟩
theorem Tryz.Ta:Go.Proofs.Lays.n145 prog Tryz.BR:={
 mixed:=Zj
 f145:=Tryz.func167.trans (ah WB Zj)
 f217:=Tryz.func301.trans (ah WB Zj)
 f219:=Tryz.func272.trans (ah WB Zj)
 f220:=Tryz.func226.trans (ah WB Zj)
 f224:=Tryz.func303.trans (ah WB Zj)
 f225:=Tryz.func302.trans (ah WB Zj)
 f266:=Tryz.func331.trans (ah WB Zj)
 f267:=Tryz.func304.trans (ah WB Zj)
 f314:=Tryz.func332.trans (ah WB Zj)
 t3:=Tryz.underlying3
 a3:=Tryz.isAgg3
 z3:=Tryz.sizeOf3
 v3:=Tryz.zeroValue3
 t4:=Tryz.underlying4
 a4:=Tryz.isAgg4
 z4:=Tryz.sizeOf4
 v4:=Tryz.zeroValue4
 t5:=Tryz.underlying5
 a5:=Tryz.isAgg5
 z5:=Tryz.sizeOf5
 v5:=Tryz.zeroValue5
 t9:=Tryz.underlying9
 a9:=Tryz.isAgg9
 z9:=Tryz.sizeOf9
 v9:=Tryz.zeroValue9
 t46:=Tryz.underlying210
 a46:=Tryz.isAgg210
 z46:=Tryz.sizeOf210
 v46:=Tryz.zeroValue210
 t51:=Tryz.underlying291
 a51:=Tryz.isAgg291
 z51:=Tryz.sizeOf291
 v51:=Tryz.zeroValue291
 t59:=Tryz.underlying263
 a59:=Tryz.isAgg263
 z59:=Tryz.sizeOf263
 v59:=Tryz.zeroValue263
 t146:=Tryz.underlying385
 a146:=Tryz.isAgg385
 z146:=Tryz.sizeOf385
 v146:=Tryz.zeroValue385
 g1:=by kernel_rfl }
open Go.RowKit Go.Lib in
theorem Tryz.strings_Cut (s sep:er) (m:Int) (w:World) (hs:s.size<4294967281) (j:w.cell? ⟨0,0,WC⟩=WB (.int .i64 m)):
  Calls prog 167 #[.string s,.string sep] w λe w'=>e= .returned (.tuple #[.string ⟨(Lib.cut s.data.toList sep.data.toList).1.toArray⟩,.string ⟨(Lib.cut s.data.toList sep.data.toList).2.1.toArray⟩,.bool (Lib.cut s.data.toList sep.data.toList).2.2])/\∃n,w'=w.drewN n:=Any.strings_Cut Tryz.Ta s sep m w hs j
def Tryz.Az:Go.Shelf.Ren:=⟨fun|101=>243|208=>288|206=>305|n=>n,fun|9=>9|4=>4|3=>3|n=>n,fun|n=>n⟩
theorem Tryz.SH:Go.Proofs.Lays.n101 prog Tryz.Az:={
 mixed:=Zj
 f101:=Tryz.func243.trans (ah WB Zj)
 f206:=Tryz.func305.trans (ah WB Zj)
 f208:=Tryz.func288.trans (ah WB Zj)
 t3:=Tryz.underlying3
 a3:=Tryz.isAgg3
 z3:=Tryz.sizeOf3
 v3:=Tryz.zeroValue3
 t4:=Tryz.underlying4
 a4:=Tryz.isAgg4
 z4:=Tryz.sizeOf4
 v4:=Tryz.zeroValue4
 t9:=Tryz.underlying9
 a9:=Tryz.isAgg9
 z9:=Tryz.sizeOf9
 v9:=Tryz.zeroValue9 }
open Go.RowKit Go.Lib in
theorem Tryz.strings_TrimPrefix (s p:er) (w:World):
  Calls prog 243 #[.string s,.string p] w λe w'=>e= .returned (.string ⟨(Lib.trimPrefix s.data.toList p.data.toList).toArray⟩)/\w'=w:=Any.strings_TrimPrefix Tryz.SH s p w
end Go.Proofs
namespace Go.Proofs.YthicoeegbdboeaaGreatDoor
section
theorem Fm(w:World)(n:Nat):Below w.heap.size w (w.drewN n):=⟨O,O,O,BY _,λ_ _=>rfl⟩
theorem Am(w:World)(n:Nat)(os:Array Obj):Below w.heap.size w (Go.Sort.grow (w.drewN n) os):=by
 refine⟨O,O,O,?_,λk hk=>?_⟩
 .simp_all
 show(w.heap++os)[k]? =w.heap[k]?;rw[Array.getElem?_append_left hk]
theorem BJ(w:World)(e:TypeId)(s:er):Below w.heap.size w (Lib.bytesWorld w e s):=by refine⟨O,O,O,?_,λk hk=>Lib.bytesWorld_at_old w e s k hk⟩;rw[Lib.bytesWorld_size];omega
section
variable {P:Program}{f:FuncId}
theorem lE{w:World}{R:ew}{s:er}{us:e7}{ps:na}(h:ZG w R (.str s::ps) us):∃vs,us= .string s::vs/\ZG w R ps vs:=by grind[ZG,ZH]
theorem nW{w:World}{R:ew}{k:IntKind}{n:Int}{us:e7}{ps:na}(h:ZG w R (.int k n::ps) us):∃vs,us= .int k n::vs/\ZG w R ps vs:=by grind[ZG,ZH]
theorem oi{w:World}{R:ew}{us:e7}(h:ZG w R [] us):us=[]:=by simpa only[ZG]using h
end
theorem Sv{w:World}{R:ew}(h:r4 w R):Lib.TabIs prog w "internal/strconv.uint64pow10" .u64 Lib.pow10Tab:=by obtain⟨_,o,h1,t,fz,rfl⟩:=h (1,_) (by simp only[glb];exact Xj);have j:prog.globalNamed "internal/strconv.uint64pow10" =WB 1:=Zj;simp only[Lib.TabIs,World.var?,j,Option.bind_some,h1];rfl
theorem RP{w:World}{R:ew}(h:r4 w R):∃m:Int,w.cell? ⟨0,0,WC⟩=WB (.int .i64 m):=by obtain⟨_,o,h1,m,t,fz,rfl⟩:=h (0,_) (by simp only[glb];exact VX _ Xj);exact⟨m,by simp[World.cell?,h1]⟩
theorem IW(s sep:er)(hs:s.size<4294967281):ZK prog 167 [.str s,.str sep] (· = .bS [.str ⟨(Lib.cut s.data.toList sep.data.toList).1.toArray⟩,.str ⟨(Lib.cut s.data.toList sep.data.toList).2.1.toArray⟩,.bool (Lib.cut s.data.toList sep.data.toList).2.2]):=by intro w R us hG hR hrel;obtain⟨v11,rfl,h11⟩:=lE hrel;obtain⟨v12,rfl,h12⟩:=lE h11;obtain rfl:=oi h12;obtain⟨m,hm⟩:=RP hG;exact(Tryz.strings_Cut s sep m w hs hm).mono λe w' ⟨he,n,hw⟩=>⟨_,_,he,O,by rw[hw];exact Fm w n,by simp[ZH,ZG]⟩
theorem xS(s p:er):ZK prog 227 [.str s,.str p] (· = .bS [.str ⟨(Lib.trimPrefix s.data.toList p.data.toList).toArray⟩,.bool (Lib.hasPrefix s.data.toList p.data.toList)]):=by intro w R us hG hR hrel;obtain⟨v11,rfl,h11⟩:=lE hrel;obtain⟨v12,rfl,h12⟩:=lE h11;obtain rfl:=oi h12;exact(Tryz.strings_CutPrefix s p w).mono λe w' ⟨he,hw⟩=>⟨_,_,he,O,by rw[hw];exact Below.refl _ _,by simp[ZH,ZG]⟩
theorem vk(s p:er):ZK prog 243 [.str s,.str p] (· = .str ⟨(Lib.trimPrefix s.data.toList p.data.toList).toArray⟩):=by intro w R us hG hR hrel;obtain⟨v11,rfl,h11⟩:=lE hrel;obtain⟨v12,rfl,h12⟩:=lE h11;obtain rfl:=oi h12;exact(Tryz.strings_TrimPrefix s p w).mono λe w' ⟨he,hw⟩=>⟨_,_,he,O,by rw[hw];exact Below.refl _ _,by simp only[ZH]⟩
theorem yF(s:er)(j:s.size<=9223372036854775806)(u:Nat)(q:Lib.parseUintB 64 s.data.toList= .ok u):ZK prog 228 [.str s,ZU 10,ZU 64] (· = .bS [.int .u64 (u:Int),.niliface]):=by
 intro w R us hG hR hrel;obtain⟨v11,rfl,h11⟩:=lE hrel;obtain⟨v12,rfl,h12⟩:=nW h11;obtain⟨v13,rfl,h13⟩:=nW h12;obtain rfl:=oi h13;refine(Tryz.strconv_ParseUint_10_at64_ok s j u q w).mono λe w' ⟨he,hw⟩=>⟨_,_,he,O,?_,by simp[ZH,ZG]⟩
 rcases hw with rfl|rfl
 .exact Below.refl _ _
 exact BJ w _ s
theorem LK(x y:Int):ZK prog 121 [ZU x,ZU y] (· = ZU (if x<y then-1 else if y<x then 1 else 0)):=by intro w R us hG hR hrel;obtain⟨v11,rfl,h11⟩:=nW hrel;obtain⟨v12,rfl,h12⟩:=nW h11;obtain rfl:=oi h12;exact(Tryz.cmp_Compare_int x y w).mono λe w' ⟨he,hw⟩=>⟨_,.int .i64 (if x<y then-1 else if y<x then 1 else 0),he,O,by rw[hw];exact Below.refl _ _,by simp only[ZH];rfl⟩
end
def kF(c:UInt8):Bool:=decide (48<=c.toNat)&&decide (c.toNat<=57)
def eJ(l:List UInt8):Nat:=l.foldl (λa c=>a*10+(c.toNat-48)) 0
theorem yf(l:List UInt8)(a:Nat):l.foldl (λa c=>a*10+(c.toNat-48)) a=a*10^l.length+eJ l:=by
 induction l generalizing a with
 |nil=>simp[eJ]
 | cons c l ih=>
   have e:eJ (c::l)=(0*10+(c.toNat-48))*10^l.length+eJ l:=by rw[eJ,W5,ih]
   rw[W5,ih,e,VI,Wt,Nat.add_mul,Zg,Wm,Xr,Wq 10,Nat.add_assoc]
theorem AF(a b:List UInt8):eJ (a++b)=eJ a*10^b.length+eJ b:=by rw[eJ,XN,yf];rfl
theorem Bq{l:List UInt8}(h:∀c∈l,kF c=YK):eJ l<10^l.length:=by
 suffices ∀a,l.foldl (λa c=>a*10+(c.toNat-48)) a<(a+1)*10^l.length by simpa[eJ]using this 0
 induction l with
 |nil=>intro a;simp
 | cons c l ih=>
   intro a;have hc:=h c Zm;simp only[kF,aJ,VJ]at hc;have:=ih (λd hd=>h d (by simp[hd])) (a*10+(c.toNat-48));rw[W5,VI,Wt,Wq (10^l.length),<-Xr];exact VW this (WK _ Zi)
theorem EF{l:List UInt8}(h:∀c∈l,kF c=YK)(a:Nat)(hl:(a+1)*10^l.length<=1000000000000000000):Lib.parseUintM (2^64-1) a l= .ok (l.foldl (λa c=>a*10+(c.toNat-48)) a):=by
 induction l generalizing a with
 |nil=>rfl
 | cons c l ih=>
   have hc:=h c Zm;simp only[kF,aJ,VJ]at hc;rw[VI,Wt,Wq (10^l.length),<-Xr]at hl;have j:1<=10^l.length:=Nat.pow_pos Zk;have q:(a+1)*10*1<=(a+1)*10*10^l.length:=Wn _ j;have r:(a+1)*10<=1000000000000000000:=Zi;rw[Lib.parseUintM,IT hc,AS Zi,AS Zi,W5];exact ih (λd hd=>h d (by simp[hd])) _ (OF (WK _ Zi) hl)
theorem Mn{l:List UInt8}(h:∀c∈l,kF c=YK)(j:l≠[])(hl:l.length<=9):Lib.parseUintB 64 l= .ok (eJ l):=by rw[Lib.parseUintB,AS j];refine EF h 0 ?_;have:10^l.length<=10^9:=WJ Zk hl;omega
def ay(s:er):List UInt8:=Lib.trimPrefix s.data.toList [45]
def gB(s:er):Bool:=Lib.hasPrefix s.data.toList [45]
def rdZ(s:er):Int:=sgn (gB s) (eJ (ay s))
theorem read_step{D:List UInt8}{z lo k V:Nat}(q:z<=D.length)(j:lo=z-9)(h:eJ D=eJ (D.take z)*1000000000^k+V):
  eJ D=eJ (D.take lo)*1000000000^(k+1)+(V+1000000000^k*eJ ((D.drop lo).take (z-lo))):=by
 have e:D.take z=D.take lo++(D.drop lo).take (z-lo):=by
  rw[<-List.take_add,show lo+(z-lo)=z by omega]
 have hl:((D.drop lo).take (z-lo)).length=z-lo:=by simp;omega
 rw[e,AF,hl]at h;rw[h];generalize eJ ((D.drop lo).take (z-lo))=u;by_cases h9:9<=z
 .have:z-lo=9:=Zi;rw[this,show(10:Nat)^9=1000000000 from O,Wt,Nat.add_mul,Wq u,Xr,Wq 1000000000 (1000000000^k)];omega
 have:lo=0:=Zi;subst this;rw[Yc];simp only[eJ,List.foldl_nil,Zg,Wm];rw[Wq u,XA]
attribute [simp] eC
theorem FN(l:ee)(n:Nat):b7 l++[.int .u64 (n:Int)]=b7 (l++[n]):=by simp[b7]
def ma(D:List UInt8)(z:Nat):Nat:=eJ ((D.drop (z-9)).take (z-(z-9)))
theorem ON(D:List UInt8)(a b:Nat):((⟨D.toArray⟩:er).extract a b).data.toList=(D.drop a).take (b-a):=by rw[ByteArray.extract_mk]
theorem Iv{D:List UInt8}(j:∀c∈D,kF c=YK){z:Nat}(q:0<z/\z<=D.length):Lib.parseUintB 64 ((⟨D.toArray⟩:er).extract (z-9) z).data.toList= .ok (ma D z):=by rw[ON];refine Mn (λc hc=>j c (Yh (X0 hc))) (λe=>?_) Zn;have:=ah List.length e;simp at this;omega
theorem sL{D:List UInt8}(q:∀c∈D,kF c=YK)(z:Nat):ma D z<1000000000:=by
 have:=Bq (l:=(D.drop (z-9)).take (z-(z-9))) (λc hc=>q c (Yh (X0 hc)));refine VW this ?_;have j:((D.drop (z-9)).take (z-(z-9))).length<=9:=by simp;omega
 exact OF (WJ Zk j) Zk
section
theorem fO(s:er)(G:∀c∈ay s,kF c=YK)(hl:(ay s).length<=1000000):ZK prog 168 [.str s] (· =fb (rdZ s)):=by
 refine ZD func168 O ntmps168 λ_ _ _ _=>?_
 have q:ZK prog 227 [.str s,.str ⟨#[45]⟩] (· = .bS [.str ⟨(ay s).toArray⟩,.bool (gB s)]):=xS s ⟨#[45]⟩;have r:(⟨(ay s).toArray⟩:er).size=(ay s).length:=by simp[ByteArray.size]
 refine Z1 O<|Z1 O<|Rs O (aa call227 q O)<|Ar 5 O<|Z1 O<|Vm (Vs 5 1 1 268 O O)<|Z1 O<|Rs O (XJ.cast (v':= ZI ((ay s).length:Int)) (G3 aam O) (ah (fun(i:Nat)=>ZI (i:Int)) r))<|A1 O ?_;refine Gz O (st:=λZq:Int×ee=>([(2,WC),(3,WC),(4,WC),(5,WB (.bz 1 1 Zq.2.length)),(6,WB (ZI Zq.1))],[(0,WC),(1,WB (.bD 268 (b7 Zq.2)))])) 2
  (I:=λZq=>Zq.1<=((ay s).length:Int)/\ -9<Zq.1/\Lok Zq.2/\Zq.2.length+Zq.1.toNat<=(ay s).length/\eJ (ay s)=eJ ((ay s).take Zq.1.toNat)*1000000000^Zq.2.length+val Zq.2) (μ:=λZq=>Zq.1.toNat) (x0:=(((ay s).length:Int),[])) (YS O) (⟨Int.le_refl _,Zi,λ_ h=>absurd h Zm,Zm,by simp[val]⟩) ?_
 rintro⟨z,l⟩ ⟨hz,hz9,hok,hll,hv⟩;try simp only at hz hz9 hok hll hv ⊢
 refine Z2 O<|Gp O (λj=>?_) (λj=>?_)
 .refine Vl ?_
  repeat apply Vy
  refine AW.block ?_;have H:0<z:=j;have u:(if z-9>0 then z-9 else 0)=((z.toNat-9:Nat):Int):=by split<;>omega
  have B:z=((z.toNat:Nat):Int):=Zi;have D:=Iv G (z:=z.toNat) ⟨Zi,Zi⟩;exact Z3 O<|Rs O (XJ.cast (v':= ZI ((z.toNat-9:Nat):Int)) (zT O O) (ah (λi=>ZI i) u))<|Rs O (XJ.cast (v':= ZI ((z.toNat:Nat):Int)) oJ (ah (λi=>ZI i) B))<|A1 O<|Rs O (aa call228 (yF _ Zn _ D) O)<|Ar 5 O<|Gr O<|Ar 5 O<|Z3 O<|⟨(z-9,l++[ma (ay s) z.toNat]),Vo [0,3] ⟨O,O,O,by simp only[Hb,VV];rfl,O,Zp⟩ ⟨O,ah (λc=>WB (Ob.bD 268 c)) (FN _ _),Zp⟩ O O Zk O,⟨Zi,Zi,hok.append (λb hb=>by rw[VH.1 hb];exact sL G _),by rw[Hb,VV];omega,by rw[Hb,VV,c8,val_one,show(z-9).toNat=z.toNat-9 by omega];exact read_step Zi O hv⟩,Zi⟩
 refine Gx O<|Vm (Vq 1 O O) ?_;have E:z.toNat=0:=Zi;rw[E,Yc,show eJ []=0 from O,Zg,Wm]at hv;exact Z2 O<|Rs O (aa call209 (cO l O Zi hok hv.symm) O)<|Rs O (aa call208 (bK _ _) O)<|A1 O<|YR O ⟨⟨ar ⟨_,aat,O⟩ zX O O O,Zp⟩,O⟩
end
section
open Mk
def pR(D:List UInt8):Bool:= !D.isEmpty&&decide (D.length<=400)&&(D.getD 0 0 !=48)&&D.all kF
def aQ(s:er):Bool:=(s.toList==(⟨#[48]⟩:er).toList)||pR (ay s)
theorem qO{s:er}(h:(s.toList==(⟨#[48]⟩:er).toList)=YK):aQ s=YK:=by rw[aQ,h];rfl
theorem lS{s:er}(h:(s.toList==(⟨#[48]⟩:er).toList)=YL):aQ s=pR (ay s):=by rw[aQ,h];rfl
def pd(x:er):Bool:=(((x.toList==(⟨#[]⟩:er).toList)||decide ((x.size:Int)>400))||((((x.data.toList.getD 0 0).toNat:Nat):Int)==48))
theorem mW(x:er):(x.toList==(⟨#[]⟩:er).toList)=x.data.toList.isEmpty:=by
 rw[Lib.toList_data,Lib.toList_data];cases x.data.toList with
 |nil=>rfl
 |cons a l=>rfl
theorem U9(c:UInt8):(((c.toNat:Nat):Int)==48)=(c==48):=by
 rw[V0,Xk,Xk];constructor
 .intro h;exact Yu.1 (show c.toNat=(48:UInt8).toNat from Int.ofNat_inj.1 h)
 .intro h;rw[h];rfl
theorem yS(D:List UInt8):pd ⟨D.toArray⟩= !(!D.isEmpty&&decide (D.length<=400)&&(D.getD 0 0 !=48)):=by
 have j:(⟨D.toArray⟩:er).size=D.length:=by simp[ByteArray.size]
 rw[pd,mW,U9,j];have q:decide ((D.length:Int)>400)= !decide (D.length<=400):=by
  rw[V0];simp;omega
 rw[q];show(D.isEmpty|| !decide (D.length<=400)||(D.getD 0 0==48))=_;rw[bne];cases D.isEmpty<;>cases decide (D.length<=400)<;>cases (D.getD 0 0==48)<;>rfl
theorem vK{D:List UInt8}(h:pd ⟨D.toArray⟩=YK):pR D=YL:=by rw[yS]at h;rw[pR];simp only[XF]at h;rw[h];rfl
theorem wQ{D:List UInt8}(h:pd ⟨D.toArray⟩=YL):pR D=D.all kF/\0<D.length/\D.length<=400:=by
 rw[yS]at h;simp only[Bool.not_eq_false']at h;rw[pR,h];simp only[aJ,VJ]at h;refine⟨O,?_,h.1.2⟩;cases D with
 |nil=>simp at h
 |cons a l=>simp
def O7(c:UInt8):Bool:=decide ((c.toNat:Int)<48)||decide ((c.toNat:Int)>57)
theorem CY(c:UInt8):O7 c= !kF c:=by rw[O7,kF,V0];simp;omega
theorem Ha{D:List UInt8}{k:Nat}(j:k<D.length)(h:O7 (D[k]'j)=YK):D.all kF=YL:=by grind[CY,X6,ak]
theorem Bu{D:List UInt8}(h:∀j,j<D.length->kF (D.getD j 0)=YK):D.all kF=YK:=by rw[IN];intro c hc;obtain⟨j,hj,rfl⟩:=Xp hc;have:=h j hj;rwa [VO,AT hj]at this
theorem Bc{D:List UInt8}{k:Nat}(j:k<D.length)(h:O7 (D[k]'j)=YL):kF (D.getD k 0)=YK:=by rw[CY]at h;rw[VO,AT j];simpa using h
theorem vpos{x:er}(h:((x.toList==(⟨#[]⟩:er).toList)||decide ((x.size:Int)>400))=YL):0<x.size:=by
 rw[V8,mW]at h;have j:=h.1;rw[Lib.size_eq];cases e:x.data.toList with
 |nil=>rw[e]at j;simp at j
 |cons a l=>simp
theorem eN(s:er):ZK prog 188 [.str s] (· = .bool (aQ s)):=by
 refine ZC func188 O ntmps188 λ_ _ _ _=>?_
 have G:ZK prog 243 [.str s,.str ⟨#[45]⟩] (· = .str ⟨(ay s).toArray⟩):=vk s ⟨#[45]⟩;refine Z1 O<|Z2 O<|Gc O (λu=>?_) (λu=>?_)
 .exact Z1 O<|YR O<|ah PV.bool (qO u).symm
 have hs:aQ s=pR (ay s):=lS u;clear u;generalize ay s=D at*;have H:=@vK D;have L:=@wQ D;have U:(⟨D.toArray⟩:er).data.toList=D:=rfl;have V:(⟨D.toArray⟩:er).size=D.length:=by simp[ByteArray.size]
 refine Vl<|Z1 O<|Rs O (aa call243 G O)<|A1 O<|Z3 O ?_;apply Vv 4 12 16 [13,14,15] O Zs
 .intro hb2;exact Ar 4 O<|Vp Zr O O O
 .intro hb2;exact Ar 4 O<|Vp Zr O O O
 refine A1 O ?_;apply Vv 4 17 21 [18,19,20] O Zs
 .intro hb7;exact Ar 4 O<|Vp Zr O O O
 .intro hb7;have T:=vpos hb7;exact A1 O<|Rg O (bp 0 aam O O O T)<|Rg O ((aY O O O).cast (v':= .pv (.bool ((((((⟨D.toArray⟩:er).data.toList.getD 0 0).toNat:Nat):Int)==48)))) (by rw[gq _ 0 T]))<|A1 O<|Vp Zr O O O
 refine Gc O (λq=>?_) (λq=>?_)
 .have M:pd ⟨D.toArray⟩=YK:=q;exact Z1 O<|YR O<|ah PV.bool (hs.trans (H M)).symm
 obtain⟨hg2,hD0,hD4⟩:=L (show pd ⟨D.toArray⟩=YL from q);refine Vl<|Z4 O<|Gz O (st:=λZq:Nat=>([(23,WC),(24,WC),(25,WB (ZI Zq))],[])) 0
  (I:=λZq=>Zq<=D.length/\∀j,j<Zq->kF (D.getD j 0)=YK) (μ:=λZq=>D.length-Zq) (x0:=0) (Vn (aS O) trivial O O) (⟨sh _,λj hj=>absurd hj (W9 _)⟩) ?_
 rintro k ⟨hk,hall⟩;refine Z1 O<|Gp O (λE=>?_) (λE=>?_)
 .have hlt:k<D.length:=Zi;have M:=rY hlt;have W:=rK hlt;have z:=Ha hlt;have B:=Bc hlt;refine Vl ?_
  repeat apply Vy
  refine AW.block ?_;generalize D[k]=c at z B M ⊢;refine Z1 O<|A2 O Zl ?_;refine A1 O<|Z3 O ?_;apply Vv 3 31 34 [32,33] O Zs
  .intro hb2;exact Y3 O<|Vp Zr O O O
  .intro hb2;exact Y3 O<|Vp Zr O O O
  refine Gc O (λr=>?_) (λr=>?_)
  .have hc:=z r;exact Z1 O<|YR O<|ah PV.bool (by rw[hs,hg2,hc])
  have hc:=B r;exact Vl<|Z2 O<|⟨(k+1),Vn (aS O) trivial O O,⟨Zi,λj hj=>by rcases V3.1 hj with h|rfl;exact hall j h;exact hc⟩,Zi⟩
 exact Gx O<|Z1 O<|YR O<|ah PV.bool (by rw[hs,hg2,Bu λj hj=>hall j Zi])
theorem bI{s:er}(h:aQ s=YK):(∀c∈ay s,kF c=YK)/\(ay s).length<=400:=by
 rw[aQ,Wr]at h;rcases h with h|h
 .rw[Lib.toList_data,Lib.toList_data,Xk]at h;have e:ay s=[48]:=by rw[ay,h];rfl
  rw[e];exact⟨λc hc=>by rw[VH.1 hc];rfl,Zk⟩
 simp only[pR,aJ,VJ,IN]at h;exact⟨h.2,h.1.1.2⟩
theorem Rh(s:er):(rdZ s).natAbs=eJ (ay s):=vQ _ _
theorem SF{n k:Nat}(h:n<=9*k):10^n<=1000000000^k:=by rw[show(1000000000:Nat)=10^9 from O,<-Nat.pow_mul];exact WJ Zk h
theorem b9{a b:Nat}(h:a<=b):(ae a).length<=(ae b).length:=aW.2 (Yn h (aW.1 (BY _)))
theorem nK{s:er}(h:aQ s=YK):(ae (rdZ s).natAbs).length<=400:=by obtain⟨h1,h2⟩:=bI h;rw[Rh];obtain⟨k,hk⟩:∃k,k=400:=⟨_,O⟩;rw[<-hk]at h2 ⊢;exact aW.2 (VW (Bq h1) (SF Zi))
theorem oL(s:er)(h:aQ s=YK):ZK prog 244 [.str s] (· =fb (rdZ s)):=by
 refine ZD func244 O ntmps244 λ_ _ _ _=>?_
 have j:=bI h;exact Z1 O<|Z1 O<|Rs O (aa call168 (fO s j.1 Zi) O)<|A1 O<|YR O ⟨⟨ar ⟨_,aat,O⟩ zX O O O,Zp⟩,O⟩
theorem JM(a b:er)(z:aQ a=YK)(B:aQ b=YK):ZK prog 189 [.str a,.str b] (· = ZU (rdZ a-rdZ b).sign):=by
 refine ZC func189 O ntmps189 λ_ _ _ _=>?_
 have q:=eN a;have r:=eN b;have D:=nK z;have E:=nK B;have s:=oL a z;have u:=oL b B;rw[z]at q;rw[B]at r;refine Z1 O<|Z1 O<|Rs O (aa call188 q O)<|Y2 O ?_;apply Vv 4 8 12 [9,10,11] O Zs
 .intro hb3;exact Ar 4 O<|Vp Zr O O O
 .intro hb3;exact A1 O<|Rg O (aa call188 r O)<|Y2 O<|Vp Zr O O O
 refine Gc O (λj=>absurd j Zm) (λj=>?_);exact Vl<|Z1 O<|Rs O (aa call244 s O)<|A1 O<|Rs O (aa call244 u O)<|Rs O (aa call191 (jr _ _ Zi Zi) O)<|A1 O<|YR O O
def Ny(x y:Int):Prop:=ZK prog 190 [fb x,fb y] (· =fb (Int.gcd x y:Int))
def gk(s:er):er:=⟨(Lib.cut s.data.toList [47]).1.toArray⟩
def kN(s:er):er:=⟨(Lib.cut s.data.toList [47]).2.1.toArray⟩
def bC(s:er):Bool:=(Lib.cut s.data.toList [47]).2.2
def CW:er:=⟨#[49]⟩
def AK:er:=⟨#[48]⟩
def LX(s:er):Bool:=((gk s).toList==AK.toList)|| !aQ (kN s)||decide (rdZ (kN s)<=1)
def di(s:er):Bool:=if(!aQ (gk s)|| !bC s)=YK then !bC s&&aQ (gk s)else !LX s&&decide (Int.gcd (rdZ (gk s)) (rdZ (kN s))=1)
theorem vo:rdZ CW=1:=Zk
theorem iP:aQ CW=YK:=by rw[aQ,Wr];exact .inr Zk
theorem SI(a:Int):decide ((a-1).sign<=0)=decide (a<=1):=by grind
theorem sign_eq(a:Int):((a-1).sign==0)=decide (a=1):=by grind
theorem jj(s:er)(hs:s.size<4294967281)(X:aQ (gk s)=YK->LX s=YL->Ny (rdZ (gk s)) (rdZ (kN s))):ZK prog 137 [.str s] (· = .bool (di s)):=by
 refine ZC func137 O ntmps137 λ_ _ _ _=>?_
 have z:ZK prog 167 [.str s,.str ⟨#[47]⟩] (· = .bS [.str (gk s),.str (kN s),.bool (bC s)]):=IW s ⟨#[47]⟩ hs;have B:=di.eq_1 s;have M:=LX.eq_1 s;generalize di s=v at*;generalize LX s=bad at*;generalize gk s=nu at*;generalize kN s=de at*;generalize bC s=ok at*;have D:=eN nu;have E:=eN de;refine Z1 O<|Z1 O<|Rs O (aa call167 z O)<|Ar 7 O<|Z1 O<|Rs O (aa call188 D O)<|Y2 O ?_;apply Vv 3 15 18 [16,17] O Zs
 .intro hb3;exact Y3 O<|Vp Zr O O O
 .intro hb3;exact Y3 O<|Vp Zr O O O
 refine Gc O (λq=>?_) (λq=>?_)
 .rw[IT q]at B;refine Z3 O ?_;apply Vx 3 21 24 [22,23] O Zs
  .intro hb2;exact A1 O<|Rg O (aa call188 D O)<|A1 O<|Vp Zr O O O
  .intro hb2;exact Y3 O<|Vp Zr O O O
  exact A1 O<|YR O<|ah PV.bool B.symm
 rw[AS (by simpa using q)]at B;have u:aQ nu=YK:=by simp only[V8]at q;simpa using q.1
 refine Vl<|Z3 O ?_;apply Vv 4 27 31 [28,29,30] O Zs
 .intro hb2;exact Ar 4 O<|Vp Zr O O O
 .intro hb2;exact A1 O<|Rg O (aa call188 E O)<|Y2 O<|Vp Zr O O O
 refine A1 O ?_;apply Vv 4 32 36 [33,34,35] O Zs
 .intro hb7;exact Ar 4 O<|Vp Zr O O O
 .intro hb7;have r:aQ de=YK:=by simp only[V8]at hb7;simpa using hb7.2
  exact A1 O<|Rg O (aa call189 (JM de CW r iP) O)<|Rg O ((aY O O O).cast (v':= .pv (.bool (decide (rdZ de<=1)))) (ah (λb=>V.pv (.bool b)) (by rw[vo,SI])))<|A1 O<|Vp Zr O O O
 refine Gc O (λj=>?_) (λj=>?_)
 .have hbt:bad=YK:=M.trans j;exact Z1 O<|YR O<|ah PV.bool (by rw[B,hbt];rfl)
 have hbt:bad=YL:=M.trans j;have G:=X u hbt;refine Vl ?_;have r:aQ de=YK:=by simp only[V8]at j;simpa using j.1.2
 have T:=nK u;have U:=nK r;have H:=fO nu (bI u).1 (by have:=(bI u).2;omega);have I:=fO de (bI r).1 (by have:=(bI r).2;omega);have W:1<rdZ de:=by simp only[V8,Xf]at j;omega
 have L:(ae (Int.gcd (rdZ nu) (rdZ de):Int).natAbs).length<=1000000:=by rw[VZ];exact OF (b9 (Nat.le_of_dvd Zi (Nat.gcd_dvd_right _ _))) Zi
 exact Z1 O<|Rs O (aa call168 H O)<|A1 O<|Rs O (aa call168 I O)<|Rs O (aa call190 G O)<|Rs O (aa call157 (mU 1 Zk Zk) O)<|Rs O (aa call191 (jr _ _ L (by rw[eY Zk Zk];decide)) O)<|Y2 O<|YR O<|ah PV.bool (by rw[B,hbt,sign_eq];simp;omega)
end
section
open Mk Jn
theorem Gj(x y:Int)(j:x.natAbs<1000000000)(q:y.natAbs<1000000000):Ny x y:=by
 have hs:∀n:Nat,n<1000000000->(ae n).length<=1:=λn h=>aW.2 Zi
 exact qY (λa b=>a<1000000000/\b<1000000000) (λa b h h0 h1 _ _=>by grind) x y ⟨j,q⟩ (by have:=hs _ j;omega) (by have:=hs _ q;omega)
theorem MT{s:er}(h:bC s=YL):kN s=⟨#[]⟩:=by
 unfold bC at h;unfold kN;have:∀l m:List UInt8,(Lib.cut l m).2.2=YL->(Lib.cut l m).2.1=[]:=λl m h=>by
  unfold Lib.cut at h ⊢;split at h
  .simp at h
  split
  .contradiction
  .rfl
 rw[this _ _ h]
theorem Kl(z:Int)(H:z.natAbs<1000000000):ZK prog 320 [fb z] (· = .bS [ZU z,.bool YK]):=by
 refine ZC func320 O ntmps320 λ_ _ _ _=>?_
 have E:(ae z.natAbs).length<=1:=aW.2 Zi;have u:=nQ (ae z.natAbs) 2 Zi;have G:lim (ae z.natAbs) 2=0:=by rw[ml];omega
 generalize lim (ae z.natAbs) 2=L at*;have D:=fY z.natAbs Zi;have B:IntKind.i64.wrap ((z.natAbs:Nat):Int)=(z.natAbs:Int):=eS Zi;refine Z3 O<|Gr O<|Ar 5 O ?_;apply Vv 5 9 14 [10,11,12,13] O Zs
 .intro hb4;exact Ar 5 O<|Vp Zr O O O
 .intro hb4;exact Y2 O<|Rg O (aa call256 u O)<|Y2 O<|Vp Zr O O O
 refine Gc O (λr=>absurd r (λh=>by simp at h;omega)) (λr=>?_);refine Vl<|VC 10 O<|Dr 2 O<|YM O (λτ h=>aa call256 u (h.aE O))<|YM O (λτ h=>qB (b:=1000000000) (Ee h 0 O) (Ee h 1 O) Zi)<|YM O (λτ h=>qB (b:=1000000000) (Ee h 0 O) (Ee h 1 O) Zi)<|Dr 2 O<|YM O (λτ h=>aa call289 D (h.aE O))<|YM O (λτ h=>XJ.cast (v':= .pv (.int .u64 (z.natAbs:Int))) (wI (b:=z.natAbs) (Ee h 0 O) (Ee h 1 O) Zi) (ah (λn:Nat=>V.pv (.int .u64 (n:Int))) Zi))<|D1 O O ⟨Zj,Z2 O<|Gp O (λs=>absurd s Zi) (λs=>?_)⟩;refine Vl<|Z2 O<|Gc O (λj=>?_) (λj=>?_)
 .have hz0:z<0:=Xh j;exact Z1 O<|Rs O ((eX aaE aan O).cast (v':= ZI (z.natAbs:Int)) (ah (λz=>ZI z) B))<|Y3 O<|YR O<|ah (λq=>PV.bS [PV.int IntKind.i64 q,PV.bool YK]) (show-(z.natAbs:Int)=z by omega)
 have hz0:¬z<0:=Xx j;exact Vl<|Z1 O<|Rs O ((eX aaE aan O).cast (v':= ZI (z.natAbs:Int)) (ah (λz=>ZI z) B))<|Y2 O<|YR O<|ah (λq=>PV.bS [PV.int IntKind.i64 q,PV.bool YK]) (show(z.natAbs:Int)=z by omega)
theorem xK(s:er)(h:aQ s=YK)(r:(rdZ s).natAbs<1000000000):ZK prog 293 [.str s] (· = .bS [ZU (rdZ s),.bool YK]):=by
 refine ZC func293 O ntmps293 λ_ _ _ _=>?_
 have q:=eN s;rw[h]at q;refine Z2 O<|Z1 O<|Rs O (aa call188 q O)<|A1 O<|Gc O (λj=>absurd j Zm) (λj=>?_);exact Vl<|Z1 O<|Rs O (aa call244 (oL s h) O)<|Rs O (aa call320 (Kl _ r) O)<|Ar 4 O<|YR O O
theorem o7(s:er)(h:aQ s=YK)(r:(rdZ s).natAbs<1000000000):ZK prog 291 [.str s] (· = .bool YK):=by
 refine ZC func291 O ntmps291 λ_ _ _ _=>?_
 have j:decide (rdZ s>= -1000000000)=YK:=VK Zi;have q:decide (rdZ s<=1000000000)=YK:=VK Zi;exact Z1 O<|Z1 O<|Rs O (aa call293 (xK s h r) O)<|Ar 5 O<|Z3 O<|Rg O (fE O O O j)<|Y3 O<|Rg O (fE O O O q)<|Y2 O<|YR O O
theorem RH:aQ ⟨#[]⟩=YL:=Zj
theorem Js:ZK prog 293 [.str ⟨#[]⟩] (· = .bS [.int .i64 0,.bool YL]):=by
 refine ZC func293 O ntmps293 λ_ _ _ _=>?_
 have q:=eN ⟨#[]⟩;rw[RH]at q;refine Z2 O<|Z1 O<|Rs O (aa call188 q O)<|A1 O<|Gc O (λj=>?_) (λj=>absurd j Zm);exact Z2 O<|YR O O
theorem QZ:di ⟨#[]⟩=YL:=Zj
theorem Q3:aQ (gk ⟨#[]⟩)=YL:=Zj
theorem Fa:ZK prog 292 [.str ⟨#[]⟩] (· = .bS [.str ⟨#[]⟩,.str ⟨#[]⟩,.bool YL]):=by
 refine ZC func292 O ntmps292 λ_ _ _ _=>?_
 have q:=jj ⟨#[]⟩ Zk (λh=>by rw[Q3]at h;cases h);rw[QZ]at q;refine Z3 O<|Z1 O<|Rs O (aa call137 q O)<|A1 O<|Gc O (λj=>?_) (λj=>absurd j Zm);exact Z3 O<|YR O O
structure NumOk(v:er):Prop where
 s:v.size<4294967281
 r:di v=YK
 n:aQ (gk v)=YK/\(rdZ (gk v)).natAbs<1000000000
 d:bC v=YK->aQ (kN v)=YK/\1<=rdZ (kN v)/\rdZ (kN v)<=12
theorem FA(v:er)(h:NumOk v):ZK prog 292 [.str v] (· = .bS [.str (gk v),.str (if bC v=YK then kN v else CW),.bool YK]):=by
 refine ZC func292 O ntmps292 λ_ _ _ _=>?_
 have D:aQ (gk v)=YK->LX v=YL->Ny (rdZ (gk v)) (rdZ (kN v)):=λ_ hb=>by
  refine Gj _ _ h.n.2 ?_;have z:=h.r;unfold di at z;by_cases hs:bC v=YK
  .have:=h.d hs;omega
  rw[IT (by rw[h.n.1,XB hs];rfl)]at z;have e:kN v=⟨#[]⟩:=MT (XB hs);rw[e];decide
 have B:=jj v h.s D;rw[h.r]at B;have hc:=IW v ⟨#[47]⟩ h.s;refine Z3 O<|Z1 O<|Rs O (aa call137 B O)<|A1 O<|Gc O (λq=>absurd q Zm) (λq=>?_);refine Vl<|Z1 O<|Rs O (aa call167 hc O)<|Ar 7 O<|Z2 O<|Gc O (λj=>?_) (λj=>?_)
 .have hs:bC v=YL:=by have u:(!bC v)=YK:=j;simpa using u
  rw[hs,AS Zk];exact Z1 O<|Gr O<|Ar 5 O<|YR O O
 have hs:bC v=YK:=by have u:(!bC v)=YL:=j;simpa using u
 rw[hs,IT O];exact Vl<|Gr O<|Ar 5 O<|YR O O
theorem Jw(nm v:er)(h:v=⟨#[]⟩\/aQ v=YK/\(rdZ v).natAbs<1000000000):ZK prog 253 [.agg [.str nm,ZU 1],.str v] (· = .bool YK):=by
 refine ZC func253 O ntmps253 λ_ _ _ _=>?_
 refine Z2 O<|Z2 O<|Z2 O<|Gc O (λj=>?_) (λj=>absurd j Zm);by_cases he:v=⟨#[]⟩
 .subst he;exact Z1 O<|Rs O (wZ O O O (WE _))<|Ar 5 O<|YR O O
 have hne:(v.toList==(⟨#[]⟩:er).toList)=YL:=by rw[Xo];exact λe=>he (bytes_inj e)
 obtain⟨hv1,hv2⟩:=h.resolve_left he;exact Z1 O<|Rs O (pj O O O hne)<|Y2 O<|Rg O (aa call291 (o7 v hv1 hv2) O)<|Y2 O<|YR O O
theorem Im(nm v:er)(h:v=⟨#[]⟩\/fJ v=YK/\v.size<=1000):ZK prog 253 [.agg [.str nm,ZU 3],.str v] (· = .bool YK):=by
 refine ZC func253 O ntmps253 λ_ _ _ _=>?_
 refine Z2 O<|Z2 O<|Z2 O<|Gc O (λj=>absurd j Zm) (λj=>?_);refine Z2 O<|Gc O (λq=>absurd q Zm) (λq=>?_);refine Z2 O<|Gc O (λr=>?_) (λr=>absurd r Zm);by_cases he:v=⟨#[]⟩
 .subst he;exact Z1 O<|Rs O (wZ O O O (WE _))<|Ar 5 O<|YR O O
 have hne:(v.toList==(⟨#[]⟩:er).toList)=YL:=by rw[Xo];exact λe=>he (bytes_inj e)
 obtain⟨hv1,hv2⟩:=h.resolve_left he;have s:=q9 v Zi;rw[hv1]at s;exact Z1 O<|Rs O (pj O O O hne)<|Y2 O<|Rg O (aa call192 s O)<|Y2 O<|YR O O
theorem JI(nm v:er)(h:NumOk v)(s:v≠⟨#[]⟩):ZK prog 253 [.agg [.str nm,ZU 2],.str v] (· = .bool YK):=by
 refine ZC func253 O ntmps253 λ_ _ _ _=>?_
 have u:=FA v h;have j:aQ (if bC v=YK then kN v else CW)=YK/\1<=rdZ (if bC v=YK then kN v else CW)/\rdZ (if bC v=YK then kN v else CW)<=12:=by
  by_cases hs:bC v=YK
  .rw[IT hs];exact h.d hs
  rw[AS hs];exact⟨iP,by rw[vo];decide,by rw[vo];decide⟩
 generalize (if bC v=YK then kN v else CW)=dn at*;have z:=xK dn j.1 Zi;have B:=o7 (gk v) h.n.1 h.n.2;have D:(v.toList==(⟨#[]⟩:er).toList)=YL:=by rw[Xo];exact λe=>s (bytes_inj e)
 have E:decide (rdZ dn>=1)=YK:=VK j.2.1;have G:decide (rdZ dn<=12)=YK:=VK j.2.2;refine Z2 O<|Z2 O<|Z2 O<|Gc O (λq=>absurd q Zm) (λq=>?_);refine Z2 O<|Gc O (λr=>?_) (λr=>absurd r Zm);exact Z1 O<|Rs O (aa call292 u O)<|Ar 7 O<|Z1 O<|Rs O (aa call293 z O)<|Ar 5 O<|Z1 O<|Rs O (pj O O O D)<|Ar 4 O<|Rg O (aa call291 B O)<|Y3 O<|Rg O (fE O O O E)<|Y3 O<|Rg O (fE O O O G)<|Y3 O<|YR O O
theorem EO(nm:er):ZK prog 253 [.agg [.str nm,.int .i64 2],.str ⟨#[]⟩] (· = .bool YK):=by
 refine ZC func253 O ntmps253 λ_ _ _ _=>?_
 have r:=Fa;have s:=Js;refine Z2 O<|Z2 O<|Z2 O<|Gc O (λj=>absurd j Zm) (λj=>?_);refine Z2 O<|Gc O (λq=>?_) (λq=>absurd q Zm);exact Z1 O<|Rs O (aa call292 r O)<|Ar 7 O<|Z1 O<|Rs O (aa call293 s O)<|Ar 5 O<|Z1 O<|Rs O (wZ O O O (WE _))<|Ar 16 O<|YR O O
end
section
section
variable {C:Ctx}{n:Nat}{σ:St}{dst:YX}{ty t t':TypeId}{ts:Array TypeId}{pos:String}{after:Y4}{gd:Option (Nat×Bool)}{x y:Operand}
theorem E6{e:TypeId}(q:C.P.underlying t=WB (.pointer e))(r:σ.ev n x= .pv .nilptr):
  XJ C n ⟨dst,.binOp .eql t x (.const (.pointer WC)) t',ty,pos,after,gd⟩ σ ⟨.pv (.bool YK),[],[]⟩:=
 .val λa w m R hw=>by
  have h:=hw.pv r;simp only[ZH]at h;have hc:a.eval (.const (.pointer WC))= .pointer WC:=rfl;have j:C.P.underlying t=WB (.pointer (C.P.pointee t)):=by simp[Program.pointee,q]
  exact⟨.bool YK,by simp[execOp,h,eqGuard,hc,run_eql_pointer_nil _ _ _ j],by simp only[Rel,ZH]⟩
theorem FB{e:TypeId}{id off:Nat}{o:Ob}(r:C.P.underlying t=WB (.pointer e))(s:σ.ev n x= .ptr id off)(ho:σ.ob id=WB o)(q:o.real=YK:=by rfl):
  XJ C n ⟨dst,.binOp .eql t x (.const (.pointer WC)) t',ty,pos,after,gd⟩ σ ⟨.pv (.bool YL),[],[]⟩:=
 .val λa w m R hw=>by
  obtain⟨b,N,h,_⟩:=hw.ptr s ho q;have hc:a.eval (.const (.pointer WC))= .pointer WC:=rfl;have j:C.P.underlying t=WB (.pointer (C.P.pointee t)):=by simp[Program.pointee,r]
  exact⟨.bool YL,by simp[execOp,h,eqGuard,hc,run_eql_pointer_nil _ _ _ j],by simp only[Rel,ZH]⟩
theorem EK{e:TypeId}{j:TypeInfo}{id off:Nat}{o:Ob}(r:C.P.underlying t=WB (.pointer e))(s:C.P.info? e=WB j)(u:σ.ev n x= .ptr id off)(z:σ.ev n y= .ptr id off)(ho:σ.ob id=WB o)(q:o.real=YK:=by rfl):
  XJ C n ⟨dst,.binOp .neq t x y t',ty,pos,after,gd⟩ σ ⟨.pv (.bool YL),[],[]⟩:=
 .val λa w m R hw=>by
  obtain⟨b,N,h,hm,_⟩:=hw.ptr u ho q;obtain⟨b2,N2,h2,hm2,_⟩:=hw.ptr z ho q;rw[hm]at hm2;cases hm2;exact⟨.bool YL,by simp[execOp,h,h2,eqGuard,Lib.run_neq_ptr_same _ _ r s],by simp only[Rel,ZH]⟩
theorem Lm{P:Program}{T:TypeId}{N d s:Nat}(r:P.depth=d+1)(hs:P.cellsOf T=s)(B:s≠0)(D:s<=N):liesAt P P.depth T (N/P.cellsOf T) 0 T 1=YK:=by
 have z:0<N/s:=Nat.div_pos D Zi;have j:sameLayout P P.depth T T=YK:=by rw[r];unfold sameLayout;simp
 have q:rowAt P (sameLayout P P.depth · T) P.depth T (N/P.cellsOf T) 0 1=YK:=by
  rw[show P.depth=d+1 from r];unfold rowAt;rw[hs,AS B];have u:sameLayout P (d+1) T T=YK:=by rw[<-r];exact j
  simp only[Nat.zero_div,Nat.zero_mod,Wm,u,XV,WE,Yb];rw[VK (show 1<=N/s from z)];rfl
 rw[r];unfold liesAt;rw[q];rfl
theorem Mr{e T:TypeId}{j:TypeInfo}{s d:TypeId}{id:Nat}{cs:nR}(hs:C.P.underlying s=WB (.pointer e))(D:C.P.underlying d=WB .unsafePointer)(E:C.P.info? e=WB j)(u:j.size≠0)(B:σ.ev n x= .ptr id 0)(ho:σ.ob id=WB (.mix T cs))(hl:cs≠[]):
  XJ C n ⟨dst,.convert s d x,ty,pos,after,gd⟩ σ ⟨.ptr id 0,[],[]⟩:=
 .val λa w m R hw=>by
  obtain⟨b,N,h,hm,arr,hb,hsz,hle,_⟩:=hw.ptr B ho;have q:=hw.ev x;rw[B]at q;have z:0<cs.length:=Ww.2 hl;have r:w.shape? b=WB (T,arr.size):=by simp[World.shape?,hb]
  refine⟨a.eval x,?_,q⟩;simp only[execOp,h,Sem.run_bind,Lib.run_to_unsafe w ⟨b,0,WC⟩ hs D E u r (show 0<arr.size by omega),Result.andThen_ok];rfl
theorem Ng{T:TypeId}{j:TypeInfo}{s d:TypeId}{id dp:Nat}{cs:nR}(hs:C.P.underlying s=WB .unsafePointer)(D:C.P.underlying d=WB (.pointer T))(E:C.P.info? T=WB j)(u:C.P.depth=dp+1)(hc:C.P.cellsOf T=cs.length)(B:σ.ev n x= .ptr id 0)(ho:σ.ob id=WB (.mix T cs))(hl:cs≠[]):
  XJ C n ⟨dst,.convert s d x,ty,pos,after,gd⟩ σ ⟨.ptr id 0,[],[]⟩:=
 .val λa w m R hw=>by
  obtain⟨b,N,h,hm,arr,hb,hsz,hle,_⟩:=hw.ptr B ho;have q:=hw.ev x;rw[B]at q;have z:0<cs.length:=Ww.2 hl;have r:w.shape? b=WB (T,arr.size):=by simp[World.shape?,hb]
  refine⟨a.eval x,?_,q⟩;simp only[execOp,h,Sem.run_bind,Lib.run_from_unsafe w ⟨b,0,WC⟩ hs D E r (Lm u hc Zi Zi),Result.andThen_ok];rfl
theorem M7{f:FuncId}{fn:Func}{v:V}(s:C.P.funcs[f]? =WB fn)(j:(fn.name== "runtime.NumGoroutine")=YL)(u:fn.body.isNone=YK)(z:Extern.findNext fn=WC)(B:Extern.find fn=WB Extern.AbiNoEscape.same)(D:σ.ev n x=v):
  XJ C n ⟨dst,.call { callee:= .value (.func f),args:= #[x],argTypes:=ts },ty,pos,after,gd⟩ σ ⟨v,[],[]⟩:=
 .val λa w m R hw=>by
  have q:=hw.ev x;rw[D]at q;refine⟨a.eval x,?_,q⟩;have r:=run_callFunc_extern s j u z B #[a.eval x] w;rw[Lib.run_noEscape]at r;simp only[Result.andThen_ok]at r;have hc:a.eval (.func f)= .func (.func f) #[] #[]:=rfl;simp[execOp,resolve,Deferred.ofValue,invoke,hc,r]
theorem Rr{P:Program}(w:World)(t u ty e:TypeId)(i:TypeInfo)(I:P.underlying t=WB (.slice e))(L:P.underlying u=WB .string)(M:P.info? e=WB i)(T:i.zero=WB (.int .u8 0))(r:i.size=1)(E:i.bytes=1)
  (g cap k:Nat) (cur:YT) (G:w.heap[g]? =WB (.cells cur e (0,0))) (U:k<=cap) (H:cap<=maxLen) (V:cur.size=cap) (s:er) (W:k+s.size<=1000000000):
  ∃g' c' w',(Builtin.append_ #[t,u] ty #[.slice (WB ⟨g,0,WC⟩) k cap,.string s]).run P w= .ok (.slice (WB ⟨g',0,WC⟩) (k+s.size) c') w'/\w.grownBy w' (WB g)/\(g'=g\/g'=w.heap.size)/\
   k+s.size<=c'/\c'<=maxLen/\∃cur',w'.heap[g']? =WB (.cells cur' e (0,0))/\cur'.size=c'/\cur'.toList.take (k+s.size)=cur.toList.take k++Lib.strCells s:=by
 have hl:(cur.toList.take k++Lib.strCells s).length=k+s.size:=by
  rw[Hb,Lib.strCells_length,Vz,Wg];omega
 by_cases hroom:k+s.size<=cap
 .refine⟨g,cap,_,Lib.run_append_room_string (P:=P) w t u ty e i I L M r g k cap cur G s hroom Zi,⟨O,O,O,Zm,λq _ hq=>setRow_other w g q _ (λe=>hq (by rw[e]))⟩,.inl O,hroom,H,_,setRow_heap w g cur _ e _ G,?_,?_⟩
  .grind
  grind
 have holds:∀j u,(cur.toList.take k)[j]? =WB u->w.cell? ((⟨g,0,WC⟩:Addr).add j)=WB u:=λj u hj=>by
  rw[Addr.add_lit];simp only[Wm];rw[cell_of_row w g j cur e (0,0) G,<-hj,V2];have z:j<(cur.toList.take k).length:=by grind
  rw[Vz]at z;rw[IT Zi];simp
 have B:k+s.size<=maxLen:=by simp only[maxLen];omega
 refine⟨w.heap.size,_,_,Lib.run_append_grow_string (P:=P) w t u ty e i (.int .u8 0) I L M T ⟨g,0,WC⟩ k cap (cur.toList.take k) (by rw[r,Vz,Wg];omega) holds s Zi Zi (by rw[E];exact growslice_fits Zi Zi),
  ⟨O,O,O,Zm,λq hq _=>heap_alloc_old w.drew _ hq⟩,.inr O,grownCap_ge w (k+s.size) cap e,grownCap_le_maxLen w (k+s.size) cap e B,_,heap_alloc_new w.drew _,?_,?_⟩
 .have hge:=grownCap_ge w (k+s.size) cap e;have D:(Value.int IntKind.u8 0).cells.size=1:=rfl;simp only[Array.size_append,WQ,size_zeroCells,D,Lib.strCells_length,Vz,Wg];omega
 grind
theorem pB{w:World}{R:ew}(s:er):ZG w R (aF s.data.toList) (Lib.strCells s):=by
 unfold aF Lib.strCells;induction s.data.toList with
 |nil=>simp[ZG]
 |cons a l ih=>exact ZG.cons (by simp only[ZH]) ih
theorem BK{e:TypeId}{k id:Nat}{cs:na}{s:er}(id':Nat)(W:ZP C.P t e (.int .u8 0) 1 1)(Y:C.P.underlying t'=WB .string)(hs:σ.ev n x= .bz id 1 k)(ho:σ.ob id=WB (.bD e cs))(H:cs.length=k)
  (Z:σ.ev n y= .pv (.str s)) (hb:k+s.size<=1000000000) (U:0<k) (V:σ.av id'=YK):
  XJ C n ⟨dst,.call { callee:= .builtin .append,args:= #[x,y],argTypes:= #[t,t'] },ty,pos,after,gd⟩ σ ⟨.bz id' 1 (k+s.size),[(id',WB (.bD e (cs++aF s.data.toList))),(id,WC)],[id']⟩:=by
 rintro a w Q ⟨m,R,hw⟩;obtain⟨A0,c,hev,hkc,hcm,hz,hp⟩:=hw.bz hs;have B:cs≠[]:=λe=>by rw[e]at H;simp at H;omega
 have L:cs++aF s.data.toList≠[]:=λe=>B (List.append_eq_nil_iff.1 e).1
 have r:∀i x,upd m id WC i=WB x->m i=WB x/\i≠id:=λi x e=>by grind[aA,a7]
 obtain⟨b,N,hm,arr,hbk,hsz,hle,hr⟩:=hw.live ho (cQ B);obtain⟨rfl,hN⟩:=hp U b N hm;obtain⟨i,hi,hzz,hsize,hbytes⟩:=info_parts W.info;have z:=hw.hr.own id b N hm;have M:a.eval y= .string s:=hw.str Z;obtain⟨g,c',w',hrun,hgr,hat,hkc',hcm',cur',hg,hcs',htk⟩:=Rr (P:=C.P) w t t' ty e i W.u Y hi hzz hsize hbytes b c k arr hbk hkc hcm Zi s hb;have D:ZG w R (cs++aF s.data.toList) (arr.toList.take k++Lib.strCells s):=by
  rw[H]at hr;exact hr.append (pB s)
 have j:¬R g/\(∀i b' N',upd m id WC i=WB (b',N')->b'≠g)/\(C.F g\/C.w0.heap.size<=g):=by
  rcases hat with h|h
  .rw[h];exact⟨z.2.1,λi b' N' hi e=>(r i _ hi).2 (Lg hw (r i _ hi).1 hm e),z.2.2⟩
  refine⟨λX=>?_,λi b' N' hi e=>?_,.inr ?_⟩
  .have:=hw.hr.rsz _ X;omega
  .have:=(hw.hr.own i b' N' (r i _ hi).1).1;omega
  have:=hw.hr.frame.size;omega
 have E:¬R b/\(∀i b' N',upd m id WC i=WB (b',N')->b'≠b)/\(C.F b\/C.w0.heap.size<=b):=
  ⟨z.2.1,λi b' N' hi e=>(r i _ hi).2 (Lg hw (r i _ hi).1 hm e),z.2.2⟩
 unfold Oper.wp;have G:(execOp a.eval ⟨dst,.call { callee:= .builtin .append,args:= #[x,y],argTypes:= #[t,t'] },ty,pos,after,gd⟩).run C.P w= .ok (.value (.slice (WB ⟨g,0,WC⟩) (k+s.size) c')) w':=by
  unfold execOp;simp only[resolve,invoke,builtin,Sem.run_bind,Sem.run_pure,Result.andThen_ok,Yj,ed,Wd,hev,M,hrun]
 rw[G];have T:(arr.toList.take k++Lib.strCells s).length=k+s.size:=by grind
 have I:(cs++aF s.data.toList).length=k+s.size:=by rw[<-D.length,T]
 refine⟨_,O,upd (upd m id WC) id' (WB (g,cur'.size)),R,?_⟩;rw[Vu];refine SW.put ((hw.drop id).fresh V hg hgr (λq hq=>by simp at hq;subst hq;exact E) j.1 j.2.1 j.2.2 (.bD e (cs++aF s.data.toList)) ?_ (cQ L)) dst ?_
 .intro m' av' hR _ _;refine⟨cur',hg,O,by rw[I,hcs'];exact hkc',?_⟩;rw[I,htk];exact D.mono hR
 simp only[Rel];refine⟨by simp[avL],_,c',O,hkc',hcm',λh=>by omega,λ_ b' N' e'=>?_⟩;rw[aA]at e';cases e';exact⟨O,by rw[hcs',VY]⟩
theorem Ps{id sz k:Nat}{o:Ob}(r:σ.ev n x= .bz id sz k)(ho:σ.ob id=WB o)(s:0<k)(q:o.real=YK):
  XJ C n ⟨dst,.call { callee:= .builtin .unsafeSliceData,args:= #[x],argTypes:=ts },ty,pos,after,gd⟩ σ ⟨.ptr id 0,[],[]⟩:=
 .val λa w m R hw=>by
  obtain⟨A,c,he,hkc,_,_,hp⟩:=hw.bz r;obtain⟨b,N,hm,_⟩:=hw.live ho q;obtain⟨rfl,_⟩:=hp s b N hm;have j:=hw.ev x;rw[r]at j;simp only[Rel]at j;refine⟨.pointer (WB ⟨b,0,WC⟩),?_,?_⟩
  .simp only[execOp,resolve,invoke,builtin,Sem.run_bind,Sem.run_pure,Result.andThen_ok,Yj,ed,Wd,he,Lib.run_unsafeSliceData_row w ts ty ⟨b,0,WC⟩ k c Zi]
  grind[Rel]
theorem Bw{h:Array Obj}{b:Nat}{x:Obj}(f:Obj->Obj)(j:h[b]? =WB x)(q:f x=x):h.modify b f=h:=by
 apply Array.ext_getElem?;intro i;rw[YG];split
 .next e=>subst e;rw[j];simp[q]
 .rfl
theorem JP{w:World}{b k:Nat}{arr:YT}{e:TypeId}(q:w.heap[b]? =WB (.cells arr e (0,k)))(j:k≠0):w.freeze ⟨b,0,WC⟩ k=w:=by
 unfold World.freeze;rw[AS j,Bw _ q (by
  have:(0==k)=YL:=by simpa using λe:0=k=>j e.symm
  simp[this])]
theorem Pf{w:World}{b k:Nat}{arr:YT}{e:TypeId}(j:w.heap[b]? =WB (.cells arr e (0,0)))(q:k≠0):(w.freeze ⟨b,0,WC⟩ k).heap[b]? =WB (.cells arr e (0,k)):=by unfold World.freeze;rw[AS q];simp only[];rw[YG,IT O,j];simp
theorem Kg{w:World}{b k q:Nat}(h:q≠b):(w.freeze ⟨b,0,WC⟩ k).heap[q]? =w.heap[q]? :=by
 unfold World.freeze;split
 .rfl
 grind
theorem Mf(w:World)(a:Addr)(k:Nat):(w.freeze a k).heap.size=w.heap.size/\(w.freeze a k).os=w.os/\(w.freeze a k).tape=w.tape/\(w.freeze a k).output=w.output:=by
 unfold World.freeze;split
 .exact⟨O,O,O,O⟩
 exact⟨Zm,O,O,O⟩
theorem F7{w:World}{R:ew}{l:List UInt8}{us:e7}(h:ZG w R (aF l) us):us=l.map λc=> .int .u8 c.toNat:=by
 induction l generalizing us with
 |nil=>simp[aF,ZG]at h;simp[h]
 | cons c l ih=>
   simp only[aF,ed,ZG,ZH]at h;obtain⟨u,vs,rfl,rfl,h2⟩:=h;rw[ed,<-ih h2]
theorem OU{e it:TypeId}{id:Nat}{l:List UInt8}(M:C.P.underlying t=WB (.pointer e))(hc:C.P.cellsOf e=1)(T:σ.ev n x= .ptr id 0)(ho:σ.ob id=WB (.bD e (aF l)))(U:σ.ev n y= ZI l.length)(I:l≠[])(W:l.length<=1000000000):
  XJ C n ⟨dst,.call { callee:= .builtin .unsafeString,args:= #[x,y],argTypes:= #[t,it] },ty,pos,after,gd⟩ σ ⟨.pv (.str ⟨l.toArray⟩),[(id,WB (.fro e ⟨l.toArray⟩))],[]⟩:=by
 rintro a w Q ⟨m,R,hw⟩;have u:aF l≠[]:=by simpa[aF]using I
 obtain⟨b,N,he,hm,arr,hbk,hsz,hle,hr⟩:=hw.ptr T ho (cQ u);have B:(aF l).length=l.length:=by simp[aF]
 rw[B]at hle hr;have s:=F7 hr;have D:a.eval y= .int .i64 l.length:=hw.int U;have E:l.length≠0:=by simpa using I
 have q:∀j z,l[j]? =WB z->w.cell? ((⟨b,0,WC⟩:Addr).add j)=WB (.int .u8 z.toNat):=λj z hj=>by
  rw[Addr.add_lit];simp only[Wm];have L:(arr.toList.take l.length)[j]? =WB (.int .u8 z.toNat):=by rw[s,Xw,hj];rfl
  have G:j<l.length:=(VR.1 hj).1;rw[cell_of_row w b j arr e (0,0) hbk,<-L,V2,IT G];simp
 have H:=Lib.run_unsafeString_row (P:=C.P) w t it ty e M hc b arr.size (by simp[World.shape?,hbk]) l I Zi Zi q;unfold Oper.wp;have r:(execOp a.eval ⟨dst,.call { callee:= .builtin .unsafeString,args:= #[x,y],argTypes:= #[t,it] },ty,pos,after,gd⟩).run C.P w= .ok (.value (.string ⟨l.toArray⟩)) (w.freeze ⟨b,0,WC⟩ l.length):=by
  unfold execOp;simp only[resolve,invoke,builtin,Sem.run_bind,Sem.run_pure,Result.andThen_ok,Yj,ed,Wd,he,D,H]
 rw[r];obtain⟨q1,q2,q3,q4⟩:=Mf w ⟨b,0,WC⟩ l.length;refine⟨_,O,m,R,?_⟩;rw[Vu];refine SW.put (hw.turn hm (w.freeze ⟨b,0,WC⟩ l.length) q1 (λk hk=>Kg hk) q2 q3 q4 (.fro e ⟨l.toArray⟩) λV=>?_) dst ?_
 .refine⟨arr,?_,hsz,?_,?_⟩
  .rw[Pf hbk E];rfl
  .show l.toArray.size<=N;simp;omega
  show arr.toList.take l.toArray.size=_;simp[s]
 simp only[Rel,ZH]
noncomputable section
open Mk Jn
abbrev Z5(a:Nat):Nat×Ob:=(big,.mix 308 [.ptr big 0,.bz 9001 1 a])
end
theorem NH{e it:TypeId}{id:Nat}{s:er}{k:Int}(I:C.P.underlying t=WB (.pointer e))(hc:C.P.cellsOf e=1)(L:σ.ev n x= .ptr id 0)(ho:σ.ob id=WB (.fro e s))(M:σ.ev n y= ZI k)(T:k=s.data.toList.length)(E:s.data.toList≠[])(U:s.data.toList.length<=1000000000):
  XJ C n ⟨dst,.call { callee:= .builtin .unsafeString,args:= #[x,y],argTypes:= #[t,it] },ty,pos,after,gd⟩ σ ⟨.pv (.str s),[],[]⟩:=
 .val λa w m R hw=>by
  subst T;obtain⟨b,N,he,hm,arr,hbk,hsz,hle,htk⟩:=hw.ptr L ho;have u:s.size=s.data.toList.length:=by rw[Wg];rfl
  have B:a.eval y= .int .i64 s.data.toList.length:=hw.int M;have D:s.data.toList.length≠0:=λe=>E (XY.1 e)
  have q:∀j z,s.data.toList[j]? =WB z->w.cell? ((⟨b,0,WC⟩:Addr).add j)=WB (.int .u8 z.toNat):=λj z hj=>by
   rw[Addr.add_lit];simp only[Wm];have G:(arr.toList.take s.size)[j]? =WB (.int .u8 z.toNat):=by rw[htk,Xw,hj];rfl
   have H:j<s.data.toList.length:=(VR.1 hj).1;rw[cell_of_row w b j arr e (0,s.size) hbk,<-G,V2,IT Zi];simp
  have r:=Lib.run_unsafeString_row (P:=C.P) w t it ty e I hc b arr.size (by simp[World.shape?,hbk]) s.data.toList E Zi Zi q;rw[JP (by rw[<-u];exact hbk) D]at r;refine⟨.string s,?_,by simp only[Rel,ZH]⟩;unfold execOp;simp only[resolve,invoke,builtin,Sem.run_bind,Sem.run_pure,Result.andThen_ok,Yj,ed,Wd,he,B,r]
end
end
section
open Mk Jn
def ltS(a b:er):Prop:=a.data.toList<b.data.toList
instance (a b:er):Decidable (ltS a b):=inferInstanceAs (Decidable (_<_))
theorem n5(a:er):¬ltS a a:=List.lt_irrefl _
theorem rR{a b c:er}(j:ltS a b)(q:ltS b c):ltS a c:=List.lt_trans j q
theorem BG{a b:er}(j:¬ltS a b)(q:¬ltS b a):a=b:=GV (List.le_antisymm q j)
def leS(a b:er):Prop:=¬ltS b a
instance (a b:er):Decidable (leS a b):=inferInstanceAs (Decidable (¬_))
theorem zJ{a b c:er}(q:leS a b)(j:leS b c):leS a c:=λh=>by
 by_cases e:a=b
 .subst e;exact j h
 have hab:ltS a b:=V5 λk=>e (BG k q)
 exact j (rR h hab)
theorem KM(a b:er):leS a b\/leS b a:=by
 by_cases h:ltS b a
 .exact .inr λk=>n5 a (rR k h)
 exact .inl h
theorem Cz{a b:er}(j:leS a b)(q:leS b a):a=b:=BG q j
theorem UR{a b:er}(h:ltS a b):leS a b:=λk=>n5 a (rR h k)
def jc(l:hC):hC:=l.mergeSort λa b=>decide (leS a b)
theorem iJ(l:hC):(jc l).Perm l:=List.mergeSort_perm l _
theorem pJ(l:hC):(jc l).Pairwise leS:=by have:=List.pairwise_mergeSort (le:=λa b:er=>decide (leS a b)) (by intro a b c h1 h2;simp only[VJ]at *; exact zJ h1 h2) (by intro a b;simp only[Wr,VJ];exact KM a b) l;exact this.imp Zm
theorem L9{l r:hC}(j:l.Perm r)(hl:l.Pairwise leS):l=jc r:=
 (j.trans (iJ r).symm).eq_of_pairwise (λa b _ _ h1 h2=>Cz h1 h2) hl (pJ r)
abbrev eb:er:=⟨#[]⟩
def BH(q:hC)(i k:Nat):hC:=(q.set i (q.getD k eb)).set k (q.getD i eb)
theorem uA{q:hC}{i k p:Nat}(j:i<q.length)(r:k<q.length):(BH q i k).getD p eb=if p=k then q.getD i eb else if p=i then q.getD k eb else q.getD p eb:=by
 have s:q.getD i eb=q[i]:=by simp[List.getD,j]
 have u:q.getD k eb=q[k]:=by simp[List.getD,r]
 unfold BH;rw[s,u];by_cases h1:p=k
 .subst h1;simp[List.getD,r]
 rw[AS h1];by_cases h2:p=i
 .subst h2;simp only[List.getD,IT];rw[Xs (λe=>h1 e.symm)];simp[j]
 rw[AS h2];simp only[List.getD];rw[Xs (λe=>h1 e.symm),Xs (λe=>h2 e.symm)]
theorem DV{q:hC}{i k:Nat}(j:i<q.length)(r:k<q.length):BH q i k=(q.set i q[k]).set k q[i]:=by unfold BH;simp[List.getD,j,r]
theorem F0{q:hC}{i k:Nat}(j:i<q.length)(r:k<q.length):(BH q i k).Perm q:=by rw[DV j r];exact List.set_set_perm j r
def Mh(l:hC)(i j:Nat):Prop:=∀p q,p<q->q<=i->(p≠j->q≠j->leS (l.getD p eb) (l.getD q eb))/\(p=j->leS (l.getD p eb) (l.getD q eb))
def Uu(l:hC)(i:Nat):Prop:=∀p q,p<q->q<i->leS (l.getD p eb) (l.getD q eb)
theorem Mh.first{l:hC}{i:Nat}(h:Uu l i):Mh l i i:=λp q h1 h2=>⟨λ_ h4=>h p q h1 Zi,λe=>by omega⟩
theorem Mh.swap{l:hC}{i j:Nat}(h:Mh l i j)(z:0<j)(s:j<=i)(B:i<l.length)(r:ltS (l.getD j eb) (l.getD (j-1) eb)):Mh (BH l j (j-1)) i (j-1):=by
 intro p q h1 h2;rw[uA Zi Zi,uA Zi Zi];have u:=h p q h1 h2;have a2:=h (j-1) q;have a3:=h p (j-1);have a4:=h j q;have a5:=h p j;by_cases e1:p=j-1
 .rw[IT e1];refine⟨λh=>absurd e1 h,λ_=>?_⟩;by_cases e2:q=j-1
  .omega
  rw[AS e2];by_cases e3:q=j
  .rw[IT e3];exact UR r
  grind
 grind
theorem Mh.last{l:hC}{i j:Nat}(h:Mh l i j)(s:j<=i)(hs:j=0\/leS (l.getD (j-1) eb) (l.getD j eb)):Uu l (i+1):=by
 intro p q h1 h2;have r:=h p q h1 Zi;have a3:=h p (j-1);by_cases e1:p=j
 .exact r.2 e1
 grind[zJ]
theorem Uu.pw{l:hC}{i:Nat}(h:Uu l i)(j:l.length<=i):l.Pairwise leS:=by rw[Wz];intro p q hp hq hpq;have:=h p q hpq Zi;simpa[List.getD,hp,hq]using this
theorem Nc(a b:er):Op.bytesLess a.toList b.toList=decide (ltS a b):=by rw[nj,ByteArray.toList_eq,ByteArray.toList_eq];rfl
theorem l8(a:er):ZK prog 175 [.str a] (· = .bool YL):=by
 refine ZC func175 O ntmps175 λ_ _ _ _=>?_
 exact Z1 O<|Z4 O<|YR O<|ah PV.bool Zm
theorem FR(a b:er):ZK prog 327 [.str a,.str b] (· = .bool (decide (ltS a b))):=by
 refine ZC func327 O ntmps327 λ_ _ _ _=>?_
 have j:=Nc a b;refine Z1 O<|Z1 O<|Rs O (aa call175 (l8 a) O)<|A1 O ?_;apply Vx 4 7 11 [8,9,10] O Zs
 .intro hb2;exact A1 O<|Rg O (aa call175 (l8 b) O)<|Y2 O<|Vp Zr O O O
 .intro hb2;exact Ar 4 O<|Vp Zr O O O
 refine A1 O ?_;apply Vv 4 12 16 [13,14,15] O Zs
 .intro hb7;exact Ar 4 O<|Vp Zr O O O
 .intro hb7;exact Ar 4 O<|Vp Zr O O O
 exact A1 O<|YR O<|ah PV.bool (by rw[<-j];simp)
abbrev fS(l:hC):Ob:= .cells 9 (bj l)
theorem Iy(l:hC)(n:Nat)(hl:l.length=n)(X:n<=1000):ZS prog 321 1 0 [.bJ big 1 n,ZI 0,ZI n] [(big,fS l)] (λv ob'=>v= .bS []/\ob'=au [(big,fS (jc l))]):=by
 refine ZE func321 O ntmps321 λ_ _ _ _=>?_
 refine Z3 O<|Gz O (st:=λZq:Nat×hC=>([(0,WC),(1,WC),(2,WC),(6,WB (ZI Zq.1))],[(big,WB (fS Zq.2))])) 0
  (I:=λZq=>1<=Zq.1/\Zq.2.Perm l/\Uu Zq.2 Zq.1/\Zq.1<=n+1) (μ:=λZq=>n+1-Zq.1) (x0:=(1,l)) (YS O) (⟨BY _,WH _,λp q h1 h2=>by simp at h2;omega,Zm⟩) ?_
 rintro⟨i,q⟩ ⟨hi,hq,ha,hin⟩;try simp only at hi hq ha hin ⊢
 refine Z3 O<|Gp O (λL=>?_) (λL=>?_)
 .have hql:q.length=n:=by rw[hq.length_eq,hl]
  have U:i<n:=Zi;refine Vl<|Z2 O<|Gz O (st:=λu:Nat×hC=>([(0,WC),(1,WC),(2,WC),(6,WC),(7,WB (ZI u.1))],[(big,WB (fS u.2))])) 0
   (I:=λu=>u.1<=i/\u.2.Perm l/\Mh u.2 i u.1) (μ:=λu=>u.1) (x0:=(i,q)) (YS O) (⟨BY _,hq,Mh.first ha⟩) ?_
  rintro⟨j,s⟩ ⟨hj,hs,hI⟩;try simp only at hj hs hI ⊢
  have W:s.length=n:=by rw[hs.length_eq,hl]
  have z:j<s.length:=Zi;have D:=bD z;by_cases h:0<j
  .have hjl1:j-1<s.length:=Zi;have E:=bD hjl1;have G:s.getD j eb=s[j]:=by simp[List.getD,z]
   have H:s.getD (j-1) eb=s[j-1]:=by simp[List.getD,hjl1]
   refine VC 15 O<|Dr 2 O<|YM O (λτ h=>(aY (Ee h 0 O) (Ee h 1 O) O).cast (v':= .pv (.bool YK)) Zn)<|Dr 3 O<|Dg [_] O (λτ h=>ag j aao sz9 (Ee h 0 O) (Eo h 0 O) (Ee h 1 O) O Zi) O Zj<|Dg [_] O (λτ h=>aX ⟨_,aam,O⟩ (Ee h 0 O) (Eo h 0 O) D) O Zj<|Dr 3 O<|Dg [_] O (λτ h=>ag (j-1) aao sz9 (Ee h 0 O) (Eo h 0 O) (Ee h 1 O) Zi Zi) O Zj<|Dg [_] O (λτ h=>aX ⟨_,aam,O⟩ (Ee h 0 O) (Eo h 0 O) E) O Zj<|Dg [] O (λτ h=>aa call327 (FR s[j] s[j-1]) (h.aE O)) O Zj<|YM O (λτ h=>Pj (Ee h 0 O) (Ee h 1 O)) ⟨Zj,Gc O (λr=>?_) (λr=>?_)⟩
   .have hsw:ltS (s.getD j eb) (s.getD (j-1) eb):=by rw[G,H];exact Xh r
    have M:=F0 z hjl1;have T:=DV z hjl1;refine Vl<|VC 18 O<|Dr 8 O<|YQ [_] O (λτ h=>ag (j-1) aao sz9 (Ee h 0 O) (Eo h 0 O) (Ee h 1 O) Zi Zi)<|YQ [_] O (λτ h=>aX ⟨_,aam,O⟩ (Ee h 0 O) (Eo h 0 O) E)<|Dr 2 O<|YQ [_] O (λτ h=>ag j aao sz9 (Ee h 0 O) (Eo h 0 O) (Ee h 1 O) O Zi)<|YQ [_] O (λτ h=>aX ⟨_,aam,O⟩ (Ee h 0 O) (Eo h 0 O) D)<|YQ [_] O (λτ h=>ag j aao sz9 (Ee h 0 O) (Eo h 0 O) (Ee h 1 O) O Zi)<|DL.step (d:=WC) [_] O O O (λτ h=>ba sz9 (Ee h 0 O) (Eo h 0 O) (Ee h 1 O) O Zn) O Zj<|YQ [_] O (λτ h=>ag (j-1) aao sz9 (Ee h 0 O) (Eo h 0 O) (Ee h 1 O) Zi Zi)<|DL.step (d:=WC) [_] O O O (λτ h=>ba sz9 (Ee h 0 O) (Eo h 0 O) (Ee h 1 O) O Zn) O Zj ⟨Zj,Z3 O<|⟨(j-1,BH s j (j-1)),Vn ⟨O,O,O,O,ah (λi=>V.pv (PV.int .i64 i)) Zi,Zp⟩ ⟨ah (λc=>WB (Ob.cells 9 c)) (by rw[T];simp),Zp⟩ O O,⟨Zo,M.trans hs,hI.swap h hj Zi hsw⟩,Zo⟩⟩
   have B:j=0\/leS (s.getD (j-1) eb) (s.getD j eb):= .inr (by rw[G,H];exact Xx r);exact Gx O<|Z3 O<|⟨(i+1,s),YS O,⟨Zo,hs,hI.last hj B,Zo⟩,Zo⟩
  refine VC 15 O<|Dr 2 O<|YM O (λτ h=>(aY (Ee h 0 O) (Ee h 1 O) O).cast (v':= .pv (.bool YL)) Zn)<|Dr 11 O<|YM O (λτ h=>Oc (Ee h 0 O) (Ee h 2 O)) ⟨Zj,Gc O (λr=>absurd r (Bool.false_ne_true)) (λr=>?_)⟩;have B:j=0\/leS (s.getD (j-1) eb) (s.getD j eb):= .inl Zi;exact Gx O<|Z3 O<|⟨(i+1,s),YS O,⟨Zo,hs,hI.last hj B,Zo⟩,Zo⟩
 exact Gx O<|⟨[],[(big,fS (jc l))],[],Vn trivial ⟨ah (λc=>WB (Ob.cells 9 (bj c))) (L9 hq (ha.pw (by rw[hq.length_eq,hl];omega))),Zp⟩ O O,O,O,O,O,O⟩
theorem I8(l:hC)(n:Nat)(e:Int)(hl:l.length=n)(q:n<=12):ZS prog 297 1 0 [.bJ big 1 n,ZI 0,ZI n,ZI e] [(big,fS l)] (λv ob'=>v= .bS []/\ob'=au [(big,fS (jc l))]):=by
 refine ZE func297 O ntmps297 λ_ _ _ _=>?_
 refine Z1 O<|Z1 O<|Gz O (st:=λZq:Unit=>([(0,WC),(1,WC),(2,WC),(3,WC),(8,WC),(9,WC)],[(big,WC)])) 0
  (I:=λZq=>True) (μ:=λZq=>0) (x0:=(())) (YS O) (trivial) ?_
 rintro u hI;refine Z4 O<|Z2 O<|Gp O (λj=>?_) (λj=>absurd j (λh=>h Zi));refine Z3 O<|RL.call O (iD [big] 0 call321 (Iy l n hl Zi) O O O O ⟨O,Zp⟩ Zk O ?_);rintro _ _ ⟨rfl,rfl⟩;exact Gt O<|⟨[],[(big,fS (jc l))],[],Vn trivial (aO O) O O,O,O,O,O,O⟩
theorem Fj(l:hC)(n:Nat)(hl:l.length=n)(j:n<=12):ZS prog 265 1 0 [.bJ big 1 n] [(big,fS l)] (λv ob'=>v= .bS []/\ob'=au [(big,fS (jc l))]):=by
 refine ZE func265 O ntmps265 λ_ _ _ _=>?_
 have q:IntKind.u64.wrap (n:Int)=(n:Int):=by
  show((n:Int)%18446744073709551616)=n;omega
 refine Z3 O<|Z3 O<|Rs O ((eX aan underlying210 O).cast (v':= .pv (.int .u64 n)) (by rw[q]))<|RL.call O (cT call149 (Dy n j) O ?_);rintro _ ⟨e,rfl⟩;refine RL.call O (iD [big] 0 call297 (I8 l n e hl j) O O O O ⟨O,Zp⟩ Zk O ?_);rintro _ _ ⟨rfl,rfl⟩;exact⟨[],[(big,fS (jc l))],[],Vn trivial (aO O) O O,O,O,O,O,O⟩
theorem I1{a b:er}(h:(a.toList !=b.toList)=YL):a=b:=bytes_inj (by simpa using h)
theorem mg{α:Type}{l:List α}{k:Nat}{x:α}(h:k<l.length):(l.set k x).take (k+1)=l.take k++[x]:=by rw[AI (by simpa using h),List.take_set_of_le (BY _)];simp
theorem vL{α:Type}{P:List α->Prop}(j:P [])(q:∀l x,P l->P (l++[x]))(l:List α):P l:=by
 have:∀n (l:List α),l.length=n->P l:=by
  intro n;induction n with
  |zero=>intro l hl;rw[XY.1 hl];exact j
  | succ n ih=>
    intro l hl;have e:l=l.take n++[l[n]]:=by
     have:=AI (show n<l.length by omega);rw[aG Zi]at this;exact this
    rw[e];exact q _ _ (ih _ Zn)
 exact this _ l O
def Q7(out:hC)(x:er):hC:=if out.getLast? =WB x then out else out++[x]
def dB(l:hC):hC:=l.foldl Q7 []
theorem Ke(l:hC):(dB l).getLast? =l.getLast? :=by
 refine vL (P:=λl=>(dB l).getLast? =l.getLast?) O (λl x ih=>?_) l
 unfold dB;rw[XN];simp only[W5,List.foldl_nil,Q7];split
 .next h=>rw[h];simp
 simp
theorem nD(l:hC)(x:er):dB (l++[x])=if l.getLast? =WB x then dB l else dB l++[x]:=by rw[<-Ke];show List.foldl Q7 [] (l++[x])=_;rw[XN];rfl
theorem wi{l:hC}{y:er}:y∈dB l↔y∈l:=by
 refine vL (P:=λl=>y∈dB l↔y∈l) Iff.rfl (λl x ih=>?_) l
 rw[nD];split
 .next h=>
  rw[ih,We,VH];constructor
  .exact .inl
  rintro(h1|h1)
  .exact h1
  subst h1;exact List.mem_of_getLast? h
 rw[We,We,ih]
theorem xa(l:hC):(dB l).length<=l.length:=by refine vL (P:=λl=>(dB l).length<=l.length) (BY _) (λl x ih=>?_) l;rw[nD];split<;>simp<;>omega
theorem O8{l:hC}(h:l.Pairwise leS):(dB l).Pairwise ltS:=by
 revert h
 refine vL (P:=λl=>l.Pairwise leS->(dB l).Pairwise ltS) (λ_=>List.Pairwise.nil) (λl x ih h=>?_) l
 rw[List.pairwise_append]at h;rw[nD];split
 .exact ih h.1
 next hne=>
 rw[List.pairwise_append];refine⟨ih h.1,List.pairwise_singleton _ _,λa ha b hb=>?_⟩;rw[VH]at hb;subst hb;have q:=h.2.2 a (wi.1 ha) b Zm;refine V5 λu=>hne ?_
 have r:=BG u q;subst r;have j:=wi.1 ha;cases hl:l.getLast? with
 |none=>rw[List.getLast?_eq_none_iff]at hl;subst hl;simp at j
 | some z=>
   obtain⟨pre,rfl⟩:=List.getLast?_eq_some_iff.1 hl;have s:leS z a:=h.2.2 z Zm a Zm;rcases We.1 j with h1|h1
   .have haz:=(List.pairwise_append.1 h.1).2.2 a h1 z Zm;rw[Cz haz s]
   rw[VH.1 h1]
theorem EX{l:hC}(h:l.Pairwise leS):(dB l).Nodup:=
 (O8 h).imp fun{a b} hab e=>by subst e;exact n5 _ hab
theorem KC{l:hC}{k:Nat}(q:0<k)(h:k<=l.length):(l.take k).getLast? =WB (l[k-1]'Zi):=by obtain⟨j,rfl⟩:∃j,k=j+1:=⟨k-1,Zi⟩;rw[AI Zi];simp only[List.getLast?_append,List.getLast?_singleton,Option.some_or,Nat.add_sub_cancel]
theorem zF{l:hC}{k:Nat}(j:0<k)(h:k<l.length):dB (l.take (k+1))=if l[k-1]'Zi=l[k]then dB (l.take k)else dB (l.take k)++[l[k]]:=by
 rw[AI h,nD,KC j Zi];by_cases e:l[k-1]'Zi=l[k]
 .rw[IT e,IT (by rw[e])]
 rw[AS e,AS (λh=>e (Xl h))]
theorem Cl(l:hC)(h:l.length<2):dB l=l:=by
 match l,h with
 |[],_=>rfl
 |[x],_=>rfl
theorem x9(l:hC)(n:Nat)(hl:l.length=n)(hn:n<=1000):ZS prog 266 1 0 [.bJ big 1 n] [(big,fS l)] (λv ob'=>v= .bJ big 1 (dB l).length/\ob'=au [(big,fS (dB l))]):=by
 refine ZE func266 O ntmps266 λ_ _ _ _=>?_
 refine Z1 O<|Z3 O<|Gp O (λaa=>?_) (λaa=>?_)
 .have hc1:=Cl l Zi;exact Z2 O<|Gt O<|⟨[(2,.bJ big 1 n)],[(big,fS l)],[.bJ big 1 n],YS O,O,O,O,by rw[hc1,hl];rfl,by rw[hc1]⟩
 refine Vl<|Z1 O ?_;refine Gz O (st:=λZq:Nat=>([(0,WC),(3,WB (ZI Zq))],[(big,WC)])) 0
  (I:=λZq=>(1<=Zq/\Zq<=n)/\dB (l.take Zq)=l.take Zq) (μ:=λZq=>n-Zq) (x0:=1) (Vn (aS O) (aO Zj) O O) (⟨⟨BY _,Zi⟩,Cl _ Zn⟩) ?_
 rintro k ⟨⟨hk1,hkn⟩,hck⟩;refine Z4 O<|Gp O (λT=>?_) (λT=>?_)
 .have hlt:k<l.length:=Zi;have E:k-1<l.length:=Zi;have V:=bD hlt;have W:=bD E;have B:=zF hk1 hlt;refine Vl<|VC 10 O<|Dr 2 O<|YQ [_] O (λτ h=>ag k aao sz9 (Ee h 0 O) (Eo h 0 O) (Ee h 1 O) O Zi)<|YQ [_] O (λτ h=>aX ⟨_,aam,O⟩ (Ee h 0 O) (Eo h 0 O) V)<|Dr 3 O<|YQ [_] O (λτ h=>ag (k-1) aao sz9 (Ee h 0 O) (Eo h 0 O) (Ee h 1 O) Zi Zi)<|YQ [_] O (λτ h=>aX ⟨_,aam,O⟩ (Ee h 0 O) (Eo h 0 O) W)<|D1 O O ⟨Zj,Gc O (λu=>?_) (λu=>?_)⟩
  .have heq:l[k-1]=l[k]:=(baT u).symm;rw[IT heq,hck]at B;refine Z2 O<|Rs O (gw k aao sz9 O O O O Zi)<|A1 O<|Z1 O<|Gz O (st:=λj:Nat×Nat×hC=>([(0,WC),(3,WB (ZI j.2.1)),(4,WC),(5,WB (ZI j.1))],[(big,WB (fS j.2.2))])) 0
    (I:=λj=>((1<=j.1/\j.1<=n-k)/\(j.2.1<=k+j.1-1/\j.2.2.length=n))/\(j.2.2.drop (k+j.1-1)=l.drop (k+j.1-1)/\j.2.2.take j.2.1=dB (l.take (k+j.1))/\j.2.1=(dB (l.take (k+j.1))).length)) (μ:=λj=>n-k-j.1) (x0:=(1,k,l)) (Vn (aS O) (aO Zj) O O) (⟨⟨⟨BY _,Zo⟩,Zo,hl⟩,O,B.symm,by simp only;rw[B,Vz];omega⟩) ?_
   rintro⟨i,k2,q⟩ ⟨⟨⟨hi1,hin⟩,hk2,hql⟩,hqd,hqt,hk2e⟩;try simp only at hi1 hin hk2 hql hqd hqt hk2e ⊢
   refine Z2 O<|Rs O (RE aao O)<|A1 O<|Gp O (λU=>?_) (λU=>?_)
   .have hpl:k+i<l.length:=Zi;have G:k+i-1<l.length:=Zi;have X:q[k+i]'Zi=l[k+i]:=by have:=ah (λz=>z[1]?) hqd;simp only[WM]at this;rw[show k+i-1+1=k+i by omega,AT Zi,AT hpl]at this;exact Xl this
    have Y:q[k+i-1]'Zi=l[k+i-1]:=by have:=ah (λz=>z[0]?) hqd;simp only[WM]at this;rw[show k+i-1+0=k+i-1 by omega,AT Zi,AT G]at this;exact Xl this
    have H:(bj q)[k*1+i*1]? =WB (.str l[k+i]):=by rw[VY,VY,Xw,AT Zi,X];rfl
    have Z:(bj q)[k*1+(i-1)*1]? =WB (.str l[k+i-1]):=by rw[VY,VY,show k+(i-1)=k+i-1 by omega,Xw,AT Zi,Y];rfl
    have r:=zF (l:=l) (k:=k+i) Zi hpl;have D:q.drop (k+i)=l.drop (k+i):=by have:=ah (λz=>z.drop 1) hqd;simp only[List.drop_drop]at this;rwa [show k+i-1+1=k+i by omega]at this
    have L:(bj q).length=n:=by rw[IS,hql]
    refine Vl<|VC 10 O<|Dr 2 O<|YQ [_] O (λτ h=>jd i aao sz9 (Ee h 0 O) (Eo h 0 O) (Ee h 1 O) O Zi)<|YQ [_] O (λτ h=>aX ⟨_,aam,O⟩ (Ee h 0 O) (Eo h 0 O) H)<|Dr 3 O<|YQ [_] O (λτ h=>jd (i-1) aao sz9 (Ee h 0 O) (Eo h 0 O) (Ee h 1 O) Zi Zi)<|YQ [_] O (λτ h=>aX ⟨_,aam,O⟩ (Ee h 0 O) (Eo h 0 O) Z)<|D1 O O ⟨Zj,Gc O (λs=>?_) (λs=>?_)⟩
    .have hne:¬l[k+i-1]=l[k+i]:=λe=>by rw[e]at s;simp at s
     rw[AS hne]at r;exact Z4 O<|Rs O (jd i aao sz9 O O O O Zi)<|Rs O (aX ⟨_,aam,O⟩ O O H)<|Rs O (ag k2 aao sz9 O O O O Zi)<|RL.step (d:=WC) O O (ba sz9 O O O O Zi)<|Z3 O<|Z3 O<|⟨(i+1,k2+1,q.set k2 l[k+i]),Vn (aS O) ⟨ah (λc=>WB (Ob.cells 9 c)) (vT l[k+i]),Zp⟩ O O,⟨⟨⟨Zo,Zo⟩,Zo,by simp only[VN];exact hql⟩,by simp only;rw[show k+(i+1)-1=k+i by omega,List.drop_set_of_lt Zi];exact D,by simp only;rw[show k+(i+1)=k+i+1 by omega,r,<-hqt];exact mg Zi,by simp only;rw[show k+(i+1)=k+i+1 by omega,r,Hb,<-hk2e];rfl⟩,Zo⟩
    exact Vl<|Z3 O<|⟨(i+1,k2,q),Vn (aS O) (aO Zj) O O,⟨⟨⟨Zo,Zo⟩,Zo,hql⟩,by simp only;rw[show k+(i+1)-1=k+i by omega];exact D,by simp only;rw[show k+(i+1)=k+i+1 by omega,r,IT (I1 s).symm];exact hqt,by simp only;rw[show k+(i+1)=k+i+1 by omega,r,IT (I1 s).symm];exact hk2e⟩,Zo⟩
   have hie:k+i=n:=Zi;rw[show l.take (k+i)=l from aG Zi]at hqt hk2e;have L:(bj q).length=n:=by rw[IS,hql]
   have ab:=xa l;have M:(bj q).take (k2*1)=bj (dB l):=by rw[VY,<-Zd,hqt]
   exact Gx O<|Z2 O<|Rs O (gw k2 aao sz9 O O O O Zi)<|RL.step (d:=WC) O O (zD Qu O O O Zi)<|Z2 O<|Rs O (gj k2 aao sz9 O O O O Zi)<|A1 O<|Gt O<|⟨[(2,.bJ big 1 k2)],[(big,fS (dB l))],[.bJ big 1 k2],Vn (aS O) ⟨ah (λc=>WB (Ob.cells 9 c)) M,Zp⟩ O O,O,O,O,by rw[hk2e];rfl,O⟩
  have hne:¬l[k-1]=l[k]:=λe=>by rw[e]at u;simp at u
  rw[AS hne,hck]at B;exact Vl<|Z3 O<|⟨(k+1),Vn (aS O) (aO Zj) O O,⟨⟨Zi,Zi⟩,by rw[B,AI hlt]⟩,Zi⟩
 rw[aG Zi]at hck;exact Gx O<|Z2 O<|Gt O<|⟨[(2,.bJ big 1 n)],[(big,fS l)],[.bJ big 1 n],YS O,O,O,O,by rw[hck,hl];rfl,by rw[hck]⟩
theorem L5{J:JD}(j:JOk J)(r:Nat):∀x∈bW J r,x.v.length=(o9 J r).length:=by
 intro x hx;by_cases h:r<J.T.length
 .have h2:r<J.S.aU.length:=by rw[<-j.n];exact h
  rw[show bW J r=J.T[r] by simp[bW,List.getD,h]]at hx;rw[j.v r h h2 x hx];simp[o9,List.getD,h2]
 rw[show bW J r=[] by simp[bW,List.getD,WT (by omega:J.T.length<=r)]]at hx;simp at hx
def sdS(l:hC):hC:=dB (jc l)
theorem zU(l:hC):(sdS l).Nodup:=EX (pJ l)
theorem vn(l:hC)(x:er):x∈sdS l↔x∈l:=by unfold sdS;rw[wi,(iJ l).mem_iff]
theorem GX:sdS []=[]:=List.eq_nil_iff_forall_not_mem.2 λx hx=>by rw[vn]at hx;simp at hx
def PD(J:JD)(f a:Nat)(σ:vb):hC:=((bW J f).filter λx=>agr (o9 J f) σ x.v).map λx=>x.v.getD ((o9 J f).idxOf (a:Int)) eb
def KZ(J:JD)(a:Nat)(σ:vb):hC:=match cw (RJ J) (a:Int)with
 |[]=>[]
 |f::_=>sdS (PD J f a σ)
def F6(J:JD)(a k:Nat):ee:=(List.range k).filter λr=>decide ((a:Int)∈(RJ J).at r)
theorem E2(J:JD)(a:Nat):F6 J a J.S.aU.length=cw (RJ J) (a:Int):=by unfold F6 cw;rw[show(RJ J).A.length=J.S.aU.length by simp[RJ]]
theorem EN(J:JD)(a:Nat){k:Nat}(h:k<J.S.aU.length):F6 J a (k+1)=F6 J a k++if(a:Int)∈J.S.aU[k].2 then [k]else []:=by
 unfold F6;rw[XC,Xc];have e:(RJ J).at k=J.S.aU[k].2:=by rw[tc];simp[o9,List.getD,h]
 by_cases hm:(a:Int)∈J.S.aU[k].2
 .simp[WL,e,hm]
 simp[WL,e,hm]
theorem zh(J:JD)(a:Nat)(r:Nat)(h:r∈cw (RJ J) (a:Int)):r<J.S.aU.length/\(a:Int)∈o9 J r:=by have j:=VU.1 h;refine⟨by have:=Wi.1 j.1;simpa[RJ]using this,?_⟩;rw[<-tc];simpa using j.2
theorem tI{α β:Type}{f g:α->Option β}:∀{l:List α},(∀x∈l,f x=g x)->l.filterMap f=l.filterMap g
 |[],_=>rfl
 | x::l,h=>by
   rw[List.filterMap_cons,List.filterMap_cons,h x Zm,tI λy hy=>h y (by simp[hy])]
theorem KV(J:JD)(a:Nat)(σ:vb)(E:σ (a:Int)=WC){f:Nat}{rest:ee}(r:cw (RJ J) (a:Int)=f::rest)(D:∀x∈bW J f,x.v.length=(o9 J f).length):cA (RJ J) sdS (a:Int) σ=(sdS (PD J f a σ)).filter λx=> !sT J (cw (RJ J) (a:Int)) σ a x:=by
 unfold cA;rw[r];simp only;have s:lI σ (a:Int)=σ:=by funext b;unfold lI;split<;>simp_all
 have u:(a:Int)∈o9 J f:=(zh J a f (by rw[r];simp)).2;have z:=XH u;have B:(((RJ J).rows f).filter (agr ((RJ J).at f) (lI σ a))).filterMap (λq=>q[((RJ J).at f).idxOf (a:Int)]?)=PD J f a σ:=by
  rw[s,eD,tc,List.filter_map,List.filterMap_map];unfold PD;rw[<-List.filterMap_eq_map];refine tI λx hx=>?_
  have j:=D x (VU.1 hx).1;simp only[Function.comp_apply];rw[AT Zi];simp[List.getD,j,z]
 rw[B];refine YW λx _=>?_
 unfold sT;rw[V0,IN];simp
theorem Mi{l:cP}{x:Int}{k:Nat}(h:k<l.length)(s:l[k]=x)(q:∀j (h:j<l.length),j<k->l[j]≠x):l.idxOf x=k:=by
 have u:x∈l:=s▸ak h;have r:=XH u;have z:l[l.idxOf x]=x:=List.getElem_idxOf r;rcases Nat.lt_trichotomy (l.idxOf x) k with c|c|c
 .exact absurd z (q _ r c)
 .exact c
 exact absurd s (by
  have:=List.not_of_lt_findIdx (p:=(· ==x)) (xs:=l) (i:=k) c;simpa using this)
theorem Ip(l:cP)(x:Int)(hl:l.length<=1000000)(z:x∈l):ZK prog 252 [al l,ZU x] (· = ZU ((l.idxOf x:Nat):Int)):=by
 refine ZC func252 O ntmps252 λ_ _ _ _=>?_
 refine Z1 O<|Z3 O<|Gz O (st:=λZq:Nat=>((ZZ Zq),[])) 0
  (I:=λZq=>Zq<=l.length/\∀j (h:j<l.length),j<Zq->l[j]≠x) (μ:=λZq=>l.length-Zq) (x0:=0) (Vn (aS O) trivial O O) (⟨sh _,λ_ _ h=>absurd h Zi⟩) ?_
 rintro k ⟨hk,hno⟩;refine Z1 O<|Gp O (λr=>?_) (λr=>?_)
 .have hlt:k<l.length:=Zi;have B:=bo hlt;have s:=aU hlt;refine Vl<|Z2 O<|Z4 O<|A2 O Zl ?_;refine A1 O ?_;refine Gc O (λq=>?_) (λq=>?_)
  .exact Z2 O<|YR O<|by rw[Mi hlt (eq_of_beq q).symm hno];rfl
  exact Vl<|Z2 O<|⟨(k+1),Vn (aS O) trivial O O,⟨Zi,λj h hj=>by rcases V3.1 hj with h1|h1;exact hno j h h1;subst h1;intro e;rw[e]at q;simp at q⟩,Zi⟩
 exact absurd z (λu=>by obtain⟨j,h,e⟩:=WR.1 u;exact hno j h Zi e)
 done
theorem HW:ZK prog 321 [bh [],ZU 0,ZU 0] (· = .bS []):=by
 refine ZC func321 O ntmps321 λ_ _ _ _=>?_
 refine Z3 O<|Gz O (st:=λZq:Unit=>([(0,WC),(1,WC),(2,WC),(6,WC)],[])) 0
  (I:=λZq=>True) (μ:=λZq=>0) (x0:=(())) (Vn (aS O) trivial O O) (trivial) ?_
 rintro u hI;refine Z3 O<|Gp O (λj=>absurd j Zi) (λj=>?_);exact Gx O<|⟨_,_,O,O,O⟩
theorem Ja(e:Int):ZK prog 297 [bh [],ZU 0,ZU 0,ZU e] (· = .bS []):=by
 refine ZC func297 O ntmps297 λ_ _ _ _=>?_
 refine Z1 O<|Z1 O<|Gz O (st:=λZq:Unit=>([(0,WC),(1,WC),(2,WC),(3,WC),(8,WC),(9,WC)],[])) 0
  (I:=λZq=>True) (μ:=λZq=>0) (x0:=(())) (Vn (aS O) trivial O O) (trivial) ?_
 rintro u hI;refine Z4 O<|Z2 O<|Gp O (λj=>?_) (λj=>absurd j (λh=>h Zi));exact Z3 O<|Rs O (aa call321 HW O)<|YR O O
theorem F4:ZK prog 265 [bh []] (· = .bS []):=by
 refine ZC func265 O ntmps265 λ_ _ _ _=>?_
 refine Z3 O<|Z3 O<|Rs O ((eX aan underlying210 O).cast (v':= .pv (.int .u64 (0:Nat))) O)<|RL.call O (cT call149 (Dy 0 Zk) O ?_);rintro _ ⟨e,rfl⟩;exact Rs O (aa call297 (Ja e) O)<|⟨_,_,O,O,O⟩
theorem wx:ZK prog 266 [bh []] (· =bh []):=by
 refine ZC func266 O ntmps266 λ_ _ _ _=>?_
 refine Z1 O<|Z3 O<|Gp O (λj=>?_) (λj=>absurd j (λh=>h (by show((0:Nat):Int)<2;omega)));exact Z2 O<|YR O O
end
section
theorem Co:∃j,prog.info? 308=WB j/\j.size≠0:=by obtain⟨j,hj,hs⟩:=X3.1 (show(prog.info? 308).map (·.size)=WB 2 by kernel_rfl);exact⟨j,hj,by rw[hs];decide⟩
theorem DW(k:Nat)(cs:na):ZS prog 263 2 0 [.ptr big 0] [(big,.mix 308 [.pv .nilptr,.bz 9001 1 k]),(9001,.bD 5 cs)] (λv ob'=>v= .bS []/\ob'=au [(Z5 k),(9001,.bD 5 cs)]):=by
 refine ZE func263 O ntmps263 λ_ _ _ _=>?_
 obtain⟨j,hj,hj0⟩:=Co;refine Z4 O<|Rs O (E6 underlying306 O)<|Gc O (λq=>?_) (λq=>absurd q Zm);exact Z2 O<|Rs O (Mr underlying306 underlying370 hj hj0 O O Zm)<|Rs O (M7 func296 Zj Zj Zj Zj O)<|Rs O (Ng (dp:=_) underlying370 underlying306 hj O Zj O O Zm)<|Y3 O<|⟨[],[(Z5 k),(9001,.bD 5 cs)],[],Vn trivial (aO O) O O,O,O,O,O,O⟩
theorem Nj(k:Nat)(cs:na):ZS prog 263 2 0 [.ptr big 0] [(Z5 k),(9001,.bD 5 cs)] (λv ob'=>v= .bS []/\ob'=au [(Z5 k),(9001,.bD 5 cs)]):=by
 refine ZE func263 O ntmps263 λ_ _ _ _=>?_
 obtain⟨j,hj,hj0⟩:=Co;refine Z4 O<|Rs O (FB underlying306 O O)<|Gc O (λr=>absurd r Zm) (λr=>?_);refine Gr O<|Ar 5 O<|Rs O (EK underlying306 hj O O O)<|Gc O (λq=>absurd q Zm) (λq=>?_);exact Vl<|⟨[],[(Z5 k),(9001,.bD 5 cs)],[],Vn trivial (aO O) O O,O,O,O,O,O⟩
theorem Fc(c:UInt8):ZS prog 221 2 2 [.ptr big 0,.pv (.int .u8 (c.toNat:Int))] [(big,.mix 308 [.pv .nilptr,.bz 9001 1 0]),(9001,.bD 5 [])] (λv ob'=>v= .pv .niliface/\ob'=au [(big,.mix 308 [.ptr big 0,.bz 1 1 1]),(1,.bD 5 (aF [c]))]):=by
 refine ZE func221 O ntmps221 λ_ _ _ _=>?_
 have j:=DW 0 [];exact Z1 O<|Z1 O<|Rs O (az [big,9001] 0 call263 j O O O O ⟨O,O,Zp⟩ Zk O)<|Gr O<|Ar 11 O<|Z1 O<|Gt O<|⟨[(4,.pv .niliface)],[(big,.mix 308 [.ptr big 0,.bz 1 1 1]),(1,.bD 5 (aF [c]))],[.pv .niliface],Vn (aS O) (aO Zj) O O,O,O,O,O,O⟩
theorem y9(l:List UInt8)(s:er)(B:l≠[])(D:l.length+s.size<=1000000000):ZS prog 222 2 1 [.ptr big 0,.pv (.str s)] [(big,.mix 308 [.ptr big 0,.bz 9001 1 l.length]),(9001,.bD 5 (aF l))] (λv ob'=>v= .bS [ZI s.size,.pv .niliface]/\ob'=au [(big,.mix 308 [.ptr big 0,.bz 0 1 (l++s.data.toList).length]),(0,.bD 5 (aF (l++s.data.toList)))]):=by
 refine ZE func222 O ntmps222 λ_ _ _ _=>?_
 have j:=Nj l.length (aF l);have q:(aF l).length=l.length:=by simp[aF]
 have r:=Ww.2 B;have u:(l++s.data.toList).length=l.length+s.size:=by rw[Hb,Wg];rfl
 have z:aF (l++s.data.toList)=aF l++aF s.data.toList:=by simp[aF]
 exact Z2 O<|Z1 O<|Rs O (az [big,9001] 0 call263 j O O O O ⟨O,O,Zp⟩ Zk O)<|Gr O<|Ar 6 O<|Rs O (BK 0 Sh aam O O q O D r O)<|Y3 O<|Z4 O<|Gt O<|⟨[(4,ZI s.size),(5,.pv .niliface)],[(big,.mix 308 [.ptr big 0,.bz 0 1 (l.length+s.size)]),(0,.bD 5 (aF l++aF s.data.toList))],[ZI s.size,.pv .niliface],Vn (aS O) (aO Zj) O O,O,O,O,O,by rw[u,z]⟩
theorem qH(l:List UInt8)(r:l≠[])(s:l.length<=1000000000):ZS prog 223 2 0 [.ptr big 0] [(big,.mix 308 [.ptr big 0,.bz 9001 1 l.length]),(9001,.bD 5 (aF l))] (λv ob'=>v= .pv (.str ⟨l.toArray⟩)/\ob'=au [(big,.mix 308 [.ptr big 0,.bz 9001 1 l.length]),(9001,.fro 5 ⟨l.toArray⟩)]):=by
 refine ZE func223 O ntmps223 λ_ _ _ _=>?_
 have j:=Ww.2 r;have q:(Ob.bD 5 (aF l)).real=YK:=cQ (by simpa[aF]using r);refine Z1 O<|VC 12 O<|Dr 4 O<|YQ [_] O (λτ h=>Ps (Ee h 0 O) (Eo h 0 O) j q)<|Dr 5 O<|YQ [_] O (λτ h=>OU underlying345 Zj (Ee h 0 O) (Eo h 0 O) (Ee h 1 O) r s)<|D1 O O ⟨Zj,Gt O<|⟨[(2,.pv (.str ⟨l.toArray⟩))],[(big,.mix 308 [.ptr big 0,.bz 9001 1 l.length]),(9001,.fro 5 ⟨l.toArray⟩)],[.pv (.str ⟨l.toArray⟩)],Vn (aS O) (aO Zj) O O,O,O,O,O,O⟩⟩
theorem Ga(k:Nat)(s:er)(q:s.data.toList≠[])(r:k=s.data.toList.length)(u:k<=1000000000):ZS prog 223 2 0 [.ptr big 0] [(Z5 k),(9001,.fro 5 s)] (λv ob'=>v= .pv (.str s)/\ob'=au [(Z5 k),(9001,.fro 5 s)]):=by
 refine ZE func223 O ntmps223 λ_ _ _ _=>?_
 have j:0<k:=by rw[r];exact Ww.2 q
 refine Z1 O<|VC 12 O<|Dr 4 O<|YQ [_] O (λτ h=>Ps (Ee h 0 O) (Eo h 0 O) j O)<|Dr 5 O<|YQ [_] O (λτ h=>NH underlying345 Zj (Ee h 0 O) (Eo h 0 O) (Ee h 1 O) (ah (λn:Nat=>(n:Int)) r) q Zi)<|D1 O O ⟨Zj,Gt O<|⟨[(2,.pv (.str s))],[(Z5 k),(9001,.fro 5 s)],[.pv (.str s)],Vn (aS O) (aO Zj) O O,O,O,O,O,O⟩⟩
end
end Go.Proofs.YthicoeegbdboeaaGreatDoor
