/- Lemmas. No condition. -/
import Derived.Lib.Builder
import Derived.Lib.UnsafeStr
import Derived.Lib.AppendStr
import Derived.Laws.Externs
import Derived.Laws.Pointers
import Derived.Lib.Walk
import Derived.Lib.ItoaMem
import Derived.WalkKit
import Derived.BigCall
import Derived.BigGuard
import Derived.Laws.StructEq
import Derived.Tactics
import Derived.Tactics2
import Derived.Test.YtoplpepiabedhaaGreatDoorJB7
set_option maxRecDepth 100000
set_option maxHeartbeats 4000000
open Go.RowKit Go.Proofs.Tryz
namespace Go.Proofs.YtoplpepiabedhaaGreatDoor
section
open Mk Jn
def Jx:List ByteArray:=[⟨#[114,101,100]⟩,⟨#[103,114,101,101,110]⟩,⟨#[98,108,117,101]⟩]
def sV:List ByteArray:=[⟨#[49]⟩,⟨#[50]⟩,⟨#[49,48]⟩]
def AQ:List ByteArray:=[⟨#[48]⟩,⟨#[49]⟩,⟨#[45,50]⟩,⟨#[49,47,50]⟩,⟨#[51]⟩,⟨#[53,47,51]⟩,⟨#[49]⟩,⟨#[50]⟩]
def gM(kd:Int):List ByteArray:=⟨#[]⟩::(if kd=3 then Jx else if kd=1 then sV else AQ)
def Kw(c:Nat)(kd:Int):ByteArray:=if c=8 then⟨#[]⟩else if kd=3 then Jx.getD (c%3) ⟨#[]⟩else if kd=1 then sV.getD (c%3) ⟨#[]⟩else AQ.getD c ⟨#[]⟩
theorem iO{l:List ByteArray}{j:Nat}(h:j<l.length):l.getD j ⟨#[]⟩=l[j]/\l[j]∈l:=⟨by simp[List.getD,h],ar h⟩
theorem H0{c:Nat}(kd:Int)(h:c<9):Kw c kd∈gM kd:=by
 unfold Kw gM;by_cases h8:c=8
 ·rw[AT h8];simp
 ·rw[dw h8];refine PH _ ?_;by_cases h3:kd=3
  ·rw[AT h3,AT h3];have:=iO (l:=Jx) (j:=c%3) (Rb _ Tu);rw[this.1];exact this.2
  ·rw[dw h3,dw h3];by_cases h1:kd=1
   ·rw[AT h1,AT h1];have:=iO (l:=sV) (j:=c%3) (Rb _ Tu);rw[this.1];exact this.2
   ·rw[dw h1,dw h1];have:=iO (l:=AQ) (j:=c) (by have e:AQ.length=8:=rfl;omega);rw[this.1];exact this.2
theorem zO(L:List Int)(k:Nat)(hL:L.length<=600)(hk:k<=L.length)(nm:ByteArray)(kd:Int):
  FnM prog 170 91 (gx L k) [.agg [.str nm,.int .i64 kd]] (fun v c=>v= .str (Kw (sNv L k 9).toNat kd)/\c=gx L (sNk L k)):=by
 refine FnM.of func170 O ntmps170 Tw O Tw fun m0 w0 F R0=>?_
 have hn:=fk L k 9 hL hk Tu Tu;have hb:=gY L k 9 Tu;obtain⟨c,hc⟩:=Bb hb.1;have hc9:c<9:=Ts;rw[hc]at hn;rw[hc,Pz];refine Z2 O O O<|Z1 O O<|Rs 7 O O (bN call12 hn O O)<|A1 O<|Z3 O O O O ?_;refine Gc O O (fun hc8=>?_) (fun hc8=>?_)
 ·have h8:c=8:=by have h:(c:Int)=8:=(by simpa using hc8);omega
  exact Z1 O O<|Gt O<|⟨_,gx L (sNk L k),O,O,ag PV.str (by rw[Kw,AT h8]),O⟩
 ·have h8:¬c=8:=by have h:¬ (c:Int)=8:=(by simpa using hc8);omega
  refine Z4 O O O O O ?_;refine Gc O O (fun hc11=>?_) (fun hc11=>?_)
  ·have h3:kd=3:=by simpa using hc11
   have hlt:c%3<Jx.length:=Rb _ Tu;have hv:=bz hlt;have hne:=bA hlt;exact Gr O<|Rs 15 O O (ak (vs:=Jx.map fun x=> .pv (.str x)) (cs:=bO Jx) none Tw zX O Tu Tu Tt Tt)<|A1 O<|Rs 17 O O (XJ.cast (v':= pIi ((c%3:Nat):Int)) (tv O O Tu) O)<|Rs 18 O O (ae (c%3) underlying39 sz9 O O O hlt hne)<|Rs 19 O O (au ⟨_,underlying9,O⟩ O hv)<|A1 O<|Gt O<|⟨_,gx L (sNk L k),O,O,ag PV.str (by rw[Kw,dw h8,AT h3,(iO hlt).1]),O⟩
  ·have h3:¬kd=3:=by simpa using hc11
   refine Z4 O O O O O ?_;refine Gc O O (fun hc20=>?_) (fun hc20=>?_)
   ·have h1:kd=1:=by simpa using hc20
    have hlt:c%3<sV.length:=Rb _ Tu;have hv:=bz hlt;have hne:=bA hlt;exact Gr O<|Rs 24 O O (ak (vs:=sV.map fun x=> .pv (.str x)) (cs:=bO sV) none Tw zX O Tu Tu Tt Tt)<|A1 O<|Rs 26 O O (XJ.cast (v':= pIi ((c%3:Nat):Int)) (tv O O Tu) O)<|Rs 27 O O (ae (c%3) underlying39 sz9 O O O hlt hne)<|Rs 28 O O (au ⟨_,underlying9,O⟩ O hv)<|A1 O<|Gt O<|⟨_,gx L (sNk L k),O,O,ag PV.str (by rw[Kw,dw h8,dw h3,AT h1,(iO hlt).1]),O⟩
   ·have h1:¬kd=1:=by simpa using hc20
    have hlt:c<AQ.length:=by have e:AQ.length=8:=rfl;omega
    have hv:=bz hlt;have hne:=bA hlt;exact OR<|Gr O<|Rs 29 O O (ak (vs:=AQ.map fun x=> .pv (.str x)) (cs:=bO AQ) none Tw zX O Tu Tu Tt Tt)<|A1 O<|Rs 31 O O (ae c underlying39 sz9 O O O hlt hne)<|Rs 32 O O (au ⟨_,underlying9,O⟩ O hv)<|A1 O<|Gt O<|⟨_,gx L (sNk L k),O,O,ag PV.str (by rw[Kw,dw h8,dw h3,dw h1,(iO hlt).1]),O⟩
theorem wy(L:List Int)(k:Nat)(hL:L.length<=600)(hk:k<=L.length)(nm:ByteArray)(kd:Int):
  ∃x∈gM kd,FnM prog 170 91 (gx L k) [.agg [.str nm,.int .i64 kd]] (fun v c=>v= .str x/\c=gx L (sNk L k)):=
 ⟨_,H0 kd (by have:=gY L k 9 Tu;omega),zO L k hL hk nm kd⟩
end
section
open Mk Jn
theorem Cx(x y:Int)(hx:x.natAbs<1000000000)(hy:y.natAbs<1000000000):My x y:=by
 have hs:∀n:Nat,n<1000000000->(aj n).length<=1:=fun n h=>bt.2 Ts
 exact ni (fun a b=>a<1000000000/\b<1000000000) (fun a b h h0 h1 _ _=>by
  have:=hs a h.1;have:=hs b h.2;omega) x y ⟨hx,hy⟩ (by have:=hs _ hx;omega) (by have:=hs _ hy;omega)
theorem IB{s:ByteArray}(h:bY s=false):lU s=⟨#[]⟩:=by
 unfold bY at h;unfold lU;have:∀l m:List UInt8,(Lib.cut l m).2.2=false->(Lib.cut l m).2.1=[]:=fun l m h=>by
  unfold Lib.cut at h ⊢;split at h
  ·simp at h
  ·split
   ·contradiction
   ·rfl
 rw[this _ _ h]
theorem DO(z:Int)(hz:z.natAbs<1000000000):FnP prog 327 [dF z] (· = .tup [.int .i64 z,.bool true]):=by
 refine FnP.of func327 O ntmps327 Tw fun m0 w0 F R0=>?_
 have hlen:(aj z.natAbs).length<=1:=bt.2 Ts;have hat:=lB (aj z.natAbs) 2 Ts;have hl2:lim (aj z.natAbs) 2=0:=by rw[nj];omega
 generalize lim (aj z.natAbs) 2=L at*;have hsm:=eO z.natAbs Ts;have hwr:IntKind.i64.wrap ((z.natAbs:Nat):Int)=(z.natAbs:Int):=lj Ts;refine Z3 O O O O<|Gr O ?_;iterate 5 refine A1 O ?_
 apply O2 5 9 14 [10,11,12,13] O TE
 ·intro hb4;iterate 5 refine A1 O ?_
  exact OW TD O O O
 ·intro hb4;exact Y2 O O<|Rg 12 O O O (aa call365 hat O)<|Y2 O O<|OW TD O O O
 refine Gc O O (fun hc14=>absurd hc14 (fun h=>by simp at h;omega)) (fun hc14=>?_);refine OR<|Ge O follows [0,1,2,3,4,5,6,7,8,9] Tt ?_;iterate 2 refine D1 O O ?_
 refine Ds 17 [] O O O (fun τ h=>aa call365 hat (h.aL O)) O Tt<|Ds 18 [] O O O (fun τ h=>oA (b:=1000000000) (Ee h 0 O O) (Ee h 1 O O) Ts) O Tt<|Ds 19 [] O O O (fun τ h=>oA (b:=1000000000) (Ee h 0 O O) (Ee h 1 O O) Ts) O Tt ?_;iterate 2 refine D1 O O ?_
 refine Ds 22 [] O O O (fun τ h=>aa call376 hsm (h.aL O)) O Tt<|Ds 23 [] O O O (fun τ h=>XJ.cast (v':= .pv (.int .u64 (z.natAbs:Int))) (qo (b:=z.natAbs) (Ee h 0 O O) (Ee h 1 O O) Ts) (ag (fun n:Nat=>V.pv (.int .u64 (n:Int))) Ts)) O Tt<|D1 O O ?_;refine⟨Tt,?_⟩;refine Z2 O O O ?_;refine Gp O O (fun hc25=>absurd hc25 Ts) (fun hc25=>?_);refine OR<|Z2 O O O ?_;refine Gc O O (fun hc27=>?_) (fun hc27=>?_)
 ·have hz0:z<0:=Q8 hc27;exact Z1 O O<|Rs 29 O O ((mP underlying300 underlying3 O).cast (v':= pIi (z.natAbs:Int)) (ag (fun z=>pIi z) hwr))<|Y3 O O O<|Gt O<|⟨_,_,O,O,ag (fun q=>PV.tup [PV.int IntKind.i64 q,PV.bool true]) (show-(z.natAbs:Int)=z by omega)⟩
 ·have hz0:¬z<0:=Rc hc27;exact OR<|Z1 O O<|Rs 32 O O ((mP underlying300 underlying3 O).cast (v':= pIi (z.natAbs:Int)) (ag (fun z=>pIi z) hwr))<|Y2 O O<|Gt O<|⟨_,_,O,O,ag (fun q=>PV.tup [PV.int IntKind.i64 q,PV.bool true]) (show(z.natAbs:Int)=z by omega)⟩
theorem uK(s:ByteArray)(h:bd s=true)(hz:(rdZ s).natAbs<1000000000):FnP prog 266 [.str s] (· = .tup [.int .i64 (rdZ s),.bool true]):=by
 refine FnP.of func266 O ntmps266 Tw fun m0 w0 F R0=>?_
 have hv:=dd s;rw[h]at hv;refine Z2 O O O<|Z1 O O<|Rs 5 O O (aa call322 hv O)<|A1 O ?_;refine Gc O O (fun hc6=>absurd hc6 Tw) (fun hc6=>?_);refine OR<|Z1 O O<|Rs 8 O O (aa call326 (kH s h) O)<|Rs 9 O O (aa call327 (DO _ hz) O) ?_;iterate 4 refine A1 O ?_
 exact Gt O<|⟨_,_,O,O,O⟩
theorem lH(s:ByteArray)(h:bd s=true)(hz:(rdZ s).natAbs<1000000000):FnP prog 264 [.str s] (· = .bool true):=by
 refine FnP.of func264 O ntmps264 Tw fun m0 w0 F R0=>?_
 have h1:decide (rdZ s>= -1000000000)=true:=Pn Ts;have h2:decide (rdZ s<=1000000000)=true:=Pn Ts;refine Z1 O O<|Z1 O O<|Rs 7 O O (aa call266 (uK s h hz) O) ?_;iterate 5 refine A1 O ?_
 exact Z3 O O O O<|Rg 13 O O O (XJ.cast (v':= .pv (.bool true)) (aG O O O) (ag (fun b=>V.pv (.bool b)) h1))<|Y3 O O O<|Rg 17 O O O (XJ.cast (v':= .pv (.bool true)) (aG O O O) (ag (fun b=>V.pv (.bool b)) h2))<|Y2 O O<|Gt O<|⟨_,_,O,O,O⟩
theorem MJ:bd ⟨#[]⟩=false:=Tt
theorem DT:FnP prog 266 [.str ⟨#[]⟩] (· = .tup [.int .i64 0,.bool false]):=by
 refine FnP.of func266 O ntmps266 Tw fun m0 w0 F R0=>?_
 have hv:=dd ⟨#[]⟩;rw[MJ]at hv;refine Z2 O O O<|Z1 O O<|Rs 5 O O (aa call322 hv O)<|A1 O ?_;refine Gc O O (fun hc6=>?_) (fun hc6=>absurd hc6 Tw);exact Z2 O O O<|Gt O<|⟨_,_,O,O,O⟩
theorem Ki:mO ⟨#[]⟩=false:=Tt
theorem J5:bd (oQ ⟨#[]⟩)=false:=Tt
theorem zH:FnP prog 265 [.str ⟨#[]⟩] (· = .tup [.str ⟨#[]⟩,.str ⟨#[]⟩,.bool false]):=by
 refine FnP.of func265 O ntmps265 Tw fun m0 w0 F R0=>?_
 have hv:=jG ⟨#[]⟩ Tu (fun h=>by rw[J5]at h;cases h);rw[Ki]at hv;refine Z3 O O O O<|Z1 O O<|Rs 9 O O (aa call252 hv O)<|A1 O ?_;refine Gc O O (fun hc10=>?_) (fun hc10=>absurd hc10 Tw);exact Z3 O O O O<|Gt O<|⟨_,_,O,O,O⟩
structure NumOk(v:ByteArray):Prop where
 s:v.size<4294967281
 r:mO v=true
 n:bd (oQ v)=true/\(rdZ (oQ v)).natAbs<1000000000
 d:bY v=true->bd (lU v)=true/\1<=rdZ (lU v)/\rdZ (lU v)<=12
theorem zd(v:ByteArray)(h:NumOk v):FnP prog 265 [.str v] (· = .tup [.str (oQ v),.str (if bY v=true then lU v else FR),.bool true]):=by
 refine FnP.of func265 O ntmps265 Tw fun m0 w0 F R0=>?_
 have hG:bd (oQ v)=true->MN v=false->My (rdZ (oQ v)) (rdZ (lU v)):=fun _ hb=>by
  refine Cx _ _ h.n.2 ?_;have hr:=h.r;unfold mO at hr;by_cases hs:bY v=true
  ·have:=h.d hs;omega
  ·rw[AT (by rw[h.n.1,Sr hs];rfl)]at hr;have e:lU v=⟨#[]⟩:=IB (Sr hs);rw[e];decide
 have hv:=jG v h.s hG;rw[h.r]at hv;have hc:=Br v ⟨#[47]⟩ h.s;refine Z3 O O O O<|Z1 O O<|Rs 9 O O (aa call252 hv O)<|A1 O ?_;refine Gc O O (fun hc10=>absurd hc10 Tw) (fun hc10=>?_);refine OR<|Z1 O O<|Rs 13 O O (aa call232 hc O) ?_;iterate 7 refine A1 O ?_
 refine Z2 O O O ?_;refine Gc O O (fun hc18=>?_) (fun hc18=>?_)
 ·have hs:bY v=false:=by have h9:(!bY v)=true:=hc18;simpa using h9
  rw[hs,dw Tu];refine Z1 O O<|Gr O ?_;iterate 5 refine A1 O ?_
  exact Gt O<|⟨_,_,O,O,O⟩
 ·have hs:bY v=true:=by have h9:(!bY v)=false:=hc18;simpa using h9
  rw[hs,AT O];refine OR<|Gr O ?_;iterate 5 refine A1 O ?_
  exact Gt O<|⟨_,_,O,O,O⟩
theorem oJ(nm v:ByteArray)(h:v=⟨#[]⟩\/bd v=true/\(rdZ v).natAbs<1000000000):FnP prog 166 [.agg [.str nm,.int .i64 1],.str v] (· = .bool true):=by
 refine FnP.of func166 O ntmps166 Tw fun m0 w0 F R0=>?_
 refine Z2 O O O<|Z2 O O O<|Z2 O O O ?_;refine Gc O O (fun hc12=>?_) (fun hc12=>absurd hc12 Tw);by_cases he:v=⟨#[]⟩
 ·subst he;refine Z1 O O<|Rs 15 O O (XJ.cast (v':= .pv (.bool true)) (dh O O O) (ag (fun b=>V.pv (.bool b)) (Qz _))) ?_;iterate 5 refine A1 O ?_
  exact Gt O<|⟨_,_,O,O,O⟩
 ·have hne:(v.toList==(⟨#[]⟩:ByteArray).toList)=false:=by rw[Ql];exact fun e=>he (bytes_inj e)
  obtain⟨hv1,hv2⟩:=h.resolve_left he;exact Z1 O O<|Rs 15 O O (XJ.cast (v':= .pv (.bool false)) (dh O O O) (ag (fun b=>V.pv (.bool b)) hne))<|Y2 O O<|Rg 18 O O O (aa call264 (lH v hv1 hv2) O)<|Y2 O O<|Gt O<|⟨_,_,O,O,O⟩
theorem Dr(nm v:ByteArray)(h:v=⟨#[]⟩\/fI v=true/\v.size<=1000):FnP prog 166 [.agg [.str nm,.int .i64 3],.str v] (· = .bool true):=by
 refine FnP.of func166 O ntmps166 Tw fun m0 w0 F R0=>?_
 refine Z2 O O O<|Z2 O O O<|Z2 O O O ?_;refine Gc O O (fun hc12=>absurd hc12 Tw) (fun hc12=>?_);refine Z2 O O O ?_;refine Gc O O (fun hc20=>absurd hc20 Tw) (fun hc20=>?_);refine Z2 O O O ?_;refine Gc O O (fun hc50=>?_) (fun hc50=>absurd hc50 Tw);by_cases he:v=⟨#[]⟩
 ·subst he;refine Z1 O O<|Rs 53 O O (XJ.cast (v':= .pv (.bool true)) (dh O O O) (ag (fun b=>V.pv (.bool b)) (Qz _))) ?_;iterate 5 refine A1 O ?_
  exact Gt O<|⟨_,_,O,O,O⟩
 ·have hne:(v.toList==(⟨#[]⟩:ByteArray).toList)=false:=by rw[Ql];exact fun e=>he (bytes_inj e)
  obtain⟨hv1,hv2⟩:=h.resolve_left he;have hws:=tq v Ts;rw[hv1]at hws;exact Z1 O O<|Rs 53 O O (XJ.cast (v':= .pv (.bool false)) (dh O O O) (ag (fun b=>V.pv (.bool b)) hne))<|Y2 O O<|Rg 56 O O O (aa call267 hws O)<|Y2 O O<|Gt O<|⟨_,_,O,O,O⟩
theorem Ct(nm v:ByteArray)(h:NumOk v)(hne0:v≠⟨#[]⟩):FnP prog 166 [.agg [.str nm,.int .i64 2],.str v] (· = .bool true):=by
 refine FnP.of func166 O ntmps166 Tw fun m0 w0 F R0=>?_
 have hpa:=zd v h;have hden:bd (if bY v=true then lU v else FR)=true/\1<=rdZ (if bY v=true then lU v else FR)/\rdZ (if bY v=true then lU v else FR)<=12:=by
  by_cases hs:bY v=true
  ·rw[AT hs];exact h.d hs
  ·rw[dw hs];exact⟨iV,by rw[rI];decide,by rw[rI];decide⟩
 generalize (if bY v=true then lU v else FR)=dn at*;have hsm:=uK dn hden.1 Ts;have hbd:=lH (oQ v) h.n.1 h.n.2;have hne:(v.toList==(⟨#[]⟩:ByteArray).toList)=false:=by rw[Ql];exact fun e=>hne0 (bytes_inj e)
 have h1:decide (rdZ dn>=1)=true:=Pn hden.2.1;have h2:decide (rdZ dn<=12)=true:=Pn hden.2.2;refine Z2 O O O<|Z2 O O O<|Z2 O O O ?_;refine Gc O O (fun hc12=>absurd hc12 Tw) (fun hc12=>?_);refine Z2 O O O ?_;refine Gc O O (fun hc20=>?_) (fun hc20=>absurd hc20 Tw);refine Z1 O O<|Rs 24 O O (aa call265 hpa O) ?_;iterate 7 refine A1 O ?_
 refine Z1 O O<|Rs 30 O O (aa call266 hsm O) ?_;iterate 5 refine A1 O ?_
 refine Z1 O O<|Rs 34 O O (XJ.cast (v':= .pv (.bool false)) (dh O O O) (ag (fun b=>V.pv (.bool b)) hne)) ?_;iterate 4 refine A1 O ?_
 exact Rg 39 O O O (aa call264 hbd O)<|Y3 O O O<|Rg 43 O O O (XJ.cast (v':= .pv (.bool true)) (aG O O O) (ag (fun b=>V.pv (.bool b)) h1))<|Y3 O O O<|Rg 47 O O O (XJ.cast (v':= .pv (.bool true)) (aG O O O) (ag (fun b=>V.pv (.bool b)) h2))<|Y3 O O O<|Gt O<|⟨_,_,O,O,O⟩
theorem zG(nm:ByteArray):FnP prog 166 [.agg [.str nm,.int .i64 2],.str ⟨#[]⟩] (· = .bool true):=by
 refine FnP.of func166 O ntmps166 Tw fun m0 w0 F R0=>?_
 have hpa:=zH;have hsm:=DT;refine Z2 O O O<|Z2 O O O<|Z2 O O O ?_;refine Gc O O (fun hc12=>absurd hc12 Tw) (fun hc12=>?_);refine Z2 O O O ?_;refine Gc O O (fun hc20=>?_) (fun hc20=>absurd hc20 Tw);refine Z1 O O<|Rs 24 O O (aa call265 hpa O) ?_;iterate 7 refine A1 O ?_
 refine Z1 O O<|Rs 30 O O (aa call266 hsm O) ?_;iterate 5 refine A1 O ?_
 refine Z1 O O<|Rs 34 O O (XJ.cast (v':= .pv (.bool true)) (dh O O O) (ag (fun b=>V.pv (.bool b)) (Qz _))) ?_;iterate 16 refine A1 O ?_
 exact Gt O<|⟨_,_,O,O,O⟩
end
section
section
variable {C:Ctx}{n:Nat}{σ:St}{dst:Option Tmp}{ty:TypeId}{ts:Array TypeId}{pos:String}{after:Array Edge}{gd:Option (Nat×Bool)}
theorem bo{f:FuncId}{xs:Array Operand}{args:List V}{os:List (Nat×Ob)}{k':Nat}{r:V}{X:Nat->Option Ob}(ids:List Nat)(base:Nat)(hc:cu C.P f)(hf:FnO C.P f ids.length k' args os (fun v ob'=>v=r/\ob'=X))(hxs:xs.toList.map (σ.ev n)=V.renL (dH ids base) args)
  (ha:V.allL (okR ids.length 0) args=true) (hos:os.map (·.1)=(List.range ids.length).map (big+ ·)) (hob:os.all (fun p=>p.2.all (okR ids.length 0))=true) (hobs:ff σ (dH ids base) os)
  (hnd:ids.Nodup) (hav:(nwO base k').all σ.av=true):
  XJ C n ⟨dst,.call { callee:= .value (.func f),args:=xs,argTypes:=ts },ty,pos,after,gd⟩ σ ⟨r.ren (dH ids base),wrO ids base k' X,nwO base k'⟩:=
 bM ids base hc hxs ha hos hob hobs hnd hav hf (by rintro _ _ ⟨rfl,rfl⟩;rfl)
end
end

section
section
variable {C:Ctx}{n:Nat}{σ:St}{dst:Option Tmp}{ty t t':TypeId}{ts:Array TypeId}{pos:String}{after:Array Edge}{gd:Option (Nat×Bool)}{x y:Operand}
theorem AB{e:TypeId}(hu:C.P.underlying t=some (.pointer e))(hx:σ.ev n x= .pv .nilptr):
  XJ C n ⟨dst,.binOp .eql t x (.const (.pointer none)) t',ty,pos,after,gd⟩ σ ⟨.pv (.bool true),[],[]⟩:=
 .val fun a w m R hw=>by
  have h:=hw.pv hx;simp only[RelP]at h;have hc:a.eval (.const (.pointer none))= .pointer none:=rfl;have hu':C.P.underlying t=some (.pointer (C.P.pointee t)):=by simp[Program.pointee,hu]
  exact⟨.bool true,by simp[execOp,h,eqGuard,hc,run_eql_pointer_nil _ _ _ hu'],by simp only[Rel,RelP]⟩
theorem AJ{e:TypeId}{id off:Nat}{o:Ob}(hu:C.P.underlying t=some (.pointer e))(hx:σ.ev n x= .ptr id off)(ho:σ.ob id=some o)(hre:o.real=true:=by rfl):
  XJ C n ⟨dst,.binOp .eql t x (.const (.pointer none)) t',ty,pos,after,gd⟩ σ ⟨.pv (.bool false),[],[]⟩:=
 .val fun a w m R hw=>by
  obtain⟨b,N,h,_⟩:=hw.ptr hx ho hre;have hc:a.eval (.const (.pointer none))= .pointer none:=rfl;have hu':C.P.underlying t=some (.pointer (C.P.pointee t)):=by simp[Program.pointee,hu]
  exact⟨.bool false,by simp[execOp,h,eqGuard,hc,run_eql_pointer_nil _ _ _ hu'],by simp only[Rel,RelP]⟩
theorem zN{e:TypeId}{j:TypeInfo}{id off:Nat}{o:Ob}(hu:C.P.underlying t=some (.pointer e))(hj:C.P.info? e=some j)(hx:σ.ev n x= .ptr id off)(hy:σ.ev n y= .ptr id off)(ho:σ.ob id=some o)(hre:o.real=true:=by rfl):
  XJ C n ⟨dst,.binOp .neq t x y t',ty,pos,after,gd⟩ σ ⟨.pv (.bool false),[],[]⟩:=
 .val fun a w m R hw=>by
  obtain⟨b,N,h,hm,_⟩:=hw.ptr hx ho hre;obtain⟨b2,N2,h2,hm2,_⟩:=hw.ptr hy ho hre;rw[hm]at hm2;cases hm2;exact⟨.bool false,by simp[execOp,h,h2,eqGuard,Lib.run_neq_ptr_same _ _ hu hj],by simp only[Rel,RelP]⟩
theorem Bw{P:Program}{T:TypeId}{N d s:Nat}(hd:P.depth=d+1)(hs:P.cellsOf T=s)(h0:s≠0)(hN:s<=N):liesAt P P.depth T (N/P.cellsOf T) 0 T 1=true:=by
 have h1:0<N/s:=Nat.div_pos hN Ts;have hsame:sameLayout P P.depth T T=true:=by rw[hd];unfold sameLayout;simp
 have hrow:rowAt P (sameLayout P P.depth · T) P.depth T (N/P.cellsOf T) 0 1=true:=by
  rw[show P.depth=d+1 from hd];unfold rowAt;rw[hs,dw h0];have hs2:sameLayout P (d+1) T T=true:=by rw[<-hd];exact hsame
  simp only[Nat.zero_div,Nat.zero_mod,PJ,hs2,Sf,Qz,Tc];rw[Pn (show 1<=N/s from h1)];rfl
 rw[hd];unfold liesAt;rw[hrow];rfl
theorem Gs{e T:TypeId}{j:TypeInfo}{s d:TypeId}{id:Nat}{cs:List V}(hs:C.P.underlying s=some (.pointer e))(hd:C.P.underlying d=some .unsafePointer)(hj:C.P.info? e=some j)(hj0:j.size≠0)(hx:σ.ev n x= .ptr id 0)(ho:σ.ob id=some (.mix T cs))(hl:cs≠[]):
  XJ C n ⟨dst,.convert s d x,ty,pos,after,gd⟩ σ ⟨.ptr id 0,[],[]⟩:=
 .val fun a w m R hw=>by
  obtain⟨b,N,h,hm,arr,hb,hsz,hle,_⟩:=hw.ptr hx ho;have hev:=hw.ev x;rw[hx]at hev;have hpos:0<cs.length:=Qe.2 hl;have hsh:w.shape? b=some (T,arr.size):=by simp[World.shape?,hb]
  refine⟨a.eval x,?_,hev⟩;simp only[execOp,h,Sem.run_bind,Lib.run_to_unsafe w ⟨b,0,none⟩ hs hd hj hj0 hsh (show 0<arr.size by omega),Result.andThen_ok];rfl
theorem F5{T:TypeId}{j:TypeInfo}{s d:TypeId}{id dp:Nat}{cs:List V}(hs:C.P.underlying s=some .unsafePointer)(hd:C.P.underlying d=some (.pointer T))(hj:C.P.info? T=some j)(hdp:C.P.depth=dp+1)(hc:C.P.cellsOf T=cs.length)(hx:σ.ev n x= .ptr id 0)(ho:σ.ob id=some (.mix T cs))(hl:cs≠[]):
  XJ C n ⟨dst,.convert s d x,ty,pos,after,gd⟩ σ ⟨.ptr id 0,[],[]⟩:=
 .val fun a w m R hw=>by
  obtain⟨b,N,h,hm,arr,hb,hsz,hle,_⟩:=hw.ptr hx ho;have hev:=hw.ev x;rw[hx]at hev;have hpos:0<cs.length:=Qe.2 hl;have hsh:w.shape? b=some (T,arr.size):=by simp[World.shape?,hb]
  refine⟨a.eval x,?_,hev⟩;simp only[execOp,h,Sem.run_bind,Lib.run_from_unsafe w ⟨b,0,none⟩ hs hd hj hsh (Bw hdp hc Ts Ts),Result.andThen_ok];rfl
theorem Hd{f:FuncId}{fn:Func}{v:V}(hf:C.P.funcs[f]? =some fn)(hname:(fn.name== "runtime.NumGoroutine")=false)(hb:fn.body.isNone=true)(hn:Extern.findNext fn=none)(he:Extern.find fn=some Extern.AbiNoEscape.same)(hx:σ.ev n x=v):
  XJ C n ⟨dst,.call { callee:= .value (.func f),args:= #[x],argTypes:=ts },ty,pos,after,gd⟩ σ ⟨v,[],[]⟩:=
 .val fun a w m R hw=>by
  have hev:=hw.ev x;rw[hx]at hev;refine⟨a.eval x,?_,hev⟩;have hr:=run_callFunc_extern hf hname hb hn he #[a.eval x] w;rw[Lib.run_noEscape]at hr;simp only[Result.andThen_ok]at hr;have hc:a.eval (.func f)= .func (.func f) #[] #[]:=rfl;simp[execOp,resolve,Deferred.ofValue,invoke,hc,hr]
theorem L6{P:Program}(w:World)(t u ty e:TypeId)(i:TypeInfo)(ht:P.underlying t=some (.slice e))(hu:P.underlying u=some .string)(hi:P.info? e=some i)(hz:i.zero=some (.int .u8 0))(hs1:i.size=1)(hby:i.bytes=1)
  (g cap k:Nat) (cur:Array Value) (hg:w.heap[g]? =some (.cells cur e (0,0))) (hkc:k<=cap) (hcm:cap<=maxLen) (hcs:cur.size=cap) (s:ByteArray) (hb:k+s.size<=1000000000):
  ∃g' c' w',(Builtin.append_ #[t,u] ty #[.slice (some ⟨g,0,none⟩) k cap,.string s]).run P w= .ok (.slice (some ⟨g',0,none⟩) (k+s.size) c') w'/\w.grownBy w' (some g)/\(g'=g\/g'=w.heap.size)/\
   k+s.size<=c'/\c'<=maxLen/\∃cur',w'.heap[g']? =some (.cells cur' e (0,0))/\cur'.size=c'/\cur'.toList.take (k+s.size)=cur.toList.take k++Lib.strCells s:=by
 have hl:(cur.toList.take k++Lib.strCells s).length=k+s.size:=by
  rw[Ph,Lib.strCells_length,Pj,Px];omega
 by_cases hroom:k+s.size<=cap
 ·refine⟨g,cap,_,Lib.run_append_room_string (P:=P) w t u ty e i ht hu hi hs1 g k cap cur hg s hroom Ts,⟨O,O,O,Tw,fun q _ hq=>setRow_other w g q _ (fun e=>hq (by rw[e]))⟩,.inl O,hroom,hcm,_,setRow_heap w g cur _ e _ hg,?_,?_⟩
  ·simp only[Pv,Ph,Pj,Qw,Px,Lib.strCells_length];omega
  ·simp only[];rw[show k+s.size=(cur.toList.take k++Lib.strCells s).length from hl.symm];exact List.take_left
 ·have holds:∀j u,(cur.toList.take k)[j]? =some u->w.cell? ((⟨g,0,none⟩:Addr).add j)=some u:=fun j u hj=>by
   rw[Addr.add_lit];simp only[PJ];rw[cell_of_row w g j cur e (0,0) hg,<-hj,Pw];have hjl:j<(cur.toList.take k).length:=by
    rcases SZ j (cur.toList.take k).length with h|h
    ·exact h
    ·rw[Qg h]at hj;cases hj
   rw[Pj]at hjl;rw[AT Ts];simp
  have h63:k+s.size<=maxLen:=by simp only[maxLen];omega
  refine⟨w.heap.size,_,_,Lib.run_append_grow_string (P:=P) w t u ty e i (.int .u8 0) ht hu hi hz ⟨g,0,none⟩ k cap (cur.toList.take k) (by rw[hs1,Pj,Px];omega) holds s Ts Ts (by rw[hby];exact growslice_fits Ts Ts),
   ⟨O,O,O,Tw,fun q hq _=>heap_alloc_old w.drew _ hq⟩,.inr O,grownCap_ge w (k+s.size) cap e,grownCap_le_maxLen w (k+s.size) cap e h63,_,heap_alloc_new w.drew _,?_,?_⟩
  ·have hge:=grownCap_ge w (k+s.size) cap e;have hz1:(Value.int IntKind.u8 0).cells.size=1:=rfl;simp only[Array.size_append,Pv,size_zeroCells,hz1,Lib.strCells_length,Pj,Px];omega
  ·simp only[Array.toList_append];rw[show k+s.size=(cur.toList.take k++Lib.strCells s).length from hl.symm];exact List.take_left
theorem lG{w:World}{R:Nat->Prop}(s:ByteArray):RelPL w R (aN s.data.toList) (Lib.strCells s):=by
 unfold aN Lib.strCells;induction s.data.toList with
 |nil=>simp[RelPL]
 |cons a l ih=>exact RelPL.cons (by simp only[RelP]) ih
theorem vD{e:TypeId}{k id:Nat}{cs:List PV}{s:ByteArray}(id':Nat)(he:ElemIs C.P t e (.int .u8 0) 1 1)(hu:C.P.underlying t'=some .string)(hs:σ.ev n x= .gsl id 1 k)(ho:σ.ob id=some (.gro e cs))(hcs:cs.length=k)
  (hy:σ.ev n y= .pv (.str s)) (hb:k+s.size<=1000000000) (hk0:0<k) (hid:σ.av id'=true):
  XJ C n ⟨dst,.call { callee:= .builtin .append,args:= #[x,y],argTypes:= #[t,t'] },ty,pos,after,gd⟩ σ ⟨.gsl id' 1 (k+s.size),[(id',some (.gro e (cs++aN s.data.toList))),(id,none)],[id']⟩:=by
 rintro a w Q ⟨m,R,hw⟩;obtain⟨A0,c,hev,hkc,hcm,hz,hp⟩:=hw.gsl hs;have hcne:cs≠[]:=fun e=>by rw[e]at hcs;simp at hcs;omega
 have hne:cs++aN s.data.toList≠[]:=fun e=>hcne (List.append_eq_nil_iff.1 e).1
 have sub:∀i x,upd m id none i=some x->m i=some x/\i≠id:=fun i x e=>by
  by_cases hi:i=id
  ·subst hi;rw[ay]at e;cases e
  ·rw[aM _ _ hi]at e;exact⟨e,hi⟩
 obtain⟨b,N,hm,arr,hbk,hsz,hle,hr⟩:=hw.live ho (cL hcne);obtain⟨rfl,hN⟩:=hp hk0 b N hm;obtain⟨i,hi,hzz,hsize,hbytes⟩:=info_parts he.info;have own:=hw.hr.own id b N hm;have hsv:a.eval y= .string s:=hw.str hy;obtain⟨g,c',w',hrun,hgr,hat,hkc',hcm',cur',hg,hcs',htk⟩:=L6 (P:=C.P) w t t' ty e i he.u hu hi hzz hsize hbytes b c k arr hbk hkc hcm Ts s hb;have hrel:RelPL w R (cs++aN s.data.toList) (arr.toList.take k++Lib.strCells s):=by
  rw[hcs]at hr;exact hr.append (lG s)
 have gprop:¬R g/\(∀i b' N',upd m id none i=some (b',N')->b'≠g)/\(C.F g\/C.w0.heap.size<=g):=by
  rcases hat with h|h
  ·rw[h];exact⟨own.2.1,fun i b' N' hi e=>(sub i _ hi).2 (DW hw (sub i _ hi).1 hm e),own.2.2⟩
  ·refine⟨fun hh=>?_,fun i b' N' hi e=>?_,.inr ?_⟩
   ·have:=hw.hr.rsz _ hh;omega
   ·have:=(hw.hr.own i b' N' (sub i _ hi).1).1;omega
   ·have:=hw.hr.frame.size;omega
 have bprop:¬R b/\(∀i b' N',upd m id none i=some (b',N')->b'≠b)/\(C.F b\/C.w0.heap.size<=b):=
  ⟨own.2.1,fun i b' N' hi e=>(sub i _ hi).2 (DW hw (sub i _ hi).1 hm e),own.2.2⟩
 unfold Oper.wp;have hexec:(execOp a.eval ⟨dst,.call { callee:= .builtin .append,args:= #[x,y],argTypes:= #[t,t'] },ty,pos,after,gd⟩).run C.P w= .ok (.value (.slice (some ⟨g,0,none⟩) (k+s.size) c')) w':=by
  unfold execOp;simp only[resolve,invoke,builtin,Sem.run_bind,Sem.run_pure,Result.andThen_ok,Sy,bL,Qh,hev,hsv,hrun]
 rw[hexec];have hul:(arr.toList.take k++Lib.strCells s).length=k+s.size:=by
  rw[Ph,Lib.strCells_length,Pj,Px];omega
 have hcl:(cs++aN s.data.toList).length=k+s.size:=by rw[<-hrel.length,hul]
 refine⟨_,O,upd (upd m id none) id' (some (g,cur'.size)),R,?_⟩;rw[O1];refine SW.put ((hw.drop id).fresh hid hg hgr (fun q hq=>by simp at hq;subst hq;exact bprop) gprop.1 gprop.2.1 gprop.2.2 (.gro e (cs++aN s.data.toList)) ?_ (cL hne)) dst ?_
 ·intro m' av' hR _ _;refine⟨cur',hg,O,by rw[hcl,hcs'];exact hkc',?_⟩;rw[hcl,htk];exact hrel.mono hR
 ·simp only[Rel];refine⟨by simp[avL],_,c',O,hkc',hcm',fun h=>by omega,fun _ b' N' e'=>?_⟩;rw[ay]at e';cases e';exact⟨O,by rw[hcs',PX]⟩
theorem OH{id sz k:Nat}{o:Ob}(hx:σ.ev n x= .gsl id sz k)(ho:σ.ob id=some o)(hk:0<k)(hre:o.real=true):
  XJ C n ⟨dst,.call { callee:= .builtin .unsafeSliceData,args:= #[x],argTypes:=ts },ty,pos,after,gd⟩ σ ⟨.ptr id 0,[],[]⟩:=
 .val fun a w m R hw=>by
  obtain⟨A,c,he,hkc,_,_,hp⟩:=hw.gsl hx;obtain⟨b,N,hm,_⟩:=hw.live ho hre;obtain⟨rfl,_⟩:=hp hk b N hm;have hav:=hw.ev x;rw[hx]at hav;simp only[Rel]at hav;refine⟨.pointer (some ⟨b,0,none⟩),?_,?_⟩
  ·simp only[execOp,resolve,invoke,builtin,Sem.run_bind,Sem.run_pure,Result.andThen_ok,Sy,bL,Qh,he,Lib.run_unsafeSliceData_row w ts ty ⟨b,0,none⟩ k c Ts]
  ·simp only[Rel];refine⟨hav.1,fun b' N' e=>?_⟩;rw[hm]at e;cases e;rfl
theorem Hr{w:World}{b k:Nat}{arr:Array Value}{e:TypeId}(hb:w.heap[b]? =some (.cells arr e (0,0)))(hk:k≠0):(w.freeze ⟨b,0,none⟩ k).heap[b]? =some (.cells arr e (0,k)):=by
 unfold World.freeze;rw[dw hk];simp only[];rw[RG,AT O,hb];simp
theorem EA{w:World}{b k q:Nat}(h:q≠b):(w.freeze ⟨b,0,none⟩ k).heap[q]? =w.heap[q]? :=by
 unfold World.freeze;split
 ·rfl
 ·simp only[];rw[RG,dw (fun e=>h e.symm)]
theorem HT(w:World)(a:Addr)(k:Nat):(w.freeze a k).heap.size=w.heap.size/\(w.freeze a k).os=w.os/\(w.freeze a k).tape=w.tape/\(w.freeze a k).output=w.output:=by
 unfold World.freeze;split
 ·exact⟨O,O,O,O⟩
 ·exact⟨Tw,O,O,O⟩
theorem AG{w:World}{R:Nat->Prop}{l:List UInt8}{us:List Value}(h:RelPL w R (aN l) us):us=l.map fun c=> .int .u8 c.toNat:=by
 induction l generalizing us with
 |nil=>simp[aN,RelPL]at h;simp[h]
 | cons c l ih=>
   simp only[aN,bL,RelPL,RelP]at h;obtain⟨u,vs,rfl,rfl,h2⟩:=h;rw[bL,<-ih h2]
theorem GQ{e it:TypeId}{id:Nat}{l:List UInt8}(hp:C.P.underlying t=some (.pointer e))(hc:C.P.cellsOf e=1)(hx:σ.ev n x= .ptr id 0)(ho:σ.ob id=some (.gro e (aN l)))(hy:σ.ev n y= pIi l.length)(h0:l≠[])(hb:l.length<=1000000000):
  XJ C n ⟨dst,.call { callee:= .builtin .unsafeString,args:= #[x,y],argTypes:= #[t,it] },ty,pos,after,gd⟩ σ ⟨.pv (.str ⟨l.toArray⟩),[(id,some (.fro e ⟨l.toArray⟩))],[]⟩:=by
 rintro a w Q ⟨m,R,hw⟩;have hbn:aN l≠[]:=by simpa[aN]using h0
 obtain⟨b,N,he,hm,arr,hbk,hsz,hle,hr⟩:=hw.ptr hx ho (cL hbn);have hbl:(aN l).length=l.length:=by simp[aN]
 rw[hbl]at hle hr;have htk:=AG hr;have hyv:a.eval y= .int .i64 l.length:=hw.int hy;have hl0:l.length≠0:=by simpa using h0
 have hcell:∀j z,l[j]? =some z->w.cell? ((⟨b,0,none⟩:Addr).add j)=some (.int .u8 z.toNat):=fun j z hj=>by
  rw[Addr.add_lit];simp only[PJ];have h2:(arr.toList.take l.length)[j]? =some (.int .u8 z.toNat):=by rw[htk,Rv,hj];rfl
  have hjl:j<l.length:=(Pf.1 hj).1;rw[cell_of_row w b j arr e (0,0) hbk,<-h2,Pw,AT hjl];simp
 have hus:=Lib.run_unsafeString_row (P:=C.P) w t it ty e hp hc b arr.size (by simp[World.shape?,hbk]) l h0 Ts Ts hcell;unfold Oper.wp;have hexec:(execOp a.eval ⟨dst,.call { callee:= .builtin .unsafeString,args:= #[x,y],argTypes:= #[t,it] },ty,pos,after,gd⟩).run C.P w= .ok (.value (.string ⟨l.toArray⟩)) (w.freeze ⟨b,0,none⟩ l.length):=by
  unfold execOp;simp only[resolve,invoke,builtin,Sem.run_bind,Sem.run_pure,Result.andThen_ok,Sy,bL,Qh,he,hyv,hus]
 rw[hexec];obtain⟨q1,q2,q3,q4⟩:=HT w ⟨b,0,none⟩ l.length;refine⟨_,O,m,R,?_⟩;rw[O1];refine SW.put (hw.turn hm (w.freeze ⟨b,0,none⟩ l.length) q1 (fun k hk=>EA hk) q2 q3 q4 (.fro e ⟨l.toArray⟩) fun hR=>?_) dst ?_
 ·refine⟨arr,?_,hsz,?_,?_⟩
  ·rw[Hr hbk hl0];rfl
  ·show l.toArray.size<=N;simp;omega
  ·show arr.toList.take l.toArray.size=_;simp[htk]
 ·simp only[Rel,RelP]
end
end
section
open Mk Jn
def MdV(S:Sch)(A:List Int)(v:List ByteArray):Prop:=v.length=A.length/\∀i (h:i<v.length) (h2:i<A.length),v[i]∈gM (S.attrs.getD A[i].toNat default).2
def MdR(S:Sch)(A:List Int)(x:Rw):Prop:=(1<=x.w/\x.w<=5)/\MdV S A x.v
def MdT(S:Sch)(A:List Int)(most:Nat)(l:List Rw):Prop:=∃l0,l=lY l0/\l0.length<=most/\∀x∈l0,MdR S A x
theorem Mi(v:List ByteArray)(x:ByteArray):bO v++[PV.str x]=bO (v++[x]):=Tw
theorem MdV.snoc{S:Sch}{A:List Int}{v:List ByteArray}{j:Nat}(hj:j<A.length)(h:v.length=j/\∀i (h:i<v.length) (h2:i<A.length),v[i]∈gM (S.attrs.getD A[i].toNat default).2){x:ByteArray}(hx:x∈gM (S.attrs.getD A[j].toNat default).2):
  (v++[x]).length=j+1/\∀i (h:i<(v++[x]).length) (h2:i<A.length),(v++[x])[i]∈gM (S.attrs.getD A[i].toNat default).2:=by
 obtain⟨rfl,hv⟩:=h;refine⟨Tw,fun i h h2=>?_⟩;rcases SZ i v.length with h3|h3
 ·rw[SA h3];exact hv i h3 h2
 ·have e:i=v.length:=by simp at h;omega
  subst e;rw[List.getElem_append_right (BY _)];simpa using hx
theorem jJ{α:Type}(l:List α)(a:α):l.length+1=(l++[a]).length:=Tw
theorem Eb(L:List Int)(k:Nat)(hL:L.length<=600)(hk:k<=L.length)(S:Sch)(r most:Nat)(hm:most<=100)(hr:r<S.rels.length)(hA:S.rels[r].2.length<=1000)(hb:∀a∈S.rels[r].2,0<=a/\a<S.attrs.length):
  FnM prog 81 91 (gx L k) [eZ S,.int .i64 r,.int .i64 most] (fun v c=>(∃l,MdT S S.rels[r].2 most l/\v=mf l)/\∃k',k'<=L.length/\c=gx L k'):=by
 refine FnM.of func81 O ntmps81 Tw O Tw fun m0 w0 F R0=>?_
 have hkk:∀k,k<=L.length->sNk L k<=L.length:=fun k hk=>by unfold sNk;split<;>omega
 have hk1:=hkk _ hk;have hn1:=fk L k ((most:Int)+1) hL hk Ts Ts;have hb1:=gY L k ((most:Int)+1) Ts;generalize sNv L k ((most:Int)+1)=nb at*;have hrne:=fY hr;have hra:(aJ S.rels)[r*2+1]? =some (ai S.rels[r].2):=by
  have h2:(((aJ S.rels).drop (r*2)).take 2)[1]? =[PV.str S.rels[r].1,ai S.rels[r].2][1]? :=by rw[dJ hr]
  simpa[Pw,Qf]using h2
 generalize S.rels[r].2=A at*;refine Z2 O O O<|Z1 O O<|OT (OZ 9 1 2 41 O O)<|Z3 O O O O<|Rs 17 O O (bN call12 hn1 O O)<|A1 O ?_;refine Gl O (st:=fun TC:Int×Nat×List Rw=>mkS [(0,.ptr big 0),(2,pIi r),(5,.ptr 0 0),(9,.gsl 1 2 TC.2.2.length),(10,pIi TC.1)] [(big,tG L TC.2.1),(0,.mix 30 (sCc S)),(1,.gro 41 (aY TC.2.2))] 2)
  (I:=fun TC=>(((0<=TC.1/\TC.1<=most)/\(TC.2.2.length:Int)+TC.1<=most)/\TC.2.1<=L.length)/\∀x∈TC.2.2,MdR S A x) (μ:=fun TC=>TC.1.toNat) (x0:=(nb,sNk L k,[])) (OU (aS O) (aO O) O O) (⟨⟨⟨⟨Tz,Tz⟩,by simp only[Rt];omega⟩,hk1⟩,fun _ h=>absurd h Tw⟩) ?_
 rintro⟨i,k2,l⟩ ⟨⟨⟨hi,hli⟩,hk2⟩,hl⟩;try simp only at hi hli hk2 hl ⊢
 refine Z2 O O O ?_;refine Gp O O (fun hc19=>?_) (fun hc19=>?_)
 ·obtain⟨pk,hpk1,hpk⟩:=pI L k2 [1,1,2,5] hL hk2 Tw Tw;have hpk2:1<=pk/\pk<=5:=by simp at hpk1;omega
  have hk3:=hkk _ hk2;have hll:=bJ l;refine OR<|Z1 O O<|Rs 23 O O (ak none Tw vL O Tu Tu O O)<|Rs 24 O O (bN call80 hpk O O)<|Y3 O O O<|OT (St.c8 (T':=41) (cs:=[.pv nS,pIi pk]) 2 0 3 1 9 Tt O Tt)<|Z3 O O O O<|Rs 29 O O (ae r underlying27 JV O O O hr hrne)<|A1 O<|Rs 31 O O (au ⟨_,underlying22,O⟩ O hra)<|Y2 O O ?_;refine Gl O (st:=fun x_1:Nat×Nat×List ByteArray=>mkS [(0,.ptr big 0),(2,pIi r),(5,.ptr 0 0),(9,.gsl 1 2 l.length),(10,pIi i),(11,.ptr 2 0),(31,.pv (ai A)),(32,pIi A.length),(33,pIi x_1.1)] [(big,tG L x_1.2.1),(0,.mix 30 (sCc S)),(1,.gro 41 (aY l)),(2,.mix 41 [.gsl 3 1 x_1.2.2.length,pIi pk]),(3,.gro 9 (bO x_1.2.2))] 4)
   (I:=fun x_1=>(x_1.1<=A.length/\x_1.2.1<=L.length)/\(x_1.2.2.length=x_1.1/\∀i (h:i<x_1.2.2.length) (h2:i<A.length),x_1.2.2[i]∈gM (S.attrs.getD A[i].toNat default).2)) (μ:=fun x_1=>A.length-x_1.1) (x0:=(0,sNk L k2,[])) (OU (aS O) (aO O) O O) (⟨⟨cd _,hk3⟩,O,fun i h=>absurd h Tw⟩) ?_
  rintro⟨j,k3,v⟩ ⟨⟨hj,hk4⟩,hmd⟩;try simp only at hj hk4 hmd ⊢
  refine Z1 O O ?_;refine Gp O O (fun hc34=>?_) (fun hc34=>?_)
  ·have hlj:j<A.length:=Ts;obtain⟨a,haa⟩:=Bb (hb _ (ar hlj)).1;have hal:a<S.attrs.length:=by have:=(hb _ (ar hlj)).2;omega
   have hpv:(aF A)[j*1]? =some (.int .i64 (a:Int)):=by rw[<-haa];simp[hlj]
   have hpn:=aE hlj;have har:=kB hal;have han:=gB hal;obtain⟨x,hxm,hxs⟩:=wy L k3 hL hk4 S.attrs[a].1 S.attrs[a].2;have hmd2:=MdV.snoc hlj hmd (x:=x) (by rw[haa,Pz];simpa[List.getD,hal]using hxm);have hk5:=hkk _ hk4;have hvl:=hmd.1;refine OR<|Gr O<|Rs 35 O O (ae j underlying22 sz3 O O O hlj hpn)<|Rs 36 O O (au ⟨_,underlying3,O⟩ O hpv)<|A1 O<|Ge O follows [0,1,2,3,4,5,6,7,8,9,10,11,12] Tt ?_;iterate 6 refine D1 O O ?_
   refine Ds 43 [] O O O (fun τ h=>ae a underlying26 kT (Ee h 0 O O) (Ee h 1 O O) O hal han) O Tt<|Ds 44 [] O O O (fun τ h=>aR ⟨_,underlying162,O⟩ kT (Ee h 0 O O) har O) O Tt<|Ds 45 [_] O O O (fun τ h=>bN call170 hxs (h.args.trans O) (Eo h 0 O O)) O Tt ?_;iterate 4 refine D1 O O ?_
   refine⟨Tt,?_⟩;exact Z2 O O O<|⟨(j+1,sNk L k3,v++[x]),OV [0,1,2,5] (aT O) ⟨O,O,O,PG (b:=some (.mix 41 [.gsl 5 1 (v.length+1),pIi pk])) Tt (ag (fun n=>some (Ob.mix 41 [.gsl 5 1 n,pIi pk])) (jJ v x)),PG (b:=some (.gro 9 (bO v++[.str x]))) Tt (ag (fun c=>some (Ob.gro 9 c)) (Mi v x)),TB⟩ O O Tu O,⟨⟨Ts,hk5⟩,hmd2⟩,Tz⟩
  ·refine OT (OX 3 O O) ?_;have hmr:MdR S A ⟨v,pk⟩:=⟨hpk2,(by have:=hmd.1;omega:v.length=A.length),hmd.2⟩;refine Gx O<|Gr O ?_;iterate 5 refine A1 O ?_
   exact Z3 O O O O<|⟨(i-1,k3,l++[⟨v,pk⟩]),OV [0,5] ⟨O,O,O,ag (fun n=>V.gsl 5 2 n) (jJ l ⟨v,pk⟩),O,TB⟩ ⟨O,O,PG (b:=some (.gro 41 (aY l++ny ⟨v,pk⟩))) Tt (ag (fun c=>some (Ob.gro 41 c)) (rQ l ⟨v,pk⟩)),TB⟩ O O Tu O,⟨⟨⟨Tz,by simp only[Ph,PI];omega⟩,hk4⟩,fun y hy=>by rcases Pq.1 hy with h|h;exact hl y h;rw[OF.1 h];exact hmr⟩,Tz⟩
 ·refine OT (OX 1 O O) ?_;have hso:=zA l Ts (fun x hx=>by have:=(hl x hx).2.1;omega) (fun x hx=>by have:=(hl x hx).1;omega);exact Gx O<|Z1 O O<|Rs 55 O O (aa call171 hso O)<|A1 O<|Gt O<|⟨_,gx L k2,O,O,⟨lY l,⟨l,O,Ts,hl⟩,O⟩,k2,hk2,O⟩
def dC(d:List (List Rw)):List PV:=d.map mf
abbrev dbP(d:List (List Rw)):PV:= .sl none d.length (dC d)
theorem w4(d:List (List Rw))(l:List Rw):dC d++[mf l]=dC (d++[l]):=by simp[dC]
theorem er(d:List (List Rw)):(dC d).length=d.length*1:=by simp[dC]
def MdD(S:Sch)(most n:Nat)(d:List (List Rw)):Prop:=d.length=n/\∀i (h:i<d.length) (h2:i<S.rels.length),MdT S S.rels[i].2 most d[i]
theorem MdD.snoc{S:Sch}{most n:Nat}{d:List (List Rw)}(h:MdD S most n d)(hn:n<S.rels.length){l:List Rw}(hl:MdT S S.rels[n].2 most l):MdD S most (n+1) (d++[l]):=by
 obtain⟨rfl,hd⟩:=h;refine⟨Tw,fun i h h2=>?_⟩;rcases SZ i d.length with h3|h3
 ·rw[SA h3];exact hd i h3 h2
 ·have e:i=d.length:=by simp at h;omega
  subst e;rw[List.getElem_append_right (BY _)];simpa using hl
theorem rv(L:List Int)(k:Nat)(hL:L.length<=600)(hk:k<=L.length)(S:Sch)(most:Nat)(hm:most<=100)(hS:S.rels.length<=1000)(hA:∀r∈S.rels,r.2.length<=1000/\∀a∈r.2,0<=a/\a<S.attrs.length):
  FnM prog 27 91 (gx L k) [eZ S,.int .i64 most] (fun v c=>(∃d,MdD S most S.rels.length d/\v=dbP d)/\∃k',k'<=L.length/\c=gx L k'):=by
 refine FnM.of func27 O ntmps27 Tw O Tw fun m0 w0 F R0=>?_
 refine Z2 O O O<|Z1 O O<|OT (OZ 7 1 1 38 O O)<|Z4 O O O O O ?_;refine Gl O (st:=fun TC:Nat×Nat×List (List Rw)=>mkS [(0,.ptr big 0),(2,pIi most),(4,.ptr 0 0),(7,.gsl 1 1 TC.2.2.length),(11,pIi S.rels.length),(12,pIi TC.1)] [(big,tG L TC.2.1),(0,.mix 30 (sCc S)),(1,.gro 38 (dC TC.2.2))] 2)
  (I:=fun TC=>(TC.1<=S.rels.length/\TC.2.1<=L.length)/\MdD S most TC.1 TC.2.2) (μ:=fun TC=>S.rels.length-TC.1) (x0:=(0,k,[])) (OU (aS O) (aO O) O O) (⟨⟨cd _,hk⟩,O,fun i h=>absurd h Tw⟩) ?_
 rintro⟨i,k2,d⟩ ⟨⟨hi,hk2⟩,hd⟩;try simp only at hi hk2 hd ⊢
 refine Z1 O O ?_;refine Gp O O (fun hc13=>?_) (fun hc13=>?_)
 ·have hlt:i<S.rels.length:=Ts;have hrA:=hA _ (ar hlt);have hdl:=hd.1;have htl:=er d;refine OR<|Z2 O O O<|Gr O ?_;iterate 5 refine A1 O ?_
  refine RL.call O (kr call81 (Eb L k2 hL hk2 S i most hm hlt hrA.1 hrA.2) O O ?_);rintro _ _ ⟨⟨l,hml,rfl⟩,k3,hk3,rfl⟩;have hsn:=hd.snoc hlt hml;exact Y3 O O O<|Z2 O O O<|⟨(i+1,k3,d++[l]),OV [0,3] ⟨O,O,O,ag (fun n=>V.gsl 3 1 n) (jJ d l),O,O,TB⟩ ⟨O,O,PG (b:=some (.gro 38 (dC d++[mf l]))) Tt (ag (fun c=>some (Ob.gro 38 c)) (w4 d l)),TB⟩ O O Tu O,⟨⟨Ts,hk3⟩,hsn⟩,Tz⟩
 ·refine OT (OX 1 O O) ?_;have hin:i=S.rels.length:=Ts;subst hin;exact Gx O<|Z2 O O O<|Gt O<|⟨_,gx L k2,O,O,⟨d,hd,O⟩,k2,hk2,O⟩
end
section
open Mk Jn
section
variable {C:Ctx}{n:Nat}{σ:St}{dst:Option Tmp}{ty t t':TypeId}{pos:String}{after:Array Edge}{gd:Option (Nat×Bool)}{x:Operand}
theorem fX{e:TypeId}{k:Nat}{cs:List PV}{K:St->Prop}(hu:C.P.underlying t=some (.slice e))(hx:σ.ev n x= .pv (.sl none k cs))(hk:∀b:Bool,(b=true->cs=[])->K (σ.app dst ⟨.pv (.bool b),[],[]⟩)):
  OJ C n ⟨dst,.binOp .eql t x (.const (.slice none 0 0)) t',ty,pos,after,gd⟩ K σ:=by
 rintro a w Q ⟨m,R,hw⟩;have:=hw.pv hx;simp only[RelP]at this;obtain⟨A,c,e1,_,_,_,_,h5⟩:=this;have hc:a.eval (.const (.slice none 0 0))= .slice none 0 0:=rfl;have hb:A.isNone=true->cs=[]:=fun h=>by
  cases cs with
  |nil=>rfl
  | cons c cs=>
    obtain⟨b,off,us,rfl,_⟩:=h5 Tw;cases h
 have hrun:(execOp a.eval ⟨dst,.binOp .eql t x (.const (.slice none 0 0)) t',ty,pos,after,gd⟩).run C.P w= .ok (.value (.bool A.isNone)) w:=by
  simp[execOp,e1,eqGuard,binOp,hc,run_equal_slice_nil _ _ _ _ _ _ hu]
 unfold Oper.wp;rw[hrun];exact⟨_,hk A.isNone hb,m,R,St.gA σ dst _▸hw.put dst (by simp only[Rel,RelP])⟩
theorem cI{T e:TypeId}{z:Value}{size bytes:Nat}(id:Nat)(he:ElemIs C.P T e z size bytes)(hid:σ.av id=true):
  XJ C n ⟨dst,.buildSlice T 0 #[],ty,pos,after,gd⟩ σ ⟨.osl id size 0,[(id,some (.cells e []))],[id]⟩:=by
 rintro a w Q ⟨m,R,hw⟩;obtain⟨i,hi,hz,hsize,hbytes⟩:=info_parts he.info;have hrun:(execOp a.eval ⟨dst,.buildSlice T 0 #[],ty,pos,after,gd⟩).run C.P w= .ok (.value (.slice (some ⟨w.heap.size,0,none⟩) 0 0)) (w.alloc (.cells #[] e)):=by
  have hb:(Instr.buildSlice T 0 #[]).run C.P w= .ok (.slice (some ⟨w.heap.size,0,none⟩) 0 0) (w.alloc (.cells #[] e)):=by
   simp[Instr.buildSlice,run_underlying he.u,sizeOf,typeInfo,hi,Instr.fill,newRow]
   congr 2
   exact Array.eq_empty_of_size_eq_zero Tw
  have hm:(#[]:Array (Nat×Operand)).map (fun x=>(x.1,a.eval x.2))= #[]:=Tw;simp only[execOp,hm,Sem.run_bind,hb,Result.andThen_ok,Sem.run_pure]
 unfold Oper.wp;rw[hrun];refine⟨_,O,upd m id (some (w.heap.size,0)),R,?_⟩;rw[O1];refine SW.put (hw.alloc hid #[] e (.cells e []) ?_) dst ?_
 ·intro w' m' av' hR hm ha hb;exact⟨_,hb,O,BY _,RelPL.nil⟩
 ·simp only[Rel];refine⟨by simp[avL],fun b N h=>?_⟩;rw[ay]at h;cases h;exact⟨0,O,BY _,by simp[maxLen],Tw⟩
end
theorem vh(l:List ByteArray)(hl:l.length<=1000000):FnP prog 117 [aZ l] (· =aZ l):=by
 refine FnP.fg2 (FnP.of func117 O ntmps117 Tw fun m0 w0 F R0=>?_);refine Z1 O O<|Z1 O O ?_;refine RL.call O (fX underlying39 O ?_);intro b hb;refine Gc O O (fun hc4=>?_) (fun hc4=>?_)
 ·have hl0:l=[]:=RU.1 (hb hc4);exact Z1 O O<|Gt O<|⟨_,_,O,O,by rw[hl0];rfl⟩
 ·refine OR<|Gr O<|Rs 5 O O (cI 0 zX O)<|A1 O<|Rs 7 O O (eY 1 zX O O O (.inl ⟨none,O⟩) Tw (fun c hc=>by obtain⟨y,_,rfl⟩:=IT.1 hc;rfl) Ts O) ?_;exact A1 O<|OT (OX 1 O O)<|Gt O<|⟨_,_,O,O,show PV.sl none (0+l.length) ([]++bO l)=_ by rw[PJ,Qa]⟩
def fJ(ls:List Int)(n:Nat):List Int:=(List.range n).map fun a:Nat=>((ls.count (a:Int):Nat):Int)
theorem uh(ls:List Int)(n:Nat):(fJ ls n).length=n:=by simp[fJ]
theorem xr{ls:List Int}{n a:Nat}(h:a<n):(aF (fJ ls n))[a*1]? =some (.int .i64 ((ls.count (a:Int):Nat):Int)):=by simp[fJ,h]
theorem E0{ls:List Int}{n a:Nat}(h:a<n):(aF (fJ ls n)).set (a*1) (.int .i64 (((ls.count (a:Int):Nat):Int)+1))=aF (fJ (ls++[(a:Int)]) n):=by
 apply Qu
 ·simp[fJ]
 ·intro i h1 h2;simp only[fJ,SQ,Qm,List.getElem_range,List.count_append,PX];by_cases e:a=i
  ·subst e;rw[AT O];simp
  ·rw[dw e];have:List.count (i:Int) [(a:Int)]=0:=by rw[List.count_eq_zero];simp;omega
   rw[this,SC]
theorem zC(n:Nat):List.replicate n (PV.int .i64 0)=aF (fJ [] n):=by
 apply Qu
 ·simp[fJ]
 ·intro i h1 h2;simp[fJ]
def bX(ls:List Int)(A:List Int)(x:Rw):Bool:=(A.zip x.v).all fun p=> !(p.2.toList==(⟨#[]⟩:ByteArray).toList)||((ls.count p.1:Nat):Int)==1
def o6(S:Sch)(A:List Int)(l:List Rw):List Rw:=l.filter (bX (S.rels.flatMap (·.2)) A)
end
section
open Mk Jn
structure SJn(S:Sch):Prop where
 a:S.attrs.length<=1000
 r:S.rels.length<=1000
 l:∀r∈S.rels,r.2.length<=1000
 b:∀r∈S.rels,∀a∈r.2,0<=a/\a<S.attrs.length
theorem Ei{l:List (ByteArray×List Int)}{k:Nat}(h:k<l.length):(l.take (k+1)).flatMap (·.2)=(l.take k).flatMap (·.2)++l[k].2:=by
 rw[AI h,PS];simp
theorem q8{A:List Int}{v:List ByteArray}(hl:v.length=A.length){j:Nat}(hj:j<A.length)(f:Int×ByteArray->Bool):((A.zip v).take (j+1)).all f=(((A.zip v).take j).all f&&f (A[j],v[j]'Ts)):=by
 have h:j<(A.zip v).length:=by simp;omega
 rw[AI h,SI];simp
theorem Fj{l:List (ByteArray×List Int)}(h:∀r∈l,r.2.length<=1000):(l.flatMap (·.2)).length<=l.length*1000:=by
 induction l with
 |nil=>simp
 | cons a l ih=>
   have h1:=h a Tw;have h2:=ih fun r hr=>h r (by simp[hr])
   rw[Py,Ph,Pd];omega
theorem Be(S:Sch)(hS:SJn S)(r:Nat)(hr:r<S.rels.length)(l:List Rw)(hl:l.length<=1000)(hv:∀x∈l,x.v.length=S.rels[r].2.length):
  FnP prog 47 [eZ S,.int .i64 r,mf l] (· =mf (o6 S S.rels[r].2 l)):=by
 refine FnP.of func47 O ntmps47 Tw fun m0 w0 F R0=>?_
 have hll:=bJ l;have hSa:=hS.a;have hSr:=hS.r;have hrne:=fY hr;have hra:(aJ S.rels)[r*2+1]? =some (ai S.rels[r].2):=by
  have h2:(((aJ S.rels).drop (r*2)).take 2)[1]? =[PV.str S.rels[r].1,ai S.rels[r].2][1]? :=by rw[dJ hr]
  simpa[Pw,Qf]using h2
 have hrl:=hS.l _ (ar hr);have hrb:=hS.b _ (ar hr);unfold o6;generalize S.rels[r].2=A at*;refine Z2 O O O<|Gr O ?_;iterate 5 refine A1 O ?_
 refine Z4 O O O O O ?_;refine Gl O (st:=fun TC:Nat=>mkS [(1,pIi r),(2,.pv (mf l)),(3,.ptr 0 0),(7,.osl 1 1 S.attrs.length),(23,.pv (.sl none S.rels.length (aJ S.rels))),(24,pIi S.rels.length),(25,pIi TC)] [(0,.mix 30 (sCc S)),(1,.cells 3 (aF (fJ ((S.rels.take TC).flatMap (·.2)) S.attrs.length)))] 2)
  (I:=fun TC=>TC<=S.rels.length) (μ:=fun TC=>S.rels.length-TC) (x0:=(0)) (OU (aS O) ⟨O,ag (fun c=>some (Ob.cells 3 c)) ((ck (.int .i64 0) (S.attrs.length*1)).trans (by rw[PX,zC];rfl)),TB⟩ O O) (cd _) ?_
 rintro k hk;refine Z1 O O ?_;refine Gp O O (fun hc26=>?_) (fun hc26=>?_)
 ·have hlt:k<S.rels.length:=Ts;have hrow:=dJ hlt;have hne:=fY hlt;have hkl:=hS.l _ (ar hlt);have hkb:=hS.b _ (ar hlt);have hfs:=Ei hlt;generalize S.rels[k]=rk at*;refine OR<|Z1 O O ?_;first|refine A3 O Tv ?_|refine A1 O ?_
  refine Y2 O O<|Z4 O O O O O ?_;refine Gl O (st:=fun x_1:Nat=>mkS [(1,pIi r),(2,.pv (mf l)),(3,.ptr 0 0),(7,.osl 1 1 S.attrs.length),(23,.pv (.sl none S.rels.length (aJ S.rels))),(24,pIi S.rels.length),(25,pIi k),(30,.pv (ai rk.2)),(31,pIi rk.2.length),(32,pIi x_1)] [(0,.mix 30 (sCc S)),(1,.cells 3 (aF (fJ ((S.rels.take k).flatMap (·.2)++rk.2.take x_1) S.attrs.length)))] 3)
   (I:=fun x_1=>x_1<=rk.2.length) (μ:=fun x_1=>rk.2.length-x_1) (x0:=(0)) (OU (aS O) ⟨O,ag (fun c=>some (Ob.cells 3 (aF (fJ c S.attrs.length)))) Tw,TB⟩ O O) (cd _) ?_
  rintro j hj;refine Z1 O O ?_;refine Gp O O (fun hc33=>?_) (fun hc33=>?_)
  ·have hlj:j<rk.2.length:=Ts;obtain⟨a,haa⟩:=Bb (hkb _ (ar hlj)).1;have hal:a<S.attrs.length:=by have:=(hkb _ (ar hlj)).2;omega
   have hpv:(aF rk.2)[j*1]? =some (.int .i64 (a:Int)):=by rw[<-haa];simp[hlj]
   have hpn:=aE hlj;have htk:rk.2.take (j+1)=rk.2.take j++[(a:Int)]:=by rw[AI hlj,haa]
   have hfl:=Fj (l:=S.rels.take k) fun r hr=>hS.l r (S0 hr)
   have htl:(S.rels.take k).length<=1000:=by rw[Pj];omega
   have hLl:((S.rels.take k).flatMap (·.2)++rk.2.take j).length<=2000000:=by rw[Ph,Pj];omega
   generalize hLS:(S.rels.take k).flatMap (·.2)++rk.2.take j=LS at*;have hua:=xr (ls:=LS) hal;have hus:=E0 (ls:=LS) hal;have hul:(aF (fJ LS S.attrs.length)).length=S.attrs.length:=by rw[Pg,uh]
   have hcb:LS.count (a:Int)<=2000000:=IS List.count_le_length hLl;exact OR<|Z1 O O<|Rs 35 O O (au ⟨_,underlying3,O⟩ O hpv)<|A1 O<|Z3 O O O O<|Rs 39 O O (b8 ⟨_,underlying3,O⟩ O O hua)<|Y2 O O<|RL.step (d:=none) O O (bK sz3 O O O O Ts)<|Z2 O O O<|⟨(j+1),OU (aS O) ⟨O,PG (b:=some (.cells 3 ((aF (fJ LS S.attrs.length)).set (a*1) (.int .i64 (((LS.count (a:Int):Nat):Int)+1))))) Tt (ag (fun c=>some (Ob.cells 3 c)) (hus.trans (by rw[htk,<-Si,hLS]))),TB⟩ O O,Ts,Ts⟩
  ·exact Gx O<|Z2 O O O<|⟨(k+1),OU (aS O) ⟨O,ag (fun c=>some (Ob.cells 3 (aF (fJ c S.attrs.length)))) (by rw[hfs,show rk.2.take j=rk.2 from aX Ts]),TB⟩ O O,Ts,Ts⟩
 ·have hLl:=Fj (l:=S.rels) fun r hr=>hS.l r hr
  rw[show S.rels.take k=S.rels from aX Ts];generalize S.rels.flatMap (·.2)=LS at*;have hul:(aF (fJ LS S.attrs.length)).length=S.attrs.length:=by rw[Pg,uh]
  refine Gx O<|Z1 O O<|OT (OZ 12 2 2 41 O O)<|Z3 O O O O ?_;refine Gl O (st:=fun x_2:Nat×List Rw=>mkS [(1,pIi r),(3,.ptr 0 0),(7,.osl 1 1 S.attrs.length),(12,.gsl 2 2 x_2.2.length),(44,.pv (mf l)),(45,pIi l.length),(46,pIi x_2.1)] [(0,.mix 30 (sCc S)),(1,.cells 3 (aF (fJ LS S.attrs.length))),(2,.gro 41 (aY x_2.2))] 3)
   (I:=fun x_2=>(x_2.1<=l.length/\x_2.2.length<=x_2.1)/\x_2.2=(l.take x_2.1).filter (bX LS A)) (μ:=fun x_2=>l.length-x_2.1) (x0:=(0,[])) (OU (aS O) (aO O) O O) (⟨⟨cd _,BY _⟩,O⟩) ?_
  rintro⟨i,q⟩ ⟨hi,hq⟩;try simp only at hi hq ⊢
  refine Z1 O O ?_;refine Gp O O (fun hc47=>?_) (fun hc47=>?_)
  ·have hil:i<l.length:=Ts;have hrw:=eK hil;have hrn:=gC hil;have hxl:=hv _ (ar hil);have hql:=bJ q;have htk2:l.take (i+1)=l.take i++[l[i]]:=AI hil;generalize l[i]=x at*;refine OR<|Z1 O O ?_;first|refine A3 O Tv ?_|refine A1 O ?_
   refine Y2 O O<|Z1 O O<|Z3 O O O O<|Rs 53 O O (ae r underlying27 JV O O O hr hrne)<|A1 O<|Rs 55 O O (au ⟨_,underlying22,O⟩ O hra)<|Y2 O O ?_;refine Gl O (st:=fun x_3:Nat×Bool=>mkS [(1,pIi r),(3,.ptr 0 0),(7,.osl 1 1 S.attrs.length),(12,.gsl 2 2 q.length),(14,.ptr 3 0),(15,.pv (.bool x_3.2)),(44,.pv (mf l)),(45,pIi l.length),(46,pIi i),(55,.pv (ai A)),(56,pIi A.length),(57,pIi x_3.1)] [(0,.mix 30 (sCc S)),(1,.cells 3 (aF (fJ LS S.attrs.length))),(2,.gro 41 (aY q)),(3,.mix 41 [.pv (aZ x.v),pIi x.w])] 4)
    (I:=fun x_3=>x_3.1<=A.length/\x_3.2=((A.zip x.v).take x_3.1).all fun p=> !(p.2.toList==(⟨#[]⟩:ByteArray).toList)||((LS.count p.1:Nat):Int)==1) (μ:=fun x_3=>A.length-x_3.1) (x0:=(0,true)) (OU (aS O) (aO O) O O) (⟨cd _,O⟩) ?_
   rintro⟨j,b⟩ ⟨hj,hb⟩;try simp only at hj hb ⊢
   refine Z1 O O ?_;refine Gp O O (fun hc58=>?_) (fun hc58=>?_)
   ·have hlj:j<A.length:=Ts;have hzs:=q8 hxl hlj fun p=> !(p.2.toList==(⟨#[]⟩:ByteArray).toList)||((LS.count p.1:Nat):Int)==1
    obtain⟨a,haa⟩:=Bb (hrb _ (ar hlj)).1;have hal:a<S.attrs.length:=by have:=(hrb _ (ar hlj)).2;omega
    have hpv:(aF A)[j*1]? =some (.int .i64 (a:Int)):=by rw[<-haa];simp[hlj]
    have hpn:=aE hlj;have hjv:j<x.v.length:=Ts;have hsv:=bz hjv;have hsn:=bA hjv;have hua:=xr (ls:=LS) hal;rw[<-hb,haa]at hzs;simp only at hzs;refine OR<|Z2 O O O<|Rs 61 O O (au ⟨_,underlying3,O⟩ O hpv)<|Y2 O O ?_;by_cases hbt:b=true
    ·by_cases hve:(x.v[j].toList==(⟨#[]⟩:ByteArray).toList)=true
     ·refine Gr O<|Rs 62 O O (XJ.cast (v':= .pv (.bool true)) (mv O) (ag (fun b=>V.pv (.bool b)) hbt)) ?_;iterate 5 refine A1 O ?_
      refine Rg 68 O O O (au ⟨_,underlying9,O⟩ O hsv)<|Rg 69 O O O (XJ.cast (v':= .pv (.bool false)) (dh O O O) (ag (fun b=>V.pv (.bool !b)) hve)) ?_;iterate 4 refine A1 O ?_
      refine Rg 74 O O O (b8 ⟨_,underlying3,O⟩ O O hua) ?_;iterate 4 refine A1 O ?_
      exact Z2 O O O<|⟨(j+1,(((LS.count (a:Int):Nat):Int)==1)),OU (aS O) (aO O) O O,⟨Ts,by simp only;rw[hzs,hbt,hve];rfl⟩,Tz⟩
     ·refine Gr O<|Rs 62 O O (XJ.cast (v':= .pv (.bool true)) (mv O) (ag (fun b=>V.pv (.bool b)) hbt)) ?_;iterate 5 refine A1 O ?_
      refine Rg 68 O O O (au ⟨_,underlying9,O⟩ O hsv)<|Rg 69 O O O (XJ.cast (v':= .pv (.bool true)) (dh O O O) (ag (fun b=>V.pv (.bool !b)) (Sr hve))) ?_;iterate 9 refine A1 O ?_
      exact Z2 O O O<|⟨(j+1,true),OU (aS O) (aO O) O O,⟨Ts,by simp only;rw[hzs,hbt,Sr hve];rfl⟩,Tz⟩
    ·refine Gr O<|Rs 62 O O (XJ.cast (v':= .pv (.bool false)) (mv O) (ag (fun b=>V.pv (.bool b)) (Sr hbt))) ?_;iterate 16 refine A1 O ?_
     exact Z2 O O O<|⟨(j+1,false),OU (aS O) (aO O) O O,⟨Ts,by simp only;rw[hzs,Sr hbt,Bool.false_and]⟩,Tz⟩
   ·have hbl:bX LS A x=b:=by unfold bX;rw[hb,aX Tx]
    refine Gx O<|Z1 O O ?_;refine Gc O O (fun hc79=>?_) (fun hc79=>?_)
    ·refine Ge O follows [0,1,2,3,4,5,6,7,8,9] Tt ?_;iterate 3 refine D1 O O ?_
     refine Ds 83 [] O O O (fun τ h=>aa call117 (vh x.v Ts) (h.aL O)) O Tt ?_;iterate 6 refine D1 O O ?_
     refine⟨Tt,?_⟩;exact Z2 O O O<|⟨(i+1,q++[x]),OV [0,1,5] ⟨O,O,O,ag (fun n=>V.gsl 5 2 n) (jJ q x),O,O,O,TB⟩ ⟨O,O,PG (b:=some (.gro 41 (aY q++ny x))) Tt (ag (fun c=>some (Ob.gro 41 c)) (rQ q x)),TB⟩ O O Tu O,⟨⟨Ts,by simp only[Ph,PI];omega⟩,by rw[htk2,Sw,<-hq];simp only[RE,List.filter_nil];rw[AT (hbl.trans hc79)]⟩,Tz⟩
    ·exact OR<|Z2 O O O<|⟨(i+1,q),OU (aS O) (aO O) O O,⟨⟨Ts,Tz⟩,by rw[htk2,Sw,<-hq];simp only[RE,List.filter_nil];rw[dw (by rw[hbl,hc79];decide),PZ]⟩,Tz⟩
  ·exact OT (OX 2 O O)<|Gx O<|Z2 O O O<|Gt O<|⟨_,_,O,O,by rw[show l.filter (bX LS A)=q by rw[hq,aX Ts]];rfl⟩
end
namespace Jn
set_option autoImplicit false

structure SR(R:Type) where
 zero:R
 one:R
 add:R->R->R
 mul:R->R->R
 add_assoc:∀a b c,add (add a b) c=add a (add b c)
 zero_add:∀a,add zero a=a
 add_zero:∀a,add a zero=a
 mul_assoc:∀a b c,mul (mul a b) c=mul a (mul b c)
 mul_comm:∀a b,mul a b=mul b a
 one_mul:∀a,mul one a=a
 zero_mul:∀a,mul zero a=zero
 add_mul:∀a b c,mul (add a b) c=add (mul a c) (mul b c)

inductive Tr where
 |node (v:Int) (ts:List Tr)
mutual
def Tr.vs:Tr->List Int
 | .node v ts=>v::vsL ts
def vsL:List Tr->List Int
 |[]=>[]
 |t::ts=>t.vs++vsL ts
end

end Jn
namespace Jn
set_option autoImplicit false


end Jn
namespace Jn
open Mk
def cw(P:List Int):Nat->Int->Tr
 |0,v=> .node v []
 |k+1,v=> .node v ((aA P v).map (cw P k))
theorem a7{P:List Int}{v c:Int}:c∈aA P v↔∃n:Nat,n<P.length/\c=(n:Int)/\P.getD n 0=v:=by
 unfold aA;rw[Qn,bI];constructor
 ·rintro⟨⟨a,ha,rfl⟩,h⟩;exact⟨a,ha,O,by simpa using h⟩
 ·rintro⟨a,ha,rfl,h⟩;exact⟨⟨a,ha,O⟩,by simpa using h⟩
theorem fc(ts:List Tr):vsL ts=ts.flatMap Tr.vs:=by
 induction ts with
 |nil=>rfl
 |cons t ts ih=>rw[vsL,ih,Py]
theorem vd{α β:Type}(p:α->Bool)(f:α->List β)(l:List α):(l.filter p).flatMap f=l.flatMap fun a=>if p a=true then f a else []:=by
 induction l with
 |nil=>rfl
 | cons a l ih=>
   rw[RE,Py,<-ih];split
   ·rw[Py]
   ·rw[Qa]
mutual
theorem tree_vs(P:List Int):∀(k:Nat)(v:Int),(cw P k v).vs=v::jB P k v
 |0,v=>by rw[cw,Tr.vs,vsL,jB]
 |k+1,v=>by rw[cw,Tr.vs,kids_vs P k v]
theorem kids_vs(P:List Int):∀(k:Nat)(v:Int),vsL ((aA P v).map (cw P k))=jB P (k+1) v
 | k,v=>by
   rw[fc,Sa,jB];unfold aA;rw[vd]
   congr 1
   funext a;rw[tree_vs P k a];simp only[Rk]
end
theorem oa(P:List Int):vsL ((aA P (-1)).map (cw P P.length))=aH P:=kids_vs P P.length (-1)
theorem getD_at{P:List Int}{n:Nat}(hn:n<P.length):P.getD n 0=P[n]:=by simp[List.getD,hn]
section
variable {P:List Int}(hP:UpOk P)
include hP
theorem dN{c:Nat}{v:Nat}(hc:c<P.length)(hv:v<P.length)(h:P.getD c 0=(v:Int)):bP P c=(v:Int)::bP P v:=
 jS hP hc hv (by rw[<-getD_at hc];exact h)
theorem yA:∀(k:Nat)(v:Nat),v<P.length->∀x∈(cw P k v).vs,∃m:Nat,m<P.length/\x=(m:Int)/\(v:Int)∈(m:Int)::bP P m
 | 0,v,hv,x,hx=>by
   rw[cw,Tr.vs,vsL,OF]at hx;exact⟨v,hv,hx,Tw⟩
 | k+1,v,hv,x,hx=>by
   rw[cw,Tr.vs,fc,Sa]at hx;rcases AS.1 hx with rfl|hx
   ·exact⟨v,hv,O,Tw⟩
   ·obtain⟨c,hc,hx⟩:=P5.1 hx;obtain⟨n,hn,rfl,hp⟩:=a7.1 hc;obtain⟨m,hm,rfl,hu⟩:=yA k n hn x hx;have e:=dN hP hn hv hp;refine⟨m,hm,O,PH _ ?_⟩;rcases AS.1 hu with h|h
    ·have:n=m:=Ts;subst this;rw[e];simp
    ·exact rS hP hm (by rw[e];simp) h
theorem Dm{v:Nat}(hv:v<P.length):(bP P v).length+1<=P.length:=by
 have h1:=(lI hP hv).length_eq;have h2:=Re (fun a=>decide (a∈(v:Int)::bP P v)) (upZ P.length);rw[h1,aW,Pd]at h2;exact h2
theorem oF{v:Nat}(hv:v<P.length)(h:P.length<=1+(bP P v).length):aA P v=[]:=by
 rw[List.eq_nil_iff_forall_not_mem];intro c hc;obtain⟨n,hn,rfl,hp⟩:=a7.1 hc;have h1:=Dm hP hn;rw[dN hP hn hv hp,Pd]at h1;omega
theorem uf:∀(k:Nat)(v:Nat),v<P.length->P.length<=k+1+(bP P v).length->cw P (k+1) v=cw P k v
 |0,v,hv,h=>by rw[cw,cw,oF hP hv Ts];rfl
 | k+1,v,hv,h=>by
   rw[cw,cw]
   congr 1
   refine PR fun c hc=>?_
   obtain⟨n,hn,rfl,hp⟩:=a7.1 hc;have e:=dN hP hn hv hp;exact uf k n hn (by rw[e,Pd];omega)
end

end Jn
section
open Mk Jn
abbrev rowP(x:Rw):PV:= .agg (ny x)
theorem xO{d:List (List Rw)}{r:Nat}(h:r<d.length):(dC d)[r*1]? =some (mf d[r]):=by simp[dC,h]
theorem wG{d:List (List Rw)}{r:Nat}(h:r<d.length):dC d≠[]:=fun e=>by have:=er d;rw[e]at this;simp at this;omega
end
section
open Mk Jn
abbrev oZ(S:Sch):Ob:= .mix 30 (sCc S)
abbrev oX(S:Sch)(v l:V)(m:Nat):Ob:= .mix 298 [.pv (.sl none S.attrs.length (aB S.attrs)),.pv (.sl none S.rels.length (aJ S.rels)),.pv (.sl none S.feats.length (aC S.feats)),pIi S.label,v,l,.map m]
end
section
open Mk Jn
def ltS(a b:ByteArray):Prop:=a.data.toList<b.data.toList
instance (a b:ByteArray):Decidable (ltS a b):=inferInstanceAs (Decidable (_<_))
theorem zl(a:ByteArray):¬ltS a a:=List.lt_irrefl _
theorem sS{a b c:ByteArray}(h1:ltS a b)(h2:ltS b c):ltS a c:=List.lt_trans h1 h2
theorem BP{a b:ByteArray}(h1:¬ltS a b)(h2:¬ltS b a):a=b:=DF (List.le_antisymm h2 h1)
def leS(a b:ByteArray):Prop:=¬ltS b a
instance (a b:ByteArray):Decidable (leS a b):=inferInstanceAs (Decidable (¬_))
theorem Ej{a b c:ByteArray}(h1:leS a b)(h2:leS b c):leS a c:=fun h=>by
 by_cases e:a=b
 ·subst e;exact h2 h
 ·have hab:ltS a b:=PT fun k=>e (BP k h1)
  exact h2 (sS h hab)
theorem Cq(a b:ByteArray):leS a b\/leS b a:=by
 by_cases h:ltS b a
 ·exact .inr fun k=>zl a (sS k h)
 ·exact .inl h
theorem Hn{a b:ByteArray}(h1:leS a b)(h2:leS b a):a=b:=BP h2 h1
def o9(l:List ByteArray):List ByteArray:=l.mergeSort fun a b=>decide (leS a b)
theorem kR(l:List ByteArray):(o9 l).Perm l:=Td l _
theorem lF(l:List ByteArray):(o9 l).Pairwise leS:=by
 have:=SE (le:=fun a b:ByteArray=>decide (leS a b)) (by intro a b c h1 h2;simp only[Po]at *; exact Ej h1 h2) (by intro a b;simp only[PQ,Po];exact Cq a b) l;exact this.imp Tw
theorem rE{l r:List ByteArray}(hp:l.Perm r)(hl:l.Pairwise leS):l=o9 r:=
 (hp.trans (kR r).symm).eq_of_pairwise (fun a b _ _ h1 h2=>Hn h1 h2) hl (lF r)
abbrev eb:ByteArray:=⟨#[]⟩
theorem sZ(a:ByteArray):FnP prog 226 [.str a] (· = .bool false):=by
 refine FnP.of func226 O ntmps226 Tw fun m0 w0 F R0=>?_
 exact Z1 O O<|Z4 O O O O O<|Gt O<|⟨_,_,O,O,ag PV.bool Tw⟩
theorem Mc{a b:ByteArray}(h:(a.toList !=b.toList)=false):a=b:=bytes_inj (by simpa using h)
end


section
theorem w5:∃j,prog.info? 311=some j/\j.size≠0:=by
 obtain⟨j,hj,hs⟩:=Rx.1 (show(prog.info? 311).map (·.size)=some 2 by kernel_rfl);exact⟨j,hj,by rw[hs];decide⟩
theorem IM(k:Nat)(cs:List PV):FnO prog 279 2 0 [.ptr big 0] [(big,.mix 311 [.pv .nilptr,.gsl 9001 1 k]),(9001,.gro 5 cs)] (fun v ob'=>v= .tup []/\ob'=ax [(big,.mix 311 [.ptr big 0,.gsl 9001 1 k]),(9001,.gro 5 cs)]):=by
 refine FnO.of func279 O ntmps279 Tw fun m0 w0 F R0=>?_
 obtain⟨j,hj,hj0⟩:=w5;refine Z4 O O O O O<|Rs 6 O O (AB underlying309 O) ?_;refine Gc O O (fun hc6=>?_) (fun hc6=>absurd hc6 Tw);exact Z2 O O O<|Rs 9 O O (Gs underlying309 underlying431 hj hj0 O O Tw)<|Rs 10 O O (Hd func333 Tt Tt Tt Tt O)<|Rs 11 O O (F5 (dp:=_) underlying431 underlying309 hj O Tt O O Tw)<|Y3 O O O<|⟨[],[(big,.mix 311 [.ptr big 0,.gsl 9001 1 k]),(9001,.gro 5 cs)],[],OU trivial (aO O) O O,O,O,O,O,O⟩
theorem Gq(k:Nat)(cs:List PV):FnO prog 279 2 0 [.ptr big 0] [(big,.mix 311 [.ptr big 0,.gsl 9001 1 k]),(9001,.gro 5 cs)] (fun v ob'=>v= .tup []/\ob'=ax [(big,.mix 311 [.ptr big 0,.gsl 9001 1 k]),(9001,.gro 5 cs)]):=by
 refine FnO.of func279 O ntmps279 Tw fun m0 w0 F R0=>?_
 obtain⟨j,hj,hj0⟩:=w5;refine Z4 O O O O O<|Rs 6 O O (AJ underlying309 O O) ?_;refine Gc O O (fun hc6=>absurd hc6 Tw) (fun hc6=>?_);refine Gr O ?_;iterate 5 refine A1 O ?_
 refine Rs 19 O O (zN underlying309 hj O O O) ?_;refine Gc O O (fun hc19=>absurd hc19 Tw) (fun hc19=>?_);exact OR<|⟨[],[(big,.mix 311 [.ptr big 0,.gsl 9001 1 k]),(9001,.gro 5 cs)],[],OU trivial (aO O) O O,O,O,O,O,O⟩
theorem FA(l:List UInt8)(s:ByteArray)(h0:l≠[])(hb:l.length+s.size<=1000000000):FnO prog 190 2 1 [.ptr big 0,.pv (.str s)] [(big,.mix 311 [.ptr big 0,.gsl 9001 1 l.length]),(9001,.gro 5 (aN l))] (fun v ob'=>v= .tup [pIi s.size,.pv .niliface]/\ob'=ax [(big,.mix 311 [.ptr big 0,.gsl 0 1 (l++s.data.toList).length]),(0,.gro 5 (aN (l++s.data.toList)))]):=by
 refine FnO.of func190 O ntmps190 Tw fun m0 w0 F R0=>?_
 have hcc:=Gq l.length (aN l);have hlb:(aN l).length=l.length:=by simp[aN]
 have hlp:=Qe.2 h0;have hll:(l++s.data.toList).length=l.length+s.size:=by rw[Ph,Px];rfl
 have hbb:aN (l++s.data.toList)=aN l++aN s.data.toList:=by simp[aN]
 refine Z2 O O O<|Z1 O O<|Rs 7 O O (bo [big,9001] 0 call279 hcc O O O O ⟨O,O,TB⟩ Tu O)<|Gr O ?_;iterate 6 refine A1 O ?_
 exact Rs 14 O O (vD 0 Ow underlying9 O O hlb O hb hlp O)<|Y3 O O O<|Z4 O O O O O<|Gt O<|⟨[(4,pIi s.size),(5,.pv .niliface)],[(big,.mix 311 [.ptr big 0,.gsl 0 1 (l.length+s.size)]),(0,.gro 5 (aN l++aN s.data.toList))],[pIi s.size,.pv .niliface],OU (aS O) (aO Tt) O O,O,O,O,O,by rw[hll,hbb]⟩
theorem tc(l:List UInt8)(h0:l≠[])(hb:l.length<=1000000000):FnO prog 193 2 0 [.ptr big 0] [(big,.mix 311 [.ptr big 0,.gsl 9001 1 l.length]),(9001,.gro 5 (aN l))] (fun v ob'=>v= .pv (.str ⟨l.toArray⟩)/\ob'=ax [(big,.mix 311 [.ptr big 0,.gsl 9001 1 l.length]),(9001,.fro 5 ⟨l.toArray⟩)]):=by
 refine FnO.of func193 O ntmps193 Tw fun m0 w0 F R0=>?_
 have hlp:=Qe.2 h0;have hre:(Ob.gro 5 (aN l)).real=true:=cL (by simpa[aN]using h0);refine Z1 O O<|Ge O follows [0,1,2,3,4,5,6,7,8,9,10,11] Tt ?_;iterate 4 refine D1 O O ?_
 refine Ds 7 [_] O O O (fun τ h=>OH (Ee h 0 O O) (Eo h 0 O O) hlp hre) O Tt ?_;iterate 5 refine D1 O O ?_
 refine Ds 13 [_] O O O (fun τ h=>GQ underlying390 Tt (Ee h 0 O O) (Eo h 0 O O) (Ee h 1 O O) h0 hb) O Tt<|D1 O O ?_;refine⟨Tt,?_⟩;exact Gt O<|⟨[(2,.pv (.str ⟨l.toArray⟩))],[(big,.mix 311 [.ptr big 0,.gsl 9001 1 l.length]),(9001,.fro 5 ⟨l.toArray⟩)],[.pv (.str ⟨l.toArray⟩)],OU (aS O) (aO Tt) O O,O,O,O,O,O⟩
end
section
open Go.RowKit Go.Sort Go.Lib
theorem Nu(w:World)(T:TypeId)(nd:Nat)(hs:nd<=24):Holds (fun(b:UInt8)=>Value.int .u8 (b.toNat:Int)) (w.alloc (.cells zeros24 T)) w.heap.size 0 (Array.replicate nd (0:UInt8)):=fun j hj=>by
 have hj':j<nd:=by simpa using hj
 refine⟨?_,World.frozen?_alloc_new _ _ _ _⟩;rw[World.cell?_alloc_new,zeros24_at _ Ts,getElem!_pos _ j hj];simp
theorem fin0(w:World)(o:Obj)(dk:Array UInt8)(k:Nat):∃os,(putRow (fun(b:UInt8)=>Value.int .u8 (b.toNat:Int)) (w.alloc o) w.heap.size 0 dk).drewN k=grow (w.drewN k) os:=by
 rw[alloc_eq_grow];obtain⟨os',_,e⟩:=putRow_grow_new (fun(b:UInt8)=>Value.int .u8 (b.toNat:Int)) w #[o] w.heap.size 0 dk (BY _);exact⟨os',by rw[e];rfl⟩
set_option maxHeartbeats 6400000
theorem ur(u:Nat)(hu64:u<18446744073709551616)(w:World)(htab:Lib.TabIs prog w "internal/strconv.uint64pow10" .u64 Lib.pow10Tab):
  Calls prog 280 #[.int .u64 u,.int .i64 10] w fun e w'=>e= .returned (.string ⟨(Lib.decDigits u).toArray⟩)/\∃k os,w'=grow (w.drewN k) os:=by
 by_cases hs:u<100
 ·have hwr:IntKind.i64.wrap (u:Int)=(u:Int):=lj Ts;have hlt:((u:Int)<100):=Ts
  go_enter func280,ntmps280
  go_wp2_with (fail)
  refine(Tryz.internal_strconv_small u hs _).mono ?_;rintro e w' ⟨rfl,rfl⟩
  go_wp2
  go_ret
  exact⟨O,0, #[],by simp[World.drewN_zero]⟩
 ·have hu1:1<=u:=Ts;have hge:¬ ((u:Int)<100):=Ts;have hnd20:Lib.nDigits u<=20:=by have:=Lib.numDigits_eq u hu1 hu64;split at this<;>omega
  have hb3:Lib.nDigits u<=23:=Ts;have hal:prog.arrayLen 434=24:=by simp[Program.arrayLen,underlying434]
  have hsl1:∀W,(Instr.sliceAt 434 (.pointer (some ⟨w.heap.size,0,none⟩)) none (some (.int .i64 (Lib.nDigits u:Int))) none).run prog W= .ok (.slice (some ⟨w.heap.size,0,none⟩) (Lib.nDigits u) 24) W:=fun W=>by
   rw[run_sliceAt_array_h W 434 ⟨w.heap.size,0,none⟩ (by simp[Program.arrayLen,Program.elem,underlying434]) .i64 (Lib.nDigits u:Int) Ts (by rw[hal];omega)]
   go_simp
  have hH0:=Nu w 434 (Lib.nDigits u) Ts;have hfmt:=Tryz.internal_strconv_formatBase10 w.heap.size 0 24 u (Array.replicate (Lib.nDigits u) 0) (w.alloc (.cells Lib.zeros24 434)) hH0 (by rw[Array.size_replicate];exact Lib.lt_pow_nDigits u) hu64 (by rw[Array.size_replicate];omega);rw[Array.size_replicate]at hfmt;have HH0:=Lib.hid hH0;clear hH0 hal
  go_enter func280,ntmps280
  go_wp2_with (fail)
  refine(Tryz.internal_strconv_numDigits u hu1 hu64 _ (Lib.tabIs_alloc htab _)).mono ?_;rintro e w' ⟨rfl,rfl⟩
  go_wp2_with (fail)
  refine hfmt.mono ?_;rintro e w' ⟨rfl,k,v',dk,rfl,hF⟩;have hcv:(convert 277 9 (.slice (some ⟨w.heap.size,0,none⟩) (Lib.nDigits u) 24)).run prog ((putRow (fun(b:UInt8)=>Value.int .u8 (b.toNat:Int)) (w.alloc (.cells Lib.zeros24 434)) w.heap.size 0 dk).drewN k)= .ok (.string ⟨(Lib.decDigits u).toArray⟩) ((putRow (fun(b:UInt8)=>Value.int .u8 (b.toNat:Int)) (w.alloc (.cells Lib.zeros24 434)) w.heap.size 0 dk).drewN k):=by
   have h:=run_convert_bytes_back (P:=prog) ((putRow (fun(b:UInt8)=>Value.int .u8 (b.toNat:Int)) (w.alloc (.cells Lib.zeros24 434)) w.heap.size 0 dk).drewN k) 277 9 5 ⟨w.heap.size,0,none⟩ 24 (Lib.decDigits u) underlying277 underlying5 underlying9 (fun j hj=>by
    rw[Lib.row_is_numeral hF j hj,Lib.add_plain,World.cell?_drewN];exact cell?_putRow (fun(b:UInt8)=>Value.int .u8 (b.toNat:Int)) _ w.heap.size 0 _ dk HH0.out (by rw[hF.size,Array.size_replicate]) j (by rw[hF.size];rw[Lib.decDigits_length]at hj;exact hj))
   rw[Lib.decDigits_length]at h;exact h
  go_wp2
  go_ret
  obtain⟨os,eo⟩:=fin0 w (.cells Lib.zeros24 434) dk k;exact⟨O,k,os,eo⟩
theorem gF(u:Nat)(hu64:u<18446744073709551616):FnP prog 191 [.int .u64 u,.int .i64 10] (· = .str ⟨(Lib.decDigits u).toArray⟩):=by
 have hin:FnP prog 280 [.int .u64 u,.int .i64 10] (· = .str ⟨(Lib.decDigits u).toArray⟩):=by
  intro w R us hG hR hrel;obtain⟨v11,rfl,h11⟩:=kP hrel;obtain⟨v12,rfl,h12⟩:=kP h11;obtain rfl:=lh h12;exact(ur u hu64 w (KY hG)).mono fun e w' ⟨he,k,os,hw⟩=>⟨_,_,he,O,by rw[hw];exact wQ w k os,by simp only[RelP]⟩
 refine FnP.of func191 O ntmps191 Tw fun m0 w0 F R0=>?_
 exact Z1 O O<|Z2 O O O<|Rs 7 O O (aa call280 hin O)<|A1 O<|Gt O<|⟨_,_,O,O,O⟩
end
section
open Mk Jn
section
variable {C:Ctx}{n:Nat}{σ:St}{dst:Option Tmp}{ty t t':TypeId}{pos:String}{after:Array Edge}{gd:Option (Nat×Bool)}{x y:Operand}
theorem tr{e:TypeId}{id:Nat}{s:ByteArray}(id':Nat)(he:ElemIs C.P t e (.int .u8 0) 1 1)(hu:C.P.underlying t'=some .string)(hs:σ.ev n x= .gsl id 1 0)(ho:σ.ob id=some (.gro e []))
  (hy:σ.ev n y= .pv (.str s)) (hb:s.size<=1000000000) (h0:0<s.size) (hid:σ.av id'=true):
  XJ C n ⟨dst,.call { callee:= .builtin .append,args:= #[x,y],argTypes:= #[t,t'] },ty,pos,after,gd⟩ σ ⟨.gsl id' 1 s.size,[(id',some (.gro e (aN s.data.toList))),(id,none)],[id']⟩:=by
 rintro a w Q ⟨m,R,hw⟩;obtain⟨A0,c,hev,hkc,hcm,hz,hp⟩:=hw.gsl hs;obtain⟨rfl,rfl,hmn⟩:=hz O;obtain⟨i,hi,hzz,hsize,hbytes⟩:=info_parts he.info;have hsv:a.eval y= .string s:=hw.str hy;have h63:s.size<=maxLen:=by simp only[maxLen];omega
 have hsl:s.data.toList.length=s.size:=by rw[Px];rfl
 have hne:aN s.data.toList≠[]:=fun e=>by
  have:=ag List.length e;simp only[aN,Pg,hsl,Rt]at this;omega
 have hrun:=Go.run_append_nil_string (P:=C.P) w t t' ty e i (.int .u8 0) he.u hu hi hzz s Ts Ts (by rw[hbytes];omega);have hgr:w.grownBy (w.drew.alloc (.cells (s.data.map (fun b=>Value.int .u8 b.toNat)++Builtin.zeroCells (Value.int .u8 0).cells (grownCap w s.size 0 e-s.size)) e)) none:=⟨O,O,O,Tw,fun q hq _=>heap_alloc_old w.drew _ hq⟩;have hge:=grownCap_ge w s.size 0 e;have hlm:=grownCap_le_maxLen w s.size 0 e h63;have hz1:(Value.int IntKind.u8 0).cells.size=1:=rfl;have hg:=heap_alloc_new w.drew (.cells (s.data.map (fun b=>Value.int .u8 b.toNat)++Builtin.zeroCells (Value.int .u8 0).cells (grownCap w s.size 0 e-s.size)) e);have hcs':(s.data.map (fun b=>Value.int .u8 b.toNat)++Builtin.zeroCells (Value.int .u8 0).cells (grownCap w s.size 0 e-s.size)).size=grownCap w s.size 0 e:=by
  have:s.data.size=s.size:=rfl;simp only[Array.size_append,Array.size_map,size_zeroCells,hz1];omega
 have htk:(s.data.map (fun b=>Value.int .u8 b.toNat)++Builtin.zeroCells (Value.int .u8 0).cells (grownCap w s.size 0 e-s.size)).toList.take s.size=Lib.strCells s:=by
  rw[Array.toList_append,List.take_left' (by rw[Px,Array.size_map];rfl),Array.toList_map];rfl
 generalize (s.data.map (fun b=>Value.int .u8 b.toNat)++Builtin.zeroCells (Value.int .u8 0).cells (grownCap w s.size 0 e-s.size))=cur' at*;generalize grownCap w s.size 0 e=c' at*;generalize hw':w.drew.alloc (.cells cur' e)=w' at*;have hg2:w'.heap[w.heap.size]? =some (.cells cur' e (0,0)):=hg;unfold Oper.wp;have hexec:(execOp a.eval ⟨dst,.call { callee:= .builtin .append,args:= #[x,y],argTypes:= #[t,t'] },ty,pos,after,gd⟩).run C.P w= .ok (.value (.slice (some ⟨w.heap.size,0,none⟩) s.size c')) w':=by
  unfold execOp;simp only[resolve,invoke,builtin,Sem.run_bind,Sem.run_pure,Result.andThen_ok,Sy,bL,Qh,hev,hsv,hrun]
 rw[hexec];have hcl:(aN s.data.toList).length=s.size:=by simp only[aN,Pg,hsl]
 refine⟨_,O,upd (upd m id none) id' (some (w.heap.size,cur'.size)),R,?_⟩;rw[O1];have sub:∀i x,upd m id none i=some x->m i=some x/\i≠id:=fun i x e=>by
  by_cases hi:i=id
  ·subst hi;rw[ay]at e;cases e
  ·rw[aM _ _ hi]at e;exact⟨e,hi⟩
 refine SW.put ((hw.drop id).fresh hid hg2 hgr (fun q hq=>by cases hq) (fun hh=>?_) (fun i b' N' hi e=>?_) (.inr ?_) (.gro e (aN s.data.toList)) ?_ (cL hne)) dst ?_
 ·have:=hw.hr.rsz _ hh;omega
 ·have:=(hw.hr.own i b' N' (sub i _ hi).1).1;omega
 ·have:=hw.hr.frame.size;omega
 ·intro m' av' hR _ _;refine⟨cur',hg2,O,by rw[hcl,hcs'];exact hge,?_⟩;rw[hcl,htk];exact(lG s).mono hR
 ·simp only[Rel];refine⟨by simp[avL],_,c',O,hge,hlm,fun h=>by omega,fun _ b' N' e'=>?_⟩;rw[ay]at e';cases e';exact⟨O,by rw[hcs',PX]⟩
end
theorem pz(s:ByteArray)(h0:0<s.size)(hb:s.size<=1000000000):FnO prog 190 2 1 [.ptr big 0,.pv (.str s)] [(big,.mix 311 [.pv .nilptr,.gsl 9001 1 0]),(9001,.gro 5 [])] (fun v ob'=>v= .tup [pIi s.size,.pv .niliface]/\ob'=ax [(big,.mix 311 [.ptr big 0,.gsl 0 1 s.size]),(0,.gro 5 (aN s.data.toList))]):=by
 refine FnO.of func190 O ntmps190 Tw fun m0 w0 F R0=>?_
 have hcc:=IM 0 [];refine Z2 O O O<|Z1 O O<|Rs 7 O O (bo [big,9001] 0 call279 hcc O O O O ⟨O,O,TB⟩ Tu O)<|Gr O ?_;iterate 6 refine A1 O ?_
 exact Rs 14 O O (tr 0 Ow underlying9 O O O hb h0 O)<|Y3 O O O<|Z4 O O O O O<|Gt O<|⟨[(4,pIi s.size),(5,.pv .niliface)],[(big,.mix 311 [.ptr big 0,.gsl 0 1 s.size]),(0,.gro 5 (aN s.data.toList))],[pIi s.size,.pv .niliface],OU (aS O) (aO Tt) O O,O,O,O,O,O⟩
theorem C4(n:Nat):0<(Lib.decDigits n).length:=by
 cases h:Lib.decDigits n with
 | nil=>
   exfalso;rw[Lib.decDigits]at h;split at h<;>simp at h
 |cons a l=>simp
theorem pd(n:Nat)(hn:n<1000000000)(hl:(Lib.decDigits n).length<=1000):FnP prog 99 [dF (n:Int)] (· = .str ⟨(Lib.decDigits n).toArray⟩):=by
 refine FnP.of func99 O ntmps99 Tw fun m0 w0 F R0=>?_
 have hz:decide ((n:Int)<0)=false:=Pt Ts;have hfu:=gF n Ts;have hdp:=C4 n;rw[show dF (n:Int)= .agg [.bool false,.sl none (aj n).length (bS (aj n))] by show PV.agg [.bool (decide ((n:Int)<0)),bF ((n:Int).natAbs)]=_;rw[hz];rfl];by_cases h0:n=0
 ·subst h0;rw[bg];refine Z2 O O O<|Z4 O O O O O ?_;refine Gc O O (fun hc9=>?_) (fun hc9=>absurd hc9 Tw);exact Z1 O O<|Gt O<|⟨_,_,O,O,by show PV.str ⟨#[48]⟩=_;rw[Lib.decDigits,dif_pos Tu];rfl⟩
 ·have hlm:aj n=[n]:=by
   rw[aj,dw h0,show n/1000000000=0 by omega,bg,SP hn]
  rw[hlm];have hg0:(bS [n])[0]? =some (.int .u64 (n:Int)):=rfl;generalize hD:Lib.decDigits n=D at*;have hDn:D≠[]:=fun e=>by rw[e]at hdp;simp at hdp
  have hws:=pz ⟨D.toArray⟩ (show 0<D.length from hdp) (show D.length<=1000000000 by omega);have hbs:=tc D hDn Ts;refine Z2 O O O<|Z4 O O O O O ?_;refine Gc O O (fun hc=>absurd hc Tw) (fun hc=>?_);refine OR<|Z1 O O<|OT (St.c8 1 1 2 1 5 O O O)<|Z2 O O O ?_;refine Gc O O (fun hc=>absurd hc Tw) (fun hc=>?_);refine OR<|Gr O ?_;iterate 5 refine A1 O ?_
  refine Gl O (st:=fun b:Bool=>bif b then mkS [(1,.ptr 0 0),(3,.ptr 1 0),(4,pIi 0)] [(0,.mix 114 [.pv (.bool false),.pv (.sl none 1 (bS [n]))]),(1,.mix 311 [.pv .nilptr,.gsl 2 1 0]),(2,.gro 5 [])] 3 else mkS [(1,.ptr 0 0),(3,.ptr 1 0),(4,pIi (-1))] [(0,.mix 114 [.pv (.bool false),.pv (.sl none 1 (bS [n]))]),(1,.mix 311 [.ptr 1 0,.gsl 2 1 D.length]),(2,.gro 5 (aN D))] 3)
   (I:=fun _=>True) (μ:=fun b=>bif b then 1 else 0) (x0:=true) (OU (aS O) (aO O) O O) trivial ?_
  rintro(_|_) _
  ·simp only[PE];refine Z2 O O O ?_;refine Gp O O (fun hc=>absurd hc Tu) (fun hc=>?_);exact Gx O<|Gr O<|Rs 40 O O (bo [1,2] 3 call193 hbs O O O O ⟨O,O,TB⟩ Tu O)<|A1 O<|Gt O<|⟨_,_,O,O,O⟩
  ·simp only[Qd];refine Z2 O O O ?_;refine Gp O O (fun hc=>?_) (fun hc=>absurd hc Tu);refine OR<|Z3 O O O O<|Rs 24 O O (ae 0 underlying112 fN O O O Tu (by simp[bS]))<|Rs 25 O O (au ⟨_,underlying300,O⟩ O hg0)<|Rs 26 O O (aa call191 hfu O)<|A1 O<|Gr O ?_;iterate 6 refine A1 O ?_
   refine Gp O O (fun hc=>absurd hc Tw) (fun hc=>?_);exact OR<|Z1 O O<|Rs 39 O O (bo [1,2] 3 call190 hws O O O O ⟨O,O,TB⟩ Tu O)<|Z3 O O O O<|⟨false,OV [0,1,3] (aT O) (aP Tt) O O Tu O,TB,Tu⟩
end
section
theorem GF(g:Nat):dF (g:Int)= .agg [.bool false,bF g]:=by
 show PV.agg [.bool (decide ((g:Int)<0)),bF (g:Int).natAbs]=_;rw[Pt Ts,Qo]
theorem Hl:bF 1= .sl none 1 [.int .u64 1]:=by rw[bF,eU Ts Ts];rfl
theorem Cu(x:Int)(g:Nat)(hg:0<g):(x<0/\0<x.natAbs%g->x/(g:Int)= -((x.natAbs/g+1:Nat):Int)/\x%(g:Int)=((g-x.natAbs%g:Nat):Int))/\
  (¬ (x<0/\0<x.natAbs%g)->x/(g:Int)=sgn (decide (x<0)) (x.natAbs/g)/\x%(g:Int)=((x.natAbs%g:Nat):Int)):=by
 have hd:=Nat.div_add_mod x.natAbs g;have hm:=Rb x.natAbs hg;generalize x.natAbs/g=q at*;generalize x.natAbs%g=r at*;have hq:((g*q:Nat):Int)=(g:Int)*(q:Int):=RX g q;have hq1:(g:Int)* -((q+1:Nat):Int)= -((g:Int)*(q:Int))-(g:Int):=by
  rw[Int.mul_neg,show((q+1:Nat):Int)=(q:Int)+1 from O,Int.mul_add];omega
 constructor
 ·rintro⟨h1,h2⟩;refine(Int.ediv_emod_unique Ts).2 ⟨?_,Ts,Ts⟩;rw[hq1];omega
 ·intro h;by_cases h1:x<0
  ·have hr:r=0:=by
    rcases Qj r with e|e
    ·exact e
    ·exact absurd ⟨h1,e⟩ h
   subst hr;rw[Pn h1];refine(Int.ediv_emod_unique Ts).2 ⟨?_,Ts,Ts⟩;simp only[sgn,Te,Int.mul_neg];omega
  ·rw[Pt h1];refine(Int.ediv_emod_unique Ts).2 ⟨?_,Ts,Ts⟩;simp only[sgn,Qk,SD];omega
theorem nc(x:Int)(g:Nat)(hx:(aj x.natAbs).length<=900000)(hg:0<g)(hg2:g<1000000000):FnP prog 300 [dF x,dF (g:Int)] (· = .tup [dF (x/g),dF (x%g)]):=by
 refine FnP.ofC func300 O ntmps300 Tw fun m0 w0 F R0=>?_
 have hD:FnP prog 364 [bF x.natAbs,bF g] (· = .tup [bF (x.natAbs/g),bF (x.natAbs%g)]):=Cw x.natAbs g Ts hg hg2;obtain⟨hp1,hp2⟩:=Cu x g hg;have hlq:(aj (x.natAbs/g)).length<=900000:=IS (lx (Nat.div_le_self _ _)) hx;have hrg:=Rb x.natAbs hg;have hlg:(aj g).length<=1:=bt.2 Ts;have hn0:=br false (x.natAbs%g);have hn1:=br (decide (x<0)) (x.natAbs/g);rw[GF g];generalize hQ:x.natAbs/g=q at*;generalize hR:x.natAbs%g=r at*;have hr0:decide (((aj r).length:Int)>0)=decide (0<r):=by
  rw[Tj];constructor
  ·intro h;exact np Ts
  ·intro h;have:(aj r).length≠0:=fun e=>by have:=gh.1 e;omega
   omega
 have hnb:(decide (x<0) !=false)=decide (x<0):=Tw;refine Z4 O O O O O<|Z4 O O O O O<|Rs 13 O O (aa call364 hD O) ?_;iterate 5 refine A1 O ?_
 refine Z3 O O O O ?_;apply O3 4 18 22 [19,20,21] O TE
 ·intro hb2;iterate 4 refine A1 O ?_
  exact OW TD O O O
 ·intro hb2;iterate 4 refine A1 O ?_
  exact OW TD O O O
 refine Gc O O (fun hc22=>?_) (fun hc22=>?_)
 ·have hc:x<0/\0<r:=by rw[hr0]at hc22;simpa using hc22
  obtain⟨e1,e2⟩:=hp1 hc;have ha:=tz q 1 Ts (by rw[eU Ts Ts];decide);have hs:=n9 g r Ts Ts;rw[Hl]at ha;have hn2:=br (decide (x<0)) (q+1);have hn3:=br false (g-r);refine Ge O follows [0,1,2,3,4,5,6,7,8] Tt<|D1 O O<|Ds 24 [] O O O (fun τ h=>ak none Tw tX O Tu Tu (h.Cc O O) O) O Tt<|Ds 25 [] O O O (fun τ h=>aa call301 ha (h.aL O)) O Tt ?_;iterate 3 refine D1 O O ?_
  refine Ds 29 [] O O O (fun τ h=>aa call303 hs (h.aL O)) O Tt ?_;iterate 2 refine D1 O O ?_
  refine⟨Tt,?_⟩;refine Gr O ?_;iterate 6 refine A1 O ?_
  exact Rs 36 O O (aa call182 (by rw[hnb];exact hn2) O)<|A1 O<|Rs 38 O O (aa call182 hn3 O)<|Y2 O O<|Gt O<|⟨_,_,O,O,⟨az ⟨_,underlying114,O⟩ je O O O,az ⟨_,underlying114,O⟩ je O O O,TB⟩,by rw[e1,e2,Pn hc.1];rfl⟩
 ·have hc:¬ (x<0/\0<r):=by rw[hr0]at hc22;intro h;simp[h.1,h.2]at hc22
  obtain⟨e1,e2⟩:=hp2 hc;refine OR<|Gr O ?_;iterate 6 refine A1 O ?_
  exact Rs 36 O O (aa call182 (by rw[hnb];exact hn1) O)<|A1 O<|Rs 38 O O (aa call182 hn0 O)<|Y2 O O<|Gt O<|⟨_,_,O,O,⟨az ⟨_,underlying114,O⟩ je O O O,az ⟨_,underlying114,O⟩ je O O O,TB⟩,by rw[e1,e2];rfl⟩
abbrev frC(q:Rat):List PV:=MQ q.num++MQ (q.den:Int)
abbrev frP(q:Rat):PV:= .agg (frC q)
structure FOk(q:Rat):Prop where
 d:q.den<31622
 n:(aj q.num.natAbs).length<=100000
theorem MZ{n:Nat}(h:n<1000000000):(aj n).length<=1:=bt.2 Ts
theorem FOk.dl{q:Rat}(h:FOk q):(aj (q.den:Int).natAbs).length<=1:=MZ (by rw[Qo];have:=h.d;omega)
theorem w6(a:Int):((a-1).sign==0)=decide (a=1):=sign_eq a
theorem gq(q:Rat)(h:FOk q):FnP prog 229 [frP q] (· = .bool (decide (q.den=1))):=by
 refine FnP.of func229 O ntmps229 Tw fun m0 w0 F R0=>?_
 have h1:=kA 1 Ts Ts;have h2:=gJ (q.den:Int) 1 (by have:=h.dl;omega) (by decide+kernel);have e:(((q.den:Int)-1).sign==0)=decide (q.den=1):=by rw[w6,Tj];omega
 refine Z2 O O O<|Ge O follows [0,1,2,3,4,5] Tt ?_;iterate 2 refine D1 O O ?_
 refine Ds 5 [] O O O (fun τ h=>aa call94 h1 O) O Tt<|Ds 6 [] O O O (fun τ h=>aa call98 h2 (h.aL O)) O Tt ?_;iterate 2 refine D1 O O ?_
 refine⟨Tt,?_⟩;exact Gt O<|⟨_,_,O,O,ag PV.bool e⟩
theorem jy(z:Int):FnP prog 227 [dF z] (· =frP (z:Rat)):=by
 refine FnP.ofC func227 O ntmps227 Tw fun m0 w0 F R0=>?_
 have h1:=kA 1 Ts Ts;refine Z2 O O O<|Ge O follows [0,1,2,3] Tt<|D1 O O<|Ds 4 [] O O O (fun τ h=>aa call94 h1 O) O Tt ?_;iterate 2 refine D1 O O ?_
 refine⟨Tt,?_⟩;exact Gt O<|⟨_,_,O,O,⟨az ⟨_,underlying116,O⟩ oW O O O,TB⟩,O⟩
theorem mw(n:Int)(h0: -9223372036854775808<=n)(h1:n<=9223372036854775807):FnP prog 136 [.int .i64 n] (· =frP (n:Rat)):=by
 refine FnP.ofC func136 O ntmps136 Tw fun m0 w0 F R0=>?_
 exact Z1 O O<|Z1 O O<|Rs 4 O O (aa call94 (kA n h0 h1) O)<|Rs 5 O O (aa call227 (jy n) O)<|A1 O<|Gt O<|⟨_,_,O,O,⟨az ⟨_,underlying116,O⟩ oW O O O,TB⟩,O⟩
theorem eh(q:Rat):FnP prog 203 [frP q] (· = .int .i64 q.num.sign):=by
 refine FnP.of func203 O ntmps203 Tw fun m0 w0 F R0=>?_
 exact Z2 O O O<|Z2 O O O<|Rs 5 O O (aa call189 (lC q.num) O)<|A1 O<|Gt O<|⟨_,_,O,O,O⟩
theorem KA(x:Int)(y:Nat)(hx:(aj x.natAbs).length<=900000)(hy:y<1000000000):FnP prog 299 [dF x,dF (y:Int)] (· =dF (Int.gcd x y:Int)):=
 ni E8 (fun x y h h0 h2 hx hy=>N6 h h0 h2 hx) x (y:Int) (.inl (by rw[Qo];exact hy)) Ts (by have:=MZ hy;rw[Qo];omega)
theorem zF(x:Int)(y:Nat)(hy:0<y):(Rat.divInt x y).num=x/(Int.gcd x y:Int)/\((Rat.divInt x y).den:Int)=(y:Int)/(Int.gcd x y:Int):=by
 rw[Rat.num_divInt,Rat.den_divInt,dw Ts,Int.gcd_comm (y:Int) x,Int.sign_eq_one_of_pos Ts,Int.one_mul];refine⟨O,?_⟩;rw[Int.natCast_ediv,show(((y:Int).natAbs:Nat):Int)=(y:Int) by omega]
theorem s9(x:Int)(y:Nat)(hx:(aj x.natAbs).length<=900000)(h0:0<y)(hy:y<1000000000):FnP prog 230 [dF x,dF (y:Int)] (· =frP (Rat.divInt x y)):=by
 refine FnP.ofC func230 O ntmps230 Tw fun m0 w0 F R0=>?_
 have hs:=lC (y:Int);rw[Int.sign_eq_one_of_pos Ts]at hs;have hg:=KA x y hx hy;have hgp:0<Int.gcd x y:=Int.gcd_pos_of_ne_zero_right x Ts;have hgy:Int.gcd x y<=y:=by
  have:=Int.le_of_dvd (show(0:Int)<(y:Int) by omega) (Int.gcd_dvd_right x (y:Int));omega
 obtain⟨e1,e2⟩:=zF x y h0;have hof:=kA 1 Ts Ts;generalize hG:Int.gcd x y=g at*;have hcmp:=gJ (g:Int) 1 (by have:=MZ (n:=g) Ts;rw[Qo];omega) (by decide+kernel);have hd1:=nc x g hx hgp Ts;have hd2:=nc (y:Int) g (by have:=MZ hy;rw[Qo];omega) hgp Ts;have hne:(((g:Int)-1).sign !=0)=decide (g≠1):=by
  have:=w6 (g:Int);rw[bne,this,<-decide_not,Tj];omega
 refine Z3 O O O O<|Z1 O O<|Rs 7 O O (aa call189 hs O)<|A1 O ?_;refine Gp O O (fun hc8=>absurd hc8 Tw) (fun hc8=>?_);refine OR<|Z2 O O O<|Rs 15 O O (aa call299 hg O)<|Y2 O O<|Ge O follows [0,1,2,3] Tt<|D1 O O<|Ds 17 [] O O O (fun τ h=>aa call94 hof O) O Tt<|Ds 18 [] O O O (fun τ h=>aa call98 hcmp (h.aL O)) O Tt<|D1 O O ?_;refine⟨Tt,?_⟩;refine Gc O O (fun hc19=>?_) (fun hc19=>?_)
 ·refine Z2 O O O<|Rs 23 O O (aa call300 hd1 O) ?_;iterate 4 refine A1 O ?_
  refine Z2 O O O<|Rs 29 O O (aa call300 hd2 O) ?_;iterate 4 refine A1 O ?_
  exact Z4 O O O O O<|Gt O<|⟨_,_,O,O,⟨az ⟨_,underlying116,O⟩ oW O O O,TB⟩,by rw[frP,frC,e1,e2];rfl⟩
 ·have hg1:g=1:=by rw[hne]at hc19;simpa using hc19
  have hq:frP (Rat.divInt x y)= .agg (MQ x++MQ (y:Int)):=by rw[frP,frC,e1,e2,hg1,Int.natCast_one,Int.ediv_one,Int.ediv_one]
  exact OR<|Z4 O O O O O<|Gt O<|⟨_,_,O,O,⟨az ⟨_,underlying116,O⟩ oW O O O,TB⟩,by rw[hq];rfl⟩
theorem j5{q:Rat}(h:q.den=1):(q.num:Rat)=q:=Rat.ext O h.symm
theorem vK{a b j k:Nat}(ha:(aj a).length<=j)(hb:(aj b).length<=k):(aj (a*b)).length<=j+k:=by
 refine bt.2 ?_;rw[Nat.pow_add];exact Nat.mul_lt_mul'' (bt.1 ha) (bt.1 hb)
theorem KL{a b k:Nat}(ha:(aj a).length<=k)(hb:(aj b).length<=k):(aj (a+b)).length<=k+1:=by
 refine bt.2 ?_;have h1:=bt.1 ha;have h2:=bt.1 hb;rw[Rq];omega
theorem den_mul{a b:Nat}(ha:a<31622)(hb:b<31622):a*b<1000000000:=
 SV (Qc (show a<=31621 by omega) (show b<=31621 by omega)) Tu
theorem Kr(a b:Rat):Rat.divInt (a.num*b.num) ((a.den*b.den:Nat):Int)=a*b:=by
 rw[Rat.mul_def,Rat.normalize_eq_mkRat,<-Rat.divInt_ofNat]
theorem KD(a b:Rat):Rat.divInt (a.num*(b.den:Int)+b.num*(a.den:Int)) ((a.den*b.den:Nat):Int)=a+b:=by
 rw[Rat.add_def,Rat.normalize_eq_mkRat,<-Rat.divInt_ofNat]
theorem fT(a b:Rat)(ha:FOk a)(hb:FOk b):FnP prog 139 [frP a,frP b] (· =frP (a*b)):=by
 refine FnP.ofC func139 O ntmps139 Tw fun m0 w0 F R0=>?_
 have h1:=gq a ha;have h2:=gq b hb;have hl1:=ha.dl;have hl2:=hb.dl;have hn1:=ha.n;have hn2:=hb.n;have hm1:=eH a.num b.num Ts Ts;have hm2:=eH (a.den:Int) (b.den:Int) Ts Ts;have hw:=jy (a.num*b.num);have hnew:=s9 (a.num*b.num) (a.den*b.den) (by rw[Int.natAbs_mul];have:=vK hn1 hn2;omega) (Tk a.den_pos b.den_pos) (den_mul ha.d hb.d);rw[Kr,show((a.den*b.den:Nat):Int)=(a.den:Int)*(b.den:Int)from RX _ _]at hnew;refine Z3 O O O O<|Z1 O O<|Rs 6 O O (aa call229 h1 O)<|A1 O ?_;apply O3 3 7 10 [8,9] O TE
 ·intro hb2;exact A1 O<|Rg 9 O O O (aa call229 h2 O)<|A1 O<|OW TD O O O
 ·intro hb2;exact Y3 O O O<|OW TD O O O
 refine Gc O O (fun hc10=>?_) (fun hc10=>?_)
 ·have hab:a.den=1/\b.den=1:=by simpa using hc10
  have e:((a.num*b.num:Int):Rat)=a*b:=by rw[RY,j5 hab.1,j5 hab.2]
  exact Z4 O O O O O<|Rs 15 O O (aa call95 hm1 O)<|Rs 16 O O (aa call227 hw O)<|A1 O<|Gt O<|⟨_,_,O,O,⟨az ⟨_,underlying116,O⟩ oW O O O,TB⟩,by rw[<-e];rfl⟩
 ·refine OR<|Ge O follows [0,1,2,3,4,5,6,7,8,9,10,11] Tt ?_;iterate 4 refine D1 O O ?_
  refine Ds 21 [] O O O (fun τ h=>aa call95 hm1 (h.aL O)) O Tt ?_;iterate 4 refine D1 O O ?_
  refine Ds 26 [] O O O (fun τ h=>aa call95 hm2 (h.aL O)) O Tt<|Ds 27 [] O O O (fun τ h=>aa call230 hnew (h.aL O)) O Tt<|D1 O O ?_;refine⟨Tt,?_⟩;exact Gt O<|⟨_,_,O,O,⟨az ⟨_,underlying116,O⟩ oW O O O,TB⟩,O⟩
theorem jN(a b:Rat)(ha:FOk a)(hb:FOk b):FnP prog 140 [frP a,frP b] (· =frP (a+b)):=by
 refine FnP.ofC func140 O ntmps140 Tw fun m0 w0 F R0=>?_
 have h1:=gq a ha;have h2:=gq b hb;have hl1:=ha.dl;have hl2:=hb.dl;have hn1:=ha.n;have hn2:=hb.n;have hk1:(aj (a.num*(b.den:Int)).natAbs).length<=100001:=by rw[Int.natAbs_mul];exact vK hn1 hl2
 have hk2:(aj (b.num*(a.den:Int)).natAbs).length<=100001:=by rw[Int.natAbs_mul];exact vK hn2 hl1
 have ha0:=jj a.num b.num Ts Ts;have hm1:=eH a.num (b.den:Int) Ts Ts;have hm2:=eH b.num (a.den:Int) Ts Ts;have hm3:=eH (a.den:Int) (b.den:Int) Ts Ts;have hs:=jj (a.num*(b.den:Int)) (b.num*(a.den:Int)) Ts Ts;have hw:=jy (a.num+b.num);have hnew:=s9 (a.num*(b.den:Int)+b.num*(a.den:Int)) (a.den*b.den) (IS (lx (Int.natAbs_add_le _ _)) (by have:=KL hk1 hk2;omega)) (Tk a.den_pos b.den_pos) (den_mul ha.d hb.d);rw[KD,show((a.den*b.den:Nat):Int)=(a.den:Int)*(b.den:Int)from RX _ _]at hnew;refine Z3 O O O O<|Z1 O O<|Rs 6 O O (aa call229 h1 O)<|A1 O ?_;apply O3 3 7 10 [8,9] O TE
 ·intro hb2;exact A1 O<|Rg 9 O O O (aa call229 h2 O)<|A1 O<|OW TD O O O
 ·intro hb2;exact Y3 O O O<|OW TD O O O
 refine Gc O O (fun hc10=>?_) (fun hc10=>?_)
 ·have hab:a.den=1/\b.den=1:=by simpa using hc10
  have e:((a.num+b.num:Int):Rat)=a+b:=by rw[Rat.intCast_add,j5 hab.1,j5 hab.2]
  exact Z4 O O O O O<|Rs 15 O O (aa call231 ha0 O)<|Rs 16 O O (aa call227 hw O)<|A1 O<|Gt O<|⟨_,_,O,O,⟨az ⟨_,underlying116,O⟩ oW O O O,TB⟩,by rw[<-e];rfl⟩
 ·refine OR<|Ge O follows [0,1,2,3,4,5,6,7,8,9,10,11,12,13,14,15,16,17] Tt ?_;iterate 4 refine D1 O O ?_
  refine Ds 21 [] O O O (fun τ h=>aa call95 hm1 (h.aL O)) O Tt ?_;iterate 4 refine D1 O O ?_
  refine Ds 26 [] O O O (fun τ h=>aa call95 hm2 (h.aL O)) O Tt<|Ds 27 [] O O O (fun τ h=>aa call231 hs (h.aL O)) O Tt ?_;iterate 4 refine D1 O O ?_
  refine Ds 32 [] O O O (fun τ h=>aa call95 hm3 (h.aL O)) O Tt<|Ds 33 [] O O O (fun τ h=>aa call230 hnew (h.aL O)) O Tt<|D1 O O ?_;refine⟨Tt,?_⟩;exact Gt O<|⟨_,_,O,O,⟨az ⟨_,underlying116,O⟩ oW O O O,TB⟩,O⟩
end
section
theorem H4(k:Nat)(a b:Int)(s t:ByteArray)(w:World):(Op.equalIn (k+2) 147 (.agg #[.int .i64 a,.string s]) (.agg #[.int .i64 b,.string t])).run prog w= .ok (a==b&&s.toList==t.toList) w:=by
 have u3:=underlying3;have u9:=underlying9;have hS:prog.underlying 147=some (.struct (prog.fieldsOf 147)):=Tt;rw[run_equalIn_agg w (k+1) 147 _ _ hS Tryz.stoodInHeld147];simp only[Program.fieldsOf,underlying147]
 go_simp
 by_cases h1:a=b<;>by_cases h2:s.toList=t.toList<;>simp[h1,h2]
structure Par where
 f:Int
 c:ByteArray
structure Trm where
 p:Par
 v:ByteArray
structure Prr where
 a:Par
 b:Par
 v:ByteArray
abbrev oR(p:Par):List PV:=[.int .i64 p.f,.str p.c]
abbrev trmC(t:Trm):List PV:=[.int .i64 t.p.f,.str t.p.c,.str t.v]
abbrev prrC(t:Prr):List PV:=[.int .i64 t.a.f,.str t.a.c,.int .i64 t.b.f,.str t.b.c,.str t.v]
def zg(p q:Par):Bool:=p.f==q.f&&p.c.toList==q.c.toList
def trmEq(p q:Trm):Bool:=zg p.p q.p&&p.v.toList==q.v.toList
def prrEq(p q:Prr):Bool:=(zg p.a q.a&&zg p.b q.b)&&p.v.toList==q.v.toList
theorem mW{w:World}{R:Nat->Prop}{u:Value}{p:Par}(h:RelP w R (.agg (oR p)) u):u= .agg #[.int .i64 p.f,.string p.c]:=by
 simpa[RelP,RelPL]using h
section
variable {C:Ctx}{n:Nat}{σ:St}{dst:Option Tmp}{ty t':TypeId}{pos:String}{after:Array Edge}{gd:Option (Nat×Bool)}{x y:Operand}
theorem G1{p q:Par}(hP:C.P=prog)(hx:σ.ev n x= .pv (.agg (oR p)))(hy:σ.ev n y= .pv (.agg (oR q))):
  XJ C n ⟨dst,.binOp .eql 147 x y t',ty,pos,after,gd⟩ σ ⟨.pv (.bool (zg p q)),[],[]⟩:=
 .lit O fun a w m R hw=>by
  have e1:=mW (hw.pv hx);have e2:=mW (hw.pv hy);have e:(Op.equalIn 10000 147 _ _).run _ w=_:=H4 9998 p.f q.f p.c q.c w;rw[hP];simp[execOp,e1,e2,run_eqGuard_agg w _ _ _ _ _ _ Tryz.eqGuardType147,run_eql_struct,e,uZ,zg,trmEq,prrEq]
end
end
section
open Mk
def sr(s t:ByteArray):Int:=if Op.bytesLess s.toList t.toList=true then-1 else if(!(Op.bytesLess s.toList t.toList||s.toList==t.toList))=true then 1 else 0
theorem EX(s t:ByteArray):FnP prog 135 [.str s,.str t] (· = .int .i64 (sr s t)):=by
 refine FnP.of func135 O ntmps135 Tw fun m0 w0 F R0=>?_
 refine Z1 O O<|Z1 O O<|Rs 8 O O (aa call226 (sZ s) O)<|A1 O<|Z1 O O<|Rs 10 O O (aa call226 (sZ t) O)<|A1 O<|Z1 O O ?_;refine Gc O O (fun hc11=>absurd hc11 Tw) (fun hc11=>?_);refine OR<|Z1 O O ?_;refine Gc O O (fun hc13=>absurd hc13 Tw) (fun hc13=>?_);refine OR<|Z3 O O O O ?_;refine Gc O O (fun hc16=>?_) (fun hc16=>?_)
 ·exact Z1 O O<|Gt O<|⟨_,_,O,O,ag (PV.int .i64) (by rw[sr,AT hc16])⟩
 ·refine OR<|Z3 O O O O ?_;refine Gc O O (fun hc19=>?_) (fun hc19=>?_)
  ·exact Z1 O O<|Gt O<|⟨_,_,O,O,ag (PV.int .i64) (by rw[sr,dw (by rw[hc16];decide),AT hc19])⟩
  ·exact OR<|Z1 O O<|Gt O<|⟨_,_,O,O,ag (PV.int .i64) (by rw[sr,dw (by rw[hc16];decide),dw (by rw[hc19];decide)])⟩
def orI(l:List Int):Int:=(l.find? (· !=0)).getD 0
theorem yY{l:List Int}{k:Nat}(hk:k<l.length)(h:∀i∈l.take k,i=0)(hn:l[k]≠0):orI l=l[k]:=by
 have e:l=l.take k++l[k]::l.drop (k+1):=by rw[<-PC hk,PK]
 have h1:(l.take k).find? (· !=0)=none:=List.find?_eq_none.2 fun x hx=>by simp[h x hx]
 rw[orI]
 conv=>lhs;rw[e]
 rw[List.find?_append,h1,Option.none_or,List.find?_cons_of_pos (by simpa using hn)];rfl
theorem yo{l:List Int}(h:∀i∈l,i=0):orI l=0:=by
 rw[orI,List.find?_eq_none.2 fun x hx=>by simp[h x hx]];rfl
theorem Lo(l:List Int)(hl:l.length<=1000000):FnP prog 211 [ai l] (· = .int .i64 (orI l)):=by
 refine FnP.of func211 O ntmps211 Tw fun m0 w0 F R0=>?_
 refine Z1 O O<|Z1 O O<|Z3 O O O O ?_;refine Gl O (st:=fun TC:Nat=>mkS [(3,pIi 0),(6,.pv (ai l)),(7,pIi l.length),(8,pIi TC)] [] 0)
  (I:=fun TC=>TC<=l.length/\∀i∈l.take TC,i=0) (μ:=fun TC=>l.length-TC) (x0:=(0)) (OU (aS O) trivial O O) (⟨cd _,fun i hi=>by simp at hi⟩) ?_
 rintro k ⟨hk,hz⟩;refine Z1 O O ?_;refine Gp O O (fun hc9=>?_) (fun hc9=>?_)
 ·have hlt:k<l.length:=Ts;have hv:=aQ hlt;have hne:=aE hlt;have hor:=fun h=>yY hlt hz h
  refine OR<|Z1 O O ?_;first|refine A2 O Tv ?_|refine A1 O ?_
  refine A1 O<|Z3 O O O O ?_;refine Gc O O (fun hc14=>?_) (fun hc14=>?_)
  ·exact Z2 O O O<|Gt O<|⟨_,_,O,O,ag (PV.int .i64) (hor (by simpa using hc14)).symm⟩
  ·exact OR<|Z2 O O O<|⟨(k+1),OU (aS O) trivial O O,⟨Ts,fun i hi=>by rw[bC hlt,Pq,OF]at hi;rcases hi with h|rfl;exact hz i h;simpa using hc14⟩,Ts⟩
 ·exact Gx O<|Z2 O O O<|Gt O<|⟨_,_,O,O,ag (PV.int .i64) (yo fun i hi=>hz i (by rwa [aX Ts])).symm⟩
def tK(a b:Int):Int:=if a<b then-1 else if b<a then 1 else 0
def cq(p q:Par):Int:=orI [tK p.f q.f,sr p.c q.c]
theorem FG(p q:Par):FnP prog 129 [.agg (oR p),.agg (oR q)] (· = .int .i64 (cq p q)):=by
 refine FnP.of func129 O ntmps129 Tw fun m0 w0 F R0=>?_
 refine Z3 O O O O<|Ge O follows [0,1,2,3,4,5,6,7,8,9,10,11,12] Tt ?_;iterate 4 refine D1 O O ?_
 refine Ds 9 [] O O O (fun τ h=>aa call212 (DM p.f q.f) (h.aL O)) O Tt ?_;iterate 4 refine D1 O O ?_
 refine Ds 14 [] O O O (fun τ h=>aa call135 (EX p.c q.c) (h.aL O)) O Tt<|Ds 15 [] O O O (fun τ h=>ak none Tw vL O Tu Tu (h.Cc O O) O) O Tt<|Ds 16 [] O O O (fun τ h=>aa call211 (Lo [tK p.f q.f,sr p.c q.c] Tw) (h.aL O)) O Tt<|D1 O O ?_;refine⟨Tt,?_⟩;exact Gt O<|⟨_,_,O,O,O⟩
end
section
namespace Mm
open Jn
theorem uC{p q:Par}:zg p q=true↔p=q:=by
 obtain⟨a,s⟩:=p;obtain⟨b,t⟩:=q;constructor
 ·intro h;simp only[zg,sh,Rk]at h;have e1:a=b:=h.1;have e2:s=t:=bytes_inj h.2;rw[e1,e2]
 ·intro h;rw[h];simp[zg]
instance instBEqPar:BEq Par:=⟨zg⟩
instance instLawPar:LawfulBEq Par where
 eq_of_beq h:=uC.1 h
 rfl:=uC.2 O
abbrev PP:=Par×Par
section
variable {K:Type}[BEq K][LawfulBEq K]
def lk:List (K×Rat)->K->Rat
 |[],_=>0
 |e::l,k=>(if e.1==k then e.2 else 0)+lk l k
omit [LawfulBEq K] in
theorem dA(l m:List (K×Rat))(k:K):lk (l++m) k=lk l k+lk m k:=by
 induction l with
 |nil=>simp[lk,Rat.zero_add]
 |cons e l ih=>simp only[Qq,lk,ih];grind
omit [LawfulBEq K] in
theorem yt(l m:List (K×Rat))(e:K×Rat)(k:K):lk (l++e::m) k=lk (l++m) k+if e.1==k then e.2 else 0:=by
 rw[dA,dA];simp only[lk];grind
theorem pC{l:List (K×Rat)}{k:K}(h:∀e∈l,e.1≠k):lk l k=0:=by
 induction l with
 |nil=>rfl
 | cons e l ih=>
   have h1:(e.1==k)=false:=by
    cases hb:e.1==k with
    |false=>rfl
    |true=>exact absurd (eq_of_beq hb) (h e Tw)
   simp only[lk,h1,ih (fun e' he=>h e' (by simp[he]))];simp[Rat.zero_add]
theorem fv{l:List (K×Rat)}(hn:(l.map (·.1)).Nodup){e:K×Rat}(he:e∈l):lk l e.1=e.2:=by
 obtain⟨l1,l2,rfl⟩:=List.append_of_mem he;rw[yt,pC,Qz,AT O,Rat.zero_add];intro e' he' hk;simp only[PD,bL]at hn;have h1:=Sg.1 hn;have h2:=Rz.1 h1.2.1;rcases Pq.1 he' with h|h
 ·exact h1.2.2 e'.1 (IT.2 ⟨e',h,O⟩) e.1 Tw hk
 ·exact h2.1 (IT.2 ⟨e',h,hk⟩)
def note(l:List (K×Rat))(k:K)(x:Rat):List (K×Rat):=match l.findIdx? (fun e=>e.1==k)with
 |some j=>if x+(l.getD j (k,0)).2=0 then l.eraseIdx j else l.set j (k,x+(l.getD j (k,0)).2)
 |none=>if x=0 then l else l++[(k,x)]
theorem eD{k:K}:∀{l:List (K×Rat)}{j:Nat},l.findIdx? (fun e=>e.1==k)=some j->∃l1 o l2,l=l1++(k,o)::l2/\j=l1.length/\∀e∈l1,e.1≠k
 |[],_,h=>by simp at h
 | e::l,j,h=>by
   rw[List.findIdx?_cons]at h;cases hb:e.1==k with
   | true=>
     rw[hb]at h;simp only[Te,Pe]at h;subst h;have:=eq_of_beq hb;exact⟨[],e.2,l,by rw[<-this];rfl,O,Tw⟩
   | false=>
     rw[hb]at h;simp only[Qk,SD,Rx]at h;obtain⟨j',h1,rfl⟩:=h;obtain⟨l1,o,l2,rfl,rfl,h2⟩:=eD h1;refine⟨e::l1,o,l2,O,O,fun e' he'=>?_⟩;rcases AS.1 he' with rfl|h3
     ·intro e1;rw[e1]at hb;simp at hb
     ·exact h2 e' h3
theorem jO{k:K}{l:List (K×Rat)}(h:l.findIdx? (fun e=>e.1==k)=none):∀e∈l,e.1≠k:=by
 rw[Sv]at h;intro e he e1;have:=h e he;rw[e1]at this;simp at this
theorem nJ{k:K}{l1 l2:List (K×Rat)}{o x:Rat}(h:∀e∈l1,e.1≠k):note (l1++(k,o)::l2) k x=if x+o=0 then l1++l2 else l1++(k,x+o)::l2:=by
 have hf:(l1++(k,o)::l2).findIdx? (fun e=>e.1==k)=some l1.length:=by
  induction l1 with
  |nil=>rw[Qa,List.findIdx?_cons];simp
  | cons e l1 ih=>
    rw[Qq,List.findIdx?_cons];have h1:(e.1==k)=false:=by
     cases hb:e.1==k with
     |false=>rfl
     |true=>exact absurd (eq_of_beq hb) (h e Tw)
    rw[h1,ih (fun e' he=>h e' (by simp[he]))];simp
 unfold note;rw[hf];simp only;have hg:(l1++(k,o)::l2).getD l1.length (k,0)=(k,o):=by simp[List.getD]
 rw[hg];simp only;split
 ·rw[List.eraseIdx_append_of_length_le (BY _)];simp
 ·rw[List.set_append_right _ _ (BY _)];simp
theorem mR{k:K}{l:List (K×Rat)}{x:Rat}(h:∀e∈l,e.1≠k):note l k x=if x=0 then l else l++[(k,x)]:=by
 have hf:l.findIdx? (fun e=>e.1==k)=none:=by
  rw[Sv];intro e he;cases hb:e.1==k with
  |false=>rfl
  |true=>exact absurd (eq_of_beq hb) (h e he)
 unfold note;rw[hf]
theorem eA(l:List (K×Rat))(k:K):(∃l1 o l2,l=l1++(k,o)::l2/\∀e∈l1,e.1≠k)\/∀e∈l,e.1≠k:=by
 cases h:l.findIdx? (fun e=>e.1==k)with
 |none=>exact .inr (jO h)
 |some j=>obtain⟨l1,o,l2,h1,_,h2⟩:=eD h;exact .inl ⟨l1,o,l2,h1,h2⟩
theorem DJ(l:List (K×Rat))(k:K)(x:Rat)(k':K):lk (note l k x) k'=lk l k'+if k==k' then x else 0:=by
 rcases eA l k with⟨l1,o,l2,rfl,h⟩|h
 ·rw[nJ h];split
  ·rename_i h0;rw[yt l1 l2 (k,o)];simp only;split<;>grind
  ·rw[yt l1 l2 (k,o),yt l1 l2 (k,x+o)];simp only;split<;>grind
 ·rw[mR h];split
  ·rename_i h0;rw[h0];simp[S7]
  ·rw[dA];simp only[lk];grind
theorem DG{l:List (K×Rat)}(hn:(l.map (·.1)).Nodup)(k:K)(x:Rat):((note l k x).map (·.1)).Nodup:=by
 rcases eA l k with⟨l1,o,l2,rfl,h⟩|h
 ·rw[nJ h];simp only[PD,bL]at hn;split
  ·rw[PD];exact(List.Sublist.append_left (List.sublist_cons_self _ _) _).nodup hn
  ·simpa using hn
 ·rw[mR h];split
  ·exact hn
  ·rw[PD,Sg];refine⟨hn,Tw,fun a ha b hb e=>?_⟩;obtain⟨e',he',rfl⟩:=IT.1 ha;simp at hb;exact h e' he' (e.trans hb)
theorem qT{l:List (K×Rat)}{k:K}{x:Rat}{e:K×Rat}(h:e∈note l k x):e∈l\/(e.1=k/\e.2≠0/\(e.2=x\/∃o,(k,o)∈l/\e.2=x+o)):=by
 rcases eA l k with⟨l1,o,l2,rfl,hk⟩|hk
 ·rw[nJ hk]at h;split at h
  ·rcases Pq.1 h with h|h
   ·exact .inl (by simp[h])
   ·exact .inl (by simp[h])
  ·rename_i h0;rcases Pq.1 h with h|h
   ·exact .inl (by simp[h])
   ·rcases AS.1 h with rfl|h
    ·exact .inr ⟨O,h0,.inr ⟨o,Tw,O⟩⟩
    ·exact .inl (by simp[h])
 ·rw[mR hk]at h;split at h
  ·exact .inl h
  ·rename_i h0;rcases Pq.1 h with h|h
   ·exact .inl h
   ·simp at h;subst h;exact .inr ⟨O,h0,.inl O⟩
end
structure Sem where
 c:Rat
 s:Par->Rat
 p:Par->Par->Rat
theorem Sem.same{a b:Sem}(h1:a.c=b.c)(h2:∀x,a.s x=b.s x)(h3:∀x y,a.p x y=b.p x y):a=b:=by
 obtain⟨c,s,p⟩:=a;obtain⟨c',s',p'⟩:=b;simp only at h1 h2 h3;rw[h1,funext h2,funext fun x=>funext (h3 x)]
def Sem.zero:Sem:=⟨0,fun _=>0,fun _ _=>0⟩
def Sem.one:Sem:=⟨1,fun _=>0,fun _ _=>0⟩
def Sem.add(a b:Sem):Sem:=⟨a.c+b.c,fun x=>a.s x+b.s x,fun x y=>a.p x y+b.p x y⟩
def Sem.mul(a b:Sem):Sem:=⟨a.c*b.c,fun x=>a.c*b.s x+b.c*a.s x,fun x y=>a.c*b.p x y+b.c*a.p x y+(a.s x*b.s y+a.s y*b.s x)⟩
def uV:SR Sem where
 zero:=Sem.zero
 one:=Sem.one
 add:=Sem.add
 mul:=Sem.mul
 add_assoc a b c:=Sem.same (by simp only[Sem.add];grind) (fun x=>by simp only[Sem.add];grind) (fun x y=>by simp only[Sem.add];grind)
 zero_add a:=Sem.same (by simp only[Sem.add,Sem.zero];grind) (fun x=>by simp only[Sem.add,Sem.zero];grind) (fun x y=>by simp only[Sem.add,Sem.zero];grind)
 add_zero a:=Sem.same (by simp only[Sem.add,Sem.zero];grind) (fun x=>by simp only[Sem.add,Sem.zero];grind) (fun x y=>by simp only[Sem.add,Sem.zero];grind)
 mul_assoc a b c:=Sem.same (by simp only[Sem.mul];grind) (fun x=>by simp only[Sem.mul];grind) (fun x y=>by simp only[Sem.mul];grind)
 mul_comm a b:=Sem.same (by simp only[Sem.mul];grind) (fun x=>by simp only[Sem.mul];grind) (fun x y=>by simp only[Sem.mul];grind)
 one_mul a:=Sem.same (by simp only[Sem.mul,Sem.one];grind) (fun x=>by simp only[Sem.mul,Sem.one];grind) (fun x y=>by simp only[Sem.mul,Sem.one];grind)
 zero_mul a:=Sem.same (by simp only[Sem.mul,Sem.zero];grind) (fun x=>by simp only[Sem.mul,Sem.zero];grind) (fun x y=>by simp only[Sem.mul,Sem.zero];grind)
 add_mul a b c:=Sem.same (by simp only[Sem.mul,Sem.add];grind) (fun x=>by simp only[Sem.mul,Sem.add];grind) (fun x y=>by simp only[Sem.mul,Sem.add];grind)
def db(D:Int)(q:Rat):Prop:=∃z:Int,q*(D:Rat)=(z:Rat)
theorem db.add{D:Int}{a b:Rat}(ha:db D a)(hb:db D b):db D (a+b):=by
 obtain⟨x,hx⟩:=ha;obtain⟨y,hy⟩:=hb;exact⟨x+y,by rw[Rat.add_mul,hx,hy,Rat.intCast_add]⟩
theorem db.mul{D E:Int}{a b:Rat}(ha:db D a)(hb:db E b):db (D*E) (a*b):=by
 obtain⟨x,hx⟩:=ha;obtain⟨y,hy⟩:=hb;exact⟨x*y,by rw[RY,RY,<-hx,<-hy];grind⟩
theorem db.ofInt(D z:Int):db D (z:Rat):=⟨z*D,by rw[RY]⟩
theorem db.up{D:Int}(E:Int){a:Rat}(ha:db D a):db (D*E) a:=by
 obtain⟨x,hx⟩:=ha;exact⟨x*E,by rw[RY,RY,<-hx];grind⟩
theorem db.den{D:Int}{q:Rat}(h:db D q):(q.den:Int)∣D:=by
 obtain⟨z,hz⟩:=h;have h1:q.num*D*((1:Nat):Int)=z*((q.den*1:Nat):Int):=by
  have e1:q*(D:Rat)=mkRat (q.num*D) (q.den*1):=Rat.mul_def' q (D:Rat);have e2:(z:Rat)=mkRat z 1:=(Rat.mkRat_self (z:Rat)).symm;rw[e1,e2]at hz;exact(Rat.mkRat_eq_iff (by have:=q.den_pos;omega) Tu).1 hz
 simp only[PX,Int.natCast_one,Int.mul_one]at h1;have h2:q.den∣q.num.natAbs*D.natAbs:=by
  rw[<-Int.natAbs_mul,h1,Int.natAbs_mul,Qo];exact Nat.dvd_mul_left _ _
 exact Int.ofNat_dvd_left.2 (Nat.Coprime.dvd_of_dvd_mul_left q.reduced.symm h2)
theorem db.Jq{D:Int}(hD:0<D){q:Rat}(h:db D q):(q.den:Int)<=D:=Int.le_of_dvd hD h.den
def a6(B:Nat)(q:Rat):Prop:= -(B:Rat)<=q/\q<=(B:Rat)
theorem a6.zero(B:Nat):a6 B 0:=by
 have h:(0:Rat)<=(B:Rat):=by
  have:=Rat.natCast_le_natCast.2 (cd B);exact this
 constructor
 ·grind
 ·exact h
theorem a6.up{B C:Nat}{q:Rat}(h:a6 B q)(hb:B<=C):a6 C q:=by
 have h1:(B:Rat)<=(C:Rat):=Rat.natCast_le_natCast.2 hb;obtain⟨h2,h3⟩:=h;constructor<;>grind
theorem a6.add{B C:Nat}{a b:Rat}(ha:a6 B a)(hb:a6 C b):a6 (B+C) (a+b):=by
 obtain⟨h1,h2⟩:=ha;obtain⟨h3,h4⟩:=hb;have h5:((B+C:Nat):Rat)=(B:Rat)+(C:Rat):=Rat.natCast_add B C;constructor
 ·rw[h5];grind
 ·rw[h5];grind
theorem a6.num{B:Nat}{q:Rat}(h:a6 B q):q.num.natAbs<=B*q.den:=by
 obtain⟨h1,h2⟩:=h;rw[Rat.le_iff]at h1 h2;have e1:((B:Nat):Rat).num=(B:Int):=rfl;have e2:((B:Nat):Rat).den=1:=rfl;have e3:(-((B:Nat):Rat)).num= -(B:Int):=rfl;have e4:(-((B:Nat):Rat)).den=1:=rfl;rw[e1,e2]at h2;rw[e3,e4]at h1;have h3:((B*q.den:Nat):Int)=(B:Int)*(q.den:Int):=Tw;rw[Int.neg_mul]at h1;omega
theorem a6.mul{B C:Nat}{a b:Rat}(ha:a6 B a)(hb:a6 C b):a6 (B*C) (a*b):=by
 have key:∀x y B C:Rat, -B<=x->x<=B-> -C<=y->y<=C->x*y<=B*C:=by
  intro x y B C h1 h2 h3 h4;have hB:0<=B:=by grind
  have hC:0<=C:=by grind
  by_cases hx:0<=x
  ·have e1:x*y<=x*C:=Rat.mul_le_mul_of_nonneg_left h4 hx;have e2:x*C<=B*C:=Rat.mul_le_mul_of_nonneg_right h2 hC;exact Rat.le_trans e1 e2
  ·have hx':0<= -x:=by grind
   have e1:(-x)*(-y)<=(-x)*C:=Rat.mul_le_mul_of_nonneg_left (by grind) hx';have e2:(-x)*C<=B*C:=Rat.mul_le_mul_of_nonneg_right (by grind) hC
   grind
 obtain⟨h1,h2⟩:=ha;obtain⟨h3,h4⟩:=hb;have h5:((B*C:Nat):Rat)=(B:Rat)*(C:Rat):=Rat.natCast_mul B C;constructor
 ·rw[h5];have:=key (-a) b (B:Rat) (C:Rat) (by grind) (by grind) h3 h4
  grind
 ·rw[h5];exact key a b (B:Rat) (C:Rat) h1 h2 h3 h4
theorem fZ{K:Type}[BEq K][LawfulBEq K]{B:Nat}{l:List (K×Rat)}(hn:(l.map (·.1)).Nodup)(h:∀e∈l,a6 B e.2)(k:K):a6 B (lk l k):=by
 rcases eA l k with⟨l1,o,l2,rfl,_⟩|hk
 ·have:=fv hn (e:=(k,o)) Tw;simp only at this;rw[this];exact h (k,o) Tw
 ·rw[pC hk];exact a6.zero B
end Mm
end
end Go.Proofs.YtoplpepiabedhaaGreatDoor
