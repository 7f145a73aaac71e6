/- Lemmas. No condition. -/
import Derived.Lib.Builder
import Derived.Lib.UnsafeStr
import Derived.Lib.AppendStr
import Derived.Laws.Externs
import Derived.Laws.Pointers
import Derived.Lib.Walk
import Derived.Lib.ItoaMem
import Derived.BigCall
import Derived.BigGuard
import Derived.Laws.StructEq
import Derived.Tactics
import Derived.Tactics2
import Derived.Test.YtoplpepiabedhaaGreatDoorJC7
set_option maxRecDepth 100000
set_option maxHeartbeats 4000000
open Go.RowKit Go.Proofs.Tryz
open Option renaming some→Sh,none→Sl
open Bool renaming true→Sm,false→S1
namespace Go.Proofs.YtoplpepiabedhaaGreatDoor
variable{l A ls:List Int}{j c r id off v k b n a B C:Nat}{s:ByteArray}{f:FuncId}{e T d:TypeId}{o:Ob}{P:Program}{cs:List V}{w:World}{R:Nat->Prop}{q x:Rat}{S:Sch}{α:Type}{D:Int}
section
open Mk Jn
def Lp:List ByteArray:=[⟨#[114,101,100]⟩,⟨#[103,114,101,101,110]⟩,⟨#[98,108,117,101]⟩]
def uZ:List ByteArray:=[⟨#[49]⟩,⟨#[50]⟩,⟨#[49,48]⟩]
def CF:List ByteArray:=[⟨#[48]⟩,⟨#[49]⟩,⟨#[45,50]⟩,⟨#[49,47,50]⟩,⟨#[51]⟩,⟨#[53,47,51]⟩,⟨#[49]⟩,⟨#[50]⟩]
def iB(kd:Int):List ByteArray:=⟨#[]⟩::(if kd=3 then Lp else if kd=1 then uZ else CF)
def MO(c:Nat)(kd:Int):ByteArray:=if c=8 then⟨#[]⟩else if kd=3 then Lp.getD (c%3) ⟨#[]⟩else if kd=1 then uZ.getD (c%3) ⟨#[]⟩else CF.getD c ⟨#[]⟩
theorem jg{l:List ByteArray}(h:j<l.length):l.getD j ⟨#[]⟩=l[j]/\l[j]∈l:=⟨by simp[List.getD,h],au h⟩
theorem Jx(kd:Int)(h:c<9):MO c kd∈iB kd:=by
 unfold MO iB;by_cases h8:c=8
 .rw[AT h8];simp
 .rw[dt h8];refine RX _ ?_;by_cases h3:kd=3
  .rw[AT h3,AT h3];have:=jg (l:=Lp) (j:=c%3) (Ti _ Vh);rw[this.1];exact this.2
  .rw[dt h3,dt h3];by_cases h1:kd=1
   .rw[AT h1,AT h1];have:=jg (l:=uZ) (j:=c%3) (Ti _ Vh);rw[this.1];exact this.2
   .rw[dt h1,dt h1];have:=jg (l:=CF) (j:=c) (by have e:CF.length=8:=rfl;omega);rw[this.1];exact this.2
theorem Bk(L:List Int)(k:Nat)(W:L.length<=600)(X:k<=L.length)(nm:ByteArray)(kd:Int):
  FnM prog 170 91 (ig L k) [.agg [.str nm,.int .i64 kd]] (λv c=>v= .str (MO (sNv L k 9).toNat kd)/\c=ig L (sNk L k)):=by
 refine FnM.of func170 O ntmps170 Vj O Vj λm0 w0 F R0=>?_
 have J:=gG L k 9 W X Vh Vh;have M:=jP L k 9 Vh;obtain⟨c,hc⟩:=Rm M.1;have U:c<9:=Vf;rw[hc]at J;rw[hc,RH];refine Z2 O<|Z1 O<|Rs O (bS call12 J O O)<|A1 O<|Z3 O<|Gc O (λH=>?_) (λH=>?_)
 .have h8:c=8:=by have h:(c:Int)=8:=(by simpa using H);omega
  exact Z1 O<|Gt O<|⟨_,ig L (sNk L k),O,O,ag PV.str (by rw[MO,AT h8]),O⟩
 .have h8:¬c=8:=by have h:¬ (c:Int)=8:=(by simpa using H);omega
  refine Z4 O<|Gc O (λE=>?_) (λE=>?_)
  .have h3:kd=3:=by simpa using E
   have u:c%3<Lp.length:=Ti _ Vh;have I:=bE u;have z:=bA u;exact Gr O<|Rs O (ar (vs:=Lp.map λx=> .pv (.str x)) (cs:=bD Lp) Sl Vj Cr O Vh Vh Vg Vg)<|A1 O<|Rs O (XJ.cast (v':= pIi ((c%3:Nat):Int)) (oW O O Vh) O)<|Rs O (ae (c%3) underlying39 sz9 O O O u z)<|Rs O (aq ⟨_,underlying9,O⟩ O I)<|A1 O<|Gt O<|⟨_,ig L (sNk L k),O,O,ag PV.str (by rw[MO,dt h8,AT h3,(jg u).1]),O⟩
  .have h3:¬kd=3:=by simpa using E
   refine Z4 O<|Gc O (λG=>?_) (λG=>?_)
   .have h1:kd=1:=by simpa using G
    have u:c%3<uZ.length:=Ti _ Vh;have I:=bE u;have z:=bA u;exact Gr O<|Rs O (ar (vs:=uZ.map λx=> .pv (.str x)) (cs:=bD uZ) Sl Vj Cr O Vh Vh Vg Vg)<|A1 O<|Rs O (XJ.cast (v':= pIi ((c%3:Nat):Int)) (oW O O Vh) O)<|Rs O (ae (c%3) underlying39 sz9 O O O u z)<|Rs O (aq ⟨_,underlying9,O⟩ O I)<|A1 O<|Gt O<|⟨_,ig L (sNk L k),O,O,ag PV.str (by rw[MO,dt h8,dt h3,AT h1,(jg u).1]),O⟩
   .have h1:¬kd=1:=by simpa using G
    have u:c<CF.length:=by have e:CF.length=8:=rfl;omega
    have I:=bE u;have z:=bA u;exact Q3<|Gr O<|Rs O (ar (vs:=CF.map λx=> .pv (.str x)) (cs:=bD CF) Sl Vj Cr O Vh Vh Vg Vg)<|A1 O<|Rs O (ae c underlying39 sz9 O O O u z)<|Rs O (aq ⟨_,underlying9,O⟩ O I)<|A1 O<|Gt O<|⟨_,ig L (sNk L k),O,O,ag PV.str (by rw[MO,dt h8,dt h3,dt h1,(jg u).1]),O⟩
theorem xW(L:List Int)(k:Nat)(u:L.length<=600)(z:k<=L.length)(nm:ByteArray)(kd:Int):
  ∃x∈iB kd,FnM prog 170 91 (ig L k) [.agg [.str nm,.int .i64 kd]] (λv c=>v= .str x/\c=ig L (sNk L k)):=
 ⟨_,Jx kd (by have:=jP L k 9 Vh;omega),Bk L k u z nm kd⟩
end
section
open Mk Jn
theorem EH(x y:Int)(z:x.natAbs<1000000000)(E:y.natAbs<1000000000):Oj x y:=by
 have u:∀n:Nat,n<1000000000->(ai n).length<=1:=λn h=>bj.2 Vf
 exact pQ (λa b=>a<1000000000/\b<1000000000) (λa b h h0 h1 _ _=>by
  have:=u a h.1;have:=u b h.2;omega) x y ⟨z,E⟩ (by have:=u _ z;omega) (by have:=u _ E;omega)
theorem JT(h:cf s=S1):mP s=⟨#[]⟩:=by
 unfold cf at h;unfold mP;have:∀l m:List UInt8,(Lib.cut l m).2.2=S1->(Lib.cut l m).2.1=[]:=λl m h=>by
  unfold Lib.cut at h ⊢;split at h
  .simp at h
  .split
   .contradiction
   .rfl
 rw[this _ _ h]
theorem Dx(z:Int)(W:z.natAbs<1000000000):FnP prog 327 [dR z] (· = .tup [.int .i64 z,.bool Sm]):=by
 refine FnP.of func327 O ntmps327 Vj λm0 w0 F R0=>?_
 have M:(ai z.natAbs).length<=1:=bj.2 Vf;have H:=lQ (ai z.natAbs) 2 Vf;have U:lim (ai z.natAbs) 2=0:=by rw[kI];omega
 generalize lim (ai z.natAbs) 2=L at*;have J:=fv z.natAbs Vf;have I:IntKind.i64.wrap ((z.natAbs:Nat):Int)=(z.natAbs:Int):=fy Vf;refine Z3 O<|Gr O ?_;iterate 5 refine A1 O ?_
 apply Re 5 9 14 [10,11,12,13] O Vp
 .intro hb4;iterate 5 refine A1 O ?_
  exact Q7 Vo O O O
 .intro hb4;exact Y2 O<|Rg O (aa call365 H O)<|Y2 O<|Q7 Vo O O O
 refine Gc O (λE=>absurd E (λh=>by simp at h;omega)) (λE=>?_);refine Q3<|RW 10 O ?_;iterate 2 refine D1 O ?_
 refine Ds [] O (λτ h=>aa call365 H (h.aK O)) O Vg<|Ds [] O (λτ h=>pg (b:=1000000000) (Ee h 0 O O) (Ee h 1 O O) Vf) O Vg<|Ds [] O (λτ h=>pg (b:=1000000000) (Ee h 0 O O) (Ee h 1 O O) Vf) O Vg ?_;iterate 2 refine D1 O ?_
 refine Ds [] O (λτ h=>aa call376 J (h.aK O)) O Vg<|Ds [] O (λτ h=>XJ.cast (v':= .pv (.int .u64 (z.natAbs:Int))) (rT (b:=z.natAbs) (Ee h 0 O O) (Ee h 1 O O) Vf) (ag (λn:Nat=>V.pv (.int .u64 (n:Int))) Vf)) O Vg<|D1 O ?_;refine⟨Vg,?_⟩;refine Z2 O<|Gp O (λG=>absurd G Vf) (λG=>?_);refine Q3<|Z2 O<|Gc O (λu=>?_) (λu=>?_)
 .have hz0:z<0:=Tm u;exact Z1 O<|Rs O ((iM underlying300 underlying3 O).cast (v':= pIi (z.natAbs:Int)) (ag (λz=>pIi z) I))<|Y3 O<|Gt O<|⟨_,_,O,O,ag (λq=>PV.tup [PV.int IntKind.i64 q,PV.bool Sm]) (show-(z.natAbs:Int)=z by omega)⟩
 .have hz0:¬z<0:=Tn u;exact Q3<|Z1 O<|Rs O ((iM underlying300 underlying3 O).cast (v':= pIi (z.natAbs:Int)) (ag (λz=>pIi z) I))<|Y2 O<|Gt O<|⟨_,_,O,O,ag (λq=>PV.tup [PV.int IntKind.i64 q,PV.bool Sm]) (show(z.natAbs:Int)=z by omega)⟩
theorem vU(s:ByteArray)(h:bh s=Sm)(E:(rdZ s).natAbs<1000000000):FnP prog 266 [.str s] (· = .tup [.int .i64 (rdZ s),.bool Sm]):=by
 refine FnP.of func266 O ntmps266 Vj λm0 w0 F R0=>?_
 have z:=dL s;rw[h]at z;refine Z2 O<|Z1 O<|Rs O (aa call322 z O)<|A1 O<|Gc O (λu=>absurd u Vj) (λu=>?_);refine Q3<|Z1 O<|Rs O (aa call326 (lR s h) O)<|Rs O (aa call327 (Dx _ E) O) ?_;iterate 4 refine A1 O ?_
 exact Gt O<|⟨_,_,O,O,O⟩
theorem mD(s:ByteArray)(h:bh s=Sm)(E:(rdZ s).natAbs<1000000000):FnP prog 264 [.str s] (· = .bool Sm):=by
 refine FnP.of func264 O ntmps264 Vj λm0 w0 F R0=>?_
 have u:decide (rdZ s>= -1000000000)=Sm:=Ru Vf;have z:decide (rdZ s<=1000000000)=Sm:=Ru Vf;refine Z1 O<|Z1 O<|Rs O (aa call266 (vU s h E) O) ?_;iterate 5 refine A1 O ?_
 exact Z3 O<|Rg O (XJ.cast (v':= .pv (.bool Sm)) (aC O O O) (ag (λb=>V.pv (.bool b)) u))<|Y3 O<|Rg O (XJ.cast (v':= .pv (.bool Sm)) (aC O O O) (ag (λb=>V.pv (.bool b)) z))<|Y2 O<|Gt O<|⟨_,_,O,O,O⟩
theorem OL:bh ⟨#[]⟩=S1:=Vg
theorem DK:FnP prog 266 [.str ⟨#[]⟩] (· = .tup [.int .i64 0,.bool S1]):=by
 refine FnP.of func266 O ntmps266 Vj λm0 w0 F R0=>?_
 have z:=dL ⟨#[]⟩;rw[OL]at z;refine Z2 O<|Z1 O<|Rs O (aa call322 z O)<|A1 O<|Gc O (λu=>?_) (λu=>absurd u Vj);exact Z2 O<|Gt O<|⟨_,_,O,O,O⟩
theorem NH:oi ⟨#[]⟩=S1:=Vg
theorem Mx:bh (oa ⟨#[]⟩)=S1:=Vg
theorem BS:FnP prog 265 [.str ⟨#[]⟩] (· = .tup [.str ⟨#[]⟩,.str ⟨#[]⟩,.bool S1]):=by
 refine FnP.of func265 O ntmps265 Vj λm0 w0 F R0=>?_
 have z:=jZ ⟨#[]⟩ Vh (λh=>by rw[Mx]at h;cases h);rw[NH]at z;refine Z3 O<|Z1 O<|Rs O (aa call252 z O)<|A1 O<|Gc O (λu=>?_) (λu=>absurd u Vj);exact Z3 O<|Gt O<|⟨_,_,O,O,O⟩
structure NumOk(v:ByteArray):Prop where
 s:v.size<4294967281
 r:oi v=Sm
 n:bh (oa v)=Sm/\(rdZ (oa v)).natAbs<1000000000
 d:cf v=Sm->bh (mP v)=Sm/\1<=rdZ (mP v)/\rdZ (mP v)<=12
theorem Bd(v:ByteArray)(h:NumOk v):FnP prog 265 [.str v] (· = .tup [.str (oa v),.str (if cf v=Sm then mP v else Ki),.bool Sm]):=by
 refine FnP.of func265 O ntmps265 Vj λm0 w0 F R0=>?_
 have I:bh (oa v)=Sm->Pe v=S1->Oj (rdZ (oa v)) (rdZ (mP v)):=λ_ hb=>by
  refine EH _ _ h.n.2 ?_;have G:=h.r;unfold oi at G;by_cases hs:cf v=Sm
  .have:=h.d hs;omega
  .rw[AT (by rw[h.n.1,Tq hs];rfl)]at G;have e:mP v=⟨#[]⟩:=JT (Tq hs);rw[e];decide
 have H:=jZ v h.s I;rw[h.r]at H;have hc:=Fe v ⟨#[47]⟩ h.s;refine Z3 O<|Z1 O<|Rs O (aa call252 H O)<|A1 O<|Gc O (λz=>absurd z Vj) (λz=>?_);refine Q3<|Z1 O<|Rs O (aa call232 hc O) ?_;iterate 7 refine A1 O ?_
 refine Z2 O<|Gc O (λu=>?_) (λu=>?_)
 .have hs:cf v=S1:=by have E:(!cf v)=Sm:=u;simpa using E
  rw[hs,dt Vh];refine Z1 O<|Gr O ?_;iterate 5 refine A1 O ?_
  exact Gt O<|⟨_,_,O,O,O⟩
 .have hs:cf v=Sm:=by have E:(!cf v)=S1:=u;simpa using E
  rw[hs,AT O];refine Q3<|Gr O ?_;iterate 5 refine A1 O ?_
  exact Gt O<|⟨_,_,O,O,O⟩
theorem pM(nm v:ByteArray)(h:v=⟨#[]⟩\/bh v=Sm/\(rdZ v).natAbs<1000000000):FnP prog 166 [.agg [.str nm,.int .i64 1],.str v] (· = .bool Sm):=by
 refine FnP.of func166 O ntmps166 Vj λm0 w0 F R0=>?_
 refine Z2 O<|Z2 O<|Z2 O<|Gc O (λu=>?_) (λu=>absurd u Vj);by_cases he:v=⟨#[]⟩
 .subst he;refine Z1 O<|Rs O (XJ.cast (v':= .pv (.bool Sm)) (dv O O O) (ag (λb=>V.pv (.bool b)) (S9 _))) ?_;iterate 5 refine A1 O ?_
  exact Gt O<|⟨_,_,O,O,O⟩
 .have hne:(v.toList==(⟨#[]⟩:ByteArray).toList)=S1:=by rw[SL];exact λe=>he (bytes_inj e)
  obtain⟨hv1,hv2⟩:=h.resolve_left he;exact Z1 O<|Rs O (XJ.cast (v':= .pv (.bool S1)) (dv O O O) (ag (λb=>V.pv (.bool b)) hne))<|Y2 O<|Rg O (aa call264 (mD v hv1 hv2) O)<|Y2 O<|Gt O<|⟨_,_,O,O,O⟩
theorem F8(nm v:ByteArray)(h:v=⟨#[]⟩\/gL v=Sm/\v.size<=1000):FnP prog 166 [.agg [.str nm,.int .i64 3],.str v] (· = .bool Sm):=by
 refine FnP.of func166 O ntmps166 Vj λm0 w0 F R0=>?_
 refine Z2 O<|Z2 O<|Z2 O<|Gc O (λu=>absurd u Vj) (λu=>?_);refine Z2 O<|Gc O (λz=>absurd z Vj) (λz=>?_);refine Z2 O<|Gc O (λE=>?_) (λE=>absurd E Vj);by_cases he:v=⟨#[]⟩
 .subst he;refine Z1 O<|Rs O (XJ.cast (v':= .pv (.bool Sm)) (dv O O O) (ag (λb=>V.pv (.bool b)) (S9 _))) ?_;iterate 5 refine A1 O ?_
  exact Gt O<|⟨_,_,O,O,O⟩
 .have hne:(v.toList==(⟨#[]⟩:ByteArray).toList)=S1:=by rw[SL];exact λe=>he (bytes_inj e)
  obtain⟨hv1,hv2⟩:=h.resolve_left he;have G:=vX v Vf;rw[hv1]at G;exact Z1 O<|Rs O (XJ.cast (v':= .pv (.bool S1)) (dv O O O) (ag (λb=>V.pv (.bool b)) hne))<|Y2 O<|Rg O (aa call267 G O)<|Y2 O<|Gt O<|⟨_,_,O,O,O⟩
theorem FZ(nm v:ByteArray)(h:NumOk v)(G:v≠⟨#[]⟩):FnP prog 166 [.agg [.str nm,.int .i64 2],.str v] (· = .bool Sm):=by
 refine FnP.of func166 O ntmps166 Vj λm0 w0 F R0=>?_
 have H:=Bd v h;have u:bh (if cf v=Sm then mP v else Ki)=Sm/\1<=rdZ (if cf v=Sm then mP v else Ki)/\rdZ (if cf v=Sm then mP v else Ki)<=12:=by
  by_cases hs:cf v=Sm
  .rw[AT hs];exact h.d hs
  .rw[dt hs];exact⟨jz,by rw[sy];decide,by rw[sy];decide⟩
 generalize (if cf v=Sm then mP v else Ki)=dn at*;have I:=vU dn u.1 Vf;have J:=mD (oa v) h.n.1 h.n.2;have L:(v.toList==(⟨#[]⟩:ByteArray).toList)=S1:=by rw[SL];exact λe=>G (bytes_inj e)
 have M:decide (rdZ dn>=1)=Sm:=Ru u.2.1;have U:decide (rdZ dn<=12)=Sm:=Ru u.2.2;refine Z2 O<|Z2 O<|Z2 O<|Gc O (λz=>absurd z Vj) (λz=>?_);refine Z2 O<|Gc O (λE=>?_) (λE=>absurd E Vj);refine Z1 O<|Rs O (aa call265 H O) ?_;iterate 7 refine A1 O ?_
 refine Z1 O<|Rs O (aa call266 I O) ?_;iterate 5 refine A1 O ?_
 refine Z1 O<|Rs O (XJ.cast (v':= .pv (.bool S1)) (dv O O O) (ag (λb=>V.pv (.bool b)) L)) ?_;iterate 4 refine A1 O ?_
 exact Rg O (aa call264 J O)<|Y3 O<|Rg O (XJ.cast (v':= .pv (.bool Sm)) (aC O O O) (ag (λb=>V.pv (.bool b)) M))<|Y3 O<|Rg O (XJ.cast (v':= .pv (.bool Sm)) (aC O O O) (ag (λb=>V.pv (.bool b)) U))<|Y3 O<|Gt O<|⟨_,_,O,O,O⟩
theorem Br(nm:ByteArray):FnP prog 166 [.agg [.str nm,.int .i64 2],.str ⟨#[]⟩] (· = .bool Sm):=by
 refine FnP.of func166 O ntmps166 Vj λm0 w0 F R0=>?_
 have E:=BS;have G:=DK;refine Z2 O<|Z2 O<|Z2 O<|Gc O (λu=>absurd u Vj) (λu=>?_);refine Z2 O<|Gc O (λz=>?_) (λz=>absurd z Vj);refine Z1 O<|Rs O (aa call265 E O) ?_;iterate 7 refine A1 O ?_
 refine Z1 O<|Rs O (aa call266 G O) ?_;iterate 5 refine A1 O ?_
 refine Z1 O<|Rs O (XJ.cast (v':= .pv (.bool Sm)) (dv O O O) (ag (λb=>V.pv (.bool b)) (S9 _))) ?_;iterate 16 refine A1 O ?_
 exact Gt O<|⟨_,_,O,O,O⟩
end
section
section
variable {C:Ctx}{n:Nat}{σ:St}{dst:Option Tmp}{ty:TypeId}{ts:Array TypeId}{pos:String}{after:Array Edge}{gd:Option (Nat×Bool)}
theorem bt{xs:Array Operand}{args:List V}{os:List (Nat×Ob)}{k':Nat}{r:V}{X:Nat->Option Ob}(ids:List Nat)(base:Nat)(hc:cu C.P f)(I:FnO C.P f ids.length k' args os (λv ob'=>v=r/\ob'=X))(z:xs.toList.map (σ.ev n)=V.renL (dV ids base) args)
  (J:V.allL (okR ids.length 0) args=Sm) (hos:os.map (·.1)=(List.range ids.length).map (big+ ·)) (E:os.all (λp=>p.2.all (okR ids.length 0))=Sm) (u:fO σ (dV ids base) os)
  (G:ids.Nodup) (H:(nwO base k').all σ.av=Sm):
  XJ C n ⟨dst,.call { callee:= .value (.func f),args:=xs,argTypes:=ts },ty,pos,after,gd⟩ σ ⟨r.ren (dV ids base),wrO ids base k' X,nwO base k'⟩:=
 bM ids base hc z J hos E u G H I (by rintro _ _ ⟨rfl,rfl⟩;rfl)
end
end

section
section
variable {C:Ctx}{n:Nat}{σ:St}{dst:Option Tmp}{ty t t':TypeId}{ts:Array TypeId}{pos:String}{after:Array Edge}{gd:Option (Nat×Bool)}{x y:Operand}
theorem BH(z:C.P.underlying t=Sh (.pointer e))(E:σ.ev n x= .pv .nilptr):
  XJ C n ⟨dst,.binOp .eql t x (.const (.pointer Sl)) t',ty,pos,after,gd⟩ σ ⟨.pv (.bool Sm),[],[]⟩:=
 .val λa w m R hw=>by
  have h:=hw.pv E;simp only[RelP]at h;have hc:a.eval (.const (.pointer Sl))= .pointer Sl:=rfl;have u:C.P.underlying t=Sh (.pointer (C.P.pointee t)):=by simp[Program.pointee,z]
  exact⟨.bool Sm,by simp[execOp,h,eqGuard,hc,run_eql_pointer_nil _ _ _ u],by simp only[Rel,RelP]⟩
theorem Cu(E:C.P.underlying t=Sh (.pointer e))(G:σ.ev n x= .ptr id off)(H:σ.ob id=Sh o)(z:o.real=Sm:=by rfl):
  XJ C n ⟨dst,.binOp .eql t x (.const (.pointer Sl)) t',ty,pos,after,gd⟩ σ ⟨.pv (.bool S1),[],[]⟩:=
 .val λa w m R hw=>by
  obtain⟨b,N,h,_⟩:=hw.ptr G H z;have hc:a.eval (.const (.pointer Sl))= .pointer Sl:=rfl;have u:C.P.underlying t=Sh (.pointer (C.P.pointee t)):=by simp[Program.pointee,E]
  exact⟨.bool S1,by simp[execOp,h,eqGuard,hc,run_eql_pointer_nil _ _ _ u],by simp only[Rel,RelP]⟩
theorem Cg{j:TypeInfo}(E:C.P.underlying t=Sh (.pointer e))(G:C.P.info? e=Sh j)(H:σ.ev n x= .ptr id off)(I:σ.ev n y= .ptr id off)(z:σ.ob id=Sh o)(u:o.real=Sm:=by rfl):
  XJ C n ⟨dst,.binOp .neq t x y t',ty,pos,after,gd⟩ σ ⟨.pv (.bool S1),[],[]⟩:=
 .val λa w m R hw=>by
  obtain⟨b,N,h,hm,_⟩:=hw.ptr H z u;obtain⟨b2,N2,h2,hm2,_⟩:=hw.ptr I z u;rw[hm]at hm2;cases hm2;exact⟨.bool S1,by simp[execOp,h,h2,eqGuard,Lib.run_neq_ptr_same _ _ E G],by simp only[Rel,RelP]⟩
theorem CQ{N d s:Nat}(E:P.depth=d+1)(I:P.cellsOf T=s)(J:s≠0)(L:s<=N):liesAt P P.depth T (N/P.cellsOf T) 0 T 1=Sm:=by
 have H:0<N/s:=Nat.div_pos L Vf;have u:sameLayout P P.depth T T=Sm:=by rw[E];unfold sameLayout;simp
 have z:rowAt P (sameLayout P P.depth · T) P.depth T (N/P.cellsOf T) 0 1=Sm:=by
  rw[show P.depth=d+1 from E];unfold rowAt;rw[I,dt J];have G:sameLayout P (d+1) T T=Sm:=by rw[<-E];exact u
  simp only[Nat.zero_div,Nat.zero_mod,RV,G,Ue,S9,UM];rw[Ru (show 1<=N/s from H)];rfl
 rw[E];unfold liesAt;rw[z];rfl
theorem IE{j:TypeInfo}{s:TypeId}(I:C.P.underlying s=Sh (.pointer e))(J:C.P.underlying d=Sh .unsafePointer)(L:C.P.info? e=Sh j)(E:j.size≠0)(H:σ.ev n x= .ptr id 0)(M:σ.ob id=Sh (.mix T cs))(U:cs≠[]):
  XJ C n ⟨dst,.convert s d x,ty,pos,after,gd⟩ σ ⟨.ptr id 0,[],[]⟩:=
 .val λa w m R hw=>by
  obtain⟨b,N,h,hm,arr,hb,hsz,hle,_⟩:=hw.ptr H M;have u:=hw.ev x;rw[H]at u;have G:0<cs.length:=SS.2 U;have z:w.shape? b=Sh (T,arr.size):=by simp[World.shape?,hb]
  refine⟨a.eval x,?_,u⟩;simp only[execOp,h,Sem.run_bind,Lib.run_to_unsafe w ⟨b,0,Sl⟩ I J L E z (show 0<arr.size by omega),Result.andThen_ok];rfl
theorem Ju{j:TypeInfo}{s:TypeId}{dp:Nat}(I:C.P.underlying s=Sh .unsafePointer)(J:C.P.underlying d=Sh (.pointer T))(L:C.P.info? T=Sh j)(E:C.P.depth=dp+1)(hc:C.P.cellsOf T=cs.length)(H:σ.ev n x= .ptr id 0)(M:σ.ob id=Sh (.mix T cs))(U:cs≠[]):
  XJ C n ⟨dst,.convert s d x,ty,pos,after,gd⟩ σ ⟨.ptr id 0,[],[]⟩:=
 .val λa w m R hw=>by
  obtain⟨b,N,h,hm,arr,hb,hsz,hle,_⟩:=hw.ptr H M;have u:=hw.ev x;rw[H]at u;have G:0<cs.length:=SS.2 U;have z:w.shape? b=Sh (T,arr.size):=by simp[World.shape?,hb]
  refine⟨a.eval x,?_,u⟩;simp only[execOp,h,Sem.run_bind,Lib.run_from_unsafe w ⟨b,0,Sl⟩ I J L z (CQ E hc Vf Vf),Result.andThen_ok];rfl
theorem KP{fn:Func}{v:V}(G:C.P.funcs[f]? =Sh fn)(u:(fn.name== "runtime.NumGoroutine")=S1)(H:fn.body.isNone=Sm)(I:Extern.findNext fn=Sl)(J:Extern.find fn=Sh Extern.AbiNoEscape.same)(L:σ.ev n x=v):
  XJ C n ⟨dst,.call { callee:= .value (.func f),args:= #[x],argTypes:=ts },ty,pos,after,gd⟩ σ ⟨v,[],[]⟩:=
 .val λa w m R hw=>by
  have z:=hw.ev x;rw[L]at z;refine⟨a.eval x,?_,z⟩;have E:=run_callFunc_extern G u H I J #[a.eval x] w;rw[Lib.run_noEscape]at E;simp only[Result.andThen_ok]at E;have hc:a.eval (.func f)= .func (.func f) #[] #[]:=rfl;simp[execOp,resolve,Deferred.ofValue,invoke,hc,E]
theorem Ml(w:World)(t u ty e:TypeId)(i:TypeInfo)(U:P.underlying t=Sh (.slice e))(W:P.underlying u=Sh .string)(X:P.info? e=Sh i)(Y:i.zero=Sh (.int .u8 0))(z:i.size=1)(I:i.bytes=1)
  (g cap k:Nat) (cur:Array Value) (J:w.heap[g]? =Sh (.cells cur e (0,0))) (Z:k<=cap) (L:cap<=maxLen) (aa:cur.size=cap) (s:ByteArray) (hb:k+s.size<=1000000000):
  ∃g' c' w',(Builtin.append_ #[t,u] ty #[.slice (Sh ⟨g,0,Sl⟩) k cap,.string s]).run P w= .ok (.slice (Sh ⟨g',0,Sl⟩) (k+s.size) c') w'/\w.grownBy w' (Sh g)/\(g'=g\/g'=w.heap.size)/\
   k+s.size<=c'/\c'<=maxLen/\∃cur',w'.heap[g']? =Sh (.cells cur' e (0,0))/\cur'.size=c'/\cur'.toList.take (k+s.size)=cur.toList.take k++Lib.strCells s:=by
 have M:(cur.toList.take k++Lib.strCells s).length=k+s.size:=by
  rw[IS,Lib.strCells_length,Rr,RE];omega
 by_cases hroom:k+s.size<=cap
 .refine⟨g,cap,_,Lib.run_append_room_string (P:=P) w t u ty e i U W X z g k cap cur J s hroom Vf,⟨O,O,O,Vj,λq _ hq=>setRow_other w g q _ (λe=>hq (by rw[e]))⟩,.inl O,hroom,L,_,setRow_heap w g cur _ e _ J,?_,?_⟩
  .simp only[RB,IS,Rr,Td,RE,Lib.strCells_length];omega
  .simp only[];rw[show k+s.size=(cur.toList.take k++Lib.strCells s).length from M.symm];exact List.take_left
 .have holds:∀j u,(cur.toList.take k)[j]? =Sh u->w.cell? ((⟨g,0,Sl⟩:Addr).add j)=Sh u:=λj u hj=>by
   rw[Addr.add_lit];simp only[RV];rw[cell_of_row w g j cur e (0,0) J,<-hj,Ry];have E:j<(cur.toList.take k).length:=by
    rcases Uw j (cur.toList.take k).length with h|h
    .exact h
    .rw[SF h]at hj;cases hj
   rw[Rr]at E;rw[AT Vf];simp
  have G:k+s.size<=maxLen:=by simp only[maxLen];omega
  refine⟨w.heap.size,_,_,Lib.run_append_grow_string (P:=P) w t u ty e i (.int .u8 0) U W X Y ⟨g,0,Sl⟩ k cap (cur.toList.take k) (by rw[z,Rr,RE];omega) holds s Vf Vf (by rw[I];exact growslice_fits Vf Vf),
   ⟨O,O,O,Vj,λq hq _=>heap_alloc_old w.drew _ hq⟩,.inr O,grownCap_ge w (k+s.size) cap e,grownCap_le_maxLen w (k+s.size) cap e G,_,heap_alloc_new w.drew _,?_,?_⟩
  .have hge:=grownCap_ge w (k+s.size) cap e;have H:(Value.int IntKind.u8 0).cells.size=1:=rfl;simp only[Array.size_append,RB,size_zeroCells,H,Lib.strCells_length,Rr,RE];omega
  .simp only[Array.toList_append];rw[show k+s.size=(cur.toList.take k++Lib.strCells s).length from M.symm];exact List.take_left
theorem mC(s:ByteArray):RelPL w R (aF s.data.toList) (Lib.strCells s):=by
 unfold aF Lib.strCells;induction s.data.toList with
 |nil=>simp[RelPL]
 |cons a l ih=>exact RelPL.cons (by simp only[RelP]) ih
theorem xd{cs:List PV}(id':Nat)(he:ElemIs C.P t e (.int .u8 0) 1 1)(hu:C.P.underlying t'=Sh .string)(hs:σ.ev n x= .gsl id 1 k)(ho:σ.ob id=Sh (.gro e cs))(M:cs.length=k)
  (hy:σ.ev n y= .pv (.str s)) (hb:k+s.size<=1000000000) (Z:0<k) (aa:σ.av id'=Sm):
  XJ C n ⟨dst,.call { callee:= .builtin .append,args:= #[x,y],argTypes:= #[t,t'] },ty,pos,after,gd⟩ σ ⟨.gsl id' 1 (k+s.size),[(id',Sh (.gro e (cs++aF s.data.toList))),(id,Sl)],[id']⟩:=by
 rintro a w Q ⟨m,R,hw⟩;obtain⟨A0,c,hev,hkc,hcm,hz,hp⟩:=hw.gsl hs;have H:cs≠[]:=λe=>by rw[e]at M;simp at M;omega
 have W:cs++aF s.data.toList≠[]:=λe=>H (List.append_eq_nil_iff.1 e).1
 have E:∀i x,upd m id Sl i=Sh x->m i=Sh x/\i≠id:=λi x e=>by
  by_cases hi:i=id
  .subst hi;rw[aA]at e;cases e
  .rw[aR _ _ hi]at e;exact⟨e,hi⟩
 obtain⟨b,N,hm,arr,hbk,hsz,hle,hr⟩:=hw.live ho (cZ H);obtain⟨rfl,hN⟩:=hp Z b N hm;obtain⟨i,hi,hzz,hsize,hbytes⟩:=info_parts he.info;have G:=hw.hr.own id b N hm;have X:a.eval y= .string s:=hw.str hy;obtain⟨g,c',w',hrun,hgr,hat,hkc',hcm',cur',hg,hcs',htk⟩:=Ml (P:=C.P) w t t' ty e i he.u hu hi hzz hsize hbytes b c k arr hbk hkc hcm Vf s hb;have I:RelPL w R (cs++aF s.data.toList) (arr.toList.take k++Lib.strCells s):=by
  rw[M]at hr;exact hr.append (mC s)
 have z:¬R g/\(∀i b' N',upd m id Sl i=Sh (b',N')->b'≠g)/\(C.F g\/C.w0.heap.size<=g):=by
  rcases hat with h|h
  .rw[h];exact⟨G.2.1,λi b' N' hi e=>(E i _ hi).2 (Hy hw (E i _ hi).1 hm e),G.2.2⟩
  .refine⟨λhh=>?_,λi b' N' hi e=>?_,.inr ?_⟩
   .have:=hw.hr.rsz _ hh;omega
   .have:=(hw.hr.own i b' N' (E i _ hi).1).1;omega
   .have:=hw.hr.frame.size;omega
 have J:¬R b/\(∀i b' N',upd m id Sl i=Sh (b',N')->b'≠b)/\(C.F b\/C.w0.heap.size<=b):=
  ⟨G.2.1,λi b' N' hi e=>(E i _ hi).2 (Hy hw (E i _ hi).1 hm e),G.2.2⟩
 unfold Oper.wp;have L:(execOp a.eval ⟨dst,.call { callee:= .builtin .append,args:= #[x,y],argTypes:= #[t,t'] },ty,pos,after,gd⟩).run C.P w= .ok (.value (.slice (Sh ⟨g,0,Sl⟩) (k+s.size) c')) w':=by
  unfold execOp;simp only[resolve,invoke,builtin,Sem.run_bind,Sem.run_pure,Result.andThen_ok,Ur,bP,SD,hev,X,hrun]
 rw[L];have Y:(arr.toList.take k++Lib.strCells s).length=k+s.size:=by
  rw[IS,Lib.strCells_length,Rr,RE];omega
 have U:(cs++aF s.data.toList).length=k+s.size:=by rw[<-I.length,Y]
 refine⟨_,O,upd (upd m id Sl) id' (Sh (g,cur'.size)),R,?_⟩;rw[Rc];refine SW.put ((hw.drop id).fresh aa hg hgr (λq hq=>by simp at hq;subst hq;exact J) z.1 z.2.1 z.2.2 (.gro e (cs++aF s.data.toList)) ?_ (cZ W)) dst ?_
 .intro m' av' hR _ _;refine⟨cur',hg,O,by rw[U,hcs'];exact hkc',?_⟩;rw[U,htk];exact I.mono hR
 .simp only[Rel];refine⟨by simp[avL],_,c',O,hkc',hcm',λh=>by omega,λ_ b' N' e'=>?_⟩;rw[aA]at e';cases e';exact⟨O,by rw[hcs',R6]⟩
theorem Qc{sz:Nat}(E:σ.ev n x= .gsl id sz k)(G:σ.ob id=Sh o)(H:0<k)(z:o.real=Sm):
  XJ C n ⟨dst,.call { callee:= .builtin .unsafeSliceData,args:= #[x],argTypes:=ts },ty,pos,after,gd⟩ σ ⟨.ptr id 0,[],[]⟩:=
 .val λa w m R hw=>by
  obtain⟨A,c,he,hkc,_,_,hp⟩:=hw.gsl E;obtain⟨b,N,hm,_⟩:=hw.live G z;obtain⟨rfl,_⟩:=hp H b N hm;have u:=hw.ev x;rw[E]at u;simp only[Rel]at u;refine⟨.pointer (Sh ⟨b,0,Sl⟩),?_,?_⟩
  .simp only[execOp,resolve,invoke,builtin,Sem.run_bind,Sem.run_pure,Result.andThen_ok,Ur,bP,SD,he,Lib.run_unsafeSliceData_row w ts ty ⟨b,0,Sl⟩ k c Vf]
  .simp only[Rel];refine⟨u.1,λb' N' e=>?_⟩;rw[hm]at e;cases e;rfl
theorem HT{arr:Array Value}(u:w.heap[b]? =Sh (.cells arr e (0,0)))(z:k≠0):(w.freeze ⟨b,0,Sl⟩ k).heap[b]? =Sh (.cells arr e (0,k)):=by
 unfold World.freeze;rw[dt z];simp only[];rw[TQ,AT O,u];simp
theorem G5{q:Nat}(h:q≠b):(w.freeze ⟨b,0,Sl⟩ k).heap[q]? =w.heap[q]? :=by
 unfold World.freeze;split
 .rfl
 .simp only[];rw[TQ,dt (λe=>h e.symm)]
theorem IJ(w:World)(a:Addr)(k:Nat):(w.freeze a k).heap.size=w.heap.size/\(w.freeze a k).os=w.os/\(w.freeze a k).tape=w.tape/\(w.freeze a k).output=w.output:=by
 unfold World.freeze;split
 .exact⟨O,O,O,O⟩
 .exact⟨Vj,O,O,O⟩
theorem BJ{l:List UInt8}{us:List Value}(h:RelPL w R (aF l) us):us=l.map λc=> .int .u8 c.toNat:=by
 induction l generalizing us with
 |nil=>simp[aF,RelPL]at h;simp[h]
 | cons c l ih=>
   simp only[aF,bP,RelPL,RelP]at h;obtain⟨u,vs,rfl,rfl,h2⟩:=h;rw[bP,<-ih h2]
theorem JP{it:TypeId}{l:List UInt8}(Y:C.P.underlying t=Sh (.pointer e))(hc:C.P.cellsOf e=1)(Z:σ.ev n x= .ptr id 0)(ho:σ.ob id=Sh (.gro e (aF l)))(hy:σ.ev n y= pIi l.length)(W:l≠[])(hb:l.length<=1000000000):
  XJ C n ⟨dst,.call { callee:= .builtin .unsafeString,args:= #[x,y],argTypes:= #[t,it] },ty,pos,after,gd⟩ σ ⟨.pv (.str ⟨l.toArray⟩),[(id,Sh (.fro e ⟨l.toArray⟩))],[]⟩:=by
 rintro a w Q ⟨m,R,hw⟩;have H:aF l≠[]:=by simpa[aF]using W
 obtain⟨b,N,he,hm,arr,hbk,hsz,hle,hr⟩:=hw.ptr Z ho (cZ H);have I:(aF l).length=l.length:=by simp[aF]
 rw[I]at hle hr;have G:=BJ hr;have J:a.eval y= .int .i64 l.length:=hw.int hy;have L:l.length≠0:=by simpa using W
 have u:∀j z,l[j]? =Sh z->w.cell? ((⟨b,0,Sl⟩:Addr).add j)=Sh (.int .u8 z.toNat):=λj z hj=>by
  rw[Addr.add_lit];simp only[RV];have X:(arr.toList.take l.length)[j]? =Sh (.int .u8 z.toNat):=by rw[G,TD,hj];rfl
  have M:j<l.length:=(Rp.1 hj).1;rw[cell_of_row w b j arr e (0,0) hbk,<-X,Ry,AT M];simp
 have U:=Lib.run_unsafeString_row (P:=C.P) w t it ty e Y hc b arr.size (by simp[World.shape?,hbk]) l W Vf Vf u;unfold Oper.wp;have E:(execOp a.eval ⟨dst,.call { callee:= .builtin .unsafeString,args:= #[x,y],argTypes:= #[t,it] },ty,pos,after,gd⟩).run C.P w= .ok (.value (.string ⟨l.toArray⟩)) (w.freeze ⟨b,0,Sl⟩ l.length):=by
  unfold execOp;simp only[resolve,invoke,builtin,Sem.run_bind,Sem.run_pure,Result.andThen_ok,Ur,bP,SD,he,J,U]
 rw[E];obtain⟨q1,q2,q3,q4⟩:=IJ w ⟨b,0,Sl⟩ l.length;refine⟨_,O,m,R,?_⟩;rw[Rc];refine SW.put (hw.turn hm (w.freeze ⟨b,0,Sl⟩ l.length) q1 (λk hk=>G5 hk) q2 q3 q4 (.fro e ⟨l.toArray⟩) λhR=>?_) dst ?_
 .refine⟨arr,?_,hsz,?_,?_⟩
  .rw[HT hbk L];rfl
  .show l.toArray.size<=N;simp;omega
  .show arr.toList.take l.toArray.size=_;simp[G]
 .simp only[Rel,RelP]
end
end
section
open Mk Jn
def MdV(S:Sch)(A:List Int)(v:List ByteArray):Prop:=v.length=A.length/\∀i (h:i<v.length) (h2:i<A.length),v[i]∈iB (S.attrs.getD A[i].toNat default).2
def MdR(S:Sch)(A:List Int)(x:Rw):Prop:=(1<=x.w/\x.w<=5)/\MdV S A x.v
def MdT(S:Sch)(A:List Int)(most:Nat)(l:List Rw):Prop:=∃l0,l=mQ l0/\l0.length<=most/\∀x∈l0,MdR S A x
theorem MS(v:List ByteArray)(x:ByteArray):bD v++[PV.str x]=bD (v++[x]):=Vj
theorem MdV.snoc{v:List ByteArray}(E:j<A.length)(h:v.length=j/\∀i (h:i<v.length) (u:i<A.length),v[i]∈iB (S.attrs.getD A[i].toNat default).2){x:ByteArray}(z:x∈iB (S.attrs.getD A[j].toNat default).2):
  (v++[x]).length=j+1/\∀i (h:i<(v++[x]).length) (u:i<A.length),(v++[x])[i]∈iB (S.attrs.getD A[i].toNat default).2:=by
 obtain⟨rfl,hv⟩:=h;refine⟨Vj,λi h u=>?_⟩;rcases Uw i v.length with h3|h3
 .rw[T6 h3];exact hv i h3 u
 .have e:i=v.length:=by simp at h;omega
  subst e;rw[List.getElem_append_right (BY _)];simpa using z
theorem fZ(l:List α)(a:α):l.length+1=(l++[a]).length:=Vj
theorem DE(L:List Int)(k:Nat)(hL:L.length<=600)(hk:k<=L.length)(S:Sch)(r most:Nat)(hm:most<=100)(hr:r<S.rels.length)(hA:S.rels[r].2.length<=1000)(hb:∀a∈S.rels[r].2,0<=a/\a<S.attrs.length):
  FnM prog 81 91 (ig L k) [eS S,.int .i64 r,.int .i64 most] (λv c=>(∃l,MdT S S.rels[r].2 most l/\v=mH l)/\∃k',k'<=L.length/\c=ig L k'):=by
 refine FnM.of func81 O ntmps81 Vj O Vj λm0 w0 F R0=>?_
 have E:∀k,k<=L.length->sNk L k<=L.length:=λk hk=>by unfold sNk;split<;>omega
 have W:=E _ hk;have X:=gG L k ((most:Int)+1) hL hk Vf Vf;have hb1:=jP L k ((most:Int)+1) Vf;generalize sNv L k ((most:Int)+1)=nb at*;have G:=gF hr;have Y:(aM S.rels)[r*2+1]? =Sh (aj S.rels[r].2):=by
  have h2:(((aM S.rels).drop (r*2)).take 2)[1]? =[PV.str S.rels[r].1,aj S.rels[r].2][1]? :=by rw[dK hr]
  simpa[Ry,Sq]using h2
 generalize S.rels[r].2=A at*;refine Z2 O<|Z1 O<|Q4 (Ra 9 1 2 41 O O)<|Z3 O<|Rs O (bS call12 X O O)<|A1 O<|Gl O (st:=λVn:Int×Nat×List Rw=>mkS [(0,.ptr big 0),(2,pIi r),(5,.ptr 0 0),(9,.gsl 1 2 Vn.2.2.length),(10,pIi Vn.1)] [(big,vx L Vn.2.1),(0,.mix 30 (sCc S)),(1,.gro 41 (a8 Vn.2.2))] 2)
  (I:=λVn=>(((0<=Vn.1/\Vn.1<=most)/\(Vn.2.2.length:Int)+Vn.1<=most)/\Vn.2.1<=L.length)/\∀x∈Vn.2.2,MdR S A x) (μ:=λVn=>Vn.1.toNat) (x0:=(nb,sNk L k,[])) (Q5 (aS O) (aO O) O O) (⟨⟨⟨⟨Vl,Vl⟩,by simp only[Tx];omega⟩,W⟩,λ_ h=>absurd h Vj⟩) ?_
 rintro⟨i,k2,l⟩ ⟨⟨⟨hi,hli⟩,hk2⟩,hl⟩;try simp only at hi hli hk2 hl ⊢
 refine Z2 O<|Gp O (λM=>?_) (λM=>?_)
 .obtain⟨pk,hpk1,hpk⟩:=qB L k2 [1,1,2,5] hL hk2 Vj Vj;have H:1<=pk/\pk<=5:=by simp at hpk1;omega
  have Z:=E _ hk2;have hll:=bK l;refine Q3<|Z1 O<|Rs O (ar Sl Vj tm O Vh Vh O O)<|Rs O (bS call80 hpk O O)<|Y3 O<|Q4 (St.da (T':=41) (cs:=[.pv nS,pIi pk]) 2 0 3 1 9 Vg O Vg)<|Z3 O<|Rs O (ae r underlying27 E6 O O O hr G)<|A1 O<|Rs O (aq ⟨_,underlying22,O⟩ O Y)<|Y2 O<|Gl O (st:=λu:Nat×Nat×List ByteArray=>mkS [(0,.ptr big 0),(2,pIi r),(5,.ptr 0 0),(9,.gsl 1 2 l.length),(10,pIi i),(11,.ptr 2 0),(31,.pv (aj A)),(32,pIi A.length),(33,pIi u.1)] [(big,vx L u.2.1),(0,.mix 30 (sCc S)),(1,.gro 41 (a8 l)),(2,.mix 41 [.gsl 3 1 u.2.2.length,pIi pk]),(3,.gro 9 (bD u.2.2))] 4)
   (I:=λu=>(u.1<=A.length/\u.2.1<=L.length)/\(u.2.2.length=u.1/\∀i (h:i<u.2.2.length) (h2:i<A.length),u.2.2[i]∈iB (S.attrs.getD A[i].toNat default).2)) (μ:=λu=>A.length-u.1) (x0:=(0,sNk L k2,[])) (Q5 (aS O) (aO O) O O) (⟨⟨cd _,Z⟩,O,λi h=>absurd h Vj⟩) ?_
  rintro⟨j,k3,v⟩ ⟨⟨hj,hk4⟩,hmd⟩;try simp only at hj hk4 hmd ⊢
  refine Z1 O<|Gp O (λU=>?_) (λU=>?_)
  .have hlj:j<A.length:=Vf;obtain⟨a,haa⟩:=Rm (hb _ (au hlj)).1;have z:a<S.attrs.length:=by have:=(hb _ (au hlj)).2;omega
   have ab:(aE A)[j*1]? =Sh (.int .i64 (a:Int)):=by rw[<-haa];simp[hlj]
   have ac:=aD hlj;have ad:=ln z;have af:=iu z;obtain⟨x,hxm,hxs⟩:=xW L k3 hL hk4 S.attrs[a].1 S.attrs[a].2;have J:=MdV.snoc hlj hmd (x:=x) (by rw[haa,RH];simpa[List.getD,z]using hxm);have ak:=E _ hk4;have hvl:=hmd.1;refine Q3<|Gr O<|Rs O (ae j underlying22 sz3 O O O hlj ac)<|Rs O (aq ⟨_,underlying3,O⟩ O ab)<|A1 O<|RW 13 O ?_;iterate 6 refine D1 O ?_
   refine Ds [] O (λτ h=>ae a underlying26 lZ (Ee h 0 O O) (Ee h 1 O O) O z af) O Vg<|Ds [] O (λτ h=>aU ⟨_,underlying162,O⟩ lZ (Ee h 0 O O) ad O) O Vg<|Ds [_] O (λτ h=>bS call170 hxs (h.args.trans O) (Eo h 0 O O)) O Vg ?_;iterate 4 refine D1 O ?_
   refine⟨Vg,?_⟩;exact Z2 O<|⟨(j+1,sNk L k3,v++[x]),Q6 [0,1,2,5] (aT O) ⟨O,O,O,RI (b:=Sh (.mix 41 [.gsl 5 1 (v.length+1),pIi pk])) Vg (ag (λn=>Sh (Ob.mix 41 [.gsl 5 1 n,pIi pk])) (fZ v x)),RI (b:=Sh (.gro 9 (bD v++[.str x]))) Vg (ag (λc=>Sh (Ob.gro 9 c)) (MS v x)),Vm⟩ O O Vh O,⟨⟨Vf,ak⟩,J⟩,Vl⟩
  .refine Q4 (Q8 3 O O) ?_;have al:MdR S A ⟨v,pk⟩:=⟨H,(by have:=hmd.1;omega:v.length=A.length),hmd.2⟩;refine Gx O<|Gr O ?_;iterate 5 refine A1 O ?_
   exact Z3 O<|⟨(i-1,k3,l++[⟨v,pk⟩]),Q6 [0,5] ⟨O,O,O,ag (λn=>V.gsl 5 2 n) (fZ l ⟨v,pk⟩),O,Vm⟩ ⟨O,O,RI (b:=Sh (.gro 41 (a8 l++oq ⟨v,pk⟩))) Vg (ag (λc=>Sh (Ob.gro 41 c)) (sg l ⟨v,pk⟩)),Vm⟩ O O Vh O,⟨⟨⟨Vl,by simp only[IS,RD];omega⟩,hk4⟩,λy hy=>by rcases Rx.1 hy with h|h;exact hl y h;rw[Rn.1 h];exact al⟩,Vl⟩
 .refine Q4 (Q8 1 O O) ?_;have am:=BD l Vf (λx hx=>by have:=(hl x hx).2.1;omega) (λx hx=>by have:=(hl x hx).1;omega);exact Gx O<|Z1 O<|Rs O (aa call171 am O)<|A1 O<|Gt O<|⟨_,ig L k2,O,O,⟨mQ l,⟨l,O,Vf,hl⟩,O⟩,k2,hk2,O⟩
def gX(d:List (List Rw)):List PV:=d.map mH
abbrev dbP(d:List (List Rw)):PV:= .sl Sl d.length (gX d)
theorem se(d:List (List Rw))(l:List Rw):gX d++[mH l]=gX (d++[l]):=by simp[gX]
theorem gB(d:List (List Rw)):(gX d).length=d.length*1:=by simp[gX]
def MdD(S:Sch)(most n:Nat)(d:List (List Rw)):Prop:=d.length=n/\∀i (h:i<d.length) (h2:i<S.rels.length),MdT S S.rels[i].2 most d[i]
theorem MdD.snoc{most:Nat}{d:List (List Rw)}(h:MdD S most n d)(z:n<S.rels.length){l:List Rw}(u:MdT S S.rels[n].2 most l):MdD S most (n+1) (d++[l]):=by
 obtain⟨rfl,hd⟩:=h;refine⟨Vj,λi h h2=>?_⟩;rcases Uw i d.length with h3|h3
 .rw[T6 h3];exact hd i h3 h2
 .have e:i=d.length:=by simp at h;omega
  subst e;rw[List.getElem_append_right (BY _)];simpa using u
theorem sK(L:List Int)(k:Nat)(M:L.length<=600)(U:k<=L.length)(S:Sch)(most:Nat)(W:most<=100)(hS:S.rels.length<=1000)(X:∀r∈S.rels,r.2.length<=1000/\∀a∈r.2,0<=a/\a<S.attrs.length):
  FnM prog 27 91 (ig L k) [eS S,.int .i64 most] (λv c=>(∃d,MdD S most S.rels.length d/\v=dbP d)/\∃k',k'<=L.length/\c=ig L k'):=by
 refine FnM.of func27 O ntmps27 Vj O Vj λm0 w0 F R0=>?_
 refine Z2 O<|Z1 O<|Q4 (Ra 7 1 1 38 O O)<|Z4 O<|Gl O (st:=λVn:Nat×Nat×List (List Rw)=>mkS [(0,.ptr big 0),(2,pIi most),(4,.ptr 0 0),(7,.gsl 1 1 Vn.2.2.length),(11,pIi S.rels.length),(12,pIi Vn.1)] [(big,vx L Vn.2.1),(0,.mix 30 (sCc S)),(1,.gro 38 (gX Vn.2.2))] 2)
  (I:=λVn=>(Vn.1<=S.rels.length/\Vn.2.1<=L.length)/\MdD S most Vn.1 Vn.2.2) (μ:=λVn=>S.rels.length-Vn.1) (x0:=(0,k,[])) (Q5 (aS O) (aO O) O O) (⟨⟨cd _,U⟩,O,λi h=>absurd h Vj⟩) ?_
 rintro⟨i,k2,d⟩ ⟨⟨hi,hk2⟩,hd⟩;try simp only at hi hk2 hd ⊢
 refine Z1 O<|Gp O (λz=>?_) (λz=>?_)
 .have hlt:i<S.rels.length:=Vf;have u:=X _ (au hlt);have H:=hd.1;have J:=gB d;refine Q3<|Z2 O<|Gr O ?_;iterate 5 refine A1 O ?_
  refine RL.call O (mT call81 (DE L k2 M hk2 S i most W hlt u.1 u.2) O O ?_);rintro _ _ ⟨⟨l,hml,rfl⟩,k3,hk3,rfl⟩;have E:=hd.snoc hlt hml;exact Y3 O<|Z2 O<|⟨(i+1,k3,d++[l]),Q6 [0,3] ⟨O,O,O,ag (λn=>V.gsl 3 1 n) (fZ d l),O,O,Vm⟩ ⟨O,O,RI (b:=Sh (.gro 38 (gX d++[mH l]))) Vg (ag (λc=>Sh (Ob.gro 38 c)) (se d l)),Vm⟩ O O Vh O,⟨⟨Vf,hk3⟩,E⟩,Vl⟩
 .refine Q4 (Q8 1 O O) ?_;have G:i=S.rels.length:=Vf;subst G;exact Gx O<|Z2 O<|Gt O<|⟨_,ig L k2,O,O,⟨d,hd,O⟩,k2,hk2,O⟩
end
section
open Mk Jn
section
variable {C:Ctx}{n:Nat}{σ:St}{dst:Option Tmp}{ty t t':TypeId}{pos:String}{after:Array Edge}{gd:Option (Nat×Bool)}{x:Operand}
theorem eP{cs:List PV}{K:St->Prop}(E:C.P.underlying t=Sh (.slice e))(G:σ.ev n x= .pv (.sl Sl k cs))(H:∀b:Bool,(b=Sm->cs=[])->K (σ.app dst ⟨.pv (.bool b),[],[]⟩)):
  OJ C n ⟨dst,.binOp .eql t x (.const (.slice Sl 0 0)) t',ty,pos,after,gd⟩ K σ:=by
 rintro a w Q ⟨m,R,hw⟩;have:=hw.pv G;simp only[RelP]at this;obtain⟨A,c,e1,_,_,_,_,h5⟩:=this;have hc:a.eval (.const (.slice Sl 0 0))= .slice Sl 0 0:=rfl;have z:A.isNone=Sm->cs=[]:=λh=>by
  cases cs with
  |nil=>rfl
  | cons c cs=>
    obtain⟨b,off,us,rfl,_⟩:=h5 Vj;cases h
 have u:(execOp a.eval ⟨dst,.binOp .eql t x (.const (.slice Sl 0 0)) t',ty,pos,after,gd⟩).run C.P w= .ok (.value (.bool A.isNone)) w:=by
  simp[execOp,e1,eqGuard,binOp,hc,run_equal_slice_nil _ _ _ _ _ _ E]
 unfold Oper.wp;rw[u];exact⟨_,H A.isNone z,m,R,St.ib σ dst _▸hw.put dst (by simp only[Rel,RelP])⟩
theorem cz{z:Value}{size bytes:Nat}(id:Nat)(J:ElemIs C.P T e z size bytes)(H:σ.av id=Sm):
  XJ C n ⟨dst,.buildSlice T 0 #[],ty,pos,after,gd⟩ σ ⟨.osl id size 0,[(id,Sh (.cells e []))],[id]⟩:=by
 rintro a w Q ⟨m,R,hw⟩;obtain⟨i,hi,hz,hsize,hbytes⟩:=info_parts J.info;have E:(execOp a.eval ⟨dst,.buildSlice T 0 #[],ty,pos,after,gd⟩).run C.P w= .ok (.value (.slice (Sh ⟨w.heap.size,0,Sl⟩) 0 0)) (w.alloc (.cells #[] e)):=by
  have G:(Instr.buildSlice T 0 #[]).run C.P w= .ok (.slice (Sh ⟨w.heap.size,0,Sl⟩) 0 0) (w.alloc (.cells #[] e)):=by
   simp[Instr.buildSlice,run_underlying J.u,sizeOf,typeInfo,hi,Instr.fill,newRow]
   congr 2
   exact Array.eq_empty_of_size_eq_zero Vj
  have I:(#[]:Array (Nat×Operand)).map (λx=>(x.1,a.eval x.2))= #[]:=Vj;simp only[execOp,I,Sem.run_bind,G,Result.andThen_ok,Sem.run_pure]
 unfold Oper.wp;rw[E];refine⟨_,O,upd m id (Sh (w.heap.size,0)),R,?_⟩;rw[Rc];refine SW.put (hw.alloc H #[] e (.cells e []) ?_) dst ?_
 .intro w' m' av' hR I ha G;exact⟨_,G,O,BY _,RelPL.nil⟩
 .simp only[Rel];refine⟨by simp[avL],λb N h=>?_⟩;rw[aA]at h;cases h;exact⟨0,O,BY _,by simp[maxLen],Vj⟩
end
theorem wE(l:List ByteArray)(z:l.length<=1000000):FnP prog 117 [a7 l] (· =a7 l):=by
 refine FnP.fg2 (FnP.of func117 O ntmps117 Vj λm0 w0 F R0=>?_);refine Z1 O<|Z1 O<|RL.call O (eP underlying39 O ?_);intro b hb;refine Gc O (λu=>?_) (λu=>?_)
 .have hl0:l=[]:=TN.1 (hb u);exact Z1 O<|Gt O<|⟨_,_,O,O,by rw[hl0];rfl⟩
 .refine Q3<|Gr O<|Rs O (cz 0 Cr O)<|A1 O<|Rs O (dB 1 Cr O O O (.inl ⟨Sl,O⟩) Vj (λc hc=>by obtain⟨y,_,rfl⟩:=By.1 hc;rfl) Vf O) ?_;exact A1 O<|Q4 (Q8 1 O O)<|Gt O<|⟨_,_,O,O,show PV.sl Sl (0+l.length) ([]++bD l)=_ by rw[RV,Sr]⟩
def gu(ls:List Int)(n:Nat):List Int:=(List.range n).map λa:Nat=>((ls.count (a:Int):Nat):Int)
theorem tM(ls:List Int)(n:Nat):(gu ls n).length=n:=by simp[gu]
theorem z8(h:a<n):(aE (gu ls n))[a*1]? =Sh (.int .i64 ((ls.count (a:Int):Nat):Int)):=by simp[gu,h]
theorem C9(h:a<n):(aE (gu ls n)).set (a*1) (.int .i64 (((ls.count (a:Int):Nat):Int)+1))=aE (gu (ls++[(a:Int)]) n):=by
 apply SO
 .simp[gu]
 .intro i h1 h2;simp only[gu,U4,SE,List.getElem_range,List.count_append,R6];by_cases e:a=i
  .subst e;rw[AT O];simp
  .rw[dt e];have:List.count (i:Int) [(a:Int)]=0:=by rw[List.count_eq_zero];simp;omega
   rw[this,Uv]
theorem BL(n:Nat):List.replicate n (PV.int .i64 0)=aE (gu [] n):=by
 apply SO
 .simp[gu]
 .intro i h1 h2;simp[gu]
def cc(ls:List Int)(A:List Int)(x:Rw):Bool:=(A.zip x.v).all λp=> !(p.2.toList==(⟨#[]⟩:ByteArray).toList)||((ls.count p.1:Nat):Int)==1
def nT(S:Sch)(A:List Int)(l:List Rw):List Rw:=l.filter (cc (S.rels.flatMap (·.2)) A)
end
section
open Mk Jn
structure SJn(S:Sch):Prop where
 a:S.attrs.length<=1000
 r:S.rels.length<=1000
 l:∀r∈S.rels,r.2.length<=1000
 b:∀r∈S.rels,∀a∈r.2,0<=a/\a<S.attrs.length
theorem Hv{l:List (ByteArray×List Int)}(h:k<l.length):(l.take (k+1)).flatMap (·.2)=(l.take k).flatMap (·.2)++l[k].2:=by
 rw[AI h,Sc];simp
theorem rI{v:List ByteArray}(u:v.length=A.length)(z:j<A.length)(f:Int×ByteArray->Bool):((A.zip v).take (j+1)).all f=(((A.zip v).take j).all f&&f (A[j],v[j]'Vf)):=by
 have h:j<(A.zip v).length:=by simp;omega
 rw[AI h,US];simp
theorem G8{l:List (ByteArray×List Int)}(h:∀r∈l,r.2.length<=1000):(l.flatMap (·.2)).length<=l.length*1000:=by
 induction l with
 |nil=>simp
 | cons a l ih=>
   have u:=h a Vj;have z:=ih λr hr=>h r (by simp[hr])
   rw[RC,IS,Rk];omega
theorem uM(S:Sch)(hS:SJn S)(r:Nat)(L:r<S.rels.length)(l:List Rw)(hl:l.length<=1000)(hv:∀x∈l,x.v.length=S.rels[r].2.length):
  FnP prog 47 [eS S,.int .i64 r,mH l] (· =mH (nT S S.rels[r].2 l)):=by
 refine FnP.of func47 O ntmps47 Vj λm0 w0 F R0=>?_
 have aB:=bK l;have aC:=hS.a;have aJ:=hS.r;have X:=gF L;have an:(aM S.rels)[r*2+1]? =Sh (aj S.rels[r].2):=by
  have h2:(((aM S.rels).drop (r*2)).take 2)[1]? =[PV.str S.rels[r].1,aj S.rels[r].2][1]? :=by rw[dK L]
  simpa[Ry,Sq]using h2
 have hrl:=hS.l _ (au L);have Y:=hS.b _ (au L);unfold nT;generalize S.rels[r].2=A at*;refine Z2 O<|Gr O ?_;iterate 5 refine A1 O ?_
 refine Z4 O<|Gl O (st:=λVn:Nat=>mkS [(1,pIi r),(2,.pv (mH l)),(3,.ptr 0 0),(7,.osl 1 1 S.attrs.length),(23,.pv (.sl Sl S.rels.length (aM S.rels))),(24,pIi S.rels.length),(25,pIi Vn)] [(0,.mix 30 (sCc S)),(1,.cells 3 (aE (gu ((S.rels.take Vn).flatMap (·.2)) S.attrs.length)))] 2)
  (I:=λVn=>Vn<=S.rels.length) (μ:=λVn=>S.rels.length-Vn) (x0:=(0)) (Q5 (aS O) ⟨O,ag (λc=>Sh (Ob.cells 3 c)) ((cB (.int .i64 0) (S.attrs.length*1)).trans (by rw[R6,BL];rfl)),Vm⟩ O O) (cd _) ?_
 rintro k hk;refine Z1 O<|Gp O (λaf=>?_) (λaf=>?_)
 .have hlt:k<S.rels.length:=Vf;have aA:=dK hlt;have hne:=gF hlt;have hkl:=hS.l _ (au hlt);have Z:=hS.b _ (au hlt);have ao:=Hv hlt;generalize S.rels[k]=rk at*;refine Q3<|Z1 O ?_;first|refine A3 O Vi ?_|refine A1 O ?_
  refine Y2 O<|Z4 O<|Gl O (st:=λE:Nat=>mkS [(1,pIi r),(2,.pv (mH l)),(3,.ptr 0 0),(7,.osl 1 1 S.attrs.length),(23,.pv (.sl Sl S.rels.length (aM S.rels))),(24,pIi S.rels.length),(25,pIi k),(30,.pv (aj rk.2)),(31,pIi rk.2.length),(32,pIi E)] [(0,.mix 30 (sCc S)),(1,.cells 3 (aE (gu ((S.rels.take k).flatMap (·.2)++rk.2.take E) S.attrs.length)))] 3)
   (I:=λE=>E<=rk.2.length) (μ:=λE=>rk.2.length-E) (x0:=(0)) (Q5 (aS O) ⟨O,ag (λc=>Sh (Ob.cells 3 (aE (gu c S.attrs.length)))) Vj,Vm⟩ O O) (cd _) ?_
  rintro j hj;refine Z1 O<|Gp O (λak=>?_) (λak=>?_)
  .have hlj:j<rk.2.length:=Vf;obtain⟨a,haa⟩:=Rm (Z _ (au hlj)).1;have J:a<S.attrs.length:=by have:=(Z _ (au hlj)).2;omega
   have U:(aE rk.2)[j*1]? =Sh (.int .i64 (a:Int)):=by rw[<-haa];simp[hlj]
   have ap:=aD hlj;have ar:rk.2.take (j+1)=rk.2.take j++[(a:Int)]:=by rw[AI hlj,haa]
   have hfl:=G8 (l:=S.rels.take k) λr L=>hS.l r (Uy L)
   have htl:(S.rels.take k).length<=1000:=by rw[Rr];omega
   have ab:((S.rels.take k).flatMap (·.2)++rk.2.take j).length<=2000000:=by rw[IS,Rr];omega
   generalize hLS:(S.rels.take k).flatMap (·.2)++rk.2.take j=LS at*;have W:=z8 (ls:=LS) J;have ax:=C9 (ls:=LS) J;have ay:(aE (gu LS S.attrs.length)).length=S.attrs.length:=by rw[OF,tM]
   have hcb:LS.count (a:Int)<=2000000:=IT List.count_le_length ab;exact Q3<|Z1 O<|Rs O (aq ⟨_,underlying3,O⟩ O U)<|A1 O<|Z3 O<|Rs O (cm ⟨_,underlying3,O⟩ O O W)<|Y2 O<|RL.step (d:=Sl) O O (bQ sz3 O O O O Vf)<|Z2 O<|⟨(j+1),Q5 (aS O) ⟨O,RI (b:=Sh (.cells 3 ((aE (gu LS S.attrs.length)).set (a*1) (.int .i64 (((LS.count (a:Int):Nat):Int)+1))))) Vg (ag (λc=>Sh (Ob.cells 3 c)) (ax.trans (by rw[ar,<-TC,hLS]))),Vm⟩ O O,Vf,Vf⟩
  .exact Gx O<|Z2 O<|⟨(k+1),Q5 (aS O) ⟨O,ag (λc=>Sh (Ob.cells 3 (aE (gu c S.attrs.length)))) (by rw[ao,show rk.2.take j=rk.2 from aQ Vf]),Vm⟩ O O,Vf,Vf⟩
 .have ab:=G8 (l:=S.rels) λr L=>hS.l r L
  rw[show S.rels.take k=S.rels from aQ Vf];generalize S.rels.flatMap (·.2)=LS at*;have ay:(aE (gu LS S.attrs.length)).length=S.attrs.length:=by rw[OF,tM]
  refine Gx O<|Z1 O<|Q4 (Ra 12 2 2 41 O O)<|Z3 O<|Gl O (st:=λu:Nat×List Rw=>mkS [(1,pIi r),(3,.ptr 0 0),(7,.osl 1 1 S.attrs.length),(12,.gsl 2 2 u.2.length),(44,.pv (mH l)),(45,pIi l.length),(46,pIi u.1)] [(0,.mix 30 (sCc S)),(1,.cells 3 (aE (gu LS S.attrs.length))),(2,.gro 41 (a8 u.2))] 3)
   (I:=λu=>(u.1<=l.length/\u.2.length<=u.1)/\u.2=(l.take u.1).filter (cc LS A)) (μ:=λu=>l.length-u.1) (x0:=(0,[])) (Q5 (aS O) (aO O) O O) (⟨⟨cd _,BY _⟩,O⟩) ?_
  rintro⟨i,q⟩ ⟨hi,hq⟩;try simp only at hi hq ⊢
  refine Z1 O<|Gp O (λal=>?_) (λal=>?_)
  .have hil:i<l.length:=Vf;have hrw:=dY hil;have hrn:=gV hil;have az:=hv _ (au hil);have hql:=bK q;have M:l.take (i+1)=l.take i++[l[i]]:=AI hil;generalize l[i]=x at*;refine Q3<|Z1 O ?_;first|refine A3 O Vi ?_|refine A1 O ?_
   refine Y2 O<|Z1 O<|Z3 O<|Rs O (ae r underlying27 E6 O O O L X)<|A1 O<|Rs O (aq ⟨_,underlying22,O⟩ O an)<|Y2 O<|Gl O (st:=λz:Nat×Bool=>mkS [(1,pIi r),(3,.ptr 0 0),(7,.osl 1 1 S.attrs.length),(12,.gsl 2 2 q.length),(14,.ptr 3 0),(15,.pv (.bool z.2)),(44,.pv (mH l)),(45,pIi l.length),(46,pIi i),(55,.pv (aj A)),(56,pIi A.length),(57,pIi z.1)] [(0,.mix 30 (sCc S)),(1,.cells 3 (aE (gu LS S.attrs.length))),(2,.gro 41 (a8 q)),(3,.mix 41 [.pv (a7 x.v),pIi x.w])] 4)
    (I:=λz=>z.1<=A.length/\z.2=((A.zip x.v).take z.1).all λp=> !(p.2.toList==(⟨#[]⟩:ByteArray).toList)||((LS.count p.1:Nat):Int)==1) (μ:=λz=>A.length-z.1) (x0:=(0,Sm)) (Q5 (aS O) (aO O) O O) (⟨cd _,O⟩) ?_
   rintro⟨j,b⟩ ⟨hj,hb⟩;try simp only at hj hb ⊢
   refine Z1 O<|Gp O (λam=>?_) (λam=>?_)
   .have hlj:j<A.length:=Vf;have G:=rI az hlj λp=> !(p.2.toList==(⟨#[]⟩:ByteArray).toList)||((LS.count p.1:Nat):Int)==1
    obtain⟨a,haa⟩:=Rm (Y _ (au hlj)).1;have J:a<S.attrs.length:=by have:=(Y _ (au hlj)).2;omega
    have U:(aE A)[j*1]? =Sh (.int .i64 (a:Int)):=by rw[<-haa];simp[hlj]
    have ap:=aD hlj;have ac:j<x.v.length:=Vf;have ad:=bE ac;have hsn:=bA ac;have W:=z8 (ls:=LS) J;rw[<-hb,haa]at G;simp only at G;refine Q3<|Z2 O<|Rs O (aq ⟨_,underlying3,O⟩ O U)<|Y2 O ?_;by_cases hbt:b=Sm
    .by_cases hve:(x.v[j].toList==(⟨#[]⟩:ByteArray).toList)=Sm
     .refine Gr O<|Rs O (XJ.cast (v':= .pv (.bool Sm)) (mX O) (ag (λb=>V.pv (.bool b)) hbt)) ?_;iterate 5 refine A1 O ?_
      refine Rg O (aq ⟨_,underlying9,O⟩ O ad)<|Rg O (XJ.cast (v':= .pv (.bool S1)) (dv O O O) (ag (λb=>V.pv (.bool !b)) hve)) ?_;iterate 4 refine A1 O ?_
      refine Rg O (cm ⟨_,underlying3,O⟩ O O W) ?_;iterate 4 refine A1 O ?_
      exact Z2 O<|⟨(j+1,(((LS.count (a:Int):Nat):Int)==1)),Q5 (aS O) (aO O) O O,⟨Vf,by simp only;rw[G,hbt,hve];rfl⟩,Vl⟩
     .refine Gr O<|Rs O (XJ.cast (v':= .pv (.bool Sm)) (mX O) (ag (λb=>V.pv (.bool b)) hbt)) ?_;iterate 5 refine A1 O ?_
      refine Rg O (aq ⟨_,underlying9,O⟩ O ad)<|Rg O (XJ.cast (v':= .pv (.bool Sm)) (dv O O O) (ag (λb=>V.pv (.bool !b)) (Tq hve))) ?_;iterate 9 refine A1 O ?_
      exact Z2 O<|⟨(j+1,Sm),Q5 (aS O) (aO O) O O,⟨Vf,by simp only;rw[G,hbt,Tq hve];rfl⟩,Vl⟩
    .refine Gr O<|Rs O (XJ.cast (v':= .pv (.bool S1)) (mX O) (ag (λb=>V.pv (.bool b)) (Tq hbt))) ?_;iterate 16 refine A1 O ?_
     exact Z2 O<|⟨(j+1,S1),Q5 (aS O) (aO O) O O,⟨Vf,by simp only;rw[G,Tq hbt,Bool.false_and]⟩,Vl⟩
   .have hbl:cc LS A x=b:=by unfold cc;rw[hb,aQ Vk]
    refine Gx O<|Z1 O<|Gc O (λH=>?_) (λH=>?_)
    .refine RW 10 O ?_;iterate 3 refine D1 O ?_
     refine Ds [] O (λτ h=>aa call117 (wE x.v Vf) (h.aK O)) O Vg ?_;iterate 6 refine D1 O ?_
     refine⟨Vg,?_⟩;exact Z2 O<|⟨(i+1,q++[x]),Q6 [0,1,5] ⟨O,O,O,ag (λn=>V.gsl 5 2 n) (fZ q x),O,O,O,Vm⟩ ⟨O,O,RI (b:=Sh (.gro 41 (a8 q++oq x))) Vg (ag (λc=>Sh (Ob.gro 41 c)) (sg q x)),Vm⟩ O O Vh O,⟨⟨Vf,by simp only[IS,RD];omega⟩,by rw[M,TY,<-hq];simp only[TL,List.filter_nil];rw[AT (hbl.trans H)]⟩,Vl⟩
    .exact Q3<|Z2 O<|⟨(i+1,q),Q5 (aS O) (aO O) O O,⟨⟨Vf,Vl⟩,by rw[M,TY,<-hq];simp only[TL,List.filter_nil];rw[dt (by rw[hbl,H];decide),Sk]⟩,Vl⟩
  .exact Q4 (Q8 2 O O)<|Gx O<|Z2 O<|Gt O<|⟨_,_,O,O,by rw[show l.filter (cc LS A)=q by rw[hq,aQ Vf]];rfl⟩
end
namespace Jn
set_option autoImplicit false


inductive Tr where
 |node (v:Int) (ts:List Tr)
mutual
def Tr.vs:Tr->List Int
 | .node v ts=>v::vsL ts
def vsL:List Tr->List Int
 |[]=>[]
 |t::ts=>t.vs++vsL ts
end

end Jn
namespace Jn
set_option autoImplicit false


end Jn
namespace Jn
open Mk
def ct(P:List Int):Nat->Int->Tr
 |0,v=> .node v []
 |k+1,v=> .node v ((aB P v).map (ct P k))
theorem aZ{P:List Int}{v c:Int}:c∈aB P v↔∃n:Nat,n<P.length/\c=(n:Int)/\P.getD n 0=v:=by
 unfold aB;rw[Sj,bU];constructor
 .rintro⟨⟨a,ha,rfl⟩,h⟩;exact⟨a,ha,O,by simpa using h⟩
 .rintro⟨a,ha,rfl,h⟩;exact⟨⟨a,ha,O⟩,by simpa using h⟩
theorem eD(ts:List Tr):vsL ts=ts.flatMap Tr.vs:=by
 induction ts with
 |nil=>rfl
 |cons t ts ih=>rw[vsL,ih,RC]
theorem xo{β:Type}(p:α->Bool)(f:α->List β)(l:List α):(l.filter p).flatMap f=l.flatMap λa=>if p a=Sm then f a else []:=by
 induction l with
 |nil=>rfl
 | cons a l ih=>
   rw[TL,RC,<-ih];split
   .rw[RC]
   .rw[Sr]
mutual
theorem tree_vs(P:List Int):∀(k:Nat)(v:Int),(ct P k v).vs=v::ki P k v
 |0,v=>by rw[ct,Tr.vs,vsL,ki]
 |k+1,v=>by rw[ct,Tr.vs,kids_vs P k v]
theorem kids_vs(P:List Int):∀(k:Nat)(v:Int),vsL ((aB P v).map (ct P k))=ki P (k+1) v
 | k,v=>by
   rw[eD,T0,ki];unfold aB;rw[xo]
   congr 1
   funext a;rw[tree_vs P k a];simp only[S0]
end
theorem pJ(P:List Int):vsL ((aB P (-1)).map (ct P P.length))=aL P:=kids_vs P P.length (-1)
theorem getD_at{P:List Int}(u:n<P.length):P.getD n 0=P[n]:=by simp[List.getD,u]
section
variable {P:List Int}(hP:UpOk P)
include hP
theorem cK(hc:c<P.length)(u:v<P.length)(h:P.getD c 0=(v:Int)):cq P c=(v:Int)::cq P v:=
 lq hP hc u (by rw[<-getD_at hc];exact h)
theorem zY:∀(k:Nat)(v:Nat),v<P.length->∀x∈(ct P k v).vs,∃m:Nat,m<P.length/\x=(m:Int)/\(v:Int)∈(m:Int)::cq P m
 | 0,v,hv,x,hx=>by
   rw[ct,Tr.vs,vsL,Rn]at hx;exact⟨v,hv,hx,Vj⟩
 | k+1,v,hv,x,hx=>by
   rw[ct,Tr.vs,eD,T0]at hx;rcases AS.1 hx with rfl|hx
   .exact⟨v,hv,O,Vj⟩
   .obtain⟨c,hc,hx⟩:=RN.1 hx;obtain⟨n,hn,rfl,hp⟩:=aZ.1 hc;obtain⟨m,hm,rfl,hu⟩:=zY k n hn x hx;have e:=cK hP hn hv hp;refine⟨m,hm,O,RX _ ?_⟩;rcases AS.1 hu with h|h
    .have:n=m:=Vf;subst this;rw[e];simp
    .exact kS hP hm (by rw[e];simp) h
theorem E9(E:v<P.length):(cq P v).length+1<=P.length:=by
 have z:=(mK hP E).length_eq;have u:=Te (λa=>decide (a∈(v:Int)::cq P v)) (upZ P.length);rw[z,a6,Rk]at u;exact u
theorem iY(z:v<P.length)(h:P.length<=1+(cq P v).length):aB P v=[]:=by
 rw[List.eq_nil_iff_forall_not_mem];intro c hc;obtain⟨n,hn,rfl,hp⟩:=aZ.1 hc;have u:=E9 hP hn;rw[cK hP hn z hp,Rk]at u;omega
theorem nU:∀(k:Nat)(v:Nat),v<P.length->P.length<=k+1+(cq P v).length->ct P (k+1) v=ct P k v
 |0,v,hv,h=>by rw[ct,ct,iY hP hv Vf];rfl
 | k+1,v,hv,h=>by
   rw[ct,ct]
   congr 1
   refine Sd λc hc=>?_
   obtain⟨n,hn,rfl,hp⟩:=aZ.1 hc;have e:=cK hP hn hv hp;exact nU k n hn (by rw[e,Rk];omega)
theorem NP(u:v<P.length):ct P P.length v= .node v ((aB P v).map (ct P P.length)):=by
 rw[<-nU hP P.length v u Vf,ct]
end

end Jn
section
open Mk Jn
abbrev rowP(x:Rw):PV:= .agg (oq x)
theorem r7{d:List (List Rw)}(h:r<d.length):(gX d)[r*1]? =Sh (mH d[r]):=by simp[gX,h]
theorem lJ{d:List (List Rw)}(h:r<d.length):gX d≠[]:=λe=>by have:=gB d;rw[e]at this;simp at this;omega
end
section
open Mk Jn
abbrev oZ(S:Sch):Ob:= .mix 30 (sCc S)
abbrev oX(S:Sch)(v l:V)(m:Nat):Ob:= .mix 298 [.pv (.sl Sl S.attrs.length (aG S.attrs)),.pv (.sl Sl S.rels.length (aM S.rels)),.pv (.sl Sl S.feats.length (aH S.feats)),pIi S.label,v,l,.map m]

end
section
open Mk Jn
def ltS(a b:ByteArray):Prop:=a.data.toList<b.data.toList
instance (a b:ByteArray):Decidable (ltS a b):=inferInstanceAs (Decidable (_<_))
theorem BA(a:ByteArray):¬ltS a a:=List.lt_irrefl _
theorem uw{a b c:ByteArray}(u:ltS a b)(z:ltS b c):ltS a c:=List.lt_trans u z
theorem FQ{a b:ByteArray}(u:¬ltS a b)(z:¬ltS b a):a=b:=GA (List.le_antisymm z u)
def leS(a b:ByteArray):Prop:=¬ltS b a
instance (a b:ByteArray):Decidable (leS a b):=inferInstanceAs (Decidable (¬_))
theorem GU{a b c:ByteArray}(z:leS a b)(u:leS b c):leS a c:=λh=>by
 by_cases e:a=b
 .subst e;exact u h
 .have hab:ltS a b:=RZ λk=>e (FQ k z)
  exact u (uw h hab)
theorem DD(a b:ByteArray):leS a b\/leS b a:=by
 by_cases h:ltS b a
 .exact .inr λk=>BA a (uw k h)
 .exact .inl h
theorem JQ{a b:ByteArray}(u:leS a b)(z:leS b a):a=b:=FQ z u
def p8(l:List ByteArray):List ByteArray:=l.mergeSort λa b=>decide (leS a b)
theorem lA(l:List ByteArray):(p8 l).Perm l:=UY l _
theorem mz(l:List ByteArray):(p8 l).Pairwise leS:=by
 have:=Uz (le:=λa b:ByteArray=>decide (leS a b)) (by intro a b c h1 h2;simp only[Rt]at *; exact GU h1 h2) (by intro a b;simp only[Sg,Rt];exact DD a b) l;exact this.imp Vj
theorem tz{l r:List ByteArray}(u:l.Perm r)(z:l.Pairwise leS):l=p8 r:=
 (u.trans (lA r).symm).eq_of_pairwise (λa b _ _ h1 h2=>JQ h1 h2) z (mz r)
abbrev eb:ByteArray:=⟨#[]⟩
theorem tT(a:ByteArray):FnP prog 226 [.str a] (· = .bool S1):=by
 refine FnP.of func226 O ntmps226 Vj λm0 w0 F R0=>?_
 exact Z1 O<|Z4 O<|Gt O<|⟨_,_,O,O,ag PV.bool Vj⟩
theorem Nz{a b:ByteArray}(h:(a.toList !=b.toList)=S1):a=b:=bytes_inj (by simpa using h)
end

section
open Mk Jn
theorem JI{x:Int}(h:k<l.length)(E:l[k]=x)(u:∀j (h:j<l.length),j<k->l[j]≠x):l.idxOf x=k:=by
 have G:x∈l:=E▸au h;have z:=TS G;have H:l[l.idxOf x]=x:=List.getElem_idxOf z;rcases Nat.lt_trichotomy (l.idxOf x) k with c|c|c
 .exact absurd H (u _ z c)
 .exact c
 .exact absurd E (by
   have:=List.not_of_lt_findIdx (p:=(· ==x)) (xs:=l) (i:=k) c;simpa using this)
theorem FY(l:List Int)(x:Int)(L:l.length<=1000000)(H:x∈l):FnP prog 185 [aj l,.int .i64 x] (· = .int .i64 ((l.idxOf x:Nat):Int)):=by
 refine FnP.of func185 O ntmps185 Vj λm0 w0 F R0=>?_
 refine Z1 O<|Z3 O<|Gl O (st:=λVn:Nat=>mkS [(0,.pv (aj l)),(1,pIi x),(7,pIi l.length),(8,pIi Vn)] [] 0)
  (I:=λVn=>Vn<=l.length/\∀j (h:j<l.length),j<Vn->l[j]≠x) (μ:=λVn=>l.length-Vn) (x0:=(0)) (Q5 (aS O) trivial O O) (⟨cd _,λ_ _ h=>absurd h Vf⟩) ?_
 rintro k ⟨hk,hno⟩;refine Z1 O<|Gp O (λz=>?_) (λz=>?_)
 .have hlt:k<l.length:=Vf;have J:=aX hlt;have E:=aD hlt;refine Q3<|Z2 O<|Z4 O ?_;first|refine A2 O Vi ?_|refine A1 O ?_
  refine A1 O<|Gc O (λu=>?_) (λu=>?_)
  .exact Z2 O<|Gt O<|⟨_,_,O,O,by rw[JI hlt (eq_of_beq u).symm hno];rfl⟩
  .exact Q3<|Z2 O<|⟨(k+1),Q5 (aS O) trivial O O,⟨Vf,λj h hj=>by rcases SP.1 hj with h1|h1;exact hno j h h1;subst h1;intro e;rw[e]at u;simp at u⟩,Vf⟩
 .exact absurd H (λG=>by obtain⟨j,h,e⟩:=TW.1 G;exact hno j h Vf e)
  done
end
section
theorem yx:∃j,prog.info? 311=Sh j/\j.size≠0:=by
 obtain⟨j,hj,hs⟩:=T4.1 (show(prog.info? 311).map (·.size)=Sh 2 by kernel_rfl);exact⟨j,hj,by rw[hs];decide⟩
theorem J5(k:Nat)(cs:List PV):FnO prog 279 2 0 [.ptr big 0] [(big,.mix 311 [.pv .nilptr,.gsl 9001 1 k]),(9001,.gro 5 cs)] (λv ob'=>v= .tup []/\ob'=ax [(big,.mix 311 [.ptr big 0,.gsl 9001 1 k]),(9001,.gro 5 cs)]):=by
 refine FnO.of func279 O ntmps279 Vj λm0 w0 F R0=>?_
 obtain⟨j,hj,hj0⟩:=yx;refine Z4 O<|Rs O (BH underlying309 O)<|Gc O (λu=>?_) (λu=>absurd u Vj);exact Z2 O<|Rs O (IE underlying309 underlying431 hj hj0 O O Vj)<|Rs O (KP func333 Vg Vg Vg Vg O)<|Rs O (Ju (dp:=_) underlying431 underlying309 hj O Vg O O Vj)<|Y3 O<|⟨[],[(big,.mix 311 [.ptr big 0,.gsl 9001 1 k]),(9001,.gro 5 cs)],[],Q5 trivial (aO O) O O,O,O,O,O,O⟩
theorem Jd(k:Nat)(cs:List PV):FnO prog 279 2 0 [.ptr big 0] [(big,.mix 311 [.ptr big 0,.gsl 9001 1 k]),(9001,.gro 5 cs)] (λv ob'=>v= .tup []/\ob'=ax [(big,.mix 311 [.ptr big 0,.gsl 9001 1 k]),(9001,.gro 5 cs)]):=by
 refine FnO.of func279 O ntmps279 Vj λm0 w0 F R0=>?_
 obtain⟨j,hj,hj0⟩:=yx;refine Z4 O<|Rs O (Cu underlying309 O O)<|Gc O (λz=>absurd z Vj) (λz=>?_);refine Gr O ?_;iterate 5 refine A1 O ?_
 refine Rs O (Cg underlying309 hj O O O)<|Gc O (λu=>absurd u Vj) (λu=>?_);exact Q3<|⟨[],[(big,.mix 311 [.ptr big 0,.gsl 9001 1 k]),(9001,.gro 5 cs)],[],Q5 trivial (aO O) O O,O,O,O,O,O⟩
theorem GD(l:List UInt8)(s:ByteArray)(I:l≠[])(J:l.length+s.size<=1000000000):FnO prog 190 2 1 [.ptr big 0,.pv (.str s)] [(big,.mix 311 [.ptr big 0,.gsl 9001 1 l.length]),(9001,.gro 5 (aF l))] (λv ob'=>v= .tup [pIi s.size,.pv .niliface]/\ob'=ax [(big,.mix 311 [.ptr big 0,.gsl 0 1 (l++s.data.toList).length]),(0,.gro 5 (aF (l++s.data.toList)))]):=by
 refine FnO.of func190 O ntmps190 Vj λm0 w0 F R0=>?_
 have u:=Jd l.length (aF l);have z:(aF l).length=l.length:=by simp[aF]
 have E:=SS.2 I;have G:(l++s.data.toList).length=l.length+s.size:=by rw[IS,RE];rfl
 have H:aF (l++s.data.toList)=aF l++aF s.data.toList:=by simp[aF]
 refine Z2 O<|Z1 O<|Rs O (bt [big,9001] 0 call279 u O O O O ⟨O,O,Vm⟩ Vh O)<|Gr O ?_;iterate 6 refine A1 O ?_
 exact Rs O (xd 0 Ot underlying9 O O z O J E O)<|Y3 O<|Z4 O<|Gt O<|⟨[(4,pIi s.size),(5,.pv .niliface)],[(big,.mix 311 [.ptr big 0,.gsl 0 1 (l.length+s.size)]),(0,.gro 5 (aF l++aF s.data.toList))],[pIi s.size,.pv .niliface],Q5 (aS O) (aO Vg) O O,O,O,O,O,by rw[G,H]⟩
theorem vl(l:List UInt8)(E:l≠[])(G:l.length<=1000000000):FnO prog 193 2 0 [.ptr big 0] [(big,.mix 311 [.ptr big 0,.gsl 9001 1 l.length]),(9001,.gro 5 (aF l))] (λv ob'=>v= .pv (.str ⟨l.toArray⟩)/\ob'=ax [(big,.mix 311 [.ptr big 0,.gsl 9001 1 l.length]),(9001,.fro 5 ⟨l.toArray⟩)]):=by
 refine FnO.of func193 O ntmps193 Vj λm0 w0 F R0=>?_
 have u:=SS.2 E;have z:(Ob.gro 5 (aF l)).real=Sm:=cZ (by simpa[aF]using E);refine Z1 O<|RW 12 O ?_;iterate 4 refine D1 O ?_
 refine Ds [_] O (λτ h=>Qc (Ee h 0 O O) (Eo h 0 O O) u z) O Vg ?_;iterate 5 refine D1 O ?_
 refine Ds [_] O (λτ h=>JP underlying390 Vg (Ee h 0 O O) (Eo h 0 O O) (Ee h 1 O O) E G) O Vg<|D1 O ?_;refine⟨Vg,?_⟩;exact Gt O<|⟨[(2,.pv (.str ⟨l.toArray⟩))],[(big,.mix 311 [.ptr big 0,.gsl 9001 1 l.length]),(9001,.fro 5 ⟨l.toArray⟩)],[.pv (.str ⟨l.toArray⟩)],Q5 (aS O) (aO Vg) O O,O,O,O,O,O⟩
end
section
open Go.RowKit Go.Sort Go.Lib
theorem Ph(w:World)(T:TypeId)(nd:Nat)(z:nd<=24):Holds (fun(b:UInt8)=>Value.int .u8 (b.toNat:Int)) (w.alloc (.cells zeros24 T)) w.heap.size 0 (Array.replicate nd (0:UInt8)):=λj hj=>by
 have u:j<nd:=by simpa using hj
 refine⟨?_,World.frozen?_alloc_new _ _ _ _⟩;rw[World.cell?_alloc_new,zeros24_at _ Vf,getElem!_pos _ j hj];simp
theorem fin0(w:World)(o:Obj)(dk:Array UInt8)(k:Nat):∃os,(putRow (fun(b:UInt8)=>Value.int .u8 (b.toNat:Int)) (w.alloc o) w.heap.size 0 dk).drewN k=grow (w.drewN k) os:=by
 rw[alloc_eq_grow];obtain⟨os',_,e⟩:=putRow_grow_new (fun(b:UInt8)=>Value.int .u8 (b.toNat:Int)) w #[o] w.heap.size 0 dk (BY _);exact⟨os',by rw[e];rfl⟩
set_option maxHeartbeats 6400000
theorem ve(u:Nat)(z:u<18446744073709551616)(w:World)(I:Lib.TabIs prog w "internal/strconv.uint64pow10" .u64 Lib.pow10Tab):
  Calls prog 280 #[.int .u64 u,.int .i64 10] w λe w'=>e= .returned (.string ⟨(Lib.decDigits u).toArray⟩)/\∃k os,w'=grow (w.drewN k) os:=by
 by_cases hs:u<100
 .have hwr:IntKind.i64.wrap (u:Int)=(u:Int):=fy Vf;have M:((u:Int)<100):=Vf
  go_enter func280,ntmps280
  go_wp2_with (fail)
  refine(Tryz.internal_strconv_small u hs _).mono ?_;rintro e w' ⟨rfl,rfl⟩
  go_wp2
  go_ret
  exact⟨O,0, #[],by simp[World.drewN_zero]⟩
 .have hu1:1<=u:=Vf;have U:¬ ((u:Int)<100):=Vf;have J:Lib.nDigits u<=20:=by have:=Lib.numDigits_eq u hu1 z;split at this<;>omega
  have X:Lib.nDigits u<=23:=Vf;have H:prog.arrayLen 434=24:=by simp[Program.arrayLen,underlying434]
  have L:∀W,(Instr.sliceAt 434 (.pointer (Sh ⟨w.heap.size,0,Sl⟩)) Sl (Sh (.int .i64 (Lib.nDigits u:Int))) Sl).run prog W= .ok (.slice (Sh ⟨w.heap.size,0,Sl⟩) (Lib.nDigits u) 24) W:=λW=>by
   rw[run_sliceAt_array_h W 434 ⟨w.heap.size,0,Sl⟩ (by simp[Program.arrayLen,Program.elem,underlying434]) .i64 (Lib.nDigits u:Int) Vf (by rw[H];omega)]
   go_simp
  have G:=Ph w 434 (Lib.nDigits u) Vf;have E:=Tryz.internal_strconv_formatBase10 w.heap.size 0 24 u (Array.replicate (Lib.nDigits u) 0) (w.alloc (.cells Lib.zeros24 434)) G (by rw[Array.size_replicate];exact Lib.lt_pow_nDigits u) z (by rw[Array.size_replicate];omega);rw[Array.size_replicate]at E;have HH0:=Lib.hid G;clear G H
  go_enter func280,ntmps280
  go_wp2_with (fail)
  refine(Tryz.internal_strconv_numDigits u hu1 z _ (Lib.tabIs_alloc I _)).mono ?_;rintro e w' ⟨rfl,rfl⟩
  go_wp2_with (fail)
  refine E.mono ?_;rintro e w' ⟨rfl,k,v',dk,rfl,hF⟩;have Y:(convert 277 9 (.slice (Sh ⟨w.heap.size,0,Sl⟩) (Lib.nDigits u) 24)).run prog ((putRow (fun(b:UInt8)=>Value.int .u8 (b.toNat:Int)) (w.alloc (.cells Lib.zeros24 434)) w.heap.size 0 dk).drewN k)= .ok (.string ⟨(Lib.decDigits u).toArray⟩) ((putRow (fun(b:UInt8)=>Value.int .u8 (b.toNat:Int)) (w.alloc (.cells Lib.zeros24 434)) w.heap.size 0 dk).drewN k):=by
   have h:=run_convert_bytes_back (P:=prog) ((putRow (fun(b:UInt8)=>Value.int .u8 (b.toNat:Int)) (w.alloc (.cells Lib.zeros24 434)) w.heap.size 0 dk).drewN k) 277 9 5 ⟨w.heap.size,0,Sl⟩ 24 (Lib.decDigits u) underlying277 underlying5 underlying9 (λj hj=>by
    rw[Lib.row_is_numeral hF j hj,Lib.add_plain,World.cell?_drewN];exact cell?_putRow (fun(b:UInt8)=>Value.int .u8 (b.toNat:Int)) _ w.heap.size 0 _ dk HH0.out (by rw[hF.size,Array.size_replicate]) j (by rw[hF.size];rw[Lib.decDigits_length]at hj;exact hj))
   rw[Lib.decDigits_length]at h;exact h
  go_wp2
  go_ret
  obtain⟨os,eo⟩:=fin0 w (.cells Lib.zeros24 434) dk k;exact⟨O,k,os,eo⟩
theorem ia(u:Nat)(z:u<18446744073709551616):FnP prog 191 [.int .u64 u,.int .i64 10] (· = .str ⟨(Lib.decDigits u).toArray⟩):=by
 have E:FnP prog 280 [.int .u64 u,.int .i64 10] (· = .str ⟨(Lib.decDigits u).toArray⟩):=by
  intro w R us hG hR hrel;obtain⟨v11,rfl,h11⟩:=lW hrel;obtain⟨v12,rfl,h12⟩:=lW h11;obtain rfl:=lN h12;exact(ve u z w (OU hG)).mono λe w' ⟨he,k,os,hw⟩=>⟨_,_,he,O,by rw[hw];exact wg w k os,by simp only[RelP]⟩
 refine FnP.of func191 O ntmps191 Vj λm0 w0 F R0=>?_
 exact Z1 O<|Z2 O<|Rs O (aa call280 E O)<|A1 O<|Gt O<|⟨_,_,O,O,O⟩
end
section
open Mk Jn
section
variable {C:Ctx}{n:Nat}{σ:St}{dst:Option Tmp}{ty t t':TypeId}{pos:String}{after:Array Edge}{gd:Option (Nat×Bool)}{x y:Operand}
theorem ug(id':Nat)(he:ElemIs C.P t e (.int .u8 0) 1 1)(hu:C.P.underlying t'=Sh .string)(hs:σ.ev n x= .gsl id 1 0)(ho:σ.ob id=Sh (.gro e []))
  (hy:σ.ev n y= .pv (.str s)) (hb:s.size<=1000000000) (h0:0<s.size) (ac:σ.av id'=Sm):
  XJ C n ⟨dst,.call { callee:= .builtin .append,args:= #[x,y],argTypes:= #[t,t'] },ty,pos,after,gd⟩ σ ⟨.gsl id' 1 s.size,[(id',Sh (.gro e (aF s.data.toList))),(id,Sl)],[id']⟩:=by
 rintro a w Q ⟨m,R,hw⟩;obtain⟨A0,c,hev,hkc,hcm,hz,hp⟩:=hw.gsl hs;obtain⟨rfl,rfl,hmn⟩:=hz O;obtain⟨i,hi,hzz,hsize,hbytes⟩:=info_parts he.info;have M:a.eval y= .string s:=hw.str hy;have U:s.size<=maxLen:=by simp only[maxLen];omega
 have G:s.data.toList.length=s.size:=by rw[RE];rfl
 have W:aF s.data.toList≠[]:=λe=>by
  have:=ag List.length e;simp only[aF,OF,G,Tx]at this;omega
 have H:=Go.run_append_nil_string (P:=C.P) w t t' ty e i (.int .u8 0) he.u hu hi hzz s Vf Vf (by rw[hbytes];omega);have X:w.grownBy (w.drew.alloc (.cells (s.data.map (λb=>Value.int .u8 b.toNat)++Builtin.zeroCells (Value.int .u8 0).cells (grownCap w s.size 0 e-s.size)) e)) Sl:=⟨O,O,O,Vj,λq hq _=>heap_alloc_old w.drew _ hq⟩;have I:=grownCap_ge w s.size 0 e;have Y:=grownCap_le_maxLen w s.size 0 e U;have Z:(Value.int IntKind.u8 0).cells.size=1:=rfl;have hg:=heap_alloc_new w.drew (.cells (s.data.map (λb=>Value.int .u8 b.toNat)++Builtin.zeroCells (Value.int .u8 0).cells (grownCap w s.size 0 e-s.size)) e);have z:(s.data.map (λb=>Value.int .u8 b.toNat)++Builtin.zeroCells (Value.int .u8 0).cells (grownCap w s.size 0 e-s.size)).size=grownCap w s.size 0 e:=by
  have:s.data.size=s.size:=rfl;simp only[Array.size_append,Array.size_map,size_zeroCells,Z];omega
 have aa:(s.data.map (λb=>Value.int .u8 b.toNat)++Builtin.zeroCells (Value.int .u8 0).cells (grownCap w s.size 0 e-s.size)).toList.take s.size=Lib.strCells s:=by
  rw[Array.toList_append,List.take_left' (by rw[RE,Array.size_map];rfl),Array.toList_map];rfl
 generalize (s.data.map (λb=>Value.int .u8 b.toNat)++Builtin.zeroCells (Value.int .u8 0).cells (grownCap w s.size 0 e-s.size))=cur' at*;generalize grownCap w s.size 0 e=c' at*;generalize hw':w.drew.alloc (.cells cur' e)=w' at*;have J:w'.heap[w.heap.size]? =Sh (.cells cur' e (0,0)):=hg;unfold Oper.wp;have E:(execOp a.eval ⟨dst,.call { callee:= .builtin .append,args:= #[x,y],argTypes:= #[t,t'] },ty,pos,after,gd⟩).run C.P w= .ok (.value (.slice (Sh ⟨w.heap.size,0,Sl⟩) s.size c')) w':=by
  unfold execOp;simp only[resolve,invoke,builtin,Sem.run_bind,Sem.run_pure,Result.andThen_ok,Ur,bP,SD,hev,M,H]
 rw[E];have L:(aF s.data.toList).length=s.size:=by simp only[aF,OF,G]
 refine⟨_,O,upd (upd m id Sl) id' (Sh (w.heap.size,cur'.size)),R,?_⟩;rw[Rc];have ab:∀i x,upd m id Sl i=Sh x->m i=Sh x/\i≠id:=λi x e=>by
  by_cases hi:i=id
  .subst hi;rw[aA]at e;cases e
  .rw[aR _ _ hi]at e;exact⟨e,hi⟩
 refine SW.put ((hw.drop id).fresh ac J X (λq hq=>by cases hq) (λhh=>?_) (λi b' N' hi e=>?_) (.inr ?_) (.gro e (aF s.data.toList)) ?_ (cZ W)) dst ?_
 .have:=hw.hr.rsz _ hh;omega
 .have:=(hw.hr.own i b' N' (ab i _ hi).1).1;omega
 .have:=hw.hr.frame.size;omega
 .intro m' av' hR _ _;refine⟨cur',J,O,by rw[L,z];exact I,?_⟩;rw[L,aa];exact(mC s).mono hR
 .simp only[Rel];refine⟨by simp[avL],_,c',O,I,Y,λh=>by omega,λ_ b' N' e'=>?_⟩;rw[aA]at e';cases e';exact⟨O,by rw[z,R6]⟩
end
theorem qW(s:ByteArray)(z:0<s.size)(E:s.size<=1000000000):FnO prog 190 2 1 [.ptr big 0,.pv (.str s)] [(big,.mix 311 [.pv .nilptr,.gsl 9001 1 0]),(9001,.gro 5 [])] (λv ob'=>v= .tup [pIi s.size,.pv .niliface]/\ob'=ax [(big,.mix 311 [.ptr big 0,.gsl 0 1 s.size]),(0,.gro 5 (aF s.data.toList))]):=by
 refine FnO.of func190 O ntmps190 Vj λm0 w0 F R0=>?_
 have u:=J5 0 [];refine Z2 O<|Z1 O<|Rs O (bt [big,9001] 0 call279 u O O O O ⟨O,O,Vm⟩ Vh O)<|Gr O ?_;iterate 6 refine A1 O ?_
 exact Rs O (ug 0 Ot underlying9 O O O E z O)<|Y3 O<|Z4 O<|Gt O<|⟨[(4,pIi s.size),(5,.pv .niliface)],[(big,.mix 311 [.ptr big 0,.gsl 0 1 s.size]),(0,.gro 5 (aF s.data.toList))],[pIi s.size,.pv .niliface],Q5 (aS O) (aO Vg) O O,O,O,O,O,O⟩
theorem Hl(n:Nat):0<(Lib.decDigits n).length:=by
 cases h:Lib.decDigits n with
 | nil=>
   exfalso;rw[Lib.decDigits]at h;split at h<;>simp at h
 |cons a l=>simp
theorem pY(n:Nat)(U:n<1000000000)(W:(Lib.decDigits n).length<=1000):FnP prog 99 [dR (n:Int)] (· = .str ⟨(Lib.decDigits n).toArray⟩):=by
 refine FnP.of func99 O ntmps99 Vj λm0 w0 F R0=>?_
 have M:decide ((n:Int)<0)=S1:=Rv Vf;have E:=ia n Vf;have u:=Hl n;rw[show dR (n:Int)= .agg [.bool S1,.sl Sl (ai n).length (bW (ai n))] by show PV.agg [.bool (decide ((n:Int)<0)),bF ((n:Int).natAbs)]=_;rw[M];rfl];by_cases h0:n=0
 .subst h0;rw[ba];refine Z2 O<|Z4 O<|Gc O (λz=>?_) (λz=>absurd z Vj);exact Z1 O<|Gt O<|⟨_,_,O,O,by show PV.str ⟨#[48]⟩=_;rw[Lib.decDigits,dif_pos Vh];rfl⟩
 .have hlm:ai n=[n]:=by
   rw[ai,dt h0,show n/1000000000=0 by omega,ba,Ut U]
  rw[hlm];have G:(bW [n])[0]? =Sh (.int .u64 (n:Int)):=rfl;generalize hD:Lib.decDigits n=D at*;have H:D≠[]:=λe=>by rw[e]at u;simp at u
  have J:=qW ⟨D.toArray⟩ (show 0<D.length from u) (show D.length<=1000000000 by omega);have L:=vl D H Vf;refine Z2 O<|Z4 O<|Gc O (λhc=>absurd hc Vj) (λhc=>?_);refine Q3<|Z1 O<|Q4 (St.da 1 1 2 1 5 O O O)<|Z2 O<|Gc O (λhc=>absurd hc Vj) (λhc=>?_);refine Q3<|Gr O ?_;iterate 5 refine A1 O ?_
  refine Gl O (st:=λb:Bool=>bif b then mkS [(1,.ptr 0 0),(3,.ptr 1 0),(4,pIi 0)] [(0,.mix 114 [.pv (.bool S1),.pv (.sl Sl 1 (bW [n]))]),(1,.mix 311 [.pv .nilptr,.gsl 2 1 0]),(2,.gro 5 [])] 3 else mkS [(1,.ptr 0 0),(3,.ptr 1 0),(4,pIi (-1))] [(0,.mix 114 [.pv (.bool S1),.pv (.sl Sl 1 (bW [n]))]),(1,.mix 311 [.ptr 1 0,.gsl 2 1 D.length]),(2,.gro 5 (aF D))] 3)
   (I:=λ_=>True) (μ:=λb=>bif b then 1 else 0) (x0:=Sm) (Q5 (aS O) (aO O) O O) trivial ?_
  rintro(_|_) _
  .simp only[RR];refine Z2 O<|Gp O (λhc=>absurd hc Vh) (λhc=>?_);exact Gx O<|Gr O<|Rs O (bt [1,2] 3 call193 L O O O O ⟨O,O,Vm⟩ Vh O)<|A1 O<|Gt O<|⟨_,_,O,O,O⟩
  .simp only[Sy];refine Z2 O<|Gp O (λhc=>?_) (λhc=>absurd hc Vh);refine Q3<|Z3 O<|Rs O (ae 0 underlying112 gJ O O O Vh (by simp[bW]))<|Rs O (aq ⟨_,underlying300,O⟩ O G)<|Rs O (aa call191 E O)<|A1 O<|Gr O ?_;iterate 6 refine A1 O ?_
   refine Gp O (λhc=>absurd hc Vj) (λhc=>?_);exact Q3<|Z1 O<|Rs O (bt [1,2] 3 call190 J O O O O ⟨O,O,Vm⟩ Vh O)<|Z3 O<|⟨S1,Q6 [0,1,3] (aT O) (aP Vg) O O Vh O,Vm,Vh⟩
end
section
theorem Ky(g:Nat):dR (g:Int)= .agg [.bool S1,bF g]:=by
 show PV.agg [.bool (decide ((g:Int)<0)),bF (g:Int).natAbs]=_;rw[Rv Vf,R4]
theorem J1:bF 1= .sl Sl 1 [.int .u64 1]:=by rw[bF,fA Vf Vf];rfl
theorem Gu(x:Int)(g:Nat)(z:0<g):(x<0/\0<x.natAbs%g->x/(g:Int)= -((x.natAbs/g+1:Nat):Int)/\x%(g:Int)=((g-x.natAbs%g:Nat):Int))/\
  (¬ (x<0/\0<x.natAbs%g)->x/(g:Int)=sgn (decide (x<0)) (x.natAbs/g)/\x%(g:Int)=((x.natAbs%g:Nat):Int)):=by
 have E:=Nat.div_add_mod x.natAbs g;have G:=Ti x.natAbs z;generalize x.natAbs/g=q at*;generalize x.natAbs%g=r at*;have H:((g*q:Nat):Int)=(g:Int)*(q:Int):=TZ g q;have u:(g:Int)* -((q+1:Nat):Int)= -((g:Int)*(q:Int))-(g:Int):=by
  rw[Int.mul_neg,show((q+1:Nat):Int)=(q:Int)+1 from O,Int.mul_add];omega
 constructor
 .rintro⟨h1,h2⟩;refine(Int.ediv_emod_unique Vf).2 ⟨?_,Vf,Vf⟩;rw[u];omega
 .intro h;by_cases h1:x<0
  .have hr:r=0:=by
    rcases SY r with e|e
    .exact e
    .exact absurd ⟨h1,e⟩ h
   subst hr;rw[Ru h1];refine(Int.ediv_emod_unique Vf).2 ⟨?_,Vf,Vf⟩;simp only[sgn,UP,Int.mul_neg];omega
  .rw[Rv h1];refine(Int.ediv_emod_unique Vf).2 ⟨?_,Vf,Vf⟩;simp only[sgn,Sz,Up];omega
theorem oy(x:Int)(g:Nat)(hx:(ai x.natAbs).length<=900000)(L:0<g)(M:g<1000000000):FnP prog 300 [dR x,dR (g:Int)] (· = .tup [dR (x/g),dR (x%g)]):=by
 refine FnP.ofC func300 O ntmps300 Vj λm0 w0 F R0=>?_
 have W:FnP prog 364 [bF x.natAbs,bF g] (· = .tup [bF (x.natAbs/g),bF (x.natAbs%g)]):=D5 x.natAbs g Vf L M;obtain⟨hp1,hp2⟩:=Gu x g L;have X:(ai (x.natAbs/g)).length<=900000:=IT (mj (Nat.div_le_self _ _)) hx;have Y:=Ti x.natAbs L;have Z:(ai g).length<=1:=bj.2 Vf;have G:=bC S1 (x.natAbs%g);have H:=bC (decide (x<0)) (x.natAbs/g);rw[Ky g];generalize hQ:x.natAbs/g=q at*;generalize hR:x.natAbs%g=r at*;have z:decide (((ai r).length:Int)>0)=decide (0<r):=by
  rw[U3];constructor
  .intro h;exact pz Vf
  .intro h;have:(ai r).length≠0:=λe=>by have:=dj.1 e;omega
   omega
 have E:(decide (x<0) !=S1)=decide (x<0):=Vj;refine Z4 O<|Z4 O<|Rs O (aa call364 W O) ?_;iterate 5 refine A1 O ?_
 refine Z3 O ?_;apply Rf 4 18 22 [19,20,21] O Vp
 .intro hb2;iterate 4 refine A1 O ?_
  exact Q7 Vo O O O
 .intro hb2;iterate 4 refine A1 O ?_
  exact Q7 Vo O O O
 refine Gc O (λu=>?_) (λu=>?_)
 .have hc:x<0/\0<r:=by rw[z]at u;simpa using u
  obtain⟨e1,e2⟩:=hp1 hc;have U:=tQ q 1 Vf (by rw[fA Vf Vf];decide);have hs:=oO g r Vf Vf;rw[J1]at U;have I:=bC (decide (x<0)) (q+1);have J:=bC S1 (g-r);refine RW 9 O<|D1 O<|Ds [] O (λτ h=>ar Sl Vj tH O Vh Vh (h.Er O O) O) O Vg<|Ds [] O (λτ h=>aa call301 U (h.aK O)) O Vg ?_;iterate 3 refine D1 O ?_
  refine Ds [] O (λτ h=>aa call303 hs (h.aK O)) O Vg ?_;iterate 2 refine D1 O ?_
  refine⟨Vg,?_⟩;refine Gr O ?_;iterate 6 refine A1 O ?_
  exact Rs O (aa call182 (by rw[E];exact I) O)<|A1 O<|Rs O (aa call182 J O)<|Y2 O<|Gt O<|⟨_,_,O,O,⟨az ⟨_,underlying114,O⟩ iV O O O,az ⟨_,underlying114,O⟩ iV O O O,Vm⟩,by rw[e1,e2,Ru hc.1];rfl⟩
 .have hc:¬ (x<0/\0<r):=by rw[z]at u;intro h;simp[h.1,h.2]at u
  obtain⟨e1,e2⟩:=hp2 hc;refine Q3<|Gr O ?_;iterate 6 refine A1 O ?_
  exact Rs O (aa call182 (by rw[E];exact H) O)<|A1 O<|Rs O (aa call182 G O)<|Y2 O<|Gt O<|⟨_,_,O,O,⟨az ⟨_,underlying114,O⟩ iV O O O,az ⟨_,underlying114,O⟩ iV O O O,Vm⟩,by rw[e1,e2];rfl⟩
abbrev frC(q:Rat):List PV:=Pd q.num++Pd (q.den:Int)
abbrev frP(q:Rat):PV:= .agg (frC q)
structure FOk(q:Rat):Prop where
 d:q.den<31622
 n:(ai q.num.natAbs).length<=100000
theorem P5(h:n<1000000000):(ai n).length<=1:=bj.2 Vf
theorem FOk.dl(h:FOk q):(ai (q.den:Int).natAbs).length<=1:=P5 (by rw[R4];have:=h.d;omega)
theorem Al(a:Int):((a-1).sign==0)=decide (a=1):=sign_eq a
theorem gS(q:Rat)(h:FOk q):FnP prog 229 [frP q] (· = .bool (decide (q.den=1))):=by
 refine FnP.of func229 O ntmps229 Vj λm0 w0 F R0=>?_
 have u:=jr 1 Vf Vf;have z:=eU (q.den:Int) 1 (by have:=h.dl;omega) (by decide+kernel);have e:(((q.den:Int)-1).sign==0)=decide (q.den=1):=by rw[Al,U3];omega
 refine Z2 O<|RW 6 O ?_;iterate 2 refine D1 O ?_
 refine Ds [] O (λτ h=>aa call94 u O) O Vg<|Ds [] O (λτ h=>aa call98 z (h.aK O)) O Vg ?_;iterate 2 refine D1 O ?_
 refine⟨Vg,?_⟩;exact Gt O<|⟨_,_,O,O,ag PV.bool e⟩
theorem jQ(z:Int):FnP prog 227 [dR z] (· =frP (z:Rat)):=by
 refine FnP.ofC func227 O ntmps227 Vj λm0 w0 F R0=>?_
 have u:=jr 1 Vf Vf;refine Z2 O<|RW 4 O<|D1 O<|Ds [] O (λτ h=>aa call94 u O) O Vg ?_;iterate 2 refine D1 O ?_
 refine⟨Vg,?_⟩;exact Gt O<|⟨_,_,O,O,⟨az ⟨_,underlying116,O⟩ qd O O O,Vm⟩,O⟩
theorem nH(n:Int)(u: -9223372036854775808<=n)(z:n<=9223372036854775807):FnP prog 136 [.int .i64 n] (· =frP (n:Rat)):=by
 refine FnP.ofC func136 O ntmps136 Vj λm0 w0 F R0=>?_
 exact Z1 O<|Z1 O<|Rs O (aa call94 (jr n u z) O)<|Rs O (aa call227 (jQ n) O)<|A1 O<|Gt O<|⟨_,_,O,O,⟨az ⟨_,underlying116,O⟩ qd O O O,Vm⟩,O⟩
theorem eL(q:Rat):FnP prog 203 [frP q] (· = .int .i64 q.num.sign):=by
 refine FnP.of func203 O ntmps203 Vj λm0 w0 F R0=>?_
 exact Z2 O<|Z2 O<|Rs O (aa call189 (l6 q.num) O)<|A1 O<|Gt O<|⟨_,_,O,O,O⟩
theorem N3(x:Int)(y:Nat)(z:(ai x.natAbs).length<=900000)(u:y<1000000000):FnP prog 299 [dR x,dR (y:Int)] (· =dR (Int.gcd x y:Int)):=
 pQ Dj (λx y h h0 h2 z u=>Qo h h0 h2 z) x (y:Int) (.inl (by rw[R4];exact u)) Vf (by have:=P5 u;rw[R4];omega)
theorem Ck(x:Int)(y:Nat)(u:0<y):(Rat.divInt x y).num=x/(Int.gcd x y:Int)/\((Rat.divInt x y).den:Int)=(y:Int)/(Int.gcd x y:Int):=by
 rw[Rat.num_divInt,Rat.den_divInt,dt Vf,Int.gcd_comm (y:Int) x,Int.sign_eq_one_of_pos Vf,Int.one_mul];refine⟨O,?_⟩;rw[Int.natCast_ediv,show(((y:Int).natAbs:Nat):Int)=(y:Int) by omega]
theorem uC(x:Int)(y:Nat)(U:(ai x.natAbs).length<=900000)(h0:0<y)(W:y<1000000000):FnP prog 230 [dR x,dR (y:Int)] (· =frP (Rat.divInt x y)):=by
 refine FnP.ofC func230 O ntmps230 Vj λm0 w0 F R0=>?_
 have M:=l6 (y:Int);rw[Int.sign_eq_one_of_pos Vf]at M;have X:=N3 x y U W;have z:0<Int.gcd x y:=Int.gcd_pos_of_ne_zero_right x Vf;have Y:Int.gcd x y<=y:=by
  have:=Int.le_of_dvd (show(0:Int)<(y:Int) by omega) (Int.gcd_dvd_right x (y:Int));omega
 obtain⟨e1,e2⟩:=Ck x y h0;have H:=jr 1 Vf Vf;generalize hG:Int.gcd x y=g at*;have E:=eU (g:Int) 1 (by have:=P5 (n:=g) Vf;rw[R4];omega) (by decide+kernel);have I:=oy x g U z Vf;have J:=oy (y:Int) g (by have:=P5 W;rw[R4];omega) z Vf;have L:(((g:Int)-1).sign !=0)=decide (g≠1):=by
  have:=Al (g:Int);rw[bne,this,<-decide_not,U3];omega
 refine Z3 O<|Z1 O<|Rs O (aa call189 M O)<|A1 O<|Gp O (λG=>absurd G Vj) (λG=>?_);refine Q3<|Z2 O<|Rs O (aa call299 X O)<|Y2 O<|RW 4 O<|D1 O<|Ds [] O (λτ h=>aa call94 H O) O Vg<|Ds [] O (λτ h=>aa call98 E (h.aK O)) O Vg<|D1 O ?_;refine⟨Vg,?_⟩;refine Gc O (λu=>?_) (λu=>?_)
 .refine Z2 O<|Rs O (aa call300 I O) ?_;iterate 4 refine A1 O ?_
  refine Z2 O<|Rs O (aa call300 J O) ?_;iterate 4 refine A1 O ?_
  exact Z4 O<|Gt O<|⟨_,_,O,O,⟨az ⟨_,underlying116,O⟩ qd O O O,Vm⟩,by rw[frP,frC,e1,e2];rfl⟩
 .have hg1:g=1:=by rw[L]at u;simpa using u
  have Z:frP (Rat.divInt x y)= .agg (Pd x++Pd (y:Int)):=by rw[frP,frC,e1,e2,hg1,Int.natCast_one,Int.ediv_one,Int.ediv_one]
  exact Q3<|Z4 O<|Gt O<|⟨_,_,O,O,⟨az ⟨_,underlying116,O⟩ qd O O O,Vm⟩,by rw[Z];rfl⟩
theorem kP(h:q.den=1):(q.num:Rat)=q:=Rat.ext O h.symm
theorem yk(u:(ai a).length<=j)(z:(ai b).length<=k):(ai (a*b)).length<=j+k:=by
 refine bj.2 ?_;rw[Nat.pow_add];exact Nat.mul_lt_mul'' (bj.1 u) (bj.1 z)
theorem NW(u:(ai a).length<=k)(z:(ai b).length<=k):(ai (a+b)).length<=k+1:=by
 refine bj.2 ?_;have E:=bj.1 u;have G:=bj.1 z;rw[Tc];omega
theorem den_mul(u:a<31622)(z:b<31622):a*b<1000000000:=
 UN (Sw (show a<=31621 by omega) (show b<=31621 by omega)) Vh
theorem M4(a b:Rat):Rat.divInt (a.num*b.num) ((a.den*b.den:Nat):Int)=a*b:=by
 rw[Rat.mul_def,Rat.normalize_eq_mkRat,<-Rat.divInt_ofNat]
theorem M3(a b:Rat):Rat.divInt (a.num*(b.den:Int)+b.num*(a.den:Int)) ((a.den*b.den:Nat):Int)=a+b:=by
 rw[Rat.add_def,Rat.normalize_eq_mkRat,<-Rat.divInt_ofNat]
theorem gH(a b:Rat)(G:FOk a)(H:FOk b):FnP prog 139 [frP a,frP b] (· =frP (a*b)):=by
 refine FnP.ofC func139 O ntmps139 Vj λm0 w0 F R0=>?_
 have M:=gS a G;have U:=gS b H;have W:=G.dl;have X:=H.dl;have I:=G.n;have J:=H.n;have E:=dO a.num b.num Vf Vf;have L:=dO (a.den:Int) (b.den:Int) Vf Vf;have Y:=jQ (a.num*b.num);have u:=uC (a.num*b.num) (a.den*b.den) (by rw[Int.natAbs_mul];have:=yk I J;omega) (U6 a.den_pos b.den_pos) (den_mul G.d H.d);rw[M4,show((a.den*b.den:Nat):Int)=(a.den:Int)*(b.den:Int)from TZ _ _]at u;refine Z3 O<|Z1 O<|Rs O (aa call229 M O)<|A1 O ?_;apply Rf 3 7 10 [8,9] O Vp
 .intro hb2;exact A1 O<|Rg O (aa call229 U O)<|A1 O<|Q7 Vo O O O
 .intro hb2;exact Y3 O<|Q7 Vo O O O
 refine Gc O (λz=>?_) (λz=>?_)
 .have hab:a.den=1/\b.den=1:=by simpa using z
  have e:((a.num*b.num:Int):Rat)=a*b:=by rw[T8,kP hab.1,kP hab.2]
  exact Z4 O<|Rs O (aa call95 E O)<|Rs O (aa call227 Y O)<|A1 O<|Gt O<|⟨_,_,O,O,⟨az ⟨_,underlying116,O⟩ qd O O O,Vm⟩,by rw[<-e];rfl⟩
 .refine Q3<|RW 12 O ?_;iterate 4 refine D1 O ?_
  refine Ds [] O (λτ h=>aa call95 E (h.aK O)) O Vg ?_;iterate 4 refine D1 O ?_
  refine Ds [] O (λτ h=>aa call95 L (h.aK O)) O Vg<|Ds [] O (λτ h=>aa call230 u (h.aK O)) O Vg<|D1 O ?_;refine⟨Vg,?_⟩;exact Gt O<|⟨_,_,O,O,⟨az ⟨_,underlying116,O⟩ qd O O O,Vm⟩,O⟩
theorem kT(a b:Rat)(E:FOk a)(G:FOk b):FnP prog 140 [frP a,frP b] (· =frP (a+b)):=by
 refine FnP.ofC func140 O ntmps140 Vj λm0 w0 F R0=>?_
 have h1:=gS a E;have h2:=gS b G;have H:=E.dl;have I:=G.dl;have J:=E.n;have L:=G.n;have M:(ai (a.num*(b.den:Int)).natAbs).length<=100001:=by rw[Int.natAbs_mul];exact yk J I
 have U:(ai (b.num*(a.den:Int)).natAbs).length<=100001:=by rw[Int.natAbs_mul];exact yk L H
 have W:=jV a.num b.num Vf Vf;have X:=dO a.num (b.den:Int) Vf Vf;have Y:=dO b.num (a.den:Int) Vf Vf;have Z:=dO (a.den:Int) (b.den:Int) Vf Vf;have hs:=jV (a.num*(b.den:Int)) (b.num*(a.den:Int)) Vf Vf;have hw:=jQ (a.num+b.num);have u:=uC (a.num*(b.den:Int)+b.num*(a.den:Int)) (a.den*b.den) (IT (mj (Int.natAbs_add_le _ _)) (by have:=NW M U;omega)) (U6 a.den_pos b.den_pos) (den_mul E.d G.d);rw[M3,show((a.den*b.den:Nat):Int)=(a.den:Int)*(b.den:Int)from TZ _ _]at u;refine Z3 O<|Z1 O<|Rs O (aa call229 h1 O)<|A1 O ?_;apply Rf 3 7 10 [8,9] O Vp
 .intro hb2;exact A1 O<|Rg O (aa call229 h2 O)<|A1 O<|Q7 Vo O O O
 .intro hb2;exact Y3 O<|Q7 Vo O O O
 refine Gc O (λz=>?_) (λz=>?_)
 .have hab:a.den=1/\b.den=1:=by simpa using z
  have e:((a.num+b.num:Int):Rat)=a+b:=by rw[Rat.intCast_add,kP hab.1,kP hab.2]
  exact Z4 O<|Rs O (aa call231 W O)<|Rs O (aa call227 hw O)<|A1 O<|Gt O<|⟨_,_,O,O,⟨az ⟨_,underlying116,O⟩ qd O O O,Vm⟩,by rw[<-e];rfl⟩
 .refine Q3<|RW 18 O ?_;iterate 4 refine D1 O ?_
  refine Ds [] O (λτ h=>aa call95 X (h.aK O)) O Vg ?_;iterate 4 refine D1 O ?_
  refine Ds [] O (λτ h=>aa call95 Y (h.aK O)) O Vg<|Ds [] O (λτ h=>aa call231 hs (h.aK O)) O Vg ?_;iterate 4 refine D1 O ?_
  refine Ds [] O (λτ h=>aa call95 Z (h.aK O)) O Vg<|Ds [] O (λτ h=>aa call230 u (h.aK O)) O Vg<|D1 O ?_;refine⟨Vg,?_⟩;exact Gt O<|⟨_,_,O,O,⟨az ⟨_,underlying116,O⟩ qd O O O,Vm⟩,O⟩
end
section
theorem J3(k:Nat)(a b:Int)(s t:ByteArray)(w:World):(Op.equalIn (k+2) 147 (.agg #[.int .i64 a,.string s]) (.agg #[.int .i64 b,.string t])).run prog w= .ok (a==b&&s.toList==t.toList) w:=by
 have u:=underlying3;have z:=underlying9;have hS:prog.underlying 147=Sh (.struct (prog.fieldsOf 147)):=Vg;rw[run_equalIn_agg w (k+1) 147 _ _ hS Tryz.stoodInHeld147];simp only[Program.fieldsOf,underlying147]
 go_simp
 by_cases h1:a=b<;>by_cases h2:s.toList=t.toList<;>simp[h1,h2]
structure Par where
 f:Int
 c:ByteArray
structure Trm where
 p:Par
 v:ByteArray
structure Prr where
 a:Par
 b:Par
 v:ByteArray
abbrev pT(p:Par):List PV:=[.int .i64 p.f,.str p.c]
abbrev trmC(t:Trm):List PV:=[.int .i64 t.p.f,.str t.p.c,.str t.v]
abbrev prrC(t:Prr):List PV:=[.int .i64 t.a.f,.str t.a.c,.int .i64 t.b.f,.str t.b.c,.str t.v]
def si(p q:Par):Bool:=p.f==q.f&&p.c.toList==q.c.toList
def trmEq(p q:Trm):Bool:=si p.p q.p&&p.v.toList==q.v.toList
def prrEq(p q:Prr):Bool:=(si p.a q.a&&si p.b q.b)&&p.v.toList==q.v.toList
theorem pd{u:Value}{p:Par}(h:RelP w R (.agg (pT p)) u):u= .agg #[.int .i64 p.f,.string p.c]:=by
 simpa[RelP,RelPL]using h
section
variable {C:Ctx}{n:Nat}{σ:St}{dst:Option Tmp}{ty t':TypeId}{pos:String}{after:Array Edge}{gd:Option (Nat×Bool)}{x y:Operand}
theorem JB{p q:Par}(E:C.P=prog)(G:σ.ev n x= .pv (.agg (pT p)))(H:σ.ev n y= .pv (.agg (pT q))):
  XJ C n ⟨dst,.binOp .eql 147 x y t',ty,pos,after,gd⟩ σ ⟨.pv (.bool (si p q)),[],[]⟩:=
 .lit O λa w m R hw=>by
  have u:=pd (hw.pv G);have z:=pd (hw.pv H);have e:(Op.equalIn 10000 147 _ _).run _ w=_:=J3 9998 p.f q.f p.c q.c w;rw[E];simp[execOp,u,z,run_eqGuard_agg w _ _ _ _ _ _ Tryz.eqGuardType147,run_eql_struct,e,wA,si,trmEq,prrEq]
end
end
section
open Mk
def tD(s t:ByteArray):Int:=if Op.bytesLess s.toList t.toList=Sm then-1 else if(!(Op.bytesLess s.toList t.toList||s.toList==t.toList))=Sm then 1 else 0
theorem CJ(s t:ByteArray):FnP prog 135 [.str s,.str t] (· = .int .i64 (tD s t)):=by
 refine FnP.of func135 O ntmps135 Vj λm0 w0 F R0=>?_
 refine Z1 O<|Z1 O<|Rs O (aa call226 (tT s) O)<|A1 O<|Z1 O<|Rs O (aa call226 (tT t) O)<|A1 O<|Z1 O<|Gc O (λE=>absurd E Vj) (λE=>?_);refine Q3<|Z1 O<|Gc O (λG=>absurd G Vj) (λG=>?_);refine Q3<|Z3 O<|Gc O (λu=>?_) (λu=>?_)
 .exact Z1 O<|Gt O<|⟨_,_,O,O,ag (PV.int .i64) (by rw[tD,AT u])⟩
 .refine Q3<|Z3 O ?_;refine Gc O (λz=>?_) (λz=>?_)
  .exact Z1 O<|Gt O<|⟨_,_,O,O,ag (PV.int .i64) (by rw[tD,dt (by rw[u];decide),AT z])⟩
  .exact Q3<|Z1 O<|Gt O<|⟨_,_,O,O,ag (PV.int .i64) (by rw[tD,dt (by rw[u];decide),dt (by rw[z];decide)])⟩
def orI(l:List Int):Int:=(l.find? (· !=0)).getD 0
theorem yZ(z:k<l.length)(h:∀i∈l.take k,i=0)(E:l[k]≠0):orI l=l[k]:=by
 have e:l=l.take k++l[k]::l.drop (k+1):=by rw[<-RF z,Sb]
 have u:(l.take k).find? (· !=0)=Sl:=List.find?_eq_none.2 λx hx=>by simp[h x hx]
 rw[orI]
 conv=>lhs;rw[e]
 rw[List.find?_append,u,Option.none_or,List.find?_cons_of_pos (by simpa using E)];rfl
theorem yK(h:∀i∈l,i=0):orI l=0:=by
 rw[orI,List.find?_eq_none.2 λx hx=>by simp[h x hx]];rfl
theorem Nf(l:List Int)(J:l.length<=1000000):FnP prog 211 [aj l] (· = .int .i64 (orI l)):=by
 refine FnP.of func211 O ntmps211 Vj λm0 w0 F R0=>?_
 refine Z1 O<|Z1 O<|Z3 O<|Gl O (st:=λVn:Nat=>mkS [(3,pIi 0),(6,.pv (aj l)),(7,pIi l.length),(8,pIi Vn)] [] 0)
  (I:=λVn=>Vn<=l.length/\∀i∈l.take Vn,i=0) (μ:=λVn=>l.length-Vn) (x0:=(0)) (Q5 (aS O) trivial O O) (⟨cd _,λi hi=>by simp at hi⟩) ?_
 rintro k ⟨hk,hz⟩;refine Z1 O<|Gp O (λE=>?_) (λE=>?_)
 .have hlt:k<l.length:=Vf;have H:=aX hlt;have G:=aD hlt;have z:=λh=>yZ hlt hz h
  refine Q3<|Z1 O ?_;first|refine A2 O Vi ?_|refine A1 O ?_
  refine A1 O<|Z3 O<|Gc O (λu=>?_) (λu=>?_)
  .exact Z2 O<|Gt O<|⟨_,_,O,O,ag (PV.int .i64) (z (by simpa using u)).symm⟩
  .exact Q3<|Z2 O<|⟨(k+1),Q5 (aS O) trivial O O,⟨Vf,λi hi=>by rw[bX hlt,Rx,Rn]at hi;rcases hi with h|rfl;exact hz i h;simpa using u⟩,Vf⟩
 .exact Gx O<|Z2 O<|Gt O<|⟨_,_,O,O,ag (PV.int .i64) (yK λi hi=>hz i (by rwa [aQ Vf])).symm⟩
def tY(a b:Int):Int:=if a<b then-1 else if b<a then 1 else 0
def cD(p q:Par):Int:=orI [tY p.f q.f,tD p.c q.c]
theorem Fh(p q:Par):FnP prog 129 [.agg (pT p),.agg (pT q)] (· = .int .i64 (cD p q)):=by
 refine FnP.of func129 O ntmps129 Vj λm0 w0 F R0=>?_
 refine Z3 O<|RW 13 O ?_;iterate 4 refine D1 O ?_
 refine Ds [] O (λτ h=>aa call212 (FF p.f q.f) (h.aK O)) O Vg ?_;iterate 4 refine D1 O ?_
 refine Ds [] O (λτ h=>aa call135 (CJ p.c q.c) (h.aK O)) O Vg<|Ds [] O (λτ h=>ar Sl Vj tm O Vh Vh (h.Er O O) O) O Vg<|Ds [] O (λτ h=>aa call211 (Nf [tY p.f q.f,tD p.c q.c] Vj) (h.aK O)) O Vg<|D1 O ?_;refine⟨Vg,?_⟩;exact Gt O<|⟨_,_,O,O,O⟩
end
section
namespace Mm
open Jn
theorem vn{p q:Par}:si p q=Sm↔p=q:=by
 obtain⟨a,s⟩:=p;obtain⟨b,t⟩:=q;constructor
 .intro h;simp only[si,sh,S0]at h;have u:a=b:=h.1;have z:s=t:=bytes_inj h.2;rw[u,z]
 .intro h;rw[h];simp[si]
instance instBEqPar:BEq Par:=⟨si⟩
instance instLawPar:LawfulBEq Par where
 eq_of_beq h:=vn.1 h
 rfl:=vn.2 O
abbrev PP:=Par×Par
section
variable {K:Type}[BEq K][LawfulBEq K]
def lk:List (K×Rat)->K->Rat
 |[],_=>0
 |e::l,k=>(if e.1==k then e.2 else 0)+lk l k
omit [LawfulBEq K] in
theorem ea(l m:List (K×Rat))(k:K):lk (l++m) k=lk l k+lk m k:=by
 induction l with
 |nil=>simp[lk,Rat.zero_add]
 |cons e l ih=>simp only[SN,lk,ih];grind
omit [LawfulBEq K] in
theorem zl(l m:List (K×Rat))(e:K×Rat)(k:K):lk (l++e::m) k=lk (l++m) k+if e.1==k then e.2 else 0:=by
 rw[ea,ea];simp only[lk];grind
theorem qI{l:List (K×Rat)}{k:K}(h:∀e∈l,e.1≠k):lk l k=0:=by
 induction l with
 |nil=>rfl
 | cons e l ih=>
   have u:(e.1==k)=S1:=by
    cases hb:e.1==k with
    |false=>rfl
    |true=>exact absurd (eq_of_beq hb) (h e Vj)
   simp only[lk,u,ih (λe' he=>h e' (by simp[he]))];simp[Rat.zero_add]
theorem fM{l:List (K×Rat)}(z:(l.map (·.1)).Nodup){e:K×Rat}(G:e∈l):lk l e.1=e.2:=by
 obtain⟨l1,l2,rfl⟩:=List.append_of_mem G;rw[zl,qI,S9,AT O,Rat.zero_add];intro e' he' hk;simp only[RG,bP]at z;have u:=Uk.1 z;have E:=Sx.1 u.2.1;rcases Rx.1 he' with h|h
 .exact u.2.2 e'.1 (By.2 ⟨e',h,O⟩) e.1 Vj hk
 .exact E.1 (By.2 ⟨e',h,hk⟩)
def note(l:List (K×Rat))(k:K)(x:Rat):List (K×Rat):=match l.findIdx? (λe=>e.1==k)with
 |some j=>if x+(l.getD j (k,0)).2=0 then l.eraseIdx j else l.set j (k,x+(l.getD j (k,0)).2)
 |none=>if x=0 then l else l++[(k,x)]
theorem fw{k:K}:∀{l:List (K×Rat)}{j:Nat},l.findIdx? (λe=>e.1==k)=Sh j->∃l1 o l2,l=l1++(k,o)::l2/\j=l1.length/\∀e∈l1,e.1≠k
 |[],_,h=>by simp at h
 | e::l,j,h=>by
   rw[List.findIdx?_cons]at h;cases hb:e.1==k with
   | true=>
     rw[hb]at h;simp only[UP,Rq]at h;subst h;have:=eq_of_beq hb;exact⟨[],e.2,l,by rw[<-this];rfl,O,Vj⟩
   | false=>
     rw[hb]at h;simp only[Sz,Up,T4]at h;obtain⟨j',h1,rfl⟩:=h;obtain⟨l1,o,l2,rfl,rfl,h2⟩:=fw h1;refine⟨e::l1,o,l2,O,O,λe' he'=>?_⟩;rcases AS.1 he' with rfl|h3
     .intro e1;rw[e1]at hb;simp at hb
     .exact h2 e' h3
theorem kF{k:K}{l:List (K×Rat)}(h:l.findIdx? (λe=>e.1==k)=Sl):∀e∈l,e.1≠k:=by
 rw[Un]at h;intro e he e1;have:=h e he;rw[e1]at this;simp at this
theorem o9{k:K}{l1 l2:List (K×Rat)}{o:Rat}(h:∀e∈l1,e.1≠k):note (l1++(k,o)::l2) k x=if x+o=0 then l1++l2 else l1++(k,x+o)::l2:=by
 have u:(l1++(k,o)::l2).findIdx? (λe=>e.1==k)=Sh l1.length:=by
  induction l1 with
  |nil=>rw[Sr,List.findIdx?_cons];simp
  | cons e l1 ih=>
    rw[SN,List.findIdx?_cons];have z:(e.1==k)=S1:=by
     cases hb:e.1==k with
     |false=>rfl
     |true=>exact absurd (eq_of_beq hb) (h e Vj)
    rw[z,ih (λe' he=>h e' (by simp[he]))];simp
 unfold note;rw[u];simp only;have E:(l1++(k,o)::l2).getD l1.length (k,0)=(k,o):=by simp[List.getD]
 rw[E];simp only;split
 .rw[List.eraseIdx_append_of_length_le (BY _)];simp
 .rw[List.set_append_right _ _ (BY _)];simp
theorem ou{k:K}{l:List (K×Rat)}(h:∀e∈l,e.1≠k):note l k x=if x=0 then l else l++[(k,x)]:=by
 have u:l.findIdx? (λe=>e.1==k)=Sl:=by
  rw[Un];intro e he;cases hb:e.1==k with
  |false=>rfl
  |true=>exact absurd (eq_of_beq hb) (h e he)
 unfold note;rw[u]
theorem fl(l:List (K×Rat))(k:K):(∃l1 o l2,l=l1++(k,o)::l2/\∀e∈l1,e.1≠k)\/∀e∈l,e.1≠k:=by
 cases h:l.findIdx? (λe=>e.1==k)with
 |none=>exact .inr (kF h)
 |some j=>obtain⟨l1,o,l2,h1,_,h2⟩:=fw h;exact .inl ⟨l1,o,l2,h1,h2⟩
theorem GH(l:List (K×Rat))(k:K)(x:Rat)(k':K):lk (note l k x) k'=lk l k'+if k==k' then x else 0:=by
 rcases fl l k with⟨l1,o,l2,rfl,h⟩|h
 .rw[o9 h];split
  .rename_i h0;rw[zl l1 l2 (k,o)];simp only;split<;>grind
  .rw[zl l1 l2 (k,o),zl l1 l2 (k,x+o)];simp only;split<;>grind
 .rw[ou h];split
  .rename_i h0;rw[h0];simp[UT]
  .rw[ea];simp only[lk];grind
theorem Gs{l:List (K×Rat)}(u:(l.map (·.1)).Nodup)(k:K)(x:Rat):((note l k x).map (·.1)).Nodup:=by
 rcases fl l k with⟨l1,o,l2,rfl,h⟩|h
 .rw[o9 h];simp only[RG,bP]at u;split
  .rw[RG];exact(List.Sublist.append_left (List.sublist_cons_self _ _) _).nodup u
  .simpa using u
 .rw[ou h];split
  .exact u
  .rw[RG,Uk];refine⟨u,Vj,λa ha b hb e=>?_⟩;obtain⟨e',he',rfl⟩:=By.1 ha;simp at hb;exact h e' he' (e.trans hb)
theorem rP{l:List (K×Rat)}{k:K}{e:K×Rat}(h:e∈note l k x):e∈l\/(e.1=k/\e.2≠0/\(e.2=x\/∃o,(k,o)∈l/\e.2=x+o)):=by
 rcases fl l k with⟨l1,o,l2,rfl,hk⟩|hk
 .rw[o9 hk]at h;split at h
  .rcases Rx.1 h with h|h
   .exact .inl (by simp[h])
   .exact .inl (by simp[h])
  .rename_i h0;rcases Rx.1 h with h|h
   .exact .inl (by simp[h])
   .rcases AS.1 h with rfl|h
    .exact .inr ⟨O,h0,.inr ⟨o,Vj,O⟩⟩
    .exact .inl (by simp[h])
 .rw[ou hk]at h;split at h
  .exact .inl h
  .rename_i h0;rcases Rx.1 h with h|h
   .exact .inl h
   .simp at h;subst h;exact .inr ⟨O,h0,.inl O⟩
end
structure Sem where
 c:Rat
 s:Par->Rat
 p:Par->Par->Rat
theorem Sem.same{a b:Sem}(u:a.c=b.c)(z:∀x,a.s x=b.s x)(E:∀x y,a.p x y=b.p x y):a=b:=by
 obtain⟨c,s,p⟩:=a;obtain⟨c',s',p'⟩:=b;simp only at u z E;rw[u,funext z,funext λx=>funext (E x)]
def Sem.zero:Sem:=⟨0,λ_=>0,λ_ _=>0⟩
def Sem.add(a b:Sem):Sem:=⟨a.c+b.c,λx=>a.s x+b.s x,λx y=>a.p x y+b.p x y⟩
def Sem.mul(a b:Sem):Sem:=⟨a.c*b.c,λx=>a.c*b.s x+b.c*a.s x,λx y=>a.c*b.p x y+b.c*a.p x y+(a.s x*b.s y+a.s y*b.s x)⟩
def dM(D:Int)(q:Rat):Prop:=∃z:Int,q*(D:Rat)=(z:Rat)
theorem dM.add{a b:Rat}(u:dM D a)(z:dM D b):dM D (a+b):=by
 obtain⟨x,hx⟩:=u;obtain⟨y,hy⟩:=z;exact⟨x+y,by rw[Rat.add_mul,hx,hy,Rat.intCast_add]⟩
theorem dM.mul{E:Int}{a b:Rat}(u:dM D a)(z:dM E b):dM (D*E) (a*b):=by
 obtain⟨x,hx⟩:=u;obtain⟨y,hy⟩:=z;exact⟨x*y,by rw[T8,T8,<-hx,<-hy];grind⟩
theorem dM.ofInt(D z:Int):dM D (z:Rat):=⟨z*D,by rw[T8]⟩
theorem dM.up(E:Int){a:Rat}(u:dM D a):dM (D*E) a:=by
 obtain⟨x,hx⟩:=u;exact⟨x*E,by rw[T8,T8,<-hx];grind⟩
theorem dM.den(h:dM D q):(q.den:Int)∣D:=by
 obtain⟨z,hz⟩:=h;have u:q.num*D*((1:Nat):Int)=z*((q.den*1:Nat):Int):=by
  have E:q*(D:Rat)=mkRat (q.num*D) (q.den*1):=Rat.mul_def' q (D:Rat);have G:(z:Rat)=mkRat z 1:=(Rat.mkRat_self (z:Rat)).symm;rw[E,G]at hz;exact(Rat.mkRat_eq_iff (by have:=q.den_pos;omega) Vh).1 hz
 simp only[R6,Int.natCast_one,Int.mul_one]at u;have H:q.den∣q.num.natAbs*D.natAbs:=by
  rw[<-Int.natAbs_mul,u,Int.natAbs_mul,R4];exact Nat.dvd_mul_left _ _
 exact Int.ofNat_dvd_left.2 (Nat.Coprime.dvd_of_dvd_mul_left q.reduced.symm H)
theorem dM.LH(u:0<D)(h:dM D q):(q.den:Int)<=D:=Int.le_of_dvd u h.den
def bl(B:Nat)(q:Rat):Prop:= -(B:Rat)<=q/\q<=(B:Rat)
theorem bl.zero(B:Nat):bl B 0:=by
 have h:(0:Rat)<=(B:Rat):=by
  have:=Rat.natCast_le_natCast.2 (cd B);exact this
 constructor
 .grind
 .exact h
theorem bl.up(h:bl B q)(u:B<=C):bl C q:=by
 have z:(B:Rat)<=(C:Rat):=Rat.natCast_le_natCast.2 u;obtain⟨h2,h3⟩:=h;constructor<;>grind
theorem bl.add{a b:Rat}(z:bl B a)(E:bl C b):bl (B+C) (a+b):=by
 obtain⟨h1,h2⟩:=z;obtain⟨h3,h4⟩:=E;have u:((B+C:Nat):Rat)=(B:Rat)+(C:Rat):=Rat.natCast_add B C;constructor
 .rw[u];grind
 .rw[u];grind
theorem bl.num(h:bl B q):q.num.natAbs<=B*q.den:=by
 obtain⟨h1,h2⟩:=h;rw[Rat.le_iff]at h1 h2;have u:((B:Nat):Rat).num=(B:Int):=rfl;have z:((B:Nat):Rat).den=1:=rfl;have E:(-((B:Nat):Rat)).num= -(B:Int):=rfl;have G:(-((B:Nat):Rat)).den=1:=rfl;rw[u,z]at h2;rw[E,G]at h1;have H:((B*q.den:Nat):Int)=(B:Int)*(q.den:Int):=Vj;rw[Int.neg_mul]at h1;omega
theorem bl.mul{a b:Rat}(I:bl B a)(J:bl C b):bl (B*C) (a*b):=by
 have u:∀x y B C:Rat, -B<=x->x<=B-> -C<=y->y<=C->x*y<=B*C:=by
  intro x y B C h1 h2 h3 h4;have hB:0<=B:=by grind
  have z:0<=C:=by grind
  by_cases hx:0<=x
  .have G:x*y<=x*C:=Rat.mul_le_mul_of_nonneg_left h4 hx;have E:x*C<=B*C:=Rat.mul_le_mul_of_nonneg_right h2 z;exact Rat.le_trans G E
  .have hx':0<= -x:=by grind
   have G:(-x)*(-y)<=(-x)*C:=Rat.mul_le_mul_of_nonneg_left (by grind) hx';have E:(-x)*C<=B*C:=Rat.mul_le_mul_of_nonneg_right (by grind) z
   grind
 obtain⟨h1,h2⟩:=I;obtain⟨h3,h4⟩:=J;have H:((B*C:Nat):Rat)=(B:Rat)*(C:Rat):=Rat.natCast_mul B C;constructor
 .rw[H];have:=u (-a) b (B:Rat) (C:Rat) (by grind) (by grind) h3 h4
  grind
 .rw[H];exact u a b (B:Rat) (C:Rat) h1 h2 h3 h4
theorem gC{K:Type}[BEq K][LawfulBEq K]{l:List (K×Rat)}(u:(l.map (·.1)).Nodup)(h:∀e∈l,bl B e.2)(k:K):bl B (lk l k):=by
 rcases fl l k with⟨l1,o,l2,rfl,_⟩|hk
 .have:=fM u (e:=(k,o)) Vj;simp only at this;rw[this];exact h (k,o) Vj
 .rw[qI hk];exact bl.zero B
end Mm
end
end Go.Proofs.YtoplpepiabedhaaGreatDoor
