/- Lemmas. No condition. -/
import Derived.ChangeKeysEq
import Derived.Test.YtkkenamefaegfaaGreatDoorJE10
set_option maxRecDepth 100000
set_option maxHeartbeats 4000000
open Go.RowKit Go.Proofs.Tryz
open Option renaming some→UF,none→UG
open Bool renaming true→VA,false→VC
namespace Go.Proofs.YtkkenamefaegfaaGreatDoor
variable{s d:ByteArray}{i k n B id sz:Nat}{l:List UInt8}{c:UInt8}{q:Rat}{K:Type}{T e:TypeId}{kk:IntKind}
section
open Mk
theorem Iv(h:Lib.indexByte s.data.toList 47=(i:Int)):fT s=s.extract 0 i/\ky s=s.extract (i+1) s.size/\bD s=VA:=by
 have e:Lib.index s.data.toList [47]=(i:Int):=by rw[Lib.index_one];exact h
 have hc:Lib.cut s.data.toList [47]=(s.data.toList.take i,s.data.toList.drop (i+1),VA):=by rw[Lib.cut,e,By Xj];rfl
 have j:(s.extract (i+1) s.size).data.toList=s.data.toList.drop (i+1):=Lib.extract_to_end s (i+1);refine⟨?_,?_,?_⟩
 .rw[fT,hc];apply ByteArray.ext;apply Array.ext';simp[List.extract_eq_take_drop]
 .rw[ky,hc];show(⟨(s.data.toList.drop (i+1)).toArray⟩:ByteArray)=_;rw[<-j]
 rw[bD,hc]
theorem uI(h:Lib.indexByte s.data.toList 47= -1):fT s=s/\bD s=VC:=by
 have e:Lib.index s.data.toList [47]= -1:=by rw[Lib.index_one];exact h
 have hc:Lib.cut s.data.toList [47]=(s.data.toList,[],VC):=by rw[Lib.cut,e,sh Xj]
 exact⟨by rw[fT,hc],by rw[bD,hc]⟩
theorem Bw(t:k<l.length)(z:∀j,j<k->l.getD j 0≠47)(u:l.getD k 0=47):Lib.indexByte l 47=(k:Int):=by
 rw[<-Lib.index_one];have r:∀j,Lib.occAt l [47] j=(decide (j<l.length)&&(l.getD j 0==47)):=λj=>by
  rw[Lib.occAt];by_cases hj:j<l.length
  .rw[TN hj];simp[List.isPrefixOf,List.getD,hj,Bool.beq_comm]
  grind[Uu,List.isPrefixOf]
 refine Lib.index_first Xj ?_ λj hj=>?_
 .rw[r,u];simp[t]
 grind
theorem AN(h:∀j,j<l.length->l.getD j 0≠47):Lib.indexByte l 47= -1:=by
 rcases Int.lt_or_le (Lib.indexByte l 47) 0 with e|e
 .have:=Lib.indexByte_ge l 47;omega
 obtain⟨i,hi⟩:=Bg e;have r:=(Lib.indexByte_some hi).1;obtain⟨hlt,h2⟩:=TE.1 r;exact absurd (by simp[List.getD,hlt,h2]) (h i hlt)
def kM(s:ByteArray):ByteArray:=if bD s=VA then ky s else yx
theorem u8_47(x:UInt8):(((x.toNat:Nat):Int)==47)=VA↔x=47:=by
 rw[U6];constructor
 .intro h;exact Wy.1 (show x.toNat=(47:UInt8).toNat from Int.ofNat_inj.1 h)
 .intro h;rw[h];rfl
theorem qP(s:ByteArray)(D:s.size<=1000000000):FnP prog 174 [.str s] (· = .tup [.str (fT s),.str (kM s),.bool (bD s)]):=by
 refine FnP.of func174 O ntmps174 Xn λ_ _ _ _=>?_
 have A:s.size=s.data.toList.length:=Lib.size_eq s;refine Z3 O<|Z1 O<|Gz O (st:=λXr:Nat=>([(0,UG),(5,UF (pIi Xr))],[])) 0
  (I:=λXr=>Xr<=s.size/\∀j,j<Xr->s.data.toList.getD j 0≠47) (μ:=λXr=>s.size-Xr) (x0:=0) (Tk (aS O) trivial O O) (⟨aJ _,λj hj=>absurd hj (VP _)⟩) ?_
 rintro k ⟨hk,hall⟩;refine Z4 O<|Gp O (λu=>?_) (λu=>?_)
 .have hlt:k<s.size:=Xj;have z:=u8_47 (s.data.toList.getD k 0);have t:=gy s k hlt;refine Ti<|Z2 O<|Rs O (bB k underlying9 O O O hlt)<|Rs O ((ba O O O).cast (v':= .pv (.bool ((((s.data.toList.getD k 0).toNat:Nat):Int)==47))) (by rw[t]))<|Gc O (λr=>?_) (λr=>?_)
  .have hc:=Bw Xj hall (z.1 r);obtain⟨c1,c2,c3⟩:=Iv hc;refine UB 10 O<|Dr 2 O<|TR O (λτ h=>XJ.cast (v':= .pv (.str (fT s))) (eC (kl:= .i64) (kh:= .i64) (il:=0) (ih:=(k:Int)) UG (UF _) 0 k underlying9 (Ee h 0 O O) Xn (λ_=>rfl) (by rintro _ ⟨⟩;exact⟨(Ee h 1 O O),O⟩) Xn (aJ _) Xj) (ah (λx=>V.pv (.str x)) c1.symm)) ?_;refine Dr 3 O<|TR O (λτ h=>XJ.cast (v':= .pv (.str (ky s))) (eC (kl:= .i64) (kh:= .i64) (il:=((k:Int)+1)) (ih:=0) (UF _) UG (k+1) s.size underlying9 (Ee h 0 O O) (by rintro _ ⟨⟩;exact⟨(Ee h 1 O O),Xj⟩) Xn Xn (λ_=>rfl) Xj (AT _)) (ah (λx=>V.pv (.str x)) c2.symm)) ?_;refine Dr 3 O ?_;refine⟨Xk,?_⟩;exact VF O<|by rw[kM,c3];rfl
  exact Ti<|Z3 O<|⟨(k+1),Tk (aS O) trivial O O,⟨Xj,λj hj=>by rcases Vd.1 hj with h|rfl;exact hall j h;exact λe=>by have:=z.2 e;rw[r]at this;cases this⟩,Xj⟩
 refine Gx O<|Z4 O<|Gt O ?_;have hc:=AN (l:=s.data.toList) (λj hj=>hall j Xj);obtain⟨c1,c2⟩:=uI hc;exact⟨_,_,O,O,by rw[kM,c1,c2];rfl⟩
theorem MS(r:∀x∈c::l,kF x=VA)(t:c≠48):10^l.length<=eO (c::l):=by
 have hc:=r c Xn;simp only[kF,du,Tz]at hc;have j:1<=c.toNat-48:=by
  have:c.toNat≠48:=λe=>t (Wy.1 e)
  omega
 have e:eO (c::l)=(c.toNat-48)*10^l.length+eO l:=by
  rw[eO,U0,xG];simp
 rw[e];have:=UK (10^l.length) j;omega
theorem pN(h:aN d=VA):decide (rdZ d<=1)=(((d.toList==yx.toList)||(d.toList==DD.toList))||(((d.data.toList.getD 0 0).toNat:Int)==45)):=by
 have t:∀x y:ByteArray,(x.toList==y.toList)=(x.data.toList==y.data.toList):=λx y=>by rw[Lib.toList_data,Lib.toList_data]
 have j:=l8 d;rw[aN,t,Ub]at h;rw[t,t];rcases h with h|h
 .have h2:d.data.toList=[48]:=by simpa using h
  have A:rdZ d=0:=by rw[rdZ,aA,gA,h2];decide
  rw[A,h2];rfl
 simp only[oS,du,Tz,OF,Vg,bne_iff_ne]at h;obtain⟨⟨⟨hne,hle⟩,h0⟩,hd⟩:=h;cases hD:aA d with
 |nil=>rw[hD]at hne;cases hne
 | cons c l=>
   rw[hD]at h0 hd;have I:=MS hd (by simpa using h0);have D:1<=10^l.length:=Nat.pow_pos Xl;by_cases hng:gA d=VA
   .have u:rdZ d<=1:=by rw[rdZ,hng,hD];show-((eO (c::l):Nat):Int)<=1;omega
    rw[TD u];rw[hng]at j;have:=(du _ _▸j.symm:_/\_).2;rw[this,Xb]
   have hng:gA d=VC:=by simpa using hng
   have r:d.data.toList=c::l:=by rw[<-hD,aA,Lib.trimPrefix,sh (by rw[gA]at hng;rw[hng];decide)]
   have u:rdZ d=(eO (c::l):Int):=by rw[rdZ,hng,hD];rfl
   have z:(((d.data.toList.getD 0 0).toNat:Int)==45)=VC:=by
    rw[hng]at j;have E:0<d.size:=by rw[Lib.size_eq,r];simp
    rw[TD E,Ws]at j;exact j.symm
   rw[z,Vc,u,r];have G:((c::l)==DD.data.toList)=VC:=by
    rw[UU];intro e;have:c=48:=by injection e
    exact absurd this (by simpa using h0)
   rw[G,Vc,TY,Tz,U6];constructor
   .intro hle1;have:l.length=0:=by grind[UJ,UY]
    have H:l=[]:=T6 this;subst H;have hc:=hd c Xn;simp only[kF,du,Tz]at hc;have A:eO [c]=c.toNat-48:=by simp[eO]
    have J:c.toNat≠48:=λe=>absurd (Wy.1 e) (by simpa using h0)
    have:c.toNat=49:=Xj;rw[Wy.1 (show c.toNat=(49:UInt8).toNat from this)];rfl
   .intro e;rw[e];decide
theorem nU(h:aN d=VA):d.size<=401/\(1<rdZ d->d.size<=400):=by
 have j:=bE h;have t:d.size=d.data.toList.length:=Lib.size_eq d;by_cases hng:gA d=VA
 .have e:aA d=d.data.toList.drop 1:=by rw[aA,Lib.trimPrefix];rw[gA]at hng;rw[By hng];rfl
  rw[e]at j;refine⟨by have:=j.2;simp at this;omega,λr=>?_⟩;rw[rdZ,hng]at r;simp[sgn]at r;omega
 have e:aA d=d.data.toList:=by rw[aA,Lib.trimPrefix];rw[gA]at hng;rw[sh hng]
 rw[e]at j;have:=j.2;exact⟨Xj,λ_=>by omega⟩
theorem GJ{d:ByteArray}(h:aN d=VA):0<d.size:=by
 rcases UJ d.size with e|e
 .have h0:d.data.toList=[]:=T6 (by have:=Lib.size_eq d;omega);rw[aN,Lib.toList_data,Lib.toList_data,h0,oS,aA,h0]at h;cases h
 exact e
theorem oY(s:ByteArray)(h:aN (fT s)=VC\/aN (kM s)=VC):dF s=VC:=by grind[dF,bD,aN,kM,fL,ky,Lb,fT]
theorem s6(s:ByteArray)(j:bD s=VC)(h:aN (fT s)=VA):dF s=VA:=by
 rw[dF,j,h];rfl
theorem w5 (s:ByteArray) (j:bD s=VA) (r:aN (fT s)=VA) (t:aN (kM s)=VA):
  dF s= !(((((fT s).toList==DD.toList)||((kM s).toList==yx.toList))||((kM s).toList==DD.toList))||((((kM s).data.toList.getD 0 0).toNat:Int)==45)|| !decide (Int.gcd (rdZ (fT s)) (rdZ (kM s))=1)):=by grind[kM,ky,pN,dF,Lb,fT]
theorem Li(s:ByteArray):s.size=(fT s).size+(if bD s=VA then 1+(ky s).size else 0):=by
 rcases Int.lt_or_le (Lib.indexByte s.data.toList 47) 0 with e|e
 .have:=Lib.indexByte_ge s.data.toList 47;obtain⟨c1,c2⟩:=uI (s:=s) Xj;rw[c1,c2];simp
 obtain⟨i,hi⟩:=Bg e;have j:=(Lib.indexByte_some hi).1;have r:=(TE.1 j).1;have t:=Lib.size_eq s;obtain⟨c1,c2,c3⟩:=Iv (s:=s) hi;rw[c1,c2,c3,By O];simp;omega
theorem qW(s:ByteArray)(h:dF s=VA):s.size<=802:=by
 have hc:=Li s;cases hs:bD s with
 | false=>
   have j:aN (fT s)=VA:=by grind[aN,fT,oY]
   have:=(nU j).1;rw[hs,sh Xl]at hc;omega
 | true=>
   have j:aN (fT s)=VA:=by grind[aN,fT,oY]
   have r:aN (kM s)=VA:=by grind[aN,kM,oY]
   have z:=w5 s hs j r;have A:=pN r;have t:kM s=ky s:=by rw[kM,hs,By O]
   rw[hs,By O,<-t]at hc;have D:=(nU j).1;have u:1<rdZ (kM s):=by grind
   have:=(nU r).2 u;omega
theorem rF(s:ByteArray)(hs:s.size<=1000000000):FnP prog 106 [.str s] (· = .tup [.str (if dF s=VA then fT s else⟨#[]⟩),.str (if dF s=VA then kM s else⟨#[]⟩),.bool (dF s)]):=by
 refine FnP.of func106 O ntmps106 Xn λ_ _ _ _=>?_
 have I:=qP s hs;have f1:=qW s;have f2:=oY s;have f3:=s6 s;have f4:=w5 s;have J:=ln (fT s);have L:=ln (kM s);have z:=@bE (fT s);have A:=@bE (kM s);have D:=@nL (fT s);have E:=@nL (kM s);have M:=@GJ (kM s);generalize dF s=v at*;generalize fT s=nu at*;generalize kM s=de at*;generalize bD s=sb at*;refine Z3 O<|Z3 O<|Gp O (λH=>?_) (λH=>?_)
 .refine Z3 O<|Gt O ?_;have u:v=VC:=by cases u:v with|false=>rfl|true=>have:=f1 u;omega
  exact⟨_,_,O,O,by rw[u];rfl⟩
 refine Ti<|Z1 O<|Rs O (aa call174 I O)<|Ar 7 O<|Z1 O<|Rs O (aa call175 J O)<|Y2 O ?_;apply Tt 4 20 24 [21,22,23] O Xt
 .intro hb3;exact Ar 4 O<|Tm Xs O O O
 .intro hb3;exact A1 O<|Rg O (aa call175 L O)<|Y2 O<|Tm Xs O O O
 refine Gc O (λj=>?_) (λj=>?_)
 .refine Z3 O<|Gt O ?_;have u:v=VC:=f2 (by cases Z:aN nu with|false=>exact .inl rfl|true=>right;rw[Z]at j;simpa using j);exact⟨_,_,O,O,by rw[u];rfl⟩
 have hin:aN nu=VA:=by simp only[T5]at j;simpa using j.1
 have t:aN de=VA:=by simp only[T5]at j;simpa using j.2
 have Y:=M t;have P:=iE nu (z hin).1 (by have:=(z hin).2;omega);have U:=iE de (A t).1 (by have:=(A t).2;omega);have V:=wo (rdZ nu) (rdZ de) (by have:=D hin;omega) (by have:=E t;omega);have W:(ae ((Int.gcd (rdZ nu) (rdZ de):Nat):Int).natAbs).length<=1000000:=by
  rw[TW];have Z:=D hin;have h2:=E t;by_cases h0:rdZ nu=0
  .rw[h0,Int.gcd_zero_left];omega
  exact AS (cD (Nat.le_of_dvd Xj (Nat.gcd_dvd_left _ _))) Xj
 have X:=nP ((Int.gcd (rdZ nu) (rdZ de):Nat):Int) W;have G:((⟨(Lib.itoa ((Int.gcd (rdZ nu) (rdZ de):Nat):Int)).toArray⟩:ByteArray).toList==yx.toList)=decide (Int.gcd (rdZ nu) (rdZ de)=1):=tJ _;refine Ti ?_;by_cases hS:sb=VA
 .have hf:=f4 hS hin t;subst hS;refine Gr O<|Ar 5 O ?_;apply Tt 3 29 32 [30,31] O Xt
  .intro hb4;exact Y3 O<|Tm Xs O O O
  .intro hb4;exact Y3 O<|Tm Xs O O O
  refine A1 O ?_;apply Tt 3 33 36 [34,35] O Xt
  .intro hb8;exact Y3 O<|Tm Xs O O O
  .intro hb8;exact Y3 O<|Tm Xs O O O
  refine A1 O ?_;apply Tt 4 37 41 [38,39,40] O Xt
  .intro hb12;exact Ar 4 O<|Tm Xs O O O
  .intro hb12;exact A1 O<|Rg O (bB 0 underlying9 O O O Y)<|Rg O ((ba O O O).cast (v':= .pv (.bool ((((de.data.toList.getD 0 0).toNat:Nat):Int)==45))) (by rw[gy _ 0 Y]))<|A1 O<|Tm Xs O O O
  refine A1 O ?_;apply Tt 8 42 50 [43,44,45,46,47,48,49] O Xt
  .intro hb17;exact Ar 8 O<|Tm Xs O O O
  .intro hb17;exact A1 O<|Rg O (aa call176 P O)<|A1 O<|Rg O (aa call176 U O)<|Rg O (aa call177 V O)<|Rg O (aa call104 X O)<|Y2 O<|Tm Xs O O O
  refine A1 O<|Gc O (λr=>?_) (λr=>?_)
  .refine Z3 O<|Gt O ?_;have u:v=VC:=by
    rw[hf,<-G];rw[Bool.not_eq_false'];exact r
   exact⟨_,_,O,O,by rw[u];rfl⟩
  refine Ti<|Gr O<|Ar 5 O<|Gt O ?_;have u:v=VA:=by
   rw[hf,<-G];rw[Vg];exact r
  exact⟨_,_,O,O,by rw[u];rfl⟩
 have hf:=f3 (by simpa using hS) hin;obtain rfl:sb=VC:=by simpa using hS
 refine Gr O<|Ar 27 O<|Gc O (λr=>absurd r Xn) (λr=>?_);exact Ti<|Gr O<|Ar 5 O<|VF O<|by rw[hf];rfl
theorem HE(s:ByteArray)(j:s.size<=1000000000):FnP prog 117 [.str s] (· = .bool (dF s)):=by
 refine FnP.of func117 O ntmps117 Xn λ_ _ _ _=>?_
 exact Z1 O<|Z1 O<|Rs O (aa call106 (rF s j) O)<|Ar 7 O<|Z2 O<|VF O O
end
section
open Mk
def bG(l:List Trm):List PV:=l.flatMap Jq
def bK(l:List Prr):List PV:=l.flatMap Ey
theorem lZ(l:List Trm):(bG l).length=l.length*3:=bM _ 3 (λ_=>rfl) l
theorem lW(l:List Prr):(bK l).length=l.length*5:=bM _ 5 (λ_=>rfl) l
theorem QW{l:List Trm}(h:k<l.length):((bG l).drop (k*3)).take 3=Jq l[k]:=cZ _ 3 (λ_=>rfl) l k h
theorem QP{l:List Prr}(h:k<l.length):((bK l).drop (k*5)).take 5=Ey l[k]:=cZ _ 5 (λ_=>rfl) l k h
theorem Rm{l:List Trm}(h:k<l.length):bG l≠[]:=λe=>by have:=lZ l;rw[e]at this;simp at this;omega
theorem SA{l:List Prr}(h:k<l.length):bK l≠[]:=λe=>by have:=lW l;rw[e]at this;simp at this;omega
end
section
open Mk
theorem mv(n:Int):aA (ed n)=Lib.decDigits n.natAbs/\gA (ed n)=decide (n<0):=by
 have e:(ed n).data.toList=(if n<0 then [45]else [])++Lib.decDigits n.natAbs:=fX n;by_cases h:n<0
 .rw[By h]at e;have j:Lib.hasPrefix (ed n).data.toList [45]=VA:=by rw[e];rfl
  refine⟨by rw[aA,Lib.trimPrefix,By j,e];rfl,by rw[gA,j,TD h]⟩
 rw[sh h,Uv]at e;have j:Lib.hasPrefix (ed n).data.toList [45]=VC:=by
  rw[e,Lib.hasPrefix];cases hd:Lib.decDigits n.natAbs with
  |nil=>rfl
  | cons c l=>
    have:=mC n.natAbs c (by rw[hd];simp);have hc:((45:UInt8)==c)=VC:=by
     rw[UU];intro e;rw[<-e]at this;cases this
    show((45:UInt8)==c&&List.isPrefixOf [] l)=VC;rw[hc];rfl
 refine⟨by rw[aA,Lib.trimPrefix,sh (by rw[j];decide),e],by rw[gA,j,TL h]⟩
theorem j0(n:Int):rdZ (ed n)=n:=by
 rw[rdZ,(mv n).1,(mv n).2,vj];exact C0 n
theorem JR(h:n≠0):(Lib.decDigits n).getD 0 0≠48:=by
 induction n using Nat.strongRecOn with
 | ind n ih=>
   by_cases h2:n<10
   .rw[Lib.decDigits,dif_pos h2];intro e;have:=ah UInt8.toNat e;simp at this;omega
   rw[Lib.decDigits,dif_neg h2];have:=ih (n/10) Xj Xj;cases hd:Lib.decDigits (n/10)with
   |nil=>exact absurd hd (Nz _)
   |cons c l=>rw[hd]at this;simpa using this
theorem jd(n:Int):aN (ed n)= !tA n.natAbs:=by
 have j:=mv n;by_cases h:n=0
 .grind[ed,mR,aN,tA,cV]
 have hz:((ed n).toList==(⟨#[48]⟩:ByteArray).toList)=VC:=by
  rw[Lib.toList_data,Lib.toList_data,UU];intro e;exact h (tL (e.trans mR.symm))
 have r:(Lib.decDigits n.natAbs).isEmpty=VC:=by
  cases e:Lib.decDigits n.natAbs with
  |nil=>exact absurd e (Nz _)
  |cons a l=>rfl
 have t:((Lib.decDigits n.natAbs).getD 0 0 !=48)=VA:=by
  rw[bne_iff_ne];exact JR Xj
 have u:(Lib.decDigits n.natAbs).all kF=VA:=OF.2 (mC _);rw[lM hz,oS,j.1,r,t,u,tA];rw[TY];simp[lO];exact⟨λh=>TL Xj,λh=>by have:=Vk h;omega⟩
theorem nX(n:Int):∀c∈(ed n).data.toList,c=45\/kF c=VA:=λc hc=>by
 have e:(ed n).data.toList=(if n<0 then [45]else [])++Lib.decDigits n.natAbs:=fX n;rw[e]at hc;rcases Uf.1 hc with h|h
 .grind
 exact .inr (mC _ c h)
theorem vA(h:c=45\/kF c=VA):c≠47:=by
 rcases h with rfl|h
 .decide
 .intro e;subst e;cases h
theorem pS(h:∀c∈s.data.toList,c≠47):fT s=s/\bD s=VC/\ky s=⟨#[]⟩:=by
 have r:Lib.indexByte s.data.toList 47= -1:=AN λj hj e=>h _ (aq hj) (by rw[TO,IS hj]at e;exact e)
 obtain⟨c1,c2⟩:=uI r;refine⟨c1,c2,?_⟩;have e:Lib.index s.data.toList [47]= -1:=by rw[Lib.index_one];exact r
 rw[ky,Lib.cut,e];rfl
theorem rh{a b:ByteArray}(h:∀c∈a.data.toList,c≠47):fT ((a++⟨#[47]⟩)++b)=a/\bD ((a++⟨#[47]⟩)++b)=VA/\ky ((a++⟨#[47]⟩)++b)=b:=by
 have r:((a++(⟨#[47]⟩:ByteArray))++b).data.toList=a.data.toList++47::b.data.toList:=Xn;have t:Lib.indexByte ((a++(⟨#[47]⟩:ByteArray))++b).data.toList 47=(a.data.toList.length:Int):=by
  rw[r];refine Bw Xn (λj hj e=>?_) (by simp[List.getD]);simp only[List.getD,List.getElem?_append_left hj,IS hj,V8]at e;exact h _ (aq hj) e
 have e:Lib.index ((a++(⟨#[47]⟩:ByteArray))++b).data.toList [47]=(a.data.toList.length:Int):=by rw[Lib.index_one];exact t
 have hc:Lib.cut ((a++(⟨#[47]⟩:ByteArray))++b).data.toList [47]=(a.data.toList,b.data.toList,VA):=by
  rw[Lib.cut,e,By Xj,r];simp only[TU,Prod.mk.injEq,and_true];refine⟨Xn,?_⟩;rw[show([47]:List UInt8).length=1 from O,List.drop_append];simp
 exact⟨by rw[fT,hc],by rw[bD,hc],by rw[ky,hc]⟩
theorem qq(q:Rat)(h:On q=VC):dF (bo q)=VA:=by
 rw[On,T5]at h;have t:aN (ed q.num)=VA:=by rw[jd,h.1];rfl
 have u:aN (ed (q.den:Int))=VA:=by rw[jd,TW,h.2];rfl
 have j:∀c∈(ed q.num).data.toList,c≠47:=λc hc=>vA (nX _ c hc)
 by_cases h1:q.den=1
 .grind[bo,pS,s6]
 rw[bo,sh h1];obtain⟨c1,c2,c3⟩:=rh (b:=ed (q.den:Int)) j;rw[dF,c2,c1,t,sh Xl,Lb,c1,c3,u,j0,j0];have z:((ed q.num).toList==DD.toList)=VC:=by
  rw[Lib.toList_data,Lib.toList_data,UU];intro e;have A:q.num=0:=tL (e.trans mR.symm);have:=Rat.num_eq_zero.1 A;rw[this]at h1;exact h1 O
 have D:=q.den_pos;rw[z,TL Xj];have r:=q.reduced;simp only[Nat.Coprime]at r;simp[Int.gcd,r]
end
section
open Mk Jn
theorem p7(n:Nat)(L:n≠0)(M:n<1000000000)(P:(Lib.decDigits n).length<=1000):FnP prog 213 [fr (-(n:Int))] (· = .str ⟨(45::Lib.decDigits n).toArray⟩):=by
 refine FnP.of func213 O ntmps213 Xn λ_ _ _ _=>?_
 have H:decide (-(n:Int)<0)=VA:=TD Xj;have r:=iZ n Xj;have j:=Hr n;have t:ae n=[n]:=by rw[ae,sh L,show n/1000000000=0 by omega,aV,VU M]
 rw[show fr (-(n:Int))= .agg [.bool VA,.sl UG 1 (cA [n])] by show PV.agg [.bool (decide (-(n:Int)<0)),bY ((-(n:Int)).natAbs)]=_;rw[H,Int.natAbs_neg,TW,bY,t];rfl];have u:(cA [n])[0]? =UF (.int .u64 (n:Int)):=rfl;generalize hD:Lib.decDigits n=D at*;have J:D≠[]:=λe=>by rw[e]at j;simp at j
 have z:=th ⟨#[45]⟩ Xl Xl;have A:=IF [45] ⟨D.toArray⟩ Xn (show [(45:UInt8)].length+D.length<=1000000000 by simp;omega);have E:=wi (45::D) Xn Xo;have G:(1:Int)>0:=Xl;refine Z2 O<|Z4 O<|Gc O (λhc=>absurd hc Xn) (λhc=>?_);refine Ti<|Z1 O<|Tj (St.da 1 1 2 1 5 O O O)<|Z2 O<|Gc O (λhc=>?_) (λhc=>absurd hc Xn);refine Gr O<|Rs O (aF [1,2] 3 call210 z O O O O ⟨O,O,Xq⟩ Xl O)<|Gr O<|Ar 5 O<|Gl O (st:=λb:Bool=>bif b then mkS [(1,.ptr 0 0),(3,.ptr 1 0),(4,pIi 0)] [(0,.mix 107 [.pv (.bool VA),.pv (.sl UG 1 (cA [n]))]),(1,.mix 298 [.ptr 1 0,.gsl 2 1 1]),(2,.gro 5 (aI [45]))] 3 else mkS [(1,.ptr 0 0),(3,.ptr 1 0),(4,pIi (-1))] [(0,.mix 107 [.pv (.bool VA),.pv (.sl UG 1 (cA [n]))]),(1,.mix 298 [.ptr 1 0,.gsl 2 1 (45::D).length]),(2,.gro 5 (aI (45::D)))] 3)
  (I:=λ_=>True) (μ:=λb=>bif b then 1 else 0) (x0:=VA) (Tl [0,1,3] (aT O) (aP Xk) O O Xl O) trivial ?_
 rintro(_|_) _
 .simp only[Ue];refine Z2 O<|Gp O (λhc=>absurd hc Xl) (λhc=>?_);exact Gx O<|Gr O<|Rs O (aF [1,2] 3 call211 E O O O O ⟨O,O,Xq⟩ Xl O)<|A1 O<|VF O O
 simp only[U3];refine Z2 O<|Gp O (λhc=>?_) (λhc=>absurd hc Xl);refine Ti<|Z3 O<|Rs O (ag 0 underlying105 iM O O O Xl (by simp[cA]))<|Rs O (az ⟨_,underlying261,O⟩ O u)<|Rs O (aa call212 r O)<|A1 O<|Gr O<|Ar 6 O<|Gp O (λhc=>absurd hc Xn) (λhc=>?_);exact Ti<|Z1 O<|Rs O (aF [1,2] 3 call210 A O O O O ⟨O,O,Xq⟩ Xl O)<|Z3 O<|⟨VC,Tl [0,1,3] (aT O) (aP Xk) O O Xl O,Xq,Xl⟩
theorem iu(h:n<1000000000):(Lib.decDigits n).length<=9:=vM Xl Xj
theorem kn(n:Int):(ed n).size<=(Lib.decDigits n.natAbs).length+1:=by
 have j:(ed n).size=(Lib.itoa n).length:=by simp[ed,ByteArray.size]
 rw[j,fX,IN];split<;>simp<;>omega
theorem sR(z:Int)(j:z.natAbs<1000000000):FnP prog 213 [fr z] (· = .str (ed z)):=by
 have r:=iu j;by_cases h:z<0
 .have hs:=p7 z.natAbs Xj j Xj;have e:ed z=⟨(45::Lib.decDigits z.natAbs).toArray⟩:=by rw[ed,fX,By h];rfl
  rw[show-((z.natAbs:Nat):Int)=z by omega,<-e]at hs;exact hs
 grind[rR,ed,fX]
structure F1(q:Rat):Prop where
 n:q.num.natAbs<1000000000
 d:q.den<31622
theorem F1.ok(h:F1 q):FOk q:=⟨h.d,AS (Kf h.n) Xl⟩
theorem G9(q:Rat)(h:F1 q):FnP prog 145 [frP q] (· = .str (bo q)):=by
 refine FnP.of func145 O ntmps145 Xn λ_ _ _ _=>?_
 have z:=ix q h.ok;have r:=sR q.num h.n;have t:=sR (q.den:Int) (by rw[TW];have:=h.d;omega);have A:(ed q.num).size<=10:=by have:=kn q.num;have:=iu h.n;omega
 have D:(ed (q.den:Int)).size<=10:=by have E:=kn (q.den:Int);have G:=iu (n:=q.den) (by have:=h.d;omega);rw[TW]at E;omega
 have u:((ed q.num)++⟨#[47]⟩:ByteArray).size=(ed q.num).size+1:=V1;refine Z2 O<|Z1 O<|Rs O (aa call168 z O)<|Gc O (λj=>?_) (λj=>?_)
 .have e:bo q=ed q.num:=By (by simpa using j);exact Z2 O<|Rs O (aa call213 r O)<|A1 O<|VF O<|by rw[e];rfl
 have e:bo q=(ed q.num++⟨#[47]⟩)++ed (q.den:Int):=sh (by simpa using j);refine Ti<|UB 9 O<|Dr 2 O<|TR O (λτ h=>aa call213 r (h.aD O))<|TR O (λτ h=>tf (Ee h 0 O O) (Ee h 1 O O) (by show(ed q.num).size+1<=_;omega)) ?_;refine Dr 2 O<|TR O (λτ h=>aa call213 t (h.aD O))<|TR O (λτ h=>tf (Ee h 0 O O) (Ee h 1 O O) (by rw[show((ed q.num)++⟨#[47]⟩:ByteArray).size=(ed q.num).size+1 from u];omega)) ?_;refine D1 O ?_;refine⟨Xk,?_⟩;exact VF O<|by rw[e];rfl
theorem oO(z:Int)(A:z.natAbs<1000000000):FnP prog 144 [fr z] (· = .int .i64 ((Lib.decDigits z.natAbs).length:Nat)):=by
 refine FnP.of func144 O ntmps144 Xn λ_ _ _ _=>?_
 have r:=iZ z.natAbs Xj;have G:=iu A;by_cases h0:z.natAbs=0
 .have t:bY z.natAbs= .sl UG 0 []:=by rw[h0];exact ye
  have E:(Lib.decDigits z.natAbs).length=1:=by rw[h0];exact cV Xl
  rw[show fr z= .agg [.bool (decide (z<0)),.sl UG 0 []] by show PV.agg [.bool (decide (z<0)),bY z.natAbs]=_;rw[t]];refine Z2 O<|Z4 O<|Gc O (λj=>?_) (λj=>absurd j Xn);exact Z1 O<|VF O<|by rw[E];rfl
 have hlm:ae z.natAbs=[z.natAbs]:=eV h0 A;have t:bY z.natAbs= .sl UG 1 [.int .u64 (z.natAbs:Int)]:=by rw[bY,hlm];rfl
 rw[show fr z= .agg [.bool (decide (z<0)),.sl UG 1 [.int .u64 (z.natAbs:Int)]] by show PV.agg [.bool (decide (z<0)),bY z.natAbs]=_;rw[t]];have u:(⟨(Lib.decDigits z.natAbs).toArray⟩:ByteArray).size=(Lib.decDigits z.natAbs).length:=by simp[ByteArray.size]
 generalize (Lib.decDigits z.natAbs)=D at*;refine Z2 O<|Z4 O<|Gc O (λj=>absurd j Xn) (λj=>?_);exact Ti<|Gr O<|Ar 5 O<|Gr O<|Ar 5 O<|Rs O (ag 0 underlying105 iM O O O Xl Xn)<|Rs O (az ⟨_,underlying261,O⟩ O O)<|Rs O (aa call212 r O)<|Y3 O<|VF O<|by rw[show(⟨D.toArray⟩:ByteArray).size=D.length from u];show PV.int .i64 (0+(D.length:Int))=_;rw[Int.zero_add]
theorem EE(q:Rat)(h:F1 q):FnP prog 85 [frP q] (· = .tup [.str (bo q),.int .i64 0]):=by
 refine FnP.of func85 O ntmps85 Xn λ_ _ _ _=>?_
 have r:=oO q.num h.n;have t:=oO (q.den:Int) (by rw[TW];have:=h.d;omega);have u:=iu h.n;have z:=iu (n:=(q.den:Int).natAbs) (by rw[TW];have:=h.d;omega);have A:=G9 q h;have D:decide (((Lib.decDigits q.num.natAbs).length:Int)>400)=VC:=TL Xj;have E:decide (((Lib.decDigits (q.den:Int).natAbs).length:Int)>400)=VC:=TL Xj;refine Z3 O<|Z2 O<|Rs O (aa call144 r O)<|Rs O (fI O O O D)<|Y3 O<|Rg O (aa call144 t O)<|Rg O (fI O O O E)<|A1 O<|Gc O (λj=>absurd j Xn) (λj=>?_);exact Ti<|Z1 O<|Rs O (aa call145 A O)<|Y2 O<|VF O O
structure QOk(s:ByteArray)(q:Rat):Prop where
 sz:s.size<4294967281
 n:aN (fT s)=VA/\rdZ (fT s)=q.num
 d:if bD s=VA then aN (ky s)=VA/\rdZ (ky s)=(q.den:Int)else q.den=1
theorem iA(s:ByteArray)(q:Rat)(h:QOk s q):FnP prog 102 [.str s] (· =frP q):=by
 refine FnP.ofC func102 O ntmps102 Xn λ_ _ _ _=>?_
 have t:=Iz s ⟨#[47]⟩ h.sz;have z:=fP (fT s) (bE h.n.1).1 (by have:=(bE h.n.1).2;omega);rw[h.n.2]at z;have r:=h.d;refine Z1 O<|Z1 O<|Rs O (aa call172 t O)<|Ar 7 O<|Z2 O<|Gc O (λj=>?_) (λj=>?_)
 .have hs:bD s=VC:=by have A:(!bD s)=VA:=j;simpa using A
  rw[sh (by rw[hs];decide)]at r;have u:=fP yx (bE fL).1 (by have:=(bE fL).2;omega);rw[oH,show(1:Int)=((q.den:Nat):Int) by rw[r];rfl]at u;exact Z1 O<|Z1 O<|Rs O (aa call173 z O)<|A1 O<|Rs O (aa call173 u O)<|Y2 O<|VF O ⟨⟨ax ⟨_,underlying109,O⟩ rK O O O,Xq⟩,O⟩
 have hs:bD s=VA:=by have A:(!bD s)=VC:=j;simpa using A
 rw[By hs]at r;have u:=fP (ky s) (bE r.1).1 (by have:=(bE r.1).2;omega);rw[r.2]at u;exact Ti<|Z1 O<|Rs O (aa call173 z O)<|A1 O<|Rs O (aa call173 u O)<|Y2 O<|VF O ⟨⟨ax ⟨_,underlying109,O⟩ rK O O O,Xq⟩,O⟩
theorem jk(q:Rat)(h:F1 q):QOk (bo q) q:=by
 have t:=iu h.n;have u:=iu (n:=q.den) (by have:=h.d;omega);have E:=kn q.num;have A:=kn (q.den:Int);rw[TW]at A;have D:∀n:Nat,(Lib.decDigits n).length<=9->tA n=VC:=λn hn=>by grind[lO,tA]
 have j:aN (ed q.num)=VA:=by rw[jd,D _ t];rfl
 have G:aN (ed (q.den:Int))=VA:=by rw[jd,TW,D _ u];rfl
 have r:∀z:Int,∀c∈(ed z).data.toList,c≠47:=λz c hc=>vA (nX _ c hc)
 by_cases hd:q.den=1
 .have e:bo q=ed q.num:=By hd;obtain⟨c1,c2,c3⟩:=pS (r q.num);rw[e];refine⟨Xj,by rw[c1];exact⟨j,j0 _⟩,?_⟩;rw[c2,sh Xl];exact hd
 have e:bo q=(ed q.num++⟨#[47]⟩)++ed (q.den:Int):=sh hd;obtain⟨c1,c2,c3⟩:=rh (a:=ed q.num) (b:=ed (q.den:Int)) (r q.num);rw[e];refine⟨?_,by rw[c1];exact⟨j,j0 _⟩,?_⟩
 .rw[V1,V1];have:(⟨#[47]⟩:ByteArray).size=1:=rfl;omega
 grind[j0]
end
section
structure RSm(q:Rat):Prop where
 n:(ae q.num.natAbs).length<=1000
 d:(ae q.den).length<=1000
theorem cX(a b:Rat)(E:RSm a)(G:RSm b):FnP prog 112 [bQ a,bQ b] (· =bQ (a*b)):=by
 refine FnP.ofC func112 O ntmps112 Xn λ_ _ _ _=>?_
 have r:=E.n;have t:=G.n;have u:=E.d;have z:=G.d;have A:=gq a.num b.num Xj Xj;have D:=gq (a.den:Int) (b.den:Int) (by rw[TW];omega) (by rw[TW];omega);have H:=jH r t;have I:=jH u z;have j:=xT (a.num*b.num) ((a.den:Int)*(b.den:Int)) (by rw[WL];omega) (by rw[<-Vn,TW];omega);have e:=Hj a b;rw[Vn]at e;rw[e]at j;refine Z3 O<|UB 12 O<|Dr 4 O<|TR O (λτ h=>aa call180 A (h.aD O))<|Dr 4 O<|TR O (λτ h=>aa call180 D (h.aD O))<|TR O (λτ h=>aa call179 j (h.aD O))<|D1 O ?_;refine⟨Xk,?_⟩;exact VF O ⟨⟨ax ⟨_,underlying134,O⟩ zC O O O,Xq⟩,O⟩
theorem j5(a b:Rat)(H:RSm a)(I:RSm b):FnP prog 119 [bQ a,bQ b] (· =bQ (a+b)):=by
 refine FnP.ofC func119 O ntmps119 Xn λ_ _ _ _=>?_
 have u:=H.n;have z:=I.n;have r:=H.d;have t:=I.d;have A:=gq a.num (b.den:Int) Xj (by rw[TW];omega);have D:=gq b.num (a.den:Int) Xj (by rw[TW];omega);have E:=gq (a.den:Int) (b.den:Int) (by rw[TW];omega) (by rw[TW];omega);have J:=jH u t;have L:=jH z r;have M:=jH r t;have g1:(ae (a.num*(b.den:Int)).natAbs).length<=2000:=by rw[WL,TW];omega
 have g2:(ae (b.num*(a.den:Int)).natAbs).length<=2000:=by rw[WL,TW];omega
 have G:=zS (a.num*(b.den:Int)) (b.num*(a.den:Int)) Xj Xj;have P:(ae (a.num*(b.den:Int)+b.num*(a.den:Int)).natAbs).length<=2001:=AS (cD (Int.natAbs_add_le _ _)) (Bz g1 g2);have j:=xT (a.num*(b.den:Int)+b.num*(a.den:Int)) ((a.den:Int)*(b.den:Int)) Xj (by rw[<-Vn,TW];omega);have e:=Fq a b;rw[Vn]at e;rw[e]at j;refine Z3 O<|UB 18 O<|Dr 4 O<|TR O (λτ h=>aa call180 A (h.aD O))<|Dr 4 O<|TR O (λτ h=>aa call180 D (h.aD O))<|TR O (λτ h=>aa call182 G (h.aD O))<|Dr 4 O<|TR O (λτ h=>aa call180 E (h.aD O))<|TR O (λτ h=>aa call179 j (h.aD O))<|D1 O ?_;refine⟨Xk,?_⟩;exact VF O ⟨⟨ax ⟨_,underlying134,O⟩ zC O O O,Xq⟩,O⟩
end
section
open Go.RowKit Mk Jn Mm
theorem AM[BEq K][LawfulBEq K]{f:K->PV}(j:∀a b,keq (f a) (f b)=UF (a==b)){l:List (K×Rat)}(r:(l.map (·.1)).Nodup):zw (aj f l):=by grind[zw,aj]
theorem wG(f:K->PV)(l:List (K×Rat)):(aj f l).length=l.length:=by simp[aj]
def mcZ(m:MC):Bool:=(decide (m.c=0)&&decide (m.s.length=0))&&decide (m.p.length=0)
theorem K4(m:MC)(z:(m.s.map (·.1)).Nodup)(A:(m.p.map (·.1)).Nodup):FnP prog 81 [mcP m] (· = .bool (mcZ m)):=by
 refine FnP.of func81 O ntmps81 Xn λ_ _ _ _=>?_
 have j:=fR m.c;have r:(m.c.num.sign==0)=decide (m.c=0):=iv;have t:=AM bX z;have u:=AM cS A;have l1:(((aj aW m.s).length:Int)==0)=decide (m.s.length=0):=by rw[wG,TY,U6,Tz];omega
 have l2:(((aj ppP m.p).length:Int)==0)=decide (m.p.length=0):=by rw[wG,TY,U6,Tz];omega
 by_cases hc:m.c=0
 .rw[TD hc]at r;by_cases h1:m.s.length=0
  .rw[TD h1]at l1;exact Z2 O<|Z2 O<|Rs O (aa call140 j O)<|Rs O (cU O O O r)<|Y3 O<|Rg O (p6 underlying110 (.inr (.inl ⟨O,t⟩)))<|Rg O (cU O O O l1)<|Ar 4 O<|Rg O (p6 underlying111 (.inr (.inl ⟨O,u⟩)))<|Y3 O<|VF O<|ah PV.bool (by rw[mcZ,TD hc,TD h1];exact l2)
  rw[TL h1]at l1;exact Z2 O<|Z2 O<|Rs O (aa call140 j O)<|Rs O (cU O O O r)<|Y3 O<|Rg O (p6 underlying110 (.inr (.inl ⟨O,t⟩)))<|Rg O (fI O O O l1)<|Ar 8 O<|VF O<|ah PV.bool (by rw[mcZ,TD hc,TL h1];rfl)
 rw[TL hc]at r;exact Z2 O<|Z2 O<|Rs O (aa call140 j O)<|Rs O (fI O O O r)<|Ar 13 O<|VF O<|ah PV.bool (by rw[mcZ,TL hc];rfl)
open Classical in
theorem Rp{W:Nat}{x:Mm.Sem}(u:SOk W k x):FnP prog 81 [momP x] (· = .bool (decide (x=Mm.Sem.zero))):=by
 obtain⟨h1,h2,_,_⟩:=u.cn;have h:=K4 (cn x) h1.s.nd h1.p.nd;have e:mcZ (cn x)=decide (x=Mm.Sem.zero):=by
  rw[TY,Tz];constructor
  .intro hz;simp only[mcZ,du,Tz]at hz;obtain⟨⟨h3,h4⟩,h5⟩:=hz;rw[<-h2];have j:=Wv.1 h4;have r:=Wv.1 h5;exact Sem.same h3 (λx=>by show lk _ _=_;rw[j];rfl) (λx y=>by show lk _ _=_;rw[r];rfl)
  rintro rfl;have t:cn Mm.Sem.zero=⟨((0:Nat):Int),[],[]⟩:=sY 0;rw[t];decide+kernel
 rw[e]at h;exact h
theorem C7(f:Int×Int×Int)(a:Int):FnP prog 138 [.agg (yQ f),.rp [.int .i64 a] 0] (· = .bool (f.1==a)):=by
 refine FnP.of func138 O ntmps138 Xn λ_ _ _ _=>?_
 exact Z2 O<|Gr O<|Ar 5 O<|VF O O
def KJ{α:Type}(p:α->Bool)(l:List α):Int:=match l.findIdx? p with|some i=>(i:Int)|none=> -1
theorem findIdx_take{α:Type}{l:List α}{p:α->Bool}(t:k<l.length)(h:(l.take k).any p=VC)(u:p l[k]=VA):l.findIdx? p=UF k:=by
 rw[U4];refine⟨t,u,λj hj=>?_⟩;have r:=List.any_eq_false.1 h (l[j]'Xj) (Vm.2 ⟨j,Xj,O⟩);simpa using r
theorem Er(l:List (Int×Int×Int))(g:FuncId)(caps:List PV)(p:Int×Int×Int->Bool)(D:l.length<=1000000)(hc:db prog g)(A:∀f∈l,FnP prog g ([]++[.agg (yQ f)]++caps) (· = .bool (p f))):
  FnP prog 137 [.sl UG l.length (aX l),.fn (.func g) [] caps] (· = .int .i64 (KJ p l)):=by
 refine FnP.of func137 O ntmps137 Xn λ_ _ _ _=>?_
 refine Z1 O<|Z3 O<|Gz O (st:=λXr:Nat=>([(0,UG),(1,UG),(7,UG),(8,UF (pIi Xr))],[])) 0
  (I:=λXr=>Xr<=l.length/\(l.take Xr).any p=VC) (μ:=λXr=>l.length-Xr) (x0:=0) (Tk (aS O) trivial O O) (⟨aJ _,O⟩) ?_
 rintro k ⟨hk,hno⟩;refine Z1 O<|Gp O (λu=>?_) (λu=>?_)
 .have hlt:k<l.length:=Xj;have r:=kB hlt;have z:=og hlt;have t:=A _ (aq hlt);refine Ti<|Z2 O<|Z4 O<|Rs O (aG ⟨_,underlying83,O⟩ Mb O r O)<|Rs O (je hc O t O)<|Gc O (λj=>?_) (λj=>?_)
  .exact Z2 O<|VF O<|by rw[KJ,findIdx_take hlt hno j];rfl
  exact Ti<|Z2 O<|⟨(k+1),Tk (aS O) trivial O O,⟨Xj,jb hlt hno j⟩,Xj⟩
 exact Gx O<|Z1 O<|VF O<|by rw[aH Xj]at hno;rw[KJ,List.findIdx?_eq_none_iff.2 (λx hx=>by have:=List.any_eq_false.1 hno x hx;simpa using this)];rfl
open Classical in
noncomputable def liftS(q:ByteArray->Rat)(S:Sch)(a:Int)(v:ByteArray):Mm.Sem:=
 if a=S.label then(if v=⟨#[]⟩then cnt (0:Nat)else lft ⟨-1,⟨#[]⟩⟩ (q v))
 else match S.feats.findIdx? (λf=>f.1==a)with
  |none=>cnt (1:Nat)
  |some i=>if(S.feats.getD i default).2.1=2 then lft ⟨i,v⟩ 1 else if v=⟨#[]⟩then(if(S.feats.getD i default).2.2=1 then cnt (0:Nat)else cnt (1:Nat))else lft ⟨i,⟨#[]⟩⟩ (q v)
structure VQ(q:ByteArray->Rat)(v:ByteArray):Prop where
 ok:QOk v (q v)
 i:dw 6 (q v)
 b:bj 3 (q v)
theorem tc(v:ByteArray):(v.toList==(⟨#[]⟩:ByteArray).toList)=decide (v=⟨#[]⟩):=by
 rw[TY,Tz,U6];exact⟨bytes_inj,λe=>by rw[e]⟩
theorem wb(q:ByteArray->Rat)(S:Sch)(a:Int)(v:ByteArray)(hl:S.feats.length<=1000000)(hq:v≠⟨#[]⟩->(a=S.label\/∃i,S.feats.findIdx? (λf=>f.1==a)=UF i/\(S.feats.getD i default).2.1≠2)->VQ q v):
  FnP prog 80 [gC S,.int .i64 a,.str v] (· =momP (liftS q S a v)):=by
 refine FnP.ofC func80 O ntmps80 Xn λ_ _ _ _=>?_
 have M:=Er S.feats 138 [.rp [.int .i64 a] 0] (λf=>f.1==a) hl call138 (λf _=>C7 f a);have P:=lV 0 Xl;have U:=lV 1 Xl;have Y:=o0 1 Xl Xl;have L:=tc v;refine Z3 O<|Tj (St.jZ 1 O O)<|Z3 O<|Rs O (aa call137 M O)<|A1 O<|Gr O<|Ar 5 O ?_;apply Tu 3 18 21 [19,20] O Xt
 .intro hb4;exact Y3 O<|Tm Xs O O O
 .intro hb4;exact Y3 O<|Tm Xs O O O
 refine A1 O<|Gc O (λj=>?_) (λj=>?_)
 .have h21:a=S.label/\v=⟨#[]⟩:=by rw[L]at j;simpa using j
  have e:liftS q S a v=cnt (0:Nat):=by rw[liftS,By h21.1,By h21.2]
  exact Gr O<|Rs O (aa call40 P O)<|A1 O<|VF O ⟨⟨ax ⟨_,underlying113,O⟩ lh O O O,Xq⟩,by rw[e];rfl⟩
 have h21:¬ (a=S.label/\v=⟨#[]⟩):=λh=>by rw[L]at j;simp[h.1,h.2]at j
 refine Gr O<|Ar 5 O<|Gc O (λz=>?_) (λz=>?_)
 .have h27:a=S.label:=by simpa using z
  have hv:v≠⟨#[]⟩:=λh=>h21 ⟨h27,h⟩
  have H:=hq hv (.inl h27);have I:=iA v (q v) H.ok;have J:=FB ⟨-1,⟨#[]⟩⟩ (q v) H.i H.b;have e:liftS q S a v=lft ⟨-1,⟨#[]⟩⟩ (q v):=by rw[liftS,By h27,sh hv]
  exact Z2 O<|Rs O (aa call102 I O)<|Rs O (aa call139 J O)<|A1 O<|VF O ⟨⟨ax ⟨_,underlying113,O⟩ lh O O O,Xq⟩,by rw[e];rfl⟩
 have h27:¬a=S.label:=by simpa using z
 refine Z3 O<|Gp O (λA=>?_) (λA=>?_)
 .have h32:KJ (λf=>f.1==a) S.feats<0:=by simpa using A
  have G:S.feats.findIdx? (λf=>f.1==a)=UG:=by
   unfold KJ at h32;cases hx:S.feats.findIdx? (λf=>f.1==a)with
   |none=>rfl
   |some i=>rw[hx]at h32;simp only at h32;omega
  have e:liftS q S a v=cnt (1:Nat):=by rw[liftS,sh h27,G]
  exact Gr O<|Rs O (aa call40 U O)<|A1 O<|VF O ⟨⟨ax ⟨_,underlying113,O⟩ lh O O O,Xq⟩,by rw[e];rfl⟩
 have h32:¬KJ (λf=>f.1==a) S.feats<0:=by simpa using A
 obtain⟨i,G⟩:∃i,S.feats.findIdx? (λf=>f.1==a)=UF i:=by
  unfold KJ at h32;cases hx:S.feats.findIdx? (λf=>f.1==a)with
  |none=>rw[hx]at h32;simp only at h32;omega
  |some i=>exact⟨i,O⟩
 have Z:KJ (λf=>f.1==a) S.feats=(i:Int):=by rw[KJ,G]
 have t:i<S.feats.length:=(U4.1 G).1;have V:=kB t;have ab:=og t;have u:S.feats.getD i default=S.feats[i]:=by simp[List.getD,t]
 have W:∀c,FnP prog 139 [aW ⟨(i:Int),c⟩,frP ((1:Int):Rat)] (· =momP (lft ⟨(i:Int),c⟩ 1)):=λc=>FB ⟨i,c⟩ 1 (dw.ofInt 6 1) ⟨by decide+kernel,by decide+kernel⟩
 refine Ti ?_;rw[Z];refine Z3 O<|Rs O (ag i underlying28 Mb O O O t ab)<|Rs O (aG ⟨_,underlying83,O⟩ Mb O V O)<|Y2 O<|Z4 O<|Gc O (λD=>?_) (λD=>?_)
 .have h41:S.feats[i].2.1=2:=by simpa using D
  have e:liftS q S a v=lft ⟨(i:Int),v⟩ 1:=by rw[liftS,sh h27,G];simp only;rw[u,By h41]
  exact Z3 O<|Rs O (aa call95 Y O)<|Rs O (aa call139 (W v) O)<|A1 O<|VF O ⟨⟨ax ⟨_,underlying113,O⟩ lh O O O,Xq⟩,by rw[e];rfl⟩
 have h41:¬S.feats[i].2.1=2:=by simpa using D
 refine Z3 O ?_;apply Tu 4 53 57 [54,55,56] O Xt
 .intro hb2;exact Ar 4 O<|Tm Xs O O O
 .intro hb2;exact Ar 4 O<|Tm Xs O O O
 refine A1 O<|Gc O (λr=>?_) (λr=>?_)
 .have h50:v=⟨#[]⟩/\S.feats[i].2.2=1:=by rw[L]at r;simpa using r
  have e:liftS q S a v=cnt (0:Nat):=by rw[liftS,sh h27,G];simp only;rw[u,sh h41,By h50.1,By h50.2]
  exact Gr O<|Rs O (aa call40 P O)<|A1 O<|VF O ⟨⟨ax ⟨_,underlying113,O⟩ lh O O O,Xq⟩,by rw[e];rfl⟩
 have h50:¬ (v=⟨#[]⟩/\S.feats[i].2.2=1):=λh=>by rw[L]at r;simp[h.1,h.2]at r
 refine Z3 O<|Gc O (λE=>?_) (λE=>?_)
 .have h59:v=⟨#[]⟩:=by have X:(v.toList==(⟨#[]⟩:ByteArray).toList)=VA:=E;rw[L]at X;simpa using X
  have e:liftS q S a v=cnt (1:Nat):=by rw[liftS,sh h27,G];simp only;rw[u,sh h41,By h59,sh (λh=>h50 ⟨h59,h⟩)]
  exact Gr O<|Rs O (aa call40 U O)<|A1 O<|VF O ⟨⟨ax ⟨_,underlying113,O⟩ lh O O O,Xq⟩,by rw[e];rfl⟩
 have h59:¬v=⟨#[]⟩:=by have X:(v.toList==(⟨#[]⟩:ByteArray).toList)=VC:=E;rw[L]at X;simpa using X
 have H:=hq h59 (.inr ⟨i,G,by rw[u];exact h41⟩);have I:=iA v (q v) H.ok;have J:=FB ⟨i,⟨#[]⟩⟩ (q v) H.i H.b;have e:liftS q S a v=lft ⟨(i:Int),⟨#[]⟩⟩ (q v):=by rw[liftS,sh h27,G];simp only;rw[u,sh h41,sh h59]
 exact Ti<|Z3 O<|Rs O (aa call102 I O)<|Rs O (aa call139 J O)<|A1 O<|VF O ⟨⟨ax ⟨_,underlying113,O⟩ lh O O O,Xq⟩,by rw[e];rfl⟩
end
section
open Go.RowKit Mk Jn Mm
def tmL(l:List (Par×Rat)):List Trm:=l.map λe=>⟨e.1,bo e.2⟩
def prL(l:List (PP×Rat)):List Prr:=l.map λe=>⟨e.1.1,e.1.2,bo e.2⟩
theorem oA(l:List (Par×Rat)):(tmL l).length=l.length:=by simp[tmL]
theorem oq(l:List (PP×Rat)):(prL l).length=l.length:=by simp[prL]
theorem s5{l:List (Par×Rat)}(h:k<l.length):((bG (tmL l)).drop (k*3)).take 3=[.int .i64 l[k].1.f,.str l[k].1.c,.str (bo l[k].2)]:=by
 rw[QW (l:=tmL l) (by rw[oA];exact h)];simp[tmL]
theorem s7{l:List (PP×Rat)}(h:k<l.length):((bK (prL l)).drop (k*5)).take 5=[.int .i64 l[k].1.1.f,.str l[k].1.1.c,.int .i64 l[k].1.2.f,.str l[k].1.2.c,.str (bo l[k].2)]:=by
 rw[QP (l:=prL l) (by rw[oq];exact h)];simp[prL]
theorem DS{l:List (Par×Rat)}(h:k<l.length):bG (tmL l)≠[]:=Rm (l:=tmL l) (by rw[oA];exact h)
theorem Eu{l:List (PP×Rat)}(h:k<l.length):bK (prL l)≠[]:=SA (l:=prL l) (by rw[oq];exact h)
abbrev Oo(m:MC):List PV:=[.str (bo m.c),.sl UG m.s.length (bG (tmL m.s)),.sl UG m.p.length (bK (prL m.p))]
abbrev lR(m:MC):PV:= .agg (Oo m)
structure MF1(m:MC):Prop where
 c:F1 m.c
 s:∀e∈m.s,F1 e.2
 p:∀e∈m.p,F1 e.2
 ls:m.s.length<=1000000
 lp:m.p.length<=1000000
section
variable {K:Type}[BEq K][LawfulBEq K]
theorem o9{l:List (K×Rat)}(j:(l.map (·.1)).Nodup)(r:i<l.length):nN (l.take i) l[i].1 l[i].2=l.take (i+1):=by grind[List.findIdx,Vm.1,Uj.1,nN,ct]
end
theorem MR(m:MC)(W:(m.s.map (·.1)).Nodup)(X:(m.p.map (·.1)).Nodup)(L:MF1 m):FnP prog 43 [lR m] (· =mcP m):=by
 refine FnP.ofC func43 O ntmps43 Xn λ_ _ _ _=>?_
 have M:=lI 0 Xl Xl;have P:=iA (bo m.c) m.c (jk m.c L.c);have U:=L.ls;have V:=L.lp;refine Z2 O<|Gr O<|Rs O (aF [] 2 call40 M O O O O trivial Xl O)<|Y2 O<|Z2 O<|Rs O (aa call102 P O)<|Y2 O<|Z4 O<|Gz O (st:=λXr:Nat=>([(1,UG),(2,UG),(3,UG),(14,UG),(15,UG),(16,UF (pIi Xr))],[(0,UG),(1,UG),(2,UF (.mp (aj aW (m.s.take Xr)) (bg (m.s.take Xr)))),(3,UG),(4,UG)])) 5
  (I:=λXr=>Xr<=m.s.length) (μ:=λXr=>m.s.length-Xr) (x0:=0) (Tk (aS O) (aO Xk) O O) (aJ _) ?_
 rintro i hi;refine Z1 O<|Gp O (λH=>?_) (λH=>?_)
 .have hlt:i<m.s.length:=Xj;have u:=s5 hlt;have D:=DS hlt;have E:=iA (bo m.s[i].2) m.s[i].2 (jk _ (L.s _ (aq hlt)));have G:=o9 W hlt;have z:=dO bX (m.s.take i) m.s[i].1 m.s[i].2;have A:=dL (g:=frP) bX (m.s.take i) m.s[i].1 m.s[i].2;obtain⟨r,hr⟩:=fh bX (m.s.take i) m.s[i].1;rw[G]at z A;refine Ti<|Gr O<|Rs O (ag i underlying42 nD O O O hlt D)<|Rs O (aG ⟨_,underlying148,O⟩ nD O u O)<|Y2 O<|UB 8 O<|Dr 6 O<|TR O (λτ h=>aa call102 E (h.aD O))<|DL.step (d:=UG) [2] O O O (λτ h=>bl gQ underlying110 (Ee h 0 O O) (Eo h 0 O O) (Ee h 1 O O) (Ee h 2 O O) ⟨m.s[i].1,O⟩ hr z A) O Xk ?_;refine⟨Xk,?_⟩;exact Z2 O<|⟨(i+1),Tk (aS O) (aO Xk) O O,hlt,Xj⟩
 have hie:m.s.take i=m.s:=aH Xj;rw[hie];refine Gx O<|Z4 O<|Gz O (st:=λt:Nat=>([(2,UG),(3,UG),(29,UG),(30,UG),(31,UF (pIi t))],[(1,UG),(2,UG),(3,UF (.mp (aj ppP (m.p.take t)) (bg (m.p.take t)))),(4,UG)])) 5
  (I:=λt=>t<=m.p.length) (μ:=λt=>m.p.length-t) (x0:=0) (Tk (aS O) (aO Xk) O O) (aJ _) ?_
 rintro j hj;refine Z1 O<|Gp O (λJ=>?_) (λJ=>?_)
 .have hlt:j<m.p.length:=Xj;have u:=s7 hlt;have D:=Eu hlt;have E:=iA (bo m.p[j].2) m.p[j].2 (jk _ (L.p _ (aq hlt)));have G:=o9 X hlt;have z:=dO cS (m.p.take j) m.p[j].1 m.p[j].2;have A:=dL (g:=frP) cS (m.p.take j) m.p[j].1 m.p[j].2;obtain⟨r,hr⟩:=fh cS (m.p.take j) m.p[j].1;rw[G]at z A;refine Ti<|Gr O<|Rs O (ag j underlying43 lu O O O hlt D)<|Rs O (aG ⟨_,underlying150,O⟩ lu O u O)<|Y2 O<|UB 11 O<|Dr 9 O<|TR O (λτ h=>aa call102 E (h.aD O))<|DL.step (d:=UG) [3] O O O (λτ h=>bl uf underlying111 (Ee h 0 O O) (Eo h 0 O O) (Ee h 1 O O) (Ee h 2 O O) ⟨m.p[j].1,O⟩ hr z A) O Xk ?_;refine⟨Xk,?_⟩;exact Z2 O<|⟨(j+1),Tk (aS O) (aO Xk) O O,hlt,Xj⟩
 have hje:m.p.take j=m.p:=aH Xj;rw[hje];exact Gx O<|Z2 O<|Tj (St.cB (ks:=aj aW m.s) (vs:=bg m.s) 2 Xk (Co _ _) (T3 _))<|Tj (St.cB (ks:=aj ppP m.p) (vs:=bg m.p) 3 Xk (Co _ _) (T3 _))<|VF O ⟨⟨ax ⟨_,underlying113,O⟩ lh O O O,Xq⟩,O⟩
end
section
open Go.RowKit Mk Mm
theorem M1(p q:Par):lF p q=(decide (p.f<q.f)||(p.f==q.f&&Op.bytesLess p.c.toList q.c.toList)):=by
 rw[lF,bZ,orI];rcases Int.lt_trichotomy p.f q.f with h|h|h
 .grind[rL]
 .have e:rL p.f q.f=0:=by rw[rL,sh Xj,sh Xj]
  have j:(p.f==q.f)=VA:=by simpa using h
  have r:decide (p.f<q.f)=VC:=TL Xj;rw[e,r,j,Bool.false_or,Ws,vp];by_cases h1:Op.bytesLess p.c.toList q.c.toList=VA
  .rw[By h1,h1];rfl
  grind
 grind[rL]
theorem iT(p q:Par):FnP prog 115 [aW p,aW q] (· = .bool (lF p q)):=by
 refine FnP.of func115 O ntmps115 Xn λ_ _ _ _=>?_
 have j:=M1 p q;refine Z3 O ?_;by_cases hlt:p.f<q.f
 .exact Z4 O<|Rs O (cU O O O (TD hlt))<|Ar 15 O<|VF O<|ah PV.bool (by rw[j,TD hlt];rfl)
 refine Z4 O<|Rs O (fI O O O (TL hlt))<|Ar 7 O ?_;apply Tu 6 16 22 [17,18,19,20,21] O Xt
 .intro hb11;exact Ar 6 O<|Tm Xs O O O
 .intro hb11;exact Ar 6 O<|Tm Xs O O O
 exact Y2 O<|VF O<|ah PV.bool (by rw[j,TL hlt,Bool.false_or])
theorem Sp(n:Int)(h:n.natAbs<1000000000):(∀c∈aA (ed n),kF c=VA)/\(aA (ed n)).length<=1000000:=by
 rw[(mv n).1];exact⟨mC _,AS (iu h) Xl⟩
theorem pw(q:Rat)(h:F1 q):FnP prog 111 [.str (bo q)] (· =bQ q):=by
 refine FnP.ofC func111 O ntmps111 Xn λ_ _ _ _=>?_
 have A:=Sp q.num h.n;have D:=Sp (q.den:Int) (by rw[TW];have:=h.d;omega);have r:∀c∈(ed q.num).data.toList,c≠47:=λc hc=>vA (nX _ c hc)
 have j:fT (bo q)=ed q.num/\kM (bo q)=ed (q.den:Int):=by
  unfold kM bo;by_cases j:q.den=1
  .rw[By j];obtain⟨c1,c2,_⟩:=pS r;rw[c1,c2,j];exact⟨O,(sh Xl).trans (iW (by rw[iI];exact(tJ 1).trans O)).symm⟩
  rw[sh j];obtain⟨c1,c2,c3⟩:=rh (b:=ed (q.den:Int)) r;rw[c1,c2,c3];exact⟨O,O⟩
 have E:(bo q).size<=1000000000:=by
  have G:=kn q.num;have a2:=kn (q.den:Int);have a3:=iu h.n;have a4:=iu (n:=(q.den:Int).natAbs) (by rw[TW];have:=h.d;omega);unfold bo;split
  .omega
  rw[V1,V1];have:(⟨#[47]⟩:ByteArray).size=1:=rfl;omega
 have t:=qP (bo q) E;rw[j.1,j.2]at t;have u:=iE (ed q.num) A.1 A.2;have z:=iE (ed (q.den:Int)) D.1 D.2;rw[j0]at u z;exact Z1 O<|Z1 O<|Rs O (aa call174 t O)<|Ar 7 O<|Z1 O<|Rs O (aa call176 u O)<|A1 O<|Rs O (aa call176 z O)<|Y2 O<|VF O ⟨⟨ax ⟨_,underlying134,O⟩ zC O O O,Xq⟩,O⟩
theorem pM(q:Rat):FnP prog 114 [bQ q] (· = .bool (decide (q=0))):=by
 refine FnP.of func114 O ntmps114 Xn λ_ _ _ _=>?_
 have j:((((ae q.num.natAbs).length:Nat):Int)==0)=decide (q=0):=by
  rw[TY,U6,Tz,<-Rat.num_eq_zero];by_cases h:q.num=0
  .rw[h];simp[aV]
  have:ae q.num.natAbs≠[]:=by rw[ae,sh Xj];simp
  have:=Uq.2 this;constructor
  .intro e;omega
  .intro e;exact absurd e h
 exact Z2 O<|Gr O<|Ar 6 O<|VF O<|ah PV.bool j
theorem Nr:∃i,prog.info? 146=UF i:=⟨_,O⟩
theorem Nn:prog.cellsOf 146=2:=Xk
theorem eqPA(k:Nat)(a b a' b':Int)(s t s' t':ByteArray)(w:World):(Op.equalIn (k+3) 226 (.agg #[.int .i64 a,.string s,.int .i64 a',.string s']) (.agg #[.int .i64 b,.string t,.int .i64 b',.string t'])).run prog w= .ok ((a==b&&s.toList==t.toList)&&(a'==b'&&s'.toList==t'.toList)) w:=by
 have j:=λw=>uG k a b s t w
 have r:=λw=>uG k a' b' s' t' w
 obtain⟨i,hi⟩:=Nr;rw[run_equalIn_array w (k+2) _ _ underlying226 hi,Nn];show(Op.eqItems (k+2) 146 2 _ _ [0,1]).run prog w=_;simp only[Op.eqItems]
 go_simp
 by_cases h1:a=b<;>by_cases j:s.toList=t.toList<;>by_cases h4:a'=b'<;>by_cases h5:s'.toList=t'.toList<;>simp[h1,j,h4,h5]
theorem ckPA(k:Nat)(e:Bool)(a b:Int)(s t:ByteArray)(w:World):(Instr.checkKey e (k+3) 226 (.agg #[.int .i64 a,.string s,.int .i64 b,.string t])).run prog w= .ok () w:=by
 have j:=underlying226;have r:=λa s w=>QT k e a s w
 obtain⟨i,hi⟩:=Nr;have hc:=Nn;unfold Instr.checkKey;simp only[Sem.run_bind,run_underlying j,Result.andThen];simp only[Std.Legacy.Range.forIn_eq_forIn_range',Std.Legacy.Range.size,Nat.sub_zero,Nat.add_one_sub_one,Nat.div_one,List.range',List.forIn_cons,List.forIn_nil,Sem.run_bind,run_sizeOf w hi,Result.andThen_ok,hc]
 go_simp
theorem FC:KeyOk prog 226 (λk=>∃x:PP,k=ppP x) where
 und:=⟨_,underlying226,λus y=>by cases y<;>rfl⟩
 check:=by
  rintro w R k u e ⟨p,rfl⟩ h;rw[s0 h];exact ckPA 9997 e _ _ _ _ w
 ask:=by
  rintro w R k x u y b ⟨p,rfl⟩ h1 h2 h3;obtain⟨q,rfl⟩:=Cv h3;rw[cS]at h3;cases h3;rw[s0 h1,s0 h2];exact eqPA 9997 p.1.f q.1.f p.2.f q.2.f p.1.c q.1.c p.2.c q.2.c w
 agg:=by rintro k ⟨p,rfl⟩;exact⟨_,O⟩
abbrev ay{K:Type}(l:List (K×Rat)):List PV:=ju bQ l
theorem FP[BEq K](l:List (K×Rat))(k:K)(x:Rat):note VC l k x=nN l k (IP x (rS l k)):=by
 unfold note rS nN;cases l.findIdx? (λe=>e.1==k)<;>simp[IP]
abbrev Ty(q:Rat):List V:=[.pv (.bool (decide (q.num<0))),.pv (pli (ae q.num.natAbs)),.pv (.bool (decide ((q.den:Int)<0))),.pv (pli (ae (q.den:Int).natAbs))]
abbrev Tw(m:MC):List V:=[.pv (.bool (decide (m.c.num<0))),.pv (pli (ae m.c.num.natAbs)),.pv (.bool (decide ((m.c.den:Int)<0))),.pv (pli (ae (m.c.den:Int).natAbs)),.pv (.mp (aj aW m.s) (ay m.s)),.pv (.mp (aj ppP m.p) (ay m.p))]
abbrev Tx:List V:=[.pv (.bool VC),.pv nS,.pv (.bool VC),.pv nS,.pv .nilmap,.pv .nilmap]
abbrev frcZ:PV:= .agg [.bool VC,.sl (UF VA) 0 [],.bool VC,.sl (UF VA) 0 []]
abbrev bR(c:Rat)(a b:Nat):List V:=[.pv (.bool (decide (c.num<0))),.pv (pli (ae c.num.natAbs)),.pv (.bool (decide ((c.den:Int)<0))),.pv (pli (ae (c.den:Int).natAbs)),.map a,.map b]
theorem jh(n:Int)(r: -9223372036854775808<=n)(t:n<=9223372036854775807):FnO prog 108 0 2 [pIi n] [] (λv ob'=>v= .agg (bR (n:Rat) 0 1)/\ob'=aB [(0,.mp [] []),(1,.mp [] [])]):=by
 refine FnO.ofC func108 O ntmps108 Xn λ_ _ _ _=>?_
 have j:=mj n r t;exact Z1 O<|Z1 O<|Rs O (aa call57 j O)<|Rs O (ea 1 O)<|Rs O (ea 2 O)<|Y2 O<|Gt O<|⟨[(2,.ptr 2 0)],[(0,.mp [] []),(1,.mp [] []),(2,.mix 138 (bR (n:Rat) 0 1))],[.agg (bR (n:Rat) 0 1)],[(0,.mp [] []),(1,.mp [] [])],3,Tl [1,2,0] (aT O) (aP Xk) O O Xl O,O,⟨ax ⟨_,underlying138,O⟩ tR O O O,Xq⟩,O,O,λi o h=>dN [(0,.mp [] []),(1,.mp [] [])] [(2,.mix 138 (bR (n:Rat) 0 1))] i o h,Xl,O,O⟩
theorem ca(j:dw 36 q)(r:bj B q)(hB:B<=zI):RSm q:=
 ⟨AS (Cs j r hB).2 Xl,AS (Kf (by have:=(Cs j r hB).1;omega)) Xl⟩
theorem jS(c:Rat)(l:List (Par×Rat))(ps:List (PP×Rat))(k:Par)(x:Rat)(E:RSm x)(G:∀e∈l,RSm e.2):FnO prog 109 2 0 [.agg (bR c big 9001),.pv (aW k),.pv (bQ x)] [(big,.mp (aj aW l) (ay l)),(9001,.mp (aj ppP ps) (ay ps))]
  (λv ob'=>v= .tup []/\ob'=aB [(big,.mp (aj aW (note VC l k x)) (ay (note VC l k x))),(9001,.mp (aj ppP ps) (ay ps))]):=by
 refine FnO.of func109 O ntmps109 Xn λ_ _ _ _=>?_
 have t:=j1 (g:=bQ) bX l k;obtain⟨r,hr⟩:=fh bX l k;have A:=FP l k x;refine Z3 O ?_;by_cases ho:rS l k=UG
 .rw[ho]at t A;have u:=dO bX l k x;have z:=dL (g:=bQ) bX l k x;refine Z3 O<|Rs O (dW (zp:=frcZ) (r:=UG) (b:=VC) gQ underlying135 (.inl ⟨big,O,O⟩) O ⟨k,O⟩ uN O t O O)<|Ar 6 O<|Z1 O<|Gc O (λj=>absurd j Xn) (λj=>?_);exact Ti<|Z4 O<|RL.step (d:=UG) O O (bl gQ underlying135 O O O O ⟨k,O⟩ hr u z)<|⟨[],[(big,.mp (aj aW (nN l k x)) (ay (nN l k x))),(9001,.mp (aj ppP ps) (ay ps))],[],Tk trivial (aO Xk) O O,O,O,O,O,by rw[A];rfl⟩
 obtain⟨o,ho⟩:=Option.ne_none_iff_exists'.1 ho;rw[ho]at t A;obtain⟨e,he,hoe⟩:=pj ho;have D:=j5 x o E (hoe▸G e he);have u:=dO bX l k (x+o);have z:=dL (g:=bQ) bX l k (x+o);refine Z3 O<|Rs O (dW (zp:=frcZ) (r:=UF (bQ o)) (b:=VA) gQ underlying135 (.inl ⟨big,O,O⟩) O ⟨k,O⟩ uN O t O O)<|Ar 6 O<|Z1 O<|Gc O (λj=>?_) (λj=>absurd j Xn);exact Z2 O<|Rs O (aa call119 D O)<|A1 O<|Z4 O<|RL.step (d:=UG) O O (bl gQ underlying135 O O O O ⟨k,O⟩ hr u z)<|⟨[],[(big,.mp (aj aW (nN l k (x+o))) (ay (nN l k (x+o)))),(9001,.mp (aj ppP ps) (ay ps))],[],Tk trivial (aO Xk) O O,O,O,O,O,by rw[A];rfl⟩
theorem JU(p q:Par):cP p q=if lF q p=VA then(q,p)else(p,q):=by
 have h:=iS p q;unfold cP lF;by_cases h1:bZ p q>0
 .rw[By h1,By Xo]
 rw[sh h1,sh Xo]
theorem dm(c:Rat)(s:List (Par×Rat))(l:List (PP×Rat))(p q:Par)(x:Rat)(M:RSm x)(P:∀e∈l,RSm e.2):FnO prog 110 2 0 [.agg (bR c big 9001),.pv (aW p),.pv (aW q),.pv (bQ x)] [(big,.mp (aj aW s) (ay s)),(9001,.mp (aj ppP l) (ay l))]
  (λv ob'=>v= .tup []/\ob'=aB [(big,.mp (aj aW s) (ay s)),(9001,.mp (aj ppP (note VC l (cP p q) x)) (ay (note VC l (cP p q) x)))]):=by
 refine FnO.of func110 O ntmps110 Xn λ_ _ _ _=>?_
 have H:=iT q p;have D:=JU p q;generalize lF q p=b at H D;refine Z4 O<|AW.cut (st:=λt:PP=>mkS [(4,.ptr 0 0),(5,.ptr 1 0),(6,.ptr 2 0),(7,.ptr 3 0)] [(big,.mp (aj aW s) (ay s)),(0,.mix 138 (bR c big 9001)),(1,.mix 146 [pIi t.1.f,.pv (.str t.1.c)]),(2,.mix 146 [pIi t.2.f,.pv (.str t.2.c)]),(3,.mix 134 (Ty x)),(9001,.mp (aj ppP l) (ay l))] 4)
  (I:=λt=>cP p q=t) ?_ ?_
 .refine Z2 O<|Rs O (aa call115 H O) ?_;refine Gc O (λz=>?_) (λz=>?_)
  .exact Z4 O<|⟨((q,p)),Tk (aS O) (aO Xk) O O,by rw[D,z];rfl⟩
  exact Ti<|⟨((p,q)),Tk (aS O) (aO Xk) O O,by rw[D,z];rfl⟩
 rintro u hu;rw[hu];have A:=j1 (g:=bQ) cS l u;obtain⟨r,hr⟩:=fh cS l u;have J:=FP l u x;refine Gr O<|Ar 5 O ?_;by_cases ho:rS l u=UG
 .rw[ho]at A J;have E:=dO cS l u x;have G:=dL (g:=bQ) cS l u x;refine Z3 O<|Rs O (dW (zp:=frcZ) (r:=UG) (b:=VC) FC underlying136 (.inl ⟨9001,O,O⟩) O ⟨u,O⟩ uN O A O O)<|Ar 6 O<|Z1 O<|Gc O (λj=>absurd j Xn) (λj=>?_);exact Ti<|Z4 O<|RL.step (d:=UG) O O (bl FC underlying136 O O O O ⟨u,O⟩ hr E G)<|⟨[],[(big,.mp (aj aW s) (ay s)),(9001,.mp (aj ppP (nN l u x)) (ay (nN l u x)))],[],Tk trivial (aO Xk) O O,O,O,O,O,by rw[J];rfl⟩
 obtain⟨o,ho⟩:=Option.ne_none_iff_exists'.1 ho;rw[ho]at A J;obtain⟨e,he,hoe⟩:=pj ho;have L:=j5 x o M (hoe▸P e he);have E:=dO cS l u (x+o);have G:=dL (g:=bQ) cS l u (x+o);refine Z3 O<|Rs O (dW (zp:=frcZ) (r:=UF (bQ o)) (b:=VA) FC underlying136 (.inl ⟨9001,O,O⟩) O ⟨u,O⟩ uN O A O O)<|Ar 6 O<|Z1 O<|Gc O (λj=>?_) (λj=>absurd j Xn);exact Z2 O<|Rs O (aa call119 L O)<|A1 O<|Z4 O<|RL.step (d:=UG) O O (bl FC underlying136 O O O O ⟨u,O⟩ hr E G)<|⟨[],[(big,.mp (aj aW s) (ay s)),(9001,.mp (aj ppP (nN l u (x+o))) (ay (nN l u (x+o))))],[],Tk trivial (aO Xk) O O,O,O,O,O,by rw[J];rfl⟩
end
section
open Go.RowKit Mk Mm
theorem xN(m:MC)(V:(m.s.map (·.1)).Nodup)(W:(m.p.map (·.1)).Nodup)(J:MF1 m):FnO prog 54 0 2 [.pv (lR m)] [] (λv ob'=>v= .agg (bR m.c 0 1)/\ob'=aB [(0,.mp (aj aW m.s) (ay m.s)),(1,.mp (aj ppP m.p) (ay m.p))]):=by
 refine FnO.ofC func54 O ntmps54 Xn λ_ _ _ _=>?_
 have L:=jh 0 Xl Xl;have M:=pw m.c J.c;have P:=J.ls;have U:=J.lp;refine Z2 O<|Gr O<|Rs O (aF [] 2 call108 L O O O O trivial Xl O)<|Y2 O<|Z2 O<|Rs O (aa call111 M O)<|Y2 O<|Z4 O<|Gz O (st:=λXr:Nat=>([(1,UG),(2,UG),(3,UG),(14,UG),(15,UG),(16,UF (pIi Xr))],[(0,UG),(1,UG),(2,UF (.mp (aj aW (m.s.take Xr)) (ay (m.s.take Xr)))),(3,UG),(4,UG)])) 5
  (I:=λXr=>Xr<=m.s.length) (μ:=λXr=>m.s.length-Xr) (x0:=0) (Tk (aS O) (aO Xk) O O) (aJ _) ?_
 rintro i hi;refine Z1 O<|Gp O (λG=>?_) (λG=>?_)
 .have hlt:i<m.s.length:=Xj;have u:=s5 hlt;have D:=DS hlt;have E:=pw m.s[i].2 (J.s _ (aq hlt));obtain⟨r,hr⟩:=fh bX (m.s.take i) m.s[i].1;have z:=dO bX (m.s.take i) m.s[i].1 m.s[i].2;have A:=dL (g:=bQ) bX (m.s.take i) m.s[i].1 m.s[i].2;rw[o9 V hlt]at z A;refine Ti<|Gr O<|Rs O (ag i underlying42 nD O O O hlt D)<|Rs O (aG ⟨_,underlying148,O⟩ nD O u O)<|Y2 O<|UB 8 O<|Dr 6 O<|TR O (λτ h=>aa call111 E (h.aD O))<|DL.step (d:=UG) [2] O O O (λτ h=>bl gQ underlying135 (Ee h 0 O O) (Eo h 0 O O) (Ee h 1 O O) (Ee h 2 O O) ⟨m.s[i].1,O⟩ hr z A) O Xk ?_;refine⟨Xk,?_⟩;exact Z2 O<|⟨(i+1),Tk (aS O) (aO Xk) O O,hlt,Xj⟩
 have hie:m.s.take i=m.s:=aH Xj;rw[hie];refine Gx O<|Z4 O<|Gz O (st:=λt:Nat=>([(2,UG),(3,UG),(29,UG),(30,UG),(31,UF (pIi t))],[(1,UG),(2,UG),(3,UF (.mp (aj ppP (m.p.take t)) (ay (m.p.take t)))),(4,UG)])) 5
  (I:=λt=>t<=m.p.length) (μ:=λt=>m.p.length-t) (x0:=0) (Tk (aS O) (aO Xk) O O) (aJ _) ?_
 rintro j hj;refine Z1 O<|Gp O (λH=>?_) (λH=>?_)
 .have hlt:j<m.p.length:=Xj;have u:=s7 hlt;have D:=Eu hlt;have E:=pw m.p[j].2 (J.p _ (aq hlt));obtain⟨r,hr⟩:=fh cS (m.p.take j) m.p[j].1;have z:=dO cS (m.p.take j) m.p[j].1 m.p[j].2;have A:=dL (g:=bQ) cS (m.p.take j) m.p[j].1 m.p[j].2;rw[o9 W hlt]at z A;refine Ti<|Gr O<|Rs O (ag j underlying43 lu O O O hlt D)<|Rs O (aG ⟨_,underlying150,O⟩ lu O u O)<|Y2 O<|UB 11 O<|Dr 9 O<|TR O (λτ h=>aa call111 E (h.aD O))<|DL.step (d:=UG) [3] O O O (λτ h=>bl FC underlying136 (Ee h 0 O O) (Eo h 0 O O) (Ee h 1 O O) (Ee h 2 O O) ⟨m.p[j].1,O⟩ hr z A) O Xk ?_;refine⟨Xk,?_⟩;exact Z2 O<|⟨(j+1),Tk (aS O) (aO Xk) O O,hlt,Xj⟩
 have hje:m.p.take j=m.p:=aH Xj;rw[hje];exact Gx O<|Z2 O<|Gt O<|⟨[(2,.ptr 2 0)],[(0,.mp (aj aW m.s) (ay m.s)),(1,.mp (aj ppP m.p) (ay m.p)),(2,.mix 138 (bR (m.c) 0 1))],[.agg (bR (m.c) 0 1)],[(0,.mp (aj aW m.s) (ay m.s)),(1,.mp (aj ppP m.p) (ay m.p))],3,Tl [2,3,1] (aT Xk) (aP Xk) O O Xl O,O,⟨ax ⟨_,underlying138,O⟩ tR O O O,Xq⟩,O,O,λi o h=>dN [(0,.mp (aj aW m.s) (ay m.s)),(1,.mp (aj ppP m.p) (ay m.p))] [(2,.mix 138 (bR (m.c) 0 1))] i o h,Xl,O,O⟩
theorem F1.rsm(h:F1 q):RSm q:=⟨AS (Kf h.n) Xl,AS (Kf (WR h.d Xl)) Xl⟩
section
variable {C:Ctx}{n:Nat}{σ:St}{x y:Operand}{dst:Option Tmp}{ty:TypeId}{pos:String}{after:Array Edge}{gd:Option (Nat×Bool)}
theorem xl{P:Program}{s j:Nat}{i:Int}(r:P.underlying T=UF (.array k e))(t:bT P e s)(u:i=(j:Int))(z:j<k)(w:World)(b off:Nat):
  (Instr.indexAt T (.pointer (UF ⟨b,off,UG⟩)) (.int kk i)).run P w= .ok (.pointer (UF ⟨b,off+j*s,UG⟩)) w:=by
 subst u;have A:((j:Int))<(k:Int):=Xj;simp[Instr.indexAt,asIntOf,run_underlying r,t.run,z,Addr.add_lit,Instr.sureAddr]
theorem cF{s off:Nat}{i:Int}{ob:Ob}(j:Nat)(z:C.P.underlying T=UF (.array k e))(A:bT C.P e s)(u:σ.ev n x= .ptr id off)(D:σ.ob id=UF ob)(E:σ.ev n y= .pv (.int kk i))(G:i=(j:Int))(H:j<k)(t:ob.real=VA:=by rfl):
  XJ C n ⟨dst,.indexAddr T x y,ty,pos,after,gd⟩ σ ⟨.ptr id (off+j*s),[],[]⟩:=
 .val λa w m R hw=>by
  obtain⟨b,N,he,hm,_⟩:=hw.ptr u D t;have r:=hw.ev x;rw[u]at r;simp only[Rel]at r;refine⟨_,by simp only[execOp,he,hw.int E,Sem.run_bind,xl z A G H,Result.andThen_ok];rfl,?_⟩;simp only[Rel];exact⟨r.1,λb' N' e=>by rw[hm]at e;cases e;rfl⟩
end
theorem Mm.LOk.ff{D:Int}{l:List (K×Rat)}(h:LOk VA D l):LOk VC D l:=⟨h.nd,λe=>absurd e Xl,h.it⟩
theorem Hm(c:Rat)(sb:List (Par×Rat))(pb:List (PP×Rat))(w:MC)(k:Rat)(hB:B+smB*smB<=zI)(L:MSmB B ⟨c,sb,pb⟩)(E:MSm w)(U:∃z:Int,k=(z:Rat))(G:bj smB k):
  FnO prog 56 4 0 [.agg (bR c big 9001),.agg (bR w.c 9002 9003),.pv (bQ k)] [(big,.mp (aj aW sb) (ay sb)),(9001,.mp (aj ppP pb) (ay pb)),(9002,.mp (aj aW w.s) (ay w.s)),(9003,.mp (aj ppP w.p) (ay w.p))]
   (λr ob'=>∃s' p',IncR VC c sb pb w k (c+w.c*k) s' p'/\r= .agg (bR (c+w.c*k) big 9001)/\ob'=aB [(big,.mp (aj aW s') (ay s')),(9001,.mp (aj ppP p') (ay p'))]):=by
 refine FnO.ofC func56 O ntmps56 Xn λ_ _ _ _=>?_
 have M:=ca (dw.int 36 U) G sm0;have X:=cX w.c k (ca (dw.int 36 E.ci) E.cb sm0) M;have Y:=j5 c (w.c*k) (ca (dw.int 36 L.ci) L.cb (AS (Vf _ _) hB)) (ca ((dw.int 36 E.ci).rH U) (E.cb.mul G) sm2);refine Z4 O<|Tj (St.cB (ks:=aj aW w.s) (vs:=ay w.s) 9002 Xk (Co _ _) (T3 _))<|Tj (St.cB (ks:=aj ppP w.p) (vs:=ay w.p) 9003 Xk (Co _ _) (T3 _))<|UB 9 O<|Dr 5 O<|TR O (λτ h=>aa call112 X (h.aD O))<|TR O (λτ h=>aa call119 Y (h.aD O))<|Dr 2 O ?_;refine⟨Xk,?_⟩;refine Z2 O<|Rs O (cc 4 underlying135 O O)<|Gz O (st:=λXr:List (Par×Rat)×List (Par×Rat)×List PV=>([(3,UG),(4,UG),(5,UG),(6,UG),(21,UG)],[(big,UF (.mp (aj aW Xr.2.1) (ay Xr.2.1))),(0,UG),(1,UG),(2,UG),(3,UG),(4,UF (.mi Xr.2.2 (aj aW Xr.1) (ay Xr.1))),(9001,UG)])) 5
  (I:=λXr=>Inc VC 6 sb w.s k Xr.1 Xr.2.1) (μ:=λXr=>Xr.1.length) (x0:=(w.s,sb,[])) (Tk (aS O) (aO Xk) O O) (Inc.start L.s.ff w.s k) ?_
 rintro⟨todo,acc,cur⟩ hI;try simp only at hI ⊢
 refine Gr O<|RL.call O (cO O O ?_);rintro b rest cur2 ks2 vs2 hN;refine Rs O (bz O O)<|Gc O (λt=>?_) (λt=>?_)
 .obtain⟨_,l1,e,l2,rfl,rfl,rfl,rfl,rfl⟩:=(c8.ofE hN).resolve_left (by rintro⟨h,_⟩;rw[h]at t;cases t);have D:=hI.mem (e:=e) Xn;have A:=E.s.it e D;have H:=E.sb e D;have P:=cX e.2 k (ca A.yq H sm0) M;have J:=jS (c+w.c*k) acc pb e.1 (e.2*k) (ca (A.rH U).yq (H.mul G) sm2) (λx hx=>ca (hI.ok.it x hx).yq (hI.abs L.s.ff E.s L.sb E.sb G x hx) hB);refine Ti<|Gr O<|Rs O (cr O O)<|Ar 6 O<|UB 6 O<|Dr 4 O<|TR O (λτ h=>aa call112 P (h.aD O))<|VE [big,9001] O (λτ h=>aF [big,9001] 7 call109 J (h.args.trans O) O O O ⟨(Eo h 0 O O),(Eo h 1 O O),Xq⟩ Xl O) ?_;refine⟨Xk,?_⟩;exact⟨(l1++l2,note VC acc e.1 (e.2*k),[aW e.1,bQ e.2]),Tk (aS O) (aO Xk) O O,hI.step (A.rH U),Xn⟩
 obtain⟨_,rfl,_⟩:=(c8.ofE hN).resolve_right (by rintro⟨h,_⟩;rw[h]at t;cases t);have Z:=hI.end;have V:=hI.ok;refine Gx O<|Z2 O<|Rs O (cc 5 underlying136 O O)<|Gz O (st:=λj:List (PP×Rat)×List (PP×Rat)×List PV=>([(3,UG),(5,UG),(6,UG),(35,UG)],[(big,UG),(0,UG),(2,UG),(3,UG),(5,UF (.mi j.2.2 (aj ppP j.1) (ay j.1))),(9001,UF (.mp (aj ppP j.2.1) (ay j.2.1)))])) 6
  (I:=λj=>Inc VC 36 pb w.p k j.1 j.2.1/\∀e∈j.2.1,bZ e.1.1 e.1.2<=0) (μ:=λj=>j.1.length) (x0:=(w.p,pb,[])) (Tk (aS O) (aO Xk) O O) (⟨Inc.start L.p.ff w.p k,L.po⟩) ?_
 rintro⟨todo2,acc2,cur3⟩ ⟨hI2,hpo⟩;try simp only at hI2 hpo ⊢
 refine Gr O<|RL.call O (cO O O ?_);rintro b2 rest2 cur4 ks4 vs4 hN2;refine Rs O (bz O O)<|Gc O (λu=>?_) (λu=>?_)
 .obtain⟨_,l1,e,l2,rfl,rfl,rfl,rfl,rfl⟩:=(c8.ofE hN2).resolve_left (by rintro⟨h,_⟩;rw[h]at u;cases u);have D:=hI2.mem (e:=e) Xn;have A:=E.p.it e D;have H:=E.pb e D;have P:=cX e.2 k (ca A H sm0) M;have J:=dm (c+w.c*k) acc acc2 e.1.1 e.1.2 (e.2*k) (ca (A.rH U) (H.mul G) sm2) (λx hx=>ca (hI2.ok.it x hx) (hI2.abs L.p.ff E.p L.pb E.pb G x hx) hB);have ab:cP e.1.1 e.1.2=e.1:=cQ (E.po e D);have W:=uY (δ:=VC) hpo e.1.1 e.1.2 (e.2*k);rw[ab]at J W;refine Ti<|Gr O<|Rs O (cr O O)<|Ar 6 O<|UB 9 O<|D1 O<|VE [6] O (λτ h=>cF 0 underlying226 kN (Ee h 0 O O) (Eo h 0 O O) O O Xl)<|D1 O<|VE [6] O (λτ h=>cF 1 underlying226 kN (Ee h 0 O O) (Eo h 0 O O) O O Xl)<|Dr 3 O<|TR O (λτ h=>aa call112 P (h.aD O))<|VE [big,9001] O (λτ h=>aF [big,9001] 8 call110 J (h.args.trans O) O O O ⟨(Eo h 0 O O),(Eo h 1 O O),Xq⟩ Xl O) ?_;refine⟨Xk,?_⟩;exact⟨(l1++l2,note VC acc2 e.1 (e.2*k),[ppP e.1,bQ e.2]),Tk (aS O) (aO Xk) O O,⟨hI2.step (A.rH U),W⟩,Xn⟩
 obtain⟨_,rfl,_⟩:=(c8.ofE hN2).resolve_right (by rintro⟨h,_⟩;rw[h]at u;cases u);exact Gx O<|Z2 O<|Gt O<|⟨[(6,.ptr 0 0)],[(big,.mp (aj aW acc) (ay acc)),(9001,.mp (aj ppP acc2) (ay acc2)),(0,.mix 138 (bR (c+w.c*k) big 9001))],[.agg (bR (c+w.c*k) big 9001)],[(big,.mp (aj aW acc) (ay acc)),(9001,.mp (aj ppP acc2) (ay acc2))],1,Tl [3] (aT Xk) (aP Xk) O O Xl O,O,⟨ax ⟨_,underlying138,O⟩ tR O O O,Xq⟩,O,O,λi o h=>dN [(big,.mp (aj aW acc) (ay acc)),(9001,.mp (aj ppP acc2) (ay acc2))] [(0,.mix 138 (bR (c+w.c*k) big 9001))] i o h,Xl,acc,acc2,⟨O,V,hI2.ok,λ_=>hpo,Z,hI2.end⟩,O,O⟩
end
section
open Go.RowKit Mk Mm
structure MulF(v w m:MC):Prop where
 c:m.c=v.c*w.c
 s:LOk VC 6 m.s
 p:LOk VC 36 m.p
 po:∀e∈m.p,bZ e.1.1 e.1.2<=0
 es:∀x,lk m.s x=lk w.s x*v.c+lk v.s x*w.c
 ep:∀x y,lk m.p (cP x y)=lk w.p (cP x y)*v.c+lk v.p (cP x y)*w.c+(lk v.s x*lk w.s y+lk v.s y*lk w.s x)
theorem Hb(v w:MC)(A:MSm v)(D:MSm w):FnO prog 55 4 2 [.agg (bR v.c big 9001),.agg (bR w.c 9002 9003)] [(big,.mp (aj aW v.s) (ay v.s)),(9001,.mp (aj ppP v.p) (ay v.p)),(9002,.mp (aj aW w.s) (ay w.s)),(9003,.mp (aj ppP w.p) (ay w.p))]
   (λr ob'=>∃m,MulF v w m/\r= .agg (bR m.c 0 1)/\ob'=aB [(0,.mp (aj aW m.s) (ay m.s)),(1,.mp (aj ppP m.p) (ay m.p))]):=by
 refine FnO.ofC func55 O ntmps55 Xn λ_ _ _ _=>?_
 have j:=jh 0 Xl Xl;have an:=ca (dw.int 36 A.ci) A.cb sm0;have ao:=ca (dw.int 36 D.ci) D.cb sm0;have hvw:=cX v.c w.c an ao;have b0:∀{K:Type},∀e∈([]:List (K×Rat)),bj 0 e.2:=λe h=>absurd h Xn
 have ar:0+smB*smB+smB*smB<=zI:=by decide+kernel
 have au:0+smB*smB<=zI:=by decide+kernel
 have sm7:0+smB*smB+smB*smB+(smB*smB+smB*smB)+(smB*smB+smB*smB)<=zI:=by decide+kernel
 refine Z3 O<|Tj (St.cB (ks:=aj aW v.s) (vs:=ay v.s) big Xk (Co _ _) (T3 _))<|Tj (St.cB (ks:=aj ppP v.p) (vs:=ay v.p) 9001 Xk (Co _ _) (T3 _))<|Tj (St.cB (ks:=aj aW w.s) (vs:=ay w.s) 9002 Xk (Co _ _) (T3 _))<|Tj (St.cB (ks:=aj ppP w.p) (vs:=ay w.p) 9003 Xk (Co _ _) (T3 _))<|Gr O<|Rs O (aF [] 3 call108 j O O O O trivial Xl O)<|Y2 O<|Z4 O<|Rs O (aa call112 hvw O)<|Y2 O<|Z2 O<|Rs O (cc 6 underlying135 O O)<|Gz O (st:=λXr:List (Par×Rat)×List (Par×Rat)×List PV=>([(2,UG),(3,UG),(4,UG),(5,UG),(28,UG)],[(0,UG),(1,UG),(2,UG),(3,UF (.mp (aj aW Xr.2.1) (ay Xr.2.1))),(4,UG),(5,UG),(6,UF (.mi Xr.2.2 (aj aW Xr.1) (ay Xr.1)))])) 7
  (I:=λXr=>Inc VC 6 [] v.s w.c Xr.1 Xr.2.1) (μ:=λXr=>Xr.1.length) (x0:=(v.s,[],[])) (Tk (aS O) (aO Xk) O O) (Inc.start (LOk.nil 6) v.s w.c) ?_
 rintro⟨t1,a1,u1⟩ hI1;try simp only at hI1 ⊢
 refine Gr O<|RL.call O (cO O O ?_);rintro b rest cur2 ks2 vs2 hN;refine Rs O (bz O O)<|Gc O (λV=>?_) (λV=>?_)
 .obtain⟨_,l1,e,l2,rfl,rfl,rfl,rfl,rfl⟩:=(c8.ofE hN).resolve_left (by rintro⟨h,_⟩;rw[h]at V;cases V);have j:=hI1.mem (e:=e) Xn;have t:=A.s.it e j;have u:=A.sb e j;have U:=cX e.2 w.c (ca t.yq u sm0) ao;have E:=jS (v.c*w.c) a1 [] e.1 (e.2*w.c) (ca (t.rH D.ci).yq (u.mul D.cb) sm2) (λx hx=>ca (hI1.ok.it x hx).yq (hI1.abs (LOk.nil 6) A.s b0 A.sb D.cb x hx) au);refine Ti<|Gr O<|Rs O (cr O O)<|Ar 6 O<|UB 7 O<|Dr 5 O<|TR O (λτ h=>aa call112 U (h.aD O))<|VE [3,4] O (λτ h=>aF [3,4] 9 call109 E (h.args.trans O) O O O ⟨(Eo h 0 O O),(Eo h 1 O O),Xq⟩ Xl O) ?_;refine⟨Xk,?_⟩;exact⟨(l1++l2,note VC a1 e.1 (e.2*w.c),[aW e.1,bQ e.2]),Tk (aS O) (aO Xk) O O,hI1.step (t.rH D.ci),Xn⟩
 obtain⟨_,rfl,_⟩:=(c8.ofE hN).resolve_right (by rintro⟨h,_⟩;rw[h]at V;cases V);have al:=hI1.ok;have h1e:=hI1.end;have h1b:=hI1.abs (LOk.nil 6) A.s b0 A.sb D.cb;refine Gx O<|Z2 O<|Rs O (cc 7 underlying135 O O)<|Gz O (st:=λL:List (Par×Rat)×List (Par×Rat)×List PV=>([(2,UG),(3,UG),(4,UG),(5,UG),(43,UG)],[(0,UG),(1,UG),(2,UG),(3,UF (.mp (aj aW L.2.1) (ay L.2.1))),(4,UG),(5,UG),(7,UF (.mi L.2.2 (aj aW L.1) (ay L.1)))])) 8
  (I:=λL=>Inc VC 6 a1 w.s v.c L.1 L.2.1) (μ:=λL=>L.1.length) (x0:=(w.s,a1,[])) (Tk (aS O) (aO Xk) O O) (Inc.start al w.s v.c) ?_
 rintro⟨t2,a2,u2⟩ hI2;try simp only at hI2 ⊢
 refine Gr O<|RL.call O (cO O O ?_);rintro b rest cur2 ks2 vs2 hN;refine Rs O (bz O O)<|Gc O (λW=>?_) (λW=>?_)
 .obtain⟨_,l1,e,l2,rfl,rfl,rfl,rfl,rfl⟩:=(c8.ofE hN).resolve_left (by rintro⟨h,_⟩;rw[h]at W;cases W);have j:=hI2.mem (e:=e) Xn;have t:=D.s.it e j;have u:=D.sb e j;have U:=cX e.2 v.c (ca t.yq u sm0) an;have E:=jS (v.c*w.c) a2 [] e.1 (e.2*v.c) (ca (t.rH A.ci).yq (u.mul A.cb) sm2) (λx hx=>ca (hI2.ok.it x hx).yq (hI2.abs al D.s h1b D.sb A.cb x hx) ar);refine Ti<|Gr O<|Rs O (cr O O)<|Ar 6 O<|UB 7 O<|Dr 5 O<|TR O (λτ h=>aa call112 U (h.aD O))<|VE [3,4] O (λτ h=>aF [3,4] 10 call109 E (h.args.trans O) O O O ⟨(Eo h 0 O O),(Eo h 1 O O),Xq⟩ Xl O) ?_;refine⟨Xk,?_⟩;exact⟨(l1++l2,note VC a2 e.1 (e.2*v.c),[aW e.1,bQ e.2]),Tk (aS O) (aO Xk) O O,hI2.step (t.rH A.ci),Xn⟩
 obtain⟨_,rfl,_⟩:=(c8.ofE hN).resolve_right (by rintro⟨h,_⟩;rw[h]at W;cases W);have az:=hI2.ok;have h2e:=hI2.end;refine Gx O<|Z2 O<|Rs O (cc 8 underlying136 O O)<|Gz O (st:=λG:List (PP×Rat)×List (PP×Rat)×List PV=>([(2,UG),(3,UG),(4,UG),(5,UG),(58,UG)],[(0,UG),(1,UG),(2,UG),(3,UG),(4,UF (.mp (aj ppP G.2.1) (ay G.2.1))),(5,UG),(8,UF (.mi G.2.2 (aj ppP G.1) (ay G.1)))])) 9
  (I:=λG=>Inc VC 36 [] v.p w.c G.1 G.2.1/\∀e∈G.2.1,bZ e.1.1 e.1.2<=0) (μ:=λG=>G.1.length) (x0:=(v.p,[],[])) (Tk (aS O) (aO Xk) O O) (⟨Inc.start (LOk.nil 36) v.p w.c,λ_ h=>absurd h Xn⟩) ?_
 rintro⟨t3,c1,u3⟩ ⟨hI3,hp3⟩;try simp only at hI3 hp3 ⊢
 refine Gr O<|RL.call O (cO O O ?_);rintro b rest cur2 ks2 vs2 hN;refine Rs O (bz O O)<|Gc O (λX=>?_) (λX=>?_)
 .obtain⟨_,l1,e,l2,rfl,rfl,rfl,rfl,rfl⟩:=(c8.ofE hN).resolve_left (by rintro⟨h,_⟩;rw[h]at X;cases X);have j:=hI3.mem (e:=e) Xn;have t:=A.p.it e j;have u:=A.pb e j;have U:=cX e.2 w.c (ca t u sm0) ao;have E:=dm (v.c*w.c) a2 c1 e.1.1 e.1.2 (e.2*w.c) (ca (t.rH D.ci) (u.mul D.cb) sm2) (λx hx=>ca (hI3.ok.it x hx) (hI3.abs (LOk.nil 36) A.p b0 A.pb D.cb x hx) au);have ap:cP e.1.1 e.1.2=e.1:=cQ (A.po e j);have ac:=uY (δ:=VC) hp3 e.1.1 e.1.2 (e.2*w.c);rw[ap]at E ac;refine Ti<|Gr O<|Rs O (cr O O)<|Ar 6 O<|UB 10 O<|D1 O<|VE [_] O (λτ h=>cF 0 underlying226 kN (Ee h 0 O O) (Eo h 0 O O) O O Xl)<|D1 O<|VE [_] O (λτ h=>cF 1 underlying226 kN (Ee h 0 O O) (Eo h 0 O O) O O Xl)<|Dr 4 O<|TR O (λτ h=>aa call112 U (h.aD O))<|VE [3,4] O (λτ h=>aF [3,4] 11 call110 E (h.args.trans O) O O O ⟨(Eo h 0 O O),(Eo h 1 O O),Xq⟩ Xl O) ?_;refine⟨Xk,?_⟩;exact⟨(l1++l2,note VC c1 e.1 (e.2*w.c),[ppP e.1,bQ e.2]),Tk (aS O) (aO Xk) O O,⟨hI3.step (t.rH D.ci),ac⟩,Xn⟩
 obtain⟨_,rfl,_⟩:=(c8.ofE hN).resolve_right (by rintro⟨h,_⟩;rw[h]at X;cases X);have ad:=hI3.ok;have h3e:=hI3.end;have aA:=hI3.abs (LOk.nil 36) A.p b0 A.pb D.cb;have aC:=hp3;refine Gx O<|Z2 O<|Rs O (cc 9 underlying136 O O)<|Gz O (st:=λH:List (PP×Rat)×List (PP×Rat)×List PV=>([(2,UG),(3,UG),(4,UG),(5,UG),(76,UG)],[(0,UG),(1,UG),(2,UG),(3,UG),(4,UF (.mp (aj ppP H.2.1) (ay H.2.1))),(5,UG),(9,UF (.mi H.2.2 (aj ppP H.1) (ay H.1)))])) 10
  (I:=λH=>Inc VC 36 c1 w.p v.c H.1 H.2.1/\∀e∈H.2.1,bZ e.1.1 e.1.2<=0) (μ:=λH=>H.1.length) (x0:=(w.p,c1,[])) (Tk (aS O) (aO Xk) O O) (⟨Inc.start ad w.p v.c,aC⟩) ?_
 rintro⟨t4,c2,u4⟩ ⟨hI4,hp4⟩;try simp only at hI4 hp4 ⊢
 refine Gr O<|RL.call O (cO O O ?_);rintro b rest cur2 ks2 vs2 hN;refine Rs O (bz O O)<|Gc O (λY=>?_) (λY=>?_)
 .obtain⟨_,l1,e,l2,rfl,rfl,rfl,rfl,rfl⟩:=(c8.ofE hN).resolve_left (by rintro⟨h,_⟩;rw[h]at Y;cases Y);have j:=hI4.mem (e:=e) Xn;have t:=D.p.it e j;have u:=D.pb e j;have U:=cX e.2 v.c (ca t u sm0) an;have E:=dm (v.c*w.c) a2 c2 e.1.1 e.1.2 (e.2*v.c) (ca (t.rH A.ci) (u.mul A.cb) sm2) (λx hx=>ca (hI4.ok.it x hx) (hI4.abs ad D.p aA D.pb A.cb x hx) ar);have ap:cP e.1.1 e.1.2=e.1:=cQ (D.po e j);have ac:=uY (δ:=VC) hp4 e.1.1 e.1.2 (e.2*v.c);rw[ap]at E ac;refine Ti<|Gr O<|Rs O (cr O O)<|Ar 6 O<|UB 10 O<|D1 O<|VE [_] O (λτ h=>cF 0 underlying226 kN (Ee h 0 O O) (Eo h 0 O O) O O Xl)<|D1 O<|VE [_] O (λτ h=>cF 1 underlying226 kN (Ee h 0 O O) (Eo h 0 O O) O O Xl)<|Dr 4 O<|TR O (λτ h=>aa call112 U (h.aD O))<|VE [3,4] O (λτ h=>aF [3,4] 12 call110 E (h.args.trans O) O O O ⟨(Eo h 0 O O),(Eo h 1 O O),Xq⟩ Xl O) ?_;refine⟨Xk,?_⟩;exact⟨(l1++l2,note VC c2 e.1 (e.2*v.c),[ppP e.1,bQ e.2]),Tk (aS O) (aO Xk) O O,⟨hI4.step (t.rH A.ci),ac⟩,Xn⟩
 obtain⟨_,rfl,_⟩:=(c8.ofE hN).resolve_right (by rintro⟨h,_⟩;rw[h]at Y;cases Y);have am:=hI4.ok;have h4e:=hI4.end;have h4b:∀x y,bj (0+smB*smB+smB*smB) (lk c2 (cP x y)):=λx y=>gK am.nd (hI4.abs ad D.p aA D.pb A.cb) _
 refine Gx O<|Z2 O<|Rs O (cc 10 underlying135 O O)<|Gz O (st:=λM:List (Par×Rat)×List (PP×Rat)×List PV=>([(3,UG),(4,UG),(5,UG),(94,UG)],[(1,UG),(2,UG),(3,UG),(4,UF (.mp (aj ppP M.2.1) (ay M.2.1))),(5,UG),(10,UF (.mi M.2.2 (aj aW M.1) (ay M.1)))])) 11
      (I:=λM=>CrsO VC c2 w.s v.s M.1 M.2.1) (μ:=λM=>M.1.length) (x0:=(v.s,c2,[])) (Tk (aS O) (aO Xk) O O) (CrsO.start am hp4) ?_
 rintro⟨t5,ac5,u5⟩ hI;try simp only at hI ⊢
 refine Gr O<|RL.call O (cO O O ?_);rintro b rest cur2 ks2 vs2 hN;refine Rs O (bz O O)<|Gc O (λZ=>?_) (λZ=>?_)
 .obtain⟨_,l1,e,l2,rfl,rfl,rfl,rfl,rfl⟩:=(c8.ofE hN).resolve_left (by rintro⟨h,_⟩;rw[h]at Z;cases Z);obtain⟨dP,hdP,hK⟩:=hI.into;have j:=hI.mem (e:=e) Xn;have t:=A.s.it e j;have u:=A.sb e j;refine Ti<|Gr O<|Rs O (cr O O)<|Ar 6 O<|Z2 O<|Rs O (cc 13 underlying135 O O)<|Gz O (st:=λP:List (Par×Rat)×List (PP×Rat)×List PV=>([(3,UG),(4,UG),(5,UG),(14,UG),(15,UG),(94,UG),(102,UG)],[(1,UG),(2,UG),(3,UG),(4,UF (.mp (aj ppP P.2.1) (ay P.2.1))),(5,UG),(10,UG),(11,UG),(12,UG),(13,UF (.mi P.2.2 (aj aW P.1) (ay P.1)))])) 14
       (I:=λP=>CrsI VC c2 w.s dP e.1 e.2 P.1 P.2.1) (μ:=λP=>P.1.length) (x0:=(w.s,ac5,[])) (Tk (aS O) (aO Xk) O O) (hK) ?_
  rintro⟨t6,ac6,u6⟩ hJ;try simp only at hJ ⊢
  refine Gr O<|RL.call O (cO O O ?_);rintro b2 rest2 cur4 ks4 vs4 hN2;refine Rs O (bz O O)<|Gc O (λJ=>?_) (λJ=>?_)
  .obtain⟨_,l3,g,l4,rfl,rfl,rfl,rfl,rfl⟩:=(c8.ofE hN2).resolve_left (by rintro⟨h,_⟩;rw[h]at J;cases J);have aG:=hJ.mem (e:=g) Xn;have aK:=D.s.it g aG;have af:=D.sb g aG;have U:=cX e.2 g.2 (ca t.yq u sm0) (ca aK.yq af sm0);have ah:dw 36 (e.2*g.2):=t.mul aK;have aM:=ca ah (u.mul af) sm2;have hdb:=j5 (e.2*g.2) (e.2*g.2) aM aM;refine Ti<|Gr O<|Rs O (cr O O)<|Ar 6 O<|Z2 O<|Rs O (aa call112 U O)<|Y2 O<|AW.cut (st:=λag:Rat=>mkS [(3,.ptr 1 0),(4,.ptr 2 0),(5,.ptr 5 0),(14,.ptr 11 0),(15,.ptr 12 0),(16,.ptr 14 0),(18,.ptr 16 0),(94,.ptr 10 0),(102,.ptr 13 0)] [(1,.mix 138 (Tw w)),(2,.mix 138 Tx),(3,.mp (aj aW a2) (ay a2)),(4,.mp (aj ppP ac6) (ay ac6)),(5,.mix 138 (bR (v.c*w.c) 3 4)),(10,.mi [aW e.1,bQ e.2] (aj aW (l1++l2)) (ay (l1++l2))),(11,.mix 146 [pIi e.1.f,.pv (.str e.1.c)]),(12,.mix 134 (Ty e.2)),(13,.mi [aW g.1,bQ g.2] (aj aW (l3++l4)) (ay (l3++l4))),(14,.mix 146 [pIi g.1.f,.pv (.str g.1.c)]),(16,.mix 134 (Ty ag))] 17)
        (I:=λag=>(ctr e.1 e.2 g).2=ag) ?_ ?_
   .refine Z2 O<|Rs O (vt O O O) ?_;refine Gc O (λab=>?_) (λab=>?_)
    .have hq:(e.1==g.1)=VA:=ab;exact Z2 O<|Rs O (aa call119 hdb O)<|A1 O<|⟨(e.2*g.2+e.2*g.2),Tk (aS O) (aO Xk) O O,by simp only[ctr,hq,WH]⟩
    have hq:(e.1==g.1)=VC:=ab;exact Ti<|⟨(e.2*g.2),Tk (aS O) (aO Xk) O O,by simp only[ctr,hq,UO,WZ]⟩
   rintro z hz;have ak:dw 36 (ctr e.1 e.2 g).2/\bj (smB*smB+smB*smB) (ctr e.1 e.2 g).2:=by
        simp only[ctr];split
        .exact⟨ah.add ah,(u.mul af).add (u.mul af)⟩
        exact⟨ah,(u.mul af).up (Vf _ _)⟩
   have aQ:=hJ.step ak.1;rw[hz]at aQ ak;have E:=dm (v.c*w.c) a2 ac6 e.1 g.1 z (ca ak.1 ak.2 sm4) (λx hx=>ca (hJ.ex.choose_spec.2.ok.it x hx) (hJ.abs (t2:=l1++e::l2) hdP A.s D.s h4b A.sb u D.sb x hx) sm7);exact Z4 O<|Rs O (aF [3,4] 17 call110 E O O O O ⟨Xk,Xk,Xq⟩ Xl O)<|⟨(l3++l4,note VC ac6 (cP e.1 g.1) z,[aW g.1,bQ g.2]),Tk (aS O) (aO Xk) O O,aQ,Xn⟩
  obtain⟨_,rfl,_⟩:=(c8.ofE hN2).resolve_right (by rintro⟨h,_⟩;rw[h]at J;cases J);have aR:=hJ.out hdP;exact Gx O<|⟨(l1++l2,ac6,[aW e.1,bQ e.2]),Tk (aS O) (aO Xk) O O,aR,Xn⟩
 obtain⟨_,rfl,_⟩:=(c8.ofE hN).resolve_right (by rintro⟨h,_⟩;rw[h]at Z;cases Z);have h5e:=hI.end;exact Gx O<|Z2 O<|Gt O<|⟨[(4,.ptr 2 0)],[(0,.mp (aj aW a2) (ay a2)),(1,.mp (aj ppP ac5) (ay ac5)),(2,.mix 138 (bR (v.c*w.c) 0 1))],[.agg (bR (v.c*w.c) 0 1)],[(0,.mp (aj aW a2) (ay a2)),(1,.mp (aj ppP ac5) (ay ac5))],3,Tl [3,4,2] (aT Xk) (aP Xk) O O Xl O,O,⟨ax ⟨_,underlying138,O⟩ tR O O O,Xq⟩,O,O,λi o h=>dN [(0,.mp (aj aW a2) (ay a2)),(1,.mp (aj ppP ac5) (ay ac5))] [(2,.mix 138 (bR (v.c*w.c) 0 1))] i o h,Xl,⟨v.c*w.c,a2,ac5⟩,⟨O,az,hI.ok,hI.po,λx=>by rw[h2e,h1e];simp only[lk];grind,λx y=>by rw[h5e,h4e,h3e];simp only[lk];grind⟩,O,O⟩
end
def St.gsC(σ:St)(pid j id sz k:Nat)(T T':TypeId)(cs:List PV)(vs:List V):St:=⟨σ.sl,obL [(pid,UF (.mix T' (vs.set j (.gsl id sz k)))),(id,UF (.gro T cs))] σ.ob,σ.av⟩
theorem St.Oe{σ:St}{T':TypeId}{cs:List PV}{vs:List V}(pid j:Nat)(z:σ.ob pid=UF (.mix T' vs))(A:vs[j]? =UF (.osl id sz k))(t:σ.ob id=UF (.cells T cs))(D:0<k)(hc:cs≠[]):σ.le (σ.gsC pid j id sz k T T' cs vs):=
 St.uT λr=>⟨r.sl,λp hp=>by
  rcases BY.1 hp with rfl|hp
  .refine⟨_,_,z,O,O,λb N _ ⟨arr,q1,q2,q3,q4⟩=>⟨arr,q1,q2,by rw[TQ];exact q3,?_⟩⟩;rw[TQ];refine RelL.setG j q4 A λu hu=>?_
   simp only[Rel]at hu ⊢;obtain⟨b2,N2,hm,_⟩:=r.live t;obtain⟨h0,h3⟩:=hu;obtain⟨c,he,h4,h5,h6⟩:=h3 b2 N2 hm;exact⟨h0,_,c,he,h4,h5,λe=>by omega,λ_ b' N' hm'=>by rw[hm]at hm';cases hm';exact⟨O,h6⟩⟩
  obtain rfl:=TF.1 hp;exact⟨_,_,t,O,cY hc,λ_ _ _ h=>h⟩⟩
def St.nilC(σ:St)(pid j:Nat)(T':TypeId)(vs:List V):St:=⟨σ.sl,obL [(pid,UF (.mix T' (vs.set j (.pv nS))))] σ.ob,σ.av⟩
theorem St.FK{σ:St}{T':TypeId}{vs:List V}(pid j:Nat)(t:σ.ob pid=UF (.mix T' vs))(z:vs[j]? =UF (.gsl id sz 0)):σ.le (σ.nilC pid j T' vs):=
 St.uT λr=>⟨r.sl,λp hp=>by
  obtain rfl:=TF.1 hp;refine⟨_,_,t,O,O,λb N _ ⟨arr,q1,q2,q3,q4⟩=>⟨arr,q1,q2,by rw[TQ];exact q3,?_⟩⟩;rw[TQ];refine RelL.setG j q4 z λu hu=>?_
  simp only[Rel,RelP]at hu ⊢;obtain⟨_,A,c,he,h1,h2,h3,_⟩:=hu;obtain⟨rfl,rfl,_⟩:=h3 trivial;exact⟨UG,0,he,h1,h2,(λ_ e=>by cases e;rfl),(λ_=>rfl),λe=>absurd O e⟩⟩
end Go.Proofs.YtkkenamefaegfaaGreatDoor
