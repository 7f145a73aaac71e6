/- Lemmas. No condition. -/
import Derived.ChangeKeysEq
import Derived.Test.YtameambcolibjaaGreatDoorJD10
set_option maxRecDepth 100000
set_option maxHeartbeats 4000000
open Go.RowKit Go.Proofs.Tryz
open Option renaming some→UF,none→UG
open Bool renaming true→VA,false→WA
namespace Go.Proofs.YtameambcolibjaaGreatDoor
variable{D l:List UInt8}{lo j k i n id sz:Nat}{s d:ByteArray}{c:UInt8}{q:Rat}{K:Type}{T e:TypeId}{kk:IntKind}
section
open Mk
theorem xV(l:List UInt8)(c:UInt8):eB (l++[c])=eB l*10+(c.toNat-48):=by simp[eB]
theorem wX(r:j<D.length)(t:lo<=j):eB ((D.drop lo).take (j+1-lo))=eB ((D.drop lo).take (j-lo))*10+((D.getD j 0).toNat-48):=by
 have e:(D.drop lo).take (j+1-lo)=(D.drop lo).take (j-lo)++[D.getD j 0]:=by
  rw[show j+1-lo=(j-lo)+1 by omega,sh X3]
  congr 2
  simp[List.getD,r,show lo+(j-lo)=j by omega]
 rw[e,xV]
theorem Cp{z:Nat}(h:k<=z):(⟨(D.take z).toArray⟩:ByteArray).extract 0 k=⟨(D.take k).toArray⟩:=by
 rw[ByteArray.extract_mk]
 congr 1
 apply Array.ext';simp[List.extract_eq_take_drop,Xr,U5 h]
theorem I0(r:∀c∈D,kj c=VA)(h:j-lo<=9):eB ((D.drop lo).take (j-lo))<1000000000:=by
 have t:=zb (l:=(D.drop lo).take (j-lo)) (λc hc=>r c (V8 (Xe hc)));have u:10^((D.drop lo).take (j-lo)).length<=10^9:=Vr XZ X3;omega
theorem j6(s:ByteArray)(hd:∀c∈az s,kj c=VA)(hl:(az s).length<=1000000):FnP prog 111 [.str s] (· =lJ (rdZ s)):=by
 refine FnP.ofC func111 O ntmps111 X2 λ_ _ _ _=>?_
 obtain⟨v,hv⟩:∃v,v=rdZ s:=⟨_,O⟩;rw[<-hv];obtain⟨ng,hng⟩:∃v,v=gp s:=⟨_,O⟩;have Y:=me s;rw[rdZ]at hv;rw[<-hng]at hv Y;obtain⟨t,ht⟩:∃t:ByteArray,t=⟨(az s).toArray⟩:=⟨_,O⟩;have htd:t.data.toList=az s:=by rw[ht]
 have hne:(s.toList !=(⟨#[]⟩:ByteArray).toList)=decide (0<s.size):=by
  rw[bne,mJ,Lib.size_eq];cases s.data.toList<;>simp
 refine Z1 O<|Z2 O<|Z3 O<|TN (St.cV 1 1 2 1 3 O O O)<|Z1 O<|Rs O (XJ.cast (v':=.pv (.bool (decide (0<s.size)))) (cJ O O O) (ah (λb=>V.pv (.bool b)) hne))<|A1 O ?_;apply TY 4 12 16 [13,14,15] O X8
 .intro X;have hp:0<s.size:=by simpa using X
  exact A1 O<|Rg O (bz 0 underlying9 O O O hp)<|Rg O ((aD O O O).cast (v':=.pv (.bool ((((s.data.toList.getD 0 0).toNat:Nat):Int)==45))) (by rw[fS _ 0 hp]))<|A1 O<|TQ X7 O O O
 .intro X;exact Ar 4 O<|TQ X7 O O O
 refine Gc O (λW=>?_) (λW=>?_)
 .have hn2:ng=VA:=by rw[Y];exact W
  obtain⟨hD,hp⟩:=Ci (hng.symm.trans hn2);refine UB 5 O<|D1 O<|Ds [] O (λτ h=>XJ.cast (v':=.pv (.str t)) (dY (kl:=.i64) (kh:=.i64) (il:=1) (ih:=0) (UF _) UG 1 s.size underlying9 (Ee h 0 O O) (by rintro _ ⟨⟩;exact⟨O,O⟩) X2 X2 (λ_=>rfl) XX (tJ _)) (ah (λx=>V.pv (.str x)) (hD.trans ht.symm))) O XY ?_;refine Dr 3 O ?_;refine⟨XY,?_⟩;refine Gz O (st:=λX6:Nat×List Nat=>([(2,UG),(3,UF (.pv (.str ⟨((az s).take X6.1).toArray⟩))),(4,UG)],[(0,UG),(1,UF (.mix 124 [.pv (.bool ng),.gsl 2 1 X6.2.length])),(2,UF (.gro 3 (gF X6.2)))])) 3
   (I:=λX6=>X6.1<=(az s).length/\Lok X6.2/\X6.2.length+X6.1<=(az s).length/\eB (az s)=eB ((az s).take X6.1)*1000000000^X6.2.length+val X6.2) (μ:=λX6=>X6.1) (x0:=((az s).length,[])) (TO ⟨O,ah (λx=>V.pv (.str x)) (by rw[ht,V7]),O,X5⟩ ⟨O,by rw[hn2];rfl,O,X5⟩ O O) (⟨tJ _,λ_ h=>absurd h X2,X2,by simp[val]⟩) ?_
  rintro⟨z,l⟩ ⟨hz,hok,hll,hvl⟩;try simp only at hz hok hll hvl ⊢
  refine Z3 O<|Gp O (λA=>?_) (λA=>?_)
  .refine TM ?_
   repeat apply TZ
   refine AW.block ?_;have H:0<z:=by
    have Z:(⟨((az s).take z).toArray⟩:ByteArray).size=z:=by simp[ByteArray.size];omega
    rw[Z]at A;omega
   have E:(⟨((az s).take z).toArray⟩:ByteArray).size=z:=by simp[ByteArray.size];omega
   have J:=read_step hz O hvl;rw[show eB (List.take (z-(z-9)) (List.drop (z-9) (az s)))=lX (az s) z from O]at J;have ab:=pQ hd z;refine Z3 O<|Rs O (XJ.cast (v':= pIi ((z-9:Nat):Int)) (Ce O O) (ah (λi=>pIi i) (by rw[E];split<;>omega)))<|A1 O<|Z1 O<|Z2 O ?_;refine Gz O (st:=λr:Nat=>([(2,UG),(3,UG),(4,UG),(5,UG),(6,UF (.pv (.int .i64 ((eB (((az s).drop (z-9)).take (r-(z-9))):Nat):Int)))),(7,UF (pIi (r:Int)))],[(0,UG),(1,UG),(2,UG)])) 3
    (I:=λr=>z-9<=r/\r<=z) (μ:=λr=>z-r) (x0:=(z-9)) (TO ⟨O,O,O,O,ah (λn:Nat=>pIi n) (by simp[eB]),O,X5⟩ (aO O) O O) (⟨tJ _,XX⟩) ?_
   rintro j ⟨hj1,hj2⟩;refine Z4 O<|Gp O (λB=>?_) (λB=>?_)
   .refine TM ?_
    repeat apply TZ
    refine AW.block ?_;have G:j<z:=by rw[E]at B;omega
    have L:j<(az s).length:=XX;have M:j<(⟨((az s).take z).toArray⟩:ByteArray).size:=XX;have P:=IM ((az s).take z) j M;rw[show((az s).take z).getD j 0=(az s).getD j 0 by simp[List.getD,Uw,G]]at P;have ac:=hd ((az s).getD j 0) (by simp[List.getD,L]);have ad:=wX L hj1;have X:=I0 hd (lo:=z-9) (j:=j) XX;simp only[kj,dO,OC]at ac;generalize (az s).getD j 0=c at*;generalize eB (((az s).drop (z-9)).take (j-(z-9)))=u at*;refine Z4 O<|Rs O (XJ.cast (v':=.pv (.int .u8 (c.toNat:Int))) (bz j underlying9 O O O M) (ah (λi=>V.pv (.int .u8 i)) P))<|Rs O (XJ.cast (v':=.pv (.int .u8 ((c.toNat-48:Nat):Int))) (aD O O O) (ah (λi=>V.pv (.int .u8 i)) (by show((c.toNat:Int)-48)%256=_;omega))) ?_;exact Rs O (XJ.cast (v':= pIi ((c.toNat-48:Nat):Int)) (jk underlying5 underlying3 O) (ah (λi=>pIi i) (eF XX)))<|Y2 O<|Z3 O<|⟨(j+1),TO ⟨O,O,O,O,ah (λi:Int=>pIi i) (by rw[ad];omega),O,X5⟩ (aO O) O O,⟨XX,XX⟩,XX⟩
   refine Gx O ?_;have G:j=z:=by rw[E]at B;omega
   rw[G,show eB (List.take (z-(z-9)) (List.drop (z-9) (az s)))=lX (az s) z from O];generalize lX (az s) z=u at*;refine Gr O<|Ar 7 O<|Z2 O<|Rs O (XJ.cast (v':=.pv (.str ⟨((az s).take (z-9)).toArray⟩)) (dY (kl:=.i64) (kh:=.i64) (il:=0) (ih:=((z-9:Nat):Int)) UG (UF _) 0 (z-9) underlying9 O X2 (λ_=>rfl) (by rintro _ ⟨⟩;exact⟨O,O⟩) X2 (aJ _) (by rw[E];omega)) (ah (λx=>V.pv (.str x)) (Cp XX))) ?_;exact A1 O<|⟨(z-9,l++[u]),TP [0,1,4] (aT O) ⟨O,UI (b:=UF (.mix 124 [.pv (.bool ng),.gsl 4 1 (l.length+1)])) XY (ah (λn=>UF (Ob.mix 124 [.pv (.bool ng),.gsl 4 1 n])) (c7 l _)),ah (λc=>UF (Ob.gro 3 c)) (limI_snoc _ _),X5⟩ O O XZ O,⟨XX,hok.append (Lok.one ab),by rw[D8,Uu];omega,by rw[D8,Uu,cU,val_one];exact J⟩,XX⟩
  refine Gx O ?_;have H:z=0:=by
   have Z:(⟨((az s).take z).toArray⟩:ByteArray).size=z:=by simp[ByteArray.size];omega
   rw[Z]at A;omega
  rw[H,Xt,show eB []=0 from O,XW,UQ]at hvl;have U:=cO (neg:=ng) l O XX hok hvl.symm;rw[<-hv]at U;exact TN (TR 2 O O)<|Z1 O<|Rs O (aa call176 U O)<|A1 O<|Gt O<|⟨_,_,O,O,⟨au ⟨_,underlying124,O⟩ nJ O O O,X5⟩,O⟩
 have hn2:ng=WA:=by rw[Y];exact W
 have hts:s=t:=(C5 (hng.symm.trans hn2)).trans ht.symm;rw[hts];refine TM<|Gz O (st:=λX6:Nat×List Nat=>([(2,UG),(3,UF (.pv (.str ⟨((az s).take X6.1).toArray⟩))),(4,UG)],[(0,UG),(1,UF (.mix 124 [.pv (.bool ng),.gsl 2 1 X6.2.length])),(2,UF (.gro 3 (gF X6.2)))])) 3
  (I:=λX6=>X6.1<=(az s).length/\Lok X6.2/\X6.2.length+X6.1<=(az s).length/\eB (az s)=eB ((az s).take X6.1)*1000000000^X6.2.length+val X6.2) (μ:=λX6=>X6.1) (x0:=((az s).length,[])) (TO ⟨O,ah (λx=>V.pv (.str x)) (by rw[ht,V7]),O,X5⟩ ⟨O,by rw[hn2];rfl,O,X5⟩ O O) (⟨tJ _,λ_ h=>absurd h X2,X2,by simp[val]⟩) ?_
 rintro⟨z,l⟩ ⟨hz,hok,hll,hvl⟩;try simp only at hz hok hll hvl ⊢
 refine Z3 O<|Gp O (λA=>?_) (λA=>?_)
 .refine TM ?_
  repeat apply TZ
  refine AW.block ?_;have H:0<z:=by
   have Z:(⟨((az s).take z).toArray⟩:ByteArray).size=z:=by simp[ByteArray.size];omega
   rw[Z]at A;omega
  have E:(⟨((az s).take z).toArray⟩:ByteArray).size=z:=by simp[ByteArray.size];omega
  have J:=read_step hz O hvl;rw[show eB (List.take (z-(z-9)) (List.drop (z-9) (az s)))=lX (az s) z from O]at J;have ab:=pQ hd z;refine Z3 O<|Rs O (XJ.cast (v':= pIi ((z-9:Nat):Int)) (Ce O O) (ah (λi=>pIi i) (by rw[E];split<;>omega)))<|A1 O<|Z1 O<|Z2 O ?_;refine Gz O (st:=λr:Nat=>([(2,UG),(3,UG),(4,UG),(5,UG),(6,UF (.pv (.int .i64 ((eB (((az s).drop (z-9)).take (r-(z-9))):Nat):Int)))),(7,UF (pIi (r:Int)))],[(0,UG),(1,UG),(2,UG)])) 3
   (I:=λr=>z-9<=r/\r<=z) (μ:=λr=>z-r) (x0:=(z-9)) (TO ⟨O,O,O,O,ah (λn:Nat=>pIi n) (by simp[eB]),O,X5⟩ (aO O) O O) (⟨tJ _,XX⟩) ?_
  rintro j ⟨hj1,hj2⟩;refine Z4 O<|Gp O (λB=>?_) (λB=>?_)
  .refine TM ?_
   repeat apply TZ
   refine AW.block ?_;have G:j<z:=by rw[E]at B;omega
   have L:j<(az s).length:=XX;have M:j<(⟨((az s).take z).toArray⟩:ByteArray).size:=XX;have P:=IM ((az s).take z) j M;rw[show((az s).take z).getD j 0=(az s).getD j 0 by simp[List.getD,Uw,G]]at P;have ac:=hd ((az s).getD j 0) (by simp[List.getD,L]);have ad:=wX L hj1;have X:=I0 hd (lo:=z-9) (j:=j) XX;simp only[kj,dO,OC]at ac;generalize (az s).getD j 0=c at*;generalize eB (((az s).drop (z-9)).take (j-(z-9)))=u at*;refine Z4 O<|Rs O (XJ.cast (v':=.pv (.int .u8 (c.toNat:Int))) (bz j underlying9 O O O M) (ah (λi=>V.pv (.int .u8 i)) P))<|Rs O (XJ.cast (v':=.pv (.int .u8 ((c.toNat-48:Nat):Int))) (aD O O O) (ah (λi=>V.pv (.int .u8 i)) (by show((c.toNat:Int)-48)%256=_;omega))) ?_;exact Rs O (XJ.cast (v':= pIi ((c.toNat-48:Nat):Int)) (jk underlying5 underlying3 O) (ah (λi=>pIi i) (eF XX)))<|Y2 O<|Z3 O<|⟨(j+1),TO ⟨O,O,O,O,ah (λi:Int=>pIi i) (by rw[ad];omega),O,X5⟩ (aO O) O O,⟨XX,XX⟩,XX⟩
  refine Gx O ?_;have G:j=z:=by rw[E]at B;omega
  rw[G,show eB (List.take (z-(z-9)) (List.drop (z-9) (az s)))=lX (az s) z from O];generalize lX (az s) z=u at*;refine Gr O<|Ar 7 O<|Z2 O<|Rs O (XJ.cast (v':=.pv (.str ⟨((az s).take (z-9)).toArray⟩)) (dY (kl:=.i64) (kh:=.i64) (il:=0) (ih:=((z-9:Nat):Int)) UG (UF _) 0 (z-9) underlying9 O X2 (λ_=>rfl) (by rintro _ ⟨⟩;exact⟨O,O⟩) X2 (aJ _) (by rw[E];omega)) (ah (λx=>V.pv (.str x)) (Cp XX))) ?_;exact A1 O<|⟨(z-9,l++[u]),TP [0,1,4] (aT O) ⟨O,UI (b:=UF (.mix 124 [.pv (.bool ng),.gsl 4 1 (l.length+1)])) XY (ah (λn=>UF (Ob.mix 124 [.pv (.bool ng),.gsl 4 1 n])) (c7 l _)),ah (λc=>UF (Ob.gro 3 c)) (limI_snoc _ _),X5⟩ O O XZ O,⟨XX,hok.append (Lok.one ab),by rw[D8,Uu];omega,by rw[D8,Uu,cU,val_one];exact J⟩,XX⟩
 refine Gx O ?_;have H:z=0:=by
  have Z:(⟨((az s).take z).toArray⟩:ByteArray).size=z:=by simp[ByteArray.size];omega
  rw[Z]at A;omega
 rw[H,Xt,show eB []=0 from O,XW,UQ]at hvl;have U:=cO (neg:=ng) l O XX hok hvl.symm;rw[<-hv]at U;exact TN (TR 2 O O)<|Z1 O<|Rs O (aa call176 U O)<|A1 O<|Gt O<|⟨_,_,O,O,⟨au ⟨_,underlying124,O⟩ nJ O O O,X5⟩,O⟩
end
section
open Mk
abbrev Rm(q:Rat):List PV:=[.bool (decide (q.num<0)),pli (ae q.num.natAbs),.bool (decide ((q.den:Int)<0)),pli (ae (q.den:Int).natAbs)]
abbrev da(q:Rat):PV:=.agg (Rm q)
theorem vT(n:Int)(r: -9223372036854775808<=n)(t:n<=9223372036854775807):FnP prog 105 [.int .i64 n] (· =da (n:Rat)):=by
 refine FnP.ofC func105 O ntmps105 X2 λ_ _ _ _=>?_
 exact Z1 O<|Z1 O<|Rs O (aa call99 (ve n r t) O)<|Rs O (aa call99 (ve 1 XZ XZ) O)<|Y2 O<|Gt O<|⟨_,_,O,O,⟨au ⟨_,underlying126,O⟩ zV O O O,X5⟩,O⟩
theorem oM(x y:Int)(u:y≠0):
  (Rat.divInt x y).num=(if y<0 then-(x.tdiv (Int.gcd x y))else x.tdiv (Int.gcd x y))/\((Rat.divInt x y).den:Int)=(if y<0 then-(y.tdiv (Int.gcd x y))else y.tdiv (Int.gcd x y)):=by
 have t:(Int.gcd x y:Int)∣x:=Int.gcd_dvd_left x y;have r:(Int.gcd x y:Int)∣y:=Int.gcd_dvd_right x y;rw[Rat.num_divInt,Rat.den_divInt,pF u,Int.gcd_comm y x,Int.tdiv_eq_ediv_of_dvd t,Int.tdiv_eq_ediv_of_dvd r];by_cases h:y<0
 .rw[AT h,AT h,Int.sign_eq_neg_one_of_neg h];refine⟨by rw[Int.neg_mul,Int.one_mul,Int.neg_ediv_of_dvd t],?_⟩;rw[<-Int.neg_ediv_of_dvd r,Int.natCast_ediv,show((y.natAbs:Nat):Int)= -y by omega]
 grind
theorem PD{x y:Int}(r:y≠0)(h:(ae y.natAbs).length<=k):(ae ((Int.gcd x y:Nat):Int).natAbs).length<=k:=by
 refine AI (cA ?_) h;rw[Uz];exact Nat.le_of_dvd XX (Nat.gcd_dvd_right _ _)
theorem we{x y:Int}(r:y≠0):decide (y.tdiv (Int.gcd x y)<0)=decide (y<0):=by
 have t:=(oM x y r).2;have u:0<(Rat.divInt x y).den:=(Rat.divInt x y).den_pos;have:(y.tdiv (Int.gcd x y)<0)↔y<0:=by grind
 rw[UH,OC,OC];exact this
theorem wo(x y:Int)(V:(ae x.natAbs).length<=100000)(G:(ae y.natAbs).length<=100000):FnP prog 173 [lJ x,lJ y] (· =da (Rat.divInt x y)):=by
 refine FnP.ofC func173 O ntmps173 X2 λ_ _ _ _=>?_
 have r:=oM x y;have u:=@we x y;have E:∃q,q=Rat.divInt x y:=⟨_,O⟩;obtain⟨q,E⟩:=E;have U:y=0->q=((0:Int):Rat):=λe=>by rw[E,e,Rat.divInt_zero];rfl
 rw[<-E]at r ⊢;clear E;have A:=λP=>PD (x:=x) (y:=y) P G
 have B:y≠0->((Int.gcd x y:Nat):Int)≠0:=λP h=>P (by have:=Int.gcd_eq_zero_iff.1 (Int.ofNat_inj.1 h);exact this.2)
 have H:=xO x y V G;generalize ((Int.gcd x y:Nat):Int)=g at*;refine Z3 O<|Z4 O<|Gc O (λz=>?_) (λz=>?_)
 .have hy0:y=0:=by have:=bI.1 (show(ae y.natAbs).length=0 by have:=rD z;omega);omega
  exact Gr O<|Rs O (aa call105 (vT 0 XZ XZ) O)<|A1 O<|Gt O<|⟨_,_,O,O,⟨au ⟨_,underlying126,O⟩ zV O O O,X5⟩,by rw[U hy0];rfl⟩
 have hy0:y≠0:=λe=>by have:=lq z;rw[e]at this;simp[aX]at this
 have r:=r hy0;have u:=u hy0;have A:=A hy0;have B:=B hy0;have I:=xx x g XX A B;have J:=xx y g XX A B;have L:=wD (x.tdiv g);have M:=wD (y.tdiv g);generalize x.tdiv g=n at*;generalize y.tdiv g=d at*;refine TM<|Z2 O<|Rs O (aa call172 H O)<|Y2 O<|Z2 O<|Rs O (aa call234 I O)<|Ar 7 O<|Z2 O<|Rs O (aa call234 J O)<|Ar 7 O<|Z2 O<|Gc O (λt=>?_) (λt=>?_)
 .have hneg:y<0:=by rw[u]at t;simpa using t
  refine UB 6 O<|D1 O<|Ds [] O (λτ h=>aa call235 L (h.aE O)) O XY<|D1 O<|Ds [] O (λτ h=>aa call235 M (h.aE O)) O XY<|Dr 2 O ?_;refine⟨XY,?_⟩;refine Z4 O<|Gt O ?_;rw[AT hneg,AT hneg]at r;exact⟨_,_,O,O,⟨au ⟨_,underlying126,O⟩ zV O O O,X5⟩,by rw[da,Rm,r.1,r.2];rfl⟩
 have hneg:¬y<0:=by rw[u]at t;simpa using t
 refine TM<|Z4 O<|Gt O ?_;rw[pF hneg,pF hneg]at r;exact⟨_,_,O,O,⟨au ⟨_,underlying126,O⟩ zV O O O,X5⟩,by rw[da,Rm,r.1,r.2];rfl⟩
end
section
open Mk
def dU(n:Int):ByteArray:=⟨(Lib.itoa n).toArray⟩
theorem vE(n:Nat):eB (Lib.decDigits n)=n:=by
 induction n using Nat.strongRecOn with
 | ind n ih=>
   by_cases h:n<10
   .rw[Lib.decDigits,dif_pos h];simp[eB];omega
   rw[Lib.decDigits,dif_neg h,xV,ih _ XX];simp;omega
theorem mN(n:Nat):∀c∈Lib.decDigits n,kj c=VA:=by
 induction n using Nat.strongRecOn with
 | ind n ih=>
   intro c hc;have r:∀d,d<10->kj (UInt8.ofNat (48+d))=VA:=λd hd=>by simp[kj];omega
   by_cases h:n<10
   .rw[Lib.decDigits,dif_pos h,IT]at hc;rw[hc];exact r n h
   rw[Lib.decDigits,dif_neg h]at hc;rcases UN.1 hc with e|e
   .exact ih _ XX c e
   grind
theorem J4{a b:Nat}(h:Lib.decDigits a=Lib.decDigits b):a=b:=by rw[<-vE a,h,vE]
theorem NI(n:Nat):Lib.decDigits n≠[]:=by rw[Lib.decDigits];split<;>simp
theorem tX{a b:Int}(h:Lib.itoa a=Lib.itoa b):a=b:=by
 have r:∀(n:Nat)(l:List UInt8),Lib.decDigits n≠45::l:=λn l e=>by
  have:=mN n 45 (by rw[e];simp);cases this
 rw[T7,T7]at h;by_cases ha:a<0<;>by_cases hb:b<0
 .grind[J4,List.append_cancel_left]
 .grind
 .grind
 grind[J4,List.append_cancel_left]
theorem ux(d:Nat):((dU d).toList==yv.toList)=decide (d=1):=by
 rw[Lib.toList_data,Lib.toList_data,UH,VK,OC];have r:Lib.itoa ((1:Nat):Int)=[49]:=by rw[T7,pF XZ,Lib.decDigits,dif_pos XZ];rfl
 show Lib.itoa d=[49]↔_;rw[<-r];exact⟨λh=>by have:=tX h;omega,λh=>by rw[h]⟩
def Nx(q:Rat):Bool:=sk q.num.natAbs||sk q.den
def a6(q:Rat):ByteArray:=if q.den=1 then dU q.num else(dU q.num++⟨#[47]⟩)++dU q.den
theorem wI(n:Int)(h:sk n.natAbs=WA):(dU n).size<=401:=by
 rw[sk,Vt]at h;have r:(dU n).size=(Lib.itoa n).length:=by simp[dU,ByteArray.size]
 rw[r,T7,D8];have:(Lib.decDigits n.natAbs).length=lK n.natAbs:=rfl;split<;>simp<;>omega
theorem DE(q:Rat)(J:(ae q.num.natAbs).length<=1000000)(L:(ae q.den).length<=1000000):FnP prog 112 [da q] (· = .tup [.str (if Nx q=VA then⟨#[]⟩else a6 q),.int .i64 (if Nx q=VA then 3 else 0)]):=by
 refine FnP.of func112 O ntmps112 X2 λ_ _ _ _=>?_
 have G:=sv q.num J;have E:=sv (q.den:Int) (by rw[Uz];exact L);have H:=a6.eq_1 q;have hB:=Nx.eq_1 q;have I:=ux q.den;have A:=wI q.num;have z:=wI (q.den:Int);rw[Uz]at E z;rw[show(⟨(Lib.itoa q.num).toArray⟩:ByteArray)=dU q.num from O]at G;rw[show(⟨(Lib.itoa (q.den:Int)).toArray⟩:ByteArray)=dU q.den from O]at E;generalize a6 q=T at*;generalize Nx q=B at*;generalize dU q.num=tn at*;generalize dU (q.den:Int)=td at*;generalize sk q.num.natAbs=c1 at*;generalize sk q.den=c2 at*;refine Z3 O<|Z2 O<|Rs O (aa call177 G O)<|Ar 5 O<|Z2 O<|Rs O (aa call177 E O)<|Ar 5 O<|Z3 O ?_;apply TX 3 22 25 [23,24] O X8
 .intro hb2;exact Y3 O<|TQ X7 O O O
 .intro hb2;exact Y3 O<|TQ X7 O O O
 refine Gc O (λr=>?_) (λr=>?_)
 .have hB1:B=VA:=by rw[hB];cases c1<;>cases c2<;>simp at r ⊢
  exact Z2 O<|Gt O<|⟨_,_,O,O,by rw[AT hB1,AT hB1];rfl⟩
 have hc:c1=WA/\c2=WA:=by cases c1<;>cases c2<;>simp at r ⊢
 obtain⟨rfl,rfl⟩:=hc;have u:¬B=VA:=by rw[hB];decide
 have A:=A O;have z:=z O;refine TM<|Z1 O<|Rs O (XJ.cast (v':=.pv (.bool (decide (q.den=1)))) (cJ O O O) (ah (λb=>V.pv (.bool b)) I)) ?_;refine Gc O (λt=>?_) (λt=>?_)
 .exact Z3 O<|Gt O<|⟨_,_,O,O,by rw[pF u,pF u,H,AT (by simpa using t)];rfl⟩
 refine TM ?_;have M:(⟨#[47]⟩:ByteArray).size=1:=rfl;refine Z1 O<|Rs O (sI O O (by show tn.size+_<=_;omega)) ?_;refine A1 O<|Rs O (sI O O (by show(tn++_).size+td.size<=_;rw[WM];omega)) ?_;exact Y2 O<|Gt O<|⟨_,_,O,O,by rw[pF u,pF u,H,pF (by simpa using t)];rfl⟩
end
section
open Mk
theorem IC(h:Lib.indexByte s.data.toList 47=(i:Int)):gq s=s.extract 0 i/\jv s=s.extract (i+1) s.size/\bF s=VA:=by
 have e:Lib.index s.data.toList [47]=(i:Int):=by rw[Lib.index_one];exact h
 have hc:Lib.cut s.data.toList [47]=(s.data.toList.take i,s.data.toList.drop (i+1),VA):=by rw[Lib.cut,e,AT XX];rfl
 have r:(s.extract (i+1) s.size).data.toList=s.data.toList.drop (i+1):=Lib.extract_to_end s (i+1);refine⟨?_,?_,?_⟩
 .rw[gq,hc];apply ByteArray.ext;apply Array.ext';simp[List.extract_eq_take_drop]
 .rw[jv,hc];show(⟨(s.data.toList.drop (i+1)).toArray⟩:ByteArray)=_;rw[<-r]
 rw[bF,hc]
theorem tH(h:Lib.indexByte s.data.toList 47= -1):gq s=s/\bF s=WA:=by
 have e:Lib.index s.data.toList [47]= -1:=by rw[Lib.index_one];exact h
 have hc:Lib.cut s.data.toList [47]=(s.data.toList,[],WA):=by rw[Lib.cut,e,pF XX]
 exact⟨by rw[gq,hc],by rw[bF,hc]⟩
theorem Bz(t:k<l.length)(z:∀j,j<k->l.getD j 0≠47)(u:l.getD k 0=47):Lib.indexByte l 47=(k:Int):=by
 rw[<-Lib.index_one];have r:∀j,Lib.occAt l [47] j=(decide (j<l.length)&&(l.getD j 0==47)):=λj=>by
  rw[Lib.occAt];by_cases hj:j<l.length
  .rw[Us hj];simp[List.isPrefixOf,List.getD,hj,Bool.beq_comm]
  grind[Vf,List.isPrefixOf]
 refine Lib.index_first XX ?_ λj hj=>?_
 .rw[r,u];simp[t]
 grind
theorem Cv(h:∀j,j<l.length->l.getD j 0≠47):Lib.indexByte l 47= -1:=by
 rcases Int.lt_or_le (Lib.indexByte l 47) 0 with e|e
 .have:=Lib.indexByte_ge l 47;omega
 obtain⟨i,hi⟩:=tI e;have r:=(Lib.indexByte_some hi).1;obtain⟨hlt,h2⟩:=RE.1 r;exact absurd (by simp[List.getD,hlt,h2]) (h i hlt)
def k6(s:ByteArray):ByteArray:=if bF s=VA then jv s else yv
theorem u8_47(x:UInt8):(((x.toNat:Nat):Int)==47)=VA↔x=47:=by
 rw[VK];constructor
 .intro h;exact Xm.1 (show x.toNat=(47:UInt8).toNat from Int.ofNat_inj.1 h)
 .intro h;rw[h];rfl
theorem ql(s:ByteArray)(B:s.size<=1000000000):FnP prog 110 [.str s] (· = .tup [.str (gq s),.str (k6 s),.bool (bF s)]):=by
 refine FnP.of func110 O ntmps110 X2 λ_ _ _ _=>?_
 have A:s.size=s.data.toList.length:=Lib.size_eq s;refine Z3 O<|Z1 O<|Gz O (st:=λX6:Nat=>([(0,UG),(5,UF (pIi X6))],[])) 0
  (I:=λX6=>X6<=s.size/\∀j,j<X6->s.data.toList.getD j 0≠47) (μ:=λX6=>s.size-X6) (x0:=(0)) (TO (aS O) trivial O O) (⟨aJ _,λj hj=>absurd hj (VV _)⟩) ?_
 rintro k ⟨hk,hall⟩;refine Z4 O<|Gp O (λu=>?_) (λu=>?_)
 .have hlt:k<s.size:=XX;have z:=u8_47 (s.data.toList.getD k 0);have t:=fS s k hlt;refine TM<|Z2 O<|Rs O (bz k underlying9 O O O hlt)<|Rs O ((aD O O O).cast (v':=.pv (.bool ((((s.data.toList.getD k 0).toNat:Nat):Int)==47))) (by rw[t]))<|Gc O (λr=>?_) (λr=>?_)
  .have hc:=Bz XX hall (z.1 r);obtain⟨c1,c2,c3⟩:=IC hc;refine UB 10 O<|Dr 2 O<|Ds [] O (λτ h=>XJ.cast (v':=.pv (.str (gq s))) (dY (kl:=.i64) (kh:=.i64) (il:=0) (ih:=(k:Int)) UG (UF _) 0 k underlying9 (Ee h 0 O O) X2 (λ_=>rfl) (by rintro _ ⟨⟩;exact⟨(Ee h 1 O O),O⟩) X2 (aJ _) XX) (ah (λx=>V.pv (.str x)) c1.symm)) O XY ?_;refine Dr 3 O<|Ds [] O (λτ h=>XJ.cast (v':=.pv (.str (jv s))) (dY (kl:=.i64) (kh:=.i64) (il:=((k:Int)+1)) (ih:=0) (UF _) UG (k+1) s.size underlying9 (Ee h 0 O O) (by rintro _ ⟨⟩;exact⟨(Ee h 1 O O),XX⟩) X2 X2 (λ_=>rfl) XX (tJ _)) (ah (λx=>V.pv (.str x)) c2.symm)) O XY ?_;refine Dr 3 O ?_;refine⟨XY,?_⟩;exact Gt O<|⟨_,_,O,O,by rw[k6,c3];rfl⟩
  exact TM<|Z3 O<|⟨(k+1),TO (aS O) trivial O O,⟨XX,λj hj=>by rcases Vu.1 hj with h|rfl;exact hall j h;exact λe=>by have:=z.2 e;rw[r]at this;cases this⟩,XX⟩
 refine Gx O<|Z4 O<|Gt O ?_;have hc:=Cv (l:=s.data.toList) (λj hj=>hall j XX);obtain⟨c1,c2⟩:=tH hc;exact⟨_,_,O,O,by rw[k6,c1,c2];rfl⟩
theorem Lu(t:∀x∈c::l,kj x=VA)(u:c≠48):10^l.length<=eB (c::l):=by
 have hc:=t c X2;simp only[kj,dO,OC]at hc;have r:1<=c.toNat-48:=by
  have:c.toNat≠48:=λe=>u (Xm.1 e)
  omega
 have e:eB (c::l)=(c.toNat-48)*10^l.length+eB l:=by
  rw[eB,VO,wZ];simp
 rw[e];have:=Vk (10^l.length) r;omega
theorem qR(h:aQ d=VA):decide (rdZ d<=1)=(((d.toList==yv.toList)||(d.toList==uP.toList))||(((d.data.toList.getD 0 0).toNat:Int)==45)):=by
 have u:∀x y:ByteArray,(x.toList==y.toList)=(x.data.toList==y.data.toList):=λx y=>by rw[Lib.toList_data,Lib.toList_data]
 have r:=me d;rw[aQ,u,UW]at h;rw[u,u];rcases h with h|h
 .have h2:d.data.toList=[48]:=by simpa using h
  have B:rdZ d=0:=by rw[rdZ,az,gp,h2];decide
  rw[B,h2];rfl
 simp only[o0,dO,OC,IX,VM,bne_iff_ne]at h;obtain⟨⟨⟨hne,hle⟩,h0⟩,hd⟩:=h;cases hD:az d with
 |nil=>rw[hD]at hne;cases hne
 | cons c l=>
   rw[hD]at h0 hd;have J:=Lu hd (by simpa using h0);have E:1<=10^l.length:=Nat.pow_pos XZ;by_cases hng:gp d=VA
   .have z:rdZ d<=1:=by rw[rdZ,hng,hD];show-((eB (c::l):Nat):Int)<=1;omega
    rw[SR z];rw[hng]at r;have:=(dO _ _▸r.symm:_/\_).2;rw[this,XP]
   have hng:gp d=WA:=by simpa using hng
   have t:d.data.toList=c::l:=by rw[<-hD,az,Lib.trimPrefix,pF (by rw[gp]at hng;rw[hng];decide)]
   have z:rdZ d=(eB (c::l):Int):=by rw[rdZ,hng,hD];rfl
   have A:(((d.data.toList.getD 0 0).toNat:Int)==45)=WA:=by
    rw[hng]at r;have G:0<d.size:=by rw[Lib.size_eq,t];simp
    rw[SR G,WV]at r;exact r.symm
   rw[A,V2,z,t];have H:((c::l)==uP.data.toList)=WA:=by
    rw[VP];intro e;have:c=48:=by injection e
    exact absurd this (by simpa using h0)
   rw[H,V2,UH,OC,VK];constructor
   .intro hle1;have:l.length=0:=by grind[Ve,Vr]
    have I:l=[]:=UM this;subst I;have hc:=hd c X2;simp only[kj,dO,OC]at hc;have B:eB [c]=c.toNat-48:=by simp[eB]
    have L:c.toNat≠48:=λe=>absurd (Xm.1 e) (by simpa using h0)
    have:c.toNat=49:=XX;rw[Xm.1 (show c.toNat=(49:UInt8).toNat from this)];rfl
   .intro e;rw[e];decide
theorem nX(h:aQ d=VA):d.size<=401/\(1<rdZ d->d.size<=400):=by
 have r:=bK h;have u:d.size=d.data.toList.length:=Lib.size_eq d;by_cases hng:gp d=VA
 .have e:az d=d.data.toList.drop 1:=by rw[az,Lib.trimPrefix];rw[gp]at hng;rw[AT hng];rfl
  rw[e]at r;refine⟨by have:=r.2;simp at this;omega,λt=>?_⟩;rw[rdZ,hng]at t;simp[sgn]at t;omega
 have e:az d=d.data.toList:=by rw[az,Lib.trimPrefix];rw[gp]at hng;rw[pF hng]
 rw[e]at r;have:=r.2;exact⟨XX,λ_=>by omega⟩
theorem H7{d:ByteArray}(h:aQ d=VA):0<d.size:=by
 rcases Ve d.size with e|e
 .have h0:d.data.toList=[]:=UM (by have:=Lib.size_eq d;omega);rw[aQ,Lib.toList_data,Lib.toList_data,h0,o0,az,h0]at h;cases h
 exact e
theorem pB(s:ByteArray)(h:aQ (gq s)=WA\/aQ (k6 s)=WA):dA s=WA:=by grind[dA,bF,aQ,k6,iz,jv,Mg,gq]
theorem tg(s:ByteArray)(r:bF s=WA)(h:aQ (gq s)=VA):dA s=VA:=by
 rw[dA,r,h];rfl
theorem xb (s:ByteArray) (r:bF s=VA) (t:aQ (gq s)=VA) (u:aQ (k6 s)=VA):
  dA s= !(((((gq s).toList==uP.toList)||((k6 s).toList==yv.toList))||((k6 s).toList==uP.toList))||((((k6 s).data.toList.getD 0 0).toNat:Int)==45)|| !decide (Int.gcd (rdZ (gq s)) (rdZ (k6 s))=1)):=by grind[k6,jv,qR,dA,Mg,gq]
theorem MQ(s:ByteArray):s.size=(gq s).size+(if bF s=VA then 1+(jv s).size else 0):=by
 rcases Int.lt_or_le (Lib.indexByte s.data.toList 47) 0 with e|e
 .have:=Lib.indexByte_ge s.data.toList 47;obtain⟨c1,c2⟩:=tH (s:=s) XX;rw[c1,c2];simp
 obtain⟨i,hi⟩:=tI e;have r:=(Lib.indexByte_some hi).1;have t:=(RE.1 r).1;have u:=Lib.size_eq s;obtain⟨c1,c2,c3⟩:=IC (s:=s) hi;rw[c1,c2,c3,AT O];simp;omega
theorem xJ(s:ByteArray)(h:dA s=VA):s.size<=802:=by
 have hc:=MQ s;cases hs:bF s with
 | false=>
   have r:aQ (gq s)=VA:=by grind[aQ,gq,pB]
   have:=(nX r).1;rw[hs,pF XZ]at hc;omega
 | true=>
   have r:aQ (gq s)=VA:=by grind[aQ,gq,pB]
   have t:aQ (k6 s)=VA:=by grind[aQ,k6,pB]
   have A:=xb s hs r t;have B:=qR t;have u:k6 s=jv s:=by rw[k6,hs,AT O]
   rw[hs,AT O,<-u]at hc;have E:=(nX r).1;have z:1<rdZ (k6 s):=by grind
   have:=(nX t).2 z;omega
theorem zw(s:ByteArray)(hs:s.size<=1000000000):FnP prog 104 [.str s] (· = .tup [.str (if dA s=VA then gq s else⟨#[]⟩),.str (if dA s=VA then k6 s else⟨#[]⟩),.bool (dA s)]):=by
 refine FnP.of func104 O ntmps104 X2 λ_ _ _ _=>?_
 have J:=ql s hs;have f1:=xJ s;have f2:=pB s;have f3:=tg s;have f4:=xb s;have L:=qY (gq s);have M:=qY (k6 s);have A:=@bK (gq s);have B:=@bK (k6 s);have E:=@og (gq s);have G:=@og (k6 s);have P:=@H7 (k6 s);generalize dA s=v at*;generalize gq s=nu at*;generalize k6 s=de at*;generalize bF s=sb at*;refine Z3 O<|Z3 O<|Gp O (λI=>?_) (λI=>?_)
 .refine Z3 O<|Gt O ?_;have z:v=WA:=by cases z:v with|false=>rfl|true=>have:=f1 z;omega
  exact⟨_,_,O,O,by rw[z];rfl⟩
 refine TM<|Z1 O<|Rs O (aa call110 J O)<|Ar 7 O<|Z1 O<|Rs O (aa call171 L O)<|Y2 O ?_;apply TX 4 20 24 [21,22,23] O X8
 .intro hb3;exact Ar 4 O<|TQ X7 O O O
 .intro hb3;exact A1 O<|Rg O (aa call171 M O)<|Y2 O<|TQ X7 O O O
 refine Gc O (λr=>?_) (λr=>?_)
 .refine Z3 O<|Gt O ?_;have z:v=WA:=f2 (by cases h1:aQ nu with|false=>exact .inl rfl|true=>right;rw[h1]at r;simpa using r);exact⟨_,_,O,O,by rw[z];rfl⟩
 have hin:aQ nu=VA:=by simp only[UK]at r;simpa using r.1
 have u:aQ de=VA:=by simp only[UK]at r;simpa using r.2
 have Z:=P u;have U:=j6 nu (A hin).1 (by have:=(A hin).2;omega);have V:=j6 de (B u).1 (by have:=(B u).2;omega);have W:=xO (rdZ nu) (rdZ de) (by have:=E hin;omega) (by have:=G u;omega);have X:(ae ((Int.gcd (rdZ nu) (rdZ de):Nat):Int).natAbs).length<=1000000:=by
  rw[Uz];have h1:=E hin;have h2:=G u;by_cases h0:rdZ nu=0
  .rw[h0,Int.gcd_zero_left];omega
  exact AI (cA (Nat.le_of_dvd XX (Nat.gcd_dvd_left _ _))) XX
 have Y:=oi ((Int.gcd (rdZ nu) (rdZ de):Nat):Int) X;have H:((⟨(Lib.itoa ((Int.gcd (rdZ nu) (rdZ de):Nat):Int)).toArray⟩:ByteArray).toList==yv.toList)=decide (Int.gcd (rdZ nu) (rdZ de)=1):=ux _;refine TM ?_;by_cases hS:sb=VA
 .have hf:=f4 hS hin u;subst hS;refine Gr O<|Ar 5 O ?_;apply TX 3 29 32 [30,31] O X8
  .intro hb4;exact Y3 O<|TQ X7 O O O
  .intro hb4;exact Y3 O<|TQ X7 O O O
  refine A1 O ?_;apply TX 3 33 36 [34,35] O X8
  .intro hb8;exact Y3 O<|TQ X7 O O O
  .intro hb8;exact Y3 O<|TQ X7 O O O
  refine A1 O ?_;apply TX 4 37 41 [38,39,40] O X8
  .intro hb12;exact Ar 4 O<|TQ X7 O O O
  .intro hb12;exact A1 O<|Rg O (bz 0 underlying9 O O O Z)<|Rg O ((aD O O O).cast (v':=.pv (.bool ((((de.data.toList.getD 0 0).toNat:Nat):Int)==45))) (by rw[fS _ 0 Z]))<|A1 O<|TQ X7 O O O
  refine A1 O ?_;apply TX 8 42 50 [43,44,45,46,47,48,49] O X8
  .intro hb17;exact Ar 8 O<|TQ X7 O O O
  .intro hb17;exact A1 O<|Rg O (aa call111 U O)<|A1 O<|Rg O (aa call111 V O)<|Rg O (aa call172 W O)<|Rg O (aa call100 Y O)<|Y2 O<|TQ X7 O O O
  refine A1 O<|Gc O (λt=>?_) (λt=>?_)
  .refine Z3 O<|Gt O ?_;have z:v=WA:=by
    rw[hf,<-H];rw[Bool.not_eq_false'];exact t
   exact⟨_,_,O,O,by rw[z];rfl⟩
  refine TM<|Gr O<|Ar 5 O<|Gt O ?_;have z:v=VA:=by
   rw[hf,<-H];rw[VM];exact t
  exact⟨_,_,O,O,by rw[z];rfl⟩
 have hf:=f3 (by simpa using hS) hin;obtain rfl:sb=WA:=by simpa using hS
 refine Gr O<|Ar 27 O<|Gc O (λt=>absurd t X2) (λt=>?_);exact TM<|Gr O<|Ar 5 O<|Gt O<|⟨_,_,O,O,by rw[hf];rfl⟩
theorem Hu(s:ByteArray)(r:s.size<=1000000000):FnP prog 44 [.str s] (· = .bool (dA s)):=by
 refine FnP.of func44 O ntmps44 X2 λ_ _ _ _=>?_
 exact Z1 O<|Z1 O<|Rs O (aa call104 (zw s r) O)<|Ar 7 O<|Z2 O<|Gt O<|⟨_,_,O,O,O⟩
end
section
open Mk
def bd(l:List Trm):List PV:=l.flatMap uB
def bj(l:List Prr):List PV:=l.flatMap r7
theorem ni(l:List Trm):(bd l).length=l.length*3:=bL _ 3 (λ_=>rfl) l
theorem nj(l:List Prr):(bj l).length=l.length*5:=bL _ 5 (λ_=>rfl) l
theorem Qj{l:List Trm}(h:k<l.length):((bd l).drop (k*3)).take 3=uB l[k]:=cZ _ 3 (λ_=>rfl) l k h
theorem Qk{l:List Prr}(h:k<l.length):((bj l).drop (k*5)).take 5=r7 l[k]:=cZ _ 5 (λ_=>rfl) l k h
theorem TJ{l:List Trm}(h:k<l.length):bd l≠[]:=λe=>by have:=ni l;rw[e]at this;simp at this;omega
theorem RJ{l:List Prr}(h:k<l.length):bj l≠[]:=λe=>by have:=nj l;rw[e]at this;simp at this;omega
end
section
open Mk
theorem l7(n:Int):az (dU n)=Lib.decDigits n.natAbs/\gp (dU n)=decide (n<0):=by
 have e:(dU n).data.toList=(if n<0 then [45]else [])++Lib.decDigits n.natAbs:=T7 n;by_cases h:n<0
 .rw[AT h]at e;have r:Lib.hasPrefix (dU n).data.toList [45]=VA:=by rw[e];rfl
  refine⟨by rw[az,Lib.trimPrefix,AT r,e];rfl,by rw[gp,r,SR h]⟩
 rw[pF h,Vo]at e;have r:Lib.hasPrefix (dU n).data.toList [45]=WA:=by
  rw[e,Lib.hasPrefix];cases hd:Lib.decDigits n.natAbs with
  |nil=>rfl
  | cons c l=>
    have:=mN n.natAbs c (by rw[hd];simp);have hc:((45:UInt8)==c)=WA:=by
     rw[VP];intro e;rw[<-e]at this;cases this
    show((45:UInt8)==c&&List.isPrefixOf [] l)=WA;rw[hc];rfl
 refine⟨by rw[az,Lib.trimPrefix,pF (by rw[r];decide),e],by rw[gp,r,Up h]⟩
theorem kq(n:Int):rdZ (dU n)=n:=by
 rw[rdZ,(l7 n).1,(l7 n).2,vE];exact BQ n
theorem G0(h:n≠0):(Lib.decDigits n).getD 0 0≠48:=by
 induction n using Nat.strongRecOn with
 | ind n ih=>
   by_cases h2:n<10
   .rw[Lib.decDigits,dif_pos h2];intro e;have:=ah UInt8.toNat e;simp at this;omega
   rw[Lib.decDigits,dif_neg h2];have:=ih (n/10) XX XX;cases hd:Lib.decDigits (n/10)with
   |nil=>exact absurd hd (NI _)
   |cons c l=>rw[hd]at this;simpa using this
theorem jb(n:Int):aQ (dU n)= !sk n.natAbs:=by
 have r:=l7 n;by_cases h:n=0
 .grind[dU,mU,aQ,sk,cS]
 have hz:((dU n).toList==(⟨#[48]⟩:ByteArray).toList)=WA:=by
  rw[Lib.toList_data,Lib.toList_data,VP];intro e;exact h (tX (e.trans mU.symm))
 have t:(Lib.decDigits n.natAbs).isEmpty=WA:=by
  cases e:Lib.decDigits n.natAbs with
  |nil=>exact absurd e (NI _)
  |cons a l=>rfl
 have u:((Lib.decDigits n.natAbs).getD 0 0 !=48)=VA:=by
  rw[bne_iff_ne];exact G0 XX
 have z:(Lib.decDigits n.natAbs).all kj=VA:=IX.2 (mN _);rw[lr hz,o0,r.1,t,u,z,sk];rw[UH];simp[lK];exact⟨λh=>Up XX,λh=>by have:=VY h;omega⟩
theorem nA(n:Int):∀c∈(dU n).data.toList,c=45\/kj c=VA:=λc hc=>by
 have e:(dU n).data.toList=(if n<0 then [45]else [])++Lib.decDigits n.natAbs:=T7 n;rw[e]at hc;rcases UN.1 hc with h|h
 .grind
 exact .inr (mN _ c h)
theorem vy(h:c=45\/kj c=VA):c≠47:=by
 rcases h with rfl|h
 .decide
 .intro e;subst e;cases h
theorem rQ(h:∀c∈s.data.toList,c≠47):gq s=s/\bF s=WA/\jv s=⟨#[]⟩:=by
 have r:Lib.indexByte s.data.toList 47= -1:=Cv λj hj e=>h _ (ak hj) (by rw[Ur,BY hj]at e;exact e)
 obtain⟨c1,c2⟩:=tH r;refine⟨c1,c2,?_⟩;have e:Lib.index s.data.toList [47]= -1:=by rw[Lib.index_one];exact r
 rw[jv,Lib.cut,e];rfl
theorem qh{a b:ByteArray}(h:∀c∈a.data.toList,c≠47):gq ((a++⟨#[47]⟩)++b)=a/\bF ((a++⟨#[47]⟩)++b)=VA/\jv ((a++⟨#[47]⟩)++b)=b:=by
 have r:((a++(⟨#[47]⟩:ByteArray))++b).data.toList=a.data.toList++47::b.data.toList:=X2;have t:Lib.indexByte ((a++(⟨#[47]⟩:ByteArray))++b).data.toList 47=(a.data.toList.length:Int):=by
  rw[r];refine Bz X2 (λj hj e=>?_) (by simp[List.getD]);simp only[List.getD,List.getElem?_append_left hj,BY hj,Ww]at e;exact h _ (ak hj) e
 have e:Lib.index ((a++(⟨#[47]⟩:ByteArray))++b).data.toList [47]=(a.data.toList.length:Int):=by rw[Lib.index_one];exact t
 have hc:Lib.cut ((a++(⟨#[47]⟩:ByteArray))++b).data.toList [47]=(a.data.toList,b.data.toList,VA):=by
  rw[Lib.cut,e,AT XX,r];simp only[Ux,Prod.mk.injEq,and_true];refine⟨X2,?_⟩;rw[show([47]:List UInt8).length=1 from O,List.drop_append];simp
 exact⟨by rw[gq,hc],by rw[bF,hc],by rw[jv,hc]⟩
theorem rb(q:Rat)(h:Nx q=WA):dA (a6 q)=VA:=by
 rw[Nx,UK]at h;have u:aQ (dU q.num)=VA:=by rw[jb,h.1];rfl
 have z:aQ (dU (q.den:Int))=VA:=by rw[jb,Uz,h.2];rfl
 have r:∀c∈(dU q.num).data.toList,c≠47:=λc hc=>vy (nA _ c hc)
 by_cases h1:q.den=1
 .grind[a6,rQ,tg]
 rw[a6,pF h1];obtain⟨c1,c2,c3⟩:=qh (b:=dU (q.den:Int)) r;rw[dA,c2,c1,u,pF XZ,Mg,c1,c3,z,kq,kq];have A:((dU q.num).toList==uP.toList)=WA:=by
  rw[Lib.toList_data,Lib.toList_data,VP];intro e;have B:q.num=0:=tX (e.trans mU.symm);have:=Rat.num_eq_zero.1 B;rw[this]at h1;exact h1 O
 have E:=q.den_pos;rw[A,Up XX];have t:=q.reduced;simp only[Nat.Coprime]at t;simp[Int.gcd,t]
end
section
open Mk Jn
theorem qS(n:Nat)(L:n≠0)(M:n<1000000000)(P:(Lib.decDigits n).length<=1000):FnP prog 210 [fc (-(n:Int))] (· = .str ⟨(45::Lib.decDigits n).toArray⟩):=by
 refine FnP.of func210 O ntmps210 X2 λ_ _ _ _=>?_
 have H:decide (-(n:Int)<0)=VA:=SR XX;have t:=iX n XX;have r:=Jd n;have u:ae n=[n]:=by rw[ae,pF L,show n/1000000000=0 by omega,aX,Wx M]
 rw[show fc (-(n:Int))= .agg [.bool VA,.sl UG 1 (cz [n])] by show PV.agg [.bool (decide (-(n:Int)<0)),bU ((-(n:Int)).natAbs)]=_;rw[H,Int.natAbs_neg,Uz,bU,u];rfl];have z:(cz [n])[0]? =UF (.int .u64 (n:Int)):=rfl;generalize hD:Lib.decDigits n=D at*;have J:D≠[]:=λe=>by rw[e]at r;simp at r
 have A:=se ⟨#[45]⟩ XZ XZ;have B:=Gy [45] ⟨D.toArray⟩ X2 (show [(45:UInt8)].length+D.length<=1000000000 by simp;omega);have E:=yl (45::D) X2 X3;have G:(1:Int)>0:=XZ;refine Z2 O<|Z4 O<|Gc O (λhc=>absurd hc X2) (λhc=>?_);refine TM<|Z1 O<|TN (St.cV 1 1 2 1 5 O O O)<|Z2 O<|Gc O (λhc=>?_) (λhc=>absurd hc X2);refine Gr O<|Rs O (bl [1,2] 3 call207 A O O O O ⟨O,O,X5⟩ XZ O)<|Gr O<|Ar 5 O<|Gl O (st:=λb:Bool=>bif b then mkS [(1,.ptr 0 0),(3,.ptr 1 0),(4,pIi 0)] [(0,.mix 99 [.pv (.bool VA),.pv (.sl UG 1 (cz [n]))]),(1,.mix 301 [.ptr 1 0,.gsl 2 1 1]),(2,.gro 5 (aH [45]))] 3 else mkS [(1,.ptr 0 0),(3,.ptr 1 0),(4,pIi (-1))] [(0,.mix 99 [.pv (.bool VA),.pv (.sl UG 1 (cz [n]))]),(1,.mix 301 [.ptr 1 0,.gsl 2 1 (45::D).length]),(2,.gro 5 (aH (45::D)))] 3)
  (I:=λ_=>True) (μ:=λb=>bif b then 1 else 0) (x0:=VA) (TP [0,1,3] (aT O) (aP XY) O O XZ O) trivial ?_
 rintro(_|_) _
 .simp only[UZ];refine Z2 O<|Gp O (λhc=>absurd hc XZ) (λhc=>?_);exact Gx O<|Gr O<|Rs O (bl [1,2] 3 call208 E O O O O ⟨O,O,X5⟩ XZ O)<|A1 O<|Gt O<|⟨_,_,O,O,O⟩
 simp only[VG];refine Z2 O<|Gp O (λhc=>?_) (λhc=>absurd hc XZ);refine TM<|Z3 O<|Rs O (ag 0 underlying97 iH O O O XZ (by simp[cz]))<|Rs O (ar ⟨_,underlying262,O⟩ O z)<|Rs O (aa call209 t O)<|A1 O<|Gr O<|Ar 6 O<|Gp O (λhc=>absurd hc X2) (λhc=>?_);exact TM<|Z1 O<|Rs O (bl [1,2] 3 call207 B O O O O ⟨O,O,X5⟩ XZ O)<|Z3 O<|⟨WA,TP [0,1,3] (aT O) (aP XY) O O XZ O,X5,XZ⟩
theorem ir(h:n<1000000000):(Lib.decDigits n).length<=9:=uK XZ XX
theorem kD(n:Int):(dU n).size<=(Lib.decDigits n.natAbs).length+1:=by
 have r:(dU n).size=(Lib.itoa n).length:=by simp[dU,ByteArray.size]
 rw[r,T7,D8];split<;>simp<;>omega
theorem tj(z:Int)(r:z.natAbs<1000000000):FnP prog 210 [fc z] (· = .str (dU z)):=by
 have t:=ir r;by_cases h:z<0
 .have hs:=qS z.natAbs XX r XX;have e:dU z=⟨(45::Lib.decDigits z.natAbs).toArray⟩:=by rw[dU,T7,AT h];rfl
  rw[show-((z.natAbs:Nat):Int)=z by omega,<-e]at hs;exact hs
 grind[rW,dU,T7]
structure F1(q:Rat):Prop where
 n:q.num.natAbs<1000000000
 d:q.den<31622
theorem F1.ok(h:F1 q):FOk q:=⟨h.d,AI (Nc h.n) XZ⟩
theorem FH(q:Rat)(h:F1 q):FnP prog 141 [frP q] (· = .str (a6 q)):=by
 refine FnP.of func141 O ntmps141 X2 λ_ _ _ _=>?_
 have A:=iK q h.ok;have t:=tj q.num h.n;have u:=tj (q.den:Int) (by rw[Uz];have:=h.d;omega);have B:(dU q.num).size<=10:=by have:=kD q.num;have:=ir h.n;omega
 have E:(dU (q.den:Int)).size<=10:=by have G:=kD (q.den:Int);have H:=ir (n:=q.den) (by have:=h.d;omega);rw[Uz]at G;omega
 have z:((dU q.num)++⟨#[47]⟩:ByteArray).size=(dU q.num).size+1:=WM;refine Z2 O<|Z1 O<|Rs O (aa call164 A O)<|Gc O (λr=>?_) (λr=>?_)
 .have e:a6 q=dU q.num:=AT (by simpa using r);exact Z2 O<|Rs O (aa call210 t O)<|A1 O<|Gt O<|⟨_,_,O,O,by rw[e];rfl⟩
 have e:a6 q=(dU q.num++⟨#[47]⟩)++dU (q.den:Int):=pF (by simpa using r);refine TM<|UB 9 O<|Dr 2 O<|Ds [] O (λτ h=>aa call210 t (h.aE O)) O XY<|Ds [] O (λτ h=>sI (Ee h 0 O O) (Ee h 1 O O) (by show(dU q.num).size+1<=_;omega)) O XY ?_;refine Dr 2 O<|Ds [] O (λτ h=>aa call210 u (h.aE O)) O XY<|Ds [] O (λτ h=>sI (Ee h 0 O O) (Ee h 1 O O) (by rw[show((dU q.num)++⟨#[47]⟩:ByteArray).size=(dU q.num).size+1 from z];omega)) O XY ?_;refine D1 O ?_;refine⟨XY,?_⟩;exact Gt O<|⟨_,_,O,O,by rw[e];rfl⟩
theorem oY(z:Int)(B:z.natAbs<1000000000):FnP prog 140 [fc z] (· = .int .i64 ((Lib.decDigits z.natAbs).length:Nat)):=by
 refine FnP.of func140 O ntmps140 X2 λ_ _ _ _=>?_
 have t:=iX z.natAbs XX;have G:=ir B;by_cases h0:z.natAbs=0
 .have u:bU z.natAbs= .sl UG 0 []:=by rw[h0];exact wF
  have E:(Lib.decDigits z.natAbs).length=1:=by rw[h0];exact cS XZ
  rw[show fc z= .agg [.bool (decide (z<0)),.sl UG 0 []] by show PV.agg [.bool (decide (z<0)),bU z.natAbs]=_;rw[u]];refine Z2 O<|Z4 O<|Gc O (λr=>?_) (λr=>absurd r X2);exact Z1 O<|Gt O<|⟨_,_,O,O,by rw[E];rfl⟩
 have hlm:ae z.natAbs=[z.natAbs]:=eJ h0 B;have u:bU z.natAbs= .sl UG 1 [.int .u64 (z.natAbs:Int)]:=by rw[bU,hlm];rfl
 rw[show fc z= .agg [.bool (decide (z<0)),.sl UG 1 [.int .u64 (z.natAbs:Int)]] by show PV.agg [.bool (decide (z<0)),bU z.natAbs]=_;rw[u]];have A:(⟨(Lib.decDigits z.natAbs).toArray⟩:ByteArray).size=(Lib.decDigits z.natAbs).length:=by simp[ByteArray.size]
 generalize (Lib.decDigits z.natAbs)=D at*;refine Z2 O<|Z4 O<|Gc O (λr=>absurd r X2) (λr=>?_);exact TM<|Gr O<|Ar 5 O<|Gr O<|Ar 5 O<|Rs O (ag 0 underlying97 iH O O O XZ X2)<|Rs O (ar ⟨_,underlying262,O⟩ O O)<|Rs O (aa call209 t O)<|Y3 O<|Gt O<|⟨_,_,O,O,by rw[show(⟨D.toArray⟩:ByteArray).size=D.length from A];show PV.int .i64 (0+(D.length:Int))=_;rw[Int.zero_add]⟩
theorem DD(q:Rat)(h:F1 q):FnP prog 80 [frP q] (· = .tup [.str (a6 q),.int .i64 0]):=by
 refine FnP.of func80 O ntmps80 X2 λ_ _ _ _=>?_
 have t:=oY q.num h.n;have u:=oY (q.den:Int) (by rw[Uz];have:=h.d;omega);have z:=ir h.n;have A:=ir (n:=(q.den:Int).natAbs) (by rw[Uz];have:=h.d;omega);have B:=FH q h;have E:decide (((Lib.decDigits q.num.natAbs).length:Int)>400)=WA:=Up XX;have G:decide (((Lib.decDigits (q.den:Int).natAbs).length:Int)>400)=WA:=Up XX;refine Z3 O<|Z2 O<|Rs O (aa call140 t O)<|Rs O (T6 O O O E)<|Y3 O<|Rg O (aa call140 u O)<|Rg O (T6 O O O G)<|A1 O<|Gc O (λr=>absurd r X2) (λr=>?_);exact TM<|Z1 O<|Rs O (aa call141 B O)<|Y2 O<|Gt O<|⟨_,_,O,O,O⟩
structure QOk(s:ByteArray)(q:Rat):Prop where
 sz:s.size<4294967281
 n:aQ (gq s)=VA/\rdZ (gq s)=q.num
 d:if bF s=VA then aQ (jv s)=VA/\rdZ (jv s)=(q.den:Int)else q.den=1
theorem ik(s:ByteArray)(q:Rat)(h:QOk s q):FnP prog 97 [.str s] (· =frP q):=by
 refine FnP.ofC func97 O ntmps97 X2 λ_ _ _ _=>?_
 have u:=JW s ⟨#[47]⟩ h.sz;have A:=fx (gq s) (bK h.n.1).1 (by have:=(bK h.n.1).2;omega);rw[h.n.2]at A;have t:=h.d;refine Z1 O<|Z1 O<|Rs O (aa call168 u O)<|Ar 7 O<|Z2 O<|Gc O (λr=>?_) (λr=>?_)
 .have hs:bF s=WA:=by have B:(!bF s)=VA:=r;simpa using B
  rw[pF (by rw[hs];decide)]at t;have z:=fx yv (bK iz).1 (by have:=(bK iz).2;omega);rw[vu,show(1:Int)=((q.den:Nat):Int) by rw[t];rfl]at z;exact Z1 O<|Z1 O<|Rs O (aa call169 A O)<|A1 O<|Rs O (aa call169 z O)<|Y2 O<|Gt O<|⟨_,_,O,O,⟨au ⟨_,underlying101,O⟩ rU O O O,X5⟩,O⟩
 have hs:bF s=VA:=by have B:(!bF s)=WA:=r;simpa using B
 rw[AT hs]at t;have z:=fx (jv s) (bK t.1).1 (by have:=(bK t.1).2;omega);rw[t.2]at z;exact TM<|Z1 O<|Rs O (aa call169 A O)<|A1 O<|Rs O (aa call169 z O)<|Y2 O<|Gt O<|⟨_,_,O,O,⟨au ⟨_,underlying101,O⟩ rU O O O,X5⟩,O⟩
theorem jg(q:Rat)(h:F1 q):QOk (a6 q) q:=by
 have u:=ir h.n;have A:=ir (n:=q.den) (by have:=h.d;omega);have G:=kD q.num;have B:=kD (q.den:Int);rw[Uz]at B;have E:∀n:Nat,(Lib.decDigits n).length<=9->sk n=WA:=λn hn=>by grind[lK,sk]
 have r:aQ (dU q.num)=VA:=by rw[jb,E _ u];rfl
 have H:aQ (dU (q.den:Int))=VA:=by rw[jb,Uz,E _ A];rfl
 have t:∀z:Int,∀c∈(dU z).data.toList,c≠47:=λz c hc=>vy (nA _ c hc)
 by_cases hd:q.den=1
 .have e:a6 q=dU q.num:=AT hd;obtain⟨c1,c2,c3⟩:=rQ (t q.num);rw[e];refine⟨XX,by rw[c1];exact⟨r,kq _⟩,?_⟩;rw[c2,pF XZ];exact hd
 have e:a6 q=(dU q.num++⟨#[47]⟩)++dU (q.den:Int):=pF hd;obtain⟨c1,c2,c3⟩:=qh (a:=dU q.num) (b:=dU (q.den:Int)) (t q.num);rw[e];refine⟨?_,by rw[c1];exact⟨r,kq _⟩,?_⟩
 .rw[WM,WM];have:(⟨#[47]⟩:ByteArray).size=1:=rfl;omega
 grind[kq]
end
section
structure RSm(q:Rat):Prop where
 n:(ae q.num.natAbs).length<=1000
 d:(ae q.den).length<=1000
theorem ot(a b:Rat)(G:RSm a)(H:RSm b):FnP prog 107 [da a,da b] (· =da (a*b)):=by
 refine FnP.ofC func107 O ntmps107 X2 λ_ _ _ _=>?_
 have t:=G.n;have u:=H.n;have z:=G.d;have A:=H.d;have B:=fV a.num b.num XX XX;have E:=fV (a.den:Int) (b.den:Int) (by rw[Uz];omega) (by rw[Uz];omega);have I:=jF t u;have J:=jF z A;have r:=wo (a.num*b.num) ((a.den:Int)*(b.den:Int)) (by rw[Xs];omega) (by rw[<-VN,Uz];omega);have e:=IV a b;rw[VN]at e;rw[e]at r;refine Z3 O<|UB 12 O<|Dr 4 O<|Ds [] O (λτ h=>aa call174 B (h.aE O)) O XY<|Dr 4 O<|Ds [] O (λτ h=>aa call174 E (h.aE O)) O XY<|Ds [] O (λτ h=>aa call173 r (h.aE O)) O XY<|D1 O ?_;refine⟨XY,?_⟩;exact Gt O<|⟨_,_,O,O,⟨au ⟨_,underlying126,O⟩ zV O O O,X5⟩,O⟩
theorem EO(a b:Rat)(I:RSm a)(J:RSm b):FnP prog 106 [da a,da b] (· =da (a+b)):=by
 refine FnP.ofC func106 O ntmps106 X2 λ_ _ _ _=>?_
 have z:=I.n;have A:=J.n;have t:=I.d;have u:=J.d;have B:=fV a.num (b.den:Int) XX (by rw[Uz];omega);have E:=fV b.num (a.den:Int) XX (by rw[Uz];omega);have G:=fV (a.den:Int) (b.den:Int) (by rw[Uz];omega) (by rw[Uz];omega);have L:=jF z u;have M:=jF A t;have P:=jF t u;have g1:(ae (a.num*(b.den:Int)).natAbs).length<=2000:=by rw[Xs,Uz];omega
 have g2:(ae (b.num*(a.den:Int)).natAbs).length<=2000:=by rw[Xs,Uz];omega
 have H:=Ab (a.num*(b.den:Int)) (b.num*(a.den:Int)) XX XX;have U:(ae (a.num*(b.den:Int)+b.num*(a.den:Int)).natAbs).length<=2001:=AI (cA (Int.natAbs_add_le _ _)) (Ca g1 g2);have r:=wo (a.num*(b.den:Int)+b.num*(a.den:Int)) ((a.den:Int)*(b.den:Int)) XX (by rw[<-VN,Uz];omega);have e:=GF a b;rw[VN]at e;rw[e]at r;refine Z3 O<|UB 18 O<|Dr 4 O<|Ds [] O (λτ h=>aa call174 B (h.aE O)) O XY<|Dr 4 O<|Ds [] O (λτ h=>aa call174 E (h.aE O)) O XY<|Ds [] O (λτ h=>aa call175 H (h.aE O)) O XY<|Dr 4 O<|Ds [] O (λτ h=>aa call174 G (h.aE O)) O XY<|Ds [] O (λτ h=>aa call173 r (h.aE O)) O XY<|D1 O ?_;refine⟨XY,?_⟩;exact Gt O<|⟨_,_,O,O,⟨au ⟨_,underlying126,O⟩ zV O O O,X5⟩,O⟩
end
section
open Go.RowKit Mk Jn Mm
theorem Bf[BEq K][LawfulBEq K]{f:K->PV}(r:∀a b,keq (f a) (f b)=UF (a==b)){l:List (K×Rat)}(t:(l.map (·.1)).Nodup):Ai (ay f l):=by grind[Ai,ay]
theorem yc(f:K->PV)(l:List (K×Rat)):(ay f l).length=l.length:=by simp[ay]
def mcZ(m:MC):Bool:=(decide (m.c=0)&&decide (m.s.length=0))&&decide (m.p.length=0)
theorem Lw(m:MC)(A:(m.s.map (·.1)).Nodup)(B:(m.p.map (·.1)).Nodup):FnP prog 76 [mcP m] (· = .bool (mcZ m)):=by
 refine FnP.of func76 O ntmps76 X2 λ_ _ _ _=>?_
 have r:=fw m.c;have t:(m.c.num.sign==0)=decide (m.c=0):=iI;have u:=Bf cy A;have z:=Bf c6 B;have l1:(((ay bT m.s).length:Int)==0)=decide (m.s.length=0):=by rw[yc,UH,VK,OC];omega
 have l2:(((ay ppP m.p).length:Int)==0)=decide (m.p.length=0):=by rw[yc,UH,VK,OC];omega
 by_cases hc:m.c=0
 .rw[SR hc]at t;by_cases h1:m.s.length=0
  .rw[SR h1]at l1;exact Z2 O<|Z2 O<|Rs O (aa call136 r O)<|Rs O (T4 O O O t)<|Y3 O<|Rg O (rB underlying102 (.inr (.inl ⟨O,u⟩)))<|Rg O (T4 O O O l1)<|Ar 4 O<|Rg O (rB underlying103 (.inr (.inl ⟨O,z⟩)))<|Y3 O<|Gt O<|⟨_,_,O,O,ah PV.bool (by rw[mcZ,SR hc,SR h1];exact l2)⟩
  rw[Up h1]at l1;exact Z2 O<|Z2 O<|Rs O (aa call136 r O)<|Rs O (T4 O O O t)<|Y3 O<|Rg O (rB underlying102 (.inr (.inl ⟨O,u⟩)))<|Rg O (T6 O O O l1)<|Ar 8 O<|Gt O<|⟨_,_,O,O,ah PV.bool (by rw[mcZ,SR hc,Up h1];rfl)⟩
 rw[Up hc]at t;exact Z2 O<|Z2 O<|Rs O (aa call136 r O)<|Rs O (T6 O O O t)<|Ar 13 O<|Gt O<|⟨_,_,O,O,ah PV.bool (by rw[mcZ,Up hc];rfl)⟩
open Classical in
theorem R7{W:Nat}{x:Mm.Sem}(z:SOk W k x):FnP prog 76 [momP x] (· = .bool (decide (x=Mm.Sem.zero))):=by
 obtain⟨h1,h2,_,_⟩:=z.cn;have h:=Lw (cn x) h1.s.nd h1.p.nd;have e:mcZ (cn x)=decide (x=Mm.Sem.zero):=by
  rw[UH,OC];constructor
  .intro hz;simp only[mcZ,dO,OC]at hz;obtain⟨⟨h3,h4⟩,h5⟩:=hz;rw[<-h2];have r:=Xi.1 h4;have t:=Xi.1 h5;exact Sem.same h3 (λx=>by show lk _ _=_;rw[r];rfl) (λx y=>by show lk _ _=_;rw[t];rfl)
  rintro rfl;have u:cn Mm.Sem.zero=⟨((0:Nat):Int),[],[]⟩:=AY 0;rw[u];decide+kernel
 rw[e]at h;exact h
theorem Eg(f:Int×Int×Int)(a:Int):FnP prog 134 [.agg (zg f),.rp [.int .i64 a] 0] (· = .bool (f.1==a)):=by
 refine FnP.of func134 O ntmps134 X2 λ_ _ _ _=>?_
 refine Z2 O<|Z2 O ?_;first|refine A1 O ?_|refine A2 O X0 ?_
 exact Y2 O<|Gt O<|⟨_,_,O,O,O⟩
def Mu{α:Type}(p:α->Bool)(l:List α):Int:=match l.findIdx? p with|some i=>(i:Int)|none=> -1
theorem findIdx_take{α:Type}{l:List α}{p:α->Bool}(t:k<l.length)(h:(l.take k).any p=WA)(u:p l[k]=VA):l.findIdx? p=UF k:=by
 rw[V4];refine⟨t,u,λj hj=>?_⟩;have r:=Xy.1 h (l[j]'XX) (VF.2 ⟨j,XX,O⟩);simpa using r
theorem DH(l:List (Int×Int×Int))(g:FuncId)(caps:List PV)(p:Int×Int×Int->Bool)(E:l.length<=1000000)(hc:db prog g)(B:∀f∈l,FnP prog g ([]++[.agg (zg f)]++caps) (· = .bool (p f))):
  FnP prog 133 [.sl UG l.length (aL l),.fn (.func g) [] caps] (· = .int .i64 (Mu p l)):=by
 refine FnP.of func133 O ntmps133 X2 λ_ _ _ _=>?_
 refine Z1 O<|Z3 O<|Gz O (st:=λX6:Nat=>([(0,UG),(1,UG),(7,UG),(8,UF (pIi X6))],[])) 0
  (I:=λX6=>X6<=l.length/\(l.take X6).any p=WA) (μ:=λX6=>l.length-X6) (x0:=(0)) (TO (aS O) trivial O O) (⟨aJ _,O⟩) ?_
 rintro k ⟨hk,hno⟩;refine Z1 O<|Gp O (λz=>?_) (λz=>?_)
 .have hlt:k<l.length:=XX;have t:=nr hlt;have A:=pS hlt;have u:=B _ (ak hlt);refine TM<|Z2 O<|Z4 O<|Rs O (aF ⟨_,underlying150,O⟩ Ae O t O)<|Rs O (ja hc O u O)<|Gc O (λr=>?_) (λr=>?_)
  .exact Z2 O<|Gt O<|⟨_,_,O,O,by rw[Mu,findIdx_take hlt hno r];rfl⟩
  exact TM<|Z2 O<|⟨(k+1),TO (aS O) trivial O O,⟨XX,gA hlt hno r⟩,XX⟩
 exact Gx O<|Z1 O<|Gt O<|⟨_,_,O,O,by rw[aG XX]at hno;rw[Mu,List.findIdx?_eq_none_iff.2 (λx hx=>by have:=Xy.1 hno x hx;simpa using this)];rfl⟩
open Classical in
noncomputable def liftS(q:ByteArray->Rat)(S:Sch)(a:Int)(v:ByteArray):Mm.Sem:=
 if a=S.label then(if v=⟨#[]⟩then cnt (0:Nat)else lft ⟨-1,⟨#[]⟩⟩ (q v))
 else match S.feats.findIdx? (λf=>f.1==a)with
  |none=>cnt (1:Nat)
  |some i=>if(S.feats.getD i default).2.1=2 then lft ⟨i,v⟩ 1 else if v=⟨#[]⟩then(if(S.feats.getD i default).2.2=1 then cnt (0:Nat)else cnt (1:Nat))else lft ⟨i,⟨#[]⟩⟩ (q v)
structure VQ(q:ByteArray->Rat)(v:ByteArray):Prop where
 ok:QOk v (q v)
 i:eC 6 (q v)
 b:bp 3 (q v)
theorem Dq(v:ByteArray):(v.toList==(⟨#[]⟩:ByteArray).toList)=decide (v=⟨#[]⟩):=by
 rw[UH,OC,VK];exact⟨bytes_inj,λe=>by rw[e]⟩
theorem xK(q:ByteArray->Rat)(S:Sch)(a:Int)(v:ByteArray)(hl:S.feats.length<=1000000)(hq:v≠⟨#[]⟩->(a=S.label\/∃i,S.feats.findIdx? (λf=>f.1==a)=UF i/\(S.feats.getD i default).2.1≠2)->VQ q v):
  FnP prog 75 [gg S,.int .i64 a,.str v] (· =momP (liftS q S a v)):=by
 refine FnP.ofC func75 O ntmps75 X2 λ_ _ _ _=>?_
 have P:=DH S.feats 134 [.rp [.int .i64 a] 0] (λf=>f.1==a) hl call134 (λf _=>Eg f a);have U:=lV 0 XZ;have V:=lV 1 XZ;have Z:=pd 1 XZ XZ;have M:=Dq v;refine Z3 O<|TN (St.jC 1 O O)<|Z3 O<|Rs O (aa call133 P O)<|A1 O<|Gr O<|Ar 5 O ?_;apply TY 3 18 21 [19,20] O X8
 .intro hb4;exact Y3 O<|TQ X7 O O O
 .intro hb4;exact Y3 O<|TQ X7 O O O
 refine A1 O<|Gc O (λr=>?_) (λr=>?_)
 .have h21:a=S.label/\v=⟨#[]⟩:=by rw[M]at r;simpa using r
  have e:liftS q S a v=cnt (0:Nat):=by rw[liftS,AT h21.1,AT h21.2]
  exact Gr O<|Rs O (aa call35 U O)<|A1 O<|Gt O<|⟨_,_,O,O,⟨au ⟨_,underlying105,O⟩ kT O O O,X5⟩,by rw[e];rfl⟩
 have h21:¬ (a=S.label/\v=⟨#[]⟩):=λh=>by rw[M]at r;simp[h.1,h.2]at r
 refine Gr O<|Ar 5 O<|Gc O (λA=>?_) (λA=>?_)
 .have h27:a=S.label:=by simpa using A
  have hv:v≠⟨#[]⟩:=λh=>h21 ⟨h27,h⟩
  have I:=hq hv (.inl h27);have J:=ik v (q v) I.ok;have L:=Ho ⟨-1,⟨#[]⟩⟩ (q v) I.i I.b;have e:liftS q S a v=lft ⟨-1,⟨#[]⟩⟩ (q v):=by rw[liftS,AT h27,pF hv]
  exact Z2 O<|Rs O (aa call97 J O)<|Rs O (aa call135 L O)<|A1 O<|Gt O<|⟨_,_,O,O,⟨au ⟨_,underlying105,O⟩ kT O O O,X5⟩,by rw[e];rfl⟩
 have h27:¬a=S.label:=by simpa using A
 refine Z3 O<|Gp O (λB=>?_) (λB=>?_)
 .have h32:Mu (λf=>f.1==a) S.feats<0:=by simpa using B
  have H:S.feats.findIdx? (λf=>f.1==a)=UG:=by
   unfold Mu at h32;cases hx:S.feats.findIdx? (λf=>f.1==a)with
   |none=>rfl
   |some i=>rw[hx]at h32;simp only at h32;omega
  have e:liftS q S a v=cnt (1:Nat):=by rw[liftS,pF h27,H]
  exact Gr O<|Rs O (aa call35 V O)<|A1 O<|Gt O<|⟨_,_,O,O,⟨au ⟨_,underlying105,O⟩ kT O O O,X5⟩,by rw[e];rfl⟩
 have h32:¬Mu (λf=>f.1==a) S.feats<0:=by simpa using B
 obtain⟨i,H⟩:∃i,S.feats.findIdx? (λf=>f.1==a)=UF i:=by
  unfold Mu at h32;cases hx:S.feats.findIdx? (λf=>f.1==a)with
  |none=>rw[hx]at h32;simp only at h32;omega
  |some i=>exact⟨i,O⟩
 have ab:Mu (λf=>f.1==a) S.feats=(i:Int):=by rw[Mu,H]
 have u:i<S.feats.length:=(V4.1 H).1;have W:=nr u;have ac:=pS u;have z:S.feats.getD i default=S.feats[i]:=by simp[List.getD,u]
 have X:∀c,FnP prog 135 [bT ⟨(i:Int),c⟩,frP ((1:Int):Rat)] (· =momP (lft ⟨(i:Int),c⟩ 1)):=λc=>Ho ⟨i,c⟩ 1 (eC.ofInt 6 1) ⟨by decide+kernel,by decide+kernel⟩
 refine TM ?_;rw[ab];refine Z3 O<|Rs O (ag i underlying28 Ae O O O u ac)<|Rs O (aF ⟨_,underlying150,O⟩ Ae O W O)<|Y2 O<|Z4 O<|Gc O (λE=>?_) (λE=>?_)
 .have h41:S.feats[i].2.1=2:=by simpa using E
  have e:liftS q S a v=lft ⟨(i:Int),v⟩ 1:=by rw[liftS,pF h27,H];simp only;rw[z,AT h41]
  exact Z3 O<|Rs O (aa call90 Z O)<|Rs O (aa call135 (X v) O)<|A1 O<|Gt O<|⟨_,_,O,O,⟨au ⟨_,underlying105,O⟩ kT O O O,X5⟩,by rw[e];rfl⟩
 have h41:¬S.feats[i].2.1=2:=by simpa using E
 refine Z3 O ?_;apply TY 4 53 57 [54,55,56] O X8
 .intro hb2;exact Ar 4 O<|TQ X7 O O O
 .intro hb2;exact Ar 4 O<|TQ X7 O O O
 refine A1 O<|Gc O (λt=>?_) (λt=>?_)
 .have h50:v=⟨#[]⟩/\S.feats[i].2.2=1:=by rw[M]at t;simpa using t
  have e:liftS q S a v=cnt (0:Nat):=by rw[liftS,pF h27,H];simp only;rw[z,pF h41,AT h50.1,AT h50.2]
  exact Gr O<|Rs O (aa call35 U O)<|A1 O<|Gt O<|⟨_,_,O,O,⟨au ⟨_,underlying105,O⟩ kT O O O,X5⟩,by rw[e];rfl⟩
 have h50:¬ (v=⟨#[]⟩/\S.feats[i].2.2=1):=λh=>by rw[M]at t;simp[h.1,h.2]at t
 refine Z3 O<|Gc O (λG=>?_) (λG=>?_)
 .have h59:v=⟨#[]⟩:=by have Y:(v.toList==(⟨#[]⟩:ByteArray).toList)=VA:=G;rw[M]at Y;simpa using Y
  have e:liftS q S a v=cnt (1:Nat):=by rw[liftS,pF h27,H];simp only;rw[z,pF h41,AT h59,pF (λh=>h50 ⟨h59,h⟩)]
  exact Gr O<|Rs O (aa call35 V O)<|A1 O<|Gt O<|⟨_,_,O,O,⟨au ⟨_,underlying105,O⟩ kT O O O,X5⟩,by rw[e];rfl⟩
 have h59:¬v=⟨#[]⟩:=by have Y:(v.toList==(⟨#[]⟩:ByteArray).toList)=WA:=G;rw[M]at Y;simpa using Y
 have I:=hq h59 (.inr ⟨i,H,by rw[z];exact h41⟩);have J:=ik v (q v) I.ok;have L:=Ho ⟨i,⟨#[]⟩⟩ (q v) I.i I.b;have e:liftS q S a v=lft ⟨(i:Int),⟨#[]⟩⟩ (q v):=by rw[liftS,pF h27,H];simp only;rw[z,pF h41,pF h59]
 exact TM<|Z3 O<|Rs O (aa call97 J O)<|Rs O (aa call135 L O)<|A1 O<|Gt O<|⟨_,_,O,O,⟨au ⟨_,underlying105,O⟩ kT O O O,X5⟩,by rw[e];rfl⟩
end
section
open Go.RowKit Mk Jn Mm
def tmL(l:List (Par×Rat)):List Trm:=l.map λe=>⟨e.1,a6 e.2⟩
def prL(l:List (PP×Rat)):List Prr:=l.map λe=>⟨e.1.1,e.1.2,a6 e.2⟩
theorem gR(l:List (Par×Rat)):(tmL l).length=l.length:=by simp[tmL]
theorem gQ(l:List (PP×Rat)):(prL l).length=l.length:=by simp[prL]
theorem sB{l:List (Par×Rat)}(h:k<l.length):((bd (tmL l)).drop (k*3)).take 3=[.int .i64 l[k].1.f,.str l[k].1.c,.str (a6 l[k].2)]:=by
 rw[Qj (l:=tmL l) (by rw[gR];exact h)];simp[tmL]
theorem tu{l:List (PP×Rat)}(h:k<l.length):((bj (prL l)).drop (k*5)).take 5=[.int .i64 l[k].1.1.f,.str l[k].1.1.c,.int .i64 l[k].1.2.f,.str l[k].1.2.c,.str (a6 l[k].2)]:=by
 rw[Qk (l:=prL l) (by rw[gQ];exact h)];simp[prL]
theorem zk{l:List (Par×Rat)}(h:k<l.length):bd (tmL l)≠[]:=TJ (l:=tmL l) (by rw[gR];exact h)
theorem yY{l:List (PP×Rat)}(h:k<l.length):bj (prL l)≠[]:=RJ (l:=prL l) (by rw[gQ];exact h)
abbrev Mr(m:MC):List PV:=[.str (a6 m.c),.sl UG m.s.length (bd (tmL m.s)),.sl UG m.p.length (bj (prL m.p))]
abbrev kA(m:MC):PV:=.agg (Mr m)
structure MF1(m:MC):Prop where
 c:F1 m.c
 s:∀e∈m.s,F1 e.2
 p:∀e∈m.p,F1 e.2
 ls:m.s.length<=1000000
 lp:m.p.length<=1000000
section
variable {K:Type}[BEq K][LawfulBEq K]
theorem BN{l:List (K×Rat)}(r:(l.map (·.1)).Nodup)(t:i<l.length):wg (l.take i) l[i].1 l[i].2=l.take (i+1):=by grind[List.findIdx,VF.1,UY.1,wg,bH]
end
theorem Md(m:MC)(W:(m.s.map (·.1)).Nodup)(X:(m.p.map (·.1)).Nodup)(L:MF1 m):FnP prog 38 [kA m] (· =mcP m):=by
 refine FnP.ofC func38 O ntmps38 X2 λ_ _ _ _=>?_
 have M:=kW 0 XZ XZ;have P:=ik (a6 m.c) m.c (jg m.c L.c);have U:=L.ls;have V:=L.lp;refine Z2 O<|Gr O<|Rs O (bl [] 2 call35 M O O O O trivial XZ O)<|Y2 O<|Z2 O<|Rs O (aa call97 P O)<|Y2 O<|Z4 O<|Gz O (st:=λX6:Nat=>([(1,UG),(2,UG),(3,UG),(14,UG),(15,UG),(16,UF (pIi X6))],[(0,UG),(1,UG),(2,UF (.mp (ay bT (m.s.take X6)) (aV (m.s.take X6)))),(3,UG),(4,UG)])) 5
  (I:=λX6=>X6<=m.s.length) (μ:=λX6=>m.s.length-X6) (x0:=(0)) (TO (aS O) (aO XY) O O) (aJ _) ?_
 rintro i hi;refine Z1 O<|Gp O (λH=>?_) (λH=>?_)
 .have hlt:i<m.s.length:=XX;have u:=sB hlt;have B:=zk hlt;have E:=ik (a6 m.s[i].2) m.s[i].2 (jg _ (L.s _ (ak hlt)));have G:=BN W hlt;have z:=jZ cy (m.s.take i) m.s[i].1 m.s[i].2;have A:=j8 cy (m.s.take i) m.s[i].1 m.s[i].2;obtain⟨r,hr⟩:=nc cy (m.s.take i) m.s[i].1;rw[G]at z A;refine TM<|Gr O<|Rs O (ag i underlying44 kQ O O O hlt B)<|Rs O (aF ⟨_,underlying138,O⟩ kQ O u O)<|Y2 O<|UB 8 O<|Dr 6 O<|Ds [] O (λτ h=>aa call97 E (h.aE O)) O XY<|DL.step (d:=UG) [2] O O O (λτ h=>bu jq underlying102 (Ee h 0 O O) (Eo h 0 O O) (Ee h 1 O O) (Ee h 2 O O) ⟨m.s[i].1,O⟩ hr z A) O XY ?_;refine⟨XY,?_⟩;exact Z2 O<|⟨(i+1),TO (aS O) (aO XY) O O,hlt,XX⟩
 have hie:m.s.take i=m.s:=aG XX;rw[hie];refine Gx O<|Z4 O<|Gz O (st:=λt:Nat=>([(2,UG),(3,UG),(29,UG),(30,UG),(31,UF (pIi t))],[(1,UG),(2,UG),(3,UF (.mp (ay ppP (m.p.take t)) (aV (m.p.take t)))),(4,UG)])) 5
  (I:=λt=>t<=m.p.length) (μ:=λt=>m.p.length-t) (x0:=(0)) (TO (aS O) (aO XY) O O) (aJ _) ?_
 rintro j hj;refine Z1 O<|Gp O (λJ=>?_) (λJ=>?_)
 .have hlt:j<m.p.length:=XX;have u:=tu hlt;have B:=yY hlt;have E:=ik (a6 m.p[j].2) m.p[j].2 (jg _ (L.p _ (ak hlt)));have G:=BN X hlt;have z:=jZ c6 (m.p.take j) m.p[j].1 m.p[j].2;have A:=j8 c6 (m.p.take j) m.p[j].1 m.p[j].2;obtain⟨r,hr⟩:=nc c6 (m.p.take j) m.p[j].1;rw[G]at z A;refine TM<|Gr O<|Rs O (ag j underlying45 jU O O O hlt B)<|Rs O (aF ⟨_,underlying140,O⟩ jU O u O)<|Y2 O<|UB 11 O<|Dr 9 O<|Ds [] O (λτ h=>aa call97 E (h.aE O)) O XY<|DL.step (d:=UG) [3] O O O (λτ h=>bu tQ underlying103 (Ee h 0 O O) (Eo h 0 O O) (Ee h 1 O O) (Ee h 2 O O) ⟨m.p[j].1,O⟩ hr z A) O XY ?_;refine⟨XY,?_⟩;exact Z2 O<|⟨(j+1),TO (aS O) (aO XY) O O,hlt,XX⟩
 have hje:m.p.take j=m.p:=aG XX;rw[hje];exact Gx O<|Z2 O<|TN (St.cW (ks:=ay bT m.s) (vs:=aV m.s) 2 XY (RF _ _) (UX _))<|TN (St.cW (ks:=ay ppP m.p) (vs:=aV m.p) 3 XY (RF _ _) (UX _))<|Gt O<|⟨_,_,O,O,⟨au ⟨_,underlying105,O⟩ kT O O O,X5⟩,O⟩
end
section
open Go.RowKit Mk Mm
theorem Km(p q:Par):mO p q=(decide (p.f<q.f)||(p.f==q.f&&Op.bytesLess p.c.toList q.c.toList)):=by
 rw[mO,bX,orI];rcases Int.lt_trichotomy p.f q.f with h|h|h
 .grind[qi]
 .have e:qi p.f q.f=0:=by rw[qi,pF XX,pF XX]
  have r:(p.f==q.f)=VA:=by simpa using h
  have t:decide (p.f<q.f)=WA:=Up XX;rw[e,t,r,Bool.false_or,WV,uG];by_cases h1:Op.bytesLess p.c.toList q.c.toList=VA
  .rw[AT h1,h1];rfl
  grind
 grind[qi]
theorem iB(p q:Par):FnP prog 102 [bT p,bT q] (· = .bool (mO p q)):=by
 refine FnP.of func102 O ntmps102 X2 λ_ _ _ _=>?_
 have r:=Km p q;refine Z3 O ?_;by_cases hlt:p.f<q.f
 .exact Z4 O<|Rs O (T4 O O O (SR hlt))<|Ar 15 O<|Gt O<|⟨_,_,O,O,ah PV.bool (by rw[r,SR hlt];rfl)⟩
 refine Z4 O<|Rs O (T6 O O O (Up hlt))<|Ar 7 O ?_;apply TY 6 16 22 [17,18,19,20,21] O X8
 .intro hb11;exact Ar 6 O<|TQ X7 O O O
 .intro hb11;exact Ar 6 O<|TQ X7 O O O
 exact Y2 O<|Gt O<|⟨_,_,O,O,ah PV.bool (by rw[r,Up hlt,Bool.false_or])⟩
theorem S1(n:Int)(h:n.natAbs<1000000000):(∀c∈az (dU n),kj c=VA)/\(az (dU n)).length<=1000000:=by
 rw[(l7 n).1];exact⟨mN _,AI (ir h) XZ⟩
theorem pt(q:Rat)(h:F1 q):FnP prog 48 [.str (a6 q)] (· =da q):=by
 refine FnP.ofC func48 O ntmps48 X2 λ_ _ _ _=>?_
 have B:=S1 q.num h.n;have E:=S1 (q.den:Int) (by rw[Uz];have:=h.d;omega);have t:∀c∈(dU q.num).data.toList,c≠47:=λc hc=>vy (nA _ c hc)
 have r:gq (a6 q)=dU q.num/\k6 (a6 q)=dU (q.den:Int):=by
  unfold k6 a6;by_cases r:q.den=1
  .rw[AT r];obtain⟨c1,c2,_⟩:=rQ t;rw[c1,c2,r];exact⟨O,(pF XZ).trans (gG (by rw[ig];exact(ux 1).trans O)).symm⟩
  rw[pF r];obtain⟨c1,c2,c3⟩:=qh (b:=dU (q.den:Int)) t;rw[c1,c2,c3];exact⟨O,O⟩
 have G:(a6 q).size<=1000000000:=by
  have H:=kD q.num;have a2:=kD (q.den:Int);have a3:=ir h.n;have a4:=ir (n:=(q.den:Int).natAbs) (by rw[Uz];have:=h.d;omega);unfold a6;split
  .omega
  rw[WM,WM];have:(⟨#[47]⟩:ByteArray).size=1:=rfl;omega
 have u:=ql (a6 q) G;rw[r.1,r.2]at u;have z:=j6 (dU q.num) B.1 B.2;have A:=j6 (dU (q.den:Int)) E.1 E.2;rw[kq]at z A;exact Z1 O<|Z1 O<|Rs O (aa call110 u O)<|Ar 7 O<|Z1 O<|Rs O (aa call111 z O)<|A1 O<|Rs O (aa call111 A O)<|Y2 O<|Gt O<|⟨_,_,O,O,⟨au ⟨_,underlying126,O⟩ zV O O O,X5⟩,O⟩
theorem pV(q:Rat):FnP prog 113 [da q] (· = .bool (decide (q=0))):=by
 refine FnP.of func113 O ntmps113 X2 λ_ _ _ _=>?_
 have r:((((ae q.num.natAbs).length:Nat):Int)==0)=decide (q=0):=by
  rw[UH,VK,OC,<-Rat.num_eq_zero];by_cases h:q.num=0
  .rw[h];simp[aX]
  have:ae q.num.natAbs≠[]:=by rw[ae,pF XX];simp
  have:=U7.2 this;constructor
  .intro e;omega
  .intro e;exact absurd e h
 exact Z2 O<|Gr O<|Ar 6 O<|Gt O<|⟨_,_,O,O,ah PV.bool r⟩
theorem NF:∃i,prog.info? 136=UF i:=⟨_,O⟩
theorem NT:prog.cellsOf 136=2:=XY
theorem eqPA(k:Nat)(a b a' b':Int)(s t s' t':ByteArray)(w:World):(Op.equalIn (k+3) 221 (.agg #[.int .i64 a,.string s,.int .i64 a',.string s']) (.agg #[.int .i64 b,.string t,.int .i64 b',.string t'])).run prog w= .ok ((a==b&&s.toList==t.toList)&&(a'==b'&&s'.toList==t'.toList)) w:=by
 have r:=λw=>vF k a b s t w
 have u:=λw=>vF k a' b' s' t' w
 obtain⟨i,hi⟩:=NF;rw[run_equalIn_array w (k+2) _ _ underlying221 hi,NT];show(Op.eqItems (k+2) 136 2 _ _ [0,1]).run prog w=_;simp only[Op.eqItems]
 go_simp
 by_cases h1:a=b<;>by_cases r:s.toList=t.toList<;>by_cases h4:a'=b'<;>by_cases h5:s'.toList=t'.toList<;>simp[h1,r,h4,h5]
theorem ckPA(k:Nat)(e:Bool)(a b:Int)(s t:ByteArray)(w:World):(Instr.checkKey e (k+3) 221 (.agg #[.int .i64 a,.string s,.int .i64 b,.string t])).run prog w= .ok () w:=by
 have r:=underlying221;have u:=λa s w=>OE k e a s w
 obtain⟨i,hi⟩:=NF;have hc:=NT;unfold Instr.checkKey;simp only[Sem.run_bind,run_underlying r,Result.andThen];simp only[Std.Legacy.Range.forIn_eq_forIn_range',Std.Legacy.Range.size,Nat.sub_zero,Nat.add_one_sub_one,Nat.div_one,List.range',List.forIn_cons,List.forIn_nil,Sem.run_bind,run_sizeOf w hi,Result.andThen_ok,hc]
 go_simp
theorem QC:KeyOk prog 221 (λk=>∃x:PP,k=ppP x) where
 und:=⟨_,underlying221,λus y=>by cases y<;>rfl⟩
 check:=by
  rintro w R k u e ⟨p,rfl⟩ h;rw[th h];exact ckPA 9997 e _ _ _ _ w
 ask:=by
  rintro w R k x u y b ⟨p,rfl⟩ h1 h2 h3;obtain⟨q,rfl⟩:=B7 h3;rw[c6]at h3;cases h3;rw[th h1,th h2];exact eqPA 9997 p.1.f q.1.f p.2.f q.2.f p.1.c q.1.c p.2.c q.2.c w
 agg:=by rintro k ⟨p,rfl⟩;exact⟨_,O⟩
section
variable {K:Type}[BEq K][LawfulBEq K]
def br(l:List (K×Rat)):List PV:=l.map λe=>da e.2
omit [BEq K][LawfulBEq K] in
theorem lenR(f:K->PV)(l:List (K×Rat)):(ay f l).length=(br l).length:=by simp[ay,br]
omit [BEq K][LawfulBEq K] in
theorem pubR{f:K->PV}{l m:List (K×Rat)}(h:l.Perm m):((ay f l).zip (br l)).Perm ((ay f m).zip (br m)):=by
 have e:∀l:List (K×Rat),(ay f l).zip (br l)=l.map λe=>(f e.1,da e.2):=λl=>by
  induction l with
  |nil=>rfl
  |cons e l ih=>simp only[ay,br,cd,List.zip_cons_cons]at *; rw[ih]
 rw[e,e];exact h.map _
theorem eM{f:K->PV}(r:∀a b,keq (f a) (f b)=UF (a==b)){l:List (K×Rat)}{k:K}(h:k∉l.map (·.1)):cG (f k) (ay f l) 0=UF UG:=by
 rw[fb r,List.findIdx?_eq_none_iff.2 λe he=>?_]
 .rfl
 grind
theorem kE{f:K->PV}(r:∀a b,keq (f a) (f b)=UF (a==b)){l:List (K×Rat)}{k:K}(h:k∉l.map (·.1))(y:Rat):mS (f k) (ay f l)=ay f (l++[(k,y)]):=by
 unfold mS;rw[eM r h];simp[ay]
theorem kz{f:K->PV}(r:∀a b,keq (f a) (f b)=UF (a==b)){l:List (K×Rat)}{k:K}(h:k∉l.map (·.1))(y:Rat):T8 (f k) (da y) (ay f l) (br l)=br (l++[(k,y)]):=by
 unfold T8;rw[eM r h];simp[br]
theorem sJ{f:K->PV}(r:∀a b,keq (f a) (f b)=UF (a==b)){l:List (K×Rat)}{k:K}(h:k∉l.map (·.1)):jf (f k) (ay f l) (br l)=UF UG:=by
 unfold jf;rw[eM r h]
end
abbrev frcZ:PV:=.agg [.bool WA,.sl (UF VA) 0 [],.bool WA,.sl (UF VA) 0 []]
abbrev lg(c:Rat)(a b:Nat):List V:=[.pv (.bool (decide (c.num<0))),.pv (pli (ae c.num.natAbs)),.pv (.bool (decide ((c.den:Int)<0))),.pv (pli (ae (c.den:Int).natAbs)),.map a,.map b]
abbrev fullC(m:MC):List PV:=[.bool (decide (m.c.num<0)),pli (ae m.c.num.natAbs),.bool (decide ((m.c.den:Int)<0)),pli (ae (m.c.den:Int).natAbs),.mp (ay bT m.s) (br m.s),.mp (ay ppP m.p) (br m.p)]
abbrev Sm(m:MC):PV:=.agg (fullC m)
theorem pT(n:Int)(t: -9223372036854775808<=n)(u:n<=9223372036854775807):FnO prog 45 0 2 [pIi n] [] (λv ob'=>v= .agg (lg (n:Rat) 0 1)/\ob'=aA [(0,.mp [] []),(1,.mp [] [])]):=by
 refine FnO.ofC func45 O ntmps45 X2 λ_ _ _ _=>?_
 have r:=vT n t u;exact Z1 O<|Z1 O<|Rs O (aa call105 r O)<|Rs O (dK 1 O)<|Rs O (dK 2 O)<|Y2 O<|Gt O<|⟨[(2,.ptr 2 0)],[(0,.mp [] []),(1,.mp [] []),(2,.mix 130 (lg (n:Rat) 0 1))],[.agg (lg (n:Rat) 0 1)],[(0,.mp [] []),(1,.mp [] [])],3,TP [1,2,0] (aT O) (aP XY) O O XZ O,O,⟨au ⟨_,underlying130,O⟩ QF O O O,X5⟩,O,O,λi o h=>mM [(0,.mp [] []),(1,.mp [] [])] [(2,.mix 130 (lg (n:Rat) 0 1))] i o h,XZ,O,O⟩
theorem GX(c:Rat)(l:List (Par×Rat))(ps:List (PP×Rat))(k:Par)(x:Rat)(h:k∉l.map (·.1)):FnO prog 108 2 0 [.agg (lg c big 9001),.pv (bT k),.pv (da x)] [(big,.mp (ay bT l) (br l)),(9001,.mp (ay ppP ps) (br ps))]
  (λv ob'=>v= .tup []/\ob'=aA [(big,.mp (ay bT (l++[(k,x)])) (br (l++[(k,x)]))),(9001,.mp (ay ppP ps) (br ps))]):=by
 refine FnO.of func108 O ntmps108 X2 λ_ _ _ _=>?_
 have u:=sJ cy h;have B:=eM cy h;have z:=kE cy h x;have A:=kz cy h x;refine Z3 O<|Z3 O<|Rs O (fE (zp:=frcZ) (r:=UG) (b:=WA) jq underlying127 (.inl ⟨big,O,O⟩) O ⟨k,O⟩ JT O u O O)<|Ar 6 O<|Z1 O<|Gc O (λt=>absurd t X2) (λt=>?_);exact TM<|Z4 O<|RL.step (d:=UG) O O (bu jq underlying127 O O O O ⟨k,O⟩ B z A)<|⟨[],[(big,.mp (ay bT (l++[(k,x)])) (br (l++[(k,x)]))),(9001,.mp (ay ppP ps) (br ps))],[],TO trivial (aO XY) O O,O,O,O,O,O⟩
theorem vl(c:Rat)(s:List (Par×Rat))(l:List (PP×Rat))(p q:Par)(x:Rat)(H:mO q p=WA)(h:(p,q)∉l.map (·.1)):FnO prog 109 2 0 [.agg (lg c big 9001),.pv (bT p),.pv (bT q),.pv (da x)] [(big,.mp (ay bT s) (br s)),(9001,.mp (ay ppP l) (br l))]
  (λv ob'=>v= .tup []/\ob'=aA [(big,.mp (ay bT s) (br s)),(9001,.mp (ay ppP (l++[((p,q),x)])) (br (l++[((p,q),x)])))]):=by
 refine FnO.of func109 O ntmps109 X2 λ_ _ _ _=>?_
 have A:=sJ c6 h;have G:=eM c6 h;have B:=kE c6 h x;have E:=kz c6 h x;have z:=iB q p;rw[H]at z;refine Z4 O<|Z2 O<|Rs O (aa call102 z O)<|Gc O (λt=>absurd t X2) (λt=>?_);refine TM<|Gr O<|Ar 5 O<|Z3 O<|Rs O (fE (zp:=frcZ) (r:=UG) (b:=WA) QC underlying128 (.inl ⟨9001,O,O⟩) O ⟨(p,q),O⟩ JT O A O O)<|Ar 6 O<|Z1 O<|Gc O (λu=>absurd u X2) (λu=>?_);exact TM<|Z4 O<|RL.step (d:=UG) O O (bu QC underlying128 O O O O ⟨(p,q),O⟩ G B E)<|⟨[],[(big,.mp (ay bT s) (br s)),(9001,.mp (ay ppP (l++[((p,q),x)])) (br (l++[((p,q),x)])))],[],TO trivial (aO XY) O O,O,O,O,O,O⟩
end
section
open Go.RowKit Mk Mm
theorem tm{l:List (K×Rat)}(r:(l.map (·.1)).Nodup)(t:i<l.length):l[i].1∉(l.take i).map (·.1):=by grind[IS.1,VF.1,UY.1]
theorem yi(m:MC)(W:(m.s.map (·.1)).Nodup)(X:(m.p.map (·.1)).Nodup)(J:MF1 m):FnP prog 47 [kA m] (· =Sm m):=by
 refine FnP.ofC func47 O ntmps47 X2 λ_ _ _ _=>?_
 have L:=pT 0 XZ XZ;have M:=pt m.c J.c;have U:=J.ls;have V:=J.lp;refine Z2 O<|Gr O<|Rs O (bl [] 2 call45 L O O O O trivial XZ O)<|Y2 O<|Z2 O<|Rs O (aa call48 M O)<|Y2 O<|Z4 O<|Gz O (st:=λX6:Nat=>([(1,UG),(2,UG),(3,UG),(14,UG),(15,UG),(16,UF (pIi X6))],[(0,UG),(1,UG),(2,UF (.mp (ay bT (m.s.take X6)) (br (m.s.take X6)))),(3,UG),(4,UG)])) 5
  (I:=λX6=>X6<=m.s.length) (μ:=λX6=>m.s.length-X6) (x0:=(0)) (TO (aS O) (aO XY) O O) (aJ _) ?_
 rintro i hi;refine Z1 O<|Gp O (λG=>?_) (λG=>?_)
 .have hlt:i<m.s.length:=XX;have u:=sB hlt;have B:=zk hlt;have E:=pt m.s[i].2 (J.s _ (ak hlt));have r:=tm W hlt;have P:=eM cy r;have z:=kE cy r m.s[i].2;have A:=kz cy r m.s[i].2;rw[show m.s.take i++[(m.s[i].1,m.s[i].2)]=m.s.take (i+1)from(bH hlt).symm]at z A;refine TM<|Gr O<|Rs O (ag i underlying44 kQ O O O hlt B)<|Rs O (aF ⟨_,underlying138,O⟩ kQ O u O)<|Y2 O<|UB 8 O<|Dr 6 O<|Ds [] O (λτ h=>aa call48 E (h.aE O)) O XY<|DL.step (d:=UG) [2] O O O (λτ h=>bu jq underlying127 (Ee h 0 O O) (Eo h 0 O O) (Ee h 1 O O) (Ee h 2 O O) ⟨m.s[i].1,O⟩ P z A) O XY ?_;refine⟨XY,?_⟩;exact Z2 O<|⟨(i+1),TO (aS O) (aO XY) O O,hlt,XX⟩
 have hie:m.s.take i=m.s:=aG XX;rw[hie];refine Gx O<|Z4 O<|Gz O (st:=λt:Nat=>([(2,UG),(3,UG),(29,UG),(30,UG),(31,UF (pIi t))],[(1,UG),(2,UG),(3,UF (.mp (ay ppP (m.p.take t)) (br (m.p.take t)))),(4,UG)])) 5
  (I:=λt=>t<=m.p.length) (μ:=λt=>m.p.length-t) (x0:=(0)) (TO (aS O) (aO XY) O O) (aJ _) ?_
 rintro j hj;refine Z1 O<|Gp O (λH=>?_) (λH=>?_)
 .have hlt:j<m.p.length:=XX;have u:=tu hlt;have B:=yY hlt;have E:=pt m.p[j].2 (J.p _ (ak hlt));have r:=tm X hlt;have P:=eM c6 r;have z:=kE c6 r m.p[j].2;have A:=kz c6 r m.p[j].2;rw[show m.p.take j++[(m.p[j].1,m.p[j].2)]=m.p.take (j+1)from(bH hlt).symm]at z A;refine TM<|Gr O<|Rs O (ag j underlying45 jU O O O hlt B)<|Rs O (aF ⟨_,underlying140,O⟩ jU O u O)<|Y2 O<|UB 11 O<|Dr 9 O<|Ds [] O (λτ h=>aa call48 E (h.aE O)) O XY<|DL.step (d:=UG) [3] O O O (λτ h=>bu QC underlying128 (Ee h 0 O O) (Eo h 0 O O) (Ee h 1 O O) (Ee h 2 O O) ⟨m.p[j].1,O⟩ P z A) O XY ?_;refine⟨XY,?_⟩;exact Z2 O<|⟨(j+1),TO (aS O) (aO XY) O O,hlt,XX⟩
 have hje:m.p.take j=m.p:=aG XX;rw[hje];exact Gx O<|Z2 O<|TN (St.cW (ks:=ay bT m.s) (vs:=br m.s) 2 XY (lenR _ _) (UX _))<|TN (St.cW (ks:=ay ppP m.p) (vs:=br m.p) 3 XY (lenR _ _) (UX _))<|Gt O<|⟨_,_,O,O,⟨au ⟨_,underlying130,O⟩ QF O O O,X5⟩,O⟩
structure ScI{K:Type}(w:List (K×Rat))(q:Rat)(todo acc:List (K×Rat)):Prop where
 ex:∃d,(d++todo).Perm w/\acc=d.map λe=>(e.1,e.2*q)
section
variable {K:Type}{w l1 l2 todo acc:List (K×Rat)}{q:Rat}{e:K×Rat}
theorem ScI.start:ScI w q w []:=⟨[],UX _,O⟩
theorem ScI.mem(h:ScI w q todo acc)(r:e∈todo):e∈w:=by
 obtain⟨d,h1,_⟩:=h.ex;exact h1.subset (by simp[r])
theorem ScI.fresh(h:ScI w q (l1++e::l2) acc)(t:(w.map (·.1)).Nodup):e.1∉acc.map (·.1):=by
 obtain⟨d,h1,rfl⟩:=h.ex;have r:=(h1.map (·.1)).nodup_iff.2 t;rw[UO,Wi]at r;intro h3;rw[Vb]at h3;exact r.2.2 e.1 h3 e.1 X2 O
theorem ScI.step(h:ScI w q (l1++e::l2) acc):ScI w q (l1++l2) (acc++[(e.1,e.2*q)]):=by
 obtain⟨d,h1,rfl⟩:=h.ex;refine⟨d++[e],?_,X2⟩;refine List.Perm.trans ?_ h1;rw[WH];exact List.Perm.append_left d (Xq (l₁:=l1)).symm
theorem ScI.end(h:ScI w q [] acc):acc.Perm (w.map λe=>(e.1,e.2*q)):=by
 obtain⟨d,h1,rfl⟩:=h.ex;rw[Vg]at h1;exact h1.map _
theorem eQ.ofR{f:K->PV}{l:List (K×Rat)}{cur:List PV}{b:Bool}{rest cur' ks' vs':List PV}(h:eQ cur (ay f l) (br l) b rest cur' ks' vs'):
  (b=WA/\l=[]/\rest=[]/\cur'=cur/\ks'=ay f l/\vs'=br l)\/(b=VA/\∃(l1:List (K×Rat))(e:K×Rat)(l2:List (K×Rat)),l=l1++e::l2/\rest=[f e.1,da e.2]/\cur'=[f e.1,da e.2]/\ks'=ay f (l1++l2)/\vs'=br (l1++l2)):=
 eQ.of (α:=K×Rat) (f:=λe=>f e.1) (g:=λe=>da e.2) h
end
theorem F1.rsm(h:F1 q):RSm q:=⟨AI (Nc h.n) XZ,AI (Nc (Xp h.d XZ)) XZ⟩
section
variable {C:Ctx}{n:Nat}{σ:St}{x y:Operand}{dst:Option Tmp}{ty:TypeId}{pos:String}{after:Array Edge}{gd:Option (Nat×Bool)}
theorem wL{P:Program}{s:Nat}{i:Int}(r:P.underlying T=UF (.array k e))(t:bR P e s)(u:i=(j:Int))(z:j<k)(w:World)(b off:Nat):
  (Instr.indexAt T (.pointer (UF ⟨b,off,UG⟩)) (.int kk i)).run P w= .ok (.pointer (UF ⟨b,off+j*s,UG⟩)) w:=by
 subst u;have A:((j:Int))<(k:Int):=XX;simp[Instr.indexAt,asIntOf,run_underlying r,t.run,z,Addr.add_lit,Instr.sureAddr]
theorem fr{s off:Nat}{i:Int}{ob:Ob}(j:Nat)(z:C.P.underlying T=UF (.array k e))(A:bR C.P e s)(u:σ.ev n x= .ptr id off)(B:σ.ob id=UF ob)(E:σ.ev n y= .pv (.int kk i))(G:i=(j:Int))(H:j<k)(t:ob.real=VA:=by rfl):
  XJ C n ⟨dst,.indexAddr T x y,ty,pos,after,gd⟩ σ ⟨.ptr id (off+j*s),[],[]⟩:=
 .val λa w m R hw=>by
  obtain⟨b,N,he,hm,_⟩:=hw.ptr u B t;have r:=hw.ev x;rw[u]at r;simp only[Rel]at r;refine⟨_,by simp only[execOp,he,hw.int E,Sem.run_bind,wL z A G H,Result.andThen_ok];rfl,?_⟩;simp only[Rel];exact⟨r.1,λb' N' e=>by rw[hm]at e;cases e;rfl⟩
end
theorem G7(w:MC)(k:Rat)(V:(w.s.map (·.1)).Nodup)(W:(w.p.map (·.1)).Nodup)(L:∀e∈w.p,mO e.1.2 e.1.1=WA)(M:MF1 w)(P:RSm k)(U:RSm (w.c*k)):
  FnO prog 46 2 0 [.agg (lg ((0:Int):Rat) big 9001),.pv (Sm w),.pv (da k)] [(big,.mp [] []),(9001,.mp [] [])]
   (λr ob'=>∃s' p',s'.Perm (w.s.map λe=>(e.1,e.2*k))/\p'.Perm (w.p.map λe=>(e.1,e.2*k))/\r= .agg (lg (w.c*k) big 9001)/\ob'=aA [(big,.mp (ay bT s') (br s')),(9001,.mp (ay ppP p') (br p'))]):=by
 refine FnO.ofC func46 O ntmps46 X2 λ_ _ _ _=>?_
 have H:=ot w.c k M.c.rsm P;have G:=EO ((0:Int):Rat) (w.c*k) (by rw[mr];exact⟨by decide+kernel,by decide+kernel⟩) U;rw[show((0:Int):Rat)+w.c*k=w.c*k by rw[mr];grind]at G;refine Z4 O<|UB 9 O<|Dr 5 O<|Ds [] O (λτ h=>aa call107 H (h.aE O)) O XY<|Ds [] O (λτ h=>aa call106 G (h.aE O)) O XY<|Dr 2 O ?_;refine⟨XY,?_⟩;refine Z2 O<|Rs O (eu 4 underlying127 O O)<|Gz O (st:=λX6:List (Par×Rat)×List (Par×Rat)×List PV=>([(3,UG),(4,UG),(5,UG),(6,UG),(21,UG)],[(big,UF (.mp (ay bT X6.2.1) (br X6.2.1))),(0,UG),(1,UG),(2,UG),(3,UG),(4,UF (.mi X6.2.2 (ay bT X6.1) (br X6.1))),(9001,UG)])) 5
  (I:=λX6=>ScI w.s k X6.1 X6.2.1) (μ:=λX6=>X6.1.length) (x0:=(w.s,[],[])) (TO (aS O) (aO XY) O O) (ScI.start) ?_
 rintro⟨todo,acc,cur⟩ hI;try simp only at hI ⊢
 refine Gr O<|RL.call O (fq O O ?_);rintro b rest cur2 ks2 vs2 hN;refine Rs O (cF O O)<|Gc O (λu=>?_) (λu=>?_)
 .obtain⟨_,l1,e,l2,rfl,rfl,rfl,rfl,rfl⟩:=(eQ.ofR hN).resolve_left (by rintro⟨h,_⟩;rw[h]at u;cases u);have A:=hI.mem (e:=e) X2;have B:=ot e.2 k (M.s e A).rsm P;have E:=GX (w.c*k) acc [] e.1 (e.2*k) (hI.fresh V);refine TM<|Gr O<|Rs O (er O O)<|Ar 6 O<|UB 6 O<|Dr 4 O<|Ds [] O (λτ h=>aa call107 B (h.aE O)) O XY<|Ds [big,9001] O (λτ h=>bl [big,9001] 7 call108 E (h.args.trans O) O O O ⟨(Eo h 0 O O),(Eo h 1 O O),X5⟩ XZ O) O XY ?_;refine⟨XY,?_⟩;exact⟨(l1++l2,acc++[(e.1,e.2*k)],[bT e.1,da e.2]),TO (aS O) (aO XY) O O,hI.step,X2⟩
 obtain⟨_,rfl,_⟩:=(eQ.ofR hN).resolve_right (by rintro⟨h,_⟩;rw[h]at u;cases u);have J:=hI.end;refine Gx O<|Z2 O<|Rs O (eu 5 underlying128 O O)<|Gz O (st:=λt:List (PP×Rat)×List (PP×Rat)×List PV=>([(3,UG),(5,UG),(6,UG),(35,UG)],[(big,UG),(0,UG),(2,UG),(3,UG),(5,UF (.mi t.2.2 (ay ppP t.1) (br t.1))),(9001,UF (.mp (ay ppP t.2.1) (br t.2.1)))])) 6
  (I:=λt=>ScI w.p k t.1 t.2.1) (μ:=λt=>t.1.length) (x0:=(w.p,[],[])) (TO (aS O) (aO XY) O O) (ScI.start) ?_
 rintro⟨todo2,acc2,cur3⟩ hI2;try simp only at hI2 ⊢
 refine Gr O<|RL.call O (fq O O ?_);rintro b2 rest2 cur4 ks4 vs4 hN2;refine Rs O (cF O O)<|Gc O (λz=>?_) (λz=>?_)
 .obtain⟨_,l1,e,l2,rfl,rfl,rfl,rfl,rfl⟩:=(eQ.ofR hN2).resolve_left (by rintro⟨h,_⟩;rw[h]at z;cases z);have A:=hI2.mem (e:=e) X2;have B:=ot e.2 k (M.p e A).rsm P;have E:=vl (w.c*k) acc acc2 e.1.1 e.1.2 (e.2*k) (L e A) (hI2.fresh W);refine TM<|Gr O<|Rs O (er O O)<|Ar 6 O<|UB 9 O<|D1 O<|Ds [6] O (λτ h=>fr 0 underlying221 o7 (Ee h 0 O O) (Eo h 0 O O) O O XZ) O XY ?_;first|refine D3 O O X0 ?_|refine D1 O ?_
  refine Ds [6] O (λτ h=>fr 1 underlying221 o7 (Ee h 0 O O) (Eo h 0 O O) O O XZ) O XY ?_;first|refine D3 O O X0 ?_|refine D1 O ?_
  refine Dr 2 O<|Ds [] O (λτ h=>aa call107 B (h.aE O)) O XY<|Ds [big,9001] O (λτ h=>bl [big,9001] 8 call109 E (h.args.trans O) O O O ⟨(Eo h 0 O O),(Eo h 1 O O),X5⟩ XZ O) O XY ?_;refine⟨XY,?_⟩;exact⟨(l1++l2,acc2++[(e.1,e.2*k)],[ppP e.1,da e.2]),TO (aS O) (aO XY) O O,hI2.step,X2⟩
 obtain⟨_,rfl,_⟩:=(eQ.ofR hN2).resolve_right (by rintro⟨h,_⟩;rw[h]at z;cases z);exact Gx O<|Z2 O<|Gt O<|⟨[(6,.ptr 0 0)],[(big,.mp (ay bT acc) (br acc)),(9001,.mp (ay ppP acc2) (br acc2)),(0,.mix 130 (lg (w.c*k) big 9001))],[.agg (lg (w.c*k) big 9001)],[(big,.mp (ay bT acc) (br acc)),(9001,.mp (ay ppP acc2) (br acc2))],1,TP [3] (aT XY) (aP XY) O O XZ O,O,⟨au ⟨_,underlying130,O⟩ QF O O O,X5⟩,O,O,λi o h=>mM [(big,.mp (ay bT acc) (br acc)),(9001,.mp (ay ppP acc2) (br acc2))] [(0,.mix 130 (lg (w.c*k) big 9001))] i o h,XZ,acc,acc2,J,hI2.end,O,O⟩
end
def St.gsC(σ:St)(pid j id sz k:Nat)(T T':TypeId)(cs:List PV)(vs:List V):St:=⟨σ.sl,obL [(pid,UF (.mix T' (vs.set j (.gsl id sz k)))),(id,UF (.gro T cs))] σ.ob,σ.av⟩
theorem St.Bh{σ:St}{T':TypeId}{cs:List PV}{vs:List V}(pid j:Nat)(z:σ.ob pid=UF (.mix T' vs))(A:vs[j]? =UF (.osl id sz k))(t:σ.ob id=UF (.cells T cs))(B:0<k)(hc:cs≠[]):σ.le (σ.gsC pid j id sz k T T' cs vs):=
 St.Uc λr=>⟨r.sl,λp hp=>by
  rcases By.1 hp with rfl|hp
  .refine⟨_,_,z,O,O,λb N _ ⟨arr,q1,q2,q3,q4⟩=>⟨arr,q1,q2,by rw[Ut];exact q3,?_⟩⟩;rw[Ut];refine RelL.setG j q4 A λu hu=>?_
   simp only[Rel]at hu ⊢;obtain⟨b2,N2,hm,_⟩:=r.live t;obtain⟨h0,h3⟩:=hu;obtain⟨c,he,h4,h5,h6⟩:=h3 b2 N2 hm;exact⟨h0,_,c,he,h4,h5,λe=>by omega,λ_ b' N' hm'=>by rw[hm]at hm';cases hm';exact⟨O,h6⟩⟩
  obtain rfl:=IT.1 hp;exact⟨_,_,t,O,cY hc,λ_ _ _ h=>h⟩⟩
def St.nilC(σ:St)(pid j:Nat)(T':TypeId)(vs:List V):St:=⟨σ.sl,obL [(pid,UF (.mix T' (vs.set j (.pv nS))))] σ.ob,σ.av⟩
theorem St.JM{σ:St}{T':TypeId}{vs:List V}(pid j:Nat)(t:σ.ob pid=UF (.mix T' vs))(z:vs[j]? =UF (.gsl id sz 0)):σ.le (σ.nilC pid j T' vs):=
 St.Uc λr=>⟨r.sl,λp hp=>by
  obtain rfl:=IT.1 hp;refine⟨_,_,t,O,O,λb N _ ⟨arr,q1,q2,q3,q4⟩=>⟨arr,q1,q2,by rw[Ut];exact q3,?_⟩⟩;rw[Ut];refine RelL.setG j q4 z λu hu=>?_
  simp only[Rel,RelP]at hu ⊢;obtain⟨_,A,c,he,h1,h2,h3,_⟩:=hu;obtain⟨rfl,rfl,_⟩:=h3 trivial;exact⟨UG,0,he,h1,h2,(λ_ e=>by cases e;rfl),(λ_=>rfl),λe=>absurd O e⟩⟩
end Go.Proofs.YtameambcolibjaaGreatDoor
