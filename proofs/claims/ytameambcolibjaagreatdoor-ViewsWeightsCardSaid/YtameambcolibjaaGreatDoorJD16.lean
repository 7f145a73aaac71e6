/- Lemmas. No condition. -/
import Derived.Handed
import Derived.LaidMore
import Derived.LaidLaws
import Derived.LaidHandle
import Derived.MakeChecks
import Derived.Lib.LaidTab
import Derived.Deep.Slices
import Derived.ChangeArms
import Derived.OpenShut
import Derived.Test.YtameambcolibjaaGreatDoorJD15
set_option maxRecDepth 100000
set_option maxHeartbeats 4000000
open Go.RowKit Go.Proofs.Tryz
open Option renaming some→UF,none→UG
open Bool renaming true→VA,false→WA
namespace Go.Proofs.YtameambcolibjaaGreatDoor
variable{v r h k m a n j i g:Nat}{K α:Type}{P l:List Int}{x:Int}{W w:World}{S:Sch}{R:Nat->Prop}
section
open Go.RowKit Mk Jn Mm Vw
namespace Vw
section
variable {S:Sch}{P:List Int}{T:List (List Rw)}{lf:Int->ByteArray->Gv}
theorem Jp(q:UpOk P)(s:v<P.length)(A:r<S.rels.length)(z:je P S.rels[r].2=(h:Int))(B:h<P.length):(r:Int)∈qg S P P.length v↔(h:Int)∈dL P (v:Int):=by
 constructor
 .intro hm;obtain⟨u,hu,h1⟩:=yj q _ v s _ hm;obtain⟨k,hk,e,e2⟩:=lE.1 h1;have:r=k:=XX;subst this;rw[<-z,e2];exact hu
 .intro hb;rw[gI,UU];exact⟨(h:Int),OD q s B (dC.1 hb).2,lE.2 ⟨r,A,O,z⟩⟩
theorem FY(k:Nat)(E:List En):fR (E.map (scE k))=(fR E).map (scE k):=by
 unfold fR;exact(List.map_mergeSort (f:=scE k) (l:=E) (r:=λa b=> !bB b.v a.v) (s:=λa b=> !bB b.v a.v) λa _ b _=>rfl).symm
theorem Tw(q:k≠0)(E:List En)(key:List ByteArray):atV (E.map (scE k)) key=scG k (atV E key):=by
 unfold atV;rw[List.find?_map];show(Option.map (·.g) (Option.map (scE k) (E.find? λe=>decide (e.v=key)))).getD gz=_;cases E.find? λe=>decide (e.v=key)with
 | none=>
   show gz=scG k gz;simp only[scG,gz,Xz];rw[(Bg q Mm.Sem.zero).2 O]
 |some e=>rfl
theorem JQ{T':List (List Rw)}{f:Int->Nat}(hf:∀r,f r≠0):∀{rs:List Int}{z:Gv}{j:Nat},(∀r∈rs,vwS S P T' lf r=(vwS S P T lf r).map (scE (f r)))->totF S P T' lf rs (scG j z)=scG (j*cD (rs.map f)) (totF S P T lf rs z)
 |[],z,j,_=>by show scG j z=scG (j*1) z;rw[Uv]
 | r::rs,z,j,h=>by
   show totF S P T' lf rs ((scG j z).mul (atV (fR (vwS S P T' lf r)) []))=_;rw[h r X2,FY,Tw (hf r),zW,JQ hf λq hq=>h q (by simp[hq]),cd,cD,Vm];rfl
theorem zF(u:UpOk P):((aC P (-1)).flatMap (qg S P P.length)).Nodup:=by
 have e:(aC P (-1)).flatMap (qg S P P.length)=(aR P).flatMap (hoL S P):=by
  rw[<-mf,eT,Wh,List.flatMap_assoc];rw[show qg S P P.length=λc=>(cM P P.length c).vs.flatMap (hoL S P)from funext (gI _)]
 rw[e];unfold List.Nodup;rw[List.pairwise_flatMap];have s:(aR P).Nodup:=(b8 u).nodup_iff.2 (cQ _);refine⟨λv _=>C7 v,List.Pairwise.imp (λhne r hr q hq e=>?_) s⟩;obtain⟨k,hk,e1,e2⟩:=lE.1 hr;obtain⟨k',hk',e3,e4⟩:=lE.1 hq;have:k=k':=XX;subst this;exact hne (e2.symm.trans e4)
theorem ug(q:UpOk P):∀v:Nat,v<P.length->∃r:Nat,(r:Int)∈aC P (-1)/\(r:Int)∈(v:Int)::cm P v:=by
 refine wG q (λv hv hp hab=>⟨v,bg.2 ⟨v,hv,O,by rw[getD_at hv];exact hp⟩,Vx⟩) (λv hv p hpl hp hab ih=>?_);obtain⟨r,h1,h2⟩:=ih;exact⟨r,h1,by rw[hab];exact U0 _ h2⟩
theorem vR(q:OrdOk S P)(z:r<S.rels.length):∃h:Nat,je P S.rels[r].2=(h:Int)/\h<P.length:=by
 have s:=ak z;have u:=q.val.rng _ s _ (KH q s).1;obtain⟨h,hh⟩:=tI u.1;exact⟨h,hh,by have:=q.len;omega⟩
theorem E8(z:OrdOk S P)(A:r<S.rels.length):cD ((aC P (-1)).map (rv S P r m))=m:=by
 have s:=z.jE;obtain⟨h,hh,hlt⟩:=vR z A;obtain⟨c,hc,hab⟩:=ug s h hlt;obtain⟨v,hv,e,_⟩:=bg.1 hc;have u:c<P.length:=XX;have q:(r:Int)∈qg S P P.length (c:Int):=(Jp s u A hh hlt).2 (dC.2 ⟨⟨h,hlt,O⟩,(By.1 hab).imp Eq.symm id⟩);exact mI (qZ P (-1)) hc (AT q) λb hb hne=>pF λB=>hne<|qG (zF s) hb hc B q
section
variable {r m:Nat}(hO:OrdOk S P)(hr:r<T.length)(hrS:r<S.rels.length)(h0:∀x∈gT T (r:Int),0<=x.w)(hm:m≠0)
include hO hr h0 hm
theorem iN(q:v<P.length):vwS S P (scT T r m) lf v=(vwS S P T lf v).map (scE (rv S P r m v)):=O4 hO.jE hr h0 hm P.length v q XX
include hrS
theorem xE:totV S P (scT T r m) lf=scG m (totV S P T lf):=by
 have h:=JQ (S:=S) (P:=P) (T:=T) (T':=scT T r m) (lf:=lf) (f:=rv S P r m) (NA hm) (rs:=aC P (-1)) (z:=Gv.whole 1) (j:=1) λc hc=>by
  obtain⟨v,hv,e,_⟩:=bg.1 hc;rw[e];exact iN hO hr h0 hm hv
 rw[uY,E8 hO hrS,XK]at h;exact h
end
theorem Mt(A:List Int)(l:List Rw)(m:Nat):kX S A (l.map λx=>⟨x.v,x.w*(m:Int)⟩)=(kX S A l).map λx=>⟨x.v,x.w*(m:Int)⟩:=by
 unfold kX;rw[List.filter_map];rfl
theorem QP{d:List (List Rw)}(E:d.length=S.rels.length)(r m:Nat):cw S (scT d r m)=scT (cw S d) r m:=by
 apply Vq
 .simp[cw,scT]
 .intro i h1 h2;have q:i<d.length:=by simp[cw,scT]at h1;omega
  have u:i<S.rels.length:=XX;have D:(cw S d).length=d.length:=by unfold cw;simp;omega
  by_cases e:r=i
  .subst e;have z:(scT d r m)[r]'(by simpa[scT]using q)=d[r].map λx=>⟨x.v,x.w*(m:Int)⟩:=by simp[scT,List.getD,q]
   have A:(cw S d).getD r []=kX S S.rels[r].2 d[r]:=by rw[Ur,BY XX];simp[cw]
   have s:(cw S (scT d r m))[r]=kX S S.rels[r].2 ((scT d r m)[r]'(by simpa[scT]using q)):=by simp[cw]
   have B:(scT (cw S d) r m)[r]=((cw S d).getD r []).map λx=>⟨x.v,x.w*(m:Int)⟩:=by simp[scT]
   rw[s,z,Mt,B,A]
  have s:(cw S (scT d r m))[i]=kX S S.rels[i].2 ((scT d r m)[i]'(by simpa[scT]using q)):=by simp[cw]
  rw[s];simp[scT,XI,e,cw]
theorem F5{l:List Rw}(q:r<T.length)(h:l∈scT T r m):l∈T\/∃l0∈T,l=l0.map λx=>⟨x.v,x.w*(m:Int)⟩:=by grind[scT,List.mem_or_eq_of_mem_set,ak,List.getD]
theorem M1(k:Nat)(E:List En):gP Gv.n (E.map (scE k))=gP Gv.n E:=by
 unfold gP;rw[Vb];rfl
theorem Mx(k:Nat)(E:List En):gP Gv.w (E.map (scE k))=k*gP Gv.w E:=by
 unfold gP;induction E with
 |nil=>simp
 | cons e E ih=>
   simp only[cd,U4]at ih ⊢;rw[ih,Wd];rfl
theorem w6(q:1<=m)(s:m<=5){z:Int}(h:0<=z/\z<=20):0<=z*(m:Int)/\z*(m:Int)<=100/\(0<z->0<z*(m:Int)):=by
 have:m=1\/m=2\/m=3\/m=4\/m=5:=XX;rcases this with rfl|rfl|rfl|rfl|rfl<;>omega
theorem SA{l:List Rw}(q:∀x∈l,0<=x.w):∀x∈l,x.w<=kI l:=by
 induction l with
 |nil=>simp
 | cons y l ih=>
   intro x hx;have u:=q y X2;have A:0<=kI l:=by
    have:∀m:List Rw,(∀x∈m,0<=x.w)->0<=kI m:=λm hm=>by
     induction m with
     |nil=>exact Int.le_refl _
     | cons a m ih2=>
       have:=hm a X2;have:=ih2 λz hz=>hm z (by simp[hz])
       simp only[kI,cd,U4]at*;omega
    exact this l λz hz=>q z (by simp[hz])
   have s:=ih (λz hz=>q z (by simp[hz])) x;simp only[kI,cd,U4]at*;rcases By.1 hx with rfl|hx
   .omega
   have:=s hx;omega
theorem vb_sc(Z:Made S 5)(G:OrdOk S P)(B:WD S T)(A:r<T.length)(h1:1<=m)(h5:m<=5):VB S P (scT T r m) (QM S) (XM S) (lfM S):=by
 have h:=HJ Z G B;have Y:=G.jE;have J:=Z.r2;have hTl:=B.len;have u:∀l∈T,∀x∈l,0<=x.w/\x.w<=20:=λl hl x hx=>⟨B.w l hl x hx,Int.le_trans (SA (B.w l hl) x hx) (B.s l hl)⟩
 have L:gT T (r:Int)∈T:=by
  have:gT T (r:Int)=T[r]:=by simp[gT,List.getD,A]
  rw[this];exact ak A
 have M:∀x∈gT T (r:Int),0<=x.w:=λx hx=>(u _ L x hx).1
 have U:m≠0:=XX;have D:20^S.rels.length<=8000:=AI (Vr XZ J) XZ;have hw:=fun{v:Nat}(hv:v<P.length)=>T0 (S:=S) (T:=T) (lf:=lfM S) Y ya (λ_ _=>rfl) O (show 1<=20 by decide) (AM B) hv
 have E:∀v:Int,rv S P r m v<=5:=λv=>by unfold rv;split<;>omega
 refine⟨h.sb,h.sj,h.ord,h.p5,h.p0,h.r3,by rw[scT,Ut];exact h.tl,λl hl=>?_,λl hl x hx=>?_,h.q,h.x1,h.lfx,h.lift,λq x hx=>?_,λv hv=>?_,λv hv=>?_,?_⟩
 .rcases F5 A hl with hl2|⟨l0,hl2,rfl⟩
  .exact h.t60 l hl2
  rw[AS];exact h.t60 l0 hl2
 .rcases F5 A hl with hl2|⟨l0,hl2,rfl⟩
  .exact h.tw l hl2 x hx
  obtain⟨y,hy,rfl⟩:=IS.1 hx;have:=w6 h1 h5 (u l0 hl2 y hy);simp only;omega
 .have e:gT (scT T r m) q=gT (scT T r m) (q.toNat:Int):=by unfold gT;rw[Ux]
  have e2:oU S q=oU S (q.toNat:Int):=by unfold oU;rw[Ux]
  rw[e,Jw A]at hx;rw[e2];split at hx
  .rename_i e3;obtain⟨y,hy,rfl⟩:=IS.1 hx;rw[e3];exact h.tb (r:Int) y hy
  exact h.tb (q.toNat:Int) x hx
 .rw[iN G A M U hv,M1];exact h.en v hv
 .rw[iN G A M U hv,Mx];have h2:=hw hv;have I:=E v;exact AI (Va I (AI h2 D)) XZ
 rw[xE G A XX M U];show m*(totV S P T (lfM S)).w<=40000;have I:=uU (S:=S) (P:=P) (T:=T) (lf:=lfM S) ya O (rs:=aC P (-1)) (z:=Gv.whole 1);have h4:=xI (S:=S) (T:=T) (lf:=lfM S) Y ya (λ_ _=>rfl) O (show 1<=20 by decide) (AM B);have e:(Gv.whole 1).w=1:=rfl;rw[e,XK]at I;exact AI (Va h5 (AI I (AI h4 D))) XZ
theorem Oo{d:List (List Rw)}(u:MdD S 4 S.rels.length d):∀r (h:r<d.length) (_:r<S.rels.length),∀x∈d[r],0<x.w/\x.w<=20:=λr h h2 x hx=>by
 obtain⟨l0,e,hl,hx0⟩:=u.2 r h h2;have pos:∀z∈l0,0<z.w:=λz hz=>by have:=(hx0 z hz).1;omega
 have q:=iY pos;rw[e]at hx;have A:=q.pos pos x hx;have s:=SA (l:=nF l0) (λy hy=>by have:=q.pos pos y hy;omega) x hx;rw[q.tot]at s;have B:kI l0<=5*l0.length:=zM λz hz=>(hx0 z hz).1.2
 omega
theorem SN{A:List Int}{l:List Rw}(h:TblOk S A 1 l)(B:∀x∈l,0<x.w/\x.w<=20)(D:1<=m)(E:m<=5):TblOk S A 1 (l.map λx=>⟨x.v,x.w*(m:Int)⟩):=by
 refine⟨λx hx=>?_,?_⟩
 .obtain⟨y,hy,rfl⟩:=IS.1 hx;have q:=B y hy;have u:=w6 D E (z:=y.w) ⟨XX,q.2⟩;have G:=u.2.2 q.1;have s:=h.row y hy;exact⟨s.l,s.v,X4⟩
 have:=h.asc;unfold ML at*;rw[VW];exact this
theorem db_sc{d:List (List Rw)}(A:MdD S 4 S.rels.length d)(E:r<d.length)(B:1<=m)(D:m<=5)(z:∀r (h:r<d.length) (q:r<S.rels.length),TblOk S S.rels[r].2 1 d[r]):∀i (h:i<(scT d r m).length) (q:i<S.rels.length),TblOk S S.rels[i].2 1 (scT d r m)[i]:=λi h q=>by
 have s:i<d.length:=by simpa[scT]using h
 by_cases e:r=i
 .subst e;have u:(scT d r m)[r]=d[r].map λx=>⟨x.v,x.w*(m:Int)⟩:=by simp[scT,List.getD,s]
  rw[u];exact SN (z r s q) (Oo A r s q) B D
 have u:(scT d r m)[i]=d[i]:=by simp[scT,XI,e]
 rw[u];exact z i s q
end
end Vw
end
section
open Go.RowKit Mk Jn Mm Vw
namespace Vw
abbrev t1:ByteArray:=⟨#[49]⟩
abbrev t7:ByteArray:=⟨#[55]⟩
abbrev t3:ByteArray:=⟨#[51]⟩
abbrev t8:ByteArray:=⟨#[56]⟩
abbrev exD:List (List Rw):=[[⟨[t1,Vw.t7],2⟩],[⟨[Vw.t7,t3],5⟩,⟨[Vw.t8,t3],1⟩]]
abbrev cg(w n k:Nat):Gv:=⟨cnt w,n,w,k⟩
theorem CJ(a b:Nat):Mm.Sem.mul (cnt a) (cnt b)=cnt ((a*b:Nat):Int):=by
 refine Mm.Sem.same ?_ (λx=>?_) (λx y=>?_)
 .show((a:Int):Rat)*((b:Int):Rat)=(((a*b:Nat):Int):Rat);rw[<-Wp];rfl
 .show((a:Int):Rat)*0+((b:Int):Rat)*0=0;rw[WW,WW,XN]
 show((a:Int):Rat)*0+((b:Int):Rat)*0+(0*0+0*0)=0;rw[WW,WW,WW,XN,XN]
theorem qu(a b n m k l:Nat):(cg a n k).mul (cg b m l)=cg (a*b) (n*m) (k+l):=by
 unfold Gv.mul;rw[CJ]
theorem cg_nz(h:a≠0):(cg a n k).m≠Mm.Sem.zero:=λe=>by
 have q:((a:Int):Rat)=0:=ah Mm.Sem.c e;have s:(a:Int)=0:=Rat.intCast_inj.1 q;omega
def lfC:Int->ByteArray->Gv:=λ_ _=>cg 1 1 1
def XC:Nat->List ByteArray:=λ_=>[⟨#[]⟩,t1,Vw.t7,t3,Vw.t8]
theorem pC{v:Int}{K:List Int}{E:List En}{x:Ch}(h:a≠0):stepE (lfC v) v K E (x,cg a n k)=sw E (lG K x) (cg a n (k+1)):=by
 unfold stepE;have e:(cg a n k).mul (lfC v (x.v.getD v.toNat ⟨#[]⟩))=cg a n (k+1):=by
  show(cg a n k).mul (cg 1 1 1)=_;rw[qu,Uv,Uv]
 rw[pF (by rw[e];exact cg_nz h),e]
theorem Is:cw bm exD=exD:=XY
theorem Te:hoL bm bE ((0:Nat):Int)=[0]:=XZ
theorem R5:hoL bm bE ((1:Nat):Int)=[]:=XZ
theorem Tn:hoL bm bE ((2:Nat):Int)=[1]:=XZ
theorem S3:aC bE ((0:Nat):Int)=[]:=XZ
theorem Sp:aC bE ((1:Nat):Int)=[0,2]:=XZ
theorem RW:aC bE ((2:Nat):Int)=[]:=XZ
theorem NB:aC bE (-1)=[1]:=XZ
theorem Jh:OrdOk bm bE:=(jO.1 uH).2
abbrev e7(w:Nat):En:=⟨jnt [Vw.t7],[Vw.t7],cg w 1 1⟩
abbrev e8(w:Nat):En:=⟨jnt [Vw.t8],[Vw.t8],cg w 1 1⟩
abbrev eN:En:=⟨jnt [],[],cg 10 1 3⟩
theorem KF:vwS bm bE exD lfC ((0:Nat):Int)=[e7 2]:=by
 rw[oN Jh.jE (show 0<bE.length by decide),mkV];unfold eE;rw[Te,S3,show gh bm bE ((0:Nat):Int)=[1]from Jb];have e:leaves [dd (oU bm 0) (gT exD 0)] (ch0 3) (Gv.whole 1)=[(⟨[t1,Vw.t7,⟨#[]⟩],[VA,VA,WA]⟩,(Gv.whole 1).mul (Gv.whole 2))]:=XY;show foldE (lfC _) _ [1] [] (leaves [dd (oU bm 0) (gT exD 0)] (ch0 3) (Gv.whole 1))=_;rw[e,show(Gv.whole 1).mul (Gv.whole 2)=cg 2 1 0 from qu 1 2 1 1 0 0];show stepE (lfC _) _ [1] [] _=_;rw[pC XZ]
 kernel_rfl
theorem Mi:vwS bm bE exD lfC ((2:Nat):Int)=[e7 5,e8 1]:=by
 rw[oN Jh.jE (show 2<bE.length by decide),mkV];unfold eE;rw[Tn,RW,show gh bm bE ((2:Nat):Int)=[1]from HX];have e:leaves [dd (oU bm 1) (gT exD 1)] (ch0 3) (Gv.whole 1)=[(⟨[⟨#[]⟩,Vw.t7,t3],[WA,VA,VA]⟩,(Gv.whole 1).mul (Gv.whole 5)),(⟨[⟨#[]⟩,Vw.t8,t3],[WA,VA,VA]⟩,(Gv.whole 1).mul (Gv.whole 1))]:=XY;show foldE (lfC _) _ [1] [] (leaves [dd (oU bm 1) (gT exD 1)] (ch0 3) (Gv.whole 1))=_;rw[e,show(Gv.whole 1).mul (Gv.whole 5)=cg 5 1 0 from qu 1 5 1 1 0 0,show(Gv.whole 1).mul (Gv.whole 1)=cg 1 1 0 from qu 1 1 1 1 0 0];show stepE (lfC _) _ [1] (stepE (lfC _) _ [1] [] _) _=_;rw[pC XZ,pC XZ]
 kernel_rfl
theorem LP(e:En):EW [e]=[e]:=by unfold EW;exact WY X2
theorem Ke:EW [e7 5,e8 1]=[e7 5,e8 1]:=by
 unfold EW;refine WY ?_;rw[Vd];refine⟨λx hx=>?_,X2⟩;rw[IT]at hx;subst hx;show decide (_<=_)=VA;decide+kernel
theorem MY:vwS bm bE exD lfC ((1:Nat):Int)=[eN]:=by
 rw[oN Jh.jE (show 1<bE.length by decide),mkV];unfold eE;rw[R5,Sp,show gh bm bE ((1:Nat):Int)=[]from N8];have q:gh bm bE 0=[1]:=Jb;have s:gh bm bE 2=[1]:=HX;have v0:vwS bm bE exD lfC 0=[e7 2]:=KF;have v2:vwS bm bE exD lfC 2=[e7 5,e8 1]:=Mi;rw[Vn,Vo,cd,cd,Vn,q,s,v0,v2];unfold cK;rw[LP,Ke];have e:leaves [⟨[1],[e7 2].map λe=>⟨e.v,e.g⟩⟩,⟨[1],[e7 5,e8 1].map λe=>⟨e.v,e.g⟩⟩] (ch0 3) (Gv.whole 1)=[(⟨[⟨#[]⟩,Vw.t7,⟨#[]⟩],[WA,VA,WA]⟩,((Gv.whole 1).mul (cg 2 1 1)).mul (cg 5 1 1))]:=XY;show foldE (lfC _) _ [] [] (leaves _ (ch0 3) (Gv.whole 1))=_;rw[e,show(Gv.whole 1).mul (cg 2 1 1)=cg 2 1 1 from qu 1 2 1 1 0 1,qu];show stepE (lfC _) _ [] [] _=_;rw[pC XZ]
 kernel_rfl
theorem OB:totV bm bE exD lfC=cg 10 1 3:=by
 unfold totV totF;rw[NB];have q:vwS bm bE exD lfC 1=[eN]:=MY;show(Gv.whole 1).mul (atV (fR (vwS bm bE exD lfC 1)) [])=_;rw[q];have e:fR [eN]=[eN]:=by unfold fR;exact WY X2
 rw[e];show(cg 1 1 0).mul (cg 10 1 3)=_;rw[qu]
theorem Li:fR [e7 5,e8 1]=[e7 5,e8 1]:=by
 unfold fR;refine WY ?_;rw[Vd];refine⟨λx hx=>?_,X2⟩;rw[IT]at hx;subst hx;show(!bB [Vw.t8] [Vw.t7])=VA;decide+kernel
theorem LZ:((List.range bE.length).map λa:Nat=>fR (vwS bm bE exD lfC a))=[[e7 2],[eN],[e7 5,e8 1]]:=by
 have v0:vwS bm bE exD lfC ((0:Nat):Int)=[e7 2]:=KF;have s:vwS bm bE exD lfC ((1:Nat):Int)=[eN]:=MY;have v2:vwS bm bE exD lfC ((2:Nat):Int)=[e7 5,e8 1]:=Mi;have q:∀e:En,fR [e]=[e]:=λe=>by unfold fR;exact WY X2
 show [fR (vwS bm bE exD lfC ((0:Nat):Int)),fR (vwS bm bE exD lfC ((1:Nat):Int)),fR (vwS bm bE exD lfC ((2:Nat):Int))]=_;rw[v0,s,v2,q,q,Li]
theorem ex_vb:VB bm bE (cw bm exD) [] XC lfC:=by
 rw[Is];have q:∀v:Nat,v<bE.length->v=0\/v=1\/v=2:=λv u=>by have u:v<3:=u;omega
 refine⟨oe,⟨XZ,XZ,XZ,XZ⟩,Jh,XZ,XZ,XZ,O,XZ,XZ,XZ,?_,⟨λv t _=>⟨CF (tJ 1),Sup.cnt _ _⟩,λ_ _=>rfl,λ_ _=>rfl,λ_ _=>rfl,λ_=>by simp[XC]⟩,λv u t ht=>?_,?_,λv u=>?_,λv u=>?_,?_⟩
 .intro a t ht;have:∀x∈[(⟨#[]⟩:ByteArray),t1,Vw.t7,t3,Vw.t8],x.size<=1000:=by decide+kernel
  exact this t ht
 .have h:=xK qM bm v t XZ λ_ h=>by
   rcases h with h|⟨i,hi,_⟩
   .have h:(v:Int)= -1:=h;omega
   cases hi
  have e:liftS qM bm v t=cnt 1:=by
   unfold liftS;rw[pF (show ¬ (v:Int)=bm.label from λh=>by have h:(v:Int)= -1:=h;omega)];rfl
  rw[e]at h;exact h
 .intro r x s;have h:r.toNat=0\/r.toNat=1\/2<=r.toNat:=XX;have A:∀x∈exD[0],VX XC [0,1] x.v:=by
   intro x s;obtain rfl:x=⟨[t1,Vw.t7],2⟩:=by simpa using s
   exact⟨O,λj h1 h2=>match j,h1 with|0,_=>by simp[XC]|1,_=>by simp[XC]⟩
  have z:∀x∈exD[1],VX XC [1,2] x.v:=by
   intro x s;have s:x=⟨[Vw.t7,t3],5⟩\/x=⟨[Vw.t8,t3],1⟩:=by simpa using s
   rcases s with rfl|rfl<;>exact⟨rfl,λj h1 h2=>match j,h1 with|0,_=>by simp[XC]|1,_=>by simp[XC]⟩
  unfold gT at s;unfold oU;rcases h with h|h|h
  .rw[h]at s ⊢; exact A x s
  .rw[h]at s ⊢; exact z x s
  grind
 .rcases q v u with rfl|rfl|rfl
  .rw[KF];decide
  .rw[MY];decide
  rw[Mi];decide
 .rcases q v u with rfl|rfl|rfl
  .rw[KF];decide
  .rw[MY];decide
  rw[Mi];decide
 rw[OB];decide
end Vw
end
section
open Go.RowKit Mk Jn Mm Vw
abbrev kf(x:ByteArray):PV:=.agg [.str x,.sl UG 0 [],.sl UG 0 []]
theorem eqT0:FnP prog 125 [.sl UG 0 [],.sl UG 0 []] (· = .bool VA):=by
 refine FnP.of func125 O ntmps125 X2 λ_ _ _ _=>?_
 refine Z1 O<|Gr O<|Ar 5 O<|Gc O (λq=>absurd q XZ) (λq=>?_);refine TM<|Z3 O<|Gz O (st:=λX6:Nat=>([(0,UG),(1,UG),(12,UG),(13,UG)],[])) 0
  (I:=λX6=>True) (μ:=λX6=>0) (x0:=(0)) (TO (aS O) trivial O O) (trivial) ?_
 rintro u _;refine Z1 O<|Gp O (λs=>absurd s XZ) (λs=>?_);exact Gx O<|Z1 O<|Gt O<|⟨_,_,O,O,O⟩
theorem eqP0:FnP prog 126 [.sl UG 0 [],.sl UG 0 []] (· = .bool VA):=by
 refine FnP.of func126 O ntmps126 X2 λ_ _ _ _=>?_
 refine Z1 O<|Gr O<|Ar 5 O<|Gc O (λq=>absurd q XZ) (λq=>?_);refine TM<|Z3 O<|Gz O (st:=λX6:Nat=>([(0,UG),(1,UG),(12,UG),(13,UG)],[])) 0
  (I:=λX6=>True) (μ:=λX6=>0) (x0:=(0)) (TO (aS O) trivial O O) (trivial) ?_
 rintro u _;refine Z1 O<|Gp O (λs=>absurd s XZ) (λs=>?_);exact Gx O<|Z1 O<|Gt O<|⟨_,_,O,O,O⟩
theorem Mv(x:ByteArray):FnP prog 57 [kf x,kf x] (· = .bool VA):=by
 refine FnP.of func57 O ntmps57 X2 λ_ _ _ _=>?_
 have q:=eqT0;have s:=eqP0;have u:(x.toList==x.toList)=VA:=Vh _;exact Z3 O<|Z4 O<|Rs O (XJ.cast (v:=.pv (.bool (x.toList==x.toList))) (v':=.pv (.bool VA)) (cJ O O O) (ah (λb=>V.pv (.bool b)) u))<|Ar 5 O<|Rg O (aa call125 q O)<|Ar 6 O<|Rg O (aa call126 s O)<|Y2 O<|Gt O<|⟨_,_,O,O,O⟩
theorem Qu(x y:ByteArray)(q:(x.toList==y.toList)=WA):FnP prog 57 [kf x,kf y] (· = .bool WA):=by
 refine FnP.of func57 O ntmps57 X2 λ_ _ _ _=>?_
 exact Z3 O<|Z4 O<|Rs O (XJ.cast (v:=.pv (.bool (x.toList==y.toList))) (v':=.pv (.bool WA)) (cJ O O O) (ah (λb=>V.pv (.bool b)) q))<|Ar 15 O<|Gt O<|⟨_,_,O,O,O⟩
theorem RZ:FnP prog 122 [] (· =kf t1):=by
 refine FnP.fg2 (FnP.ofC func122 O ntmps122 X2 λ_ _ _ _=>?_);exact Z1 O<|Z2 O<|Gt O<|⟨_,_,O,O,⟨au ⟨_,underlying47,O⟩ EV O O O,X5⟩,O⟩
abbrev t0:ByteArray:=⟨#[48]⟩
theorem Qp:FnP prog 53 [] (· =kf t0):=by
 have h:=AU;rw[Ay]at h;have e:kA ⟨((0:Int):Rat),[],[]⟩=kf t0:=by show PV.agg [.str (a6 ((0:Int):Rat)),_,_]=_;rw[qb];rfl
 rw[e]at h;exact h
theorem QW:FnP prog 21 [] (· =kf t0):=by
 refine FnP.fg2 (FnP.ofC func21 O ntmps21 X2 λ_ _ _ _=>?_);exact Z1 O<|Z2 O<|Gt O<|⟨_,_,O,O,⟨au ⟨_,underlying47,O⟩ EV O O O,X5⟩,O⟩
theorem M5:FnP prog 15 [kf t0,kf t0] (· = .bool VA):=by
 refine FnP.of func15 O ntmps15 X2 λ_ _ _ _=>?_
 refine Z3 O<|Gr O<|Ar 6 O ?_;apply TX 8 12 20 [13,14,15,16,17,18,19] O X8
 .intro hb5;exact Ar 8 O<|TQ X7 O O O
 .intro hb5;exact Ar 8 O<|TQ X7 O O O
 refine A1 O ?_;apply TX 8 21 29 [22,23,24,25,26,27,28] O X8
 .intro hb14;exact Ar 8 O<|TQ X7 O O O
 .intro hb14;exact Ar 8 O<|TQ X7 O O O
 refine Gc O (λq=>absurd q X2) (λq=>?_);refine TM<|Z4 O<|Gz O (st:=λX6:Nat=>([(2,UG),(3,UG),(32,UG),(33,UG)],[(0,UG),(1,UG)])) 2
  (I:=λX6=>True) (μ:=λX6=>0) (x0:=(0)) (TO (aS O) (aO O) O O) (trivial) ?_
 rintro u _;refine Z1 O<|Gp O (λs=>absurd s XZ) (λs=>?_);refine Gx O<|Z4 O<|Gz O (st:=λA:Nat=>([(2,UG),(3,UG),(50,UG),(51,UG)],[(0,UG),(1,UG)])) 2
  (I:=λA=>True) (μ:=λA=>0) (x0:=(0)) (TO (aS O) (aO O) O O) (trivial) ?_
 rintro u2 _;refine Z1 O<|Gp O (λz=>absurd z XZ) (λz=>?_);exact Gx O<|Z1 O<|Gt O<|⟨_,_,O,O,O⟩
theorem ctT0(g:FuncId):FnP prog 184 [.sl UG 0 [],.fn (.func g) [] []] (· = .bool WA):=by
 have s:FnP prog 247 [.sl UG 0 [],.fn (.func g) [] []] (· = .int .i64 (-1)):=by
  refine FnP.of func247 O ntmps247 X2 λm0 w0 F R0=>?_
  refine Z1 O<|Z3 O<|Gz O (st:=λX6:Nat=>([(0,UG),(1,UG),(7,UG),(8,UG)],[])) 0
   (I:=λX6=>True) (μ:=λX6=>0) (x0:=(0)) (TO (aS O) trivial O O) (trivial) ?_
  rintro u _;refine Z1 O<|Gp O (λq=>absurd q XZ) (λq=>?_);exact Gx O<|Z1 O<|Gt O<|⟨_,_,O,O,O⟩
 refine FnP.of func184 O ntmps184 X2 λm0 w0 F R0=>?_
 exact Z1 O<|Z2 O<|Rs O (aa call247 s O)<|Y2 O<|Gt O<|⟨_,_,O,O,O⟩
theorem asT0(g:FuncId):FnP prog 191 [.sl UG 0 [],.fn (.func g) [] []] (· = .bool VA):=by
 refine FnP.of func191 O ntmps191 X2 λ_ _ _ _=>?_
 refine Z1 O<|Z1 O<|Gz O (st:=λX6:Nat=>([(0,UG),(1,UG),(5,UG)],[])) 0
  (I:=λX6=>True) (μ:=λX6=>0) (x0:=(0)) (TO (aS O) trivial O O) (trivial) ?_
 rintro u _;refine Z4 O<|Gp O (λq=>absurd q XZ) (λq=>?_);exact Gx O<|Z1 O<|Gt O<|⟨_,_,O,O,O⟩
theorem ctP0(g:FuncId):FnP prog 188 [.sl UG 0 [],.fn (.func g) [] []] (· = .bool WA):=by
 have s:FnP prog 248 [.sl UG 0 [],.fn (.func g) [] []] (· = .int .i64 (-1)):=by
  refine FnP.of func248 O ntmps248 X2 λm0 w0 F R0=>?_
  refine Z1 O<|Z3 O<|Gz O (st:=λX6:Nat=>([(0,UG),(1,UG),(7,UG),(8,UG)],[])) 0
   (I:=λX6=>True) (μ:=λX6=>0) (x0:=(0)) (TO (aS O) trivial O O) (trivial) ?_
  rintro u _;refine Z1 O<|Gp O (λq=>absurd q XZ) (λq=>?_);exact Gx O<|Z1 O<|Gt O<|⟨_,_,O,O,O⟩
 refine FnP.of func188 O ntmps188 X2 λm0 w0 F R0=>?_
 exact Z1 O<|Z2 O<|Rs O (aa call248 s O)<|Y2 O<|Gt O<|⟨_,_,O,O,O⟩
theorem asP0(g:FuncId):FnP prog 193 [.sl UG 0 [],.fn (.func g) [] []] (· = .bool VA):=by
 refine FnP.of func193 O ntmps193 X2 λ_ _ _ _=>?_
 refine Z1 O<|Z1 O<|Gz O (st:=λX6:Nat=>([(0,UG),(1,UG),(5,UG)],[])) 0
  (I:=λX6=>True) (μ:=λX6=>0) (x0:=(0)) (TO (aS O) trivial O O) (trivial) ?_
 rintro u _;refine Z4 O<|Gp O (λq=>absurd q XZ) (λq=>?_);exact Gx O<|Z1 O<|Gt O<|⟨_,_,O,O,O⟩
structure KT(x:ByteArray):Prop where
 s:x.size<4294967281
 v:dA x=VA
 b:Mg x=VA
theorem O2(x:ByteArray)(h:KT x):FnP prog 119 [kf x] (· = .bool VA):=by
 refine FnP.of func119 O ntmps119 X2 λ_ _ _ _=>?_
 have B:=lF x h.s λ_ A=>by rw[h.b]at A;cases A
 rw[h.v]at B;have D:=ctT0 185;have A:=ctP0 189;have E:=asT0 192;have G:=asP0 194;refine Z2 O<|Z2 O<|Rs O (aa call183 B O)<|A1 O<|Gc O (λu=>absurd u XZ) (λu=>?_);refine TM<|Z2 O<|Rs O (aa call184 D O)<|Gc O (λz=>absurd z XZ) (λz=>?_);refine TM<|Z2 O<|Rs O (aa call188 A O)<|Gc O (λq=>absurd q XZ) (λq=>?_);exact TM<|Z2 O<|Rs O (aa call191 E O)<|Y3 O<|Rg O (aa call193 G O)<|Y2 O<|Gt O<|⟨_,_,O,O,O⟩
end
section
open Go.RowKit Mk Jn Mm Vw
abbrev t10:ByteArray:=⟨#[49,48]⟩
theorem ru(n:Nat)(x:ByteArray)(h:a6 ((n:Int):Rat)=x):kA (cn (cnt n))=kf x:=by
 rw[AY];show PV.agg [.str (a6 ((n:Int):Rat)),_,_]=_;rw[h];rfl
theorem rt1:a6 (((1:Nat):Int):Rat)=t1:=by decide+kernel
theorem TH:a6 (((10:Nat):Int):Rat)=t10:=by decide+kernel
theorem kt1:KT t1:=⟨by decide+kernel,by decide+kernel,by decide+kernel⟩
theorem kt10:KT t10:=⟨by decide+kernel,by decide+kernel,by decide+kernel⟩
theorem ur(n:Nat):GvOk [] (cg n 1 0):=⟨oD n,Sup.cnt _ _⟩
theorem Rz:FnP prog 124 [kf t1,kf t10] (· = .tup [kf t10,.int .i64 0]):=by
 refine FnP.ofC func124 O ntmps124 X2 λ_ _ _ _=>?_
 have s:=O2 t1 kt1;have u:=O2 t10 kt10;have A:=Qx (ur 1) XZ (show 1<=40000 by decide) (aJ 8);have B:=Qx (ur 10) XZ (show 10<=40000 by decide) (aJ 8);have D:=uy (oD 1) (oD 10) (by decide+kernel) (by decide+kernel) XZ XZ;have z:=Ha (ur 10) XZ (show 10<=40000 by decide) (aJ 8);rw[show kA (cn (cg 1 1 0).m)=kf t1 from ru 1 t1 rt1]at A;rw[show kA (cn (cg 10 1 0).m)=kf t10 from ru 10 t10 TH]at B;rw[CJ]at D;unfold SM at z;rw[show kA (cn (cg 10 1 0).m)=kf t10 from ru 10 t10 TH]at z;refine Z4 O<|Z1 O<|Rs O (aa call119 s O)<|Y3 O<|Rg O (aa call119 u O)<|Y2 O<|Gc O (λq=>absurd q XZ) (λq=>?_);refine TM<|UB 10 O<|D1 O<|Ds [] O (λτ h=>aa call38 A (h.aE O)) O XY<|D1 O<|Ds [] O (λτ h=>aa call38 B (h.aE O)) O XY<|Ds [] O (λτ h=>aa call37 D (h.aE O)) O XY<|Ds [] O (λτ h=>aa call31 z (h.aE O)) O XY<|Dr 4 O ?_;refine⟨XY,?_⟩;exact Gt O<|⟨_,_,O,O,⟨au ⟨_,underlying47,O⟩ EV O O O,X5⟩,O⟩
theorem DZ(l:List (List En))(J:l.length<=1000)(c0:ByteArray)(k1 k2:Nat)(q1 q2:List PV):FnP prog 18 [.agg [.sl UG l.length (lstsC l),.str c0,.sl UG k1 q1,.sl UG k2 q2]] (· =aq (l.map λE=>(E.length:Int))):=by
 refine FnP.of func18 O ntmps18 X2 λ_ _ _ _=>?_
 obtain⟨L,hL⟩:∃L:List Int,L=l.map λE=>(E.length:Int):=⟨_,O⟩
 have D:L.length=l.length:=by rw[hL,AS]
 rw[<-hL];refine Z2 O<|Z1 O<|TN (TU 3 1 1 3 O O)<|Z4 O<|Gz O (st:=λX6:Nat=>([(3,UF (.gsl 1 1 X6)),(7,UG),(8,UG),(9,UF (pIi X6))],[(1,UF (.gro 3 (aN (L.take X6))))])) 2
  (I:=λX6=>X6<=l.length) (μ:=λX6=>l.length-X6) (x0:=(0)) (TO (aS O) (aO XY) O O) (aJ _) ?_
 rintro i hi;refine Z1 O<|Gp O (λq=>?_) (λq=>?_)
 .have hlt:i<l.length:=XX;have s:=rM hlt;have u:=qo hlt;have z:L[i]'XX=((l[i].length:Nat):Int):=by simp[hL]
  have A:aN (L.take i)++[.int .i64 ((l[i].length:Nat):Int)]=aN (L.take (i+1)):=by rw[sh (show i<L.length by omega),z];simp
  have G:(aN (L.take i)).length=i*1:=by simp;omega
  generalize l[i]=E at*;exact TM<|Gr O<|Rs O (ag i underlying42 Dz O O O hlt u)<|Rs O (ar ⟨_,underlying57,O⟩ O s)<|A1 O<|Gr O<|Ar 6 O<|Z2 O<|⟨(i+1),TP [0,3] (aT O) ⟨UI (b:=UF (.gro 3 (aN (L.take i)++[.int .i64 ((E.length:Nat):Int)]))) XY (ah (λc=>UF (Ob.gro 3 c)) A),X5⟩ O O XZ O,hlt,XX⟩
 have hie:L.take i=L:=aG XX;have B:i=L.length:=XX;rw[hie,B];exact Gx O<|TN (TR (o:=.gro 3 (aN L)) 1 XY O)<|Z2 O<|Gt O<|⟨_,_,O,O,O⟩
structure EOk(S:Sch)(K:List Int)(e:En):Prop where
 l:e.v.length=K.length
 v:FnP prog 119 [kA (cn e.g.m)] (· = .bool VA)
 z:FnP prog 57 [kA (cn e.g.m),kf t0] (· = .bool WA)
 s:∀j (h:j<K.length) (h2:j<e.v.length),∃a:Nat,∃ha:a<S.attrs.length,K[j]=(a:Int)/\FnP prog 120 [.agg [.str S.attrs[a].1,.int .i64 S.attrs[a].2],.str e.v[j]] (· = .bool VA)
theorem jA(S:Sch)(hSa:S.attrs.length<=1000)(K:List Int)(hK:K.length<=1000)(E:List En)(hEl:E.length<=1000)(hE:∀e∈E,EOk S K e)(ha:∀i (h:i+1<E.length),bB (E[i]'XX).v E[i+1].v=VA):
  FnP prog 55 [gg S,aq K,.sl UG E.length (entsC E)] (· = .bool VA):=by
 refine FnP.of func55 O ntmps55 X2 λ_ _ _ _=>?_
 have hz:=Qp;refine Z2 O<|Z3 O<|Gz O (st:=λX6:Nat=>([(1,UG),(2,UG),(3,UG),(11,UG),(12,UG),(13,UF (pIi X6))],[(0,UG)])) 1
  (I:=λX6=>X6<=E.length) (μ:=λX6=>E.length-X6) (x0:=(0)) (TO (aS O) (aO XY) O O) (aJ _) ?_
 rintro i hi;refine Z1 O<|Gp O (λM=>?_) (λM=>?_)
 .have hlt:i<E.length:=XX;have G:=fM hlt;have J:=kB hlt;obtain⟨g1,g2,g3,g4⟩:=hE _ (ak hlt);have L:((E[i].v.length:Nat):Int)=((K.length:Nat):Int):=by rw[g1]
  have D:∀h:0<i,(entsC E)[(i-1)*4+0]? =UF (bh (E[i-1]'XX).v):=λh=>by
   have Y:(((entsC E).drop ((i-1)*4)).take 4)[0]? =(entC (E[i-1]'XX))[0]? :=by rw[fM (show i-1<E.length by omega)]
   simpa[Uw,Vp]using Y
  have Z:∀h:0<i,FnP prog 121 [bh (E[i-1]'XX).v,bh E[i].v] (· = .bool VA):=λh=>by
   have Y:=sQ (E[i-1]'XX).v E[i].v (by rw[(hE _ (ak (show i-1<E.length by omega))).l];omega) (by rw[g1];omega);have h3:=ha (i-1) XX;have e:i-1+1=i:=XX;simp only[e]at h3;rw[h3]at Y;exact Y
  generalize E[i]=e at*;refine TM<|Z1 O<|Rs O (ag i underlying57 Ef O O O hlt J)<|Rs O (aF ⟨_,underlying59,O⟩ Ef O G O)<|Y3 O<|UB 18 O<|Dr 5 O<|Ds [] O (λτ h=>T6 (Ee h 0 O O) (Ee h 1 O O) O (show(((e.v.length:Nat):Int) !=((K.length:Nat):Int))=WA by rw[L];simp)) O XY ?_;refine Dr 3 O<|Dg [] O (λτ h=>aa call119 g2 (h.aE O)) O XY<|Dr 5 O<|Dg [] O (λτ h=>aa call53 hz (h.aE O)) O XY<|Dg [] O (λτ h=>aa call57 g3 (h.aE O)) O XY<|D1 O ?_;refine⟨XY,?_⟩;refine Gc O (λA=>absurd A XZ) (λA=>?_);refine TM<|Z3 O<|Gz O (st:=λu:Nat=>([(1,UG),(2,UG),(3,UG),(7,UG),(8,UG),(11,UG),(12,UG),(13,UG),(36,UG),(37,UG),(38,UF (pIi u))],[(0,UG),(1,UG)])) 2
   (I:=λu=>u<=K.length) (μ:=λu=>K.length-u) (x0:=(0)) (TO (aS O) (aO XY) O O) (aJ _) ?_
  rintro j hj;refine Z1 O<|Gp O (λU=>?_) (λU=>?_)
  .have hjl:j<K.length:=XX;have z:j<e.v.length:=XX;obtain⟨a,hal,hKa,hval⟩:=g4 j hjl z;have ab:(aN K)[j*1]? =UF (.int .i64 (a:Int)):=by rw[<-hKa];simp[hjl]
   have ac:=aM hjl;have ad:=mj hal;have af:=iZ hal;have ah:=bP z;have aj:=bO z;refine TM<|Z1 O<|Rs O (ag j underlying22 sz3 O O O hjl ac)<|Rs O (ar ⟨_,underlying3,O⟩ O ab)<|Y2 O<|UB 12 O<|Dr 3 O<|Ds [] O (λτ h=>ag a underlying26 nM (Ee h 0 O O) (Ee h 1 O O) O hal af) O XY<|Ds [] O (λτ h=>aF ⟨_,underlying142,O⟩ nM (Ee h 0 O O) ad O) O XY<|Dr 3 O<|Ds [] O (λτ h=>ag j underlying39 sz9 (Ee h 0 O O) (Ee h 1 O O) O z aj) O XY<|Ds [] O (λτ h=>ar ⟨_,underlying9,O⟩ (Ee h 0 O O) ah) O XY<|Ds [] O (λτ h=>aa call120 hval (h.aE O)) O XY<|D1 O ?_;refine⟨XY,?_⟩;refine Gc O (λB=>absurd B XZ) (λB=>?_);exact TM<|Z2 O<|⟨(j+1),TO (aS O) (aO XY) O O,hjl,XX⟩
  refine Gx O ?_;by_cases h0:0<i
  .refine UB 14 O<|D1 O<|Ds [] O (λτ h=>T4 (Ee h 0 O O) (Ee h 1 O O) O (SR (show(i:Int)>0 by omega))) O XY ?_;refine Dr 4 O<|Dg [] O (λτ h=>ag (i-1) underlying57 Ef (Ee h 0 O O) (Ee h 1 O O) XX XX J) O XY<|D1 O<|Dg [] O (λτ h=>ar ⟨_,underlying39,O⟩ (Ee h 0 O O) (D h0)) O XY<|Dr 2 O<|Dg [] O (λτ h=>aa call121 (Z h0) (h.aE O)) O XY<|Dr 2 O ?_;refine⟨XY,?_⟩;refine Gc O (λq=>absurd q XZ) (λq=>?_);exact TM<|Z2 O<|⟨(i+1),TO (aS O) (aO XY) O O,hlt,XX⟩
  refine UB 14 O<|D1 O<|Ds [] O (λτ h=>T6 (Ee h 0 O O) (Ee h 1 O O) O (Up (show ¬ (i:Int)>0 by omega))) O XY ?_;refine Dr 12 O ?_;refine⟨XY,?_⟩;refine Gc O (λq=>absurd q XZ) (λq=>?_);exact TM<|Z2 O<|⟨(i+1),TO (aS O) (aO XY) O O,hlt,XX⟩
 exact Gx O<|Z1 O<|Gt O<|⟨_,_,O,O,O⟩
end
section
open Go.RowKit Mk Jn Mm Vw
noncomputable abbrev exLs:List (List En):=[[e7 2],[eN],[e7 5,e8 1]]
noncomputable abbrev exW:PV:=.agg [.sl UG 3 (lstsC exLs),.str t10,.sl UG 0 [],.sl UG 0 []]
abbrev tw2:ByteArray:=⟨#[50]⟩
theorem rt2:a6 (((2:Nat):Int):Rat)=tw2:=by decide+kernel
theorem Q7(r:Nat)(z:r<3)(key:List ByteArray)(D:key.length<=1)(g:Gv)(x:ByteArray)(s:atV (exLs.getD r []) key=g)(A:kA (cn g.m)=kf x):FnP prog 19 [exW,.int .i64 r,bh key] (· =kf x):=by
 have B:∀w:Nat,w<=40000->MF1 (cn (cnt w)):=λw hw=>oH (ur w) XZ hw (aJ 8)
 have u:∀E∈exLs,E.length<=1000000/\∀e∈E,e.v.length<=1000000/\MF1 (cn e.g.m):=by grind
 have q:r<exLs.length:=z;obtain⟨h1,h2⟩:=u exLs[r] (ak q);have h:=SF exLs t10 UG UG 0 0 [] [] r q key XX h1 h2;have e:exLs.getD r []=exLs[r]:=by rw[Ur,BY q];rfl
 rw[e]at s;rw[s,A]at h;exact h
theorem at_root:FnP prog 19 [exW,.int .i64 1,bh []] (· =kf t10):=
 Q7 1 XZ [] XZ (cg 10 1 3) t10 XY (ru 10 t10 TH)
theorem at_7:FnP prog 19 [exW,.int .i64 0,bh [Vw.t7]] (· =kf tw2):=
 Q7 0 XZ [Vw.t7] XZ (cg 2 1 1) tw2 XY (ru 2 tw2 rt2)
theorem at_8:FnP prog 19 [exW,.int .i64 0,bh [Vw.t8]] (· =kf t0):=
 Q7 0 XZ [Vw.t8] XZ gz t0 XY (by rw[Ay];show PV.agg [.str (a6 ((0:Int):Rat)),_,_]=_;rw[qb];rfl)
def zT(i:Nat):ByteArray:=if i=0 then t1 else t10
theorem KE:FnP prog 56 [gg bm,nB bE,exW] (· = .tup [kf t10,.int .i64 0]):=by
 refine FnP.ofC func56 O ntmps56 X2 λ_ _ _ _=>?_
 have z:=fP bm oe bE XZ;rw[uH]at z;have A:=uQ bm oe bE XZ (-1);rw[pF XZ,NB]at A;have D:=RZ;have E:=at_root;have G:∀i,i<1->FnP prog 124 [kf (zT i),kf t10] (· = .tup [kf (zT (i+1)),.int .i64 0]):=λi hi=>by
  obtain rfl:i=0:=XX;exact Rz
 refine Gr O<|Ar 5 O<|Z2 O<|Rs O (aa call54 z O)<|A1 O<|Z2 O<|Gc O (λq=>absurd q XZ) (λq=>?_);refine TM<|Gr O<|Ar 7 O<|Gc O (λs=>absurd s XZ) (λs=>?_);refine TM<|Gr O<|Rs O (aa call122 D O)<|Y2 O<|Z2 O<|Rs O (aa call123 A O)<|Y2 O<|Gl O (st:=λX6:Nat=>mkS [(5,.ptr 2 0),(6,.ptr 3 0),(9,.ptr 4 0),(32,.pv (aq [1])),(33,pIi 1),(34,pIi X6)] [(2,.mix 49 [.pv (.sl UG 3 (lstsC exLs)),.pv (.str t10),.pv (.sl UG 0 []),.pv (.sl UG 0 [])]),(3,.mix 47 [.pv (.str ⟨#[]⟩),.pv nS,.pv nS]),(4,.mix 47 [.pv (.str (zT X6)),.pv (.sl UG 0 []),.pv (.sl UG 0 [])])] 5)
  (I:=λX6=>X6<=1) (μ:=λX6=>1-X6) (x0:=(0)) (TO (aS O) (aO XY) O O) (aJ _) ?_
 rintro i hi;refine Z1 O<|Gp O (λB=>?_) (λB=>?_)
 .have hi1:i<1:=XX;have M:=G i hi1;have J:(aN [1])[i*1]? =UF (.int .i64 1):=by obtain rfl:i=0:=(XX);rfl
  have L:aN [1]≠[]:=X2;refine TM<|Gr O<|Rs O (ag i underlying22 sz3 O O O hi1 L)<|Rs O (ar ⟨_,underlying3,O⟩ O J)<|A1 O<|UB 11 O<|Dr 3 O<|Ds [] O (λτ h=>aa call19 E (h.aE O)) O XY<|Ds [] O (λτ h=>aa call124 M (h.aE O)) O XY<|Dr 6 O ?_;refine⟨XY,?_⟩;refine Z2 O<|Gc O (λu=>absurd u XZ) (λu=>?_);exact TM<|Z2 O<|Z2 O<|⟨(i+1),TO (aS O) (aO XY) O O,hi1,XX⟩
 have hi1:i=1:=XX;subst hi1;exact Gx O<|Z3 O<|Gt O<|⟨_,_,O,O,⟨au ⟨_,underlying47,O⟩ EV O O O,X5⟩,O⟩
end
section
open Go.RowKit Mk Jn Mm Vw
theorem BJ(e:En)(w:Nat)(x:ByteArray)(q:e.g.m=cnt w)(s:a6 ((w:Int):Rat)=x)(u:KT x)(z:(x.toList==t0.toList)=WA)(K:List Int)(A:e.v.length=K.length)(B:∀a∈K,a=1)(D:∀y∈e.v,aQ y=VA/\(rdZ y).natAbs<1000000000):EOk bm K e:=by
 have hc:kA (cn e.g.m)=kf x:=by rw[q];exact ru w x s
 refine⟨A,?_,?_,λj h1 h2=>⟨1,XZ,B _ (ak h1),qW _ _ (.inr (D _ (ak h2)))⟩⟩
 .rw[hc];exact O2 x u
 rw[hc];exact Qu x t0 z
theorem GR(K:List Int)(E:List En)(D:(K=[1]/\E=[e7 2])\/(K=[]/\E=[eN])\/(K=[1]/\E=[e7 5,e8 1])):FnP prog 55 [gg bm,aq K,.sl UG E.length (entsC E)] (· = .bool VA):=by
 have s:a6 (((2:Nat):Int):Rat)=⟨#[50]⟩:=by decide+kernel
 have u:a6 (((5:Nat):Int):Rat)=⟨#[53]⟩:=by decide+kernel
 have z:KT ⟨#[50]⟩:=⟨by decide+kernel,by decide+kernel,by decide+kernel⟩;have A:KT ⟨#[53]⟩:=⟨by decide+kernel,by decide+kernel,by decide+kernel⟩;have q:∀y∈[Vw.t7],aQ y=VA/\(rdZ y).natAbs<1000000000:=λy hy=>by rw[IT]at hy;subst hy;exact⟨by decide+kernel,by decide+kernel⟩
 have B:∀y∈[Vw.t8],aQ y=VA/\(rdZ y).natAbs<1000000000:=λy hy=>by rw[IT]at hy;subst hy;exact⟨by decide+kernel,by decide+kernel⟩
 rcases D with⟨rfl,rfl⟩|⟨rfl,rfl⟩|⟨rfl,rfl⟩
 .refine jA bm XZ [1] XZ [e7 2] XZ (λe he=>?_) (λi h=>absurd h X2);rw[IT]at he;subst he;exact BJ _ 2 _ O s z (by decide+kernel) [1] O X2 q
 .refine jA bm XZ [] XZ [eN] XZ (λe he=>?_) (λi h=>absurd h X2);rw[IT]at he;subst he;exact BJ _ 10 _ O TH kt10 (by decide+kernel) [] O X2 X2
 refine jA bm XZ [1] XZ [e7 5,e8 1] XZ (λe he=>?_) (λi h=>?_)
 .simp only[By,Vy,Xd]at he;rcases he with rfl|rfl
  .exact BJ _ 5 _ O u A (by decide+kernel) [1] O X2 q
  exact BJ _ 1 _ O rt1 kt1 (by decide+kernel) [1] O X2 B
 obtain rfl:i=0:=by simp at h;omega
 show bB [Vw.t7] [Vw.t8]=VA;decide+kernel
theorem Mj:FnP prog 20 [gg bm,nB bE,exW] (· = .bool VA):=by
 refine FnP.of func20 O ntmps20 X2 λ_ _ _ _=>?_
 have A:=fP bm oe bE XZ;rw[uH]at A;have M:=NO bm oe bE Jh;have z:=KE;have U:=Mv t10;have ad:(bC bm bE).kes.length=3:=by simp[bC,bo]
 have B:∀i (h:i<3) (h2:i<(bC bm bE).kes.length),FnP prog 55 [gg bm,aq (bC bm bE).kes[i],.sl UG (exLs[i]'h).length (entsC (exLs[i]'h))] (· = .bool VA):=λi h h2=>by
  have:i=0\/i=1\/i=2:=XX;rcases this with rfl|rfl|rfl
  .exact GR _ _ (.inl ⟨(E7 (S:=bm) (P:=bE) (v:=0) XZ).trans Jb,O⟩)
  .exact GR _ _ (.inr (.inl ⟨(E7 (S:=bm) (P:=bE) (v:=1) XZ).trans N8,O⟩))
  exact GR _ _ (.inr (.inr ⟨(E7 (S:=bm) (P:=bE) (v:=2) XZ).trans HX,O⟩))
 obtain⟨l,hl⟩:∃l,l=exLs:=⟨_,O⟩;have af:l.length=3:=by rw[hl];rfl
 have G:∀i (h:i<l.length) (h2:i<(bC bm bE).kes.length),FnP prog 55 [gg bm,aq (bC bm bE).kes[i],.sl UG l[i].length (entsC l[i])] (· = .bool VA):=λi h h2=>by subst hl;exact B i h h2
 unfold exW at z ⊢;rw[<-hl]at z ⊢;clear B hl;generalize bC bm bE=D at*;refine Z4 O<|Z2 O<|Rs O (aa call54 A O)<|Ar 10 O<|Gc O (λs=>absurd s XZ) (λs=>?_);refine TM<|Z2 O<|Rs O (aa call27 M O)<|Y2 O<|Z4 O<|Gz O (st:=λX6:Nat=>([(3,UG),(4,UG),(5,UG),(7,UG),(29,UG),(30,UG),(31,UF (pIi X6))],[(0,UG),(1,UG),(2,UG),(3,UG)])) 4
  (I:=λX6=>X6<=3) (μ:=λX6=>3-X6) (x0:=(0)) (TO (aS O) (aO XY) O O) (aJ _) ?_
 rintro i hi;refine Z1 O<|Gp O (λL=>?_) (λL=>?_)
 .have hlt:i<l.length:=XX;have J:i<3:=XX;have q:i<D.kes.length:=XX;have Y:=rM hlt;have Z:=qo hlt;have ab:=gM q;have ac:=gv q;have he:=G i hlt q;generalize l[i]=E at*;generalize D.kes[i]=K at*;refine TM<|Z1 O<|Rs O (ag i underlying42 Dz O O O J Z)<|Rs O (ar ⟨_,underlying57,O⟩ O Y)<|Y2 O<|UB 9 O<|Dr 4 O<|Ds [] O (λτ h=>ag i underlying80 sT (Ee h 0 O O) (Ee h 1 O O) O q ac) O XY<|Ds [] O (λτ h=>ar ⟨_,underlying22,O⟩ (Ee h 0 O O) ab) O XY<|D1 O<|Ds [] O (λτ h=>aa call55 he (h.aE O)) O XY<|D1 O ?_;refine⟨XY,?_⟩;refine Gc O (λu=>absurd u XZ) (λu=>?_);exact TM<|Z2 O<|⟨(i+1),TO (aS O) (aO XY) O O,XX,XX⟩
 exact Gx O<|Z3 O<|Rs O (aa call56 z O)<|Ar 6 O<|Gr O<|Ar 6 O<|Rg O (aa call57 U O)<|Y2 O<|Gt O<|⟨_,_,O,O,O⟩
end
section
open Mk
theorem Fz{k':Nat}(h:upF P k x=UF l)(q:k<=k'):upF P k' x=UF l:=by
 induction q with
 |refl=>exact h
 |step _ ih=>exact ph ih
theorem uV(h:upF P k x=UF l)(q:¬x<0):∃k' l',k=k'+1/\l=x::l'/\upF P k' (P.getD x.toNat 0)=UF l':=by
 cases k with
 |zero=>simp[upF,q]at h
 | succ k=>
   simp only[upF,pF q,Wj]at h;obtain⟨l',h1,h2⟩:=h;exact⟨k,l',O,h2.symm,h1⟩
theorem uq:∀{k:Nat}{x:Int}{l:List Int},upF P k x=UF l->∀i (q:i<l.length),∃k',upF P k' l[i]=UF (l.drop i)
 | k,x,l,h,i,q=>by
   by_cases hx:x<0
   .grind[gU]
   obtain⟨k',l',rfl,rfl,h2⟩:=uV h hx;cases i with
   |zero=>exact⟨k'+1,h⟩
   |succ i=>exact uq h2 i (by simpa using q)
theorem M7{k':Nat}{l':List Int}(h:upF P k x=UF l)(q:upF P k' x=UF l'):l=l':=by grind[Fz,Nat.le_max_left,Nat.le_max_right,Wn]
theorem Ix(h:upF P k x=UF l):l.Nodup:=by
 rw[List.Nodup,UY];intro i j hi hj hij e;obtain⟨k1,h1⟩:=uq h i hi;obtain⟨k2,h2⟩:=uq h j hj;rw[e]at h1;have:=ah List.length (M7 h1 h2);simp at this;omega
theorem Fo(s:∀p∈P,p<P.length):∀{k:Nat}{x:Int}{l:List Int},upF P k x=UF l->x<P.length->∀y∈l,0<=y/\y<P.length
 | k,x,l,h,hx,y,hy=>by
   by_cases h0:x<0
   .grind[gU]
   obtain⟨k',l',rfl,rfl,h2⟩:=uV h h0;rcases By.1 hy with rfl|hy2
   .exact⟨XX,hx⟩
   obtain⟨a,rfl⟩:=tI (show 0<=x by omega);have q:a<P.length:=XX;refine Fo s h2 ?_ y hy2;simp[List.getD,q];exact s _ (ak q)
theorem I5(z:∀p∈P,p<P.length)(h:upF P k x=UF l)(q:x<P.length):l.length<=P.length:=by
 have s:=Fo z h q;have u:((upZ P.length).filter λa=>decide (a∈l)).Perm l:=fF (WI VR (cQ _)) (Ix h) λa=>by
  rw[Wt,VH];refine⟨λh=>h.2,λh=>⟨?_,h⟩⟩;obtain⟨x,q⟩:=tI (s a h).1;exact cf.2 ⟨x,by have:=(s a h).2;omega,q⟩
 rw[<-u.length_eq];exact AI (VZ _ _) (by rw[bo];exact tJ _)
theorem CA:∀{k:Nat}{x:Int}{l:List Int},upF P k x=UF l->upF P l.length x=UF l
 | k,x,l,h=>by
   by_cases h0:x<0
   .grind[gU]
   obtain⟨k',l',rfl,rfl,h2⟩:=uV h h0;have:=CA h2;simp only[IN,upF,pF h0,this,V5]
theorem jJ(P:List Int)(v:Nat)(A:v<P.length)(E:∀p∈P,p<P.length)(Y:P.length<=1000000):FnP prog 40 [nB P,.int .i64 v] (· = .tup [aq (cm P v),.bool (abv P v).isSome]):=by
 refine FnP.of func40 O ntmps40 X2 λ_ _ _ _=>?_
 have G:=a7 A;have J:=aM A;have s:=xn A;have u:=E _ (ak A);refine Z3 O<|Z1 O<|TN (TU 6 1 1 3 O O)<|Z4 O ?_;first|refine A2 O X0 ?_|refine A1 O ?_
 refine A1 O<|Gz O (st:=λX6:List Int×Int=>([(2,UG),(6,UF (.gsl 1 1 X6.1.length)),(7,UF (pIi X6.2))],[(0,UG),(1,UF (.gro 3 (aN X6.1)))])) 2
  (I:=λX6=>X6.1.length<=P.length+1/\X6.2<P.length/\upF P (P.length+1) P[v]=(upF P (P.length+1-X6.1.length) X6.2).map (X6.1++ ·)) (μ:=λX6=>P.length+1-X6.1.length) (x0:=([],P[v])) (TO (aS O) (aO O) O O) (⟨aJ _,u,X2⟩) ?_
 rintro⟨L,x⟩ ⟨hl,hx,hu⟩;try simp only at hl hx hu ⊢
 refine Z2 O<|Gp O (λq=>?_) (λq=>?_)
 .obtain⟨a,rfl⟩:=tI q;have B:a<P.length:=XX;have M:=a7 B;have U:(aN L).length=L.length*1:=X2;refine TM<|Gr O<|Ar 6 O<|Gp O (λz=>?_) (λz=>?_)
  .have hle:L.length=P.length+1:=XX;have D:abv P v=UG:=by
    rw[hle,Nat.sub_self,Cb XX]at hu;rw[s];cases e:upF P P.length P[v]with
    |none=>rfl
    |some l=>rw[ph e]at hu;cases hu
   exact TN (St.lT [])<|Z2 O<|TN (St.lT [4])<|Gt O<|⟨_,_,O,O,by unfold cm;rw[D];rfl⟩
  have hlt:L.length<P.length+1:=XX;refine TM<|Gr O<|Ar 5 O<|Z4 O ?_;first|refine A2 O X0 ?_|refine A1 O ?_
  exact A1 O<|⟨(L++[(a:Int)],P[a]),TP [0,3] ⟨O,by simp;rfl,O,X5⟩ ⟨O,ah (λc=>UF (Ob.gro 3 c)) (fZ L a).symm,X5⟩ O O XZ O,⟨X3,E _ (ak B),by rw[hu,show P.length+1-L.length=P.length+1-(L++[(a:Int)]).length+1 by simp;omega,vD B,Option.map_map];congr 1;funext l;simp⟩,X3⟩
 have hso:abv P v=UF L:=by rw[gU (show x<0 by omega)]at hu;simp at hu;rw[s];exact Fz (CA hu) (I5 E hu u)
 exact Gx O<|TN (TR 1 O O)<|Z3 O<|Gt O<|⟨_,_,O,O,by unfold cm;rw[hso];simp[J3];rfl⟩
theorem Ij(a b:Int)(p q:Bool):((a !=b&& !p)&& !q)= !(a==b||q||p):=by
 rw[bne];cases (a==b)<;>cases p<;>cases q<;>rfl
theorem sK(S:Sch)(hS:SB S)(P:List Int)(hn:P.length<=1000000):FnP prog 39 [gg S,nB P] (· = .int .i64 (o6 S P)):=by
 refine FnP.of func39 O ntmps39 X2 λ_ _ _ _=>?_
 have hb:=hS.a;refine Z3 O<|Z1 O<|Rs O (aa call98 (xD S hS) O)<|A1 O<|Z2 O<|Gc O (λE=>?_) (λE=>?_)
 .exact Z2 O<|Gt O<|⟨_,_,O,O,ah (PV.int .i64) (by unfold o6;rw[AT (inT E)])⟩
 have h0:bG S=0:=inF E;have hV:=jd h0;have ag:=hV.rng;have hr6:=hV.r2;refine TM<|Z4 O<|Gr O<|Ar 5 O<|Gc O (λG=>?_) (λG=>?_)
 .have hne0:¬P.length=S.attrs.length:=by have:=inT G;omega
  exact Z1 O<|Gt O<|⟨_,_,O,O,ah (PV.int .i64) (by unfold o6;rw[pF (λh=>h h0),AT hne0])⟩
 have heq:P.length=S.attrs.length:=by have:=inF G;omega
 refine TM<|Z4 O<|Gz O (st:=λX6:Nat=>([(2,UG),(3,UG),(6,UG),(36,UG),(37,UG),(38,UF (pIi X6))],[(0,UG),(1,UG)])) 2
  (I:=λX6=>X6<=P.length/\((P.take X6).any λp=>decide (p< -1)||decide ((P.length:Int)<=p))=WA) (μ:=λX6=>P.length-X6) (x0:=(0)) (TO (aS O) (aO O) O O) (⟨aJ _,O⟩) ?_
 rintro k ⟨hk,hany⟩;refine Z1 O<|Gp O (λZ=>?_) (λZ=>?_)
 .have hlt:k<P.length:=XX;have hva:=a7 hlt;have aj:=aM hlt;refine TM<|Z1 O ?_;first|refine A2 O X0 ?_|refine A1 O ?_
  refine A1 O<|Z3 O ?_;apply TX 4 44 48 [45,46,47] O X8
  .intro hb2;exact Ar 4 O<|TQ X7 O O O
  .intro hb2;exact Ar 4 O<|TQ X7 O O O
  refine Gc O (λu=>?_) (λu=>?_)
  .rw[<-heq]at u;exact Z1 O<|Gt O<|⟨_,_,O,O,ah (PV.int .i64) (by unfold o6;rw[pF (λh=>h h0),pF (λh=>h heq),AT (sM hlt u)])⟩
  rw[<-heq]at u;exact TM<|Z2 O<|⟨(k+1),TO (aS O) (aO O) O O,⟨XX,gA hlt hany u⟩,XX⟩
 rw[aG XX]at hany;have hP:∀p∈P,p<P.length:=λp hp=>by have:=Xy.1 hany p hp;simp at this;omega
 refine Gx O<|Z4 O<|Gz O (st:=λz:Nat=>([(2,UG),(3,UG),(52,UG),(53,UF (pIi z))],[(0,UG),(1,UG)])) 2
  (I:=λz=>z<=P.length/\((List.range z).all λv=>(abv P v).isSome)=VA) (μ:=λz=>P.length-z) (x0:=(0)) (TO (aS O) (aO O) O O) (⟨aJ _,O⟩) ?_
 rintro q ⟨hq,hall⟩;refine Z1 O<|Gp O (λab=>?_) (λab=>?_)
 .have hlt:q<P.length:=XX;refine TM<|Z2 O<|Z2 O<|Rs O (aa call40 (jJ P q hlt hP hn) O)<|Ar 5 O<|Z2 O<|Gc O (λJ=>?_) (λJ=>?_)
  .have L:((List.range P.length).all λv=>(abv P v).isSome)=WA:=WG.2 ⟨q,Vj.2 hlt,by simpa using J⟩;exact Z1 O<|Gt O<|⟨_,_,O,O,ah (PV.int .i64) (by unfold o6;rw[pF (λh=>h h0),pF (λh=>h heq),pF (by rw[hany];decide),AT L])⟩
  exact TM<|Z2 O<|⟨(q+1),TO (aS O) (aO O) O O,⟨XX,by rw[Xn,Xk,hall];simpa using J⟩,XX⟩
 obtain rfl:q=P.length:=XX;refine Gx O<|Z4 O<|Gz O (st:=λA:Nat=>([(3,UG),(66,UG),(67,UG),(68,UF (pIi A))],[(1,UG)])) 2
  (I:=λA=>A<=S.rels.length/\((S.rels.take A).all λr=>dB P r.2)=VA) (μ:=λA=>S.rels.length-A) (x0:=(0)) (TO (aS O) (aO O) O O) (⟨aJ _,O⟩) ?_
 rintro k ⟨hk,hrall⟩;refine Z1 O<|Gp O (λac=>?_) (λac=>?_)
 .have hlt:k<S.rels.length:=XX;have hrow:=fi hlt;have aj:=ij hlt;have M:=ak hlt;have U:=ag _ M;have hrl:=hS.rl _ M;have L:dB P S.rels[k].2=WA->(S.rels.all λr=>dB P r.2)=WA:=λh=>rK hlt h
  refine TM<|Z1 O ?_;first|refine A3 O X0 ?_|refine A1 O ?_
  refine Y2 O<|Z4 O<|Gz O (st:=λB:Nat=>([(3,UG),(13,UG),(66,UG),(67,UG),(68,UG),(73,UG),(74,UG),(75,UF (pIi B))],[(1,UG),(2,UG)])) 3
   (I:=λB=>B<=S.rels[k].2.length/\((S.rels[k].2.take B).all λa=>S.rels[k].2.all λb=>a==b||hiB P a b||hiB P b a)=VA) (μ:=λB=>S.rels[k].2.length-B) (x0:=(0)) (TO (aS O) (aO O) O O) (⟨aJ _,O⟩) ?_
  rintro i ⟨hi,hia⟩;refine Z1 O<|Gp O (λad=>?_) (λad=>?_)
  .have hil:i<S.rels[k].2.length:=XX;have hvi:=a7 hil;have hnei:=aM hil;have hri:=U _ (ak hil);obtain⟨a,hae⟩:=tI hri.1;rw[hae]at hvi;have hal:a<P.length:=XX;have hla:=j5 P a;refine TM<|Z1 O ?_;first|refine A2 O X0 ?_|refine A1 O ?_
   refine A1 O<|Z4 O<|Gz O (st:=λD:Nat=>([(3,UG),(13,UG),(15,UG),(66,UG),(67,UG),(68,UG),(73,UG),(74,UG),(75,UG),(80,UG),(81,UG),(82,UF (pIi D))],[(1,UG),(2,UG)])) 3
    (I:=λD=>D<=S.rels[k].2.length/\((S.rels[k].2.take D).all λb=>(a:Int)==b||hiB P a b||hiB P b a)=VA) (μ:=λD=>S.rels[k].2.length-D) (x0:=(0)) (TO (aS O) (aO O) O O) (⟨aJ _,O⟩) ?_
   rintro j ⟨hj,hja⟩;refine Z1 O<|Gp O (λaf=>?_) (λaf=>?_)
   .have hjl:j<S.rels[k].2.length:=XX;have hvj:=a7 hjl;have hrj:=U _ (ak hjl);obtain⟨b,hbe⟩:=tI hrj.1;rw[hbe]at hvj;have hbl:b<P.length:=XX;have hlb:=j5 P b;refine TM<|Z1 O ?_;first|refine A2 O X0 ?_|refine A1 O ?_
    refine A1 O<|Z2 O<|Rs O (aa call40 (jJ P a hal hP hn) O)<|Ar 5 O<|Z2 O<|Rs O (aa call40 (jJ P b hbl hP hn) O)<|Ar 5 O<|Z4 O ?_;apply TY 5 101 106 [102,103,104,105] O X8
    .intro hb3;exact Y2 O<|Rg O (aa call41 (ln (cm P a) b XX) O)<|Y2 O<|TQ X7 O O O
    .intro hb3;exact Ar 5 O<|TQ X7 O O O
    refine A1 O ?_;apply TY 5 107 112 [108,109,110,111] O X8
    .intro hb9;exact Y2 O<|Rg O (aa call41 (ln (cm P b) a XX) O)<|Y2 O<|TQ X7 O O O
    .intro hb9;exact Ar 5 O<|TQ X7 O O O
    refine Gc O (λs=>?_) (λs=>?_)
    .rw[Ij,VM]at s;have Y:dB P S.rels[k].2=WA:=by unfold dB;rw[rK hil (rK hjl (by rw[hae,hbe];exact s))]
     exact Z1 O<|Gt O<|⟨_,_,O,O,ah (PV.int .i64) (by unfold o6;rw[pF (λh=>h h0),pF (λh=>h heq),pF (by rw[hany];decide),pF (by rw[hall];decide),AT (L Y)])⟩
    rw[Ij,Bool.not_eq_false']at s;exact TM<|Z2 O<|⟨(j+1),TO (aS O) (aO O) O O,⟨XX,mE hjl hja (by rw[hbe];exact s)⟩,XX⟩
   rw[aG XX]at hja;exact Gx O<|Z2 O<|⟨(i+1),TO (aS O) (aO O) O O,⟨XX,mE hil hia (by rw[hae];exact hja)⟩,XX⟩
  rw[aG XX]at hia;exact Gx O<|Z2 O<|⟨(k+1),TO (aS O) (aO O) O O,⟨XX,mE hlt hrall hia⟩,XX⟩
 rw[aG XX]at hrall;exact Gx O<|Z1 O<|Gt O<|⟨_,_,O,O,ah (PV.int .i64) (by unfold o6;rw[pF (λh=>h h0),pF (λh=>h heq),pF (by rw[hany];decide),pF (by rw[hall];decide),pF (by rw[hrall];decide)])⟩
end
section
open Mk
theorem JC(S:Sch)(P:List Int)(v:Int):((o6 S P !=0||decide (v<0))||decide (v>=(P.length:Int)))= !isB S P v:=by
 have q:decide (v<0)= !decide (v>=0):=by rw[UH];simp
 have s:decide (v>=(P.length:Int))= !decide (v<P.length):=by rw[UH];simp
 unfold isB;rw[q,s,bne];cases (o6 S P==0)<;>cases decide (v>=0)<;>cases decide (v<(P.length:Int))<;>rfl
theorem KP(q:v<P.length):dL P v≠[]:=λh=>by
 have:(v:Int)∈dL P v:=dC.2 ⟨⟨v,q,O⟩,.inl O⟩;rw[h]at this;cases this
theorem yC(S:Sch)(hS:SB S)(P:List Int)(J:P.length<=1000000)(v:Int):FnP prog 11 [gg S,nB P,.int .i64 v] (· =if isB S P v=VA then .sl (UF WA) (dL P v).length (aN (dL P v))else .sl (UF VA) 0 []):=by
 refine FnP.of func11 O ntmps11 X2 λ_ _ _ _=>?_
 refine Z3 O<|Z2 O<|Rs O (aa call39 (sK S hS P J) O)<|Y2 O ?_;apply TX 3 15 18 [16,17] O X8
 .intro hb4;exact Y3 O<|TQ X7 O O O
 .intro hb4;exact Y3 O<|TQ X7 O O O
 refine A1 O ?_;apply TX 6 19 25 [20,21,22,23,24] O X8
 .intro hb8;exact Ar 6 O<|TQ X7 O O O
 .intro hb8;exact Ar 6 O<|TQ X7 O O O
 refine Gc O (λq=>?_) (λq=>?_)
 .rw[JC]at q;exact Z1 O<|Gt O<|⟨_,_,O,O,by rw[pF (by simpa using q)];rfl⟩
 rw[JC]at q;have G:isB S P v=VA:=by simpa using q
 have A:=P6.1 G;have E:=(jO.1 A.1).2;have M:∀p∈P,p<P.length:=λp hp=>(E.rng p hp).2
 obtain⟨a,rfl⟩:=tI A.2.1;have z:=KP (show a<P.length by omega);refine TM<|Z1 O<|TN (TU 7 2 1 3 O O)<|Z4 O<|Gz O (st:=λX6:Nat×List Int=>([(2,UG),(4,UG),(7,UF (.gsl 2 1 X6.2.length)),(28,UG),(29,UF (pIi X6.1))],[(1,UG),(2,UF (.gro 3 (aN X6.2)))])) 3
  (I:=λX6=>X6.1<=P.length/\X6.2=(upZ X6.1).filter (λb=>b==(a:Int)||hiB P a b)) (μ:=λX6=>P.length-X6.1) (x0:=(0,[])) (TO (aS O) (aO O) O O) (⟨aJ _,O⟩) ?_
 rintro⟨k,L⟩ ⟨hk,hL⟩;try simp only at hk hL ⊢
 refine Z1 O<|Gp O (λD=>?_) (λD=>?_)
 .have hlt:k<P.length:=XX;have U:L.length<=k:=by rw[hL];exact AI (VZ _ _) (by rw[bo];exact tJ _)
  have Y:(aN L).length=L.length*1:=X2;have u:=qO (λb=>b==(a:Int)||hiB P a b) k;have Z:=j5 P k;refine TM<|Z2 O<|Z2 O<|Rs O (aa call40 (jJ P k hlt M J) O)<|Ar 5 O<|Z4 O ?_;apply TX 4 41 45 [42,43,44] O X8
  .intro hb3;exact Ar 4 O<|TQ X7 O O O
  .intro hb3;exact Y2 O<|Rg O (aa call41 (ln (cm P k) a XX) O)<|A1 O<|TQ X7 O O O
  refine Gc O (λs=>?_) (λs=>?_)
  .rw[AT (show((k:Int)==(a:Int)||hiB P a k)=VA from s),<-hL]at u;exact Gr O<|Ar 5 O<|Z2 O<|⟨(k+1,L++[(k:Int)]),TP [0,1,4] ⟨O,O,by simp;rfl,O,O,X5⟩ ⟨O,ah (λc=>UF (Ob.gro 3 c)) (fZ L k).symm,X5⟩ O O XZ O,⟨X4,u.symm⟩,X4⟩
  rw[pF (λe=>by have e2:((k:Int)==(a:Int)||hiB P a k)=WA:=s;rw[e2]at e;cases e),<-hL,Vg]at u;exact TM<|Z2 O<|⟨(k+1,L),TO (aS O) (aO O) O O,⟨X4,u.symm⟩,X4⟩
 have hLe:L=dL P a:=by rw[hL,show k=P.length by omega];rfl
 subst hLe;have B:=U7.2 z;exact Gx O<|TN (St.HW 7 O O B (by simpa using z))<|TN (TR 2 O O)<|Z2 O<|Gt O<|⟨_,_,O,O,by rw[AT G];rfl⟩
end
section
open Mk
structure Deep(P l:List Int)(k:Nat)(b m:Int):Prop where
 zero:k=0->m= -1/\b= -1
 pos:0<k->b∈l/\m=(cm P b).length/\∀a∈l.take k,((cm P a).length:Int)<=m
theorem Deep.next{b m:Int}(h:Deep P l k b m)(q:k<l.length):
  (((cm P l[k]).length:Int)>m->Deep P l (k+1) l[k] (cm P l[k]).length)/\(¬ ((cm P l[k]).length:Int)>m->Deep P l (k+1) b m):=by
 refine⟨λs=>⟨λe=>by omega,λ_=>⟨ak q,O,λa ha=>?_⟩⟩,λs=>⟨λe=>by omega,λ_=>?_⟩⟩
 .rw[bH q,UN,IT]at ha;rcases ha with ha|rfl
  .have hp:0<k:=by rcases Ve k with e|e;subst e;simp at ha;exact e
   have:=(h.pos hp).2.2 a ha;omega
  exact Int.le_refl _
 have hp:0<k:=by
  rcases Ve k with e|e
  .have:=(h.zero e).1;omega
  exact e
 obtain⟨h1,h2,h3⟩:=h.pos hp;refine⟨h1,h2,λa ha=>?_⟩;rw[bH q,UN,IT]at ha;rcases ha with ha|rfl
 .exact h3 a ha
 omega
theorem DV(S:Sch)(hS:SB S)(P:List Int)(hn:P.length<=1000000)(r:Int):FnP prog 9 [gg S,nB P,.int .i64 r] (· = .int .i64 (if Ed S P r=VA then-1 else je P (S.rels.getD r.toNat default).2)):=by
 refine FnP.of func9 O ntmps9 X2 λ_ _ _ _=>?_
 refine Z3 O<|Z2 O<|Rs O (aa call39 (sK S hS P hn) O)<|Y2 O ?_;apply TX 3 17 20 [18,19] O X8
 .intro hb4;exact Y3 O<|TQ X7 O O O
 .intro hb4;exact Y3 O<|TQ X7 O O O
 refine A1 O ?_;apply TX 6 21 27 [22,23,24,25,26] O X8
 .intro hb8;exact Ar 6 O<|TQ X7 O O O
 .intro hb8;exact Ar 6 O<|TQ X7 O O O
 refine Gc O (λA=>?_) (λA=>?_)
 .exact Z1 O<|Gt O<|⟨_,_,O,O,by unfold Ed;rw[AT A];rfl⟩
 have hno:Ed S P r=WA:=A;have h3:o6 S P=0/\0<=r/\r<S.rels.length:=by unfold Ed at hno;simp at hno;omega
 have s:=(jO.1 h3.1).2;have hU:=s.jE;have hP:∀p∈P,p<P.length:=λp hp=>(s.rng p hp).2
 obtain⟨q,rfl⟩:=tI h3.2.1;have D:q<S.rels.length:=XX;have hrow:(aU S.rels)[q*2+1]? =UF (aq S.rels[q].2):=ib _ 2 (λ_=>rfl) S.rels q 1 D XZ;have hrne:=ij D;have u:=ak D;have hrl:=hS.rl _ u;have z:∀a∈S.rels[q].2,0<=a/\a<P.length:=by rw[s.len];exact s.val.rng _ u
 have hrp:0<S.rels[q].2.length:=U7.2 (s.val.ne _ u);have L:S.rels.getD (q:Int).toNat default=S.rels[q]:=by simp[List.getD,D]
 have E:=uX hU (s.val.ne _ u) z (s.rt _ u);refine TM<|Z2 O<|Gr O<|Ar 5 O ?_;first|refine A2 O X0 ?_|refine A1 O ?_
 refine Y2 O<|Gz O (st:=λX6:Nat×Int×Int=>([(4,UG),(7,UF (pIi X6.2.1)),(8,UF (pIi X6.2.2)),(33,UG),(34,UG),(35,UF (pIi X6.1))],[(1,UG)])) 2
  (I:=λX6=>X6.1<=S.rels[q].2.length/\Deep P S.rels[q].2 X6.1 X6.2.1 X6.2.2) (μ:=λX6=>S.rels[q].2.length-X6.1) (x0:=(0, -1, -1)) (TO (aS O) (aO O) O O) (⟨aJ _,⟨λ_=>⟨O,O⟩,λh=>absurd h (Nat.lt_irrefl _)⟩⟩) ?_
 rintro⟨k,b,m⟩ ⟨hk,hD⟩;try simp only at hk hD ⊢
 refine Z1 O<|Gp O (λJ=>?_) (λJ=>?_)
 .have hlt:k<S.rels[q].2.length:=XX;have M:=a7 hlt;have hne:=aM hlt;have U:=z _ (ak hlt);have G:=hD.next hlt;obtain⟨a,hae⟩:=tI U.1;rw[hae]at M G;have Y:a<P.length:=XX;refine TM<|Z1 O ?_;first|refine A2 O X0 ?_|refine A1 O ?_
  refine A1 O<|Z2 O<|Rs O (aa call40 (jJ P a Y hP hn) O)<|Ar 5 O<|Z4 O<|Gp O (λB=>?_) (λB=>?_)
  .exact Gr O<|Ar 5 O<|Z2 O<|⟨(k+1,(a:Int),((cm P (a:Int)).length:Int)),TO (aS O) (aO O) O O,⟨X4,G.1 B⟩,X4⟩
  exact TM<|Z2 O<|⟨(k+1,b,m),TO (aS O) (aO O) O O,⟨X4,G.2 B⟩,X4⟩
 have hkl:k=S.rels[q].2.length:=XX;have Z:b=je P S.rels[q].2:=by
  obtain⟨h4,h5,h6⟩:=hD.pos XX;rw[aG XX]at h6;rcases E.2 b h4 with e|e
  .exact e
  have h7:=h6 _ E.1;obtain⟨x,hx⟩:=tI (z _ E.1).1;obtain⟨y,hy⟩:=tI (z _ h4).1;rw[hx,hy]at e;rw[hx,h5,hy]at h7;have:=(JI hU (by have:=(z _ E.1).2;omega) e).2;omega
 exact Gx O<|Z2 O<|Gt O<|⟨_,_,O,O,by rw[pF (by rw[hno];decide),L,Z];rfl⟩
end
section
open Go.RowKit Mk Jn Mm Vw
theorem Ia:FnP prog 16 [] (· = .tup [gg bm,nB bE]):=by
 refine FnP.fg2 (FnP.ofC func16 O ntmps16 X2 λ_ _ _ _=>?_);exact Z2 O<|Z3 O<|Rs O (ax UG X2 el26 O XZ XZ O O)<|Rs O (ax UG X2 vN O XZ XZ O O)<|A1 O<|Rs O (ax UG X2 vN O XZ XZ O O)<|A1 O<|Rs O (ax UG X2 el27 O XZ XZ O O)<|Y3 O<|Z1 O<|Rs O (ax UG X2 vN O XZ XZ O O)<|Y3 O<|Gt O<|⟨_,_,O,O,⟨au ⟨_,underlying30,O⟩ sz30 O O O,au ⟨_,underlying32,O⟩ Ms O O O,X5⟩,O⟩
theorem ex_sj:SJn bm:=⟨XZ,XZ,XZ,XZ⟩
theorem H0(A:List Int)(v:List ByteArray)(w:Int)(s:v.length=A.length)(u:∀a∈A,(bm.attrs.getD a.toNat default).2=1)(z:∀y∈v,aQ y=VA/\(rdZ y).natAbs<1000000000)(q:1<=w/\w<=100):RowOk bm A 1 ⟨v,w⟩:=
 ⟨s,λi h1 h2 nm=>by rw[u _ (ak h2)];exact qW nm _ (.inr (z _ (ak h1))),⟨by show w≠0;omega,q.1,q.2⟩⟩
theorem MV:FnP prog 65 [gg bm,dbP exD] (· = .int .i64 0):=by
 have q:∀y∈[t1,Vw.t7,t3,Vw.t8],aQ y=VA/\(rdZ y).natAbs<1000000000:=λy hy=>by
  simp only[By,Vy,Xd]at hy;rcases hy with rfl|rfl|rfl|rfl<;>exact⟨by decide+kernel,by decide+kernel⟩
 refine u6 bm oe ex_sj FA exD O XZ λr h h2=>?_
 match r,h with
 | 0,_=>
   refine⟨λx hx=>?_,?_⟩
   .obtain rfl:x=⟨[t1,Vw.t7],2⟩:=by simpa using hx
    exact H0 [0,1] _ _ O XZ (λy hy=>q y (by simp at hy ⊢; rcases hy with h|h<;>simp[h])) ⟨XZ,XZ⟩
   show ML [_];exact List.pairwise_singleton _ _
 | 1,_=>
   refine⟨λx hx=>?_,?_⟩
   .have hx:x=⟨[Vw.t7,t3],5⟩\/x=⟨[Vw.t8,t3],1⟩:=by simpa using hx
    rcases hx with rfl|rfl
    .exact H0 [1,2] _ _ O XZ (λy hy=>q y (by simp at hy ⊢; rcases hy with h|h<;>simp[h])) ⟨XZ,XZ⟩
    exact H0 [1,2] _ _ O XZ (λy hy=>q y (by simp at hy ⊢; rcases hy with h|h<;>simp[h])) ⟨XZ,XZ⟩
   show ML [_,_];refine Vd.2 ⟨λx hx=>?_,List.pairwise_singleton _ _⟩;obtain rfl:x=⟨[Vw.t8,t3],1⟩:=by simpa using hx
   show bB [Vw.t7,t3] [Vw.t8,t3]=VA;decide+kernel
theorem Kq:FnP prog 8 [gg bm,nB bE,dbP exD] (· = .tup [exW,.int .i64 0]):=by
 have h:=nC exD ex_vb O XZ (λr h s x q=>by
  match r,h with
  | 0,_=>
    obtain rfl:x=⟨[t1,Vw.t7],2⟩:=by simpa using q
    rfl
  | 1,_=>
    have q:x=⟨[Vw.t7,t3],5⟩\/x=⟨[Vw.t8,t3],1⟩:=by simpa using q
    rcases q with rfl|rfl<;>rfl) FA MV
 rw[Is,LZ,OB]at h;have e:vwsP exLs (cn (cg 10 1 3).m)=exW:=by
  show PV.agg (_::Mr (cn (cnt 10)))=_;have s:Mr (cn (cnt (10:Nat)))=[.str t10,.sl UG 0 [],.sl UG 0 []]:=by
   have:=ru 10 t10 TH;injection this
  rw[show Mr (cn (cnt 10))=Mr (cn (cnt (10:Nat)))from O,s];rfl
 rw[e]at h;exact h
theorem Sv:FnP prog 4 [] (· = .bool VA):=by
 refine FnP.of func4 O ntmps4 X2 λ_ _ _ _=>?_
 have q:=Ia;have s:=Kq;have u:=DZ exLs XZ t10 0 0 [] [];have z:=FX [1,1,2] XZ;have A:=at_7;have B:=at_8;have D:=Mj;have G:=QW;have E:=M5;exact Z1 O<|Gr O<|Rs O (aa call16 q O)<|Ar 7 O<|Gr O<|Rs O (ax UG X2 De O XZ XZ O O)<|A1 O<|Rs O (ax UG X2 Lj O XZ XZ O O)<|Rs O (ax UG X2 De O XZ XZ O O)<|A1 O<|Rs O (ax UG X2 De O XZ XZ O O)<|A1 O<|Rs O (ax UG X2 Lj O XZ XZ O O)<|Rs O (ax UG X2 el34 O XZ XZ O O)<|A1 O<|Z3 O<|Rs O (aa call8 s O)<|Ar 6 O<|Z4 O<|Rg O (aa call18 u O)<|Rg O (ax UG X2 vN O XZ XZ O O)<|Rg O (aa call17 z O)<|Y3 O<|Rg O (ax UG X2 De O XZ XZ O O)<|Rg O (aa call19 A O)<|Rg O (iR underlying47 O O ⟨_,underlying43,O⟩ O O)<|Rg O (Ub O O O (Vh _))<|Ar 5 O<|Rg O (Ub O O O (Vh _))<|Ar 5 O<|Rg O (aa call20 D O)<|Y3 O<|Rg O (ax UG X2 De O XZ XZ O O)<|Rg O (aa call19 B O)<|Rg O (aa call21 G O)<|Rg O (aa call15 E O)<|Y2 O<|Gt O<|⟨_,_,O,O,O⟩
end


section
open Go.RowKit Mk Jn Mm Vw
theorem DX(t:List Int)(k0:Nat)(B:t.length<=600)(u:k0<=t.length):FnO prog 6 1 0 [.ptr big 0] [(big,yq t k0)] (λv ob'=>∃(S:Sch)(q:List Int)(d:List (List Rw))(k':Nat),Made S 5/\q.Perm (upZ S.attrs.length)/\MdD S 4 S.rels.length d/\k'<=t.length/\
  v= .tup [.agg (sCc S),.agg [.pv (aq (ordL S q))],.pv (dbP d)]/\ob'=aA [(big,yq t k')]):=by
 refine FnO.ofC func6 O ntmps6 X2 λ_ _ _ _=>?_
 refine Z3 O<|Z1 O<|RL.call O (mW call22 (yN t k0 5 XX u XX XX) O O ?_);rintro _ _ ⟨⟨S,hM,rfl⟩,k1,hk1,rfl⟩;have z:=kg hM XX;have s:=tR hM XX;have hS:=pH hM;have A:=hM.r2;refine Y2 O<|Ge O follows [0,1,2,4,5,3,6,7,8,9] XY<|Dr 5 O<|DL.rel (RM 73 big (λv c=>(∃q:List Int,q.Perm (upZ S.attrs.length)/\v=nB (ordL S q))/\∃k',k'<=t.length/\c=jh t k')) [big] [] [big] O O O (λτ h=>relM call23 (xu t k1 XX hk1 S s z) (h.args.trans O) (Eo h 0 O O)) O XY XY XY ?_;rintro _ ⟨_,_,⟨⟨q,hq,rfl⟩,k2,hk2,rfl⟩,rfl⟩ _ _;refine DL.rel (RM 73 big (λv c=>(∃d,MdD S 4 S.rels.length d/\v=dbP d)/\∃k',k'<=t.length/\c=jh t k')) [big] [] [big] O O O (λτ h=>relM call24 (tC t k2 XX hk2 S 4 XZ XX (λr hr=>⟨hS.l r hr,hS.b r hr⟩)) (h.args.trans O) (Eo h 0 O O)) O XY XY XY ?_;rintro _ ⟨_,_,⟨⟨d,hd,rfl⟩,k3,hk3,rfl⟩,rfl⟩ _ _;refine Dr 3 O ?_;refine⟨XY,?_⟩;exact Gt O<|⟨[(2,.ptr 0 0),(3,.ptr 1 0),(4,.pv (dbP d))],[(big,yq t k3),(0,oZ S),(1,.mix 32 [.pv (aq (ordL S q))])],[.agg (sCc S),.agg [.pv (aq (ordL S q))],.pv (dbP d)],[(big,yq t k3)],2,TO (aS XY) (aO XY) O O,O,⟨au ⟨_,underlying30,O⟩ sz30 O O O,au ⟨_,underlying32,O⟩ Ms O O O,X5⟩,O,O,λi o h=>by simp only[aA]at h ⊢; cases hb:Nat.beq i big<;>simp_all,aJ _,S,q,d,k3,hM,hq,hd,hk3,O,O⟩
end
section
open Go.RowKit Mk Jn Mm Vw
theorem H5(k:Nat):bp k (k:Rat):=by
 have h:(0:Rat)<=(k:Rat):=Rat.natCast_le_natCast.2 (aJ k);exact⟨by grind,Rat.le_refl⟩
theorem NK[BEq K](l:List (K×Rat))(k:Rat)(x:K):lk (l.map λe=>(e.1,e.2*k)) x=lk l x*k:=by
 induction l with
 |nil=>simp[lk,Rat.zero_mul]
 | cons e l ih=>
   simp only[cd,lk,ih];split<;>grind
theorem LOk.scl{D:Int}{l:List (K×Rat)}(h:LOk D l)(q:(k:Rat)≠0):LOk D (l.map λe=>(e.1,e.2*(k:Rat))):=by
 refine⟨by rw[Vb];exact h.nd,HQ q h.nz,λe he=>?_⟩;obtain⟨x,hx,rfl⟩:=IS.1 he;have:=(h.it x hx).mul (eC.ofInt 1 (k:Int));rw[Int.mul_one]at this;exact this
theorem cn_sc{W:Nat}{x:Mm.Sem}(h:SOk W j x)(B:k≠0):cn (scM k x)=O1 (k:Rat) (cn x):=by
 obtain⟨h1,h2,h3,h4⟩:=h.cn;have q:(k:Rat)≠0:=λe=>B (by exact_mod_cast e)
 have e:(O1 (k:Rat) (cn x)).sem=scM k x:=by
  have u:=ah Mm.Sem.c h2;have es:=ah Mm.Sem.s h2;have A:=ah Mm.Sem.p h2;refine Mm.Sem.same ?_ (λa=>?_) (λa b=>?_)
  .show(cn x).c*(k:Rat)=(k:Rat)*x.c;rw[<-u];exact Rat.mul_comm _ _
  .show lk ((cn x).s.map λe=>(e.1,e.2*(k:Rat))) a=(k:Rat)*x.s a;rw[NK,<-es];exact Rat.mul_comm _ _
  show lk ((cn x).p.map λe=>(e.1,e.2*(k:Rat))) (fl a b)=(k:Rat)*x.p a b;rw[NK,<-A];exact Rat.mul_comm _ _
 have ok:MOk (W*k) j (O1 (k:Rat) (cn x)):=by
  refine⟨?_,LOk.scl h1.s q,LOk.scl h1.p q,λe he=>?_,h1.cb.mul (H5 k),λe he=>?_,λe he=>?_⟩
  .obtain⟨z,hz⟩:=h1.ci;exact⟨z*(k:Int),by show(cn x).c*(k:Rat)=_;rw[hz,Wp];rfl⟩
  .obtain⟨y,hy,rfl⟩:=IS.1 he;exact h1.po y hy
  .obtain⟨y,hy,rfl⟩:=IS.1 he;rw[<-Vm];exact(h1.sb y hy).mul (H5 k)
  obtain⟨y,hy,rfl⟩:=IS.1 he;rw[<-Vm];exact(h1.pb y hy).mul (H5 k)
 rw[<-e];exact K4 ok (vH _ h3) (vH _ h4)
theorem Qa:∀p∈QM S,NmOk p:=by
 have hc:∀t∈PR,(t=⟨#[]⟩\/fI t=VA)/\t.size<=1000:=by
  intro t ht;simp only[PR,Kb,By,Vy,Xd]at ht;rcases ht with rfl|rfl|rfl|rfl
  .exact⟨.inl O,XZ⟩
  .exact⟨.inr (by decide+kernel),XZ⟩
  .exact⟨.inr (by decide+kernel),XZ⟩
  exact⟨.inr (by decide+kernel),XZ⟩
 intro p hp;unfold QM at hp;rcases By.1 hp with rfl|hp
 .exact⟨XZ,.inl O,XZ⟩
 obtain⟨i,_,hp⟩:=UU.1 hp;obtain⟨t,ht,rfl⟩:=IS.1 hp;exact⟨by show(-1:Int)<=(i:Int);omega,(hc t ht).1,(hc t ht).2⟩
theorem Ss{g:Gv}(h:GvOk (QM S) g)(B:MF1 (cn g.m)):V10 (cn g.m):=by
 obtain⟨h1,h2,h3,h4⟩:=h.s.cn;refine⟨B,h3,h4,h1.s.nz,h1.p.nz,λe he=>?_,λe he=>?_,λe he=>?_⟩
 .have:=h1.po e he;have u:=im e.1.1 e.1.2;exact Up XX
 .refine Qa (S:=S) e.1 (U1 λz=>?_);have u:=h.q.s _ z;rw[<-h2]at u;exact h1.s.nz e he ((fo h1.s.nd he).symm.trans u)
 have u:(cn g.m).sem.p e.1.1 e.1.2=e.2:=by
  show lk (cn g.m).p (fl e.1.1 e.1.2)=_;rw[eZ (h1.po e he)];exact fo h1.p.nd he
 have A:g.m.p e.1.1 e.1.2≠0:=by rw[<-h2,u];exact h1.p.nz e he
 exact⟨Qa (S:=S) _ (U1 λz=>A (h.q.p _ _ (.inl z))),Qa (S:=S) _ (U1 λz=>A (h.q.p _ _ (.inr z)))⟩
structure EnS(x:ByteArray)(e y:En):Prop where
 v:y.v=e.v
 l:e.v.length<=1000000
 sc:FnP prog 13 [kA (cn e.g.m),.str x] (· = .tup [kA (cn y.g.m),.int .i64 0])
 same:FnP prog 15 [kA (cn y.g.m),kA (cn y.g.m)] (· = .bool VA)
theorem Sk(q:k<=5):F1 (k:Rat):=⟨by show((k:Int)).natAbs<_;omega,by show(1:Nat)<_;decide⟩
theorem Tu{g:Gv}(h:GvOk (QM S) g)(B:g.w<=40000)(z:g.k<=8)(D:GvOk (QM S) (scG k g))(u:(scG k g).w<=40000)(A:(QM S).length<=1000)(k1:1<=k)(k5:k<=5):
  FnP prog 13 [kA (cn g.m),.str (a6 (k:Rat))] (· = .tup [kA (cn (scG k g).m),.int .i64 0])/\FnP prog 15 [kA (cn (scG k g).m),kA (cn (scG k g).m)] (· = .bool VA):=by
 have q:=oH D A u z;have e:cn (scG k g).m=O1 (k:Rat) (cn g.m):=cn_sc h.s XX;refine⟨?_,GW _ q.ls q.lp⟩;rw[e]at q ⊢;exact Dm (cn g.m) _ (Ss h (oH h A B z)) (Sk k5) (λe=>by have:k=0:=(by exact_mod_cast e);omega) q
section
variable {S:Sch}{P:List Int}{T:List (List Rw)}{Q:List Par}{X:Nat->List ByteArray}{lf:Int->ByteArray->Gv}
theorem VB.Tz(h:VB S P T Q X lf):GvOk Q (totV S P T lf)/\(totV S P T lf).w<=40000/\(totV S P T lf).k<=8:=by
 have q:=(h.part (aC P (-1)).length (tJ _)).1;rw[V7]at q;have s:=Nu (S:=S) (T:=T) (lf:=lf) h.ord.jE λv t=>Vl (h.lfx.k v t)
 have:=h.p5;exact⟨q,h.tot,XX⟩
end
theorem yE{T:List (List Rw)}(z:OrdOk S P)(E:r<T.length)(q:r<S.rels.length)(J:je P S.rels[r].2=(h:Int))(L:h<P.length)(m1:1<=m)(m5:m<=5)(G:∀x∈gT T (r:Int),0<=x.w)
  (I:(QM S).length<=1000) (A:VB S P T (QM S) (XM S) (lfM S)) (s:VB S P (scT T r m) (QM S) (XM S) (lfM S)):
  (∀a,a<P.length->∃f:Nat,(a6 (f:Rat)=if(h:Int)∈dL P (a:Int)then a6 (m:Rat)else⟨#[49]⟩)/\fR (vwS S P (scT T r m) (lfM S) a)=(fR (vwS S P T (lfM S) a)).map (scE f)/\∀e∈fR (vwS S P T (lfM S) a),EnS (a6 (f:Rat)) e (scE f e))/\
  FnP prog 13 [kA (cn (totV S P T (lfM S)).m),.str (a6 (m:Rat))] (· = .tup [kA (cn (totV S P (scT T r m) (lfM S)).m),.int .i64 0])/\
  FnP prog 15 [kA (cn (totV S P (scT T r m) (lfM S)).m),kA (cn (totV S P (scT T r m) (lfM S)).m)] (· = .bool VA):=by
 have B:m≠0:=XX;refine⟨λa ha=>⟨rv S P r m a,?_,?_,λe he=>?_⟩,?_⟩
 .have hi:=Jp z.jE ha q J L;unfold rv;by_cases hb:(h:Int)∈dL P (a:Int)
  .rw[AT hb,AT (hi.2 hb)]
  rw[pF hb,pF λe=>hb (hi.1 e)];decide+kernel
 .rw[iN z E G B ha,FY]
 .have he1:e∈vwS S P T (lfM S) a:=(eV _).mem_iff.1 he;have u:scE (rv S P r m a) e∈vwS S P (scT T r m) (lfM S) a:=by grind[iN,IS.2]
  obtain⟨g1,g2,g3⟩:=A.ev ha he1;obtain⟨q1,q2,_⟩:=s.ev ha u;have D:1<=rv S P r m a/\rv S P r m a<=5:=by unfold rv;split<;>omega
  obtain⟨s1,s2⟩:=Tu g1.ok g2 XX q1.ok q2 I D.1 D.2;refine⟨O,?_,s1,s2⟩;rw[g1.v.len];have:=uu S P a;have:=A.p5;omega
 obtain⟨g1,g2,g3⟩:=A.Tz;obtain⟨q1,q2,_⟩:=s.Tz;rw[xE z E q G B]at q1 q2 ⊢;exact Tu g1 g2 g3 q1 q2 I m1 m5
def mxR(d:List (List Rw))(k:Nat)(v:V):List V:=((dj d).map V.pv).set k v
section
variable {d:List (List Rw)}{k:Nat}{v v':V}
theorem ON:(mxR d k v).length=d.length*1:=by unfold mxR;rw[Ut,AS,dy]
theorem RP(q:k<d.length):(mxR d k v)[k*1]? =UF v:=by
 have:=dy d;unfold mxR;rw[Uv,WX,AT O,AT (by rw[AS];omega)]
theorem Pd(x:PV):(((dj d).set (k*1) x).map V.pv).set k v=mxR d k v:=by
 unfold mxR;rw[Uv,U9,List.set_set]
theorem uC(ρ:Nat->Nat):∀vs:List V,V.renL ρ vs=vs.map (V.ren ρ)
 |[]=>rfl
 |v::vs=>by rw[V.renL,uC ρ vs,cd]
theorem Rc(ρ:Nat->Nat):V.renL ρ (mxR d k v)=mxR d k (v.ren ρ):=by
 unfold mxR;rw[uC,U9,<-uC,qm]
theorem Jg(n:Nat):∀vs:List V,V.okL n vs=vs.all (V.okA n)
 |[]=>rfl
 |v::vs=>by rw[V.okL,Jg n vs,V1]
theorem S5(h:v.okA n=VA):V.okL n (mxR d k v)=VA:=by
 have q:=Cw n (dj d);rw[Jg]at q ⊢;rw[IX]at q ⊢;intro x hx;unfold mxR at hx;rcases List.mem_or_eq_of_mem_set hx with hx|rfl
 .exact q x hx
 exact h
theorem QS(id:Nat)(cs:List PV)(m:Nat)(l:List Rw)(u:k<d.length)(z:d[k]=l)(hc:cs=a8 (l.map λx=>⟨x.v,x.w*(m:Int)⟩)):V.pubL id WA cs (mxR d k (.gsl id 2 l.length))=(dj (scT d k m)).map V.pv:=by
 subst hc;unfold mxR;rw[Bn,U9,Vb];have q:(V.pubV id WA (a8 (l.map λx=>⟨x.v,x.w*(m:Int)⟩))∘V.pv)=V.pv:=rfl;have s:V.pubV id WA (a8 (l.map λx=>⟨x.v,x.w*(m:Int)⟩)) (.gsl id 2 l.length)= .pv (oS (l.map λx=>⟨x.v,x.w*(m:Int)⟩)):=by
  simp only[V.pubV,XU,VG];show V.pv (PV.sl UG l.length _)=V.pv (PV.sl UG (l.map _).length _);rw[AS]
 rw[q,s,<-U9];unfold scT dj;rw[U9];simp[List.getD,u,z]
theorem KC(s:k<d.length):gj (mxR d k v) (k*1) [v']=mxR d k v':=by
 have:=dy d;simp only[gj,Uu,Uv];unfold mxR;rw[V3,V3,AT (by rw[AS];omega),AT (by rw[AS];omega)];have q:((dj d).map V.pv).length=d.length:=by rw[AS];omega
 rw[XQ (by rw[OF];omega),List.drop_append];simp[OF,q,show min k d.length=k by omega,show k+1-k=1 by omega]
end
section
variable {C:Ctx}{n:Nat}{σ:St}{ty:TypeId}{pos:String}{after:Array Edge}{gd:Option (Nat×Bool)}{x y:Operand}
theorem EM{T T':TypeId}{id sz:Nat}{d:List (List Rw)}{v0:V}(q:bR C.P T 1)(s:σ.ev n x= .ptr id (k*1))(u:σ.ob id=UF (.mix T' (mxR d k v0)))(z:σ.ev n y= .gsl i sz j)(A:k<d.length):
  XJ C n ⟨UG,.store T x y,ty,pos,after,gd⟩ σ ⟨.pv .any,[(id,UF (.mix T' (mxR d k (.gsl i sz j))))],[]⟩:=by
 have h:=mG (pos:=pos) (after:=after) (gd:=gd) (ty:=ty) q s u z O (by rw[ON];omega) O O;have e:gj (mxR d k v0) (k*1) (V.gsl i sz j).cells=mxR d k (.gsl i sz j):=KC A;rw[e]at h;exact h
end
theorem QL{l:List Rw}(q:i<l.length):a8 ((l.take i).map λx=>⟨x.v,x.w*(m:Int)⟩)++[bh l[i].v,.int .i64 (l[i].w*(m:Int))]=a8 ((l.take (i+1)).map λx=>⟨x.v,x.w*(m:Int)⟩):=by
 rw[sh q,UO];unfold a8;rw[U6];simp
theorem nG(t:List Int)(q0:Int)(hq0:0<=q0/\q0<=255):FnP prog 3 [aq t,.int .u8 q0] (· = .bool VA):=by
 refine FnP.of func3 O ntmps3 X2 λ_ _ _ _=>?_
 have hsa:=Sv;obtain⟨m,hm⟩:∃m:Nat,(m:Int)=2+q0.tmod 4:=⟨(2+q0.tmod 4).toNat,by have:=Int.tmod_nonneg 4 hq0.1;omega⟩;have ax:2<=m/\m<=5:=by
  have h1:=Int.tmod_nonneg 4 hq0.1;have h2:=Int.tmod_lt_of_pos q0 (show(0:Int)<4 by decide);omega
 have hw0:IntKind.i64.wrap q0=q0:=eF XX;refine Z1 O<|Z3 O<|Gp O (λhc29=>?_) (λhc29=>?_)
 .exact Gr O<|Rs O (aa call4 hsa O)<|A1 O<|Gt O<|⟨_,_,O,O,O⟩
 have hL:t.length<=400:=XX;refine TM<|Z1 O<|RL.call O (xy [] 0 call5 (Lb t XX) O O O O trivial XZ O ?_);rintro _ _ ⟨rfl,rfl⟩;refine A1 O<|Z1 O<|RL.call O (cj [0] 1 call6 O O O O (by exact⟨XY,X5⟩) XZ O (DX t 0 XX (aJ _)) ?_);rintro _ _ ⟨S,q,d,k1,hM,hq,hd,hk1,rfl,rfl⟩;refine Ar 9 O ?_;have h0:=kg hM XX;have hV:=jd h0;have az:=tR hM XX;have hSJ:=pH hM;have hO:OrdOk S (ordL S q):=(BK hV hq).ok hV hq;have hlen:=hO.len;have hP0:=jO.2 ⟨h0,hO⟩;have U:=QV hM hd;have Y:=U.n;have hr1:=hM.r1;have hr2:=hM.r2;have ha2:=hM.a2;have hnn:=gB t k1 d.length XX hk1 XX XX;have hni:=jL t k1 d.length XX;obtain⟨k,hk⟩:=tI hni.1;rw[hk]at hnn;have u:k<d.length:=by have:=hni.2;omega
 have Z:k<S.rels.length:=XX;clear hni hk;have ab:Vw.WD S (cw S d):=by
  have:=OP hd d.length;rwa [List.set_eq_of_length_le (tJ _)]at this
 have aA:=HJ hM hO ab;have aB:k<(cw S d).length:=by rw[ab.len];exact Z
 have D:=vb_sc hM hO ab aB XX ax.2;obtain⟨h,hh,hhl⟩:=vR hO Z;have hQ:(QM S).length<=1000:=by rw[Oq];have:=eO hM.fs;omega
 have hw00:∀x∈gT (cw S d) (k:Int),0<=x.w:=λx B=>by
  have e:gT (cw S d) (k:Int)=(cw S d)[k]:=by simp[gT,List.getD,aB]
  rw[e]at B;exact ab.w _ (ak aB) x B
 obtain⟨hlaw,hsct,hsmt⟩:=yE hO aB Z hh hhl XX ax.2 hw00 hQ aA D;rw[<-QP Y]at D hlaw hsct hsmt;have ac:∀l∈d,l.length<=60:=λl hl=>by have:=U.l l hl;omega
 have J:=nC d aA Y ac (λr h h2 x B=>((U.t r h h2).row x B).l) h0 (u6 S az hSJ h0 _ Y ac U.t);have L:(scT d k m).length=S.rels.length:=by rw[scT,Ut];exact Y
 have hsl:∀l∈scT d k m,l.length<=60:=λl hl=>by
  rcases F5 u hl with hl2|⟨l0,hl2,rfl⟩
  .exact ac l hl2
  rw[AS];exact ac l0 hl2
 have hst:=db_sc hd u XX ax.2 U.t;have M:=nC (scT d k m) D L hsl (λr h h2 x B=>((hst r h h2).row x B).l) h0 (u6 S az hSJ h0 _ L hsl hst);have hmw:=Oo hd k u Z;obtain⟨LS,hLS⟩:∃LS:List (List En),LS=(List.range (ordL S q).length).map λa:Nat=>fR (vwS S (ordL S q) (cw S d) (lfM S) a):=⟨_,O⟩
 obtain⟨LT,hLT⟩:∃LT:List (List En),LT=(List.range (ordL S q).length).map λa:Nat=>fR (vwS S (ordL S q) (cw S (scT d k m)) (lfM S) a):=⟨_,O⟩
 have hLl:LS.length=S.attrs.length:=by rw[hLS,AS,List.length_range];exact hlen
 have hTl:LT.length=S.attrs.length:=by rw[hLT,AS,List.length_range];exact hlen
 have hen:∀a (ha:a<LS.length) (hb:a<LT.length),LT[a].length=LS[a].length/\LS[a].length<=216/\∀i (h1:i<LS[a].length) (h2:i<LT[a].length),EnS (if(h:Int)∈dL (ordL S q) (a:Int)then a6 (m:Rat)else⟨#[49]⟩) LS[a][i] LT[a][i]:=λa ha hb=>by
  obtain⟨f,hf,e,B⟩:=hlaw a XX;have e1:LS[a]=fR (vwS S (ordL S q) (cw S d) (lfM S) a):=by simp only[hLS,VC,List.getElem_range]
  have e2:LT[a]=LS[a].map (scE f):=by rw[e1,<-e];simp only[hLT,VC,List.getElem_range]
  have e0:=aA.len (v:=a) XX;refine⟨by rw[e2,AS],by rw[e1,(eV _).length_eq];exact e0,λi h1 h2=>?_⟩;have e3:LT[a][i]=scE f LS[a][i]:=by simp only[e2,VC]
  rw[<-hf,e3];exact B _ (by rw[<-e1];exact ak h1)
 rw[<-hLS]at J;rw[<-hLT]at M;generalize cn (totV S (ordL S q) (cw S d) (lfM S)).m=z at J hsct;generalize cn (totV S (ordL S q) (cw S (scT d k m)) (lfM S)).m=z2 at M hsct hsmt;unfold vwsP at J M;rw[hLl]at J;rw[hTl]at M;have hho:=DV S az (ordL S q) XX k;rw[pF (show ¬Ed S (ordL S q) k=VA by unfold Ed;rw[hP0];simp;omega),show(S.rels.getD ((k:Nat):Int).toNat default).2=S.rels[k].2 by simp[List.getD,Z],hh]at hho;have hbl:=λi:Nat=>yC S az (ordL S q) XX (i:Int)
 have hisB:∀i:Nat,i<S.attrs.length->isB S (ordL S q) i=VA:=λi hi=>by unfold isB;rw[hP0];simp;omega
 have hbln:∀i:Nat,(dL (ordL S q) i).length<=1000:=λi=>by have:=VZ (λa=>a==(i:Int)||hiB (ordL S q) i a) ((List.range (ordL S q).length).map Int.ofNat);rw[AS,List.length_range]at this;show(List.filter _ _).length<=_;omega
 generalize ordL S q=P at*;have hbu2:FnP prog 8 [gg S,nB P,dbP d] (· = .tup [.agg [.sl UG S.attrs.length (lstsC LS),.str (a6 z.c),.sl UG z.s.length (bd (tmL z.s)),.sl UG z.p.length (bj (prL z.p))],.int .i64 0]):=J;have hbw2:FnP prog 8 [gg S,nB P,.sl UG (scT d k m).length (dj (scT d k m))] (· = .tup [.agg [.sl UG S.attrs.length (lstsC LT),.str (a6 z2.c),.sl UG z2.s.length (bd (tmL z2.s)),.sl UG z2.p.length (bj (prL z2.p))],.int .i64 0]):=M;rw[L,<-Y]at hbw2;have hwh:FnP prog 12 [.int .i64 (m:Int)] (· = .str (a6 (m:Rat))):=by
  have:=zE (m:Int) XX XX;rwa [show(⟨(Lib.itoa (m:Int)).toArray⟩:ByteArray)=a6 (m:Rat)from(AT (show((m:Nat):Rat).den=1 from O)).symm]at this
 clear J M aA D ab hlaw hLS hLT hst hsl L;have hdp:0<d.length:=XX;have htl:=dy d;have hmk:(((dj d).set (k*1) nS).map V.pv)[k]? =UF (.pv nS):=by rw[Uv,Wc,WX,AT O,AT XX];rfl
 have hini:=Pd (d:=d) (k:=k) (v:=.gsl 4 2 0) nS;have hok:∀j,V.okL 5 (mxR d k (.gsl 4 2 j))=VA:=λj=>S5 O
 refine Z3 O<|RL.call O (mW call7 hnn O O ?_);rintro _ _ ⟨rfl,rfl⟩;refine A1 O<|Z1 O<|Rs O (XJ.cast (v':= pIi q0) (jk underlying5 underlying3 O) (ah (λi=>pIi i) hw0))<|Rs O (fp O O XZ)<|Rs O (XJ.cast (v':= pIi (m:Int)) (kM O O XX) (ah (λi=>pIi i) hm.symm))<|A1 O<|Z1 O<|Rs O (oc 3 el34 O (.inl ⟨UG,O⟩) XX (L2 d) XX hdp O)<|A1 O<|Z2 O<|Rs O (aj k underlying34 NZ O O O O u)<|A1 O<|TN (St.qJ (T:=38) (cs:=(dj d).set (k*1) nS) 3 XY)<|TN (St.cV (T':=38) (cs:=((dj d).set (k*1) nS).map V.pv) 3 k 4 2 41 XY hmk O) ?_;have htr:=vB u;have ad:=vi u;obtain⟨l,hl⟩:∃l,d[k]=l:=⟨_,O⟩;have hll:l.length<=60:=by rw[<-hl];exact ac _ (ak u)
 rw[hl]at htr hmw;refine Z2 O<|Rs O (ag k underlying34 NZ O O O u ad)<|Rs O (ar ⟨_,underlying38,O⟩ O htr)<|Y2 O<|Gl O (st:=λX6:Nat=>mkS [(6,.ptr 1 0),(7,.ptr 2 0),(8,.pv (dbP d)),(9,pIi k),(10,pIi m),(11,.osl 3 1 d.length),(55,.pv (oS l)),(56,pIi l.length),(57,pIi X6)] [(1,oZ S),(2,.mix 32 [.pv (aq P)]),(3,.mix 38 (mxR d k (.gsl 4 2 X6))),(4,.gro 41 (a8 ((l.take X6).map λx=>⟨x.v,x.w*(m:Int)⟩)))] 5)
  (I:=λX6=>X6<=l.length) (μ:=λX6=>l.length-X6) (x0:=(0)) (TO (aS O) ⟨XY,XY,UI (b:=UF (.mix 38 ((((dj d).set (k*1) nS).map V.pv).set k (.gsl 4 2 0)))) XY (ah (λc=>UF (Ob.mix 38 c)) hini),XY,X5⟩ O (by simp only[V1,Xx,Wu,Ob.okA,IN,V6,UQ,Nat.reduceAdd,hok];rfl)) (aJ _) ?_
 rintro i hi;refine Z1 O<|Gp O (λhc58=>?_) (λhc58=>?_)
 .have hlt:i<l.length:=XX;have hrow:=fa hlt;have hne:=gL hlt;have hmb: -9223372036854775808<=l[i].w*(m:Int)/\l[i].w*(m:Int)<=9223372036854775807:=by
   have h1:=hmw _ (ak hlt);have h2:=Vw.w6 (show 1<=m by omega) ax.2 (z:=l[i].w) ⟨XX,h1.2⟩;omega
  have hat:=RP (v:=.gsl 4 2 i) u;have hgl:(a8 ((l.take i).map λx=>⟨x.v,x.w*(m:Int)⟩)).length=i*2:=by rw[bS,AS,OF,U5 XX]
  have L:=QL (m:=m) hlt;refine TM<|Gr O<|Rs O (ag i underlying38 Ko O O O hlt hne)<|Rs O (aF ⟨_,underlying41,O⟩ Ko O hrow O)<|Y2 O<|UB 17 O<|Dr 4 O<|Ds [3] O (λτ h=>aj k underlying34 NZ (Ee h 0 O O) (Eo h 0 O O) (Ee h 1 O O) O u) O XY<|Ds [3] O (λτ h=>ns ⟨_,underlying38,O⟩ (Ee h 0 O O) (Eo h 0 O O) hat) O XY<|Dr 5 O<|Ds [] O (λτ h=>Cq (Ee h 0 O O) (Ee h 1 O O) hmb) O XY<|Dr 2 O<|Ds [_,_] O (λτ h=>fW 7 Lj (Ee h 0 O O) (Eo h 0 O O) hgl (Ee h 1 O O) (Eo h 1 O O) O O XX (h.n 0 _ O)) O XY<|Ds [3] O (λτ h=>aj k underlying34 NZ (Ee h 0 O O) (Eo h 0 O O) (Ee h 1 O O) O u) O XY<|DL.step (d:=UG) [3] O O O (λτ h=>EM NZ (Ee h 0 O O) (Eo h 0 O O) (Ee h 1 O O) u) O XY ?_;refine⟨XY,?_⟩;exact Z2 O<|⟨(i+1),TP [0,1,2,3,7] (aT O) ⟨XY,XY,UI (b:=UF (.mix 38 (mxR d k (.gsl 7 2 (i+1))))) XY (ah (λc=>UF (Ob.mix 38 c)) (Rc (jt [0,1,2,3,7]) (d:=d) (k:=k) (v:=.gsl 4 2 (i+1))).symm),UI (b:=UF (.gro 41 (a8 ((l.take i).map λx=>⟨x.v,x.w*(m:Int)⟩)++[bh l[i].v,.int .i64 (l[i].w*(m:Int))]))) XY (ah (λc=>UF (Ob.gro 41 c)) L),X5⟩ O (by simp only[V1,Xx,Wu,Ob.okA,IN,V6,UQ,Nat.reduceAdd,hok];rfl) XZ O,hlt,XX⟩
 obtain rfl:i=l.length:=XX;rw[V7];have hmx:=QS 4 (a8 (l.map λx=>⟨x.v,x.w*(m:Int)⟩)) m l u hl O;have htl2:(dj (scT d k m)).length=d.length*1:=by rw[dy,scT,Ut]
 refine Gx O<|TN (TR (o:=.gro 41 (a8 (l.map λx=>⟨x.v,x.w*(m:Int)⟩))) 4 XY O)<|TN (St.yV (id:=3) (T:=38) (vs:=V.pubL 4 WA (a8 (l.map λx=>⟨x.v,x.w*(m:Int)⟩)) (mxR d k (.gsl 4 2 l.length))) (cs:=dj (scT d k m)) XY hmx)<|Wk [(6,.ptr 1 0),(7,.ptr 2 0),(8,.pv (dbP d)),(9,pIi k),(10,pIi m),(11,.osl 3 1 d.length)] [(1,oZ S),(2,.mix 32 [.pv (aq P)]),(3,.cells 38 (dj (scT d k m)))] 4 (aS O) (aO XY) O O<|TN (St.Oc 3 [11] O ⟨O,X5⟩ XX) ?_;rw[aG (show(dj (scT d k m)).length<=d.length*1 by omega)];refine Z3 O<|Rs O (aa call8 hbu2 O)<|Ar 6 O<|Z3 O<|Rs O (aa call8 hbw2 O)<|Ar 6 O<|Gr O<|Ar 13 O<|Rg O (T6 O O O (Xf _))<|Ar 8 O<|Rg O (T6 O O O (Xf _))<|A1 O<|Gc O (λal=>absurd al XZ) (λal=>?_);refine TM<|Z3 O<|Rs O (aa call9 hho O)<|A1 O<|Z4 O<|Gz O (st:=λam:Nat=>([(6,UG),(7,UG),(10,UG),(14,UG),(16,UG),(18,UG),(122,UG),(123,UF (pIi am))],[(1,UG),(2,UG),(4,UG),(5,UG)])) 6
  (I:=λam=>am<=S.attrs.length) (μ:=λam=>S.attrs.length-am) (x0:=(0)) (TO (aS O) (aO XY) O O) (aJ _) ?_
 rintro a ha;refine Z1 O<|Gp O (λhc124=>?_) (λhc124=>?_)
 .have hlt:a<S.attrs.length:=XX;have hlL:a<LS.length:=XX;have hlT:a<LT.length:=XX;have hb1:=hbl a;rw[AT (hisB a hlt)]at hb1;have hin:=HF (dL P a) (h:Int) (by have:=hbln a;omega);have hla:=rM hlL;have hln:=qo hlL;have hta:=rM hlT;have ad:=qo hlT;obtain⟨hgl,hE2,hsx⟩:=hen a hlL hlT;generalize LS[a]=E at*;generalize LT[a]=G at*;refine TM<|Z2 O<|Z1 O<|AW.cut (st:=λan:ByteArray=>mkS [(6,.ptr 1 0),(7,.ptr 2 0),(10,pIi m),(14,.ptr 4 0),(16,.ptr 5 0),(18,pIi (h:Int)),(19,pIi a),(20,.pv (.str an)),(122,pIi S.attrs.length),(123,pIi a)] [(1,oZ S),(2,.mix 32 [.pv (aq P)]),(4,.mix 49 [.pv (.sl UG S.attrs.length (lstsC LS)),.pv (.str (a6 z.c)),.pv (.sl UG z.s.length (bd (tmL z.s))),.pv (.sl UG z.p.length (bj (prL z.p)))]),(5,.mix 49 [.pv (.sl UG S.attrs.length (lstsC LT)),.pv (.str (a6 z2.c)),.pv (.sl UG z2.s.length (bd (tmL z2.s))),.pv (.sl UG z2.p.length (bj (prL z2.p)))])] 6)
   (I:=λan=>∀i (h1:i<E.length) (h2:i<G.length),EnS an E[i] G[i]) ?_ ?_
  .by_cases hb:(h:Int)∈dL P (a:Int)
   .simp only[AT hb]at hsx;refine Z3 O<|Rs O (aa call11 hb1 O)<|A1 O<|Rs O (XJ.cast (v':=.pv (.bool VA)) (aa call10 hin O) (ah (λb=>V.pv (.bool b)) (SR hb))) ?_;refine Gc O (λA=>?_) (λA=>absurd A XZ);exact Z1 O<|Rs O (aa call12 hwh O)<|A1 O<|⟨(a6 (m:Rat)),TO (aS O) (aO XY) O O,hsx⟩
   simp only[pF hb]at hsx;refine Z3 O<|Rs O (aa call11 hb1 O)<|A1 O<|Rs O (XJ.cast (v':=.pv (.bool WA)) (aa call10 hin O) (ah (λb=>V.pv (.bool b)) (Up hb))) ?_;refine Gc O (λA=>absurd A XZ) (λA=>?_);exact TM<|⟨(⟨#[49]⟩),TO (aS O) (aO XY) O O,hsx⟩
  rintro x hsz;refine UB 13 O<|Dr 3 O<|Ds [] O (λτ h=>ag a underlying42 Dz (Ee h 0 O O) (Ee h 1 O O) O hlt hln) O XY<|Ds [] O (λτ h=>ar ⟨_,underlying57,O⟩ (Ee h 0 O O) hla) O XY<|Dr 4 O<|Ds [] O (λτ h=>ag a underlying42 Dz (Ee h 0 O O) (Ee h 1 O O) O hlt ad) O XY<|Ds [] O (λτ h=>ar ⟨_,underlying57,O⟩ (Ee h 0 O O) hta) O XY<|D1 O<|Ds [] O (λτ h=>T6 (Ee h 0 O O) (Ee h 1 O O) O (show(((E.length:Nat):Int) !=((G.length:Nat):Int))=WA by rw[hgl];exact Xf _)) O XY ?_;refine⟨XY,?_⟩;refine Gc O (λao=>absurd ao XZ) (λao=>?_);refine TM<|Z3 O<|Rs O (ag a underlying42 Dz O O O hlt hln)<|Rs O (ar ⟨_,underlying57,O⟩ O hla)<|Y2 O<|Gz O (st:=λap:Nat=>([(6,UG),(7,UG),(10,UG),(14,UG),(16,UG),(18,UG),(19,UG),(20,UG),(122,UG),(123,UG),(151,UG),(152,UG),(153,UF (pIi ap))],[(1,UG),(2,UG),(4,UG),(5,UG)])) 6
   (I:=λap=>ap<=E.length) (μ:=λap=>E.length-ap) (x0:=(0)) (TO (aS O) (aO XY) O O) (aJ _) ?_
  rintro i hi;refine Z1 O<|Gp O (λhc154=>?_) (λhc154=>?_)
  .have hiE:i<E.length:=XX;have af:i<G.length:=XX;have B:=hsz i hiE af;have hre0:=fM hiE;have hne:=kB hiE;have hrg:=fM af;have hng:=kB af;generalize E[i]=e at*;generalize G[i]=y at*;have hky:(entsC G)[i*4]? =UF (bh y.v):=by
    have:=ah (λl=>l[0]?) hrg;simpa using this
   have hcy:((entsC G).drop (i*4+1)).take 3=Mr (cn y.g.m):=by
    have:=ah (λl=>(l.drop 1).take 3) hrg;simpa[List.drop_take,List.drop_drop,Xr]using this
   have hre:((entsC E).drop (i*4)).take 4=[bh e.v,.str (a6 (cn e.g.m).c),.sl UG (cn e.g.m).s.length (bd (tmL (cn e.g.m).s)),.sl UG (cn e.g.m).p.length (bj (prL (cn e.g.m).p))]:=hre0;clear hre0 hrg;have hts:=nL e.v y.v B.l (by rw[B.v];exact B.l);rw[SR B.v.symm]at hts;have hsc:=B.sc;have hsm:=B.same;generalize cn y.g.m=c2 at*;generalize cn e.g.m=c1 at*;refine TM<|Z1 O<|Rs O (ag i underlying57 Ef O O O hiE hne)<|Rs O (aF ⟨_,underlying59,O⟩ Ef O hre O)<|Y3 O<|Z3 O<|Rs O (aa call13 hsc O)<|Ar 6 O<|UB 27 O<|Dr 5 O<|Ds [] O (λτ h=>ag a underlying42 Dz (Ee h 0 O O) (Ee h 1 O O) O hlt ad) O XY<|Ds [] O (λτ h=>ar ⟨_,underlying57,O⟩ (Ee h 0 O O) hta) O XY<|D1 O<|Ds [] O (λτ h=>ag i underlying57 Ef (Ee h 0 O O) (Ee h 1 O O) O af hng) O XY<|D1 O<|Ds [] O (λτ h=>ar ⟨_,underlying39,O⟩ (Ee h 0 O O) hky) O XY<|Ds [] O (λτ h=>aa call14 hts (h.aE O)) O XY<|Dr 6 O<|Dg [] O (λτ h=>ag a underlying42 Dz (Ee h 0 O O) (Ee h 1 O O) O hlt ad) O XY<|Dg [] O (λτ h=>ar ⟨_,underlying57,O⟩ (Ee h 0 O O) hta) O XY<|D1 O<|Dg [] O (λτ h=>ag i underlying57 Ef (Ee h 0 O O) (Ee h 1 O O) O af hng) O XY<|D1 O<|Dg [] O (λτ h=>aF ⟨_,underlying47,O⟩ EV (Ee h 0 O O) hcy O) O XY<|Dg [] O (λτ h=>aa call15 hsm (h.aE O)) O XY<|Dr 2 O ?_;refine⟨XY,?_⟩;refine Gc O (λau=>absurd au XZ) (λau=>?_);exact TM<|Z2 O<|⟨(i+1),TO (aS O) (aO XY) O O,hiE,XX⟩
  exact Gx O<|Z2 O<|⟨(a+1),TO (aS O) (aO XY) O O,hlt,XX⟩
 refine Gx O<|UB 11 O<|Dr 3 O<|Ds [] O (λτ h=>aa call12 hwh (h.aE O)) O XY<|Ds [] O (λτ h=>aa call13 hsct (h.aE O)) O XY<|Dr 6 O ?_;refine⟨XY,?_⟩;exact Z3 O<|Rs O (aa call15 hsmt O)<|A1 O<|Rg O (aa call4 hsa O)<|Y2 O<|Gt O<|⟨_,_,O,O,O⟩
end
theorem lu{P:Program}{n:String}{cs:Array Value}(q:P.globalNamed n=UF g)(h:W.var? P n=UF cs):∃t fz,W.heap[g]? =UF (.cells cs t fz):=by
 simp only[World.var?,q,Option.bind_some]at h;split at h
 .grind
 cases h
theorem uF{o:Obj}(h:W.heap[g]? =UF o):g<W.heap.size:=(S8.1 h).1
theorem gv0:prog.globalNamed "internal/strconv.uint64pow10" =UF 1:=XY
theorem gv4:prog.globalNamed "strconv.ErrSyntax" =UF 2:=XY
theorem gv5:prog.globalNamed "strconv.ErrRange" =UF 3:=XY
theorem gt0:(prog.globals[1]?).map (·.type)=UF 401:=XY
theorem gt4:(prog.globals[2]?).map (·.type)=UF 304:=XY
theorem gt5:(prog.globals[3]?).map (·.type)=UF 304:=XY
theorem I9(h:W.ShapedOpen prog):∃(m:Int)(t:TypeId)(fz:Nat×Nat),W.heap[0]? =UF (.cells #[.int .i64 m] t fz):=by
 obtain⟨cs,hh,hs,hr⟩:=h.1 0 #[.int .i64 0] 3 (V9 XY) XY;obtain⟨ts,hts,_,hall⟩:=hr XY;rw[show prog.cellTypes prog.depth 3=UF [3] by kernel_rfl]at hts;cases hts;have s:cs.size=1:=hs;obtain⟨u,hu',hok⟩:=hall 0 cs[0] (by simp[s]);obtain rfl:u=3:=by simpa using hu'.symm
 have q:∃m,cs[0]= .int .i64 m:=by
  unfold Cell.ok at hok;rw[underlying3]at hok;cases hv:cs[0]<;>rw[hv]at hok<;>simp at hok;rename_i k m;obtain rfl:=hok.1;exact⟨m,O⟩
 obtain⟨m,q⟩:=q;have:cs= #[.int .i64 m]:=by grind
 rw[this]at hh;exact⟨m,_,_,hh⟩
def SU:List (String×DataW Unit):=Rows.viewsWeightsRow.laid
theorem Rt(q:W.ShapedOpen prog)(h:laidMetH prog SU W):rN W (λb=>b<W.heap.size):=by
 rw[MakeChecks.laidMetH_plain _ _ _ XY]at h;obtain⟨ps,⟨g0,t0,cs0,f0,p0,q0,hg0,ht0,hv0,hd0,⟨g1,t1,cs1,f1,p1,q1,hg1,ht1,hv1,hd1,⟨g2,t2,cs2,f2,p2,q2,hg2,ht2,hv2,hd2,⟨g4,t4,cs4,f4,p4,q4,hg4,ht4,hv4,hd4,⟨g5,t5,cs5,f5,p5,q5,hg5,ht5,hv5,hd5,_⟩,_⟩,_⟩,_⟩,_⟩,_,_⟩:=h;obtain rfl:=Wn (gv0.symm.trans hg2);obtain rfl:=Wn (gv5.symm.trans hg4);obtain rfl:=Wn (gv4.symm.trans hg5);obtain rfl:=Wn (gt0.symm.trans ht2);obtain rfl:=Wn (gt5.symm.trans ht4);obtain rfl:=Wn (gt4.symm.trans ht5);have s:cs2.toList=Lib.pow10Tab.map λz=>Value.int .u64 z:=Lib.cells_of_tab underlying401 underlying262 XY XY hd2
 obtain⟨_,u4,v4,e4,_⟩:=iface_of_trod underlying304 hd4;obtain⟨_,u5,v5,e5,_⟩:=iface_of_trod underlying304 hd5;obtain⟨x2,y2,b2⟩:=lu gv0 hv2;obtain⟨x4,y4,b4⟩:=lu gv5 hv4;obtain⟨x5,y5,b5⟩:=lu gv4 hv5;obtain⟨m,x1,y1,b1⟩:=I9 q;obtain⟨l2⟩:=cs2;obtain⟨l4⟩:=cs4;obtain⟨l5⟩:=cs5;simp only at s e4 e5;subst s e4 e5;intro x hx;simp only[glb,By,Vy,Xd]at hx;rcases hx with rfl|rfl|rfl|rfl
 .exact⟨uF b2,_,b2,_,_,O⟩
 .exact⟨uF b1,_,b1,_,_,_,O⟩
 .exact⟨uF b5,_,b5,_,_,_,_,O⟩
 exact⟨uF b4,_,b4,_,_,_,_,O⟩
noncomputable def witW(os:Os):World:=World.doorLaid prog 54 os
theorem D0(os:Os)(args:Array Value):((witW os).forCall (λ_ _=>0) ⟨#[],args,[]⟩).Shaped prog:=World.shaped_of_RefB XY XY
theorem Q1(os:Os)(args:Array Value):laidMetH prog SU ((witW os).forCall (λ_ _=>0) ⟨#[],args,[]⟩).memory:=
 laidMetH_of_parts3 (fuel:=8) (laidMet_of_run' 8 XY XY) XY XY
section
open Go.RowKit Go.ChangeShapes Go.WideShapes Go.Deep
def OpT(P:Program)(t:TypeId){α:Type}(f:α->List PV)(I:α->Prop):Prop:=
 ∀(H:Type)(enc:TypeId×Value->H)(w:World)(base:Nat)(spare:Nat->Bool)(held:Bool)(fuel:Nat)(cs:List Value)(x:DataW H×List MemPlace),
  DataW.trod enc P w base spare held fuel t cs=UF x->∃a,I a/\RelPL w (λb=>b<w.heap.size) (f a) cs
section
variable {P:Program}{t:TypeId}
theorem OpT.map{β:Type}{f:α->List PV}{I:α->Prop}{f':β->List PV}{I':β->Prop}(h:OpT P t f I)(g:α->β)(q:∀a,f' (g a)=f a)(s:∀a,I a->I' (g a)):OpT P t f' I':=
 λH enc w base spare held fuel cs x hx=>by
  obtain⟨a,ha,hr⟩:=h H enc w base spare held fuel cs x hx;exact⟨g a,s a ha,by rw[q];exact hr⟩
theorem RelPL.one{p:PV}{u:Value}(h:RelP w R p u):RelPL w R [p] [u]:=RelPL.cons h RelPL.nil
theorem OpT.int(q:P.underlying t=UF (.int .i64)):OpT P t (λn:Int=>[.int .i64 n]) (λn=> -9223372036854775808<=n/\n<=9223372036854775807):=
 λH enc w base spare held fuel cs x hx=>by
  obtain⟨n,rfl,_,hw⟩:=DataW.trod_int q hx;exact⟨n,bounds_i64 hw,RelPL.one (by simp only[RelP])⟩
theorem Dc{f:α->List PV}:∀{n:Nat}{A:Nat->α}{us:Nat->List Value},(∀i,i<n->RelPL w R (f (A i)) (us i))->RelPL w R (((List.range n).map A).flatMap f) ((List.range n).flatMap us):=by
 intro n A us h;induction n with
 |zero=>simpa using RelPL.nil
 | succ n ih=>
   rw[Xn,UO,U6,U6];refine RelPL.append (ih λi hi=>h i XX) ?_;simpa using h n XX
theorem uI{c:Nat}{us:Nat->List Value}:∀{n:Nat},(∀i,i<n->(us i).length=c)->((List.range n).flatMap us).length=n*c/\∀i j,i<n->j<c->((List.range n).flatMap us)[i*c+j]? =(us i)[j]? :=by
 intro n h;induction n with
 |zero=>exact⟨X2,λi j hi=>absurd hi XX⟩
 | succ n ih=>
   obtain⟨h1,h2⟩:=ih λi hi=>h i XX
   rw[Xn,U6];refine⟨by rw[D8,h1,List.flatMap_singleton,h n XX,XV],λi j hi hj=>?_⟩;by_cases e:i<n
   .rw[List.getElem?_append_left (by rw[h1];calc i*c+j<i*c+c:=XX
     _=(i+1)*c:=by rw[XV]
     _<=n*c:=Vk c e)]
    exact h2 i j e hj
   obtain rfl:i=n:=XX;rw[List.getElem?_append_right (by rw[h1];omega),h1,List.flatMap_singleton,show i*c+j-i*c=j by omega]
theorem OpT.sl{e:TypeId}{f:α->List PV}{I:α->Prop}(c:Nat)[Inhabited α](ht:P.underlying t=UF (.slice e))(hc:P.cellsOf e=c)(h:OpT P e f I):
  OpT P t (λl:List α=>[.sl UG l.length (l.flatMap f)]) (λl=>l.length<=maxLen/\∀a∈l,I a):=
 λH enc w base spare held fuel cs x hx=>by
  rcases open_slice ht hx with⟨rfl,rfl⟩|⟨a,len,cap,m,n,D,Pl,rfl,hb,hl,hm,hmm,hxe,hel⟩
  .refine⟨[],⟨X2,X2⟩,RelPL.one ?_⟩;simp only[RelP];exact⟨UG,0,O,tJ _,by simp[maxLen],(λ_ e=>by cases e),(λe=>by cases e),λe=>absurd rfl e⟩
  have hlm:len<=m:=by rw[hmm];split<;>omega
  rw[hc]at hel;have L:∀i,i<len->∃p:α×List Value,I p.1/\RelPL w (λb=>b<w.heap.size) (f p.1) p.2/\p.2.length=c/\∀j,j<c->w.cell? (a.add (i*c+j))=p.2[j]? :=λi hi=>by
   obtain⟨cs',G,J⟩:=hel i XX;obtain⟨y,hy,hr⟩:=h H enc w base spare held n cs' _ J;obtain⟨_,h3,h4⟩:=World.cells?_some G;exact⟨(y,cs'),hy,hr,h3,λj hj=>by rw[<-add_add];exact h4 j hj⟩
  obtain⟨F,hF⟩:=choose_lt L;have B:((List.range len).map λi=>(F i).1).length=len:=X2;refine⟨(List.range len).map λi=>(F i).1,⟨by rw[B];omega,λy hy=>?_⟩,RelPL.one ?_⟩
  .obtain⟨i,hi,rfl⟩:=IS.1 hy;exact(hF i (Vj.1 hi)).1
  rw[B];simp only[RelP];refine⟨UF a,cap,O,hl,hm,(λ_ e=>by cases e),(λe=>by cases e),λaa=>?_⟩;have q:=Dc (w:=w) (R:=λb=>b<w.heap.size) (f:=f) (A:=λi=>(F i).1) (us:=λi=>(F i).2) λi hi=>(hF i hi).2.1
  obtain⟨hL,hat⟩:=uI (us:=λi=>(F i).2) (c:=c) (n:=len) λi hi=>(hF i hi).2.2.1
  generalize hU:(List.range len).flatMap (λi=>(F i).2)=U at q hL hat
  have u:0<len*c:=by
   rw[<-hL,RelPL.length q];exact U7.2 aa
  have M:0<len:=Nat.pos_of_mul_pos_right u;have Y:0<c:=Nat.pos_of_mul_pos_left u;have z:∀k,k<len*c->w.cell? (a.add k)=U[k]? :=λk hk=>by
   have e:k=k/c*c+k%c:=by rw[U8];exact(Xl k c).symm
   have G:k/c<len:=Nat.div_lt_of_lt_mul (by rw[U8];exact hk);have J:k%c<c:=Vi _ Y;rw[e,hat _ _ G J];exact(hF _ G).2.2.2 _ J
  have E:=z 0 u;rw[BY XX]at E;obtain⟨b,off,sp⟩:=a;have Z:sp=UG:=by
   cases sp with
   |none=>rfl
   | some s=>
     exfalso;have e:(⟨b,off,UF s⟩:Addr).add 0=⟨b,off,UF s⟩:=rfl;rw[e]at E;unfold World.cell? at E;split at E
     .simp at E
     cases E
  subst Z;rw[Addr.add_lit]at E;refine⟨b,off,U,O,q,World.block_lt_of_cell? w _ E,λj hj=>?_⟩;have:=z j XX;rw[Addr.add_lit]at this;exact this
end
section
variable {H:Type}{enc:TypeId×Value->H}{P:Program}{w:World}{base:Nat}{spare:Nat->Bool}{held:Bool}{t:TypeId}{v:Value}{d:DataW H}{ps:List MemPlace}{r:Go.Reach}{b0:Nat}
theorem OpT.one{p:α->PV}{I:α->Prop}(q:OpT P t (λa=>[p a]) I)(s:v.cells= #[v])(h:DataW.Trod enc P w base spare held t v d ps):∃a,I a/\RelP w (λb=>b<w.heap.size) (p a) v:=by
 obtain⟨fuel,hf⟩:=h;obtain⟨a,ha,hr⟩:=q _ _ _ _ _ _ _ _ _ hf;refine⟨a,ha,?_⟩;rw[s]at hr;simp only[RelPL]at hr;obtain⟨u,vs,e,h1,_⟩:=hr;simp at e;rw[e.1];exact h1
end
#print axioms OpT.sl
end
theorem Sf:OpT prog 3 (λn:Int=>[.int .i64 n]) (λn=> -9223372036854775808<=n/\n<=9223372036854775807):=OpT.int underlying3
theorem P2:OpT prog 22 (λl:List Int=>[aq l]) (λl=>l.length<=9223372036854775807):=
 (OpT.sl 1 underlying22 XY Sf).map id (λl=>by
  show [PV.sl UG l.length (aN l)]=[PV.sl UG l.length (l.flatMap λn=>[PV.int .i64 n])]
  congr 2
  induction l with
  |nil=>rfl
  |cons x l ih=>simp[<-ih]) (λl h=>h.1)
theorem op_u8:OpT prog 5 (λn:Int=>[.int .u8 n]) (λn=>0<=n/\n<=255):=
 λH enc w base spare held fuel cs x hx=>by
  obtain⟨n,rfl,_,hw⟩:=DataW.trod_int underlying5 hx;exact⟨n,bounds_u8 hw,RelPL.one (by simp only[RelP])⟩
end Go.Proofs.YtameambcolibjaaGreatDoor
