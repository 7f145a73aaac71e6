/- Lemmas. No condition. -/
import Derived.Handed
import Derived.LaidMore
import Derived.LaidLaws
import Derived.LaidHandle
import Derived.MakeChecks
import Derived.Lib.LaidTab
import Derived.Deep.Slices
import Derived.ChangeArms
import Derived.OpenShut
import Derived.Test.YtoplpepiabedhaaGreatDoorJC14
set_option maxRecDepth 100000
set_option maxHeartbeats 4000000
open Go.RowKit Go.Proofs.Tryz
open Option renaming some→Sh,none→Sl
open Bool renaming true→Sm,false→S1
namespace Go.Proofs.YtoplpepiabedhaaGreatDoor
variable{S:Sch}{R:Nat->Prop}{K P:List Int}{k b n most a g:Nat}{v:ByteArray}{kd:Int}{W w:World}{α:Type}
section
open Go.RowKit Mk Jn Mm Vw
namespace Vw
theorem CO{T:List (List Rw)}(j:∀r,tlN T r<=60)(R:List Int)(a:Int):occN S T R a<=60:=by
 unfold occN;split
 .rename_i h;obtain⟨h1,h2⟩:=h.choose_spec;generalize h.choose=L at*;cases L with
  |nil=>exact cd _
  | cons x L=>
    obtain⟨⟨r,hr,ha⟩,_⟩:=(h2 x).1 Vj;refine IT (gY (Q:=wV S T r a) h1 λy hy=>((h2 y).1 hy).2 r hr ha) ?_;unfold wV;rw[OF];exact j r
 .exact cd _
theorem Fo{T:List (List Rw)}(q:∀r,tlN T r<=60)(R K:List Int)(h:K.length<=5):bL (K.map λa=>occN S T R a)<1000000000:=by
 have:=jx (M:=60) (j:=5) (l:=K.map λa=>occN S T R a) Vh (λx hx=>by obtain⟨a,_,rfl⟩:=By.1 hx;exact CO q R a) (by rw[OF];exact h);omega
theorem I6{T:List (List Rw)}{R:List Int}(h:k<K.length):bL ((K.take (k+1)).map λa=>occN S T R a)=bL ((K.take k).map λa=>occN S T R a)*occN S T R K[k]:=by
 rw[AI h,RG,cF];simp[bL]
theorem dedup(l:List ByteArray):∃M:List ByteArray,M.Nodup/\∀x,x∈M↔x∈l:=by
 induction l with
 |nil=>exact⟨[],List.nodup_nil,λ_=>Iff.rfl⟩
 | cons y l ih=>
   obtain⟨M,h1,h2⟩:=ih;by_cases h:y∈M
   .exact⟨M,h1,λx=>by rw[AS,<-h2];exact⟨.inr,λe=>e.elim (λe=>e▸h) id⟩⟩
   .exact⟨y::M,Sx.2 ⟨h,h1⟩,λx=>by rw[AS,AS,h2]⟩
open Classical in
theorem Dv(S:Sch)(T:List (List Rw))(R:List Int)(a:Int):∃L,OccL S T R a L:=by
 obtain⟨M,h1,h2⟩:=dedup (R.flatMap λr=>wV S T r a);refine⟨M.filter λx=>decide ((∃r∈R,a∈cY S r)/\∀r∈R,a∈cY S r->x∈wV S T r a),SZ.nodup h1,λx=>?_⟩;rw[Sj,Rt,h2];refine⟨λh=>h.2,λh=>⟨?_,h⟩⟩;obtain⟨⟨r,hr,ha⟩,h3⟩:=h;exact RN.2 ⟨r,hr,h3 r hr ha⟩
theorem Ns{T:List (List Rw)}{v:Nat}(e:b=bL ((cE S P v).map λa=>occN S T (iS S P P.length v) a)):Bnd S P T (v:Int) b:=by
 refine .inl ⟨(cE S P v).map λa=>(Dv S T (iS S P P.length v) a).choose,by rw[OF],λi h h2=>?_,?_⟩
 .rw[SE];exact(Dv S T (iS S P P.length v) (cE S P v)[i]).choose_spec
 .rw[e,Ta]
  congr 1
  exact Sd λa _=>Hx (Dv S T (iS S P P.length v) a).choose_spec
abbrev bT(b:Nat):ByteArray:=eG (b:Int)
theorem F5(B:List Nat)(b:Nat):bD (B.map bT)++[.str (bT b)]=bD ((B++[b]).map bT):=Vj
def BOk(S:Sch)(P:List Int)(T:List (List Rw))(B:List Nat):Prop:=∀i (h:i<B.length),B[i]<1000000000/\Bnd S P T (i:Int) B[i]
theorem BOk.snoc{T:List (List Rw)}{B:List Nat}(h:BOk S P T B){v:Nat}(j:B.length=v)(l:b<1000000000)(q:Bnd S P T (v:Int) b):BOk S P T (B++[b]):=λi hi=>by
 rw[IS,RD]at hi;by_cases hb:i<B.length
 .rw[T6 hb];exact h i hb
 .have:i=v:=Vf;subst this;rw[List.getElem_append_right Vf];simp only[j,Ux,List.getElem_cons_zero];exact⟨l,q⟩
end Vw
theorem Hz(h:n<1000000000):FnP prog 99 [nmP n] (· = .str (bT n)):=by
 have:=lG (n:Int) (by rw[R4];exact h);rw[xp]at this;exact this
theorem ya(d:List (List Rw))(hB:SB S)(az:SJn S)(G:OrdOk S P)(h0:bz S=0)(hd:d.length=S.rels.length)(hl:∀l∈d,l.length<=60)(hv:∀r (h:r<d.length) (h2:r<S.rels.length),∀x∈d[r],x.v.length=S.rels[r].2.length)(hck:FnP prog 111 [eS S,dbP d] (· = .int .i64 0))
  (hr3:S.rels.length<=3) (hp5:P.length<=5) (hT:Lz S (cM S d)) (L:∀l∈cM S d,l.length<=60):
  FnP prog 36 [eS S,og P,dbP d] (λv=>∃B:List Nat,B.length=P.length/\BOk S P (cM S d) B/\v= .tup [a7 (B.map bT),.int .i64 0]):=by
 have hbe:=zn S hB P Vf (oL.2 ⟨h0,G⟩) d hck;have hly:=CX S hB P G;have M:=tO hd;have U:(cM S d).length=S.rels.length:=by unfold cM;simp[hd]
 have hlen:=G.len;have X:=az.a;have Y:=yt 1 Vh;have Z:∀r∈S.rels,r.2.length<=1000:=λr hr=>by
  obtain⟨k,hk,e⟩:=Sp hr;have h1:=Dy G hk;have e2:cY S (k:Int)=r.2:=by rw[<-e];simp[cY,List.getD,hk]
  rw[e2]at h1;have:=D4 h1.nd h1.rng;omega
 have hun:=fun(v:Nat)(hv:v<P.length)=>Bj G Vf Vf P.length v hv Vf
 have hke:∀(v:Nat)(h:v<(bg S P).kes.length),v<P.length->(bg S P).kes[v]=cE S P v:=λv _ hv=>Cw (S:=S) (P:=P) hv
 have hkl:(bg S P).kes.length=P.length:=by simp[bg,a6]
 refine FnP.fg2 (FnP.of func36 O ntmps36 Vj λm0 w0 F R0=>?_);refine Z4 O<|Z3 O<|Rs O (aa call45 hbe O)<|A1 O<|Z2 O<|Gc O (λE=>absurd E Vh) (λE=>?_);refine Q3<|Z1 O<|Q4 (Ra 9 2 1 38 O O)<|Z4 O<|Gl O (st:=λVn:Nat×List (List Rw)=>mkS [(2,.pv (dbP d)),(3,.ptr 0 0),(4,.ptr 1 0),(9,.gsl 2 1 Vn.2.length),(29,pIi S.rels.length),(30,pIi Vn.1)] [(0,oZ S),(1,.mix 32 [.pv (aj P)]),(2,.gro 38 (gX Vn.2))] 3)
  (I:=λVn=>Vn.1<=S.rels.length/\Vn.2=pZ S d Vn.1) (μ:=λVn=>S.rels.length-Vn.1) (x0:=(0,[])) (Q5 (aS O) (aO Vg) O O) (⟨cd _,by simp[pZ]⟩) ?_
 rintro⟨k,q⟩ ⟨hk,hq⟩;try simp only at hk hq ⊢
 refine Z1 O<|Gp O (λap=>?_) (λap=>?_)
 .have hlt:k<S.rels.length:=Vf;have u:k<d.length:=Vf;have htr:=r7 u;have htn:=lJ u;have hlv:=uM S az k hlt d[k] (by have:=hl _ (au u);omega) (hv k u hlt);have ab:=qD hd hlt;have hqk:=vL hd hk;rw[<-hq]at hqk ab;have hql:(gX q).length=q.length*1:=gB q;have hsn:=se q (nT S S.rels[k].2 d[k]);generalize nT S S.rels[k].2 d[k]=lv at*;generalize d[k]=tk at*;refine Q3<|Z2 O<|RW 11 O ?_;iterate 5 refine D1 O ?_
  refine Ds [] O (λτ h=>ae k underlying34 Pf (Ee h 0 O O) (Ee h 1 O O) O u htn) O Vg<|Ds [] O (λτ h=>aq ⟨_,underlying38,O⟩ (Ee h 0 O O) htr) O Vg<|Ds [] O (λτ h=>aa call47 hlv (h.aK O)) O Vg ?_;iterate 3 refine D1 O ?_
  refine⟨Vg,?_⟩;exact Z2 O<|⟨(k+1,q++[lv]),Q6 [0,1,4] ⟨O,O,O,ag (λn=>V.gsl 4 1 n) (fZ q lv),O,O,Vm⟩ ⟨Vg,Vg,RI (b:=Sh (.gro 38 (gX q++[mH lv]))) Vg (ag (λc=>Sh (Ob.gro 38 c)) hsn),Vm⟩ O O Vh O,⟨Vl,by simp only;rw[ab]⟩,Vl⟩
 .have hqf:q=cM S d:=by rw[hq,show k=S.rels.length by omega,M]
  rw[hqf];refine Gx O<|Q4 (Q8 2 O O) ?_;generalize cM S d=T at*;generalize bg S P=D at*;have J:∀r,tlN T r<=60:=λr=>by
   unfold tlN gK;rw[Rj];cases hg:T[r.toNat]? with
   |none=>exact cd _
   |some l=>exact L l (SC hg)
  refine Z2 O<|Rs O (aa call46 hly O)<|Y2 O<|Z1 O<|Q4 (Ra 12 4 1 84 O O)<|Z4 O<|Gl O (st:=λj:Nat×List Nat=>mkS [(3,.ptr 0 0),(9,.pv (dbP T)),(11,.ptr 3 0),(12,.gsl 4 1 j.2.length),(48,.pv (aW D.kes)),(49,pIi D.kes.length),(50,pIi j.1)] [(0,oZ S),(3,.mix 97 [.pv (aW D.chs),.pv (aW D.kes),.pv (aW D.hos),.pv (aj D.wa)]),(4,.gro 84 (bD (j.2.map bT)))] 5)
   (I:=λj=>(j.1<=P.length/\j.2.length=j.1)/\BOk S P T j.2) (μ:=λj=>P.length-j.1) (x0:=(0,[])) (Q5 (aS O) (aO Vg) O O) (⟨⟨cd _,O⟩,λi h=>absurd h Vj⟩) ?_
  rintro⟨v,B⟩ ⟨⟨hvn,hBl⟩,hBo⟩;try simp only at hvn hBl hBo ⊢
  refine Z1 O<|Gp O (λar=>?_) (λar=>?_)
  .have hlt:v<P.length:=Vf;have A:v<D.kes.length:=Vf;have ac:=dx A;have hkn:=dz A;rw[hke v A hlt]at ac;have hu:=hun v hlt;have ad:=FI G hlt;have hK5:(cE S P v).length<=5:=by have:=D4 ad.nd ad.rng;omega
   have af:Cov S (cE S P v) (iS S P P.length v):=λa ha=>uR G hlt ha
   have ak:=λr (h:r∈iS S P P.length v)=>Mo h
   have hRl:(iS S P P.length v).length<=3:=IT (LI G.iw hlt) hr3;have al:∀b,b=bL ((cE S P v).map λa=>occN S T (iS S P P.length v) a)->Bnd S P T (v:Int) b:=λb e=>Ns e
   have am:∀b,(∃Rs:List Int,(∀r∈Rs,r∈iS S P P.length v)/\Cov S (cE S P v) Rs/\b=bL (Rs.map (tlN T)))->Bnd S P T (v:Int) b:=λb h=> .inr h
   generalize cE S P v=K at*;generalize iS S P P.length v=R at*;have hoc:=λa=>QO hT U (λl hl=>by have:=L l hl;omega) Z R ak Vf a Vf X
   have an:=vI U L Z R K ak hRl Vf Vf X af;refine Q3<|Z1 O<|Rs O (ae v underlying95 nv O O O A hkn)<|Rs O (aq ⟨_,underlying22,O⟩ O ac)<|Y2 O<|Z2 O<|Rs O (aa call93 hu O)<|A1 O<|Gr O<|Rs O (aa call94 Y O)<|Y2 O<|Z3 O<|Gl O (st:=λs:Nat×Nat=>mkS [(3,.ptr 0 0),(9,.pv (dbP T)),(11,.ptr 3 0),(12,.gsl 4 1 B.length),(14,.pv (aj K)),(15,.pv (aj R)),(16,.ptr 5 0),(48,.pv (aW D.kes)),(49,pIi D.kes.length),(50,pIi v),(59,.pv (aj K)),(60,pIi K.length),(61,pIi s.1)] [(0,oZ S),(3,.mix 97 [.pv (aW D.chs),.pv (aW D.kes),.pv (aW D.hos),.pv (aj D.wa)]),(4,.gro 84 (bD (B.map bT))),(5,.mix 114 [.pv (.bool S1),.pv (bF s.2)])] 6)
    (I:=λs=>s.1<=K.length/\s.2=bL ((K.take s.1).map λa=>occN S T R a)) (μ:=λs=>K.length-s.1) (x0:=(0,1)) (Q5 (aS O) (aO Vg) O O) (⟨cd _,O⟩) ?_
   rintro⟨k,b⟩ ⟨hk,hb⟩;try simp only at hk hb ⊢
   refine Z1 O<|Gp O (λax=>?_) (λax=>?_)
   .have hlk:k<K.length:=Vf;have hqv:(aE K)[k*1]? =Sh (.int .i64 K[k]):=by simp[hlk]
    have hqn:=aD hlk;have ao:=I6 (S:=S) (T:=T) (R:=R) hlk;rw[<-hb]at ao;have z:b<1000000000:=by rw[hb];exact Fo J R _ (by rw[Rr];omega)
    have hok:=CO (S:=S) J R K[k];have hoa:=hoc K[k];generalize K[k]=a at*;have hof:=yt (occN S T R a) Vf;have hmu:=GR z (show occN S T R a<1000000000 by omega);refine Q3<|Z1 O<|Rs O (aq ⟨_,underlying3,O⟩ O hqv)<|A1 O<|RW 9 O ?_;iterate 5 refine D1 O ?_
    refine Ds [] O (λτ h=>aa call96 hoa (h.aK O)) O Vg<|Ds [] O (λτ h=>aa call94 hof (h.aK O)) O Vg<|Ds [] O (λτ h=>aa call95 hmu (h.aK O)) O Vg<|D1 O ?_;refine⟨Vg,?_⟩;exact Z2 O<|⟨(k+1,b*occN S T R a),Q5 (aS O) (aO Vg) O O,⟨hlk,ao.symm⟩,Vl⟩
   .have hbe2:b=bL (K.map λa=>occN S T R a):=by rw[hb,aQ Vf]
    have z:b<1000000000:=by rw[hbe2];exact Fo J R K hK5
    refine Gx O<|Z4 O<|RL.call O (eW call97 an O ?_);rintro _ ⟨c,hc1,rfl,hc2⟩;refine Y2 O ?_;have hcm:=Gz (a:=c) (b:=b) Vf z;have hsb:=Hz z;have hsc:=Hz (n:=c) Vf;have hB1:=hBo.snoc hBl z (al b hbe2);have hB2:=hBo.snoc hBl (show c<1000000000 by omega) (am c hc2);have hstl:(bD (B.map bT)).length=B.length*1:=Vj;refine Z2 O<|Rs O (aa call98 hcm O)<|A1 O<|Gp O (λay=>?_) (λay=>?_)
    .exact Z2 O<|Z2 O<|Rs O (aa call99 hsc O)<|Y3 O<|Z2 O<|⟨(v+1,B++[c]),Q6 [0,1,2,3,8] ⟨O,O,O,ag (λn=>V.gsl 8 1 n) (fZ B c),O,O,O,Vm⟩ ⟨Vg,Vg,RI (b:=Sh (.gro 84 (bD (B.map bT)++[.str (bT c)]))) Vg (ag (λc=>Sh (Ob.gro 84 c)) (F5 B c)),Vm⟩ O O Vh O,⟨⟨Vl,by simp only[IS,RD];omega⟩,hB2⟩,Vl⟩
    .exact Q3<|Z2 O<|Rs O (aa call99 hsb O)<|Y3 O<|Z2 O<|⟨(v+1,B++[b]),Q6 [0,1,2,3,8] ⟨O,O,O,ag (λn=>V.gsl 8 1 n) (fZ B b),O,O,O,Vm⟩ ⟨Vg,Vg,RI (b:=Sh (.gro 84 (bD (B.map bT)++[.str (bT b)]))) Vg (ag (λc=>Sh (Ob.gro 84 c)) (F5 B b)),Vm⟩ O O Vh O,⟨⟨Vl,by simp only[IS,RD];omega⟩,hB1⟩,Vl⟩
  .have hBe:B.length=P.length:=Vf;exact Gx O<|Q4 (Q8 4 O O)<|Z3 O<|Gt O<|⟨_,_,O,O,B,hBe,hBo,by show PV.tup [PV.sl Sl B.length (bD (B.map bT)),.int .i64 0]=_;rw[show B.length=(B.map bT).length by simp]⟩
end
section
open Mk
theorem Ek(a b:Nat)(s:(ai a).length<=1000000000)(u:(ai b).length<=1000000000):FnP prog 102 [.agg [.bool S1,pli (ai a)],.agg [.bool S1,pli (ai b)]] (· = .int .i64 (yr a b)):=by
 refine FnP.of func102 O ntmps102 Vj λm0 w0 F R0=>?_
 have q:=Bb a b s u;refine Z3 O<|Gr O ?_;iterate 5 refine A1 O ?_
 refine Gc O (λj=>absurd j Vh) (λj=>?_);refine Q3<|Z4 O<|Rs O (aa call195 q O)<|A1 O<|Z2 O<|Gc O (λl=>absurd l Vh) (λl=>?_);exact Q3<|Z2 O<|Gt O<|⟨_,_,O,O,O⟩
theorem Bo(h:n<1000000000):Le n=S1:=by
 have j:pS n<=9:=s9 Vh Vf;unfold Le;exact Rv Vf
theorem sL(a b:Nat)(B:a<1000000000)(D:b<1000000000):FnP prog 38 [.str (eG a),.str (eG b)] (· = .int .i64 (yr a b)):=by
 refine FnP.of func38 O ntmps38 Vj λm0 w0 F R0=>?_
 have s:∀n:Nat,n<1000000000->FnP prog 100 [.str (eG n)] (· = .bool Sm)/\FnP prog 101 [.str (eG n)] (· = .agg [.bool S1,pli (ai n)]):=λn hn=>by
  have l:bh (eG (n:Int))=Sm:=by rw[ka,R4,Bo hn];rfl
  have u:=xh (eG (n:Int));rw[l]at u;have z:=BV (eG (n:Int)) (bH l).1 (by have:=(bH l).2;omega);rw[ny]at z;refine⟨u,?_⟩;have e:Ma (n:Int)= .agg [.bool S1,pli (ai n)]:=by
   show PV.agg [.bool (decide ((n:Int)<0)),pli (ai (n:Int).natAbs)]=_;rw[Rv Vf,R4]
  rw[<-e];exact z
 obtain⟨hv1,hr1⟩:=s a B;obtain⟨hv2,hr2⟩:=s b D;have A:∀n:Nat,n<1000000000->(ai n).length<=1:=λn h=>bj.2 Vf
 have q:=Ek a b (by have:=A a B;omega) (by have:=A b D;omega);refine Z1 O<|Z1 O<|Rs O (aa call100 hv1 O)<|Y3 O<|Rg O (aa call100 hv2 O)<|Y2 O<|Gc O (λj=>absurd j Vh) (λj=>?_);exact Q3<|Z1 O<|Rs O (aa call101 hr1 O)<|A1 O<|Rs O (aa call101 hr2 O)<|Rs O (aa call102 q O)<|A1 O<|Gt O<|⟨_,_,O,O,O⟩
end


section
open Mk Jn
abbrev t1:ByteArray:=⟨#[49]⟩
theorem zf_of{y:ByteArray}(h:y.data.toList.all (· !=0)=Sm):Zf y:=λj=>by
 have:=Ri.1 h _ j;simp at this
end
section
open Mk Jn
theorem Mn(h:v∈iB kd):Zf v/\v.size<=10000:=by
 have j:∀l:List ByteArray,(∀y∈l,y.data.toList.all (· !=0)=Sm/\y.size<=10000)->v∈l->Zf v/\v.size<=10000:=λl hl hm=>⟨zf_of (hl v hm).1,(hl v hm).2⟩
 unfold iB at h;split at h
 .exact j _ Vh h
 .split at h
  .exact j _ Vh h
  .exact j _ Vh h
theorem HB{l:List Rw}{B:Int}(h:∀x∈l,x.w<=B):mv l<=B*l.length:=by
 unfold mv;induction l with
 |nil=>simp
 | cons x l ih=>
   have j:=h x Vj;have q:=ih λy hy=>h y (by simp[hy])
   simp only[bP,Se,Rk];rw[Int.natCast_add,Int.mul_add];have:B*((1:Nat):Int)=B:=Vj;omega
theorem sU{A:List Int}(I:∀a∈S.attrs,a.2=1\/a.2=2\/a.2=3)(J:∀a∈A,0<=a/\a<S.attrs.length)(T:most<=20){l:List Rw}(h:MdT S A most l):TblOk S A 1 l/\l.length<=most/\(∀x∈l,∀y∈x.v,Zf y/\y.size<=10000)/\∀x∈l,x.w<=5*most:=by
 obtain⟨l0,rfl,hl,hx⟩:=h;have E:∀z∈l0,0<z.w:=λz hz=>by have:=(hx z hz).1;omega
 have q:=jf E;have L:mv l0<=5*l0.length:=HB λx hx'=>(hx x hx').1.2
 have j:∀x∈mQ l0,MdV S A x.v:=λx hx'=>by
  obtain⟨z,hz,e⟩:=q.val x hx';rw[e];exact(hx z hz).2
 have s:∀x∈mQ l0,x.w<=5*most:=λx hx'=>by
  have D:=FO (q.pos E) x hx';rw[q.tot]at D;omega
 refine⟨⟨λx hx'=>⟨(j x hx').1,λi D G nm=>?_,?_⟩,q.asc⟩,IT q.len hl,λx hx' y hy=>?_,s⟩
 .have hv:=(j x hx').2 i D G;have M:=J _ (au G);refine Cj nm _ _ ?_ hv;have u:A[i].toNat<S.attrs.length:=Vf;rw[qY u];exact I _ (au u)
 .have D:=q.pos E x hx';have G:=s x hx';omega
 .obtain⟨i,hi,rfl⟩:=TW.1 hy;have B:=j x hx';exact Mn (B.2 i hi (by rw[<-B.1];exact hi))
theorem F3(hB:SB S)(hc:bz S=0)(hS:SJn S)(j:∀a∈S.attrs,a.2=1\/a.2=2\/a.2=3)(z:most<=12){d:List (List Rw)}(u:d.length=S.rels.length)(q:∀i (h:i<d.length) (s:i<S.rels.length),MdT S S.rels[i].2 most d[i]):DbOk S d where
 hB:=hB
 hc:=hc
 hS:=hS
 n:=u
 l:=λl hl=>by
  obtain⟨i,hi,rfl⟩:=TW.1 hl;have:=(sU j (hS.b _ (au (show i<S.rels.length by omega))) Vf (q i hi Vf)).2.1;omega
 t:=λr h s=>(sU j (hS.b _ (au s)) Vf (q r h s)).1
 zf:=λl hl=>by
  obtain⟨i,hi,rfl⟩:=TW.1 hl;exact(sU j (hS.b _ (au (show i<S.rels.length by omega))) Vf (q i hi Vf)).2.2.1
def v0(x:Rw):ByteArray:=x.v.getD 0 eb
end

section
open Mk Jn
theorem Ca(h:Made S most):∀a∈S.attrs,a.2=1\/a.2=2\/a.2=3:=λa ha=>by
 obtain⟨i,hi,rfl⟩:=TW.1 ha;have:=h.at' i hi;omega
theorem ni(h:Made S 5):SJn S:=
 QX (jd (jD h Vh)) (by have:=h.r2;omega) λx hx=>by
  obtain⟨i,hi,rfl⟩:=Sp hx;have:=ot (h.rs i hi).2.2.1 (h.rs i hi).2.2.2;have:=h.a2;omega
theorem O4{d:List (List Rw)}(j:Made S 5)(l:MdD S 4 S.rels.length d):DbOk S d:=
 F3 (r8 j Vh) (jD j Vh) (ni j) (Ca j) (most:=4) Vh l.1 l.2
end
section
open Go.RowKit Mk Jn Mm Vw
namespace Vw
def dR:List (ByteArray×Rat):=[(⟨#[48]⟩,0),(⟨#[49]⟩,1),(⟨#[45,50]⟩, -2),(⟨#[49,47,50]⟩,1/2),(⟨#[51]⟩,3),(⟨#[53,47,51]⟩,5/3),(⟨#[50]⟩,2)]
def qM(v:ByteArray):Rat:=match dR.find? (λp=>decide (p.1=v))with|some p=>p.2|none=>0
theorem Ic(v:ByteArray):dM 6 (qM v)/\bl 3 (qM v):=by
 have j:∀p∈dR,dM 6 p.2/\bl 3 p.2:=by
  intro p hp;simp only[dR,AS,Sn,T7]at hp;rcases hp with rfl|rfl|rfl|rfl|rfl|rfl|rfl
  .exact⟨⟨0,by decide+kernel⟩,⟨by decide+kernel,by decide+kernel⟩⟩
  .exact⟨⟨6,by decide+kernel⟩,⟨by decide+kernel,by decide+kernel⟩⟩
  .exact⟨⟨-12,by decide+kernel⟩,⟨by decide+kernel,by decide+kernel⟩⟩
  .exact⟨⟨3,by decide+kernel⟩,⟨by decide+kernel,by decide+kernel⟩⟩
  .exact⟨⟨18,by decide+kernel⟩,⟨by decide+kernel,by decide+kernel⟩⟩
  .exact⟨⟨10,by decide+kernel⟩,⟨by decide+kernel,by decide+kernel⟩⟩
  .exact⟨⟨12,by decide+kernel⟩,⟨by decide+kernel,by decide+kernel⟩⟩
 unfold qM;cases h:dR.find? (λp=>decide (p.1=v))with
 |none=>exact⟨⟨0,by decide+kernel⟩,bl.zero 3⟩
 |some p=>exact j p (T5 h)
theorem qM_vq(h:v∈CF):VQ qM v:=by
 have j:∀x:ByteArray,x=gb (qM x)->F1 (qM x)->VQ qM x:=λx e h1=>by
  refine⟨?_,(Ic x).1,(Ic x).2⟩;have l:=np (qM x) h1;rw[<-e]at l;exact l
 simp only[CF,AS,Sn,T7]at h;rcases h with rfl|rfl|rfl|rfl|rfl|rfl|rfl|rfl<;>exact j _ (by decide+kernel) ⟨by decide+kernel,by decide+kernel⟩
def Ld:List ByteArray:=⟨#[]⟩::(Lp++(uZ++CF))
theorem vT(h:v∈iB kd):v∈Ld:=by
 unfold iB at h;unfold Ld;rcases AS.1 h with h|h
 .simp[h]
 .refine RX _ ?_;split at h
  .exact S7 _ h
  .split at h
   .exact To _ (S7 _ h)
   .exact To _ (To _ h)
def QM(S:Sch):List Par:=⟨-1,⟨#[]⟩⟩::(List.range S.feats.length).flatMap λi:Nat=>Ld.map λt=>⟨(i:Int),t⟩
theorem LL{i:Nat}(j:i<S.feats.length){t:ByteArray}(l:t∈Ld):(⟨(i:Int),t⟩:Par)∈QM S:=
 RX _ (RN.2 ⟨i,Si.2 j,By.2 ⟨t,l,O⟩⟩)
theorem P3(S:Sch):(QM S).length=S.feats.length*15+1:=by
 unfold QM;rw[Rk];have:∀n,((List.range n).flatMap λi:Nat=>Ld.map λt=>(⟨(i:Int),t⟩:Par)).length=n*15:=λn=>by
  induction n with
  |zero=>rfl
  | succ n ih=>
    rw[UJ,Sc,IS,ih,RC,Uu,Sk,OF,show Ld.length=15 from O];omega
 rw[this]
noncomputable def lfM(S:Sch):Int->ByteArray->Gv:=λv t=>⟨liftS qM S v t,1,1,1⟩
def XM(S:Sch)(a:Nat):List ByteArray:=iB (S.attrs.getD a default).2
theorem Ad(h:n<=1):SOk 1 1 (cnt n):=(lY n).up h Vh
theorem KH(S:Sch):LfX (QM S) (XM S) (lfM S):=by
 refine⟨λv t ht=>?_,λ_ _=>rfl,λ_ _=>rfl,λ_ _=>rfl,λa=>Su⟩;have l:t∈Ld:=vT ht;have j:∀p∈QM S,GvOk (QM S) ⟨lft p (qM t),1,1,1⟩:=λp hp=>⟨Es p (qM t) (Ic t).1 (Ic t).2,Sup.lft hp _⟩
 have hc:∀n:Nat,n<=1->GvOk (QM S) ⟨cnt n,1,1,1⟩:=λn hn=>⟨Ad hn,Sup.cnt _ _⟩
 show GvOk (QM S) ⟨liftS qM S v t,1,1,1⟩;unfold liftS;split
 .split
  .exact hc 0 Vh
  .exact j _ Su
 .cases hf:S.feats.findIdx? (λf=>f.1==v)with
  |none=>exact hc 1 Vh
  | some i=>
    have q:i<S.feats.length:=(Ts.1 hf).1;simp only;split
    .exact⟨Es _ 1 (dM.ofInt 6 1) ⟨by decide+kernel,by decide+kernel⟩,Sup.lft (LL q l) _⟩
    .split
     .split
      .exact hc 0 Vh
      .exact hc 1 Vh
     .exact j _ (LL q Su)
theorem EX(l:Made S 5)(v:Nat)(t:ByteArray)(z:t∈XM S v):FnP prog 121 [eS S,.int .i64 v,.str t] (· =momP (lfM S v t).m):=by
 have q:=eV l.fs;have A:=l.a2;refine tR qM S v t Vf λhne hor=>?_
 have j:(S.attrs.getD v default).2=2:=by
  rcases hor with e|⟨i,hi,j⟩
  .rcases l.fs.2.2 with h|⟨a,h1,h2,h3⟩
   .omega
   .have:a=v:=Vf;subst this;exact h3
  .obtain⟨hlt,hp,_⟩:=Ts.1 hi;obtain⟨a,h1,h2,h3,h4⟩:=l.fs.2.1 _ (au hlt);have e:S.feats.getD i default=S.feats[i]:=by simp[List.getD,hlt]
   rw[e]at j;have:a=v:=by
    have s:S.feats[i].1=(v:Int):=by simpa using hp
    omega
   subst this;rcases h4 with h4|h4
   .exact h4.2.1
   .exact absurd h4.1 j
 have u:t∈iB 2:=by
  have:=z;unfold XM at this;rw[j]at this;exact this
 rcases AS.1 u with h|h
 .exact absurd h hne
 .exact qM_vq (by simpa using h)
structure WD(S:Sch)(T:List (List Rw)):Prop where
 len:T.length=S.rels.length
 l:∀l∈T,l.length<=4
 w:∀l∈T,∀x∈l,0<=x.w
 s:∀l∈T,mv l<=20
 v:∀r (h:r<T.length) (h2:r<S.rels.length),∀x∈T[r],MdV S S.rels[r].2 x.v
theorem IZ{l m:List Rw}(h:List.Sublist l m)(q:∀x∈m,0<=x.w):mv l<=mv m:=by
 induction h with
 |slnil=>exact Int.le_refl _
 | cons a h ih=>
   have j:=ih λx hx=>q x (by simp[hx])
   have s:=q a Vj;simp only[mv,bP,Se]at j ⊢;omega
 | cons_cons a h ih=>
   have j:=ih λx hx=>q x (by simp[hx])
   simp only[mv,bP,Se]at j ⊢;omega
theorem On{d:List (List Rw)}(B:MdD S 4 S.rels.length d)(k:Nat):WD S (cM S (d.set k [])):=by
 have u:(cM S (d.set k [])).length=S.rels.length:=by unfold cM;simp[B.1]
 have j:∀r (h:r<(cM S (d.set k [])).length),∃(q:r<d.length)(s:r<S.rels.length)(l0:List Rw),d[r]=mQ l0/\l0.length<=4/\(∀x∈l0,MdR S S.rels[r].2 x)/\List.Sublist (cM S (d.set k []))[r] (mQ l0):=λr h=>by
  have s:r<S.rels.length:=Vf;have q:r<d.length:=by have:=B.1;omega
  obtain⟨l0,e,hl,hx⟩:=B.2 r q s;refine⟨q,s,l0,e,hl,hx,?_⟩;have D:(cM S (d.set k []))[r]=nT S S.rels[r].2 ((d.set k [])[r]'(by rw[SI];exact q)):=by simp[cM]
  rw[D,U4];split
  .have:nT S S.rels[r].2 []=[]:=rfl;rw[this];exact List.nil_sublist _
  .rw[e];exact SZ
 have pos:∀{A:List Int}{l0:List Rw},(∀x∈l0,MdR S A x)->∀z∈l0,0<z.w:=λh z hz=>by have:=(h z hz).1;omega
 refine⟨u,λl hl=>?_,λl hl x hx=>?_,λl hl=>?_,λr h s x hx=>?_⟩
 .obtain⟨r,hr,rfl⟩:=TW.1 hl;obtain⟨q,s,l0,e,hl0,hx0,hs⟩:=j r hr;exact IT hs.length_le (IT (jf (pos hx0)).len hl0)
 .obtain⟨r,hr,rfl⟩:=TW.1 hl;obtain⟨q,s,l0,e,hl0,hx0,hs⟩:=j r hr;have:=(jf (pos hx0)).pos (pos hx0) x (hs.subset hx);omega
 .obtain⟨r,hr,rfl⟩:=TW.1 hl;obtain⟨q,s,l0,e,hl0,hx0,hs⟩:=j r hr;have E:=IZ hs λx hx=>by have:=(jf (pos hx0)).pos (pos hx0) x hx;omega
  rw[(jf (pos hx0)).tot]at E;have G:mv l0<=5*l0.length:=HB λx hx=>(hx0 x hx).1.2
  omega
 .obtain⟨q,_,l0,e,hl0,hx0,hs⟩:=j r h;obtain⟨z,hz,ez⟩:=(jf (pos hx0)).val x (hs.subset hx);rw[ez];exact(hx0 z hz).2
theorem oK:∀{l:List Rw},(∀x∈l,0<=x.w)->(((l.map λx=>x.w.toNat).sum:Nat):Int)=mv l
 |[],_=>rfl
 | x::l,h=>by
   have h1:=oK (l:=l) λy hy=>h y (by simp[hy])
   have j:=h x Vj;simp only[mv,bP,Se]at h1 ⊢;omega
theorem PY{T:List (List Rw)}(h:WD S T)(r:Int):wJ S T Gv.n r<=4:=by
 unfold wJ Prt.tot dZ;simp only[Ta];have e:∀l:List Rw,(l.map ((λi:Itm=>i.g.n)∘λx:Rw=>(⟨x.v,Gv.whole x.w.toNat⟩:Itm))).sum=l.length:=λl=>by
  induction l with
  |nil=>rfl
  |cons a l ih=>rw[bP,Se,ih,Rk];show 1+_=_;omega
 rw[e];unfold gK;rw[Rj];cases hg:T[r.toNat]? with
 |none=>exact cd _
 |some l=>exact h.l l (SC hg)
theorem L0{T:List (List Rw)}(h:WD S T)(r:Int):wJ S T Gv.w r<=20:=by
 unfold wJ Prt.tot dZ;simp only[Ta];show(List.map (λx:Rw=>x.w.toNat) (gK T r)).sum<=20;unfold gK;rw[Rj];cases hg:T[r.toNat]? with
 |none=>exact cd _
 | some l=>
   have j:=SC hg;have q:=oK (h.w l j);have u:=h.s l j;show(List.map (λx:Rw=>x.w.toNat) l).sum<=20;omega
theorem Md{T:List (List Rw)}(A:Made S 5)(E:OrdOk S P)(j:WD S T):VB S P T (QM S) (XM S) (lfM S):=by
 have D:=E.iw;have G:=E.len;have I:=A.a1;have J:=A.a2;have q:=A.r2;have L:=eV A.fs;have Z:4^S.rels.length<=64:=IT (S6 Vh q) Vh;have M:20^S.rels.length<=8000:=IT (S6 Vh q) Vh;have U:=fun{v:Nat}(hv:v<P.length)=>Dq (S:=S) (T:=T) (lf:=lfM S) D msr_n (λ_ _=>rfl) O (show 1<=4 by decide) (PY j) hv
 have V:=fun{v:Nat}(hv:v<P.length)=>Dq (S:=S) (T:=T) (lf:=lfM S) D EE (λ_ _=>rfl) O (show 1<=20 by decide) (L0 j) hv
 refine⟨r8 A Vh,ni A,E,Vf,Vf,q,j.len,λl hl=>by have:=j.l l hl;omega,λl hl x hx=>⟨j.w l hl x hx,?_⟩,by rw[P3];omega,λa t ht=>?_,KH S,λv hv t ht=>EX A v t ht,λr x hx=>?_,λv hv=>by have:=U hv;omega,λv hv=>by have:=V hv;omega,?_⟩
 .have h1:=j.s l hl;have X:=oK (j.w l hl);have h3:x.w.toNat<=(l.map λx=>x.w.toNat).sum:=by
   have:∀m:List Rw,x∈m->x.w.toNat<=(m.map λx=>x.w.toNat).sum:=λm u=>by
    induction m with
    |nil=>simp at u
    | cons b m ih=>
      rw[bP,Se];rcases AS.1 u with rfl|u
      .omega
      .have:=ih u;omega
   exact this l hx
  omega
 .have h1:=vT ht;have:∀x∈Ld,x.size<=1000:=by decide+kernel
  exact this t h1
 .unfold gK at hx;rw[Rj]at hx;cases hg:T[r.toNat]? with
  |none=>rw[hg]at hx;simp at hx
  | some l=>
    obtain⟨hr,e⟩:=Rp.1 hg;rw[hg]at hx;have B:r.toNat<S.rels.length:=by have:=j.len;omega
    have u:=j.v r.toNat hr B x (by rw[e];exact hx);have Y:cY S r=S.rels[r.toNat].2:=by simp[cY,List.getD,B]
    rw[Y];exact⟨u.1,u.2⟩
 .have h1:=yI (S:=S) (P:=P) (T:=T) (lf:=lfM S) EE O (rs:=aB P (-1)) (z:=Gv.whole 1);have X:=Gb (S:=S) (T:=T) (lf:=lfM S) D EE (λ_ _=>rfl) O (show 1<=20 by decide) (L0 j);have e:(Gv.whole 1).w=1:=rfl;rw[e,Nat.one_mul]at h1;unfold totV;omega
end Vw
end
section
open Go.RowKit Mk Jn Mm Vw
namespace Vw
abbrev t1:ByteArray:=⟨#[49]⟩
abbrev t7:ByteArray:=⟨#[55]⟩
abbrev t3:ByteArray:=⟨#[51]⟩
abbrev t8:ByteArray:=⟨#[56]⟩
abbrev exD:List (List Rw):=[[⟨[t1,Vw.t7],2⟩],[⟨[Vw.t7,t3],5⟩,⟨[Vw.t8,t3],1⟩]]
abbrev cg(w n k:Nat):Gv:=⟨cnt w,n,w,k⟩
theorem y7(a b:Nat):Mm.Sem.mul (cnt a) (cnt b)=cnt ((a*b:Nat):Int):=by
 refine Mm.Sem.same ?_ (λx=>?_) (λx y=>?_)
 .show((a:Int):Rat)*((b:Int):Rat)=(((a*b:Nat):Int):Rat);rw[<-T8];rfl
 .show((a:Int):Rat)*0+((b:Int):Rat)*0=0;rw[Ve,Ve,UT]
 .show((a:Int):Rat)*0+((b:Int):Rat)*0+(0*0+0*0)=0;rw[Ve,Ve,Ve,UT,UT]
theorem pI(a b n m k l:Nat):(cg a n k).mul (cg b m l)=cg (a*b) (n*m) (k+l):=by
 unfold Gv.mul;rw[y7]
theorem cg_nz(h:a≠0):(cg a n k).m≠Mm.Sem.zero:=λe=>by
 have j:((a:Int):Rat)=0:=ag Mm.Sem.c e;have l:(a:Int)=0:=Rat.intCast_inj.1 j;omega
def lfC:Int->ByteArray->Gv:=λ_ _=>cg 1 1 1
def XC:Nat->List ByteArray:=λ_=>[⟨#[]⟩,t1,Vw.t7,t3,Vw.t8]
theorem nG{v:Int}{E:List En}{x:Ch}(h:a≠0):stepE (lfC v) v K E (x,cg a n k)=vg E (iD K x) (cg a n (k+1)):=by
 unfold stepE;have e:(cg a n k).mul (lfC v (x.v.getD v.toNat ⟨#[]⟩))=cg a n (k+1):=by
  show(cg a n k).mul (cg 1 1 1)=_;rw[pI,R6,R6]
 rw[dt (by rw[e];exact cg_nz h),e]
theorem DN:cM aY exD=exD:=Vg
theorem QI:hoL aY bu ((0:Nat):Int)=[0]:=Vh
theorem Pk:hoL aY bu ((1:Nat):Int)=[]:=Vh
theorem QJ:hoL aY bu ((2:Nat):Int)=[1]:=Vh
theorem PQ:aB bu ((0:Nat):Int)=[]:=Vh
theorem Ql:aB bu ((1:Nat):Int)=[0,2]:=Vh
theorem Pg:aB bu ((2:Nat):Int)=[]:=Vh
theorem La:aB bu (-1)=[1]:=Vh
theorem Ei:OrdOk aY bu:=(oL.1 sT).2
abbrev e7(w:Nat):En:=⟨jnt [Vw.t7],[Vw.t7],cg w 1 1⟩
abbrev e8(w:Nat):En:=⟨jnt [Vw.t8],[Vw.t8],cg w 1 1⟩
abbrev eN:En:=⟨jnt [],[],cg 10 1 3⟩
theorem Ji:vwS aY bu exD lfC ((0:Nat):Int)=[e7 2]:=by
 rw[rv Ei.iw (show 0<bu.length by decide),mkV];unfold fi;rw[QI,PQ,show cE aY bu ((0:Nat):Int)=[1]from Fc];have e:leaves [dZ (cY aY 0) (gK exD 0)] (ch0 3) (Gv.whole 1)=[(⟨[t1,Vw.t7,⟨#[]⟩],[Sm,Sm,S1]⟩,(Gv.whole 1).mul (Gv.whole 2))]:=Vg;show foldE (lfC _) _ [1] [] (leaves [dZ (cY aY 0) (gK exD 0)] (ch0 3) (Gv.whole 1))=_;rw[e,show(Gv.whole 1).mul (Gv.whole 2)=cg 2 1 0 from pI 1 2 1 1 0 0];show stepE (lfC _) _ [1] [] _=_;rw[nG Vh]
 kernel_rfl
theorem HU:vwS aY bu exD lfC ((2:Nat):Int)=[e7 5,e8 1]:=by
 rw[rv Ei.iw (show 2<bu.length by decide),mkV];unfold fi;rw[QJ,Pg,show cE aY bu ((2:Nat):Int)=[1]from Hr];have e:leaves [dZ (cY aY 1) (gK exD 1)] (ch0 3) (Gv.whole 1)=[(⟨[⟨#[]⟩,Vw.t7,t3],[S1,Sm,Sm]⟩,(Gv.whole 1).mul (Gv.whole 5)),(⟨[⟨#[]⟩,Vw.t8,t3],[S1,Sm,Sm]⟩,(Gv.whole 1).mul (Gv.whole 1))]:=Vg;show foldE (lfC _) _ [1] [] (leaves [dZ (cY aY 1) (gK exD 1)] (ch0 3) (Gv.whole 1))=_;rw[e,show(Gv.whole 1).mul (Gv.whole 5)=cg 5 1 0 from pI 1 5 1 1 0 0,show(Gv.whole 1).mul (Gv.whole 1)=cg 1 1 0 from pI 1 1 1 1 0 0];show stepE (lfC _) _ [1] (stepE (lfC _) _ [1] [] _) _=_;rw[nG Vh,nG Vh]
 kernel_rfl
theorem JE(e:En):HM [e]=[e]:=by unfold HM;exact Uh Vj
theorem KA:HM [e7 5,e8 1]=[e7 5,e8 1]:=by
 unfold HM;refine Uh ?_;rw[Sa];refine⟨λx hx=>?_,Vj⟩;rw[Rn]at hx;subst hx;show decide (_<=_)=Sm;decide+kernel
theorem HW:vwS aY bu exD lfC ((1:Nat):Int)=[eN]:=by
 rw[rv Ei.iw (show 1<bu.length by decide),mkV];unfold fi;rw[Pk,Ql,show cE aY bu ((1:Nat):Int)=[]from K4];have j:cE aY bu 0=[1]:=Fc;have l:cE aY bu 2=[1]:=Hr;have v0:vwS aY bu exD lfC 0=[e7 2]:=Ji;have v2:vwS aY bu exD lfC 2=[e7 5,e8 1]:=HU;rw[SD,Sr,bP,bP,SD,j,l,v0,v2];unfold cW;rw[JE,KA];have e:leaves [⟨[1],[e7 2].map λe=>⟨e.v,e.g⟩⟩,⟨[1],[e7 5,e8 1].map λe=>⟨e.v,e.g⟩⟩] (ch0 3) (Gv.whole 1)=[(⟨[⟨#[]⟩,Vw.t7,⟨#[]⟩],[S1,Sm,S1]⟩,((Gv.whole 1).mul (cg 2 1 1)).mul (cg 5 1 1))]:=Vg;show foldE (lfC _) _ [] [] (leaves _ (ch0 3) (Gv.whole 1))=_;rw[e,show(Gv.whole 1).mul (cg 2 1 1)=cg 2 1 1 from pI 1 2 1 1 0 1,pI];show stepE (lfC _) _ [] [] _=_;rw[nG Vh]
 kernel_rfl
theorem Lj:totV aY bu exD lfC=cg 10 1 3:=by
 unfold totV totF;rw[La];have j:vwS aY bu exD lfC 1=[eN]:=HW;show(Gv.whole 1).mul (atV (iy (vwS aY bu exD lfC 1)) [])=_;rw[j];have e:iy [eN]=[eN]:=by unfold iy;exact Uh Vj
 rw[e];show(cg 1 1 0).mul (cg 10 1 3)=_;rw[pI]
theorem Jt:iy [e7 5,e8 1]=[e7 5,e8 1]:=by
 unfold iy;refine Uh ?_;rw[Sa];refine⟨λx hx=>?_,Vj⟩;rw[Rn]at hx;subst hx;show(!br [Vw.t8] [Vw.t7])=Sm;decide+kernel
theorem KD:((List.range bu.length).map λa:Nat=>iy (vwS aY bu exD lfC a))=[[e7 2],[eN],[e7 5,e8 1]]:=by
 have v0:vwS aY bu exD lfC ((0:Nat):Int)=[e7 2]:=Ji;have l:vwS aY bu exD lfC ((1:Nat):Int)=[eN]:=HW;have v2:vwS aY bu exD lfC ((2:Nat):Int)=[e7 5,e8 1]:=HU;have j:∀e:En,iy [e]=[e]:=λe=>by unfold iy;exact Uh Vj
 show [iy (vwS aY bu exD lfC ((0:Nat):Int)),iy (vwS aY bu exD lfC ((1:Nat):Int)),iy (vwS aY bu exD lfC ((2:Nat):Int))]=_;rw[v0,l,v2,j,j,Jt]
theorem ex_vb:VB aY bu (cM aY exD) [] XC lfC:=by
 rw[DN];have q:∀v:Nat,v<bu.length->v=0\/v=1\/v=2:=λv s=>by have s:v<3:=s;omega
 refine⟨lS,⟨Vh,Vh,Vh,Vh⟩,Ei,Vh,Vh,Vh,O,Vh,Vh,Vh,?_,⟨λv t _=>⟨Ad (BY 1),Sup.cnt _ _⟩,λ_ _=>rfl,λ_ _=>rfl,λ_ _=>rfl,λ_=>by simp[XC]⟩,λv s t ht=>?_,?_,λv s=>?_,λv s=>?_,?_⟩
 .intro a t ht;have:∀x∈[(⟨#[]⟩:ByteArray),t1,Vw.t7,t3,Vw.t8],x.size<=1000:=by decide+kernel
  exact this t ht
 .have h:=tR qM aY v t Vh λ_ h=>by
   rcases h with h|⟨i,hi,_⟩
   .have h:(v:Int)= -1:=h;omega
   .cases hi
  have e:liftS qM aY v t=cnt 1:=by
   unfold liftS;rw[dt (show ¬ (v:Int)=aY.label from λh=>by have h:(v:Int)= -1:=h;omega)];rfl
  rw[e]at h;exact h
 .intro r x l;have h:r.toNat=0\/r.toNat=1\/2<=r.toNat:=Vf;have z:∀x∈exD[0],VX XC [0,1] x.v:=by
   intro x l;obtain rfl:x=⟨[t1,Vw.t7],2⟩:=by simpa using l
   exact⟨O,λj h1 h2=>match j,h1 with|0,_=>by simp[XC]|1,_=>by simp[XC]⟩
  have u:∀x∈exD[1],VX XC [1,2] x.v:=by
   intro x l;have l:x=⟨[Vw.t7,t3],5⟩\/x=⟨[Vw.t8,t3],1⟩:=by simpa using l
   rcases l with rfl|rfl<;>exact⟨rfl,λj h1 h2=>match j,h1 with|0,_=>by simp[XC]|1,_=>by simp[XC]⟩
  unfold gK at l;unfold cY;rcases h with h|h|h
  .rw[h]at l ⊢; exact z x l
  .rw[h]at l ⊢; exact u x l
  .have:exD.getD r.toNat []=[]:=by rw[Rj,SF (by exact h)];rfl
   rw[this]at l;simp at l
 .rcases q v s with rfl|rfl|rfl
  .rw[Ji];decide
  .rw[HW];decide
  .rw[HU];decide
 .rcases q v s with rfl|rfl|rfl
  .rw[Ji];decide
  .rw[HW];decide
  .rw[HU];decide
 .rw[Lj];decide
end Vw
end
section
open Go.RowKit Mk Jn Mm Vw
abbrev kf(x:ByteArray):PV:= .agg [.str x,.sl Sl 0 [],.sl Sl 0 []]
theorem eqT0:FnP prog 168 [.sl Sl 0 [],.sl Sl 0 []] (· = .bool Sm):=by
 refine FnP.of func168 O ntmps168 Vj λm0 w0 F R0=>?_
 refine Z1 O<|Gr O ?_;iterate 5 refine A1 O ?_
 refine Gc O (λj=>absurd j Vh) (λj=>?_);refine Q3<|Z3 O<|Gl O (st:=λVn:Nat=>mkS [(0,.pv (.sl Sl 0 [])),(1,.pv (.sl Sl 0 [])),(12,pIi 0),(13,pIi 0)] [] 0)
  (I:=λVn=>True) (μ:=λVn=>0) (x0:=(0)) (Q5 (aS O) trivial O O) (trivial) ?_
 rintro u _;refine Z1 O<|Gp O (λl=>absurd l Vh) (λl=>?_);exact Gx O<|Z1 O<|Gt O<|⟨_,_,O,O,O⟩
theorem eqP0:FnP prog 169 [.sl Sl 0 [],.sl Sl 0 []] (· = .bool Sm):=by
 refine FnP.of func169 O ntmps169 Vj λm0 w0 F R0=>?_
 refine Z1 O<|Gr O ?_;iterate 5 refine A1 O ?_
 refine Gc O (λj=>absurd j Vh) (λj=>?_);refine Q3<|Z3 O<|Gl O (st:=λVn:Nat=>mkS [(0,.pv (.sl Sl 0 [])),(1,.pv (.sl Sl 0 [])),(12,pIi 0),(13,pIi 0)] [] 0)
  (I:=λVn=>True) (μ:=λVn=>0) (x0:=(0)) (Q5 (aS O) trivial O O) (trivial) ?_
 rintro u _;refine Z1 O<|Gp O (λl=>absurd l Vh) (λl=>?_);exact Gx O<|Z1 O<|Gt O<|⟨_,_,O,O,O⟩
theorem HZ(x:ByteArray):FnP prog 77 [kf x,kf x] (· = .bool Sm):=by
 refine FnP.of func77 O ntmps77 Vj λm0 w0 F R0=>?_
 have j:=eqT0;have l:=eqP0;have q:(x.toList==x.toList)=Sm:=S9 _;refine Z3 O<|Z4 O<|Rs O (XJ.cast (v:= .pv (.bool (x.toList==x.toList))) (v':= .pv (.bool Sm)) (dv O O O) (ag (λb=>V.pv (.bool b)) q)) ?_;iterate 5 refine A1 O ?_
 refine Rg O (aa call168 j O) ?_;iterate 6 refine A1 O ?_
 exact Rg O (aa call169 l O)<|Y2 O<|Gt O<|⟨_,_,O,O,O⟩
theorem NC(x y:ByteArray)(j:(x.toList==y.toList)=S1):FnP prog 77 [kf x,kf y] (· = .bool S1):=by
 refine FnP.of func77 O ntmps77 Vj λm0 w0 F R0=>?_
 refine Z3 O<|Z4 O<|Rs O (XJ.cast (v:= .pv (.bool (x.toList==y.toList))) (v':= .pv (.bool S1)) (dv O O O) (ag (λb=>V.pv (.bool b)) j)) ?_;iterate 15 refine A1 O ?_
 exact Gt O<|⟨_,_,O,O,O⟩
theorem PD:FnP prog 73 [] (· =kf t1):=by
 refine FnP.fg2 (FnP.ofC func73 O ntmps73 Vj λm0 w0 F R0=>?_);exact Z1 O<|Z2 O<|Gt O<|⟨_,_,O,O,⟨az ⟨_,underlying47,O⟩ L5 O O O,Vm⟩,O⟩
abbrev t0:ByteArray:=⟨#[48]⟩
theorem Oc:FnP prog 108 [] (· =kf t0):=by
 have h:=yP;rw[w7]at h;have e:wc ⟨((0:Int):Rat),[],[]⟩=kf t0:=by show PV.agg [.str (gb ((0:Int):Rat)),_,_]=_;rw[pA];rfl
 rw[e]at h;exact h
theorem L9:FnP prog 21 [] (· =kf t0):=by
 refine FnP.fg2 (FnP.ofC func21 O ntmps21 Vj λm0 w0 F R0=>?_);exact Z1 O<|Z2 O<|Gt O<|⟨_,_,O,O,⟨az ⟨_,underlying47,O⟩ L5 O O O,Vm⟩,O⟩
theorem JF:FnP prog 20 [kf t0,kf t0] (· = .bool Sm):=by
 refine FnP.of func20 O ntmps20 Vj λm0 w0 F R0=>?_
 refine Z3 O<|Gr O ?_;iterate 6 refine A1 O ?_
 apply Re 8 12 20 [13,14,15,16,17,18,19] O Vp
 .intro hb5;iterate 8 refine A1 O ?_
  exact Q7 Vo O O O
 .intro hb5;iterate 8 refine A1 O ?_
  exact Q7 Vo O O O
 refine A1 O ?_;apply Re 8 21 29 [22,23,24,25,26,27,28] O Vp
 .intro hb14;iterate 8 refine A1 O ?_
  exact Q7 Vo O O O
 .intro hb14;iterate 8 refine A1 O ?_
  exact Q7 Vo O O O
 refine Gc O (λj=>absurd j Vj) (λj=>?_);refine Q3<|Z4 O<|Gl O (st:=λVn:Nat=>mkS [(2,.ptr 0 0),(3,.ptr 1 0),(32,pIi 0),(33,pIi 0)] [(0,.mix 47 [.pv (.str t0),.pv (.sl Sl 0 []),.pv (.sl Sl 0 [])]),(1,.mix 47 [.pv (.str t0),.pv (.sl Sl 0 []),.pv (.sl Sl 0 [])])] 2)
  (I:=λVn=>True) (μ:=λVn=>0) (x0:=(0)) (Q5 (aS O) (aO O) O O) (trivial) ?_
 rintro u _;refine Z1 O<|Gp O (λl=>absurd l Vh) (λl=>?_);refine Gx O<|Z4 O<|Gl O (st:=λs:Nat=>mkS [(2,.ptr 0 0),(3,.ptr 1 0),(50,pIi 0),(51,pIi 0)] [(0,.mix 47 [.pv (.str t0),.pv (.sl Sl 0 []),.pv (.sl Sl 0 [])]),(1,.mix 47 [.pv (.str t0),.pv (.sl Sl 0 []),.pv (.sl Sl 0 [])])] 2)
  (I:=λs=>True) (μ:=λs=>0) (x0:=(0)) (Q5 (aS O) (aO O) O O) (trivial) ?_
 rintro u2 _;refine Z1 O<|Gp O (λq=>absurd q Vh) (λq=>?_);exact Gx O<|Z1 O<|Gt O<|⟨_,_,O,O,O⟩
theorem ctT0(g:FuncId):FnP prog 253 [.sl Sl 0 [],.fn (.func g) [] []] (· = .bool S1):=by
 have l:FnP prog 324 [.sl Sl 0 [],.fn (.func g) [] []] (· = .int .i64 (-1)):=by
  refine FnP.of func324 O ntmps324 Vj λm0 w0 F R0=>?_
  refine Z1 O<|Z3 O<|Gl O (st:=λVn:Nat=>mkS [(0,.pv (.sl Sl 0 [])),(1,.pv (.fn (.func g) [] [])),(7,pIi 0),(8,pIi 0)] [] 0)
   (I:=λVn=>True) (μ:=λVn=>0) (x0:=(0)) (Q5 (aS O) trivial O O) (trivial) ?_
  rintro u _;refine Z1 O<|Gp O (λj=>absurd j Vh) (λj=>?_);exact Gx O<|Z1 O<|Gt O<|⟨_,_,O,O,O⟩
 refine FnP.of func253 O ntmps253 Vj λm0 w0 F R0=>?_
 exact Z1 O<|Z2 O<|Rs O (aa call324 l O)<|Y2 O<|Gt O<|⟨_,_,O,O,O⟩
theorem asT0(g:FuncId):FnP prog 260 [.sl Sl 0 [],.fn (.func g) [] []] (· = .bool Sm):=by
 refine FnP.of func260 O ntmps260 Vj λm0 w0 F R0=>?_
 refine Z1 O<|Z1 O<|Gl O (st:=λVn:Nat=>mkS [(0,.pv (.sl Sl 0 [])),(1,.pv (.fn (.func g) [] [])),(5,pIi 1)] [] 0)
  (I:=λVn=>True) (μ:=λVn=>0) (x0:=(0)) (Q5 (aS O) trivial O O) (trivial) ?_
 rintro u _;refine Z4 O<|Gp O (λj=>absurd j Vh) (λj=>?_);exact Gx O<|Z1 O<|Gt O<|⟨_,_,O,O,O⟩
theorem ctP0(g:FuncId):FnP prog 257 [.sl Sl 0 [],.fn (.func g) [] []] (· = .bool S1):=by
 have l:FnP prog 325 [.sl Sl 0 [],.fn (.func g) [] []] (· = .int .i64 (-1)):=by
  refine FnP.of func325 O ntmps325 Vj λm0 w0 F R0=>?_
  refine Z1 O<|Z3 O<|Gl O (st:=λVn:Nat=>mkS [(0,.pv (.sl Sl 0 [])),(1,.pv (.fn (.func g) [] [])),(7,pIi 0),(8,pIi 0)] [] 0)
   (I:=λVn=>True) (μ:=λVn=>0) (x0:=(0)) (Q5 (aS O) trivial O O) (trivial) ?_
  rintro u _;refine Z1 O<|Gp O (λj=>absurd j Vh) (λj=>?_);exact Gx O<|Z1 O<|Gt O<|⟨_,_,O,O,O⟩
 refine FnP.of func257 O ntmps257 Vj λm0 w0 F R0=>?_
 exact Z1 O<|Z2 O<|Rs O (aa call325 l O)<|Y2 O<|Gt O<|⟨_,_,O,O,O⟩
theorem asP0(g:FuncId):FnP prog 262 [.sl Sl 0 [],.fn (.func g) [] []] (· = .bool Sm):=by
 refine FnP.of func262 O ntmps262 Vj λm0 w0 F R0=>?_
 refine Z1 O<|Z1 O<|Gl O (st:=λVn:Nat=>mkS [(0,.pv (.sl Sl 0 [])),(1,.pv (.fn (.func g) [] [])),(5,pIi 1)] [] 0)
  (I:=λVn=>True) (μ:=λVn=>0) (x0:=(0)) (Q5 (aS O) trivial O O) (trivial) ?_
 rintro u _;refine Z4 O<|Gp O (λj=>absurd j Vh) (λj=>?_);exact Gx O<|Z1 O<|Gt O<|⟨_,_,O,O,O⟩
structure KT(x:ByteArray):Prop where
 s:x.size<4294967281
 v:oi x=Sm
 b:Pe x=Sm
theorem OB(x:ByteArray)(h:KT x):FnP prog 165 [kf x] (· = .bool Sm):=by
 refine FnP.of func165 O ntmps165 Vj λm0 w0 F R0=>?_
 have z:=jZ x h.s λ_ u=>by rw[h.b]at u;cases u
 rw[h.v]at z;have A:=ctT0 254;have u:=ctP0 258;have B:=asT0 261;have D:=asP0 263;refine Z2 O<|Z2 O<|Rs O (aa call252 z O)<|A1 O<|Gc O (λl=>absurd l Vh) (λl=>?_);refine Q3<|Z2 O<|Rs O (aa call253 A O)<|Gc O (λq=>absurd q Vh) (λq=>?_);refine Q3<|Z2 O<|Rs O (aa call257 u O)<|Gc O (λj=>absurd j Vh) (λj=>?_);exact Q3<|Z2 O<|Rs O (aa call260 B O)<|Y3 O<|Rg O (aa call262 D O)<|Y2 O<|Gt O<|⟨_,_,O,O,O⟩
end
section
open Go.RowKit Mk Jn Mm Vw
abbrev t10:ByteArray:=⟨#[49,48]⟩
theorem oh(n:Nat)(x:ByteArray)(h:gb ((n:Int):Rat)=x):wc (cn (cnt n))=kf x:=by
 rw[Ag];show PV.agg [.str (gb ((n:Int):Rat)),_,_]=_;rw[h];rfl
theorem rt1:gb (((1:Nat):Int):Rat)=t1:=by decide+kernel
theorem QW:gb (((10:Nat):Int):Rat)=t10:=by decide+kernel
theorem kt1:KT t1:=⟨by decide+kernel,by decide+kernel,by decide+kernel⟩
theorem kt10:KT t10:=⟨by decide+kernel,by decide+kernel,by decide+kernel⟩
theorem th(n:Nat):GvOk [] (cg n 1 0):=⟨lY n,Sup.cnt _ _⟩
theorem My:FnP prog 75 [kf t1,kf t10] (· = .tup [kf t10,.int .i64 0]):=by
 refine FnP.ofC func75 O ntmps75 Vj λm0 w0 F R0=>?_
 have l:=OB t1 kt1;have q:=OB t10 kt10;have u:=MW (th 1) Vh (show 1<=40000 by decide) (cd 8);have z:=MW (th 10) Vh (show 10<=40000 by decide) (cd 8);have A:=sr (lY 1) (lY 10) (by decide+kernel) (by decide+kernel) Vh Vh;have s:=EB (th 10) Vh (show 10<=40000 by decide) (cd 8);rw[show wc (cn (cg 1 1 0).m)=kf t1 from oh 1 t1 rt1]at u;rw[show wc (cn (cg 10 1 0).m)=kf t10 from oh 10 t10 QW]at z;rw[y7]at A;unfold P6 at s;rw[show wc (cn (cg 10 1 0).m)=kf t10 from oh 10 t10 QW]at s;refine Z4 O<|Z1 O<|Rs O (aa call165 l O)<|Y3 O<|Rg O (aa call165 q O)<|Y2 O<|Gc O (λj=>absurd j Vh) (λj=>?_);refine Q3<|RW 10 O<|D1 O<|Ds [] O (λτ h=>aa call57 u (h.aK O)) O Vg<|D1 O<|Ds [] O (λτ h=>aa call57 z (h.aK O)) O Vg<|Ds [] O (λτ h=>aa call56 A (h.aK O)) O Vg<|Ds [] O (λτ h=>aa call50 s (h.aK O)) O Vg ?_;iterate 4 refine D1 O ?_
 refine⟨Vg,?_⟩;exact Gt O<|⟨_,_,O,O,⟨az ⟨_,underlying47,O⟩ L5 O O O,Vm⟩,O⟩
theorem qV(l:List (List En))(G:l.length<=1000)(c0:ByteArray)(k1 k2:Nat)(q1 q2:List PV):FnP prog 37 [.agg [.sl Sl l.length (lstsC l),.str c0,.sl Sl k1 q1,.sl Sl k2 q2]] (· =aj (l.map λE=>(E.length:Int))):=by
 refine FnP.of func37 O ntmps37 Vj λm0 w0 F R0=>?_
 obtain⟨L,hL⟩:∃L:List Int,L=l.map λE=>(E.length:Int):=⟨_,O⟩
 have B:L.length=l.length:=by rw[hL,OF]
 rw[<-hL];refine Z2 O<|Z1 O<|Q4 (Ra 3 1 1 3 O O)<|Z4 O<|Gl O (st:=λVn:Nat=>mkS [(3,.gsl 1 1 Vn),(7,.pv (.sl Sl l.length (lstsC l))),(8,pIi l.length),(9,pIi Vn)] [(1,.gro 3 (aE (L.take Vn)))] 2)
  (I:=λVn=>Vn<=l.length) (μ:=λVn=>l.length-Vn) (x0:=(0)) (Q5 (aS O) (aO Vg) O O) (cd _) ?_
 rintro i hi;refine Z1 O<|Gp O (λj=>?_) (λj=>?_)
 .have hlt:i<l.length:=Vf;have q:=wW hlt;have s:=x7 hlt;have u:L[i]'Vf=((l[i].length:Nat):Int):=by simp[hL]
  have z:aE (L.take i)++[.int .i64 ((l[i].length:Nat):Int)]=aE (L.take (i+1)):=by rw[AI (show i<L.length by omega),u];simp
  have D:(aE (L.take i)).length=i*1:=by simp;omega
  generalize l[i]=E at*;refine Q3<|Gr O<|Rs O (ae i underlying42 sz57 O O O hlt s)<|Rs O (aq ⟨_,underlying57,O⟩ O q)<|A1 O<|Gr O ?_;iterate 6 refine A1 O ?_
  exact Z2 O<|⟨(i+1),Q6 [0,3] (aT O) ⟨RI (b:=Sh (.gro 3 (aE (L.take i)++[.int .i64 ((E.length:Nat):Int)]))) Vg (ag (λc=>Sh (Ob.gro 3 c)) z),Vm⟩ O O Vh O,hlt,Vf⟩
 .have hie:L.take i=L:=aQ Vf;have A:i=L.length:=Vf;rw[hie,A];exact Gx O<|Q4 (Q8 (o:= .gro 3 (aE L)) 1 Vg O)<|Z2 O<|Gt O<|⟨_,_,O,O,O⟩
structure EOk(S:Sch)(K:List Int)(e:En):Prop where
 l:e.v.length=K.length
 v:FnP prog 165 [wc (cn e.g.m)] (· = .bool Sm)
 z:FnP prog 77 [wc (cn e.g.m),kf t0] (· = .bool S1)
 s:∀j (h:j<K.length) (h2:j<e.v.length),∃a:Nat,∃ha:a<S.attrs.length,K[j]=(a:Int)/\FnP prog 166 [.agg [.str S.attrs[a].1,.int .i64 S.attrs[a].2],.str e.v[j]] (· = .bool Sm)
theorem iP(S:Sch)(hSa:S.attrs.length<=1000)(K:List Int)(hK:K.length<=1000)(E:List En)(hEl:E.length<=1000)(hE:∀e∈E,EOk S K e)(ha:∀i (h:i+1<E.length),br (E[i]'Vf).v E[i+1].v=Sm):
  FnP prog 76 [eS S,aj K,.sl Sl E.length (entsC E)] (· = .bool Sm):=by
 refine FnP.of func76 O ntmps76 Vj λm0 w0 F R0=>?_
 have hz:=Oc;refine Z2 O<|Z3 O<|Gl O (st:=λVn:Nat=>mkS [(1,.pv (aj K)),(2,.pv (.sl Sl E.length (entsC E))),(3,.ptr 0 0),(11,.pv (.sl Sl E.length (entsC E))),(12,pIi E.length),(13,pIi Vn)] [(0,oZ S)] 1)
  (I:=λVn=>Vn<=E.length) (μ:=λVn=>E.length-Vn) (x0:=(0)) (Q5 (aS O) (aO Vg) O O) (cd _) ?_
 rintro i hi;refine Z1 O<|Gp O (λM=>?_) (λM=>?_)
 .have hlt:i<E.length:=Vf;have G:=nX hlt;have J:=za hlt;obtain⟨g1,g2,g3,g4⟩:=hE _ (au hlt);have L:((E[i].v.length:Nat):Int)=((K.length:Nat):Int):=by rw[g1]
  have D:∀h:0<i,(entsC E)[(i-1)*4+0]? =Sh (a7 (E[i-1]'Vf).v):=λh=>by
   have U:(((entsC E).drop ((i-1)*4)).take 4)[0]? =(entC (E[i-1]'Vf))[0]? :=by rw[nX (show i-1<E.length by omega)]
   simpa[Ry,Sq]using U
  have X:∀h:0<i,FnP prog 167 [a7 (E[i-1]'Vf).v,a7 E[i].v] (· = .bool Sm):=λh=>by
   have U:=qU (E[i-1]'Vf).v E[i].v (by rw[(hE _ (au (show i-1<E.length by omega))).l];omega) (by rw[g1];omega);have h3:=ha (i-1) Vf;have e:i-1+1=i:=Vf;simp only[e]at h3;rw[h3]at U;exact U
  generalize E[i]=e at*;refine Q3<|Z1 O<|Rs O (ae i underlying57 Ps O O O hlt J)<|Rs O (aU ⟨_,underlying59,O⟩ Ps O G O)<|Y3 O<|RW 18 O ?_;iterate 5 refine D1 O ?_
  refine Ds [] O (λτ h=>XJ.cast (v':= .pv (.bool S1)) (aC (Ee h 0 O O) (Ee h 1 O O) O) (ag (λb=>V.pv (.bool b)) (show(((e.v.length:Nat):Int) !=((K.length:Nat):Int))=S1 by rw[L];simp))) O Vg ?_;iterate 3 refine D1 O ?_
  refine Dg [] O (λτ h=>aa call165 g2 (h.aK O)) O Vg ?_;iterate 5 refine D1 O ?_
  refine Dg [] O (λτ h=>aa call108 hz (h.aK O)) O Vg<|Dg [] O (λτ h=>aa call77 g3 (h.aK O)) O Vg<|D1 O ?_;refine⟨Vg,?_⟩;refine Gc O (λA=>absurd A Vh) (λA=>?_);refine Q3<|Z3 O<|Gl O (st:=λu:Nat=>mkS [(1,.pv (aj K)),(2,.pv (.sl Sl E.length (entsC E))),(3,.ptr 0 0),(7,pIi i),(8,.ptr 1 0),(11,.pv (.sl Sl E.length (entsC E))),(12,pIi E.length),(13,pIi i),(36,.pv (aj K)),(37,pIi K.length),(38,pIi u)] [(0,oZ S),(1,.mix 59 [.pv (a7 e.v),.pv (.str (gb (cn e.g.m).c)),.pv (.sl Sl (cn e.g.m).s.length (fD (tmL (cn e.g.m).s))),.pv (.sl Sl (cn e.g.m).p.length (fE (prL (cn e.g.m).p)))])] 2)
   (I:=λu=>u<=K.length) (μ:=λu=>K.length-u) (x0:=(0)) (Q5 (aS O) (aO Vg) O O) (cd _) ?_
  rintro j hj;refine Z1 O<|Gp O (λT=>?_) (λT=>?_)
  .have hjl:j<K.length:=Vf;have z:j<e.v.length:=Vf;obtain⟨a,hal,hKa,hval⟩:=g4 j hjl z;have Y:(aE K)[j*1]? =Sh (.int .i64 (a:Int)):=by rw[<-hKa];simp[hjl]
   have Z:=aD hjl;have ab:=ln hal;have ac:=iu hal;have ad:=bE z;have af:=bA z;refine Q3<|Z1 O<|Rs O (ae j underlying22 sz3 O O O hjl Z)<|Rs O (aq ⟨_,underlying3,O⟩ O Y)<|Y2 O<|RW 12 O ?_;iterate 3 refine D1 O ?_
   refine Ds [] O (λτ h=>ae a underlying26 lZ (Ee h 0 O O) (Ee h 1 O O) O hal ac) O Vg<|Ds [] O (λτ h=>aU ⟨_,underlying162,O⟩ lZ (Ee h 0 O O) ab O) O Vg ?_;iterate 3 refine D1 O ?_
   refine Ds [] O (λτ h=>ae j underlying39 sz9 (Ee h 0 O O) (Ee h 1 O O) O z af) O Vg<|Ds [] O (λτ h=>aq ⟨_,underlying9,O⟩ (Ee h 0 O O) ad) O Vg<|Ds [] O (λτ h=>aa call166 hval (h.aK O)) O Vg<|D1 O ?_;refine⟨Vg,?_⟩;refine Gc O (λB=>absurd B Vh) (λB=>?_);exact Q3<|Z2 O<|⟨(j+1),Q5 (aS O) (aO Vg) O O,hjl,Vf⟩
  .refine Gx O ?_;by_cases h0:0<i
   .refine RW 14 O<|D1 O<|Ds [] O (λτ h=>XJ.cast (v':= .pv (.bool Sm)) (aC (Ee h 0 O O) (Ee h 1 O O) O) (ag (λb=>V.pv (.bool b)) (Ru (show(i:Int)>0 by omega)))) O Vg ?_;iterate 4 refine D1 O ?_
    refine Dg [] O (λτ h=>ae (i-1) underlying57 Ps (Ee h 0 O O) (Ee h 1 O O) Vf Vf J) O Vg<|D1 O<|Dg [] O (λτ h=>aq ⟨_,underlying39,O⟩ (Ee h 0 O O) (D h0)) O Vg ?_;iterate 2 refine D1 O ?_
    refine Dg [] O (λτ h=>aa call167 (X h0) (h.aK O)) O Vg ?_;iterate 2 refine D1 O ?_
    refine⟨Vg,?_⟩;refine Gc O (λq=>absurd q Vh) (λq=>?_);exact Q3<|Z2 O<|⟨(i+1),Q5 (aS O) (aO Vg) O O,hlt,Vf⟩
   .refine RW 14 O<|D1 O<|Ds [] O (λτ h=>XJ.cast (v':= .pv (.bool S1)) (aC (Ee h 0 O O) (Ee h 1 O O) O) (ag (λb=>V.pv (.bool b)) (Rv (show ¬ (i:Int)>0 by omega)))) O Vg ?_;iterate 12 refine D1 O ?_
    refine⟨Vg,?_⟩;refine Gc O (λq=>absurd q Vh) (λq=>?_);exact Q3<|Z2 O<|⟨(i+1),Q5 (aS O) (aO Vg) O O,hlt,Vf⟩
 .exact Gx O<|Z1 O<|Gt O<|⟨_,_,O,O,O⟩
end
section
open Go.RowKit Mk Jn Mm Vw
noncomputable abbrev exLs:List (List En):=[[e7 2],[eN],[e7 5,e8 1]]
noncomputable abbrev exW:PV:= .agg [.sl Sl 3 (lstsC exLs),.str t10,.sl Sl 0 [],.sl Sl 0 []]
abbrev tw2:ByteArray:=⟨#[50]⟩
theorem rt2:gb (((2:Nat):Int):Rat)=tw2:=by decide+kernel
theorem OG(r:Nat)(u:r<3)(key:List ByteArray)(A:key.length<=1)(g:Gv)(x:ByteArray)(q:atV (exLs.getD r []) key=g)(z:wc (cn g.m)=kf x):FnP prog 42 [exW,.int .i64 r,a7 key] (· =kf x):=by
 have l:∀w:Nat,w<=40000->MF1 (cn (cnt w)):=λw hw=>r6 (th w) Vh hw (cd 8)
 have s:∀E∈exLs,E.length<=1000000/\∀e∈E,e.v.length<=1000000/\MF1 (cn e.g.m):=by
  intro E hE;simp only[exLs,AS,Sn,T7]at hE;rcases hE with rfl|rfl|rfl
  .exact⟨Vj,λe he=>by simp only[AS,Sn,T7]at he;subst he;exact⟨Vj,l 2 Vh⟩⟩
  .exact⟨Vj,λe he=>by simp only[AS,Sn,T7]at he;subst he;exact⟨Vj,l 10 Vh⟩⟩
  .exact⟨Vj,λe he=>by simp only[AS,Sn,T7]at he;rcases he with rfl|rfl;exact⟨Vj,l 5 Vh⟩;exact⟨Vj,l 1 Vh⟩⟩
 have j:r<exLs.length:=u;obtain⟨h1,h2⟩:=s exLs[r] (au j);have h:=Px exLs t10 Sl Sl 0 0 [] [] r j key Vf h1 h2;have e:exLs.getD r []=exLs[r]:=by rw[Rj,Hj j];rfl
 rw[e]at q;rw[q,z]at h;exact h
theorem at_root:FnP prog 42 [exW,.int .i64 1,a7 []] (· =kf t10):=
 OG 1 Vh [] Vh (cg 10 1 3) t10 Vg (oh 10 t10 QW)
theorem at_7:FnP prog 42 [exW,.int .i64 0,a7 [Vw.t7]] (· =kf tw2):=
 OG 0 Vh [Vw.t7] Vh (cg 2 1 1) tw2 Vg (oh 2 tw2 rt2)
theorem at_8:FnP prog 42 [exW,.int .i64 0,a7 [Vw.t8]] (· =kf t0):=
 OG 0 Vh [Vw.t8] Vh gz t0 Vg (by rw[w7];show PV.agg [.str (gb ((0:Int):Rat)),_,_]=_;rw[pA];rfl)
def zT(i:Nat):ByteArray:=if i=0 then t1 else t10
theorem KJ:FnP prog 24 [eS aY,og bu,exW] (· = .tup [kf t10,.int .i64 0]):=by
 refine FnP.ofC func24 O ntmps24 Vj λm0 w0 F R0=>?_
 have s:=ff aY lS bu Vh;rw[sT]at s;have u:=tA aY lS bu Vh (-1);rw[dt Vh,La]at u;have A:=PD;have B:=at_root;have D:∀i,i<1->FnP prog 75 [kf (zT i),kf t10] (· = .tup [kf (zT (i+1)),.int .i64 0]):=λi hi=>by
  obtain rfl:i=0:=Vf;exact My
 refine Gr O ?_;iterate 5 refine A1 O ?_
 refine Z2 O<|Rs O (aa call72 s O)<|A1 O<|Z2 O<|Gc O (λj=>absurd j Vh) (λj=>?_);refine Q3<|Gr O ?_;iterate 7 refine A1 O ?_
 refine Gc O (λl=>absurd l Vh) (λl=>?_);refine Q3<|Gr O<|Rs O (aa call73 A O)<|Y2 O<|Z2 O<|Rs O (aa call74 u O)<|Y2 O<|Gl O (st:=λVn:Nat=>mkS [(5,.ptr 2 0),(6,.ptr 3 0),(9,.ptr 4 0),(32,.pv (aj [1])),(33,pIi 1),(34,pIi Vn)] [(2,.mix 49 [.pv (.sl Sl 3 (lstsC exLs)),.pv (.str t10),.pv (.sl Sl 0 []),.pv (.sl Sl 0 [])]),(3,.mix 47 [.pv (.str ⟨#[]⟩),.pv nS,.pv nS]),(4,.mix 47 [.pv (.str (zT Vn)),.pv (.sl Sl 0 []),.pv (.sl Sl 0 [])])] 5)
  (I:=λVn=>Vn<=1) (μ:=λVn=>1-Vn) (x0:=(0)) (Q5 (aS O) (aO Vg) O O) (cd _) ?_
 rintro i hi;refine Z1 O<|Gp O (λz=>?_) (λz=>?_)
 .have hi1:i<1:=Vf;have J:=D i hi1;have E:(aE [1])[i*1]? =Sh (.int .i64 1):=by obtain rfl:i=0:=(Vf);rfl
  have G:aE [1]≠[]:=Vj;refine Q3<|Gr O<|Rs O (ae i underlying22 sz3 O O O hi1 G)<|Rs O (aq ⟨_,underlying3,O⟩ O E)<|A1 O<|RW 11 O ?_;iterate 3 refine D1 O ?_
  refine Ds [] O (λτ h=>aa call42 B (h.aK O)) O Vg<|Ds [] O (λτ h=>aa call75 J (h.aK O)) O Vg ?_;iterate 6 refine D1 O ?_
  refine⟨Vg,?_⟩;refine Z2 O<|Gc O (λq=>absurd q Vh) (λq=>?_);exact Q3<|Z2 O<|Z2 O<|⟨(i+1),Q5 (aS O) (aO Vg) O O,hi1,Vf⟩
 .have hi1:i=1:=Vf;subst hi1;exact Gx O<|Z3 O<|Gt O<|⟨_,_,O,O,⟨az ⟨_,underlying47,O⟩ L5 O O O,Vm⟩,O⟩
end
section
open Go.RowKit Mk Jn Mm Vw
theorem yM(e:En)(w:Nat)(x:ByteArray)(l:e.g.m=cnt w)(q:gb ((w:Int):Rat)=x)(s:KT x)(u:(x.toList==t0.toList)=S1)(K:List Int)(z:e.v.length=K.length)(A:∀a∈K,a=1)(B:∀y∈e.v,bh y=Sm/\(rdZ y).natAbs<1000000000):EOk aY K e:=by
 have hc:wc (cn e.g.m)=kf x:=by rw[l];exact oh w x q
 refine⟨z,?_,?_,λj h1 h2=>⟨1,Vh,A _ (au h1),pM _ _ (.inr (B _ (au h2)))⟩⟩
 .rw[hc];exact OB x s
 .rw[hc];exact NC x t0 u
theorem DQ(K:List Int)(E:List En)(A:(K=[1]/\E=[e7 2])\/(K=[]/\E=[eN])\/(K=[1]/\E=[e7 5,e8 1])):FnP prog 76 [eS aY,aj K,.sl Sl E.length (entsC E)] (· = .bool Sm):=by
 have l:gb (((2:Nat):Int):Rat)=⟨#[50]⟩:=by decide+kernel
 have q:gb (((5:Nat):Int):Rat)=⟨#[53]⟩:=by decide+kernel
 have s:KT ⟨#[50]⟩:=⟨by decide+kernel,by decide+kernel,by decide+kernel⟩;have u:KT ⟨#[53]⟩:=⟨by decide+kernel,by decide+kernel,by decide+kernel⟩;have j:∀y∈[Vw.t7],bh y=Sm/\(rdZ y).natAbs<1000000000:=λy hy=>by rw[Rn]at hy;subst hy;exact⟨by decide+kernel,by decide+kernel⟩
 have z:∀y∈[Vw.t8],bh y=Sm/\(rdZ y).natAbs<1000000000:=λy hy=>by rw[Rn]at hy;subst hy;exact⟨by decide+kernel,by decide+kernel⟩
 rcases A with⟨rfl,rfl⟩|⟨rfl,rfl⟩|⟨rfl,rfl⟩
 .refine iP aY Vh [1] Vh [e7 2] Vh (λe he=>?_) (λi h=>absurd h Vj);rw[Rn]at he;subst he;exact yM _ 2 _ O l s (by decide+kernel) [1] O Vj j
 .refine iP aY Vh [] Vh [eN] Vh (λe he=>?_) (λi h=>absurd h Vj);rw[Rn]at he;subst he;exact yM _ 10 _ O QW kt10 (by decide+kernel) [] O Vj Vj
 .refine iP aY Vh [1] Vh [e7 5,e8 1] Vh (λe he=>?_) (λi h=>?_)
  .simp only[AS,Sn,T7]at he;rcases he with rfl|rfl
   .exact yM _ 5 _ O q u (by decide+kernel) [1] O Vj j
   .exact yM _ 1 _ O rt1 kt1 (by decide+kernel) [1] O Vj z
  .obtain rfl:i=0:=by simp at h;omega
   show br [Vw.t7] [Vw.t8]=Sm;decide+kernel
theorem Ib:FnP prog 25 [eS aY,og bu,exW] (· = .bool Sm):=by
 refine FnP.of func25 O ntmps25 Vj λm0 w0 F R0=>?_
 have z:=ff aY lS bu Vh;rw[sT]at z;have L:=CX aY lS bu Ei;have u:=KJ;have M:=HZ t10;have Y:(bg aY bu).kes.length=3:=by simp[bg,a6]
 have A:∀i (h:i<3) (h2:i<(bg aY bu).kes.length),FnP prog 76 [eS aY,aj (bg aY bu).kes[i],.sl Sl (exLs[i]'h).length (entsC (exLs[i]'h))] (· = .bool Sm):=λi h h2=>by
  have:i=0\/i=1\/i=2:=Vf;rcases this with rfl|rfl|rfl
  .exact DQ _ _ (.inl ⟨(Cw (S:=aY) (P:=bu) (v:=0) Vh).trans Fc,O⟩)
  .exact DQ _ _ (.inr (.inl ⟨(Cw (S:=aY) (P:=bu) (v:=1) Vh).trans K4,O⟩))
  .exact DQ _ _ (.inr (.inr ⟨(Cw (S:=aY) (P:=bu) (v:=2) Vh).trans Hr,O⟩))
 obtain⟨l,hl⟩:∃l,l=exLs:=⟨_,O⟩;have Z:l.length=3:=by rw[hl];rfl
 have B:∀i (h:i<l.length) (h2:i<(bg aY bu).kes.length),FnP prog 76 [eS aY,aj (bg aY bu).kes[i],.sl Sl l[i].length (entsC l[i])] (· = .bool Sm):=λi h h2=>by subst hl;exact A i h h2
 unfold exW at u ⊢;rw[<-hl]at u ⊢;clear A hl;generalize bg aY bu=D at*;refine Z4 O<|Z2 O<|Rs O (aa call72 z O) ?_;iterate 10 refine A1 O ?_
 refine Gc O (λq=>absurd q Vh) (λq=>?_);refine Q3<|Z2 O<|Rs O (aa call46 L O)<|Y2 O<|Z4 O<|Gl O (st:=λVn:Nat=>mkS [(3,.ptr 0 0),(4,.ptr 1 0),(5,.ptr 2 0),(7,.ptr 3 0),(29,.pv (.sl Sl 3 (lstsC l))),(30,pIi 3),(31,pIi Vn)] [(0,.mix 30 [.pv (.sl Sl 3 (aG aY.attrs)),.pv (.sl Sl 2 (aM aY.rels)),.pv (.sl Sl 0 []),pIi (-1)]),(1,.mix 32 [.pv (aj bu)]),(2,.mix 49 [.pv (.sl Sl 3 (lstsC l)),.pv (.str t10),.pv (.sl Sl 0 []),.pv (.sl Sl 0 [])]),(3,.mix 97 [.pv (aW D.chs),.pv (aW D.kes),.pv (aW D.hos),.pv (aj D.wa)])] 4)
  (I:=λVn=>Vn<=3) (μ:=λVn=>3-Vn) (x0:=(0)) (Q5 (aS O) (aO Vg) O O) (cd _) ?_
 rintro i hi;refine Z1 O<|Gp O (λJ=>?_) (λJ=>?_)
 .have hlt:i<l.length:=Vf;have G:i<3:=Vf;have j:i<D.kes.length:=Vf;have T:=wW hlt;have U:=x7 hlt;have V:=dx j;have X:=dz j;have he:=B i hlt j;generalize l[i]=E at*;generalize D.kes[i]=K at*;refine Q3<|Z1 O<|Rs O (ae i underlying42 sz57 O O O G U)<|Rs O (aq ⟨_,underlying57,O⟩ O T)<|Y2 O<|RW 9 O ?_;iterate 4 refine D1 O ?_
  refine Ds [] O (λτ h=>ae i underlying95 nv (Ee h 0 O O) (Ee h 1 O O) O j X) O Vg<|Ds [] O (λτ h=>aq ⟨_,underlying22,O⟩ (Ee h 0 O O) V) O Vg<|D1 O<|Ds [] O (λτ h=>aa call76 he (h.aK O)) O Vg<|D1 O ?_;refine⟨Vg,?_⟩;refine Gc O (λs=>absurd s Vh) (λs=>?_);exact Q3<|Z2 O<|⟨(i+1),Q5 (aS O) (aO Vg) O O,Vf,Vf⟩
 .refine Gx O<|Z3 O<|Rs O (aa call24 u O) ?_;iterate 6 refine A1 O ?_
  refine Gr O ?_;iterate 6 refine A1 O ?_
  exact Rg O (aa call77 M O)<|Y2 O<|Gt O<|⟨_,_,O,O,O⟩
end



section
open Go.RowKit Mk Jn Mm Vw
theorem Fg:FnP prog 40 [] (· = .tup [eS aY,og bu]):=by
 refine FnP.fg2 (FnP.ofC func40 O ntmps40 Vj λm0 w0 F R0=>?_);exact Z2 O<|Z3 O<|Rs O (ar Sl Vj el26 O Vh Vh O O)<|Rs O (ar Sl Vj tm O Vh Vh O O)<|A1 O<|Rs O (ar Sl Vj tm O Vh Vh O O)<|A1 O<|Rs O (ar Sl Vj el27 O Vh Vh O O)<|Y3 O<|Z1 O<|Rs O (ar Sl Vj tm O Vh Vh O O)<|Y3 O<|Gt O<|⟨_,_,O,O,⟨az ⟨_,underlying30,O⟩ sz30 O O O,az ⟨_,underlying32,O⟩ J4 O O O,Vm⟩,O⟩
theorem ex_sj:SJn aY:=⟨Vh,Vh,Vh,Vh⟩
theorem Eu(A:List Int)(v:List ByteArray)(w:Int)(l:v.length=A.length)(q:∀a∈A,(aY.attrs.getD a.toNat default).2=1)(s:∀y∈v,bh y=Sm/\(rdZ y).natAbs<1000000000)(j:1<=w/\w<=100):RowOk aY A 1 ⟨v,w⟩:=
 ⟨l,λi h1 h2 nm=>by rw[q _ (au h2)];exact pM nm _ (.inr (s _ (au h1))),⟨by show w≠0;omega,j.1,j.2⟩⟩
theorem IM:FnP prog 111 [eS aY,dbP exD] (· = .int .i64 0):=by
 have j:∀y∈[t1,Vw.t7,t3,Vw.t8],bh y=Sm/\(rdZ y).natAbs<1000000000:=λy hy=>by
  simp only[AS,Sn,T7]at hy;rcases hy with rfl|rfl|rfl|rfl<;>exact⟨by decide+kernel,by decide+kernel⟩
 refine yO aY lS ex_sj FJ exD O Vh λr h h2=>?_
 match r,h with
 | 0,_=>
   refine⟨λx hx=>?_,?_⟩
   .obtain rfl:x=⟨[t1,Vw.t7],2⟩:=by simpa using hx
    exact Eu [0,1] _ _ O Vh (λy hy=>j y (by simp at hy ⊢; rcases hy with h|h<;>simp[h])) ⟨Vh,Vh⟩
   .show LO [_];exact List.pairwise_singleton _ _
 | 1,_=>
   refine⟨λx hx=>?_,?_⟩
   .have hx:x=⟨[Vw.t7,t3],5⟩\/x=⟨[Vw.t8,t3],1⟩:=by simpa using hx
    rcases hx with rfl|rfl
    .exact Eu [1,2] _ _ O Vh (λy hy=>j y (by simp at hy ⊢; rcases hy with h|h<;>simp[h])) ⟨Vh,Vh⟩
    .exact Eu [1,2] _ _ O Vh (λy hy=>j y (by simp at hy ⊢; rcases hy with h|h<;>simp[h])) ⟨Vh,Vh⟩
   .show LO [_,_];refine Sa.2 ⟨λx hx=>?_,List.pairwise_singleton _ _⟩;obtain rfl:x=⟨[Vw.t8,t3],1⟩:=by simpa using hx
    show br [Vw.t7,t3] [Vw.t8,t3]=Sm;decide+kernel
theorem J7:FnP prog 13 [eS aY,og bu,dbP exD] (· = .tup [exW,.int .i64 0]):=by
 have h:=qx exD ex_vb O Vh (λr h l x j=>by
  match r,h with
  | 0,_=>
    obtain rfl:x=⟨[t1,Vw.t7],2⟩:=by simpa using j
    rfl
  | 1,_=>
    have j:x=⟨[Vw.t7,t3],5⟩\/x=⟨[Vw.t8,t3],1⟩:=by simpa using j
    rcases j with rfl|rfl<;>rfl) FJ IM
 rw[DN,KD,Lj]at h;have e:vwsP exLs (cn (cg 10 1 3).m)=exW:=by
  show PV.agg (_::NI (cn (cnt 10)))=_;have l:NI (cn (cnt (10:Nat)))=[.str t10,.sl Sl 0 [],.sl Sl 0 []]:=by
   have:=oh 10 t10 QW;injection this
  rw[show NI (cn (cnt 10))=NI (cn (cnt (10:Nat)))from O,l];rfl
 rw[e]at h;exact h
theorem QP:FnP prog 9 [] (· = .bool Sm):=by
 refine FnP.of func9 O ntmps9 Vj λm0 w0 F R0=>?_
 have j:=Fg;have l:=J7;have q:=qV exLs Vh t10 0 0 [] [];have s:=Hn [1,1,2] Vh;have u:=at_7;have z:=at_8;have A:=Ib;have D:=L9;have B:=JF;refine Z1 O<|Gr O<|Rs O (aa call40 j O) ?_;iterate 7 refine A1 O ?_
 refine Gr O<|Rs O (ar Sl Vj Cr O Vh Vh O O)<|A1 O<|Rs O (ar Sl Vj Lo O Vh Vh O O)<|Rs O (ar Sl Vj Cr O Vh Vh O O)<|A1 O<|Rs O (ar Sl Vj Cr O Vh Vh O O)<|A1 O<|Rs O (ar Sl Vj Lo O Vh Vh O O)<|Rs O (ar Sl Vj el34 O Vh Vh O O)<|A1 O<|Z3 O<|Rs O (aa call13 l O) ?_;iterate 6 refine A1 O ?_
 refine Z4 O<|Rg O (aa call37 q O)<|Rg O (ar Sl Vj tm O Vh Vh O O)<|Rg O (aa call41 s O)<|Y3 O<|Rg O (ar Sl Vj Cr O Vh Vh O O)<|Rg O (aa call42 u O)<|Rg O (Dz underlying47 O O ⟨_,underlying43,O⟩ O O)<|Rg O (XJ.cast (v':= .pv (.bool Sm)) (dv O O O) (ag (λb=>V.pv (.bool b)) (S9 _))) ?_;iterate 5 refine A1 O ?_
 refine Rg O (XJ.cast (v':= .pv (.bool Sm)) (dv O O O) (ag (λb=>V.pv (.bool b)) (S9 _))) ?_;iterate 5 refine A1 O ?_
 exact Rg O (aa call25 A O)<|Y3 O<|Rg O (ar Sl Vj Cr O Vh Vh O O)<|Rg O (aa call42 z O)<|Rg O (aa call21 D O)<|Rg O (aa call20 B O)<|Y2 O<|Gt O<|⟨_,_,O,O,O⟩
end


section
open Go.RowKit Mk Jn Mm Vw
theorem Bu(t:List Int)(k0:Nat)(A:t.length<=600)(s:k0<=t.length):FnO prog 11 1 0 [.ptr big 0] [(big,vx t k0)] (λv ob'=>∃(S:Sch)(q:List Int)(d:List (List Rw))(k':Nat),Made S 5/\q.Perm (upZ S.attrs.length)/\MdD S 4 S.rels.length d/\k'<=t.length/\
  v= .tup [.agg (sCc S),.agg [.pv (aj (ordL S q))],.pv (dbP d)]/\ob'=ax [(big,vx t k')]):=by
 refine FnO.ofC func11 O ntmps11 Vj λm0 w0 F R0=>?_
 refine Z3 O<|Z1 O<|RL.call O (mT call26 (xB t k0 5 Vf s Vf Vf) O O ?_);rintro _ _ ⟨⟨S,hM,rfl⟩,k1,hk1,rfl⟩;have u:=jD hM Vf;have j:=r8 hM Vf;have hS:=ni hM;have z:=hM.r2;refine Y2 O<|Ge O follows [0,1,2,4,5,3,6,7,8,9] Vg ?_;iterate 5 refine D1 O ?_
 refine DL.rel (RM 91 big (λv c=>(∃q:List Int,q.Perm (upZ S.attrs.length)/\v=og (ordL S q))/\∃k',k'<=t.length/\c=ig t k')) [big] [] [big] O O O (λτ h=>relM call43 (tP t k1 Vf hk1 S j u) (h.args.trans O) (Eo h 0 O O)) O Vg Vg Vg ?_;rintro _ ⟨_,_,⟨⟨q,hq,rfl⟩,k2,hk2,rfl⟩,rfl⟩ _ _;refine DL.rel (RM 91 big (λv c=>(∃d,MdD S 4 S.rels.length d/\v=dbP d)/\∃k',k'<=t.length/\c=ig t k')) [big] [] [big] O O O (λτ h=>relM call27 (sK t k2 Vf hk2 S 4 Vh Vf (λr hr=>⟨hS.l r hr,hS.b r hr⟩)) (h.args.trans O) (Eo h 0 O O)) O Vg Vg Vg ?_;rintro _ ⟨_,_,⟨⟨d,hd,rfl⟩,k3,hk3,rfl⟩,rfl⟩ _ _;iterate 3 refine D1 O ?_
 refine⟨Vg,?_⟩;exact Gt O<|⟨[(2,.ptr 0 0),(3,.ptr 1 0),(4,.pv (dbP d))],[(big,vx t k3),(0,oZ S),(1,.mix 32 [.pv (aj (ordL S q))])],[.agg (sCc S),.agg [.pv (aj (ordL S q))],.pv (dbP d)],[(big,vx t k3)],2,Q5 (aS Vg) (aO Vg) O O,O,⟨az ⟨_,underlying30,O⟩ sz30 O O O,az ⟨_,underlying32,O⟩ J4 O O O,Vm⟩,O,O,λi o h=>by simp only[ax]at h ⊢; cases hb:Nat.beq i big<;>simp_all,cd _,S,q,d,k3,hM,hq,hd,hk3,O,O⟩
end
section
open Go.RowKit Mk Jn Mm Vw
theorem N6{T:List (List Rw)}(h:Vw.WD S T):Lz S T:=λr x hx=>by
 unfold gK at hx;rw[Rj]at hx;cases hg:T[r.toNat]? with
 |none=>rw[hg]at hx;simp at hx
 | some l=>
   obtain⟨hr,e⟩:=Rp.1 hg;rw[hg]at hx;have j:r.toNat<S.rels.length:=by have:=h.len;omega
   have q:=(h.v r.toNat hr j x (by rw[e];exact hx)).1;rw[q];simp[cY,List.getD,j]
theorem CG(h:a<=b):decide (yr a b>0)=S1:=by
 refine Rv ?_;unfold yr;split
 .omega
 .split<;>omega
theorem mM(t:List Int):FnP prog 8 [aj t] (· = .bool Sm):=by
 refine FnP.of func8 O ntmps8 Vj λm0 w0 F R0=>?_
 have af:=QP;refine Z1 O<|Z3 O<|Gp O (λhc15=>?_) (λhc15=>?_)
 .exact Gr O<|Rs O (aa call9 af O)<|A1 O<|Gt O<|⟨_,_,O,O,O⟩
 .have hL:t.length<=400:=Vf;refine Q3<|Z1 O<|RL.call O (tE [] 0 call10 (HX t Vf) O O O O trivial Vh O ?_);rintro _ _ ⟨rfl,rfl⟩;refine A1 O<|Z1 O<|RL.call O (bM [0] 1 call11 O O O O (by exact⟨Vg,Vm⟩) Vh O (Bu t 0 Vf (cd _)) ?_);rintro _ _ ⟨S,q,d,k1,hM,hq,hd,hk1,rfl,rfl⟩;iterate 9 refine A1 O ?_
  have h0:=jD hM Vf;have hV:=jd h0;have ak:=r8 hM Vf;have hSJ:=ni hM;have hO:OrdOk S (ordL S q):=(zx hV hq).ok hV hq;have hlen:=hO.len;have D:=O4 hM hd;have M:=D.n;have hr2:=hM.r2;have ha2:=hM.a2;have G:Vw.WD S (cM S d):=by
   have:=On hd d.length;rwa [List.set_eq_of_length_le (BY _)]at this
  have hvb:=Md hM hO G;have U:∀l∈d,l.length<=60:=λl hl=>by have:=D.l l hl;omega
  have hxl:∀r (h:r<d.length) (h2:r<S.rels.length),∀x∈d[r],x.v.length=S.rels[r].2.length:=λr h h2 x hx=>((D.t r h h2).row x hx).l
  have hck:=yO S ak D.hS h0 _ M U D.t;have A:=qx d hvb M U hxl h0 hck;have hTL:=N6 G;have hbd:=ya d ak hSJ hO h0 M U hxl hck hr2 Vf hTL (λl hl=>by have:=G.l l hl;omega);have hvw:=fun(v:Nat)(hv:v<(ordL S q).length)(b:Nat)(hb:Bnd S (ordL S q) (cM S d) (v:Int) b)=>Kc (lf:=lfM S) hO hTL hv hb
  have hrt:=fun(v:Nat)(hv:v<(ordL S q).length)(h:(ordL S q)[v]= -1)=>JJ (S:=S) (T:=cM S d) (lf:=lfM S) hv h
  have hrg:=hO.rng;obtain⟨LS,hLS⟩:∃LS:List (List En),LS=(List.range (ordL S q).length).map λa:Nat=>iy (vwS S (ordL S q) (cM S d) (lfM S) a):=⟨_,O⟩
  have X:LS.length=S.attrs.length:=by rw[hLS,OF,List.length_range];exact hlen
  have hLe:∀a (ha:a<LS.length),LS[a].length=(vwS S (ordL S q) (cM S d) (lfM S) a).length:=λa ha=>by
   simp only[hLS,SE,List.getElem_range];exact(fa _).length_eq
  rw[<-hLS]at A;generalize cn (totV S (ordL S q) (cM S d) (lfM S)).m=z at A;unfold vwsP at A;have hsz:=qV LS Vf (gb z.c) z.s.length z.p.length (fD (tmL z.s)) (fE (prL z.p));generalize cM S d=T at*;generalize ordL S q=P at*;generalize lfM S=lf at*;obtain⟨NS,hNS⟩:∃NS:List Int,NS=LS.map λE=>(E.length:Int):=⟨_,O⟩
  have hNl:NS.length=S.attrs.length:=by rw[hNS,OF,X]
  rw[<-hNS,X]at hsz;rw[X]at A;have hbu2:FnP prog 13 [eS S,og P,dbP d] (· = .tup [.agg [.sl Sl S.attrs.length (lstsC LS),.str (gb z.c),.sl Sl z.s.length (fD (tmL z.s)),.sl Sl z.p.length (fE (prL z.p))],.int .i64 0]):=A;clear A hvb G hLS;refine Z3 O<|Rs O (aa call13 hbu2 O) ?_;iterate 6 refine A1 O ?_
  refine Z3 O<|RL.call O (eW call36 hbd O ?_);rintro _ ⟨B,hBl,hBo,rfl⟩;iterate 5 refine A1 O ?_
  refine Z1 O<|Rs O (aa call37 hsz O)<|A1 O ?_;have hbm:(B.map bT).length=NS.length:=by rw[OF];omega
  refine Gr O ?_;iterate 12 refine A1 O ?_
  refine Rg O (XJ.cast (v':= .pv (.bool S1)) (aC O O O) (ag (λb=>V.pv (.bool b)) (show(((NS.length:Nat):Int) !=((S.attrs.length:Nat):Int))=S1 by rw[hNl];exact bne_self_eq_false _))) ?_;iterate 6 refine A1 O ?_
  refine Rg O (XJ.cast (v':= .pv (.bool S1)) (aC O O O) (ag (λb=>V.pv (.bool b)) (show((((B.map bT).length:Nat):Int) !=((NS.length:Nat):Int))=S1 by rw[hbm];exact bne_self_eq_false _))) ?_;refine A1 O<|Gc O (λL=>absurd L Vh) (λL=>?_);refine Q3<|Z3 O<|Gl O (st:=λVn:Nat=>mkS [(5,.ptr 2 0),(9,.pv (a7 (B.map bT))),(11,.pv (aj NS)),(63,pIi NS.length),(64,pIi Vn)] [(2,.mix 32 [.pv (aj P)])] 4)
   (I:=λVn=>Vn<=NS.length) (μ:=λVn=>NS.length-Vn) (x0:=(0)) (Q5 (aS O) (aO Vg) O O) (cd _) ?_
  rintro i hi;refine Z1 O<|Gp O (λhc65=>?_) (λhc65=>?_)
  .have hlt:i<NS.length:=Vf;have Y:i<LS.length:=Vf;have Z:i<B.length:=Vf;have ab:i<(B.map bT).length:=Vf;have u:i<P.length:=Vf;obtain⟨g,hg⟩:∃g:Nat,g=LS[i].length:=⟨_,O⟩;have ac:(aE NS)[i*1]? =Sh (.int .i64 (g:Int)):=by simp[hNS,Y,hg]
   have ad:=aD hlt;obtain⟨c,hc⟩:∃c,c=B[i]:=⟨_,O⟩;have hbv:(bD (B.map bT))[i*1]? =Sh (.str (bT c)):=by simp[Z,hc]
   have hbn:=bA ab;have hpv:=aX u;have hpn:=aD u;have hgc:g<=c:=by rw[hg,hc,hLe i Y];exact hvw i u _ (hBo i Z).2
   have hc9:c<1000000000:=by rw[hc];exact(hBo i Z).1
   have J:=hrt i u;rw[<-hLe i Y,<-hg]at J;have hrg2:=hrg _ (au u);generalize P[i]=y at*;have hmk:FnP prog 39 [.int .i64 (g:Int)] (· = .str (eG (g:Int))):=BF (g:Int) Vf Vf;have hcp:=sL g c Vf hc9;have hcf:=CG hgc;refine Q3<|Z2 O ?_;by_cases hy:y<0
   .have hg1:=J Vf;refine RW 26 O ?_;iterate 2 refine D1 O ?_
    refine Ds [] O (λτ h=>ae i underlying22 sz3 (Ee h 0 O O) (Ee h 1 O O) O hlt ad) O Vg<|Ds [] O (λτ h=>aq ⟨_,underlying3,O⟩ (Ee h 0 O O) ac) O Vg<|Ds [] O (λτ h=>aa call39 hmk (h.aK O)) O Vg ?_;iterate 2 refine D1 O ?_
    refine Ds [] O (λτ h=>ae i underlying79 sz84 (Ee h 0 O O) (Ee h 1 O O) O ab hbn) O Vg<|Ds [] O (λτ h=>aq ⟨_,underlying84,O⟩ (Ee h 0 O O) hbv) O Vg<|Ds [] O (λτ h=>aa call38 hcp (h.aK O)) O Vg<|Ds [] O (λτ h=>XJ.cast (v':= .pv (.bool S1)) (aC (Ee h 0 O O) (Ee h 1 O O) O) (ag (λb=>V.pv (.bool b)) hcf)) O Vg ?_;iterate 4 refine D1 O ?_
    refine Dg [] O (λτ h=>ae i underlying22 sz3 (Ee h 0 O O) (Ee h 1 O O) O u hpn) O Vg<|Dg [] O (λτ h=>aq ⟨_,underlying3,O⟩ (Ee h 0 O O) hpv) O Vg<|Dg [] O (λτ h=>XJ.cast (v':= .pv (.bool Sm)) (aC (Ee h 0 O O) (Ee h 1 O O) O) (ag (λb=>V.pv (.bool b)) (Ru hy))) O Vg ?_;iterate 3 refine D1 O ?_
    refine Dg [] O (λτ h=>ae i underlying22 sz3 (Ee h 0 O O) (Ee h 1 O O) O hlt ad) O Vg<|Dg [] O (λτ h=>aq ⟨_,underlying3,O⟩ (Ee h 0 O O) ac) O Vg<|Dg [] O (λτ h=>XJ.cast (v':= .pv (.bool S1)) (aC (Ee h 0 O O) (Ee h 1 O O) O) (ag (λb=>V.pv (.bool b)) (Rv (show ¬ (g:Int)>1 by omega)))) O Vg ?_;iterate 2 refine D1 O ?_
    refine⟨Vg,?_⟩;refine Gc O (λj=>absurd j Vh) (λj=>?_);exact Q3<|Z2 O<|⟨(i+1),Q5 (aS O) (aO Vg) O O,hlt,Vf⟩
   .refine RW 26 O ?_;iterate 2 refine D1 O ?_
    refine Ds [] O (λτ h=>ae i underlying22 sz3 (Ee h 0 O O) (Ee h 1 O O) O hlt ad) O Vg<|Ds [] O (λτ h=>aq ⟨_,underlying3,O⟩ (Ee h 0 O O) ac) O Vg<|Ds [] O (λτ h=>aa call39 hmk (h.aK O)) O Vg ?_;iterate 2 refine D1 O ?_
    refine Ds [] O (λτ h=>ae i underlying79 sz84 (Ee h 0 O O) (Ee h 1 O O) O ab hbn) O Vg<|Ds [] O (λτ h=>aq ⟨_,underlying84,O⟩ (Ee h 0 O O) hbv) O Vg<|Ds [] O (λτ h=>aa call38 hcp (h.aK O)) O Vg<|Ds [] O (λτ h=>XJ.cast (v':= .pv (.bool S1)) (aC (Ee h 0 O O) (Ee h 1 O O) O) (ag (λb=>V.pv (.bool b)) hcf)) O Vg ?_;iterate 4 refine D1 O ?_
    refine Dg [] O (λτ h=>ae i underlying22 sz3 (Ee h 0 O O) (Ee h 1 O O) O u hpn) O Vg<|Dg [] O (λτ h=>aq ⟨_,underlying3,O⟩ (Ee h 0 O O) hpv) O Vg<|Dg [] O (λτ h=>XJ.cast (v':= .pv (.bool S1)) (aC (Ee h 0 O O) (Ee h 1 O O) O) (ag (λb=>V.pv (.bool b)) (Rv hy))) O Vg ?_;iterate 8 refine D1 O ?_
    refine⟨Vg,?_⟩;refine Gc O (λj=>absurd j Vh) (λj=>?_);exact Q3<|Z2 O<|⟨(i+1),Q5 (aS O) (aO Vg) O O,hlt,Vf⟩
  .exact Gx O<|Gr O<|Rs O (aa call9 af O)<|A1 O<|Gt O<|⟨_,_,O,O,O⟩
end
theorem j7{P:Program}{n:String}{cs:Array Value}(j:P.globalNamed n=Sh g)(h:W.var? P n=Sh cs):∃t fz,W.heap[g]? =Sh (.cells cs t fz):=by
 simp only[World.var?,j,Option.bind_some]at h;split at h
 .rename_i cs' t fz hb;cases h;exact⟨t,fz,hb⟩
 .cases h
theorem sG{o:Obj}(h:W.heap[g]? =Sh o):g<W.heap.size:=(Ro.1 h).1
theorem gv0:prog.globalNamed "internal/strconv.uint64pow10" =Sh 0:=Vg
theorem gv4:prog.globalNamed "strconv.ErrSyntax" =Sh 2:=Vg
theorem gv5:prog.globalNamed "strconv.ErrRange" =Sh 3:=Vg
theorem gt0:(prog.globals[0]?).map (·.type)=Sh 470:=Vg
theorem gt4:(prog.globals[2]?).map (·.type)=Sh 313:=Vg
theorem gt5:(prog.globals[3]?).map (·.type)=Sh 313:=Vg
theorem F9(h:W.ShapedOpen prog):∃(m:Int)(t:TypeId)(fz:Nat×Nat),W.heap[1]? =Sh (.cells #[.int .i64 m] t fz):=by
 obtain⟨cs,hh,hs,hr⟩:=h.1 1 #[.int .i64 0] 3 (Tm Vg) Vg;obtain⟨ts,hts,_,hall⟩:=hr Vg;rw[show prog.cellTypes prog.depth 3=Sh [3] by kernel_rfl]at hts;cases hts;have l:cs.size=1:=hs;obtain⟨u,hu',hok⟩:=hall 0 cs[0] (by simp[l]);obtain rfl:u=3:=by simpa using hu'.symm
 have j:∃m,cs[0]= .int .i64 m:=by
  unfold Cell.ok at hok;rw[underlying3]at hok;cases hv:cs[0]<;>rw[hv]at hok<;>simp at hok;rename_i k m;obtain rfl:=hok.1;exact⟨m,O⟩
 obtain⟨m,j⟩:=j;have:cs= #[.int .i64 m]:=by
  apply Array.ext
  .simp[l]
  .intro i h2 h3;have:i=0:=Vf;subst this;simpa using j
 rw[this]at hh;exact⟨m,_,_,hh⟩
def PU:List (String×DataW Unit):=Rows.viewsEmptyRow.laid
theorem OA(j:W.ShapedOpen prog)(h:laidMetH prog PU W):ow W (λb=>b<W.heap.size):=by
 rw[MakeChecks.laidMetH_plain _ _ _ Vg]at h;obtain⟨ps,⟨g0,t0,cs0,f0,p0,q0,hg0,ht0,hv0,hd0,⟨g1,t1,cs1,f1,p1,q1,hg1,ht1,hv1,hd1,⟨g2,t2,cs2,f2,p2,q2,hg2,ht2,hv2,hd2,⟨g4,t4,cs4,f4,p4,q4,hg4,ht4,hv4,hd4,⟨g5,t5,cs5,f5,p5,q5,hg5,ht5,hv5,hd5,_⟩,_⟩,_⟩,_⟩,_⟩,_,_⟩:=h;obtain rfl:=TF (gv0.symm.trans hg2);obtain rfl:=TF (gv5.symm.trans hg4);obtain rfl:=TF (gv4.symm.trans hg5);obtain rfl:=TF (gt0.symm.trans ht2);obtain rfl:=TF (gt5.symm.trans ht4);obtain rfl:=TF (gt4.symm.trans ht5);have l:cs2.toList=Lib.pow10Tab.map λz=>Value.int .u64 z:=Lib.cells_of_tab underlying470 underlying300 Vg Vg hd2
 obtain⟨_,u4,v4,e4,_⟩:=iface_of_trod underlying313 hd4;obtain⟨_,u5,v5,e5,_⟩:=iface_of_trod underlying313 hd5;obtain⟨x2,y2,b2⟩:=j7 gv0 hv2;obtain⟨x4,y4,b4⟩:=j7 gv5 hv4;obtain⟨x5,y5,b5⟩:=j7 gv4 hv5;obtain⟨m,x1,y1,b1⟩:=F9 j;obtain⟨l2⟩:=cs2;obtain⟨l4⟩:=cs4;obtain⟨l5⟩:=cs5;simp only at l e4 e5;subst l e4 e5;intro x hx;simp only[glb,AS,Sn,T7]at hx;rcases hx with rfl|rfl|rfl|rfl
 .exact⟨sG b2,_,b2,_,_,O⟩
 .exact⟨sG b1,_,b1,_,_,_,O⟩
 .exact⟨sG b5,_,b5,_,_,_,_,O⟩
 .exact⟨sG b4,_,b4,_,_,_,_,O⟩
noncomputable def witW(os:Os):World:=World.doorLaid prog 54 os
theorem Cz(os:Os)(args:Array Value):((witW os).forCall (λ_ _=>0) ⟨#[],args,[]⟩).Shaped prog:=World.shaped_of_RefB Vg Vg
theorem OQ(os:Os)(args:Array Value):laidMetH prog PU ((witW os).forCall (λ_ _=>0) ⟨#[],args,[]⟩).memory:=
 laidMetH_of_parts3 (fuel:=8) (laidMet_of_run' 8 Vg Vg) Vg Vg
section
open Go.RowKit Go.ChangeShapes Go.WideShapes Go.Deep
def OpT(P:Program)(t:TypeId){α:Type}(f:α->List PV)(I:α->Prop):Prop:=
 ∀(H:Type)(enc:TypeId×Value->H)(w:World)(base:Nat)(spare:Nat->Bool)(held:Bool)(fuel:Nat)(cs:List Value)(x:DataW H×List MemPlace),
  DataW.trod enc P w base spare held fuel t cs=Sh x->∃a,I a/\RelPL w (λb=>b<w.heap.size) (f a) cs
section
variable {P:Program}{t:TypeId}
theorem OpT.map{β:Type}{f:α->List PV}{I:α->Prop}{f':β->List PV}{I':β->Prop}(h:OpT P t f I)(g:α->β)(j:∀a,f' (g a)=f a)(l:∀a,I a->I' (g a)):OpT P t f' I':=
 λH enc w base spare held fuel cs x hx=>by
  obtain⟨a,ha,hr⟩:=h H enc w base spare held fuel cs x hx;exact⟨g a,l a ha,by rw[j];exact hr⟩
theorem RelPL.one{p:PV}{u:Value}(h:RelP w R p u):RelPL w R [p] [u]:=RelPL.cons h RelPL.nil
theorem OpT.int(j:P.underlying t=Sh (.int .i64)):OpT P t (λn:Int=>[.int .i64 n]) (λn=> -9223372036854775808<=n/\n<=9223372036854775807):=
 λH enc w base spare held fuel cs x hx=>by
  obtain⟨n,rfl,_,hw⟩:=DataW.trod_int j hx;exact⟨n,bounds_i64 hw,RelPL.one (by simp only[RelP])⟩
theorem BK{f:α->List PV}:∀{n:Nat}{A:Nat->α}{us:Nat->List Value},(∀i,i<n->RelPL w R (f (A i)) (us i))->RelPL w R (((List.range n).map A).flatMap f) ((List.range n).flatMap us):=by
 intro n A us h;induction n with
 |zero=>simpa using RelPL.nil
 | succ n ih=>
   rw[UJ,RG,Sc,Sc];refine RelPL.append (ih λi hi=>h i Vf) ?_;simpa using h n Vf
theorem sA{c:Nat}{us:Nat->List Value}:∀{n:Nat},(∀i,i<n->(us i).length=c)->((List.range n).flatMap us).length=n*c/\∀i j,i<n->j<c->((List.range n).flatMap us)[i*c+j]? =(us i)[j]? :=by
 intro n h;induction n with
 |zero=>exact⟨Vj,λi j hi=>absurd hi Vf⟩
 | succ n ih=>
   obtain⟨h1,h2⟩:=ih λi hi=>h i Vf
   rw[UJ,Sc];refine⟨by rw[IS,h1,List.flatMap_singleton,h n Vf,Vb],λi j hi hj=>?_⟩;by_cases e:i<n
   .rw[Uo (by rw[h1];calc i*c+j<i*c+c:=Vf
     _=(i+1)*c:=by rw[Vb]
     _<=n*c:=SV c e)]
    exact h2 i j e hj
   .obtain rfl:i=n:=Vf;rw[List.getElem?_append_right (by rw[h1];omega),h1,List.flatMap_singleton,show i*c+j-i*c=j by omega]
theorem OpT.sl{e:TypeId}{f:α->List PV}{I:α->Prop}(c:Nat)[Inhabited α](Y:P.underlying t=Sh (.slice e))(hc:P.cellsOf e=c)(h:OpT P e f I):
  OpT P t (λl:List α=>[.sl Sl l.length (l.flatMap f)]) (λl=>l.length<=maxLen/\∀a∈l,I a):=
 λH enc w base spare held fuel cs x hx=>by
  rcases open_slice Y hx with⟨rfl,rfl⟩|⟨a,len,cap,m,n,D,Pl,rfl,hb,hl,hm,hmm,hxe,hel⟩
  .refine⟨[],⟨Vj,Vj⟩,RelPL.one ?_⟩;simp only[RelP];exact⟨Sl,0,O,BY _,by simp[maxLen],(λ_ e=>by cases e),(λe=>by cases e),λe=>absurd rfl e⟩
  .have hlm:len<=m:=by rw[hmm];split<;>omega
   rw[hc]at hel;have L:∀i,i<len->∃p:α×List Value,I p.1/\RelPL w (λb=>b<w.heap.size) (f p.1) p.2/\p.2.length=c/\∀j,j<c->w.cell? (a.add (i*c+j))=p.2[j]? :=λi hi=>by
    obtain⟨cs',G,J⟩:=hel i Vf;obtain⟨y,hy,hr⟩:=h H enc w base spare held n cs' _ J;obtain⟨_,h3,h4⟩:=World.cells?_some G;exact⟨(y,cs'),hy,hr,h3,λj hj=>by rw[<-add_add];exact h4 j hj⟩
   obtain⟨F,hF⟩:=choose_lt L;have B:((List.range len).map λi=>(F i).1).length=len:=Vj;refine⟨(List.range len).map λi=>(F i).1,⟨by rw[B];omega,λy hy=>?_⟩,RelPL.one ?_⟩
   .obtain⟨i,hi,rfl⟩:=By.1 hy;exact(hF i (Si.1 hi)).1
   .rw[B];simp only[RelP];refine⟨Sh a,cap,O,hl,hm,(λ_ e=>by cases e),(λe=>by cases e),λX=>?_⟩;have q:=BK (w:=w) (R:=λb=>b<w.heap.size) (f:=f) (A:=λi=>(F i).1) (us:=λi=>(F i).2) λi hi=>(hF i hi).2.1
    obtain⟨hL,hat⟩:=sA (us:=λi=>(F i).2) (c:=c) (n:=len) λi hi=>(hF i hi).2.2.1
    generalize hU:(List.range len).flatMap (λi=>(F i).2)=U at q hL hat
    have u:0<len*c:=by
     rw[<-hL,RelPL.length q];exact SS.2 X
    have M:0<len:=Nat.pos_of_mul_pos_right u;have T:0<c:=Nat.pos_of_mul_pos_left u;have z:∀k,k<len*c->w.cell? (a.add k)=U[k]? :=λk hk=>by
     have e:k=k/c*c+k%c:=by rw[SX];exact(Nat.div_add_mod k c).symm
     have G:k/c<len:=Nat.div_lt_of_lt_mul (by rw[SX];exact hk);have J:k%c<c:=Ti _ T;rw[e,hat _ _ G J];exact(hF _ G).2.2.2 _ J
    have E:=z 0 u;rw[Hj Vf]at E;obtain⟨b,off,sp⟩:=a;have V:sp=Sl:=by
     cases sp with
     |none=>rfl
     | some s=>
       exfalso;have e:(⟨b,off,Sh s⟩:Addr).add 0=⟨b,off,Sh s⟩:=rfl;rw[e]at E;unfold World.cell? at E;split at E
       .simp at E
       .cases E
    subst V;rw[Addr.add_lit]at E;refine⟨b,off,U,O,q,World.block_lt_of_cell? w _ E,λj hj=>?_⟩;have:=z j Vf;rw[Addr.add_lit]at this;exact this
end
section
variable {H:Type}{enc:TypeId×Value->H}{P:Program}{w:World}{base:Nat}{spare:Nat->Bool}{held:Bool}{t:TypeId}{v:Value}{d:DataW H}{ps:List MemPlace}{r:Go.Reach}{b0:Nat}
theorem OpT.one{p:α->PV}{I:α->Prop}(j:OpT P t (λa=>[p a]) I)(l:v.cells= #[v])(h:DataW.Trod enc P w base spare held t v d ps):∃a,I a/\RelP w (λb=>b<w.heap.size) (p a) v:=by
 obtain⟨fuel,hf⟩:=h;obtain⟨a,ha,hr⟩:=j _ _ _ _ _ _ _ _ _ hf;refine⟨a,ha,?_⟩;rw[l]at hr;simp only[RelPL]at hr;obtain⟨u,vs,e,h1,_⟩:=hr;simp at e;rw[e.1];exact h1
end
#print axioms OpT.sl
end
theorem QE:OpT prog 3 (λn:Int=>[.int .i64 n]) (λn=> -9223372036854775808<=n/\n<=9223372036854775807):=OpT.int underlying3
theorem ON:OpT prog 22 (λl:List Int=>[aj l]) (λl=>l.length<=9223372036854775807):=
 (OpT.sl 1 underlying22 Vg QE).map id (λl=>by
  show [PV.sl Sl l.length (aE l)]=[PV.sl Sl l.length (l.flatMap λn=>[PV.int .i64 n])]
  congr 2
  induction l with
  |nil=>rfl
  |cons x l ih=>simp[<-ih]) (λl h=>h.1)
end Go.Proofs.YtoplpepiabedhaaGreatDoor
