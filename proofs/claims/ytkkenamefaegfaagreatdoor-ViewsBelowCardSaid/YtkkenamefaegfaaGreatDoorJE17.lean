/- Lemmas. No condition. -/
import Derived.Handed
import Derived.LaidMore
import Derived.LaidLaws
import Derived.LaidHandle
import Derived.MakeChecks
import Derived.Lib.LaidTab
import Derived.Deep.Slices
import Derived.ChangeArms
import Derived.OpenShut
import Derived.Test.YtkkenamefaegfaaGreatDoorJE16
set_option maxRecDepth 100000
set_option maxHeartbeats 4000000
open Go.RowKit Go.Proofs.Tryz
open Option renaming some→UF,none→UG
open Bool renaming true→VA,false→VC
namespace Go.Proofs.YtkkenamefaegfaaGreatDoor
variable{W w:World}{g:Nat}{α:Type}{R:Nat->Prop}
section
open Go.RowKit Mk Jn Mm Vw
theorem EM:∀x∈Vw.allV,(0:UInt8)∉x.data.toList:=by decide+kernel
structure BelW(S:Sch)(P:List Int)(l:List Rw)(LS:List (List En)):Prop where
 len:LS.length=S.attrs.length
 pl:P.length=S.attrs.length
 row:∀x∈l,Sj S x/\0<=x.w
 el:∀a (h:a<LS.length),LS[a].length<=216
 ent:∀a (h:a<LS.length),∀e∈LS[a],GS S e.g/\(accG (lfM S) (bA P a) (cK S P a) e.v l).m=e.g.m/\e.v.length<=1000
theorem RQ{S:Sch}{P:List Int}{l:List Rw}{o:Nat}(T:Made S 5 o)(J:S.rels.length=1)(D:lj S 0=upZ S.attrs.length)(E:OrdOk S P)(u:Vw.WD S [l])(z:VB S P [l] (QM S) (XM S) (lfM S)):
  BelW S P l ((List.range P.length).map λa:Nat=>jn (vwS S P [l] (lfM S) a)):=by
 have j:=E.len;have A:One S P:=⟨E,J,by rw[j];exact D⟩;have G:∀a,∀t∈XM S a,(0:UInt8)∉t.data.toList:=λa t ht=>EM t (wT ht)
 refine⟨by rw[TB,List.length_range];exact j,j,λx hx=>?_,λa ha=>?_,λa ha e he=>?_⟩
 .have hvx:=z.tb 0 x hx;rw[D]at hvx;have q:=hvx.len;rw[a7]at q;have I:=u.w l Xn x hx;refine⟨⟨q,λa h=>?_,?_⟩,I⟩
  .have:=hvx.x a h (by rw[a7,<-q];exact h);simpa[upZ]using this
  have h1:=u.s l Xn;have L:=mM (u.w l Xn);have M:x.w.toNat<=(l.map λx=>x.w.toNat).sum:=Hh (TG.2 ⟨x,hx,O⟩);omega
 .simp only[UP,WJ];rw[(fi _).length_eq];exact z.len (by simpa using ha)
 have hap:a<P.length:=by simpa using ha
 simp only[UP,WJ]at he;have B:e∈vwS S P [l] (lfM S) a:=(fi _).mem_iff.1 he;obtain⟨g1,g2,g3⟩:=z.ev hap B;refine⟨⟨g1.ok,g2,Xj⟩,?_,?_⟩
 .rw[SG];exact HJ A z.lfx z.tb G hap B
 have:=g1.v.len;have:=rC S P a;have:=z.p5;omega
theorem qD(t:List Int):FnP prog 3 [ar t] (· = .bool VA):=by
 refine FnP.of func3 O ntmps3 Xn λ_ _ _ _=>?_
 have aQ:=SE;refine Z1 O<|Z3 O<|Gp O (λhc25=>?_) (λhc25=>?_)
 .exact Gr O<|Rs O (aa call4 aQ O)<|A1 O<|VF O O
 have hL:t.length<=400:=Xj;refine Ti<|Z1 O<|RL.call O (Fz [] 0 call5 (LC t Xj) O O O O trivial Xl O ?_);rintro _ _ ⟨rfl,rfl⟩;refine A1 O<|Z1 O<|RL.call O (ma call6 (yJ t 0 4 Xj Xj Xj Xj) O O ?_);rintro _ _ ⟨⟨S0,hM0,rfl⟩,k1,hk1,rfl⟩;have ha0:=hM0.a2;have hr0:=hM0.r2;have a8:=hM0.a1;refine Y2 O<|AW.cut (st:=λV:List (ByteArray×List Int)=>mkS [(3,.ptr 0 0),(4,.ptr 1 0)] [(0,yy t k1),(1,.mix 30 [.pv (.sl UG S0.attrs.length (aU S0.attrs)),.pv (.sl UG V.length (aY V)),.pv (.sl UG S0.feats.length (aX S0.feats)),pIi S0.label])] 2)
  (I:=λV=>OneM S0 V) ?_ ?_
 .refine Z4 O ?_;refine Gz O (st:=λXr:Nat=>([(3,UG),(4,UG),(33,UG),(34,UF (pIi Xr))],[(0,UG),(1,UG)])) 2
   (I:=λXr=>Xr<=S0.rels.length) (μ:=λXr=>S0.rels.length-Xr) (x0:=0) (Tk (aS O) (aO Xk) O O) (aJ _) ?_
  rintro i hi;refine Z1 O<|Gp O (λhc35=>?_) (λhc35=>?_)
  .have hlt:i<S0.rels.length:=Xj;have X:=fb hlt;have U:=iD hlt;have hat:(aY S0.rels)[i*2+1]? =UF (ar S0.rels[i].2):=ib _ 2 (λ_=>rfl) S0.rels i 1 hlt Xl;refine Ti<|Z2 O<|UB 11 O<|Dr 3 O<|TR O (λτ h=>ag i underlying27 HM (Ee h 0 O O) (Ee h 1 O O) O hlt U)<|D1 O<|TR O (λτ h=>az ⟨_,underlying22,O⟩ (Ee h 0 O O) hat)<|Dr 5 O ?_;refine⟨Xk,?_⟩;refine Gc O (λaF=>?_) (λaF=>?_)
   .have hfull:S0.rels[i].2.length=S0.attrs.length:=by have:(((S0.rels[i].2.length:Nat):Int)==((S0.attrs.length:Nat):Int))=VA:=aF;simp at this;omega
    exact Z3 O<|Rs O (ag i underlying27 HM O O O hlt U)<|Rs O (aG ⟨_,underlying33,O⟩ HM O X O)<|Rs O (XJ.cast (v':= .pv (.sl UG 1 (aY [S0.rels[i]]))) (au UG Xn el27 O Xl Xl O O) O)<|Y2 O<|Gx O<|⟨([S0.rels[i]]),Tk (aS O) (aO Xk) O O,Jp hM0 hlt (.inl hfull)⟩
   exact Ti<|Z2 O<|⟨(i+1),Tk (aS O) (aO Xk) O O,hlt,Xj⟩
  exact Gx O<|⟨(S0.rels),Tk (aS O) (aO Xk) O O,Qu hM0⟩
 rintro RL0 hone;refine Z4 O<|Gp O (λaK=>?_) (λaK=>?_)
 .exact Gr O<|Rs O (aa call4 aQ O)<|A1 O<|VF O O
 have hR1:RL0.length<=1:=by simp at aK;omega
 obtain⟨⟨o,hM⟩,hr,hA⟩:=hone.2 hR1;obtain⟨S,hSS⟩:∃S,S=oneR S0 RL0:=⟨_,O⟩;rw[<-hSS]at hM hA;have e1:S.attrs=S0.attrs:=by rw[hSS]
 have e2:S.rels=RL0:=by rw[hSS]
 have e3:S.feats=S0.feats:=by rw[hSS]
 have e4:S.label=S0.label:=by rw[hSS]
 rw[<-e1]at ha0 a8 hA;rw[<-e2]at hr;rw[<-e1,<-e2,<-e3,<-e4];clear hSS e1 e2 e3 e4;have h0:=kg hM Xj;have hV:=mW h0;have aR:=uP hM Xj;have a9:=uC hM;refine Ti<|Ge O follows [0,1,3,4,6,2,5,7,8] Xk<|Dr 5 O<|DL.rel (RM 75 0 (λv c=>(∃q P:List Int,IsChain S.attrs.length q P/\v=pY P)/\∃k',k'<=t.length/\c=jq t k')) [0] [] [0] O O O (λτ h=>relM call7 (xF t k1 Xj hk1 S a8 Xj) (h.args.trans O) (Eo h 0 O O)) O Xk Xk Xk ?_;rintro _ ⟨_,_,⟨⟨q,P,hch,rfl⟩,k2,hk2,rfl⟩,rfl⟩ _ _;refine DL.rel (RM 75 0 (λv c=>(∃d,MdD S 5 S.rels.length d/\v=dbP d)/\∃k',k'<=t.length/\c=jq t k')) [0] [] [0] O O O (λτ h=>relM call8 (uo t k2 Xj hk2 S 5 Xl Xj (λr hr=>⟨a9.l r hr,a9.b r hr⟩)) (h.args.trans O) (Eo h 0 O O)) O Xk Xk Xk ?_;rintro _ ⟨_,_,⟨⟨d,hd,rfl⟩,k3,hk3,rfl⟩,rfl⟩ _ _;refine Dr 2 O ?_;refine⟨Xk,?_⟩;have hO:OrdOk S P:=hch.ok hV;have hlen:=hO.len;have Y:=OO hM hd;have aT:=Y.n;obtain⟨l,hl⟩:∃l,d=[l]:=by
  have:d.length=1:=Xj;match d,this with
  |[l],_=>exact⟨l,O⟩
 have hlv:fG S d=[l]:=by
  rw[hl]at aT ⊢;have hr':0<S.rels.length:=Xj;have e0:S.rels[0].2=upZ S.attrs.length:=by rw[<-hA];simp[lj,List.getD,hr']
  have h1:=L0 hr hA (cq _) l;rw[<-e0]at h1;apply UL
  .simp[fG,hr]
  .intro i h2 h3;obtain rfl:i=0:=by simp at h3;exact h3
   simp only[fG,UP,WJ,List.getElem_zipWith,List.getElem_cons_zero];exact h1
 have Z:Vw.WD S (fG S d):=by
  have:=Q5 Xl hd d.length;rwa [List.set_eq_of_length_le (AT _)]at this
 have an:=QQ hM hO Z;have aW:∀l∈d,l.length<=60:=λl hl=>by have:=Y.l l hl;omega
 have hxl:∀r (h:r<d.length) (h2:r<S.rels.length),∀x∈d[r],x.v.length=S.rels[r].2.length:=λr h h2 x hx=>((Y.t r h h2).row x hx).l
 have hck:=B7 S aR Y.hS h0 _ aT aW Y.t;have J:=tj d an aT aW hxl h0 hck;rw[hlv]at Z an J;have L:=RQ hM hr hA hO Z an;have hll:l.length<=5:=Z.l l Xn;obtain⟨LS,hLS⟩:∃LS:List (List En),LS=(List.range P.length).map λa:Nat=>jn (vwS S P [l] (lfM S) a):=⟨_,O⟩
 rw[<-hLS]at J L;have hLl:=L.len;generalize cn (totV S P [l] (lfM S)).m=z at J;unfold vwsP at J;rw[hLl]at J;have hbu2:FnP prog 9 [gC S,pY P,dbP d] (· = .tup [.agg [.sl UG S.attrs.length (lstsC LS),.str (bo z.c),.sl UG z.s.length (bG (tmL z.s)),.sl UG z.p.length (bK (prL z.p))],.int .i64 0]):=J;have hQ:(QM S).length<=1000:=by rw[NC];have:=dS hM.fs;omega
 have hP0:=jY.2 ⟨h0,hO⟩;have hkk:=λa:Nat=>Fg S aR P Xj (a:Int)
 have hbl:=λa:Nat=>qb S aR P Xj (a:Int)
 have hisB:∀i:Nat,i<S.attrs.length->isB S P i=VA:=λi hi=>by unfold isB;rw[hP0];simp;omega
 have hkl:=λa:Nat=>rC S P (a:Int)
 have hkr:∀a:Nat,a<P.length->∀b∈cK S P a,0<=b/\b<(S.attrs.length:Int):=λa ha b hb=>by
  obtain⟨c,hc,e⟩:=jU hO.jL ha (Ur _ (uM.1 hb).1);omega
 have hbr:∀a:Nat,∀b∈bA P a,∃c:Nat,c<S.attrs.length/\b=(c:Int):=λa b hb=>by
  obtain⟨⟨c,hc,e⟩,_⟩:=iF.1 hb;exact⟨c,Xj,e⟩
 have hbn:∀a:Nat,(bA P a).length<=5:=λa=>by
  have:=UZ (λb=>b==(a:Int)||hiB P (a:Int) b) ((List.range P.length).map Int.ofNat);rw[TB,List.length_range]at this;show(List.filter _ _).length<=_;omega
 have aZ:(jI d)[0*1]? =UF (oi l):=by rw[hl];rfl
 have ax:0<d.length:=Xj;have hdne:=uR ax;have hMl:=fun(v:Nat)(hv:v<S.attrs.length)(y:ByteArray)(hy:y∈XM S v)=>Jw hM hQ hv hy
 have ab:=fun(x:Rw)(hx:Sj S x)=>CZ hM hx
 have ay:=fun(B K:List Int)(u:List ByteArray)(hB:∀b∈B,∃a:Nat,a<S.attrs.length/\b=(a:Int))=>Py (K:=K) (u:=u) hM hB
 have hLok:=fun(v:Nat)(y:ByteArray)(hy:y∈XM S v)=>lfG hM hy
 have hz10:=Pb;clear J an Z hLS hck hxl aW hlv hch hd;refine Z3 O<|Rs O (aa call9 hbu2 O)<|Ar 6 O<|Gr O<|Ar 9 O<|Rg O (fI O O O (bne_self_eq_false _))<|A1 O<|Gc O (λaP=>absurd aP Xl) (λaP=>?_);refine Ti<|Z4 O<|Gz O (st:=λak:Nat=>([(4,UG),(6,UG),(7,UG),(8,UG),(87,UG),(88,UF (pIi ak))],[(1,UG),(2,UG),(3,UG)])) 4
  (I:=λak=>ak<=S.attrs.length) (μ:=λak=>S.attrs.length-ak) (x0:=0) (Tk (aS O) (aO Xk) O O) (aJ _) ?_
 rintro a ha;refine Z1 O<|Gp O (λhc89=>?_) (λhc89=>?_)
 .have hal:a<S.attrs.length:=Xj;have ao:a<LS.length:=Xj;have aA:=hkk a;have hb1:=hbl a;rw[By (hisB a hal)]at aA hb1;have hla:=tF ao;have hln:=uF ao;have hent:=L.ent a ao;have hel:=L.el a ao;have hkla:=hkl a;have hkra:=hkr a Xj;have G:=hbr a;have hbna:=hbn a;generalize LS[a]=E at*;generalize bA P (a:Int)=B at*;generalize cK S P (a:Int)=K at*;refine Ti<|Z2 O<|UB 10 O<|Dr 3 O<|TR O (λτ h=>aa call10 aA (h.aD O))<|Dr 3 O<|TR O (λτ h=>aa call11 hb1 (h.aD O))<|Dr 2 O ?_;refine⟨Xk,?_⟩;refine Tj (St.kV [12])<|Z3 O<|Rs O (ag a underlying40 sz52 O O O hal hln)<|Rs O (az ⟨_,underlying52,O⟩ O hla)<|Y2 O<|Gz O (st:=λal:Nat=>([(4,UG),(6,UG),(7,UG),(8,UG),(11,UG),(12,UG),(87,UG),(88,UG),(103,UG),(104,UG),(105,UF (pIi al))],[(1,UG),(2,UG),(3,UG)])) 4
   (I:=λal=>al<=E.length) (μ:=λal=>E.length-al) (x0:=0) (Tk (aS O) (aO Xk) O O) (aJ _) ?_
  rintro i hi;refine Z1 O<|Gp O (λa3=>?_) (λa3=>?_)
  .have hiE:i<E.length:=Xj;have aB:=mf hiE;have hne:=vw hiE;obtain⟨he1,he2,he3⟩:=hent _ (aq hiE);generalize E[i]=e at*;have hsm:=Ip (cn e.g.m) (he1.mf1 hQ).ls (he1.mf1 hQ).lp;have hre:((entsC E).drop (i*4)).take 4=[bh e.v,.str (bo (cn e.g.m).c),.sl UG (cn e.g.m).s.length (bG (tmL (cn e.g.m).s)),.sl UG (cn e.g.m).p.length (bK (prL (cn e.g.m).p))]:=aB;clear aB;refine Ti<|Gr O<|Rs O (ag i underlying52 Ou O O O hiE hne)<|Rs O (aG ⟨_,underlying55,O⟩ Ou O hre O)<|Y2 O<|Gr O<|Rs O (aa call12 hz10 O)<|Y2 O<|Z1 O<|Rs O (ag 0 underlying38 sz57 O O O ax hdne)<|Rs O (az ⟨_,underlying57,O⟩ O aZ)<|Y2 O<|Gz O (st:=λD:Nat×Gv=>([(4,UG),(6,UG),(7,UG),(8,UG),(11,UG),(12,UG),(14,UG),(15,UG),(87,UG),(88,UG),(103,UG),(104,UG),(105,UG),(112,UG),(113,UG),(114,UF (pIi D.1))],[(1,UG),(2,UG),(3,UG),(4,UG),(5,UF (.mix 45 [.pv (.str (bo (cn D.2.m).c)),.pv (.sl UG (cn D.2.m).s.length (bG (tmL (cn D.2.m).s))),.pv (.sl UG (cn D.2.m).p.length (bK (prL (cn D.2.m).p)))]))])) 6
    (I:=λD=>D.1<=l.length/\D.2=accG (lfM S) B K e.v (l.take D.1)) (μ:=λD=>l.length-D.1) (x0:=(0,gz)) (Tk (aS O) (aO Xk) O O) (⟨aJ _,O⟩) ?_
   rintro⟨j,c⟩ ⟨hj,hc⟩;try simp only at hj hc ⊢
   refine Z1 O<|Gp O (λa4=>?_) (λa4=>?_)
   .have hjl:j<l.length:=Xj;have X:=fo hjl;have U:=gR hjl;obtain⟨hrx,hrw⟩:=L.row _ (aq hjl);have M:=JQ (lf:=lfM S) B K e.v (l.take j) l[j];rw[<-AI hjl,<-hc]at M;have ac:=ay B K e.v G (l.take j) λx hx=>(L.row x (Vp hx)).1
    have ad:=ay B K e.v G (l.take (j+1)) λx hx=>(L.row x (Vp hx)).1
    rw[<-hc]at ac;have hlt1:(l.take j).length<=5:=by rw[TC];omega
    have hlt2:(l.take (j+1)).length<=5:=by rw[TC];omega
    have hcg:GS S c:=⟨ac.1,Xj,Xj⟩;have aC:GS S (accG (lfM S) B K e.v (l.take (j+1))):=⟨ad.1,Xj,Xj⟩;clear ac ad;generalize l[j]=x at*;have hpk:=EB x.v K (λb hb=>by have:=hkra b hb;have:=hrx.1;omega) Xj;have hts:=sT (K.map λb=>x.v.getD b.toNat ⟨#[]⟩) e.v (by rw[TB];omega) Xj;rw[show decide ((K.map λb=>x.v.getD b.toNat ⟨#[]⟩)=e.v)=decide (fk K x=e.v)from O]at hts;refine Ti<|Gr O<|Rs O (ag j underlying57 Kl O O O hjl U)<|Rs O (aG ⟨_,underlying59,O⟩ Kl O X O)<|Y2 O<|UB 8 O<|Dr 3 O<|TR O (λτ h=>aa call14 hpk (h.aD O))<|Dr 2 O<|TR O (λτ h=>aa call13 hts (h.aD O))<|D1 O ?_;refine⟨Xk,?_⟩;refine Gc O (λT=>?_) (λT=>?_)
    .have hpe:¬fk K x=e.v:=by have:(!decide (fk K x=e.v))=VA:=T;simpa using this
     rw[sh hpe]at M;exact Gx O<|Z2 O<|⟨(j+1,c),Tk (aS O) (aO Xk) O O,⟨hjl,M.symm⟩,Xp⟩
    have hpe:fk K x=e.v:=by have:(!decide (fk K x=e.v))=VC:=T;simpa using this
    rw[By hpe]at M;obtain⟨w,hw⟩:=Bg hrw;have hwn:x.w.toNat=w:=Xj;have hwh:FnP prog 15 [.int .i64 x.w] (· = .str (bo ((w:Int):Rat))):=by rw[hw];exact Po w (by have:=hrx.2.2;omega)
    have hcw:cn (Gv.whole w).m=⟨((w:Int):Rat),[],[]⟩:=sY w;refine Ti<|Z2 O<|Rs O (aa call15 hwh O)<|Y3 O<|Z3 O<|Gz O (st:=λA:Nat×Gv×Option Bool=>([(4,UG),(6,UG),(7,UG),(8,UG),(11,UG),(12,UG),(14,UG),(15,UG),(17,UG),(18,UG),(87,UG),(88,UG),(103,UG),(104,UG),(105,UG),(112,UG),(113,UG),(114,UG),(130,UG),(131,UG),(132,UF (pIi A.1))],[(1,UG),(2,UG),(3,UG),(4,UG),(5,UG),(6,UG),(7,UF (.mix 45 [.pv (.str (bo (cn A.2.1.m).c)),.pv (.sl A.2.2 (cn A.2.1.m).s.length (bG (tmL (cn A.2.1.m).s))),.pv (.sl A.2.2 (cn A.2.1.m).p.length (bK (prL (cn A.2.1.m).p)))]))])) 8
     (I:=λA=>A.1<=B.length/\A.2.1=termG (lfM S) (B.take A.1) x) (μ:=λA=>B.length-A.1) (x0:=(0,Gv.whole w,UF VA)) (Tk (aS O) ⟨Xk,Xk,Xk,Xk,Xk,Xk,TX (b:=UF (.mix 45 [.pv (.str (bo ((w:Int):Rat))),.pv nS,.pv nS])) Xk (by rw[hcw];rfl),Xq⟩ O O) (⟨aJ _,by rw[<-hwn];rfl⟩) ?_
    rintro⟨b,g,f⟩ ⟨hb,hg⟩;try simp only at hb hg ⊢
    refine Z1 O<|Gp O (λa5=>?_) (λa5=>?_)
    .have hbl2:b<B.length:=Xj;have hbv:=a6 hbl2;have hbne:=aM hbl2;obtain⟨v,hv,hbe⟩:=G _ (aq hbl2);have af:v<x.v.length:=by rw[hrx.1];exact hv
     have hsv:=bL af;have hsne:=bN af;have hyx:=hrx.2.1 v af;have ah:=Es (lf:=lfM S) (B.take b) B[b] x;rw[<-AI hbl2,<-hg,hbe,show x.v.getD (v:Int).toNat ⟨#[]⟩=x.v[v] by simp[List.getD,af]]at ah;obtain⟨q1,q2,q3⟩:=ab x hrx (B.take b) λc hc=>G c (Vp hc)
     obtain⟨p1,p2,p3⟩:=ab x hrx (B.take (b+1)) λc hc=>G c (Vp hc)
     have hbt1:(B.take b).length<=5:=by rw[TC];omega
     have hbt2:(B.take (b+1)).length<=5:=by rw[TC];omega
     have hw25:=hrx.2.2;have ap:GS S g:=by rw[hg];exact⟨q1,Xj,Xj⟩
     have a0:GS S (termG (lfM S) (B.take (b+1)) x):=⟨p1,Xj,Xj⟩;have hlf:=hMl v hv _ hyx;have gs3:=hLok v _ hyx;rw[ah]at a0;have hmu:=Nh hQ ap gs3 a0;rw[hbe]at hbv;clear q1 q2 q3 p1 p2 p3 ap a0;generalize lfM S v x.v[v]=h at*;generalize x.v[v]=y at*;refine Ti<|Gr O<|Rs O (ag b underlying22 sz3 O O O hbl2 hbne)<|Rs O (az ⟨_,underlying3,O⟩ O hbv)<|A1 O<|UB 14 O<|Dr 5 O<|TR O (λτ h=>ag v underlying53 sz9 (Ee h 0 O O) (Ee h 1 O O) O af hsne)<|TR O (λτ h=>az ⟨_,underlying9,O⟩ (Ee h 0 O O) hsv)<|TR O (λτ h=>aa call16 hlf (h.aD O))<|Dr 6 O ?_;refine⟨Xk,?_⟩;exact Z2 O<|Rs O (aa call17 hmu O)<|Ar 4 O<|Z2 O<|⟨(b+1,g.mul h,UG),Tk (aS O) (aO Xk) O O,⟨hbl2,ah.symm⟩,Xp⟩
    obtain⟨q1,q2,q3⟩:=ab x hrx B G;have hgB:g=termG (lfM S) B x:=by rw[hg,aH Xj]
    have hw25:=hrx.2.2;have ap:GS S g:=by rw[hgB];exact⟨q1,Xj,Xj⟩
    rw[<-hgB]at M;rw[M]at aC;have had:=KA hQ hcg ap aC;exact Gx O<|Z2 O<|Rs O (aa call18 had O)<|Ar 4 O<|Z2 O<|⟨(j+1,c.add g),Tk (aS O) (aO Xk) O O,⟨hjl,M.symm⟩,Xp⟩
   have hcm:c.m=e.g.m:=by rw[hc,aH Xj];exact he2
   rw[hcm];refine Gx O<|Z3 O<|Rs O (aa call19 hsm O)<|A1 O<|Gc O (λam=>absurd am Xl) (λam=>?_);exact Ti<|Z2 O<|⟨(i+1),Tk (aS O) (aO Xk) O O,hiE,Xj⟩
  exact Gx O<|Z2 O<|⟨(a+1),Tk (aS O) (aO Xk) O O,hal,Xj⟩
 exact Gx O<|Gr O<|Rs O (aa call4 aQ O)<|A1 O<|VF O O
end
theorem kZ{P:Program}{n:String}{cs:Array Value}(j:P.globalNamed n=UF g)(h:W.var? P n=UF cs):∃t fz,W.heap[g]? =UF (.cells cs t fz):=by
 simp only[World.var?,j,Option.bind_some]at h;split at h
 .grind
 cases h
theorem ux{o:Obj}(h:W.heap[g]? =UF o):g<W.heap.size:=(TH.1 h).1
theorem gv0:prog.globalNamed "internal/strconv.uint64pow10" =UF 1:=Xk
theorem gv4:prog.globalNamed "strconv.ErrSyntax" =UF 2:=Xk
theorem gv5:prog.globalNamed "strconv.ErrRange" =UF 3:=Xk
theorem gt0:(prog.globals[1]?).map (·.type)=UF 397:=Xk
theorem gt4:(prog.globals[2]?).map (·.type)=UF 301:=Xk
theorem gt5:(prog.globals[3]?).map (·.type)=UF 301:=Xk
theorem G7(h:W.ShapedOpen prog):∃(m:Int)(t:TypeId)(fz:Nat×Nat),W.heap[0]? =UF (.cells #[.int .i64 m] t fz):=by
 obtain⟨cs,hh,hs,hr⟩:=h.1 0 #[.int .i64 0] 3 (Vi Xk) Xk;obtain⟨ts,hts,_,hall⟩:=hr Xk;rw[show prog.cellTypes prog.depth 3=UF [3] by kernel_rfl]at hts;cases hts;have q:cs.size=1:=hs;obtain⟨u,hu',hok⟩:=hall 0 cs[0] (by simp[q]);obtain rfl:u=3:=by simpa using hu'.symm
 have j:∃m,cs[0]= .int .i64 m:=by
  unfold Cell.ok at hok;rw[underlying3]at hok;cases hv:cs[0]<;>rw[hv]at hok<;>simp at hok;rename_i k m;obtain rfl:=hok.1;exact⟨m,O⟩
 obtain⟨m,j⟩:=j;have:cs= #[.int .i64 m]:=by grind
 rw[this]at hh;exact⟨m,_,_,hh⟩
def S9:List (String×DataW Unit):=Rows.viewsBelowRow.laid
theorem Pe(j:W.ShapedOpen prog)(h:laidMetH prog S9 W):re W (λb=>b<W.heap.size):=by
 rw[MakeChecks.laidMetH_plain _ _ _ Xk]at h;obtain⟨ps,⟨g0,t0,cs0,f0,p0,q0,hg0,ht0,hv0,hd0,⟨g1,t1,cs1,f1,p1,q1,hg1,ht1,hv1,hd1,⟨g2,t2,cs2,f2,p2,q2,hg2,ht2,hv2,hd2,⟨g4,t4,cs4,f4,p4,q4,hg4,ht4,hv4,hd4,⟨g5,t5,cs5,f5,p5,q5,hg5,ht5,hv5,hd5,_⟩,_⟩,_⟩,_⟩,_⟩,_,_⟩:=h;obtain rfl:=VJ (gv0.symm.trans hg2);obtain rfl:=VJ (gv5.symm.trans hg4);obtain rfl:=VJ (gv4.symm.trans hg5);obtain rfl:=VJ (gt0.symm.trans ht2);obtain rfl:=VJ (gt5.symm.trans ht4);obtain rfl:=VJ (gt4.symm.trans ht5);have q:cs2.toList=Lib.pow10Tab.map λz=>Value.int .u64 z:=Lib.cells_of_tab underlying397 underlying261 Xk Xk hd2
 obtain⟨_,u4,v4,e4,_⟩:=iface_of_trod underlying301 hd4;obtain⟨_,u5,v5,e5,_⟩:=iface_of_trod underlying301 hd5;obtain⟨x2,y2,b2⟩:=kZ gv0 hv2;obtain⟨x4,y4,b4⟩:=kZ gv5 hv4;obtain⟨x5,y5,b5⟩:=kZ gv4 hv5;obtain⟨m,x1,y1,b1⟩:=G7 j;obtain⟨l2⟩:=cs2;obtain⟨l4⟩:=cs4;obtain⟨l5⟩:=cs5;simp only at q e4 e5;subst q e4 e5;intro x hx;simp only[glb,BY,UI,V9]at hx;rcases hx with rfl|rfl|rfl|rfl
 .exact⟨ux b2,_,b2,_,_,O⟩
 .exact⟨ux b1,_,b1,_,_,_,O⟩
 .exact⟨ux b5,_,b5,_,_,_,_,O⟩
 exact⟨ux b4,_,b4,_,_,_,_,O⟩
noncomputable def witW(os:Os):World:=World.doorLaid prog 54 os
theorem DZ(os:Os)(args:Array Value):((witW os).forCall (λ_ _=>0) ⟨#[],args,[]⟩).Shaped prog:=World.shaped_of_RefB Xk Xk
theorem O6(os:Os)(args:Array Value):laidMetH prog S9 ((witW os).forCall (λ_ _=>0) ⟨#[],args,[]⟩).memory:=
 laidMetH_of_parts3 (fuel:=8) (laidMet_of_run' 8 Xk Xk) Xk Xk
section
open Go.RowKit Go.ChangeShapes Go.WideShapes Go.Deep
def OpT(P:Program)(t:TypeId){α:Type}(f:α->List PV)(I:α->Prop):Prop:=
 ∀(H:Type)(enc:TypeId×Value->H)(w:World)(base:Nat)(spare:Nat->Bool)(held:Bool)(fuel:Nat)(cs:List Value)(x:DataW H×List MemPlace),
  DataW.trod enc P w base spare held fuel t cs=UF x->∃a,I a/\RelPL w (λb=>b<w.heap.size) (f a) cs
section
variable {P:Program}{t:TypeId}
theorem OpT.map{β:Type}{f:α->List PV}{I:α->Prop}{f':β->List PV}{I':β->Prop}(h:OpT P t f I)(g:α->β)(j:∀a,f' (g a)=f a)(q:∀a,I a->I' (g a)):OpT P t f' I':=
 λH enc w base spare held fuel cs x hx=>by
  obtain⟨a,ha,hr⟩:=h H enc w base spare held fuel cs x hx;exact⟨g a,q a ha,by rw[j];exact hr⟩
theorem RelPL.one{p:PV}{u:Value}(h:RelP w R p u):RelPL w R [p] [u]:=RelPL.cons h RelPL.nil
theorem OpT.int(j:P.underlying t=UF (.int .i64)):OpT P t (λn:Int=>[.int .i64 n]) (λn=> -9223372036854775808<=n/\n<=9223372036854775807):=
 λH enc w base spare held fuel cs x hx=>by
  obtain⟨n,rfl,_,hw⟩:=DataW.trod_int j hx;exact⟨n,bounds_i64 hw,RelPL.one (by simp only[RelP])⟩
theorem Dl{f:α->List PV}:∀{n:Nat}{A:Nat->α}{us:Nat->List Value},(∀i,i<n->RelPL w R (f (A i)) (us i))->RelPL w R (((List.range n).map A).flatMap f) ((List.range n).flatMap us):=by
 intro n A us h;induction n with
 |zero=>simpa using RelPL.nil
 | succ n ih=>
   rw[Wo,Uc,Us,Us];refine RelPL.append (ih λi hi=>h i Xj) ?_;simpa using h n Xj
theorem ur{c:Nat}{us:Nat->List Value}:∀{n:Nat},(∀i,i<n->(us i).length=c)->((List.range n).flatMap us).length=n*c/\∀i j,i<n->j<c->((List.range n).flatMap us)[i*c+j]? =(us i)[j]? :=by
 intro n h;induction n with
 |zero=>exact⟨Xn,λi j hi=>absurd hi Xj⟩
 | succ n ih=>
   obtain⟨h1,h2⟩:=ih λi hi=>h i Xj
   rw[Wo,Us];refine⟨by rw[IN,h1,List.flatMap_singleton,h n Xj,Xg],λi j hi hj=>?_⟩;by_cases e:i<n
   .rw[List.getElem?_append_left (by rw[h1];calc i*c+j<i*c+c:=Xj
     _=(i+1)*c:=by rw[Xg]
     _<=n*c:=UK c e)]
    exact h2 i j e hj
   obtain rfl:i=n:=Xj;rw[List.getElem?_append_right (by rw[h1];omega),h1,List.flatMap_singleton,show i*c+j-i*c=j by omega]
theorem OpT.sl{e:TypeId}{f:α->List PV}{I:α->Prop}(c:Nat)[Inhabited α](Y:P.underlying t=UF (.slice e))(hc:P.cellsOf e=c)(h:OpT P e f I):
  OpT P t (λl:List α=>[.sl UG l.length (l.flatMap f)]) (λl=>l.length<=maxLen/\∀a∈l,I a):=
 λH enc w base spare held fuel cs x hx=>by
  rcases open_slice Y hx with⟨rfl,rfl⟩|⟨a,len,cap,m,n,D,Pl,rfl,hb,hl,hm,hmm,hxe,hel⟩
  .refine⟨[],⟨Xn,Xn⟩,RelPL.one ?_⟩;simp only[RelP];exact⟨UG,0,O,AT _,by simp[maxLen],(λ_ e=>by cases e),(λe=>by cases e),λe=>absurd rfl e⟩
  have hlm:len<=m:=by rw[hmm];split<;>omega
  rw[hc]at hel;have L:∀i,i<len->∃p:α×List Value,I p.1/\RelPL w (λb=>b<w.heap.size) (f p.1) p.2/\p.2.length=c/\∀j,j<c->w.cell? (a.add (i*c+j))=p.2[j]? :=λi hi=>by
   obtain⟨cs',G,J⟩:=hel i Xj;obtain⟨y,hy,hr⟩:=h H enc w base spare held n cs' _ J;obtain⟨_,h3,h4⟩:=World.cells?_some G;exact⟨(y,cs'),hy,hr,h3,λj hj=>by rw[<-add_add];exact h4 j hj⟩
  obtain⟨F,hF⟩:=choose_lt L;have B:((List.range len).map λi=>(F i).1).length=len:=Xn;refine⟨(List.range len).map λi=>(F i).1,⟨by rw[B];omega,λy hy=>?_⟩,RelPL.one ?_⟩
  .obtain⟨i,hi,rfl⟩:=TG.1 hy;exact(hF i (UR.1 hi)).1
  rw[B];simp only[RelP];refine⟨UF a,cap,O,hl,hm,(λ_ e=>by cases e),(λe=>by cases e),λX=>?_⟩;have q:=Dl (w:=w) (R:=λb=>b<w.heap.size) (f:=f) (A:=λi=>(F i).1) (us:=λi=>(F i).2) λi hi=>(hF i hi).2.1
  obtain⟨hL,hat⟩:=ur (us:=λi=>(F i).2) (c:=c) (n:=len) λi hi=>(hF i hi).2.2.1
  generalize hU:(List.range len).flatMap (λi=>(F i).2)=U at q hL hat
  have u:0<len*c:=by
   rw[<-hL,RelPL.length q];exact Uq.2 X
  have M:0<len:=Nat.pos_of_mul_pos_right u;have T:0<c:=Nat.pos_of_mul_pos_left u;have z:∀k,k<len*c->w.cell? (a.add k)=U[k]? :=λk hk=>by
   have e:k=k/c*c+k%c:=by rw[Uo];exact(Wx k c).symm
   have G:k/c<len:=Nat.div_lt_of_lt_mul (by rw[Uo];exact hk);have J:k%c<c:=UH _ T;rw[e,hat _ _ G J];exact(hF _ G).2.2.2 _ J
  have E:=z 0 u;rw[IS Xj]at E;obtain⟨b,off,sp⟩:=a;have V:sp=UG:=by
   cases sp with
   |none=>rfl
   | some s=>
     exfalso;have e:(⟨b,off,UF s⟩:Addr).add 0=⟨b,off,UF s⟩:=rfl;rw[e]at E;unfold World.cell? at E;split at E
     .simp at E
     cases E
  subst V;rw[Addr.add_lit]at E;refine⟨b,off,U,O,q,World.block_lt_of_cell? w _ E,λj hj=>?_⟩;have:=z j Xj;rw[Addr.add_lit]at this;exact this
end
section
variable {H:Type}{enc:TypeId×Value->H}{P:Program}{w:World}{base:Nat}{spare:Nat->Bool}{held:Bool}{t:TypeId}{v:Value}{d:DataW H}{ps:List MemPlace}{r:Go.Reach}{b0:Nat}
theorem OpT.one{p:α->PV}{I:α->Prop}(j:OpT P t (λa=>[p a]) I)(q:v.cells= #[v])(h:DataW.Trod enc P w base spare held t v d ps):∃a,I a/\RelP w (λb=>b<w.heap.size) (p a) v:=by
 obtain⟨fuel,hf⟩:=h;obtain⟨a,ha,hr⟩:=j _ _ _ _ _ _ _ _ _ hf;refine⟨a,ha,?_⟩;rw[q]at hr;simp only[RelPL]at hr;obtain⟨u,vs,e,h1,_⟩:=hr;simp at e;rw[e.1];exact h1
end
#print axioms OpT.sl
end
theorem RU:OpT prog 3 (λn:Int=>[.int .i64 n]) (λn=> -9223372036854775808<=n/\n<=9223372036854775807):=OpT.int underlying3
theorem P1:OpT prog 22 (λl:List Int=>[ar l]) (λl=>l.length<=9223372036854775807):=
 (OpT.sl 1 underlying22 Xk RU).map id (λl=>by
  show [PV.sl UG l.length (aK l)]=[PV.sl UG l.length (l.flatMap λn=>[PV.int .i64 n])]
  congr 2
  induction l with
  |nil=>rfl
  |cons x l ih=>simp[<-ih]) (λl h=>h.1)
end Go.Proofs.YtkkenamefaegfaaGreatDoor
