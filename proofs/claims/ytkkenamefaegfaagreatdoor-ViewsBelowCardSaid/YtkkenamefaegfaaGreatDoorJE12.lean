/- Lemmas. No condition. -/
import Derived.RangeFuncIn
import Derived.RangeFuncCalls
import Derived.RangeFuncLeaves
import Derived.RangeFuncSeq
import Derived.Sort.MapsRangeIn
import Derived.RangeFuncGives
import Derived.RangeFuncKeeps
import Derived.RangeFuncBox
import Derived.Shelf.Abstract
import Derived.OwnWalkIn
import Derived.TacticsInMore
import Derived.LoopNIn
import Derived.LoopIn
import Derived.RegionIn
import Derived.RangeFuncRecord
import Derived.StillTail
import Derived.Deep.Quiet
import Derived.Shelf.SlSortCmp.QuietGrown
import Derived.Shelf.SlSortCmp.NoneTotal
import Derived.Shelf.Lay
import Derived.Ground.SlsfProg
import Derived.Ground.NamesProg
import Derived.Test.YtkkenamefaegfaaGreatDoorJE11
set_option maxRecDepth 100000
set_option maxHeartbeats 4000000
open Go.RowKit Go.Proofs.Tryz
open Option renaming some→UF,none→UG
open Bool renaming true→VA,false→VC
namespace Go.Proofs.YtkkenamefaegfaaGreatDoor
variable{α β:Type}{i l k id b n clock g r sz b4:Nat}{q:Rat}{P:Program}{f:FuncId}{w W:World}{R:Nat->Prop}{a:Act}{x y body:Code}{m:Gm}{es:Array MapEntry}{seen:Array Nat}{e:MapEntry}{T E:TypeId}{cs:List PV}{u:Value}{L:Array Bool->Act->Prop}
section
open Go.RowKit Mk Mm
theorem rj(p q:Prr):FnP prog 116 [.agg (Ey p),.agg (Ey q)] (· = .bool (decide (cI (p.a,p.b) (q.a,q.b)<0))):=by
 refine FnP.of func116 O ntmps116 Xn λ_ _ _ _=>?_
 have j:decide (cI (p.a,p.b) (q.a,q.b)<0)=(lF p.a q.a||(lq p.a q.a&&lF p.b q.b)):=by
  have e:cI (p.a,p.b) (q.a,q.b)=if bZ p.a q.a≠0 then bZ p.a q.a else bZ p.b q.b:=Sn _ _
  have t:lq p.a q.a=decide (bZ p.a q.a=0):=by
   show(p.a==q.a)=_;rw[TY,U6,Tz,eJ]
  rw[e,t];unfold lF;by_cases h:bZ p.a q.a=0
  .rw[sh Xj,TD h,TL (show ¬bZ p.a q.a<0 by omega)];simp
  rw[By h,TL h];simp
 have s:=iT p.a q.a;have z:=iT p.b q.b;generalize lF p.a q.a=b1 at*;generalize lF p.b q.b=b2 at*;refine Z3 O ?_;by_cases hb:b1=VA
 .subst hb;exact Z4 O<|Rs O (aa call115 s O)<|Ar 15 O<|VF O<|ah PV.bool (by rw[j];rfl)
 obtain rfl:b1=VC:=VW hb;refine Z4 O<|Rs O (aa call115 s O)<|Ar 5 O<|Rg O (vt (p:=p.a) (q:=q.a) O O O)<|A1 O ?_;apply Tu 6 16 22 [17,18,19,20,21] O Xt
 .intro hb11;exact Ar 4 O<|Rg O (aa call115 z O)<|A1 O<|Tm Xs O O O
 .intro hb11;exact Ar 6 O<|Tm Xs O O O
 exact Y2 O<|VF O<|ah PV.bool (by rw[j];rfl)
section
variable {α:Type}(f:α->List PV)(c:Nat)(h:∀a,(f a).length=c)
include h
theorem MX(l:List α)(k:Nat):(l.flatMap f).take (k*c)=(l.take k).flatMap f/\(l.flatMap f).drop (k*c)=(l.drop k).flatMap f:=by
 have e:l.flatMap f=(l.take k).flatMap f++(l.drop k).flatMap f:=by rw[<-Us,Ug]
 rcases Vo l.length k with h1|h1
 .have hl:=bM f c h l;have:l.length*c<=k*c:=UK c Xj;rw[aH Xj,aH Xj,List.drop_eq_nil_of_le Xj,List.drop_eq_nil_of_le Xj];exact⟨O,O⟩
 have hl:((l.take k).flatMap f).length=k*c:=by rw[bM f c h,TC,Ul h1]
 constructor
 .grind
 grind
end
abbrev RF(c:Nat)(cs xs:List PV)(i k:Nat):List PV:=(xs++cs.drop (i*c)).take ((1+(k-i))*c)
abbrev R4(c:Nat)(cs xs:List PV)(i k:Nat):List PV:=cs.take (i*c)++RF c cs xs i k
theorem N6(g:β->α)(f:α->List PV)(c:Nat)(h:∀a,(f a).length=c)(s:∀a,∀v∈f a,v.leaf=VA){l l':List β}{x:β}(z:i<=l.length)(t:l'=l.take i++x::l.drop i):
  (((l.map g).flatMap f).drop (i*c)).length=(l.length-i)*c/\(RF c ((l.map g).flatMap f) (f (g x)) i l.length).length=(1+(l.length-i))*c/\(∀v∈RF c ((l.map g).flatMap f) (f (g x)) i l.length,v.leaf=VA)/\
  R4 c ((l.map g).flatMap f) (f (g x)) i l.length=(l'.map g).flatMap f/\i+(1+(l.length-i))=l'.length:=by
 obtain⟨c1,c2⟩:=MX f c h (l.map g) i;have j:(g x::(l.map g).drop i).flatMap f=RF c ((l.map g).flatMap f) (f (g x)) i l.length:=by
  show _=(f (g x)++_).take _;rw[c2,<-T0,aH];rw[bM f c h,IT,UQ,TB,Wi];exact AT _
 refine⟨by rw[c2,bM f c h,UQ,TB],?_,?_,?_,?_⟩
 .rw[<-j,bM f c h,IT,UQ,TB,Wi]
 .rw[<-j];intro v hv;obtain⟨a,_,hv⟩:=Uk.1 hv;exact s a v hv
 .show _++RF c ((l.map g).flatMap f) (f (g x)) i l.length=_;rw[<-j,c1,t,Uc,cu,List.map_take,List.map_drop,Us]
 rw[t,IN,IT,TC,UQ];omega
theorem Bf:∀t:Trm,∀c∈Jq t,c.leaf=VA:=λt c h=>by
 simp at h;rcases h with rfl|rfl|rfl<;>rfl
theorem Cc:∀t:Prr,∀c∈Ey t,c.leaf=VA:=λt c h=>by
 simp at h;rcases h with rfl|rfl|rfl|rfl|rfl<;>rfl
theorem Cg(l:List Trm):∀c∈bG l,c.leaf=VA:=λc hc=>by
 obtain⟨t,_,h⟩:=Uk.1 hc;exact Bf t c h
theorem Cj(l:List Prr):∀c∈bK l,c.leaf=VA:=λc hc=>by
 obtain⟨t,_,h⟩:=Uk.1 hc;exact Cc t c h
section
variable {K:Type}{cmp:K->K->Int}{e:K×Rat}
theorem lU:∀{i:Nat}{out:List (K×Rat)},i<=out.length->(∀j (s:j<out.length),j<i->decide (cmp out[j].1 e.1<0)=VA)->(∀(h:i<out.length),decide (cmp out[i].1 e.1<0)=VC)->oV cmp e out=out.take i++e::out.drop i
 |0,[],_,_,_=>rfl
 |0,y::l,_,_,h2=>by grind[oV]
 |i+1,[],h,_,_=>absurd h Xn
 | i+1,y::l,h,h1,h2=>by
   have h3:=h1 0 Xn Xj;rw[oV,By (by simpa using h3),lU (by simpa using h) (λj s hji=>h1 (j+1) (by simpa using s) Xj) (λt=>h2 (by simpa using t))];rfl
def nzL(l:List (K×Rat)):List (K×Rat):=l.filter λe=>decide (e.2≠0)
structure GvI(cmp:K->K->Int)(w todo out:List (K×Rat)):Prop where
 ex:∃d,(d++nzL todo).Perm w/\out.Perm d
 sr:Mm.Asc cmp out
variable {w todo out l1 l2:List (K×Rat)}
theorem yV:nzL (l1++e::l2)=nzL l1++(if e.2=0 then []else [e])++nzL l2:=by
 by_cases h:e.2=0<;>simp[nzL,h]
theorem GvI.start(h:(nzL todo).Perm w):GvI cmp w todo []:=⟨⟨[],h,T3 _⟩,List.Pairwise.nil⟩
theorem GvI.skip(h:GvI cmp w (l1++e::l2) out)(j:e.2=0):GvI cmp w (l1++l2) out:=by
 obtain⟨d,h1,h2⟩:=h.ex;rw[yV,By j]at h1;exact⟨⟨d,by simpa[nzL]using h1,h2⟩,h.sr⟩
theorem GvI.mem(h:GvI cmp w todo out)(j:e∈todo)(s:e.2≠0):e∈w:=by
 obtain⟨d,h1,_⟩:=h.ex;exact h1.subset (WM _ (UW.2 ⟨j,TD s⟩))
theorem GvI.step(hc:Cmp cmp)(h:GvI cmp w (l1++e::l2) out)(s:e.2≠0)(t:(w.map (·.1)).Nodup):GvI cmp w (l1++l2) (oV cmp e out):=by
 obtain⟨d,h1,h2⟩:=h.ex;rw[yV,sh s,VZ,List.singleton_append]at h1;have j:=(h1.map (·.1)).nodup_iff.2 t;rw[Uc,Wj]at j;refine⟨⟨d++[e],?_,?_⟩,tP hc h.sr λx hx e2=>?_⟩
 .refine List.Perm.trans ?_ h1;rw[VZ,show nzL (l1++l2)=nzL l1++nzL l2 from WK ..];exact List.Perm.append_left d (W6 (l₁:=nzL l1)).symm
 .exact(lY cmp e out).trans ((List.Perm.cons e h2).trans (List.perm_append_singleton e d).symm)
 grind
theorem GvI.end(hc:Cmp cmp)(h:GvI cmp w [] out)(j:Mm.Asc cmp w):out=w:=by
 obtain⟨d,h1,h2⟩:=h.ex;rw[show nzL ([]:List (K×Rat))=[]from O,Uh]at h1;exact iQ hc h.sr j (h2.trans h1)
theorem GvI.snoc(h:GvI cmp w (l1++e::l2) out)(j:e.2≠0):out.length+1<=w.length:=by
 obtain⟨d,h1,h2⟩:=h.ex;rw[yV,sh j]at h1;have:=h1.length_eq;have:=h2.length_eq;simp at*;omega
end
theorem F1.fits(h:F1 q):On q=VC:=by
 rw[On,tA,tA,T5];exact⟨TL (by have:=iu h.n;show ¬400<(Lib.decDigits _).length;omega),TL (by have:=iu (n:=q.den) (by have:=h.d;omega);show ¬400<(Lib.decDigits _).length;omega)⟩
theorem u7(h:F1 q):FnP prog 113 [bQ q] (· = .tup [.str (bo q),.int .i64 0]):=by
 have:=DF q (AS (Kf h.n) Xl) (AS (Kf (WR h.d Xl)) Xl);rw[h.fits]at this;exact this
theorem yR(m:MC)(s:List (Par×Rat))(p:List (PP×Rat))(hs:(nzL s).Perm m.s)(hp:(nzL p).Perm m.p)(sa:Mm.Asc bZ m.s)(ap:Mm.Asc cI m.p)(h1:MF1 m):
  FnO prog 52 2 0 [.agg (bR m.c big 9001)] [(big,.mp (aj aW s) (ay s)),(9001,.mp (aj ppP p) (ay p))]
   (λv ob'=>v= .tup [.agg [.pv (.str (bo m.c)),.pv (.sl UG m.s.length (bG (tmL m.s))),.pv (.sl UG m.p.length (bK (prL m.p)))],pIi 0]/\ob'=aB []):=by
 refine FnO.ofC func52 O ntmps52 Xn λ_ _ _ _=>?_
 have hgc:=u7 h1.c;have hns:=vO eF sa;have hnp:=vO c6 ap;have hls:=h1.ls;have hlp:=h1.lp;refine Z3 O<|Tj (St.cB (ks:=aj aW s) (vs:=ay s) big Xk (Co _ _) (T3 _))<|Tj (St.cB (ks:=aj ppP p) (vs:=ay p) 9001 Xk (Co _ _) (T3 _))<|Z2 O<|Rs O (aa call113 hgc O)<|Ar 5 O<|Z4 O<|Tj (St.da (T':=45) (cs:=[.pv (.str (bo m.c)),.pv nS,.pv nS]) 2 1 3 3 148 Xk O O)<|Tj (St.da (T':=45) (cs:=[.pv (.str (bo m.c)),.gsl 3 3 0,.pv nS]) 2 2 4 5 150 Xk O O)<|Z2 O<|Gc O (λac=>absurd ac Xn) (λac=>?_);refine Ti<|Z2 O<|Rs O (cc 5 underlying135 O O)<|Gz O (st:=λXr:List (Par×Rat)×List (Par×Rat)×List PV=>([(1,UG),(2,UG),(6,UG),(33,UG)],[(0,UG),(1,UG),(2,UF (.mix 45 [.pv (.str (bo m.c)),.gsl 3 3 Xr.2.1.length,.gsl 4 5 0])),(3,UF (.gro 148 (bG (tmL Xr.2.1)))),(4,UG),(5,UF (.mi Xr.2.2 (aj aW Xr.1) (ay Xr.1)))])) 6
  (I:=λXr=>GvI bZ m.s Xr.1 Xr.2.1) (μ:=λXr=>Xr.1.length) (x0:=(s,[],[])) (Tk (aS O) (aO Xk) O O) (GvI.start hs) ?_
 rintro⟨todo,out,cur⟩ hI;try simp only at hI ⊢
 refine Gr O<|RL.call O (cO O O ?_);rintro b rest cur2 ks2 vs2 hN;refine Rs O (bz O O)<|Gc O (λH=>?_) (λH=>?_)
 .obtain⟨_,l1,e,l2,rfl,rfl,rfl,rfl,rfl⟩:=(c8.ofE hN).resolve_left (by rintro⟨h,_⟩;rw[h]at H;cases H);have hz:=pM e.2;refine Ti<|Gr O<|Rs O (cr O O)<|Ar 6 O<|Z1 O<|Rs O (aa call114 hz O)<|Gc O (λZ=>?_) (λZ=>?_)
  .have h0:e.2=0:=by simpa using Z
   exact Gx O<|⟨(l1++l2,out,[aW e.1,bQ e.2]),Tk (aS O) (aO Xk) O O,hI.skip h0,Xn⟩
  have h0:¬e.2=0:=by simpa using Z
  have ag:=hI.mem (e:=e) Xn h0;have hsn:=hI.snoc h0;have V:=hI.step eF h0 hns;have ak:=u7 (h1.s e ag);have al:=lZ (tmL out);rw[oA]at al;refine Ti<|Z1 O<|Rs O (aa call113 ak O)<|Ar 5 O<|Z2 O<|Gc O (λad=>absurd ad Xn) (λad=>?_);refine Ti<|Gr O<|Ar 5 O ?_;by_cases he:out=[]
  .have hl0:out.length=0:=by rw[he];rfl
   rw[hl0];refine Tj (St.FK (id:=3) (sz:=3) (T':=45) (vs:=[.pv (.str (bo m.c)),.gsl 3 3 0,.gsl 4 5 0]) 2 1 Xk O)<|Z1 O<|Gz O (st:=λB:Nat=>([(1,UG),(2,UG),(6,UG),(7,UG),(11,UG),(12,UF (pIi B)),(33,UG)],[(0,UG),(1,UG),(2,UG),(4,UG),(5,UG),(6,UG),(8,UG)])) 9
    (I:=λB=>B<=out.length/\∀j (hj:j<out.length),j<B->lF out[j].1 e.1=VA) (μ:=λB=>out.length-B) (x0:=0) (Tk (aS O) (aO Xk) O O) (⟨aJ _,λj _ h=>absurd h Xj⟩) ?_
   rintro i ⟨hi,hall⟩;refine UB 15 O<|Dr 4 O<|TR O (λτ h=>fI (Ee h 0 O O) (Ee h 1 O O) O (TL Xj))<|Dr 10 O ?_;refine⟨Xk,?_⟩;refine Gc O (λA=>absurd A Xn) (λA=>?_);refine Gx O ?_;obtain rfl:i=0:=Xj;have z:oV bZ e out=[e]:=by rw[he];rfl
   refine UB 14 O<|Dr 10 O<|VE [_] O (λτ h=>dC 10 Rk (Ee h 0 O O) (Eo h 0 O O) O (.inl ⟨_,(Ee h 1 O O)⟩) O Xn Xj (h.n 0 _ O))<|VE [_] O (λτ h=>lN 11 Rk (Ee h 0 O O) (.inr ⟨_,_,_,_,(Ee h 1 O O),(Eo h 0 O O),O⟩) O (Cg [⟨e.1,bo e.2⟩]) Xj (h.n 0 _ O))<|Dr 2 O ?_;refine⟨Xk,?_⟩;exact⟨(l1++l2,oV bZ e out,[aW e.1,bQ e.2]),Tl [0,1,2,11,4,5] (aT O) ⟨Xk,Xk,ah (λn=>UF (Ob.mix 45 [.pv (.str (bo m.c)),.gsl 11 3 n,.gsl 4 5 0])) (show 1=(oV bZ e out).length by rw[z];rfl),TX (b:=UF (.gro 148 (Jq ⟨e.1,bo e.2⟩))) Xk (ah (λc=>UF (Ob.gro 148 c)) (show Jq ⟨e.1,bo e.2⟩=bG (tmL (oV bZ e out)) by rw[z];rfl)),Xk,Xk,Xq⟩ O O Xl O,V,Xn⟩
  have hpos:0<out.length:=Uq.2 he;have Y:bG (tmL out)≠[]:=DS hpos;refine Tj (St.Kb (id:=3) (sz:=3) (k:=out.length) (T:=148) (T':=45) (cs:=bG (tmL out)) (vs:=[.pv (.str (bo m.c)),.gsl 3 3 out.length,.gsl 4 5 0]) 2 1 Xk O Xk hpos Y)<|Z1 O<|AW.cut (st:=λJ:Nat=>mkS [(1,.ptr 0 0),(2,.ptr 1 0),(6,.ptr 2 0),(11,.ptr 8 0),(12,pIi J),(33,.ptr 5 0)] [(0,.mix 138 [.pv (.bool (decide (m.c.num<0))),.pv (pli (ae m.c.num.natAbs)),.pv (.bool (decide ((m.c.den:Int)<0))),.pv (pli (ae (m.c.den:Int).natAbs)),.pv (.mp (aj aW s) (ay s)),.pv (.mp (aj ppP p) (ay p))]),(1,.mix 45 [.pv (.str ⟨#[]⟩),.pv nS,.pv nS]),(2,.mix 45 [.pv (.str (bo m.c)),.osl 3 3 out.length,.gsl 4 5 0]),(3,.cells 148 (bG (tmL out))),(4,.gro 150 (bK [])),(5,.mi [aW e.1,bQ e.2] (aj aW (l1++l2)) (ay (l1++l2))),(8,.mix 148 [pIi e.1.f,.pv (.str e.1.c),.pv (.str (bo e.2))])] 9)
   (I:=λJ=>J<=out.length/\oV bZ e out=out.take J++e::out.drop J) ?_ ?_
  .refine Gz O (st:=λB:Nat=>([(1,UG),(2,UG),(6,UG),(7,UG),(11,UG),(12,UF (pIi B)),(33,UG)],[(0,UG),(1,UG),(2,UG),(3,UG),(4,UG),(5,UG),(6,UG),(8,UG)])) 9
        (I:=λB=>B<=out.length/\∀j (hj:j<out.length),j<B->lF out[j].1 e.1=VA) (μ:=λB=>out.length-B) (x0:=0) (Tk (aS O) (aO Xk) O O) (⟨aJ _,λj _ h=>absurd h Xj⟩) ?_
   rintro i ⟨hi,hall⟩;by_cases hi2:i<out.length
   .have hov:((bG (tmL out)).drop (i*3)).take 2=[.int .i64 out[i].1.f,.str out[i].1.c]:=by have:=ah (List.take 2) (s5 hi2);rw[W5]at this;exact this
    have am:=iT out[i].1 e.1;refine UB 15 O<|Dr 4 O<|TR O (λτ h=>cU (Ee h 0 O O) (Ee h 1 O O) O (TD Xj))<|Dr 6 O<|Dg [_] O (λτ h=>mH ⟨_,underlying146,O⟩ kN (Ee h 0 O O) (Eo h 0 O O) hov O) O Xk<|D1 O<|Dg [] O (λτ h=>aa call115 am (h.aD O)) O Xk<|D1 O ?_;refine⟨Xk,?_⟩;refine Gc O (λA=>?_) (λA=>?_)
    .exact Ti<|Z3 O<|⟨(i+1),Tk (aS O) (aO Xk) O O,⟨Xj,λj hj hji=>if h:j<i then hall j hj h else(by obtain rfl:j=i:=Xj;exact A)⟩,Xj⟩
    exact Gx O<|⟨(i),Tk (aS O) (aO Xk) O O,⟨hi,lU hi hall (λ_=>A)⟩⟩
   refine UB 15 O<|Dr 4 O<|TR O (λτ h=>fI (Ee h 0 O O) (Ee h 1 O O) O (TL Xj))<|Dr 10 O ?_;refine⟨Xk,?_⟩;refine Gc O (λA=>absurd A Xn) (λA=>?_);exact Gx O<|⟨(i),Tk (aS O) (aO Xk) O O,⟨hi,lU hi hall (λh=>absurd h hi2)⟩⟩
  rintro j ⟨hi,z⟩;obtain⟨hdl,hnl,hnf,hcs,hil⟩:=N6 (β:=Par×Rat) (λe=>⟨e.1,bo e.2⟩) Jq 3 (λ_=>rfl) Bf hi z;refine UB 14 O<|Dr 3 O<|VE [_] O (λτ h=>jK j underlying42 nD (Ee h 0 O O) (Eo h 0 O O) (Ee h 1 O O) O hi)<|Dr 5 O<|VE [_] O (λτ h=>mO j underlying42 nD (Ee h 0 O O) (Eo h 0 O O) (Ee h 1 O O) O hi)<|VE [_,_] O (λτ h=>dt 10 Rk (Ee h 0 O O) (Eo h 0 O O) (AT _) (Od.tsl (Ee h 1 O O) (Eo h 1 O O) O hdl) hdl (λc hc=>Cg (tmL out) c (Vq hc)) Xj (h.n 0 _ O))<|VE [_,_] O (λτ h=>dt 11 Rk (Ee h 0 O O) (Eo h 0 O O) Xj (ox.any (.inr ⟨_,_,_,_,(Ee h 1 O O),(Eo h 1 O O),O⟩)) hnl hnf Xj (h.n 0 _ O))<|Dr 2 O ?_;refine⟨Xk,?_⟩;exact⟨(l1++l2,oV bZ e out,[aW e.1,bQ e.2]),St.le.trans (St.Oe (id:=11) (sz:=3) (k:=j+(1+(out.length-j))) (T:=148) (T':=45) (vs:=[.pv (.str (bo m.c)),.osl 11 3 (j+(1+(out.length-j))),.gsl 4 5 0]) (cs:=R4 3 (bG (tmL out)) (Jq ⟨e.1,bo e.2⟩) j out.length) 2 1 Xk O Xk Xj (λe0=>DS (l:=oV bZ e out) (k:=0) Xj (hcs.symm.trans e0))) (Tl [0,1,2,11,4,5] (aT O) ⟨Xk,Xk,ah (λn=>UF (Ob.mix 45 [.pv (.str (bo m.c)),.gsl 11 3 n,.gsl 4 5 0])) hil,TX (b:=UF (.gro 148 (R4 3 (bG (tmL out)) (Jq ⟨e.1,bo e.2⟩) j out.length))) Xk (ah (λc=>UF (Ob.gro 148 c)) hcs),Xk,Xk,Xq⟩ O O Xl O),V,Xn⟩
 obtain⟨_,rfl,_⟩:=(c8.ofE hN).resolve_right (by rintro⟨h,_⟩;rw[h]at H;cases H);have an:=hI.end eF sa;rw[an];refine Gx O<|Z2 O<|Rs O (cc 6 underlying136 O O)<|Gz O (st:=λG:List (PP×Rat)×List (PP×Rat)×List PV=>([(2,UG),(6,UG),(85,UG)],[(1,UG),(2,UF (.mix 45 [.pv (.str (bo m.c)),.gsl 3 3 m.s.length,.gsl 4 5 G.2.1.length])),(3,UG),(4,UF (.gro 150 (bK (prL G.2.1)))),(6,UF (.mi G.2.2 (aj ppP G.1) (ay G.1)))])) 7
  (I:=λG=>GvI cI m.p G.1 G.2.1) (μ:=λG=>G.1.length) (x0:=(p,[],[])) (Tk (aS O) (aO Xk) O O) (GvI.start hp) ?_
 rintro⟨todo,out,cur⟩ hI;try simp only at hI ⊢
 refine Gr O<|RL.call O (cO O O ?_);rintro b rest cur2 ks2 vs2 hN;refine Rs O (bz O O)<|Gc O (λM=>?_) (λM=>?_)
 .obtain⟨_,l1,e,l2,rfl,rfl,rfl,rfl,rfl⟩:=(c8.ofE hN).resolve_left (by rintro⟨h,_⟩;rw[h]at M;cases M);have hz:=pM e.2;refine Ti<|Gr O<|Rs O (cr O O)<|Ar 6 O<|Z1 O<|Rs O (aa call114 hz O)<|Gc O (λab=>?_) (λab=>?_)
  .have h0:e.2=0:=by simpa using ab
   exact Gx O<|⟨(l1++l2,out,[ppP e.1,bQ e.2]),Tk (aS O) (aO Xk) O O,hI.skip h0,Xn⟩
  have h0:¬e.2=0:=by simpa using ab
  have ag:=hI.mem (e:=e) Xn h0;have hsn:=hI.snoc h0;have V:=hI.step c6 h0 hnp;have ak:=u7 (h1.p e ag);have al:=lW (prL out);rw[oq]at al;refine Ti<|Z1 O<|Rs O (aa call113 ak O)<|Ar 5 O<|Z2 O<|Gc O (λaf=>absurd af Xn) (λaf=>?_);refine Ti<|Gr O<|Rs O (cF 0 underlying226 kN O O O O Xl)<|A1 O<|Rs O (cF 1 underlying226 kN O O O O Xl)<|Ar 5 O ?_;by_cases he:out=[]
  .have hl0:out.length=0:=by rw[he];rfl
   rw [hl0];refine Tj (St.FK (id:=4) (sz:=5) (T':=45) (vs:=[.pv (.str (bo m.c)),.gsl 3 3 m.s.length,.gsl 4 5 0]) 2 2 Xk O)<|Z1 O<|Gz O (st:=λD:Nat=>([(2,UG),(6,UG),(17,UG),(18,UF (pIi D)),(85,UG)],[(1,UG),(2,UG),(3,UG),(6,UG),(9,UG)])) 10
        (I:=λD=>D<=out.length/\∀j (hj:j<out.length),j<D->decide (cI out[j].1 e.1<0)=VA) (μ:=λD=>out.length-D) (x0:=0) (Tk (aS O) (aO Xk) O O) (⟨aJ _,λj _ h=>absurd h Xj⟩) ?_
   rintro i ⟨hi,hall⟩;refine UB 14 O<|Dr 4 O<|TR O (λτ h=>fI (Ee h 0 O O) (Ee h 1 O O) O (TL Xj))<|Dr 9 O ?_;refine⟨Xk,?_⟩;refine Gc O (λt=>absurd t Xn) (λt=>?_);refine Gx O ?_;obtain rfl:i=0:=Xj;have z:oV cI e out=[e]:=by rw[he];rfl
   refine UB 14 O<|Dr 10 O<|VE [_] O (λτ h=>dC 11 Ri (Ee h 0 O O) (Eo h 0 O O) O (.inl ⟨_,(Ee h 1 O O)⟩) O Xn Xj (h.n 0 _ O))<|VE [_] O (λτ h=>lN 12 Ri (Ee h 0 O O) (.inr ⟨_,_,_,_,(Ee h 1 O O),(Eo h 0 O O),O⟩) O (Cj [⟨e.1.1,e.1.2,bo e.2⟩]) Xj (h.n 0 _ O))<|Dr 2 O ?_;refine⟨Xk,?_⟩;exact⟨(l1++l2,oV cI e out,[ppP e.1,bQ e.2]),Tl [0,1,2,3,12,5,6] (aT O) ⟨Xk,ah (λn=>UF (Ob.mix 45 [.pv (.str (bo m.c)),.gsl 3 3 m.s.length,.gsl 12 5 n])) (show 1=(oV cI e out).length by rw[z];rfl),Xk,TX (b:=UF (.gro 150 (Ey ⟨e.1.1,e.1.2,bo e.2⟩))) Xk (ah (λc=>UF (Ob.gro 150 c)) (show Ey ⟨e.1.1,e.1.2,bo e.2⟩=bK (prL (oV cI e out)) by rw[z];rfl)),Xk,Xq⟩ O O Xl O,V,Xn⟩
  have hpos:0<out.length:=Uq.2 he;have Y:bK (prL out)≠[]:=Eu hpos;refine Tj (St.Kb (id:=4) (sz:=5) (k:=out.length) (T:=150) (T':=45) (cs:=bK (prL out)) (vs:=[.pv (.str (bo m.c)),.gsl 3 3 m.s.length,.gsl 4 5 out.length]) 2 2 Xk O Xk hpos Y)<|Z1 O<|AW.cut (st:=λU:Nat=>mkS [(2,.ptr 1 0),(6,.ptr 2 0),(17,.ptr 9 0),(18,pIi U),(85,.ptr 6 0)] [(1,.mix 45 [.pv (.str ⟨#[]⟩),.pv nS,.pv nS]),(2,.mix 45 [.pv (.str (bo m.c)),.gsl 3 3 m.s.length,.osl 4 5 out.length]),(3,.gro 148 (bG (tmL m.s))),(4,.cells 150 (bK (prL out))),(6,.mi [ppP e.1,bQ e.2] (aj ppP (l1++l2)) (ay (l1++l2))),(9,.mix 150 [pIi e.1.1.f,.pv (.str e.1.1.c),pIi e.1.2.f,.pv (.str e.1.2.c),.pv (.str (bo e.2))])] 10)
       (I:=λU=>U<=out.length/\oV cI e out=out.take U++e::out.drop U) ?_ ?_
  .refine Gz O (st:=λD:Nat=>([(2,UG),(6,UG),(17,UG),(18,UF (pIi D)),(85,UG)],[(1,UG),(2,UG),(3,UG),(4,UG),(6,UG),(9,UG)])) 10
        (I:=λD=>D<=out.length/\∀j (hj:j<out.length),j<D->decide (cI out[j].1 e.1<0)=VA) (μ:=λD=>out.length-D) (x0:=0) (Tk (aS O) (aO Xk) O O) (⟨aJ _,λj _ h=>absurd h Xj⟩) ?_
   rintro i ⟨hi,hall⟩;by_cases hi2:i<out.length
   .have hov:=s7 hi2;have am:=rj ⟨out[i].1.1,out[i].1.2,bo out[i].2⟩ ⟨e.1.1,e.1.2,bo e.2⟩;refine UB 14 O<|Dr 4 O<|TR O (λτ h=>cU (Ee h 0 O O) (Ee h 1 O O) O (TD Xj))<|Dr 5 O<|Dg [_] O (λτ h=>mH ⟨_,underlying150,O⟩ lu (Ee h 0 O O) (Eo h 0 O O) hov O) O Xk<|D1 O<|Dg [] O (λτ h=>aa call116 am (h.aD O)) O Xk<|D1 O ?_;refine⟨Xk,?_⟩;refine Gc O (λt=>?_) (λt=>?_)
    .exact Ti<|Z3 O<|⟨(i+1),Tk (aS O) (aO Xk) O O,⟨Xj,λj hj hji=>if h:j<i then hall j hj h else(by obtain rfl:j=i:=Xj;exact t)⟩,Xj⟩
    exact Gx O<|⟨(i),Tk (aS O) (aO Xk) O O,⟨hi,lU hi hall (λ_=>t)⟩⟩
   refine UB 14 O<|Dr 4 O<|TR O (λτ h=>fI (Ee h 0 O O) (Ee h 1 O O) O (TL Xj))<|Dr 9 O ?_;refine⟨Xk,?_⟩;refine Gc O (λt=>absurd t Xn) (λt=>?_);exact Gx O<|⟨(i),Tk (aS O) (aO Xk) O O,⟨hi,lU hi hall (λh=>absurd h hi2)⟩⟩
  rintro j ⟨hi,z⟩;obtain⟨hdl,hnl,hnf,hcs,hil⟩:=N6 (β:=PP×Rat) (λe=>⟨e.1.1,e.1.2,bo e.2⟩) Ey 5 (λ_=>rfl) Cc hi z;refine UB 14 O<|Dr 3 O<|VE [_] O (λτ h=>jK j underlying43 lu (Ee h 0 O O) (Eo h 0 O O) (Ee h 1 O O) O hi)<|Dr 5 O<|VE [_] O (λτ h=>mO j underlying43 lu (Ee h 0 O O) (Eo h 0 O O) (Ee h 1 O O) O hi)<|VE [_,_] O (λτ h=>dt 11 Ri (Ee h 0 O O) (Eo h 0 O O) (AT _) (Od.tsl (Ee h 1 O O) (Eo h 1 O O) O hdl) hdl (λc hc=>Cj (prL out) c (Vq hc)) Xj (h.n 0 _ O))<|VE [_,_] O (λτ h=>dt 12 Ri (Ee h 0 O O) (Eo h 0 O O) Xj (ox.any (.inr ⟨_,_,_,_,(Ee h 1 O O),(Eo h 1 O O),O⟩)) hnl hnf Xj (h.n 0 _ O))<|Dr 2 O ?_;refine⟨Xk,?_⟩;exact⟨(l1++l2,oV cI e out,[ppP e.1,bQ e.2]),St.le.trans (St.Oe (id:=12) (sz:=5) (k:=j+(1+(out.length-j))) (T:=150) (T':=45) (vs:=[.pv (.str (bo m.c)),.gsl 3 3 m.s.length,.osl 12 5 (j+(1+(out.length-j)))]) (cs:=R4 5 (bK (prL out)) (Ey ⟨e.1.1,e.1.2,bo e.2⟩) j out.length) 2 2 Xk O Xk Xj (λe0=>Eu (l:=oV cI e out) (k:=0) Xj (hcs.symm.trans e0))) (Tl [0,1,2,3,12,5,6] (aT O) ⟨Xk,ah (λn=>UF (Ob.mix 45 [.pv (.str (bo m.c)),.gsl 3 3 m.s.length,.gsl 12 5 n])) hil,Xk,TX (b:=UF (.gro 150 (R4 5 (bK (prL out)) (Ey ⟨e.1.1,e.1.2,bo e.2⟩) j out.length))) Xk (ah (λc=>UF (Ob.gro 150 c)) hcs),Xk,Xq⟩ O O Xl O),V,Xn⟩
 obtain⟨_,rfl,_⟩:=(c8.ofE hN).resolve_right (by rintro⟨h,_⟩;rw[h]at M;cases M);have an:=hI.end c6 ap;rw[an];exact Gx O<|Tj (Tn (o:= .gro 148 (bG (tmL m.s))) 3 Xk O)<|Tj (Tn (o:= .gro 150 (bK (prL m.p))) 4 Xk O)<|Z3 O<|Gt O<|⟨[(2,.ptr 0 0),(3,pIi 0)],[(0,.mix 45 [.pv (.str (bo m.c)),.pv (.sl UG m.s.length (bG (tmL m.s))),.pv (.sl UG m.p.length (bK (prL m.p)))])],[.agg [.pv (.str (bo m.c)),.pv (.sl UG m.s.length (bG (tmL m.s))),.pv (.sl UG m.p.length (bK (prL m.p)))],pIi 0],[],1,Tl [1] (aT Xk) (aP Xk) O O Xl O,O,⟨ax ⟨_,underlying45,O⟩ ER O O O,Xq⟩,O,O,λi o h=>by simp[aB]at h,Xl,O,O⟩
end
section
open Go.RowKit Mk Mm
structure NmOk(p:Par):Prop where
 f: -1<=p.f
 c:p.c=⟨#[]⟩\/fE p.c=VA
 z:p.c.size<=1000
theorem oF(p:Par)(h:NmOk p):FnP prog 118 [aW p] (· = .bool VA):=by
 refine FnP.of func118 O ntmps118 Xn λ_ _ _ _=>?_
 have j:=kA p.c (by have:=h.z;omega);have s:=h.f;have t:((p.c.toList==(⟨#[]⟩:ByteArray).toList)||fE p.c)=VA:=by
  rcases h.c with e|e
  .rw[e,Uw];rfl
  rw[e,Xb]
 refine Z2 O<|Z2 O<|Rs O (cU O O O (TD s))<|Ar 5 O ?_;apply Tt 4 10 14 [11,12,13] O Xt
 .intro hb7;exact Ar 4 O<|Tm Xs O O O
 .intro hb7;exact Y2 O<|Rg O (aa call105 j O)<|A1 O<|Tm Xs O O O
 exact Y2 O<|VF O<|ah PV.bool t
structure V10(m:MC):Prop where
 f:MF1 m
 sa:Mm.Asc bZ m.s
 pa:Mm.Asc cI m.p
 sz:∀e∈m.s,e.2≠0
 pz:∀e∈m.p,e.2≠0
 po:∀e∈m.p,lF e.1.2 e.1.1=VC
 sn:∀e∈m.s,NmOk e.1
 pn:∀e∈m.p,NmOk e.1.1/\NmOk e.1.2
theorem F1.val(h:F1 q):FnP prog 117 [.str (bo q)] (· = .bool VA):=by
 have j:=(jk q h).sz;have:=HE (bo q) (by have:=qW (bo q) (qq q h.fits);omega);rwa [qq q h.fits]at this
theorem DP:bo ((0:Int):Rat)=⟨#[48]⟩:=by decide+kernel
theorem Fm(h:F1 q)(z:q≠0):((bo q).toList==(⟨#[48]⟩:ByteArray).toList)=VC:=by
 cases e:((bo q).toList==(⟨#[48]⟩:ByteArray).toList)with
 |false=>rfl
 | true=>
   have s:bo q=bo ((0:Int):Rat):=(bytes_inj (eq_of_beq e)).trans DP.symm;have j:=jk q h;have t:=jk ((0:Int):Rat) ⟨by decide+kernel,by decide+kernel⟩;rw[s]at j;have:q.num=0:=j.n.2.symm.trans t.n.2;exact absurd (Rat.num_eq_zero.1 this) z
theorem ka(m:MC)(h:V10 m):FnP prog 53 [lR m] (· = .bool VA):=by
 refine FnP.of func53 O ntmps53 Xn λ_ _ _ _=>?_
 have af:=h.f.c.val;have hls:=h.f.ls;have hlp:=h.f.lp;refine Z2 O<|Z2 O<|Rs O (aa call117 af O)<|A1 O<|Gc O (λM=>absurd M Xl) (λM=>?_);refine Ti<|Z4 O<|Gz O (st:=λXr:Nat=>([(1,UG),(12,UG),(13,UG),(14,UF (pIi Xr))],[(0,UG)])) 1
  (I:=λXr=>Xr<=m.s.length) (μ:=λXr=>m.s.length-Xr) (x0:=0) (Tk (aS O) (aO Xk) O O) (aJ _) ?_
 rintro i hi;refine Z1 O<|Gp O (λac=>?_) (λac=>?_)
 .have hlt:i<m.s.length:=Xj;have G:=s5 hlt;have H:=DS hlt;have t:=aq hlt;have U:=(h.f.s _ t).val;have hn:=oF m.s[i].1 (h.sn _ t);have V:=Fm (h.f.s _ t) (h.sz _ t);refine Ti<|Z1 O<|Rs O (ag i underlying42 nD O O O hlt H)<|Rs O (aG ⟨_,underlying148,O⟩ nD O G O)<|Y3 O ?_;by_cases hp:0<i
  .have hj:i-1<m.s.length:=Xj;have B:((bG (tmL m.s)).drop ((i-1)*3)).take 2=[.int .i64 m.s[i-1].1.f,.str m.s[i-1].1.c]:=by have:=ah (List.take 2) (s5 hj);rw[W5]at this;exact this
   have D:=iT m.s[i-1].1 m.s[i].1;rw[show lF m.s[i-1].1 m.s[i].1=VA from TD (Uj.1 h.sa (i-1) i hj hlt Xj)]at D;refine UB 32 O<|Dr 2 O<|TR O (λτ h=>aa call118 hn (h.aD O))<|Dr 4 O<|Dg [] O (λτ h=>aa call117 U (h.aD O)) O Xk<|Dr 5 O<|Dg [] O (λτ h=>jE (Ee h 0 O O) (Ee h 1 O O) O V) O Xk<|Dr 3 O<|Dg [] O (λτ h=>cU (Ee h 0 O O) (Ee h 1 O O) O (TD (show((i:Nat):Int)>0 by omega))) O Xk ?_;refine Dr 5 O<|Dg [] O (λτ h=>ag (i-1) underlying42 nD (Ee h 0 O O) (Ee h 1 O O) Xj hj H) O Xk<|D1 O<|Dg [] O (λτ h=>aG ⟨_,underlying146,O⟩ kN (Ee h 0 O O) B O) O Xk<|Dr 2 O<|Dg [] O (λτ h=>aa call115 D (h.aD O)) O Xk<|Dr 3 O ?_;refine⟨Xk,?_⟩;refine Gc O (λA=>absurd A Xl) (λA=>?_);exact Ti<|Z2 O<|⟨(i+1),Tk (aS O) (aO Xk) O O,hlt,Xj⟩
  refine UB 32 O<|Dr 2 O<|TR O (λτ h=>aa call118 hn (h.aD O))<|Dr 4 O<|Dg [] O (λτ h=>aa call117 U (h.aD O)) O Xk<|Dr 5 O<|Dg [] O (λτ h=>jE (Ee h 0 O O) (Ee h 1 O O) O V) O Xk<|Dr 3 O<|Dg [] O (λτ h=>fI (Ee h 0 O O) (Ee h 1 O O) O (TL (show ¬ ((i:Nat):Int)>0 by omega))) O Xk ?_;refine Dr 14 O ?_;refine⟨Xk,?_⟩;refine Gc O (λA=>absurd A Xl) (λA=>?_);exact Ti<|Z2 O<|⟨(i+1),Tk (aS O) (aO Xk) O O,hlt,Xj⟩
 refine Gx O<|Z4 O ?_;refine Gz O (st:=λJ:Nat=>([(1,UG),(53,UG),(54,UG),(55,UF (pIi J))],[(0,UG)])) 1
  (I:=λJ=>J<=m.p.length) (μ:=λJ=>m.p.length-J) (x0:=0) (Tk (aS O) (aO Xk) O O) (aJ _) ?_
 rintro j hj;refine Z1 O<|Gp O (λad=>?_) (λad=>?_)
 .have hlt:j<m.p.length:=Xj;have G:=s7 hlt;have H:=Eu hlt;have t:=aq hlt;have U:=(h.f.p _ t).val;have Y:=oF m.p[j].1.1 (h.pn _ t).1;have Z:=oF m.p[j].1.2 (h.pn _ t).2;have D:=iT m.p[j].1.2 m.p[j].1.1;rw[h.po _ t]at D;have V:=Fm (h.f.p _ t) (h.pz _ t);refine Ti<|Z1 O<|Rs O (ag j underlying43 lu O O O hlt H)<|Rs O (aG ⟨_,underlying150,O⟩ lu O G O)<|Y3 O ?_;by_cases hp:0<j
  .have hj2:j-1<m.p.length:=Xj;have B:=s7 hj2;have ab:=rj ⟨m.p[j-1].1.1,m.p[j-1].1.2,bo m.p[j-1].2⟩ ⟨m.p[j].1.1,m.p[j].1.2,bo m.p[j].2⟩;rw[show decide (cI ((⟨m.p[j-1].1.1,m.p[j-1].1.2,bo m.p[j-1].2⟩:Prr).a,(⟨m.p[j-1].1.1,m.p[j-1].1.2,bo m.p[j-1].2⟩:Prr).b) ((⟨m.p[j].1.1,m.p[j].1.2,bo m.p[j].2⟩:Prr).a,(⟨m.p[j].1.1,m.p[j].1.2,bo m.p[j].2⟩:Prr).b)<0)=VA from TD (Uj.1 h.pa (j-1) j hj2 hlt Xj)]at ab;refine UB 43 O<|Dr 2 O<|TR O (λτ h=>aa call118 Y (h.aD O))<|Dr 4 O<|Dg [] O (λτ h=>aa call118 Z (h.aD O)) O Xk<|Dr 7 O<|Dg [] O (λτ h=>aa call115 D (h.aD O)) O Xk<|Dr 4 O<|Dg [] O (λτ h=>aa call117 U (h.aD O)) O Xk<|Dr 5 O<|Dg [] O (λτ h=>jE (Ee h 0 O O) (Ee h 1 O O) O V) O Xk<|Dr 3 O<|Dg [] O (λτ h=>cU (Ee h 0 O O) (Ee h 1 O O) O (TD (show((j:Nat):Int)>0 by omega))) O Xk ?_;refine Dr 5 O<|Dg [] O (λτ h=>ag (j-1) underlying43 lu (Ee h 0 O O) (Ee h 1 O O) Xj hj2 H) O Xk<|Dg [] O (λτ h=>aG ⟨_,underlying150,O⟩ lu (Ee h 0 O O) B O) O Xk<|D1 O<|Dg [] O (λτ h=>aa call116 ab (h.aD O)) O Xk<|Dr 3 O ?_;refine⟨Xk,?_⟩;refine Gc O (λz=>absurd z Xl) (λz=>?_);exact Ti<|Z2 O<|⟨(j+1),Tk (aS O) (aO Xk) O O,hlt,Xj⟩
  refine UB 43 O<|Dr 2 O<|TR O (λτ h=>aa call118 Y (h.aD O))<|Dr 4 O<|Dg [] O (λτ h=>aa call118 Z (h.aD O)) O Xk<|Dr 7 O<|Dg [] O (λτ h=>aa call115 D (h.aD O)) O Xk<|Dr 4 O<|Dg [] O (λτ h=>aa call117 U (h.aD O)) O Xk<|Dr 5 O<|Dg [] O (λτ h=>jE (Ee h 0 O O) (Ee h 1 O O) O V) O Xk<|Dr 3 O<|Dg [] O (λτ h=>fI (Ee h 0 O O) (Ee h 1 O O) O (TL (show ¬ ((j:Nat):Int)>0 by omega))) O Xk ?_;refine Dr 12 O ?_;refine⟨Xk,?_⟩;refine Gc O (λz=>absurd z Xl) (λz=>?_);exact Ti<|Z2 O<|⟨(j+1),Tk (aS O) (aO Xk) O O,hlt,Xj⟩
 exact Gx O<|Z1 O<|VF O O
theorem oc(p:Par):lq p p=VA:=by unfold lq;rw[Uw,Uw];rfl
theorem Ip(m:MC)(Y:m.s.length<=1000000)(Z:m.p.length<=1000000):FnP prog 19 [lR m,lR m] (· = .bool VA):=by
 refine FnP.of func19 O ntmps19 Xn λ_ _ _ _=>?_
 have U:(!((bo m.c).toList==(bo m.c).toList))=VC:=by rw[Uw];rfl
 refine Z3 O<|Z4 O<|Rs O (jE O O O U)<|Ar 7 O<|Rg O (fI O O O (bne_self_eq_false _))<|Ar 8 O<|Rg O (fI O O O (bne_self_eq_false _))<|A1 O<|Gc O (λB=>absurd B Xl) (λB=>?_);refine Ti<|Z4 O<|Gz O (st:=λXr:Nat=>([(2,UG),(3,UG),(32,UG),(33,UF (pIi Xr))],[(0,UG),(1,UG)])) 2
  (I:=λXr=>Xr<=m.s.length) (μ:=λXr=>m.s.length-Xr) (x0:=0) (Tk (aS O) (aO Xk) O O) (aJ _) ?_
 rintro i hi;refine Z1 O<|Gp O (λH=>?_) (λH=>?_)
 .have hlt:i<m.s.length:=Xj;have t:=s5 hlt;have z:=DS hlt;have M:(!D4 ⟨m.s[i].1,bo m.s[i].2⟩ ⟨m.s[i].1,bo m.s[i].2⟩)=VC:=by unfold D4;rw[oc,Uw];rfl
  refine Ti<|Z2 O<|UB 11 O<|Dr 3 O<|TR O (λτ h=>ag i underlying42 nD (Ee h 0 O O) (Ee h 1 O O) O hlt z)<|TR O (λτ h=>aG ⟨_,underlying148,O⟩ nD (Ee h 0 O O) t O)<|Dr 3 O<|TR O (λτ h=>ag i underlying42 nD (Ee h 0 O O) (Ee h 1 O O) O hlt z)<|TR O (λτ h=>aG ⟨_,underlying148,O⟩ nD (Ee h 0 O O) t O)<|TR O (λτ h=>XJ.cast (v':= .pv (.bool VC)) (KD (p:=⟨m.s[i].1,bo m.s[i].2⟩) (q:=⟨m.s[i].1,bo m.s[i].2⟩) O (Ee h 0 O O) (Ee h 1 O O)) (ah (λb=>V.pv (.bool b)) M)) ?_;refine⟨Xk,?_⟩;refine Gc O (λD=>absurd D Xl) (λD=>?_);exact Ti<|Z2 O<|⟨(i+1),Tk (aS O) (aO Xk) O O,hlt,Xj⟩
 refine Gx O<|Z4 O ?_;refine Gz O (st:=λA:Nat=>([(2,UG),(3,UG),(50,UG),(51,UF (pIi A))],[(0,UG),(1,UG)])) 2
  (I:=λA=>A<=m.p.length) (μ:=λA=>m.p.length-A) (x0:=0) (Tk (aS O) (aO Xk) O O) (aJ _) ?_
 rintro j hj;refine Z1 O<|Gp O (λJ=>?_) (λJ=>?_)
 .have hlt:j<m.p.length:=Xj;have t:=s7 hlt;have z:=Eu hlt;have M:(!DH ⟨m.p[j].1.1,m.p[j].1.2,bo m.p[j].2⟩ ⟨m.p[j].1.1,m.p[j].1.2,bo m.p[j].2⟩)=VC:=by unfold DH;rw[oc,oc,Uw];rfl
  refine Ti<|Z2 O<|UB 11 O<|Dr 3 O<|TR O (λτ h=>ag j underlying43 lu (Ee h 0 O O) (Ee h 1 O O) O hlt z)<|TR O (λτ h=>aG ⟨_,underlying150,O⟩ lu (Ee h 0 O O) t O)<|Dr 3 O<|TR O (λτ h=>ag j underlying43 lu (Ee h 0 O O) (Ee h 1 O O) O hlt z)<|TR O (λτ h=>aG ⟨_,underlying150,O⟩ lu (Ee h 0 O O) t O)<|TR O (λτ h=>XJ.cast (v':= .pv (.bool VC)) (Kr (p:=⟨m.p[j].1.1,m.p[j].1.2,bo m.p[j].2⟩) (q:=⟨m.p[j].1.1,m.p[j].1.2,bo m.p[j].2⟩) O (Ee h 0 O O) (Ee h 1 O O)) (ah (λb=>V.pv (.bool b)) M)) ?_;refine⟨Xk,?_⟩;refine Gc O (λG=>absurd G Xl) (λG=>?_);exact Ti<|Z2 O<|⟨(j+1),Tk (aS O) (aO Xk) O O,hlt,Xj⟩
 exact Gx O<|Z1 O<|VF O O
end
section
abbrev rnd(l:Nat):Fence:=Fence.wide.inRound l
theorem J2{args:Array Value}{R:Ending->World->Prop}(h:Calls P f args w R):CallsIn (rnd l) k P f args w R:=
 (callsIn_wide.2 h).inRound l
theorem Kn{row:String}{args:Array Value}{R:Value->World->Prop}(h:Rows P row args w R):RowsIn (rnd l) k P row args w R:=by
 intro c cs _;obtain⟨v,w',r,s⟩:=h c cs;exact⟨v,w',r,stepsIn_wide.2 s⟩
theorem Bo{o:Oper}{K:Act->World->Prop}{Q:Exit->Act->World->Prop}(s:∀c,o.op≠ .defer c)(h:o.wp P a w K Q):o.wpIn (rnd l) k P a w K Q:=by
 refine⟨λ_ _=>trivial,?_⟩;have e:o.semAt (rnd l).round a.eval=execOp a.eval o:=by
  unfold Oper.semAt;split
  .rename_i hc;exact absurd hc (s _)
  .rfl
 rw[e];unfold Oper.wp Oper.upon at h;unfold Oper.uponIn;cases hr:(execOp a.eval o).run P w with
 | ok x w1=>
   rw[hr]at h;cases x<;>first|exact h|exact⟨λj=>absurd (show VC=VA from j) Xl,J2 h⟩|exact⟨λj=>absurd (show VC=VA from j) Xl,Kn h⟩|exact h.elim
 | halt x w1=>
   rw[hr]at h;cases x<;>first|exact h|exact h.elim
structure AWR(C:Ctx)(n:Nat)(c:Code)(Q:Exit->St->Prop)(σ:St):Prop where
 go:∀l a w,SJ C n σ a w->c.wpIn (rnd l) 0 C.P (λex a' w'=>∃σ',Q ex σ'/\SJ C n σ' a' w') a w
section
variable {C:Ctx}{n:Nat}{Q:Exit->St->Prop}{σ τ:St}
theorem AWR.skip(h:Q .normal σ):AWR C n .skip Q σ:=⟨λ_ _ _ hs=>wpIn_skip ⟨σ,h,hs⟩⟩
theorem AWR.seq(h:AWR C n x (Db (AWR C n y Q) Q) σ):AWR C n (.seq x y) Q σ:=by
 refine⟨λl a w hs=>?_⟩;refine wpIn_seq (wpIn_mono (h.go l a w hs) ?_);rintro e a' w' ⟨s,q,r⟩;cases e<;>first|exact AWR.go q l a' w' r|exact⟨s,q,r⟩
theorem AWR.block{c:Code}(h:AWR C n c (ya id Q) σ):AWR C n (.block id c) Q σ:=by
 refine⟨λl a w hs=>?_⟩;refine wpIn_block (wpIn_mono (h.go l a w hs) ?_);rintro e a' w' ⟨s,q,r⟩;cases e with
 | exit id'=>
   simp only[ya]at q;simp only[Exit.inBlock];split
   .grind
   grind
 |_=>exact⟨s,q,r⟩
theorem AWR.cond{c:Operand}{b:Bool}(hc:σ.ev n c= .pv (.bool b))(s:b=VA->AWR C n x Q σ)(t:b=VC->AWR C n y Q σ):AWR C n (.cond c x y) Q σ:=by
 refine⟨λl a w hs=>?_⟩;obtain⟨m,R,hw⟩:=hs;have j:=hw.ev c;rw[hc]at j;simp only[Rel,RelP]at j;exact wpIn_cond_split j (λe=>(s e).go l a w ⟨m,R,hw⟩) (λe=>(t e).go l a w ⟨m,R,hw⟩)
variable {ops:Array Oper}
theorem RL.RI(A:∀o∈ops.toList,∀c,o.op≠ .defer c)(l:Nat)(K:St->Prop):∀(os:List Oper)(k:Nat)(σ:St),ops.toList.drop k=os->RL C n ops os K σ->∀a w,SJ C n σ a w->∀Q:Exit->Act->World->Prop,
  (∀a w,(∃s,K s/\SJ C n s a w)->Q .normal a w)->wpOpsIn (rnd l) 0 C.P ops Q (List.range' k (ops.size-k)) a w:=by
 intro os;induction os with
 | nil=>
   intro k σ hd h a w hs Q hQ;have:ops.size-k=0:=by simp_all
   rw[this];simp only[List.range'_zero,wpOpsIn];exact hQ a w ⟨σ,h,hs⟩
 | cons o os ih=>
   intro k σ hd h a w hs Q hQ;have B:k<ops.size:=by
    have:=ah List.length hd;simp at this;omega
   have D:ops[k]? =UF o:=by
    have:=ah (·[0]?) hd;simpa using this
   have z:o∈ops.toList:=by grind
   have G:ops.toList.drop (k+1)=os:=by
    have:=ah (List.drop 1) hd;simpa[Wi]using this
   have e:ops.size-k=(ops.size-(k+1))+1:=Xj;rw[e,List.range'_succ];have t:∀a' w',(∃s,RL C n ops os K s/\SJ C n s a' w')->wpOpsIn (rnd l) 0 C.P ops Q (List.range' (k+1) (ops.size-(k+1))) a' w':=by grind
   simp only[wpOpsIn,D];simp only[RL]at h;cases hg:o.guard with
   | none=>
     rw[hg]at h;simp only[Region.wanted,hg,WH];exact Bo (A o z) (Oper.wp_mono t (h a w Q hs))
   | some jw=>
     obtain⟨j,want⟩:=jw;rw[hg]at h;obtain⟨b,hb,h1,h2⟩:=h;have H:=hb a w hs;simp only[Region.wanted,hg,H];by_cases hbw:b=UF want
     .subst hbw;simp only[Uw,WH];exact Bo (A o z) (Oper.wp_mono t (h1 O a w Q hs))
     have:(b==UF want)=VC:=by simpa using hbw
     simp only[this,UO,WZ];exact⟨λ_ _=>trivial,t _ _ (h2 hbw a w hs)⟩
def noDef(ops:Array Oper):Bool:=ops.toList.all λo=>match o.op with| .defer _=>VC|_=>VA
theorem AWR.region(s:noDef ops=VA)(h:RL C n ops ops.toList (Q .normal) σ):AWR C n (.region id ops VC) Q σ:=by
 refine⟨λl a w hs=>?_⟩;refine wpIn_region ?_;have j:∀o∈ops.toList,∀c,o.op≠ .defer c:=λo ho c e=>by
  have:=OF.1 s o ho;rw[e]at this;cases this
 have:=RL.RI j l (Q .normal) ops.toList 0 σ Xn h a w hs (λex a' w'=>∃σ',Q ex σ'/\SJ C n σ' a' w') (λ_ _ x=>x);rw[List.range_eq_range'];simpa using this
end
end
section
def Ob.lJ:Ob->Bool
 | .cells .. | .mix .. | .gro .. =>VA
 |_=>VC
theorem lQ.lJ{av:Av}{N:Nat}{o:Ob}(h:lQ w m av R b N o)(hc:o.lJ=VA):∃arr ty fz,w.heap[b]? =UF (.cells arr ty fz):=by
 cases o with
 |cells ty cs=>obtain⟨arr,h1,_⟩:=h;exact⟨_,_,_,h1⟩
 |mix ty cs=>obtain⟨arr,h1,_⟩:=h;exact⟨_,_,_,h1⟩
 |gro ty cs=>obtain⟨arr,h1,_⟩:=h;exact⟨_,_,_,h1⟩
 |_=>cases hc
structure Btw(P:Program)(w0:World)(R0:Nat->Prop)(bs X:List Nat)(os:List (Nat×Ob))(k:Nat)(W:World):Prop where
 ex:∃(m:Gm)(rt:RT W (fp m)),HR ⟨P,m,W,fp m,rt⟩ m rt.p (aB os) (avK k) W/\(∀j b,bs[j]? =UF b->∃N,m (big+j)=UF (b,N))/\
  (∀id b N,m id=UF (b,N)->w0.heap.size<=b/\b∉X)/\(∀b,R0 b->rt.p b)/\(∀b,rt.p b->(R0 b\/w0.heap.size<=b)/\b∉X)
 bel:Below w0.heap.size w0 W
 xs:∀x∈X,x<W.heap.size/\w0.heap.size<=x
section
variable {P:Program}{w0:World}{R0:Nat->Prop}{bs X X':List Nat}{os os':List (Nat×Ob)}{k k':Nat}{W W':World}
theorem Btw.other(h:Btw P w0 R0 bs X os k W)(A:W.heap.size<=W'.heap.size)(B:∀q,q<W.heap.size->q∉X->W'.heap[q]? =W.heap[q]?)(z:Below w0.heap.size w0 W')
  (D:∀x∈X',x∈X\/(W.heap.size<=x/\x<W'.heap.size)):Btw P w0 R0 bs X' os k W':=by
 obtain⟨m,rt,hr,h1,h2,h3,h4⟩:=h.ex;have s:∀b,rt.p b->rt.p b/\W'.heap[b]? =W.heap[b]? :=λb hb'=>⟨hb',B b (rt.d b hb').1 (h4 b hb').2⟩
 have t:∀b,b<W.heap.size->b∉X->b∉X':=λb hlt hn hm=>by grind
 have j:=hr.own;refine⟨⟨m,⟨rt.p,rt.g.mono s,λb hb'=>⟨TM (rt.d b hb').1 A,(rt.d b hb').2⟩,[]⟩,?_,h1,λid b N e=>⟨(h2 id b N e).1,t b (j id b N e).1 (h2 id b N e).2⟩,h3,λb hb'=>⟨(h4 b hb').1,t b (rt.d b hb').1 (h4 b hb').2⟩⟩,z,λx hx=>?_⟩
 .exact ⟨hr.dom,hr.free,λid o b N h5 h6=>lQ.mono s (λ_ _ _ e=>e) (λ_ e=>e) (B b (j id b N h6).1 (h2 id b N h6).2) (hr.obj id o b N h5 h6),hr.inj,
   λid b N e=>⟨TM (j id b N e).1 A,(j id b N e).2.1,.inl ⟨id,N,e⟩⟩,λb hb'=>TM (hr.rsz b hb') A,λb hb'=> .inl hb',λb hb'=>hb',Fr.refl _ _,λ_ _ _ e=>e,hr.res⟩
 rcases D x hx with e|e
 .exact⟨TM (h.xs x e).1 A,(h.xs x e).2⟩
 exact⟨e.2,AS h.bel.size e.1⟩
theorem Btw.round{slots:List (Nat×V)}{Q:Exit->St->Prop}{G:Exit->List (Nat×Ob)->Nat->Prop}(hA:∀m0 w0 F R0,AWR ⟨P,m0,w0,F,R0⟩ n body Q (mkS slots os k))
  (hQ:∀ex τ,Q ex τ->∃os' k',τ.le (mkS [] os' k')/\(∀j,j<bs.length->cL (aB os' (big+j))=VA)/\G ex os' k')
  (h:Btw P w0 R0 bs X os k W) (a:Act) (Y:a.defers=[]) (Z:a.tmps.size=n)
  (aa:∀(m:Gm)(R:Nat->Prop),(∀j b,bs[j]? =UF b->∃N,m (big+j)=UF (b,N))->(∀b,R0 b->R b)->∀t,t<n->Rel W m (avK k) R (look slots t) (a.eval (.tmp t))):
  body.wpIn (rnd l) 0 P (λex _ W'=>(∃os' k',G ex os' k'/\Btw P w0 R0 bs X os' k' W')/\(∀x∈X,W'.heap[x]? =W.heap[x]?)/\W.heap.size<=W'.heap.size/\(∀b,R0 b->W'.heap[b]? =W.heap[b]?)/\
   ((∀i o,aB os i=UF o->o.lJ=VA)->∀(q:Nat)(o:Obj),W.heap[q]? =UF o->o.isWalk=VA->W'.heap[q]? =UF o)) a W:=by
 obtain⟨m,rt0,hr0,h1,h2,h3,h4⟩:=h.ex;obtain⟨rt,hp,hd0⟩:∃rt:RT W (fp m),rt.p=rt0.p/\rt.df=[]:=⟨⟨rt0.p,rt0.g,rt0.d,[]⟩,O,O⟩;have I:=hr0.dfs hp;rw[<-hp]at I h3 h4;refine wpIn_mono ((hA m W (fp m) rt).go l a W ⟨m,rt.p,I,Y.trans hd0.symm,Z,aa m rt.p h1 h3⟩) ?_;rintro ex a' W' ⟨τ,hq,hsj⟩;obtain⟨os',k',hle,hlive,hG⟩:=hQ ex τ hq;obtain⟨m',R',hw⟩:=hle _ _ _ _ hsj;have s:HR ⟨P,m,W,fp m,rt⟩ m' R' (aB os') (avK k') W':=hw.hr;have z:Fr (fp m) W W':=s.frame;have D:∀x∈X,¬fp m x:=λx A ⟨id,N,e⟩=>(h2 id x N e).2 A
 have J:∀x∈X,¬R' x:=λx A hR=>by
  rcases s.rfr x hR with e|e|e
  .exact(h4 x e).2 A
  .have:=(h.xs x A).1;exact absurd e (Nat.not_le.2 this)
  exact D x A e
 have H:Below w0.heap.size w0 W':=by
  have M:Below w0.heap.size W W':=⟨z.os,z.tape,z.output,z.size,λq hq'=>z.block q (TM hq' h.bel.size) fun⟨id,N,e⟩=>by have:=(h2 id q N e).1;omega⟩;exact h.bel.trans M
 have U:(∀i o,aB os i=UF o->o.lJ=VA)->∀(q:Nat)(o:Obj),W.heap[q]? =UF o->o.isWalk=VA->W'.heap[q]? =UF o:=by
  intro hc q o ho hiw;refine(z.block q (TH.1 ho).1 ?_).trans ho;rintro⟨id,N,e⟩;have B:=I.dom id;rw[e]at B;cases ho2:aB os id with
  |none=>rw[ho2]at B;cases B
  | some o2=>
    obtain⟨arr,ty,fz,h5⟩:=(I.obj id o2 q N ho2 e).lJ (hc id o2 ho2);rw[h5]at ho;cases ho;cases hiw
 refine⟨⟨os',k',hG,⟨⟨m',⟨R',s.gi,λb hb=>⟨s.rsz b hb,fun⟨id,N,e⟩=>(s.own id b N e).2.1 hb⟩,[]⟩,?_,?_,?_,λb hb=>s.r0 b (h3 b hb),?_⟩,H,λx A=>⟨TM (h.xs x A).1 z.size,(h.xs x A).2⟩⟩⟩,λx A=>z.block x (h.xs x A).1 (D x A),z.size,λb hb=>z.block b (rt.d b (h3 b hb)).1 (rt.d b (h3 b hb)).2,U⟩
 .exact⟨s.dom,s.free,s.obj,s.inj,λid b N e=>⟨(s.own id b N e).1,(s.own id b N e).2.1,.inl ⟨id,N,e⟩⟩,s.rsz,λb hb=> .inl hb,λb hb=>hb,Fr.refl _ _,λ_ _ _ e=>e,s.res⟩
 .intro j b hj;obtain⟨N,hN⟩:=h1 j b hj;have B:=s.dom (big+j);rw[hlive j (TE.1 hj).1]at B;obtain⟨y,hy⟩:=T7.1 B;have:=s.j4 (big+j) y (Vf _ _) hy;have e:m (big+j)=UF y:=this;rw[hN]at e;exact⟨N,by rw[hy,<-e]⟩
 .intro id b N e;rcases(s.own id b N e).2.2 with⟨id2,N2,e2⟩|e2
  .exact h2 id2 b N2 e2
  have e3:W.heap.size<=b:=e2;exact⟨AS h.bel.size e3,λA=>by have:=(h.xs b A).1;omega⟩
 .intro b hb;refine⟨?_,λA=>J b A hb⟩;rcases s.rfr b hb with e|e|⟨id,N,e⟩
  .exact(h4 b e).1
  .exact .inr (AS h.bel.size e)
  exact .inr (h2 id b N e).1
end
end
section
open Go.RowKit Go.MapKept
open Go.ChangeMaps (setBlock)
section
variable {F:Fence}{n:Nat}{P:Program}(w:World){ops:Array Oper}{rest:List Oper}{o:Oper}{a:Act}{Q:Exit->Act->World->Prop}
theorem jV(s:o.guard=UG)(m:Operand)(t:TypeId)(j:o.op=Op.range t m)(k e:TypeId)(z:P.underlying t=UF (.map k e))(b:Nat)(es:Array MapEntry)(clock:Nat)(A:a.eval m= .map (UF b))(B:w.heap[b]? =UF (.map es clock))
  (D:wpListIn F n P ops Q rest (a.put o.dst (.pointer (UF ⟨w.heap.size,0,UG⟩))) (w.alloc (.mapIter (UF b) clock #[] clock))):wpListIn F n P ops Q (o::rest) a w:=by
 refine wpListIn_plain s λK' hK'=>?_
 unfold Oper.wpIn;refine⟨by simp[Oper.about,j],?_⟩;rw[Oper.semAt_plain F _ _ (by rw[j];intro c hc';cases hc')];simp[execOp,j,A,run_range_map w t k e b es clock z B,Result.andThen];exact hK' _ _ D
theorem zJ(B:o.guard=UG)(it:Operand)(j:o.op=Op.next it VC)(r b clock:Nat)(seen:Array Nat)(es:Array MapEntry)(z:a.eval it= .pointer (UF ⟨r,0,UG⟩))(D:w.heap[r]? =UF (.mapIter (UF b) clock seen clock))(G:w.heap[b]? =UF (.map es clock))(A:dH es.toList clock)
  (s:(leftOf es seen).size=0->wpListIn F n P ops Q rest (a.put o.dst (.tuple #[.bool VC])) w)
  (t:∀e∈(leftOf es seen).toList,∀w1,(w1=w\/w1=w.drew)->wpListIn F n P ops Q rest (a.put o.dst (.tuple #[.bool VA,e.key,e.val])) (setBlock w1 r (.mapIter (UF b) clock (seen.push e.born) clock))):wpListIn F n P ops Q (o::rest) a w:=by
 refine wpListIn_plain B λK' hK'=>?_
 unfold Oper.wpIn;refine⟨by simp[Oper.about,j],?_⟩;rw[Oper.semAt_plain F _ _ (by rw[j];intro c hc';cases hc')];rcases Go.run_next_at (P:=P) w o.type r b clock clock seen es clock D G A.2 (AT _)with⟨h0,hrun⟩|⟨e,he,w1,hal,hrun⟩
 .simp[execOp,j,z,hrun,Result.andThen];exact hK' _ _ (s h0)
 simp[execOp,j,z,hrun,Result.andThen];exact hK' _ _ (t e he w1 hal)
theorem jM(z:o.guard=UG)(it:Operand)(j:o.op=Op.entry it)(r:Nat)(k v:Value)(t:a.eval it= .pointer (UF ⟨r,0,UG⟩))(s:(Instr.entry (.pointer (UF ⟨r,0,UG⟩))).run P w= .ok (.tuple #[k,v]) w)
  (A:wpListIn F n P ops Q rest (a.put o.dst (.tuple #[k,v])) w):wpListIn F n P ops Q (o::rest) a w:=by
 refine wpListIn_plain z λK' hK'=>?_
 unfold Oper.wpIn;refine⟨by simp[Oper.about,j],?_⟩;rw[Oper.semAt_plain F _ _ (by rw[j];intro c hc';cases hc')];simp[execOp,j,t,s,Result.andThen];exact hK' _ _ A
end
def ij(es:Array MapEntry)(seen:Array Nat):List Value:=(es.toList.filter λe=> !seen.contains e.born).map (·.key)
theorem rv(es:Array MapEntry):ij es #[]=es.toList.map (·.key):=by
 unfold ij;rw[List.filter_eq_self.2 λe _=>by simp]
theorem eh(es:Array MapEntry)(seen:Array Nat):(leftOf es seen).toList=es.toList.filter λe=> !seen.contains e.born:=by unfold leftOf;simp
theorem EY{l:List α}(h:i<l.length):l.Perm (l[i]::l.eraseIdx i):=by grind[TN,Ug,List.eraseIdx_eq_take_drop_succ,trans,W6]
theorem oD(s:dH es.toList clock)(t:e∈(leftOf es seen).toList):(ij es seen).Perm (e.key::ij es (seen.push e.born)):=by
 rw[eh]at t;obtain⟨i,hi⟩:=UX t;have j:((es.toList.filter λe=> !seen.contains e.born).map (·.born)).Nodup:=(UT.map _).nodup s.1;have z:(es.toList.filter λx=> !(seen.push e.born).contains x.born)=(es.toList.filter λe=> !seen.contains e.born).eraseIdx i:=by
  rw[<-k7 j hi,List.filter_filter];apply List.filter_congr;intro x _;rw[contains_push];cases seen.contains x.born<;>cases (x.born==e.born)<;>rfl
 unfold ij;rw[z];obtain⟨hlt,rfl⟩:=TE.1 hi;have:=(EY hlt).map (·.key);simpa using this
theorem oG(h:(leftOf es seen).size=0):ij es seen=[]:=by grind[Wv.1,Ua,eh,ij]
end
section
section
variable {P:Program}{w0:World}{R0 R1:Nat->Prop}{bs X:List Nat}{os:List (Nat×Ob)}{k:Nat}{W W':World}
theorem Btw.more(h:Btw P w0 R0 bs X os k W){W1:World}(s:Below W.heap.size W W1):Btw P w0 (λb=>R0 b\/(W.heap.size<=b/\b<W1.heap.size)) bs X os k W1:=by
 obtain⟨m,rt,hr,h1,h2,h3,h4⟩:=h.ex;have t:=h.bel.size;have B:∀b,b<W.heap.size->W1.heap[b]? =W.heap[b]? :=λb hlt=>s.block b hlt
 have z:∀b,rt.p b->(rt.p b\/(W.heap.size<=b/\b<W1.heap.size))/\W1.heap[b]? =W.heap[b]? :=λb hb'=>⟨.inl hb',B b (rt.d b hb').1⟩
 have j:=hr.own;refine⟨⟨m,⟨λb=>rt.p b\/(W.heap.size<=b/\b<W1.heap.size),rt.g.mono z,?_,[]⟩,?_,h1,h2,?_,?_⟩,h.bel.trans (s.mono t),λx A=>⟨TM (h.xs x A).1 s.size,(h.xs x A).2⟩⟩
 .rintro b (hb'|hb')
  .exact⟨TM (rt.d b hb').1 s.size,(rt.d b hb').2⟩
  exact⟨hb'.2,fun⟨id,N,e⟩=>by have:=(j id b N e).1;omega⟩
 .refine⟨hr.dom,hr.free,λid o b N h5 h6=>lQ.mono z (λ_ _ _ e=>e) (λ_ e=>e) (B b (j id b N h6).1) (hr.obj id o b N h5 h6),hr.inj,λid b N e=>⟨TM (j id b N e).1 s.size,?_,.inl ⟨id,N,e⟩⟩,?_,λb hb'=> .inl hb',λb hb'=>hb',Fr.refl _ _,λ_ _ _ e=>e,hr.res⟩
  .grind
  rintro b (hb'|hb')
  .exact TM (hr.rsz b hb') s.size
  exact hb'.2
 .grind
 rintro b (hb'|hb')
 .grind
 exact⟨.inr (AS t hb'.1),λA=>by have:=(h.xs b A).1;omega⟩
theorem Btw.less(h:Btw P w0 R1 bs X os k W)(j:∀b,R0 b->R1 b)(s:∀b,R1 b->R0 b\/w0.heap.size<=b):Btw P w0 R0 bs X os k W:=by
 obtain⟨m,rt,hr,h1,h2,h3,h4⟩:=h.ex;exact⟨⟨m,rt,hr,h1,h2,λb hb=>h3 b (j b hb),λb hb=>⟨(h4 b hb).1.elim (s b) .inr,(h4 b hb).2⟩⟩,h.bel,h.xs⟩
theorem btwS{x:Nat}(h:Btw P w0 R0 bs X os k W)(j:x∈X)(o:Obj):Btw P w0 R0 bs X os k (W.putObj x o):=
 h.other Xn (λq _ hn=>World.putObj_heap_other λe=>hn (e▸j)) (h.bel.grown ⟨O,O,O,Xn,λk _ hk=>World.putObj_heap_other λe=>hk (by rw[e])⟩ h.bel.size λk e=>by cases e;exact(h.xs x j).2) (λy hy=> .inl hy)
theorem Btw.rlt(h:Btw P w0 R0 bs X os k W)(j:R0 b):b<W.heap.size/\b∉X:=by
 obtain⟨m,rt,hr,h1,h2,h3,h4⟩:=h.ex;exact⟨(rt.d b (h3 b j)).1,(h4 b (h3 b j)).2⟩
end
def SQ{α:Type}(it:Bool)(P:Program)(gf:Nat)(lb:Array Value)(encs:α->Array Value)(Kp:World->World->Prop)(Pr:List α->α->Prop)(S:List α->Prop)(w:World):Prop:=
 ∀(l:Nat)(J:List α->World->Prop)(W:World),Below w.heap.size w W->
  (∀pre W1 W2 row,J pre W1->W1.grownBy W2 row->(∀q,row=UF q->it=VA/\q=W.heap.size)->J pre W2)->
  (∀pre x W1,J pre W1->Pr pre x->YieldAt Fence.wide 0 P l (encs x) W1 λe W'=>e= .returned (.bool VA)/\J (pre++[x]) W'/\Kp W1 W')->
  (∀o,J [] (bif it then W.alloc o else W))->
  CallsIn Fence.wide 1 P gf (#[.func (.yield l) #[] #[]]++lb) W λe W'=>(∃v,e= .returned v)/\∃xs,S xs/\J xs W'
theorem mU{nt:Nat}{g:Operand}{ps:Array Tmp}{assign:Code}{Q:Exit->Act->World->Prop}{w0 W0:World}{R0:Nat->Prop}{bs:List Nat}(it:Bool){gf:Nat}{lb:Array Value}{encs:α->Array Value}{Kp:World->World->Prop}
  {Pr:List α->α->Prop} {S:List α->Prop} (hg:a.eval g= .func (.func gf) #[] lb) (eg:∀args w,(callFunc gf args).run P w= .ok (.enter gf args) w) (hseq:SQ it P gf lb encs Kp Pr S W0) (hps:∀x,(encs x).size=ps.size)
  (hKp1:it=VA->∀A B,KeepsWalks A B->Kp A B) (hKp2:it=VC->∀A B:World,(∀b,R0 b->B.heap[b]? =A.heap[b]?)->Kp A B)
  (Inv:List α->List (Nat×Ob)->Nat->Prop) {os0:List (Nat×Ob)} {k0:Nat} (hi0:Inv [] os0 k0) (ab:Btw P w0 R0 bs [] os0 k0 W0) (ac:it=VA->∀pre os k,Inv pre os k->∀i o,aB os i=UF o->o.lJ=VA)
  (a1:α->World->Act) (nw:α->World->World) (hnw:∀x W,Below W.heap.size W (nw x W)) (ha1:∀x W,(a1 x W).defers=[]/\(a1 x W).tmps.size=nt)
  (M:∀(l:Nat)(x:α)(W:World)(K:Act->World->Prop),K (a1 x W) (nw x W)->assign.wpIn (rnd l) 0 P (Exit.then K (λ_ _ _=>False)) { tmps:=(ps.zip (encs x)).foldl (λt (p,v)=>t.setIfInBounds p v) a.tmps,defers:=[] } W)
  (hbody:∀pre x os k,Inv pre os k->Pr pre x->∃(slots:List (Nat×V))(Qb:Exit->St->Prop),(∀m0 w0 F R0,AWR ⟨P,m0,w0,F,R0⟩ nt body Qb (mkS slots os k))/\
   (∀ex τ,Qb ex τ->∃os' k',τ.le (mkS [] os' k')/\(∀j,j<bs.length->cL (aB os' (big+j))=VA)/\ex= .normal/\Inv (pre++[x]) os' k')/\
   (∀(W W2:World)(m:Gm)(R:Nat->Prop),(∀b,W.heap.size<=b->b<(nw x W).heap.size->R b/\W2.heap[b]? =(nw x W).heap[b]?)->(∀j b,bs[j]? =UF b->∃N,m (big+j)=UF (b,N))->(∀b,R0 b->R b)->∀t,t<nt->Rel W2 m (avK k) R (look slots t) ((a1 x W).eval (.tmp t))))
  (hdone:∀(D:Nat)(X:List Nat)(xs:List α)(os:List (Nat×Ob))(k:Nat)(W:World),w0.heap.size<=D->D<W.heap.size->D∈X->S xs->Inv xs os k->Btw P w0 R0 bs X os k W->W.heap[D]? =UF (.deferred (UF []))->Q .normal { a with defers:={ target:= .collected D,args:= #[] }::a.defers } W):
  (Code.rangeFunc g ps assign body).wpIn Fence.wide 2 P Q a W0:=by
 refine wpIn_rangeFunc ?_;intro fn hfn;have hge:=ab.bel.size;obtain⟨rec,hrec⟩:∃rec:LoopState->Option Code->Loop,rec=λst pe=>{ state:=st,pending:=pe,fn,tmps:=a.tmps,params:=ps,assign,body,defers:=W0.heap.size }:=⟨_,O⟩
 obtain⟨W1,hW1⟩:∃W1,(W0.alloc (.deferred (UF []))).alloc (.loop (rec .ready UG))=W1:=⟨_,O⟩;obtain⟨D,hD⟩:∃D,D=W0.heap.size:=⟨_,O⟩;have hL1:W1.heap[D+1]? =UF (.loop (rec .ready UG)):=by
  rw[<-hW1,hD];have:=World.alloc_heap_new (W0.alloc (.deferred (UF []))) (.loop (rec .ready UG));rwa [World.size_alloc]at this
 have hK1:W1.heap[D]? =UF (.deferred (UF [])):=by
  rw[<-hW1,hD];exact(Below.heap_alloc _ _ _ Xn).trans (World.alloc_heap_new W0 _)
 have hs1:W1.heap.size=D+2:=by rw[<-hW1];simp[hD]
 have H:Below W0.heap.size W0 W1:=by rw[<-hW1];exact((Below.refl _ W0).alloc (AT _) _).alloc Xn _
 have s:Btw P w0 R0 bs [D,D+1] os0 k0 W1:=by
  refine ab.other Xj (λq hq _=>H.block q hq) (ab.bel.trans (H.mono hge)) (λx hx=>?_);simp only[BY,UI,V9]at hx;omega
 obtain⟨X,hX⟩:∃X,X=bif it then [D,D+1,D+2]else [D,D+1]:=⟨_,O⟩;have hDX:D∈X:=by rw[hX];cases it<;>simp
 have I:D+1∈X:=by rw[hX];cases it<;>simp
 have hXm:∀x,x∈X->x=D\/x=D+1\/(it=VA/\x=D+2):=λx hx=>by grind
 refine⟨D+1,[{ target:= .collected D,args:= #[] }],W1,{ target:= .fn (.func gf) lb,args:= #[.func (.yield (D+1)) #[] #[]] },W1,gf,
  #[.func (.yield (D+1)) #[] #[]]++lb,W1,?_,?_,λ_ _=>trivial,?_,λ_=>by decide,?_⟩
 .rw[<-hW1,hrec,hD];exact run_enterLoop_outer _ _ _ _ _
 .simp only[resolve,hg];simp[go_sem]
 .simp[invoke,go_sem,eg]
 refine(hseq (D+1) (λpre W=>(∃os k,Inv pre os k/\Btw P w0 R0 bs X os k W)/\W.heap[D+1]? =UF (.loop (rec .ready UG))/\W.heap[D]? =UF (.deferred (UF []))) W1 H ?_ ?_ ?_).mono ?_
 .rintro pre Wa Wb row ⟨⟨os,k,hi,hb⟩,h1,h2⟩ hgr hrow;have U:∀q,q∉X->UF q≠row:=λq hq e=>by grind
  have z:=(TH.1 h1).1;have J:=(TH.1 h2).1;refine⟨⟨os,k,hi,hb.other hgr.size (λq hq Y=>hgr.block q hq (U q Y)) (hb.bel.grown hgr hb.bel.size λq e=>by have:=hrow q e;omega) λy hy=> .inl hy⟩,(hgr.block _ z λe=>?_).trans h1,(hgr.block _ J λe=>?_).trans h2⟩
  .have:=hrow _ e.symm;omega
  have:=hrow _ e.symm;omega
 .rintro pre x W ⟨⟨os,k,hi,hb⟩,h1,h2⟩ hpr;have z:D+1<W.heap.size:=(TH.1 h1).1;have J:D<W.heap.size:=(TH.1 h2).1;have hy:=run_yield (P:=P) (args:=encs x) h1 (by rw[hrec];first|exact hps x|exact(hps x).symm);rw[hrec]at hy;have Y:=hnw x W;have h1n:(nw x W).heap[D+1]? =UF (.loop (rec .ready UG)):=(Y.block _ z).trans h1;have h2n:(nw x W).heap[D]? =UF (.deferred (UF [])):=(Y.block _ J).trans h2;refine⟨fn,_,assign,body,hy,roundIn_of_wpIn hfn (M _ x W _ ⟨_,run_beginRound h1n (by rw[hrec]),?_⟩)⟩;have hbm:=hb.more Y;have hbb:=btwS hbm I (.loop { rec .ready UG with state:= .busy });obtain⟨slots,Qb,hA,hQ,hsl⟩:=hbody pre x os k hi hpr;have hlt':D+1<(nw x W).heap.size:=TM z Y.size;have Z:=hbb.round (n:=nt) (l:=D+1) (body:=body) (slots:=slots) (G:=λex os' k'=>ex= .normal/\Inv (pre++[x]) os' k') hA hQ (a1 x W) (ha1 x W).1 (ha1 x W).2
   (λm R hm hR t ht=>hsl W _ m R (λb hb1 hb2=>⟨hR b (.inr ⟨hb1,hb2⟩),World.putObj_heap_other Xj⟩) hm (λb hb'=>hR b (.inl hb')) t ht)
  refine wpIn_mono Z ?_;rintro ex a3 W3 ⟨⟨os',k',⟨rfl,hi'⟩,hb3⟩,hX3,hsz3,hRk,hwk⟩;have aa:W3.heap[D+1]? =UF (.loop { rec .ready UG with state:= .busy }):=(hX3 (D+1) I).trans (World.putObj_heap_same hlt');have hk3:W3.heap[D]? =UF (.deferred (UF [])):=(hX3 D hDX).trans ((World.putObj_heap_other Xj).trans h2n);have hlt3:D+1<W3.heap.size:=(TH.1 aa).1;have hb4:Btw P w0 R0 bs X os' k' W3:=hb3.less (λb hb'=> .inl hb') λb hb'=>hb'.imp id λh=>AS hb.bel.size h.1
  refine⟨_,_,run_endRound UG aa,O,⟨⟨os',k',hi',btwS hb4 I _⟩,?_,(World.putObj_heap_other Xj).trans hk3⟩,?_⟩
  .rw[World.putObj_heap_same hlt3,hrec];rfl
  cases hit:it with
  | true=>
    refine hKp1 hit _ _ ?_;have q1:KeepsWalks W (nw x W):=⟨Y.size,λq o ho _=>(Y.block q (TH.1 ho).1).trans ho⟩;have q2:KeepsWalks (nw x W) ((nw x W).putObj (D+1) (.loop { rec .ready UG with state:= .busy })):=KeepsWalks.putObj _ h1n O;have q3:KeepsWalks ((nw x W).putObj (D+1) (.loop { rec .ready UG with state:= .busy })) W3:=⟨hsz3,hwk (ac hit pre os k hi)⟩;exact((q1.trans q2).trans q3).trans (KeepsWalks.putObj _ aa O)
  | false=>
    refine hKp2 hit _ _ λb hb'=>?_
    obtain⟨g1,g2⟩:=hb.rlt hb';have U:b≠D+1:=λe=>g2 (e▸I)
    exact(World.putObj_heap_other U).trans ((hRk b (.inl hb')).trans ((World.putObj_heap_other U).trans (Y.block b g1)))
 .intro o;cases hit:it with
  | true=>
    simp only[U3];have ha:Below W1.heap.size W1 (W1.alloc o):=(Below.refl _ W1).alloc (AT _) o;refine⟨⟨os0,k0,hi0,?_⟩,(ha.block _ Xj).trans hL1,(ha.block _ Xj).trans hK1⟩;refine s.other ha.size (λq hq _=>ha.block q hq) (s.bel.trans (ha.mono s.bel.size)) λy hy=>?_
    rcases hXm y hy with rfl|rfl|⟨_,rfl⟩
    .exact .inl Xn
    .exact .inl Xn
    simp_all
  | false=>
    simp only[Ue];rw[hit]at hX;subst hX;exact⟨⟨os0,k0,hi0,s⟩,hL1,hK1⟩
 rintro e W2 ⟨⟨v,rfl⟩,xs,hS,⟨os,k,hi,hb⟩,h1,h2⟩;have z:=(TH.1 h2).1;refine⟨UG,_,by have:=run_endLoop (P:=P) h1 (by rw[hrec];simp);rw[hrec]at this;exact this,hdone D X xs os k _ Xj (by simpa using z) hDX hS hi (btwS hb I _) ((World.putObj_heap_other Xj).trans h2)⟩
end
section
open Go.RowKit Go.Shelf Mm
open Go.ChangeMaps (setBlock)
attribute [local go_sem] Oper.semAt_some
theorem FY(es:Array MapEntry)(seen:Array Nat):(leftOf es seen).size=(ij es seen).length:=by
 unfold ij;rw[TB,<-eh,Ua]
theorem oa{mb:Nat}{c1 c2:Nat}{x:Option Nat}(j:w.heap[mb]? =UF (.map es clock))(s:w.heap[r]? =UF (.mapIter x c1 seen c2)):w.rangeLeft mb r=(ij es seen).length:=by
 rw[<-FY];simp[World.rangeLeft,j,s]
def cT(p:Par):Value:= .agg #[.int .i64 p.f,.string p.c]
theorem oe{p q:Par}(h:cT p=cT q):p=q:=by
 obtain⟨a,s⟩:=p;obtain⟨b,t⟩:=q;simp only[cT,Value.agg.injEq,Array.mk.injEq,U8,Value.int.injEq,Value.string.injEq,and_true,true_and]at h;rw[h.1,h.2]
def fD(p:PP):Value:= .agg #[.int .i64 p.1.f,.string p.1.c,.int .i64 p.2.f,.string p.2.c]
theorem qe{p q:PP}(h:fD p=fD q):p=q:=by
 obtain⟨⟨a,s⟩,⟨a2,s2⟩⟩:=p;obtain⟨⟨b,t⟩,⟨b2,t2⟩⟩:=q;simp only[fD,Value.agg.injEq,Array.mk.injEq,U8,Value.int.injEq,Value.string.injEq,and_true,true_and]at h;obtain⟨h1,h2,h3,h4⟩:=h;rw[h1,h2,h3,h4]
theorem tC{p q:ByteArray}(h:Value.string p=Value.string q):p=q:=by cases h;rfl
theorem BG{enc:α->Value}{xs:List α}(j:es.toList.map (·.key)=xs.map enc)(s:e∈(leftOf es seen).toList):e∈es.toList/\∃x∈xs,enc x=e.key:=by grind[eh,UW.1,List.mem_map_of_mem,TG.1]
theorem gE{f:α->β}(A:∀a b,f a=f b->a=b):∀{l m:List α},(l.map f).Perm (m.map f)->l.Perm m:=by
 intro l;induction l with
 |nil=>intro m h;have:=h.length_eq;simp at this;rw[T6 this.symm]
 | cons a l ih=>
   intro m h;have j:f a∈m.map f:=h.subset Xn;obtain⟨b,hb,e⟩:=TG.1 j;obtain rfl:=A _ _ e;obtain⟨s,t,rfl⟩:=List.append_of_mem hb;have z:(l.map f).Perm ((s++t).map f):=by
    have:((s++b::t).map f).Perm (f b::(s++t).map f):=by simp only[Uc,cu];exact W6
    exact(h.trans this).cons_inv
   exact((ih z).cons b).trans W6.symm
theorem uU{enc:α->Value}{xs:List α}(s:es.toList.map (·.key)=xs.map enc)(seen:Array Nat):∃rest:List α,ij es seen=rest.map enc:=by
 have j:∀l:List Value,(∀v∈l,∃x,enc x=v)->∃rest:List α,l=rest.map enc:=by
  intro l;induction l with
  |nil=>intro _;exact⟨[],O⟩
  | cons v l ih=>
    intro h;obtain⟨x,hxe⟩:=h v Xn;obtain⟨r,hr⟩:=ih λu hu=>h u (by simp[hu])
    exact⟨x::r,by rw[cu,hxe,<-hr]⟩
 refine j _ λv hv=>?_
 unfold ij at hv;obtain⟨e,he,rfl⟩:=TG.1 hv;obtain⟨_,x,_,hxe⟩:=BG (seen:=seen) (e:=e) s (by rw[eh];exact he);exact⟨x,hxe⟩
theorem ue{F:Fence}(w:World){ops:Array Oper}{rest:List Oper}{o:Oper}{Q:Exit->Act->World->Prop}(J:o.guard=UG)(it:Operand)(A:o.op=Op.next it VC)(r b clock:Nat)(seen:Array Nat)(es:Array MapEntry)
  (B:a.eval it= .pointer (UF ⟨r,0,UG⟩)) (H:w.heap[r]? =UF (.mapIter (UF b) clock seen clock)) (I:w.heap[b]? =UF (.map es clock)) (D:r≠b) (G:dH es.toList clock)
  (s:(leftOf es seen).size=0->wpListIn F n P ops Q rest (a.put o.dst (.tuple #[.bool VC])) w)
  (t:∀e:MapEntry,e∈leftOf es seen->∀W2:World,W2.heap[r]? =UF (.mapIter (UF b) clock (seen.push e.born) clock)->W2.heap[b]? =UF (.map es clock)->w.grownBy W2 (UF r)->wpListIn F n P ops Q rest (a.put o.dst (.tuple #[.bool VA,e.key,e.val])) W2):wpListIn F n P ops Q (o::rest) a w:=by
 refine zJ w J it A r b clock seen es B H I G s λe he w1 hal=>?_
 have j:w1.heap=w.heap:=by rcases hal with rfl|rfl<;>rfl
 have z:r<w.heap.size:=(TH.1 H).1;refine t e (by simpa using he) _ ?_ ?_ ⟨by rcases hal with rfl|rfl<;>rfl,by rcases hal with rfl|rfl<;>rfl,by rcases hal with rfl|rfl<;>rfl,by simp[setBlock,j],λk _ hk=>?_⟩
 .simp only[setBlock];rw[Array.getElem?_setIfInBounds_self,By (by rw[j];exact z)]
 .simp only[setBlock];rw[U9 D,j];exact I
 simp only[setBlock];rw[U9 (λe=>hk (by rw[e])),j]
theorem Iy(Bm off mb:Nat)(es:Array MapEntry)(clock:Nat)(xs:List Par)(w:World)(z:dH es.toList clock)(hx:es.toList.map (·.key)=xs.map cT)(hBm:Bm<w.heap.size)
  (ab:w.cell? ⟨Bm,off,UG⟩=UF (.map (UF mb))) (D:w.heap[mb]? =UF (.map es clock)):
  SQ VA prog 148 #[.pointer (UF ⟨Bm,off,UG⟩)] (λx=> #[cT x]) KeepsWalks (λpre x=>∃rest,(pre++x::rest).Perm xs) (λs=>s.Perm xs) w:=by
 intro l J W hW hJ hY h0;have h0:∀o,J [] (W.alloc o):=h0;have hm:W.cell? ⟨Bm,off,UG⟩=UF (.map (UF mb)):=(hW.cell (p:=⟨Bm,off,UG⟩) hBm).trans ab;have hmb:mb<w.heap.size:=(TH.1 D).1;have hb:W.heap[mb]? =UF (.map es clock):=(hW.block mb hmb).trans D;have hne:mb≠W.heap.size:=by have:=hW.size;omega
 clear ab D;have hnd:=z.1;refine callsIn_of_wp func148 O trivial ?_ O;simp only[ntmps148,T4,IT,VI,Nat.reduceAdd,Nat.reduceSub,Wd,We,Wt,Wn,Uv,Uz]
 gi_wp2_with (first
  |(gi_at_range;refine jV _ O _ 110 O 146 109 underlying110 mb es clock O hb ?_)
  |gi_in)
 try go_frame
 gi_loopw [3] (λ_ wr=>∃(seen:Array Nat)(s:List Par),wr.heap[W.heap.size]? =UF (.mapIter (UF mb) clock seen clock)/\wr.heap[mb]? =UF (.map es clock)/\(s.map cT++ij es seen).Perm (xs.map cT)/\J s wr)
  (λ_ wr=>wr.rangeLeft mb W.heap.size)
 case atStart=>
  exact⟨#[],[],World.alloc_heap_new W _,(Below.heap_alloc W _ mb (by have:=hW.size;omega)).trans hb,by rw[rv,hx];exact T3 _,h0 _⟩
 case round=>
  obtain⟨seen,s,hit,hmp,hP,hJs⟩:=hrel
  gi_wp2_with (first
   |(gi_at_next;refine ue _ rfl _ rfl W.heap.size mb clock seen es rfl hit hmp (λe=>hne e.symm) z ?_ ?_)
   |gi_in)
  .intro h00
   gi_wp2
   go_end0
   rw[oG (by simp[h00]),Uh]at hP;exact⟨⟨_,O⟩,s,gE (λ_ _=>oe) hP,hJs⟩
  .intro e G W2 hit2 hmp2 hg2;have G:e∈(leftOf es seen).toList:=by simpa using G
   obtain⟨hem,x,hxm,hxe⟩:=BG hx G;have H:J s W2:=hJ s wr W2 (UF W.heap.size) hJs hg2 (λq e=>by cases e;exact⟨Xq,O⟩);have t:=oD z G;clear z;obtain⟨ek,ev,eb⟩:=e;obtain rfl:cT x=ek:=hxe;have I:(Instr.entry (.pointer (UF ⟨W.heap.size,0,UG⟩))).run prog W2= .ok (.tuple #[cT x,ev]) W2:=run_entry_at W2 W.heap.size mb clock seen es clock ⟨cT x,ev,eb⟩ hit2 hmp2 hem hnd;simp only at hit2;generalize hk0:cT x=kx at I ⊢;have hk1:kx= .agg #[.int .i64 x.f,.string x.c]:=hk0.symm;subst hk1;have M:=((t.append_left (s.map cT)).symm.trans hP);obtain⟨rest,hrest⟩:=uU (enc:=cT) hx (seen.push eb);have U:∃rest,(s++x::rest).Perm xs:=⟨rest,gE (λ_ _=>oe) (by rw[Uc,cu,<-hrest];exact M)⟩;obtain⟨W3,hW3⟩:∃W3,W2.alloc (.cells #[.int .i64 x.f,.string x.c] 146)=W3:=⟨_,O⟩;have j:Below W2.heap.size W2 W3:=by rw[<-hW3];exact(Below.refl _ W2).alloc (AT _) _
   have V:J s W3:=hJ s W2 W3 UG H ⟨j.os,j.tape,j.output,j.size,λk hk _=>j.block k hk⟩ (λq e=>by cases e);have Y:W3.heap[W.heap.size]? =UF (.mapIter (UF mb) clock (seen.push eb) clock):=(j.block _ (TH.1 hit2).1).trans hit2;have Z:W3.heap[mb]? =UF (.map es clock):=(j.block _ (TH.1 hmp2).1).trans hmp2;have hlt:=t.length_eq;have hl1:=oa hmp hit;have aa:(s++[x]).map cT++ij es (seen.push eb)=s.map cT++cT x::ij es (seen.push eb):=Xn;obtain⟨fn,tmps,assign,body,hy,hR⟩:=hY s x W3 V U;rw[hk0]at hy;clear hP t G hem hx hxm U hY hJ hg2 H h0 hW j V;subst hW3
   gi_wp2_with (first
    |(refine jM _ O _ O W.heap.size _ ev O I ?_)
    |gi_in)
   refine hR.mono ?_;rintro e W4 ⟨rfl,hJ4,hk4⟩
   gi_wp2
   have A:=hk4.same _ _ Y O;have B:=hk4.same _ _ Z O
   go_roundw
   case rel=>exact⟨_,_,A,B,by rw[aa];exact M,hJ4⟩
   case measure=>rw[oa B A,hl1,hlt];simp
theorem HV(Bm off mb:Nat)(es:Array MapEntry)(clock:Nat)(xs:List PP)(w:World)(z:dH es.toList clock)(hx:es.toList.map (·.key)=xs.map fD)(hBm:Bm<w.heap.size)
  (ab:w.cell? ⟨Bm,off,UG⟩=UF (.map (UF mb))) (D:w.heap[mb]? =UF (.map es clock)):
  SQ VA prog 153 #[.pointer (UF ⟨Bm,off,UG⟩)] (λx=> #[fD x]) KeepsWalks (λpre x=>∃rest,(pre++x::rest).Perm xs) (λs=>s.Perm xs) w:=by
 intro l J W hW hJ hY h0;have h0:∀o,J [] (W.alloc o):=h0;have hm:W.cell? ⟨Bm,off,UG⟩=UF (.map (UF mb)):=(hW.cell (p:=⟨Bm,off,UG⟩) hBm).trans ab;have hmb:mb<w.heap.size:=(TH.1 D).1;have hb:W.heap[mb]? =UF (.map es clock):=(hW.block mb hmb).trans D;have hne:mb≠W.heap.size:=by have:=hW.size;omega
 clear ab D;have hnd:=z.1;refine callsIn_of_wp func153 O trivial ?_ O;simp only[ntmps153,T4,IT,VI,Nat.reduceAdd,Nat.reduceSub,Wd,We,Wt,Wn,Uv,Uz]
 gi_wp2_with (first
  |(gi_at_range;refine jV _ O _ 111 O 198 109 underlying111 mb es clock O hb ?_)
  |gi_in)
 try go_frame
 gi_loopw [3] (λ_ wr=>∃(seen:Array Nat)(s:List PP),wr.heap[W.heap.size]? =UF (.mapIter (UF mb) clock seen clock)/\wr.heap[mb]? =UF (.map es clock)/\(s.map fD++ij es seen).Perm (xs.map fD)/\J s wr)
  (λ_ wr=>wr.rangeLeft mb W.heap.size)
 case atStart=>
  exact⟨#[],[],World.alloc_heap_new W _,(Below.heap_alloc W _ mb (by have:=hW.size;omega)).trans hb,by rw[rv,hx];exact T3 _,h0 _⟩
 case round=>
  obtain⟨seen,s,hit,hmp,hP,hJs⟩:=hrel
  gi_wp2_with (first
   |(gi_at_next;refine ue _ rfl _ rfl W.heap.size mb clock seen es rfl hit hmp (λe=>hne e.symm) z ?_ ?_)
   |gi_in)
  .intro h00
   gi_wp2
   go_end0
   rw[oG (by simp[h00]),Uh]at hP;exact⟨⟨_,O⟩,s,gE (λ_ _=>qe) hP,hJs⟩
  .intro e G W2 hit2 hmp2 hg2;have G:e∈(leftOf es seen).toList:=by simpa using G
   obtain⟨hem,x,hxm,hxe⟩:=BG hx G;have H:J s W2:=hJ s wr W2 (UF W.heap.size) hJs hg2 (λq e=>by cases e;exact⟨Xq,O⟩);have t:=oD z G;clear z;obtain⟨ek,ev,eb⟩:=e;obtain rfl:fD x=ek:=hxe;have I:(Instr.entry (.pointer (UF ⟨W.heap.size,0,UG⟩))).run prog W2= .ok (.tuple #[fD x,ev]) W2:=run_entry_at W2 W.heap.size mb clock seen es clock ⟨fD x,ev,eb⟩ hit2 hmp2 hem hnd;simp only at hit2;generalize hk0:fD x=kx at I ⊢;have hk1:kx= .agg #[.int .i64 x.1.f,.string x.1.c,.int .i64 x.2.f,.string x.2.c]:=hk0.symm;subst hk1;have M:=((t.append_left (s.map fD)).symm.trans hP);obtain⟨rest,hrest⟩:=uU (enc:=fD) hx (seen.push eb);have U:∃rest,(s++x::rest).Perm xs:=⟨rest,gE (λ_ _=>qe) (by rw[Uc,cu,<-hrest];exact M)⟩;obtain⟨W3,hW3⟩:∃W3,W2.alloc (.cells #[.int .i64 x.1.f,.string x.1.c,.int .i64 x.2.f,.string x.2.c] 198)=W3:=⟨_,O⟩;have j:Below W2.heap.size W2 W3:=by rw[<-hW3];exact(Below.refl _ W2).alloc (AT _) _
   have V:J s W3:=hJ s W2 W3 UG H ⟨j.os,j.tape,j.output,j.size,λk hk _=>j.block k hk⟩ (λq e=>by cases e);have Y:W3.heap[W.heap.size]? =UF (.mapIter (UF mb) clock (seen.push eb) clock):=(j.block _ (TH.1 hit2).1).trans hit2;have Z:W3.heap[mb]? =UF (.map es clock):=(j.block _ (TH.1 hmp2).1).trans hmp2;have hlt:=t.length_eq;have hl1:=oa hmp hit;have aa:(s++[x]).map fD++ij es (seen.push eb)=s.map fD++fD x::ij es (seen.push eb):=Xn;obtain⟨fn,tmps,assign,body,hy,hR⟩:=hY s x W3 V U;rw[hk0]at hy;clear hP t G hem hx hxm U hY hJ hg2 H h0 hW j V;subst hW3
   gi_wp2_with (first
    |(refine jM _ O _ O W.heap.size _ ev O I ?_)
    |gi_in)
   refine hR.mono ?_;rintro e W4 ⟨rfl,hJ4,hk4⟩
   gi_wp2
   have A:=hk4.same _ _ Y O;have B:=hk4.same _ _ Z O
   go_roundw
   case rel=>exact⟨_,_,A,B,by rw[aa];exact M,hJ4⟩
   case measure=>rw[oa B A,hl1,hlt];simp
theorem IY(Bm off mb:Nat)(es:Array MapEntry)(clock:Nat)(xs:List ByteArray)(w:World)(z:dH es.toList clock)(hx:es.toList.map (·.key)=xs.map Value.string)(hBm:Bm<w.heap.size)
  (ab:w.cell? ⟨Bm,off,UG⟩=UF (.map (UF mb))) (D:w.heap[mb]? =UF (.map es clock)):
  SQ VA prog 257 #[.pointer (UF ⟨Bm,off,UG⟩)] (λx=> #[Value.string x]) KeepsWalks (λpre x=>∃rest,(pre++x::rest).Perm xs) (λs=>s.Perm xs) w:=by
 intro l J W hW hJ hY h0;have h0:∀o,J [] (W.alloc o):=h0;have hm:W.cell? ⟨Bm,off,UG⟩=UF (.map (UF mb)):=(hW.cell (p:=⟨Bm,off,UG⟩) hBm).trans ab;have hmb:mb<w.heap.size:=(TH.1 D).1;have hb:W.heap[mb]? =UF (.map es clock):=(hW.block mb hmb).trans D;have hne:mb≠W.heap.size:=by have:=hW.size;omega
 clear ab D;have hnd:=z.1;refine callsIn_of_wp func257 O trivial ?_ O;simp only[ntmps257,T4,IT,VI,Nat.reduceAdd,Nat.reduceSub,Wd,We,Wt,Wn,Uv,Uz]
 gi_wp2_with (first
  |(gi_at_range;refine jV _ O _ 100 O 9 53 underlying100 mb es clock O hb ?_)
  |gi_in)
 try go_frame
 gi_loopw [3] (λ_ wr=>∃(seen:Array Nat)(s:List ByteArray),wr.heap[W.heap.size]? =UF (.mapIter (UF mb) clock seen clock)/\wr.heap[mb]? =UF (.map es clock)/\(s.map Value.string++ij es seen).Perm (xs.map Value.string)/\J s wr)
  (λ_ wr=>wr.rangeLeft mb W.heap.size)
 case atStart=>
  exact⟨#[],[],World.alloc_heap_new W _,(Below.heap_alloc W _ mb (by have:=hW.size;omega)).trans hb,by rw[rv,hx];exact T3 _,h0 _⟩
 case round=>
  obtain⟨seen,s,hit,hmp,hP,hJs⟩:=hrel
  gi_wp2_with (first
   |(gi_at_next;refine ue _ rfl _ rfl W.heap.size mb clock seen es rfl hit hmp (λe=>hne e.symm) z ?_ ?_)
   |gi_in)
  .intro h00
   gi_wp2
   go_end0
   rw[oG (by simp[h00]),Uh]at hP;exact⟨⟨_,O⟩,s,gE (λ_ _=>tC) hP,hJs⟩
  .intro e G W2 hit2 hmp2 hg2;have G:e∈(leftOf es seen).toList:=by simpa using G
   obtain⟨hem,x,hxm,hxe⟩:=BG hx G;have H:J s W2:=hJ s wr W2 (UF W.heap.size) hJs hg2 (λq e=>by cases e;exact⟨Xq,O⟩);have t:=oD z G;clear z;obtain⟨ek,ev,eb⟩:=e;obtain rfl:Value.string x=ek:=hxe;have I:(Instr.entry (.pointer (UF ⟨W.heap.size,0,UG⟩))).run prog W2= .ok (.tuple #[Value.string x,ev]) W2:=run_entry_at W2 W.heap.size mb clock seen es clock ⟨Value.string x,ev,eb⟩ hit2 hmp2 hem hnd;simp only at hit2;generalize hk0:Value.string x=kx at I ⊢;have hk1:kx= .string x:=hk0.symm;subst hk1;have M:=((t.append_left (s.map Value.string)).symm.trans hP);obtain⟨rest,hrest⟩:=uU (enc:=Value.string) hx (seen.push eb);have U:∃rest,(s++x::rest).Perm xs:=⟨rest,gE (λ_ _=>tC) (by rw[Uc,cu,<-hrest];exact M)⟩;obtain⟨W3,hW3⟩:∃W3,W2=W3:=⟨_,O⟩;have j:Below W2.heap.size W2 W3:=by rw[<-hW3];exact Below.refl _ W2
   have V:J s W3:=hJ s W2 W3 UG H ⟨j.os,j.tape,j.output,j.size,λk hk _=>j.block k hk⟩ (λq e=>by cases e);have Y:W3.heap[W.heap.size]? =UF (.mapIter (UF mb) clock (seen.push eb) clock):=(j.block _ (TH.1 hit2).1).trans hit2;have Z:W3.heap[mb]? =UF (.map es clock):=(j.block _ (TH.1 hmp2).1).trans hmp2;have hlt:=t.length_eq;have hl1:=oa hmp hit;have aa:(s++[x]).map Value.string++ij es (seen.push eb)=s.map Value.string++Value.string x::ij es (seen.push eb):=Xn;obtain⟨fn,tmps,assign,body,hy,hR⟩:=hY s x W3 V U;rw[hk0]at hy;clear hP t G hem hx hxm U hY hJ hg2 H h0 hW j V;subst hW3
   gi_wp2_with (first
    |(refine jM _ O _ O W.heap.size _ ev O I ?_)
    |gi_in)
   refine hR.mono ?_;rintro e W4 ⟨rfl,hJ4,hk4⟩
   gi_wp2
   have A:=hk4.same _ _ Y O;have B:=hk4.same _ _ Z O
   go_roundw
   case rel=>exact⟨_,_,A,B,by rw[aa];exact M,hJ4⟩
   case measure=>rw[oa B A,hl1,hlt];simp
end
section
abbrev apO(T E:TypeId)(sz n:Nat)(cs:List PV):List (Nat×Ob):=[(big,.mix T [.gsl 0 sz n]),(0,.gro E cs)]
theorem Bb(t:id≠big)(z:id≠0):aB (apO T E sz n cs) id=UG:=by
 have j:Nat.beq id big=VC:=by cases hb:Nat.beq id big;rfl;exact absurd (cd hb) t
 have s:Nat.beq id 0=VC:=by cases hb:Nat.beq id 0;rfl;exact absurd (cd hb) z
 simp only[aB,j,s,Ue]
theorem Jx(h:avK 1 id=VA):id≠big/\id≠0/\id<big:=by
 have j:Nat.ble 1 id=VA/\Nat.blt id big=VA:=by simpa[avK]using h
 have g1:=TV j.1;have g2:id<big:=TV j.2;exact⟨Xj,Xj,g2⟩
theorem yO(J:re w R)(A:∀b,R b->b<w.heap.size)(t:Below w.heap.size w W)(H:W.heap[b4]? =UF (.cells #[.slice UG 0 0] T (0,0)))(g4:w.heap.size<=b4):
  Btw P w R [b4] [] (apO T E sz 0 []) 1 W:=by
 have I:b4<W.heap.size:=(TH.1 H).1;obtain⟨m,hm⟩:∃m:Gm,m=λid=>if id=big then UF (b4,1)else UG:=⟨_,O⟩
 have m4:m big=UF (b4,1):=by rw[hm];simp
 have B:∀id,id≠big->m id=UG:=λid h=>by rw[hm];simp[h]
 have z:∀id b N,m id=UF (b,N)->id=big/\b=b4/\N=1:=λid b N e=>by
  by_cases h:id=big
  .subst h;rw[m4]at e;cases e;exact⟨O,O,O⟩
  rw[B id h]at e;cases e
 have D:∀b,R b->R b/\W.heap[b]? =w.heap[b]? :=λb h=>⟨h,t.block b (A b h)⟩
 have G:∀b,w.heap.size<=b->¬R b:=λb h hr=>by have:=A b hr;omega
 have s:∀id b N,m id=UF (b,N)->w.heap.size<=b/\b<W.heap.size:=λid b N e=>by
  obtain⟨_,rfl,_⟩:=z id b N e;exact⟨g4,I⟩
 refine⟨⟨m,⟨R,J.mono D,λb h=>⟨TM (A b h) t.size,fun⟨id,N,e⟩=>G b (s id b N e).1 h⟩,[]⟩,?_,?_,?_,λ_ h=>h,?_⟩,t,λx hx=>absurd hx Xn⟩
 .refine⟨λid=>?_,λid h=>?_,λid o b N ho e=>?_,λi j b N N' e1 e2=>?_,λid b N e=>⟨(s id b N e).2,G b (s id b N e).1,.inl ⟨id,N,e⟩⟩,λb h=>TM (A b h) t.size,λb h=> .inl h,λb h=>h,Fr.refl _ _,λ_ _ _ e=>e,λid h=>?_⟩
  .by_cases e1:id=big
   .subst e1;rw[m4];rfl
   rw[B id e1];by_cases e2:id=0
   .subst e2;rfl
   rw[Bb e1 e2];rfl
  .obtain⟨h1,h2,_⟩:=Jx h;exact Bb h1 h2
  .obtain⟨rfl,rfl,rfl⟩:=z id b N e;obtain rfl:o= .mix T [.gsl 0 sz 0]:=by
    have:aB (apO T E sz 0 []) big=UF (.mix T [.gsl 0 sz 0]):=rfl;rw[this]at ho;cases ho;rfl
   refine⟨_,H,O,AT 1,?_⟩;simp only[RelL,Rel];refine⟨_,_,O,⟨O,UG,0,O,AT _,Xl,λ_=>⟨O,O,B 0 Xl⟩,λh=>absurd h Xl⟩,O⟩
  .exact(z i b N e1).1.trans (z j b N' e2).1.symm
  show(Nat.ble 1 id&&Nat.blt id big)=VC;have:Nat.blt id big=VC:=by cases t:Nat.blt id big;rfl;have:=TV t;omega
  rw[this,Bool.and_false]
 .intro j b hj;match j with
  |0=>cases hj;exact⟨1,m4⟩
  |j+1=>simp at hj
 .exact λid b N e=>⟨(s id b N e).1,Xn⟩
 exact λb h=>⟨.inl h,Xn⟩
theorem yE{R:RT w (fp m)}{X:List Nat}(I:∀id,m id=UG)(h:Btw P w R.p [b4] X (apO T E sz n cs) 1 W):
  ∃u,W.cell? ⟨b4,0,UG⟩=UF u/\∀W':World,Below w.heap.size w W'->W.heap.size<=W'.heap.size->(∀q,q<W.heap.size->q∉X->W'.heap[q]? =W.heap[q]?)->
   ∃m' R',HR ⟨P,m,w,fp m,R⟩ m' R' (aB [(0,.gro E cs)]) (avK 1) W'/\Rel W' m' (avK 1) R' (.gsl 0 sz n) u:=by
 obtain⟨mB,rt,hr,h1,h2,h3,h4⟩:=h.ex;obtain⟨N4,hN4⟩:=h1 0 b4 O;obtain⟨arr,e1,e2,e3,e4⟩:=hr.obj big (.mix T [.gsl 0 sz n]) b4 N4 O hN4;simp only[RelL]at e4;obtain⟨u,_,ha,hu,rfl⟩:=e4;have G:W.cell? ⟨b4,0,UG⟩=UF u:=by
  have:arr[0]? =UF u:=by
   have:=ah (·[0]?) ha;simpa using this
  simp[World.cell?,e1,this]
 refine⟨u,G,λW' hb hs hq=>?_⟩;have z:∀b,rt.p b->rt.p b/\W'.heap[b]? =W.heap[b]? :=λb hb'=>⟨hb',hq b (rt.d b hb').1 (h4 b hb').2⟩
 have s:=hr.own;obtain⟨m',hm⟩:∃m':Gm,m'=λid=>if id=0 then mB 0 else UG:=⟨_,O⟩
 have m0:m' 0=mB 0:=by rw[hm];simp
 have D:∀id,id≠0->m' id=UG:=λid h=>by rw[hm];simp[h]
 have t:∀id x,m' id=UF x->mB id=UF x:=λid x e=>by
  by_cases h:id=0
  .subst h;rw[m0]at e;exact e
  rw[D id h]at e;cases e
 have A:aB [(0,Ob.gro E cs)] 0=UF (.gro E cs):=rfl;have B:∀id,id≠0->aB [(0,Ob.gro E cs)] id=UG:=λid h=>by
  have H:Nat.beq id 0=VC:=by cases hb:Nat.beq id 0;rfl;exact absurd (cd hb) h
  simp only[aB,H,Ue]
 refine⟨m',rt.p,⟨λid=>?_,λid h=>?_,λid o b N ho e=>?_,λi j b N N' a1 a2=>hr.inj i j b N N' (t _ _ a1) (t _ _ a2),λid b N e=>⟨TM (s id b N (t _ _ e)).1 hs,(s id b N (t _ _ e)).2.1,.inr (h2 id b N (t _ _ e)).1⟩,
  λb hb'=>TM (hr.rsz b hb') hs,λb hb'=>(h4 b hb').1.imp id .inl,h3,Fr.Qz hb _,λid x hid e=>?_,λid hid=>eA hid⟩,?_⟩
 .by_cases e:id=0
  .subst e;rw[m0,A];exact hr.dom 0
  rw[D id e,B id e];rfl
 .exact B id (Jx h).2.1
 .have e0:id=0:=by
   by_cases e':id=0
   .exact e'
   rw[D id e']at e;cases e
  subst e0;rw[A]at ho;cases ho;exact lQ.mono z (λid x _ e=>t id x e) (λ_ e=>e) (hq b (s 0 b N (t _ _ e)).1 (h2 0 b N (t _ _ e)).2) (hr.obj 0 _ b N O (t _ _ e))
 .rw[D id (by have:big=9000:=rfl;omega)]at e;cases e
 exact hu.mono z (λid x _ e=>t id x e) λ_ e=>e
theorem Qk{R:RT w (fp m)}{R':Nat->Prop}{av:Av}(h:HR ⟨P,m,w,fp m,R⟩ m R' (aB []) av w):∀id,m id=UG:=λid=>by
 have:=h.dom id;cases hm:m id with
 |none=>rfl
 |some x=>rw[hm]at this;cases this
theorem BQ{enc:α->Value}:∀{l:List Value},(∀v∈l,∃x,enc x=v)->∃rest:List α,l=rest.map enc
 |[],_=>⟨[],O⟩
 | v::l,h=>by
   obtain⟨x,hxe⟩:=h v Xn;obtain⟨r,hr⟩:=BQ (l:=l) λu hu=>h u (by simp[hu])
   exact⟨x::r,by rw[cu,hxe,<-hr]⟩
theorem PJ{enc:α->Value}{kp:α->PV}(t:∀(w:World)(R:Nat->Prop)(x:α)(u:Value),RelP w R (kp x) u->u=enc x){xs:List α}{vs:List PV}(h:RelP w R (.mp (xs.map kp) vs) u):
  ∃(mb:Nat)(es:Array MapEntry)(clock:Nat)(xs':List α),u= .map (UF mb)/\R mb/\w.heap[mb]? =UF (.map es clock)/\dH es.toList clock/\es.toList.map (·.key)=xs'.map enc/\(xs'.map enc).Perm (xs.map enc):=by
 simp only[RelP]at h;obtain⟨b,rfl,hb,es,clock,l,h1,h2,h3,h4,h5⟩:=h;have j:∀{ys:List α}{us:List Value},RelPL w R (ys.map kp) us->us=ys.map enc:=by
  intro ys;induction ys with
  |nil=>intro us h;simpa[RelPL]using h
  | cons y ys ih=>
    intro us h;simp only[cu,RelPL]at h;obtain⟨u,vs,rfl,h6,h7⟩:=h;rw[t _ _ _ _ h6,ih h7];rfl
 have e:=j h2;have s:(es.toList.map (·.key)).Perm (xs.map enc):=by rw[<-e];exact(h5.map _).symm
 obtain⟨xs',hx⟩:=BQ (enc:=enc) (l:=es.toList.map (·.key)) λv hv=>by
  obtain⟨x,_,hx⟩:=TG.1 (s.subset hv);exact⟨x,hx⟩
 exact⟨b,es,clock,xs',O,hb,h1,h4,hx,hx▸s⟩
end
section
open Go.RowKit Go.Shelf Mm
attribute [local go_sem] Oper.semAt_some
abbrev SN(x:ByteArray):List PV:=[.str x]
theorem Qv(w:World)(R:Nat->Prop)(x:Par)(u:Value)(h:RelP w R (aW x) u):u=cT x:=by
 simp only[RelP,RelPL]at h;obtain⟨us,rfl,u1,v1,rfl,rfl,u2,v2,rfl,rfl,rfl⟩:=h;rfl
theorem Qr(w:World)(R:Nat->Prop)(x:PP)(u:Value)(h:RelP w R (ppP x) u):u=fD x:=by
 simp only[RelP,RelPL]at h;obtain⟨us,rfl,u1,v1,rfl,rfl,u2,v2,rfl,rfl,u3,v3,rfl,rfl,u4,v4,rfl,rfl,rfl⟩:=h;rfl
theorem OV(w:World)(R:Nat->Prop)(x:ByteArray)(u:Value)(h:RelP w R (PV.str x) u):u=Value.string x:=by
 simpa only[RelP]using h
def vo(l:List Par):List PV:=l.flatMap rG
theorem B6(l:List Par):(vo l).length=l.length*2:=bM _ 2 (λ_=>rfl) l
theorem H3(l:List Par)(t:Par):vo l++rG t=vo (l++[t]):=by simp[vo]
noncomputable def apBodyP:Code:=match Tryz.f214.body with
 |some (.seq _ (.seq (.seq _ (.block _ (.rangeFunc _ _ _ b))) _))=>b
 |_=> .skip
theorem Jl(ss:List Par)(x:Par)(s:ss.length<=1000000):∀m0 w0 F R0,AWR ⟨prog,m0,w0,F,R0⟩ Tryz.f214.ntmps apBodyP (λex τ=>ex= .normal/\τ.le (mkS [] (apO 189 146 2 (ss++[x]).length (vo (ss++[x]))) 1)) (mkS [(2,.ptr big 0),(5,.pv (.rp (rG x) 0))] (apO 189 146 2 ss.length (vo ss)) 1):=by
 intro m0 w0 F R0;have j:=B6 ss
 repeat refine AWR.seq ?_
 refine AWR.block ?_
 repeat refine AWR.seq ?_
 exact AWR.region O<|Ar 5 O<|⟨O,To [2] trivial ⟨TX (b:=UF (.mix 189 [.gsl 2 2 (ss.length+1)])) Xk (ah (λn=>UF (Ob.mix 189 [.gsl 2 2 n])) Xn),TX (b:=UF (.gro 146 (vo ss++rG x))) Xk (ah (λc=>UF (Ob.gro 146 c)) (H3 ss _)),Xq⟩ O O Xl O⟩
def uE(l:List PP):List PV:=l.flatMap ppC
theorem B8(l:List PP):(uE l).length=l.length*4:=bM _ 4 (λ_=>rfl) l
theorem Ju(l:List PP)(t:PP):uE l++ppC t=uE (l++[t]):=by simp[uE]
noncomputable def apBodyQ:Code:=match Tryz.f217.body with
 |some (.seq _ (.seq (.seq _ (.block _ (.rangeFunc _ _ _ b))) _))=>b
 |_=> .skip
theorem Gg(ss:List PP)(x:PP)(s:ss.length<=1000000):∀m0 w0 F R0,AWR ⟨prog,m0,w0,F,R0⟩ Tryz.f217.ntmps apBodyQ (λex τ=>ex= .normal/\τ.le (mkS [] (apO 195 198 4 (ss++[x]).length (uE (ss++[x]))) 1)) (mkS [(2,.ptr big 0),(5,.pv (.rp (ppC x) 0))] (apO 195 198 4 ss.length (uE ss)) 1):=by
 intro m0 w0 F R0;have j:=B8 ss
 repeat refine AWR.seq ?_
 refine AWR.block ?_
 repeat refine AWR.seq ?_
 exact AWR.region O<|Ar 5 O<|⟨O,To [2] trivial ⟨TX (b:=UF (.mix 195 [.gsl 2 4 (ss.length+1)])) Xk (ah (λn=>UF (Ob.mix 195 [.gsl 2 4 n])) Xn),TX (b:=UF (.gro 198 (uE ss++ppC x))) Xk (ah (λc=>UF (Ob.gro 198 c)) (Ju ss _)),Xq⟩ O O Xl O⟩
def yw(l:List ByteArray):List PV:=l.flatMap SN
theorem Lp(l:List ByteArray):(yw l).length=l.length*1:=bM _ 1 (λ_=>rfl) l
theorem E6(l:List ByteArray)(t:ByteArray):yw l++SN t=yw (l++[t]):=by simp[yw]
noncomputable def apBodyS:Code:=match Tryz.f294.body with
 |some (.seq _ (.seq (.seq _ (.block _ (.rangeFunc _ _ _ b))) _))=>b
 |_=> .skip
theorem GB(ss:List ByteArray)(x:ByteArray)(s:ss.length<=1000000):∀m0 w0 F R0,AWR ⟨prog,m0,w0,F,R0⟩ Tryz.f294.ntmps apBodyS (λex τ=>ex= .normal/\τ.le (mkS [] (apO 53 9 1 (ss++[x]).length (yw (ss++[x]))) 1)) (mkS [(2,.ptr big 0),(5,.pv (.str x))] (apO 53 9 1 ss.length (yw ss)) 1):=by
 intro m0 w0 F R0;have j:=Lp ss
 repeat refine AWR.seq ?_
 refine AWR.block ?_
 repeat refine AWR.seq ?_
 exact AWR.region O<|Ar 5 O<|⟨O,To [2] trivial ⟨TX (b:=UF (.mix 53 [.gsl 2 1 (ss.length+1)])) Xk (ah (λn=>UF (Ob.mix 53 [.gsl 2 1 n])) Xn),TX (b:=UF (.gro 9 (yw ss++SN x))) Xk (ah (λc=>UF (Ob.gro 9 c)) (E6 ss _)),Xq⟩ O O Xl O⟩
theorem vn(i:Nat)(o:Ob)(h:aB (apO T E sz n cs) i=UF o):o.lJ=VA:=by
 have:=cm h;simp only[BY,UI,V9,Prod.mk.injEq]at this;rcases this with⟨_,rfl⟩|⟨_,rfl⟩<;>rfl
theorem EU{W2:World}{av:Av}{us:List Value}{ty:TypeId}{B:Nat}(s:RelPL W2 R cs us)(t:R B)(z:W2.heap[B]? =UF (.cells us.toArray ty (0,0))):Rel W2 m av R (.pv (.rp cs 0)) (.pointer (UF ⟨B,0,UG⟩)):=by
 simp only[Rel,RelP];exact⟨B,0,us,O,s,t,λj _=>by simp[World.cell?,z]⟩
theorem tT{v:V}(s:a.eval (.tmp 2)= .pointer (UF ⟨b,0,UG⟩))(z:Rel W m (avK 1) R v (a.eval (.tmp 5)))(A:∃N,m big=UF (b,N))(t:Nat):
  Rel W m (avK 1) R (look [(2,.ptr big 0),(5,v)] t) (a.eval (.tmp t)):=by
 by_cases e2:t=2
 .subst e2;rw[s];show Rel W m (avK 1) R (.ptr big 0) _;obtain⟨N,hN⟩:=A;simp only[Rel];exact⟨Xl,λb' N' e=>by rw[hN]at e;cases e;rfl⟩
 by_cases e5:t=5
 .subst e5;exact z
 have b2':Nat.beq t 2=VC:=by cases hb:Nat.beq t 2;rfl;exact absurd (cd hb) e2
 have j:Nat.beq t 5=VC:=by cases hb:Nat.beq t 5;rfl;exact absurd (cd hb) e5
 have e:look [(2,V.ptr big 0),(5,v)] t= .pv .any:=by simp only[look,b2',j,Ue]
 rw[e];simp only[Rel,RelP]
theorem nQ{o:Obj}(h:Below n w W)(j:n<=r):Below n w (W.putObj r o):=
 ⟨h.os,h.tape,h.output,by simpa using h.size,λk hk=>(World.putObj_heap_other Xj).trans (h.block k hk)⟩
theorem Qn{enc:α->Value}{kp:α->PV}(j:∀(w:World)(R:Nat->Prop)(x:α)(u:Value),RelP w R (kp x) u->u=enc x){xs:List α}{vs:List PV}(h:RelP w R (.fn (.func f) [] [.rp [.mp (xs.map kp) vs] 0]) u):
  ∃(b off mb:Nat)(es:Array MapEntry)(clock:Nat)(xs':List α),u= .func (.func f) #[] #[.pointer (UF ⟨b,off,UG⟩)]/\R b/\w.cell? ⟨b,off,UG⟩=UF (.map (UF mb))/\R mb/\w.heap[mb]? =UF (.map es clock)/\dH es.toList clock/\es.toList.map (·.key)=xs'.map enc/\(xs'.map enc).Perm (xs.map enc):=by
 rw[RelP]at h;obtain⟨us,vs',rfl,h1,h2⟩:=h;simp only[RelPL]at h1 h2;obtain⟨u3,us3,rfl,h3,rfl⟩:=h2;subst h1;rw[RelP]at h3;obtain⟨b,off,us4,rfl,h4,h5⟩:=h3;simp only[RelPL]at h4;obtain⟨um,us5,rfl,h6,rfl⟩:=h4;obtain⟨mb,es,clock,xs',rfl,g1,g2,g3,g4,g5⟩:=PJ j h6;refine⟨b,off,mb,es,clock,xs',O,h5.1,?_,g1,g2,g3,g4,g5⟩;have:=h5.2 0 Xn;simpa using this
theorem zK{enc:α->Value}{kp:α->PV}{fA fK:FuncId}{kcs:List α->List PV}(B:∀(w:World)(R:Nat->Prop)(x:α)(u:Value),RelP w R (kp x) u->u=enc x)(t:∀x y,enc x=enc y->x=y)
  (s:∀(b off mb:Nat)(es:Array MapEntry)(clock:Nat)(xs:List α)(w:World)(m:Gm)(R:RT w (fp m)),(∀id,m id=UG)->xs.length<=1000000->dH es.toList clock->es.toList.map (·.key)=xs.map enc->b<w.heap.size->w.cell? ⟨b,off,UG⟩=UF (.map (UF mb))->w.heap[mb]? =UF (.map es clock)->
   CallsIn Fence.wide 2 prog fA #[.slice UG 0 0,.func (.func fK) #[] #[.pointer (UF ⟨b,off,UG⟩)]] w λe w'=>∃u ss m' R',e= .returned u/\ss.Perm xs/\HR ⟨prog,m,w,fp m,R⟩ m' R' (aB [(0,.gro E (kcs ss))]) (avK 1) w'/\Rel w' m' (avK 1) R' (.gsl 0 sz ss.length) u)
  (xs:List α) (vs:List PV) (D:xs.length<=1000000):FnO prog fA 0 1 [.pv nS,.pv (.fn (.func fK) [] [.rp [.mp (xs.map kp) vs] 0])] []
  (λv ob=>∃ss,ss.Perm xs/\v= .gsl 0 sz ss.length/\ob=aB [(0,.gro E (kcs ss))]):=by
 intro w m R us hHR hrel;have j:=Qk hHR;simp only[RelL,Rel]at hrel;obtain⟨u1,us1,rfl,h1,u2,us2,rfl,h2,rfl⟩:=hrel;simp only[RelP]at h1;obtain⟨A,c,rfl,_,_,hnil,hcz,_⟩:=h1;have z:A=UG:=by have:=hnil VA O;simpa using this.symm
 obtain rfl:=hcz trivial;subst z;obtain⟨b,off,mb,es,clock,xs',rfl,hRb,hcell,hRm,hb,hst,hx,hp⟩:=Qn B h2;refine Calls.mono (callsIn_wide.1 (s b off mb es clock xs' w m R j (by have:=(gE t hp).length_eq;omega) hst hx (R.d b hRb).1 hcell hb)) ?_;rintro e w' ⟨u,ss,m',R',rfl,hS,h3,h4⟩;refine⟨u,_,_,m',R',O,⟨ss,hS.trans (gE t hp),O,O⟩,O,?_,h3,h4⟩;intro i o h;by_cases h0:i=0
 .subst h0;cases h;exact⟨O,O⟩
 have b2:Nat.beq i 0=VC:=by cases hb:Nat.beq i 0;rfl;exact absurd (cd hb) h0
 simp only[aB,b2,Ue]at h;cases h
theorem Sy(b off mb:Nat)(es:Array MapEntry)(clock:Nat)(xs:List Par)(w:World)(m:Gm)(R:RT w (fp m))(I:∀id,m id=UG)(M:xs.length<=1000000)(J:dH es.toList clock)(Y:es.toList.map (·.key)=xs.map cT)(B:b<w.heap.size)
  (hc:w.cell? ⟨b,off,UG⟩=UF (.map (UF mb))) (U:w.heap[mb]? =UF (.map es clock)):
  CallsIn Fence.wide 2 prog 214 #[.slice UG 0 0,.func (.func 148) #[] #[.pointer (UF ⟨b,off,UG⟩)]] w λe w'=>∃u ss m' R',e= .returned u/\ss.Perm xs/\HR ⟨prog,m,w,fp m,R⟩ m' R' (aB [(0,.gro 146 (vo ss))]) (avK 1) w'/\Rel w' m' (avK 1) R' (.gsl 0 2 ss.length) u:=by
 have V:=enters_of (P:=prog) func148 Xk O;refine callsIn_of_wp_marks func214 O trivial ?_ O;simp only[ntmps214,T4,IT,VI,Nat.reduceAdd,Nat.reduceSub,Wd,We,Wt,Wn,Uv,Uz]
 gi_wp2
 obtain⟨W0,hW0⟩:∃W0,w.alloc (Obj.cells #[Value.slice UG 0 0] 189)=W0:=⟨_,O⟩;have s:Below w.heap.size w W0:=by rw[<-hW0];exact(Below.refl _ w).alloc (AT _) _
 have G:W0.heap[w.heap.size]? =UF (.cells #[.slice UG 0 0] 189 (0,0)):=by rw[<-hW0];exact World.alloc_heap_new w _
 have A:mb<w.heap.size:=(TH.1 U).1;rw[hW0];refine mU (nt:=13) (w0:=w) (R0:=R.p) (bs:=[w.heap.size]) VA (encs:=λx=> #[cT x]) O V (Iy b off mb es clock xs W0 J Y (TM B s.size) ((s.cell (p:=⟨b,off,UG⟩) B).trans hc) ((s.block mb A).trans U)) (λ_=>rfl) (λ_ _ _ h=>h) (λh=>by cases h)
  (λpre os k=>os=apO 189 146 2 pre.length (vo pre)/\k=1) ⟨O,O⟩ (yO R.g (λb h=>(R.d b h).1) s G (AT _)) ?cell
  (λx W=>{ tmps:= #[.slice UG 0 0,.func (.func 148) #[] #[.pointer (UF ⟨b,off,UG⟩)],.pointer (UF ⟨w.heap.size,0,UG⟩),undef,.slice UG 0 0,.pointer (UF ⟨W.heap.size,0,UG⟩),.func (.func 148) #[] #[.pointer (UF ⟨b,off,UG⟩)],cT x,undef,undef,undef,undef,undef],defers:=[] })
  (λx W=>W.alloc (.cells #[.int .i64 x.f,.string x.c] 146)) (λx W=>(Below.refl _ W).alloc (AT _) _) (λ_ _=>⟨O,O⟩) ?assign ?body ?done
 case cell=>rintro _ pre os k ⟨rfl,rfl⟩ i o h;exact vn i o h
 case assign=>
  intro l x W K hK;simp only[cT]at hK ⊢
  gi_wp2
  exact hK
 case body=>
  rintro pre x os k ⟨rfl,rfl⟩ ⟨rest,hpr⟩;have H:pre.length<=1000000:=by have:=hpr.length_eq;simp at this;omega
  refine⟨_,_,Jl pre x H,?_,?_⟩
  .rintro ex τ ⟨rfl,h⟩;exact ⟨_,_,h,λj hj=>by obtain rfl:j=0:=(by simpa using hj);rfl,O,O,O⟩
  .intro W W2 m2 R2 hnew hm2 hR2 t _;refine tT O ?_ (hm2 0 _ O) t;obtain⟨g1,g2⟩:=hnew W.heap.size (AT _) Xn;exact EU (us:=(#[.int .i64 x.f,.string x.c]:Array Value).toList) (by simp only[RelPL,RelP];exact⟨_,_,O,O,_,_,O,O,O⟩) g1 (g2.trans (World.alloc_heap_new W _))
 case done=>
  rintro D X ss os k W hD hDl hDX hS ⟨rfl,rfl⟩ hB hdef;obtain⟨u,hcu,hout⟩:=yE I hB;have z:=hB.bel;clear hB hW0
  gi_wp2
  refine⟨Xn,.inl ⟨_,_,O,run_takeDeferred hdef,?_⟩⟩;refine⟨u,by simp[results,Tryz.f214,go_sem],u,ss,?_⟩;refine(hout _ (nQ z hD) Xn (λq _ M=>World.putObj_heap_other (λe=>M (e▸hDX)))).imp λm' h=>h.imp λR' h=>⟨O,hS,h.1,h.2⟩
theorem KL(xs:List Par)(vs:List PV)(j:xs.length<=1000000):FnO prog 214 0 1 [.pv nS,.pv (.fn (.func 148) [] [.rp [.mp (xs.map aW) vs] 0])] []
  (λv ob=>∃ss,ss.Perm xs/\v= .gsl 0 2 ss.length/\ob=aB [(0,.gro 146 (vo ss))]):=
 zK Qv (λ_ _=>oe) (λb off mb es clock xs w m R h1 h2 h3 h4 h5 h6 h7=>Sy b off mb es clock xs w m R h1 h2 h3 h4 h5 h6 h7) xs vs j
theorem HY(xs:List Par)(vs:List PV)(s:xs.length<=1000000):FnO prog 146 0 1 [.pv (.fn (.func 148) [] [.rp [.mp (xs.map aW) vs] 0])] []
  (λv ob=>∃ss,ss.Perm xs/\v= .gsl 0 2 ss.length/\ob=aB [(0,.gro 146 (vo ss))]):=by
 have j:=KL xs vs s;refine FnO.of func146 O O (TV O) ?_;intro m0 w0 F R0;refine Z1 O<|Z1 O<|RL.call O (cz [] 0 call214 O O O O (by exact trivial) Xl O j ?_);rintro _ _ ⟨ss,hS,rfl,rfl⟩;exact A1 O<|Gt O<|⟨[(2,.gsl 0 2 ss.length)],[(0,.gro 146 (vo ss))],_,Tk (aS Xk) (aO Xk) O O,O,O,O,⟨ss,hS,O,O⟩⟩
theorem Tf(b off mb:Nat)(es:Array MapEntry)(clock:Nat)(xs:List PP)(w:World)(m:Gm)(R:RT w (fp m))(I:∀id,m id=UG)(M:xs.length<=1000000)(J:dH es.toList clock)(Y:es.toList.map (·.key)=xs.map fD)(B:b<w.heap.size)
  (hc:w.cell? ⟨b,off,UG⟩=UF (.map (UF mb))) (U:w.heap[mb]? =UF (.map es clock)):
  CallsIn Fence.wide 2 prog 217 #[.slice UG 0 0,.func (.func 153) #[] #[.pointer (UF ⟨b,off,UG⟩)]] w λe w'=>∃u ss m' R',e= .returned u/\ss.Perm xs/\HR ⟨prog,m,w,fp m,R⟩ m' R' (aB [(0,.gro 198 (uE ss))]) (avK 1) w'/\Rel w' m' (avK 1) R' (.gsl 0 4 ss.length) u:=by
 have V:=enters_of (P:=prog) func153 Xk O;refine callsIn_of_wp_marks func217 O trivial ?_ O;simp only[ntmps217,T4,IT,VI,Nat.reduceAdd,Nat.reduceSub,Wd,We,Wt,Wn,Uv,Uz]
 gi_wp2
 obtain⟨W0,hW0⟩:∃W0,w.alloc (Obj.cells #[Value.slice UG 0 0] 195)=W0:=⟨_,O⟩;have s:Below w.heap.size w W0:=by rw[<-hW0];exact(Below.refl _ w).alloc (AT _) _
 have G:W0.heap[w.heap.size]? =UF (.cells #[.slice UG 0 0] 195 (0,0)):=by rw[<-hW0];exact World.alloc_heap_new w _
 have A:mb<w.heap.size:=(TH.1 U).1;rw[hW0];refine mU (nt:=13) (w0:=w) (R0:=R.p) (bs:=[w.heap.size]) VA (encs:=λx=> #[fD x]) O V (HV b off mb es clock xs W0 J Y (TM B s.size) ((s.cell (p:=⟨b,off,UG⟩) B).trans hc) ((s.block mb A).trans U)) (λ_=>rfl) (λ_ _ _ h=>h) (λh=>by cases h)
  (λpre os k=>os=apO 195 198 4 pre.length (uE pre)/\k=1) ⟨O,O⟩ (yO R.g (λb h=>(R.d b h).1) s G (AT _)) ?cell
  (λx W=>{ tmps:= #[.slice UG 0 0,.func (.func 153) #[] #[.pointer (UF ⟨b,off,UG⟩)],.pointer (UF ⟨w.heap.size,0,UG⟩),undef,.slice UG 0 0,.pointer (UF ⟨W.heap.size,0,UG⟩),.func (.func 153) #[] #[.pointer (UF ⟨b,off,UG⟩)],fD x,undef,undef,undef,undef,undef],defers:=[] })
  (λx W=>W.alloc (.cells #[.int .i64 x.1.f,.string x.1.c,.int .i64 x.2.f,.string x.2.c] 198)) (λx W=>(Below.refl _ W).alloc (AT _) _) (λ_ _=>⟨O,O⟩) ?assign ?body ?done
 case cell=>rintro _ pre os k ⟨rfl,rfl⟩ i o h;exact vn i o h
 case assign=>
  intro l x W K hK;simp only[fD]at hK ⊢
  gi_wp2
  exact hK
 case body=>
  rintro pre x os k ⟨rfl,rfl⟩ ⟨rest,hpr⟩;have H:pre.length<=1000000:=by have:=hpr.length_eq;simp at this;omega
  refine⟨_,_,Gg pre x H,?_,?_⟩
  .rintro ex τ ⟨rfl,h⟩;exact ⟨_,_,h,λj hj=>by obtain rfl:j=0:=(by simpa using hj);rfl,O,O,O⟩
  .intro W W2 m2 R2 hnew hm2 hR2 t _;refine tT O ?_ (hm2 0 _ O) t;obtain⟨g1,g2⟩:=hnew W.heap.size (AT _) Xn;exact EU (us:=(#[.int .i64 x.1.f,.string x.1.c,.int .i64 x.2.f,.string x.2.c]:Array Value).toList) (by simp only[RelPL,RelP];exact⟨_,_,O,O,_,_,O,O,_,_,O,O,_,_,O,O,O⟩) g1 (g2.trans (World.alloc_heap_new W _))
 case done=>
  rintro D X ss os k W hD hDl hDX hS ⟨rfl,rfl⟩ hB hdef;obtain⟨u,hcu,hout⟩:=yE I hB;have z:=hB.bel;clear hB hW0
  gi_wp2
  refine⟨Xn,.inl ⟨_,_,O,run_takeDeferred hdef,?_⟩⟩;refine⟨u,by simp[results,Tryz.f217,go_sem],u,ss,?_⟩;refine(hout _ (nQ z hD) Xn (λq _ M=>World.putObj_heap_other (λe=>M (e▸hDX)))).imp λm' h=>h.imp λR' h=>⟨O,hS,h.1,h.2⟩
theorem KM(xs:List PP)(vs:List PV)(j:xs.length<=1000000):FnO prog 217 0 1 [.pv nS,.pv (.fn (.func 153) [] [.rp [.mp (xs.map ppP) vs] 0])] []
  (λv ob=>∃ss,ss.Perm xs/\v= .gsl 0 4 ss.length/\ob=aB [(0,.gro 198 (uE ss))]):=
 zK Qr (λ_ _=>qe) (λb off mb es clock xs w m R h1 h2 h3 h4 h5 h6 h7=>Tf b off mb es clock xs w m R h1 h2 h3 h4 h5 h6 h7) xs vs j
theorem E3(xs:List PP)(vs:List PV)(s:xs.length<=1000000):FnO prog 151 0 1 [.pv (.fn (.func 153) [] [.rp [.mp (xs.map ppP) vs] 0])] []
  (λv ob=>∃ss,ss.Perm xs/\v= .gsl 0 4 ss.length/\ob=aB [(0,.gro 198 (uE ss))]):=by
 have j:=KM xs vs s;refine FnO.of func151 O O (TV O) ?_;intro m0 w0 F R0;refine Z1 O<|Z1 O<|RL.call O (cz [] 0 call217 O O O O (by exact trivial) Xl O j ?_);rintro _ _ ⟨ss,hS,rfl,rfl⟩;exact A1 O<|Gt O<|⟨[(2,.gsl 0 4 ss.length)],[(0,.gro 198 (uE ss))],_,Tk (aS Xk) (aO Xk) O O,O,O,O,⟨ss,hS,O,O⟩⟩
theorem Sl(b off mb:Nat)(es:Array MapEntry)(clock:Nat)(xs:List ByteArray)(w:World)(m:Gm)(R:RT w (fp m))(I:∀id,m id=UG)(M:xs.length<=1000000)(J:dH es.toList clock)(Y:es.toList.map (·.key)=xs.map Value.string)(B:b<w.heap.size)
  (hc:w.cell? ⟨b,off,UG⟩=UF (.map (UF mb))) (U:w.heap[mb]? =UF (.map es clock)):
  CallsIn Fence.wide 2 prog 294 #[.slice UG 0 0,.func (.func 257) #[] #[.pointer (UF ⟨b,off,UG⟩)]] w λe w'=>∃u ss m' R',e= .returned u/\ss.Perm xs/\HR ⟨prog,m,w,fp m,R⟩ m' R' (aB [(0,.gro 9 (yw ss))]) (avK 1) w'/\Rel w' m' (avK 1) R' (.gsl 0 1 ss.length) u:=by
 have V:=enters_of (P:=prog) func257 Xk O;refine callsIn_of_wp_marks func294 O trivial ?_ O;simp only[ntmps294,T4,IT,VI,Nat.reduceAdd,Nat.reduceSub,Wd,We,Wt,Wn,Uv,Uz]
 gi_wp2
 obtain⟨W0,hW0⟩:∃W0,w.alloc (Obj.cells #[Value.slice UG 0 0] 53)=W0:=⟨_,O⟩;have s:Below w.heap.size w W0:=by rw[<-hW0];exact(Below.refl _ w).alloc (AT _) _
 have G:W0.heap[w.heap.size]? =UF (.cells #[.slice UG 0 0] 53 (0,0)):=by rw[<-hW0];exact World.alloc_heap_new w _
 have A:mb<w.heap.size:=(TH.1 U).1;rw[hW0];refine mU (nt:=13) (w0:=w) (R0:=R.p) (bs:=[w.heap.size]) VA (encs:=λx=> #[Value.string x]) O V (IY b off mb es clock xs W0 J Y (TM B s.size) ((s.cell (p:=⟨b,off,UG⟩) B).trans hc) ((s.block mb A).trans U)) (λ_=>rfl) (λ_ _ _ h=>h) (λh=>by cases h)
  (λpre os k=>os=apO 53 9 1 pre.length (yw pre)/\k=1) ⟨O,O⟩ (yO R.g (λb h=>(R.d b h).1) s G (AT _)) ?cell
  (λx W=>{ tmps:= #[.slice UG 0 0,.func (.func 257) #[] #[.pointer (UF ⟨b,off,UG⟩)],.pointer (UF ⟨w.heap.size,0,UG⟩),undef,.slice UG 0 0,.string x,.func (.func 257) #[] #[.pointer (UF ⟨b,off,UG⟩)],Value.string x,undef,undef,undef,undef,undef],defers:=[] })
  (λx W=>W) (λx W=>Below.refl _ W) (λ_ _=>⟨O,O⟩) ?assign ?body ?done
 case cell=>rintro _ pre os k ⟨rfl,rfl⟩ i o h;exact vn i o h
 case assign=>
  intro l x W K hK
  gi_wp2
  exact hK
 case body=>
  rintro pre x os k ⟨rfl,rfl⟩ ⟨rest,hpr⟩;have H:pre.length<=1000000:=by have:=hpr.length_eq;simp at this;omega
  refine⟨_,_,GB pre x H,?_,?_⟩
  .rintro ex τ ⟨rfl,h⟩;exact ⟨_,_,h,λj hj=>by obtain rfl:j=0:=(by simpa using hj);rfl,O,O,O⟩
  .intro W W2 m2 R2 hnew hm2 hR2 t _;refine tT O ?_ (hm2 0 _ O) t;simp only[Rel,RelP,Act.eval];rfl
 case done=>
  rintro D X ss os k W hD hDl hDX hS ⟨rfl,rfl⟩ hB hdef;obtain⟨u,hcu,hout⟩:=yE I hB;have z:=hB.bel;clear hB hW0
  gi_wp2
  refine⟨Xn,.inl ⟨_,_,O,run_takeDeferred hdef,?_⟩⟩;refine⟨u,by simp[results,Tryz.f294,go_sem],u,ss,?_⟩;refine(hout _ (nQ z hD) Xn (λq _ M=>World.putObj_heap_other (λe=>M (e▸hDX)))).imp λm' h=>h.imp λR' h=>⟨O,hS,h.1,h.2⟩
theorem L6(xs:List ByteArray)(vs:List PV)(j:xs.length<=1000000):FnO prog 294 0 1 [.pv nS,.pv (.fn (.func 257) [] [.rp [.mp (xs.map PV.str) vs] 0])] []
  (λv ob=>∃ss,ss.Perm xs/\v= .gsl 0 1 ss.length/\ob=aB [(0,.gro 9 (yw ss))]):=
 zK OV (λ_ _=>tC) (λb off mb es clock xs w m R h1 h2 h3 h4 h5 h6 h7=>Sl b off mb es clock xs w m R h1 h2 h3 h4 h5 h6 h7) xs vs j
theorem JM(xs:List ByteArray)(vs:List PV)(s:xs.length<=1000000):FnO prog 255 0 1 [.pv (.fn (.func 257) [] [.rp [.mp (xs.map PV.str) vs] 0])] []
  (λv ob=>∃ss,ss.Perm xs/\v= .gsl 0 1 ss.length/\ob=aB [(0,.gro 9 (yw ss))]):=by
 have j:=L6 xs vs s;refine FnO.of func255 O O (TV O) ?_;intro m0 w0 F R0;refine Z1 O<|Z1 O<|RL.call O (cz [] 0 call294 O O O O (by exact trivial) Xl O j ?_);rintro _ _ ⟨ss,hS,rfl,rfl⟩;exact A1 O<|Gt O<|⟨[(2,.gsl 0 1 ss.length)],[(0,.gro 9 (yw ss))],_,Tk (aS Xk) (aO Xk) O O,O,O,O,⟨ss,hS,O,O⟩⟩
end
section
open Go Go.RowKit
section
variable {P:Program}{ops:Array Oper}{C:World->Prop}
def qK(P:Program)(ops:Array Oper)(C:World->Prop)(n:Nat)(L:Array Bool->Act->Prop):Nat->Array Bool->Act->Prop
 |0,listed,a=>L listed a
 |f+1,listed,a=>Region.ready .any ops listed≠[]/\∀i∈Region.ready .any ops listed,i<n/\qOp P ops C i (qK P ops C n L f (listed.setIfInBounds i VA)) a
theorem qK.any{Q':Exit->Act->World->Prop}(j:∀listed a w,C w->L listed a->wpAny P .any ops Q' g listed a w)(f:Nat):
  ∀(listed:Array Bool)(a:Act)(w:World),C w->qK P ops C n L f listed a->wpAny P .any ops Q' (f+g) listed a w:=by
 induction f with
 |zero=>intro listed a w hw h;rw[T8];exact j _ _ _ hw h
 | succ f ih=>
   intro listed a w hw h;rw[Nat.add_right_comm];exact⟨λe=>absurd e h.1,λi hi=>wpOp_of_qOp hw (λa' w' hw' h'=>ih _ a' w' hw' h') (h.2 i hi).2⟩
theorem qK.take{o:Oper}{v:Value}(B:ops[i]? =UF o)(t:∀(j:Nat)(o:Oper) cs b,ops[j]? =UF o->o.op≠ .select cs b)
  (G:Region.sinkB .any ops n=VA) (hc:Region.chainB .any ops n=VA) (I:n<ops.size) (z:i<n) (M:∀listed a,L listed a->∀j∈Region.ready .any ops listed,n<=j) (f:Nat):
  ∀(listed:Array Bool)(a:Act),HeadInv .any ops n listed->(∀j oj,ops[j]? =UF oj->j≠i->listed.getD j VA=VC->(∀e∈oj.after,Region.binds .any e=VA->e.on≠i)->o.apart ops oj=VA)->
   i∈Region.ready .any ops listed->YieldsIn P ops C o v a->qK P ops C n L f (listed.setIfInBounds i VA) (a.put o.dst v)->qK P ops C n L (f+1) listed a:=by
 induction f with
 | zero=>
   intro listed a inv _ hr hy H;refine⟨List.ne_nil_of_mem hr,λj hj=>?_⟩;have s:j<n:=Nat.lt_of_not_le λh=>tail_waits G hc I inv _ i O z (mem_ready.1 hr).1 j h hj
   refine⟨s,?_⟩;by_cases e:j=i
   .subst e;exact hy.qOp B H
   exact absurd (M _ _ H j (ready_mono hj e)) Xj
 | succ f ih=>
   intro listed a inv hap hr hy H;refine⟨List.ne_nil_of_mem hr,λj hj=>?_⟩;have s:j<n:=Nat.lt_of_not_le λh=>tail_waits G hc I inv _ i O z (mem_ready.1 hr).1 j h hj
   refine⟨s,?_⟩;by_cases e:j=i
   .subst e;exact hy.qOp B H
   obtain⟨hj0,oj,hoj,hw⟩:=mem_ready.1 hj;have A:∀x∈oj.after,Region.binds .any x=VA->x.on≠i:=λx hx hb he=>by
    have D:=hw x hx hb;rw[he,getD_both (mem_ready.1 hr).1]at D;cases D
   have J:=qOp_put hoj (hap j oj hoj e hj0 A) (λcs b=>t i o cs b B) (λcs b=>t j oj cs b hoj) hy (H.2 j (ready_mono hj e)).2;refine qOp_mono (λa' h=>ih _ a' (inv.set hj s) (λk ok hk hki hun=>hap k ok hk hki ?_) (ready_mono hr (Ne.symm e)) h.1 (by rw[Array.setIfInBounds_comm _ _ e];exact h.2)) J;by_cases ek:j=k
   .subst ek;exact hj0
   rwa [getD_set_ne VA ek]at hun
theorem qK.lex{Lq:Act->Prop}(s:Region.noSelect ops=VA)(A:Region.sinkB .any ops n=VA)(hc:Region.chainB .any ops n=VA)(B:n<ops.size):
  ∀(l:List Oper)(k:Nat)(listed:Array Bool)(a:Act),(∀j,j<l.length->l[j]? =ops[k+j]?)->k+l.length=n->HeadInv .any ops n listed->
  Region.lexHead .any ops g l.length k listed=VA->wpQuiet P ops C Lq l a->qK P ops C n (λlisted' a'=>Region.seqB .any ops g n listed'=VA/\Lq a') l.length listed a:=by
 intro l;induction l with
 | nil=>
   intro k listed a _ hk _ hB h;obtain rfl:k=n:=by simpa using hk
   exact⟨by simpa[Region.lexHead]using hB,h⟩
 | cons o l ih=>
   intro k listed a hl hk inv hB h;have t:ops[k]? =UF o:=by simpa using(hl 0 Xn).symm
   simp only[IT,Region.lexHead,du]at hB hk;have z:k∈Region.ready .any ops listed:=by simpa using hB.1.1
   obtain⟨v,hy,hK⟩:=yieldsIn_of_qOp (K:=wpQuiet P ops C Lq l) t (by unfold qOp;simp only[t];exact h);refine qK.take t (Region.noSelect_spec s) A hc B Xj (λlisted' a' hL=>seqB_ready hL.1) l.length listed a inv (Region.free_spec t hB.1.2) z hy (ih (k+1) _ _ (λj hj=>?_) Xj (inv.set z Xj) hB.2 hK);have:=hl (j+1) Xo;simpa[Nat.add_assoc,Wi 1 j]using this
theorem iw{Q:Exit->Act->World->Prop}{l:List Oper}(n:Nat)(hd tl:List Oper)(G:l.take n=hd)(I:l.drop n=tl)(J:P.follows .mixedOrders=VA)(hB:Region.lexTailB .any l.toArray n=VA)(M:C { w with drawn:=w.drawn+1 })
  (h:wpQuiet P l.toArray C (λB=>∀w',C w'->wpList P l.toArray Q tl B w') hd a):(Code.region id l.toArray VA).wp P Q a w:=by
 subst G I;simp only[Region.lexTailB,du,Tz]at hB;obtain⟨⟨⟨⟨hsel,hn⟩,hs⟩,hc⟩,hlex⟩:=hB;have D:n<l.length:=by simpa using hn
 have s:(l.take n).length=n:=by simp;omega
 have z:HeadInv .any l.toArray n (Array.replicate l.toArray.size VC):=
  ⟨Xn,λj oj _ hl=>(by rw[getD_replicate_false]at hl;cases hl),λt _ ht=>getD_in (by simpa using ht) (getD_replicate_false _ _)⟩
 have H:=qK.lex (C:=C) (g:=l.toArray.size-n) hsel hs hc hn (l.take n) 0 _ a (λj hj=>by rw[s]at hj;simp[hj]) (by simpa using s) z (by rw[s];exact hlex) h;refine wp_region_any J ?_;have A:(l.drop n).length=l.toArray.size-n:=Xn;have:=qK.any (Q':=Q) (g:=l.toArray.size-n) (λlisted B w' hw hL=>by
  have:=wpAny_of_seq (md:= .any) (Q':=Q) (l.drop n) n listed B w' (λj=>by simp[UN]) (by rw[A];exact hL.1) (hL.2 w' hw);rwa [A]at this) _ _ _ _ M H
 rw[s,show n+(l.toArray.size-n)=l.toArray.size by omega]at this;exact this
end
end
end Go.Proofs.YtkkenamefaegfaaGreatDoor
namespace Go.Proofs
open Go.Proofs.YtkkenamefaegfaaGreatDoor
end Go.Proofs
namespace Go.Proofs.YtkkenamefaegfaaGreatDoor
section
open Mk Jn
def AB(s t:ByteArray):Int:=if Op.bytesLess s.toList t.toList=VA then-1 else if(s.toList==t.toList)=VA then 0 else 1
def uk(a b:List ByteArray):Int:=if bO a b=VA then-1 else if a=b then 0 else 1
theorem GF(s:ByteArray)(w:World):Calls prog 164 #[.string s] w λe w'=>e= .returned (.bool VC)/\w=w':=by
 have j:(s.toList !=s.toList)=VC:=Xn
 go_enter func164,ntmps164
 go_wp2
 go_ret
 exact⟨O,O⟩
theorem C3(s t:ByteArray)(w:World):Calls prog 94 #[.string s,.string t] w λe w'=>e= .returned (.int .i64 (AB s t))/\w=w':=by
 have z:=GF
 go_enter func94,ntmps94
 go_wp2_with (go_at_call 164;refine(z _ _).mono ?_;rintro e w' ⟨rfl,rfl⟩)
 .have h1:Op.bytesLess s.toList t.toList=VA:=Xm
  go_ret
  exact⟨eW (by unfold AB;rw[By h1]),O⟩
 .have h1:Op.bytesLess s.toList t.toList=VC:=Xm;have j:(!s.toList==t.toList)=VA:=Xm
  go_ret
  refine⟨eW ?_,O⟩;unfold AB;rw[h1,sh Xl,sh (by simpa using j)]
 have h1:Op.bytesLess s.toList t.toList=VC:=Xm;have j:(!s.toList==t.toList)=VC:=Xm
 go_ret
 refine⟨eW ?_,O⟩;unfold AB;rw[h1,sh Xl,By (by simpa using j)]
theorem FQ{s t:ByteArray}(h:AB s t=0):s=t:=by
 unfold AB at h;split at h
 .cases h
 split at h
 .next h2=>exact bytes_inj (by simpa using h2)
 cases h
theorem PG{a b:List ByteArray}{k:Nat}(s:k<a.length)(t:k<b.length)(e:a.take k=b.take k)(j:AB a[k] b[k]≠0):uk a b=AB a[k] b[k]:=by grind[AB,pB,ud,bytes_inj,uk]
theorem F6{a b:List ByteArray}{k:Nat}(j:k<a.length)(s:k=b.length)(e:a.take k=b.take k):uk a b=1:=by grind[mw,uk]
theorem CC{a b:List ByteArray}{k:Nat}(j:k=a.length)(s:k<=b.length)(e:a.take k=b.take k):uk a b=if(a.length:Int)<b.length then-1 else 0:=by grind[mw,uk,aH]
theorem BF(A B:Option Addr)(c d:Nat)(l m:List ByteArray)(w:World){R:Nat->Prop}(h:Row w R A (PO l)){R':Nat->Prop}(D:Row w R' B (PO m))(H:l.length<=1000000)(I:m.length<=1000000):
  Calls prog 39 #[.slice A l.length c,.slice B m.length d] w λe w'=>e= .returned (.int .i64 (uk l m))/\w=w':=by
 have z:=C3;have j:=@Row.N5 _ _ _ _ h;have hB:=@Row.N5 _ _ _ _ D;clear h D
 go_enter func39,ntmps39
 go_wp2
 go_loop [11] (λi=>∃k:Nat,k<=l.length/\k<=m.length/\i= .int .i64 k/\l.take k=m.take k) (λi=>l.length-(intOf i).toNat)
 case atStart=>exact⟨0,aJ _,aJ _,O,Xn⟩
 case round=>
  obtain⟨k,hk,hkm,rfl,hno⟩:=hrel;have HN:=Lib.hid hno;clear hno;by_cases hlt:k<l.length
  .obtain⟨b,off,rfl,hb,hck⟩:=j hlt;by_cases hlt':k<m.length
   .obtain⟨b',off',rfl,hb',hck'⟩:=hB hlt';clear j hB
    go_wp2_with (go_at_call 94;refine(z _ _ _).mono ?_;rintro e w' ⟨rfl,rfl⟩)
    .have he:(AB l[k] m[k] !=0)=VA:=Xm
     go_ret
     exact⟨eW (PG hlt hlt' HN.out (by simpa using he)).symm,O⟩
    have he:(AB l[k] m[k] !=0)=VC:=Xm;refine⟨⟨k+1,Xj,Xj,by go_num,?_⟩,by simp[intOf];omega⟩;have G:=HN.out;rw[AI hlt,AI hlt',G,FQ (s:=l[k]) (t:=m[k]) (by simpa using he)]
   obtain rfl:k=m.length:=Xj;clear j hB
   go_wp2
   go_ret
   exact⟨eW (F6 hlt O HN.out).symm,O⟩
  clear j hB
  go_wp2
  .have he:l.length<m.length:=Xm
   go_ret
   refine⟨eW ?_,O⟩;rw[CC Xj hkm HN.out,By Xj]
  have he:¬l.length<m.length:=Xm
  go_ret
  refine⟨eW ?_,O⟩;rw[CC Xj hkm HN.out,sh Xj]
end
end Go.Proofs.YtkkenamefaegfaaGreatDoor
