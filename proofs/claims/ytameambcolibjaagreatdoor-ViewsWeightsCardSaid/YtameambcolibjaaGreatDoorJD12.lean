/- Lemmas. No condition. -/
import Derived.Lib.Join
import Derived.Test.YtameambcolibjaaGreatDoorJD11
set_option maxRecDepth 100000
set_option maxHeartbeats 4000000
open Go.RowKit Go.Proofs.Tryz
open Option renaming some→UF,none→UG
open Bool renaming true→VA,false→WA
namespace Go.Proofs.YtameambcolibjaaGreatDoor
variable{α K:Type}{i k n a j U:Nat}{q:Rat}{t:ByteArray}{σ:St}{ll:List (List Int)}{P l H:List Int}{T:TypeId}{ls:List (List PV)}{S:Sch}
section
open Go.RowKit Mk Mm
theorem pU(p q:Prr):FnP prog 103 [.agg (r7 p),.agg (r7 q)] (· = .bool (decide (ca (p.a,p.b) (q.a,q.b)<0))):=by
 refine FnP.of func103 O ntmps103 X2 λ_ _ _ _=>?_
 have d:decide (ca (p.a,p.b) (q.a,q.b)<0)=(mO p.a q.a||(lB p.a q.a&&mO p.b q.b)):=by
  have e:ca (p.a,p.b) (q.a,q.b)=if bX p.a q.a≠0 then bX p.a q.a else bX p.b q.b:=Sl _ _
  have s:lB p.a q.a=decide (bX p.a q.a=0):=by
   show(p.a==q.a)=_;rw[UH,VK,OC,eU]
  rw[e,s];unfold mO;by_cases h:bX p.a q.a=0
  .rw[pF XX,SR h,Up (show ¬bX p.a q.a<0 by omega)];simp
  rw[AT h,Up h];simp
 have r:=iB p.a q.a;have u:=iB p.b q.b;generalize mO p.a q.a=b1 at*;generalize mO p.b q.b=b2 at*;refine Z3 O ?_;by_cases hb:b1=VA
 .subst hb;exact Z4 O<|Rs O (aa call102 r O)<|Ar 15 O<|Gt O<|⟨_,_,O,O,ah PV.bool (by rw[d];rfl)⟩
 obtain rfl:b1=WA:=WE hb;refine Z4 O<|Rs O (aa call102 r O)<|Ar 5 O<|Rg O (Ct (p:=p.a) (q:=q.a) O O O)<|A1 O ?_;apply TY 6 16 22 [17,18,19,20,21] O X8
 .intro hb11;exact Ar 4 O<|Rg O (aa call102 u O)<|A1 O<|TQ X7 O O O
 .intro hb11;exact Ar 6 O<|TQ X7 O O O
 exact Y2 O<|Gt O<|⟨_,_,O,O,ah PV.bool (by rw[d];rfl)⟩
section
variable {α:Type}(f:α->List PV)(c:Nat)(h:∀a,(f a).length=c)
include h
theorem Nh(l:List α)(k:Nat):(l.flatMap f).take (k*c)=(l.take k).flatMap f/\(l.flatMap f).drop (k*c)=(l.drop k).flatMap f:=by
 have e:l.flatMap f=(l.take k).flatMap f++(l.drop k).flatMap f:=by rw[<-U6,U3]
 rcases We l.length k with h1|h1
 .have hl:=bL f c h l;have:l.length*c<=k*c:=Vk c XX;rw[aG XX,aG XX,List.drop_eq_nil_of_le XX,List.drop_eq_nil_of_le XX];exact⟨O,O⟩
 have hl:((l.take k).flatMap f).length=k*c:=by rw[bL f c h,OF,U5 h1]
 constructor
 .grind
 grind
end
abbrev Um(c:Nat)(cs xs:List PV)(i k:Nat):List PV:=(xs++cs.drop (i*c)).take ((1+(k-i))*c)
abbrev Un(c:Nat)(cs xs:List PV)(i k:Nat):List PV:=cs.take (i*c)++Um c cs xs i k
theorem Uk{β:Type}(g:β->α)(f:α->List PV)(c:Nat)(h:∀a,(f a).length=c)(r:∀a,∀v∈f a,v.leaf=VA){l l':List β}{x:β}(u:i<=l.length)(s:l'=l.take i++x::l.drop i):
  (((l.map g).flatMap f).drop (i*c)).length=(l.length-i)*c/\(Um c ((l.map g).flatMap f) (f (g x)) i l.length).length=(1+(l.length-i))*c/\(∀v∈Um c ((l.map g).flatMap f) (f (g x)) i l.length,v.leaf=VA)/\
  Un c ((l.map g).flatMap f) (f (g x)) i l.length=(l'.map g).flatMap f/\i+(1+(l.length-i))=l'.length:=by
 obtain⟨c1,c2⟩:=Nh f c h (l.map g) i;have d:(g x::(l.map g).drop i).flatMap f=Um c ((l.map g).flatMap f) (f (g x)) i l.length:=by
  show _=(f (g x)++_).take _;rw[c2,<-UJ,aG];rw[bL f c h,IN,Vs,AS,WZ];exact tJ _
 refine⟨by rw[c2,bL f c h,Vs,AS],?_,?_,?_,?_⟩
 .rw[<-d,bL f c h,IN,Vs,AS,WZ]
 .rw[<-d];intro v hv;obtain⟨a,_,hv⟩:=UU.1 hv;exact r a v hv
 .show _++Um c ((l.map g).flatMap f) (f (g x)) i l.length=_;rw[<-d,c1,s,UO,cd,List.map_take,List.map_drop,U6]
 rw[s,D8,IN,OF,Vs];omega
theorem Ui:∀t:Trm,∀c∈uB t,c.leaf=VA:=λt c h=>by
 simp at h;rcases h with rfl|rfl|rfl<;>rfl
theorem Ug:∀t:Prr,∀c∈r7 t,c.leaf=VA:=λt c h=>by
 simp at h;rcases h with rfl|rfl|rfl|rfl|rfl<;>rfl
theorem lP(l:List Trm):∀c∈bd l,c.leaf=VA:=λc hc=>by
 obtain⟨t,_,h⟩:=UU.1 hc;exact Ui t c h
theorem mR(l:List Prr):∀c∈bj l,c.leaf=VA:=λc hc=>by
 obtain⟨t,_,h⟩:=UU.1 hc;exact Ug t c h
section
variable {K:Type}{cmp:K->K->Int}{e:K×Rat}
theorem mQ:∀{i:Nat}{out:List (K×Rat)},i<=out.length->(∀j (d:j<out.length),j<i->decide (cmp out[j].1 e.1<0)=VA)->(∀(h:i<out.length),decide (cmp out[i].1 e.1<0)=WA)->jD cmp e out=out.take i++e::out.drop i
 |0,[],_,_,_=>rfl
 |0,y::l,_,_,h2=>by grind[jD]
 |i+1,[],h,_,_=>absurd h X2
 | i+1,y::l,h,h1,h2=>by
   have h3:=h1 0 X2 XX;rw[jD,AT (by simpa using h3),mQ (by simpa using h) (λj d hji=>h1 (j+1) (by simpa using d) XX) (λr=>h2 (by simpa using r))];rfl
structure GvI(cmp:K->K->Int)(w todo out:List (K×Rat)):Prop where
 ex:∃d,(d++todo).Perm w/\out.Perm d
 sr:Mm.Asc cmp out
variable {w todo out l1 l2:List (K×Rat)}
theorem GvI.start:GvI cmp w w []:=⟨⟨[],UX _,UX _⟩,List.Pairwise.nil⟩
theorem GvI.mem(h:GvI cmp w todo out)(r:e∈todo):e∈w:=by
 obtain⟨d,h1,_⟩:=h.ex;exact h1.subset (by simp[r])
theorem GvI.step(hc:Cmp cmp)(h:GvI cmp w (l1++e::l2) out)(s:(w.map (·.1)).Nodup):GvI cmp w (l1++l2) (jD cmp e out):=by
 obtain⟨d,h1,h2⟩:=h.ex;have r:=(h1.map (·.1)).nodup_iff.2 s;rw[UO,Wi]at r;refine⟨⟨d++[e],?_,?_⟩,uf hc h.sr λx hx e2=>?_⟩
 .refine List.Perm.trans ?_ h1;rw[WH];exact List.Perm.append_left d (Xq (l₁:=l1)).symm
 .exact(lR cmp e out).trans ((List.Perm.cons e h2).trans (List.perm_append_singleton e d).symm)
 grind
theorem GvI.end(hc:Cmp cmp)(h:GvI cmp w [] out)(r:Mm.Asc cmp w):out=w:=by
 obtain⟨d,h1,h2⟩:=h.ex;rw[Vg]at h1;exact iD hc h.sr r (h2.trans h1)
theorem GvI.snoc(h:GvI cmp w (l1++e::l2) out):out.length+1<=w.length:=by
 obtain⟨d,h1,h2⟩:=h.ex;have:=h1.length_eq;have:=h2.length_eq;simp at*;omega
end
theorem F1.fits(h:F1 q):Nx q=WA:=by
 rw[Nx,sk,sk,UK];exact⟨Up (by have:=ir h.n;show ¬400<(Lib.decDigits _).length;omega),Up (by have:=ir (n:=q.den) (by have:=h.d;omega);show ¬400<(Lib.decDigits _).length;omega)⟩
theorem uk(h:F1 q):FnP prog 112 [da q] (· = .tup [.str (a6 q),.int .i64 0]):=by
 have:=DE q (AI (Nc h.n) XZ) (AI (Nc (Xp h.d XZ)) XZ);rw[h.fits]at this;exact this
theorem yP(m:MC)(s:List (Par×Rat))(p:List (PP×Rat))(hs:s.Perm m.s)(hp:p.Perm m.p)(sa:Mm.Asc bX m.s)(ap:Mm.Asc ca m.p)(zs:∀e∈m.s,e.2≠0)(zp:∀e∈m.p,e.2≠0)(h1:MF1 m):
  FnO prog 49 2 0 [.agg (lg m.c big 9001)] [(big,.mp (ay bT s) (br s)),(9001,.mp (ay ppP p) (br p))]
   (λv ob'=>v= .tup [.agg [.pv (.str (a6 m.c)),.pv (.sl UG m.s.length (bd (tmL m.s))),.pv (.sl UG m.p.length (bj (prL m.p)))],pIi 0]/\ob'=aA []):=by
 refine FnO.ofC func49 O ntmps49 X2 λ_ _ _ _=>?_
 have hgc:=uk h1.c;have hns:=mF dI sa;have hnp:=mF cN ap;have hls:=h1.ls;have hlp:=h1.lp;refine Z3 O<|TN (St.cW (ks:=ay bT m.s) (vs:=br m.s) big XY (lenR _ _) (pubR hs))<|TN (St.cW (ks:=ay ppP m.p) (vs:=br m.p) 9001 XY (lenR _ _) (pubR hp))<|Z2 O<|Rs O (aa call112 hgc O)<|Ar 5 O<|Z4 O<|TN (St.cV (T':=47) (cs:=[.pv (.str (a6 m.c)),.pv nS,.pv nS]) 2 1 3 3 138 XY O O)<|TN (St.cV (T':=47) (cs:=[.pv (.str (a6 m.c)),.gsl 3 3 0,.pv nS]) 2 2 4 5 140 XY O O)<|Z2 O<|Gc O (λX=>absurd X X2) (λX=>?_);refine TM<|Z2 O<|Rs O (eu 5 underlying127 O O)<|Gz O (st:=λX6:List (Par×Rat)×List (Par×Rat)×List PV=>([(1,UG),(2,UG),(6,UG),(33,UG)],[(0,UG),(1,UG),(2,UF (.mix 47 [.pv (.str (a6 m.c)),.gsl 3 3 X6.2.1.length,.gsl 4 5 0])),(3,UF (.gro 138 (bd (tmL X6.2.1)))),(4,UG),(5,UF (.mi X6.2.2 (ay bT X6.1) (br X6.1)))])) 6
  (I:=λX6=>GvI bX m.s X6.1 X6.2.1) (μ:=λX6=>X6.1.length) (x0:=(m.s,[],[])) (TO (aS O) (aO XY) O O) (GvI.start) ?_
 rintro⟨todo,out,cur⟩ hI;try simp only at hI ⊢
 refine Gr O<|RL.call O (fq O O ?_);rintro b rest cur2 ks2 vs2 hN;refine Rs O (cF O O)<|Gc O (λD=>?_) (λD=>?_)
 .obtain⟨_,l1,e,l2,rfl,rfl,rfl,rfl,rfl⟩:=(eQ.ofR hN).resolve_left (by rintro⟨h,_⟩;rw[h]at D;cases D);have M:=hI.mem (e:=e) X2;have hsn:=hI.snoc;have V:=hI.step dI hns;have hz:=pV e.2;rw[Up (zs e M)]at hz;have ad:=uk (h1.s e M);have af:=ni (tmL out);rw[gR]at af;refine TM<|Gr O<|Rs O (er O O)<|Ar 6 O<|Z1 O<|Rs O (aa call113 hz O)<|Gc O (λY=>absurd Y X2) (λY=>?_);refine TM<|Z1 O<|Rs O (aa call112 ad O)<|Ar 5 O<|Z2 O<|Gc O (λZ=>absurd Z X2) (λZ=>?_);refine TM<|Gr O<|Ar 5 O ?_;by_cases he:out=[]
  .have hl0:out.length=0:=by rw[he];rfl
   rw[hl0];refine TN (St.JM (id:=3) (sz:=3) (T':=47) (vs:=[.pv (.str (a6 m.c)),.gsl 3 3 0,.gsl 4 5 0]) 2 1 XY O)<|Z1 O<|Gz O (st:=λz:Nat=>([(1,UG),(2,UG),(6,UG),(7,UG),(11,UG),(12,UF (pIi z)),(33,UG)],[(0,UG),(1,UG),(2,UG),(4,UG),(5,UG),(6,UG),(8,UG)])) 9
    (I:=λz=>z<=out.length/\∀j (hj:j<out.length),j<z->mO out[j].1 e.1=VA) (μ:=λz=>out.length-z) (x0:=(0)) (TO (aS O) (aO XY) O O) (⟨aJ _,λj _ h=>absurd h XX⟩) ?_
   rintro i ⟨hi,hall⟩;refine UB 15 O<|Dr 4 O<|Ds [] O (λτ h=>T6 (Ee h 0 O O) (Ee h 1 O O) O (Up XX)) O XY<|Dr 10 O ?_;refine⟨XY,?_⟩;refine Gc O (λu=>absurd u X2) (λu=>?_);refine Gx O ?_;obtain rfl:i=0:=XX;have r:jD bX e out=[e]:=by rw[he];rfl
   refine UB 14 O<|Dr 10 O<|Ds [_] O (λτ h=>dx 10 Oj (Ee h 0 O O) (Eo h 0 O O) O (.inl ⟨_,(Ee h 1 O O)⟩) O X2 XX (h.n 0 _ O)) O XY<|Ds [_] O (λτ h=>lz 11 Oj (Ee h 0 O O) (.inr ⟨_,_,_,_,(Ee h 1 O O),(Eo h 0 O O),O⟩) O (lP [⟨e.1,a6 e.2⟩]) XX (h.n 0 _ O)) O XY<|Dr 2 O ?_;refine⟨XY,?_⟩;exact⟨(l1++l2,jD bX e out,[bT e.1,da e.2]),TP [0,1,2,11,4,5] (aT O) ⟨XY,XY,ah (λn=>UF (Ob.mix 47 [.pv (.str (a6 m.c)),.gsl 11 3 n,.gsl 4 5 0])) (show 1=(jD bX e out).length by rw[r];rfl),UI (b:=UF (.gro 138 (uB ⟨e.1,a6 e.2⟩))) XY (ah (λc=>UF (Ob.gro 138 c)) (show uB ⟨e.1,a6 e.2⟩=bd (tmL (jD bX e out)) by rw[r];rfl)),XY,XY,X5⟩ O O XZ O,V,X2⟩
  have hpos:0<out.length:=U7.2 he;have W:bd (tmL out)≠[]:=zk hpos;refine TN (St.IW (id:=3) (sz:=3) (k:=out.length) (T:=138) (T':=47) (cs:=bd (tmL out)) (vs:=[.pv (.str (a6 m.c)),.gsl 3 3 out.length,.gsl 4 5 0]) 2 1 XY O XY hpos W)<|Z1 O<|AW.cut (st:=λE:Nat=>mkS [(1,.ptr 0 0),(2,.ptr 1 0),(6,.ptr 2 0),(11,.ptr 8 0),(12,pIi E),(33,.ptr 5 0)] [(0,.mix 130 [.pv (.bool (decide (m.c.num<0))),.pv (pli (ae m.c.num.natAbs)),.pv (.bool (decide ((m.c.den:Int)<0))),.pv (pli (ae (m.c.den:Int).natAbs)),.pv (.mp (ay bT m.s) (br m.s)),.pv (.mp (ay ppP m.p) (br m.p))]),(1,.mix 47 [.pv (.str ⟨#[]⟩),.pv nS,.pv nS]),(2,.mix 47 [.pv (.str (a6 m.c)),.osl 3 3 out.length,.gsl 4 5 0]),(3,.cells 138 (bd (tmL out))),(4,.gro 140 (bj [])),(5,.mi [bT e.1,da e.2] (ay bT (l1++l2)) (br (l1++l2))),(8,.mix 138 [pIi e.1.f,.pv (.str e.1.c),.pv (.str (a6 e.2))])] 9)
   (I:=λE=>E<=out.length/\jD bX e out=out.take E++e::out.drop E) ?_ ?_
  .refine Gz O (st:=λz:Nat=>([(1,UG),(2,UG),(6,UG),(7,UG),(11,UG),(12,UF (pIi z)),(33,UG)],[(0,UG),(1,UG),(2,UG),(3,UG),(4,UG),(5,UG),(6,UG),(8,UG)])) 9
    (I:=λz=>z<=out.length/\∀j (hj:j<out.length),j<z->mO out[j].1 e.1=VA) (μ:=λz=>out.length-z) (x0:=(0)) (TO (aS O) (aO XY) O O) (⟨aJ _,λj _ h=>absurd h XX⟩) ?_
   rintro i ⟨hi,hall⟩;by_cases hi2:i<out.length
   .have hov:((bd (tmL out)).drop (i*3)).take 2=[.int .i64 out[i].1.f,.str out[i].1.c]:=by have:=ah (List.take 2) (sB hi2);rw[Xr]at this;exact this
    have ag:=iB out[i].1 e.1;refine UB 15 O<|Dr 4 O<|Ds [] O (λτ h=>T4 (Ee h 0 O O) (Ee h 1 O O) O (SR XX)) O XY<|Dr 6 O<|Dg [_] O (λτ h=>ma ⟨_,underlying136,O⟩ o7 (Ee h 0 O O) (Eo h 0 O O) hov O) O XY<|D1 O<|Dg [] O (λτ h=>aa call102 ag (h.aE O)) O XY<|D1 O ?_;refine⟨XY,?_⟩;refine Gc O (λu=>?_) (λu=>?_)
    .exact TM<|Z3 O<|⟨(i+1),TO (aS O) (aO XY) O O,⟨XX,λj hj hji=>if h:j<i then hall j hj h else(by obtain rfl:j=i:=XX;exact u)⟩,XX⟩
    exact Gx O<|⟨(i),TO (aS O) (aO XY) O O,⟨hi,mQ hi hall (λ_=>u)⟩⟩
   refine UB 15 O<|Dr 4 O<|Ds [] O (λτ h=>T6 (Ee h 0 O O) (Ee h 1 O O) O (Up XX)) O XY<|Dr 10 O ?_;refine⟨XY,?_⟩;refine Gc O (λu=>absurd u X2) (λu=>?_);exact Gx O<|⟨(i),TO (aS O) (aO XY) O O,⟨hi,mQ hi hall (λh=>absurd h hi2)⟩⟩
  rintro j ⟨hi,r⟩;obtain⟨hdl,hnl,hnf,hcs,hil⟩:=Uk (β:=Par×Rat) (λe=>⟨e.1,a6 e.2⟩) uB 3 (λ_=>rfl) Ui hi r;refine UB 14 O<|Dr 3 O<|Ds [_] O (λτ h=>fG j underlying44 kQ (Ee h 0 O O) (Eo h 0 O O) (Ee h 1 O O) O hi) O XY<|Dr 5 O<|Ds [_] O (λτ h=>ix j underlying44 kQ (Ee h 0 O O) (Eo h 0 O O) (Ee h 1 O O) O hi) O XY<|Ds [_,_] O (λτ h=>bW 10 Oj (Ee h 0 O O) (Eo h 0 O O) (tJ _) (J8.tsl (Ee h 1 O O) (Eo h 1 O O) O hdl) hdl (λc hc=>lP (tmL out) c (V8 hc)) XX (h.n 0 _ O)) O XY<|Ds [_,_] O (λτ h=>bW 11 Oj (Ee h 0 O O) (Eo h 0 O O) XX (k9.any (.inr ⟨_,_,_,_,(Ee h 1 O O),(Eo h 1 O O),O⟩)) hnl hnf XX (h.n 0 _ O)) O XY<|Dr 2 O ?_;refine⟨XY,?_⟩;exact⟨(l1++l2,jD bX e out,[bT e.1,da e.2]),St.le.trans (St.Bh (id:=11) (sz:=3) (k:=j+(1+(out.length-j))) (T:=138) (T':=47) (vs:=[.pv (.str (a6 m.c)),.osl 11 3 (j+(1+(out.length-j))),.gsl 4 5 0]) (cs:=Un 3 (bd (tmL out)) (uB ⟨e.1,a6 e.2⟩) j out.length) 2 1 XY O XY XX (λe0=>zk (l:=jD bX e out) (k:=0) XX (hcs.symm.trans e0))) (TP [0,1,2,11,4,5] (aT O) ⟨XY,XY,ah (λn=>UF (Ob.mix 47 [.pv (.str (a6 m.c)),.gsl 11 3 n,.gsl 4 5 0])) hil,UI (b:=UF (.gro 138 (Un 3 (bd (tmL out)) (uB ⟨e.1,a6 e.2⟩) j out.length))) XY (ah (λc=>UF (Ob.gro 138 c)) hcs),XY,XY,X5⟩ O O XZ O),V,X2⟩
 obtain⟨_,rfl,_⟩:=(eQ.ofR hN).resolve_right (by rintro⟨h,_⟩;rw[h]at D;cases D);have aj:=hI.end dI sa;rw[aj];refine Gx O<|Z2 O<|Rs O (eu 6 underlying128 O O)<|Gz O (st:=λB:List (PP×Rat)×List (PP×Rat)×List PV=>([(2,UG),(6,UG),(85,UG)],[(1,UG),(2,UF (.mix 47 [.pv (.str (a6 m.c)),.gsl 3 3 m.s.length,.gsl 4 5 B.2.1.length])),(3,UG),(4,UF (.gro 140 (bj (prL B.2.1)))),(6,UF (.mi B.2.2 (ay ppP B.1) (br B.1)))])) 7
  (I:=λB=>GvI ca m.p B.1 B.2.1) (μ:=λB=>B.1.length) (x0:=(m.p,[],[])) (TO (aS O) (aO XY) O O) (GvI.start) ?_
 rintro⟨todo,out,cur⟩ hI;try simp only at hI ⊢
 refine Gr O<|RL.call O (fq O O ?_);rintro b rest cur2 ks2 vs2 hN;refine Rs O (cF O O)<|Gc O (λJ=>?_) (λJ=>?_)
 .obtain⟨_,l1,e,l2,rfl,rfl,rfl,rfl,rfl⟩:=(eQ.ofR hN).resolve_left (by rintro⟨h,_⟩;rw[h]at J;cases J);have M:=hI.mem (e:=e) X2;have hsn:=hI.snoc;have V:=hI.step cN hnp;have hz:=pV e.2;rw[Up (zp e M)]at hz;have ad:=uk (h1.p e M);have af:=nj (prL out);rw[gQ]at af;refine TM<|Gr O<|Rs O (er O O)<|Ar 6 O<|Z1 O<|Rs O (aa call113 hz O)<|Gc O (λab=>absurd ab X2) (λab=>?_);refine TM<|Z1 O<|Rs O (aa call112 ad O)<|Ar 5 O<|Z2 O<|Gc O (λac=>absurd ac X2) (λac=>?_);refine TM<|Gr O<|Rs O (fr 0 underlying221 o7 O O O O XZ) ?_;first|refine A3 O X0 ?_|refine A1 O ?_
  refine Rs O (fr 1 underlying221 o7 O O O O XZ) ?_;first|refine A3 O X0 ?_|refine A1 O ?_
  refine Ar 4 O ?_;by_cases he:out=[]
  .have hl0:out.length=0:=by rw[he];rfl
   rw[hl0];refine TN (St.JM (id:=4) (sz:=5) (T':=47) (vs:=[.pv (.str (a6 m.c)),.gsl 3 3 m.s.length,.gsl 4 5 0]) 2 2 XY O)<|Z1 O<|Gz O (st:=λA:Nat=>([(2,UG),(6,UG),(17,UG),(18,UF (pIi A)),(85,UG)],[(1,UG),(2,UG),(3,UG),(6,UG),(9,UG)])) 10
    (I:=λA=>A<=out.length/\∀j (hj:j<out.length),j<A->decide (ca out[j].1 e.1<0)=VA) (μ:=λA=>out.length-A) (x0:=(0)) (TO (aS O) (aO XY) O O) (⟨aJ _,λj _ h=>absurd h XX⟩) ?_
   rintro i ⟨hi,hall⟩;refine UB 14 O<|Dr 4 O<|Ds [] O (λτ h=>T6 (Ee h 0 O O) (Ee h 1 O O) O (Up XX)) O XY<|Dr 9 O ?_;refine⟨XY,?_⟩;refine Gc O (λd=>absurd d X2) (λd=>?_);refine Gx O ?_;obtain rfl:i=0:=XX;have r:jD ca e out=[e]:=by rw[he];rfl
   refine UB 14 O<|Dr 10 O<|Ds [_] O (λτ h=>dx 11 NS (Ee h 0 O O) (Eo h 0 O O) O (.inl ⟨_,(Ee h 1 O O)⟩) O X2 XX (h.n 0 _ O)) O XY<|Ds [_] O (λτ h=>lz 12 NS (Ee h 0 O O) (.inr ⟨_,_,_,_,(Ee h 1 O O),(Eo h 0 O O),O⟩) O (mR [⟨e.1.1,e.1.2,a6 e.2⟩]) XX (h.n 0 _ O)) O XY<|Dr 2 O ?_;refine⟨XY,?_⟩;exact⟨(l1++l2,jD ca e out,[ppP e.1,da e.2]),TP [0,1,2,3,12,5,6] (aT O) ⟨XY,ah (λn=>UF (Ob.mix 47 [.pv (.str (a6 m.c)),.gsl 3 3 m.s.length,.gsl 12 5 n])) (show 1=(jD ca e out).length by rw[r];rfl),XY,UI (b:=UF (.gro 140 (r7 ⟨e.1.1,e.1.2,a6 e.2⟩))) XY (ah (λc=>UF (Ob.gro 140 c)) (show r7 ⟨e.1.1,e.1.2,a6 e.2⟩=bj (prL (jD ca e out)) by rw[r];rfl)),XY,X5⟩ O O XZ O,V,X2⟩
  have hpos:0<out.length:=U7.2 he;have W:bj (prL out)≠[]:=yY hpos;refine TN (St.IW (id:=4) (sz:=5) (k:=out.length) (T:=140) (T':=47) (cs:=bj (prL out)) (vs:=[.pv (.str (a6 m.c)),.gsl 3 3 m.s.length,.gsl 4 5 out.length]) 2 2 XY O XY hpos W)<|Z1 O<|AW.cut (st:=λL:Nat=>mkS [(2,.ptr 1 0),(6,.ptr 2 0),(17,.ptr 9 0),(18,pIi L),(85,.ptr 6 0)] [(1,.mix 47 [.pv (.str ⟨#[]⟩),.pv nS,.pv nS]),(2,.mix 47 [.pv (.str (a6 m.c)),.gsl 3 3 m.s.length,.osl 4 5 out.length]),(3,.gro 138 (bd (tmL m.s))),(4,.cells 140 (bj (prL out))),(6,.mi [ppP e.1,da e.2] (ay ppP (l1++l2)) (br (l1++l2))),(9,.mix 140 [pIi e.1.1.f,.pv (.str e.1.1.c),pIi e.1.2.f,.pv (.str e.1.2.c),.pv (.str (a6 e.2))])] 10)
   (I:=λL=>L<=out.length/\jD ca e out=out.take L++e::out.drop L) ?_ ?_
  .refine Gz O (st:=λA:Nat=>([(2,UG),(6,UG),(17,UG),(18,UF (pIi A)),(85,UG)],[(1,UG),(2,UG),(3,UG),(4,UG),(6,UG),(9,UG)])) 10
        (I:=λA=>A<=out.length/\∀j (hj:j<out.length),j<A->decide (ca out[j].1 e.1<0)=VA) (μ:=λA=>out.length-A) (x0:=(0)) (TO (aS O) (aO XY) O O) (⟨aJ _,λj _ h=>absurd h XX⟩) ?_
   rintro i ⟨hi,hall⟩;by_cases hi2:i<out.length
   .have hov:=tu hi2;have ag:=pU ⟨out[i].1.1,out[i].1.2,a6 out[i].2⟩ ⟨e.1.1,e.1.2,a6 e.2⟩;refine UB 14 O<|Dr 4 O<|Ds [] O (λτ h=>T4 (Ee h 0 O O) (Ee h 1 O O) O (SR XX)) O XY<|Dr 5 O<|Dg [_] O (λτ h=>ma ⟨_,underlying140,O⟩ jU (Ee h 0 O O) (Eo h 0 O O) hov O) O XY<|D1 O<|Dg [] O (λτ h=>aa call103 ag (h.aE O)) O XY<|D1 O ?_;refine⟨XY,?_⟩;refine Gc O (λd=>?_) (λd=>?_)
    .exact TM<|Z3 O<|⟨(i+1),TO (aS O) (aO XY) O O,⟨XX,λj hj hji=>if h:j<i then hall j hj h else(by obtain rfl:j=i:=XX;exact d)⟩,XX⟩
    exact Gx O<|⟨(i),TO (aS O) (aO XY) O O,⟨hi,mQ hi hall (λ_=>d)⟩⟩
   refine UB 14 O<|Dr 4 O<|Ds [] O (λτ h=>T6 (Ee h 0 O O) (Ee h 1 O O) O (Up XX)) O XY<|Dr 9 O ?_;refine⟨XY,?_⟩;refine Gc O (λd=>absurd d X2) (λd=>?_);exact Gx O<|⟨(i),TO (aS O) (aO XY) O O,⟨hi,mQ hi hall (λh=>absurd h hi2)⟩⟩
  rintro j ⟨hi,r⟩;obtain⟨hdl,hnl,hnf,hcs,hil⟩:=Uk (β:=PP×Rat) (λe=>⟨e.1.1,e.1.2,a6 e.2⟩) r7 5 (λ_=>rfl) Ug hi r;refine UB 14 O<|Dr 3 O<|Ds [_] O (λτ h=>fG j underlying45 jU (Ee h 0 O O) (Eo h 0 O O) (Ee h 1 O O) O hi) O XY<|Dr 5 O<|Ds [_] O (λτ h=>ix j underlying45 jU (Ee h 0 O O) (Eo h 0 O O) (Ee h 1 O O) O hi) O XY<|Ds [_,_] O (λτ h=>bW 11 NS (Ee h 0 O O) (Eo h 0 O O) (tJ _) (J8.tsl (Ee h 1 O O) (Eo h 1 O O) O hdl) hdl (λc hc=>mR (prL out) c (V8 hc)) XX (h.n 0 _ O)) O XY<|Ds [_,_] O (λτ h=>bW 12 NS (Ee h 0 O O) (Eo h 0 O O) XX (k9.any (.inr ⟨_,_,_,_,(Ee h 1 O O),(Eo h 1 O O),O⟩)) hnl hnf XX (h.n 0 _ O)) O XY<|Dr 2 O ?_;refine⟨XY,?_⟩;exact⟨(l1++l2,jD ca e out,[ppP e.1,da e.2]),St.le.trans (St.Bh (id:=12) (sz:=5) (k:=j+(1+(out.length-j))) (T:=140) (T':=47) (vs:=[.pv (.str (a6 m.c)),.gsl 3 3 m.s.length,.osl 12 5 (j+(1+(out.length-j)))]) (cs:=Un 5 (bj (prL out)) (r7 ⟨e.1.1,e.1.2,a6 e.2⟩) j out.length) 2 2 XY O XY XX (λe0=>yY (l:=jD ca e out) (k:=0) XX (hcs.symm.trans e0))) (TP [0,1,2,3,12,5,6] (aT O) ⟨XY,ah (λn=>UF (Ob.mix 47 [.pv (.str (a6 m.c)),.gsl 3 3 m.s.length,.gsl 12 5 n])) hil,XY,UI (b:=UF (.gro 140 (Un 5 (bj (prL out)) (r7 ⟨e.1.1,e.1.2,a6 e.2⟩) j out.length))) XY (ah (λc=>UF (Ob.gro 140 c)) hcs),XY,X5⟩ O O XZ O),V,X2⟩
 obtain⟨_,rfl,_⟩:=(eQ.ofR hN).resolve_right (by rintro⟨h,_⟩;rw[h]at J;cases J);have aj:=hI.end cN ap;rw[aj];exact Gx O<|TN (TR (o:=.gro 138 (bd (tmL m.s))) 3 XY O)<|TN (TR (o:=.gro 140 (bj (prL m.p))) 4 XY O)<|Z3 O<|Gt O<|⟨[(2,.ptr 0 0),(3,pIi 0)],[(0,.mix 47 [.pv (.str (a6 m.c)),.pv (.sl UG m.s.length (bd (tmL m.s))),.pv (.sl UG m.p.length (bj (prL m.p)))])],[.agg [.pv (.str (a6 m.c)),.pv (.sl UG m.s.length (bd (tmL m.s))),.pv (.sl UG m.p.length (bj (prL m.p)))],pIi 0],[],1,TP [1] (aT XY) (aP XY) O O XZ O,O,⟨au ⟨_,underlying47,O⟩ EV O O O,X5⟩,O,O,λi o h=>by simp[aA]at h,XZ,O,O⟩
end
section
open Go.RowKit Mk Mm
structure NmOk(p:Par):Prop where
 f: -1<=p.f
 c:p.c=⟨#[]⟩\/fI p.c=VA
 z:p.c.size<=1000
theorem oh(p:Par)(h:NmOk p):FnP prog 101 [bT p] (· = .bool VA):=by
 refine FnP.of func101 O ntmps101 X2 λ_ _ _ _=>?_
 have d:=ow p.c (by have:=h.z;omega);have r:=h.f;have s:((p.c.toList==(⟨#[]⟩:ByteArray).toList)||fI p.c)=VA:=by
  rcases h.c with e|e
  .rw[e,Vh];rfl
  rw[e,XP]
 refine Z2 O<|Z2 O<|Rs O (T4 O O O (SR r))<|Ar 5 O ?_;apply TX 4 10 14 [11,12,13] O X8
 .intro hb7;exact Ar 4 O<|TQ X7 O O O
 .intro hb7;exact Y2 O<|Rg O (aa call170 d O)<|A1 O<|TQ X7 O O O
 exact Y2 O<|Gt O<|⟨_,_,O,O,ah PV.bool s⟩
structure V10(m:MC):Prop where
 f:MF1 m
 sa:Mm.Asc bX m.s
 pa:Mm.Asc ca m.p
 sz:∀e∈m.s,e.2≠0
 pz:∀e∈m.p,e.2≠0
 po:∀e∈m.p,mO e.1.2 e.1.1=WA
 sn:∀e∈m.s,NmOk e.1
 pn:∀e∈m.p,NmOk e.1.1/\NmOk e.1.2
theorem F1.val(h:F1 q):FnP prog 44 [.str (a6 q)] (· = .bool VA):=by
 have d:=(jg q h).sz;have:=Hu (a6 q) (by have:=xJ (a6 q) (rb q h.fits);omega);rwa [rb q h.fits]at this
theorem EB:a6 ((0:Int):Rat)=⟨#[48]⟩:=by decide+kernel
theorem GQ(h:F1 q)(u:q≠0):((a6 q).toList==(⟨#[48]⟩:ByteArray).toList)=WA:=by
 cases e:((a6 q).toList==(⟨#[48]⟩:ByteArray).toList)with
 |false=>rfl
 | true=>
   have r:a6 q=a6 ((0:Int):Rat):=(bytes_inj (eq_of_beq e)).trans EB.symm;have d:=jg q h;have s:=jg ((0:Int):Rat) ⟨by decide+kernel,by decide+kernel⟩;rw[r]at d;have:q.num=0:=d.n.2.symm.trans s.n.2;exact absurd (Rat.num_eq_zero.1 this) u
theorem Dh(m:MC)(h:V10 m):FnP prog 43 [kA m] (· = .bool VA):=by
 refine FnP.of func43 O ntmps43 X2 λ_ _ _ _=>?_
 have ab:=h.f.c.val;have hls:=h.f.ls;have hlp:=h.f.lp;refine Z2 O<|Z2 O<|Rs O (aa call44 ab O)<|A1 O<|Gc O (λJ=>absurd J XZ) (λJ=>?_);refine TM<|Z4 O<|Gz O (st:=λX6:Nat=>([(1,UG),(12,UG),(13,UG),(14,UF (pIi X6))],[(0,UG)])) 1
  (I:=λX6=>X6<=m.s.length) (μ:=λX6=>m.s.length-X6) (x0:=(0)) (TO (aS O) (aO XY) O O) (aJ _) ?_
 rintro i hi;refine Z1 O<|Gp O (λY=>?_) (λY=>?_)
 .have hlt:i<m.s.length:=XX;have B:=sB hlt;have D:=zk hlt;have d:=ak hlt;have L:=(h.f.s _ d).val;have hn:=oh m.s[i].1 (h.sn _ d);have M:=GQ (h.f.s _ d) (h.sz _ d);refine TM<|Z1 O<|Rs O (ag i underlying44 kQ O O O hlt D)<|Rs O (aF ⟨_,underlying138,O⟩ kQ O B O)<|Y3 O ?_;by_cases hp:0<i
  .have hj:i-1<m.s.length:=XX;have z:((bd (tmL m.s)).drop ((i-1)*3)).take 2=[.int .i64 m.s[i-1].1.f,.str m.s[i-1].1.c]:=by have:=ah (List.take 2) (sB hj);rw[Xr]at this;exact this
   have A:=iB m.s[i-1].1 m.s[i].1;rw[show mO m.s[i-1].1 m.s[i].1=VA from SR (UY.1 h.sa (i-1) i hj hlt XX)]at A;refine UB 32 O<|Dr 2 O<|Ds [] O (λτ h=>aa call101 hn (h.aE O)) O XY<|Dr 4 O<|Dg [] O (λτ h=>aa call44 L (h.aE O)) O XY<|Dr 5 O<|Dg [] O (λτ h=>T9 (Ee h 0 O O) (Ee h 1 O O) O M) O XY<|Dr 3 O<|Dg [] O (λτ h=>T4 (Ee h 0 O O) (Ee h 1 O O) O (SR (show((i:Nat):Int)>0 by omega))) O XY ?_;refine Dr 5 O<|Dg [] O (λτ h=>ag (i-1) underlying44 kQ (Ee h 0 O O) (Ee h 1 O O) XX hj D) O XY<|D1 O<|Dg [] O (λτ h=>aF ⟨_,underlying136,O⟩ o7 (Ee h 0 O O) z O) O XY<|Dr 2 O<|Dg [] O (λτ h=>aa call102 A (h.aE O)) O XY<|Dr 3 O ?_;refine⟨XY,?_⟩;refine Gc O (λu=>absurd u XZ) (λu=>?_);exact TM<|Z2 O<|⟨(i+1),TO (aS O) (aO XY) O O,hlt,XX⟩
  refine UB 32 O<|Dr 2 O<|Ds [] O (λτ h=>aa call101 hn (h.aE O)) O XY<|Dr 4 O<|Dg [] O (λτ h=>aa call44 L (h.aE O)) O XY<|Dr 5 O<|Dg [] O (λτ h=>T9 (Ee h 0 O O) (Ee h 1 O O) O M) O XY<|Dr 3 O<|Dg [] O (λτ h=>T6 (Ee h 0 O O) (Ee h 1 O O) O (Up (show ¬ ((i:Nat):Int)>0 by omega))) O XY ?_;refine Dr 14 O ?_;refine⟨XY,?_⟩;refine Gc O (λu=>absurd u XZ) (λu=>?_);exact TM<|Z2 O<|⟨(i+1),TO (aS O) (aO XY) O O,hlt,XX⟩
 refine Gx O<|Z4 O ?_;refine Gz O (st:=λE:Nat=>([(1,UG),(53,UG),(54,UG),(55,UF (pIi E))],[(0,UG)])) 1
  (I:=λE=>E<=m.p.length) (μ:=λE=>m.p.length-E) (x0:=(0)) (TO (aS O) (aO XY) O O) (aJ _) ?_
 rintro j hj;refine Z1 O<|Gp O (λZ=>?_) (λZ=>?_)
 .have hlt:j<m.p.length:=XX;have B:=tu hlt;have D:=yY hlt;have d:=ak hlt;have L:=(h.f.p _ d).val;have V:=oh m.p[j].1.1 (h.pn _ d).1;have W:=oh m.p[j].1.2 (h.pn _ d).2;have A:=iB m.p[j].1.2 m.p[j].1.1;rw[h.po _ d]at A;have M:=GQ (h.f.p _ d) (h.pz _ d);refine TM<|Z1 O<|Rs O (ag j underlying45 jU O O O hlt D)<|Rs O (aF ⟨_,underlying140,O⟩ jU O B O)<|Y3 O ?_;by_cases hp:0<j
  .have hj2:j-1<m.p.length:=XX;have z:=tu hj2;have X:=pU ⟨m.p[j-1].1.1,m.p[j-1].1.2,a6 m.p[j-1].2⟩ ⟨m.p[j].1.1,m.p[j].1.2,a6 m.p[j].2⟩;rw[show decide (ca ((⟨m.p[j-1].1.1,m.p[j-1].1.2,a6 m.p[j-1].2⟩:Prr).a,(⟨m.p[j-1].1.1,m.p[j-1].1.2,a6 m.p[j-1].2⟩:Prr).b) ((⟨m.p[j].1.1,m.p[j].1.2,a6 m.p[j].2⟩:Prr).a,(⟨m.p[j].1.1,m.p[j].1.2,a6 m.p[j].2⟩:Prr).b)<0)=VA from SR (UY.1 h.pa (j-1) j hj2 hlt XX)]at X;refine UB 43 O<|Dr 2 O<|Ds [] O (λτ h=>aa call101 V (h.aE O)) O XY<|Dr 4 O<|Dg [] O (λτ h=>aa call101 W (h.aE O)) O XY<|Dr 7 O<|Dg [] O (λτ h=>aa call102 A (h.aE O)) O XY<|Dr 4 O<|Dg [] O (λτ h=>aa call44 L (h.aE O)) O XY<|Dr 5 O<|Dg [] O (λτ h=>T9 (Ee h 0 O O) (Ee h 1 O O) O M) O XY<|Dr 3 O<|Dg [] O (λτ h=>T4 (Ee h 0 O O) (Ee h 1 O O) O (SR (show((j:Nat):Int)>0 by omega))) O XY ?_;refine Dr 5 O<|Dg [] O (λτ h=>ag (j-1) underlying45 jU (Ee h 0 O O) (Ee h 1 O O) XX hj2 D) O XY<|Dg [] O (λτ h=>aF ⟨_,underlying140,O⟩ jU (Ee h 0 O O) z O) O XY<|D1 O<|Dg [] O (λτ h=>aa call103 X (h.aE O)) O XY<|Dr 3 O ?_;refine⟨XY,?_⟩;refine Gc O (λr=>absurd r XZ) (λr=>?_);exact TM<|Z2 O<|⟨(j+1),TO (aS O) (aO XY) O O,hlt,XX⟩
  refine UB 43 O<|Dr 2 O<|Ds [] O (λτ h=>aa call101 V (h.aE O)) O XY<|Dr 4 O<|Dg [] O (λτ h=>aa call101 W (h.aE O)) O XY<|Dr 7 O<|Dg [] O (λτ h=>aa call102 A (h.aE O)) O XY<|Dr 4 O<|Dg [] O (λτ h=>aa call44 L (h.aE O)) O XY<|Dr 5 O<|Dg [] O (λτ h=>T9 (Ee h 0 O O) (Ee h 1 O O) O M) O XY<|Dr 3 O<|Dg [] O (λτ h=>T6 (Ee h 0 O O) (Ee h 1 O O) O (Up (show ¬ ((j:Nat):Int)>0 by omega))) O XY ?_;refine Dr 12 O ?_;refine⟨XY,?_⟩;refine Gc O (λr=>absurd r XZ) (λr=>?_);exact TM<|Z2 O<|⟨(j+1),TO (aS O) (aO XY) O O,hlt,XX⟩
 exact Gx O<|Z1 O<|Gt O<|⟨_,_,O,O,O⟩
theorem nO(p:Par):lB p p=VA:=by unfold lB;rw[Vh,Vh];rfl
theorem GW(m:MC)(M:m.s.length<=1000000)(W:m.p.length<=1000000):FnP prog 15 [kA m,kA m] (· = .bool VA):=by
 refine FnP.of func15 O ntmps15 X2 λ_ _ _ _=>?_
 have L:(!((a6 m.c).toList==(a6 m.c).toList))=WA:=by rw[Vh];rfl
 refine Z3 O<|Z4 O<|Rs O (T9 O O O L)<|Ar 7 O<|Rg O (T6 O O O (Xf _))<|Ar 8 O<|Rg O (T6 O O O (Xf _))<|A1 O<|Gc O (λz=>absurd z XZ) (λz=>?_);refine TM<|Z4 O<|Gz O (st:=λX6:Nat=>([(2,UG),(3,UG),(32,UG),(33,UF (pIi X6))],[(0,UG),(1,UG)])) 2
  (I:=λX6=>X6<=m.s.length) (μ:=λX6=>m.s.length-X6) (x0:=(0)) (TO (aS O) (aO XY) O O) (aJ _) ?_
 rintro i hi;refine Z1 O<|Gp O (λD=>?_) (λD=>?_)
 .have hlt:i<m.s.length:=XX;have d:=sB hlt;have r:=zk hlt;have J:(!DM ⟨m.s[i].1,a6 m.s[i].2⟩ ⟨m.s[i].1,a6 m.s[i].2⟩)=WA:=by unfold DM;rw[nO,Vh];rfl
  refine TM<|Z2 O<|UB 11 O<|Dr 3 O<|Ds [] O (λτ h=>ag i underlying44 kQ (Ee h 0 O O) (Ee h 1 O O) O hlt r) O XY<|Ds [] O (λτ h=>aF ⟨_,underlying138,O⟩ kQ (Ee h 0 O O) d O) O XY<|Dr 3 O<|Ds [] O (λτ h=>ag i underlying44 kQ (Ee h 0 O O) (Ee h 1 O O) O hlt r) O XY<|Ds [] O (λτ h=>aF ⟨_,underlying138,O⟩ kQ (Ee h 0 O O) d O) O XY<|Ds [] O (λτ h=>XJ.cast (v':=.pv (.bool WA)) (Le (p:=⟨m.s[i].1,a6 m.s[i].2⟩) (q:=⟨m.s[i].1,a6 m.s[i].2⟩) O (Ee h 0 O O) (Ee h 1 O O)) (ah (λb=>V.pv (.bool b)) J)) O XY ?_;refine⟨XY,?_⟩;refine Gc O (λA=>absurd A XZ) (λA=>?_);exact TM<|Z2 O<|⟨(i+1),TO (aS O) (aO XY) O O,hlt,XX⟩
 refine Gx O<|Z4 O ?_;refine Gz O (st:=λu:Nat=>([(2,UG),(3,UG),(50,UG),(51,UF (pIi u))],[(0,UG),(1,UG)])) 2
  (I:=λu=>u<=m.p.length) (μ:=λu=>m.p.length-u) (x0:=(0)) (TO (aS O) (aO XY) O O) (aJ _) ?_
 rintro j hj;refine Z1 O<|Gp O (λE=>?_) (λE=>?_)
 .have hlt:j<m.p.length:=XX;have d:=tu hlt;have r:=yY hlt;have J:(!Eh ⟨m.p[j].1.1,m.p[j].1.2,a6 m.p[j].2⟩ ⟨m.p[j].1.1,m.p[j].1.2,a6 m.p[j].2⟩)=WA:=by unfold Eh;rw[nO,nO,Vh];rfl
  refine TM<|Z2 O<|UB 11 O<|Dr 3 O<|Ds [] O (λτ h=>ag j underlying45 jU (Ee h 0 O O) (Ee h 1 O O) O hlt r) O XY<|Ds [] O (λτ h=>aF ⟨_,underlying140,O⟩ jU (Ee h 0 O O) d O) O XY<|Dr 3 O<|Ds [] O (λτ h=>ag j underlying45 jU (Ee h 0 O O) (Ee h 1 O O) O hlt r) O XY<|Ds [] O (λτ h=>aF ⟨_,underlying140,O⟩ jU (Ee h 0 O O) d O) O XY<|Ds [] O (λτ h=>XJ.cast (v':=.pv (.bool WA)) (KV (p:=⟨m.p[j].1.1,m.p[j].1.2,a6 m.p[j].2⟩) (q:=⟨m.p[j].1.1,m.p[j].1.2,a6 m.p[j].2⟩) O (Ee h 0 O O) (Ee h 1 O O)) (ah (λb=>V.pv (.bool b)) J)) O XY ?_;refine⟨XY,?_⟩;refine Gc O (λB=>absurd B XZ) (λB=>?_);exact TM<|Z2 O<|⟨(j+1),TO (aS O) (aO XY) O O,hlt,XX⟩
 exact Gx O<|Z1 O<|Gt O<|⟨_,_,O,O,O⟩
def O1(k:Rat)(m:MC):MC:=⟨m.c*k,m.s.map λe=>(e.1,e.2*k),m.p.map λe=>(e.1,e.2*k)⟩
theorem vH{cmp:K->K->Int}{l:List (K×Rat)}(k:Rat)(h:Mm.Asc cmp l):Mm.Asc cmp (l.map λe=>(e.1,e.2*k)):=by
 unfold Mm.Asc at*;rw[VW];exact h
theorem HQ{l:List (K×Rat)}{k:Rat}(d:k≠0)(h:∀e∈l,e.2≠0):∀e∈l.map (λe=>(e.1,e.2*k)),e.2≠0:=by grind
theorem Dm(m:MC)(k:Rat)(h:V10 m)(M:F1 k)(A:k≠0)(V:MF1 (O1 k m)):FnP prog 13 [kA m,.str (a6 k)] (· = .tup [kA (O1 k m),.int .i64 0]):=by
 refine FnP.ofC func13 O ntmps13 X2 λ_ _ _ _=>?_
 have W:=Dh m h;have B:=M.val;have D:=pT 0 XZ XZ;have u:=mF dI h.sa;have z:=mF cN h.pa;have E:=yi m u z h.f;have I:=pt k M;have J:=G7 m k u z h.po h.f M.rsm V.c.rsm;have L:=λs p hs hp=>yP (O1 k m) s p hs hp (vH k h.sa) (vH k h.pa) (HQ A h.sz) (HQ A h.pz) V
 refine Z3 O<|Z1 O<|Rs O (aa call43 W O)<|Y3 O<|Rg O (aa call44 B O)<|Y2 O<|Gc O (λd=>absurd d XZ) (λd=>?_);refine TM<|UB 11 O<|Ds [] O (λτ h=>bl [] 2 call45 D (h.args.trans O) O O O trivial XZ (by show(τ.av 2&&(τ.av 3&&VA))=VA;rw[h.n 0 _ O,h.n 1 _ O];rfl)) O XY ?_;refine D1 O<|Ds [] O (λτ h=>aa call47 E (h.aE O)) O XY<|D1 O<|Ds [] O (λτ h=>aa call48 I (h.aE O)) O XY<|DL.rel (RO [2,3] 4 0 (λr ob'=>∃s' p',s'.Perm (m.s.map λe=>(e.1,e.2*k))/\p'.Perm (m.p.map λe=>(e.1,e.2*k))/\r= .agg (lg (m.c*k) big 9001)/\ob'=aA [(big,.mp (ay bT s') (br s')),(9001,.mp (ay ppP p') (br p'))])) [2,3] [] [2,3] O O O (λτ h=>relO (os:=[(big,.mp [] []),(9001,.mp [] [])]) [2,3] 4 call46 J (h.args.trans XY) O O O ⟨(h.o 0 _ O).trans XY,(h.o 1 _ O).trans XY,X5⟩ XZ O) O XY XY XY ?_;rintro _ ⟨_,_,⟨s1,p1,hs1,hp1,rfl,rfl⟩,rfl⟩ _ _;refine Ds [2,3] O (λτ h=>bl [2,3] 4 call49 (L s1 p1 hs1 hp1) (h.args.trans XY) O O O ⟨((h.o 0 _ O).trans XY),((h.o 1 _ O).trans XY),X5⟩ XZ O) O XY<|Dr 4 O ?_;refine⟨XY,?_⟩;exact Gt O<|⟨_,_,O,O,⟨au ⟨_,underlying47,O⟩ EV O O O,X5⟩,O⟩
end
section
namespace Vw
open Mm Jn
set_option autoImplicit false
structure Sup(Q:List Par)(x:Mm.Sem):Prop where
 s:∀p,p∉Q->x.s p=0
 p:∀a b,a∉Q\/b∉Q->x.p a b=0
theorem Sup.add{Q:List Par}{x y:Mm.Sem}(d:Sup Q x)(r:Sup Q y):Sup Q (Mm.Sem.add x y):=
 ⟨λp h=>by show x.s p+y.s p=0;rw[d.s p h,r.s p h,XN],λa b h=>by show x.p a b+y.p a b=0;rw[d.p a b h,r.p a b h,XN]⟩
theorem Sup.mul{Q:List Par}{x y:Mm.Sem}(d:Sup Q x)(r:Sup Q y):Sup Q (Mm.Sem.mul x y):=by
 refine⟨λp h=>?_,λa b h=>?_⟩
 .show x.c*y.s p+y.c*x.s p=0;rw[d.s p h,r.s p h,WW,WW,XN]
 show x.c*y.p a b+y.c*x.p a b+(x.s a*y.s b+x.s b*y.s a)=0;rw[d.p a b h,r.p a b h];rcases h with h|h
 .rw[d.s a h,r.s a h];grind
 rw[d.s b h,r.s b h];grind
theorem Sup.cnt(Q:List Par)(n:Int):Sup Q (cnt n):=⟨λ_ _=>rfl,λ_ _ _=>rfl⟩
theorem Sup.lft{Q:List Par}{p:Par}(h:p∈Q)(x:Rat):Sup Q (lft p x):=by
 refine⟨λq hq=>?_,λa b hq=>?_⟩
 .unfold Mm.lft;refine pF ?_;intro e;exact hq (e▸h)
 unfold Mm.lft;refine pF ?_;rintro⟨rfl,rfl⟩;rcases hq with hq|hq<;>exact hq h
structure Gv where
 m:Mm.Sem
 n:Nat
 w:Nat
 k:Nat
def Gv.mul(a b:Gv):Gv:=⟨Mm.Sem.mul a.m b.m,a.n*b.n,a.w*b.w,a.k+b.k⟩
def Gv.add(a b:Gv):Gv:=⟨Mm.Sem.add a.m b.m,a.n+b.n,a.w+b.w,max a.k b.k⟩
def Gv.whole(w:Nat):Gv:=⟨cnt w,1,w,0⟩
structure GvOk(Q:List Par)(g:Gv):Prop where
 s:SOk g.w g.k g.m
 q:Sup Q g.m
theorem GvOk.mul{Q:List Par}{a b:Gv}(d:GvOk Q a)(r:GvOk Q b):GvOk Q (a.mul b):=⟨d.s.mul r.s,d.q.mul r.q⟩
theorem GvOk.add{Q:List Par}{a b:Gv}(d:GvOk Q a)(r:GvOk Q b):GvOk Q (a.add b):=
 ⟨(d.s.up (tJ _) (Nat.le_max_left _ _)).add (r.s.up (tJ _) (Nat.le_max_right _ _)),d.q.add r.q⟩
theorem GvOk.whole(Q:List Par)(w:Nat):GvOk Q (Gv.whole w):=⟨oD w,Sup.cnt Q w⟩
structure Msr(f:Gv->Nat):Prop where
 mul:∀a b,f (a.mul b)=f a*f b
 add:∀a b,f (a.add b)=f a+f b
theorem msr_n:Msr Gv.n:=⟨λ_ _=>rfl,λ_ _=>rfl⟩
theorem ya:Msr Gv.w:=⟨λ_ _=>rfl,λ_ _=>rfl⟩
structure Itm where
 v:List ByteArray
 g:Gv
structure Prt where
 a:List Int
 is:List Itm
structure Ch where
 v:List ByteArray
 s:List Bool
def agr1(x:Ch)(p:Int×ByteArray):Bool:= !x.s.getD p.1.toNat WA||decide (x.v.getD p.1.toNat ⟨#[]⟩=p.2)
def ER(x:Ch)(A:List Int)(V:List ByteArray):Bool:=(A.zip V).all (agr1 x)
def EX(x:Ch)(p:Int×ByteArray):Ch:=⟨x.v.set p.1.toNat p.2,x.s.set p.1.toNat VA⟩
def yz(x:Ch)(A:List Int)(V:List ByteArray):Ch:=(A.zip V).foldl EX x
def leaves:List Prt->Ch->Gv->List (Ch×Gv)
 |[],x,g=>[(x,g)]
 |p::ps,x,g=>p.is.flatMap λi=>if ER x p.a i.v=VA then leaves ps (yz x p.a i.v) (g.mul i.g)else []
theorem BG:∀(Z:List (Int×ByteArray))(x:Ch),(Z.foldl EX x).v.length=x.v.length/\(Z.foldl EX x).s.length=x.s.length
 |[],x=>⟨O,O⟩
 | p::Z,x=>by
   have h:=BG Z (EX x p);simp only[EX,Ut]at h;exact h
theorem Ey{I:Ch->Gv->Prop}{ps:List Prt}:∀{x:Ch}{g:Gv},I x g->(∀p∈ps,∀i∈p.is,∀x g,I x g->ER x p.a i.v=VA->I (yz x p.a i.v) (g.mul i.g))->∀l∈leaves ps x g,I l.1 l.2:=by
 induction ps with
 |nil=>intro x g h _ l hl;simp only[leaves,IT]at hl;subst hl;exact h
 | cons p ps ih=>
   intro x g h hs l hl;rw[leaves,UU]at hl;obtain⟨i,hi,hl⟩:=hl;split at hl
   .grind
   simp at hl
def cD:List Nat->Nat
 |[]=>1
 |a::l=>a*cD l
theorem dS:∀l m:List Nat,cD (l++m)=cD l*cD m
 |[],m=>by simp[cD]
 |a::l,m=>by simp only[VI,cD,dS l m,Vm]
theorem pg{M:Nat}(hM:1<=M):∀{l:List Nat}{j:Nat},(∀a∈l,a<=M)->l.length<=j->cD l<=M^j
 |[],j,_,_=>Nat.one_le_pow _ _ hM
 |a::l,0,_,h=>by simp at h
 | a::l,j+1,ha,h=>by
   rw[cD,Vc,U8];exact Va (pg hM (λb hb=>ha b (by simp[hb])) (by simpa using h)) (ha a X2)
theorem oG{f g:α->Nat}:∀{l:List α},(∀a∈l,f a<=g a)->cD (l.map f)<=cD (l.map g)
 |[],_=>tJ _
 |a::l,h=>Va (h a X2) (oG λb hb=>h b (by simp[hb]))
def Prt.tot(f:Gv->Nat)(p:Prt):Nat:=(p.is.map λi=>f i.g).sum
theorem Cc(f:α->List Nat):∀l:List α,(l.flatMap f).sum=(l.map λa=>(f a).sum).sum
 |[]=>rfl
 |a::l=>by rw[UJ,List.sum_append,cd,U4,Cc f l]
theorem ye{f g:α->Nat}:∀{l:List α},(∀a∈l,f a<=g a)->(l.map f).sum<=(l.map g).sum
 |[],_=>tJ _
 |a::l,h=>by simp only[cd,U4];exact Nat.add_le_add (h a X2) (ye λb hb=>h b (by simp[hb]))
theorem AD(c:Nat):∀l:List Nat,(l.map λa=>c*a).sum=c*l.sum
 |[]=>by simp
 |a::l=>by simp only[cd,U4,AD c l,Wd]
theorem Es{f:Gv->Nat}(s:Msr f){ps:List Prt}:∀{x:Ch}{g:Gv},((leaves ps x g).map λl=>f l.2).sum<=f g*cD (ps.map (Prt.tot f)):=by
 induction ps with
 |nil=>intro x g;simp[leaves,cD]
 | cons p ps ih=>
   intro x g;rw[leaves,Wv,Cc,cd,cD];have r:(p.is.map λi=>((if ER x p.a i.v=VA then leaves ps (yz x p.a i.v) (g.mul i.g)else []).map λl=>f l.2).sum).sum<=(p.is.map λi=>f g*cD (ps.map (Prt.tot f))*f i.g).sum:=by
    refine ye λi _=>?_
    split
    .have:=ih (x:=yz x p.a i.v) (g:=g.mul i.g);rw[s.mul]at this;refine AI this (Vl ?_);rw[Vm,U8 (f i.g),<-Vm]
    simp
   refine AI r (Vl ?_);have d:=AD (f g*cD (ps.map (Prt.tot f))) (p.is.map λi=>f i.g);rw[Vb]at d;refine UI d ?_;show f g*cD _*Prt.tot f p=f g*(Prt.tot f p*cD _);rw[Vm,U8 (cD _)]
def Prt.km(p:Prt):Nat:=p.is.foldr (λi z=>max i.g.k z) 0
theorem mk_le{p:Prt}{i:Itm}(h:i∈p.is):i.g.k<=p.km:=by
 unfold Prt.km
 revert h
 induction p.is with
 |nil=>intro h;simp at h
 | cons j l ih=>
   intro h;simp only[List.foldr_cons];rcases By.1 h with rfl|h
   .exact Nat.le_max_left _ _
   grind
theorem Rk{p:Prt}{K:Nat}(h:∀i∈p.is,i.g.k<=K):p.km<=K:=by
 unfold Prt.km
 revert h
 induction p.is with
 |nil=>intro _;exact aJ _
 |cons j l ih=>intro h;exact Nat.max_le.2 ⟨h j X2,ih λi hi=>h i (by simp[hi])⟩
theorem BD{ps:List Prt}:∀{x:Ch}{g:Gv},∀l∈leaves ps x g,l.2.k<=g.k+(ps.map Prt.km).sum:=by
 induction ps with
 |nil=>intro x g l hl;simp only[leaves,IT]at hl;subst hl;simp
 | cons p ps ih=>
   intro x g l hl;rw[leaves,UU]at hl;obtain⟨i,hi,hl⟩:=hl;split at hl
   .have:=ih l hl;have d:=mk_le hi;simp only[cd,U4];have e:(g.mul i.g).k=g.k+i.g.k:=rfl;omega
   simp at hl
structure En where
 t:ByteArray
 v:List ByteArray
 g:Gv
def jnt(v:List ByteArray):ByteArray:=⟨(Lib.join (v.map (·.data.toList)) [0]).toArray⟩
def sO(E:List En)(t:ByteArray):Option Nat:=E.findIdx? λe=>decide (e.t=t)
def sw(E:List En)(v:List ByteArray)(g:Gv):List En:=match sO E (jnt v)with
 |some i=>E.set i ⟨jnt v,v,g.add (E.getD i ⟨jnt v,v,g⟩).g⟩
 |none=>E++[⟨jnt v,v,g⟩]
theorem fe{E:List En}(h:sO E t=UF i):∃hi:i<E.length,E[i].t=t/\∀j (d:j<i),(E[j]'XX).t≠t:=by
 obtain⟨hi,h1,h2⟩:=V4.1 h;exact⟨hi,by simpa using h1,λj d=>by have:=h2 j d;simpa using this⟩
theorem mz{E:List En}(h:sO E t=UG):∀e∈E,e.t≠t:=by
 intro e he;have:=List.findIdx?_eq_none_iff.1 h e he;simpa using this
theorem fy(E:List En)(v:List ByteArray)(g:Gv):(∃i,∃hi:i<E.length,sO E (jnt v)=UF i/\sw E v g=E.set i ⟨jnt v,v,g.add E[i].g⟩/\E[i].t=jnt v)\/(sO E (jnt v)=UG/\sw E v g=E++[⟨jnt v,v,g⟩]/\∀e∈E,e.t≠jnt v):=by grind[sw,sO,jnt,fe,List.getD,mz]
theorem KS(E:List En)(v:List ByteArray)(g:Gv):E.length<=(sw E v g).length:=by
 rcases fy E v g with⟨i,hi,_,e,_⟩|⟨_,e,_⟩<;>rw[e]<;>simp
structure EnOk(E:List En):Prop where
 nd:(E.map (·.t)).Nodup
 t:∀e∈E,e.t=jnt e.v
theorem EnOk.nil:EnOk []:=⟨List.nodup_nil,λ_ h=>absurd h X2⟩
theorem Qy{E:List En}(h:EnOk E)(v:List ByteArray)(g:Gv):EnOk (sw E v g):=by
 rcases fy E v g with⟨i,hi,_,e,ht⟩|⟨_,e,hn⟩<;>rw[e]
 .refine⟨?_,λx hx=>?_⟩
  .rw[U9];have d:(E.map (·.t)).set i ((E.map (·.t))[i]'(by simpa using hi))=E.map (·.t):=List.set_getElem_self _;simp only[VC,ht]at d;show((E.map (·.t)).set i (jnt v)).Nodup;rw[d];exact h.nd
  rcases List.mem_or_eq_of_mem_set hx with hx|rfl
  .exact h.t x hx
  .rfl
 refine⟨?_,λx hx=>?_⟩
 .rw[UO,Wi];refine⟨h.nd,X2,λa ha b hb e2=>?_⟩;obtain⟨x,hx,rfl⟩:=IS.1 ha;simp at hb;exact hn x hx (e2.trans hb)
 rcases UN.1 hx with hx|hx
 .exact h.t x hx
 simp at hx;subst hx;rfl
theorem M4{E:List En}{v:List ByteArray}{g:Gv}{x:En}(h:x∈sw E v g):x∈E\/(x.v=v/\(x.g=g\/∃y∈E,y.t=jnt v/\x.g=g.add y.g)):=by
 rcases fy E v g with⟨i,hi,_,e,ht⟩|⟨_,e,hn⟩<;>rw[e]at h
 .grind
 grind
def gP(f:Gv->Nat)(E:List En):Nat:=(E.map λe=>f e.g).sum
theorem Jy{f:Gv->Nat}:∀{E:List En}{i:Nat}(d:i<E.length)(e:En),gP f (E.set i e)+f E[i].g=gP f E+f e.g
 |x::E,0,_,e=>by simp only[gP,List.set_cons_zero,cd,U4,List.getElem_cons_zero];omega
 | x::E,i+1,d,e=>by
   have:=Jy (f:=f) (E:=E) (i:=i) (by simpa using d) e;simp only[gP,List.set_cons_succ,cd,U4,List.getElem_cons_succ]at this ⊢;omega
theorem uc{f:Gv->Nat}(d:Msr f)(E:List En)(v:List ByteArray)(g:Gv):gP f (sw E v g)=gP f E+f g:=by
 rcases fy E v g with⟨i,hi,_,e,ht⟩|⟨_,e,hn⟩<;>rw[e]
 .have:=Jy (f:=f) hi ⟨jnt v,v,g.add E[i].g⟩;simp only[d.add]at this;omega
 simp[gP]
def lG(K:List Int)(x:Ch):List ByteArray:=K.map λa=>x.v.getD a.toNat ⟨#[]⟩
open Classical in
noncomputable def stepE(lf:ByteArray->Gv)(v:Int)(K:List Int)(E:List En)(l:Ch×Gv):List En:=
 if(l.2.mul (lf (l.1.v.getD v.toNat ⟨#[]⟩))).m=Mm.Sem.zero then E else sw E (lG K l.1) (l.2.mul (lf (l.1.v.getD v.toNat ⟨#[]⟩)))
noncomputable def foldE(lf:ByteArray->Gv)(v:Int)(K:List Int)(E:List En)(ls:List (Ch×Gv)):List En:=ls.foldl (stepE lf v K) E
def ch0(n:Nat):Ch:=⟨List.replicate n ⟨#[]⟩,List.replicate n WA⟩
noncomputable def viewE(lf:ByteArray->Gv)(n:Nat)(v:Int)(K:List Int)(ps:List Prt):List En:=foldE lf v K [] (leaves ps (ch0 n) (Gv.whole 1))
section
variable {lf:ByteArray->Gv}{v:Int}{K:List Int}
theorem fQ(E:List En)(l:Ch×Gv):stepE lf v K E l=E\/stepE lf v K E l=sw E (lG K l.1) (l.2.mul (lf (l.1.v.getD v.toNat ⟨#[]⟩))):=by
 unfold stepE;split
 .exact .inl O
 exact .inr O
theorem Jc(E:List En)(l:Ch×Gv):E.length<=(stepE lf v K E l).length:=by
 rcases fQ (lf:=lf) (v:=v) (K:=K) E l with e|e<;>rw[e]
 .exact tJ _
 exact KS _ _ _
theorem vP:∀(ls:List (Ch×Gv))(E:List En),E.length<=(foldE lf v K E ls).length
 |[],_=>tJ _
 |l::ls,E=>AI (Jc E l) (vP ls _)
theorem qe(E:List En)(a b:List (Ch×Gv)):foldE lf v K E (a++b)=foldE lf v K (foldE lf v K E a) b:=W5
theorem CL:∀(ls:List (Ch×Gv)){E:List En},EnOk E->EnOk (foldE lf v K E ls)
 |[],_,h=>h
 | l::ls,E,h=>by
   refine CL ls ?_;rcases fQ (lf:=lf) (v:=v) (K:=K) E l with e|e<;>rw[e]
   .exact h
   exact Qy h _ _
theorem mA{I:En->Prop}(d:∀x y:En,I x->I y->∀t,I ⟨t,x.v,x.g.add y.g⟩):∀(ls:List (Ch×Gv)){E:List En},(∀e∈E,I e)->(∀l∈ls,I ⟨jnt (lG K l.1),lG K l.1,l.2.mul (lf (l.1.v.getD v.toNat ⟨#[]⟩))⟩)->∀e∈foldE lf v K E ls,I e
 |[],_,h,_=>h
 | l::ls,E,h,hl=>by
   refine mA d ls ?_ λx hx=>hl x (by simp[hx])
   rcases fQ (lf:=lf) (v:=v) (K:=K) E l with e|e<;>rw[e]
   .exact h
   .intro x hx;have r:=hl l X2;obtain⟨t,xv,xg⟩:=x;have s:t=jnt xv\/⟨t,xv,xg⟩∈E:=by
     rcases fy E (lG K l.1) (l.2.mul (lf (l.1.v.getD v.toNat ⟨#[]⟩)))with⟨i,hi,_,e2,_⟩|⟨_,e2,_⟩<;>rw[e2]at hx
     .grind
     grind
    rcases M4 hx with hx|⟨rfl,rfl|⟨y,hy,_,rfl⟩⟩
    .exact h _ hx
    .grind
    exact d _ y r (h y hy) t
theorem xT{f:Gv->Nat}(d:Msr f)(r:∀t,f (lf t)=1):∀(ls:List (Ch×Gv))(E:List En),gP f (foldE lf v K E ls)<=gP f E+(ls.map λl=>f l.2).sum
 |[],E=>by simp[foldE]
 | l::ls,E=>by
   have:=xT d r ls (stepE lf v K E l);have e:gP f (stepE lf v K E l)<=gP f E+f l.2:=by
    rcases fQ (lf:=lf) (v:=v) (K:=K) E l with e|e<;>rw[e]
    .omega
    rw[uc d,d.mul,r,Uv];exact tJ _
   simp only[cd,U4];show gP f (foldE lf v K (stepE lf v K E l) ls)<=_;omega
theorem Bp{f:Gv->Nat}(d:Msr f):∀(ls:List (Ch×Gv))(E:List En),gP f E<=gP f (foldE lf v K E ls)
 |[],E=>tJ _
 | l::ls,E=>by
   refine AI ?_ (Bp d ls (stepE lf v K E l));rcases fQ (lf:=lf) (v:=v) (K:=K) E l with e|e<;>rw[e]
   .exact tJ _
   rw[uc d];omega
theorem wU{f:Gv->Nat}(d:Msr f)(s:∀t,f (lf t)=1)(u:f (Gv.whole 1)=1)(n:Nat)(ps:List Prt):gP f (viewE lf n v K ps)<=cD (ps.map (Prt.tot f)):=by
 have z:=xT (lf:=lf) (v:=v) (K:=K) d s (leaves ps (ch0 n) (Gv.whole 1)) [];have r:=Es d (ps:=ps) (x:=ch0 n) (g:=Gv.whole 1);rw[u,XK]at r;have A:gP f []=0:=rfl;unfold viewE;omega
end
theorem Na:∀(v:List ByteArray)(M:Nat),(∀t∈v,t.size<=M)->(Lib.join (v.map (·.data.toList)) [0]).length<=v.length*(M+1)
 |[],M,_=>by simp[Lib.join]
 | x::r,M,h=>by
   rw[cd,Lib.join_cons,D8];have h1:x.data.toList.length<=M:=by rw[UR];exact h x X2
   have s:∀r:List ByteArray,(∀t∈r,t.size<=M)->(Lib.joinTail [0] (r.map (·.data.toList))).length<=r.length*(M+1):=λr=>by
    induction r with
    |nil=>intro _;simp[Lib.joinTail]
    | cons y r ih=>
      intro hy;have d:=ih λt ht=>hy t (by simp[ht])
      have u:y.data.toList.length<=M:=by rw[UR];exact hy y X2
      simp only[Lib.joinTail,cd,List.flatten_cons,D8,Uu,IN,V6]at d ⊢;rw[XT];omega
   have d:=s r λt ht=>h t (by simp[ht])
   rw[IN,XT];omega
theorem Ri{E:List En}(h:∀e∈E,1<=e.g.n):E.length<=gP Gv.n E:=by
 induction E with
 |nil=>exact aJ _
 | cons e E ih=>
   have r:=h e X2;have d:=ih λx hx=>h x (by simp[hx])
   simp only[gP,cd,U4,IN]at d ⊢;omega
theorem zN{f:Gv->Nat}{E:List En}{e:En}(h:e∈E):f e.g<=gP f E:=by
 induction E with
 |nil=>simp at h
 | cons x E ih=>
   simp only[gP,cd,U4];rcases By.1 h with rfl|h
   .omega
   grind[gP]
end Vw
end
section
open Mk Jn
set_option autoImplicit false

def Zf(x:ByteArray):Prop:=(0:UInt8)∉x.data.toList


end
section
open Mk Jn
theorem Agr.P5{ops:Array Oper}{τ:St}{s:OS}{rd:List Nat}{y:Operand}{xs:Array Operand}{ts:Array TypeId}{dst:Option Tmp}{ty:TypeId}{pos:String}{after:Array Edge}{gd:Option (Nat×Bool)}
  (h:Agr n ops ⟨dst,.call { callee:=.value y,args:=xs,argTypes:=ts },ty,pos,after,gd⟩ σ τ s rd):xs.toList.map (τ.ev n)=xs.toList.map (σ.ev n):=by
 apply UT;intro x hx;obtain⟨i,hi⟩:=VE hx;exact h.e (i+1) x (by simpa[Op.operands,Call.operands,WZ]using hi)

abbrev bA(ll:List (List Int)):PV:=.sl UG ll.length (ll.map aq)
theorem gM(h:k<ll.length):(ll.map aq)[k*1]? =UF (aq ll[k]):=by simp[h]
theorem gv(h:k<ll.length):ll.map aq≠[]:=λe=>by have:=ah List.length e;simp at this;rw[this]at h;simp at h
structure VD where
 chs:List (List Int)
 kes:List (List Int)
 hos:List (List Int)
 wa:List Int
section
theorem uu(S:Sch)(P:List Int)(v:Int):(gh S P v).length<=P.length:=by
 unfold gh NU;rw[(oB _).length_eq];exact AI (VZ ..) (j5 P v)
end
end
section
def pcN(k n:Nat):Nat:=(List.range k).countP λi=>n.testBit i
theorem A7(k n:Nat):pcN (k+1) n=n%2+pcN k (n/2):=by
 unfold pcN;rw[List.range_succ_eq_map,List.countP_cons,List.countP_map];have e:((λi=>n.testBit i)∘Nat.succ)=λi=>(n/2).testBit i:=by
  funext i;simp[Nat.testBit_succ]
 rw[e,WZ]
 congr 1
 rw[Nat.testBit_zero];rcases Nat.mod_two_eq_zero_or_one n with h|h<;>simp[h]
theorem yo(h:n≠0):(n&&&(n-1))%2=0/\(n&&&(n-1))/2=if n%2=0 then(n/2)&&&(n/2-1)else n/2:=by
 constructor
 .have:=Nat.and_mod_two_pow (a:=n) (b:=n-1) (n:=1);simp only[Nat.pow_one]at this;rw[this];rcases Nat.mod_two_eq_zero_or_one n with e|e
  .rw[e];simp
  grind
 have:(n&&&(n-1))/2=n/2&&&(n-1)/2:=by
  apply Nat.eq_of_testBit_eq;intro i;rw[<-Nat.testBit_succ,Nat.testBit_and,Nat.testBit_and,Nat.testBit_succ,Nat.testBit_succ]
 rw[this];split
 .grind
 grind
theorem BS:∀k n,n<2^k->n≠0->pcN k (n&&&(n-1))+1=pcN k n
 |0,n,h,h0=>by simp at h;omega
 | k+1,n,h,h0=>by
   rw[A7,A7];obtain⟨h1,h2⟩:=yo h0;rw[h1,h2];split
   .rename_i e;have:=BS k (n/2) (by rw[Vc]at h;omega) XX;omega
   omega
theorem LF{x:B64}(h:x≠0#64):lL (x&&&(x-1#64))+1=lL x:=by
 have d:x.toNat≠0:=λe=>h (BitVec.eq_of_toNat_eq (by simpa using e))
 have r:=x.isLt;have e:(x&&&(x-1#64)).toNat=x.toNat&&&(x.toNat-1):=by grind
 have:=BS 64 x.toNat r d;rw[<-e]at this;exact this
noncomputable def widW(p:B64->Nat)(G:List B64)(rest:B64):Nat:=(compsN G rest G.length).1.foldl (λm c=>max m (p c)) 0
noncomputable def minW(w:B64->Nat)(G:List B64)(c:B64)(k:Nat):Nat:=(List.range k).foldl (λm a=>if c.getLsbD a=VA then min m (w (c&&& ~~~(BitVec.twoPow 64 a)))else m) (G.length+1)
noncomputable def nearB(G:List B64)(c:B64):B64:=bitsOf λi=>(List.range G.length).any λb=>c.getLsbD b&&(G.getD b 0#64).getLsbD i
noncomputable def keyN(G:List B64)(c:B64):Nat:=lL (nearB G c&&& ~~~c)
noncomputable def parF(G:List B64):Nat->B64->Nat
 |0,_=>0
 |f+1,c=>max (minW (widW (parF G f) G) G c G.length) (keyN G c+1)
noncomputable def partV(G:List B64)(c:B64):Nat:=parF G 64 c
noncomputable def widV(G:List B64)(rest:B64):Nat:=widW (partV G) G rest
def InB(n:Nat)(c:B64):Prop:=∀i,c.getLsbD i=VA->i<n

noncomputable def leastF(G:List B64)(most:Nat):Nat->B64->List Int
 |0,_=>[]
 | f+1,rest=>match (List.range G.length).find? (λa=>rest.getLsbD a&&decide (widV G (compB G rest a&&& ~~~(BitVec.twoPow 64 a))<=most))with
   |some a=>(a:Int)::leastF G most f (rest&&& ~~~(BitVec.twoPow 64 a))
   |none=>[]
noncomputable def leastL(G:List B64):List Int:=leastF G (widV G (J6 G.length)) G.length (J6 G.length)
end
section
open Mk
theorem Jf(x:B64):FnP prog 68 [gV x] (· = .int .i64 (lL x)):=by
 refine FnP.of func68 O ntmps68 X2 λ_ _ _ _=>?_
 refine Z1 O<|Z1 O<|Gl O (st:=λX6:B64×Nat=>mkS [(0,.pv (gV X6.1)),(3,pIi X6.2)] [] 0)
  (I:=λX6=>X6.2+lL X6.1=lL x) (μ:=λX6=>lL X6.1) (x0:=(x,0)) (TO (aS O) trivial O O) X2 ?_
 rintro⟨y,k⟩ hk;try simp only at hk ⊢
 have r:=H9 x;refine Z1 O<|Rs O (I4 (Y:=0#64) O O)<|Gp O (λd=>?_) (λd=>?_)
 .have hp:=LF d;exact TM<|Z3 O<|Z2 O<|Rs O (Pm (Y:=1#64) O O)<|Rs O (y9 O O)<|A1 O<|⟨(y&&&(y-1#64),k+1),TO (aS O) trivial O O,X4,X4⟩
 have hz:y=0#64:=U1 d;subst hz;exact Gx O<|Z2 O<|Gt O<|⟨_,_,O,O,by rw[<-hk];rfl⟩
end
section
open Mk Jn
def l6(X:B64)(k:Nat):List Int:=((List.range k).filter λa=>X.getLsbD a).map Int.ofNat
theorem sg(X:B64)(k:Nat):l6 X (k+1)=l6 X k++if X.getLsbD k=VA then [(k:Int)]else []:=by grind[l6,Xn]
theorem KX{X:B64}(h:X>>>a=0#64):∀b,a<=b->X.getLsbD b=WA:=by
 intro b hb;have:=ah (λz=>z.getLsbD (b-a)) h;simp only[BitVec.getLsbD_ushiftRight,BitVec.getLsbD_zero]at this;rwa [show a+(b-a)=b by omega]at this
theorem Q4{X:B64}(h:InB n X):X>>>n=0#64:=by
 apply BitVec.eq_of_getLsbD_eq;intro i hi;simp only[BitVec.getLsbD_ushiftRight,BitVec.getLsbD_zero];cases hb:X.getLsbD (n+i)with
 |false=>rfl
 |true=>have:=h _ hb;omega
theorem I2{X:B64}(h:X>>>a=0#64)(d:a<=n):l6 X n=l6 X a:=by
 induction n with
 |zero=>rw[show a=0 by omega]
 | succ n ih=>
   rcases We n a with h1|h1
   .rw[show a=n+1 by omega]
   grind[sg,KX]
theorem GS(X:B64)(n:Nat)(B:n<=60)(A:InB n X):FnP prog 70 [gV X] (· =aq (l6 X n)):=by
 refine FnP.of func70 O ntmps70 X2 λ_ _ _ _=>?_
 have u:=Q4 A;refine Z1 O<|Z1 O<|TN (TU 3 0 1 3 O O)<|Z1 O<|Gl O (st:=λX6:Nat×List Int=>mkS [(0,.pv (gV X)),(3,.gsl 0 1 X6.2.length),(4,pIi X6.1)] [(0,.gro 3 (aN X6.2))] 1)
  (I:=λX6=>(X6.1<=n/\X6.2.length<=X6.1)/\X6.2=l6 X X6.1) (μ:=λX6=>n-X6.1) (x0:=(0,[])) (TO (aS O) (aO O) O O) (⟨⟨aJ _,tJ _⟩,O⟩) ?_
 rintro⟨a,q⟩ ⟨⟨ha,hqa⟩,hq⟩;try simp only at ha hqa hq ⊢
 refine Z2 O<|Rs O (Ip a O O O XX)<|Rs O (I4 (Y:=0#64) O O)<|Gp O (λr=>?_) (λr=>?_)
 .have hlt:a<n:=by rcases We a n with h|h;exact h;exact absurd (by rw[show a=n by omega];exact u) r
  have z:(aN q).length=q.length*1:=X2;have s:=sg X a;refine TM<|Z2 O<|Rs O (aa call131 (R8 X a XX) O)<|Gc O (λd=>?_) (λd=>?_)
  .exact Gr O<|Ar 5 O<|Z3 O<|⟨(a+1,q++[(a:Int)]),TP [2] ⟨O,ah (λn=>V.gsl 2 1 n) (lj q _),O,X5⟩ ⟨ah (λc=>UF (Ob.gro 3 c)) X2,X5⟩ O O XZ O,⟨⟨X4,by simp only[D8,Uu];omega⟩,by simp only;rw[s,AT d,<-hq]⟩,X4⟩
  exact TM<|Z3 O<|⟨(a+1,q),TO (aS O) (aO O) O O,⟨⟨X4,X4⟩,by simp only;rw[s,pF (by rw[d];decide),Vg,<-hq]⟩,X4⟩
 have hz:X>>>a=0#64:=U1 r;rw[<-I2 hz ha]at hq;exact TN (TR 0 O O)<|Gx O<|Z2 O<|Gt O<|⟨_,_,O,O,by rw[<-hq];rfl⟩
def cc{α:Type}(D:List α)(us:List (Nat×α)):List α:=us.foldl (λD u=>D.set u.1 u.2) D
theorem dJ(D:List α)(us:List (Nat×α)):(cc D us).length=D.length:=by
 unfold cc;induction us generalizing D with
 |nil=>rfl
 |cons u us ih=>rw[VO,ih,Ut]
theorem iF(D:List α)(us vs:List (Nat×α)):cc D (us++vs)=cc (cc D us) vs:=W5
section
variable (P:List Int)(G:List B64)
def ju:Nat->Int->B64
 |0,v=>G.getD v.toNat 0#64
 |k+1,v=>(aC P v).foldl (λz c=>z|||ju k c) (G.getD v.toNat 0#64)
def lD:Nat->Int->List Int
 |0,v=>[v]
 |k+1,v=>v::(aC P v).flatMap (lD k)
def yx:Nat->Int->B64->List (Nat×Int)
 |0,v,ab=>[(v.toNat,(lL ab:Int))]
 |k+1,v,ab=>(v.toNat,(lL ab:Int))::(aC P v).flatMap λc=>yx k c (ab|||BitVec.twoPow 64 v.toNat)
def kF(n:Nat):Nat->Int->B64->List (Nat×List Int)
 |0,v,ab=>[(v.toNat,l6 (ju P G 0 v&&&ab) n)]
 |k+1,v,ab=>((aC P v).flatMap λc=>kF n k c (ab|||BitVec.twoPow 64 v.toNat))++[(v.toNat,l6 (ju P G (k+1) v&&&ab) n)]
end
abbrev layA(G:List B64)(v:Int)(ab:B64):List V:=[pIi v,.pv (gV ab),.ptr big 0,.ptr 9004 0,.pv (.rp [kG G] 0),.ptr 9006 0]
abbrev P8(n:Nat)(G:List B64)(chs:List (List Int))(w:Nat)(L:List Int)(D:List Int)(K:List (List Int))(hs:List PV):List (Nat×Ob):=[(big,.mix 82 [.pv (bA chs),.osl 9001 1 n,.osl 9002 1 n,.gsl w 1 L.length]),(9001,.cells 22 (K.map aq)),(9002,.cells 22 hs),(w,.gro 3 (aN L)),(9004,.mix 22 [.osl 9005 1 n]),(9005,.cells 3 (aN D)),(9006,.mix 160 [.fn (.func 67) [] [.ptr big 0,.ptr 9004 0,.pv (.rp [kG G] 0),.ptr 9006 0]])]
theorem nw2{av:Av}{b:Nat}(d:av b=VA)(r:av (b+1)=VA):(nwO b 2).all av=VA:=by
 show(av (b+0)&&(av (b+1)&&VA))=VA;rw[Wf,d,r];rfl
theorem ui{NR:Int->B64}:∀(cs:List Int)(g:B64),InB n g->(∀c∈cs,InB n (NR c))->InB n (cs.foldl (λz c=>z|||NR c) g)
 |[],g,hg,_=>hg
 | c::cs,g,hg,h=>by
   rw[VO];refine ui cs _ (λi hi=>?_) λd hd=>h d (by simp[hd])
   rw[BitVec.getLsbD_or,UW]at hi;rcases hi with hi|hi
   .exact hg i hi
   exact h c X2 i hi
theorem iq{cs:List Int}(h:j<cs.length)(f:Int->List α):(cs.take (j+1)).flatMap f=(cs.take j).flatMap f++f cs[j]:=by
 rw[sh h,U6];simp
theorem Cl(f:Int->List α)(cs:List Int)(j:Nat):((cs.take j).flatMap f).length<=(cs.flatMap f).length:=by grind[U3,D8]
theorem sf(n:Nat)(hn:n<=12)(G:List B64)(hGn:G.length=n)(chs:List (List Int))(hcl:chs.length<=64)(v:Nat)(hv:v<n)(E:v<chs.length)(CS:List Int)(ax:chs[v]=CS)(hCl:CS.length<=64)(az:∀c∈CS,∃m:Nat,c=(m:Int))(ab:B64)
  (NR:Int->B64) (WS:Int->List Int) (DU:Int->List (Nat×Int)) (KU:Int->List (Nat×List Int)) (hg:InB n (G[v]'XX)) (aB:∀c∈CS,InB n (NR c)) (J:List PV)
  (af:∀c∈CS,∀(L D:List Int)(K:List (List Int)),D.length=n->K.length=n->L.length+(WS c).length<=1000->FnO prog 67 7 2 (layA G c (ab|||BitVec.twoPow 64 v)) (P8 n G chs 9003 L D K J) (λr ob'=>r= .pv (gV (NR c))/\ob'=aA (P8 n G chs 1 (L++WS c) (cc D (DU c)) (cc K (KU c)) J)))
  (L D:List Int) (K:List (List Int)) (hD:D.length=n) (hK:K.length=n) (hL:L.length+1+(CS.flatMap WS).length<=1000):
  FnO prog 67 7 2 (layA G v ab) (P8 n G chs 9003 L D K J) (λr ob'=>r= .pv (gV (CS.foldl (λz c=>z|||NR c) (G[v]'XX)))/\ob'=aA (P8 n G chs 1 (L++(v:Int)::CS.flatMap WS) (cc (D.set v (lL ab)) (CS.flatMap DU)) ((cc K (CS.flatMap KU)).set v (l6 (CS.foldl (λz c=>z|||NR c) (G[v]'XX)&&&ab) n)) J)):=by
 refine FnO.of func67 O ntmps67 X2 λ_ _ _ _=>?_
 have u:v<G.length:=XX;have al:=AA u;have am:=M0 u;have W:=gM E;have an:=gv E;rw[ax]at W;have ao:=ui CS G[v] hg aB;generalize G[v]=g0 at*;have A:=GS (CS.foldl (λz c=>z|||NR c) g0&&&ab) n XX (λi hi=>ao i (by rw[BitVec.getLsbD_and,dO]at hi;exact hi.1));have hDl:(aN D).length=n:=by rw[AS,hD]
 have hpl:=H9 ab;refine Z1 O ?_;have aD:(aN L).length=L.length*1:=X2;refine Z1 O ?_;first|refine A1 O ?_|refine A2 O X0 ?_
 refine Ar 5 O<|UB 6 O ?_;first|refine D1 O ?_|refine D2 O O X0 ?_
 refine Dr 2 O<|Ds [] O (λτ h=>aa call68 (Jf _) (h.aE O)) O XY<|Ds [_] O (λτ h=>aj v underlying22 sz3 (Ee h 0 O O) (Eo h 0 O O) (Ee h 1 O O) O XX) O XY<|DL.step (d:=UG) [_] O O O (λτ h=>bY sz3 (Ee h 0 O O) (Eo h 0 O O) (Ee h 1 O O) O XX) O XY ?_;refine⟨XY,?_⟩;refine Gr O ?_;first|refine A1 O ?_|refine A2 O X0 ?_
 refine A1 O<|Rs O (ag v underlying158 Ml O O O u am)<|Rs O (ar ⟨_,underlying162,O⟩ O al)<|A1 O<|Z1 O ?_;first|refine A1 O ?_|refine A2 O X0 ?_
 refine A1 O<|Rs O (ag v underlying80 sT O O O E an)<|Rs O (ar ⟨_,underlying22,O⟩ O W)<|Y2 O<|Gz O (st:=λX6:Nat×List Int×List Int×List (List Int)=>([(0,UG),(1,UG),(2,UG),(5,UG),(9,UF (.pv (gV ((CS.take X6.1).foldl (λz c=>z|||NR c) g0)))),(31,UG),(32,UG),(33,UF (pIi X6.1))],[(big,UF (.mix 82 [.pv (bA chs),.osl 9001 1 n,.osl 9002 1 n,.gsl 1 1 X6.2.1.length])),(1,UF (.gro 3 (aN X6.2.1))),(9001,UF (.cells 22 (X6.2.2.2.map aq))),(9002,UG),(9004,UG),(9005,UF (.cells 3 (aN X6.2.2.1))),(9006,UG)])) 2
  (I:=λX6=>(X6.1<=CS.length/\X6.2.1=L++(v:Int)::(CS.take X6.1).flatMap WS)/\X6.2.2.1=cc (D.set v (lL ab)) ((CS.take X6.1).flatMap DU)/\X6.2.2.2=cc K ((CS.take X6.1).flatMap KU)) (μ:=λX6=>CS.length-X6.1) (x0:=(0,L++[(v:Int)],D.set v (lL ab),K)) (TO (aS O) ⟨UI (b:=UF (.mix 82 [.pv (bA chs),.osl 9001 1 n,.osl 9002 1 n,.gsl 1 1 (L.length+1)])) XY (ah (λq=>UF (Ob.mix 82 [.pv (bA chs),.osl 9001 1 n,.osl 9002 1 n,.gsl 1 1 q])) (lj L _)),UI (b:=UF (.gro 3 (aN L++[.int .i64 v]))) XY (ah (λc=>UF (Ob.gro 3 c)) X2),XY,XY,XY,UI (b:=UF (.cells 3 ((aN D).set (v*1) (.int .i64 (lL ab))))) XY (ah (λc=>UF (Ob.cells 3 c)) (by simp[U9])),XY,X5⟩ O O) (⟨⟨aJ _,O⟩,O,O⟩) ?_
 rintro⟨j,M,D2,K2⟩ ⟨⟨hj,hM⟩,hD2,hK2⟩;try simp only at hj hM hD2 hK2 ⊢
 refine Z1 O<|Gp O (λad=>?_) (λad=>?_)
 .have hlt:j<CS.length:=XX;have X:=ak hlt;obtain⟨c,hc⟩:=az _ X;have ap:(aN CS)[j*1]? =UF (.int .i64 (c:Int)):=by rw[<-hc];simp[hlt]
  have hpn:=aM hlt;have B:=iq hlt WS;have Y:=iq hlt DU;have Z:=iq hlt KU;have s:(CS.take (j+1)).foldl (λz c=>z|||NR c) g0=(CS.take j).foldl (λz c=>z|||NR c) g0|||NR CS[j]:=by rw[sh hlt,W5];rfl
  have au:((CS.take (j+1)).flatMap WS).length<=(CS.flatMap WS).length:=Cl WS CS (j+1);have ac:=af _ X M D2 K2 (by rw[hD2,dJ,Ut,hD]) (by rw[hK2,dJ,hK]) (by rw[B,D8]at au;rw[hM];simp only[D8,IN];omega);rw[hc]at ac B Y Z s;generalize (CS.take j).foldl (λz c=>z|||NR c) g0=acc at*;refine TM<|Z1 O<|Rs O (ar ⟨_,underlying3,O⟩ O ap)<|A1 O<|UB 10 O<|D1 O ?_;first|refine D1 O ?_|refine D2 O O X0 ?_
  refine Dr 3 O<|Ds [] O (λτ h=>aa call69 (z1 v XX) (h.aE O)) O XY<|Ds [] O (λτ h=>B9 (Ee h 0 O O) (Ee h 1 O O)) O XY<|Ds [big,9001,9002,1,9004,9005,9006] O (λτ h=>mq (vs:=[pIi (c:Int),.pv (gV (ab|||BitVec.twoPow 64 v))]) [big,9001,9002,1,9004,9005,9006] 2 call67 ac (Ee h 0 O O) (h.P5.trans O) O O O O ⟨(Eo h 0 O O),(Eo h 1 O O),(Eo h 2 O O),(Eo h 3 O O),(Eo h 4 O O),(Eo h 5 O O),(Eo h 6 O O),X5⟩ XZ (nw2 (h.n 0 _ O) (h.n 1 _ O))) O XY<|Ds [] O (λτ h=>B9 (Ee h 0 O O) (Ee h 1 O O)) O XY<|D1 O ?_;refine⟨XY,?_⟩;exact Z2 O<|⟨(j+1,M++WS (c:Int),cc D2 (DU (c:Int)),cc K2 (KU (c:Int))),TP [0,3] ⟨O,O,O,O,ah (λz=>V.pv (gV z)) s.symm,O,O,O,X5⟩ (aP XY) O O XZ O,⟨⟨X4,by simp only;rw[B,hM];simp⟩,by simp only;rw[Y,iF,<-hD2],by simp only;rw[Z,iF,<-hK2]⟩,X4⟩
 rw[show CS.take j=CS from aG XX]at hM hD2 hK2 ⊢;have aF:(K2.map aq).length=n:=by rw[AS,hK2,dJ,hK]
 generalize CS.foldl (λz c=>z|||NR c) g0=near at*;refine Gx O<|UB 9 O<|D1 O ?_;first|refine D1 O ?_|refine D2 O O X0 ?_
 refine Dr 3 O<|Ds [] O (λτ h=>y9 (Ee h 0 O O) (Ee h 1 O O)) O XY<|Ds [] O (λτ h=>aa call70 A (h.aE O)) O XY<|Ds [_] O (λτ h=>aj v underlying80 sT (Ee h 0 O O) (Eo h 0 O O) (Ee h 1 O O) O XX) O XY<|DL.step (d:=UG) [_] O O O (λτ h=>bY sT (Ee h 0 O O) (Eo h 0 O O) (Ee h 1 O O) O XX) O XY ?_;refine⟨XY,?_⟩;exact Z2 O<|Gt O<|⟨[(8,.pv (gV near))],P8 n G chs 1 (L++(v:Int)::CS.flatMap WS) (cc (D.set v (lL ab)) (CS.flatMap DU)) ((cc K (CS.flatMap KU)).set v (l6 (near&&&ab) n)) J,[.pv (gV near)],TO (aS O) (by rw[<-hM,<-hD2,<-hK2];exact⟨XY,UI (b:=UF (.cells 22 ((K2.map aq).set (v*1) (aq (l6 (near&&&ab) n))))) XY (ah (λc=>UF (Ob.cells 22 c)) (by simp[U9])),XY,XY,XY,XY,XY,X5⟩) O O,O,O,O,O,O⟩
end
section
open Mk Jn
def nE(P:List Int)(k:Nat)(v:Int):List Int:=((List.range k).filter λa=>P.getD a 0==v).map Int.ofNat
theorem mH(P:List Int)(v:Int):nE P P.length v=aC P v:=by
 unfold nE aC upZ;rw[List.filter_map];rfl
theorem lM(P:List Int)(k:Nat)(v:Int):nE P (k+1) v=nE P k v++if P.getD k 0=v then [(k:Int)]else []:=by grind[nE,Xn]
theorem j7(P:List Int)(k:Nat)(v:Int):(nE P k v).length<=k:=by grind[nE,AS,AI,VZ]
def lsT(P:List Int)(k:Nat):List (List Int):=(upZ P.length).map (nE P k)++[nE P k (-1)]
theorem dq(P:List Int)(k:Nat):(lsT P k).length=P.length+1:=by simp[lsT,bo]
theorem sY(P:List Int)(k:Nat)(h:i<P.length):(lsT P k)[i]'(by rw[dq];omega)=nE P k i:=by
 unfold lsT;rw[List.getElem_append_left (by simp[bo,h])];simp[upZ]
theorem j0(P:List Int)(k:Nat):(lsT P k)[P.length]'(by rw[dq];omega)=nE P k (-1):=by
 unfold lsT;rw[List.getElem_append_right (by simp[bo])];simp[bo]
theorem AK(P:List Int):lsT P 0=List.replicate (P.length+1) []:=by
 apply Vq
 .simp[dq]
 .intro i h1 h2;rw[List.getElem_replicate];by_cases hi:i<P.length
  .rw[sY P 0 hi];rfl
  have hi':i=P.length:=by rw[dq]at h1;omega
  subst hi';rw[j0 P 0];rfl
theorem AE(u:∀p∈P, -1<=p/\p<P.length)(r:k<P.length)(U:Nat)(s:(P[k]= -1/\U=P.length)\/(P[k]=(U:Int)/\U<P.length)):
  lsT P (k+1)=(lsT P k).set U ((lsT P k)[U]'(by rw[dq];rcases s with h|h<;>omega)++[(k:Int)]):=by
 have d:P.getD k 0=P[k]:=by simp[List.getD,r]
 apply Vq
 .simp[dq]
 grind[dq,sY,lM,j0]
def lsP(ls:List (List Int)):List (List PV):=ls.map λl=>l.map λi=> .int .i64 i
theorem eH(ls:List (List Int)):(lsP ls).length=ls.length:=by simp[lsP]
theorem yJ(ls:List (List Int))(U:Nat)(d:U<ls.length)(x:Int):lsP (ls.set U (ls[U]++[x]))=(lsP ls).set U ((lsP ls)[U]'(by rw[eH];exact d)++[.int .i64 x]):=by
 unfold lsP;rw[U9];simp
theorem Js(ls:List (List Int)):chP (lsP ls)=ls.map λl=> .pv (aq l):=by
 unfold chP lsP;rw[Vb];apply UT;intro l _;simp
theorem Tf(P:List Int)(k:Nat)(h:U<(lsP (lsT P k)).length):((lsP (lsT P k))[U]).length<=k:=by
 have d:U<(lsT P k).length:=by rwa [eH]at h
 have e:(lsP (lsT P k))[U]=(lsT P k)[U].map λi=>PV.int .i64 i:=by simp[lsP]
 rw[e,AS];by_cases hU:U<P.length
 .rw[sY P k hU];exact j7 P k _
 grind[dq,j0,j7]
theorem vp(cs:List V)(j:Nat)(v:V)(h:j<cs.length):gj cs j [v]=cs.set j v:=by
 unfold gj;rw[V3,AT h,WH];rfl
def js(D:List Int)(l:List Int)(j:Nat):Int:=(l.take j).foldl (λh a=>if D.getD a.toNat 0>D.getD h.toNat 0 then a else h) (l.headD 0)
theorem DG(D l:List Int)(h:j<l.length):js D l (j+1)=if D.getD l[j].toNat 0>D.getD (js D l j).toNat 0 then l[j]else js D l j:=by
 unfold js;rw[sh h,W5];rfl
theorem x3(D:List Int)(r:l≠[])(j:Nat):js D l j∈l:=by
 have d:∀(k:List Int)(h0:Int),(∀a∈k,a∈l)->h0∈l->k.foldl (λh a=>if D.getD a.toNat 0>D.getD h.toNat 0 then a else h) h0∈l:=by
  intro k;induction k with
  |nil=>exact λh0 _ h=>h
  | cons a k ih=>
    intro h0 hk hh;rw[VO];refine ih _ (λb hb=>hk b (by simp[hb])) ?_;split
    .exact hk a X2
    exact hh
 unfold js;refine d _ _ (λa ha=>Xe ha) ?_;cases l with
 |nil=>exact absurd O r
 |cons x l=>simp
def hpL(D:List Int)(S:Sch):List Int:=S.rels.map λr=>js D r.2 r.2.length
theorem Qr(D:List Int)(S:Sch):(hpL D S).length=S.rels.length:=by simp[hpL]
def hsT(n:Nat)(H:List Int)(k:Nat):List (List Int):=(upZ n).map (nE H k)
theorem dW(n:Nat)(H:List Int)(k:Nat):(hsT n H k).length=n:=by simp[hsT,bo]
theorem xr(n:Nat)(H:List Int)(k:Nat)(h:i<n):(hsT n H k)[i]'(by rw[dW];exact h)=nE H k i:=by simp[hsT,upZ]
theorem C2(n:Nat)(H:List Int):hsT n H 0=List.replicate n []:=by
 apply Vq
 .simp[dW]
 .intro i h1 h2;rw[List.getElem_replicate,xr n H 0 (by rwa [dW]at h1)];rfl
theorem L9(r:k<H.length)(s:U<n)(e:H[k]=(U:Int)):hsT n H (k+1)=(hsT n H k).set U ((hsT n H k)[U]'(by rw[dW];exact s)++[(k:Int)]):=by
 have d:H.getD k 0=H[k]:=by simp[List.getD,r]
 apply Vq
 .simp[dW]
 grind[dW,xr,lM]
theorem To(n:Nat)(H:List Int)(k:Nat)(h:U<(lsP (hsT n H k)).length):((lsP (hsT n H k))[U]).length<=k:=by
 have d:U<(hsT n H k).length:=by rwa [eH]at h
 have e:(lsP (hsT n H k))[U]=(hsT n H k)[U].map λi=>PV.int .i64 i:=by simp[lsP]
 rw[e,AS,xr n H k (by rwa [dW]at d)];exact j7 H k _
end
section
open Mk
noncomputable def lstL(S:Sch):List Int:=leastL (gr S)
end
section
open Mk Jn
theorem zG    {nw:Nat} (d:U<ls.length) (x:PV) (r:σ.ob nw=UF (.gro T (ls[U]++[x]))) (s:∀ j,j<ls.length->j≠U->σ.ob (j+1000)=UF (.gro T (ls.getD j []))):
  ∀j (h:j<(ls.set U (ls[U]++[x])).length),σ.ob (rnF U nw (j+1000))=UF (.gro T ((ls.set U (ls[U]++[x]))[j])):=by grind[Ut,Bv,dt,List.getElem_set_ne,List.getD]
theorem uD{A:Nat}{TA:TypeId}{cells:List V}(d:A<1000)(h:j<ls.length):(ovl σ A TA T cells ls).ob (j+1000)=UF (.gro T (ls.getD j [])):=by
 rw[dr d h];simp[List.getD,h]
theorem Cf{G:List B64}(d:Valid S)(s:IsG S G){a:Int}(h:gm S a (i:Int)=VA):i<G.length:=by
 unfold gm at h;obtain⟨r,hr,h2⟩:=VL.1 h;simp only[dO,OC]at h2;have:=(d.rng r hr _ h2.2).2;rw[s.len];omega
theorem ud{G:List B64}(r:Valid S)(d:IsG S G)(P:List Int)(s:P.length=G.length):∀(k:Nat)(v:Nat),v<G.length->InB G.length (ju P G k v)
 | 0,v,hv=>λi hi=>by
   unfold ju at hi;rw[Ux,d.bit v hv i,dO]at hi;exact Cf r d hi.2
 | k+1,v,hv=>by
   unfold ju;refine ui _ _ (λi hi=>?_) λc hc=>?_
   .rw[Ux,d.bit v hv i,dO]at hi;exact Cf r d hi.2
   obtain⟨m,hm,rfl,_⟩:=bg.1 hc;exact ud r d P s k m XX
theorem Jx(n:Nat)(W:n<=12)(X:Valid S)(G:List B64)(Y:IsG S G)(s:G.length=n)(P:List Int)(Z:UpOk P)(aa:P.length=n)(chs:List (List Int))(ac:chs.length=n+1)(B:∀v (h:v<n),chs[v]'XX=aC P v)(E:List PV):∀(k v:Nat)(_:v<n)(_:n<=k+(cm P v).length+1)(ab:B64)(L D:List Int)(K:List (List Int)),D.length=n->K.length=n->L.length+(lD P k v).length<=1000->
  FnO prog 67 7 2 (layA G v ab) (P8 n G chs 9003 L D K E) (λr ob'=>r= .pv (gV (ju P G k v))/\ob'=aA (P8 n G chs 1 (L++lD P k v) (cc D (yx P k v ab)) (cc K (kF P G n k v ab)) E)):=by
 have A:∀v (h:v<G.length),G.getD v 0#64=G[v]:=λv h=>by simp[List.getD,h]
 have u:∀v (h:v<G.length),InB n G[v]:=λv h=>by
  have:=ud X Y P XX 0 v h;rw[ju,Ux,A v h,s]at this;exact this
 have I:∀v,(aC P v).length<=64:=λv=>AI (VZ ..) (by rw[bo];omega)
 intro k;induction k with
 | zero=>
   intro v hv hf ab L D K hD hK hL;have J:aC P v=[]:=mv Z XX XX;have M:=sf n W G s chs XX v hv XX [] (by rw[B v hv,J]) X2 X2 ab (λ_=>0#64) (λ_=>[]) (λ_=>[]) (λ_=>[]) (u v XX) X2 E X2 L D K hD hK (by simp[lD]at hL ⊢; omega);have V:ju P G 0 (v:Int)=G[v]'XX:=by rw[ju,Ux,A v XX]
   rw[lD,yx,kF,V,Ux];exact M
 | succ k ih=>
   intro v hv hf ab L D K hD hK hL;have d:∀c∈aC P v,∃m:Nat,m<n/\c=(m:Int)/\P.getD m 0=(v:Int):=λc hc=>by
    obtain⟨m,hm,e,hp⟩:=bg.1 hc;exact⟨m,XX,e,hp⟩
   have M:=sf n W G s chs XX v hv XX (aC P v) (B v hv) (I v) (λc hc=>by obtain⟨m,_,e,_⟩:=d c hc;exact⟨m,e⟩) ab (ju P G k) (lD P k) (λc=>yx P k c (ab|||BitVec.twoPow 64 v)) (λc=>kF P G n k c (ab|||BitVec.twoPow 64 v)) (u v XX) (λc hc=>by
     obtain⟨m,hm,rfl,_⟩:=d c hc;have:=ud X Y P XX k m XX;rwa [s]at this) E (λc hc L' D' K' hD' hK' hL'=>by
     obtain⟨m,hm,rfl,hp⟩:=d c hc;exact ih m hm (by rw[dF Z XX XX hp,IN];omega) _ L' D' K' hD' hK' hL') L D K hD hK (by unfold lD at hL;simp only[IN]at hL;omega)
   have V:ju P G (k+1) (v:Int)=(aC P v).foldl (λz c=>z|||ju P G k c) (G[v]'XX):=by rw[ju,Ux,A v XX]
   rw[lD,yx,kF,V,iF,Ux];exact M
theorem A6{l:List (Nat×V)}{os:List (Nat×Ob)}(s:l.all (λp=>p.2.all λi=>Nat.blt i 1000)=VA)(u:os.all (λp=>Nat.blt p.1 1000&&p.2.all λi=>Nat.blt i 1000)=VA):(∀t,((mkS l os k).sl t).all (λi=>Nat.blt i 1000)=VA)/\∀i o,(mkS l os k).ob i=UF o->i<1000/\o.all (λi=>Nat.blt i 1000)=VA:=by
 constructor
 .intro t;show(look l t).all _=VA;clear u;induction l with
  |nil=>rfl
  | cons p l ih=>
    simp only[V1,dO]at s;obtain⟨d,v⟩:=p;simp only[look];cases Nat.beq t d with
    |true=>exact s.1
    |false=>exact ih s.2
 .intro i o h;have r:=IX.1 u _ (bN h);rw[dO]at r;exact⟨J9 r.1,r.2⟩
theorem tZ(P:List Int):∀(k:Nat)(v:Int),lD P k v=(cM P k v).vs
 |0,v=>by rw[lD,cM,Tr.vs,vsL]
 | k+1,v=>by
   rw[lD,cM,Tr.vs,eT,Wh];rw[show lD P k=λc=>(cM P k c).vs from funext (tZ P k)]
theorem vC:(aC P (-1)).flatMap (lD P P.length)=aR P:=by
 rw[<-mf,eT,Wh,show lD P P.length=λc=>(cM P P.length c).vs from funext (tZ P P.length)]
def oy(S:Sch)(P:List Int)(G:List B64):VD where
 chs:=lsT P P.length
 kes:=cc (List.replicate G.length []) ((aC P (-1)).flatMap λc=>kF P G G.length P.length c 0#64)
 hos:=hsT G.length (hpL (cc (List.replicate G.length 0) ((aC P (-1)).flatMap λc=>yx P P.length c 0#64)) S) S.rels.length
 wa:=aR P
abbrev Ea(D:VD):PV:=.agg [bA D.chs,bA D.kes,bA D.hos,aq D.wa]
theorem Pa{G:List B64}{M CS D2:List Int}{K2:List (List Int)}(r:k=P.length)(s:i=S.rels.length)(J:hpL D2 S=H)(L:M=CS.flatMap (lD P P.length))(d:aC P (-1)=CS)(u:D2=cc (List.replicate G.length 0) (CS.flatMap λc=>yx P P.length c 0#64))
  (z:K2=cc (List.replicate G.length []) (CS.flatMap λc=>kF P G G.length P.length c 0#64)) (A:K2.length=G.length):PV.agg [bA (lsT P k),.sl UG G.length (K2.map aq),.sl UG G.length ((hsT G.length H i).map aq),aq M]=Ea (oy S P G):=by
 have B:(oy S P G).kes=K2:=by rw[z,<-d];rfl
 have D:(oy S P G).wa=M:=by rw[L,<-d,vC];rfl
 have E:(oy S P G).hos=hsT G.length H i:=by rw[<-J,s,u,<-d];rfl
 have I:(oy S P G).chs=lsT P k:=by rw[r];rfl
 unfold Ea;rw[B,D,E,I];unfold bA;rw[A,dW]
theorem SP(n:Nat):PV.fgL (List.replicate n nS)=(List.replicate n ([]:List Int)).map aq:=by
 induction n with
 |zero=>rfl
 |succ n ih=>rw[W6,W6,PV.fgL,ih,cd];rfl
theorem Nd(S:Sch)(hS:SB S)(P:List Int)(hO:OrdOk S P):FnP prog 27 [gg S,nB P] (λv=>∃G,IsG S G/\v=Ea (oy S P G)):=by
 refine FnP.ofC func27 O ntmps27 X2 λ_ _ _ _=>?_
 have hV:=hO.val;have hP:=hO.jE;have hPl:=hO.len;have hn12:=hV.n2;refine Z3 O<|Z1 O<|RL.call O (gZ call66 (Da S hS hV) O ?_);rintro _ ⟨G,rfl,hG⟩;have hGl:=hG.len;refine Y2 O<|Z3 O<|UB 10 O<|Dr 10 O ?_;refine⟨XY,?_⟩;refine Wk [(2,.ptr 0 0),(3,.ptr 1 0),(4,.ptr 2 0),(5,.ptr 3 0),(6,pIi G.length),(7,.ptr 7 0)] [(0,oZ S),(1,.mix 32 [.pv (aq P)]),(2,.mix 82 [.pv nS,.pv nS,.pv nS,.pv nS]),(3,.mix 158 [.pv (kG G)]),(4,.cells 22 (List.replicate (G.length+1) nS)),(5,.cells 22 (List.replicate G.length nS)),(6,.cells 22 (List.replicate G.length nS)),(7,.mix 82 [.osl 4 1 (G.length+1),.osl 5 1 G.length,.osl 6 1 G.length,.pv nS])] 8 (aS O) ⟨O,O,O,O,ah (λc=>UF (Ob.cells 22 c)) ((cH nS ((G.length+1)*1)).trans (by rw[Uv])),ah (λc=>UF (Ob.cells 22 c)) ((cH nS (G.length*1)).trans (by rw[Uv])),ah (λc=>UF (Ob.cells 22 c)) ((cH nS (G.length*1)).trans (by rw[Uv])),O,X5⟩ O O<|TN (St.qJ 4 O)<|TN (St.GV (A:=4) (TA:=22) 3 (G.length+1) (ah (λc=>UF (Ob.mix 22 c)) X2) XZ XX (λi h1 h2=>Gb XZ h1 h2))<|Z4 O ?_;refine Gl O (st:=λX6:Nat=>ovl (mkS [(2,.ptr 0 0),(4,.ptr 2 0),(5,.ptr 3 0),(6,pIi G.length),(7,.ptr 7 0),(32,.pv (aq P)),(33,pIi P.length),(34,pIi X6)] [(0,oZ S),(2,.mix 82 [.pv nS,.pv nS,.pv nS,.pv nS]),(3,.mix 158 [.pv (kG G)]),(5,.cells 22 (List.replicate G.length nS)),(6,.cells 22 (List.replicate G.length nS)),(7,.mix 82 [.osl 4 1 (G.length+1),.osl 5 1 G.length,.osl 6 1 G.length,.pv nS])] 8) 4 22 3 (chV (lsP (lsT P X6))) (lsP (lsT P X6)))
  (I:=λX6=>X6<=P.length) (μ:=λX6=>P.length-X6) (x0:=(0)) (St.gS 1000 999 (aT O) (aP XY) (ah (λc=>UF (Ob.mix 22 c)) (by rw[iV 999 (by rw[eH,dq];omega),AK,hPl,hGl];unfold lsP;rw[List.map_replicate];rfl)) (λj hj=>by rw[eH,dq]at hj;rw[dt XX];refine(dr (A:=4) (TA:=22) (cells:=chV (List.replicate (G.length+1) [])) (ls:=List.replicate (G.length+1) []) XZ (by rw[V0];omega)).trans ?_;simp[AK,lsP]) O O XZ XZ XZ XZ (by rw[eH,dq];omega)) (aJ _) ?_
 rintro k hk;refine Z1 O<|Gp O (λhc35=>?_) (λhc35=>?_)
 .have hlt:k<P.length:=XX;have hpn:=aM hlt;have hpv:=a7 hlt;have hpr:=hP.rng _ (ak hlt);have D:(lsP (lsT P k)).length=G.length+1:=by rw[eH,dq];omega
  have aa:=λU (h:U<(lsP (lsT P k)).length)=>Tf P k h
  generalize hls:lsP (lsT P k)=ls at*;refine TM<|Z2 O ?_;first|refine A2 O X0 ?_|refine A1 O ?_
  refine Y2 O<|Z2 O<|Gp O (λhc40=>?_) (λhc40=>?_)
  .have hm1:P[k]= -1:=XX;have r:G.length<ls.length:=XX;have J:lsP (lsT P (k+1))=ls.set (G.length) (ls[G.length]++[.int .i64 k]):=by have Z:G.length<(lsT P k).length:=(by rw[dq];omega);rw[AE hO.rng hlt (G.length) (.inl ⟨hm1,XX⟩),yJ _ _ Z];subst hls;rfl
   have L:=Jl r;have ab:=aa _ r;have u:(G.length)*1+1<=(chV ls).length:=by rw[jR];omega
   refine Z2 O<|UB 13 O<|Dr 6 O<|Ds [_] O (λτ h=>aj (G.length) underlying80 sT (Ee h 0 O O) (Eo h 0 O O) (Ee h 1 O O) O XX) O XY<|Ds [_] O (λτ h=>ns ⟨_,underlying22,O⟩ (Ee h 0 O O) (Eo h 0 O O) L) O XY<|Dr 2 O<|Ds [(G.length)+1000,8] O (λτ h=>fW 9 vN (Ee h 0 O O) ((h.o 0 _ O).trans (UI (b:=(ovl (mkS [(2,.ptr 0 0),(4,.ptr 2 0),(5,.ptr 3 0),(6,pIi G.length),(7,.ptr 7 0),(32,.pv (aq P)),(33,pIi P.length),(34,pIi k)] [(0,oZ S),(2,.mix 82 [.pv nS,.pv nS,.pv nS,.pv nS]),(3,.mix 158 [.pv (kG G)]),(5,.cells 22 (List.replicate G.length nS)),(6,.cells 22 (List.replicate G.length nS)),(7,.mix 82 [.osl 4 1 (G.length+1),.osl 5 1 G.length,.osl 6 1 G.length,.pv nS])] 8) 4 22 3 (chV (ls)) (ls)).ob (G.length+1000)) XY (dr XZ r))) (Uv _).symm (Ee h 1 O O) (Eo h 1 O O) O O XX (h.n 0 _ O)) O XY<|Ds [_] O (λτ h=>aj (G.length) underlying80 sT (Ee h 0 O O) (Eo h 0 O O) (Ee h 1 O O) O XX) O XY<|DL.step (d:=UG) [_] O O O (λτ h=>mG sT (Ee h 0 O O) (Eo h 0 O O) (Ee h 1 O O) O u O O) O XY ?_;refine⟨XY,?_⟩;exact Z2 O<|⟨(k+1),(by rw[J];exact St.gS (G.length) 9 (aT O) (aP XY) (UI (b:=UF (.mix 22 (gj (chV ls) ((G.length)*1) [.gsl 9 1 (ls[G.length].length+1)]))) XY (ah (λc=>UF (Ob.mix 22 c)) ((vp _ _ _ (by rw[jR];omega)).trans (qH r 9 _).symm))) (zG r _ XY (λj hj hne=>UI (b:=bif Nat.beq (j+1000) (G.length+1000)then(UG:Option Ob)else(ovl (mkS [(2,.ptr 0 0),(4,.ptr 2 0),(5,.ptr 3 0),(6,pIi G.length),(7,.ptr 7 0),(32,.pv (aq P)),(33,pIi P.length),(34,pIi k)] [(0,oZ S),(2,.mix 82 [.pv nS,.pv nS,.pv nS,.pv nS]),(3,.mix 158 [.pv (kG G)]),(5,.cells 22 (List.replicate G.length nS)),(6,.cells 22 (List.replicate G.length nS)),(7,.mix 82 [.osl 4 1 (G.length+1),.osl 5 1 G.length,.osl 6 1 G.length,.pv nS])] 8) 4 22 3 (chV (ls)) (ls)).ob (j+1000)) XY (by rw[IQ XX,UZ];exact uD XZ hj))) O O XZ XZ XZ XX (by rw[Ut];omega)),XX,XX⟩
  obtain⟨a,ha⟩:=tI (show 0<=P[k] by omega);have r:a<ls.length:=XX;have J:lsP (lsT P (k+1))=ls.set (a) (ls[a]++[.int .i64 k]):=by have Z:a<(lsT P k).length:=(by rw[dq];omega);rw[AE hO.rng hlt (a) (.inr ⟨ha,XX⟩),yJ _ _ Z];subst hls;rfl
  have L:=Jl r;have ab:=aa _ r;have u:(a)*1+1<=(chV ls).length:=by rw[jR];omega
  refine TM ?_;rw[ha];refine UB 13 O<|Dr 6 O<|Ds [_] O (λτ h=>aj (a) underlying80 sT (Ee h 0 O O) (Eo h 0 O O) (Ee h 1 O O) O XX) O XY<|Ds [_] O (λτ h=>ns ⟨_,underlying22,O⟩ (Ee h 0 O O) (Eo h 0 O O) L) O XY<|Dr 2 O<|Ds [(a)+1000,8] O (λτ h=>fW 9 vN (Ee h 0 O O) ((h.o 0 _ O).trans (UI (b:=(ovl (mkS [(2,.ptr 0 0),(4,.ptr 2 0),(5,.ptr 3 0),(6,pIi G.length),(7,.ptr 7 0),(32,.pv (aq P)),(33,pIi P.length),(34,pIi k)] [(0,oZ S),(2,.mix 82 [.pv nS,.pv nS,.pv nS,.pv nS]),(3,.mix 158 [.pv (kG G)]),(5,.cells 22 (List.replicate G.length nS)),(6,.cells 22 (List.replicate G.length nS)),(7,.mix 82 [.osl 4 1 (G.length+1),.osl 5 1 G.length,.osl 6 1 G.length,.pv nS])] 8) 4 22 3 (chV (ls)) (ls)).ob (a+1000)) XY (dr XZ r))) (Uv _).symm (Ee h 1 O O) (Eo h 1 O O) O O XX (h.n 0 _ O)) O XY<|Ds [_] O (λτ h=>aj (a) underlying80 sT (Ee h 0 O O) (Eo h 0 O O) (Ee h 1 O O) O XX) O XY<|DL.step (d:=UG) [_] O O O (λτ h=>mG sT (Ee h 0 O O) (Eo h 0 O O) (Ee h 1 O O) O u O O) O XY ?_;refine⟨XY,?_⟩;exact Z2 O<|⟨(k+1),(by rw[J];exact St.gS (a) 9 (aT O) (aP XY) (UI (b:=UF (.mix 22 (gj (chV ls) ((a)*1) [.gsl 9 1 (ls[a].length+1)]))) XY (ah (λc=>UF (Ob.mix 22 c)) ((vp _ _ _ (by rw[jR];omega)).trans (qH r 9 _).symm))) (zG r _ XY (λj hj hne=>UI (b:=bif Nat.beq (j+1000) (a+1000)then(UG:Option Ob)else(ovl (mkS [(2,.ptr 0 0),(4,.ptr 2 0),(5,.ptr 3 0),(6,pIi G.length),(7,.ptr 7 0),(32,.pv (aq P)),(33,pIi P.length),(34,pIi k)] [(0,oZ S),(2,.mix 82 [.pv nS,.pv nS,.pv nS,.pv nS]),(3,.mix 158 [.pv (kG G)]),(5,.cells 22 (List.replicate G.length nS)),(6,.cells 22 (List.replicate G.length nS)),(7,.mix 82 [.osl 4 1 (G.length+1),.osl 5 1 G.length,.osl 6 1 G.length,.pv nS])] 8) 4 22 3 (chV (ls)) (ls)).ob (j+1000)) XY (by rw[IQ XX,UZ];exact uD XZ hj))) O O XZ XZ XZ XX (by rw[Ut];omega)),XX,XX⟩
 have hkP:k=P.length:=XX;have D:(lsP (lsT P k)).length=G.length+1:=by rw[eH,dq];omega
 have hLl:(lsT P k).length=G.length+1:=by rw[dq];omega
 have hcp:chP (lsP (lsT P k))=((lsT P k).map aq).map V.pv:=by rw[Js,Vb];rfl
 generalize hls:lsP (lsT P k)=ls at*;refine TN (St.gS (l:=[(2,.ptr 0 0),(4,.ptr 2 0),(5,.ptr 3 0),(6,pIi G.length),(7,.ptr 7 0)]) (os:=[(0,oZ S),(2,.mix 82 [.pv nS,.pv nS,.pv nS,.pv nS]),(3,.mix 158 [.pv (kG G)]),(5,.cells 22 (List.replicate G.length nS)),(6,.cells 22 (List.replicate G.length nS)),(7,.mix 82 [.osl 4 1 (G.length+1),.osl 5 1 G.length,.osl 6 1 G.length,.pv nS])]) (k:=8) (A:=4) (TA:=22) (T:=3) (ls:=ls) 1000 999 (aT XY) (aP XY) (UI (b:=UF (.mix 22 (chV ls))) XY (by rw[iV 999 XX])) (λj hj=>by rw[dt XX];exact UI (b:=(ovl (mkS [(2,.ptr 0 0),(4,.ptr 2 0),(5,.ptr 3 0),(6,pIi G.length),(7,.ptr 7 0),(32,.pv (aq P)),(33,pIi P.length),(34,pIi k)] [(0,oZ S),(2,.mix 82 [.pv nS,.pv nS,.pv nS,.pv nS]),(3,.mix 158 [.pv (kG G)]),(5,.cells 22 (List.replicate G.length nS)),(6,.cells 22 (List.replicate G.length nS)),(7,.mix 82 [.osl 4 1 (G.length+1),.osl 5 1 G.length,.osl 6 1 G.length,.pv nS])] 8) 4 22 3 (chV (ls)) (ls)).ob (j+1000)) XY (dr XZ hj)) O O XZ XZ XZ XZ XX) ?_;have hsm:=A6 (l:=[(2,.ptr 0 0),(4,.ptr 2 0),(5,.ptr 3 0),(6,pIi G.length),(7,.ptr 7 0)]) (os:=[(0,oZ S),(2,.mix 82 [.pv nS,.pv nS,.pv nS,.pv nS]),(3,.mix 158 [.pv (kG G)]),(5,.cells 22 (List.replicate G.length nS)),(6,.cells 22 (List.replicate G.length nS)),(7,.mix 82 [.osl 4 1 (G.length+1),.osl 5 1 G.length,.osl 6 1 G.length,.pv nS])]) (k:=8) O O;refine TN (St.FZ ls XZ XX hsm.1 hsm.2)<|TN (St.yV (id:=4) (cs:=(lsT P k).map aq) O hcp)<|TN (TO (l:=[(2,.ptr 0 0),(4,.ptr 2 0),(5,.ptr 3 0),(6,pIi G.length),(7,.ptr 7 0)]) (os:=(4,.cells 22 ((lsT P k).map aq))::[(0,oZ S),(2,.mix 82 [.pv nS,.pv nS,.pv nS,.pv nS]),(3,.mix 158 [.pv (kG G)]),(5,.cells 22 (List.replicate G.length nS)),(6,.cells 22 (List.replicate G.length nS)),(7,.mix 82 [.osl 4 1 (G.length+1),.osl 5 1 G.length,.osl 6 1 G.length,.pv nS])]) (k:=8) (aS XY) (aO XY) O O)<|TN (St.cV 7 3 8 1 3 O O O)<|TN (TR 4 O O)<|TN (St.Ov 7 O)<|TN (St.Tj (id:=5) O)<|Wk [(2,.ptr 0 0),(4,.ptr 2 0),(5,.ptr 3 0),(6,pIi G.length),(7,.ptr 7 0)] [(0,oZ S),(2,.mix 82 [.pv nS,.pv nS,.pv nS,.pv nS]),(3,.mix 158 [.pv (kG G)]),(5,.cells 22 ((List.replicate G.length ([]:List Int)).map aq)),(6,.cells 22 (List.replicate G.length nS)),(7,.mix 82 [.pv (bA (lsT P k)),.osl 5 1 G.length,.osl 6 1 G.length,.gsl 8 1 0]),(8,.gro 3 (aN []))] 9 (aS XY) ⟨XY,XY,XY,UI (b:=UF (.cells 22 (PV.fgL (List.replicate G.length nS)))) XY (ah (λc=>UF (Ob.cells 22 c)) (SP _)),XY,UI (b:=UF (.mix 82 [.pv (.sl UG (G.length+1) ((lsT P k).map aq)),.osl 5 1 G.length,.osl 6 1 G.length,.gsl 8 1 0])) XY (ah (λq=>UF (Ob.mix 82 [.pv (.sl UG q ((lsT P k).map aq)),.osl 5 1 G.length,.osl 6 1 G.length,.gsl 8 1 0])) hLl.symm),XY,X5⟩ O O ?_;clear hls hcp D;have hCl:(aC P (-1)).length<=64:=AI (VZ ..) (by rw[bo];omega);have hCm:∀c∈aC P (-1),∃m:Nat,m<G.length/\c=(m:Int)/\P.getD m 0= -1:=λc hc=>by obtain⟨m,hm,e,hp⟩:=bg.1 hc;exact⟨m,XX,e,hp⟩
 have ad:G.length<(lsT P k).length:=XX;have hrv:=gM ad;have hrn:=gv ad;have af:(lsT P k)[G.length]=aC P (-1):=by have Z:=j0 P k;rw[hkP,mH]at Z;simp only[hkP,hGl,<-hPl];exact Z
 rw[af]at hrv;have hch:∀v (h:v<G.length),(lsT P k)[v]'XX=aC P v:=λv h=>by have Z:=sY P k (i:=v) XX;rw[Z,hkP,mH]
 have hvis:=fun(m:Nat)(hm:m<G.length)(hr:P.getD m 0= -1)=>Jx G.length XX hV G hG O P hP XX (lsT P k) hLl hch (List.replicate G.length nS) P.length m hm XX 0#64
 have hvl:((aC P (-1)).flatMap (lD P P.length)).length<=12:=by rw[vC,Fe hP];omega
 generalize hCS:aC P (-1)=CS at*;refine Gx O<|Z4 O<|Z1 O<|TN (St.jC 3 O O)<|Z2 O<|Z3 O<|Rs O (ag G.length underlying80 sT O O O ad hrn)<|Rs O (ar ⟨_,underlying22,O⟩ O hrv)<|Y2 O<|Gz O (st:=λs:Nat×List Int×List Int×List (List Int)=>([(2,UG),(4,UG),(7,UG),(10,UG),(11,UG),(62,UG),(63,UG),(64,UF (pIi s.1))],[(0,UG),(2,UG),(5,UF (.cells 22 (s.2.2.2.map aq))),(6,UG),(7,UF (.mix 82 [.pv (bA ((lsT P k))),.osl 5 1 G.length,.osl 6 1 G.length,.gsl 8 1 s.2.1.length])),(8,UF (.gro 3 (aN s.2.1))),(9,UF (.cells 3 (aN s.2.2.1))),(10,UG),(11,UG)])) 12
  (I:=λs=>(s.1<=CS.length/\s.2.1=(CS.take s.1).flatMap (lD P P.length))/\s.2.2.1=cc (List.replicate G.length 0) ((CS.take s.1).flatMap λc=>yx P P.length c 0#64)/\s.2.2.2=cc (List.replicate G.length []) ((CS.take s.1).flatMap λc=>kF P G G.length P.length c 0#64)) (μ:=λs=>CS.length-s.1) (x0:=(0,[],List.replicate G.length 0,List.replicate G.length [])) (TO (aS O) ⟨XY,XY,XY,XY,XY,XY,UI (b:=UF (.cells 3 (mkZ [.int .i64 0] (G.length*1)))) XY (ah (λc=>UF (Ob.cells 3 c)) ((cH (.int .i64 0) (G.length*1)).trans (by rw[Uv];show _=List.map _ (List.replicate _ _);rw[List.map_replicate]))),XY,XY,X5⟩ O O) (⟨⟨aJ _,O⟩,O,O⟩) ?_
 rintro⟨j,M,D2,K2⟩ ⟨⟨hj,hM⟩,hD2,hK2⟩;try simp only at hj hM hD2 hK2 ⊢
 refine Z1 O<|Gp O (λhc65=>?_) (λhc65=>?_)
 .have hlt:j<CS.length:=XX;have hcm:=ak hlt;obtain⟨c,hcl,hc,hcr⟩:=hCm _ hcm;have hpv2:(aN CS)[j*1]? =UF (.int .i64 (c:Int)):=by rw[<-hc];simp[hlt]
  have hpn2:=aM hlt;have al:=iq hlt (lD P P.length);have htd:=iq hlt (λc=>yx P P.length c 0#64);have htk:=iq hlt (λc=>kF P G G.length P.length c 0#64);have hfl:=Cl (lD P P.length) CS (j+1);rw[hc]at al htd htk;have hgo:=hvis c hcl hcr M D2 K2 (by rw[hD2,dJ,V0]) (by rw[hK2,dJ,V0]) (by rw[al,D8]at hfl;rw[hM];omega);exact TM<|Z1 O<|Rs O (ar ⟨_,underlying3,O⟩ O hpv2)<|A1 O<|Z2 O<|Rs O (mq (vs:=[pIi (c:Int),.pv (gV 0#64)]) [7,5,6,8,10,9,11] 12 call67 hgo O O O O O O ⟨XY,XY,XY,XY,XY,XY,XY,X5⟩ XZ O)<|Z2 O<|⟨(j+1,M++lD P P.length (c:Int),cc D2 (yx P P.length (c:Int) 0#64),cc K2 (kF P G G.length P.length (c:Int) 0#64)),TP [0,1,2,3,4,5,6,7,13,9,10,11] (aT O) (aP XY) O O XZ O,⟨⟨X4,by simp only;rw[al,<-hM]⟩,by simp only;rw[htd,iF,<-hD2],by simp only;rw[htk,iF,<-hK2]⟩,X4⟩
 rw[show CS.take j=CS from aG XX]at hM hD2 hK2;have am:D2.length=G.length:=by rw[hD2,dJ,V0]
 have hKl:K2.length=G.length:=by rw[hK2,dJ,V0]
 have hIl:(aN D2).length=G.length:=by rw[AS,am]
 have hrl5:=hV.r2;have hrln:=hS.rl;have hHl:=Qr D2 S;generalize hH:hpL D2 S=H at hHl;have hHr:∀i (h:i<S.rels.length),H[i]'XX=js D2 S.rels[i].2 S.rels[i].2.length:=λi h=>by subst hH;simp[hpL]
 refine Wk [(2,.ptr 0 0),(4,.ptr 2 0),(7,.ptr 7 0),(10,.ptr 10 0)] [(0,oZ S),(2,.mix 82 [.pv nS,.pv nS,.pv nS,.pv nS]),(5,.cells 22 (K2.map aq)),(6,.cells 22 (List.replicate G.length nS)),(7,.mix 82 [.pv (bA (lsT P k)),.osl 5 1 G.length,.osl 6 1 G.length,.gsl 8 1 M.length]),(8,.gro 3 (aN M)),(9,.cells 3 (aN D2)),(10,.mix 22 [.osl 9 1 G.length])] 12 (aS XY) (aO XY) O O<|TN (St.qJ 6 O)<|TN (St.GV (A:=6) (TA:=22) 3 G.length (ah (λc=>UF (Ob.mix 22 c)) X2) XZ XX (λi h1 h2=>Gb XZ h1 h2))<|Gx O<|Z4 O ?_;refine Gl O (st:=λB:Nat=>ovl (mkS [(4,.ptr 2 0),(7,.ptr 7 0),(10,.ptr 10 0),(73,.pv (.sl UG S.rels.length (aU S.rels))),(74,pIi S.rels.length),(75,pIi B)] [(2,.mix 82 [.pv nS,.pv nS,.pv nS,.pv nS]),(5,.cells 22 (K2.map aq)),(7,.mix 82 [.pv (bA (lsT P k)),.osl 5 1 G.length,.osl 6 1 G.length,.gsl 8 1 M.length]),(8,.gro 3 (aN M)),(9,.cells 3 (aN D2)),(10,.mix 22 [.osl 9 1 G.length])] 12) 6 22 3 (chV (lsP (hsT G.length H B))) (lsP (hsT G.length H B)))
  (I:=λB=>B<=S.rels.length) (μ:=λB=>S.rels.length-B) (x0:=(0)) (St.gS 1000 999 (aT O) (aP XY) (ah (λc=>UF (Ob.mix 22 c)) (by rw[iV 999 (by rw[eH,dW];omega),C2];unfold lsP;rw[List.map_replicate];rfl)) (λj hj=>by rw[eH,dW]at hj;rw[dt XX];refine(dr (A:=6) (TA:=22) (cells:=chV (List.replicate G.length [])) (ls:=List.replicate G.length []) XZ (by rw[V0];omega)).trans ?_;simp[C2,lsP]) O O XZ XZ XZ XZ (by rw[eH,dW];omega)) (aJ _) ?_
 rintro i hi;refine Z1 O<|Gp O (λhc76=>?_) (λhc76=>?_)
 .have hli:i<S.rels.length:=XX;have hrow:=fi hli;have hne:=ij hli;have hrk:=hrln _ (ak hli);have hrr:=hV.rng _ (ak hli);have W:=hV.ne _ (ak hli);have hHi:=hHr i hli;have D:(lsP (hsT G.length H i)).length=G.length:=by rw[eH,dW]
  have aa:=λU (h:U<(lsP (hsT G.length H i)).length)=>To G.length H i h
  generalize S.rels[i]=rk at*;have hhm:=λj=>x3 D2 W j
  have X:∀x∈rk.2,∃m:Nat,m<G.length/\x=(m:Int):=λx hx=>by obtain⟨m,e⟩:=tI (hrr x hx).1;exact⟨m,by have:=(hrr x hx).2;omega,e⟩
  obtain⟨U,hUn,hUe⟩:=X _ (hhm rk.2.length);generalize hls:lsP (hsT G.length H i)=ls at*;have r:U<ls.length:=XX;have J:lsP (hsT G.length H (i+1))=ls.set U (ls[U]++[.int .i64 i]):=by have Z:U<(hsT G.length H i).length:=(by rw[dW];exact hUn);rw[L9 XX hUn (hHi.trans hUe),yJ _ _ Z];subst hls;rfl
  have L:=Jl r;have ab:=aa _ r;have u:U*1+1<=(chV ls).length:=by rw[jR];omega
  have h0l:0<rk.2.length:=U7.2 W;have hq0:(aN rk.2)[0*1]? =UF (.int .i64 (js D2 rk.2 0)):=by cases hc:rk.2 with|nil=>exact absurd hc W|cons x l=>simp[js]
  have hpn0:=aM h0l;refine TM<|Z2 O ?_;first|refine A3 O X0 ?_|refine A1 O ?_
  refine Y3 O<|Z2 O<|Rs O (ag 0 underlying22 sz3 O O O h0l hpn0)<|Rs O (ar ⟨_,underlying3,O⟩ O hq0)<|A1 O<|Z4 O<|Gl O (st:=λE:Nat=>ovl (mkS [(4,.ptr 2 0),(7,.ptr 7 0),(10,.ptr 10 0),(14,pIi i),(16,pIi (js D2 rk.2 E)),(73,.pv (.sl UG S.rels.length (aU S.rels))),(74,pIi S.rels.length),(75,pIi i),(85,.pv (aq rk.2)),(86,pIi rk.2.length),(87,pIi E)] [(2,.mix 82 [.pv nS,.pv nS,.pv nS,.pv nS]),(5,.cells 22 (K2.map aq)),(7,.mix 82 [.pv (bA (lsT P k)),.osl 5 1 G.length,.osl 6 1 G.length,.gsl 8 1 M.length]),(8,.gro 3 (aN M)),(9,.cells 3 (aN D2)),(10,.mix 22 [.osl 9 1 G.length])] 13) 6 22 3 (chV ls) (ls))
   (I:=λE=>E<=rk.2.length) (μ:=λE=>rk.2.length-E) (x0:=(0)) (St.gS 1000 999 (aT O) (aP XY) (UI (b:=UF (.mix 22 (chV ls))) XY (by rw[iV 999 XX])) (λj2 hj2=>by rw[dt XX];exact UI (b:=(ovl (mkS [(4,.ptr 2 0),(7,.ptr 7 0),(10,.ptr 10 0),(73,.pv (.sl UG S.rels.length (aU S.rels))),(74,pIi S.rels.length),(75,pIi i)] [(2,.mix 82 [.pv nS,.pv nS,.pv nS,.pv nS]),(5,.cells 22 (K2.map aq)),(7,.mix 82 [.pv (bA (lsT P k)),.osl 5 1 G.length,.osl 6 1 G.length,.gsl 8 1 M.length]),(8,.gro 3 (aN M)),(9,.cells 3 (aN D2)),(10,.mix 22 [.osl 9 1 G.length])] 12) 6 22 3 (chV (ls)) (ls)).ob (j2+1000)) XY (dr XZ hj2)) O O XZ XZ XZ XZ XX) (aJ _) ?_
  rintro j3 hj3;refine Z1 O<|Gp O (λhc88=>?_) (λhc88=>?_)
  .have hl3:j3<rk.2.length:=XX;obtain⟨a,hal,ha⟩:=X _ (ak hl3);obtain⟨mh,hml,hmh⟩:=X _ (hhm j3);have hpv3:(aN rk.2)[j3*1]? =UF (.int .i64 (a:Int)):=by rw[<-ha];simp[hl3]
   have hpn3:=aM hl3;have hDa:(aN D2)[a*1]? =UF (.int .i64 (D2.getD a 0)):=by simp[List.getD,am,hal]
   have hDm:(aN D2)[mh*1]? =UF (.int .i64 (D2.getD mh 0)):=by simp[List.getD,am,hml]
   have an:=DG D2 rk.2 hl3;rw[ha,hmh,Ux,Ux]at an;refine TM<|Z1 O<|Rs O (ar ⟨_,underlying3,O⟩ O hpv3)<|A1 O<|UB 9 O<|Dr 2 O<|Ds [_] O (λτ h=>aj a underlying22 sz3 (Ee h 0 O O) (Eo h 0 O O) (Ee h 1 O O) O XX) O XY<|Ds [_] O (λτ h=>cL ⟨_,underlying3,O⟩ (Ee h 0 O O) (Eo h 0 O O) hDa) O XY<|Dr 2 O<|Ds [_] O (λτ h=>aj mh underlying22 sz3 (Ee h 0 O O) (Eo h 0 O O) (Ee h 1 O O) hmh XX) O XY<|Ds [_] O (λτ h=>cL ⟨_,underlying3,O⟩ (Ee h 0 O O) (Eo h 0 O O) hDm) O XY<|D1 O ?_;refine⟨XY,?_⟩;refine Gp O (λY=>?_) (λY=>?_)
   .exact Z2 O<|Z2 O<|⟨(j3+1),St.gS 1000 999 ⟨O,O,O,O,ah (λz=>pIi z) (an.trans (AT Y)).symm,O,O,O,O,O,O,X5⟩ (aP XY) (UI (b:=UF (.mix 22 (chV ls))) XY (by rw[iV 999 XX])) (λj2 hj2=>by rw[dt XX];exact UI (b:=(ovl (mkS [(4,.ptr 2 0),(7,.ptr 7 0),(10,.ptr 10 0),(14,pIi i),(16,pIi (js D2 rk.2 j3)),(73,.pv (.sl UG S.rels.length (aU S.rels))),(74,pIi S.rels.length),(75,pIi i),(85,.pv (aq rk.2)),(86,pIi rk.2.length),(87,pIi j3)] [(2,.mix 82 [.pv nS,.pv nS,.pv nS,.pv nS]),(5,.cells 22 (K2.map aq)),(7,.mix 82 [.pv (bA (lsT P k)),.osl 5 1 G.length,.osl 6 1 G.length,.gsl 8 1 M.length]),(8,.gro 3 (aN M)),(9,.cells 3 (aN D2)),(10,.mix 22 [.osl 9 1 G.length])] 13) 6 22 3 (chV ls) (ls)).ob (j2+1000)) XY (dr XZ hj2)) O O XZ XZ XZ XZ XX,XX,XX⟩
   exact TM<|Z2 O<|⟨(j3+1),St.gS 1000 999 ⟨O,O,O,O,ah (λz=>pIi z) ((an.trans (pF Y)).trans hmh.symm).symm,O,O,O,O,O,O,X5⟩ (aP XY) (UI (b:=UF (.mix 22 (chV ls))) XY (by rw[iV 999 XX])) (λj2 hj2=>by rw[dt XX];exact UI (b:=(ovl (mkS [(4,.ptr 2 0),(7,.ptr 7 0),(10,.ptr 10 0),(14,pIi i),(16,pIi (js D2 rk.2 j3)),(73,.pv (.sl UG S.rels.length (aU S.rels))),(74,pIi S.rels.length),(75,pIi i),(85,.pv (aq rk.2)),(86,pIi rk.2.length),(87,pIi j3)] [(2,.mix 82 [.pv nS,.pv nS,.pv nS,.pv nS]),(5,.cells 22 (K2.map aq)),(7,.mix 82 [.pv (bA (lsT P k)),.osl 5 1 G.length,.osl 6 1 G.length,.gsl 8 1 M.length]),(8,.gro 3 (aN M)),(9,.cells 3 (aN D2)),(10,.mix 22 [.osl 9 1 G.length])] 13) 6 22 3 (chV ls) (ls)).ob (j2+1000)) XY (dr XZ hj2)) O O XZ XZ XZ XZ XX,XX,XX⟩
  have hje:j3=rk.2.length:=XX;rw[<-hje]at hUe;refine Gx O<|UB 13 O<|Dr 6 O<|Ds [_] O (λτ h=>aj U underlying80 sT (Ee h 0 O O) (Eo h 0 O O) (Ee h 1 O O) hUe XX) O XY<|Ds [_] O (λτ h=>ns ⟨_,underlying22,O⟩ (Ee h 0 O O) (Eo h 0 O O) L) O XY<|Dr 2 O<|Ds [U+1000,13] O (λτ h=>fW 14 vN (Ee h 0 O O) ((h.o 0 _ O).trans (UI (b:=(ovl (mkS [(4,.ptr 2 0),(7,.ptr 7 0),(10,.ptr 10 0),(14,pIi i),(16,pIi (js D2 rk.2 j3)),(73,.pv (.sl UG S.rels.length (aU S.rels))),(74,pIi S.rels.length),(75,pIi i),(85,.pv (aq rk.2)),(86,pIi rk.2.length),(87,pIi j3)] [(2,.mix 82 [.pv nS,.pv nS,.pv nS,.pv nS]),(5,.cells 22 (K2.map aq)),(7,.mix 82 [.pv (bA (lsT P k)),.osl 5 1 G.length,.osl 6 1 G.length,.gsl 8 1 M.length]),(8,.gro 3 (aN M)),(9,.cells 3 (aN D2)),(10,.mix 22 [.osl 9 1 G.length])] 13) 6 22 3 (chV ls) (ls)).ob (U+1000)) XY (dr XZ r))) (Uv _).symm (Ee h 1 O O) (Eo h 1 O O) O O XX (h.n 0 _ O)) O XY<|Ds [_] O (λτ h=>aj U underlying80 sT (Ee h 0 O O) (Eo h 0 O O) (Ee h 1 O O) hUe XX) O XY<|DL.step (d:=UG) [_] O O O (λτ h=>mG sT (Ee h 0 O O) (Eo h 0 O O) (Ee h 1 O O) O u O O) O XY ?_;refine⟨XY,?_⟩;exact Z2 O<|⟨(i+1),(by rw[J];exact St.gS U 14 (aT O) (aP XY) (UI (b:=UF (.mix 22 (gj (chV ls) (U*1) [.gsl 14 1 (ls[U].length+1)]))) XY (ah (λc=>UF (Ob.mix 22 c)) ((vp _ _ _ (by rw[jR];omega)).trans (qH r 14 _).symm))) (zG r _ XY (λj2 hj2 hne2=>UI (b:=bif Nat.beq (j2+1000) (U+1000)then(UG:Option Ob)else(ovl (mkS [(4,.ptr 2 0),(7,.ptr 7 0),(10,.ptr 10 0),(14,pIi i),(16,pIi (js D2 rk.2 j3)),(73,.pv (.sl UG S.rels.length (aU S.rels))),(74,pIi S.rels.length),(75,pIi i),(85,.pv (aq rk.2)),(86,pIi rk.2.length),(87,pIi j3)] [(2,.mix 82 [.pv nS,.pv nS,.pv nS,.pv nS]),(5,.cells 22 (K2.map aq)),(7,.mix 82 [.pv (bA (lsT P k)),.osl 5 1 G.length,.osl 6 1 G.length,.gsl 8 1 M.length]),(8,.gro 3 (aN M)),(9,.cells 3 (aN D2)),(10,.mix 22 [.osl 9 1 G.length])] 13) 6 22 3 (chV ls) (ls)).ob (j2+1000)) XY (by rw[IQ XX,UZ];exact uD XZ hj2))) O O XZ XZ XZ XX (by rw[Ut];omega)),XX,XX⟩
 have hie:i=S.rels.length:=XX;have D:(lsP (hsT G.length H i)).length=G.length:=by rw[eH,dW]
 have hcp2:chP (lsP (hsT G.length H i))=((hsT G.length H i).map aq).map V.pv:=by rw[Js,Vb];rfl
 generalize hls:lsP (hsT G.length H i)=ls at*;refine TN (St.gS (l:=[(4,.ptr 2 0),(7,.ptr 7 0)]) (os:=[(2,.mix 82 [.pv nS,.pv nS,.pv nS,.pv nS]),(5,.cells 22 (K2.map aq)),(7,.mix 82 [.pv (bA (lsT P k)),.osl 5 1 G.length,.osl 6 1 G.length,.gsl 8 1 M.length]),(8,.gro 3 (aN M))]) (k:=12) (A:=6) (TA:=22) (T:=3) (ls:=ls) 1000 999 (aT XY) (aP XY) (UI (b:=UF (.mix 22 (chV ls))) XY (by rw[iV 999 XX])) (λj2 hj2=>by rw[dt XX];exact UI (b:=(ovl (mkS [(4,.ptr 2 0),(7,.ptr 7 0),(10,.ptr 10 0),(73,.pv (.sl UG S.rels.length (aU S.rels))),(74,pIi S.rels.length),(75,pIi i)] [(2,.mix 82 [.pv nS,.pv nS,.pv nS,.pv nS]),(5,.cells 22 (K2.map aq)),(7,.mix 82 [.pv (bA (lsT P k)),.osl 5 1 G.length,.osl 6 1 G.length,.gsl 8 1 M.length]),(8,.gro 3 (aN M)),(9,.cells 3 (aN D2)),(10,.mix 22 [.osl 9 1 G.length])] 12) 6 22 3 (chV (ls)) (ls)).ob (j2+1000)) XY (dr XZ hj2)) O O XZ XZ XZ XZ XX) ?_;have ac:=A6 (l:=[(4,.ptr 2 0),(7,.ptr 7 0)]) (os:=[(2,.mix 82 [.pv nS,.pv nS,.pv nS,.pv nS]),(5,.cells 22 (K2.map aq)),(7,.mix 82 [.pv (bA (lsT P k)),.osl 5 1 G.length,.osl 6 1 G.length,.gsl 8 1 M.length]),(8,.gro 3 (aN M))]) (k:=12) O O;exact TN (St.FZ ls XZ XX ac.1 ac.2)<|TN (St.yV (id:=6) (cs:=(hsT G.length H i).map aq) O hcp2)<|Wk [(4,.ptr 2 0),(7,.ptr 7 0)] [(2,.mix 82 [.pv nS,.pv nS,.pv nS,.pv nS]),(5,.cells 22 (K2.map aq)),(6,.cells 22 ((hsT G.length H i).map aq)),(7,.mix 82 [.pv (bA (lsT P k)),.osl 5 1 G.length,.osl 6 1 G.length,.gsl 8 1 M.length]),(8,.gro 3 (aN M))] 12 (aS XY) (aO XY) O O<|TN (TR 6 O O)<|TN (TR 5 O O)<|TN (TR 8 O O)<|TN (St.Ov 7 O)<|Gx O<|Z2 O<|Gt O<|⟨_,_,O,O,⟨au ⟨_,underlying82,O⟩ sz82 O O O,X5⟩,G,hG,Pa hkP hie hH hM hCS hD2 hK2 hKl⟩
end
section
open Mk Jn
noncomputable def planS(S:Sch):VD:=oy S (ordL S (lstL S)) (gr S)
end
section
open Mk
noncomputable def costN(G:List B64)(rest:B64)(a:Nat):Nat:=keyN G (compB G rest a)+1

theorem M3{x:B64}(d:l.Nodup)(s:∀y∈l,0<=y)(u:∀a:Nat,(a:Int)∈l↔x.getLsbD a=VA):l.length=lL x:=by
 have r:l.Perm (((List.range 64).filter λi=>x.getLsbD i).map Int.ofNat):=fF d (List.Pairwise.map _ (λa b h e=>h (Int.ofNat.inj e)) (WI VR List.nodup_range)) λy=>by grind[tI,Wt.2,Vj.2,jS,Wt.1]
 rw[r.length_eq,AS];unfold lL;rw[List.countP_eq_length_filter]

end
end Go.Proofs.YtameambcolibjaaGreatDoor
