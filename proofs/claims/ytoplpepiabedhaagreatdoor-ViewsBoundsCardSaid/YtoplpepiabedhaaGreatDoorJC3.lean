/- Lemmas. No condition. -/
import Derived.Lib.ConvBytes
import Derived.Laws.IdiomStrings
import Derived.Laws.BytesArg
import Derived.Test.YtoplpepiabedhaaGreatDoorJC2
set_option maxRecDepth 100000
set_option maxHeartbeats 4000000
open Go.RowKit Go.Proofs.Tryz
open Option renaming some→Sh,none→Sl
open Bool renaming true→Sm,false→S1
namespace Go.Proofs.YtoplpepiabedhaaGreatDoor
variable{T e d src el:TypeId}{x:Operand}{id sz k size bytes j n a t i:Nat}{z u:Value}{C:Ctx}{w:World}{m:Gm}{R:Nat->Prop}{r b:Bool}{c:Code}{P:Program}{f:FuncId}{S is:List Nat}{α:Type}{cl:List (List Nat)}
section
theorem cZ{cs:List PV}(h:cs≠[]):(Ob.gro T cs).real=Sm:=by
 cases cs with
 |nil=>exact absurd O h
 |cons _ _=>rfl
section
variable {C:Ctx}{n:Nat}{σ:St}{a:Act}{w:World}{m:Gm}{R:Nat->Prop}
theorem SW.gsl(h:SW C n σ a w m R)(l:σ.ev n x= .gsl id sz k):
  ∃A c,a.eval x= .slice A k c/\k<=c/\c<=maxLen/\(k=0->A=Sl/\c=0/\m id=Sl)/\(0<k->∀b N,m id=Sh (b,N)->A=Sh ⟨b,0,Sl⟩/\N=c*sz):=by
 have:=h.ev x;rw[l]at this;simp only[Rel]at this;exact this.2
end
section
variable {C:Ctx}{n:Nat}{σ:St}{dst:Option Tmp}{ty t t':TypeId}{pos:String}{after:Array Edge}{gd:Option (Nat×Bool)}{x y:Operand}
theorem rh{cs news:List PV}(id':Nat)(B:ElemIs C.P t e z size bytes)(hs:σ.ev n x= .gsl id size k)(ho:σ.ob id=Sh (.gro e cs))(H:cs.length=k*size)
  (X:nP n σ y j news) (hl:news.length=j*size) (Y:∀c∈news,c.leaf=Sm) (hb:k+j<=1000000000) (hj:0<j) (Z:σ.av id'=Sm):
  XJ C n ⟨dst,.call { callee:= .builtin .append,args:= #[x,y],argTypes:= #[t,t] },ty,pos,after,gd⟩ σ ⟨.gsl id' size (k+j),[(id',Sh (.gro e (cs++news))),(id,Sl)],[id']⟩:=by
 rintro a w Q ⟨m,R,hw⟩;obtain⟨A0,c,hev,hkc,hcm,hz,hp⟩:=hw.gsl hs;obtain⟨A,c2,us,hev2,hr2,hrow⟩:=X.row hw;have J:0<news.length:=by rw[hl];exact U6 hj B.pos
 have I:cs++news≠[]:=λe=>by
  have:=ag List.length e;simp at this;rw[this.2]at J;simp at J
 have G:∀i x,upd m id Sl i=Sh x->m i=Sh x/\i≠id:=λi x e=>by
  by_cases hi:i=id
  .subst hi;rw[aA]at e;cases e
  .rw[aR _ _ hi]at e;exact⟨e,hi⟩
 rcases SY k with hk0|hk0
 .subst hk0;obtain⟨rfl,rfl,hmn⟩:=hz O;have L:cs=[]:=RU (by simpa using H);subst L;refine nN x y t O 0 e z size bytes B.u B.info B.zs B.pos B.by_ _ 0 j c2 A _ us hev hev2 (World.ownsRow_nil w 0 e size) hrow (by rw[hr2.length,hl]) (dN hr2 Y) Vf (cd _) ?_;intro A' c' w' hown' hgr hat
  simp only[RV,Sr]at hown' hat I ⊢;rcases hown'.2 with⟨hv,h0⟩|⟨g,cap,cur,hv,_,hg,hkc',hcm',hcs',htk⟩
  .omega
  .simp only[Value.slice.injEq]at hv;obtain⟨rfl, -,rfl⟩:=hv;have gge:w.heap.size<=g:=by
    rcases hat with h|⟨g',h,hle⟩
    .simp[Value.ownBlock]at h
    .simp only[Value.ownBlock,Rq]at h;subst h;exact hle
   refine⟨_,O,upd (upd m id Sl) id' (Sh (g,cur.size)),R,?_⟩;rw[Rc];refine SW.put ((hw.drop id).fresh Z hg hgr (λq hq=>by simp[Value.ownBlock]at hq) (λh=>by have:=hw.hr.rsz _ h;omega) (λi b N hi e=>by have:=(hw.hr.own i b N (G i _ hi).1).1;omega) (.inr (by have:=hw.hr.frame.size;omega)) (.gro e news) ?_ (cZ I)) dst ?_
   .intro m' av' hR _ _;refine⟨cur,hg,O,?_,?_⟩
    .rw[hcs',<-hr2.length,hown'.1];exact SV _ hkc'
    .rw[<-hr2.length,hown'.1,htk];exact hr2.mono hR
   .simp only[Rel];refine⟨by simp[avL],_,c',O,hkc',hcm',λh=>by omega,λ_ b N e=>?_⟩;rw[aA]at e;cases e;exact⟨O,hcs'⟩
 .have hcne:cs≠[]:=λe=>by
   rw[e]at H;have:=U6 hk0 B.pos;simp at H;omega
  obtain⟨b,N,hm,arr,hbk,hsz,hle,hr⟩:=hw.live ho (cZ hcne);obtain⟨rfl,hN⟩:=hp hk0 b N hm;have M:w.ownsRow 0 e size (.slice (Sh ⟨b,0,Sl⟩) k c) k (arr.toList.take (k*size)):=by
   refine⟨?_,.inr ⟨b,c,arr,O,cd _,hbk,hkc,hcm,by rw[hsz,hN],O⟩⟩;have:=SV size hkc;simp only[Rr,RE];omega
  refine nN x y t O 0 e z size bytes B.u B.info B.zs B.pos B.by_ _ k j c2 A _ us hev hev2 M hrow (by rw[hr2.length,hl]) (dN hr2 Y) hb (cd _) ?_;intro A' c' w' hown' hgr hat
  have U:=hw.hr.own id b N hm;have D:RelPL w R (cs++news) (arr.toList.take (k*size)++us):=by
   rw[H]at hr;exact hr.append hr2
  have E:¬R b/\(∀i b' N',upd m id Sl i=Sh (b',N')->b'≠b)/\(C.F b\/C.w0.heap.size<=b):=
   ⟨U.2.1,λi b' N' hi e=>(G i _ hi).2 (Hy hw (G i _ hi).1 hm e),U.2.2⟩
  rcases hown'.2 with⟨hv,h0⟩|⟨g,cap,cur,hv,_,hg,hkc',hcm',hcs',htk⟩
  .exfalso;simp only[Value.slice.injEq]at hv;obtain⟨rfl,_,_⟩:=hv;rcases hat with h|⟨g',h,_⟩<;>simp[Value.ownBlock]at h
  .simp only[Value.slice.injEq]at hv;obtain⟨rfl, -,rfl⟩:=hv;have l:¬R g/\(∀i b' N',upd m id Sl i=Sh (b',N')->b'≠g)/\(C.F g\/C.w0.heap.size<=g):=by
    rcases hat with h|⟨g',h,hle⟩
    .simp only[Value.ownBlock,Rq]at h;rw[h];exact E
    .simp only[Value.ownBlock,Rq]at h;subst h;refine⟨λh=>?_,λi b' N' hi e=>?_,.inr ?_⟩
     .have:=hw.hr.rsz _ h;omega
     .have:=(hw.hr.own i b' N' (G i _ hi).1).1;omega
     .have:=hw.hr.frame.size;omega
   have W:(arr.toList.take (k*size)++us).length=(k+j)*size:=hown'.1;refine⟨_,O,upd (upd m id Sl) id' (Sh (g,cur.size)),R,?_⟩;rw[Rc];refine SW.put ((hw.drop id).fresh Z hg hgr (λq hq=>by simp[Value.ownBlock]at hq;subst hq;exact E) l.1 l.2.1 l.2.2 (.gro e (cs++news)) ?_ (cZ I)) dst ?_
   .intro m' av' hR _ _;refine⟨cur,hg,O,?_,?_⟩
    .rw[hcs',<-D.length,W];exact SV _ hkc'
    .rw[<-D.length,W,htk];exact D.mono hR
   .simp only[Rel];refine⟨by simp[avL],_,c',O,hkc',hcm',λh=>by omega,λ_ b N e=>?_⟩;rw[aA]at e;cases e;exact⟨O,hcs'⟩
theorem ir{T2:TypeId}{id2:Nat}{cs news:List PV}(id':Nat)(D:ElemIs C.P t e z size bytes)(E:σ.ev n x= .gsl id size k)(G:σ.ob id=Sh (.gro e cs))(l:cs.length=k*size)
  (H:σ.ev n y= .osl id2 size 1) (q:σ.ob id2=Sh (.cells T2 news)) (J:news.length=size) (A:news.all PV.leaf=Sm) (I:k+1<=1000000000) (B:σ.av id'=Sm):
  XJ C n ⟨dst,.call { callee:= .builtin .append,args:= #[x,y],argTypes:= #[t,t] },ty,pos,after,gd⟩ σ ⟨.gsl id' size (k+1),[(id',Sh (.gro e (cs++news))),(id,Sl)],[id']⟩:=
 rh id' D E G l (.inr ⟨id2,size,T2,news,H,q,by rw[Nat.one_mul,aQ Vf]⟩) Vf (by simpa using A) I Vf B
end
def St.gro(σ:St)(t id sz:Nat)(T:TypeId):St:=⟨upd σ.sl t (.gsl id sz 0),obL [(id,Sh (.gro T []))] σ.ob,avL [id] σ.av⟩
theorem SW.gro0{σ:St}{a:Act}(l:SW C n σ a w m R)(E:σ.av id=Sm)(T:TypeId):SW C n ⟨σ.sl,obL [(id,Sh (.gro T []))] σ.ob,avL [id] σ.av⟩ a w m R/\m id=Sl:=by
 have q:∀i,i≠id->obL [(id,Sh (.gro T []))] σ.ob i=σ.ob i:=λi hi=>by
  have:Nat.beq i id=S1:=by cases hb:Nat.beq i id;rfl;exact absurd (aJ hb) hi
  simp[obL,this]
 have B:obL [(id,Sh (.gro T []))] σ.ob id=Sh (.gro T []):=by simp[obL]
 have A:m id=Sl:=by
  have:=l.hr.dom id;rw[l.hr.free id E]at this;simpa[bI]using this
 have D:∀i,σ.av i=S1->avL [id] σ.av i=S1:=λi hi=>by
  simp only[avL];cases Nat.beq i id<;>simp[hi]
 refine⟨l.world ⟨?_,?_,?_,l.hr.inj,l.hr.own,l.hr.rsz,l.hr.rfr,l.hr.r0,l.hr.frame,l.hr.keep,λi hi=>D i (l.hr.res i hi)⟩ (λb hb=>⟨hb,O⟩) (λ_ _ _ e=>e) D,A⟩
 .intro i;by_cases e:i=id
  .subst e;rw[B,A];rfl
  .rw[q i e];exact l.hr.dom i
 .intro i hi;simp only[avL]at hi;cases hb:Nat.beq i id with
  |true=>rw[hb]at hi;simp at hi
  | false=>
    rw[hb]at hi;have e:i≠id:=λe=>by subst e;simp at hb
    rw[q i e];exact l.hr.free i (by simpa using hi)
 .intro i o b N h1 h2;by_cases e:i=id
  .subst e;rw[A]at h2;cases h2
  .rw[q i e]at h1;exact(l.hr.obj i o b N h1 h2).mono (λb hb=>⟨hb,O⟩) (λ_ _ _ e=>e) D O
theorem xr{av:Av}(h:RelP w R (.sl (Sh Sm) 0 []) u)(q:m id=Sl)(B:av id=S1):Rel w m av R (.gsl id sz 0) u:=by
 simp only[RelP]at h;obtain⟨A,c,he,_,h2,h3,h4,_⟩:=h;have l:A=Sl:=by cases A;rfl;have:=h3 Sm O;simp at this
 simp only[Rel];exact⟨B,A,c,he,cd _,h2,λ_=>⟨l,h4 trivial,q⟩,λh=>absurd h (Nat.lt_irrefl 0)⟩
theorem Ra{σ:St}(t id sz:Nat)(T:TypeId)(B:σ.sl t= .pv (.sl (Sh Sm) 0 []))(A:σ.av id=Sm):σ.le (σ.gro t id sz T):=by
 rintro C n a w ⟨m,R,hw⟩;obtain⟨h,hmn⟩:=hw.gro0 A T;refine⟨m,R,h.hr,h.df,h.sz,λq hq=>?_⟩;show Rel w m (avL [id] σ.av) R (upd σ.sl t (.gsl id sz 0) q) _;by_cases e:q=t
 .subst e;rw[aA];have l:=hw.sl q hq;rw[B]at l;simp only[Rel]at l;exact xr l hmn (by simp[avL])
 .rw[aR _ _ e];exact h.sl q hq
def St.groC(σ:St)(pid j id sz:Nat)(T T':TypeId)(cs:List V):St:=⟨σ.sl,obL [(pid,Sh (.mix T' (cs.set j (.gsl id sz 0)))),(id,Sh (.gro T []))] σ.ob,avL [id] σ.av⟩
theorem St.da{σ:St}{T':TypeId}{cs:List V}(pid j id sz:Nat)(T:TypeId)(G:σ.ob pid=Sh (.mix T' cs))(I:cs[j]? =Sh (.pv (.sl (Sh Sm) 0 [])))(D:σ.av id=Sm):σ.le (σ.groC pid j id sz T T' cs):=by
 rintro C n a w ⟨m,R,hw⟩;obtain⟨h,hmn⟩:=hw.gro0 D T;have E:pid≠id:=λe=>by rw[e,hw.hr.free id D]at G;cases G
 have q:obL [(id,Sh (.gro T []))] σ.ob pid=Sh (.mix T' cs):=by
  have:Nat.beq pid id=S1:=by cases hb:Nat.beq pid id;rfl;exact absurd (aJ hb) E
  simp[obL,this,G]
 have A:∀i,i≠pid->obL [(pid,Sh (.mix T' (cs.set j (.gsl id sz 0)))),(id,Sh (.gro T []))] σ.ob i=obL [(id,Sh (.gro T []))] σ.ob i:=λi hi=>by
  have:Nat.beq i pid=S1:=by cases hb:Nat.beq i pid;rfl;exact absurd (aJ hb) hi
  simp[obL,this]
 have B:obL [(pid,Sh (.mix T' (cs.set j (.gsl id sz 0)))),(id,Sh (.gro T []))] σ.ob pid=Sh (.mix T' (cs.set j (.gsl id sz 0))):=by simp[obL]
 refine⟨m,R,⟨?_,?_,?_,h.hr.inj,h.hr.own,h.hr.rsz,h.hr.rfr,h.hr.r0,h.hr.frame,h.hr.keep,h.hr.res⟩,h.df,h.sz,h.sl⟩
 .intro i;show(m i).isSome=bI (obL _ σ.ob i);by_cases e:i=pid
  .subst e;rw[B,h.hr.dom];show bI (obL [(id,Sh (.gro T []))] σ.ob i)=_;rw[q];rfl
  .rw[A i e];exact h.hr.dom i
 .intro i hi;show obL _ σ.ob i=Sl;by_cases e:i=pid
  .subst e;have:=q.symm.trans (h.hr.free i hi);cases this
  .rw[A i e];exact h.hr.free i hi
 .intro i o b N h1 h2;have l:obL [(pid,Sh (.mix T' (cs.set j (.gsl id sz 0)))),(id,Sh (.gro T []))] σ.ob i=Sh o:=h1;by_cases e:i=pid
  .subst e;rw[B]at l;cases l;obtain⟨arr,q1,q2,q3,q4⟩:=h.hr.obj i _ b N q h2;refine⟨arr,q1,q2,by simpa using q3,?_⟩;obtain⟨u,hu,hr⟩:=q4.get I;simp only[SI];have:=q4.set j (p:= .gsl id sz 0) (u:=u) (xr (by simpa only[Rel]using hr) hmn (by simp[avL]));have H:(arr.toList.take cs.length).set j u=arr.toList.take cs.length:=by
    obtain⟨hlt,e3⟩:=Rp.1 hu;rw[<-e3];exact List.set_getElem_self hlt
   rw[H]at this;exact this
  .rw[A i e]at l;exact h.hr.obj i o b N l h2
mutual
def V.pubV(id:Nat)(r:Bool)(cs:List PV):V->V
 | .osl i sz k=>bif Nat.beq i id then .pv (bif r then .sl (Sh S1) k cs else .any)else .osl i sz k
 | .tsl i sz k=>bif Nat.beq i id then .pv .any else .tsl i sz k
 | .gsl i sz k=>bif Nat.beq i id then .pv (.sl Sl k cs)else .gsl i sz k
 | .agg vs=> .agg (V.pubL id r cs vs)
 | .tup vs=> .tup (V.pubL id r cs vs)
 | .fn f a b=> .fn f (V.pubL id r cs a) (V.pubL id r cs b)
 | .pv p=> .pv p
 | .ptr i o=> .ptr i o
 | .map i=> .map i
def V.pubL(id:Nat)(r:Bool)(cs:List PV):List V->List V
 |[]=>[]
 |v::vs=>V.pubV id r cs v::V.pubL id r cs vs
end
def Ob.HY(id:Nat)(r:Bool)(cs:List PV):Ob->Ob
 | .cells t c=> .cells t c
 | .gro t c=> .gro t c
 | .mp ks vs=> .mp ks vs
 | .it s p=> .it s p
 | .fro s p=> .fro s p
 | .mi c ks vs=> .mi c ks vs
 | .mix t vs=> .mix t (V.pubL id r cs vs)
theorem Ob.Dc(id:Nat)(r:Bool)(cs:List PV):∀o:Ob,(o.HY id r cs).real=o.real
 | .cells _ _=>rfl
 | .mix _ _=>rfl
 | .gro _ []=>rfl
 | .gro _ (_::_)=>rfl
 | .mp _ _=>rfl
 | .it _ _=>rfl
 | .fro _ _=>rfl
 | .mi _ _ _=>rfl
theorem Gw(id:Nat)(r:Bool)(cs:List PV):∀o:Option Ob,bI (o.map (Ob.HY id r cs))=bI o
 |none=>rfl
 |some o=>Ob.Dc id r cs o
def St.O7(σ:St)(id:Nat)(r:Bool)(cs:List PV):St:=⟨λt=>V.pubV id r cs (σ.sl t),λi=>bif Nat.beq i id then Sl else(σ.ob i).map (Ob.HY id r cs),σ.av⟩
section
variable {w:World}{m m':Gm}{av:Av}{R R':Nat->Prop}
theorem jX(id:Nat)(r:Bool)(cs:List PV):∀vs:List V,(V.pubL id r cs vs).length=vs.length
 |[]=>rfl
 |_::vs=>by simp[V.pubL,jX id r cs vs]
mutual
theorem Rel.pubV{cs:List PV}(l:∀b,R b->R' b/\w.heap[b]? =w.heap[b]?)(q:∀i x,m' i=Sh x->m i=Sh x)
  (A:r=Sm->∀sz k u,Rel w m av R (.osl id sz k) u->RelP w R' (.sl (Sh S1) k cs) u) (B:∀sz k u,Rel w m av R (.gsl id sz k) u->RelP w R' (.sl Sl k cs) u):
  ∀(v:V)(u:Value),Rel w m av R v u->Rel w m' av R' (V.pubV id r cs v) u
 | .osl i sz k,u,h=>by
   simp only[V.pubV];cases hb:Nat.beq i id with
   | true=>
     have:=aJ hb;subst this;simp only[Sy,Rel];cases r with
     |true=>exact A O sz k u h
     |false=>simp only[RR,RelP]
   |false=>simp only[RR];exact h.mono l (λi x _ e=>q i x e) (λ_ e=>e)
 | .gsl i sz k,u,h=>by
   simp only[V.pubV];cases hb:Nat.beq i id with
   |true=>have:=aJ hb;subst this;simp only[Sy,Rel];exact B sz k u h
   |false=>simp only[RR];exact h.mono l (λi x _ e=>q i x e) (λ_ e=>e)
 | .tsl i sz k,u,h=>by
   simp only[V.pubV];cases hb:Nat.beq i id with
   |true=>simp only[Sy,Rel,RelP]
   |false=>simp only[RR];exact h.mono l (λi x _ e=>q i x e) (λ_ e=>e)
 | .agg vs,u,h=>by
   simp only[Rel,V.pubV]at h ⊢;obtain⟨us,e,h⟩:=h;exact⟨us,e,RelL.pubL l q A B vs us h⟩
 | .tup vs,u,h=>by
   simp only[Rel,V.pubV]at h ⊢;obtain⟨us,e,h⟩:=h;exact⟨us,e,RelL.pubL l q A B vs us h⟩
 | .fn f a b,u,h=>by
   simp only[Rel,V.pubV]at h ⊢;obtain⟨us,vs,e,ha,hb⟩:=h;exact⟨us,vs,e,RelL.pubL l q A B a us ha,RelL.pubL l q A B b vs hb⟩
 | .pv p,u,h=>by simp only[V.pubV];exact h.mono l (λi x _ e=>q i x e) (λ_ e=>e)
 | .ptr i o,u,h=>by simp only[V.pubV];exact h.mono l (λi x _ e=>q i x e) (λ_ e=>e)
 | .map i,u,h=>by simp only[V.pubV];exact h.mono l (λi x _ e=>q i x e) (λ_ e=>e)
theorem RelL.pubL{cs:List PV}(l:∀b,R b->R' b/\w.heap[b]? =w.heap[b]?)(q:∀i x,m' i=Sh x->m i=Sh x)
  (A:r=Sm->∀sz k u,Rel w m av R (.osl id sz k) u->RelP w R' (.sl (Sh S1) k cs) u) (B:∀sz k u,Rel w m av R (.gsl id sz k) u->RelP w R' (.sl Sl k cs) u):
  ∀(vs:List V)(us:List Value),RelL w m av R vs us->RelL w m' av R' (V.pubL id r cs vs) us
 |[],_,h=>by simpa only[RelL,V.pubL]using h
 | c::vs,_,h=>by
   simp only[RelL,V.pubL]at h ⊢;obtain⟨u,us,e,ha,hb⟩:=h;exact⟨u,us,e,Rel.pubV l q A B c u ha,RelL.pubL l q A B vs us hb⟩
end
end
def Ob.plain:Ob->Option (Bool×List PV)
 | .cells _ cs=>Sh (Sm,cs)
 | .gro _ cs=>Sh (S1,cs)
 | .mp _ _=>Sl
 | .it _ _=>Sl
 | .fro _ _=>Sl
 | .mi _ _ _=>Sl
 | .mix _ _=>Sl
theorem Q8{σ:St}{o:Ob}{cs:List PV}(id:Nat)(Z:σ.ob id=Sh o)(hc:o.plain=Sh (r,cs)):σ.le (σ.O7 id r cs):=by
 rintro C n a w ⟨m,R,hw⟩;have U:=hw.drop id;have l:∀i x,upd m id Sl i=Sh x->m i=Sh x/\i≠id:=λi x e=>by
  by_cases hi:i=id
  .subst hi;rw[aA]at e;cases e
  .rw[aR _ _ hi]at e;exact⟨e,hi⟩
 let R':Nat->Prop:=λq=>R q\/∃N,m id=Sh (q,N)
 have E:∀b,R b->R' b/\w.heap[b]? =w.heap[b]? :=λb hb=>⟨.inl hb,O⟩
 have B:∀b N,m id=Sh (b,N)->∃us,RelPL w R' cs us/\rA w R' b 0 us:=by
  intro b N hm;have D:=hw.hr.obj id o b N Z hm;have I:∀T (arr:Array Value),w.heap[b]? =Sh (.cells arr T (0,0))->RelPL w R cs (arr.toList.take cs.length)->∃us,RelPL w R' cs us/\rA w R' b 0 us:=by
   intro T arr hb hr;refine⟨_,hr.mono E,.inr ⟨N,hm⟩,?_⟩;intro j hj;simp only[Rr]at hj;rw[RV,cell_of_row w b j arr T (0,0) hb,Ry,AT Vf];simp
  cases o with
  |cells T c=>simp only[Ob.plain,Rq,Prod.mk.injEq]at hc;obtain⟨_,rfl⟩:=hc;obtain⟨arr,q1,_,_,q4⟩:=D;exact I T arr q1 q4
  |gro T c=>simp only[Ob.plain,Rq,Prod.mk.injEq]at hc;obtain⟨_,rfl⟩:=hc;obtain⟨arr,q1,_,_,q4⟩:=D;exact I T arr q1 q4
  |mix T c=>simp[Ob.plain]at hc
  |mp ks vs=>simp[Ob.plain]at hc
  |it s p=>simp[Ob.plain]at hc
  |fro s p=>simp[Ob.plain]at hc
  |mi c ks vs=>simp[Ob.plain]at hc
 have J:(m id).isSome=Sm\/(r=S1/\cs=[]):=by
  rw[hw.hr.dom,Z];cases o with
  |cells T c=>exact .inl O
  | gro T c=>
    simp only[Ob.plain,Rq,Prod.mk.injEq]at hc;obtain⟨rfl,rfl⟩:=hc;cases c with
    |nil=>exact .inr ⟨O,O⟩
    |cons _ _=>exact .inl O
  |mix T c=>simp[Ob.plain]at hc
  |mp ks vs=>simp[Ob.plain]at hc
  |it s p=>simp[Ob.plain]at hc
  |fro s p=>simp[Ob.plain]at hc
  |mi c ks vs=>simp[Ob.plain]at hc
 have X:r=Sm->∀sz k u,Rel w m σ.av R (.osl id sz k) u->RelP w R' (.sl (Sh S1) k cs) u:=by
  intro hr' sz k u h;obtain⟨⟨b,N⟩,hm⟩:∃x,m id=Sh x:=by
   rcases J with h|h
   .exact RQ.1 h
   .rw[hr']at h;cases h.1
  simp only[Rel]at h;obtain⟨c,he,h1,h2,_⟩:=h.2 b N hm;obtain⟨us,hr,hsh⟩:=B b N hm;simp only[RelP];exact⟨_,c,he,h1,h2,(λ_ e=>by cases e;rfl),(λe=>by cases e),λ_=>⟨b,0,us,rfl,hr,hsh⟩⟩
 have Y:∀sz k u,Rel w m σ.av R (.gsl id sz k) u->RelP w R' (.sl Sl k cs) u:=by
  intro sz k u h;simp only[Rel]at h;obtain⟨h0,A,c,he,h1,h2,h3,h4⟩:=h;simp only[RelP];refine⟨_,c,he,h1,h2,(λ_ e=>by cases e),(λe=>by cases e),λW=>?_⟩;obtain⟨⟨b,N⟩,hm⟩:∃x,m id=Sh x:=by
   rcases J with h|h
   .exact RQ.1 h
   .exact absurd h.2 W
  have hk:0<k:=by
   rcases SY k with e|e
   .have:=(h3 e).2.2;rw[hm]at this;cases this
   .exact e
  obtain⟨us,hr,hsh⟩:=B b N hm;exact⟨b,0,us,(h4 hk b N hm).1,hr,hsh⟩
 have G:∀i x,upd m id Sl i=Sh x->m i=Sh x:=λi x e=>(l i x e).1
 have L:∀i,(σ.O7 id r cs).ob i=bif Nat.beq i id then Sl else(σ.ob i).map (Ob.HY id r cs):=λ_=>rfl
 have M:(σ.O7 id r cs).ob id=Sl:=by rw[L];simp
 have H:∀i,i≠id->(σ.O7 id r cs).ob i=(σ.ob i).map (Ob.HY id r cs):=λi hi=>by
  rw[L];have:Nat.beq i id=S1:=by cases hb:Nat.beq i id;rfl;exact absurd (aJ hb) hi
  rw[this];rfl
 refine⟨upd m id Sl,R',⟨?_,?_,?_,U.hr.inj,?_,?_,?_,λq hq=> .inl (hw.hr.r0 q hq),hw.hr.frame,U.hr.keep,U.hr.res⟩,hw.df,hw.sz,?_⟩
 .intro i;by_cases e:i=id
  .subst e;rw[aA,M];rfl
  .rw[aR _ _ e,H i e,Gw];exact hw.hr.dom i
 .intro i hi;by_cases e:i=id
  .subst e;exact M
  .rw[H i e,hw.hr.free i hi];rfl
 .intro i o' b N h1 h2;obtain⟨h2',e⟩:=l i _ h2;rw[H i e]at h1;cases ho':σ.ob i with
  |none=>rw[ho']at h1;cases h1
  | some o2=>
    rw[ho']at h1;simp only[Tt,Rq]at h1;subst h1;have D:=hw.hr.obj i o2 b N ho' h2';cases o2 with
    |cells T c=>obtain⟨arr,q1,q2,q3,q4⟩:=D;exact⟨arr,q1,q2,q3,q4.mono E⟩
    |gro T c=>obtain⟨arr,q1,q2,q3,q4⟩:=D;exact⟨arr,q1,q2,q3,q4.mono E⟩
    |mp ks vs=>obtain⟨es,clock,q1,q2,q3,q4⟩:=D;exact⟨es,clock,q1,q2.mono E,q3.mono E,q4⟩
    |it s p=>exact D
    |fro s p=>exact D
    |mi c ks vs=>exact vP.mono E O D
    | mix T c=>
      obtain⟨arr,q1,q2,q3,q4⟩:=D;refine⟨arr,q1,q2,by rw[jX];exact q3,?_⟩;rw[jX];exact q4.pubL E G X Y
 .intro i b N h1;obtain⟨h2,h3,h4⟩:=hw.hr.own i b N (l i _ h1).1;refine⟨h2,?_,h4⟩;rintro(h5|⟨N',h5⟩)
  .exact h3 h5
  .exact(l i _ h1).2 (hw.hr.inj i id b N N' (l i _ h1).1 h5)
 .rintro q (hq|⟨N,hq⟩)
  .exact hw.hr.rsz q hq
  .exact(hw.hr.own id q N hq).1
 .rintro q (hq|⟨N,hq⟩)
  .exact hw.hr.rfr q hq
  .rcases(hw.hr.own id q N hq).2.2 with h|h
   .exact .inr (.inr h)
   .exact .inr (.inl h)
 .intro t ht;exact(hw.sl t ht).pubV E G X Y
theorem St.le.trans{σ τ υ:St}(h:σ.le τ)(k:τ.le υ):σ.le υ:=λC n a w hs=>k C n a w (h C n a w hs)
def midQ{X:Type}(st:X->St)(I:X->Prop)(Q:Exit->St->Prop):Exit->St->Prop
 | .normal,σ=>∃x,σ.le (st x)/\I x
 |e,σ=>Q e σ
theorem AW.cut{X:Type}{Q:Exit->St->Prop}{σ:St}{d:Code}(st:X->St)(I:X->Prop)(h:AW C n c (midQ st I Q) σ)(k:∀x,I x->AW C n d Q (st x)):AW C n (.seq c d) Q σ:=by
 refine Rh (h.mono ?_);intro e s hq;cases e with
 | normal=>
   obtain⟨x,hle,hi⟩:=hq;exact Q4 hle (k x hi)
 |_=>exact hq
end
def retMC(n t k:Nat)(T:TypeId)(Q:PV->List PV->Prop):Exit->St->Prop
 | .ret,σ| .normal,σ=>∃id T2 ps cs',σ.ev n (.tmp t)= .ptr id 0/\Nat.blt id big=Sm/\σ.ob id=Sh (.mix T2 (ps.map .pv))/\ps.length=k/\σ.ob big=Sh (.mix T (cs'.map .pv))/\Q (.agg ps) cs'
 |_,_=>False
theorem FnM.ofC{fn:Func}{rt:TypeId}{cs args:List PV}{Q:PV->List PV->Prop}(W:P.funcs[f]? =Sh fn)(A:fn.body=Sh c)(X:fn.ntmps=n)(H:args.length+1<=n)(q:fn.results.toList=[.cell t rt])(Y:t<n)(G:isRow P rt)(I:bN P rt k)
  (h:∀m0 w0 F R0,AW ⟨P,m0,w0,F,R0⟩ n c (retMC n t k T Q) (mkS ((0,.ptr big 0)::cU 1 (args.map .pv)) [(big,.mix T (cs.map .pv))] 0)):FnM P f T cs args Q:=by
 have L:FnO P f 1 0 (.ptr big 0::args.map .pv) [(big,.mix T (cs.map .pv))] λv ob'=>∃ps cs',v= .agg (ps.map .pv)/\ob'=ax [(big,.mix T (cs'.map .pv))]/\Q (.agg ps) cs':=by
  refine FnO.ofC W A X (by simpa using H) λm0 w0 F R0=>?_
  refine(h m0 w0 F R0).mono ?_;have B:Nat.blt t n=Sm:=by simpa[Tw]using Y
  have D:∀s:St,(∃id T2 ps cs',s.ev n (.tmp t)= .ptr id 0/\Nat.blt id big=Sm/\s.ob id=Sh (.mix T2 (ps.map .pv))/\ps.length=k/\s.ob big=Sh (.mix T (cs'.map .pv))/\Q (.agg ps) cs')->
    ∃l os' vs os2 k2,s.le (mkS l os' k2)/\yy n (mkS l os' k2) fn.results.toList=Sh vs/\kW P n (mkS l os' k2) fn.results.toList/\V.allL (okR 1 0) vs=Sm/\os2.all (λp=>okR 1 0 p.1&&p.2.all (okR 1 0))=Sm/\
     (∀i o,ax os2 i=Sh o->ax os' i=Sh o)/\0<=k2/\∃ps cs',cS vs= .agg (ps.map .pv)/\ax os2=ax [(big,.mix T (cs'.map .pv))]/\Q (.agg ps) cs':=by
   rintro s ⟨id,T2,ps,cs',h1,h2,h3,h4,h5,h6⟩;simp only[St.ev,B,Sy]at h1;have M:id<big:=by simpa[Tw]using h2
   have U:Nat.beq id big=S1:=by cases A:Nat.beq id big;rfl;have:=aJ A;omega
   have J:(mkS [(t,.ptr id 0)] [(big,.mix T (cs'.map .pv)),(id,.mix T2 (ps.map .pv))] (id+1)).ev n (.tmp t)= .ptr id 0:=by
    simp only[St.ev,B,Sy,mkS,look,Ug]
   have ob:(mkS [(t,.ptr id 0)] [(big,.mix T (cs'.map .pv)),(id,.mix T2 (ps.map .pv))] (id+1)).ob id=Sh (.mix T2 (ps.map .pv)):=by
    simp only[mkS,ax,U,RR,Ug,Sy]
   have E:Nat.blt id (id+1)=Sm:=by simp[Tw]
   refine⟨[(t,.ptr id 0)],[(big,.mix T (cs'.map .pv)),(id,.mix T2 (ps.map .pv))],[.agg (ps.map .pv)],[(big,.mix T (cs'.map .pv))],id+1,Q5 ⟨h1,Vm⟩ ⟨h5,h3,Vm⟩ ?_ ?_,?_,?_,?_,?_,?_,cd _,ps,cs',O,O,h6⟩
   .simp only[TG,Vd,V.okA,E];rfl
   .simp only[TG,Vd,Ue,Ob.okA,GC,E];simp
   .rw[q];simp only[yy,J,ob]
   .rw[q];exact⟨az G I J ob (by simpa using h4),Vm⟩
   .simp only[V.allL,V.all,lI];rfl
   .simp only[TG,Vd,Ue,Ob.all,lI];rfl
   .intro i o hi;simp only[ax]at hi ⊢;cases A:Nat.beq i big with
    |true=>rw[A]at hi;simpa using hi
    |false=>rw[A]at hi;simp at hi
  intro ex s hq;cases ex with
  |normal=>exact D s hq
  |ret=>exact D s hq
  |_=>exact hq.elim
 intro w m R us h1 h2;refine(L w m R us h1 h2).mono ?_;rintro e w' ⟨u,v,ob',m',R',rfl,⟨ps,cs',rfl,rfl,hq⟩,h3,h4,h5,h6⟩;refine⟨u,.pv (.agg ps),_,m',R',O,⟨_,cs',O,O,hq⟩,O,h4,h5,?_⟩;simp only[Rel,RelP]at h6 ⊢;obtain⟨us,e,hr⟩:=h6;exact⟨us,e,hr.toP⟩
section
def aF(l:List UInt8):List PV:=l.map λb=> .int .u8 (b.toNat:Int)
theorem nY:∀{l:List UInt8}{us:List Value},RelPL w R (aF l) us->us=l.map λb=>Value.int .u8 (b.toNat:Int)
 |[],us,h=>by simpa[aF,RelPL]using h
 | b::l,us,h=>by
   simp only[aF,bP,RelPL]at h;obtain⟨u,vs,rfl,h1,h2⟩:=h;simp only[RelP]at h1;rw[h1,nY (l:=l) h2];rfl
section
variable {C:Ctx}{n:Nat}{σ:St}{dst:Option Tmp}{ty t t':TypeId}{pos:String}{after:Array Edge}{gd:Option (Nat×Bool)}{x y:Operand}
theorem Fz(l:List UInt8)(D:C.P.underlying src=Sh (.slice e))(E:C.P.underlying e=Sh (.int .u8))(G:C.P.underlying d=Sh .string)(H:nP n σ x l.length (aF l)):
  XJ C n ⟨dst,.convert src d x,ty,pos,after,gd⟩ σ ⟨.pv (.str ⟨l.toArray⟩),[],[]⟩:=
 .val λa w m R hw=>⟨.string ⟨l.toArray⟩,by
  obtain⟨A,c,us,hev,hr,hrow⟩:=H.row hw;have q:=nY hr;have B:(convert src d (.slice A l.length c)).run C.P w= .ok (.string ⟨l.toArray⟩) w:=by
   by_cases hne:l=[]
   .subst hne;cases A with
    |none=>exact run_convert_bytes_nil (P:=C.P) w src e D E 0 c d G
    |some a=>exact run_convert_bytes_back (P:=C.P) w src d e a c [] D E G (λj hj=>by simp at hj)
   .obtain⟨b,off,rfl,_,_,hc⟩:=hrow (by rw[q];simpa using hne);refine run_convert_bytes_back (P:=C.P) w src d e _ c l D E G (λj hj=>?_);have:=hc j (by rw[q];simpa using hj);rw[q]at this;have e:(⟨b,off,Sl⟩:Addr).add j=⟨b,off+j,Sl⟩:=by
     unfold Addr.add;split
     .subst_vars;simp
     .rfl
    rw[e,this];simp[hj]
  simp only[execOp,hev,Sem.run_bind,B,Result.andThen_ok];rfl,by simp only[Rel,RelP]⟩
theorem QG{s:ByteArray}{u:TypeDesc}(H:C.P.underlying src=Sh u)(I:C.P.underlying d=Sh (.slice e))(J:C.P.underlying e=Sh (.int .u8))(L:σ.ev n x= .pv (.str s))(M:s.size<=9223372036854775807):
  XJ C n ⟨dst,.convert src d x,ty,pos,after,gd⟩ σ ⟨.pv (.sl (Sh S1) s.size (aF s.data.toList)),[],[]⟩:=by
 rintro a w Q ⟨m,R,hw⟩;have A:(execOp a.eval ⟨dst,.convert src d x,ty,pos,after,gd⟩).run C.P w= .ok (.value (.slice (Sh ⟨w.heap.size,0,Sl⟩) s.size (grownCap w s.size 0 e))) (Lib.bytesWorld w e s):=by
  simp only[execOp,hw.str L,Sem.run_bind,Lib.run_convert_string_bytes (P:=C.P) w src d e s H I J,Result.andThen_ok];rfl
 unfold Oper.wp;rw[A];have q:=Lib.bytesWorld_at_old w e s;have G:=Lib.bytesWorld_size w e s;have E:∀b,R b->(R b\/b=w.heap.size)/\(Lib.bytesWorld w e s).heap[b]? =w.heap[b]? :=λb hb=>⟨.inl hb,q b (hw.hr.rsz b hb)⟩
 refine⟨_,O,m,λb=>R b\/b=w.heap.size,?_⟩;rw[Rc];refine SW.put (hw.world (ob':=obL [] σ.ob) (av':=avL [] σ.av) ⟨hw.hr.dom,hw.hr.free,?_,hw.hr.inj,?_,?_,?_,λb hb=> .inl (hw.hr.r0 b hb),?_,hw.hr.keep,hw.hr.res⟩ E (λ_ _ _ e=>e) (λ_ e=>e)) dst ?_
 .intro i o b N h1 h2;exact(hw.hr.obj i o b N h1 h2).mono E (λ_ _ _ e=>e) (λ_ e=>e) (q b (hw.hr.own i b N h2).1)
 .intro i b N h1;obtain⟨h2,h3,h4⟩:=hw.hr.own i b N h1;refine⟨Vf,?_,h4⟩;rintro(h5|h5)
  .exact h3 h5
  .omega
 .rintro b (hb|hb)
  .have:=hw.hr.rsz b hb;omega
  .omega
 .rintro b (hb|hb)
  .exact hw.hr.rfr b hb
  .refine .inr (.inl ?_);have:=hw.hr.frame.size;omega
 .refine⟨hw.hr.frame.os,hw.hr.frame.tape,hw.hr.frame.output,?_,?_⟩
  .have:=hw.hr.frame.size;omega
  .intro k hk hF;rw[q k (by have:=hw.hr.frame.size;omega)];exact hw.hr.frame.block k hk hF
 .simp only[Rel,RelP];have B:=grownCap_ge w s.size 0 e;refine⟨_,_,O,?_,?_,(λ_ e=>by cases e;rfl),(λe=>by cases e),λ_=>⟨w.heap.size,0,s.data.toList.map (λb=>Value.int .u8 (b.toNat:Int)),rfl,?_,.inr rfl,?_⟩⟩
  .exact B
  .exact grownCap_le_maxLen w s.size 0 e (by simp only[maxLen];omega)
  .generalize s.data.toList=l;induction l with
   |nil=>exact RelPL.nil
   |cons b l ih=>exact RelPL.cons (by simp only[RelP]) ih
  .intro j hj;have D:j<s.size:=by simpa using hj
   rw[RV,Lib.bytesWorld_cell w e s j D];simp[List.getD,D]
theorem ar{zs:List PV}{parts:Array (Nat×Operand)}{cs:List PV}(nf:Option Bool)(J:nf≠Sh Sm)(G:ElemIs C.P T e z size bytes)(L:z.cells.toList.map fC=zs)(hk:0<k)(hk2:k*size<=16777216)
  {vs:List V} (hf:eF (λi=>Sh (i*size,size)) σ.ob ((mkZ zs (k*size)).map .pv) (parts.toList.map λp=>(p.1,σ.ev n p.2))=Sh vs) (hvs:V.pvs vs=Sh cs):
  XJ C n ⟨dst,.buildSlice T k parts,ty,pos,after,gd⟩ σ ⟨.pv (.sl nf k cs),[],[]⟩:=by
 rintro a w Q ⟨m,R,hw⟩;obtain rfl:=V.vr hvs;obtain⟨i,hi,hz,hsize,hbytes⟩:=info_parts G.info;have X:zs.length=z.cells.size:=by rw[<-L];simp
 have Y:∀l:List Nat,RelPL w R (l.map λi=>zs.getD (i%zs.length) .any) (l.map λi=>z.cells[i%z.cells.size]!):=by
  intro l;induction l with
  |nil=>simpa using RelPL.nil
  | cons j l ih=>
    simp only[bP];refine RelPL.cons ?_ ih;have D:0<z.cells.size:=by rw[G.zs];exact G.pos
    have Z:j%z.cells.size<z.cells.size:=Ti _ D;rw[X,<-L];have e1:(z.cells.toList.map fC).getD (j%z.cells.size) .any=fC (z.cells[j%z.cells.size]!):=by
     simp[Rj,Z]
    rw[e1];exact fc w R _
 have h0:RelPL w R (mkZ zs (k*size)) ((Array.range (k*size)).map (z.cells[· %z.cells.size]!)).toList:=by
  have:=Y (List.range (k*size));simpa[mkZ]using this
 obtain⟨arr',hfill,hr'⟩:=hw.fill (λi=>Sh (i*size,size)) parts.toList _ _ _ (RelL.ofP h0) hf;have H:=hr'.toP;have B:(parts.map λx=>(x.1,a.eval x.2)).toList=parts.toList.map λp=>(p.1,a.eval p.2):=Vj
 have D:0<k*size:=U6 hk G.pos;have I:=run_buildSlice (P:=C.P) w T e k (parts.map λx=>(x.1,a.eval x.2)) arr' i z G.u hi hz (by rw[hsize];omega) (by rw[hsize];omega) (by rw[B,hsize];exact hfill);have hcl:cs.length=k*size:=by
  have:∀(l:List (Nat×V))(cells cs':List V),eF (λi=>Sh (i*size,size)) σ.ob cells l=Sh cs'->cs'.length=cells.length:=by
   intro l;induction l with
   |nil=>intro cells cs' h;simp only[eF,Rq]at h;rw[h]
   | cons p l ih=>
     obtain⟨q,v⟩:=p;intro cells cs' h;simp only[eF]at h;rw[Bool.cond_eq_ite]at h;split at h
     .rename_i hc;simp only[sh]at hc;rw[ih _ _ h,bJ];have M:=aJ hc.1.1.1;have U:=Rz hc.1.1.2;omega
     .cases h
  have:=this _ _ _ hf;simpa[mkZ]using this
 have E:(execOp a.eval ⟨dst,.buildSlice T k parts,ty,pos,after,gd⟩).run C.P w= .ok (.value (.slice (Sh ⟨w.heap.size,0,Sl⟩) k k)) (w.alloc (.cells arr' e)):=by
  simp only[execOp,Sem.run_bind,I,Result.andThen_ok,Sem.run_pure]
 unfold Oper.wp;rw[E];have hsz:arr'.size=k*size:=by have:=H.length;simp at this;omega
 have A:∀q,q<w.heap.size->(w.alloc (.cells arr' e)).heap[q]? =w.heap[q]? :=λq hq=>Below.heap_alloc w _ q hq
 have W:(w.alloc (.cells arr' e)).heap.size=w.heap.size+1:=Vj;have hR:∀b,R b->(R b\/b=w.heap.size)/\(w.alloc (.cells arr' e)).heap[b]? =w.heap[b]? :=λb hb=>⟨.inl hb,A b (hw.hr.rsz b hb)⟩
 refine⟨_,O,m,λb=>R b\/b=w.heap.size,?_⟩;rw[Rc];refine SW.put (hw.world (ob':=obL [] σ.ob) (av':=avL [] σ.av) ⟨hw.hr.dom,hw.hr.free,?_,hw.hr.inj,?_,?_,?_,λb hb=> .inl (hw.hr.r0 b hb),?_,hw.hr.keep,hw.hr.res⟩ hR (λ_ _ _ e=>e) (λ_ e=>e)) dst ?_
 .intro i o b N M U;exact(hw.hr.obj i o b N M U).mono hR (λ_ _ _ e=>e) (λ_ e=>e) (A b (hw.hr.own i b N U).1)
 .intro i b N M;obtain⟨U,h3,h4⟩:=hw.hr.own i b N M;refine⟨Vf,?_,h4⟩;rintro(h5|h5)
  .exact h3 h5
  .omega
 .rintro b (hb|hb)
  .have:=hw.hr.rsz b hb;omega
  .omega
 .rintro b (hb|hb)
  .exact hw.hr.rfr b hb
  .refine .inr (.inl ?_);have:=hw.hr.frame.size;omega
 .refine⟨hw.hr.frame.os,hw.hr.frame.tape,hw.hr.frame.output,?_,?_⟩
  .have:=hw.hr.frame.size;omega
  .intro k hk hF;rw[A k (by have:=hw.hr.frame.size;omega)];exact hw.hr.frame.block k hk hF
 .simp only[Rel,RelP];have hkk:k<=k*size:=Nat.le_mul_of_pos_right k G.pos;refine⟨_,_,O,BY _,by simp only[maxLen];omega,?_,λe=>absurd e J,λ_=>⟨w.heap.size,0,arr'.toList,O,H.mono hR,.inr O,?_⟩⟩
  .intro b hb;cases b with
   |true=>exact absurd hb J
   |false=>rfl
  .intro j hj;rw[RV,cell_of_row _ w.heap.size j arr' e (0,0) (heap_alloc_new w _)];simp
end
end
section
mutual
def V.ppV(id:Nat)(cs:List PV):V->V
 | .ptr i o=>bif Nat.beq i id then .pv (.rp cs o)else .ptr i o
 | .agg vs=> .agg (V.ppL id cs vs)
 | .tup vs=> .tup (V.ppL id cs vs)
 | .fn f a b=> .fn f (V.ppL id cs a) (V.ppL id cs b)
 | .pv p=> .pv p
 | .osl i sz k=>bif Nat.beq i id then .pv .any else .osl i sz k
 | .tsl i sz k=>bif Nat.beq i id then .pv .any else .tsl i sz k
 | .gsl i sz k=>bif Nat.beq i id then .pv .any else .gsl i sz k
 | .map i=> .map i
def V.ppL(id:Nat)(cs:List PV):List V->List V
 |[]=>[]
 |v::vs=>V.ppV id cs v::V.ppL id cs vs
end
def Ob.ppO(id:Nat)(cs:List PV):Ob->Ob
 | .cells t c=> .cells t c
 | .gro t c=> .gro t c
 | .mp ks vs=> .mp ks vs
 | .it s p=> .it s p
 | .fro s p=> .fro s p
 | .mi c ks vs=> .mi c ks vs
 | .mix t vs=> .mix t (V.ppL id cs vs)
theorem Ob.Ja(id:Nat)(cs:List PV):∀o:Ob,(o.ppO id cs).real=o.real
 | .cells _ _=>rfl
 | .mix _ _=>rfl
 | .gro _ []=>rfl
 | .gro _ (_::_)=>rfl
 | .mp _ _=>rfl
 | .it _ _=>rfl
 | .fro _ _=>rfl
 | .mi _ _ _=>rfl
theorem H3(id:Nat)(cs:List PV):∀o:Option Ob,bI (o.map (Ob.ppO id cs))=bI o
 |none=>rfl
 |some o=>Ob.Ja id cs o
def St.ppA(σ:St)(id:Nat)(cs:List PV):St:=⟨λt=>V.ppV id cs (σ.sl t),λi=>bif Nat.beq i id then Sl else(σ.ob i).map (Ob.ppO id cs),σ.av⟩
section
variable {w:World}{m m':Gm}{av:Av}{R R':Nat->Prop}
theorem me(id:Nat)(cs:List PV):∀vs:List V,(V.ppL id cs vs).length=vs.length
 |[]=>rfl
 |_::vs=>by simp[V.ppL,me id cs vs]
mutual
theorem Rel.ppV{cs:List PV}(l:∀b,R b->R' b/\w.heap[b]? =w.heap[b]?)(q:∀i x,m' i=Sh x->m i=Sh x)
  (A:∀o u,Rel w m av R (.ptr id o) u->RelP w R' (.rp cs o) u):
  ∀(v:V)(u:Value),Rel w m av R v u->Rel w m' av R' (V.ppV id cs v) u
 | .ptr i o,u,h=>by
   simp only[V.ppV];cases hb:Nat.beq i id with
   |true=>have:=aJ hb;subst this;simp only[Sy,Rel];exact A o u h
   |false=>simp only[RR];exact h.mono l (λi x _ e=>q i x e) (λ_ e=>e)
 | .agg vs,u,h=>by
   simp only[Rel,V.ppV]at h ⊢;obtain⟨us,e,h⟩:=h;exact⟨us,e,RelL.ppL l q A vs us h⟩
 | .tup vs,u,h=>by
   simp only[Rel,V.ppV]at h ⊢;obtain⟨us,e,h⟩:=h;exact⟨us,e,RelL.ppL l q A vs us h⟩
 | .fn f a b,u,h=>by
   simp only[Rel,V.ppV]at h ⊢;obtain⟨us,vs,e,ha,hb⟩:=h;exact⟨us,vs,e,RelL.ppL l q A a us ha,RelL.ppL l q A b vs hb⟩
 | .pv p,u,h=>by simp only[V.ppV];exact h.mono l (λi x _ e=>q i x e) (λ_ e=>e)
 | .osl i sz k,u,h=>by
   simp only[V.ppV];cases hb:Nat.beq i id with
   |true=>simp only[Sy,Rel,RelP]
   |false=>simp only[RR];exact h.mono l (λi x _ e=>q i x e) (λ_ e=>e)
 | .tsl i sz k,u,h=>by
   simp only[V.ppV];cases hb:Nat.beq i id with
   |true=>simp only[Sy,Rel,RelP]
   |false=>simp only[RR];exact h.mono l (λi x _ e=>q i x e) (λ_ e=>e)
 | .gsl i sz k,u,h=>by
   simp only[V.ppV];cases hb:Nat.beq i id with
   |true=>simp only[Sy,Rel,RelP]
   |false=>simp only[RR];exact h.mono l (λi x _ e=>q i x e) (λ_ e=>e)
 | .map i,u,h=>by simp only[V.ppV];exact h.mono l (λi x _ e=>q i x e) (λ_ e=>e)
theorem RelL.ppL{cs:List PV}(l:∀b,R b->R' b/\w.heap[b]? =w.heap[b]?)(q:∀i x,m' i=Sh x->m i=Sh x)
  (A:∀o u,Rel w m av R (.ptr id o) u->RelP w R' (.rp cs o) u):
  ∀(vs:List V)(us:List Value),RelL w m av R vs us->RelL w m' av R' (V.ppL id cs vs) us
 |[],_,h=>by simpa only[RelL,V.ppL]using h
 | c::vs,_,h=>by
   simp only[RelL,V.ppL]at h ⊢;obtain⟨u,us,e,ha,hb⟩:=h;exact⟨u,us,e,Rel.ppV l q A c u ha,RelL.ppL l q A vs us hb⟩
end
end
def Ob.iv:Ob->Option (List PV)
 | .cells _ cs=>Sh cs
 | .mix _ vs=>V.pvs vs
 | .gro _ _=>Sl
 | .mp _ _=>Sl
 | .it _ _=>Sl
 | .fro _ _=>Sl
 | .mi _ _ _=>Sl
theorem St.fG{σ:St}{o:Ob}{cs:List PV}(id:Nat)(W:σ.ob id=Sh o)(hc:o.iv=Sh cs):σ.le (σ.ppA id cs):=by
 rintro C n a w ⟨m,R,hw⟩;have L:=hw.drop id;have l:∀i x,upd m id Sl i=Sh x->m i=Sh x/\i≠id:=λi x e=>by
  by_cases hi:i=id
  .subst hi;rw[aA]at e;cases e
  .rw[aR _ _ hi]at e;exact⟨e,hi⟩
 let R':Nat->Prop:=λq=>R q\/∃N,m id=Sh (q,N)
 have B:∀b,R b->R' b/\w.heap[b]? =w.heap[b]? :=λb hb=>⟨.inl hb,O⟩
 have E:∀b N,m id=Sh (b,N)->∃us,RelPL w R' cs us/\rA w R' b 0 us:=by
  intro b N hm;have A:=hw.hr.obj id o b N W hm;have H:∀T (arr:Array Value),w.heap[b]? =Sh (.cells arr T (0,0))->RelPL w R cs (arr.toList.take cs.length)->∃us,RelPL w R' cs us/\rA w R' b 0 us:=by
   intro T arr hb hr;refine⟨_,hr.mono B,.inr ⟨N,hm⟩,?_⟩;intro j hj;simp only[Rr]at hj;rw[RV,cell_of_row w b j arr T (0,0) hb,Ry,AT Vf];simp
  cases o with
  |cells T c=>simp only[Ob.iv,Rq]at hc;subst hc;obtain⟨arr,q1,_,_,q4⟩:=A;exact H T arr q1 q4
  |gro T c=>simp[Ob.iv]at hc
  |mp ks vs=>simp[Ob.iv]at hc
  |it s p=>simp[Ob.iv]at hc
  |fro s p=>simp[Ob.iv]at hc
  |mi c ks vs=>simp[Ob.iv]at hc
  | mix T c=>
    have e:=V.vr hc;obtain⟨arr,q1,_,_,q4⟩:=A;rw[e]at q4;simp only[OF]at q4;exact H T arr q1 (RelL.toP q4)
 have M:(m id).isSome=Sm:=by
  rw[hw.hr.dom,W];cases o with
  |cells T c=>rfl
  |gro T c=>simp[Ob.iv]at hc
  |mp ks vs=>simp[Ob.iv]at hc
  |it s p=>simp[Ob.iv]at hc
  |fro s p=>simp[Ob.iv]at hc
  |mi c ks vs=>simp[Ob.iv]at hc
  |mix T c=>rfl
 have U:∀q u,Rel w m σ.av R (.ptr id q) u->RelP w R' (.rp cs q) u:=by
  intro q u h;obtain⟨⟨b,N⟩,hm⟩:=RQ.1 M;simp only[Rel]at h;obtain⟨us,hr,hsh⟩:=E b N hm;simp only[RelP];exact⟨b,0,us,by rw[RV];exact h.2 b N hm,hr,hsh⟩
 have D:∀i x,upd m id Sl i=Sh x->m i=Sh x:=λi x e=>(l i x e).1
 have I:∀i,(σ.ppA id cs).ob i=bif Nat.beq i id then Sl else(σ.ob i).map (Ob.ppO id cs):=λ_=>rfl
 have J:(σ.ppA id cs).ob id=Sl:=by rw[I];simp
 have G:∀i,i≠id->(σ.ppA id cs).ob i=(σ.ob i).map (Ob.ppO id cs):=λi hi=>by
  rw[I];have:Nat.beq i id=S1:=by cases hb:Nat.beq i id;rfl;exact absurd (aJ hb) hi
  rw[this];rfl
 refine⟨upd m id Sl,R',⟨?_,?_,?_,L.hr.inj,?_,?_,?_,λq hq=> .inl (hw.hr.r0 q hq),hw.hr.frame,L.hr.keep,L.hr.res⟩,hw.df,hw.sz,?_⟩
 .intro i;by_cases e:i=id
  .subst e;rw[aA,J];rfl
  .rw[aR _ _ e,G i e,H3];exact hw.hr.dom i
 .intro i hi;by_cases e:i=id
  .subst e;exact J
  .rw[G i e,hw.hr.free i hi];rfl
 .intro i o' b N h1 h2;obtain⟨h2',e⟩:=l i _ h2;rw[G i e]at h1;cases ho':σ.ob i with
  |none=>rw[ho']at h1;cases h1
  | some o2=>
    rw[ho']at h1;simp only[Tt,Rq]at h1;subst h1;have A:=hw.hr.obj i o2 b N ho' h2';cases o2 with
    |cells T c=>obtain⟨arr,q1,q2,q3,q4⟩:=A;exact⟨arr,q1,q2,q3,q4.mono B⟩
    |gro T c=>obtain⟨arr,q1,q2,q3,q4⟩:=A;exact⟨arr,q1,q2,q3,q4.mono B⟩
    |mp ks vs=>obtain⟨es,clock,q1,q2,q3,q4⟩:=A;exact⟨es,clock,q1,q2.mono B,q3.mono B,q4⟩
    |it s p=>exact A
    |fro s p=>exact A
    |mi c ks vs=>exact vP.mono B O A
    | mix T c=>
      obtain⟨arr,q1,q2,q3,q4⟩:=A;refine⟨arr,q1,q2,by rw[me];exact q3,?_⟩;rw[me];exact q4.ppL B D U
 .intro i b N h1;obtain⟨h2,h3,h4⟩:=hw.hr.own i b N (l i _ h1).1;refine⟨h2,?_,h4⟩;rintro(h5|⟨N',h5⟩)
  .exact h3 h5
  .exact(l i _ h1).2 (hw.hr.inj i id b N N' (l i _ h1).1 h5)
 .rintro q (hq|⟨N,hq⟩)
  .exact hw.hr.rsz q hq
  .exact(hw.hr.own id q N hq).1
 .rintro q (hq|⟨N,hq⟩)
  .exact hw.hr.rfr q hq
  .rcases(hw.hr.own id q N hq).2.2 with h|h
   .exact .inr (.inr h)
   .exact .inr (.inl h)
 .intro t ht;exact(hw.sl t ht).ppV B D U
def St.own(σ:St)(t id sz n:Nat)(T:TypeId)(cs:List PV):St:=⟨upd σ.sl t (.osl id sz n),obL [(id,Sh (.cells T cs))] σ.ob,σ.av⟩
theorem St.LQ{σ:St}{cs:List PV}(t:Nat)(H:σ.sl t= .gsl id sz n)(E:σ.ob id=Sh (.gro T cs))(G:0<n)(hc:cs≠[]):σ.le (σ.own t id sz n T cs):=by
 rintro C nn a w ⟨m,R,hw⟩;have D:∀i,i≠id->obL [(id,Sh (Ob.cells T cs))] σ.ob i=σ.ob i:=λi B=>fx _ _ _ (by simpa using B)
 have B:obL [(id,Sh (Ob.cells T cs))] σ.ob id=Sh (.cells T cs):=by simp[obL]
 refine⟨m,R,⟨?_,?_,?_,hw.hr.inj,hw.hr.own,hw.hr.rsz,hw.hr.rfr,hw.hr.r0,hw.hr.frame,hw.hr.keep,hw.hr.res⟩,hw.df,hw.sz,?_⟩
 .intro i;by_cases e:i=id
  .subst e;rw[hw.hr.dom,E];show _=bI (obL _ _ _);rw[B];exact cZ hc
  .show _=bI (obL _ _ _);rw[D i e];exact hw.hr.dom i
 .intro i h;by_cases e:i=id
  .subst e;have:=hw.hr.free i h;rw[E]at this;cases this
  .show obL _ _ _=Sl;rw[D i e];exact hw.hr.free i h
 .intro i o b N h1 h2;by_cases e:i=id
  .subst e;have l:obL [(i,Sh (Ob.cells T cs))] σ.ob i=Sh o:=h1;rw[B]at l;cases l;have q:=hw.hr.obj i _ b N E h2;exact q
  .have l:obL [(id,Sh (Ob.cells T cs))] σ.ob i=Sh o:=h1;rw[D i e]at l;exact hw.hr.obj i o b N l h2
 .intro q hq;show Rel w m σ.av R (upd σ.sl t (.osl id sz n) q) _;by_cases e:q=t
  .subst e;rw[aA];have:=hw.sl q hq;rw[H]at this;simp only[Rel]at this ⊢;obtain⟨h0,A,c,he,h1,h2,h3,h4⟩:=this;refine⟨h0,λb N hm=>⟨c,?_,h1,h2,(h4 G b N hm).2⟩⟩;rw[he,(h4 G b N hm).1]
  .rw[aR _ _ e];exact hw.sl q hq
theorem Q9{σ:St}{l:List (Nat×V)}{os:List (Nat×Ob)}(ids:List Nat)(hl:qL σ (iF ids) l)(ho:fO σ (iF ids) os)(h1:l.all (λp=>p.2.okA ids.length)=Sm)(h2:os.all (λp=>(Nat.blt p.1 ids.length||Nat.ble big p.1)&&p.2.okA ids.length)=Sm)
  (M:ids.Nodup) (U:ids.all (λi=>Nat.blt i big|| !(ax os i).isSome)=Sm):σ.le (mkS l os ids.length):=by
 rintro C n a w ⟨m,R,hw⟩;have H:∀i o,ax os i=Sh o->σ.ob (iF ids i)=Sh (o.ren (iF ids))/\(Nat.blt i ids.length||Nat.ble big i)=Sm/\o.okA ids.length=Sm:=by
  intro i o h;have W:=bG h;have:=Ri.1 h2 _ W;simp only[sh]at this;exact⟨eQ ho i o W,this.1,this.2⟩
 let m2:Gm:=λi=>if(ax os i).isSome then m (iF ids i)else Sl
 have D:∀i x,m2 i=Sh x->m (iF ids i)=Sh x/\(Nat.blt i ids.length||Nat.ble big i)=Sm:=λi x h=>by
  simp only[m2]at h;split at h
  .rename_i hs;obtain⟨o,hoo⟩:=RQ.1 hs;exact⟨h,(H i o hoo).2.1⟩
  .cases h
 have I:∀i x,m2 i=Sh x->(ax os i).isSome=Sm:=λi x h=>by
  simp only[m2]at h;split at h
  .rename_i hs;exact hs
  .cases h
 have ρinj:∀i j,(Nat.blt i ids.length||Nat.ble big i)=Sm->(Nat.blt j ids.length||Nat.ble big j)=Sm->(ax os i).isSome=Sm->(ax os j).isSome=Sm->iF ids i=iF ids j->i=j:=by
  intro i j hi hj hli hlj e;have E:∀q,Nat.blt q ids.length=Sm->Nat.ble big q=S1->∃h:q<ids.length,iF ids q=ids[q]/\(ids[q]<big\/(ax os ids[q]).isSome=S1):=by
   intro q hq L;have h:q<ids.length:=by simpa[Tw]using hq
   refine⟨h,by simp[iF,L,Rj,h],?_⟩;have:=Ri.1 U ids[q] (au h);simpa[Tw]using this
  have A:∀q,Nat.ble big q=Sm->iF ids q=q:=λq hq=>by simp[iF,hq]
  cases hbi:Nat.ble big i with
  | true=>
    cases hbj:Nat.ble big j with
    |true=>rw[A i hbi,A j hbj]at e;exact e
    | false=>
      rw[hbj,Tk]at hj;obtain⟨h,G,B⟩:=E j hj hbj;rw[A i hbi,G]at e;have:=Rz hbi;rcases B with B|B
      .omega
      .rw[<-e,hli]at B;cases B
  | false=>
    rw[hbi,Tk]at hi;obtain⟨h,e1,B⟩:=E i hi hbi;cases hbj:Nat.ble big j with
    | true=>
      rw[A j hbj,e1]at e;have:=Rz hbj;rcases B with B|B
      .omega
      .rw[e,hlj]at B;cases B
    | false=>
      rw[hbj,Tk]at hj;obtain⟨h',G,h4⟩:=E j hj hbj;rw[e1,G]at e;exact(List.getElem_inj M).1 e
 have X:∀i x,(Nat.blt i ids.length||Nat.ble big i)=Sm->m2 i=Sh x->m (iF ids i)=Sh x:=λi x _ h=>(D i x h).1
 have Y:∀i,(Nat.blt i ids.length||Nat.ble big i)=Sm->avK ids.length i=S1:=λi h=>iI h
 refine⟨m2,R,⟨?_,?_,?_,?_,?_,hw.hr.rsz,hw.hr.rfr,hw.hr.r0,hw.hr.frame,?_,λi hi=>cR hi⟩,hw.df,hw.sz,?_⟩
 .intro i;show(m2 i).isSome=bI (ax os i);simp only[m2];cases e:ax os i with
  |none=>rfl
  | some o=>
    have:=hw.hr.dom (iF ids i);rw[(H i o e).1]at this;simpa[bI,Ob.jo]using this
 .intro i hi;show ax os i=Sl;cases e:ax os i with
  |none=>rfl
  | some o=>
    have B:=iI (H i o e).2.1;have J:avK ids.length i=Sm:=hi;rw[J]at B;cases B
 .intro i o b N B h4;have Z:=H i o B;exact(hw.hr.obj _ _ b N Z.1 (D _ _ h4).1).gx (iF ids) _ X Y (Ob.iH _ Z.2.2)
 .intro i j b N N' e1 G;exact ρinj i j (D _ _ e1).2 (D _ _ G).2 (I _ _ e1) (I _ _ G) (hw.hr.inj _ _ b N N' (D _ _ e1).1 (D _ _ G).1)
 .exact λi b N e=>hw.hr.own _ b N (D _ _ e).1
 .intro i x hi e;have L:Nat.ble big i=Sm:=TP hi;have G:=(D i x e).1;have:iF ids i=i:=by simp[iF,L]
  rw[this]at G;exact hw.hr.keep i x hi G
 .intro t ht;show Rel w m2 (avK ids.length) R (look l t) _;rcases jF hl t with e|e
  .rw[e];simp only[Rel,RelP]
  .have B:=hw.sl t ht;rw[e]at B;exact B.gx (iF ids) _ X Y _ _ (V.iH _ _ (look_ok h1 t))
def fgs(f:Nat->V):List Nat->Nat->V
 |[]=>f
 |d::ds=>fgs (upd f d (.pv .any)) ds
def St.fgP(σ:St)(ds:List Nat)(p:Nat)(v:V):St:=⟨upd (fgs σ.sl ds) p v,σ.ob,σ.av⟩
def fEq(S:List Nat)(f g:Nat->V):Prop:=∀q,S.contains q=S1->f q=g q
theorem fEq.refl{S:List Nat}{f:Nat->V}:fEq S f f:=λ_ _=>rfl
theorem Q2{f g:Nat->V}{d:Nat}{v:V}(h:fEq S f g)(l:S.contains d=Sm):fEq S (upd f d v) g:=λq hq=>by
 rw[aR _ _ (λe=>by rw[e,l]at hq;cases hq)];exact h q hq
theorem Vo{f g:Nat->V}(h:fEq S f g:=by repeat first|with_reducible exact fEq.refl|refine Q2 ?_ rfl):fEq S f g:=h
theorem DR:∀(ds:List Nat)(f:Nat->V)(q:Nat),ds.contains q=S1->fgs f ds q=f q
 |[],_,_,_=>rfl
 | d::ds,f,q,h=>by
   simp only[List.contains_cons,R7,SL]at h;simp only[fgs];rw[DR ds _ q h.2,aR _ _ h.1]
theorem L7:∀(ds:List Nat)(f:Nat->V)(q:Nat),(ds.contains q=Sm\/f q= .pv .any)->fgs f ds q= .pv .any
 |[],_,_,h=>by simp only[fgs];simpa using h
 | d::ds,f,q,h=>by
   simp only[fgs];apply L7 ds;by_cases e:q=d
   .subst e;exact .inr (aA _ _ _)
   .rw[aR _ _ e];rcases h with h|h
    .simp only[List.contains_cons,Sg,S0]at h;exact .inl (h.resolve_left e)
    .exact .inr h
theorem Q7{σ s:St}{ds:List Nat}{p:Nat}{v:V}(h:fEq (p::ds) s.sl σ.sl)(q:s.sl p=v)(A:s.ob=σ.ob)(l:s.av=σ.av):s.le (σ.fgP ds p v):=by
 rintro C n a w ⟨m,R,hw⟩;refine⟨m,R,⟨?_,hw.df,hw.sz,?_⟩⟩
 .show HR C m R σ.ob σ.av w;rw[<-A,<-l];exact hw.hr
 .intro t ht;show Rel w m σ.av R (upd (fgs σ.sl ds) p v t) _;rw[<-l];by_cases e:t=p
  .subst e;rw[aA,<-q];exact hw.sl t ht
  .rw[aR _ _ e];cases hd:ds.contains t with
   |true=>rw[L7 ds _ t (.inl hd)];simp only[Rel,RelP]
   | false=>
     rw[DR ds _ t hd,<-h t (by simp only[List.contains_cons,hd,Tk,SL];exact e)];exact hw.sl t ht
section
variable {C:Ctx}{n:Nat}{σ τ:St}{ops:Array Oper}
theorem RL.mono{K K':St->Prop}:∀{os:List Oper}{σ:St},RL C n ops os K σ->(∀s,K s->K' s)->RL C n ops os K' σ
 |[],_,h,hk=>hk _ h
 | o::os,σ,h,hk=>by
   simp only[RL]at h ⊢;cases hg:o.guard with
   |none=>rw[hg]at h;exact OJ.mono h λs hs=>RL.mono hs hk
   | some jw=>
     obtain⟨j,want⟩:=jw;rw[hg]at h;obtain⟨b,h1,h2,h3⟩:=h;exact⟨b,h1,λe=>OJ.mono (h2 e) λs hs=>RL.mono hs hk,λe a w hs=>(h3 e a w hs).imp λs ⟨q,r⟩=>⟨RL.mono q hk,r⟩⟩
theorem RL.append{K:St->Prop}:∀{os os':List Oper}{σ:St},RL C n ops os (RL C n ops os' K) σ->RL C n ops (os++os') K σ
 |[],_,_,h=>h
 | o::os,os',σ,h=>by
   simp only[RL,SN]at h ⊢;cases hg:o.guard with
   |none=>rw[hg]at h;exact OJ.mono h λs hs=>RL.append hs
   | some jw=>
     obtain⟨j,want⟩:=jw;rw[hg]at h;obtain⟨b,h1,h2,h3⟩:=h;exact⟨b,h1,λe=>OJ.mono (h2 e) λs hs=>RL.append hs,λe a w hs=>(h3 e a w hs).imp λs ⟨q,r⟩=>⟨RL.append q,r⟩⟩
theorem OJ.weaken{o:Oper}{K:St->Prop}(l:σ.le τ)(h:OJ C n o K τ):OJ C n o K σ:=λa w Q hs=>h a w Q (l C n a w hs)
def ah(K:St->Prop):Prop:=∀s t,s.le t->K t->K s
theorem RL.weaken{K:St->Prop}(l:ah K):∀{os:List Oper},σ.le τ->RL C n ops os K τ->RL C n ops os K σ
 |[],hl,h=>l _ _ hl h
 | o::os,hl,h=>by
   simp only[RL]at h ⊢;cases hg:o.guard with
   |none=>rw[hg]at h;exact OJ.weaken hl h
   | some jw=>
     obtain⟨j,want⟩:=jw;rw[hg]at h;obtain⟨b,h1,h2,h3⟩:=h;exact⟨b,λa w hs=>h1 a w (hl C n a w hs),λe=>OJ.weaken hl (h2 e),λe a w hs=>h3 e a w (hl C n a w hs)⟩
theorem ah.le{τ:St}:ah (λs=>s.le τ):=λ_ _ h k=>h.trans k
theorem ah.aw{Q:Exit->St->Prop}:ah (λs=>AW C n c Q s):=λ_ _ h k=>Q4 h k
theorem MI{f:Nat->V}{v:V}(h:f t=v):upd f t v=f:=by
 funext q;by_cases hq:q=t
 .subst hq;rw[aA,h]
 .rw[aR _ _ hq]
theorem RL.ifB{os:List Oper}{K:St->Prop}(v:Bool->V)(k t p:Nat)(ds:List Nat)(q:σ.ev n (.tmp t)= .pv (.bool b))(A:ah K)
  (D:b=Sm->RL C n ops (os.take k) (λs=>s.le (σ.fgP (t::ds) p (v Sm))) ⟨upd σ.sl t (.pv (.bool Sm)),σ.ob,σ.av⟩)
  (E:b=S1->RL C n ops (os.take k) (λs=>s.le (σ.fgP (t::ds) p (v S1))) ⟨upd σ.sl t (.pv (.bool S1)),σ.ob,σ.av⟩)
  (h:RL C n ops (os.drop k) K (σ.fgP (t::ds) p (v b))):RL C n ops os K σ:=by
 have e:σ.sl t= .pv (.bool b):=by
  simp only[St.ev]at q;cases hb:Nat.blt t n with
  |true=>rw[hb]at q;simpa using q
  |false=>rw[hb]at q;simp at q
 have l:(⟨upd σ.sl t (.pv (.bool b)),σ.ob,σ.av⟩:St)=σ:=by rw[MI e]
 have B:os=os.take k++os.drop k:=(Sb k os).symm;rw[B];apply RL.append;cases b with
 | true=>
   have:=D O;rw[l]at this;exact RL.mono this λs hs=>RL.weaken A hs h
 | false=>
   have:=E O;rw[l]at this;exact RL.mono this λs hs=>RL.weaken A hs h
theorem Rf{os:List Oper}{K:St->Prop}{e:Bool}(k t p:Nat)(ds:List Nat)(l:σ.ev n (.tmp t)= .pv (.bool b))(q:ah K)
  (A:b=Sm->RL C n ops (os.take k) (λs=>s.le (σ.fgP (t::ds) p (.pv (.bool e)))) ⟨upd σ.sl t (.pv (.bool Sm)),σ.ob,σ.av⟩)
  (B:b=S1->RL C n ops (os.take k) (λs=>s.le (σ.fgP (t::ds) p (.pv (.bool S1)))) ⟨upd σ.sl t (.pv (.bool S1)),σ.ob,σ.av⟩)
  (h:RL C n ops (os.drop k) K (σ.fgP (t::ds) p (.pv (.bool (b&&e))))):RL C n ops os K σ:=
 RL.ifB (λb=> .pv (.bool (b&&e))) k t p ds l q A B h
theorem Re{os:List Oper}{K:St->Prop}{e:Bool}(k t p:Nat)(ds:List Nat)(l:σ.ev n (.tmp t)= .pv (.bool b))(q:ah K)
  (A:b=Sm->RL C n ops (os.take k) (λs=>s.le (σ.fgP (t::ds) p (.pv (.bool Sm)))) ⟨upd σ.sl t (.pv (.bool Sm)),σ.ob,σ.av⟩)
  (B:b=S1->RL C n ops (os.take k) (λs=>s.le (σ.fgP (t::ds) p (.pv (.bool e)))) ⟨upd σ.sl t (.pv (.bool S1)),σ.ob,σ.av⟩)
  (h:RL C n ops (os.drop k) K (σ.fgP (t::ds) p (.pv (.bool (b||e))))):RL C n ops os K σ:=
 RL.ifB (λb=> .pv (.bool (b||e))) k t p ds l q A B h
end
end
variable{ob:Nat->Option Ob}{τ:St}
def PV.fg2:PV->PV
 | .tup cs=> .tup (PV.fgA cs)
 |p=>p.fg
variable{zs:List PV}
theorem RelP.fg2{p:PV}(h:RelP w R p u):RelP w R p.fg2 u:=by
 cases p with
 | tup cs=>
   simp only[RelP,PV.fg2]at h ⊢;obtain⟨us,e,h⟩:=h;exact⟨us,e,h.fgA⟩
 |_=>exact h.fg
theorem FnP.fg2{args:List PV}{Q:PV->Prop}(h:FnP P f args (λv=>Q v.fg2)):FnP P f args Q:=
 λw R us h0 h1 h2=>(h w R us h0 h1 h2).mono λ_ _ ⟨u,v,e,q,b,r⟩=>⟨u,v.fg2,e,q,b,r.fg2⟩
section
section
variable {C:Ctx}{n:Nat}{σ:St}{dst:Option Tmp}{ty:TypeId}{pos:String}{after:Array Edge}{gd:Option (Nat×Bool)}{x:Operand}
theorem XJ.NM{o:Oper}{v v':V}{wr:List (Nat×Option Ob)}{nw:List Nat}(h:XJ C n o σ ⟨v,wr,nw⟩)(q:∀w m av R u,Rel w m av R v u->Rel w m av R v' u):XJ C n o σ ⟨v',wr,nw⟩:=by
 intro a w Q hs;refine Oper.wp_mono ?_ (h a w Q hs);rintro a' w' ⟨σ',rfl,m,R,hsw⟩;refine⟨_,O,m,R,?_⟩;refine⟨hsw.hr,hsw.df,hsw.sz,λt ht=>?_⟩;have l:=hsw.sl t ht;cases hd:o.dst with
 |none=>simpa only[St.app,hd]using l
 | some d=>
   simp only[St.app,hd]at l ⊢;by_cases e:t=d
   .subst e;rw[aA]at l ⊢; exact q _ _ _ _ _ l
   .rw[aR _ _ e]at l ⊢; exact l
theorem Rel.plain{av:Av}{ps:List PV}(h:Rel w m av R (.agg (ps.map .pv)) u):Rel w m av R (.pv (.agg ps)) u:=by
 simp only[Rel,RelP]at h ⊢;obtain⟨us,e,h⟩:=h;exact⟨us,e,h.toP⟩
variable {y:Operand}
end
end
section
inductive TK where
 |int (k:IntKind)
 |bool
 |str
 |sl (e:TypeId)
 |st (pl:List (Nat×Nat))
 |arr (len:Nat) (e:TypeId)
 |other
structure TI where
 k:TK
 size:Nat
 bytes:Nat
 zero:Option (List PV)
inductive TT where
 |nil
 |node (t:Nat) (i:TI) (l r:TT)
def TT.get:TT->Nat->Option TI
 | .nil,_=>Sl
 | .node t i l r,x=>bif Nat.beq x t then Sh i else bif Nat.blt x t then l.get x else r.get x
def TT.all(f:Nat->TI->Bool):TT->Bool
 | .nil=>Sm
 | .node t i l r=>f t i&&(l.all f&&r.all f)
theorem TT.wz{f:Nat->TI->Bool}:∀{tt:TT},tt.all f=Sm->∀{x:Nat}{i:TI},tt.get x=Sh i->f x i=Sm
 | .nil,_,x,i,h=>by simp[TT.get]at h
 | .node t j l r,ha,x,i,h=>by
   simp only[TT.all,sh]at ha;simp only[TT.get]at h;cases hb:Nat.beq x t with
   | true=>
     rw[hb]at h;simp at h;have:=aJ hb;subst this h;exact ha.1
   | false=>
     rw[hb]at h;cases hc:Nat.blt x t with
     |true=>rw[hc]at h;exact wz ha.2.1 (by simpa using h)
     |false=>rw[hc]at h;exact wz ha.2.2 (by simpa using h)
def kEq:IntKind->IntKind->Bool
 | .i8,.i8| .i16,.i16| .i32,.i32| .i64,.i64| .u8,.u8| .u16,.u16| .u32,.u32| .u64,.u64=>Sm
 |_,_=>S1
theorem eu{a b:IntKind}(h:kEq a b=Sm):a=b:=by cases a<;>cases b<;>first|rfl|(simp[kEq]at h)
def TK.row:TK->Bool
 | .st _| .arr _ _=>Sm
 |_=>S1
def zpB:PV->PV->Bool
 | .int k i,.int k' j=>kEq k k'&&decide (i=j)
 | .bool a,.bool b=>a==b
 | .str a,.str b=>Nat.beq a.size 0&&Nat.beq b.size 0
 | .sl (Sh Sm) 0 [],.sl (Sh Sm) 0 []=>Sm
 | .nilptr,.nilptr=>Sm
 | .nilmap,.nilmap=>Sm
 | .nilfn,.nilfn=>Sm
 | .niliface,.niliface=>Sm
 |_,_=>S1
theorem size0{a b:ByteArray}(A:a.size=0)(B:b.size=0):a=b:=by
 have l:=ByteArray.size_eq_zero_iff.1 A;have q:=ByteArray.size_eq_zero_iff.1 B;rw[l,q]
theorem Pm{a b:PV}(h:zpB a b=Sm):a=b:=by
 unfold zpB at h;split at h<;>first|rfl|(cases h;done)|skip
 .simp only[sh,Rt]at h;rw[eu h.1,h.2]
 .rw[S0.1 h]
 .simp only[sh]at h;rw[size0 (aJ h.1) (aJ h.2)]
def zlB:List PV->List PV->Bool
 |[],[]=>Sm
 |a::l,b::m=>zpB a b&&zlB l m
 |_,_=>S1
theorem Lk:∀{l m:List PV},zlB l m=Sm->l=m
 |[],[],_=>rfl
 | a::l,b::m,h=>by
   simp only[zlB,sh]at h;rw[Pm h.1,Lk h.2]
 |[],_::_,h=>by simp[zlB]at h
 |_::_,[],h=>by simp[zlB]at h
def plB:List (Nat×Nat)->List (Nat×Nat)->Bool
 |[],[]=>Sm
 |(a,b)::l,(c,d)::m=>Nat.beq a c&&Nat.beq b d&&plB l m
 |_,_=>S1
theorem LY:∀{l m:List (Nat×Nat)},plB l m=Sm->l=m
 |[],[],_=>rfl
 | (a,b)::l,(c,d)::m,h=>by
   simp only[plB,sh]at h;rw[aJ h.1.1,aJ h.1.2,LY h.2]
 |[],_::_,h=>by simp[plB]at h
 |_::_,[],h=>by simp[plB]at h
def pX(P:Program)(t:TypeId):TK->TypeDesc->Bool
 | .int k,.int k'=>kEq k k'
 | .bool,.bool=>Sm
 | .str,.string=>Sm
 | .sl e,.slice e'=>Nat.beq e e'
 | .st pl,.struct _=>(match placesOf P t with|some pl'=>plB pl pl'|none=>S1)
 | .arr m e,.array m' e'=>Nat.beq m m'&&Nat.beq e e'
 | .other,d=> !d.isRow
 |_,_=>S1
def zeroB:Option (List PV)->Option Value->Bool
 |none,_=>Sm
 |some zs,Sh z=>zlB (z.cells.toList.map fC) zs
 |some _,Sl=>S1
def MA(P:Program)(t:TypeId)(i:TI):Bool:=
 match P.info? t,P.underlying t with
 |some inf,Sh d=>Nat.beq inf.size i.size&&(Nat.beq inf.bytes i.bytes&&(zeroB i.zero inf.zero&&pX P t i.k d))
 |_,_=>S1
structure TGood(P:Program)(t:TypeId)(i:TI):Prop where
 size:bN P t i.size
 kind:∃d,P.underlying t=Sh d/\pX P t i.k d=Sm
 zero:∀zs,i.zero=Sh zs->∃z,(P.info? t).map (λi=>(i.zero,i.size,i.bytes))=Sh (Sh z,i.size,i.bytes)/\z.cells.toList.map fC=zs
theorem IX{t:TypeId}{i:TI}(h:MA P t i=Sm):TGood P t i:=by
 unfold MA at h;split at h
 .rename_i inf d h1 h2;simp only[sh]at h;have q:=aJ h.1;have A:=aJ h.2.1;refine⟨by unfold bN;rw[h1,<-q];rfl,⟨d,h2,h.2.2.2⟩,λzs hz=>?_⟩;have l:=h.2.2.1;rw[hz]at l;cases hq:inf.zero with
  |none=>rw[hq]at l;cases l
  |some z=>rw[hq]at l;exact⟨z,by rw[h1,<-q,<-A,<-hq];rfl,Lk l⟩
 .cases h
structure TT.Ok(P:Program)(tt:TT):Prop where
 go:∀{t i},tt.get t=Sh i->TGood P t i
theorem TT.ok_of{tt:TT}(h:tt.all (MA P)=Sm):tt.Ok P:=⟨λe=>IX (TT.wz h e)⟩
section
variable {P:Program}{t:TypeId}{i:TI}
theorem TGood.int(h:TGood P t i){k:IntKind}(e:i.k= .int k):P.underlying t=Sh (.int k):=by
 obtain⟨d,h1,h2⟩:=h.kind;rw[e]at h2;cases d<;>simp[pX]at h2;rw[h1,eu h2]
theorem TGood.bool(h:TGood P t i)(e:i.k= .bool):P.underlying t=Sh .bool:=by
 obtain⟨d,h1,h2⟩:=h.kind;rw[e]at h2;cases d<;>simp[pX]at h2;exact h1
theorem TGood.str(h:TGood P t i)(e:i.k= .str):P.underlying t=Sh .string:=by
 obtain⟨d,h1,h2⟩:=h.kind;rw[e]at h2;cases d<;>simp[pX]at h2;exact h1
theorem TGood.sl(h:TGood P t i)(e:i.k= .sl el):P.underlying t=Sh (.slice el):=by
 obtain⟨d,h1,h2⟩:=h.kind;rw[e]at h2;cases d<;>simp[pX]at h2;rw[h1,h2]
theorem TGood.arr(h:TGood P t i){m:Nat}(e:i.k= .arr m el):P.underlying t=Sh (.array m el):=by
 obtain⟨d,h1,h2⟩:=h.kind;rw[e]at h2;cases d<;>simp[pX]at h2;rw[h1,h2.1,h2.2]
theorem TGood.st(h:TGood P t i){pl:List (Nat×Nat)}(e:i.k= .st pl):placesOf P t=Sh pl:=by
 obtain⟨d,h1,h2⟩:=h.kind;rw[e]at h2;cases d<;>simp[pX]at h2;cases hp:placesOf P t with
 |none=>rw[hp]at h2;cases h2
 |some pl'=>rw[hp]at h2;rw[LY h2]
theorem TGood.isRow(h:TGood P t i)(e:i.k.row=Sm):isRow P t:=by
 obtain⟨d,h1,h2⟩:=h.kind;refine⟨d,h1,?_⟩;cases hk:i.k<;>rw[hk]at e h2<;>simp[TK.row]at e<;>cases d<;>simp[pX]at h2<;>rfl
theorem TGood.fF(h:TGood P t i)(e:i.k.row=S1):fF P t:=by
 obtain⟨d,h1,h2⟩:=h.kind;refine⟨d,h1,?_⟩;cases hk:i.k<;>rw[hk]at e h2<;>simp[TK.row]at e<;>cases d<;>simp[pX]at h2<;>first|rfl|exact h2
theorem TGood.fQ(h:TGood P t i){pl:List (Nat×Nat)}(e:i.k= .st pl){o s:Nat}(D:pl[j]? =Sh (o,s))(E:Nat.beq s 0=S1):fQ P t j=Sh o:=by
 have q:=h.st e;unfold placesOf at q;unfold Go.Proofs.YtoplpepiabedhaaGreatDoor.fQ;split at q
 .rename_i fs hu;try rw[hu]
  have A:∀(l:List Field)(pl:List (Nat×Nat))(j:Nat),(l.mapM λf=>(P.info? f.type).map λi=>(f.offset,i.size))=Sh pl->pl[j]? =Sh (o,s)->∃f,l[j]? =Sh f/\f.offset=o/\∃inf,P.info? f.type=Sh inf/\inf.size=s:=by
   intro l;induction l with
   |nil=>intro pl j h1 h2;simp at h1;subst h1;simp at h2
   | cons f l ih=>
     intro pl j h1 h2;simp only[List.mapM_cons,Option.bind_eq_bind,Option.bind_eq_some_iff,Option.pure_def,Rq]at h1;obtain⟨a,ha,pl',hpl,rfl⟩:=h1;cases j with
     | zero=>
       simp only[List.getElem?_cons_zero,Rq]at h2;subst h2;cases hi:P.info? f.type with
       |none=>rw[hi]at ha;cases ha
       |some inf=>rw[hi]at ha;simp at ha;exact⟨f,O,ha.1,inf,hi,ha.2⟩
     |succ j=>exact(ih pl' j hpl (by simpa using h2)).imp λf hf=>by simpa using hf
  obtain⟨f,hf,ho,inf,hi,hsz⟩:=A fs.toList pl j q D;have B:fs[j]? =Sh f:=by simpa using hf
  simp only[B,hi,ho,hsz,E,RR]
 .cases q
end
structure AO where
 s:OS
 rd:List Nat
 φ:Prop
abbrev AO.val(v:V):Option AO:=Sh ⟨⟨v,[],[]⟩,[],True⟩
def hdV{α:Type}(v:V)(f:V->α):α:=
 match v with
 | .pv p=>f (.pv p)
 | .ptr a b=>f (.ptr a b)
 | .osl a b c=>f (.osl a b c)
 | .tsl a b c=>f (.tsl a b c)
 | .gsl a b c=>f (.gsl a b c)
 | .map a=>f (.map a)
 | .agg l=>f (.agg l)
 | .tup l=>f (.tup l)
 | .fn a b c=>f (.fn a b c)
theorem jO(v:V)(f:V->α):hdV v f=f v:=by cases v<;>rfl
def hdL{α:Type}:List V->(List V->α)->α
 |[],f=>f []
 |v::l,f=>hdV v λv=>hdL l λl=>f (v::l)
theorem iU:∀(l:List V)(f:List V->α),hdL l f=f l
 |[],_=>rfl
 |v::l,f=>by simp only[hdL,jO,iU l]
def Qt(vs:List V):V:=match V.pvs vs with
 |some ps=> .pv (.agg ps)
 |none=> .agg vs
variable (tt:TT)(ev:Operand->V)(ob:Nat->Option Ob)(id:Nat)
omit tt ev ob id in
def Nj(op:BinOp)(k:IntKind)(i j:Int):Option AO:=
 match op with
 | .add=>bif kEq k .i64 then Sh ⟨⟨.pv (.int .i64 (i+j)),[],[]⟩,[], -9223372036854775808<=i+j/\i+j<=9223372036854775807⟩else AO.val (.pv (.int k (k.wrap (i+j))))
 | .sub=>bif kEq k .i64 then Sh ⟨⟨.pv (.int .i64 (i-j)),[],[]⟩,[], -9223372036854775808<=i-j/\i-j<=9223372036854775807⟩else AO.val (.pv (.int k (k.wrap (i-j))))
 | .mul=>bif kEq k .i64 then Sh ⟨⟨.pv (.int .i64 (i*j)),[],[]⟩,[], -9223372036854775808<=i*j/\i*j<=9223372036854775807⟩else AO.val (.pv (.int k (k.wrap (i*j))))
 | .quo=>Sh ⟨⟨.pv (.int k (k.wrap (i.tdiv j))),[],[]⟩,[],j≠0⟩
 | .rem=>Sh ⟨⟨.pv (.int k (i.tmod j)),[],[]⟩,[],j≠0⟩
 | .shl=>Sl
 | .shr=>Sl
 |op=>match vA op k i j with|some p=>AO.val (.pv p)|none=>Sl
omit tt ev ob id in
def Dr(op:BinOp)(k:IntKind)(i j:Int):Option AO:=
 match op,k with
 | .add,.u64=>match i,j with
   | .ofNat a,.ofNat b=>Sh ⟨⟨.pv (.int .u64 ((a+b:Nat):Int)),[],[]⟩,[],a+b<18446744073709551616⟩
   |_,_=>Sl
 | .sub,.u64=>match i,j with
   | .ofNat a,.ofNat b=>Sh ⟨⟨.pv (.int .u64 ((a-b:Nat):Int)),[],[]⟩,[],b<=a/\a<18446744073709551616⟩
   |_,_=>Sl
 | .mul,.u64=>match i,j with
   | .ofNat a,.ofNat b=>Sh ⟨⟨.pv (.int .u64 ((a*b:Nat):Int)),[],[]⟩,[],a*b<18446744073709551616⟩
   |_,_=>Sl
 | .quo,.u64=>match i,j with
   | .ofNat a,.ofNat b=>Sh ⟨⟨.pv (.int .u64 ((a/b:Nat):Int)),[],[]⟩,[],0<b/\a<18446744073709551616⟩
   |_,_=>Sl
 | .rem,.u64=>match i,j with
   | .ofNat a,.ofNat b=>Sh ⟨⟨.pv (.int .u64 ((a%b:Nat):Int)),[],[]⟩,[],0<b⟩
   |_,_=>Sl
 |op,k=>Nj op k i j
def N9(op:BinOp)(t:TypeId)(x y:Operand):Option AO:=
 match ev x,ev y with
 | .pv (.int k i),.pv (.int k' j)=>bif kEq k k' then Dr op k i j else Sl
 | .pv (.str a),.pv (.str b)=>match op with
   | .add=>Sh ⟨⟨.pv (.str (a++b)),[],[]⟩,[],a.size+b.size<=9223372036854775807⟩
   |op=>match binS op a b with|some p=>AO.val (.pv p)|none=>Sl
 | .pv (.bool a),.pv (.bool b)=>match tt.get t with
   | some ti=>match ti.k,op with
     | .bool,.eql=>AO.val (.pv (.bool (a==b)))
     | .bool,.neq=>AO.val (.pv (.bool (a !=b)))
     |_,_=>Sl
   |none=>Sl
 | .pv (.sl (Sh b) _ _),.pv (.sl (Sh Sm) 0 [])=>match y with
   | .const (.slice Sl 0 0)=>match tt.get t with
     | some ti=>match ti.k,op with
       | .sl _,.eql=>AO.val (.pv (.bool b))
       | .sl _,.neq=>AO.val (.pv (.bool (!b)))
       |_,_=>Sl
     |none=>Sl
   |_=>Sl
 |_,_=>Sl
def aoUn(op:UnOp)(x:Operand):Option AO:=
 match op,ev x with
 | .not,.pv (.bool b)=>AO.val (.pv (.bool (!b)))
 | .neg,.pv (.int .i64 i)=>Sh ⟨⟨.pv (.int .i64 (-i)),[],[]⟩,[], -9223372036854775807<=i/\i<=9223372036854775807⟩
 |_,_=>Sl
def C4(src d:TypeId)(x:Operand):Option AO:=
 match ev x,tt.get src,tt.get d with
 | .pv (.int _ i),Sh _,Sh td=>match td.k with
   | .int k'=>AO.val (.pv (.int k' (k'.wrap i)))
   |_=>Sl
 | .pv (.str s),Sh _,Sh td=>match td.k with
   | .sl e=>match tt.get e with
     | some te=>match te.k with
       | .int .u8=>Sh ⟨⟨.pv (.sl (Sh S1) s.size (aF s.data.toList)),[],[]⟩,[],s.size<=9223372036854775807⟩
       |_=>Sl
     |none=>Sl
   |_=>Sl
 |_,_,_=>Sl
def MH(x:Operand)(i:Nat):Option AO:=
 match ev x with
 | .pv (.tup ps)=>match ps[i]? with|some p=>AO.val (.pv p)|none=>Sl
 | .tup vs=>match vs[i]? with|some v=>hdV v AO.val|none=>Sl
 |_=>Sl
def N5(T:TypeId)(x:Operand):Option AO:=
 hdV (ev x) λv=>match v with
  | .pv _| .agg _=>hdL v.cells λcs=>bif cs.all V.leaf then Sh ⟨⟨.ptr id 0,[(id,Sh (.mix T cs))],[id]⟩,[],True⟩else Sl
  | .ptr i o=>bif bI (ob i)then Sh ⟨⟨.ptr id 0,[(id,Sh (.mix T [.ptr i o]))],[id]⟩,[i],True⟩else Sl
  | .osl i s k=>bif bI (ob i)then Sh ⟨⟨.ptr id 0,[(id,Sh (.mix T [.osl i s k]))],[id]⟩,[i],True⟩else Sl
  | .map i=>bif bI (ob i)then Sh ⟨⟨.ptr id 0,[(id,Sh (.mix T [.map i]))],[id]⟩,[i],True⟩else Sl
  | .gsl i s k=>Sh ⟨⟨.ptr id 0,[(id,Sh (.mix T [.gsl i s k]))],[id]⟩,[],True⟩
  | .fn f a b=>Sh ⟨⟨.ptr id 0,[(id,Sh (.mix T [.fn f a b]))],[id]⟩,[],True⟩
  | .tup _=>Sl
  | .tsl _ _ _=>Sl
def wI(T:TypeId):Option AO:=
 match tt.get T with
 | some ti=>match ti.zero with
   |some zs=>hdL (zs.map .pv) λcs=>Sh ⟨⟨.ptr id 0,[(id,Sh (.mix T cs))],[id]⟩,[],True⟩
   |none=>Sl
 |none=>Sl
def Nv(x:Operand):Option AO:=
 match ev x with
 | .ptr i off=>bif bI (ob i)then Sh ⟨⟨.ptr i off,[],[]⟩,[i],True⟩else Sl
 | .pv (.rp cs off)=>AO.val (.pv (.rp cs off))
 |_=>Sl
def Gi(T:TypeId)(x:Operand):Option AO:=
 match tt.get T with
 |none=>Sl
 | some ti=>match ev x with
   | .ptr i off=>match ob i with
     | some (.mix _ cs)=>bif ti.k.row then hdL ((cs.drop off).take ti.size) λvs=>bif Nat.beq vs.length ti.size then hdV (Qt vs) λv=>Sh ⟨⟨v,[],[]⟩,[i],True⟩else Sl
       else match cs[off]? with|some v=>hdV v λv=>Sh ⟨⟨v,[],[]⟩,[i],True⟩|none=>Sl
     |some (.cells _ cs)=>bif ti.k.row then Sl else match cs[off]? with|some p=>Sh ⟨⟨.pv p,[],[]⟩,[i],True⟩|none=>Sl
     |_=>Sl
   | .pv (.rp cs off)=>bif ti.k.row then bif Nat.beq ((cs.drop off).take ti.size).length ti.size then AO.val (.pv (.agg ((cs.drop off).take ti.size)))else Sl
     else match cs[off]? with|some p=>AO.val (.pv p)|none=>Sl
   |_=>Sl
def V.id1:V->List Nat
 | .ptr i _=>[i]
 | .osl i _ _=>[i]
 | .map i=>[i]
 |_=>[]
def V.ids:V->List Nat
 | .pv _=>[]
 | .agg cs=>cs.flatMap V.id1
 |v=>v.id1
def x9(dst:Option Tmp)(T:TypeId)(x y:Operand):Option AO:=
 match dst,tt.get T,ev x with
 | none,Sh ti,.ptr i off=>match ob i with
   | some (.mix T' cs)=>hdV (ev y) λv=>hdL v.cells λvc=>
     bif Nat.beq vc.length ti.size&&(Nat.ble (off+ti.size) cs.length&&(vc.all (λc=>c.leaf&&c.cc ob)&&v.cc ob))then
      hdL (fX cs off vc) λl=>Sh ⟨⟨.pv .any,[(i,Sh (.mix T' l))],[]⟩,i::v.ids,True⟩
     else Sl
   | some (.cells T' cs)=>match ev y with
     | .pv v=>bif Nat.beq ti.size 1&&v.leaf then Sh ⟨⟨.pv .any,[(i,Sh (.cells T' (cs.set off v)))],[]⟩,[i],off<cs.length⟩else Sl
     |_=>Sl
   |_=>Sl
 |_,_,_=>Sl
def xF(s:TypeId)(x:Operand)(j:Nat):Option AO:=
 match tt.get s with
 |none=>Sl
 | some ti=>match ti.k with
   | .st pl=>match pl[j]? with
     | some (o,q)=>bif Nat.beq q 0 then Sl else match ev x with
       | .ptr i off=>bif bI (ob i)then Sh ⟨⟨.ptr i (off+o),[],[]⟩,[i],True⟩else Sl
       | .pv (.rp cs off)=>AO.val (.pv (.rp cs (off+o)))
       |_=>Sl
     |none=>Sl
   |_=>Sl
def xu(T:TypeId)(x y:Operand):Option AO:=
 match tt.get T with
 |none=>Sl
 | some ti=>match ti.k with
   | .sl e=>match tt.get e with
     |none=>Sl
     | some ⟨_,sz,by_,zr⟩=>match ev y with
       | .pv (.int _ (.ofNat j))=>match ev x with
         | .pv (.sl _ k cs)=>Sh ⟨⟨.pv (.rp cs (j*sz)),[],[]⟩,[],j<k/\cs≠[]⟩
         | .osl i _ k=>bif bI (ob i)then Sh ⟨⟨.ptr i (j*sz),[],[]⟩,[i],j<k⟩else Sl
         |_=>Sl
       |_=>Sl
   |_=>Sl
def EG:Operand->Operand->Bool
 | .tmp a,.tmp b=>Nat.beq a b
 | .const (.int k a),.const (.int k' b)=>kEq k k'&&decide (a=b)
 |_,_=>S1
omit tt ev ob id in
theorem C2{y:Operand}(h:EG x y=Sm):x=y:=by
 unfold EG at h;split at h
 .rw[aJ h]
 .simp only[sh,Rt]at h;rw[eu h.1,h.2]
 .cases h
def DY(T:TypeId)(x y:Operand):Option AO:=
 match tt.get T with
 |none=>Sl
 | some ti=>match ti.k with
   | .sl e=>match tt.get e with
     |none=>Sl
     | some ⟨_,sz,by_,zr⟩=>match zr,ev x with
       |some zs,.pv (.int _ (.ofNat k))=>bif EG x y&&(Nat.beq zs.length sz&&(Nat.blt 0 sz&&Nat.ble by_ 1000))then Sh ⟨⟨.osl id sz k,[(id,Sh (.cells e (mkZ zs (k*sz))))],[id]⟩,[],k<=1000000000⟩else Sl
       |_,_=>Sl
   |_=>Sl
def sV(T:TypeId)(k:Nat)(parts:List (Nat×Operand)):Option AO:=
 match tt.get T with
 |none=>Sl
 | some ti=>match ti.k with
   | .sl e=>match tt.get e with
     |none=>Sl
     | some ⟨_,sz,by_,zr⟩=>match zr with
       | some zs=>bif Nat.beq zs.length sz&&(Nat.blt 0 sz&&(Nat.ble by_ 1000&&(Nat.blt 0 k&&Nat.ble (k*sz) 16777216)))then
         match eF (λi=>Sh (i*sz,sz)) ob ((mkZ zs (k*sz)).map .pv) (parts.map λp=>(p.1,ev p.2))with
         | some vs=>match V.pvs vs with
           |some cs=>Sh ⟨⟨.osl id sz k,[(id,Sh (.cells e cs))],[id]⟩,parts.flatMap λp=>(ev p.2).ids,True⟩
           |none=>Sl
         |none=>Sl
         else Sl
       |none=>Sl
   |_=>Sl
def wm(T:TypeId)(parts:List (Nat×Operand)):Option AO:=
 match tt.get T with
 |none=>Sl
 | some ti=>match ti.zero,ti.k with
   | some zs,.st pl=>match eF (yv pl) ob (zs.map .pv) (parts.map λp=>(p.1,ev p.2))with
     |some vs=>hdL vs λvs=>hdV (Qt vs) λv=>Sh ⟨⟨v,[],[]⟩,parts.flatMap λp=>(ev p.2).ids,True⟩
     |none=>Sl
   | some zs,.arr _ e=>match tt.get e with
     | some te=>match eF (λi=>Sh (i*te.size,te.size)) ob (zs.map .pv) (parts.map λp=>(p.1,ev p.2))with
       |some vs=>hdL vs λvs=>hdV (Qt vs) λv=>Sh ⟨⟨v,[],[]⟩,parts.flatMap λp=>(ev p.2).ids,True⟩
       |none=>Sl
     |none=>Sl
   |_,_=>Sl
def OM(t:TypeId)(x:Operand):Option AO:=
 match tt.get t with
 |none=>Sl
 | some ti=>match ti.k,ev x with
   | .str,.pv (.str s)=>AO.val (.pv (.int .i64 s.size))
   | .sl _,.pv (.sl _ k _)=>AO.val (.pv (.int .i64 k))
   | .sl _,.osl i _ k=>bif bI (ob i)then Sh ⟨⟨.pv (.int .i64 k),[],[]⟩,[i],True⟩else Sl
   | .sl _,.gsl _ _ k=>AO.val (.pv (.int .i64 k))
   |_,_=>Sl
def MK(t t':TypeId)(x y:Operand):Option AO:=
 match tt.get t with
 |none=>Sl
 | some ti=>match ti.k with
   | .sl e=>match tt.get e with
     |none=>Sl
     | some ⟨_,sz,by_,zr⟩=>match zr with
       | some zs=>bif Nat.beq t t'&&(Nat.beq zs.length sz&&(Nat.blt 0 sz&&Nat.ble by_ 1000))then
         match ev y with
         | .osl i2 s2 1=>match ob i2 with
           | some (.cells _ news)=>bif Nat.beq s2 sz&&(Nat.beq news.length sz&&news.all PV.leaf)then
             match ev x with
             | .osl i s k=>match ob i with
               |some (.cells e' cs)=>bif Nat.beq e' e&&Nat.beq s sz then Sh ⟨⟨.osl id sz (k+1),[(id,Sh (.cells e (cs++news))),(i,Sl)],[id]⟩,[i,i2],cs.length=k*sz/\k+1<=1000000000⟩else Sl
               |_=>Sl
             | .gsl i s k=>match ob i with
               |some (.gro e' cs)=>bif Nat.beq e' e&&Nat.beq s sz then Sh ⟨⟨.gsl id sz (k+1),[(id,Sh (.gro e (cs++news))),(i,Sl)],[id]⟩,[i,i2],cs.length=k*sz/\k+1<=1000000000⟩else Sl
               |_=>Sl
             | .pv (.sl (Sh Sm) 0 [])=>Sh ⟨⟨.osl id sz 1,[(id,Sh (.cells e news))],[id]⟩,[i2],True⟩
             |_=>Sl
             else Sl
           |_=>Sl
         |_=>Sl
         else Sl
       |none=>Sl
   |_=>Sl
def wL(T:TypeId)(x:Operand)(lo hi:Option Operand):Option AO:=
 match tt.get T with
 |none=>Sl
 | some ti=>match ti.k,ev x with
   | .str,.pv (.str z)=>match lo,hi with
     | none,Sh y=>match ev y with
       | .pv (.int _ (.ofNat h))=>Sh ⟨⟨.pv (.str (z.extract 0 h)),[],[]⟩,[],h<=z.size⟩
       |_=>Sl
     | some y,Sl=>match ev y with
       | .pv (.int _ (.ofNat l))=>Sh ⟨⟨.pv (.str (z.extract l z.size)),[],[]⟩,[],l<=z.size⟩
       |_=>Sl
     | some y,Sh y'=>match ev y,ev y' with
       | .pv (.int _ (.ofNat l)),.pv (.int _ (.ofNat h))=>Sh ⟨⟨.pv (.str (z.extract l h)),[],[]⟩,[],l<=h/\h<=z.size⟩
       |_,_=>Sl
     |none,Sl=>Sl
   | .sl e,.pv (.sl b k cs)=>match tt.get e with
     |none=>Sl
     | some ⟨_,sz,by_,zr⟩=>match lo,hi with
       | none,Sh y=>match ev y with
         | .pv (.int _ (.ofNat h))=>Sh ⟨⟨.pv (.sl b h (cs.take (h*sz))),[],[]⟩,[],h<=k/\cs.length=k*sz⟩
         |_=>Sl
       | some y,Sl=>match ev y with
         | .pv (.int _ (.ofNat l))=>Sh ⟨⟨.pv (.sl b (k-l) (cs.drop (l*sz))),[],[]⟩,[],l<=k/\cs.length=k*sz⟩
         |_=>Sl
       |_,_=>Sl
   |_,_=>Sl
def GQ(c:Call):Option AO:=
 match c.callee,c.args.toList,c.argTypes.toList with
 | .builtin .len,[x],[t]=>OM tt ev ob t x
 | .builtin .append,[x,y],[t,t']=>MK tt ev ob id t t' x y
 | .builtin .max,[x,y],[_,_]=>match ev x,ev y with
   | .pv (.int k i),.pv (.int k' j)=>bif kEq k k' then AO.val (.pv (.int k (if j>i then j else i)))else Sl
   |_,_=>Sl
 | .builtin .min,[x,y],[_,_]=>match ev x,ev y with
   | .pv (.int k i),.pv (.int k' j)=>bif kEq k k' then AO.val (.pv (.int k (if j<i then j else i)))else Sl
   |_,_=>Sl
 |_,_,_=>Sl
def auto(dst:Option Tmp):Op->Option AO
 | .move x=>hdV (ev x) AO.val
 | .assign x=>hdV (ev x) AO.val
 | .pick c x y=>match ev c with| .pv (.bool b)=>AO.val (bif b then ev x else ev y)|_=>Sl
 | .binOp op t x y _=>N9 tt ev op t x y
 | .unOp op _ x=>aoUn ev op x
 | .convert src d x=>C4 tt ev src d x
 | .extract x i=>MH ev x i
 | .box T x=>N5 ev ob id T x
 | .alloc T=>wI tt id T
 | .nilCheck x=>Nv ev ob x
 | .load T x=>Gi tt ev ob T x
 | .store T x y=>x9 tt ev ob dst T x y
 | .fieldAddr s x j=>xF tt ev ob s x j
 | .indexAddr T x y=>xu tt ev ob T x y
 | .makeSlice T x y=>DY tt ev id T x y
 | .buildSlice T k ps=>sV tt ev ob id T k ps.toList
 | .build T ps=>wm tt ev ob T ps.toList
 | .slice T x lo hi Sl=>wL tt ev T x lo hi
 | .makeFunc f fs cs=>hdL (fs.toList.map ev) λa=>hdL (cs.toList.map ev) λb=>AO.val (.fn f a b)
 | .call c=>GQ tt ev ob id c
 |_=>Sl
end
variable{v:V}
section
theorem rR{av:Av}{vs:List V}(h:Rel w m av R (.agg vs) u):Rel w m av R (Qt vs) u:=by
 unfold Qt;split
 .rename_i ps hps;have e:=V.vr hps;subst e;exact h.plain
 .exact h
theorem aV{a:Option α}{x:α}(h:(bif b then a else Sl)=Sh x):b=Sm/\a=Sh x:=by
 cases b
 .cases h
 .exact⟨O,h⟩
theorem jn{o:Option Ob}(h:bI o=Sm):∃q,o=Sh q/\q.real=Sm:=by
 cases o with
 |none=>cases h
 |some q=>exact⟨q,O,h⟩
theorem c8{ob':Nat->Option Ob}:∀{v:V},(∀i∈v.id1,ob i=ob' i)->v.cc ob=v.cc ob'
 | .pv _,_=>rfl
 | .ptr i o,h=>by simp only[V.cc,h i (by simp[V.id1])]
 | .osl i _ _,h=>by simp only[V.cc,h i (by simp[V.id1])]
 | .tsl _ _ _,_=>rfl
 | .gsl _ _ _,_=>rfl
 | .map i,h=>by simp only[V.cc,h i (by simp[V.id1])]
 | .agg _,_=>rfl
 | .tup _,_=>rfl
 | .fn _ _ _,_=>rfl
theorem Cl{ob':Nat->Option Ob}(h:∀i∈v.ids,ob i=ob' i):(∀c∈v.cells,c.cc ob=c.cc ob')/\v.cc ob=v.cc ob':=by
 cases v with
 | pv p=>
   refine⟨λc hc=>?_,O⟩;cases p<;>simp[V.cells]at hc<;>first|(subst hc;rfl)|(obtain⟨_,_,rfl⟩:=hc;rfl)
 |agg cs=>exact⟨λc hc=>c8 λi hi=>h i (by simp only[V.ids,RN];exact⟨c,by simpa[V.cells]using hc,hi⟩),O⟩
 |ptr i o=>exact⟨λc hc=>by simp only[V.cells,Rn]at hc;subst hc;exact c8 h,c8 h⟩
 |osl i s k=>exact⟨λc hc=>by simp only[V.cells,Rn]at hc;subst hc;exact c8 h,c8 h⟩
 |map i=>exact⟨λc hc=>by simp only[V.cells,Rn]at hc;subst hc;exact c8 h,c8 h⟩
 |_=>exact⟨λc hc=>by simp only[V.cells,Rn]at hc;subst hc;rfl,O⟩
theorem zt{ob':Nat->Option Ob}(h:∀i∈v.ids,ob i=ob' i):(v.cells.all (λc=>c.leaf&&c.cc ob)&&v.cc ob)=(v.cells.all (λc=>c.leaf&&c.cc ob')&&v.cc ob'):=by
 have hc:=Cl h;rw[hc.2]
 congr 1
 rw[RJ,Ri,Ri];exact⟨λk c hm=>by rw[<-hc.1 c hm];exact k c hm,λk c hm=>by rw[hc.1 c hm];exact k c hm⟩
theorem ij{place:Nat->Option (Nat×Nat)}{ob':Nat->Option Ob}:∀(l:List (Nat×V))(cells:List V),(∀p∈l,∀i∈p.2.ids,ob i=ob' i)->eF place ob cells l=eF place ob' cells l
 |[],_,_=>rfl
 | (i,v)::l,cells,h=>by
   have hv:=zt (v:=v) (h (i,v) Vj);have ih:=λc=>ij (place:=place) l c (λp hp=>h p (by simp[hp]))
   simp only[eF];split
   .rfl
   .rw[Bool.and_assoc,hv,<-Bool.and_assoc];simp only[ih]
section
variable {C:Ctx}{n:Nat}{τ:St}{dst:Option Tmp}{ty t t':TypeId}{pos:String}{after:Array Edge}{gd:Option (Nat×Bool)}{x y:Operand}{tt:TT}{ev:Operand->V}{ob:Nat->Option Ob}{id:Nat}{ao:AO}
theorem Jr{op:BinOp}{k:IntKind}{i j:Int}(h:Nj op k i j=Sh ao)(B:ao.φ)(q:τ.ev n x= .pv (.int k i))(A:τ.ev n y= .pv (.int k j)):XJ C n ⟨dst,.binOp op t x y t',ty,pos,after,gd⟩ τ ao.s:=by
 have l:∀{a b:AO},(bif kEq k .i64 then Sh a else Sh b)=Sh ao->(k= .i64/\a=ao)\/b=ao:=fun{a b} h=>by
  cases hk:kEq k .i64 with
  |true=>rw[hk]at h;exact .inl ⟨eu hk,by simpa using h⟩
  |false=>rw[hk]at h;exact .inr (by simpa using h)
 cases op<;>simp only[Nj]at h
 case add=>rcases l h with⟨rfl,rfl⟩|rfl;exact L4 q A B;exact aC q A O
 case sub=>rcases l h with⟨rfl,rfl⟩|rfl;exact L3 q A B;exact aC q A O
 case mul=>rcases l h with⟨rfl,rfl⟩|rfl;exact QK q A B;exact aC q A O
 case quo=>cases h;exact uU q A B
 case rem=>cases h;exact oW q A B
 case shl=>cases h
 case shr=>cases h
 all_goals (simp only[vA]at h;cases h;exact aC q A O)
theorem Ab(h:a<18446744073709551616):IntKind.u64.wrap (a:Int)=a:=IntWalk.u64_in _ Vf
theorem rT{b:Nat}(l:τ.ev n x= .pv (.int .u64 (a:Int)))(q:τ.ev n y= .pv (.int .u64 (b:Int)))(h:a+b<18446744073709551616):XJ C n ⟨dst,.binOp .add t x y t',ty,pos,after,gd⟩ τ ⟨.pv (.int .u64 ((a+b:Nat):Int)),[],[]⟩:=
 aC l q (by simp only[vA];rw[<-Int.natCast_add,Ab h])
theorem rz{b:Nat}(l:τ.ev n x= .pv (.int .u64 (a:Int)))(q:τ.ev n y= .pv (.int .u64 (b:Int)))(h:b<=a/\a<18446744073709551616):XJ C n ⟨dst,.binOp .sub t x y t',ty,pos,after,gd⟩ τ ⟨.pv (.int .u64 ((a-b:Nat):Int)),[],[]⟩:=
 aC l q (by simp only[vA];rw[show(a:Int)-b=((a-b:Nat):Int) by omega,Ab Vf])
theorem pg{b:Nat}(l:τ.ev n x= .pv (.int .u64 (a:Int)))(q:τ.ev n y= .pv (.int .u64 (b:Int)))(h:a*b<18446744073709551616):XJ C n ⟨dst,.binOp .mul t x y t',ty,pos,after,gd⟩ τ ⟨.pv (.int .u64 ((a*b:Nat):Int)),[],[]⟩:=
 aC l q (by simp only[vA];rw[<-TZ,Ab h])
theorem o7{b:Nat}(q:τ.ev n x= .pv (.int .u64 (a:Int)))(A:τ.ev n y= .pv (.int .u64 (b:Int)))(h:0<b/\a<18446744073709551616):XJ C n ⟨dst,.binOp .quo t x y t',ty,pos,after,gd⟩ τ ⟨.pv (.int .u64 ((a/b:Nat):Int)),[],[]⟩:=by
 have l:=uU (C:=C) (n:=n) (dst:=dst) (ty:=ty) (pos:=pos) (after:=after) (gd:=gd) (t:=t) (t':=t') q A Vf;rw[show(a:Int).tdiv b=((a/b:Nat):Int)from O,Ab (UN (Nat.div_le_self _ _) h.2)]at l;exact l
theorem ox{b:Nat}(l:τ.ev n x= .pv (.int .u64 (a:Int)))(q:τ.ev n y= .pv (.int .u64 (b:Int)))(h:0<b):XJ C n ⟨dst,.binOp .rem t x y t',ty,pos,after,gd⟩ τ ⟨.pv (.int .u64 ((a%b:Nat):Int)),[],[]⟩:=
 oW (C:=C) (n:=n) (dst:=dst) (ty:=ty) (pos:=pos) (after:=after) (gd:=gd) (t:=t) (t':=t') l q Vf
theorem DW{op:BinOp}{k:IntKind}{i j:Int}(h:Dr op k i j=Sh ao)(l:ao.φ)(q:τ.ev n x= .pv (.int k i))(A:τ.ev n y= .pv (.int k j)):XJ C n ⟨dst,.binOp op t x y t',ty,pos,after,gd⟩ τ ao.s:=by
 unfold Dr at h;split at h
 .split at h
  .cases h;exact rT q A l
  .cases h
 .split at h
  .cases h;exact rz q A l
  .cases h
 .split at h
  .cases h;exact pg q A l
  .cases h
 .split at h
  .cases h;exact o7 q A l
  .cases h
 .split at h
  .cases h;exact ox q A l
  .cases h
 .exact Jr h l q A
theorem Kt(B:tt.Ok C.P){op:BinOp}(h:N9 tt ev op t x y=Sh ao)(D:ao.φ)(l:τ.ev n x=ev x)(q:τ.ev n y=ev y):XJ C n ⟨dst,.binOp op t x y t',ty,pos,after,gd⟩ τ ao.s:=by
 unfold N9 at h;split at h
 .rename_i k i k' j e1 e2;have l:=l.trans e1;have q:=q.trans e2;have h:=aV h;have:=eu h.1;subst this;replace h:=h.2;exact DW h D l q
 .rename_i a b e1 e2;have l:=l.trans e1;have q:=q.trans e2;split at h
  .cases h;exact yF l q D
  .split at h
   .cases h;rename_i p hp;exact dv l q hp
   .cases h
 .rename_i a b e1 e2;have l:=l.trans e1;have q:=q.trans e2;split at h
  .rename_i ti hti;have A:=B.go hti;split at h
   .rename_i hk;cases h;exact NL (A.bool hk) l q
   .rename_i hk;cases h;exact MR (A.bool hk) l q
   .cases h
  .cases h
 .rename_i b k cs e1 e2;have l:=l.trans e1;split at h
  .split at h
   .rename_i ti hti;have A:=B.go hti;split at h
    .rename_i hk;cases h;exact DH (A.sl hk) l
    .rename_i hk;cases h;exact De (A.sl hk) l
    .cases h
   .cases h
  .cases h
 .cases h
theorem Mj{op:UnOp}(h:aoUn ev op x=Sh ao)(l:ao.φ)(q:τ.ev n x=ev x):XJ C n ⟨dst,.unOp op t x,ty,pos,after,gd⟩ τ ao.s:=by
 unfold aoUn at h;split at h
 .rename_i e;cases h;exact Qz (q.trans e)
 .rename_i e;cases h;exact Ll (q.trans e) l.1 l.2
 .cases h
theorem G3(q:tt.Ok C.P)(h:C4 tt ev src d x=Sh ao)(A:ao.φ)(l:τ.ev n x=ev x):XJ C n ⟨dst,.convert src d x,ty,pos,after,gd⟩ τ ao.s:=by
 unfold C4 at h;split at h
 .rename_i e1 e2 e3;have l:=l.trans e1;obtain⟨d,hs,_⟩:=(q.go e2).kind;split at h
  .rename_i hk;cases h;exact iM hs ((q.go e3).int hk) l
  .cases h
 .rename_i e1 e2 e3;have l:=l.trans e1;obtain⟨d,hs,_⟩:=(q.go e2).kind;split at h
  .rename_i e hk;split at h
   .rename_i te hte;split at h
    .rename_i hke;cases h;exact QG hs ((q.go e3).sl hk) ((q.go hte).int hke) l A
    .cases h
   .cases h
  .cases h
 .cases h
theorem Iv(h:MH ev x i=Sh ao)(l:τ.ev n x=ev x):XJ C n ⟨dst,.extract x i,ty,pos,after,gd⟩ τ ao.s:=by
 unfold MH at h;split at h
 .rename_i e;split at h
  .rename_i hp;cases h;exact cG (l.trans e) hp
  .cases h
 .rename_i e;split at h
  .rename_i hp;rw[jO]at h;cases h;exact A6 (l.trans e) hp
  .cases h
 .cases h
theorem Jg(h:N5 ev ob id T x=Sh ao)(l:τ.ev n x=ev x)(A:∀i∈ao.rd,τ.ob i=ob i)(q:∀i∈ao.s.nw,τ.av i=Sm):XJ C n ⟨dst,.box T x,ty,pos,after,gd⟩ τ ao.s:=by
 unfold N5 at h;rw[jO]at h;split at h
 .rename_i e;rw[iU]at h;obtain⟨hl,h⟩:=aV h;cases h;rw[e]at hl ⊢;exact nM id (q id Vj) (l.trans e) hl (by rintro _ _ ⟨⟩) (by rintro _ _ _ ⟨⟩) (by rintro _ ⟨⟩)
 .rename_i e;rw[iU]at h;obtain⟨hl,h⟩:=aV h;cases h;rw[e]at hl ⊢;exact nM id (q id Vj) (l.trans e) hl (by rintro _ _ ⟨⟩) (by rintro _ _ _ ⟨⟩) (by rintro _ ⟨⟩)
 .rename_i i o e;obtain⟨hl,h⟩:=aV h;cases h;exact nM id (q id Vj) (l.trans e) O (by rintro _ _ ⟨⟩;rw[A i Vj];exact hl) (by rintro _ _ _ ⟨⟩) (by rintro _ ⟨⟩)
 .rename_i i s k e;obtain⟨hl,h⟩:=aV h;cases h;exact nM id (q id Vj) (l.trans e) O (by rintro _ _ ⟨⟩) (by rintro _ _ _ ⟨⟩;rw[A i Vj];exact hl) (by rintro _ ⟨⟩)
 .rename_i i e;obtain⟨hl,h⟩:=aV h;cases h;exact nM id (q id Vj) (l.trans e) O (by rintro _ _ ⟨⟩) (by rintro _ _ _ ⟨⟩) (by rintro _ ⟨⟩;rw[A i Vj];exact hl)
 .rename_i e;cases h;exact nM id (q id Vj) (l.trans e) O (by rintro _ _ ⟨⟩) (by rintro _ _ _ ⟨⟩) (by rintro _ ⟨⟩)
 .rename_i e;cases h;exact nM id (q id Vj) (l.trans e) O (by rintro _ _ ⟨⟩) (by rintro _ _ _ ⟨⟩) (by rintro _ ⟨⟩)
 .cases h
 .cases h
theorem TGood.zeroV{i:TI}(h:TGood P t i)(e:i.zero=Sh zs):∃z,(P.info? t).map (·.zero)=Sh (Sh z)/\z.cells.toList.map fC=zs:=by
 obtain⟨z,h1,h2⟩:=h.zero zs e;refine⟨z,?_,h2⟩;cases hq:P.info? t with
 |none=>rw[hq]at h1;cases h1
 |some inf=>rw[hq]at h1;simp at h1;simp[h1.1]
theorem Bq(l:tt.Ok C.P)(h:wI tt id T=Sh ao)(q:∀i∈ao.s.nw,τ.av i=Sm):XJ C n ⟨dst,.alloc T,ty,pos,after,gd⟩ τ ao.s:=by
 unfold wI at h;split at h
 .rename_i ti hti;split at h
  .rename_i zs hz;rw[iU]at h;cases h;obtain⟨z,h1,h2⟩:=(l.go hti).zeroV hz;exact Kq id h1 h2 (q id Vj)
  .cases h
 .cases h
theorem Kb(h:Nv ev ob x=Sh ao)(l:τ.ev n x=ev x)(A:∀i∈ao.rd,τ.ob i=ob i):XJ C n ⟨dst,.nilCheck x,ty,pos,after,gd⟩ τ ao.s:=by
 unfold Nv at h;split at h
 .rename_i i off e;obtain⟨hl,h⟩:=aV h;cases h;obtain⟨q,hq,hr⟩:=jn hl;exact yi (l.trans e) ((A i Vj).trans hq) hr
 .rename_i e;cases h;exact uk (l.trans e)
 .cases h
theorem GV(B:tt.Ok C.P)(h:Gi tt ev ob T x=Sh ao)(q:τ.ev n x=ev x)(A:∀i∈ao.rd,τ.ob i=ob i):XJ C n ⟨dst,.load T x,ty,pos,after,gd⟩ τ ao.s:=by
 unfold Gi at h;split at h
 .cases h
 .rename_i ti hti;have l:=B.go hti;split at h
  .rename_i i off e;split at h
   .rename_i T' cs hob;cases hr:ti.k.row with
    | true=>
      rw[hr]at h;simp only[Sy,iU,jO]at h;obtain⟨hl,h⟩:=aV h;cases h;exact(Kl (l.isRow hr) l.size (q.trans e) ((A i Vj).trans hob) O (aJ hl)).NM λ_ _ _ _ _=>rR
    | false=>
      rw[hr]at h;simp only[RR]at h;split at h
      .rename_i v hv;rw[jO]at h;cases h;exact mU (l.fF hr) (q.trans e) ((A i Vj).trans hob) hv
      .cases h
   .rename_i T' cs hob;cases hr:ti.k.row with
    |true=>rw[hr]at h;cases h
    | false=>
      rw[hr]at h;simp only[RR]at h;split at h
      .rename_i v hv;cases h;exact cm (l.fF hr) (q.trans e) ((A i Vj).trans hob) hv
      .cases h
   .cases h
  .rename_i cs off e;cases hr:ti.k.row with
   | true=>
     rw[hr]at h;simp only[Sy]at h;obtain⟨hl,h⟩:=aV h;cases h;exact aU (l.isRow hr) l.size (q.trans e) O (aJ hl)
   | false=>
     rw[hr]at h;simp only[RR]at h;split at h
     .rename_i v hv;cases h;exact aq (l.fF hr) (q.trans e) hv
     .cases h
  .cases h
theorem Ci(I:tt.Ok C.P)(h:x9 tt ev ob dst T x y=Sh ao)(J:ao.φ)(G:τ.ev n x=ev x)(H:τ.ev n y=ev y)(A:∀i∈ao.rd,τ.ob i=ob i):XJ C n ⟨dst,.store T x y,ty,pos,after,gd⟩ τ ao.s:=by
 unfold x9 at h;split at h
 .rename_i ti i off hti e;have B:=I.go hti;split at h
  .rename_i T' cs hob;rw[jO,iU]at h;obtain⟨hl,h⟩:=aV h;rw[iU]at h;cases h;simp only[sh]at hl;have l:∀j∈(ev y).ids,τ.ob j=ob j:=λj hj=>A j (by simp[hj])
   have q:=zt l;have D:((ev y).cells.all (λc=>c.leaf&&c.cc ob)&&(ev y).cc ob)=Sm:=by simp only[sh];exact hl.2.2
   rw[<-q]at D;have E:=Bool.and_eq_true_iff.1 D;exact nJ B.size (G.trans e) ((A i Vj).trans hob) H (aJ hl.1) (Rz hl.2.1) E.1 E.2
  .rename_i T' cs hob;split at h
   .rename_i v hv;obtain⟨hl,h⟩:=aV h;cases h;simp only[sh]at hl;exact bQ (by rw[<-aJ hl.1];exact B.size) (G.trans e) ((A i Vj).trans hob) (H.trans hv) hl.2 J
   .cases h
  .cases h
 .cases h
theorem Bc(D:tt.Ok C.P){s:TypeId}(h:xF tt ev ob s x j=Sh ao)(A:τ.ev n x=ev x)(E:∀i∈ao.rd,τ.ob i=ob i):XJ C n ⟨dst,.fieldAddr s x j,ty,pos,after,gd⟩ τ ao.s:=by
 unfold xF at h;split at h
 .cases h
 .rename_i ti hti;have B:=D.go hti;split at h
  .rename_i pl hk;split at h
   .rename_i o q hp;cases hq0:Nat.beq q 0 with
    |true=>rw[hq0]at h;cases h
    |false=>
    rw[hq0]at h;simp only[RR]at h;have l:=B.fQ hk hp hq0;split at h
    .rename_i i off e;obtain⟨hl,h⟩:=aV h;cases h;obtain⟨q,hq,hr⟩:=jn hl;exact uy l (A.trans e) ((E i Vj).trans hq) hr
    .rename_i e;cases h;exact rV l (A.trans e)
    .cases h
   .cases h
  .cases h
theorem BI(l:tt.Ok C.P)(h:xu tt ev ob T x y=Sh ao)(A:ao.φ)(D:τ.ev n x=ev x)(E:τ.ev n y=ev y)(G:∀i∈ao.rd,τ.ob i=ob i):XJ C n ⟨dst,.indexAddr T x y,ty,pos,after,gd⟩ τ ao.s:=by
 unfold xu at h;split at h
 .cases h
 .rename_i ti hti;have B:=l.go hti;split at h
  .rename_i e hk;split at h
   .cases h
   .rename_i tk sz by_ zr hte;split at h
    .rename_i kk j e2;split at h
     .rename_i bn k cs e1;cases h;exact ae j (B.sl hk) (l.go hte).size (D.trans e1) (E.trans e2) O A.1 A.2
     .rename_i i s k e1;obtain⟨hl,h⟩:=aV h;cases h;obtain⟨q,hq,hr⟩:=jn hl;exact ak j (B.sl hk) (l.go hte).size (D.trans e1) ((G i Vj).trans hq) (E.trans e2) O A hr
     .cases h
    .cases h
  .cases h
theorem TGood.elem{te:TI}(h:TGood P e te)(l:te.zero=Sh zs)(q:P.underlying t=Sh (.slice e))(A:zs.length=te.size)(B:0<te.size)(D:te.bytes<=1000):∃z,ElemIs P t e z te.size te.bytes/\z.cells.toList.map fC=zs:=by
 obtain⟨z,h1,h2⟩:=h.zero zs l;exact⟨z,⟨q,h1,by rw[<-A,<-h2];simp,B,D⟩,h2⟩
theorem FD(l:tt.Ok C.P)(h:DY tt ev id T x y=Sh ao)(A:ao.φ)(q:τ.ev n x=ev x)(B:∀i∈ao.s.nw,τ.av i=Sm):XJ C n ⟨dst,.makeSlice T x y,ty,pos,after,gd⟩ τ ao.s:=by
 unfold DY at h;split at h
 .cases h
 .rename_i ti hti;split at h
  .rename_i e hk;split at h
   .cases h
   .rename_i tk sz by_ zr hte;split at h
    .rename_i zs kk k e1;obtain⟨hl,h⟩:=aV h;cases h;simp only[sh]at hl;obtain⟨z,h1,h2⟩:=(l.go hte).elem O ((l.go hti).sl hk) (aJ hl.2.1) (by simpa[Tw]using hl.2.2.1) (Rz hl.2.2.2);obtain rfl:=C2 hl.1;exact lF id k h1 h2 (q.trans e1) (q.trans e1) O O A (B id Vj)
    .cases h
  .cases h
theorem wB(l:tt.Ok C.P){ps:Array (Nat×Operand)}(h:sV tt ev ob id T k ps.toList=Sh ao)(B:∀p∈ps.toList,τ.ev n p.2=ev p.2)(D:∀i∈ao.rd,τ.ob i=ob i)(E:∀i∈ao.s.nw,τ.av i=Sm):XJ C n ⟨dst,.buildSlice T k ps,ty,pos,after,gd⟩ τ ao.s:=by
 unfold sV at h;split at h
 .cases h
 .rename_i ti hti;split at h
  .rename_i e hk;split at h
   .cases h
   .rename_i tk sz by_ zr hte;split at h
    .rename_i zs hte;obtain⟨hl,h⟩:=aV h;simp only[sh]at hl;obtain⟨z,h1,h2⟩:=(l.go hte).elem O ((l.go hti).sl hk) (aJ hl.1) (by simpa[Tw]using hl.2.1) (Rz hl.2.2.1);split at h
     .rename_i vs hf;split at h
      .rename_i cs hcs;cases h;have A:(ps.toList.map λp=>(p.1,τ.ev n p.2))=ps.toList.map λp=>(p.1,ev p.2):=Sd λp hp=>by rw[B p hp]
       refine rN id h1 h2 (by simpa[Tw]using hl.2.2.2.1) (Rz hl.2.2.2.2) (E id Vj) (vs:=vs) ?_ hcs;rw[A,ij (ob':=ob) _ _ (λp hp i hi=>?_)]
       .exact hf
       .obtain⟨q,hq,rfl⟩:=By.1 hp;exact D i (RN.2 ⟨q,hq,hi⟩)
      .cases h
     .cases h
    .cases h
  .cases h
theorem BU(l:tt.Ok C.P){ps:Array (Nat×Operand)}(h:wm tt ev ob T ps.toList=Sh ao)(D:∀p∈ps.toList,τ.ev n p.2=ev p.2)(B:∀i∈ao.rd,τ.ob i=ob i):XJ C n ⟨dst,.build T ps,ty,pos,after,gd⟩ τ ao.s:=by
 have A:(ps.toList.map λp=>(p.1,τ.ev n p.2))=ps.toList.map λp=>(p.1,ev p.2):=Sd λp hp=>by rw[D p hp]
 unfold wm at h;split at h
 .cases h
 .rename_i ti hti;split at h
  .rename_i zs pl hz hk;split at h
   .rename_i vs hf;rw[iU,jO]at h;cases h;obtain⟨z,h1,h2⟩:=(l.go hti).zeroV hz;refine XJ.NM (Ak (.struct h1 h2 ((l.go hti).st hk)) ?_) λ_ _ _ _ _=>rR
    rw[A,ij (ob':=ob) _ _ (λp hp i hi=>?_)]
    .exact hf
    .obtain⟨q,hq,rfl⟩:=By.1 hp;exact B i (RN.2 ⟨q,hq,hi⟩)
   .cases h
  .rename_i zs len e hz hk;split at h
   .rename_i te hte;split at h
    .rename_i vs hf;rw[iU,jO]at h;cases h;obtain⟨z,h1,h2⟩:=(l.go hti).zeroV hz;refine XJ.NM (Ak (.array ((l.go hti).arr hk) h1 h2 (l.go hte).size) ?_) λ_ _ _ _ _=>rR
     rw[A,ij (ob':=ob) _ _ (λp hp i hi=>?_)]
     .exact hf
     .obtain⟨q,hq,rfl⟩:=By.1 hp;exact B i (RN.2 ⟨q,hq,hi⟩)
    .cases h
   .cases h
  .cases h
theorem Ku(B:tt.Ok C.P)(h:OM tt ev ob t x=Sh ao)(A:τ.ev n x=ev x)(D:∀i∈ao.rd,τ.ob i=ob i):XJ C n ⟨dst,.call { callee:= .builtin .len,args:= #[x],argTypes:= #[t] },ty,pos,after,gd⟩ τ ao.s:=by
 unfold OM at h;split at h
 .cases h
 .rename_i ti hti;have l:=B.go hti;split at h
  .rename_i hk e;cases h;exact Ep (l.str hk) (A.trans e)
  .rename_i hk e;cases h;exact Qh (l.sl hk) (A.trans e)
  .rename_i i s k hk e;obtain⟨hl,h⟩:=aV h;cases h;obtain⟨q,hq,hr⟩:=jn hl;exact Oa (l.sl hk) (A.trans e) ((D i Vj).trans hq) hr
  .rename_i hk e;cases h;exact Mf (l.sl hk) (A.trans e)
  .cases h
theorem HL(U:tt.Ok C.P)(h:MK tt ev ob id t t' x y=Sh ao)(E:ao.φ)(J:τ.ev n x=ev x)(L:τ.ev n y=ev y)(D:∀i∈ao.rd,τ.ob i=ob i)(M:∀i∈ao.s.nw,τ.av i=Sm):XJ C n ⟨dst,.call { callee:= .builtin .append,args:= #[x,y],argTypes:= #[t,t'] },ty,pos,after,gd⟩ τ ao.s:=by
 unfold MK at h;split at h
 .cases h
 .rename_i ti hti;split at h
  .rename_i e hk;split at h
   .cases h
   .rename_i tk sz by_ zr hte;split at h
    .rename_i zs hte;have B:=(aV h).1;replace h:=(aV h).2;simp only[sh]at B;have G:t=t':=aJ B.1;subst G;obtain⟨z,h1,h2⟩:=(U.go hte).elem O ((U.go hti).sl hk) (aJ B.2.1) (by simpa[Tw]using B.2.2.1) (Rz B.2.2.2);split at h
     .rename_i i2 s2 e2;split at h
      .rename_i T2 news hob2;have A:=(aV h).1;replace h:=(aV h).2;simp only[sh]at A;have H:=aJ A.1;subst H;have l:=aJ A.2.1;split at h
       .rename_i i s k e3;split at h
        .rename_i e' cs hob;have q:=(aV h).1;replace h:=(aV h).2;simp only[sh]at q;have I:e'=e:=aJ q.1;have es:=aJ q.2;subst I es;cases h;exact qt id h1 (J.trans e3) ((D i Vj).trans hob) E.1 (L.trans e2) ((D i2 Vj).trans hob2) l A.2.2 E.2 (M id Vj)
        .cases h
       .rename_i i s k e3;split at h
        .rename_i e' cs hob;have q:=(aV h).1;replace h:=(aV h).2;simp only[sh]at q;have I:e'=e:=aJ q.1;have es:=aJ q.2;subst I es;cases h;exact ir id h1 (J.trans e3) ((D i Vj).trans hob) E.1 (L.trans e2) ((D i2 Vj).trans hob2) l A.2.2 E.2 (M id Vj)
        .cases h
       .rename_i e3;cases h;exact xY id h1 (J.trans e3) (L.trans e2) ((D i2 Vj).trans hob2) l A.2.2 (M id Vj)
       .cases h
      .cases h
     .cases h
    .cases h
  .cases h
theorem Bp(G:tt.Ok C.P){lo hi:Option Operand}(h:wL tt ev T x lo hi=Sh ao)(A:ao.φ)(q:τ.ev n x=ev x)(B:∀y,lo=Sh y->τ.ev n y=ev y)(D:∀y,hi=Sh y->τ.ev n y=ev y):XJ C n ⟨dst,.slice T x lo hi Sl,ty,pos,after,gd⟩ τ ao.s:=by
 unfold wL at h;split at h
 .cases h
 .rename_i ti hti;have E:=G.go hti;split at h
  .rename_i z hk e;have q:=q.trans e;split at h
   .rename_i y;split at h
    .rename_i k2 hh e2;cases h;exact fu (kl:= .i64) (il:=0) Sl (Sh y) 0 hh (E.str hk) q Vj (λ_=>rfl) (by rintro _ ⟨⟩;exact⟨(D y O).trans e2,O⟩) Vj (cd _) A
    .cases h
   .rename_i y;split at h
    .rename_i k2 l e2;cases h;exact fu (kh:= .i64) (ih:=0) (Sh y) Sl l z.size (E.str hk) q (by rintro _ ⟨⟩;exact⟨(B y O).trans e2,O⟩) Vj Vj (λ_=>rfl) A (BY _)
    .cases h
   .rename_i y y';split at h
    .rename_i k2 l k3 hh e2 e3;cases h;exact fu (Sh y) (Sh y') l hh (E.str hk) q (by rintro _ ⟨⟩;exact⟨(B y O).trans e2,O⟩) Vj (by rintro _ ⟨⟩;exact⟨(D y' O).trans e3,O⟩) Vj A.1 A.2
    .cases h
   .cases h
  .rename_i el b k cs hk e;have q:=q.trans e;split at h
   .cases h
   .rename_i tk sz by_ zr hte;split at h
    .rename_i y;split at h
     .rename_i k2 hh e2;cases h;exact di hh (E.sl hk) (G.go hte).size q ((D y O).trans e2) O A.1 A.2
     .cases h
    .rename_i y;split at h
     .rename_i k2 l e2;cases h;exact vB l (E.sl hk) (G.go hte).size q ((B y O).trans e2) O A.1 A.2
     .cases h
    .cases h
  .cases h
theorem D6(q:tt.Ok C.P){c:Call}(h:GQ tt ev ob id c=Sh ao)(B:ao.φ)(l:∀x∈c.args.toList,τ.ev n x=ev x)(A:∀i∈ao.rd,τ.ob i=ob i)(D:∀i∈ao.s.nw,τ.av i=Sm):XJ C n ⟨dst,.call c,ty,pos,after,gd⟩ τ ao.s:=by
 obtain⟨callee,args,ats⟩:=c;obtain⟨args⟩:=args;obtain⟨ats⟩:=ats;unfold GQ at h;split at h
 .rename_i x t e1 e2 e3;simp only at e1 e2 e3;subst e1 e2 e3;exact Ku q h (l x Vj) A
 .rename_i x y t t' e1 e2 e3;simp only at e1 e2 e3;subst e1 e2 e3;exact HL q h B (l x Vj) (l y Vj) A D
 .rename_i x y t t' e1 e2 e3;simp only at e1 e2 e3;subst e1 e2 e3;split at h
  .rename_i k i k' j e1 e2;obtain⟨hk,h⟩:=aV h;cases h;have:=eu hk;subst this;exact AK ((l x Vj).trans e1) ((l y Vj).trans e2)
  .cases h
 .rename_i x y t t' e1 e2 e3;simp only at e1 e2 e3;subst e1 e2 e3;split at h
  .rename_i k i k' j e1 e2;obtain⟨hk,h⟩:=aV h;cases h;have:=eu hk;subst this;exact Li ((l x Vj).trans e1) ((l y Vj).trans e2)
  .cases h
 .cases h
theorem Vq{p:Prop}(h:p:=by simp[Op.operands]):p:=h
theorem DC(q:tt.Ok C.P){op:Op}(h:auto tt ev ob id dst op=Sh ao)(B:ao.φ)(l:∀x∈op.operands.toList,τ.ev n x=ev x)(A:∀i∈ao.rd,τ.ob i=ob i)(D:∀i∈ao.s.nw,τ.av i=Sm):XJ C n ⟨dst,op,ty,pos,after,gd⟩ τ ao.s:=by
 cases op<;>simp only[auto,reduceCtorEq]at h
 case move x=>rw[jO]at h;cases h;exact mX (l x Vq)
 case assign x=>rw[jO]at h;cases h;exact qN (l x Vq)
 case pick c x y=>
  split at h
  .rename_i b e;cases h;have:=Nu (C:=C) (n:=n) (σ:=τ) (dst:=dst) (ty:=ty) (pos:=pos) (after:=after) (gd:=gd) (x:=x) (y:=y) ((l c Vq).trans e);rw[l x Vq,l y Vq]at this;exact this
  .cases h
 case binOp op t x y t'=>exact Kt q h B (l x Vq) (l y Vq)
 case unOp op t x=>exact Mj h B (l x Vq)
 case convert src d x=>exact G3 q h B (l x Vq)
 case extract x i=>exact Iv h (l x Vq)
 case box T x=>exact Jg h (l x Vq) A D
 case alloc T=>exact Bq q h D
 case nilCheck x=>exact Kb h (l x Vq) A
 case load T x=>exact GV q h (l x Vq) A
 case store T x y=>exact Ci q h B (l x Vq) (l y Vq) A
 case fieldAddr s x j=>exact Bc q h (l x Vq) A
 case indexAddr T x y=>exact BI q h B (l x Vq) (l y Vq) A
 case makeSlice T x y=>exact FD q h B (l x Vq) D
 case buildSlice T k ps=>exact wB q h (λp hp=>l p.2 (by simp only[Op.operands];exact By.2 ⟨p,hp,O⟩)) A D
 case build T ps=>exact BU q h (λp hp=>l p.2 (by simp only[Op.operands];exact By.2 ⟨p,hp,O⟩)) A
 case slice T x lo hi mx=>
  cases mx with
  |some _=>simp at h
  | none=>
    simp only at h;refine Bp q h B (l x Vq) (λy hy=>l y ?_) (λy hy=>l y ?_)<;>subst hy<;>simp[Op.operands]
 case makeFunc f fs cs=>
  rw[iU,iU]at h;cases h;have E:fs.toList.map (τ.ev n)=fs.toList.map ev:=Sd λx hm=>l x (by simp[Op.operands]at hm ⊢; exact .inl hm)
  have G:cs.toList.map (τ.ev n)=cs.toList.map ev:=Sd λx hm=>l x (by simp[Op.operands]at hm ⊢; exact .inr hm)
  show XJ _ _ _ _ ⟨.fn f (fs.toList.map ev) (cs.toList.map ev),[],[]⟩;rw[<-E,<-G];exact wM
 case call c=>exact D6 q h B (λx hm=>l x (by simp[Op.operands,Call.operands];exact .inr (by simpa using hm))) A D
end
def Du{α:Type}(av:Av)(z:α)(f:Nat->α):List Nat->α
 |[]=>z
 |i::l=>bif av i then f i else Du av z f l
theorem qE{av:Av}{f:Nat->Option α}{x:α}:∀{l:List Nat},Du av Sl f l=Sh x->∃i,f i=Sh x
 |[],h=>by cases h
 | i::l,h=>by
   simp only[Du]at h;cases hb:av i with
   |true=>rw[hb]at h;exact⟨i,h⟩
   |false=>rw[hb]at h;exact qE h
def Oq:Op->Bool
 | .box _ _| .alloc _| .makeSlice _ _ _| .buildSlice _ _ _=>Sm
 | .call c=>match c.callee with| .builtin .append=>Sm|_=>S1
 |_=>S1
def kC(ops:Array Oper)(n:Nat)(σ:St)(o:Oper):Option Bool:=
 match o.guard with
 |none=>Sh Sm
 | some (j,want)=>match σ.ev n (.tmp (((ops[j]?).bind (·.dst)).getD n))with
   | .pv (.bool Sm)=>Sh want
   | .pv (.bool S1)=>Sh (!want)
   | .pv (.tup [])=>Sh S1
   |_=>Sl
def evK(n:Nat)(σ:St):Operand->V
 | .const (.int k i)=> .pv (.int k i)
 | .const (.bool b)=> .pv (.bool b)
 | .const (.string s)=> .pv (.str s)
 | .const (.slice Sl 0 0)=> .pv (.sl (Sh Sm) 0 [])
 | .const (.pointer Sl)=> .pv .nilptr
 | .const (.map Sl)=> .pv .nilmap
 | .const .nilFunc=> .pv .nilfn
 | .const .nilIface=> .pv .niliface
 |x=>σ.ev n x
theorem Lm(n:Nat)(σ:St):evK n σ=σ.ev n:=by
 funext x;unfold evK;split<;>rfl
def ed(tt:TT)(ops:Array Oper)(n:Nat)(σ:St)(o:Oper):Option (Option Tmp×AO):=
 match kC ops n σ o with
 | some Sm=>match (bif Oq o.op then Du σ.av Sl (λid=>auto tt (evK n σ) σ.ob id o.dst o.op) [0,1,2,3,4,5,6,7,8,9,10,11,12,13,14,15,16,17,18,19,20,21,22,23,24,25,26,27,28,29,30,31,32,33,34,35,36,37,38,39,40,41,42,43,44,45,46,47,48,49]else auto tt (evK n σ) σ.ob 0 o.dst o.op)with
   |some ⟨s,rd,φ⟩=>bif s.nw.all σ.av then Sh (o.dst,⟨s,rd,φ⟩)else Sl
   |none=>Sl
 |some S1=>Sh (o.dst,⟨⟨und,[],[]⟩,[],True⟩)
 |none=>Sl
section
variable {C:Ctx}{n:Nat}{σ:St}{ops:Array Oper}{o:Oper}{os:List Oper}{K:St->Prop}{tt:TT}{d:Option Tmp}{s:OS}{rd:List Nat}{φ:Prop}
theorem ur{ev:Operand->V}{dst:Option Tmp}{op:Op}{av:Av}{l:List Nat}{ao:AO}(h:(bif Oq op then Du av Sl (λid=>auto tt ev ob id dst op) l else auto tt ev ob 0 dst op)=Sh ao):∃id,auto tt ev ob id dst op=Sh ao:=by
 cases hb:Oq op with
 |true=>rw[hb]at h;exact qE h
 |false=>rw[hb]at h;exact⟨0,h⟩
theorem dI(h:kC ops n σ o=Sh b):(o.guard=Sl/\b=Sm)\/∃j want v,o.guard=Sh (j,want)/\(σ.ev n (.tmp (((ops[j]?).bind (·.dst)).getD n))).gd=Sh v/\(v=Sh want↔b=Sm):=by
 unfold kC at h;split at h
 .rename_i e;cases h;exact .inl ⟨e,O⟩
 .rename_i j want e;refine .inr ⟨j,want,?_⟩;split at h
  .rename_i e2;cases h;exact⟨Sh Sm,e,V.rX e2,by cases b<;>simp⟩
  .rename_i e2;cases h;exact⟨Sh S1,e,V.rX e2,by cases want<;>simp⟩
  .rename_i e2;cases h;exact⟨Sl,e,by rw[e2];rfl,Vj⟩
  .cases h
theorem RL.auto(q:tt.Ok C.P)(h:ed tt ops n σ o=Sh (d,⟨s,rd,φ⟩))(k:RL C n ops os K (σ.app d s))(A:φ):RL C n ops (o::os) K σ:=by
 obtain⟨dst,op,ty,pos,after,gd⟩:=o;unfold ed at h;split at h
 .rename_i hg;split at h
  .rename_i s' rd' φ' hao;obtain⟨id,hao⟩:=ur hao;rw[Lm]at hao;obtain⟨hn,h⟩:=aV h;cases h;have l:XJ C n ⟨dst,op,ty,pos,after,gd⟩ σ s:=DC q hao A (λ_ _=>rfl) (λ_ _=>rfl) (λi hi=>Ri.1 hn i hi);rcases dI hg with⟨e,_⟩|⟨j,want,v,e,hv,hb⟩
   .exact RL.step e O l k
   .simp only at e;subst e;simp only[RL];exact⟨v,λa w ⟨m,R,hw⟩=>eO hw hv,λ_=>l.mono λ_ e=>e▸k,λe=>absurd (hb.2 O) e⟩
  .cases h
 .rename_i hg;cases h;rcases dI hg with⟨_,e⟩|⟨j,want,v,e,hv,hb⟩
  .cases e
  .simp only at e;subst e;simp only[RL];refine⟨v,λa w ⟨m,R,hw⟩=>eO hw hv,(λe=>by have:=hb.1 e;cases this),λ_ a w ⟨m,R,hw⟩=>⟨_,k,m,R,?_⟩⟩;rw[St.ib];exact hw.put _ (G4 _ _ _ _)
 .cases h
theorem DL.auto{acc:List It}(B:tt.Ok C.P)(l:ops[i]? =Sh o)(h:ed tt ops n σ o=Sh (d,⟨s,rd,φ⟩))(k:DL C n ops cl is (⟨i,o,s,s.wr.map (·.1),s.nw,rd⟩::acc) K (σ.app d s))(D:φ)(hc:gU ops n cl ⟨i,o,s,s.wr.map (·.1),s.nw,rd⟩ acc=Sm):DL C n ops cl (i::is) acc K σ:=by
 obtain⟨dst,op,ty,pos,after,gd⟩:=o;unfold ed at h;split at h
 .rename_i hg;split at h
  .rename_i s' rd' φ' hao;obtain⟨id,hao⟩:=ur hao;rw[Lm]at hao;obtain⟨hn,h⟩:=aV h;cases h;have A:∀τ,Agr n ops ⟨dst,op,ty,pos,after,gd⟩ σ τ s rd->XJ C n ⟨dst,op,ty,pos,after,gd⟩ τ s:=λτ ha=>DC B hao D (λx hm=>by
    obtain⟨q,hq⟩:=SU hm;exact ha.e q x hq) (λi hi=>by
    obtain⟨q,hq⟩:=SU hi;exact ha.o q i hq) (λi hi=>by
    obtain⟨q,hq⟩:=SU hi;exact ha.n q i hq)
   rcases dI hg with⟨e,_⟩|⟨j,want,v,e,hv,hb⟩
   .exact DL.step rd l e O A hn hc k
   .simp only at e;subst e;refine⟨_,l,.inl ⟨s,rd,λτ ha=>?_,hn,hc,k⟩⟩;simp only;exact⟨v,by rw[ha.g _ (by simp only[BM])];exact hv,λ_=>A τ ha,λe=>absurd (hb.2 O) e⟩
  .cases h
 .rename_i hg;cases h;rcases dI hg with⟨_,e⟩|⟨j,want,v,e,hv,hb⟩
  .cases e
  .simp only at e;subst e;refine⟨_,l,.inl ⟨⟨und,[],[]⟩,[],λτ ha=>?_,O,hc,k⟩⟩;simp only;exact⟨v,by rw[ha.g _ (by simp only[BM])];exact hv,(λe=>by have:=hb.1 e;cases this),λ_=>trivial⟩
 .cases h
def JY(tt:TT)(ops:Array Oper)(n:Nat)(σ:St)(o:Oper):Option (Option Tmp×List PV×Nat×List Nat):=
 match kC ops n σ o,o.op with
 | some Sm,.load T x=>match tt.get T with
   | some ti=>bif ti.k.row then Sl else match σ.ev n x with
     | .pv (.rp cs off)=>Sh (o.dst,cs,off,[])
     | .ptr i off=>match σ.ob i with
       |some (.cells _ cs)=>Sh (o.dst,cs,off,[i])
       |_=>Sl
     |_=>Sl
   |none=>Sl
 |_,_=>Sl
def Kg(tt:TT)(ops:Array Oper)(n:Nat)(σ:St)(o:Oper):Option (Option Tmp×List PV×Nat×Nat×List Nat):=
 match kC ops n σ o,o.op with
 | some Sm,.load T x=>match tt.get T with
   | some ⟨k,sz,_,_⟩=>bif k.row then match σ.ev n x with
     | .pv (.rp cs off)=>Sh (o.dst,cs,off,sz,[])
     | .ptr i off=>match σ.ob i with
       |some (.cells _ cs)=>Sh (o.dst,cs,off,sz,[i])
       |_=>Sl
     |_=>Sl
     else Sl
   |none=>Sl
 |_,_=>Sl
theorem RL.with(q:kC ops n σ o=Sh Sm)(A:o.dst=d)(l:XJ C n o σ ⟨v,[],[]⟩)(k:RL C n ops os K (σ.app d ⟨v,[],[]⟩)):RL C n ops (o::os) K σ:=by
 subst A;rcases dI q with⟨e,_⟩|⟨j,want,w,e,hv,hb⟩
 .exact RL.step e O l k
 .simp only[RL,e];exact⟨w,λa w ⟨m,R,hw⟩=>eO hw hv,λ_=>l.mono λ_ e=>e▸k,λe=>absurd (hb.2 O) e⟩
theorem DL.with{acc:List It}(rd:List Nat)(l:ops[i]? =Sh o)(A:kC ops n σ o=Sh Sm)(B:o.dst=d)(q:∀τ,Agr n ops o σ τ ⟨v,[],[]⟩ rd->XJ C n o τ ⟨v,[],[]⟩)
  (k:DL C n ops cl is (⟨i,o,⟨v,[],[]⟩,[],[],rd⟩::acc) K (σ.app d ⟨v,[],[]⟩)) (hc:gU ops n cl ⟨i,o,⟨v,[],[]⟩,[],[],rd⟩ acc=Sm):DL C n ops cl (i::is) acc K σ:=by
 subst B;rcases dI A with⟨e,_⟩|⟨j,want,w,e,hv,hb⟩
 .exact DL.step rd l e O q O hc k
 .refine⟨_,l,.inl ⟨⟨v,[],[]⟩,rd,λτ ha=>?_,O,hc,k⟩⟩;simp only[e];exact⟨w,by rw[ha.g _ (by simp only[BM,e])];exact hv,λ_=>q τ ha,λe=>absurd (hb.2 O) e⟩
variable {cs:List PV}{off sz:Nat}{p:PV}{vs:List PV}
theorem q9(l:tt.Ok C.P)(h:JY tt ops n σ o=Sh (d,cs,off,rd))(q:cs[off]? =Sh p):kC ops n σ o=Sh Sm/\o.dst=d/\∀τ,(∀x∈o.op.operands.toList,τ.ev n x=σ.ev n x)->(∀i∈rd,τ.ob i=σ.ob i)->XJ C n o τ ⟨.pv p,[],[]⟩:=by
 obtain⟨dst,op,ty,pos,after,gd⟩:=o;unfold JY at h;split at h
 .rename_i T x hg hop;simp only at hop;subst hop;split at h
  .rename_i ti hti;cases hr:ti.k.row with
   |true=>rw[hr]at h;cases h
   | false=>
     rw[hr]at h;simp only[RR]at h;split at h
     .rename_i e;cases h;exact⟨hg,O,λτ he _=>aq ((l.go hti).fF hr) ((he x Vq).trans e) q⟩
     .rename_i e;split at h
      .rename_i e2;cases h;exact⟨hg,O,λτ he ho=>cm ((l.go hti).fF hr) ((he x Vq).trans e) ((ho _ Vj).trans e2) q⟩
      .cases h
     .cases h
  .cases h
 .cases h
theorem qn(l:tt.Ok C.P)(h:Kg tt ops n σ o=Sh (d,cs,off,sz,rd))(q:(cs.drop off).take sz=vs)(A:vs.length=sz):kC ops n σ o=Sh Sm/\o.dst=d/\∀τ,(∀x∈o.op.operands.toList,τ.ev n x=σ.ev n x)->(∀i∈rd,τ.ob i=σ.ob i)->XJ C n o τ ⟨.pv (.agg vs),[],[]⟩:=by
 obtain⟨dst,op,ty,pos,after,gd⟩:=o;unfold Kg at h;split at h
 .rename_i T x hg hop;simp only at hop;subst hop;split at h
  .rename_i k sz' by_ zr hti;cases hr:k.row with
   |false=>rw[hr]at h;cases h
   | true=>
     rw[hr]at h;simp only[Sy]at h;split at h
     .rename_i e;cases h;exact⟨hg,O,λτ he _=>aU ((l.go hti).isRow hr) (l.go hti).size ((he x Vq).trans e) q A⟩
     .rename_i e;split at h
      .rename_i e2;cases h;exact⟨hg,O,λτ he ho=>tG ((l.go hti).isRow hr) (l.go hti).size ((he x Vq).trans e) ((ho _ Vj).trans e2) q A⟩
      .cases h
     .cases h
  .cases h
 .cases h
theorem PS{o:Oper}{s:OS}{rd:List Nat}(h:Agr n ops o σ τ s rd):∀x∈o.op.operands.toList,τ.ev n x=σ.ev n x:=λx hm=>by
 obtain⟨q,hq⟩:=SU hm;exact h.e q x hq
theorem PR{o:Oper}{s:OS}{rd:List Nat}(h:Agr n ops o σ τ s rd):∀i∈rd,τ.ob i=σ.ob i:=λi hm=>by
 obtain⟨q,hq⟩:=SU hm;exact h.o q i hq
end
end
theorem follows:prog.follows .mixedOrders=Sm:=Vg
theorem sz3:bN prog 3 1:=by unfold bN;kernel_rfl
theorem zero3:(prog.info? 3).map (·.zero)=Sh (Sh (.int .i64 0)):=Vg
theorem sz4:bN prog 4 1:=by unfold bN;kernel_rfl
theorem zero4:(prog.info? 4).map (·.zero)=Sh (Sh (.bool S1)):=Vg
theorem sz5:bN prog 5 1:=by unfold bN;kernel_rfl
theorem sz9:bN prog 9 1:=by unfold bN;kernel_rfl
theorem nv:bN prog 22 1:=by unfold bN;kernel_rfl
theorem tm:ElemIs prog 22 3 (.int .i64 0) 1 8:=⟨Vg,Vg,O,Vh,Vh⟩
theorem el26:ElemIs prog 26 162 (.agg #[(.string ⟨#[]⟩),(.int .i64 0)]) 2 24:=⟨Vg,Vg,O,Vh,Vh⟩
theorem el27:ElemIs prog 27 74 (.agg #[(.string ⟨#[]⟩),(.slice Sl 0 0)]) 2 40:=⟨Vg,Vg,O,Vh,Vh⟩
theorem sz30:bN prog 30 4:=by unfold bN;kernel_rfl
theorem J4:bN prog 32 1:=by unfold bN;kernel_rfl
theorem el34:ElemIs prog 34 38 (.slice Sl 0 0) 1 24:=⟨Vg,Vg,O,Vh,Vh⟩
theorem Pf:bN prog 38 1:=by unfold bN;kernel_rfl
theorem Lo:ElemIs prog 38 41 (.agg #[(.slice Sl 0 0),(.int .i64 0)]) 2 32:=⟨Vg,Vg,O,Vh,Vh⟩
theorem Cr:ElemIs prog 39 9 (.string ⟨#[]⟩) 1 16:=⟨Vg,Vg,O,Vh,Vh⟩
theorem Qw:(prog.info? 39).map (·.zero)=Sh (Sh (.slice Sl 0 0)):=Vg
theorem Kh:bN prog 41 2:=by unfold bN;kernel_rfl
theorem el44:ElemIs prog 44 149 (.agg #[(.int .i64 0),(.string ⟨#[]⟩),(.string ⟨#[]⟩)]) 3 40:=⟨Vg,Vg,O,Vh,Vh⟩
theorem el45:ElemIs prog 45 151 (.agg #[(.int .i64 0),(.string ⟨#[]⟩),(.int .i64 0),(.string ⟨#[]⟩),(.string ⟨#[]⟩)]) 5 64:=⟨Vg,Vg,O,Vh,Vh⟩
theorem L5:bN prog 47 3:=by unfold bN;kernel_rfl
theorem sz49:bN prog 49 4:=by unfold bN;kernel_rfl
theorem sz57:bN prog 57 1:=by unfold bN;kernel_rfl
theorem Ps:bN prog 59 4:=by unfold bN;kernel_rfl
theorem E6:bN prog 74 2:=by unfold bN;kernel_rfl
theorem sz84:bN prog 84 1:=by unfold bN;kernel_rfl
theorem sz97:bN prog 97 4:=by unfold bN;kernel_rfl
theorem A8:bN prog 110 2:=by unfold bN;kernel_rfl
theorem tH:ElemIs prog 112 300 (.int .u64 0) 1 8:=⟨Vg,Vg,O,Vh,Vh⟩
theorem iV:bN prog 114 2:=by unfold bN;kernel_rfl
theorem qd:bN prog 116 4:=by unfold bN;kernel_rfl
theorem l9:(prog.info? 116).map (·.zero)=Sh (Sh (.agg #[(.bool S1),(.slice Sl 0 0),(.bool S1),(.slice Sl 0 0)])):=Vg
theorem j0:bN prog 120 6:=by unfold bN;kernel_rfl
theorem r9:(prog.info? 120).map (·.zero)=Sh (Sh (.agg #[(.bool S1),(.slice Sl 0 0),(.bool S1),(.slice Sl 0 0),(.map Sl),(.map Sl)])):=Vg
theorem FB:bN prog 135 2:=by unfold bN;kernel_rfl
theorem Bg:bN prog 147 2:=by unfold bN;kernel_rfl
theorem PL:bN prog 149 3:=by unfold bN;kernel_rfl
theorem Po:bN prog 151 5:=by unfold bN;kernel_rfl
theorem lZ:bN prog 162 2:=by unfold bN;kernel_rfl
theorem yb:bN prog 164 3:=by unfold bN;kernel_rfl
theorem sz167:bN prog 167 1:=by unfold bN;kernel_rfl
theorem ID:bN prog 206 1:=by unfold bN;kernel_rfl
theorem KW:ElemIs prog 215 4 (.bool S1) 1 1:=⟨Vg,Vg,O,Vh,Vh⟩
theorem QC:bN prog 217 2:=by unfold bN;kernel_rfl
theorem JO:bN prog 222 2:=by unfold bN;kernel_rfl
theorem PX:bN prog 224 7:=by unfold bN;kernel_rfl
theorem H9:bN prog 238 4:=by unfold bN;kernel_rfl
theorem Ot:ElemIs prog 277 5 (.int .u8 0) 1 1:=⟨Vg,Vg,O,Vh,Vh⟩
theorem gJ:bN prog 300 1:=by unfold bN;kernel_rfl
theorem el320:ElemIs prog 320 50 (.int .i64 0) 1 8:=⟨Vg,Vg,O,Vh,Vh⟩
theorem el364:ElemIs prog 364 167 .nilFunc 1 8:=⟨Vg,Vg,O,Vh,Vh⟩
end Go.Proofs.YtoplpepiabedhaaGreatDoor
