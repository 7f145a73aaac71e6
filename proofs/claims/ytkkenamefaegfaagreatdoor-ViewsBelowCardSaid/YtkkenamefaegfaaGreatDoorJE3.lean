/- Lemmas. No condition. -/
import Derived.Lib.ConvBytes
import Derived.Laws.IdiomStrings
import Derived.Laws.BytesArg
import Derived.Test.YtkkenamefaegfaaGreatDoorJE2
set_option maxRecDepth 100000
set_option maxHeartbeats 4000000
open Go.RowKit Go.Proofs.Tryz
open Option renaming some→UF,none→UG
open Bool renaming true→VA,false→VC
namespace Go.Proofs.YtkkenamefaegfaaGreatDoor
variable{T e d src el:TypeId}{x:Operand}{id sz k size bytes j n a t i:Nat}{z u:Value}{C:Ctx}{w:World}{m:Gm}{R:Nat->Prop}{r b:Bool}{c:Code}{P:Program}{f:FuncId}{S is:List Nat}{α:Type}{cl:List (List Nat)}
section
theorem cY{cs:List PV}(h:cs≠[]):(Ob.gro T cs).real=VA:=by
 cases cs with
 |nil=>exact absurd O h
 |cons _ _=>rfl
section
variable {C:Ctx}{n:Nat}{σ:St}{a:Act}{w:World}{m:Gm}{R:Nat->Prop}
theorem SW.gsl(h:SW C n σ a w m R)(q:σ.ev n x= .gsl id sz k):
  ∃A c,a.eval x= .slice A k c/\k<=c/\c<=maxLen/\(k=0->A=UG/\c=0/\m id=UG)/\(0<k->∀b N,m id=UF (b,N)->A=UF ⟨b,0,UG⟩/\N=c*sz):=by
 have:=h.ev x;rw[q]at this;simp only[Rel]at this;exact this.2
end
section
variable {C:Ctx}{n:Nat}{σ:St}{dst:Option Tmp}{ty t t':TypeId}{pos:String}{after:Array Edge}{gd:Option (Nat×Bool)}{x y:Operand}
theorem D7{cs news:List PV}(id':Nat)(D:ElemIs C.P t e z size bytes)(hs:σ.ev n x= .gsl id size k)(ho:σ.ob id=UF (.gro e cs))(H:cs.length=k*size)
  (X:ox n σ y j news) (hl:news.length=j*size) (Y:∀c∈news,c.leaf=VA) (hb:k+j<=1000000000) (hj:0<j) (Z:σ.av id'=VA):
  XJ C n ⟨dst,.call { callee:= .builtin .append,args:= #[x,y],argTypes:= #[t,t] },ty,pos,after,gd⟩ σ ⟨.gsl id' size (k+j),[(id',UF (.gro e (cs++news))),(id,UG)],[id']⟩:=by
 rintro a w Q ⟨m,R,hw⟩;obtain⟨A0,c,hev,hkc,hcm,hz,hp⟩:=hw.gsl hs;obtain⟨A,c2,us,hev2,hr2,hrow⟩:=X.row hw;have L:0<news.length:=by rw[hl];exact W8 hj D.pos
 have J:cs++news≠[]:=λe=>by
  have:=ah List.length e;simp at this;rw[this.2]at L;simp at L
 have G:∀i x,upd m id UG i=UF x->m i=UF x/\i≠id:=λi x e=>by grind[aC,a8]
 rcases UJ k with hk0|hk0
 .subst hk0;obtain⟨rfl,rfl,hmn⟩:=hz O;have M:cs=[]:=T6 (by simpa using H);subst M;refine pV x y t O 0 e z size bytes D.u D.info D.zs D.pos D.by_ _ 0 j c2 A _ us hev hev2 (World.ownsRow_nil w 0 e size) hrow (by rw[hr2.length,hl]) (eU hr2 Y) Xj (aJ _) ?_;intro A' c' w' hown' hgr hat
  simp only[T8,Uv]at hown' hat J ⊢;rcases hown'.2 with⟨hv,h0⟩|⟨g,cap,cur,hv,_,hg,hkc',hcm',hcs',htk⟩
  .omega
  simp only[Value.slice.injEq]at hv;obtain⟨rfl, -,rfl⟩:=hv;have gge:w.heap.size<=g:=by
   rcases hat with h|⟨g',h,hle⟩
   .simp[Value.ownBlock]at h
   simp only[Value.ownBlock,TJ]at h;subst h;exact hle
  refine⟨_,O,upd (upd m id UG) id' (UF (g,cur.size)),R,?_⟩;rw[Ts];refine SW.put ((hw.drop id).fresh Z hg hgr (λq hq=>by simp[Value.ownBlock]at hq) (λh=>by have:=hw.hr.rsz _ h;omega) (λi b N hi e=>by have:=(hw.hr.own i b N (G i _ hi).1).1;omega) (.inr (by have:=hw.hr.frame.size;omega)) (.gro e news) ?_ (cY J)) dst ?_
  .intro m' av' hR _ _;refine⟨cur,hg,O,?_,?_⟩
   .rw[hcs',<-hr2.length,hown'.1];exact UK _ hkc'
   rw[<-hr2.length,hown'.1,htk];exact hr2.mono hR
  simp only[Rel];refine⟨by simp[avL],_,c',O,hkc',hcm',λh=>by omega,λ_ b N e=>?_⟩;rw[aC]at e;cases e;exact⟨O,hcs'⟩
 have hcne:cs≠[]:=λe=>by
  rw[e]at H;have:=W8 hk0 D.pos;simp at H;omega
 obtain⟨b,N,hm,arr,hbk,hsz,hle,hr⟩:=hw.live ho (cY hcne);obtain⟨rfl,hN⟩:=hp hk0 b N hm;have U:w.ownsRow 0 e size (.slice (UF ⟨b,0,UG⟩) k c) k (arr.toList.take (k*size)):=by
  refine⟨?_,.inr ⟨b,c,arr,O,aJ _,hbk,hkc,hcm,by rw[hsz,hN],O⟩⟩;have:=UK size hkc;simp only[TC,Ua];omega
 refine pV x y t O 0 e z size bytes D.u D.info D.zs D.pos D.by_ _ k j c2 A _ us hev hev2 U hrow (by rw[hr2.length,hl]) (eU hr2 Y) hb (aJ _) ?_;intro A' c' w' hown' hgr hat
 have W:=hw.hr.own id b N hm;have I:RelPL w R (cs++news) (arr.toList.take (k*size)++us):=by
  rw[H]at hr;exact hr.append hr2
 have E:¬R b/\(∀i b' N',upd m id UG i=UF (b',N')->b'≠b)/\(C.F b\/C.w0.heap.size<=b):=
  ⟨W.2.1,λi b' N' hi e=>(G i _ hi).2 (FE hw (G i _ hi).1 hm e),W.2.2⟩
 rcases hown'.2 with⟨hv,h0⟩|⟨g,cap,cur,hv,_,hg,hkc',hcm',hcs',htk⟩
 .grind
 simp only[Value.slice.injEq]at hv;obtain⟨rfl, -,rfl⟩:=hv;have B:¬R g/\(∀i b' N',upd m id UG i=UF (b',N')->b'≠g)/\(C.F g\/C.w0.heap.size<=g):=by
  rcases hat with h|⟨g',h,hle⟩
  .simp only[Value.ownBlock,TJ]at h;rw[h];exact E
  simp only[Value.ownBlock,TJ]at h;subst h;refine⟨λh=>?_,λi b' N' hi e=>?_,.inr ?_⟩
  .have:=hw.hr.rsz _ h;omega
  .have:=(hw.hr.own i b' N' (G i _ hi).1).1;omega
  have:=hw.hr.frame.size;omega
 have aa:(arr.toList.take (k*size)++us).length=(k+j)*size:=hown'.1;refine⟨_,O,upd (upd m id UG) id' (UF (g,cur.size)),R,?_⟩;rw[Ts];refine SW.put ((hw.drop id).fresh Z hg hgr (λq hq=>by simp[Value.ownBlock]at hq;subst hq;exact E) B.1 B.2.1 B.2.2 (.gro e (cs++news)) ?_ (cY J)) dst ?_
 .intro m' av' hR _ _;refine⟨cur,hg,O,?_,?_⟩
  .grind
  rw[<-I.length,aa,htk];exact I.mono hR
 simp only[Rel];refine⟨by simp[avL],_,c',O,hkc',hcm',λh=>by omega,λ_ b N e=>?_⟩;rw[aC]at e;cases e;exact⟨O,hcs'⟩
theorem iY{T2:TypeId}{id2:Nat}{cs news:List PV}(id':Nat)(E:ElemIs C.P t e z size bytes)(G:σ.ev n x= .gsl id size k)(H:σ.ob id=UF (.gro e cs))(q:cs.length=k*size)
  (I:σ.ev n y= .osl id2 size 1) (A:σ.ob id2=UF (.cells T2 news)) (L:news.length=size) (B:news.all PV.leaf=VA) (J:k+1<=1000000000) (D:σ.av id'=VA):
  XJ C n ⟨dst,.call { callee:= .builtin .append,args:= #[x,y],argTypes:= #[t,t] },ty,pos,after,gd⟩ σ ⟨.gsl id' size (k+1),[(id',UF (.gro e (cs++news))),(id,UG)],[id']⟩:=
 D7 id' E G H q (.inr ⟨id2,size,T2,news,I,A,by rw[Nat.one_mul,aH Xj]⟩) Xj (by simpa using B) J Xj D
end
def St.gro(σ:St)(t id sz:Nat)(T:TypeId):St:=⟨upd σ.sl t (.gsl id sz 0),obL [(id,UF (.gro T []))] σ.ob,avL [id] σ.av⟩
theorem SW.gro0{σ:St}{a:Act}(q:SW C n σ a w m R)(G:σ.av id=VA)(T:TypeId):SW C n ⟨σ.sl,obL [(id,UF (.gro T []))] σ.ob,avL [id] σ.av⟩ a w m R/\m id=UG:=by
 have A:∀i,i≠id->obL [(id,UF (.gro T []))] σ.ob i=σ.ob i:=λi hi=>by grind[Nat.beq,cd,obL]
 have D:obL [(id,UF (.gro T []))] σ.ob id=UF (.gro T []):=by simp[obL]
 have B:m id=UG:=by
  have:=q.hr.dom id;rw[q.hr.free id G]at this;simpa[cL]using this
 have E:∀i,σ.av i=VC->avL [id] σ.av i=VC:=λi hi=>by grind[avL,Nat.beq]
 refine⟨q.world ⟨?_,?_,?_,q.hr.inj,q.hr.own,q.hr.rsz,q.hr.rfr,q.hr.r0,q.hr.frame,q.hr.j4,λi hi=>E i (q.hr.res i hi)⟩ (λb hb=>⟨hb,O⟩) (λ_ _ _ e=>e) E,B⟩
 .intro i;by_cases e:i=id
  .subst e;rw[D,B];rfl
  rw[A i e];exact q.hr.dom i
 .intro i hi;simp only[avL]at hi;cases hb:Nat.beq i id with
  |true=>rw[hb]at hi;simp at hi
  | false=>
    rw[hb]at hi;have e:i≠id:=λe=>by subst e;simp at hb
    rw[A i e];exact q.hr.free i (by simpa using hi)
 .intro i o b N h1 h2;by_cases e:i=id
  .subst e;rw[B]at h2;cases h2
  rw[A i e]at h1;exact(q.hr.obj i o b N h1 h2).mono (λb hb=>⟨hb,O⟩) (λ_ _ _ e=>e) E O
theorem zc{av:Av}(h:RelP w R (.sl (UF VA) 0 []) u)(q:m id=UG)(A:av id=VC):Rel w m av R (.gsl id sz 0) u:=by simp_all[RelP,Rel,aJ,Nat.lt_irrefl]
theorem Tp{σ:St}(t id sz:Nat)(T:TypeId)(D:σ.sl t= .pv (.sl (UF VA) 0 []))(B:σ.av id=VA):σ.le (σ.gro t id sz T):=by
 rintro C n a w ⟨m,R,hw⟩;obtain⟨h,hmn⟩:=hw.gro0 B T;refine⟨m,R,h.hr,h.df,h.sz,λq hq=>?_⟩;show Rel w m (avL [id] σ.av) R (upd σ.sl t (.gsl id sz 0) q) _;by_cases e:q=t
 .subst e;rw[aC];have A:=hw.sl q hq;rw[D]at A;simp only[Rel]at A;exact zc A hmn (by simp[avL])
 rw[a8 _ _ e];exact h.sl q hq
def St.groC(σ:St)(pid j id sz:Nat)(T T':TypeId)(cs:List V):St:=⟨σ.sl,obL [(pid,UF (.mix T' (cs.set j (.gsl id sz 0)))),(id,UF (.gro T []))] σ.ob,avL [id] σ.av⟩
theorem St.da{σ:St}{T':TypeId}{cs:List V}(pid j id sz:Nat)(T:TypeId)(G:σ.ob pid=UF (.mix T' cs))(J:cs[j]? =UF (.pv (.sl (UF VA) 0 [])))(E:σ.av id=VA):σ.le (σ.groC pid j id sz T T' cs):=by
 rintro C n a w ⟨m,R,hw⟩;obtain⟨h,hmn⟩:=hw.gro0 E T;have H:pid≠id:=λe=>by rw[e,hw.hr.free id E]at G;cases G
 have A:obL [(id,UF (.gro T []))] σ.ob pid=UF (.mix T' cs):=by grind[Nat.beq,cd,obL]
 have B:∀i,i≠pid->obL [(pid,UF (.mix T' (cs.set j (.gsl id sz 0)))),(id,UF (.gro T []))] σ.ob i=obL [(id,UF (.gro T []))] σ.ob i:=λi hi=>by grind[Nat.beq,cd,obL]
 have D:obL [(pid,UF (.mix T' (cs.set j (.gsl id sz 0)))),(id,UF (.gro T []))] σ.ob pid=UF (.mix T' (cs.set j (.gsl id sz 0))):=by simp[obL]
 refine⟨m,R,⟨?_,?_,?_,h.hr.inj,h.hr.own,h.hr.rsz,h.hr.rfr,h.hr.r0,h.hr.frame,h.hr.j4,h.hr.res⟩,h.df,h.sz,h.sl⟩
 .intro i;show(m i).isSome=cL (obL _ σ.ob i);by_cases e:i=pid
  .subst e;rw[D,h.hr.dom];show cL (obL [(id,UF (.gro T []))] σ.ob i)=_;rw[A];rfl
  rw[B i e];exact h.hr.dom i
 .intro i hi;show obL _ σ.ob i=UG;by_cases e:i=pid
  .subst e;have:=A.symm.trans (h.hr.free i hi);cases this
  rw[B i e];exact h.hr.free i hi
 .intro i o b N h1 h2;have q:obL [(pid,UF (.mix T' (cs.set j (.gsl id sz 0)))),(id,UF (.gro T []))] σ.ob i=UF o:=h1;by_cases e:i=pid
  .subst e;rw[D]at q;cases q;obtain⟨arr,q1,q2,q3,q4⟩:=h.hr.obj i _ b N A h2;refine⟨arr,q1,q2,by simpa using q3,?_⟩;obtain⟨u,hu,hr⟩:=q4.get J;simp only[TQ];have:=q4.set j (p:= .gsl id sz 0) (u:=u) (zc (by simpa only[Rel]using hr) hmn (by simp[avL]));have I:(arr.toList.take cs.length).set j u=arr.toList.take cs.length:=by
    obtain⟨hlt,e3⟩:=TE.1 hu;rw[<-e3];exact List.set_getElem_self hlt
   rw[I]at this;exact this
  rw[B i e]at q;exact h.hr.obj i o b N q h2
mutual
def V.pubV(id:Nat)(r:Bool)(cs:List PV):V->V
 | .osl i sz k=>bif Nat.beq i id then .pv (bif r then .sl (UF VC) k cs else .any)else .osl i sz k
 | .tsl i sz k=>bif Nat.beq i id then .pv .any else .tsl i sz k
 | .gsl i sz k=>bif Nat.beq i id then .pv (.sl UG k cs)else .gsl i sz k
 | .agg vs=> .agg (V.pubL id r cs vs)
 | .tup vs=> .tup (V.pubL id r cs vs)
 | .fn f a b=> .fn f (V.pubL id r cs a) (V.pubL id r cs b)
 | .pv p=> .pv p
 | .ptr i o=> .ptr i o
 | .map i=> .map i
def V.pubL(id:Nat)(r:Bool)(cs:List PV):List V->List V
 |[]=>[]
 |v::vs=>V.pubV id r cs v::V.pubL id r cs vs
end
def Ob.LZ(id:Nat)(r:Bool)(cs:List PV):Ob->Ob
 | .cells t c=> .cells t c
 | .gro t c=> .gro t c
 | .mp ks vs=> .mp ks vs
 | .it s p=> .it s p
 | .fro s p=> .fro s p
 | .mi c ks vs=> .mi c ks vs
 | .mix t vs=> .mix t (V.pubL id r cs vs)
theorem Ob.EW(id:Nat)(r:Bool)(cs:List PV):∀o:Ob,(o.LZ id r cs).real=o.real
 | .cells _ _=>rfl
 | .mix _ _=>rfl
 | .gro _ []=>rfl
 | .gro _ (_::_)=>rfl
 | .mp _ _=>rfl
 | .it _ _=>rfl
 | .fro _ _=>rfl
 | .mi _ _ _=>rfl
theorem Fh(id:Nat)(r:Bool)(cs:List PV):∀o:Option Ob,cL (o.map (Ob.LZ id r cs))=cL o
 |none=>rfl
 |some o=>Ob.EW id r cs o
def St.Rf(σ:St)(id:Nat)(r:Bool)(cs:List PV):St:=⟨λt=>V.pubV id r cs (σ.sl t),λi=>bif Nat.beq i id then UG else(σ.ob i).map (Ob.LZ id r cs),σ.av⟩
section
variable {w:World}{m m':Gm}{av:Av}{R R':Nat->Prop}
theorem lD(id:Nat)(r:Bool)(cs:List PV):∀vs:List V,(V.pubL id r cs vs).length=vs.length
 |[]=>rfl
 |_::vs=>by simp[V.pubL,lD id r cs vs]
mutual
theorem Rel.pubV{cs:List PV}(q:∀b,R b->R' b/\w.heap[b]? =w.heap[b]?)(A:∀i x,m' i=UF x->m i=UF x)
  (B:r=VA->∀sz k u,Rel w m av R (.osl id sz k) u->RelP w R' (.sl (UF VC) k cs) u) (D:∀sz k u,Rel w m av R (.gsl id sz k) u->RelP w R' (.sl UG k cs) u):
  ∀(v:V)(u:Value),Rel w m av R v u->Rel w m' av R' (V.pubV id r cs v) u
 | .osl i sz k,u,h=>by
   simp only[V.pubV];cases hb:Nat.beq i id with
   | true=>
     have:=cd hb;subst this;simp only[U3,Rel];cases r with
     |true=>exact B O sz k u h
     |false=>simp only[Ue,RelP]
   |false=>simp only[Ue];exact h.mono q (λi x _ e=>A i x e) (λ_ e=>e)
 | .gsl i sz k,u,h=>by
   simp only[V.pubV];cases hb:Nat.beq i id with
   |true=>have:=cd hb;subst this;simp only[U3,Rel];exact D sz k u h
   |false=>simp only[Ue];exact h.mono q (λi x _ e=>A i x e) (λ_ e=>e)
 | .tsl i sz k,u,h=>by
   simp only[V.pubV];cases hb:Nat.beq i id with
   |true=>simp only[U3,Rel,RelP]
   |false=>simp only[Ue];exact h.mono q (λi x _ e=>A i x e) (λ_ e=>e)
 | .agg vs,u,h=>by
   simp only[Rel,V.pubV]at h ⊢;obtain⟨us,e,h⟩:=h;exact⟨us,e,RelL.pubL q A B D vs us h⟩
 | .tup vs,u,h=>by
   simp only[Rel,V.pubV]at h ⊢;obtain⟨us,e,h⟩:=h;exact⟨us,e,RelL.pubL q A B D vs us h⟩
 | .fn f a b,u,h=>by
   simp only[Rel,V.pubV]at h ⊢;obtain⟨us,vs,e,ha,hb⟩:=h;exact⟨us,vs,e,RelL.pubL q A B D a us ha,RelL.pubL q A B D b vs hb⟩
 | .pv p,u,h=>by simp only[V.pubV];exact h.mono q (λi x _ e=>A i x e) (λ_ e=>e)
 | .ptr i o,u,h=>by simp only[V.pubV];exact h.mono q (λi x _ e=>A i x e) (λ_ e=>e)
 | .map i,u,h=>by simp only[V.pubV];exact h.mono q (λi x _ e=>A i x e) (λ_ e=>e)
theorem RelL.pubL{cs:List PV}(q:∀b,R b->R' b/\w.heap[b]? =w.heap[b]?)(A:∀i x,m' i=UF x->m i=UF x)
  (B:r=VA->∀sz k u,Rel w m av R (.osl id sz k) u->RelP w R' (.sl (UF VC) k cs) u) (D:∀sz k u,Rel w m av R (.gsl id sz k) u->RelP w R' (.sl UG k cs) u):
  ∀(vs:List V)(us:List Value),RelL w m av R vs us->RelL w m' av R' (V.pubL id r cs vs) us
 |[],_,h=>by simpa only[RelL,V.pubL]using h
 | c::vs,_,h=>by
   simp only[RelL,V.pubL]at h ⊢;obtain⟨u,us,e,ha,hb⟩:=h;exact⟨u,us,e,Rel.pubV q A B D c u ha,RelL.pubL q A B D vs us hb⟩
end
end
def Ob.plain:Ob->Option (Bool×List PV)
 | .cells _ cs=>UF (VA,cs)
 | .gro _ cs=>UF (VC,cs)
 | .mp _ _=>UG
 | .it _ _=>UG
 | .fro _ _=>UG
 | .mi _ _ _=>UG
 | .mix _ _=>UG
theorem Tn{σ:St}{o:Ob}{cs:List PV}(id:Nat)(ho:σ.ob id=UF o)(hc:o.plain=UF (r,cs)):σ.le (σ.Rf id r cs):=by
 rintro C n a w ⟨m,R,hw⟩;have U:=hw.drop id;have B:∀i x,upd m id UG i=UF x->m i=UF x/\i≠id:=λi x e=>by grind[aC,a8]
 let R':Nat->Prop:=λq=>R q\/∃N,m id=UF (q,N)
 have G:∀b,R b->R' b/\w.heap[b]? =w.heap[b]? :=λb hb=>⟨.inl hb,O⟩
 have D:∀b N,m id=UF (b,N)->∃us,RelPL w R' cs us/\tB w R' b 0 us:=by
  intro b N hm;have E:=hw.hr.obj id o b N ho hm;have J:∀T (arr:Array Value),w.heap[b]? =UF (.cells arr T (0,0))->RelPL w R cs (arr.toList.take cs.length)->∃us,RelPL w R' cs us/\tB w R' b 0 us:=by
   intro T arr hb hr;refine⟨_,hr.mono G,.inr ⟨N,hm⟩,?_⟩;intro j hj;simp only[TC]at hj;rw[T8,cell_of_row w b j arr T (0,0) hb,TS,By Xj];simp
  cases o with
  |cells T c=>simp only[Ob.plain,TJ,Prod.mk.injEq]at hc;obtain⟨_,rfl⟩:=hc;obtain⟨arr,q1,_,_,q4⟩:=E;exact J T arr q1 q4
  |gro T c=>simp only[Ob.plain,TJ,Prod.mk.injEq]at hc;obtain⟨_,rfl⟩:=hc;obtain⟨arr,q1,_,_,q4⟩:=E;exact J T arr q1 q4
  |mix T c=>simp[Ob.plain]at hc
  |mp ks vs=>simp[Ob.plain]at hc
  |it s p=>simp[Ob.plain]at hc
  |fro s p=>simp[Ob.plain]at hc
  |mi c ks vs=>simp[Ob.plain]at hc
 have L:(m id).isSome=VA\/(r=VC/\cs=[]):=by
  rw[hw.hr.dom,ho];cases o with
  |cells T c=>exact .inl O
  | gro T c=>
    simp only[Ob.plain,TJ,Prod.mk.injEq]at hc;obtain⟨rfl,rfl⟩:=hc;cases c with
    |nil=>exact .inr ⟨O,O⟩
    |cons _ _=>exact .inl O
  |mix T c=>simp[Ob.plain]at hc
  |mp ks vs=>simp[Ob.plain]at hc
  |it s p=>simp[Ob.plain]at hc
  |fro s p=>simp[Ob.plain]at hc
  |mi c ks vs=>simp[Ob.plain]at hc
 have Y:r=VA->∀sz k u,Rel w m σ.av R (.osl id sz k) u->RelP w R' (.sl (UF VC) k cs) u:=by
  intro hr' sz k u h;obtain⟨⟨b,N⟩,hm⟩:∃x,m id=UF x:=by
   rcases L with h|h
   .exact T7.1 h
   rw[hr']at h;cases h.1
  simp only[Rel]at h;obtain⟨c,he,h1,h2,_⟩:=h.2 b N hm;obtain⟨us,hr,hsh⟩:=D b N hm;simp only[RelP];exact⟨_,c,he,h1,h2,(λ_ e=>by cases e;rfl),(λe=>by cases e),λ_=>⟨b,0,us,rfl,hr,hsh⟩⟩
 have Z:∀sz k u,Rel w m σ.av R (.gsl id sz k) u->RelP w R' (.sl UG k cs) u:=by
  intro sz k u h;simp only[Rel]at h;obtain⟨h0,A,c,he,h1,h2,h3,h4⟩:=h;simp only[RelP];refine⟨_,c,he,h1,h2,(λ_ e=>by cases e),(λe=>by cases e),λX=>?_⟩;obtain⟨⟨b,N⟩,hm⟩:∃x,m id=UF x:=by
   rcases L with h|h
   .exact T7.1 h
   exact absurd h.2 X
  have hk:0<k:=by grind
  obtain⟨us,hr,hsh⟩:=D b N hm;exact⟨b,0,us,(h4 hk b N hm).1,hr,hsh⟩
 have H:∀i x,upd m id UG i=UF x->m i=UF x:=λi x e=>(B i x e).1
 have W:∀i,(σ.Rf id r cs).ob i=bif Nat.beq i id then UG else(σ.ob i).map (Ob.LZ id r cs):=λ_=>rfl
 have M:(σ.Rf id r cs).ob id=UG:=by rw[W];simp
 have I:∀i,i≠id->(σ.Rf id r cs).ob i=(σ.ob i).map (Ob.LZ id r cs):=λi hi=>by grind[Nat.beq,cd]
 refine⟨upd m id UG,R',⟨?_,?_,?_,U.hr.inj,?_,?_,?_,λq hq=> .inl (hw.hr.r0 q hq),hw.hr.frame,U.hr.j4,U.hr.res⟩,hw.df,hw.sz,?_⟩
 .intro i;by_cases e:i=id
  .subst e;rw[aC,M];rfl
  rw[a8 _ _ e,I i e,Fh];exact hw.hr.dom i
 .intro i hi;by_cases e:i=id
  .subst e;exact M
  rw[I i e,hw.hr.free i hi];rfl
 .intro i o' b N h1 h2;obtain⟨h2',e⟩:=B i _ h2;rw[I i e]at h1;cases ho':σ.ob i with
  |none=>rw[ho']at h1;cases h1
  | some o2=>
    rw[ho']at h1;simp only[Vu,TJ]at h1;subst h1;have E:=hw.hr.obj i o2 b N ho' h2';cases o2 with
    |cells T c=>obtain⟨arr,q1,q2,q3,q4⟩:=E;exact⟨arr,q1,q2,q3,q4.mono G⟩
    |gro T c=>obtain⟨arr,q1,q2,q3,q4⟩:=E;exact⟨arr,q1,q2,q3,q4.mono G⟩
    |mp ks vs=>obtain⟨es,clock,q1,q2,q3,q4⟩:=E;exact⟨es,clock,q1,q2.mono G,q3.mono G,q4⟩
    |it s p=>exact E
    |fro s p=>exact E
    |mi c ks vs=>exact wx.mono G O E
    | mix T c=>
      obtain⟨arr,q1,q2,q3,q4⟩:=E;refine⟨arr,q1,q2,by rw[lD];exact q3,?_⟩;rw[lD];exact q4.pubL G H Y Z
 .intro i b N h1;obtain⟨h2,h3,h4⟩:=hw.hr.own i b N (B i _ h1).1;refine⟨h2,?_,h4⟩;rintro(h5|⟨N',h5⟩)
  .exact h3 h5
  exact(B i _ h1).2 (hw.hr.inj i id b N N' (B i _ h1).1 h5)
 .rintro q (hq|⟨N,hq⟩)
  .exact hw.hr.rsz q hq
  exact(hw.hr.own id q N hq).1
 .rintro q (hq|⟨N,hq⟩)
  .exact hw.hr.rfr q hq
  rcases(hw.hr.own id q N hq).2.2 with h|h
  .exact .inr (.inr h)
  exact .inr (.inl h)
 .intro t ht;exact(hw.sl t ht).pubV G H Y Z
theorem St.le.trans{σ τ υ:St}(h:σ.le τ)(k:τ.le υ):σ.le υ:=λC n a w hs=>k C n a w (h C n a w hs)
def midQ{X:Type}(st:X->St)(I:X->Prop)(Q:Exit->St->Prop):Exit->St->Prop
 | .normal,σ=>∃x,σ.le (st x)/\I x
 |e,σ=>Q e σ
theorem AW.cut{X:Type}{Q:Exit->St->Prop}{σ:St}{d:Code}(st:X->St)(I:X->Prop)(h:AW C n c (midQ st I Q) σ)(k:∀x,I x->AW C n d Q (st x)):AW C n (.seq c d) Q σ:=by
 refine Tv (h.mono ?_);intro e s hq;cases e with
 | normal=>
   obtain⟨x,hle,hi⟩:=hq;exact Tj hle (k x hi)
 |_=>exact hq
end
def retMC(n t k:Nat)(T:TypeId)(Q:PV->List PV->Prop):Exit->St->Prop
 | .ret,σ| .normal,σ=>∃id T2 ps cs',σ.ev n (.tmp t)= .ptr id 0/\Nat.blt id big=VA/\σ.ob id=UF (.mix T2 (ps.map .pv))/\ps.length=k/\σ.ob big=UF (.mix T (cs'.map .pv))/\Q (.agg ps) cs'
 |_,_=>False
theorem FnM.ofC{fn:Func}{rt:TypeId}{cs args:List PV}{Q:PV->List PV->Prop}(W:P.funcs[f]? =UF fn)(A:fn.body=UF c)(X:fn.ntmps=n)(H:args.length+1<=n)(q:fn.results.toList=[.cell t rt])(Y:t<n)(G:isRow P rt)(I:bT P rt k)
  (h:∀m0 w0 F R0,AW ⟨P,m0,w0,F,R0⟩ n c (retMC n t k T Q) (mkS ((0,.ptr big 0)::eG 1 (args.map .pv)) [(big,.mix T (cs.map .pv))] 0)):FnM P f T cs args Q:=by
 have L:FnO P f 1 0 (.ptr big 0::args.map .pv) [(big,.mix T (cs.map .pv))] λv ob'=>∃ps cs',v= .agg (ps.map .pv)/\ob'=aB [(big,.mix T (cs'.map .pv))]/\Q (.agg ps) cs':=by
  refine FnO.ofC W A X (by simpa using H) λm0 w0 F R0=>?_
  refine(h m0 w0 F R0).mono ?_;have B:Nat.blt t n=VA:=by simpa[VG]using Y
  have D:∀s:St,(∃id T2 ps cs',s.ev n (.tmp t)= .ptr id 0/\Nat.blt id big=VA/\s.ob id=UF (.mix T2 (ps.map .pv))/\ps.length=k/\s.ob big=UF (.mix T (cs'.map .pv))/\Q (.agg ps) cs')->
    ∃l os' vs os2 k2,s.le (mkS l os' k2)/\yz n (mkS l os' k2) fn.results.toList=UF vs/\kU P n (mkS l os' k2) fn.results.toList/\V.allL (okR 1 0) vs=VA/\os2.all (λp=>okR 1 0 p.1&&p.2.all (okR 1 0))=VA/\
     (∀i o,aB os2 i=UF o->aB os' i=UF o)/\0<=k2/\∃ps cs',eH vs= .agg (ps.map .pv)/\aB os2=aB [(big,.mix T (cs'.map .pv))]/\Q (.agg ps) cs':=by
   rintro s ⟨id,T2,ps,cs',h1,h2,h3,h4,h5,h6⟩;simp only[St.ev,B,U3]at h1;have M:id<big:=by simpa[VG]using h2
   have U:Nat.beq id big=VC:=by cases A:Nat.beq id big;rfl;have:=cd A;omega
   have J:(mkS [(t,.ptr id 0)] [(big,.mix T (cs'.map .pv)),(id,.mix T2 (ps.map .pv))] (id+1)).ev n (.tmp t)= .ptr id 0:=by
    simp only[St.ev,B,U3,mkS,look,Nat.beq_refl]
   have ob:(mkS [(t,.ptr id 0)] [(big,.mix T (cs'.map .pv)),(id,.mix T2 (ps.map .pv))] (id+1)).ob id=UF (.mix T2 (ps.map .pv)):=by
    simp only[mkS,aB,U,Ue,Nat.beq_refl,U3]
   have E:Nat.blt id (id+1)=VA:=by simp[VG]
   refine⟨[(t,.ptr id 0)],[(big,.mix T (cs'.map .pv)),(id,.mix T2 (ps.map .pv))],[.agg (ps.map .pv)],[(big,.mix T (cs'.map .pv))],id+1,Tk ⟨h1,Xq⟩ ⟨h5,h3,Xq⟩ ?_ ?_,?_,?_,?_,?_,?_,aJ _,ps,cs',O,O,h6⟩
   .simp only[VL,Xh,V.okA,E];rfl
   .simp only[VL,Xh,Wh,Ob.okA,Jb,E];simp
   .rw[q];simp only[yz,J,ob]
   .rw[q];exact⟨ax G I J ob (by simpa using h4),Xq⟩
   .simp only[V.allL,V.all,oh];rfl
   .simp only[VL,Xh,Wh,Ob.all,oh];rfl
   .intro i o hi;simp only[aB]at hi ⊢;cases A:Nat.beq i big with
    |true=>rw[A]at hi;simpa using hi
    |false=>rw[A]at hi;simp at hi
  intro ex s hq;cases ex with
  |normal=>exact D s hq
  |ret=>exact D s hq
  |_=>exact hq.elim
 intro w m R us h1 h2;refine(L w m R us h1 h2).mono ?_;rintro e w' ⟨u,v,ob',m',R',rfl,⟨ps,cs',rfl,rfl,hq⟩,h3,h4,h5,h6⟩;refine⟨u,.pv (.agg ps),_,m',R',O,⟨_,cs',O,O,hq⟩,O,h4,h5,?_⟩;simp only[Rel,RelP]at h6 ⊢;obtain⟨us,e,hr⟩:=h6;exact⟨us,e,hr.toP⟩
section
def aI(l:List UInt8):List PV:=l.map λb=> .int .u8 (b.toNat:Int)
theorem p8:∀{l:List UInt8}{us:List Value},RelPL w R (aI l) us->us=l.map λb=>Value.int .u8 (b.toNat:Int)
 |[],us,h=>by simpa[aI,RelPL]using h
 | b::l,us,h=>by
   simp only[aI,cu,RelPL]at h;obtain⟨u,vs,rfl,h1,h2⟩:=h;simp only[RelP]at h1;rw[h1,p8 (l:=l) h2];rfl
section
variable {C:Ctx}{n:Nat}{σ:St}{dst:Option Tmp}{ty t t':TypeId}{pos:String}{after:Array Edge}{gd:Option (Nat×Bool)}{x y:Operand}
theorem HQ(l:List UInt8)(D:C.P.underlying src=UF (.slice e))(E:C.P.underlying e=UF (.int .u8))(G:C.P.underlying d=UF .string)(H:ox n σ x l.length (aI l)):
  XJ C n ⟨dst,.convert src d x,ty,pos,after,gd⟩ σ ⟨.pv (.str ⟨l.toArray⟩),[],[]⟩:=
 .val λa w m R hw=>⟨.string ⟨l.toArray⟩,by
  obtain⟨A,c,us,hev,hr,hrow⟩:=H.row hw;have q:=p8 hr;have B:(convert src d (.slice A l.length c)).run C.P w= .ok (.string ⟨l.toArray⟩) w:=by
   by_cases hne:l=[]
   .subst hne;cases A with
    |none=>exact run_convert_bytes_nil (P:=C.P) w src e D E 0 c d G
    |some a=>exact run_convert_bytes_back (P:=C.P) w src d e a c [] D E G (λj hj=>by simp at hj)
   obtain⟨b,off,rfl,_,_,hc⟩:=hrow (by rw[q];simpa using hne);refine run_convert_bytes_back (P:=C.P) w src d e _ c l D E G (λj hj=>?_);have:=hc j (by rw[q];simpa using hj);rw[q]at this;have e:(⟨b,off,UG⟩:Addr).add j=⟨b,off+j,UG⟩:=by
    unfold Addr.add;split
    .subst_vars;simp
    .rfl
   rw[e,this];simp[hj]
  simp only[execOp,hev,Sem.run_bind,B,Result.andThen_ok];rfl,by simp only[Rel,RelP]⟩
theorem Ta{s:ByteArray}{u:TypeDesc}(H:C.P.underlying src=UF u)(I:C.P.underlying d=UF (.slice e))(J:C.P.underlying e=UF (.int .u8))(L:σ.ev n x= .pv (.str s))(M:s.size<=9223372036854775807):
  XJ C n ⟨dst,.convert src d x,ty,pos,after,gd⟩ σ ⟨.pv (.sl (UF VC) s.size (aI s.data.toList)),[],[]⟩:=by
 rintro a w Q ⟨m,R,hw⟩;have A:(execOp a.eval ⟨dst,.convert src d x,ty,pos,after,gd⟩).run C.P w= .ok (.value (.slice (UF ⟨w.heap.size,0,UG⟩) s.size (grownCap w s.size 0 e))) (Lib.bytesWorld w e s):=by
  simp only[execOp,hw.str L,Sem.run_bind,Lib.run_convert_string_bytes (P:=C.P) w src d e s H I J,Result.andThen_ok];rfl
 unfold Oper.wp;rw[A];have q:=Lib.bytesWorld_at_old w e s;have G:=Lib.bytesWorld_size w e s;have E:∀b,R b->(R b\/b=w.heap.size)/\(Lib.bytesWorld w e s).heap[b]? =w.heap[b]? :=λb hb=>⟨.inl hb,q b (hw.hr.rsz b hb)⟩
 refine⟨_,O,m,λb=>R b\/b=w.heap.size,?_⟩;rw[Ts];refine SW.put (hw.world (ob':=obL [] σ.ob) (av':=avL [] σ.av) ⟨hw.hr.dom,hw.hr.free,?_,hw.hr.inj,?_,?_,?_,λb hb=> .inl (hw.hr.r0 b hb),?_,hw.hr.j4,hw.hr.res⟩ E (λ_ _ _ e=>e) (λ_ e=>e)) dst ?_
 .intro i o b N h1 h2;exact(hw.hr.obj i o b N h1 h2).mono E (λ_ _ _ e=>e) (λ_ e=>e) (q b (hw.hr.own i b N h2).1)
 .intro i b N h1;obtain⟨h2,h3,h4⟩:=hw.hr.own i b N h1;refine⟨Xj,?_,h4⟩;rintro(h5|h5)
  .exact h3 h5
  omega
 .rintro b (hb|hb)
  .have:=hw.hr.rsz b hb;omega
  omega
 .rintro b (hb|hb)
  .exact hw.hr.rfr b hb
  refine .inr (.inl ?_);have:=hw.hr.frame.size;omega
 .refine⟨hw.hr.frame.os,hw.hr.frame.tape,hw.hr.frame.output,?_,?_⟩
  .have:=hw.hr.frame.size;omega
  .intro k hk hF;rw[q k (by have:=hw.hr.frame.size;omega)];exact hw.hr.frame.block k hk hF
 simp only[Rel,RelP];have B:=grownCap_ge w s.size 0 e;refine⟨_,_,O,?_,?_,(λ_ e=>by cases e;rfl),(λe=>by cases e),λ_=>⟨w.heap.size,0,s.data.toList.map (λb=>Value.int .u8 (b.toNat:Int)),rfl,?_,.inr rfl,?_⟩⟩
 .exact B
 .exact grownCap_le_maxLen w s.size 0 e (by simp only[maxLen];omega)
 .generalize s.data.toList=l;induction l with
  |nil=>exact RelPL.nil
  |cons b l ih=>exact RelPL.cons (by simp only[RelP]) ih
 .intro j hj;have D:j<s.size:=by simpa using hj
  rw[T8,Lib.bytesWorld_cell w e s j D];simp[List.getD,D]
theorem au{zs:List PV}{parts:Array (Nat×Operand)}{cs:List PV}(nf:Option Bool)(aa:nf≠UF VA)(G:ElemIs C.P T e z size bytes)(J:z.cells.toList.map gB=zs)(hk:0<k)(hk2:k*size<=16777216)
  {vs:List V} (hf:fH (λi=>UF (i*size,size)) σ.ob ((mkZ zs (k*size)).map .pv) (parts.toList.map λp=>(p.1,σ.ev n p.2))=UF vs) (hvs:V.pvs vs=UF cs):
  XJ C n ⟨dst,.buildSlice T k parts,ty,pos,after,gd⟩ σ ⟨.pv (.sl nf k cs),[],[]⟩:=by
 rintro a w Q ⟨m,R,hw⟩;obtain rfl:=V.wu hvs;obtain⟨i,hi,hz,hsize,hbytes⟩:=info_parts G.info;have W:zs.length=z.cells.size:=by rw[<-J];simp
 have X:∀l:List Nat,RelPL w R (l.map λi=>zs.getD (i%zs.length) .any) (l.map λi=>z.cells[i%z.cells.size]!):=by
  intro l;induction l with
  |nil=>simpa using RelPL.nil
  | cons j l ih=>
    simp only[cu];refine RelPL.cons ?_ ih;have D:0<z.cells.size:=by rw[G.zs];exact G.pos
    have Y:j%z.cells.size<z.cells.size:=UH _ D;rw[W,<-J];have e1:(z.cells.toList.map gB).getD (j%z.cells.size) .any=gB (z.cells[j%z.cells.size]!):=by
     simp[TO,Y]
    rw[e1];exact gh w R _
 have h0:RelPL w R (mkZ zs (k*size)) ((Array.range (k*size)).map (z.cells[· %z.cells.size]!)).toList:=by
  have:=X (List.range (k*size));simpa[mkZ]using this
 obtain⟨arr',hfill,hr'⟩:=hw.fill (λi=>UF (i*size,size)) parts.toList _ _ _ (RelL.ofP h0) hf;have H:=hr'.toP;have B:(parts.map λx=>(x.1,a.eval x.2)).toList=parts.toList.map λp=>(p.1,a.eval p.2):=Xn
 have D:0<k*size:=W8 hk G.pos;have I:=run_buildSlice (P:=C.P) w T e k (parts.map λx=>(x.1,a.eval x.2)) arr' i z G.u hi hz (by rw[hsize];omega) (by rw[hsize];omega) (by rw[B,hsize];exact hfill);have hcl:cs.length=k*size:=by
  have:∀(l:List (Nat×V))(cells cs':List V),fH (λi=>UF (i*size,size)) σ.ob cells l=UF cs'->cs'.length=cells.length:=by
   intro l;induction l with
   |nil=>intro cells cs' h;simp only[fH,TJ]at h;rw[h]
   | cons p l ih=>
     obtain⟨q,v⟩:=p;intro cells cs' h;simp only[fH]at h;rw[Bool.cond_eq_ite]at h;split at h
     .rename_i hc;simp only[du]at hc;rw[ih _ _ h,bS];have L:=cd hc.1.1.1;have M:=TV hc.1.1.2;omega
     cases h
  have:=this _ _ _ hf;simpa[mkZ]using this
 have E:(execOp a.eval ⟨dst,.buildSlice T k parts,ty,pos,after,gd⟩).run C.P w= .ok (.value (.slice (UF ⟨w.heap.size,0,UG⟩) k k)) (w.alloc (.cells arr' e)):=by
  simp only[execOp,Sem.run_bind,I,Result.andThen_ok,Sem.run_pure]
 unfold Oper.wp;rw[E];have hsz:arr'.size=k*size:=by have:=H.length;simp at this;omega
 have A:∀q,q<w.heap.size->(w.alloc (.cells arr' e)).heap[q]? =w.heap[q]? :=λq hq=>Below.heap_alloc w _ q hq
 have U:(w.alloc (.cells arr' e)).heap.size=w.heap.size+1:=Xn;have Z:∀b,R b->(R b\/b=w.heap.size)/\(w.alloc (.cells arr' e)).heap[b]? =w.heap[b]? :=λb hb=>⟨.inl hb,A b (hw.hr.rsz b hb)⟩
 refine⟨_,O,m,λb=>R b\/b=w.heap.size,?_⟩;rw[Ts];refine SW.put (hw.world (ob':=obL [] σ.ob) (av':=avL [] σ.av) ⟨hw.hr.dom,hw.hr.free,?_,hw.hr.inj,?_,?_,?_,λb hb=> .inl (hw.hr.r0 b hb),?_,hw.hr.j4,hw.hr.res⟩ Z (λ_ _ _ e=>e) (λ_ e=>e)) dst ?_
 .intro i o b N L M;exact(hw.hr.obj i o b N L M).mono Z (λ_ _ _ e=>e) (λ_ e=>e) (A b (hw.hr.own i b N M).1)
 .intro i b N L;obtain⟨M,h3,h4⟩:=hw.hr.own i b N L;refine⟨Xj,?_,h4⟩;rintro(h5|h5)
  .exact h3 h5
  omega
 .rintro b (hb|hb)
  .have:=hw.hr.rsz b hb;omega
  omega
 .rintro b (hb|hb)
  .exact hw.hr.rfr b hb
  refine .inr (.inl ?_);have:=hw.hr.frame.size;omega
 .refine⟨hw.hr.frame.os,hw.hr.frame.tape,hw.hr.frame.output,?_,?_⟩
  .have:=hw.hr.frame.size;omega
  .intro k hk hF;rw[A k (by have:=hw.hr.frame.size;omega)];exact hw.hr.frame.block k hk hF
 simp only[Rel,RelP];have hkk:k<=k*size:=Nat.le_mul_of_pos_right k G.pos;refine⟨_,_,O,AT _,by simp only[maxLen];omega,?_,λe=>absurd e aa,λ_=>⟨w.heap.size,0,arr'.toList,O,H.mono Z,.inr O,?_⟩⟩
 .grind
 simp_all
end
end
section
mutual
def V.ppV(id:Nat)(cs:List PV):V->V
 | .ptr i o=>bif Nat.beq i id then .pv (.rp cs o)else .ptr i o
 | .agg vs=> .agg (V.ppL id cs vs)
 | .tup vs=> .tup (V.ppL id cs vs)
 | .fn f a b=> .fn f (V.ppL id cs a) (V.ppL id cs b)
 | .pv p=> .pv p
 | .osl i sz k=>bif Nat.beq i id then .pv .any else .osl i sz k
 | .tsl i sz k=>bif Nat.beq i id then .pv .any else .tsl i sz k
 | .gsl i sz k=>bif Nat.beq i id then .pv .any else .gsl i sz k
 | .map i=> .map i
def V.ppL(id:Nat)(cs:List PV):List V->List V
 |[]=>[]
 |v::vs=>V.ppV id cs v::V.ppL id cs vs
end
def Ob.ppO(id:Nat)(cs:List PV):Ob->Ob
 | .cells t c=> .cells t c
 | .gro t c=> .gro t c
 | .mp ks vs=> .mp ks vs
 | .it s p=> .it s p
 | .fro s p=> .fro s p
 | .mi c ks vs=> .mi c ks vs
 | .mix t vs=> .mix t (V.ppL id cs vs)
theorem Ob.MP(id:Nat)(cs:List PV):∀o:Ob,(o.ppO id cs).real=o.real
 | .cells _ _=>rfl
 | .mix _ _=>rfl
 | .gro _ []=>rfl
 | .gro _ (_::_)=>rfl
 | .mp _ _=>rfl
 | .it _ _=>rfl
 | .fro _ _=>rfl
 | .mi _ _ _=>rfl
theorem Mz(id:Nat)(cs:List PV):∀o:Option Ob,cL (o.map (Ob.ppO id cs))=cL o
 |none=>rfl
 |some o=>Ob.MP id cs o
def St.ppA(σ:St)(id:Nat)(cs:List PV):St:=⟨λt=>V.ppV id cs (σ.sl t),λi=>bif Nat.beq i id then UG else(σ.ob i).map (Ob.ppO id cs),σ.av⟩
section
variable {w:World}{m m':Gm}{av:Av}{R R':Nat->Prop}
theorem nG(id:Nat)(cs:List PV):∀vs:List V,(V.ppL id cs vs).length=vs.length
 |[]=>rfl
 |_::vs=>by simp[V.ppL,nG id cs vs]
mutual
theorem Rel.ppV{cs:List PV}(q:∀b,R b->R' b/\w.heap[b]? =w.heap[b]?)(A:∀i x,m' i=UF x->m i=UF x)
  (B:∀o u,Rel w m av R (.ptr id o) u->RelP w R' (.rp cs o) u):
  ∀(v:V)(u:Value),Rel w m av R v u->Rel w m' av R' (V.ppV id cs v) u
 | .ptr i o,u,h=>by
   simp only[V.ppV];cases hb:Nat.beq i id with
   |true=>have:=cd hb;subst this;simp only[U3,Rel];exact B o u h
   |false=>simp only[Ue];exact h.mono q (λi x _ e=>A i x e) (λ_ e=>e)
 | .agg vs,u,h=>by
   simp only[Rel,V.ppV]at h ⊢;obtain⟨us,e,h⟩:=h;exact⟨us,e,RelL.ppL q A B vs us h⟩
 | .tup vs,u,h=>by
   simp only[Rel,V.ppV]at h ⊢;obtain⟨us,e,h⟩:=h;exact⟨us,e,RelL.ppL q A B vs us h⟩
 | .fn f a b,u,h=>by
   simp only[Rel,V.ppV]at h ⊢;obtain⟨us,vs,e,ha,hb⟩:=h;exact⟨us,vs,e,RelL.ppL q A B a us ha,RelL.ppL q A B b vs hb⟩
 | .pv p,u,h=>by simp only[V.ppV];exact h.mono q (λi x _ e=>A i x e) (λ_ e=>e)
 | .osl i sz k,u,h=>by
   simp only[V.ppV];cases hb:Nat.beq i id with
   |true=>simp only[U3,Rel,RelP]
   |false=>simp only[Ue];exact h.mono q (λi x _ e=>A i x e) (λ_ e=>e)
 | .tsl i sz k,u,h=>by
   simp only[V.ppV];cases hb:Nat.beq i id with
   |true=>simp only[U3,Rel,RelP]
   |false=>simp only[Ue];exact h.mono q (λi x _ e=>A i x e) (λ_ e=>e)
 | .gsl i sz k,u,h=>by
   simp only[V.ppV];cases hb:Nat.beq i id with
   |true=>simp only[U3,Rel,RelP]
   |false=>simp only[Ue];exact h.mono q (λi x _ e=>A i x e) (λ_ e=>e)
 | .map i,u,h=>by simp only[V.ppV];exact h.mono q (λi x _ e=>A i x e) (λ_ e=>e)
theorem RelL.ppL{cs:List PV}(q:∀b,R b->R' b/\w.heap[b]? =w.heap[b]?)(A:∀i x,m' i=UF x->m i=UF x)
  (B:∀o u,Rel w m av R (.ptr id o) u->RelP w R' (.rp cs o) u):
  ∀(vs:List V)(us:List Value),RelL w m av R vs us->RelL w m' av R' (V.ppL id cs vs) us
 |[],_,h=>by simpa only[RelL,V.ppL]using h
 | c::vs,_,h=>by
   simp only[RelL,V.ppL]at h ⊢;obtain⟨u,us,e,ha,hb⟩:=h;exact⟨u,us,e,Rel.ppV q A B c u ha,RelL.ppL q A B vs us hb⟩
end
end
def Ob.jr:Ob->Option (List PV)
 | .cells _ cs=>UF cs
 | .mix _ vs=>V.pvs vs
 | .gro _ _=>UG
 | .mp _ _=>UG
 | .it _ _=>UG
 | .fro _ _=>UG
 | .mi _ _ _=>UG
theorem St.jZ{σ:St}{o:Ob}{cs:List PV}(id:Nat)(X:σ.ob id=UF o)(hc:o.jr=UF cs):σ.le (σ.ppA id cs):=by
 rintro C n a w ⟨m,R,hw⟩;have L:=hw.drop id;have A:∀i x,upd m id UG i=UF x->m i=UF x/\i≠id:=λi x e=>by grind[aC,a8]
 let R':Nat->Prop:=λq=>R q\/∃N,m id=UF (q,N)
 have D:∀b,R b->R' b/\w.heap[b]? =w.heap[b]? :=λb hb=>⟨.inl hb,O⟩
 have G:∀b N,m id=UF (b,N)->∃us,RelPL w R' cs us/\tB w R' b 0 us:=by
  intro b N hm;have B:=hw.hr.obj id o b N X hm;have I:∀T (arr:Array Value),w.heap[b]? =UF (.cells arr T (0,0))->RelPL w R cs (arr.toList.take cs.length)->∃us,RelPL w R' cs us/\tB w R' b 0 us:=by
   intro T arr hb hr;refine⟨_,hr.mono D,.inr ⟨N,hm⟩,?_⟩;intro j hj;simp only[TC]at hj;rw[T8,cell_of_row w b j arr T (0,0) hb,TS,By Xj];simp
  cases o with
  |cells T c=>simp only[Ob.jr,TJ]at hc;subst hc;obtain⟨arr,q1,_,_,q4⟩:=B;exact I T arr q1 q4
  |gro T c=>simp[Ob.jr]at hc
  |mp ks vs=>simp[Ob.jr]at hc
  |it s p=>simp[Ob.jr]at hc
  |fro s p=>simp[Ob.jr]at hc
  |mi c ks vs=>simp[Ob.jr]at hc
  | mix T c=>
    have e:=V.wu hc;obtain⟨arr,q1,_,_,q4⟩:=B;rw[e]at q4;simp only[TB]at q4;exact I T arr q1 (RelL.toP q4)
 have M:(m id).isSome=VA:=by
  rw[hw.hr.dom,X];cases o with
  |cells T c=>rfl
  |gro T c=>simp[Ob.jr]at hc
  |mp ks vs=>simp[Ob.jr]at hc
  |it s p=>simp[Ob.jr]at hc
  |fro s p=>simp[Ob.jr]at hc
  |mi c ks vs=>simp[Ob.jr]at hc
  |mix T c=>rfl
 have W:∀q u,Rel w m σ.av R (.ptr id q) u->RelP w R' (.rp cs q) u:=by
  intro q u h;obtain⟨⟨b,N⟩,hm⟩:=T7.1 M;simp only[Rel]at h;obtain⟨us,hr,hsh⟩:=G b N hm;simp only[RelP];exact⟨b,0,us,by rw[T8];exact h.2 b N hm,hr,hsh⟩
 have E:∀i x,upd m id UG i=UF x->m i=UF x:=λi x e=>(A i x e).1
 have U:∀i,(σ.ppA id cs).ob i=bif Nat.beq i id then UG else(σ.ob i).map (Ob.ppO id cs):=λ_=>rfl
 have J:(σ.ppA id cs).ob id=UG:=by rw[U];simp
 have H:∀i,i≠id->(σ.ppA id cs).ob i=(σ.ob i).map (Ob.ppO id cs):=λi hi=>by grind[Nat.beq,cd]
 refine⟨upd m id UG,R',⟨?_,?_,?_,L.hr.inj,?_,?_,?_,λq hq=> .inl (hw.hr.r0 q hq),hw.hr.frame,L.hr.j4,L.hr.res⟩,hw.df,hw.sz,?_⟩
 .intro i;by_cases e:i=id
  .subst e;rw[aC,J];rfl
  rw[a8 _ _ e,H i e,Mz];exact hw.hr.dom i
 .intro i hi;by_cases e:i=id
  .subst e;exact J
  rw[H i e,hw.hr.free i hi];rfl
 .intro i o' b N h1 h2;obtain⟨h2',e⟩:=A i _ h2;rw[H i e]at h1;cases ho':σ.ob i with
  |none=>rw[ho']at h1;cases h1
  | some o2=>
    rw[ho']at h1;simp only[Vu,TJ]at h1;subst h1;have B:=hw.hr.obj i o2 b N ho' h2';cases o2 with
    |cells T c=>obtain⟨arr,q1,q2,q3,q4⟩:=B;exact⟨arr,q1,q2,q3,q4.mono D⟩
    |gro T c=>obtain⟨arr,q1,q2,q3,q4⟩:=B;exact⟨arr,q1,q2,q3,q4.mono D⟩
    |mp ks vs=>obtain⟨es,clock,q1,q2,q3,q4⟩:=B;exact⟨es,clock,q1,q2.mono D,q3.mono D,q4⟩
    |it s p=>exact B
    |fro s p=>exact B
    |mi c ks vs=>exact wx.mono D O B
    | mix T c=>
      obtain⟨arr,q1,q2,q3,q4⟩:=B;refine⟨arr,q1,q2,by rw[nG];exact q3,?_⟩;rw[nG];exact q4.ppL D E W
 .intro i b N h1;obtain⟨h2,h3,h4⟩:=hw.hr.own i b N (A i _ h1).1;refine⟨h2,?_,h4⟩;rintro(h5|⟨N',h5⟩)
  .exact h3 h5
  exact(A i _ h1).2 (hw.hr.inj i id b N N' (A i _ h1).1 h5)
 .rintro q (hq|⟨N,hq⟩)
  .exact hw.hr.rsz q hq
  exact(hw.hr.own id q N hq).1
 .rintro q (hq|⟨N,hq⟩)
  .exact hw.hr.rfr q hq
  rcases(hw.hr.own id q N hq).2.2 with h|h
  .exact .inr (.inr h)
  exact .inr (.inl h)
 .intro t ht;exact(hw.sl t ht).ppV D E W
def St.own(σ:St)(t id sz n:Nat)(T:TypeId)(cs:List PV):St:=⟨upd σ.sl t (.osl id sz n),obL [(id,UF (.cells T cs))] σ.ob,σ.av⟩
theorem St.J8{σ:St}{cs:List PV}(t:Nat)(D:σ.sl t= .gsl id sz n)(E:σ.ob id=UF (.gro T cs))(B:0<n)(hc:cs≠[]):σ.le (σ.own t id sz n T cs):=
 St.uT fun{C nn a w m R} hw=>⟨λq hq=>by
  show Rel w m σ.av R (upd σ.sl t (.osl id sz n) q) _;by_cases e:q=t
  .subst e;rw[aC];have:=hw.sl q hq;rw[D]at this;simp only[Rel]at this ⊢;obtain⟨h0,A,c,he,h1,h2,h3,h4⟩:=this;refine⟨h0,λb N hm=>⟨c,?_,h1,h2,(h4 B b N hm).2⟩⟩;rw[he,(h4 B b N hm).1]
  .rw[a8 _ _ e];exact hw.sl q hq,λp hp=>by
  obtain rfl:=TF.1 hp;exact⟨_,_,E,O,(cY hc).symm,λ_ _ _ h=>h⟩⟩
theorem To{σ:St}{l:List (Nat×V)}{os:List (Nat×Ob)}(ids:List Nat)(hl:rY σ (se ids) l)(ho:gU σ (se ids) os)(h1:l.all (λp=>p.2.okA ids.length)=VA)(h2:os.all (λp=>(Nat.blt p.1 ids.length||Nat.ble big p.1)&&p.2.okA ids.length)=VA)
  (M:ids.Nodup) (U:ids.all (λi=>Nat.blt i big|| !(aB os i).isSome)=VA):σ.le (mkS l os ids.length):=by
 rintro C n a w ⟨m,R,hw⟩;have H:∀i o,aB os i=UF o->σ.ob (se ids i)=UF (o.ren (se ids))/\(Nat.blt i ids.length||Nat.ble big i)=VA/\o.okA ids.length=VA:=by
  intro i o h;have W:=cm h;have:=OF.1 h2 _ W;simp only[du]at this;exact⟨iP ho i o W,this.1,this.2⟩
 let m2:Gm:=λi=>if(aB os i).isSome then m (se ids i)else UG
 have D:∀i x,m2 i=UF x->m (se ids i)=UF x/\(Nat.blt i ids.length||Nat.ble big i)=VA:=λi x h=>by
  simp only[m2]at h;split at h
  .rename_i hs;obtain⟨o,hoo⟩:=T7.1 hs;exact⟨h,(H i o hoo).2.1⟩
  cases h
 have I:∀i x,m2 i=UF x->(aB os i).isSome=VA:=λi x h=>by grind
 have ρinj:∀i j,(Nat.blt i ids.length||Nat.ble big i)=VA->(Nat.blt j ids.length||Nat.ble big j)=VA->(aB os i).isSome=VA->(aB os j).isSome=VA->se ids i=se ids j->i=j:=by
  intro i j hi hj hli hlj e;have E:∀q,Nat.blt q ids.length=VA->Nat.ble big q=VC->∃h:q<ids.length,se ids q=ids[q]/\(ids[q]<big\/(aB os ids[q]).isSome=VC):=by
   intro q hq L;have h:q<ids.length:=by simpa[VG]using hq
   refine⟨h,by simp[se,L,TO,h],?_⟩;have:=OF.1 U ids[q] (aq h);simpa[VG]using this
  have A:∀q,Nat.ble big q=VA->se ids q=q:=λq hq=>by simp[se,hq]
  cases hbi:Nat.ble big i with
  | true=>
    cases hbj:Nat.ble big j with
    |true=>rw[A i hbi,A j hbj]at e;exact e
    | false=>
      rw[hbj,Vc]at hj;obtain⟨h,G,B⟩:=E j hj hbj;rw[A i hbi,G]at e;have:=TV hbi;rcases B with B|B
      .omega
      rw[<-e,hli]at B;cases B
  | false=>
    rw[hbi,Vc]at hi;obtain⟨h,e1,B⟩:=E i hi hbi;cases hbj:Nat.ble big j with
    | true=>
      rw[A j hbj,e1]at e;have:=TV hbj;rcases B with B|B
      .omega
      rw[e,hlj]at B;cases B
    | false=>
      rw[hbj,Vc]at hj;obtain⟨h',G,h4⟩:=E j hj hbj;rw[e1,G]at e;exact(List.getElem_inj M).1 e
 have X:∀i x,(Nat.blt i ids.length||Nat.ble big i)=VA->m2 i=UF x->m (se ids i)=UF x:=λi x _ h=>(D i x h).1
 have Y:∀i,(Nat.blt i ids.length||Nat.ble big i)=VA->avK ids.length i=VC:=λi h=>mS h
 refine⟨m2,R,⟨?_,?_,?_,?_,?_,hw.hr.rsz,hw.hr.rfr,hw.hr.r0,hw.hr.frame,?_,λi hi=>eA hi⟩,hw.df,hw.sz,?_⟩
 .intro i;show(m2 i).isSome=cL (aB os i);simp only[m2];cases e:aB os i with
  |none=>rfl
  | some o=>
    have:=hw.hr.dom (se ids i);rw[(H i o e).1]at this;simpa[cL,Ob.mz]using this
 .intro i hi;show aB os i=UG;cases e:aB os i with
  |none=>rfl
  | some o=>
    have B:=mS (H i o e).2.1;have J:avK ids.length i=VA:=hi;rw[J]at B;cases B
 .intro i o b N B h4;have Z:=H i o B;exact(hw.hr.obj _ _ b N Z.1 (D _ _ h4).1).jz (se ids) _ X Y (Ob.oC _ Z.2.2)
 .intro i j b N N' e1 G;exact ρinj i j (D _ _ e1).2 (D _ _ G).2 (I _ _ e1) (I _ _ G) (hw.hr.inj _ _ b N N' (D _ _ e1).1 (D _ _ G).1)
 .exact λi b N e=>hw.hr.own _ b N (D _ _ e).1
 .intro i x hi e;have L:Nat.ble big i=VA:=V3 hi;have G:=(D i x e).1;have:se ids i=i:=by simp[se,L]
  rw[this]at G;exact hw.hr.j4 i x hi G
 .intro t ht;show Rel w m2 (avK ids.length) R (look l t) _;rcases nV hl t with e|e
  .rw[e];simp only[Rel,RelP]
  have B:=hw.sl t ht;rw[e]at B;exact B.jz (se ids) _ X Y _ _ (V.oC _ _ (look_ok h1 t))
def fgs(f:Nat->V):List Nat->Nat->V
 |[]=>f
 |d::ds=>fgs (upd f d (.pv .any)) ds
def St.fgP(σ:St)(ds:List Nat)(p:Nat)(v:V):St:=⟨upd (fgs σ.sl ds) p v,σ.ob,σ.av⟩
def fEq(S:List Nat)(f g:Nat->V):Prop:=∀q,S.contains q=VC->f q=g q
theorem fEq.refl{S:List Nat}{f:Nat->V}:fEq S f f:=λ_ _=>rfl
theorem Th{f g:Nat->V}{d:Nat}{v:V}(h:fEq S f g)(A:S.contains d=VA):fEq S (upd f d v) g:=λq hq=>by
 rw[a8 _ _ (λe=>by rw[e,A]at hq;cases hq)];exact h q hq
theorem Xs{f g:Nat->V}(h:fEq S f g:=by repeat first|with_reducible exact fEq.refl|refine Th ?_ rfl):fEq S f g:=h
theorem Hg:∀(ds:List Nat)(f:Nat->V)(q:Nat),ds.contains q=VC->fgs f ds q=f q
 |[],_,_,_=>rfl
 | d::ds,f,q,h=>by
   simp only[List.contains_cons,T5,UU]at h;simp only[fgs];rw[Hg ds _ q h.2,a8 _ _ h.1]
theorem NA:∀(ds:List Nat)(f:Nat->V)(q:Nat),(ds.contains q=VA\/f q= .pv .any)->fgs f ds q= .pv .any
 |[],_,_,h=>by simp only[fgs];simpa using h
 | d::ds,f,q,h=>by
   simp only[fgs];apply NA ds;by_cases e:q=d
   .subst e;exact .inr (aC _ _ _)
   rw[a8 _ _ e];rcases h with h|h
   .grind
   exact .inr h
theorem Tm{σ s:St}{ds:List Nat}{p:Nat}{v:V}(h:fEq (p::ds) s.sl σ.sl)(A:s.sl p=v)(B:s.ob=σ.ob)(q:s.av=σ.av):s.le (σ.fgP ds p v):=by
 rintro C n a w ⟨m,R,hw⟩;refine⟨m,R,⟨?_,hw.df,hw.sz,?_⟩⟩
 .show HR C m R σ.ob σ.av w;rw[<-B,<-q];exact hw.hr
 .intro t ht;show Rel w m σ.av R (upd (fgs σ.sl ds) p v t) _;rw[<-q];by_cases e:t=p
  .subst e;rw[aC,<-A];exact hw.sl t ht
  rw[a8 _ _ e];cases hd:ds.contains t with
  |true=>rw[NA ds _ t (.inl hd)];simp only[Rel,RelP]
  | false=>
    rw[Hg ds _ t hd,<-h t (by simp only[List.contains_cons,hd,Vc,UU];exact e)];exact hw.sl t ht
section
variable {C:Ctx}{n:Nat}{σ τ:St}{ops:Array Oper}
theorem RL.mono{K K':St->Prop}:∀{os:List Oper}{σ:St},RL C n ops os K σ->(∀s,K s->K' s)->RL C n ops os K' σ
 |[],_,h,hk=>hk _ h
 | o::os,σ,h,hk=>by
   simp only[RL]at h ⊢;cases hg:o.guard with
   |none=>rw[hg]at h;exact OJ.mono h λs hs=>RL.mono hs hk
   | some jw=>
     obtain⟨j,want⟩:=jw;rw[hg]at h;obtain⟨b,h1,h2,h3⟩:=h;exact⟨b,h1,λe=>OJ.mono (h2 e) λs hs=>RL.mono hs hk,λe a w hs=>(h3 e a w hs).imp λs ⟨q,r⟩=>⟨RL.mono q hk,r⟩⟩
theorem RL.append{K:St->Prop}:∀{os os':List Oper}{σ:St},RL C n ops os (RL C n ops os' K) σ->RL C n ops (os++os') K σ
 |[],_,_,h=>h
 | o::os,os',σ,h=>by
   simp only[RL,Uz]at h ⊢;cases hg:o.guard with
   |none=>rw[hg]at h;exact OJ.mono h λs hs=>RL.append hs
   | some jw=>
     obtain⟨j,want⟩:=jw;rw[hg]at h;obtain⟨b,h1,h2,h3⟩:=h;exact⟨b,h1,λe=>OJ.mono (h2 e) λs hs=>RL.append hs,λe a w hs=>(h3 e a w hs).imp λs ⟨q,r⟩=>⟨RL.append q,r⟩⟩
theorem OJ.weaken{o:Oper}{K:St->Prop}(q:σ.le τ)(h:OJ C n o K τ):OJ C n o K σ:=λa w Q hs=>h a w Q (q C n a w hs)
def ai(K:St->Prop):Prop:=∀s t,s.le t->K t->K s
theorem RL.weaken{K:St->Prop}(q:ai K):∀{os:List Oper},σ.le τ->RL C n ops os K τ->RL C n ops os K σ
 |[],hl,h=>q _ _ hl h
 | o::os,hl,h=>by
   simp only[RL]at h ⊢;cases hg:o.guard with
   |none=>rw[hg]at h;exact OJ.weaken hl h
   | some jw=>
     obtain⟨j,want⟩:=jw;rw[hg]at h;obtain⟨b,h1,h2,h3⟩:=h;exact⟨b,λa w hs=>h1 a w (hl C n a w hs),λe=>OJ.weaken hl (h2 e),λe a w hs=>h3 e a w (hl C n a w hs)⟩
theorem ai.le{τ:St}:ai (λs=>s.le τ):=λ_ _ h k=>h.trans k
theorem ai.aw{Q:Exit->St->Prop}:ai (λs=>AW C n c Q s):=λ_ _ h k=>Tj h k
theorem Ps{f:Nat->V}{v:V}(h:f t=v):upd f t v=f:=by
 funext q;by_cases hq:q=t
 .subst hq;rw[aC,h]
 rw[a8 _ _ hq]
theorem RL.ifB{os:List Oper}{K:St->Prop}(v:Bool->V)(k t p:Nat)(ds:List Nat)(A:σ.ev n (.tmp t)= .pv (.bool b))(B:ai K)
  (E:b=VA->RL C n ops (os.take k) (λs=>s.le (σ.fgP (t::ds) p (v VA))) ⟨upd σ.sl t (.pv (.bool VA)),σ.ob,σ.av⟩)
  (G:b=VC->RL C n ops (os.take k) (λs=>s.le (σ.fgP (t::ds) p (v VC))) ⟨upd σ.sl t (.pv (.bool VC)),σ.ob,σ.av⟩)
  (h:RL C n ops (os.drop k) K (σ.fgP (t::ds) p (v b))):RL C n ops os K σ:=by
 have e:σ.sl t= .pv (.bool b):=by
  simp only[St.ev]at A;cases hb:Nat.blt t n with
  |true=>rw[hb]at A;simpa using A
  |false=>rw[hb]at A;simp at A
 have q:(⟨upd σ.sl t (.pv (.bool b)),σ.ob,σ.av⟩:St)=σ:=by rw[Ps e]
 have D:os=os.take k++os.drop k:=(Ug k os).symm;rw[D];apply RL.append;cases b with
 | true=>
   have:=E O;rw[q]at this;exact RL.mono this λs hs=>RL.weaken B hs h
 | false=>
   have:=G O;rw[q]at this;exact RL.mono this λs hs=>RL.weaken B hs h
theorem Tu{os:List Oper}{K:St->Prop}{e:Bool}(k t p:Nat)(ds:List Nat)(q:σ.ev n (.tmp t)= .pv (.bool b))(A:ai K)
  (B:b=VA->RL C n ops (os.take k) (λs=>s.le (σ.fgP (t::ds) p (.pv (.bool e)))) ⟨upd σ.sl t (.pv (.bool VA)),σ.ob,σ.av⟩)
  (D:b=VC->RL C n ops (os.take k) (λs=>s.le (σ.fgP (t::ds) p (.pv (.bool VC)))) ⟨upd σ.sl t (.pv (.bool VC)),σ.ob,σ.av⟩)
  (h:RL C n ops (os.drop k) K (σ.fgP (t::ds) p (.pv (.bool (b&&e))))):RL C n ops os K σ:=
 RL.ifB (λb=> .pv (.bool (b&&e))) k t p ds q A B D h
theorem Tt{os:List Oper}{K:St->Prop}{e:Bool}(k t p:Nat)(ds:List Nat)(q:σ.ev n (.tmp t)= .pv (.bool b))(A:ai K)
  (B:b=VA->RL C n ops (os.take k) (λs=>s.le (σ.fgP (t::ds) p (.pv (.bool VA)))) ⟨upd σ.sl t (.pv (.bool VA)),σ.ob,σ.av⟩)
  (D:b=VC->RL C n ops (os.take k) (λs=>s.le (σ.fgP (t::ds) p (.pv (.bool e)))) ⟨upd σ.sl t (.pv (.bool VC)),σ.ob,σ.av⟩)
  (h:RL C n ops (os.drop k) K (σ.fgP (t::ds) p (.pv (.bool (b||e))))):RL C n ops os K σ:=
 RL.ifB (λb=> .pv (.bool (b||e))) k t p ds q A B D h
end
theorem Tl{σ:St}{l:List (Nat×V)}{os:List (Nat×Ob)}(ids:List Nat)(B:rY σ (se ids) l)(D:gU σ (se ids) os)(E:l.all (λp=>p.2.okA ids.length)=VA)(G:os.all (λp=>(Nat.blt p.1 ids.length||Nat.ble big p.1)&&p.2.okA ids.length)=VA)
  (q:ids.Nodup) (A:ids.all (λi=>Nat.blt i big)=VA):σ.le (mkS l os ids.length):=
 To ids B D E G q (OF.2 λi hi=>by rw[OF.1 A i hi];rfl)
end
variable{ob:Nat->Option Ob}{τ:St}
def PV.fg2:PV->PV
 | .tup cs=> .tup (PV.fgA cs)
 |p=>p.fg
variable{zs:List PV}
theorem RelP.fg2{p:PV}(h:RelP w R p u):RelP w R p.fg2 u:=by
 cases p with
 | tup cs=>
   simp only[RelP,PV.fg2]at h ⊢;obtain⟨us,e,h⟩:=h;exact⟨us,e,h.fgA⟩
 |_=>exact h.fg
theorem FnP.fg2{args:List PV}{Q:PV->Prop}(h:FnP P f args (λv=>Q v.fg2)):FnP P f args Q:=
 λw R us h0 h1 h2=>(h w R us h0 h1 h2).mono λ_ _ ⟨u,v,e,q,b,r⟩=>⟨u,v.fg2,e,q,b,r.fg2⟩
section
section
variable {C:Ctx}{n:Nat}{σ:St}{dst:Option Tmp}{ty:TypeId}{pos:String}{after:Array Edge}{gd:Option (Nat×Bool)}{x:Operand}
theorem XJ.Qw{o:Oper}{v v':V}{wr:List (Nat×Option Ob)}{nw:List Nat}(h:XJ C n o σ ⟨v,wr,nw⟩)(A:∀w m av R u,Rel w m av R v u->Rel w m av R v' u):XJ C n o σ ⟨v',wr,nw⟩:=by
 intro a w Q hs;refine Oper.wp_mono ?_ (h a w Q hs);rintro a' w' ⟨σ',rfl,m,R,hsw⟩;refine⟨_,O,m,R,?_⟩;refine⟨hsw.hr,hsw.df,hsw.sz,λt ht=>?_⟩;have q:=hsw.sl t ht;cases hd:o.dst with
 |none=>simpa only[St.app,hd]using q
 | some d=>
   simp only[St.app,hd]at q ⊢;by_cases e:t=d
   .grind[aC]
   rw[a8 _ _ e]at q ⊢; exact q
theorem Rel.plain{av:Av}{ps:List PV}(h:Rel w m av R (.agg (ps.map .pv)) u):Rel w m av R (.pv (.agg ps)) u:=by
 simp only[Rel,RelP]at h ⊢;obtain⟨us,e,h⟩:=h;exact⟨us,e,h.toP⟩
variable {y:Operand}
end
end
section
inductive TK where
 |int (k:IntKind)
 |bool
 |str
 |sl (e:TypeId)
 |st (pl:List (Nat×Nat))
 |arr (len:Nat) (e:TypeId)
 |other
structure TI where
 k:TK
 size:Nat
 bytes:Nat
 zero:Option (List PV)
inductive TT where
 |nil
 |node (t:Nat) (i:TI) (l r:TT)
def TT.get:TT->Nat->Option TI
 | .nil,_=>UG
 | .node t i l r,x=>bif Nat.beq x t then UF i else bif Nat.blt x t then l.get x else r.get x
def TT.all(f:Nat->TI->Bool):TT->Bool
 | .nil=>VA
 | .node t i l r=>f t i&&(l.all f&&r.all f)
theorem TT.yD{f:Nat->TI->Bool}:∀{tt:TT},tt.all f=VA->∀{x:Nat}{i:TI},tt.get x=UF i->f x i=VA
 | .nil,_,x,i,h=>by simp[TT.get]at h
 | .node t j l r,ha,x,i,h=>by
   simp only[TT.all,du]at ha;simp only[TT.get]at h;cases hb:Nat.beq x t with
   | true=>
     rw[hb]at h;simp at h;have:=cd hb;subst this h;exact ha.1
   | false=>
     rw[hb]at h;cases hc:Nat.blt x t with
     |true=>rw[hc]at h;exact yD ha.2.1 (by simpa using h)
     |false=>rw[hc]at h;exact yD ha.2.2 (by simpa using h)
def kEq:IntKind->IntKind->Bool
 | .i8,.i8| .i16,.i16| .i32,.i32| .i64,.i64| .u8,.u8| .u16,.u16| .u32,.u32| .u64,.u64=>VA
 |_,_=>VC
theorem fC{a b:IntKind}(h:kEq a b=VA):a=b:=by cases a<;>cases b<;>first|rfl|(simp[kEq]at h)
def TK.row:TK->Bool
 | .st _| .arr _ _=>VA
 |_=>VC
def zpB:PV->PV->Bool
 | .int k i,.int k' j=>kEq k k'&&decide (i=j)
 | .bool a,.bool b=>a==b
 | .str a,.str b=>Nat.beq a.size 0&&Nat.beq b.size 0
 | .sl (UF VA) 0 [],.sl (UF VA) 0 []=>VA
 | .nilptr,.nilptr=>VA
 | .nilmap,.nilmap=>VA
 | .nilfn,.nilfn=>VA
 | .niliface,.niliface=>VA
 |_,_=>VC
theorem S4{a b:PV}(h:zpB a b=VA):a=b:=by
 unfold zpB at h;split at h<;>first|rfl|(cases h;done)|skip
 .simp only[du,Tz]at h;rw[fC h.1,h.2]
 .rw[U6.1 h]
 simp_all
def zlB:List PV->List PV->Bool
 |[],[]=>VA
 |a::l,b::m=>zpB a b&&zlB l m
 |_,_=>VC
theorem Nu:∀{l m:List PV},zlB l m=VA->l=m
 |[],[],_=>rfl
 | a::l,b::m,h=>by
   simp only[zlB,du]at h;rw[S4 h.1,Nu h.2]
 |[],_::_,h=>by simp[zlB]at h
 |_::_,[],h=>by simp[zlB]at h
def plB:List (Nat×Nat)->List (Nat×Nat)->Bool
 |[],[]=>VA
 |(a,b)::l,(c,d)::m=>Nat.beq a c&&Nat.beq b d&&plB l m
 |_,_=>VC
theorem Nq:∀{l m:List (Nat×Nat)},plB l m=VA->l=m
 |[],[],_=>rfl
 | (a,b)::l,(c,d)::m,h=>by
   simp only[plB,du]at h;rw[cd h.1.1,cd h.1.2,Nq h.2]
 |[],_::_,h=>by simp[plB]at h
 |_::_,[],h=>by simp[plB]at h
def rO(P:Program)(t:TypeId):TK->TypeDesc->Bool
 | .int k,.int k'=>kEq k k'
 | .bool,.bool=>VA
 | .str,.string=>VA
 | .sl e,.slice e'=>Nat.beq e e'
 | .st pl,.struct _=>(match placesOf P t with|some pl'=>plB pl pl'|none=>VC)
 | .arr m e,.array m' e'=>Nat.beq m m'&&Nat.beq e e'
 | .other,d=> !d.isRow
 |_,_=>VC
def zeroB:Option (List PV)->Option Value->Bool
 |none,_=>VA
 |some zs,UF z=>zlB (z.cells.toList.map gB) zs
 |some _,UG=>VC
def Pn(P:Program)(t:TypeId)(i:TI):Bool:=
 match P.info? t,P.underlying t with
 |some inf,UF d=>Nat.beq inf.size i.size&&(Nat.beq inf.bytes i.bytes&&(zeroB i.zero inf.zero&&rO P t i.k d))
 |_,_=>VC
structure TGood(P:Program)(t:TypeId)(i:TI):Prop where
 size:bT P t i.size
 kind:∃d,P.underlying t=UF d/\rO P t i.k d=VA
 zero:∀zs,i.zero=UF zs->∃z,(P.info? t).map (λi=>(i.zero,i.size,i.bytes))=UF (UF z,i.size,i.bytes)/\z.cells.toList.map gB=zs
theorem Ln{t:TypeId}{i:TI}(h:Pn P t i=VA):TGood P t i:=by
 unfold Pn at h;split at h
 .rename_i inf d h1 h2;simp only[du]at h;have A:=cd h.1;have B:=cd h.2.1;refine⟨by unfold bT;rw[h1,<-A];rfl,⟨d,h2,h.2.2.2⟩,λzs hz=>?_⟩;have q:=h.2.2.1;rw[hz]at q;cases hq:inf.zero with
  |none=>rw[hq]at q;cases q
  |some z=>rw[hq]at q;exact⟨z,by rw[h1,<-A,<-B,<-hq];rfl,Nu q⟩
 cases h
structure TT.Ok(P:Program)(tt:TT):Prop where
 go:∀{t i},tt.get t=UF i->TGood P t i
theorem TT.ok_of{tt:TT}(h:tt.all (Pn P)=VA):tt.Ok P:=⟨λe=>Ln (TT.yD h e)⟩
section
variable {P:Program}{t:TypeId}{i:TI}
theorem TGood.int(h:TGood P t i){k:IntKind}(e:i.k= .int k):P.underlying t=UF (.int k):=by
 obtain⟨d,h1,h2⟩:=h.kind;rw[e]at h2;cases d<;>simp[rO]at h2;rw[h1,fC h2]
theorem TGood.bool(h:TGood P t i)(e:i.k= .bool):P.underlying t=UF .bool:=by
 obtain⟨d,h1,h2⟩:=h.kind;rw[e]at h2;cases d<;>simp[rO]at h2;exact h1
theorem TGood.str(h:TGood P t i)(e:i.k= .str):P.underlying t=UF .string:=by
 obtain⟨d,h1,h2⟩:=h.kind;rw[e]at h2;cases d<;>simp[rO]at h2;exact h1
theorem TGood.sl(h:TGood P t i)(e:i.k= .sl el):P.underlying t=UF (.slice el):=by
 obtain⟨d,h1,h2⟩:=h.kind;rw[e]at h2;cases d<;>simp[rO]at h2;rw[h1,h2]
theorem TGood.arr(h:TGood P t i){m:Nat}(e:i.k= .arr m el):P.underlying t=UF (.array m el):=by
 obtain⟨d,h1,h2⟩:=h.kind;rw[e]at h2;cases d<;>simp[rO]at h2;rw[h1,h2.1,h2.2]
theorem TGood.st(h:TGood P t i){pl:List (Nat×Nat)}(e:i.k= .st pl):placesOf P t=UF pl:=by
 obtain⟨d,h1,h2⟩:=h.kind;rw[e]at h2;cases d<;>simp[rO]at h2;cases hp:placesOf P t with
 |none=>rw[hp]at h2;cases h2
 |some pl'=>rw[hp]at h2;rw[Nq h2]
theorem TGood.isRow(h:TGood P t i)(e:i.k.row=VA):isRow P t:=by
 obtain⟨d,h1,h2⟩:=h.kind;refine⟨d,h1,?_⟩;cases hk:i.k<;>rw[hk]at e h2<;>simp[TK.row]at e<;>cases d<;>simp[rO]at h2<;>rfl
theorem TGood.gT(h:TGood P t i)(e:i.k.row=VC):gT P t:=by
 obtain⟨d,h1,h2⟩:=h.kind;refine⟨d,h1,?_⟩;cases hk:i.k<;>rw[hk]at e h2<;>simp[TK.row]at e<;>cases d<;>simp[rO]at h2<;>first|rfl|exact h2
theorem TGood.gV(h:TGood P t i){pl:List (Nat×Nat)}(e:i.k= .st pl){o s:Nat}(D:pl[j]? =UF (o,s))(E:Nat.beq s 0=VC):gV P t j=UF o:=by
 have q:=h.st e;unfold placesOf at q;unfold Go.Proofs.YtkkenamefaegfaaGreatDoor.gV;split at q
 .rename_i fs hu;try rw[hu]
  have A:∀(l:List Field)(pl:List (Nat×Nat))(j:Nat),(l.mapM λf=>(P.info? f.type).map λi=>(f.offset,i.size))=UF pl->pl[j]? =UF (o,s)->∃f,l[j]? =UF f/\f.offset=o/\∃inf,P.info? f.type=UF inf/\inf.size=s:=by
   intro l;induction l with
   |nil=>intro pl j h1 h2;simp at h1;subst h1;simp at h2
   | cons f l ih=>
     intro pl j h1 h2;simp only[List.mapM_cons,Option.bind_eq_bind,Option.bind_eq_some_iff,Option.pure_def,TJ]at h1;obtain⟨a,ha,pl',hpl,rfl⟩:=h1;cases j with
     | zero=>
       simp only[List.getElem?_cons_zero,TJ]at h2;subst h2;cases hi:P.info? f.type with
       |none=>rw[hi]at ha;cases ha
       |some inf=>rw[hi]at ha;simp at ha;exact⟨f,O,ha.1,inf,hi,ha.2⟩
     |succ j=>exact(ih pl' j hpl (by simpa using h2)).imp λf hf=>by simpa using hf
  obtain⟨f,hf,ho,inf,hi,hsz⟩:=A fs.toList pl j q D;have B:fs[j]? =UF f:=by simpa using hf
  simp only[B,hi,ho,hsz,E,Ue]
 cases q
end
structure AO where
 s:OS
 rd:List Nat
 φ:Prop
abbrev AO.val(v:V):Option AO:=UF ⟨⟨v,[],[]⟩,[],True⟩
def hdV{α:Type}(v:V)(f:V->α):α:=
 match v with
 | .pv p=>f (.pv p)
 | .ptr a b=>f (.ptr a b)
 | .osl a b c=>f (.osl a b c)
 | .tsl a b c=>f (.tsl a b c)
 | .gsl a b c=>f (.gsl a b c)
 | .map a=>f (.map a)
 | .agg l=>f (.agg l)
 | .tup l=>f (.tup l)
 | .fn a b c=>f (.fn a b c)
theorem kT(v:V)(f:V->α):hdV v f=f v:=by cases v<;>rfl
def hdL{α:Type}:List V->(List V->α)->α
 |[],f=>f []
 |v::l,f=>hdV v λv=>hdL l λl=>f (v::l)
theorem jO:∀(l:List V)(f:List V->α),hdL l f=f l
 |[],_=>rfl
 |v::l,f=>by simp only[hdL,kT,jO l]
def Sk(vs:List V):V:=match V.pvs vs with
 |some ps=> .pv (.agg ps)
 |none=> .agg vs
variable (tt:TT)(ev:Operand->V)(ob:Nat->Option Ob)(id:Nat)
omit tt ev ob id in
def Qg(op:BinOp)(k:IntKind)(i j:Int):Option AO:=
 match op with
 | .add=>bif kEq k .i64 then UF ⟨⟨.pv (.int .i64 (i+j)),[],[]⟩,[], -9223372036854775808<=i+j/\i+j<=9223372036854775807⟩else AO.val (.pv (.int k (k.wrap (i+j))))
 | .sub=>bif kEq k .i64 then UF ⟨⟨.pv (.int .i64 (i-j)),[],[]⟩,[], -9223372036854775808<=i-j/\i-j<=9223372036854775807⟩else AO.val (.pv (.int k (k.wrap (i-j))))
 | .mul=>bif kEq k .i64 then UF ⟨⟨.pv (.int .i64 (i*j)),[],[]⟩,[], -9223372036854775808<=i*j/\i*j<=9223372036854775807⟩else AO.val (.pv (.int k (k.wrap (i*j))))
 | .quo=>UF ⟨⟨.pv (.int k (k.wrap (i.tdiv j))),[],[]⟩,[],j≠0⟩
 | .rem=>UF ⟨⟨.pv (.int k (i.tmod j)),[],[]⟩,[],j≠0⟩
 | .shl=>UG
 | .shr=>UG
 |op=>match vx op k i j with|some p=>AO.val (.pv p)|none=>UG
omit tt ev ob id in
def HL(op:BinOp)(k:IntKind)(i j:Int):Option AO:=
 match op,k with
 | .add,.u64=>match i,j with
   | .ofNat a,.ofNat b=>UF ⟨⟨.pv (.int .u64 ((a+b:Nat):Int)),[],[]⟩,[],a+b<18446744073709551616⟩
   |_,_=>UG
 | .sub,.u64=>match i,j with
   | .ofNat a,.ofNat b=>UF ⟨⟨.pv (.int .u64 ((a-b:Nat):Int)),[],[]⟩,[],b<=a/\a<18446744073709551616⟩
   |_,_=>UG
 | .mul,.u64=>match i,j with
   | .ofNat a,.ofNat b=>UF ⟨⟨.pv (.int .u64 ((a*b:Nat):Int)),[],[]⟩,[],a*b<18446744073709551616⟩
   |_,_=>UG
 | .quo,.u64=>match i,j with
   | .ofNat a,.ofNat b=>UF ⟨⟨.pv (.int .u64 ((a/b:Nat):Int)),[],[]⟩,[],0<b/\a<18446744073709551616⟩
   |_,_=>UG
 | .rem,.u64=>match i,j with
   | .ofNat a,.ofNat b=>UF ⟨⟨.pv (.int .u64 ((a%b:Nat):Int)),[],[]⟩,[],0<b⟩
   |_,_=>UG
 |op,k=>Qg op k i j
def ON(op:BinOp)(t:TypeId)(x y:Operand):Option AO:=
 match ev x,ev y with
 | .pv (.int k i),.pv (.int k' j)=>bif kEq k k' then HL op k i j else UG
 | .pv (.str a),.pv (.str b)=>match op with
   | .add=>UF ⟨⟨.pv (.str (a++b)),[],[]⟩,[],a.size+b.size<=9223372036854775807⟩
   |op=>match Rc op a b with|some p=>AO.val (.pv p)|none=>UG
 | .pv (.bool a),.pv (.bool b)=>match tt.get t with
   | some ti=>match ti.k,op with
     | .bool,.eql=>AO.val (.pv (.bool (a==b)))
     | .bool,.neq=>AO.val (.pv (.bool (a !=b)))
     |_,_=>UG
   |none=>UG
 | .pv (.sl (UF b) _ _),.pv (.sl (UF VA) 0 [])=>match y with
   | .const (.slice UG 0 0)=>match tt.get t with
     | some ti=>match ti.k,op with
       | .sl _,.eql=>AO.val (.pv (.bool b))
       | .sl _,.neq=>AO.val (.pv (.bool (!b)))
       |_,_=>UG
     |none=>UG
   |_=>UG
 |_,_=>UG
def aoUn(op:UnOp)(x:Operand):Option AO:=
 match op,ev x with
 | .not,.pv (.bool b)=>AO.val (.pv (.bool (!b)))
 | .neg,.pv (.int .i64 i)=>UF ⟨⟨.pv (.int .i64 (-i)),[],[]⟩,[], -9223372036854775807<=i/\i<=9223372036854775807⟩
 |_,_=>UG
def JC(src d:TypeId)(x:Operand):Option AO:=
 match ev x,tt.get src,tt.get d with
 | .pv (.int _ i),UF _,UF td=>match td.k with
   | .int k'=>AO.val (.pv (.int k' (k'.wrap i)))
   |_=>UG
 | .pv (.str s),UF _,UF td=>match td.k with
   | .sl e=>match tt.get e with
     | some te=>match te.k with
       | .int .u8=>UF ⟨⟨.pv (.sl (UF VC) s.size (aI s.data.toList)),[],[]⟩,[],s.size<=9223372036854775807⟩
       |_=>UG
     |none=>UG
   |_=>UG
 |_,_,_=>UG
def OW(x:Operand)(i:Nat):Option AO:=
 match ev x with
 | .pv (.tup ps)=>match ps[i]? with|some p=>AO.val (.pv p)|none=>UG
 | .tup vs=>match vs[i]? with|some v=>hdV v AO.val|none=>UG
 |_=>UG
def P8(T:TypeId)(x:Operand):Option AO:=
 hdV (ev x) λv=>match v with
  | .pv _| .agg _=>hdL v.cells λcs=>bif cs.all V.leaf then UF ⟨⟨.ptr id 0,[(id,UF (.mix T cs))],[id]⟩,[],True⟩else UG
  | .ptr i o=>bif cL (ob i)then UF ⟨⟨.ptr id 0,[(id,UF (.mix T [.ptr i o]))],[id]⟩,[i],True⟩else UG
  | .osl i s k=>bif cL (ob i)then UF ⟨⟨.ptr id 0,[(id,UF (.mix T [.osl i s k]))],[id]⟩,[i],True⟩else UG
  | .map i=>bif cL (ob i)then UF ⟨⟨.ptr id 0,[(id,UF (.mix T [.map i]))],[id]⟩,[i],True⟩else UG
  | .gsl i s k=>UF ⟨⟨.ptr id 0,[(id,UF (.mix T [.gsl i s k]))],[id]⟩,[],True⟩
  | .fn f a b=>UF ⟨⟨.ptr id 0,[(id,UF (.mix T [.fn f a b]))],[id]⟩,[],True⟩
  | .tup _=>UG
  | .tsl _ _ _=>UG
def Aj(T:TypeId):Option AO:=
 match tt.get T with
 | some ti=>match ti.zero with
   |some zs=>hdL (zs.map .pv) λcs=>UF ⟨⟨.ptr id 0,[(id,UF (.mix T cs))],[id]⟩,[],True⟩
   |none=>UG
 |none=>UG
def OY(x:Operand):Option AO:=
 match ev x with
 | .ptr i off=>bif cL (ob i)then UF ⟨⟨.ptr i off,[],[]⟩,[i],True⟩else UG
 | .pv (.rp cs off)=>AO.val (.pv (.rp cs off))
 |_=>UG
def E8(T:TypeId)(x:Operand):Option AO:=
 match tt.get T with
 |none=>UG
 | some ti=>match ev x with
   | .ptr i off=>match ob i with
     | some (.mix _ cs)=>bif ti.k.row then hdL ((cs.drop off).take ti.size) λvs=>bif Nat.beq vs.length ti.size then hdV (Sk vs) λv=>UF ⟨⟨v,[],[]⟩,[i],True⟩else UG
       else match cs[off]? with|some v=>hdV v λv=>UF ⟨⟨v,[],[]⟩,[i],True⟩|none=>UG
     |some (.cells _ cs)=>bif ti.k.row then UG else match cs[off]? with|some p=>UF ⟨⟨.pv p,[],[]⟩,[i],True⟩|none=>UG
     |_=>UG
   | .pv (.rp cs off)=>bif ti.k.row then bif Nat.beq ((cs.drop off).take ti.size).length ti.size then AO.val (.pv (.agg ((cs.drop off).take ti.size)))else UG
     else match cs[off]? with|some p=>AO.val (.pv p)|none=>UG
   |_=>UG
def V.id1:V->List Nat
 | .ptr i _=>[i]
 | .osl i _ _=>[i]
 | .map i=>[i]
 |_=>[]
def V.ids:V->List Nat
 | .pv _=>[]
 | .agg cs=>cs.flatMap V.id1
 |v=>v.id1
def zQ(dst:Option Tmp)(T:TypeId)(x y:Operand):Option AO:=
 match dst,tt.get T,ev x with
 | none,UF ti,.ptr i off=>match ob i with
   | some (.mix T' cs)=>hdV (ev y) λv=>hdL v.cells λvc=>
     bif Nat.beq vc.length ti.size&&(Nat.ble (off+ti.size) cs.length&&(vc.all (λc=>c.leaf&&c.cG ob)&&v.cG ob))then
      hdL (ik cs off vc) λl=>UF ⟨⟨.pv .any,[(i,UF (.mix T' l))],[]⟩,i::v.ids,True⟩
     else UG
   | some (.cells T' cs)=>match ev y with
     | .pv v=>bif Nat.beq ti.size 1&&v.leaf then UF ⟨⟨.pv .any,[(i,UF (.cells T' (cs.set off v)))],[]⟩,[i],off<cs.length⟩else UG
     |_=>UG
   |_=>UG
 |_,_,_=>UG
def Ak(s:TypeId)(x:Operand)(j:Nat):Option AO:=
 match tt.get s with
 |none=>UG
 | some ti=>match ti.k with
   | .st pl=>match pl[j]? with
     | some (o,q)=>bif Nat.beq q 0 then UG else match ev x with
       | .ptr i off=>bif cL (ob i)then UF ⟨⟨.ptr i (off+o),[],[]⟩,[i],True⟩else UG
       | .pv (.rp cs off)=>AO.val (.pv (.rp cs (off+o)))
       |_=>UG
     |none=>UG
   |_=>UG
def yG(T:TypeId)(x y:Operand):Option AO:=
 match tt.get T with
 |none=>UG
 | some ti=>match ti.k with
   | .sl e=>match tt.get e with
     |none=>UG
     | some ⟨_,sz,by_,zr⟩=>match ev y with
       | .pv (.int _ (.ofNat j))=>match ev x with
         | .pv (.sl _ k cs)=>UF ⟨⟨.pv (.rp cs (j*sz)),[],[]⟩,[],j<k/\cs≠[]⟩
         | .osl i _ k=>bif cL (ob i)then UF ⟨⟨.ptr i (j*sz),[],[]⟩,[i],j<k⟩else UG
         |_=>UG
       |_=>UG
   |_=>UG
def Jk:Operand->Operand->Bool
 | .tmp a,.tmp b=>Nat.beq a b
 | .const (.int k a),.const (.int k' b)=>kEq k k'&&decide (a=b)
 |_,_=>VC
omit tt ev ob id in
theorem Hl{y:Operand}(h:Jk x y=VA):x=y:=by
 unfold Jk at h;split at h
 .rw[cd h]
 .simp only[du,Tz]at h;rw[fC h.1,h.2]
 cases h
def Ig(T:TypeId)(x y:Operand):Option AO:=
 match tt.get T with
 |none=>UG
 | some ti=>match ti.k with
   | .sl e=>match tt.get e with
     |none=>UG
     | some ⟨_,sz,by_,zr⟩=>match zr,ev x with
       |some zs,.pv (.int _ (.ofNat k))=>bif Jk x y&&(Nat.beq zs.length sz&&(Nat.blt 0 sz&&Nat.ble by_ 1000))then UF ⟨⟨.osl id sz k,[(id,UF (.cells e (mkZ zs (k*sz))))],[id]⟩,[],k<=1000000000⟩else UG
       |_,_=>UG
   |_=>UG
def vq(T:TypeId)(k:Nat)(parts:List (Nat×Operand)):Option AO:=
 match tt.get T with
 |none=>UG
 | some ti=>match ti.k with
   | .sl e=>match tt.get e with
     |none=>UG
     | some ⟨_,sz,by_,zr⟩=>match zr with
       | some zs=>bif Nat.beq zs.length sz&&(Nat.blt 0 sz&&(Nat.ble by_ 1000&&(Nat.blt 0 k&&Nat.ble (k*sz) 16777216)))then
         match fH (λi=>UF (i*sz,sz)) ob ((mkZ zs (k*sz)).map .pv) (parts.map λp=>(p.1,ev p.2))with
         | some vs=>match V.pvs vs with
           |some cs=>UF ⟨⟨.osl id sz k,[(id,UF (.cells e cs))],[id]⟩,parts.flatMap λp=>(ev p.2).ids,True⟩
           |none=>UG
         |none=>UG
         else UG
       |none=>UG
   |_=>UG
def zF(T:TypeId)(parts:List (Nat×Operand)):Option AO:=
 match tt.get T with
 |none=>UG
 | some ti=>match ti.zero,ti.k with
   | some zs,.st pl=>match fH (Ck pl) ob (zs.map .pv) (parts.map λp=>(p.1,ev p.2))with
     |some vs=>hdL vs λvs=>hdV (Sk vs) λv=>UF ⟨⟨v,[],[]⟩,parts.flatMap λp=>(ev p.2).ids,True⟩
     |none=>UG
   | some zs,.arr _ e=>match tt.get e with
     | some te=>match fH (λi=>UF (i*te.size,te.size)) ob (zs.map .pv) (parts.map λp=>(p.1,ev p.2))with
       |some vs=>hdL vs λvs=>hdV (Sk vs) λv=>UF ⟨⟨v,[],[]⟩,parts.flatMap λp=>(ev p.2).ids,True⟩
       |none=>UG
     |none=>UG
   |_,_=>UG
def PC(t:TypeId)(x:Operand):Option AO:=
 match tt.get t with
 |none=>UG
 | some ti=>match ti.k,ev x with
   | .str,.pv (.str s)=>AO.val (.pv (.int .i64 s.size))
   | .sl _,.pv (.sl _ k _)=>AO.val (.pv (.int .i64 k))
   | .sl _,.osl i _ k=>bif cL (ob i)then UF ⟨⟨.pv (.int .i64 k),[],[]⟩,[i],True⟩else UG
   | .sl _,.gsl _ _ k=>AO.val (.pv (.int .i64 k))
   |_,_=>UG
def Pc(t t':TypeId)(x y:Operand):Option AO:=
 match tt.get t with
 |none=>UG
 | some ti=>match ti.k with
   | .sl e=>match tt.get e with
     |none=>UG
     | some ⟨_,sz,by_,zr⟩=>match zr with
       | some zs=>bif Nat.beq t t'&&(Nat.beq zs.length sz&&(Nat.blt 0 sz&&Nat.ble by_ 1000))then
         match ev y with
         | .osl i2 s2 1=>match ob i2 with
           | some (.cells _ news)=>bif Nat.beq s2 sz&&(Nat.beq news.length sz&&news.all PV.leaf)then
             match ev x with
             | .osl i s k=>match ob i with
               |some (.cells e' cs)=>bif Nat.beq e' e&&Nat.beq s sz then UF ⟨⟨.osl id sz (k+1),[(id,UF (.cells e (cs++news))),(i,UG)],[id]⟩,[i,i2],cs.length=k*sz/\k+1<=1000000000⟩else UG
               |_=>UG
             | .gsl i s k=>match ob i with
               |some (.gro e' cs)=>bif Nat.beq e' e&&Nat.beq s sz then UF ⟨⟨.gsl id sz (k+1),[(id,UF (.gro e (cs++news))),(i,UG)],[id]⟩,[i,i2],cs.length=k*sz/\k+1<=1000000000⟩else UG
               |_=>UG
             | .pv (.sl (UF VA) 0 [])=>UF ⟨⟨.osl id sz 1,[(id,UF (.cells e news))],[id]⟩,[i2],True⟩
             |_=>UG
             else UG
           |_=>UG
         |_=>UG
         else UG
       |none=>UG
   |_=>UG
def zB(T:TypeId)(x:Operand)(lo hi:Option Operand):Option AO:=
 match tt.get T with
 |none=>UG
 | some ti=>match ti.k,ev x with
   | .str,.pv (.str z)=>match lo,hi with
     | none,UF y=>match ev y with
       | .pv (.int _ (.ofNat h))=>UF ⟨⟨.pv (.str (z.extract 0 h)),[],[]⟩,[],h<=z.size⟩
       |_=>UG
     | some y,UG=>match ev y with
       | .pv (.int _ (.ofNat l))=>UF ⟨⟨.pv (.str (z.extract l z.size)),[],[]⟩,[],l<=z.size⟩
       |_=>UG
     | some y,UF y'=>match ev y,ev y' with
       | .pv (.int _ (.ofNat l)),.pv (.int _ (.ofNat h))=>UF ⟨⟨.pv (.str (z.extract l h)),[],[]⟩,[],l<=h/\h<=z.size⟩
       |_,_=>UG
     |none,UG=>UG
   | .sl e,.pv (.sl b k cs)=>match tt.get e with
     |none=>UG
     | some ⟨_,sz,by_,zr⟩=>match lo,hi with
       | none,UF y=>match ev y with
         | .pv (.int _ (.ofNat h))=>UF ⟨⟨.pv (.sl b h (cs.take (h*sz))),[],[]⟩,[],h<=k/\cs.length=k*sz⟩
         |_=>UG
       | some y,UG=>match ev y with
         | .pv (.int _ (.ofNat l))=>UF ⟨⟨.pv (.sl b (k-l) (cs.drop (l*sz))),[],[]⟩,[],l<=k/\cs.length=k*sz⟩
         |_=>UG
       |_,_=>UG
   |_,_=>UG
def Gw(c:Call):Option AO:=
 match c.callee,c.args.toList,c.argTypes.toList with
 | .builtin .len,[x],[t]=>PC tt ev ob t x
 | .builtin .append,[x,y],[t,t']=>Pc tt ev ob id t t' x y
 | .builtin .max,[x,y],[_,_]=>match ev x,ev y with
   | .pv (.int k i),.pv (.int k' j)=>bif kEq k k' then AO.val (.pv (.int k (if j>i then j else i)))else UG
   |_,_=>UG
 | .builtin .min,[x,y],[_,_]=>match ev x,ev y with
   | .pv (.int k i),.pv (.int k' j)=>bif kEq k k' then AO.val (.pv (.int k (if j<i then j else i)))else UG
   |_,_=>UG
 |_,_,_=>UG
def auto(dst:Option Tmp):Op->Option AO
 | .move x=>hdV (ev x) AO.val
 | .assign x=>hdV (ev x) AO.val
 | .pick c x y=>match ev c with| .pv (.bool b)=>AO.val (bif b then ev x else ev y)|_=>UG
 | .binOp op t x y _=>ON tt ev op t x y
 | .unOp op _ x=>aoUn ev op x
 | .convert src d x=>JC tt ev src d x
 | .extract x i=>OW ev x i
 | .box T x=>P8 ev ob id T x
 | .alloc T=>Aj tt id T
 | .nilCheck x=>OY ev ob x
 | .load T x=>E8 tt ev ob T x
 | .store T x y=>zQ tt ev ob dst T x y
 | .fieldAddr s x j=>Ak tt ev ob s x j
 | .indexAddr T x y=>yG tt ev ob T x y
 | .makeSlice T x y=>Ig tt ev id T x y
 | .buildSlice T k ps=>vq tt ev ob id T k ps.toList
 | .build T ps=>zF tt ev ob T ps.toList
 | .slice T x lo hi UG=>zB tt ev T x lo hi
 | .makeFunc f fs cs=>hdL (fs.toList.map ev) λa=>hdL (cs.toList.map ev) λb=>AO.val (.fn f a b)
 | .call c=>Gw tt ev ob id c
 |_=>UG
end
variable{v:V}
section
theorem vf{av:Av}{vs:List V}(h:Rel w m av R (.agg vs) u):Rel w m av R (Sk vs) u:=by
 unfold Sk;split
 .rename_i ps hps;have e:=V.wu hps;subst e;exact h.plain
 exact h
theorem bd{a:Option α}{x:α}(h:(bif b then a else UG)=UF x):b=VA/\a=UF x:=by
 cases b
 .cases h
 exact⟨O,h⟩
theorem kD{o:Option Ob}(h:cL o=VA):∃q,o=UF q/\q.real=VA:=by
 cases o with
 |none=>cases h
 |some q=>exact⟨q,O,h⟩
theorem dR{ob':Nat->Option Ob}:∀{v:V},(∀i∈v.id1,ob i=ob' i)->v.cG ob=v.cG ob'
 | .pv _,_=>rfl
 | .ptr i o,h=>by simp only[V.cG,h i (by simp[V.id1])]
 | .osl i _ _,h=>by simp only[V.cG,h i (by simp[V.id1])]
 | .tsl _ _ _,_=>rfl
 | .gsl _ _ _,_=>rfl
 | .map i,h=>by simp only[V.cG,h i (by simp[V.id1])]
 | .agg _,_=>rfl
 | .tup _,_=>rfl
 | .fn _ _ _,_=>rfl
theorem Ek{ob':Nat->Option Ob}(h:∀i∈v.ids,ob i=ob' i):(∀c∈v.cells,c.cG ob=c.cG ob')/\v.cG ob=v.cG ob':=by
 cases v with
 | pv p=>
   refine⟨λc hc=>?_,O⟩;cases p<;>simp[V.cells]at hc<;>first|(subst hc;rfl)|(obtain⟨_,_,rfl⟩:=hc;rfl)
 |agg cs=>exact⟨λc hc=>dR λi hi=>h i (by simp only[V.ids,Uk];exact⟨c,by simpa[V.cells]using hc,hi⟩),O⟩
 |ptr i o=>exact⟨λc hc=>by simp only[V.cells,TF]at hc;subst hc;exact dR h,dR h⟩
 |osl i s k=>exact⟨λc hc=>by simp only[V.cells,TF]at hc;subst hc;exact dR h,dR h⟩
 |map i=>exact⟨λc hc=>by simp only[V.cells,TF]at hc;subst hc;exact dR h,dR h⟩
 |_=>exact⟨λc hc=>by simp only[V.cells,TF]at hc;subst hc;rfl,O⟩
theorem Be{ob':Nat->Option Ob}(h:∀i∈v.ids,ob i=ob' i):(v.cells.all (λc=>c.leaf&&c.cG ob)&&v.cG ob)=(v.cells.all (λc=>c.leaf&&c.cG ob')&&v.cG ob'):=by
 have hc:=Ek h;rw[hc.2]
 congr 1
 rw[TY,OF,OF];exact⟨λk c hm=>by rw[<-hc.1 c hm];exact k c hm,λk c hm=>by rw[hc.1 c hm];exact k c hm⟩
theorem iX{place:Nat->Option (Nat×Nat)}{ob':Nat->Option Ob}:∀(l:List (Nat×V))(cells:List V),(∀p∈l,∀i∈p.2.ids,ob i=ob' i)->fH place ob cells l=fH place ob' cells l
 |[],_,_=>rfl
 | (i,v)::l,cells,h=>by
   have hv:=Be (v:=v) (h (i,v) Xn);have ih:=λc=>iX (place:=place) l c (λp hp=>h p (by simp[hp]))
   simp only[fH];split
   .rfl
   grind
section
variable {C:Ctx}{n:Nat}{τ:St}{dst:Option Tmp}{ty t t':TypeId}{pos:String}{after:Array Edge}{gd:Option (Nat×Bool)}{x y:Operand}{tt:TT}{ev:Operand->V}{ob:Nat->Option Ob}{id:Nat}{ao:AO}
theorem Nf{op:BinOp}{k:IntKind}{i j:Int}(h:Qg op k i j=UF ao)(D:ao.φ)(A:τ.ev n x= .pv (.int k i))(B:τ.ev n y= .pv (.int k j)):XJ C n ⟨dst,.binOp op t x y t',ty,pos,after,gd⟩ τ ao.s:=by
 have q:∀{a b:AO},(bif kEq k .i64 then UF a else UF b)=UF ao->(k= .i64/\a=ao)\/b=ao:=fun{a b} h=>by
  cases hk:kEq k .i64 with
  |true=>rw[hk]at h;exact .inl ⟨fC hk,by simpa using h⟩
  |false=>rw[hk]at h;exact .inr (by simpa using h)
 cases op<;>simp only[Qg]at h
 case add=>rcases q h with⟨rfl,rfl⟩|rfl;exact l9 A B D;exact ba A B O
 case sub=>rcases q h with⟨rfl,rfl⟩|rfl;exact Np A B D;exact ba A B O
 case mul=>rcases q h with⟨rfl,rfl⟩|rfl;exact GZ A B D;exact ba A B O
 case quo=>cases h;exact dJ A B D
 case rem=>cases h;exact fZ A B D
 case shl=>cases h
 case shr=>cases h
 all_goals (simp only[vx]at h;cases h;exact ba A B O)
theorem Cy(h:a<18446744073709551616):IntKind.u64.wrap (a:Int)=a:=IntWalk.u64_in _ Xj
theorem vR{b:Nat}(q:τ.ev n x= .pv (.int .u64 (a:Int)))(A:τ.ev n y= .pv (.int .u64 (b:Int)))(h:a+b<18446744073709551616):XJ C n ⟨dst,.binOp .add t x y t',ty,pos,after,gd⟩ τ ⟨.pv (.int .u64 ((a+b:Nat):Int)),[],[]⟩:=
 ba q A (by simp only[vx];rw[<-Int.natCast_add,Cy h])
theorem tD{b:Nat}(q:τ.ev n x= .pv (.int .u64 (a:Int)))(A:τ.ev n y= .pv (.int .u64 (b:Int)))(h:b<=a/\a<18446744073709551616):XJ C n ⟨dst,.binOp .sub t x y t',ty,pos,after,gd⟩ τ ⟨.pv (.int .u64 ((a-b:Nat):Int)),[],[]⟩:=
 ba q A (by simp only[vx];rw[show(a:Int)-b=((a-b:Nat):Int) by omega,Cy Xj])
theorem qN{b:Nat}(q:τ.ev n x= .pv (.int .u64 (a:Int)))(A:τ.ev n y= .pv (.int .u64 (b:Int)))(h:a*b<18446744073709551616):XJ C n ⟨dst,.binOp .mul t x y t',ty,pos,after,gd⟩ τ ⟨.pv (.int .u64 ((a*b:Nat):Int)),[],[]⟩:=
 ba q A (by simp only[vx];rw[<-Vn,Cy h])
theorem qR{b:Nat}(A:τ.ev n x= .pv (.int .u64 (a:Int)))(B:τ.ev n y= .pv (.int .u64 (b:Int)))(h:0<b/\a<18446744073709551616):XJ C n ⟨dst,.binOp .quo t x y t',ty,pos,after,gd⟩ τ ⟨.pv (.int .u64 ((a/b:Nat):Int)),[],[]⟩:=by
 have q:=dJ (C:=C) (n:=n) (dst:=dst) (ty:=ty) (pos:=pos) (after:=after) (gd:=gd) (t:=t) (t':=t') A B Xj;rw[show(a:Int).tdiv b=((a/b:Nat):Int)from O,Cy (Wq (Xd _ _) h.2)]at q;exact q
theorem qg{b:Nat}(q:τ.ev n x= .pv (.int .u64 (a:Int)))(A:τ.ev n y= .pv (.int .u64 (b:Int)))(h:0<b):XJ C n ⟨dst,.binOp .rem t x y t',ty,pos,after,gd⟩ τ ⟨.pv (.int .u64 ((a%b:Nat):Int)),[],[]⟩:=
 fZ (C:=C) (n:=n) (dst:=dst) (ty:=ty) (pos:=pos) (after:=after) (gd:=gd) (t:=t) (t':=t') q A Xj
theorem I7{op:BinOp}{k:IntKind}{i j:Int}(h:HL op k i j=UF ao)(q:ao.φ)(A:τ.ev n x= .pv (.int k i))(B:τ.ev n y= .pv (.int k j)):XJ C n ⟨dst,.binOp op t x y t',ty,pos,after,gd⟩ τ ao.s:=by
 unfold HL at h;split at h
 .split at h
  .cases h;exact vR A B q
  cases h
 .split at h
  .cases h;exact tD A B q
  cases h
 .split at h
  .cases h;exact qN A B q
  cases h
 .split at h
  .cases h;exact qR A B q
  cases h
 .split at h
  .cases h;exact qg A B q
  cases h
 exact Nf h q A B
theorem Ld(D:tt.Ok C.P){op:BinOp}(h:ON tt ev op t x y=UF ao)(E:ao.φ)(q:τ.ev n x=ev x)(A:τ.ev n y=ev y):XJ C n ⟨dst,.binOp op t x y t',ty,pos,after,gd⟩ τ ao.s:=by
 unfold ON at h;split at h
 .rename_i k i k' j e1 e2;have q:=q.trans e1;have A:=A.trans e2;have h:=bd h;have:=fC h.1;subst this;replace h:=h.2;exact I7 h E q A
 .grind[tf,jm]
 .rename_i a b e1 e2;have q:=q.trans e1;have A:=A.trans e2;split at h
  .rename_i ti hti;have B:=D.go hti;split at h
   .rename_i hk;cases h;exact O0 (B.bool hk) q A
   .rename_i hk;cases h;exact Pg (B.bool hk) q A
   cases h
  cases h
 .rename_i b k cs e1 e2;have q:=q.trans e1;split at h
  .split at h
   .rename_i ti hti;have B:=D.go hti;split at h
    .rename_i hk;cases h;exact EV (B.sl hk) q
    .rename_i hk;cases h;exact Ih (B.sl hk) q
    cases h
   cases h
  cases h
 cases h
theorem OU{op:UnOp}(h:aoUn ev op x=UF ao)(q:ao.φ)(A:τ.ev n x=ev x):XJ C n ⟨dst,.unOp op t x,ty,pos,after,gd⟩ τ ao.s:=by
 unfold aoUn at h;split at h
 .grind[R8]
 .grind[NU]
 cases h
theorem J9(A:tt.Ok C.P)(h:JC tt ev src d x=UF ao)(B:ao.φ)(q:τ.ev n x=ev x):XJ C n ⟨dst,.convert src d x,ty,pos,after,gd⟩ τ ao.s:=by
 unfold JC at h;split at h
 .rename_i e1 e2 e3;have q:=q.trans e1;obtain⟨d,hs,_⟩:=(A.go e2).kind;split at h
  .rename_i hk;cases h;exact jC hs ((A.go e3).int hk) q
  cases h
 .rename_i e1 e2 e3;have q:=q.trans e1;obtain⟨d,hs,_⟩:=(A.go e2).kind;split at h
  .rename_i e hk;split at h
   .rename_i te hte;split at h
    .rename_i hke;cases h;exact Ta hs ((A.go e3).sl hk) ((A.go hte).int hke) q B
    cases h
   cases h
  cases h
 cases h
theorem LA(h:OW ev x i=UF ao)(q:τ.ev n x=ev x):XJ C n ⟨dst,.extract x i,ty,pos,after,gd⟩ τ ao.s:=by grind[OW,bz,kT,DJ]
theorem KI(h:P8 ev ob id T x=UF ao)(q:τ.ev n x=ev x)(B:∀i∈ao.rd,τ.ob i=ob i)(A:∀i∈ao.s.nw,τ.av i=VA):XJ C n ⟨dst,.box T x,ty,pos,after,gd⟩ τ ao.s:=by
 unfold P8 at h;rw[kT]at h;split at h
 .rename_i e;rw[jO]at h;obtain⟨hl,h⟩:=bd h;cases h;rw[e]at hl ⊢;exact rA id (A id Xn) (q.trans e) hl (by rintro _ _ ⟨⟩) (by rintro _ _ _ ⟨⟩) (by rintro _ ⟨⟩)
 .rename_i e;rw[jO]at h;obtain⟨hl,h⟩:=bd h;cases h;rw[e]at hl ⊢;exact rA id (A id Xn) (q.trans e) hl (by rintro _ _ ⟨⟩) (by rintro _ _ _ ⟨⟩) (by rintro _ ⟨⟩)
 .rename_i i o e;obtain⟨hl,h⟩:=bd h;cases h;exact rA id (A id Xn) (q.trans e) O (by rintro _ _ ⟨⟩;rw[B i Xn];exact hl) (by rintro _ _ _ ⟨⟩) (by rintro _ ⟨⟩)
 .rename_i i s k e;obtain⟨hl,h⟩:=bd h;cases h;exact rA id (A id Xn) (q.trans e) O (by rintro _ _ ⟨⟩) (by rintro _ _ _ ⟨⟩;rw[B i Xn];exact hl) (by rintro _ ⟨⟩)
 .rename_i i e;obtain⟨hl,h⟩:=bd h;cases h;exact rA id (A id Xn) (q.trans e) O (by rintro _ _ ⟨⟩) (by rintro _ _ _ ⟨⟩) (by rintro _ ⟨⟩;rw[B i Xn];exact hl)
 .rename_i e;cases h;exact rA id (A id Xn) (q.trans e) O (by rintro _ _ ⟨⟩) (by rintro _ _ _ ⟨⟩) (by rintro _ ⟨⟩)
 .rename_i e;cases h;exact rA id (A id Xn) (q.trans e) O (by rintro _ _ ⟨⟩) (by rintro _ _ _ ⟨⟩) (by rintro _ ⟨⟩)
 .cases h
 cases h
theorem TGood.zeroV{i:TI}(h:TGood P t i)(e:i.zero=UF zs):∃z,(P.info? t).map (·.zero)=UF (UF z)/\z.cells.toList.map gB=zs:=by
 obtain⟨z,h1,h2⟩:=h.zero zs e;refine⟨z,?_,h2⟩;cases hq:P.info? t with
 |none=>rw[hq]at h1;cases h1
 |some inf=>rw[hq]at h1;simp at h1;simp[h1.1]
theorem Et(q:tt.Ok C.P)(h:Aj tt id T=UF ao)(A:∀i∈ao.s.nw,τ.av i=VA):XJ C n ⟨dst,.alloc T,ty,pos,after,gd⟩ τ ao.s:=by
 unfold Aj at h;split at h
 .rename_i ti hti;split at h
  .rename_i zs hz;rw[jO]at h;cases h;obtain⟨z,h1,h2⟩:=(q.go hti).zeroV hz;exact Mr id h1 h2 (A id Xn)
  cases h
 cases h
theorem KR(h:OY ev ob x=UF ao)(A:τ.ev n x=ev x)(B:∀i∈ao.rd,τ.ob i=ob i):XJ C n ⟨dst,.nilCheck x,ty,pos,after,gd⟩ τ ao.s:=by
 unfold OY at h;split at h
 .rename_i i off e;obtain⟨hl,h⟩:=bd h;cases h;obtain⟨q,hq,hr⟩:=kD hl;exact yH (A.trans e) ((B i Xn).trans hq) hr
 .grind[xH]
 cases h
theorem H7(D:tt.Ok C.P)(h:E8 tt ev ob T x=UF ao)(A:τ.ev n x=ev x)(B:∀i∈ao.rd,τ.ob i=ob i):XJ C n ⟨dst,.load T x,ty,pos,after,gd⟩ τ ao.s:=by
 unfold E8 at h;split at h
 .cases h
 rename_i ti hti;have q:=D.go hti;split at h
 .rename_i i off e;split at h
  .rename_i T' cs hob;cases hr:ti.k.row with
   | true=>
     rw[hr]at h;simp only[U3,jO,kT]at h;obtain⟨hl,h⟩:=bd h;cases h;exact(Lu (q.isRow hr) q.size (A.trans e) ((B i Xn).trans hob) O (cd hl)).Qw λ_ _ _ _ _=>vf
   | false=>
     rw[hr]at h;simp only[Ue]at h;split at h
     .rename_i v hv;rw[kT]at h;cases h;exact o6 (q.gT hr) (A.trans e) ((B i Xn).trans hob) hv
     cases h
  .rename_i T' cs hob;cases hr:ti.k.row with
   |true=>rw[hr]at h;cases h
   | false=>
     rw[hr]at h;simp only[Ue]at h;split at h
     .rename_i v hv;cases h;exact dA (q.gT hr) (A.trans e) ((B i Xn).trans hob) hv
     cases h
  cases h
 .rename_i cs off e;cases hr:ti.k.row with
  | true=>
    rw[hr]at h;simp only[U3]at h;obtain⟨hl,h⟩:=bd h;cases h;exact aG (q.isRow hr) q.size (A.trans e) O (cd hl)
  | false=>
    rw[hr]at h;simp only[Ue]at h;split at h
    .rename_i v hv;cases h;exact az (q.gT hr) (A.trans e) hv
    cases h
 cases h
theorem Ez(J:tt.Ok C.P)(h:zQ tt ev ob dst T x y=UF ao)(L:ao.φ)(H:τ.ev n x=ev x)(I:τ.ev n y=ev y)(B:∀i∈ao.rd,τ.ob i=ob i):XJ C n ⟨dst,.store T x y,ty,pos,after,gd⟩ τ ao.s:=by
 unfold zQ at h;split at h
 .rename_i ti i off hti e;have D:=J.go hti;split at h
  .rename_i T' cs hob;rw[kT,jO]at h;obtain⟨hl,h⟩:=bd h;rw[jO]at h;cases h;simp only[du]at hl;have q:∀j∈(ev y).ids,τ.ob j=ob j:=λj hj=>B j (by simp[hj])
   have A:=Be q;have E:((ev y).cells.all (λc=>c.leaf&&c.cG ob)&&(ev y).cG ob)=VA:=by simp only[du];exact hl.2.2
   rw[<-A]at E;have G:=Bool.and_eq_true_iff.1 E;exact o8 D.size (H.trans e) ((B i Xn).trans hob) I (cd hl.1) (TV hl.2.1) G.1 G.2
  .rename_i T' cs hob;split at h
   .rename_i v hv;obtain⟨hl,h⟩:=bd h;cases h;simp only[du]at hl;exact dB (by rw[<-cd hl.1];exact D.size) (H.trans e) ((B i Xn).trans hob) (I.trans hv) hl.2 L
   cases h
  cases h
 cases h
theorem EN(D:tt.Ok C.P){s:TypeId}(h:Ak tt ev ob s x j=UF ao)(E:τ.ev n x=ev x)(G:∀i∈ao.rd,τ.ob i=ob i):XJ C n ⟨dst,.fieldAddr s x j,ty,pos,after,gd⟩ τ ao.s:=by
 unfold Ak at h;split at h
 .cases h
 rename_i ti hti;have A:=D.go hti;split at h
 .rename_i pl hk;split at h
  .rename_i o q hp;cases hq0:Nat.beq q 0 with
   |true=>rw[hq0]at h;cases h
   |false=>
   rw[hq0]at h;simp only[Ue]at h;have B:=A.gV hk hp hq0;split at h
   .rename_i i off e;obtain⟨hl,h⟩:=bd h;cases h;obtain⟨q,hq,hr⟩:=kD hl;exact wK B (E.trans e) ((G i Xn).trans hq) hr
   .rename_i e;cases h;exact ve B (E.trans e)
   cases h
  cases h
 cases h
theorem DE(A:tt.Ok C.P)(h:yG tt ev ob T x y=UF ao)(B:ao.φ)(E:τ.ev n x=ev x)(G:τ.ev n y=ev y)(H:∀i∈ao.rd,τ.ob i=ob i):XJ C n ⟨dst,.indexAddr T x y,ty,pos,after,gd⟩ τ ao.s:=by
 unfold yG at h;split at h
 .cases h
 rename_i ti hti;have D:=A.go hti;split at h
 .rename_i e hk;split at h
  .cases h
  rename_i tk sz by_ zr hte;split at h
  .rename_i kk j e2;split at h
   .rename_i bn k cs e1;cases h;exact ag j (D.sl hk) (A.go hte).size (E.trans e1) (G.trans e2) O B.1 B.2
   .rename_i i s k e1;obtain⟨hl,h⟩:=bd h;cases h;obtain⟨q,hq,hr⟩:=kD hl;exact ak j (D.sl hk) (A.go hte).size (E.trans e1) ((H i Xn).trans hq) (G.trans e2) O B hr
   cases h
  cases h
 cases h
theorem TGood.elem{te:TI}(h:TGood P e te)(q:te.zero=UF zs)(A:P.underlying t=UF (.slice e))(B:zs.length=te.size)(D:0<te.size)(E:te.bytes<=1000):∃z,ElemIs P t e z te.size te.bytes/\z.cells.toList.map gB=zs:=by
 obtain⟨z,h1,h2⟩:=h.zero zs q;exact⟨z,⟨A,h1,by rw[<-B,<-h2];simp,D,E⟩,h2⟩
theorem Fk(q:tt.Ok C.P)(h:Ig tt ev id T x y=UF ao)(B:ao.φ)(A:τ.ev n x=ev x)(D:∀i∈ao.s.nw,τ.av i=VA):XJ C n ⟨dst,.makeSlice T x y,ty,pos,after,gd⟩ τ ao.s:=by
 unfold Ig at h;split at h
 .cases h
 rename_i ti hti;split at h
 .rename_i e hk;split at h
  .cases h
  rename_i tk sz by_ zr hte;split at h
  .rename_i zs kk k e1;obtain⟨hl,h⟩:=bd h;cases h;simp only[du]at hl;obtain⟨z,h1,h2⟩:=(q.go hte).elem O ((q.go hti).sl hk) (cd hl.2.1) (by simpa[VG]using hl.2.2.1) (TV hl.2.2.2);obtain rfl:=Hl hl.1;exact qB id k h1 h2 (A.trans e1) (A.trans e1) O O B (D id Xn)
  cases h
 cases h
theorem zL(q:tt.Ok C.P){ps:Array (Nat×Operand)}(h:vq tt ev ob id T k ps.toList=UF ao)(A:∀p∈ps.toList,τ.ev n p.2=ev p.2)(B:∀i∈ao.rd,τ.ob i=ob i)(D:∀i∈ao.s.nw,τ.av i=VA):XJ C n ⟨dst,.buildSlice T k ps,ty,pos,after,gd⟩ τ ao.s:=by
 unfold vq at h;split at h
 .cases h
 rename_i ti hti;split at h
 .rename_i e hk;split at h
  .cases h
  rename_i tk sz by_ zr hte;split at h
  .rename_i zs hte;obtain⟨hl,h⟩:=bd h;simp only[du]at hl;obtain⟨z,h1,h2⟩:=(q.go hte).elem O ((q.go hti).sl hk) (cd hl.1) (by simpa[VG]using hl.2.1) (TV hl.2.2.1);split at h
   .grind[Ud,uJ,VG,TV,iX,TG.1,Uk.2]
   cases h
  cases h
 cases h
theorem DT(q:tt.Ok C.P){ps:Array (Nat×Operand)}(h:zF tt ev ob T ps.toList=UF ao)(B:∀p∈ps.toList,τ.ev n p.2=ev p.2)(D:∀i∈ao.rd,τ.ob i=ob i):XJ C n ⟨dst,.build T ps,ty,pos,after,gd⟩ τ ao.s:=by
 have A:(ps.toList.map λp=>(p.1,τ.ev n p.2))=ps.toList.map λp=>(p.1,ev p.2):=Ud λp hp=>by rw[B p hp]
 unfold zF at h;split at h
 .cases h
 rename_i ti hti;split at h
 .rename_i zs pl hz hk;split at h
  .rename_i vs hf;rw[jO,kT]at h;cases h;obtain⟨z,h1,h2⟩:=(q.go hti).zeroV hz;refine XJ.Qw (BX (.struct h1 h2 ((q.go hti).st hk)) ?_) λ_ _ _ _ _=>vf
   rw[A,iX (ob':=ob) _ _ (λp hp i hi=>?_)]
   .exact hf
   grind
  cases h
 .rename_i zs len e hz hk;split at h
  .rename_i te hte;split at h
   .rename_i vs hf;rw[jO,kT]at h;cases h;obtain⟨z,h1,h2⟩:=(q.go hti).zeroV hz;refine XJ.Qw (BX (.array ((q.go hti).arr hk) h1 h2 (q.go hte).size) ?_) λ_ _ _ _ _=>vf
    rw[A,iX (ob':=ob) _ _ (λp hp i hi=>?_)]
    .exact hf
    grind
   cases h
  cases h
 cases h
theorem Nb(D:tt.Ok C.P)(h:PC tt ev ob t x=UF ao)(B:τ.ev n x=ev x)(E:∀i∈ao.rd,τ.ob i=ob i):XJ C n ⟨dst,.call { callee:= .builtin .len,args:= #[x],argTypes:= #[t] },ty,pos,after,gd⟩ τ ao.s:=by
 unfold PC at h;split at h
 .cases h
 rename_i ti hti;have A:=D.go hti;split at h
 .rename_i hk e;cases h;exact IL (A.str hk) (B.trans e)
 .rename_i hk e;cases h;exact RV (A.sl hk) (B.trans e)
 .rename_i i s k hk e;obtain⟨hl,h⟩:=bd h;cases h;obtain⟨q,hq,hr⟩:=kD hl;exact QD (A.sl hk) (B.trans e) ((E i Xn).trans hq) hr
 .rename_i hk e;cases h;exact OE (A.sl hk) (B.trans e)
 cases h
theorem MB(L:tt.Ok C.P)(h:Pc tt ev ob id t t' x y=UF ao)(E:ao.φ)(M:τ.ev n x=ev x)(U:τ.ev n y=ev y)(G:∀i∈ao.rd,τ.ob i=ob i)(W:∀i∈ao.s.nw,τ.av i=VA):XJ C n ⟨dst,.call { callee:= .builtin .append,args:= #[x,y],argTypes:= #[t,t'] },ty,pos,after,gd⟩ τ ao.s:=by
 unfold Pc at h;split at h
 .cases h
 rename_i ti hti;split at h
 .rename_i e hk;split at h
  .cases h
  rename_i tk sz by_ zr hte;split at h
  .rename_i zs hte;have A:=(bd h).1;replace h:=(bd h).2;simp only[du]at A;have H:t=t':=cd A.1;subst H;obtain⟨z,h1,h2⟩:=(L.go hte).elem O ((L.go hti).sl hk) (cd A.2.1) (by simpa[VG]using A.2.2.1) (TV A.2.2.2);split at h
   .rename_i i2 s2 e2;split at h
    .rename_i T2 news hob2;have B:=(bd h).1;replace h:=(bd h).2;simp only[du]at B;have I:=cd B.1;subst I;have D:=cd B.2.1;split at h
     .rename_i i s k e3;split at h
      .rename_i e' cs hob;have q:=(bd h).1;replace h:=(bd h).2;simp only[du]at q;have J:e'=e:=cd q.1;have es:=cd q.2;subst J es;cases h;exact sM id h1 (M.trans e3) ((G i Xn).trans hob) E.1 (U.trans e2) ((G i2 Xn).trans hob2) D B.2.2 E.2 (W id Xn)
      cases h
     .rename_i i s k e3;split at h
      .rename_i e' cs hob;have q:=(bd h).1;replace h:=(bd h).2;simp only[du]at q;have J:e'=e:=cd q.1;have es:=cd q.2;subst J es;cases h;exact iY id h1 (M.trans e3) ((G i Xn).trans hob) E.1 (U.trans e2) ((G i2 Xn).trans hob2) D B.2.2 E.2 (W id Xn)
      cases h
     .grind[Aa,trans]
     cases h
    cases h
   cases h
  cases h
 cases h
theorem Ec(G:tt.Ok C.P){lo hi:Option Operand}(h:zB tt ev T x lo hi=UF ao)(A:ao.φ)(q:τ.ev n x=ev x)(B:∀y,lo=UF y->τ.ev n y=ev y)(D:∀y,hi=UF y->τ.ev n y=ev y):XJ C n ⟨dst,.slice T x lo hi UG,ty,pos,after,gd⟩ τ ao.s:=by
 unfold zB at h;split at h
 .cases h
 rename_i ti hti;have E:=G.go hti;split at h
 .rename_i z hk e;have q:=q.trans e;split at h
  .rename_i y;split at h
   .rename_i k2 hh e2;cases h;exact eC (kl:= .i64) (il:=0) UG (UF y) 0 hh (E.str hk) q Xn (λ_=>rfl) (by rintro _ ⟨⟩;exact⟨(D y O).trans e2,O⟩) Xn (aJ _) A
   cases h
  .rename_i y;split at h
   .rename_i k2 l e2;cases h;exact eC (kh:= .i64) (ih:=0) (UF y) UG l z.size (E.str hk) q (by rintro _ ⟨⟩;exact⟨(B y O).trans e2,O⟩) Xn Xn (λ_=>rfl) A (AT _)
   cases h
  .rename_i y y';split at h
   .rename_i k2 l k3 hh e2 e3;cases h;exact eC (UF y) (UF y') l hh (E.str hk) q (by rintro _ ⟨⟩;exact⟨(B y O).trans e2,O⟩) Xn (by rintro _ ⟨⟩;exact⟨(D y' O).trans e3,O⟩) Xn A.1 A.2
   cases h
  cases h
 .rename_i el b k cs hk e;have q:=q.trans e;split at h
  .cases h
  rename_i tk sz by_ zr hte;split at h
  .rename_i y;split at h
   .rename_i k2 hh e2;cases h;exact eS hh (E.sl hk) (G.go hte).size q ((D y O).trans e2) O A.1 A.2
   cases h
  .rename_i y;split at h
   .rename_i k2 l e2;cases h;exact xE l (E.sl hk) (G.go hte).size q ((B y O).trans e2) O A.1 A.2
   cases h
  cases h
 cases h
theorem Gs(A:tt.Ok C.P){c:Call}(h:Gw tt ev ob id c=UF ao)(B:ao.φ)(q:∀x∈c.args.toList,τ.ev n x=ev x)(D:∀i∈ao.rd,τ.ob i=ob i)(E:∀i∈ao.s.nw,τ.av i=VA):XJ C n ⟨dst,.call c,ty,pos,after,gd⟩ τ ao.s:=by
 obtain⟨callee,args,ats⟩:=c;obtain⟨args⟩:=args;obtain⟨ats⟩:=ats;unfold Gw at h;split at h
 .grind[Nb]
 .grind[MB]
 .rename_i x y t t' e1 e2 e3;simp only at e1 e2 e3;subst e1 e2 e3;split at h
  .rename_i k i k' j e1 e2;obtain⟨hk,h⟩:=bd h;cases h;have:=fC hk;subst this;exact BM ((q x Xn).trans e1) ((q y Xn).trans e2)
  cases h
 .rename_i x y t t' e1 e2 e3;simp only at e1 e2 e3;subst e1 e2 e3;split at h
  .rename_i k i k' j e1 e2;obtain⟨hk,h⟩:=bd h;cases h;have:=fC hk;subst this;exact sG ((q x Xn).trans e1) ((q y Xn).trans e2)
  cases h
 cases h
theorem Xv{p:Prop}(h:p:=by simp[Op.operands]):p:=h
theorem I9(A:tt.Ok C.P){op:Op}(h:auto tt ev ob id dst op=UF ao)(D:ao.φ)(q:∀x∈op.operands.toList,τ.ev n x=ev x)(B:∀i∈ao.rd,τ.ob i=ob i)(E:∀i∈ao.s.nw,τ.av i=VA):XJ C n ⟨dst,op,ty,pos,after,gd⟩ τ ao.s:=by
 cases op<;>simp only[auto,reduceCtorEq]at h
 case move x=>rw[kT]at h;cases h;exact pA (q x Xv)
 case assign x=>rw[kT]at h;cases h;exact Dd (q x Xv)
 case pick c x y=>
  split at h
  .rename_i b e;cases h;have:=Qc (C:=C) (n:=n) (σ:=τ) (dst:=dst) (ty:=ty) (pos:=pos) (after:=after) (gd:=gd) (x:=x) (y:=y) ((q c Xv).trans e);rw[q x Xv,q y Xv]at this;exact this
  cases h
 case binOp op t x y t'=>exact Ld A h D (q x Xv) (q y Xv)
 case unOp op t x=>exact OU h D (q x Xv)
 case convert src d x=>exact J9 A h D (q x Xv)
 case extract x i=>exact LA h (q x Xv)
 case box T x=>exact KI h (q x Xv) B E
 case alloc T=>exact Et A h E
 case nilCheck x=>exact KR h (q x Xv) B
 case load T x=>exact H7 A h (q x Xv) B
 case store T x y=>exact Ez A h D (q x Xv) (q y Xv) B
 case fieldAddr s x j=>exact EN A h (q x Xv) B
 case indexAddr T x y=>exact DE A h D (q x Xv) (q y Xv) B
 case makeSlice T x y=>exact Fk A h D (q x Xv) E
 case buildSlice T k ps=>exact zL A h (λp hp=>q p.2 (by simp only[Op.operands];exact TG.2 ⟨p,hp,O⟩)) B E
 case build T ps=>exact DT A h (λp hp=>q p.2 (by simp only[Op.operands];exact TG.2 ⟨p,hp,O⟩)) B
 case slice T x lo hi mx=>
  cases mx with
  |some _=>simp at h
  | none=>
    simp only at h;refine Ec A h D (q x Xv) (λy hy=>q y ?_) (λy hy=>q y ?_)<;>subst hy<;>simp[Op.operands]
 case makeFunc f fs cs=>
  rw[jO,jO]at h;cases h;have G:fs.toList.map (τ.ev n)=fs.toList.map ev:=Ud λx hm=>q x (by simp[Op.operands]at hm ⊢; exact .inl hm)
  have H:cs.toList.map (τ.ev n)=cs.toList.map ev:=Ud λx hm=>q x (by simp[Op.operands]at hm ⊢; exact .inr hm)
  show XJ _ _ _ _ ⟨.fn f (fs.toList.map ev) (cs.toList.map ev),[],[]⟩;rw[<-G,<-H];exact zP
 case call c=>exact Gs A h D (λx hm=>q x (by simp[Op.operands,Call.operands];exact .inr (by simpa using hm))) B E
end
def Hf{α:Type}(av:Av)(z:α)(f:Nat->α):List Nat->α
 |[]=>z
 |i::l=>bif av i then f i else Hf av z f l
theorem r9{av:Av}{f:Nat->Option α}{x:α}:∀{l:List Nat},Hf av UG f l=UF x->∃i,f i=UF x
 |[],h=>by cases h
 | i::l,h=>by
   simp only[Hf]at h;cases hb:av i with
   |true=>rw[hb]at h;exact⟨i,h⟩
   |false=>rw[hb]at h;exact r9 h
def PA:Op->Bool
 | .box _ _| .alloc _| .makeSlice _ _ _| .buildSlice _ _ _=>VA
 | .call c=>match c.callee with| .builtin .append=>VA|_=>VC
 |_=>VC
def ni(ops:Array Oper)(n:Nat)(σ:St)(o:Oper):Option Bool:=
 match o.guard with
 |none=>UF VA
 | some (j,want)=>match σ.ev n (.tmp (((ops[j]?).bind (·.dst)).getD n))with
   | .pv (.bool VA)=>UF want
   | .pv (.bool VC)=>UF (!want)
   | .pv (.tup [])=>UF VC
   |_=>UG
def evK(n:Nat)(σ:St):Operand->V
 | .const (.int k i)=> .pv (.int k i)
 | .const (.bool b)=> .pv (.bool b)
 | .const (.string s)=> .pv (.str s)
 | .const (.slice UG 0 0)=> .pv (.sl (UF VA) 0 [])
 | .const (.pointer UG)=> .pv .nilptr
 | .const (.map UG)=> .pv .nilmap
 | .const .nilFunc=> .pv .nilfn
 | .const .nilIface=> .pv .niliface
 |x=>σ.ev n x
theorem NN(n:Nat)(σ:St):evK n σ=σ.ev n:=by
 funext x;unfold evK;split<;>rfl
def eP(tt:TT)(ops:Array Oper)(n:Nat)(σ:St)(o:Oper):Option (Option Tmp×AO):=
 match ni ops n σ o with
 | some VA=>match (bif PA o.op then Hf σ.av UG (λid=>auto tt (evK n σ) σ.ob id o.dst o.op) [0,1,2,3,4,5,6,7,8,9,10,11,12,13,14,15,16,17,18,19,20,21,22,23,24,25,26,27,28,29,30,31,32,33,34,35,36,37,38,39,40,41,42,43,44,45,46,47,48,49]else auto tt (evK n σ) σ.ob 0 o.dst o.op)with
   |some ⟨s,rd,φ⟩=>bif s.nw.all σ.av then UF (o.dst,⟨s,rd,φ⟩)else UG
   |none=>UG
 |some VC=>UF (o.dst,⟨⟨und,[],[]⟩,[],True⟩)
 |none=>UG
section
variable {C:Ctx}{n:Nat}{σ:St}{ops:Array Oper}{o:Oper}{os:List Oper}{K:St->Prop}{tt:TT}{d:Option Tmp}{s:OS}{rd:List Nat}{φ:Prop}
theorem xh{ev:Operand->V}{dst:Option Tmp}{op:Op}{av:Av}{l:List Nat}{ao:AO}(h:(bif PA op then Hf av UG (λid=>auto tt ev ob id dst op) l else auto tt ev ob 0 dst op)=UF ao):∃id,auto tt ev ob id dst op=UF ao:=by grind[PA,r9]
theorem fc(h:ni ops n σ o=UF b):(o.guard=UG/\b=VA)\/∃j want v,o.guard=UF (j,want)/\(σ.ev n (.tmp (((ops[j]?).bind (·.dst)).getD n))).gd=UF v/\(v=UF want↔b=VA):=by
 unfold ni at h;split at h
 .grind
 rename_i j want e;refine .inr ⟨j,want,?_⟩;split at h
 .rename_i e2;cases h;exact⟨UF VA,e,V.tI e2,by cases b<;>simp⟩
 .rename_i e2;cases h;exact⟨UF VC,e,V.tI e2,by cases want<;>simp⟩
 .rename_i e2;cases h;exact⟨UG,e,by rw[e2];rfl,Xn⟩
 cases h
theorem RL.auto(A:tt.Ok C.P)(h:eP tt ops n σ o=UF (d,⟨s,rd,φ⟩))(k:RL C n ops os K (σ.app d s))(B:φ):RL C n ops (o::os) K σ:=by
 obtain⟨dst,op,ty,pos,after,gd⟩:=o;unfold eP at h;split at h
 .rename_i hg;split at h
  .rename_i s' rd' φ' hao;obtain⟨id,hao⟩:=xh hao;rw[NN]at hao;obtain⟨hn,h⟩:=bd h;cases h;have q:XJ C n ⟨dst,op,ty,pos,after,gd⟩ σ s:=I9 A hao B (λ_ _=>rfl) (λ_ _=>rfl) (λi hi=>OF.1 hn i hi);rcases fc hg with⟨e,_⟩|⟨j,want,v,e,hv,hb⟩
   .exact RL.step e O q k
   simp only at e;subst e;simp only[RL];exact⟨v,λa w ⟨m,R,hw⟩=>fQ hw hv,λ_=>q.mono λ_ e=>e▸k,λe=>absurd (hb.2 O) e⟩
  cases h
 .rename_i hg;cases h;rcases fc hg with⟨_,e⟩|⟨j,want,v,e,hv,hb⟩
  .cases e
  simp only at e;subst e;simp only[RL];refine⟨v,λa w ⟨m,R,hw⟩=>fQ hw hv,(λe=>by have:=hb.1 e;cases this),λ_ a w ⟨m,R,hw⟩=>⟨_,k,m,R,?_⟩⟩;rw[St.iV];exact hw.put _ (I6 _ _ _ _)
 cases h
theorem DL.auto{acc:List It}(D:tt.Ok C.P)(A:ops[i]? =UF o)(h:eP tt ops n σ o=UF (d,⟨s,rd,φ⟩))(k:DL C n ops cl is (⟨i,o,s,s.wr.map (·.1),s.nw,rd⟩::acc) K (σ.app d s))(E:φ)(hc:gW ops n cl ⟨i,o,s,s.wr.map (·.1),s.nw,rd⟩ acc=VA):DL C n ops cl (i::is) acc K σ:=by
 obtain⟨dst,op,ty,pos,after,gd⟩:=o;unfold eP at h;split at h
 .rename_i hg;split at h
  .rename_i s' rd' φ' hao;obtain⟨id,hao⟩:=xh hao;rw[NN]at hao;obtain⟨hn,h⟩:=bd h;cases h;have B:∀τ,Agr n ops ⟨dst,op,ty,pos,after,gd⟩ σ τ s rd->XJ C n ⟨dst,op,ty,pos,after,gd⟩ τ s:=λτ ha=>I9 D hao E (λx hm=>by
    obtain⟨q,hq⟩:=UX hm;exact ha.e q x hq) (λi hi=>by
    obtain⟨q,hq⟩:=UX hi;exact ha.o q i hq) (λi hi=>by
    obtain⟨q,hq⟩:=UX hi;exact ha.n q i hq)
   rcases fc hg with⟨e,_⟩|⟨j,want,v,e,hv,hb⟩
   .exact DL.step rd A e O B hn hc k
   simp only at e;subst e;refine⟨_,A,.inl ⟨s,rd,λτ ha=>?_,hn,hc,k⟩⟩;simp only;exact⟨v,by rw[ha.g _ (by simp only[DY])];exact hv,λ_=>B τ ha,λe=>absurd (hb.2 O) e⟩
  cases h
 .rename_i hg;cases h;rcases fc hg with⟨_,e⟩|⟨j,want,v,e,hv,hb⟩
  .cases e
  simp only at e;subst e;refine⟨_,A,.inl ⟨⟨und,[],[]⟩,[],λτ ha=>?_,O,hc,k⟩⟩;simp only;exact⟨v,by rw[ha.g _ (by simp only[DY])];exact hv,(λe=>by have:=hb.1 e;cases this),λ_=>trivial⟩
 cases h
def MJ(tt:TT)(ops:Array Oper)(n:Nat)(σ:St)(o:Oper):Option (Option Tmp×List PV×Nat×List Nat):=
 match ni ops n σ o,o.op with
 | some VA,.load T x=>match tt.get T with
   | some ti=>bif ti.k.row then UG else match σ.ev n x with
     | .pv (.rp cs off)=>UF (o.dst,cs,off,[])
     | .ptr i off=>match σ.ob i with
       |some (.cells _ cs)=>UF (o.dst,cs,off,[i])
       |_=>UG
     |_=>UG
   |none=>UG
 |_,_=>UG
def LO(tt:TT)(ops:Array Oper)(n:Nat)(σ:St)(o:Oper):Option (Option Tmp×List PV×Nat×Nat×List Nat):=
 match ni ops n σ o,o.op with
 | some VA,.load T x=>match tt.get T with
   | some ⟨k,sz,_,_⟩=>bif k.row then match σ.ev n x with
     | .pv (.rp cs off)=>UF (o.dst,cs,off,sz,[])
     | .ptr i off=>match σ.ob i with
       |some (.cells _ cs)=>UF (o.dst,cs,off,sz,[i])
       |_=>UG
     |_=>UG
     else UG
   |none=>UG
 |_,_=>UG
theorem RL.with(A:ni ops n σ o=UF VA)(B:o.dst=d)(q:XJ C n o σ ⟨v,[],[]⟩)(k:RL C n ops os K (σ.app d ⟨v,[],[]⟩)):RL C n ops (o::os) K σ:=by
 subst B;rcases fc A with⟨e,_⟩|⟨j,want,w,e,hv,hb⟩
 .exact RL.step e O q k
 simp only[RL,e];exact⟨w,λa w ⟨m,R,hw⟩=>fQ hw hv,λ_=>q.mono λ_ e=>e▸k,λe=>absurd (hb.2 O) e⟩
theorem DL.with{acc:List It}(rd:List Nat)(q:ops[i]? =UF o)(B:ni ops n σ o=UF VA)(D:o.dst=d)(A:∀τ,Agr n ops o σ τ ⟨v,[],[]⟩ rd->XJ C n o τ ⟨v,[],[]⟩)
  (k:DL C n ops cl is (⟨i,o,⟨v,[],[]⟩,[],[],rd⟩::acc) K (σ.app d ⟨v,[],[]⟩)) (hc:gW ops n cl ⟨i,o,⟨v,[],[]⟩,[],[],rd⟩ acc=VA):DL C n ops cl (i::is) acc K σ:=by
 subst D;rcases fc B with⟨e,_⟩|⟨j,want,w,e,hv,hb⟩
 .exact DL.step rd q e O A O hc k
 refine⟨_,q,.inl ⟨⟨v,[],[]⟩,rd,λτ ha=>?_,O,hc,k⟩⟩;simp only[e];exact⟨w,by rw[ha.g _ (by simp only[DY,e])];exact hv,λ_=>A τ ha,λe=>absurd (hb.2 O) e⟩
variable {cs:List PV}{off sz:Nat}{p:PV}{vs:List PV}
theorem sS(q:tt.Ok C.P)(h:MJ tt ops n σ o=UF (d,cs,off,rd))(A:cs[off]? =UF p):ni ops n σ o=UF VA/\o.dst=d/\∀τ,(∀x∈o.op.operands.toList,τ.ev n x=σ.ev n x)->(∀i∈rd,τ.ob i=σ.ob i)->XJ C n o τ ⟨.pv p,[],[]⟩:=by
 obtain⟨dst,op,ty,pos,after,gd⟩:=o;unfold MJ at h;split at h
 .rename_i T x hg hop;simp only at hop;subst hop;split at h
  .rename_i ti hti;cases hr:ti.k.row with
   |true=>rw[hr]at h;cases h
   | false=>
     rw[hr]at h;simp only[Ue]at h;split at h
     .rename_i e;cases h;exact⟨hg,O,λτ he _=>az ((q.go hti).gT hr) ((he x Xv).trans e) A⟩
     .rename_i e;split at h
      .rename_i e2;cases h;exact⟨hg,O,λτ he ho=>dA ((q.go hti).gT hr) ((he x Xv).trans e) ((ho _ Xn).trans e2) A⟩
      cases h
     cases h
  cases h
 cases h
theorem sg(q:tt.Ok C.P)(h:LO tt ops n σ o=UF (d,cs,off,sz,rd))(A:(cs.drop off).take sz=vs)(B:vs.length=sz):ni ops n σ o=UF VA/\o.dst=d/\∀τ,(∀x∈o.op.operands.toList,τ.ev n x=σ.ev n x)->(∀i∈rd,τ.ob i=σ.ob i)->XJ C n o τ ⟨.pv (.agg vs),[],[]⟩:=by
 obtain⟨dst,op,ty,pos,after,gd⟩:=o;unfold LO at h;split at h
 .rename_i T x hg hop;simp only at hop;subst hop;split at h
  .rename_i k sz' by_ zr hti;cases hr:k.row with
   |false=>rw[hr]at h;cases h
   | true=>
     rw[hr]at h;simp only[U3]at h;split at h
     .rename_i e;cases h;exact⟨hg,O,λτ he _=>aG ((q.go hti).isRow hr) (q.go hti).size ((he x Xv).trans e) A B⟩
     .rename_i e;split at h
      .rename_i e2;cases h;exact⟨hg,O,λτ he ho=>mH ((q.go hti).isRow hr) (q.go hti).size ((he x Xv).trans e) ((ho _ Xn).trans e2) A B⟩
      cases h
     cases h
  cases h
 cases h
theorem SF{o:Oper}{s:OS}{rd:List Nat}(h:Agr n ops o σ τ s rd):∀x∈o.op.operands.toList,τ.ev n x=σ.ev n x:=λx hm=>by
 obtain⟨q,hq⟩:=UX hm;exact h.e q x hq
theorem Sd{o:Oper}{s:OS}{rd:List Nat}(h:Agr n ops o σ τ s rd):∀i∈rd,τ.ob i=σ.ob i:=λi hm=>by
 obtain⟨q,hq⟩:=UX hm;exact h.o q i hq
end
end
theorem follows:prog.follows .mixedOrders=VA:=Xk
theorem sz3:bT prog 3 1:=by unfold bT;kernel_rfl
theorem sz4:bT prog 4 1:=by unfold bT;kernel_rfl
theorem sz5:bT prog 5 1:=by unfold bT;kernel_rfl
theorem sz9:bT prog 9 1:=by unfold bT;kernel_rfl
theorem sA:bT prog 22 1:=by unfold bT;kernel_rfl
theorem vY:ElemIs prog 22 3 (.int .i64 0) 1 8:=⟨Xk,Xk,O,Xl,Xl⟩
theorem el26:ElemIs prog 26 81 (.agg #[(.string ⟨#[]⟩),(.int .i64 0)]) 2 24:=⟨Xk,Xk,O,Xl,Xl⟩
theorem el27:ElemIs prog 27 33 (.agg #[(.string ⟨#[]⟩),(.slice UG 0 0)]) 2 40:=⟨Xk,Xk,O,Xl,Xl⟩
theorem sz30:bT prog 30 4:=by unfold bT;kernel_rfl
theorem HM:bT prog 33 2:=by unfold bT;kernel_rfl
theorem sz35:bT prog 35 1:=by unfold bT;kernel_rfl
theorem el38:ElemIs prog 38 57 (.slice UG 0 0) 1 24:=⟨Xk,Xk,O,Xl,Xl⟩
theorem Rk:ElemIs prog 42 148 (.agg #[(.int .i64 0),(.string ⟨#[]⟩),(.string ⟨#[]⟩)]) 3 40:=⟨Xk,Xk,O,Xl,Xl⟩
theorem Ri:ElemIs prog 43 150 (.agg #[(.int .i64 0),(.string ⟨#[]⟩),(.int .i64 0),(.string ⟨#[]⟩),(.string ⟨#[]⟩)]) 5 64:=⟨Xk,Xk,O,Xl,Xl⟩
theorem ER:bT prog 45 3:=by unfold bT;kernel_rfl
theorem sz47:bT prog 47 4:=by unfold bT;kernel_rfl
theorem sz52:bT prog 52 1:=by unfold bT;kernel_rfl
theorem EA:ElemIs prog 53 9 (.string ⟨#[]⟩) 1 16:=⟨Xk,Xk,O,Xl,Xl⟩
theorem RB:(prog.info? 53).map (·.zero)=UF (UF (.slice UG 0 0)):=Xk
theorem Ou:bT prog 55 4:=by unfold bT;kernel_rfl
theorem sz57:bT prog 57 1:=by unfold bT;kernel_rfl
theorem N1:ElemIs prog 57 59 (.agg #[(.slice UG 0 0),(.int .i64 0)]) 2 32:=⟨Xk,Xk,O,Xl,Xl⟩
theorem Kl:bT prog 59 2:=by unfold bT;kernel_rfl
theorem yF:bT prog 81 2:=by unfold bT;kernel_rfl
theorem Mb:bT prog 83 3:=by unfold bT;kernel_rfl
theorem sz90:bT prog 90 4:=by unfold bT;kernel_rfl
theorem Em:bT prog 103 2:=by unfold bT;kernel_rfl
theorem wQ:ElemIs prog 105 261 (.int .u64 0) 1 8:=⟨Xk,Xk,O,Xl,Xl⟩
theorem kP:bT prog 107 2:=by unfold bT;kernel_rfl
theorem rK:bT prog 109 4:=by unfold bT;kernel_rfl
theorem n9:(prog.info? 109).map (·.zero)=UF (UF (.agg #[(.bool VC),(.slice UG 0 0),(.bool VC),(.slice UG 0 0)])):=Xk
theorem lh:bT prog 113 6:=by unfold bT;kernel_rfl
theorem uh:(prog.info? 113).map (·.zero)=UF (UF (.agg #[(.bool VC),(.slice UG 0 0),(.bool VC),(.slice UG 0 0),(.map UG),(.map UG)])):=Xk
theorem sz129:bT prog 129 1:=by unfold bT;kernel_rfl
theorem np:bT prog 132 2:=by unfold bT;kernel_rfl
theorem zC:bT prog 134 4:=by unfold bT;kernel_rfl
theorem uN:(prog.info? 134).map (·.zero)=UF (UF (.agg #[(.bool VC),(.slice UG 0 0),(.bool VC),(.slice UG 0 0)])):=Xk
theorem tR:bT prog 138 6:=by unfold bT;kernel_rfl
theorem kN:bT prog 146 2:=by unfold bT;kernel_rfl
theorem nD:bT prog 148 3:=by unfold bT;kernel_rfl
theorem lu:bT prog 150 5:=by unfold bT;kernel_rfl
theorem QX:ElemIs prog 155 5 (.int .u8 0) 1 1:=⟨Xk,Xk,O,Xl,Xl⟩
theorem MU:bT prog 165 1:=by unfold bT;kernel_rfl
theorem RJ:ElemIs prog 174 4 (.bool VC) 1 1:=⟨Xk,Xk,O,Xl,Xl⟩
theorem RA:bT prog 176 2:=by unfold bT;kernel_rfl
theorem LR:bT prog 181 2:=by unfold bT;kernel_rfl
theorem Rz:bT prog 183 7:=by unfold bT;kernel_rfl
theorem Mo:bT prog 198 4:=by unfold bT;kernel_rfl
theorem el235:ElemIs prog 235 48 (.int .i64 0) 1 8:=⟨Xk,Xk,O,Xl,Xl⟩
theorem iM:bT prog 261 1:=by unfold bT;kernel_rfl
theorem el280:ElemIs prog 280 129 .nilFunc 1 8:=⟨Xk,Xk,O,Xl,Xl⟩
end Go.Proofs.YtkkenamefaegfaaGreatDoor
