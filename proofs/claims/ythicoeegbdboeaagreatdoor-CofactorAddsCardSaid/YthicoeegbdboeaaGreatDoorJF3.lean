/- Lemmas. No condition. -/
import Derived.Lib.ConvBytes
import Derived.Laws.IdiomStrings
import Derived.Laws.BytesArg
import Derived.Test.YthicoeegbdboeaaGreatDoorJF2
set_option maxRecDepth 100000
set_option maxHeartbeats 4000000
open Go.RowKit Go.Proofs.Tryz
open Option renaming some→WB,none→WC
open Bool renaming true→YK,false→YL
namespace Go.Proofs.YthicoeegbdboeaaGreatDoor
variable{T e d src el:TypeId}{x:Operand}{id sz k size bytes j n a t i:Nat}{z u:Value}{C:Ctx}{w:World}{m:Gm}{R:ew}{r b:Bool}{c:Code}{P:Program}{f:FuncId}{S is:ee}{α:Type}{cl:List ee}
section
theorem cQ{cs:na}(h:cs≠[]):(Ob.bD T cs).real=YK:=by
 cases cs with
 |nil=>exact absurd O h
 |cons _ _=>rfl
section
variable {C:Ctx}{n:Nat}{σ:St}{a:Act}{w:World}{m:Gm}{R:ew}
theorem SW.bz(h:SW C n σ a w m R)(q:σ.ev n x= .bz id sz k):
  ∃A c,a.eval x= .slice A k c/\k<=c/\c<=maxLen/\(k=0->A=WC/\c=0/\m id=WC)/\(0<k->∀b N,m id=WB (b,N)->A=WB ⟨b,0,WC⟩/\N=c*sz):=by
 have:=h.ev x;rw[q]at this;simp only[Rel]at this;exact this.2
end
section
variable {C:Ctx}{n:Nat}{σ:St}{dst:YX}{ty t t':TypeId}{pos:String}{after:Y4}{gd:Option (Nat×Bool)}{x y:Operand}
theorem Ev{cs news:na}(id':Nat)(D:ZP C.P t e z size bytes)(hs:σ.ev n x= .bz id size k)(ho:σ.ob id=WB (.bD e cs))(H:cs.length=k*size)
  (Y:oR n σ y j news) (hl:news.length=j*size) (Z:∀c∈news,c.leaf=YK) (hb:k+j<=1000000000) (hj:0<j) (aa:σ.av id'=YK):
  XJ C n ⟨dst,.call { callee:= .builtin .append,args:= #[x,y],argTypes:= #[t,t] },ty,pos,after,gd⟩ σ ⟨.bz id' size (k+j),[(id',WB (.bD e (cs++news))),(id,WC)],[id']⟩:=by
 rintro a w Q ⟨m,R,hw⟩;obtain⟨A0,c,hev,hkc,hcm,hz,hp⟩:=hw.bz hs;obtain⟨A,c2,us,hev2,hr2,hrow⟩:=Y.row hw;have M:0<news.length:=by rw[hl];exact Y1 hj D.pos
 have L:cs++news≠[]:=λe=>by
  have:=ah List.length e;simp at this;rw[this.2]at M;simp at M
 have G:∀i x,upd m id WC i=WB x->m i=WB x/\i≠id:=λi x e=>by grind[aA,a7]
 rcases WG k with hk0|hk0
 .subst hk0;obtain⟨rfl,rfl,hmn⟩:=hz O;have U:cs=[]:=Wl (by simpa using H);subst U;refine r6 x y t O 0 e z size bytes D.u D.info D.zs D.pos D.by_ _ 0 j c2 A _ us hev hev2 (World.ownsRow_nil w 0 e size) hrow (by rw[hr2.length,hl]) (eU hr2 Z) Zi (sh _) ?_;intro A' c' w' hown' hgr hat
  simp only[Wm,WZ]at hown' hat L ⊢;rcases hown'.2 with⟨hv,h0⟩|⟨g,cap,cur,hv,_,hg,hkc',hcm',hcs',htk⟩
  .omega
  simp only[Value.slice.injEq]at hv;obtain⟨rfl, -,rfl⟩:=hv;have ac:w.heap.size<=g:=by
   rcases hat with h|⟨g',h,hle⟩
   .simp[Value.ownBlock]at h
   simp only[Value.ownBlock,VM]at h;subst h;exact hle
  refine⟨_,O,upd (upd m id WC) id' (WB (g,cur.size)),R,?_⟩;rw[Vu];refine SW.put ((hw.drop id).fresh aa hg hgr (λq hq=>by simp[Value.ownBlock]at hq) (λh=>by have:=hw.hr.rsz _ h;omega) (λi b N hi e=>by have:=(hw.hr.own i b N (G i _ hi).1).1;omega) (.inr (by have:=hw.hr.frame.size;omega)) (.bD e news) ?_ (cQ L)) dst ?_
  .intro m' av' hR _ _;refine⟨cur,hg,O,?_,?_⟩
   .rw[hcs',<-hr2.length,hown'.1];exact WK _ hkc'
   rw[<-hr2.length,hown'.1,htk];exact hr2.mono hR
  simp only[Rel];refine⟨by simp[avL],_,c',O,hkc',hcm',λh=>by omega,λ_ b N e=>?_⟩;rw[aA]at e;cases e;exact⟨O,hcs'⟩
 have hcne:cs≠[]:=λe=>by
  rw[e]at H;have:=Y1 hk0 D.pos;simp at H;omega
 obtain⟨b,N,hm,arr,hbk,hsz,hle,hr⟩:=hw.live ho (cQ hcne);obtain⟨rfl,hN⟩:=hp hk0 b N hm;have W:w.ownsRow 0 e size (.slice (WB ⟨b,0,WC⟩) k c) k (arr.toList.take (k*size)):=by
  refine⟨?_,.inr ⟨b,c,arr,O,sh _,hbk,hkc,hcm,by rw[hsz,hN],O⟩⟩;have:=WK size hkc;simp only[Vz,Wg];omega
 refine r6 x y t O 0 e z size bytes D.u D.info D.zs D.pos D.by_ _ k j c2 A _ us hev hev2 W hrow (by rw[hr2.length,hl]) (eU hr2 Z) hb (sh _) ?_;intro A' c' w' hown' hgr hat
 have X:=hw.hr.own id b N hm;have I:ZG w R (cs++news) (arr.toList.take (k*size)++us):=by
  rw[H]at hr;exact hr.append hr2
 have E:¬R b/\(∀i b' N',upd m id WC i=WB (b',N')->b'≠b)/\(C.F b\/C.w0.heap.size<=b):=
  ⟨X.2.1,λi b' N' hi e=>(G i _ hi).2 (Lg hw (G i _ hi).1 hm e),X.2.2⟩
 rcases hown'.2 with⟨hv,h0⟩|⟨g,cap,cur,hv,_,hg,hkc',hcm',hcs',htk⟩
 .grind
 simp only[Value.slice.injEq]at hv;obtain⟨rfl, -,rfl⟩:=hv;have B:¬R g/\(∀i b' N',upd m id WC i=WB (b',N')->b'≠g)/\(C.F g\/C.w0.heap.size<=g):=by
  rcases hat with h|⟨g',h,hle⟩
  .simp only[Value.ownBlock,VM]at h;rw[h];exact E
  simp only[Value.ownBlock,VM]at h;subst h;refine⟨λh=>?_,λi b' N' hi e=>?_,.inr ?_⟩
  .have:=hw.hr.rsz _ h;omega
  .have:=(hw.hr.own i b' N' (G i _ hi).1).1;omega
  have:=hw.hr.frame.size;omega
 have ab:(arr.toList.take (k*size)++us).length=(k+j)*size:=hown'.1;refine⟨_,O,upd (upd m id WC) id' (WB (g,cur.size)),R,?_⟩;rw[Vu];refine SW.put ((hw.drop id).fresh aa hg hgr (λq hq=>by simp[Value.ownBlock]at hq;subst hq;exact E) B.1 B.2.1 B.2.2 (.bD e (cs++news)) ?_ (cQ L)) dst ?_
 .intro m' av' hR _ _;refine⟨cur,hg,O,?_,?_⟩
  .grind
  rw[<-I.length,ab,htk];exact I.mono hR
 simp only[Rel];refine⟨by simp[avL],_,c',O,hkc',hcm',λh=>by omega,λ_ b N e=>?_⟩;rw[aA]at e;cases e;exact⟨O,hcs'⟩
theorem cU{T2:TypeId}{id2:Nat}{cs news:na}(id':Nat)(G:ZP C.P t e z size bytes)(hs:σ.ev n x= .bz id size k)(ho:σ.ob id=WB (.bD e cs))(q:cs.length=k*size)
  (H:σ.ev n y= .bJ id2 size 1) (B:σ.ob id2=WB (.cells T2 news)) (hl:news.length=size) (D:news.all PV.leaf=YK) (I:k+1<=1000000000) (E:σ.av id'=YK):
  XJ C n ⟨dst,.call { callee:= .builtin .append,args:= #[x,y],argTypes:= #[t,t] },ty,pos,after,gd⟩ σ ⟨.bz id' size (k+1),[(id',WB (.bD e (cs++news))),(id,WC)],[id']⟩:=
 Ev id' G hs ho q (.inr ⟨id2,size,T2,news,H,B,by rw[Nat.one_mul,aG Zi]⟩) Zi (by simpa using D) I Zi E
end
def St.bD(σ:St)(t id sz:Nat)(T:TypeId):St:=⟨upd σ.sl t (.bz id sz 0),obL [(id,WB (.bD T []))] σ.ob,avL [id] σ.av⟩
theorem SW.gro0{σ:St}{a:Act}(q:SW C n σ a w m R)(H:σ.av id=YK)(T:TypeId):SW C n ⟨σ.sl,obL [(id,WB (.bD T []))] σ.ob,avL [id] σ.av⟩ a w m R/\m id=WC:=by
 have B:∀i,i≠id->obL [(id,WB (.bD T []))] σ.ob i=σ.ob i:=λi hi=>by grind[Nat.beq,bN,obL]
 have E:obL [(id,WB (.bD T []))] σ.ob id=WB (.bD T []):=by simp[obL]
 have D:m id=WC:=by
  have:=q.hr.dom id;rw[q.hr.free id H]at this;simpa[cC]using this
 have G:∀i,σ.av i=YL->avL [id] σ.av i=YL:=λi hi=>by grind[avL,Nat.beq]
 refine⟨q.world ⟨?_,?_,?_,q.hr.inj,q.hr.own,q.hr.rsz,q.hr.rfr,q.hr.r0,q.hr.frame,q.hr.keep,λi hi=>G i (q.hr.res i hi)⟩ (λb hb=>⟨hb,O⟩) (λ_ _ _ e=>e) G,D⟩
 .intro i;by_cases e:i=id
  .subst e;rw[E,D];rfl
  rw[B i e];exact q.hr.dom i
 .intro i hi;simp only[avL]at hi;cases hb:Nat.beq i id with
  |true=>rw[hb]at hi;simp at hi
  | false=>
    rw[hb]at hi;have e:i≠id:=λe=>by subst e;simp at hb
    rw[B i e];exact q.hr.free i (by simpa using hi)
 .intro i o b N h1 h2;by_cases e:i=id
  .subst e;rw[D]at h2;cases h2
  rw[B i e]at h1;exact(q.hr.obj i o b N h1 h2).mono (λb hb=>⟨hb,O⟩) (λ_ _ _ e=>e) G O
theorem BC{av:Av}(h:ZH w R (.sl (WB YK) 0 []) u)(q:m id=WC)(B:av id=YL):Rel w m av R (.bz id sz 0) u:=by simp_all[ZH,Rel,sh,Nat.lt_irrefl]
theorem Vs{σ:St}(t id sz:Nat)(T:TypeId)(E:σ.sl t= .pv (.sl (WB YK) 0 []))(D:σ.av id=YK):σ.le (σ.bD t id sz T):=by
 rintro C n a w ⟨m,R,hw⟩;obtain⟨h,hmn⟩:=hw.gro0 D T;refine⟨m,R,h.hr,h.df,h.sz,λq hq=>?_⟩;show Rel w m (avL [id] σ.av) R (upd σ.sl t (.bz id sz 0) q) _;by_cases e:q=t
 .subst e;rw[aA];have B:=hw.sl q hq;rw[E]at B;simp only[Rel]at B;exact BC B hmn (by simp[avL])
 rw[a7 _ _ e];exact h.sl q hq
def St.groC(σ:St)(pid j id sz:Nat)(T T':TypeId)(cs:nR):St:=⟨σ.sl,obL [(pid,WB (.mix T' (cs.set j (.bz id sz 0)))),(id,WB (.bD T []))] σ.ob,avL [id] σ.av⟩
theorem St.cD{σ:St}{T':TypeId}{cs:nR}(pid j id sz:Nat)(T:TypeId)(ho:σ.ob pid=WB (.mix T' cs))(L:cs[j]? =WB (.pv (.sl (WB YK) 0 [])))(G:σ.av id=YK):σ.le (σ.groC pid j id sz T T' cs):=by
 rintro C n a w ⟨m,R,hw⟩;obtain⟨h,hmn⟩:=hw.gro0 G T;have H:pid≠id:=λe=>by rw[e,hw.hr.free id G]at ho;cases ho
 have B:obL [(id,WB (.bD T []))] σ.ob pid=WB (.mix T' cs):=by grind[Nat.beq,bN,obL]
 have D:∀i,i≠pid->obL [(pid,WB (.mix T' (cs.set j (.bz id sz 0)))),(id,WB (.bD T []))] σ.ob i=obL [(id,WB (.bD T []))] σ.ob i:=λi hi=>by grind[Nat.beq,bN,obL]
 have E:obL [(pid,WB (.mix T' (cs.set j (.bz id sz 0)))),(id,WB (.bD T []))] σ.ob pid=WB (.mix T' (cs.set j (.bz id sz 0))):=by simp[obL]
 refine⟨m,R,⟨?_,?_,?_,h.hr.inj,h.hr.own,h.hr.rsz,h.hr.rfr,h.hr.r0,h.hr.frame,h.hr.keep,h.hr.res⟩,h.df,h.sz,h.sl⟩
 .intro i;show(m i).isSome=cC (obL _ σ.ob i);by_cases e:i=pid
  .subst e;rw[E,h.hr.dom];show cC (obL [(id,WB (.bD T []))] σ.ob i)=_;rw[B];rfl
  rw[D i e];exact h.hr.dom i
 .intro i hi;show obL _ σ.ob i=WC;by_cases e:i=pid
  .subst e;have:=B.symm.trans (h.hr.free i hi);cases this
  rw[D i e];exact h.hr.free i hi
 .intro i o b N h1 h2;have q:obL [(pid,WB (.mix T' (cs.set j (.bz id sz 0)))),(id,WB (.bD T []))] σ.ob i=WB o:=h1;by_cases e:i=pid
  .subst e;rw[E]at q;cases q;obtain⟨arr,q1,q2,q3,q4⟩:=h.hr.obj i _ b N B h2;refine⟨arr,q1,q2,by simpa using q3,?_⟩;obtain⟨u,hu,hr⟩:=q4.get L;simp only[VN];have:=q4.set j (p:= .bz id sz 0) (u:=u) (BC (by simpa only[Rel]using hr) hmn (by simp[avL]));have I:(arr.toList.take cs.length).set j u=arr.toList.take cs.length:=by
    obtain⟨hlt,e3⟩:=VR.1 hu;rw[<-e3];exact List.set_getElem_self hlt
   rw[I]at this;exact this
  rw[D i e]at q;exact h.hr.obj i o b N q h2
mutual
def V.pubV(id:Nat)(r:Bool)(cs:na):V->V
 | .bJ i sz k=>bif Nat.beq i id then .pv (bif r then .sl (WB YL) k cs else .any)else .bJ i sz k
 | .tsl i sz k=>bif Nat.beq i id then .pv .any else .tsl i sz k
 | .bz i sz k=>bif Nat.beq i id then .pv (.sl WC k cs)else .bz i sz k
 | .agg vs=> .agg (V.pubL id r cs vs)
 | .bS vs=> .bS (V.pubL id r cs vs)
 | .fn f a b=> .fn f (V.pubL id r cs a) (V.pubL id r cs b)
 | .pv p=> .pv p
 | .ptr i o=> .ptr i o
 | .map i=> .map i
def V.pubL(id:Nat)(r:Bool)(cs:na):nR->nR
 |[]=>[]
 |v::vs=>V.pubV id r cs v::V.pubL id r cs vs
end
def Ob.OL(id:Nat)(r:Bool)(cs:na):Ob->Ob
 | .cells t c=> .cells t c
 | .bD t c=> .bD t c
 | .mp ks vs=> .mp ks vs
 | .it s p=> .it s p
 | .fro s p=> .fro s p
 | .mi c ks vs=> .mi c ks vs
 | .mix t vs=> .mix t (V.pubL id r cs vs)
theorem Ob.JH(id:Nat)(r:Bool)(cs:na):∀o:Ob,(o.OL id r cs).real=o.real
 | .cells _ _=>rfl
 | .mix _ _=>rfl
 | .bD _ []=>rfl
 | .bD _ (_::_)=>rfl
 | .mp _ _=>rfl
 | .it _ _=>rfl
 | .fro _ _=>rfl
 | .mi _ _ _=>rfl
theorem Jt(id:Nat)(r:Bool)(cs:na):∀o:va,cC (o.map (Ob.OL id r cs))=cC o
 |none=>rfl
 |some o=>Ob.JH id r cs o
def St.Tz(σ:St)(id:Nat)(r:Bool)(cs:na):St:=⟨λt=>V.pubV id r cs (σ.sl t),λi=>bif Nat.beq i id then WC else(σ.ob i).map (Ob.OL id r cs),σ.av⟩
section
variable {w:World}{m m':Gm}{av:Av}{R R':ew}
theorem lD(id:Nat)(r:Bool)(cs:na):∀vs:nR,(V.pubL id r cs vs).length=vs.length
 |[]=>rfl
 |_::vs=>by simp[V.pubL,lD id r cs vs]
mutual
theorem Rel.pubV{cs:na}(q:∀b,R b->R' b/\w.heap[b]? =w.heap[b]?)(B:∀i x,m' i=WB x->m i=WB x)
  (D:r=YK->∀sz k u,Rel w m av R (.bJ id sz k) u->ZH w R' (.sl (WB YL) k cs) u) (E:∀sz k u,Rel w m av R (.bz id sz k) u->ZH w R' (.sl WC k cs) u):
  ∀(v:V)(u:Value),Rel w m av R v u->Rel w m' av R' (V.pubV id r cs v) u
 | .bJ i sz k,u,h=>by
   simp only[V.pubV];cases hb:Nat.beq i id with
   | true=>
     have:=bN hb;subst this;simp only[Xe,Rel];cases r with
     |true=>exact D O sz k u h
     |false=>simp only[Wo,ZH]
   |false=>simp only[Wo];exact h.mono q (λi x _ e=>B i x e) (λ_ e=>e)
 | .bz i sz k,u,h=>by
   simp only[V.pubV];cases hb:Nat.beq i id with
   |true=>have:=bN hb;subst this;simp only[Xe,Rel];exact E sz k u h
   |false=>simp only[Wo];exact h.mono q (λi x _ e=>B i x e) (λ_ e=>e)
 | .tsl i sz k,u,h=>by
   simp only[V.pubV];cases hb:Nat.beq i id with
   |true=>simp only[Xe,Rel,ZH]
   |false=>simp only[Wo];exact h.mono q (λi x _ e=>B i x e) (λ_ e=>e)
 | .agg vs,u,h=>by
   simp only[Rel,V.pubV]at h ⊢;obtain⟨us,e,h⟩:=h;exact⟨us,e,ZJ.pubL q B D E vs us h⟩
 | .bS vs,u,h=>by
   simp only[Rel,V.pubV]at h ⊢;obtain⟨us,e,h⟩:=h;exact⟨us,e,ZJ.pubL q B D E vs us h⟩
 | .fn f a b,u,h=>by
   simp only[Rel,V.pubV]at h ⊢;obtain⟨us,vs,e,ha,hb⟩:=h;exact⟨us,vs,e,ZJ.pubL q B D E a us ha,ZJ.pubL q B D E b vs hb⟩
 | .pv p,u,h=>by simp only[V.pubV];exact h.mono q (λi x _ e=>B i x e) (λ_ e=>e)
 | .ptr i o,u,h=>by simp only[V.pubV];exact h.mono q (λi x _ e=>B i x e) (λ_ e=>e)
 | .map i,u,h=>by simp only[V.pubV];exact h.mono q (λi x _ e=>B i x e) (λ_ e=>e)
theorem ZJ.pubL{cs:na}(q:∀b,R b->R' b/\w.heap[b]? =w.heap[b]?)(B:∀i x,m' i=WB x->m i=WB x)
  (D:r=YK->∀sz k u,Rel w m av R (.bJ id sz k) u->ZH w R' (.sl (WB YL) k cs) u) (E:∀sz k u,Rel w m av R (.bz id sz k) u->ZH w R' (.sl WC k cs) u):
  ∀(vs:nR)(us:e7),ZJ w m av R vs us->ZJ w m' av R' (V.pubL id r cs vs) us
 |[],_,h=>by simpa only[ZJ,V.pubL]using h
 | c::vs,_,h=>by
   simp only[ZJ,V.pubL]at h ⊢;obtain⟨u,us,e,ha,hb⟩:=h;exact⟨u,us,e,Rel.pubV q B D E c u ha,ZJ.pubL q B D E vs us hb⟩
end
end
def Ob.plain:Ob->Option (Bool×na)
 | .cells _ cs=>WB (YK,cs)
 | .bD _ cs=>WB (YL,cs)
 | .mp _ _=>WC
 | .it _ _=>WC
 | .fro _ _=>WC
 | .mi _ _ _=>WC
 | .mix _ _=>WC
theorem Vq{σ:St}{o:Ob}{cs:na}(id:Nat)(ho:σ.ob id=WB o)(hc:o.plain=WB (r,cs)):σ.le (σ.Tz id r cs):=by
 rintro C n a w ⟨m,R,hw⟩;have W:=hw.drop id;have B:∀i x,upd m id WC i=WB x->m i=WB x/\i≠id:=λi x e=>by grind[aA,a7]
 let R':ew:=λq=>R q\/∃N,m id=WB (q,N)
 have G:∀b,R b->R' b/\w.heap[b]? =w.heap[b]? :=λb hb=>⟨.inl hb,O⟩
 have D:∀b N,m id=WB (b,N)->∃us,ZG w R' cs us/\u6 w R' b 0 us:=by
  intro b N hm;have E:=hw.hr.obj id o b N ho hm;have L:∀T (arr:YT),w.heap[b]? =WB (.cells arr T (0,0))->ZG w R cs (arr.toList.take cs.length)->∃us,ZG w R' cs us/\u6 w R' b 0 us:=by
   intro T arr hb hr;refine⟨_,hr.mono G,.inr ⟨N,hm⟩,?_⟩;intro j hj;simp only[Vz]at hj;rw[Wm,cell_of_row w b j arr T (0,0) hb,V2,IT Zi];simp
  cases o with
  |cells T c=>simp only[Ob.plain,VM,Prod.mk.injEq]at hc;obtain⟨_,rfl⟩:=hc;obtain⟨arr,q1,_,_,q4⟩:=E;exact L T arr q1 q4
  |bD T c=>simp only[Ob.plain,VM,Prod.mk.injEq]at hc;obtain⟨_,rfl⟩:=hc;obtain⟨arr,q1,_,_,q4⟩:=E;exact L T arr q1 q4
  |mix T c=>simp[Ob.plain]at hc
  |mp ks vs=>simp[Ob.plain]at hc
  |it s p=>simp[Ob.plain]at hc
  |fro s p=>simp[Ob.plain]at hc
  |mi c ks vs=>simp[Ob.plain]at hc
 have M:(m id).isSome=YK\/(r=YL/\cs=[]):=by
  rw[hw.hr.dom,ho];cases o with
  |cells T c=>exact .inl O
  | bD T c=>
    simp only[Ob.plain,VM,Prod.mk.injEq]at hc;obtain⟨rfl,rfl⟩:=hc;cases c with
    |nil=>exact .inr ⟨O,O⟩
    |cons _ _=>exact .inl O
  |mix T c=>simp[Ob.plain]at hc
  |mp ks vs=>simp[Ob.plain]at hc
  |it s p=>simp[Ob.plain]at hc
  |fro s p=>simp[Ob.plain]at hc
  |mi c ks vs=>simp[Ob.plain]at hc
 have Z:r=YK->∀sz k u,Rel w m σ.av R (.bJ id sz k) u->ZH w R' (.sl (WB YL) k cs) u:=by
  intro hr' sz k u h;obtain⟨⟨b,N⟩,hm⟩:∃x,m id=WB x:=by
   rcases M with h|h
   .exact V4.1 h
   rw[hr']at h;cases h.1
  simp only[Rel]at h;obtain⟨c,he,h1,h2,_⟩:=h.2 b N hm;obtain⟨us,hr,hsh⟩:=D b N hm;simp only[ZH];exact⟨_,c,he,h1,h2,(λ_ e=>by cases e;rfl),(λe=>by cases e),λ_=>⟨b,0,us,rfl,hr,hsh⟩⟩
 have p2:∀sz k u,Rel w m σ.av R (.bz id sz k) u->ZH w R' (.sl WC k cs) u:=by
  intro sz k u h;simp only[Rel]at h;obtain⟨h0,A,c,he,h1,h2,h3,h4⟩:=h;simp only[ZH];refine⟨_,c,he,h1,h2,(λ_ e=>by cases e),(λe=>by cases e),λY=>?_⟩;obtain⟨⟨b,N⟩,hm⟩:∃x,m id=WB x:=by
   rcases M with h|h
   .exact V4.1 h
   exact absurd h.2 Y
  have hk:0<k:=by grind
  obtain⟨us,hr,hsh⟩:=D b N hm;exact⟨b,0,us,(h4 hk b N hm).1,hr,hsh⟩
 have H:∀i x,upd m id WC i=WB x->m i=WB x:=λi x e=>(B i x e).1
 have X:∀i,(σ.Tz id r cs).ob i=bif Nat.beq i id then WC else(σ.ob i).map (Ob.OL id r cs):=λ_=>rfl
 have U:(σ.Tz id r cs).ob id=WC:=by rw[X];simp
 have I:∀i,i≠id->(σ.Tz id r cs).ob i=(σ.ob i).map (Ob.OL id r cs):=λi hi=>by grind[Nat.beq,bN]
 refine⟨upd m id WC,R',⟨?_,?_,?_,W.hr.inj,?_,?_,?_,λq hq=> .inl (hw.hr.r0 q hq),hw.hr.frame,W.hr.keep,W.hr.res⟩,hw.df,hw.sz,?_⟩
 .intro i;by_cases e:i=id
  .subst e;rw[aA,U];rfl
  rw[a7 _ _ e,I i e,Jt];exact hw.hr.dom i
 .intro i hi;by_cases e:i=id
  .subst e;exact U
  rw[I i e,hw.hr.free i hi];rfl
 .intro i o' b N h1 h2;obtain⟨h2',e⟩:=B i _ h2;rw[I i e]at h1;cases ho':σ.ob i with
  |none=>rw[ho']at h1;cases h1
  | some o2=>
    rw[ho']at h1;simp only[Yf,VM]at h1;subst h1;have E:=hw.hr.obj i o2 b N ho' h2';cases o2 with
    |cells T c=>obtain⟨arr,q1,q2,q3,q4⟩:=E;exact⟨arr,q1,q2,q3,q4.mono G⟩
    |bD T c=>obtain⟨arr,q1,q2,q3,q4⟩:=E;exact⟨arr,q1,q2,q3,q4.mono G⟩
    |mp ks vs=>obtain⟨es,clock,q1,q2,q3,q4⟩:=E;exact⟨es,clock,q1,q2.mono G,q3.mono G,q4⟩
    |it s p=>exact E
    |fro s p=>exact E
    |mi c ks vs=>exact yx.mono G O E
    | mix T c=>
      obtain⟨arr,q1,q2,q3,q4⟩:=E;refine⟨arr,q1,q2,by rw[lD];exact q3,?_⟩;rw[lD];exact q4.pubL G H Z p2
 .intro i b N h1;obtain⟨h2,h3,h4⟩:=hw.hr.own i b N (B i _ h1).1;refine⟨h2,?_,h4⟩;rintro(h5|⟨N',h5⟩)
  .exact h3 h5
  exact(B i _ h1).2 (hw.hr.inj i id b N N' (B i _ h1).1 h5)
 .rintro q (hq|⟨N,hq⟩)
  .exact hw.hr.rsz q hq
  exact(hw.hr.own id q N hq).1
 .rintro q (hq|⟨N,hq⟩)
  .exact hw.hr.rfr q hq
  rcases(hw.hr.own id q N hq).2.2 with h|h
  .exact .inr (.inr h)
  exact .inr (.inl h)
 .intro t ht;exact(hw.sl t ht).pubV G H Z p2
theorem St.le.trans{σ τ υ:St}(h:σ.le τ)(k:τ.le υ):σ.le υ:=λC n a w hs=>k C n a w (h C n a w hs)
def midQ{X:Type}(st:X->St)(I:X->Prop)(Q:Exit->ZA):Exit->ZA
 | .normal,σ=>∃x,σ.le (st x)/\I x
 |e,σ=>Q e σ
theorem AW.cut{X:Type}{Q:Exit->ZA}{σ:St}{d:Code}(st:X->St)(I:X->Prop)(h:AW C n c (midQ st I Q) σ)(k:∀x,I x->AW C n d Q (st x)):AW C n (.seq c d) Q σ:=by
 refine Vy (h.mono ?_);intro e s hq;cases e with
 | normal=>
   obtain⟨x,hle,hi⟩:=hq;exact Vm hle (k x hi)
 |_=>exact hq
end
def retMC(n t k:Nat)(T:TypeId)(Q:PV->na->Prop):Exit->ZA
 | .ret,σ| .normal,σ=>∃id T2 ps cs',σ.ev n (.tmp t)= .ptr id 0/\Nat.blt id big=YK/\σ.ob id=WB (.mix T2 (ps.map .pv))/\ps.length=k/\σ.ob big=WB (.mix T (cs'.map .pv))/\Q (.agg ps) cs'
 |_,_=>False
theorem FnM.ofC{fn:Func}{rt:TypeId}{cs args:na}{Q:PV->na->Prop}(Y:P.funcs[f]? =WB fn)(B:fn.body=WB c)(Z:fn.ntmps=n)(I:args.length+1<=n)(q:fn.results.toList=[.cell t rt])(ht:t<n)(H:isRow P rt)(L:b8 P rt k)
  (h:∀m0 w0 F R0,AW ⟨P,m0,w0,F,R0⟩ n c (retMC n t k T Q) (ZT ((0,.ptr big 0)::jX 1 (args.map .pv)) [(big,.mix T (cs.map .pv))] 0)):FnM P f T cs args Q:=by
 have U:ZS P f 1 0 (.ptr big 0::args.map .pv) [(big,.mix T (cs.map .pv))] λv ob'=>∃ps cs',v= .agg (ps.map .pv)/\ob'=au [(big,.mix T (cs'.map .pv))]/\Q (.agg ps) cs':=by
  refine ZS.ofC Y B Z (by simpa using I) λm0 w0 F R0=>?_
  refine(h m0 w0 F R0).mono ?_;have D:Nat.blt t n=YK:=by simpa[XW]using ht
  have E:∀s:St,(∃id T2 ps cs',s.ev n (.tmp t)= .ptr id 0/\Nat.blt id big=YK/\s.ob id=WB (.mix T2 (ps.map .pv))/\ps.length=k/\s.ob big=WB (.mix T (cs'.map .pv))/\Q (.agg ps) cs')->
    ∃l os' vs os2 k2,s.le (ZT l os' k2)/\Ai n (ZT l os' k2) fn.results.toList=WB vs/\ly P n (ZT l os' k2) fn.results.toList/\V.allL (okR 1 0) vs=YK/\os2.all (λp=>okR 1 0 p.1&&p.2.all (okR 1 0))=YK/\
     (∀i o,au os2 i=WB o->au os' i=WB o)/\0<=k2/\∃ps cs',eF vs= .agg (ps.map .pv)/\au os2=au [(big,.mix T (cs'.map .pv))]/\Q (.agg ps) cs':=by
   rintro s ⟨id,T2,ps,cs',h1,h2,h3,h4,h5,h6⟩;simp only[St.ev,D,Xe]at h1;have W:id<big:=by simpa[XW]using h2
   have X:Nat.beq id big=YL:=by cases B:Nat.beq id big;rfl;have:=bN B;omega
   have M:(ZT [(t,.ptr id 0)] [(big,.mix T (cs'.map .pv)),(id,.mix T2 (ps.map .pv))] (id+1)).ev n (.tmp t)= .ptr id 0:=by
    simp only[St.ev,D,Xe,ZT,look,Zh]
   have ob:(ZT [(t,.ptr id 0)] [(big,.mix T (cs'.map .pv)),(id,.mix T2 (ps.map .pv))] (id+1)).ob id=WB (.mix T2 (ps.map .pv)):=by
    simp only[ZT,au,X,Wo,Zh,Xe]
   have G:Nat.blt id (id+1)=YK:=by simp[XW]
   refine⟨[(t,.ptr id 0)],[(big,.mix T (cs'.map .pv)),(id,.mix T2 (ps.map .pv))],[.agg (ps.map .pv)],[(big,.mix T (cs'.map .pv))],id+1,Vn ⟨h1,Zp⟩ ⟨h5,h3,Zp⟩ ?_ ?_,?_,?_,?_,?_,?_,sh _,ps,cs',O,O,h6⟩
   .simp only[Xi,Yp,V.okA,G];rfl
   .simp only[Xi,Yp,XV,Ob.okA,CE,G];simp
   .rw[q];simp only[Ai,M,ob]
   .rw[q];exact⟨ar H L M ob (by simpa using h4),Zp⟩
   .simp only[V.allL,V.all,oH];rfl
   .simp only[Xi,Yp,XV,Ob.all,oH];rfl
   .intro i o hi;simp only[au]at hi ⊢;cases B:Nat.beq i big with
    |true=>rw[B]at hi;simpa using hi
    |false=>rw[B]at hi;simp at hi
  intro ex s hq;cases ex with
  |normal=>exact E s hq
  |ret=>exact E s hq
  |_=>exact hq.elim
 intro w m R us h1 h2;refine(U w m R us h1 h2).mono ?_;rintro e w' ⟨u,v,ob',m',R',rfl,⟨ps,cs',rfl,rfl,hq⟩,h3,h4,h5,h6⟩;refine⟨u,.pv (.agg ps),_,m',R',O,⟨_,cs',O,O,hq⟩,O,h4,h5,?_⟩;simp only[Rel,ZH]at h6 ⊢;obtain⟨us,e,hr⟩:=h6;exact⟨us,e,hr.toP⟩
section
def aF(l:List UInt8):na:=l.map λb=> .int .u8 (b.toNat:Int)
theorem sN:∀{l:List UInt8}{us:e7},ZG w R (aF l) us->us=l.map λb=>Value.int .u8 (b.toNat:Int)
 |[],us,h=>by simpa[aF,ZG]using h
 | b::l,us,h=>by
   simp only[aF,ed,ZG]at h;obtain⟨u,vs,rfl,h1,h2⟩:=h;simp only[ZH]at h1;rw[h1,sN (l:=l) h2];rfl
section
variable {C:Ctx}{n:Nat}{σ:St}{dst:YX}{ty t t':TypeId}{pos:String}{after:Y4}{gd:Option (Nat×Bool)}{x y:Operand}
theorem J3(l:List UInt8)(hs:C.P.underlying src=WB (.slice e))(D:C.P.underlying e=WB (.int .u8))(E:C.P.underlying d=WB .string)(G:oR n σ x l.length (aF l)):
  XJ C n ⟨dst,.convert src d x,ty,pos,after,gd⟩ σ ⟨.pv (.str ⟨l.toArray⟩),[],[]⟩:=
 .val λa w m R hw=>⟨.string ⟨l.toArray⟩,by
  obtain⟨A,c,us,hev,hr,hrow⟩:=G.row hw;have q:=sN hr;have B:(convert src d (.slice A l.length c)).run C.P w= .ok (.string ⟨l.toArray⟩) w:=by
   by_cases hne:l=[]
   .subst hne;cases A with
    |none=>exact run_convert_bytes_nil (P:=C.P) w src e hs D 0 c d E
    |some a=>exact run_convert_bytes_back (P:=C.P) w src d e a c [] hs D E (λj hj=>by simp at hj)
   obtain⟨b,off,rfl,_,_,hc⟩:=hrow (by rw[q];simpa using hne);refine run_convert_bytes_back (P:=C.P) w src d e _ c l hs D E (λj hj=>?_);have:=hc j (by rw[q];simpa using hj);rw[q]at this;have e:(⟨b,off,WC⟩:Addr).add j=⟨b,off+j,WC⟩:=by
    unfold Addr.add;split
    .subst_vars;simp
    .rfl
   rw[e,this];simp[hj]
  simp only[execOp,hev,Sem.run_bind,B,Result.andThen_ok];rfl,by simp only[Rel,ZH]⟩
theorem TX{s:er}{u:TypeDesc}(hs:C.P.underlying src=WB u)(I:C.P.underlying d=WB (.slice e))(L:C.P.underlying e=WB (.int .u8))(M:σ.ev n x= .pv (.str s))(hl:s.size<=9223372036854775807):
  XJ C n ⟨dst,.convert src d x,ty,pos,after,gd⟩ σ ⟨.pv (.sl (WB YL) s.size (aF s.data.toList)),[],[]⟩:=by
 rintro a w Q ⟨m,R,hw⟩;have B:(execOp a.eval ⟨dst,.convert src d x,ty,pos,after,gd⟩).run C.P w= .ok (.value (.slice (WB ⟨w.heap.size,0,WC⟩) s.size (grownCap w s.size 0 e))) (Lib.bytesWorld w e s):=by
  simp only[execOp,hw.str M,Sem.run_bind,Lib.run_convert_string_bytes (P:=C.P) w src d e s hs I L,Result.andThen_ok];rfl
 unfold Oper.wp;rw[B];have q:=Lib.bytesWorld_at_old w e s;have H:=Lib.bytesWorld_size w e s;have G:∀b,R b->(R b\/b=w.heap.size)/\(Lib.bytesWorld w e s).heap[b]? =w.heap[b]? :=λb hb=>⟨.inl hb,q b (hw.hr.rsz b hb)⟩
 refine⟨_,O,m,λb=>R b\/b=w.heap.size,?_⟩;rw[Vu];refine SW.put (hw.world (ob':=obL [] σ.ob) (av':=avL [] σ.av) ⟨hw.hr.dom,hw.hr.free,?_,hw.hr.inj,?_,?_,?_,λb hb=> .inl (hw.hr.r0 b hb),?_,hw.hr.keep,hw.hr.res⟩ G (λ_ _ _ e=>e) (λ_ e=>e)) dst ?_
 .intro i o b N h1 h2;exact(hw.hr.obj i o b N h1 h2).mono G (λ_ _ _ e=>e) (λ_ e=>e) (q b (hw.hr.own i b N h2).1)
 .intro i b N h1;obtain⟨h2,h3,h4⟩:=hw.hr.own i b N h1;refine⟨Zi,?_,h4⟩;rintro(h5|h5)
  .exact h3 h5
  omega
 .rintro b (hb|hb)
  .have:=hw.hr.rsz b hb;omega
  omega
 .rintro b (hb|hb)
  .exact hw.hr.rfr b hb
  refine .inr (.inl ?_);have:=hw.hr.frame.size;omega
 .refine⟨hw.hr.frame.os,hw.hr.frame.tape,hw.hr.frame.output,?_,?_⟩
  .have:=hw.hr.frame.size;omega
  .intro k hk hF;rw[q k (by have:=hw.hr.frame.size;omega)];exact hw.hr.frame.block k hk hF
 simp only[Rel,ZH];have D:=grownCap_ge w s.size 0 e;refine⟨_,_,O,?_,?_,(λ_ e=>by cases e;rfl),(λe=>by cases e),λ_=>⟨w.heap.size,0,s.data.toList.map (λb=>Value.int .u8 (b.toNat:Int)),rfl,?_,.inr rfl,?_⟩⟩
 .exact D
 .exact grownCap_le_maxLen w s.size 0 e (by simp only[maxLen];omega)
 .generalize s.data.toList=l;induction l with
  |nil=>exact ZG.nil
  |cons b l ih=>exact ZG.cons (by simp only[ZH]) ih
 .intro j hj;have E:j<s.size:=by simpa using hj
  rw[Wm,Lib.bytesWorld_cell w e s j E];simp[List.getD,E]
theorem ax{zs:na}{parts:Array (Nat×Operand)}{cs:na}(nf:YO)(hnf:nf≠WB YK)(H:ZP C.P T e z size bytes)(M:z.cells.toList.map fq=zs)(hk:0<k)(hk2:k*size<=16777216)
  {vs:nR} (hf:dT (λi=>WB (i*size,size)) σ.ob ((mkZ zs (k*size)).map .pv) (parts.toList.map λp=>(p.1,σ.ev n p.2))=WB vs) (hvs:V.pvs vs=WB cs):
  XJ C n ⟨dst,.buildSlice T k parts,ty,pos,after,gd⟩ σ ⟨.pv (.sl nf k cs),[],[]⟩:=by
 rintro a w Q ⟨m,R,hw⟩;obtain rfl:=V.xU hvs;obtain⟨i,hi,hz,hsize,hbytes⟩:=info_parts H.info;have Y:zs.length=z.cells.size:=by rw[<-M];simp
 have Z:∀l:ee,ZG w R (l.map λi=>zs.getD (i%zs.length) .any) (l.map λi=>z.cells[i%z.cells.size]!):=by
  intro l;induction l with
  |nil=>simpa using ZG.nil
  | cons j l ih=>
    simp only[ed];refine ZG.cons ?_ ih;have E:0<z.cells.size:=by rw[H.zs];exact H.pos
    have aa:j%z.cells.size<z.cells.size:=WI _ E;rw[Y,<-M];have e1:(z.cells.toList.map fq).getD (j%z.cells.size) .any=fq (z.cells[j%z.cells.size]!):=by
     simp[VO,aa]
    rw[e1];exact fl w R _
 have h0:ZG w R (mkZ zs (k*size)) ((Array.range (k*size)).map (z.cells[· %z.cells.size]!)).toList:=by
  have:=Z (List.range (k*size));simpa[mkZ]using this
 obtain⟨arr',hfill,hr'⟩:=hw.fill (λi=>WB (i*size,size)) parts.toList _ _ _ (ZJ.ofP h0) hf;have I:=hr'.toP;have D:(parts.map λx=>(x.1,a.eval x.2)).toList=parts.toList.map λp=>(p.1,a.eval p.2):=Zm
 have E:0<k*size:=Y1 hk H.pos;have L:=run_buildSlice (P:=C.P) w T e k (parts.map λx=>(x.1,a.eval x.2)) arr' i z H.u hi hz (by rw[hsize];omega) (by rw[hsize];omega) (by rw[D,hsize];exact hfill);have hcl:cs.length=k*size:=by
  have:∀(l:Zx)(cells cs':nR),dT (λi=>WB (i*size,size)) σ.ob cells l=WB cs'->cs'.length=cells.length:=by
   intro l;induction l with
   |nil=>intro cells cs' h;simp only[dT,VM]at h;rw[h]
   | cons p l ih=>
     obtain⟨q,v⟩:=p;intro cells cs' h;simp only[dT]at h;rw[Bool.cond_eq_ite]at h;split at h
     .rename_i hc;simp only[aJ]at hc;rw[ih _ _ h,cH];have U:=bN hc.1.1.1;have W:=V7 hc.1.1.2;omega
     cases h
  have:=this _ _ _ hf;simpa[mkZ]using this
 have G:(execOp a.eval ⟨dst,.buildSlice T k parts,ty,pos,after,gd⟩).run C.P w= .ok (.value (.slice (WB ⟨w.heap.size,0,WC⟩) k k)) (w.alloc (.cells arr' e)):=by
  simp only[execOp,Sem.run_bind,L,Result.andThen_ok,Sem.run_pure]
 unfold Oper.wp;rw[G];have hsz:arr'.size=k*size:=by have:=I.length;simp at this;omega
 have B:∀q,q<w.heap.size->(w.alloc (.cells arr' e)).heap[q]? =w.heap[q]? :=λq hq=>Below.heap_alloc w _ q hq
 have X:(w.alloc (.cells arr' e)).heap.size=w.heap.size+1:=Zm;have hR:∀b,R b->(R b\/b=w.heap.size)/\(w.alloc (.cells arr' e)).heap[b]? =w.heap[b]? :=λb hb=>⟨.inl hb,B b (hw.hr.rsz b hb)⟩
 refine⟨_,O,m,λb=>R b\/b=w.heap.size,?_⟩;rw[Vu];refine SW.put (hw.world (ob':=obL [] σ.ob) (av':=avL [] σ.av) ⟨hw.hr.dom,hw.hr.free,?_,hw.hr.inj,?_,?_,?_,λb hb=> .inl (hw.hr.r0 b hb),?_,hw.hr.keep,hw.hr.res⟩ hR (λ_ _ _ e=>e) (λ_ e=>e)) dst ?_
 .intro i o b N U W;exact(hw.hr.obj i o b N U W).mono hR (λ_ _ _ e=>e) (λ_ e=>e) (B b (hw.hr.own i b N W).1)
 .intro i b N U;obtain⟨W,h3,h4⟩:=hw.hr.own i b N U;refine⟨Zi,?_,h4⟩;rintro(h5|h5)
  .exact h3 h5
  omega
 .rintro b (hb|hb)
  .have:=hw.hr.rsz b hb;omega
  omega
 .rintro b (hb|hb)
  .exact hw.hr.rfr b hb
  refine .inr (.inl ?_);have:=hw.hr.frame.size;omega
 .refine⟨hw.hr.frame.os,hw.hr.frame.tape,hw.hr.frame.output,?_,?_⟩
  .have:=hw.hr.frame.size;omega
  .intro k hk hF;rw[B k (by have:=hw.hr.frame.size;omega)];exact hw.hr.frame.block k hk hF
 simp only[Rel,ZH];have hkk:k<=k*size:=Nat.le_mul_of_pos_right k H.pos;refine⟨_,_,O,BY _,by simp only[maxLen];omega,?_,λe=>absurd e hnf,λ_=>⟨w.heap.size,0,arr'.toList,O,I.mono hR,.inr O,?_⟩⟩
 .grind
 simp_all
end
end
section
mutual
def V.ppV(id:Nat)(cs:na):V->V
 | .ptr i o=>bif Nat.beq i id then .pv (.rp cs o)else .ptr i o
 | .agg vs=> .agg (V.ppL id cs vs)
 | .bS vs=> .bS (V.ppL id cs vs)
 | .fn f a b=> .fn f (V.ppL id cs a) (V.ppL id cs b)
 | .pv p=> .pv p
 | .bJ i sz k=>bif Nat.beq i id then .pv .any else .bJ i sz k
 | .tsl i sz k=>bif Nat.beq i id then .pv .any else .tsl i sz k
 | .bz i sz k=>bif Nat.beq i id then .pv .any else .bz i sz k
 | .map i=> .map i
def V.ppL(id:Nat)(cs:na):nR->nR
 |[]=>[]
 |v::vs=>V.ppV id cs v::V.ppL id cs vs
end
def Ob.ppO(id:Nat)(cs:na):Ob->Ob
 | .cells t c=> .cells t c
 | .bD t c=> .bD t c
 | .mp ks vs=> .mp ks vs
 | .it s p=> .it s p
 | .fro s p=> .fro s p
 | .mi c ks vs=> .mi c ks vs
 | .mix t vs=> .mix t (V.ppL id cs vs)
theorem Ob.MR(id:Nat)(cs:na):∀o:Ob,(o.ppO id cs).real=o.real
 | .cells _ _=>rfl
 | .mix _ _=>rfl
 | .bD _ []=>rfl
 | .bD _ (_::_)=>rfl
 | .mp _ _=>rfl
 | .it _ _=>rfl
 | .fro _ _=>rfl
 | .mi _ _ _=>rfl
theorem NW(id:Nat)(cs:na):∀o:va,cC (o.map (Ob.ppO id cs))=cC o
 |none=>rfl
 |some o=>Ob.MR id cs o
def St.ppA(σ:St)(id:Nat)(cs:na):St:=⟨λt=>V.ppV id cs (σ.sl t),λi=>bif Nat.beq i id then WC else(σ.ob i).map (Ob.ppO id cs),σ.av⟩
section
variable {w:World}{m m':Gm}{av:Av}{R R':ew}
theorem nO(id:Nat)(cs:na):∀vs:nR,(V.ppL id cs vs).length=vs.length
 |[]=>rfl
 |_::vs=>by simp[V.ppL,nO id cs vs]
mutual
theorem Rel.ppV{cs:na}(q:∀b,R b->R' b/\w.heap[b]? =w.heap[b]?)(B:∀i x,m' i=WB x->m i=WB x)
  (D:∀o u,Rel w m av R (.ptr id o) u->ZH w R' (.rp cs o) u):
  ∀(v:V)(u:Value),Rel w m av R v u->Rel w m' av R' (V.ppV id cs v) u
 | .ptr i o,u,h=>by
   simp only[V.ppV];cases hb:Nat.beq i id with
   |true=>have:=bN hb;subst this;simp only[Xe,Rel];exact D o u h
   |false=>simp only[Wo];exact h.mono q (λi x _ e=>B i x e) (λ_ e=>e)
 | .agg vs,u,h=>by
   simp only[Rel,V.ppV]at h ⊢;obtain⟨us,e,h⟩:=h;exact⟨us,e,ZJ.ppL q B D vs us h⟩
 | .bS vs,u,h=>by
   simp only[Rel,V.ppV]at h ⊢;obtain⟨us,e,h⟩:=h;exact⟨us,e,ZJ.ppL q B D vs us h⟩
 | .fn f a b,u,h=>by
   simp only[Rel,V.ppV]at h ⊢;obtain⟨us,vs,e,ha,hb⟩:=h;exact⟨us,vs,e,ZJ.ppL q B D a us ha,ZJ.ppL q B D b vs hb⟩
 | .pv p,u,h=>by simp only[V.ppV];exact h.mono q (λi x _ e=>B i x e) (λ_ e=>e)
 | .bJ i sz k,u,h=>by
   simp only[V.ppV];cases hb:Nat.beq i id with
   |true=>simp only[Xe,Rel,ZH]
   |false=>simp only[Wo];exact h.mono q (λi x _ e=>B i x e) (λ_ e=>e)
 | .tsl i sz k,u,h=>by
   simp only[V.ppV];cases hb:Nat.beq i id with
   |true=>simp only[Xe,Rel,ZH]
   |false=>simp only[Wo];exact h.mono q (λi x _ e=>B i x e) (λ_ e=>e)
 | .bz i sz k,u,h=>by
   simp only[V.ppV];cases hb:Nat.beq i id with
   |true=>simp only[Xe,Rel,ZH]
   |false=>simp only[Wo];exact h.mono q (λi x _ e=>B i x e) (λ_ e=>e)
 | .map i,u,h=>by simp only[V.ppV];exact h.mono q (λi x _ e=>B i x e) (λ_ e=>e)
theorem ZJ.ppL{cs:na}(q:∀b,R b->R' b/\w.heap[b]? =w.heap[b]?)(B:∀i x,m' i=WB x->m i=WB x)
  (D:∀o u,Rel w m av R (.ptr id o) u->ZH w R' (.rp cs o) u):
  ∀(vs:nR)(us:e7),ZJ w m av R vs us->ZJ w m' av R' (V.ppL id cs vs) us
 |[],_,h=>by simpa only[ZJ,V.ppL]using h
 | c::vs,_,h=>by
   simp only[ZJ,V.ppL]at h ⊢;obtain⟨u,us,e,ha,hb⟩:=h;exact⟨u,us,e,Rel.ppV q B D c u ha,ZJ.ppL q B D vs us hb⟩
end
end
def Ob.jx:Ob->Option na
 | .cells _ cs=>WB cs
 | .mix _ vs=>V.pvs vs
 | .bD _ _=>WC
 | .mp _ _=>WC
 | .it _ _=>WC
 | .fro _ _=>WC
 | .mi _ _ _=>WC
theorem St.gR{σ:St}{o:Ob}{cs:na}(id:Nat)(ho:σ.ob id=WB o)(hc:o.jx=WB cs):σ.le (σ.ppA id cs):=by
 rintro C n a w ⟨m,R,hw⟩;have U:=hw.drop id;have B:∀i x,upd m id WC i=WB x->m i=WB x/\i≠id:=λi x e=>by grind[aA,a7]
 let R':ew:=λq=>R q\/∃N,m id=WB (q,N)
 have E:∀b,R b->R' b/\w.heap[b]? =w.heap[b]? :=λb hb=>⟨.inl hb,O⟩
 have H:∀b N,m id=WB (b,N)->∃us,ZG w R' cs us/\u6 w R' b 0 us:=by
  intro b N hm;have D:=hw.hr.obj id o b N ho hm;have L:∀T (arr:YT),w.heap[b]? =WB (.cells arr T (0,0))->ZG w R cs (arr.toList.take cs.length)->∃us,ZG w R' cs us/\u6 w R' b 0 us:=by
   intro T arr hb hr;refine⟨_,hr.mono E,.inr ⟨N,hm⟩,?_⟩;intro j hj;simp only[Vz]at hj;rw[Wm,cell_of_row w b j arr T (0,0) hb,V2,IT Zi];simp
  cases o with
  |cells T c=>simp only[Ob.jx,VM]at hc;subst hc;obtain⟨arr,q1,_,_,q4⟩:=D;exact L T arr q1 q4
  |bD T c=>simp[Ob.jx]at hc
  |mp ks vs=>simp[Ob.jx]at hc
  |it s p=>simp[Ob.jx]at hc
  |fro s p=>simp[Ob.jx]at hc
  |mi c ks vs=>simp[Ob.jx]at hc
  | mix T c=>
    have e:=V.xU hc;obtain⟨arr,q1,_,_,q4⟩:=D;rw[e]at q4;simp only[IS]at q4;exact L T arr q1 (ZJ.toP q4)
 have W:(m id).isSome=YK:=by
  rw[hw.hr.dom,ho];cases o with
  |cells T c=>rfl
  |bD T c=>simp[Ob.jx]at hc
  |mp ks vs=>simp[Ob.jx]at hc
  |it s p=>simp[Ob.jx]at hc
  |fro s p=>simp[Ob.jx]at hc
  |mi c ks vs=>simp[Ob.jx]at hc
  |mix T c=>rfl
 have Y:∀q u,Rel w m σ.av R (.ptr id q) u->ZH w R' (.rp cs q) u:=by
  intro q u h;obtain⟨⟨b,N⟩,hm⟩:=V4.1 W;simp only[Rel]at h;obtain⟨us,hr,hsh⟩:=H b N hm;simp only[ZH];exact⟨b,0,us,by rw[Wm];exact h.2 b N hm,hr,hsh⟩
 have G:∀i x,upd m id WC i=WB x->m i=WB x:=λi x e=>(B i x e).1
 have X:∀i,(σ.ppA id cs).ob i=bif Nat.beq i id then WC else(σ.ob i).map (Ob.ppO id cs):=λ_=>rfl
 have M:(σ.ppA id cs).ob id=WC:=by rw[X];simp
 have I:∀i,i≠id->(σ.ppA id cs).ob i=(σ.ob i).map (Ob.ppO id cs):=λi hi=>by grind[Nat.beq,bN]
 refine⟨upd m id WC,R',⟨?_,?_,?_,U.hr.inj,?_,?_,?_,λq hq=> .inl (hw.hr.r0 q hq),hw.hr.frame,U.hr.keep,U.hr.res⟩,hw.df,hw.sz,?_⟩
 .intro i;by_cases e:i=id
  .subst e;rw[aA,M];rfl
  rw[a7 _ _ e,I i e,NW];exact hw.hr.dom i
 .intro i hi;by_cases e:i=id
  .subst e;exact M
  rw[I i e,hw.hr.free i hi];rfl
 .intro i o' b N h1 h2;obtain⟨h2',e⟩:=B i _ h2;rw[I i e]at h1;cases ho':σ.ob i with
  |none=>rw[ho']at h1;cases h1
  | some o2=>
    rw[ho']at h1;simp only[Yf,VM]at h1;subst h1;have D:=hw.hr.obj i o2 b N ho' h2';cases o2 with
    |cells T c=>obtain⟨arr,q1,q2,q3,q4⟩:=D;exact⟨arr,q1,q2,q3,q4.mono E⟩
    |bD T c=>obtain⟨arr,q1,q2,q3,q4⟩:=D;exact⟨arr,q1,q2,q3,q4.mono E⟩
    |mp ks vs=>obtain⟨es,clock,q1,q2,q3,q4⟩:=D;exact⟨es,clock,q1,q2.mono E,q3.mono E,q4⟩
    |it s p=>exact D
    |fro s p=>exact D
    |mi c ks vs=>exact yx.mono E O D
    | mix T c=>
      obtain⟨arr,q1,q2,q3,q4⟩:=D;refine⟨arr,q1,q2,by rw[nO];exact q3,?_⟩;rw[nO];exact q4.ppL E G Y
 .intro i b N h1;obtain⟨h2,h3,h4⟩:=hw.hr.own i b N (B i _ h1).1;refine⟨h2,?_,h4⟩;rintro(h5|⟨N',h5⟩)
  .exact h3 h5
  exact(B i _ h1).2 (hw.hr.inj i id b N N' (B i _ h1).1 h5)
 .rintro q (hq|⟨N,hq⟩)
  .exact hw.hr.rsz q hq
  exact(hw.hr.own id q N hq).1
 .rintro q (hq|⟨N,hq⟩)
  .exact hw.hr.rfr q hq
  rcases(hw.hr.own id q N hq).2.2 with h|h
  .exact .inr (.inr h)
  exact .inr (.inl h)
 .intro t ht;exact(hw.sl t ht).ppV E G Y
def St.own(σ:St)(t id sz n:Nat)(T:TypeId)(cs:na):St:=⟨upd σ.sl t (.bJ id sz n),obL [(id,WB (.cells T cs))] σ.ob,σ.av⟩
theorem St.JT{σ:St}{cs:na}(t:Nat)(D:σ.sl t= .bz id sz n)(ho:σ.ob id=WB (.bD T cs))(B:0<n)(hc:cs≠[]):σ.le (σ.own t id sz n T cs):=
 St.vO fun{C nn a w m R} hw=>⟨λq hq=>by
  show Rel w m σ.av R (upd σ.sl t (.bJ id sz n) q) _;by_cases e:q=t
  .subst e;rw[aA];have:=hw.sl q hq;rw[D]at this;simp only[Rel]at this ⊢;obtain⟨h0,A,c,he,h1,h2,h3,h4⟩:=this;refine⟨h0,λb N hm=>⟨c,?_,h1,h2,(h4 B b N hm).2⟩⟩;rw[he,(h4 B b N hm).1]
  .rw[a7 _ _ e];exact hw.sl q hq,λp hp=>by
  obtain rfl:=VH.1 hp;exact⟨_,_,ho,O,(cQ hc).symm,λ_ _ _ h=>h⟩⟩
theorem Vr{σ:St}{l:Zx}{os:Zy}(ids:ee)(hl:uF σ (pG ids) l)(ho:gL σ (pG ids) os)(h1:l.all (λp=>p.2.okA ids.length)=YK)(h2:os.all (λp=>(Nat.blt p.1 ids.length||Nat.ble big p.1)&&p.2.okA ids.length)=YK)
  (W:ids.Nodup) (X:ids.all (λi=>Nat.blt i big|| !(au os i).isSome)=YK):σ.le (ZT l os ids.length):=by
 rintro C n a w ⟨m,R,hw⟩;have I:∀i o,au os i=WB o->σ.ob (pG ids i)=WB (o.ren (pG ids))/\(Nat.blt i ids.length||Nat.ble big i)=YK/\o.okA ids.length=YK:=by
  intro i o h;have Y:=dx h;have:=IN.1 h2 _ Y;simp only[aJ]at this;exact⟨kC ho i o Y,this.1,this.2⟩
 let m2:Gm:=λi=>if(au os i).isSome then m (pG ids i)else WC
 have E:∀i x,m2 i=WB x->m (pG ids i)=WB x/\(Nat.blt i ids.length||Nat.ble big i)=YK:=λi x h=>by
  simp only[m2]at h;split at h
  .rename_i hs;obtain⟨o,hoo⟩:=V4.1 hs;exact⟨h,(I i o hoo).2.1⟩
  cases h
 have L:∀i x,m2 i=WB x->(au os i).isSome=YK:=λi x h=>by grind
 have ρinj:∀i j,(Nat.blt i ids.length||Nat.ble big i)=YK->(Nat.blt j ids.length||Nat.ble big j)=YK->(au os i).isSome=YK->(au os j).isSome=YK->pG ids i=pG ids j->i=j:=by
  intro i j hi hj hli hlj e;have G:∀q,Nat.blt q ids.length=YK->Nat.ble big q=YL->∃h:q<ids.length,pG ids q=ids[q]/\(ids[q]<big\/(au os ids[q]).isSome=YL):=by
   intro q hq U;have h:q<ids.length:=by simpa[XW]using hq
   refine⟨h,by simp[pG,U,VO,h],?_⟩;have:=IN.1 X ids[q] (ak h);simpa[XW]using this
  have B:∀q,Nat.ble big q=YK->pG ids q=q:=λq hq=>by simp[pG,hq]
  cases hbi:Nat.ble big i with
  | true=>
    cases hbj:Nat.ble big j with
    |true=>rw[B i hbi,B j hbj]at e;exact e
    | false=>
      rw[hbj,Xu]at hj;obtain⟨h,H,D⟩:=G j hj hbj;rw[B i hbi,H]at e;have:=V7 hbi;rcases D with D|D
      .omega
      rw[<-e,hli]at D;cases D
  | false=>
    rw[hbi,Xu]at hi;obtain⟨h,e1,D⟩:=G i hi hbi;cases hbj:Nat.ble big j with
    | true=>
      rw[B j hbj,e1]at e;have:=V7 hbj;rcases D with D|D
      .omega
      rw[e,hlj]at D;cases D
    | false=>
      rw[hbj,Xu]at hj;obtain⟨h',H,h4⟩:=G j hj hbj;rw[e1,H]at e;exact(List.getElem_inj W).1 e
 have Z:∀i x,(Nat.blt i ids.length||Nat.ble big i)=YK->m2 i=WB x->m (pG ids i)=WB x:=λi x _ h=>(E i x h).1
 have ua:∀i,(Nat.blt i ids.length||Nat.ble big i)=YK->avK ids.length i=YL:=λi h=>np h
 refine⟨m2,R,⟨?_,?_,?_,?_,?_,hw.hr.rsz,hw.hr.rfr,hw.hr.r0,hw.hr.frame,?_,λi hi=>ie hi⟩,hw.df,hw.sz,?_⟩
 .intro i;show(m2 i).isSome=cC (au os i);simp only[m2];cases e:au os i with
  |none=>rfl
  | some o=>
    have:=hw.hr.dom (pG ids i);rw[(I i o e).1]at this;simpa[cC,Ob.pV]using this
 .intro i hi;show au os i=WC;cases e:au os i with
  |none=>rfl
  | some o=>
    have D:=np (I i o e).2.1;have M:avK ids.length i=YK:=hi;rw[M]at D;cases D
 .intro i o b N D h4;have h5:=I i o D;exact(hw.hr.obj _ _ b N h5.1 (E _ _ h4).1).j8 (pG ids) _ Z ua (Ob.ot _ h5.2.2)
 .intro i j b N N' e1 H;exact ρinj i j (E _ _ e1).2 (E _ _ H).2 (L _ _ e1) (L _ _ H) (hw.hr.inj _ _ b N N' (E _ _ e1).1 (E _ _ H).1)
 .exact λi b N e=>hw.hr.own _ b N (E _ _ e).1
 .intro i x hi e;have U:Nat.ble big i=YK:=YH hi;have H:=(E i x e).1;have:pG ids i=i:=by simp[pG,U]
  rw[this]at H;exact hw.hr.keep i x hi H
 .intro t ht;show Rel w m2 (avK ids.length) R (look l t) _;rcases og hl t with e|e
  .rw[e];simp only[Rel,ZH]
  have D:=hw.sl t ht;rw[e]at D;exact D.j8 (pG ids) _ Z ua _ _ (V.ot _ _ (look_ok h1 t))
def fgs(f:Nat->V):ee->Nat->V
 |[]=>f
 |d::ds=>fgs (upd f d (.pv .any)) ds
def St.fgP(σ:St)(ds:ee)(p:Nat)(v:V):St:=⟨upd (fgs σ.sl ds) p v,σ.ob,σ.av⟩
def fEq(S:ee)(f g:Nat->V):Prop:=∀q,S.contains q=YL->f q=g q
theorem fEq.refl{S:ee}{f:Nat->V}:fEq S f f:=λ_ _=>rfl
theorem Vk{f g:Nat->V}{d:Nat}{v:V}(h:fEq S f g)(B:S.contains d=YK):fEq S (upd f d v) g:=λq hq=>by
 rw[a7 _ _ (λe=>by rw[e,B]at hq;cases hq)];exact h q hq
theorem Zr{f g:Nat->V}(h:fEq S f g:=by repeat first|with_reducible exact fEq.refl|refine Vk ?_ rfl):fEq S f g:=h
theorem IF:∀(ds:ee)(f:Nat->V)(q:Nat),ds.contains q=YL->fgs f ds q=f q
 |[],_,_,_=>rfl
 | d::ds,f,q,h=>by
   simp only[List.contains_cons,V8,Xo]at h;simp only[fgs];rw[IF ds _ q h.2,a7 _ _ h.1]
theorem PE:∀(ds:ee)(f:Nat->V)(q:Nat),(ds.contains q=YK\/f q= .pv .any)->fgs f ds q= .pv .any
 |[],_,_,h=>by simp only[fgs];simpa using h
 | d::ds,f,q,h=>by
   simp only[fgs];apply PE ds;by_cases e:q=d
   .subst e;exact .inr (aA _ _ _)
   rw[a7 _ _ e];rcases h with h|h
   .grind
   exact .inr h
theorem Vp{σ s:St}{ds:ee}{p:Nat}{v:V}(h:fEq (p::ds) s.sl σ.sl)(B:s.sl p=v)(ho:s.ob=σ.ob)(q:s.av=σ.av):s.le (σ.fgP ds p v):=by
 rintro C n a w ⟨m,R,hw⟩;refine⟨m,R,⟨?_,hw.df,hw.sz,?_⟩⟩
 .show HR C m R σ.ob σ.av w;rw[<-ho,<-q];exact hw.hr
 .intro t ht;show Rel w m σ.av R (upd (fgs σ.sl ds) p v t) _;rw[<-q];by_cases e:t=p
  .subst e;rw[aA,<-B];exact hw.sl t ht
  rw[a7 _ _ e];cases hd:ds.contains t with
  |true=>rw[PE ds _ t (.inl hd)];simp only[Rel,ZH]
  | false=>
    rw[IF ds _ t hd,<-h t (by simp only[List.contains_cons,hd,Xu,Xo];exact e)];exact hw.sl t ht
section
variable {C:Ctx}{n:Nat}{σ τ:St}{ops:YZ}
theorem RL.mono{K K':ZA}:∀{os:Zw}{σ:St},RL C n ops os K σ->(∀s,K s->K' s)->RL C n ops os K' σ
 |[],_,h,hk=>hk _ h
 | o::os,σ,h,hk=>by
   simp only[RL]at h ⊢;cases hg:o.guard with
   |none=>rw[hg]at h;exact OJ.mono h λs hs=>RL.mono hs hk
   | some jw=>
     obtain⟨j,want⟩:=jw;rw[hg]at h;obtain⟨b,h1,h2,h3⟩:=h;exact⟨b,h1,λe=>OJ.mono (h2 e) λs hs=>RL.mono hs hk,λe a w hs=>(h3 e a w hs).imp λs ⟨q,r⟩=>⟨RL.mono q hk,r⟩⟩
theorem RL.append{K:ZA}:∀{os os':Zw}{σ:St},RL C n ops os (RL C n ops os' K) σ->RL C n ops (os++os') K σ
 |[],_,_,h=>h
 | o::os,os',σ,h=>by
   simp only[RL,Wu]at h ⊢;cases hg:o.guard with
   |none=>rw[hg]at h;exact OJ.mono h λs hs=>RL.append hs
   | some jw=>
     obtain⟨j,want⟩:=jw;rw[hg]at h;obtain⟨b,h1,h2,h3⟩:=h;exact⟨b,h1,λe=>OJ.mono (h2 e) λs hs=>RL.append hs,λe a w hs=>(h3 e a w hs).imp λs ⟨q,r⟩=>⟨RL.append q,r⟩⟩
theorem OJ.weaken{o:Oper}{K:ZA}(hl:σ.le τ)(h:OJ C n o K τ):OJ C n o K σ:=λa w Q hs=>h a w Q (hl C n a w hs)
def aj(K:ZA):Prop:=∀s t,s.le t->K t->K s
theorem RL.weaken{K:ZA}(q:aj K):∀{os:Zw},σ.le τ->RL C n ops os K τ->RL C n ops os K σ
 |[],hl,h=>q _ _ hl h
 | o::os,hl,h=>by
   simp only[RL]at h ⊢;cases hg:o.guard with
   |none=>rw[hg]at h;exact OJ.weaken hl h
   | some jw=>
     obtain⟨j,want⟩:=jw;rw[hg]at h;obtain⟨b,h1,h2,h3⟩:=h;exact⟨b,λa w hs=>h1 a w (hl C n a w hs),λe=>OJ.weaken hl (h2 e),λe a w hs=>h3 e a w (hl C n a w hs)⟩
theorem aj.le{τ:St}:aj (λs=>s.le τ):=λ_ _ h k=>h.trans k
theorem aj.aw{Q:Exit->ZA}:aj (λs=>AW C n c Q s):=λ_ _ h k=>Vm h k
theorem QD{f:Nat->V}{v:V}(h:f t=v):upd f t v=f:=by
 funext q;by_cases hq:q=t
 .subst hq;rw[aA,h]
 rw[a7 _ _ hq]
theorem RL.ifB{os:Zw}{K:ZA}(v:Bool->V)(k t p:Nat)(ds:ee)(B:σ.ev n (.tmp t)= .pv (.bool b))(D:aj K)
  (G:b=YK->RL C n ops (os.take k) (λs=>s.le (σ.fgP (t::ds) p (v YK))) ⟨upd σ.sl t (.pv (.bool YK)),σ.ob,σ.av⟩)
  (H:b=YL->RL C n ops (os.take k) (λs=>s.le (σ.fgP (t::ds) p (v YL))) ⟨upd σ.sl t (.pv (.bool YL)),σ.ob,σ.av⟩)
  (h:RL C n ops (os.drop k) K (σ.fgP (t::ds) p (v b))):RL C n ops os K σ:=by
 have e:σ.sl t= .pv (.bool b):=by
  simp only[St.ev]at B;cases hb:Nat.blt t n with
  |true=>rw[hb]at B;simpa using B
  |false=>rw[hb]at B;simp at B
 have q:(⟨upd σ.sl t (.pv (.bool b)),σ.ob,σ.av⟩:St)=σ:=by rw[QD e]
 have E:os=os.take k++os.drop k:=(WV k os).symm;rw[E];apply RL.append;cases b with
 | true=>
   have:=G O;rw[q]at this;exact RL.mono this λs hs=>RL.weaken D hs h
 | false=>
   have:=H O;rw[q]at this;exact RL.mono this λs hs=>RL.weaken D hs h
theorem Vx{os:Zw}{K:ZA}{e:Bool}(k t p:Nat)(ds:ee)(q:σ.ev n (.tmp t)= .pv (.bool b))(B:aj K)
  (D:b=YK->RL C n ops (os.take k) (λs=>s.le (σ.fgP (t::ds) p (.pv (.bool e)))) ⟨upd σ.sl t (.pv (.bool YK)),σ.ob,σ.av⟩)
  (E:b=YL->RL C n ops (os.take k) (λs=>s.le (σ.fgP (t::ds) p (.pv (.bool YL)))) ⟨upd σ.sl t (.pv (.bool YL)),σ.ob,σ.av⟩)
  (h:RL C n ops (os.drop k) K (σ.fgP (t::ds) p (.pv (.bool (b&&e))))):RL C n ops os K σ:=
 RL.ifB (λb=> .pv (.bool (b&&e))) k t p ds q B D E h
theorem Vv{os:Zw}{K:ZA}{e:Bool}(k t p:Nat)(ds:ee)(q:σ.ev n (.tmp t)= .pv (.bool b))(B:aj K)
  (D:b=YK->RL C n ops (os.take k) (λs=>s.le (σ.fgP (t::ds) p (.pv (.bool YK)))) ⟨upd σ.sl t (.pv (.bool YK)),σ.ob,σ.av⟩)
  (E:b=YL->RL C n ops (os.take k) (λs=>s.le (σ.fgP (t::ds) p (.pv (.bool e)))) ⟨upd σ.sl t (.pv (.bool YL)),σ.ob,σ.av⟩)
  (h:RL C n ops (os.drop k) K (σ.fgP (t::ds) p (.pv (.bool (b||e))))):RL C n ops os K σ:=
 RL.ifB (λb=> .pv (.bool (b||e))) k t p ds q B D E h
end
theorem Vo{σ:St}{l:Zx}{os:Zy}(ids:ee)(hl:uF σ (pG ids) l)(ho:gL σ (pG ids) os)(D:l.all (λp=>p.2.okA ids.length)=YK)(E:os.all (λp=>(Nat.blt p.1 ids.length||Nat.ble big p.1)&&p.2.okA ids.length)=YK)
  (q:ids.Nodup) (B:ids.all (λi=>Nat.blt i big)=YK):σ.le (ZT l os ids.length):=
 Vr ids hl ho D E q (IN.2 λi hi=>by rw[IN.1 B i hi];rfl)
end
variable{ob:Nat->va}{τ:St}
def PV.fg2:PV->PV
 | .bS cs=> .bS (PV.fgA cs)
 |p=>p.fg
variable{zs:na}
theorem ZH.fg2{p:PV}(h:ZH w R p u):ZH w R p.fg2 u:=by
 cases p with
 | bS cs=>
   simp only[ZH,PV.fg2]at h ⊢;obtain⟨us,e,h⟩:=h;exact⟨us,e,h.fgA⟩
 |_=>exact h.fg
theorem ZK.fg2{args:na}{Q:PV->Prop}(h:ZK P f args (λv=>Q v.fg2)):ZK P f args Q:=
 λw R us h0 h1 h2=>(h w R us h0 h1 h2).mono λ_ _ ⟨u,v,e,q,b,r⟩=>⟨u,v.fg2,e,q,b,r.fg2⟩
section
section
variable {C:Ctx}{n:Nat}{σ:St}{dst:YX}{ty:TypeId}{pos:String}{after:Y4}{gd:Option (Nat×Bool)}{x:Operand}
theorem XJ.Rm{o:Oper}{v v':V}{wr:List (Nat×va)}{nw:ee}(h:XJ C n o σ ⟨v,wr,nw⟩)(B:∀w m av R u,Rel w m av R v u->Rel w m av R v' u):XJ C n o σ ⟨v',wr,nw⟩:=by
 intro a w Q hs;refine Oper.wp_mono ?_ (h a w Q hs);rintro a' w' ⟨σ',rfl,m,R,hsw⟩;refine⟨_,O,m,R,?_⟩;refine⟨hsw.hr,hsw.df,hsw.sz,λt ht=>?_⟩;have q:=hsw.sl t ht;cases hd:o.dst with
 |none=>simpa only[St.app,hd]using q
 | some d=>
   simp only[St.app,hd]at q ⊢;by_cases e:t=d
   .grind[aA]
   rw[a7 _ _ e]at q ⊢; exact q
theorem Rel.plain{av:Av}{ps:na}(h:Rel w m av R (.agg (ps.map .pv)) u):Rel w m av R (.pv (.agg ps)) u:=by simp only[Rel,ZH]at h ⊢;obtain⟨us,e,h⟩:=h;exact⟨us,e,h.toP⟩
variable {y:Operand}
end
end
section
inductive TK where
 |int (k:IntKind)
 |bool
 |str
 |sl (e:TypeId)
 |st (pl:List (Nat×Nat))
 |arr (len:Nat) (e:TypeId)
 |other
structure TI where
 k:TK
 size:Nat
 bytes:Nat
 zero:Option na
inductive TT where
 |nil
 |node (t:Nat) (i:TI) (l r:TT)
def TT.get:TT->Nat->Option TI
 | .nil,_=>WC
 | .node t i l r,x=>bif Nat.beq x t then WB i else bif Nat.blt x t then l.get x else r.get x
def TT.all(f:Nat->TI->Bool):TT->Bool
 | .nil=>YK
 | .node t i l r=>f t i&&(l.all f&&r.all f)
theorem TT.Aa{f:Nat->TI->Bool}:∀{tt:TT},tt.all f=YK->∀{x:Nat}{i:TI},tt.get x=WB i->f x i=YK
 | .nil,_,x,i,h=>by simp[TT.get]at h
 | .node t j l r,ha,x,i,h=>by
   simp only[TT.all,aJ]at ha;simp only[TT.get]at h;cases hb:Nat.beq x t with
   | true=>
     rw[hb]at h;simp at h;have:=bN hb;subst this h;exact ha.1
   | false=>
     rw[hb]at h;cases hc:Nat.blt x t with
     |true=>rw[hc]at h;exact Aa ha.2.1 (by simpa using h)
     |false=>rw[hc]at h;exact Aa ha.2.2 (by simpa using h)
def kEq:IntKind->IntKind->Bool
 | .i8,.i8| .i16,.i16| .i32,.i32| .i64,.i64| .u8,.u8| .u16,.u16| .u32,.u32| .u64,.u64=>YK
 |_,_=>YL
theorem fB{a b:IntKind}(h:kEq a b=YK):a=b:=by cases a<;>cases b<;>first|rfl|(simp[kEq]at h)
def TK.row:TK->Bool
 | .st _| .arr _ _=>YK
 |_=>YL
def zpB:PV->PV->Bool
 | .int k i,.int k' j=>kEq k k'&&decide (i=j)
 | .bool a,.bool b=>a==b
 | .str a,.str b=>Nat.beq a.size 0&&Nat.beq b.size 0
 | .sl (WB YK) 0 [],.sl (WB YK) 0 []=>YK
 | .nilptr,.nilptr=>YK
 | .nilmap,.nilmap=>YK
 | .nilfn,.nilfn=>YK
 | .niliface,.niliface=>YK
 |_,_=>YL
theorem Un{a b:PV}(h:zpB a b=YK):a=b:=by
 unfold zpB at h;split at h<;>first|rfl|(cases h;done)|skip
 .simp only[aJ,VJ]at h;rw[fB h.1,h.2]
 .rw[Xk.1 h]
 simp_all
def zlB:na->na->Bool
 |[],[]=>YK
 |a::l,b::m=>zpB a b&&zlB l m
 |_,_=>YL
theorem Pp:∀{l m:na},zlB l m=YK->l=m
 |[],[],_=>rfl
 | a::l,b::m,h=>by
   simp only[zlB,aJ]at h;rw[Un h.1,Pp h.2]
 |[],_::_,h=>by simp[zlB]at h
 |_::_,[],h=>by simp[zlB]at h
def plB:List (Nat×Nat)->List (Nat×Nat)->Bool
 |[],[]=>YK
 |(a,b)::l,(c,d)::m=>Nat.beq a c&&Nat.beq b d&&plB l m
 |_,_=>YL
theorem Qo:∀{l m:List (Nat×Nat)},plB l m=YK->l=m
 |[],[],_=>rfl
 | (a,b)::l,(c,d)::m,h=>by
   simp only[plB,aJ]at h;rw[bN h.1.1,bN h.1.2,Qo h.2]
 |[],_::_,h=>by simp[plB]at h
 |_::_,[],h=>by simp[plB]at h
def tv(P:Program)(t:TypeId):TK->TypeDesc->Bool
 | .int k,.int k'=>kEq k k'
 | .bool,.bool=>YK
 | .str,.string=>YK
 | .sl e,.slice e'=>Nat.beq e e'
 | .st pl,.struct _=>(match placesOf P t with|some pl'=>plB pl pl'|none=>YL)
 | .arr m e,.array m' e'=>Nat.beq m m'&&Nat.beq e e'
 | .other,d=> !d.isRow
 |_,_=>YL
def zeroB:Option na->Option Value->Bool
 |none,_=>YK
 |some zs,WB z=>zlB (z.cells.toList.map fq) zs
 |some _,WC=>YL
def Sf(P:Program)(t:TypeId)(i:TI):Bool:=
 match P.info? t,P.underlying t with
 |some inf,WB d=>Nat.beq inf.size i.size&&(Nat.beq inf.bytes i.bytes&&(zeroB i.zero inf.zero&&tv P t i.k d))
 |_,_=>YL
structure TGood(P:Program)(t:TypeId)(i:TI):Prop where
 size:b8 P t i.size
 kind:∃d,P.underlying t=WB d/\tv P t i.k d=YK
 zero:∀zs,i.zero=WB zs->∃z,(P.info? t).map (λi=>(i.zero,i.size,i.bytes))=WB (WB z,i.size,i.bytes)/\z.cells.toList.map fq=zs
theorem NN{t:TypeId}{i:TI}(h:Sf P t i=YK):TGood P t i:=by
 unfold Sf at h;split at h
 .rename_i inf d h1 h2;simp only[aJ]at h;have B:=bN h.1;have D:=bN h.2.1;refine⟨by unfold b8;rw[h1,<-B];rfl,⟨d,h2,h.2.2.2⟩,λzs hz=>?_⟩;have q:=h.2.2.1;rw[hz]at q;cases hq:inf.zero with
  |none=>rw[hq]at q;cases q
  |some z=>rw[hq]at q;exact⟨z,by rw[h1,<-B,<-D,<-hq];rfl,Pp q⟩
 cases h
structure TT.Ok(P:Program)(tt:TT):Prop where
 go:∀{t i},tt.get t=WB i->TGood P t i
theorem TT.ok_of{tt:TT}(h:tt.all (Sf P)=YK):tt.Ok P:=⟨λe=>NN (TT.Aa h e)⟩
section
variable {P:Program}{t:TypeId}{i:TI}
theorem TGood.int(h:TGood P t i){k:IntKind}(e:i.k= .int k):P.underlying t=WB (.int k):=by obtain⟨d,h1,h2⟩:=h.kind;rw[e]at h2;cases d<;>simp[tv]at h2;rw[h1,fB h2]
theorem TGood.bool(h:TGood P t i)(e:i.k= .bool):P.underlying t=WB .bool:=by obtain⟨d,h1,h2⟩:=h.kind;rw[e]at h2;cases d<;>simp[tv]at h2;exact h1
theorem TGood.str(h:TGood P t i)(e:i.k= .str):P.underlying t=WB .string:=by obtain⟨d,h1,h2⟩:=h.kind;rw[e]at h2;cases d<;>simp[tv]at h2;exact h1
theorem TGood.sl(h:TGood P t i)(e:i.k= .sl el):P.underlying t=WB (.slice el):=by obtain⟨d,h1,h2⟩:=h.kind;rw[e]at h2;cases d<;>simp[tv]at h2;rw[h1,h2]
theorem TGood.arr(h:TGood P t i){m:Nat}(e:i.k= .arr m el):P.underlying t=WB (.array m el):=by obtain⟨d,h1,h2⟩:=h.kind;rw[e]at h2;cases d<;>simp[tv]at h2;rw[h1,h2.1,h2.2]
theorem TGood.st(h:TGood P t i){pl:List (Nat×Nat)}(e:i.k= .st pl):placesOf P t=WB pl:=by
 obtain⟨d,h1,h2⟩:=h.kind;rw[e]at h2;cases d<;>simp[tv]at h2;cases hp:placesOf P t with
 |none=>rw[hp]at h2;cases h2
 |some pl'=>rw[hp]at h2;rw[Qo h2]
theorem TGood.isRow(h:TGood P t i)(e:i.k.row=YK):isRow P t:=by obtain⟨d,h1,h2⟩:=h.kind;refine⟨d,h1,?_⟩;cases hk:i.k<;>rw[hk]at e h2<;>simp[TK.row]at e<;>cases d<;>simp[tv]at h2<;>rfl
theorem TGood.iw(h:TGood P t i)(e:i.k.row=YL):iw P t:=by obtain⟨d,h1,h2⟩:=h.kind;refine⟨d,h1,?_⟩;cases hk:i.k<;>rw[hk]at e h2<;>simp[TK.row]at e<;>cases d<;>simp[tv]at h2<;>first|rfl|exact h2
theorem TGood.gQ(h:TGood P t i){pl:List (Nat×Nat)}(e:i.k= .st pl){o s:Nat}(E:pl[j]? =WB (o,s))(hs:Nat.beq s 0=YL):gQ P t j=WB o:=by
 have q:=h.st e;unfold placesOf at q;unfold Go.Proofs.YthicoeegbdboeaaGreatDoor.gQ;split at q
 .rename_i fs hu;try rw[hu]
  have B:∀(l:List Field)(pl:List (Nat×Nat))(j:Nat),(l.mapM λf=>(P.info? f.type).map λi=>(f.offset,i.size))=WB pl->pl[j]? =WB (o,s)->∃f,l[j]? =WB f/\f.offset=o/\∃inf,P.info? f.type=WB inf/\inf.size=s:=by
   intro l;induction l with
   |nil=>intro pl j h1 h2;simp at h1;subst h1;simp at h2
   | cons f l ih=>
     intro pl j h1 h2;simp only[List.mapM_cons,Option.bind_eq_bind,Option.bind_eq_some_iff,Option.pure_def,VM]at h1;obtain⟨a,ha,pl',hpl,rfl⟩:=h1;cases j with
     | zero=>
       simp only[List.getElem?_cons_zero,VM]at h2;subst h2;cases hi:P.info? f.type with
       |none=>rw[hi]at ha;cases ha
       |some inf=>rw[hi]at ha;simp at ha;exact⟨f,O,ha.1,inf,hi,ha.2⟩
     |succ j=>exact(ih pl' j hpl (by simpa using h2)).imp λf hf=>by simpa using hf
  obtain⟨f,hf,ho,inf,hi,hsz⟩:=B fs.toList pl j q E;have D:fs[j]? =WB f:=by simpa using hf
  simp only[D,hi,ho,hsz,hs,Wo]
 cases q
end
structure AO where
 s:OS
 rd:ee
 φ:Prop
abbrev AO.val(v:V):Option AO:=WB ⟨⟨v,[],[]⟩,[],True⟩
def hdV{α:Type}(v:V)(f:V->α):α:=
 match v with
 | .pv p=>f (.pv p)
 | .ptr a b=>f (.ptr a b)
 | .bJ a b c=>f (.bJ a b c)
 | .tsl a b c=>f (.tsl a b c)
 | .bz a b c=>f (.bz a b c)
 | .map a=>f (.map a)
 | .agg l=>f (.agg l)
 | .bS l=>f (.bS l)
 | .fn a b c=>f (.fn a b c)
theorem lr(v:V)(f:V->α):hdV v f=f v:=by cases v<;>rfl
def hdL{α:Type}:nR->(nR->α)->α
 |[],f=>f []
 |v::l,f=>hdV v λv=>hdL l λl=>f (v::l)
theorem jH:∀(l:nR)(f:nR->α),hdL l f=f l
 |[],_=>rfl
 |v::l,f=>by simp only[hdL,lr,jH l]
def TV(vs:nR):V:=match V.pvs vs with
 |some ps=> .pv (.agg ps)
 |none=> .agg vs
variable (tt:TT)(ev:Operand->V)(ob:Nat->va)(id:Nat)
omit tt ev ob id in
def R4(op:BinOp)(k:IntKind)(i j:Int):Option AO:=
 match op with
 | .add=>bif kEq k .i64 then WB ⟨⟨.pv (.int .i64 (i+j)),[],[]⟩,[], -9223372036854775808<=i+j/\i+j<=9223372036854775807⟩else AO.val (.pv (.int k (k.wrap (i+j))))
 | .sub=>bif kEq k .i64 then WB ⟨⟨.pv (.int .i64 (i-j)),[],[]⟩,[], -9223372036854775808<=i-j/\i-j<=9223372036854775807⟩else AO.val (.pv (.int k (k.wrap (i-j))))
 | .mul=>bif kEq k .i64 then WB ⟨⟨.pv (.int .i64 (i*j)),[],[]⟩,[], -9223372036854775808<=i*j/\i*j<=9223372036854775807⟩else AO.val (.pv (.int k (k.wrap (i*j))))
 | .quo=>WB ⟨⟨.pv (.int k (k.wrap (i.tdiv j))),[],[]⟩,[],j≠0⟩
 | .rem=>WB ⟨⟨.pv (.int k (i.tmod j)),[],[]⟩,[],j≠0⟩
 | .shl=>WC
 | .shr=>WC
 |op=>match wm op k i j with|some p=>AO.val (.pv p)|none=>WC
omit tt ev ob id in
def JA(op:BinOp)(k:IntKind)(i j:Int):Option AO:=
 match op,k with
 | .add,.u64=>match i,j with
   | .ofNat a,.ofNat b=>WB ⟨⟨.pv (.int .u64 ((a+b:Nat):Int)),[],[]⟩,[],a+b<18446744073709551616⟩
   |_,_=>WC
 | .sub,.u64=>match i,j with
   | .ofNat a,.ofNat b=>WB ⟨⟨.pv (.int .u64 ((a-b:Nat):Int)),[],[]⟩,[],b<=a/\a<18446744073709551616⟩
   |_,_=>WC
 | .mul,.u64=>match i,j with
   | .ofNat a,.ofNat b=>WB ⟨⟨.pv (.int .u64 ((a*b:Nat):Int)),[],[]⟩,[],a*b<18446744073709551616⟩
   |_,_=>WC
 | .quo,.u64=>match i,j with
   | .ofNat a,.ofNat b=>WB ⟨⟨.pv (.int .u64 ((a/b:Nat):Int)),[],[]⟩,[],0<b/\a<18446744073709551616⟩
   |_,_=>WC
 | .rem,.u64=>match i,j with
   | .ofNat a,.ofNat b=>WB ⟨⟨.pv (.int .u64 ((a%b:Nat):Int)),[],[]⟩,[],0<b⟩
   |_,_=>WC
 |op,k=>R4 op k i j
def Ru(op:BinOp)(t:TypeId)(x y:Operand):Option AO:=
 match ev x,ev y with
 | .pv (.int k i),.pv (.int k' j)=>bif kEq k k' then JA op k i j else WC
 | .pv (.str a),.pv (.str b)=>match op with
   | .add=>WB ⟨⟨.pv (.str (a++b)),[],[]⟩,[],a.size+b.size<=9223372036854775807⟩
   |op=>match Ty op a b with|some p=>AO.val (.pv p)|none=>WC
 | .pv (.bool a),.pv (.bool b)=>match tt.get t with
   | some ti=>match ti.k,op with
     | .bool,.eql=>AO.val (.pv (.bool (a==b)))
     | .bool,.neq=>AO.val (.pv (.bool (a !=b)))
     |_,_=>WC
   |none=>WC
 | .pv (.sl (WB b) _ _),.pv (.sl (WB YK) 0 [])=>match y with
   | .const (.slice WC 0 0)=>match tt.get t with
     | some ti=>match ti.k,op with
       | .sl _,.eql=>AO.val (.pv (.bool b))
       | .sl _,.neq=>AO.val (.pv (.bool (!b)))
       |_,_=>WC
     |none=>WC
   |_=>WC
 |_,_=>WC
def aoUn(op:UnOp)(x:Operand):Option AO:=
 match op,ev x with
 | .not,.pv (.bool b)=>AO.val (.pv (.bool (!b)))
 | .neg,.pv (.int .i64 i)=>WB ⟨⟨.pv (.int .i64 (-i)),[],[]⟩,[], -9223372036854775807<=i/\i<=9223372036854775807⟩
 |_,_=>WC
def Jh(src d:TypeId)(x:Operand):Option AO:=
 match ev x,tt.get src,tt.get d with
 | .pv (.int _ i),WB _,WB td=>match td.k with
   | .int k'=>AO.val (.pv (.int k' (k'.wrap i)))
   |_=>WC
 | .pv (.str s),WB _,WB td=>match td.k with
   | .sl e=>match tt.get e with
     | some te=>match te.k with
       | .int .u8=>WB ⟨⟨.pv (.sl (WB YL) s.size (aF s.data.toList)),[],[]⟩,[],s.size<=9223372036854775807⟩
       |_=>WC
     |none=>WC
   |_=>WC
 |_,_,_=>WC
def RW(x:Operand)(i:Nat):Option AO:=
 match ev x with
 | .pv (.bS ps)=>match ps[i]? with|some p=>AO.val (.pv p)|none=>WC
 | .bS vs=>match vs[i]? with|some v=>hdV v AO.val|none=>WC
 |_=>WC
def RS(T:TypeId)(x:Operand):Option AO:=
 hdV (ev x) λv=>match v with
  | .pv _| .agg _=>hdL v.cells λcs=>bif cs.all V.leaf then WB ⟨⟨.ptr id 0,[(id,WB (.mix T cs))],[id]⟩,[],True⟩else WC
  | .ptr i o=>bif cC (ob i)then WB ⟨⟨.ptr id 0,[(id,WB (.mix T [.ptr i o]))],[id]⟩,[i],True⟩else WC
  | .bJ i s k=>bif cC (ob i)then WB ⟨⟨.ptr id 0,[(id,WB (.mix T [.bJ i s k]))],[id]⟩,[i],True⟩else WC
  | .map i=>bif cC (ob i)then WB ⟨⟨.ptr id 0,[(id,WB (.mix T [.map i]))],[id]⟩,[i],True⟩else WC
  | .bz i s k=>WB ⟨⟨.ptr id 0,[(id,WB (.mix T [.bz i s k]))],[id]⟩,[],True⟩
  | .fn f a b=>WB ⟨⟨.ptr id 0,[(id,WB (.mix T [.fn f a b]))],[id]⟩,[],True⟩
  | .bS _=>WC
  | .tsl _ _ _=>WC
def Bg(T:TypeId):Option AO:=
 match tt.get T with
 | some ti=>match ti.zero with
   |some zs=>hdL (zs.map .pv) λcs=>WB ⟨⟨.ptr id 0,[(id,WB (.mix T cs))],[id]⟩,[],True⟩
   |none=>WC
 |none=>WC
def Tc(x:Operand):Option AO:=
 match ev x with
 | .ptr i off=>bif cC (ob i)then WB ⟨⟨.ptr i off,[],[]⟩,[i],True⟩else WC
 | .pv (.rp cs off)=>AO.val (.pv (.rp cs off))
 |_=>WC
def Ku(T:TypeId)(x:Operand):Option AO:=
 match tt.get T with
 |none=>WC
 | some ti=>match ev x with
   | .ptr i off=>match ob i with
     | some (.mix _ cs)=>bif ti.k.row then hdL ((cs.drop off).take ti.size) λvs=>bif Nat.beq vs.length ti.size then hdV (TV vs) λv=>WB ⟨⟨v,[],[]⟩,[i],True⟩else WC
       else match cs[off]? with|some v=>hdV v λv=>WB ⟨⟨v,[],[]⟩,[i],True⟩|none=>WC
     |some (.cells _ cs)=>bif ti.k.row then WC else match cs[off]? with|some p=>WB ⟨⟨.pv p,[],[]⟩,[i],True⟩|none=>WC
     |_=>WC
   | .pv (.rp cs off)=>bif ti.k.row then bif Nat.beq ((cs.drop off).take ti.size).length ti.size then AO.val (.pv (.agg ((cs.drop off).take ti.size)))else WC
     else match cs[off]? with|some p=>AO.val (.pv p)|none=>WC
   |_=>WC
def V.id1:V->ee
 | .ptr i _=>[i]
 | .bJ i _ _=>[i]
 | .map i=>[i]
 |_=>[]
def V.ids:V->ee
 | .pv _=>[]
 | .agg cs=>cs.flatMap V.id1
 |v=>v.id1
def Aq(dst:YX)(T:TypeId)(x y:Operand):Option AO:=
 match dst,tt.get T,ev x with
 | none,WB ti,.ptr i off=>match ob i with
   | some (.mix T' cs)=>hdV (ev y) λv=>hdL v.cells λvc=>
     bif Nat.beq vc.length ti.size&&(Nat.ble (off+ti.size) cs.length&&(vc.all (λc=>c.leaf&&c.cq ob)&&v.cq ob))then
      hdL (k7 cs off vc) λl=>WB ⟨⟨.pv .any,[(i,WB (.mix T' l))],[]⟩,i::v.ids,True⟩
     else WC
   | some (.cells T' cs)=>match ev y with
     | .pv v=>bif Nat.beq ti.size 1&&v.leaf then WB ⟨⟨.pv .any,[(i,WB (.cells T' (cs.set off v)))],[]⟩,[i],off<cs.length⟩else WC
     |_=>WC
   |_=>WC
 |_,_,_=>WC
def An(s:TypeId)(x:Operand)(j:Nat):Option AO:=
 match tt.get s with
 |none=>WC
 | some ti=>match ti.k with
   | .st pl=>match pl[j]? with
     | some (o,q)=>bif Nat.beq q 0 then WC else match ev x with
       | .ptr i off=>bif cC (ob i)then WB ⟨⟨.ptr i (off+o),[],[]⟩,[i],True⟩else WC
       | .pv (.rp cs off)=>AO.val (.pv (.rp cs (off+o)))
       |_=>WC
     |none=>WC
   |_=>WC
def z7(T:TypeId)(x y:Operand):Option AO:=
 match tt.get T with
 |none=>WC
 | some ti=>match ti.k with
   | .sl e=>match tt.get e with
     |none=>WC
     | some ⟨_,sz,by_,zr⟩=>match ev y with
       | .pv (.int _ (.ofNat j))=>match ev x with
         | .pv (.sl _ k cs)=>WB ⟨⟨.pv (.rp cs (j*sz)),[],[]⟩,[],j<k/\cs≠[]⟩
         | .bJ i _ k=>bif cC (ob i)then WB ⟨⟨.ptr i (j*sz),[],[]⟩,[i],j<k⟩else WC
         |_=>WC
       |_=>WC
   |_=>WC
def GP:Operand->Operand->Bool
 | .tmp a,.tmp b=>Nat.beq a b
 | .const (.int k a),.const (.int k' b)=>kEq k k'&&decide (a=b)
 |_,_=>YL
omit tt ev ob id in
theorem Kh{y:Operand}(h:GP x y=YK):x=y:=by
 unfold GP at h;split at h
 .rw[bN h]
 .simp only[aJ,VJ]at h;rw[fB h.1,h.2]
 cases h
def Kk(T:TypeId)(x y:Operand):Option AO:=
 match tt.get T with
 |none=>WC
 | some ti=>match ti.k with
   | .sl e=>match tt.get e with
     |none=>WC
     | some ⟨_,sz,by_,zr⟩=>match zr,ev x with
       |some zs,.pv (.int _ (.ofNat k))=>bif GP x y&&(Nat.beq zs.length sz&&(Nat.blt 0 sz&&Nat.ble by_ 1000))then WB ⟨⟨.bJ id sz k,[(id,WB (.cells e (mkZ zs (k*sz))))],[id]⟩,[],k<=1000000000⟩else WC
       |_,_=>WC
   |_=>WC
def uX(T:TypeId)(k:Nat)(parts:List (Nat×Operand)):Option AO:=
 match tt.get T with
 |none=>WC
 | some ti=>match ti.k with
   | .sl e=>match tt.get e with
     |none=>WC
     | some ⟨_,sz,by_,zr⟩=>match zr with
       | some zs=>bif Nat.beq zs.length sz&&(Nat.blt 0 sz&&(Nat.ble by_ 1000&&(Nat.blt 0 k&&Nat.ble (k*sz) 16777216)))then
         match dT (λi=>WB (i*sz,sz)) ob ((mkZ zs (k*sz)).map .pv) (parts.map λp=>(p.1,ev p.2))with
         | some vs=>match V.pvs vs with
           |some cs=>WB ⟨⟨.bJ id sz k,[(id,WB (.cells e cs))],[id]⟩,parts.flatMap λp=>(ev p.2).ids,True⟩
           |none=>WC
         |none=>WC
         else WC
       |none=>WC
   |_=>WC
def B6(T:TypeId)(parts:List (Nat×Operand)):Option AO:=
 match tt.get T with
 |none=>WC
 | some ti=>match ti.zero,ti.k with
   | some zs,.st pl=>match dT (Df pl) ob (zs.map .pv) (parts.map λp=>(p.1,ev p.2))with
     |some vs=>hdL vs λvs=>hdV (TV vs) λv=>WB ⟨⟨v,[],[]⟩,parts.flatMap λp=>(ev p.2).ids,True⟩
     |none=>WC
   | some zs,.arr _ e=>match tt.get e with
     | some te=>match dT (λi=>WB (i*te.size,te.size)) ob (zs.map .pv) (parts.map λp=>(p.1,ev p.2))with
       |some vs=>hdL vs λvs=>hdV (TV vs) λv=>WB ⟨⟨v,[],[]⟩,parts.flatMap λp=>(ev p.2).ids,True⟩
       |none=>WC
     |none=>WC
   |_,_=>WC
def R8(t:TypeId)(x:Operand):Option AO:=
 match tt.get t with
 |none=>WC
 | some ti=>match ti.k,ev x with
   | .str,.pv (.str s)=>AO.val (.pv (.int .i64 s.size))
   | .sl _,.pv (.sl _ k _)=>AO.val (.pv (.int .i64 k))
   | .sl _,.bJ i _ k=>bif cC (ob i)then WB ⟨⟨.pv (.int .i64 k),[],[]⟩,[i],True⟩else WC
   | .sl _,.bz _ _ k=>AO.val (.pv (.int .i64 k))
   |_,_=>WC
def RY(t t':TypeId)(x y:Operand):Option AO:=
 match tt.get t with
 |none=>WC
 | some ti=>match ti.k with
   | .sl e=>match tt.get e with
     |none=>WC
     | some ⟨_,sz,by_,zr⟩=>match zr with
       | some zs=>bif Nat.beq t t'&&(Nat.beq zs.length sz&&(Nat.blt 0 sz&&Nat.ble by_ 1000))then
         match ev y with
         | .bJ i2 s2 1=>match ob i2 with
           | some (.cells _ news)=>bif Nat.beq s2 sz&&(Nat.beq news.length sz&&news.all PV.leaf)then
             match ev x with
             | .bJ i s k=>match ob i with
               |some (.cells e' cs)=>bif Nat.beq e' e&&Nat.beq s sz then WB ⟨⟨.bJ id sz (k+1),[(id,WB (.cells e (cs++news))),(i,WC)],[id]⟩,[i,i2],cs.length=k*sz/\k+1<=1000000000⟩else WC
               |_=>WC
             | .bz i s k=>match ob i with
               |some (.bD e' cs)=>bif Nat.beq e' e&&Nat.beq s sz then WB ⟨⟨.bz id sz (k+1),[(id,WB (.bD e (cs++news))),(i,WC)],[id]⟩,[i,i2],cs.length=k*sz/\k+1<=1000000000⟩else WC
               |_=>WC
             | .pv (.sl (WB YK) 0 [])=>WB ⟨⟨.bJ id sz 1,[(id,WB (.cells e news))],[id]⟩,[i2],True⟩
             |_=>WC
             else WC
           |_=>WC
         |_=>WC
         else WC
       |none=>WC
   |_=>WC
def Bn(T:TypeId)(x:Operand)(lo hi:Option Operand):Option AO:=
 match tt.get T with
 |none=>WC
 | some ti=>match ti.k,ev x with
   | .str,.pv (.str z)=>match lo,hi with
     | none,WB y=>match ev y with
       | .pv (.int _ (.ofNat h))=>WB ⟨⟨.pv (.str (z.extract 0 h)),[],[]⟩,[],h<=z.size⟩
       |_=>WC
     | some y,WC=>match ev y with
       | .pv (.int _ (.ofNat l))=>WB ⟨⟨.pv (.str (z.extract l z.size)),[],[]⟩,[],l<=z.size⟩
       |_=>WC
     | some y,WB y'=>match ev y,ev y' with
       | .pv (.int _ (.ofNat l)),.pv (.int _ (.ofNat h))=>WB ⟨⟨.pv (.str (z.extract l h)),[],[]⟩,[],l<=h/\h<=z.size⟩
       |_,_=>WC
     |none,WC=>WC
   | .sl e,.pv (.sl b k cs)=>match tt.get e with
     |none=>WC
     | some ⟨_,sz,by_,zr⟩=>match lo,hi with
       | none,WB y=>match ev y with
         | .pv (.int _ (.ofNat h))=>WB ⟨⟨.pv (.sl b h (cs.take (h*sz))),[],[]⟩,[],h<=k/\cs.length=k*sz⟩
         |_=>WC
       | some y,WC=>match ev y with
         | .pv (.int _ (.ofNat l))=>WB ⟨⟨.pv (.sl b (k-l) (cs.drop (l*sz))),[],[]⟩,[],l<=k/\cs.length=k*sz⟩
         |_=>WC
       |_,_=>WC
   |_,_=>WC
def J0(c:Call):Option AO:=
 match c.callee,c.args.toList,c.argTypes.toList with
 | .builtin .len,[x],[t]=>R8 tt ev ob t x
 | .builtin .append,[x,y],[t,t']=>RY tt ev ob id t t' x y
 | .builtin .max,[x,y],[_,_]=>match ev x,ev y with
   | .pv (.int k i),.pv (.int k' j)=>bif kEq k k' then AO.val (.pv (.int k (if j>i then j else i)))else WC
   |_,_=>WC
 | .builtin .min,[x,y],[_,_]=>match ev x,ev y with
   | .pv (.int k i),.pv (.int k' j)=>bif kEq k k' then AO.val (.pv (.int k (if j<i then j else i)))else WC
   |_,_=>WC
 |_,_,_=>WC
def auto(dst:YX):Op->Option AO
 | .move x=>hdV (ev x) AO.val
 | .assign x=>hdV (ev x) AO.val
 | .pick c x y=>match ev c with| .pv (.bool b)=>AO.val (bif b then ev x else ev y)|_=>WC
 | .binOp op t x y _=>Ru tt ev op t x y
 | .unOp op _ x=>aoUn ev op x
 | .convert src d x=>Jh tt ev src d x
 | .extract x i=>RW ev x i
 | .box T x=>RS ev ob id T x
 | .alloc T=>Bg tt id T
 | .nilCheck x=>Tc ev ob x
 | .load T x=>Ku tt ev ob T x
 | .store T x y=>Aq tt ev ob dst T x y
 | .fieldAddr s x j=>An tt ev ob s x j
 | .indexAddr T x y=>z7 tt ev ob T x y
 | .makeSlice T x y=>Kk tt ev id T x y
 | .buildSlice T k ps=>uX tt ev ob id T k ps.toList
 | .build T ps=>B6 tt ev ob T ps.toList
 | .slice T x lo hi WC=>Bn tt ev T x lo hi
 | .makeFunc f fs cs=>hdL (fs.toList.map ev) λa=>hdL (cs.toList.map ev) λb=>AO.val (.fn f a b)
 | .call c=>J0 tt ev ob id c
 |_=>WC
end
variable{v:V}
section
theorem vN{av:Av}{vs:nR}(h:Rel w m av R (.agg vs) u):Rel w m av R (TV vs) u:=by
 unfold TV;split
 .rename_i ps hps;have e:=V.xU hps;subst e;exact h.plain
 exact h
theorem bd{a:Option α}{x:α}(h:(bif b then a else WC)=WB x):b=YK/\a=WB x:=by
 cases b
 .cases h
 exact⟨O,h⟩
theorem kQ{o:va}(h:cC o=YK):∃q,o=WB q/\q.real=YK:=by
 cases o with
 |none=>cases h
 |some q=>exact⟨q,O,h⟩
theorem dF{ob':Nat->va}:∀{v:V},(∀i∈v.id1,ob i=ob' i)->v.cq ob=v.cq ob'
 | .pv _,_=>rfl
 | .ptr i o,h=>by simp only[V.cq,h i (by simp[V.id1])]
 | .bJ i _ _,h=>by simp only[V.cq,h i (by simp[V.id1])]
 | .tsl _ _ _,_=>rfl
 | .bz _ _ _,_=>rfl
 | .map i,h=>by simp only[V.cq,h i (by simp[V.id1])]
 | .agg _,_=>rfl
 | .bS _,_=>rfl
 | .fn _ _ _,_=>rfl
theorem EM{ob':Nat->va}(h:∀i∈v.ids,ob i=ob' i):(∀c∈v.cells,c.cq ob=c.cq ob')/\v.cq ob=v.cq ob':=by
 cases v with
 | pv p=>
   refine⟨λc hc=>?_,O⟩;cases p<;>simp[V.cells]at hc<;>first|(subst hc;rfl)|(obtain⟨_,_,rfl⟩:=hc;rfl)
 |agg cs=>exact⟨λc hc=>dF λi hi=>h i (by simp only[V.ids,V6];exact⟨c,by simpa[V.cells]using hc,hi⟩),O⟩
 |ptr i o=>exact⟨λc hc=>by simp only[V.cells,VH]at hc;subst hc;exact dF h,dF h⟩
 |bJ i s k=>exact⟨λc hc=>by simp only[V.cells,VH]at hc;subst hc;exact dF h,dF h⟩
 |map i=>exact⟨λc hc=>by simp only[V.cells,VH]at hc;subst hc;exact dF h,dF h⟩
 |_=>exact⟨λc hc=>by simp only[V.cells,VH]at hc;subst hc;rfl,O⟩
theorem Cb{ob':Nat->va}(h:∀i∈v.ids,ob i=ob' i):(v.cells.all (λc=>c.leaf&&c.cq ob)&&v.cq ob)=(v.cells.all (λc=>c.leaf&&c.cq ob')&&v.cq ob'):=by
 have hc:=EM h;rw[hc.2]
 congr 1
 rw[V0,IN,IN];exact⟨λk c hm=>by rw[<-hc.1 c hm];exact k c hm,λk c hm=>by rw[hc.1 c hm];exact k c hm⟩
theorem jt{place:Nat->Option (Nat×Nat)}{ob':Nat->va}:∀(l:Zx)(cells:nR),(∀p∈l,∀i∈p.2.ids,ob i=ob' i)->dT place ob cells l=dT place ob' cells l
 |[],_,_=>rfl
 | (i,v)::l,cells,h=>by
   have hv:=Cb (v:=v) (h (i,v) Zm);have ih:=λc=>jt (place:=place) l c (λp hp=>h p (by simp[hp]))
   simp only[dT];split
   .rfl
   grind
section
variable {C:Ctx}{n:Nat}{τ:St}{dst:YX}{ty t t':TypeId}{pos:String}{after:Y4}{gd:Option (Nat×Bool)}{x y:Operand}{tt:TT}{ev:Operand->V}{ob:Nat->va}{id:Nat}{ao:AO}
theorem Na{op:BinOp}{k:IntKind}{i j:Int}(h:R4 op k i j=WB ao)(E:ao.φ)(B:τ.ev n x= .pv (.int k i))(D:τ.ev n y= .pv (.int k j)):XJ C n ⟨dst,.binOp op t x y t',ty,pos,after,gd⟩ τ ao.s:=by
 have q:∀{a b:AO},(bif kEq k .i64 then WB a else WB b)=WB ao->(k= .i64/\a=ao)\/b=ao:=fun{a b} h=>by
  cases hk:kEq k .i64 with
  |true=>rw[hk]at h;exact .inl ⟨fB hk,by simpa using h⟩
  |false=>rw[hk]at h;exact .inr (by simpa using h)
 cases op<;>simp only[R4]at h
 case add=>rcases q h with⟨rfl,rfl⟩|rfl;exact lx B D E;exact aY B D O
 case sub=>rcases q h with⟨rfl,rfl⟩|rfl;exact CF B D E;exact aY B D O
 case mul=>rcases q h with⟨rfl,rfl⟩|rfl;exact yO B D E;exact aY B D O
 case quo=>cases h;exact dw B D E
 case rem=>cases h;exact fC B D E
 case shl=>cases h
 case shr=>cases h
 all_goals (simp only[wm]at h;cases h;exact aY B D O)
theorem Cs(h:a<18446744073709551616):IntKind.u64.wrap (a:Int)=a:=IntWalk.u64_in _ Zi
theorem wI{b:Nat}(q:τ.ev n x= .pv (.int .u64 (a:Int)))(B:τ.ev n y= .pv (.int .u64 (b:Int)))(h:a+b<18446744073709551616):XJ C n ⟨dst,.binOp .add t x y t',ty,pos,after,gd⟩ τ ⟨.pv (.int .u64 ((a+b:Nat):Int)),[],[]⟩:=
 aY q B (by simp only[wm];rw[<-Int.natCast_add,Cs h])
theorem vi{b:Nat}(q:τ.ev n x= .pv (.int .u64 (a:Int)))(B:τ.ev n y= .pv (.int .u64 (b:Int)))(h:b<=a/\a<18446744073709551616):XJ C n ⟨dst,.binOp .sub t x y t',ty,pos,after,gd⟩ τ ⟨.pv (.int .u64 ((a-b:Nat):Int)),[],[]⟩:=
 aY q B (by simp only[wm];rw[show(a:Int)-b=((a-b:Nat):Int) by omega,Cs Zi])
theorem qB{b:Nat}(q:τ.ev n x= .pv (.int .u64 (a:Int)))(B:τ.ev n y= .pv (.int .u64 (b:Int)))(h:a*b<18446744073709551616):XJ C n ⟨dst,.binOp .mul t x y t',ty,pos,after,gd⟩ τ ⟨.pv (.int .u64 ((a*b:Nat):Int)),[],[]⟩:=
 aY q B (by simp only[wm];rw[<-XK,Cs h])
theorem so{b:Nat}(B:τ.ev n x= .pv (.int .u64 (a:Int)))(D:τ.ev n y= .pv (.int .u64 (b:Int)))(h:0<b/\a<18446744073709551616):XJ C n ⟨dst,.binOp .quo t x y t',ty,pos,after,gd⟩ τ ⟨.pv (.int .u64 ((a/b:Nat):Int)),[],[]⟩:=by have q:=dw (C:=C) (n:=n) (dst:=dst) (ty:=ty) (pos:=pos) (after:=after) (gd:=gd) (t:=t) (t':=t') B D Zi;rw[show(a:Int).tdiv b=((a/b:Nat):Int)from O,Cs (Yn (Zc _ _) h.2)]at q;exact q
theorem sG{b:Nat}(q:τ.ev n x= .pv (.int .u64 (a:Int)))(B:τ.ev n y= .pv (.int .u64 (b:Int)))(h:0<b):XJ C n ⟨dst,.binOp .rem t x y t',ty,pos,after,gd⟩ τ ⟨.pv (.int .u64 ((a%b:Nat):Int)),[],[]⟩:=
 fC (C:=C) (n:=n) (dst:=dst) (ty:=ty) (pos:=pos) (after:=after) (gd:=gd) (t:=t) (t':=t') q B Zi
theorem ID{op:BinOp}{k:IntKind}{i j:Int}(h:JA op k i j=WB ao)(q:ao.φ)(B:τ.ev n x= .pv (.int k i))(D:τ.ev n y= .pv (.int k j)):XJ C n ⟨dst,.binOp op t x y t',ty,pos,after,gd⟩ τ ao.s:=by
 unfold JA at h;split at h
 .split at h
  .cases h;exact wI B D q
  cases h
 .split at h
  .cases h;exact vi B D q
  cases h
 .split at h
  .cases h;exact qB B D q
  cases h
 .split at h
  .cases h;exact so B D q
  cases h
 .split at h
  .cases h;exact sG B D q
  cases h
 exact Na h q B D
theorem Mg(E:tt.Ok C.P){op:BinOp}(h:Ru tt ev op t x y=WB ao)(G:ao.φ)(q:τ.ev n x=ev x)(B:τ.ev n y=ev y):XJ C n ⟨dst,.binOp op t x y t',ty,pos,after,gd⟩ τ ao.s:=by
 unfold Ru at h;split at h
 .rename_i k i k' j e1 e2;have q:=q.trans e1;have B:=B.trans e2;have h:=bd h;have:=fB h.1;subst this;replace h:=h.2;exact ID h G q B
 .grind[rS,lH]
 .rename_i a b e1 e2;have q:=q.trans e1;have B:=B.trans e2;split at h
  .rename_i ti hti;have D:=E.go hti;split at h
   .rename_i hk;cases h;exact Rz (D.bool hk) q B
   .rename_i hk;cases h;exact RZ (D.bool hk) q B
   cases h
  cases h
 .rename_i b k cs e1 e2;have q:=q.trans e1;split at h
  .split at h
   .rename_i ti hti;have D:=E.go hti;split at h
    .rename_i hk;cases h;exact G4 (D.sl hk) q
    .rename_i hk;cases h;exact GD (D.sl hk) q
    cases h
   cases h
  cases h
 cases h
theorem Rp{op:UnOp}(h:aoUn ev op x=WB ao)(q:ao.φ)(B:τ.ev n x=ev x):XJ C n ⟨dst,.unOp op t x,ty,pos,after,gd⟩ τ ao.s:=by
 unfold aoUn at h;split at h
 .grind[TO]
 .grind[PH]
 cases h
theorem Km(B:tt.Ok C.P)(h:Jh tt ev src d x=WB ao)(D:ao.φ)(q:τ.ev n x=ev x):XJ C n ⟨dst,.convert src d x,ty,pos,after,gd⟩ τ ao.s:=by
 unfold Jh at h;split at h
 .rename_i e1 e2 e3;have q:=q.trans e1;obtain⟨d,hs,_⟩:=(B.go e2).kind;split at h
  .rename_i hk;cases h;exact eX hs ((B.go e3).int hk) q
  cases h
 .rename_i e1 e2 e3;have q:=q.trans e1;obtain⟨d,hs,_⟩:=(B.go e2).kind;split at h
  .rename_i e hk;split at h
   .rename_i te hte;split at h
    .rename_i hke;cases h;exact TX hs ((B.go e3).sl hk) ((B.go hte).int hke) q D
    cases h
   cases h
  cases h
 cases h
theorem OM(h:RW ev x i=WB ao)(q:τ.ev n x=ev x):XJ C n ⟨dst,.extract x i,ty,pos,after,gd⟩ τ ao.s:=by grind[RW,cE,lr,Fu]
theorem Pg(h:RS ev ob id T x=WB ao)(q:τ.ev n x=ev x)(ho:∀i∈ao.rd,τ.ob i=ob i)(B:∀i∈ao.s.nw,τ.av i=YK):XJ C n ⟨dst,.box T x,ty,pos,after,gd⟩ τ ao.s:=by
 unfold RS at h;rw[lr]at h;split at h
 .rename_i e;rw[jH]at h;obtain⟨hl,h⟩:=bd h;cases h;rw[e]at hl ⊢;exact r8 id (B id Zm) (q.trans e) hl (by rintro _ _ ⟨⟩) (by rintro _ _ _ ⟨⟩) (by rintro _ ⟨⟩)
 .rename_i e;rw[jH]at h;obtain⟨hl,h⟩:=bd h;cases h;rw[e]at hl ⊢;exact r8 id (B id Zm) (q.trans e) hl (by rintro _ _ ⟨⟩) (by rintro _ _ _ ⟨⟩) (by rintro _ ⟨⟩)
 .rename_i i o e;obtain⟨hl,h⟩:=bd h;cases h;exact r8 id (B id Zm) (q.trans e) O (by rintro _ _ ⟨⟩;rw[ho i Zm];exact hl) (by rintro _ _ _ ⟨⟩) (by rintro _ ⟨⟩)
 .rename_i i s k e;obtain⟨hl,h⟩:=bd h;cases h;exact r8 id (B id Zm) (q.trans e) O (by rintro _ _ ⟨⟩) (by rintro _ _ _ ⟨⟩;rw[ho i Zm];exact hl) (by rintro _ ⟨⟩)
 .rename_i i e;obtain⟨hl,h⟩:=bd h;cases h;exact r8 id (B id Zm) (q.trans e) O (by rintro _ _ ⟨⟩) (by rintro _ _ _ ⟨⟩) (by rintro _ ⟨⟩;rw[ho i Zm];exact hl)
 .rename_i e;cases h;exact r8 id (B id Zm) (q.trans e) O (by rintro _ _ ⟨⟩) (by rintro _ _ _ ⟨⟩) (by rintro _ ⟨⟩)
 .rename_i e;cases h;exact r8 id (B id Zm) (q.trans e) O (by rintro _ _ ⟨⟩) (by rintro _ _ _ ⟨⟩) (by rintro _ ⟨⟩)
 .cases h
 cases h
theorem TGood.zeroV{i:TI}(h:TGood P t i)(e:i.zero=WB zs):∃z,(P.info? t).map (·.zero)=WB (WB z)/\z.cells.toList.map fq=zs:=by
 obtain⟨z,h1,h2⟩:=h.zero zs e;refine⟨z,?_,h2⟩;cases hq:P.info? t with
 |none=>rw[hq]at h1;cases h1
 |some inf=>rw[hq]at h1;simp at h1;simp[h1.1]
theorem EY(q:tt.Ok C.P)(h:Bg tt id T=WB ao)(B:∀i∈ao.s.nw,τ.av i=YK):XJ C n ⟨dst,.alloc T,ty,pos,after,gd⟩ τ ao.s:=by
 unfold Bg at h;split at h
 .rename_i ti hti;split at h
  .rename_i zs hz;rw[jH]at h;cases h;obtain⟨z,h1,h2⟩:=(q.go hti).zeroV hz;exact Nn id h1 h2 (B id Zm)
  cases h
 cases h
theorem L7(h:Tc ev ob x=WB ao)(B:τ.ev n x=ev x)(ho:∀i∈ao.rd,τ.ob i=ob i):XJ C n ⟨dst,.nilCheck x,ty,pos,after,gd⟩ τ ao.s:=by
 unfold Tc at h;split at h
 .rename_i i off e;obtain⟨hl,h⟩:=bd h;cases h;obtain⟨q,hq,hr⟩:=kQ hl;exact Ap (B.trans e) ((ho i Zm).trans hq) hr
 .grind[zi]
 cases h
theorem Jb(D:tt.Ok C.P)(h:Ku tt ev ob T x=WB ao)(B:τ.ev n x=ev x)(ho:∀i∈ao.rd,τ.ob i=ob i):XJ C n ⟨dst,.load T x,ty,pos,after,gd⟩ τ ao.s:=by
 unfold Ku at h;split at h
 .cases h
 rename_i ti hti;have q:=D.go hti;split at h
 .rename_i i off e;split at h
  .rename_i T' cs hob;cases hr:ti.k.row with
   | true=>
     rw[hr]at h;simp only[Xe,jH,lr]at h;obtain⟨hl,h⟩:=bd h;cases h;exact(Oy (q.isRow hr) q.size (B.trans e) ((ho i Zm).trans hob) O (bN hl)).Rm λ_ _ _ _ _=>vN
   | false=>
     rw[hr]at h;simp only[Wo]at h;split at h
     .rename_i v hv;rw[lr]at h;cases h;exact gN (q.iw hr) (B.trans e) ((ho i Zm).trans hob) hv
     cases h
  .rename_i T' cs hob;cases hr:ti.k.row with
   |true=>rw[hr]at h;cases h
   | false=>
     rw[hr]at h;simp only[Wo]at h;split at h
     .rename_i v hv;cases h;exact aX (q.iw hr) (B.trans e) ((ho i Zm).trans hob) hv
     cases h
  cases h
 .rename_i cs off e;cases hr:ti.k.row with
  | true=>
    rw[hr]at h;simp only[Xe]at h;obtain⟨hl,h⟩:=bd h;cases h;exact aD (q.isRow hr) q.size (B.trans e) O (bN hl)
  | false=>
    rw[hr]at h;simp only[Wo]at h;split at h
    .rename_i v hv;cases h;exact aC (q.iw hr) (B.trans e) hv
    cases h
 cases h
theorem EP(L:tt.Ok C.P)(h:Aq tt ev ob dst T x y=WB ao)(M:ao.φ)(H:τ.ev n x=ev x)(I:τ.ev n y=ev y)(ho:∀i∈ao.rd,τ.ob i=ob i):XJ C n ⟨dst,.store T x y,ty,pos,after,gd⟩ τ ao.s:=by
 unfold Aq at h;split at h
 .rename_i ti i off hti e;have D:=L.go hti;split at h
  .rename_i T' cs hob;rw[lr,jH]at h;obtain⟨hl,h⟩:=bd h;rw[jH]at h;cases h;simp only[aJ]at hl;have q:∀j∈(ev y).ids,τ.ob j=ob j:=λj hj=>ho j (by simp[hj])
   have B:=Cb q;have E:((ev y).cells.all (λc=>c.leaf&&c.cq ob)&&(ev y).cq ob)=YK:=by simp only[aJ];exact hl.2.2
   rw[<-B]at E;have G:=Bool.and_eq_true_iff.1 E;exact mY D.size (H.trans e) ((ho i Zm).trans hob) I (bN hl.1) (V7 hl.2.1) G.1 G.2
  .rename_i T' cs hob;split at h
   .rename_i v hv;obtain⟨hl,h⟩:=bd h;cases h;simp only[aJ]at hl;exact ba (by rw[<-bN hl.1];exact D.size) (H.trans e) ((ho i Zm).trans hob) (I.trans hv) hl.2 M
   cases h
  cases h
 cases h
theorem FM(E:tt.Ok C.P){s:TypeId}(h:An tt ev ob s x j=WB ao)(G:τ.ev n x=ev x)(ho:∀i∈ao.rd,τ.ob i=ob i):XJ C n ⟨dst,.fieldAddr s x j,ty,pos,after,gd⟩ τ ao.s:=by
 unfold An at h;split at h
 .cases h
 rename_i ti hti;have B:=E.go hti;split at h
 .rename_i pl hk;split at h
  .rename_i o q hp;cases hq0:Nat.beq q 0 with
   |true=>rw[hq0]at h;cases h
   |false=>
   rw[hq0]at h;simp only[Wo]at h;have D:=B.gQ hk hp hq0;split at h
   .rename_i i off e;obtain⟨hl,h⟩:=bd h;cases h;obtain⟨q,hq,hr⟩:=kQ hl;exact ye D (G.trans e) ((ho i Zm).trans hq) hr
   .rename_i e;cases h;exact wD D (G.trans e)
   cases h
  cases h
 cases h
theorem E5(B:tt.Ok C.P)(h:z7 tt ev ob T x y=WB ao)(D:ao.φ)(G:τ.ev n x=ev x)(H:τ.ev n y=ev y)(ho:∀i∈ao.rd,τ.ob i=ob i):XJ C n ⟨dst,.indexAddr T x y,ty,pos,after,gd⟩ τ ao.s:=by
 unfold z7 at h;split at h
 .cases h
 rename_i ti hti;have E:=B.go hti;split at h
 .rename_i e hk;split at h
  .cases h
  rename_i tk sz by_ zr hte;split at h
  .rename_i kk j e2;split at h
   .rename_i bn k cs e1;cases h;exact ai j (E.sl hk) (B.go hte).size (G.trans e1) (H.trans e2) O D.1 D.2
   .rename_i i s k e1;obtain⟨hl,h⟩:=bd h;cases h;obtain⟨q,hq,hr⟩:=kQ hl;exact ag j (E.sl hk) (B.go hte).size (G.trans e1) ((ho i Zm).trans hq) (H.trans e2) O D hr
   cases h
  cases h
 cases h
theorem TGood.elem{te:TI}(h:TGood P e te)(q:te.zero=WB zs)(B:P.underlying t=WB (.slice e))(hl:zs.length=te.size)(hs:0<te.size)(D:te.bytes<=1000):∃z,ZP P t e z te.size te.bytes/\z.cells.toList.map fq=zs:=by obtain⟨z,h1,h2⟩:=h.zero zs q;exact⟨z,⟨B,h1,by rw[<-hl,<-h2];simp,hs,D⟩,h2⟩
theorem HJ(q:tt.Ok C.P)(h:Kk tt ev id T x y=WB ao)(D:ao.φ)(B:τ.ev n x=ev x)(E:∀i∈ao.s.nw,τ.av i=YK):XJ C n ⟨dst,.makeSlice T x y,ty,pos,after,gd⟩ τ ao.s:=by
 unfold Kk at h;split at h
 .cases h
 rename_i ti hti;split at h
 .rename_i e hk;split at h
  .cases h
  rename_i tk sz by_ zr hte;split at h
  .rename_i zs kk k e1;obtain⟨hl,h⟩:=bd h;cases h;simp only[aJ]at hl;obtain⟨z,h1,h2⟩:=(q.go hte).elem O ((q.go hti).sl hk) (bN hl.2.1) (by simpa[XW]using hl.2.2.1) (V7 hl.2.2.2);obtain rfl:=Kh hl.1;exact lN id k h1 h2 (B.trans e1) (B.trans e1) O O D (E id Zm)
  cases h
 cases h
theorem AP(q:tt.Ok C.P){ps:Array (Nat×Operand)}(h:uX tt ev ob id T k ps.toList=WB ao)(B:∀p∈ps.toList,τ.ev n p.2=ev p.2)(ho:∀i∈ao.rd,τ.ob i=ob i)(D:∀i∈ao.s.nw,τ.av i=YK):XJ C n ⟨dst,.buildSlice T k ps,ty,pos,after,gd⟩ τ ao.s:=by
 unfold uX at h;split at h
 .cases h
 rename_i ti hti;split at h
 .rename_i e hk;split at h
  .cases h
  rename_i tk sz by_ zr hte;split at h
  .rename_i zs hte;obtain⟨hl,h⟩:=bd h;simp only[aJ]at hl;obtain⟨z,h1,h2⟩:=(q.go hte).elem O ((q.go hti).sl hk) (bN hl.1) (by simpa[XW]using hl.2.1) (V7 hl.2.2.1);split at h
   .grind[V9,w5,XW,V7,jt,VS.1,V6.2]
   cases h
  cases h
 cases h
theorem FU(q:tt.Ok C.P){ps:Array (Nat×Operand)}(h:B6 tt ev ob T ps.toList=WB ao)(D:∀p∈ps.toList,τ.ev n p.2=ev p.2)(ho:∀i∈ao.rd,τ.ob i=ob i):XJ C n ⟨dst,.build T ps,ty,pos,after,gd⟩ τ ao.s:=by
 have B:(ps.toList.map λp=>(p.1,τ.ev n p.2))=ps.toList.map λp=>(p.1,ev p.2):=V9 λp hp=>by rw[D p hp]
 unfold B6 at h;split at h
 .cases h
 rename_i ti hti;split at h
 .rename_i zs pl hz hk;split at h
  .rename_i vs hf;rw[jH,lr]at h;cases h;obtain⟨z,h1,h2⟩:=(q.go hti).zeroV hz;refine XJ.Rm (DF (.struct h1 h2 ((q.go hti).st hk)) ?_) λ_ _ _ _ _=>vN
   rw[B,jt (ob':=ob) _ _ (λp hp i hi=>?_)]
   .exact hf
   grind
  cases h
 .rename_i zs len e hz hk;split at h
  .rename_i te hte;split at h
   .rename_i vs hf;rw[jH,lr]at h;cases h;obtain⟨z,h1,h2⟩:=(q.go hti).zeroV hz;refine XJ.Rm (DF (.array ((q.go hti).arr hk) h1 h2 (q.go hte).size) ?_) λ_ _ _ _ _=>vN
    rw[B,jt (ob':=ob) _ _ (λp hp i hi=>?_)]
    .exact hf
    grind
   cases h
  cases h
 cases h
theorem NL(E:tt.Ok C.P)(h:R8 tt ev ob t x=WB ao)(D:τ.ev n x=ev x)(ho:∀i∈ao.rd,τ.ob i=ob i):XJ C n ⟨dst,.call { callee:= .builtin .len,args:= #[x],argTypes:= #[t] },ty,pos,after,gd⟩ τ ao.s:=by
 unfold R8 at h;split at h
 .cases h
 rename_i ti hti;have B:=E.go hti;split at h
 .rename_i hk e;cases h;exact G3 (B.str hk) (D.trans e)
 .rename_i hk e;cases h;exact Uv (B.sl hk) (D.trans e)
 .rename_i i s k hk e;obtain⟨hl,h⟩:=bd h;cases h;obtain⟨q,hq,hr⟩:=kQ hl;exact Q4 (B.sl hk) (D.trans e) ((ho i Zm).trans hq) hr
 .rename_i hk e;cases h;exact Tj (B.sl hk) (D.trans e)
 cases h
theorem MJ(L:tt.Ok C.P)(h:RY tt ev ob id t t' x y=WB ao)(E:ao.φ)(M:τ.ev n x=ev x)(U:τ.ev n y=ev y)(ho:∀i∈ao.rd,τ.ob i=ob i)(W:∀i∈ao.s.nw,τ.av i=YK):XJ C n ⟨dst,.call { callee:= .builtin .append,args:= #[x,y],argTypes:= #[t,t'] },ty,pos,after,gd⟩ τ ao.s:=by
 unfold RY at h;split at h
 .cases h
 rename_i ti hti;split at h
 .rename_i e hk;split at h
  .cases h
  rename_i tk sz by_ zr hte;split at h
  .rename_i zs hte;have hl:=(bd h).1;replace h:=(bd h).2;simp only[aJ]at hl;have G:t=t':=bN hl.1;subst G;obtain⟨z,h1,h2⟩:=(L.go hte).elem O ((L.go hti).sl hk) (bN hl.2.1) (by simpa[XW]using hl.2.2.1) (V7 hl.2.2.2);split at h
   .rename_i i2 s2 e2;split at h
    .rename_i T2 news hob2;have B:=(bd h).1;replace h:=(bd h).2;simp only[aJ]at B;have H:=bN B.1;subst H;have D:=bN B.2.1;split at h
     .rename_i i s k e3;split at h
      .rename_i e' cs hob;have q:=(bd h).1;replace h:=(bd h).2;simp only[aJ]at q;have I:e'=e:=bN q.1;have es:=bN q.2;subst I es;cases h;exact nU id h1 (M.trans e3) ((ho i Zm).trans hob) E.1 (U.trans e2) ((ho i2 Zm).trans hob2) D B.2.2 E.2 (W id Zm)
      cases h
     .rename_i i s k e3;split at h
      .rename_i e' cs hob;have q:=(bd h).1;replace h:=(bd h).2;simp only[aJ]at q;have I:e'=e:=bN q.1;have es:=bN q.2;subst I es;cases h;exact cU id h1 (M.trans e3) ((ho i Zm).trans hob) E.1 (U.trans e2) ((ho i2 Zm).trans hob2) D B.2.2 E.2 (W id Zm)
      cases h
     .grind[AV,trans]
     cases h
    cases h
   cases h
  cases h
 cases h
theorem Fg(H:tt.Ok C.P){lo hi:Option Operand}(h:Bn tt ev T x lo hi=WB ao)(B:ao.φ)(q:τ.ev n x=ev x)(D:∀y,lo=WB y->τ.ev n y=ev y)(E:∀y,hi=WB y->τ.ev n y=ev y):XJ C n ⟨dst,.slice T x lo hi WC,ty,pos,after,gd⟩ τ ao.s:=by
 unfold Bn at h;split at h
 .cases h
 rename_i ti hti;have G:=H.go hti;split at h
 .rename_i z hk e;have q:=q.trans e;split at h
  .rename_i y;split at h
   .rename_i k2 hh e2;cases h;exact eh (kl:= .i64) (il:=0) WC (WB y) 0 hh (G.str hk) q Zm (λ_=>rfl) (by rintro _ ⟨⟩;exact⟨(E y O).trans e2,O⟩) Zm (sh _) B
   cases h
  .rename_i y;split at h
   .rename_i k2 l e2;cases h;exact eh (kh:= .i64) (ih:=0) (WB y) WC l z.size (G.str hk) q (by rintro _ ⟨⟩;exact⟨(D y O).trans e2,O⟩) Zm Zm (λ_=>rfl) B (BY _)
   cases h
  .rename_i y y';split at h
   .rename_i k2 l k3 hh e2 e3;cases h;exact eh (WB y) (WB y') l hh (G.str hk) q (by rintro _ ⟨⟩;exact⟨(D y O).trans e2,O⟩) Zm (by rintro _ ⟨⟩;exact⟨(E y' O).trans e3,O⟩) Zm B.1 B.2
   cases h
  cases h
 .rename_i el b k cs hk e;have q:=q.trans e;split at h
  .cases h
  rename_i tk sz by_ zr hte;split at h
  .rename_i y;split at h
   .rename_i k2 hh e2;cases h;exact dL hh (G.sl hk) (H.go hte).size q ((E y O).trans e2) O B.1 B.2
   cases h
  .rename_i y;split at h
   .rename_i k2 l e2;cases h;exact zq l (G.sl hk) (H.go hte).size q ((D y O).trans e2) O B.1 B.2
   cases h
  cases h
 cases h
theorem Ik(B:tt.Ok C.P){c:Call}(h:J0 tt ev ob id c=WB ao)(D:ao.φ)(q:∀x∈c.args.toList,τ.ev n x=ev x)(ho:∀i∈ao.rd,τ.ob i=ob i)(E:∀i∈ao.s.nw,τ.av i=YK):XJ C n ⟨dst,.call c,ty,pos,after,gd⟩ τ ao.s:=by
 obtain⟨callee,args,ats⟩:=c;obtain⟨args⟩:=args;obtain⟨ats⟩:=ats;unfold J0 at h;split at h
 .grind[NL]
 .grind[MJ]
 .rename_i x y t t' e1 e2 e3;simp only at e1 e2 e3;subst e1 e2 e3;split at h
  .rename_i k i k' j e1 e2;obtain⟨hk,h⟩:=bd h;cases h;have:=fB hk;subst this;exact zT ((q x Zm).trans e1) ((q y Zm).trans e2)
  cases h
 .rename_i x y t t' e1 e2 e3;simp only at e1 e2 e3;subst e1 e2 e3;split at h
  .rename_i k i k' j e1 e2;obtain⟨hk,h⟩:=bd h;cases h;have:=fB hk;subst this;exact tU ((q x Zm).trans e1) ((q y Zm).trans e2)
  cases h
 cases h
theorem Zu{p:Prop}(h:p:=by simp[Op.operands]):p:=h
theorem JC(B:tt.Ok C.P){op:Op}(h:auto tt ev ob id dst op=WB ao)(D:ao.φ)(q:∀x∈op.operands.toList,τ.ev n x=ev x)(ho:∀i∈ao.rd,τ.ob i=ob i)(E:∀i∈ao.s.nw,τ.av i=YK):XJ C n ⟨dst,op,ty,pos,after,gd⟩ τ ao.s:=by
 cases op<;>simp only[auto,reduceCtorEq]at h
 case move x=>rw[lr]at h;cases h;exact qa (q x Zu)
 case assign x=>rw[lr]at h;cases h;exact EE (q x Zu)
 case pick c x y=>
  split at h
  .rename_i b e;cases h;have:=Ae (C:=C) (n:=n) (σ:=τ) (dst:=dst) (ty:=ty) (pos:=pos) (after:=after) (gd:=gd) (x:=x) (y:=y) ((q c Zu).trans e);rw[q x Zu,q y Zu]at this;exact this
  cases h
 case binOp op t x y t'=>exact Mg B h D (q x Zu) (q y Zu)
 case unOp op t x=>exact Rp h D (q x Zu)
 case convert src d x=>exact Km B h D (q x Zu)
 case extract x i=>exact OM h (q x Zu)
 case box T x=>exact Pg h (q x Zu) ho E
 case alloc T=>exact EY B h E
 case nilCheck x=>exact L7 h (q x Zu) ho
 case load T x=>exact Jb B h (q x Zu) ho
 case store T x y=>exact EP B h D (q x Zu) (q y Zu) ho
 case fieldAddr s x j=>exact FM B h (q x Zu) ho
 case indexAddr T x y=>exact E5 B h D (q x Zu) (q y Zu) ho
 case makeSlice T x y=>exact HJ B h D (q x Zu) E
 case buildSlice T k ps=>exact AP B h (λp hp=>q p.2 (by simp only[Op.operands];exact VS.2 ⟨p,hp,O⟩)) ho E
 case build T ps=>exact FU B h (λp hp=>q p.2 (by simp only[Op.operands];exact VS.2 ⟨p,hp,O⟩)) ho
 case slice T x lo hi mx=>
  cases mx with
  |some _=>simp at h
  | none=>
    simp only at h;refine Fg B h D (q x Zu) (λy hy=>q y ?_) (λy hy=>q y ?_)<;>subst hy<;>simp[Op.operands]
 case makeFunc f fs cs=>
  rw[jH,jH]at h;cases h;have G:fs.toList.map (τ.ev n)=fs.toList.map ev:=V9 λx hm=>q x (by simp[Op.operands]at hm ⊢; exact .inl hm)
  have H:cs.toList.map (τ.ev n)=cs.toList.map ev:=V9 λx hm=>q x (by simp[Op.operands]at hm ⊢; exact .inr hm)
  show XJ _ _ _ _ ⟨.fn f (fs.toList.map ev) (cs.toList.map ev),[],[]⟩;rw[<-G,<-H];exact Af
 case call c=>exact Ik B h D (λx hm=>q x (by simp[Op.operands,Call.operands];exact .inr (by simpa using hm))) ho E
end
def HD{α:Type}(av:Av)(z:α)(f:Nat->α):ee->α
 |[]=>z
 |i::l=>bif av i then f i else HD av z f l
theorem tT{av:Av}{f:Nat->Option α}{x:α}:∀{l:ee},HD av WC f l=WB x->∃i,f i=WB x
 |[],h=>by cases h
 | i::l,h=>by
   simp only[HD]at h;cases hb:av i with
   |true=>rw[hb]at h;exact⟨i,h⟩
   |false=>rw[hb]at h;exact tT h
def SS:Op->Bool
 | .box _ _| .alloc _| .makeSlice _ _ _| .buildSlice _ _ _=>YK
 | .call c=>match c.callee with| .builtin .append=>YK|_=>YL
 |_=>YL
def nr(ops:YZ)(n:Nat)(σ:St)(o:Oper):YO:=
 match o.guard with
 |none=>WB YK
 | some (j,want)=>match σ.ev n (.tmp (((ops[j]?).bind (·.dst)).getD n))with
   | .pv (.bool YK)=>WB want
   | .pv (.bool YL)=>WB (!want)
   | .pv (.bS [])=>WB YL
   |_=>WC
def evK(n:Nat)(σ:St):Operand->V
 | .const (.int k i)=> .pv (.int k i)
 | .const (.bool b)=> .pv (.bool b)
 | .const (.string s)=> .pv (.str s)
 | .const (.slice WC 0 0)=> .pv (.sl (WB YK) 0 [])
 | .const (.pointer WC)=> .pv .nilptr
 | .const (.map WC)=> .pv .nilmap
 | .const .nilFunc=> .pv .nilfn
 | .const .nilIface=> .pv .niliface
 |x=>σ.ev n x
theorem PR(n:Nat)(σ:St):evK n σ=σ.ev n:=by funext x;unfold evK;split<;>rfl
def eK(tt:TT)(ops:YZ)(n:Nat)(σ:St)(o:Oper):Option (YX×AO):=
 match nr ops n σ o with
 | some YK=>match (bif SS o.op then HD σ.av WC (λid=>auto tt (evK n σ) σ.ob id o.dst o.op) [0,1,2,3,4,5,6,7,8,9,10,11,12,13,14,15,16,17,18,19,20,21,22,23,24,25,26,27,28,29,30,31,32,33,34,35,36,37,38,39,40,41,42,43,44,45,46,47,48,49]else auto tt (evK n σ) σ.ob 0 o.dst o.op)with
   |some ⟨s,rd,φ⟩=>bif s.nw.all σ.av then WB (o.dst,⟨s,rd,φ⟩)else WC
   |none=>WC
 |some YL=>WB (o.dst,⟨⟨und,[],[]⟩,[],True⟩)
 |none=>WC
section
variable {C:Ctx}{n:Nat}{σ:St}{ops:YZ}{o:Oper}{os:Zw}{K:ZA}{tt:TT}{d:YX}{s:OS}{rd:ee}{φ:Prop}
theorem zH{ev:Operand->V}{dst:YX}{op:Op}{av:Av}{l:ee}{ao:AO}(h:(bif SS op then HD av WC (λid=>auto tt ev ob id dst op) l else auto tt ev ob 0 dst op)=WB ao):∃id,auto tt ev ob id dst op=WB ao:=by grind[SS,tT]
theorem eR(h:nr ops n σ o=WB b):(o.guard=WC/\b=YK)\/∃j want v,o.guard=WB (j,want)/\(σ.ev n (.tmp (((ops[j]?).bind (·.dst)).getD n))).gd=WB v/\(v=WB want↔b=YK):=by
 unfold nr at h;split at h
 .grind
 rename_i j want e;refine .inr ⟨j,want,?_⟩;split at h
 .rename_i e2;cases h;exact⟨WB YK,e,V.rT e2,by cases b<;>simp⟩
 .rename_i e2;cases h;exact⟨WB YL,e,V.rT e2,by cases want<;>simp⟩
 .rename_i e2;cases h;exact⟨WC,e,by rw[e2];rfl,Zm⟩
 cases h
theorem RL.auto(B:tt.Ok C.P)(h:eK tt ops n σ o=WB (d,⟨s,rd,φ⟩))(k:RL C n ops os K (σ.app d s))(D:φ):RL C n ops (o::os) K σ:=by
 obtain⟨dst,op,ty,pos,after,gd⟩:=o;unfold eK at h;split at h
 .rename_i hg;split at h
  .rename_i s' rd' φ' hao;obtain⟨id,hao⟩:=zH hao;rw[PR]at hao;obtain⟨hn,h⟩:=bd h;cases h;have q:XJ C n ⟨dst,op,ty,pos,after,gd⟩ σ s:=JC B hao D (λ_ _=>rfl) (λ_ _=>rfl) (λi hi=>IN.1 hn i hi);rcases eR hg with⟨e,_⟩|⟨j,want,v,e,hv,hb⟩
   .exact RL.step e O q k
   simp only at e;subst e;simp only[RL];exact⟨v,λa w ⟨m,R,hw⟩=>fN hw hv,λ_=>q.mono λ_ e=>e▸k,λe=>absurd (hb.2 O) e⟩
  cases h
 .rename_i hg;cases h;rcases eR hg with⟨_,e⟩|⟨j,want,v,e,hv,hb⟩
  .cases e
  simp only at e;subst e;simp only[RL];refine⟨v,λa w ⟨m,R,hw⟩=>fN hw hv,(λe=>by have:=hb.1 e;cases this),λ_ a w ⟨m,R,hw⟩=>⟨_,k,m,R,?_⟩⟩;rw[St.jb];exact hw.put _ (GF _ _ _ _)
 cases h
theorem DL.auto{acc:List It}(D:tt.Ok C.P)(ho:ops[i]? =WB o)(h:eK tt ops n σ o=WB (d,⟨s,rd,φ⟩))(k:DL C n ops cl is (⟨i,o,s,s.wr.map (·.1),s.nw,rd⟩::acc) K (σ.app d s))(E:φ)(hc:gA ops n cl ⟨i,o,s,s.wr.map (·.1),s.nw,rd⟩ acc=YK):DL C n ops cl (i::is) acc K σ:=by
 obtain⟨dst,op,ty,pos,after,gd⟩:=o;unfold eK at h;split at h
 .rename_i hg;split at h
  .rename_i s' rd' φ' hao;obtain⟨id,hao⟩:=zH hao;rw[PR]at hao;obtain⟨hn,h⟩:=bd h;cases h;have B:∀τ,Agr n ops ⟨dst,op,ty,pos,after,gd⟩ σ τ s rd->XJ C n ⟨dst,op,ty,pos,after,gd⟩ τ s:=λτ ha=>JC D hao E (λx hm=>by
    obtain⟨q,hq⟩:=WO hm;exact ha.e q x hq) (λi hi=>by
    obtain⟨q,hq⟩:=WO hi;exact ha.o q i hq) (λi hi=>by
    obtain⟨q,hq⟩:=WO hi;exact ha.n q i hq)
   rcases eR hg with⟨e,_⟩|⟨j,want,v,e,hv,hb⟩
   .exact DL.step rd ho e O B hn hc k
   simp only at e;subst e;refine⟨_,ho,.inl ⟨s,rd,λτ ha=>?_,hn,hc,k⟩⟩;simp only;exact⟨v,by rw[ha.g _ (by simp only[Bb])];exact hv,λ_=>B τ ha,λe=>absurd (hb.2 O) e⟩
  cases h
 .rename_i hg;cases h;rcases eR hg with⟨_,e⟩|⟨j,want,v,e,hv,hb⟩
  .cases e
  simp only at e;subst e;refine⟨_,ho,.inl ⟨⟨und,[],[]⟩,[],λτ ha=>?_,O,hc,k⟩⟩;simp only;exact⟨v,by rw[ha.g _ (by simp only[Bb])];exact hv,(λe=>by have:=hb.1 e;cases this),λ_=>trivial⟩
 cases h
def Pm(tt:TT)(ops:YZ)(n:Nat)(σ:St)(o:Oper):Option (YX×na×Nat×ee):=
 match nr ops n σ o,o.op with
 | some YK,.load T x=>match tt.get T with
   | some ti=>bif ti.k.row then WC else match σ.ev n x with
     | .pv (.rp cs off)=>WB (o.dst,cs,off,[])
     | .ptr i off=>match σ.ob i with
       |some (.cells _ cs)=>WB (o.dst,cs,off,[i])
       |_=>WC
     |_=>WC
   |none=>WC
 |_,_=>WC
def Nq(tt:TT)(ops:YZ)(n:Nat)(σ:St)(o:Oper):Option (YX×na×Nat×Nat×ee):=
 match nr ops n σ o,o.op with
 | some YK,.load T x=>match tt.get T with
   | some ⟨k,sz,_,_⟩=>bif k.row then match σ.ev n x with
     | .pv (.rp cs off)=>WB (o.dst,cs,off,sz,[])
     | .ptr i off=>match σ.ob i with
       |some (.cells _ cs)=>WB (o.dst,cs,off,sz,[i])
       |_=>WC
     |_=>WC
     else WC
   |none=>WC
 |_,_=>WC
theorem RL.with(B:nr ops n σ o=WB YK)(D:o.dst=d)(q:XJ C n o σ ⟨v,[],[]⟩)(k:RL C n ops os K (σ.app d ⟨v,[],[]⟩)):RL C n ops (o::os) K σ:=by
 subst D;rcases eR B with⟨e,_⟩|⟨j,want,w,e,hv,hb⟩
 .exact RL.step e O q k
 simp only[RL,e];exact⟨w,λa w ⟨m,R,hw⟩=>fN hw hv,λ_=>q.mono λ_ e=>e▸k,λe=>absurd (hb.2 O) e⟩
theorem DL.with{acc:List It}(rd:ee)(ho:ops[i]? =WB o)(B:nr ops n σ o=WB YK)(D:o.dst=d)(q:∀τ,Agr n ops o σ τ ⟨v,[],[]⟩ rd->XJ C n o τ ⟨v,[],[]⟩)
  (k:DL C n ops cl is (⟨i,o,⟨v,[],[]⟩,[],[],rd⟩::acc) K (σ.app d ⟨v,[],[]⟩)) (hc:gA ops n cl ⟨i,o,⟨v,[],[]⟩,[],[],rd⟩ acc=YK):DL C n ops cl (i::is) acc K σ:=by
 subst D;rcases eR B with⟨e,_⟩|⟨j,want,w,e,hv,hb⟩
 .exact DL.step rd ho e O q O hc k
 refine⟨_,ho,.inl ⟨⟨v,[],[]⟩,rd,λτ ha=>?_,O,hc,k⟩⟩;simp only[e];exact⟨w,by rw[ha.g _ (by simp only[Bb,e])];exact hv,λ_=>q τ ha,λe=>absurd (hb.2 O) e⟩
variable {cs:na}{off sz:Nat}{p:PV}{vs:na}
theorem uS(q:tt.Ok C.P)(h:Pm tt ops n σ o=WB (d,cs,off,rd))(B:cs[off]? =WB p):nr ops n σ o=WB YK/\o.dst=d/\∀τ,(∀x∈o.op.operands.toList,τ.ev n x=σ.ev n x)->(∀i∈rd,τ.ob i=σ.ob i)->XJ C n o τ ⟨.pv p,[],[]⟩:=by
 obtain⟨dst,op,ty,pos,after,gd⟩:=o;unfold Pm at h;split at h
 .rename_i T x hg hop;simp only at hop;subst hop;split at h
  .rename_i ti hti;cases hr:ti.k.row with
   |true=>rw[hr]at h;cases h
   | false=>
     rw[hr]at h;simp only[Wo]at h;split at h
     .rename_i e;cases h;exact⟨hg,O,λτ he _=>aC ((q.go hti).iw hr) ((he x Zu).trans e) B⟩
     .rename_i e;split at h
      .rename_i e2;cases h;exact⟨hg,O,λτ he ho=>aX ((q.go hti).iw hr) ((he x Zu).trans e) ((ho _ Zm).trans e2) B⟩
      cases h
     cases h
  cases h
 cases h
theorem ud(q:tt.Ok C.P)(h:Nq tt ops n σ o=WB (d,cs,off,sz,rd))(B:(cs.drop off).take sz=vs)(hl:vs.length=sz):nr ops n σ o=WB YK/\o.dst=d/\∀τ,(∀x∈o.op.operands.toList,τ.ev n x=σ.ev n x)->(∀i∈rd,τ.ob i=σ.ob i)->XJ C n o τ ⟨.pv (.agg vs),[],[]⟩:=by
 obtain⟨dst,op,ty,pos,after,gd⟩:=o;unfold Nq at h;split at h
 .rename_i T x hg hop;simp only at hop;subst hop;split at h
  .rename_i k sz' by_ zr hti;cases hr:k.row with
   |false=>rw[hr]at h;cases h
   | true=>
     rw[hr]at h;simp only[Xe]at h;split at h
     .rename_i e;cases h;exact⟨hg,O,λτ he _=>aD ((q.go hti).isRow hr) (q.go hti).size ((he x Zu).trans e) B hl⟩
     .rename_i e;split at h
      .rename_i e2;cases h;exact⟨hg,O,λτ he ho=>qQ ((q.go hti).isRow hr) (q.go hti).size ((he x Zu).trans e) ((ho _ Zm).trans e2) B hl⟩
      cases h
     cases h
  cases h
 cases h
theorem UF{o:Oper}{s:OS}{rd:ee}(h:Agr n ops o σ τ s rd):∀x∈o.op.operands.toList,τ.ev n x=σ.ev n x:=λx hm=>by
 obtain⟨q,hq⟩:=WO hm;exact h.e q x hq
theorem U5{o:Oper}{s:OS}{rd:ee}(h:Agr n ops o σ τ s rd):∀i∈rd,τ.ob i=σ.ob i:=λi hm=>by
 obtain⟨q,hq⟩:=WO hm;exact h.o q i hq
end
end
theorem follows:prog.follows .mixedOrders=YK:=Zj
theorem sz3:b8 prog 3 1:=by unfold b8;kernel_rfl
theorem Vh:(prog.info? 3).map (·.zero)=WB (WB (.int .i64 0)):=Zj
theorem sz4:b8 prog 4 1:=by unfold b8;kernel_rfl
theorem sz5:b8 prog 5 1:=by unfold b8;kernel_rfl
theorem sz9:b8 prog 9 1:=by unfold b8;kernel_rfl
theorem zero9:(prog.info? 9).map (·.zero)=WB (WB (.string ⟨#[]⟩)):=Zj
theorem yM:b8 prog 22 1:=by unfold b8;kernel_rfl
theorem xg:ZP prog 22 3 (.int .i64 0) 1 8:=⟨Zj,Zj,O,Zk,Zk⟩
theorem el26:ZP prog 26 56 (.agg #[(.string ⟨#[]⟩),(.int .i64 0)]) 2 24:=⟨Zj,Zj,O,Zk,Zk⟩
theorem el27:ZP prog 27 58 (.agg #[(.string ⟨#[]⟩),(.slice WC 0 0)]) 2 40:=⟨Zj,Zj,O,Zk,Zk⟩
theorem el28:ZP prog 28 60 (.agg #[(.int .i64 0),(.int .i64 0),(.int .i64 0)]) 3 24:=⟨Zj,Zj,O,Zk,Zk⟩
theorem sz30:b8 prog 30 4:=by unfold b8;kernel_rfl
theorem MQ:b8 prog 32 1:=by unfold b8;kernel_rfl
theorem Vc:ZP prog 34 38 (.slice WC 0 0) 1 24:=⟨Zj,Zj,O,Zk,Zk⟩
theorem tu:b8 prog 38 1:=by unfold b8;kernel_rfl
theorem LO:ZP prog 38 41 (.agg #[(.slice WC 0 0),(.int .i64 0)]) 2 32:=⟨Zj,Zj,O,Zk,Zk⟩
theorem Qu:ZP prog 39 9 (.string ⟨#[]⟩) 1 16:=⟨Zj,Zj,O,Zk,Zk⟩
theorem R3:b8 prog 41 2:=by unfold b8;kernel_rfl
theorem el43:ZP prog 43 113 (.agg #[(.int .i64 0),(.string ⟨#[]⟩),(.string ⟨#[]⟩)]) 3 40:=⟨Zj,Zj,O,Zk,Zk⟩
theorem el44:ZP prog 44 115 (.agg #[(.int .i64 0),(.string ⟨#[]⟩),(.int .i64 0),(.string ⟨#[]⟩),(.string ⟨#[]⟩)]) 5 64:=⟨Zj,Zj,O,Zk,Zk⟩
theorem Tv:b8 prog 46 3:=by unfold b8;kernel_rfl
theorem Hg:b8 prog 56 2:=by unfold b8;kernel_rfl
theorem O1:b8 prog 58 2:=by unfold b8;kernel_rfl
theorem KS:b8 prog 60 3:=by unfold b8;kernel_rfl
theorem el63:ZP prog 63 64 (.slice WC 0 0) 1 24:=⟨Zj,Zj,O,Zk,Zk⟩
theorem el64:ZP prog 64 42 (.string ⟨#[]⟩) 1 16:=⟨Zj,Zj,O,Zk,Zk⟩
theorem sz66:b8 prog 66 3:=by unfold b8;kernel_rfl
theorem Qm:ZP prog 80 268 (.int .u64 0) 1 8:=⟨Zj,Zj,O,Zk,Zk⟩
theorem zX:b8 prog 82 2:=by unfold b8;kernel_rfl
theorem L2:b8 prog 84 4:=by unfold b8;kernel_rfl
theorem uH:(prog.info? 84).map (·.zero)=WB (WB (.agg #[(.bool YL),(.slice WC 0 0),(.bool YL),(.slice WC 0 0)])):=Zj
theorem s0:b8 prog 88 6:=by unfold b8;kernel_rfl
theorem Py:(prog.info? 88).map (·.zero)=WB (WB (.agg #[(.bool YL),(.slice WC 0 0),(.bool YL),(.slice WC 0 0),(.map WC),(.map WC)])):=Zj
theorem Fb:b8 prog 95 2:=by unfold b8;kernel_rfl
theorem Rt:b8 prog 97 4:=by unfold b8;kernel_rfl
theorem Dh:(prog.info? 97).map (·.zero)=WB (WB (.agg #[(.bool YL),(.slice WC 0 0),(.bool YL),(.slice WC 0 0)])):=Zj
theorem Tq:b8 prog 101 6:=by unfold b8;kernel_rfl
theorem k9:b8 prog 111 2:=by unfold b8;kernel_rfl
theorem ix:b8 prog 113 3:=by unfold b8;kernel_rfl
theorem jz:b8 prog 115 5:=by unfold b8;kernel_rfl
theorem Nb:b8 prog 156 4:=by unfold b8;kernel_rfl
theorem sz173:b8 prog 173 1:=by unfold b8;kernel_rfl
theorem Sh:ZP prog 178 5 (.int .u8 0) 1 1:=⟨Zj,Zj,O,Zk,Zk⟩
theorem el183:ZP prog 183 47 (.int .i64 0) 1 8:=⟨Zj,Zj,O,Zk,Zk⟩
theorem N8:b8 prog 211 1:=by unfold b8;kernel_rfl
theorem el233:ZP prog 233 173 .nilFunc 1 8:=⟨Zj,Zj,O,Zk,Zk⟩
theorem U7:ZP prog 242 4 (.bool YL) 1 1:=⟨Zj,Zj,O,Zk,Zk⟩
theorem UC:b8 prog 257 4:=by unfold b8;kernel_rfl
theorem QQ:(prog.info? 257).map (·.zero)=WB (WB (.agg #[(.slice WC 0 0),(.slice WC 0 0),(.slice WC 0 0),(.slice WC 0 0)])):=Zj
theorem iK:b8 prog 268 1:=by unfold b8;kernel_rfl
end Go.Proofs.YthicoeegbdboeaaGreatDoor
