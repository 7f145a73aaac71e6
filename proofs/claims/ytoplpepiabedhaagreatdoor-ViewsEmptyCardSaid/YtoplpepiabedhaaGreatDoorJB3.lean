/- Lemmas. No condition. -/
import Derived.Lib.ConvBytes
import Derived.Laws.IdiomStrings
import Derived.Laws.BytesArg
import Derived.Test.YtoplpepiabedhaaGreatDoorJB2
set_option maxRecDepth 100000
set_option maxHeartbeats 4000000
open Go.RowKit Go.Proofs.Tryz
namespace Go.Proofs.YtoplpepiabedhaaGreatDoor
section
theorem cL{T:TypeId}{cs:List PV}(h:cs≠[]):(Ob.gro T cs).real=true:=by
 cases cs with
 |nil=>exact absurd O h
 |cons _ _=>rfl
section
variable {C:Ctx}{n:Nat}{σ:St}{a:Act}{w:World}{m:Gm}{R:Nat->Prop}
theorem SW.gsl(h:SW C n σ a w m R){x:Operand}{id sz k:Nat}(hx:σ.ev n x= .gsl id sz k):
  ∃A c,a.eval x= .slice A k c/\k<=c/\c<=maxLen/\(k=0->A=none/\c=0/\m id=none)/\(0<k->∀b N,m id=some (b,N)->A=some ⟨b,0,none⟩/\N=c*sz):=by
 have:=h.ev x;rw[hx]at this;simp only[Rel]at this;exact this.2
end
section
variable {C:Ctx}{n:Nat}{σ:St}{dst:Option Tmp}{ty t t':TypeId}{pos:String}{after:Array Edge}{gd:Option (Nat×Bool)}{x y:Operand}
theorem Ae{e:TypeId}{z:Value}{size bytes k j id:Nat}{cs news:List PV}(id':Nat)(he:ElemIs C.P t e z size bytes)(hs:σ.ev n x= .gsl id size k)(ho:σ.ob id=some (.gro e cs))(hcs:cs.length=k*size)
  (hsrc:nM n σ y j news) (hl:news.length=j*size) (hlf:∀c∈news,c.leaf=true) (hb:k+j<=1000000000) (hj:0<j) (hid:σ.av id'=true):
  XJ C n ⟨dst,.call { callee:= .builtin .append,args:= #[x,y],argTypes:= #[t,t] },ty,pos,after,gd⟩ σ ⟨.gsl id' size (k+j),[(id',some (.gro e (cs++news))),(id,none)],[id']⟩:=by
 rintro a w Q ⟨m,R,hw⟩;obtain⟨A0,c,hev,hkc,hcm,hz,hp⟩:=hw.gsl hs;obtain⟨A,c2,us,hev2,hr2,hrow⟩:=hsrc.row hw;have hnl:0<news.length:=by rw[hl];exact Tk hj he.pos
 have hne:cs++news≠[]:=fun e=>by
  have:=ag List.length e;simp at this;rw[this.2]at hnl;simp at hnl
 have sub:∀i x,upd m id none i=some x->m i=some x/\i≠id:=fun i x e=>by
  by_cases hi:i=id
  ·subst hi;rw[ay]at e;cases e
  ·rw[aM _ _ hi]at e;exact⟨e,hi⟩
 rcases Qj k with hk0|hk0
 ·subst hk0;obtain⟨rfl,rfl,hmn⟩:=hz O;have hcs0:cs=[]:=PF (by simpa using hcs);subst hcs0;refine oy x y t O 0 e z size bytes he.u he.info he.zs he.pos he.by_ _ 0 j c2 A _ us hev hev2 (World.ownsRow_nil w 0 e size) hrow (by rw[hr2.length,hl]) (da hr2 hlf) Ts (cd _) ?_;intro A' c' w' hown' hgr hat
  simp only[PJ,Qa]at hown' hat hne ⊢;rcases hown'.2 with⟨hv,h0⟩|⟨g,cap,cur,hv,_,hg,hkc',hcm',hcs',htk⟩
  ·omega
  ·simp only[Value.slice.injEq]at hv;obtain⟨rfl, -,rfl⟩:=hv;have gge:w.heap.size<=g:=by
    rcases hat with h|⟨g',h,hle⟩
    ·simp[Value.ownBlock]at h
    ·simp only[Value.ownBlock,Pe]at h;subst h;exact hle
   refine⟨_,O,upd (upd m id none) id' (some (g,cur.size)),R,?_⟩;rw[O1];refine SW.put ((hw.drop id).fresh hid hg hgr (fun q hq=>by simp[Value.ownBlock]at hq) (fun h=>by have:=hw.hr.rsz _ h;omega) (fun i b N hi e=>by have:=(hw.hr.own i b N (sub i _ hi).1).1;omega) (.inr (by have:=hw.hr.frame.size;omega)) (.gro e news) ?_ (cL hne)) dst ?_
   ·intro m' av' hR _ _;refine⟨cur,hg,O,?_,?_⟩
    ·rw[hcs',<-hr2.length,hown'.1];exact Qs _ hkc'
    ·rw[<-hr2.length,hown'.1,htk];exact hr2.mono hR
   ·simp only[Rel];refine⟨by simp[avL],_,c',O,hkc',hcm',fun h=>by omega,fun _ b N e=>?_⟩;rw[ay]at e;cases e;exact⟨O,hcs'⟩
 ·have hcne:cs≠[]:=fun e=>by
   rw[e]at hcs;have:=Tk hk0 he.pos;simp at hcs;omega
  obtain⟨b,N,hm,arr,hbk,hsz,hle,hr⟩:=hw.live ho (cL hcne);obtain⟨rfl,hN⟩:=hp hk0 b N hm;have hown:w.ownsRow 0 e size (.slice (some ⟨b,0,none⟩) k c) k (arr.toList.take (k*size)):=by
   refine⟨?_,.inr ⟨b,c,arr,O,cd _,hbk,hkc,hcm,by rw[hsz,hN],O⟩⟩;have:=Qs size hkc;simp only[Pj,Px];omega
  refine oy x y t O 0 e z size bytes he.u he.info he.zs he.pos he.by_ _ k j c2 A _ us hev hev2 hown hrow (by rw[hr2.length,hl]) (da hr2 hlf) hb (cd _) ?_;intro A' c' w' hown' hgr hat
  have own:=hw.hr.own id b N hm;have hrel:RelPL w R (cs++news) (arr.toList.take (k*size)++us):=by
   rw[hcs]at hr;exact hr.append hr2
  have bprop:¬R b/\(∀i b' N',upd m id none i=some (b',N')->b'≠b)/\(C.F b\/C.w0.heap.size<=b):=
   ⟨own.2.1,fun i b' N' hi e=>(sub i _ hi).2 (DW hw (sub i _ hi).1 hm e),own.2.2⟩
  rcases hown'.2 with⟨hv,h0⟩|⟨g,cap,cur,hv,_,hg,hkc',hcm',hcs',htk⟩
  ·exfalso;simp only[Value.slice.injEq]at hv;obtain⟨rfl,_,_⟩:=hv;rcases hat with h|⟨g',h,_⟩<;>simp[Value.ownBlock]at h
  ·simp only[Value.slice.injEq]at hv;obtain⟨rfl, -,rfl⟩:=hv;have gprop:¬R g/\(∀i b' N',upd m id none i=some (b',N')->b'≠g)/\(C.F g\/C.w0.heap.size<=g):=by
    rcases hat with h|⟨g',h,hle⟩
    ·simp only[Value.ownBlock,Pe]at h;rw[h];exact bprop
    ·simp only[Value.ownBlock,Pe]at h;subst h;refine⟨fun h=>?_,fun i b' N' hi e=>?_,.inr ?_⟩
     ·have:=hw.hr.rsz _ h;omega
     ·have:=(hw.hr.own i b' N' (sub i _ hi).1).1;omega
     ·have:=hw.hr.frame.size;omega
   have hul:(arr.toList.take (k*size)++us).length=(k+j)*size:=hown'.1;refine⟨_,O,upd (upd m id none) id' (some (g,cur.size)),R,?_⟩;rw[O1];refine SW.put ((hw.drop id).fresh hid hg hgr (fun q hq=>by simp[Value.ownBlock]at hq;subst hq;exact bprop) gprop.1 gprop.2.1 gprop.2.2 (.gro e (cs++news)) ?_ (cL hne)) dst ?_
   ·intro m' av' hR _ _;refine⟨cur,hg,O,?_,?_⟩
    ·rw[hcs',<-hrel.length,hul];exact Qs _ hkc'
    ·rw[<-hrel.length,hul,htk];exact hrel.mono hR
   ·simp only[Rel];refine⟨by simp[avL],_,c',O,hkc',hcm',fun h=>by omega,fun _ b N e=>?_⟩;rw[ay]at e;cases e;exact⟨O,hcs'⟩
theorem gG{e T2:TypeId}{z:Value}{size bytes k id id2:Nat}{cs news:List PV}(id':Nat)(he:ElemIs C.P t e z size bytes)(hs:σ.ev n x= .gsl id size k)(ho:σ.ob id=some (.gro e cs))(hcs:cs.length=k*size)
  (hy:σ.ev n y= .osl id2 size 1) (ho2:σ.ob id2=some (.cells T2 news)) (hl:news.length=size) (hlf:news.all PV.leaf=true) (hb:k+1<=1000000000) (hid:σ.av id'=true):
  XJ C n ⟨dst,.call { callee:= .builtin .append,args:= #[x,y],argTypes:= #[t,t] },ty,pos,after,gd⟩ σ ⟨.gsl id' size (k+1),[(id',some (.gro e (cs++news))),(id,none)],[id']⟩:=
 Ae id' he hs ho hcs (.inr ⟨id2,size,T2,news,hy,ho2,by rw[Nat.one_mul,aX Ts]⟩) Ts (by simpa using hlf) hb Ts hid
end
def St.gro(σ:St)(t id sz:Nat)(T:TypeId):St:=⟨upd σ.sl t (.gsl id sz 0),obL [(id,some (.gro T []))] σ.ob,avL [id] σ.av⟩
theorem SW.gro0{C:Ctx}{n:Nat}{σ:St}{a:Act}{w:World}{m:Gm}{R:Nat->Prop}(hw:SW C n σ a w m R){id:Nat}(hid:σ.av id=true)(T:TypeId):SW C n ⟨σ.sl,obL [(id,some (.gro T []))] σ.ob,avL [id] σ.av⟩ a w m R/\m id=none:=by
 have obe:∀i,i≠id->obL [(id,some (.gro T []))] σ.ob i=σ.ob i:=fun i hi=>by
  have:Nat.beq i id=false:=by cases hb:Nat.beq i id;rfl;exact absurd (aI hb) hi
  simp[obL,this]
 have obs:obL [(id,some (.gro T []))] σ.ob id=some (.gro T []):=by simp[obL]
 have hmn:m id=none:=by
  have:=hw.hr.dom id;rw[hw.hr.free id hid]at this;simpa[bE]using this
 have ha:∀i,σ.av i=false->avL [id] σ.av i=false:=fun i hi=>by
  simp only[avL];cases Nat.beq i id<;>simp[hi]
 refine⟨hw.world ⟨?_,?_,?_,hw.hr.inj,hw.hr.own,hw.hr.rsz,hw.hr.rfr,hw.hr.r0,hw.hr.frame,hw.hr.keep,fun i hi=>ha i (hw.hr.res i hi)⟩ (fun b hb=>⟨hb,O⟩) (fun _ _ _ e=>e) ha,hmn⟩
 ·intro i;by_cases e:i=id
  ·subst e;rw[obs,hmn];rfl
  ·rw[obe i e];exact hw.hr.dom i
 ·intro i hi;simp only[avL]at hi;cases hb:Nat.beq i id with
  |true=>rw[hb]at hi;simp at hi
  | false=>
    rw[hb]at hi;have e:i≠id:=fun e=>by subst e;simp at hb
    rw[obe i e];exact hw.hr.free i (by simpa using hi)
 ·intro i o b N h1 h2;by_cases e:i=id
  ·subst e;rw[hmn]at h2;cases h2
  ·rw[obe i e]at h1;exact(hw.hr.obj i o b N h1 h2).mono (fun b hb=>⟨hb,O⟩) (fun _ _ _ e=>e) ha O
theorem vG{w:World}{m:Gm}{av:Av}{R:Nat->Prop}{id sz:Nat}{u:Value}(h:RelP w R (.sl (some true) 0 []) u)(hm:m id=none)(ha:av id=false):Rel w m av R (.gsl id sz 0) u:=by
 simp only[RelP]at h;obtain⟨A,c,he,_,h2,h3,h4,_⟩:=h;have hA:A=none:=by cases A;rfl;have:=h3 true O;simp at this
 simp only[Rel];exact⟨ha,A,c,he,cd _,h2,fun _=>⟨hA,h4 trivial,hm⟩,fun h=>absurd h (Nat.lt_irrefl 0)⟩
theorem OZ{σ:St}(t id sz:Nat)(T:TypeId)(ht:σ.sl t= .pv (.sl (some true) 0 []))(hid:σ.av id=true):σ.le (σ.gro t id sz T):=by
 rintro C n a w ⟨m,R,hw⟩;obtain⟨h,hmn⟩:=hw.gro0 hid T;refine⟨m,R,h.hr,h.df,h.sz,fun q hq=>?_⟩;show Rel w m (avL [id] σ.av) R (upd σ.sl t (.gsl id sz 0) q) _;by_cases e:q=t
 ·subst e;rw[ay];have h0:=hw.sl q hq;rw[ht]at h0;simp only[Rel]at h0;exact vG h0 hmn (by simp[avL])
 ·rw[aM _ _ e];exact h.sl q hq
def St.groC(σ:St)(pid j id sz:Nat)(T T':TypeId)(cs:List V):St:=⟨σ.sl,obL [(pid,some (.mix T' (cs.set j (.gsl id sz 0)))),(id,some (.gro T []))] σ.ob,avL [id] σ.av⟩
theorem St.c8{σ:St}{T':TypeId}{cs:List V}(pid j id sz:Nat)(T:TypeId)(ho:σ.ob pid=some (.mix T' cs))(hj:cs[j]? =some (.pv (.sl (some true) 0 [])))(hid:σ.av id=true):σ.le (σ.groC pid j id sz T T' cs):=by
 rintro C n a w ⟨m,R,hw⟩;obtain⟨h,hmn⟩:=hw.gro0 hid T;have hne:pid≠id:=fun e=>by rw[e,hw.hr.free id hid]at ho;cases ho
 have hob:obL [(id,some (.gro T []))] σ.ob pid=some (.mix T' cs):=by
  have:Nat.beq pid id=false:=by cases hb:Nat.beq pid id;rfl;exact absurd (aI hb) hne
  simp[obL,this,ho]
 have obe:∀i,i≠pid->obL [(pid,some (.mix T' (cs.set j (.gsl id sz 0)))),(id,some (.gro T []))] σ.ob i=obL [(id,some (.gro T []))] σ.ob i:=fun i hi=>by
  have:Nat.beq i pid=false:=by cases hb:Nat.beq i pid;rfl;exact absurd (aI hb) hi
  simp[obL,this]
 have obs:obL [(pid,some (.mix T' (cs.set j (.gsl id sz 0)))),(id,some (.gro T []))] σ.ob pid=some (.mix T' (cs.set j (.gsl id sz 0))):=by simp[obL]
 refine⟨m,R,⟨?_,?_,?_,h.hr.inj,h.hr.own,h.hr.rsz,h.hr.rfr,h.hr.r0,h.hr.frame,h.hr.keep,h.hr.res⟩,h.df,h.sz,h.sl⟩
 ·intro i;show(m i).isSome=bE (obL _ σ.ob i);by_cases e:i=pid
  ·subst e;rw[obs,h.hr.dom];show bE (obL [(id,some (.gro T []))] σ.ob i)=_;rw[hob];rfl
  ·rw[obe i e];exact h.hr.dom i
 ·intro i hi;show obL _ σ.ob i=none;by_cases e:i=pid
  ·subst e;have:=hob.symm.trans (h.hr.free i hi);cases this
  ·rw[obe i e];exact h.hr.free i hi
 ·intro i o b N h1 h2;have h1':obL [(pid,some (.mix T' (cs.set j (.gsl id sz 0)))),(id,some (.gro T []))] σ.ob i=some o:=h1;by_cases e:i=pid
  ·subst e;rw[obs]at h1';cases h1';obtain⟨arr,q1,q2,q3,q4⟩:=h.hr.obj i _ b N hob h2;refine⟨arr,q1,q2,by simpa using q3,?_⟩;obtain⟨u,hu,hr⟩:=q4.get hj;simp only[PO];have:=q4.set j (p:= .gsl id sz 0) (u:=u) (vG (by simpa only[Rel]using hr) hmn (by simp[avL]));have e2:(arr.toList.take cs.length).set j u=arr.toList.take cs.length:=by
    obtain⟨hlt,e3⟩:=Pf.1 hu;rw[<-e3];exact List.set_getElem_self hlt
   rw[e2]at this;exact this
  ·rw[obe i e]at h1';exact h.hr.obj i o b N h1' h2
mutual
def V.pubV(id:Nat)(r:Bool)(cs:List PV):V->V
 | .osl i sz k=>bif Nat.beq i id then .pv (bif r then .sl (some false) k cs else .any)else .osl i sz k
 | .tsl i sz k=>bif Nat.beq i id then .pv .any else .tsl i sz k
 | .gsl i sz k=>bif Nat.beq i id then .pv (.sl none k cs)else .gsl i sz k
 | .agg vs=> .agg (V.pubL id r cs vs)
 | .tup vs=> .tup (V.pubL id r cs vs)
 | .fn f a b=> .fn f (V.pubL id r cs a) (V.pubL id r cs b)
 | .pv p=> .pv p
 | .ptr i o=> .ptr i o
 | .map i=> .map i
def V.pubL(id:Nat)(r:Bool)(cs:List PV):List V->List V
 |[]=>[]
 |v::vs=>V.pubV id r cs v::V.pubL id r cs vs
end
def Ob.Gy(id:Nat)(r:Bool)(cs:List PV):Ob->Ob
 | .cells t c=> .cells t c
 | .gro t c=> .gro t c
 | .mp ks vs=> .mp ks vs
 | .it s p=> .it s p
 | .fro s p=> .fro s p
 | .mi c ks vs=> .mi c ks vs
 | .mix t vs=> .mix t (V.pubL id r cs vs)
theorem Ob.B0(id:Nat)(r:Bool)(cs:List PV):∀o:Ob,(o.Gy id r cs).real=o.real
 | .cells _ _=>rfl
 | .mix _ _=>rfl
 | .gro _ []=>rfl
 | .gro _ (_::_)=>rfl
 | .mp _ _=>rfl
 | .it _ _=>rfl
 | .fro _ _=>rfl
 | .mi _ _ _=>rfl
theorem DD(id:Nat)(r:Bool)(cs:List PV):∀o:Option Ob,bE (o.map (Ob.Gy id r cs))=bE o
 |none=>rfl
 |some o=>Ob.B0 id r cs o
def St.MP(σ:St)(id:Nat)(r:Bool)(cs:List PV):St:=⟨fun t=>V.pubV id r cs (σ.sl t),fun i=>bif Nat.beq i id then none else(σ.ob i).map (Ob.Gy id r cs),σ.av⟩
section
variable {w:World}{m m':Gm}{av:Av}{R R':Nat->Prop}
theorem jq(id:Nat)(r:Bool)(cs:List PV):∀vs:List V,(V.pubL id r cs vs).length=vs.length
 |[]=>rfl
 |_::vs=>by simp[V.pubL,jq id r cs vs]
mutual
theorem Rel.pubV{id:Nat}{r:Bool}{cs:List PV}(hR:∀b,R b->R' b/\w.heap[b]? =w.heap[b]?)(hm:∀i x,m' i=some x->m i=some x)
  (h1:r=true->∀sz k u,Rel w m av R (.osl id sz k) u->RelP w R' (.sl (some false) k cs) u) (h2:∀sz k u,Rel w m av R (.gsl id sz k) u->RelP w R' (.sl none k cs) u):
  ∀(v:V)(u:Value),Rel w m av R v u->Rel w m' av R' (V.pubV id r cs v) u
 | .osl i sz k,u,h=>by
   simp only[V.pubV];cases hb:Nat.beq i id with
   | true=>
     have:=aI hb;subst this;simp only[Qd,Rel];cases r with
     |true=>exact h1 O sz k u h
     |false=>simp only[PE,RelP]
   |false=>simp only[PE];exact h.mono hR (fun i x _ e=>hm i x e) (fun _ e=>e)
 | .gsl i sz k,u,h=>by
   simp only[V.pubV];cases hb:Nat.beq i id with
   |true=>have:=aI hb;subst this;simp only[Qd,Rel];exact h2 sz k u h
   |false=>simp only[PE];exact h.mono hR (fun i x _ e=>hm i x e) (fun _ e=>e)
 | .tsl i sz k,u,h=>by
   simp only[V.pubV];cases hb:Nat.beq i id with
   |true=>simp only[Qd,Rel,RelP]
   |false=>simp only[PE];exact h.mono hR (fun i x _ e=>hm i x e) (fun _ e=>e)
 | .agg vs,u,h=>by
   simp only[Rel,V.pubV]at h ⊢;obtain⟨us,e,h⟩:=h;exact⟨us,e,RelL.pubL hR hm h1 h2 vs us h⟩
 | .tup vs,u,h=>by
   simp only[Rel,V.pubV]at h ⊢;obtain⟨us,e,h⟩:=h;exact⟨us,e,RelL.pubL hR hm h1 h2 vs us h⟩
 | .fn f a b,u,h=>by
   simp only[Rel,V.pubV]at h ⊢;obtain⟨us,vs,e,ha,hb⟩:=h;exact⟨us,vs,e,RelL.pubL hR hm h1 h2 a us ha,RelL.pubL hR hm h1 h2 b vs hb⟩
 | .pv p,u,h=>by simp only[V.pubV];exact h.mono hR (fun i x _ e=>hm i x e) (fun _ e=>e)
 | .ptr i o,u,h=>by simp only[V.pubV];exact h.mono hR (fun i x _ e=>hm i x e) (fun _ e=>e)
 | .map i,u,h=>by simp only[V.pubV];exact h.mono hR (fun i x _ e=>hm i x e) (fun _ e=>e)
theorem RelL.pubL{id:Nat}{r:Bool}{cs:List PV}(hR:∀b,R b->R' b/\w.heap[b]? =w.heap[b]?)(hm:∀i x,m' i=some x->m i=some x)
  (h1:r=true->∀sz k u,Rel w m av R (.osl id sz k) u->RelP w R' (.sl (some false) k cs) u) (h2:∀sz k u,Rel w m av R (.gsl id sz k) u->RelP w R' (.sl none k cs) u):
  ∀(vs:List V)(us:List Value),RelL w m av R vs us->RelL w m' av R' (V.pubL id r cs vs) us
 |[],_,h=>by simpa only[RelL,V.pubL]using h
 | c::vs,_,h=>by
   simp only[RelL,V.pubL]at h ⊢;obtain⟨u,us,e,ha,hb⟩:=h;exact⟨u,us,e,Rel.pubV hR hm h1 h2 c u ha,RelL.pubL hR hm h1 h2 vs us hb⟩
end
end
def Ob.plain:Ob->Option (Bool×List PV)
 | .cells _ cs=>some (true,cs)
 | .gro _ cs=>some (false,cs)
 | .mp _ _=>none
 | .it _ _=>none
 | .fro _ _=>none
 | .mi _ _ _=>none
 | .mix _ _=>none
theorem OX{σ:St}{o:Ob}{r:Bool}{cs:List PV}(id:Nat)(ho:σ.ob id=some o)(hc:o.plain=some (r,cs)):σ.le (σ.MP id r cs):=by
 rintro C n a w ⟨m,R,hw⟩;have hd:=hw.drop id;have sub:∀i x,upd m id none i=some x->m i=some x/\i≠id:=fun i x e=>by
  by_cases hi:i=id
  ·subst hi;rw[ay]at e;cases e
  ·rw[aM _ _ hi]at e;exact⟨e,hi⟩
 let R':Nat->Prop:=fun q=>R q\/∃N,m id=some (q,N)
 have hR:∀b,R b->R' b/\w.heap[b]? =w.heap[b]? :=fun b hb=>⟨.inl hb,O⟩
 have hcell:∀b N,m id=some (b,N)->∃us,RelPL w R' cs us/\q9 w R' b 0 us:=by
  intro b N hm;have hO:=hw.hr.obj id o b N ho hm;have fin:∀T (arr:Array Value),w.heap[b]? =some (.cells arr T (0,0))->RelPL w R cs (arr.toList.take cs.length)->∃us,RelPL w R' cs us/\q9 w R' b 0 us:=by
   intro T arr hb hr;refine⟨_,hr.mono hR,.inr ⟨N,hm⟩,?_⟩;intro j hj;simp only[Pj]at hj;rw[PJ,cell_of_row w b j arr T (0,0) hb,Pw,AT Ts];simp
  cases o with
  |cells T c=>simp only[Ob.plain,Pe,Prod.mk.injEq]at hc;obtain⟨_,rfl⟩:=hc;obtain⟨arr,q1,_,_,q4⟩:=hO;exact fin T arr q1 q4
  |gro T c=>simp only[Ob.plain,Pe,Prod.mk.injEq]at hc;obtain⟨_,rfl⟩:=hc;obtain⟨arr,q1,_,_,q4⟩:=hO;exact fin T arr q1 q4
  |mix T c=>simp[Ob.plain]at hc
  |mp ks vs=>simp[Ob.plain]at hc
  |it s p=>simp[Ob.plain]at hc
  |fro s p=>simp[Ob.plain]at hc
  |mi c ks vs=>simp[Ob.plain]at hc
 have hlv:(m id).isSome=true\/(r=false/\cs=[]):=by
  rw[hw.hr.dom,ho];cases o with
  |cells T c=>exact .inl O
  | gro T c=>
    simp only[Ob.plain,Pe,Prod.mk.injEq]at hc;obtain⟨rfl,rfl⟩:=hc;cases c with
    |nil=>exact .inr ⟨O,O⟩
    |cons _ _=>exact .inl O
  |mix T c=>simp[Ob.plain]at hc
  |mp ks vs=>simp[Ob.plain]at hc
  |it s p=>simp[Ob.plain]at hc
  |fro s p=>simp[Ob.plain]at hc
  |mi c ks vs=>simp[Ob.plain]at hc
 have p1:r=true->∀sz k u,Rel w m σ.av R (.osl id sz k) u->RelP w R' (.sl (some false) k cs) u:=by
  intro hr' sz k u h;obtain⟨⟨b,N⟩,hm⟩:∃x,m id=some x:=by
   rcases hlv with h|h
   ·exact PB.1 h
   ·rw[hr']at h;cases h.1
  simp only[Rel]at h;obtain⟨c,he,h1,h2,_⟩:=h.2 b N hm;obtain⟨us,hr,hsh⟩:=hcell b N hm;simp only[RelP];exact⟨_,c,he,h1,h2,(fun _ e=>by cases e;rfl),(fun e=>by cases e),fun _=>⟨b,0,us,rfl,hr,hsh⟩⟩
 have p2:∀sz k u,Rel w m σ.av R (.gsl id sz k) u->RelP w R' (.sl none k cs) u:=by
  intro sz k u h;simp only[Rel]at h;obtain⟨h0,A,c,he,h1,h2,h3,h4⟩:=h;simp only[RelP];refine⟨_,c,he,h1,h2,(fun _ e=>by cases e),(fun e=>by cases e),fun hne=>?_⟩;obtain⟨⟨b,N⟩,hm⟩:∃x,m id=some x:=by
   rcases hlv with h|h
   ·exact PB.1 h
   ·exact absurd h.2 hne
  have hk:0<k:=by
   rcases Qj k with e|e
   ·have:=(h3 e).2.2;rw[hm]at this;cases this
   ·exact e
  obtain⟨us,hr,hsh⟩:=hcell b N hm;exact⟨b,0,us,(h4 hk b N hm).1,hr,hsh⟩
 have hsub:∀i x,upd m id none i=some x->m i=some x:=fun i x e=>(sub i x e).1
 have obn:∀i,(σ.MP id r cs).ob i=bif Nat.beq i id then none else(σ.ob i).map (Ob.Gy id r cs):=fun _=>rfl
 have obs:(σ.MP id r cs).ob id=none:=by rw[obn];simp
 have obe:∀i,i≠id->(σ.MP id r cs).ob i=(σ.ob i).map (Ob.Gy id r cs):=fun i hi=>by
  rw[obn];have:Nat.beq i id=false:=by cases hb:Nat.beq i id;rfl;exact absurd (aI hb) hi
  rw[this];rfl
 refine⟨upd m id none,R',⟨?_,?_,?_,hd.hr.inj,?_,?_,?_,fun q hq=> .inl (hw.hr.r0 q hq),hw.hr.frame,hd.hr.keep,hd.hr.res⟩,hw.df,hw.sz,?_⟩
 ·intro i;by_cases e:i=id
  ·subst e;rw[ay,obs];rfl
  ·rw[aM _ _ e,obe i e,DD];exact hw.hr.dom i
 ·intro i hi;by_cases e:i=id
  ·subst e;exact obs
  ·rw[obe i e,hw.hr.free i hi];rfl
 ·intro i o' b N h1 h2;obtain⟨h2',e⟩:=sub i _ h2;rw[obe i e]at h1;cases ho':σ.ob i with
  |none=>rw[ho']at h1;cases h1
  | some o2=>
    rw[ho']at h1;simp only[Ra,Pe]at h1;subst h1;have hO:=hw.hr.obj i o2 b N ho' h2';cases o2 with
    |cells T c=>obtain⟨arr,q1,q2,q3,q4⟩:=hO;exact⟨arr,q1,q2,q3,q4.mono hR⟩
    |gro T c=>obtain⟨arr,q1,q2,q3,q4⟩:=hO;exact⟨arr,q1,q2,q3,q4.mono hR⟩
    |mp ks vs=>obtain⟨es,clock,q1,q2,q3,q4⟩:=hO;exact⟨es,clock,q1,q2.mono hR,q3.mono hR,q4⟩
    |it s p=>exact hO
    |fro s p=>exact hO
    |mi c ks vs=>exact sy.mono hR O hO
    | mix T c=>
      obtain⟨arr,q1,q2,q3,q4⟩:=hO;refine⟨arr,q1,q2,by rw[jq];exact q3,?_⟩;rw[jq];exact q4.pubL hR hsub p1 p2
 ·intro i b N h1;obtain⟨h2,h3,h4⟩:=hw.hr.own i b N (sub i _ h1).1;refine⟨h2,?_,h4⟩;rintro(h5|⟨N',h5⟩)
  ·exact h3 h5
  ·exact(sub i _ h1).2 (hw.hr.inj i id b N N' (sub i _ h1).1 h5)
 ·rintro q (hq|⟨N,hq⟩)
  ·exact hw.hr.rsz q hq
  ·exact(hw.hr.own id q N hq).1
 ·rintro q (hq|⟨N,hq⟩)
  ·exact hw.hr.rfr q hq
  ·rcases(hw.hr.own id q N hq).2.2 with h|h
   ·exact .inr (.inr h)
   ·exact .inr (.inl h)
 ·intro t ht;exact(hw.sl t ht).pubV hR hsub p1 p2
theorem St.le.trans{σ τ υ:St}(h:σ.le τ)(k:τ.le υ):σ.le υ:=fun C n a w hs=>k C n a w (h C n a w hs)
def midQ{X:Type}(st:X->St)(I:X->Prop)(Q:Exit->St->Prop):Exit->St->Prop
 | .normal,σ=>∃x,σ.le (st x)/\I x
 |e,σ=>Q e σ
theorem AW.cut{X:Type}{C:Ctx}{n:Nat}{Q:Exit->St->Prop}{σ:St}{c d:Code}(st:X->St)(I:X->Prop)(h:AW C n c (midQ st I Q) σ)(k:∀x,I x->AW C n d Q (st x)):AW C n (.seq c d) Q σ:=by
 refine O4 (h.mono ?_);intro e s hq;cases e with
 | normal=>
   obtain⟨x,hle,hi⟩:=hq;exact OT hle (k x hi)
 |_=>exact hq
end
def retMC(n t k:Nat)(T:TypeId)(Q:PV->List PV->Prop):Exit->St->Prop
 | .ret,σ| .normal,σ=>∃id T2 ps cs',σ.ev n (.tmp t)= .ptr id 0/\Nat.blt id big=true/\σ.ob id=some (.mix T2 (ps.map .pv))/\ps.length=k/\σ.ob big=some (.mix T (cs'.map .pv))/\Q (.agg ps) cs'
 |_,_=>False
theorem FnM.ofC{P:Program}{f:FuncId}{fn:Func}{c:Code}{n t k:Nat}{rt T:TypeId}{cs args:List PV}{Q:PV->List PV->Prop}(hf:P.funcs[f]? =some fn)(hb:fn.body=some c)(hn:fn.ntmps=n)(hna:args.length+1<=n)(hres:fn.results.toList=[.cell t rt])(ht:t<n)(hrow:isRow P rt)(hsz:bQ P rt k)
  (h:∀m0 w0 F R0,AW ⟨P,m0,w0,F,R0⟩ n c (retMC n t k T Q) (mkS ((0,.ptr big 0)::cF 1 (args.map .pv)) [(big,.mix T (cs.map .pv))] 0)):FnM P f T cs args Q:=by
 have hO:FnO P f 1 0 (.ptr big 0::args.map .pv) [(big,.mix T (cs.map .pv))] fun v ob'=>∃ps cs',v= .agg (ps.map .pv)/\ob'=ax [(big,.mix T (cs'.map .pv))]/\Q (.agg ps) cs':=by
  refine FnO.ofC hf hb hn (by simpa using hna) fun m0 w0 F R0=>?_
  refine(h m0 w0 F R0).mono ?_;have hlt:Nat.blt t n=true:=by simpa[Rp]using ht
  have key:∀s:St,(∃id T2 ps cs',s.ev n (.tmp t)= .ptr id 0/\Nat.blt id big=true/\s.ob id=some (.mix T2 (ps.map .pv))/\ps.length=k/\s.ob big=some (.mix T (cs'.map .pv))/\Q (.agg ps) cs')->
    ∃l os' vs os2 k2,s.le (mkS l os' k2)/\yV n (mkS l os' k2) fn.results.toList=some vs/\ku P n (mkS l os' k2) fn.results.toList/\V.allL (okR 1 0) vs=true/\os2.all (fun p=>okR 1 0 p.1&&p.2.all (okR 1 0))=true/\
     (∀i o,ax os2 i=some o->ax os' i=some o)/\0<=k2/\∃ps cs',cC vs= .agg (ps.map .pv)/\ax os2=ax [(big,.mix T (cs'.map .pv))]/\Q (.agg ps) cs':=by
   rintro s ⟨id,T2,ps,cs',h1,h2,h3,h4,h5,h6⟩;simp only[St.ev,hlt,Qd]at h1;have hid:id<big:=by simpa[Rp]using h2
   have e1:Nat.beq id big=false:=by cases hb:Nat.beq id big;rfl;have:=aI hb;omega
   have ev:(mkS [(t,.ptr id 0)] [(big,.mix T (cs'.map .pv)),(id,.mix T2 (ps.map .pv))] (id+1)).ev n (.tmp t)= .ptr id 0:=by
    simp only[St.ev,hlt,Qd,mkS,look,Sn]
   have ob:(mkS [(t,.ptr id 0)] [(big,.mix T (cs'.map .pv)),(id,.mix T2 (ps.map .pv))] (id+1)).ob id=some (.mix T2 (ps.map .pv)):=by
    simp only[mkS,ax,e1,PE,Sn,Qd]
   have hb1:Nat.blt id (id+1)=true:=by simp[Rp]
   refine⟨[(t,.ptr id 0)],[(big,.mix T (cs'.map .pv)),(id,.mix T2 (ps.map .pv))],[.agg (ps.map .pv)],[(big,.mix T (cs'.map .pv))],id+1,OU ⟨h1,TB⟩ ⟨h5,h3,TB⟩ ?_ ?_,?_,?_,?_,?_,?_,cd _,ps,cs',O,O,h6⟩
   ·simp only[RB,To,V.okA,hb1];rfl
   ·simp only[RB,To,Sf,Ob.okA,DA,hb1];simp
   ·rw[hres];simp only[yV,ev,ob]
   ·rw[hres];exact⟨az hrow hsz ev ob (by simpa using h4),TB⟩
   ·simp only[V.allL,V.all,lz];rfl
   ·simp only[RB,To,Sf,Ob.all,lz];rfl
   ·intro i o hi;simp only[ax]at hi ⊢;cases hb:Nat.beq i big with
    |true=>rw[hb]at hi;simpa using hi
    |false=>rw[hb]at hi;simp at hi
  intro ex s hq;cases ex with
  |normal=>exact key s hq
  |ret=>exact key s hq
  |_=>exact hq.elim
 intro w m R us h1 h2;refine(hO w m R us h1 h2).mono ?_;rintro e w' ⟨u,v,ob',m',R',rfl,⟨ps,cs',rfl,rfl,hq⟩,h3,h4,h5,h6⟩;refine⟨u,.pv (.agg ps),_,m',R',O,⟨_,cs',O,O,hq⟩,O,h4,h5,?_⟩;simp only[Rel,RelP]at h6 ⊢;obtain⟨us,e,hr⟩:=h6;exact⟨us,e,hr.toP⟩
section
def aN(l:List UInt8):List PV:=l.map fun b=> .int .u8 (b.toNat:Int)
theorem ng{w:World}{R:Nat->Prop}:∀{l:List UInt8}{us:List Value},RelPL w R (aN l) us->us=l.map fun b=>Value.int .u8 (b.toNat:Int)
 |[],us,h=>by simpa[aN,RelPL]using h
 | b::l,us,h=>by
   simp only[aN,bL,RelPL]at h;obtain⟨u,vs,rfl,h1,h2⟩:=h;simp only[RelP]at h1;rw[h1,ng (l:=l) h2];rfl
section
variable {C:Ctx}{n:Nat}{σ:St}{dst:Option Tmp}{ty t t':TypeId}{pos:String}{after:Array Edge}{gd:Option (Nat×Bool)}{x y:Operand}
theorem OM{src d e:TypeId}(l:List UInt8)(hs:C.P.underlying src=some (.slice e))(he:C.P.underlying e=some (.int .u8))(hd:C.P.underlying d=some .string)(hx:nM n σ x l.length (aN l)):
  XJ C n ⟨dst,.convert src d x,ty,pos,after,gd⟩ σ ⟨.pv (.str ⟨l.toArray⟩),[],[]⟩:=
 .val fun a w m R hw=>⟨.string ⟨l.toArray⟩,by
  obtain⟨A,c,us,hev,hr,hrow⟩:=hx.row hw;have hus:=ng hr;have hrun:(convert src d (.slice A l.length c)).run C.P w= .ok (.string ⟨l.toArray⟩) w:=by
   by_cases hne:l=[]
   ·subst hne;cases A with
    |none=>exact run_convert_bytes_nil (P:=C.P) w src e hs he 0 c d hd
    |some a=>exact run_convert_bytes_back (P:=C.P) w src d e a c [] hs he hd (fun j hj=>by simp at hj)
   ·obtain⟨b,off,rfl,_,_,hc⟩:=hrow (by rw[hus];simpa using hne);refine run_convert_bytes_back (P:=C.P) w src d e _ c l hs he hd (fun j hj=>?_);have:=hc j (by rw[hus];simpa using hj);rw[hus]at this;have e:(⟨b,off,none⟩:Addr).add j=⟨b,off+j,none⟩:=by
     unfold Addr.add;split
     ·subst_vars;simp
     ·rfl
    rw[e,this];simp[hj]
  simp only[execOp,hev,Sem.run_bind,hrun,Result.andThen_ok];rfl,by simp only[Rel,RelP]⟩
theorem NU{src d e:TypeId}{s:ByteArray}{u:TypeDesc}(hs:C.P.underlying src=some u)(hd:C.P.underlying d=some (.slice e))(he:C.P.underlying e=some (.int .u8))(hx:σ.ev n x= .pv (.str s))(hl:s.size<=9223372036854775807):
  XJ C n ⟨dst,.convert src d x,ty,pos,after,gd⟩ σ ⟨.pv (.sl (some false) s.size (aN s.data.toList)),[],[]⟩:=by
 rintro a w Q ⟨m,R,hw⟩;have hrun:(execOp a.eval ⟨dst,.convert src d x,ty,pos,after,gd⟩).run C.P w= .ok (.value (.slice (some ⟨w.heap.size,0,none⟩) s.size (grownCap w s.size 0 e))) (Lib.bytesWorld w e s):=by
  simp only[execOp,hw.str hx,Sem.run_bind,Lib.run_convert_string_bytes (P:=C.P) w src d e s hs hd he,Result.andThen_ok];rfl
 unfold Oper.wp;rw[hrun];have hold:=Lib.bytesWorld_at_old w e s;have hsz:=Lib.bytesWorld_size w e s;have hR:∀b,R b->(R b\/b=w.heap.size)/\(Lib.bytesWorld w e s).heap[b]? =w.heap[b]? :=fun b hb=>⟨.inl hb,hold b (hw.hr.rsz b hb)⟩
 refine⟨_,O,m,fun b=>R b\/b=w.heap.size,?_⟩;rw[O1];refine SW.put (hw.world (ob':=obL [] σ.ob) (av':=avL [] σ.av) ⟨hw.hr.dom,hw.hr.free,?_,hw.hr.inj,?_,?_,?_,fun b hb=> .inl (hw.hr.r0 b hb),?_,hw.hr.keep,hw.hr.res⟩ hR (fun _ _ _ e=>e) (fun _ e=>e)) dst ?_
 ·intro i o b N h1 h2;exact(hw.hr.obj i o b N h1 h2).mono hR (fun _ _ _ e=>e) (fun _ e=>e) (hold b (hw.hr.own i b N h2).1)
 ·intro i b N h1;obtain⟨h2,h3,h4⟩:=hw.hr.own i b N h1;refine⟨Ts,?_,h4⟩;rintro(h5|h5)
  ·exact h3 h5
  ·omega
 ·rintro b (hb|hb)
  ·have:=hw.hr.rsz b hb;omega
  ·omega
 ·rintro b (hb|hb)
  ·exact hw.hr.rfr b hb
  ·refine .inr (.inl ?_);have:=hw.hr.frame.size;omega
 ·refine⟨hw.hr.frame.os,hw.hr.frame.tape,hw.hr.frame.output,?_,?_⟩
  ·have:=hw.hr.frame.size;omega
  ·intro k hk hF;rw[hold k (by have:=hw.hr.frame.size;omega)];exact hw.hr.frame.block k hk hF
 ·simp only[Rel,RelP];have hcap:=grownCap_ge w s.size 0 e;refine⟨_,_,O,?_,?_,(fun _ e=>by cases e;rfl),(fun e=>by cases e),fun _=>⟨w.heap.size,0,s.data.toList.map (fun b=>Value.int .u8 (b.toNat:Int)),rfl,?_,.inr rfl,?_⟩⟩
  ·exact hcap
  ·exact grownCap_le_maxLen w s.size 0 e (by simp only[maxLen];omega)
  ·generalize s.data.toList=l;induction l with
   |nil=>exact RelPL.nil
   |cons b l ih=>exact RelPL.cons (by simp only[RelP]) ih
  ·intro j hj;have hj':j<s.size:=by simpa using hj
   rw[PJ,Lib.bytesWorld_cell w e s j hj'];simp[List.getD,hj']
theorem ak{T e:TypeId}{z:Value}{size bytes k:Nat}{zs:List PV}{parts:Array (Nat×Operand)}{cs:List PV}(nf:Option Bool)(hnf:nf≠some true)(he:ElemIs C.P T e z size bytes)(hzs:z.cells.toList.map fb=zs)(hk:0<k)(hk2:k*size<=16777216)
  {vs:List V} (hf:dS (fun i=>some (i*size,size)) σ.ob ((mkZ zs (k*size)).map .pv) (parts.toList.map fun p=>(p.1,σ.ev n p.2))=some vs) (hvs:V.pvs vs=some cs):
  XJ C n ⟨dst,.buildSlice T k parts,ty,pos,after,gd⟩ σ ⟨.pv (.sl nf k cs),[],[]⟩:=by
 rintro a w Q ⟨m,R,hw⟩;obtain rfl:=V.sJ hvs;obtain⟨i,hi,hz,hsize,hbytes⟩:=info_parts he.info;have hzl:zs.length=z.cells.size:=by rw[<-hzs];simp
 have gen:∀l:List Nat,RelPL w R (l.map fun i=>zs.getD (i%zs.length) .any) (l.map fun i=>z.cells[i%z.cells.size]!):=by
  intro l;induction l with
  |nil=>simpa using RelPL.nil
  | cons j l ih=>
    simp only[bL];refine RelPL.cons ?_ ih;have hpos:0<z.cells.size:=by rw[he.zs];exact he.pos
    have hlt:j%z.cells.size<z.cells.size:=Rb _ hpos;rw[hzl,<-hzs];have e1:(z.cells.toList.map fb).getD (j%z.cells.size) .any=fb (z.cells[j%z.cells.size]!):=by
     simp[Pk,hlt]
    rw[e1];exact eR w R _
 have h0:RelPL w R (mkZ zs (k*size)) ((Array.range (k*size)).map (z.cells[· %z.cells.size]!)).toList:=by
  have:=gen (List.range (k*size));simpa[mkZ]using this
 obtain⟨arr',hfill,hr'⟩:=hw.fill (fun i=>some (i*size,size)) parts.toList _ _ _ (RelL.ofP h0) hf;have hr2:=hr'.toP;have hparts:(parts.map fun x=>(x.1,a.eval x.2)).toList=parts.toList.map fun p=>(p.1,a.eval p.2):=Tw
 have hpos:0<k*size:=Tk hk he.pos;have hrun:=run_buildSlice (P:=C.P) w T e k (parts.map fun x=>(x.1,a.eval x.2)) arr' i z he.u hi hz (by rw[hsize];omega) (by rw[hsize];omega) (by rw[hparts,hsize];exact hfill);have hcl:cs.length=k*size:=by
  have:∀(l:List (Nat×V))(cells cs':List V),dS (fun i=>some (i*size,size)) σ.ob cells l=some cs'->cs'.length=cells.length:=by
   intro l;induction l with
   |nil=>intro cells cs' h;simp only[dS,Pe]at h;rw[h]
   | cons p l ih=>
     obtain⟨q,v⟩:=p;intro cells cs' h;simp only[dS]at h;rw[Bool.cond_eq_ite]at h;split at h
     ·rename_i hc;simp only[sh]at hc;rw[ih _ _ h,bB];have h1:=aI hc.1.1.1;have h2:=Pp hc.1.1.2;omega
     ·cases h
  have:=this _ _ _ hf;simpa[mkZ]using this
 have hrun':(execOp a.eval ⟨dst,.buildSlice T k parts,ty,pos,after,gd⟩).run C.P w= .ok (.value (.slice (some ⟨w.heap.size,0,none⟩) k k)) (w.alloc (.cells arr' e)):=by
  simp only[execOp,Sem.run_bind,hrun,Result.andThen_ok,Sem.run_pure]
 unfold Oper.wp;rw[hrun'];have hsz:arr'.size=k*size:=by have:=hr2.length;simp at this;omega
 have hold:∀q,q<w.heap.size->(w.alloc (.cells arr' e)).heap[q]? =w.heap[q]? :=fun q hq=>Below.heap_alloc w _ q hq
 have hsize':(w.alloc (.cells arr' e)).heap.size=w.heap.size+1:=Tw;have hR:∀b,R b->(R b\/b=w.heap.size)/\(w.alloc (.cells arr' e)).heap[b]? =w.heap[b]? :=fun b hb=>⟨.inl hb,hold b (hw.hr.rsz b hb)⟩
 refine⟨_,O,m,fun b=>R b\/b=w.heap.size,?_⟩;rw[O1];refine SW.put (hw.world (ob':=obL [] σ.ob) (av':=avL [] σ.av) ⟨hw.hr.dom,hw.hr.free,?_,hw.hr.inj,?_,?_,?_,fun b hb=> .inl (hw.hr.r0 b hb),?_,hw.hr.keep,hw.hr.res⟩ hR (fun _ _ _ e=>e) (fun _ e=>e)) dst ?_
 ·intro i o b N h1 h2;exact(hw.hr.obj i o b N h1 h2).mono hR (fun _ _ _ e=>e) (fun _ e=>e) (hold b (hw.hr.own i b N h2).1)
 ·intro i b N h1;obtain⟨h2,h3,h4⟩:=hw.hr.own i b N h1;refine⟨Ts,?_,h4⟩;rintro(h5|h5)
  ·exact h3 h5
  ·omega
 ·rintro b (hb|hb)
  ·have:=hw.hr.rsz b hb;omega
  ·omega
 ·rintro b (hb|hb)
  ·exact hw.hr.rfr b hb
  ·refine .inr (.inl ?_);have:=hw.hr.frame.size;omega
 ·refine⟨hw.hr.frame.os,hw.hr.frame.tape,hw.hr.frame.output,?_,?_⟩
  ·have:=hw.hr.frame.size;omega
  ·intro k hk hF;rw[hold k (by have:=hw.hr.frame.size;omega)];exact hw.hr.frame.block k hk hF
 ·simp only[Rel,RelP];have hkk:k<=k*size:=Nat.le_mul_of_pos_right k he.pos;refine⟨_,_,O,BY _,by simp only[maxLen];omega,?_,fun e=>absurd e hnf,fun _=>⟨w.heap.size,0,arr'.toList,O,hr2.mono hR,.inr O,?_⟩⟩
  ·intro b hb;cases b with
   |true=>exact absurd hb hnf
   |false=>rfl
  ·intro j hj;rw[PJ,cell_of_row _ w.heap.size j arr' e (0,0) (heap_alloc_new w _)];simp
end
end
section
mutual
def V.ppV(id:Nat)(cs:List PV):V->V
 | .ptr i o=>bif Nat.beq i id then .pv (.rp cs o)else .ptr i o
 | .agg vs=> .agg (V.ppL id cs vs)
 | .tup vs=> .tup (V.ppL id cs vs)
 | .fn f a b=> .fn f (V.ppL id cs a) (V.ppL id cs b)
 | .pv p=> .pv p
 | .osl i sz k=>bif Nat.beq i id then .pv .any else .osl i sz k
 | .tsl i sz k=>bif Nat.beq i id then .pv .any else .tsl i sz k
 | .gsl i sz k=>bif Nat.beq i id then .pv .any else .gsl i sz k
 | .map i=> .map i
def V.ppL(id:Nat)(cs:List PV):List V->List V
 |[]=>[]
 |v::vs=>V.ppV id cs v::V.ppL id cs vs
end
def Ob.ppO(id:Nat)(cs:List PV):Ob->Ob
 | .cells t c=> .cells t c
 | .gro t c=> .gro t c
 | .mp ks vs=> .mp ks vs
 | .it s p=> .it s p
 | .fro s p=> .fro s p
 | .mi c ks vs=> .mi c ks vs
 | .mix t vs=> .mix t (V.ppL id cs vs)
theorem Ob.GU(id:Nat)(cs:List PV):∀o:Ob,(o.ppO id cs).real=o.real
 | .cells _ _=>rfl
 | .mix _ _=>rfl
 | .gro _ []=>rfl
 | .gro _ (_::_)=>rfl
 | .mp _ _=>rfl
 | .it _ _=>rfl
 | .fro _ _=>rfl
 | .mi _ _ _=>rfl
theorem FT(id:Nat)(cs:List PV):∀o:Option Ob,bE (o.map (Ob.ppO id cs))=bE o
 |none=>rfl
 |some o=>Ob.GU id cs o
def St.ppA(σ:St)(id:Nat)(cs:List PV):St:=⟨fun t=>V.ppV id cs (σ.sl t),fun i=>bif Nat.beq i id then none else(σ.ob i).map (Ob.ppO id cs),σ.av⟩
section
variable {w:World}{m m':Gm}{av:Av}{R R':Nat->Prop}
theorem lg(id:Nat)(cs:List PV):∀vs:List V,(V.ppL id cs vs).length=vs.length
 |[]=>rfl
 |_::vs=>by simp[V.ppL,lg id cs vs]
mutual
theorem Rel.ppV{id:Nat}{cs:List PV}(hR:∀b,R b->R' b/\w.heap[b]? =w.heap[b]?)(hm:∀i x,m' i=some x->m i=some x)
  (h1:∀o u,Rel w m av R (.ptr id o) u->RelP w R' (.rp cs o) u):
  ∀(v:V)(u:Value),Rel w m av R v u->Rel w m' av R' (V.ppV id cs v) u
 | .ptr i o,u,h=>by
   simp only[V.ppV];cases hb:Nat.beq i id with
   |true=>have:=aI hb;subst this;simp only[Qd,Rel];exact h1 o u h
   |false=>simp only[PE];exact h.mono hR (fun i x _ e=>hm i x e) (fun _ e=>e)
 | .agg vs,u,h=>by
   simp only[Rel,V.ppV]at h ⊢;obtain⟨us,e,h⟩:=h;exact⟨us,e,RelL.ppL hR hm h1 vs us h⟩
 | .tup vs,u,h=>by
   simp only[Rel,V.ppV]at h ⊢;obtain⟨us,e,h⟩:=h;exact⟨us,e,RelL.ppL hR hm h1 vs us h⟩
 | .fn f a b,u,h=>by
   simp only[Rel,V.ppV]at h ⊢;obtain⟨us,vs,e,ha,hb⟩:=h;exact⟨us,vs,e,RelL.ppL hR hm h1 a us ha,RelL.ppL hR hm h1 b vs hb⟩
 | .pv p,u,h=>by simp only[V.ppV];exact h.mono hR (fun i x _ e=>hm i x e) (fun _ e=>e)
 | .osl i sz k,u,h=>by
   simp only[V.ppV];cases hb:Nat.beq i id with
   |true=>simp only[Qd,Rel,RelP]
   |false=>simp only[PE];exact h.mono hR (fun i x _ e=>hm i x e) (fun _ e=>e)
 | .tsl i sz k,u,h=>by
   simp only[V.ppV];cases hb:Nat.beq i id with
   |true=>simp only[Qd,Rel,RelP]
   |false=>simp only[PE];exact h.mono hR (fun i x _ e=>hm i x e) (fun _ e=>e)
 | .gsl i sz k,u,h=>by
   simp only[V.ppV];cases hb:Nat.beq i id with
   |true=>simp only[Qd,Rel,RelP]
   |false=>simp only[PE];exact h.mono hR (fun i x _ e=>hm i x e) (fun _ e=>e)
 | .map i,u,h=>by simp only[V.ppV];exact h.mono hR (fun i x _ e=>hm i x e) (fun _ e=>e)
theorem RelL.ppL{id:Nat}{cs:List PV}(hR:∀b,R b->R' b/\w.heap[b]? =w.heap[b]?)(hm:∀i x,m' i=some x->m i=some x)
  (h1:∀o u,Rel w m av R (.ptr id o) u->RelP w R' (.rp cs o) u):
  ∀(vs:List V)(us:List Value),RelL w m av R vs us->RelL w m' av R' (V.ppL id cs vs) us
 |[],_,h=>by simpa only[RelL,V.ppL]using h
 | c::vs,_,h=>by
   simp only[RelL,V.ppL]at h ⊢;obtain⟨u,us,e,ha,hb⟩:=h;exact⟨u,us,e,Rel.ppV hR hm h1 c u ha,RelL.ppL hR hm h1 vs us hb⟩
end
end
def Ob.gL:Ob->Option (List PV)
 | .cells _ cs=>some cs
 | .mix _ vs=>V.pvs vs
 | .gro _ _=>none
 | .mp _ _=>none
 | .it _ _=>none
 | .fro _ _=>none
 | .mi _ _ _=>none
theorem St.iB{σ:St}{o:Ob}{cs:List PV}(id:Nat)(ho:σ.ob id=some o)(hc:o.gL=some cs):σ.le (σ.ppA id cs):=by
 rintro C n a w ⟨m,R,hw⟩;have hd:=hw.drop id;have sub:∀i x,upd m id none i=some x->m i=some x/\i≠id:=fun i x e=>by
  by_cases hi:i=id
  ·subst hi;rw[ay]at e;cases e
  ·rw[aM _ _ hi]at e;exact⟨e,hi⟩
 let R':Nat->Prop:=fun q=>R q\/∃N,m id=some (q,N)
 have hR:∀b,R b->R' b/\w.heap[b]? =w.heap[b]? :=fun b hb=>⟨.inl hb,O⟩
 have hcell:∀b N,m id=some (b,N)->∃us,RelPL w R' cs us/\q9 w R' b 0 us:=by
  intro b N hm;have hO:=hw.hr.obj id o b N ho hm;have fin:∀T (arr:Array Value),w.heap[b]? =some (.cells arr T (0,0))->RelPL w R cs (arr.toList.take cs.length)->∃us,RelPL w R' cs us/\q9 w R' b 0 us:=by
   intro T arr hb hr;refine⟨_,hr.mono hR,.inr ⟨N,hm⟩,?_⟩;intro j hj;simp only[Pj]at hj;rw[PJ,cell_of_row w b j arr T (0,0) hb,Pw,AT Ts];simp
  cases o with
  |cells T c=>simp only[Ob.gL,Pe]at hc;subst hc;obtain⟨arr,q1,_,_,q4⟩:=hO;exact fin T arr q1 q4
  |gro T c=>simp[Ob.gL]at hc
  |mp ks vs=>simp[Ob.gL]at hc
  |it s p=>simp[Ob.gL]at hc
  |fro s p=>simp[Ob.gL]at hc
  |mi c ks vs=>simp[Ob.gL]at hc
  | mix T c=>
    have e:=V.sJ hc;obtain⟨arr,q1,_,_,q4⟩:=hO;rw[e]at q4;simp only[Pg]at q4;exact fin T arr q1 (RelL.toP q4)
 have hlv:(m id).isSome=true:=by
  rw[hw.hr.dom,ho];cases o with
  |cells T c=>rfl
  |gro T c=>simp[Ob.gL]at hc
  |mp ks vs=>simp[Ob.gL]at hc
  |it s p=>simp[Ob.gL]at hc
  |fro s p=>simp[Ob.gL]at hc
  |mi c ks vs=>simp[Ob.gL]at hc
  |mix T c=>rfl
 have p1:∀q u,Rel w m σ.av R (.ptr id q) u->RelP w R' (.rp cs q) u:=by
  intro q u h;obtain⟨⟨b,N⟩,hm⟩:=PB.1 hlv;simp only[Rel]at h;obtain⟨us,hr,hsh⟩:=hcell b N hm;simp only[RelP];exact⟨b,0,us,by rw[PJ];exact h.2 b N hm,hr,hsh⟩
 have hsub:∀i x,upd m id none i=some x->m i=some x:=fun i x e=>(sub i x e).1
 have obn:∀i,(σ.ppA id cs).ob i=bif Nat.beq i id then none else(σ.ob i).map (Ob.ppO id cs):=fun _=>rfl
 have obs:(σ.ppA id cs).ob id=none:=by rw[obn];simp
 have obe:∀i,i≠id->(σ.ppA id cs).ob i=(σ.ob i).map (Ob.ppO id cs):=fun i hi=>by
  rw[obn];have:Nat.beq i id=false:=by cases hb:Nat.beq i id;rfl;exact absurd (aI hb) hi
  rw[this];rfl
 refine⟨upd m id none,R',⟨?_,?_,?_,hd.hr.inj,?_,?_,?_,fun q hq=> .inl (hw.hr.r0 q hq),hw.hr.frame,hd.hr.keep,hd.hr.res⟩,hw.df,hw.sz,?_⟩
 ·intro i;by_cases e:i=id
  ·subst e;rw[ay,obs];rfl
  ·rw[aM _ _ e,obe i e,FT];exact hw.hr.dom i
 ·intro i hi;by_cases e:i=id
  ·subst e;exact obs
  ·rw[obe i e,hw.hr.free i hi];rfl
 ·intro i o' b N h1 h2;obtain⟨h2',e⟩:=sub i _ h2;rw[obe i e]at h1;cases ho':σ.ob i with
  |none=>rw[ho']at h1;cases h1
  | some o2=>
    rw[ho']at h1;simp only[Ra,Pe]at h1;subst h1;have hO:=hw.hr.obj i o2 b N ho' h2';cases o2 with
    |cells T c=>obtain⟨arr,q1,q2,q3,q4⟩:=hO;exact⟨arr,q1,q2,q3,q4.mono hR⟩
    |gro T c=>obtain⟨arr,q1,q2,q3,q4⟩:=hO;exact⟨arr,q1,q2,q3,q4.mono hR⟩
    |mp ks vs=>obtain⟨es,clock,q1,q2,q3,q4⟩:=hO;exact⟨es,clock,q1,q2.mono hR,q3.mono hR,q4⟩
    |it s p=>exact hO
    |fro s p=>exact hO
    |mi c ks vs=>exact sy.mono hR O hO
    | mix T c=>
      obtain⟨arr,q1,q2,q3,q4⟩:=hO;refine⟨arr,q1,q2,by rw[lg];exact q3,?_⟩;rw[lg];exact q4.ppL hR hsub p1
 ·intro i b N h1;obtain⟨h2,h3,h4⟩:=hw.hr.own i b N (sub i _ h1).1;refine⟨h2,?_,h4⟩;rintro(h5|⟨N',h5⟩)
  ·exact h3 h5
  ·exact(sub i _ h1).2 (hw.hr.inj i id b N N' (sub i _ h1).1 h5)
 ·rintro q (hq|⟨N,hq⟩)
  ·exact hw.hr.rsz q hq
  ·exact(hw.hr.own id q N hq).1
 ·rintro q (hq|⟨N,hq⟩)
  ·exact hw.hr.rfr q hq
  ·rcases(hw.hr.own id q N hq).2.2 with h|h
   ·exact .inr (.inr h)
   ·exact .inr (.inl h)
 ·intro t ht;exact(hw.sl t ht).ppV hR hsub p1
def St.own(σ:St)(t id sz n:Nat)(T:TypeId)(cs:List PV):St:=⟨upd σ.sl t (.osl id sz n),obL [(id,some (.cells T cs))] σ.ob,σ.av⟩
theorem St.JU{σ:St}{id sz n:Nat}{T:TypeId}{cs:List PV}(t:Nat)(ht:σ.sl t= .gsl id sz n)(ho:σ.ob id=some (.gro T cs))(hn:0<n)(hc:cs≠[]):σ.le (σ.own t id sz n T cs):=by
 rintro C nn a w ⟨m,R,hw⟩;have hs:∀i,i≠id->obL [(id,some (Ob.cells T cs))] σ.ob i=σ.ob i:=fun i hi=>eC _ _ _ (by simpa using hi)
 have hi:obL [(id,some (Ob.cells T cs))] σ.ob id=some (.cells T cs):=by simp[obL]
 refine⟨m,R,⟨?_,?_,?_,hw.hr.inj,hw.hr.own,hw.hr.rsz,hw.hr.rfr,hw.hr.r0,hw.hr.frame,hw.hr.keep,hw.hr.res⟩,hw.df,hw.sz,?_⟩
 ·intro i;by_cases e:i=id
  ·subst e;rw[hw.hr.dom,ho];show _=bE (obL _ _ _);rw[hi];exact cL hc
  ·show _=bE (obL _ _ _);rw[hs i e];exact hw.hr.dom i
 ·intro i h;by_cases e:i=id
  ·subst e;have:=hw.hr.free i h;rw[ho]at this;cases this
  ·show obL _ _ _=none;rw[hs i e];exact hw.hr.free i h
 ·intro i o b N h1 h2;by_cases e:i=id
  ·subst e;have h1':obL [(i,some (Ob.cells T cs))] σ.ob i=some o:=h1;rw[hi]at h1';cases h1';have q:=hw.hr.obj i _ b N ho h2;exact q
  ·have h1':obL [(id,some (Ob.cells T cs))] σ.ob i=some o:=h1;rw[hs i e]at h1';exact hw.hr.obj i o b N h1' h2
 ·intro q hq;show Rel w m σ.av R (upd σ.sl t (.osl id sz n) q) _;by_cases e:q=t
  ·subst e;rw[ay];have:=hw.sl q hq;rw[ht]at this;simp only[Rel]at this ⊢;obtain⟨h0,A,c,he,h1,h2,h3,h4⟩:=this;refine⟨h0,fun b N hm=>⟨c,?_,h1,h2,(h4 hn b N hm).2⟩⟩;rw[he,(h4 hn b N hm).1]
  ·rw[aM _ _ e];exact hw.sl q hq
theorem OY{σ:St}{l:List (Nat×V)}{os:List (Nat×Ob)}(ids:List Nat)(hl:p7 σ (gR ids) l)(ho:ff σ (gR ids) os)(h1:l.all (fun p=>p.2.okA ids.length)=true)(h2:os.all (fun p=>(Nat.blt p.1 ids.length||Nat.ble big p.1)&&p.2.okA ids.length)=true)
  (hnd:ids.Nodup) (hbg:ids.all (fun i=>Nat.blt i big|| !(ax os i).isSome)=true):σ.le (mkS l os ids.length):=by
 rintro C n a w ⟨m,R,hw⟩;have key:∀i o,ax os i=some o->σ.ob (gR ids i)=some (o.ren (gR ids))/\(Nat.blt i ids.length||Nat.ble big i)=true/\o.okA ids.length=true:=by
  intro i o h;have hm:=bu h;have:=IN.1 h2 _ hm;simp only[sh]at this;exact⟨dV ho i o hm,this.1,this.2⟩
 let m2:Gm:=fun i=>if(ax os i).isSome then m (gR ids i)else none
 have sub:∀i x,m2 i=some x->m (gR ids i)=some x/\(Nat.blt i ids.length||Nat.ble big i)=true:=fun i x h=>by
  simp only[m2]at h;split at h
  ·rename_i hs;obtain⟨o,hoo⟩:=PB.1 hs;exact⟨h,(key i o hoo).2.1⟩
  ·cases h
 have subI:∀i x,m2 i=some x->(ax os i).isSome=true:=fun i x h=>by
  simp only[m2]at h;split at h
  ·rename_i hs;exact hs
  ·cases h
 have ρinj:∀i j,(Nat.blt i ids.length||Nat.ble big i)=true->(Nat.blt j ids.length||Nat.ble big j)=true->(ax os i).isSome=true->(ax os j).isSome=true->gR ids i=gR ids j->i=j:=by
  intro i j hi hj hli hlj e;have small:∀q,Nat.blt q ids.length=true->Nat.ble big q=false->∃h:q<ids.length,gR ids q=ids[q]/\(ids[q]<big\/(ax os ids[q]).isSome=false):=by
   intro q hq hb;have h:q<ids.length:=by simpa[Rp]using hq
   refine⟨h,by simp[gR,hb,Pk,h],?_⟩;have:=IN.1 hbg ids[q] (ar h);simpa[Rp]using this
  have large:∀q,Nat.ble big q=true->gR ids q=q:=fun q hq=>by simp[gR,hq]
  cases hbi:Nat.ble big i with
  | true=>
    cases hbj:Nat.ble big j with
    |true=>rw[large i hbi,large j hbj]at e;exact e
    | false=>
      rw[hbj,Q5]at hj;obtain⟨h,e2,h3⟩:=small j hj hbj;rw[large i hbi,e2]at e;have:=Pp hbi;rcases h3 with h3|h3
      ·omega
      ·rw[<-e,hli]at h3;cases h3
  | false=>
    rw[hbi,Q5]at hi;obtain⟨h,e1,h3⟩:=small i hi hbi;cases hbj:Nat.ble big j with
    | true=>
      rw[large j hbj,e1]at e;have:=Pp hbj;rcases h3 with h3|h3
      ·omega
      ·rw[e,hlj]at h3;cases h3
    | false=>
      rw[hbj,Q5]at hj;obtain⟨h',e2,h4⟩:=small j hj hbj;rw[e1,e2]at e;exact(List.getElem_inj hnd).1 e
 have um:∀i x,(Nat.blt i ids.length||Nat.ble big i)=true->m2 i=some x->m (gR ids i)=some x:=fun i x _ h=>(sub i x h).1
 have ua:∀i,(Nat.blt i ids.length||Nat.ble big i)=true->avK ids.length i=false:=fun i h=>ia h
 refine⟨m2,R,⟨?_,?_,?_,?_,?_,hw.hr.rsz,hw.hr.rfr,hw.hr.r0,hw.hr.frame,?_,fun i hi=>cA hi⟩,hw.df,hw.sz,?_⟩
 ·intro i;show(m2 i).isSome=bE (ax os i);simp only[m2];cases e:ax os i with
  |none=>rfl
  | some o=>
    have:=hw.hr.dom (gR ids i);rw[(key i o e).1]at this;simpa[bE,Ob.iF]using this
 ·intro i hi;show ax os i=none;cases e:ax os i with
  |none=>rfl
  | some o=>
    have h3:=ia (key i o e).2.1;have hi':avK ids.length i=true:=hi;rw[hi']at h3;cases h3
 ·intro i o b N h3 h4;have h5:=key i o h3;exact(hw.hr.obj _ _ b N h5.1 (sub _ _ h4).1).gl (gR ids) _ um ua (Ob.gT _ h5.2.2)
 ·intro i j b N N' e1 e2;exact ρinj i j (sub _ _ e1).2 (sub _ _ e2).2 (subI _ _ e1) (subI _ _ e2) (hw.hr.inj _ _ b N N' (sub _ _ e1).1 (sub _ _ e2).1)
 ·exact fun i b N e=>hw.hr.own _ b N (sub _ _ e).1
 ·intro i x hi e;have hb:Nat.ble big i=true:=RI hi;have e2:=(sub i x e).1;have:gR ids i=i:=by simp[gR,hb]
  rw[this]at e2;exact hw.hr.keep i x hi e2
 ·intro t ht;show Rel w m2 (avK ids.length) R (look l t) _;rcases ja hl t with e|e
  ·rw[e];simp only[Rel,RelP]
  ·have h3:=hw.sl t ht;rw[e]at h3;exact h3.gl (gR ids) _ um ua _ _ (V.gT _ _ (look_ok h1 t))
def fgs(f:Nat->V):List Nat->Nat->V
 |[]=>f
 |d::ds=>fgs (upd f d (.pv .any)) ds
def St.fgP(σ:St)(ds:List Nat)(p:Nat)(v:V):St:=⟨upd (fgs σ.sl ds) p v,σ.ob,σ.av⟩
def fEq(S:List Nat)(f g:Nat->V):Prop:=∀q,S.contains q=false->f q=g q
theorem fEq.refl{S:List Nat}{f:Nat->V}:fEq S f f:=fun _ _=>rfl
theorem OQ{S:List Nat}{f g:Nat->V}{d:Nat}{v:V}(h:fEq S f g)(hd:S.contains d=true):fEq S (upd f d v) g:=fun q hq=>by
 rw[aM _ _ (fun e=>by rw[e,hd]at hq;cases hq)];exact h q hq
theorem TD{S:List Nat}{f g:Nat->V}(h:fEq S f g:=by repeat first|with_reducible exact fEq.refl|refine OQ ?_ rfl):fEq S f g:=h
theorem CB:∀(ds:List Nat)(f:Nat->V)(q:Nat),ds.contains q=false->fgs f ds q=f q
 |[],_,_,_=>rfl
 | d::ds,f,q,h=>by
   simp only[List.contains_cons,PL,Ql]at h;simp only[fgs];rw[CB ds _ q h.2,aM _ _ h.1]
theorem Js:∀(ds:List Nat)(f:Nat->V)(q:Nat),(ds.contains q=true\/f q= .pv .any)->fgs f ds q= .pv .any
 |[],_,_,h=>by simp only[fgs];simpa using h
 | d::ds,f,q,h=>by
   simp only[fgs];apply Js ds;by_cases e:q=d
   ·subst e;exact .inr (ay _ _ _)
   ·rw[aM _ _ e];rcases h with h|h
    ·simp only[List.contains_cons,PQ,Rk]at h;exact .inl (h.resolve_left e)
    ·exact .inr h
theorem OW{σ s:St}{ds:List Nat}{p:Nat}{v:V}(h:fEq (p::ds) s.sl σ.sl)(hp:s.sl p=v)(ho:s.ob=σ.ob)(ha:s.av=σ.av):s.le (σ.fgP ds p v):=by
 rintro C n a w ⟨m,R,hw⟩;refine⟨m,R,⟨?_,hw.df,hw.sz,?_⟩⟩
 ·show HR C m R σ.ob σ.av w;rw[<-ho,<-ha];exact hw.hr
 ·intro t ht;show Rel w m σ.av R (upd (fgs σ.sl ds) p v t) _;rw[<-ha];by_cases e:t=p
  ·subst e;rw[ay,<-hp];exact hw.sl t ht
  ·rw[aM _ _ e];cases hd:ds.contains t with
   |true=>rw[Js ds _ t (.inl hd)];simp only[Rel,RelP]
   | false=>
     rw[CB ds _ t hd,<-h t (by simp only[List.contains_cons,hd,Q5,Ql];exact e)];exact hw.sl t ht
section
variable {C:Ctx}{n:Nat}{σ τ:St}{ops:Array Oper}
theorem RL.mono{K K':St->Prop}:∀{os:List Oper}{σ:St},RL C n ops os K σ->(∀s,K s->K' s)->RL C n ops os K' σ
 |[],_,h,hk=>hk _ h
 | o::os,σ,h,hk=>by
   simp only[RL]at h ⊢;cases hg:o.guard with
   |none=>rw[hg]at h;exact OJ.mono h fun s hs=>RL.mono hs hk
   | some jw=>
     obtain⟨j,want⟩:=jw;rw[hg]at h;obtain⟨b,h1,h2,h3⟩:=h;exact⟨b,h1,fun e=>OJ.mono (h2 e) fun s hs=>RL.mono hs hk,fun e a w hs=>(h3 e a w hs).imp fun s ⟨q,r⟩=>⟨RL.mono q hk,r⟩⟩
theorem RL.append{K:St->Prop}:∀{os os':List Oper}{σ:St},RL C n ops os (RL C n ops os' K) σ->RL C n ops (os++os') K σ
 |[],_,_,h=>h
 | o::os,os',σ,h=>by
   simp only[RL,Qq]at h ⊢;cases hg:o.guard with
   |none=>rw[hg]at h;exact OJ.mono h fun s hs=>RL.append hs
   | some jw=>
     obtain⟨j,want⟩:=jw;rw[hg]at h;obtain⟨b,h1,h2,h3⟩:=h;exact⟨b,h1,fun e=>OJ.mono (h2 e) fun s hs=>RL.append hs,fun e a w hs=>(h3 e a w hs).imp fun s ⟨q,r⟩=>⟨RL.append q,r⟩⟩
theorem OJ.weaken{o:Oper}{K:St->Prop}(hl:σ.le τ)(h:OJ C n o K τ):OJ C n o K σ:=fun a w Q hs=>h a w Q (hl C n a w hs)
def ah(K:St->Prop):Prop:=∀s t,s.le t->K t->K s
theorem RL.weaken{K:St->Prop}(hK:ah K):∀{os:List Oper},σ.le τ->RL C n ops os K τ->RL C n ops os K σ
 |[],hl,h=>hK _ _ hl h
 | o::os,hl,h=>by
   simp only[RL]at h ⊢;cases hg:o.guard with
   |none=>rw[hg]at h;exact OJ.weaken hl h
   | some jw=>
     obtain⟨j,want⟩:=jw;rw[hg]at h;obtain⟨b,h1,h2,h3⟩:=h;exact⟨b,fun a w hs=>h1 a w (hl C n a w hs),fun e=>OJ.weaken hl (h2 e),fun e a w hs=>h3 e a w (hl C n a w hs)⟩
theorem ah.le{τ:St}:ah (fun s=>s.le τ):=fun _ _ h k=>h.trans k
theorem ah.aw{c:Code}{Q:Exit->St->Prop}:ah (fun s=>AW C n c Q s):=fun _ _ h k=>OT h k
theorem Mj{f:Nat->V}{t:Nat}{v:V}(h:f t=v):upd f t v=f:=by
 funext q;by_cases hq:q=t
 ·subst hq;rw[ay,h]
 ·rw[aM _ _ hq]
theorem RL.ifB{os:List Oper}{K:St->Prop}{b:Bool}(v:Bool->V)(k t p:Nat)(ds:List Nat)(ht:σ.ev n (.tmp t)= .pv (.bool b))(hK:ah K)
  (h1:b=true->RL C n ops (os.take k) (fun s=>s.le (σ.fgP (t::ds) p (v true))) ⟨upd σ.sl t (.pv (.bool true)),σ.ob,σ.av⟩)
  (h2:b=false->RL C n ops (os.take k) (fun s=>s.le (σ.fgP (t::ds) p (v false))) ⟨upd σ.sl t (.pv (.bool false)),σ.ob,σ.av⟩)
  (h:RL C n ops (os.drop k) K (σ.fgP (t::ds) p (v b))):RL C n ops os K σ:=by
 have e:σ.sl t= .pv (.bool b):=by
  simp only[St.ev]at ht;cases hb:Nat.blt t n with
  |true=>rw[hb]at ht;simpa using ht
  |false=>rw[hb]at ht;simp at ht
 have key:(⟨upd σ.sl t (.pv (.bool b)),σ.ob,σ.av⟩:St)=σ:=by rw[Mj e]
 have e2:os=os.take k++os.drop k:=(PK k os).symm;rw[e2];apply RL.append;cases b with
 | true=>
   have:=h1 O;rw[key]at this;exact RL.mono this fun s hs=>RL.weaken hK hs h
 | false=>
   have:=h2 O;rw[key]at this;exact RL.mono this fun s hs=>RL.weaken hK hs h
theorem O3{os:List Oper}{K:St->Prop}{b e:Bool}(k t p:Nat)(ds:List Nat)(ht:σ.ev n (.tmp t)= .pv (.bool b))(hK:ah K)
  (h1:b=true->RL C n ops (os.take k) (fun s=>s.le (σ.fgP (t::ds) p (.pv (.bool e)))) ⟨upd σ.sl t (.pv (.bool true)),σ.ob,σ.av⟩)
  (h2:b=false->RL C n ops (os.take k) (fun s=>s.le (σ.fgP (t::ds) p (.pv (.bool false)))) ⟨upd σ.sl t (.pv (.bool false)),σ.ob,σ.av⟩)
  (h:RL C n ops (os.drop k) K (σ.fgP (t::ds) p (.pv (.bool (b&&e))))):RL C n ops os K σ:=
 RL.ifB (fun b=> .pv (.bool (b&&e))) k t p ds ht hK h1 h2 h
theorem O2{os:List Oper}{K:St->Prop}{b e:Bool}(k t p:Nat)(ds:List Nat)(ht:σ.ev n (.tmp t)= .pv (.bool b))(hK:ah K)
  (h1:b=true->RL C n ops (os.take k) (fun s=>s.le (σ.fgP (t::ds) p (.pv (.bool true)))) ⟨upd σ.sl t (.pv (.bool true)),σ.ob,σ.av⟩)
  (h2:b=false->RL C n ops (os.take k) (fun s=>s.le (σ.fgP (t::ds) p (.pv (.bool e)))) ⟨upd σ.sl t (.pv (.bool false)),σ.ob,σ.av⟩)
  (h:RL C n ops (os.drop k) K (σ.fgP (t::ds) p (.pv (.bool (b||e))))):RL C n ops os K σ:=
 RL.ifB (fun b=> .pv (.bool (b||e))) k t p ds ht hK h1 h2 h
end
end
def PV.fg2:PV->PV
 | .tup cs=> .tup (PV.fgA cs)
 |p=>p.fg
theorem RelP.fg2{w:World}{R:Nat->Prop}{p:PV}{u:Value}(h:RelP w R p u):RelP w R p.fg2 u:=by
 cases p with
 | tup cs=>
   simp only[RelP,PV.fg2]at h ⊢;obtain⟨us,e,h⟩:=h;exact⟨us,e,h.fgA⟩
 |_=>exact h.fg
theorem FnP.fg2{P:Program}{f:FuncId}{args:List PV}{Q:PV->Prop}(h:FnP P f args (fun v=>Q v.fg2)):FnP P f args Q:=
 fun w R us h0 h1 h2=>(h w R us h0 h1 h2).mono fun _ _ ⟨u,v,e,q,b,r⟩=>⟨u,v.fg2,e,q,b,r.fg2⟩
section
section
variable {C:Ctx}{n:Nat}{σ:St}{dst:Option Tmp}{ty:TypeId}{pos:String}{after:Array Edge}{gd:Option (Nat×Bool)}{x:Operand}
theorem XJ.LU{o:Oper}{v v':V}{wr:List (Nat×Option Ob)}{nw:List Nat}(h:XJ C n o σ ⟨v,wr,nw⟩)(hv:∀w m av R u,Rel w m av R v u->Rel w m av R v' u):XJ C n o σ ⟨v',wr,nw⟩:=by
 intro a w Q hs;refine Oper.wp_mono ?_ (h a w Q hs);rintro a' w' ⟨σ',rfl,m,R,hsw⟩;refine⟨_,O,m,R,?_⟩;refine⟨hsw.hr,hsw.df,hsw.sz,fun t ht=>?_⟩;have hr:=hsw.sl t ht;cases hd:o.dst with
 |none=>simpa only[St.app,hd]using hr
 | some d=>
   simp only[St.app,hd]at hr ⊢;by_cases e:t=d
   ·subst e;rw[ay]at hr ⊢; exact hv _ _ _ _ _ hr
   ·rw[aM _ _ e]at hr ⊢; exact hr
theorem Rel.plain{w:World}{m:Gm}{av:Av}{R:Nat->Prop}{ps:List PV}{u:Value}(h:Rel w m av R (.agg (ps.map .pv)) u):Rel w m av R (.pv (.agg ps)) u:=by
 simp only[Rel,RelP]at h ⊢;obtain⟨us,e,h⟩:=h;exact⟨us,e,h.toP⟩
variable {y:Operand}
end
end
section
inductive TK where
 |int (k:IntKind)
 |bool
 |str
 |sl (e:TypeId)
 |st (pl:List (Nat×Nat))
 |arr (len:Nat) (e:TypeId)
 |other
structure TI where
 k:TK
 size:Nat
 bytes:Nat
 zero:Option (List PV)
inductive TT where
 |nil
 |node (t:Nat) (i:TI) (l r:TT)
def TT.get:TT->Nat->Option TI
 | .nil,_=>none
 | .node t i l r,x=>bif Nat.beq x t then some i else bif Nat.blt x t then l.get x else r.get x
def TT.all(f:Nat->TI->Bool):TT->Bool
 | .nil=>true
 | .node t i l r=>f t i&&(l.all f&&r.all f)
theorem TT.wo{f:Nat->TI->Bool}:∀{tt:TT},tt.all f=true->∀{x:Nat}{i:TI},tt.get x=some i->f x i=true
 | .nil,_,x,i,h=>by simp[TT.get]at h
 | .node t j l r,ha,x,i,h=>by
   simp only[TT.all,sh]at ha;simp only[TT.get]at h;cases hb:Nat.beq x t with
   | true=>
     rw[hb]at h;simp at h;have:=aI hb;subst this h;exact ha.1
   | false=>
     rw[hb]at h;cases hc:Nat.blt x t with
     |true=>rw[hc]at h;exact wo ha.2.1 (by simpa using h)
     |false=>rw[hc]at h;exact wo ha.2.2 (by simpa using h)
def kEq:IntKind->IntKind->Bool
 | .i8,.i8| .i16,.i16| .i32,.i32| .i64,.i64| .u8,.u8| .u16,.u16| .u32,.u32| .u64,.u64=>true
 |_,_=>false
theorem dL{a b:IntKind}(h:kEq a b=true):a=b:=by cases a<;>cases b<;>first|rfl|(simp[kEq]at h)
def TK.row:TK->Bool
 | .st _| .arr _ _=>true
 |_=>false
def zpB:PV->PV->Bool
 | .int k i,.int k' j=>kEq k k'&&decide (i=j)
 | .bool a,.bool b=>a==b
 | .str a,.str b=>Nat.beq a.size 0&&Nat.beq b.size 0
 | .sl (some true) 0 [],.sl (some true) 0 []=>true
 | .nilptr,.nilptr=>true
 | .nilmap,.nilmap=>true
 | .nilfn,.nilfn=>true
 | .niliface,.niliface=>true
 |_,_=>false
theorem size0{a b:ByteArray}(h1:a.size=0)(h2:b.size=0):a=b:=by
 have e1:=ByteArray.size_eq_zero_iff.1 h1;have e2:=ByteArray.size_eq_zero_iff.1 h2;rw[e1,e2]
theorem Nc{a b:PV}(h:zpB a b=true):a=b:=by
 unfold zpB at h;split at h<;>first|rfl|(cases h;done)|skip
 ·simp only[sh,Po]at h;rw[dL h.1,h.2]
 ·rw[Rk.1 h]
 ·simp only[sh]at h;rw[size0 (aI h.1) (aI h.2)]
def zlB:List PV->List PV->Bool
 |[],[]=>true
 |a::l,b::m=>zpB a b&&zlB l m
 |_,_=>false
theorem JG:∀{l m:List PV},zlB l m=true->l=m
 |[],[],_=>rfl
 | a::l,b::m,h=>by
   simp only[zlB,sh]at h;rw[Nc h.1,JG h.2]
 |[],_::_,h=>by simp[zlB]at h
 |_::_,[],h=>by simp[zlB]at h
def plB:List (Nat×Nat)->List (Nat×Nat)->Bool
 |[],[]=>true
 |(a,b)::l,(c,d)::m=>Nat.beq a c&&Nat.beq b d&&plB l m
 |_,_=>false
theorem Jv:∀{l m:List (Nat×Nat)},plB l m=true->l=m
 |[],[],_=>rfl
 | (a,b)::l,(c,d)::m,h=>by
   simp only[plB,sh]at h;rw[aI h.1.1,aI h.1.2,Jv h.2]
 |[],_::_,h=>by simp[plB]at h
 |_::_,[],h=>by simp[plB]at h
def oY(P:Program)(t:TypeId):TK->TypeDesc->Bool
 | .int k,.int k'=>kEq k k'
 | .bool,.bool=>true
 | .str,.string=>true
 | .sl e,.slice e'=>Nat.beq e e'
 | .st pl,.struct _=>(match placesOf P t with|some pl'=>plB pl pl'|none=>false)
 | .arr m e,.array m' e'=>Nat.beq m m'&&Nat.beq e e'
 | .other,d=> !d.isRow
 |_,_=>false
def zeroB:Option (List PV)->Option Value->Bool
 |none,_=>true
 |some zs,some z=>zlB (z.cells.toList.map fb) zs
 |some _,none=>false
def KV(P:Program)(t:TypeId)(i:TI):Bool:=
 match P.info? t,P.underlying t with
 |some inf,some d=>Nat.beq inf.size i.size&&(Nat.beq inf.bytes i.bytes&&(zeroB i.zero inf.zero&&oY P t i.k d))
 |_,_=>false
structure TGood(P:Program)(t:TypeId)(i:TI):Prop where
 size:bQ P t i.size
 kind:∃d,P.underlying t=some d/\oY P t i.k d=true
 zero:∀zs,i.zero=some zs->∃z,(P.info? t).map (fun i=>(i.zero,i.size,i.bytes))=some (some z,i.size,i.bytes)/\z.cells.toList.map fb=zs
theorem IL{P:Program}{t:TypeId}{i:TI}(h:KV P t i=true):TGood P t i:=by
 unfold KV at h;split at h
 ·rename_i inf d h1 h2;simp only[sh]at h;have e1:=aI h.1;have e2:=aI h.2.1;refine⟨by unfold bQ;rw[h1,<-e1];rfl,⟨d,h2,h.2.2.2⟩,fun zs hz=>?_⟩;have h3:=h.2.2.1;rw[hz]at h3;cases hq:inf.zero with
  |none=>rw[hq]at h3;cases h3
  |some z=>rw[hq]at h3;exact⟨z,by rw[h1,<-e1,<-e2,<-hq];rfl,JG h3⟩
 ·cases h
structure TT.Ok(P:Program)(tt:TT):Prop where
 go:∀{t i},tt.get t=some i->TGood P t i
theorem TT.ok_of{P:Program}{tt:TT}(h:tt.all (KV P)=true):tt.Ok P:=⟨fun e=>IL (TT.wo h e)⟩
section
variable {P:Program}{t:TypeId}{i:TI}
theorem TGood.int(h:TGood P t i){k:IntKind}(e:i.k= .int k):P.underlying t=some (.int k):=by
 obtain⟨d,h1,h2⟩:=h.kind;rw[e]at h2;cases d<;>simp[oY]at h2;rw[h1,dL h2]
theorem TGood.bool(h:TGood P t i)(e:i.k= .bool):P.underlying t=some .bool:=by
 obtain⟨d,h1,h2⟩:=h.kind;rw[e]at h2;cases d<;>simp[oY]at h2;exact h1
theorem TGood.str(h:TGood P t i)(e:i.k= .str):P.underlying t=some .string:=by
 obtain⟨d,h1,h2⟩:=h.kind;rw[e]at h2;cases d<;>simp[oY]at h2;exact h1
theorem TGood.sl(h:TGood P t i){el:TypeId}(e:i.k= .sl el):P.underlying t=some (.slice el):=by
 obtain⟨d,h1,h2⟩:=h.kind;rw[e]at h2;cases d<;>simp[oY]at h2;rw[h1,h2]
theorem TGood.arr(h:TGood P t i){m:Nat}{el:TypeId}(e:i.k= .arr m el):P.underlying t=some (.array m el):=by
 obtain⟨d,h1,h2⟩:=h.kind;rw[e]at h2;cases d<;>simp[oY]at h2;rw[h1,h2.1,h2.2]
theorem TGood.st(h:TGood P t i){pl:List (Nat×Nat)}(e:i.k= .st pl):placesOf P t=some pl:=by
 obtain⟨d,h1,h2⟩:=h.kind;rw[e]at h2;cases d<;>simp[oY]at h2;cases hp:placesOf P t with
 |none=>rw[hp]at h2;cases h2
 |some pl'=>rw[hp]at h2;rw[Jv h2]
theorem TGood.isRow(h:TGood P t i)(e:i.k.row=true):isRow P t:=by
 obtain⟨d,h1,h2⟩:=h.kind;refine⟨d,h1,?_⟩;cases hk:i.k<;>rw[hk]at e h2<;>simp[TK.row]at e<;>cases d<;>simp[oY]at h2<;>rfl
theorem TGood.fl(h:TGood P t i)(e:i.k.row=false):fl P t:=by
 obtain⟨d,h1,h2⟩:=h.kind;refine⟨d,h1,?_⟩;cases hk:i.k<;>rw[hk]at e h2<;>simp[TK.row]at e<;>cases d<;>simp[oY]at h2<;>first|rfl|exact h2
theorem TGood.fj(h:TGood P t i){pl:List (Nat×Nat)}(e:i.k= .st pl){j o s:Nat}(hj:pl[j]? =some (o,s))(hs:Nat.beq s 0=false):fj P t j=some o:=by
 have hp:=h.st e;unfold placesOf at hp;unfold Go.Proofs.YtoplpepiabedhaaGreatDoor.fj;split at hp
 ·rename_i fs hu;try rw[hu]
  have key:∀(l:List Field)(pl:List (Nat×Nat))(j:Nat),(l.mapM fun f=>(P.info? f.type).map fun i=>(f.offset,i.size))=some pl->pl[j]? =some (o,s)->∃f,l[j]? =some f/\f.offset=o/\∃inf,P.info? f.type=some inf/\inf.size=s:=by
   intro l;induction l with
   |nil=>intro pl j h1 h2;simp at h1;subst h1;simp at h2
   | cons f l ih=>
     intro pl j h1 h2;simp only[List.mapM_cons,Option.bind_eq_bind,Option.bind_eq_some_iff,Option.pure_def,Pe]at h1;obtain⟨a,ha,pl',hpl,rfl⟩:=h1;cases j with
     | zero=>
       simp only[List.getElem?_cons_zero,Pe]at h2;subst h2;cases hi:P.info? f.type with
       |none=>rw[hi]at ha;cases ha
       |some inf=>rw[hi]at ha;simp at ha;exact⟨f,O,ha.1,inf,hi,ha.2⟩
     |succ j=>exact(ih pl' j hpl (by simpa using h2)).imp fun f hf=>by simpa using hf
  obtain⟨f,hf,ho,inf,hi,hsz⟩:=key fs.toList pl j hp hj;have hf':fs[j]? =some f:=by simpa using hf
  simp only[hf',hi,ho,hsz,hs,PE]
 ·cases hp
end
structure AO where
 s:OS
 rd:List Nat
 φ:Prop
abbrev AO.val(v:V):Option AO:=some ⟨⟨v,[],[]⟩,[],True⟩
def hdV{α:Type}(v:V)(f:V->α):α:=
 match v with
 | .pv p=>f (.pv p)
 | .ptr a b=>f (.ptr a b)
 | .osl a b c=>f (.osl a b c)
 | .tsl a b c=>f (.tsl a b c)
 | .gsl a b c=>f (.gsl a b c)
 | .map a=>f (.map a)
 | .agg l=>f (.agg l)
 | .tup l=>f (.tup l)
 | .fn a b c=>f (.fn a b c)
theorem jg{α:Type}(v:V)(f:V->α):hdV v f=f v:=by cases v<;>rfl
def hdL{α:Type}:List V->(List V->α)->α
 |[],f=>f []
 |v::l,f=>hdV v fun v=>hdL l fun l=>f (v::l)
theorem ix{α:Type}:∀(l:List V)(f:List V->α),hdL l f=f l
 |[],_=>rfl
 |v::l,f=>by simp only[hdL,jg,ix l]
def NM(vs:List V):V:=match V.pvs vs with
 |some ps=> .pv (.agg ps)
 |none=> .agg vs
variable (tt:TT)(ev:Operand->V)(ob:Nat->Option Ob)(id:Nat)
omit tt ev ob id in
def LC(op:BinOp)(k:IntKind)(i j:Int):Option AO:=
 match op with
 | .add=>bif kEq k .i64 then some ⟨⟨.pv (.int .i64 (i+j)),[],[]⟩,[], -9223372036854775808<=i+j/\i+j<=9223372036854775807⟩else AO.val (.pv (.int k (k.wrap (i+j))))
 | .sub=>bif kEq k .i64 then some ⟨⟨.pv (.int .i64 (i-j)),[],[]⟩,[], -9223372036854775808<=i-j/\i-j<=9223372036854775807⟩else AO.val (.pv (.int k (k.wrap (i-j))))
 | .mul=>bif kEq k .i64 then some ⟨⟨.pv (.int .i64 (i*j)),[],[]⟩,[], -9223372036854775808<=i*j/\i*j<=9223372036854775807⟩else AO.val (.pv (.int k (k.wrap (i*j))))
 | .quo=>some ⟨⟨.pv (.int k (k.wrap (i.tdiv j))),[],[]⟩,[],j≠0⟩
 | .rem=>some ⟨⟨.pv (.int k (i.tmod j)),[],[]⟩,[],j≠0⟩
 | .shl=>none
 | .shr=>none
 |op=>match tD op k i j with|some p=>AO.val (.pv p)|none=>none
omit tt ev ob id in
def E4(op:BinOp)(k:IntKind)(i j:Int):Option AO:=
 match op,k with
 | .add,.u64=>match i,j with
   | .ofNat a,.ofNat b=>some ⟨⟨.pv (.int .u64 ((a+b:Nat):Int)),[],[]⟩,[],a+b<18446744073709551616⟩
   |_,_=>none
 | .sub,.u64=>match i,j with
   | .ofNat a,.ofNat b=>some ⟨⟨.pv (.int .u64 ((a-b:Nat):Int)),[],[]⟩,[],b<=a/\a<18446744073709551616⟩
   |_,_=>none
 | .mul,.u64=>match i,j with
   | .ofNat a,.ofNat b=>some ⟨⟨.pv (.int .u64 ((a*b:Nat):Int)),[],[]⟩,[],a*b<18446744073709551616⟩
   |_,_=>none
 | .quo,.u64=>match i,j with
   | .ofNat a,.ofNat b=>some ⟨⟨.pv (.int .u64 ((a/b:Nat):Int)),[],[]⟩,[],0<b/\a<18446744073709551616⟩
   |_,_=>none
 | .rem,.u64=>match i,j with
   | .ofNat a,.ofNat b=>some ⟨⟨.pv (.int .u64 ((a%b:Nat):Int)),[],[]⟩,[],0<b⟩
   |_,_=>none
 |op,k=>LC op k i j
def LZ(op:BinOp)(t:TypeId)(x y:Operand):Option AO:=
 match ev x,ev y with
 | .pv (.int k i),.pv (.int k' j)=>bif kEq k k' then E4 op k i j else none
 | .pv (.str a),.pv (.str b)=>match op with
   | .add=>some ⟨⟨.pv (.str (a++b)),[],[]⟩,[],a.size+b.size<=9223372036854775807⟩
   |op=>match binS op a b with|some p=>AO.val (.pv p)|none=>none
 | .pv (.bool a),.pv (.bool b)=>match tt.get t with
   | some ti=>match ti.k,op with
     | .bool,.eql=>AO.val (.pv (.bool (a==b)))
     | .bool,.neq=>AO.val (.pv (.bool (a !=b)))
     |_,_=>none
   |none=>none
 | .pv (.sl (some b) _ _),.pv (.sl (some true) 0 [])=>match y with
   | .const (.slice none 0 0)=>match tt.get t with
     | some ti=>match ti.k,op with
       | .sl _,.eql=>AO.val (.pv (.bool b))
       | .sl _,.neq=>AO.val (.pv (.bool (!b)))
       |_,_=>none
     |none=>none
   |_=>none
 |_,_=>none
def aoUn(op:UnOp)(x:Operand):Option AO:=
 match op,ev x with
 | .not,.pv (.bool b)=>AO.val (.pv (.bool (!b)))
 | .neg,.pv (.int .i64 i)=>some ⟨⟨.pv (.int .i64 (-i)),[],[]⟩,[], -9223372036854775807<=i/\i<=9223372036854775807⟩
 |_,_=>none
def Et(src d:TypeId)(x:Operand):Option AO:=
 match ev x,tt.get src,tt.get d with
 | .pv (.int _ i),some _,some td=>match td.k with
   | .int k'=>AO.val (.pv (.int k' (k'.wrap i)))
   |_=>none
 | .pv (.str s),some _,some td=>match td.k with
   | .sl e=>match tt.get e with
     | some te=>match te.k with
       | .int .u8=>some ⟨⟨.pv (.sl (some false) s.size (aN s.data.toList)),[],[]⟩,[],s.size<=9223372036854775807⟩
       |_=>none
     |none=>none
   |_=>none
 |_,_,_=>none
def Lt(x:Operand)(i:Nat):Option AO:=
 match ev x with
 | .pv (.tup ps)=>match ps[i]? with|some p=>AO.val (.pv p)|none=>none
 | .tup vs=>match vs[i]? with|some v=>hdV v AO.val|none=>none
 |_=>none
def Mu(T:TypeId)(x:Operand):Option AO:=
 hdV (ev x) fun v=>match v with
  | .pv _| .agg _=>hdL v.cells fun cs=>bif cs.all V.leaf then some ⟨⟨.ptr id 0,[(id,some (.mix T cs))],[id]⟩,[],True⟩else none
  | .ptr i o=>bif bE (ob i)then some ⟨⟨.ptr id 0,[(id,some (.mix T [.ptr i o]))],[id]⟩,[i],True⟩else none
  | .osl i s k=>bif bE (ob i)then some ⟨⟨.ptr id 0,[(id,some (.mix T [.osl i s k]))],[id]⟩,[i],True⟩else none
  | .map i=>bif bE (ob i)then some ⟨⟨.ptr id 0,[(id,some (.mix T [.map i]))],[id]⟩,[i],True⟩else none
  | .gsl i s k=>some ⟨⟨.ptr id 0,[(id,some (.mix T [.gsl i s k]))],[id]⟩,[],True⟩
  | .fn f a b=>some ⟨⟨.ptr id 0,[(id,some (.mix T [.fn f a b]))],[id]⟩,[],True⟩
  | .tup _=>none
  | .tsl _ _ _=>none
def vt(T:TypeId):Option AO:=
 match tt.get T with
 | some ti=>match ti.zero with
   |some zs=>hdL (zs.map .pv) fun cs=>some ⟨⟨.ptr id 0,[(id,some (.mix T cs))],[id]⟩,[],True⟩
   |none=>none
 |none=>none
def MG(x:Operand):Option AO:=
 match ev x with
 | .ptr i off=>bif bE (ob i)then some ⟨⟨.ptr i off,[],[]⟩,[i],True⟩else none
 | .pv (.rp cs off)=>AO.val (.pv (.rp cs off))
 |_=>none
def Er(T:TypeId)(x:Operand):Option AO:=
 match tt.get T with
 |none=>none
 | some ti=>match ev x with
   | .ptr i off=>match ob i with
     | some (.mix _ cs)=>bif ti.k.row then hdL ((cs.drop off).take ti.size) fun vs=>bif Nat.beq vs.length ti.size then hdV (NM vs) fun v=>some ⟨⟨v,[],[]⟩,[i],True⟩else none
       else match cs[off]? with|some v=>hdV v fun v=>some ⟨⟨v,[],[]⟩,[i],True⟩|none=>none
     |some (.cells _ cs)=>bif ti.k.row then none else match cs[off]? with|some p=>some ⟨⟨.pv p,[],[]⟩,[i],True⟩|none=>none
     |_=>none
   | .pv (.rp cs off)=>bif ti.k.row then bif Nat.beq ((cs.drop off).take ti.size).length ti.size then AO.val (.pv (.agg ((cs.drop off).take ti.size)))else none
     else match cs[off]? with|some p=>AO.val (.pv p)|none=>none
   |_=>none
def V.id1:V->List Nat
 | .ptr i _=>[i]
 | .osl i _ _=>[i]
 | .map i=>[i]
 |_=>[]
def V.ids:V->List Nat
 | .pv _=>[]
 | .agg cs=>cs.flatMap V.id1
 |v=>v.id1
def vP(dst:Option Tmp)(T:TypeId)(x y:Operand):Option AO:=
 match dst,tt.get T,ev x with
 | none,some ti,.ptr i off=>match ob i with
   | some (.mix T' cs)=>hdV (ev y) fun v=>hdL v.cells fun vc=>
     bif Nat.beq vc.length ti.size&&(Nat.ble (off+ti.size) cs.length&&(vc.all (fun c=>c.leaf&&c.bX ob)&&v.bX ob))then
      hdL (fy cs off vc) fun l=>some ⟨⟨.pv .any,[(i,some (.mix T' l))],[]⟩,i::v.ids,True⟩
     else none
   | some (.cells T' cs)=>match ev y with
     | .pv v=>bif Nat.beq ti.size 1&&v.leaf then some ⟨⟨.pv .any,[(i,some (.cells T' (cs.set off v)))],[]⟩,[i],off<cs.length⟩else none
     |_=>none
   |_=>none
 |_,_,_=>none
def vp(s:TypeId)(x:Operand)(j:Nat):Option AO:=
 match tt.get s with
 |none=>none
 | some ti=>match ti.k with
   | .st pl=>match pl[j]? with
     | some (o,q)=>bif Nat.beq q 0 then none else match ev x with
       | .ptr i off=>bif bE (ob i)then some ⟨⟨.ptr i (off+o),[],[]⟩,[i],True⟩else none
       | .pv (.rp cs off)=>AO.val (.pv (.rp cs (off+o)))
       |_=>none
     |none=>none
   |_=>none
def wc(T:TypeId)(x y:Operand):Option AO:=
 match tt.get T with
 |none=>none
 | some ti=>match ti.k with
   | .sl e=>match tt.get e with
     |none=>none
     | some ⟨_,sz,by_,zr⟩=>match ev y with
       | .pv (.int _ (.ofNat j))=>match ev x with
         | .pv (.sl _ k cs)=>some ⟨⟨.pv (.rp cs (j*sz)),[],[]⟩,[],j<k/\cs≠[]⟩
         | .osl i _ k=>bif bE (ob i)then some ⟨⟨.ptr i (j*sz),[],[]⟩,[i],j<k⟩else none
         |_=>none
       |_=>none
   |_=>none
def CZ:Operand->Operand->Bool
 | .tmp a,.tmp b=>Nat.beq a b
 | .const (.int k a),.const (.int k' b)=>kEq k k'&&decide (a=b)
 |_,_=>false
omit tt ev ob id in
theorem D4{x y:Operand}(h:CZ x y=true):x=y:=by
 unfold CZ at h;split at h
 ·rw[aI h]
 ·simp only[sh,Po]at h;rw[dL h.1,h.2]
 ·cases h
def DN(T:TypeId)(x y:Operand):Option AO:=
 match tt.get T with
 |none=>none
 | some ti=>match ti.k with
   | .sl e=>match tt.get e with
     |none=>none
     | some ⟨_,sz,by_,zr⟩=>match zr,ev x with
       |some zs,.pv (.int _ (.ofNat k))=>bif CZ x y&&(Nat.beq zs.length sz&&(Nat.blt 0 sz&&Nat.ble by_ 1000))then some ⟨⟨.osl id sz k,[(id,some (.cells e (mkZ zs (k*sz))))],[id]⟩,[],k<=1000000000⟩else none
       |_,_=>none
   |_=>none
def qx(T:TypeId)(k:Nat)(parts:List (Nat×Operand)):Option AO:=
 match tt.get T with
 |none=>none
 | some ti=>match ti.k with
   | .sl e=>match tt.get e with
     |none=>none
     | some ⟨_,sz,by_,zr⟩=>match zr with
       | some zs=>bif Nat.beq zs.length sz&&(Nat.blt 0 sz&&(Nat.ble by_ 1000&&(Nat.blt 0 k&&Nat.ble (k*sz) 16777216)))then
         match dS (fun i=>some (i*sz,sz)) ob ((mkZ zs (k*sz)).map .pv) (parts.map fun p=>(p.1,ev p.2))with
         | some vs=>match V.pvs vs with
           |some cs=>some ⟨⟨.osl id sz k,[(id,some (.cells e cs))],[id]⟩,parts.flatMap fun p=>(ev p.2).ids,True⟩
           |none=>none
         |none=>none
         else none
       |none=>none
   |_=>none
def wO(T:TypeId)(parts:List (Nat×Operand)):Option AO:=
 match tt.get T with
 |none=>none
 | some ti=>match ti.zero,ti.k with
   | some zs,.st pl=>match dS (yr pl) ob (zs.map .pv) (parts.map fun p=>(p.1,ev p.2))with
     |some vs=>hdL vs fun vs=>hdV (NM vs) fun v=>some ⟨⟨v,[],[]⟩,parts.flatMap fun p=>(ev p.2).ids,True⟩
     |none=>none
   | some zs,.arr _ e=>match tt.get e with
     | some te=>match dS (fun i=>some (i*te.size,te.size)) ob (zs.map .pv) (parts.map fun p=>(p.1,ev p.2))with
       |some vs=>hdL vs fun vs=>hdV (NM vs) fun v=>some ⟨⟨v,[],[]⟩,parts.flatMap fun p=>(ev p.2).ids,True⟩
       |none=>none
     |none=>none
   |_,_=>none
def LA(t:TypeId)(x:Operand):Option AO:=
 match tt.get t with
 |none=>none
 | some ti=>match ti.k,ev x with
   | .str,.pv (.str s)=>AO.val (.pv (.int .i64 s.size))
   | .sl _,.pv (.sl _ k _)=>AO.val (.pv (.int .i64 k))
   | .sl _,.osl i _ k=>bif bE (ob i)then some ⟨⟨.pv (.int .i64 k),[],[]⟩,[i],True⟩else none
   | .sl _,.gsl _ _ k=>AO.val (.pv (.int .i64 k))
   |_,_=>none
def Kc(t t':TypeId)(x y:Operand):Option AO:=
 match tt.get t with
 |none=>none
 | some ti=>match ti.k with
   | .sl e=>match tt.get e with
     |none=>none
     | some ⟨_,sz,by_,zr⟩=>match zr with
       | some zs=>bif Nat.beq t t'&&(Nat.beq zs.length sz&&(Nat.blt 0 sz&&Nat.ble by_ 1000))then
         match ev y with
         | .osl i2 s2 1=>match ob i2 with
           | some (.cells _ news)=>bif Nat.beq s2 sz&&(Nat.beq news.length sz&&news.all PV.leaf)then
             match ev x with
             | .osl i s k=>match ob i with
               |some (.cells e' cs)=>bif Nat.beq e' e&&Nat.beq s sz then some ⟨⟨.osl id sz (k+1),[(id,some (.cells e (cs++news))),(i,none)],[id]⟩,[i,i2],cs.length=k*sz/\k+1<=1000000000⟩else none
               |_=>none
             | .gsl i s k=>match ob i with
               |some (.gro e' cs)=>bif Nat.beq e' e&&Nat.beq s sz then some ⟨⟨.gsl id sz (k+1),[(id,some (.gro e (cs++news))),(i,none)],[id]⟩,[i,i2],cs.length=k*sz/\k+1<=1000000000⟩else none
               |_=>none
             | .pv (.sl (some true) 0 [])=>some ⟨⟨.osl id sz 1,[(id,some (.cells e news))],[id]⟩,[i2],True⟩
             |_=>none
             else none
           |_=>none
         |_=>none
         else none
       |none=>none
   |_=>none
def wL(T:TypeId)(x:Operand)(lo hi:Option Operand):Option AO:=
 match tt.get T with
 |none=>none
 | some ti=>match ti.k,ev x with
   | .str,.pv (.str z)=>match lo,hi with
     | none,some y=>match ev y with
       | .pv (.int _ (.ofNat h))=>some ⟨⟨.pv (.str (z.extract 0 h)),[],[]⟩,[],h<=z.size⟩
       |_=>none
     | some y,none=>match ev y with
       | .pv (.int _ (.ofNat l))=>some ⟨⟨.pv (.str (z.extract l z.size)),[],[]⟩,[],l<=z.size⟩
       |_=>none
     | some y,some y'=>match ev y,ev y' with
       | .pv (.int _ (.ofNat l)),.pv (.int _ (.ofNat h))=>some ⟨⟨.pv (.str (z.extract l h)),[],[]⟩,[],l<=h/\h<=z.size⟩
       |_,_=>none
     |none,none=>none
   | .sl e,.pv (.sl b k cs)=>match tt.get e with
     |none=>none
     | some ⟨_,sz,by_,zr⟩=>match lo,hi with
       | none,some y=>match ev y with
         | .pv (.int _ (.ofNat h))=>some ⟨⟨.pv (.sl b h (cs.take (h*sz))),[],[]⟩,[],h<=k/\cs.length=k*sz⟩
         |_=>none
       | some y,none=>match ev y with
         | .pv (.int _ (.ofNat l))=>some ⟨⟨.pv (.sl b (k-l) (cs.drop (l*sz))),[],[]⟩,[],l<=k/\cs.length=k*sz⟩
         |_=>none
       |_,_=>none
   |_,_=>none
def Ev(c:Call):Option AO:=
 match c.callee,c.args.toList,c.argTypes.toList with
 | .builtin .len,[x],[t]=>LA tt ev ob t x
 | .builtin .append,[x,y],[t,t']=>Kc tt ev ob id t t' x y
 | .builtin .max,[x,y],[_,_]=>match ev x,ev y with
   | .pv (.int k i),.pv (.int k' j)=>bif kEq k k' then AO.val (.pv (.int k (if j>i then j else i)))else none
   |_,_=>none
 | .builtin .min,[x,y],[_,_]=>match ev x,ev y with
   | .pv (.int k i),.pv (.int k' j)=>bif kEq k k' then AO.val (.pv (.int k (if j<i then j else i)))else none
   |_,_=>none
 |_,_,_=>none
def auto(dst:Option Tmp):Op->Option AO
 | .move x=>hdV (ev x) AO.val
 | .assign x=>hdV (ev x) AO.val
 | .pick c x y=>match ev c with| .pv (.bool b)=>AO.val (bif b then ev x else ev y)|_=>none
 | .binOp op t x y _=>LZ tt ev op t x y
 | .unOp op _ x=>aoUn ev op x
 | .convert src d x=>Et tt ev src d x
 | .extract x i=>Lt ev x i
 | .box T x=>Mu ev ob id T x
 | .alloc T=>vt tt id T
 | .nilCheck x=>MG ev ob x
 | .load T x=>Er tt ev ob T x
 | .store T x y=>vP tt ev ob dst T x y
 | .fieldAddr s x j=>vp tt ev ob s x j
 | .indexAddr T x y=>wc tt ev ob T x y
 | .makeSlice T x y=>DN tt ev id T x y
 | .buildSlice T k ps=>qx tt ev ob id T k ps.toList
 | .build T ps=>wO tt ev ob T ps.toList
 | .slice T x lo hi none=>wL tt ev T x lo hi
 | .makeFunc f fs cs=>hdL (fs.toList.map ev) fun a=>hdL (cs.toList.map ev) fun b=>AO.val (.fn f a b)
 | .call c=>Ev tt ev ob id c
 |_=>none
end
section
theorem rF{w:World}{m:Gm}{av:Av}{R:Nat->Prop}{vs:List V}{u:Value}(h:Rel w m av R (.agg vs) u):Rel w m av R (NM vs) u:=by
 unfold NM;split
 ·rename_i ps hps;have e:=V.sJ hps;subst e;exact h.plain
 ·exact h
theorem aU{α:Type}{b:Bool}{a:Option α}{x:α}(h:(bif b then a else none)=some x):b=true/\a=some x:=by
 cases b
 ·cases h
 ·exact⟨O,h⟩
theorem iG{o:Option Ob}(h:bE o=true):∃q,o=some q/\q.real=true:=by
 cases o with
 |none=>cases h
 |some q=>exact⟨q,O,h⟩
theorem cN{ob ob':Nat->Option Ob}:∀{v:V},(∀i∈v.id1,ob i=ob' i)->v.bX ob=v.bX ob'
 | .pv _,_=>rfl
 | .ptr i o,h=>by simp only[V.bX,h i (by simp[V.id1])]
 | .osl i _ _,h=>by simp only[V.bX,h i (by simp[V.id1])]
 | .tsl _ _ _,_=>rfl
 | .gsl _ _ _,_=>rfl
 | .map i,h=>by simp only[V.bX,h i (by simp[V.id1])]
 | .agg _,_=>rfl
 | .tup _,_=>rfl
 | .fn _ _ _,_=>rfl
theorem Af{ob ob':Nat->Option Ob}{v:V}(h:∀i∈v.ids,ob i=ob' i):(∀c∈v.cells,c.bX ob=c.bX ob')/\v.bX ob=v.bX ob':=by
 cases v with
 | pv p=>
   refine⟨fun c hc=>?_,O⟩;cases p<;>simp[V.cells]at hc<;>first|(subst hc;rfl)|(obtain⟨_,_,rfl⟩:=hc;rfl)
 |agg cs=>exact⟨fun c hc=>cN fun i hi=>h i (by simp only[V.ids,P5];exact⟨c,by simpa[V.cells]using hc,hi⟩),O⟩
 |ptr i o=>exact⟨fun c hc=>by simp only[V.cells,OF]at hc;subst hc;exact cN h,cN h⟩
 |osl i s k=>exact⟨fun c hc=>by simp only[V.cells,OF]at hc;subst hc;exact cN h,cN h⟩
 |map i=>exact⟨fun c hc=>by simp only[V.cells,OF]at hc;subst hc;exact cN h,cN h⟩
 |_=>exact⟨fun c hc=>by simp only[V.cells,OF]at hc;subst hc;rfl,O⟩
theorem xJ{ob ob':Nat->Option Ob}{v:V}(h:∀i∈v.ids,ob i=ob' i):(v.cells.all (fun c=>c.leaf&&c.bX ob)&&v.bX ob)=(v.cells.all (fun c=>c.leaf&&c.bX ob')&&v.bX ob'):=by
 have hc:=Af h;rw[hc.2]
 congr 1
 rw[PA,IN,IN];exact⟨fun k c hm=>by rw[<-hc.1 c hm];exact k c hm,fun k c hm=>by rw[hc.1 c hm];exact k c hm⟩
theorem gI{place:Nat->Option (Nat×Nat)}{ob ob':Nat->Option Ob}:∀(l:List (Nat×V))(cells:List V),(∀p∈l,∀i∈p.2.ids,ob i=ob' i)->dS place ob cells l=dS place ob' cells l
 |[],_,_=>rfl
 | (i,v)::l,cells,h=>by
   have hv:=xJ (v:=v) (h (i,v) Tw);have ih:=fun c=>gI (place:=place) l c (fun p hp=>h p (by simp[hp]))
   simp only[dS];split
   ·rfl
   ·rw[Bool.and_assoc,hv,<-Bool.and_assoc];simp only[ih]
section
variable {C:Ctx}{n:Nat}{τ:St}{dst:Option Tmp}{ty t t':TypeId}{pos:String}{after:Array Edge}{gd:Option (Nat×Bool)}{x y:Operand}{tt:TT}{ev:Operand->V}{ob:Nat->Option Ob}{id:Nat}{ao:AO}
theorem G9{op:BinOp}{k:IntKind}{i j:Int}(h:LC op k i j=some ao)(hφ:ao.φ)(hx:τ.ev n x= .pv (.int k i))(hy:τ.ev n y= .pv (.int k j)):XJ C n ⟨dst,.binOp op t x y t',ty,pos,after,gd⟩ τ ao.s:=by
 have three:∀{a b:AO},(bif kEq k .i64 then some a else some b)=some ao->(k= .i64/\a=ao)\/b=ao:=fun{a b} h=>by
  cases hk:kEq k .i64 with
  |true=>rw[hk]at h;exact .inl ⟨dL hk,by simpa using h⟩
  |false=>rw[hk]at h;exact .inr (by simpa using h)
 cases op<;>simp only[LC]at h
 case add=>rcases three h with⟨rfl,rfl⟩|rfl;exact I7 hx hy hφ;exact aG hx hy O
 case sub=>rcases three h with⟨rfl,rfl⟩|rfl;exact Ol hx hy hφ;exact aG hx hy O
 case mul=>rcases three h with⟨rfl,rfl⟩|rfl;exact Ny hx hy hφ;exact aG hx hy O
 case quo=>cases h;exact JH hx hy hφ
 case rem=>cases h;exact tv hx hy hφ
 case shl=>cases h
 case shr=>cases h
 all_goals (simp only[tD]at h;cases h;exact aG hx hy O)
theorem xz{a:Nat}(h:a<18446744073709551616):IntKind.u64.wrap (a:Int)=a:=IntWalk.u64_in _ Ts
theorem qo{a b:Nat}(hx:τ.ev n x= .pv (.int .u64 (a:Int)))(hy:τ.ev n y= .pv (.int .u64 (b:Int)))(h:a+b<18446744073709551616):XJ C n ⟨dst,.binOp .add t x y t',ty,pos,after,gd⟩ τ ⟨.pv (.int .u64 ((a+b:Nat):Int)),[],[]⟩:=
 aG hx hy (by simp only[tD];rw[<-Int.natCast_add,xz h])
theorem rD{a b:Nat}(hx:τ.ev n x= .pv (.int .u64 (a:Int)))(hy:τ.ev n y= .pv (.int .u64 (b:Int)))(h:b<=a/\a<18446744073709551616):XJ C n ⟨dst,.binOp .sub t x y t',ty,pos,after,gd⟩ τ ⟨.pv (.int .u64 ((a-b:Nat):Int)),[],[]⟩:=
 aG hx hy (by simp only[tD];rw[show(a:Int)-b=((a-b:Nat):Int) by omega,xz Ts])
theorem oA{a b:Nat}(hx:τ.ev n x= .pv (.int .u64 (a:Int)))(hy:τ.ev n y= .pv (.int .u64 (b:Int)))(h:a*b<18446744073709551616):XJ C n ⟨dst,.binOp .mul t x y t',ty,pos,after,gd⟩ τ ⟨.pv (.int .u64 ((a*b:Nat):Int)),[],[]⟩:=
 aG hx hy (by simp only[tD];rw[<-RX,xz h])
theorem nY{a b:Nat}(hx:τ.ev n x= .pv (.int .u64 (a:Int)))(hy:τ.ev n y= .pv (.int .u64 (b:Int)))(h:0<b/\a<18446744073709551616):XJ C n ⟨dst,.binOp .quo t x y t',ty,pos,after,gd⟩ τ ⟨.pv (.int .u64 ((a/b:Nat):Int)),[],[]⟩:=by
 have h2:=JH (C:=C) (n:=n) (dst:=dst) (ty:=ty) (pos:=pos) (after:=after) (gd:=gd) (t:=t) (t':=t') hx hy Ts;rw[show(a:Int).tdiv b=((a/b:Nat):Int)from O,xz (SV (Nat.div_le_self _ _) h.2)]at h2;exact h2
theorem nK{a b:Nat}(hx:τ.ev n x= .pv (.int .u64 (a:Int)))(hy:τ.ev n y= .pv (.int .u64 (b:Int)))(h:0<b):XJ C n ⟨dst,.binOp .rem t x y t',ty,pos,after,gd⟩ τ ⟨.pv (.int .u64 ((a%b:Nat):Int)),[],[]⟩:=
 tv (C:=C) (n:=n) (dst:=dst) (ty:=ty) (pos:=pos) (after:=after) (gd:=gd) (t:=t) (t':=t') hx hy Ts
theorem BM{op:BinOp}{k:IntKind}{i j:Int}(h:E4 op k i j=some ao)(hφ:ao.φ)(hx:τ.ev n x= .pv (.int k i))(hy:τ.ev n y= .pv (.int k j)):XJ C n ⟨dst,.binOp op t x y t',ty,pos,after,gd⟩ τ ao.s:=by
 unfold E4 at h;split at h
 ·split at h
  ·cases h;exact qo hx hy hφ
  ·cases h
 ·split at h
  ·cases h;exact rD hx hy hφ
  ·cases h
 ·split at h
  ·cases h;exact oA hx hy hφ
  ·cases h
 ·split at h
  ·cases h;exact nY hx hy hφ
  ·cases h
 ·split at h
  ·cases h;exact nK hx hy hφ
  ·cases h
 ·exact G9 h hφ hx hy
theorem H6(ht:tt.Ok C.P){op:BinOp}(h:LZ tt ev op t x y=some ao)(hφ:ao.φ)(hx:τ.ev n x=ev x)(hy:τ.ev n y=ev y):XJ C n ⟨dst,.binOp op t x y t',ty,pos,after,gd⟩ τ ao.s:=by
 unfold LZ at h;split at h
 ·rename_i k i k' j e1 e2;have hx:=hx.trans e1;have hy:=hy.trans e2;have h:=aU h;have:=dL h.1;subst this;replace h:=h.2;exact BM h hφ hx hy
 ·rename_i a b e1 e2;have hx:=hx.trans e1;have hy:=hy.trans e2;split at h
  ·cases h;exact y3 hx hy hφ
  ·split at h
   ·cases h;rename_i p hp;exact dh hx hy hp
   ·cases h
 ·rename_i a b e1 e2;have hx:=hx.trans e1;have hy:=hy.trans e2;split at h
  ·rename_i ti hti;have hg:=ht.go hti;split at h
   ·rename_i hk;cases h;exact LQ (hg.bool hk) hx hy
   ·rename_i hk;cases h;exact Kg (hg.bool hk) hx hy
   ·cases h
  ·cases h
 ·rename_i b k cs e1 e2;have hx:=hx.trans e1;split at h
  ·split at h
   ·rename_i ti hti;have hg:=ht.go hti;split at h
    ·rename_i hk;cases h;exact EH (hg.sl hk) hx
    ·rename_i hk;cases h;exact EB (hg.sl hk) hx
    ·cases h
   ·cases h
  ·cases h
 ·cases h
theorem Me{op:UnOp}(h:aoUn ev op x=some ao)(hφ:ao.φ)(hx:τ.ev n x=ev x):XJ C n ⟨dst,.unOp op t x,ty,pos,after,gd⟩ τ ao.s:=by
 unfold aoUn at h;split at h
 ·rename_i e;cases h;exact Ns (hx.trans e)
 ·rename_i e;cases h;exact NT (hx.trans e) hφ.1 hφ.2
 ·cases h
theorem C5(ht:tt.Ok C.P){src d:TypeId}(h:Et tt ev src d x=some ao)(hφ:ao.φ)(hx:τ.ev n x=ev x):XJ C n ⟨dst,.convert src d x,ty,pos,after,gd⟩ τ ao.s:=by
 unfold Et at h;split at h
 ·rename_i e1 e2 e3;have hx:=hx.trans e1;obtain⟨d,hs,_⟩:=(ht.go e2).kind;split at h
  ·rename_i hk;cases h;exact mP hs ((ht.go e3).int hk) hx
  ·cases h
 ·rename_i e1 e2 e3;have hx:=hx.trans e1;obtain⟨d,hs,_⟩:=(ht.go e2).kind;split at h
  ·rename_i e hk;split at h
   ·rename_i te hte;split at h
    ·rename_i hke;cases h;exact NU hs ((ht.go e3).sl hk) ((ht.go hte).int hke) hx hφ
    ·cases h
   ·cases h
  ·cases h
 ·cases h
theorem FQ{i:Nat}(h:Lt ev x i=some ao)(hx:τ.ev n x=ev x):XJ C n ⟨dst,.extract x i,ty,pos,after,gd⟩ τ ao.s:=by
 unfold Lt at h;split at h
 ·rename_i e;split at h
  ·rename_i hp;cases h;exact di (hx.trans e) hp
  ·cases h
 ·rename_i e;split at h
  ·rename_i hp;rw[jg]at h;cases h;exact z1 (hx.trans e) hp
  ·cases h
 ·cases h
theorem IX{T:TypeId}(h:Mu ev ob id T x=some ao)(hx:τ.ev n x=ev x)(ho:∀i∈ao.rd,τ.ob i=ob i)(hn:∀i∈ao.s.nw,τ.av i=true):XJ C n ⟨dst,.box T x,ty,pos,after,gd⟩ τ ao.s:=by
 unfold Mu at h;rw[jg]at h;split at h
 ·rename_i e;rw[ix]at h;obtain⟨hl,h⟩:=aU h;cases h;rw[e]at hl ⊢;exact ou id (hn id Tw) (hx.trans e) hl (by rintro _ _ ⟨⟩) (by rintro _ _ _ ⟨⟩) (by rintro _ ⟨⟩)
 ·rename_i e;rw[ix]at h;obtain⟨hl,h⟩:=aU h;cases h;rw[e]at hl ⊢;exact ou id (hn id Tw) (hx.trans e) hl (by rintro _ _ ⟨⟩) (by rintro _ _ _ ⟨⟩) (by rintro _ ⟨⟩)
 ·rename_i i o e;obtain⟨hl,h⟩:=aU h;cases h;exact ou id (hn id Tw) (hx.trans e) O (by rintro _ _ ⟨⟩;rw[ho i Tw];exact hl) (by rintro _ _ _ ⟨⟩) (by rintro _ ⟨⟩)
 ·rename_i i s k e;obtain⟨hl,h⟩:=aU h;cases h;exact ou id (hn id Tw) (hx.trans e) O (by rintro _ _ ⟨⟩) (by rintro _ _ _ ⟨⟩;rw[ho i Tw];exact hl) (by rintro _ ⟨⟩)
 ·rename_i i e;obtain⟨hl,h⟩:=aU h;cases h;exact ou id (hn id Tw) (hx.trans e) O (by rintro _ _ ⟨⟩) (by rintro _ _ _ ⟨⟩) (by rintro _ ⟨⟩;rw[ho i Tw];exact hl)
 ·rename_i e;cases h;exact ou id (hn id Tw) (hx.trans e) O (by rintro _ _ ⟨⟩) (by rintro _ _ _ ⟨⟩) (by rintro _ ⟨⟩)
 ·rename_i e;cases h;exact ou id (hn id Tw) (hx.trans e) O (by rintro _ _ ⟨⟩) (by rintro _ _ _ ⟨⟩) (by rintro _ ⟨⟩)
 ·cases h
 ·cases h
theorem TGood.zeroV{P:Program}{i:TI}(h:TGood P t i){zs:List PV}(e:i.zero=some zs):∃z,(P.info? t).map (·.zero)=some (some z)/\z.cells.toList.map fb=zs:=by
 obtain⟨z,h1,h2⟩:=h.zero zs e;refine⟨z,?_,h2⟩;cases hq:P.info? t with
 |none=>rw[hq]at h1;cases h1
 |some inf=>rw[hq]at h1;simp at h1;simp[h1.1]
theorem zU(ht:tt.Ok C.P){T:TypeId}(h:vt tt id T=some ao)(hn:∀i∈ao.s.nw,τ.av i=true):XJ C n ⟨dst,.alloc T,ty,pos,after,gd⟩ τ ao.s:=by
 unfold vt at h;split at h
 ·rename_i ti hti;split at h
  ·rename_i zs hz;rw[ix]at h;cases h;obtain⟨z,h1,h2⟩:=(ht.go hti).zeroV hz;exact GW id h1 h2 (hn id Tw)
  ·cases h
 ·cases h
theorem Hf(h:MG ev ob x=some ao)(hx:τ.ev n x=ev x)(ho:∀i∈ao.rd,τ.ob i=ob i):XJ C n ⟨dst,.nilCheck x,ty,pos,after,gd⟩ τ ao.s:=by
 unfold MG at h;split at h
 ·rename_i i off e;obtain⟨hl,h⟩:=aU h;cases h;obtain⟨q,hq,hr⟩:=iG hl;exact vx (hx.trans e) ((ho i Tw).trans hq) hr
 ·rename_i e;cases h;exact tI (hx.trans e)
 ·cases h
theorem C6(ht:tt.Ok C.P){T:TypeId}(h:Er tt ev ob T x=some ao)(hx:τ.ev n x=ev x)(ho:∀i∈ao.rd,τ.ob i=ob i):XJ C n ⟨dst,.load T x,ty,pos,after,gd⟩ τ ao.s:=by
 unfold Er at h;split at h
 ·cases h
 ·rename_i ti hti;have hg:=ht.go hti;split at h
  ·rename_i i off e;split at h
   ·rename_i T' cs hob;cases hr:ti.k.row with
    | true=>
      rw[hr]at h;simp only[Qd,ix,jg]at h;obtain⟨hl,h⟩:=aU h;cases h;exact(GN (hg.isRow hr) hg.size (hx.trans e) ((ho i Tw).trans hob) O (aI hl)).LU fun _ _ _ _ _=>rF
    | false=>
      rw[hr]at h;simp only[PE]at h;split at h
      ·rename_i v hv;rw[jg]at h;cases h;exact mg (hg.fl hr) (hx.trans e) ((ho i Tw).trans hob) hv
      ·cases h
   ·rename_i T' cs hob;cases hr:ti.k.row with
    |true=>rw[hr]at h;cases h
    | false=>
      rw[hr]at h;simp only[PE]at h;split at h
      ·rename_i v hv;cases h;exact b8 (hg.fl hr) (hx.trans e) ((ho i Tw).trans hob) hv
      ·cases h
   ·cases h
  ·rename_i cs off e;cases hr:ti.k.row with
   | true=>
     rw[hr]at h;simp only[Qd]at h;obtain⟨hl,h⟩:=aU h;cases h;exact aR (hg.isRow hr) hg.size (hx.trans e) O (aI hl)
   | false=>
     rw[hr]at h;simp only[PE]at h;split at h
     ·rename_i v hv;cases h;exact au (hg.fl hr) (hx.trans e) hv
     ·cases h
  ·cases h
theorem Ax(ht:tt.Ok C.P){T:TypeId}(h:vP tt ev ob dst T x y=some ao)(hφ:ao.φ)(hx:τ.ev n x=ev x)(hy:τ.ev n y=ev y)(ho:∀i∈ao.rd,τ.ob i=ob i):XJ C n ⟨dst,.store T x y,ty,pos,after,gd⟩ τ ao.s:=by
 unfold vP at h;split at h
 ·rename_i ti i off hti e;have hg:=ht.go hti;split at h
  ·rename_i T' cs hob;rw[jg,ix]at h;obtain⟨hl,h⟩:=aU h;rw[ix]at h;cases h;simp only[sh]at hl;have hids:∀j∈(ev y).ids,τ.ob j=ob j:=fun j hj=>ho j (by simp[hj])
   have hlv:=xJ hids;have h2:((ev y).cells.all (fun c=>c.leaf&&c.bX ob)&&(ev y).bX ob)=true:=by simp only[sh];exact hl.2.2
   rw[<-hlv]at h2;have h3:=Bool.and_eq_true_iff.1 h2;exact l9 hg.size (hx.trans e) ((ho i Tw).trans hob) hy (aI hl.1) (Pp hl.2.1) h3.1 h3.2
  ·rename_i T' cs hob;split at h
   ·rename_i v hv;obtain⟨hl,h⟩:=aU h;cases h;simp only[sh]at hl;exact bK (by rw[<-aI hl.1];exact hg.size) (hx.trans e) ((ho i Tw).trans hob) (hy.trans hv) hl.2 hφ
   ·cases h
  ·cases h
 ·cases h
theorem zM(ht:tt.Ok C.P){s:TypeId}{j:Nat}(h:vp tt ev ob s x j=some ao)(hx:τ.ev n x=ev x)(ho:∀i∈ao.rd,τ.ob i=ob i):XJ C n ⟨dst,.fieldAddr s x j,ty,pos,after,gd⟩ τ ao.s:=by
 unfold vp at h;split at h
 ·cases h
 ·rename_i ti hti;have hg:=ht.go hti;split at h
  ·rename_i pl hk;split at h
   ·rename_i o q hp;cases hq0:Nat.beq q 0 with
    |true=>rw[hq0]at h;cases h
    |false=>
    rw[hq0]at h;simp only[PE]at h;have hf:=hg.fj hk hp hq0;split at h
    ·rename_i i off e;obtain⟨hl,h⟩:=aU h;cases h;obtain⟨q,hq,hr⟩:=iG hl;exact uH hf (hx.trans e) ((ho i Tw).trans hq) hr
    ·rename_i e;cases h;exact si hf (hx.trans e)
    ·cases h
   ·cases h
  ·cases h
theorem zZ(ht:tt.Ok C.P){T:TypeId}(h:wc tt ev ob T x y=some ao)(hφ:ao.φ)(hx:τ.ev n x=ev x)(hy:τ.ev n y=ev y)(ho:∀i∈ao.rd,τ.ob i=ob i):XJ C n ⟨dst,.indexAddr T x y,ty,pos,after,gd⟩ τ ao.s:=by
 unfold wc at h;split at h
 ·cases h
 ·rename_i ti hti;have hg:=ht.go hti;split at h
  ·rename_i e hk;split at h
   ·cases h
   ·rename_i tk sz by_ zr hte;split at h
    ·rename_i kk j e2;split at h
     ·rename_i bn k cs e1;cases h;exact ae j (hg.sl hk) (ht.go hte).size (hx.trans e1) (hy.trans e2) O hφ.1 hφ.2
     ·rename_i i s k e1;obtain⟨hl,h⟩:=aU h;cases h;obtain⟨q,hq,hr⟩:=iG hl;exact aq j (hg.sl hk) (ht.go hte).size (hx.trans e1) ((ho i Tw).trans hq) (hy.trans e2) O hφ hr
     ·cases h
    ·cases h
  ·cases h
theorem TGood.elem{P:Program}{te:TI}{e:TypeId}(h:TGood P e te){zs:List PV}(hz:te.zero=some zs)(hu:P.underlying t=some (.slice e))(hl:zs.length=te.size)(hs:0<te.size)(hb:te.bytes<=1000):∃z,ElemIs P t e z te.size te.bytes/\z.cells.toList.map fb=zs:=by
 obtain⟨z,h1,h2⟩:=h.zero zs hz;exact⟨z,⟨hu,h1,by rw[<-hl,<-h2];simp,hs,hb⟩,h2⟩
theorem BZ(ht:tt.Ok C.P){T:TypeId}(h:DN tt ev id T x y=some ao)(hφ:ao.φ)(hx:τ.ev n x=ev x)(hn:∀i∈ao.s.nw,τ.av i=true):XJ C n ⟨dst,.makeSlice T x y,ty,pos,after,gd⟩ τ ao.s:=by
 unfold DN at h;split at h
 ·cases h
 ·rename_i ti hti;split at h
  ·rename_i e hk;split at h
   ·cases h
   ·rename_i tk sz by_ zr hte;split at h
    ·rename_i zs kk k e1;obtain⟨hl,h⟩:=aU h;cases h;simp only[sh]at hl;obtain⟨z,h1,h2⟩:=(ht.go hte).elem O ((ht.go hti).sl hk) (aI hl.2.1) (by simpa[Rp]using hl.2.2.1) (Pp hl.2.2.2);obtain rfl:=D4 hl.1;exact kG id k h1 h2 (hx.trans e1) (hx.trans e1) O O hφ (hn id Tw)
    ·cases h
  ·cases h
theorem vN(ht:tt.Ok C.P){T:TypeId}{k:Nat}{ps:Array (Nat×Operand)}(h:qx tt ev ob id T k ps.toList=some ao)(hx:∀p∈ps.toList,τ.ev n p.2=ev p.2)(ho:∀i∈ao.rd,τ.ob i=ob i)(hn:∀i∈ao.s.nw,τ.av i=true):XJ C n ⟨dst,.buildSlice T k ps,ty,pos,after,gd⟩ τ ao.s:=by
 unfold qx at h;split at h
 ·cases h
 ·rename_i ti hti;split at h
  ·rename_i e hk;split at h
   ·cases h
   ·rename_i tk sz by_ zr hte;split at h
    ·rename_i zs hte;obtain⟨hl,h⟩:=aU h;simp only[sh]at hl;obtain⟨z,h1,h2⟩:=(ht.go hte).elem O ((ht.go hti).sl hk) (aI hl.1) (by simpa[Rp]using hl.2.1) (Pp hl.2.2.1);split at h
     ·rename_i vs hf;split at h
      ·rename_i cs hcs;cases h;have e1:(ps.toList.map fun p=>(p.1,τ.ev n p.2))=ps.toList.map fun p=>(p.1,ev p.2):=PR fun p hp=>by rw[hx p hp]
       refine so id h1 h2 (by simpa[Rp]using hl.2.2.2.1) (Pp hl.2.2.2.2) (hn id Tw) (vs:=vs) ?_ hcs;rw[e1,gI (ob':=ob) _ _ (fun p hp i hi=>?_)]
       ·exact hf
       ·obtain⟨q,hq,rfl⟩:=IT.1 hp;exact ho i (P5.2 ⟨q,hq,hi⟩)
      ·cases h
     ·cases h
    ·cases h
  ·cases h
theorem zy(ht:tt.Ok C.P){T:TypeId}{ps:Array (Nat×Operand)}(h:wO tt ev ob T ps.toList=some ao)(hx:∀p∈ps.toList,τ.ev n p.2=ev p.2)(ho:∀i∈ao.rd,τ.ob i=ob i):XJ C n ⟨dst,.build T ps,ty,pos,after,gd⟩ τ ao.s:=by
 have e1:(ps.toList.map fun p=>(p.1,τ.ev n p.2))=ps.toList.map fun p=>(p.1,ev p.2):=PR fun p hp=>by rw[hx p hp]
 unfold wO at h;split at h
 ·cases h
 ·rename_i ti hti;split at h
  ·rename_i zs pl hz hk;split at h
   ·rename_i vs hf;rw[ix,jg]at h;cases h;obtain⟨z,h1,h2⟩:=(ht.go hti).zeroV hz;refine XJ.LU (xA (.struct h1 h2 ((ht.go hti).st hk)) ?_) fun _ _ _ _ _=>rF
    rw[e1,gI (ob':=ob) _ _ (fun p hp i hi=>?_)]
    ·exact hf
    ·obtain⟨q,hq,rfl⟩:=IT.1 hp;exact ho i (P5.2 ⟨q,hq,hi⟩)
   ·cases h
  ·rename_i zs len e hz hk;split at h
   ·rename_i te hte;split at h
    ·rename_i vs hf;rw[ix,jg]at h;cases h;obtain⟨z,h1,h2⟩:=(ht.go hti).zeroV hz;refine XJ.LU (xA (.array ((ht.go hti).arr hk) h1 h2 (ht.go hte).size) ?_) fun _ _ _ _ _=>rF
     rw[e1,gI (ob':=ob) _ _ (fun p hp i hi=>?_)]
     ·exact hf
     ·obtain⟨q,hq,rfl⟩:=IT.1 hp;exact ho i (P5.2 ⟨q,hq,hi⟩)
    ·cases h
   ·cases h
  ·cases h
theorem IJ(ht:tt.Ok C.P)(h:LA tt ev ob t x=some ao)(hx:τ.ev n x=ev x)(ho:∀i∈ao.rd,τ.ob i=ob i):XJ C n ⟨dst,.call { callee:= .builtin .len,args:= #[x],argTypes:= #[t] },ty,pos,after,gd⟩ τ ao.s:=by
 unfold LA at h;split at h
 ·cases h
 ·rename_i ti hti;have hg:=ht.go hti;split at h
  ·rename_i hk e;cases h;exact Fx (hg.str hk) (hx.trans e)
  ·rename_i hk e;cases h;exact Nx (hg.sl hk) (hx.trans e)
  ·rename_i i s k hk e;obtain⟨hl,h⟩:=aU h;cases h;obtain⟨q,hq,hr⟩:=iG hl;exact KM (hg.sl hk) (hx.trans e) ((ho i Tw).trans hq) hr
  ·rename_i hk e;cases h;exact KX (hg.sl hk) (hx.trans e)
  ·cases h
theorem IV(ht:tt.Ok C.P)(h:Kc tt ev ob id t t' x y=some ao)(hφ:ao.φ)(hx:τ.ev n x=ev x)(hy:τ.ev n y=ev y)(ho:∀i∈ao.rd,τ.ob i=ob i)(hn:∀i∈ao.s.nw,τ.av i=true):XJ C n ⟨dst,.call { callee:= .builtin .append,args:= #[x,y],argTypes:= #[t,t'] },ty,pos,after,gd⟩ τ ao.s:=by
 unfold Kc at h;split at h
 ·cases h
 ·rename_i ti hti;split at h
  ·rename_i e hk;split at h
   ·cases h
   ·rename_i tk sz by_ zr hte;split at h
    ·rename_i zs hte;have hl:=(aU h).1;replace h:=(aU h).2;simp only[sh]at hl;have ett:t=t':=aI hl.1;subst ett;obtain⟨z,h1,h2⟩:=(ht.go hte).elem O ((ht.go hti).sl hk) (aI hl.2.1) (by simpa[Rp]using hl.2.2.1) (Pp hl.2.2.2);split at h
     ·rename_i i2 s2 e2;split at h
      ·rename_i T2 news hob2;have hq:=(aU h).1;replace h:=(aU h).2;simp only[sh]at hq;have ess:=aI hq.1;subst ess;have hl3:=aI hq.2.1;split at h
       ·rename_i i s k e3;split at h
        ·rename_i e' cs hob;have hr:=(aU h).1;replace h:=(aU h).2;simp only[sh]at hr;have ee:e'=e:=aI hr.1;have es:=aI hr.2;subst ee es;cases h;exact Ac id h1 (hx.trans e3) ((ho i Tw).trans hob) hφ.1 (hy.trans e2) ((ho i2 Tw).trans hob2) hl3 hq.2.2 hφ.2 (hn id Tw)
        ·cases h
       ·rename_i i s k e3;split at h
        ·rename_i e' cs hob;have hr:=(aU h).1;replace h:=(aU h).2;simp only[sh]at hr;have ee:e'=e:=aI hr.1;have es:=aI hr.2;subst ee es;cases h;exact gG id h1 (hx.trans e3) ((ho i Tw).trans hob) hφ.1 (hy.trans e2) ((ho i2 Tw).trans hob2) hl3 hq.2.2 hφ.2 (hn id Tw)
        ·cases h
       ·rename_i e3;cases h;exact vA id h1 (hx.trans e3) (hy.trans e2) ((ho i2 Tw).trans hob2) hl3 hq.2.2 (hn id Tw)
       ·cases h
      ·cases h
     ·cases h
    ·cases h
  ·cases h
theorem AF(ht:tt.Ok C.P){T:TypeId}{lo hi:Option Operand}(h:wL tt ev T x lo hi=some ao)(hφ:ao.φ)(hx:τ.ev n x=ev x)(hlo:∀y,lo=some y->τ.ev n y=ev y)(hhi:∀y,hi=some y->τ.ev n y=ev y):XJ C n ⟨dst,.slice T x lo hi none,ty,pos,after,gd⟩ τ ao.s:=by
 unfold wL at h;split at h
 ·cases h
 ·rename_i ti hti;have hg:=ht.go hti;split at h
  ·rename_i z hk e;have hx:=hx.trans e;split at h
   ·rename_i y;split at h
    ·rename_i k2 hh e2;cases h;exact nD (kl:= .i64) (il:=0) none (some y) 0 hh (hg.str hk) hx Tw (fun _=>rfl) (by rintro _ ⟨⟩;exact⟨(hhi y O).trans e2,O⟩) Tw (cd _) hφ
    ·cases h
   ·rename_i y;split at h
    ·rename_i k2 l e2;cases h;exact nD (kh:= .i64) (ih:=0) (some y) none l z.size (hg.str hk) hx (by rintro _ ⟨⟩;exact⟨(hlo y O).trans e2,O⟩) Tw Tw (fun _=>rfl) hφ (BY _)
    ·cases h
   ·rename_i y y';split at h
    ·rename_i k2 l k3 hh e2 e3;cases h;exact nD (some y) (some y') l hh (hg.str hk) hx (by rintro _ ⟨⟩;exact⟨(hlo y O).trans e2,O⟩) Tw (by rintro _ ⟨⟩;exact⟨(hhi y' O).trans e3,O⟩) Tw hφ.1 hφ.2
    ·cases h
   ·cases h
  ·rename_i el b k cs hk e;have hx:=hx.trans e;split at h
   ·cases h
   ·rename_i tk sz by_ zr hte;split at h
    ·rename_i y;split at h
     ·rename_i k2 hh e2;cases h;exact dq hh (hg.sl hk) (ht.go hte).size hx ((hhi y O).trans e2) O hφ.1 hφ.2
     ·cases h
    ·rename_i y;split at h
     ·rename_i k2 l e2;cases h;exact ub l (hg.sl hk) (ht.go hte).size hx ((hlo y O).trans e2) O hφ.1 hφ.2
     ·cases h
    ·cases h
  ·cases h
theorem E7(ht:tt.Ok C.P){c:Call}(h:Ev tt ev ob id c=some ao)(hφ:ao.φ)(hx:∀x∈c.args.toList,τ.ev n x=ev x)(ho:∀i∈ao.rd,τ.ob i=ob i)(hn:∀i∈ao.s.nw,τ.av i=true):XJ C n ⟨dst,.call c,ty,pos,after,gd⟩ τ ao.s:=by
 obtain⟨callee,args,ats⟩:=c;obtain⟨args⟩:=args;obtain⟨ats⟩:=ats;unfold Ev at h;split at h
 ·rename_i x t e1 e2 e3;simp only at e1 e2 e3;subst e1 e2 e3;exact IJ ht h (hx x Tw) ho
 ·rename_i x y t t' e1 e2 e3;simp only at e1 e2 e3;subst e1 e2 e3;exact IV ht h hφ (hx x Tw) (hx y Tw) ho hn
 ·rename_i x y t t' e1 e2 e3;simp only at e1 e2 e3;subst e1 e2 e3;split at h
  ·rename_i k i k' j e1 e2;obtain⟨hk,h⟩:=aU h;cases h;have:=dL hk;subst this;exact JL ((hx x Tw).trans e1) ((hx y Tw).trans e2)
  ·cases h
 ·rename_i x y t t' e1 e2 e3;simp only at e1 e2 e3;subst e1 e2 e3;split at h
  ·rename_i k i k' j e1 e2;obtain⟨hk,h⟩:=aU h;cases h;have:=dL hk;subst this;exact Ji ((hx x Tw).trans e1) ((hx y Tw).trans e2)
  ·cases h
 ·cases h
theorem TF{p:Prop}(h:p:=by simp[Op.operands]):p:=h
theorem AZ(ht:tt.Ok C.P){op:Op}(h:auto tt ev ob id dst op=some ao)(hφ:ao.φ)(hx:∀x∈op.operands.toList,τ.ev n x=ev x)(ho:∀i∈ao.rd,τ.ob i=ob i)(hn:∀i∈ao.s.nw,τ.av i=true):XJ C n ⟨dst,op,ty,pos,after,gd⟩ τ ao.s:=by
 cases op<;>simp only[auto,reduceCtorEq]at h
 case move x=>rw[jg]at h;cases h;exact mv (hx x TF)
 case assign x=>rw[jg]at h;cases h;exact zB (hx x TF)
 case pick c x y=>
  split at h
  ·rename_i b e;cases h;have:=Ky (C:=C) (n:=n) (σ:=τ) (dst:=dst) (ty:=ty) (pos:=pos) (after:=after) (gd:=gd) (x:=x) (y:=y) ((hx c TF).trans e);rw[hx x TF,hx y TF]at this;exact this
  ·cases h
 case binOp op t x y t'=>exact H6 ht h hφ (hx x TF) (hx y TF)
 case unOp op t x=>exact Me h hφ (hx x TF)
 case convert src d x=>exact C5 ht h hφ (hx x TF)
 case extract x i=>exact FQ h (hx x TF)
 case box T x=>exact IX h (hx x TF) ho hn
 case alloc T=>exact zU ht h hn
 case nilCheck x=>exact Hf h (hx x TF) ho
 case load T x=>exact C6 ht h (hx x TF) ho
 case store T x y=>exact Ax ht h hφ (hx x TF) (hx y TF) ho
 case fieldAddr s x j=>exact zM ht h (hx x TF) ho
 case indexAddr T x y=>exact zZ ht h hφ (hx x TF) (hx y TF) ho
 case makeSlice T x y=>exact BZ ht h hφ (hx x TF) hn
 case buildSlice T k ps=>exact vN ht h (fun p hp=>hx p.2 (by simp only[Op.operands];exact IT.2 ⟨p,hp,O⟩)) ho hn
 case build T ps=>exact zy ht h (fun p hp=>hx p.2 (by simp only[Op.operands];exact IT.2 ⟨p,hp,O⟩)) ho
 case slice T x lo hi mx=>
  cases mx with
  |some _=>simp at h
  | none=>
    simp only at h;refine AF ht h hφ (hx x TF) (fun y hy=>hx y ?_) (fun y hy=>hx y ?_)<;>subst hy<;>simp[Op.operands]
 case makeFunc f fs cs=>
  rw[ix,ix]at h;cases h;have e1:fs.toList.map (τ.ev n)=fs.toList.map ev:=PR fun x hm=>hx x (by simp[Op.operands]at hm ⊢; exact .inl hm)
  have e2:cs.toList.map (τ.ev n)=cs.toList.map ev:=PR fun x hm=>hx x (by simp[Op.operands]at hm ⊢; exact .inr hm)
  show XJ _ _ _ _ ⟨.fn f (fs.toList.map ev) (cs.toList.map ev),[],[]⟩;rw[<-e1,<-e2];exact wH
 case call c=>exact E7 ht h hφ (fun x hm=>hx x (by simp[Op.operands,Call.operands];exact .inr (by simpa using hm))) ho hn
end
def EF{α:Type}(av:Av)(z:α)(f:Nat->α):List Nat->α
 |[]=>z
 |i::l=>bif av i then f i else EF av z f l
theorem qm{α:Type}{av:Av}{f:Nat->Option α}{x:α}:∀{l:List Nat},EF av none f l=some x->∃i,f i=some x
 |[],h=>by cases h
 | i::l,h=>by
   simp only[EF]at h;cases hb:av i with
   |true=>rw[hb]at h;exact⟨i,h⟩
   |false=>rw[hb]at h;exact qm h
def Kb:Op->Bool
 | .box _ _| .alloc _| .makeSlice _ _ _| .buildSlice _ _ _=>true
 | .call c=>match c.callee with| .builtin .append=>true|_=>false
 |_=>false
def j7(ops:Array Oper)(n:Nat)(σ:St)(o:Oper):Option Bool:=
 match o.guard with
 |none=>some true
 | some (j,want)=>match σ.ev n (.tmp (((ops[j]?).bind (·.dst)).getD n))with
   | .pv (.bool true)=>some want
   | .pv (.bool false)=>some (!want)
   | .pv (.tup [])=>some false
   |_=>none
def evK(n:Nat)(σ:St):Operand->V
 | .const (.int k i)=> .pv (.int k i)
 | .const (.bool b)=> .pv (.bool b)
 | .const (.string s)=> .pv (.str s)
 | .const (.slice none 0 0)=> .pv (.sl (some true) 0 [])
 | .const (.pointer none)=> .pv .nilptr
 | .const (.map none)=> .pv .nilmap
 | .const .nilFunc=> .pv .nilfn
 | .const .nilIface=> .pv .niliface
 |x=>σ.ev n x
theorem JZ(n:Nat)(σ:St):evK n σ=σ.ev n:=by
 funext x;unfold evK;split<;>rfl
def dK(tt:TT)(ops:Array Oper)(n:Nat)(σ:St)(o:Oper):Option (Option Tmp×AO):=
 match j7 ops n σ o with
 | some true=>match (bif Kb o.op then EF σ.av none (fun id=>auto tt (evK n σ) σ.ob id o.dst o.op) [0,1,2,3,4,5,6,7,8,9,10,11,12,13,14,15,16,17,18,19,20,21,22,23,24,25,26,27,28,29,30,31,32,33,34,35,36,37,38,39,40,41,42,43,44,45,46,47,48,49]else auto tt (evK n σ) σ.ob 0 o.dst o.op)with
   |some ⟨s,rd,φ⟩=>bif s.nw.all σ.av then some (o.dst,⟨s,rd,φ⟩)else none
   |none=>none
 |some false=>some (o.dst,⟨⟨und,[],[]⟩,[],True⟩)
 |none=>none
section
variable {C:Ctx}{n:Nat}{σ:St}{ops:Array Oper}{o:Oper}{os:List Oper}{K:St->Prop}{tt:TT}{d:Option Tmp}{s:OS}{rd:List Nat}{φ:Prop}
theorem sQ{ev:Operand->V}{ob:Nat->Option Ob}{dst:Option Tmp}{op:Op}{av:Av}{l:List Nat}{ao:AO}(h:(bif Kb op then EF av none (fun id=>auto tt ev ob id dst op) l else auto tt ev ob 0 dst op)=some ao):∃id,auto tt ev ob id dst op=some ao:=by
 cases hb:Kb op with
 |true=>rw[hb]at h;exact qm h
 |false=>rw[hb]at h;exact⟨0,h⟩
theorem dr{b:Bool}(h:j7 ops n σ o=some b):(o.guard=none/\b=true)\/∃j want v,o.guard=some (j,want)/\(σ.ev n (.tmp (((ops[j]?).bind (·.dst)).getD n))).gd=some v/\(v=some want↔b=true):=by
 unfold j7 at h;split at h
 ·rename_i e;cases h;exact .inl ⟨e,O⟩
 ·rename_i j want e;refine .inr ⟨j,want,?_⟩;split at h
  ·rename_i e2;cases h;exact⟨some true,e,V.rH e2,by cases b<;>simp⟩
  ·rename_i e2;cases h;exact⟨some false,e,V.rH e2,by cases want<;>simp⟩
  ·rename_i e2;cases h;exact⟨none,e,by rw[e2];rfl,Tw⟩
  ·cases h
theorem RL.auto(ht:tt.Ok C.P)(h:dK tt ops n σ o=some (d,⟨s,rd,φ⟩))(k:RL C n ops os K (σ.app d s))(hφ:φ):RL C n ops (o::os) K σ:=by
 obtain⟨dst,op,ty,pos,after,gd⟩:=o;unfold dK at h;split at h
 ·rename_i hg;split at h
  ·rename_i s' rd' φ' hao;obtain⟨id,hao⟩:=sQ hao;rw[JZ]at hao;obtain⟨hn,h⟩:=aU h;cases h;have hx:XJ C n ⟨dst,op,ty,pos,after,gd⟩ σ s:=AZ ht hao hφ (fun _ _=>rfl) (fun _ _=>rfl) (fun i hi=>IN.1 hn i hi);rcases dr hg with⟨e,_⟩|⟨j,want,v,e,hv,hb⟩
   ·exact RL.step e O hx k
   ·simp only at e;subst e;simp only[RL];exact⟨v,fun a w ⟨m,R,hw⟩=>dY hw hv,fun _=>hx.mono fun _ e=>e▸k,fun e=>absurd (hb.2 O) e⟩
  ·cases h
 ·rename_i hg;cases h;rcases dr hg with⟨_,e⟩|⟨j,want,v,e,hv,hb⟩
  ·cases e
  ·simp only at e;subst e;simp only[RL];refine⟨v,fun a w ⟨m,R,hw⟩=>dY hw hv,(fun e=>by have:=hb.1 e;cases this),fun _ a w ⟨m,R,hw⟩=>⟨_,k,m,R,?_⟩⟩;rw[St.gA];exact hw.put _ (Dh _ _ _ _)
 ·cases h
theorem DL.auto{cl:List (List Nat)}{i:Nat}{is:List Nat}{acc:List It}(ht:tt.Ok C.P)(ho:ops[i]? =some o)(h:dK tt ops n σ o=some (d,⟨s,rd,φ⟩))(k:DL C n ops cl is (⟨i,o,s,s.wr.map (·.1),s.nw,rd⟩::acc) K (σ.app d s))(hφ:φ)(hc:gp ops n cl ⟨i,o,s,s.wr.map (·.1),s.nw,rd⟩ acc=true):DL C n ops cl (i::is) acc K σ:=by
 obtain⟨dst,op,ty,pos,after,gd⟩:=o;unfold dK at h;split at h
 ·rename_i hg;split at h
  ·rename_i s' rd' φ' hao;obtain⟨id,hao⟩:=sQ hao;rw[JZ]at hao;obtain⟨hn,h⟩:=aU h;cases h;have hx:∀τ,Agr n ops ⟨dst,op,ty,pos,after,gd⟩ σ τ s rd->XJ C n ⟨dst,op,ty,pos,after,gd⟩ τ s:=fun τ ha=>AZ ht hao hφ (fun x hm=>by
    obtain⟨q,hq⟩:=Qr hm;exact ha.e q x hq) (fun i hi=>by
    obtain⟨q,hq⟩:=Qr hi;exact ha.o q i hq) (fun i hi=>by
    obtain⟨q,hq⟩:=Qr hi;exact ha.n q i hq)
   rcases dr hg with⟨e,_⟩|⟨j,want,v,e,hv,hb⟩
   ·exact DL.step rd ho e O hx hn hc k
   ·simp only at e;subst e;refine⟨_,ho,.inl ⟨s,rd,fun τ ha=>?_,hn,hc,k⟩⟩;simp only;exact⟨v,by rw[ha.g _ (by simp only[Aj])];exact hv,fun _=>hx τ ha,fun e=>absurd (hb.2 O) e⟩
  ·cases h
 ·rename_i hg;cases h;rcases dr hg with⟨_,e⟩|⟨j,want,v,e,hv,hb⟩
  ·cases e
  ·simp only at e;subst e;refine⟨_,ho,.inl ⟨⟨und,[],[]⟩,[],fun τ ha=>?_,O,hc,k⟩⟩;simp only;exact⟨v,by rw[ha.g _ (by simp only[Aj])];exact hv,(fun e=>by have:=hb.1 e;cases this),fun _=>trivial⟩
 ·cases h
def IA(tt:TT)(ops:Array Oper)(n:Nat)(σ:St)(o:Oper):Option (Option Tmp×List PV×Nat×List Nat):=
 match j7 ops n σ o,o.op with
 | some true,.load T x=>match tt.get T with
   | some ti=>bif ti.k.row then none else match σ.ev n x with
     | .pv (.rp cs off)=>some (o.dst,cs,off,[])
     | .ptr i off=>match σ.ob i with
       |some (.cells _ cs)=>some (o.dst,cs,off,[i])
       |_=>none
     |_=>none
   |none=>none
 |_,_=>none
def HI(tt:TT)(ops:Array Oper)(n:Nat)(σ:St)(o:Oper):Option (Option Tmp×List PV×Nat×Nat×List Nat):=
 match j7 ops n σ o,o.op with
 | some true,.load T x=>match tt.get T with
   | some ⟨k,sz,_,_⟩=>bif k.row then match σ.ev n x with
     | .pv (.rp cs off)=>some (o.dst,cs,off,sz,[])
     | .ptr i off=>match σ.ob i with
       |some (.cells _ cs)=>some (o.dst,cs,off,sz,[i])
       |_=>none
     |_=>none
     else none
   |none=>none
 |_,_=>none
theorem RL.with{v:V}(hg:j7 ops n σ o=some true)(hd:o.dst=d)(hx:XJ C n o σ ⟨v,[],[]⟩)(k:RL C n ops os K (σ.app d ⟨v,[],[]⟩)):RL C n ops (o::os) K σ:=by
 subst hd;rcases dr hg with⟨e,_⟩|⟨j,want,w,e,hv,hb⟩
 ·exact RL.step e O hx k
 ·simp only[RL,e];exact⟨w,fun a w ⟨m,R,hw⟩=>dY hw hv,fun _=>hx.mono fun _ e=>e▸k,fun e=>absurd (hb.2 O) e⟩
theorem DL.with{v:V}{cl:List (List Nat)}{i:Nat}{is:List Nat}{acc:List It}(rd:List Nat)(ho:ops[i]? =some o)(hg:j7 ops n σ o=some true)(hd:o.dst=d)(hx:∀τ,Agr n ops o σ τ ⟨v,[],[]⟩ rd->XJ C n o τ ⟨v,[],[]⟩)
  (k:DL C n ops cl is (⟨i,o,⟨v,[],[]⟩,[],[],rd⟩::acc) K (σ.app d ⟨v,[],[]⟩)) (hc:gp ops n cl ⟨i,o,⟨v,[],[]⟩,[],[],rd⟩ acc=true):DL C n ops cl (i::is) acc K σ:=by
 subst hd;rcases dr hg with⟨e,_⟩|⟨j,want,w,e,hv,hb⟩
 ·exact DL.step rd ho e O hx O hc k
 ·refine⟨_,ho,.inl ⟨⟨v,[],[]⟩,rd,fun τ ha=>?_,O,hc,k⟩⟩;simp only[e];exact⟨w,by rw[ha.g _ (by simp only[Aj,e])];exact hv,fun _=>hx τ ha,fun e=>absurd (hb.2 O) e⟩
variable {cs:List PV}{off sz:Nat}{p:PV}{vs:List PV}
theorem pY(ht:tt.Ok C.P)(h:IA tt ops n σ o=some (d,cs,off,rd))(hv:cs[off]? =some p):j7 ops n σ o=some true/\o.dst=d/\∀τ,(∀x∈o.op.operands.toList,τ.ev n x=σ.ev n x)->(∀i∈rd,τ.ob i=σ.ob i)->XJ C n o τ ⟨.pv p,[],[]⟩:=by
 obtain⟨dst,op,ty,pos,after,gd⟩:=o;unfold IA at h;split at h
 ·rename_i T x hg hop;simp only at hop;subst hop;split at h
  ·rename_i ti hti;cases hr:ti.k.row with
   |true=>rw[hr]at h;cases h
   | false=>
     rw[hr]at h;simp only[PE]at h;split at h
     ·rename_i e;cases h;exact⟨hg,O,fun τ he _=>au ((ht.go hti).fl hr) ((he x TF).trans e) hv⟩
     ·rename_i e;split at h
      ·rename_i e2;cases h;exact⟨hg,O,fun τ he ho=>b8 ((ht.go hti).fl hr) ((he x TF).trans e) ((ho _ Tw).trans e2) hv⟩
      ·cases h
     ·cases h
  ·cases h
 ·cases h
theorem qa(ht:tt.Ok C.P)(h:HI tt ops n σ o=some (d,cs,off,sz,rd))(hv:(cs.drop off).take sz=vs)(hl:vs.length=sz):j7 ops n σ o=some true/\o.dst=d/\∀τ,(∀x∈o.op.operands.toList,τ.ev n x=σ.ev n x)->(∀i∈rd,τ.ob i=σ.ob i)->XJ C n o τ ⟨.pv (.agg vs),[],[]⟩:=by
 obtain⟨dst,op,ty,pos,after,gd⟩:=o;unfold HI at h;split at h
 ·rename_i T x hg hop;simp only at hop;subst hop;split at h
  ·rename_i k sz' by_ zr hti;cases hr:k.row with
   |false=>rw[hr]at h;cases h
   | true=>
     rw[hr]at h;simp only[Qd]at h;split at h
     ·rename_i e;cases h;exact⟨hg,O,fun τ he _=>aR ((ht.go hti).isRow hr) (ht.go hti).size ((he x TF).trans e) hv hl⟩
     ·rename_i e;split at h
      ·rename_i e2;cases h;exact⟨hg,O,fun τ he ho=>sF ((ht.go hti).isRow hr) (ht.go hti).size ((he x TF).trans e) ((ho _ Tw).trans e2) hv hl⟩
      ·cases h
     ·cases h
  ·cases h
 ·cases h
theorem Nt{o:Oper}{τ:St}{s:OS}{rd:List Nat}(h:Agr n ops o σ τ s rd):∀x∈o.op.operands.toList,τ.ev n x=σ.ev n x:=fun x hm=>by
 obtain⟨q,hq⟩:=Qr hm;exact h.e q x hq
theorem NX{o:Oper}{τ:St}{s:OS}{rd:List Nat}(h:Agr n ops o σ τ s rd):∀i∈rd,τ.ob i=σ.ob i:=fun i hm=>by
 obtain⟨q,hq⟩:=Qr hm;exact h.o q i hq
end
end
theorem follows:prog.follows .mixedOrders=true:=Tt
theorem sz3:bQ prog 3 1:=by unfold bQ;kernel_rfl
theorem sz4:bQ prog 4 1:=by unfold bQ;kernel_rfl
theorem sz9:bQ prog 9 1:=by unfold bQ;kernel_rfl
theorem pN:bQ prog 22 1:=by unfold bQ;kernel_rfl
theorem vL:ElemIs prog 22 3 (.int .i64 0) 1 8:=⟨Tt,Tt,O,Tu,Tu⟩
theorem el26:ElemIs prog 26 162 (.agg #[(.string ⟨#[]⟩),(.int .i64 0)]) 2 24:=⟨Tt,Tt,O,Tu,Tu⟩
theorem el27:ElemIs prog 27 74 (.agg #[(.string ⟨#[]⟩),(.slice none 0 0)]) 2 40:=⟨Tt,Tt,O,Tu,Tu⟩
theorem sz30:bQ prog 30 4:=by unfold bQ;kernel_rfl
theorem H7:bQ prog 32 1:=by unfold bQ;kernel_rfl
theorem el34:ElemIs prog 34 38 (.slice none 0 0) 1 24:=⟨Tt,Tt,O,Tu,Tu⟩
theorem sz38:bQ prog 38 1:=by unfold bQ;kernel_rfl
theorem Jr:ElemIs prog 38 41 (.agg #[(.slice none 0 0),(.int .i64 0)]) 2 32:=⟨Tt,Tt,O,Tu,Tu⟩
theorem zX:ElemIs prog 39 9 (.string ⟨#[]⟩) 1 16:=⟨Tt,Tt,O,Tu,Tu⟩
theorem OI:(prog.info? 39).map (·.zero)=some (some (.slice none 0 0)):=Tt
theorem Ls:bQ prog 41 2:=by unfold bQ;kernel_rfl
theorem el44:ElemIs prog 44 149 (.agg #[(.int .i64 0),(.string ⟨#[]⟩),(.string ⟨#[]⟩)]) 3 40:=⟨Tt,Tt,O,Tu,Tu⟩
theorem el45:ElemIs prog 45 151 (.agg #[(.int .i64 0),(.string ⟨#[]⟩),(.int .i64 0),(.string ⟨#[]⟩),(.string ⟨#[]⟩)]) 5 64:=⟨Tt,Tt,O,Tu,Tu⟩
theorem J2:bQ prog 47 3:=by unfold bQ;kernel_rfl
theorem sz49:bQ prog 49 4:=by unfold bQ;kernel_rfl
theorem sz57:bQ prog 57 1:=by unfold bQ;kernel_rfl
theorem NG:bQ prog 59 4:=by unfold bQ;kernel_rfl
theorem JV:bQ prog 74 2:=by unfold bQ;kernel_rfl
theorem sz97:bQ prog 97 4:=by unfold bQ;kernel_rfl
theorem zb:bQ prog 110 2:=by unfold bQ;kernel_rfl
theorem tX:ElemIs prog 112 300 (.int .u64 0) 1 8:=⟨Tt,Tt,O,Tu,Tu⟩
theorem je:bQ prog 114 2:=by unfold bQ;kernel_rfl
theorem oW:bQ prog 116 4:=by unfold bQ;kernel_rfl
theorem lA:(prog.info? 116).map (·.zero)=some (some (.agg #[(.bool false),(.slice none 0 0),(.bool false),(.slice none 0 0)])):=Tt
theorem jD:bQ prog 120 6:=by unfold bQ;kernel_rfl
theorem r8:(prog.info? 120).map (·.zero)=some (some (.agg #[(.bool false),(.slice none 0 0),(.bool false),(.slice none 0 0),(.map none),(.map none)])):=Tt
theorem zz:bQ prog 147 2:=by unfold bQ;kernel_rfl
theorem Ot:bQ prog 149 3:=by unfold bQ;kernel_rfl
theorem NI:bQ prog 151 5:=by unfold bQ;kernel_rfl
theorem kT:bQ prog 162 2:=by unfold bQ;kernel_rfl
theorem wz:bQ prog 164 3:=by unfold bQ;kernel_rfl
theorem sz167:bQ prog 167 1:=by unfold bQ;kernel_rfl
theorem F2:bQ prog 206 1:=by unfold bQ;kernel_rfl
theorem HG:ElemIs prog 215 4 (.bool false) 1 1:=⟨Tt,Tt,O,Tu,Tu⟩
theorem M7:bQ prog 217 2:=by unfold bQ;kernel_rfl
theorem Im:bQ prog 222 2:=by unfold bQ;kernel_rfl
theorem NY:bQ prog 224 7:=by unfold bQ;kernel_rfl
theorem HU:bQ prog 238 4:=by unfold bQ;kernel_rfl
theorem Ow:ElemIs prog 277 5 (.int .u8 0) 1 1:=⟨Tt,Tt,O,Tu,Tu⟩
theorem fN:bQ prog 300 1:=by unfold bQ;kernel_rfl
theorem el320:ElemIs prog 320 50 (.int .i64 0) 1 8:=⟨Tt,Tt,O,Tu,Tu⟩
theorem el364:ElemIs prog 364 167 .nilFunc 1 8:=⟨Tt,Tt,O,Tu,Tu⟩
end Go.Proofs.YtoplpepiabedhaaGreatDoor
