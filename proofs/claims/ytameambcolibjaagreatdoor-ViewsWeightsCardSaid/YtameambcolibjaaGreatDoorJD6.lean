/- Lemmas. No condition. -/
import Derived.MapKept
import Derived.Carry
import Derived.Test.YtameambcolibjaaGreatDoorJD5
set_option maxRecDepth 100000
set_option maxHeartbeats 4000000
open Go.RowKit Go.Proofs.Tryz
open Option renaming some→UF,none→UG
open Bool renaming true→VA,false→WA
namespace Go.Proofs.YtameambcolibjaaGreatDoor
variable{d:TypeDesc}{k x b a clock i id j c n q:Nat}{u y zv:Value}{ps qs:List PV}{es:Array MapEntry}{key p zp:PV}{r:Option PV}{P:Program}{o:List Nat}{l L:List Int}{α:Type}{U:List Bool}
section
open Go.RowKit Go.MapKept
def bD:List PV->List PV->Option Bool
 |[],[]=>UF VA
 |.int k a::xs,.int k' b::bs=>bif kEq k k' then(bD xs bs).map λr=>(a==b)&&r else UG
 |.str a::xs,.str b::bs=>(bD xs bs).map λr=>(a==b)&&r
 |.bool a::xs,.bool b::bs=>(bD xs bs).map λr=>(a==b)&&r
 |_,_=>UG
def keq:PV->PV->Option Bool
 |.int k a,.int k' b=>bif kEq k k' then UF (a==b)else UG
 |.str a,.str b=>UF (a==b)
 |.bool a,.bool b=>UF (a==b)
 |.agg a,.agg b=>bD a b
 |_,_=>UG
def cG(k:PV):List PV->Nat->Option (Option Nat)
 |[],_=>UF UG
 | x::l,i=>match keq k x with
   |some VA=>UF (UF i)
   |some WA=>cG k l (i+1)
   |none=>UG
def Mc:TypeDesc->PV->Bool
 |.int k,.int k' _=>kEq k' k
 |.string,.str _=>VA
 |.bool,.bool _=>VA
 |_,_=>WA
section
variable {w:World}{R:Nat->Prop}
theorem Cu(k:IntKind):kEq k k=VA:=by cases k<;>rfl
theorem Je{k x:PV}(B:Mc d k=VA)(s:RelP w R k u)(A:RelP w R x y){b:Bool}(h:keq k x=UF b):Instr.sameNow d u y=UF b:=by
 cases k<;>cases d<;>simp only[Mc,Vv]at B<;>cases x<;>simp only[keq,reduceCtorEq]at h<;>simp only[RelP]at s A<;>subst s A
 .replace h:=ba h;have:=fm h.1;subst this;simpa[Instr.sameNow]using h.2
 .simpa[Instr.sameNow]using h
 simpa[Instr.sameNow]using h
theorem qn{k:PV}(s:Mc d k=VA)(A:RelP w R k u):∀{ks:List PV}{es:List MapEntry}{i:Nat}{r:Option Nat},RelPL w R ks (es.map (·.key))->cG k ks i=UF r->
  match r with
  |none=>Instr.findNow d u es i=UF UG
  |some j=>∃q e,j=i+q/\es[q]? =UF e/\Instr.findNow d u es i=UF (UF (j,e.val))
 |[],[],i,r,_,h=>by simp only[cG,Uo]at h;subst h;rfl
 |[],_::_,_,_,hr,_=>by simp[RelPL]at hr
 |x::ks,[],_,_,hr,_=>by simp[RelPL]at hr
 | x::ks,e::es,i,r,hr,h=>by
   simp only[cd,RelPL,Wg]at hr;obtain⟨y,ys,⟨rfl,rfl⟩,h1,h2⟩:=hr;simp only[cG]at h;split at h
   .rename_i hb;cases h;have:=Je s A h1 hb;exact⟨0,e,O,O,by simp[Instr.findNow,this]⟩
   .rename_i hb;have B:=Je s A h1 hb;have ih:=qn s A h2 h;cases r with
    |none=>simpa[Instr.findNow,B]using ih
    | some j=>
      obtain⟨q,e',hj,he,hf⟩:=ih;exact⟨q+1,e',XX,by simpa using he,by simpa[Instr.findNow,B]using hf⟩
   cases h
theorem sH{k:PV}(s:Mc d k=VA)(A:RelP w R k u):IsKey d u:=by
 cases k<;>cases d<;>simp only[Mc,Vv]at s<;>simp only[RelP]at A<;>subst A<;>first|exact fm s|trivial
theorem o9{k:PV}:∀{ks:List PV}{i j:Nat},cG k ks i=UF (UF j)->∃q x,j=i+q/\ks[q]? =UF x/\keq k x=UF VA
 |[],_,_,h=>by simp[cG]at h
 | x::ks,i,j,h=>by
   simp only[cG]at h;split at h
   .simp_all
   .obtain⟨q,y,e,h1,h2⟩:=o9 h;exact⟨q+1,y,XX,by simpa using h1,h2⟩
   cases h
theorem gG{a b:ByteArray}(h:(a==b)=VA):a=b:=by
 have:(a.data==b.data)=VA:=h;exact ByteArray.ext (eq_of_beq this)
theorem iL(a:ByteArray):(a==a)=VA:=by
 have:(a.data==a.data)=VA:=Vh a.data;exact this
theorem s8:∀{a b:List PV}{us vs:List Value},bD a b=UF VA->RelPL w R a us->RelPL w R b vs->us=vs/\∀n,((vs.zip us).all fun(x,y)=>Instr.sameBits n x y)=VA
 | [],[],us,vs,_,h1,h2=>by
   simp only[RelPL]at h1 h2;subst h1 h2;exact⟨O,λ_=>rfl⟩
 |[],_::_,_,_,h,_,_=>by simp[bD]at h
 |a::xs,[],_,_,h,_,_=>by cases a<;>simp[bD]at h
 | a::xs,b::bs,us,vs,h,h1,h2=>by
   simp only[RelPL]at h1 h2;obtain⟨u,us',rfl,ha,has⟩:=h1;obtain⟨v,vs',rfl,hb,hbs⟩:=h2;have s:∀r:Bool,(bD xs bs).map (λq=>r&&q)=UF VA->r=VA/\bD xs bs=UF VA:=λr e=>by simp_all
   have B:u=v/\(∀n,Instr.sameBits n v u=VA)/\bD xs bs=UF VA:=by
    cases a<;>cases b<;>simp only[bD,reduceCtorEq]at h
    .simp only[RelP]at ha hb;subst ha hb;rename_i k a k' b;cases hk:kEq k k' with
     |false=>rw[hk]at h;cases h
     | true=>
       rw[hk]at h;obtain⟨e1,e2⟩:=s _ h;have:=fm hk;have A:a=b:=by simpa using e1
       subst this A;exact⟨O,λn=>by cases n<;>simp[Instr.sameBits],e2⟩
    .simp only[RelP]at ha hb;subst ha hb;obtain⟨e1,e2⟩:=s _ h;have A:=eq_of_beq e1;subst A;exact⟨O,λn=>by cases n<;>simp[Instr.sameBits],e2⟩
    simp only[RelP]at ha hb;subst ha hb;obtain⟨e1,e2⟩:=s _ h;have A:=gG e1;subst A;exact⟨O,λn=>by cases n<;>exact iL _,e2⟩
   obtain⟨rfl,hs,hc⟩:=B;obtain⟨rfl,hr⟩:=s8 hc has hbs;exact⟨O,λn=>by simp only[List.zip_cons_cons,V1,hs n,hr n,Bool.and_self]⟩
theorem AR{k x:PV}(h:keq k x=UF VA)(A:RelP w R k u)(B:RelP w R x y):u=y/\Instr.sameBits 10000 y u=VA:=by
 cases k<;>cases x<;>simp only[keq,reduceCtorEq,Uo]at h
 case agg.agg a b=>
  simp only[RelP]at A B;obtain⟨us,rfl,D⟩:=A;obtain⟨vs,rfl,s⟩:=B;obtain⟨rfl,h3⟩:=s8 h D s;refine⟨O,?_⟩;show(us.toArray.size==us.toArray.size&&(us.toArray.toList.zip us.toArray.toList).all fun(x,y)=>Instr.sameBits 9999 x y)=VA;rw[Vh,WV];exact h3 9999
 all_goals simp only[RelP]at A B
 all_goals subst A B
 .replace h:=ba h;have D:=fm h.1;have s:=h.2;simp only[Uo,VK]at s;subst D s;simp[Instr.sameBits]
 .simp at h;subst h;simp[Instr.sameBits]
 have:=gG h;subst this;exact⟨O,by show(_==_)=VA;exact iL _⟩
end
def Ai(ks:List PV):Prop:=ks.Pairwise λa b=>keq a b=UF WA
theorem ym{a b:ByteArray}:(a==b)=(b==a):=by grind[gG,iL]
theorem Cm(a b:IntKind):kEq a b=kEq b a:=by
 cases h:kEq a b with
 |true=>rw[fm h,Cu]
 | false=>cases h2:kEq b a with
   |false=>rfl
   |true=>rw[fm h2,Cu]at h;cases h
theorem w5:∀a b:List PV,bD a b=bD b a
 |[],[]=>rfl
 |[],b::_=>by cases b<;>rfl
 |a::_,[]=>by cases a<;>rfl
 | a::xs,b::bs=>by
   cases a<;>cases b<;>simp only[bD]<;>rw[w5 xs bs]
   .grind[Cm]
   .grind
   rw[ym]
theorem Iz(a b:PV):keq a b=keq b a:=by
 cases a<;>cases b<;>simp only[keq]
 .grind[Cm]
 .grind
 .rw[ym]
 exact w5 _ _
theorem lS:∀{a b:List PV},bD a b=UF VA->a=b
 |[],[],_=>rfl
 |[],b::_,h=>by cases b<;>simp[bD]at h
 |a::_,[],h=>by cases a<;>simp[bD]at h
 | a::xs,b::bs,h=>by
   have fin:∀r:Bool,(bD xs bs).map (λq=>r&&q)=UF VA->r=VA/\xs=bs:=λr e=>by
    cases hc:bD xs bs with
    |none=>rw[hc]at e;cases e
    |some q=>rw[hc]at e;simp at e;exact⟨e.1,lS (by rw[hc,e.2])⟩
   cases a<;>cases b<;>simp only[bD,reduceCtorEq]at h
   .rename_i k a k' b;cases hk:kEq k k' with
    |false=>rw[hk]at h;cases h
    | true=>
      rw[hk]at h;obtain⟨e1,rfl⟩:=fin _ h;rw[fm hk,show a=b by simpa using e1]
   .grind
   obtain⟨e1,rfl⟩:=fin _ h;rw[gG e1]
theorem Ap{a b:PV}(h:keq a b=UF VA):a=b:=by
 cases a<;>cases b<;>simp only[keq,reduceCtorEq]at h
 .grind[kEq,fm]
 .grind
 .have e:=gG (Wn h);rw[e]
 rw[lS h]
theorem kn{k:PV}:∀{ks:List PV}{i:Nat},cG k ks i=UF UG↔∀x∈ks,keq k x=UF WA
 |[],i=>by simp[cG]
 | x::ks,i=>by
   simp only[cG];constructor
   .intro h;split at h
    .cases h
    .rename_i hb;intro y hy;rcases By.1 hy with rfl|hy
     .exact hb
     exact kn.1 h y hy
    cases h
   .intro h;rw[h x X2];exact kn.2 λy hy=>h y (by simp[hy])
theorem xC{k:PV}:∀{ks:List PV}{i j:Nat},(∀q x,q<j->ks[q]? =UF x->keq k x=UF WA)->(∃x,ks[j]? =UF x/\keq k x=UF VA)->cG k ks i=UF (UF (i+j))
 |[],_,_,_,h=>by obtain⟨x,h,_⟩:=h;simp at h
 | x::ks,i,0,_,h=>by
   obtain⟨y,h1,h2⟩:=h;simp only[List.getElem?_cons_zero,Uo]at h1;subst h1;simp[cG,h2]
 | x::ks,i,j+1,h0,h=>by
   obtain⟨y,h1,h2⟩:=h;have e:=h0 0 x XX O;have ih:=xC (ks:=ks) (i:=i+1) (j:=j) (λq z hq hz=>h0 (q+1) z XX (by simpa using hz)) ⟨y,by simpa using h1,h2⟩;simp only[cG,e,ih];rw[show i+1+j=i+(j+1) by omega]
def l9(n:Nat)(σ:St)(x:Operand)(ks vs:List PV):Prop:=
 (∃id,σ.ev n x= .map id/\σ.ob id=UF (.mp ks vs))\/(σ.ev n x= .pv (.mp ks vs)/\Ai ks)\/(σ.ev n x= .pv .nilmap/\ks=[]/\vs=[])
section
variable {C:Ctx}{n:Nat}{σ:St}{a:Act}{w:World}{m:Gm}{R:Nat->Prop}{x y z:Operand}{dst:Option Tmp}{ty t kt et:TypeId}{pos:String}{after:Array Edge}{gd:Option (Nat×Bool)}{ks vs:List PV}
theorem Db{es:List MapEntry}(s:RelPL w R ps (es.map (·.key)))(A:RelPL w R qs (es.map (·.val))):∀{es':List MapEntry},es.Perm es'->∃ps' qs',RelPL w R ps' (es'.map (·.key))/\RelPL w R qs' (es'.map (·.val))/\(ps'.zip qs').Perm (ps.zip qs):=by
 intro es' hp;induction hp generalizing ps qs with
 |nil=>exact⟨ps,qs,s,A,UX _⟩
 | cons e _ ih=>
   cases ps with
   |nil=>simp[RelPL]at s
   | cons p ps=>
     cases qs with
     |nil=>simp[RelPL]at A
     | cons q qs=>
       simp only[cd,RelPL,Wg]at s A;obtain⟨_,_,⟨rfl,rfl⟩,a1,a2⟩:=s;obtain⟨_,_,⟨rfl,rfl⟩,b1,b2⟩:=A;obtain⟨ps',qs',c1,c2,c3⟩:=ih a2 b2;exact⟨p::ps',q::qs',RelPL.cons a1 c1,RelPL.cons b1 c2,by simp only[List.zip_cons_cons];exact List.Perm.cons (p,q) c3⟩
 | swap e e' l=>
   cases ps with
   |nil=>simp[RelPL]at s
   | cons p ps=>
     cases ps with
     |nil=>simp[RelPL]at s
     | cons p' ps=>
       cases qs with
       |nil=>simp[RelPL]at A
       | cons q qs=>
         cases qs with
         |nil=>simp[RelPL]at A
         | cons q' qs=>
           simp only[cd,RelPL,Wg]at s A;obtain⟨_,_,⟨rfl,rfl⟩,a1,_,_,⟨rfl,rfl⟩,a2,a3⟩:=s;obtain⟨_,_,⟨rfl,rfl⟩,b1,_,_,⟨rfl,rfl⟩,b2,b3⟩:=A;exact⟨p'::p::ps,q'::q::qs,RelPL.cons a2 (RelPL.cons a1 a3),RelPL.cons b2 (RelPL.cons b1 b3),by simp only[List.zip_cons_cons];exact List.Perm.swap _ _ _⟩
 | trans _ _ ih1 ih2=>
   obtain⟨p1,q1,a1,a2,a3⟩:=ih1 s A;obtain⟨p2,q2,b1,b2,b3⟩:=ih2 a1 a2;exact⟨p2,q2,b1,b2,b3.trans a3⟩
def qX(vs:List PV):Option Nat->Option (Option PV)
 |none=>UF UG
 |some j=>(vs[j]?).map UF
theorem D6(I:ps.length=qs.length)(A:ks.length=vs.length)(V:Ai ks)(H:(ps.zip qs).Perm (ks.zip vs)){f:Option Nat}(J:cG key ks 0=UF f)(s:qX vs f=UF r):
  ∃f',cG key ps 0=UF f'/\qX qs f'=UF r:=by
 have M:∀x,x∈ps↔x∈ks:=λx=>by
  have B:(ps.zip qs).map (·.1)=ps:=XG (Vl I);have D:(ks.zip vs).map (·.1)=ks:=XG (Vl A);rw[<-B,<-D];exact(H.map _).mem_iff
 cases f with
 | none=>
   exact⟨UG,kn.2 λx hx=>kn.1 J x ((M x).1 hx),s⟩
 | some j=>
   obtain⟨q,x,hj,hx,hkx⟩:=o9 J;simp only[UQ]at hj;subst hj;have e:=Ap hkx;subst e;simp only[qX]at s;cases hv:vs[j]? with
   |none=>rw[hv]at s;cases s
   | some v=>
     rw[hv]at s;simp only[V5,Uo]at s;subst s;have T:(key,v)∈ps.zip qs:=H.mem_iff.2 (List.mem_iff_getElem?.2 ⟨j,by rw[List.getElem?_zip_eq_some];exact⟨hx,hv⟩⟩);obtain⟨i,hi⟩:=List.mem_iff_getElem?.1 T;rw[List.getElem?_zip_eq_some]at hi;have E:Ai ps:=by
      have B:(ps.zip qs).map (·.1)=ps:=XG (Vl I);have D:(ks.zip vs).map (·.1)=ks:=XG (Vl A);have G:ps.Perm ks:=by rw[<-B,<-D];exact H.map _
      exact(G.pairwise_iff (fun{a b} h=>by rw[Iz];exact h)).2 V
     refine⟨UF i,?_,by simp only[qX];rw[hi.2];rfl⟩;have:=xC (k:=key) (ks:=ps) (i:=0) (j:=i) (λq z hq hz=>?_) ⟨key,hi.1,hkx⟩
     .rw[this,UQ]
     obtain⟨h1,rfl⟩:=RE.1 hz;obtain⟨h2,h3⟩:=RE.1 hi.1;have:=UY.1 E q i h1 h2 hq;rw[h3,Iz]at this;exact this
theorem l9.at(s:SW C n σ a w m R)(h:l9 n σ x ks vs):(∃b es clock ps qs,a.eval x= .map (UF b)/\w.heap[b]? =UF (.map es clock)/\RelPL w R ps (es.toList.map (·.key))/\RelPL w R qs (es.toList.map (·.val))/\ks.length=ps.length/\
  ∀{key:PV}{f:Option Nat}{r:Option PV},cG key ks 0=UF f->qX vs f=UF r->∃f',cG key ps 0=UF f'/\qX qs f'=UF r)\/(a.eval x= .map UG/\ks=[]/\vs=[]):=by
 rcases h with⟨id,hx,ho⟩|⟨hx,hd⟩|⟨hx,h1,h2⟩
 .obtain⟨b,N,hm,hr⟩:=s.live ho;have:=s.ev x;rw[hx]at this;simp only[Rel]at this;obtain⟨es,clock,q1,q2,q3,_⟩:=hr;exact .inl ⟨b,es,clock,ks,vs,this.2 b N hm,q1,q2,q3,O,fun{key f r} h1 h2=>⟨f,h1,h2⟩⟩
 .have:=s.pv hx;simp only[RelP]at this;obtain⟨b,e,_,es,clock,l,q1,q2,q3,q4,q5⟩:=this;obtain⟨ps,qs,c1,c2,c3⟩:=Db q2 q3 q5;have l1:=q2.length;have l2:=q3.length;have A:=c1.length;have B:=c2.length;have D:=q5.length_eq;simp only[AS]at l1 l2 A B;exact .inl ⟨b,es,clock,ps,qs,e,q1,c1,c2,XX,fun{key f r} h1 h2=>D6 XX XX hd c3 h1 h2⟩
 have:=s.pv hx;simp only[RelP]at this;exact .inr ⟨this,h1,h2⟩
theorem run_map{w:World}{r:Nat}(s:w.heap[r]? =UF (.map es clock)):(getObj r).run P w= .ok (.map es clock) w:=by
 simp[getObj,Sem.run,s]
theorem fB{w:World}{r:Nat}(o:Obj)(s:w.heap[r]? =UF (.map es clock)):(setObj r o).run P w= .ok () { w with heap:=w.heap.setIfInBounds r o }:=by
 simp[setObj,Sem.run,s]
def jf(k:PV)(ks vs:List PV):Option (Option PV):=
 match cG k ks 0 with
 |some UG=>UF UG
 |some (UF j)=>(vs[j]?).map UF
 |none=>UG
theorem tr{k:PV}{ks vs:List PV}(h:jf k ks vs=UF r):∃f,cG k ks 0=UF f/\qX vs f=UF r:=by
 unfold jf at h;split at h
 .rename_i hf;exact⟨UG,hf,h⟩
 .rename_i j hf;exact⟨UF j,hf,h⟩
 cases h
theorem RelPL.at{us:List Value}(h:RelPL w R ps us)(s:ps[i]? =UF p)(A:us[i]? =UF u):RelP w R p u:=by
 obtain⟨u',h1,h2⟩:=h.get s;rw[A]at h1;cases h1;exact h2
theorem B4(V:SW C n σ a w m R)(H:C.P.underlying t=UF (.map kt et))(D:C.P.underlying kt=UF d)(I:Mc d key=VA)(W:l9 n σ x ks vs)(X:σ.ev n y= .pv key)(J:(C.P.info? et).map (·.zero)=UF (UF zv))(M:ofC zv=zp)(T:jf key ks vs=UF r)(ok:Bool):
  ∃u,RelP w R (r.getD zp) u/\(Instr.lookup t (a.eval x) (a.eval y) ok).run C.P w= .ok (if ok then .tuple #[u,.bool r.isSome]else u) w:=by
 have s:=V.pv X;have E:(zeroValue et).run C.P w= .ok zv w:=by
  cases hq:C.P.info? et with
  |none=>simp[hq]at J
  |some i=>simp[hq]at J;simp[zeroValue,typeInfo,hq,J]
 have A:RelP w R zp zv:=M▸zm w R zv;have B:=sH I s;rcases W.at V with⟨b,es,clock,ps,qs,e,hb,q2,q3,_,hsw⟩|⟨e,rfl,rfl⟩
 .obtain⟨f,G,hr⟩:=tr T;obtain⟨f',hf',hr'⟩:=hsw G hr;cases f' with
  | none=>
    simp only[qX,Uo]at hr';subst hr';have:=qn I s q2 hf';simp only at this;refine⟨zv,A,?_⟩;simp[Instr.lookup,e,run_underlying H,run_map hb,run_checkKey D B,run_findKey D this,E,Result.andThen]
  | some j=>
    obtain⟨q,e',hj,he,hfn⟩:=qn I s q2 hf';simp only[UQ]at hj;subst hj;simp only[qX]at hr';cases hv:qs[j]? with
    |none=>rw[hv]at hr';cases hr'
    | some p=>
      rw[hv]at hr';simp at hr';subst hr';refine⟨e'.val,RelPL.at q3 hv (by simp[he]),?_⟩;simp[Instr.lookup,e,run_underlying H,run_map hb,run_checkKey D B,run_findKey D hfn,Result.andThen]
 simp only[jf,cG,Uo]at T;subst T;refine⟨zv,A,?_⟩;have G:Instr.findNow d (a.eval y) (#[]:Array MapEntry).toList 0=UF UG:=rfl;simp[Instr.lookup,e,run_underlying H,run_checkKey D B,run_findKey D G,E,Result.andThen]
theorem vV{b:Bool}(A:C.P.underlying t=UF (.map kt et))(B:C.P.underlying kt=UF d)(D:l9 n σ x ks vs)(E:σ.ev n y= .pv key)(G:Mc d key=VA)(H:(C.P.info? et).map (·.zero)=UF (UF zv))(s:ofC zv=zp)(I:jf key ks vs=UF r)(J:r.getD zp=p)(M:r.isSome=b):
  XJ C n ⟨dst,.lookup t x y VA,ty,pos,after,gd⟩ σ ⟨.pv (.tup [p,.bool b]),[],[]⟩:=
 .val λa w m R hw=>by
  obtain⟨u,hr,hrun⟩:=B4 hw A B G D E H s I VA;subst J M;refine⟨_,by simp only[execOp,Sem.run_bind,hrun,Result.andThen_ok];rfl,?_⟩;simp only[Rel,RelP];exact⟨[u,.bool r.isSome],O,RelPL.cons hr (RelPL.cons (by simp only[RelP]) RelPL.nil)⟩
theorem oa(A:C.P.underlying t=UF (.map kt et))(B:C.P.underlying kt=UF d)(D:l9 n σ x ks vs)(E:σ.ev n y= .pv key)(G:Mc d key=VA)(H:(C.P.info? et).map (·.zero)=UF (UF zv))(s:ofC zv=zp)(I:jf key ks vs=UF r)(J:r.getD zp=p):
  XJ C n ⟨dst,.lookup t x y WA,ty,pos,after,gd⟩ σ ⟨.pv p,[],[]⟩:=
 .val λa w m R hw=>by
  obtain⟨u,hr,hrun⟩:=B4 hw A B G D E H s I WA;subst J;exact⟨u,by simp only[execOp,Sem.run_bind,hrun,Result.andThen_ok];rfl,by simpa only[Rel]using hr⟩
theorem rB(s:C.P.underlying t=UF (.map kt et))(A:l9 n σ x ks vs):
  XJ C n ⟨dst,.call { callee:=.builtin .len,args:= #[x],argTypes:= #[t] },ty,pos,after,gd⟩ σ ⟨pIi ks.length,[],[]⟩:=
 .val λa w m R hw=>by
  rcases A.at hw with⟨b,es,clock,ps,qs,e,hb,q2,q3,hlk,_⟩|⟨e,rfl,rfl⟩
  .have hl:=q2.length;simp only[AS]at hl;rw[<-hlk]at hl;exact⟨.int .i64 es.size,by simp[execOp,resolve,invoke,builtin,Builtin.len_,e,run_underlying s,run_map hb,goInt,Result.andThen],by simp only[Rel,RelP];simp at hl;rw[hl]⟩
  exact⟨.int .i64 0,by simp[execOp,resolve,invoke,builtin,Builtin.len_,e,run_underlying s,goInt],by simp only[Rel,RelP];rfl⟩
theorem SW.NL(h:SW C n σ a w m R)(B:σ.av id=VA)(obj:Obj)(N:Nat)(o:Ob)
  (W:∀(w':World)(m':Gm)(av':Av),(∀b,R b->R b/\w'.heap[b]? =w.heap[b]?)->w'.heap[w.heap.size]? =UF obj->nv w' m' av' R w.heap.size N o) (J:o.real=VA:=by rfl):
  SW C n ⟨σ.sl,obL [(id,UF o)] σ.ob,avL [id] σ.av⟩ a (w.alloc obj) (upd m id (UF (w.heap.size,N))) R:=by
 have G:∀b,R b->R b/\(w.alloc obj).heap[b]? =w.heap[b]? :=λb s=>⟨s,Below.heap_alloc w _ b (h.hr.rsz b s)⟩
 have H:∀i,σ.av i=WA->i≠id:=λi hi e=>by rw[e,B]at hi;cases hi
 have M:∀i x,σ.av i=WA->upd m id (UF (w.heap.size,N)) i=UF x->m i=UF x:=λi x hi e=>by rwa [aW _ _ (H i hi)]at e
 have I:∀i,σ.av i=WA->avL [id] σ.av i=WA:=λi hi=>by grind[avL,Nat.beq]
 have T:(w.alloc obj).heap.size=w.heap.size+1:=X2;have A:∀i,i≠id->obL [(id,UF o)] σ.ob i=σ.ob i:=λi hi=>by grind[Nat.beq,bZ,obL]
 have D:obL [(id,UF o)] σ.ob id=UF o:=by simp[obL]
 refine h.world ⟨?_,?_,?_,?_,?_,?_,h.hr.rfr,h.hr.r0,?_,?_,λi hi=>I i (h.hr.res i hi)⟩ G M I
 .intro i;by_cases e:i=id
  .subst e;rw[aB,D];exact J.symm
  rw[aW _ _ e,A i e];exact h.hr.dom i
 .intro i hi;simp only[avL]at hi;cases s:Nat.beq i id with
  |true=>rw[s]at hi;simp at hi
  | false=>
    rw[s]at hi;rw[A i (λe=>by subst e;simp at s)];exact h.hr.free i (by simpa using hi)
 .intro i o' b N h1 h2;by_cases e:i=id
  .subst e;rw[D]at h1;rw[aB]at h2;cases h1;cases h2;exact W _ _ _ G (heap_alloc_new w _)
  rw[A i e]at h1;rw[aW _ _ e]at h2;exact(h.hr.obj i o' b N h1 h2).mono G M I (Below.heap_alloc w _ b (h.hr.own i b N h2).1)
 .intro i j b N N' h1 h2;by_cases e1:i=id<;>by_cases e2:j=id
  .rw[e1,e2]
  .subst e1;rw[aB]at h1;rw[aW _ _ e2]at h2;cases h1;have:=(h.hr.own j _ _ h2).1;omega
  .subst e2;rw[aB]at h2;rw[aW _ _ e1]at h1;cases h2;have:=(h.hr.own i _ _ h1).1;omega
  rw[aW _ _ e1]at h1;rw[aW _ _ e2]at h2;exact h.hr.inj i j b N N' h1 h2
 .intro i b N h1;by_cases e:i=id
  .subst e;rw[aB]at h1;cases h1;exact⟨XX,λs=>by have:=h.hr.rsz _ s;omega,.inr h.hr.frame.size⟩
  rw[aW _ _ e]at h1;obtain⟨h2,h3,h4⟩:=h.hr.own i b N h1;exact⟨XX,h3,h4⟩
 .intro b s;have:=h.hr.rsz b s;omega
 .refine⟨h.hr.frame.os,h.hr.frame.tape,h.hr.frame.output,?_,?_⟩
  .have:=h.hr.frame.size;omega
  .intro k hk hF;rw[Below.heap_alloc w _ k (by have:=h.hr.frame.size;omega)];exact h.hr.frame.block k hk hF
 .intro i x hi e;have E:i≠id:=λV=>by subst V;rw[h.hr.res i hi]at B;cases B
  rw[aW _ _ E]at e;exact h.hr.gY i x hi e
theorem SW.turn(h:SW C n σ a w m R){N:Nat}(s:m id=UF (b,N))(w':World)(V:w'.heap.size=w.heap.size)(A:∀k,k≠b->w'.heap[k]? =w.heap[k]?)(e1:w'.os=w.os)(e2:w'.tape=w.tape)(e3:w'.output=w.output)(o:Ob)
  (T:(∀b,R b->R b/\w'.heap[b]? =w.heap[b]?)->nv w' m σ.av R b N o) (H:o.real=VA:=by rfl):
  SW C n ⟨σ.sl,obL [(id,UF o)] σ.ob,avL [] σ.av⟩ a w' m R:=by
 have D:=h.hr.own id b N s;have G:∀k,R k->R k/\w'.heap[k]? =w.heap[k]? :=λk hk=>⟨hk,A k (λe=>D.2.1 (e▸hk))⟩
 have B:∀i,i≠id->obL [(id,UF o)] σ.ob i=σ.ob i:=λi hi=>by grind[Nat.beq,bZ,obL]
 have E:obL [(id,UF o)] σ.ob id=UF o:=by simp[obL]
 have I:∀i x,σ.av i=WA->m i=UF x->m i=UF x:=λ_ _ _ e=>e
 have J:∀i,σ.av i=WA->avL [] σ.av i=WA:=λ_ hi=>hi
 refine h.world ⟨?_,?_,?_,h.hr.inj,?_,?_,h.hr.rfr,h.hr.r0,?_,h.hr.gY,h.hr.res⟩ G I J
 .intro i;by_cases e:i=id
  .subst e;rw[s,E];exact H.symm
  rw[B i e];exact h.hr.dom i
 .intro i hi;have e:i≠id:=λe=>by
   subst e;have:=h.hr.dom i;rw[h.hr.free i hi,s]at this;cases this
  rw[B i e];exact h.hr.free i hi
 .intro i o' b' N' h1 h2;by_cases e:i=id
  .subst e;rw[E]at h1;rw[s]at h2;cases h1;cases h2;exact T G
  rw[B i e]at h1;exact(h.hr.obj i o' b' N' h1 h2).mono G I J (A b' (λM=>e (h.hr.inj i id b N' N (M▸h2) s)))
 .intro i b' N' h1;obtain⟨h2,h3,h4⟩:=h.hr.own i b' N' h1;exact⟨XX,h3,h4⟩
 .intro b' hb';have:=h.hr.rsz b' hb';omega
 refine⟨e1.trans h.hr.frame.os,e2.trans h.hr.frame.tape,e3.trans h.hr.frame.output,?_,?_⟩
 .have:=h.hr.frame.size;omega
 .intro k hk hF;rw[A k (λe=>by subst e;rcases D.2.2 with h'|h';exact hF h';omega)];exact h.hr.frame.block k hk hF
theorem dK(id:Nat)(A:σ.av id=VA):XJ C n ⟨dst,.makeMap t UG,ty,pos,after,gd⟩ σ ⟨.map id,[(id,UF (.mp [] []))],[id]⟩:=by
 rintro a w Q ⟨m,R,hw⟩;unfold Oper.wp;have s:(execOp a.eval ⟨dst,.makeMap t UG,ty,pos,after,gd⟩).run C.P w= .ok (.value (.map (UF w.heap.size))) (w.alloc (.map #[] 0)):=by
  simp only[execOp,Option.map_none,Sem.run_bind,run_makeMap,Result.andThen_ok];rfl
 rw[s];refine⟨_,O,upd m id (UF (w.heap.size,0)),R,?_⟩;rw[TW];refine SW.put (hw.NL A (.map #[] 0) 0 (.mp [] []) ?_) dst ?_
 .intro w' m' av' hR hb;exact⟨#[],0,hb,RelPL.nil,RelPL.nil,by simp[dT]⟩
 simp only[Rel];refine⟨by simp[avL],λb N e=>?_⟩;rw[aB]at e;cases e;rfl
def mS(k:PV)(ks:List PV):List PV:=match cG k ks 0 with
 |some (UF j)=>ks.set j k
 |_=>ks++[k]
def T8(k v:PV)(ks vs:List PV):List PV:=match cG k ks 0 with
 |some (UF j)=>vs.set j v
 |_=>vs++[v]
theorem gC{v:PV}{r:Option Nat}{ks' vs':List PV}(ht:C.P.underlying t=UF (.map kt et))(V:C.P.underlying kt=UF d)(T:σ.ev n x= .map id)(ho:σ.ob id=UF (.mp ks vs))(hy:σ.ev n y= .pv key)(hz:σ.ev n z= .pv v)(hd:Mc d key=VA)(M:cG key ks 0=UF r)
  (ab:mS key ks=ks') (ac:T8 key v ks vs=vs'):XJ C n ⟨UG,.mapUpdate t x y z,ty,pos,after,gd⟩ σ ⟨.pv .any,[(id,UF (.mp ks' vs'))],[]⟩:=by
 rintro a w Q ⟨m,R,hw⟩;obtain⟨b,N,hm,es,clock,hb,q2,q3,q4⟩:=hw.live ho;have G:=hw.ev x;rw[T]at G;simp only[Rel]at G;have T:=G.2 b N hm;have s:=hw.pv hy;have E:=hw.pv hz;have W:=sH hd s;have ad:b<w.heap.size:=(S8.1 hb).1;have X:∀(es':Array MapEntry)(clock':Nat),(Instr.mapUpdate t (a.eval x) (a.eval y) (a.eval z)).run C.P w= .ok () { w with heap:=w.heap.setIfInBounds b (.map es' clock') }->
   RelPL w R ks' (es'.toList.map (·.key))->RelPL w R vs' (es'.toList.map (·.val))->dT es'.toList clock'->Oper.wp C.P ⟨UG,.mapUpdate t x y z,ty,pos,after,gd⟩ a w (λa' w'=>∃σ',σ'=σ.app UG ⟨.pv .any,[(id,UF (.mp ks' vs'))],[]⟩/\SJ C n σ' a' w') Q:=by
  intro es' clock' hrun h1 h2 h3;unfold Oper.wp;have H:(execOp a.eval ⟨UG,.mapUpdate t x y z,ty,pos,after,gd⟩).run C.P w= .ok .skip { w with heap:=w.heap.setIfInBounds b (.map es' clock') }:=by
   simp only[execOp,Sem.run_bind,hrun,Result.andThen_ok,Sem.run_pure]
  rw[H];refine⟨_,O,m,R,hw.turn hm { w with heap:=w.heap.setIfInBounds b (.map es' clock') } X2 (λk V=>by simp only;rw[VT (λe=>V e.symm)]) O O O (.mp ks' vs') λhR=>?_⟩;exact⟨es',clock',by simp only;rw[Wo];simp[ad],h1.mono hR,h2.mono hR,h3⟩
 have hl:=q2.length;have af:=q3.length;simp only[AS]at hl af;cases r with
 | none=>
   have D:=qn hd s q2 M;simp only at D;refine X (es.push ⟨a.eval y,a.eval z,clock⟩) (clock+1) ?_ ?_ ?_ ?_
   .simp[Instr.mapUpdate,T,run_underlying ht,run_map hb,run_checkKey V W,run_findKey V D,fB _ hb,Result.andThen]
   .rw[<-ab];simp only[mS,M,XA,UO,cd,Vn];exact q2.append (RelPL.cons s RelPL.nil)
   .rw[<-ac];simp only[T8,M,XA,UO,cd,Vn];exact q3.append (RelPL.cons E RelPL.nil)
   simp only[dT,XA,UO,cd,Vn];refine⟨Wi.2 ⟨q4.1,X2,λx T y hy e=>?_⟩,λe he=>?_⟩
   .obtain⟨e',he',rfl⟩:=IS.1 T;have:=q4.2 e' he';simp at hy;omega
   rcases UN.1 he with h|h
   .exact Nat.lt_succ_of_lt (q4.2 e h)
   grind
 | some j=>
   obtain⟨q,e',hj,he,D⟩:=qn hd s q2 M;obtain⟨q',x',hj',hx',hkq⟩:=o9 M;simp only[UQ]at hj hj';subst hj';subst hj;have Y:=RelPL.at q2 hx' (by simp[he]:(es.toList.map (·.key))[j]? =UF e'.key);have I:=AR hkq s Y;have J:j<es.size:=(RE.1 he).1 |> λh=>by simpa using h
   have Z:es[j]? =UF e':=by simpa using he
   have aa:es[j]=e':=by have:=Array.getElem?_eq_getElem J;rw[Z]at this;exact(Wn this).symm
   have A:(es.modify j λe=>{ e with key:=a.eval y,val:=a.eval z }).toList=es.toList.set j ⟨a.eval y,a.eval z,e'.born⟩:=by
    apply Xh;intro i;rw[Xv,Xu,WX];by_cases e:j=i
    .subst e;simp[J,aa]
    simp[e]
   refine X (es.modify j λe=>{ e with key:=a.eval y,val:=a.eval z }) clock ?_ ?_ ?_ ?_
   .simp[Instr.mapUpdate,T,run_underlying ht,run_map hb,run_checkKey V W,run_findKey V D,fB _ hb,Result.andThen,Instr.keyThatStays,Z,I.2]
   .rw[A,<-ab];simp only[mS,M,U9];exact q2.set j s
   .rw[A,<-ac];simp only[T8,M,U9];exact q3.set j E
   rw[A];have B:(es.toList.set j ⟨a.eval y,a.eval z,e'.born⟩).map (·.born)=es.toList.map (·.born):=by
    rw[U9];apply Xh;intro i;rw[WX];by_cases e:j=i
    .subst e;simp[J,aa]
    simp[e]
   refine⟨by rw[B];exact q4.1,λe hm=>?_⟩;have:e.born∈es.toList.map (·.born):=by rw[<-B];exact IS.2 ⟨e,hm,O⟩
   obtain⟨e2,h2,h3⟩:=IS.1 this;rw[<-h3];exact q4.2 e2 h2
def RO(ids:List Nat)(base k':Nat)(Q:V->(Nat->Option Ob)->Prop)(s:OS):Prop:=∃v ob',Q v ob'/\s=⟨v.ren (fh ids base),wrO ids base k' ob',nwO base k'⟩
theorem KQ(ids:List Nat)(base k':Nat)(ob':Nat->Option Ob):(wrO ids base k' ob').map (·.1)=ids++nwO base k':=by
 have h:∀(l:List Nat)(j:Nat),(l.zipIdx j).map (λp=>p.1)=l:=by simp_all
 unfold wrO nwO;rw[UO,Vb,Vb];exact congr (ah _ (h ids 0)) O
theorem relO{f:FuncId}{xs:Array Operand}{ts:Array TypeId}{args:List V}{os:List (Nat×Ob)}{k':Nat}{Q:V->(Nat->Option Ob)->Prop}(ids:List Nat)(base:Nat)(hc:db C.P f)(H:FnO C.P f ids.length k' args os Q)(A:xs.toList.map (σ.ev n)=V.renL (fh ids base) args)
  (I:V.allL (okR ids.length 0) args=VA) (hos:os.map (·.1)=(List.range ids.length).map (big+ ·)) (D:os.all (λp=>p.2.all (okR ids.length 0))=VA) (B:gJ σ (fh ids base) os) (E:ids.Nodup) (G:(nwO base k').all σ.av=VA):
  OJ C n ⟨dst,.call { callee:=.value (.func f),args:=xs,argTypes:=ts },ty,pos,after,gd⟩ (λτ'=>∃s,RO ids base k' Q s/\s.wr.map (·.1)=ids++nwO base k'/\s.nw=nwO base k'/\τ'=σ.app dst s) σ:=
 cj ids base hc A I hos D B E G H λv ob' h=>⟨_,⟨v,ob',h,O⟩,KQ _ _ _ _,O,O⟩
end
end
section
section
variable {C:Ctx}{n:Nat}{σ:St}{dst:Option Tmp}{ty t t':TypeId}{pos:String}{after:Array Edge}{gd:Option (Nat×Bool)}{x y:Operand}
theorem lz{e:TypeId}{z:Value}{size bytes:Nat}{news:List PV}(id':Nat)(s:ElemIs C.P t e z size bytes)(V:σ.ev n x= .pv nS)
  (D:k9 n σ y j news) (I:news.length=j*size) (J:∀c∈news,c.leaf=VA) (W:j<=1000000000) (E:σ.av id'=VA):
  XJ C n ⟨dst,.call { callee:=.builtin .append,args:= #[x,y],argTypes:= #[t,t] },ty,pos,after,gd⟩ σ ⟨.gsl id' size j,[(id',UF (.gro e news))],[id']⟩:=by
 rintro a w Q ⟨m,R,hw⟩;have M:=hw.pv V;simp only[RelP]at M;obtain⟨A0,c0,hev,_,_,hn,hc0,_⟩:=M;have G:A0=UG:=by cases A0;rfl;have:=hn VA O;simp at this
 subst G;rw[hc0 trivial]at hev;obtain⟨A,c2,us,hev2,hr2,hrow⟩:=D.row hw;rcases Ve j with rfl|hj
 .obtain rfl:news=[]:=UM (by simpa using I);obtain⟨i,hi,_⟩:=info_parts s.info;have B:(Builtin.append_ #[t,t] ty #[.slice UG 0 0,.slice A 0 c2]).run C.P w= .ok (.slice UG 0 0) w:=by
   cases A<;>simp[Builtin.append_,run_underlying s.u,sizeOf,typeInfo,hi,Builtin.lenOf,Builtin.firstCells,loadCells,loadCellsFrom]
  unfold Oper.wp execOp;simp only[resolve,invoke,builtin,Sem.run_bind,Sem.run_pure,Result.andThen_ok,Xb,cd,Vn,hev,hev2,B];obtain⟨h,hmn⟩:=hw.gro0 E e;refine⟨_,O,m,R,?_⟩;rw[TW];exact SW.put h dst<|An (by simp only[RelP];exact⟨UG,0,O,tJ _,by simp[maxLen],(λ_ e=>by cases e;rfl),(λ_=>rfl),λe=>absurd O e⟩) hmn (by simp[avL])
 have hnl:0<news.length:=by rw[I];exact XL hj s.pos
 have H:news≠[]:=U7.1 hnl;refine rC x y t O 0 e z size bytes s.u s.info s.zs s.pos s.by_ _ 0 j c2 A _ us hev hev2 (World.ownsRow_nil w 0 e size) hrow (by rw[hr2.length,I]) (eK hr2 J) XX (aJ _) ?_;intro A' c' w' hown' hgr hat
 simp only[UQ,Vo]at hown' hat ⊢;rcases hown'.2 with⟨hv,h0⟩|⟨g,cap,cur,hv,_,hg,hkc',hcm',hcs',htk⟩
 .omega
 simp only[Value.slice.injEq]at hv;obtain⟨rfl, -,rfl⟩:=hv;have T:w.heap.size<=g:=by
  rcases hat with h|⟨g',h,hle⟩
  .simp[Value.ownBlock]at h
  simp only[Value.ownBlock,Uo]at h;subst h;exact hle
 refine⟨_,O,upd m id' (UF (g,cur.size)),R,?_⟩;rw[TW];refine SW.put (hw.fresh E hg hgr (λq hq=>by simp[Value.ownBlock]at hq) (λh=>by have:=hw.hr.rsz _ h;omega) (λi b N hi e=>by have:=(hw.hr.own i b N hi).1;omega) (.inr (by have:=hw.hr.frame.size;omega)) (.gro e news) ?_ (cY H)) dst ?_
 .intro m' av' hR _ _;refine⟨cur,hg,O,?_,?_⟩
  .rw[hcs',<-hr2.length,hown'.1];exact Vk _ hkc'
  rw[<-hr2.length,hown'.1,htk];exact hr2.mono hR
 simp only[Rel];refine⟨by simp[avL],_,c',O,hkc',hcm',λh=>by omega,λ_ b N e=>?_⟩;rw[aB]at e;cases e;exact⟨O,hcs'⟩
end
def St.ownC(σ:St)(pid j id sz k:Nat)(T T':TypeId)(cs:List PV)(vs:List V):St:=⟨σ.sl,obL [(pid,UF (.mix T' (vs.set j (.osl id sz k)))),(id,UF (.cells T cs))] σ.ob,σ.av⟩
theorem RelL.setG{w:World}{m:Gm}{av:Av}{R:Nat->Prop}:∀{ps:List V}{us:List Value}(i:Nat){p q:V},RelL w m av R ps us->ps[i]? =UF p->(∀u,Rel w m av R p u->Rel w m av R q u)->RelL w m av R (ps.set i q) us
 |[],_,n,_,_,h,hp,_=>by simp at hp
 |c::cs,_,0,_,_,h,hp,k=>by grind[RelL]
 | c::cs,_,n+1,_,_,h,hp,k=>by
   simp only[RelL]at h;obtain⟨u,xs,rfl,h1,h2⟩:=h;simp only[List.set_cons_succ,RelL];exact⟨u,xs,O,h1,RelL.setG n h2 (by simpa using hp) k⟩
theorem St.IW{σ:St}{sz:Nat}{T T':TypeId}{cs:List PV}{vs:List V}(pid j:Nat)(D:σ.ob pid=UF (.mix T' vs))(E:vs[j]? =UF (.gsl id sz k))(G:σ.ob id=UF (.gro T cs))(s:0<k)(hc:cs≠[]):σ.le (σ.ownC pid j id sz k T T' cs vs):=
 St.Uc λB=>⟨B.sl,λp hp=>by
  rcases By.1 hp with rfl|hp
  .refine⟨_,_,D,O,O,λb N _ ⟨arr,q1,q2,q3,q4⟩=>⟨arr,q1,q2,by rw[Ut];exact q3,?_⟩⟩;rw[Ut];refine RelL.setG j q4 E λu hu=>?_
   simp only[Rel]at hu ⊢;obtain⟨h0,A,c,he,h1,h2,h3,h4⟩:=hu;refine⟨h0,λb N hm=>⟨c,?_,h1,h2,(h4 s b N hm).2⟩⟩;rw[he,(h4 s b N hm).1]
  obtain rfl:=IT.1 hp;exact⟨_,_,G,O,(cY hc).symm,λ_ _ _ h=>h⟩⟩
end

section
theorem xm(h:a<=9223372036854775807):IntKind.i64.wrap ((a:Int).tdiv 1000000000)=((a/1000000000:Nat):Int):=by grind[eF]
theorem A8{y:Nat}(s:x<1000000000)(A:y<1000000000):x*y<=999999998000000001:=Va (show x<=999999999 by omega) (show y<=999999999 by omega)
theorem DN  {S:Nat} (s:o.length=i) (h:val o+1000000000^i*c=S*n):
  val (o++[(c+x*n)%1000000000])+1000000000^(i+1)*((c+x*n)/1000000000)=(S+1000000000^i*x)*n:=by grind[cU,val_one,Vc,XT,Vm,Wd,Nat.mod_add_div]
theorem MO(s:x<1000000000)(hc:c<n\/c=0)(A:n<1000000000):(c+x*n)/1000000000<n\/(c+x*n)/1000000000=0:=by
 rcases Ve n with e|e
 .grind
 left
 rw[WJ XZ];have:x*n<=999999999*n:=Vk _ XX;omega
theorem eI(a n:Nat)(ha:(ae a).length<=1000000)(W:n<1000000000):FnP prog 286 [pli (ae a),.int .i64 n] (· =pli (ae (a*n))):=by
 refine FnP.of func286 O ntmps286 X2 λ_ _ _ _=>?_
 obtain⟨la,hla⟩:∃n:Nat,n=(ae a).length:=⟨_,O⟩;refine Z1 O<|Z1 O<|TN (TU 5 0 1 3 O O)<|Z1 O<|Z1 O<|Gl O (st:=λX6:Nat×Nat×List Nat=>mkS [(0,.pv (pli (ae a))),(1,pIi n),(5,.gsl 0 1 X6.2.2.length),(6,pIi X6.2.1),(7,pIi X6.1)] [(0,.gro 3 (gF X6.2.2))] 1)
  (I:=λX6=>(X6.2.2.length=X6.1/\X6.1<=la+1/\(X6.1=la+1->X6.2.1=0))/\(Lok X6.2.2/\(X6.2.1<n\/X6.2.1=0))/\val X6.2.2+1000000000^X6.1*X6.2.1=sm (lim (ae a)) X6.1*n) (μ:=λX6=>la+1-X6.1) (x0:=(0,0,[])) (TO (aS O) (aO O) O O) (⟨⟨O,aJ _,λ_=>rfl⟩,⟨λ_ h=>absurd h X2,.inr O⟩,by simp[val,sm]⟩) ?_
 rintro⟨i,c,o⟩ ⟨⟨hol,hil,hic⟩,⟨hok,hc⟩,he⟩;try simp only at hol hil hic hok hc he ⊢
 refine Gr O<|Ar 5 O ?_;apply TX 3 12 15 [13,14] O X8
 .intro hb4;exact Y3 O<|TQ X7 O O O
 .intro hb4;exact Y3 O<|TQ X7 O O O
 refine Gc O (λs=>?_) (λs=>?_)
 .have hst:=DN (x:=lim (ae a) i) hol he;have D:=cR (aZ a) i;have X:=A8 D W;have B:=MO D hc W;have G:sm (lim (ae a)) (i+1)=sm (lim (ae a)) i+1000000000^i*lim (ae a) i:=rfl;rw[<-G]at hst;have A:=hok.append (r:=[(c+lim (ae a) i*n)%1000000000]) (Lok.one (Vi _ XZ));have Y:i<=la:=by
   simp only[UW,OC]at s;rcases s with e|e<;>omega
  refine TM<|Z4 O<|Gp O (λE=>?_) (λE=>?_)
  .have hia:i<(ae a).length:=XX;have Z:=cC hia;have H:=dh hia;generalize lim (ae a) i=x at*;refine Z3 O<|Rs O (ag i underlying22 sz3 O O O hia H) ?_;first|refine A2 O X0 ?_|refine A1 O ?_
   exact A1 O<|Rs O (Cq O O (by rw[<-VN];omega))<|Rs O (XJ.cast (v':= pIi ((c+x*n:Nat):Int)) (kM O O (by rw[<-VN];omega)) O)<|A1 O<|Z2 O<|Rs O (XJ.cast (v':= pIi (((c+x*n)%1000000000:Nat):Int)) (fp O O XZ) O)<|Y3 O<|Z1 O<|Rs O (XJ.cast (v':= pIi (((c+x*n)/1000000000:Nat):Int)) (dw O O XZ) (ah (λi=>pIi i) (xm XX)))<|A1 O<|Z3 O<|⟨(i+1,(c+x*n)/1000000000,o++[(c+x*n)%1000000000]),TP [2] ⟨O,O,UI (b:=.gsl 2 1 (o.length+1)) O (ah (V.gsl 2 1) (c7 o _)),O,O,X5⟩ ⟨ah (λc=>UF (Ob.gro 3 c)) (limI_snoc _ _),X5⟩ O O XZ O,⟨⟨by simp only[D8,Uu];omega,XX,λh=>by omega⟩,⟨A,B⟩,hst⟩,XX⟩
  have hx0:lim (ae a) i=0:=jn XX;rw[hx0,XW,Wf]at hst A B;exact TM<|Z2 O<|Rs O (XJ.cast (v':= pIi ((c%1000000000:Nat):Int)) (fp O O XZ) O)<|Y3 O<|Z1 O<|Rs O (XJ.cast (v':= pIi ((c/1000000000:Nat):Int)) (dw O O XZ) (ah (λi=>pIi i) (xm XX)))<|A1 O<|Z3 O<|⟨(i+1,c/1000000000,o++[c%1000000000]),TP [2] ⟨O,O,UI (b:=.gsl 2 1 (o.length+1)) O (ah (V.gsl 2 1) (c7 o _)),O,O,X5⟩ ⟨ah (λc=>UF (Ob.gro 3 c)) (limI_snoc _ _),X5⟩ O O XZ O,⟨⟨by simp only[D8,Uu];omega,XX,λh=>by show c/1000000000=0;omega⟩,⟨A,B⟩,hst⟩,XX⟩
 refine Gx O ?_;have J:c=0/\la<=i:=by
  simp only[UK,Vt]at s;omega
 have M:val o=a*n:=by rw[J.1,Xz,Wf,eD _ XX,aI]at he;exact he
 have T:=cO (neg:=WA) o O XX hok M;exact TN (TR 0 O O)<|Z2 O<|Rs O (aa call176 T O)<|Rs O (iR underlying124 O O ⟨_,underlying22,O⟩ O O)<|A1 O<|Gt O<|⟨_,_,O,O,by show pli (ae (sgn WA (a*n)).natAbs)=_;rw[vx]⟩
def vL(l:List Int):List PV:=l.map fun(n:Int)=>PV.int .i64 n
theorem LX(l:List Int):(vL l).length=l.length:=by simp[vL]
theorem qV(h:k<l.length):(vL l)[k*1]? =UF (.int .i64 (l.getD k 0)):=by simp[vL,List.getD,h]
theorem mK(l:List Int)(k:Nat)(x:Int):(vL l).set k (.int .i64 x)=vL (l.set k x):=by simp[vL,U9]
theorem intI_nat(l:List Nat):gF l=vL (l.map Int.ofNat):=by simp[vL,gF]
attribute [simp] LX
theorem cB{x:Int}(s:k<l.length):(l.set k x).getD i 0=if i=k then x else l.getD i 0:=by grind
theorem Bd(l:List Nat)(i:Nat):(l.map Int.ofNat).getD i 0=(lim l i:Int):=by
 simp only[List.getD,lim,Wc];cases l[i]? <;>rfl
structure MinI(a b n i c:Nat)(L:List Int):Prop where
 len:L.length=n
 ile:i<=n
 cle:c<=1
 lo:∀j,j<i->0<=L.getD j 0/\L.getD j 0<1000000000
 mid:i<n->L.getD i 0=(lim (ae a) i:Int)-c
 hi:∀j,i<j->L.getD j 0=(lim (ae a) j:Int)
 sum:sm (λj=>(L.getD j 0).toNat) i+sm (lim (ae b)) i=sm (lim (ae a)) i+1000000000^i*c
theorem jz{M:List Int}(h:MinI a b n i c L)(I:i<n){x:Int}{c':Nat}(s:c'<=1)(A:0<=x/\x<1000000000)
  (W:x=(lim (ae a) i:Int)-c-lim (ae b) i+1000000000*c') (J:M.length=n) (B:∀j,j<i->M.getD j 0=L.getD j 0) (D:M.getD i 0=x)
  (T:i+1<n->M.getD (i+1) 0=(lim (ae a) (i+1):Int)-c') (V:∀j,i+1<j->M.getD j 0=L.getD j 0):MinI a b n (i+1) c' M:=by
 refine⟨J,I,s,λj hj=>?_,T,λj hj=>by rw[V j hj,h.hi j XX],?_⟩
 .rcases Vu.1 hj with e|e
  .rw[B j e];exact h.lo j e
  rw[e,D];exact A
 have hs:=h.sum;have E:sm (λj=>(M.getD j 0).toNat) i=sm (λj=>(L.getD j 0).toNat) i:=vz λj hj=>by simp only[B j hj]
 rw[sm,sm,sm,E,Vc];simp only[D];obtain⟨y,rfl⟩:=tI A.1;rw[Ux];have G:y+lim (ae b) i+c=lim (ae a) i+1000000000*c':=XX;generalize 1000000000^i=p at*;have H:p*(y+lim (ae b) i+c)=p*(lim (ae a) i+1000000000*c'):=by rw[G]
 rw[Wd,Wd,Wd]at H;rw[Vm p];omega
theorem Bk(h:MinI a b n n c L)(H:n=(ae a).length)(G:b<=a):Lok (L.map Int.toNat)/\val (L.map Int.toNat)=a-b/\c=0/\vL L=gF (L.map Int.toNat):=by
 have I:(ae b).length<=n:=by rw[H];exact aY.2 (Xa G (dV a))
 have s:=h.len;have D:∀j,lim (L.map Int.toNat) j=(L.getD j 0).toNat:=λj=>by grind
 have A:Lok (L.map Int.toNat):=λx hx=>by
  obtain⟨y,hy,rfl⟩:=IS.1 hx;obtain⟨j,hj,rfl⟩:=Vz hy;have:=h.lo j XX;simp only[List.getD,BY hj,Ww]at this;omega
 have J:=h.sum;have M:sm (λj=>(L.getD j 0).toNat) n=val (L.map Int.toNat):=by
  rw[<-eD (L.map Int.toNat) (n:=n) X3];exact vz λj _=>(D j).symm
 rw[M,eD _ I,eD _ (Vl H.symm),aI,aI]at J;have E:=sy A;rw[AS,s]at E;have B:c=0:=by
  rcases Ve c with e|e
  .exact e
  have:=h.cle;have:c=1:=XX;subst this;omega
 refine⟨A,by subst B;omega,B,?_⟩;have:∀y∈L,(y.toNat:Int)=y:=λy hy=>by
  obtain⟨j,hj,rfl⟩:=Vz hy;have:=h.lo j XX;simp only[List.getD,BY hj,Ww]at this;omega
 simp only[vL,gF,Vb];refine UT λy hy=>?_
 show PV.int .i64 y=PV.int .i64 (y.toNat:Int);rw[this y hy]
theorem HY(h:MinI a b n i c L)(H:n=(ae a).length)(B:b<=a)(I:i<n)(E:(lim (ae a) i:Int)-c-lim (ae b) i<0):i+1<n:=by
 apply Decidable.byContradiction;intro hlast;have A:i+1=n:=XX;have G:=cR (aZ b) i;have hc:=h.cle;have D:MinI a b n (i+1) 1 (L.set i ((lim (ae a) i:Int)-c-lim (ae b) i+1000000000)):=by
  have s:=h.len;refine jz h I (x:=(lim (ae a) i:Int)-c-lim (ae b) i+1000000000) (c':=1) XZ ⟨XX,XX⟩ O (by simp[s]) (λj hj=>?_) ?_ (λh=>by omega) (λj hj=>?_)
  .grind
  .rw[cB XX,AT O]
  grind
 rw[A]at D;have:=(Bk D H B).2.2.1;cases this
theorem Jm(a b n:Nat)(s:n=(ae a).length):MinI a b n 0 0 ((ae a).map Int.ofNat):=by
 refine⟨by simp[s],aJ _,aJ _,λj hj=>absurd hj (VV _),λ_=>?_,λj _=>Bd _ _,by simp[sm]⟩;rw[Bd];simp
theorem xk(l:List Nat):∀c∈gF l,c.leaf=VA:=λc hc=>by obtain⟨x,_,rfl⟩:=IS.1 hc;rfl
theorem ji(a b:Nat)(ha:(ae a).length<=1000000)(ab:b<=a)(ha0:0<a):FnP prog 238 [pli (ae a),pli (ae b)] (λv=>∃o,Lok o/\o.length=(ae a).length/\val o=a-b/\v=pli o):=by
 refine FnP.fg2 (FnP.of func238 O ntmps238 X2 λ_ _ _ _=>?_);obtain⟨n,hn⟩:∃n:Nat,n=(ae a).length:=⟨_,O⟩;have ac:0<(ae a).length:=WN λe=>by have:=bI.1 e;omega
 refine Z1 O<|Z1 O<|Rs O (oc 0 vN O (.inl ⟨UG,O⟩) X2 (xk _) XX ac O)<|A1 O<|Z1 O<|Gz O (st:=λX6:Nat×Nat×List Int=>([(1,UG),(5,UG),(6,UF (pIi X6.1))],[(0,UF (.cells 3 (vL X6.2.2)))])) 1
  (I:=λX6=>MinI a b n X6.1 X6.2.1 X6.2.2) (μ:=λX6=>n-X6.1) (x0:=(0,0,(ae a).map Int.ofNat)) (TO (aS O) ⟨ah (λc=>UF (Ob.cells 3 c)) (intI_nat _),X5⟩ O O) (Jm a b n hn) ?_
 rintro⟨i,c,L⟩ hM;try simp only at hM ⊢
 refine Z4 O<|Gp O (λZ=>?_) (λZ=>?_)
 .have hin:i<n:=XX;have A:=hM.len;have T:i<L.length:=XX;have X:=hM.mid hin;have hc1:=hM.cle;have hxa:=cR (aZ a) i;have hxb:=cR (aZ b) i;have E:=HY hM hn ab hin;have V:=qV T;rw[X]at V
  refine TM<|Z4 O<|Gp O (λaa=>?_) (λaa=>?_)
  .have hib:i<(ae b).length:=XX;have hvb:=cC hib;have ad:=dh hib;refine UB 11 O<|Dr 2 O<|Ds [_] O (λτ h=>aj i underlying22 sz3 (Ee h 0 O O) (Eo h 0 O O) (Ee h 1 O O) O XX) O XY ?_;first|refine D2 O O X0 ?_|refine D1 O ?_
   refine Dr 2 O<|Ds [] O (λτ h=>ag i underlying22 sz3 (Ee h 0 O O) (Ee h 1 O O) O hib ad) O XY ?_;first|refine D2 O O X0 ?_|refine D1 O ?_
   refine D1 O<|Ds [_] O (λτ h=>aj i underlying22 sz3 (Ee h 0 O O) (Eo h 0 O O) (Ee h 1 O O) O XX) O XY<|D1 O ?_;refine⟨XY,?_⟩;rw[show(vL L).set (i*1) (.int .i64 ((lim (ae a) i:Int)-c-(lim (ae b) i:Int)))=vL (L.set i ((lim (ae a) i:Int)-c-lim (ae b) i)) by rw[Uv,mK]];have B:∃x0,x0=(lim (ae a) i:Int)-c-lim (ae b) i:=⟨_,O⟩;obtain⟨x0,B⟩:=B;rw[<-B];have m1:(L.set i x0).length=n:=by rw[Ut];exact A
   have m2:(L.set i x0).getD i 0=x0:=by rw[cB T,AT O]
   have m3:∀j,j≠i->(L.set i x0).getD j 0=L.getD j 0:=λj hj=>by rw[cB T,pF hj]
   generalize L.set i x0=M at*;have D:i<M.length:=XX;have G:=qV D;rw[m2]at G;clear V
   refine Z2 O<|Rs O (aj i underlying22 sz3 O O O O XX) ?_;first|refine A2 O X0 ?_|refine A1 O ?_
   refine A1 O<|Gp O (λJ=>?_) (λJ=>?_)
   .have hi1:=E XX;have q1:(M.set i (x0+1000000000)).length=n:=by rw[Ut];exact m1
    have q2:(M.set i (x0+1000000000)).getD i 0=x0+1000000000:=by rw[cB D,AT O]
    have W:∀j,j≠i->(M.set i (x0+1000000000)).getD j 0=L.getD j 0:=λj hj=>by rw[cB D,pF hj,m3 j hj]
    refine Z2 O<|Rs O (aj i underlying22 sz3 O O O O XX) ?_;first|refine A2 O X0 ?_|refine A1 O ?_
    refine A1 O<|Rs O (aj i underlying22 sz3 O O O O XX)<|A1 O ?_;rw[show(vL M).set (i*1) (.int .i64 (x0+1000000000))=vL (M.set i (x0+1000000000)) by rw[Uv,mK]];generalize M.set i (x0+1000000000)=M2 at*;have s:i+1<M2.length:=XX;have H:=qV s;have Y:=cR (aZ a) (i+1);rw[W (i+1) XX,hM.hi (i+1) XX]at H;refine Z3 O<|Rs O (aj (i+1) underlying22 sz3 O O O O XX) ?_;first|refine A2 O X0 ?_|refine A1 O ?_
    exact A1 O<|Rs O (aj (i+1) underlying22 sz3 O O O O XX)<|A1 O<|Z3 O<|⟨(i+1,1,M2.set (i+1) ((lim (ae a) (i+1):Int)-1)),TO (aS O) ⟨ah (λc=>UF (Ob.cells 3 c)) (by rw[Uv,mK]),X5⟩ O O,jz hM hin (x:=x0+1000000000) (c':=1) XZ ⟨XX,XX⟩ XX (by rw[Ut];exact q1) (λj hj=>by rw[cB s,pF XX,W j XX]) (by rw[cB s,pF XX,q2]) (λ_=>by rw[cB s,AT O];rfl) (λj hj=>by rw[cB s,pF XX,W j XX]),XX⟩
   exact TM<|Z3 O<|⟨(i+1,0,M),TO (aS O) (aO O) O O,jz hM hin (x:=x0) (c':=0) XZ ⟨XX,XX⟩ XX m1 (λj hj=>m3 j XX) m2 (λ_=>by rw[m3 _ XX,hM.hi _ XX];simp) (λj hj=>m3 j XX),XX⟩
  have hb0:lim (ae b) i=0:=jn XX;have B:∃x0,x0=(lim (ae a) i:Int)-c-lim (ae b) i:=⟨_,O⟩;obtain⟨x0,B⟩:=B;obtain⟨M,hMd⟩:∃M,M=L:=⟨_,O⟩;have m1:M.length=n:=by rw[hMd];exact A
  have m2:M.getD i 0=x0:=by rw[hMd,X,B,hb0];simp
  have m3:∀j,j≠i->M.getD j 0=L.getD j 0:=λj _=>by rw[hMd]
  rw[<-hMd];refine TM ?_;have D:i<M.length:=XX;have G:=qV D;rw[m2]at G;clear V
  refine Z2 O<|Rs O (aj i underlying22 sz3 O O O O XX) ?_;first|refine A2 O X0 ?_|refine A1 O ?_
  refine A1 O<|Gp O (λJ=>?_) (λJ=>?_)
  .have hi1:=E XX;have q1:(M.set i (x0+1000000000)).length=n:=by rw[Ut];exact m1
   have q2:(M.set i (x0+1000000000)).getD i 0=x0+1000000000:=by rw[cB D,AT O]
   have W:∀j,j≠i->(M.set i (x0+1000000000)).getD j 0=L.getD j 0:=λj hj=>by rw[cB D,pF hj,m3 j hj]
   refine Z2 O<|Rs O (aj i underlying22 sz3 O O O O XX) ?_;first|refine A2 O X0 ?_|refine A1 O ?_
   refine A1 O<|Rs O (aj i underlying22 sz3 O O O O XX)<|A1 O ?_;rw[show(vL M).set (i*1) (.int .i64 (x0+1000000000))=vL (M.set i (x0+1000000000)) by rw[Uv,mK]];generalize M.set i (x0+1000000000)=M2 at*;have s:i+1<M2.length:=XX;have H:=qV s;have Y:=cR (aZ a) (i+1);rw[W (i+1) XX,hM.hi (i+1) XX]at H;refine Z3 O<|Rs O (aj (i+1) underlying22 sz3 O O O O XX) ?_;first|refine A2 O X0 ?_|refine A1 O ?_
   exact A1 O<|Rs O (aj (i+1) underlying22 sz3 O O O O XX)<|A1 O<|Z3 O<|⟨(i+1,1,M2.set (i+1) ((lim (ae a) (i+1):Int)-1)),TO (aS O) ⟨ah (λc=>UF (Ob.cells 3 c)) (by rw[Uv,mK]),X5⟩ O O,jz hM hin (x:=x0+1000000000) (c':=1) XZ ⟨XX,XX⟩ XX (by rw[Ut];exact q1) (λj hj=>by rw[cB s,pF XX,W j XX]) (by rw[cB s,pF XX,q2]) (λ_=>by rw[cB s,AT O];rfl) (λj hj=>by rw[cB s,pF XX,W j XX]),XX⟩
  exact TM<|Z3 O<|⟨(i+1,0,M),TO (aS O) (aO O) O O,jz hM hin (x:=x0) (c':=0) XZ ⟨XX,XX⟩ XX m1 (λj hj=>m3 j XX) m2 (λ_=>by rw[m3 _ XX,hM.hi _ XX];simp) (λj hj=>m3 j XX),XX⟩
 refine Gx O ?_;obtain rfl:i=n:=by have:=hM.ile;omega
 obtain⟨e1,e2,_,e4⟩:=Bk hM hn ab;have A:=hM.len;exact TN (TR 0 O O)<|Z2 O<|Gt O<|⟨_,_,O,O,L.map Int.toNat,e1,by rw[AS,A,hn],e2,by rw[e4,pli,AS,A,hn];rfl⟩
end
section
theorem FW  {y Sa Sb:Nat} (s:o.length=i) (h:val o+1000000000^i*c=Sa+Sb):
  val (o++[(c+x+y)%1000000000])+1000000000^(i+1)*((c+x+y)/1000000000)=Sa+1000000000^i*x+(Sb+1000000000^i*y):=by grind[cU,val_one,Vc,Vm,Wd,Nat.mod_add_div]
theorem Ja(h:Lok o)(D:o.length<=(ae (val o)).length):ae (val o)=o:=by
 by_cases e:o.length=0
 .have:o=[]:=Xi.1 e;subst this;exact aX
 have ht:=iO h (n:=o.length) (tJ _) (λi hi=>by simp[List.getD,hi]) (.inr λB=>?_)
 .rw[ht,V7]
 have h1:=jQ o (o.length-1);have A:o.drop (o.length-1)=[0]:=by
  rw[Us XX,show o.length-1+1=o.length by omega,List.drop_length];have:o[o.length-1]'XX=0:=by grind
  rw[this]
 have s:=sy (h.take (o.length-1));rw[A,val_one,Xz,Wf]at h1;rw[OF,U5 XX,<-h1]at s;have:=(aY (k:=o.length-1)).2 s;omega
theorem Dl(a b:Nat)(ha:(ae a).length<=1000000)(hb:(ae b).length<=1000000):FnP prog 236 [pli (ae a),pli (ae b)] (· =pli (ae (a+b))):=by
 refine FnP.fg2 (FnP.of func236 O ntmps236 X2 λ_ _ _ _=>?_);obtain⟨m,hma,hmb,hmm⟩:∃m:Nat,(ae a).length<=m/\(ae b).length<=m/\(m=(ae a).length\/m=(ae b).length):=⟨max (ae a).length (ae b).length,Nat.le_max_left _ _,Nat.le_max_right _ _,XX⟩;refine Z1 O<|Z1 O<|TN (TU 5 0 1 3 O O)<|Z1 O<|Z1 O<|Gz O (st:=λX6:Nat×Nat×List Nat=>([(0,UG),(1,UG),(5,UF (.gsl 0 1 X6.2.2.length)),(6,UF (pIi X6.2.1)),(7,UF (pIi X6.1))],[(0,UF (.gro 3 (gF X6.2.2)))])) 1
  (I:=λX6=>(X6.2.2.length=X6.1/\X6.1<=m+1/\(X6.1=m+1->X6.2.1=0/\1000000000^m<=a+b))/\(Lok X6.2.2/\X6.2.1<=1)/\val X6.2.2+1000000000^X6.1*X6.2.1=sm (lim (ae a)) X6.1+sm (lim (ae b)) X6.1) (μ:=λX6=>m+1-X6.1) (x0:=(0,0,[])) (TO (aS O) (aO O) O O) (⟨⟨O,aJ _,λh=>by omega⟩,⟨λ_ h=>absurd h X2,aJ _⟩,by simp[val,sm]⟩) ?_
 rintro⟨i,c,o⟩ ⟨⟨hol,hil,hic⟩,⟨hok,hc⟩,he⟩;try simp only at hol hil hic hok hc he ⊢
 refine Gr O<|Ar 5 O ?_;apply TX 5 12 17 [13,14,15,16] O X8
 .intro hb4;exact Ar 5 O<|TQ X7 O O O
 .intro hb4;exact Ar 5 O<|TQ X7 O O O
 refine A1 O ?_;apply TX 3 18 21 [19,20] O X8
 .intro hb10;exact Y3 O<|TQ X7 O O O
 .intro hb10;exact Y3 O<|TQ X7 O O O
 refine Gc O (λs=>?_) (λs=>?_)
 .have hst:=FW (x:=lim (ae a) i) (y:=lim (ae b) i) hol he;have aa:=cR (aZ a) i;have ab:=cR (aZ b) i;have H:sm (lim (ae a)) (i+1)=sm (lim (ae a)) i+1000000000^i*lim (ae a) i:=rfl;have J:sm (lim (ae b)) (i+1)=sm (lim (ae b)) i+1000000000^i*lim (ae b) i:=rfl;rw[<-H,<-J]at hst;have ac:i<=m:=by
   simp only[UW,OC]at s;rcases s with(e|e)|e<;>omega
  have B:i=m->1000000000^m<=a+b:=λe=>by
   have M:c=1:=by
    simp only[UW,OC]at s;rcases s with(e|e)|e<;>omega
   rw[eD _ XX,eD _ XX,aI,aI,M,e]at he;omega
  refine TM<|Z4 O<|Gp O (λG=>?_) (λG=>?_)
  .have hia:i<(ae a).length:=XX;have ad:=cC hia;have T:=dh hia;refine Z3 O<|Rs O (ag i underlying22 sz3 O O O hia T) ?_;first|refine A2 O X0 ?_|refine A1 O ?_
   refine Rs O (XJ.cast (v':= pIi ((c+lim (ae a) i:Nat):Int)) (kM O O XX) O)<|A1 O<|Z4 O<|Gp O (λA=>?_) (λA=>?_)
   .have hib:i<(ae b).length:=XX;have W:=cC hib;have D:=dh hib;refine Z3 O<|Rs O (ag i underlying22 sz3 O O O hib D) ?_;first|refine A2 O X0 ?_|refine A1 O ?_
    exact Rs O (XJ.cast (v':= pIi ((c+lim (ae a) i+lim (ae b) i:Nat):Int)) (kM O O XX) O)<|A1 O<|Z2 O<|Rs O (XJ.cast (v':= pIi (((c+lim (ae a) i+lim (ae b) i)%1000000000:Nat):Int)) (fp O O XZ) O)<|Y3 O<|Z1 O<|Rs O (XJ.cast (v':= pIi (((c+lim (ae a) i+lim (ae b) i)/1000000000:Nat):Int)) (dw O O XZ) (ah (λi=>pIi i) (xm XX)))<|A1 O<|Z3 O<|⟨(i+1,(c+lim (ae a) i+lim (ae b) i)/1000000000,o++[(c+lim (ae a) i+lim (ae b) i)%1000000000]),TP [2] ⟨O,O,UI (b:=.gsl 2 1 (o.length+1)) O (ah (V.gsl 2 1) (c7 o _)),O,O,X5⟩ ⟨ah (λc=>UF (Ob.gro 3 c)) (limI_snoc _ _),X5⟩ O O XZ O,⟨⟨by simp only[D8,Uu];omega,XX,λh=>⟨XX,B XX⟩⟩,⟨hok.append (Lok.one (Vi _ XZ)),X4⟩,hst⟩,XX⟩
   have hy0:lim (ae b) i=0:=jn XX;rw[hy0,Wf]at hst;exact TM<|Z2 O<|Rs O (XJ.cast (v':= pIi (((c+lim (ae a) i)%1000000000:Nat):Int)) (fp O O XZ) O)<|Y3 O<|Z1 O<|Rs O (XJ.cast (v':= pIi (((c+lim (ae a) i)/1000000000:Nat):Int)) (dw O O XZ) (ah (λi=>pIi i) (xm XX)))<|A1 O<|Z3 O<|⟨(i+1,(c+lim (ae a) i)/1000000000,o++[(c+lim (ae a) i)%1000000000]),TP [2] ⟨O,O,UI (b:=.gsl 2 1 (o.length+1)) O (ah (V.gsl 2 1) (c7 o _)),O,O,X5⟩ ⟨ah (λc=>UF (Ob.gro 3 c)) (limI_snoc _ _),X5⟩ O O XZ O,⟨⟨by simp only[D8,Uu];omega,XX,λh=>⟨XX,B XX⟩⟩,⟨hok.append (Lok.one (Vi _ XZ)),X4⟩,hst⟩,XX⟩
  have hx0:lim (ae a) i=0:=jn XX;rw[hx0,Wf]at hst;refine TM<|Z4 O<|Gp O (λA=>?_) (λA=>?_)
  .have hib:i<(ae b).length:=XX;have W:=cC hib;have D:=dh hib;refine Z3 O<|Rs O (ag i underlying22 sz3 O O O hib D) ?_;first|refine A2 O X0 ?_|refine A1 O ?_
   exact Rs O (XJ.cast (v':= pIi ((c+lim (ae b) i:Nat):Int)) (kM O O XX) O)<|A1 O<|Z2 O<|Rs O (XJ.cast (v':= pIi (((c+lim (ae b) i)%1000000000:Nat):Int)) (fp O O XZ) O)<|Y3 O<|Z1 O<|Rs O (XJ.cast (v':= pIi (((c+lim (ae b) i)/1000000000:Nat):Int)) (dw O O XZ) (ah (λi=>pIi i) (xm XX)))<|A1 O<|Z3 O<|⟨(i+1,(c+lim (ae b) i)/1000000000,o++[(c+lim (ae b) i)%1000000000]),TP [2] ⟨O,O,UI (b:=.gsl 2 1 (o.length+1)) O (ah (V.gsl 2 1) (c7 o _)),O,O,X5⟩ ⟨ah (λc=>UF (Ob.gro 3 c)) (limI_snoc _ _),X5⟩ O O XZ O,⟨⟨by simp only[D8,Uu];omega,XX,λh=>⟨XX,B XX⟩⟩,⟨hok.append (Lok.one (Vi _ XZ)),X4⟩,hst⟩,XX⟩
  have hy0:lim (ae b) i=0:=jn XX;rw[hy0,Wf]at hst;exact TM<|Z2 O<|Rs O (XJ.cast (v':= pIi ((c%1000000000:Nat):Int)) (fp O O XZ) O)<|Y3 O<|Z1 O<|Rs O (XJ.cast (v':= pIi ((c/1000000000:Nat):Int)) (dw O O XZ) (ah (λi=>pIi i) (xm XX)))<|A1 O<|Z3 O<|⟨(i+1,c/1000000000,o++[c%1000000000]),TP [2] ⟨O,O,UI (b:=.gsl 2 1 (o.length+1)) O (ah (V.gsl 2 1) (c7 o _)),O,O,X5⟩ ⟨ah (λc=>UF (Ob.gro 3 c)) (limI_snoc _ _),X5⟩ O O XZ O,⟨⟨by simp only[D8,Uu];omega,XX,λh=>⟨by show c/1000000000=0;omega,B XX⟩⟩,⟨hok.append (Lok.one (Vi _ XZ)),X4⟩,hst⟩,XX⟩
 refine Gx O ?_;have X:c=0/\m<=i:=by
  simp only[UK,Vt]at s;omega
 have E:val o=a+b:=by rw[X.1,Xz,Wf,eD _ XX,eD _ XX,aI,aI]at he;exact he
 have Y:o.length<=(ae (a+b)).length:=by
  by_cases e:i=m+1
  .have h1:=(hic e).2;refine Nat.le_of_not_lt λh2=>?_
   have h3:=(aY (n:=a+b) (k:=m)).1 XX;omega
  have h1:=cA (a:=a) (b:=a+b) XX;have h2:=cA (a:=b) (b:=a+b) XX;omega
 have Z:o=ae (a+b):=by have:=Ja hok (by rw[E];exact Y);rw[E]at this;exact this.symm
 exact TN (TR 0 O O)<|Z2 O<|Gt O<|⟨_,_,O,O,show PV.sl UG o.length (gF o)=_ by rw[Z]⟩
end
section
theorem Ca{m:Nat}(s:(ae a).length<=m)(A:(ae b).length<=m):(ae (a+b)).length<=m+1:=aY.2 (by
 have B:=aY.1 s;have D:=aY.1 A;rw[Vc];generalize 1000000000^m=p at*;omega)
def Ot:Nat->Nat->List Nat
 |0,_=>[]
 |n+1,v=>v%1000000000::Ot n (v/1000000000)
theorem NH:∀{o:List Nat},Lok o->o=Ot o.length (val o)
 |[],_=>rfl
 | d::o,h=>by
   obtain⟨h1,h2⟩:=h.cons;have e:val (d::o)=d+1000000000*val o:=rfl;rw[IN,Ot,e,Nat.add_mul_mod_self_left,Wx h1,Nat.add_mul_div_left _ _ XZ,WU h1,UQ,<-NH h2]
theorem x8(a b:Nat)(H:(ae a).length<=1000000)(D:b<=a)(E:0<a):FnP prog 238 [pli (ae a),pli (ae b)] (· = .sl UG (ae a).length (gF (Ot (ae a).length (a-b))))/\Lok (Ot (ae a).length (a-b))/\val (Ot (ae a).length (a-b))=a-b/\(Ot (ae a).length (a-b)).length=(ae a).length:=by
 have s:∀o,Lok o->o.length=(ae a).length->val o=a-b->o=Ot (ae a).length (a-b):=λo A h2 h3=>by
  have:=NH A;rwa [h2,h3]at this
 have B:∃o,Lok o/\o.length=(ae a).length/\val o=a-b:=by
  have A:=cA (show a-b<=a by omega);refine⟨ae (a-b)++List.replicate ((ae a).length-(ae (a-b)).length) 0,(aZ _).append (Lok.replicate _),X3,?_⟩;rw[cU,aI,val_zero (λi=>by simp only[List.getD,Wr];split<;>rfl)];simp
 obtain⟨o,A,h2,h3⟩:=B;have e:=s o A h2 h3;refine⟨(ji a b H D E).mono λv ⟨o2,g1,g2,g3,g4⟩=>?_,e▸A,e▸h3,e▸h2⟩;have G:=s o2 g1 g2 g3;rw[g4,G];show PV.sl UG _ _=PV.sl UG _ _;rw[<-e,h2]
theorem Ab(x y:Int)(M:(ae x.natAbs).length<=1000000)(T:(ae y.natAbs).length<=1000000):FnP prog 175 [lJ x,lJ y] (· =lJ (x+y)):=by
 refine FnP.ofC func175 O ntmps175 X2 λ_ _ _ _=>?_
 have G:=Dl x.natAbs y.natAbs M T;have H:=iv x.natAbs y.natAbs XX XX;have V:=Ca M T;have E:=sD (decide (x<0)) (ae (x.natAbs+y.natAbs)) XX (aZ _);rw[aI]at E;refine Z3 O<|Gr O<|Ar 5 O<|Gc O (λD=>?_) (λD=>?_)
 .have e:=BF D;refine UB 10 O<|Dr 6 O<|Ds [] O (λτ h=>aa call236 G (h.aE O)) O XY<|D1 O<|Ds [] O (λτ h=>aa call176 E (h.aE O)) O XY<|D1 O ?_;refine⟨XY,?_⟩;exact Gt O<|⟨_,_,O,O,⟨au ⟨_,underlying124,O⟩ nJ O O O,X5⟩,by rw[<-e];rfl⟩
 have hd:=D;refine TM<|Z4 O<|Rs O (aa call237 H O)<|A1 O<|Gp O (λA=>?_) (λA=>?_)
 .have hle:=nY.1 A;have e:=H4 hd hle;have s:0<x.natAbs:=by
   refine WN λX=>?_
   have W:y.natAbs=0:=XX;have I:x=0:=XX;have J:y=0:=XX;subst I J;simp at hd
  obtain⟨hmi,g1,g2,g3⟩:=x8 x.natAbs y.natAbs M hle s;have B:=cO (neg:=decide (x<0)) _ g3 XX g1 g2;refine UB 10 O<|Dr 6 O<|Ds [] O (λτ h=>aa call238 hmi (h.aE O)) O XY<|D1 O<|Ds [] O (λτ h=>aa call176 B (h.aE O)) O XY<|D1 O ?_;refine⟨XY,?_⟩;exact Gt O<|⟨_,_,O,O,⟨au ⟨_,underlying124,O⟩ nJ O O O,X5⟩,by rw[<-e];rfl⟩
 have hle:x.natAbs<=y.natAbs:=Xc (Nat.lt_of_not_le λe=>A (nY.2 e));have e:=G5 hd hle;have s:0<y.natAbs:=by
  refine WN λX=>?_
  have W:x.natAbs=0:=XX;have I:x=0:=XX;have J:y=0:=XX;subst I J;simp at hd
 obtain⟨hmi,g1,g2,g3⟩:=x8 y.natAbs x.natAbs T hle s;have B:=cO (neg:=decide (y<0)) _ g3 XX g1 g2;refine TM<|UB 10 O<|Dr 6 O<|Ds [] O (λτ h=>aa call238 hmi (h.aE O)) O XY<|D1 O<|Ds [] O (λτ h=>aa call176 B (h.aE O)) O XY<|D1 O ?_;refine⟨XY,?_⟩;exact Gt O<|⟨_,_,O,O,⟨au ⟨_,underlying124,O⟩ nJ O O O,X5⟩,by rw[<-e];rfl⟩
end
section
theorem fV(x y:Int)(hx:(ae x.natAbs).length<=1000000)(hy:(ae y.natAbs).length<=1000000):FnP prog 174 [lJ x,lJ y] (· =lJ (x*y)):=by
 refine FnP.ofC func174 O ntmps174 X2 λ_ _ _ _=>?_
 have E:=GL x y;obtain⟨nx,hnx⟩:∃b,b=decide (x<0):=⟨_,O⟩;obtain⟨ny,hny⟩:∃b,b=decide (y<0):=⟨_,O⟩;obtain⟨a,haa⟩:∃a,a=x.natAbs:=⟨_,O⟩;obtain⟨b,hbb⟩:∃b,b=y.natAbs:=⟨_,O⟩;rw[show lJ x= .agg [.bool nx,pli (ae a)] by rw[hnx,haa],show lJ y= .agg [.bool ny,pli (ae b)] by rw[hny,hbb]];rw[<-hnx,<-hny,<-haa,<-hbb]at E;rw[<-haa]at hx;rw[<-hbb]at hy;obtain⟨la,hla⟩:∃n:Nat,n=(ae a).length:=⟨_,O⟩;obtain⟨lb,hlb⟩:∃n:Nat,n=(ae b).length:=⟨_,O⟩;clear hnx hny haa hbb;refine Z3 O<|Gr O<|Ar 10 O<|Z1 O<|Gz O (st:=λX6:Nat×List Nat=>([(2,UG),(3,UG),(4,UG),(5,UG),(6,UF (pIi X6.1))],[(0,UG),(1,UG),(2,UG),(3,UF (.cells 3 (gF X6.2)))])) 4
  (I:=λX6=>(X6.1<=la/\X6.2.length=la+lb+1)/\Lok X6.2/\val X6.2=sm (lim (ae a)) X6.1*b/\∀j,X6.1+lb<=j->lim X6.2 j=0) (μ:=λX6=>la-X6.1) (x0:=(0,List.replicate ((ae a).length+(ae b).length+1) 0)) (TO (aS O) ⟨XY,XY,XY,ah (λc=>UF (Ob.cells 3 c)) ((cH (.int .i64 0) (((ae a).length+(ae b).length+1)*1)).trans (by simp[gF])),X5⟩ O O) (⟨⟨aJ _,by simp[hla,hlb]⟩,Lok.replicate _,by rw[val_zero (λi=>by simp only[List.getD,Wr];split<;>rfl)];simp[sm],λj _=>by simp only[lim,List.getD,Wr];split<;>rfl⟩) ?_
 rintro⟨i,o⟩ ⟨⟨hi,hol⟩,hok,hv,hz⟩;try simp only at hi hol hok hv hz ⊢
 refine Gr O<|Ar 5 O<|Gp O (λH=>?_) (λH=>?_)
 .have hia:i<(ae a).length:=XX;have M:=cC hia;have T:=dh hia;have V:=cR (aZ a) i;have W:sm (lim (ae a)) (i+1)=sm (lim (ae a)) i+1000000000^i*lim (ae a) i:=rfl;generalize lim (ae a) i=u at*;refine TM<|Z1 O<|Z1 O<|Gz O (st:=λs:Nat×List Nat×Nat=>([(2,UG),(3,UG),(4,UG),(5,UG),(6,UG),(7,UF (pIi s.2.2)),(8,UF (pIi s.1))],[(0,UG),(1,UG),(2,UG),(3,UF (.cells 3 (gF s.2.1)))])) 4
   (I:=λs=>((s.1<=lb+1/\s.2.1.length=la+lb+1)/\(s.1=lb+1->s.2.2=0))/\(Lok s.2.1/\s.2.2<1000000000)/\val s.2.1+1000000000^(i+s.1)*s.2.2=sm (lim (ae a)) i*b+1000000000^i*(u*sm (lim (ae b)) s.1)/\(∀j,i+1+lb<=j->lim s.2.1 j=0)/\(s.1<=lb->lim s.2.1 (i+lb)=0)) (μ:=λs=>lb+1-s.1) (x0:=(0,o,0)) (TO (aS O) (aO XY) O O) (⟨⟨⟨aJ _,hol⟩,λh=>by omega⟩,⟨hok,Nat.zero_lt_succ 999999999⟩,by rw[hv];simp[sm],λj hj=>hz j XX,λ_=>hz _ (tJ _)⟩) ?_
  rintro⟨k,q,c⟩ ⟨⟨⟨hk,hql⟩,hkc⟩,⟨hqk,hc⟩,he,hz2,hz3⟩;try simp only at hk hql hkc hqk hc he hz2 hz3 ⊢
  refine Gr O<|Ar 6 O ?_;apply TX 3 30 33 [31,32] O X8
  .intro hb5;exact Y3 O<|TQ X7 O O O
  .intro hb5;exact Y3 O<|TQ X7 O O O
  refine Gc O (λB=>?_) (λB=>?_)
  .have hk1:k<=lb:=by
    simp only[UW,OC]at B;rcases B with e|e<;>omega
   have A:i+k<q.length:=XX;have am:=cC A;have an:=dh A;have X:=cR (aZ b) k;have D:=A5 (y:=lim (ae b) k) A he;have Y:sm (lim (ae b)) (k+1)=sm (lim (ae b)) k+1000000000^k*lim (ae b) k:=rfl;rw[<-Y]at D;have ao:=cR hqk (i+k);have ap:=uM q;have aq:=A8 V X;have Z:k=lb->lim q (i+k)=0:=λe=>by rw[e];exact hz3 XX
   generalize lim q (i+k)=z at*;refine TM<|Gr O<|Ar 5 O<|Rs O (aj (i+k) underlying22 sz3 O O O O XX) ?_;first|refine A2 O X0 ?_|refine A1 O ?_
   refine Rs O (XJ.cast (v':= pIi ((c+z:Nat):Int)) (kM O O XX) O)<|A1 O<|Gr O<|Ar 5 O<|Gp O (λJ=>?_) (λJ=>?_)
   .have hkb:k<(ae b).length:=XX;have ab:=cC hkb;have ac:=dh hkb;generalize lim (ae b) k=y0 at*;rw[show z+u*y0+c=c+z+u*y0 by omega]at D;refine UB 14 O<|Dr 4 O<|Ds [] O (λτ h=>ag i underlying22 sz3 (Ee h 0 O O) (Ee h 1 O O) O hia T) O XY<|Ds [] O (λτ h=>ar ⟨_,underlying3,O⟩ (Ee h 0 O O) M) O XY<|Dr 3 O<|Ds [] O (λτ h=>ag k underlying22 sz3 (Ee h 0 O O) (Ee h 1 O O) O hkb ac) O XY<|Ds [] O (λτ h=>ar ⟨_,underlying3,O⟩ (Ee h 0 O O) ab) O XY<|Ds [] O (λτ h=>XJ.cast (v':= pIi ((u*y0:Nat):Int)) (Cq (Ee h 0 O O) (Ee h 1 O O) (by rw[<-VN];omega)) (ah (λi=>pIi i) (VN u y0).symm)) O XY<|Ds [] O (λτ h=>XJ.cast (v':= pIi ((c+z+u*y0:Nat):Int)) (kM (Ee h 0 O O) (Ee h 1 O O) XX) O) O XY<|D1 O ?_;refine⟨XY,?_⟩;exact Gr O<|Ar 5 O<|Rs O (XJ.cast (v':= pIi (((c+z+u*y0)%1000000000:Nat):Int)) (fp O O XZ) O)<|Rs O (aj (i+k) underlying22 sz3 O O O O XX)<|A1 O<|Z1 O<|Rs O (XJ.cast (v':= pIi (((c+z+u*y0)/1000000000:Nat):Int)) (dw O O XZ) (ah (λi=>pIi i) (xm XX)))<|A1 O<|Z3 O<|⟨(k+1,q.set (i+k) ((c+z+u*y0)%1000000000),(c+z+u*y0)/1000000000),TO (aS O) ⟨XY,XY,XY,ah (λc=>UF (Ob.cells 3 c)) (by rw[Uv,gK]),X5⟩ O O,⟨⟨⟨X4,by simp only[Ut];exact hql⟩,λh=>by simp only at h ⊢; omega⟩,⟨hqk.q9 _ _,X4⟩,D,λj hj=>by rw[jm A,pF XX];exact hz2 j hj,λh=>by simp only at h ⊢; rw[jm A,pF XX];exact hz3 hk1⟩,X4⟩
   have hkb:k=lb:=XX;have ad:lim (ae b) k=0:=jn XX;have af:=Z hkb;subst af;rw[ad,Xz,show 0+0+c=c+0 by omega]at D;exact TM<|Gr O<|Ar 5 O<|Rs O (XJ.cast (v':= pIi (((c+0)%1000000000:Nat):Int)) (fp O O XZ) O)<|Rs O (aj (i+k) underlying22 sz3 O O O O XX)<|A1 O<|Z1 O<|Rs O (XJ.cast (v':= pIi (((c+0)/1000000000:Nat):Int)) (dw O O XZ) (ah (λi=>pIi i) (xm XX)))<|A1 O<|Z3 O<|⟨(k+1,q.set (i+k) ((c+0)%1000000000),(c+0)/1000000000),TO (aS O) ⟨XY,XY,XY,ah (λc=>UF (Ob.cells 3 c)) (by rw[Uv,gK]),X5⟩ O O,⟨⟨⟨X4,by simp only[Ut];exact hql⟩,λh=>by simp only at h ⊢; omega⟩,⟨hqk.q9 _ _,X4⟩,D,λj hj=>by rw[jm A,pF XX];exact hz2 j hj,λh=>by simp only at h ⊢; rw[jm A,pF XX];exact hz3 hk1⟩,X4⟩
  have hc2:c=0/\lb<=k:=by
   simp only[UK,Vt]at B;omega
  rw[hc2.1,Xz,Wf,eD (ae b) XX,aI]at he;exact Gx O<|Z3 O<|⟨(i+1,q),TO (aS O) (aO XY) O O,⟨⟨X4,hql⟩,hqk,by simp only;rw[he,W,XT,Vm],λj hj=>hz2 j (by simp only at hj;omega)⟩,X4⟩
 refine Gx O ?_;obtain rfl:i=la:=XX;have al:val o=a*b:=by rw[hv,eD (ae a) (Vl hla.symm),aI]
 have G:=cO (neg:=nx !=ny) o (show o.length=(ae a).length+(ae b).length+1 by omega) XX hok al;rw[E]at G;exact TN (TR 3 O O)<|Gr O<|Ar 7 O<|Rs O (aa call176 G O)<|A1 O<|Gt O<|⟨_,_,O,O,⟨au ⟨_,underlying124,O⟩ nJ O O O,X5⟩,O⟩
end
namespace Jn
structure Rw where
 v:List ByteArray
 w:Int
theorem E9{a b:ByteArray}(h:a.data.toList=b.data.toList):a=b:=ByteArray.ext (Array.ext' h)
def DP(v:List ByteArray):List (List UInt8):=v.map (·.data.toList)
theorem Ck:∀{a b:List ByteArray},DP a=DP b->a=b
 |[],[],_=>rfl
 |[],_::_,h=>by simp[DP]at h
 |_::_,[],h=>by simp[DP]at h
 | x::a,y::b,h=>by
   rw[DP,cd,DP,cd,Wg]at h;rw[E9 h.1,Ck (a:=a) (b:=b) h.2]
def bB(a b:List ByteArray):Bool:=decide (DP a<DP b)
theorem oV(a:List ByteArray):bB a a=WA:=Up (List.lt_irrefl _)
theorem fN{a b c:List ByteArray}(s:bB a b=VA)(A:bB b c=VA):bB a c=VA:=
 SR (List.lt_trans (V9 s) (V9 A))
theorem mw{a b:List ByteArray}(s:bB a b=WA)(A:bB b a=WA):a=b:=
 Ck (List.le_antisymm (List.not_lt.1 (VY A)) (List.not_lt.1 (VY s)))
def fC(x:Rw):List Rw->List Rw
 |[]=>[x]
 |y::l=>if bB y.v x.v=VA then y::fC x l else if y.v=x.v then⟨y.v,y.w+x.w⟩::l else x::y::l
def nF(l:List Rw):List Rw:=(l.foldl (λout x=>fC x out) []).filter λx=>x.w !=0
def ML(l:List Rw):Prop:=l.Pairwise λa b=>bB a.v b.v=VA
theorem pI{x:Rw}:∀{l:List Rw}{y:Rw},y∈fC x l->y.v=x.v\/∃z∈l,y.v=z.v
 |[],y,h=>by rw[fC,IT]at h;exact .inl (by rw[h])
 | z::l,y,h=>by
   rw[fC]at h;split at h
   .rcases By.1 h with rfl|h
    .exact .inr ⟨_,X2,O⟩
    rcases pI h with e|⟨z',hz,e⟩
    .exact .inl e
    exact .inr ⟨z',by simp[hz],e⟩
   grind
theorem Bs{x:Rw}:∀{l:List Rw},ML l->ML (fC x l)
 |[],_=>by rw[fC];exact List.pairwise_singleton _ _
 | z::l,h=>by
   have h':=Vd.1 h;rw[fC];split
   .rename_i hz;refine Vd.2 ⟨λy hy=>?_,Bs h'.2⟩;rcases pI hy with e|⟨y',hy',e⟩
    .rw[e];exact hz
    rw[e];exact h'.1 y' hy'
   rename_i hz;split
   .exact Vd.2 ⟨λy hy=>h'.1 y hy,h'.2⟩
   rename_i hne;have s:bB x.v z.v=VA:=by grind[bB,mw]
   refine Vd.2 ⟨λy hy=>?_,h⟩;rcases By.1 hy with rfl|hy
   .exact s
   exact fN s (h'.1 y hy)
def kI(l:List Rw):Int:=(l.map (·.w)).sum
theorem B5(x:Rw):∀l:List Rw,kI (fC x l)=kI l+x.w
 |[]=>by simp[fC,kI]
 | z::l=>by
   rw[fC];split
   .have:=B5 x l;simp only[kI,cd,U4]at *; omega
   grind[kI]
theorem B8{x:Rw}(s:0<x.w):∀{l:List Rw},(∀y∈l,0<y.w)->∀y∈fC x l,0<y.w
 |[],_,y,hy=>by rw[fC,IT]at hy;rw[hy];exact s
 | z::l,h,y,hy=>by
   have hz:=h z X2;have A:∀y∈l,0<y.w:=λy hy=>h y (by simp[hy])
   rw[fC]at hy;split at hy
   .rcases By.1 hy with rfl|hy
    .exact hz
    exact B8 s A y hy
   grind
theorem uv(x:Rw):∀l:List Rw,(fC x l).length<=l.length+1
 |[]=>by simp[fC]
 | z::l=>by
   rw[fC];split
   .have:=uv x l;simp only[IN];omega
   split<;>simp
structure SortOk(l out:List Rw):Prop where
 asc:ML out
 val:∀y∈out,∃z∈l,y.v=z.v
 tot:kI out=kI l
 pos:(∀z∈l,0<z.w)->∀y∈out,0<y.w
 len:out.length<=l.length
theorem JX:∀(l pre out:List Rw),SortOk pre out->SortOk (pre++l) (l.foldl (λout x=>fC x out) out)
 |[],pre,out,h=>by simpa using h
 | x::l,pre,out,h=>by
   have:=JX l (pre++[x]) (fC x out) ⟨Bs h.asc,λy hy=>by
    rcases pI hy with e|⟨z,hz,e⟩
    .exact⟨x,X2,e⟩
    .obtain⟨z',hz',e'⟩:=h.val z hz;exact⟨z',by simp[hz'],e.trans e'⟩,by rw[B5,h.tot];simp[kI],λs=>B8 (s x X2) (h.pos λz hz=>s z (by simp[hz])),by
    have A:=uv x out;have B:=h.len;simp only[D8,Uu];omega⟩
   rw[VO,show pre++x::l=(pre++[x])++l by simp];exact this
theorem iY{l:List Rw}(A:∀z∈l,0<z.w):SortOk l (nF l):=by
 have h:=JX l [] [] ⟨List.Pairwise.nil,λy hy=>absurd hy X2,O,λ_ y hy=>absurd hy X2,tJ _⟩;rw[Vo]at h;have s:=h.pos A;have e:nF l=l.foldl (λout x=>fC x out) []:=by grind[nF,List.filter_eq_self]
 rw[e];exact h
theorem GG:∀{l:List Rw},(∀y∈l,0<y.w)->∀y∈l,y.w<=kI l
 | z::l,h,y,hy=>by
   have hl:∀y∈l,0<y.w:=λy hy=>h y (by simp[hy])
   have s:0<=kI l:=by
    clear h hy;induction l with
    |nil=>simp[kI]
    | cons a l ih=>
      have:=ih λy hy=>hl y (by simp[hy])
      have:=hl a X2;simp only[kI,cd,U4]at *; omega
   have A:=h z X2;have e:kI (z::l)=z.w+kI l:=by simp[kI]
   rcases By.1 hy with rfl|hy
   .omega
   have:=GG hl y hy;omega
end Jn
section
open Mk
theorem s7(l:List ByteArray)(k:Nat)(G:k<l.length)(M:l.length<=1000000)(I:l[k].size<=9223372036854775807):FnP prog 240 [bh l,.int .i64 k] (· = .int .i64 (fL l k)):=by
 refine FnP.of func240 O ntmps240 X2 λ_ _ _ _=>?_
 have J:=bP G;have H:=bO G;have B:l.getD k default=l[k]:=by simp[List.getD,G]
 have D:(ct l).take (k*1)=ct (l.take k):=X2;have E:PV.sl UG k (ct (l.take k))=bh (l.take k):=by simp[bh];omega
 refine Z1 O<|Z3 O ?_;first|refine A2 O X0 ?_|refine A1 O ?_
 refine Rs O (aa call198 (wW l[k] I) O)<|Y2 O<|Gc O (λA=>?_) (λA=>?_)
 .exact Z1 O<|Gt O<|⟨_,_,O,O,ah (PV.int .i64) (by unfold fL;rw[B,AT (by simpa using A)])⟩
 refine UB 9 O<|Dr 2 O<|Ds [] O (λτ h=>XJ.cast (v':=.pv (bh (l.take k))) (dR k underlying39 sz9 (Ee h 0 O O) (Ee h 1 O O) O XX X2) (by rw[D,E])) O XY<|Dr 3 O ?_;first|refine D2 O O X0 ?_|refine D1 O ?_
 refine Ds [] O (λτ h=>aa call287 (r4 (l.take k) l[k] X3) (h.aE O)) O XY<|D1 O ?_;refine⟨XY,?_⟩;refine Gc O (λs=>?_) (λs=>?_)
 .exact Z1 O<|Gt O<|⟨_,_,O,O,ah (PV.int .i64) (by unfold fL;rw[B,pF (by simpa using A),AT s])⟩
 exact TM<|Z1 O<|Gt O<|⟨_,_,O,O,ah (PV.int .i64) (by unfold fL;rw[B,pF (by simpa using A),pF (by simp[s])])⟩
structure SB(S:Sch):Prop where
 a:S.attrs.length<=1000000
 r:S.rels.length<=1000000
 f:S.feats.length<=1000000
 an:∀x∈S.attrs,x.1.size<=9223372036854775807
 rn:∀x∈S.rels,x.1.size<=9223372036854775807
 rl:∀x∈S.rels,x.2.length<=1000000
theorem mj{l:List (ByteArray×Int)}(h:k<l.length):((aK l).drop (k*2)).take 2=[.str l[k].1,.int .i64 l[k].2]:=cZ _ 2 (λ_=>rfl) l k h
theorem iZ{l:List (ByteArray×Int)}(h:k<l.length):aK l≠[]:=λe=>by have:=ky l;rw[e]at this;simp at this;omega
theorem xM(L:List ByteArray)(x:ByteArray):ct (L++[x])=ct L++[.str x]:=X2
theorem sq(L:List ByteArray)(x:ByteArray):bh (L++[x])= .sl UG (L.length+1) (ct L++[.str x]):=X2
theorem s5{l:List ByteArray}(h:k<n):fL (l.take n) k=fL l k:=by
 unfold fL;have s:(l.take n).getD k default=l.getD k default:=by simp[List.getD,Uw,h]
 have A:(l.take n).take k=l.take k:=by rw[Xr,U5 XX]
 rw[s,A]
theorem bH{l:List α}(h:k<l.length):l.take (k+1)=l.take k++[l[k]]:=sh h
theorem rF(S:Sch)(hS:SB S):FnP prog 178 [gg S] (· = .int .i64 (bV (gW S) S.attrs.length)):=by
 refine FnP.of func178 O ntmps178 X2 λ_ _ _ _=>?_
 have W:=hS.a;have M:=ky S.attrs;refine Z2 O<|Z1 O<|TN (TU 3 1 1 9 O O)<|Z4 O<|Gz O (st:=λX6:Nat×List ByteArray=>([(3,UF (.gsl 1 1 X6.2.length)),(8,UG),(9,UG),(10,UF (pIi X6.1))],[(1,UF (.gro 9 (ct X6.2)))])) 2
  (I:=λX6=>X6.1<=S.attrs.length/\X6.2=(S.attrs.map (·.1)).take X6.1/\bV (gW S) X6.1=0) (μ:=λX6=>S.attrs.length-X6.1) (x0:=(0,[])) (TO (aS O) (aO O) O O) (⟨aJ _,O,O⟩) ?_
 rintro⟨k,L⟩ ⟨hk,hL,hs⟩;try simp only at hk hL hs ⊢
 refine Z1 O<|Gp O (λH=>?_) (λH=>?_)
 .have hlt:k<S.attrs.length:=XX;have B:=mj hlt;have T:=iZ hlt;have J:L.length=k:=by rw[hL];simp;omega
  have D:L++[S.attrs[k].1]=(S.attrs.map (·.1)).take (k+1):=by rw[bH (by simpa using hlt),hL];simp
  have E:=s7 (L++[S.attrs[k].1]) k X3 X3 (by simp only[<-J];simp;exact hS.an _ (ak _));rw[sq,D,s5 XX]at E;have G:S.attrs.getD k default=S.attrs[k]:=by simp[List.getD,hlt]
  have V:(ct L).length=L.length*1:=X2;refine TM<|Z2 O<|Rs O (aF ⟨_,underlying142,O⟩ nM O B O)<|Y3 O<|Gr O<|Ar 6 O<|Z2 O<|Rs O (uZ call240 E O O)<|A1 O<|Z2 O<|Gc O (λs=>?_) (λs=>?_)
  .exact Z2 O<|Gt O<|⟨_,_,O,O,ah (PV.int .i64) (by rw[gH hs (by unfold gW;rw[AT (inT s)];exact inT s) hlt];unfold gW;rw[AT (inT s)])⟩
  refine TM<|Z4 O ?_;apply TX 4 29 33 [30,31,32] O X8
  .intro hb3;exact Ar 4 O<|TQ X7 O O O
  .intro hb3;exact Ar 4 O<|TQ X7 O O O
  refine Gc O (λA=>?_) (λA=>?_)
  .exact Z1 O<|Gt O<|⟨_,_,O,O,ah (PV.int .i64) (by have e:gW S k=7:=(by unfold gW;rw[pF (by simp[inF s]),G,AT (by simpa using A)]);rw[gH hs (by rw[e];decide) hlt,e])⟩
  exact TM<|Z2 O<|⟨(k+1,L++[S.attrs[k].1]),TP [0,4] ⟨by simp;rfl,O,O,O,X5⟩ ⟨ah (λc=>UF (Ob.gro 9 c)) (xM L S.attrs[k].1).symm,X5⟩ O O XZ O,⟨X4,D,by simp only;rw[dM hs];unfold gW;rw[pF (by simp[inF s]),G,pF (by simpa using A)]⟩,X4⟩
 exact Gx O<|Z1 O<|Gt O<|⟨_,_,O,O,ah (PV.int .i64) (by rw[show S.attrs.length=k by omega,hs])⟩
end
section
open Mk
theorem fi{l:List (ByteArray×List Int)}(h:k<l.length):((aU l).drop (k*2)).take 2=[.str l[k].1,aq l[k].2]:=cZ _ 2 (λ_=>rfl) l k h
theorem ij{l:List (ByteArray×List Int)}(h:k<l.length):aU l≠[]:=λe=>by have:=wJ l;rw[e]at this;simp at this;omega
def ff(n:Nat)(U:List Bool)(p:Nat->Bool):Prop:=U.length=n/\∀a,a<n->U[a]? =UF (p a)
theorem ff.zero(n:Nat):ff n (List.replicate n WA) (λ_=>WA):=⟨X2,λa ha=>by simp[ha]⟩
theorem ff.set{p:Nat->Bool}(h:ff n U p)(A:a<n):ff n (U.set a VA) (λb=>p b||(b==a)):=by
 refine⟨by simp[h.1],λb hb=>?_⟩;by_cases e:b=a
 .subst e;simp[h.1,hb]
 rw[WQ (λs=>e s.symm),h.2 b hb];simp[e]
theorem ff.congr{p q:Nat->Bool}(h:ff n U p)(e:∀a,a<n->p a=q a):ff n U q:=⟨h.1,λa ha=>by rw[h.2 a ha,e a ha]⟩
theorem ff.mem{p:Nat->Bool}(h:ff n U p):decide (WA∈U)= !((List.range n).all p):=by
 rw[UH];simp only[OC,VM,WG,Vj];constructor
 .intro hm;obtain⟨a,ha,e⟩:=Vz hm;refine⟨a,by rw[<-h.1];exact ha,?_⟩;have:=h.2 a (by rw[<-h.1];exact ha);rw[BY ha,e]at this;simpa using this.symm
 rintro⟨a,ha,e⟩;have:=h.2 a ha;have s:p a=WA:=by simpa using e
 rw[s]at this;exact VJ this
theorem xe(U:List Bool)(a:Nat):(cI U).set a (.bool VA)=cI (U.set a VA):=by simp[U9]
theorem xo{b:Bool}(s:q<l.length)(A:l[q]=(j:Int)):((b||inB (l.take q) a)||(a==j))=(b||inB (l.take (q+1)) a):=by
 rw[bH s,Bool.or_assoc]
 congr 1
 rw[UH];simp[inB,A];exact or_congr Iff.rfl ⟨λh=>by rw[h],λh=>by omega⟩
theorem Bi(s:q<l.length)(h:∀a∈l.take q,0<=a/\a<(n:Int))(A:0<=l[q]/\l[q]<n):∀a∈l.take (q+1),0<=a/\a<(n:Int):=by
 rw[bH s];intro a ha;rcases UN.1 ha with h1|h1
 .exact h a h1
 rw[IT.1 h1];exact A
theorem AP{p:Nat}(A:p<l.length)(s:1<=p)(h:∀i,i+1<p->i+1<l.length->l.getD i 0<l.getD (i+1) 0)(B:l[p-1]'XX<l[p]):∀i,i+1<p+1->i+1<l.length->l.getD i 0<l.getD (i+1) 0:=by grind
theorem A9{rs:List (ByteArray×List Int)}(s:k<rs.length)(A:rs[k].2.length<=q):(((rs.take k).any λr=>inB r.2 a)||inB (rs[k].2.take q) a)=((rs.take (k+1)).any λr=>inB r.2 a):=by
 rw[bH s,aG A];simp only[List.any_append,List.any_cons,List.any_nil,V2]
theorem rS(S:Sch)(hS:SB S):FnP prog 179 [gg S] (· = .int .i64 (ia S)):=by
 refine FnP.of func179 O ntmps179 X2 λ_ _ _ _=>?_
 have hb:=hS.a;have V:=hS.r;refine Z2 O<|Z1 O<|TN (TU 3 1 1 9 O O)<|Gr O<|Ar 5 O<|Z4 O<|Gz O (st:=λX6:Nat×List ByteArray×List Bool=>([(3,UF (.gsl 1 1 X6.2.1.length)),(4,UG),(16,UG),(17,UG),(18,UF (pIi X6.1))],[(1,UF (.gro 9 (ct X6.2.1))),(2,UF (.cells 4 (cI X6.2.2)))])) 3
  (I:=λX6=>X6.1<=S.rels.length/\X6.2.1=(S.rels.map (·.1)).take X6.1/\ff S.attrs.length X6.2.2 (λa=>(S.rels.take X6.1).any λr=>inB r.2 a)/\bV (xd S) X6.1=0) (μ:=λX6=>S.rels.length-X6.1) (x0:=(0,[],List.replicate S.attrs.length WA)) (TO (aS O) ⟨O,ah (λc=>UF (Ob.cells 4 c)) ((cH (.bool WA) (S.attrs.length*1)).trans X2),X5⟩ O O) (⟨aJ _,O,ff.zero _,O⟩) ?_
 rintro⟨k,L,U⟩ ⟨hk,hL,hU,hs⟩;try simp only at hk hL hU hs ⊢
 refine Z1 O<|Gp O (λaa=>?_) (λaa=>?_)
 .have hlt:k<S.rels.length:=XX;have W:=fi hlt;have am:=ij hlt;have ad:L.length=k:=by rw[hL];simp;omega
  have X:L++[S.rels[k].1]=(S.rels.map (·.1)).take (k+1):=by rw[bH (by simpa using hlt),hL];simp
  have Y:=s7 (L++[S.rels[k].1]) k X3 X3 (by simp only[<-ad];simp;exact hS.rn _ (ak _));rw[sq,X,s5 XX]at Y;have G:=tW S k hlt;have af:S.rels.getD k default=S.rels[k]:=by simp[List.getD,hlt]
  have an:(ct L).length=L.length*1:=X2;have ao:=hS.rl _ (ak hlt);have ap:=hU.1;refine TM<|Z2 O<|Rs O (aF ⟨_,underlying116,O⟩ xS O W O)<|Y3 O<|Gr O<|Ar 6 O<|Z2 O<|Rs O (uZ call240 Y O O)<|A1 O<|Z2 O<|Gc O (λA=>?_) (λA=>?_)
  .refine Z2 O<|Gt O ?_;exact⟨_,_,O,O,ah (PV.int .i64) (by have e:xd S k=fL (S.rels.map (·.1)) k:=(by unfold xd;rw[AT (inT A)]);unfold ia;rw[gH hs (by rw[e];exact inT A) hlt,AT (by rw[e];exact inT A),e])⟩
  have hn0:fL (S.rels.map (·.1)) k=0:=inF A;have G:xd S k=if S.rels[k].2=[]then 7 else if(S.rels[k].2.all λa=>decide (0<=a)&&decide (a<S.attrs.length))=WA then 2 else if J7 S.rels[k].2=WA then 10 else 0:=by unfold xd;rw[pF (by simp[hn0]),af]
  have H:∀e:Int,e≠0->xd S k=e->PV.int .i64 e= .int .i64 (ia S):=λe h0 h1=>ah (PV.int .i64) (by unfold ia;rw[gH hs (by rw[h1];exact h0) hlt,AT (by rw[h1];exact h0),h1])
  refine TM<|Z4 O<|Gc O (λD=>?_) (λD=>?_)
  .exact Z1 O<|Gt O<|⟨_,_,O,O,H 7 XZ (by rw[G,AT (by have:=ibT D;apply UM;omega)])⟩
  have hl0:¬S.rels[k].2=[]:=λe=>by rw[e]at D;simp at D
  refine TM<|Z4 O<|Gz O (st:=λs:Nat×List Bool=>([(3,UG),(4,UG),(6,UG),(16,UG),(17,UG),(18,UG),(39,UG),(40,UG),(41,UF (pIi s.1))],[(2,UF (.cells 4 (cI s.2))),(3,UG),(5,UG)])) 6
   (I:=λs=>s.1<=S.rels[k].2.length/\ff S.attrs.length s.2 (λa=>((S.rels.take k).any λr=>inB r.2 a)||inB (S.rels[k].2.take s.1) a)/\∀a∈S.rels[k].2.take s.1,0<=a/\a<S.attrs.length) (μ:=λs=>S.rels[k].2.length-s.1) (x0:=(0,U)) (TO (aS O) (aO O) O O) (⟨aJ _,hU.congr (λa _=>by simp[inB]),X2⟩) ?_
  rintro⟨q,U2⟩ ⟨hq,hU2,hr⟩;try simp only at hq hU2 hr ⊢
  refine Z1 O<|Gp O (λab=>?_) (λab=>?_)
  .have hql:q<S.rels[k].2.length:=XX;have hv:=a7 hql;have M:=aM hql;have al:=hU2.1;refine TM<|Z1 O ?_;first|refine A2 O X0 ?_|refine A1 O ?_
   refine A1 O<|Z3 O ?_;apply TX 5 47 52 [48,49,50,51] O X8
   .intro V;exact Ar 5 O<|TQ X7 O O O
   .intro V;exact Ar 5 O<|TQ X7 O O O
   refine Gc O (λJ=>?_) (λJ=>?_)
   .exact Z1 O<|Gt O<|⟨_,_,O,O,H 2 XZ (by rw[G,pF hl0,AT (Ow hql (by simp at J;omega))])⟩
   have hx:0<=S.rels[k].2[q]/\S.rels[k].2[q]<S.attrs.length:=by simp only[UK,Vt]at J;omega
   obtain⟨j,hj⟩:=tI hx.1;exact TM<|Z2 O<|Rs O (aj j underlying171 sz4 O O O hj XX)<|A1 O<|Z2 O<|⟨(q+1,U2.set j VA),TO (aS O) ⟨by show UF (Ob.cells _ _)=_;rw[<-xe];simp,O,O,X5⟩ O O,⟨X4,(hU2.set (a:=j) XX).congr (λa _=>xo hql hj),Bi hql hr hx⟩,X4⟩
  have hrng:(S.rels[k].2.all λa=>decide (0<=a)&&decide (a<S.attrs.length))=VA:=yW (λa ha=>hr a (by rw[aG XX];exact ha));refine Gx O<|Z1 O<|Gz O (st:=λE:Nat=>([(3,UG),(4,UG),(6,UG),(10,UF (pIi E)),(16,UG),(17,UG),(18,UG)],[(2,UG),(3,UG),(5,UG)])) 6
   (I:=λE=>1<=E/\∀i,i+1<E->i+1<S.rels[k].2.length->S.rels[k].2.getD i 0<S.rels[k].2.getD (i+1) 0) (μ:=λE=>S.rels[k].2.length-E) (x0:=(1)) (TO (aS O) (aO O) O O) (⟨tJ _,λi hi=>by omega⟩) ?_
  rintro p ⟨hp1,hasc⟩;refine Gr O<|Ar 5 O<|Gp O (λac=>?_) (λac=>?_)
  .have hpl:p<S.rels[k].2.length:=XX;have Z:p-1<S.rels[k].2.length:=XX;have hv:=a7 hpl;have hv1:=a7 Z;have M:=aM hpl;refine TM<|UB 12 O<|Dr 4 O ?_;first|refine D2 O O X0 ?_|refine D1 O ?_
   refine Dr 4 O<|Ds [] O (λτ h=>ag (p-1) underlying22 sz3 (Ee h 0 O O) (Ee h 1 O O) XX XX M) O XY ?_;first|refine D2 O O X0 ?_|refine D1 O ?_
   refine D1 O ?_;refine⟨XY,?_⟩;refine Gp O (λT=>?_) (λT=>?_)
   .exact Z1 O<|Gt O<|⟨_,_,O,O,H 10 XZ (by rw[G,pF hl0,pF (by rw[hrng];decide),AT (N3 hp1 hpl T)])⟩
   exact TM<|Z3 O<|⟨(p+1),TO (aS O) (aO O) O O,⟨XX,AP hpl hp1 hasc XX⟩,XX⟩
  exact Gx O<|Z2 O<|⟨(k+1,L++[S.rels[k].1],U2),TP [0,5,2] ⟨by simp;rfl,O,O,O,O,X5⟩ ⟨ah (λc=>UF (Ob.gro 9 c)) (xM L S.rels[k].1).symm,O,X5⟩ O O XZ O,⟨X4,X,hU2.congr (λa _=>A9 hlt XX),by simp only;rw[dM hs,G,pF hl0,pF (by rw[hrng];decide),pF (by rw[zi (λi hi=>hasc i XX hi)];decide)]⟩,X4⟩
 have hfull:((List.range S.attrs.length).all λa=>(S.rels.take k).any λr=>inB r.2 a)=((List.range S.attrs.length).all λa=>uh S a):=by rw[aG XX];rfl
 refine Gx O<|Z1 O<|Rs O (uZ call241 (r6 U WA (by have:=hU.1;omega)) (by rw[mV,hU.1];rfl) O) ?_;refine Gc O (λB=>?_) (λB=>?_)
 .exact Z1 O<|Gt O<|⟨_,_,O,O,ah (PV.int .i64) (by unfold ia;rw[show S.rels.length=k by omega,pF (by simp[hs]),AT (by rw[<-hfull];rw[hU.mem]at B;simpa using B)])⟩
 exact TM<|Z1 O<|Gt O<|⟨_,_,O,O,ah (PV.int .i64) (by unfold ia;rw[show S.rels.length=k by omega,pF (by simp[hs]),pF (by rw[<-hfull];rw[hU.mem]at B;simpa using B)])⟩
end
section
open Mk
abbrev zg(f:Int×Int×Int):List PV:=[.int .i64 f.1,.int .i64 f.2.1,.int .i64 f.2.2]
theorem nr{l:List (Int×Int×Int)}(h:k<l.length):((aL l).drop (k*3)).take 3=zg l[k]:=cZ _ 3 (λ_=>rfl) l k h
theorem pS{l:List (Int×Int×Int)}(h:k<l.length):aL l≠[]:=λe=>by have:=iE l;rw[e]at this;simp at this;omega
theorem gA{l:List α}{p:α->Bool}(s:k<l.length)(h:(l.take k).any p=WA)(A:p l[k]=WA):(l.take (k+1)).any p=WA:=by
 rw[bH s];simp only[List.any_append,h,List.any_cons,A,List.any_nil,V2]
theorem sM{l:List α}{p:α->Bool}(s:k<l.length)(h:p l[k]=VA):l.any p=VA:=VL.2 ⟨_,ak s,h⟩
theorem Il(l:List (Int×Int×Int))(g:FuncId)(caps:List PV)(p:Int×Int×Int->Bool)(H:l.length<=1000000)(hc:db prog g)(G:∀f∈l,FnP prog g ([]++[.agg (zg f)]++caps) (· = .bool (p f))):
  FnP prog 133 [.sl UG l.length (aL l),.fn (.func g) [] caps] (λv=>∃i:Int,v= .int .i64 i/\decide (0<=i)=l.any p):=by
 refine FnP.of func133 O ntmps133 X2 λ_ _ _ _=>?_
 refine Z1 O<|Z3 O<|Gz O (st:=λX6:Nat=>([(0,UG),(1,UG),(7,UG),(8,UF (pIi X6))],[])) 0
  (I:=λX6=>X6<=l.length/\(l.take X6).any p=WA) (μ:=λX6=>l.length-X6) (x0:=(0)) (TO (aS O) trivial O O) (⟨aJ _,O⟩) ?_
 rintro k ⟨hk,hno⟩;refine Z1 O<|Gp O (λD=>?_) (λD=>?_)
 .have hlt:k<l.length:=XX;have A:=nr hlt;have E:=pS hlt;have B:=G _ (ak hlt);refine TM<|Z2 O<|Z4 O<|Rs O (aF ⟨_,underlying150,O⟩ Ae O A O)<|Rs O (ja hc O B O)<|Gc O (λs=>?_) (λs=>?_)
  .exact Z2 O<|Gt O<|⟨_,_,O,O,_,O,by rw[sM hlt s];exact SR XX⟩
  exact TM<|Z2 O<|⟨(k+1),TO (aS O) trivial O O,⟨XX,gA hlt hno s⟩,XX⟩
 exact Gx O<|Z1 O<|Gt O<|⟨_,_,O,O,_,O,by rw[aG XX]at hno;rw[hno];rfl⟩
theorem rZ(l:List (Int×Int×Int))(g:FuncId)(caps:List PV)(p:Int×Int×Int->Bool)(s:l.length<=1000000)(hc:db prog g)(A:∀f∈l,FnP prog g ([]++[.agg (zg f)]++caps) (· = .bool (p f))):
  FnP prog 242 [.sl UG l.length (aL l),.fn (.func g) [] caps] (· = .bool (l.any p)):=by
 refine FnP.of func242 O ntmps242 X2 λ_ _ _ _=>?_
 refine Z1 O<|Z2 O<|RL.call O (gZ call133 (Il l g caps p s hc A) O ?_);rintro _ ⟨i,rfl,hi⟩;exact Y2 O<|Gt O<|⟨_,_,O,O,ah PV.bool hi⟩
theorem Ec(f:Int×Int×Int)(c:List PV)(a:Int)(hc:c[0]? =UF (.int .i64 a)):FnP prog 243 [.agg (zg f),.rp c 0] (· = .bool (f.1==a)):=by
 refine FnP.of func243 O ntmps243 X2 λ_ _ _ _=>?_
 refine Z2 O<|Z3 O ?_;first|refine A1 O ?_|refine A2 O X0 ?_
 exact Y2 O<|Gt O<|⟨_,_,O,O,O⟩
theorem EN(l:List (Int×Int×Int))(k:Nat)(s:k<=l.length):PV.sl UG k ((aL l).take (k*3))= .sl UG (l.take k).length (aL (l.take k)):=by
 have e:(aL l).take (k*3)=aL (l.take k):=by grind[U3,aL,iE,aG]
 rw[e];simp;omega
abbrev sCc(S:Sch):List V:=[.pv (.sl UG S.attrs.length (aK S.attrs)),.pv (.sl UG S.rels.length (aU S.rels)),.pv (.sl UG S.feats.length (aL S.feats)),pIi S.label]
theorem ub(S:Sch)(hS:SB S):FnP prog 180 [gg S] (· = .int .i64 (bV (kH S) S.feats.length)):=by
 refine FnP.of func180 O ntmps180 X2 λ_ _ _ _=>?_
 have Z:=hS.a;have J:=hS.f;have W:=iE S.feats;refine Z2 O<|Z4 O<|Gz O (st:=λX6:Nat=>([(1,UG),(9,UG),(10,UG),(11,UF (pIi X6))],[(0,UG)])) 1
  (I:=λX6=>X6<=S.feats.length/\bV (kH S) X6=0) (μ:=λX6=>S.feats.length-X6) (x0:=(0)) (TO (aS O) (aO O) O O) (⟨aJ _,O⟩) ?_
 rintro k ⟨hk,hs⟩;refine Z1 O<|Gp O (λV=>?_) (λV=>?_)
 .have hlt:k<S.feats.length:=XX;have M:=nr hlt;have X:=pS hlt;have E:=ry S k hlt;have A:∀e:Int,e≠0->kH S k=e->PV.int .i64 e= .int .i64 (bV (kH S) S.feats.length):=λe h0 h1=>ah (PV.int .i64) (by rw[gH hs (by rw[h1];exact h0) hlt,h1])
  refine TM<|Z2 O<|Rs O (aF ⟨_,underlying150,O⟩ Ae O M O)<|Y3 O<|Z4 O ?_;apply TX 7 19 26 [20,21,22,23,24,25] O X8
  .intro hb3;exact Ar 7 O<|TQ X7 O O O
  .intro hb3;exact Ar 7 O<|TQ X7 O O O
  refine Gc O (λB=>?_) (λB=>?_)
  .exact Z1 O<|Gt O<|⟨_,_,O,O,A 2 XZ (by rw[E,AT (by simpa using B)])⟩
  have hx:0<=S.feats[k].1/\S.feats[k].1<S.attrs.length:=by simp only[UK,Vt]at B;omega
  obtain⟨a,ha⟩:=tI hx.1;have G:a<S.attrs.length:=XX;have Y:(aK S.attrs)[a*2+1]? =UF (.int .i64 S.attrs[a].2):=ib _ 2 (λ_=>rfl) S.attrs a 1 G XZ;have T:=iZ G;have H:(S.attrs.getD S.feats[k].1.toNat default).2=S.attrs[a].2:=by rw[ha];simp[List.getD,G]
  refine TM<|Z4 O<|Rs O (ag a underlying26 nM O O ha G T)<|A1 O ?_;first|refine A2 O X0 ?_|refine A1 O ?_
  refine A1 O<|Z4 O ?_;apply TY 3 37 40 [38,39] O X8
  .intro hb3;exact Y3 O<|TQ X7 O O O
  .intro hb3;exact Y3 O<|TQ X7 O O O
  refine A1 O ?_;apply TY 9 41 50 [42,43,44,45,46,47,48,49] O X8
  .intro hb7;refine Ar 4 O ?_;apply TX 4 45 49 [46,47,48] O X8
   .intro hb11;exact Ar 4 O<|TQ X7 O O O
   .intro hb11;exact Ar 4 O<|TQ X7 O O O
   exact A1 O<|TQ X7 O O O
  .intro hb7;exact Ar 9 O<|TQ X7 O O O
  refine A1 O<|Z4 O ?_;apply TY 3 54 57 [55,56] O X8
  .intro hb3;exact Y3 O<|TQ X7 O O O
  .intro hb3;exact Y3 O<|TQ X7 O O O
  refine A1 O ?_;apply TY 4 58 62 [59,60,61] O X8
  .intro hb7;exact Ar 4 O<|TQ X7 O O O
  .intro hb7;exact Ar 4 O<|TQ X7 O O O
  refine A1 O<|Z3 O ?_;apply TY 3 65 68 [66,67] O X8
  .intro J;exact Y3 O<|TQ X7 O O O
  .intro J;exact Y3 O<|TQ X7 O O O
  refine Gc O (λs=>?_) (λs=>?_)
  .exact Z1 O<|Gt O<|⟨_,_,O,O,A 7 XZ (by rw[E,pF XX,H,AT (by rw[UK];rw[dO,VM,VM]at s;exact s)])⟩
  refine TM<|TN (St.jC 1 O O)<|Gr O<|Ar 6 O ?_;apply TX 7 74 81 [75,76,77,78,79,80] O X8
  .intro hb5;exact Ar 7 O<|TQ X7 O O O
  .intro hb5;exact Y3 O<|Rg O (XJ.cast (v':=.pv (.sl UG (S.feats.take k).length (aL (S.feats.take k)))) (dR k underlying28 Ae O O O XX W) (by rw[EN _ _ hk]))<|A1 O<|Rg O (aa call242 (rZ (S.feats.take k) 243 [.rp (zg S.feats[k]) 0] (λg=>g.1==S.feats[k].1) X3 call243 (λf _=>Ec f _ _ O)) O)<|A1 O<|TQ X7 O O O
  refine Gc O (λD=>?_) (λD=>?_)
  .exact Z1 O<|Gt O<|⟨_,_,O,O,A 9 XZ (by rw[E,pF XX,H,pF (by intro h;rw[UK]at h;rw[h.1,h.2]at s;cases s),AT D])⟩
  exact TM<|Z2 O<|⟨(k+1),TO (aS O) (aO O) O O,⟨XX,by rw[dM hs,E,pF XX,H,pF (by intro h;rw[UK]at h;rw[h.1,h.2]at s;cases s),pF (by rw[D];decide)]⟩,XX⟩
 exact Gx O<|Z1 O<|Gt O<|⟨_,_,O,O,ah (PV.int .i64) (by rw[show S.feats.length=k by omega,hs])⟩
end
section
open Mk
theorem Cs(S:Sch):((((((S.attrs.length:Int)==0)||decide ((12:Int)<S.attrs.length))||((S.rels.length:Int)==0))||decide ((6:Int)<S.rels.length))||decide ((8:Int)<S.feats.length))=VA↔S.attrs.length=0\/12<S.attrs.length\/S.rels.length=0\/6<S.rels.length\/8<S.feats.length:=by
 simp only[UW,VK,OC];omega
def HD(S:Sch):Nat->Int
 |0=>bV (gW S) S.attrs.length
 |1=>ia S
 |_=>bV (kH S) S.feats.length
def Pc:Nat->FuncId
 |0=>178
 |1=>179
 |_=>180
theorem Df(S:Sch)(hS:SB S)(k:Nat):FnP prog (Pc k) [gg S] (· = .int .i64 (HD S k)):=by
 match k with
 |0=>exact rF S hS
 |1=>exact rS S hS
 |k+2=>exact ub S hS
theorem Mo(k:Nat):db prog (Pc k):=by
 match k with
 |0=>exact call178
 |1=>exact call179
 |k+2=>exact call180
theorem MW(k:Nat)(s:k<3):([.fn (.func 178) [] [],.fn (.func 179) [] [],.fn (.func 180) [] []]:List PV)[k*1]? =UF (.fn (.func (Pc k)) [] []):=by
 match k,s with
 |0,_=>rfl
 |1,_=>rfl
 |2,_=>rfl
theorem Kl{S:Sch}(s:¬ (S.attrs.length=0\/12<S.attrs.length\/S.rels.length=0\/6<S.rels.length\/8<S.feats.length))(E:k<3)(B:∀j,j<k->HD S j=0)(h:¬HD S k=0):HD S k=bG S:=by
 unfold bG;rw[pF s];match k,E with
 |0,_=>rw[AT (show bV (gW S) S.attrs.length≠0 from h)];rfl
 |1,_=>have A:=B 0 XX;rw[pF (λe=>e A),AT (show ia S≠0 from h)];rfl
 |2,_=>have A:=B 0 XX;have D:=B 1 XX;rw[pF (λe=>e A),pF (λe=>e D),AT (show bV (kH S) S.feats.length≠0 from h)];rfl
theorem uR(S:Sch)(hS:SB S):FnP prog 114 [gg S] (· = .int .i64 (bG S)):=by
 refine FnP.of func114 O ntmps114 X2 λ_ _ _ _=>?_
 have W:=hS.a;refine Z2 O<|Gr O<|Ar 5 O ?_;apply TX 5 10 15 [11,12,13,14] O X8
 .intro hb4;exact Ar 5 O<|TQ X7 O O O
 .intro hb4;exact Ar 5 O<|TQ X7 O O O
 refine A1 O ?_;apply TX 5 16 21 [17,18,19,20] O X8
 .intro hb10;exact Ar 5 O<|TQ X7 O O O
 .intro hb10;exact Ar 5 O<|TQ X7 O O O
 refine A1 O ?_;apply TX 5 22 27 [23,24,25,26] O X8
 .intro hb16;exact Ar 5 O<|TQ X7 O O O
 .intro hb16;exact Ar 5 O<|TQ X7 O O O
 refine A1 O ?_;apply TX 5 28 33 [29,30,31,32] O X8
 .intro hb22;exact Ar 5 O<|TQ X7 O O O
 .intro hb22;exact Ar 5 O<|TQ X7 O O O
 refine Gc O (λs=>?_) (λs=>?_)
 .exact Z1 O<|Gt O<|⟨_,_,O,O,ah (PV.int .i64) (by unfold bG;rw[AT ((Cs S).1 s)])⟩
 have hlim:¬ (S.attrs.length=0\/12<S.attrs.length\/S.rels.length=0\/6<S.rels.length\/8<S.feats.length):=λh=>by rw[(Cs S).2 h]at s;cases s
 refine TM<|Gr O<|Rs O (ax UG X2 el281 O XZ XZ O O)<|Y2 O<|Gl O (st:=λX6:Nat=>mkS [(1,.ptr 0 0),(34,.pv (.sl UG 3 [.fn (.func 178) [] [],.fn (.func 179) [] [],.fn (.func 180) [] []])),(35,pIi 3),(36,pIi X6)] [(0,.mix 30 (sCc S))] 1)
  (I:=λX6=>X6<=3/\∀j,j<X6->HD S j=0) (μ:=λX6=>3-X6) (x0:=(0)) (TO (aS O) (aO O) O O) (⟨XX,λj hj=>absurd hj (VV _)⟩) ?_
 rintro k ⟨hk,hz⟩;refine Z1 O<|Gp O (λJ=>?_) (λJ=>?_)
 .have hlt:k<3:=XX;have X:=MW k hlt;refine TM<|Gr O<|Rs O (ag k underlying281 sz210 O O O hlt X2) ?_;first|refine A2 O X0 ?_|refine A1 O ?_
  refine A1 O<|Z2 O<|Rs O (ja (Mo k) O (Df S hS k) O)<|A1 O<|Z2 O ?_;refine Gc O (λD=>?_) (λD=>?_)
  .exact Z2 O<|Gt O<|⟨_,_,O,O,ah (PV.int .i64) (Kl hlim hlt hz (inT D))⟩
  exact TM<|Z2 O<|⟨(k+1),TO (aS O) (aO O) O O,⟨XX,λj hj=>by rcases Vu.1 hj with h|rfl;exact hz j h;exact inF D⟩,XX⟩
 have h0:=hz 0 XX;have M:=hz 1 XX;have T:=hz 2 XX;have G:=rA hlim h0 M T;refine Gx O<|Z4 O ?_;apply TX 7 51 58 [52,53,54,55,56,57] O X8
 .intro hb3;exact Ar 7 O<|TQ X7 O O O
 .intro hb3;exact Ar 7 O<|TQ X7 O O O
 refine A1 O<|Gc O (λE=>?_) (λE=>?_)
 .exact Z1 O<|Gt O<|⟨_,_,O,O,ah (PV.int .i64) (by rw[G,AT (by simpa using E)])⟩
 have hn:¬ (S.label< -1\/(S.attrs.length:Int)<=S.label):=by simpa using E
 have V:0<=S.label->∃(a:Nat),S.label=(a:Int)/\a<S.attrs.length/\(aK S.attrs)[a*2+1]? =UF (.int .i64 (S.attrs.getD S.label.toNat default).2):=λh=>by obtain⟨a,ha⟩:=tI h;have B:a<S.attrs.length:=XX;refine⟨a,ha,B,?_⟩;rw[ha];simp only[Ux,List.getD,BY B];exact ib _ 2 (λ_=>rfl) S.attrs a 1 B XZ
 refine Z4 O ?_;apply TY 9 63 72 [64,65,66,67,68,69,70,71] O X8
 .intro hb3;obtain⟨a,ha,B,hk2⟩:=V (V9 hb3);have H:=iZ B;refine Ar 4 O<|Rg O (ag a underlying26 nM O O ha B H)<|A1 O ?_;first|refine A2 O X0 ?_|refine A1 O ?_
  exact Y2 O<|TQ X7 O O O
 .intro hb3;exact Ar 9 O<|TQ X7 O O O
 refine A1 O<|Gc O (λA=>?_) (λA=>?_)
 .exact Z1 O<|Gt O<|⟨_,_,O,O,ah (PV.int .i64) (by rw[G,pF hn,AT (by simpa using A)])⟩
 exact TM<|Z1 O<|Gt O<|⟨_,_,O,O,ah (PV.int .i64) (by rw[G,pF hn,pF (by rintro⟨M,T⟩;rw[SR (show S.label>=0 from M),WV,bne_eq_false_iff_eq]at A;exact T A)])⟩
end
end Go.Proofs.YtameambcolibjaaGreatDoor
