/- Lemmas. No condition. -/
import Derived.MapKept
import Derived.Carry
import Derived.Test.YtkkenamefaegfaaGreatDoorJE5
set_option maxRecDepth 100000
set_option maxHeartbeats 4000000
open Go.RowKit Go.Proofs.Tryz
open Option renaming some→UF,none→UG
open Bool renaming true→VA,false→VC
namespace Go.Proofs.YtkkenamefaegfaaGreatDoor
variable{d:TypeDesc}{k x b a clock i id j c n q:Nat}{u y zv:Value}{ps qs cs:List PV}{es:Array MapEntry}{r:Option PV}{f:FuncId}{P:Program}{p zp:PV}{T:TypeId}{o:List Nat}{l L:List Int}{α:Type}{U:List Bool}
section
open Go.RowKit Go.MapKept
def bH:List PV->List PV->Option Bool
 |[],[]=>UF VA
 | .int k a::xs,.int k' b::bs=>bif kEq k k' then(bH xs bs).map λr=>(a==b)&&r else UG
 | .str a::xs,.str b::bs=>(bH xs bs).map λr=>(a==b)&&r
 | .bool a::xs,.bool b::bs=>(bH xs bs).map λr=>(a==b)&&r
 |_,_=>UG
def keq:PV->PV->Option Bool
 | .int k a,.int k' b=>bif kEq k k' then UF (a==b)else UG
 | .str a,.str b=>UF (a==b)
 | .bool a,.bool b=>UF (a==b)
 | .agg a,.agg b=>bH a b
 |_,_=>UG
def cJ(k:PV):List PV->Nat->Option (Option Nat)
 |[],_=>UF UG
 | x::l,i=>match keq k x with
   |some VA=>UF (UF i)
   |some VC=>cJ k l (i+1)
   |none=>UG
def L5:TypeDesc->PV->Bool
 | .int k,.int k' _=>kEq k' k
 | .string,.str _=>VA
 | .bool,.bool _=>VA
 |_,_=>VC
section
variable {w:World}{R:Nat->Prop}
theorem BV(k:IntKind):kEq k k=VA:=by cases k<;>rfl
theorem FZ{k x:PV}(B:L5 d k=VA)(s:RelP w R k u)(A:RelP w R x y){b:Bool}(h:keq k x=UF b):Instr.sameNow d u y=UF b:=by
 cases k<;>cases d<;>simp only[L5,UO]at B<;>cases x<;>simp only[keq,reduceCtorEq]at h<;>simp only[RelP]at s A<;>subst s A
 .replace h:=bd h;have:=fC h.1;subst this;simpa[Instr.sameNow]using h.2
 .simpa[Instr.sameNow]using h
 simpa[Instr.sameNow]using h
theorem qn{k:PV}(s:L5 d k=VA)(A:RelP w R k u):∀{ks:List PV}{es:List MapEntry}{i:Nat}{r:Option Nat},RelPL w R ks (es.map (·.key))->cJ k ks i=UF r->
  match r with
  |none=>Instr.findNow d u es i=UF UG
  |some j=>∃q e,j=i+q/\es[q]? =UF e/\Instr.findNow d u es i=UF (UF (j,e.val))
 |[],[],i,r,_,h=>by simp only[cJ,TJ]at h;subst h;rfl
 |[],_::_,_,_,hr,_=>by simp[RelPL]at hr
 |x::ks,[],_,_,hr,_=>by simp[RelPL]at hr
 | x::ks,e::es,i,r,hr,h=>by
   simp only[cu,RelPL,U8]at hr;obtain⟨y,ys,⟨rfl,rfl⟩,h1,h2⟩:=hr;simp only[cJ]at h;split at h
   .rename_i hb;cases h;have:=FZ s A h1 hb;exact⟨0,e,O,O,by simp[Instr.findNow,this]⟩
   .rename_i hb;have B:=FZ s A h1 hb;have ih:=qn s A h2 h;cases r with
    |none=>simpa[Instr.findNow,B]using ih
    | some j=>
      obtain⟨q,e',hj,he,hf⟩:=ih;exact⟨q+1,e',Xj,by simpa using he,by simpa[Instr.findNow,B]using hf⟩
   cases h
theorem sv{k:PV}(s:L5 d k=VA)(A:RelP w R k u):IsKey d u:=by
 cases k<;>cases d<;>simp only[L5,UO]at s<;>simp only[RelP]at A<;>subst A<;>first|exact fC s|trivial
theorem pd{k:PV}:∀{ks:List PV}{i j:Nat},cJ k ks i=UF (UF j)->∃q x,j=i+q/\ks[q]? =UF x/\keq k x=UF VA
 |[],_,_,h=>by simp[cJ]at h
 | x::ks,i,j,h=>by
   simp only[cJ]at h;split at h
   .simp_all
   .obtain⟨q,y,e,h1,h2⟩:=pd h;exact⟨q+1,y,Xj,by simpa using h1,h2⟩
   cases h
theorem iW{a b:ByteArray}(h:(a==b)=VA):a=b:=by
 have:(a.data==b.data)=VA:=h;exact ByteArray.ext (eq_of_beq this)
theorem kJ(a:ByteArray):(a==a)=VA:=by
 have:(a.data==a.data)=VA:=Uw a.data;exact this
theorem r6:∀{a b:List PV}{us vs:List Value},bH a b=UF VA->RelPL w R a us->RelPL w R b vs->us=vs/\∀n,((vs.zip us).all fun(x,y)=>Instr.sameBits n x y)=VA
 | [],[],us,vs,_,h1,h2=>by
   simp only[RelPL]at h1 h2;subst h1 h2;exact⟨O,λ_=>rfl⟩
 |[],_::_,_,_,h,_,_=>by simp[bH]at h
 |a::xs,[],_,_,h,_,_=>by cases a<;>simp[bH]at h
 | a::xs,b::bs,us,vs,h,h1,h2=>by
   simp only[RelPL]at h1 h2;obtain⟨u,us',rfl,ha,has⟩:=h1;obtain⟨v,vs',rfl,hb,hbs⟩:=h2;have s:∀r:Bool,(bH xs bs).map (λq=>r&&q)=UF VA->r=VA/\bH xs bs=UF VA:=λr e=>by simp_all
   have B:u=v/\(∀n,Instr.sameBits n v u=VA)/\bH xs bs=UF VA:=by
    cases a<;>cases b<;>simp only[bH,reduceCtorEq]at h
    .simp only[RelP]at ha hb;subst ha hb;rename_i k a k' b;cases hk:kEq k k' with
     |false=>rw[hk]at h;cases h
     | true=>
       rw[hk]at h;obtain⟨e1,e2⟩:=s _ h;have:=fC hk;have A:a=b:=by simpa using e1
       subst this A;exact⟨O,λn=>by cases n<;>simp[Instr.sameBits],e2⟩
    .simp only[RelP]at ha hb;subst ha hb;obtain⟨e1,e2⟩:=s _ h;have A:=eq_of_beq e1;subst A;exact⟨O,λn=>by cases n<;>simp[Instr.sameBits],e2⟩
    simp only[RelP]at ha hb;subst ha hb;obtain⟨e1,e2⟩:=s _ h;have A:=iW e1;subst A;exact⟨O,λn=>by cases n<;>exact kJ _,e2⟩
   obtain⟨rfl,hs,hc⟩:=B;obtain⟨rfl,hr⟩:=r6 hc has hbs;exact⟨O,λn=>by simp only[List.zip_cons_cons,VL,hs n,hr n,Bool.and_self]⟩
theorem BI{k x:PV}(h:keq k x=UF VA)(A:RelP w R k u)(B:RelP w R x y):u=y/\Instr.sameBits 10000 y u=VA:=by
 cases k<;>cases x<;>simp only[keq,reduceCtorEq,TJ]at h
 case agg.agg a b=>
  simp only[RelP]at A B;obtain⟨us,rfl,D⟩:=A;obtain⟨vs,rfl,s⟩:=B;obtain⟨rfl,h3⟩:=r6 h D s;refine⟨O,?_⟩;show(us.toArray.size==us.toArray.size&&(us.toArray.toList.zip us.toArray.toList).all fun(x,y)=>Instr.sameBits 9999 x y)=VA;rw[Uw,Ws];exact h3 9999
 all_goals simp only[RelP]at A B
 all_goals subst A B
 .replace h:=bd h;have D:=fC h.1;have s:=h.2;simp only[TJ,U6]at s;subst D s;simp[Instr.sameBits]
 .simp at h;subst h;simp[Instr.sameBits]
 have:=iW h;subst this;exact⟨O,by show(_==_)=VA;exact kJ _⟩
end
def zw(ks:List PV):Prop:=ks.Pairwise λa b=>keq a b=UF VC
theorem xS{a b:ByteArray}:(a==b)=(b==a):=by grind[iW,kJ]
theorem CT(a b:IntKind):kEq a b=kEq b a:=by
 cases h:kEq a b with
 |true=>rw[fC h,BV]
 | false=>cases h2:kEq b a with
   |false=>rfl
   |true=>rw[fC h2,BV]at h;cases h
theorem yn:∀a b:List PV,bH a b=bH b a
 |[],[]=>rfl
 |[],b::_=>by cases b<;>rfl
 |a::_,[]=>by cases a<;>rfl
 | a::xs,b::bs=>by
   cases a<;>cases b<;>simp only[bH]<;>rw[yn xs bs]
   .grind[CT]
   .grind
   rw[xS]
theorem GY(a b:PV):keq a b=keq b a:=by
 cases a<;>cases b<;>simp only[keq]
 .grind[CT]
 .grind
 .rw[xS]
 exact yn _ _
theorem lT:∀{a b:List PV},bH a b=UF VA->a=b
 |[],[],_=>rfl
 |[],b::_,h=>by cases b<;>simp[bH]at h
 |a::_,[],h=>by cases a<;>simp[bH]at h
 | a::xs,b::bs,h=>by
   have fin:∀r:Bool,(bH xs bs).map (λq=>r&&q)=UF VA->r=VA/\xs=bs:=λr e=>by
    cases hc:bH xs bs with
    |none=>rw[hc]at e;cases e
    |some q=>rw[hc]at e;simp at e;exact⟨e.1,lT (by rw[hc,e.2])⟩
   cases a<;>cases b<;>simp only[bH,reduceCtorEq]at h
   .rename_i k a k' b;cases hk:kEq k k' with
    |false=>rw[hk]at h;cases h
    | true=>
      rw[hk]at h;obtain⟨e1,rfl⟩:=fin _ h;rw[fC hk,show a=b by simpa using e1]
   .grind
   obtain⟨e1,rfl⟩:=fin _ h;rw[iW e1]
theorem zA{a b:PV}(h:keq a b=UF VA):a=b:=by
 cases a<;>cases b<;>simp only[keq,reduceCtorEq]at h
 .grind[kEq,fC]
 .grind
 .have e:=iW (VJ h);rw[e]
 rw[lT h]
theorem kz{k:PV}:∀{ks:List PV}{i:Nat},cJ k ks i=UF UG↔∀x∈ks,keq k x=UF VC
 |[],i=>by simp[cJ]
 | x::ks,i=>by
   simp only[cJ];constructor
   .intro h;split at h
    .cases h
    .rename_i hb;intro y hy;rcases BY.1 hy with rfl|hy
     .exact hb
     exact kz.1 h y hy
    cases h
   .intro h;rw[h x Xn];exact kz.2 λy hy=>h y (by simp[hy])
theorem yr{k:PV}:∀{ks:List PV}{i j:Nat},(∀q x,q<j->ks[q]? =UF x->keq k x=UF VC)->(∃x,ks[j]? =UF x/\keq k x=UF VA)->cJ k ks i=UF (UF (i+j))
 |[],_,_,_,h=>by obtain⟨x,h,_⟩:=h;simp at h
 | x::ks,i,0,_,h=>by
   obtain⟨y,h1,h2⟩:=h;simp only[List.getElem?_cons_zero,TJ]at h1;subst h1;simp[cJ,h2]
 | x::ks,i,j+1,h0,h=>by
   obtain⟨y,h1,h2⟩:=h;have e:=h0 0 x Xj O;have ih:=yr (ks:=ks) (i:=i+1) (j:=j) (λq z hq hz=>h0 (q+1) z Xj (by simpa using hz)) ⟨y,by simpa using h1,h2⟩;simp only[cJ,e,ih];rw[show i+1+j=i+(j+1) by omega]
def me(n:Nat)(σ:St)(x:Operand)(ks vs:List PV):Prop:=
 (∃id,σ.ev n x= .map id/\σ.ob id=UF (.mp ks vs))\/(σ.ev n x= .pv (.mp ks vs)/\zw ks)\/(σ.ev n x= .pv .nilmap/\ks=[]/\vs=[])
section
variable {C:Ctx}{n:Nat}{σ:St}{a:Act}{w:World}{m:Gm}{R:Nat->Prop}{x y z:Operand}{dst:Option Tmp}{ty t kt et:TypeId}{pos:String}{after:Array Edge}{gd:Option (Nat×Bool)}{ks vs:List PV}
theorem DV{es:List MapEntry}(s:RelPL w R ps (es.map (·.key)))(A:RelPL w R qs (es.map (·.val))):∀{es':List MapEntry},es.Perm es'->∃ps' qs',RelPL w R ps' (es'.map (·.key))/\RelPL w R qs' (es'.map (·.val))/\(ps'.zip qs').Perm (ps.zip qs):=by
 intro es' hp;induction hp generalizing ps qs with
 |nil=>exact⟨ps,qs,s,A,T3 _⟩
 | cons e _ ih=>
   cases ps with
   |nil=>simp[RelPL]at s
   | cons p ps=>
     cases qs with
     |nil=>simp[RelPL]at A
     | cons q qs=>
       simp only[cu,RelPL,U8]at s A;obtain⟨_,_,⟨rfl,rfl⟩,a1,a2⟩:=s;obtain⟨_,_,⟨rfl,rfl⟩,b1,b2⟩:=A;obtain⟨ps',qs',c1,c2,c3⟩:=ih a2 b2;exact⟨p::ps',q::qs',RelPL.cons a1 c1,RelPL.cons b1 c2,by simp only[List.zip_cons_cons];exact List.Perm.cons (p,q) c3⟩
 | swap e e' l=>
   cases ps with
   |nil=>simp[RelPL]at s
   | cons p ps=>
     cases ps with
     |nil=>simp[RelPL]at s
     | cons p' ps=>
       cases qs with
       |nil=>simp[RelPL]at A
       | cons q qs=>
         cases qs with
         |nil=>simp[RelPL]at A
         | cons q' qs=>
           simp only[cu,RelPL,U8]at s A;obtain⟨_,_,⟨rfl,rfl⟩,a1,_,_,⟨rfl,rfl⟩,a2,a3⟩:=s;obtain⟨_,_,⟨rfl,rfl⟩,b1,_,_,⟨rfl,rfl⟩,b2,b3⟩:=A;exact⟨p'::p::ps,q'::q::qs,RelPL.cons a2 (RelPL.cons a1 a3),RelPL.cons b2 (RelPL.cons b1 b3),by simp only[List.zip_cons_cons];exact List.Perm.swap _ _ _⟩
 | trans _ _ ih1 ih2=>
   obtain⟨p1,q1,a1,a2,a3⟩:=ih1 s A;obtain⟨p2,q2,b1,b2,b3⟩:=ih2 a1 a2;exact⟨p2,q2,b1,b2,b3.trans a3⟩
def rD(vs:List PV):Option Nat->Option (Option PV)
 |none=>UF UG
 |some j=>(vs[j]?).map UF
theorem DK{key:PV}(I:ps.length=qs.length)(A:ks.length=vs.length)(W:zw ks)(H:(ps.zip qs).Perm (ks.zip vs)){f:Option Nat}(J:cJ key ks 0=UF f)(s:rD vs f=UF r):
  ∃f',cJ key ps 0=UF f'/\rD qs f'=UF r:=by
 have M:∀x,x∈ps↔x∈ks:=λx=>by
  have B:(ps.zip qs).map (·.1)=ps:=WY (UM I);have D:(ks.zip vs).map (·.1)=ks:=WY (UM A);rw[<-B,<-D];exact(H.map _).mem_iff
 cases f with
 | none=>
   exact⟨UG,kz.2 λx hx=>kz.1 J x ((M x).1 hx),s⟩
 | some j=>
   obtain⟨q,x,hj,hx,hkx⟩:=pd J;simp only[T8]at hj;subst hj;have e:=zA hkx;subst e;simp only[rD]at s;cases hv:vs[j]? with
   |none=>rw[hv]at s;cases s
   | some v=>
     rw[hv]at s;simp only[Vu,TJ]at s;subst s;have V:(key,v)∈ps.zip qs:=H.mem_iff.2 (List.mem_iff_getElem?.2 ⟨j,by rw[List.getElem?_zip_eq_some];exact⟨hx,hv⟩⟩);obtain⟨i,hi⟩:=List.mem_iff_getElem?.1 V;rw[List.getElem?_zip_eq_some]at hi;have E:zw ps:=by
      have B:(ps.zip qs).map (·.1)=ps:=WY (UM I);have D:(ks.zip vs).map (·.1)=ks:=WY (UM A);have G:ps.Perm ks:=by rw[<-B,<-D];exact H.map _
      exact(G.pairwise_iff (fun{a b} h=>by rw[GY];exact h)).2 W
     refine⟨UF i,?_,by simp only[rD];rw[hi.2];rfl⟩;have:=yr (k:=key) (ks:=ps) (i:=0) (j:=i) (λq z hq hz=>?_) ⟨key,hi.1,hkx⟩
     .rw[this,T8]
     obtain⟨h1,rfl⟩:=TE.1 hz;obtain⟨h2,h3⟩:=TE.1 hi.1;have:=Uj.1 E q i h1 h2 hq;rw[h3,GY]at this;exact this
theorem me.at(s:SW C n σ a w m R)(h:me n σ x ks vs):(∃b es clock ps qs,a.eval x= .map (UF b)/\w.heap[b]? =UF (.map es clock)/\RelPL w R ps (es.toList.map (·.key))/\RelPL w R qs (es.toList.map (·.val))/\ks.length=ps.length/\
  ∀{key:PV}{f:Option Nat}{r:Option PV},cJ key ks 0=UF f->rD vs f=UF r->∃f',cJ key ps 0=UF f'/\rD qs f'=UF r)\/(a.eval x= .map UG/\ks=[]/\vs=[]):=by
 rcases h with⟨id,hx,ho⟩|⟨hx,hd⟩|⟨hx,h1,h2⟩
 .obtain⟨b,N,hm,hr⟩:=s.live ho;have:=s.ev x;rw[hx]at this;simp only[Rel]at this;obtain⟨es,clock,q1,q2,q3,_⟩:=hr;exact .inl ⟨b,es,clock,ks,vs,this.2 b N hm,q1,q2,q3,O,fun{key f r} h1 h2=>⟨f,h1,h2⟩⟩
 .have:=s.pv hx;simp only[RelP]at this;obtain⟨b,e,_,es,clock,l,q1,q2,q3,q4,q5⟩:=this;obtain⟨ps,qs,c1,c2,c3⟩:=DV q2 q3 q5;have l1:=q2.length;have l2:=q3.length;have A:=c1.length;have B:=c2.length;have D:=q5.length_eq;simp only[TB]at l1 l2 A B;exact .inl ⟨b,es,clock,ps,qs,e,q1,c1,c2,Xj,fun{key f r} h1 h2=>DK Xj Xj hd c3 h1 h2⟩
 have:=s.pv hx;simp only[RelP]at this;exact .inr ⟨this,h1,h2⟩
theorem run_map{w:World}{r:Nat}(s:w.heap[r]? =UF (.map es clock)):(getObj r).run P w= .ok (.map es clock) w:=by
 simp[getObj,Sem.run,s]
theorem fM{w:World}{r:Nat}(o:Obj)(s:w.heap[r]? =UF (.map es clock)):(setObj r o).run P w= .ok () { w with heap:=w.heap.setIfInBounds r o }:=by
 simp[setObj,Sem.run,s]
def jJ(k:PV)(ks vs:List PV):Option (Option PV):=
 match cJ k ks 0 with
 |some UG=>UF UG
 |some (UF j)=>(vs[j]?).map UF
 |none=>UG
theorem sJ{k:PV}{ks vs:List PV}(h:jJ k ks vs=UF r):∃f,cJ k ks 0=UF f/\rD vs f=UF r:=by
 unfold jJ at h;split at h
 .rename_i hf;exact⟨UG,hf,h⟩
 .rename_i j hf;exact⟨UF j,hf,h⟩
 cases h
theorem RelPL.at{us:List Value}(h:RelPL w R ps us)(s:ps[i]? =UF p)(A:us[i]? =UF u):RelP w R p u:=by
 obtain⟨u',h1,h2⟩:=h.get s;rw[A]at h1;cases h1;exact h2
theorem Cz(W:SW C n σ a w m R){key:PV}(H:C.P.underlying t=UF (.map kt et))(D:C.P.underlying kt=UF d)(I:L5 d key=VA)(X:me n σ x ks vs)(Y:σ.ev n y= .pv key)(J:(C.P.info? et).map (·.zero)=UF (UF zv))(M:ofC zv=zp)(V:jJ key ks vs=UF r)(ok:Bool):
  ∃u,RelP w R (r.getD zp) u/\(Instr.lookup t (a.eval x) (a.eval y) ok).run C.P w= .ok (if ok then .tuple #[u,.bool r.isSome]else u) w:=by
 have s:=W.pv Y;have E:(zeroValue et).run C.P w= .ok zv w:=by
  cases hq:C.P.info? et with
  |none=>simp[hq]at J
  |some i=>simp[hq]at J;simp[zeroValue,typeInfo,hq,J]
 have A:RelP w R zp zv:=M▸zD w R zv;have B:=sv I s;rcases X.at W with⟨b,es,clock,ps,qs,e,hb,q2,q3,_,hsw⟩|⟨e,rfl,rfl⟩
 .obtain⟨f,G,hr⟩:=sJ V;obtain⟨f',hf',hr'⟩:=hsw G hr;cases f' with
  | none=>
    simp only[rD,TJ]at hr';subst hr';have:=qn I s q2 hf';simp only at this;refine⟨zv,A,?_⟩;simp[Instr.lookup,e,run_underlying H,run_map hb,run_checkKey D B,run_findKey D this,E,Result.andThen]
  | some j=>
    obtain⟨q,e',hj,he,hfn⟩:=qn I s q2 hf';simp only[T8]at hj;subst hj;simp only[rD]at hr';cases hv:qs[j]? with
    |none=>rw[hv]at hr';cases hr'
    | some p=>
      rw[hv]at hr';simp at hr';subst hr';refine⟨e'.val,RelPL.at q3 hv (by simp[he]),?_⟩;simp[Instr.lookup,e,run_underlying H,run_map hb,run_checkKey D B,run_findKey D hfn,Result.andThen]
 simp only[jJ,cJ,TJ]at V;subst V;refine⟨zv,A,?_⟩;have G:Instr.findNow d (a.eval y) (#[]:Array MapEntry).toList 0=UF UG:=rfl;simp[Instr.lookup,e,run_underlying H,run_checkKey D B,run_findKey D G,E,Result.andThen]
theorem xV{key:PV}{b:Bool}(A:C.P.underlying t=UF (.map kt et))(B:C.P.underlying kt=UF d)(D:me n σ x ks vs)(E:σ.ev n y= .pv key)(G:L5 d key=VA)(H:(C.P.info? et).map (·.zero)=UF (UF zv))(s:ofC zv=zp)(I:jJ key ks vs=UF r)(J:r.getD zp=p)(M:r.isSome=b):
  XJ C n ⟨dst,.lookup t x y VA,ty,pos,after,gd⟩ σ ⟨.pv (.tup [p,.bool b]),[],[]⟩:=
 .val λa w m R hw=>by
  obtain⟨u,hr,hrun⟩:=Cz hw A B G D E H s I VA;subst J M;refine⟨_,by simp only[execOp,Sem.run_bind,hrun,Result.andThen_ok];rfl,?_⟩;simp only[Rel,RelP];exact⟨[u,.bool r.isSome],O,RelPL.cons hr (RelPL.cons (by simp only[RelP]) RelPL.nil)⟩
theorem n4{key:PV}(A:C.P.underlying t=UF (.map kt et))(B:C.P.underlying kt=UF d)(D:me n σ x ks vs)(E:σ.ev n y= .pv key)(G:L5 d key=VA)(H:(C.P.info? et).map (·.zero)=UF (UF zv))(s:ofC zv=zp)(I:jJ key ks vs=UF r)(J:r.getD zp=p):
  XJ C n ⟨dst,.lookup t x y VC,ty,pos,after,gd⟩ σ ⟨.pv p,[],[]⟩:=
 .val λa w m R hw=>by
  obtain⟨u,hr,hrun⟩:=Cz hw A B G D E H s I VC;subst J;exact⟨u,by simp only[execOp,Sem.run_bind,hrun,Result.andThen_ok];rfl,by simpa only[Rel]using hr⟩
theorem p6(s:C.P.underlying t=UF (.map kt et))(A:me n σ x ks vs):
  XJ C n ⟨dst,.call { callee:= .builtin .len,args:= #[x],argTypes:= #[t] },ty,pos,after,gd⟩ σ ⟨pIi ks.length,[],[]⟩:=
 .val λa w m R hw=>by
  rcases A.at hw with⟨b,es,clock,ps,qs,e,hb,q2,q3,hlk,_⟩|⟨e,rfl,rfl⟩
  .have hl:=q2.length;simp only[TB]at hl;rw[<-hlk]at hl;exact⟨.int .i64 es.size,by simp[execOp,resolve,invoke,builtin,Builtin.len_,e,run_underlying s,run_map hb,goInt,Result.andThen],by simp only[Rel,RelP];simp at hl;rw[hl]⟩
  exact⟨.int .i64 0,by simp[execOp,resolve,invoke,builtin,Builtin.len_,e,run_underlying s,goInt],by simp only[Rel,RelP];rfl⟩
theorem SW.Ny(h:SW C n σ a w m R)(B:σ.av id=VA)(obj:Obj)(N:Nat)(o:Ob)
  (X:∀(w':World)(m':Gm)(av':Av),(∀b,R b->R b/\w'.heap[b]? =w.heap[b]?)->w'.heap[w.heap.size]? =UF obj->lQ w' m' av' R w.heap.size N o) (J:o.real=VA:=by rfl):
  SW C n ⟨σ.sl,obL [(id,UF o)] σ.ob,avL [id] σ.av⟩ a (w.alloc obj) (upd m id (UF (w.heap.size,N))) R:=by
 have G:∀b,R b->R b/\(w.alloc obj).heap[b]? =w.heap[b]? :=λb s=>⟨s,Below.heap_alloc w _ b (h.hr.rsz b s)⟩
 have H:∀i,σ.av i=VC->i≠id:=λi hi e=>by rw[e,B]at hi;cases hi
 have M:∀i x,σ.av i=VC->upd m id (UF (w.heap.size,N)) i=UF x->m i=UF x:=λi x hi e=>by rwa [a8 _ _ (H i hi)]at e
 have I:∀i,σ.av i=VC->avL [id] σ.av i=VC:=λi hi=>by grind[avL,Nat.beq]
 have V:(w.alloc obj).heap.size=w.heap.size+1:=Xn;have A:∀i,i≠id->obL [(id,UF o)] σ.ob i=σ.ob i:=λi hi=>by grind[Nat.beq,cd,obL]
 have D:obL [(id,UF o)] σ.ob id=UF o:=by simp[obL]
 refine h.world ⟨?_,?_,?_,?_,?_,?_,h.hr.rfr,h.hr.r0,?_,?_,λi hi=>I i (h.hr.res i hi)⟩ G M I
 .intro i;by_cases e:i=id
  .subst e;rw[aC,D];exact J.symm
  rw[a8 _ _ e,A i e];exact h.hr.dom i
 .intro i hi;simp only[avL]at hi;cases s:Nat.beq i id with
  |true=>rw[s]at hi;simp at hi
  | false=>
    rw[s]at hi;rw[A i (λe=>by subst e;simp at s)];exact h.hr.free i (by simpa using hi)
 .intro i o' b N h1 h2;by_cases e:i=id
  .subst e;rw[D]at h1;rw[aC]at h2;cases h1;cases h2;exact X _ _ _ G (heap_alloc_new w _)
  rw[A i e]at h1;rw[a8 _ _ e]at h2;exact(h.hr.obj i o' b N h1 h2).mono G M I (Below.heap_alloc w _ b (h.hr.own i b N h2).1)
 .intro i j b N N' h1 h2;by_cases e1:i=id<;>by_cases e2:j=id
  .rw[e1,e2]
  .subst e1;rw[aC]at h1;rw[a8 _ _ e2]at h2;cases h1;have:=(h.hr.own j _ _ h2).1;omega
  .subst e2;rw[aC]at h2;rw[a8 _ _ e1]at h1;cases h2;have:=(h.hr.own i _ _ h1).1;omega
  rw[a8 _ _ e1]at h1;rw[a8 _ _ e2]at h2;exact h.hr.inj i j b N N' h1 h2
 .intro i b N h1;by_cases e:i=id
  .subst e;rw[aC]at h1;cases h1;exact⟨Xj,λs=>by have:=h.hr.rsz _ s;omega,.inr h.hr.frame.size⟩
  rw[a8 _ _ e]at h1;obtain⟨h2,h3,h4⟩:=h.hr.own i b N h1;exact⟨Xj,h3,h4⟩
 .intro b s;have:=h.hr.rsz b s;omega
 .refine⟨h.hr.frame.os,h.hr.frame.tape,h.hr.frame.output,?_,?_⟩
  .have:=h.hr.frame.size;omega
  .intro k hk hF;rw[Below.heap_alloc w _ k (by have:=h.hr.frame.size;omega)];exact h.hr.frame.block k hk hF
 .intro i x hi e;have E:i≠id:=λW=>by subst W;rw[h.hr.res i hi]at B;cases B
  rw[a8 _ _ E]at e;exact h.hr.j4 i x hi e
theorem SW.turn(h:SW C n σ a w m R){N:Nat}(s:m id=UF (b,N))(w':World)(W:w'.heap.size=w.heap.size)(A:∀k,k≠b->w'.heap[k]? =w.heap[k]?)(e1:w'.os=w.os)(e2:w'.tape=w.tape)(e3:w'.output=w.output)(o:Ob)
  (V:(∀b,R b->R b/\w'.heap[b]? =w.heap[b]?)->lQ w' m σ.av R b N o) (H:o.real=VA:=by rfl):
  SW C n ⟨σ.sl,obL [(id,UF o)] σ.ob,avL [] σ.av⟩ a w' m R:=by
 have D:=h.hr.own id b N s;have G:∀k,R k->R k/\w'.heap[k]? =w.heap[k]? :=λk hk=>⟨hk,A k (λe=>D.2.1 (e▸hk))⟩
 have B:∀i,i≠id->obL [(id,UF o)] σ.ob i=σ.ob i:=λi hi=>by grind[Nat.beq,cd,obL]
 have E:obL [(id,UF o)] σ.ob id=UF o:=by simp[obL]
 have I:∀i x,σ.av i=VC->m i=UF x->m i=UF x:=λ_ _ _ e=>e
 have J:∀i,σ.av i=VC->avL [] σ.av i=VC:=λ_ hi=>hi
 refine h.world ⟨?_,?_,?_,h.hr.inj,?_,?_,h.hr.rfr,h.hr.r0,?_,h.hr.j4,h.hr.res⟩ G I J
 .intro i;by_cases e:i=id
  .subst e;rw[s,E];exact H.symm
  rw[B i e];exact h.hr.dom i
 .intro i hi;have e:i≠id:=λe=>by
   subst e;have:=h.hr.dom i;rw[h.hr.free i hi,s]at this;cases this
  rw[B i e];exact h.hr.free i hi
 .intro i o' b' N' h1 h2;by_cases e:i=id
  .subst e;rw[E]at h1;rw[s]at h2;cases h1;cases h2;exact V G
  rw[B i e]at h1;exact(h.hr.obj i o' b' N' h1 h2).mono G I J (A b' (λM=>e (h.hr.inj i id b N' N (M▸h2) s)))
 .intro i b' N' h1;obtain⟨h2,h3,h4⟩:=h.hr.own i b' N' h1;exact⟨Xj,h3,h4⟩
 .intro b' hb';have:=h.hr.rsz b' hb';omega
 refine⟨e1.trans h.hr.frame.os,e2.trans h.hr.frame.tape,e3.trans h.hr.frame.output,?_,?_⟩
 .have:=h.hr.frame.size;omega
 .intro k hk hF;rw[A k (λe=>by subst e;rcases D.2.2 with h'|h';exact hF h';omega)];exact h.hr.frame.block k hk hF
theorem ea(id:Nat)(A:σ.av id=VA):XJ C n ⟨dst,.makeMap t UG,ty,pos,after,gd⟩ σ ⟨.map id,[(id,UF (.mp [] []))],[id]⟩:=by
 rintro a w Q ⟨m,R,hw⟩;unfold Oper.wp;have s:(execOp a.eval ⟨dst,.makeMap t UG,ty,pos,after,gd⟩).run C.P w= .ok (.value (.map (UF w.heap.size))) (w.alloc (.map #[] 0)):=by
  simp only[execOp,Option.map_none,Sem.run_bind,run_makeMap,Result.andThen_ok];rfl
 rw[s];refine⟨_,O,upd m id (UF (w.heap.size,0)),R,?_⟩;rw[Ts];refine SW.put (hw.Ny A (.map #[] 0) 0 (.mp [] []) ?_) dst ?_
 .intro w' m' av' hR hb;exact⟨#[],0,hb,RelPL.nil,RelPL.nil,by simp[dH]⟩
 simp only[Rel];refine⟨by simp[avL],λb N e=>?_⟩;rw[aC]at e;cases e;rfl
def oU(k:PV)(ks:List PV):List PV:=match cJ k ks 0 with
 |some (UF j)=>ks.set j k
 |_=>ks++[k]
def nF(k v:PV)(ks vs:List PV):List PV:=match cJ k ks 0 with
 |some (UF j)=>vs.set j v
 |_=>vs++[v]
theorem gS{key v:PV}{r:Option Nat}{ks' vs':List PV}(ht:C.P.underlying t=UF (.map kt et))(W:C.P.underlying kt=UF d)(V:σ.ev n x= .map id)(ho:σ.ob id=UF (.mp ks vs))(hy:σ.ev n y= .pv key)(hz:σ.ev n z= .pv v)(hd:L5 d key=VA)(M:cJ key ks 0=UF r)
  (ac:oU key ks=ks') (ad:nF key v ks vs=vs'):XJ C n ⟨UG,.mapUpdate t x y z,ty,pos,after,gd⟩ σ ⟨.pv .any,[(id,UF (.mp ks' vs'))],[]⟩:=by
 rintro a w Q ⟨m,R,hw⟩;obtain⟨b,N,hm,es,clock,hb,q2,q3,q4⟩:=hw.live ho;have G:=hw.ev x;rw[V]at G;simp only[Rel]at G;have V:=G.2 b N hm;have s:=hw.pv hy;have E:=hw.pv hz;have X:=sv hd s;have af:b<w.heap.size:=(TH.1 hb).1;have Y:∀(es':Array MapEntry)(clock':Nat),(Instr.mapUpdate t (a.eval x) (a.eval y) (a.eval z)).run C.P w= .ok () { w with heap:=w.heap.setIfInBounds b (.map es' clock') }->
   RelPL w R ks' (es'.toList.map (·.key))->RelPL w R vs' (es'.toList.map (·.val))->dH es'.toList clock'->Oper.wp C.P ⟨UG,.mapUpdate t x y z,ty,pos,after,gd⟩ a w (λa' w'=>∃σ',σ'=σ.app UG ⟨.pv .any,[(id,UF (.mp ks' vs'))],[]⟩/\SJ C n σ' a' w') Q:=by
  intro es' clock' hrun h1 h2 h3;unfold Oper.wp;have H:(execOp a.eval ⟨UG,.mapUpdate t x y z,ty,pos,after,gd⟩).run C.P w= .ok .skip { w with heap:=w.heap.setIfInBounds b (.map es' clock') }:=by
   simp only[execOp,Sem.run_bind,hrun,Result.andThen_ok,Sem.run_pure]
  rw[H];refine⟨_,O,m,R,hw.turn hm { w with heap:=w.heap.setIfInBounds b (.map es' clock') } Xn (λk W=>by simp only;rw[U9 (λe=>W e.symm)]) O O O (.mp ks' vs') λhR=>?_⟩;exact⟨es',clock',by simp only;rw[VH];simp[af],h1.mono hR,h2.mono hR,h3⟩
 have hl:=q2.length;have ag:=q3.length;simp only[TB]at hl ag;cases r with
 | none=>
   have D:=qn hd s q2 M;simp only at D;refine Y (es.push ⟨a.eval y,a.eval z,clock⟩) (clock+1) ?_ ?_ ?_ ?_
   .simp[Instr.mapUpdate,V,run_underlying ht,run_map hb,run_checkKey W X,run_findKey W D,fM _ hb,Result.andThen]
   .rw[<-ac];simp only[oU,M,WQ,Uc,cu,Un];exact q2.append (RelPL.cons s RelPL.nil)
   .rw[<-ad];simp only[nF,M,WQ,Uc,cu,Un];exact q3.append (RelPL.cons E RelPL.nil)
   simp only[dH,WQ,Uc,cu,Un];refine⟨Wj.2 ⟨q4.1,Xn,λx V y hy e=>?_⟩,λe he=>?_⟩
   .obtain⟨e',he',rfl⟩:=TG.1 V;have:=q4.2 e' he';simp at hy;omega
   rcases Uf.1 he with h|h
   .exact Nat.lt_succ_of_lt (q4.2 e h)
   grind
 | some j=>
   obtain⟨q,e',hj,he,D⟩:=qn hd s q2 M;obtain⟨q',x',hj',hx',hkq⟩:=pd M;simp only[T8]at hj hj';subst hj';subst hj;have Z:=RelPL.at q2 hx' (by simp[he]:(es.toList.map (·.key))[j]? =UF e'.key);have I:=BI hkq s Z;have J:j<es.size:=(TE.1 he).1 |> λh=>by simpa using h
   have aa:es[j]? =UF e':=by simpa using he
   have ab:es[j]=e':=by have:=Array.getElem?_eq_getElem J;rw[aa]at this;exact(VJ this).symm
   have A:(es.modify j λe=>{ e with key:=a.eval y,val:=a.eval z }).toList=es.toList.set j ⟨a.eval y,a.eval z,e'.born⟩:=by
    apply Ww;intro i;rw[WO,WN,WT];by_cases e:j=i
    .subst e;simp[J,ab]
    simp[e]
   refine Y (es.modify j λe=>{ e with key:=a.eval y,val:=a.eval z }) clock ?_ ?_ ?_ ?_
   .simp[Instr.mapUpdate,V,run_underlying ht,run_map hb,run_checkKey W X,run_findKey W D,fM _ hb,Result.andThen,Instr.keyThatStays,aa,I.2]
   .rw[A,<-ac];simp only[oU,M,US];exact q2.set j s
   .rw[A,<-ad];simp only[nF,M,US];exact q3.set j E
   rw[A];have B:(es.toList.set j ⟨a.eval y,a.eval z,e'.born⟩).map (·.born)=es.toList.map (·.born):=by
    rw[US];apply Ww;intro i;rw[WT];by_cases e:j=i
    .subst e;simp[J,ab]
    simp[e]
   refine⟨by rw[B];exact q4.1,λe hm=>?_⟩;have:e.born∈es.toList.map (·.born):=by rw[<-B];exact TG.2 ⟨e,hm,O⟩
   obtain⟨e2,h2,h3⟩:=TG.1 this;rw[<-h3];exact q4.2 e2 h2
def RO(ids:List Nat)(base k':Nat)(Q:V->(Nat->Option Ob)->Prop)(s:OS):Prop:=∃v ob',Q v ob'/\s=⟨v.ren (fu ids base),wrO ids base k' ob',nwO base k'⟩
theorem LD(ids:List Nat)(base k':Nat)(ob':Nat->Option Ob):(wrO ids base k' ob').map (·.1)=ids++nwO base k':=by
 have h:∀(l:List Nat)(j:Nat),(l.zipIdx j).map (λp=>p.1)=l:=by simp_all
 unfold wrO nwO;rw[Uc,Va,Va];exact congr (ah _ (h ids 0)) O
theorem relO{xs:Array Operand}{ts:Array TypeId}{args:List V}{os:List (Nat×Ob)}{k':Nat}{Q:V->(Nat->Option Ob)->Prop}(ids:List Nat)(base:Nat)(hc:db C.P f)(H:FnO C.P f ids.length k' args os Q)(A:xs.toList.map (σ.ev n)=V.renL (fu ids base) args)
  (I:V.allL (okR ids.length 0) args=VA) (hos:os.map (·.1)=(List.range ids.length).map (big+ ·)) (D:os.all (λp=>p.2.all (okR ids.length 0))=VA) (B:gU σ (fu ids base) os) (E:ids.Nodup) (G:(nwO base k').all σ.av=VA):
  OJ C n ⟨dst,.call { callee:= .value (.func f),args:=xs,argTypes:=ts },ty,pos,after,gd⟩ (λτ'=>∃s,RO ids base k' Q s/\s.wr.map (·.1)=ids++nwO base k'/\s.nw=nwO base k'/\τ'=σ.app dst s) σ:=
 cz ids base hc A I hos D B E G H λv ob' h=>⟨_,⟨v,ob',h,O⟩,LD _ _ _ _,O,O⟩
end
end
section
section
variable {C:Ctx}{n:Nat}{σ:St}{dst:Option Tmp}{ty t t':TypeId}{pos:String}{after:Array Edge}{gd:Option (Nat×Bool)}{x y:Operand}
theorem lN{e:TypeId}{z:Value}{size bytes:Nat}{news:List PV}(id':Nat)(s:ElemIs C.P t e z size bytes)(W:σ.ev n x= .pv nS)
  (D:ox n σ y j news) (I:news.length=j*size) (J:∀c∈news,c.leaf=VA) (X:j<=1000000000) (E:σ.av id'=VA):
  XJ C n ⟨dst,.call { callee:= .builtin .append,args:= #[x,y],argTypes:= #[t,t] },ty,pos,after,gd⟩ σ ⟨.gsl id' size j,[(id',UF (.gro e news))],[id']⟩:=by
 rintro a w Q ⟨m,R,hw⟩;have M:=hw.pv W;simp only[RelP]at M;obtain⟨A0,c0,hev,_,_,hn,hc0,_⟩:=M;have G:A0=UG:=by cases A0;rfl;have:=hn VA O;simp at this
 subst G;rw[hc0 trivial]at hev;obtain⟨A,c2,us,hev2,hr2,hrow⟩:=D.row hw;rcases UJ j with rfl|hj
 .obtain rfl:news=[]:=T6 (by simpa using I);obtain⟨i,hi,_⟩:=info_parts s.info;have B:(Builtin.append_ #[t,t] ty #[.slice UG 0 0,.slice A 0 c2]).run C.P w= .ok (.slice UG 0 0) w:=by
   cases A<;>simp[Builtin.append_,run_underlying s.u,sizeOf,typeInfo,hi,Builtin.lenOf,Builtin.firstCells,loadCells,loadCellsFrom]
  unfold Oper.wp execOp;simp only[resolve,invoke,builtin,Sem.run_bind,Sem.run_pure,Result.andThen_ok,Wr,cu,Un,hev,hev2,B];obtain⟨h,hmn⟩:=hw.gro0 E e;refine⟨_,O,m,R,?_⟩;rw[Ts];exact SW.put h dst<|zc (by simp only[RelP];exact⟨UG,0,O,AT _,by simp[maxLen],(λ_ e=>by cases e;rfl),(λ_=>rfl),λe=>absurd O e⟩) hmn (by simp[avL])
 have hnl:0<news.length:=by rw[I];exact W8 hj s.pos
 have H:news≠[]:=Uq.1 hnl;refine pV x y t O 0 e z size bytes s.u s.info s.zs s.pos s.by_ _ 0 j c2 A _ us hev hev2 (World.ownsRow_nil w 0 e size) hrow (by rw[hr2.length,I]) (eU hr2 J) Xj (aJ _) ?_;intro A' c' w' hown' hgr hat
 simp only[T8,Uv]at hown' hat ⊢;rcases hown'.2 with⟨hv,h0⟩|⟨g,cap,cur,hv,_,hg,hkc',hcm',hcs',htk⟩
 .omega
 simp only[Value.slice.injEq]at hv;obtain⟨rfl, -,rfl⟩:=hv;have V:w.heap.size<=g:=by
  rcases hat with h|⟨g',h,hle⟩
  .simp[Value.ownBlock]at h
  simp only[Value.ownBlock,TJ]at h;subst h;exact hle
 refine⟨_,O,upd m id' (UF (g,cur.size)),R,?_⟩;rw[Ts];refine SW.put (hw.fresh E hg hgr (λq hq=>by simp[Value.ownBlock]at hq) (λh=>by have:=hw.hr.rsz _ h;omega) (λi b N hi e=>by have:=(hw.hr.own i b N hi).1;omega) (.inr (by have:=hw.hr.frame.size;omega)) (.gro e news) ?_ (cY H)) dst ?_
 .intro m' av' hR _ _;refine⟨cur,hg,O,?_,?_⟩
  .rw[hcs',<-hr2.length,hown'.1];exact UK _ hkc'
  rw[<-hr2.length,hown'.1,htk];exact hr2.mono hR
 simp only[Rel];refine⟨by simp[avL],_,c',O,hkc',hcm',λh=>by omega,λ_ b N e=>?_⟩;rw[aC]at e;cases e;exact⟨O,hcs'⟩
end
def St.ownC(σ:St)(pid j id sz k:Nat)(T T':TypeId)(cs:List PV)(vs:List V):St:=⟨σ.sl,obL [(pid,UF (.mix T' (vs.set j (.osl id sz k)))),(id,UF (.cells T cs))] σ.ob,σ.av⟩
theorem RelL.setG{w:World}{m:Gm}{av:Av}{R:Nat->Prop}:∀{ps:List V}{us:List Value}(i:Nat){p q:V},RelL w m av R ps us->ps[i]? =UF p->(∀u,Rel w m av R p u->Rel w m av R q u)->RelL w m av R (ps.set i q) us
 |[],_,n,_,_,h,hp,_=>by simp at hp
 |c::cs,_,0,_,_,h,hp,k=>by grind[RelL]
 | c::cs,_,n+1,_,_,h,hp,k=>by
   simp only[RelL]at h;obtain⟨u,xs,rfl,h1,h2⟩:=h;simp only[List.set_cons_succ,RelL];exact⟨u,xs,O,h1,RelL.setG n h2 (by simpa using hp) k⟩
theorem St.Kb{σ:St}{sz:Nat}{T':TypeId}{vs:List V}(pid j:Nat)(D:σ.ob pid=UF (.mix T' vs))(E:vs[j]? =UF (.gsl id sz k))(G:σ.ob id=UF (.gro T cs))(s:0<k)(hc:cs≠[]):σ.le (σ.ownC pid j id sz k T T' cs vs):=
 St.uT λB=>⟨B.sl,λp hp=>by
  rcases BY.1 hp with rfl|hp
  .refine⟨_,_,D,O,O,λb N _ ⟨arr,q1,q2,q3,q4⟩=>⟨arr,q1,q2,by rw[TQ];exact q3,?_⟩⟩;rw[TQ];refine RelL.setG j q4 E λu hu=>?_
   simp only[Rel]at hu ⊢;obtain⟨h0,A,c,he,h1,h2,h3,h4⟩:=hu;refine⟨h0,λb N hm=>⟨c,?_,h1,h2,(h4 s b N hm).2⟩⟩;rw[he,(h4 s b N hm).1]
  obtain rfl:=TF.1 hp;exact⟨_,_,G,O,(cY hc).symm,λ_ _ _ h=>h⟩⟩
end
section
theorem FnM.fg2{args:List PV}{Q:PV->List PV->Prop}(h:FnM P f T cs args (λv c=>Q v.fg2 c)):FnM P f T cs args Q:=
 λw m R us h1 h2=>(h w m R us h1 h2).mono λ_ _ ⟨u,v,ob',m',R',e,⟨r,cs',hv,ho,q⟩,_,hob,hr,hrel⟩=>⟨u,.pv r.fg2,ob',m',R',e,⟨r.fg2,cs',O,ho,q⟩,O,hob,hr,by subst hv;simp only[Rel]at hrel ⊢; exact hrel.fg2⟩

end
section
theorem wD(h:a<=9223372036854775807):IntKind.i64.wrap ((a:Int).tdiv 1000000000)=((a/1000000000:Nat):Int):=by grind[fw]
theorem CF{y:Nat}(s:x<1000000000)(A:y<1000000000):x*y<=999999998000000001:=Uy (show x<=999999999 by omega) (show y<=999999999 by omega)
theorem Du  {S:Nat} (s:o.length=i) (h:val o+1000000000^i*c=S*n):
  val (o++[(c+x*n)%1000000000])+1000000000^(i+1)*((c+x*n)/1000000000)=(S+1000000000^i*x)*n:=by grind[dq,val_one,Um,Xe,U1,Vy,Nat.mod_add_div]
theorem Lr(s:x<1000000000)(hc:c<n\/c=0)(A:n<1000000000):(c+x*n)/1000000000<n\/(c+x*n)/1000000000=0:=by
 rcases UJ n with e|e
 .grind
 left
 rw[V2 Xl];have:x*n<=999999999*n:=UK _ Xj;omega
theorem eX(a n:Nat)(ha:(ae a).length<=1000000)(X:n<1000000000):FnP prog 288 [pli (ae a),.int .i64 n] (· =pli (ae (a*n))):=by
 refine FnP.of func288 O ntmps288 Xn λ_ _ _ _=>?_
 obtain⟨la,hla⟩:∃n:Nat,n=(ae a).length:=⟨_,O⟩;refine Z1 O<|Z1 O<|Tj (Tp 5 0 1 3 O O)<|Z1 O<|Z1 O<|Gl O (st:=λXr:Nat×Nat×List Nat=>mkS [(0,.pv (pli (ae a))),(1,pIi n),(5,.gsl 0 1 Xr.2.2.length),(6,pIi Xr.2.1),(7,pIi Xr.1)] [(0,.gro 3 (gD Xr.2.2))] 1)
  (I:=λXr=>(Xr.2.2.length=Xr.1/\Xr.1<=la+1/\(Xr.1=la+1->Xr.2.1=0))/\(Lok Xr.2.2/\(Xr.2.1<n\/Xr.2.1=0))/\val Xr.2.2+1000000000^Xr.1*Xr.2.1=sm (lim (ae a)) Xr.1*n) (μ:=λXr=>la+1-Xr.1) (x0:=(0,0,[])) (WA O) (⟨⟨O,aJ _,λ_=>rfl⟩,⟨λ_ h=>absurd h Xn,.inr O⟩,by simp[val,sm]⟩) ?_
 rintro⟨i,c,o⟩ ⟨⟨hol,hil,hic⟩,⟨hok,hc⟩,he⟩;try simp only at hol hil hic hok hc he ⊢
 refine Gr O<|Ar 5 O ?_;apply Tt 3 12 15 [13,14] O Xt
 .intro hb4;exact Y3 O<|Tm Xs O O O
 .intro hb4;exact Y3 O<|Tm Xs O O O
 refine Gc O (λs=>?_) (λs=>?_)
 .have hst:=Du (x:=lim (ae a) i) hol he;have D:=cR (aZ a) i;have Y:=CF D X;have B:=Lr D hc X;have G:sm (lim (ae a)) (i+1)=sm (lim (ae a)) i+1000000000^i*lim (ae a) i:=rfl;rw[<-G]at hst;have A:=hok.append (r:=[(c+lim (ae a) i*n)%1000000000]) (Lok.one (UH _ Xl));have Z:i<=la:=by
   simp only[Ub,Tz]at s;rcases s with e|e<;>omega
  refine Ti<|Z4 O<|Gp O (λE=>?_) (λE=>?_)
  .have hia:i<(ae a).length:=Xj;have ab:=cw hia;have H:=dj hia;generalize lim (ae a) i=x at*;refine Z3 O<|Rs O (ag i underlying22 sz3 O O O hia H)<|A2 O Xm ?_;exact A1 O<|Rs O (GZ O O (by rw[<-Vn];omega))<|Rs O (XJ.cast (v':= pIi ((c+x*n:Nat):Int)) (l9 O O (by rw[<-Vn];omega)) O)<|A1 O<|Z2 O<|Rs O (XJ.cast (v':= pIi (((c+x*n)%1000000000:Nat):Int)) (fZ O O Xl) O)<|Y3 O<|Z1 O<|Rs O (XJ.cast (v':= pIi (((c+x*n)/1000000000:Nat):Int)) (dJ O O Xl) (ah (λi=>pIi i) (wD Xj)))<|A1 O<|Z3 O<|⟨(i+1,(c+x*n)/1000000000,o++[(c+x*n)%1000000000]),Tl [2] ⟨O,O,TX (b:= .gsl 2 1 (o.length+1)) O (ah (V.gsl 2 1) (di o _)),O,O,Xq⟩ ⟨ah (λc=>UF (Ob.gro 3 c)) (limI_snoc _ _),Xq⟩ O O Xl O,⟨⟨by simp only[IN,TP];omega,Xj,λh=>by omega⟩,⟨A,B⟩,hst⟩,Xj⟩
  have hx0:lim (ae a) i=0:=js Xj;rw[hx0,Xi,Vt]at hst A B;exact Ti<|Z2 O<|Rs O (XJ.cast (v':= pIi ((c%1000000000:Nat):Int)) (fZ O O Xl) O)<|Y3 O<|Z1 O<|Rs O (XJ.cast (v':= pIi ((c/1000000000:Nat):Int)) (dJ O O Xl) (ah (λi=>pIi i) (wD Xj)))<|A1 O<|Z3 O<|⟨(i+1,c/1000000000,o++[c%1000000000]),Tl [2] ⟨O,O,TX (b:= .gsl 2 1 (o.length+1)) O (ah (V.gsl 2 1) (di o _)),O,O,Xq⟩ ⟨ah (λc=>UF (Ob.gro 3 c)) (limI_snoc _ _),Xq⟩ O O Xl O,⟨⟨by simp only[IN,TP];omega,Xj,λh=>by show c/1000000000=0;omega⟩,⟨A,B⟩,hst⟩,Xj⟩
 refine Gx O ?_;have J:c=0/\la<=i:=by
  simp only[T5,U7]at s;omega
 have M:val o=a*n:=by rw[J.1,Xa,Vt,eR _ Xj,aL]at he;exact he
 have W:=cM (neg:=VC) o O Xj hok M;exact Tj (Tn 0 O O)<|Z2 O<|Rs O (aa call237 W O)<|Rs O (im underlying132 O O ⟨_,underlying22,O⟩ O O)<|A1 O<|VF O<|by show pli (ae (sgn VC (a*n)).natAbs)=_;rw[uW]
def vW(l:List Int):List PV:=l.map fun(n:Int)=>PV.int .i64 n
theorem LY(l:List Int):(vW l).length=l.length:=by simp[vW]
theorem rB(h:k<l.length):(vW l)[k*1]? =UF (.int .i64 (l.getD k 0)):=by simp[vW,List.getD,h]
theorem mL(l:List Int)(k:Nat)(x:Int):(vW l).set k (.int .i64 x)=vW (l.set k x):=by simp[vW,US]
theorem intI_nat(l:List Nat):gD l=vW (l.map Int.ofNat):=by simp[vW,gD]
attribute [simp] LY
theorem cN{x:Int}(s:k<l.length):(l.set k x).getD i 0=if i=k then x else l.getD i 0:=by grind
theorem Cd(l:List Nat)(i:Nat):(l.map Int.ofNat).getD i 0=(lim l i:Int):=by
 simp only[List.getD,lim,VO];cases l[i]? <;>rfl
structure MinI(a b n i c:Nat)(L:List Int):Prop where
 len:L.length=n
 ile:i<=n
 cle:c<=1
 lo:∀j,j<i->0<=L.getD j 0/\L.getD j 0<1000000000
 mid:i<n->L.getD i 0=(lim (ae a) i:Int)-c
 hi:∀j,i<j->L.getD j 0=(lim (ae a) j:Int)
 sum:sm (λj=>(L.getD j 0).toNat) i+sm (lim (ae b)) i=sm (lim (ae a)) i+1000000000^i*c
theorem jN{M:List Int}(h:MinI a b n i c L)(I:i<n){x:Int}{c':Nat}(s:c'<=1)(A:0<=x/\x<1000000000)
  (X:x=(lim (ae a) i:Int)-c-lim (ae b) i+1000000000*c') (J:M.length=n) (B:∀j,j<i->M.getD j 0=L.getD j 0) (D:M.getD i 0=x)
  (V:i+1<n->M.getD (i+1) 0=(lim (ae a) (i+1):Int)-c') (W:∀j,i+1<j->M.getD j 0=L.getD j 0):MinI a b n (i+1) c' M:=by
 refine⟨J,I,s,λj hj=>?_,V,λj hj=>by rw[W j hj,h.hi j Xj],?_⟩
 .rcases Vd.1 hj with e|e
  .rw[B j e];exact h.lo j e
  rw[e,D];exact A
 have hs:=h.sum;have E:sm (λj=>(M.getD j 0).toNat) i=sm (λj=>(L.getD j 0).toNat) i:=vk λj hj=>by simp only[B j hj]
 rw[sm,sm,sm,E,Um];simp only[D];obtain⟨y,rfl⟩:=Bg A.1;rw[TU];have G:y+lim (ae b) i+c=lim (ae a) i+1000000000*c':=Xj;generalize 1000000000^i=p at*;have H:p*(y+lim (ae b) i+c)=p*(lim (ae a) i+1000000000*c'):=by rw[G]
 rw[Vy,Vy,Vy]at H;rw[U1 p];omega
theorem B5(h:MinI a b n n c L)(H:n=(ae a).length)(G:b<=a):Lok (L.map Int.toNat)/\val (L.map Int.toNat)=a-b/\c=0/\vW L=gD (L.map Int.toNat):=by
 have I:(ae b).length<=n:=by rw[H];exact aR.2 (Wq G (er a))
 have s:=h.len;have D:∀j,lim (L.map Int.toNat) j=(L.getD j 0).toNat:=λj=>by grind
 have A:Lok (L.map Int.toNat):=λx hx=>by
  obtain⟨y,hy,rfl⟩:=TG.1 hx;obtain⟨j,hj,rfl⟩:=Ux hy;have:=h.lo j Xj;simp only[List.getD,IS hj,V8]at this;omega
 have J:=h.sum;have M:sm (λj=>(L.getD j 0).toNat) n=val (L.map Int.toNat):=by
  rw[<-eR (L.map Int.toNat) (n:=n) Xo];exact vk λj _=>(D j).symm
 rw[M,eR _ I,eR _ (UM H.symm),aL,aL]at J;have E:=sV A;rw[TB,s]at E;have B:c=0:=by
  rcases UJ c with e|e
  .exact e
  have:=h.cle;have:c=1:=Xj;subst this;omega
 refine⟨A,by subst B;omega,B,?_⟩;have:∀y∈L,(y.toNat:Int)=y:=λy hy=>by
  obtain⟨j,hj,rfl⟩:=Ux hy;have:=h.lo j Xj;simp only[List.getD,IS hj,V8]at this;omega
 simp only[vW,gD,Va];refine Ud λy hy=>?_
 show PV.int .i64 y=PV.int .i64 (y.toNat:Int);rw[this y hy]
theorem H6(h:MinI a b n i c L)(H:n=(ae a).length)(B:b<=a)(I:i<n)(E:(lim (ae a) i:Int)-c-lim (ae b) i<0):i+1<n:=by
 apply Decidable.byContradiction;intro hlast;have A:i+1=n:=Xj;have G:=cR (aZ b) i;have hc:=h.cle;have D:MinI a b n (i+1) 1 (L.set i ((lim (ae a) i:Int)-c-lim (ae b) i+1000000000)):=by
  have s:=h.len;refine jN h I (x:=(lim (ae a) i:Int)-c-lim (ae b) i+1000000000) (c':=1) Xl ⟨Xj,Xj⟩ O (by simp[s]) (λj hj=>?_) ?_ (λh=>by omega) (λj hj=>?_)
  .grind
  .rw[cN Xj,By O]
  grind
 rw[A]at D;have:=(B5 D H B).2.2.1;cases this
theorem Ga(a b n:Nat)(s:n=(ae a).length):MinI a b n 0 0 ((ae a).map Int.ofNat):=by
 refine⟨by simp[s],aJ _,aJ _,λj hj=>absurd hj (VP _),λ_=>?_,λj _=>Cd _ _,by simp[sm]⟩;rw[Cd];simp
theorem xY(l:List Nat):∀c∈gD l,c.leaf=VA:=λc hc=>by obtain⟨x,_,rfl⟩:=TG.1 hc;rfl
theorem jl(a b:Nat)(ha:(ae a).length<=1000000)(ac:b<=a)(ha0:0<a):FnP prog 242 [pli (ae a),pli (ae b)] (λv=>∃o,Lok o/\o.length=(ae a).length/\val o=a-b/\v=pli o):=by
 refine FnP.fg2 (FnP.of func242 O ntmps242 Xn λ_ _ _ _=>?_);obtain⟨n,hn⟩:∃n:Nat,n=(ae a).length:=⟨_,O⟩;have ad:0<(ae a).length:=V6 λe=>by have:=bJ.1 e;omega
 refine Z1 O<|Z1 O<|Rs O (s9 0 vY O (.inl ⟨UG,O⟩) Xn (xY _) Xj ad O)<|A1 O<|Z1 O<|Gz O (st:=λXr:Nat×Nat×List Int=>([(1,UG),(5,UG),(6,UF (pIi Xr.1))],[(0,UF (.cells 3 (vW Xr.2.2)))])) 1
  (I:=λXr=>MinI a b n Xr.1 Xr.2.1 Xr.2.2) (μ:=λXr=>n-Xr.1) (x0:=(0,0,(ae a).map Int.ofNat)) (Tk (aS O) ⟨ah (λc=>UF (Ob.cells 3 c)) (intI_nat _),Xq⟩ O O) (Ga a b n hn) ?_
 rintro⟨i,c,L⟩ hM;try simp only at hM ⊢
 refine Z4 O<|Gp O (λaa=>?_) (λaa=>?_)
 .have hin:i<n:=Xj;have A:=hM.len;have V:i<L.length:=Xj;have Y:=hM.mid hin;have hc1:=hM.cle;have hxa:=cR (aZ a) i;have hxb:=cR (aZ b) i;have E:=H6 hM hn ac hin;have W:=rB V;rw[Y]at W
  refine Ti<|Z4 O<|Gp O (λab=>?_) (λab=>?_)
  .have hib:i<(ae b).length:=Xj;have hvb:=cw hib;have af:=dj hib;refine UB 11 O<|Dr 2 O<|VE [_] O (λτ h=>ak i underlying22 sz3 (Ee h 0 O O) (Eo h 0 O O) (Ee h 1 O O) O Xj)<|D2 O O Xm ?_;refine Dr 2 O<|TR O (λτ h=>ag i underlying22 sz3 (Ee h 0 O O) (Ee h 1 O O) O hib af)<|D2 O O Xm ?_;refine D1 O<|VE [_] O (λτ h=>ak i underlying22 sz3 (Ee h 0 O O) (Eo h 0 O O) (Ee h 1 O O) O Xj)<|D1 O ?_;refine⟨Xk,?_⟩;rw[show(vW L).set (i*1) (.int .i64 ((lim (ae a) i:Int)-c-(lim (ae b) i:Int)))=vW (L.set i ((lim (ae a) i:Int)-c-lim (ae b) i)) by rw[TZ,mL]];have B:∃x0,x0=(lim (ae a) i:Int)-c-lim (ae b) i:=⟨_,O⟩;obtain⟨x0,B⟩:=B;rw[<-B];have m1:(L.set i x0).length=n:=by rw[TQ];exact A
   have m2:(L.set i x0).getD i 0=x0:=by rw[cN V,By O]
   have m3:∀j,j≠i->(L.set i x0).getD j 0=L.getD j 0:=λj hj=>by rw[cN V,sh hj]
   generalize L.set i x0=M at*;have D:i<M.length:=Xj;have G:=rB D;rw[m2]at G;clear W
   refine Z2 O<|Rs O (ak i underlying22 sz3 O O O O Xj)<|A2 O Xm ?_;refine A1 O ?_;refine Gp O (λJ=>?_) (λJ=>?_)
   .have hi1:=E Xj;have q1:(M.set i (x0+1000000000)).length=n:=by rw[TQ];exact m1
    have q2:(M.set i (x0+1000000000)).getD i 0=x0+1000000000:=by rw[cN D,By O]
    have X:∀j,j≠i->(M.set i (x0+1000000000)).getD j 0=L.getD j 0:=λj hj=>by rw[cN D,sh hj,m3 j hj]
    refine Z2 O<|Rs O (ak i underlying22 sz3 O O O O Xj)<|A2 O Xm ?_;refine A1 O<|Rs O (ak i underlying22 sz3 O O O O Xj)<|A1 O ?_;rw[show(vW M).set (i*1) (.int .i64 (x0+1000000000))=vW (M.set i (x0+1000000000)) by rw[TZ,mL]];generalize M.set i (x0+1000000000)=M2 at*;have s:i+1<M2.length:=Xj;have H:=rB s;have Z:=cR (aZ a) (i+1);rw[X (i+1) Xj,hM.hi (i+1) Xj]at H;refine Z3 O<|Rs O (ak (i+1) underlying22 sz3 O O O O Xj)<|A2 O Xm ?_;exact A1 O<|Rs O (ak (i+1) underlying22 sz3 O O O O Xj)<|A1 O<|Z3 O<|⟨(i+1,1,M2.set (i+1) ((lim (ae a) (i+1):Int)-1)),Tk (aS O) ⟨ah (λc=>UF (Ob.cells 3 c)) (by rw[TZ,mL]),Xq⟩ O O,jN hM hin (x:=x0+1000000000) (c':=1) Xl ⟨Xj,Xj⟩ Xj (by rw[TQ];exact q1) (λj hj=>by rw[cN s,sh Xj,X j Xj]) (by rw[cN s,sh Xj,q2]) (λ_=>by rw[cN s,By O];rfl) (λj hj=>by rw[cN s,sh Xj,X j Xj]),Xj⟩
   exact Ti<|Z3 O<|⟨(i+1,0,M),WA O,jN hM hin (x:=x0) (c':=0) Xl ⟨Xj,Xj⟩ Xj m1 (λj hj=>m3 j Xj) m2 (λ_=>by rw[m3 _ Xj,hM.hi _ Xj];simp) (λj hj=>m3 j Xj),Xj⟩
  have hb0:lim (ae b) i=0:=js Xj;have B:∃x0,x0=(lim (ae a) i:Int)-c-lim (ae b) i:=⟨_,O⟩;obtain⟨x0,B⟩:=B;obtain⟨M,hMd⟩:∃M,M=L:=⟨_,O⟩;have m1:M.length=n:=by rw[hMd];exact A
  have m2:M.getD i 0=x0:=by rw[hMd,Y,B,hb0];simp
  have m3:∀j,j≠i->M.getD j 0=L.getD j 0:=λj _=>by rw[hMd]
  rw[<-hMd];refine Ti ?_;have D:i<M.length:=Xj;have G:=rB D;rw[m2]at G;clear W
  refine Z2 O<|Rs O (ak i underlying22 sz3 O O O O Xj)<|A2 O Xm ?_;refine A1 O ?_;refine Gp O (λJ=>?_) (λJ=>?_)
  .have hi1:=E Xj;have q1:(M.set i (x0+1000000000)).length=n:=by rw[TQ];exact m1
   have q2:(M.set i (x0+1000000000)).getD i 0=x0+1000000000:=by rw[cN D,By O]
   have X:∀j,j≠i->(M.set i (x0+1000000000)).getD j 0=L.getD j 0:=λj hj=>by rw[cN D,sh hj,m3 j hj]
   refine Z2 O<|Rs O (ak i underlying22 sz3 O O O O Xj)<|A2 O Xm ?_;refine A1 O<|Rs O (ak i underlying22 sz3 O O O O Xj)<|A1 O ?_;rw[show(vW M).set (i*1) (.int .i64 (x0+1000000000))=vW (M.set i (x0+1000000000)) by rw[TZ,mL]];generalize M.set i (x0+1000000000)=M2 at*;have s:i+1<M2.length:=Xj;have H:=rB s;have Z:=cR (aZ a) (i+1);rw[X (i+1) Xj,hM.hi (i+1) Xj]at H;refine Z3 O<|Rs O (ak (i+1) underlying22 sz3 O O O O Xj)<|A2 O Xm ?_;exact A1 O<|Rs O (ak (i+1) underlying22 sz3 O O O O Xj)<|A1 O<|Z3 O<|⟨(i+1,1,M2.set (i+1) ((lim (ae a) (i+1):Int)-1)),Tk (aS O) ⟨ah (λc=>UF (Ob.cells 3 c)) (by rw[TZ,mL]),Xq⟩ O O,jN hM hin (x:=x0+1000000000) (c':=1) Xl ⟨Xj,Xj⟩ Xj (by rw[TQ];exact q1) (λj hj=>by rw[cN s,sh Xj,X j Xj]) (by rw[cN s,sh Xj,q2]) (λ_=>by rw[cN s,By O];rfl) (λj hj=>by rw[cN s,sh Xj,X j Xj]),Xj⟩
  exact Ti<|Z3 O<|⟨(i+1,0,M),WA O,jN hM hin (x:=x0) (c':=0) Xl ⟨Xj,Xj⟩ Xj m1 (λj hj=>m3 j Xj) m2 (λ_=>by rw[m3 _ Xj,hM.hi _ Xj];simp) (λj hj=>m3 j Xj),Xj⟩
 refine Gx O ?_;obtain rfl:i=n:=by have:=hM.ile;omega
 obtain⟨e1,e2,_,e4⟩:=B5 hM hn ac;have A:=hM.len;exact Tj (Tn 0 O O)<|Z2 O<|VF O ⟨L.map Int.toNat,e1,by rw[TB,A,hn],e2,by rw[e4,pli,TB,A,hn];rfl⟩
end
section
theorem HF  {y Sa Sb:Nat} (s:o.length=i) (h:val o+1000000000^i*c=Sa+Sb):
  val (o++[(c+x+y)%1000000000])+1000000000^(i+1)*((c+x+y)/1000000000)=Sa+1000000000^i*x+(Sb+1000000000^i*y):=by grind[dq,val_one,Um,U1,Vy,Nat.mod_add_div]
theorem HO(h:Lok o)(D:o.length<=(ae (val o)).length):ae (val o)=o:=by
 by_cases e:o.length=0
 .have:o=[]:=Wv.1 e;subst this;exact aV
 have ht:=iH h (n:=o.length) (AT _) (λi hi=>by simp[List.getD,hi]) (.inr λB=>?_)
 .rw[ht,VM]
 have h1:=jT o (o.length-1);have A:o.drop (o.length-1)=[0]:=by
  rw[TN Xj,show o.length-1+1=o.length by omega,List.drop_length];have:o[o.length-1]'Xj=0:=by grind
  rw[this]
 have s:=sV (h.take (o.length-1));rw[A,val_one,Xa,Vt]at h1;rw[TC,Ul Xj,<-h1]at s;have:=(aR (k:=o.length-1)).2 s;omega
theorem D5(a b:Nat)(ha:(ae a).length<=1000000)(hb:(ae b).length<=1000000):FnP prog 241 [pli (ae a),pli (ae b)] (· =pli (ae (a+b))):=by
 refine FnP.fg2 (FnP.of func241 O ntmps241 Xn λ_ _ _ _=>?_);obtain⟨m,hma,hmb,hmm⟩:∃m:Nat,(ae a).length<=m/\(ae b).length<=m/\(m=(ae a).length\/m=(ae b).length):=⟨max (ae a).length (ae b).length,Xc _ _,Nat.le_max_right _ _,Xj⟩;refine Z1 O<|Z1 O<|Tj (Tp 5 0 1 3 O O)<|Z1 O<|Z1 O<|Gz O (st:=λXr:Nat×Nat×List Nat=>([(0,UG),(1,UG),(5,UF (.gsl 0 1 Xr.2.2.length)),(6,UF (pIi Xr.2.1)),(7,UF (pIi Xr.1))],[(0,UF (.gro 3 (gD Xr.2.2)))])) 1
  (I:=λXr=>(Xr.2.2.length=Xr.1/\Xr.1<=m+1/\(Xr.1=m+1->Xr.2.1=0/\1000000000^m<=a+b))/\(Lok Xr.2.2/\Xr.2.1<=1)/\val Xr.2.2+1000000000^Xr.1*Xr.2.1=sm (lim (ae a)) Xr.1+sm (lim (ae b)) Xr.1) (μ:=λXr=>m+1-Xr.1) (x0:=(0,0,[])) (WA O) (⟨⟨O,aJ _,λh=>by omega⟩,⟨λ_ h=>absurd h Xn,aJ _⟩,by simp[val,sm]⟩) ?_
 rintro⟨i,c,o⟩ ⟨⟨hol,hil,hic⟩,⟨hok,hc⟩,he⟩;try simp only at hol hil hic hok hc he ⊢
 refine Gr O<|Ar 5 O ?_;apply Tt 5 12 17 [13,14,15,16] O Xt
 .intro hb4;exact Ar 5 O<|Tm Xs O O O
 .intro hb4;exact Ar 5 O<|Tm Xs O O O
 refine A1 O ?_;apply Tt 3 18 21 [19,20] O Xt
 .intro hb10;exact Y3 O<|Tm Xs O O O
 .intro hb10;exact Y3 O<|Tm Xs O O O
 refine Gc O (λs=>?_) (λs=>?_)
 .have hst:=HF (x:=lim (ae a) i) (y:=lim (ae b) i) hol he;have ab:=cR (aZ a) i;have ac:=cR (aZ b) i;have H:sm (lim (ae a)) (i+1)=sm (lim (ae a)) i+1000000000^i*lim (ae a) i:=rfl;have J:sm (lim (ae b)) (i+1)=sm (lim (ae b)) i+1000000000^i*lim (ae b) i:=rfl;rw[<-H,<-J]at hst;have ad:i<=m:=by
   simp only[Ub,Tz]at s;rcases s with(e|e)|e<;>omega
  have B:i=m->1000000000^m<=a+b:=λe=>by
   have M:c=1:=by
    simp only[Ub,Tz]at s;rcases s with(e|e)|e<;>omega
   rw[eR _ Xj,eR _ Xj,aL,aL,M,e]at he;omega
  refine Ti<|Z4 O<|Gp O (λG=>?_) (λG=>?_)
  .have hia:i<(ae a).length:=Xj;have af:=cw hia;have W:=dj hia;refine Z3 O<|Rs O (ag i underlying22 sz3 O O O hia W)<|A2 O Xm ?_;refine Rs O (XJ.cast (v':= pIi ((c+lim (ae a) i:Nat):Int)) (l9 O O Xj) O)<|A1 O<|Z4 O ?_;refine Gp O (λA=>?_) (λA=>?_)
   .have hib:i<(ae b).length:=Xj;have X:=cw hib;have D:=dj hib;refine Z3 O<|Rs O (ag i underlying22 sz3 O O O hib D)<|A2 O Xm ?_;exact Rs O (XJ.cast (v':= pIi ((c+lim (ae a) i+lim (ae b) i:Nat):Int)) (l9 O O Xj) O)<|A1 O<|Z2 O<|Rs O (XJ.cast (v':= pIi (((c+lim (ae a) i+lim (ae b) i)%1000000000:Nat):Int)) (fZ O O Xl) O)<|Y3 O<|Z1 O<|Rs O (XJ.cast (v':= pIi (((c+lim (ae a) i+lim (ae b) i)/1000000000:Nat):Int)) (dJ O O Xl) (ah (λi=>pIi i) (wD Xj)))<|A1 O<|Z3 O<|⟨(i+1,(c+lim (ae a) i+lim (ae b) i)/1000000000,o++[(c+lim (ae a) i+lim (ae b) i)%1000000000]),Tl [2] ⟨O,O,TX (b:= .gsl 2 1 (o.length+1)) O (ah (V.gsl 2 1) (di o _)),O,O,Xq⟩ ⟨ah (λc=>UF (Ob.gro 3 c)) (limI_snoc _ _),Xq⟩ O O Xl O,⟨⟨by simp only[IN,TP];omega,Xj,λh=>⟨Xj,B Xj⟩⟩,⟨hok.append (Lok.one (UH _ Xl)),Xp⟩,hst⟩,Xj⟩
   have hy0:lim (ae b) i=0:=js Xj;rw[hy0,Vt]at hst;exact Ti<|Z2 O<|Rs O (XJ.cast (v':= pIi (((c+lim (ae a) i)%1000000000:Nat):Int)) (fZ O O Xl) O)<|Y3 O<|Z1 O<|Rs O (XJ.cast (v':= pIi (((c+lim (ae a) i)/1000000000:Nat):Int)) (dJ O O Xl) (ah (λi=>pIi i) (wD Xj)))<|A1 O<|Z3 O<|⟨(i+1,(c+lim (ae a) i)/1000000000,o++[(c+lim (ae a) i)%1000000000]),Tl [2] ⟨O,O,TX (b:= .gsl 2 1 (o.length+1)) O (ah (V.gsl 2 1) (di o _)),O,O,Xq⟩ ⟨ah (λc=>UF (Ob.gro 3 c)) (limI_snoc _ _),Xq⟩ O O Xl O,⟨⟨by simp only[IN,TP];omega,Xj,λh=>⟨Xj,B Xj⟩⟩,⟨hok.append (Lok.one (UH _ Xl)),Xp⟩,hst⟩,Xj⟩
  have hx0:lim (ae a) i=0:=js Xj;rw[hx0,Vt]at hst;refine Ti<|Z4 O<|Gp O (λA=>?_) (λA=>?_)
  .have hib:i<(ae b).length:=Xj;have X:=cw hib;have D:=dj hib;refine Z3 O<|Rs O (ag i underlying22 sz3 O O O hib D)<|A2 O Xm ?_;exact Rs O (XJ.cast (v':= pIi ((c+lim (ae b) i:Nat):Int)) (l9 O O Xj) O)<|A1 O<|Z2 O<|Rs O (XJ.cast (v':= pIi (((c+lim (ae b) i)%1000000000:Nat):Int)) (fZ O O Xl) O)<|Y3 O<|Z1 O<|Rs O (XJ.cast (v':= pIi (((c+lim (ae b) i)/1000000000:Nat):Int)) (dJ O O Xl) (ah (λi=>pIi i) (wD Xj)))<|A1 O<|Z3 O<|⟨(i+1,(c+lim (ae b) i)/1000000000,o++[(c+lim (ae b) i)%1000000000]),Tl [2] ⟨O,O,TX (b:= .gsl 2 1 (o.length+1)) O (ah (V.gsl 2 1) (di o _)),O,O,Xq⟩ ⟨ah (λc=>UF (Ob.gro 3 c)) (limI_snoc _ _),Xq⟩ O O Xl O,⟨⟨by simp only[IN,TP];omega,Xj,λh=>⟨Xj,B Xj⟩⟩,⟨hok.append (Lok.one (UH _ Xl)),Xp⟩,hst⟩,Xj⟩
  have hy0:lim (ae b) i=0:=js Xj;rw[hy0,Vt]at hst;exact Ti<|Z2 O<|Rs O (XJ.cast (v':= pIi ((c%1000000000:Nat):Int)) (fZ O O Xl) O)<|Y3 O<|Z1 O<|Rs O (XJ.cast (v':= pIi ((c/1000000000:Nat):Int)) (dJ O O Xl) (ah (λi=>pIi i) (wD Xj)))<|A1 O<|Z3 O<|⟨(i+1,c/1000000000,o++[c%1000000000]),Tl [2] ⟨O,O,TX (b:= .gsl 2 1 (o.length+1)) O (ah (V.gsl 2 1) (di o _)),O,O,Xq⟩ ⟨ah (λc=>UF (Ob.gro 3 c)) (limI_snoc _ _),Xq⟩ O O Xl O,⟨⟨by simp only[IN,TP];omega,Xj,λh=>⟨by show c/1000000000=0;omega,B Xj⟩⟩,⟨hok.append (Lok.one (UH _ Xl)),Xp⟩,hst⟩,Xj⟩
 refine Gx O ?_;have Y:c=0/\m<=i:=by
  simp only[T5,U7]at s;omega
 have E:val o=a+b:=by rw[Y.1,Xa,Vt,eR _ Xj,eR _ Xj,aL,aL]at he;exact he
 have Z:o.length<=(ae (a+b)).length:=by
  by_cases e:i=m+1
  .have h1:=(hic e).2;refine Nat.le_of_not_lt λh2=>?_
   have h3:=(aR (n:=a+b) (k:=m)).1 Xj;omega
  have h1:=cD (a:=a) (b:=a+b) Xj;have h2:=cD (a:=b) (b:=a+b) Xj;omega
 have aa:o=ae (a+b):=by have:=HO hok (by rw[E];exact Z);rw[E]at this;exact this.symm
 exact Tj (Tn 0 O O)<|Z2 O<|VF O<|show PV.sl UG o.length (gD o)=_ by rw[aa]
end
section
theorem Bz{m:Nat}(s:(ae a).length<=m)(A:(ae b).length<=m):(ae (a+b)).length<=m+1:=aR.2 (by
 have B:=aR.1 s;have D:=aR.1 A;rw[Um];generalize 1000000000^m=p at*;omega)
def NY:Nat->Nat->List Nat
 |0,_=>[]
 |n+1,v=>v%1000000000::NY n (v/1000000000)
theorem Nl:∀{o:List Nat},Lok o->o=NY o.length (val o)
 |[],_=>rfl
 | d::o,h=>by
   obtain⟨h1,h2⟩:=h.cons;have e:val (d::o)=d+1000000000*val o:=rfl;rw[IT,NY,e,Nat.add_mul_mod_self_left,VU h1,Nat.add_mul_div_left _ _ Xl,VR h1,T8,<-Nl h2]
theorem xm(a b:Nat)(H:(ae a).length<=1000000)(D:b<=a)(E:0<a):FnP prog 242 [pli (ae a),pli (ae b)] (· = .sl UG (ae a).length (gD (NY (ae a).length (a-b))))/\Lok (NY (ae a).length (a-b))/\val (NY (ae a).length (a-b))=a-b/\(NY (ae a).length (a-b)).length=(ae a).length:=by
 have s:∀o,Lok o->o.length=(ae a).length->val o=a-b->o=NY (ae a).length (a-b):=λo A h2 h3=>by
  have:=Nl A;rwa [h2,h3]at this
 have B:∃o,Lok o/\o.length=(ae a).length/\val o=a-b:=by
  have A:=cD (show a-b<=a by omega);refine⟨ae (a-b)++List.replicate ((ae a).length-(ae (a-b)).length) 0,(aZ _).append (Lok.replicate _),Xo,?_⟩;rw[dq,aL,val_zero (λi=>by simp only[List.getD,Vv];split<;>rfl)];simp
 obtain⟨o,A,h2,h3⟩:=B;have e:=s o A h2 h3;refine⟨(jl a b H D E).mono λv ⟨o2,g1,g2,g3,g4⟩=>?_,e▸A,e▸h3,e▸h2⟩;have G:=s o2 g1 g2 g3;rw[g4,G];show PV.sl UG _ _=PV.sl UG _ _;rw[<-e,h2]
theorem zS(x y:Int)(M:(ae x.natAbs).length<=1000000)(V:(ae y.natAbs).length<=1000000):FnP prog 182 [lP x,lP y] (· =lP (x+y)):=by
 refine FnP.ofC func182 O ntmps182 Xn λ_ _ _ _=>?_
 have G:=D5 x.natAbs y.natAbs M V;have H:=fO x.natAbs y.natAbs Xj Xj;have W:=Bz M V;have E:=su (decide (x<0)) (ae (x.natAbs+y.natAbs)) Xj (aZ _);rw[aL]at E;refine Z3 O<|Gr O<|Ar 5 O<|Gc O (λD=>?_) (λD=>?_)
 .have e:=CV D;refine UB 10 O<|Dr 6 O<|TR O (λτ h=>aa call241 G (h.aD O))<|D1 O<|TR O (λτ h=>aa call237 E (h.aD O))<|D1 O ?_;refine⟨Xk,?_⟩;exact VF O ⟨⟨ax ⟨_,underlying132,O⟩ np O O O,Xq⟩,by rw[<-e];rfl⟩
 have hd:=D;refine Ti<|Z4 O<|Rs O (aa call178 H O)<|A1 O<|Gp O (λA=>?_) (λA=>?_)
 .have hle:=oE.1 A;have e:=I1 hd hle;have s:0<x.natAbs:=by
   refine V6 λY=>?_
   have X:y.natAbs=0:=Xj;have I:x=0:=Xj;have J:y=0:=Xj;subst I J;simp at hd
  obtain⟨hmi,g1,g2,g3⟩:=xm x.natAbs y.natAbs M hle s;have B:=cM (neg:=decide (x<0)) _ g3 Xj g1 g2;refine UB 10 O<|Dr 6 O<|TR O (λτ h=>aa call242 hmi (h.aD O))<|D1 O<|TR O (λτ h=>aa call237 B (h.aD O))<|D1 O ?_;refine⟨Xk,?_⟩;exact VF O ⟨⟨ax ⟨_,underlying132,O⟩ np O O O,Xq⟩,by rw[<-e];rfl⟩
 have hle:x.natAbs<=y.natAbs:=WG (Nat.lt_of_not_le λe=>A (oE.2 e));have e:=IQ hd hle;have s:0<y.natAbs:=by
  refine V6 λY=>?_
  have X:x.natAbs=0:=Xj;have I:x=0:=Xj;have J:y=0:=Xj;subst I J;simp at hd
 obtain⟨hmi,g1,g2,g3⟩:=xm y.natAbs x.natAbs V hle s;have B:=cM (neg:=decide (y<0)) _ g3 Xj g1 g2;refine Ti<|UB 10 O<|Dr 6 O<|TR O (λτ h=>aa call242 hmi (h.aD O))<|D1 O<|TR O (λτ h=>aa call237 B (h.aD O))<|D1 O ?_;refine⟨Xk,?_⟩;exact VF O ⟨⟨ax ⟨_,underlying132,O⟩ np O O O,Xq⟩,by rw[<-e];rfl⟩
end
section
theorem gq(x y:Int)(hx:(ae x.natAbs).length<=1000000)(hy:(ae y.natAbs).length<=1000000):FnP prog 180 [lP x,lP y] (· =lP (x*y)):=by
 refine FnP.ofC func180 O ntmps180 Xn λ_ _ _ _=>?_
 have E:=JN x y;obtain⟨nx,hnx⟩:∃b,b=decide (x<0):=⟨_,O⟩;obtain⟨ny,hny⟩:∃b,b=decide (y<0):=⟨_,O⟩;obtain⟨a,haa⟩:∃a,a=x.natAbs:=⟨_,O⟩;obtain⟨b,hbb⟩:∃b,b=y.natAbs:=⟨_,O⟩;rw[show lP x= .agg [.bool nx,pli (ae a)] by rw[hnx,haa],show lP y= .agg [.bool ny,pli (ae b)] by rw[hny,hbb]];rw[<-hnx,<-hny,<-haa,<-hbb]at E;rw[<-haa]at hx;rw[<-hbb]at hy;obtain⟨la,hla⟩:∃n:Nat,n=(ae a).length:=⟨_,O⟩;obtain⟨lb,hlb⟩:∃n:Nat,n=(ae b).length:=⟨_,O⟩;clear hnx hny haa hbb;refine Z3 O<|Gr O<|Ar 10 O<|Z1 O<|Gz O (st:=λXr:Nat×List Nat=>([(2,UG),(3,UG),(4,UG),(5,UG),(6,UF (pIi Xr.1))],[(0,UG),(1,UG),(2,UG),(3,UF (.cells 3 (gD Xr.2)))])) 4
  (I:=λXr=>(Xr.1<=la/\Xr.2.length=la+lb+1)/\Lok Xr.2/\val Xr.2=sm (lim (ae a)) Xr.1*b/\∀j,Xr.1+lb<=j->lim Xr.2 j=0) (μ:=λXr=>la-Xr.1) (x0:=(0,List.replicate ((ae a).length+(ae b).length+1) 0)) (Tk (aS O) ⟨Xk,Xk,Xk,ah (λc=>UF (Ob.cells 3 c)) ((dh (.int .i64 0) (((ae a).length+(ae b).length+1)*1)).trans (by simp[gD])),Xq⟩ O O) (⟨⟨aJ _,by simp[hla,hlb]⟩,Lok.replicate _,by rw[val_zero (λi=>by simp only[List.getD,Vv];split<;>rfl)];simp[sm],λj _=>by simp only[lim,List.getD,Vv];split<;>rfl⟩) ?_
 rintro⟨i,o⟩ ⟨⟨hi,hol⟩,hok,hv,hz⟩;try simp only at hi hol hok hv hz ⊢
 refine Gr O<|Ar 5 O<|Gp O (λH=>?_) (λH=>?_)
 .have hia:i<(ae a).length:=Xj;have M:=cw hia;have V:=dj hia;have W:=cR (aZ a) i;have X:sm (lim (ae a)) (i+1)=sm (lim (ae a)) i+1000000000^i*lim (ae a) i:=rfl;generalize lim (ae a) i=u at*;refine Ti<|Z1 O<|Z1 O<|Gz O (st:=λs:Nat×List Nat×Nat=>([(2,UG),(3,UG),(4,UG),(5,UG),(6,UG),(7,UF (pIi s.2.2)),(8,UF (pIi s.1))],[(0,UG),(1,UG),(2,UG),(3,UF (.cells 3 (gD s.2.1)))])) 4
   (I:=λs=>((s.1<=lb+1/\s.2.1.length=la+lb+1)/\(s.1=lb+1->s.2.2=0))/\(Lok s.2.1/\s.2.2<1000000000)/\val s.2.1+1000000000^(i+s.1)*s.2.2=sm (lim (ae a)) i*b+1000000000^i*(u*sm (lim (ae b)) s.1)/\(∀j,i+1+lb<=j->lim s.2.1 j=0)/\(s.1<=lb->lim s.2.1 (i+lb)=0)) (μ:=λs=>lb+1-s.1) (x0:=(0,o,0)) (Tk (aS O) (aO Xk) O O) (⟨⟨⟨aJ _,hol⟩,λh=>by omega⟩,⟨hok,Nat.zero_lt_succ 999999999⟩,by rw[hv];simp[sm],λj hj=>hz j Xj,λ_=>hz _ (AT _)⟩) ?_
  rintro⟨k,q,c⟩ ⟨⟨⟨hk,hql⟩,hkc⟩,⟨hqk,hc⟩,he,hz2,hz3⟩;try simp only at hk hql hkc hqk hc he hz2 hz3 ⊢
  refine Gr O<|Ar 6 O ?_;apply Tt 3 30 33 [31,32] O Xt
  .intro hb5;exact Y3 O<|Tm Xs O O O
  .intro hb5;exact Y3 O<|Tm Xs O O O
  refine Gc O (λB=>?_) (λB=>?_)
  .have hk1:k<=lb:=by
    simp only[Ub,Tz]at B;rcases B with e|e<;>omega
   have A:i+k<q.length:=Xj;have an:=cw A;have ao:=dj A;have Y:=cR (aZ b) k;have D:=BT (y:=lim (ae b) k) A he;have Z:sm (lim (ae b)) (k+1)=sm (lim (ae b)) k+1000000000^k*lim (ae b) k:=rfl;rw[<-Z]at D;have ap:=cR hqk (i+k);have ar:=vQ q;have au:=CF W Y;have ab:k=lb->lim q (i+k)=0:=λe=>by rw[e];exact hz3 Xj
   generalize lim q (i+k)=z at*;refine Ti<|Gr O<|Ar 5 O<|Rs O (ak (i+k) underlying22 sz3 O O O O Xj)<|A2 O Xm ?_;refine Rs O (XJ.cast (v':= pIi ((c+z:Nat):Int)) (l9 O O Xj) O)<|A1 O<|Gr O<|Ar 5 O ?_;refine Gp O (λJ=>?_) (λJ=>?_)
   .have hkb:k<(ae b).length:=Xj;have ac:=cw hkb;have ad:=dj hkb;generalize lim (ae b) k=y0 at*;rw[show z+u*y0+c=c+z+u*y0 by omega]at D;refine UB 14 O<|Dr 4 O<|TR O (λτ h=>ag i underlying22 sz3 (Ee h 0 O O) (Ee h 1 O O) O hia V)<|TR O (λτ h=>az ⟨_,underlying3,O⟩ (Ee h 0 O O) M)<|Dr 3 O<|TR O (λτ h=>ag k underlying22 sz3 (Ee h 0 O O) (Ee h 1 O O) O hkb ad)<|TR O (λτ h=>az ⟨_,underlying3,O⟩ (Ee h 0 O O) ac)<|TR O (λτ h=>XJ.cast (v':= pIi ((u*y0:Nat):Int)) (GZ (Ee h 0 O O) (Ee h 1 O O) (by rw[<-Vn];omega)) (ah (λi=>pIi i) (Vn u y0).symm))<|TR O (λτ h=>XJ.cast (v':= pIi ((c+z+u*y0:Nat):Int)) (l9 (Ee h 0 O O) (Ee h 1 O O) Xj) O)<|D1 O ?_;refine⟨Xk,?_⟩;exact Gr O<|Ar 5 O<|Rs O (XJ.cast (v':= pIi (((c+z+u*y0)%1000000000:Nat):Int)) (fZ O O Xl) O)<|Rs O (ak (i+k) underlying22 sz3 O O O O Xj)<|A1 O<|Z1 O<|Rs O (XJ.cast (v':= pIi (((c+z+u*y0)/1000000000:Nat):Int)) (dJ O O Xl) (ah (λi=>pIi i) (wD Xj)))<|A1 O<|Z3 O<|⟨(k+1,q.set (i+k) ((c+z+u*y0)%1000000000),(c+z+u*y0)/1000000000),Tk (aS O) ⟨Xk,Xk,Xk,ah (λc=>UF (Ob.cells 3 c)) (by rw[TZ,gN]),Xq⟩ O O,⟨⟨⟨Xp,by simp only[TQ];exact hql⟩,λh=>by simp only at h ⊢; omega⟩,⟨hqk.rE _ _,Xp⟩,D,λj hj=>by rw[ja A,sh Xj];exact hz2 j hj,λh=>by simp only at h ⊢; rw[ja A,sh Xj];exact hz3 hk1⟩,Xp⟩
   have hkb:k=lb:=Xj;have af:lim (ae b) k=0:=js Xj;have al:=ab hkb;subst al;rw[af,Xa,show 0+0+c=c+0 by omega]at D;exact Ti<|Gr O<|Ar 5 O<|Rs O (XJ.cast (v':= pIi (((c+0)%1000000000:Nat):Int)) (fZ O O Xl) O)<|Rs O (ak (i+k) underlying22 sz3 O O O O Xj)<|A1 O<|Z1 O<|Rs O (XJ.cast (v':= pIi (((c+0)/1000000000:Nat):Int)) (dJ O O Xl) (ah (λi=>pIi i) (wD Xj)))<|A1 O<|Z3 O<|⟨(k+1,q.set (i+k) ((c+0)%1000000000),(c+0)/1000000000),Tk (aS O) ⟨Xk,Xk,Xk,ah (λc=>UF (Ob.cells 3 c)) (by rw[TZ,gN]),Xq⟩ O O,⟨⟨⟨Xp,by simp only[TQ];exact hql⟩,λh=>by simp only at h ⊢; omega⟩,⟨hqk.rE _ _,Xp⟩,D,λj hj=>by rw[ja A,sh Xj];exact hz2 j hj,λh=>by simp only at h ⊢; rw[ja A,sh Xj];exact hz3 hk1⟩,Xp⟩
  have hc2:c=0/\lb<=k:=by
   simp only[T5,U7]at B;omega
  rw[hc2.1,Xa,Vt,eR (ae b) Xj,aL]at he;exact Gx O<|Z3 O<|⟨(i+1,q),Tk (aS O) (aO Xk) O O,⟨⟨Xp,hql⟩,hqk,by simp only;rw[he,X,Xe,U1],λj hj=>hz2 j (by simp only at hj;omega)⟩,Xp⟩
 refine Gx O ?_;obtain rfl:i=la:=Xj;have am:val o=a*b:=by rw[hv,eR (ae a) (UM hla.symm),aL]
 have G:=cM (neg:=nx !=ny) o (show o.length=(ae a).length+(ae b).length+1 by omega) Xj hok am;rw[E]at G;exact Tj (Tn 3 O O)<|Gr O<|Ar 7 O<|Rs O (aa call237 G O)<|A1 O<|VF O ⟨⟨ax ⟨_,underlying132,O⟩ np O O O,Xq⟩,O⟩
end
namespace Jn
structure Rw where
 v:List ByteArray
 w:Int
theorem Fy{a b:ByteArray}(h:a.data.toList=b.data.toList):a=b:=ByteArray.ext (Array.ext' h)
def EO(v:List ByteArray):List (List UInt8):=v.map (·.data.toList)
theorem AY:∀{a b:List ByteArray},EO a=EO b->a=b
 |[],[],_=>rfl
 |[],_::_,h=>by simp[EO]at h
 |_::_,[],h=>by simp[EO]at h
 | x::a,y::b,h=>by
   rw[EO,cu,EO,cu,U8]at h;rw[Fy h.1,AY (a:=a) (b:=b) h.2]
def bO(a b:List ByteArray):Bool:=decide (EO a<EO b)
theorem wU(a:List ByteArray):bO a a=VC:=TL (List.lt_irrefl _)
theorem jo{a b c:List ByteArray}(s:bO a b=VA)(A:bO b c=VA):bO a c=VA:=
 TD (List.lt_trans (Vi s) (Vi A))
theorem mN{a b:List ByteArray}(s:bO a b=VC)(A:bO b a=VC):a=b:=
 AY (List.le_antisymm (List.not_lt.1 (Vk A)) (List.not_lt.1 (Vk s)))
def fS(x:Rw):List Rw->List Rw
 |[]=>[x]
 |y::l=>if bO y.v x.v=VA then y::fS x l else if y.v=x.v then⟨y.v,y.w+x.w⟩::l else x::y::l
def oT(l:List Rw):List Rw:=(l.foldl (λout x=>fS x out) []).filter λx=>x.w !=0
def NM(l:List Rw):Prop:=l.Pairwise λa b=>bO a.v b.v=VA
theorem pr{x:Rw}:∀{l:List Rw}{y:Rw},y∈fS x l->y.v=x.v\/∃z∈l,y.v=z.v
 |[],y,h=>by rw[fS,TF]at h;exact .inl (by rw[h])
 | z::l,y,h=>by
   rw[fS]at h;split at h
   .rcases BY.1 h with rfl|h
    .exact .inr ⟨_,Xn,O⟩
    rcases pr h with e|⟨z',hz,e⟩
    .exact .inl e
    exact .inr ⟨z',by simp[hz],e⟩
   grind
theorem C4{x:Rw}:∀{l:List Rw},NM l->NM (fS x l)
 |[],_=>by rw[fS];exact List.pairwise_singleton _ _
 | z::l,h=>by
   have h':=Ut.1 h;rw[fS];split
   .rename_i hz;refine Ut.2 ⟨λy hy=>?_,C4 h'.2⟩;rcases pr hy with e|⟨y',hy',e⟩
    .rw[e];exact hz
    rw[e];exact h'.1 y' hy'
   rename_i hz;split
   .exact Ut.2 ⟨λy hy=>h'.1 y hy,h'.2⟩
   rename_i hne;have s:bO x.v z.v=VA:=by grind[bO,mN]
   refine Ut.2 ⟨λy hy=>?_,h⟩;rcases BY.1 hy with rfl|hy
   .exact s
   exact jo s (h'.1 y hy)
def oK(l:List Rw):Int:=(l.map (·.w)).sum
theorem BS(x:Rw):∀l:List Rw,oK (fS x l)=oK l+x.w
 |[]=>by simp[fS,oK]
 | z::l=>by
   rw[fS];split
   .have:=BS x l;simp only[oK,cu,Up]at *; omega
   grind[oK]
theorem BA{x:Rw}(s:0<x.w):∀{l:List Rw},(∀y∈l,0<y.w)->∀y∈fS x l,0<y.w
 |[],_,y,hy=>by rw[fS,TF]at hy;rw[hy];exact s
 | z::l,h,y,hy=>by
   have hz:=h z Xn;have A:∀y∈l,0<y.w:=λy hy=>h y (by simp[hy])
   rw[fS]at hy;split at hy
   .rcases BY.1 hy with rfl|hy
    .exact hz
    exact BA s A y hy
   grind
theorem tO(x:Rw):∀l:List Rw,(fS x l).length<=l.length+1
 |[]=>by simp[fS]
 | z::l=>by
   rw[fS];split
   .have:=tO x l;simp only[IT];omega
   split<;>simp
structure SortOk(l out:List Rw):Prop where
 asc:NM out
 val:∀y∈out,∃z∈l,y.v=z.v
 tot:oK out=oK l
 pos:(∀z∈l,0<z.w)->∀y∈out,0<y.w
 len:out.length<=l.length
theorem FW:∀(l pre out:List Rw),SortOk pre out->SortOk (pre++l) (l.foldl (λout x=>fS x out) out)
 |[],pre,out,h=>by simpa using h
 | x::l,pre,out,h=>by
   have:=FW l (pre++[x]) (fS x out) ⟨C4 h.asc,λy hy=>by
    rcases pr hy with e|⟨z,hz,e⟩
    .exact⟨x,Xn,e⟩
    .obtain⟨z',hz',e'⟩:=h.val z hz;exact⟨z',by simp[hz'],e.trans e'⟩,by rw[BS,h.tot];simp[oK],λs=>BA (s x Xn) (h.pos λz hz=>s z (by simp[hz])),by
    have A:=tO x out;have B:=h.len;simp only[IN,TP];omega⟩
   rw[U0,show pre++x::l=(pre++[x])++l by simp];exact this
theorem j9{l:List Rw}(A:∀z∈l,0<z.w):SortOk l (oT l):=by
 have h:=FW l [] [] ⟨List.Pairwise.nil,λy hy=>absurd hy Xn,O,λ_ y hy=>absurd hy Xn,AT _⟩;rw[Uv]at h;have s:=h.pos A;have e:oT l=l.foldl (λout x=>fS x out) []:=by grind[oT,List.filter_eq_self]
 rw[e];exact h
theorem H5:∀{l:List Rw},(∀y∈l,0<y.w)->∀y∈l,y.w<=oK l
 | z::l,h,y,hy=>by
   have hl:∀y∈l,0<y.w:=λy hy=>h y (by simp[hy])
   have s:0<=oK l:=by
    clear h hy;induction l with
    |nil=>simp[oK]
    | cons a l ih=>
      have:=ih λy hy=>hl y (by simp[hy])
      have:=hl a Xn;simp only[oK,cu,Up]at *; omega
   have A:=h z Xn;have e:oK (z::l)=z.w+oK l:=by simp[oK]
   rcases BY.1 hy with rfl|hy
   .omega
   have:=H5 hl y hy;omega
end Jn
section
open Mk
theorem sw(l:List ByteArray)(k:Nat)(G:k<l.length)(M:l.length<=1000000)(I:l[k].size<=9223372036854775807):FnP prog 243 [bh l,.int .i64 k] (· = .int .i64 (gg l k)):=by
 refine FnP.of func243 O ntmps243 Xn λ_ _ _ _=>?_
 have J:=bL G;have H:=bN G;have B:l.getD k default=l[k]:=by simp[List.getD,G]
 have D:(bW l).take (k*1)=bW (l.take k):=Xn;have E:PV.sl UG k (bW (l.take k))=bh (l.take k):=by simp[bh];omega
 refine Z1 O<|Z3 O<|A2 O Xm ?_;refine Rs O (aa call203 (xk l[k] I) O)<|Y2 O ?_;refine Gc O (λA=>?_) (λA=>?_)
 .exact Z1 O<|VF O<|ah (PV.int .i64) (by unfold gg;rw[B,By (by simpa using A)])
 refine UB 9 O<|Dr 2 O<|TR O (λτ h=>XJ.cast (v':= .pv (bh (l.take k))) (eS k underlying53 sz9 (Ee h 0 O O) (Ee h 1 O O) O Xj Xn) (by rw[D,E]))<|Dr 3 O<|D2 O O Xm ?_;refine TR O (λτ h=>aa call289 (rN (l.take k) l[k] Xo) (h.aD O))<|D1 O ?_;refine⟨Xk,?_⟩;refine Gc O (λs=>?_) (λs=>?_)
 .exact Z1 O<|VF O<|ah (PV.int .i64) (by unfold gg;rw[B,sh (by simpa using A),By s])
 exact Ti<|Z1 O<|VF O<|ah (PV.int .i64) (by unfold gg;rw[B,sh (by simpa using A),sh (by simp[s])])
structure SB(S:Sch):Prop where
 a:S.attrs.length<=1000000
 r:S.rels.length<=1000000
 f:S.feats.length<=1000000
 an:∀x∈S.attrs,x.1.size<=9223372036854775807
 rn:∀x∈S.rels,x.1.size<=9223372036854775807
 rl:∀x∈S.rels,x.2.length<=1000000
theorem ke{l:List (ByteArray×Int)}(h:k<l.length):((aU l).drop (k*2)).take 2=[.str l[k].1,.int .i64 l[k].2]:=cZ _ 2 (λ_=>rfl) l k h
theorem gY{l:List (ByteArray×Int)}(h:k<l.length):aU l≠[]:=λe=>by have:=kI l;rw[e]at this;simp at this;omega
theorem qS(L:List ByteArray)(x:ByteArray):bW (L++[x])=bW L++[.str x]:=Xn
theorem sc(L:List ByteArray)(x:ByteArray):bh (L++[x])= .sl UG (L.length+1) (bW L++[.str x]):=Xn
theorem sX{l:List ByteArray}(h:k<n):gg (l.take n) k=gg l k:=by
 unfold gg;have s:(l.take n).getD k default=l.getD k default:=by simp[List.getD,TS,h]
 have A:(l.take n).take k=l.take k:=by rw[W5,Ul Xj]
 rw[s,A]
theorem ct{l:List α}(h:k<l.length):l.take (k+1)=l.take k++[l[k]]:=AI h
theorem p9(S:Sch)(hS:SB S):FnP prog 183 [gC S] (· = .int .i64 (b8 (gX S) S.attrs.length)):=by
 refine FnP.of func183 O ntmps183 Xn λ_ _ _ _=>?_
 have X:=hS.a;have M:=kI S.attrs;refine Z2 O<|Z1 O<|Tj (Tp 3 1 1 9 O O)<|Z4 O<|Gz O (st:=λXr:Nat×List ByteArray=>([(3,UF (.gsl 1 1 Xr.2.length)),(8,UG),(9,UG),(10,UF (pIi Xr.1))],[(1,UF (.gro 9 (bW Xr.2)))])) 2
  (I:=λXr=>Xr.1<=S.attrs.length/\Xr.2=(S.attrs.map (·.1)).take Xr.1/\b8 (gX S) Xr.1=0) (μ:=λXr=>S.attrs.length-Xr.1) (x0:=(0,[])) (WA O) (⟨aJ _,O,O⟩) ?_
 rintro⟨k,L⟩ ⟨hk,hL,hs⟩;try simp only at hk hL hs ⊢
 refine Z1 O<|Gp O (λH=>?_) (λH=>?_)
 .have hlt:k<S.attrs.length:=Xj;have B:=ke hlt;have V:=gY hlt;have J:L.length=k:=by rw[hL];simp;omega
  have D:L++[S.attrs[k].1]=(S.attrs.map (·.1)).take (k+1):=by rw[ct (by simpa using hlt),hL];simp
  have E:=sw (L++[S.attrs[k].1]) k Xo Xo (by simp only[<-J];simp;exact hS.an _ (aq _));rw[sc,D,sX Xj]at E;have G:S.attrs.getD k default=S.attrs[k]:=by simp[List.getD,hlt]
  have W:(bW L).length=L.length*1:=Xn;refine Ti<|Z2 O<|Rs O (aG ⟨_,underlying81,O⟩ yF O B O)<|Y3 O<|Gr O<|Ar 6 O<|Z2 O<|Rs O (vV call243 E O O)<|A1 O<|Z2 O<|Gc O (λs=>?_) (λs=>?_)
  .exact Z2 O<|VF O<|ah (PV.int .i64) (by rw[gG hs (by unfold gX;rw[By (inT s)];exact inT s) hlt];unfold gX;rw[By (inT s)])
  refine Ti<|Z4 O ?_;apply Tt 4 29 33 [30,31,32] O Xt
  .intro hb3;exact Ar 4 O<|Tm Xs O O O
  .intro hb3;exact Ar 4 O<|Tm Xs O O O
  refine Gc O (λA=>?_) (λA=>?_)
  .exact Z1 O<|VF O<|ah (PV.int .i64) (by have e:gX S k=7:=(by unfold gX;rw[sh (by simp[inF s]),G,By (by simpa using A)]);rw[gG hs (by rw[e];decide) hlt,e])
  exact Ti<|Z2 O<|⟨(k+1,L++[S.attrs[k].1]),Tl [0,4] ⟨by simp;rfl,O,O,O,Xq⟩ ⟨ah (λc=>UF (Ob.gro 9 c)) (qS L S.attrs[k].1).symm,Xq⟩ O O Xl O,⟨Xp,D,by simp only;rw[dU hs];unfold gX;rw[sh (by simp[inF s]),G,sh (by simpa using A)]⟩,Xp⟩
 exact Gx O<|Z1 O<|VF O<|ah (PV.int .i64) (by rw[show S.attrs.length=k by omega,hs])
end
section
open Mk
theorem fb{l:List (ByteArray×List Int)}(h:k<l.length):((aY l).drop (k*2)).take 2=[.str l[k].1,ar l[k].2]:=cZ _ 2 (λ_=>rfl) l k h
theorem iD{l:List (ByteArray×List Int)}(h:k<l.length):aY l≠[]:=λe=>by have:=ym l;rw[e]at this;simp at this;omega
def fl(n:Nat)(U:List Bool)(p:Nat->Bool):Prop:=U.length=n/\∀a,a<n->U[a]? =UF (p a)
theorem fl.zero(n:Nat):fl n (List.replicate n VC) (λ_=>VC):=⟨Xn,λa ha=>by simp[ha]⟩
theorem fl.set{p:Nat->Bool}(h:fl n U p)(A:a<n):fl n (U.set a VA) (λb=>p b||(b==a)):=by
 refine⟨by simp[h.1],λb hb=>?_⟩;by_cases e:b=a
 .subst e;simp[h.1,hb]
 rw[List.getElem?_set_ne (λs=>e s.symm),h.2 b hb];simp[e]
theorem fl.congr{p q:Nat->Bool}(h:fl n U p)(e:∀a,a<n->p a=q a):fl n U q:=⟨h.1,λa ha=>by rw[h.2 a ha,e a ha]⟩
theorem fl.mem{p:Nat->Bool}(h:fl n U p):decide (VC∈U)= !((List.range n).all p):=by
 rw[TY];simp only[Tz,Vg,V0,UR];constructor
 .intro hm;obtain⟨a,ha,e⟩:=Ux hm;refine⟨a,by rw[<-h.1];exact ha,?_⟩;have:=h.2 a (by rw[<-h.1];exact ha);rw[IS ha,e]at this;simpa using this.symm
 rintro⟨a,ha,e⟩;have:=h.2 a ha;have s:p a=VC:=by simpa using e
 rw[s]at this;exact U5 this
theorem yc(U:List Bool)(a:Nat):(c7 U).set a (.bool VA)=c7 (U.set a VA):=by simp[US]
theorem wh{b:Bool}(s:q<l.length)(A:l[q]=(j:Int)):((b||inB (l.take q) a)||(a==j))=(b||inB (l.take (q+1)) a):=by
 rw[ct s,Bool.or_assoc]
 congr 1
 rw[TY];simp[inB,A];exact or_congr Iff.rfl ⟨λh=>by rw[h],λh=>by omega⟩
theorem BO(s:q<l.length)(h:∀a∈l.take q,0<=a/\a<(n:Int))(A:0<=l[q]/\l[q]<n):∀a∈l.take (q+1),0<=a/\a<(n:Int):=by
 rw[ct s];intro a ha;rcases Uf.1 ha with h1|h1
 .exact h a h1
 rw[TF.1 h1];exact A
theorem Au{p:Nat}(A:p<l.length)(s:1<=p)(h:∀i,i+1<p->i+1<l.length->l.getD i 0<l.getD (i+1) 0)(B:l[p-1]'Xj<l[p]):∀i,i+1<p+1->i+1<l.length->l.getD i 0<l.getD (i+1) 0:=by grind
theorem Ay{rs:List (ByteArray×List Int)}(s:k<rs.length)(A:rs[k].2.length<=q):(((rs.take k).any λr=>inB r.2 a)||inB (rs[k].2.take q) a)=((rs.take (k+1)).any λr=>inB r.2 a):=by
 rw[ct s,aH A];simp only[List.any_append,List.any_cons,List.any_nil,Vc]
theorem rU(S:Sch)(hS:SB S):FnP prog 184 [gC S] (· = .int .i64 (ia S)):=by
 refine FnP.of func184 O ntmps184 Xn λ_ _ _ _=>?_
 have hb:=hS.a;have W:=hS.r;refine Z2 O<|Z1 O<|Tj (Tp 3 1 1 9 O O)<|Gr O<|Ar 5 O<|Z4 O<|Gz O (st:=λXr:Nat×List ByteArray×List Bool=>([(3,UF (.gsl 1 1 Xr.2.1.length)),(4,UG),(16,UG),(17,UG),(18,UF (pIi Xr.1))],[(1,UF (.gro 9 (bW Xr.2.1))),(2,UF (.cells 4 (c7 Xr.2.2)))])) 3
  (I:=λXr=>Xr.1<=S.rels.length/\Xr.2.1=(S.rels.map (·.1)).take Xr.1/\fl S.attrs.length Xr.2.2 (λa=>(S.rels.take Xr.1).any λr=>inB r.2 a)/\b8 (yg S) Xr.1=0) (μ:=λXr=>S.rels.length-Xr.1) (x0:=(0,[],List.replicate S.attrs.length VC)) (Tk (aS O) ⟨O,ah (λc=>UF (Ob.cells 4 c)) ((dh (.bool VC) (S.attrs.length*1)).trans Xn),Xq⟩ O O) (⟨aJ _,O,fl.zero _,O⟩) ?_
 rintro⟨k,L,U⟩ ⟨hk,hL,hU,hs⟩;try simp only at hk hL hU hs ⊢
 refine Z1 O<|Gp O (λab=>?_) (λab=>?_)
 .have hlt:k<S.rels.length:=Xj;have X:=fb hlt;have an:=iD hlt;have af:L.length=k:=by rw[hL];simp;omega
  have Y:L++[S.rels[k].1]=(S.rels.map (·.1)).take (k+1):=by rw[ct (by simpa using hlt),hL];simp
  have Z:=sw (L++[S.rels[k].1]) k Xo Xo (by simp only[<-af];simp;exact hS.rn _ (aq _));rw[sc,Y,sX Xj]at Z;have G:=tu S k hlt;have al:S.rels.getD k default=S.rels[k]:=by simp[List.getD,hlt]
  have ao:(bW L).length=L.length*1:=Xn;have ap:=hS.rl _ (aq hlt);have au:=hU.1;refine Ti<|Z2 O<|Rs O (aG ⟨_,underlying33,O⟩ HM O X O)<|Y3 O<|Gr O<|Ar 6 O<|Z2 O<|Rs O (vV call243 Z O O)<|A1 O<|Z2 O<|Gc O (λA=>?_) (λA=>?_)
  .refine Z2 O<|Gt O ?_;exact⟨_,_,O,O,ah (PV.int .i64) (by have e:yg S k=gg (S.rels.map (·.1)) k:=(by unfold yg;rw[By (inT A)]);unfold ia;rw[gG hs (by rw[e];exact inT A) hlt,By (by rw[e];exact inT A),e])⟩
  have hn0:gg (S.rels.map (·.1)) k=0:=inF A;have G:yg S k=if S.rels[k].2=[]then 7 else if(S.rels[k].2.all λa=>decide (0<=a)&&decide (a<S.attrs.length))=VC then 2 else if Kd S.rels[k].2=VC then 10 else 0:=by unfold yg;rw[sh (by simp[hn0]),al]
  have H:∀e:Int,e≠0->yg S k=e->PV.int .i64 e= .int .i64 (ia S):=λe h0 h1=>ah (PV.int .i64) (by unfold ia;rw[gG hs (by rw[h1];exact h0) hlt,By (by rw[h1];exact h0),h1])
  refine Ti<|Z4 O<|Gc O (λD=>?_) (λD=>?_)
  .exact Z1 O<|VF O<|H 7 Xl (by rw[G,By (by have:=ibT D;apply T6;omega)])
  have hl0:¬S.rels[k].2=[]:=λe=>by rw[e]at D;simp at D
  refine Ti<|Z4 O<|Gz O (st:=λs:Nat×List Bool=>([(3,UG),(4,UG),(6,UG),(16,UG),(17,UG),(18,UG),(39,UG),(40,UG),(41,UF (pIi s.1))],[(2,UF (.cells 4 (c7 s.2))),(3,UG),(5,UG)])) 6
   (I:=λs=>s.1<=S.rels[k].2.length/\fl S.attrs.length s.2 (λa=>((S.rels.take k).any λr=>inB r.2 a)||inB (S.rels[k].2.take s.1) a)/\∀a∈S.rels[k].2.take s.1,0<=a/\a<S.attrs.length) (μ:=λs=>S.rels[k].2.length-s.1) (x0:=(0,U)) (WA O) (⟨aJ _,hU.congr (λa _=>by simp[inB]),Xn⟩) ?_
  rintro⟨q,U2⟩ ⟨hq,hU2,hr⟩;try simp only at hq hU2 hr ⊢
  refine Z1 O<|Gp O (λac=>?_) (λac=>?_)
  .have hql:q<S.rels[k].2.length:=Xj;have hv:=a6 hql;have M:=aM hql;have am:=hU2.1;refine Ti<|Z1 O<|A2 O Xm ?_;refine A1 O<|Z3 O ?_;apply Tt 5 47 52 [48,49,50,51] O Xt
   .intro W;exact Ar 5 O<|Tm Xs O O O
   .intro W;exact Ar 5 O<|Tm Xs O O O
   refine Gc O (λJ=>?_) (λJ=>?_)
   .exact Z1 O<|VF O<|H 2 Xl (by rw[G,sh hl0,By (NW hql (by simp at J;omega))])
   have hx:0<=S.rels[k].2[q]/\S.rels[k].2[q]<S.attrs.length:=by simp only[T5,U7]at J;omega
   obtain⟨j,hj⟩:=Bg hx.1;exact Ti<|Z2 O<|Rs O (ak j underlying174 sz4 O O O hj Xj)<|A1 O<|Z2 O<|⟨(q+1,U2.set j VA),Tk (aS O) ⟨by show UF (Ob.cells _ _)=_;rw[<-yc];simp,O,O,Xq⟩ O O,⟨Xp,(hU2.set (a:=j) Xj).congr (λa _=>wh hql hj),BO hql hr hx⟩,Xp⟩
  have hrng:(S.rels[k].2.all λa=>decide (0<=a)&&decide (a<S.attrs.length))=VA:=zE (λa ha=>hr a (by rw[aH Xj];exact ha));refine Gx O<|Z1 O<|Gz O (st:=λE:Nat=>([(3,UG),(4,UG),(6,UG),(10,UF (pIi E)),(16,UG),(17,UG),(18,UG)],[(2,UG),(3,UG),(5,UG)])) 6
   (I:=λE=>1<=E/\∀i,i+1<E->i+1<S.rels[k].2.length->S.rels[k].2.getD i 0<S.rels[k].2.getD (i+1) 0) (μ:=λE=>S.rels[k].2.length-E) (x0:=1) (WA O) (⟨AT _,λi hi=>by omega⟩) ?_
  rintro p ⟨hp1,hasc⟩;refine Gr O<|Ar 5 O<|Gp O (λad=>?_) (λad=>?_)
  .have hpl:p<S.rels[k].2.length:=Xj;have aa:p-1<S.rels[k].2.length:=Xj;have hv:=a6 hpl;have hv1:=a6 aa;have M:=aM hpl;refine Ti<|UB 12 O<|Dr 4 O<|D2 O O Xm ?_;refine Dr 4 O<|TR O (λτ h=>ag (p-1) underlying22 sz3 (Ee h 0 O O) (Ee h 1 O O) Xj Xj M)<|D2 O O Xm ?_;refine D1 O ?_;refine⟨Xk,?_⟩;refine Gp O (λV=>?_) (λV=>?_)
   .exact Z1 O<|VF O<|H 10 Xl (by rw[G,sh hl0,sh (by rw[hrng];decide),By (ND hp1 hpl V)])
   exact Ti<|Z3 O<|⟨(p+1),WA O,⟨Xj,Au hpl hp1 hasc Xj⟩,Xj⟩
  exact Gx O<|Z2 O<|⟨(k+1,L++[S.rels[k].1],U2),Tl [0,5,2] ⟨by simp;rfl,O,O,O,O,Xq⟩ ⟨ah (λc=>UF (Ob.gro 9 c)) (qS L S.rels[k].1).symm,O,Xq⟩ O O Xl O,⟨Xp,Y,hU2.congr (λa _=>Ay hlt Xj),by simp only;rw[dU hs,G,sh hl0,sh (by rw[hrng];decide),sh (by rw[Am (λi hi=>hasc i Xj hi)];decide)]⟩,Xp⟩
 have hfull:((List.range S.attrs.length).all λa=>(S.rels.take k).any λr=>inB r.2 a)=((List.range S.attrs.length).all λa=>tY S a):=by rw[aH Xj];rfl
 refine Gx O<|Z1 O<|Rs O (vV call244 (rQ U VC (by have:=hU.1;omega)) (by rw[AJ,hU.1];rfl) O) ?_;refine Gc O (λB=>?_) (λB=>?_)
 .exact Z1 O<|VF O<|ah (PV.int .i64) (by unfold ia;rw[show S.rels.length=k by omega,sh (by simp[hs]),By (by rw[<-hfull];rw[hU.mem]at B;simpa using B)])
 exact Ti<|Z1 O<|VF O<|ah (PV.int .i64) (by unfold ia;rw[show S.rels.length=k by omega,sh (by simp[hs]),sh (by rw[<-hfull];rw[hU.mem]at B;simpa using B)])
end
section
open Mk
abbrev yQ(f:Int×Int×Int):List PV:=[.int .i64 f.1,.int .i64 f.2.1,.int .i64 f.2.2]
theorem kB{l:List (Int×Int×Int)}(h:k<l.length):((aX l).drop (k*3)).take 3=yQ l[k]:=cZ _ 3 (λ_=>rfl) l k h
theorem og{l:List (Int×Int×Int)}(h:k<l.length):aX l≠[]:=λe=>by have:=kC l;rw[e]at this;simp at this;omega
theorem jb{l:List α}{p:α->Bool}(s:k<l.length)(h:(l.take k).any p=VC)(A:p l[k]=VC):(l.take (k+1)).any p=VC:=by
 rw[ct s];simp only[List.any_append,h,List.any_cons,A,List.any_nil,Vc]
theorem wH{l:List α}{p:α->Bool}(s:k<l.length)(h:p l[k]=VA):l.any p=VA:=Ve.2 ⟨_,aq s,h⟩
theorem Jy(l:List (Int×Int×Int))(g:FuncId)(caps:List PV)(p:Int×Int×Int->Bool)(H:l.length<=1000000)(hc:db prog g)(G:∀f∈l,FnP prog g ([]++[.agg (yQ f)]++caps) (· = .bool (p f))):
  FnP prog 137 [.sl UG l.length (aX l),.fn (.func g) [] caps] (λv=>∃i:Int,v= .int .i64 i/\decide (0<=i)=l.any p):=by
 refine FnP.of func137 O ntmps137 Xn λ_ _ _ _=>?_
 refine Z1 O<|Z3 O<|Gz O (st:=λXr:Nat=>([(0,UG),(1,UG),(7,UG),(8,UF (pIi Xr))],[])) 0
  (I:=λXr=>Xr<=l.length/\(l.take Xr).any p=VC) (μ:=λXr=>l.length-Xr) (x0:=0) (Tk (aS O) trivial O O) (⟨aJ _,O⟩) ?_
 rintro k ⟨hk,hno⟩;refine Z1 O<|Gp O (λD=>?_) (λD=>?_)
 .have hlt:k<l.length:=Xj;have A:=kB hlt;have E:=og hlt;have B:=G _ (aq hlt);refine Ti<|Z2 O<|Z4 O<|Rs O (aG ⟨_,underlying83,O⟩ Mb O A O)<|Rs O (je hc O B O)<|Gc O (λs=>?_) (λs=>?_)
  .exact Z2 O<|VF O ⟨_,O,by rw[wH hlt s];exact TD Xj⟩
  exact Ti<|Z2 O<|⟨(k+1),Tk (aS O) trivial O O,⟨Xj,jb hlt hno s⟩,Xj⟩
 exact Gx O<|Z1 O<|VF O ⟨_,O,by rw[aH Xj]at hno;rw[hno];rfl⟩
theorem rV(l:List (Int×Int×Int))(g:FuncId)(caps:List PV)(p:Int×Int×Int->Bool)(s:l.length<=1000000)(hc:db prog g)(A:∀f∈l,FnP prog g ([]++[.agg (yQ f)]++caps) (· = .bool (p f))):
  FnP prog 245 [.sl UG l.length (aX l),.fn (.func g) [] caps] (· = .bool (l.any p)):=by
 refine FnP.of func245 O ntmps245 Xn λ_ _ _ _=>?_
 refine Z1 O<|Z2 O<|RL.call O (ie call137 (Jy l g caps p s hc A) O ?_);rintro _ ⟨i,rfl,hi⟩;exact Y2 O<|VF O<|ah PV.bool hi
theorem Dy(f:Int×Int×Int)(c:List PV)(a:Int)(hc:c[0]? =UF (.int .i64 a)):FnP prog 246 [.agg (yQ f),.rp c 0] (· = .bool (f.1==a)):=by
 refine FnP.of func246 O ntmps246 Xn λ_ _ _ _=>?_
 refine Z2 O<|Z3 O<|A2 O Xm ?_;exact Y2 O<|VF O O
theorem Df(l:List (Int×Int×Int))(k:Nat)(s:k<=l.length):PV.sl UG k ((aX l).take (k*3))= .sl UG (l.take k).length (aX (l.take k)):=by
 have e:(aX l).take (k*3)=aX (l.take k):=by grind[Ug,aX,kC,aH]
 rw[e];simp;omega
abbrev sCc(S:Sch):List V:=[.pv (.sl UG S.attrs.length (aU S.attrs)),.pv (.sl UG S.rels.length (aY S.rels)),.pv (.sl UG S.feats.length (aX S.feats)),pIi S.label]
theorem uS(S:Sch)(hS:SB S):FnP prog 185 [gC S] (· = .int .i64 (b8 (kO S) S.feats.length)):=by
 refine FnP.of func185 O ntmps185 Xn λ_ _ _ _=>?_
 have hb:=hS.a;have J:=hS.f;have X:=kC S.feats;refine Z2 O<|Z4 O<|Gz O (st:=λXr:Nat=>([(1,UG),(9,UG),(10,UG),(11,UF (pIi Xr))],[(0,UG)])) 1
  (I:=λXr=>Xr<=S.feats.length/\b8 (kO S) Xr=0) (μ:=λXr=>S.feats.length-Xr) (x0:=0) (WA O) (⟨aJ _,O⟩) ?_
 rintro k ⟨hk,hs⟩;refine Z1 O<|Gp O (λW=>?_) (λW=>?_)
 .have hlt:k<S.feats.length:=Xj;have M:=kB hlt;have Y:=og hlt;have E:=qZ S k hlt;have A:∀e:Int,e≠0->kO S k=e->PV.int .i64 e= .int .i64 (b8 (kO S) S.feats.length):=λe h0 h1=>ah (PV.int .i64) (by rw[gG hs (by rw[h1];exact h0) hlt,h1])
  refine Ti<|Z2 O<|Rs O (aG ⟨_,underlying83,O⟩ Mb O M O)<|Y3 O<|Z4 O ?_;apply Tt 7 19 26 [20,21,22,23,24,25] O Xt
  .intro hb3;exact Ar 7 O<|Tm Xs O O O
  .intro hb3;exact Ar 7 O<|Tm Xs O O O
  refine Gc O (λB=>?_) (λB=>?_)
  .exact Z1 O<|VF O<|A 2 Xl (by rw[E,By (by simpa using B)])
  have hx:0<=S.feats[k].1/\S.feats[k].1<S.attrs.length:=by simp only[T5,U7]at B;omega
  obtain⟨a,ha⟩:=Bg hx.1;have G:a<S.attrs.length:=Xj;have Z:(aU S.attrs)[a*2+1]? =UF (.int .i64 S.attrs[a].2):=ib _ 2 (λ_=>rfl) S.attrs a 1 G Xl;have V:=gY G;have H:(S.attrs.getD S.feats[k].1.toNat default).2=S.attrs[a].2:=by rw[ha];simp[List.getD,G]
  refine Ti<|Z4 O<|Rs O (ag a underlying26 yF O O ha G V)<|A1 O<|A2 O Xm ?_;refine A1 O<|Z4 O ?_;apply Tu 3 37 40 [38,39] O Xt
  .intro hb3;exact Y3 O<|Tm Xs O O O
  .intro hb3;exact Y3 O<|Tm Xs O O O
  refine A1 O ?_;apply Tu 9 41 50 [42,43,44,45,46,47,48,49] O Xt
  .intro hb7;refine Ar 4 O ?_;apply Tt 4 45 49 [46,47,48] O Xt
   .intro hb11;exact Ar 4 O<|Tm Xs O O O
   .intro hb11;exact Ar 4 O<|Tm Xs O O O
   exact A1 O<|Tm Xs O O O
  .intro hb7;exact Ar 9 O<|Tm Xs O O O
  refine A1 O<|Z4 O ?_;apply Tu 3 54 57 [55,56] O Xt
  .intro hb3;exact Y3 O<|Tm Xs O O O
  .intro hb3;exact Y3 O<|Tm Xs O O O
  refine A1 O ?_;apply Tu 4 58 62 [59,60,61] O Xt
  .intro hb7;exact Ar 4 O<|Tm Xs O O O
  .intro hb7;exact Ar 4 O<|Tm Xs O O O
  refine A1 O<|Z3 O ?_;apply Tu 3 65 68 [66,67] O Xt
  .intro J;exact Y3 O<|Tm Xs O O O
  .intro J;exact Y3 O<|Tm Xs O O O
  refine Gc O (λs=>?_) (λs=>?_)
  .exact Z1 O<|VF O<|A 7 Xl (by rw[E,sh Xj,H,By (by rw[T5];rw[du,Vg,Vg]at s;exact s)])
  refine Ti<|Tj (St.jZ 1 O O)<|Gr O<|Ar 6 O ?_;apply Tt 7 74 81 [75,76,77,78,79,80] O Xt
  .intro hb5;exact Ar 7 O<|Tm Xs O O O
  .intro hb5;exact Y3 O<|Rg O (XJ.cast (v':= .pv (.sl UG (S.feats.take k).length (aX (S.feats.take k)))) (eS k underlying28 Mb O O O Xj X) (by rw[Df _ _ hk]))<|A1 O<|Rg O (aa call245 (rV (S.feats.take k) 246 [.rp (yQ S.feats[k]) 0] (λg=>g.1==S.feats[k].1) Xo call246 (λf _=>Dy f _ _ O)) O)<|A1 O<|Tm Xs O O O
  refine Gc O (λD=>?_) (λD=>?_)
  .exact Z1 O<|VF O<|A 9 Xl (by rw[E,sh Xj,H,sh (by intro h;rw[T5]at h;rw[h.1,h.2]at s;cases s),By D])
  exact Ti<|Z2 O<|⟨(k+1),WA O,⟨Xj,by rw[dU hs,E,sh Xj,H,sh (by intro h;rw[T5]at h;rw[h.1,h.2]at s;cases s),sh (by rw[D];decide)]⟩,Xj⟩
 exact Gx O<|Z1 O<|VF O<|ah (PV.int .i64) (by rw[show S.feats.length=k by omega,hs])
end
section
open Mk
theorem Cr(S:Sch):((((((S.attrs.length:Int)==0)||decide ((12:Int)<S.attrs.length))||((S.rels.length:Int)==0))||decide ((6:Int)<S.rels.length))||decide ((8:Int)<S.feats.length))=VA↔S.attrs.length=0\/12<S.attrs.length\/S.rels.length=0\/6<S.rels.length\/8<S.feats.length:=by
 simp only[Ub,U6,Tz];omega
def Hv(S:Sch):Nat->Int
 |0=>b8 (gX S) S.attrs.length
 |1=>ia S
 |_=>b8 (kO S) S.feats.length
def QN:Nat->FuncId
 |0=>183
 |1=>184
 |_=>185
theorem Ei(S:Sch)(hS:SB S)(k:Nat):FnP prog (QN k) [gC S] (· = .int .i64 (Hv S k)):=by
 match k with
 |0=>exact p9 S hS
 |1=>exact rU S hS
 |k+2=>exact uS S hS
theorem LV(k:Nat):db prog (QN k):=by
 match k with
 |0=>exact call183
 |1=>exact call184
 |k+2=>exact call185
theorem MQ(k:Nat)(s:k<3):([.fn (.func 183) [] [],.fn (.func 184) [] [],.fn (.func 185) [] []]:List PV)[k*1]? =UF (.fn (.func (QN k)) [] []):=by
 match k,s with
 |0,_=>rfl
 |1,_=>rfl
 |2,_=>rfl
theorem Ly{S:Sch}(s:¬ (S.attrs.length=0\/12<S.attrs.length\/S.rels.length=0\/6<S.rels.length\/8<S.feats.length))(E:k<3)(B:∀j,j<k->Hv S j=0)(h:¬Hv S k=0):Hv S k=bV S:=by
 unfold bV;rw[sh s];match k,E with
 |0,_=>rw[By (show b8 (gX S) S.attrs.length≠0 from h)];rfl
 |1,_=>have A:=B 0 Xj;rw[sh (λe=>e A),By (show ia S≠0 from h)];rfl
 |2,_=>have A:=B 0 Xj;have D:=B 1 Xj;rw[sh (λe=>e A),sh (λe=>e D),By (show b8 (kO S) S.feats.length≠0 from h)];rfl
theorem uV(S:Sch)(hS:SB S):FnP prog 120 [gC S] (· = .int .i64 (bV S)):=by
 refine FnP.of func120 O ntmps120 Xn λ_ _ _ _=>?_
 have X:=hS.a;refine Z2 O<|Gr O<|Ar 5 O ?_;apply Tt 5 10 15 [11,12,13,14] O Xt
 .intro hb4;exact Ar 5 O<|Tm Xs O O O
 .intro hb4;exact Ar 5 O<|Tm Xs O O O
 refine A1 O ?_;apply Tt 5 16 21 [17,18,19,20] O Xt
 .intro hb10;exact Ar 5 O<|Tm Xs O O O
 .intro hb10;exact Ar 5 O<|Tm Xs O O O
 refine A1 O ?_;apply Tt 5 22 27 [23,24,25,26] O Xt
 .intro hb16;exact Ar 5 O<|Tm Xs O O O
 .intro hb16;exact Ar 5 O<|Tm Xs O O O
 refine A1 O ?_;apply Tt 5 28 33 [29,30,31,32] O Xt
 .intro hb22;exact Ar 5 O<|Tm Xs O O O
 .intro hb22;exact Ar 5 O<|Tm Xs O O O
 refine Gc O (λs=>?_) (λs=>?_)
 .exact Z1 O<|VF O<|ah (PV.int .i64) (by unfold bV;rw[By ((Cr S).1 s)])
 have hlim:¬ (S.attrs.length=0\/12<S.attrs.length\/S.rels.length=0\/6<S.rels.length\/8<S.feats.length):=λh=>by rw[(Cr S).2 h]at s;cases s
 refine Ti<|Gr O<|Rs O (au UG Xn el280 O Xl Xl O O)<|Y2 O<|Gz O (st:=λXr:Nat=>([(1,UG),(34,UG),(35,UG),(36,UF (pIi Xr))],[(0,UG)])) 1
  (I:=λXr=>Xr<=3/\∀j,j<Xr->Hv S j=0) (μ:=λXr=>3-Xr) (x0:=0) (WA O) (⟨Xj,λj hj=>absurd hj (VP _)⟩) ?_
 rintro k ⟨hk,hz⟩;refine Z1 O<|Gp O (λJ=>?_) (λJ=>?_)
 .have hlt:k<3:=Xj;have Y:=MQ k hlt;refine Ti<|Gr O<|Rs O (ag k underlying280 sz129 O O O hlt Xn)<|A2 O Xm ?_;refine A1 O<|Z2 O<|Rs O (je (LV k) O (Ei S hS k) O)<|A1 O<|Z2 O ?_;refine Gc O (λD=>?_) (λD=>?_)
  .exact Z2 O<|VF O<|ah (PV.int .i64) (Ly hlim hlt hz (inT D))
  exact Ti<|Z2 O<|⟨(k+1),WA O,⟨Xj,λj hj=>by rcases Vd.1 hj with h|rfl;exact hz j h;exact inF D⟩,Xj⟩
 have h0:=hz 0 Xj;have M:=hz 1 Xj;have V:=hz 2 Xj;have G:=q9 hlim h0 M V;refine Gx O<|Z4 O ?_;apply Tt 7 51 58 [52,53,54,55,56,57] O Xt
 .intro hb3;exact Ar 7 O<|Tm Xs O O O
 .intro hb3;exact Ar 7 O<|Tm Xs O O O
 refine A1 O<|Gc O (λE=>?_) (λE=>?_)
 .exact Z1 O<|VF O<|ah (PV.int .i64) (by rw[G,By (by simpa using E)])
 have hn:¬ (S.label< -1\/(S.attrs.length:Int)<=S.label):=by simpa using E
 have W:0<=S.label->∃(a:Nat),S.label=(a:Int)/\a<S.attrs.length/\(aU S.attrs)[a*2+1]? =UF (.int .i64 (S.attrs.getD S.label.toNat default).2):=λh=>by obtain⟨a,ha⟩:=Bg h;have B:a<S.attrs.length:=Xj;refine⟨a,ha,B,?_⟩;rw[ha];simp only[TU,List.getD,IS B];exact ib _ 2 (λ_=>rfl) S.attrs a 1 B Xl
 refine Z4 O ?_;apply Tu 9 63 72 [64,65,66,67,68,69,70,71] O Xt
 .intro hb3;obtain⟨a,ha,B,hk2⟩:=W (Vi hb3);have H:=gY B;refine Ar 4 O<|Rg O (ag a underlying26 yF O O ha B H)<|A1 O<|A2 O Xm ?_;exact Y2 O<|Tm Xs O O O
 .intro hb3;exact Ar 9 O<|Tm Xs O O O
 refine A1 O<|Gc O (λA=>?_) (λA=>?_)
 .exact Z1 O<|VF O<|ah (PV.int .i64) (by rw[G,sh hn,By (by simpa using A)])
 exact Ti<|Z1 O<|VF O<|ah (PV.int .i64) (by rw[G,sh hn,sh (by rintro⟨M,V⟩;rw[TD (show S.label>=0 from M),Ws,bne_eq_false_iff_eq]at A;exact V A)])
end
end Go.Proofs.YtkkenamefaegfaaGreatDoor
