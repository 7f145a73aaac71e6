/- Lemmas. No condition. -/
import Derived.Laws.MakeOwn
import Derived.Great.BuildSlice
import Derived.Test.YtoplpepiabedhaaGreatDoorJC1
set_option maxRecDepth 100000
set_option maxHeartbeats 4000000
open Go.RowKit Go.Proofs.Tryz
open Option renaming some→Sh,none→Sl
open Bool renaming true→Sm,false→S1
namespace Go.Proofs.YtoplpepiabedhaaGreatDoor
variable{C:Ctx}{n d j k t i fuel id off size bytes s b N id2:Nat}{σ:St}{a:Act}{w:World}{m:Gm}{R:Nat->Prop}{f:FuncId}{xs:Array Operand}{dst:Option Tmp}{ps cs zs fs news:List PV}{α β:Type}{listed:Array Bool}{Rl:List Nat}{cl:List (List Nat)}{e T T2:TypeId}{z:Value}{kl:IntKind}{il:Int}{P:Program}{c:Code}{ρ:Nat->Nat}{K:St->Prop}{y:Operand}{r:PV}{bn:Option Bool}
section
theorem SW.drew{w':World}(h:SW C n σ a w m R)(l:w'.heap=w.heap)(u:w'.os=w.os)(A:w'.tape=w.tape)(B:w'.output=w.output):SW C n σ a w' m R:=by
 have q:∀b,R b->R b/\w'.heap[b]? =w.heap[b]? :=λb hb=>⟨hb,by rw[l]⟩
 have:=h.world (w':=w') (m':=m) (R':=R) (ob':=σ.ob) (av':=σ.av) ?_ q (λ_ _ _ e=>e) (λ_ e=>e)
 .exact this
 refine⟨h.hr.dom,h.hr.free,?_,h.hr.inj,?_,?_,h.hr.rfr,h.hr.r0,?_,h.hr.keep,h.hr.res⟩
 .intro i o b N h1 h2;exact(h.hr.obj i o b N h1 h2).mono q (λ_ _ _ e=>e) (λ_ e=>e) (by rw[l])
 .intro i b N h1;rw[l];exact h.hr.own i b N h1
 .intro b hb;rw[l];exact h.hr.rsz b hb
 .exact⟨u.trans h.hr.frame.os,A.trans h.hr.frame.tape,B.trans h.hr.frame.output,by rw[l];exact h.hr.frame.size,λk hk hF=>by rw[l];exact h.hr.frame.block k hk hF⟩
def BM(ops:Array Oper)(n:Nat)(o:Oper):Option Tmp:=
 match o.guard with
 |some (j,_)=>Sh (((ops[j]?).bind (·.dst)).getD n)
 |none=>Sl
structure Agr(n:Nat)(ops:Array Oper)(o:Oper)(σ τ:St)(s:OS)(rd:List Nat):Prop where
 e:∀(i:Nat)(x:Operand),o.op.operands.toList[i]? =Sh x->τ.ev n x=σ.ev n x
 g:∀t,BM ops n o=Sh t->τ.ev n (.tmp t)=σ.ev n (.tmp t)
 o:∀(i id:Nat),rd[i]? =Sh id->τ.ob id=σ.ob id
 n:∀(i id:Nat),s.nw[i]? =Sh id->τ.av id=Sm
def LJ(C:Ctx)(n:Nat)(ops:Array Oper)(o:Oper)(σ:St)(s:OS)(rd:List Nat):Prop:=
 ∀τ,Agr n ops o σ τ s rd->match o.guard with
  |none=>XJ C n o τ s
  |some (j,want)=>∃b,(τ.ev n (.tmp (((ops[j]?).bind (·.dst)).getD n))).gd=Sh b/\(b=Sh want->XJ C n o τ s)/\(b≠Sh want->s=⟨und,[],[]⟩)
def cQ(ops:Array Oper)(n:Nat)(o:Oper):List Tmp:=(o.op.operands.toList.filterMap fun| .tmp t=>Sh t|_=>Sl)++(BM ops n o).toList
def inL(d:Nat):List Nat->Bool
 |[]=>S1
 |x::l=>Nat.beq x d||inL d l
def meet(a:List Nat):List Nat->Bool
 |[]=>S1
 |x::l=>inL x a||meet a l
structure It where
 i:Nat
 o:Oper
 s:OS
 wk:List Nat
 nw:List Nat
 rd:List Nat
def eE(ops:Array Oper)(n:Nat)(a b:It):Bool:=
 (match a.o.dst with|some d=>inL d (cQ ops n b.o)||(match b.o.dst with|some e=>Nat.beq d e|none=>S1)|none=>S1)||
 (match b.o.dst with|some e=>inL e (cQ ops n a.o)|none=>S1)||
 meet a.wk (b.rd++b.wk++b.nw)||meet b.wk (a.rd++a.nw)||meet a.nw (b.rd++b.nw)||meet b.nw a.rd
def HG(os:List Oper)(acc:List (List Nat)):List (List Nat):=
 match os with
 |[]=>acc
 | o::os=>
   let es:=o.after.toList.filterMap λe=>if Region.binds .any e then Sh e.on else Sl
   HG os (acc++[es.foldl (λl i=>if inL i l then l else(i::l)++((acc[i]?).getD []).filter (λz=> !(inL z (i::l)))) []])
def iL:Nat->List Oper->Bool
 |_,[]=>Sm
 |k,o::os=>(o.after.toList.all λe=> !(Region.binds .any e)||Nat.blt e.on k)&&iL (k+1) os
def gU(ops:Array Oper)(n:Nat)(cl:List (List Nat))(it:It)(acc:List It):Bool:=
 (acc.all λb=> !(eE ops n b it)||inL b.i ((cl[it.i]?).getD []))&&(acc.all λb=> !(Nat.beq b.i it.i))
def gOk(n:Nat)(ops:Array Oper)(o:Oper)(τ:St):Prop:=match o.guard with
 |none=>True
 |some (j,want)=>(τ.ev n (.tmp (((ops[j]?).bind (·.dst)).getD n))).gd=Sh (Sh want)
def LJR(C:Ctx)(n:Nat)(ops:Array Oper)(o:Oper)(σ:St)(P:OS->Prop)(wk nw rd:List Nat):Prop:=
 ∀τ,Agr n ops o σ τ ⟨.pv .any,[],nw⟩ rd->gOk n ops o τ/\OJ C n o (λτ'=>∃s,P s/\s.wr.map (·.1)=wk/\s.nw=nw/\τ'=τ.app o.dst s) τ
def DL(C:Ctx)(n:Nat)(ops:Array Oper)(cl:List (List Nat)):List Nat->List It->(St->Prop)->St->Prop
 |[],acc,K,σ=>(List.range ops.size).all (λi=>inL i (acc.map (·.i)))=Sm/\K σ
 | i::is,acc,K,σ=>∃o,ops[i]? =Sh o/\
   ((∃s rd,LJ C n ops o σ s rd/\s.nw.all σ.av=Sm/\gU ops n cl ⟨i,o,s,s.wr.map (·.1),s.nw,rd⟩ acc=Sm/\DL C n ops cl is (⟨i,o,s,s.wr.map (·.1),s.nw,rd⟩::acc) K (σ.app o.dst s))\/
    (∃(P:OS->Prop)(wk nw rd:List Nat),LJR C n ops o σ P wk nw rd/\nw.all σ.av=Sm/\gU ops n cl ⟨i,o,⟨.pv .any,[],[]⟩,wk,nw,rd⟩ acc=Sm/\is.all (λj=>inL i ((cl[j]?).getD []))=Sm/\(List.range ops.size).all (λj=>inL j (i::is)||inL j (acc.map (·.i)))=Sm/\
     ∀s,P s->s.wr.map (·.1)=wk->s.nw=nw->DL C n ops cl is (⟨i,o,s,wk,nw,rd⟩::acc) K (σ.app o.dst s)))
section
variable {C:Ctx}{n:Nat}{σ τ:St}{ops:Array Oper}{cl:List (List Nat)}{i:Nat}{o:Oper}{is:List Nat}{acc:List It}{K:St->Prop}
theorem DL.step{s:OS}{d:Option Tmp}(rd:List Nat)(l:ops[i]? =Sh o)(q:o.guard=Sl)(u:o.dst=d)(A:∀τ,Agr n ops o σ τ s rd->XJ C n o τ s)(B:s.nw.all σ.av=Sm)(hc:gU ops n cl ⟨i,o,s,s.wr.map (·.1),s.nw,rd⟩ acc=Sm)
  (h:DL C n ops cl is (⟨i,o,s,s.wr.map (·.1),s.nw,rd⟩::acc) K (σ.app d s)):DL C n ops cl (i::is) acc K σ:=by
 subst u;exact⟨o,l,.inl ⟨s,rd,λτ ha=>by simp only[q];exact A τ ha,B,hc,h⟩⟩
theorem DL.stepG{s:OS}{d:Option Tmp}(rd:List Nat){want:Bool}(q:ops[i]? =Sh o)(l:o.guard=Sh (j,want))(u:o.dst=d)(A:σ.ev n (.tmp (((ops[j]?).bind (·.dst)).getD n))= .pv (.bool want))
  (B:∀τ,Agr n ops o σ τ s rd->XJ C n o τ s) (D:s.nw.all σ.av=Sm) (hc:gU ops n cl ⟨i,o,s,s.wr.map (·.1),s.nw,rd⟩ acc=Sm)
  (h:DL C n ops cl is (⟨i,o,s,s.wr.map (·.1),s.nw,rd⟩::acc) K (σ.app d s)):DL C n ops cl (i::is) acc K σ:=by
 subst u;exact⟨o,q,.inl ⟨s,rd,λτ ha=>by
  simp only[l];exact⟨Sh want,V.rX ((ha.g _ (by simp only[BM,l])).trans A),λ_=>B τ ha,λe=>absurd O e⟩,D,hc,h⟩⟩
theorem DL.rel{d:Option Tmp}(P:OS->Prop)(wk nw rd:List Nat)(q:ops[i]? =Sh o)(u:o.guard=Sl)(A:o.dst=d)(B:∀τ,Agr n ops o σ τ ⟨.pv .any,[],nw⟩ rd->OJ C n o (λτ'=>∃s,P s/\s.wr.map (·.1)=wk/\s.nw=nw/\τ'=τ.app o.dst s) τ)
  (D:nw.all σ.av=Sm) (hc:gU ops n cl ⟨i,o,⟨.pv .any,[],[]⟩,wk,nw,rd⟩ acc=Sm) (E:is.all (λj=>inL i ((cl[j]?).getD []))=Sm) (l:(List.range ops.size).all (λj=>inL j (i::is)||inL j (acc.map (·.i)))=Sm)
  (h:∀s,P s->s.wr.map (·.1)=wk->s.nw=nw->DL C n ops cl is (⟨i,o,s,wk,nw,rd⟩::acc) K (σ.app d s)):DL C n ops cl (i::is) acc K σ:=by
 subst A;exact⟨o,q,.inr ⟨P,wk,nw,rd,λτ ha=>⟨by unfold gOk;rw[u];trivial,B τ ha⟩,D,hc,E,l,h⟩⟩
theorem Agr.args{s:OS}{rd:List Nat}{ts:Array TypeId}{ty:TypeId}{pos:String}{after:Array Edge}{gd:Option (Nat×Bool)}
  (h:Agr n ops ⟨dst,.call { callee:= .value (.func f),args:=xs,argTypes:=ts },ty,pos,after,gd⟩ σ τ s rd):xs.toList.map (τ.ev n)=xs.toList.map (σ.ev n):=by
 apply Sd;intro x hx;obtain⟨i,hi⟩:=SU hx;exact h.e (i+1) x (by simpa[Op.operands,Call.operands,UL]using hi)
end
section
variable {n:Nat}{ops:Array Oper}{σ τ:St}{s:OS}{rd:List Nat}{f:FuncId}{xs:Array Operand}{ts:Array TypeId}{dst:Option Tmp}{ty:TypeId}{pos:String}{after:Array Edge}{gd:Option (Nat×Bool)}
theorem Agr.aK (h:Agr n ops ⟨dst,.call { callee:= .value (.func f),args:=xs,argTypes:=ts },ty,pos,after,gd⟩ σ τ s rd)  (hp:(V.args (λ_=>Sl) (xs.toList.map (σ.ev n))).map PV.fgA=Sh ps):
  (V.args (λ_=>Sl) (xs.toList.map (τ.ev n))).map PV.fgA=Sh ps:=by rw[h.args];exact hp
end
section
variable {n:Nat}{ops:Array Oper}{σ τ:St}{s:OS}{rd:List Nat}{dst:Option Tmp}{ty:TypeId}{pos:String}{after:Array Edge}{gd:Option (Nat×Bool)}{T:TypeId}{parts:Array (Nat×Operand)}
theorem Agr.O2(h:Agr n ops ⟨dst,.buildSlice T k parts,ty,pos,after,gd⟩ σ τ s rd):(parts.toList.map λp=>(p.1,τ.ev n p.2))=parts.toList.map λp=>(p.1,σ.ev n p.2):=by
 apply Sd;intro p hp;obtain⟨i,hi⟩:=SU hp;rw[h.e i p.2 (by simp[Op.operands,hi])]
end
section
variable {C:Ctx}{n:Nat}{ops:Array Oper}
theorem dC:∀{l:List Nat},inL d l=Sm↔d∈l
 |[]=>by simp[inL]
 | x::l=>by
   simp only[inL,Sg,AS,dC (l:=l)];exact⟨λh=>h.imp (λe=>(aJ e).symm) id,λh=>h.imp (λe=>by rw[e];exact Ug x) id⟩
theorem lj{a:List Nat}:∀{l:List Nat},meet a l=Sm↔∃x,x∈a/\x∈l
 |[]=>by simp[meet]
 | x::l=>by
   simp only[meet,Sg,dC,lj (l:=l),AS];constructor
   .rintro(h|⟨y,h1,h2⟩)
    .exact⟨x,h,.inl O⟩
    .exact⟨y,h1,.inr h2⟩
   .rintro⟨y,h1,rfl|h2⟩
    .exact .inl h1
    .exact .inr ⟨y,h1,h2⟩
theorem fx:∀(l:List (Nat×Option Ob))(f:Nat->Option Ob)(id:Nat),id∉l.map (·.1)->obL l f id=f id
 |[],_,_,_=>rfl
 | (i,o)::l,f,id,h=>by
   simp only[bP,AS,not_or]at h;have hb:Nat.beq id i=S1:=by cases hb:Nat.beq id i;rfl;exact absurd (aJ hb) h.1
   simp only[obL,hb,RR];exact fx l f id h.2
theorem AY:∀(l:List (Nat×Option Ob))(f g:Nat->Option Ob)(id:Nat),id∈l.map (·.1)->obL l f id=obL l g id
 |[],_,_,_,h=>by simp at h
 | (i,o)::l,f,g,id,h=>by
   simp only[obL];cases hb:Nat.beq id i
   .simp only[RR];refine AY l f g id ?_;simp only[bP,AS]at h;rcases h with e|h
    .rw[e]at hb;simp at hb
    .exact h
   .rfl
theorem jW:∀(l:List Nat)(f:Av)(id:Nat),avL l f id=(f id&& !inL id l)
 |[],f,id=>by simp[avL,inL]
 | i::l,f,id=>by
   simp only[avL,inL];by_cases e:id=i
   .subst e;simp
   .have hb:Nat.beq id i=S1:=by cases hb:Nat.beq id i;rfl;exact absurd (aJ hb) e
    have q:Nat.beq i id=S1:=by cases hb:Nat.beq i id;rfl;exact absurd (aJ hb).symm e
    rw[hb,q,jW l f id];simp
def dT(D:Nat->Bool)(σ0:St):List It->St
 |[]=>σ0
 |it::l=>bif D it.i then(dT D σ0 l).app it.o.dst it.s else dT D σ0 l
theorem IB{a b:It}(σ:St)(h:eE ops n a b=S1)(A:a.s.wr.map (·.1)=a.wk)(B:b.s.wr.map (·.1)=b.wk):(σ.app a.o.dst a.s).app b.o.dst b.s=(σ.app b.o.dst b.s).app a.o.dst a.s:=by
 simp only[eE,R7]at h;obtain⟨⟨⟨⟨⟨h1,h2⟩,h3⟩,h4⟩,h5⟩,h6⟩:=h;have u:∀id,id∈a.s.wr.map (·.1)->id∉b.s.wr.map (·.1):=λid hx hy=>by
  rw[A]at hx;rw[B]at hy;have:meet a.wk (b.rd++b.wk++b.nw)=Sm:=lj.2 ⟨id,hx,by simp only[Rx];exact .inl (.inr hy)⟩;rw[h3]at this;cases this
 simp only[St.app,St.mk.injEq];refine⟨?_,?_,?_⟩
 .cases hd:a.o.dst with
  |none=>cases b.o.dst<;>rfl
  | some d=>
    cases he:b.o.dst with
    |none=>rfl
    | some e=>
      simp only;rw[hd,he]at h1;simp only[R7]at h1;have l:d≠e:=λq=>by subst q;simp at h1
      funext x;by_cases p:x=d
      .subst p;rw[aR _ _ l,aA,aA]
      .by_cases q:x=e
       .subst q;rw[aA,aR _ _ p,aA]
       .rw[aR _ _ q,aR _ _ p,aR _ _ p,aR _ _ q]
 .funext id;by_cases p:id∈a.s.wr.map (·.1)
  .rw[fx _ _ _ (u id p)];exact AY _ _ _ _ p
  .rw[fx a.s.wr _ _ p];by_cases q:id∈b.s.wr.map (·.1)
   .exact AY _ _ _ _ q
   .rw[fx _ _ _ q,fx _ _ _ q,fx _ _ _ p]
 .funext id;simp only[jW];cases σ.av id<;>cases inL id a.s.nw<;>cases inL id b.s.nw<;>rfl
def Good(C:Ctx)(n:Nat)(ops:Array Oper)(cl:List (List Nat))(σ0:St)(Rl:List Nat):List It->Prop
 |[]=>True
 |it::l=>(it.i∈Rl\/(LJ C n ops it.o (dT (λ_=>Sm) σ0 l) it.s it.rd))/\it.nw.all (dT (λ_=>Sm) σ0 l).av=Sm/\gU ops n cl it l=Sm/\ops[it.i]? =Sh it.o/\it.s.wr.map (·.1)=it.wk/\it.s.nw=it.nw/\Good C n ops cl σ0 Rl l
section
variable {cl:List (List Nat)}{σ0:St}{Rl:List Nat}
theorem Good.split:∀{l1:List It}{it:It}{l2:List It},Good C n ops cl σ0 Rl (l1++it::l2)->Good C n ops cl σ0 Rl (it::l2)
 |[],_,_,h=>h
 |a::l1,_,_,h=>Good.split (l1:=l1) h.2.2.2.2.2.2
theorem Good.mem:∀{l:List It},Good C n ops cl σ0 Rl l->∀it∈l,ops[it.i]? =Sh it.o/\it.s.wr.map (·.1)=it.wk/\it.s.nw=it.nw
 |[],_,it,h=>by simp at h
 | a::l,h,it,hm=>by
   rcases AS.1 hm with rfl|hm
   .exact⟨h.2.2.2.1,h.2.2.2.2.1,h.2.2.2.2.2.1⟩
   .exact Good.mem h.2.2.2.2.2.2 it hm
theorem Good.waits:∀{l1:List It}{it:It}{l2:List It},Good C n ops cl σ0 Rl (l1++it::l2)->∀b∈l1,(eE ops n it b=Sm->it.i∈(cl[b.i]?).getD [])/\b.i≠it.i
 |[],_,_,_,b,hb=>by simp at hb
 | a::l1,it,l2,h,b,hb=>by
   rcases AS.1 hb with rfl|hb
   .have h1:=h.2.2.1;simp only[gU,sh]at h1;have l:=Ri.1 h1.1 it Vj;have q:=Ri.1 h1.2 it Vj;refine⟨λhc=>?_,λe=>?_⟩
    .rw[hc]at l;exact dC.1 (by simpa using l)
    .rw[e]at q;simp at q
   .exact Good.waits (l1:=l1) h.2.2.2.2.2.2 b hb
theorem Good.G9{it:It}{l2:List It}(h:Good C n ops cl σ0 Rl (it::l2)):∀b∈l2,(eE ops n b it=Sm->b.i∈(cl[it.i]?).getD [])/\b.i≠it.i:=by
 intro b hb;have l:=h.2.2.1;simp only[gU,sh]at l;have q:=Ri.1 l.1 b hb;have u:=Ri.1 l.2 b hb;refine⟨λhc=>?_,λe=>?_⟩
 .rw[hc]at q;exact dC.1 (by simpa using q)
 .rw[e]at u;simp at u
theorem yC{D:Nat->Bool}{it:It}{l2:List It}(B:D it.i=S1)(u:it.s.wr.map (·.1)=it.wk)(A:∀b∈l2,b.i≠it.i):∀(l1:List It),(∀b∈l1,b.i≠it.i/\b.s.wr.map (·.1)=b.wk/\(D b.i=Sm->eE ops n it b=S1))->
  dT (λj=>D j||Nat.beq j it.i) σ0 (l1++it::l2)=(dT D σ0 (l1++it::l2)).app it.o.dst it.s
 | [],_=>by
   have low:∀l:List It,(∀b∈l,b.i≠it.i)->dT (λj=>D j||Nat.beq j it.i) σ0 l=dT D σ0 l:=by
    intro l;induction l with
    |nil=>intro _;rfl
    | cons b l ih=>
      intro h;have q:Nat.beq b.i it.i=S1:=by cases q:Nat.beq b.i it.i;rfl;exact absurd (aJ q) (h b Vj)
      simp only[dT,q,Tk,ih (λc hc=>h c (by simp[hc]))]
   simp only[Sr,dT,B,Ug,Bool.or_true,Sy,RR,low l2 A]
 | b::l1,h=>by
   have ih:=yC B u A l1 (λc hc=>h c (by simp[hc]));obtain⟨h1,h2,h3⟩:=h b Vj;have q:Nat.beq b.i it.i=S1:=by cases q:Nat.beq b.i it.i;rfl;exact absurd (aJ q) h1
   simp only[SN,dT,q,Tk,ih];cases hDb:D b.i with
   |false=>rfl
   | true=>
     simp only[Sy];exact IB (n:=n) (ops:=ops) _ (h3 hDb) u h2
theorem oV(g:St->α)(D D':Nat->Bool):∀(l:List It),(∀b∈l,D b.i=D' b.i\/∀τ:St,g (τ.app b.o.dst b.s)=g τ)->(∀b∈l,∀τ τ':St,g τ=g τ'->g (τ.app b.o.dst b.s)=g (τ'.app b.o.dst b.s))->g (dT D σ0 l)=g (dT D' σ0 l)
 |[],_,_=>rfl
 | b::l,h,h2=>by
   have ih:=oV g D D' l (λc hc=>h c (by simp[hc])) (λc hc=>h2 c (by simp[hc]));simp only[dT];rcases h b Vj with e|e
   .rw[e];cases D' b.i
    .exact ih
    .exact h2 b Vj _ _ ih
   .cases D b.i<;>cases D' b.i<;>simp only[Sy,RR,e,ih]
theorem ui(g:St->α)(D:Nat->Bool){l2:List It}:∀(l1:List It),(∀b∈l1,D b.i=S1\/∀τ:St,g (τ.app b.o.dst b.s)=g τ)->g (dT D σ0 (l1++l2))=g (dT D σ0 l2)
 |[],_=>rfl
 | b::l1,h=>by
   have ih:=ui g D l1 (λc hc=>h c (by simp[hc])) (l2:=l2);simp only[SN,dT];rcases h b Vj with e|e
   .rw[e];exact ih
   .cases D b.i<;>simp only[Sy,RR,e,ih]
end
theorem EA{b:It}(h:b.o.dst≠Sh t)(τ:St):(τ.app b.o.dst b.s).sl t=τ.sl t:=by
 simp only[St.app];cases hd:b.o.dst with
 |none=>rfl
 |some d=>exact aR _ _ (λq=>h (by rw[hd,q]))
theorem Da(b:It)(t:Nat)(τ τ':St)(h:τ.sl t=τ'.sl t):(τ.app b.o.dst b.s).sl t=(τ'.app b.o.dst b.s).sl t:=by
 simp only[St.app];cases hd:b.o.dst with
 |none=>exact h
 | some d=>
   by_cases e:t=d
   .subst e;simp only[aA]
   .simp only[aR _ _ e,h]
theorem vi{b:It}(h:t∉b.s.wr.map (·.1))(τ:St):(τ.app b.o.dst b.s).ob t=τ.ob t:=fx _ _ _ h
theorem CT(b:It)(t:Nat)(τ τ':St)(h:τ.ob t=τ'.ob t):(τ.app b.o.dst b.s).ob t=(τ'.app b.o.dst b.s).ob t:=by
 by_cases e:t∈b.s.wr.map (·.1)
 .exact AY _ _ _ _ e
 .rw[vi e,vi e,h]
theorem Hm{b:It}(h:t∉b.s.nw)(τ:St):(τ.app b.o.dst b.s).av t=τ.av t:=by
 have l:inL t b.s.nw=S1:=by cases hb:inL t b.s.nw;rfl;exact absurd (dC.1 hb) h
 simp only[St.app,jW,l,Bool.not_false,Ue]
theorem E5(b:It)(t:Nat)(τ τ':St)(h:τ.av t=τ'.av t):(τ.app b.o.dst b.s).av t=(τ'.app b.o.dst b.s).av t:=by
 simp only[St.app,jW,h]
theorem C8(D:Nat->Bool)(all:List Oper)(B:∀j o,all[j]? =Sh o->D j=Sm->∀e∈o.after,Region.binds .any e=Sm->D e.on=Sm):
  ∀(os:List Oper)(acc:List (List Nat)),all.drop acc.length=os->(∀j,D j=Sm->∀i∈(acc[j]?).getD [],D i=Sm)->∀j,D j=Sm->∀i∈((HG os acc)[j]?).getD [],D i=Sm:=by
 intro os;induction os with
 |nil=>intro acc _ h;simpa only[HG]using h
 | cons o os ih=>
   intro acc hd h;simp only[HG];have E:all[acc.length]? =Sh o:=by
    have:=ag (·[0]?) hd;simpa using this
   refine ih _ ?_ ?_
   .have:=ag (List.drop 1) hd;simpa[UL]using this
   .intro j hj i hi;by_cases e:j<acc.length
    .rw[Uo e]at hi;exact h j hj i hi
    .by_cases e2:j=acc.length
     .subst e2;rw[List.getElem?_append_right (BY _)]at hi;simp only[Ux,List.getElem?_cons_zero,Ub]at hi;have u:∀q∈(o.after.toList.filterMap λe=>if Region.binds .any e then Sh e.on else Sl),D q=Sm:=by
       intro q hq;obtain⟨e,he,hq'⟩:=List.mem_filterMap.1 hq;split at hq'
       .rename_i hbd;simp at hq';subst hq';exact B _ o E hj e (by simpa using he) hbd
       .cases hq'
      revert hi u
      generalize (o.after.toList.filterMap λe=>if Region.binds .any e then Sh e.on else Sl)=es;have A:∀(es:List Nat)(l0:List Nat),(∀q∈l0,D q=Sm)->(∀q∈es,D q=Sm)->∀i∈es.foldl (λl i=>if inL i l then l else(i::l)++((acc[i]?).getD []).filter (λz=> !(inL z (i::l)))) l0,D i=Sm:=by
       intro es;induction es with
       |nil=>intro l0 h0 _ i hi;exact h0 i hi
       | cons q es ihe=>
         intro l0 h0 u i hi;simp only[Tf]at hi;refine ihe _ ?_ (λq' hq'=>u q' (by simp[hq'])) i hi;intro z hz;split at hz
         .exact h0 z hz
         .simp only[SN,AS,Rx]at hz;rcases hz with rfl|hz|hz
          .exact u _ Vj
          .exact h0 z hz
          .exact h q (u q Vj) z (Sj.1 hz).1
      intro hi u;exact A es [] Vj u i hi
     .rw[SF Vk]at hi;simp at hi
theorem yw:∀{os:List Oper}{k:Nat},iL k os=Sm->∀{i:Nat}{o:Oper},os[i]? =Sh o->∀e∈o.after,Region.binds .any e=Sm->e.on<k+i
 |[],_,_,i,o,h=>by simp at h
 | q::os,k,hk,i,o,h=>by
   simp only[iL,sh]at hk;cases i with
   | zero=>
     simp at h;subst h;intro e he hb;have:=(Ri.1 hk.1) e (by simpa using he);simp only[hb,Bool.not_true,Bool.false_or]at this;simpa[Tw]using this
   | succ i=>
     simp at h;intro e he hb;have:=yw hk.2 h e he hb;omega
theorem FX{a b:It}(l:a.o.dst=Sh d)(q:d∈cQ ops n b.o):eE ops n a b=Sm:=by
 have:inL d (cQ ops n b.o)=Sm:=dC.2 q;simp only[eE,l,this,Bool.or_true,Bool.true_or]
theorem H8{a b:It}(l:b.o.dst=Sh d)(q:d∈cQ ops n a.o):eE ops n a b=Sm:=by
 have:inL d (cQ ops n a.o)=Sm:=dC.2 q;simp only[eE,l,this,Bool.or_true,Bool.true_or]
theorem FR{a b:It}(l:d∈a.wk)(q:d∈b.rd):eE ops n a b=Sm:=by
 have:meet a.wk (b.rd++b.wk++b.nw)=Sm:=lj.2 ⟨d,l,by simp only[Rx];exact .inl (.inl q)⟩;simp only[eE,this,Bool.or_true,Bool.true_or]
theorem Km{a b:It}(l:d∈b.wk)(q:d∈a.rd):eE ops n a b=Sm:=by
 have:meet b.wk (a.rd++a.nw)=Sm:=lj.2 ⟨d,l,by simp only[Rx];exact .inl q⟩;simp only[eE,this,Bool.or_true,Bool.true_or]
theorem xe{a b:It}(l:d∈a.nw)(q:d∈b.nw):eE ops n a b=Sm:=by
 have:meet a.nw (b.rd++b.nw)=Sm:=lj.2 ⟨d,l,by simp only[Rx];exact .inr q⟩;simp only[eE,this,Bool.or_true,Bool.true_or]
abbrev Dn(listed:Array Bool):Nat->Bool:=λi=>listed.getD i S1
structure Lst(ops:Array Oper)(listed:Array Bool)(fuel:Nat)(acc:List It)(Rl:List Nat):Prop where
 sz:listed.size=ops.size
 fuel:∃us:List Nat,us.length<=fuel/\∀i,i<ops.size->Dn listed i=S1->i∈us
 cl:∀j o,ops[j]? =Sh o->Dn listed j=Sm->∀e∈o.after,Region.binds .any e=Sm->Dn listed e.on=Sm
 sub:∀i,Dn listed i=Sm->i∈acc.map (·.i)
 rl:∀i∈Rl,Dn listed i=Sm
theorem Qu(listed:Array Bool)(i:Nat)(l:i<listed.size):listed.getD i Sm=listed.getD i S1:=by simp[l]
theorem gm(q:listed.size=ops.size):i∈Region.ready .any ops listed↔i<ops.size/\Dn listed i=S1/\∀o,ops[i]? =Sh o->∀e∈o.after,Region.binds .any e=Sm->Dn listed e.on=Sm:=by
 unfold Region.ready;rw[Sj];simp only[Si,sh,TB];constructor
 .rintro⟨h1,h2,h3⟩;refine⟨h1,(Qu listed i Vf).symm.trans h2,λo l e he hb=>?_⟩;rw[l]at h3;simp only[Tt,Ub]at h3;have:=(Array.all_eq_true_iff_forall_mem.1 h3) e he;simpa[hb]using this
 .rintro⟨h1,h2,h3⟩;refine⟨h1,(Qu listed i Vf).trans h2,?_⟩;have l:ops[i]? =Sh ops[i]:=Array.getElem?_eq_getElem h1;rw[l];simp only[Tt,Ub];rw[Array.all_eq_true_iff_forall_mem];intro e he;cases hb:Region.binds .any e with
  |false=>simp
  |true=>simpa using h3 _ l e he hb
theorem rb(l:iL 0 ops.toList=Sm)(q:listed.size=ops.size)(u:Region.ready .any ops listed=[]):∀i,i<ops.size->Dn listed i=Sm:=by
 intro i;induction i using Nat.strongRecOn with
 | _ i ih=>
   intro hi;cases hb:Dn listed i with
   |true=>rfl
   | false=>
     exfalso;have:i∈Region.ready .any ops listed:=(gm q).2 ⟨hi,hb,λo ho e he hbd=>by
      have:=yw l (i:=i) (o:=o) (by simpa using ho) e he hbd;exact ih e.on Vf Vf⟩
     rw[u]at this;simp at this
theorem fe(l:i<listed.size)(j:Nat):Dn (listed.setIfInBounds i Sm) j=(Dn listed j||Nat.beq j i):=by
 simp only[Dn,Sf,TE];by_cases e:i=j
 .subst e;simp[l]
 .have hb:Nat.beq j i=S1:=by cases hb:Nat.beq j i;rfl;exact absurd (aJ hb).symm e
  simp[e,hb]
theorem Lst.next{acc:List It}(h:Lst ops listed (fuel+1) acc Rl)(B:i∈Region.ready .any ops listed){acc':List It}{Rl':List Nat}(q:∀j,j∈acc.map (·.i)\/j=i->j∈acc'.map (·.i))(A:∀j∈Rl',j∈Rl\/j=i):
  Lst ops (listed.setIfInBounds i Sm) fuel acc' Rl':=by
 obtain⟨hi,hDi,hedg⟩:=(gm h.sz).1 B;have l:i<listed.size:=by rw[h.sz];exact hi
 obtain⟨us,hu1,hu2⟩:=h.fuel;refine⟨by simpa using h.sz,⟨us.erase i,?_,?_⟩,?_,?_,?_⟩
 .have:=hu2 i hi hDi;rw[List.length_erase_of_mem this];omega
 .intro j hj hjl;rw[fe l]at hjl;simp only[R7]at hjl;have u:j≠i:=λe=>by subst e;simp at hjl
  exact(List.mem_erase_of_ne u).2 (hu2 j hj hjl.1)
 .intro j o' ho' hj e he hb;rw[fe l]at hj ⊢;by_cases e1:j=i
  .subst e1;rw[hedg o' ho' e he hb];rfl
  .have hb':Nat.beq j i=S1:=by cases hb:Nat.beq j i;rfl;exact absurd (aJ hb) e1
   rw[hb',Tk]at hj;rw[h.cl j o' ho' hj e he hb];rfl
 .intro j hj;rw[fe l]at hj;rcases(Bool.or_eq_true_iff).1 hj with hj|hj
  .exact q j (.inl (h.sub j hj))
  .exact q j (.inr (aJ hj))
 .intro j hj;rw[fe l];rcases A j hj with h'|h'
  .rw[h.rl j h'];rfl
  .subst h';simp
theorem Lst.clo(l:HG ops.toList []=cl){acc:List It}(h:Lst ops listed fuel acc Rl)(A:Dn listed j=Sm)(u:i∈(cl[j]?).getD []):Dn listed i=Sm:=by
 rw[<-l]at u;exact C8 (Dn listed) ops.toList (λk q hq=>h.cl k q (by simpa using hq)) ops.toList [] O Vj j A i u
theorem qp(X:HG ops.toList []=cl){σ0:St}{l1:List It}{it:It}{l2:List It}(Y:Good C n ops cl σ0 Rl (l1++it::l2))(Z:Lst ops listed (fuel+1) (l1++it::l2) Rl)
  (hr:it.i∈Region.ready .any ops listed) {a:Act} {w:World} (aa:SJ C n (dT (Dn listed) σ0 (l1++it::l2)) a w) {Q:Exit->Act->World->Prop}
  (next:∀a' w',Lst ops (listed.setIfInBounds it.i Sm) fuel (l1++it::l2) Rl->SJ C n (dT (Dn (listed.setIfInBounds it.i Sm)) σ0 (l1++it::l2)) a' w'->wpAny C.P .any ops Q fuel (listed.setIfInBounds it.i Sm) a' w'):
  wpOp C.P ops Q it.i (wpAny C.P .any ops Q fuel (listed.setIfInBounds it.i Sm)) a w:=by
 obtain⟨hi,hDi,hedg⟩:=(gm Z.sz).1 hr;have J:it.i<listed.size:=by rw[Z.sz];exact hi
 have L:=Y.split;have W:Lst ops (listed.setIfInBounds it.i Sm) fuel (l1++it::l2) Rl:=Z.next hr (λj hj=>by
  rcases hj with hj|hj
  .exact hj
  .rw[hj];exact By.2 ⟨it,Vj,O⟩) (λj hj=> .inl hj)
 have D:∀b∈l1,eE ops n it b=Sm->Dn listed b.i=S1:=by
  intro b hb hc;cases u:Dn listed b.i with
  |false=>rfl
  | true=>
    have:=Z.clo X u ((Y.waits b hb).1 hc);rw[hDi]at this;cases this
 have E:∀b∈l2,eE ops n b it=Sm->Dn listed b.i=Sm:=by
  intro b hb hc;have H:=W.clo X (j:=it.i) (i:=b.i) (by rw[fe J];simp) ((L.G9 b hb).1 hc);rw[fe J]at H;have M:Nat.beq b.i it.i=S1:=by cases M:Nat.beq b.i it.i;rfl;exact absurd (aJ M) (L.G9 b hb).2
  rwa [M,Tk]at H
 have l:=Y.mem;obtain⟨hspec,hnwall,_,ho,hwk,hnw,_⟩:=L;have ab:LJ C n ops it.o (dT (λ_=>Sm) σ0 l2) it.s it.rd:=by
  rcases hspec with h|h
  .have:=Z.rl it.i h;rw[hDi]at this;cases this
  .exact h
 have G:∀{α:Type}(g:St->α),(∀b∈l1++it::l2,∀τ τ':St,g τ=g τ'->g (τ.app b.o.dst b.s)=g (τ'.app b.o.dst b.s))->(∀b∈l1,eE ops n it b=Sm\/∀τ:St,g (τ.app b.o.dst b.s)=g τ)->(∀b∈l2,eE ops n b it=Sm\/∀τ:St,g (τ.app b.o.dst b.s)=g τ)->
   g (dT (Dn listed) σ0 (l1++it::l2))=g (dT (λ_=>Sm) σ0 l2):=by
  intro α g h0 H h2;rw[ui g (Dn listed) l1 (λb hb=>(H b hb).imp (D b hb) id)];have:g (dT (Dn listed) σ0 (it::l2))=g (dT (Dn listed) σ0 l2):=by simp only[dT,hDi,RR]
  rw[this];exact oV g _ _ l2 (λb hb=>(h2 b hb).imp (λhc=>E b hb hc) id) (λb hb=>h0 b (by simp[hb]))
 have ac:Agr n ops it.o (dT (λ_=>Sm) σ0 l2) (dT (Dn listed) σ0 (l1++it::l2)) it.s it.rd:=by
  have I:∀t,t∈cQ ops n it.o->(dT (Dn listed) σ0 (l1++it::l2)).sl t=(dT (λ_=>Sm) σ0 l2).sl t:=by
   intro t ht;refine G (λτ=>τ.sl t) (λb _=>Da b t) (λb _=>?_) (λb _=>?_)
   .by_cases u:b.o.dst=Sh t
    .exact .inl (H8 u ht)
    .exact .inr (EA u)
   .by_cases u:b.o.dst=Sh t
    .exact .inl (FX u ht)
    .exact .inr (EA u)
  refine⟨?_,?_,?_,?_⟩
  .intro k x U;cases x with
   | tmp t=>
     have:t∈cQ ops n it.o:=by
      unfold cQ;refine S7 _ (List.mem_filterMap.2 ⟨.tmp t,SC U,O⟩)
     simp only[St.ev,I t this]
   |_=>rfl
  .intro t ht;have:t∈cQ ops n it.o:=by
    unfold cQ;exact To _ (by simp[ht])
   simp only[St.ev,I t this]
  .intro k q hq;have A:q∈it.rd:=SC hq;refine G (λτ=>τ.ob q) (λb _=>CT b q) (λb hb=>?_) (λb hb=>?_)
   .by_cases u:q∈b.s.wr.map (·.1)
    .exact .inl (Km (by rw[<-(l b (by simp[hb])).2.1];exact u) A)
    .exact .inr (vi u)
   .by_cases u:q∈b.s.wr.map (·.1)
    .exact .inl (FR (by rw[<-(l b (by simp[hb])).2.1];exact u) A)
    .exact .inr (vi u)
  .intro k q hq;have A:q∈it.nw:=by rw[<-hnw];exact SC hq
   have H:=Ri.1 hnwall q A;have:=G (λτ=>τ.av q) (λb _=>E5 b q) (λb hb=>?_) (λb hb=>?_)
   .exact this.trans H
   .by_cases u:q∈b.s.nw
    .exact .inl (xe A (by rw[<-(l b (by simp[hb])).2.2];exact u))
    .exact .inr (Hm u)
   .by_cases u:q∈b.s.nw
    .exact .inl (xe (by rw[<-(l b (by simp[hb])).2.2];exact u) A)
    .exact .inr (Hm u)
 have U:=ab _ ac;have ad:dT (Dn (listed.setIfInBounds it.i Sm)) σ0 (l1++it::l2)=(dT (Dn listed) σ0 (l1++it::l2)).app it.o.dst it.s:=by
  have e:Dn (listed.setIfInBounds it.i Sm)=λj=>Dn listed j||Nat.beq j it.i:=funext (fe J)
  rw[e];refine yC (n:=n) (ops:=ops) hDi hwk (λb hb=>?_) l1 (λb hb=>⟨(Y.waits b hb).2,(l b (by simp[hb])).2.1,λu=>?_⟩)
  .exact(Y.split.G9 b hb).2
  .cases hc:eE ops n it b with
   |false=>rfl
   |true=>rw[D b hb hc]at u;cases u
 have B:∀a' w',SJ C n ((dT (Dn listed) σ0 (l1++it::l2)).app it.o.dst it.s) a' w'->wpAny C.P .any ops Q fuel (listed.setIfInBounds it.i Sm) a' w':=λa' w' h=>next a' w' W (by rw[ad];exact h)
 unfold wpOp;rw[ho];simp only;cases hg:it.o.guard with
 | none=>
   rw[hg]at U;simp only[Region.wanted,hg,UP];refine .inl (Oper.wp_mono ?_ (U a w _ aa));rintro a' w' ⟨σ',rfl,hsj'⟩;exact B a' w' hsj'
 | some jw=>
   obtain⟨j,want⟩:=jw;rw[hg]at U;obtain⟨b,hb,H,h2⟩:=U;obtain⟨m,R,hw⟩:=aa;have hy:=eO hw hb;simp only[Region.wanted,hg,hy];by_cases hbw:b=Sh want
   .subst hbw;simp only[S9,UP];refine .inl (Oper.wp_mono ?_ (H O a w _ ⟨m,R,hw⟩));rintro a' w' ⟨σ',rfl,hsj'⟩;exact B a' w' hsj'
   .have:(b==Sh want)=S1:=by simpa using hbw
    simp only[this,Sz,Up];refine B _ _ ?_;rw[h2 hbw,St.ib];exact⟨m,R,hw.put it.o.dst (G4 _ _ _ _)⟩
theorem DL.sound(L:HG ops.toList []=cl)(M:iL 0 ops.toList=Sm)(σ0:St)(K:St->Prop)(Q:Exit->Act->World->Prop)(hQ:∀a w,(∃σ',K σ'/\SJ C n σ' a w)->Q .normal a w):
  ∀(is:List Nat)(acc:List It)(Rl:List Nat),DL C n ops cl is acc K (dT (λ_=>Sm) σ0 acc)->Good C n ops cl σ0 Rl acc->
   ∀fuel listed a w,Lst ops listed fuel acc Rl->SJ C n (dT (Dn listed) σ0 acc) a w->wpAny C.P .any ops Q fuel listed a w:=by
 intro is;induction is with
 | nil=>
   intro acc Rl hD hG fuel;obtain⟨hcov,hK⟩:=hD;have U:∀i,i<ops.size->∃l1 it l2,acc=l1++it::l2/\it.i=i:=by
    intro i hi;have:=dC.1 (Ri.1 hcov i (by simpa using hi));obtain⟨it,hm,rfl⟩:=By.1 this;obtain⟨l1,l2,e⟩:=List.append_of_mem hm;exact⟨l1,it,l2,e,O⟩
   have W:∀listed a w,(∀i,i<ops.size->Dn listed i=Sm)->SJ C n (dT (Dn listed) σ0 acc) a w->Q .normal a w:=by
    intro listed a w G hsj;refine hQ a w ⟨_,hK,?_⟩;have e:dT (Dn listed) σ0 acc=dT (λ_=>Sm) σ0 acc:=by
     refine oV (σ0:=σ0) (λτ=>τ) (Dn listed) (λ_=>Sm) acc (λb hb=> .inl (G b.i ?_)) (λb _ τ τ' h=>by rw[h]);exact(Ro.1 (hG.mem b hb).1).1
    rw[<-e];exact hsj
   induction fuel with
   | zero=>
     intro listed a w hL hsj;obtain⟨us,hu1,hu2⟩:=hL.fuel;have G:∀i,i<ops.size->Dn listed i=Sm:=by
      intro i hi;cases hb:Dn listed i with
      |true=>rfl
      | false=>
        have B:=hu2 i hi hb;have A:us=[]:=RU Vf;rw[A]at B;simp at B
     refine⟨?_,W listed a w G hsj⟩;apply List.eq_nil_iff_forall_not_mem.2;intro i hi;have:=(gm hL.sz).1 hi;rw[G i this.1]at this;simp at this
   | succ fuel ih=>
     intro listed a w hL hsj;refine⟨λhr=>W listed a w (rb M hL.sz hr) hsj,?_⟩;intro i hir;obtain⟨l1,it,l2,rfl,rfl⟩:=U i ((gm hL.sz).1 hir).1;exact qp L hG hL hir hsj (λa' w' B A=>ih _ a' w' B A)
 | cons i is ih=>
   intro acc Rl hD hG;obtain⟨o,ho,hD|hD⟩:=hD
   .obtain⟨s,rd,hlj,hnw,hnew,hD⟩:=hD;intro fuel listed a w hL hsj;have I:Dn listed i=S1:=by
     cases hb:Dn listed i with
     |false=>rfl
     | true=>
       obtain⟨b,hm,e⟩:=By.1 (hL.sub i hb);simp only[gU,sh]at hnew;have:=Ri.1 hnew.2 b hm;simp[e]at this
    have Z:dT (λ_=>Sm) σ0 (⟨i,o,s,s.wr.map (·.1),s.nw,rd⟩::acc)=(dT (λ_=>Sm) σ0 acc).app o.dst s:=rfl;have aa:DL C n ops cl is (⟨i,o,s,s.wr.map (·.1),s.nw,rd⟩::acc) K (dT (λ_=>Sm) σ0 (⟨i,o,s,s.wr.map (·.1),s.nw,rd⟩::acc)):=by rw[Z];exact hD
    refine ih _ Rl aa ⟨.inr hlj,hnw,hnew,ho,O,O,hG⟩ fuel listed a w ⟨hL.sz,hL.fuel,hL.cl,λj hj=>?_,hL.rl⟩ ?_
    .simp only[bP,AS];exact .inr (hL.sub j hj)
    .simpa only[dT,I,RR]using hsj
   .obtain⟨P,wk,nw,rd,hlj,hnw,hnew,hsucc,hcov,hD⟩:=hD;have I:∀{listed fuel},Lst ops listed fuel acc Rl->Dn listed i=S1:=by
     intro listed fuel hL;cases hb:Dn listed i with
     |false=>rfl
     | true=>
       obtain⟨b,hm,e⟩:=By.1 (hL.sub i hb);simp only[gU,sh]at hnew;have:=Ri.1 hnew.2 b hm;simp[e]at this
    have X:i<ops.size:=(Ro.1 ho).1;intro fuel;induction fuel with
    | zero=>
      intro listed a w hL hsj;obtain⟨us,hu1,hu2⟩:=hL.fuel;have B:=hu2 i X (I hL);have A:us=[]:=RU Vf;rw[A]at B;simp at B
    | succ fuel ihf=>
      intro listed a w hL hsj;refine⟨λhr=>?_,?_⟩
      .have:=rb M hL.sz hr i X;rw[I hL]at this;cases this
      .intro j hjr;obtain⟨hj,hDj,hedgj⟩:=(gm hL.sz).1 hjr;by_cases e:j=i
       ·
        subst e;have H:j<listed.size:=by rw[hL.sz];exact hj
        have agr:Agr n ops o (dT (λ_=>Sm) σ0 acc) (dT (Dn listed) σ0 acc) ⟨.pv .any,[],nw⟩ rd:=by
            have hIt:∀(s:OS),s.wr.map (·.1)=wk->s.nw=nw->∀b∈acc,eE ops n b ⟨j,o,s,wk,nw,rd⟩=Sm->Dn listed b.i=Sm:=by
             intro s _ _ b hb hc;simp only[gU,sh]at hnew;have B:=Ri.1 hnew.1 b hb;have hc':eE ops n b ⟨j,o,⟨.pv .any,[],[]⟩,wk,nw,rd⟩=Sm:=hc;rw[hc']at B;have u:=dC.1 (by simpa using B:inL b.i ((cl[j]?).getD [])=Sm);have E:Lst ops (listed.setIfInBounds j Sm) fuel (⟨j,o,s,wk,nw,rd⟩::acc) Rl:=hL.next hjr (λk hk=>by simp only[bP,AS];exact hk.symm) (λk hk=> .inl hk);have A:=E.clo L (j:=j) (i:=b.i) (by rw[fe H];simp) u;rw[fe H]at A;have h3:=Ri.1 hnew.2 b hb;have D:Nat.beq b.i j=S1:=by simpa using h3
             rwa [D,Tk]at A
            have J:∀{α:Type}(g:St->α),(∀b∈acc,∀τ τ':St,g τ=g τ'->g (τ.app b.o.dst b.s)=g (τ'.app b.o.dst b.s))->(∀b∈acc,eE ops n b ⟨j,o,⟨.pv .any,[],[]⟩,wk,nw,rd⟩=Sm\/∀τ:St,g (τ.app b.o.dst b.s)=g τ)->g (dT (Dn listed) σ0 acc)=g (dT (λ_=>Sm) σ0 acc):=by
             intro α g h0 A;exact oV g _ _ acc (λb hb=>(A b hb).imp (λhc=>by
              simp only[gU,sh]at hnew;have B:=Ri.1 hnew.1 b hb;rw[hc]at B;have u:=dC.1 (by simpa using B:inL b.i ((cl[j]?).getD [])=Sm);have E:Lst ops (listed.setIfInBounds j Sm) fuel (⟨j,o,⟨.pv .any,[],[]⟩,wk,nw,rd⟩::acc) Rl:=hL.next hjr (λk hk=>by simp only[bP,AS];exact hk.symm) (λk hk=> .inl hk);have A:=E.clo L (j:=j) (i:=b.i) (by rw[fe H];simp) u;rw[fe H]at A;have h3:=Ri.1 hnew.2 b hb;have D:Nat.beq b.i j=S1:=by simpa using h3
              rwa [D,Tk]at A) id) h0
            have Y:∀t,t∈cQ ops n o->(dT (Dn listed) σ0 acc).sl t=(dT (λ_=>Sm) σ0 acc).sl t:=by
             intro t ht;refine J (λτ=>τ.sl t) (λb _=>Da b t) (λb _=>?_);by_cases hd:b.o.dst=Sh t
             .exact .inl (FX (b:=⟨j,o,⟨.pv .any,[],[]⟩,wk,nw,rd⟩) hd ht)
             .exact .inr (EA hd)
            refine⟨?_,?_,?_,?_⟩
            .intro k x hx;cases x with
             | tmp t=>
               have:t∈cQ ops n o:=by
                unfold cQ;refine S7 _ (List.mem_filterMap.2 ⟨.tmp t,SC hx,O⟩)
               simp only[St.ev,Y t this]
             |_=>rfl
            .intro t ht;have:t∈cQ ops n o:=by
              unfold cQ;exact To _ (by simp[ht])
             simp only[St.ev,Y t this]
            .intro k q hq;have u:q∈rd:=SC hq;refine J (λτ=>τ.ob q) (λb _=>CT b q) (λb hb=>?_);by_cases hd:q∈b.s.wr.map (·.1)
             .exact .inl (FR (b:=⟨j,o,⟨.pv .any,[],[]⟩,wk,nw,rd⟩) (by rw[<-(hG.mem b hb).2.1];exact hd) u)
             .exact .inr (vi hd)
            .intro k q hq;have u:q∈nw:=SC hq;have B:=Ri.1 hnw q u;refine(J (λτ=>τ.av q) (λb _=>E5 b q) (λb hb=>?_)).trans B;by_cases hd:q∈b.s.nw
             .exact .inl (xe (b:=⟨j,o,⟨.pv .any,[],[]⟩,wk,nw,rd⟩) (by rw[<-(hG.mem b hb).2.2];exact hd) u)
             .exact .inr (Hm hd)
        obtain ⟨hg,hx⟩:=hlj _ agr;have wop:∀(K':Act->World->Prop),Oper.wp C.P o a w K' Q->wpOp C.P ops Q j K' a w:=by
            intro K' hK;unfold wpOp;rw[ho];cases hgd:o.guard with
            | none=>
              simp only[Region.wanted,hgd,UP];exact .inl hK
            | some jw=>
              obtain⟨q,want⟩:=jw;unfold gOk at hg;rw[hgd]at hg;obtain⟨m,R,hw⟩:=hsj;have hy:=eO hw hg;simp only[Region.wanted,hgd,hy,S9,UP];exact .inl hK
        refine wop _ (Oper.wp_mono ?_ (hx a w _ hsj));rintro a' w' ⟨σ',⟨s,hP,B,A,rfl⟩,hsj'⟩;have E:Lst ops (listed.setIfInBounds j Sm) fuel (⟨j,o,s,wk,nw,rd⟩::acc) (j::Rl):=hL.next hjr (λk hk=>by simp only[bP,AS];exact hk.symm) (λk hk=>by
            rcases AS.1 hk with hk|hk
            .exact .inr hk
            .exact .inl hk)
        have hGr:∀{l:List It},Good C n ops cl σ0 Rl l->Good C n ops cl σ0 (j::Rl) l:=by
            intro l;induction l with
            |nil=>intro _;trivial
            | cons b l ihl=>
              intro h;exact⟨h.1.imp (λh=>RX _ h) id,h.2.1,h.2.2.1,h.2.2.2.1,h.2.2.2.2.1,h.2.2.2.2.2.1,ihl h.2.2.2.2.2.2⟩
        have Z:dT (λ_=>Sm) σ0 (⟨j,o,s,wk,nw,rd⟩::acc)=(dT (λ_=>Sm) σ0 acc).app o.dst s:=rfl;have aa:DL C n ops cl is (⟨j,o,s,wk,nw,rd⟩::acc) K (dT (λ_=>Sm) σ0 (⟨j,o,s,wk,nw,rd⟩::acc)):=by rw[Z];exact hD s hP B A
        refine ih _ (j::Rl) aa ⟨.inl Vj,hnw,hnew,ho,B,A,hGr hG⟩ fuel _ a' w' E ?_;have hjD:Dn (listed.setIfInBounds j Sm) j=Sm:=by rw[fe H];simp
        have same:dT (Dn (listed.setIfInBounds j Sm)) σ0 acc=dT (Dn listed) σ0 acc:=by
            refine oV (σ0:=σ0) (λτ=>τ) _ _ acc (λb hb=> .inl ?_) (λb _ τ τ' h=>by rw[h]);rw[fe H];simp only[gU,sh]at hnew;have h3:=Ri.1 hnew.2 b hb;have D:Nat.beq b.i j=S1:=by simpa using h3
            rw[D,Tk]
        simp only[dT,hjD,Sy,same];exact hsj'
       ·
        have hc:=Ri.1 hcov j (by simpa using hj);rcases(Bool.or_eq_true_iff).1 hc with hc|hc
        .exfalso;have hc:=dC.1 hc;rcases AS.1 hc with hc|hc
         .exact e hc
         .have hin:=dC.1 (Ri.1 hsucc j hc);have hjl:j<listed.size:=by rw[hL.sz];exact hj
          have E:Lst ops (listed.setIfInBounds j Sm) fuel (⟨j,o,⟨.pv .any,[],[]⟩,wk,nw,rd⟩::acc) Rl:=hL.next hjr (λk hk=>by simp only[bP,AS];exact hk.symm) (λk hk=> .inl hk);have A:=E.clo L (j:=j) (i:=i) (by rw[fe hjl];simp) hin;rw[fe hjl]at A;have D:Nat.beq i j=S1:=by cases D:Nat.beq i j;rfl;exact absurd (aJ D).symm e
          rw[D,Tk,I hL]at A;cases A
        .obtain⟨it,hm,rfl⟩:=By.1 (dC.1 hc);obtain⟨l1,l2,rfl⟩:=List.append_of_mem hm;exact qp L hG hL hjr hsj (λa' w' B A=>ihf _ a' w' B A)
theorem AW.draw{Q:Exit->St->Prop}(u:C.P.follows .mixedOrders=Sm)(cl:List (List Nat))(is:List Nat)(q:HG ops.toList []=cl)(l:iL 0 ops.toList=Sm)(h:DL C n ops cl is [] (Q .normal) σ):AW C n (.region id ops Sm) Q σ:=by
 refine⟨λa w hsj=>wp_region_any u ?_⟩;refine DL.sound (C:=C) (n:=n) q l σ (Q .normal) _ (λa w h=>h) is [] [] h trivial ops.size _ a _ ⟨Vj,⟨List.range ops.size,Vj,λi hi _=>by simpa using hi⟩,?_,?_,Vj⟩ ?_
 .intro j o _ hj;exfalso;simp only[Dn,Sf,TJ]at hj;split at hj<;>simp at hj
 .intro j hj;exfalso;simp only[Dn,Sf,TJ]at hj;split at hj<;>simp at hj
 .obtain⟨m,R,hw⟩:=hsj;exact⟨m,R,hw.drew O O O O⟩
end
end
section
def mkZ(zs:List PV)(n:Nat):List PV:=(List.range n).map λi=>zs.getD (i%zs.length) .any
theorem cB(z:PV)(n:Nat):mkZ [z] n=List.replicate n z:=by
 unfold mkZ;apply SO
 .simp
 .intro i h1 h2;simp[Nat.mod_one]
def eF(place:Nat->Option (Nat×Nat))(ob:Nat->Option Ob)(cells:List V):List (Nat×V)->Option (List V)
 |[]=>Sh cells
 | (i,v)::rest=>match place i with
   |none=>Sl
   |some (off,size)=>bif (Nat.beq v.cells.length size&&Nat.ble (off+size) cells.length&&v.cells.all (λc=>c.leaf&&c.cc ob)&&v.cc ob)then eF place ob (fX cells off v.cells) rest else Sl
def yv(l:List (Nat×Nat))(i:Nat):Option (Nat×Nat):=l[i]?
def placesOf(P:Program)(t:TypeId):Option (List (Nat×Nat)):=
 match P.underlying t with
 |some (.struct fs)=>fs.toList.mapM λf=>(P.info? f.type).map λi=>(f.offset,i.size)
 |_=>Sl
theorem qO(off:Nat):∀(vs:List Value)(arr:Array Value)(k:Nat),off+k+vs.length<=arr.size->
  ((vs.zipIdx k).foldl (λcs (x:Value×Nat)=>cs.setIfInBounds (off+x.2) x.1) arr).toList=fX arr.toList (off+k) vs
 |[],arr,k,_=>by simp[fX]
 | v::vs,arr,k,h=>by
   simp only[Rk]at h;simp only[U1,Tf];rw[qO off vs _ (k+1) Vk];simp only[fX,Array.toList_setIfInBounds,Rk];apply UI;intro i;simp only[List.getElem?_append,IS,Rr,SI,RE,Ry,Sq,Rk];have e1:min (off+k) arr.size=off+k:=Vf;have l:min (off+(k+1)) arr.size=off+k+1:=Vf;simp only[e1,l];by_cases a:i<off+k
   .rw[AT Vf,AT Vf,AT Vf,AT Vf,AT a,AT a];rw[Tl Vf]
   .by_cases b:i=off+k
    .subst b;rw[AT Vf,AT Vf,AT Vf,AT Vf,dt Vf];rw[List.getElem?_set_self Vk];simp
    .by_cases c:i<off+k+(vs.length+1)
     .rw[AT Vf,dt Vf,AT Vf,dt Vf];have:i-(off+k)=(i-(off+k+1))+1:=Vf;rw[this,List.getElem?_cons_succ]
     .rw[dt Vf,dt Vf];rw[Tl Vf]
      congr 1
      omega
section
variable {C:Ctx}{n:Nat}{σ:St}{a:Act}{w:World}{m:Gm}{R:Nat->Prop}
theorem SW.cellsOf(D:SW C n σ a w m R){v:V}{u:Value}(B:Rel w m σ.av R v u)(E:v.cells.all (λc=>c.leaf&&c.cc σ.ob)=Sm)(q:v.cc σ.ob=Sm):
  RelL w m σ.av R v.cells u.cells.toList/\∀c∈u.cells.toList,c.oneCell'=Sm:=by
 have l:∀i,bI (σ.ob i)=Sm->(m i).isSome=Sm:=λi hi=>by rw[D.hr.dom];exact hi
 have A:∀c∈v.cells,c.leaf=Sm/\c.cc σ.ob=Sm:=by simpa using E
 have hc:=B.cells (λc hc=>(A c hc).1) (λi o e=>l _ (by rw[e]at q;exact q)) (λi s k e=>l _ (by rw[e]at q;exact q)) (λi e=>l _ (by rw[e]at q;exact q));exact⟨hc,ma hc (λc hc=>(A c hc).1) (λc hc i o e=>l _ (by have:=(A c hc).2;rw[e]at this;exact this)) (λc hc i s k e=>l _ (by have:=(A c hc).2;rw[e]at this;exact this)) (λc hc i e=>l _ (by have:=(A c hc).2;rw[e]at this;exact this))⟩
theorem SW.fill(A:SW C n σ a w m R)(place:Nat->Option (Nat×Nat)):∀(ps:List (Nat×Operand))(cells cs':List V)(arr:Array Value),RelL w m σ.av R cells arr.toList->
  eF place σ.ob cells (ps.map λp=>(p.1,σ.ev n p.2))=Sh cs'->∃arr',Instr.fill place arr (ps.map λp=>(p.1,a.eval p.2))=Sh arr'/\RelL w m σ.av R cs' arr'.toList
 | [],cells,cs',arr,hr,h=>by
   simp only[SD,eF,Rq]at h;subst h;exact⟨arr,O,hr⟩
 | (i,x)::ps,cells,cs',arr,hr,h=>by
   simp only[bP,eF]at h;split at h
   .cases h
   .rename_i off size hp;rw[Bool.cond_eq_ite]at h;split at h
    .rename_i hc;simp only[sh]at hc;obtain⟨⟨⟨B,D⟩,h3⟩,h4⟩:=hc;have B:=aJ B;have D:=Rz D;obtain⟨hcl,_⟩:=A.cellsOf (A.ev x) h3 h4;have E:=hcl.length;have u:=hr.length;simp only[RE]at E u;have l:=qO off (a.eval x).cells.toList arr 0 Vk;simp only[Uv]at l;obtain⟨arr',hf,hr'⟩:=SW.fill A place ps _ cs' (((a.eval x).cells.toList.zipIdx 0).foldl (λcs (x:Value×Nat)=>cs.setIfInBounds (off+x.2) x.1) arr) (by rw[l];exact hr.fX off hcl) h;refine⟨arr',?_,hr'⟩;simp only[bP,Instr.fill,hp];have q:((a.eval x).cells.size≠size||off+(a.eval x).cells.size>arr.size)=S1:=by
      simp only[R7,S8];exact⟨Vk,Vf⟩
     rw[q];simp only[Sz,Up];have:(a.eval x).cells.zipIdx.foldl (λcs (x:Value×Nat)=>cs.setIfInBounds (off+x.2) x.1) arr=((a.eval x).cells.toList.zipIdx 0).foldl (λcs (x:Value×Nat)=>cs.setIfInBounds (off+x.2) x.1) arr:=by
      rw[<-Array.foldl_toList];simp
     exact this▸hf
    .cases h
end
section
variable {C:Ctx}{n:Nat}{σ:St}{dst:Option Tmp}{ty t t':TypeId}{ts:Array TypeId}{pos:String}{after:Array Edge}{gd:Option (Nat×Bool)}{x y:Operand}
theorem mX{v:V}(l:σ.ev n x=v):XJ C n ⟨dst,.move x,ty,pos,after,gd⟩ σ ⟨v,[],[]⟩:=l▸lH
theorem qN{v:V}(l:σ.ev n x=v):XJ C n ⟨dst,.assign x,ty,pos,after,gd⟩ σ ⟨v,[],[]⟩:=l▸E1
theorem yi{o:Ob}(u:σ.ev n x= .ptr id off)(A:σ.ob id=Sh o)(q:o.real=Sm:=by rfl):XJ C n ⟨dst,.nilCheck x,ty,pos,after,gd⟩ σ ⟨.ptr id off,[],[]⟩:=
 .val λa w m R hw=>by
  obtain⟨b,N,he,hm,_⟩:=hw.ptr u A q;have l:=hw.ev x;rw[u]at l;exact⟨a.eval x,by simp[execOp,he],l⟩
theorem uk(u:σ.ev n x= .pv (.rp cs off)):XJ C n ⟨dst,.nilCheck x,ty,pos,after,gd⟩ σ ⟨.pv (.rp cs off),[],[]⟩:=
 .val λa w m R hw=>by
  have l:=hw.pv u;have q:=l;simp only[RelP]at q;obtain⟨b,o,us,he,_⟩:=q;exact⟨a.eval x,by simp[execOp,he],by simpa only[Rel]using l⟩
theorem lF{kc:IntKind}{ic:Int}(id k:Nat)(E:ElemIs C.P T e z size bytes)(G:z.cells.toList.map fC=zs)(hx:σ.ev n x= .pv (.int kl il))(hy:σ.ev n y= .pv (.int kc ic))(M:il=(k:Int))(U:ic=(k:Int))(hk:k<=1000000000)(W:σ.av id=Sm):
  XJ C n ⟨dst,.makeSlice T x y,ty,pos,after,gd⟩ σ ⟨.osl id size k,[(id,Sh (.cells e (mkZ zs (k*size))))],[id]⟩:=by
 subst M U;rintro a w Q ⟨m,R,hw⟩;obtain⟨i,hi,hz,hsize,hbytes⟩:=info_parts E.info;have H:(i.bytes:Int)*(k:Int)<=281474976710656:=by
  have Y:bytes*k<=1000*1000000000:=Sw E.by_ hk;rw[hbytes];have Z:((bytes*k:Nat):Int)<=((1000*1000000000:Nat):Int):=Int.ofNat_le.2 Y;rw[TZ]at Z;omega
 have q:=run_make (P:=C.P) w T e i z E.u hi hz kl kc k k Vf (Int.le_refl _) H Vf;simp only[RH,hsize]at q;have A:(execOp a.eval ⟨dst,.makeSlice T x y,ty,pos,after,gd⟩).run C.P w= .ok (.value (.slice (Sh ⟨w.heap.size,0,Sl⟩) k k)) (w.alloc (.cells (madeCells z.cells (k*size)) e)):=by
  simp only[execOp,hw.int hx,hw.int hy,Sem.run_bind,q,Result.andThen_ok,Sem.run_pure]
 unfold Oper.wp;rw[A];have B:(madeCells z.cells (k*size)).size=k*size:=size_madeCells _ _;refine⟨_,O,upd m id (Sh (w.heap.size,(madeCells z.cells (k*size)).size)),R,?_⟩;rw[Rc];refine SW.put (hw.alloc W _ e (.cells e (mkZ zs (k*size))) ?_) dst ?_
 .intro w' m' av' hR hm ha hb;have X:(mkZ zs (k*size)).length=k*size:=by simp[mkZ]
  refine⟨_,hb,O,by rw[X,B];exact BY _,?_⟩;rw[aQ (by rw[X];simp[B])];have I:zs.length=z.cells.size:=by rw[<-G];simp
  have J:∀l:List Nat,(∀j∈l,True)->RelPL w' R (l.map λi=>zs.getD (i%zs.length) .any) (l.map λi=>z.cells[i%z.cells.size]!):=by
   intro l;induction l with
   |nil=>intro _;simpa using RelPL.nil
   | cons j l ih=>
     intro _;simp only[bP];refine RelPL.cons ?_ (ih (λ_ _=>trivial));have D:0<z.cells.size:=by rw[E.zs];exact E.pos
     have L:j%z.cells.size<z.cells.size:=Ti _ D;rw[I,<-G];have e1:(z.cells.toList.map fC).getD (j%z.cells.size) .any=fC (z.cells[j%z.cells.size]!):=by
      simp[Rj,L]
     rw[e1];exact fc w' R _
  have:=J (List.range (k*size)) (λ_ _=>trivial);simpa[mkZ,madeCells]using this
 .simp only[Rel];refine⟨by simp[avL],λb N e=>?_⟩;rw[aA]at e;cases e;exact⟨k,O,BY _,by simp only[maxLen];omega,B⟩
structure BuiltIs(P:Program)(T:TypeId)(zs:List PV)(place:Nat->Option (Nat×Nat)):Prop where
 go:∃z:Value,z.cells.toList.map fC=zs/\∀parts,P.built T parts=Instr.fill place z.cells parts
theorem BuiltIs.struct{pl:List (Nat×Nat)}(A:(P.info? T).map (·.zero)=Sh (Sh z))(B:z.cells.toList.map fC=zs)(q:placesOf P T=Sh pl):BuiltIs P T zs (yv pl):=by
 refine⟨z,B,λu=>?_⟩;unfold placesOf at q;split at q
 .rename_i fs hu;cases hq:P.info? T with
  |none=>simp[hq]at A
  | some ti=>
    simp[hq]at A;have l:(λi=>pl.toArray[i]?)=yv pl:=by funext i;simp[yv]
    unfold Program.built;simp only[hq,hu,A,q,l]
 .cases q
theorem BuiltIs.array(B:P.underlying T=Sh (.array k e))(u:(P.info? T).map (·.zero)=Sh (Sh z))(A:z.cells.toList.map fC=zs)(l:bN P e s):BuiltIs P T zs (λi=>Sh (i*s,s)):=by
 refine⟨z,A,λq=>?_⟩;cases hq:P.info? T with
 |none=>simp[hq]at u
 | some ti=>
   simp[hq]at u;unfold bN at l;cases he:P.info? e with
   |none=>simp[he]at l
   | some ei=>
     simp[he]at l;unfold Program.built;simp only[hq,B,u,he,l]
theorem Iq(q:z.cells.toList.map fC=zs):RelPL w R zs z.cells.toList:=by
 rw[<-q];generalize z.cells.toList=l;induction l with
 |nil=>simpa using RelPL.nil
 |cons x l ih=>simpa using RelPL.cons (fc w R x) ih
theorem Ak{parts:Array (Nat×Operand)}{place:Nat->Option (Nat×Nat)}{cs':List V}(u:BuiltIs C.P T zs place)
  (A:eF place σ.ob (zs.map .pv) (parts.toList.map λp=>(p.1,σ.ev n p.2))=Sh cs'):
  XJ C n ⟨dst,.build T parts,ty,pos,after,gd⟩ σ ⟨.agg cs',[],[]⟩:=
 .val λa w m R hw=>by
  obtain⟨z,hzs,u⟩:=u.go;obtain⟨arr',hfill,hr'⟩:=hw.fill place parts.toList _ cs' z.cells (RelL.ofP (Iq hzs)) A;have l:(parts.map λx=>(x.1,a.eval x.2)).toList=parts.toList.map λp=>(p.1,a.eval p.2):=Vj
  have q:=run_build (P:=C.P) w T (parts.map λx=>(x.1,a.eval x.2)) arr' (by rw[u,l];exact hfill);refine⟨.agg arr',?_,?_⟩
  .simp only[execOp,Sem.run_bind,q,Result.andThen_ok,Sem.run_pure]
  .simp only[Rel];exact⟨arr'.toList,Vj,hr'⟩
def V.pvs:List V->Option (List PV)
 |[]=>Sh []
 | .pv p::vs=>match V.pvs vs with|some ps=>Sh (p::ps)|none=>Sl
 |_::_=>Sl
theorem V.vr:∀{vs:List V}{ps:List PV},V.pvs vs=Sh ps->vs=ps.map .pv
 |[],ps,h=>by simp only[V.pvs,Rq]at h;subst h;rfl
 | .pv p::vs,ps,h=>by
   simp only[V.pvs]at h;split at h
   .rename_i qs hq;simp at h;subst h;simp[V.vr hq]
   .cases h
 | .ptr _ _::_,_,h=>by simp[V.pvs]at h
 | .osl _ _ _::_,_,h=>by simp[V.pvs]at h
 | .tsl _ _ _::_,_,h=>by simp[V.pvs]at h
 | .gsl _ _ _::_,_,h=>by simp[V.pvs]at h
 | .map _::_,_,h=>by simp[V.pvs]at h
 | .agg _::_,_,h=>by simp[V.pvs]at h
 | .tup _::_,_,h=>by simp[V.pvs]at h
 | .fn _ _ _::_,_,h=>by simp[V.pvs]at h
theorem rN{parts:Array (Nat×Operand)}(id:Nat)(E:ElemIs C.P T e z size bytes)(I:z.cells.toList.map fC=zs)(hk:0<k)(hk2:k*size<=16777216)(W:σ.av id=Sm)
  {vs:List V} (Y:eF (λi=>Sh (i*size,size)) σ.ob ((mkZ zs (k*size)).map .pv) (parts.toList.map λp=>(p.1,σ.ev n p.2))=Sh vs) (X:V.pvs vs=Sh cs):
  XJ C n ⟨dst,.buildSlice T k parts,ty,pos,after,gd⟩ σ ⟨.osl id size k,[(id,Sh (.cells e cs))],[id]⟩:=by
 rintro a w Q ⟨m,R,hw⟩;obtain rfl:=V.vr X;obtain⟨i,hi,hz,hsize,hbytes⟩:=info_parts E.info;have J:zs.length=z.cells.size:=by rw[<-I];simp
 have L:∀l:List Nat,RelPL w R (l.map λi=>zs.getD (i%zs.length) .any) (l.map λi=>z.cells[i%z.cells.size]!):=by
  intro l;induction l with
  |nil=>simpa using RelPL.nil
  | cons j l ih=>
    simp only[bP];refine RelPL.cons ?_ ih;have B:0<z.cells.size:=by rw[E.zs];exact E.pos
    have M:j%z.cells.size<z.cells.size:=Ti _ B;rw[J,<-I];have Z:(z.cells.toList.map fC).getD (j%z.cells.size) .any=fC (z.cells[j%z.cells.size]!):=by
     simp[Rj,M]
    rw[Z];exact fc w R _
 have h0:RelPL w R (mkZ zs (k*size)) ((Array.range (k*size)).map (z.cells[· %z.cells.size]!)).toList:=by
  have:=L (List.range (k*size));simpa[mkZ]using this
 obtain⟨arr',hfill,hr'⟩:=hw.fill (λi=>Sh (i*size,size)) parts.toList _ _ _ (RelL.ofP h0) Y;have G:=hr'.toP;have A:(parts.map λx=>(x.1,a.eval x.2)).toList=parts.toList.map λp=>(p.1,a.eval p.2):=Vj
 have B:0<k*size:=U6 hk E.pos;have H:=run_buildSlice (P:=C.P) w T e k (parts.map λx=>(x.1,a.eval x.2)) arr' i z E.u hi hz (by rw[hsize];omega) (by rw[hsize];omega) (by rw[A,hsize];exact hfill);have hcl:cs.length=k*size:=by
  have:∀(l:List (Nat×V))(cells cs':List V),eF (λi=>Sh (i*size,size)) σ.ob cells l=Sh cs'->cs'.length=cells.length:=by
   intro l;induction l with
   |nil=>intro cells cs' h;simp only[eF,Rq]at h;rw[h]
   | cons p l ih=>
     obtain⟨q,v⟩:=p;intro cells cs' h;simp only[eF]at h;rw[Bool.cond_eq_ite]at h;split at h
     .rename_i hc;simp only[sh]at hc;rw[ih _ _ h,bJ];have h1:=aJ hc.1.1.1;have h2:=Rz hc.1.1.2;omega
     .cases h
  have:=this _ _ _ Y;simpa[mkZ]using this
 have D:(execOp a.eval ⟨dst,.buildSlice T k parts,ty,pos,after,gd⟩).run C.P w= .ok (.value (.slice (Sh ⟨w.heap.size,0,Sl⟩) k k)) (w.alloc (.cells arr' e)):=by
  simp only[execOp,Sem.run_bind,H,Result.andThen_ok,Sem.run_pure]
 unfold Oper.wp;rw[D];have U:arr'.size=k*size:=by have:=G.length;simp at this;omega
 refine⟨_,O,upd m id (Sh (w.heap.size,arr'.size)),R,?_⟩;rw[Rc];refine SW.put (hw.alloc W _ e (.cells e cs) ?_) dst ?_
 .intro w' m' av' hR hm ha hb;refine⟨_,hb,O,Vf,?_⟩;rw[aQ Vk];exact G.mono hR
 .simp only[Rel];refine⟨by simp[avL],λb N e=>?_⟩;rw[aA]at e;cases e;have:k<=k*size:=Nat.le_mul_of_pos_right k E.pos;exact⟨k,O,BY _,by simp only[maxLen];omega,U⟩
theorem wM{f:Fn}{fs cs:Array Operand}:XJ C n ⟨dst,.makeFunc f fs cs,ty,pos,after,gd⟩ σ ⟨.fn f (fs.toList.map (σ.ev n)) (cs.toList.map (σ.ev n)),[],[]⟩:=
 .val λa w m R hw=>by
  refine⟨.func f (fs.map a.eval) (cs.map a.eval),by simp[execOp,Instr.makeFunc],?_⟩;simp only[Rel];exact⟨_,_,by simp only[<-Array.toList_map,Array.toArray_toList],hw.evs fs.toList,hw.evs cs.toList⟩
end
def V.plain:V->Bool
 | .pv _=>Sm
 |_=>S1
theorem pK{ob ob':Nat->Option Ob}:∀{v:V},v.plain=Sm->v.cc ob=v.cc ob'
 | .pv _,_=>rfl
theorem pB{place:Nat->Option (Nat×Nat)}{ob ob':Nat->Option Ob}:∀(l:List (Nat×V))(cells:List V),(l.all λp=>p.2.plain||p.2.cells.all V.plain&&(match p.2 with| .agg _=>Sm|_=>S1))=Sm->eF place ob cells l=eF place ob' cells l
 |[],_,_=>rfl
 | (i,v)::l,cells,h=>by
   simp only[TG,sh]at h;simp only[eF];have hv:(v.cells.all (λc=>c.leaf&&c.cc ob)&&v.cc ob)=(v.cells.all (λc=>c.leaf&&c.cc ob')&&v.cc ob'):=by
    cases v with
    | pv p=>
      have:∀c∈V.cells (.pv p),c.cc ob=c.cc ob':=by
       intro c hc;cases p with
       | agg ps=>
         simp only[V.cells,By]at hc;obtain⟨q,_,rfl⟩:=hc;rfl
       |_=>simp only[V.cells,Rn]at hc;subst hc;rfl
      have e:(V.cells (.pv p)).all (λc=>c.leaf&&c.cc ob)=(V.cells (.pv p)).all (λc=>c.leaf&&c.cc ob'):=by
       rw[RJ,Ri,Ri];exact⟨λh c hc=>by rw[<-this c hc];exact h c hc,λh c hc=>by rw[this c hc];exact h c hc⟩
      rw[e];rfl
    | agg cs=>
      have u:cs.all V.plain=Sm:=by simpa[V.plain,V.cells]using h.1
      have e:cs.all (λc=>c.leaf&&c.cc ob)=cs.all (λc=>c.leaf&&c.cc ob'):=by
       rw[RJ,Ri,Ri];exact⟨λh c hc=>by rw[<-pK (Ri.1 u c hc)];exact h c hc,λh c hc=>by rw[pK (ob':=ob') (Ri.1 u c hc)];exact h c hc⟩
      simp only[V.cells,e];rfl
    |_=>simp[V.plain]at h
   have ih:=λc=>pB (place:=place) (ob:=ob) (ob':=ob') l c h.2
   split
   .rfl
   .rw[Bool.and_assoc,hv,<-Bool.and_assoc];simp only[ih]
section
variable {n:Nat}{ops:Array Oper}{σ τ:St}{s:OS}{rd:List Nat}{dst:Option Tmp}{ty:TypeId}{pos:String}{after:Array Edge}{gd:Option (Nat×Bool)}{T:TypeId}{parts:Array (Nat×Operand)}{place:Nat->Option (Nat×Nat)}{cells cs':List V}
theorem Agr.Er(h:Agr n ops ⟨dst,.buildSlice T k parts,ty,pos,after,gd⟩ σ τ s rd)(l:((parts.toList.map λp=>(p.1,σ.ev n p.2)).all λp=>p.2.plain||p.2.cells.all V.plain&&(match p.2 with| .agg _=>Sm|_=>S1))=Sm)
  (q:eF place σ.ob cells (parts.toList.map λp=>(p.1,σ.ev n p.2))=Sh cs'):eF place τ.ob cells (parts.toList.map λp=>(p.1,τ.ev n p.2))=Sh cs':=by
 rw[h.O2,pB (ob':=σ.ob) _ _ l];exact q
end
end
section
mutual
def V.ren(ρ:Nat->Nat):V->V
 | .pv p=> .pv p
 | .ptr i o=> .ptr (ρ i) o
 | .osl i s k=> .osl (ρ i) s k
 | .tsl i o k=> .tsl (ρ i) o k
 | .gsl i s k=> .gsl (ρ i) s k
 | .map i=> .map (ρ i)
 | .agg cs=> .agg (V.renL ρ cs)
 | .tup cs=> .tup (V.renL ρ cs)
 | .fn f a b=> .fn f (V.renL ρ a) (V.renL ρ b)
def V.renL(ρ:Nat->Nat):List V->List V
 |[]=>[]
 |c::cs=>V.ren ρ c::V.renL ρ cs
end
def Ob.ren(ρ:Nat->Nat):Ob->Ob
 | .cells t cs=> .cells t cs
 | .mix t cs=> .mix t (V.renL ρ cs)
 | .gro t cs=> .gro t cs
 | .mp ks vs=> .mp ks vs
 | .it s p=> .it s p
 | .fro s p=> .fro s p
 | .mi c ks vs=> .mi c ks vs
theorem Ob.jo(ρ:Nat->Nat):∀o:Ob,(o.ren ρ).real=o.real
 | .cells _ _=>rfl
 | .mix _ _=>rfl
 | .gro _ []=>rfl
 | .gro _ (_::_)=>rfl
 | .mp _ _=>rfl
 | .it _ _=>rfl
 | .fro _ _=>rfl
 | .mi _ _ _=>rfl
theorem uP(ρ:Nat->Nat):∀o:Option Ob,bI (o.map (Ob.ren ρ))=bI o
 |none=>rfl
 |some o=>Ob.jo ρ o
mutual
def V.all(p:Nat->Bool):V->Bool
 | .pv _=>Sm
 | .ptr i _=>p i
 | .osl i _ _=>p i
 | .tsl i _ _=>p i
 | .gsl i _ _=>p i
 | .map i=>p i
 | .agg cs=>V.allL p cs
 | .tup cs=>V.allL p cs
 | .fn _ a b=>V.allL p a&&V.allL p b
def V.allL(p:Nat->Bool):List V->Bool
 |[]=>Sm
 |c::cs=>V.all p c&&V.allL p cs
end
def Ob.all(p:Nat->Bool):Ob->Bool
 | .cells _ _=>Sm
 | .mix _ cs=>V.allL p cs
 | .gro _ _=>Sm
 | .mp _ _=>Sm
 | .it _ _=>Sm
 | .fro _ _=>Sm
 | .mi _ _ _=>Sm
section
variable {w:World}{R:Nat->Prop}
mutual
theorem Rel.ren{m':Gm}{av av':Av}(ρ:Nat->Nat)(p:Nat->Bool)(l:∀i x,p i=Sm->m' (ρ i)=Sh x->m i=Sh x)(B:∀i,p i=Sm->av i=S1->av' (ρ i)=S1):
  ∀(v:V)(u:Value),v.all p=Sm->Rel w m av R v u->Rel w m' av' R (v.ren ρ) u
 | .pv q,u,_,h=>by simpa only[Rel,V.ren]using h
 | .ptr i o,_,hp,h=>by simp only[V.all]at hp;simp only[Rel,V.ren]at h ⊢; exact⟨B i hp h.1,λb N e=>h.2 b N (l i _ hp e)⟩
 | .osl i s k,_,hp,h=>by simp only[V.all]at hp;simp only[Rel,V.ren]at h ⊢; exact⟨B i hp h.1,λb N e=>h.2 b N (l i _ hp e)⟩
 | .tsl i s k,_,hp,h=>by
   simp only[V.all]at hp;simp only[Rel,V.ren]at h ⊢;obtain⟨h0,A,c,e,h1⟩:=h;exact⟨B i hp h0,A,c,e,λhq b N e=>h1 hq b N (l i _ hp e)⟩
 | .gsl i s k,_,hp,h=>by
   simp only[V.all]at hp;simp only[Rel,V.ren]at h ⊢;obtain⟨h0,A,c,e,h1,h2,h3,h4⟩:=h;exact⟨B i hp h0,A,c,e,h1,h2,λD=>⟨(h3 D).1,(h3 D).2.1,nI (λx=>l i x hp) (h3 D).2.2⟩,λhk b N e=>h4 hk b N (l i _ hp e)⟩
 | .map i,_,hp,h=>by simp only[V.all]at hp;simp only[Rel,V.ren]at h ⊢; exact⟨B i hp h.1,λb N e=>h.2 b N (l i _ hp e)⟩
 | .agg cs,_,hp,h=>by
   simp only[V.all]at hp;simp only[Rel,V.ren]at h ⊢;obtain⟨us,e,h⟩:=h;exact⟨us,e,RelL.ren ρ p l B cs us hp h⟩
 | .tup cs,_,hp,h=>by
   simp only[V.all]at hp;simp only[Rel,V.ren]at h ⊢;obtain⟨us,e,h⟩:=h;exact⟨us,e,RelL.ren ρ p l B cs us hp h⟩
 | .fn f a b,_,hp,h=>by
   simp only[V.all,sh]at hp;simp only[Rel,V.ren]at h ⊢;obtain⟨us,vs,e,h1,h2⟩:=h;exact⟨us,vs,e,RelL.ren ρ p l B a us hp.1 h1,RelL.ren ρ p l B b vs hp.2 h2⟩
theorem RelL.ren{m':Gm}{av av':Av}(ρ:Nat->Nat)(p:Nat->Bool)(l:∀i x,p i=Sm->m' (ρ i)=Sh x->m i=Sh x)(q:∀i,p i=Sm->av i=S1->av' (ρ i)=S1):
  ∀(vs:List V)(us:List Value),V.allL p vs=Sm->RelL w m av R vs us->RelL w m' av' R (V.renL ρ vs) us
 |[],_,_,h=>by simpa only[RelL,V.renL]using h
 | c::cs,_,hp,h=>by
   simp only[V.allL,sh]at hp;simp only[RelL,V.renL]at h ⊢;obtain⟨u,us,e,h1,h2⟩:=h;exact⟨u,us,e,Rel.ren ρ p l q c u hp.1 h1,RelL.ren ρ p l q cs us hp.2 h2⟩
end
mutual
theorem Rel.gx{m':Gm}{av av':Av}(ρ:Nat->Nat)(p:Nat->Bool)(l:∀i x,p i=Sm->m i=Sh x->m' (ρ i)=Sh x)(B:∀i,p i=Sm->av i=S1):
  ∀(v:V)(u:Value),v.all p=Sm->Rel w m' av' R (v.ren ρ) u->Rel w m av R v u
 | .pv q,u,_,h=>by simpa only[Rel,V.ren]using h
 | .ptr i o,_,hp,h=>by simp only[V.all]at hp;simp only[Rel,V.ren]at h ⊢; exact⟨B i hp,λb N e=>h.2 b N (l i _ hp e)⟩
 | .osl i s k,_,hp,h=>by simp only[V.all]at hp;simp only[Rel,V.ren]at h ⊢; exact⟨B i hp,λb N e=>h.2 b N (l i _ hp e)⟩
 | .tsl i s k,_,hp,h=>by
   simp only[V.all]at hp;simp only[Rel,V.ren]at h ⊢;obtain⟨h0,A,c,e,h1⟩:=h;exact⟨B i hp,A,c,e,λhq b N e=>h1 hq b N (l i _ hp e)⟩
 | .gsl i s k,_,hp,h=>by
   simp only[V.all]at hp;simp only[Rel,V.ren]at h ⊢;obtain⟨h0,A,c,e,h1,h2,h3,h4⟩:=h;exact⟨B i hp,A,c,e,h1,h2,λD=>⟨(h3 D).1,(h3 D).2.1,nI (λx=>l i x hp) (h3 D).2.2⟩,λhk b N e=>h4 hk b N (l i _ hp e)⟩
 | .map i,_,hp,h=>by simp only[V.all]at hp;simp only[Rel,V.ren]at h ⊢; exact⟨B i hp,λb N e=>h.2 b N (l i _ hp e)⟩
 | .agg cs,_,hp,h=>by
   simp only[V.all]at hp;simp only[Rel,V.ren]at h ⊢;obtain⟨us,e,h⟩:=h;exact⟨us,e,RelL.gx ρ p l B cs us hp h⟩
 | .tup cs,_,hp,h=>by
   simp only[V.all]at hp;simp only[Rel,V.ren]at h ⊢;obtain⟨us,e,h⟩:=h;exact⟨us,e,RelL.gx ρ p l B cs us hp h⟩
 | .fn f a b,_,hp,h=>by
   simp only[V.all,sh]at hp;simp only[Rel,V.ren]at h ⊢;obtain⟨us,vs,e,h1,h2⟩:=h;exact⟨us,vs,e,RelL.gx ρ p l B a us hp.1 h1,RelL.gx ρ p l B b vs hp.2 h2⟩
theorem RelL.gx{m':Gm}{av av':Av}(ρ:Nat->Nat)(p:Nat->Bool)(l:∀i x,p i=Sm->m i=Sh x->m' (ρ i)=Sh x)(q:∀i,p i=Sm->av i=S1):
  ∀(vs:List V)(us:List Value),V.allL p vs=Sm->RelL w m' av' R (V.renL ρ vs) us->RelL w m av R vs us
 |[],_,_,h=>by simpa only[RelL,V.renL]using h
 | c::cs,_,hp,h=>by
   simp only[V.allL,sh]at hp;simp only[RelL,V.renL]at h ⊢;obtain⟨u,us,e,h1,h2⟩:=h;exact⟨u,us,e,Rel.gx ρ p l q c u hp.1 h1,RelL.gx ρ p l q cs us hp.2 h2⟩
end
theorem lz.ren{m':Gm}{av av':Av}(ρ:Nat->Nat)(p:Nat->Bool)(u:∀i x,p i=Sm->m' (ρ i)=Sh x->m i=Sh x)(A:∀i,p i=Sm->av i=S1->av' (ρ i)=S1){o:Ob}(q:o.all p=Sm)(h:lz w m av R b N o):lz w m' av' R b N (o.ren ρ):=by
 cases o with
 |cells ty cs=>exact h
 |gro ty cs=>exact h
 |mp ks vs=>exact h
 |it s p=>exact h
 |fro s p=>exact h
 |mi c ks vs=>exact h
 | mix ty cs=>
   obtain⟨arr,h1,h2,h3,h4⟩:=h;have l:(V.renL ρ cs).length=cs.length:=by
    clear q h3 h4;induction cs with
    |nil=>rfl
    |cons c cs ih=>simp[V.renL,ih]
   exact⟨arr,h1,h2,by rw[l];exact h3,by rw[l];exact h4.ren ρ p u A _ _ q⟩
theorem lz.gx{m':Gm}{av av':Av}(ρ:Nat->Nat)(p:Nat->Bool)(u:∀i x,p i=Sm->m i=Sh x->m' (ρ i)=Sh x)(A:∀i,p i=Sm->av i=S1){o:Ob}(l:o.all p=Sm)(h:lz w m' av' R b N (o.ren ρ)):lz w m av R b N o:=by
 cases o with
 |cells ty cs=>exact h
 |gro ty cs=>exact h
 |mp ks vs=>exact h
 |it s p=>exact h
 |fro s p=>exact h
 |mi c ks vs=>exact h
 | mix ty cs=>
   obtain⟨arr,h1,h2,h3,h4⟩:=h;have q:(V.renL ρ cs).length=cs.length:=by
    clear l h3 h4;induction cs with
    |nil=>rfl
    |cons c cs ih=>simp[V.renL,ih]
   rw[q]at h3 h4;exact⟨arr,h1,h2,h3,h4.gx ρ p u A _ _ l⟩
end
def okR(k k':Nat):Nat->Bool:=λi=>Nat.blt i k'||(Nat.ble big i&&Nat.blt i (big+k))
def cS:List V->V
 |[v]=>v
 |vs=> .tup vs
def cU:Nat->List V->List (Nat×V)
 |_,[]=>[]
 |k,p::ps=>(k,p)::cU (k+1) ps
def FnO(P:Program)(f:FuncId)(k k':Nat)(args:List V)(os:List (Nat×Ob))(Q:V->(Nat->Option Ob)->Prop):Prop:=
 ∀(w:World)(m:Gm)(R:RT w (dG m))(us:List Value),HR ⟨P,m,w,dG m,R⟩ m R.p (ax os) (avK 0) w->RelL w m (avK 0) R.p args us->
  Calls P f us.toArray w λe w'=>∃u v ob' m' R',e= .returned u/\Q v ob'/\v.all (okR k k')=Sm/\(∀i o,ob' i=Sh o->okR k k' i=Sm/\o.all (okR k k')=Sm)/\HR ⟨P,m,w,dG m,R⟩ m' R' ob' (avK k') w'/\Rel w' m' (avK k') R' v u
def retO(fn:Func)(n k k':Nat)(Q:V->(Nat->Option Ob)->Prop):Exit->St->Prop
 | .ret,σ| .normal,σ=>∃l os' vs,σ.le (mkS l os' k')/\yT n (mkS l os' k') fn.results.toList=Sh vs/\V.allL (okR k k') vs=Sm/\os'.all (λp=>okR k k' p.1&&p.2.all (okR k k'))=Sm/\Q (cS vs) (ax os')
 |_,_=>False
theorem bG:∀{os:List (Nat×Ob)}{i:Nat}{o:Ob},ax os i=Sh o->(i,o)∈os
 |[],_,_,h=>by simp[ax]at h
 | (d,v)::os,i,o,h=>by
   simp only[ax]at h;cases hb:Nat.beq i d with
   |true=>rw[hb]at h;simp at h;have:=aJ hb;subst this;subst h;simp
   |false=>rw[hb]at h;exact RX _ (bG (by simpa using h))
theorem o8{av:Av}{vs:List V}{us:List Value}(h:RelL w m av R vs us):Rel w m av R (cS vs) (if h:us.toArray.size=1 then us.toArray[0]else .tuple us.toArray):=by
 have l:=h.length;cases vs with
 | nil=>
   simp only[RelL]at h;subst h;simp only[cS,Rel];exact⟨[],Vj,RelL.nil⟩
 | cons p ps=>
   cases ps with
   | nil=>
     simp only[RelL]at h;obtain⟨u,vs',rfl,h5,rfl⟩:=h;simpa[cS]using h5
   | cons p2 ps=>
     simp only[cS,Rel];refine⟨us,?_,h⟩;rw[dif_neg (by simp at l ⊢; omega)]
theorem kn{p:Nat->Bool}{vs:List V}(h:V.allL p vs=Sm):(cS vs).all p=Sm:=by
 cases vs with
 |nil=>rfl
 | cons a l=>
   cases l with
   |nil=>simpa[cS,V.allL]using h
   |cons b l=>simpa[cS,V.all]using h
theorem FnO.of{fn:Func}{k':Nat}{args:List V}{os:List (Nat×Ob)}{Q:V->(Nat->Option Ob)->Prop}(I:P.funcs[f]? =Sh fn)(G:fn.body=Sh c)(U:fn.ntmps=n)(L:args.length<=n)
  (h:∀m0 w0 F R0,AW ⟨P,m0,w0,F,R0⟩ n c (retO fn n k k' Q) (mkS (cU 0 args) os 0)):FnO P f k k' args os Q:=by
 intro w m R us hHR hrel;refine calls_of_wp I G ?_;have M:=hrel.length;obtain⟨R1,hp1,hd1⟩:∃R1:RT w (dG m),R1.p=R.p/\R1.df=[]:=⟨⟨R.p,R.g,R.d,[]⟩,O,O⟩;have B:SJ ⟨P,m,w,dG m,R1⟩ n (mkS (cU 0 args) os 0) { tmps:=us.toArray++Array.replicate (fn.ntmps-us.toArray.size) undef,defers:=[] } w:=by
  refine⟨m,R.p,⟨hHR.dfs hp1,hd1.symm,Vk,?_⟩⟩;intro t ht;show Rel w m (avK 0) R.p (look (cU 0 args) t) ((us.toArray++Array.replicate (fn.ntmps-us.toArray.size) undef).getD t undef);have H:∀(ps:List V)(vs:List Value)(k:Nat),RelL w m (avK 0) R.p ps vs->k<=t->∀z:Value,Rel w m (avK 0) R.p (look (cU k ps) t) (vs[t-k]?.getD z):=by
   intro ps;induction ps with
   |nil=>intro vs k _ _ z;simp only[cU,look,Rel,RelP]
   | cons p ps ih=>
     intro vs k hr hk z;simp only[RelL]at hr;obtain⟨u,vs',rfl,h1,h2⟩:=hr;simp only[cU,look];by_cases e:t=k
     .subst e;simp only[Ug,Sy,Ux];simpa using h1
     .have G:Nat.beq t k=S1:=by cases G:Nat.beq t k;rfl;exact absurd (aJ G) e
      rw[G];have:=ih vs' (k+1) h2 Vf z;have J:t-k=(t-(k+1))+1:=Vf;rw[J];simpa using this
  have:=H args us 0 hrel (cd _) undef;simp only[UU]at this;rw[Sf,UQ];by_cases e:t<us.length
  .simpa[e]using this
  .rw[SF Vf]at this;simp only[RB,e,Up,TJ];split<;>simpa using this
 have A:=(h m w (dG m) R1).go _ w B;refine wp_mono A ?_;rintro ex a' w' ⟨σ',hq,hsj⟩;have D:∀l os' vs,σ'.le (mkS l os' k')->yT n (mkS l os' k') fn.results.toList=Sh vs->V.allL (okR k k') vs=Sm->os'.all (λp=>okR k k' p.1&&p.2.all (okR k k'))=Sm->Q (cS vs) (ax os')->
   a'.defers=[]/\∃v,(results fn a'.tmps).run P w'= .ok v w'/\∃u v_1 ob' m' R',Ending.returned v= .returned u/\Q v_1 ob'/\v_1.all (okR k k')=Sm/\(∀i o,ob' i=Sh o->okR k k' i=Sm/\o.all (okR k k')=Sm)/\HR ⟨P,m,w,dG m,R⟩ m' R' ob' (avK k') w'/\Rel w' m' (avK k') R' v_1 u:=by
  intro l os' vs h1 h2 h3 h4 h5;obtain⟨m2,R2,hw⟩:=h1 _ _ _ _ hsj;have E:=rE hw h2;have q:=λf I=>rQ (a:=a') w' P f I h2
  generalize fn.results.toList.map (Pa a')=us' at E q;refine⟨hw.df.trans hd1,(if h:us'.toArray.size=1 then us'.toArray[0]else .tuple us'.toArray),?_,?_⟩
  .unfold results;rw[Array.mapM_eq_mapM_toList];simp only[Sem.run_bind,Sem.run_map];rw[q _ (λt=>rfl)];rfl
  .refine⟨_,cS vs,ax os',m2,R2,O,h5,kn h3,?_,hw.hr.dfs hp1.symm,o8 E⟩;intro i o hio;have:=Ri.1 h4 (i,o) (bG hio);simpa using this
 cases ex with
 |normal=>obtain⟨l,os',vs,h1,h2,h3,h4,h5⟩:=hq;exact D l os' vs h1 h2 h3 h4 h5
 |ret=>obtain⟨l,os',vs,h1,h2,h3,h4,h5⟩:=hq;exact D l os' vs h1 h2 h3 h4 h5
 |_=>exact hq.elim
def dV(ids:List Nat)(base:Nat)(i:Nat):Nat:=bif Nat.ble big i then ids.getD (i-big) 0 else base+i
def wrO(ids:List Nat)(base k':Nat)(ob':Nat->Option Ob):List (Nat×Option Ob):=
 ids.zipIdx.map (λp=>(p.1,(ob' (big+p.2)).map (Ob.ren (dV ids base))))++(List.range k').map (λi=>(base+i,(ob' i).map (Ob.ren (dV ids base))))
def nwO(base k':Nat):List Nat:=(List.range k').map (base+ ·)
def lkL{β:Type}:List (Nat×β)->(Nat->β)->Nat->β
 |[],f,id=>f id
 |(i,o)::l,f,id=>bif Nat.beq id i then o else lkL l f id
theorem LR:∀(l:List (Nat×Option Ob))(f:Nat->Option Ob),obL l f=lkL l f
 |[],f=>rfl
 |(i,o)::l,f=>by funext id;simp only[obL,lkL,LR l f]
theorem su:∀(l:List (Nat×β))(f:Nat->β)(id:Nat),id∉l.map (·.1)->lkL l f id=f id
 |[],_,_,_=>rfl
 | (i,o)::l,f,id,h=>by
   simp only[bP,AS,not_or]at h;have hb:Nat.beq id i=S1:=by cases hb:Nat.beq id i;rfl;exact absurd (aJ hb) h.1
   simp only[lkL,hb,RR];exact su l f id h.2
theorem sv:∀(l l':List (Nat×β))(f:Nat->β),lkL (l++l') f=lkL l (lkL l' f)
 |[],_,_=>rfl
 |(i,o)::l,l',f=>by funext id;simp only[SN,lkL,sv l l' f]
theorem G0(g:Nat->β)(f:Nat->β):∀(ids:List Nat)(k i:Nat)(id:Nat),ids.Nodup->ids[i]? =Sh id->lkL ((ids.zipIdx k).map λp=>(p.1,g p.2)) f id=g (k+i)
 |[],_,_,_,_,h=>by simp at h
 | q::ids,k,i,id,hn,h=>by
   simp only[U1,bP,lkL];cases i with
   |zero=>simp at h;subst h;simp
   | succ i=>
     simp at h;have hne:id≠q:=λe=>by subst e;exact(Sx.1 hn).1 (SC h)
     have l:Nat.beq id q=S1:=by cases l:Nat.beq id q;rfl;exact absurd (aJ l) hne
     rw[l];simp only[RR];rw[G0 g f ids (k+1) i id (Sx.1 hn).2 h]
     congr 1
     omega
theorem Dd(g:Nat->β)(f:Nat->β)(base k' i:Nat)(A:i<k'):lkL ((List.range k').map λi=>(base+i,g i)) f (base+i)=g i:=by
 have u:∀(l:List Nat),i∈l->lkL (l.map λi=>(base+i,g i)) f (base+i)=g i:=by
  intro l;induction l with
  |nil=>intro h;simp at h
  | cons q l ih=>
    intro h;simp only[bP,lkL];by_cases e:i=q
    .subst e;simp
    .have hb:Nat.beq (base+i) (base+q)=S1:=by cases hb:Nat.beq (base+i) (base+q);rfl;have:=aJ hb;omega
     rw[hb];simp only[RR];exact ih (by simpa[e]using h)
 exact u _ (by simpa using A)
end
variable{Q:V->(Nat->Option Ob)->Prop}
section
def fO(σ:St)(ρ:Nat->Nat):List (Nat×Ob)->Prop
 |[]=>True
 |(i,o)::l=>σ.ob (ρ i)=Sh (o.ren ρ)/\fO σ ρ l
theorem eQ:∀{os:List (Nat×Ob)},fO σ ρ os->∀i o,(i,o)∈os->σ.ob (ρ i)=Sh (o.ren ρ)
 |[],_,i,o,h=>by simp at h
 | (d,v)::os,h,i,o,hm=>by
   rcases AS.1 hm with e|hm
   .cases e;exact h.1
   .exact eQ h.2 i o hm
theorem mr:∀{os:List (Nat×Ob)}{i:Nat},i∈os.map (·.1)->∃o,ax os i=Sh o
 |[],_,h=>by simp at h
 | (d,v)::os,i,h=>by
   simp only[ax];cases hb:Nat.beq i d with
   |true=>exact⟨v,O⟩
   | false=>
     simp only[bP,AS]at h;rcases h with e|h
     .subst e;simp at hb
     .simpa using mr h
section
variable {C:Ctx}{n:Nat}{σ:St}
theorem qh{args:List V}{os:List (Nat×Ob)}{k':Nat}(ids:List Nat)(base:Nat)
  (ha:V.allL (okR ids.length 0) args=Sm) (hos:os.map (·.1)=(List.range ids.length).map (big+ ·)) (hob:os.all (λp=>p.2.all (okR ids.length 0))=Sm) (hobs:fO σ (dV ids base) os)
  (hnd:ids.Nodup) (hav:(nwO base k').all σ.av=Sm) (hf:FnO C.P f ids.length k' args os Q)
  (hk:∀v ob',Q v ob'->K (σ.app dst ⟨v.ren (dV ids base),wrO ids base k' ob',nwO base k'⟩))
  {a:Act} {w:World} {m:Gm} {R:Nat->Prop} (D:SW C n σ a w m R) {us:List Value} (hus:RelL w m σ.av R (V.renL (dV ids base) args) us):
  Calls C.P f us.toArray w λe w'=>∃u,e= .returned u/\∃σ',K σ'/\SJ C n σ' (a.put dst u) w':=by
 have ρb:∀j,dV ids base (big+j)=ids.getD j 0:=λj=>by
  have:Nat.ble big (big+j)=Sm:=TP (TH _ _);simp only[dV,this,Sy,Nat.add_sub_cancel_left]
 have ρj:∀(j id:Nat),ids[j]? =Sh id->dV ids base (big+j)=id:=λj id h=>by rw[ρb,Rj,h];rfl
 have ρn:∀i,i<big->dV ids base i=base+i:=λi hi=>by
  have:Nat.ble big i=S1:=by cases M:Nat.ble big i;rfl;have:=Rz M;omega
  simp only[dV,this,RR]
 have keyS:∀i o,ax os i=Sh o->∃j id:Nat,i=big+j/\ids[j]? =Sh id:=by
  intro i o h;have:i∈os.map (·.1):=By.2 ⟨(i,o),bG h,O⟩;rw[hos]at this;obtain⟨j,hj,rfl⟩:=By.1 this;have B:j<ids.length:=by simpa using hj
  exact⟨j,ids[j],O,Hj B⟩
 have keyI:∀(j id:Nat),ids[j]? =Sh id->∃o,ax os (big+j)=Sh o:=by
  intro j id h;apply mr;rw[hos];exact By.2 ⟨j,by simpa using(Rp.1 h).1,O⟩
 have obs:∀i o,ax os i=Sh o->σ.ob (dV ids base i)=Sh (o.ren (dV ids base)):=λi o h=>eQ hobs i o (bG h)
 have Z:∀(j id:Nat),ids[j]? =Sh id->(∀o,ax os (big+j)=Sh o->(m id).isSome=o.real)/\σ.av id=S1:=by
  intro j id h;refine⟨λo H=>?_,?_⟩
  .have l:=obs _ _ H;rw[ρj j id h]at l;rw[D.hr.dom,l];exact Ob.jo _ o
  obtain⟨o,H⟩:=keyI j id h;have l:=obs _ _ H;rw[ρj j id h]at l;cases M:σ.av id
  .rfl
  .rw[D.hr.free id M]at l;cases l
 have nwav:∀i,i<k'->σ.av (base+i)=Sm:=λi hi=>Ri.1 hav _ (By.2 ⟨i,by simpa using hi,O⟩)
 have nwids:∀i,i<k'->(base+i)∉ids:=λi hi hmem=>by
  obtain⟨j,hj⟩:=SU hmem;have:=(Z j _ hj).2;rw[nwav i hi]at this;cases this
 have J:∀i,i<k'->base+i<big:=λi hi=>by
  rcases Uw (base+i) big with h|h
  .exact h
  .have:=D.hr.res _ h;rw[nwav i hi]at this;cases this
 have aa:∀i,okR ids.length k' i=Sm->(i<k'/\i<big/\dV ids base i=base+i)\/∃j id:Nat,i=big+j/\ids[j]? =Sh id:=by
  intro i hi;simp only[okR,Sg,sh]at hi;rcases hi with h|⟨l,A⟩
  .have h:i<k':=by simpa[Tw]using h
   have M:i<big:=by have:=J i h;omega
   exact .inl ⟨h,M,ρn i M⟩
  .have l:=Rz l;have A:i<big+ids.length:=by simpa[Tw]using A
   refine .inr ⟨i-big,ids[i-big]'Vf,Vf,Hj _⟩
 have U:∀i,okR ids.length 0 i=Sm->∃j id:Nat,i=big+j/\ids[j]? =Sh id:=by
  intro i hi;simp only[okR,Sg,sh]at hi;rcases hi with h|⟨l,A⟩
  .simp[Nat.blt]at h
  .have l:=Rz l;have A:i<big+ids.length:=by simpa[Tw]using A
   exact⟨i-big,ids[i-big]'Vf,Vf,Hj _⟩
 let mc:Gm:=λi=>if(ax os i).isSome then m (dV ids base i)else Sl
 have Y:∀i x,mc i=Sh x->∃j id:Nat,i=big+j/\ids[j]? =Sh id/\m id=Sh x:=by
  intro i x h;simp only[mc]at h;split at h
  .rename_i hs;obtain⟨o,H⟩:=RQ.1 hs;obtain⟨j,id,rfl,hj⟩:=keyS i o H;rw[ρj j id hj]at h;exact⟨j,id,O,hj,h⟩
  .cases h
 have mcI:∀(j id:Nat),ids[j]? =Sh id->mc (big+j)=m id:=by
  intro j id h;obtain⟨o,H⟩:=keyI j id h;simp only[mc,H,Option.isSome_some,UP,ρj j id h]
 have idsInj:∀(i j id:Nat),ids[i]? =Sh id->ids[j]? =Sh id->i=j:=by
  intro i j id l A;have l1:=(Rp.1 l).1;have l2:=(Rp.1 A).1;have X:=Sv.1 hnd;have e1:=(Rp.1 l).2;have e2:=(Rp.1 A).2;rcases Nat.lt_trichotomy i j with h|h|h
  .exact absurd (e1.trans e2.symm) (X i j l1 l2 h)
  .exact h
  .exact absurd (e2.trans e1.symm) (X j i l2 l1 h)
 have I:∀b,dG mc b->∃j id N:Nat,ids[j]? =Sh id/\m id=Sh (b,N):=by
  rintro b ⟨i,N,h⟩;obtain⟨j,id,_,hj,hx⟩:=Y i _ h;exact⟨j,id,N,hj,hx⟩
 let RT0:RT w (dG mc):=⟨R,D.hr.gi,λb M=>⟨D.hr.rsz b M,λH=>by obtain⟨j,id,N,_,hx⟩:=I b H;exact(D.hr.own id b N hx).2.1 M⟩,[]⟩
 have hHRc:HR ⟨C.P,mc,w,dG mc,RT0⟩ mc R (ax os) (avK 0) w:=by
  refine⟨?_,?_,?_,?_,?_,D.hr.rsz,λb h=> .inl h,λb h=>h,Fr.refl _ _,λi x _ h=>h,λi h=>cR h⟩
  .intro i;simp only[mc];cases H:ax os i with
   |none=>rfl
   | some o=>
     obtain⟨j,id,rfl,hj⟩:=keyS i o H;rw[ρj j id hj];simpa[bI]using(Z j id hj).1 o H
  .intro i hi;cases H:ax os i with
   |none=>rfl
   | some o=>
     obtain⟨j,id,rfl,hj⟩:=keyS i o H;have:=(Ly hi).2;omega
  .intro i o b N l A;obtain⟨j,id,rfl,hj,hx⟩:=Y i _ A;have G:=obs _ _ l;rw[ρj j id hj]at G;have h4:=D.hr.obj id _ b N G hx;refine h4.gx (dV ids base) (okR ids.length 0) ?_ ?_ ?_
   .intro i' x X hx';obtain⟨j',id',rfl,B,hx''⟩:=Y i' _ hx';rw[ρj j' id' B];exact hx''
   .intro i' X;obtain⟨j',id',rfl,_⟩:=U i' X;exact cR (TH _ _)
   .exact Ri.1 hob (big+j,o) (bG l)
  .intro i j b N N' l A;obtain⟨i',id,rfl,hi',hx⟩:=Y i _ l;obtain⟨j',id2,rfl,B,hy⟩:=Y j _ A;have:=D.hr.inj id id2 b N N' hx hy;subst this;rw[idsInj i' j' id hi' B]
  .intro i b N l;obtain⟨j,id,rfl,hj,hx⟩:=Y i _ l;have:=D.hr.own id b N hx;exact⟨this.1,this.2.1,.inl ⟨big+j,N,l⟩⟩
 have hrel:RelL w mc (avK 0) R args us:=by
  refine hus.gx (dV ids base) (okR ids.length 0) ?_ ?_ _ _ ha
  .intro i' x X hx';obtain⟨j',id',rfl,B,hx''⟩:=Y i' _ hx';rw[ρj j' id' B];exact hx''
  .intro i' X;obtain⟨j',id',rfl,_⟩:=U i' X;exact cR (TH _ _)
 refine(hf w mc RT0 us hHRc hrel).mono ?_;rintro e w' ⟨u,v,ob',m',R',rfl,hq,hva,hoba,hH,hrv⟩;refine⟨u,O,_,hk v ob' hq,?_⟩;have mobs:∀i,(m' i).isSome=Sm->okR ids.length k' i=Sm:=λi hi=>by
  rw[hH.dom]at hi;obtain⟨o,H⟩:∃o,ob' i=Sh o:=by
   cases e:ob' i with
   |none=>rw[e]at hi;cases hi
   |some o=>exact⟨o,O⟩
  exact(hoba i o H).1
 let mn:Gm:=lkL (ids.zipIdx.map (λp=>(p.1,m' (big+p.2)))++(List.range k').map (λi=>(base+i,m' i))) m
 have zipn:∀{β:Type}(g h:Nat->β)(f:Nat->β),(∀(j id:Nat),ids[j]? =Sh id->lkL (ids.zipIdx.map (λp=>(p.1,g p.2))++(List.range k').map (λi=>(base+i,h i))) f id=g j)/\
   (∀i,i<k'->lkL (ids.zipIdx.map (λp=>(p.1,g p.2))++(List.range k').map (λi=>(base+i,h i))) f (base+i)=h i)/\
   (∀id,id∉ids->(∀i,i<k'->id≠base+i)->lkL (ids.zipIdx.map (λp=>(p.1,g p.2))++(List.range k').map (λi=>(base+i,h i))) f id=f id):=by
  intro β g h f;have hz:∀id,id∉ids->id∉(ids.zipIdx.map (λp=>(p.1,g p.2))).map (·.1):=by
   intro id hid hmem;obtain⟨p,X,rfl⟩:=By.1 hmem;obtain⟨q,hq,rfl⟩:=By.1 X;obtain⟨q1,q2⟩:=q;have:=List.mem_zipIdx hq;simp only at hid;exact hid (by rw[this.2.2];exact au _)
  refine⟨λj id hj=>?_,λi hi=>?_,λid l A=>?_⟩
  .rw[sv];have:=G0 g (lkL ((List.range k').map (λi=>(base+i,h i))) f) ids 0 j id hnd hj;simpa using this
  .rw[sv,su _ _ _ (hz _ (nwids i hi))];exact Dd h f base k' i hi
  .rw[sv,su _ _ _ (hz _ l),su];intro hmem;obtain⟨p,X,hpe⟩:=By.1 hmem;obtain⟨i,hi,rfl⟩:=By.1 X;exact A i (by simpa using hi) hpe.symm
 obtain⟨mnA,mnB,mnC⟩:=zipn (λj=>m' (big+j)) m' m;obtain⟨obA,obB,obC⟩:=zipn (λj=>(ob' (big+j)).map (Ob.ren (dV ids base))) (λi=>(ob' i).map (Ob.ren (dV ids base))) σ.ob;have obE:(obL (wrO ids base k' ob') σ.ob)=lkL (ids.zipIdx.map (λp=>(p.1,(ob' (big+p.2)).map (Ob.ren (dV ids base))))++(List.range k').map (λi=>(base+i,(ob' i).map (Ob.ren (dV ids base))))) σ.ob:=LR _ _;have W:∀id:Nat,(∃j:Nat,ids[j]? =Sh id)\/(∃i,i<k'/\id=base+i)\/(id∉ids/\∀i,i<k'->id≠base+i):=by
  intro id;by_cases l:id∈ids
  .exact .inl (SU l)
  .by_cases A:∃i,i<k'/\id=base+i
   .exact .inr (.inl A)
   .exact .inr (.inr ⟨l,λi hi e=>A ⟨i,hi,e⟩⟩)
 have kept:∀(j id:Nat)(x:Nat×Nat),ids[j]? =Sh id->m' (big+j)=Sh x->m id=Sh x:=λj id x hj h=>by
  have:=hH.keep (big+j) x (TH _ _) h;rw[<-mcI j id hj];exact this
 have hblk:∀b,b<w.heap.size->¬dG mc b->w'.heap[b]? =w.heap[b]? :=λb l A=>hH.frame.block b l A
 have hR:∀b,R b->R' b/\w'.heap[b]? =w.heap[b]? :=λb M=>⟨hH.r0 b M,hblk b (D.hr.rsz b M) (λH=>by
  obtain⟨j,id,N,hj,hx⟩:=I b H;exact(D.hr.own id b N hx).2.1 M)⟩
 have avn:∀id,σ.av id=S1->avL (nwO base k') σ.av id=S1:=λid h=>by rw[jW,h];rfl
 have avnew:∀i,i<k'->avL (nwO base k') σ.av (base+i)=S1:=λi hi=>by
  have:inL (base+i) (nwO base k')=Sm:=dC.2 (By.2 ⟨i,by simpa using hi,O⟩);rw[jW,this];simp
 have hm:∀id x,σ.av id=S1->mn id=Sh x->m id=Sh x:=by
  intro id x hav' hx;rcases W id with⟨j,hj⟩|⟨i,hi,rfl⟩|⟨l,A⟩
  .rw[show mn id=m' (big+j)from mnA j id hj]at hx;exact kept j id x hj hx
  .rw[nwav i hi]at hav';cases hav'
  .rwa [show mn id=m id from mnC id l A]at hx
 have rm:∀i x,okR ids.length k' i=Sm->mn (dV ids base i)=Sh x->m' i=Sh x:=by
  intro i x X hx;rcases aa i X with⟨l,A,G⟩|⟨j,id,rfl,hj⟩
  .rw[G,show mn (base+i)=m' i from mnB i l]at hx;exact hx
  .rw[ρj j id hj,show mn id=m' (big+j)from mnA j id hj]at hx;exact hx
 have ra:∀i,okR ids.length k' i=Sm->avK k' i=S1->avL (nwO base k') σ.av (dV ids base i)=S1:=by
  intro i X _;rcases aa i X with⟨l,A,G⟩|⟨j,id,rfl,hj⟩
  .rw[G];exact avnew i l
  .rw[ρj j id hj];exact avn id (Z j id hj).2
 have L:∀id b N,m id=Sh (b,N)->id∉ids->¬dG mc b:=by
  intro id b N hx hid H;obtain⟨j,id2,N2,hj,hy⟩:=I b H;have:=D.hr.inj id id2 b N N2 hx hy;subst this;exact hid (SC hj)
 have E:∀i b N,m' i=Sh (b,N)->b<w'.heap.size/\¬R' b/\(C.F b\/C.w0.heap.size<=b)/\(dG mc b\/w.heap.size<=b):=by
  intro i b N hx;obtain⟨l,A,G⟩:=hH.own i b N hx;refine⟨l,A,?_,G⟩;rcases G with G|G
  .obtain⟨j,id,N2,hj,hy⟩:=I b G;exact(D.hr.own id b N2 hy).2.2
  .exact .inr (IT D.hr.frame.size G)
 have mix:∀i b N id N',m' i=Sh (b,N)->m id=Sh (b,N')->id∉ids->False:=by
  intro i b N id N' l A hid;rcases(E i b N l).2.2.2 with h|h
  .exact L id b N' A hid h
  .have:=(D.hr.own id b N' A).1;omega
 have hHn:HR C mn R' (obL (wrO ids base k' ob') σ.ob) (avL (nwO base k') σ.av) w':=by
  rw[obE];refine⟨?_,?_,?_,?_,?_,hH.rsz,?_,λb h=>hH.r0 b (D.hr.r0 b h),?_,?_,λid h=>avn id (D.hr.res id h)⟩
  .intro id;rcases W id with⟨j,hj⟩|⟨i,hi,rfl⟩|⟨l,A⟩
   .rw[obA j id hj,show mn id=m' (big+j)from mnA j id hj,uP];exact hH.dom _
   .rw[obB i hi,show mn (base+i)=m' i from mnB i hi,uP];exact hH.dom _
   .rw[obC id l A,show mn id=m id from mnC id l A];exact D.hr.dom id
  .intro id hid;rcases W id with⟨j,hj⟩|⟨i,hi,rfl⟩|⟨l,A⟩
   .rw[avn id (Z j id hj).2]at hid;cases hid
   .rw[avnew i hi]at hid;cases hid
   .rw[obC id l A];refine D.hr.free id ?_;rw[jW]at hid;simp only[sh]at hid;exact hid.1
  .intro id o b N l A;rcases W id with⟨j,hj⟩|⟨i,hi,rfl⟩|⟨G,h4⟩
   .rw[obA j id hj]at l;rw[show mn id=m' (big+j)from mnA j id hj]at A;obtain⟨o',ho',rfl⟩:=T4.1 l;exact(hH.obj _ o' b N ho' A).ren (dV ids base) (okR ids.length k') rm ra (hoba _ o' ho').2
   .rw[obB i hi]at l;rw[show mn (base+i)=m' i from mnB i hi]at A;obtain⟨o',ho',rfl⟩:=T4.1 l;exact(hH.obj _ o' b N ho' A).ren (dV ids base) (okR ids.length k') rm ra (hoba _ o' ho').2
   .rw[obC id G h4]at l;rw[show mn id=m id from mnC id G h4]at A;exact(D.hr.obj id o b N l A).mono hR hm avn (hblk b (D.hr.own id b N A).1 (L id b N A G))
  .intro i j b N N' l A;rcases W i with⟨i',hi'⟩|⟨i',hi',rfl⟩|⟨G,h4⟩<;>rcases W j with⟨j',B⟩|⟨j',B,rfl⟩|⟨h5,h6⟩
   .rw[show mn i=m' (big+i')from mnA i' i hi']at l;rw[show mn j=m' (big+j')from mnA j' j B]at A;have:=hH.inj _ _ b N N' l A;have:i'=j':=Vf;subst this;rw[hi']at B;exact TF B
   .rw[show mn i=m' (big+i')from mnA i' i hi']at l;rw[show mn (base+j')=m' j' from mnB j' B]at A;have:=hH.inj _ _ b N N' l A;have:=J j' B;omega
   .rw[show mn i=m' (big+i')from mnA i' i hi']at l;rw[show mn j=m j from mnC j h5 h6]at A;exact(mix _ b N j N' l A h5).elim
   .rw[show mn (base+i')=m' i' from mnB i' hi']at l;rw[show mn j=m' (big+j')from mnA j' j B]at A;have:=hH.inj _ _ b N N' l A;have:=J i' hi';omega
   .rw[show mn (base+i')=m' i' from mnB i' hi']at l;rw[show mn (base+j')=m' j' from mnB j' B]at A;rw[hH.inj _ _ b N N' l A]
   .rw[show mn (base+i')=m' i' from mnB i' hi']at l;rw[show mn j=m j from mnC j h5 h6]at A;exact(mix _ b N j N' l A h5).elim
   .rw[show mn i=m i from mnC i G h4]at l;rw[show mn j=m' (big+j')from mnA j' j B]at A;exact(mix _ b N' i N A l G).elim
   .rw[show mn i=m i from mnC i G h4]at l;rw[show mn (base+j')=m' j' from mnB j' B]at A;exact(mix _ b N' i N A l G).elim
   .rw[show mn i=m i from mnC i G h4]at l;rw[show mn j=m j from mnC j h5 h6]at A;exact D.hr.inj i j b N N' l A
  .intro id b N l;rcases W id with⟨j,hj⟩|⟨i,hi,rfl⟩|⟨G,h4⟩
   .rw[show mn id=m' (big+j)from mnA j id hj]at l;have:=E _ b N l;exact⟨this.1,this.2.1,this.2.2.1⟩
   .rw[show mn (base+i)=m' i from mnB i hi]at l;have:=E _ b N l;exact⟨this.1,this.2.1,this.2.2.1⟩
   .rw[show mn id=m id from mnC id G h4]at l;obtain⟨h5,h6,h7⟩:=D.hr.own id b N l;refine⟨RA h5 hH.frame.size,λM=>?_,h7⟩;rcases hH.rfr b M with h|h|h
    .exact h6 h
    .have h:w.heap.size<=b:=h;omega
    .exact L id b N l G h
  .intro b M;rcases hH.rfr b M with h|h|h
   .exact D.hr.rfr b h
   .exact .inr (.inl (IT D.hr.frame.size h))
   .obtain⟨j,id,N,hj,hx⟩:=I b h;rcases(D.hr.own id b N hx).2.2 with h|h
    .exact .inr (.inr h)
    .exact .inr (.inl h)
  .refine⟨hH.frame.os.trans D.hr.frame.os,hH.frame.tape.trans D.hr.frame.tape,hH.frame.output.trans D.hr.frame.output,IT D.hr.frame.size hH.frame.size,λk hk hF=>?_⟩;rw[hblk k (RA hk D.hr.frame.size) (λH=>by
    obtain⟨j,id,N,hj,hx⟩:=I k H;rcases(D.hr.own id k N hx).2.2 with h|h
    .exact hF h
    .omega)]
   exact D.hr.frame.block k hk hF
  .intro id x hid hx;rcases W id with⟨j,hj⟩|⟨i,hi,rfl⟩|⟨G,h4⟩
   .rw[show mn id=m' (big+j)from mnA j id hj]at hx;exact D.hr.keep id x hid (kept j id x hj hx)
   .have:=J i hi;omega
   .rw[show mn id=m id from mnC id G h4]at hx;exact D.hr.keep id x hid hx
 rw[Rc];exact⟨mn,R',SW.put (D.world hHn hR hm avn) dst (hrv.ren (dV ids base) (okR ids.length k') rm ra _ _ hva)⟩
end
section
variable {C:Ctx}{n:Nat}{σ:St}{dst:Option Tmp}{ty:TypeId}{ts:Array TypeId}{pos:String}{after:Array Edge}{gd:Option (Nat×Bool)}
theorem bM{args:List V}{os:List (Nat×Ob)}{k':Nat}(ids:List Nat)(base:Nat)(hc:cu C.P f)(l:xs.toList.map (σ.ev n)=V.renL (dV ids base) args)
  (G:V.allL (okR ids.length 0) args=Sm) (hos:os.map (·.1)=(List.range ids.length).map (big+ ·)) (B:os.all (λp=>p.2.all (okR ids.length 0))=Sm) (A:fO σ (dV ids base) os)
  (D:ids.Nodup) (E:(nwO base k').all σ.av=Sm) (H:FnO C.P f ids.length k' args os Q)
  (I:∀v ob',Q v ob'->K (σ.app dst ⟨v.ren (dV ids base),wrO ids base k' ob',nwO base k'⟩)):
  OJ C n ⟨dst,.call { callee:= .value (.func f),args:=xs,argTypes:=ts },ty,pos,after,gd⟩ K σ:=by
 rintro a w Q' ⟨m,R,hw⟩;unfold Oper.wp;rw[lU hc];have q:=hw.evs xs.toList;rw[l]at q;have:=qh (dst:=dst) ids base G hos B A D E H I hw q;have e:(xs.toList.map a.eval).toArray=xs.map a.eval:=by rw[<-Array.toList_map,Array.toArray_toList]
 rw[e]at this;refine Calls.mono this ?_;rintro e w' ⟨u,rfl,h⟩;exact h
theorem vy(hc:cu P f)(xs:Array Operand){fs cs:List Value}(l:a.eval y= .func (.func f) fs.toArray cs.toArray)(w:World):
  (execOp a.eval ⟨dst,.call { callee:= .value y,args:=xs,argTypes:=ts },ty,pos,after,gd⟩).run P w= .ok (.enter f (fs++xs.toList.map a.eval++cs).toArray) w:=by
 have e:(fs.toArray++xs.map a.eval++cs.toArray)=(fs++xs.toList.map a.eval++cs).toArray:=Vj;simp[execOp,resolve,Deferred.ofValue,l,invoke];rw[show(fs++(List.map a.eval xs.toList++cs)).toArray=fs.toArray++(xs.map a.eval++cs.toArray) by simp];exact hc _ _
theorem EY{fs cs:List V}{args:List V}{os:List (Nat×Ob)}{k':Nat}(ids:List Nat)(base:Nat)(hc:cu C.P f)(H:σ.ev n y= .fn (.func f) fs cs)(l:fs++xs.toList.map (σ.ev n)++cs=V.renL (dV ids base) args)
  (I:V.allL (okR ids.length 0) args=Sm) (hos:os.map (·.1)=(List.range ids.length).map (big+ ·)) (D:os.all (λp=>p.2.all (okR ids.length 0))=Sm) (A:fO σ (dV ids base) os)
  (E:ids.Nodup) (G:(nwO base k').all σ.av=Sm) (J:FnO C.P f ids.length k' args os Q)
  (L:∀v ob',Q v ob'->K (σ.app dst ⟨v.ren (dV ids base),wrO ids base k' ob',nwO base k'⟩)):
  OJ C n ⟨dst,.call { callee:= .value y,args:=xs,argTypes:=ts },ty,pos,after,gd⟩ K σ:=by
 rintro a w Q' ⟨m,R,hw⟩;have B:=hw.ev y;rw[H]at B;simp only[Rel]at B;obtain⟨us,vs,he,h1,h2⟩:=B;unfold Oper.wp;rw[vy hc xs he];have q:=(h1.append (hw.evs xs.toList)).append h2;rw[l]at q;refine Calls.mono (qh (dst:=dst) ids base I hos D A E G J L hw q) ?_;rintro e w' ⟨u,rfl,h⟩;exact h
theorem IC{Q:PV->Prop}(hc:cu C.P f)(E:σ.ev n y= .pv (.fn (.func f) fs cs))(G:FnP C.P f (fs++ps++cs) Q)(l:(V.args (λ_=>Sl) (xs.toList.map (σ.ev n))).map PV.fgA=Sh ps)(H:∀v,Q v->K (σ.put dst (.pv v))):
  OJ C n ⟨dst,.call { callee:= .value y,args:=xs,argTypes:=ts },ty,pos,after,gd⟩ K σ:=by
 rintro a w Q' ⟨m,R,hw⟩;have B:=hw.pv E;simp only[RelP]at B;obtain⟨us,vs,he,A,h2⟩:=B;unfold Oper.wp;rw[vy hc xs he];have q:RelPL w R ps (xs.toList.map a.eval):=by
  have D:SW C n ⟨σ.sl,λ_=>Sl,σ.av⟩ a w (λ_=>Sl) R:=by
   refine⟨⟨λ_=>rfl,λ_ _=>rfl,λ_ _ _ _ h=>(by cases h),λ_ _ _ _ _ h=>(by cases h),λ_ _ _ h=>(by cases h),hw.hr.rsz,hw.hr.rfr,hw.hr.r0,hw.hr.frame,λ_ _ _ h=>(by cases h),hw.hr.res⟩,hw.df,hw.sz,λt ht=>(hw.sl t ht).mono (λb h=>⟨h,rfl⟩) (λ_ _ _ e=>by cases e) (λ_ e=>e)⟩
  obtain⟨ps0,hargs0,rfl⟩:=T4.1 l;have A:=(D.args (D.evs xs.toList) hargs0).fgA;exact A.mono λb hb=>⟨hb.elim id (fun⟨_,_,h⟩=>by cases h),rfl⟩
 refine Calls.mono (G w R _ hw.hr.gi hw.hr.rsz ((A.append q).append h2)) ?_;rintro e w' ⟨u,v,rfl,hq,hb,hr⟩;exact⟨_,H v hq,m,_,(hw.called hb).put dst (by simpa only[Rel]using hr)⟩
theorem fH(hc:cu C.P f)(q:σ.ev n y= .pv (.fn (.func f) fs cs))(u:FnP C.P f (fs++ps++cs) (· =r))(l:(V.args (λ_=>Sl) (xs.toList.map (σ.ev n))).map PV.fgA=Sh ps):
  XJ C n ⟨dst,.call { callee:= .value y,args:=xs,argTypes:=ts },ty,pos,after,gd⟩ σ ⟨.pv r,[],[]⟩:=
 IC hc q u l (by rintro v rfl;exact(St.ib σ dst _).symm)
end
end
section
def FnM(P:Program)(f:FuncId)(T:TypeId)(cs:List PV)(args:List PV)(Q:PV->List PV->Prop):Prop:=
 FnO P f 1 0 (.ptr big 0::args.map .pv) [(big,.mix T (cs.map .pv))] λv ob'=>∃r cs',v= .pv r/\ob'=ax [(big,.mix T (cs'.map .pv))]/\Q r cs'
theorem sP(ρ:Nat->Nat):∀ps:List PV,V.renL ρ (ps.map V.pv)=ps.map V.pv
 |[]=>rfl
 |p::ps=>by simp[V.renL,V.ren,sP ρ ps]
theorem lI(q:Nat->Bool):∀ps:List PV,V.allL q (ps.map V.pv)=Sm
 |[]=>rfl
 |p::ps=>by simp[V.allL,V.all,lI q ps]
theorem GC(k:Nat):∀ps:List PV,V.okL k (ps.map V.pv)=Sm
 |[]=>rfl
 |p::ps=>by simp[V.okL,V.okA,GC k ps]
def retM(n t:Nat)(T:TypeId)(Q:PV->List PV->Prop):Exit->St->Prop
 | .ret,σ| .normal,σ=>∃r cs',σ.ev n (.tmp t)= .pv r/\σ.ob big=Sh (.mix T (cs'.map .pv))/\Q r cs'
 |_,_=>False
theorem FnM.of{fn:Func}{args:List PV}{Q:PV->List PV->Prop}(D:P.funcs[f]? =Sh fn)(E:fn.body=Sh c)(G:fn.ntmps=n)(B:args.length+1<=n)(A:fn.results.toList=[.tmp t])(H:t<n)
  (h:∀m0 w0 F R0,AW ⟨P,m0,w0,F,R0⟩ n c (retM n t T Q) (mkS ((0,.ptr big 0)::cU 1 (args.map .pv)) [(big,.mix T (cs.map .pv))] 0)):FnM P f T cs args Q:=by
 refine FnO.of D E G (by simpa using B) λm0 w0 F R0=>?_
 refine(h m0 w0 F R0).mono ?_;have q:Nat.blt t n=Sm:=by simpa[Tw]using H
 have u:∀s:St,(∃r cs',s.ev n (.tmp t)= .pv r/\s.ob big=Sh (.mix T (cs'.map .pv))/\Q r cs')->∃l os' vs,s.le (mkS l os' 0)/\yT n (mkS l os' 0) fn.results.toList=Sh vs/\V.allL (okR 1 0) vs=Sm/\os'.all (λp=>okR 1 0 p.1&&p.2.all (okR 1 0))=Sm/\∃r cs',cS vs= .pv r/\ax os'=ax [(big,.mix T (cs'.map .pv))]/\Q r cs':=by
  rintro s ⟨r,cs',h1,h2,h3⟩;simp only[St.ev,q,Sy]at h1;refine⟨[(t,.pv r)],[(big,.mix T (cs'.map .pv))],[.pv r],Q5 ⟨h1,Vm⟩ ⟨h2,Vm⟩ O ?_,?_,O,?_,r,cs',O,O,h3⟩
  .simp only[TG,Vd,Ue,Ob.okA,GC];rfl
  .rw[A];simp only[yT,St.ev,q,Sy,mkS,look,Ug]
  .simp only[TG,Vd,Ue,Ob.all,lI];rfl
 intro ex s hq;cases ex with
 |normal=>exact u s hq
 |ret=>exact u s hq
 |_=>exact hq.elim
section
variable {C:Ctx}{n:Nat}{σ:St}{dst:Option Tmp}{ty:TypeId}{ts:Array TypeId}{pos:String}{after:Array Edge}{gd:Option (Nat×Bool)}
theorem mT{Q:PV->List PV->Prop}(hc:cu C.P f)(u:FnM C.P f T cs ps Q)(l:xs.toList.map (σ.ev n)= .ptr id 0::ps.map .pv)(A:σ.ob id=Sh (.mix T (cs.map .pv)))(B:∀r cs',Q r cs'->K (σ.app dst ⟨.pv r,[(id,Sh (.mix T (cs'.map .pv)))],[]⟩)):
  OJ C n ⟨dst,.call { callee:= .value (.func f),args:=xs,argTypes:=ts },ty,pos,after,gd⟩ K σ:=by
 refine bM (k':=0) [id] 0 hc (args:= .ptr big 0::ps.map .pv) (os:=[(big,.mix T (cs.map .pv))]) ?_ ?_ O ?_ ?_ Vj O u ?_
 .rw[l];simp only[V.renL,V.ren,sP];rfl
 .simp only[V.allL,V.all,lI];rfl
 .simp only[TG,Vd,Ue,Ob.all,lI]
 .refine⟨?_,Vm⟩;have:dV [id] 0 big=id:=rfl;rw[this,A];simp only[Ob.ren,sP]
 .rintro v ob' ⟨r,cs',rfl,rfl,hq⟩;have:=B r cs' hq;have e:wrO [id] 0 0 (ax [(big,.mix T (cs'.map .pv))])=[(id,Sh (.mix T (cs'.map .pv)))]:=by
   have q:ax [(big,Ob.mix T (cs'.map .pv))] (big+0)=Sh (.mix T (cs'.map .pv)):=by simp[ax]
   simp only[wrO,U1,List.zipIdx_nil,bP,SD,List.range_zero,Sk,q,Tt,Ob.ren,sP]
  rw[e];exact this
theorem bS{cs':List PV}(hc:cu C.P f)(q:FnM C.P f T cs ps (λv c=>v=r/\c=cs'))(l:xs.toList.map (σ.ev n)= .ptr id 0::ps.map .pv)(u:σ.ob id=Sh (.mix T (cs.map .pv))):XJ C n ⟨dst,.call { callee:= .value (.func f),args:=xs,argTypes:=ts },ty,pos,after,gd⟩ σ ⟨.pv r,[(id,Sh (.mix T (cs'.map .pv)))],[]⟩:=
 mT hc q l u (by rintro _ _ ⟨rfl,rfl⟩;rfl)
end
section
variable {C:Ctx}{n:Nat}{σ:St}{dst:Option Tmp}{ty t:TypeId}{pos:String}{after:Array Edge}{gd:Option (Nat×Bool)}{x y:Operand}
theorem XJ.cast{o:Oper}{v v':V}{wr:List (Nat×Option Ob)}{nw:List Nat}(h:XJ C n o σ ⟨v,wr,nw⟩)(e:v=v'):XJ C n o σ ⟨v',wr,nw⟩:=e▸h
theorem di{kh:IntKind}{ih:Int}(h:Nat)(q:C.P.underlying T=Sh (.slice e))(u:bN C.P e s)(A:σ.ev n x= .pv (.sl bn k cs))(B:σ.ev n y= .pv (.int kh ih))(D:ih=(h:Int))(E:h<=k)(l:cs.length=k*s):
  XJ C n ⟨dst,.slice T x Sl (Sh y) Sl,ty,pos,after,gd⟩ σ ⟨.pv (.sl bn h (cs.take (h*s))),[],[]⟩:=by
 have:=zI (C:=C) (n:=n) (σ:=σ) (dst:=dst) (ty:=ty) (pos:=pos) (after:=after) (gd:=gd) (x:=x) (kl:= .i64) (il:=0) (kh:=kh) (ih:=ih) Sl (Sh y) 0 h q u A Vj (λ_=>rfl) (by rintro _ ⟨⟩;exact⟨B,D⟩) Vj (cd _) E l;simpa using this
theorem vB(l:Nat)(u:C.P.underlying T=Sh (.slice e))(A:bN C.P e s)(B:σ.ev n x= .pv (.sl bn k cs))(D:σ.ev n y= .pv (.int kl il))(E:il=(l:Int))(G:l<=k)(q:cs.length=k*s):
  XJ C n ⟨dst,.slice T x (Sh y) Sl Sl,ty,pos,after,gd⟩ σ ⟨.pv (.sl bn (k-l) (cs.drop (l*s))),[],[]⟩:=by
 have:=zI (C:=C) (n:=n) (σ:=σ) (dst:=dst) (ty:=ty) (pos:=pos) (after:=after) (gd:=gd) (x:=x) (kl:=kl) (il:=il) (kh:= .i64) (ih:=0) (Sh y) Sl l k u A B (by rintro _ ⟨⟩;exact⟨D,E⟩) Vj Vj (λ_=>rfl) G (BY _) q;have e:(cs.drop (l*s)).take ((k-l)*s)=cs.drop (l*s):=aQ (by simp[q,Nat.sub_mul]);rw[e]at this;exact this
theorem qt(id':Nat)(B:ElemIs C.P t e z size bytes)(D:σ.ev n x= .osl id size k)(E:σ.ob id=Sh (.cells e cs))(l:cs.length=k*size)
  (G:σ.ev n y= .osl id2 size 1) (q:σ.ob id2=Sh (.cells T2 news)) (I:news.length=size) (u:news.all PV.leaf=Sm) (H:k+1<=1000000000) (A:σ.av id'=Sm):
  XJ C n ⟨dst,.call { callee:= .builtin .append,args:= #[x,y],argTypes:= #[t,t] },ty,pos,after,gd⟩ σ ⟨.osl id' size (k+1),[(id',Sh (.cells e (cs++news))),(id,Sl)],[id']⟩:=
 dB id' B D E l (.inr ⟨id2,size,T2,news,G,q,(aQ Vf).symm⟩) Vf (by simpa using u) H A
theorem xY(id':Nat)(A:ElemIs C.P t e z size bytes)(B:σ.ev n x= .pv (.sl (Sh Sm) 0 []))
  (D:σ.ev n y= .osl id2 size 1) (l:σ.ob id2=Sh (.cells T2 news)) (E:news.length=size) (q:news.all PV.leaf=Sm) (u:σ.av id'=Sm):
  XJ C n ⟨dst,.call { callee:= .builtin .append,args:= #[x,y],argTypes:= #[t,t] },ty,pos,after,gd⟩ σ ⟨.osl id' size 1,[(id',Sh (.cells e news))],[id']⟩:=
 BP id' A B (.inr ⟨id2,size,T2,news,D,l,(aQ Vf).symm⟩) Vf (by simpa using q) Vf Vf u
end
def iF(ids:List Nat)(i:Nat):Nat:=bif Nat.ble big i then i else ids.getD i 0
def qL(σ:St)(ρ:Nat->Nat):List (Nat×V)->Prop
 |[]=>True
 |(t,v)::l=>σ.sl t=v.ren ρ/\qL σ ρ l
theorem jF:∀{l:List (Nat×V)},qL σ ρ l->∀t,look l t= .pv .any\/σ.sl t=(look l t).ren ρ
 |[],_,_=> .inl O
 | (d,v)::l,h,t=>by
   simp only[look];cases hb:Nat.beq t d with
   |true=>have:=aJ hb;subst this;exact .inr h.1
   |false=>simpa using jF h.2 t
mutual
theorem V.iH(k:Nat):∀v:V,v.okA k=Sm->v.all (λi=>Nat.blt i k||Nat.ble big i)=Sm
 | .pv _,_=>rfl
 | .ptr _ _,h=>by simpa only[V.okA,V.all]using h
 | .osl _ _ _,h=>by simpa only[V.okA,V.all]using h
 | .tsl _ _ _,h=>by simpa only[V.okA,V.all]using h
 | .gsl _ _ _,h=>by simpa only[V.okA,V.all]using h
 | .map _,h=>by simpa only[V.okA,V.all]using h
 | .agg cs,h=>by simp only[V.okA]at h;simp only[V.all];exact V.okL_all k cs h
 | .tup cs,h=>by simp only[V.okA]at h;simp only[V.all];exact V.okL_all k cs h
 | .fn _ a b,h=>by simp only[V.okA,sh]at h;simp only[V.all,sh];exact⟨V.okL_all k a h.1,V.okL_all k b h.2⟩
theorem V.okL_all(k:Nat):∀vs:List V,V.okL k vs=Sm->V.allL (λi=>Nat.blt i k||Nat.ble big i) vs=Sm
 |[],_=>rfl
 |c::cs,h=>by simp only[V.okL,sh]at h;simp only[V.allL,sh];exact⟨V.iH k c h.1,V.okL_all k cs h.2⟩
end
theorem Ob.iH(k:Nat){o:Ob}(h:o.okA k=Sm):o.all (λi=>Nat.blt i k||Nat.ble big i)=Sm:=by
 cases o with
 |cells _ _=>rfl
 |gro _ _=>rfl
 |mp _ _=>rfl
 |it _ _=>rfl
 |fro _ _=>rfl
 |mi _ _ _=>rfl
 |mix _ cs=>exact V.okL_all k cs h
theorem Q6{l:List (Nat×V)}{os:List (Nat×Ob)}(ids:List Nat)(Y:qL σ (iF ids) l)(Z:fO σ (iF ids) os)(h1:l.all (λp=>p.2.okA ids.length)=Sm)(h2:os.all (λp=>(Nat.blt p.1 ids.length||Nat.ble big p.1)&&p.2.okA ids.length)=Sm)
  (J:ids.Nodup) (L:ids.all (λi=>Nat.blt i big)=Sm):σ.le (mkS l os ids.length):=by
 rintro C n a w ⟨m,R,hw⟩;have D:∀i o,ax os i=Sh o->σ.ob (iF ids i)=Sh (o.ren (iF ids))/\(Nat.blt i ids.length||Nat.ble big i)=Sm/\o.okA ids.length=Sm:=by
  intro i o h;have M:=bG h;have:=Ri.1 h2 _ M;simp only[sh]at this;exact⟨eQ Z i o M,this.1,this.2⟩
 let m2:Gm:=λi=>if(ax os i).isSome then m (iF ids i)else Sl
 have A:∀i x,m2 i=Sh x->m (iF ids i)=Sh x/\(Nat.blt i ids.length||Nat.ble big i)=Sm:=λi x h=>by
  simp only[m2]at h;split at h
  .rename_i hs;obtain⟨o,hoo⟩:=RQ.1 hs;exact⟨h,(D i o hoo).2.1⟩
  .cases h
 have ρinj:∀i j,(Nat.blt i ids.length||Nat.ble big i)=Sm->(Nat.blt j ids.length||Nat.ble big j)=Sm->iF ids i=iF ids j->i=j:=by
  intro i j hi hj e;have B:∀q,Nat.blt q ids.length=Sm->Nat.ble big q=S1->∃h:q<ids.length,iF ids q=ids[q]/\ids[q]<big:=by
   intro q hq I;have h:q<ids.length:=by simpa[Tw]using hq
   refine⟨h,by simp[iF,I,Rj,h],?_⟩;have:=Ri.1 L ids[q] (au h);simpa[Tw]using this
  have u:∀q,Nat.ble big q=Sm->iF ids q=q:=λq hq=>by simp[iF,hq]
  cases hbi:Nat.ble big i with
  | true=>
    cases hbj:Nat.ble big j with
    |true=>rw[u i hbi,u j hbj]at e;exact e
    | false=>
      rw[hbj,Tk]at hj;obtain⟨h,G,E⟩:=B j hj hbj;rw[u i hbi,G]at e;have:=Rz hbi;omega
  | false=>
    rw[hbi,Tk]at hi;obtain⟨h,e1,E⟩:=B i hi hbi;cases hbj:Nat.ble big j with
    | true=>
      rw[u j hbj,e1]at e;have:=Rz hbj;omega
    | false=>
      rw[hbj,Tk]at hj;obtain⟨h',G,h4⟩:=B j hj hbj;rw[e1,G]at e;exact(List.getElem_inj J).1 e
 have U:∀i x,(Nat.blt i ids.length||Nat.ble big i)=Sm->m2 i=Sh x->m (iF ids i)=Sh x:=λi x _ h=>(A i x h).1
 have W:∀i,(Nat.blt i ids.length||Nat.ble big i)=Sm->avK ids.length i=S1:=λi h=>iI h
 refine⟨m2,R,⟨?_,?_,?_,?_,?_,hw.hr.rsz,hw.hr.rfr,hw.hr.r0,hw.hr.frame,?_,λi hi=>cR hi⟩,hw.df,hw.sz,?_⟩
 .intro i;show(m2 i).isSome=bI (ax os i);simp only[m2];cases e:ax os i with
  |none=>rfl
  | some o=>
    have:=hw.hr.dom (iF ids i);rw[(D i o e).1]at this;simpa[bI,Ob.jo]using this
 .intro i hi;show ax os i=Sl;cases e:ax os i with
  |none=>rfl
  | some o=>
    have E:=iI (D i o e).2.1;have H:avK ids.length i=Sm:=hi;rw[H]at E;cases E
 .intro i o b N E h4;have X:=D i o E;exact(hw.hr.obj _ _ b N X.1 (A _ _ h4).1).gx (iF ids) _ U W (Ob.iH _ X.2.2)
 .intro i j b N N' e1 G;exact ρinj i j (A _ _ e1).2 (A _ _ G).2 (hw.hr.inj _ _ b N N' (A _ _ e1).1 (A _ _ G).1)
 .exact λi b N e=>hw.hr.own _ b N (A _ _ e).1
 .intro i x hi e;have I:Nat.ble big i=Sm:=TP hi;have G:=(A i x e).1;have:iF ids i=i:=by simp[iF,I]
  rw[this]at G;exact hw.hr.keep i x hi G
 .intro t ht;show Rel w m2 (avK ids.length) R (look l t) _;rcases jF Y t with e|e
  .rw[e];simp only[Rel,RelP]
  .have E:=hw.sl t ht;rw[e]at E;exact E.gx (iF ids) _ U W _ _ (V.iH _ _ (look_ok h1 t))
end
section
mutual
theorem V.zM:∀v:V,v.ren (λi=>i)=v
 | .pv _=>rfl
 | .ptr _ _=>rfl
 | .osl _ _ _=>rfl
 | .tsl _ _ _=>rfl
 | .gsl _ _ _=>rfl
 | .map _=>rfl
 | .agg cs=>by simp only[V.ren,V.renL_id cs]
 | .tup cs=>by simp only[V.ren,V.renL_id cs]
 | .fn _ a b=>by simp only[V.ren,V.renL_id a,V.renL_id b]
theorem V.renL_id:∀vs:List V,V.renL (λi=>i) vs=vs
 |[]=>rfl
 |c::cs=>by simp only[V.renL,V.zM c,V.renL_id cs]
end
theorem Ob.zM(o:Ob):o.ren (λi=>i)=o:=by
 cases o with
 |cells _ _=>rfl
 |gro _ _=>rfl
 |mp _ _=>rfl
 |it _ _=>rfl
 |fro _ _=>rfl
 |mi _ _ _=>rfl
 |mix _ cs=>simp only[Ob.ren,V.renL_id cs]
def yy(n:Nat)(σ:St):List ResultVar->Option (List V)
 |[]=>Sh []
 | .tmp t::l=>match yy n σ l with|some vs=>Sh (σ.ev n (.tmp t)::vs)|none=>Sl
 | .cell a _::l=>match σ.ev n (.tmp a),yy n σ l with
   | .ptr id 0,Sh vs=>match σ.ob id with
     |some (.mix _ cs)=>Sh (.agg cs::vs)
     |_=>Sl
   |_,_=>Sl
def kW(P:Program)(n:Nat)(σ:St):List ResultVar->Prop
 |[]=>True
 | .tmp _::l=>kW P n σ l
 | .cell a t::l=>(isRow P t/\∃k,bN P t k/\∀id T cs,σ.ev n (.tmp a)= .ptr id 0->σ.ob id=Sh (.mix T cs)->cs.length=k)/\kW P n σ l
theorem az{a:Nat}{t:TypeId}{cs:List V}(l:isRow P t)(q:bN P t k)(u:σ.ev n (.tmp a)= .ptr id 0)(A:σ.ob id=Sh (.mix T cs))(B:cs.length=k):
  isRow P t/\∃k,bN P t k/\∀id T cs,σ.ev n (.tmp a)= .ptr id 0->σ.ob id=Sh (.mix T cs)->cs.length=k:=
 ⟨l,k,q,λid' T' cs' e1 e2=>by rw[u]at e1;cases e1;rw[A]at e2;cases e2;exact B⟩
theorem mZ(E:SW C n σ a w m R)(f:ResultVar->Sem Value)(G:∀t,f (.tmp t)=pure (a.tmps.getD t undef))(B:∀ad t,f (.cell ad t)=do loadVar t (← asAddr (a.tmps.getD ad undef))):
  ∀{l:List ResultVar}{vs:List V},yy n σ l=Sh vs->kW C.P n σ l->∃us,Sem.run C.P (l.mapM f) w= .ok us w/\RelL w m σ.av R vs us
 |[],vs,h,_=>by simp only[yy,Rq]at h;subst h;exact⟨[],Vj,RelL.nil⟩
 | .tmp t::l,vs,h,hc=>by
   simp only[yy]at h;split at h
   .rename_i vs' h';simp at h;subst h;obtain⟨us,hr,hl⟩:=mZ E f G B h' hc;refine⟨a.eval (.tmp t)::us,?_,RelL.cons (E.ev (.tmp t)) hl⟩;rw[List.mapM_cons,G];simp[hr,Act.eval]
   .cases h
 | .cell ad t::l,vs,h,hc=>by
   simp only[yy]at h;split at h
   .rename_i id vs' he h';split at h
    .rename_i T cs ho;simp at h;subst h;obtain⟨us,hr,hl⟩:=mZ E f G B h' hc.2;obtain⟨hrow,k,hk,q⟩:=hc.1;have q:=q id T cs he ho;obtain⟨b,N,hev,hm,arr,hb,hN,hle,hrl⟩:=E.ptr he ho;obtain⟨d,hu,hd⟩:=hrow;have A:=run_loadVar_mid (P:=C.P) w b 0 t (arr.toList.take cs.length) d (λj u hu=>by
      rw[RV,cell_of_row w b j arr T (0,0) hb];rw[Ry]at hu;split at hu
      .simpa using hu
      .cases hu) hu hd (by unfold bN at hk;rw[hk,hrl.length,q])
     refine⟨.agg (arr.toList.take cs.length).toArray::us,?_,RelL.cons (by simp only[Rel];exact⟨_,O,hrl⟩) hl⟩;have D:a.tmps.getD ad undef= .pointer (Sh ⟨b,0,Sl⟩):=hev;rw[List.mapM_cons,B,D];simp only[Sem.run_bind,asAddr,Sem.run_pure,Result.andThen_ok,A,hr]
    .cases h
   .cases h
theorem oH(u:SW C n σ a w m R){fn:Func}{vs:List V}(h:yy n σ fn.results.toList=Sh vs)(hc:kW C.P n σ fn.results.toList):
  ∃us:List Value,(results fn a.tmps).run C.P w= .ok (if h:us.toArray.size=1 then us.toArray[0]else .tuple us.toArray) w/\RelL w m σ.av R vs us:=by
 have l:=λf hf hf2=>mZ u f hf hf2 h hc
 have q:∃us,Sem.run C.P (fn.results.toList.mapM fun
   | .tmp t=>pure (a.tmps.getD t undef)
   | .cell ad t=>do loadVar t (← asAddr (a.tmps.getD ad undef))) w= .ok us w/\RelL w m σ.av R vs us:=l _ (λ_=>rfl) (λ_ _=>rfl)
 obtain⟨us,hr,hl⟩:=q;refine⟨us,?_,hl⟩;unfold results;rw[Array.mapM_eq_mapM_toList];simp only[Sem.run_bind,Sem.run_map]
 erw[hr]
 rfl
def retQC(P:Program)(fn:Func)(n:Nat)(Q:PV->Prop):Exit->St->Prop
 | .ret,σ| .normal,σ=>∃vs ps,yy n σ fn.results.toList=Sh vs/\V.args σ.ob vs=Sh ps/\kW P n σ fn.results.toList/\Q (fh ps)
 |_,_=>False
theorem FnP.ofC{fn:Func}{args:List PV}{Q:PV->Prop}(J:P.funcs[f]? =Sh fn)(q:fn.body=Sh c)(U:fn.ntmps=n)(L:args.length<=n)
  (h:∀m0 w0 F R0,AW ⟨P,m0,w0,F,R0⟩ n c (retQC P fn n Q) (mkS (iz 0 args) [] 0)):FnP P f args Q:=by
 intro w R us hG hR hrel;refine calls_of_wp J q ?_
 let C:Ctx:=⟨P,λ_=>Sl,w,λ_=>False,⟨R,hG,λb h=>⟨hR b h,id⟩,[]⟩⟩
 have M:=hrel.length;have A:SJ C n (mkS (iz 0 args) [] 0) { tmps:=us.toArray++Array.replicate (fn.ntmps-us.toArray.size) undef,defers:=[] } w:=by
  refine⟨λ_=>Sl,R,⟨⟨λ_=>rfl,λ_ _=>rfl,λ_ _ _ _ h=>(by cases h),λ_ _ _ _ _ h=>(by cases h),λ_ _ _ h=>(by cases h),hR,λb h=> .inl h,λb h=>h,Fr.refl _ _,λ_ _ _ h=>(by cases h),λid hi=>cR (k:=0) hi⟩,rfl,Vk,?_⟩⟩;intro t ht;show Rel w _ (avK 0) R (look (iz 0 args) t) ((us.toArray++Array.replicate (fn.ntmps-us.toArray.size) undef).getD t undef);have G:∀(ps:List PV)(vs:List Value)(k:Nat),RelPL w R ps vs->k<=t->∀z:Value,Rel w (λ_=>Sl) (avK 0) R (look (iz k ps) t) (vs[t-k]?.getD z):=by
   intro ps;induction ps with
   |nil=>intro vs k _ _ z;simp only[iz,look,Rel,RelP]
   | cons p ps ih=>
     intro vs k hr hk z;simp only[RelPL]at hr;obtain⟨u,vs',rfl,h1,h2⟩:=hr;simp only[iz,look];by_cases e:t=k
     .subst e;simp only[Ug,Sy,Ux];simpa[Rel]using h1
     .have q:Nat.beq t k=S1:=by cases q:Nat.beq t k;rfl;exact absurd (aJ q) e
      rw[q];have:=ih vs' (k+1) h2 Vf z;have H:t-k=(t-(k+1))+1:=Vf;rw[H];simpa using this
  have:=G args us 0 hrel (cd _) undef;simp only[UU]at this;rw[Sf,UQ];by_cases e:t<us.length
  .simpa[e]using this
  .rw[SF Vf]at this;simp only[RB,e,Up,TJ];split<;>simpa using this
 refine wp_mono ((h (λ_=>Sl) w (λ_=>False) ⟨R,hG,λb h=>⟨hR b h,id⟩,[]⟩).go _ w A) ?_;rintro ex a' w' ⟨σ',hq,m,R',hw⟩;have B:∀vs ps,yy n σ' fn.results.toList=Sh vs->V.args σ'.ob vs=Sh ps->kW P n σ' fn.results.toList->Q (fh ps)->a'.defers=[]/\∃v,(results fn a'.tmps).run P w'= .ok v w'/\
   ∃u v_1,Ending.returned v= .returned u/\Q v_1/\Below w.heap.size w w'/\RelP w' (λb=>R b\/(w.heap.size<=b/\b<w'.heap.size)) v_1 u:=by
  intro vs ps h1 h2 hc h3;obtain⟨us',hrun,hrl⟩:=oH hw h1 hc;have I:=hw.args hrl h2;have l:RelPL w' (λb=>R b\/(w.heap.size<=b/\b<w'.heap.size)) ps us':=I.mono λb q=>⟨by
   rcases q with q|⟨id,N,q⟩
   .rcases hw.hr.rfr b q with h|h|h
    .exact .inl h
    .exact .inr ⟨h,hw.hr.rsz b q⟩
    .exact h.elim
   .rcases(hw.hr.own id b N q).2.2 with h|h
    .exact h.elim
    .exact .inr ⟨h,(hw.hr.own id b N q).1⟩,O⟩
  have D:Below w.heap.size w w':=⟨hw.hr.frame.os,hw.hr.frame.tape,hw.hr.frame.output,hw.hr.frame.size,λk hk=>hw.hr.frame.block k hk id⟩;have E:=l.length;refine⟨hw.df,_,hrun,_,_,O,h3,D,?_⟩;cases ps with
  | nil=>
    simp only[RelPL]at l;subst l;simp only[fh,RelP];exact⟨[],Vj,RelPL.nil⟩
  | cons p ps=>
    cases ps with
    | nil=>
      simp only[RelPL]at l;obtain⟨u,vs',rfl,h5,rfl⟩:=l;simpa[fh]using h5
    | cons p2 ps=>
      simp only[fh,RelP];refine⟨us',?_,l⟩;rw[dif_neg (by simp at E ⊢; omega)]
 cases ex with
 |normal=>obtain⟨vs,ps,h1,h2,h3,h4⟩:=hq;exact B vs ps h1 h2 h3 h4
 |ret=>obtain⟨vs,ps,h1,h2,h3,h4⟩:=hq;exact B vs ps h1 h2 h3 h4
 |_=>exact hq.elim
def retOC(P:Program)(fn:Func)(n k k':Nat)(Q:V->(Nat->Option Ob)->Prop):Exit->St->Prop
 | .ret,σ| .normal,σ=>∃l os' vs os2 k2,σ.le (mkS l os' k2)/\yy n (mkS l os' k2) fn.results.toList=Sh vs/\kW P n (mkS l os' k2) fn.results.toList/\V.allL (okR k k') vs=Sm/\os2.all (λp=>okR k k' p.1&&p.2.all (okR k k'))=Sm/\
   (∀i o,ax os2 i=Sh o->ax os' i=Sh o)/\k'<=k2/\Q (cS vs) (ax os2)
 |_,_=>False
theorem FnO.ofC{fn:Func}{k':Nat}{args:List V}{os:List (Nat×Ob)}(U:P.funcs[f]? =Sh fn)(I:fn.body=Sh c)(Y:fn.ntmps=n)(W:args.length<=n)
  (h:∀m0 w0 F R0,AW ⟨P,m0,w0,F,R0⟩ n c (retOC P fn n k k' Q) (mkS (cU 0 args) os 0)):FnO P f k k' args os Q:=by
 intro w m R us hHR hrel;refine calls_of_wp U I ?_;have X:=hrel.length;obtain⟨R1,hp1,hd1⟩:∃R1:RT w (dG m),R1.p=R.p/\R1.df=[]:=⟨⟨R.p,R.g,R.d,[]⟩,O,O⟩;have E:SJ ⟨P,m,w,dG m,R1⟩ n (mkS (cU 0 args) os 0) { tmps:=us.toArray++Array.replicate (fn.ntmps-us.toArray.size) undef,defers:=[] } w:=by
  refine⟨m,R.p,⟨hHR.dfs hp1,hd1.symm,Vk,?_⟩⟩;intro t ht;show Rel w m (avK 0) R.p (look (cU 0 args) t) ((us.toArray++Array.replicate (fn.ntmps-us.toArray.size) undef).getD t undef);have J:∀(ps:List V)(vs:List Value)(k:Nat),RelL w m (avK 0) R.p ps vs->k<=t->∀z:Value,Rel w m (avK 0) R.p (look (cU k ps) t) (vs[t-k]?.getD z):=by
   intro ps;induction ps with
   |nil=>intro vs k _ _ z;simp only[cU,look,Rel,RelP]
   | cons p ps ih=>
     intro vs k hr hk z;simp only[RelL]at hr;obtain⟨u,vs',rfl,h1,h2⟩:=hr;simp only[cU,look];by_cases e:t=k
     .subst e;simp only[Ug,Sy,Ux];simpa using h1
     .have I:Nat.beq t k=S1:=by cases I:Nat.beq t k;rfl;exact absurd (aJ I) e
      rw[I];have:=ih vs' (k+1) h2 Vf z;have B:t-k=(t-(k+1))+1:=Vf;rw[B];simpa using this
  have:=J args us 0 hrel (cd _) undef;simp only[UU]at this;rw[Sf,UQ];by_cases e:t<us.length
  .simpa[e]using this
  .rw[SF Vf]at this;simp only[RB,e,Up,TJ];split<;>simpa using this
 refine wp_mono ((h m w (dG m) R1).go _ w E) ?_;rintro ex a' w' ⟨σ',hq,hsj⟩;have G:∀l os' vs os2 k2,σ'.le (mkS l os' k2)->yy n (mkS l os' k2) fn.results.toList=Sh vs->kW P n (mkS l os' k2) fn.results.toList->V.allL (okR k k') vs=Sm->os2.all (λp=>okR k k' p.1&&p.2.all (okR k k'))=Sm->(∀i o,ax os2 i=Sh o->ax os' i=Sh o)->k'<=k2->Q (cS vs) (ax os2)->
   a'.defers=[]/\∃v,(results fn a'.tmps).run P w'= .ok v w'/\∃u v_1 ob' m' R',Ending.returned v= .returned u/\Q v_1 ob'/\v_1.all (okR k k')=Sm/\(∀i o,ob' i=Sh o->okR k k' i=Sm/\o.all (okR k k')=Sm)/\HR ⟨P,m,w,dG m,R⟩ m' R' ob' (avK k') w'/\Rel w' m' (avK k') R' v_1 u:=by
  intro l os' vs os2 k2 h1 h2 hc h3 h4 h5 h6 h7;obtain⟨m2,R2,hw⟩:=h1 _ _ _ _ hsj;obtain⟨us',hrun,hrl⟩:=oH hw h2 hc;have D:∀i o,ax os2 i=Sh o->okR k k' i=Sm/\o.all (okR k k')=Sm:=by
   intro i o hio;have:=Ri.1 h4 (i,o) (bG hio);simpa using this
  let m3:Gm:=λi=>if(ax os2 i).isSome then m2 i else Sl
  have q:∀i x,m3 i=Sh x->m2 i=Sh x:=λi x h=>by
   simp only[m3]at h;split at h
   .exact h
   .cases h
  have A:∀i,okR k k' i=Sm->avK k' i=S1:=by
   intro i hi;simp only[okR,Sg,sh]at hi;apply iI;rcases hi with h|h
   .rw[h];rfl
   .rw[h.1];simp
  have M:∀(i:Nat)(x:Nat×Nat),okR k k' i=Sm->m3 i=Sh x->m2 i=Sh x:=λi x _ h=>q i x h
  refine⟨hw.df.trans hd1,_,hrun,_,cS vs,ax os2,m3,R2,O,h7,kn h3,D,HR.dfs (R0:=R1) ?_ hp1.symm,?_⟩
  .refine⟨?_,?_,?_,?_,?_,hw.hr.rsz,hw.hr.rfr,hw.hr.r0,hw.hr.frame,λi x hi h=>hw.hr.keep i x hi (q i x h),λi hi=>cR hi⟩
   .intro i;simp only[m3];cases e:ax os2 i with
    |none=>rfl
    | some o=>
      have:=hw.hr.dom i;have B:(mkS l os' k2).ob i=Sh o:=h5 i o e;rw[B]at this;simpa using this
   .intro i hi;cases e:ax os2 i with
    |none=>rfl
    | some o=>
      have:=A i (D i o e).1;rw[hi]at this;cases this
   .intro i o b N e1 B;have H:=hw.hr.obj i o b N (h5 i o e1) (q _ _ B);have L:lz w' m2 (mkS l os' k2).av R2 b N (o.ren (λi=>i)):=by rw[Ob.zM];exact H
    exact L.gx (λi=>i) (okR k k') M A (D i o e1).2
   .exact λi j b N N' e1 B=>hw.hr.inj i j b N N' (q _ _ e1) (q _ _ B)
   .exact λi b N e=>hw.hr.own i b N (q _ _ e)
  .have L:Rel w' m2 (mkS l os' k2).av R2 ((cS vs).ren (λi=>i)) (if h:us'.toArray.size=1 then us'.toArray[0]else .tuple us'.toArray):=by rw[V.zM];exact o8 hrl
   exact L.gx (λi=>i) (okR k k') M A _ _ (kn h3)
 cases ex with
 |normal=>obtain⟨l,os',vs,os2,k2,h1,h2,h3,h4,h5,h6,h7,H⟩:=hq;exact G l os' vs os2 k2 h1 h2 h3 h4 h5 h6 h7 H
 |ret=>obtain⟨l,os',vs,os2,k2,h1,h2,h3,h4,h5,h6,h7,H⟩:=hq;exact G l os' vs os2 k2 h1 h2 h3 h4 h5 h6 h7 H
 |_=>exact hq.elim
end
end Go.Proofs.YtoplpepiabedhaaGreatDoor
