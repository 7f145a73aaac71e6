/- Lemmas. No condition. -/
import Derived.Laws.MakeOwn
import Derived.Great.BuildSlice
import Derived.Test.YtkkenamefaegfaaGreatDoorJE1
set_option maxRecDepth 100000
set_option maxHeartbeats 4000000
open Go.RowKit Go.Proofs.Tryz
open Option renaming some→UF,none→UG
open Bool renaming true→VA,false→VC
namespace Go.Proofs.YtkkenamefaegfaaGreatDoor
variable{C:Ctx}{n d j k t i fuel id off size bytes s b N id2:Nat}{σ:St}{a:Act}{w:World}{m:Gm}{R:Nat->Prop}{f:FuncId}{xs:Array Operand}{dst:Option Tmp}{ps cs zs fs news:List PV}{α β:Type}{listed:Array Bool}{Rl:List Nat}{cl:List (List Nat)}{e T T2:TypeId}{z:Value}{kl:IntKind}{il:Int}{P:Program}{us:List Value}{c:Code}{ρ:Nat->Nat}{K:St->Prop}{y:Operand}{r:PV}{bn:Option Bool}
section
theorem SW.drew{w':World}(h:SW C n σ a w m R)(q:w'.heap=w.heap)(A:w'.os=w.os)(B:w'.tape=w.tape)(D:w'.output=w.output):SW C n σ a w' m R:=by
 have u:∀b,R b->R b/\w'.heap[b]? =w.heap[b]? :=λb hb=>⟨hb,by rw[q]⟩
 have:=h.world (w':=w') (m':=m) (R':=R) (ob':=σ.ob) (av':=σ.av) ?_ u (λ_ _ _ e=>e) (λ_ e=>e)
 .exact this
 refine⟨h.hr.dom,h.hr.free,?_,h.hr.inj,?_,?_,h.hr.rfr,h.hr.r0,?_,h.hr.j4,h.hr.res⟩
 .intro i o b N h1 h2;exact(h.hr.obj i o b N h1 h2).mono u (λ_ _ _ e=>e) (λ_ e=>e) (by rw[q])
 .intro i b N h1;rw[q];exact h.hr.own i b N h1
 .intro b hb;rw[q];exact h.hr.rsz b hb
 exact⟨A.trans h.hr.frame.os,B.trans h.hr.frame.tape,D.trans h.hr.frame.output,by rw[q];exact h.hr.frame.size,λk hk hF=>by rw[q];exact h.hr.frame.block k hk hF⟩
def DY(ops:Array Oper)(n:Nat)(o:Oper):Option Tmp:=
 match o.guard with
 |some (j,_)=>UF (((ops[j]?).bind (·.dst)).getD n)
 |none=>UG
structure Agr(n:Nat)(ops:Array Oper)(o:Oper)(σ τ:St)(s:OS)(rd:List Nat):Prop where
 e:∀(i:Nat)(x:Operand),o.op.operands.toList[i]? =UF x->τ.ev n x=σ.ev n x
 g:∀t,DY ops n o=UF t->τ.ev n (.tmp t)=σ.ev n (.tmp t)
 o:∀(i id:Nat),rd[i]? =UF id->τ.ob id=σ.ob id
 n:∀(i id:Nat),s.nw[i]? =UF id->τ.av id=VA
def LJ(C:Ctx)(n:Nat)(ops:Array Oper)(o:Oper)(σ:St)(s:OS)(rd:List Nat):Prop:=
 ∀τ,Agr n ops o σ τ s rd->match o.guard with
  |none=>XJ C n o τ s
  |some (j,want)=>∃b,(τ.ev n (.tmp (((ops[j]?).bind (·.dst)).getD n))).gd=UF b/\(b=UF want->XJ C n o τ s)/\(b≠UF want->s=⟨und,[],[]⟩)
def dy(ops:Array Oper)(n:Nat)(o:Oper):List Tmp:=(o.op.operands.toList.filterMap fun| .tmp t=>UF t|_=>UG)++(DY ops n o).toList
def inL(d:Nat):List Nat->Bool
 |[]=>VC
 |x::l=>Nat.beq x d||inL d l
def meet(a:List Nat):List Nat->Bool
 |[]=>VC
 |x::l=>inL x a||meet a l
structure It where
 i:Nat
 o:Oper
 s:OS
 wk:List Nat
 nw:List Nat
 rd:List Nat
def gv(ops:Array Oper)(n:Nat)(a b:It):Bool:=
 (match a.o.dst with|some d=>inL d (dy ops n b.o)||(match b.o.dst with|some e=>Nat.beq d e|none=>VC)|none=>VC)||
 (match b.o.dst with|some e=>inL e (dy ops n a.o)|none=>VC)||
 meet a.wk (b.rd++b.wk++b.nw)||meet b.wk (a.rd++a.nw)||meet a.nw (b.rd++b.nw)||meet b.nw a.rd
def Ki(os:List Oper)(acc:List (List Nat)):List (List Nat):=
 match os with
 |[]=>acc
 | o::os=>
   let es:=o.after.toList.filterMap λe=>if Region.binds .any e then UF e.on else UG
   Ki os (acc++[es.foldl (λl i=>if inL i l then l else(i::l)++((acc[i]?).getD []).filter (λz=> !(inL z (i::l)))) []])
def jD:Nat->List Oper->Bool
 |_,[]=>VA
 |k,o::os=>(o.after.toList.all λe=> !(Region.binds .any e)||Nat.blt e.on k)&&jD (k+1) os
def gW(ops:Array Oper)(n:Nat)(cl:List (List Nat))(it:It)(acc:List It):Bool:=
 (acc.all λb=> !(gv ops n b it)||inL b.i ((cl[it.i]?).getD []))&&(acc.all λb=> !(Nat.beq b.i it.i))
def gOk(n:Nat)(ops:Array Oper)(o:Oper)(τ:St):Prop:=match o.guard with
 |none=>True
 |some (j,want)=>(τ.ev n (.tmp (((ops[j]?).bind (·.dst)).getD n))).gd=UF (UF want)
def LJR(C:Ctx)(n:Nat)(ops:Array Oper)(o:Oper)(σ:St)(P:OS->Prop)(wk nw rd:List Nat):Prop:=
 ∀τ,Agr n ops o σ τ ⟨.pv .any,[],nw⟩ rd->gOk n ops o τ/\OJ C n o (λτ'=>∃s,P s/\s.wr.map (·.1)=wk/\s.nw=nw/\τ'=τ.app o.dst s) τ
def DL(C:Ctx)(n:Nat)(ops:Array Oper)(cl:List (List Nat)):List Nat->List It->(St->Prop)->St->Prop
 |[],acc,K,σ=>(List.range ops.size).all (λi=>inL i (acc.map (·.i)))=VA/\K σ
 | i::is,acc,K,σ=>∃o,ops[i]? =UF o/\
   ((∃s rd,LJ C n ops o σ s rd/\s.nw.all σ.av=VA/\gW ops n cl ⟨i,o,s,s.wr.map (·.1),s.nw,rd⟩ acc=VA/\DL C n ops cl is (⟨i,o,s,s.wr.map (·.1),s.nw,rd⟩::acc) K (σ.app o.dst s))\/
    (∃(P:OS->Prop)(wk nw rd:List Nat),LJR C n ops o σ P wk nw rd/\nw.all σ.av=VA/\gW ops n cl ⟨i,o,⟨.pv .any,[],[]⟩,wk,nw,rd⟩ acc=VA/\is.all (λj=>inL i ((cl[j]?).getD []))=VA/\(List.range ops.size).all (λj=>inL j (i::is)||inL j (acc.map (·.i)))=VA/\
     ∀s,P s->s.wr.map (·.1)=wk->s.nw=nw->DL C n ops cl is (⟨i,o,s,wk,nw,rd⟩::acc) K (σ.app o.dst s)))
section
variable {C:Ctx}{n:Nat}{σ τ:St}{ops:Array Oper}{cl:List (List Nat)}{i:Nat}{o:Oper}{is:List Nat}{acc:List It}{K:St->Prop}
theorem DL.step{s:OS}{d:Option Tmp}(rd:List Nat)(q:ops[i]? =UF o)(u:o.guard=UG)(A:o.dst=d)(B:∀τ,Agr n ops o σ τ s rd->XJ C n o τ s)(D:s.nw.all σ.av=VA)(hc:gW ops n cl ⟨i,o,s,s.wr.map (·.1),s.nw,rd⟩ acc=VA)
  (h:DL C n ops cl is (⟨i,o,s,s.wr.map (·.1),s.nw,rd⟩::acc) K (σ.app d s)):DL C n ops cl (i::is) acc K σ:=by
 subst A;exact⟨o,q,.inl ⟨s,rd,λτ ha=>by simp only[u];exact B τ ha,D,hc,h⟩⟩
theorem DL.stepG{s:OS}{d:Option Tmp}(rd:List Nat){want:Bool}(u:ops[i]? =UF o)(q:o.guard=UF (j,want))(A:o.dst=d)(B:σ.ev n (.tmp (((ops[j]?).bind (·.dst)).getD n))= .pv (.bool want))
  (D:∀τ,Agr n ops o σ τ s rd->XJ C n o τ s) (E:s.nw.all σ.av=VA) (hc:gW ops n cl ⟨i,o,s,s.wr.map (·.1),s.nw,rd⟩ acc=VA)
  (h:DL C n ops cl is (⟨i,o,s,s.wr.map (·.1),s.nw,rd⟩::acc) K (σ.app d s)):DL C n ops cl (i::is) acc K σ:=by
 subst A;exact⟨o,u,.inl ⟨s,rd,λτ ha=>by
  simp only[q];exact⟨UF want,V.tI ((ha.g _ (by simp only[DY,q])).trans B),λ_=>D τ ha,λe=>absurd O e⟩,E,hc,h⟩⟩
theorem DL.rel{d:Option Tmp}(P:OS->Prop)(wk nw rd:List Nat)(u:ops[i]? =UF o)(A:o.guard=UG)(B:o.dst=d)(D:∀τ,Agr n ops o σ τ ⟨.pv .any,[],nw⟩ rd->OJ C n o (λτ'=>∃s,P s/\s.wr.map (·.1)=wk/\s.nw=nw/\τ'=τ.app o.dst s) τ)
  (E:nw.all σ.av=VA) (hc:gW ops n cl ⟨i,o,⟨.pv .any,[],[]⟩,wk,nw,rd⟩ acc=VA) (G:is.all (λj=>inL i ((cl[j]?).getD []))=VA) (q:(List.range ops.size).all (λj=>inL j (i::is)||inL j (acc.map (·.i)))=VA)
  (h:∀s,P s->s.wr.map (·.1)=wk->s.nw=nw->DL C n ops cl is (⟨i,o,s,wk,nw,rd⟩::acc) K (σ.app d s)):DL C n ops cl (i::is) acc K σ:=by
 subst B;exact⟨o,u,.inr ⟨P,wk,nw,rd,λτ ha=>⟨by unfold gOk;rw[A];trivial,D τ ha⟩,E,hc,G,q,h⟩⟩
theorem Agr.args{s:OS}{rd:List Nat}{ts:Array TypeId}{ty:TypeId}{pos:String}{after:Array Edge}{gd:Option (Nat×Bool)}
  (h:Agr n ops ⟨dst,.call { callee:= .value (.func f),args:=xs,argTypes:=ts },ty,pos,after,gd⟩ σ τ s rd):xs.toList.map (τ.ev n)=xs.toList.map (σ.ev n):=by
 apply Ud;intro x hx;obtain⟨i,hi⟩:=UX hx;exact h.e (i+1) x (by simpa[Op.operands,Call.operands,Wi]using hi)
end
section
variable {n:Nat}{ops:Array Oper}{σ τ:St}{s:OS}{rd:List Nat}{f:FuncId}{xs:Array Operand}{ts:Array TypeId}{dst:Option Tmp}{ty:TypeId}{pos:String}{after:Array Edge}{gd:Option (Nat×Bool)}
theorem Agr.aD (h:Agr n ops ⟨dst,.call { callee:= .value (.func f),args:=xs,argTypes:=ts },ty,pos,after,gd⟩ σ τ s rd)  (hp:(V.args (λ_=>UG) (xs.toList.map (σ.ev n))).map PV.fgA=UF ps):
  (V.args (λ_=>UG) (xs.toList.map (τ.ev n))).map PV.fgA=UF ps:=by rw[h.args];exact hp
end
section
variable {n:Nat}{ops:Array Oper}{σ τ:St}{s:OS}{rd:List Nat}{dst:Option Tmp}{ty:TypeId}{pos:String}{after:Array Edge}{gd:Option (Nat×Bool)}{T:TypeId}{parts:Array (Nat×Operand)}
theorem Agr.PU(h:Agr n ops ⟨dst,.buildSlice T k parts,ty,pos,after,gd⟩ σ τ s rd):(parts.toList.map λp=>(p.1,τ.ev n p.2))=parts.toList.map λp=>(p.1,σ.ev n p.2):=by
 apply Ud;intro p hp;obtain⟨i,hi⟩:=UX hp;rw[h.e i p.2 (by simp[Op.operands,hi])]
end
section
variable {C:Ctx}{n:Nat}{ops:Array Oper}
theorem eM:∀{l:List Nat},inL d l=VA↔d∈l
 |[]=>by simp[inL]
 | x::l=>by
   simp only[inL,Ub,BY,eM (l:=l)];exact⟨λh=>h.imp (λe=>(cd e).symm) id,λh=>h.imp (λe=>by rw[e];exact Nat.beq_refl x) id⟩
theorem mI{a:List Nat}:∀{l:List Nat},meet a l=VA↔∃x,x∈a/\x∈l
 |[]=>by simp[meet]
 | x::l=>by
   simp only[meet,Ub,eM,mI (l:=l),BY];constructor
   .grind
   grind
theorem yL:∀(l:List (Nat×Option Ob))(f:Nat->Option Ob)(id:Nat),id∉l.map (·.1)->obL l f id=f id
 |[],_,_,_=>rfl
 | (i,o)::l,f,id,h=>by
   simp only[cu,BY,not_or]at h;have hb:Nat.beq id i=VC:=by cases hb:Nat.beq id i;rfl;exact absurd (cd hb) h.1
   simp only[obL,hb,Ue];exact yL l f id h.2
theorem FO:∀(l:List (Nat×Option Ob))(f g:Nat->Option Ob)(id:Nat),id∈l.map (·.1)->obL l f id=obL l g id
 |[],_,_,_,h=>by simp at h
 | (i,o)::l,f,g,id,h=>by
   simp only[obL];cases hb:Nat.beq id i
   .simp only[Ue];refine FO l f g id ?_;simp only[cu,BY]at h;rcases h with e|h
    .rw[e]at hb;simp at hb
    exact h
   .rfl
theorem kY:∀(l:List Nat)(f:Av)(id:Nat),avL l f id=(f id&& !inL id l)
 |[],f,id=>by simp[avL,inL]
 | i::l,f,id=>by
   simp only[avL,inL];by_cases e:id=i
   .subst e;simp
   have hb:Nat.beq id i=VC:=by cases hb:Nat.beq id i;rfl;exact absurd (cd hb) e
   have q:Nat.beq i id=VC:=by cases hb:Nat.beq i id;rfl;exact absurd (cd hb).symm e
   rw[hb,q,kY l f id];simp
def ft(D:Nat->Bool)(σ0:St):List It->St
 |[]=>σ0
 |it::l=>bif D it.i then(ft D σ0 l).app it.o.dst it.s else ft D σ0 l
theorem KO{a b:It}(σ:St)(h:gv ops n a b=VC)(A:a.s.wr.map (·.1)=a.wk)(B:b.s.wr.map (·.1)=b.wk):(σ.app a.o.dst a.s).app b.o.dst b.s=(σ.app b.o.dst b.s).app a.o.dst a.s:=by
 simp only[gv,T5]at h;obtain⟨⟨⟨⟨⟨h1,h2⟩,h3⟩,h4⟩,h5⟩,h6⟩:=h;have D:∀id,id∈a.s.wr.map (·.1)->id∉b.s.wr.map (·.1):=λid hx hy=>by
  rw[A]at hx;rw[B]at hy;have:meet a.wk (b.rd++b.wk++b.nw)=VA:=mI.2 ⟨id,hx,by simp only[Uf];exact .inl (.inr hy)⟩;rw[h3]at this;cases this
 simp only[St.app,St.mk.injEq];refine⟨?_,?_,?_⟩
 .cases hd:a.o.dst with
  |none=>cases b.o.dst<;>rfl
  | some d=>
    cases he:b.o.dst with
    |none=>rfl
    | some e=>
      simp only;rw[hd,he]at h1;simp only[T5]at h1;have u:d≠e:=λq=>by subst q;simp at h1
      funext x;by_cases p:x=d
      .grind[a8,aC]
      grind[aC,a8]
 .grind[yL,FO]
 grind[kY,inL]
def Good(C:Ctx)(n:Nat)(ops:Array Oper)(cl:List (List Nat))(σ0:St)(Rl:List Nat):List It->Prop
 |[]=>True
 |it::l=>(it.i∈Rl\/(LJ C n ops it.o (ft (λ_=>VA) σ0 l) it.s it.rd))/\it.nw.all (ft (λ_=>VA) σ0 l).av=VA/\gW ops n cl it l=VA/\ops[it.i]? =UF it.o/\it.s.wr.map (·.1)=it.wk/\it.s.nw=it.nw/\Good C n ops cl σ0 Rl l
section
variable {cl:List (List Nat)}{σ0:St}{Rl:List Nat}
theorem Good.split:∀{l1:List It}{it:It}{l2:List It},Good C n ops cl σ0 Rl (l1++it::l2)->Good C n ops cl σ0 Rl (it::l2)
 |[],_,_,h=>h
 |a::l1,_,_,h=>Good.split (l1:=l1) h.2.2.2.2.2.2
theorem Good.mem:∀{l:List It},Good C n ops cl σ0 Rl l->∀it∈l,ops[it.i]? =UF it.o/\it.s.wr.map (·.1)=it.wk/\it.s.nw=it.nw
 |[],_,it,h=>by simp at h
 | a::l,h,it,hm=>by
   rcases BY.1 hm with rfl|hm
   .exact⟨h.2.2.2.1,h.2.2.2.2.1,h.2.2.2.2.2.1⟩
   exact Good.mem h.2.2.2.2.2.2 it hm
theorem Good.waits:∀{l1:List It}{it:It}{l2:List It},Good C n ops cl σ0 Rl (l1++it::l2)->∀b∈l1,(gv ops n it b=VA->it.i∈(cl[b.i]?).getD [])/\b.i≠it.i
 |[],_,_,_,b,hb=>by simp at hb
 | a::l1,it,l2,h,b,hb=>by
   rcases BY.1 hb with rfl|hb
   .have h1:=h.2.2.1;simp only[gW,du]at h1;have q:=OF.1 h1.1 it Xn;have u:=OF.1 h1.2 it Xn;refine⟨λhc=>?_,λe=>?_⟩
    .rw[hc]at q;exact eM.1 (by simpa using q)
    rw[e]at u;simp at u
   exact Good.waits (l1:=l1) h.2.2.2.2.2.2 b hb
theorem Good.Iw{it:It}{l2:List It}(h:Good C n ops cl σ0 Rl (it::l2)):∀b∈l2,(gv ops n b it=VA->b.i∈(cl[it.i]?).getD [])/\b.i≠it.i:=by
 intro b hb;have q:=h.2.2.1;simp only[gW,du]at q;have u:=OF.1 q.1 b hb;have A:=OF.1 q.2 b hb;refine⟨λhc=>?_,λe=>?_⟩
 .rw[hc]at u;exact eM.1 (by simpa using u)
 rw[e]at A;simp at A
theorem A4{D:Nat->Bool}{it:It}{l2:List It}(B:D it.i=VC)(u:it.s.wr.map (·.1)=it.wk)(A:∀b∈l2,b.i≠it.i):∀(l1:List It),(∀b∈l1,b.i≠it.i/\b.s.wr.map (·.1)=b.wk/\(D b.i=VA->gv ops n it b=VC))->
  ft (λj=>D j||Nat.beq j it.i) σ0 (l1++it::l2)=(ft D σ0 (l1++it::l2)).app it.o.dst it.s
 | [],_=>by
   have low:∀l:List It,(∀b∈l,b.i≠it.i)->ft (λj=>D j||Nat.beq j it.i) σ0 l=ft D σ0 l:=by
    intro l;induction l with
    |nil=>intro _;rfl
    | cons b l ih=>
      intro h;have q:Nat.beq b.i it.i=VC:=by cases q:Nat.beq b.i it.i;rfl;exact absurd (cd q) (h b Xn)
      simp only[ft,q,Vc,ih (λc hc=>h c (by simp[hc]))]
   simp only[Uv,ft,B,Nat.beq_refl,Xb,U3,Ue,low l2 A]
 | b::l1,h=>by
   have ih:=A4 B u A l1 (λc hc=>h c (by simp[hc]));obtain⟨h1,h2,h3⟩:=h b Xn;have q:Nat.beq b.i it.i=VC:=by cases q:Nat.beq b.i it.i;rfl;exact absurd (cd q) h1
   simp only[Uz,ft,q,Vc,ih];cases hDb:D b.i with
   |false=>rfl
   | true=>
     simp only[U3];exact KO (n:=n) (ops:=ops) _ (h3 hDb) u h2
theorem qU(g:St->α)(D D':Nat->Bool):∀(l:List It),(∀b∈l,D b.i=D' b.i\/∀τ:St,g (τ.app b.o.dst b.s)=g τ)->(∀b∈l,∀τ τ':St,g τ=g τ'->g (τ.app b.o.dst b.s)=g (τ'.app b.o.dst b.s))->g (ft D σ0 l)=g (ft D' σ0 l)
 |[],_,_=>rfl
 | b::l,h,h2=>by
   have ih:=qU g D D' l (λc hc=>h c (by simp[hc])) (λc hc=>h2 c (by simp[hc]));simp only[ft];rcases h b Xn with e|e
   .grind
   grind
theorem w9(g:St->α)(D:Nat->Bool){l2:List It}:∀(l1:List It),(∀b∈l1,D b.i=VC\/∀τ:St,g (τ.app b.o.dst b.s)=g τ)->g (ft D σ0 (l1++l2))=g (ft D σ0 l2)
 |[],_=>rfl
 | b::l1,h=>by
   have ih:=w9 g D l1 (λc hc=>h c (by simp[hc])) (l2:=l2);simp only[Uz,ft];rcases h b Xn with e|e
   .rw[e];exact ih
   grind
end
theorem HD{b:It}(h:b.o.dst≠UF t)(τ:St):(τ.app b.o.dst b.s).sl t=τ.sl t:=by
 simp only[St.app];cases hd:b.o.dst with
 |none=>rfl
 |some d=>exact a8 _ _ (λq=>h (by rw[hd,q]))
theorem IU(b:It)(t:Nat)(τ τ':St)(h:τ.sl t=τ'.sl t):(τ.app b.o.dst b.s).sl t=(τ'.app b.o.dst b.s).sl t:=by
 simp only[St.app];cases hd:b.o.dst with
 |none=>exact h
 | some d=>
   by_cases e:t=d
   .subst e;simp only[aC]
   simp only[a8 _ _ e,h]
theorem xW{b:It}(h:t∉b.s.wr.map (·.1))(τ:St):(τ.app b.o.dst b.s).ob t=τ.ob t:=yL _ _ _ h
theorem GR(b:It)(t:Nat)(τ τ':St)(h:τ.ob t=τ'.ob t):(τ.app b.o.dst b.s).ob t=(τ'.app b.o.dst b.s).ob t:=by
 by_cases e:t∈b.s.wr.map (·.1)
 .exact FO _ _ _ _ e
 rw[xW e,xW e,h]
theorem Je{b:It}(h:t∉b.s.nw)(τ:St):(τ.app b.o.dst b.s).av t=τ.av t:=by
 have q:inL t b.s.nw=VC:=by cases hb:inL t b.s.nw;rfl;exact absurd (eM.1 hb) h
 simp only[St.app,kY,q,Bool.not_false,Wh]
theorem Fu(b:It)(t:Nat)(τ τ':St)(h:τ.av t=τ'.av t):(τ.app b.o.dst b.s).av t=(τ'.app b.o.dst b.s).av t:=by
 simp only[St.app,kY,h]
theorem IH(D:Nat->Bool)(all:List Oper)(B:∀j o,all[j]? =UF o->D j=VA->∀e∈o.after,Region.binds .any e=VA->D e.on=VA):
  ∀(os:List Oper)(acc:List (List Nat)),all.drop acc.length=os->(∀j,D j=VA->∀i∈(acc[j]?).getD [],D i=VA)->∀j,D j=VA->∀i∈((Ki os acc)[j]?).getD [],D i=VA:=by
 intro os;induction os with
 |nil=>intro acc _ h;simpa only[Ki]using h
 | cons o os ih=>
   intro acc hd h;simp only[Ki];have E:all[acc.length]? =UF o:=by
    have:=ah (·[0]?) hd;simpa using this
   refine ih _ ?_ ?_
   .have:=ah (List.drop 1) hd;simpa[Wi]using this
   .intro j hj i hi;by_cases e:j<acc.length
    .grind
    by_cases e2:j=acc.length
    .subst e2;rw[List.getElem?_append_right (AT _)]at hi;simp only[Nat.sub_self,List.getElem?_cons_zero,V8]at hi;have u:∀q∈(o.after.toList.filterMap λe=>if Region.binds .any e then UF e.on else UG),D q=VA:=by grind
     revert hi u
     generalize (o.after.toList.filterMap λe=>if Region.binds .any e then UF e.on else UG)=es;have A:∀(es:List Nat)(l0:List Nat),(∀q∈l0,D q=VA)->(∀q∈es,D q=VA)->∀i∈es.foldl (λl i=>if inL i l then l else(i::l)++((acc[i]?).getD []).filter (λz=> !(inL z (i::l)))) l0,D i=VA:=by
      intro es;induction es with
      |nil=>intro l0 h0 _ i hi;exact h0 i hi
      | cons q es ihe=>
        intro l0 h0 u i hi;simp only[U0]at hi;refine ihe _ ?_ (λq' hq'=>u q' (by simp[hq'])) i hi;intro z hz;split at hz
        .exact h0 z hz
        grind
     intro hi u;exact A es [] Xn u i hi
    grind
theorem CO:∀{os:List Oper}{k:Nat},jD k os=VA->∀{i:Nat}{o:Oper},os[i]? =UF o->∀e∈o.after,Region.binds .any e=VA->e.on<k+i
 |[],_,_,i,o,h=>by simp at h
 | q::os,k,hk,i,o,h=>by
   simp only[jD,du]at hk;cases i with
   | zero=>
     simp at h;subst h;intro e he hb;have:=(OF.1 hk.1) e (by simpa using he);simp only[hb,Bool.not_true,Bool.false_or]at this;simpa[VG]using this
   | succ i=>
     simp at h;intro e he hb;have:=CO hk.2 h e he hb;omega
theorem Ff{a b:It}(q:a.o.dst=UF d)(u:d∈dy ops n b.o):gv ops n a b=VA:=by
 have:inL d (dy ops n b.o)=VA:=eM.2 u;simp only[gv,q,this,Xb,Bool.true_or]
theorem M9{a b:It}(q:b.o.dst=UF d)(u:d∈dy ops n a.o):gv ops n a b=VA:=by
 have:inL d (dy ops n a.o)=VA:=eM.2 u;simp only[gv,q,this,Xb,Bool.true_or]
theorem JO{a b:It}(q:d∈a.wk)(u:d∈b.rd):gv ops n a b=VA:=by
 have:meet a.wk (b.rd++b.wk++b.nw)=VA:=mI.2 ⟨d,q,by simp only[Uf];exact .inl (.inl u)⟩;simp only[gv,this,Xb,Bool.true_or]
theorem Ll{a b:It}(q:d∈b.wk)(u:d∈a.rd):gv ops n a b=VA:=by
 have:meet b.wk (a.rd++a.nw)=VA:=mI.2 ⟨d,q,by simp only[Uf];exact .inl u⟩;simp only[gv,this,Xb,Bool.true_or]
theorem y8{a b:It}(q:d∈a.nw)(u:d∈b.nw):gv ops n a b=VA:=by
 have:meet a.nw (b.rd++b.nw)=VA:=mI.2 ⟨d,q,by simp only[Uf];exact .inr u⟩;simp only[gv,this,Xb,Bool.true_or]
abbrev Dn(listed:Array Bool):Nat->Bool:=λi=>listed.getD i VC
structure Lst(ops:Array Oper)(listed:Array Bool)(fuel:Nat)(acc:List It)(Rl:List Nat):Prop where
 sz:listed.size=ops.size
 fuel:∃us:List Nat,us.length<=fuel/\∀i,i<ops.size->Dn listed i=VC->i∈us
 cl:∀j o,ops[j]? =UF o->Dn listed j=VA->∀e∈o.after,Region.binds .any e=VA->Dn listed e.on=VA
 sub:∀i,Dn listed i=VA->i∈acc.map (·.i)
 rl:∀i∈Rl,Dn listed i=VA
theorem iB(q:listed.size=ops.size):i∈Region.ready .any ops listed↔i<ops.size/\Dn listed i=VC/\∀o,ops[i]? =UF o->∀e∈o.after,Region.binds .any e=VA->Dn listed e.on=VA:=by
 unfold Region.ready;rw[UW];simp only[UR,du,Vg];constructor
 .grind[Array.all_eq_true_iff_forall_mem.1]
 grind
theorem tg(q:jD 0 ops.toList=VA)(u:listed.size=ops.size)(A:Region.ready .any ops listed=[]):∀i,i<ops.size->Dn listed i=VA:=by
 intro i;induction i using Nat.strongRecOn with
 | _ i ih=>
   intro hi;cases hb:Dn listed i with
   |true=>rfl
   | false=>
     exfalso;have:i∈Region.ready .any ops listed:=(iB u).2 ⟨hi,hb,λo ho e he hbd=>by
      have:=CO q (i:=i) (o:=o) (by simpa using ho) e he hbd;exact ih e.on Xj Xj⟩
     rw[A]at this;simp at this
theorem gp(q:i<listed.size)(j:Nat):Dn (listed.setIfInBounds i VA) j=(Dn listed j||Nat.beq j i):=by
 simp only[Dn,Vb,VH];by_cases e:i=j
 .subst e;simp[q]
 have hb:Nat.beq j i=VC:=by cases hb:Nat.beq j i;rfl;exact absurd (cd hb).symm e
 simp[e,hb]
theorem Lst.next{acc:List It}(h:Lst ops listed (fuel+1) acc Rl)(D:i∈Region.ready .any ops listed){acc':List It}{Rl':List Nat}(u:∀j,j∈acc.map (·.i)\/j=i->j∈acc'.map (·.i))(B:∀j∈Rl',j∈Rl\/j=i):
  Lst ops (listed.setIfInBounds i VA) fuel acc' Rl':=by
 obtain⟨hi,hDi,hedg⟩:=(iB h.sz).1 D;have q:i<listed.size:=by rw[h.sz];exact hi
 obtain⟨us,hu1,hu2⟩:=h.fuel;refine⟨by simpa using h.sz,⟨us.erase i,?_,?_⟩,?_,?_,?_⟩
 .grind
 .intro j hj hjl;rw[gp q]at hjl;simp only[T5]at hjl;have A:j≠i:=λe=>by subst e;simp at hjl
  exact(List.mem_erase_of_ne A).2 (hu2 j hj hjl.1)
 .intro j o' ho' hj e he hb;rw[gp q]at hj ⊢;by_cases e1:j=i
  .subst e1;rw[hedg o' ho' e he hb];rfl
  have hb':Nat.beq j i=VC:=by cases hb:Nat.beq j i;rfl;exact absurd (cd hb) e1
  rw[hb',Vc]at hj;rw[h.cl j o' ho' hj e he hb];rfl
 .intro j hj;rw[gp q]at hj;rcases(Bool.or_eq_true_iff).1 hj with hj|hj
  .exact u j (.inl (h.sub j hj))
  simp_all
 .intro j hj;rw[gp q];rcases B j hj with h'|h'
  .rw[h.rl j h'];rfl
  subst h';simp
theorem Lst.clo(u:Ki ops.toList []=cl){acc:List It}(h:Lst ops listed fuel acc Rl)(B:Dn listed j=VA)(A:i∈(cl[j]?).getD []):Dn listed i=VA:=by
 rw[<-u]at A;exact IH (Dn listed) ops.toList (λk q hq=>h.cl k q (by simpa using hq)) ops.toList [] O Xn j B i A
theorem sU(X:Ki ops.toList []=cl){σ0:St}{l1:List It}{it:It}{l2:List It}(Y:Good C n ops cl σ0 Rl (l1++it::l2))(Z:Lst ops listed (fuel+1) (l1++it::l2) Rl)
  (hr:it.i∈Region.ready .any ops listed) {a:Act} {w:World} (aa:SJ C n (ft (Dn listed) σ0 (l1++it::l2)) a w) {Q:Exit->Act->World->Prop}
  (next:∀a' w',Lst ops (listed.setIfInBounds it.i VA) fuel (l1++it::l2) Rl->SJ C n (ft (Dn (listed.setIfInBounds it.i VA)) σ0 (l1++it::l2)) a' w'->wpAny C.P .any ops Q fuel (listed.setIfInBounds it.i VA) a' w'):
  wpOp C.P ops Q it.i (wpAny C.P .any ops Q fuel (listed.setIfInBounds it.i VA)) a w:=by
 obtain⟨hi,hDi,hedg⟩:=(iB Z.sz).1 hr;have I:it.i<listed.size:=by rw[Z.sz];exact hi
 have J:=Y.split;have W:Lst ops (listed.setIfInBounds it.i VA) fuel (l1++it::l2) Rl:=Z.next hr (λj hj=>by grind) (λj hj=> .inl hj);have L:∀b∈l1,gv ops n it b=VA->Dn listed b.i=VC:=by
  intro b hb hc;cases hd:Dn listed b.i with
  |false=>rfl
  | true=>
    have:=Z.clo X hd ((Y.waits b hb).1 hc);rw[hDi]at this;cases this
 have A:∀b∈l2,gv ops n b it=VA->Dn listed b.i=VA:=by
  intro b hb hc;have E:=W.clo X (j:=it.i) (i:=b.i) (by rw[gp I];simp) ((J.Iw b hb).1 hc);rw[gp I]at E;have M:Nat.beq b.i it.i=VC:=by cases M:Nat.beq b.i it.i;rfl;exact absurd (cd M) (J.Iw b hb).2
  rwa [M,Vc]at E
 have B:=Y.mem;obtain⟨hspec,hnwall,_,ho,hwk,hnw,_⟩:=J;have ab:LJ C n ops it.o (ft (λ_=>VA) σ0 l2) it.s it.rd:=by
  rcases hspec with h|h
  .have:=Z.rl it.i h;rw[hDi]at this;cases this
  exact h
 have D:∀{α:Type}(g:St->α),(∀b∈l1++it::l2,∀τ τ':St,g τ=g τ'->g (τ.app b.o.dst b.s)=g (τ'.app b.o.dst b.s))->(∀b∈l1,gv ops n it b=VA\/∀τ:St,g (τ.app b.o.dst b.s)=g τ)->(∀b∈l2,gv ops n b it=VA\/∀τ:St,g (τ.app b.o.dst b.s)=g τ)->
   g (ft (Dn listed) σ0 (l1++it::l2))=g (ft (λ_=>VA) σ0 l2):=by
  intro α g h0 E h2;rw[w9 g (Dn listed) l1 (λb hb=>(E b hb).imp (L b hb) id)];have:g (ft (Dn listed) σ0 (it::l2))=g (ft (Dn listed) σ0 l2):=by simp only[ft,hDi,Ue]
  rw[this];exact qU g _ _ l2 (λb hb=>(h2 b hb).imp (λhc=>A b hb hc) id) (λb hb=>h0 b (by simp[hb]))
 have ac:Agr n ops it.o (ft (λ_=>VA) σ0 l2) (ft (Dn listed) σ0 (l1++it::l2)) it.s it.rd:=by
  have G:∀t,t∈dy ops n it.o->(ft (Dn listed) σ0 (l1++it::l2)).sl t=(ft (λ_=>VA) σ0 l2).sl t:=by
   intro t ht;refine D (λτ=>τ.sl t) (λb _=>IU b t) (λb _=>?_) (λb _=>?_)
   .grind[M9,HD]
   grind[Ff,HD]
  refine⟨?_,?_,?_,?_⟩
  .intro k x U;cases x with
   | tmp t=>
     have:t∈dy ops n it.o:=by
      unfold dy;refine Wg _ (List.mem_filterMap.2 ⟨.tmp t,U5 U,O⟩)
     simp only[St.ev,G t this]
   |_=>rfl
  .intro t ht;have:t∈dy ops n it.o:=by grind[dy,WM]
   simp only[St.ev,G t this]
  .intro k q hq;have H:q∈it.rd:=U5 hq;refine D (λτ=>τ.ob q) (λb _=>GR b q) (λb hb=>?_) (λb hb=>?_)
   .grind[Ll,xW]
   grind[JO,xW]
  .intro k q hq;have H:q∈it.nw:=by rw[<-hnw];exact U5 hq
   have E:=OF.1 hnwall q H;have:=D (λτ=>τ.av q) (λb _=>Fu b q) (λb hb=>?_) (λb hb=>?_)
   .exact this.trans E
   .grind[y8,Je]
   grind[y8,Je]
 have U:=ab _ ac;have ad:ft (Dn (listed.setIfInBounds it.i VA)) σ0 (l1++it::l2)=(ft (Dn listed) σ0 (l1++it::l2)).app it.o.dst it.s:=by
  have e:Dn (listed.setIfInBounds it.i VA)=λj=>Dn listed j||Nat.beq j it.i:=funext (gp I)
  rw[e];refine A4 (n:=n) (ops:=ops) hDi hwk (λb hb=>?_) l1 (λb hb=>⟨(Y.waits b hb).2,(B b (by simp[hb])).2.1,λhd=>?_⟩)
  .exact(Y.split.Iw b hb).2
  grind
 have u:∀a' w',SJ C n ((ft (Dn listed) σ0 (l1++it::l2)).app it.o.dst it.s) a' w'->wpAny C.P .any ops Q fuel (listed.setIfInBounds it.i VA) a' w':=λa' w' h=>next a' w' W (by rw[ad];exact h)
 unfold wpOp;rw[ho];simp only;cases hg:it.o.guard with
 | none=>
   rw[hg]at U;simp only[Region.wanted,hg,WH];refine .inl (Oper.wp_mono ?_ (U a w _ aa));rintro a' w' ⟨σ',rfl,hsj'⟩;exact u a' w' hsj'
 | some jw=>
   obtain⟨j,want⟩:=jw;rw[hg]at U;obtain⟨b,hb,E,h2⟩:=U;obtain⟨m,R,hw⟩:=aa;have hy:=fQ hw hb;simp only[Region.wanted,hg,hy];by_cases hbw:b=UF want
   .subst hbw;simp only[Uw,WH];refine .inl (Oper.wp_mono ?_ (E O a w _ ⟨m,R,hw⟩));rintro a' w' ⟨σ',rfl,hsj'⟩;exact u a' w' hsj'
   have:(b==UF want)=VC:=by simpa using hbw
   simp only[this,UO,WZ];refine u _ _ ?_;rw[h2 hbw,St.iV];exact⟨m,R,hw.put it.o.dst (I6 _ _ _ _)⟩
theorem DL.sound(J:Ki ops.toList []=cl)(L:jD 0 ops.toList=VA)(σ0:St)(K:St->Prop)(Q:Exit->Act->World->Prop)(hQ:∀a w,(∃σ',K σ'/\SJ C n σ' a w)->Q .normal a w):
  ∀(is:List Nat)(acc:List It)(Rl:List Nat),DL C n ops cl is acc K (ft (λ_=>VA) σ0 acc)->Good C n ops cl σ0 Rl acc->
   ∀fuel listed a w,Lst ops listed fuel acc Rl->SJ C n (ft (Dn listed) σ0 acc) a w->wpAny C.P .any ops Q fuel listed a w:=by
 intro is;induction is with
 | nil=>
   intro acc Rl hD hG fuel;obtain⟨hcov,hK⟩:=hD;have M:∀i,i<ops.size->∃l1 it l2,acc=l1++it::l2/\it.i=i:=by
    intro i hi;have:=eM.1 (OF.1 hcov i (by simpa using hi));obtain⟨it,hm,rfl⟩:=TG.1 this;obtain⟨l1,l2,e⟩:=List.append_of_mem hm;exact⟨l1,it,l2,e,O⟩
   have W:∀listed a w,(∀i,i<ops.size->Dn listed i=VA)->SJ C n (ft (Dn listed) σ0 acc) a w->Q .normal a w:=by
    intro listed a w G hsj;refine hQ a w ⟨_,hK,?_⟩;have e:ft (Dn listed) σ0 acc=ft (λ_=>VA) σ0 acc:=by
     refine qU (σ0:=σ0) (λτ=>τ) (Dn listed) (λ_=>VA) acc (λb hb=> .inl (G b.i ?_)) (λb _ τ τ' h=>by rw[h]);exact(TH.1 (hG.mem b hb).1).1
    rw[<-e];exact hsj
   induction fuel with
   | zero=>
     intro listed a w hL hsj;obtain⟨us,hu1,hu2⟩:=hL.fuel;have G:∀i,i<ops.size->Dn listed i=VA:=by grind
     refine⟨?_,W listed a w G hsj⟩;apply List.eq_nil_iff_forall_not_mem.2;intro i hi;have:=(iB hL.sz).1 hi;rw[G i this.1]at this;simp at this
   | succ fuel ih=>
     intro listed a w hL hsj;refine⟨λhr=>W listed a w (tg L hL.sz hr) hsj,?_⟩;intro i hir;obtain⟨l1,it,l2,rfl,rfl⟩:=M i ((iB hL.sz).1 hir).1;exact sU J hG hL hir hsj (λa' w' D A=>ih _ a' w' D A)
 | cons i is ih=>
   intro acc Rl hD hG;obtain⟨o,ho,hD|hD⟩:=hD
   .obtain⟨s,rd,hlj,hnw,hnew,hD⟩:=hD;intro fuel listed a w hL hsj;have U:Dn listed i=VC:=by
     cases hb:Dn listed i with
     |false=>rfl
     | true=>
       obtain⟨b,hm,e⟩:=TG.1 (hL.sub i hb);simp only[gW,du]at hnew;have:=OF.1 hnew.2 b hm;simp[e]at this
    have Z:ft (λ_=>VA) σ0 (⟨i,o,s,s.wr.map (·.1),s.nw,rd⟩::acc)=(ft (λ_=>VA) σ0 acc).app o.dst s:=rfl;have aa:DL C n ops cl is (⟨i,o,s,s.wr.map (·.1),s.nw,rd⟩::acc) K (ft (λ_=>VA) σ0 (⟨i,o,s,s.wr.map (·.1),s.nw,rd⟩::acc)):=by rw[Z];exact hD
    refine ih _ Rl aa ⟨.inr hlj,hnw,hnew,ho,O,O,hG⟩ fuel listed a w ⟨hL.sz,hL.fuel,hL.cl,λj hj=>?_,hL.rl⟩ ?_
    .simp only[cu,BY];exact .inr (hL.sub j hj)
    grind[ft]
   obtain⟨P,wk,nw,rd,hlj,hnw,hnew,hsucc,hcov,hD⟩:=hD;have U:∀{listed fuel},Lst ops listed fuel acc Rl->Dn listed i=VC:=by
    intro listed fuel hL;cases hb:Dn listed i with
    |false=>rfl
    | true=>
      obtain⟨b,hm,e⟩:=TG.1 (hL.sub i hb);simp only[gW,du]at hnew;have:=OF.1 hnew.2 b hm;simp[e]at this
   have X:i<ops.size:=(TH.1 ho).1;intro fuel;induction fuel with
   | zero=>
     intro listed a w hL hsj;obtain⟨us,hu1,hu2⟩:=hL.fuel;have D:=hu2 i X (U hL);have A:us=[]:=T6 Xj;rw[A]at D;simp at D
   | succ fuel ihf=>
     intro listed a w hL hsj;refine⟨λhr=>?_,?_⟩
     .have:=tg L hL.sz hr i X;rw[U hL]at this;cases this
     .intro j hjr;obtain⟨hj,hDj,hedgj⟩:=(iB hL.sz).1 hjr;by_cases e:j=i
      ·
       subst e;have H:j<listed.size:=by rw[hL.sz];exact hj
       have agr:Agr n ops o (ft (λ_=>VA) σ0 acc) (ft (Dn listed) σ0 acc) ⟨.pv .any,[],nw⟩ rd:=by
           have hIt:∀(s:OS),s.wr.map (·.1)=wk->s.nw=nw->∀b∈acc,gv ops n b ⟨j,o,s,wk,nw,rd⟩=VA->Dn listed b.i=VA:=by
            intro s _ _ b hb hc;simp only[gW,du]at hnew;have D:=OF.1 hnew.1 b hb;have hc':gv ops n b ⟨j,o,⟨.pv .any,[],[]⟩,wk,nw,rd⟩=VA:=hc;rw[hc']at D;have u:=eM.1 (by simpa using D:inL b.i ((cl[j]?).getD [])=VA);have E:Lst ops (listed.setIfInBounds j VA) fuel (⟨j,o,s,wk,nw,rd⟩::acc) Rl:=hL.next hjr (λk hk=>by simp only[cu,BY];exact hk.symm) (λk hk=> .inl hk);have A:=E.clo J (j:=j) (i:=b.i) (by rw[gp H];simp) u;rw[gp H]at A;have h3:=OF.1 hnew.2 b hb;have B:Nat.beq b.i j=VC:=by simpa using h3
            rwa [B,Vc]at A
           have I:∀{α:Type}(g:St->α),(∀b∈acc,∀τ τ':St,g τ=g τ'->g (τ.app b.o.dst b.s)=g (τ'.app b.o.dst b.s))->(∀b∈acc,gv ops n b ⟨j,o,⟨.pv .any,[],[]⟩,wk,nw,rd⟩=VA\/∀τ:St,g (τ.app b.o.dst b.s)=g τ)->g (ft (Dn listed) σ0 acc)=g (ft (λ_=>VA) σ0 acc):=by
            intro α g h0 A;exact qU g _ _ acc (λb hb=>(A b hb).imp (λhc=>by
             simp only[gW,du]at hnew;have D:=OF.1 hnew.1 b hb;rw[hc]at D;have u:=eM.1 (by simpa using D:inL b.i ((cl[j]?).getD [])=VA);have E:Lst ops (listed.setIfInBounds j VA) fuel (⟨j,o,⟨.pv .any,[],[]⟩,wk,nw,rd⟩::acc) Rl:=hL.next hjr (λk hk=>by simp only[cu,BY];exact hk.symm) (λk hk=> .inl hk);have A:=E.clo J (j:=j) (i:=b.i) (by rw[gp H];simp) u;rw[gp H]at A;have h3:=OF.1 hnew.2 b hb;have B:Nat.beq b.i j=VC:=by simpa using h3
             rwa [B,Vc]at A) id) h0
           have Y:∀t,t∈dy ops n o->(ft (Dn listed) σ0 acc).sl t=(ft (λ_=>VA) σ0 acc).sl t:=by
            intro t ht;refine I (λτ=>τ.sl t) (λb _=>IU b t) (λb _=>?_);by_cases hd:b.o.dst=UF t
            .exact .inl (Ff (b:=⟨j,o,⟨.pv .any,[],[]⟩,wk,nw,rd⟩) hd ht)
            exact .inr (HD hd)
           refine⟨?_,?_,?_,?_⟩
           .intro k x hx;cases x with
            | tmp t=>
              have:t∈dy ops n o:=by
               unfold dy;refine Wg _ (List.mem_filterMap.2 ⟨.tmp t,U5 hx,O⟩)
              simp only[St.ev,Y t this]
            |_=>rfl
           .intro t ht;have:t∈dy ops n o:=by grind[dy,WM]
            simp only[St.ev,Y t this]
           .intro k q hq;have u:q∈rd:=U5 hq;refine I (λτ=>τ.ob q) (λb _=>GR b q) (λb hb=>?_);by_cases hd:q∈b.s.wr.map (·.1)
            .exact .inl (JO (b:=⟨j,o,⟨.pv .any,[],[]⟩,wk,nw,rd⟩) (by rw[<-(hG.mem b hb).2.1];exact hd) u)
            exact .inr (xW hd)
           .intro k q hq;have u:q∈nw:=U5 hq;have D:=OF.1 hnw q u;refine(I (λτ=>τ.av q) (λb _=>Fu b q) (λb hb=>?_)).trans D;by_cases hd:q∈b.s.nw
            .exact .inl (y8 (b:=⟨j,o,⟨.pv .any,[],[]⟩,wk,nw,rd⟩) (by rw[<-(hG.mem b hb).2.2];exact hd) u)
            exact .inr (Je hd)
       obtain ⟨hg,hx⟩:=hlj _ agr;have wop:∀(K':Act->World->Prop),Oper.wp C.P o a w K' Q->wpOp C.P ops Q j K' a w:=by
           intro K' hK;unfold wpOp;rw[ho];cases hgd:o.guard with
           | none=>
             simp only[Region.wanted,hgd,WH];exact .inl hK
           | some jw=>
             obtain⟨q,want⟩:=jw;unfold gOk at hg;rw[hgd]at hg;obtain⟨m,R,hw⟩:=hsj;have hy:=fQ hw hg;simp only[Region.wanted,hgd,hy,Uw,WH];exact .inl hK
       refine wop _ (Oper.wp_mono ?_ (hx a w _ hsj));rintro a' w' ⟨σ',⟨s,hP,D,A,rfl⟩,hsj'⟩;have E:Lst ops (listed.setIfInBounds j VA) fuel (⟨j,o,s,wk,nw,rd⟩::acc) (j::Rl):=hL.next hjr (λk hk=>by simp only[cu,BY];exact hk.symm) (λk hk=>by grind);have hGr:∀{l:List It},Good C n ops cl σ0 Rl l->Good C n ops cl σ0 (j::Rl) l:=by
           intro l;induction l with
           |nil=>intro _;trivial
           | cons b l ihl=>
             intro h;exact⟨h.1.imp (λh=>Ur _ h) id,h.2.1,h.2.2.1,h.2.2.2.1,h.2.2.2.2.1,h.2.2.2.2.2.1,ihl h.2.2.2.2.2.2⟩
       have Z:ft (λ_=>VA) σ0 (⟨j,o,s,wk,nw,rd⟩::acc)=(ft (λ_=>VA) σ0 acc).app o.dst s:=rfl;have aa:DL C n ops cl is (⟨j,o,s,wk,nw,rd⟩::acc) K (ft (λ_=>VA) σ0 (⟨j,o,s,wk,nw,rd⟩::acc)):=by rw[Z];exact hD s hP D A
       refine ih _ (j::Rl) aa ⟨.inl Xn,hnw,hnew,ho,D,A,hGr hG⟩ fuel _ a' w' E ?_;have hjD:Dn (listed.setIfInBounds j VA) j=VA:=by rw[gp H];simp
       have same:ft (Dn (listed.setIfInBounds j VA)) σ0 acc=ft (Dn listed) σ0 acc:=by
           refine qU (σ0:=σ0) (λτ=>τ) _ _ acc (λb hb=> .inl ?_) (λb _ τ τ' h=>by rw[h]);rw[gp H];simp only[gW,du]at hnew;have h3:=OF.1 hnew.2 b hb;have B:Nat.beq b.i j=VC:=by simpa using h3
           rw[B,Vc]
       simp only[ft,hjD,U3,same];exact hsj'
      ·
       have hc:=OF.1 hcov j (by simpa using hj);rcases(Bool.or_eq_true_iff).1 hc with hc|hc
       .exfalso;have hc:=eM.1 hc;rcases BY.1 hc with hc|hc
        .exact e hc
        have hin:=eM.1 (OF.1 hsucc j hc);have hjl:j<listed.size:=by rw[hL.sz];exact hj
        have E:Lst ops (listed.setIfInBounds j VA) fuel (⟨j,o,⟨.pv .any,[],[]⟩,wk,nw,rd⟩::acc) Rl:=hL.next hjr (λk hk=>by simp only[cu,BY];exact hk.symm) (λk hk=> .inl hk);have A:=E.clo J (j:=j) (i:=i) (by rw[gp hjl];simp) hin;rw[gp hjl]at A;have B:Nat.beq i j=VC:=by cases B:Nat.beq i j;rfl;exact absurd (cd B).symm e
        rw[B,Vc,U hL]at A;cases A
       obtain⟨it,hm,rfl⟩:=TG.1 (eM.1 hc);obtain⟨l1,l2,rfl⟩:=List.append_of_mem hm;exact sU J hG hL hjr hsj (λa' w' D A=>ihf _ a' w' D A)
theorem AW.draw{Q:Exit->St->Prop}(A:C.P.follows .mixedOrders=VA)(cl:List (List Nat))(is:List Nat)(u:Ki ops.toList []=cl)(q:jD 0 ops.toList=VA)(h:DL C n ops cl is [] (Q .normal) σ):AW C n (.region id ops VA) Q σ:=by
 refine⟨λa w hsj=>wp_region_any A ?_⟩;refine DL.sound (C:=C) (n:=n) u q σ (Q .normal) _ (λa w h=>h) is [] [] h trivial ops.size _ a _ ⟨Xn,⟨List.range ops.size,Xn,λi hi _=>by simpa using hi⟩,?_,?_,Xn⟩ ?_
 .intro j o _ hj;exfalso;simp only[Dn,Vb,Array.getElem?_replicate]at hj;split at hj<;>simp at hj
 .intro j hj;exfalso;simp only[Dn,Vb,Array.getElem?_replicate]at hj;split at hj<;>simp at hj
 obtain⟨m,R,hw⟩:=hsj;exact⟨m,R,hw.drew O O O O⟩
end
end
section
def mkZ(zs:List PV)(n:Nat):List PV:=(List.range n).map λi=>zs.getD (i%zs.length) .any
theorem dh(z:PV)(n:Nat):mkZ [z] n=List.replicate n z:=by
 unfold mkZ;apply UL
 .simp
 .intro i h1 h2;simp[Nat.mod_one]
def fH(place:Nat->Option (Nat×Nat))(ob:Nat->Option Ob)(cells:List V):List (Nat×V)->Option (List V)
 |[]=>UF cells
 | (i,v)::rest=>match place i with
   |none=>UG
   |some (off,size)=>bif (Nat.beq v.cells.length size&&Nat.ble (off+size) cells.length&&v.cells.all (λc=>c.leaf&&c.cG ob)&&v.cG ob)then fH place ob (ik cells off v.cells) rest else UG
def Ck(l:List (Nat×Nat))(i:Nat):Option (Nat×Nat):=l[i]?
def placesOf(P:Program)(t:TypeId):Option (List (Nat×Nat)):=
 match P.underlying t with
 |some (.struct fs)=>fs.toList.mapM λf=>(P.info? f.type).map λi=>(f.offset,i.size)
 |_=>UG
theorem sO(off:Nat):∀(vs:List Value)(arr:Array Value)(k:Nat),off+k+vs.length<=arr.size->
  ((vs.zipIdx k).foldl (λcs (x:Value×Nat)=>cs.setIfInBounds (off+x.2) x.1) arr).toList=ik arr.toList (off+k) vs
 |[],arr,k,_=>by simp[ik]
 | v::vs,arr,k,h=>by
   simp only[IT]at h;simp only[List.zipIdx_cons,U0];rw[sO off vs _ (k+1) Xo];simp only[ik,Array.toList_setIfInBounds,IT];apply Ww;intro i;simp only[List.getElem?_append,IN,TC,TQ,Ua,TS,UN,IT];have e1:min (off+k) arr.size=off+k:=Xj;have q:min (off+(k+1)) arr.size=off+k+1:=Xj;simp only[e1,q];by_cases a:i<off+k
   .grind
   grind
section
variable {C:Ctx}{n:Nat}{σ:St}{a:Act}{w:World}{m:Gm}{R:Nat->Prop}
theorem SW.cellsOf(E:SW C n σ a w m R){v:V}{u:Value}(D:Rel w m σ.av R v u)(G:v.cells.all (λc=>c.leaf&&c.cG σ.ob)=VA)(A:v.cG σ.ob=VA):
  RelL w m σ.av R v.cells u.cells.toList/\∀c∈u.cells.toList,c.oneCell'=VA:=by
 have q:∀i,cL (σ.ob i)=VA->(m i).isSome=VA:=λi hi=>by rw[E.hr.dom];exact hi
 have B:∀c∈v.cells,c.leaf=VA/\c.cG σ.ob=VA:=by simpa using G
 have hc:=D.cells (λc hc=>(B c hc).1) (λi o e=>q _ (by rw[e]at A;exact A)) (λi s k e=>q _ (by rw[e]at A;exact A)) (λi e=>q _ (by rw[e]at A;exact A));exact⟨hc,ot hc (λc hc=>(B c hc).1) (λc hc i o e=>q _ (by have:=(B c hc).2;rw[e]at this;exact this)) (λc hc i s k e=>q _ (by have:=(B c hc).2;rw[e]at this;exact this)) (λc hc i e=>q _ (by have:=(B c hc).2;rw[e]at this;exact this))⟩
theorem SW.fill(B:SW C n σ a w m R)(place:Nat->Option (Nat×Nat)):∀(ps:List (Nat×Operand))(cells cs':List V)(arr:Array Value),RelL w m σ.av R cells arr.toList->
  fH place σ.ob cells (ps.map λp=>(p.1,σ.ev n p.2))=UF cs'->∃arr',Instr.fill place arr (ps.map λp=>(p.1,a.eval p.2))=UF arr'/\RelL w m σ.av R cs' arr'.toList
 | [],cells,cs',arr,hr,h=>by
   simp only[Un,fH,TJ]at h;subst h;exact⟨arr,O,hr⟩
 | (i,x)::ps,cells,cs',arr,hr,h=>by
   simp only[cu,fH]at h;split at h
   .cases h
   rename_i off size hp;rw[Bool.cond_eq_ite]at h;split at h
   .rename_i hc;simp only[du]at hc;obtain⟨⟨⟨D,E⟩,h3⟩,h4⟩:=hc;have D:=cd D;have E:=TV E;obtain⟨hcl,_⟩:=B.cellsOf (B.ev x) h3 h4;have G:=hcl.length;have A:=hr.length;simp only[Ua]at G A;have q:=sO off (a.eval x).cells.toList arr 0 Xo;simp only[Vt]at q;obtain⟨arr',hf,hr'⟩:=SW.fill B place ps _ cs' (((a.eval x).cells.toList.zipIdx 0).foldl (λcs (x:Value×Nat)=>cs.setIfInBounds (off+x.2) x.1) arr) (by rw[q];exact hr.ik off hcl) h;refine⟨arr',?_,hr'⟩;simp only[cu,Instr.fill,hp];have u:((a.eval x).cells.size≠size||off+(a.eval x).cells.size>arr.size)=VC:=by grind
    rw[u];simp only[UO,WZ];have:(a.eval x).cells.zipIdx.foldl (λcs (x:Value×Nat)=>cs.setIfInBounds (off+x.2) x.1) arr=((a.eval x).cells.toList.zipIdx 0).foldl (λcs (x:Value×Nat)=>cs.setIfInBounds (off+x.2) x.1) arr:=by
     rw[<-Array.foldl_toList];simp
    exact this▸hf
   cases h
end
section
variable {C:Ctx}{n:Nat}{σ:St}{dst:Option Tmp}{ty t t':TypeId}{ts:Array TypeId}{pos:String}{after:Array Edge}{gd:Option (Nat×Bool)}{x y:Operand}
theorem pA{v:V}(q:σ.ev n x=v):XJ C n ⟨dst,.move x,ty,pos,after,gd⟩ σ ⟨v,[],[]⟩:=q▸od
theorem Dd{v:V}(q:σ.ev n x=v):XJ C n ⟨dst,.assign x,ty,pos,after,gd⟩ σ ⟨v,[],[]⟩:=q▸Il
theorem yH{o:Ob}(A:σ.ev n x= .ptr id off)(B:σ.ob id=UF o)(u:o.real=VA:=by rfl):XJ C n ⟨dst,.nilCheck x,ty,pos,after,gd⟩ σ ⟨.ptr id off,[],[]⟩:=
 .val λa w m R hw=>by
  obtain⟨b,N,he,hm,_⟩:=hw.ptr A B u;have q:=hw.ev x;rw[A]at q;exact⟨a.eval x,by simp[execOp,he],q⟩
theorem xH(A:σ.ev n x= .pv (.rp cs off)):XJ C n ⟨dst,.nilCheck x,ty,pos,after,gd⟩ σ ⟨.pv (.rp cs off),[],[]⟩:=
 .val λa w m R hw=>by
  have q:=hw.pv A;have u:=q;simp only[RelP]at u;obtain⟨b,o,us,he,_⟩:=u;exact⟨a.eval x,by simp[execOp,he],by simpa only[Rel]using q⟩
theorem qB{kc:IntKind}{ic:Int}(id k:Nat)(E:ElemIs C.P T e z size bytes)(G:z.cells.toList.map gB=zs)(hx:σ.ev n x= .pv (.int kl il))(hy:σ.ev n y= .pv (.int kc ic))(M:il=(k:Int))(U:ic=(k:Int))(hk:k<=1000000000)(W:σ.av id=VA):
  XJ C n ⟨dst,.makeSlice T x y,ty,pos,after,gd⟩ σ ⟨.osl id size k,[(id,UF (.cells e (mkZ zs (k*size))))],[id]⟩:=by
 subst M U;rintro a w Q ⟨m,R,hw⟩;obtain⟨i,hi,hz,hsize,hbytes⟩:=info_parts E.info;have H:(i.bytes:Int)*(k:Int)<=281474976710656:=by
  have Y:bytes*k<=1000*1000000000:=Uy E.by_ hk;rw[hbytes];have Z:((bytes*k:Nat):Int)<=((1000*1000000000:Nat):Int):=Int.ofNat_le.2 Y;rw[Vn]at Z;omega
 have q:=run_make (P:=C.P) w T e i z E.u hi hz kl kc k k Xj (Int.le_refl _) H Xj;simp only[TU,hsize]at q;have A:(execOp a.eval ⟨dst,.makeSlice T x y,ty,pos,after,gd⟩).run C.P w= .ok (.value (.slice (UF ⟨w.heap.size,0,UG⟩) k k)) (w.alloc (.cells (madeCells z.cells (k*size)) e)):=by
  simp only[execOp,hw.int hx,hw.int hy,Sem.run_bind,q,Result.andThen_ok,Sem.run_pure]
 unfold Oper.wp;rw[A];have B:(madeCells z.cells (k*size)).size=k*size:=size_madeCells _ _;refine⟨_,O,upd m id (UF (w.heap.size,(madeCells z.cells (k*size)).size)),R,?_⟩;rw[Ts];refine SW.put (hw.alloc W _ e (.cells e (mkZ zs (k*size))) ?_) dst ?_
 .intro w' m' av' hR hm ha hb;have X:(mkZ zs (k*size)).length=k*size:=by simp[mkZ]
  refine⟨_,hb,O,by rw[X,B];exact AT _,?_⟩;rw[aH (by rw[X];simp[B])];have I:zs.length=z.cells.size:=by rw[<-G];simp
  have J:∀l:List Nat,(∀j∈l,True)->RelPL w' R (l.map λi=>zs.getD (i%zs.length) .any) (l.map λi=>z.cells[i%z.cells.size]!):=by
   intro l;induction l with
   |nil=>intro _;simpa using RelPL.nil
   | cons j l ih=>
     intro _;simp only[cu];refine RelPL.cons ?_ (ih (λ_ _=>trivial));have D:0<z.cells.size:=by rw[E.zs];exact E.pos
     have L:j%z.cells.size<z.cells.size:=UH _ D;rw[I,<-G];have e1:(z.cells.toList.map gB).getD (j%z.cells.size) .any=gB (z.cells[j%z.cells.size]!):=by
      simp[TO,L]
     rw[e1];exact gh w' R _
  have:=J (List.range (k*size)) (λ_ _=>trivial);simpa[mkZ,madeCells]using this
 simp only[Rel];refine⟨by simp[avL],λb N e=>?_⟩;rw[aC]at e;cases e;exact⟨k,O,AT _,by simp only[maxLen];omega,B⟩
structure BuiltIs(P:Program)(T:TypeId)(zs:List PV)(place:Nat->Option (Nat×Nat)):Prop where
 go:∃z:Value,z.cells.toList.map gB=zs/\∀parts,P.built T parts=Instr.fill place z.cells parts
theorem BuiltIs.struct{pl:List (Nat×Nat)}(B:(P.info? T).map (·.zero)=UF (UF z))(D:z.cells.toList.map gB=zs)(u:placesOf P T=UF pl):BuiltIs P T zs (Ck pl):=by
 refine⟨z,D,λA=>?_⟩;unfold placesOf at u;split at u
 .rename_i fs hu;cases hq:P.info? T with
  |none=>simp[hq]at B
  | some ti=>
    simp[hq]at B;have q:(λi=>pl.toArray[i]?)=Ck pl:=by funext i;simp[Ck]
    unfold Program.built;simp only[hq,hu,B,u,q]
 cases u
theorem BuiltIs.array(D:P.underlying T=UF (.array k e))(A:(P.info? T).map (·.zero)=UF (UF z))(B:z.cells.toList.map gB=zs)(q:bT P e s):BuiltIs P T zs (λi=>UF (i*s,s)):=by
 refine⟨z,B,λu=>?_⟩;cases hq:P.info? T with
 |none=>simp[hq]at A
 | some ti=>
   simp[hq]at A;unfold bT at q;cases he:P.info? e with
   |none=>simp[he]at q
   | some ei=>
     simp[he]at q;unfold Program.built;simp only[hq,D,A,he,q]
theorem Na(q:z.cells.toList.map gB=zs):RelPL w R zs z.cells.toList:=by
 rw[<-q];generalize z.cells.toList=l;induction l with
 |nil=>simpa using RelPL.nil
 |cons x l ih=>simpa using RelPL.cons (gh w R x) ih
theorem BX{parts:Array (Nat×Operand)}{place:Nat->Option (Nat×Nat)}{cs':List V}(A:BuiltIs C.P T zs place)
  (B:fH place σ.ob (zs.map .pv) (parts.toList.map λp=>(p.1,σ.ev n p.2))=UF cs'):
  XJ C n ⟨dst,.build T parts,ty,pos,after,gd⟩ σ ⟨.agg cs',[],[]⟩:=
 .val λa w m R hw=>by
  obtain⟨z,hzs,A⟩:=A.go;obtain⟨arr',hfill,hr'⟩:=hw.fill place parts.toList _ cs' z.cells (RelL.ofP (Na hzs)) B;have q:(parts.map λx=>(x.1,a.eval x.2)).toList=parts.toList.map λp=>(p.1,a.eval p.2):=Xn
  have u:=run_build (P:=C.P) w T (parts.map λx=>(x.1,a.eval x.2)) arr' (by rw[A,q];exact hfill);refine⟨.agg arr',?_,?_⟩
  .simp only[execOp,Sem.run_bind,u,Result.andThen_ok,Sem.run_pure]
  grind[Rel]
def V.pvs:List V->Option (List PV)
 |[]=>UF []
 | .pv p::vs=>match V.pvs vs with|some ps=>UF (p::ps)|none=>UG
 |_::_=>UG
theorem V.wu:∀{vs:List V}{ps:List PV},V.pvs vs=UF ps->vs=ps.map .pv
 |[],ps,h=>by simp only[V.pvs,TJ]at h;subst h;rfl
 | .pv p::vs,ps,h=>by
   simp only[V.pvs]at h;split at h
   .rename_i qs hq;simp at h;subst h;simp[V.wu hq]
   cases h
 | .ptr _ _::_,_,h=>by simp[V.pvs]at h
 | .osl _ _ _::_,_,h=>by simp[V.pvs]at h
 | .tsl _ _ _::_,_,h=>by simp[V.pvs]at h
 | .gsl _ _ _::_,_,h=>by simp[V.pvs]at h
 | .map _::_,_,h=>by simp[V.pvs]at h
 | .agg _::_,_,h=>by simp[V.pvs]at h
 | .tup _::_,_,h=>by simp[V.pvs]at h
 | .fn _ _ _::_,_,h=>by simp[V.pvs]at h
theorem uJ{parts:Array (Nat×Operand)}(id:Nat)(E:ElemIs C.P T e z size bytes)(I:z.cells.toList.map gB=zs)(hk:0<k)(hk2:k*size<=16777216)(W:σ.av id=VA)
  {vs:List V} (Y:fH (λi=>UF (i*size,size)) σ.ob ((mkZ zs (k*size)).map .pv) (parts.toList.map λp=>(p.1,σ.ev n p.2))=UF vs) (X:V.pvs vs=UF cs):
  XJ C n ⟨dst,.buildSlice T k parts,ty,pos,after,gd⟩ σ ⟨.osl id size k,[(id,UF (.cells e cs))],[id]⟩:=by
 rintro a w Q ⟨m,R,hw⟩;obtain rfl:=V.wu X;obtain⟨i,hi,hz,hsize,hbytes⟩:=info_parts E.info;have J:zs.length=z.cells.size:=by rw[<-I];simp
 have L:∀l:List Nat,RelPL w R (l.map λi=>zs.getD (i%zs.length) .any) (l.map λi=>z.cells[i%z.cells.size]!):=by
  intro l;induction l with
  |nil=>simpa using RelPL.nil
  | cons j l ih=>
    simp only[cu];refine RelPL.cons ?_ ih;have B:0<z.cells.size:=by rw[E.zs];exact E.pos
    have M:j%z.cells.size<z.cells.size:=UH _ B;rw[J,<-I];have Z:(z.cells.toList.map gB).getD (j%z.cells.size) .any=gB (z.cells[j%z.cells.size]!):=by
     simp[TO,M]
    rw[Z];exact gh w R _
 have h0:RelPL w R (mkZ zs (k*size)) ((Array.range (k*size)).map (z.cells[· %z.cells.size]!)).toList:=by
  have:=L (List.range (k*size));simpa[mkZ]using this
 obtain⟨arr',hfill,hr'⟩:=hw.fill (λi=>UF (i*size,size)) parts.toList _ _ _ (RelL.ofP h0) Y;have G:=hr'.toP;have A:(parts.map λx=>(x.1,a.eval x.2)).toList=parts.toList.map λp=>(p.1,a.eval p.2):=Xn
 have B:0<k*size:=W8 hk E.pos;have H:=run_buildSlice (P:=C.P) w T e k (parts.map λx=>(x.1,a.eval x.2)) arr' i z E.u hi hz (by rw[hsize];omega) (by rw[hsize];omega) (by rw[A,hsize];exact hfill);have hcl:cs.length=k*size:=by
  have:∀(l:List (Nat×V))(cells cs':List V),fH (λi=>UF (i*size,size)) σ.ob cells l=UF cs'->cs'.length=cells.length:=by
   intro l;induction l with
   |nil=>intro cells cs' h;simp only[fH,TJ]at h;rw[h]
   | cons p l ih=>
     obtain⟨q,v⟩:=p;intro cells cs' h;simp only[fH]at h;rw[Bool.cond_eq_ite]at h;split at h
     .rename_i hc;simp only[du]at hc;rw[ih _ _ h,bS];have h1:=cd hc.1.1.1;have h2:=TV hc.1.1.2;omega
     cases h
  have:=this _ _ _ Y;simpa[mkZ]using this
 have D:(execOp a.eval ⟨dst,.buildSlice T k parts,ty,pos,after,gd⟩).run C.P w= .ok (.value (.slice (UF ⟨w.heap.size,0,UG⟩) k k)) (w.alloc (.cells arr' e)):=by
  simp only[execOp,Sem.run_bind,H,Result.andThen_ok,Sem.run_pure]
 unfold Oper.wp;rw[D];have U:arr'.size=k*size:=by have:=G.length;simp at this;omega
 refine⟨_,O,upd m id (UF (w.heap.size,arr'.size)),R,?_⟩;rw[Ts];refine SW.put (hw.alloc W _ e (.cells e cs) ?_) dst ?_
 .intro w' m' av' hR hm ha hb;refine⟨_,hb,O,Xj,?_⟩;rw[aH Xo];exact G.mono hR
 simp only[Rel];refine⟨by simp[avL],λb N e=>?_⟩;rw[aC]at e;cases e;have:k<=k*size:=Nat.le_mul_of_pos_right k E.pos;exact⟨k,O,AT _,by simp only[maxLen];omega,U⟩
theorem zP{f:Fn}{fs cs:Array Operand}:XJ C n ⟨dst,.makeFunc f fs cs,ty,pos,after,gd⟩ σ ⟨.fn f (fs.toList.map (σ.ev n)) (cs.toList.map (σ.ev n)),[],[]⟩:=
 .val λa w m R hw=>by
  refine⟨.func f (fs.map a.eval) (cs.map a.eval),by simp[execOp,Instr.makeFunc],?_⟩;simp only[Rel];exact⟨_,_,by simp only[<-Array.toList_map,Array.toArray_toList],hw.evs fs.toList,hw.evs cs.toList⟩
end
def V.plain:V->Bool
 | .pv _=>VA
 |_=>VC
theorem pT{ob ob':Nat->Option Ob}:∀{v:V},v.plain=VA->v.cG ob=v.cG ob'
 | .pv _,_=>rfl
theorem qG{place:Nat->Option (Nat×Nat)}{ob ob':Nat->Option Ob}:∀(l:List (Nat×V))(cells:List V),(l.all λp=>p.2.plain||p.2.cells.all V.plain&&(match p.2 with| .agg _=>VA|_=>VC))=VA->fH place ob cells l=fH place ob' cells l
 |[],_,_=>rfl
 | (i,v)::l,cells,h=>by
   simp only[VL,du]at h;simp only[fH];have hv:(v.cells.all (λc=>c.leaf&&c.cG ob)&&v.cG ob)=(v.cells.all (λc=>c.leaf&&c.cG ob')&&v.cG ob'):=by
    cases v with
    | pv p=>
      have:∀c∈V.cells (.pv p),c.cG ob=c.cG ob':=by
       intro c hc;cases p with
       | agg ps=>
         simp only[V.cells,TG]at hc;obtain⟨q,_,rfl⟩:=hc;rfl
       |_=>simp only[V.cells,TF]at hc;subst hc;rfl
      have e:(V.cells (.pv p)).all (λc=>c.leaf&&c.cG ob)=(V.cells (.pv p)).all (λc=>c.leaf&&c.cG ob'):=by grind
      rw[e];rfl
    | agg cs=>
      have u:cs.all V.plain=VA:=by simpa[V.plain,V.cells]using h.1
      have e:cs.all (λc=>c.leaf&&c.cG ob)=cs.all (λc=>c.leaf&&c.cG ob'):=by
       rw[TY,OF,OF];exact⟨λh c hc=>by rw[<-pT (OF.1 u c hc)];exact h c hc,λh c hc=>by rw[pT (ob':=ob') (OF.1 u c hc)];exact h c hc⟩
      simp only[V.cells,e];rfl
    |_=>simp[V.plain]at h
   have ih:=λc=>qG (place:=place) (ob:=ob) (ob':=ob') l c h.2
   split
   .rfl
   grind
section
variable {n:Nat}{ops:Array Oper}{σ τ:St}{s:OS}{rd:List Nat}{dst:Option Tmp}{ty:TypeId}{pos:String}{after:Array Edge}{gd:Option (Nat×Bool)}{T:TypeId}{parts:Array (Nat×Operand)}{place:Nat->Option (Nat×Nat)}{cells cs':List V}
theorem Agr.E0(h:Agr n ops ⟨dst,.buildSlice T k parts,ty,pos,after,gd⟩ σ τ s rd)(q:((parts.toList.map λp=>(p.1,σ.ev n p.2)).all λp=>p.2.plain||p.2.cells.all V.plain&&(match p.2 with| .agg _=>VA|_=>VC))=VA)
  (u:fH place σ.ob cells (parts.toList.map λp=>(p.1,σ.ev n p.2))=UF cs'):fH place τ.ob cells (parts.toList.map λp=>(p.1,τ.ev n p.2))=UF cs':=by
 rw[h.PU,qG (ob':=σ.ob) _ _ q];exact u
end
end
section
mutual
def V.ren(ρ:Nat->Nat):V->V
 | .pv p=> .pv p
 | .ptr i o=> .ptr (ρ i) o
 | .osl i s k=> .osl (ρ i) s k
 | .tsl i o k=> .tsl (ρ i) o k
 | .gsl i s k=> .gsl (ρ i) s k
 | .map i=> .map (ρ i)
 | .agg cs=> .agg (V.renL ρ cs)
 | .tup cs=> .tup (V.renL ρ cs)
 | .fn f a b=> .fn f (V.renL ρ a) (V.renL ρ b)
def V.renL(ρ:Nat->Nat):List V->List V
 |[]=>[]
 |c::cs=>V.ren ρ c::V.renL ρ cs
end
def Ob.ren(ρ:Nat->Nat):Ob->Ob
 | .cells t cs=> .cells t cs
 | .mix t cs=> .mix t (V.renL ρ cs)
 | .gro t cs=> .gro t cs
 | .mp ks vs=> .mp ks vs
 | .it s p=> .it s p
 | .fro s p=> .fro s p
 | .mi c ks vs=> .mi c ks vs
theorem Ob.mz(ρ:Nat->Nat):∀o:Ob,(o.ren ρ).real=o.real
 | .cells _ _=>rfl
 | .mix _ _=>rfl
 | .gro _ []=>rfl
 | .gro _ (_::_)=>rfl
 | .mp _ _=>rfl
 | .it _ _=>rfl
 | .fro _ _=>rfl
 | .mi _ _ _=>rfl
theorem xn(ρ:Nat->Nat):∀o:Option Ob,cL (o.map (Ob.ren ρ))=cL o
 |none=>rfl
 |some o=>Ob.mz ρ o
mutual
def V.all(p:Nat->Bool):V->Bool
 | .pv _=>VA
 | .ptr i _=>p i
 | .osl i _ _=>p i
 | .tsl i _ _=>p i
 | .gsl i _ _=>p i
 | .map i=>p i
 | .agg cs=>V.allL p cs
 | .tup cs=>V.allL p cs
 | .fn _ a b=>V.allL p a&&V.allL p b
def V.allL(p:Nat->Bool):List V->Bool
 |[]=>VA
 |c::cs=>V.all p c&&V.allL p cs
end
def Ob.all(p:Nat->Bool):Ob->Bool
 | .cells _ _=>VA
 | .mix _ cs=>V.allL p cs
 | .gro _ _=>VA
 | .mp _ _=>VA
 | .it _ _=>VA
 | .fro _ _=>VA
 | .mi _ _ _=>VA
section
variable {w:World}{R:Nat->Prop}
mutual
theorem Rel.ren{m':Gm}{av av':Av}(ρ:Nat->Nat)(p:Nat->Bool)(B:∀i x,p i=VA->m' (ρ i)=UF x->m i=UF x)(D:∀i,p i=VA->av i=VC->av' (ρ i)=VC):
  ∀(v:V)(u:Value),v.all p=VA->Rel w m av R v u->Rel w m' av' R (v.ren ρ) u
 | .pv q,u,_,h=>by simpa only[Rel,V.ren]using h
 | .ptr i o,_,hp,h=>by simp only[V.all]at hp;simp only[Rel,V.ren]at h ⊢; exact⟨D i hp h.1,λb N e=>h.2 b N (B i _ hp e)⟩
 | .osl i s k,_,hp,h=>by simp only[V.all]at hp;simp only[Rel,V.ren]at h ⊢; exact⟨D i hp h.1,λb N e=>h.2 b N (B i _ hp e)⟩
 | .tsl i s k,_,hp,h=>by
   simp only[V.all]at hp;simp only[Rel,V.ren]at h ⊢;obtain⟨h0,A,c,e,h1⟩:=h;exact⟨D i hp h0,A,c,e,λhq b N e=>h1 hq b N (B i _ hp e)⟩
 | .gsl i s k,_,hp,h=>by
   simp only[V.all]at hp;simp only[Rel,V.ren]at h ⊢;obtain⟨h0,A,c,e,h1,h2,h3,h4⟩:=h;exact⟨D i hp h0,A,c,e,h1,h2,λE=>⟨(h3 E).1,(h3 E).2.1,pq (λx=>B i x hp) (h3 E).2.2⟩,λhk b N e=>h4 hk b N (B i _ hp e)⟩
 | .map i,_,hp,h=>by simp only[V.all]at hp;simp only[Rel,V.ren]at h ⊢; exact⟨D i hp h.1,λb N e=>h.2 b N (B i _ hp e)⟩
 | .agg cs,_,hp,h=>by
   simp only[V.all]at hp;simp only[Rel,V.ren]at h ⊢;obtain⟨us,e,h⟩:=h;exact⟨us,e,RelL.ren ρ p B D cs us hp h⟩
 | .tup cs,_,hp,h=>by
   simp only[V.all]at hp;simp only[Rel,V.ren]at h ⊢;obtain⟨us,e,h⟩:=h;exact⟨us,e,RelL.ren ρ p B D cs us hp h⟩
 | .fn f a b,_,hp,h=>by
   simp only[V.all,du]at hp;simp only[Rel,V.ren]at h ⊢;obtain⟨us,vs,e,h1,h2⟩:=h;exact⟨us,vs,e,RelL.ren ρ p B D a us hp.1 h1,RelL.ren ρ p B D b vs hp.2 h2⟩
theorem RelL.ren{m':Gm}{av av':Av}(ρ:Nat->Nat)(p:Nat->Bool)(q:∀i x,p i=VA->m' (ρ i)=UF x->m i=UF x)(A:∀i,p i=VA->av i=VC->av' (ρ i)=VC):
  ∀(vs:List V)(us:List Value),V.allL p vs=VA->RelL w m av R vs us->RelL w m' av' R (V.renL ρ vs) us
 |[],_,_,h=>by simpa only[RelL,V.renL]using h
 | c::cs,_,hp,h=>by
   simp only[V.allL,du]at hp;simp only[RelL,V.renL]at h ⊢;obtain⟨u,us,e,h1,h2⟩:=h;exact⟨u,us,e,Rel.ren ρ p q A c u hp.1 h1,RelL.ren ρ p q A cs us hp.2 h2⟩
end
mutual
theorem Rel.jz{m':Gm}{av av':Av}(ρ:Nat->Nat)(p:Nat->Bool)(B:∀i x,p i=VA->m i=UF x->m' (ρ i)=UF x)(D:∀i,p i=VA->av i=VC):
  ∀(v:V)(u:Value),v.all p=VA->Rel w m' av' R (v.ren ρ) u->Rel w m av R v u
 | .pv q,u,_,h=>by simpa only[Rel,V.ren]using h
 | .ptr i o,_,hp,h=>by simp only[V.all]at hp;simp only[Rel,V.ren]at h ⊢; exact⟨D i hp,λb N e=>h.2 b N (B i _ hp e)⟩
 | .osl i s k,_,hp,h=>by simp only[V.all]at hp;simp only[Rel,V.ren]at h ⊢; exact⟨D i hp,λb N e=>h.2 b N (B i _ hp e)⟩
 | .tsl i s k,_,hp,h=>by
   simp only[V.all]at hp;simp only[Rel,V.ren]at h ⊢;obtain⟨h0,A,c,e,h1⟩:=h;exact⟨D i hp,A,c,e,λhq b N e=>h1 hq b N (B i _ hp e)⟩
 | .gsl i s k,_,hp,h=>by
   simp only[V.all]at hp;simp only[Rel,V.ren]at h ⊢;obtain⟨h0,A,c,e,h1,h2,h3,h4⟩:=h;exact⟨D i hp,A,c,e,h1,h2,λE=>⟨(h3 E).1,(h3 E).2.1,pq (λx=>B i x hp) (h3 E).2.2⟩,λhk b N e=>h4 hk b N (B i _ hp e)⟩
 | .map i,_,hp,h=>by simp only[V.all]at hp;simp only[Rel,V.ren]at h ⊢; exact⟨D i hp,λb N e=>h.2 b N (B i _ hp e)⟩
 | .agg cs,_,hp,h=>by
   simp only[V.all]at hp;simp only[Rel,V.ren]at h ⊢;obtain⟨us,e,h⟩:=h;exact⟨us,e,RelL.jz ρ p B D cs us hp h⟩
 | .tup cs,_,hp,h=>by
   simp only[V.all]at hp;simp only[Rel,V.ren]at h ⊢;obtain⟨us,e,h⟩:=h;exact⟨us,e,RelL.jz ρ p B D cs us hp h⟩
 | .fn f a b,_,hp,h=>by
   simp only[V.all,du]at hp;simp only[Rel,V.ren]at h ⊢;obtain⟨us,vs,e,h1,h2⟩:=h;exact⟨us,vs,e,RelL.jz ρ p B D a us hp.1 h1,RelL.jz ρ p B D b vs hp.2 h2⟩
theorem RelL.jz{m':Gm}{av av':Av}(ρ:Nat->Nat)(p:Nat->Bool)(q:∀i x,p i=VA->m i=UF x->m' (ρ i)=UF x)(A:∀i,p i=VA->av i=VC):
  ∀(vs:List V)(us:List Value),V.allL p vs=VA->RelL w m' av' R (V.renL ρ vs) us->RelL w m av R vs us
 |[],_,_,h=>by simpa only[RelL,V.renL]using h
 | c::cs,_,hp,h=>by
   simp only[V.allL,du]at hp;simp only[RelL,V.renL]at h ⊢;obtain⟨u,us,e,h1,h2⟩:=h;exact⟨u,us,e,Rel.jz ρ p q A c u hp.1 h1,RelL.jz ρ p q A cs us hp.2 h2⟩
end
theorem lQ.ren{m':Gm}{av av':Av}(ρ:Nat->Nat)(p:Nat->Bool)(A:∀i x,p i=VA->m' (ρ i)=UF x->m i=UF x)(B:∀i,p i=VA->av i=VC->av' (ρ i)=VC){o:Ob}(u:o.all p=VA)(h:lQ w m av R b N o):lQ w m' av' R b N (o.ren ρ):=by
 cases o with
 |cells ty cs=>exact h
 |gro ty cs=>exact h
 |mp ks vs=>exact h
 |it s p=>exact h
 |fro s p=>exact h
 |mi c ks vs=>exact h
 | mix ty cs=>
   obtain⟨arr,h1,h2,h3,h4⟩:=h;have q:(V.renL ρ cs).length=cs.length:=by
    clear u h3 h4;induction cs with
    |nil=>rfl
    |cons c cs ih=>simp[V.renL,ih]
   exact⟨arr,h1,h2,by rw[q];exact h3,by rw[q];exact h4.ren ρ p A B _ _ u⟩
theorem lQ.jz{m':Gm}{av av':Av}(ρ:Nat->Nat)(p:Nat->Bool)(A:∀i x,p i=VA->m i=UF x->m' (ρ i)=UF x)(B:∀i,p i=VA->av i=VC){o:Ob}(q:o.all p=VA)(h:lQ w m' av' R b N (o.ren ρ)):lQ w m av R b N o:=by
 cases o with
 |cells ty cs=>exact h
 |gro ty cs=>exact h
 |mp ks vs=>exact h
 |it s p=>exact h
 |fro s p=>exact h
 |mi c ks vs=>exact h
 | mix ty cs=>
   obtain⟨arr,h1,h2,h3,h4⟩:=h;have u:(V.renL ρ cs).length=cs.length:=by
    clear q h3 h4;induction cs with
    |nil=>rfl
    |cons c cs ih=>simp[V.renL,ih]
   rw[u]at h3 h4;exact⟨arr,h1,h2,h3,h4.jz ρ p A B _ _ q⟩
end
def okR(k k':Nat):Nat->Bool:=λi=>Nat.blt i k'||(Nat.ble big i&&Nat.blt i (big+k))
def eH:List V->V
 |[v]=>v
 |vs=> .tup vs
def eG:Nat->List V->List (Nat×V)
 |_,[]=>[]
 |k,p::ps=>(k,p)::eG (k+1) ps
def FnO(P:Program)(f:FuncId)(k k':Nat)(args:List V)(os:List (Nat×Ob))(Q:V->(Nat->Option Ob)->Prop):Prop:=
 ∀(w:World)(m:Gm)(R:RT w (fp m))(us:List Value),HR ⟨P,m,w,fp m,R⟩ m R.p (aB os) (avK 0) w->RelL w m (avK 0) R.p args us->
  Calls P f us.toArray w λe w'=>∃u v ob' m' R',e= .returned u/\Q v ob'/\v.all (okR k k')=VA/\(∀i o,ob' i=UF o->okR k k' i=VA/\o.all (okR k k')=VA)/\HR ⟨P,m,w,fp m,R⟩ m' R' ob' (avK k') w'/\Rel w' m' (avK k') R' v u
theorem FnO.mono{k':Nat}{args:List V}{os:List (Nat×Ob)}{Q Q':V->(Nat->Option Ob)->Prop}(h:FnO P f k k' args os Q)(A:∀v o,Q v o->Q' v o):FnO P f k k' args os Q':=
 λw m R us h1 h2=>(h w m R us h1 h2).mono λ_ _ ⟨u,v,o,m',R',e,q,r⟩=>⟨u,v,o,m',R',e,A v o q,r⟩
def retO(fn:Func)(n k k':Nat)(Q:V->(Nat->Option Ob)->Prop):Exit->St->Prop
 | .ret,σ| .normal,σ=>∃l os' vs,σ.le (mkS l os' k')/\Pf n (mkS l os' k') fn.results.toList=UF vs/\V.allL (okR k k') vs=VA/\os'.all (λp=>okR k k' p.1&&p.2.all (okR k k'))=VA/\Q (eH vs) (aB os')
 |_,_=>False
theorem cm:∀{os:List (Nat×Ob)}{i:Nat}{o:Ob},aB os i=UF o->(i,o)∈os
 |[],_,_,h=>by simp[aB]at h
 | (d,v)::os,i,o,h=>by
   simp only[aB]at h;cases hb:Nat.beq i d with
   |true=>rw[hb]at h;simp at h;have:=cd hb;subst this;subst h;simp
   |false=>rw[hb]at h;exact Ur _ (cm (by simpa using h))
theorem zd{av:Av}{vs:List V}(h:RelL w m av R vs us):Rel w m av R (eH vs) (if h:us.toArray.size=1 then us.toArray[0]else .tuple us.toArray):=by
 have q:=h.length;cases vs with
 | nil=>
   simp only[RelL]at h;subst h;simp only[eH,Rel];exact⟨[],Xn,RelL.nil⟩
 | cons p ps=>
   cases ps with
   | nil=>
     simp only[RelL]at h;obtain⟨u,vs',rfl,h5,rfl⟩:=h;simpa[eH]using h5
   | cons p2 ps=>
     simp only[eH,Rel];refine⟨us,?_,h⟩;rw[dif_neg (by simp at q ⊢; omega)]
theorem qA{p:Nat->Bool}{vs:List V}(h:V.allL p vs=VA):(eH vs).all p=VA:=by
 cases vs with
 |nil=>rfl
 | cons a l=>
   cases l with
   |nil=>simpa[eH,V.allL]using h
   |cons b l=>simpa[eH,V.all]using h
theorem zt:∀(k:Nat)(ps:List PV),vK k ps=eG k (ps.map V.pv)
 |_,[]=>rfl
 |k,p::ps=>by rw[vK,cu,eG,zt (k+1) ps]
theorem pG{args:List V}(h:RelL w m (avK 0) R args us)(n t:Nat):Rel w m (avK 0) R (look (eG 0 args) t) ((us.toArray++Array.replicate n undef).getD t undef):=by
 have q:∀(ps:List V)(vs:List Value)(k:Nat),RelL w m (avK 0) R ps vs->k<=t->∀z:Value,Rel w m (avK 0) R (look (eG k ps) t) (vs[t-k]?.getD z):=by
  intro ps;induction ps with
  |nil=>intro vs k _ _ z;simp only[eG,look,Rel,RelP]
  | cons p ps ih=>
    intro vs k hr hk z;simp only[RelL]at hr;obtain⟨u,vs',rfl,h1,h2⟩:=hr;simp only[eG,look];by_cases e:t=k
    .subst e;simpa using h1
    rw[show Nat.beq t k=VC by cases hb:Nat.beq t k;rfl;exact absurd (cd hb) e,show t-k=(t-(k+1))+1 by omega];simpa using ih vs' (k+1) h2 Xj z
 have:=q args us 0 h (aJ _) undef;simp only[Nat.sub_zero]at this;rw[Vb,Array.getElem?_append];by_cases e:t<us.length
 .simpa[e]using this
 rw[List.getElem?_eq_none Xj]at this;simp only[T4,e,WZ,Array.getElem?_replicate];split<;>simpa using this
def fu(ids:List Nat)(base:Nat)(i:Nat):Nat:=bif Nat.ble big i then ids.getD (i-big) 0 else base+i
def wrO(ids:List Nat)(base k':Nat)(ob':Nat->Option Ob):List (Nat×Option Ob):=
 ids.zipIdx.map (λp=>(p.1,(ob' (big+p.2)).map (Ob.ren (fu ids base))))++(List.range k').map (λi=>(base+i,(ob' i).map (Ob.ren (fu ids base))))
def nwO(base k':Nat):List Nat:=(List.range k').map (base+ ·)
def lkL{β:Type}:List (Nat×β)->(Nat->β)->Nat->β
 |[],f,id=>f id
 |(i,o)::l,f,id=>bif Nat.beq id i then o else lkL l f id
theorem Om:∀(l:List (Nat×Option Ob))(f:Nat->Option Ob),obL l f=lkL l f
 |[],f=>rfl
 |(i,o)::l,f=>by funext id;simp only[obL,lkL,Om l f]
theorem uy:∀(l:List (Nat×β))(f:Nat->β)(id:Nat),id∉l.map (·.1)->lkL l f id=f id
 |[],_,_,_=>rfl
 | (i,o)::l,f,id,h=>by
   simp only[cu,BY,not_or]at h;have hb:Nat.beq id i=VC:=by cases hb:Nat.beq id i;rfl;exact absurd (cd hb) h.1
   simp only[lkL,hb,Ue];exact uy l f id h.2
theorem ug:∀(l l':List (Nat×β))(f:Nat->β),lkL (l++l') f=lkL l (lkL l' f)
 |[],_,_=>rfl
 |(i,o)::l,l',f=>by funext id;simp only[Uz,lkL,ug l l' f]
theorem JS(g:Nat->β)(f:Nat->β):∀(ids:List Nat)(k i:Nat)(id:Nat),ids.Nodup->ids[i]? =UF id->lkL ((ids.zipIdx k).map λp=>(p.1,g p.2)) f id=g (k+i)
 |[],_,_,_,_,h=>by simp at h
 | q::ids,k,i,id,hn,h=>by
   simp only[List.zipIdx_cons,cu,lkL];cases i with
   |zero=>simp at h;subst h;simp
   | succ i=>
     simp at h;have hne:id≠q:=λe=>by subst e;exact(Vh.1 hn).1 (U5 h)
     have u:Nat.beq id q=VC:=by cases u:Nat.beq id q;rfl;exact absurd (cd u) hne
     rw[u];simp only[Ue];rw[JS g f ids (k+1) i id (Vh.1 hn).2 h]
     congr 1
     omega
theorem FI(g:Nat->β)(f:Nat->β)(base k' i:Nat)(A:i<k'):lkL ((List.range k').map λi=>(base+i,g i)) f (base+i)=g i:=by
 have u:∀(l:List Nat),i∈l->lkL (l.map λi=>(base+i,g i)) f (base+i)=g i:=by
  intro l;induction l with
  |nil=>intro h;simp at h
  | cons q l ih=>
    intro h;simp only[cu,lkL];by_cases e:i=q
    .subst e;simp
    grind[Nat.beq,cd]
 exact u _ (by simpa using A)
end
variable{Q:V->(Nat->Option Ob)->Prop}
section
mutual
theorem V.Cw:∀v:V,v.ren (λi=>i)=v
 | .pv _=>rfl
 | .ptr _ _=>rfl
 | .osl _ _ _=>rfl
 | .tsl _ _ _=>rfl
 | .gsl _ _ _=>rfl
 | .map _=>rfl
 | .agg cs=>by simp only[V.ren,V.renL_id cs]
 | .tup cs=>by simp only[V.ren,V.renL_id cs]
 | .fn _ a b=>by simp only[V.ren,V.renL_id a,V.renL_id b]
theorem V.renL_id:∀vs:List V,V.renL (λi=>i) vs=vs
 |[]=>rfl
 |c::cs=>by simp only[V.renL,V.Cw c,V.renL_id cs]
end
theorem Ob.Cw(o:Ob):o.ren (λi=>i)=o:=by
 cases o with
 |cells _ _=>rfl
 |gro _ _=>rfl
 |mp _ _=>rfl
 |it _ _=>rfl
 |fro _ _=>rfl
 |mi _ _ _=>rfl
 |mix _ cs=>simp only[Ob.ren,V.renL_id cs]
def yz(n:Nat)(σ:St):List ResultVar->Option (List V)
 |[]=>UF []
 | .tmp t::l=>match yz n σ l with|some vs=>UF (σ.ev n (.tmp t)::vs)|none=>UG
 | .cell a _::l=>match σ.ev n (.tmp a),yz n σ l with
   | .ptr id 0,UF vs=>match σ.ob id with
     |some (.mix _ cs)=>UF (.agg cs::vs)
     |_=>UG
   |_,_=>UG
def kU(P:Program)(n:Nat)(σ:St):List ResultVar->Prop
 |[]=>True
 | .tmp _::l=>kU P n σ l
 | .cell a t::l=>(isRow P t/\∃k,bT P t k/\∀id T cs,σ.ev n (.tmp a)= .ptr id 0->σ.ob id=UF (.mix T cs)->cs.length=k)/\kU P n σ l
theorem ax{a:Nat}{t:TypeId}{cs:List V}(q:isRow P t)(u:bT P t k)(A:σ.ev n (.tmp a)= .ptr id 0)(B:σ.ob id=UF (.mix T cs))(D:cs.length=k):
  isRow P t/\∃k,bT P t k/\∀id T cs,σ.ev n (.tmp a)= .ptr id 0->σ.ob id=UF (.mix T cs)->cs.length=k:=
 ⟨q,k,u,λid' T' cs' e1 e2=>by rw[A]at e1;cases e1;rw[B]at e2;cases e2;exact D⟩
theorem oX(E:SW C n σ a w m R)(f:ResultVar->Sem Value)(G:∀t,f (.tmp t)=pure (a.tmps.getD t undef))(B:∀ad t,f (.cell ad t)=do loadVar t (← asAddr (a.tmps.getD ad undef))):
  ∀{l:List ResultVar}{vs:List V},yz n σ l=UF vs->kU C.P n σ l->∃us,Sem.run C.P (l.mapM f) w= .ok us w/\RelL w m σ.av R vs us
 |[],vs,h,_=>by simp only[yz,TJ]at h;subst h;exact⟨[],Xn,RelL.nil⟩
 | .tmp t::l,vs,h,hc=>by
   simp only[yz]at h;split at h
   .rename_i vs' h';simp at h;subst h;obtain⟨us,hr,hl⟩:=oX E f G B h' hc;refine⟨a.eval (.tmp t)::us,?_,RelL.cons (E.ev (.tmp t)) hl⟩;rw[List.mapM_cons,G];simp[hr,Act.eval]
   cases h
 | .cell ad t::l,vs,h,hc=>by
   simp only[yz]at h;split at h
   .rename_i id vs' he h';split at h
    .rename_i T cs ho;simp at h;subst h;obtain⟨us,hr,hl⟩:=oX E f G B h' hc.2;obtain⟨hrow,k,hk,q⟩:=hc.1;have q:=q id T cs he ho;obtain⟨b,N,hev,hm,arr,hb,hN,hle,hrl⟩:=E.ptr he ho;obtain⟨d,hu,hd⟩:=hrow;have A:=run_loadVar_mid (P:=C.P) w b 0 t (arr.toList.take cs.length) d (λj u hu=>by
      rw[T8,cell_of_row w b j arr T (0,0) hb];rw[TS]at hu;split at hu
      .simpa using hu
      cases hu) hu hd (by unfold bT at hk;rw[hk,hrl.length,q])
     refine⟨.agg (arr.toList.take cs.length).toArray::us,?_,RelL.cons (by simp only[Rel];exact⟨_,O,hrl⟩) hl⟩;have D:a.tmps.getD ad undef= .pointer (UF ⟨b,0,UG⟩):=hev;rw[List.mapM_cons,B,D];simp only[Sem.run_bind,asAddr,Sem.run_pure,Result.andThen_ok,A,hr]
    cases h
   cases h
theorem ql(A:SW C n σ a w m R){fn:Func}{vs:List V}(h:yz n σ fn.results.toList=UF vs)(hc:kU C.P n σ fn.results.toList):
  ∃us:List Value,(results fn a.tmps).run C.P w= .ok (if h:us.toArray.size=1 then us.toArray[0]else .tuple us.toArray) w/\RelL w m σ.av R vs us:=by
 have q:=λf hf hf2=>oX A f hf hf2 h hc
 have u:∃us,Sem.run C.P (fn.results.toList.mapM fun
   | .tmp t=>pure (a.tmps.getD t undef)
   | .cell ad t=>do loadVar t (← asAddr (a.tmps.getD ad undef))) w= .ok us w/\RelL w m σ.av R vs us:=q _ (λ_=>rfl) (λ_ _=>rfl)
 obtain⟨us,hr,hl⟩:=u;refine⟨us,?_,hl⟩;unfold results;rw[Array.mapM_eq_mapM_toList];simp only[Sem.run_bind,Sem.run_map]
 erw[hr]
 rfl
def retQC(P:Program)(fn:Func)(n:Nat)(Q:PV->Prop):Exit->St->Prop
 | .ret,σ| .normal,σ=>∃vs ps,yz n σ fn.results.toList=UF vs/\V.args σ.ob vs=UF ps/\kU P n σ fn.results.toList/\Q (jB ps)
 |_,_=>False
theorem FnP.ofC{fn:Func}{args:List PV}{Q:PV->Prop}(I:P.funcs[f]? =UF fn)(A:fn.body=UF c)(M:fn.ntmps=n)(J:args.length<=n)
  (h:∀m0 w0 F R0,AW ⟨P,m0,w0,F,R0⟩ n c (retQC P fn n Q) (mkS (vK 0 args) [] 0)):FnP P f args Q:=by
 intro w R us hG hR hrel;refine calls_of_wp I A ?_
 let C:Ctx:=⟨P,λ_=>UG,w,λ_=>False,⟨R,hG,λb h=>⟨hR b h,id⟩,[]⟩⟩
 have L:=hrel.length;have B:SJ C n (mkS (vK 0 args) [] 0) { tmps:=us.toArray++Array.replicate (fn.ntmps-us.toArray.size) undef,defers:=[] } w:=by
  refine⟨λ_=>UG,R,⟨⟨λ_=>rfl,λ_ _=>rfl,λ_ _ _ _ h=>(by cases h),λ_ _ _ _ _ h=>(by cases h),λ_ _ _ h=>(by cases h),hR,λb h=> .inl h,λb h=>h,Fr.refl _ _,λ_ _ _ h=>(by cases h),λid hi=>eA (k:=0) hi⟩,rfl,Xo,?_⟩⟩;intro t ht;show Rel w _ (avK 0) R (look (vK 0 args) t) _;rw[zt];exact pG (RelL.ofP hrel) _ t
 refine wp_mono ((h (λ_=>UG) w (λ_=>False) ⟨R,hG,λb h=>⟨hR b h,id⟩,[]⟩).go _ w B) ?_;rintro ex a' w' ⟨σ',hq,m,R',hw⟩;have D:∀vs ps,yz n σ' fn.results.toList=UF vs->V.args σ'.ob vs=UF ps->kU P n σ' fn.results.toList->Q (jB ps)->a'.defers=[]/\∃v,(results fn a'.tmps).run P w'= .ok v w'/\
   ∃u v_1,Ending.returned v= .returned u/\Q v_1/\Below w.heap.size w w'/\RelP w' (λb=>R b\/(w.heap.size<=b/\b<w'.heap.size)) v_1 u:=by
  intro vs ps h1 h2 hc h3;obtain⟨us',hrun,hrl⟩:=ql hw h1 hc;have H:=hw.args hrl h2;have q:RelPL w' (λb=>R b\/(w.heap.size<=b/\b<w'.heap.size)) ps us':=H.mono λb A=>⟨by
   rcases A with A|⟨id,N,A⟩
   .rcases hw.hr.rfr b A with h|h|h
    .exact .inl h
    .exact .inr ⟨h,hw.hr.rsz b A⟩
    exact h.elim
   rcases(hw.hr.own id b N A).2.2 with h|h
   .exact h.elim
   exact .inr ⟨h,(hw.hr.own id b N A).1⟩,O⟩
  have E:Below w.heap.size w w':=⟨hw.hr.frame.os,hw.hr.frame.tape,hw.hr.frame.output,hw.hr.frame.size,λk hk=>hw.hr.frame.block k hk id⟩;have G:=q.length;refine⟨hw.df,_,hrun,_,_,O,h3,E,?_⟩;cases ps with
  | nil=>
    simp only[RelPL]at q;subst q;simp only[jB,RelP];exact⟨[],Xn,RelPL.nil⟩
  | cons p ps=>
    cases ps with
    | nil=>
      simp only[RelPL]at q;obtain⟨u,vs',rfl,h5,rfl⟩:=q;simpa[jB]using h5
    | cons p2 ps=>
      simp only[jB,RelP];refine⟨us',?_,q⟩;rw[dif_neg (by simp at G ⊢; omega)]
 cases ex with
 |normal=>obtain⟨vs,ps,h1,h2,h3,h4⟩:=hq;exact D vs ps h1 h2 h3 h4
 |ret=>obtain⟨vs,ps,h1,h2,h3,h4⟩:=hq;exact D vs ps h1 h2 h3 h4
 |_=>exact hq.elim
def retOC(P:Program)(fn:Func)(n k k':Nat)(Q:V->(Nat->Option Ob)->Prop):Exit->St->Prop
 | .ret,σ| .normal,σ=>∃l os' vs os2 k2,σ.le (mkS l os' k2)/\yz n (mkS l os' k2) fn.results.toList=UF vs/\kU P n (mkS l os' k2) fn.results.toList/\V.allL (okR k k') vs=VA/\os2.all (λp=>okR k k' p.1&&p.2.all (okR k k'))=VA/\
   (∀i o,aB os2 i=UF o->aB os' i=UF o)/\k'<=k2/\Q (eH vs) (aB os2)
 |_,_=>False
theorem FnO.ofC{fn:Func}{k':Nat}{args:List V}{os:List (Nat×Ob)}(L:P.funcs[f]? =UF fn)(M:fn.body=UF c)(X:fn.ntmps=n)(U:args.length<=n)
  (h:∀m0 w0 F R0,AW ⟨P,m0,w0,F,R0⟩ n c (retOC P fn n k k' Q) (mkS (eG 0 args) os 0)):FnO P f k k' args os Q:=by
 intro w m R us hHR hrel;refine calls_of_wp L M ?_;have W:=hrel.length;obtain⟨R1,hp1,hd1⟩:∃R1:RT w (fp m),R1.p=R.p/\R1.df=[]:=⟨⟨R.p,R.g,R.d,[]⟩,O,O⟩;have D:SJ ⟨P,m,w,fp m,R1⟩ n (mkS (eG 0 args) os 0) { tmps:=us.toArray++Array.replicate (fn.ntmps-us.toArray.size) undef,defers:=[] } w:=by
  refine⟨m,R.p,⟨hHR.dfs hp1,hd1.symm,Xo,?_⟩⟩;exact λt _=>pG hrel _ t
 refine wp_mono ((h m w (fp m) R1).go _ w D) ?_;rintro ex a' w' ⟨σ',hq,hsj⟩;have E:∀l os' vs os2 k2,σ'.le (mkS l os' k2)->yz n (mkS l os' k2) fn.results.toList=UF vs->kU P n (mkS l os' k2) fn.results.toList->V.allL (okR k k') vs=VA->os2.all (λp=>okR k k' p.1&&p.2.all (okR k k'))=VA->(∀i o,aB os2 i=UF o->aB os' i=UF o)->k'<=k2->Q (eH vs) (aB os2)->
   a'.defers=[]/\∃v,(results fn a'.tmps).run P w'= .ok v w'/\∃u v_1 ob' m' R',Ending.returned v= .returned u/\Q v_1 ob'/\v_1.all (okR k k')=VA/\(∀i o,ob' i=UF o->okR k k' i=VA/\o.all (okR k k')=VA)/\HR ⟨P,m,w,fp m,R⟩ m' R' ob' (avK k') w'/\Rel w' m' (avK k') R' v_1 u:=by
  intro l os' vs os2 k2 h1 h2 hc h3 h4 h5 h6 h7;obtain⟨m2,R2,hw⟩:=h1 _ _ _ _ hsj;obtain⟨us',hrun,hrl⟩:=ql hw h2 hc;have B:∀i o,aB os2 i=UF o->okR k k' i=VA/\o.all (okR k k')=VA:=by
   intro i o hio;have:=OF.1 h4 (i,o) (cm hio);simpa using this
  let m3:Gm:=λi=>if(aB os2 i).isSome then m2 i else UG
  have q:∀i x,m3 i=UF x->m2 i=UF x:=λi x h=>by
   simp only[m3]at h;split at h
   .exact h
   cases h
  have A:∀i,okR k k' i=VA->avK k' i=VC:=by
   intro i hi;simp only[okR,Ub,du]at hi;apply mS;rcases hi with h|h
   .rw[h];rfl
   rw[h.1];simp
  have J:∀(i:Nat)(x:Nat×Nat),okR k k' i=VA->m3 i=UF x->m2 i=UF x:=λi x _ h=>q i x h
  refine⟨hw.df.trans hd1,_,hrun,_,eH vs,aB os2,m3,R2,O,h7,qA h3,B,HR.dfs (R0:=R1) ?_ hp1.symm,?_⟩
  .refine⟨?_,?_,?_,?_,?_,hw.hr.rsz,hw.hr.rfr,hw.hr.r0,hw.hr.frame,λi x hi h=>hw.hr.j4 i x hi (q i x h),λi hi=>eA hi⟩
   .intro i;simp only[m3];cases e:aB os2 i with
    |none=>rfl
    | some o=>
      have:=hw.hr.dom i;have G:(mkS l os' k2).ob i=UF o:=h5 i o e;rw[G]at this;simpa using this
   .intro i hi;cases e:aB os2 i with
    |none=>rfl
    | some o=>
      have:=A i (B i o e).1;rw[hi]at this;cases this
   .intro i o b N e1 G;have H:=hw.hr.obj i o b N (h5 i o e1) (q _ _ G);have I:lQ w' m2 (mkS l os' k2).av R2 b N (o.ren (λi=>i)):=by rw[Ob.Cw];exact H
    exact I.jz (λi=>i) (okR k k') J A (B i o e1).2
   .exact λi j b N N' e1 G=>hw.hr.inj i j b N N' (q _ _ e1) (q _ _ G)
   exact λi b N e=>hw.hr.own i b N (q _ _ e)
  have I:Rel w' m2 (mkS l os' k2).av R2 ((eH vs).ren (λi=>i)) (if h:us'.toArray.size=1 then us'.toArray[0]else .tuple us'.toArray):=by rw[V.Cw];exact zd hrl
  exact I.jz (λi=>i) (okR k k') J A _ _ (qA h3)
 cases ex with
 |normal=>obtain⟨l,os',vs,os2,k2,h1,h2,h3,h4,h5,h6,h7,H⟩:=hq;exact E l os' vs os2 k2 h1 h2 h3 h4 h5 h6 h7 H
 |ret=>obtain⟨l,os',vs,os2,k2,h1,h2,h3,h4,h5,h6,h7,H⟩:=hq;exact E l os' vs os2 k2 h1 h2 h3 h4 h5 h6 h7 H
 |_=>exact hq.elim
theorem xb:∀{l:List ResultVar}{vs:List V},Pf n σ l=UF vs->yz n σ l=UF vs/\kU P n σ l
 |[],_,h=>⟨h,Xq⟩
 | .tmp t::l,vs,h=>by
   simp only[Pf]at h;split at h
   .rename_i vs' h';obtain⟨h1,h2⟩:=xb h';exact⟨by simp only[yz,h1];exact h,h2⟩
   cases h
 | .cell _ _::_,_,h=>by cases h
theorem FnP.of{fn:Func}{args:List PV}{Q:PV->Prop}(u:P.funcs[f]? =UF fn)(A:fn.body=UF c)(B:fn.ntmps=n)(q:args.length<=n)
  (h:∀m0 w0 F R0,AW ⟨P,m0,w0,F,R0⟩ n c (retQ fn n Q) (mkS (vK 0 args) [] 0)):FnP P f args Q:=
 FnP.ofC u A B q λm0 w0 F R0=>(h m0 w0 F R0).mono λex s hq=>by
  cases ex<;>first|exact hq.elim|exact(let ⟨vs,ps,h1,h2,h3⟩:=hq;⟨vs,ps,(xb (P:=P) h1).1,h2,(xb h1).2,h3⟩)
theorem FnO.of{fn:Func}{k':Nat}{args:List V}{os:List (Nat×Ob)}(u:P.funcs[f]? =UF fn)(A:fn.body=UF c)(B:fn.ntmps=n)(q:args.length<=n)
  (h:∀m0 w0 F R0,AW ⟨P,m0,w0,F,R0⟩ n c (retO fn n k k' Q) (mkS (eG 0 args) os 0)):FnO P f k k' args os Q:=
 FnO.ofC u A B q λm0 w0 F R0=>(h m0 w0 F R0).mono λex s hq=>by
  cases ex<;>first|exact hq.elim|exact(let ⟨l,os',vs,h1,h2,h3,h4,h5⟩:=hq;⟨l,os',vs,os',k',h1,(xb (P:=P) h2).1,(xb h2).2,h3,h4,λ_ _ e=>e,AT _,h5⟩)
end
section
def gU(σ:St)(ρ:Nat->Nat):List (Nat×Ob)->Prop
 |[]=>True
 |(i,o)::l=>σ.ob (ρ i)=UF (o.ren ρ)/\gU σ ρ l
theorem iP:∀{os:List (Nat×Ob)},gU σ ρ os->∀i o,(i,o)∈os->σ.ob (ρ i)=UF (o.ren ρ)
 |[],_,i,o,h=>by simp at h
 | (d,v)::os,h,i,o,hm=>by
   rcases BY.1 hm with e|hm
   .cases e;exact h.1
   exact iP h.2 i o hm
theorem nI:∀{os:List (Nat×Ob)}{i:Nat},i∈os.map (·.1)->∃o,aB os i=UF o
 |[],_,h=>by simp at h
 | (d,v)::os,i,h=>by
   simp only[aB];cases hb:Nat.beq i d with
   |true=>exact⟨v,O⟩
   | false=>
     simp only[cu,BY]at h;rcases h with e|h
     .subst e;simp at hb
     simpa using nI h
section
variable {C:Ctx}{n:Nat}{σ:St}
theorem sx{args:List V}{os:List (Nat×Ob)}{k':Nat}(ids:List Nat)(base:Nat)
  (ha:V.allL (okR ids.length 0) args=VA) (hos:os.map (·.1)=(List.range ids.length).map (big+ ·)) (hob:os.all (λp=>p.2.all (okR ids.length 0))=VA) (hobs:gU σ (fu ids base) os)
  (hnd:ids.Nodup) (hav:(nwO base k').all σ.av=VA) (hf:FnO C.P f ids.length k' args os Q)
  (hk:∀v ob',Q v ob'->K (σ.app dst ⟨v.ren (fu ids base),wrO ids base k' ob',nwO base k'⟩))
  {a:Act} {w:World} {m:Gm} {R:Nat->Prop} (E:SW C n σ a w m R) {us:List Value} (hus:RelL w m σ.av R (V.renL (fu ids base) args) us):
  Calls C.P f us.toArray w λe w'=>∃u,e= .returned u/\∃σ',K σ'/\SJ C n σ' (a.put dst u) w':=by
 have ρb:∀j,fu ids base (big+j)=ids.getD j 0:=λj=>by
  have:Nat.ble big (big+j)=VA:=V3 (Vf _ _);simp only[fu,this,U3,Nat.add_sub_cancel_left]
 have ρj:∀(j id:Nat),ids[j]? =UF id->fu ids base (big+j)=id:=λj id h=>by rw[ρb,TO,h];rfl
 have ρn:∀i,i<big->fu ids base i=base+i:=λi hi=>by
  have:Nat.ble big i=VC:=by cases U:Nat.ble big i;rfl;have:=TV U;omega
  simp only[fu,this,Ue]
 have keyS:∀i o,aB os i=UF o->∃j id:Nat,i=big+j/\ids[j]? =UF id:=by
  intro i o h;have:i∈os.map (·.1):=TG.2 ⟨(i,o),cm h,O⟩;rw[hos]at this;obtain⟨j,hj,rfl⟩:=TG.1 this;have D:j<ids.length:=by simpa using hj
  exact⟨j,ids[j],O,IS D⟩
 have keyI:∀(j id:Nat),ids[j]? =UF id->∃o,aB os (big+j)=UF o:=by
  intro j id h;apply nI;rw[hos];exact TG.2 ⟨j,by simpa using(TE.1 h).1,O⟩
 have obs:∀i o,aB os i=UF o->σ.ob (fu ids base i)=UF (o.ren (fu ids base)):=λi o h=>iP hobs i o (cm h)
 have aa:∀(j id:Nat),ids[j]? =UF id->(∀o,aB os (big+j)=UF o->(m id).isSome=o.real)/\σ.av id=VC:=by
  intro j id h;refine⟨λo I=>?_,?_⟩
  .have A:=obs _ _ I;rw[ρj j id h]at A;rw[E.hr.dom,A];exact Ob.mz _ o
  obtain⟨o,I⟩:=keyI j id h;have A:=obs _ _ I;rw[ρj j id h]at A;cases U:σ.av id
  .rfl
  rw[E.hr.free id U]at A;cases A
 have nwav:∀i,i<k'->σ.av (base+i)=VA:=λi hi=>OF.1 hav _ (TG.2 ⟨i,by simpa using hi,O⟩)
 have nwids:∀i,i<k'->(base+i)∉ids:=λi hi hmem=>by
  obtain⟨j,hj⟩:=UX hmem;have:=(aa j _ hj).2;rw[nwav i hi]at this;cases this
 have L:∀i,i<k'->base+i<big:=λi hi=>by
  rcases Vo (base+i) big with h|h
  .exact h
  have:=E.hr.res _ h;rw[nwav i hi]at this;cases this
 have ab:∀i,okR ids.length k' i=VA->(i<k'/\i<big/\fu ids base i=base+i)\/∃j id:Nat,i=big+j/\ids[j]? =UF id:=by
  intro i hi;simp only[okR,Ub,du]at hi;rcases hi with h|⟨A,B⟩
  .have h:i<k':=by simpa[VG]using h
   have U:i<big:=by have:=L i h;omega
   exact .inl ⟨h,U,ρn i U⟩
  have A:=TV A;have B:i<big+ids.length:=by simpa[VG]using B
  refine .inr ⟨i-big,ids[i-big]'Xj,Xj,IS _⟩
 have W:∀i,okR ids.length 0 i=VA->∃j id:Nat,i=big+j/\ids[j]? =UF id:=by
  intro i hi;simp only[okR,Ub,du]at hi;rcases hi with h|⟨A,B⟩
  .simp[Nat.blt]at h
  have A:=TV A;have B:i<big+ids.length:=by simpa[VG]using B
  exact⟨i-big,ids[i-big]'Xj,Xj,IS _⟩
 let mc:Gm:=λi=>if(aB os i).isSome then m (fu ids base i)else UG
 have Z:∀i x,mc i=UF x->∃j id:Nat,i=big+j/\ids[j]? =UF id/\m id=UF x:=by
  intro i x h;simp only[mc]at h;split at h
  .rename_i hs;obtain⟨o,I⟩:=T7.1 hs;obtain⟨j,id,rfl,hj⟩:=keyS i o I;rw[ρj j id hj]at h;exact⟨j,id,O,hj,h⟩
  cases h
 have mcI:∀(j id:Nat),ids[j]? =UF id->mc (big+j)=m id:=by
  intro j id h;obtain⟨o,I⟩:=keyI j id h;simp only[mc,I,Option.isSome_some,WH,ρj j id h]
 have idsInj:∀(i j id:Nat),ids[i]? =UF id->ids[j]? =UF id->i=j:=by
  intro i j id A B;have l1:=(TE.1 A).1;have l2:=(TE.1 B).1;have Y:=Uj.1 hnd;have e1:=(TE.1 A).2;have e2:=(TE.1 B).2;rcases Nat.lt_trichotomy i j with h|h|h
  .exact absurd (e1.trans e2.symm) (Y i j l1 l2 h)
  .exact h
  exact absurd (e2.trans e1.symm) (Y j i l2 l1 h)
 have J:∀b,fp mc b->∃j id N:Nat,ids[j]? =UF id/\m id=UF (b,N):=by
  rintro b ⟨i,N,h⟩;obtain⟨j,id,_,hj,hx⟩:=Z i _ h;exact⟨j,id,N,hj,hx⟩
 let RT0:RT w (fp mc):=⟨R,E.hr.gi,λb U=>⟨E.hr.rsz b U,λI=>by obtain⟨j,id,N,_,hx⟩:=J b I;exact(E.hr.own id b N hx).2.1 U⟩,[]⟩
 have hHRc:HR ⟨C.P,mc,w,fp mc,RT0⟩ mc R (aB os) (avK 0) w:=by
  refine⟨?_,?_,?_,?_,?_,E.hr.rsz,λb h=> .inl h,λb h=>h,Fr.refl _ _,λi x _ h=>h,λi h=>eA h⟩
  .intro i;simp only[mc];cases I:aB os i with
   |none=>rfl
   | some o=>
     obtain⟨j,id,rfl,hj⟩:=keyS i o I;rw[ρj j id hj];simpa[cL]using(aa j id hj).1 o I
  .intro i hi;cases I:aB os i with
   |none=>rfl
   | some o=>
     obtain⟨j,id,rfl,hj⟩:=keyS i o I;have:=(NP hi).2;omega
  .intro i o b N A B;obtain⟨j,id,rfl,hj,hx⟩:=Z i _ B;have H:=obs _ _ A;rw[ρj j id hj]at H;have h4:=E.hr.obj id _ b N H hx;refine h4.jz (fu ids base) (okR ids.length 0) ?_ ?_ ?_
   .intro i' x Y hx';obtain⟨j',id',rfl,D,hx''⟩:=Z i' _ hx';rw[ρj j' id' D];exact hx''
   .intro i' Y;obtain⟨j',id',rfl,_⟩:=W i' Y;exact eA (Vf _ _)
   exact OF.1 hob (big+j,o) (cm A)
  .intro i j b N N' A B;obtain⟨i',id,rfl,hi',hx⟩:=Z i _ A;obtain⟨j',id2,rfl,D,hy⟩:=Z j _ B;have:=E.hr.inj id id2 b N N' hx hy;subst this;rw[idsInj i' j' id hi' D]
  .intro i b N A;obtain⟨j,id,rfl,hj,hx⟩:=Z i _ A;have:=E.hr.own id b N hx;exact⟨this.1,this.2.1,.inl ⟨big+j,N,A⟩⟩
 have hrel:RelL w mc (avK 0) R args us:=by
  refine hus.jz (fu ids base) (okR ids.length 0) ?_ ?_ _ _ ha
  .intro i' x Y hx';obtain⟨j',id',rfl,D,hx''⟩:=Z i' _ hx';rw[ρj j' id' D];exact hx''
  .intro i' Y;obtain⟨j',id',rfl,_⟩:=W i' Y;exact eA (Vf _ _)
 refine(hf w mc RT0 us hHRc hrel).mono ?_;rintro e w' ⟨u,v,ob',m',R',rfl,hq,hva,hoba,hH,hrv⟩;refine⟨u,O,_,hk v ob' hq,?_⟩;have mobs:∀i,(m' i).isSome=VA->okR ids.length k' i=VA:=λi hi=>by
  rw[hH.dom]at hi;obtain⟨o,I⟩:∃o,ob' i=UF o:=by
   cases e:ob' i with
   |none=>rw[e]at hi;cases hi
   |some o=>exact⟨o,O⟩
  exact(hoba i o I).1
 let mn:Gm:=lkL (ids.zipIdx.map (λp=>(p.1,m' (big+p.2)))++(List.range k').map (λi=>(base+i,m' i))) m
 have zipn:∀{β:Type}(g h:Nat->β)(f:Nat->β),(∀(j id:Nat),ids[j]? =UF id->lkL (ids.zipIdx.map (λp=>(p.1,g p.2))++(List.range k').map (λi=>(base+i,h i))) f id=g j)/\
   (∀i,i<k'->lkL (ids.zipIdx.map (λp=>(p.1,g p.2))++(List.range k').map (λi=>(base+i,h i))) f (base+i)=h i)/\
   (∀id,id∉ids->(∀i,i<k'->id≠base+i)->lkL (ids.zipIdx.map (λp=>(p.1,g p.2))++(List.range k').map (λi=>(base+i,h i))) f id=f id):=by
  intro β g h f;have hz:∀id,id∉ids->id∉(ids.zipIdx.map (λp=>(p.1,g p.2))).map (·.1):=by
   intro id hid hmem;obtain⟨p,Y,rfl⟩:=TG.1 hmem;obtain⟨q,hq,rfl⟩:=TG.1 Y;obtain⟨q1,q2⟩:=q;have:=List.mem_zipIdx hq;simp only at hid;exact hid (by rw[this.2.2];exact aq _)
  refine⟨λj id hj=>?_,λi hi=>?_,λid A B=>?_⟩
  .rw[ug];have:=JS g (lkL ((List.range k').map (λi=>(base+i,h i))) f) ids 0 j id hnd hj;simpa using this
  .rw[ug,uy _ _ _ (hz _ (nwids i hi))];exact FI h f base k' i hi
  rw[ug,uy _ _ _ (hz _ A),uy];intro hmem;obtain⟨p,Y,hpe⟩:=TG.1 hmem;obtain⟨i,hi,rfl⟩:=TG.1 Y;exact B i (by simpa using hi) hpe.symm
 obtain⟨mnA,mnB,mnC⟩:=zipn (λj=>m' (big+j)) m' m;obtain⟨obA,obB,obC⟩:=zipn (λj=>(ob' (big+j)).map (Ob.ren (fu ids base))) (λi=>(ob' i).map (Ob.ren (fu ids base))) σ.ob;have obE:(obL (wrO ids base k' ob') σ.ob)=lkL (ids.zipIdx.map (λp=>(p.1,(ob' (big+p.2)).map (Ob.ren (fu ids base))))++(List.range k').map (λi=>(base+i,(ob' i).map (Ob.ren (fu ids base))))) σ.ob:=Om _ _;have X:∀id:Nat,(∃j:Nat,ids[j]? =UF id)\/(∃i,i<k'/\id=base+i)\/(id∉ids/\∀i,i<k'->id≠base+i):=by
  intro id;by_cases A:id∈ids
  .exact .inl (UX A)
  by_cases B:∃i,i<k'/\id=base+i
  .exact .inr (.inl B)
  exact .inr (.inr ⟨A,λi hi e=>B ⟨i,hi,e⟩⟩)
 have kept:∀(j id:Nat)(x:Nat×Nat),ids[j]? =UF id->m' (big+j)=UF x->m id=UF x:=λj id x hj h=>by
  have:=hH.j4 (big+j) x (Vf _ _) h;rw[<-mcI j id hj];exact this
 have hblk:∀b,b<w.heap.size->¬fp mc b->w'.heap[b]? =w.heap[b]? :=λb A B=>hH.frame.block b A B
 have hR:∀b,R b->R' b/\w'.heap[b]? =w.heap[b]? :=λb U=>⟨hH.r0 b U,hblk b (E.hr.rsz b U) (λI=>by
  obtain⟨j,id,N,hj,hx⟩:=J b I;exact(E.hr.own id b N hx).2.1 U)⟩
 have avn:∀id,σ.av id=VC->avL (nwO base k') σ.av id=VC:=λid h=>by rw[kY,h];rfl
 have avnew:∀i,i<k'->avL (nwO base k') σ.av (base+i)=VC:=λi hi=>by
  have:inL (base+i) (nwO base k')=VA:=eM.2 (TG.2 ⟨i,by simpa using hi,O⟩);rw[kY,this];simp
 have hm:∀id x,σ.av id=VC->mn id=UF x->m id=UF x:=by
  intro id x hav' hx;rcases X id with⟨j,hj⟩|⟨i,hi,rfl⟩|⟨A,B⟩
  .rw[show mn id=m' (big+j)from mnA j id hj]at hx;exact kept j id x hj hx
  .rw[nwav i hi]at hav';cases hav'
  rwa [show mn id=m id from mnC id A B]at hx
 have rm:∀i x,okR ids.length k' i=VA->mn (fu ids base i)=UF x->m' i=UF x:=by
  intro i x Y hx;rcases ab i Y with⟨A,B,H⟩|⟨j,id,rfl,hj⟩
  .rw[H,show mn (base+i)=m' i from mnB i A]at hx;exact hx
  rw[ρj j id hj,show mn id=m' (big+j)from mnA j id hj]at hx;exact hx
 have ra:∀i,okR ids.length k' i=VA->avK k' i=VC->avL (nwO base k') σ.av (fu ids base i)=VC:=by
  intro i Y _;rcases ab i Y with⟨A,B,H⟩|⟨j,id,rfl,hj⟩
  .rw[H];exact avnew i A
  rw[ρj j id hj];exact avn id (aa j id hj).2
 have M:∀id b N,m id=UF (b,N)->id∉ids->¬fp mc b:=by
  intro id b N hx hid I;obtain⟨j,id2,N2,hj,hy⟩:=J b I;have:=E.hr.inj id id2 b N N2 hx hy;subst this;exact hid (U5 hj)
 have G:∀i b N,m' i=UF (b,N)->b<w'.heap.size/\¬R' b/\(C.F b\/C.w0.heap.size<=b)/\(fp mc b\/w.heap.size<=b):=by
  intro i b N hx;obtain⟨A,B,H⟩:=hH.own i b N hx;refine⟨A,B,?_,H⟩;rcases H with H|H
  .obtain⟨j,id,N2,hj,hy⟩:=J b H;exact(E.hr.own id b N2 hy).2.2
  exact .inr (AS E.hr.frame.size H)
 have mix:∀i b N id N',m' i=UF (b,N)->m id=UF (b,N')->id∉ids->False:=by
  intro i b N id N' A B hid;rcases(G i b N A).2.2.2 with h|h
  .exact M id b N' B hid h
  have:=(E.hr.own id b N' B).1;omega
 have hHn:HR C mn R' (obL (wrO ids base k' ob') σ.ob) (avL (nwO base k') σ.av) w':=by
  rw[obE];refine⟨?_,?_,?_,?_,?_,hH.rsz,?_,λb h=>hH.r0 b (E.hr.r0 b h),?_,?_,λid h=>avn id (E.hr.res id h)⟩
  .intro id;rcases X id with⟨j,hj⟩|⟨i,hi,rfl⟩|⟨A,B⟩
   .rw[obA j id hj,show mn id=m' (big+j)from mnA j id hj,xn];exact hH.dom _
   .rw[obB i hi,show mn (base+i)=m' i from mnB i hi,xn];exact hH.dom _
   rw[obC id A B,show mn id=m id from mnC id A B];exact E.hr.dom id
  .intro id hid;rcases X id with⟨j,hj⟩|⟨i,hi,rfl⟩|⟨A,B⟩
   .rw[avn id (aa j id hj).2]at hid;cases hid
   .rw[avnew i hi]at hid;cases hid
   rw[obC id A B];refine E.hr.free id ?_;rw[kY]at hid;simp only[du]at hid;exact hid.1
  .intro id o b N A B;rcases X id with⟨j,hj⟩|⟨i,hi,rfl⟩|⟨H,h4⟩
   .rw[obA j id hj]at A;rw[show mn id=m' (big+j)from mnA j id hj]at B;obtain⟨o',ho',rfl⟩:=Vz.1 A;exact(hH.obj _ o' b N ho' B).ren (fu ids base) (okR ids.length k') rm ra (hoba _ o' ho').2
   .rw[obB i hi]at A;rw[show mn (base+i)=m' i from mnB i hi]at B;obtain⟨o',ho',rfl⟩:=Vz.1 A;exact(hH.obj _ o' b N ho' B).ren (fu ids base) (okR ids.length k') rm ra (hoba _ o' ho').2
   rw[obC id H h4]at A;rw[show mn id=m id from mnC id H h4]at B;exact(E.hr.obj id o b N A B).mono hR hm avn (hblk b (E.hr.own id b N B).1 (M id b N B H))
  .intro i j b N N' A B;rcases X i with⟨i',hi'⟩|⟨i',hi',rfl⟩|⟨H,h4⟩<;>rcases X j with⟨j',D⟩|⟨j',D,rfl⟩|⟨h5,h6⟩
   .rw[show mn i=m' (big+i')from mnA i' i hi']at A;rw[show mn j=m' (big+j')from mnA j' j D]at B;have:=hH.inj _ _ b N N' A B;have:i'=j':=Xj;subst this;rw[hi']at D;exact VJ D
   .rw[show mn i=m' (big+i')from mnA i' i hi']at A;rw[show mn (base+j')=m' j' from mnB j' D]at B;have:=hH.inj _ _ b N N' A B;have:=L j' D;omega
   .rw[show mn i=m' (big+i')from mnA i' i hi']at A;rw[show mn j=m j from mnC j h5 h6]at B;exact(mix _ b N j N' A B h5).elim
   .rw[show mn (base+i')=m' i' from mnB i' hi']at A;rw[show mn j=m' (big+j')from mnA j' j D]at B;have:=hH.inj _ _ b N N' A B;have:=L i' hi';omega
   .rw[show mn (base+i')=m' i' from mnB i' hi']at A;rw[show mn (base+j')=m' j' from mnB j' D]at B;rw[hH.inj _ _ b N N' A B]
   .rw[show mn (base+i')=m' i' from mnB i' hi']at A;rw[show mn j=m j from mnC j h5 h6]at B;exact(mix _ b N j N' A B h5).elim
   .rw[show mn i=m i from mnC i H h4]at A;rw[show mn j=m' (big+j')from mnA j' j D]at B;exact(mix _ b N' i N B A H).elim
   .rw[show mn i=m i from mnC i H h4]at A;rw[show mn (base+j')=m' j' from mnB j' D]at B;exact(mix _ b N' i N B A H).elim
   rw[show mn i=m i from mnC i H h4]at A;rw[show mn j=m j from mnC j h5 h6]at B;exact E.hr.inj i j b N N' A B
  .intro id b N A;rcases X id with⟨j,hj⟩|⟨i,hi,rfl⟩|⟨H,h4⟩
   .rw[show mn id=m' (big+j)from mnA j id hj]at A;have:=G _ b N A;exact⟨this.1,this.2.1,this.2.2.1⟩
   .rw[show mn (base+i)=m' i from mnB i hi]at A;have:=G _ b N A;exact⟨this.1,this.2.1,this.2.2.1⟩
   rw[show mn id=m id from mnC id H h4]at A;obtain⟨h5,h6,h7⟩:=E.hr.own id b N A;refine⟨TM h5 hH.frame.size,λU=>?_,h7⟩;rcases hH.rfr b U with h|h|h
   .exact h6 h
   .have h:w.heap.size<=b:=h;omega
   exact M id b N A H h
  .intro b U;rcases hH.rfr b U with h|h|h
   .exact E.hr.rfr b h
   .exact .inr (.inl (AS E.hr.frame.size h))
   obtain⟨j,id,N,hj,hx⟩:=J b h;rcases(E.hr.own id b N hx).2.2 with h|h
   .exact .inr (.inr h)
   exact .inr (.inl h)
  .refine⟨hH.frame.os.trans E.hr.frame.os,hH.frame.tape.trans E.hr.frame.tape,hH.frame.output.trans E.hr.frame.output,AS E.hr.frame.size hH.frame.size,λk hk hF=>?_⟩;rw[hblk k (TM hk E.hr.frame.size) (λI=>by
    obtain⟨j,id,N,hj,hx⟩:=J k I;rcases(E.hr.own id k N hx).2.2 with h|h
    .exact hF h
    omega)]
   exact E.hr.frame.block k hk hF
  .intro id x hid hx;rcases X id with⟨j,hj⟩|⟨i,hi,rfl⟩|⟨H,h4⟩
   .rw[show mn id=m' (big+j)from mnA j id hj]at hx;exact E.hr.j4 id x hid (kept j id x hj hx)
   .have:=L i hi;omega
   rw[show mn id=m id from mnC id H h4]at hx;exact E.hr.j4 id x hid hx
 rw[Ts];exact⟨mn,R',SW.put (E.world hHn hR hm avn) dst (hrv.ren (fu ids base) (okR ids.length k') rm ra _ _ hva)⟩
end
section
variable {C:Ctx}{n:Nat}{σ:St}{dst:Option Tmp}{ty:TypeId}{ts:Array TypeId}{pos:String}{after:Array Edge}{gd:Option (Nat×Bool)}
theorem cz{args:List V}{os:List (Nat×Ob)}{k':Nat}(ids:List Nat)(base:Nat)(hc:db C.P f)(q:xs.toList.map (σ.ev n)=V.renL (fu ids base) args)
  (H:V.allL (okR ids.length 0) args=VA) (hos:os.map (·.1)=(List.range ids.length).map (big+ ·)) (D:os.all (λp=>p.2.all (okR ids.length 0))=VA) (B:gU σ (fu ids base) os)
  (E:ids.Nodup) (G:(nwO base k').all σ.av=VA) (I:FnO C.P f ids.length k' args os Q)
  (J:∀v ob',Q v ob'->K (σ.app dst ⟨v.ren (fu ids base),wrO ids base k' ob',nwO base k'⟩)):
  OJ C n ⟨dst,.call { callee:= .value (.func f),args:=xs,argTypes:=ts },ty,pos,after,gd⟩ K σ:=by
 rintro a w Q' ⟨m,R,hw⟩;unfold Oper.wp;rw[nk hc];have A:=hw.evs xs.toList;rw[q]at A;have:=sx (dst:=dst) ids base H hos D B E G I J hw A;have e:(xs.toList.map a.eval).toArray=xs.map a.eval:=by rw[<-Array.toList_map,Array.toArray_toList]
 rw[e]at this;refine Calls.mono this ?_;rintro e w' ⟨u,rfl,h⟩;exact h
theorem xp(hc:db P f)(xs:Array Operand){fs cs:List Value}(q:a.eval y= .func (.func f) fs.toArray cs.toArray)(w:World):
  (execOp a.eval ⟨dst,.call { callee:= .value y,args:=xs,argTypes:=ts },ty,pos,after,gd⟩).run P w= .ok (.enter f (fs++xs.toList.map a.eval++cs).toArray) w:=by
 have e:(fs.toArray++xs.map a.eval++cs.toArray)=(fs++xs.toList.map a.eval++cs).toArray:=Xn;simp[execOp,resolve,Deferred.ofValue,q,invoke];rw[show(fs++(List.map a.eval xs.toList++cs)).toArray=fs.toArray++(xs.map a.eval++cs.toArray) by simp];exact hc _ _
theorem FU{fs cs:List V}{args:List V}{os:List (Nat×Ob)}{k':Nat}(ids:List Nat)(base:Nat)(hc:db C.P f)(I:σ.ev n y= .fn (.func f) fs cs)(q:fs++xs.toList.map (σ.ev n)++cs=V.renL (fu ids base) args)
  (J:V.allL (okR ids.length 0) args=VA) (hos:os.map (·.1)=(List.range ids.length).map (big+ ·)) (E:os.all (λp=>p.2.all (okR ids.length 0))=VA) (B:gU σ (fu ids base) os)
  (G:ids.Nodup) (H:(nwO base k').all σ.av=VA) (L:FnO C.P f ids.length k' args os Q)
  (M:∀v ob',Q v ob'->K (σ.app dst ⟨v.ren (fu ids base),wrO ids base k' ob',nwO base k'⟩)):
  OJ C n ⟨dst,.call { callee:= .value y,args:=xs,argTypes:=ts },ty,pos,after,gd⟩ K σ:=by
 rintro a w Q' ⟨m,R,hw⟩;have D:=hw.ev y;rw[I]at D;simp only[Rel]at D;obtain⟨us,vs,he,h1,h2⟩:=D;unfold Oper.wp;rw[xp hc xs he];have A:=(h1.append (hw.evs xs.toList)).append h2;rw[q]at A;refine Calls.mono (sx (dst:=dst) ids base J hos E B G H L M hw A) ?_;rintro e w' ⟨u,rfl,h⟩;exact h
theorem KH{Q:PV->Prop}(hc:db C.P f)(G:σ.ev n y= .pv (.fn (.func f) fs cs))(H:FnP C.P f (fs++ps++cs) Q)(q:(V.args (λ_=>UG) (xs.toList.map (σ.ev n))).map PV.fgA=UF ps)(I:∀v,Q v->K (σ.put dst (.pv v))):
  OJ C n ⟨dst,.call { callee:= .value y,args:=xs,argTypes:=ts },ty,pos,after,gd⟩ K σ:=by
 rintro a w Q' ⟨m,R,hw⟩;have D:=hw.pv G;simp only[RelP]at D;obtain⟨us,vs,he,B,h2⟩:=D;unfold Oper.wp;rw[xp hc xs he];have A:RelPL w R ps (xs.toList.map a.eval):=by
  have E:SW C n ⟨σ.sl,λ_=>UG,σ.av⟩ a w (λ_=>UG) R:=by
   refine⟨⟨λ_=>rfl,λ_ _=>rfl,λ_ _ _ _ h=>(by cases h),λ_ _ _ _ _ h=>(by cases h),λ_ _ _ h=>(by cases h),hw.hr.rsz,hw.hr.rfr,hw.hr.r0,hw.hr.frame,λ_ _ _ h=>(by cases h),hw.hr.res⟩,hw.df,hw.sz,λt ht=>(hw.sl t ht).mono (λb h=>⟨h,rfl⟩) (λ_ _ _ e=>by cases e) (λ_ e=>e)⟩
  obtain⟨ps0,hargs0,rfl⟩:=Vz.1 q;have B:=(E.args (E.evs xs.toList) hargs0).fgA;exact B.mono λb hb=>⟨hb.elim id (fun⟨_,_,h⟩=>by cases h),rfl⟩
 refine Calls.mono (H w R _ hw.hr.gi hw.hr.rsz ((B.append A).append h2)) ?_;rintro e w' ⟨u,v,rfl,hq,hb,hr⟩;exact⟨_,I v hq,m,_,(hw.called hb).put dst (by simpa only[Rel]using hr)⟩
theorem je(hc:db C.P f)(u:σ.ev n y= .pv (.fn (.func f) fs cs))(A:FnP C.P f (fs++ps++cs) (· =r))(q:(V.args (λ_=>UG) (xs.toList.map (σ.ev n))).map PV.fgA=UF ps):
  XJ C n ⟨dst,.call { callee:= .value y,args:=xs,argTypes:=ts },ty,pos,after,gd⟩ σ ⟨.pv r,[],[]⟩:=
 KH hc u A q (by rintro v rfl;exact(St.iV σ dst _).symm)
end
end
section
def FnM(P:Program)(f:FuncId)(T:TypeId)(cs:List PV)(args:List PV)(Q:PV->List PV->Prop):Prop:=
 FnO P f 1 0 (.ptr big 0::args.map .pv) [(big,.mix T (cs.map .pv))] λv ob'=>∃r cs',v= .pv r/\ob'=aB [(big,.mix T (cs'.map .pv))]/\Q r cs'
theorem tx(ρ:Nat->Nat):∀ps:List PV,V.renL ρ (ps.map V.pv)=ps.map V.pv
 |[]=>rfl
 |p::ps=>by simp[V.renL,V.ren,tx ρ ps]
theorem oh(q:Nat->Bool):∀ps:List PV,V.allL q (ps.map V.pv)=VA
 |[]=>rfl
 |p::ps=>by simp[V.allL,V.all,oh q ps]
theorem Jb(k:Nat):∀ps:List PV,V.okL k (ps.map V.pv)=VA
 |[]=>rfl
 |p::ps=>by simp[V.okL,V.okA,Jb k ps]
def retM(n t:Nat)(T:TypeId)(Q:PV->List PV->Prop):Exit->St->Prop
 | .ret,σ| .normal,σ=>∃r cs',σ.ev n (.tmp t)= .pv r/\σ.ob big=UF (.mix T (cs'.map .pv))/\Q r cs'
 |_,_=>False
theorem FnM.of{fn:Func}{args:List PV}{Q:PV->List PV->Prop}(D:P.funcs[f]? =UF fn)(E:fn.body=UF c)(G:fn.ntmps=n)(B:args.length+1<=n)(A:fn.results.toList=[.tmp t])(H:t<n)
  (h:∀m0 w0 F R0,AW ⟨P,m0,w0,F,R0⟩ n c (retM n t T Q) (mkS ((0,.ptr big 0)::eG 1 (args.map .pv)) [(big,.mix T (cs.map .pv))] 0)):FnM P f T cs args Q:=by
 refine FnO.of D E G (by simpa using B) λm0 w0 F R0=>?_
 refine(h m0 w0 F R0).mono ?_;have q:Nat.blt t n=VA:=by simpa[VG]using H
 have u:∀s:St,(∃r cs',s.ev n (.tmp t)= .pv r/\s.ob big=UF (.mix T (cs'.map .pv))/\Q r cs')->∃l os' vs,s.le (mkS l os' 0)/\Pf n (mkS l os' 0) fn.results.toList=UF vs/\V.allL (okR 1 0) vs=VA/\os'.all (λp=>okR 1 0 p.1&&p.2.all (okR 1 0))=VA/\∃r cs',eH vs= .pv r/\aB os'=aB [(big,.mix T (cs'.map .pv))]/\Q r cs':=by
  rintro s ⟨r,cs',h1,h2,h3⟩;simp only[St.ev,q,U3]at h1;refine⟨[(t,.pv r)],[(big,.mix T (cs'.map .pv))],[.pv r],Tk ⟨h1,Xq⟩ ⟨h2,Xq⟩ O ?_,?_,O,?_,r,cs',O,O,h3⟩
  .simp only[VL,Xh,Wh,Ob.okA,Jb];rfl
  .rw[A];simp only[Pf,St.ev,q,U3,mkS,look,Nat.beq_refl]
  simp only[VL,Xh,Wh,Ob.all,oh];rfl
 intro ex s hq;cases ex with
 |normal=>exact u s hq
 |ret=>exact u s hq
 |_=>exact hq.elim
section
variable {C:Ctx}{n:Nat}{σ:St}{dst:Option Tmp}{ty:TypeId}{ts:Array TypeId}{pos:String}{after:Array Edge}{gd:Option (Nat×Bool)}
theorem ma{Q:PV->List PV->Prop}(hc:db C.P f)(A:FnM C.P f T cs ps Q)(q:xs.toList.map (σ.ev n)= .ptr id 0::ps.map .pv)(B:σ.ob id=UF (.mix T (cs.map .pv)))(D:∀r cs',Q r cs'->K (σ.app dst ⟨.pv r,[(id,UF (.mix T (cs'.map .pv)))],[]⟩)):
  OJ C n ⟨dst,.call { callee:= .value (.func f),args:=xs,argTypes:=ts },ty,pos,after,gd⟩ K σ:=by
 refine cz (k':=0) [id] 0 hc (args:= .ptr big 0::ps.map .pv) (os:=[(big,.mix T (cs.map .pv))]) ?_ ?_ O ?_ ?_ Xn O A ?_
 .rw[q];simp only[V.renL,V.ren,tx];rfl
 .simp only[V.allL,V.all,oh];rfl
 .simp only[VL,Xh,Wh,Ob.all,oh]
 .refine⟨?_,Xq⟩;have:fu [id] 0 big=id:=rfl;rw[this,B];simp only[Ob.ren,tx]
 rintro v ob' ⟨r,cs',rfl,rfl,hq⟩;have:=D r cs' hq;have e:wrO [id] 0 0 (aB [(big,.mix T (cs'.map .pv))])=[(id,UF (.mix T (cs'.map .pv)))]:=by
  have u:aB [(big,Ob.mix T (cs'.map .pv))] (big+0)=UF (.mix T (cs'.map .pv)):=by simp[aB]
  simp only[wrO,List.zipIdx_cons,List.zipIdx_nil,cu,Un,List.range_zero,Uh,u,Vu,Ob.ren,tx]
 rw[e];exact this
theorem cy{cs':List PV}(hc:db C.P f)(u:FnM C.P f T cs ps (λv c=>v=r/\c=cs'))(q:xs.toList.map (σ.ev n)= .ptr id 0::ps.map .pv)(A:σ.ob id=UF (.mix T (cs.map .pv))):XJ C n ⟨dst,.call { callee:= .value (.func f),args:=xs,argTypes:=ts },ty,pos,after,gd⟩ σ ⟨.pv r,[(id,UF (.mix T (cs'.map .pv)))],[]⟩:=
 ma hc u q A (by rintro _ _ ⟨rfl,rfl⟩;rfl)
end
section
variable {C:Ctx}{n:Nat}{σ:St}{dst:Option Tmp}{ty t:TypeId}{pos:String}{after:Array Edge}{gd:Option (Nat×Bool)}{x y:Operand}
theorem XJ.cast{o:Oper}{v v':V}{wr:List (Nat×Option Ob)}{nw:List Nat}(h:XJ C n o σ ⟨v,wr,nw⟩)(e:v=v'):XJ C n o σ ⟨v',wr,nw⟩:=e▸h
theorem eS{kh:IntKind}{ih:Int}(h:Nat)(u:C.P.underlying T=UF (.slice e))(A:bT C.P e s)(B:σ.ev n x= .pv (.sl bn k cs))(D:σ.ev n y= .pv (.int kh ih))(E:ih=(h:Int))(G:h<=k)(q:cs.length=k*s):
  XJ C n ⟨dst,.slice T x UG (UF y) UG,ty,pos,after,gd⟩ σ ⟨.pv (.sl bn h (cs.take (h*s))),[],[]⟩:=by
 have:=CP (C:=C) (n:=n) (σ:=σ) (dst:=dst) (ty:=ty) (pos:=pos) (after:=after) (gd:=gd) (x:=x) (kl:= .i64) (il:=0) (kh:=kh) (ih:=ih) UG (UF y) 0 h u A B Xn (λ_=>rfl) (by rintro _ ⟨⟩;exact⟨D,E⟩) Xn (aJ _) G q;simpa using this
theorem xE(l:Nat)(u:C.P.underlying T=UF (.slice e))(A:bT C.P e s)(B:σ.ev n x= .pv (.sl bn k cs))(D:σ.ev n y= .pv (.int kl il))(E:il=(l:Int))(G:l<=k)(q:cs.length=k*s):
  XJ C n ⟨dst,.slice T x (UF y) UG UG,ty,pos,after,gd⟩ σ ⟨.pv (.sl bn (k-l) (cs.drop (l*s))),[],[]⟩:=by
 have:=CP (C:=C) (n:=n) (σ:=σ) (dst:=dst) (ty:=ty) (pos:=pos) (after:=after) (gd:=gd) (x:=x) (kl:=kl) (il:=il) (kh:= .i64) (ih:=0) (UF y) UG l k u A B (by rintro _ ⟨⟩;exact⟨D,E⟩) Xn Xn (λ_=>rfl) G (AT _) q;have e:(cs.drop (l*s)).take ((k-l)*s)=cs.drop (l*s):=aH (by simp[q,Nat.sub_mul]);rw[e]at this;exact this
theorem sM(id':Nat)(D:ElemIs C.P t e z size bytes)(E:σ.ev n x= .osl id size k)(G:σ.ob id=UF (.cells e cs))(q:cs.length=k*size)
  (H:σ.ev n y= .osl id2 size 1) (u:σ.ob id2=UF (.cells T2 news)) (J:news.length=size) (A:news.all PV.leaf=VA) (I:k+1<=1000000000) (B:σ.av id'=VA):
  XJ C n ⟨dst,.call { callee:= .builtin .append,args:= #[x,y],argTypes:= #[t,t] },ty,pos,after,gd⟩ σ ⟨.osl id' size (k+1),[(id',UF (.cells e (cs++news))),(id,UG)],[id']⟩:=
 dC id' D E G q (.inr ⟨id2,size,T2,news,H,u,(aH Xj).symm⟩) Xj (by simpa using A) I B
theorem Aa(id':Nat)(B:ElemIs C.P t e z size bytes)(D:σ.ev n x= .pv (.sl (UF VA) 0 []))
  (E:σ.ev n y= .osl id2 size 1) (q:σ.ob id2=UF (.cells T2 news)) (G:news.length=size) (u:news.all PV.leaf=VA) (A:σ.av id'=VA):
  XJ C n ⟨dst,.call { callee:= .builtin .append,args:= #[x,y],argTypes:= #[t,t] },ty,pos,after,gd⟩ σ ⟨.osl id' size 1,[(id',UF (.cells e news))],[id']⟩:=
 s9 id' B D (.inr ⟨id2,size,T2,news,E,q,(aH Xj).symm⟩) Xj (by simpa using u) Xj Xj A
end
def se(ids:List Nat)(i:Nat):Nat:=bif Nat.ble big i then i else ids.getD i 0
def rY(σ:St)(ρ:Nat->Nat):List (Nat×V)->Prop
 |[]=>True
 |(t,v)::l=>σ.sl t=v.ren ρ/\rY σ ρ l
theorem nV:∀{l:List (Nat×V)},rY σ ρ l->∀t,look l t= .pv .any\/σ.sl t=(look l t).ren ρ
 |[],_,_=> .inl O
 | (d,v)::l,h,t=>by
   simp only[look];cases hb:Nat.beq t d with
   |true=>have:=cd hb;subst this;exact .inr h.1
   |false=>simpa using nV h.2 t
mutual
theorem V.oC(k:Nat):∀v:V,v.okA k=VA->v.all (λi=>Nat.blt i k||Nat.ble big i)=VA
 | .pv _,_=>rfl
 | .ptr _ _,h=>by simpa only[V.okA,V.all]using h
 | .osl _ _ _,h=>by simpa only[V.okA,V.all]using h
 | .tsl _ _ _,h=>by simpa only[V.okA,V.all]using h
 | .gsl _ _ _,h=>by simpa only[V.okA,V.all]using h
 | .map _,h=>by simpa only[V.okA,V.all]using h
 | .agg cs,h=>by simp only[V.okA]at h;simp only[V.all];exact V.okL_all k cs h
 | .tup cs,h=>by simp only[V.okA]at h;simp only[V.all];exact V.okL_all k cs h
 | .fn _ a b,h=>by simp only[V.okA,du]at h;simp only[V.all,du];exact⟨V.okL_all k a h.1,V.okL_all k b h.2⟩
theorem V.okL_all(k:Nat):∀vs:List V,V.okL k vs=VA->V.allL (λi=>Nat.blt i k||Nat.ble big i) vs=VA
 |[],_=>rfl
 |c::cs,h=>by simp only[V.okL,du]at h;simp only[V.allL,du];exact⟨V.oC k c h.1,V.okL_all k cs h.2⟩
end
theorem Ob.oC(k:Nat){o:Ob}(h:o.okA k=VA):o.all (λi=>Nat.blt i k||Nat.ble big i)=VA:=by
 cases o with
 |cells _ _=>rfl
 |gro _ _=>rfl
 |mp _ _=>rfl
 |it _ _=>rfl
 |fro _ _=>rfl
 |mi _ _ _=>rfl
 |mix _ cs=>exact V.okL_all k cs h
end

end Go.Proofs.YtkkenamefaegfaaGreatDoor
