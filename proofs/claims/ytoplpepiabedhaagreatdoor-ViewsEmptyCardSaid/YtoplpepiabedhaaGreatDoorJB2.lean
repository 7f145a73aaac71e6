/- Lemmas. No condition. -/
import Derived.Laws.MakeOwn
import Derived.Great.BuildSlice
import Derived.Test.YtoplpepiabedhaaGreatDoorJB1
set_option maxRecDepth 100000
set_option maxHeartbeats 4000000
open Go.RowKit Go.Proofs.Tryz
namespace Go.Proofs.YtoplpepiabedhaaGreatDoor
section
theorem SW.drew{C:Ctx}{n:Nat}{σ:St}{a:Act}{w w':World}{m:Gm}{R:Nat->Prop}(h:SW C n σ a w m R)(hh:w'.heap=w.heap)(ho:w'.os=w.os)(ht:w'.tape=w.tape)(hp:w'.output=w.output):SW C n σ a w' m R:=by
 have hR:∀b,R b->R b/\w'.heap[b]? =w.heap[b]? :=fun b hb=>⟨hb,by rw[hh]⟩
 have:=h.world (w':=w') (m':=m) (R':=R) (ob':=σ.ob) (av':=σ.av) ?_ hR (fun _ _ _ e=>e) (fun _ e=>e)
 ·exact this
 refine⟨h.hr.dom,h.hr.free,?_,h.hr.inj,?_,?_,h.hr.rfr,h.hr.r0,?_,h.hr.keep,h.hr.res⟩
 ·intro i o b N h1 h2;exact(h.hr.obj i o b N h1 h2).mono hR (fun _ _ _ e=>e) (fun _ e=>e) (by rw[hh])
 ·intro i b N h1;rw[hh];exact h.hr.own i b N h1
 ·intro b hb;rw[hh];exact h.hr.rsz b hb
 ·exact⟨ho.trans h.hr.frame.os,ht.trans h.hr.frame.tape,hp.trans h.hr.frame.output,by rw[hh];exact h.hr.frame.size,fun k hk hF=>by rw[hh];exact h.hr.frame.block k hk hF⟩
def Aj(ops:Array Oper)(n:Nat)(o:Oper):Option Tmp:=
 match o.guard with
 |some (j,_)=>some (((ops[j]?).bind (·.dst)).getD n)
 |none=>none
structure Agr(n:Nat)(ops:Array Oper)(o:Oper)(σ τ:St)(s:OS)(rd:List Nat):Prop where
 e:∀(i:Nat)(x:Operand),o.op.operands.toList[i]? =some x->τ.ev n x=σ.ev n x
 g:∀t,Aj ops n o=some t->τ.ev n (.tmp t)=σ.ev n (.tmp t)
 o:∀(i id:Nat),rd[i]? =some id->τ.ob id=σ.ob id
 n:∀(i id:Nat),s.nw[i]? =some id->τ.av id=true
def LJ(C:Ctx)(n:Nat)(ops:Array Oper)(o:Oper)(σ:St)(s:OS)(rd:List Nat):Prop:=
 ∀τ,Agr n ops o σ τ s rd->match o.guard with
  |none=>XJ C n o τ s
  |some (j,want)=>∃b,(τ.ev n (.tmp (((ops[j]?).bind (·.dst)).getD n))).gd=some b/\(b=some want->XJ C n o τ s)/\(b≠some want->s=⟨und,[],[]⟩)
def cD(ops:Array Oper)(n:Nat)(o:Oper):List Tmp:=(o.op.operands.toList.filterMap fun| .tmp t=>some t|_=>none)++(Aj ops n o).toList
def inL(d:Nat):List Nat->Bool
 |[]=>false
 |x::l=>Nat.beq x d||inL d l
def meet(a:List Nat):List Nat->Bool
 |[]=>false
 |x::l=>inL x a||meet a l
structure It where
 i:Nat
 o:Oper
 s:OS
 wk:List Nat
 nw:List Nat
 rd:List Nat
def dT(ops:Array Oper)(n:Nat)(a b:It):Bool:=
 (match a.o.dst with|some d=>inL d (cD ops n b.o)||(match b.o.dst with|some e=>Nat.beq d e|none=>false)|none=>false)||
 (match b.o.dst with|some e=>inL e (cD ops n a.o)|none=>false)||
 meet a.wk (b.rd++b.wk++b.nw)||meet b.wk (a.rd++a.nw)||meet a.nw (b.rd++b.nw)||meet b.nw a.rd
def FN(os:List Oper)(acc:List (List Nat)):List (List Nat):=
 match os with
 |[]=>acc
 | o::os=>
   let es:=o.after.toList.filterMap fun e=>if Region.binds .any e then some e.on else none
   FN os (acc++[es.foldl (fun l i=>if inL i l then l else(i::l)++((acc[i]?).getD []).filter (fun z=> !(inL z (i::l)))) []])
def ij:Nat->List Oper->Bool
 |_,[]=>true
 |k,o::os=>(o.after.toList.all fun e=> !(Region.binds .any e)||Nat.blt e.on k)&&ij (k+1) os
def gp(ops:Array Oper)(n:Nat)(cl:List (List Nat))(it:It)(acc:List It):Bool:=
 (acc.all fun b=> !(dT ops n b it)||inL b.i ((cl[it.i]?).getD []))&&(acc.all fun b=> !(Nat.beq b.i it.i))
def gOk(n:Nat)(ops:Array Oper)(o:Oper)(τ:St):Prop:=match o.guard with
 |none=>True
 |some (j,want)=>(τ.ev n (.tmp (((ops[j]?).bind (·.dst)).getD n))).gd=some (some want)
def LJR(C:Ctx)(n:Nat)(ops:Array Oper)(o:Oper)(σ:St)(P:OS->Prop)(wk nw rd:List Nat):Prop:=
 ∀τ,Agr n ops o σ τ ⟨.pv .any,[],nw⟩ rd->gOk n ops o τ/\OJ C n o (fun τ'=>∃s,P s/\s.wr.map (·.1)=wk/\s.nw=nw/\τ'=τ.app o.dst s) τ
def DL(C:Ctx)(n:Nat)(ops:Array Oper)(cl:List (List Nat)):List Nat->List It->(St->Prop)->St->Prop
 |[],acc,K,σ=>(List.range ops.size).all (fun i=>inL i (acc.map (·.i)))=true/\K σ
 | i::is,acc,K,σ=>∃o,ops[i]? =some o/\
   ((∃s rd,LJ C n ops o σ s rd/\s.nw.all σ.av=true/\gp ops n cl ⟨i,o,s,s.wr.map (·.1),s.nw,rd⟩ acc=true/\DL C n ops cl is (⟨i,o,s,s.wr.map (·.1),s.nw,rd⟩::acc) K (σ.app o.dst s))\/
    (∃(P:OS->Prop)(wk nw rd:List Nat),LJR C n ops o σ P wk nw rd/\nw.all σ.av=true/\gp ops n cl ⟨i,o,⟨.pv .any,[],[]⟩,wk,nw,rd⟩ acc=true/\is.all (fun j=>inL i ((cl[j]?).getD []))=true/\(List.range ops.size).all (fun j=>inL j (i::is)||inL j (acc.map (·.i)))=true/\
     ∀s,P s->s.wr.map (·.1)=wk->s.nw=nw->DL C n ops cl is (⟨i,o,s,wk,nw,rd⟩::acc) K (σ.app o.dst s)))
section
variable {C:Ctx}{n:Nat}{σ τ:St}{ops:Array Oper}{cl:List (List Nat)}{i:Nat}{o:Oper}{is:List Nat}{acc:List It}{K:St->Prop}
theorem DL.step{s:OS}{d:Option Tmp}(rd:List Nat)(ho:ops[i]? =some o)(hg:o.guard=none)(hd:o.dst=d)(hx:∀τ,Agr n ops o σ τ s rd->XJ C n o τ s)(hn:s.nw.all σ.av=true)(hc:gp ops n cl ⟨i,o,s,s.wr.map (·.1),s.nw,rd⟩ acc=true)
  (h:DL C n ops cl is (⟨i,o,s,s.wr.map (·.1),s.nw,rd⟩::acc) K (σ.app d s)):DL C n ops cl (i::is) acc K σ:=by
 subst hd;exact⟨o,ho,.inl ⟨s,rd,fun τ ha=>by simp only[hg];exact hx τ ha,hn,hc,h⟩⟩
theorem DL.stepG{s:OS}{d:Option Tmp}(rd:List Nat){j:Nat}{want:Bool}(ho:ops[i]? =some o)(hg:o.guard=some (j,want))(hd:o.dst=d)(hb:σ.ev n (.tmp (((ops[j]?).bind (·.dst)).getD n))= .pv (.bool want))
  (hx:∀τ,Agr n ops o σ τ s rd->XJ C n o τ s) (hn:s.nw.all σ.av=true) (hc:gp ops n cl ⟨i,o,s,s.wr.map (·.1),s.nw,rd⟩ acc=true)
  (h:DL C n ops cl is (⟨i,o,s,s.wr.map (·.1),s.nw,rd⟩::acc) K (σ.app d s)):DL C n ops cl (i::is) acc K σ:=by
 subst hd;exact⟨o,ho,.inl ⟨s,rd,fun τ ha=>by
  simp only[hg];exact⟨some want,V.rH ((ha.g _ (by simp only[Aj,hg])).trans hb),fun _=>hx τ ha,fun e=>absurd O e⟩,hn,hc,h⟩⟩
theorem DL.rel{d:Option Tmp}(P:OS->Prop)(wk nw rd:List Nat)(ho:ops[i]? =some o)(hg:o.guard=none)(hd:o.dst=d)(hx:∀τ,Agr n ops o σ τ ⟨.pv .any,[],nw⟩ rd->OJ C n o (fun τ'=>∃s,P s/\s.wr.map (·.1)=wk/\s.nw=nw/\τ'=τ.app o.dst s) τ)
  (hn:nw.all σ.av=true) (hc:gp ops n cl ⟨i,o,⟨.pv .any,[],[]⟩,wk,nw,rd⟩ acc=true) (hs:is.all (fun j=>inL i ((cl[j]?).getD []))=true) (hall:(List.range ops.size).all (fun j=>inL j (i::is)||inL j (acc.map (·.i)))=true)
  (h:∀s,P s->s.wr.map (·.1)=wk->s.nw=nw->DL C n ops cl is (⟨i,o,s,wk,nw,rd⟩::acc) K (σ.app d s)):DL C n ops cl (i::is) acc K σ:=by
 subst hd;exact⟨o,ho,.inr ⟨P,wk,nw,rd,fun τ ha=>⟨by unfold gOk;rw[hg];trivial,hx τ ha⟩,hn,hc,hs,hall,h⟩⟩
theorem Agr.args{s:OS}{rd:List Nat}{f:FuncId}{xs:Array Operand}{ts:Array TypeId}{dst:Option Tmp}{ty:TypeId}{pos:String}{after:Array Edge}{gd:Option (Nat×Bool)}
  (h:Agr n ops ⟨dst,.call { callee:= .value (.func f),args:=xs,argTypes:=ts },ty,pos,after,gd⟩ σ τ s rd):xs.toList.map (τ.ev n)=xs.toList.map (σ.ev n):=by
 apply PR;intro x hx;obtain⟨i,hi⟩:=Qr hx;exact h.e (i+1) x (by simpa[Op.operands,Call.operands,SN]using hi)
end
section
variable {n:Nat}{ops:Array Oper}{σ τ:St}{s:OS}{rd:List Nat}{f:FuncId}{xs:Array Operand}{ts:Array TypeId}{dst:Option Tmp}{ty:TypeId}{pos:String}{after:Array Edge}{gd:Option (Nat×Bool)}
theorem Agr.aL (h:Agr n ops ⟨dst,.call { callee:= .value (.func f),args:=xs,argTypes:=ts },ty,pos,after,gd⟩ σ τ s rd) {ps:List PV} (hp:(V.args (fun _=>none) (xs.toList.map (σ.ev n))).map PV.fgA=some ps):
  (V.args (fun _=>none) (xs.toList.map (τ.ev n))).map PV.fgA=some ps:=by rw[h.args];exact hp
end
section
variable {n:Nat}{ops:Array Oper}{σ τ:St}{s:OS}{rd:List Nat}{dst:Option Tmp}{ty:TypeId}{pos:String}{after:Array Edge}{gd:Option (Nat×Bool)}{T:TypeId}{parts:Array (Nat×Operand)}
theorem Agr.MF{k:Nat}(h:Agr n ops ⟨dst,.buildSlice T k parts,ty,pos,after,gd⟩ σ τ s rd):(parts.toList.map fun p=>(p.1,τ.ev n p.2))=parts.toList.map fun p=>(p.1,σ.ev n p.2):=by
 apply PR;intro p hp;obtain⟨i,hi⟩:=Qr hp;rw[h.e i p.2 (by simp[Op.operands,hi])]
end
section
variable {C:Ctx}{n:Nat}{ops:Array Oper}
theorem cW{d:Nat}:∀{l:List Nat},inL d l=true↔d∈l
 |[]=>by simp[inL]
 | x::l=>by
   simp only[inL,PQ,AS,cW (l:=l)];exact⟨fun h=>h.imp (fun e=>(aI e).symm) id,fun h=>h.imp (fun e=>by rw[e];exact Sn x) id⟩
theorem jY{a:List Nat}:∀{l:List Nat},meet a l=true↔∃x,x∈a/\x∈l
 |[]=>by simp[meet]
 | x::l=>by
   simp only[meet,PQ,cW,jY (l:=l),AS];constructor
   ·rintro(h|⟨y,h1,h2⟩)
    ·exact⟨x,h,.inl O⟩
    ·exact⟨y,h1,.inr h2⟩
   ·rintro⟨y,h1,rfl|h2⟩
    ·exact .inl h1
    ·exact .inr ⟨y,h1,h2⟩
theorem eC:∀(l:List (Nat×Option Ob))(f:Nat->Option Ob)(id:Nat),id∉l.map (·.1)->obL l f id=f id
 |[],_,_,_=>rfl
 | (i,o)::l,f,id,h=>by
   simp only[bL,AS,not_or]at h;have hb:Nat.beq id i=false:=by cases hb:Nat.beq id i;rfl;exact absurd (aI hb) h.1
   simp only[obL,hb,PE];exact eC l f id h.2
theorem w7:∀(l:List (Nat×Option Ob))(f g:Nat->Option Ob)(id:Nat),id∈l.map (·.1)->obL l f id=obL l g id
 |[],_,_,_,h=>by simp at h
 | (i,o)::l,f,g,id,h=>by
   simp only[obL];cases hb:Nat.beq id i
   ·simp only[PE];refine w7 l f g id ?_;simp only[bL,AS]at h;rcases h with e|h
    ·rw[e]at hb;simp at hb
    ·exact h
   ·rfl
theorem jI:∀(l:List Nat)(f:Av)(id:Nat),avL l f id=(f id&& !inL id l)
 |[],f,id=>by simp[avL,inL]
 | i::l,f,id=>by
   simp only[avL,inL];by_cases e:id=i
   ·subst e;simp
   ·have hb:Nat.beq id i=false:=by cases hb:Nat.beq id i;rfl;exact absurd (aI hb) e
    have hb2:Nat.beq i id=false:=by cases hb:Nat.beq i id;rfl;exact absurd (aI hb).symm e
    rw[hb,hb2,jI l f id];simp
def dG(D:Nat->Bool)(σ0:St):List It->St
 |[]=>σ0
 |it::l=>bif D it.i then(dG D σ0 l).app it.o.dst it.s else dG D σ0 l
theorem IQ{a b:It}(σ:St)(h:dT ops n a b=false)(ha:a.s.wr.map (·.1)=a.wk)(hb:b.s.wr.map (·.1)=b.wk):(σ.app a.o.dst a.s).app b.o.dst b.s=(σ.app b.o.dst b.s).app a.o.dst a.s:=by
 simp only[dT,PL]at h;obtain⟨⟨⟨⟨⟨h1,h2⟩,h3⟩,h4⟩,h5⟩,h6⟩:=h;have hw:∀id,id∈a.s.wr.map (·.1)->id∉b.s.wr.map (·.1):=fun id hx hy=>by
  rw[ha]at hx;rw[hb]at hy;have:meet a.wk (b.rd++b.wk++b.nw)=true:=jY.2 ⟨id,hx,by simp only[Pq];exact .inl (.inr hy)⟩;rw[h3]at this;cases this
 simp only[St.app,St.mk.injEq];refine⟨?_,?_,?_⟩
 ·cases hd:a.o.dst with
  |none=>cases b.o.dst<;>rfl
  | some d=>
    cases he:b.o.dst with
    |none=>rfl
    | some e=>
      simp only;rw[hd,he]at h1;simp only[PL]at h1;have hne:d≠e:=fun q=>by subst q;simp at h1
      funext x;by_cases p:x=d
      ·subst p;rw[aM _ _ hne,ay,ay]
      ·by_cases q:x=e
       ·subst q;rw[ay,aM _ _ p,ay]
       ·rw[aM _ _ q,aM _ _ p,aM _ _ p,aM _ _ q]
 ·funext id;by_cases p:id∈a.s.wr.map (·.1)
  ·rw[eC _ _ _ (hw id p)];exact w7 _ _ _ _ p
  ·rw[eC a.s.wr _ _ p];by_cases q:id∈b.s.wr.map (·.1)
   ·exact w7 _ _ _ _ q
   ·rw[eC _ _ _ q,eC _ _ _ q,eC _ _ _ p]
 ·funext id;simp only[jI];cases σ.av id<;>cases inL id a.s.nw<;>cases inL id b.s.nw<;>rfl
def Good(C:Ctx)(n:Nat)(ops:Array Oper)(cl:List (List Nat))(σ0:St)(Rl:List Nat):List It->Prop
 |[]=>True
 |it::l=>(it.i∈Rl\/(LJ C n ops it.o (dG (fun _=>true) σ0 l) it.s it.rd))/\it.nw.all (dG (fun _=>true) σ0 l).av=true/\gp ops n cl it l=true/\ops[it.i]? =some it.o/\it.s.wr.map (·.1)=it.wk/\it.s.nw=it.nw/\Good C n ops cl σ0 Rl l
section
variable {cl:List (List Nat)}{σ0:St}{Rl:List Nat}
theorem Good.split:∀{l1:List It}{it:It}{l2:List It},Good C n ops cl σ0 Rl (l1++it::l2)->Good C n ops cl σ0 Rl (it::l2)
 |[],_,_,h=>h
 |a::l1,_,_,h=>Good.split (l1:=l1) h.2.2.2.2.2.2
theorem Good.mem:∀{l:List It},Good C n ops cl σ0 Rl l->∀it∈l,ops[it.i]? =some it.o/\it.s.wr.map (·.1)=it.wk/\it.s.nw=it.nw
 |[],_,it,h=>by simp at h
 | a::l,h,it,hm=>by
   rcases AS.1 hm with rfl|hm
   ·exact⟨h.2.2.2.1,h.2.2.2.2.1,h.2.2.2.2.2.1⟩
   ·exact Good.mem h.2.2.2.2.2.2 it hm
theorem Good.waits:∀{l1:List It}{it:It}{l2:List It},Good C n ops cl σ0 Rl (l1++it::l2)->∀b∈l1,(dT ops n it b=true->it.i∈(cl[b.i]?).getD [])/\b.i≠it.i
 |[],_,_,_,b,hb=>by simp at hb
 | a::l1,it,l2,h,b,hb=>by
   rcases AS.1 hb with rfl|hb
   ·have h1:=h.2.2.1;simp only[gp,sh]at h1;have h2:=IN.1 h1.1 it Tw;have h3:=IN.1 h1.2 it Tw;refine⟨fun hc=>?_,fun e=>?_⟩
    ·rw[hc]at h2;exact cW.1 (by simpa using h2)
    ·rw[e]at h3;simp at h3
   ·exact Good.waits (l1:=l1) h.2.2.2.2.2.2 b hb
theorem Good.Cb{it:It}{l2:List It}(h:Good C n ops cl σ0 Rl (it::l2)):∀b∈l2,(dT ops n b it=true->b.i∈(cl[it.i]?).getD [])/\b.i≠it.i:=by
 intro b hb;have h1:=h.2.2.1;simp only[gp,sh]at h1;have h2:=IN.1 h1.1 b hb;have h3:=IN.1 h1.2 b hb;refine⟨fun hc=>?_,fun e=>?_⟩
 ·rw[hc]at h2;exact cW.1 (by simpa using h2)
 ·rw[e]at h3;simp at h3
theorem xm{D:Nat->Bool}{it:It}{l2:List It}(hD:D it.i=false)(hwk:it.s.wr.map (·.1)=it.wk)(hne:∀b∈l2,b.i≠it.i):∀(l1:List It),(∀b∈l1,b.i≠it.i/\b.s.wr.map (·.1)=b.wk/\(D b.i=true->dT ops n it b=false))->
  dG (fun j=>D j||Nat.beq j it.i) σ0 (l1++it::l2)=(dG D σ0 (l1++it::l2)).app it.o.dst it.s
 | [],_=>by
   have low:∀l:List It,(∀b∈l,b.i≠it.i)->dG (fun j=>D j||Nat.beq j it.i) σ0 l=dG D σ0 l:=by
    intro l;induction l with
    |nil=>intro _;rfl
    | cons b l ih=>
      intro h;have hb:Nat.beq b.i it.i=false:=by cases hb:Nat.beq b.i it.i;rfl;exact absurd (aI hb) (h b Tw)
      simp only[dG,hb,Q5,ih (fun c hc=>h c (by simp[hc]))]
   simp only[Qa,dG,hD,Sn,Bool.or_true,Qd,PE,low l2 hne]
 | b::l1,h=>by
   have ih:=xm hD hwk hne l1 (fun c hc=>h c (by simp[hc]));obtain⟨h1,h2,h3⟩:=h b Tw;have hb:Nat.beq b.i it.i=false:=by cases hb:Nat.beq b.i it.i;rfl;exact absurd (aI hb) h1
   simp only[Qq,dG,hb,Q5,ih];cases hDb:D b.i with
   |false=>rfl
   | true=>
     simp only[Qd];exact IQ (n:=n) (ops:=ops) _ (h3 hDb) hwk h2
theorem nB{α:Type}(g:St->α)(D D':Nat->Bool):∀(l:List It),(∀b∈l,D b.i=D' b.i\/∀τ:St,g (τ.app b.o.dst b.s)=g τ)->(∀b∈l,∀τ τ':St,g τ=g τ'->g (τ.app b.o.dst b.s)=g (τ'.app b.o.dst b.s))->g (dG D σ0 l)=g (dG D' σ0 l)
 |[],_,_=>rfl
 | b::l,h,h2=>by
   have ih:=nB g D D' l (fun c hc=>h c (by simp[hc])) (fun c hc=>h2 c (by simp[hc]));simp only[dG];rcases h b Tw with e|e
   ·rw[e];cases D' b.i
    ·exact ih
    ·exact h2 b Tw _ _ ih
   ·cases D b.i<;>cases D' b.i<;>simp only[Qd,PE,e,ih]
theorem uR{α:Type}(g:St->α)(D:Nat->Bool){l2:List It}:∀(l1:List It),(∀b∈l1,D b.i=false\/∀τ:St,g (τ.app b.o.dst b.s)=g τ)->g (dG D σ0 (l1++l2))=g (dG D σ0 l2)
 |[],_=>rfl
 | b::l1,h=>by
   have ih:=uR g D l1 (fun c hc=>h c (by simp[hc])) (l2:=l2);simp only[Qq,dG];rcases h b Tw with e|e
   ·rw[e];exact ih
   ·cases D b.i<;>simp only[Qd,PE,e,ih]
end
theorem EC{b:It}{t:Nat}(h:b.o.dst≠some t)(τ:St):(τ.app b.o.dst b.s).sl t=τ.sl t:=by
 simp only[St.app];cases hd:b.o.dst with
 |none=>rfl
 |some d=>exact aM _ _ (fun q=>h (by rw[hd,q]))
theorem De(b:It)(t:Nat)(τ τ':St)(h:τ.sl t=τ'.sl t):(τ.app b.o.dst b.s).sl t=(τ'.app b.o.dst b.s).sl t:=by
 simp only[St.app];cases hd:b.o.dst with
 |none=>exact h
 | some d=>
   by_cases e:t=d
   ·subst e;simp only[ay]
   ·simp only[aM _ _ e,h]
theorem uG{b:It}{t:Nat}(h:t∉b.s.wr.map (·.1))(τ:St):(τ.app b.o.dst b.s).ob t=τ.ob t:=eC _ _ _ h
theorem Dq(b:It)(t:Nat)(τ τ':St)(h:τ.ob t=τ'.ob t):(τ.app b.o.dst b.s).ob t=(τ'.app b.o.dst b.s).ob t:=by
 by_cases e:t∈b.s.wr.map (·.1)
 ·exact w7 _ _ _ _ e
 ·rw[uG e,uG e,h]
theorem Cr{b:It}{t:Nat}(h:t∉b.s.nw)(τ:St):(τ.app b.o.dst b.s).av t=τ.av t:=by
 have hn:inL t b.s.nw=false:=by cases hb:inL t b.s.nw;rfl;exact absurd (cW.1 hb) h
 simp only[St.app,jI,hn,Bool.not_false,Sf]
theorem DK(b:It)(t:Nat)(τ τ':St)(h:τ.av t=τ'.av t):(τ.app b.o.dst b.s).av t=(τ'.app b.o.dst b.s).av t:=by
 simp only[St.app,jI,h]
theorem Dc(D:Nat->Bool)(all:List Oper)(hcl:∀j o,all[j]? =some o->D j=true->∀e∈o.after,Region.binds .any e=true->D e.on=true):
  ∀(os:List Oper)(acc:List (List Nat)),all.drop acc.length=os->(∀j,D j=true->∀i∈(acc[j]?).getD [],D i=true)->∀j,D j=true->∀i∈((FN os acc)[j]?).getD [],D i=true:=by
 intro os;induction os with
 |nil=>intro acc _ h;simpa only[FN]using h
 | cons o os ih=>
   intro acc hd h;simp only[FN];have ho:all[acc.length]? =some o:=by
    have:=ag (·[0]?) hd;simpa using this
   refine ih _ ?_ ?_
   ·have:=ag (List.drop 1) hd;simpa[SN]using this
   ·intro j hj i hi;by_cases e:j<acc.length
    ·rw[List.getElem?_append_left e]at hi;exact h j hj i hi
    ·by_cases e2:j=acc.length
     ·subst e2;rw[List.getElem?_append_right (BY _)]at hi;simp only[SO,List.getElem?_cons_zero,Sc]at hi;have hes:∀q∈(o.after.toList.filterMap fun e=>if Region.binds .any e then some e.on else none),D q=true:=by
       intro q hq;obtain⟨e,he,hq'⟩:=List.mem_filterMap.1 hq;split at hq'
       ·rename_i hbd;simp at hq';subst hq';exact hcl _ o ho hj e (by simpa using he) hbd
       ·cases hq'
      revert hi hes
      generalize (o.after.toList.filterMap fun e=>if Region.binds .any e then some e.on else none)=es;have gen:∀(es:List Nat)(l0:List Nat),(∀q∈l0,D q=true)->(∀q∈es,D q=true)->∀i∈es.foldl (fun l i=>if inL i l then l else(i::l)++((acc[i]?).getD []).filter (fun z=> !(inL z (i::l)))) l0,D i=true:=by
       intro es;induction es with
       |nil=>intro l0 h0 _ i hi;exact h0 i hi
       | cons q es ihe=>
         intro l0 h0 hes i hi;simp only[QQ]at hi;refine ihe _ ?_ (fun q' hq'=>hes q' (by simp[hq'])) i hi;intro z hz;split at hz
         ·exact h0 z hz
         ·simp only[Qq,AS,Pq]at hz;rcases hz with rfl|hz|hz
          ·exact hes _ Tw
          ·exact h0 z hz
          ·exact h q (hes q Tw) z (Qn.1 hz).1
      intro hi hes;exact gen es [] Tw hes i hi
     ·rw[Qg Tx]at hi;simp at hi
theorem ym:∀{os:List Oper}{k:Nat},ij k os=true->∀{i:Nat}{o:Oper},os[i]? =some o->∀e∈o.after,Region.binds .any e=true->e.on<k+i
 |[],_,_,i,o,h=>by simp at h
 | q::os,k,hk,i,o,h=>by
   simp only[ij,sh]at hk;cases i with
   | zero=>
     simp at h;subst h;intro e he hb;have:=(IN.1 hk.1) e (by simpa using he);simp only[hb,Bool.not_true,Bool.false_or]at this;simpa[Rp]using this
   | succ i=>
     simp at h;intro e he hb;have:=ym hk.2 h e he hb;omega
theorem Fe{a b:It}{d:Nat}(hd:a.o.dst=some d)(hn:d∈cD ops n b.o):dT ops n a b=true:=by
 have:inL d (cD ops n b.o)=true:=cW.2 hn;simp only[dT,hd,this,Bool.or_true,Bool.true_or]
theorem HZ{a b:It}{d:Nat}(hd:b.o.dst=some d)(hn:d∈cD ops n a.o):dT ops n a b=true:=by
 have:inL d (cD ops n a.o)=true:=cW.2 hn;simp only[dT,hd,this,Bool.or_true,Bool.true_or]
theorem Cl{a b:It}{d:Nat}(hd:d∈a.wk)(hn:d∈b.rd):dT ops n a b=true:=by
 have:meet a.wk (b.rd++b.wk++b.nw)=true:=jY.2 ⟨d,hd,by simp only[Pq];exact .inl (.inl hn)⟩;simp only[dT,this,Bool.or_true,Bool.true_or]
theorem IF{a b:It}{d:Nat}(hd:d∈b.wk)(hn:d∈a.rd):dT ops n a b=true:=by
 have:meet b.wk (a.rd++a.nw)=true:=jY.2 ⟨d,hd,by simp only[Pq];exact .inl hn⟩;simp only[dT,this,Bool.or_true,Bool.true_or]
theorem wR{a b:It}{d:Nat}(hd:d∈a.nw)(hn:d∈b.nw):dT ops n a b=true:=by
 have:meet a.nw (b.rd++b.nw)=true:=jY.2 ⟨d,hd,by simp only[Pq];exact .inr hn⟩;simp only[dT,this,Bool.or_true,Bool.true_or]
abbrev Dn(listed:Array Bool):Nat->Bool:=fun i=>listed.getD i false
structure Lst(ops:Array Oper)(listed:Array Bool)(fuel:Nat)(acc:List It)(Rl:List Nat):Prop where
 sz:listed.size=ops.size
 fuel:∃us:List Nat,us.length<=fuel/\∀i,i<ops.size->Dn listed i=false->i∈us
 cl:∀j o,ops[j]? =some o->Dn listed j=true->∀e∈o.after,Region.binds .any e=true->Dn listed e.on=true
 sub:∀i,Dn listed i=true->i∈acc.map (·.i)
 rl:∀i∈Rl,Dn listed i=true
theorem OG(listed:Array Bool)(i:Nat)(hi:i<listed.size):listed.getD i true=listed.getD i false:=by simp[hi]
theorem gb{listed:Array Bool}{i:Nat}(hsz:listed.size=ops.size):i∈Region.ready .any ops listed↔i<ops.size/\Dn listed i=false/\∀o,ops[i]? =some o->∀e∈o.after,Region.binds .any e=true->Dn listed e.on=true:=by
 unfold Region.ready;rw[Qn];simp only[P0,sh,Rm];constructor
 ·rintro⟨h1,h2,h3⟩;refine⟨h1,(OG listed i Ts).symm.trans h2,fun o ho e he hb=>?_⟩;rw[ho]at h3;simp only[Ra,Sc]at h3;have:=(Array.all_eq_true_iff_forall_mem.1 h3) e he;simpa[hb]using this
 ·rintro⟨h1,h2,h3⟩;refine⟨h1,(OG listed i Ts).trans h2,?_⟩;have ho:ops[i]? =some ops[i]:=Array.getElem?_eq_getElem h1;rw[ho];simp only[Ra,Sc];rw[Array.all_eq_true_iff_forall_mem];intro e he;cases hb:Region.binds .any e with
  |false=>simp
  |true=>simpa using h3 _ ho e he hb
theorem pV(hedge:ij 0 ops.toList=true){listed:Array Bool}(hsz:listed.size=ops.size)(hr:Region.ready .any ops listed=[]):∀i,i<ops.size->Dn listed i=true:=by
 intro i;induction i using Nat.strongRecOn with
 | _ i ih=>
   intro hi;cases hb:Dn listed i with
   |true=>rfl
   | false=>
     exfalso;have:i∈Region.ready .any ops listed:=(gb hsz).2 ⟨hi,hb,fun o ho e he hbd=>by
      have:=ym hedge (i:=i) (o:=o) (by simpa using ho) e he hbd;exact ih e.on Ts Ts⟩
     rw[hr]at this;simp at this
theorem eW{listed:Array Bool}{i:Nat}(hi:i<listed.size)(j:Nat):Dn (listed.setIfInBounds i true) j=(Dn listed j||Nat.beq j i):=by
 simp only[Dn,PN,Ry];by_cases e:i=j
 ·subst e;simp[hi]
 ·have hb:Nat.beq j i=false:=by cases hb:Nat.beq j i;rfl;exact absurd (aI hb).symm e
  simp[e,hb]
theorem Lst.next{listed:Array Bool}{fuel:Nat}{acc:List It}{Rl:List Nat}(h:Lst ops listed (fuel+1) acc Rl){i:Nat}(hr:i∈Region.ready .any ops listed){acc':List It}{Rl':List Nat}(hsub:∀j,j∈acc.map (·.i)\/j=i->j∈acc'.map (·.i))(hrl:∀j∈Rl',j∈Rl\/j=i):
  Lst ops (listed.setIfInBounds i true) fuel acc' Rl':=by
 obtain⟨hi,hDi,hedg⟩:=(gb h.sz).1 hr;have hil:i<listed.size:=by rw[h.sz];exact hi
 obtain⟨us,hu1,hu2⟩:=h.fuel;refine⟨by simpa using h.sz,⟨us.erase i,?_,?_⟩,?_,?_,?_⟩
 ·have:=hu2 i hi hDi;rw[List.length_erase_of_mem this];omega
 ·intro j hj hjl;rw[eW hil]at hjl;simp only[PL]at hjl;have hne:j≠i:=fun e=>by subst e;simp at hjl
  exact(List.mem_erase_of_ne hne).2 (hu2 j hj hjl.1)
 ·intro j o' ho' hj e he hb;rw[eW hil]at hj ⊢;by_cases e1:j=i
  ·subst e1;rw[hedg o' ho' e he hb];rfl
  ·have hb':Nat.beq j i=false:=by cases hb:Nat.beq j i;rfl;exact absurd (aI hb) e1
   rw[hb',Q5]at hj;rw[h.cl j o' ho' hj e he hb];rfl
 ·intro j hj;rw[eW hil]at hj;rcases(Bool.or_eq_true_iff).1 hj with hj|hj
  ·exact hsub j (.inl (h.sub j hj))
  ·exact hsub j (.inr (aI hj))
 ·intro j hj;rw[eW hil];rcases hrl j hj with h'|h'
  ·rw[h.rl j h'];rfl
  ·subst h';simp
theorem Lst.clo{cl:List (List Nat)}(hcl:FN ops.toList []=cl){listed:Array Bool}{fuel:Nat}{acc:List It}{Rl:List Nat}(h:Lst ops listed fuel acc Rl){i j:Nat}(hj:Dn listed j=true)(hi:i∈(cl[j]?).getD []):Dn listed i=true:=by
 rw[<-hcl]at hi;exact Dc (Dn listed) ops.toList (fun k q hq=>h.cl k q (by simpa using hq)) ops.toList [] O Tw j hj i hi
theorem pQ{cl:List (List Nat)}(hcl:FN ops.toList []=cl){σ0:St}{Rl:List Nat}{l1:List It}{it:It}{l2:List It}(hG:Good C n ops cl σ0 Rl (l1++it::l2)){listed:Array Bool}{fuel:Nat}(hL:Lst ops listed (fuel+1) (l1++it::l2) Rl)
  (hr:it.i∈Region.ready .any ops listed) {a:Act} {w:World} (hsj:SJ C n (dG (Dn listed) σ0 (l1++it::l2)) a w) {Q:Exit->Act->World->Prop}
  (next:∀a' w',Lst ops (listed.setIfInBounds it.i true) fuel (l1++it::l2) Rl->SJ C n (dG (Dn (listed.setIfInBounds it.i true)) σ0 (l1++it::l2)) a' w'->wpAny C.P .any ops Q fuel (listed.setIfInBounds it.i true) a' w'):
  wpOp C.P ops Q it.i (wpAny C.P .any ops Q fuel (listed.setIfInBounds it.i true)) a w:=by
 obtain⟨hi,hDi,hedg⟩:=(gb hL.sz).1 hr;have hil:it.i<listed.size:=by rw[hL.sz];exact hi
 have hG2:=hG.split;have hL':Lst ops (listed.setIfInBounds it.i true) fuel (l1++it::l2) Rl:=hL.next hr (fun j hj=>by
  rcases hj with hj|hj
  ·exact hj
  ·rw[hj];exact IT.2 ⟨it,Tw,O⟩) (fun j hj=> .inl hj)
 have later:∀b∈l1,dT ops n it b=true->Dn listed b.i=false:=by
  intro b hb hc;cases hd:Dn listed b.i with
  |false=>rfl
  | true=>
    have:=hL.clo hcl hd ((hG.waits b hb).1 hc);rw[hDi]at this;cases this
 have earlier:∀b∈l2,dT ops n b it=true->Dn listed b.i=true:=by
  intro b hb hc;have h1:=hL'.clo hcl (j:=it.i) (i:=b.i) (by rw[eW hil];simp) ((hG2.Cb b hb).1 hc);rw[eW hil]at h1;have hb':Nat.beq b.i it.i=false:=by cases hb':Nat.beq b.i it.i;rfl;exact absurd (aI hb') (hG2.Cb b hb).2
  rwa [hb',Q5]at h1
 have memInfo:=hG.mem;obtain⟨hspec,hnwall,_,ho,hwk,hnw,_⟩:=hG2;have hlj:LJ C n ops it.o (dG (fun _=>true) σ0 l2) it.s it.rd:=by
  rcases hspec with h|h
  ·have:=hL.rl it.i h;rw[hDi]at this;cases this
  ·exact h
 have view:∀{α:Type}(g:St->α),(∀b∈l1++it::l2,∀τ τ':St,g τ=g τ'->g (τ.app b.o.dst b.s)=g (τ'.app b.o.dst b.s))->(∀b∈l1,dT ops n it b=true\/∀τ:St,g (τ.app b.o.dst b.s)=g τ)->(∀b∈l2,dT ops n b it=true\/∀τ:St,g (τ.app b.o.dst b.s)=g τ)->
   g (dG (Dn listed) σ0 (l1++it::l2))=g (dG (fun _=>true) σ0 l2):=by
  intro α g h0 h1 h2;rw[uR g (Dn listed) l1 (fun b hb=>(h1 b hb).imp (later b hb) id)];have:g (dG (Dn listed) σ0 (it::l2))=g (dG (Dn listed) σ0 l2):=by simp only[dG,hDi,PE]
  rw[this];exact nB g _ _ l2 (fun b hb=>(h2 b hb).imp (fun hc=>earlier b hb hc) id) (fun b hb=>h0 b (by simp[hb]))
 have agr:Agr n ops it.o (dG (fun _=>true) σ0 l2) (dG (Dn listed) σ0 (l1++it::l2)) it.s it.rd:=by
  have slot:∀t,t∈cD ops n it.o->(dG (Dn listed) σ0 (l1++it::l2)).sl t=(dG (fun _=>true) σ0 l2).sl t:=by
   intro t ht;refine view (fun τ=>τ.sl t) (fun b _=>De b t) (fun b _=>?_) (fun b _=>?_)
   ·by_cases hd:b.o.dst=some t
    ·exact .inl (HZ hd ht)
    ·exact .inr (EC hd)
   ·by_cases hd:b.o.dst=some t
    ·exact .inl (Fe hd ht)
    ·exact .inr (EC hd)
  refine⟨?_,?_,?_,?_⟩
  ·intro k x hx;cases x with
   | tmp t=>
     have:t∈cD ops n it.o:=by
      unfold cD;refine Rn _ (List.mem_filterMap.2 ⟨.tmp t,Qv hx,O⟩)
     simp only[St.ev,slot t this]
   |_=>rfl
  ·intro t ht;have:t∈cD ops n it.o:=by
    unfold cD;exact Rh _ (by simp[ht])
   simp only[St.ev,slot t this]
  ·intro k q hq;have hmem:q∈it.rd:=Qv hq;refine view (fun τ=>τ.ob q) (fun b _=>Dq b q) (fun b hb=>?_) (fun b hb=>?_)
   ·by_cases hd:q∈b.s.wr.map (·.1)
    ·exact .inl (IF (by rw[<-(memInfo b (by simp[hb])).2.1];exact hd) hmem)
    ·exact .inr (uG hd)
   ·by_cases hd:q∈b.s.wr.map (·.1)
    ·exact .inl (Cl (by rw[<-(memInfo b (by simp[hb])).2.1];exact hd) hmem)
    ·exact .inr (uG hd)
  ·intro k q hq;have hmem:q∈it.nw:=by rw[<-hnw];exact Qv hq
   have h1:=IN.1 hnwall q hmem;have:=view (fun τ=>τ.av q) (fun b _=>DK b q) (fun b hb=>?_) (fun b hb=>?_)
   ·exact this.trans h1
   ·by_cases hd:q∈b.s.nw
    ·exact .inl (wR hmem (by rw[<-(memInfo b (by simp[hb])).2.2];exact hd))
    ·exact .inr (Cr hd)
   ·by_cases hd:q∈b.s.nw
    ·exact .inl (wR (by rw[<-(memInfo b (by simp[hb])).2.2];exact hd) hmem)
    ·exact .inr (Cr hd)
 have hx:=hlj _ agr;have ins:dG (Dn (listed.setIfInBounds it.i true)) σ0 (l1++it::l2)=(dG (Dn listed) σ0 (l1++it::l2)).app it.o.dst it.s:=by
  have e:Dn (listed.setIfInBounds it.i true)=fun j=>Dn listed j||Nat.beq j it.i:=funext (eW hil)
  rw[e];refine xm (n:=n) (ops:=ops) hDi hwk (fun b hb=>?_) l1 (fun b hb=>⟨(hG.waits b hb).2,(memInfo b (by simp[hb])).2.1,fun hd=>?_⟩)
  ·exact(hG.split.Cb b hb).2
  ·cases hc:dT ops n it b with
   |false=>rfl
   |true=>rw[later b hb hc]at hd;cases hd
 have next':∀a' w',SJ C n ((dG (Dn listed) σ0 (l1++it::l2)).app it.o.dst it.s) a' w'->wpAny C.P .any ops Q fuel (listed.setIfInBounds it.i true) a' w':=fun a' w' h=>next a' w' hL' (by rw[ins];exact h)
 unfold wpOp;rw[ho];simp only;cases hg:it.o.guard with
 | none=>
   rw[hg]at hx;simp only[Region.wanted,hg,Te];refine .inl (Oper.wp_mono ?_ (hx a w _ hsj));rintro a' w' ⟨σ',rfl,hsj'⟩;exact next' a' w' hsj'
 | some jw=>
   obtain⟨j,want⟩:=jw;rw[hg]at hx;obtain⟨b,hb,h1,h2⟩:=hx;obtain⟨m,R,hw⟩:=hsj;have hy:=dY hw hb;simp only[Region.wanted,hg,hy];by_cases hbw:b=some want
   ·subst hbw;simp only[Qz,Te];refine .inl (Oper.wp_mono ?_ (h1 O a w _ ⟨m,R,hw⟩));rintro a' w' ⟨σ',rfl,hsj'⟩;exact next' a' w' hsj'
   ·have:(b==some want)=false:=by simpa using hbw
    simp only[this,Qk,SD];refine next' _ _ ?_;rw[h2 hbw,St.gA];exact⟨m,R,hw.put it.o.dst (Dh _ _ _ _)⟩
theorem DL.sound{cl:List (List Nat)}(hcl:FN ops.toList []=cl)(hedge:ij 0 ops.toList=true)(σ0:St)(K:St->Prop)(Q:Exit->Act->World->Prop)(hQ:∀a w,(∃σ',K σ'/\SJ C n σ' a w)->Q .normal a w):
  ∀(is:List Nat)(acc:List It)(Rl:List Nat),DL C n ops cl is acc K (dG (fun _=>true) σ0 acc)->Good C n ops cl σ0 Rl acc->
   ∀fuel listed a w,Lst ops listed fuel acc Rl->SJ C n (dG (Dn listed) σ0 acc) a w->wpAny C.P .any ops Q fuel listed a w:=by
 intro is;induction is with
 | nil=>
   intro acc Rl hD hG fuel;obtain⟨hcov,hK⟩:=hD;have all_in:∀i,i<ops.size->∃l1 it l2,acc=l1++it::l2/\it.i=i:=by
    intro i hi;have:=cW.1 (IN.1 hcov i (by simpa using hi));obtain⟨it,hm,rfl⟩:=IT.1 this;obtain⟨l1,l2,e⟩:=List.append_of_mem hm;exact⟨l1,it,l2,e,O⟩
   have done:∀listed a w,(∀i,i<ops.size->Dn listed i=true)->SJ C n (dG (Dn listed) σ0 acc) a w->Q .normal a w:=by
    intro listed a w hall hsj;refine hQ a w ⟨_,hK,?_⟩;have e:dG (Dn listed) σ0 acc=dG (fun _=>true) σ0 acc:=by
     refine nB (σ0:=σ0) (fun τ=>τ) (Dn listed) (fun _=>true) acc (fun b hb=> .inl (hall b.i ?_)) (fun b _ τ τ' h=>by rw[h]);exact(Pc.1 (hG.mem b hb).1).1
    rw[<-e];exact hsj
   induction fuel with
   | zero=>
     intro listed a w hL hsj;obtain⟨us,hu1,hu2⟩:=hL.fuel;have hall:∀i,i<ops.size->Dn listed i=true:=by
      intro i hi;cases hb:Dn listed i with
      |true=>rfl
      | false=>
        have h1:=hu2 i hi hb;have h2:us=[]:=PF Ts;rw[h2]at h1;simp at h1
     refine⟨?_,done listed a w hall hsj⟩;apply List.eq_nil_iff_forall_not_mem.2;intro i hi;have:=(gb hL.sz).1 hi;rw[hall i this.1]at this;simp at this
   | succ fuel ih=>
     intro listed a w hL hsj;refine⟨fun hr=>done listed a w (pV hedge hL.sz hr) hsj,?_⟩;intro i hir;obtain⟨l1,it,l2,rfl,rfl⟩:=all_in i ((gb hL.sz).1 hir).1;exact pQ hcl hG hL hir hsj (fun a' w' h1 h2=>ih _ a' w' h1 h2)
 | cons i is ih=>
   intro acc Rl hD hG;obtain⟨o,ho,hD|hD⟩:=hD
   ·obtain⟨s,rd,hlj,hnw,hnew,hD⟩:=hD;intro fuel listed a w hL hsj;have hni:Dn listed i=false:=by
     cases hb:Dn listed i with
     |false=>rfl
     | true=>
       obtain⟨b,hm,e⟩:=IT.1 (hL.sub i hb);simp only[gp,sh]at hnew;have:=IN.1 hnew.2 b hm;simp[e]at this
    have hap:dG (fun _=>true) σ0 (⟨i,o,s,s.wr.map (·.1),s.nw,rd⟩::acc)=(dG (fun _=>true) σ0 acc).app o.dst s:=rfl;have hD':DL C n ops cl is (⟨i,o,s,s.wr.map (·.1),s.nw,rd⟩::acc) K (dG (fun _=>true) σ0 (⟨i,o,s,s.wr.map (·.1),s.nw,rd⟩::acc)):=by rw[hap];exact hD
    refine ih _ Rl hD' ⟨.inr hlj,hnw,hnew,ho,O,O,hG⟩ fuel listed a w ⟨hL.sz,hL.fuel,hL.cl,fun j hj=>?_,hL.rl⟩ ?_
    ·simp only[bL,AS];exact .inr (hL.sub j hj)
    ·simpa only[dG,hni,PE]using hsj
   ·obtain⟨P,wk,nw,rd,hlj,hnw,hnew,hsucc,hcov,hD⟩:=hD;have hni:∀{listed fuel},Lst ops listed fuel acc Rl->Dn listed i=false:=by
     intro listed fuel hL;cases hb:Dn listed i with
     |false=>rfl
     | true=>
       obtain⟨b,hm,e⟩:=IT.1 (hL.sub i hb);simp only[gp,sh]at hnew;have:=IN.1 hnew.2 b hm;simp[e]at this
    have hisz:i<ops.size:=(Pc.1 ho).1;intro fuel;induction fuel with
    | zero=>
      intro listed a w hL hsj;obtain⟨us,hu1,hu2⟩:=hL.fuel;have h1:=hu2 i hisz (hni hL);have h2:us=[]:=PF Ts;rw[h2]at h1;simp at h1
    | succ fuel ihf=>
      intro listed a w hL hsj;refine⟨fun hr=>?_,?_⟩
      ·have:=pV hedge hL.sz hr i hisz;rw[hni hL]at this;cases this
      ·intro j hjr;obtain⟨hj,hDj,hedgj⟩:=(gb hL.sz).1 hjr;by_cases e:j=i
       ·
        subst e;have hil:j<listed.size:=by rw[hL.sz];exact hj
        have agr:Agr n ops o (dG (fun _=>true) σ0 acc) (dG (Dn listed) σ0 acc) ⟨.pv .any,[],nw⟩ rd:=by
            have hIt:∀(s:OS),s.wr.map (·.1)=wk->s.nw=nw->∀b∈acc,dT ops n b ⟨j,o,s,wk,nw,rd⟩=true->Dn listed b.i=true:=by
             intro s _ _ b hb hc;simp only[gp,sh]at hnew;have h1:=IN.1 hnew.1 b hb;have hc':dT ops n b ⟨j,o,⟨.pv .any,[],[]⟩,wk,nw,rd⟩=true:=hc;rw[hc']at h1;have hmem:=cW.1 (by simpa using h1:inL b.i ((cl[j]?).getD [])=true);have hL':Lst ops (listed.setIfInBounds j true) fuel (⟨j,o,s,wk,nw,rd⟩::acc) Rl:=hL.next hjr (fun k hk=>by simp only[bL,AS];exact hk.symm) (fun k hk=> .inl hk);have h2:=hL'.clo hcl (j:=j) (i:=b.i) (by rw[eW hil];simp) hmem;rw[eW hil]at h2;have h3:=IN.1 hnew.2 b hb;have hb':Nat.beq b.i j=false:=by simpa using h3
             rwa [hb',Q5]at h2
            have view:∀{α:Type}(g:St->α),(∀b∈acc,∀τ τ':St,g τ=g τ'->g (τ.app b.o.dst b.s)=g (τ'.app b.o.dst b.s))->(∀b∈acc,dT ops n b ⟨j,o,⟨.pv .any,[],[]⟩,wk,nw,rd⟩=true\/∀τ:St,g (τ.app b.o.dst b.s)=g τ)->g (dG (Dn listed) σ0 acc)=g (dG (fun _=>true) σ0 acc):=by
             intro α g h0 h2;exact nB g _ _ acc (fun b hb=>(h2 b hb).imp (fun hc=>by
              simp only[gp,sh]at hnew;have h1:=IN.1 hnew.1 b hb;rw[hc]at h1;have hmem:=cW.1 (by simpa using h1:inL b.i ((cl[j]?).getD [])=true);have hL':Lst ops (listed.setIfInBounds j true) fuel (⟨j,o,⟨.pv .any,[],[]⟩,wk,nw,rd⟩::acc) Rl:=hL.next hjr (fun k hk=>by simp only[bL,AS];exact hk.symm) (fun k hk=> .inl hk);have h2:=hL'.clo hcl (j:=j) (i:=b.i) (by rw[eW hil];simp) hmem;rw[eW hil]at h2;have h3:=IN.1 hnew.2 b hb;have hb':Nat.beq b.i j=false:=by simpa using h3
              rwa [hb',Q5]at h2) id) h0
            have slot:∀t,t∈cD ops n o->(dG (Dn listed) σ0 acc).sl t=(dG (fun _=>true) σ0 acc).sl t:=by
             intro t ht;refine view (fun τ=>τ.sl t) (fun b _=>De b t) (fun b _=>?_);by_cases hd:b.o.dst=some t
             ·exact .inl (Fe (b:=⟨j,o,⟨.pv .any,[],[]⟩,wk,nw,rd⟩) hd ht)
             ·exact .inr (EC hd)
            refine⟨?_,?_,?_,?_⟩
            ·intro k x hx;cases x with
             | tmp t=>
               have:t∈cD ops n o:=by
                unfold cD;refine Rn _ (List.mem_filterMap.2 ⟨.tmp t,Qv hx,O⟩)
               simp only[St.ev,slot t this]
             |_=>rfl
            ·intro t ht;have:t∈cD ops n o:=by
              unfold cD;exact Rh _ (by simp[ht])
             simp only[St.ev,slot t this]
            ·intro k q hq;have hmem:q∈rd:=Qv hq;refine view (fun τ=>τ.ob q) (fun b _=>Dq b q) (fun b hb=>?_);by_cases hd:q∈b.s.wr.map (·.1)
             ·exact .inl (Cl (b:=⟨j,o,⟨.pv .any,[],[]⟩,wk,nw,rd⟩) (by rw[<-(hG.mem b hb).2.1];exact hd) hmem)
             ·exact .inr (uG hd)
            ·intro k q hq;have hmem:q∈nw:=Qv hq;have h1:=IN.1 hnw q hmem;refine(view (fun τ=>τ.av q) (fun b _=>DK b q) (fun b hb=>?_)).trans h1;by_cases hd:q∈b.s.nw
             ·exact .inl (wR (b:=⟨j,o,⟨.pv .any,[],[]⟩,wk,nw,rd⟩) (by rw[<-(hG.mem b hb).2.2];exact hd) hmem)
             ·exact .inr (Cr hd)
        obtain ⟨hg,hx⟩:=hlj _ agr;have wop:∀(K':Act->World->Prop),Oper.wp C.P o a w K' Q->wpOp C.P ops Q j K' a w:=by
            intro K' hK;unfold wpOp;rw[ho];cases hgd:o.guard with
            | none=>
              simp only[Region.wanted,hgd,Te];exact .inl hK
            | some jw=>
              obtain⟨q,want⟩:=jw;unfold gOk at hg;rw[hgd]at hg;obtain⟨m,R,hw⟩:=hsj;have hy:=dY hw hg;simp only[Region.wanted,hgd,hy,Qz,Te];exact .inl hK
        refine wop _ (Oper.wp_mono ?_ (hx a w _ hsj));rintro a' w' ⟨σ',⟨s,hP,h1,h2,rfl⟩,hsj'⟩;have hL':Lst ops (listed.setIfInBounds j true) fuel (⟨j,o,s,wk,nw,rd⟩::acc) (j::Rl):=hL.next hjr (fun k hk=>by simp only[bL,AS];exact hk.symm) (fun k hk=>by
            rcases AS.1 hk with hk|hk
            ·exact .inr hk
            ·exact .inl hk)
        have hGr:∀{l:List It},Good C n ops cl σ0 Rl l->Good C n ops cl σ0 (j::Rl) l:=by
            intro l;induction l with
            |nil=>intro _;trivial
            | cons b l ihl=>
              intro h;exact⟨h.1.imp (fun h=>PH _ h) id,h.2.1,h.2.2.1,h.2.2.2.1,h.2.2.2.2.1,h.2.2.2.2.2.1,ihl h.2.2.2.2.2.2⟩
        have hap:dG (fun _=>true) σ0 (⟨j,o,s,wk,nw,rd⟩::acc)=(dG (fun _=>true) σ0 acc).app o.dst s:=rfl;have hD':DL C n ops cl is (⟨j,o,s,wk,nw,rd⟩::acc) K (dG (fun _=>true) σ0 (⟨j,o,s,wk,nw,rd⟩::acc)):=by rw[hap];exact hD s hP h1 h2
        refine ih _ (j::Rl) hD' ⟨.inl Tw,hnw,hnew,ho,h1,h2,hGr hG⟩ fuel _ a' w' hL' ?_;have hjD:Dn (listed.setIfInBounds j true) j=true:=by rw[eW hil];simp
        have same:dG (Dn (listed.setIfInBounds j true)) σ0 acc=dG (Dn listed) σ0 acc:=by
            refine nB (σ0:=σ0) (fun τ=>τ) _ _ acc (fun b hb=> .inl ?_) (fun b _ τ τ' h=>by rw[h]);rw[eW hil];simp only[gp,sh]at hnew;have h3:=IN.1 hnew.2 b hb;have hb':Nat.beq b.i j=false:=by simpa using h3
            rw[hb',Q5]
        simp only[dG,hjD,Qd,same];exact hsj'
       ·
        have hc:=IN.1 hcov j (by simpa using hj);rcases(Bool.or_eq_true_iff).1 hc with hc|hc
        ·exfalso;have hc:=cW.1 hc;rcases AS.1 hc with hc|hc
         ·exact e hc
         ·have hin:=cW.1 (IN.1 hsucc j hc);have hjl:j<listed.size:=by rw[hL.sz];exact hj
          have hL':Lst ops (listed.setIfInBounds j true) fuel (⟨j,o,⟨.pv .any,[],[]⟩,wk,nw,rd⟩::acc) Rl:=hL.next hjr (fun k hk=>by simp only[bL,AS];exact hk.symm) (fun k hk=> .inl hk);have h2:=hL'.clo hcl (j:=j) (i:=i) (by rw[eW hjl];simp) hin;rw[eW hjl]at h2;have hb':Nat.beq i j=false:=by cases hb':Nat.beq i j;rfl;exact absurd (aI hb').symm e
          rw[hb',Q5,hni hL]at h2;cases h2
        ·obtain⟨it,hm,rfl⟩:=IT.1 (cW.1 hc);obtain⟨l1,l2,rfl⟩:=List.append_of_mem hm;exact pQ hcl hG hL hjr hsj (fun a' w' h1 h2=>ihf _ a' w' h1 h2)
theorem AW.draw{id:Nat}{Q:Exit->St->Prop}{σ:St}(hm:C.P.follows .mixedOrders=true)(cl:List (List Nat))(is:List Nat)(hcl:FN ops.toList []=cl)(hedge:ij 0 ops.toList=true)(h:DL C n ops cl is [] (Q .normal) σ):AW C n (.region id ops true) Q σ:=by
 refine⟨fun a w hsj=>wp_region_any hm ?_⟩;refine DL.sound (C:=C) (n:=n) hcl hedge σ (Q .normal) _ (fun a w h=>h) is [] [] h trivial ops.size _ a _ ⟨Tw,⟨List.range ops.size,Tw,fun i hi _=>by simpa using hi⟩,?_,?_,Tw⟩ ?_
 ·intro j o _ hj;exfalso;simp only[Dn,PN,RA]at hj;split at hj<;>simp at hj
 ·intro j hj;exfalso;simp only[Dn,PN,RA]at hj;split at hj<;>simp at hj
 ·obtain⟨m,R,hw⟩:=hsj;exact⟨m,R,hw.drew O O O O⟩
end
end
section
def mkZ(zs:List PV)(n:Nat):List PV:=(List.range n).map fun i=>zs.getD (i%zs.length) .any
theorem ck(z:PV)(n:Nat):mkZ [z] n=List.replicate n z:=by
 unfold mkZ;apply Qu
 ·simp
 ·intro i h1 h2;simp[Nat.mod_one]
def dS(place:Nat->Option (Nat×Nat))(ob:Nat->Option Ob)(cells:List V):List (Nat×V)->Option (List V)
 |[]=>some cells
 | (i,v)::rest=>match place i with
   |none=>none
   |some (off,size)=>bif (Nat.beq v.cells.length size&&Nat.ble (off+size) cells.length&&v.cells.all (fun c=>c.leaf&&c.bX ob)&&v.bX ob)then dS place ob (fy cells off v.cells) rest else none
def yr(l:List (Nat×Nat))(i:Nat):Option (Nat×Nat):=l[i]?
def placesOf(P:Program)(t:TypeId):Option (List (Nat×Nat)):=
 match P.underlying t with
 |some (.struct fs)=>fs.toList.mapM fun f=>(P.info? f.type).map fun i=>(f.offset,i.size)
 |_=>none
theorem pX(off:Nat):∀(vs:List Value)(arr:Array Value)(k:Nat),off+k+vs.length<=arr.size->
  ((vs.zipIdx k).foldl (fun cs (x:Value×Nat)=>cs.setIfInBounds (off+x.2) x.1) arr).toList=fy arr.toList (off+k) vs
 |[],arr,k,_=>by simp[fy]
 | v::vs,arr,k,h=>by
   simp only[Pd]at h;simp only[Ti,QQ];rw[pX off vs _ (k+1) Tx];simp only[fy,Array.toList_setIfInBounds,Pd];apply SF;intro i;simp only[List.getElem?_append,Ph,Pj,PO,Px,Pw,Qf,Pd];have e1:min (off+k) arr.size=off+k:=Ts;have e2:min (off+(k+1)) arr.size=off+k+1:=Ts;simp only[e1,e2];by_cases a:i<off+k
   ·rw[AT Ts,AT Ts,AT Ts,AT Ts,AT a,AT a];rw[Q7 Ts]
   ·by_cases b:i=off+k
    ·subst b;rw[AT Ts,AT Ts,AT Ts,AT Ts,dw Ts];rw[List.getElem?_set_self Tx];simp
    ·by_cases c:i<off+k+(vs.length+1)
     ·rw[AT Ts,dw Ts,AT Ts,dw Ts];have:i-(off+k)=(i-(off+k+1))+1:=Ts;rw[this,List.getElem?_cons_succ]
     ·rw[dw Ts,dw Ts];rw[Q7 Ts]
      congr 1
      omega
section
variable {C:Ctx}{n:Nat}{σ:St}{a:Act}{w:World}{m:Gm}{R:Nat->Prop}
theorem SW.cellsOf(hw:SW C n σ a w m R){v:V}{u:Value}(hrel:Rel w m σ.av R v u)(hl:v.cells.all (fun c=>c.leaf&&c.bX σ.ob)=true)(hlv:v.bX σ.ob=true):
  RelL w m σ.av R v.cells u.cells.toList/\∀c∈u.cells.toList,c.oneCell'=true:=by
 have live:∀i,bE (σ.ob i)=true->(m i).isSome=true:=fun i hi=>by rw[hw.hr.dom];exact hi
 have hl':∀c∈v.cells,c.leaf=true/\c.bX σ.ob=true:=by simpa using hl
 have hc:=hrel.cells (fun c hc=>(hl' c hc).1) (fun i o e=>live _ (by rw[e]at hlv;exact hlv)) (fun i s k e=>live _ (by rw[e]at hlv;exact hlv)) (fun i e=>live _ (by rw[e]at hlv;exact hlv));exact⟨hc,lu hc (fun c hc=>(hl' c hc).1) (fun c hc i o e=>live _ (by have:=(hl' c hc).2;rw[e]at this;exact this)) (fun c hc i s k e=>live _ (by have:=(hl' c hc).2;rw[e]at this;exact this)) (fun c hc i e=>live _ (by have:=(hl' c hc).2;rw[e]at this;exact this))⟩
theorem SW.fill(hw:SW C n σ a w m R)(place:Nat->Option (Nat×Nat)):∀(ps:List (Nat×Operand))(cells cs':List V)(arr:Array Value),RelL w m σ.av R cells arr.toList->
  dS place σ.ob cells (ps.map fun p=>(p.1,σ.ev n p.2))=some cs'->∃arr',Instr.fill place arr (ps.map fun p=>(p.1,a.eval p.2))=some arr'/\RelL w m σ.av R cs' arr'.toList
 | [],cells,cs',arr,hr,h=>by
   simp only[Qh,dS,Pe]at h;subst h;exact⟨arr,O,hr⟩
 | (i,x)::ps,cells,cs',arr,hr,h=>by
   simp only[bL,dS]at h;split at h
   ·cases h
   ·rename_i off size hp;rw[Bool.cond_eq_ite]at h;split at h
    ·rename_i hc;simp only[sh]at hc;obtain⟨⟨⟨h1,h2⟩,h3⟩,h4⟩:=hc;have h1:=aI h1;have h2:=Pp h2;obtain⟨hcl,_⟩:=hw.cellsOf (hw.ev x) h3 h4;have hl:=hcl.length;have hal:=hr.length;simp only[Px]at hl hal;have hset:=pX off (a.eval x).cells.toList arr 0 Tx;simp only[SC]at hset;obtain⟨arr',hf,hr'⟩:=SW.fill hw place ps _ cs' (((a.eval x).cells.toList.zipIdx 0).foldl (fun cs (x:Value×Nat)=>cs.setIfInBounds (off+x.2) x.1) arr) (by rw[hset];exact hr.fy off hcl) h;refine⟨arr',?_,hr'⟩;simp only[bL,Instr.fill,hp];have hcond:((a.eval x).cells.size≠size||off+(a.eval x).cells.size>arr.size)=false:=by
      simp only[PL,Qx];exact⟨Tx,Ts⟩
     rw[hcond];simp only[Qk,SD];have:(a.eval x).cells.zipIdx.foldl (fun cs (x:Value×Nat)=>cs.setIfInBounds (off+x.2) x.1) arr=((a.eval x).cells.toList.zipIdx 0).foldl (fun cs (x:Value×Nat)=>cs.setIfInBounds (off+x.2) x.1) arr:=by
      rw[<-Array.foldl_toList];simp
     exact this▸hf
    ·cases h
end
section
variable {C:Ctx}{n:Nat}{σ:St}{dst:Option Tmp}{ty t t':TypeId}{ts:Array TypeId}{pos:String}{after:Array Edge}{gd:Option (Nat×Bool)}{x y:Operand}
theorem mv{v:V}(hx:σ.ev n x=v):XJ C n ⟨dst,.move x,ty,pos,after,gd⟩ σ ⟨v,[],[]⟩:=hx▸oP
theorem zB{v:V}(hx:σ.ev n x=v):XJ C n ⟨dst,.assign x,ty,pos,after,gd⟩ σ ⟨v,[],[]⟩:=hx▸Bg
theorem vx{id off:Nat}{o:Ob}(hx:σ.ev n x= .ptr id off)(ho:σ.ob id=some o)(hre:o.real=true:=by rfl):XJ C n ⟨dst,.nilCheck x,ty,pos,after,gd⟩ σ ⟨.ptr id off,[],[]⟩:=
 .val fun a w m R hw=>by
  obtain⟨b,N,he,hm,_⟩:=hw.ptr hx ho hre;have hx':=hw.ev x;rw[hx]at hx';exact⟨a.eval x,by simp[execOp,he],hx'⟩
theorem tI{off:Nat}{cs:List PV}(hx:σ.ev n x= .pv (.rp cs off)):XJ C n ⟨dst,.nilCheck x,ty,pos,after,gd⟩ σ ⟨.pv (.rp cs off),[],[]⟩:=
 .val fun a w m R hw=>by
  have hx':=hw.pv hx;have h2:=hx';simp only[RelP]at h2;obtain⟨b,o,us,he,_⟩:=h2;exact⟨a.eval x,by simp[execOp,he],by simpa only[Rel]using hx'⟩
theorem kG{e:TypeId}{T:TypeId}{z:Value}{size bytes:Nat}{kl kc:IntKind}{il ic:Int}{zs:List PV}(id k:Nat)(he:ElemIs C.P T e z size bytes)(hzs:z.cells.toList.map fb=zs)(hx:σ.ev n x= .pv (.int kl il))(hy:σ.ev n y= .pv (.int kc ic))(hil:il=(k:Int))(hic:ic=(k:Int))(hk:k<=1000000000)(hid:σ.av id=true):
  XJ C n ⟨dst,.makeSlice T x y,ty,pos,after,gd⟩ σ ⟨.osl id size k,[(id,some (.cells e (mkZ zs (k*size))))],[id]⟩:=by
 subst hil hic;rintro a w Q ⟨m,R,hw⟩;obtain⟨i,hi,hz,hsize,hbytes⟩:=info_parts he.info;have hb1:(i.bytes:Int)*(k:Int)<=281474976710656:=by
  have h2:bytes*k<=1000*1000000000:=Qc he.by_ hk;rw[hbytes];have h3:((bytes*k:Nat):Int)<=((1000*1000000000:Nat):Int):=Int.ofNat_le.2 h2;rw[RX]at h3;omega
 have hrun:=run_make (P:=C.P) w T e i z he.u hi hz kl kc k k Ts (Int.le_refl _) hb1 Ts;simp only[Pz,hsize]at hrun;have hrun':(execOp a.eval ⟨dst,.makeSlice T x y,ty,pos,after,gd⟩).run C.P w= .ok (.value (.slice (some ⟨w.heap.size,0,none⟩) k k)) (w.alloc (.cells (madeCells z.cells (k*size)) e)):=by
  simp only[execOp,hw.int hx,hw.int hy,Sem.run_bind,hrun,Result.andThen_ok,Sem.run_pure]
 unfold Oper.wp;rw[hrun'];have hsz:(madeCells z.cells (k*size)).size=k*size:=size_madeCells _ _;refine⟨_,O,upd m id (some (w.heap.size,(madeCells z.cells (k*size)).size)),R,?_⟩;rw[O1];refine SW.put (hw.alloc hid _ e (.cells e (mkZ zs (k*size))) ?_) dst ?_
 ·intro w' m' av' hR hm ha hb;have hl:(mkZ zs (k*size)).length=k*size:=by simp[mkZ]
  refine⟨_,hb,O,by rw[hl,hsz];exact BY _,?_⟩;rw[aX (by rw[hl];simp[hsz])];have hzl:zs.length=z.cells.size:=by rw[<-hzs];simp
  have gen:∀l:List Nat,(∀j∈l,True)->RelPL w' R (l.map fun i=>zs.getD (i%zs.length) .any) (l.map fun i=>z.cells[i%z.cells.size]!):=by
   intro l;induction l with
   |nil=>intro _;simpa using RelPL.nil
   | cons j l ih=>
     intro _;simp only[bL];refine RelPL.cons ?_ (ih (fun _ _=>trivial));have hpos:0<z.cells.size:=by rw[he.zs];exact he.pos
     have hlt:j%z.cells.size<z.cells.size:=Rb _ hpos;rw[hzl,<-hzs];have e1:(z.cells.toList.map fb).getD (j%z.cells.size) .any=fb (z.cells[j%z.cells.size]!):=by
      simp[Pk,hlt]
     rw[e1];exact eR w' R _
  have:=gen (List.range (k*size)) (fun _ _=>trivial);simpa[mkZ,madeCells]using this
 ·simp only[Rel];refine⟨by simp[avL],fun b N e=>?_⟩;rw[ay]at e;cases e;exact⟨k,O,BY _,by simp only[maxLen];omega,hsz⟩
structure BuiltIs(P:Program)(T:TypeId)(zs:List PV)(place:Nat->Option (Nat×Nat)):Prop where
 go:∃z:Value,z.cells.toList.map fb=zs/\∀parts,P.built T parts=Instr.fill place z.cells parts
theorem BuiltIs.struct{P:Program}{T:TypeId}{z:Value}{zs:List PV}{pl:List (Nat×Nat)}(hz:(P.info? T).map (·.zero)=some (some z))(hzs:z.cells.toList.map fb=zs)(hp:placesOf P T=some pl):BuiltIs P T zs (yr pl):=by
 refine⟨z,hzs,fun parts=>?_⟩;unfold placesOf at hp;split at hp
 ·rename_i fs hu;cases hq:P.info? T with
  |none=>simp[hq]at hz
  | some ti=>
    simp[hq]at hz;have hfun:(fun i=>pl.toArray[i]?)=yr pl:=by funext i;simp[yr]
    unfold Program.built;simp only[hq,hu,hz,hp,hfun]
 ·cases hp
theorem BuiltIs.array{P:Program}{T e:TypeId}{k s:Nat}{z:Value}{zs:List PV}(hu:P.underlying T=some (.array k e))(hz:(P.info? T).map (·.zero)=some (some z))(hzs:z.cells.toList.map fb=zs)(hs:bQ P e s):BuiltIs P T zs (fun i=>some (i*s,s)):=by
 refine⟨z,hzs,fun parts=>?_⟩;cases hq:P.info? T with
 |none=>simp[hq]at hz
 | some ti=>
   simp[hq]at hz;unfold bQ at hs;cases he:P.info? e with
   |none=>simp[he]at hs
   | some ei=>
     simp[he]at hs;unfold Program.built;simp only[hq,hu,hz,he,hs]
theorem HB{w:World}{R:Nat->Prop}{z:Value}{zs:List PV}(hzs:z.cells.toList.map fb=zs):RelPL w R zs z.cells.toList:=by
 rw[<-hzs];generalize z.cells.toList=l;induction l with
 |nil=>simpa using RelPL.nil
 |cons x l ih=>simpa using RelPL.cons (eR w R x) ih
theorem xA{T:TypeId}{parts:Array (Nat×Operand)}{zs:List PV}{place:Nat->Option (Nat×Nat)}{cs':List V}(hb:BuiltIs C.P T zs place)
  (hf:dS place σ.ob (zs.map .pv) (parts.toList.map fun p=>(p.1,σ.ev n p.2))=some cs'):
  XJ C n ⟨dst,.build T parts,ty,pos,after,gd⟩ σ ⟨.agg cs',[],[]⟩:=
 .val fun a w m R hw=>by
  obtain⟨z,hzs,hb⟩:=hb.go;obtain⟨arr',hfill,hr'⟩:=hw.fill place parts.toList _ cs' z.cells (RelL.ofP (HB hzs)) hf;have hparts:(parts.map fun x=>(x.1,a.eval x.2)).toList=parts.toList.map fun p=>(p.1,a.eval p.2):=Tw
  have hrun:=run_build (P:=C.P) w T (parts.map fun x=>(x.1,a.eval x.2)) arr' (by rw[hb,hparts];exact hfill);refine⟨.agg arr',?_,?_⟩
  ·simp only[execOp,Sem.run_bind,hrun,Result.andThen_ok,Sem.run_pure]
  ·simp only[Rel];exact⟨arr'.toList,Tw,hr'⟩
def V.pvs:List V->Option (List PV)
 |[]=>some []
 | .pv p::vs=>match V.pvs vs with|some ps=>some (p::ps)|none=>none
 |_::_=>none
theorem V.sJ:∀{vs:List V}{ps:List PV},V.pvs vs=some ps->vs=ps.map .pv
 |[],ps,h=>by simp only[V.pvs,Pe]at h;subst h;rfl
 | .pv p::vs,ps,h=>by
   simp only[V.pvs]at h;split at h
   ·rename_i qs hq;simp at h;subst h;simp[V.sJ hq]
   ·cases h
 | .ptr _ _::_,_,h=>by simp[V.pvs]at h
 | .osl _ _ _::_,_,h=>by simp[V.pvs]at h
 | .tsl _ _ _::_,_,h=>by simp[V.pvs]at h
 | .gsl _ _ _::_,_,h=>by simp[V.pvs]at h
 | .map _::_,_,h=>by simp[V.pvs]at h
 | .agg _::_,_,h=>by simp[V.pvs]at h
 | .tup _::_,_,h=>by simp[V.pvs]at h
 | .fn _ _ _::_,_,h=>by simp[V.pvs]at h
theorem so{T e:TypeId}{z:Value}{size bytes k:Nat}{zs:List PV}{parts:Array (Nat×Operand)}{cs:List PV}(id:Nat)(he:ElemIs C.P T e z size bytes)(hzs:z.cells.toList.map fb=zs)(hk:0<k)(hk2:k*size<=16777216)(hid:σ.av id=true)
  {vs:List V} (hf:dS (fun i=>some (i*size,size)) σ.ob ((mkZ zs (k*size)).map .pv) (parts.toList.map fun p=>(p.1,σ.ev n p.2))=some vs) (hvs:V.pvs vs=some cs):
  XJ C n ⟨dst,.buildSlice T k parts,ty,pos,after,gd⟩ σ ⟨.osl id size k,[(id,some (.cells e cs))],[id]⟩:=by
 rintro a w Q ⟨m,R,hw⟩;obtain rfl:=V.sJ hvs;obtain⟨i,hi,hz,hsize,hbytes⟩:=info_parts he.info;have hzl:zs.length=z.cells.size:=by rw[<-hzs];simp
 have gen:∀l:List Nat,RelPL w R (l.map fun i=>zs.getD (i%zs.length) .any) (l.map fun i=>z.cells[i%z.cells.size]!):=by
  intro l;induction l with
  |nil=>simpa using RelPL.nil
  | cons j l ih=>
    simp only[bL];refine RelPL.cons ?_ ih;have hpos:0<z.cells.size:=by rw[he.zs];exact he.pos
    have hlt:j%z.cells.size<z.cells.size:=Rb _ hpos;rw[hzl,<-hzs];have e1:(z.cells.toList.map fb).getD (j%z.cells.size) .any=fb (z.cells[j%z.cells.size]!):=by
     simp[Pk,hlt]
    rw[e1];exact eR w R _
 have h0:RelPL w R (mkZ zs (k*size)) ((Array.range (k*size)).map (z.cells[· %z.cells.size]!)).toList:=by
  have:=gen (List.range (k*size));simpa[mkZ]using this
 obtain⟨arr',hfill,hr'⟩:=hw.fill (fun i=>some (i*size,size)) parts.toList _ _ _ (RelL.ofP h0) hf;have hr2:=hr'.toP;have hparts:(parts.map fun x=>(x.1,a.eval x.2)).toList=parts.toList.map fun p=>(p.1,a.eval p.2):=Tw
 have hpos:0<k*size:=Tk hk he.pos;have hrun:=run_buildSlice (P:=C.P) w T e k (parts.map fun x=>(x.1,a.eval x.2)) arr' i z he.u hi hz (by rw[hsize];omega) (by rw[hsize];omega) (by rw[hparts,hsize];exact hfill);have hcl:cs.length=k*size:=by
  have:∀(l:List (Nat×V))(cells cs':List V),dS (fun i=>some (i*size,size)) σ.ob cells l=some cs'->cs'.length=cells.length:=by
   intro l;induction l with
   |nil=>intro cells cs' h;simp only[dS,Pe]at h;rw[h]
   | cons p l ih=>
     obtain⟨q,v⟩:=p;intro cells cs' h;simp only[dS]at h;rw[Bool.cond_eq_ite]at h;split at h
     ·rename_i hc;simp only[sh]at hc;rw[ih _ _ h,bB];have h1:=aI hc.1.1.1;have h2:=Pp hc.1.1.2;omega
     ·cases h
  have:=this _ _ _ hf;simpa[mkZ]using this
 have hrun':(execOp a.eval ⟨dst,.buildSlice T k parts,ty,pos,after,gd⟩).run C.P w= .ok (.value (.slice (some ⟨w.heap.size,0,none⟩) k k)) (w.alloc (.cells arr' e)):=by
  simp only[execOp,Sem.run_bind,hrun,Result.andThen_ok,Sem.run_pure]
 unfold Oper.wp;rw[hrun'];have hsz:arr'.size=k*size:=by have:=hr2.length;simp at this;omega
 refine⟨_,O,upd m id (some (w.heap.size,arr'.size)),R,?_⟩;rw[O1];refine SW.put (hw.alloc hid _ e (.cells e cs) ?_) dst ?_
 ·intro w' m' av' hR hm ha hb;refine⟨_,hb,O,Ts,?_⟩;rw[aX Tx];exact hr2.mono hR
 ·simp only[Rel];refine⟨by simp[avL],fun b N e=>?_⟩;rw[ay]at e;cases e;have:k<=k*size:=Nat.le_mul_of_pos_right k he.pos;exact⟨k,O,BY _,by simp only[maxLen];omega,hsz⟩
theorem wH{f:Fn}{fs cs:Array Operand}:XJ C n ⟨dst,.makeFunc f fs cs,ty,pos,after,gd⟩ σ ⟨.fn f (fs.toList.map (σ.ev n)) (cs.toList.map (σ.ev n)),[],[]⟩:=
 .val fun a w m R hw=>by
  refine⟨.func f (fs.map a.eval) (cs.map a.eval),by simp[execOp,Instr.makeFunc],?_⟩;simp only[Rel];exact⟨_,_,by simp only[<-Array.toList_map,Array.toArray_toList],hw.evs fs.toList,hw.evs cs.toList⟩
end
def V.plain:V->Bool
 | .pv _=>true
 |_=>false
theorem oz{ob ob':Nat->Option Ob}:∀{v:V},v.plain=true->v.bX ob=v.bX ob'
 | .pv _,_=>rfl
theorem oL{place:Nat->Option (Nat×Nat)}{ob ob':Nat->Option Ob}:∀(l:List (Nat×V))(cells:List V),(l.all fun p=>p.2.plain||p.2.cells.all V.plain&&(match p.2 with| .agg _=>true|_=>false))=true->dS place ob cells l=dS place ob' cells l
 |[],_,_=>rfl
 | (i,v)::l,cells,h=>by
   simp only[RB,sh]at h;simp only[dS];have hv:(v.cells.all (fun c=>c.leaf&&c.bX ob)&&v.bX ob)=(v.cells.all (fun c=>c.leaf&&c.bX ob')&&v.bX ob'):=by
    cases v with
    | pv p=>
      have:∀c∈V.cells (.pv p),c.bX ob=c.bX ob':=by
       intro c hc;cases p with
       | agg ps=>
         simp only[V.cells,IT]at hc;obtain⟨q,_,rfl⟩:=hc;rfl
       |_=>simp only[V.cells,OF]at hc;subst hc;rfl
      have e:(V.cells (.pv p)).all (fun c=>c.leaf&&c.bX ob)=(V.cells (.pv p)).all (fun c=>c.leaf&&c.bX ob'):=by
       rw[PA,IN,IN];exact⟨fun h c hc=>by rw[<-this c hc];exact h c hc,fun h c hc=>by rw[this c hc];exact h c hc⟩
      rw[e];rfl
    | agg cs=>
      have hp:cs.all V.plain=true:=by simpa[V.plain,V.cells]using h.1
      have e:cs.all (fun c=>c.leaf&&c.bX ob)=cs.all (fun c=>c.leaf&&c.bX ob'):=by
       rw[PA,IN,IN];exact⟨fun h c hc=>by rw[<-oz (IN.1 hp c hc)];exact h c hc,fun h c hc=>by rw[oz (ob':=ob') (IN.1 hp c hc)];exact h c hc⟩
      simp only[V.cells,e];rfl
    |_=>simp[V.plain]at h
   have ih:=fun c=>oL (place:=place) (ob:=ob) (ob':=ob') l c h.2
   split
   ·rfl
   ·rw[Bool.and_assoc,hv,<-Bool.and_assoc];simp only[ih]
section
variable {n:Nat}{ops:Array Oper}{σ τ:St}{s:OS}{rd:List Nat}{dst:Option Tmp}{ty:TypeId}{pos:String}{after:Array Edge}{gd:Option (Nat×Bool)}{T:TypeId}{parts:Array (Nat×Operand)}{place:Nat->Option (Nat×Nat)}{cells cs':List V}
theorem Agr.Cc{k:Nat}(h:Agr n ops ⟨dst,.buildSlice T k parts,ty,pos,after,gd⟩ σ τ s rd)(hp:((parts.toList.map fun p=>(p.1,σ.ev n p.2)).all fun p=>p.2.plain||p.2.cells.all V.plain&&(match p.2 with| .agg _=>true|_=>false))=true)
  (hf:dS place σ.ob cells (parts.toList.map fun p=>(p.1,σ.ev n p.2))=some cs'):dS place τ.ob cells (parts.toList.map fun p=>(p.1,τ.ev n p.2))=some cs':=by
 rw[h.MF,oL (ob':=σ.ob) _ _ hp];exact hf
end
end
section
mutual
def V.ren(ρ:Nat->Nat):V->V
 | .pv p=> .pv p
 | .ptr i o=> .ptr (ρ i) o
 | .osl i s k=> .osl (ρ i) s k
 | .tsl i o k=> .tsl (ρ i) o k
 | .gsl i s k=> .gsl (ρ i) s k
 | .map i=> .map (ρ i)
 | .agg cs=> .agg (V.renL ρ cs)
 | .tup cs=> .tup (V.renL ρ cs)
 | .fn f a b=> .fn f (V.renL ρ a) (V.renL ρ b)
def V.renL(ρ:Nat->Nat):List V->List V
 |[]=>[]
 |c::cs=>V.ren ρ c::V.renL ρ cs
end
def Ob.ren(ρ:Nat->Nat):Ob->Ob
 | .cells t cs=> .cells t cs
 | .mix t cs=> .mix t (V.renL ρ cs)
 | .gro t cs=> .gro t cs
 | .mp ks vs=> .mp ks vs
 | .it s p=> .it s p
 | .fro s p=> .fro s p
 | .mi c ks vs=> .mi c ks vs
theorem Ob.iF(ρ:Nat->Nat):∀o:Ob,(o.ren ρ).real=o.real
 | .cells _ _=>rfl
 | .mix _ _=>rfl
 | .gro _ []=>rfl
 | .gro _ (_::_)=>rfl
 | .mp _ _=>rfl
 | .it _ _=>rfl
 | .fro _ _=>rfl
 | .mi _ _ _=>rfl
theorem sx(ρ:Nat->Nat):∀o:Option Ob,bE (o.map (Ob.ren ρ))=bE o
 |none=>rfl
 |some o=>Ob.iF ρ o
mutual
def V.all(p:Nat->Bool):V->Bool
 | .pv _=>true
 | .ptr i _=>p i
 | .osl i _ _=>p i
 | .tsl i _ _=>p i
 | .gsl i _ _=>p i
 | .map i=>p i
 | .agg cs=>V.allL p cs
 | .tup cs=>V.allL p cs
 | .fn _ a b=>V.allL p a&&V.allL p b
def V.allL(p:Nat->Bool):List V->Bool
 |[]=>true
 |c::cs=>V.all p c&&V.allL p cs
end
def Ob.all(p:Nat->Bool):Ob->Bool
 | .cells _ _=>true
 | .mix _ cs=>V.allL p cs
 | .gro _ _=>true
 | .mp _ _=>true
 | .it _ _=>true
 | .fro _ _=>true
 | .mi _ _ _=>true
section
variable {w:World}{R:Nat->Prop}
mutual
theorem Rel.ren{m m':Gm}{av av':Av}(ρ:Nat->Nat)(p:Nat->Bool)(hm:∀i x,p i=true->m' (ρ i)=some x->m i=some x)(ha:∀i,p i=true->av i=false->av' (ρ i)=false):
  ∀(v:V)(u:Value),v.all p=true->Rel w m av R v u->Rel w m' av' R (v.ren ρ) u
 | .pv q,u,_,h=>by simpa only[Rel,V.ren]using h
 | .ptr i o,_,hp,h=>by simp only[V.all]at hp;simp only[Rel,V.ren]at h ⊢; exact⟨ha i hp h.1,fun b N e=>h.2 b N (hm i _ hp e)⟩
 | .osl i s k,_,hp,h=>by simp only[V.all]at hp;simp only[Rel,V.ren]at h ⊢; exact⟨ha i hp h.1,fun b N e=>h.2 b N (hm i _ hp e)⟩
 | .tsl i s k,_,hp,h=>by
   simp only[V.all]at hp;simp only[Rel,V.ren]at h ⊢;obtain⟨h0,A,c,e,h1⟩:=h;exact⟨ha i hp h0,A,c,e,fun hq b N e=>h1 hq b N (hm i _ hp e)⟩
 | .gsl i s k,_,hp,h=>by
   simp only[V.all]at hp;simp only[Rel,V.ren]at h ⊢;obtain⟨h0,A,c,e,h1,h2,h3,h4⟩:=h;exact⟨ha i hp h0,A,c,e,h1,h2,fun hn=>⟨(h3 hn).1,(h3 hn).2.1,mF (fun x=>hm i x hp) (h3 hn).2.2⟩,fun hk b N e=>h4 hk b N (hm i _ hp e)⟩
 | .map i,_,hp,h=>by simp only[V.all]at hp;simp only[Rel,V.ren]at h ⊢; exact⟨ha i hp h.1,fun b N e=>h.2 b N (hm i _ hp e)⟩
 | .agg cs,_,hp,h=>by
   simp only[V.all]at hp;simp only[Rel,V.ren]at h ⊢;obtain⟨us,e,h⟩:=h;exact⟨us,e,RelL.ren ρ p hm ha cs us hp h⟩
 | .tup cs,_,hp,h=>by
   simp only[V.all]at hp;simp only[Rel,V.ren]at h ⊢;obtain⟨us,e,h⟩:=h;exact⟨us,e,RelL.ren ρ p hm ha cs us hp h⟩
 | .fn f a b,_,hp,h=>by
   simp only[V.all,sh]at hp;simp only[Rel,V.ren]at h ⊢;obtain⟨us,vs,e,h1,h2⟩:=h;exact⟨us,vs,e,RelL.ren ρ p hm ha a us hp.1 h1,RelL.ren ρ p hm ha b vs hp.2 h2⟩
theorem RelL.ren{m m':Gm}{av av':Av}(ρ:Nat->Nat)(p:Nat->Bool)(hm:∀i x,p i=true->m' (ρ i)=some x->m i=some x)(ha:∀i,p i=true->av i=false->av' (ρ i)=false):
  ∀(vs:List V)(us:List Value),V.allL p vs=true->RelL w m av R vs us->RelL w m' av' R (V.renL ρ vs) us
 |[],_,_,h=>by simpa only[RelL,V.renL]using h
 | c::cs,_,hp,h=>by
   simp only[V.allL,sh]at hp;simp only[RelL,V.renL]at h ⊢;obtain⟨u,us,e,h1,h2⟩:=h;exact⟨u,us,e,Rel.ren ρ p hm ha c u hp.1 h1,RelL.ren ρ p hm ha cs us hp.2 h2⟩
end
mutual
theorem Rel.gl{m m':Gm}{av av':Av}(ρ:Nat->Nat)(p:Nat->Bool)(hm:∀i x,p i=true->m i=some x->m' (ρ i)=some x)(ha:∀i,p i=true->av i=false):
  ∀(v:V)(u:Value),v.all p=true->Rel w m' av' R (v.ren ρ) u->Rel w m av R v u
 | .pv q,u,_,h=>by simpa only[Rel,V.ren]using h
 | .ptr i o,_,hp,h=>by simp only[V.all]at hp;simp only[Rel,V.ren]at h ⊢; exact⟨ha i hp,fun b N e=>h.2 b N (hm i _ hp e)⟩
 | .osl i s k,_,hp,h=>by simp only[V.all]at hp;simp only[Rel,V.ren]at h ⊢; exact⟨ha i hp,fun b N e=>h.2 b N (hm i _ hp e)⟩
 | .tsl i s k,_,hp,h=>by
   simp only[V.all]at hp;simp only[Rel,V.ren]at h ⊢;obtain⟨h0,A,c,e,h1⟩:=h;exact⟨ha i hp,A,c,e,fun hq b N e=>h1 hq b N (hm i _ hp e)⟩
 | .gsl i s k,_,hp,h=>by
   simp only[V.all]at hp;simp only[Rel,V.ren]at h ⊢;obtain⟨h0,A,c,e,h1,h2,h3,h4⟩:=h;exact⟨ha i hp,A,c,e,h1,h2,fun hn=>⟨(h3 hn).1,(h3 hn).2.1,mF (fun x=>hm i x hp) (h3 hn).2.2⟩,fun hk b N e=>h4 hk b N (hm i _ hp e)⟩
 | .map i,_,hp,h=>by simp only[V.all]at hp;simp only[Rel,V.ren]at h ⊢; exact⟨ha i hp,fun b N e=>h.2 b N (hm i _ hp e)⟩
 | .agg cs,_,hp,h=>by
   simp only[V.all]at hp;simp only[Rel,V.ren]at h ⊢;obtain⟨us,e,h⟩:=h;exact⟨us,e,RelL.gl ρ p hm ha cs us hp h⟩
 | .tup cs,_,hp,h=>by
   simp only[V.all]at hp;simp only[Rel,V.ren]at h ⊢;obtain⟨us,e,h⟩:=h;exact⟨us,e,RelL.gl ρ p hm ha cs us hp h⟩
 | .fn f a b,_,hp,h=>by
   simp only[V.all,sh]at hp;simp only[Rel,V.ren]at h ⊢;obtain⟨us,vs,e,h1,h2⟩:=h;exact⟨us,vs,e,RelL.gl ρ p hm ha a us hp.1 h1,RelL.gl ρ p hm ha b vs hp.2 h2⟩
theorem RelL.gl{m m':Gm}{av av':Av}(ρ:Nat->Nat)(p:Nat->Bool)(hm:∀i x,p i=true->m i=some x->m' (ρ i)=some x)(ha:∀i,p i=true->av i=false):
  ∀(vs:List V)(us:List Value),V.allL p vs=true->RelL w m' av' R (V.renL ρ vs) us->RelL w m av R vs us
 |[],_,_,h=>by simpa only[RelL,V.renL]using h
 | c::cs,_,hp,h=>by
   simp only[V.allL,sh]at hp;simp only[RelL,V.renL]at h ⊢;obtain⟨u,us,e,h1,h2⟩:=h;exact⟨u,us,e,Rel.gl ρ p hm ha c u hp.1 h1,RelL.gl ρ p hm ha cs us hp.2 h2⟩
end
theorem kE.ren{m m':Gm}{av av':Av}(ρ:Nat->Nat)(p:Nat->Bool)(hm:∀i x,p i=true->m' (ρ i)=some x->m i=some x)(ha:∀i,p i=true->av i=false->av' (ρ i)=false){b N:Nat}{o:Ob}(ho:o.all p=true)(h:kE w m av R b N o):kE w m' av' R b N (o.ren ρ):=by
 cases o with
 |cells ty cs=>exact h
 |gro ty cs=>exact h
 |mp ks vs=>exact h
 |it s p=>exact h
 |fro s p=>exact h
 |mi c ks vs=>exact h
 | mix ty cs=>
   obtain⟨arr,h1,h2,h3,h4⟩:=h;have hl:(V.renL ρ cs).length=cs.length:=by
    clear ho h3 h4;induction cs with
    |nil=>rfl
    |cons c cs ih=>simp[V.renL,ih]
   exact⟨arr,h1,h2,by rw[hl];exact h3,by rw[hl];exact h4.ren ρ p hm ha _ _ ho⟩
theorem kE.gl{m m':Gm}{av av':Av}(ρ:Nat->Nat)(p:Nat->Bool)(hm:∀i x,p i=true->m i=some x->m' (ρ i)=some x)(ha:∀i,p i=true->av i=false){b N:Nat}{o:Ob}(ho:o.all p=true)(h:kE w m' av' R b N (o.ren ρ)):kE w m av R b N o:=by
 cases o with
 |cells ty cs=>exact h
 |gro ty cs=>exact h
 |mp ks vs=>exact h
 |it s p=>exact h
 |fro s p=>exact h
 |mi c ks vs=>exact h
 | mix ty cs=>
   obtain⟨arr,h1,h2,h3,h4⟩:=h;have hl:(V.renL ρ cs).length=cs.length:=by
    clear ho h3 h4;induction cs with
    |nil=>rfl
    |cons c cs ih=>simp[V.renL,ih]
   rw[hl]at h3 h4;exact⟨arr,h1,h2,h3,h4.gl ρ p hm ha _ _ ho⟩
end
def okR(k k':Nat):Nat->Bool:=fun i=>Nat.blt i k'||(Nat.ble big i&&Nat.blt i (big+k))
def cC:List V->V
 |[v]=>v
 |vs=> .tup vs
def cF:Nat->List V->List (Nat×V)
 |_,[]=>[]
 |k,p::ps=>(k,p)::cF (k+1) ps
def FnO(P:Program)(f:FuncId)(k k':Nat)(args:List V)(os:List (Nat×Ob))(Q:V->(Nat->Option Ob)->Prop):Prop:=
 ∀(w:World)(m:Gm)(R:RT w (dj m))(us:List Value),HR ⟨P,m,w,dj m,R⟩ m R.p (ax os) (avK 0) w->RelL w m (avK 0) R.p args us->
  Calls P f us.toArray w fun e w'=>∃u v ob' m' R',e= .returned u/\Q v ob'/\v.all (okR k k')=true/\(∀i o,ob' i=some o->okR k k' i=true/\o.all (okR k k')=true)/\HR ⟨P,m,w,dj m,R⟩ m' R' ob' (avK k') w'/\Rel w' m' (avK k') R' v u
def retO(fn:Func)(n k k':Nat)(Q:V->(Nat->Option Ob)->Prop):Exit->St->Prop
 | .ret,σ| .normal,σ=>∃l os' vs,σ.le (mkS l os' k')/\yn n (mkS l os' k') fn.results.toList=some vs/\V.allL (okR k k') vs=true/\os'.all (fun p=>okR k k' p.1&&p.2.all (okR k k'))=true/\Q (cC vs) (ax os')
 |_,_=>False
theorem bu:∀{os:List (Nat×Ob)}{i:Nat}{o:Ob},ax os i=some o->(i,o)∈os
 |[],_,_,h=>by simp[ax]at h
 | (d,v)::os,i,o,h=>by
   simp only[ax]at h;cases hb:Nat.beq i d with
   |true=>rw[hb]at h;simp at h;have:=aI hb;subst this;subst h;simp
   |false=>rw[hb]at h;exact PH _ (bu (by simpa using h))
theorem oB{w:World}{m:Gm}{av:Av}{R:Nat->Prop}{vs:List V}{us:List Value}(h:RelL w m av R vs us):Rel w m av R (cC vs) (if h:us.toArray.size=1 then us.toArray[0]else .tuple us.toArray):=by
 have hl:=h.length;cases vs with
 | nil=>
   simp only[RelL]at h;subst h;simp only[cC,Rel];exact⟨[],Tw,RelL.nil⟩
 | cons p ps=>
   cases ps with
   | nil=>
     simp only[RelL]at h;obtain⟨u,vs',rfl,h5,rfl⟩:=h;simpa[cC]using h5
   | cons p2 ps=>
     simp only[cC,Rel];refine⟨us,?_,h⟩;rw[dif_neg (by simp at hl ⊢; omega)]
theorem jH{p:Nat->Bool}{vs:List V}(h:V.allL p vs=true):(cC vs).all p=true:=by
 cases vs with
 |nil=>rfl
 | cons a l=>
   cases l with
   |nil=>simpa[cC,V.allL]using h
   |cons b l=>simpa[cC,V.all]using h
theorem FnO.of{P:Program}{f:FuncId}{fn:Func}{c:Code}{n k k':Nat}{args:List V}{os:List (Nat×Ob)}{Q:V->(Nat->Option Ob)->Prop}(hf:P.funcs[f]? =some fn)(hb:fn.body=some c)(hn:fn.ntmps=n)(hna:args.length<=n)
  (h:∀m0 w0 F R0,AW ⟨P,m0,w0,F,R0⟩ n c (retO fn n k k' Q) (mkS (cF 0 args) os 0)):FnO P f k k' args os Q:=by
 intro w m R us hHR hrel;refine calls_of_wp hf hb ?_;have hl:=hrel.length;obtain⟨R1,hp1,hd1⟩:∃R1:RT w (dj m),R1.p=R.p/\R1.df=[]:=⟨⟨R.p,R.g,R.d,[]⟩,O,O⟩;have init:SJ ⟨P,m,w,dj m,R1⟩ n (mkS (cF 0 args) os 0) { tmps:=us.toArray++Array.replicate (fn.ntmps-us.toArray.size) undef,defers:=[] } w:=by
  refine⟨m,R.p,⟨hHR.dfs hp1,hd1.symm,Tx,?_⟩⟩;intro t ht;show Rel w m (avK 0) R.p (look (cF 0 args) t) ((us.toArray++Array.replicate (fn.ntmps-us.toArray.size) undef).getD t undef);have key:∀(ps:List V)(vs:List Value)(k:Nat),RelL w m (avK 0) R.p ps vs->k<=t->∀z:Value,Rel w m (avK 0) R.p (look (cF k ps) t) (vs[t-k]?.getD z):=by
   intro ps;induction ps with
   |nil=>intro vs k _ _ z;simp only[cF,look,Rel,RelP]
   | cons p ps ih=>
     intro vs k hr hk z;simp only[RelL]at hr;obtain⟨u,vs',rfl,h1,h2⟩:=hr;simp only[cF,look];by_cases e:t=k
     ·subst e;simp only[Sn,Qd,SO];simpa using h1
     ·have hb:Nat.beq t k=false:=by cases hb:Nat.beq t k;rfl;exact absurd (aI hb) e
      rw[hb];have:=ih vs' (k+1) h2 Ts z;have e2:t-k=(t-(k+1))+1:=Ts;rw[e2];simpa using this
  have:=key args us 0 hrel (cd _) undef;simp only[S8]at this;rw[PN,SX];by_cases e:t<us.length
  ·simpa[e]using this
  ·rw[Qg Ts]at this;simp only[Pv,e,SD,RA];split<;>simpa using this
 have hbody:=(h m w (dj m) R1).go _ w init;refine wp_mono hbody ?_;rintro ex a' w' ⟨σ',hq,hsj⟩;have fin:∀l os' vs,σ'.le (mkS l os' k')->yn n (mkS l os' k') fn.results.toList=some vs->V.allL (okR k k') vs=true->os'.all (fun p=>okR k k' p.1&&p.2.all (okR k k'))=true->Q (cC vs) (ax os')->
   a'.defers=[]/\∃v,(results fn a'.tmps).run P w'= .ok v w'/\∃u v_1 ob' m' R',Ending.returned v= .returned u/\Q v_1 ob'/\v_1.all (okR k k')=true/\(∀i o,ob' i=some o->okR k k' i=true/\o.all (okR k k')=true)/\HR ⟨P,m,w,dj m,R⟩ m' R' ob' (avK k') w'/\Rel w' m' (avK k') R' v_1 u:=by
  intro l os' vs h1 h2 h3 h4 h5;obtain⟨m2,R2,hw⟩:=h1 _ _ _ _ hsj;have hrl:=re hw h2;have hrun:=fun f hf=>rV (a:=a') w' P f hf h2
  generalize fn.results.toList.map (MV a')=us' at hrl hrun;refine⟨hw.df.trans hd1,(if h:us'.toArray.size=1 then us'.toArray[0]else .tuple us'.toArray),?_,?_⟩
  ·unfold results;rw[Array.mapM_eq_mapM_toList];simp only[Sem.run_bind,Sem.run_map];rw[hrun _ (fun t=>rfl)];rfl
  ·refine⟨_,cC vs,ax os',m2,R2,O,h5,jH h3,?_,hw.hr.dfs hp1.symm,oB hrl⟩;intro i o hio;have:=IN.1 h4 (i,o) (bu hio);simpa using this
 cases ex with
 |normal=>obtain⟨l,os',vs,h1,h2,h3,h4,h5⟩:=hq;exact fin l os' vs h1 h2 h3 h4 h5
 |ret=>obtain⟨l,os',vs,h1,h2,h3,h4,h5⟩:=hq;exact fin l os' vs h1 h2 h3 h4 h5
 |_=>exact hq.elim
def dH(ids:List Nat)(base:Nat)(i:Nat):Nat:=bif Nat.ble big i then ids.getD (i-big) 0 else base+i
def wrO(ids:List Nat)(base k':Nat)(ob':Nat->Option Ob):List (Nat×Option Ob):=
 ids.zipIdx.map (fun p=>(p.1,(ob' (big+p.2)).map (Ob.ren (dH ids base))))++(List.range k').map (fun i=>(base+i,(ob' i).map (Ob.ren (dH ids base))))
def nwO(base k':Nat):List Nat:=(List.range k').map (base+ ·)
def lkL{β:Type}:List (Nat×β)->(Nat->β)->Nat->β
 |[],f,id=>f id
 |(i,o)::l,f,id=>bif Nat.beq id i then o else lkL l f id
theorem Jz:∀(l:List (Nat×Option Ob))(f:Nat->Option Ob),obL l f=lkL l f
 |[],f=>rfl
 |(i,o)::l,f=>by funext id;simp only[obL,lkL,Jz l f]
theorem qG{β:Type}:∀(l:List (Nat×β))(f:Nat->β)(id:Nat),id∉l.map (·.1)->lkL l f id=f id
 |[],_,_,_=>rfl
 | (i,o)::l,f,id,h=>by
   simp only[bL,AS,not_or]at h;have hb:Nat.beq id i=false:=by cases hb:Nat.beq id i;rfl;exact absurd (aI hb) h.1
   simp only[lkL,hb,PE];exact qG l f id h.2
theorem rC{β:Type}:∀(l l':List (Nat×β))(f:Nat->β),lkL (l++l') f=lkL l (lkL l' f)
 |[],_,_=>rfl
 |(i,o)::l,l',f=>by funext id;simp only[Qq,lkL,rC l l' f]
theorem Fi{β:Type}(g:Nat->β)(f:Nat->β):∀(ids:List Nat)(k i:Nat)(id:Nat),ids.Nodup->ids[i]? =some id->lkL ((ids.zipIdx k).map fun p=>(p.1,g p.2)) f id=g (k+i)
 |[],_,_,_,_,h=>by simp at h
 | q::ids,k,i,id,hn,h=>by
   simp only[Ti,bL,lkL];cases i with
   |zero=>simp at h;subst h;simp
   | succ i=>
     simp at h;have hne:id≠q:=fun e=>by subst e;exact(Rz.1 hn).1 (Qv h)
     have hb:Nat.beq id q=false:=by cases hb:Nat.beq id q;rfl;exact absurd (aI hb) hne
     rw[hb];simp only[PE];rw[Fi g f ids (k+1) i id (Rz.1 hn).2 h]
     congr 1
     omega
theorem Fs{β:Type}(g:Nat->β)(f:Nat->β)(base k' i:Nat)(hi:i<k'):lkL ((List.range k').map fun i=>(base+i,g i)) f (base+i)=g i:=by
 have gen:∀(l:List Nat),i∈l->lkL (l.map fun i=>(base+i,g i)) f (base+i)=g i:=by
  intro l;induction l with
  |nil=>intro h;simp at h
  | cons q l ih=>
    intro h;simp only[bL,lkL];by_cases e:i=q
    ·subst e;simp
    ·have hb:Nat.beq (base+i) (base+q)=false:=by cases hb:Nat.beq (base+i) (base+q);rfl;have:=aI hb;omega
     rw[hb];simp only[PE];exact ih (by simpa[e]using h)
 exact gen _ (by simpa using hi)
end
section
def ff(σ:St)(ρ:Nat->Nat):List (Nat×Ob)->Prop
 |[]=>True
 |(i,o)::l=>σ.ob (ρ i)=some (o.ren ρ)/\ff σ ρ l
theorem dV{σ:St}{ρ:Nat->Nat}:∀{os:List (Nat×Ob)},ff σ ρ os->∀i o,(i,o)∈os->σ.ob (ρ i)=some (o.ren ρ)
 |[],_,i,o,h=>by simp at h
 | (d,v)::os,h,i,o,hm=>by
   rcases AS.1 hm with e|hm
   ·cases e;exact h.1
   ·exact dV h.2 i o hm
theorem kL:∀{os:List (Nat×Ob)}{i:Nat},i∈os.map (·.1)->∃o,ax os i=some o
 |[],_,h=>by simp at h
 | (d,v)::os,i,h=>by
   simp only[ax];cases hb:Nat.beq i d with
   |true=>exact⟨v,O⟩
   | false=>
     simp only[bL,AS]at h;rcases h with e|h
     ·subst e;simp at hb
     ·simpa using kL h
section
variable {C:Ctx}{n:Nat}{σ:St}
theorem p8{f:FuncId}{args:List V}{os:List (Nat×Ob)}{k':Nat}{Q:V->(Nat->Option Ob)->Prop}{K:St->Prop}{dst:Option Tmp}(ids:List Nat)(base:Nat)
  (ha:V.allL (okR ids.length 0) args=true) (hos:os.map (·.1)=(List.range ids.length).map (big+ ·)) (hob:os.all (fun p=>p.2.all (okR ids.length 0))=true) (hobs:ff σ (dH ids base) os)
  (hnd:ids.Nodup) (hav:(nwO base k').all σ.av=true) (hf:FnO C.P f ids.length k' args os Q)
  (hk:∀v ob',Q v ob'->K (σ.app dst ⟨v.ren (dH ids base),wrO ids base k' ob',nwO base k'⟩))
  {a:Act} {w:World} {m:Gm} {R:Nat->Prop} (hw:SW C n σ a w m R) {us:List Value} (hus:RelL w m σ.av R (V.renL (dH ids base) args) us):
  Calls C.P f us.toArray w fun e w'=>∃u,e= .returned u/\∃σ',K σ'/\SJ C n σ' (a.put dst u) w':=by
 have ρb:∀j,dH ids base (big+j)=ids.getD j 0:=fun j=>by
  have:Nat.ble big (big+j)=true:=RI (RD _ _);simp only[dH,this,Qd,Nat.add_sub_cancel_left]
 have ρj:∀(j id:Nat),ids[j]? =some id->dH ids base (big+j)=id:=fun j id h=>by rw[ρb,Pk,h];rfl
 have ρn:∀i,i<big->dH ids base i=base+i:=fun i hi=>by
  have:Nat.ble big i=false:=by cases hb:Nat.ble big i;rfl;have:=Pp hb;omega
  simp only[dH,this,PE]
 have keyS:∀i o,ax os i=some o->∃j id:Nat,i=big+j/\ids[j]? =some id:=by
  intro i o h;have:i∈os.map (·.1):=IT.2 ⟨(i,o),bu h,O⟩;rw[hos]at this;obtain⟨j,hj,rfl⟩:=IT.1 this;have hj':j<ids.length:=by simpa using hj
  exact⟨j,ids[j],O,By hj'⟩
 have keyI:∀(j id:Nat),ids[j]? =some id->∃o,ax os (big+j)=some o:=by
  intro j id h;apply kL;rw[hos];exact IT.2 ⟨j,by simpa using(Pf.1 h).1,O⟩
 have obs:∀i o,ax os i=some o->σ.ob (dH ids base i)=some (o.ren (dH ids base)):=fun i o h=>dV hobs i o (bu h)
 have live:∀(j id:Nat),ids[j]? =some id->(∀o,ax os (big+j)=some o->(m id).isSome=o.real)/\σ.av id=false:=by
  intro j id h;refine⟨fun o ho=>?_,?_⟩
  ·have h1:=obs _ _ ho;rw[ρj j id h]at h1;rw[hw.hr.dom,h1];exact Ob.iF _ o
  obtain⟨o,ho⟩:=keyI j id h;have h1:=obs _ _ ho;rw[ρj j id h]at h1;cases hb:σ.av id
  ·rfl
  ·rw[hw.hr.free id hb]at h1;cases h1
 have nwav:∀i,i<k'->σ.av (base+i)=true:=fun i hi=>IN.1 hav _ (IT.2 ⟨i,by simpa using hi,O⟩)
 have nwids:∀i,i<k'->(base+i)∉ids:=fun i hi hmem=>by
  obtain⟨j,hj⟩:=Qr hmem;have:=(live j _ hj).2;rw[nwav i hi]at this;cases this
 have nwbig:∀i,i<k'->base+i<big:=fun i hi=>by
  rcases SZ (base+i) big with h|h
  ·exact h
  ·have:=hw.hr.res _ h;rw[nwav i hi]at this;cases this
 have okcase:∀i,okR ids.length k' i=true->(i<k'/\i<big/\dH ids base i=base+i)\/∃j id:Nat,i=big+j/\ids[j]? =some id:=by
  intro i hi;simp only[okR,PQ,sh]at hi;rcases hi with h|⟨h1,h2⟩
  ·have h:i<k':=by simpa[Rp]using h
   have hb:i<big:=by have:=nwbig i h;omega
   exact .inl ⟨h,hb,ρn i hb⟩
  ·have h1:=Pp h1;have h2:i<big+ids.length:=by simpa[Rp]using h2
   refine .inr ⟨i-big,ids[i-big]'Ts,Ts,By _⟩
 have okcase0:∀i,okR ids.length 0 i=true->∃j id:Nat,i=big+j/\ids[j]? =some id:=by
  intro i hi;simp only[okR,PQ,sh]at hi;rcases hi with h|⟨h1,h2⟩
  ·simp[Nat.blt]at h
  ·have h1:=Pp h1;have h2:i<big+ids.length:=by simpa[Rp]using h2
   exact⟨i-big,ids[i-big]'Ts,Ts,By _⟩
 let mc:Gm:=fun i=>if(ax os i).isSome then m (dH ids base i)else none
 have mcS:∀i x,mc i=some x->∃j id:Nat,i=big+j/\ids[j]? =some id/\m id=some x:=by
  intro i x h;simp only[mc]at h;split at h
  ·rename_i hs;obtain⟨o,ho⟩:=PB.1 hs;obtain⟨j,id,rfl,hj⟩:=keyS i o ho;rw[ρj j id hj]at h;exact⟨j,id,O,hj,h⟩
  ·cases h
 have mcI:∀(j id:Nat),ids[j]? =some id->mc (big+j)=m id:=by
  intro j id h;obtain⟨o,ho⟩:=keyI j id h;simp only[mc,ho,Option.isSome_some,Te,ρj j id h]
 have idsInj:∀(i j id:Nat),ids[i]? =some id->ids[j]? =some id->i=j:=by
  intro i j id h1 h2;have l1:=(Pf.1 h1).1;have l2:=(Pf.1 h2).1;have hp:=P6.1 hnd;have e1:=(Pf.1 h1).2;have e2:=(Pf.1 h2).2;rcases Nat.lt_trichotomy i j with h|h|h
  ·exact absurd (e1.trans e2.symm) (hp i j l1 l2 h)
  ·exact h
  ·exact absurd (e2.trans e1.symm) (hp j i l2 l1 h)
 have ownc:∀b,dj mc b->∃j id N:Nat,ids[j]? =some id/\m id=some (b,N):=by
  rintro b ⟨i,N,h⟩;obtain⟨j,id,_,hj,hx⟩:=mcS i _ h;exact⟨j,id,N,hj,hx⟩
 let RT0:RT w (dj mc):=⟨R,hw.hr.gi,fun b hb=>⟨hw.hr.rsz b hb,fun ho=>by obtain⟨j,id,N,_,hx⟩:=ownc b ho;exact(hw.hr.own id b N hx).2.1 hb⟩,[]⟩
 have hHRc:HR ⟨C.P,mc,w,dj mc,RT0⟩ mc R (ax os) (avK 0) w:=by
  refine⟨?_,?_,?_,?_,?_,hw.hr.rsz,fun b h=> .inl h,fun b h=>h,Fr.refl _ _,fun i x _ h=>h,fun i h=>cA h⟩
  ·intro i;simp only[mc];cases ho:ax os i with
   |none=>rfl
   | some o=>
     obtain⟨j,id,rfl,hj⟩:=keyS i o ho;rw[ρj j id hj];simpa[bE]using(live j id hj).1 o ho
  ·intro i hi;cases ho:ax os i with
   |none=>rfl
   | some o=>
     obtain⟨j,id,rfl,hj⟩:=keyS i o ho;have:=(J0 hi).2;omega
  ·intro i o b N h1 h2;obtain⟨j,id,rfl,hj,hx⟩:=mcS i _ h2;have h3:=obs _ _ h1;rw[ρj j id hj]at h3;have h4:=hw.hr.obj id _ b N h3 hx;refine h4.gl (dH ids base) (okR ids.length 0) ?_ ?_ ?_
   ·intro i' x hp hx';obtain⟨j',id',rfl,hj',hx''⟩:=mcS i' _ hx';rw[ρj j' id' hj'];exact hx''
   ·intro i' hp;obtain⟨j',id',rfl,_⟩:=okcase0 i' hp;exact cA (RD _ _)
   ·exact IN.1 hob (big+j,o) (bu h1)
  ·intro i j b N N' h1 h2;obtain⟨i',id,rfl,hi',hx⟩:=mcS i _ h1;obtain⟨j',id2,rfl,hj',hy⟩:=mcS j _ h2;have:=hw.hr.inj id id2 b N N' hx hy;subst this;rw[idsInj i' j' id hi' hj']
  ·intro i b N h1;obtain⟨j,id,rfl,hj,hx⟩:=mcS i _ h1;have:=hw.hr.own id b N hx;exact⟨this.1,this.2.1,.inl ⟨big+j,N,h1⟩⟩
 have hrel:RelL w mc (avK 0) R args us:=by
  refine hus.gl (dH ids base) (okR ids.length 0) ?_ ?_ _ _ ha
  ·intro i' x hp hx';obtain⟨j',id',rfl,hj',hx''⟩:=mcS i' _ hx';rw[ρj j' id' hj'];exact hx''
  ·intro i' hp;obtain⟨j',id',rfl,_⟩:=okcase0 i' hp;exact cA (RD _ _)
 refine(hf w mc RT0 us hHRc hrel).mono ?_;rintro e w' ⟨u,v,ob',m',R',rfl,hq,hva,hoba,hH,hrv⟩;refine⟨u,O,_,hk v ob' hq,?_⟩;have mobs:∀i,(m' i).isSome=true->okR ids.length k' i=true:=fun i hi=>by
  rw[hH.dom]at hi;obtain⟨o,ho⟩:∃o,ob' i=some o:=by
   cases e:ob' i with
   |none=>rw[e]at hi;cases hi
   |some o=>exact⟨o,O⟩
  exact(hoba i o ho).1
 let mn:Gm:=lkL (ids.zipIdx.map (fun p=>(p.1,m' (big+p.2)))++(List.range k').map (fun i=>(base+i,m' i))) m
 have zipn:∀{β:Type}(g h:Nat->β)(f:Nat->β),(∀(j id:Nat),ids[j]? =some id->lkL (ids.zipIdx.map (fun p=>(p.1,g p.2))++(List.range k').map (fun i=>(base+i,h i))) f id=g j)/\
   (∀i,i<k'->lkL (ids.zipIdx.map (fun p=>(p.1,g p.2))++(List.range k').map (fun i=>(base+i,h i))) f (base+i)=h i)/\
   (∀id,id∉ids->(∀i,i<k'->id≠base+i)->lkL (ids.zipIdx.map (fun p=>(p.1,g p.2))++(List.range k').map (fun i=>(base+i,h i))) f id=f id):=by
  intro β g h f;have hz:∀id,id∉ids->id∉(ids.zipIdx.map (fun p=>(p.1,g p.2))).map (·.1):=by
   intro id hid hmem;obtain⟨p,hp,rfl⟩:=IT.1 hmem;obtain⟨q,hq,rfl⟩:=IT.1 hp;obtain⟨q1,q2⟩:=q;have:=List.mem_zipIdx hq;simp only at hid;exact hid (by rw[this.2.2];exact ar _)
  refine⟨fun j id hj=>?_,fun i hi=>?_,fun id h1 h2=>?_⟩
  ·rw[rC];have:=Fi g (lkL ((List.range k').map (fun i=>(base+i,h i))) f) ids 0 j id hnd hj;simpa using this
  ·rw[rC,qG _ _ _ (hz _ (nwids i hi))];exact Fs h f base k' i hi
  ·rw[rC,qG _ _ _ (hz _ h1),qG];intro hmem;obtain⟨p,hp,hpe⟩:=IT.1 hmem;obtain⟨i,hi,rfl⟩:=IT.1 hp;exact h2 i (by simpa using hi) hpe.symm
 obtain⟨mnA,mnB,mnC⟩:=zipn (fun j=>m' (big+j)) m' m;obtain⟨obA,obB,obC⟩:=zipn (fun j=>(ob' (big+j)).map (Ob.ren (dH ids base))) (fun i=>(ob' i).map (Ob.ren (dH ids base))) σ.ob;have obE:(obL (wrO ids base k' ob') σ.ob)=lkL (ids.zipIdx.map (fun p=>(p.1,(ob' (big+p.2)).map (Ob.ren (dH ids base))))++(List.range k').map (fun i=>(base+i,(ob' i).map (Ob.ren (dH ids base))))) σ.ob:=Jz _ _;have tri:∀id:Nat,(∃j:Nat,ids[j]? =some id)\/(∃i,i<k'/\id=base+i)\/(id∉ids/\∀i,i<k'->id≠base+i):=by
  intro id;by_cases h1:id∈ids
  ·exact .inl (Qr h1)
  ·by_cases h2:∃i,i<k'/\id=base+i
   ·exact .inr (.inl h2)
   ·exact .inr (.inr ⟨h1,fun i hi e=>h2 ⟨i,hi,e⟩⟩)
 have kept:∀(j id:Nat)(x:Nat×Nat),ids[j]? =some id->m' (big+j)=some x->m id=some x:=fun j id x hj h=>by
  have:=hH.keep (big+j) x (RD _ _) h;rw[<-mcI j id hj];exact this
 have hblk:∀b,b<w.heap.size->¬dj mc b->w'.heap[b]? =w.heap[b]? :=fun b h1 h2=>hH.frame.block b h1 h2
 have hR:∀b,R b->R' b/\w'.heap[b]? =w.heap[b]? :=fun b hb=>⟨hH.r0 b hb,hblk b (hw.hr.rsz b hb) (fun ho=>by
  obtain⟨j,id,N,hj,hx⟩:=ownc b ho;exact(hw.hr.own id b N hx).2.1 hb)⟩
 have avn:∀id,σ.av id=false->avL (nwO base k') σ.av id=false:=fun id h=>by rw[jI,h];rfl
 have avnew:∀i,i<k'->avL (nwO base k') σ.av (base+i)=false:=fun i hi=>by
  have:inL (base+i) (nwO base k')=true:=cW.2 (IT.2 ⟨i,by simpa using hi,O⟩);rw[jI,this];simp
 have hm:∀id x,σ.av id=false->mn id=some x->m id=some x:=by
  intro id x hav' hx;rcases tri id with⟨j,hj⟩|⟨i,hi,rfl⟩|⟨h1,h2⟩
  ·rw[show mn id=m' (big+j)from mnA j id hj]at hx;exact kept j id x hj hx
  ·rw[nwav i hi]at hav';cases hav'
  ·rwa [show mn id=m id from mnC id h1 h2]at hx
 have rm:∀i x,okR ids.length k' i=true->mn (dH ids base i)=some x->m' i=some x:=by
  intro i x hp hx;rcases okcase i hp with⟨h1,h2,h3⟩|⟨j,id,rfl,hj⟩
  ·rw[h3,show mn (base+i)=m' i from mnB i h1]at hx;exact hx
  ·rw[ρj j id hj,show mn id=m' (big+j)from mnA j id hj]at hx;exact hx
 have ra:∀i,okR ids.length k' i=true->avK k' i=false->avL (nwO base k') σ.av (dH ids base i)=false:=by
  intro i hp _;rcases okcase i hp with⟨h1,h2,h3⟩|⟨j,id,rfl,hj⟩
  ·rw[h3];exact avnew i h1
  ·rw[ρj j id hj];exact avn id (live j id hj).2
 have notOwn:∀id b N,m id=some (b,N)->id∉ids->¬dj mc b:=by
  intro id b N hx hid ho;obtain⟨j,id2,N2,hj,hy⟩:=ownc b ho;have:=hw.hr.inj id id2 b N N2 hx hy;subst this;exact hid (Qv hj)
 have calleeOwn:∀i b N,m' i=some (b,N)->b<w'.heap.size/\¬R' b/\(C.F b\/C.w0.heap.size<=b)/\(dj mc b\/w.heap.size<=b):=by
  intro i b N hx;obtain⟨h1,h2,h3⟩:=hH.own i b N hx;refine⟨h1,h2,?_,h3⟩;rcases h3 with h3|h3
  ·obtain⟨j,id,N2,hj,hy⟩:=ownc b h3;exact(hw.hr.own id b N2 hy).2.2
  ·exact .inr (IS hw.hr.frame.size h3)
 have mix:∀i b N id N',m' i=some (b,N)->m id=some (b,N')->id∉ids->False:=by
  intro i b N id N' h1 h2 hid;rcases(calleeOwn i b N h1).2.2.2 with h|h
  ·exact notOwn id b N' h2 hid h
  ·have:=(hw.hr.own id b N' h2).1;omega
 have hHn:HR C mn R' (obL (wrO ids base k' ob') σ.ob) (avL (nwO base k') σ.av) w':=by
  rw[obE];refine⟨?_,?_,?_,?_,?_,hH.rsz,?_,fun b h=>hH.r0 b (hw.hr.r0 b h),?_,?_,fun id h=>avn id (hw.hr.res id h)⟩
  ·intro id;rcases tri id with⟨j,hj⟩|⟨i,hi,rfl⟩|⟨h1,h2⟩
   ·rw[obA j id hj,show mn id=m' (big+j)from mnA j id hj,sx];exact hH.dom _
   ·rw[obB i hi,show mn (base+i)=m' i from mnB i hi,sx];exact hH.dom _
   ·rw[obC id h1 h2,show mn id=m id from mnC id h1 h2];exact hw.hr.dom id
  ·intro id hid;rcases tri id with⟨j,hj⟩|⟨i,hi,rfl⟩|⟨h1,h2⟩
   ·rw[avn id (live j id hj).2]at hid;cases hid
   ·rw[avnew i hi]at hid;cases hid
   ·rw[obC id h1 h2];refine hw.hr.free id ?_;rw[jI]at hid;simp only[sh]at hid;exact hid.1
  ·intro id o b N h1 h2;rcases tri id with⟨j,hj⟩|⟨i,hi,rfl⟩|⟨h3,h4⟩
   ·rw[obA j id hj]at h1;rw[show mn id=m' (big+j)from mnA j id hj]at h2;obtain⟨o',ho',rfl⟩:=Rx.1 h1;exact(hH.obj _ o' b N ho' h2).ren (dH ids base) (okR ids.length k') rm ra (hoba _ o' ho').2
   ·rw[obB i hi]at h1;rw[show mn (base+i)=m' i from mnB i hi]at h2;obtain⟨o',ho',rfl⟩:=Rx.1 h1;exact(hH.obj _ o' b N ho' h2).ren (dH ids base) (okR ids.length k') rm ra (hoba _ o' ho').2
   ·rw[obC id h3 h4]at h1;rw[show mn id=m id from mnC id h3 h4]at h2;exact(hw.hr.obj id o b N h1 h2).mono hR hm avn (hblk b (hw.hr.own id b N h2).1 (notOwn id b N h2 h3))
  ·intro i j b N N' h1 h2;rcases tri i with⟨i',hi'⟩|⟨i',hi',rfl⟩|⟨h3,h4⟩<;>rcases tri j with⟨j',hj'⟩|⟨j',hj',rfl⟩|⟨h5,h6⟩
   ·rw[show mn i=m' (big+i')from mnA i' i hi']at h1;rw[show mn j=m' (big+j')from mnA j' j hj']at h2;have:=hH.inj _ _ b N N' h1 h2;have:i'=j':=Ts;subst this;rw[hi']at hj';exact Ru hj'
   ·rw[show mn i=m' (big+i')from mnA i' i hi']at h1;rw[show mn (base+j')=m' j' from mnB j' hj']at h2;have:=hH.inj _ _ b N N' h1 h2;have:=nwbig j' hj';omega
   ·rw[show mn i=m' (big+i')from mnA i' i hi']at h1;rw[show mn j=m j from mnC j h5 h6]at h2;exact(mix _ b N j N' h1 h2 h5).elim
   ·rw[show mn (base+i')=m' i' from mnB i' hi']at h1;rw[show mn j=m' (big+j')from mnA j' j hj']at h2;have:=hH.inj _ _ b N N' h1 h2;have:=nwbig i' hi';omega
   ·rw[show mn (base+i')=m' i' from mnB i' hi']at h1;rw[show mn (base+j')=m' j' from mnB j' hj']at h2;rw[hH.inj _ _ b N N' h1 h2]
   ·rw[show mn (base+i')=m' i' from mnB i' hi']at h1;rw[show mn j=m j from mnC j h5 h6]at h2;exact(mix _ b N j N' h1 h2 h5).elim
   ·rw[show mn i=m i from mnC i h3 h4]at h1;rw[show mn j=m' (big+j')from mnA j' j hj']at h2;exact(mix _ b N' i N h2 h1 h3).elim
   ·rw[show mn i=m i from mnC i h3 h4]at h1;rw[show mn (base+j')=m' j' from mnB j' hj']at h2;exact(mix _ b N' i N h2 h1 h3).elim
   ·rw[show mn i=m i from mnC i h3 h4]at h1;rw[show mn j=m j from mnC j h5 h6]at h2;exact hw.hr.inj i j b N N' h1 h2
  ·intro id b N h1;rcases tri id with⟨j,hj⟩|⟨i,hi,rfl⟩|⟨h3,h4⟩
   ·rw[show mn id=m' (big+j)from mnA j id hj]at h1;have:=calleeOwn _ b N h1;exact⟨this.1,this.2.1,this.2.2.1⟩
   ·rw[show mn (base+i)=m' i from mnB i hi]at h1;have:=calleeOwn _ b N h1;exact⟨this.1,this.2.1,this.2.2.1⟩
   ·rw[show mn id=m id from mnC id h3 h4]at h1;obtain⟨h5,h6,h7⟩:=hw.hr.own id b N h1;refine⟨Ps h5 hH.frame.size,fun hb=>?_,h7⟩;rcases hH.rfr b hb with h|h|h
    ·exact h6 h
    ·have h:w.heap.size<=b:=h;omega
    ·exact notOwn id b N h1 h3 h
  ·intro b hb;rcases hH.rfr b hb with h|h|h
   ·exact hw.hr.rfr b h
   ·exact .inr (.inl (IS hw.hr.frame.size h))
   ·obtain⟨j,id,N,hj,hx⟩:=ownc b h;rcases(hw.hr.own id b N hx).2.2 with h|h
    ·exact .inr (.inr h)
    ·exact .inr (.inl h)
  ·refine⟨hH.frame.os.trans hw.hr.frame.os,hH.frame.tape.trans hw.hr.frame.tape,hH.frame.output.trans hw.hr.frame.output,IS hw.hr.frame.size hH.frame.size,fun k hk hF=>?_⟩;rw[hblk k (Ps hk hw.hr.frame.size) (fun ho=>by
    obtain⟨j,id,N,hj,hx⟩:=ownc k ho;rcases(hw.hr.own id k N hx).2.2 with h|h
    ·exact hF h
    ·omega)]
   exact hw.hr.frame.block k hk hF
  ·intro id x hid hx;rcases tri id with⟨j,hj⟩|⟨i,hi,rfl⟩|⟨h3,h4⟩
   ·rw[show mn id=m' (big+j)from mnA j id hj]at hx;exact hw.hr.keep id x hid (kept j id x hj hx)
   ·have:=nwbig i hi;omega
   ·rw[show mn id=m id from mnC id h3 h4]at hx;exact hw.hr.keep id x hid hx
 rw[O1];exact⟨mn,R',SW.put (hw.world hHn hR hm avn) dst (hrv.ren (dH ids base) (okR ids.length k') rm ra _ _ hva)⟩
end
section
variable {C:Ctx}{n:Nat}{σ:St}{dst:Option Tmp}{ty:TypeId}{ts:Array TypeId}{pos:String}{after:Array Edge}{gd:Option (Nat×Bool)}
theorem bM{f:FuncId}{xs:Array Operand}{args:List V}{os:List (Nat×Ob)}{k':Nat}{Q:V->(Nat->Option Ob)->Prop}{K:St->Prop}(ids:List Nat)(base:Nat)(hc:cu C.P f)(hargs:xs.toList.map (σ.ev n)=V.renL (dH ids base) args)
  (ha:V.allL (okR ids.length 0) args=true) (hos:os.map (·.1)=(List.range ids.length).map (big+ ·)) (hob:os.all (fun p=>p.2.all (okR ids.length 0))=true) (hobs:ff σ (dH ids base) os)
  (hnd:ids.Nodup) (hav:(nwO base k').all σ.av=true) (hf:FnO C.P f ids.length k' args os Q)
  (hk:∀v ob',Q v ob'->K (σ.app dst ⟨v.ren (dH ids base),wrO ids base k' ob',nwO base k'⟩)):
  OJ C n ⟨dst,.call { callee:= .value (.func f),args:=xs,argTypes:=ts },ty,pos,after,gd⟩ K σ:=by
 rintro a w Q' ⟨m,R,hw⟩;unfold Oper.wp;rw[kM hc];have hus:=hw.evs xs.toList;rw[hargs]at hus;have:=p8 (dst:=dst) ids base ha hos hob hobs hnd hav hf hk hw hus;have e:(xs.toList.map a.eval).toArray=xs.map a.eval:=by rw[<-Array.toList_map,Array.toArray_toList]
 rw[e]at this;refine Calls.mono this ?_;rintro e w' ⟨u,rfl,h⟩;exact h
theorem sD{P:Program}{f:FuncId}(hc:cu P f)(xs:Array Operand){y:Operand}{a:Act}{fs cs:List Value}(hy:a.eval y= .func (.func f) fs.toArray cs.toArray)(w:World):
  (execOp a.eval ⟨dst,.call { callee:= .value y,args:=xs,argTypes:=ts },ty,pos,after,gd⟩).run P w= .ok (.enter f (fs++xs.toList.map a.eval++cs).toArray) w:=by
 have e:(fs.toArray++xs.map a.eval++cs.toArray)=(fs++xs.toList.map a.eval++cs).toArray:=Tw;simp[execOp,resolve,Deferred.ofValue,hy,invoke];rw[show(fs++(List.map a.eval xs.toList++cs)).toArray=fs.toArray++(xs.map a.eval++cs.toArray) by simp];exact hc _ _
theorem Eh{f:FuncId}{xs:Array Operand}{y:Operand}{fs cs:List V}{args:List V}{os:List (Nat×Ob)}{k':Nat}{Q:V->(Nat->Option Ob)->Prop}{K:St->Prop}(ids:List Nat)(base:Nat)(hc:cu C.P f)(hy:σ.ev n y= .fn (.func f) fs cs)(hargs:fs++xs.toList.map (σ.ev n)++cs=V.renL (dH ids base) args)
  (ha:V.allL (okR ids.length 0) args=true) (hos:os.map (·.1)=(List.range ids.length).map (big+ ·)) (hob:os.all (fun p=>p.2.all (okR ids.length 0))=true) (hobs:ff σ (dH ids base) os)
  (hnd:ids.Nodup) (hav:(nwO base k').all σ.av=true) (hf:FnO C.P f ids.length k' args os Q)
  (hk:∀v ob',Q v ob'->K (σ.app dst ⟨v.ren (dH ids base),wrO ids base k' ob',nwO base k'⟩)):
  OJ C n ⟨dst,.call { callee:= .value y,args:=xs,argTypes:=ts },ty,pos,after,gd⟩ K σ:=by
 rintro a w Q' ⟨m,R,hw⟩;have hv:=hw.ev y;rw[hy]at hv;simp only[Rel]at hv;obtain⟨us,vs,he,h1,h2⟩:=hv;unfold Oper.wp;rw[sD hc xs he];have hus:=(h1.append (hw.evs xs.toList)).append h2;rw[hargs]at hus;refine Calls.mono (p8 (dst:=dst) ids base ha hos hob hobs hnd hav hf hk hw hus) ?_;rintro e w' ⟨u,rfl,h⟩;exact h
theorem Ih{f:FuncId}{xs:Array Operand}{y:Operand}{fs cs ps:List PV}{Q:PV->Prop}{K:St->Prop}(hc:cu C.P f)(hy:σ.ev n y= .pv (.fn (.func f) fs cs))(hf:FnP C.P f (fs++ps++cs) Q)(hargs:(V.args (fun _=>none) (xs.toList.map (σ.ev n))).map PV.fgA=some ps)(hk:∀v,Q v->K (σ.put dst (.pv v))):
  OJ C n ⟨dst,.call { callee:= .value y,args:=xs,argTypes:=ts },ty,pos,after,gd⟩ K σ:=by
 rintro a w Q' ⟨m,R,hw⟩;have hv:=hw.pv hy;simp only[RelP]at hv;obtain⟨us,vs,he,h1,h2⟩:=hv;unfold Oper.wp;rw[sD hc xs he];have hrel:RelPL w R ps (xs.toList.map a.eval):=by
  have h0:SW C n ⟨σ.sl,fun _=>none,σ.av⟩ a w (fun _=>none) R:=by
   refine⟨⟨fun _=>rfl,fun _ _=>rfl,fun _ _ _ _ h=>(by cases h),fun _ _ _ _ _ h=>(by cases h),fun _ _ _ h=>(by cases h),hw.hr.rsz,hw.hr.rfr,hw.hr.r0,hw.hr.frame,fun _ _ _ h=>(by cases h),hw.hr.res⟩,hw.df,hw.sz,fun t ht=>(hw.sl t ht).mono (fun b h=>⟨h,rfl⟩) (fun _ _ _ e=>by cases e) (fun _ e=>e)⟩
  obtain⟨ps0,hargs0,rfl⟩:=Rx.1 hargs;have h1:=(h0.args (h0.evs xs.toList) hargs0).fgA;exact h1.mono fun b hb=>⟨hb.elim id (fun⟨_,_,h⟩=>by cases h),rfl⟩
 refine Calls.mono (hf w R _ hw.hr.gi hw.hr.rsz ((h1.append hrel).append h2)) ?_;rintro e w' ⟨u,v,rfl,hq,hb,hr⟩;exact⟨_,hk v hq,m,_,(hw.called hb).put dst (by simpa only[Rel]using hr)⟩
theorem gE{f:FuncId}{xs:Array Operand}{y:Operand}{fs cs ps:List PV}{r:PV}(hc:cu C.P f)(hy:σ.ev n y= .pv (.fn (.func f) fs cs))(hf:FnP C.P f (fs++ps++cs) (· =r))(hargs:(V.args (fun _=>none) (xs.toList.map (σ.ev n))).map PV.fgA=some ps):
  XJ C n ⟨dst,.call { callee:= .value y,args:=xs,argTypes:=ts },ty,pos,after,gd⟩ σ ⟨.pv r,[],[]⟩:=
 Ih hc hy hf hargs (by rintro v rfl;exact(St.gA σ dst _).symm)
end
end
section
def FnM(P:Program)(f:FuncId)(T:TypeId)(cs:List PV)(args:List PV)(Q:PV->List PV->Prop):Prop:=
 FnO P f 1 0 (.ptr big 0::args.map .pv) [(big,.mix T (cs.map .pv))] fun v ob'=>∃r cs',v= .pv r/\ob'=ax [(big,.mix T (cs'.map .pv))]/\Q r cs'
theorem sk(ρ:Nat->Nat):∀ps:List PV,V.renL ρ (ps.map V.pv)=ps.map V.pv
 |[]=>rfl
 |p::ps=>by simp[V.renL,V.ren,sk ρ ps]
theorem lz(q:Nat->Bool):∀ps:List PV,V.allL q (ps.map V.pv)=true
 |[]=>rfl
 |p::ps=>by simp[V.allL,V.all,lz q ps]
theorem DA(k:Nat):∀ps:List PV,V.okL k (ps.map V.pv)=true
 |[]=>rfl
 |p::ps=>by simp[V.okL,V.okA,DA k ps]
def retM(n t:Nat)(T:TypeId)(Q:PV->List PV->Prop):Exit->St->Prop
 | .ret,σ| .normal,σ=>∃r cs',σ.ev n (.tmp t)= .pv r/\σ.ob big=some (.mix T (cs'.map .pv))/\Q r cs'
 |_,_=>False
theorem FnM.of{P:Program}{f:FuncId}{fn:Func}{c:Code}{n t:Nat}{T:TypeId}{cs args:List PV}{Q:PV->List PV->Prop}(hf:P.funcs[f]? =some fn)(hb:fn.body=some c)(hn:fn.ntmps=n)(hna:args.length+1<=n)(hres:fn.results.toList=[.tmp t])(ht:t<n)
  (h:∀m0 w0 F R0,AW ⟨P,m0,w0,F,R0⟩ n c (retM n t T Q) (mkS ((0,.ptr big 0)::cF 1 (args.map .pv)) [(big,.mix T (cs.map .pv))] 0)):FnM P f T cs args Q:=by
 refine FnO.of hf hb hn (by simpa using hna) fun m0 w0 F R0=>?_
 refine(h m0 w0 F R0).mono ?_;have hlt:Nat.blt t n=true:=by simpa[Rp]using ht
 have key:∀s:St,(∃r cs',s.ev n (.tmp t)= .pv r/\s.ob big=some (.mix T (cs'.map .pv))/\Q r cs')->∃l os' vs,s.le (mkS l os' 0)/\yn n (mkS l os' 0) fn.results.toList=some vs/\V.allL (okR 1 0) vs=true/\os'.all (fun p=>okR 1 0 p.1&&p.2.all (okR 1 0))=true/\∃r cs',cC vs= .pv r/\ax os'=ax [(big,.mix T (cs'.map .pv))]/\Q r cs':=by
  rintro s ⟨r,cs',h1,h2,h3⟩;simp only[St.ev,hlt,Qd]at h1;refine⟨[(t,.pv r)],[(big,.mix T (cs'.map .pv))],[.pv r],OU ⟨h1,TB⟩ ⟨h2,TB⟩ O ?_,?_,O,?_,r,cs',O,O,h3⟩
  ·simp only[RB,To,Sf,Ob.okA,DA];rfl
  ·rw[hres];simp only[yn,St.ev,hlt,Qd,mkS,look,Sn]
  ·simp only[RB,To,Sf,Ob.all,lz];rfl
 intro ex s hq;cases ex with
 |normal=>exact key s hq
 |ret=>exact key s hq
 |_=>exact hq.elim
section
variable {C:Ctx}{n:Nat}{σ:St}{dst:Option Tmp}{ty:TypeId}{ts:Array TypeId}{pos:String}{after:Array Edge}{gd:Option (Nat×Bool)}
theorem kr{f:FuncId}{xs:Array Operand}{ps:List PV}{T:TypeId}{id:Nat}{cs:List PV}{Q:PV->List PV->Prop}{K:St->Prop}(hc:cu C.P f)(hf:FnM C.P f T cs ps Q)(hargs:xs.toList.map (σ.ev n)= .ptr id 0::ps.map .pv)(ho:σ.ob id=some (.mix T (cs.map .pv)))(hk:∀r cs',Q r cs'->K (σ.app dst ⟨.pv r,[(id,some (.mix T (cs'.map .pv)))],[]⟩)):
  OJ C n ⟨dst,.call { callee:= .value (.func f),args:=xs,argTypes:=ts },ty,pos,after,gd⟩ K σ:=by
 refine bM (k':=0) [id] 0 hc (args:= .ptr big 0::ps.map .pv) (os:=[(big,.mix T (cs.map .pv))]) ?_ ?_ O ?_ ?_ Tw O hf ?_
 ·rw[hargs];simp only[V.renL,V.ren,sk];rfl
 ·simp only[V.allL,V.all,lz];rfl
 ·simp only[RB,To,Sf,Ob.all,lz]
 ·refine⟨?_,TB⟩;have:dH [id] 0 big=id:=rfl;rw[this,ho];simp only[Ob.ren,sk]
 ·rintro v ob' ⟨r,cs',rfl,rfl,hq⟩;have:=hk r cs' hq;have e:wrO [id] 0 0 (ax [(big,.mix T (cs'.map .pv))])=[(id,some (.mix T (cs'.map .pv)))]:=by
   have e1:ax [(big,Ob.mix T (cs'.map .pv))] (big+0)=some (.mix T (cs'.map .pv)):=by simp[ax]
   simp only[wrO,Ti,List.zipIdx_nil,bL,Qh,List.range_zero,PZ,e1,Ra,Ob.ren,sk]
  rw[e];exact this
theorem bN{f:FuncId}{xs:Array Operand}{ps:List PV}{T:TypeId}{id:Nat}{cs cs':List PV}{r:PV}(hc:cu C.P f)(hf:FnM C.P f T cs ps (fun v c=>v=r/\c=cs'))(hargs:xs.toList.map (σ.ev n)= .ptr id 0::ps.map .pv)(ho:σ.ob id=some (.mix T (cs.map .pv))):XJ C n ⟨dst,.call { callee:= .value (.func f),args:=xs,argTypes:=ts },ty,pos,after,gd⟩ σ ⟨.pv r,[(id,some (.mix T (cs'.map .pv)))],[]⟩:=
 kr hc hf hargs ho (by rintro _ _ ⟨rfl,rfl⟩;rfl)
end
section
variable {C:Ctx}{n:Nat}{σ:St}{dst:Option Tmp}{ty t:TypeId}{pos:String}{after:Array Edge}{gd:Option (Nat×Bool)}{x y:Operand}
theorem XJ.cast{o:Oper}{v v':V}{wr:List (Nat×Option Ob)}{nw:List Nat}(h:XJ C n o σ ⟨v,wr,nw⟩)(e:v=v'):XJ C n o σ ⟨v',wr,nw⟩:=e▸h
theorem dq{T e:TypeId}{s k:Nat}{kh:IntKind}{ih:Int}{bn:Option Bool}{cs:List PV}(h:Nat)(hT:C.P.underlying T=some (.slice e))(hs:bQ C.P e s)(hx:σ.ev n x= .pv (.sl bn k cs))(hy:σ.ev n y= .pv (.int kh ih))(hi:ih=(h:Int))(h2:h<=k)(hcs:cs.length=k*s):
  XJ C n ⟨dst,.slice T x none (some y) none,ty,pos,after,gd⟩ σ ⟨.pv (.sl bn h (cs.take (h*s))),[],[]⟩:=by
 have:=yI (C:=C) (n:=n) (σ:=σ) (dst:=dst) (ty:=ty) (pos:=pos) (after:=after) (gd:=gd) (x:=x) (kl:= .i64) (il:=0) (kh:=kh) (ih:=ih) none (some y) 0 h hT hs hx Tw (fun _=>rfl) (by rintro _ ⟨⟩;exact⟨hy,hi⟩) Tw (cd _) h2 hcs;simpa using this
theorem ub{T e:TypeId}{s k:Nat}{kl:IntKind}{il:Int}{bn:Option Bool}{cs:List PV}(l:Nat)(hT:C.P.underlying T=some (.slice e))(hs:bQ C.P e s)(hx:σ.ev n x= .pv (.sl bn k cs))(hy:σ.ev n y= .pv (.int kl il))(hi:il=(l:Int))(h2:l<=k)(hcs:cs.length=k*s):
  XJ C n ⟨dst,.slice T x (some y) none none,ty,pos,after,gd⟩ σ ⟨.pv (.sl bn (k-l) (cs.drop (l*s))),[],[]⟩:=by
 have:=yI (C:=C) (n:=n) (σ:=σ) (dst:=dst) (ty:=ty) (pos:=pos) (after:=after) (gd:=gd) (x:=x) (kl:=kl) (il:=il) (kh:= .i64) (ih:=0) (some y) none l k hT hs hx (by rintro _ ⟨⟩;exact⟨hy,hi⟩) Tw Tw (fun _=>rfl) h2 (BY _) hcs;have e:(cs.drop (l*s)).take ((k-l)*s)=cs.drop (l*s):=aX (by simp[hcs,Nat.sub_mul]);rw[e]at this;exact this
theorem Ac{e T2:TypeId}{z:Value}{size bytes k id id2:Nat}{cs news:List PV}(id':Nat)(he:ElemIs C.P t e z size bytes)(hs:σ.ev n x= .osl id size k)(ho:σ.ob id=some (.cells e cs))(hcs:cs.length=k*size)
  (hy:σ.ev n y= .osl id2 size 1) (ho2:σ.ob id2=some (.cells T2 news)) (hl:news.length=size) (hlf:news.all PV.leaf=true) (hb:k+1<=1000000000) (hid:σ.av id'=true):
  XJ C n ⟨dst,.call { callee:= .builtin .append,args:= #[x,y],argTypes:= #[t,t] },ty,pos,after,gd⟩ σ ⟨.osl id' size (k+1),[(id',some (.cells e (cs++news))),(id,none)],[id']⟩:=
 eY id' he hs ho hcs (.inr ⟨id2,size,T2,news,hy,ho2,(aX Ts).symm⟩) Ts (by simpa using hlf) hb hid
theorem vA{e T2:TypeId}{z:Value}{size bytes id2:Nat}{news:List PV}(id':Nat)(he:ElemIs C.P t e z size bytes)(hs:σ.ev n x= .pv (.sl (some true) 0 []))
  (hy:σ.ev n y= .osl id2 size 1) (ho2:σ.ob id2=some (.cells T2 news)) (hl:news.length=size) (hlf:news.all PV.leaf=true) (hid:σ.av id'=true):
  XJ C n ⟨dst,.call { callee:= .builtin .append,args:= #[x,y],argTypes:= #[t,t] },ty,pos,after,gd⟩ σ ⟨.osl id' size 1,[(id',some (.cells e news))],[id']⟩:=
 pR id' he hs (.inr ⟨id2,size,T2,news,hy,ho2,(aX Ts).symm⟩) Ts (by simpa using hlf) Ts Ts hid
end
def gR(ids:List Nat)(i:Nat):Nat:=bif Nat.ble big i then i else ids.getD i 0
def p7(σ:St)(ρ:Nat->Nat):List (Nat×V)->Prop
 |[]=>True
 |(t,v)::l=>σ.sl t=v.ren ρ/\p7 σ ρ l
theorem ja{σ:St}{ρ:Nat->Nat}:∀{l:List (Nat×V)},p7 σ ρ l->∀t,look l t= .pv .any\/σ.sl t=(look l t).ren ρ
 |[],_,_=> .inl O
 | (d,v)::l,h,t=>by
   simp only[look];cases hb:Nat.beq t d with
   |true=>have:=aI hb;subst this;exact .inr h.1
   |false=>simpa using ja h.2 t
mutual
theorem V.gT(k:Nat):∀v:V,v.okA k=true->v.all (fun i=>Nat.blt i k||Nat.ble big i)=true
 | .pv _,_=>rfl
 | .ptr _ _,h=>by simpa only[V.okA,V.all]using h
 | .osl _ _ _,h=>by simpa only[V.okA,V.all]using h
 | .tsl _ _ _,h=>by simpa only[V.okA,V.all]using h
 | .gsl _ _ _,h=>by simpa only[V.okA,V.all]using h
 | .map _,h=>by simpa only[V.okA,V.all]using h
 | .agg cs,h=>by simp only[V.okA]at h;simp only[V.all];exact V.okL_all k cs h
 | .tup cs,h=>by simp only[V.okA]at h;simp only[V.all];exact V.okL_all k cs h
 | .fn _ a b,h=>by simp only[V.okA,sh]at h;simp only[V.all,sh];exact⟨V.okL_all k a h.1,V.okL_all k b h.2⟩
theorem V.okL_all(k:Nat):∀vs:List V,V.okL k vs=true->V.allL (fun i=>Nat.blt i k||Nat.ble big i) vs=true
 |[],_=>rfl
 |c::cs,h=>by simp only[V.okL,sh]at h;simp only[V.allL,sh];exact⟨V.gT k c h.1,V.okL_all k cs h.2⟩
end
theorem Ob.gT(k:Nat){o:Ob}(h:o.okA k=true):o.all (fun i=>Nat.blt i k||Nat.ble big i)=true:=by
 cases o with
 |cells _ _=>rfl
 |gro _ _=>rfl
 |mp _ _=>rfl
 |it _ _=>rfl
 |fro _ _=>rfl
 |mi _ _ _=>rfl
 |mix _ cs=>exact V.okL_all k cs h
theorem OV{σ:St}{l:List (Nat×V)}{os:List (Nat×Ob)}(ids:List Nat)(hl:p7 σ (gR ids) l)(ho:ff σ (gR ids) os)(h1:l.all (fun p=>p.2.okA ids.length)=true)(h2:os.all (fun p=>(Nat.blt p.1 ids.length||Nat.ble big p.1)&&p.2.okA ids.length)=true)
  (hnd:ids.Nodup) (hbg:ids.all (fun i=>Nat.blt i big)=true):σ.le (mkS l os ids.length):=by
 rintro C n a w ⟨m,R,hw⟩;have key:∀i o,ax os i=some o->σ.ob (gR ids i)=some (o.ren (gR ids))/\(Nat.blt i ids.length||Nat.ble big i)=true/\o.okA ids.length=true:=by
  intro i o h;have hm:=bu h;have:=IN.1 h2 _ hm;simp only[sh]at this;exact⟨dV ho i o hm,this.1,this.2⟩
 let m2:Gm:=fun i=>if(ax os i).isSome then m (gR ids i)else none
 have sub:∀i x,m2 i=some x->m (gR ids i)=some x/\(Nat.blt i ids.length||Nat.ble big i)=true:=fun i x h=>by
  simp only[m2]at h;split at h
  ·rename_i hs;obtain⟨o,hoo⟩:=PB.1 hs;exact⟨h,(key i o hoo).2.1⟩
  ·cases h
 have ρinj:∀i j,(Nat.blt i ids.length||Nat.ble big i)=true->(Nat.blt j ids.length||Nat.ble big j)=true->gR ids i=gR ids j->i=j:=by
  intro i j hi hj e;have small:∀q,Nat.blt q ids.length=true->Nat.ble big q=false->∃h:q<ids.length,gR ids q=ids[q]/\ids[q]<big:=by
   intro q hq hb;have h:q<ids.length:=by simpa[Rp]using hq
   refine⟨h,by simp[gR,hb,Pk,h],?_⟩;have:=IN.1 hbg ids[q] (ar h);simpa[Rp]using this
  have large:∀q,Nat.ble big q=true->gR ids q=q:=fun q hq=>by simp[gR,hq]
  cases hbi:Nat.ble big i with
  | true=>
    cases hbj:Nat.ble big j with
    |true=>rw[large i hbi,large j hbj]at e;exact e
    | false=>
      rw[hbj,Q5]at hj;obtain⟨h,e2,h3⟩:=small j hj hbj;rw[large i hbi,e2]at e;have:=Pp hbi;omega
  | false=>
    rw[hbi,Q5]at hi;obtain⟨h,e1,h3⟩:=small i hi hbi;cases hbj:Nat.ble big j with
    | true=>
      rw[large j hbj,e1]at e;have:=Pp hbj;omega
    | false=>
      rw[hbj,Q5]at hj;obtain⟨h',e2,h4⟩:=small j hj hbj;rw[e1,e2]at e;exact(List.getElem_inj hnd).1 e
 have um:∀i x,(Nat.blt i ids.length||Nat.ble big i)=true->m2 i=some x->m (gR ids i)=some x:=fun i x _ h=>(sub i x h).1
 have ua:∀i,(Nat.blt i ids.length||Nat.ble big i)=true->avK ids.length i=false:=fun i h=>ia h
 refine⟨m2,R,⟨?_,?_,?_,?_,?_,hw.hr.rsz,hw.hr.rfr,hw.hr.r0,hw.hr.frame,?_,fun i hi=>cA hi⟩,hw.df,hw.sz,?_⟩
 ·intro i;show(m2 i).isSome=bE (ax os i);simp only[m2];cases e:ax os i with
  |none=>rfl
  | some o=>
    have:=hw.hr.dom (gR ids i);rw[(key i o e).1]at this;simpa[bE,Ob.iF]using this
 ·intro i hi;show ax os i=none;cases e:ax os i with
  |none=>rfl
  | some o=>
    have h3:=ia (key i o e).2.1;have hi':avK ids.length i=true:=hi;rw[hi']at h3;cases h3
 ·intro i o b N h3 h4;have h5:=key i o h3;exact(hw.hr.obj _ _ b N h5.1 (sub _ _ h4).1).gl (gR ids) _ um ua (Ob.gT _ h5.2.2)
 ·intro i j b N N' e1 e2;exact ρinj i j (sub _ _ e1).2 (sub _ _ e2).2 (hw.hr.inj _ _ b N N' (sub _ _ e1).1 (sub _ _ e2).1)
 ·exact fun i b N e=>hw.hr.own _ b N (sub _ _ e).1
 ·intro i x hi e;have hb:Nat.ble big i=true:=RI hi;have e2:=(sub i x e).1;have:gR ids i=i:=by simp[gR,hb]
  rw[this]at e2;exact hw.hr.keep i x hi e2
 ·intro t ht;show Rel w m2 (avK ids.length) R (look l t) _;rcases ja hl t with e|e
  ·rw[e];simp only[Rel,RelP]
  ·have h3:=hw.sl t ht;rw[e]at h3;exact h3.gl (gR ids) _ um ua _ _ (V.gT _ _ (look_ok h1 t))
end
section
mutual
theorem V.yd:∀v:V,v.ren (fun i=>i)=v
 | .pv _=>rfl
 | .ptr _ _=>rfl
 | .osl _ _ _=>rfl
 | .tsl _ _ _=>rfl
 | .gsl _ _ _=>rfl
 | .map _=>rfl
 | .agg cs=>by simp only[V.ren,V.renL_id cs]
 | .tup cs=>by simp only[V.ren,V.renL_id cs]
 | .fn _ a b=>by simp only[V.ren,V.renL_id a,V.renL_id b]
theorem V.renL_id:∀vs:List V,V.renL (fun i=>i) vs=vs
 |[]=>rfl
 |c::cs=>by simp only[V.renL,V.yd c,V.renL_id cs]
end
theorem Ob.yd(o:Ob):o.ren (fun i=>i)=o:=by
 cases o with
 |cells _ _=>rfl
 |gro _ _=>rfl
 |mp _ _=>rfl
 |it _ _=>rfl
 |fro _ _=>rfl
 |mi _ _ _=>rfl
 |mix _ cs=>simp only[Ob.ren,V.renL_id cs]
def yV(n:Nat)(σ:St):List ResultVar->Option (List V)
 |[]=>some []
 | .tmp t::l=>match yV n σ l with|some vs=>some (σ.ev n (.tmp t)::vs)|none=>none
 | .cell a _::l=>match σ.ev n (.tmp a),yV n σ l with
   | .ptr id 0,some vs=>match σ.ob id with
     |some (.mix _ cs)=>some (.agg cs::vs)
     |_=>none
   |_,_=>none
def ku(P:Program)(n:Nat)(σ:St):List ResultVar->Prop
 |[]=>True
 | .tmp _::l=>ku P n σ l
 | .cell a t::l=>(isRow P t/\∃k,bQ P t k/\∀id T cs,σ.ev n (.tmp a)= .ptr id 0->σ.ob id=some (.mix T cs)->cs.length=k)/\ku P n σ l
theorem az{P:Program}{n:Nat}{σ:St}{a:Nat}{t:TypeId}{id k:Nat}{T:TypeId}{cs:List V}(h1:isRow P t)(h2:bQ P t k)(he:σ.ev n (.tmp a)= .ptr id 0)(ho:σ.ob id=some (.mix T cs))(hk:cs.length=k):
  isRow P t/\∃k,bQ P t k/\∀id T cs,σ.ev n (.tmp a)= .ptr id 0->σ.ob id=some (.mix T cs)->cs.length=k:=
 ⟨h1,k,h2,fun id' T' cs' e1 e2=>by rw[he]at e1;cases e1;rw[ho]at e2;cases e2;exact hk⟩
theorem ma{C:Ctx}{n:Nat}{σ:St}{a:Act}{w:World}{m:Gm}{R:Nat->Prop}(hw:SW C n σ a w m R)(f:ResultVar->Sem Value)(hf:∀t,f (.tmp t)=pure (a.tmps.getD t undef))(hf2:∀ad t,f (.cell ad t)=do loadVar t (← asAddr (a.tmps.getD ad undef))):
  ∀{l:List ResultVar}{vs:List V},yV n σ l=some vs->ku C.P n σ l->∃us,Sem.run C.P (l.mapM f) w= .ok us w/\RelL w m σ.av R vs us
 |[],vs,h,_=>by simp only[yV,Pe]at h;subst h;exact⟨[],Tw,RelL.nil⟩
 | .tmp t::l,vs,h,hc=>by
   simp only[yV]at h;split at h
   ·rename_i vs' h';simp at h;subst h;obtain⟨us,hr,hl⟩:=ma hw f hf hf2 h' hc;refine⟨a.eval (.tmp t)::us,?_,RelL.cons (hw.ev (.tmp t)) hl⟩;rw[List.mapM_cons,hf];simp[hr,Act.eval]
   ·cases h
 | .cell ad t::l,vs,h,hc=>by
   simp only[yV]at h;split at h
   ·rename_i id vs' he h';split at h
    ·rename_i T cs ho;simp at h;subst h;obtain⟨us,hr,hl⟩:=ma hw f hf hf2 h' hc.2;obtain⟨hrow,k,hk,hlen⟩:=hc.1;have hlen:=hlen id T cs he ho;obtain⟨b,N,hev,hm,arr,hb,hN,hle,hrl⟩:=hw.ptr he ho;obtain⟨d,hu,hd⟩:=hrow;have hload:=run_loadVar_mid (P:=C.P) w b 0 t (arr.toList.take cs.length) d (fun j u hu=>by
      rw[PJ,cell_of_row w b j arr T (0,0) hb];rw[Pw]at hu;split at hu
      ·simpa using hu
      ·cases hu) hu hd (by unfold bQ at hk;rw[hk,hrl.length,hlen])
     refine⟨.agg (arr.toList.take cs.length).toArray::us,?_,RelL.cons (by simp only[Rel];exact⟨_,O,hrl⟩) hl⟩;have hev':a.tmps.getD ad undef= .pointer (some ⟨b,0,none⟩):=hev;rw[List.mapM_cons,hf2,hev'];simp only[Sem.run_bind,asAddr,Sem.run_pure,Result.andThen_ok,hload,hr]
    ·cases h
   ·cases h
theorem ow{C:Ctx}{n:Nat}{σ:St}{a:Act}{w:World}{m:Gm}{R:Nat->Prop}(hw:SW C n σ a w m R){fn:Func}{vs:List V}(h:yV n σ fn.results.toList=some vs)(hc:ku C.P n σ fn.results.toList):
  ∃us:List Value,(results fn a.tmps).run C.P w= .ok (if h:us.toArray.size=1 then us.toArray[0]else .tuple us.toArray) w/\RelL w m σ.av R vs us:=by
 have key:=fun f hf hf2=>ma hw f hf hf2 h hc
 have hx:∃us,Sem.run C.P (fn.results.toList.mapM fun
   | .tmp t=>pure (a.tmps.getD t undef)
   | .cell ad t=>do loadVar t (← asAddr (a.tmps.getD ad undef))) w= .ok us w/\RelL w m σ.av R vs us:=key _ (fun _=>rfl) (fun _ _=>rfl)
 obtain⟨us,hr,hl⟩:=hx;refine⟨us,?_,hl⟩;unfold results;rw[Array.mapM_eq_mapM_toList];simp only[Sem.run_bind,Sem.run_map]
 erw[hr]
 rfl
def retQC(P:Program)(fn:Func)(n:Nat)(Q:PV->Prop):Exit->St->Prop
 | .ret,σ| .normal,σ=>∃vs ps,yV n σ fn.results.toList=some vs/\V.args σ.ob vs=some ps/\ku P n σ fn.results.toList/\Q (eJ ps)
 |_,_=>False
theorem FnP.ofC{P:Program}{f:FuncId}{fn:Func}{c:Code}{n:Nat}{args:List PV}{Q:PV->Prop}(hf:P.funcs[f]? =some fn)(hb:fn.body=some c)(hn:fn.ntmps=n)(hna:args.length<=n)
  (h:∀m0 w0 F R0,AW ⟨P,m0,w0,F,R0⟩ n c (retQC P fn n Q) (mkS (gN 0 args) [] 0)):FnP P f args Q:=by
 intro w R us hG hR hrel;refine calls_of_wp hf hb ?_
 let C:Ctx:=⟨P,fun _=>none,w,fun _=>False,⟨R,hG,fun b h=>⟨hR b h,id⟩,[]⟩⟩
 have hl:=hrel.length;have init:SJ C n (mkS (gN 0 args) [] 0) { tmps:=us.toArray++Array.replicate (fn.ntmps-us.toArray.size) undef,defers:=[] } w:=by
  refine⟨fun _=>none,R,⟨⟨fun _=>rfl,fun _ _=>rfl,fun _ _ _ _ h=>(by cases h),fun _ _ _ _ _ h=>(by cases h),fun _ _ _ h=>(by cases h),hR,fun b h=> .inl h,fun b h=>h,Fr.refl _ _,fun _ _ _ h=>(by cases h),fun id hi=>cA (k:=0) hi⟩,rfl,Tx,?_⟩⟩;intro t ht;show Rel w _ (avK 0) R (look (gN 0 args) t) ((us.toArray++Array.replicate (fn.ntmps-us.toArray.size) undef).getD t undef);have key:∀(ps:List PV)(vs:List Value)(k:Nat),RelPL w R ps vs->k<=t->∀z:Value,Rel w (fun _=>none) (avK 0) R (look (gN k ps) t) (vs[t-k]?.getD z):=by
   intro ps;induction ps with
   |nil=>intro vs k _ _ z;simp only[gN,look,Rel,RelP]
   | cons p ps ih=>
     intro vs k hr hk z;simp only[RelPL]at hr;obtain⟨u,vs',rfl,h1,h2⟩:=hr;simp only[gN,look];by_cases e:t=k
     ·subst e;simp only[Sn,Qd,SO];simpa[Rel]using h1
     ·have hb:Nat.beq t k=false:=by cases hb:Nat.beq t k;rfl;exact absurd (aI hb) e
      rw[hb];have:=ih vs' (k+1) h2 Ts z;have e2:t-k=(t-(k+1))+1:=Ts;rw[e2];simpa using this
  have:=key args us 0 hrel (cd _) undef;simp only[S8]at this;rw[PN,SX];by_cases e:t<us.length
  ·simpa[e]using this
  ·rw[Qg Ts]at this;simp only[Pv,e,SD,RA];split<;>simpa using this
 refine wp_mono ((h (fun _=>none) w (fun _=>False) ⟨R,hG,fun b h=>⟨hR b h,id⟩,[]⟩).go _ w init) ?_;rintro ex a' w' ⟨σ',hq,m,R',hw⟩;have fin:∀vs ps,yV n σ' fn.results.toList=some vs->V.args σ'.ob vs=some ps->ku P n σ' fn.results.toList->Q (eJ ps)->a'.defers=[]/\∃v,(results fn a'.tmps).run P w'= .ok v w'/\
   ∃u v_1,Ending.returned v= .returned u/\Q v_1/\Below w.heap.size w w'/\RelP w' (fun b=>R b\/(w.heap.size<=b/\b<w'.heap.size)) v_1 u:=by
  intro vs ps h1 h2 hc h3;obtain⟨us',hrun,hrl⟩:=ow hw h1 hc;have hp:=hw.args hrl h2;have hp2:RelPL w' (fun b=>R b\/(w.heap.size<=b/\b<w'.heap.size)) ps us':=hp.mono fun b hb=>⟨by
   rcases hb with hb|⟨id,N,hb⟩
   ·rcases hw.hr.rfr b hb with h|h|h
    ·exact .inl h
    ·exact .inr ⟨h,hw.hr.rsz b hb⟩
    ·exact h.elim
   ·rcases(hw.hr.own id b N hb).2.2 with h|h
    ·exact h.elim
    ·exact .inr ⟨h,(hw.hr.own id b N hb).1⟩,O⟩
  have hbel:Below w.heap.size w w':=⟨hw.hr.frame.os,hw.hr.frame.tape,hw.hr.frame.output,hw.hr.frame.size,fun k hk=>hw.hr.frame.block k hk id⟩;have hlen:=hp2.length;refine⟨hw.df,_,hrun,_,_,O,h3,hbel,?_⟩;cases ps with
  | nil=>
    simp only[RelPL]at hp2;subst hp2;simp only[eJ,RelP];exact⟨[],Tw,RelPL.nil⟩
  | cons p ps=>
    cases ps with
    | nil=>
      simp only[RelPL]at hp2;obtain⟨u,vs',rfl,h5,rfl⟩:=hp2;simpa[eJ]using h5
    | cons p2 ps=>
      simp only[eJ,RelP];refine⟨us',?_,hp2⟩;rw[dif_neg (by simp at hlen ⊢; omega)]
 cases ex with
 |normal=>obtain⟨vs,ps,h1,h2,h3,h4⟩:=hq;exact fin vs ps h1 h2 h3 h4
 |ret=>obtain⟨vs,ps,h1,h2,h3,h4⟩:=hq;exact fin vs ps h1 h2 h3 h4
 |_=>exact hq.elim
def retOC(P:Program)(fn:Func)(n k k':Nat)(Q:V->(Nat->Option Ob)->Prop):Exit->St->Prop
 | .ret,σ| .normal,σ=>∃l os' vs os2 k2,σ.le (mkS l os' k2)/\yV n (mkS l os' k2) fn.results.toList=some vs/\ku P n (mkS l os' k2) fn.results.toList/\V.allL (okR k k') vs=true/\os2.all (fun p=>okR k k' p.1&&p.2.all (okR k k'))=true/\
   (∀i o,ax os2 i=some o->ax os' i=some o)/\k'<=k2/\Q (cC vs) (ax os2)
 |_,_=>False
theorem FnO.ofC{P:Program}{f:FuncId}{fn:Func}{c:Code}{n k k':Nat}{args:List V}{os:List (Nat×Ob)}{Q:V->(Nat->Option Ob)->Prop}(hf:P.funcs[f]? =some fn)(hb:fn.body=some c)(hn:fn.ntmps=n)(hna:args.length<=n)
  (h:∀m0 w0 F R0,AW ⟨P,m0,w0,F,R0⟩ n c (retOC P fn n k k' Q) (mkS (cF 0 args) os 0)):FnO P f k k' args os Q:=by
 intro w m R us hHR hrel;refine calls_of_wp hf hb ?_;have hl:=hrel.length;obtain⟨R1,hp1,hd1⟩:∃R1:RT w (dj m),R1.p=R.p/\R1.df=[]:=⟨⟨R.p,R.g,R.d,[]⟩,O,O⟩;have init:SJ ⟨P,m,w,dj m,R1⟩ n (mkS (cF 0 args) os 0) { tmps:=us.toArray++Array.replicate (fn.ntmps-us.toArray.size) undef,defers:=[] } w:=by
  refine⟨m,R.p,⟨hHR.dfs hp1,hd1.symm,Tx,?_⟩⟩;intro t ht;show Rel w m (avK 0) R.p (look (cF 0 args) t) ((us.toArray++Array.replicate (fn.ntmps-us.toArray.size) undef).getD t undef);have key:∀(ps:List V)(vs:List Value)(k:Nat),RelL w m (avK 0) R.p ps vs->k<=t->∀z:Value,Rel w m (avK 0) R.p (look (cF k ps) t) (vs[t-k]?.getD z):=by
   intro ps;induction ps with
   |nil=>intro vs k _ _ z;simp only[cF,look,Rel,RelP]
   | cons p ps ih=>
     intro vs k hr hk z;simp only[RelL]at hr;obtain⟨u,vs',rfl,h1,h2⟩:=hr;simp only[cF,look];by_cases e:t=k
     ·subst e;simp only[Sn,Qd,SO];simpa using h1
     ·have hb:Nat.beq t k=false:=by cases hb:Nat.beq t k;rfl;exact absurd (aI hb) e
      rw[hb];have:=ih vs' (k+1) h2 Ts z;have e2:t-k=(t-(k+1))+1:=Ts;rw[e2];simpa using this
  have:=key args us 0 hrel (cd _) undef;simp only[S8]at this;rw[PN,SX];by_cases e:t<us.length
  ·simpa[e]using this
  ·rw[Qg Ts]at this;simp only[Pv,e,SD,RA];split<;>simpa using this
 refine wp_mono ((h m w (dj m) R1).go _ w init) ?_;rintro ex a' w' ⟨σ',hq,hsj⟩;have fin:∀l os' vs os2 k2,σ'.le (mkS l os' k2)->yV n (mkS l os' k2) fn.results.toList=some vs->ku P n (mkS l os' k2) fn.results.toList->V.allL (okR k k') vs=true->os2.all (fun p=>okR k k' p.1&&p.2.all (okR k k'))=true->(∀i o,ax os2 i=some o->ax os' i=some o)->k'<=k2->Q (cC vs) (ax os2)->
   a'.defers=[]/\∃v,(results fn a'.tmps).run P w'= .ok v w'/\∃u v_1 ob' m' R',Ending.returned v= .returned u/\Q v_1 ob'/\v_1.all (okR k k')=true/\(∀i o,ob' i=some o->okR k k' i=true/\o.all (okR k k')=true)/\HR ⟨P,m,w,dj m,R⟩ m' R' ob' (avK k') w'/\Rel w' m' (avK k') R' v_1 u:=by
  intro l os' vs os2 k2 h1 h2 hc h3 h4 h5 h6 h7;obtain⟨m2,R2,hw⟩:=h1 _ _ _ _ hsj;obtain⟨us',hrun,hrl⟩:=ow hw h2 hc;have hob:∀i o,ax os2 i=some o->okR k k' i=true/\o.all (okR k k')=true:=by
   intro i o hio;have:=IN.1 h4 (i,o) (bu hio);simpa using this
  let m3:Gm:=fun i=>if(ax os2 i).isSome then m2 i else none
  have sub:∀i x,m3 i=some x->m2 i=some x:=fun i x h=>by
   simp only[m3]at h;split at h
   ·exact h
   ·cases h
  have okav:∀i,okR k k' i=true->avK k' i=false:=by
   intro i hi;simp only[okR,PQ,sh]at hi;apply ia;rcases hi with h|h
   ·rw[h];rfl
   ·rw[h.1];simp
  have um:∀(i:Nat)(x:Nat×Nat),okR k k' i=true->m3 i=some x->m2 i=some x:=fun i x _ h=>sub i x h
  refine⟨hw.df.trans hd1,_,hrun,_,cC vs,ax os2,m3,R2,O,h7,jH h3,hob,HR.dfs (R0:=R1) ?_ hp1.symm,?_⟩
  ·refine⟨?_,?_,?_,?_,?_,hw.hr.rsz,hw.hr.rfr,hw.hr.r0,hw.hr.frame,fun i x hi h=>hw.hr.keep i x hi (sub i x h),fun i hi=>cA hi⟩
   ·intro i;simp only[m3];cases e:ax os2 i with
    |none=>rfl
    | some o=>
      have:=hw.hr.dom i;have e2:(mkS l os' k2).ob i=some o:=h5 i o e;rw[e2]at this;simpa using this
   ·intro i hi;cases e:ax os2 i with
    |none=>rfl
    | some o=>
      have:=okav i (hob i o e).1;rw[hi]at this;cases this
   ·intro i o b N e1 e2;have h8:=hw.hr.obj i o b N (h5 i o e1) (sub _ _ e2);have h9:kE w' m2 (mkS l os' k2).av R2 b N (o.ren (fun i=>i)):=by rw[Ob.yd];exact h8
    exact h9.gl (fun i=>i) (okR k k') um okav (hob i o e1).2
   ·exact fun i j b N N' e1 e2=>hw.hr.inj i j b N N' (sub _ _ e1) (sub _ _ e2)
   ·exact fun i b N e=>hw.hr.own i b N (sub _ _ e)
  ·have h9:Rel w' m2 (mkS l os' k2).av R2 ((cC vs).ren (fun i=>i)) (if h:us'.toArray.size=1 then us'.toArray[0]else .tuple us'.toArray):=by rw[V.yd];exact oB hrl
   exact h9.gl (fun i=>i) (okR k k') um okav _ _ (jH h3)
 cases ex with
 |normal=>obtain⟨l,os',vs,os2,k2,h1,h2,h3,h4,h5,h6,h7,h8⟩:=hq;exact fin l os' vs os2 k2 h1 h2 h3 h4 h5 h6 h7 h8
 |ret=>obtain⟨l,os',vs,os2,k2,h1,h2,h3,h4,h5,h6,h7,h8⟩:=hq;exact fin l os' vs os2 k2 h1 h2 h3 h4 h5 h6 h7 h8
 |_=>exact hq.elim
end
end Go.Proofs.YtoplpepiabedhaaGreatDoor
