/- Lemmas. No condition. -/
import Derived.Laws.MakeOwn
import Derived.Great.BuildSlice
import Derived.Test.YthicoeegbdboeaaGreatDoorJF1
set_option maxRecDepth 100000
set_option maxHeartbeats 4000000
open Go.RowKit Go.Proofs.Tryz
open Option renaming some→WB,none→WC
open Bool renaming true→YK,false→YL
namespace Go.Proofs.YthicoeegbdboeaaGreatDoor
variable{C:Ctx}{n d j k t i fuel id off size bytes s b N id2:Nat}{σ:St}{a:Act}{w:World}{m:Gm}{R:ew}{want:Bool}{f:FuncId}{xs:Array Operand}{dst:YX}{ps cs zs fs news:na}{α β:Type}{listed:Array Bool}{Rl:ee}{cl:List ee}{c:Code}{e T T2:TypeId}{z:Value}{kl:IntKind}{il:Int}{P:Program}{us:e7}{ρ:Nat->Nat}{K:ZA}{y:Operand}{r:PV}{bn:YO}
section
theorem SW.drew{w':World}(h:SW C n σ a w m R)(q:w'.heap=w.heap)(ho:w'.os=w.os)(B:w'.tape=w.tape)(D:w'.output=w.output):SW C n σ a w' m R:=by
 have u:∀b,R b->R b/\w'.heap[b]? =w.heap[b]? :=λb hb=>⟨hb,by rw[q]⟩
 have:=h.world (w':=w') (m':=m) (R':=R) (ob':=σ.ob) (av':=σ.av) ?_ u (λ_ _ _ e=>e) (λ_ e=>e)
 .exact this
 refine⟨h.hr.dom,h.hr.free,?_,h.hr.inj,?_,?_,h.hr.rfr,h.hr.r0,?_,h.hr.keep,h.hr.res⟩
 .intro i o b N h1 h2;exact(h.hr.obj i o b N h1 h2).mono u (λ_ _ _ e=>e) (λ_ e=>e) (by rw[q])
 .intro i b N h1;rw[q];exact h.hr.own i b N h1
 .intro b hb;rw[q];exact h.hr.rsz b hb
 exact⟨ho.trans h.hr.frame.os,B.trans h.hr.frame.tape,D.trans h.hr.frame.output,by rw[q];exact h.hr.frame.size,λk hk hF=>by rw[q];exact h.hr.frame.block k hk hF⟩
def Bb(ops:YZ)(n:Nat)(o:Oper):YX:=
 match o.guard with
 |some (j,_)=>WB (((ops[j]?).bind (·.dst)).getD n)
 |none=>WC
structure Agr(n:Nat)(ops:YZ)(o:Oper)(σ τ:St)(s:OS)(rd:ee):Prop where
 e:∀(i:Nat)(x:Operand),o.op.operands.toList[i]? =WB x->τ.ev n x=σ.ev n x
 g:∀t,Bb ops n o=WB t->τ.ev n (.tmp t)=σ.ev n (.tmp t)
 o:∀(i id:Nat),rd[i]? =WB id->τ.ob id=σ.ob id
 n:∀(i id:Nat),s.nw[i]? =WB id->τ.av id=YK
def LJ(C:Ctx)(n:Nat)(ops:YZ)(o:Oper)(σ:St)(s:OS)(rd:ee):Prop:=
 ∀τ,Agr n ops o σ τ s rd->match o.guard with
  |none=>XJ C n o τ s
  |some (j,want)=>∃b,(τ.ev n (.tmp (((ops[j]?).bind (·.dst)).getD n))).gd=WB b/\(b=WB want->XJ C n o τ s)/\(b≠WB want->s=⟨und,[],[]⟩)
def dt(ops:YZ)(n:Nat)(o:Oper):List Tmp:=(o.op.operands.toList.filterMap fun| .tmp t=>WB t|_=>WC)++(Bb ops n o).toList
def inL(d:Nat):ee->Bool
 |[]=>YL
 |x::l=>Nat.beq x d||inL d l
def meet(a:ee):ee->Bool
 |[]=>YL
 |x::l=>inL x a||meet a l
structure It where
 i:Nat
 o:Oper
 s:OS
 wk:ee
 nw:ee
 rd:ee
def fT(ops:YZ)(n:Nat)(a b:It):Bool:=
 (match a.o.dst with|some d=>inL d (dt ops n b.o)||(match b.o.dst with|some e=>Nat.beq d e|none=>YL)|none=>YL)||
 (match b.o.dst with|some e=>inL e (dt ops n a.o)|none=>YL)||
 meet a.wk (b.rd++b.wk++b.nw)||meet b.wk (a.rd++a.nw)||meet a.nw (b.rd++b.nw)||meet b.nw a.rd
def LZ(os:Zw)(acc:List ee):List ee:=
 match os with
 |[]=>acc
 | o::os=>
   let es:=o.after.toList.filterMap λe=>if Region.binds .any e then WB e.on else WC
   LZ os (acc++[es.foldl (λl i=>if inL i l then l else(i::l)++((acc[i]?).getD []).filter (λz=> !(inL z (i::l)))) []])
def kg:Nat->Zw->Bool
 |_,[]=>YK
 |k,o::os=>(o.after.toList.all λe=> !(Region.binds .any e)||Nat.blt e.on k)&&kg (k+1) os
def gA(ops:YZ)(n:Nat)(cl:List ee)(it:It)(acc:List It):Bool:=
 (acc.all λb=> !(fT ops n b it)||inL b.i ((cl[it.i]?).getD []))&&(acc.all λb=> !(Nat.beq b.i it.i))
def gOk(n:Nat)(ops:YZ)(o:Oper)(τ:St):Prop:=match o.guard with
 |none=>True
 |some (j,want)=>(τ.ev n (.tmp (((ops[j]?).bind (·.dst)).getD n))).gd=WB (WB want)
def LJR(C:Ctx)(n:Nat)(ops:YZ)(o:Oper)(σ:St)(P:OS->Prop)(wk nw rd:ee):Prop:=
 ∀τ,Agr n ops o σ τ ⟨.pv .any,[],nw⟩ rd->gOk n ops o τ/\OJ C n o (λτ'=>∃s,P s/\s.wr.map (·.1)=wk/\s.nw=nw/\τ'=τ.app o.dst s) τ
def DL(C:Ctx)(n:Nat)(ops:YZ)(cl:List ee):ee->List It->ZA->ZA
 |[],acc,K,σ=>(List.range ops.size).all (λi=>inL i (acc.map (·.i)))=YK/\K σ
 | i::is,acc,K,σ=>∃o,ops[i]? =WB o/\
   ((∃s rd,LJ C n ops o σ s rd/\s.nw.all σ.av=YK/\gA ops n cl ⟨i,o,s,s.wr.map (·.1),s.nw,rd⟩ acc=YK/\DL C n ops cl is (⟨i,o,s,s.wr.map (·.1),s.nw,rd⟩::acc) K (σ.app o.dst s))\/
    (∃(P:OS->Prop)(wk nw rd:ee),LJR C n ops o σ P wk nw rd/\nw.all σ.av=YK/\gA ops n cl ⟨i,o,⟨.pv .any,[],[]⟩,wk,nw,rd⟩ acc=YK/\is.all (λj=>inL i ((cl[j]?).getD []))=YK/\(List.range ops.size).all (λj=>inL j (i::is)||inL j (acc.map (·.i)))=YK/\
     ∀s,P s->s.wr.map (·.1)=wk->s.nw=nw->DL C n ops cl is (⟨i,o,s,wk,nw,rd⟩::acc) K (σ.app o.dst s)))
section
variable {C:Ctx}{n:Nat}{σ τ:St}{ops:YZ}{cl:List ee}{i:Nat}{o:Oper}{is:ee}{acc:List It}{K:ZA}
theorem DL.step{s:OS}{d:YX}(rd:ee)(ho:ops[i]? =WB o)(q:o.guard=WC)(u:o.dst=d)(B:∀τ,Agr n ops o σ τ s rd->XJ C n o τ s)(D:s.nw.all σ.av=YK)(hc:gA ops n cl ⟨i,o,s,s.wr.map (·.1),s.nw,rd⟩ acc=YK)
  (h:DL C n ops cl is (⟨i,o,s,s.wr.map (·.1),s.nw,rd⟩::acc) K (σ.app d s)):DL C n ops cl (i::is) acc K σ:=by
 subst u;exact⟨o,ho,.inl ⟨s,rd,λτ ha=>by simp only[q];exact B τ ha,D,hc,h⟩⟩
theorem DL.stepG{s:OS}{d:YX}(rd:ee)(ho:ops[i]? =WB o)(q:o.guard=WB (j,want))(u:o.dst=d)(B:σ.ev n (.tmp (((ops[j]?).bind (·.dst)).getD n))= .pv (.bool want))
  (D:∀τ,Agr n ops o σ τ s rd->XJ C n o τ s) (E:s.nw.all σ.av=YK) (hc:gA ops n cl ⟨i,o,s,s.wr.map (·.1),s.nw,rd⟩ acc=YK)
  (h:DL C n ops cl is (⟨i,o,s,s.wr.map (·.1),s.nw,rd⟩::acc) K (σ.app d s)):DL C n ops cl (i::is) acc K σ:=by
 subst u;exact⟨o,ho,.inl ⟨s,rd,λτ ha=>by
  simp only[q];exact⟨WB want,V.rT ((ha.g _ (by simp only[Bb,q])).trans B),λ_=>D τ ha,λe=>absurd O e⟩,E,hc,h⟩⟩
theorem DL.rel{d:YX}(P:OS->Prop)(wk nw rd:ee)(ho:ops[i]? =WB o)(u:o.guard=WC)(B:o.dst=d)(D:∀τ,Agr n ops o σ τ ⟨.pv .any,[],nw⟩ rd->OJ C n o (λτ'=>∃s,P s/\s.wr.map (·.1)=wk/\s.nw=nw/\τ'=τ.app o.dst s) τ)
  (E:nw.all σ.av=YK) (hc:gA ops n cl ⟨i,o,⟨.pv .any,[],[]⟩,wk,nw,rd⟩ acc=YK) (hs:is.all (λj=>inL i ((cl[j]?).getD []))=YK) (q:(List.range ops.size).all (λj=>inL j (i::is)||inL j (acc.map (·.i)))=YK)
  (h:∀s,P s->s.wr.map (·.1)=wk->s.nw=nw->DL C n ops cl is (⟨i,o,s,wk,nw,rd⟩::acc) K (σ.app d s)):DL C n ops cl (i::is) acc K σ:=by
 subst B;exact⟨o,ho,.inr ⟨P,wk,nw,rd,λτ ha=>⟨by unfold gOk;rw[u];trivial,D τ ha⟩,E,hc,hs,q,h⟩⟩
theorem DL.relG{d:YX}(P:OS->Prop)(wk nw rd:ee)(ho:ops[i]? =WB o)(u:o.guard=WB (j,want))(B:o.dst=d)(D:σ.ev n (.tmp (((ops[j]?).bind (·.dst)).getD n))= .pv (.bool want))(E:∀τ,Agr n ops o σ τ ⟨.pv .any,[],nw⟩ rd->OJ C n o (λτ'=>∃s,P s/\s.wr.map (·.1)=wk/\s.nw=nw/\τ'=τ.app o.dst s) τ)
  (G:nw.all σ.av=YK) (hc:gA ops n cl ⟨i,o,⟨.pv .any,[],[]⟩,wk,nw,rd⟩ acc=YK) (hs:is.all (λj=>inL i ((cl[j]?).getD []))=YK) (q:(List.range ops.size).all (λj=>inL j (i::is)||inL j (acc.map (·.i)))=YK)
  (h:∀s,P s->s.wr.map (·.1)=wk->s.nw=nw->DL C n ops cl is (⟨i,o,s,wk,nw,rd⟩::acc) K (σ.app d s)):DL C n ops cl (i::is) acc K σ:=by
 subst B;exact⟨o,ho,.inr ⟨P,wk,nw,rd,λτ ha=>⟨by unfold gOk;rw[u];exact V.rT ((ha.g _ (by simp only[Bb,u])).trans D),E τ ha⟩,G,hc,hs,q,h⟩⟩
theorem Agr.args{s:OS}{rd:ee}{ts:Array TypeId}{ty:TypeId}{pos:String}{after:Y4}{gd:Option (Nat×Bool)}
  (h:Agr n ops ⟨dst,.call { callee:= .value (.func f),args:=xs,argTypes:=ts },ty,pos,after,gd⟩ σ τ s rd):xs.toList.map (τ.ev n)=xs.toList.map (σ.ev n):=by
 apply V9;intro x hx;obtain⟨i,hi⟩:=WO hx;exact h.e (i+1) x (by simpa[Op.operands,Call.operands,XA]using hi)
end
section
variable {n:Nat}{ops:YZ}{σ τ:St}{s:OS}{rd:ee}{f:FuncId}{xs:Array Operand}{ts:Array TypeId}{dst:YX}{ty:TypeId}{pos:String}{after:Y4}{gd:Option (Nat×Bool)}
theorem Agr.aE (h:Agr n ops ⟨dst,.call { callee:= .value (.func f),args:=xs,argTypes:=ts },ty,pos,after,gd⟩ σ τ s rd)  (hp:(V.args (λ_=>WC) (xs.toList.map (σ.ev n))).map PV.fgA=WB ps):
  (V.args (λ_=>WC) (xs.toList.map (τ.ev n))).map PV.fgA=WB ps:=by rw[h.args];exact hp
end
section
variable {n:Nat}{ops:YZ}{σ τ:St}{s:OS}{rd:ee}{dst:YX}{ty:TypeId}{pos:String}{after:Y4}{gd:Option (Nat×Bool)}{T:TypeId}{parts:Array (Nat×Operand)}
theorem Agr.SC(h:Agr n ops ⟨dst,.buildSlice T k parts,ty,pos,after,gd⟩ σ τ s rd):(parts.toList.map λp=>(p.1,τ.ev n p.2))=parts.toList.map λp=>(p.1,σ.ev n p.2):=by apply V9;intro p hp;obtain⟨i,hi⟩:=WO hp;rw[h.e i p.2 (by simp[Op.operands,hi])]
end
section
variable {C:Ctx}{n:Nat}{ops:YZ}
theorem eB:∀{l:ee},inL d l=YK↔d∈l
 |[]=>by simp[inL]
 | x::l=>by
   simp only[inL,Wr,By,eB (l:=l)];exact⟨λh=>h.imp (λe=>(bN e).symm) id,λh=>h.imp (λe=>by rw[e];exact Zh x) id⟩
theorem mf{a:ee}:∀{l:ee},meet a l=YK↔∃x,x∈a/\x∈l
 |[]=>by simp[meet]
 | x::l=>by
   simp only[meet,Wr,eB,mf (l:=l),By];constructor
   .grind
   grind
theorem AH:∀(l:List (Nat×va))(f:Nat->va)(id:Nat),id∉l.map (·.1)->obL l f id=f id
 |[],_,_,_=>rfl
 | (i,o)::l,f,id,h=>by
   simp only[ed,By,not_or]at h;have hb:Nat.beq id i=YL:=by cases hb:Nat.beq id i;rfl;exact absurd (bN hb) h.1
   simp only[obL,hb,Wo];exact AH l f id h.2
theorem H8:∀(l:List (Nat×va))(f g:Nat->va)(id:Nat),id∈l.map (·.1)->obL l f id=obL l g id
 |[],_,_,_,h=>by simp at h
 | (i,o)::l,f,g,id,h=>by
   simp only[obL];cases hb:Nat.beq id i
   .simp only[Wo];refine H8 l f g id ?_;simp only[ed,By]at h;rcases h with e|h
    .rw[e]at hb;simp at hb
    exact h
   .rfl
theorem lW:∀(l:ee)(f:Av)(id:Nat),avL l f id=(f id&& !inL id l)
 |[],f,id=>by simp[avL,inL]
 | i::l,f,id=>by
   simp only[avL,inL];by_cases e:id=i
   .subst e;simp
   have hb:Nat.beq id i=YL:=by cases hb:Nat.beq id i;rfl;exact absurd (bN hb) e
   have q:Nat.beq i id=YL:=by cases hb:Nat.beq i id;rfl;exact absurd (bN hb).symm e
   rw[hb,q,lW l f id];simp
def fm(D:Nat->Bool)(σ0:St):List It->St
 |[]=>σ0
 |it::l=>bif D it.i then(fm D σ0 l).app it.o.dst it.s else fm D σ0 l
theorem MK{a b:It}(σ:St)(h:fT ops n a b=YL)(B:a.s.wr.map (·.1)=a.wk)(D:b.s.wr.map (·.1)=b.wk):(σ.app a.o.dst a.s).app b.o.dst b.s=(σ.app b.o.dst b.s).app a.o.dst a.s:=by
 simp only[fT,V8]at h;obtain⟨⟨⟨⟨⟨h1,h2⟩,h3⟩,h4⟩,h5⟩,h6⟩:=h;have E:∀id,id∈a.s.wr.map (·.1)->id∉b.s.wr.map (·.1):=λid hx hy=>by
  rw[B]at hx;rw[D]at hy;have:meet a.wk (b.rd++b.wk++b.nw)=YK:=mf.2 ⟨id,hx,by simp only[We];exact .inl (.inr hy)⟩;rw[h3]at this;cases this
 simp only[St.app,St.mk.injEq];refine⟨?_,?_,?_⟩
 .cases hd:a.o.dst with
  |none=>cases b.o.dst<;>rfl
  | some d=>
    cases he:b.o.dst with
    |none=>rfl
    | some e=>
      simp only;rw[hd,he]at h1;simp only[V8]at h1;have u:d≠e:=λq=>by subst q;simp at h1
      funext x;by_cases p:x=d
      .grind[a7,aA]
      grind[aA,a7]
 .grind[AH,H8]
 grind[lW,inL]
def Good(C:Ctx)(n:Nat)(ops:YZ)(cl:List ee)(σ0:St)(Rl:ee):List It->Prop
 |[]=>True
 |it::l=>(it.i∈Rl\/(LJ C n ops it.o (fm (λ_=>YK) σ0 l) it.s it.rd))/\it.nw.all (fm (λ_=>YK) σ0 l).av=YK/\gA ops n cl it l=YK/\ops[it.i]? =WB it.o/\it.s.wr.map (·.1)=it.wk/\it.s.nw=it.nw/\Good C n ops cl σ0 Rl l
section
variable {cl:List ee}{σ0:St}{Rl:ee}
theorem Good.split:∀{l1:List It}{it:It}{l2:List It},Good C n ops cl σ0 Rl (l1++it::l2)->Good C n ops cl σ0 Rl (it::l2)
 |[],_,_,h=>h
 |a::l1,_,_,h=>Good.split (l1:=l1) h.2.2.2.2.2.2
theorem Good.mem:∀{l:List It},Good C n ops cl σ0 Rl l->∀it∈l,ops[it.i]? =WB it.o/\it.s.wr.map (·.1)=it.wk/\it.s.nw=it.nw
 |[],_,it,h=>by simp at h
 | a::l,h,it,hm=>by
   rcases By.1 hm with rfl|hm
   .exact⟨h.2.2.2.1,h.2.2.2.2.1,h.2.2.2.2.2.1⟩
   exact Good.mem h.2.2.2.2.2.2 it hm
theorem Good.waits:∀{l1:List It}{it:It}{l2:List It},Good C n ops cl σ0 Rl (l1++it::l2)->∀b∈l1,(fT ops n it b=YK->it.i∈(cl[b.i]?).getD [])/\b.i≠it.i
 |[],_,_,_,b,hb=>by simp at hb
 | a::l1,it,l2,h,b,hb=>by
   rcases By.1 hb with rfl|hb
   .have h1:=h.2.2.1;simp only[gA,aJ]at h1;have q:=IN.1 h1.1 it Zm;have u:=IN.1 h1.2 it Zm;refine⟨λhc=>?_,λe=>?_⟩
    .rw[hc]at q;exact eB.1 (by simpa using q)
    rw[e]at u;simp at u
   exact Good.waits (l1:=l1) h.2.2.2.2.2.2 b hb
theorem Good.KN{it:It}{l2:List It}(h:Good C n ops cl σ0 Rl (it::l2)):∀b∈l2,(fT ops n b it=YK->b.i∈(cl[it.i]?).getD [])/\b.i≠it.i:=by
 intro b hb;have q:=h.2.2.1;simp only[gA,aJ]at q;have u:=IN.1 q.1 b hb;have B:=IN.1 q.2 b hb;refine⟨λhc=>?_,λe=>?_⟩
 .rw[hc]at u;exact eB.1 (by simpa using u)
 rw[e]at B;simp at B
theorem D0{D:Nat->Bool}{it:It}{l2:List It}(E:D it.i=YL)(u:it.s.wr.map (·.1)=it.wk)(B:∀b∈l2,b.i≠it.i):∀(l1:List It),(∀b∈l1,b.i≠it.i/\b.s.wr.map (·.1)=b.wk/\(D b.i=YK->fT ops n it b=YL))->
  fm (λj=>D j||Nat.beq j it.i) σ0 (l1++it::l2)=(fm D σ0 (l1++it::l2)).app it.o.dst it.s
 | [],_=>by
   have low:∀l:List It,(∀b∈l,b.i≠it.i)->fm (λj=>D j||Nat.beq j it.i) σ0 l=fm D σ0 l:=by
    intro l;induction l with
    |nil=>intro _;rfl
    | cons b l ih=>
      intro h;have q:Nat.beq b.i it.i=YL:=by cases q:Nat.beq b.i it.i;rfl;exact absurd (bN q) (h b Zm)
      simp only[fm,q,Xu,ih (λc hc=>h c (by simp[hc]))]
   simp only[WZ,fm,E,Zh,YY,Xe,Wo,low l2 B]
 | b::l1,h=>by
   have ih:=D0 E u B l1 (λc hc=>h c (by simp[hc]));obtain⟨h1,h2,h3⟩:=h b Zm;have q:Nat.beq b.i it.i=YL:=by cases q:Nat.beq b.i it.i;rfl;exact absurd (bN q) h1
   simp only[Wu,fm,q,Xu,ih];cases hDb:D b.i with
   |false=>rfl
   | true=>
     simp only[Xe];exact MK (n:=n) (ops:=ops) _ (h3 hDb) u h2
theorem qE(g:St->α)(D D':Nat->Bool):∀(l:List It),(∀b∈l,D b.i=D' b.i\/∀τ:St,g (τ.app b.o.dst b.s)=g τ)->(∀b∈l,∀τ τ':St,g τ=g τ'->g (τ.app b.o.dst b.s)=g (τ'.app b.o.dst b.s))->g (fm D σ0 l)=g (fm D' σ0 l)
 |[],_,_=>rfl
 | b::l,h,h2=>by
   have ih:=qE g D D' l (λc hc=>h c (by simp[hc])) (λc hc=>h2 c (by simp[hc]));simp only[fm];rcases h b Zm with e|e
   .grind
   grind
theorem zS(g:St->α)(D:Nat->Bool){l2:List It}:∀(l1:List It),(∀b∈l1,D b.i=YL\/∀τ:St,g (τ.app b.o.dst b.s)=g τ)->g (fm D σ0 (l1++l2))=g (fm D σ0 l2)
 |[],_=>rfl
 | b::l1,h=>by
   have ih:=zS g D l1 (λc hc=>h c (by simp[hc])) (l2:=l2);simp only[Wu,fm];rcases h b Zm with e|e
   .rw[e];exact ih
   grind
end
theorem Ho{b:It}(h:b.o.dst≠WB t)(τ:St):(τ.app b.o.dst b.s).sl t=τ.sl t:=by
 simp only[St.app];cases hd:b.o.dst with
 |none=>rfl
 |some d=>exact a7 _ _ (λq=>h (by rw[hd,q]))
theorem J7(b:It)(t:Nat)(τ τ':St)(h:τ.sl t=τ'.sl t):(τ.app b.o.dst b.s).sl t=(τ'.app b.o.dst b.s).sl t:=by
 simp only[St.app];cases hd:b.o.dst with
 |none=>exact h
 | some d=>
   by_cases e:t=d
   .subst e;simp only[aA]
   simp only[a7 _ _ e,h]
theorem xE{b:It}(h:t∉b.s.wr.map (·.1))(τ:St):(τ.app b.o.dst b.s).ob t=τ.ob t:=AH _ _ _ h
theorem LN(b:It)(t:Nat)(τ τ':St)(h:τ.ob t=τ'.ob t):(τ.app b.o.dst b.s).ob t=(τ'.app b.o.dst b.s).ob t:=by
 by_cases e:t∈b.s.wr.map (·.1)
 .exact H8 _ _ _ _ e
 rw[xE e,xE e,h]
theorem HU{b:It}(h:t∉b.s.nw)(τ:St):(τ.app b.o.dst b.s).av t=τ.av t:=by
 have q:inL t b.s.nw=YL:=by cases hb:inL t b.s.nw;rfl;exact absurd (eB.1 hb) h
 simp only[St.app,lW,q,Bool.not_false,XV]
theorem Ll(b:It)(t:Nat)(τ τ':St)(h:τ.av t=τ'.av t):(τ.app b.o.dst b.s).av t=(τ'.app b.o.dst b.s).av t:=by simp only[St.app,lW,h]
theorem Kn(D:Nat->Bool)(all:Zw)(E:∀j o,all[j]? =WB o->D j=YK->∀e∈o.after,Region.binds .any e=YK->D e.on=YK):
  ∀(os:Zw)(acc:List ee),all.drop acc.length=os->(∀j,D j=YK->∀i∈(acc[j]?).getD [],D i=YK)->∀j,D j=YK->∀i∈((LZ os acc)[j]?).getD [],D i=YK:=by
 intro os;induction os with
 |nil=>intro acc _ h;simpa only[LZ]using h
 | cons o os ih=>
   intro acc hd h;simp only[LZ];have ho:all[acc.length]? =WB o:=by
    have:=ah (·[0]?) hd;simpa using this
   refine ih _ ?_ ?_
   .have:=ah (List.drop 1) hd;simpa[XA]using this
   .intro j hj i hi;by_cases e:j<acc.length
    .grind
    by_cases e2:j=acc.length
    .subst e2;rw[List.getElem?_append_right (BY _)]at hi;simp only[Nat.sub_self,List.getElem?_cons_zero,Xg]at hi;have u:∀q∈(o.after.toList.filterMap λe=>if Region.binds .any e then WB e.on else WC),D q=YK:=by grind
     revert hi u
     generalize (o.after.toList.filterMap λe=>if Region.binds .any e then WB e.on else WC)=es;have B:∀(es:ee)(l0:ee),(∀q∈l0,D q=YK)->(∀q∈es,D q=YK)->∀i∈es.foldl (λl i=>if inL i l then l else(i::l)++((acc[i]?).getD []).filter (λz=> !(inL z (i::l)))) l0,D i=YK:=by
      intro es;induction es with
      |nil=>intro l0 h0 _ i hi;exact h0 i hi
      | cons q es ihe=>
        intro l0 h0 u i hi;simp only[W5]at hi;refine ihe _ ?_ (λq' hq'=>u q' (by simp[hq'])) i hi;intro z hz;split at hz
        .exact h0 z hz
        grind
     intro hi u;exact B es [] Zm u i hi
    grind
theorem Dj:∀{os:Zw}{k:Nat},kg k os=YK->∀{i:Nat}{o:Oper},os[i]? =WB o->∀e∈o.after,Region.binds .any e=YK->e.on<k+i
 |[],_,_,i,o,h=>by simp at h
 | q::os,k,hk,i,o,h=>by
   simp only[kg,aJ]at hk;cases i with
   | zero=>
     simp at h;subst h;intro e he hb;have:=(IN.1 hk.1) e (by simpa using he);simp only[hb,Bool.not_true,Bool.false_or]at this;simpa[XW]using this
   | succ i=>
     simp at h;intro e he hb;have:=Dj hk.2 h e he hb;omega
theorem Kb{a b:It}(q:a.o.dst=WB d)(u:d∈dt ops n b.o):fT ops n a b=YK:=by have:inL d (dt ops n b.o)=YK:=eB.2 u;simp only[fT,q,this,YY,Bool.true_or]
theorem NT{a b:It}(q:b.o.dst=WB d)(u:d∈dt ops n a.o):fT ops n a b=YK:=by have:inL d (dt ops n a.o)=YK:=eB.2 u;simp only[fT,q,this,YY,Bool.true_or]
theorem J9{a b:It}(q:d∈a.wk)(u:d∈b.rd):fT ops n a b=YK:=by have:meet a.wk (b.rd++b.wk++b.nw)=YK:=mf.2 ⟨d,q,by simp only[We];exact .inl (.inl u)⟩;simp only[fT,this,YY,Bool.true_or]
theorem Ov{a b:It}(q:d∈b.wk)(u:d∈a.rd):fT ops n a b=YK:=by have:meet b.wk (a.rd++a.nw)=YK:=mf.2 ⟨d,q,by simp only[We];exact .inl u⟩;simp only[fT,this,YY,Bool.true_or]
theorem AL{a b:It}(q:d∈a.nw)(u:d∈b.nw):fT ops n a b=YK:=by have:meet a.nw (b.rd++b.nw)=YK:=mf.2 ⟨d,q,by simp only[We];exact .inr u⟩;simp only[fT,this,YY,Bool.true_or]
abbrev Dn(listed:Array Bool):Nat->Bool:=λi=>listed.getD i YL
structure Lst(ops:YZ)(listed:Array Bool)(fuel:Nat)(acc:List It)(Rl:ee):Prop where
 sz:listed.size=ops.size
 fuel:∃us:ee,us.length<=fuel/\∀i,i<ops.size->Dn listed i=YL->i∈us
 cl:∀j o,ops[j]? =WB o->Dn listed j=YK->∀e∈o.after,Region.binds .any e=YK->Dn listed e.on=YK
 sub:∀i,Dn listed i=YK->i∈acc.map (·.i)
 rl:∀i∈Rl,Dn listed i=YK
theorem iS(q:listed.size=ops.size):i∈Region.ready .any ops listed↔i<ops.size/\Dn listed i=YL/\∀o,ops[i]? =WB o->∀e∈o.after,Region.binds .any e=YK->Dn listed e.on=YK:=by
 unfold Region.ready;rw[VU];simp only[Wi,aJ,XF];constructor
 .grind[Array.all_eq_true_iff_forall_mem.1]
 grind
theorem tM(q:kg 0 ops.toList=YK)(u:listed.size=ops.size)(B:Region.ready .any ops listed=[]):∀i,i<ops.size->Dn listed i=YK:=by
 intro i;induction i using Nat.strongRecOn with
 | _ i ih=>
   intro hi;cases hb:Dn listed i with
   |true=>rfl
   | false=>
     exfalso;have:i∈Region.ready .any ops listed:=(iS u).2 ⟨hi,hb,λo ho e he hbd=>by
      have:=Dj q (i:=i) (o:=o) (by simpa using ho) e he hbd;exact ih e.on Zi Zi⟩
     rw[B]at this;simp at this
theorem fW(q:i<listed.size)(j:Nat):Dn (listed.setIfInBounds i YK) j=(Dn listed j||Nat.beq j i):=by
 simp only[Dn,XI,XR];by_cases e:i=j
 .subst e;simp[q]
 have hb:Nat.beq j i=YL:=by cases hb:Nat.beq j i;rfl;exact absurd (bN hb).symm e
 simp[e,hb]
theorem Lst.next{acc:List It}(h:Lst ops listed (fuel+1) acc Rl)(E:i∈Region.ready .any ops listed){acc':List It}{Rl':ee}(u:∀j,j∈acc.map (·.i)\/j=i->j∈acc'.map (·.i))(D:∀j∈Rl',j∈Rl\/j=i):
  Lst ops (listed.setIfInBounds i YK) fuel acc' Rl':=by
 obtain⟨hi,hDi,hedg⟩:=(iS h.sz).1 E;have q:i<listed.size:=by rw[h.sz];exact hi
 obtain⟨us,hu1,hu2⟩:=h.fuel;refine⟨by simpa using h.sz,⟨us.erase i,?_,?_⟩,?_,?_,?_⟩
 .grind
 .intro j hj hjl;rw[fW q]at hjl;simp only[V8]at hjl;have B:j≠i:=λe=>by subst e;simp at hjl
  exact(List.mem_erase_of_ne B).2 (hu2 j hj hjl.1)
 .intro j o' ho' hj e he hb;rw[fW q]at hj ⊢;by_cases e1:j=i
  .subst e1;rw[hedg o' ho' e he hb];rfl
  have hb':Nat.beq j i=YL:=by cases hb:Nat.beq j i;rfl;exact absurd (bN hb) e1
  rw[hb',Xu]at hj;rw[h.cl j o' ho' hj e he hb];rfl
 .intro j hj;rw[fW q]at hj;rcases(Bool.or_eq_true_iff).1 hj with hj|hj
  .exact u j (.inl (h.sub j hj))
  simp_all
 .intro j hj;rw[fW q];rcases D j hj with h'|h'
  .rw[h.rl j h'];rfl
  subst h';simp
theorem Lst.clo(u:LZ ops.toList []=cl){acc:List It}(h:Lst ops listed fuel acc Rl)(D:Dn listed j=YK)(B:i∈(cl[j]?).getD []):Dn listed i=YK:=by rw[<-u]at B;exact Kn (Dn listed) ops.toList (λk q hq=>h.cl k q (by simpa using hq)) ops.toList [] O Zm j D i B
theorem tR(Z:LZ ops.toList []=cl){σ0:St}{l1:List It}{it:It}{l2:List It}(hG:Good C n ops cl σ0 Rl (l1++it::l2))(hL:Lst ops listed (fuel+1) (l1++it::l2) Rl)
  (hr:it.i∈Region.ready .any ops listed) {a:Act} {w:World} (hsj:SJ C n (fm (Dn listed) σ0 (l1++it::l2)) a w) {Q:Exit->Act->World->Prop}
  (next:∀a' w',Lst ops (listed.setIfInBounds it.i YK) fuel (l1++it::l2) Rl->SJ C n (fm (Dn (listed.setIfInBounds it.i YK)) σ0 (l1++it::l2)) a' w'->wpAny C.P .any ops Q fuel (listed.setIfInBounds it.i YK) a' w'):
  wpOp C.P ops Q it.i (wpAny C.P .any ops Q fuel (listed.setIfInBounds it.i YK)) a w:=by
 obtain⟨hi,hDi,hedg⟩:=(iS hL.sz).1 hr;have L:it.i<listed.size:=by rw[hL.sz];exact hi
 have M:=hG.split;have Y:Lst ops (listed.setIfInBounds it.i YK) fuel (l1++it::l2) Rl:=hL.next hr (λj hj=>by grind) (λj hj=> .inl hj);have U:∀b∈l1,fT ops n it b=YK->Dn listed b.i=YL:=by
  intro b hb hc;cases hd:Dn listed b.i with
  |false=>rfl
  | true=>
    have:=hL.clo Z hd ((hG.waits b hb).1 hc);rw[hDi]at this;cases this
 have B:∀b∈l2,fT ops n b it=YK->Dn listed b.i=YK:=by
  intro b hb hc;have G:=Y.clo Z (j:=it.i) (i:=b.i) (by rw[fW L];simp) ((M.KN b hb).1 hc);rw[fW L]at G;have W:Nat.beq b.i it.i=YL:=by cases W:Nat.beq b.i it.i;rfl;exact absurd (bN W) (M.KN b hb).2
  rwa [W,Xu]at G
 have D:=hG.mem;obtain⟨hspec,hnwall,_,ho,hwk,hnw,_⟩:=M;have hlj:LJ C n ops it.o (fm (λ_=>YK) σ0 l2) it.s it.rd:=by
  rcases hspec with h|h
  .have:=hL.rl it.i h;rw[hDi]at this;cases this
  exact h
 have E:∀{α:Type}(g:St->α),(∀b∈l1++it::l2,∀τ τ':St,g τ=g τ'->g (τ.app b.o.dst b.s)=g (τ'.app b.o.dst b.s))->(∀b∈l1,fT ops n it b=YK\/∀τ:St,g (τ.app b.o.dst b.s)=g τ)->(∀b∈l2,fT ops n b it=YK\/∀τ:St,g (τ.app b.o.dst b.s)=g τ)->
   g (fm (Dn listed) σ0 (l1++it::l2))=g (fm (λ_=>YK) σ0 l2):=by
  intro α g h0 G h2;rw[zS g (Dn listed) l1 (λb hb=>(G b hb).imp (U b hb) id)];have:g (fm (Dn listed) σ0 (it::l2))=g (fm (Dn listed) σ0 l2):=by simp only[fm,hDi,Wo]
  rw[this];exact qE g _ _ l2 (λb hb=>(h2 b hb).imp (λhc=>B b hb hc) id) (λb hb=>h0 b (by simp[hb]))
 have agr:Agr n ops it.o (fm (λ_=>YK) σ0 l2) (fm (Dn listed) σ0 (l1++it::l2)) it.s it.rd:=by
  have H:∀t,t∈dt ops n it.o->(fm (Dn listed) σ0 (l1++it::l2)).sl t=(fm (λ_=>YK) σ0 l2).sl t:=by
   intro t ht;refine E (λτ=>τ.sl t) (λb _=>J7 b t) (λb _=>?_) (λb _=>?_)
   .grind[NT,Ho]
   grind[Kb,Ho]
  refine⟨?_,?_,?_,?_⟩
  .intro k x X;cases x with
   | tmp t=>
     have:t∈dt ops n it.o:=by
      unfold dt;refine Y5 _ (List.mem_filterMap.2 ⟨.tmp t,W8 X,O⟩)
     simp only[St.ev,H t this]
   |_=>rfl
  .intro t ht;have:t∈dt ops n it.o:=by grind[dt,List.mem_append_right]
   simp only[St.ev,H t this]
  .intro k q hq;have I:q∈it.rd:=W8 hq;refine E (λτ=>τ.ob q) (λb _=>LN b q) (λb hb=>?_) (λb hb=>?_)
   .grind[Ov,xE]
   grind[J9,xE]
  .intro k q hq;have I:q∈it.nw:=by rw[<-hnw];exact W8 hq
   have G:=IN.1 hnwall q I;have:=E (λτ=>τ.av q) (λb _=>Ll b q) (λb hb=>?_) (λb hb=>?_)
   .exact this.trans G
   .grind[AL,HU]
   grind[AL,HU]
 have X:=hlj _ agr;have ins:fm (Dn (listed.setIfInBounds it.i YK)) σ0 (l1++it::l2)=(fm (Dn listed) σ0 (l1++it::l2)).app it.o.dst it.s:=by
  have e:Dn (listed.setIfInBounds it.i YK)=λj=>Dn listed j||Nat.beq j it.i:=funext (fW L)
  rw[e];refine D0 (n:=n) (ops:=ops) hDi hwk (λb hb=>?_) l1 (λb hb=>⟨(hG.waits b hb).2,(D b (by simp[hb])).2.1,λhd=>?_⟩)
  .exact(hG.split.KN b hb).2
  grind
 have u:∀a' w',SJ C n ((fm (Dn listed) σ0 (l1++it::l2)).app it.o.dst it.s) a' w'->wpAny C.P .any ops Q fuel (listed.setIfInBounds it.i YK) a' w':=λa' w' h=>next a' w' Y (by rw[ins];exact h)
 unfold wpOp;rw[ho];simp only;cases hg:it.o.guard with
 | none=>
   rw[hg]at X;simp only[Region.wanted,hg,Yk];refine .inl (Oper.wp_mono ?_ (X a w _ hsj));rintro a' w' ⟨σ',rfl,hsj'⟩;exact u a' w' hsj'
 | some jw=>
   obtain⟨j,want⟩:=jw;rw[hg]at X;obtain⟨b,hb,G,h2⟩:=X;obtain⟨m,R,hw⟩:=hsj;have hy:=fN hw hb;simp only[Region.wanted,hg,hy];by_cases hbw:b=WB want
   .subst hbw;simp only[WE,Yk];refine .inl (Oper.wp_mono ?_ (G O a w _ ⟨m,R,hw⟩));rintro a' w' ⟨σ',rfl,hsj'⟩;exact u a' w' hsj'
   have:(b==WB want)=YL:=by simpa using hbw
   simp only[this,Wj,Yd];refine u _ _ ?_;rw[h2 hbw,St.jb];exact⟨m,R,hw.put it.o.dst (GF _ _ _ _)⟩
theorem DL.sound(M:LZ ops.toList []=cl)(U:kg 0 ops.toList=YK)(σ0:St)(K:ZA)(Q:Exit->Act->World->Prop)(hQ:∀a w,(∃σ',K σ'/\SJ C n σ' a w)->Q .normal a w):
  ∀(is:ee)(acc:List It)(Rl:ee),DL C n ops cl is acc K (fm (λ_=>YK) σ0 acc)->Good C n ops cl σ0 Rl acc->
   ∀fuel listed a w,Lst ops listed fuel acc Rl->SJ C n (fm (Dn listed) σ0 acc) a w->wpAny C.P .any ops Q fuel listed a w:=by
 intro is;induction is with
 | nil=>
   intro acc Rl hD hG fuel;obtain⟨hcov,hK⟩:=hD;have CX:∀i,i<ops.size->∃l1 it l2,acc=l1++it::l2/\it.i=i:=by
    intro i hi;have:=eB.1 (IN.1 hcov i (by simpa using hi));obtain⟨it,hm,rfl⟩:=VS.1 this;obtain⟨l1,l2,e⟩:=List.append_of_mem hm;exact⟨l1,it,l2,e,O⟩
   have X:∀listed a w,(∀i,i<ops.size->Dn listed i=YK)->SJ C n (fm (Dn listed) σ0 acc) a w->Q .normal a w:=by
    intro listed a w H hsj;refine hQ a w ⟨_,hK,?_⟩;have e:fm (Dn listed) σ0 acc=fm (λ_=>YK) σ0 acc:=by
     refine qE (σ0:=σ0) (λτ=>τ) (Dn listed) (λ_=>YK) acc (λb hb=> .inl (H b.i ?_)) (λb _ τ τ' h=>by rw[h]);exact(VP.1 (hG.mem b hb).1).1
    rw[<-e];exact hsj
   induction fuel with
   | zero=>
     intro listed a w hL hsj;obtain⟨us,hu1,hu2⟩:=hL.fuel;have H:∀i,i<ops.size->Dn listed i=YK:=by grind
     refine⟨?_,X listed a w H hsj⟩;apply List.eq_nil_iff_forall_not_mem.2;intro i hi;have:=(iS hL.sz).1 hi;rw[H i this.1]at this;simp at this
   | succ fuel ih=>
     intro listed a w hL hsj;refine⟨λhr=>X listed a w (tM U hL.sz hr) hsj,?_⟩;intro i hir;obtain⟨l1,it,l2,rfl,rfl⟩:=CX i ((iS hL.sz).1 hir).1;exact tR M hG hL hir hsj (λa' w' E B=>ih _ a' w' E B)
 | cons i is ih=>
   intro acc Rl hD hG;obtain⟨o,ho,hD|hD⟩:=hD
   .obtain⟨s,rd,hlj,hnw,hnew,hD⟩:=hD;intro fuel listed a w hL hsj;have W:Dn listed i=YL:=by
     cases hb:Dn listed i with
     |false=>rfl
     | true=>
       obtain⟨b,hm,e⟩:=VS.1 (hL.sub i hb);simp only[gA,aJ]at hnew;have:=IN.1 hnew.2 b hm;simp[e]at this
    have aa:fm (λ_=>YK) σ0 (⟨i,o,s,s.wr.map (·.1),s.nw,rd⟩::acc)=(fm (λ_=>YK) σ0 acc).app o.dst s:=rfl;have ab:DL C n ops cl is (⟨i,o,s,s.wr.map (·.1),s.nw,rd⟩::acc) K (fm (λ_=>YK) σ0 (⟨i,o,s,s.wr.map (·.1),s.nw,rd⟩::acc)):=by rw[aa];exact hD
    refine ih _ Rl ab ⟨.inr hlj,hnw,hnew,ho,O,O,hG⟩ fuel listed a w ⟨hL.sz,hL.fuel,hL.cl,λj hj=>?_,hL.rl⟩ ?_
    .simp only[ed,By];exact .inr (hL.sub j hj)
    grind[fm]
   obtain⟨P,wk,nw,rd,hlj,hnw,hnew,hsucc,hcov,hD⟩:=hD;have W:∀{listed fuel},Lst ops listed fuel acc Rl->Dn listed i=YL:=by
    intro listed fuel hL;cases hb:Dn listed i with
    |false=>rfl
    | true=>
      obtain⟨b,hm,e⟩:=VS.1 (hL.sub i hb);simp only[gA,aJ]at hnew;have:=IN.1 hnew.2 b hm;simp[e]at this
   have Y:i<ops.size:=(VP.1 ho).1;intro fuel;induction fuel with
   | zero=>
     intro listed a w hL hsj;obtain⟨us,hu1,hu2⟩:=hL.fuel;have E:=hu2 i Y (W hL);have B:us=[]:=Wl Zi;rw[B]at E;simp at E
   | succ fuel ihf=>
     intro listed a w hL hsj;refine⟨λhr=>?_,?_⟩
     .have:=tM U hL.sz hr i Y;rw[W hL]at this;cases this
     .intro j hjr;obtain⟨hj,hDj,hedgj⟩:=(iS hL.sz).1 hjr;by_cases e:j=i
      ·
       subst e;have I:j<listed.size:=by rw[hL.sz];exact hj
       have agr:Agr n ops o (fm (λ_=>YK) σ0 acc) (fm (Dn listed) σ0 acc) ⟨.pv .any,[],nw⟩ rd:=by
           have hIt:∀(s:OS),s.wr.map (·.1)=wk->s.nw=nw->∀b∈acc,fT ops n b ⟨j,o,s,wk,nw,rd⟩=YK->Dn listed b.i=YK:=by
            intro s _ _ b hb hc;simp only[gA,aJ]at hnew;have E:=IN.1 hnew.1 b hb;have hc':fT ops n b ⟨j,o,⟨.pv .any,[],[]⟩,wk,nw,rd⟩=YK:=hc;rw[hc']at E;have u:=eB.1 (by simpa using E:inL b.i ((cl[j]?).getD [])=YK);have G:Lst ops (listed.setIfInBounds j YK) fuel (⟨j,o,s,wk,nw,rd⟩::acc) Rl:=hL.next hjr (λk hk=>by simp only[ed,By];exact hk.symm) (λk hk=> .inl hk);have B:=G.clo M (j:=j) (i:=b.i) (by rw[fW I];simp) u;rw[fW I]at B;have h3:=IN.1 hnew.2 b hb;have D:Nat.beq b.i j=YL:=by simpa using h3
            rwa [D,Xu]at B
           have L:∀{α:Type}(g:St->α),(∀b∈acc,∀τ τ':St,g τ=g τ'->g (τ.app b.o.dst b.s)=g (τ'.app b.o.dst b.s))->(∀b∈acc,fT ops n b ⟨j,o,⟨.pv .any,[],[]⟩,wk,nw,rd⟩=YK\/∀τ:St,g (τ.app b.o.dst b.s)=g τ)->g (fm (Dn listed) σ0 acc)=g (fm (λ_=>YK) σ0 acc):=by
            intro α g h0 B;exact qE g _ _ acc (λb hb=>(B b hb).imp (λhc=>by
             simp only[gA,aJ]at hnew;have E:=IN.1 hnew.1 b hb;rw[hc]at E;have u:=eB.1 (by simpa using E:inL b.i ((cl[j]?).getD [])=YK);have G:Lst ops (listed.setIfInBounds j YK) fuel (⟨j,o,⟨.pv .any,[],[]⟩,wk,nw,rd⟩::acc) Rl:=hL.next hjr (λk hk=>by simp only[ed,By];exact hk.symm) (λk hk=> .inl hk);have B:=G.clo M (j:=j) (i:=b.i) (by rw[fW I];simp) u;rw[fW I]at B;have h3:=IN.1 hnew.2 b hb;have D:Nat.beq b.i j=YL:=by simpa using h3
             rwa [D,Xu]at B) id) h0
           have Z:∀t,t∈dt ops n o->(fm (Dn listed) σ0 acc).sl t=(fm (λ_=>YK) σ0 acc).sl t:=by
            intro t ht;refine L (λτ=>τ.sl t) (λb _=>J7 b t) (λb _=>?_);by_cases hd:b.o.dst=WB t
            .exact .inl (Kb (b:=⟨j,o,⟨.pv .any,[],[]⟩,wk,nw,rd⟩) hd ht)
            exact .inr (Ho hd)
           refine⟨?_,?_,?_,?_⟩
           .intro k x hx;cases x with
            | tmp t=>
              have:t∈dt ops n o:=by
               unfold dt;refine Y5 _ (List.mem_filterMap.2 ⟨.tmp t,W8 hx,O⟩)
              simp only[St.ev,Z t this]
            |_=>rfl
           .intro t ht;have:t∈dt ops n o:=by grind[dt,List.mem_append_right]
            simp only[St.ev,Z t this]
           .intro k q hq;have u:q∈rd:=W8 hq;refine L (λτ=>τ.ob q) (λb _=>LN b q) (λb hb=>?_);by_cases hd:q∈b.s.wr.map (·.1)
            .exact .inl (J9 (b:=⟨j,o,⟨.pv .any,[],[]⟩,wk,nw,rd⟩) (by rw[<-(hG.mem b hb).2.1];exact hd) u)
            exact .inr (xE hd)
           .intro k q hq;have u:q∈nw:=W8 hq;have E:=IN.1 hnw q u;refine(L (λτ=>τ.av q) (λb _=>Ll b q) (λb hb=>?_)).trans E;by_cases hd:q∈b.s.nw
            .exact .inl (AL (b:=⟨j,o,⟨.pv .any,[],[]⟩,wk,nw,rd⟩) (by rw[<-(hG.mem b hb).2.2];exact hd) u)
            exact .inr (HU hd)
       obtain ⟨hg,hx⟩:=hlj _ agr;have wop:∀(K':Act->World->Prop),Oper.wp C.P o a w K' Q->wpOp C.P ops Q j K' a w:=by
           intro K' hK;unfold wpOp;rw[ho];cases hgd:o.guard with
           | none=>
             simp only[Region.wanted,hgd,Yk];exact .inl hK
           | some jw=>
             obtain⟨q,want⟩:=jw;unfold gOk at hg;rw[hgd]at hg;obtain⟨m,R,hw⟩:=hsj;have hy:=fN hw hg;simp only[Region.wanted,hgd,hy,WE,Yk];exact .inl hK
       refine wop _ (Oper.wp_mono ?_ (hx a w _ hsj));rintro a' w' ⟨σ',⟨s,hP,E,B,rfl⟩,hsj'⟩;have G:Lst ops (listed.setIfInBounds j YK) fuel (⟨j,o,s,wk,nw,rd⟩::acc) (j::Rl):=hL.next hjr (λk hk=>by simp only[ed,By];exact hk.symm) (λk hk=>by grind);have hGr:∀{l:List It},Good C n ops cl σ0 Rl l->Good C n ops cl σ0 (j::Rl) l:=by
           intro l;induction l with
           |nil=>intro _;trivial
           | cons b l ihl=>
             intro h;exact⟨h.1.imp (λh=>VX _ h) id,h.2.1,h.2.2.1,h.2.2.2.1,h.2.2.2.2.1,h.2.2.2.2.2.1,ihl h.2.2.2.2.2.2⟩
       have aa:fm (λ_=>YK) σ0 (⟨j,o,s,wk,nw,rd⟩::acc)=(fm (λ_=>YK) σ0 acc).app o.dst s:=rfl;have ab:DL C n ops cl is (⟨j,o,s,wk,nw,rd⟩::acc) K (fm (λ_=>YK) σ0 (⟨j,o,s,wk,nw,rd⟩::acc)):=by rw[aa];exact hD s hP E B
       refine ih _ (j::Rl) ab ⟨.inl Zm,hnw,hnew,ho,E,B,hGr hG⟩ fuel _ a' w' G ?_;have hjD:Dn (listed.setIfInBounds j YK) j=YK:=by rw[fW I];simp
       have same:fm (Dn (listed.setIfInBounds j YK)) σ0 acc=fm (Dn listed) σ0 acc:=by
           refine qE (σ0:=σ0) (λτ=>τ) _ _ acc (λb hb=> .inl ?_) (λb _ τ τ' h=>by rw[h]);rw[fW I];simp only[gA,aJ]at hnew;have h3:=IN.1 hnew.2 b hb;have D:Nat.beq b.i j=YL:=by simpa using h3
           rw[D,Xu]
       simp only[fm,hjD,Xe,same];exact hsj'
      ·
       have hc:=IN.1 hcov j (by simpa using hj);rcases(Bool.or_eq_true_iff).1 hc with hc|hc
       .exfalso;have hc:=eB.1 hc;rcases By.1 hc with hc|hc
        .exact e hc
        have hin:=eB.1 (IN.1 hsucc j hc);have hjl:j<listed.size:=by rw[hL.sz];exact hj
        have G:Lst ops (listed.setIfInBounds j YK) fuel (⟨j,o,⟨.pv .any,[],[]⟩,wk,nw,rd⟩::acc) Rl:=hL.next hjr (λk hk=>by simp only[ed,By];exact hk.symm) (λk hk=> .inl hk);have B:=G.clo M (j:=j) (i:=i) (by rw[fW hjl];simp) hin;rw[fW hjl]at B;have D:Nat.beq i j=YL:=by cases D:Nat.beq i j;rfl;exact absurd (bN D).symm e
        rw[D,Xu,W hL]at B;cases B
       obtain⟨it,hm,rfl⟩:=VS.1 (eB.1 hc);obtain⟨l1,l2,rfl⟩:=List.append_of_mem hm;exact tR M hG hL hjr hsj (λa' w' E B=>ihf _ a' w' E B)
theorem AW.draw{Q:Exit->ZA}(B:C.P.follows .mixedOrders=YK)(cl:List ee)(is:ee)(u:LZ ops.toList []=cl)(q:kg 0 ops.toList=YK)(h:DL C n ops cl is [] (Q .normal) σ):AW C n (.region id ops YK) Q σ:=by
 refine⟨λa w hsj=>wp_region_any B ?_⟩;refine DL.sound (C:=C) (n:=n) u q σ (Q .normal) _ (λa w h=>h) is [] [] h trivial ops.size _ a _ ⟨Zm,⟨List.range ops.size,Zm,λi hi _=>by simpa using hi⟩,?_,?_,Zm⟩ ?_
 .intro j o _ hj;exfalso;simp only[Dn,XI,Array.getElem?_replicate]at hj;split at hj<;>simp at hj
 .intro j hj;exfalso;simp only[Dn,XI,Array.getElem?_replicate]at hj;split at hj<;>simp at hj
 obtain⟨m,R,hw⟩:=hsj;exact⟨m,R,hw.drew O O O O⟩
end
end
section
def mkZ(zs:na)(n:Nat):na:=(List.range n).map λi=>zs.getD (i%zs.length) .any
theorem ct(z:PV)(n:Nat):mkZ [z] n=List.replicate n z:=by
 unfold mkZ;apply WU
 .simp
 .intro i h1 h2;simp[Nat.mod_one]
def dT(place:Nat->Option (Nat×Nat))(ob:Nat->va)(cells:nR):Zx->Option nR
 |[]=>WB cells
 | (i,v)::rest=>match place i with
   |none=>WC
   |some (off,size)=>bif (Nat.beq v.cells.length size&&Nat.ble (off+size) cells.length&&v.cells.all (λc=>c.leaf&&c.cq ob)&&v.cq ob)then dT place ob (k7 cells off v.cells) rest else WC
def Df(l:List (Nat×Nat))(i:Nat):Option (Nat×Nat):=l[i]?
def placesOf(P:Program)(t:TypeId):Option (List (Nat×Nat)):=
 match P.underlying t with
 |some (.struct fs)=>fs.toList.mapM λf=>(P.info? f.type).map λi=>(f.offset,i.size)
 |_=>WC
theorem ue(off:Nat):∀(vs:e7)(arr:YT)(k:Nat),off+k+vs.length<=arr.size->
  ((vs.zipIdx k).foldl (λcs (x:Value×Nat)=>cs.setIfInBounds (off+x.2) x.1) arr).toList=k7 arr.toList (off+k) vs
 |[],arr,k,_=>by simp[k7]
 | v::vs,arr,k,h=>by
   simp only[VI]at h;simp only[List.zipIdx_cons,W5];rw[ue off vs _ (k+1) Zn];simp only[k7,Array.toList_setIfInBounds,VI];apply Ys;intro i;simp only[List.getElem?_append,Hb,Vz,VN,Wg,V2,WM,VI];have e1:min (off+k) arr.size=off+k:=Zi;have q:min (off+(k+1)) arr.size=off+k+1:=Zi;simp only[e1,q];by_cases a:i<off+k
   .grind
   grind
section
variable {C:Ctx}{n:Nat}{σ:St}{a:Act}{w:World}{m:Gm}{R:ew}
theorem SW.cellsOf(G:SW C n σ a w m R){v:V}{u:Value}(E:Rel w m σ.av R v u)(hl:v.cells.all (λc=>c.leaf&&c.cq σ.ob)=YK)(B:v.cq σ.ob=YK):
  ZJ w m σ.av R v.cells u.cells.toList/\∀c∈u.cells.toList,c.oneCell'=YK:=by
 have q:∀i,cC (σ.ob i)=YK->(m i).isSome=YK:=λi hi=>by rw[G.hr.dom];exact hi
 have D:∀c∈v.cells,c.leaf=YK/\c.cq σ.ob=YK:=by simpa using hl
 have hc:=E.cells (λc hc=>(D c hc).1) (λi o e=>q _ (by rw[e]at B;exact B)) (λi s k e=>q _ (by rw[e]at B;exact B)) (λi e=>q _ (by rw[e]at B;exact B));exact⟨hc,oU hc (λc hc=>(D c hc).1) (λc hc i o e=>q _ (by have:=(D c hc).2;rw[e]at this;exact this)) (λc hc i s k e=>q _ (by have:=(D c hc).2;rw[e]at this;exact this)) (λc hc i e=>q _ (by have:=(D c hc).2;rw[e]at this;exact this))⟩
theorem SW.fill(D:SW C n σ a w m R)(place:Nat->Option (Nat×Nat)):∀(ps:List (Nat×Operand))(cells cs':nR)(arr:YT),ZJ w m σ.av R cells arr.toList->
  dT place σ.ob cells (ps.map λp=>(p.1,σ.ev n p.2))=WB cs'->∃arr',Instr.fill place arr (ps.map λp=>(p.1,a.eval p.2))=WB arr'/\ZJ w m σ.av R cs' arr'.toList
 | [],cells,cs',arr,hr,h=>by
   simp only[Wd,dT,VM]at h;subst h;exact⟨arr,O,hr⟩
 | (i,x)::ps,cells,cs',arr,hr,h=>by
   simp only[ed,dT]at h;split at h
   .cases h
   rename_i off size hp;rw[Bool.cond_eq_ite]at h;split at h
   .rename_i hc;simp only[aJ]at hc;obtain⟨⟨⟨E,G⟩,h3⟩,h4⟩:=hc;have E:=bN E;have G:=V7 G;obtain⟨hcl,_⟩:=D.cellsOf (D.ev x) h3 h4;have hl:=hcl.length;have B:=hr.length;simp only[Wg]at hl B;have q:=ue off (a.eval x).cells.toList arr 0 Zn;simp only[XG]at q;obtain⟨arr',hf,hr'⟩:=SW.fill D place ps _ cs' (((a.eval x).cells.toList.zipIdx 0).foldl (λcs (x:Value×Nat)=>cs.setIfInBounds (off+x.2) x.1) arr) (by rw[q];exact hr.k7 off hcl) h;refine⟨arr',?_,hr'⟩;simp only[ed,Instr.fill,hp];have u:((a.eval x).cells.size≠size||off+(a.eval x).cells.size>arr.size)=YL:=by grind
    rw[u];simp only[Wj,Yd];have:(a.eval x).cells.zipIdx.foldl (λcs (x:Value×Nat)=>cs.setIfInBounds (off+x.2) x.1) arr=((a.eval x).cells.toList.zipIdx 0).foldl (λcs (x:Value×Nat)=>cs.setIfInBounds (off+x.2) x.1) arr:=by
     rw[<-Array.foldl_toList];simp
    exact this▸hf
   cases h
end
section
variable {C:Ctx}{n:Nat}{σ:St}{dst:YX}{ty t t':TypeId}{ts:Array TypeId}{pos:String}{after:Y4}{gd:Option (Nat×Bool)}{x y:Operand}
theorem qa{v:V}(q:σ.ev n x=v):XJ C n ⟨dst,.move x,ty,pos,after,gd⟩ σ ⟨v,[],[]⟩:=q▸oJ
theorem EE{v:V}(q:σ.ev n x=v):XJ C n ⟨dst,.assign x,ty,pos,after,gd⟩ σ ⟨v,[],[]⟩:=q▸Gw
theorem Pj{c:Operand}{v:V}(hc:σ.ev n c= .pv (.bool YK))(q:σ.ev n x=v):XJ C n ⟨dst,.pick c x y,ty,pos,after,gd⟩ σ ⟨v,[],[]⟩:=q▸Ae hc
theorem Oc{c:Operand}{v:V}(hc:σ.ev n c= .pv (.bool YL))(q:σ.ev n y=v):XJ C n ⟨dst,.pick c x y,ty,pos,after,gd⟩ σ ⟨v,[],[]⟩:=q▸Ae hc
theorem Ap{o:Ob}(B:σ.ev n x= .ptr id off)(ho:σ.ob id=WB o)(u:o.real=YK:=by rfl):XJ C n ⟨dst,.nilCheck x,ty,pos,after,gd⟩ σ ⟨.ptr id off,[],[]⟩:=
 .val λa w m R hw=>by
  obtain⟨b,N,he,hm,_⟩:=hw.ptr B ho u;have q:=hw.ev x;rw[B]at q;exact⟨a.eval x,by simp[execOp,he],q⟩
theorem zi(B:σ.ev n x= .pv (.rp cs off)):XJ C n ⟨dst,.nilCheck x,ty,pos,after,gd⟩ σ ⟨.pv (.rp cs off),[],[]⟩:=
 .val λa w m R hw=>by
  have q:=hw.pv B;have u:=q;simp only[ZH]at u;obtain⟨b,o,us,he,_⟩:=u;exact⟨a.eval x,by simp[execOp,he],by simpa only[Rel]using q⟩
theorem lN{kc:IntKind}{ic:Int}(id k:Nat)(G:ZP C.P T e z size bytes)(H:z.cells.toList.map fq=zs)(hx:σ.ev n x= .pv (.int kl il))(hy:σ.ev n y= .pv (.int kc ic))(W:il=(k:Int))(X:ic=(k:Int))(hk:k<=1000000000)(Y:σ.av id=YK):
  XJ C n ⟨dst,.makeSlice T x y,ty,pos,after,gd⟩ σ ⟨.bJ id size k,[(id,WB (.cells e (mkZ zs (k*size))))],[id]⟩:=by
 subst W X;rintro a w Q ⟨m,R,hw⟩;obtain⟨i,hi,hz,hsize,hbytes⟩:=info_parts G.info;have I:(i.bytes:Int)*(k:Int)<=281474976710656:=by
  have Z:bytes*k<=1000*1000000000:=Xa G.by_ hk;rw[hbytes];have h3:((bytes*k:Nat):Int)<=((1000*1000000000:Nat):Int):=Int.ofNat_le.2 Z;rw[XK]at h3;omega
 have q:=run_make (P:=C.P) w T e i z G.u hi hz kl kc k k Zi (Int.le_refl _) I Zi;simp only[Wh,hsize]at q;have B:(execOp a.eval ⟨dst,.makeSlice T x y,ty,pos,after,gd⟩).run C.P w= .ok (.value (.slice (WB ⟨w.heap.size,0,WC⟩) k k)) (w.alloc (.cells (madeCells z.cells (k*size)) e)):=by
  simp only[execOp,hw.int hx,hw.int hy,Sem.run_bind,q,Result.andThen_ok,Sem.run_pure]
 unfold Oper.wp;rw[B];have D:(madeCells z.cells (k*size)).size=k*size:=size_madeCells _ _;refine⟨_,O,upd m id (WB (w.heap.size,(madeCells z.cells (k*size)).size)),R,?_⟩;rw[Vu];refine SW.put (hw.alloc Y _ e (.cells e (mkZ zs (k*size))) ?_) dst ?_
 .intro w' m' av' hR hm ha hb;have hl:(mkZ zs (k*size)).length=k*size:=by simp[mkZ]
  refine⟨_,hb,O,by rw[hl,D];exact BY _,?_⟩;rw[aG (by rw[hl];simp[D])];have L:zs.length=z.cells.size:=by rw[<-H];simp
  have M:∀l:ee,(∀j∈l,True)->ZG w' R (l.map λi=>zs.getD (i%zs.length) .any) (l.map λi=>z.cells[i%z.cells.size]!):=by
   intro l;induction l with
   |nil=>intro _;simpa using ZG.nil
   | cons j l ih=>
     intro _;simp only[ed];refine ZG.cons ?_ (ih (λ_ _=>trivial));have E:0<z.cells.size:=by rw[G.zs];exact G.pos
     have U:j%z.cells.size<z.cells.size:=WI _ E;rw[L,<-H];have e1:(z.cells.toList.map fq).getD (j%z.cells.size) .any=fq (z.cells[j%z.cells.size]!):=by
      simp[VO,U]
     rw[e1];exact fl w' R _
  have:=M (List.range (k*size)) (λ_ _=>trivial);simpa[mkZ,madeCells]using this
 simp only[Rel];refine⟨by simp[avL],λb N e=>?_⟩;rw[aA]at e;cases e;exact⟨k,O,BY _,by simp only[maxLen];omega,D⟩
structure BuiltIs(P:Program)(T:TypeId)(zs:na)(place:Nat->Option (Nat×Nat)):Prop where
 go:∃z:Value,z.cells.toList.map fq=zs/\∀parts,P.built T parts=Instr.fill place z.cells parts
theorem BuiltIs.struct{pl:List (Nat×Nat)}(D:(P.info? T).map (·.zero)=WB (WB z))(E:z.cells.toList.map fq=zs)(u:placesOf P T=WB pl):BuiltIs P T zs (Df pl):=by
 refine⟨z,E,λB=>?_⟩;unfold placesOf at u;split at u
 .rename_i fs hu;cases hq:P.info? T with
  |none=>simp[hq]at D
  | some ti=>
    simp[hq]at D;have q:(λi=>pl.toArray[i]?)=Df pl:=by funext i;simp[Df]
    unfold Program.built;simp only[hq,hu,D,u,q]
 cases u
theorem BuiltIs.array(D:P.underlying T=WB (.array k e))(u:(P.info? T).map (·.zero)=WB (WB z))(B:z.cells.toList.map fq=zs)(hs:b8 P e s):BuiltIs P T zs (λi=>WB (i*s,s)):=by
 refine⟨z,B,λq=>?_⟩;cases hq:P.info? T with
 |none=>simp[hq]at u
 | some ti=>
   simp[hq]at u;unfold b8 at hs;cases he:P.info? e with
   |none=>simp[he]at hs
   | some ei=>
     simp[he]at hs;unfold Program.built;simp only[hq,D,u,he,hs]
theorem Pd(q:z.cells.toList.map fq=zs):ZG w R zs z.cells.toList:=by
 rw[<-q];generalize z.cells.toList=l;induction l with
 |nil=>simpa using ZG.nil
 |cons x l ih=>simpa using ZG.cons (fl w R x) ih
theorem DF{parts:Array (Nat×Operand)}{place:Nat->Option (Nat×Nat)}{cs':nR}(B:BuiltIs C.P T zs place)
  (D:dT place σ.ob (zs.map .pv) (parts.toList.map λp=>(p.1,σ.ev n p.2))=WB cs'):
  XJ C n ⟨dst,.build T parts,ty,pos,after,gd⟩ σ ⟨.agg cs',[],[]⟩:=
 .val λa w m R hw=>by
  obtain⟨z,hzs,B⟩:=B.go;obtain⟨arr',hfill,hr'⟩:=hw.fill place parts.toList _ cs' z.cells (ZJ.ofP (Pd hzs)) D;have q:(parts.map λx=>(x.1,a.eval x.2)).toList=parts.toList.map λp=>(p.1,a.eval p.2):=Zm
  have u:=run_build (P:=C.P) w T (parts.map λx=>(x.1,a.eval x.2)) arr' (by rw[B,q];exact hfill);refine⟨.agg arr',?_,?_⟩
  .simp only[execOp,Sem.run_bind,u,Result.andThen_ok,Sem.run_pure]
  grind[Rel]
def V.pvs:nR->Option na
 |[]=>WB []
 | .pv p::vs=>match V.pvs vs with|some ps=>WB (p::ps)|none=>WC
 |_::_=>WC
theorem V.xU:∀{vs:nR}{ps:na},V.pvs vs=WB ps->vs=ps.map .pv
 |[],ps,h=>by simp only[V.pvs,VM]at h;subst h;rfl
 | .pv p::vs,ps,h=>by
   simp only[V.pvs]at h;split at h
   .rename_i qs hq;simp at h;subst h;simp[V.xU hq]
   cases h
 | .ptr _ _::_,_,h=>by simp[V.pvs]at h
 | .bJ _ _ _::_,_,h=>by simp[V.pvs]at h
 | .tsl _ _ _::_,_,h=>by simp[V.pvs]at h
 | .bz _ _ _::_,_,h=>by simp[V.pvs]at h
 | .map _::_,_,h=>by simp[V.pvs]at h
 | .agg _::_,_,h=>by simp[V.pvs]at h
 | .bS _::_,_,h=>by simp[V.pvs]at h
 | .fn _ _ _::_,_,h=>by simp[V.pvs]at h
theorem w5{parts:Array (Nat×Operand)}(id:Nat)(G:ZP C.P T e z size bytes)(L:z.cells.toList.map fq=zs)(hk:0<k)(hk2:k*size<=16777216)(Y:σ.av id=YK)
  {vs:nR} (hf:dT (λi=>WB (i*size,size)) σ.ob ((mkZ zs (k*size)).map .pv) (parts.toList.map λp=>(p.1,σ.ev n p.2))=WB vs) (Z:V.pvs vs=WB cs):
  XJ C n ⟨dst,.buildSlice T k parts,ty,pos,after,gd⟩ σ ⟨.bJ id size k,[(id,WB (.cells e cs))],[id]⟩:=by
 rintro a w Q ⟨m,R,hw⟩;obtain rfl:=V.xU Z;obtain⟨i,hi,hz,hsize,hbytes⟩:=info_parts G.info;have M:zs.length=z.cells.size:=by rw[<-L];simp
 have U:∀l:ee,ZG w R (l.map λi=>zs.getD (i%zs.length) .any) (l.map λi=>z.cells[i%z.cells.size]!):=by
  intro l;induction l with
  |nil=>simpa using ZG.nil
  | cons j l ih=>
    simp only[ed];refine ZG.cons ?_ ih;have D:0<z.cells.size:=by rw[G.zs];exact G.pos
    have W:j%z.cells.size<z.cells.size:=WI _ D;rw[M,<-L];have e1:(z.cells.toList.map fq).getD (j%z.cells.size) .any=fq (z.cells[j%z.cells.size]!):=by
     simp[VO,W]
    rw[e1];exact fl w R _
 have h0:ZG w R (mkZ zs (k*size)) ((Array.range (k*size)).map (z.cells[· %z.cells.size]!)).toList:=by
  have:=U (List.range (k*size));simpa[mkZ]using this
 obtain⟨arr',hfill,hr'⟩:=hw.fill (λi=>WB (i*size,size)) parts.toList _ _ _ (ZJ.ofP h0) hf;have H:=hr'.toP;have B:(parts.map λx=>(x.1,a.eval x.2)).toList=parts.toList.map λp=>(p.1,a.eval p.2):=Zm
 have D:0<k*size:=Y1 hk G.pos;have I:=run_buildSlice (P:=C.P) w T e k (parts.map λx=>(x.1,a.eval x.2)) arr' i z G.u hi hz (by rw[hsize];omega) (by rw[hsize];omega) (by rw[B,hsize];exact hfill);have hcl:cs.length=k*size:=by
  have:∀(l:Zx)(cells cs':nR),dT (λi=>WB (i*size,size)) σ.ob cells l=WB cs'->cs'.length=cells.length:=by
   intro l;induction l with
   |nil=>intro cells cs' h;simp only[dT,VM]at h;rw[h]
   | cons p l ih=>
     obtain⟨q,v⟩:=p;intro cells cs' h;simp only[dT]at h;rw[Bool.cond_eq_ite]at h;split at h
     .rename_i hc;simp only[aJ]at hc;rw[ih _ _ h,cH];have h1:=bN hc.1.1.1;have h2:=V7 hc.1.1.2;omega
     cases h
  have:=this _ _ _ hf;simpa[mkZ]using this
 have E:(execOp a.eval ⟨dst,.buildSlice T k parts,ty,pos,after,gd⟩).run C.P w= .ok (.value (.slice (WB ⟨w.heap.size,0,WC⟩) k k)) (w.alloc (.cells arr' e)):=by
  simp only[execOp,Sem.run_bind,I,Result.andThen_ok,Sem.run_pure]
 unfold Oper.wp;rw[E];have X:arr'.size=k*size:=by have:=H.length;simp at this;omega
 refine⟨_,O,upd m id (WB (w.heap.size,arr'.size)),R,?_⟩;rw[Vu];refine SW.put (hw.alloc Y _ e (.cells e cs) ?_) dst ?_
 .intro w' m' av' hR hm ha hb;refine⟨_,hb,O,Zi,?_⟩;rw[aG Zn];exact H.mono hR
 simp only[Rel];refine⟨by simp[avL],λb N e=>?_⟩;rw[aA]at e;cases e;have:k<=k*size:=Nat.le_mul_of_pos_right k G.pos;exact⟨k,O,BY _,by simp only[maxLen];omega,X⟩
theorem Af{f:Fn}{fs cs:Array Operand}:XJ C n ⟨dst,.makeFunc f fs cs,ty,pos,after,gd⟩ σ ⟨.fn f (fs.toList.map (σ.ev n)) (cs.toList.map (σ.ev n)),[],[]⟩:=
 .val λa w m R hw=>by
  refine⟨.func f (fs.map a.eval) (cs.map a.eval),by simp[execOp,Instr.makeFunc],?_⟩;simp only[Rel];exact⟨_,_,by simp only[<-Y9,YP],hw.evs fs.toList,hw.evs cs.toList⟩
end
def V.plain:V->Bool
 | .pv _=>YK
 |_=>YL
theorem sf{ob ob':Nat->va}:∀{v:V},v.plain=YK->v.cq ob=v.cq ob'
 | .pv _,_=>rfl
theorem sy{place:Nat->Option (Nat×Nat)}{ob ob':Nat->va}:∀(l:Zx)(cells:nR),(l.all λp=>p.2.plain||p.2.cells.all V.plain&&(match p.2 with| .agg _=>YK|_=>YL))=YK->dT place ob cells l=dT place ob' cells l
 |[],_,_=>rfl
 | (i,v)::l,cells,h=>by
   simp only[Xi,aJ]at h;simp only[dT];have hv:(v.cells.all (λc=>c.leaf&&c.cq ob)&&v.cq ob)=(v.cells.all (λc=>c.leaf&&c.cq ob')&&v.cq ob'):=by
    cases v with
    | pv p=>
      have:∀c∈V.cells (.pv p),c.cq ob=c.cq ob':=by
       intro c hc;cases p with
       | agg ps=>
         simp only[V.cells,VS]at hc;obtain⟨q,_,rfl⟩:=hc;rfl
       |_=>simp only[V.cells,VH]at hc;subst hc;rfl
      have e:(V.cells (.pv p)).all (λc=>c.leaf&&c.cq ob)=(V.cells (.pv p)).all (λc=>c.leaf&&c.cq ob'):=by grind
      rw[e];rfl
    | agg cs=>
      have u:cs.all V.plain=YK:=by simpa[V.plain,V.cells]using h.1
      have e:cs.all (λc=>c.leaf&&c.cq ob)=cs.all (λc=>c.leaf&&c.cq ob'):=by
       rw[V0,IN,IN];exact⟨λh c hc=>by rw[<-sf (IN.1 u c hc)];exact h c hc,λh c hc=>by rw[sf (ob':=ob') (IN.1 u c hc)];exact h c hc⟩
      simp only[V.cells,e];rfl
    |_=>simp[V.plain]at h
   have ih:=λc=>sy (place:=place) (ob:=ob) (ob':=ob') l c h.2
   split
   .rfl
   grind
section
variable {n:Nat}{ops:YZ}{σ τ:St}{s:OS}{rd:ee}{dst:YX}{ty:TypeId}{pos:String}{after:Y4}{gd:Option (Nat×Bool)}{T:TypeId}{parts:Array (Nat×Operand)}{place:Nat->Option (Nat×Nat)}{cells cs':nR}
theorem Agr.uU(h:Agr n ops ⟨dst,.buildSlice T k parts,ty,pos,after,gd⟩ σ τ s rd)(q:((parts.toList.map λp=>(p.1,σ.ev n p.2)).all λp=>p.2.plain||p.2.cells.all V.plain&&(match p.2 with| .agg _=>YK|_=>YL))=YK)
  (u:dT place σ.ob cells (parts.toList.map λp=>(p.1,σ.ev n p.2))=WB cs'):dT place τ.ob cells (parts.toList.map λp=>(p.1,τ.ev n p.2))=WB cs':=by
 rw[h.SC,sy (ob':=σ.ob) _ _ q];exact u
end
end
section
mutual
def V.ren(ρ:Nat->Nat):V->V
 | .pv p=> .pv p
 | .ptr i o=> .ptr (ρ i) o
 | .bJ i s k=> .bJ (ρ i) s k
 | .tsl i o k=> .tsl (ρ i) o k
 | .bz i s k=> .bz (ρ i) s k
 | .map i=> .map (ρ i)
 | .agg cs=> .agg (V.renL ρ cs)
 | .bS cs=> .bS (V.renL ρ cs)
 | .fn f a b=> .fn f (V.renL ρ a) (V.renL ρ b)
def V.renL(ρ:Nat->Nat):nR->nR
 |[]=>[]
 |c::cs=>V.ren ρ c::V.renL ρ cs
end
def Ob.ren(ρ:Nat->Nat):Ob->Ob
 | .cells t cs=> .cells t cs
 | .mix t cs=> .mix t (V.renL ρ cs)
 | .bD t cs=> .bD t cs
 | .mp ks vs=> .mp ks vs
 | .it s p=> .it s p
 | .fro s p=> .fro s p
 | .mi c ks vs=> .mi c ks vs
theorem Ob.pV(ρ:Nat->Nat):∀o:Ob,(o.ren ρ).real=o.real
 | .cells _ _=>rfl
 | .mix _ _=>rfl
 | .bD _ []=>rfl
 | .bD _ (_::_)=>rfl
 | .mp _ _=>rfl
 | .it _ _=>rfl
 | .fro _ _=>rfl
 | .mi _ _ _=>rfl
theorem yG(ρ:Nat->Nat):∀o:va,cC (o.map (Ob.ren ρ))=cC o
 |none=>rfl
 |some o=>Ob.pV ρ o
mutual
def V.all(p:Nat->Bool):V->Bool
 | .pv _=>YK
 | .ptr i _=>p i
 | .bJ i _ _=>p i
 | .tsl i _ _=>p i
 | .bz i _ _=>p i
 | .map i=>p i
 | .agg cs=>V.allL p cs
 | .bS cs=>V.allL p cs
 | .fn _ a b=>V.allL p a&&V.allL p b
def V.allL(p:Nat->Bool):nR->Bool
 |[]=>YK
 |c::cs=>V.all p c&&V.allL p cs
end
def Ob.all(p:Nat->Bool):Ob->Bool
 | .cells _ _=>YK
 | .mix _ cs=>V.allL p cs
 | .bD _ _=>YK
 | .mp _ _=>YK
 | .it _ _=>YK
 | .fro _ _=>YK
 | .mi _ _ _=>YK
section
variable {w:World}{R:ew}
mutual
theorem Rel.ren{m':Gm}{av av':Av}(ρ:Nat->Nat)(p:Nat->Bool)(B:∀i x,p i=YK->m' (ρ i)=WB x->m i=WB x)(D:∀i,p i=YK->av i=YL->av' (ρ i)=YL):
  ∀(v:V)(u:Value),v.all p=YK->Rel w m av R v u->Rel w m' av' R (v.ren ρ) u
 | .pv q,u,_,h=>by simpa only[Rel,V.ren]using h
 | .ptr i o,_,hp,h=>by simp only[V.all]at hp;simp only[Rel,V.ren]at h ⊢; exact⟨D i hp h.1,λb N e=>h.2 b N (B i _ hp e)⟩
 | .bJ i s k,_,hp,h=>by simp only[V.all]at hp;simp only[Rel,V.ren]at h ⊢; exact⟨D i hp h.1,λb N e=>h.2 b N (B i _ hp e)⟩
 | .tsl i s k,_,hp,h=>by
   simp only[V.all]at hp;simp only[Rel,V.ren]at h ⊢;obtain⟨h0,A,c,e,h1⟩:=h;exact⟨D i hp h0,A,c,e,λhq b N e=>h1 hq b N (B i _ hp e)⟩
 | .bz i s k,_,hp,h=>by
   simp only[V.all]at hp;simp only[Rel,V.ren]at h ⊢;obtain⟨h0,A,c,e,h1,h2,h3,h4⟩:=h;exact⟨D i hp h0,A,c,e,h1,h2,λE=>⟨(h3 E).1,(h3 E).2.1,qx (λx=>B i x hp) (h3 E).2.2⟩,λhk b N e=>h4 hk b N (B i _ hp e)⟩
 | .map i,_,hp,h=>by simp only[V.all]at hp;simp only[Rel,V.ren]at h ⊢; exact⟨D i hp h.1,λb N e=>h.2 b N (B i _ hp e)⟩
 | .agg cs,_,hp,h=>by
   simp only[V.all]at hp;simp only[Rel,V.ren]at h ⊢;obtain⟨us,e,h⟩:=h;exact⟨us,e,ZJ.ren ρ p B D cs us hp h⟩
 | .bS cs,_,hp,h=>by
   simp only[V.all]at hp;simp only[Rel,V.ren]at h ⊢;obtain⟨us,e,h⟩:=h;exact⟨us,e,ZJ.ren ρ p B D cs us hp h⟩
 | .fn f a b,_,hp,h=>by
   simp only[V.all,aJ]at hp;simp only[Rel,V.ren]at h ⊢;obtain⟨us,vs,e,h1,h2⟩:=h;exact⟨us,vs,e,ZJ.ren ρ p B D a us hp.1 h1,ZJ.ren ρ p B D b vs hp.2 h2⟩
theorem ZJ.ren{m':Gm}{av av':Av}(ρ:Nat->Nat)(p:Nat->Bool)(q:∀i x,p i=YK->m' (ρ i)=WB x->m i=WB x)(B:∀i,p i=YK->av i=YL->av' (ρ i)=YL):
  ∀(vs:nR)(us:e7),V.allL p vs=YK->ZJ w m av R vs us->ZJ w m' av' R (V.renL ρ vs) us
 |[],_,_,h=>by simpa only[ZJ,V.renL]using h
 | c::cs,_,hp,h=>by
   simp only[V.allL,aJ]at hp;simp only[ZJ,V.renL]at h ⊢;obtain⟨u,us,e,h1,h2⟩:=h;exact⟨u,us,e,Rel.ren ρ p q B c u hp.1 h1,ZJ.ren ρ p q B cs us hp.2 h2⟩
end
mutual
theorem Rel.j8{m':Gm}{av av':Av}(ρ:Nat->Nat)(p:Nat->Bool)(B:∀i x,p i=YK->m i=WB x->m' (ρ i)=WB x)(D:∀i,p i=YK->av i=YL):
  ∀(v:V)(u:Value),v.all p=YK->Rel w m' av' R (v.ren ρ) u->Rel w m av R v u
 | .pv q,u,_,h=>by simpa only[Rel,V.ren]using h
 | .ptr i o,_,hp,h=>by simp only[V.all]at hp;simp only[Rel,V.ren]at h ⊢; exact⟨D i hp,λb N e=>h.2 b N (B i _ hp e)⟩
 | .bJ i s k,_,hp,h=>by simp only[V.all]at hp;simp only[Rel,V.ren]at h ⊢; exact⟨D i hp,λb N e=>h.2 b N (B i _ hp e)⟩
 | .tsl i s k,_,hp,h=>by
   simp only[V.all]at hp;simp only[Rel,V.ren]at h ⊢;obtain⟨h0,A,c,e,h1⟩:=h;exact⟨D i hp,A,c,e,λhq b N e=>h1 hq b N (B i _ hp e)⟩
 | .bz i s k,_,hp,h=>by
   simp only[V.all]at hp;simp only[Rel,V.ren]at h ⊢;obtain⟨h0,A,c,e,h1,h2,h3,h4⟩:=h;exact⟨D i hp,A,c,e,h1,h2,λE=>⟨(h3 E).1,(h3 E).2.1,qx (λx=>B i x hp) (h3 E).2.2⟩,λhk b N e=>h4 hk b N (B i _ hp e)⟩
 | .map i,_,hp,h=>by simp only[V.all]at hp;simp only[Rel,V.ren]at h ⊢; exact⟨D i hp,λb N e=>h.2 b N (B i _ hp e)⟩
 | .agg cs,_,hp,h=>by
   simp only[V.all]at hp;simp only[Rel,V.ren]at h ⊢;obtain⟨us,e,h⟩:=h;exact⟨us,e,ZJ.j8 ρ p B D cs us hp h⟩
 | .bS cs,_,hp,h=>by
   simp only[V.all]at hp;simp only[Rel,V.ren]at h ⊢;obtain⟨us,e,h⟩:=h;exact⟨us,e,ZJ.j8 ρ p B D cs us hp h⟩
 | .fn f a b,_,hp,h=>by
   simp only[V.all,aJ]at hp;simp only[Rel,V.ren]at h ⊢;obtain⟨us,vs,e,h1,h2⟩:=h;exact⟨us,vs,e,ZJ.j8 ρ p B D a us hp.1 h1,ZJ.j8 ρ p B D b vs hp.2 h2⟩
theorem ZJ.j8{m':Gm}{av av':Av}(ρ:Nat->Nat)(p:Nat->Bool)(q:∀i x,p i=YK->m i=WB x->m' (ρ i)=WB x)(B:∀i,p i=YK->av i=YL):
  ∀(vs:nR)(us:e7),V.allL p vs=YK->ZJ w m' av' R (V.renL ρ vs) us->ZJ w m av R vs us
 |[],_,_,h=>by simpa only[ZJ,V.renL]using h
 | c::cs,_,hp,h=>by
   simp only[V.allL,aJ]at hp;simp only[ZJ,V.renL]at h ⊢;obtain⟨u,us,e,h1,h2⟩:=h;exact⟨u,us,e,Rel.j8 ρ p q B c u hp.1 h1,ZJ.j8 ρ p q B cs us hp.2 h2⟩
end
theorem nJ.ren{m':Gm}{av av':Av}(ρ:Nat->Nat)(p:Nat->Bool)(q:∀i x,p i=YK->m' (ρ i)=WB x->m i=WB x)(u:∀i,p i=YK->av i=YL->av' (ρ i)=YL){o:Ob}(ho:o.all p=YK)(h:nJ w m av R b N o):nJ w m' av' R b N (o.ren ρ):=by
 cases o with
 |cells ty cs=>exact h
 |bD ty cs=>exact h
 |mp ks vs=>exact h
 |it s p=>exact h
 |fro s p=>exact h
 |mi c ks vs=>exact h
 | mix ty cs=>
   obtain⟨arr,h1,h2,h3,h4⟩:=h;have hl:(V.renL ρ cs).length=cs.length:=by
    clear ho h3 h4;induction cs with
    |nil=>rfl
    |cons c cs ih=>simp[V.renL,ih]
   exact⟨arr,h1,h2,by rw[hl];exact h3,by rw[hl];exact h4.ren ρ p q u _ _ ho⟩
theorem nJ.j8{m':Gm}{av av':Av}(ρ:Nat->Nat)(p:Nat->Bool)(q:∀i x,p i=YK->m i=WB x->m' (ρ i)=WB x)(u:∀i,p i=YK->av i=YL){o:Ob}(ho:o.all p=YK)(h:nJ w m' av' R b N (o.ren ρ)):nJ w m av R b N o:=by
 cases o with
 |cells ty cs=>exact h
 |bD ty cs=>exact h
 |mp ks vs=>exact h
 |it s p=>exact h
 |fro s p=>exact h
 |mi c ks vs=>exact h
 | mix ty cs=>
   obtain⟨arr,h1,h2,h3,h4⟩:=h;have hl:(V.renL ρ cs).length=cs.length:=by
    clear ho h3 h4;induction cs with
    |nil=>rfl
    |cons c cs ih=>simp[V.renL,ih]
   rw[hl]at h3 h4;exact⟨arr,h1,h2,h3,h4.j8 ρ p q u _ _ ho⟩
end
def okR(k k':Nat):Nat->Bool:=λi=>Nat.blt i k'||(Nat.ble big i&&Nat.blt i (big+k))
def eF:nR->V
 |[v]=>v
 |vs=> .bS vs
def jX:Nat->nR->Zx
 |_,[]=>[]
 |k,p::ps=>(k,p)::jX (k+1) ps
def ZS(P:Program)(f:FuncId)(k k':Nat)(args:nR)(os:Zy)(Q:V->(Nat->va)->Prop):Prop:=
 ∀(w:World)(m:Gm)(R:RT w (jg m))(us:e7),HR ⟨P,m,w,jg m,R⟩ m R.p (au os) (avK 0) w->ZJ w m (avK 0) R.p args us->
  Calls P f us.toArray w λe w'=>∃u v ob' m' R',e= .returned u/\Q v ob'/\v.all (okR k k')=YK/\(∀i o,ob' i=WB o->okR k k' i=YK/\o.all (okR k k')=YK)/\HR ⟨P,m,w,jg m,R⟩ m' R' ob' (avK k') w'/\Rel w' m' (avK k') R' v u
theorem ZS.mono{k':Nat}{args:nR}{os:Zy}{Q Q':V->(Nat->va)->Prop}(h:ZS P f k k' args os Q)(B:∀v o,Q v o->Q' v o):ZS P f k k' args os Q':=
 λw m R us h1 h2=>(h w m R us h1 h2).mono λ_ _ ⟨u,v,o,m',R',e,q,r⟩=>⟨u,v,o,m',R',e,B v o q,r⟩
def retO(fn:Func)(n k k':Nat)(Q:V->(Nat->va)->Prop):Exit->ZA
 | .ret,σ| .normal,σ=>∃l os' vs,σ.le (ZT l os' k')/\Tl n (ZT l os' k') fn.results.toList=WB vs/\V.allL (okR k k') vs=YK/\os'.all (λp=>okR k k' p.1&&p.2.all (okR k k'))=YK/\Q (eF vs) (au os')
 |_,_=>False
theorem dx:∀{os:Zy}{i:Nat}{o:Ob},au os i=WB o->(i,o)∈os
 |[],_,_,h=>by simp[au]at h
 | (d,v)::os,i,o,h=>by
   simp only[au]at h;cases hb:Nat.beq i d with
   |true=>rw[hb]at h;simp at h;have:=bN hb;subst this;subst h;simp
   |false=>rw[hb]at h;exact VX _ (dx (by simpa using h))
theorem Bz{av:Av}{vs:nR}(h:ZJ w m av R vs us):Rel w m av R (eF vs) (if h:us.toArray.size=1 then us.toArray[0]else .tuple us.toArray):=by
 have hl:=h.length;cases vs with
 | nil=>
   simp only[ZJ]at h;subst h;simp only[eF,Rel];exact⟨[],Zm,ZJ.nil⟩
 | cons p ps=>
   cases ps with
   | nil=>
     simp only[ZJ]at h;obtain⟨u,vs',rfl,h5,rfl⟩:=h;simpa[eF]using h5
   | cons p2 ps=>
     simp only[eF,Rel];refine⟨us,?_,h⟩;rw[dif_neg (by simp at hl ⊢; omega)]
theorem qz{p:Nat->Bool}{vs:nR}(h:V.allL p vs=YK):(eF vs).all p=YK:=by
 cases vs with
 |nil=>rfl
 | cons a l=>
   cases l with
   |nil=>simpa[eF,V.allL]using h
   |cons b l=>simpa[eF,V.all]using h
theorem LB:∀(k:Nat)(ps:na),A9 k ps=jX k (ps.map V.pv)
 |_,[]=>rfl
 |k,p::ps=>by rw[A9,ed,jX,LB (k+1) ps]
theorem yt{args:nR}(h:ZJ w m (avK 0) R args us)(n t:Nat):Rel w m (avK 0) R (look (jX 0 args) t) ((us.toArray++Array.replicate n undef).getD t undef):=by
 have q:∀(ps:nR)(vs:e7)(k:Nat),ZJ w m (avK 0) R ps vs->k<=t->∀z:Value,Rel w m (avK 0) R (look (jX k ps) t) (vs[t-k]?.getD z):=by
  intro ps;induction ps with
  |nil=>intro vs k _ _ z;simp only[jX,look,Rel,ZH]
  | cons p ps ih=>
    intro vs k hr hk z;simp only[ZJ]at hr;obtain⟨u,vs',rfl,h1,h2⟩:=hr;simp only[jX,look];by_cases e:t=k
    .subst e;simpa using h1
    rw[show Nat.beq t k=YL by cases hb:Nat.beq t k;rfl;exact absurd (bN hb) e,show t-k=(t-(k+1))+1 by omega];simpa using ih vs' (k+1) h2 Zi z
 have:=q args us 0 h (sh _) undef;simp only[Nat.sub_zero]at this;rw[XI,Array.getElem?_append];by_cases e:t<us.length
 .simpa[e]using this
 rw[WT Zi]at this;simp only[WQ,e,Yd,Array.getElem?_replicate];split<;>simpa using this
def eI(ids:ee)(base:Nat)(i:Nat):Nat:=bif Nat.ble big i then ids.getD (i-big) 0 else base+i
def wrO(ids:ee)(base k':Nat)(ob':Nat->va):List (Nat×va):=
 ids.zipIdx.map (λp=>(p.1,(ob' (big+p.2)).map (Ob.ren (eI ids base))))++(List.range k').map (λi=>(base+i,(ob' i).map (Ob.ren (eI ids base))))
def nwO(base k':Nat):ee:=(List.range k').map (base+ ·)
def lkL{β:Type}:List (Nat×β)->(Nat->β)->Nat->β
 |[],f,id=>f id
 |(i,o)::l,f,id=>bif Nat.beq id i then o else lkL l f id
theorem P9:∀(l:List (Nat×va))(f:Nat->va),obL l f=lkL l f
 |[],f=>rfl
 |(i,o)::l,f=>by funext id;simp only[obL,lkL,P9 l f]
theorem wB:∀(l:List (Nat×β))(f:Nat->β)(id:Nat),id∉l.map (·.1)->lkL l f id=f id
 |[],_,_,_=>rfl
 | (i,o)::l,f,id,h=>by
   simp only[ed,By,not_or]at h;have hb:Nat.beq id i=YL:=by cases hb:Nat.beq id i;rfl;exact absurd (bN hb) h.1
   simp only[lkL,hb,Wo];exact wB l f id h.2
theorem wH:∀(l l':List (Nat×β))(f:Nat->β),lkL (l++l') f=lkL l (lkL l' f)
 |[],_,_=>rfl
 |(i,o)::l,l',f=>by funext id;simp only[Wu,lkL,wH l l' f]
theorem Hq(g:Nat->β)(f:Nat->β):∀(ids:ee)(k i:Nat)(id:Nat),ids.Nodup->ids[i]? =WB id->lkL ((ids.zipIdx k).map λp=>(p.1,g p.2)) f id=g (k+i)
 |[],_,_,_,_,h=>by simp at h
 | q::ids,k,i,id,hn,h=>by
   simp only[List.zipIdx_cons,ed,lkL];cases i with
   |zero=>simp at h;subst h;simp
   | succ i=>
     simp at h;have hne:id≠q:=λe=>by subst e;exact(WW.1 hn).1 (W8 h)
     have u:Nat.beq id q=YL:=by cases u:Nat.beq id q;rfl;exact absurd (bN u) hne
     rw[u];simp only[Wo];rw[Hq g f ids (k+1) i id (WW.1 hn).2 h]
     congr 1
     omega
theorem GU(g:Nat->β)(f:Nat->β)(base k' i:Nat)(B:i<k'):lkL ((List.range k').map λi=>(base+i,g i)) f (base+i)=g i:=by
 have u:∀(l:ee),i∈l->lkL (l.map λi=>(base+i,g i)) f (base+i)=g i:=by
  intro l;induction l with
  |nil=>intro h;simp at h
  | cons q l ih=>
    intro h;simp only[ed,lkL];by_cases e:i=q
    .subst e;simp
    grind[Nat.beq,bN]
 exact u _ (by simpa using B)
end
variable{Q:V->(Nat->va)->Prop}
section
mutual
theorem V.DE:∀v:V,v.ren (λi=>i)=v
 | .pv _=>rfl
 | .ptr _ _=>rfl
 | .bJ _ _ _=>rfl
 | .tsl _ _ _=>rfl
 | .bz _ _ _=>rfl
 | .map _=>rfl
 | .agg cs=>by simp only[V.ren,V.renL_id cs]
 | .bS cs=>by simp only[V.ren,V.renL_id cs]
 | .fn _ a b=>by simp only[V.ren,V.renL_id a,V.renL_id b]
theorem V.renL_id:∀vs:nR,V.renL (λi=>i) vs=vs
 |[]=>rfl
 |c::cs=>by simp only[V.renL,V.DE c,V.renL_id cs]
end
theorem Ob.DE(o:Ob):o.ren (λi=>i)=o:=by
 cases o with
 |cells _ _=>rfl
 |bD _ _=>rfl
 |mp _ _=>rfl
 |it _ _=>rfl
 |fro _ _=>rfl
 |mi _ _ _=>rfl
 |mix _ cs=>simp only[Ob.ren,V.renL_id cs]
def Ai(n:Nat)(σ:St):List ResultVar->Option nR
 |[]=>WB []
 | .tmp t::l=>match Ai n σ l with|some vs=>WB (σ.ev n (.tmp t)::vs)|none=>WC
 | .cell a _::l=>match σ.ev n (.tmp a),Ai n σ l with
   | .ptr id 0,WB vs=>match σ.ob id with
     |some (.mix _ cs)=>WB (.agg cs::vs)
     |_=>WC
   |_,_=>WC
def ly(P:Program)(n:Nat)(σ:St):List ResultVar->Prop
 |[]=>True
 | .tmp _::l=>ly P n σ l
 | .cell a t::l=>(isRow P t/\∃k,b8 P t k/\∀id T cs,σ.ev n (.tmp a)= .ptr id 0->σ.ob id=WB (.mix T cs)->cs.length=k)/\ly P n σ l
theorem ar{a:Nat}{t:TypeId}{cs:nR}(q:isRow P t)(u:b8 P t k)(B:σ.ev n (.tmp a)= .ptr id 0)(ho:σ.ob id=WB (.mix T cs))(D:cs.length=k):
  isRow P t/\∃k,b8 P t k/\∀id T cs,σ.ev n (.tmp a)= .ptr id 0->σ.ob id=WB (.mix T cs)->cs.length=k:=
 ⟨q,k,u,λid' T' cs' e1 e2=>by rw[B]at e1;cases e1;rw[ho]at e2;cases e2;exact D⟩
theorem vM(G:SW C n σ a w m R)(f:ResultVar->Sem Value)(H:∀t,f (.tmp t)=pure (a.tmps.getD t undef))(D:∀ad t,f (.cell ad t)=do loadVar t (← asAddr (a.tmps.getD ad undef))):
  ∀{l:List ResultVar}{vs:nR},Ai n σ l=WB vs->ly C.P n σ l->∃us,Sem.run C.P (l.mapM f) w= .ok us w/\ZJ w m σ.av R vs us
 |[],vs,h,_=>by simp only[Ai,VM]at h;subst h;exact⟨[],Zm,ZJ.nil⟩
 | .tmp t::l,vs,h,hc=>by
   simp only[Ai]at h;split at h
   .rename_i vs' h';simp at h;subst h;obtain⟨us,hr,hl⟩:=vM G f H D h' hc;refine⟨a.eval (.tmp t)::us,?_,ZJ.cons (G.ev (.tmp t)) hl⟩;rw[List.mapM_cons,H];simp[hr,Act.eval]
   cases h
 | .cell ad t::l,vs,h,hc=>by
   simp only[Ai]at h;split at h
   .rename_i id vs' he h';split at h
    .rename_i T cs ho;simp at h;subst h;obtain⟨us,hr,hl⟩:=vM G f H D h' hc.2;obtain⟨hrow,k,hk,q⟩:=hc.1;have q:=q id T cs he ho;obtain⟨b,N,hev,hm,arr,hb,hN,hle,hrl⟩:=G.ptr he ho;obtain⟨d,hu,hd⟩:=hrow;have B:=run_loadVar_mid (P:=C.P) w b 0 t (arr.toList.take cs.length) d (λj u hu=>by
      rw[Wm,cell_of_row w b j arr T (0,0) hb];rw[V2]at hu;split at hu
      .simpa using hu
      cases hu) hu hd (by unfold b8 at hk;rw[hk,hrl.length,q])
     refine⟨.agg (arr.toList.take cs.length).toArray::us,?_,ZJ.cons (by simp only[Rel];exact⟨_,O,hrl⟩) hl⟩;have E:a.tmps.getD ad undef= .pointer (WB ⟨b,0,WC⟩):=hev;rw[List.mapM_cons,D,E];simp only[Sem.run_bind,asAddr,Sem.run_pure,Result.andThen_ok,B,hr]
    cases h
   cases h
theorem sE(B:SW C n σ a w m R){fn:Func}{vs:nR}(h:Ai n σ fn.results.toList=WB vs)(hc:ly C.P n σ fn.results.toList):
  ∃us:e7,(results fn a.tmps).run C.P w= .ok (if h:us.toArray.size=1 then us.toArray[0]else .tuple us.toArray) w/\ZJ w m σ.av R vs us:=by
 have q:=λf hf hf2=>vM B f hf hf2 h hc
 have u:∃us,Sem.run C.P (fn.results.toList.mapM fun
   | .tmp t=>pure (a.tmps.getD t undef)
   | .cell ad t=>do loadVar t (← asAddr (a.tmps.getD ad undef))) w= .ok us w/\ZJ w m σ.av R vs us:=q _ (λ_=>rfl) (λ_ _=>rfl)
 obtain⟨us,hr,hl⟩:=u;refine⟨us,?_,hl⟩;unfold results;rw[Array.mapM_eq_mapM_toList];simp only[Sem.run_bind,Sem.run_map]
 erw[hr]
 rfl
def retQC(P:Program)(fn:Func)(n:Nat)(Q:PV->Prop):Exit->ZA
 | .ret,σ| .normal,σ=>∃vs ps,Ai n σ fn.results.toList=WB vs/\V.args σ.ob vs=WB ps/\ly P n σ fn.results.toList/\Q (tH ps)
 |_,_=>False
theorem ZK.ofC{fn:Func}{args:na}{Q:PV->Prop}(L:P.funcs[f]? =WB fn)(B:fn.body=WB c)(U:fn.ntmps=n)(M:args.length<=n)
  (h:∀m0 w0 F R0,AW ⟨P,m0,w0,F,R0⟩ n c (retQC P fn n Q) (ZT (A9 0 args) [] 0)):ZK P f args Q:=by
 intro w R us hG hR hrel;refine calls_of_wp L B ?_
 let C:Ctx:=⟨P,λ_=>WC,w,λ_=>False,⟨R,hG,λb h=>⟨hR b h,id⟩,[]⟩⟩
 have hl:=hrel.length;have D:SJ C n (ZT (A9 0 args) [] 0) { tmps:=us.toArray++Array.replicate (fn.ntmps-us.toArray.size) undef,defers:=[] } w:=by
  refine⟨λ_=>WC,R,⟨⟨λ_=>rfl,λ_ _=>rfl,λ_ _ _ _ h=>(by cases h),λ_ _ _ _ _ h=>(by cases h),λ_ _ _ h=>(by cases h),hR,λb h=> .inl h,λb h=>h,Fr.refl _ _,λ_ _ _ h=>(by cases h),λid hi=>ie (k:=0) hi⟩,rfl,Zn,?_⟩⟩;intro t ht;show Rel w _ (avK 0) R (look (A9 0 args) t) _;rw[LB];exact yt (ZJ.ofP hrel) _ t
 refine wp_mono ((h (λ_=>WC) w (λ_=>False) ⟨R,hG,λb h=>⟨hR b h,id⟩,[]⟩).go _ w D) ?_;rintro ex a' w' ⟨σ',hq,m,R',hw⟩;have E:∀vs ps,Ai n σ' fn.results.toList=WB vs->V.args σ'.ob vs=WB ps->ly P n σ' fn.results.toList->Q (tH ps)->a'.defers=[]/\∃v,(results fn a'.tmps).run P w'= .ok v w'/\
   ∃u v_1,Ending.returned v= .returned u/\Q v_1/\Below w.heap.size w w'/\ZH w' (λb=>R b\/(w.heap.size<=b/\b<w'.heap.size)) v_1 u:=by
  intro vs ps h1 h2 hc h3;obtain⟨us',hrun,hrl⟩:=sE hw h1 hc;have I:=hw.args hrl h2;have q:ZG w' (λb=>R b\/(w.heap.size<=b/\b<w'.heap.size)) ps us':=I.mono λb B=>⟨by
   rcases B with B|⟨id,N,B⟩
   .rcases hw.hr.rfr b B with h|h|h
    .exact .inl h
    .exact .inr ⟨h,hw.hr.rsz b B⟩
    exact h.elim
   rcases(hw.hr.own id b N B).2.2 with h|h
   .exact h.elim
   exact .inr ⟨h,(hw.hr.own id b N B).1⟩,O⟩
  have G:Below w.heap.size w w':=⟨hw.hr.frame.os,hw.hr.frame.tape,hw.hr.frame.output,hw.hr.frame.size,λk hk=>hw.hr.frame.block k hk id⟩;have H:=q.length;refine⟨hw.df,_,hrun,_,_,O,h3,G,?_⟩;cases ps with
  | nil=>
    simp only[ZG]at q;subst q;simp only[tH,ZH];exact⟨[],Zm,ZG.nil⟩
  | cons p ps=>
    cases ps with
    | nil=>
      simp only[ZG]at q;obtain⟨u,vs',rfl,h5,rfl⟩:=q;simpa[tH]using h5
    | cons p2 ps=>
      simp only[tH,ZH];refine⟨us',?_,q⟩;rw[dif_neg (by simp at H ⊢; omega)]
 cases ex with
 |normal=>obtain⟨vs,ps,h1,h2,h3,h4⟩:=hq;exact E vs ps h1 h2 h3 h4
 |ret=>obtain⟨vs,ps,h1,h2,h3,h4⟩:=hq;exact E vs ps h1 h2 h3 h4
 |_=>exact hq.elim
theorem ZD{fn:Func}{args:na}{Q:PV->Prop}(L:P.funcs[f]? =WB fn)(B:fn.body=WB c)(U:fn.ntmps=n)(h:∀m0 w0 F R0,AW ⟨P,m0,w0,F,R0⟩ n c (retQC P fn n Q) (ZT (A9 0 args) [] 0))(M:args.length<=n:=by simp):ZK P f args Q:=ZK.ofC L B U M h
def retOC(P:Program)(fn:Func)(n k k':Nat)(Q:V->(Nat->va)->Prop):Exit->ZA
 | .ret,σ| .normal,σ=>∃l os' vs os2 k2,σ.le (ZT l os' k2)/\Ai n (ZT l os' k2) fn.results.toList=WB vs/\ly P n (ZT l os' k2) fn.results.toList/\V.allL (okR k k') vs=YK/\os2.all (λp=>okR k k' p.1&&p.2.all (okR k k'))=YK/\
   (∀i o,au os2 i=WB o->au os' i=WB o)/\k'<=k2/\Q (eF vs) (au os2)
 |_,_=>False
theorem ZS.ofC{fn:Func}{k':Nat}{args:nR}{os:Zy}(U:P.funcs[f]? =WB fn)(W:fn.body=WB c)(Y:fn.ntmps=n)(X:args.length<=n)
  (h:∀m0 w0 F R0,AW ⟨P,m0,w0,F,R0⟩ n c (retOC P fn n k k' Q) (ZT (jX 0 args) os 0)):ZS P f k k' args os Q:=by
 intro w m R us hHR hrel;refine calls_of_wp U W ?_;have hl:=hrel.length;obtain⟨R1,hp1,hd1⟩:∃R1:RT w (jg m),R1.p=R.p/\R1.df=[]:=⟨⟨R.p,R.g,R.d,[]⟩,O,O⟩;have E:SJ ⟨P,m,w,jg m,R1⟩ n (ZT (jX 0 args) os 0) { tmps:=us.toArray++Array.replicate (fn.ntmps-us.toArray.size) undef,defers:=[] } w:=by
  refine⟨m,R.p,⟨hHR.dfs hp1,hd1.symm,Zn,?_⟩⟩;exact λt _=>yt hrel _ t
 refine wp_mono ((h m w (jg m) R1).go _ w E) ?_;rintro ex a' w' ⟨σ',hq,hsj⟩;have G:∀l os' vs os2 k2,σ'.le (ZT l os' k2)->Ai n (ZT l os' k2) fn.results.toList=WB vs->ly P n (ZT l os' k2) fn.results.toList->V.allL (okR k k') vs=YK->os2.all (λp=>okR k k' p.1&&p.2.all (okR k k'))=YK->(∀i o,au os2 i=WB o->au os' i=WB o)->k'<=k2->Q (eF vs) (au os2)->
   a'.defers=[]/\∃v,(results fn a'.tmps).run P w'= .ok v w'/\∃u v_1 ob' m' R',Ending.returned v= .returned u/\Q v_1 ob'/\v_1.all (okR k k')=YK/\(∀i o,ob' i=WB o->okR k k' i=YK/\o.all (okR k k')=YK)/\HR ⟨P,m,w,jg m,R⟩ m' R' ob' (avK k') w'/\Rel w' m' (avK k') R' v_1 u:=by
  intro l os' vs os2 k2 h1 h2 hc h3 h4 h5 h6 h7;obtain⟨m2,R2,hw⟩:=h1 _ _ _ _ hsj;obtain⟨us',hrun,hrl⟩:=sE hw h2 hc;have D:∀i o,au os2 i=WB o->okR k k' i=YK/\o.all (okR k k')=YK:=by
   intro i o hio;have:=IN.1 h4 (i,o) (dx hio);simpa using this
  let m3:Gm:=λi=>if(au os2 i).isSome then m2 i else WC
  have q:∀i x,m3 i=WB x->m2 i=WB x:=λi x h=>by
   simp only[m3]at h;split at h
   .exact h
   cases h
  have B:∀i,okR k k' i=YK->avK k' i=YL:=by
   intro i hi;simp only[okR,Wr,aJ]at hi;apply np;rcases hi with h|h
   .rw[h];rfl
   rw[h.1];simp
  have M:∀(i:Nat)(x:Nat×Nat),okR k k' i=YK->m3 i=WB x->m2 i=WB x:=λi x _ h=>q i x h
  refine⟨hw.df.trans hd1,_,hrun,_,eF vs,au os2,m3,R2,O,h7,qz h3,D,HR.dfs (R0:=R1) ?_ hp1.symm,?_⟩
  .refine⟨?_,?_,?_,?_,?_,hw.hr.rsz,hw.hr.rfr,hw.hr.r0,hw.hr.frame,λi x hi h=>hw.hr.keep i x hi (q i x h),λi hi=>ie hi⟩
   .intro i;simp only[m3];cases e:au os2 i with
    |none=>rfl
    | some o=>
      have:=hw.hr.dom i;have H:(ZT l os' k2).ob i=WB o:=h5 i o e;rw[H]at this;simpa using this
   .intro i hi;cases e:au os2 i with
    |none=>rfl
    | some o=>
      have:=B i (D i o e).1;rw[hi]at this;cases this
   .intro i o b N e1 H;have I:=hw.hr.obj i o b N (h5 i o e1) (q _ _ H);have L:nJ w' m2 (ZT l os' k2).av R2 b N (o.ren (λi=>i)):=by rw[Ob.DE];exact I
    exact L.j8 (λi=>i) (okR k k') M B (D i o e1).2
   .exact λi j b N N' e1 H=>hw.hr.inj i j b N N' (q _ _ e1) (q _ _ H)
   exact λi b N e=>hw.hr.own i b N (q _ _ e)
  have L:Rel w' m2 (ZT l os' k2).av R2 ((eF vs).ren (λi=>i)) (if h:us'.toArray.size=1 then us'.toArray[0]else .tuple us'.toArray):=by rw[V.DE];exact Bz hrl
  exact L.j8 (λi=>i) (okR k k') M B _ _ (qz h3)
 cases ex with
 |normal=>obtain⟨l,os',vs,os2,k2,h1,h2,h3,h4,h5,h6,h7,I⟩:=hq;exact G l os' vs os2 k2 h1 h2 h3 h4 h5 h6 h7 I
 |ret=>obtain⟨l,os',vs,os2,k2,h1,h2,h3,h4,h5,h6,h7,I⟩:=hq;exact G l os' vs os2 k2 h1 h2 h3 h4 h5 h6 h7 I
 |_=>exact hq.elim
theorem ZF{fn:Func}{k':Nat}{args:nR}{os:Zy}(U:P.funcs[f]? =WB fn)(W:fn.body=WB c)(Y:fn.ntmps=n)(h:∀m0 w0 F R0,AW ⟨P,m0,w0,F,R0⟩ n c (retOC P fn n k k' Q) (ZT (jX 0 args) os 0))(X:args.length<=n:=by simp):ZS P f k k' args os Q:=ZS.ofC U W Y X h
theorem yk:∀{l:List ResultVar}{vs:nR},Tl n σ l=WB vs->Ai n σ l=WB vs/\ly P n σ l
 |[],_,h=>⟨h,Zp⟩
 | .tmp t::l,vs,h=>by
   simp only[Tl]at h;split at h
   .rename_i vs' h';obtain⟨h1,h2⟩:=yk h';exact⟨by simp only[Ai,h1];exact h,h2⟩
   cases h
 | .cell _ _::_,_,h=>by cases h
theorem ZK.of{fn:Func}{args:na}{Q:PV->Prop}(u:P.funcs[f]? =WB fn)(B:fn.body=WB c)(D:fn.ntmps=n)(q:args.length<=n)
  (h:∀m0 w0 F R0,AW ⟨P,m0,w0,F,R0⟩ n c (retQ fn n Q) (ZT (A9 0 args) [] 0)):ZK P f args Q:=
 ZK.ofC u B D q λm0 w0 F R0=>(h m0 w0 F R0).mono λex s hq=>by
  cases ex<;>first|exact hq.elim|exact(let ⟨vs,ps,h1,h2,h3⟩:=hq;⟨vs,ps,(yk (P:=P) h1).1,h2,(yk h1).2,h3⟩)
theorem ZC{fn:Func}{args:na}{Q:PV->Prop}(u:P.funcs[f]? =WB fn)(B:fn.body=WB c)(D:fn.ntmps=n)(h:∀m0 w0 F R0,AW ⟨P,m0,w0,F,R0⟩ n c (retQ fn n Q) (ZT (A9 0 args) [] 0))(q:args.length<=n:=by simp):ZK P f args Q:=ZK.of u B D q h
theorem ZS.of{fn:Func}{k':Nat}{args:nR}{os:Zy}(u:P.funcs[f]? =WB fn)(B:fn.body=WB c)(D:fn.ntmps=n)(q:args.length<=n)
  (h:∀m0 w0 F R0,AW ⟨P,m0,w0,F,R0⟩ n c (retO fn n k k' Q) (ZT (jX 0 args) os 0)):ZS P f k k' args os Q:=
 ZS.ofC u B D q λm0 w0 F R0=>(h m0 w0 F R0).mono λex s hq=>by
  cases ex<;>first|exact hq.elim|exact(let ⟨l,os',vs,h1,h2,h3,h4,h5⟩:=hq;⟨l,os',vs,os',k',h1,(yk (P:=P) h2).1,(yk h2).2,h3,h4,λ_ _ e=>e,BY _,h5⟩)
theorem ZE{fn:Func}{k':Nat}{args:nR}{os:Zy}(u:P.funcs[f]? =WB fn)(B:fn.body=WB c)(D:fn.ntmps=n)(h:∀m0 w0 F R0,AW ⟨P,m0,w0,F,R0⟩ n c (retO fn n k k' Q) (ZT (jX 0 args) os 0))(q:args.length<=n:=by simp):ZS P f k k' args os Q:=ZS.of u B D q h
end
section
def gL(σ:St)(ρ:Nat->Nat):Zy->Prop
 |[]=>True
 |(i,o)::l=>σ.ob (ρ i)=WB (o.ren ρ)/\gL σ ρ l
theorem kC:∀{os:Zy},gL σ ρ os->∀i o,(i,o)∈os->σ.ob (ρ i)=WB (o.ren ρ)
 |[],_,i,o,h=>by simp at h
 | (d,v)::os,h,i,o,hm=>by
   rcases By.1 hm with e|hm
   .cases e;exact h.1
   exact kC h.2 i o hm
theorem uJ:∀{os:Zy}{i:Nat},i∈os.map (·.1)->∃o,au os i=WB o
 |[],_,h=>by simp at h
 | (d,v)::os,i,h=>by
   simp only[au];cases hb:Nat.beq i d with
   |true=>exact⟨v,O⟩
   | false=>
     simp only[ed,By]at h;rcases h with e|h
     .subst e;simp at hb
     simpa using uJ h
section
variable {C:Ctx}{n:Nat}{σ:St}
theorem tC{args:nR}{os:Zy}{k':Nat}(ids:ee)(base:Nat)
  (ha:V.allL (okR ids.length 0) args=YK) (hos:os.map (·.1)=(List.range ids.length).map (big+ ·)) (hob:os.all (λp=>p.2.all (okR ids.length 0))=YK) (hobs:gL σ (eI ids base) os)
  (hnd:ids.Nodup) (hav:(nwO base k').all σ.av=YK) (hf:ZS C.P f ids.length k' args os Q)
  (hk:∀v ob',Q v ob'->K (σ.app dst ⟨v.ren (eI ids base),wrO ids base k' ob',nwO base k'⟩))
  {a:Act} {w:World} {m:Gm} {R:ew} (G:SW C n σ a w m R) {us:e7} (hus:ZJ w m σ.av R (V.renL (eI ids base) args) us):
  Calls C.P f us.toArray w λe w'=>∃u,e= .returned u/\∃σ',K σ'/\SJ C n σ' (a.put dst u) w':=by
 have ρb:∀j,eI ids base (big+j)=ids.getD j 0:=λj=>by
  have:Nat.ble big (big+j)=YK:=YH (Yz _ _);simp only[eI,this,Xe,Nat.add_sub_cancel_left]
 have ρj:∀(j id:Nat),ids[j]? =WB id->eI ids base (big+j)=id:=λj id h=>by rw[ρb,VO,h];rfl
 have ρn:∀i,i<big->eI ids base i=base+i:=λi hi=>by
  have:Nat.ble big i=YL:=by cases W:Nat.ble big i;rfl;have:=V7 W;omega
  simp only[eI,this,Wo]
 have L0:∀i o,au os i=WB o->∃j id:Nat,i=big+j/\ids[j]? =WB id:=by
  intro i o h;have:i∈os.map (·.1):=VS.2 ⟨(i,o),dx h,O⟩;rw[hos]at this;obtain⟨j,hj,rfl⟩:=VS.1 this;have E:j<ids.length:=by simpa using hj
  exact⟨j,ids[j],O,AT E⟩
 have keyI:∀(j id:Nat),ids[j]? =WB id->∃o,au os (big+j)=WB o:=by
  intro j id h;apply uJ;rw[hos];exact VS.2 ⟨j,by simpa using(VR.1 h).1,O⟩
 have obs:∀i o,au os i=WB o->σ.ob (eI ids base i)=WB (o.ren (eI ids base)):=λi o h=>kC hobs i o (dx h)
 have ab:∀(j id:Nat),ids[j]? =WB id->(∀o,au os (big+j)=WB o->(m id).isSome=o.real)/\σ.av id=YL:=by
  intro j id h;refine⟨λo ho=>?_,?_⟩
  .have B:=obs _ _ ho;rw[ρj j id h]at B;rw[G.hr.dom,B];exact Ob.pV _ o
  obtain⟨o,ho⟩:=keyI j id h;have B:=obs _ _ ho;rw[ρj j id h]at B;cases W:σ.av id
  .rfl
  rw[G.hr.free id W]at B;cases B
 have nwav:∀i,i<k'->σ.av (base+i)=YK:=λi hi=>IN.1 hav _ (VS.2 ⟨i,by simpa using hi,O⟩)
 have nwids:∀i,i<k'->(base+i)∉ids:=λi hi hmem=>by
  obtain⟨j,hj⟩:=WO hmem;have:=(ab j _ hj).2;rw[nwav i hi]at this;cases this
 have M:∀i,i<k'->base+i<big:=λi hi=>by
  rcases XE (base+i) big with h|h
  .exact h
  have:=G.hr.res _ h;rw[nwav i hi]at this;cases this
 have ac:∀i,okR ids.length k' i=YK->(i<k'/\i<big/\eI ids base i=base+i)\/∃j id:Nat,i=big+j/\ids[j]? =WB id:=by
  intro i hi;simp only[okR,Wr,aJ]at hi;rcases hi with h|⟨B,D⟩
  .have h:i<k':=by simpa[XW]using h
   have W:i<big:=by have:=M i h;omega
   exact .inl ⟨h,W,ρn i W⟩
  have B:=V7 B;have D:i<big+ids.length:=by simpa[XW]using D
  refine .inr ⟨i-big,ids[i-big]'Zi,Zi,AT _⟩
 have X:∀i,okR ids.length 0 i=YK->∃j id:Nat,i=big+j/\ids[j]? =WB id:=by
  intro i hi;simp only[okR,Wr,aJ]at hi;rcases hi with h|⟨B,D⟩
  .simp[Nat.blt]at h
  have B:=V7 B;have D:i<big+ids.length:=by simpa[XW]using D
  exact⟨i-big,ids[i-big]'Zi,Zi,AT _⟩
 let mc:Gm:=λi=>if(au os i).isSome then m (eI ids base i)else WC
 have aa:∀i x,mc i=WB x->∃j id:Nat,i=big+j/\ids[j]? =WB id/\m id=WB x:=by
  intro i x h;simp only[mc]at h;split at h
  .rename_i hs;obtain⟨o,ho⟩:=V4.1 hs;obtain⟨j,id,rfl,hj⟩:=L0 i o ho;rw[ρj j id hj]at h;exact⟨j,id,O,hj,h⟩
  cases h
 have mcI:∀(j id:Nat),ids[j]? =WB id->mc (big+j)=m id:=by
  intro j id h;obtain⟨o,ho⟩:=keyI j id h;simp only[mc,ho,Option.isSome_some,Yk,ρj j id h]
 have idsInj:∀(i j id:Nat),ids[i]? =WB id->ids[j]? =WB id->i=j:=by
  intro i j id B D;have l1:=(VR.1 B).1;have l2:=(VR.1 D).1;have Z:=Wz.1 hnd;have e1:=(VR.1 B).2;have e2:=(VR.1 D).2;rcases Nat.lt_trichotomy i j with h|h|h
  .exact absurd (e1.trans e2.symm) (Z i j l1 l2 h)
  .exact h
  exact absurd (e2.trans e1.symm) (Z j i l2 l1 h)
 have L:∀b,jg mc b->∃j id N:Nat,ids[j]? =WB id/\m id=WB (b,N):=by
  rintro b ⟨i,N,h⟩;obtain⟨j,id,_,hj,hx⟩:=aa i _ h;exact⟨j,id,N,hj,hx⟩
 let RT0:RT w (jg mc):=⟨R,G.hr.gi,λb W=>⟨G.hr.rsz b W,λho=>by obtain⟨j,id,N,_,hx⟩:=L b ho;exact(G.hr.own id b N hx).2.1 W⟩,[]⟩
 have hHRc:HR ⟨C.P,mc,w,jg mc,RT0⟩ mc R (au os) (avK 0) w:=by
  refine⟨?_,?_,?_,?_,?_,G.hr.rsz,λb h=> .inl h,λb h=>h,Fr.refl _ _,λi x _ h=>h,λi h=>ie h⟩
  .intro i;simp only[mc];cases ho:au os i with
   |none=>rfl
   | some o=>
     obtain⟨j,id,rfl,hj⟩:=L0 i o ho;rw[ρj j id hj];simpa[cC]using(ab j id hj).1 o ho
  .intro i hi;cases ho:au os i with
   |none=>rfl
   | some o=>
     obtain⟨j,id,rfl,hj⟩:=L0 i o ho;have:=(P7 hi).2;omega
  .intro i o b N B D;obtain⟨j,id,rfl,hj,hx⟩:=aa i _ D;have I:=obs _ _ B;rw[ρj j id hj]at I;have h4:=G.hr.obj id _ b N I hx;refine h4.j8 (eI ids base) (okR ids.length 0) ?_ ?_ ?_
   .intro i' x Z hx';obtain⟨j',id',rfl,E,hx''⟩:=aa i' _ hx';rw[ρj j' id' E];exact hx''
   .intro i' Z;obtain⟨j',id',rfl,_⟩:=X i' Z;exact ie (Yz _ _)
   exact IN.1 hob (big+j,o) (dx B)
  .intro i j b N N' B D;obtain⟨i',id,rfl,hi',hx⟩:=aa i _ B;obtain⟨j',id2,rfl,E,hy⟩:=aa j _ D;have:=G.hr.inj id id2 b N N' hx hy;subst this;rw[idsInj i' j' id hi' E]
  .intro i b N B;obtain⟨j,id,rfl,hj,hx⟩:=aa i _ B;have:=G.hr.own id b N hx;exact⟨this.1,this.2.1,.inl ⟨big+j,N,B⟩⟩
 have hrel:ZJ w mc (avK 0) R args us:=by
  refine hus.j8 (eI ids base) (okR ids.length 0) ?_ ?_ _ _ ha
  .intro i' x Z hx';obtain⟨j',id',rfl,E,hx''⟩:=aa i' _ hx';rw[ρj j' id' E];exact hx''
  .intro i' Z;obtain⟨j',id',rfl,_⟩:=X i' Z;exact ie (Yz _ _)
 refine(hf w mc RT0 us hHRc hrel).mono ?_;rintro e w' ⟨u,v,ob',m',R',rfl,hq,hva,hoba,hH,hrv⟩;refine⟨u,O,_,hk v ob' hq,?_⟩;have mobs:∀i,(m' i).isSome=YK->okR ids.length k' i=YK:=λi hi=>by
  rw[hH.dom]at hi;obtain⟨o,ho⟩:∃o,ob' i=WB o:=by
   cases e:ob' i with
   |none=>rw[e]at hi;cases hi
   |some o=>exact⟨o,O⟩
  exact(hoba i o ho).1
 let mn:Gm:=lkL (ids.zipIdx.map (λp=>(p.1,m' (big+p.2)))++(List.range k').map (λi=>(base+i,m' i))) m
 have zipn:∀{β:Type}(g h:Nat->β)(f:Nat->β),(∀(j id:Nat),ids[j]? =WB id->lkL (ids.zipIdx.map (λp=>(p.1,g p.2))++(List.range k').map (λi=>(base+i,h i))) f id=g j)/\
   (∀i,i<k'->lkL (ids.zipIdx.map (λp=>(p.1,g p.2))++(List.range k').map (λi=>(base+i,h i))) f (base+i)=h i)/\
   (∀id,id∉ids->(∀i,i<k'->id≠base+i)->lkL (ids.zipIdx.map (λp=>(p.1,g p.2))++(List.range k').map (λi=>(base+i,h i))) f id=f id):=by
  intro β g h f;have hz:∀id,id∉ids->id∉(ids.zipIdx.map (λp=>(p.1,g p.2))).map (·.1):=by
   intro id hid hmem;obtain⟨p,Z,rfl⟩:=VS.1 hmem;obtain⟨q,hq,rfl⟩:=VS.1 Z;obtain⟨q1,q2⟩:=q;have:=List.mem_zipIdx hq;simp only at hid;exact hid (by rw[this.2.2];exact ak _)
  refine⟨λj id hj=>?_,λi hi=>?_,λid B D=>?_⟩
  .rw[wH];have:=Hq g (lkL ((List.range k').map (λi=>(base+i,h i))) f) ids 0 j id hnd hj;simpa using this
  .rw[wH,wB _ _ _ (hz _ (nwids i hi))];exact GU h f base k' i hi
  rw[wH,wB _ _ _ (hz _ B),wB];intro hmem;obtain⟨p,Z,hpe⟩:=VS.1 hmem;obtain⟨i,hi,rfl⟩:=VS.1 Z;exact D i (by simpa using hi) hpe.symm
 obtain⟨mnA,mnB,mnC⟩:=zipn (λj=>m' (big+j)) m' m;obtain⟨obA,obB,obC⟩:=zipn (λj=>(ob' (big+j)).map (Ob.ren (eI ids base))) (λi=>(ob' i).map (Ob.ren (eI ids base))) σ.ob;have obE:(obL (wrO ids base k' ob') σ.ob)=lkL (ids.zipIdx.map (λp=>(p.1,(ob' (big+p.2)).map (Ob.ren (eI ids base))))++(List.range k').map (λi=>(base+i,(ob' i).map (Ob.ren (eI ids base))))) σ.ob:=P9 _ _;have Y:∀id:Nat,(∃j:Nat,ids[j]? =WB id)\/(∃i,i<k'/\id=base+i)\/(id∉ids/\∀i,i<k'->id≠base+i):=by
  intro id;by_cases B:id∈ids
  .exact .inl (WO B)
  by_cases D:∃i,i<k'/\id=base+i
  .exact .inr (.inl D)
  exact .inr (.inr ⟨B,λi hi e=>D ⟨i,hi,e⟩⟩)
 have kept:∀(j id:Nat)(x:Nat×Nat),ids[j]? =WB id->m' (big+j)=WB x->m id=WB x:=λj id x hj h=>by
  have:=hH.keep (big+j) x (Yz _ _) h;rw[<-mcI j id hj];exact this
 have hblk:∀b,b<w.heap.size->¬jg mc b->w'.heap[b]? =w.heap[b]? :=λb B D=>hH.frame.block b B D
 have hR:∀b,R b->R' b/\w'.heap[b]? =w.heap[b]? :=λb W=>⟨hH.r0 b W,hblk b (G.hr.rsz b W) (λho=>by
  obtain⟨j,id,N,hj,hx⟩:=L b ho;exact(G.hr.own id b N hx).2.1 W)⟩
 have avn:∀id,σ.av id=YL->avL (nwO base k') σ.av id=YL:=λid h=>by rw[lW,h];rfl
 have avnew:∀i,i<k'->avL (nwO base k') σ.av (base+i)=YL:=λi hi=>by
  have:inL (base+i) (nwO base k')=YK:=eB.2 (VS.2 ⟨i,by simpa using hi,O⟩);rw[lW,this];simp
 have hm:∀id x,σ.av id=YL->mn id=WB x->m id=WB x:=by
  intro id x hav' hx;rcases Y id with⟨j,hj⟩|⟨i,hi,rfl⟩|⟨B,D⟩
  .rw[show mn id=m' (big+j)from mnA j id hj]at hx;exact kept j id x hj hx
  .rw[nwav i hi]at hav';cases hav'
  rwa [show mn id=m id from mnC id B D]at hx
 have rm:∀i x,okR ids.length k' i=YK->mn (eI ids base i)=WB x->m' i=WB x:=by
  intro i x Z hx;rcases ac i Z with⟨B,D,I⟩|⟨j,id,rfl,hj⟩
  .rw[I,show mn (base+i)=m' i from mnB i B]at hx;exact hx
  rw[ρj j id hj,show mn id=m' (big+j)from mnA j id hj]at hx;exact hx
 have ra:∀i,okR ids.length k' i=YK->avK k' i=YL->avL (nwO base k') σ.av (eI ids base i)=YL:=by
  intro i Z _;rcases ac i Z with⟨B,D,I⟩|⟨j,id,rfl,hj⟩
  .rw[I];exact avnew i B
  rw[ρj j id hj];exact avn id (ab j id hj).2
 have U:∀id b N,m id=WB (b,N)->id∉ids->¬jg mc b:=by
  intro id b N hx hid ho;obtain⟨j,id2,N2,hj,hy⟩:=L b ho;have:=G.hr.inj id id2 b N N2 hx hy;subst this;exact hid (W8 hj)
 have H:∀i b N,m' i=WB (b,N)->b<w'.heap.size/\¬R' b/\(C.F b\/C.w0.heap.size<=b)/\(jg mc b\/w.heap.size<=b):=by
  intro i b N hx;obtain⟨B,D,I⟩:=hH.own i b N hx;refine⟨B,D,?_,I⟩;rcases I with I|I
  .obtain⟨j,id,N2,hj,hy⟩:=L b I;exact(G.hr.own id b N2 hy).2.2
  exact .inr (OF G.hr.frame.size I)
 have mix:∀i b N id N',m' i=WB (b,N)->m id=WB (b,N')->id∉ids->False:=by
  intro i b N id N' B D hid;rcases(H i b N B).2.2.2 with h|h
  .exact U id b N' D hid h
  have:=(G.hr.own id b N' D).1;omega
 have hHn:HR C mn R' (obL (wrO ids base k' ob') σ.ob) (avL (nwO base k') σ.av) w':=by
  rw[obE];refine⟨?_,?_,?_,?_,?_,hH.rsz,?_,λb h=>hH.r0 b (G.hr.r0 b h),?_,?_,λid h=>avn id (G.hr.res id h)⟩
  .intro id;rcases Y id with⟨j,hj⟩|⟨i,hi,rfl⟩|⟨B,D⟩
   .rw[obA j id hj,show mn id=m' (big+j)from mnA j id hj,yG];exact hH.dom _
   .rw[obB i hi,show mn (base+i)=m' i from mnB i hi,yG];exact hH.dom _
   rw[obC id B D,show mn id=m id from mnC id B D];exact G.hr.dom id
  .intro id hid;rcases Y id with⟨j,hj⟩|⟨i,hi,rfl⟩|⟨B,D⟩
   .rw[avn id (ab j id hj).2]at hid;cases hid
   .rw[avnew i hi]at hid;cases hid
   rw[obC id B D];refine G.hr.free id ?_;rw[lW]at hid;simp only[aJ]at hid;exact hid.1
  .intro id o b N B D;rcases Y id with⟨j,hj⟩|⟨i,hi,rfl⟩|⟨I,h4⟩
   .rw[obA j id hj]at B;rw[show mn id=m' (big+j)from mnA j id hj]at D;obtain⟨o',ho',rfl⟩:=X3.1 B;exact(hH.obj _ o' b N ho' D).ren (eI ids base) (okR ids.length k') rm ra (hoba _ o' ho').2
   .rw[obB i hi]at B;rw[show mn (base+i)=m' i from mnB i hi]at D;obtain⟨o',ho',rfl⟩:=X3.1 B;exact(hH.obj _ o' b N ho' D).ren (eI ids base) (okR ids.length k') rm ra (hoba _ o' ho').2
   rw[obC id I h4]at B;rw[show mn id=m id from mnC id I h4]at D;exact(G.hr.obj id o b N B D).mono hR hm avn (hblk b (G.hr.own id b N D).1 (U id b N D I))
  .intro i j b N N' B D;rcases Y i with⟨i',hi'⟩|⟨i',hi',rfl⟩|⟨I,h4⟩<;>rcases Y j with⟨j',E⟩|⟨j',E,rfl⟩|⟨h5,h6⟩
   .rw[show mn i=m' (big+i')from mnA i' i hi']at B;rw[show mn j=m' (big+j')from mnA j' j E]at D;have:=hH.inj _ _ b N N' B D;have:i'=j':=Zi;subst this;rw[hi']at E;exact Xl E
   .rw[show mn i=m' (big+i')from mnA i' i hi']at B;rw[show mn (base+j')=m' j' from mnB j' E]at D;have:=hH.inj _ _ b N N' B D;have:=M j' E;omega
   .rw[show mn i=m' (big+i')from mnA i' i hi']at B;rw[show mn j=m j from mnC j h5 h6]at D;exact(mix _ b N j N' B D h5).elim
   .rw[show mn (base+i')=m' i' from mnB i' hi']at B;rw[show mn j=m' (big+j')from mnA j' j E]at D;have:=hH.inj _ _ b N N' B D;have:=M i' hi';omega
   .rw[show mn (base+i')=m' i' from mnB i' hi']at B;rw[show mn (base+j')=m' j' from mnB j' E]at D;rw[hH.inj _ _ b N N' B D]
   .rw[show mn (base+i')=m' i' from mnB i' hi']at B;rw[show mn j=m j from mnC j h5 h6]at D;exact(mix _ b N j N' B D h5).elim
   .rw[show mn i=m i from mnC i I h4]at B;rw[show mn j=m' (big+j')from mnA j' j E]at D;exact(mix _ b N' i N D B I).elim
   .rw[show mn i=m i from mnC i I h4]at B;rw[show mn (base+j')=m' j' from mnB j' E]at D;exact(mix _ b N' i N D B I).elim
   rw[show mn i=m i from mnC i I h4]at B;rw[show mn j=m j from mnC j h5 h6]at D;exact G.hr.inj i j b N N' B D
  .intro id b N B;rcases Y id with⟨j,hj⟩|⟨i,hi,rfl⟩|⟨I,h4⟩
   .rw[show mn id=m' (big+j)from mnA j id hj]at B;have:=H _ b N B;exact⟨this.1,this.2.1,this.2.2.1⟩
   .rw[show mn (base+i)=m' i from mnB i hi]at B;have:=H _ b N B;exact⟨this.1,this.2.1,this.2.2.1⟩
   rw[show mn id=m id from mnC id I h4]at B;obtain⟨h5,h6,h7⟩:=G.hr.own id b N B;refine⟨VW h5 hH.frame.size,λW=>?_,h7⟩;rcases hH.rfr b W with h|h|h
   .exact h6 h
   .have h:w.heap.size<=b:=h;omega
   exact U id b N B I h
  .intro b W;rcases hH.rfr b W with h|h|h
   .exact G.hr.rfr b h
   .exact .inr (.inl (OF G.hr.frame.size h))
   obtain⟨j,id,N,hj,hx⟩:=L b h;rcases(G.hr.own id b N hx).2.2 with h|h
   .exact .inr (.inr h)
   exact .inr (.inl h)
  .refine⟨hH.frame.os.trans G.hr.frame.os,hH.frame.tape.trans G.hr.frame.tape,hH.frame.output.trans G.hr.frame.output,OF G.hr.frame.size hH.frame.size,λk hk hF=>?_⟩;rw[hblk k (VW hk G.hr.frame.size) (λho=>by
    obtain⟨j,id,N,hj,hx⟩:=L k ho;rcases(G.hr.own id k N hx).2.2 with h|h
    .exact hF h
    omega)]
   exact G.hr.frame.block k hk hF
  .intro id x hid hx;rcases Y id with⟨j,hj⟩|⟨i,hi,rfl⟩|⟨I,h4⟩
   .rw[show mn id=m' (big+j)from mnA j id hj]at hx;exact G.hr.keep id x hid (kept j id x hj hx)
   .have:=M i hi;omega
   rw[show mn id=m id from mnC id I h4]at hx;exact G.hr.keep id x hid hx
 rw[Vu];exact⟨mn,R',SW.put (G.world hHn hR hm avn) dst (hrv.ren (eI ids base) (okR ids.length k') rm ra _ _ hva)⟩
end
section
variable {C:Ctx}{n:Nat}{σ:St}{dst:YX}{ty:TypeId}{ts:Array TypeId}{pos:String}{after:Y4}{gd:Option (Nat×Bool)}
theorem cf{args:nR}{os:Zy}{k':Nat}(ids:ee)(base:Nat)(hc:bS C.P f)(q:xs.toList.map (σ.ev n)=V.renL (eI ids base) args)
  (I:V.allL (okR ids.length 0) args=YK) (hos:os.map (·.1)=(List.range ids.length).map (big+ ·)) (E:os.all (λp=>p.2.all (okR ids.length 0))=YK) (D:gL σ (eI ids base) os)
  (G:ids.Nodup) (H:(nwO base k').all σ.av=YK) (L:ZS C.P f ids.length k' args os Q)
  (M:∀v ob',Q v ob'->K (σ.app dst ⟨v.ren (eI ids base),wrO ids base k' ob',nwO base k'⟩)):
  OJ C n ⟨dst,.call { callee:= .value (.func f),args:=xs,argTypes:=ts },ty,pos,after,gd⟩ K σ:=by
 rintro a w Q' ⟨m,R,hw⟩;unfold Oper.wp;rw[od hc];have B:=hw.evs xs.toList;rw[q]at B;have:=tC (dst:=dst) ids base I hos E D G H L M hw B;have e:(xs.toList.map a.eval).toArray=xs.map a.eval:=by rw[<-Y9,YP]
 rw[e]at this;refine Calls.mono this ?_;rintro e w' ⟨u,rfl,h⟩;exact h
theorem xL(hc:bS P f)(xs:Array Operand){fs cs:e7}(q:a.eval y= .func (.func f) fs.toArray cs.toArray)(w:World):
  (execOp a.eval ⟨dst,.call { callee:= .value y,args:=xs,argTypes:=ts },ty,pos,after,gd⟩).run P w= .ok (.enter f (fs++xs.toList.map a.eval++cs).toArray) w:=by
 have e:(fs.toArray++xs.map a.eval++cs.toArray)=(fs++xs.toList.map a.eval++cs).toArray:=Zm;simp[execOp,resolve,Deferred.ofValue,q,invoke];rw[show(fs++(List.map a.eval xs.toList++cs)).toArray=fs.toArray++(xs.map a.eval++cs.toArray) by simp];exact hc _ _
theorem Jo{fs cs:nR}{args:nR}{os:Zy}{k':Nat}(ids:ee)(base:Nat)(hc:bS C.P f)(L:σ.ev n y= .fn (.func f) fs cs)(q:fs++xs.toList.map (σ.ev n)++cs=V.renL (eI ids base) args)
  (M:V.allL (okR ids.length 0) args=YK) (hos:os.map (·.1)=(List.range ids.length).map (big+ ·)) (G:os.all (λp=>p.2.all (okR ids.length 0))=YK) (D:gL σ (eI ids base) os)
  (H:ids.Nodup) (I:(nwO base k').all σ.av=YK) (U:ZS C.P f ids.length k' args os Q)
  (W:∀v ob',Q v ob'->K (σ.app dst ⟨v.ren (eI ids base),wrO ids base k' ob',nwO base k'⟩)):
  OJ C n ⟨dst,.call { callee:= .value y,args:=xs,argTypes:=ts },ty,pos,after,gd⟩ K σ:=by
 rintro a w Q' ⟨m,R,hw⟩;have E:=hw.ev y;rw[L]at E;simp only[Rel]at E;obtain⟨us,vs,he,h1,h2⟩:=E;unfold Oper.wp;rw[xL hc xs he];have B:=(h1.append (hw.evs xs.toList)).append h2;rw[q]at B;refine Calls.mono (tC (dst:=dst) ids base M hos G D H I U W hw B) ?_;rintro e w' ⟨u,rfl,h⟩;exact h
theorem NF{Q:PV->Prop}(hc:bS C.P f)(H:σ.ev n y= .pv (.fn (.func f) fs cs))(I:ZK C.P f (fs++ps++cs) Q)(q:(V.args (λ_=>WC) (xs.toList.map (σ.ev n))).map PV.fgA=WB ps)(L:∀v,Q v->K (σ.put dst (.pv v))):
  OJ C n ⟨dst,.call { callee:= .value y,args:=xs,argTypes:=ts },ty,pos,after,gd⟩ K σ:=by
 rintro a w Q' ⟨m,R,hw⟩;have E:=hw.pv H;simp only[ZH]at E;obtain⟨us,vs,he,D,h2⟩:=E;unfold Oper.wp;rw[xL hc xs he];have B:ZG w R ps (xs.toList.map a.eval):=by
  have G:SW C n ⟨σ.sl,λ_=>WC,σ.av⟩ a w (λ_=>WC) R:=by
   refine⟨⟨λ_=>rfl,λ_ _=>rfl,λ_ _ _ _ h=>(by cases h),λ_ _ _ _ _ h=>(by cases h),λ_ _ _ h=>(by cases h),hw.hr.rsz,hw.hr.rfr,hw.hr.r0,hw.hr.frame,λ_ _ _ h=>(by cases h),hw.hr.res⟩,hw.df,hw.sz,λt ht=>(hw.sl t ht).mono (λb h=>⟨h,rfl⟩) (λ_ _ _ e=>by cases e) (λ_ e=>e)⟩
  obtain⟨ps0,hargs0,rfl⟩:=X3.1 q;have D:=(G.args (G.evs xs.toList) hargs0).fgA;exact D.mono λb hb=>⟨hb.elim id (fun⟨_,_,h⟩=>by cases h),rfl⟩
 refine Calls.mono (I w R _ hw.hr.gi hw.hr.rsz ((D.append B).append h2)) ?_;rintro e w' ⟨u,v,rfl,hq,hb,hr⟩;exact⟨_,L v hq,m,_,(hw.called hb).put dst (by simpa only[Rel]using hr)⟩
theorem bX(hc:bS C.P f)(u:σ.ev n y= .pv (.fn (.func f) fs cs))(B:ZK C.P f (fs++ps++cs) (· =r))(q:(V.args (λ_=>WC) (xs.toList.map (σ.ev n))).map PV.fgA=WB ps):
  XJ C n ⟨dst,.call { callee:= .value y,args:=xs,argTypes:=ts },ty,pos,after,gd⟩ σ ⟨.pv r,[],[]⟩:=
 NF hc u B q (by rintro v rfl;exact(St.jb σ dst _).symm)
end
end
section
def FnM(P:Program)(f:FuncId)(T:TypeId)(cs:na)(args:na)(Q:PV->na->Prop):Prop:=
 ZS P f 1 0 (.ptr big 0::args.map .pv) [(big,.mix T (cs.map .pv))] λv ob'=>∃r cs',v= .pv r/\ob'=au [(big,.mix T (cs'.map .pv))]/\Q r cs'
theorem rv(ρ:Nat->Nat):∀ps:na,V.renL ρ (ps.map V.pv)=ps.map V.pv
 |[]=>rfl
 |p::ps=>by simp[V.renL,V.ren,rv ρ ps]
theorem oH(q:Nat->Bool):∀ps:na,V.allL q (ps.map V.pv)=YK
 |[]=>rfl
 |p::ps=>by simp[V.allL,V.all,oH q ps]
theorem CE(k:Nat):∀ps:na,V.okL k (ps.map V.pv)=YK
 |[]=>rfl
 |p::ps=>by simp[V.okL,V.okA,CE k ps]
def retM(n t:Nat)(T:TypeId)(Q:PV->na->Prop):Exit->ZA
 | .ret,σ| .normal,σ=>∃r cs',σ.ev n (.tmp t)= .pv r/\σ.ob big=WB (.mix T (cs'.map .pv))/\Q r cs'
 |_,_=>False
theorem FnM.of{fn:Func}{args:na}{Q:PV->na->Prop}(E:P.funcs[f]? =WB fn)(G:fn.body=WB c)(H:fn.ntmps=n)(D:args.length+1<=n)(B:fn.results.toList=[.tmp t])(I:t<n)
  (h:∀m0 w0 F R0,AW ⟨P,m0,w0,F,R0⟩ n c (retM n t T Q) (ZT ((0,.ptr big 0)::jX 1 (args.map .pv)) [(big,.mix T (cs.map .pv))] 0)):FnM P f T cs args Q:=by
 refine ZS.of E G H (by simpa using D) λm0 w0 F R0=>?_
 refine(h m0 w0 F R0).mono ?_;have q:Nat.blt t n=YK:=by simpa[XW]using I
 have u:∀s:St,(∃r cs',s.ev n (.tmp t)= .pv r/\s.ob big=WB (.mix T (cs'.map .pv))/\Q r cs')->∃l os' vs,s.le (ZT l os' 0)/\Tl n (ZT l os' 0) fn.results.toList=WB vs/\V.allL (okR 1 0) vs=YK/\os'.all (λp=>okR 1 0 p.1&&p.2.all (okR 1 0))=YK/\∃r cs',eF vs= .pv r/\au os'=au [(big,.mix T (cs'.map .pv))]/\Q r cs':=by
  rintro s ⟨r,cs',h1,h2,h3⟩;simp only[St.ev,q,Xe]at h1;refine⟨[(t,.pv r)],[(big,.mix T (cs'.map .pv))],[.pv r],Vn ⟨h1,Zp⟩ ⟨h2,Zp⟩ O ?_,?_,O,?_,r,cs',O,O,h3⟩
  .simp only[Xi,Yp,XV,Ob.okA,CE];rfl
  .rw[B];simp only[Tl,St.ev,q,Xe,ZT,look,Zh]
  simp only[Xi,Yp,XV,Ob.all,oH];rfl
 intro ex s hq;cases ex with
 |normal=>exact u s hq
 |ret=>exact u s hq
 |_=>exact hq.elim
section
variable {C:Ctx}{n:Nat}{σ:St}{dst:YX}{ty:TypeId}{ts:Array TypeId}{pos:String}{after:Y4}{gd:Option (Nat×Bool)}
theorem kL{Q:PV->na->Prop}(hc:bS C.P f)(B:FnM C.P f T cs ps Q)(q:xs.toList.map (σ.ev n)= .ptr id 0::ps.map .pv)(ho:σ.ob id=WB (.mix T (cs.map .pv)))(D:∀r cs',Q r cs'->K (σ.app dst ⟨.pv r,[(id,WB (.mix T (cs'.map .pv)))],[]⟩)):
  OJ C n ⟨dst,.call { callee:= .value (.func f),args:=xs,argTypes:=ts },ty,pos,after,gd⟩ K σ:=by
 refine cf (k':=0) [id] 0 hc (args:= .ptr big 0::ps.map .pv) (os:=[(big,.mix T (cs.map .pv))]) ?_ ?_ O ?_ ?_ Zm O B ?_
 .rw[q];simp only[V.renL,V.ren,rv];rfl
 .simp only[V.allL,V.all,oH];rfl
 .simp only[Xi,Yp,XV,Ob.all,oH]
 .refine⟨?_,Zp⟩;have:eI [id] 0 big=id:=rfl;rw[this,ho];simp only[Ob.ren,rv]
 rintro v ob' ⟨r,cs',rfl,rfl,hq⟩;have:=D r cs' hq;have e:wrO [id] 0 0 (au [(big,.mix T (cs'.map .pv))])=[(id,WB (.mix T (cs'.map .pv)))]:=by
  have u:au [(big,Ob.mix T (cs'.map .pv))] (big+0)=WB (.mix T (cs'.map .pv)):=by simp[au]
  simp only[wrO,List.zipIdx_cons,List.zipIdx_nil,ed,Wd,List.range_zero,W7,u,Yf,Ob.ren,rv]
 rw[e];exact this
theorem bV{cs':na}(hc:bS C.P f)(u:FnM C.P f T cs ps (λv c=>v=r/\c=cs'))(q:xs.toList.map (σ.ev n)= .ptr id 0::ps.map .pv)(ho:σ.ob id=WB (.mix T (cs.map .pv))):XJ C n ⟨dst,.call { callee:= .value (.func f),args:=xs,argTypes:=ts },ty,pos,after,gd⟩ σ ⟨.pv r,[(id,WB (.mix T (cs'.map .pv)))],[]⟩:=
 kL hc u q ho (by rintro _ _ ⟨rfl,rfl⟩;rfl)
end
section
variable {C:Ctx}{n:Nat}{σ:St}{dst:YX}{ty t:TypeId}{pos:String}{after:Y4}{gd:Option (Nat×Bool)}{x y:Operand}
theorem XJ.cast{o:Oper}{v v':V}{wr:List (Nat×va)}{nw:ee}(h:XJ C n o σ ⟨v,wr,nw⟩)(e:v=v'):XJ C n o σ ⟨v',wr,nw⟩:=e▸h
theorem dL{kh:IntKind}{ih:Int}(h:Nat)(u:C.P.underlying T=WB (.slice e))(hs:b8 C.P e s)(B:σ.ev n x= .pv (.sl bn k cs))(D:σ.ev n y= .pv (.int kh ih))(E:ih=(h:Int))(G:h<=k)(q:cs.length=k*s):
  XJ C n ⟨dst,.slice T x WC (WB y) WC,ty,pos,after,gd⟩ σ ⟨.pv (.sl bn h (cs.take (h*s))),[],[]⟩:=by
 have:=CA (C:=C) (n:=n) (σ:=σ) (dst:=dst) (ty:=ty) (pos:=pos) (after:=after) (gd:=gd) (x:=x) (kl:= .i64) (il:=0) (kh:=kh) (ih:=ih) WC (WB y) 0 h u hs B Zm (λ_=>rfl) (by rintro _ ⟨⟩;exact⟨D,E⟩) Zm (sh _) G q;simpa using this
theorem zq(l:Nat)(u:C.P.underlying T=WB (.slice e))(hs:b8 C.P e s)(B:σ.ev n x= .pv (.sl bn k cs))(D:σ.ev n y= .pv (.int kl il))(E:il=(l:Int))(G:l<=k)(q:cs.length=k*s):
  XJ C n ⟨dst,.slice T x (WB y) WC WC,ty,pos,after,gd⟩ σ ⟨.pv (.sl bn (k-l) (cs.drop (l*s))),[],[]⟩:=by
 have:=CA (C:=C) (n:=n) (σ:=σ) (dst:=dst) (ty:=ty) (pos:=pos) (after:=after) (gd:=gd) (x:=x) (kl:=kl) (il:=il) (kh:= .i64) (ih:=0) (WB y) WC l k u hs B (by rintro _ ⟨⟩;exact⟨D,E⟩) Zm Zm (λ_=>rfl) G (BY _) q;have e:(cs.drop (l*s)).take ((k-l)*s)=cs.drop (l*s):=aG (by simp[q,Nat.sub_mul]);rw[e]at this;exact this
theorem nU(id':Nat)(E:ZP C.P t e z size bytes)(hs:σ.ev n x= .bJ id size k)(ho:σ.ob id=WB (.cells e cs))(q:cs.length=k*size)
  (G:σ.ev n y= .bJ id2 size 1) (u:σ.ob id2=WB (.cells T2 news)) (hl:news.length=size) (B:news.all PV.leaf=YK) (H:k+1<=1000000000) (D:σ.av id'=YK):
  XJ C n ⟨dst,.call { callee:= .builtin .append,args:= #[x,y],argTypes:= #[t,t] },ty,pos,after,gd⟩ σ ⟨.bJ id' size (k+1),[(id',WB (.cells e (cs++news))),(id,WC)],[id']⟩:=
 gz id' E hs ho q (.inr ⟨id2,size,T2,news,G,u,(aG Zi).symm⟩) Zi (by simpa using B) H D
theorem AV(id':Nat)(D:ZP C.P t e z size bytes)(hs:σ.ev n x= .pv (.sl (WB YK) 0 []))
  (E:σ.ev n y= .bJ id2 size 1) (q:σ.ob id2=WB (.cells T2 news)) (hl:news.length=size) (u:news.all PV.leaf=YK) (B:σ.av id'=YK):
  XJ C n ⟨dst,.call { callee:= .builtin .append,args:= #[x,y],argTypes:= #[t,t] },ty,pos,after,gd⟩ σ ⟨.bJ id' size 1,[(id',WB (.cells e news))],[id']⟩:=
 ir id' D hs (.inr ⟨id2,size,T2,news,E,q,(aG Zi).symm⟩) Zi (by simpa using u) Zi Zi B
end
def pG(ids:ee)(i:Nat):Nat:=bif Nat.ble big i then i else ids.getD i 0
def uF(σ:St)(ρ:Nat->Nat):Zx->Prop
 |[]=>True
 |(t,v)::l=>σ.sl t=v.ren ρ/\uF σ ρ l
theorem og:∀{l:Zx},uF σ ρ l->∀t,look l t= .pv .any\/σ.sl t=(look l t).ren ρ
 |[],_,_=> .inl O
 | (d,v)::l,h,t=>by
   simp only[look];cases hb:Nat.beq t d with
   |true=>have:=bN hb;subst this;exact .inr h.1
   |false=>simpa using og h.2 t
mutual
theorem V.ot(k:Nat):∀v:V,v.okA k=YK->v.all (λi=>Nat.blt i k||Nat.ble big i)=YK
 | .pv _,_=>rfl
 | .ptr _ _,h=>by simpa only[V.okA,V.all]using h
 | .bJ _ _ _,h=>by simpa only[V.okA,V.all]using h
 | .tsl _ _ _,h=>by simpa only[V.okA,V.all]using h
 | .bz _ _ _,h=>by simpa only[V.okA,V.all]using h
 | .map _,h=>by simpa only[V.okA,V.all]using h
 | .agg cs,h=>by simp only[V.okA]at h;simp only[V.all];exact V.okL_all k cs h
 | .bS cs,h=>by simp only[V.okA]at h;simp only[V.all];exact V.okL_all k cs h
 | .fn _ a b,h=>by simp only[V.okA,aJ]at h;simp only[V.all,aJ];exact⟨V.okL_all k a h.1,V.okL_all k b h.2⟩
theorem V.okL_all(k:Nat):∀vs:nR,V.okL k vs=YK->V.allL (λi=>Nat.blt i k||Nat.ble big i) vs=YK
 |[],_=>rfl
 |c::cs,h=>by simp only[V.okL,aJ]at h;simp only[V.allL,aJ];exact⟨V.ot k c h.1,V.okL_all k cs h.2⟩
end
theorem Ob.ot(k:Nat){o:Ob}(h:o.okA k=YK):o.all (λi=>Nat.blt i k||Nat.ble big i)=YK:=by
 cases o with
 |cells _ _=>rfl
 |bD _ _=>rfl
 |mp _ _=>rfl
 |it _ _=>rfl
 |fro _ _=>rfl
 |mi _ _ _=>rfl
 |mix _ cs=>exact V.okL_all k cs h
end

end Go.Proofs.YthicoeegbdboeaaGreatDoor
