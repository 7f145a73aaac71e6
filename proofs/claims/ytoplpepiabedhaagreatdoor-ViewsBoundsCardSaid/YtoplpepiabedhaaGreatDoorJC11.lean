/- Lemmas. No condition. -/
import Derived.RangeFuncIn
import Derived.RangeFuncRecord
import Derived.RangeFuncLeaves
import Derived.StillTail
import Derived.Deep.Quiet
import Derived.Shelf.SlSortCmp.QuietGrown
import Derived.Shelf.SlSortCmp.NoneTotal
import Derived.Shelf.Lay
import Derived.Ground.SlsfProg
import Derived.Ground.NamesProg
import Derived.Lib.Join
import Derived.Test.YtoplpepiabedhaaGreatDoorJC10
set_option maxRecDepth 100000
set_option maxHeartbeats 4000000
open Go.RowKit Go.Proofs.Tryz
open Option renaming some→Sh,none→Sl
open Bool renaming true→Sm,false→S1
namespace Go.Proofs.YtoplpepiabedhaaGreatDoor
variable{b g r n sz id b4:Nat}{α:Type}{P:Program}{a:Act}{w W:World}{es:Array MapEntry}{seen:Array Nat}{T E:TypeId}{cs:List PV}{R:Nat->Prop}{m:Gm}{u:Value}{L:Array Bool->Act->Prop}
section
section
variable {P:Program}{w0:World}{R0 R1:Nat->Prop}{bs X:List Nat}{os:List (Nat×Ob)}{k:Nat}{W W':World}
theorem Btw.more(h:Btw P w0 R0 bs X os k W){W1:World}(l:Below W.heap.size W W1):Btw P w0 (λb=>R0 b\/(W.heap.size<=b/\b<W1.heap.size)) bs X os k W1:=by
 obtain⟨m,rt,hr,h1,h2,h3,h4⟩:=h.ex;have q:=h.bel.size;have z:∀b,b<W.heap.size->W1.heap[b]? =W.heap[b]? :=λb hlt=>l.block b hlt
 have s:∀b,rt.p b->(rt.p b\/(W.heap.size<=b/\b<W1.heap.size))/\W1.heap[b]? =W.heap[b]? :=λb hb'=>⟨.inl hb',z b (rt.d b hb').1⟩
 have j:=hr.own;refine⟨⟨m,⟨λb=>rt.p b\/(W.heap.size<=b/\b<W1.heap.size),rt.g.mono s,?_,[]⟩,?_,h1,h2,?_,?_⟩,h.bel.trans (l.mono q),λx t=>⟨RA (h.xs x t).1 l.size,(h.xs x t).2⟩⟩
 .rintro b (hb'|hb')
  .exact⟨RA (rt.d b hb').1 l.size,(rt.d b hb').2⟩
  .exact⟨hb'.2,fun⟨id,N,e⟩=>by have:=(j id b N e).1;omega⟩
 .refine⟨hr.dom,hr.free,λid o b N h5 h6=>lz.mono s (λ_ _ _ e=>e) (λ_ e=>e) (z b (j id b N h6).1) (hr.obj id o b N h5 h6),hr.inj,λid b N e=>⟨RA (j id b N e).1 l.size,?_,.inl ⟨id,N,e⟩⟩,?_,λb hb'=> .inl hb',λb hb'=>hb',Fr.refl _ _,λ_ _ _ e=>e,hr.res⟩
  .rintro(h|h)
   .exact(j id b N e).2.1 h
   .have:=(j id b N e).1;omega
  .rintro b (hb'|hb')
   .exact RA (hr.rsz b hb') l.size
   .exact hb'.2
 .rintro b (hb'|hb')
  .exact .inl (h3 b hb')
  .exact .inr hb'
 .rintro b (hb'|hb')
  .exact⟨(h4 b hb').1.imp .inl id,(h4 b hb').2⟩
  .exact⟨.inr (IT q hb'.1),λt=>by have:=(h.xs b t).1;omega⟩
theorem Btw.less(h:Btw P w0 R1 bs X os k W)(d:∀b,R0 b->R1 b)(j:∀b,R1 b->R0 b\/w0.heap.size<=b):Btw P w0 R0 bs X os k W:=by
 obtain⟨m,rt,hr,h1,h2,h3,h4⟩:=h.ex;exact⟨⟨m,rt,hr,h1,h2,λb hb=>h3 b (d b hb),λb hb=>⟨(h4 b hb).1.elim (j b) .inr,(h4 b hb).2⟩⟩,h.bel,h.xs⟩
theorem btwS{x:Nat}(h:Btw P w0 R0 bs X os k W)(d:x∈X)(o:Obj):Btw P w0 R0 bs X os k (W.putObj x o):=
 h.other Vj (λq _ hn=>World.putObj_heap_other λe=>hn (e▸d)) (h.bel.grown ⟨O,O,O,Vj,λk _ hk=>World.putObj_heap_other λe=>hk (by rw[e])⟩ h.bel.size λk e=>by cases e;exact(h.xs x d).2) (λy hy=> .inl hy)
theorem Btw.rlt(h:Btw P w0 R0 bs X os k W)(j:R0 b):b<W.heap.size/\b∉X:=by
 obtain⟨m,rt,hr,h1,h2,h3,h4⟩:=h.ex;exact⟨(rt.d b (h3 b j)).1,(h4 b (h3 b j)).2⟩
end
def QY{α:Type}(it:Bool)(P:Program)(gf:Nat)(lb:Array Value)(encs:α->Array Value)(Kp:World->World->Prop)(Pr:List α->α->Prop)(S:List α->Prop)(w:World):Prop:=
 ∀(l:Nat)(J:List α->World->Prop)(W:World),Below w.heap.size w W->
  (∀pre W1 W2 row,J pre W1->W1.grownBy W2 row->(∀q,row=Sh q->it=Sm/\q=W.heap.size)->J pre W2)->
  (∀pre x W1,J pre W1->Pr pre x->YieldAt Fence.wide 0 P l (encs x) W1 λe W'=>e= .returned (.bool Sm)/\J (pre++[x]) W'/\Kp W1 W')->
  (∀o,J [] (bif it then W.alloc o else W))->
  CallsIn Fence.wide 1 P gf (#[.func (.yield l) #[] #[]]++lb) W λe W'=>(∃v,e= .returned v)/\∃xs,S xs/\J xs W'
theorem lr{nt:Nat}{g:Operand}{ps:Array Tmp}{assign body:Code}{Q:Exit->Act->World->Prop}{w0 W0:World}{R0:Nat->Prop}{bs:List Nat}(it:Bool){gf:Nat}{lb:Array Value}{encs:α->Array Value}{Kp:World->World->Prop}
  {Pr:List α->α->Prop} {S:List α->Prop} (hg:a.eval g= .func (.func gf) #[] lb) (eg:∀args w,(callFunc gf args).run P w= .ok (.enter gf args) w) (hseq:QY it P gf lb encs Kp Pr S W0) (hps:∀x,(encs x).size=ps.size)
  (hKp1:it=Sm->∀A B,KeepsWalks A B->Kp A B) (hKp2:it=S1->∀A B:World,(∀b,R0 b->B.heap[b]? =A.heap[b]?)->Kp A B)
  (Inv:List α->List (Nat×Ob)->Nat->Prop) {os0:List (Nat×Ob)} {k0:Nat} (hi0:Inv [] os0 k0) (aa:Btw P w0 R0 bs [] os0 k0 W0) (ab:it=Sm->∀pre os k,Inv pre os k->∀i o,ax os i=Sh o->o.j1=Sm)
  (a1:α->World->Act) (nw:α->World->World) (hnw:∀x W,Below W.heap.size W (nw x W)) (ha1:∀x W,(a1 x W).defers=[]/\(a1 x W).tmps.size=nt)
  (J:∀(l:Nat)(x:α)(W:World)(K:Act->World->Prop),K (a1 x W) (nw x W)->assign.wpIn (rnd l) 0 P (Exit.then K (λ_ _ _=>False)) { tmps:=(ps.zip (encs x)).foldl (λt (p,v)=>t.setIfInBounds p v) a.tmps,defers:=[] } W)
  (hbody:∀pre x os k,Inv pre os k->Pr pre x->∃(slots:List (Nat×V))(Qb:Exit->St->Prop),(∀m0 w0 F R0,AWR ⟨P,m0,w0,F,R0⟩ nt body Qb (mkS slots os k))/\
   (∀ex τ,Qb ex τ->∃os' k',τ.le (mkS [] os' k')/\(∀j,j<bs.length->bI (ax os' (big+j))=Sm)/\ex= .normal/\Inv (pre++[x]) os' k')/\
   (∀(W W2:World)(m:Gm)(R:Nat->Prop),(∀b,W.heap.size<=b->b<(nw x W).heap.size->R b/\W2.heap[b]? =(nw x W).heap[b]?)->(∀j b,bs[j]? =Sh b->∃N,m (big+j)=Sh (b,N))->(∀b,R0 b->R b)->∀t,t<nt->Rel W2 m (avK k) R (look slots t) ((a1 x W).eval (.tmp t))))
  (hdone:∀(D:Nat)(X:List Nat)(xs:List α)(os:List (Nat×Ob))(k:Nat)(W:World),w0.heap.size<=D->D<W.heap.size->D∈X->S xs->Inv xs os k->Btw P w0 R0 bs X os k W->W.heap[D]? =Sh (.deferred (Sh []))->Q .normal { a with defers:={ target:= .collected D,args:= #[] }::a.defers } W):
  (Code.rangeFunc g ps assign body).wpIn Fence.wide 2 P Q a W0:=by
 refine wpIn_rangeFunc ?_;intro fn hfn;have hge:=aa.bel.size;obtain⟨rec,hrec⟩:∃rec:LoopState->Option Code->Loop,rec=λst pe=>{ state:=st,pending:=pe,fn,tmps:=a.tmps,params:=ps,assign,body,defers:=W0.heap.size }:=⟨_,O⟩
 obtain⟨W1,hW1⟩:∃W1,(W0.alloc (.deferred (Sh []))).alloc (.loop (rec .ready Sl))=W1:=⟨_,O⟩;obtain⟨D,hD⟩:∃D,D=W0.heap.size:=⟨_,O⟩;have hL1:W1.heap[D+1]? =Sh (.loop (rec .ready Sl)):=by
  rw[<-hW1,hD];have:=World.alloc_heap_new (W0.alloc (.deferred (Sh []))) (.loop (rec .ready Sl));rwa [World.size_alloc]at this
 have hK1:W1.heap[D]? =Sh (.deferred (Sh [])):=by
  rw[<-hW1,hD];exact(Below.heap_alloc _ _ _ Vj).trans (World.alloc_heap_new W0 _)
 have hs1:W1.heap.size=D+2:=by rw[<-hW1];simp[hD]
 have z:Below W0.heap.size W0 W1:=by rw[<-hW1];exact((Below.refl _ W0).alloc (BY _) _).alloc Vj _
 have d:Btw P w0 R0 bs [D,D+1] os0 k0 W1:=by
  refine aa.other Vf (λq hq _=>z.block q hq) (aa.bel.trans (z.mono hge)) (λx hx=>?_);simp only[AS,Sn,T7]at hx;omega
 obtain⟨X,hX⟩:∃X,X=bif it then [D,D+1,D+2]else [D,D+1]:=⟨_,O⟩;have hDX:D∈X:=by rw[hX];cases it<;>simp
 have H:D+1∈X:=by rw[hX];cases it<;>simp
 have hXm:∀x,x∈X->x=D\/x=D+1\/(it=Sm/\x=D+2):=λx hx=>by
  rw[hX]at hx;cases it<;>simp at hx<;>simp<;>omega
 refine⟨D+1,[{ target:= .collected D,args:= #[] }],W1,{ target:= .fn (.func gf) lb,args:= #[.func (.yield (D+1)) #[] #[]] },W1,gf,
  #[.func (.yield (D+1)) #[] #[]]++lb,W1,?_,?_,λ_ _=>trivial,?_,λ_=>by decide,?_⟩
 .rw[<-hW1,hrec,hD];exact run_enterLoop_outer _ _ _ _ _
 .simp only[resolve,hg];simp[go_sem]
 .simp[invoke,go_sem,eg]
 .refine(hseq (D+1) (λpre W=>(∃os k,Inv pre os k/\Btw P w0 R0 bs X os k W)/\W.heap[D+1]? =Sh (.loop (rec .ready Sl))/\W.heap[D]? =Sh (.deferred (Sh []))) W1 z ?_ ?_ ?_).mono ?_
  .rintro pre Wa Wb row ⟨⟨os,k,hi,hb⟩,h1,h2⟩ hgr hrow;have M:∀q,q∉X->Sh q≠row:=λq hq e=>by
    obtain⟨e1,e2⟩:=hrow q e.symm;refine hq ?_;rw[hX,e1,e2,hs1];simp
   have s:=(Ro.1 h1).1;have I:=(Ro.1 h2).1;refine⟨⟨os,k,hi,hb.other hgr.size (λq hq U=>hgr.block q hq (M q U)) (hb.bel.grown hgr hb.bel.size λq e=>by have:=hrow q e;omega) λy hy=> .inl hy⟩,(hgr.block _ s λe=>?_).trans h1,(hgr.block _ I λe=>?_).trans h2⟩
   .have:=hrow _ e.symm;omega
   .have:=hrow _ e.symm;omega
  .rintro pre x W ⟨⟨os,k,hi,hb⟩,h1,h2⟩ hpr;have s:D+1<W.heap.size:=(Ro.1 h1).1;have I:D<W.heap.size:=(Ro.1 h2).1;have hy:=run_yield (P:=P) (args:=encs x) h1 (by rw[hrec];first|exact hps x|exact(hps x).symm);rw[hrec]at hy;have U:=hnw x W;have h1n:(nw x W).heap[D+1]? =Sh (.loop (rec .ready Sl)):=(U.block _ s).trans h1;have h2n:(nw x W).heap[D]? =Sh (.deferred (Sh [])):=(U.block _ I).trans h2;refine⟨fn,_,assign,body,hy,roundIn_of_wpIn hfn (J _ x W _ ⟨_,run_beginRound h1n (by rw[hrec]),?_⟩)⟩;have hbm:=hb.more U;have hbb:=btwS hbm H (.loop { rec .ready Sl with state:= .busy });obtain⟨slots,Qb,hA,hQ,hsl⟩:=hbody pre x os k hi hpr;have hlt':D+1<(nw x W).heap.size:=RA s U.size;have Y:=hbb.round (n:=nt) (l:=D+1) (body:=body) (slots:=slots) (G:=λex os' k'=>ex= .normal/\Inv (pre++[x]) os' k') hA hQ (a1 x W) (ha1 x W).1 (ha1 x W).2
    (λm R hm hR t ht=>hsl W _ m R (λb hb1 hb2=>⟨hR b (.inr ⟨hb1,hb2⟩),World.putObj_heap_other Vf⟩) hm (λb hb'=>hR b (.inl hb')) t ht)
   refine wpIn_mono Y ?_;rintro ex a3 W3 ⟨⟨os',k',⟨rfl,hi'⟩,hb3⟩,hX3,hsz3,hRk,hwk⟩;have Z:W3.heap[D+1]? =Sh (.loop { rec .ready Sl with state:= .busy }):=(hX3 (D+1) H).trans (World.putObj_heap_same hlt');have hk3:W3.heap[D]? =Sh (.deferred (Sh [])):=(hX3 D hDX).trans ((World.putObj_heap_other Vf).trans h2n);have hlt3:D+1<W3.heap.size:=(Ro.1 Z).1;have hb4:Btw P w0 R0 bs X os' k' W3:=hb3.less (λb hb'=> .inl hb') λb hb'=>hb'.imp id λh=>IT hb.bel.size h.1
   refine⟨_,_,run_endRound Sl Z,O,⟨⟨os',k',hi',btwS hb4 H _⟩,?_,(World.putObj_heap_other Vf).trans hk3⟩,?_⟩
   .rw[World.putObj_heap_same hlt3,hrec];rfl
   .cases hit:it with
    | true=>
      refine hKp1 hit _ _ ?_;have q1:KeepsWalks W (nw x W):=⟨U.size,λq o ho _=>(U.block q (Ro.1 ho).1).trans ho⟩;have q2:KeepsWalks (nw x W) ((nw x W).putObj (D+1) (.loop { rec .ready Sl with state:= .busy })):=KeepsWalks.putObj _ h1n O;have q3:KeepsWalks ((nw x W).putObj (D+1) (.loop { rec .ready Sl with state:= .busy })) W3:=⟨hsz3,hwk (ab hit pre os k hi)⟩;exact((q1.trans q2).trans q3).trans (KeepsWalks.putObj _ Z O)
    | false=>
      refine hKp2 hit _ _ λb hb'=>?_
      obtain⟨g1,g2⟩:=hb.rlt hb';have M:b≠D+1:=λe=>g2 (e▸H)
      exact(World.putObj_heap_other M).trans ((hRk b (.inl hb')).trans ((World.putObj_heap_other M).trans (U.block b g1)))
  .intro o;cases hit:it with
   | true=>
     simp only[Sy];have ha:Below W1.heap.size W1 (W1.alloc o):=(Below.refl _ W1).alloc (BY _) o;refine⟨⟨os0,k0,hi0,?_⟩,(ha.block _ Vf).trans hL1,(ha.block _ Vf).trans hK1⟩;refine d.other ha.size (λq hq _=>ha.block q hq) (d.bel.trans (ha.mono d.bel.size)) λy hy=>?_
     rcases hXm y hy with rfl|rfl|⟨_,rfl⟩
     .exact .inl Vj
     .exact .inl Vj
     .exact .inr ⟨Vf,Vk⟩
   | false=>
     simp only[RR];rw[hit]at hX;subst hX;exact⟨⟨os0,k0,hi0,d⟩,hL1,hK1⟩
  .rintro e W2 ⟨⟨v,rfl⟩,xs,hS,⟨os,k,hi,hb⟩,h1,h2⟩;have s:=(Ro.1 h2).1;refine⟨Sl,_,by have:=run_endLoop (P:=P) h1 (by rw[hrec];simp);rw[hrec]at this;exact this,hdone D X xs os k _ Vf (by simpa using s) hDX hS hi (btwS hb H _) ((World.putObj_heap_other Vf).trans h2)⟩
end
section
open Go.RowKit Go.Shelf Mm
open Go.ChangeMaps (setBlock)
attribute [local go_sem] Oper.semAt_some
theorem Fv(es:Array MapEntry)(seen:Array Nat):(leftOf es seen).size=(fS es seen).length:=by
 unfold fS;rw[OF,<-dA,RE]
theorem lO{mb:Nat}{clock c1 c2:Nat}{x:Option Nat}(d:w.heap[mb]? =Sh (.map es clock))(j:w.heap[r]? =Sh (.mapIter x c1 seen c2)):w.rangeLeft mb r=(fS es seen).length:=by
 rw[<-Fv];simp[World.rangeLeft,d,j]
def cy(p:Par):Value:= .agg #[.int .i64 p.f,.string p.c]
theorem jk{p q:Par}(h:cy p=cy q):p=q:=by
 obtain⟨a,s⟩:=p;obtain⟨b,t⟩:=q;simp only[cy,Value.agg.injEq,Array.mk.injEq,Tz,Value.int.injEq,Value.string.injEq,and_true,true_and]at h;rw[h.1,h.2]
def eB(p:PP):Value:= .agg #[.int .i64 p.1.f,.string p.1.c,.int .i64 p.2.f,.string p.2.c]
theorem lu{p q:PP}(h:eB p=eB q):p=q:=by
 obtain⟨⟨a,s⟩,⟨a2,s2⟩⟩:=p;obtain⟨⟨b,t⟩,⟨b2,t2⟩⟩:=q;simp only[eB,Value.agg.injEq,Array.mk.injEq,Tz,Value.int.injEq,Value.string.injEq,and_true,true_and]at h;obtain⟨h1,h2,h3,h4⟩:=h;rw[h1,h2,h3,h4]
theorem nD{p q:ByteArray}(h:Value.string p=Value.string q):p=q:=by cases h;rfl
theorem AN{enc:α->Value}{xs:List α}(q:es.toList.map (·.key)=xs.map enc){e:MapEntry}(j:e∈(leftOf es seen).toList):e∈es.toList/\∃x∈xs,enc x=e.key:=by
 rw[dA]at j;have d:=(Sj.1 j).1;have l:e.key∈xs.map enc:=by rw[<-q];exact List.mem_map_of_mem d
 obtain⟨x,hx1,hx2⟩:=By.1 l;exact⟨d,x,hx1,hx2⟩
theorem c6{β:Type}{f:α->β}(q:∀a b,f a=f b->a=b):∀{l m:List α},(l.map f).Perm (m.map f)->l.Perm m:=by
 intro l;induction l with
 |nil=>intro m h;have:=h.length_eq;simp at this;rw[RU this.symm]
 | cons a l ih=>
   intro m h;have d:f a∈m.map f:=h.subset Vj;obtain⟨b,hb,e⟩:=By.1 d;obtain rfl:=q _ _ e;obtain⟨s,t,rfl⟩:=List.append_of_mem hb;have j:(l.map f).Perm ((s++t).map f):=by
    have:((s++b::t).map f).Perm (f b::(s++t).map f):=by simp only[RG,bP];exact Uq
    exact(h.trans this).cons_inv
   exact((ih j).cons b).trans Uq.symm
theorem rJ{enc:α->Value}{xs:List α}(j:es.toList.map (·.key)=xs.map enc)(seen:Array Nat):∃rest:List α,fS es seen=rest.map enc:=by
 have d:∀l:List Value,(∀v∈l,∃x,enc x=v)->∃rest:List α,l=rest.map enc:=by
  intro l;induction l with
  |nil=>intro _;exact⟨[],O⟩
  | cons v l ih=>
    intro h;obtain⟨x,hxe⟩:=h v Vj;obtain⟨r,hr⟩:=ih λu hu=>h u (by simp[hu])
    exact⟨x::r,by rw[bP,hxe,<-hr]⟩
 refine d _ λv hv=>?_
 unfold fS at hv;obtain⟨e,he,rfl⟩:=By.1 hv;obtain⟨_,x,_,hxe⟩:=AN (seen:=seen) (e:=e) j (by rw[dA];exact he);exact⟨x,hxe⟩
theorem rC{F:Fence}(w:World){ops:Array Oper}{rest:List Oper}{o:Oper}{Q:Exit->Act->World->Prop}(G:o.guard=Sl)(it:Operand)(s:o.op=Op.next it S1)(r b clock:Nat)(seen:Array Nat)(es:Array MapEntry)
  (t:a.eval it= .pointer (Sh ⟨r,0,Sl⟩)) (B:w.heap[r]? =Sh (.mapIter (Sh b) clock seen clock)) (D:w.heap[b]? =Sh (.map es clock)) (z:r≠b) (A:db es.toList clock)
  (j:(leftOf es seen).size=0->wpListIn F n P ops Q rest (a.put o.dst (.tuple #[.bool S1])) w)
  (l:∀e:MapEntry,e∈leftOf es seen->∀W2:World,W2.heap[r]? =Sh (.mapIter (Sh b) clock (seen.push e.born) clock)->W2.heap[b]? =Sh (.map es clock)->w.grownBy W2 (Sh r)->wpListIn F n P ops Q rest (a.put o.dst (.tuple #[.bool Sm,e.key,e.val])) W2):wpListIn F n P ops Q (o::rest) a w:=by
 refine yf w G it s r b clock seen es t B D A j λe he w1 hal=>?_
 have d:w1.heap=w.heap:=by rcases hal with rfl|rfl<;>rfl
 have q:r<w.heap.size:=(Ro.1 B).1;refine l e (by simpa using he) _ ?_ ?_ ⟨by rcases hal with rfl|rfl<;>rfl,by rcases hal with rfl|rfl<;>rfl,by rcases hal with rfl|rfl<;>rfl,by simp[setBlock,d],λk _ hk=>?_⟩
 .simp only[setBlock];rw[Array.getElem?_setIfInBounds_self,AT (by rw[d];exact q)]
 .simp only[setBlock];rw[Th z,d];exact D
 .simp only[setBlock];rw[Th (λe=>hk (by rw[e])),d]
theorem D0(Bm off mb:Nat)(es:Array MapEntry)(clock:Nat)(xs:List Par)(w:World)(t:db es.toList clock)(hx:es.toList.map (·.key)=xs.map cy)(hBm:Bm<w.heap.size)
  (aa:w.cell? ⟨Bm,off,Sl⟩=Sh (.map (Sh mb))) (B:w.heap[mb]? =Sh (.map es clock)):
  QY Sm prog 210 #[.pointer (Sh ⟨Bm,off,Sl⟩)] (λx=> #[cy x]) KeepsWalks (λpre x=>∃rest,(pre++x::rest).Perm xs) (λj=>j.Perm xs) w:=by
 intro l J W hW hJ hY h0;have h0:∀o,J [] (W.alloc o):=h0;have hm:W.cell? ⟨Bm,off,Sl⟩=Sh (.map (Sh mb)):=(hW.cell (p:=⟨Bm,off,Sl⟩) hBm).trans aa;have hmb:mb<w.heap.size:=(Ro.1 B).1;have hb:W.heap[mb]? =Sh (.map es clock):=(hW.block mb hmb).trans B;have hne:mb≠W.heap.size:=by have:=hW.size;omega
 clear aa B;have hnd:=t.1;refine callsIn_of_wp func210 O trivial ?_ O;simp only[ntmps210,RB,Rk,Tx,Nat.reduceAdd,Nat.reduceSub,Uc,Ua,UH,Um,Sr,SN]
 gi_wp2_with (first
  |(gi_at_range;refine jb _ O _ 117 O 147 116 underlying117 mb es clock O hb ?_)
  |gi_in)
 try go_frame
 gi_loopw [3] (λ_ wr=>∃(seen:Array Nat)(j:List Par),wr.heap[W.heap.size]? =Sh (.mapIter (Sh mb) clock seen clock)/\wr.heap[mb]? =Sh (.map es clock)/\(j.map cy++fS es seen).Perm (xs.map cy)/\J j wr)
  (λ_ wr=>wr.rangeLeft mb W.heap.size)
 case atStart=>
  exact⟨#[],[],World.alloc_heap_new W _,(Below.heap_alloc W _ mb (by have:=hW.size;omega)).trans hb,by rw[oG,hx];exact RY _,h0 _⟩
 case round=>
  obtain⟨seen,j,hit,hmp,hP,hJs⟩:=hrel
  gi_wp2_with (first
   |(gi_at_next;refine rC _ rfl _ rfl W.heap.size mb clock seen es rfl hit hmp (λe=>hne e.symm) t ?_ ?_)
   |gi_in)
  .intro h00
   gi_wp2
   go_end0
   rw[mg (by simp[h00]),Sk]at hP;exact⟨⟨_,O⟩,j,c6 (λ_ _=>jk) hP,hJs⟩
  .intro e D W2 hit2 hmp2 hg2;have D:e∈(leftOf es seen).toList:=by simpa using D
   obtain⟨hem,x,hxm,hxe⟩:=AN hx D;have G:J j W2:=hJ j wr W2 (Sh W.heap.size) hJs hg2 (λq e=>by cases e;exact⟨Vm,O⟩);have s:=lC t D;clear t;obtain⟨ek,ev,eb⟩:=e;obtain rfl:cy x=ek:=hxe;have H:(Instr.entry (.pointer (Sh ⟨W.heap.size,0,Sl⟩))).run prog W2= .ok (.tuple #[cy x,ev]) W2:=run_entry_at W2 W.heap.size mb clock seen es clock ⟨cy x,ev,eb⟩ hit2 hmp2 hem hnd;simp only at hit2;generalize hk0:cy x=kx at H ⊢;have hk1:kx= .agg #[.int .i64 x.f,.string x.c]:=hk0.symm;subst hk1;have I:=((s.append_left (j.map cy)).symm.trans hP);obtain⟨rest,hrest⟩:=rJ (enc:=cy) hx (seen.push eb);have M:∃rest,(j++x::rest).Perm xs:=⟨rest,c6 (λ_ _=>jk) (by rw[RG,bP,<-hrest];exact I)⟩;obtain⟨W3,hW3⟩:∃W3,W2.alloc (.cells #[.int .i64 x.f,.string x.c] 147)=W3:=⟨_,O⟩;have d:Below W2.heap.size W2 W3:=by rw[<-hW3];exact(Below.refl _ W2).alloc (BY _) _
   have U:J j W3:=hJ j W2 W3 Sl G ⟨d.os,d.tape,d.output,d.size,λk hk _=>d.block k hk⟩ (λq e=>by cases e);have V:W3.heap[W.heap.size]? =Sh (.mapIter (Sh mb) clock (seen.push eb) clock):=(d.block _ (Ro.1 hit2).1).trans hit2;have Y:W3.heap[mb]? =Sh (.map es clock):=(d.block _ (Ro.1 hmp2).1).trans hmp2;have hlt:=s.length_eq;have hl1:=lO hmp hit;have Z:(j++[x]).map cy++fS es (seen.push eb)=j.map cy++cy x::fS es (seen.push eb):=Vj;obtain⟨fn,tmps,assign,body,hy,hR⟩:=hY j x W3 U M;rw[hk0]at hy;clear hP s D hem hx hxm M hY hJ hg2 G h0 hW d U;subst hW3
   gi_wp2_with (first
    |(refine iN _ O _ O W.heap.size _ ev O H ?_)
    |gi_in)
   refine hR.mono ?_;rintro e W4 ⟨rfl,hJ4,hk4⟩
   gi_wp2
   have z:=hk4.same _ _ V O;have A:=hk4.same _ _ Y O
   go_roundw
   case rel=>exact⟨_,_,z,A,by rw[Z];exact I,hJ4⟩
   case measure=>rw[lO A z,hl1,hlt];simp
theorem EL(Bm off mb:Nat)(es:Array MapEntry)(clock:Nat)(xs:List PP)(w:World)(t:db es.toList clock)(hx:es.toList.map (·.key)=xs.map eB)(hBm:Bm<w.heap.size)
  (aa:w.cell? ⟨Bm,off,Sl⟩=Sh (.map (Sh mb))) (B:w.heap[mb]? =Sh (.map es clock)):
  QY Sm prog 215 #[.pointer (Sh ⟨Bm,off,Sl⟩)] (λx=> #[eB x]) KeepsWalks (λpre x=>∃rest,(pre++x::rest).Perm xs) (λj=>j.Perm xs) w:=by
 intro l J W hW hJ hY h0;have h0:∀o,J [] (W.alloc o):=h0;have hm:W.cell? ⟨Bm,off,Sl⟩=Sh (.map (Sh mb)):=(hW.cell (p:=⟨Bm,off,Sl⟩) hBm).trans aa;have hmb:mb<w.heap.size:=(Ro.1 B).1;have hb:W.heap[mb]? =Sh (.map es clock):=(hW.block mb hmb).trans B;have hne:mb≠W.heap.size:=by have:=hW.size;omega
 clear aa B;have hnd:=t.1;refine callsIn_of_wp func215 O trivial ?_ O;simp only[ntmps215,RB,Rk,Tx,Nat.reduceAdd,Nat.reduceSub,Uc,Ua,UH,Um,Sr,SN]
 gi_wp2_with (first
  |(gi_at_range;refine jb _ O _ 118 O 238 116 underlying118 mb es clock O hb ?_)
  |gi_in)
 try go_frame
 gi_loopw [3] (λ_ wr=>∃(seen:Array Nat)(j:List PP),wr.heap[W.heap.size]? =Sh (.mapIter (Sh mb) clock seen clock)/\wr.heap[mb]? =Sh (.map es clock)/\(j.map eB++fS es seen).Perm (xs.map eB)/\J j wr)
  (λ_ wr=>wr.rangeLeft mb W.heap.size)
 case atStart=>
  exact⟨#[],[],World.alloc_heap_new W _,(Below.heap_alloc W _ mb (by have:=hW.size;omega)).trans hb,by rw[oG,hx];exact RY _,h0 _⟩
 case round=>
  obtain⟨seen,j,hit,hmp,hP,hJs⟩:=hrel
  gi_wp2_with (first
   |(gi_at_next;refine rC _ rfl _ rfl W.heap.size mb clock seen es rfl hit hmp (λe=>hne e.symm) t ?_ ?_)
   |gi_in)
  .intro h00
   gi_wp2
   go_end0
   rw[mg (by simp[h00]),Sk]at hP;exact⟨⟨_,O⟩,j,c6 (λ_ _=>lu) hP,hJs⟩
  .intro e D W2 hit2 hmp2 hg2;have D:e∈(leftOf es seen).toList:=by simpa using D
   obtain⟨hem,x,hxm,hxe⟩:=AN hx D;have G:J j W2:=hJ j wr W2 (Sh W.heap.size) hJs hg2 (λq e=>by cases e;exact⟨Vm,O⟩);have s:=lC t D;clear t;obtain⟨ek,ev,eb⟩:=e;obtain rfl:eB x=ek:=hxe;have H:(Instr.entry (.pointer (Sh ⟨W.heap.size,0,Sl⟩))).run prog W2= .ok (.tuple #[eB x,ev]) W2:=run_entry_at W2 W.heap.size mb clock seen es clock ⟨eB x,ev,eb⟩ hit2 hmp2 hem hnd;simp only at hit2;generalize hk0:eB x=kx at H ⊢;have hk1:kx= .agg #[.int .i64 x.1.f,.string x.1.c,.int .i64 x.2.f,.string x.2.c]:=hk0.symm;subst hk1;have I:=((s.append_left (j.map eB)).symm.trans hP);obtain⟨rest,hrest⟩:=rJ (enc:=eB) hx (seen.push eb);have M:∃rest,(j++x::rest).Perm xs:=⟨rest,c6 (λ_ _=>lu) (by rw[RG,bP,<-hrest];exact I)⟩;obtain⟨W3,hW3⟩:∃W3,W2.alloc (.cells #[.int .i64 x.1.f,.string x.1.c,.int .i64 x.2.f,.string x.2.c] 238)=W3:=⟨_,O⟩;have d:Below W2.heap.size W2 W3:=by rw[<-hW3];exact(Below.refl _ W2).alloc (BY _) _
   have U:J j W3:=hJ j W2 W3 Sl G ⟨d.os,d.tape,d.output,d.size,λk hk _=>d.block k hk⟩ (λq e=>by cases e);have V:W3.heap[W.heap.size]? =Sh (.mapIter (Sh mb) clock (seen.push eb) clock):=(d.block _ (Ro.1 hit2).1).trans hit2;have Y:W3.heap[mb]? =Sh (.map es clock):=(d.block _ (Ro.1 hmp2).1).trans hmp2;have hlt:=s.length_eq;have hl1:=lO hmp hit;have Z:(j++[x]).map eB++fS es (seen.push eb)=j.map eB++eB x::fS es (seen.push eb):=Vj;obtain⟨fn,tmps,assign,body,hy,hR⟩:=hY j x W3 U M;rw[hk0]at hy;clear hP s D hem hx hxm M hY hJ hg2 G h0 hW d U;subst hW3
   gi_wp2_with (first
    |(refine iN _ O _ O W.heap.size _ ev O H ?_)
    |gi_in)
   refine hR.mono ?_;rintro e W4 ⟨rfl,hJ4,hk4⟩
   gi_wp2
   have z:=hk4.same _ _ V O;have A:=hk4.same _ _ Y O
   go_roundw
   case rel=>exact⟨_,_,z,A,by rw[Z];exact I,hJ4⟩
   case measure=>rw[lO A z,hl1,hlt];simp
theorem Dt(Bm off mb:Nat)(es:Array MapEntry)(clock:Nat)(xs:List ByteArray)(w:World)(t:db es.toList clock)(hx:es.toList.map (·.key)=xs.map Value.string)(hBm:Bm<w.heap.size)
  (aa:w.cell? ⟨Bm,off,Sl⟩=Sh (.map (Sh mb))) (B:w.heap[mb]? =Sh (.map es clock)):
  QY Sm prog 345 #[.pointer (Sh ⟨Bm,off,Sl⟩)] (λx=> #[Value.string x]) KeepsWalks (λpre x=>∃rest,(pre++x::rest).Perm xs) (λj=>j.Perm xs) w:=by
 intro l J W hW hJ hY h0;have h0:∀o,J [] (W.alloc o):=h0;have hm:W.cell? ⟨Bm,off,Sl⟩=Sh (.map (Sh mb)):=(hW.cell (p:=⟨Bm,off,Sl⟩) hBm).trans aa;have hmb:mb<w.heap.size:=(Ro.1 B).1;have hb:W.heap[mb]? =Sh (.map es clock):=(hW.block mb hmb).trans B;have hne:mb≠W.heap.size:=by have:=hW.size;omega
 clear aa B;have hnd:=t.1;refine callsIn_of_wp func345 O trivial ?_ O;simp only[ntmps345,RB,Rk,Tx,Nat.reduceAdd,Nat.reduceSub,Uc,Ua,UH,Um,Sr,SN]
 gi_wp2_with (first
  |(gi_at_range;refine jb _ O _ 107 O 9 39 underlying107 mb es clock O hb ?_)
  |gi_in)
 try go_frame
 gi_loopw [3] (λ_ wr=>∃(seen:Array Nat)(j:List ByteArray),wr.heap[W.heap.size]? =Sh (.mapIter (Sh mb) clock seen clock)/\wr.heap[mb]? =Sh (.map es clock)/\(j.map Value.string++fS es seen).Perm (xs.map Value.string)/\J j wr)
  (λ_ wr=>wr.rangeLeft mb W.heap.size)
 case atStart=>
  exact⟨#[],[],World.alloc_heap_new W _,(Below.heap_alloc W _ mb (by have:=hW.size;omega)).trans hb,by rw[oG,hx];exact RY _,h0 _⟩
 case round=>
  obtain⟨seen,j,hit,hmp,hP,hJs⟩:=hrel
  gi_wp2_with (first
   |(gi_at_next;refine rC _ rfl _ rfl W.heap.size mb clock seen es rfl hit hmp (λe=>hne e.symm) t ?_ ?_)
   |gi_in)
  .intro h00
   gi_wp2
   go_end0
   rw[mg (by simp[h00]),Sk]at hP;exact⟨⟨_,O⟩,j,c6 (λ_ _=>nD) hP,hJs⟩
  .intro e D W2 hit2 hmp2 hg2;have D:e∈(leftOf es seen).toList:=by simpa using D
   obtain⟨hem,x,hxm,hxe⟩:=AN hx D;have G:J j W2:=hJ j wr W2 (Sh W.heap.size) hJs hg2 (λq e=>by cases e;exact⟨Vm,O⟩);have s:=lC t D;clear t;obtain⟨ek,ev,eb⟩:=e;obtain rfl:Value.string x=ek:=hxe;have H:(Instr.entry (.pointer (Sh ⟨W.heap.size,0,Sl⟩))).run prog W2= .ok (.tuple #[Value.string x,ev]) W2:=run_entry_at W2 W.heap.size mb clock seen es clock ⟨Value.string x,ev,eb⟩ hit2 hmp2 hem hnd;simp only at hit2;generalize hk0:Value.string x=kx at H ⊢;have hk1:kx= .string x:=hk0.symm;subst hk1;have I:=((s.append_left (j.map Value.string)).symm.trans hP);obtain⟨rest,hrest⟩:=rJ (enc:=Value.string) hx (seen.push eb);have M:∃rest,(j++x::rest).Perm xs:=⟨rest,c6 (λ_ _=>nD) (by rw[RG,bP,<-hrest];exact I)⟩;obtain⟨W3,hW3⟩:∃W3,W2=W3:=⟨_,O⟩;have d:Below W2.heap.size W2 W3:=by rw[<-hW3];exact Below.refl _ W2
   have U:J j W3:=hJ j W2 W3 Sl G ⟨d.os,d.tape,d.output,d.size,λk hk _=>d.block k hk⟩ (λq e=>by cases e);have V:W3.heap[W.heap.size]? =Sh (.mapIter (Sh mb) clock (seen.push eb) clock):=(d.block _ (Ro.1 hit2).1).trans hit2;have Y:W3.heap[mb]? =Sh (.map es clock):=(d.block _ (Ro.1 hmp2).1).trans hmp2;have hlt:=s.length_eq;have hl1:=lO hmp hit;have Z:(j++[x]).map Value.string++fS es (seen.push eb)=j.map Value.string++Value.string x::fS es (seen.push eb):=Vj;obtain⟨fn,tmps,assign,body,hy,hR⟩:=hY j x W3 U M;rw[hk0]at hy;clear hP s D hem hx hxm M hY hJ hg2 G h0 hW d U;subst hW3
   gi_wp2_with (first
    |(refine iN _ O _ O W.heap.size _ ev O H ?_)
    |gi_in)
   refine hR.mono ?_;rintro e W4 ⟨rfl,hJ4,hk4⟩
   gi_wp2
   have z:=hk4.same _ _ V O;have A:=hk4.same _ _ Y O
   go_roundw
   case rel=>exact⟨_,_,z,A,by rw[Z];exact I,hJ4⟩
   case measure=>rw[lO A z,hl1,hlt];simp
end
section
abbrev apO(T E:TypeId)(sz n:Nat)(cs:List PV):List (Nat×Ob):=[(big,.mix T [.gsl 0 sz n]),(0,.gro E cs)]
theorem AM(l:id≠big)(q:id≠0):ax (apO T E sz n cs) id=Sl:=by
 have d:Nat.beq id big=S1:=by cases hb:Nat.beq id big;rfl;exact absurd (aJ hb) l
 have j:Nat.beq id 0=S1:=by cases hb:Nat.beq id 0;rfl;exact absurd (aJ hb) q
 simp only[ax,d,j,RR]
theorem Ho(h:avK 1 id=Sm):id≠big/\id≠0/\id<big:=by
 have d:Nat.ble 1 id=Sm/\Nat.blt id big=Sm:=by simpa[avK]using h
 have g1:=Rz d.1;have g2:id<big:=Rz d.2;exact⟨Vf,Vf,g2⟩
theorem xL(G:ow w R)(s:∀b,R b->b<w.heap.size)(l:Below w.heap.size w W)(B:W.heap[b4]? =Sh (.cells #[.slice Sl 0 0] T (0,0)))(g4:w.heap.size<=b4):
  Btw P w R [b4] [] (apO T E sz 0 []) 1 W:=by
 have D:b4<W.heap.size:=(Ro.1 B).1;obtain⟨m,hm⟩:∃m:Gm,m=λid=>if id=big then Sh (b4,1)else Sl:=⟨_,O⟩
 have m4:m big=Sh (b4,1):=by rw[hm];simp
 have t:∀id,id≠big->m id=Sl:=λid h=>by rw[hm];simp[h]
 have q:∀id b N,m id=Sh (b,N)->id=big/\b=b4/\N=1:=λid b N e=>by
  by_cases h:id=big
  .subst h;rw[m4]at e;cases e;exact⟨O,O,O⟩
  .rw[t id h]at e;cases e
 have z:∀b,R b->R b/\W.heap[b]? =w.heap[b]? :=λb h=>⟨h,l.block b (s b h)⟩
 have A:∀b,w.heap.size<=b->¬R b:=λb h hr=>by have:=s b hr;omega
 have d:∀id b N,m id=Sh (b,N)->w.heap.size<=b/\b<W.heap.size:=λid b N e=>by
  obtain⟨_,rfl,_⟩:=q id b N e;exact⟨g4,D⟩
 refine⟨⟨m,⟨R,G.mono z,λb h=>⟨RA (s b h) l.size,fun⟨id,N,e⟩=>A b (d id b N e).1 h⟩,[]⟩,?_,?_,?_,λ_ h=>h,?_⟩,l,λx hx=>absurd hx Vj⟩
 .refine⟨λid=>?_,λid h=>?_,λid o b N ho e=>?_,λi j b N N' e1 e2=>?_,λid b N e=>⟨(d id b N e).2,A b (d id b N e).1,.inl ⟨id,N,e⟩⟩,λb h=>RA (s b h) l.size,λb h=> .inl h,λb h=>h,Fr.refl _ _,λ_ _ _ e=>e,λid h=>?_⟩
  .by_cases e1:id=big
   .subst e1;rw[m4];rfl
   .rw[t id e1];by_cases e2:id=0
    .subst e2;rfl
    .rw[AM e1 e2];rfl
  .obtain⟨h1,h2,_⟩:=Ho h;exact AM h1 h2
  .obtain⟨rfl,rfl,rfl⟩:=q id b N e;obtain rfl:o= .mix T [.gsl 0 sz 0]:=by
    have:ax (apO T E sz 0 []) big=Sh (.mix T [.gsl 0 sz 0]):=rfl;rw[this]at ho;cases ho;rfl
   refine⟨_,B,O,BY 1,?_⟩;simp only[RelL,Rel];refine⟨_,_,O,⟨O,Sl,0,O,BY _,Vh,λ_=>⟨O,O,t 0 Vh⟩,λh=>absurd h Vh⟩,O⟩
  .exact(q i b N e1).1.trans (q j b N' e2).1.symm
  .show(Nat.ble 1 id&&Nat.blt id big)=S1;have:Nat.blt id big=S1:=by cases l:Nat.blt id big;rfl;have:=Rz l;omega
   rw[this,Bool.and_false]
 .intro j b hj;match j with
  |0=>cases hj;exact⟨1,m4⟩
  |j+1=>simp at hj
 .exact λid b N e=>⟨(d id b N e).1,Vj⟩
 .exact λb h=>⟨.inl h,Vj⟩
theorem wP{R:RT w (dG m)}{X:List Nat}(H:∀id,m id=Sl)(h:Btw P w R.p [b4] X (apO T E sz n cs) 1 W):
  ∃u,W.cell? ⟨b4,0,Sl⟩=Sh u/\∀W':World,Below w.heap.size w W'->W.heap.size<=W'.heap.size->(∀q,q<W.heap.size->q∉X->W'.heap[q]? =W.heap[q]?)->
   ∃m' R',HR ⟨P,m,w,dG m,R⟩ m' R' (ax [(0,.gro E cs)]) (avK 1) W'/\Rel W' m' (avK 1) R' (.gsl 0 sz n) u:=by
 obtain⟨mB,rt,hr,h1,h2,h3,h4⟩:=h.ex;obtain⟨N4,hN4⟩:=h1 0 b4 O;obtain⟨arr,e1,e2,e3,e4⟩:=hr.obj big (.mix T [.gsl 0 sz n]) b4 N4 O hN4;simp only[RelL]at e4;obtain⟨u,_,ha,hu,rfl⟩:=e4;have D:W.cell? ⟨b4,0,Sl⟩=Sh u:=by
  have:arr[0]? =Sh u:=by
   have:=ag (·[0]?) ha;simpa using this
  simp[World.cell?,e1,this]
 refine⟨u,D,λW' hb hs hq=>?_⟩;have t:∀b,rt.p b->rt.p b/\W'.heap[b]? =W.heap[b]? :=λb hb'=>⟨hb',hq b (rt.d b hb').1 (h4 b hb').2⟩
 have l:=hr.own;obtain⟨m',hm⟩:∃m':Gm,m'=λid=>if id=0 then mB 0 else Sl:=⟨_,O⟩
 have m0:m' 0=mB 0:=by rw[hm];simp
 have B:∀id,id≠0->m' id=Sl:=λid h=>by rw[hm];simp[h]
 have s:∀id x,m' id=Sh x->mB id=Sh x:=λid x e=>by
  by_cases h:id=0
  .subst h;rw[m0]at e;exact e
  .rw[B id h]at e;cases e
 have z:ax [(0,Ob.gro E cs)] 0=Sh (.gro E cs):=rfl;have A:∀id,id≠0->ax [(0,Ob.gro E cs)] id=Sl:=λid h=>by
  have G:Nat.beq id 0=S1:=by cases hb:Nat.beq id 0;rfl;exact absurd (aJ hb) h
  simp only[ax,G,RR]
 refine⟨m',rt.p,⟨λid=>?_,λid h=>?_,λid o b N ho e=>?_,λi j b N N' a1 a2=>hr.inj i j b N N' (s _ _ a1) (s _ _ a2),λid b N e=>⟨RA (l id b N (s _ _ e)).1 hs,(l id b N (s _ _ e)).2.1,.inr (h2 id b N (s _ _ e)).1⟩,
  λb hb'=>RA (hr.rsz b hb') hs,λb hb'=>(h4 b hb').1.imp id .inl,h3,Fr.OP hb _,λid x hid e=>?_,λid hid=>cR hid⟩,?_⟩
 .by_cases e:id=0
  .subst e;rw[m0,z];exact hr.dom 0
  .rw[B id e,A id e];rfl
 .exact A id (Ho h).2.1
 .have e0:id=0:=by
   by_cases e':id=0
   .exact e'
   .rw[B id e']at e;cases e
  subst e0;rw[z]at ho;cases ho;exact lz.mono t (λid x _ e=>s id x e) (λ_ e=>e) (hq b (l 0 b N (s _ _ e)).1 (h2 0 b N (s _ _ e)).2) (hr.obj 0 _ b N O (s _ _ e))
 .rw[B id (by have:big=9000:=rfl;omega)]at e;cases e
 .exact hu.mono t (λid x _ e=>s id x e) λ_ e=>e
theorem yd{R:RT w (dG m)}{R':Nat->Prop}{av:Av}(h:HR ⟨P,m,w,dG m,R⟩ m R' (ax []) av w):∀id,m id=Sl:=λid=>by
 have:=h.dom id;cases hm:m id with
 |none=>rfl
 |some x=>rw[hm]at this;cases this
theorem yL{enc:α->Value}:∀{l:List Value},(∀v∈l,∃x,enc x=v)->∃rest:List α,l=rest.map enc
 |[],_=>⟨[],O⟩
 | v::l,h=>by
   obtain⟨x,hxe⟩:=h v Vj;obtain⟨r,hr⟩:=yL (l:=l) λu hu=>h u (by simp[hu])
   exact⟨x::r,by rw[bP,hxe,<-hr]⟩
theorem NB{enc:α->Value}{kp:α->PV}(q:∀(w:World)(R:Nat->Prop)(x:α)(u:Value),RelP w R (kp x) u->u=enc x){xs:List α}{vs:List PV}(h:RelP w R (.mp (xs.map kp) vs) u):
  ∃(mb:Nat)(es:Array MapEntry)(clock:Nat)(xs':List α),u= .map (Sh mb)/\R mb/\w.heap[mb]? =Sh (.map es clock)/\db es.toList clock/\es.toList.map (·.key)=xs'.map enc/\(xs'.map enc).Perm (xs.map enc):=by
 simp only[RelP]at h;obtain⟨b,rfl,hb,es,clock,l,h1,h2,h3,h4,h5⟩:=h;have d:∀{ys:List α}{us:List Value},RelPL w R (ys.map kp) us->us=ys.map enc:=by
  intro ys;induction ys with
  |nil=>intro us h;simpa[RelPL]using h
  | cons y ys ih=>
    intro us h;simp only[bP,RelPL]at h;obtain⟨u,vs,rfl,h6,h7⟩:=h;rw[q _ _ _ _ h6,ih h7];rfl
 have e:=d h2;have j:(es.toList.map (·.key)).Perm (xs.map enc):=by rw[<-e];exact(h5.map _).symm
 obtain⟨xs',hx⟩:=yL (enc:=enc) (l:=es.toList.map (·.key)) λv hv=>by
  obtain⟨x,_,hx⟩:=By.1 (j.subset hv);exact⟨x,hx⟩
 exact⟨b,es,clock,xs',O,hb,h1,h4,hx,hx▸j⟩
end
section
open Go.RowKit Go.Shelf Mm
attribute [local go_sem] Oper.semAt_some
abbrev Py(x:ByteArray):List PV:=[.str x]
theorem NZ(w:World)(R:Nat->Prop)(x:Par)(u:Value)(h:RelP w R (dr x) u):u=cy x:=by
 simp only[RelP,RelPL]at h;obtain⟨us,rfl,u1,v1,rfl,rfl,u2,v2,rfl,rfl,rfl⟩:=h;rfl
theorem Mt(w:World)(R:Nat->Prop)(x:PP)(u:Value)(h:RelP w R (ppP x) u):u=eB x:=by
 simp only[RelP,RelPL]at h;obtain⟨us,rfl,u1,v1,rfl,rfl,u2,v2,rfl,rfl,u3,v3,rfl,rfl,u4,v4,rfl,rfl,rfl⟩:=h;rfl
theorem Mg(w:World)(R:Nat->Prop)(x:ByteArray)(u:Value)(h:RelP w R (PV.str x) u):u=Value.string x:=by
 simpa only[RelP]using h
def sN(l:List Par):List PV:=l.flatMap pT
theorem Ar(l:List Par):(sN l).length=l.length*2:=bY _ 2 (λ_=>rfl) l
theorem CH(l:List Par)(t:Par):sN l++pT t=sN (l++[t]):=by simp[sN]
noncomputable def apBodyP:Code:=match Tryz.f289.body with
 |some (.seq _ (.seq (.seq _ (.block _ (.rangeFunc _ _ _ b))) _))=>b
 |_=> .skip
theorem C5(ss:List Par)(x:Par)(j:ss.length<=1000000):∀m0 w0 F R0,AWR ⟨prog,m0,w0,F,R0⟩ Tryz.f289.ntmps apBodyP (λex τ=>ex= .normal/\τ.le (mkS [] (apO 171 147 2 (ss++[x]).length (sN (ss++[x]))) 1)) (mkS [(2,.ptr big 0),(5,.pv (.rp (pT x) 0))] (apO 171 147 2 ss.length (sN ss)) 1):=by
 intro m0 w0 F R0;have d:=Ar ss
 repeat refine AWR.seq ?_
 refine AWR.block ?_
 repeat refine AWR.seq ?_
 refine AWR.region O ?_;iterate 5 refine A1 O ?_
 exact⟨O,Q9 [2] trivial ⟨RI (b:=Sh (.mix 171 [.gsl 2 2 (ss.length+1)])) Vg (ag (λn=>Sh (Ob.mix 171 [.gsl 2 2 n])) Vj),RI (b:=Sh (.gro 147 (sN ss++pT x))) Vg (ag (λc=>Sh (Ob.gro 147 c)) (CH ss _)),Vm⟩ O O Vh O⟩
def s6(l:List PP):List PV:=l.flatMap ppC
theorem yq(l:List PP):(s6 l).length=l.length*4:=bY _ 4 (λ_=>rfl) l
theorem Fu(l:List PP)(t:PP):s6 l++ppC t=s6 (l++[t]):=by simp[s6]
noncomputable def apBodyQ:Code:=match Tryz.f292.body with
 |some (.seq _ (.seq (.seq _ (.block _ (.rangeFunc _ _ _ b))) _))=>b
 |_=> .skip
theorem Ed(ss:List PP)(x:PP)(j:ss.length<=1000000):∀m0 w0 F R0,AWR ⟨prog,m0,w0,F,R0⟩ Tryz.f292.ntmps apBodyQ (λex τ=>ex= .normal/\τ.le (mkS [] (apO 235 238 4 (ss++[x]).length (s6 (ss++[x]))) 1)) (mkS [(2,.ptr big 0),(5,.pv (.rp (ppC x) 0))] (apO 235 238 4 ss.length (s6 ss)) 1):=by
 intro m0 w0 F R0;have d:=yq ss
 repeat refine AWR.seq ?_
 refine AWR.block ?_
 repeat refine AWR.seq ?_
 refine AWR.region O ?_;iterate 5 refine A1 O ?_
 exact⟨O,Q9 [2] trivial ⟨RI (b:=Sh (.mix 235 [.gsl 2 4 (ss.length+1)])) Vg (ag (λn=>Sh (Ob.mix 235 [.gsl 2 4 n])) Vj),RI (b:=Sh (.gro 238 (s6 ss++ppC x))) Vg (ag (λc=>Sh (Ob.gro 238 c)) (Fu ss _)),Vm⟩ O O Vh O⟩
def vZ(l:List ByteArray):List PV:=l.flatMap Py
theorem JX(l:List ByteArray):(vZ l).length=l.length*1:=bY _ 1 (λ_=>rfl) l
theorem GL(l:List ByteArray)(t:ByteArray):vZ l++Py t=vZ (l++[t]):=by simp[vZ]
noncomputable def apBodyS:Code:=match Tryz.f389.body with
 |some (.seq _ (.seq (.seq _ (.block _ (.rangeFunc _ _ _ b))) _))=>b
 |_=> .skip
theorem Fy(ss:List ByteArray)(x:ByteArray)(j:ss.length<=1000000):∀m0 w0 F R0,AWR ⟨prog,m0,w0,F,R0⟩ Tryz.f389.ntmps apBodyS (λex τ=>ex= .normal/\τ.le (mkS [] (apO 39 9 1 (ss++[x]).length (vZ (ss++[x]))) 1)) (mkS [(2,.ptr big 0),(5,.pv (.str x))] (apO 39 9 1 ss.length (vZ ss)) 1):=by
 intro m0 w0 F R0;have d:=JX ss
 repeat refine AWR.seq ?_
 refine AWR.block ?_
 repeat refine AWR.seq ?_
 refine AWR.region O ?_;iterate 5 refine A1 O ?_
 exact⟨O,Q9 [2] trivial ⟨RI (b:=Sh (.mix 39 [.gsl 2 1 (ss.length+1)])) Vg (ag (λn=>Sh (Ob.mix 39 [.gsl 2 1 n])) Vj),RI (b:=Sh (.gro 9 (vZ ss++Py x))) Vg (ag (λc=>Sh (Ob.gro 9 c)) (GL ss _)),Vm⟩ O O Vh O⟩
theorem tg(i:Nat)(o:Ob)(h:ax (apO T E sz n cs) i=Sh o):o.j1=Sm:=by
 have:=bG h;simp only[AS,Sn,T7,Prod.mk.injEq]at this;rcases this with⟨_,rfl⟩|⟨_,rfl⟩<;>rfl
theorem DJ{W2:World}{av:Av}{us:List Value}{ty:TypeId}{B:Nat}(d:RelPL W2 R cs us)(l:R B)(q:W2.heap[B]? =Sh (.cells us.toArray ty (0,0))):Rel W2 m av R (.pv (.rp cs 0)) (.pointer (Sh ⟨B,0,Sl⟩)):=by
 simp only[Rel,RelP];exact⟨B,0,us,O,d,l,λj _=>by simp[World.cell?,q]⟩
theorem rY{v:V}(j:a.eval (.tmp 2)= .pointer (Sh ⟨b,0,Sl⟩))(l:Rel W m (avK 1) R v (a.eval (.tmp 5)))(q:∃N,m big=Sh (b,N))(t:Nat):
  Rel W m (avK 1) R (look [(2,.ptr big 0),(5,v)] t) (a.eval (.tmp t)):=by
 by_cases e2:t=2
 .subst e2;rw[j];show Rel W m (avK 1) R (.ptr big 0) _;obtain⟨N,hN⟩:=q;simp only[Rel];exact⟨Vh,λb' N' e=>by rw[hN]at e;cases e;rfl⟩
 .by_cases e5:t=5
  .subst e5;exact l
  .have b2':Nat.beq t 2=S1:=by cases hb:Nat.beq t 2;rfl;exact absurd (aJ hb) e2
   have d:Nat.beq t 5=S1:=by cases hb:Nat.beq t 5;rfl;exact absurd (aJ hb) e5
   have e:look [(2,V.ptr big 0),(5,v)] t= .pv .any:=by simp only[look,b2',d,RR]
   rw[e];simp only[Rel,RelP]
theorem lD{o:Obj}(h:Below n w W)(d:n<=r):Below n w (W.putObj r o):=
 ⟨h.os,h.tape,h.output,by simpa using h.size,λk hk=>(World.putObj_heap_other Vf).trans (h.block k hk)⟩
theorem xC{enc:α->Value}{kp:α->PV}{f:FuncId}(d:∀(w:World)(R:Nat->Prop)(x:α)(u:Value),RelP w R (kp x) u->u=enc x){xs:List α}{vs:List PV}(h:RelP w R (.fn (.func f) [] [.rp [.mp (xs.map kp) vs] 0]) u):
  ∃(b off mb:Nat)(es:Array MapEntry)(clock:Nat)(xs':List α),u= .func (.func f) #[] #[.pointer (Sh ⟨b,off,Sl⟩)]/\R b/\w.cell? ⟨b,off,Sl⟩=Sh (.map (Sh mb))/\R mb/\w.heap[mb]? =Sh (.map es clock)/\db es.toList clock/\es.toList.map (·.key)=xs'.map enc/\(xs'.map enc).Perm (xs.map enc):=by
 rw[RelP]at h;obtain⟨us,vs',rfl,h1,h2⟩:=h;simp only[RelPL]at h1 h2;obtain⟨u3,us3,rfl,h3,rfl⟩:=h2;subst h1;rw[RelP]at h3;obtain⟨b,off,us4,rfl,h4,h5⟩:=h3;simp only[RelPL]at h4;obtain⟨um,us5,rfl,h6,rfl⟩:=h4;obtain⟨mb,es,clock,xs',rfl,g1,g2,g3,g4,g5⟩:=NB d h6;refine⟨b,off,mb,es,clock,xs',O,h5.1,?_,g1,g2,g3,g4,g5⟩;have:=h5.2 0 Vj;simpa using this
theorem PH(b off mb:Nat)(es:Array MapEntry)(clock:Nat)(xs:List Par)(w:World)(m:Gm)(R:RT w (dG m))(I:∀id,m id=Sl)(M:xs.length<=1000000)(J:db es.toList clock)(Y:es.toList.map (·.key)=xs.map cy)(B:b<w.heap.size)
  (hc:w.cell? ⟨b,off,Sl⟩=Sh (.map (Sh mb))) (U:w.heap[mb]? =Sh (.map es clock)):
  CallsIn Fence.wide 2 prog 289 #[.slice Sl 0 0,.func (.func 210) #[] #[.pointer (Sh ⟨b,off,Sl⟩)]] w λe w'=>∃u ss m' R',e= .returned u/\ss.Perm xs/\HR ⟨prog,m,w,dG m,R⟩ m' R' (ax [(0,.gro 147 (sN ss))]) (avK 1) w'/\Rel w' m' (avK 1) R' (.gsl 0 2 ss.length) u:=by
 have V:=enters_of (P:=prog) func210 Vg O;refine callsIn_of_wp_marks func289 O trivial ?_ O;simp only[ntmps289,RB,Rk,Tx,Nat.reduceAdd,Nat.reduceSub,Uc,Ua,UH,Um,Sr,SN]
 gi_wp2
 obtain⟨W0,hW0⟩:∃W0,w.alloc (Obj.cells #[Value.slice Sl 0 0] 171)=W0:=⟨_,O⟩;have s:Below w.heap.size w W0:=by rw[<-hW0];exact(Below.refl _ w).alloc (BY _) _
 have G:W0.heap[w.heap.size]? =Sh (.cells #[.slice Sl 0 0] 171 (0,0)):=by rw[<-hW0];exact World.alloc_heap_new w _
 have A:mb<w.heap.size:=(Ro.1 U).1;rw[hW0];refine lr (nt:=13) (w0:=w) (R0:=R.p) (bs:=[w.heap.size]) Sm (encs:=λx=> #[cy x]) O V (D0 b off mb es clock xs W0 J Y (RA B s.size) ((s.cell (p:=⟨b,off,Sl⟩) B).trans hc) ((s.block mb A).trans U)) (λ_=>rfl) (λ_ _ _ h=>h) (λh=>by cases h)
  (λpre os k=>os=apO 171 147 2 pre.length (sN pre)/\k=1) ⟨O,O⟩ (xL R.g (λb h=>(R.d b h).1) s G (BY _)) ?cell
  (λx W=>{ tmps:= #[.slice Sl 0 0,.func (.func 210) #[] #[.pointer (Sh ⟨b,off,Sl⟩)],.pointer (Sh ⟨w.heap.size,0,Sl⟩),undef,.slice Sl 0 0,.pointer (Sh ⟨W.heap.size,0,Sl⟩),.func (.func 210) #[] #[.pointer (Sh ⟨b,off,Sl⟩)],cy x,undef,undef,undef,undef,undef],defers:=[] })
  (λx W=>W.alloc (.cells #[.int .i64 x.f,.string x.c] 147)) (λx W=>(Below.refl _ W).alloc (BY _) _) (λ_ _=>⟨O,O⟩) ?assign ?body ?done
 case cell=>rintro _ pre os k ⟨rfl,rfl⟩ i o h;exact tg i o h
 case assign=>
  intro l x W K hK;simp only[cy]at hK ⊢
  gi_wp2
  exact hK
 case body=>
  rintro pre x os k ⟨rfl,rfl⟩ ⟨rest,hpr⟩;have H:pre.length<=1000000:=by have:=hpr.length_eq;simp at this;omega
  refine⟨_,_,C5 pre x H,?_,?_⟩
  .rintro ex τ ⟨rfl,h⟩;exact ⟨_,_,h,λj hj=>by obtain rfl:j=0:=(by simpa using hj);rfl,O,O,O⟩
  .intro W W2 m2 R2 hnew hm2 hR2 t _;refine rY O ?_ (hm2 0 _ O) t;obtain⟨g1,g2⟩:=hnew W.heap.size (BY _) Vj;exact DJ (us:=(#[.int .i64 x.f,.string x.c]:Array Value).toList) (by simp only[RelPL,RelP];exact⟨_,_,O,O,_,_,O,O,O⟩) g1 (g2.trans (World.alloc_heap_new W _))
 case done=>
  rintro D X ss os k W hD hDl hDX hS ⟨rfl,rfl⟩ hB hdef;obtain⟨u,hcu,hout⟩:=wP I hB;have z:=hB.bel;clear hB hW0
  gi_wp2
  refine⟨Vj,.inl ⟨_,_,O,run_takeDeferred hdef,?_⟩⟩;refine⟨u,by simp[results,Tryz.f289,go_sem],u,ss,?_⟩;refine(hout _ (lD z hD) Vj (λq _ M=>World.putObj_heap_other (λe=>M (e▸hDX)))).imp λm' h=>h.imp λR' h=>⟨O,hS,h.1,h.2⟩
theorem HH(xs:List Par)(vs:List PV)(q:xs.length<=1000000):FnO prog 289 0 1 [.pv nS,.pv (.fn (.func 210) [] [.rp [.mp (xs.map dr) vs] 0])] []
  (λv ob=>∃ss,ss.Perm xs/\v= .gsl 0 2 ss.length/\ob=ax [(0,.gro 147 (sN ss))]):=by
 intro w m R us hHR hrel;have j:=yd hHR;simp only[RelL,Rel]at hrel;obtain⟨u1,us1,rfl,h1,u2,us2,rfl,h2,rfl⟩:=hrel;simp only[RelP]at h1;obtain⟨A,c,rfl,_,_,hnil,hcz,_⟩:=h1;have l:A=Sl:=by have:=hnil Sm O;simpa using this.symm
 obtain rfl:=hcz trivial;subst l;obtain⟨b,off,mb,es,clock,xs',rfl,hRb,hcell,hRm,hb,hst,hx,hp⟩:=xC NZ h2;refine Calls.mono (callsIn_wide.1 (PH b off mb es clock xs' w m R j (by have:=(c6 (λ_ _=>jk) hp).length_eq;omega) hst hx (R.d b hRb).1 hcell hb)) ?_;rintro e w' ⟨u,ss,m',R',rfl,hS,h3,h4⟩;refine⟨u,_,_,m',R',O,⟨ss,hS.trans (c6 (λ_ _=>jk) hp),O,O⟩,O,?_,h3,h4⟩;intro i o h;by_cases hi:i=0
 .subst hi;cases h;exact⟨O,O⟩
 .have b2:Nat.beq i 0=S1:=by cases hb:Nat.beq i 0;rfl;exact absurd (aJ hb) hi
  simp only[ax,b2,RR]at h;cases h
theorem CL(xs:List Par)(vs:List PV)(j:xs.length<=1000000):FnO prog 208 0 1 [.pv (.fn (.func 210) [] [.rp [.mp (xs.map dr) vs] 0])] []
  (λv ob=>∃ss,ss.Perm xs/\v= .gsl 0 2 ss.length/\ob=ax [(0,.gro 147 (sN ss))]):=by
 have d:=HH xs vs j;refine FnO.of func208 O O (Rz O) ?_;intro m0 w0 F R0;refine Z1 O<|Z1 O<|RL.call O (bM [] 0 call289 O O O O (by exact trivial) Vh O d ?_);rintro _ _ ⟨ss,hS,rfl,rfl⟩;exact A1 O<|Gt O<|⟨[(2,.gsl 0 2 ss.length)],[(0,.gro 147 (sN ss))],_,Q5 (aS Vg) (aO Vg) O O,O,O,O,⟨ss,hS,O,O⟩⟩
theorem QH(b off mb:Nat)(es:Array MapEntry)(clock:Nat)(xs:List PP)(w:World)(m:Gm)(R:RT w (dG m))(I:∀id,m id=Sl)(M:xs.length<=1000000)(J:db es.toList clock)(Y:es.toList.map (·.key)=xs.map eB)(B:b<w.heap.size)
  (hc:w.cell? ⟨b,off,Sl⟩=Sh (.map (Sh mb))) (U:w.heap[mb]? =Sh (.map es clock)):
  CallsIn Fence.wide 2 prog 292 #[.slice Sl 0 0,.func (.func 215) #[] #[.pointer (Sh ⟨b,off,Sl⟩)]] w λe w'=>∃u ss m' R',e= .returned u/\ss.Perm xs/\HR ⟨prog,m,w,dG m,R⟩ m' R' (ax [(0,.gro 238 (s6 ss))]) (avK 1) w'/\Rel w' m' (avK 1) R' (.gsl 0 4 ss.length) u:=by
 have V:=enters_of (P:=prog) func215 Vg O;refine callsIn_of_wp_marks func292 O trivial ?_ O;simp only[ntmps292,RB,Rk,Tx,Nat.reduceAdd,Nat.reduceSub,Uc,Ua,UH,Um,Sr,SN]
 gi_wp2
 obtain⟨W0,hW0⟩:∃W0,w.alloc (Obj.cells #[Value.slice Sl 0 0] 235)=W0:=⟨_,O⟩;have s:Below w.heap.size w W0:=by rw[<-hW0];exact(Below.refl _ w).alloc (BY _) _
 have G:W0.heap[w.heap.size]? =Sh (.cells #[.slice Sl 0 0] 235 (0,0)):=by rw[<-hW0];exact World.alloc_heap_new w _
 have A:mb<w.heap.size:=(Ro.1 U).1;rw[hW0];refine lr (nt:=13) (w0:=w) (R0:=R.p) (bs:=[w.heap.size]) Sm (encs:=λx=> #[eB x]) O V (EL b off mb es clock xs W0 J Y (RA B s.size) ((s.cell (p:=⟨b,off,Sl⟩) B).trans hc) ((s.block mb A).trans U)) (λ_=>rfl) (λ_ _ _ h=>h) (λh=>by cases h)
  (λpre os k=>os=apO 235 238 4 pre.length (s6 pre)/\k=1) ⟨O,O⟩ (xL R.g (λb h=>(R.d b h).1) s G (BY _)) ?cell
  (λx W=>{ tmps:= #[.slice Sl 0 0,.func (.func 215) #[] #[.pointer (Sh ⟨b,off,Sl⟩)],.pointer (Sh ⟨w.heap.size,0,Sl⟩),undef,.slice Sl 0 0,.pointer (Sh ⟨W.heap.size,0,Sl⟩),.func (.func 215) #[] #[.pointer (Sh ⟨b,off,Sl⟩)],eB x,undef,undef,undef,undef,undef],defers:=[] })
  (λx W=>W.alloc (.cells #[.int .i64 x.1.f,.string x.1.c,.int .i64 x.2.f,.string x.2.c] 238)) (λx W=>(Below.refl _ W).alloc (BY _) _) (λ_ _=>⟨O,O⟩) ?assign ?body ?done
 case cell=>rintro _ pre os k ⟨rfl,rfl⟩ i o h;exact tg i o h
 case assign=>
  intro l x W K hK;simp only[eB]at hK ⊢
  gi_wp2
  exact hK
 case body=>
  rintro pre x os k ⟨rfl,rfl⟩ ⟨rest,hpr⟩;have H:pre.length<=1000000:=by have:=hpr.length_eq;simp at this;omega
  refine⟨_,_,Ed pre x H,?_,?_⟩
  .rintro ex τ ⟨rfl,h⟩;exact ⟨_,_,h,λj hj=>by obtain rfl:j=0:=(by simpa using hj);rfl,O,O,O⟩
  .intro W W2 m2 R2 hnew hm2 hR2 t _;refine rY O ?_ (hm2 0 _ O) t;obtain⟨g1,g2⟩:=hnew W.heap.size (BY _) Vj;exact DJ (us:=(#[.int .i64 x.1.f,.string x.1.c,.int .i64 x.2.f,.string x.2.c]:Array Value).toList) (by simp only[RelPL,RelP];exact⟨_,_,O,O,_,_,O,O,_,_,O,O,_,_,O,O,O⟩) g1 (g2.trans (World.alloc_heap_new W _))
 case done=>
  rintro D X ss os k W hD hDl hDX hS ⟨rfl,rfl⟩ hB hdef;obtain⟨u,hcu,hout⟩:=wP I hB;have z:=hB.bel;clear hB hW0
  gi_wp2
  refine⟨Vj,.inl ⟨_,_,O,run_takeDeferred hdef,?_⟩⟩;refine⟨u,by simp[results,Tryz.f292,go_sem],u,ss,?_⟩;refine(hout _ (lD z hD) Vj (λq _ M=>World.putObj_heap_other (λe=>M (e▸hDX)))).imp λm' h=>h.imp λR' h=>⟨O,hS,h.1,h.2⟩
theorem HI(xs:List PP)(vs:List PV)(q:xs.length<=1000000):FnO prog 292 0 1 [.pv nS,.pv (.fn (.func 215) [] [.rp [.mp (xs.map ppP) vs] 0])] []
  (λv ob=>∃ss,ss.Perm xs/\v= .gsl 0 4 ss.length/\ob=ax [(0,.gro 238 (s6 ss))]):=by
 intro w m R us hHR hrel;have j:=yd hHR;simp only[RelL,Rel]at hrel;obtain⟨u1,us1,rfl,h1,u2,us2,rfl,h2,rfl⟩:=hrel;simp only[RelP]at h1;obtain⟨A,c,rfl,_,_,hnil,hcz,_⟩:=h1;have l:A=Sl:=by have:=hnil Sm O;simpa using this.symm
 obtain rfl:=hcz trivial;subst l;obtain⟨b,off,mb,es,clock,xs',rfl,hRb,hcell,hRm,hb,hst,hx,hp⟩:=xC Mt h2;refine Calls.mono (callsIn_wide.1 (QH b off mb es clock xs' w m R j (by have:=(c6 (λ_ _=>lu) hp).length_eq;omega) hst hx (R.d b hRb).1 hcell hb)) ?_;rintro e w' ⟨u,ss,m',R',rfl,hS,h3,h4⟩;refine⟨u,_,_,m',R',O,⟨ss,hS.trans (c6 (λ_ _=>lu) hp),O,O⟩,O,?_,h3,h4⟩;intro i o h;by_cases hi:i=0
 .subst hi;cases h;exact⟨O,O⟩
 .have b2:Nat.beq i 0=S1:=by cases hb:Nat.beq i 0;rfl;exact absurd (aJ hb) hi
  simp only[ax,b2,RR]at h;cases h
theorem FV(xs:List PP)(vs:List PV)(j:xs.length<=1000000):FnO prog 213 0 1 [.pv (.fn (.func 215) [] [.rp [.mp (xs.map ppP) vs] 0])] []
  (λv ob=>∃ss,ss.Perm xs/\v= .gsl 0 4 ss.length/\ob=ax [(0,.gro 238 (s6 ss))]):=by
 have d:=HI xs vs j;refine FnO.of func213 O O (Rz O) ?_;intro m0 w0 F R0;refine Z1 O<|Z1 O<|RL.call O (bM [] 0 call292 O O O O (by exact trivial) Vh O d ?_);rintro _ _ ⟨ss,hS,rfl,rfl⟩;exact A1 O<|Gt O<|⟨[(2,.gsl 0 4 ss.length)],[(0,.gro 238 (s6 ss))],_,Q5 (aS Vg) (aO Vg) O O,O,O,O,⟨ss,hS,O,O⟩⟩
theorem PJ(b off mb:Nat)(es:Array MapEntry)(clock:Nat)(xs:List ByteArray)(w:World)(m:Gm)(R:RT w (dG m))(I:∀id,m id=Sl)(M:xs.length<=1000000)(J:db es.toList clock)(Y:es.toList.map (·.key)=xs.map Value.string)(B:b<w.heap.size)
  (hc:w.cell? ⟨b,off,Sl⟩=Sh (.map (Sh mb))) (U:w.heap[mb]? =Sh (.map es clock)):
  CallsIn Fence.wide 2 prog 389 #[.slice Sl 0 0,.func (.func 345) #[] #[.pointer (Sh ⟨b,off,Sl⟩)]] w λe w'=>∃u ss m' R',e= .returned u/\ss.Perm xs/\HR ⟨prog,m,w,dG m,R⟩ m' R' (ax [(0,.gro 9 (vZ ss))]) (avK 1) w'/\Rel w' m' (avK 1) R' (.gsl 0 1 ss.length) u:=by
 have V:=enters_of (P:=prog) func345 Vg O;refine callsIn_of_wp_marks func389 O trivial ?_ O;simp only[ntmps389,RB,Rk,Tx,Nat.reduceAdd,Nat.reduceSub,Uc,Ua,UH,Um,Sr,SN]
 gi_wp2
 obtain⟨W0,hW0⟩:∃W0,w.alloc (Obj.cells #[Value.slice Sl 0 0] 39)=W0:=⟨_,O⟩;have s:Below w.heap.size w W0:=by rw[<-hW0];exact(Below.refl _ w).alloc (BY _) _
 have G:W0.heap[w.heap.size]? =Sh (.cells #[.slice Sl 0 0] 39 (0,0)):=by rw[<-hW0];exact World.alloc_heap_new w _
 have A:mb<w.heap.size:=(Ro.1 U).1;rw[hW0];refine lr (nt:=13) (w0:=w) (R0:=R.p) (bs:=[w.heap.size]) Sm (encs:=λx=> #[Value.string x]) O V (Dt b off mb es clock xs W0 J Y (RA B s.size) ((s.cell (p:=⟨b,off,Sl⟩) B).trans hc) ((s.block mb A).trans U)) (λ_=>rfl) (λ_ _ _ h=>h) (λh=>by cases h)
  (λpre os k=>os=apO 39 9 1 pre.length (vZ pre)/\k=1) ⟨O,O⟩ (xL R.g (λb h=>(R.d b h).1) s G (BY _)) ?cell
  (λx W=>{ tmps:= #[.slice Sl 0 0,.func (.func 345) #[] #[.pointer (Sh ⟨b,off,Sl⟩)],.pointer (Sh ⟨w.heap.size,0,Sl⟩),undef,.slice Sl 0 0,.string x,.func (.func 345) #[] #[.pointer (Sh ⟨b,off,Sl⟩)],Value.string x,undef,undef,undef,undef,undef],defers:=[] })
  (λx W=>W) (λx W=>Below.refl _ W) (λ_ _=>⟨O,O⟩) ?assign ?body ?done
 case cell=>rintro _ pre os k ⟨rfl,rfl⟩ i o h;exact tg i o h
 case assign=>
  intro l x W K hK
  gi_wp2
  exact hK
 case body=>
  rintro pre x os k ⟨rfl,rfl⟩ ⟨rest,hpr⟩;have H:pre.length<=1000000:=by have:=hpr.length_eq;simp at this;omega
  refine⟨_,_,Fy pre x H,?_,?_⟩
  .rintro ex τ ⟨rfl,h⟩;exact ⟨_,_,h,λj hj=>by obtain rfl:j=0:=(by simpa using hj);rfl,O,O,O⟩
  .intro W W2 m2 R2 hnew hm2 hR2 t _;refine rY O ?_ (hm2 0 _ O) t;simp only[Rel,RelP,Act.eval];rfl
 case done=>
  rintro D X ss os k W hD hDl hDX hS ⟨rfl,rfl⟩ hB hdef;obtain⟨u,hcu,hout⟩:=wP I hB;have z:=hB.bel;clear hB hW0
  gi_wp2
  refine⟨Vj,.inl ⟨_,_,O,run_takeDeferred hdef,?_⟩⟩;refine⟨u,by simp[results,Tryz.f389,go_sem],u,ss,?_⟩;refine(hout _ (lD z hD) Vj (λq _ M=>World.putObj_heap_other (λe=>M (e▸hDX)))).imp λm' h=>h.imp λR' h=>⟨O,hS,h.1,h.2⟩
theorem JK(xs:List ByteArray)(vs:List PV)(q:xs.length<=1000000):FnO prog 389 0 1 [.pv nS,.pv (.fn (.func 345) [] [.rp [.mp (xs.map PV.str) vs] 0])] []
  (λv ob=>∃ss,ss.Perm xs/\v= .gsl 0 1 ss.length/\ob=ax [(0,.gro 9 (vZ ss))]):=by
 intro w m R us hHR hrel;have j:=yd hHR;simp only[RelL,Rel]at hrel;obtain⟨u1,us1,rfl,h1,u2,us2,rfl,h2,rfl⟩:=hrel;simp only[RelP]at h1;obtain⟨A,c,rfl,_,_,hnil,hcz,_⟩:=h1;have l:A=Sl:=by have:=hnil Sm O;simpa using this.symm
 obtain rfl:=hcz trivial;subst l;obtain⟨b,off,mb,es,clock,xs',rfl,hRb,hcell,hRm,hb,hst,hx,hp⟩:=xC Mg h2;refine Calls.mono (callsIn_wide.1 (PJ b off mb es clock xs' w m R j (by have:=(c6 (λ_ _=>nD) hp).length_eq;omega) hst hx (R.d b hRb).1 hcell hb)) ?_;rintro e w' ⟨u,ss,m',R',rfl,hS,h3,h4⟩;refine⟨u,_,_,m',R',O,⟨ss,hS.trans (c6 (λ_ _=>nD) hp),O,O⟩,O,?_,h3,h4⟩;intro i o h;by_cases hi:i=0
 .subst hi;cases h;exact⟨O,O⟩
 .have b2:Nat.beq i 0=S1:=by cases hb:Nat.beq i 0;rfl;exact absurd (aJ hb) hi
  simp only[ax,b2,RR]at h;cases h
theorem Fx(xs:List ByteArray)(vs:List PV)(j:xs.length<=1000000):FnO prog 343 0 1 [.pv (.fn (.func 345) [] [.rp [.mp (xs.map PV.str) vs] 0])] []
  (λv ob=>∃ss,ss.Perm xs/\v= .gsl 0 1 ss.length/\ob=ax [(0,.gro 9 (vZ ss))]):=by
 have d:=JK xs vs j;refine FnO.of func343 O O (Rz O) ?_;intro m0 w0 F R0;refine Z1 O<|Z1 O<|RL.call O (bM [] 0 call389 O O O O (by exact trivial) Vh O d ?_);rintro _ _ ⟨ss,hS,rfl,rfl⟩;exact A1 O<|Gt O<|⟨[(2,.gsl 0 1 ss.length)],[(0,.gro 9 (vZ ss))],_,Q5 (aS Vg) (aO Vg) O O,O,O,O,⟨ss,hS,O,O⟩⟩
end
section
open Go Go.RowKit
section
variable {P:Program}{ops:Array Oper}{C:World->Prop}
def o6(P:Program)(ops:Array Oper)(C:World->Prop)(n:Nat)(L:Array Bool->Act->Prop):Nat->Array Bool->Act->Prop
 |0,listed,a=>L listed a
 |f+1,listed,a=>Region.ready .any ops listed≠[]/\∀i∈Region.ready .any ops listed,i<n/\qOp P ops C i (o6 P ops C n L f (listed.setIfInBounds i Sm)) a
theorem o6.any{Q':Exit->Act->World->Prop}(d:∀listed a w,C w->L listed a->wpAny P .any ops Q' g listed a w)(f:Nat):
  ∀(listed:Array Bool)(a:Act)(w:World),C w->o6 P ops C n L f listed a->wpAny P .any ops Q' (f+g) listed a w:=by
 induction f with
 |zero=>intro listed a w hw h;rw[RV];exact d _ _ _ hw h
 | succ f ih=>
   intro listed a w hw h;rw[Nat.add_right_comm];exact⟨λe=>absurd e h.1,λi hi=>wpOp_of_qOp hw (λa' w' hw' h'=>ih _ a' w' hw' h') (h.2 i hi).2⟩
theorem o6.take{i:Nat}{o:Oper}{v:Value}(t:ops[i]? =Sh o)(l:∀(j:Nat)(o:Oper) cs b,ops[j]? =Sh o->o.op≠ .select cs b)
  (A:Region.sinkB .any ops n=Sm) (hc:Region.chainB .any ops n=Sm) (B:n<ops.size) (q:i<n) (G:∀listed a,L listed a->∀j∈Region.ready .any ops listed,n<=j) (f:Nat):
  ∀(listed:Array Bool)(a:Act),HeadInv .any ops n listed->(∀j oj,ops[j]? =Sh oj->j≠i->listed.getD j Sm=S1->(∀e∈oj.after,Region.binds .any e=Sm->e.on≠i)->o.apart ops oj=Sm)->
   i∈Region.ready .any ops listed->YieldsIn P ops C o v a->o6 P ops C n L f (listed.setIfInBounds i Sm) (a.put o.dst v)->o6 P ops C n L (f+1) listed a:=by
 induction f with
 | zero=>
   intro listed a inv _ hr hy H;refine⟨List.ne_nil_of_mem hr,λj hj=>?_⟩;have d:j<n:=Nat.lt_of_not_le λh=>tail_waits A hc B inv _ i O q (mem_ready.1 hr).1 j h hj
   refine⟨d,?_⟩;by_cases e:j=i
   .subst e;exact hy.qOp t H
   .exact absurd (G _ _ H j (ready_mono hj e)) Vf
 | succ f ih=>
   intro listed a inv hap hr hy H;refine⟨List.ne_nil_of_mem hr,λj hj=>?_⟩;have d:j<n:=Nat.lt_of_not_le λh=>tail_waits A hc B inv _ i O q (mem_ready.1 hr).1 j h hj
   refine⟨d,?_⟩;by_cases e:j=i
   .subst e;exact hy.qOp t H
   .obtain⟨hj0,oj,hoj,hw⟩:=mem_ready.1 hj;have s:∀x∈oj.after,Region.binds .any x=Sm->x.on≠i:=λx hx hb he=>by
     have z:=hw x hx hb;rw[he,getD_both (mem_ready.1 hr).1]at z;cases z
    have D:=qOp_put hoj (hap j oj hoj e hj0 s) (λcs b=>l i o cs b t) (λcs b=>l j oj cs b hoj) hy (H.2 j (ready_mono hj e)).2;refine qOp_mono (λa' h=>ih _ a' (inv.set hj d) (λk ok hk hki hun=>hap k ok hk hki ?_) (ready_mono hr (Ne.symm e)) h.1 (by rw[Array.setIfInBounds_comm _ _ e];exact h.2)) D;by_cases ek:j=k
    .subst ek;exact hj0
    .rwa [getD_set_ne Sm ek]at hun
theorem o6.lex{Lq:Act->Prop}(d:Region.noSelect ops=Sm)(t:Region.sinkB .any ops n=Sm)(hc:Region.chainB .any ops n=Sm)(z:n<ops.size):
  ∀(l:List Oper)(k:Nat)(listed:Array Bool)(a:Act),(∀j,j<l.length->l[j]? =ops[k+j]?)->k+l.length=n->HeadInv .any ops n listed->
  Region.lexHead .any ops g l.length k listed=Sm->wpQuiet P ops C Lq l a->o6 P ops C n (λlisted' a'=>Region.seqB .any ops g n listed'=Sm/\Lq a') l.length listed a:=by
 intro l;induction l with
 | nil=>
   intro k listed a _ hk _ hB h;obtain rfl:k=n:=by simpa using hk
   exact⟨by simpa[Region.lexHead]using hB,h⟩
 | cons o l ih=>
   intro k listed a hl hk inv hB h;have q:ops[k]? =Sh o:=by simpa using(hl 0 Vj).symm
   simp only[Rk,Region.lexHead,sh]at hB hk;have s:k∈Region.ready .any ops listed:=by simpa using hB.1.1
   obtain⟨v,hy,hK⟩:=yieldsIn_of_qOp (K:=wpQuiet P ops C Lq l) q (by unfold qOp;simp only[q];exact h);refine o6.take q (Region.noSelect_spec d) t hc z Vf (λlisted' a' hL=>seqB_ready hL.1) l.length listed a inv (Region.free_spec q hB.1.2) s hy (ih (k+1) _ _ (λj hj=>?_) Vf (inv.set s Vf) hB.2 hK);have:=hl (j+1) Vk;simpa[Nat.add_assoc,UL 1 j]using this
theorem gR{Q:Exit->Act->World->Prop}{l:List Oper}(n:Nat)(hd tl:List Oper)(B:l.take n=hd)(D:l.drop n=tl)(G:P.follows .mixedOrders=Sm)(hB:Region.lexTailB .any l.toArray n=Sm)(I:C { w with drawn:=w.drawn+1 })
  (h:wpQuiet P l.toArray C (λz=>∀w',C w'->wpList P l.toArray Q tl z w') hd a):(Code.region id l.toArray Sm).wp P Q a w:=by
 subst B D;simp only[Region.lexTailB,sh,Rt]at hB;obtain⟨⟨⟨⟨hsel,hn⟩,hs⟩,hc⟩,hlex⟩:=hB;have A:n<l.length:=by simpa using hn
 have d:(l.take n).length=n:=by simp;omega
 have q:HeadInv .any l.toArray n (Array.replicate l.toArray.size S1):=
  ⟨Vj,λj oj _ hl=>(by rw[getD_replicate_false]at hl;cases hl),λt _ ht=>getD_in (by simpa using ht) (getD_replicate_false _ _)⟩
 have H:=o6.lex (C:=C) (g:=l.toArray.size-n) hsel hs hc hn (l.take n) 0 _ a (λj hj=>by rw[d]at hj;simp[hj]) (by simpa using d) q (by rw[d];exact hlex) h;refine wp_region_any G ?_;have s:(l.drop n).length=l.toArray.size-n:=Vj;have:=o6.any (Q':=Q) (g:=l.toArray.size-n) (λlisted z w' hw hL=>by
  have:=wpAny_of_seq (md:= .any) (Q':=Q) (l.drop n) n listed z w' (λj=>by simp[Sq]) (by rw[s];exact hL.1) (hL.2 w' hw);rwa [s]at this) _ _ _ _ I H
 rw[d,show n+(l.toArray.size-n)=l.toArray.size by omega]at this;exact this
end
end
end Go.Proofs.YtoplpepiabedhaaGreatDoor
namespace Go.Proofs
open Go.Proofs.YtoplpepiabedhaaGreatDoor
end Go.Proofs
namespace Go.Proofs.YtoplpepiabedhaaGreatDoor
section
open Mk Jn
def xa(s t:ByteArray):Int:=if Op.bytesLess s.toList t.toList=Sm then-1 else if(s.toList==t.toList)=Sm then 0 else 1
def tf(a b:List ByteArray):Int:=if br a b=Sm then-1 else if a=b then 0 else 1
theorem Dl(s:ByteArray)(w:World):Calls prog 226 #[.string s] w λe w'=>e= .returned (.bool S1)/\w=w':=by
 have d:(s.toList !=s.toList)=S1:=Vj
 go_enter func226,ntmps226
 go_wp2
 go_ret
 exact⟨O,O⟩
theorem y8(s t:ByteArray)(w:World):Calls prog 135 #[.string s,.string t] w λe w'=>e= .returned (.int .i64 (xa s t))/\w=w':=by
 have j:=Dl
 go_enter func135,ntmps135
 go_wp2_with (go_at_call 226;refine(j _ _).mono ?_;rintro e w' ⟨rfl,rfl⟩)
 .have h1:Op.bytesLess s.toList t.toList=Sm:=Vi
  go_ret
  exact⟨dH (by unfold xa;rw[AT h1]),O⟩
 .have h1:Op.bytesLess s.toList t.toList=S1:=Vi;have d:(!s.toList==t.toList)=Sm:=Vi
  go_ret
  refine⟨dH ?_,O⟩;unfold xa;rw[h1,dt Vh,dt (by simpa using d)]
 .have h1:Op.bytesLess s.toList t.toList=S1:=Vi;have d:(!s.toList==t.toList)=S1:=Vi
  go_ret
  refine⟨dH ?_,O⟩;unfold xa;rw[h1,dt Vh,AT (by simpa using d)]
theorem Ef{s t:ByteArray}(h:xa s t=0):s=t:=by
 unfold xa at h;split at h
 .cases h
 .split at h
  .next h2=>exact bytes_inj (by simpa using h2)
  .cases h
theorem M0{a b:List ByteArray}{k:Nat}(z:k<a.length)(A:k<b.length)(e:a.take k=b.take k)(q:xa a[k] b[k]≠0):tf a b=xa a[k] b[k]:=by
 have d:a[k]≠b[k]:=λl=>q (by
  unfold xa;rw[l,dt (by rw[mS];simp),AT Vj])
 have s:=tq z A e d;have j:a≠b:=λl=>by subst l;exact d O
 have t:(a[k].toList==b[k].toList)=S1:=by
  cases hh:(a[k].toList==b[k].toList)with
  |false=>rfl
  |true=>exact absurd (bytes_inj (by simpa using hh)) d
 unfold tf xa;rw[s,dt j,t];simp
theorem EN{a b:List ByteArray}{k:Nat}(l:k<a.length)(j:k=b.length)(e:a.take k=b.take k):tf a b=1:=by
 have d:=kA (a:=a) (b:=b) (i:=k) Vf Vf (.inr j) e;unfold tf;rw[d,dt Vk,dt (by rintro rfl;omega)]
theorem yu{a b:List ByteArray}{k:Nat}(j:k=a.length)(l:k<=b.length)(e:a.take k=b.take k):tf a b=if(a.length:Int)<b.length then-1 else 0:=by
 have d:=kA (a:=a) (b:=b) (i:=k) Vf Vf (.inl j) e;unfold tf;rw[d];by_cases h:(a.length:Int)<b.length
 .rw[Ru h];simp[h]
 .rw[Rv h,dt Vh,AT,dt h];rw[aQ Vf,aQ Vf]at e;exact e
theorem zV(A B:Option Addr)(c d:Nat)(l m:List ByteArray)(w:World){R:Nat->Prop}(h:Row w R A (Oy l)){R':Nat->Prop}(z:Row w R' B (Oy m))(G:l.length<=1000000)(H:m.length<=1000000):
  Calls prog 53 #[.slice A l.length c,.slice B m.length d] w λe w'=>e= .returned (.int .i64 (tf l m))/\w=w':=by
 have q:=y8;have j:=@Row.LW _ _ _ _ h;have hB:=@Row.LW _ _ _ _ z;clear h z
 go_enter func53,ntmps53
 go_wp2
 go_loop [11] (λi=>∃k:Nat,k<=l.length/\k<=m.length/\i= .int .i64 k/\l.take k=m.take k) (λi=>l.length-(intOf i).toNat)
 case atStart=>exact⟨0,cd _,cd _,O,Vj⟩
 case round=>
  obtain⟨k,hk,hkm,rfl,hno⟩:=hrel;have HN:=Lib.hid hno;clear hno;by_cases hlt:k<l.length
  .obtain⟨b,off,rfl,hb,hck⟩:=j hlt;by_cases hlt':k<m.length
   .obtain⟨b',off',rfl,hb',hck'⟩:=hB hlt';clear j hB
    go_wp2_with (go_at_call 135;refine(q _ _ _).mono ?_;rintro e w' ⟨rfl,rfl⟩)
    .have he:(xa l[k] m[k] !=0)=Sm:=Vi
     go_ret
     exact⟨dH (M0 hlt hlt' HN.out (by simpa using he)).symm,O⟩
    .have he:(xa l[k] m[k] !=0)=S1:=Vi;refine⟨⟨k+1,Vf,Vf,by go_num,?_⟩,by simp[intOf];omega⟩;have D:=HN.out;rw[AI hlt,AI hlt',D,Ef (s:=l[k]) (t:=m[k]) (by simpa using he)]
   .obtain rfl:k=m.length:=Vf;clear j hB
    go_wp2
    go_ret
    exact⟨dH (EN hlt O HN.out).symm,O⟩
  .clear j hB
   go_wp2
   .have he:l.length<m.length:=Vi
    go_ret
    refine⟨dH ?_,O⟩;rw[yu Vf hkm HN.out,AT Vf]
   .have he:¬l.length<m.length:=Vi
    go_ret
    refine⟨dH ?_,O⟩;rw[yu Vf hkm HN.out,dt Vf]
end
section
open Go.RowKit Mm Jn Go.Sort
theorem Bx(a:Int)(w:World):Calls prog 291 #[.int .i64 a] w λe w'=>e= .returned (.bool S1)/\w=w':=by
 have d:(a !=a)=S1:=Vj
 go_enter func291,ntmps291
 go_wp2
 go_ret
 exact⟨O,O⟩
theorem Hq(a b:Int)(w:World):Calls prog 212 #[.int .i64 a,.int .i64 b] w λe w'=>e= .returned (.int .i64 (tY a b))/\w=w':=by
 have j:=Bx
 go_enter func212,ntmps212
 go_wp2_with (go_at_call 291;refine(j _ _).mono ?_;rintro e w' ⟨rfl,rfl⟩)
 .have h1:a<b:=Vi
  go_ret
  exact⟨dH (by unfold tY;rw[AT h1]),O⟩
 .have h1:¬a<b:=Vf;have d:b<a:=Vf
  go_ret
  exact⟨dH (by unfold tY;rw[dt h1,AT d]),O⟩
 .have h1:¬a<b:=Vf;have d:¬b<a:=Vf
  go_ret
  exact⟨dH (by unfold tY;rw[dt h1,dt d]),O⟩
theorem P7(s t:ByteArray):xa s t=tD s t:=by
 unfold xa tD;by_cases h:Op.bytesLess s.toList t.toList=Sm
 .rw[AT h,AT h]
 .rw[dt h,dt h];cases h2:(s.toList==t.toList)
  .simp at h;simp[h]
  .simp at h;simp[h]
theorem Ev(x y:Int)(b c:Nat)(w:World)(d:w.cell? ⟨b,0,Sl⟩=Sh (.int .i64 x))(j:w.cell? ⟨b,1,Sl⟩=Sh (.int .i64 y)):
  Calls prog 211 #[.slice (Sh ⟨b,0,Sl⟩) 2 c] w λe w'=>e= .returned (.int .i64 (orI [x,y]))/\w=w':=by
 go_enter func211,ntmps211
 go_wp2
 go_loop [8] (λi=>i= .int .i64 0\/(i= .int .i64 1/\x=0)\/(i= .int .i64 2/\x=0/\y=0)) (λi=>2-(intOf i).toNat)
 case atStart=>exact .inl O
 case round=>
  rcases hrel with rfl|⟨rfl,hx⟩|⟨rfl,hx,hy⟩
  .go_wp2
   .have h2:(x !=0)=Sm:=Vi
    go_ret
    refine⟨dH ?_,O⟩;rw[orI2,AT (by simpa using h2)]
   .have h2:(x !=0)=S1:=Vi;refine⟨.inr (.inl ⟨by go_num,by simpa using h2⟩),by simp[intOf]⟩
  .go_wp2
   .have h2:(y !=0)=Sm:=Vi
    go_ret
    refine⟨dH ?_,O⟩;rw[orI2,dt (by simp[hx])]
   .have h2:(y !=0)=S1:=Vi;refine⟨.inr (.inr ⟨by go_num,hx,by simpa using h2⟩),by simp[intOf]⟩
  .go_wp2
   go_ret
   refine⟨dH ?_,O⟩;subst hx hy;rfl
theorem qv{P:Program}{f:FuncId}{args:Array Value}{w:World}{n:Nat}{os:Array Obj}{v:Value}(h:Calls P f args (grow (w.drewN n) os) λe w'=>e= .returned v/\grow (w.drewN n) os=w'):
  Calls P f args (grow (w.drewN n) os) λe w''=>e= .returned v/\∃p:GrownBy,w''=grow (w.drewN p.n) p.os:=
 h.mono λ_ _ ⟨he,hq⟩=>⟨he,⟨n,os⟩,hq.symm⟩
theorem lg(w:World)(a1:Array Value)(ty:TypeId)(o2:Obj)(k:Nat)(n:Nat)(os:Array Obj):(grow (((w.alloc (.cells a1 ty)).alloc o2).drewN n) os).cell? ⟨w.heap.size,k,Sl⟩=a1[k]? :=by
 rw[cell?_grow _ _ _ (by show w.heap.size<((w.alloc _).alloc _).heap.size;simp;omega)];have e:(((w.alloc (.cells a1 ty)).alloc o2).drewN n).heap[w.heap.size]? =Sh (.cells a1 ty):=(Below.heap_alloc (w.alloc (.cells a1 ty)) o2 _ Vj).trans (World.alloc_heap_new w _);simp only[World.cell?,e];rfl
theorem jE(w:World)(o1:Obj)(a2:Array Value)(ty:TypeId)(k:Nat)(n:Nat)(os:Array Obj):(grow (((w.alloc o1).alloc (.cells a2 ty)).drewN n) os).cell? ⟨w.heap.size+1,k,Sl⟩=a2[k]? :=by
 rw[cell?_grow _ _ _ (by show w.heap.size+1<((w.alloc _).alloc _).heap.size;simp)];have e:(((w.alloc o1).alloc (.cells a2 ty)).drewN n).heap[w.heap.size+1]? =Sh (.cells a2 ty):=by
  have:=World.alloc_heap_new (w.alloc o1) (.cells a2 ty);rwa [World.size_alloc]at this
 simp only[World.cell?,e];rfl
theorem AQ(w:World)(o1 o2:Obj)(n:Nat)(os:Array Obj):∃q os',grow (((w.alloc o1).alloc o2).drewN n) os=grow (w.drewN q) os':=
 ⟨n, #[o1]++(#[o2]++os),by
  rw[alloc_eq_grow,alloc_eq_grow];show grow (grow (grow (w.drewN n) #[o1]) #[o2]) os=_;rw[grow_grow,grow_grow]⟩
theorem CY(W:World){N:Nat}(j:W.heap.size=N)(n:Nat)(os:Array Obj)(x y:Int)(c:Nat):Calls prog 211 #[.slice (Sh ⟨N+os.size,0,Sl⟩) 2 c] ((grow (W.drewN n) os).alloc (.cells #[.int .i64 x,.int .i64 y] 3)) λe w'=>
  e= .returned (.int .i64 (orI [x,y]))/\(grow (W.drewN n) os).alloc (.cells #[.int .i64 x,.int .i64 y] 3)=w':=by
 have d:(grow (W.drewN n) os).heap.size=N+os.size:=by simp[grow,World.drewN,j]
 have e:=World.alloc_heap_new (grow (W.drewN n) os) (.cells #[.int .i64 x,.int .i64 y] 3);rw[d]at e;refine Ev x y _ c _ ?_ ?_<;>simp only[World.cell?,e]<;>rfl
theorem AL(p q:Par)(w:World):Calls prog 129 #[cy p,cy q] w λe w'=>e= .returned (.int .i64 (cD p q))/\∃n os',w'=grow (w.drewN n) os':=by
 obtain⟨pf,pc⟩:=p;obtain⟨qf,qc⟩:=q;have t:=Hq;have hS:=y8;have z:=Ev;have s:cD ⟨pf,pc⟩ ⟨qf,qc⟩=orI [tY pf qf,xa pc qc]:=by rw[P7];rfl
 rw[s];clear s;simp only[cy]
 go_enter func129,ntmps129
 go_wp2
 have A:∀n os,_=Sh _:=λn os=>(lg w #[.int .i64 pf,.string pc] 147 (.cells #[.int .i64 qf,.string qc] 147) 0 n os).trans O
 have B:∀n os,_=Sh _:=λn os=>(lg w #[.int .i64 pf,.string pc] 147 (.cells #[.int .i64 qf,.string qc] 147) 1 n os).trans O
 have D:∀n os,_=Sh _:=λn os=>(jE w (.cells #[.int .i64 pf,.string pc] 147) #[.int .i64 qf,.string qc] 147 0 n os).trans O
 have G:∀n os,_=Sh _:=λn os=>(jE w (.cells #[.int .i64 pf,.string pc] 147) #[.int .i64 qf,.string qc] 147 1 n os).trans O
 have d:=AQ w (.cells #[.int .i64 pf,.string pc] 147) (.cells #[.int .i64 qf,.string qc] 147);have j:((w.alloc (.cells #[.int .i64 pf,.string pc] 147)).alloc (.cells #[.int .i64 qf,.string qc] 147)).heap.size=w.heap.size+2:=Vj;generalize hW:(w.alloc (.cells #[.int .i64 pf,.string pc] 147)).alloc (.cells #[.int .i64 qf,.string qc] 147)=W at*;clear hW;have l:=CY W j;refine gR (C:=λw'=>∃p:GrownBy,w'=grow (W.drewN p.n) p.os) 10 _ _ O O Vg Vg ⟨⟨1, #[]⟩,by rw[grow_empty];rfl⟩ ?_
 repeat (quiet_step (first|(go_at_call 212;exact qv (t _ _ _))|(go_at_call 135;exact qv (hS _ _ _))))
 refine wpQuiet_nil ?_;intro _ hw';obtain⟨⟨nq,osq⟩,hw''⟩:=hw';subst hw'';simp only[List.drop_succ_cons,List.drop_zero]
 go_wp2_with (go_at_call 211;refine(l _ _ _ _ _).mono ?_;rintro e w' ⟨rfl,rfl⟩)
 go_ret
 obtain⟨q,os',hq⟩:=d nq osq;exact⟨O,q,_,by rw[hq,alloc_eq_grow,grow_grow]⟩
theorem z6{W:World}{B off:Nat}{arr:Array Value}{cs:List Value}(h:∀j,W.cell? ⟨B,off+j,Sl⟩=arr[off+j]?)(hc:cs=(arr.toList.drop off).take cs.length):∀j v,cs[j]? =Sh v->W.cell? ⟨B,off+j,Sl⟩=Sh v:=by
 intro j v hv;refine(h j).trans ?_;rw[hc,Ry]at hv;split at hv
 .rw[Sq]at hv;simpa using hv
 .cases hv
theorem jt{P:Program}{ops:Array Oper}{C:World->Prop}{Q:Act->Prop}{rest:List Oper}{a:Act}{dst:Option Tmp}{T ty:TypeId}{x:Operand}{pos:String}{after:Array Edge}{us:List Value}{b off:Nat}(l:isRow P T)(q:bN P T us.length)
  (s:a.eval x= .pointer (Sh ⟨b,off,Sl⟩)) (hc:∀w,C w->∀j u,us[j]? =Sh u->w.cell? ⟨b,off+j,Sl⟩=Sh u) (h:wpQuiet P ops C Q rest (a.put dst (.agg us.toArray))):wpQuiet P ops C Q (⟨dst,.load T x,ty,pos,after,Sl⟩::rest) a:=by
 refine wpQuiet_step λK hK=>?_
 simp only[Region.wanted,UP];refine⟨_,λw hw=>?_,hK _ h⟩;obtain⟨d,hu,hd⟩:=l;have:=run_loadAt_mid (P:=P) w b off T us d (hc w hw) hu hd q;unfold Oper.quietAt;simp only[execOp,s,Sem.run_bind,this,Result.andThen_ok];exact⟨O,O⟩
theorem Hf(p q:PP)(w:World):Calls prog 132 #[eB p,eB q] w λe w'=>e= .returned (.int .i64 (dU p q))/\∃n os',w'=grow (w.drewN n) os':=by
 obtain⟨⟨af,ac⟩,⟨bf,bc⟩⟩:=p;obtain⟨⟨df,dc⟩,⟨ef,ec⟩⟩:=q;have t:=AL;simp only[cy]at t;have l:=λw=>t ⟨af,ac⟩ ⟨df,dc⟩ w
 have s:=λw=>t ⟨bf,bc⟩ ⟨ef,ec⟩ w
 simp only at l s;clear t;have B:dU (⟨af,ac⟩,⟨bf,bc⟩) (⟨df,dc⟩,⟨ef,ec⟩)=orI [cD ⟨af,ac⟩ ⟨df,dc⟩,cD ⟨bf,bc⟩ ⟨ef,ec⟩]:=rfl;rw[B];clear B;generalize cD ⟨af,ac⟩ ⟨df,dc⟩=u1 at*;generalize cD ⟨bf,bc⟩ ⟨ef,ec⟩=u2 at*;simp only[eB]
 go_enter func132,ntmps132
 go_wp2
 have D:∀n os j u,[.int .i64 af,.string ac][j]? =Sh u->(grow (((w.alloc (.cells #[.int .i64 af,.string ac,.int .i64 bf,.string bc] 238)).alloc (.cells #[.int .i64 df,.string dc,.int .i64 ef,.string ec] 238)).drewN n) os).cell? ⟨w.heap.size,0+j,Sl⟩=Sh u:=λn os=>z6 (λj=>lg w #[.int .i64 af,.string ac,.int .i64 bf,.string bc] 238 (.cells #[.int .i64 df,.string dc,.int .i64 ef,.string ec] 238) (0+j) n os) O
 have l1:∀n os j u,[.int .i64 bf,.string bc][j]? =Sh u->(grow (((w.alloc (.cells #[.int .i64 af,.string ac,.int .i64 bf,.string bc] 238)).alloc (.cells #[.int .i64 df,.string dc,.int .i64 ef,.string ec] 238)).drewN n) os).cell? ⟨w.heap.size,2+j,Sl⟩=Sh u:=λn os=>z6 (λj=>lg w #[.int .i64 af,.string ac,.int .i64 bf,.string bc] 238 (.cells #[.int .i64 df,.string dc,.int .i64 ef,.string ec] 238) (2+j) n os) O
 have l2:∀n os j u,[.int .i64 df,.string dc][j]? =Sh u->(grow (((w.alloc (.cells #[.int .i64 af,.string ac,.int .i64 bf,.string bc] 238)).alloc (.cells #[.int .i64 df,.string dc,.int .i64 ef,.string ec] 238)).drewN n) os).cell? ⟨w.heap.size+1,0+j,Sl⟩=Sh u:=λn os=>z6 (λj=>jE w (.cells #[.int .i64 af,.string ac,.int .i64 bf,.string bc] 238) #[.int .i64 df,.string dc,.int .i64 ef,.string ec] 238 (0+j) n os) O
 have G:∀n os j u,[.int .i64 ef,.string ec][j]? =Sh u->(grow (((w.alloc (.cells #[.int .i64 af,.string ac,.int .i64 bf,.string bc] 238)).alloc (.cells #[.int .i64 df,.string dc,.int .i64 ef,.string ec] 238)).drewN n) os).cell? ⟨w.heap.size+1,2+j,Sl⟩=Sh u:=λn os=>z6 (λj=>jE w (.cells #[.int .i64 af,.string ac,.int .i64 bf,.string bc] 238) #[.int .i64 df,.string dc,.int .i64 ef,.string ec] 238 (2+j) n os) O
 have d:=AQ w (.cells #[.int .i64 af,.string ac,.int .i64 bf,.string bc] 238) (.cells #[.int .i64 df,.string dc,.int .i64 ef,.string ec] 238);have z:((w.alloc (.cells #[.int .i64 af,.string ac,.int .i64 bf,.string bc] 238)).alloc (.cells #[.int .i64 df,.string dc,.int .i64 ef,.string ec] 238)).heap.size=w.heap.size+2:=Vj;generalize hW:(w.alloc (.cells #[.int .i64 af,.string ac,.int .i64 bf,.string bc] 238)).alloc (.cells #[.int .i64 df,.string dc,.int .i64 ef,.string ec] 238)=W at*;clear hW;have A:=CY W z;refine gR (C:=λw'=>∃p:GrownBy,w'=grow (W.drewN p.n) p.os) 10 _ _ O O Vg Vg ⟨⟨1, #[]⟩,by rw[grow_empty];rfl⟩ ?_;simp only[UK,UO]
 quiet_step (fail)
 refine jt (us:=[.int .i64 af,.string ac]) ⟨_,underlying147,O⟩ Bg (b:=w.heap.size) (off:=0) O (λw' hw j u hj=>by obtain⟨p,rfl⟩:=hw;exact D p.n p.os j u hj) ?_
 quiet_step (fail)
 refine jt (us:=[.int .i64 df,.string dc]) ⟨_,underlying147,O⟩ Bg (b:=w.heap.size+1) (off:=0) O (λw' hw j u hj=>by obtain⟨p,rfl⟩:=hw;exact l2 p.n p.os j u hj) ?_
 quiet_step (first|(go_at_call 129;exact Calls.grown_of (l _)))
 quiet_step (fail)
 refine jt (us:=[.int .i64 bf,.string bc]) ⟨_,underlying147,O⟩ Bg (b:=w.heap.size) (off:=2) O (λw' hw j u hj=>by obtain⟨p,rfl⟩:=hw;exact l1 p.n p.os j u hj) ?_
 quiet_step (fail)
 refine jt (us:=[.int .i64 ef,.string ec]) ⟨_,underlying147,O⟩ Bg (b:=w.heap.size+1) (off:=2) O (λw' hw j u hj=>by obtain⟨p,rfl⟩:=hw;exact G p.n p.os j u hj) ?_
 quiet_step (first|(go_at_call 129;exact Calls.grown_of (s _)))
 refine wpQuiet_nil ?_;intro _ hw';obtain⟨⟨nq,osq⟩,hw''⟩:=hw';subst hw'';simp only[List.drop_succ_cons,List.drop_zero]
 go_wp2_with (go_at_call 211;refine(A _ _ _ _ _).mono ?_;rintro e w' ⟨rfl,rfl⟩)
 go_ret
 obtain⟨q,os',hq⟩:=d nq osq;exact⟨O,q,_,by rw[hq,alloc_eq_grow,grow_grow]⟩
end
section
open Mk Jn
theorem qu{w:World}{R:Nat->Prop}:∀{l:List ByteArray}{us:List Value},RelPL w R (bD l) us->us=l.map Value.string
 |[],us,h=>by simpa[RelPL]using h
 | x::l,us,h=>by
   simp only[bP,RelPL,RelP]at h;obtain⟨u,vs,rfl,rfl,h2⟩:=h;rw[qu h2];rfl

theorem LC(a b:List ByteArray):decide (tf a b<0)=br a b:=by
 unfold tf;cases h:br a b with
 |true=>rw[AT O];rfl
 |false=>rw[dt Vh];by_cases h2:a=b<;>simp[h2]
theorem nbeqJ{i k:Nat}(h:¬i=k):Nat.beq i k=S1:=by
 cases hb:Nat.beq i k with
 |false=>rfl
 |true=>exact absurd (aJ hb) h
theorem Hu{α:Type}(f:α->List ByteArray):Go.Sort.SWO (Go.Proofs.ltOf λx y:α=>tf (f x) (f y)):=by
 have e:∀x y:α,Go.Proofs.ltOf (λx y:α=>tf (f x) (f y)) x y=br (f x) (f y):=λx y=>by
  exact LC (f x) (f y)
 refine⟨λx=>by rw[e];exact mu _,λx y z h1 h2=>?_,λx y z h1 h2=>?_⟩
 .rw[e]at *; exact eZ h1 h2
 .rw[e]at*;cases h3:br (f x) (f z)with
  |false=>rfl
  | true=>
    cases h4:br (f z) (f y)with
    |true=>rw[eZ h3 h4]at h1;cases h1
    |false=>rw[kM h2 h4,h3]at h1;cases h1
theorem EV{α:Type}(f:α->List ByteArray)(x y:α):Go.Proofs.ltOf (λx y:α=>tf (f x) (f y)) x y=br (f x) (f y):=by
 exact LC (f x) (f y)
theorem rB(F arr:Array Value)(h:F.size<=arr.size):((Go.Sort.putCells id 0 F arr).toList.take F.size)=F.toList:=by
 apply SO
 .simp[Go.Sort.putCells];omega
 .intro i h1 h2;rw[RE]at h2;simp only[List.getElem_take,Array.getElem_toList,Go.Sort.putCells,Array.getElem_mapIdx];rw[AT ⟨cd _,Vf⟩,UU,getElem!_pos F i h2];rfl
end
section
section
variable {α:Type}
structure SrtW(enc:α->List Value)(b:Nat)(w w':World)(ds:List α):Prop where
 os:w'.os=w.os
 tape:w'.tape=w.tape
 output:w'.output=w.output
 size:w.heap.size<=w'.heap.size
 block:∀k,k<w.heap.size->k≠b->w'.heap[k]? =w.heap[k]?
 cells:∀(arr:Array Value)(ty:TypeId)(fz:Nat×Nat),w.heap[b]? =Sh (.cells arr ty fz)->(ds.flatMap enc).length<=arr.size->∃arr':Array Value,w'.heap[b]? =Sh (.cells arr' ty fz)/\arr'.size=arr.size/\arr'.toList.take (ds.flatMap enc).length=ds.flatMap enc
theorem vj[Inhabited α]{k:Nat}(q:0<k)(enc:α->List Value)(s:∀x,(enc x).length=k)(d:Array α):(Go.Sort.flatK enc k d).toList=d.toList.flatMap enc:=by
 have l:(d.toList.flatMap enc).length=d.toList.length*k:=bY enc k s d.toList;apply SO
 .rw[RE,Go.Sort.size_flatK,l,RE]
 .intro i h1 h2;rw[RE,Go.Sort.size_flatK]at h1;have t:i/k<d.size:=Nat.div_lt_of_lt_mul (by rwa [SX]);have z:i%k<k:=Ti _ q;have A:=Go.Sort.get_flatK enc k d i h1;rw[getElem!_pos _ i (by rw[Go.Sort.size_flatK];exact h1)]at A;have j:=gW enc k s d.toList (i/k) (i%k) (by rw[RE];exact t) z;rw[show i/k*k+i%k=i by rw[SX];exact Nat.div_add_mod i k,Hj h2]at j;rw[Array.getElem_toList,A,getElem!_pos d (i/k) t];have B:i%k<(enc d[i/k]).length:=by rw[s];exact z
  change _=(enc d[i/k])[i%k]? at j
  rw[Hj B]at j;rw[getElem!_pos (enc d[i/k]) (i%k) B];exact(TF j).symm
theorem tu[Inhabited α]{k:Nat}(q:0<k)(enc:α->List Value)(z:∀x,(enc x).length=k)(w:World)(b n:Nat)(d:Array α)(os:Array Obj)(A:b<w.heap.size):SrtW enc b w (sortWorldK enc k w b 0 n d os) d.toList:=by
 have l:(sortWorldK enc k w b 0 n d os).heap=(w.heap.modify b (Go.Sort.onCells (Go.Sort.putCells id 0 (Go.Sort.flatK enc k d))))++os:=rfl;have s:=vj q enc z d;have t:(d.toList.flatMap enc).length=(Go.Sort.flatK enc k d).size:=by rw[<-s,RE]
 refine⟨O,O,O,?_,λj hj hne=>?_,λarr ty fz h hle=>?_⟩
 .rw[l];simp
 .rw[l,Ui (by simpa using hj),TQ,dt (Ne.symm hne)]
 .refine⟨Go.Sort.putCells id 0 (Go.Sort.flatK enc k d) arr,?_,by simp[Go.Sort.putCells],?_⟩
  .rw[l,Ui (by simpa using A),TQ,AT O,h];rfl
  .rw[t]at hle ⊢;rw[rB _ _ hle,s]
theorem oJ[Inhabited α]{k:Nat}(d:0<k)(enc:α->List Value)(t:∀x,(enc x).length=k){w:World}{b:Nat}{arr:Array Value}{ty:TypeId}{ds:List α}(s:w.heap[b]? =Sh (.cells arr ty (0,0)))(h:arr.toList.take (ds.flatMap enc).length=ds.flatMap enc):Go.Sort.HoldsK enc k w b 0 ds.toArray:=by
 intro j hj;have l:=vj d enc t ds.toArray;have z:(ds.flatMap enc).length=(Go.Sort.flatK enc k ds.toArray).size:=by
  have:=ag List.length l;rw[RE]at this;exact this.symm
 have q:(arr.toList.take (ds.flatMap enc).length)[j]? =(Go.Sort.flatK enc k ds.toArray).toList[j]? :=by rw[h,l]
 rw[Ry,AT Vf,UR,UR]at q;constructor
 .simp only[World.cell?,s,RV];rw[q,getElem!_pos _ j hj];exact Array.getElem?_eq_getElem _
 .simp[World.frozen?,s]
theorem permIn_all{d d':Array α}[Inhabited α]{n:Nat}(j:d.size=n)(h:Go.Sort.PermIn 0 n d d'):d'.toList.Perm d.toList:=by
 obtain⟨h1,_,h2⟩:=h;have l:d'.extract 0 n=d':=by rw[<-j,<-h1];simp
 have q:d.extract 0 n=d:=by rw[<-j];simp
 rwa [l,q]at h2
theorem iR{d:Array α}[Inhabited α]{lt:α->α->Bool}{n:Nat}(l:d.size=n)(h:Go.Sort.SortedIn lt 0 n d):d.toList.Pairwise λa b=>lt b a=S1:=by
 rw[Sv];intro i j h1 h2 hij;rw[RE]at h1 h2;have:=h i j (cd _) hij Vf;rwa [getElem!_pos d j h2,getElem!_pos d i h1]at this
theorem kY{P:Program}{f:FuncId}{β:Type}{k:Nat}(enc:α->List Value)(hk:∀x,(enc x).length=k)(kc:β->List PV)(hkc:∀x,(kc x).length=k)(hk0:0<k)(xf:α->β)(Srt:List α->Prop)(hS0:Srt []){ty:TypeId}{rest:List Value}{w:World}{m:Gm}{R:RT w (dG m)}{l:List β}{A:Option Addr}{c:Nat}
  (j:HR ⟨P,m,w,dG m,R⟩ m R.p (ax [(big,.gro ty (l.flatMap kc))]) (avK 0) w) (h0:l.length=0->A=Sl) (h1:0<l.length->∀b N,m big=Sh (b,N)->A=Sh ⟨b,0,Sl⟩/\N=c*k)
  (hex:∀us,RelPL w R.p (l.flatMap kc) us->∃ds:List α,ds.map xf=l/\ds.flatMap enc=us)
  (M:∀w':World,(∀b,R.p b->w'.heap[b]? =w.heap[b]?)->∀ds:List α,RelPL w' R.p ((ds.map xf).flatMap kc) (ds.flatMap enc))
  (U:Calls P f (Value.slice Sl 0 c::rest).toArray w λe w'=>e= .returned (.tuple #[])/\w'=w)
  (V:∀(b:Nat)(ds:List α)(arr:Array Value),ds.map xf=l->0<l.length->w.heap[b]? =Sh (.cells arr ty (0,0))->arr.toList.take (ds.flatMap enc).length=ds.flatMap enc->b<w.heap.size->¬R.p b->
   Calls P f (Value.slice (Sh ⟨b,0,Sl⟩) l.length c::rest).toArray w λe w'=>e= .returned (.tuple #[])/\∃ds':List α,ds'.Perm ds/\Srt ds'/\SrtW enc b w w' ds'):
  Calls P f (Value.slice A l.length c::rest).toArray w λe w'=>∃u v ob' m' R',e= .returned u/\(∃(l':List β)(ds':List α),l'.Perm l/\ds'.map xf=l'/\Srt ds'/\v= .tup []/\ob'=ax [(big,.gro ty (l'.flatMap kc))])/\
   v.all (okR 1 0)=Sm/\(∀i o,ob' i=Sh o->okR 1 0 i=Sm/\o.all (okR 1 0)=Sm)/\HR ⟨P,m,w,dG m,R⟩ m' R' ob' (avK 0) w'/\Rel w' m' (avK 0) R' v u:=by
 have s:∀l:List β,ax [(big,Ob.gro ty (l.flatMap kc))] big=Sh (.gro ty (l.flatMap kc)):=λ_=>rfl
 have z:∀{l:List β}{i:Nat},i≠big->ax [(big,Ob.gro ty (l.flatMap kc))] i=Sl:=fun{l i} hi=>by simp only[ax];rw[nbeqJ hi];rfl
 have G:∀(l:List β) i o,ax [(big,Ob.gro ty (l.flatMap kc))] i=Sh o->okR 1 0 i=Sm/\o.all (okR 1 0)=Sm:=λl i o h=>by
  by_cases hi:i=big
  .subst hi;rw[s]at h;cases h;exact⟨O,O⟩
  .rw[z hi]at h;cases h
 by_cases hn:l=[]
 .subst hn;obtain rfl:=h0 O;refine U.mono ?_;rintro e w' ⟨rfl,rfl⟩;exact⟨.tuple #[],.tup [],_,m,R.p,O,⟨[],[],RY _,O,hS0,O,O⟩,O,G [],j,by simp only[Rel];exact⟨[],O,by simp only[RelL]⟩⟩
 .have hpos:0<l.length:=SS.2 hn;have t:∀l:List β,(l.flatMap kc).length=l.length*k:=bY kc k hkc;have hpk:0<l.length*k:=U6 hpos hk0;have B:∀l':List β,l'.length=l.length->(Ob.gro ty (l'.flatMap kc)).real=Sm:=λl' e=>cZ (by intro h;have:=t l';rw[h,e]at this;simp at this;omega)
  have H:=j.dom big;rw[s]at H;obtain⟨⟨b,N⟩,hm⟩:∃x,m big=Sh x:=RQ.1 (H.trans (B l O));obtain⟨rfl,hN⟩:=h1 hpos b N hm;obtain⟨arr,hb,harr,hle,hrl⟩:=j.obj big _ b N (s l) hm;obtain⟨hbs,hbR,_⟩:=j.own big b N hm;obtain⟨ds,hds,hdu⟩:=hex _ hrl;have J:∀d:List α,(d.flatMap enc).length=d.length*k:=bY enc k hk;have Z:ds.length=l.length:=by rw[<-hds,OF]
  refine(V b ds arr hds hpos hb (by rw[show(ds.flatMap enc).length=(l.flatMap kc).length by rw[J,Z,t]];exact hdu.symm) hbs hbR).mono ?_;rintro e w' ⟨rfl,ds',hp,hs,q⟩;have Y:(ds'.map xf).Perm l:=hds▸hp.map xf;have D:(ds'.map xf).length=l.length:=Y.length_eq;have I:ds'.length=l.length:=by rw[<-D,OF]
  obtain⟨arr',hb',hs',ht'⟩:=q.cells arr _ _ hb (by rw[J,I,<-t,harr];exact hle);refine⟨.tuple #[],.tup [],_,m,R.p,O,⟨ds'.map xf,ds',Y,O,hs,O,O⟩,O,G _,?_,by simp only[Rel];exact⟨[],O,by simp only[RelL]⟩⟩;refine⟨λi=>?_,λi h=>?_,λi o b' N' h h'=>?_,j.inj,λi b' N' h=>?_,λb' h=>RA (j.rsz b' h) q.size,λb' h=>j.rfr b' h,j.r0,⟨q.os,q.tape,q.output,q.size,λk hk hF=>q.block k hk λe=>hF (e▸⟨big,N,hm⟩)⟩,j.keep,j.res⟩
  .by_cases hi:i=big
   .subst hi;rw[s,hm];exact(B _ D).symm
   .rw[z hi];have:=j.dom i;rw[z hi]at this;exact this
  .by_cases hi:i=big
   .subst hi;have:=j.free _ h;rw[s]at this;cases this
   .exact z hi
  .by_cases hi:i=big
   .subst hi;rw[s]at h;cases h;rw[hm]at h';cases h';refine⟨arr',hb',hs'.trans harr,by rw[t,D,<-t];exact hle,?_⟩;have e:((ds'.map xf).flatMap kc).length=(ds'.flatMap enc).length:=by rw[t,J,D,I]
    rw[e,ht'];exact M w' (λb2 h2=>q.block b2 (j.rsz b2 h2) λe=>hbR (e▸h2)) ds'
   .rw[z hi]at h;cases h
  .have:=j.own i b' N' h;exact⟨RA this.1 q.size,this.2⟩
end
end
end Go.Proofs.YtoplpepiabedhaaGreatDoor
namespace Go.Proofs
open Go.Proofs.YtoplpepiabedhaaGreatDoor
open Go.Shelf
def Tryz.sortPar_ren:Go.Shelf.Ren:=⟨fun|6=>209|15=>134|14=>290|28=>224|29=>225|20=>346|21=>347|22=>348|23=>349|24=>350|25=>351|26=>352|27=>353|46=>391|47=>295|48=>296|49=>392|50=>393|57=>429|n=>n,fun|22=>171|24=>147|25=>234|3=>3|39=>205|0=>0|53=>344|55=>300|4=>4|46=>338|45=>337|50=>281|5=>5|9=>9|66=>401|70=>405|76=>454|77=>455|n=>n,fun|n=>n⟩
theorem Tryz.sortPar:Go.Proofs.SlLaysF0.n6 prog Tryz.sortPar_ren:={
 mixed:=Vg
 f6:=⟨Tryz.f209.name,Vh,func209.trans (ag Sh Vg)⟩
 f14:=⟨Tryz.f290.name,Vh,func290.trans (ag Sh Vg)⟩
 f15:=func134.trans (ag Sh Vg)
 f20:=⟨Tryz.f346.name,Vh,func346.trans (ag Sh Vg)⟩
 f21:=⟨Tryz.f347.name,Vh,func347.trans (ag Sh Vg)⟩
 f22:=⟨Tryz.f348.name,Vh,func348.trans (ag Sh Vg)⟩
 f23:=⟨Tryz.f349.name,Vh,func349.trans (ag Sh Vg)⟩
 f24:=⟨Tryz.f350.name,Vh,func350.trans (ag Sh Vg)⟩
 f25:=⟨Tryz.f351.name,Vh,func351.trans (ag Sh Vg)⟩
 f26:=⟨Tryz.f352.name,Vh,func352.trans (ag Sh Vg)⟩
 f27:=⟨Tryz.f353.name,Vh,func353.trans (ag Sh Vg)⟩
 f28:=func224.trans (ag Sh Vg)
 f29:=func225.trans (ag Sh Vg)
 f46:=⟨Tryz.f391.name,Vh,func391.trans (ag Sh Vg)⟩
 f47:=func295.trans (ag Sh Vg)
 f48:=func296.trans (ag Sh Vg)
 f49:=⟨Tryz.f392.name,Vh,func392.trans (ag Sh Vg)⟩
 f50:=⟨Tryz.f393.name,Vh,func393.trans (ag Sh Vg)⟩
 f57:=⟨Tryz.f429.name,Vh,func429.trans (ag Sh Vg)⟩
 t0:=underlying0
 a0:=isAgg0
 z0:=sizeOf0
 v0:=zeroValue0
 t3:=underlying3
 a3:=isAgg3
 z3:=sizeOf3
 v3:=zeroValue3
 t4:=underlying4
 a4:=isAgg4
 z4:=sizeOf4
 v4:=zeroValue4
 t5:=underlying5
 a5:=isAgg5
 z5:=sizeOf5
 v5:=zeroValue5
 t9:=underlying9
 a9:=isAgg9
 z9:=sizeOf9
 v9:=zeroValue9
 t22:=underlying171
 a22:=isAgg171
 z22:=sizeOf171
 v22:=zeroValue171
 t25:=underlying234
 a25:=isAgg234
 z25:=sizeOf234
 v25:=zeroValue234
 t39:=underlying205
 a39:=isAgg205
 z39:=sizeOf205
 v39:=zeroValue205
 t45:=underlying337
 a45:=isAgg337
 z45:=sizeOf337
 v45:=zeroValue337
 t46:=underlying338
 a46:=isAgg338
 z46:=sizeOf338
 v46:=zeroValue338
 t50:=underlying281
 a50:=isAgg281
 z50:=sizeOf281
 v50:=zeroValue281
 t53:=underlying344
 a53:=isAgg344
 z53:=sizeOf344
 v53:=zeroValue344
 t55:=underlying300
 a55:=isAgg300
 z55:=sizeOf300
 v55:=zeroValue300
 t66:=underlying401
 a66:=isAgg401
 z66:=sizeOf401
 v66:=zeroValue401
 t70:=underlying405
 a70:=isAgg405
 z70:=sizeOf405
 v70:=zeroValue405
 t76:=underlying454
 a76:=isAgg454
 z76:=sizeOf454
 v76:=zeroValue454
 t77:=underlying455
 a77:=isAgg455
 z77:=sizeOf455
 v77:=zeroValue455 }
def Tryz.sortPP_ren:Go.Shelf.Ren:=⟨fun|6=>214|15=>134|14=>293|28=>224|29=>225|20=>354|21=>355|22=>356|23=>357|24=>358|25=>359|26=>360|27=>361|46=>394|47=>295|48=>296|49=>395|50=>396|57=>430|n=>n,fun|22=>235|24=>238|25=>242|3=>3|39=>205|0=>0|53=>344|55=>300|4=>4|46=>338|45=>337|50=>281|5=>5|9=>9|66=>401|70=>405|76=>454|77=>455|n=>n,fun|n=>n⟩
theorem Tryz.sortPP:Go.Proofs.SlLaysF0.n6 prog Tryz.sortPP_ren:={
 mixed:=Vg
 f6:=⟨Tryz.f214.name,Vh,func214.trans (ag Sh Vg)⟩
 f14:=⟨Tryz.f293.name,Vh,func293.trans (ag Sh Vg)⟩
 f15:=func134.trans (ag Sh Vg)
 f20:=⟨Tryz.f354.name,Vh,func354.trans (ag Sh Vg)⟩
 f21:=⟨Tryz.f355.name,Vh,func355.trans (ag Sh Vg)⟩
 f22:=⟨Tryz.f356.name,Vh,func356.trans (ag Sh Vg)⟩
 f23:=⟨Tryz.f357.name,Vh,func357.trans (ag Sh Vg)⟩
 f24:=⟨Tryz.f358.name,Vh,func358.trans (ag Sh Vg)⟩
 f25:=⟨Tryz.f359.name,Vh,func359.trans (ag Sh Vg)⟩
 f26:=⟨Tryz.f360.name,Vh,func360.trans (ag Sh Vg)⟩
 f27:=⟨Tryz.f361.name,Vh,func361.trans (ag Sh Vg)⟩
 f28:=func224.trans (ag Sh Vg)
 f29:=func225.trans (ag Sh Vg)
 f46:=⟨Tryz.f394.name,Vh,func394.trans (ag Sh Vg)⟩
 f47:=func295.trans (ag Sh Vg)
 f48:=func296.trans (ag Sh Vg)
 f49:=⟨Tryz.f395.name,Vh,func395.trans (ag Sh Vg)⟩
 f50:=⟨Tryz.f396.name,Vh,func396.trans (ag Sh Vg)⟩
 f57:=⟨Tryz.f430.name,Vh,func430.trans (ag Sh Vg)⟩
 t0:=underlying0
 a0:=isAgg0
 z0:=sizeOf0
 v0:=zeroValue0
 t3:=underlying3
 a3:=isAgg3
 z3:=sizeOf3
 v3:=zeroValue3
 t4:=underlying4
 a4:=isAgg4
 z4:=sizeOf4
 v4:=zeroValue4
 t5:=underlying5
 a5:=isAgg5
 z5:=sizeOf5
 v5:=zeroValue5
 t9:=underlying9
 a9:=isAgg9
 z9:=sizeOf9
 v9:=zeroValue9
 t22:=underlying235
 a22:=isAgg235
 z22:=sizeOf235
 v22:=zeroValue235
 t25:=underlying242
 a25:=isAgg242
 z25:=sizeOf242
 v25:=zeroValue242
 t39:=underlying205
 a39:=isAgg205
 z39:=sizeOf205
 v39:=zeroValue205
 t45:=underlying337
 a45:=isAgg337
 z45:=sizeOf337
 v45:=zeroValue337
 t46:=underlying338
 a46:=isAgg338
 z46:=sizeOf338
 v46:=zeroValue338
 t50:=underlying281
 a50:=isAgg281
 z50:=sizeOf281
 v50:=zeroValue281
 t53:=underlying344
 a53:=isAgg344
 z53:=sizeOf344
 v53:=zeroValue344
 t55:=underlying300
 a55:=isAgg300
 z55:=sizeOf300
 v55:=zeroValue300
 t66:=underlying401
 a66:=isAgg401
 z66:=sizeOf401
 v66:=zeroValue401
 t70:=underlying405
 a70:=isAgg405
 z70:=sizeOf405
 v70:=zeroValue405
 t76:=underlying454
 a76:=isAgg454
 z76:=sizeOf454
 v76:=zeroValue454
 t77:=underlying455
 a77:=isAgg455
 z77:=sizeOf455
 v77:=zeroValue455 }
def Tryz.sortEnt_ren:Go.Shelf.Ren:=⟨fun|6=>51|15=>134|14=>133|28=>224|29=>225|20=>216|21=>217|22=>218|23=>219|24=>220|25=>221|26=>222|27=>223|46=>294|47=>295|48=>296|49=>297|50=>298|57=>362|n=>n,fun|22=>57|24=>59|25=>124|3=>3|39=>205|0=>0|53=>344|55=>300|4=>4|46=>338|45=>337|50=>281|5=>5|9=>9|66=>401|70=>405|76=>454|77=>455|n=>n,fun|n=>n⟩
theorem Tryz.sortEnt:Go.Proofs.SlLaysF0.n6 prog Tryz.sortEnt_ren:={
 mixed:=Vg
 f6:=⟨Tryz.f51.name,Vh,func51.trans (ag Sh Vg)⟩
 f14:=⟨Tryz.f133.name,Vh,func133.trans (ag Sh Vg)⟩
 f15:=func134.trans (ag Sh Vg)
 f20:=⟨Tryz.f216.name,Vh,func216.trans (ag Sh Vg)⟩
 f21:=⟨Tryz.f217.name,Vh,func217.trans (ag Sh Vg)⟩
 f22:=⟨Tryz.f218.name,Vh,func218.trans (ag Sh Vg)⟩
 f23:=⟨Tryz.f219.name,Vh,func219.trans (ag Sh Vg)⟩
 f24:=⟨Tryz.f220.name,Vh,func220.trans (ag Sh Vg)⟩
 f25:=⟨Tryz.f221.name,Vh,func221.trans (ag Sh Vg)⟩
 f26:=⟨Tryz.f222.name,Vh,func222.trans (ag Sh Vg)⟩
 f27:=⟨Tryz.f223.name,Vh,func223.trans (ag Sh Vg)⟩
 f28:=func224.trans (ag Sh Vg)
 f29:=func225.trans (ag Sh Vg)
 f46:=⟨Tryz.f294.name,Vh,func294.trans (ag Sh Vg)⟩
 f47:=func295.trans (ag Sh Vg)
 f48:=func296.trans (ag Sh Vg)
 f49:=⟨Tryz.f297.name,Vh,func297.trans (ag Sh Vg)⟩
 f50:=⟨Tryz.f298.name,Vh,func298.trans (ag Sh Vg)⟩
 f57:=⟨Tryz.f362.name,Vh,func362.trans (ag Sh Vg)⟩
 t0:=underlying0
 a0:=isAgg0
 z0:=sizeOf0
 v0:=zeroValue0
 t3:=underlying3
 a3:=isAgg3
 z3:=sizeOf3
 v3:=zeroValue3
 t4:=underlying4
 a4:=isAgg4
 z4:=sizeOf4
 v4:=zeroValue4
 t5:=underlying5
 a5:=isAgg5
 z5:=sizeOf5
 v5:=zeroValue5
 t9:=underlying9
 a9:=isAgg9
 z9:=sizeOf9
 v9:=zeroValue9
 t22:=underlying57
 a22:=isAgg57
 z22:=sizeOf57
 v22:=zeroValue57
 t25:=underlying124
 a25:=isAgg124
 z25:=sizeOf124
 v25:=zeroValue124
 t39:=underlying205
 a39:=isAgg205
 z39:=sizeOf205
 v39:=zeroValue205
 t45:=underlying337
 a45:=isAgg337
 z45:=sizeOf337
 v45:=zeroValue337
 t46:=underlying338
 a46:=isAgg338
 z46:=sizeOf338
 v46:=zeroValue338
 t50:=underlying281
 a50:=isAgg281
 z50:=sizeOf281
 v50:=zeroValue281
 t53:=underlying344
 a53:=isAgg344
 z53:=sizeOf344
 v53:=zeroValue344
 t55:=underlying300
 a55:=isAgg300
 z55:=sizeOf300
 v55:=zeroValue300
 t66:=underlying401
 a66:=isAgg401
 z66:=sizeOf401
 v66:=zeroValue401
 t70:=underlying405
 a70:=isAgg405
 z70:=sizeOf405
 v70:=zeroValue405
 t76:=underlying454
 a76:=isAgg454
 z76:=sizeOf454
 v76:=zeroValue454
 t77:=underlying455
 a77:=isAgg455
 z77:=sizeOf455
 v77:=zeroValue455 }
end Go.Proofs
namespace Go.Proofs.YtoplpepiabedhaaGreatDoor
section
open Go.RowKit Mm Jn
theorem K3{K:Type}{cmp:K->K->Int}(h:Mm.Cmp cmp):Go.Sort.SWO (Go.Proofs.ltOf cmp):=by
 have e:∀x y,Go.Proofs.ltOf cmp x y=decide (cmp x y<0):=λ_ _=>rfl
 refine⟨λx=>?_,λx y z j d=>?_,λx y z j d=>?_⟩
 .rw[e];have:=h.swap x x;exact Rv Vf
 .rw[e]at*;exact Ru (h.trans (Tm j) (Tm d))
 .rw[e]at*;have j:=Tn j;have d:=Tn d;refine Rv λl=>?_
  by_cases h0:cmp x y=0
  .rw[h.zero h0]at l;exact d l
  .exact d (h.trans (by have:=h.swap x y;omega:cmp y x<0) l)
theorem sx{K:Type}{cmp:K->K->Int}(h:Mm.Cmp cmp):∀{xs l:List K},l.Perm xs->xs.Pairwise (λa b=>cmp a b<0)->l.Pairwise (λa b=>¬cmp b a<0)->l=xs
 |[],l,hp,_,_=>List.Perm.eq_nil hp
 |x::xs,[],hp,_,_=>absurd hp.length_eq Vj
 | x::xs,y::t,hp,ha,hb=>by
   obtain⟨a1,a2⟩:=Sa.1 ha;obtain⟨b1,b2⟩:=Sa.1 hb;have d:y=x:=by
    rcases AS.1 (hp.subset (Su))with e|d
    .exact e
    .rcases AS.1 (hp.symm.subset (Su))with e|hx
     .exact e.symm
     .exact absurd (a1 y d) (b1 x hx)
   subst d;rw[sx h hp.cons_inv a2 b2]
def vM(x:Par):List Value:=[.int .i64 x.f,.string x.c]
instance :Inhabited Par:=⟨⟨0,⟨#[]⟩⟩⟩
theorem LG:∀{l:List Par}{w:World}{R:Nat->Prop}{us:List Value},RelPL w R (l.flatMap pT) us->l.flatMap vM=us
 |[],_,_,us,h=>by simp only[Uu,RelPL]at h;rw[h];rfl
 | x::l,w,R,us,h=>by
   rw[RC]at h;have h1:RelPL w R (pT x) (us.take 2):=by have:=h.take 2;rwa [show(pT x++l.flatMap pT).take 2=pT x from List.take_left' O]at this
   have d:RelPL w R (l.flatMap pT) (us.drop 2):=by have:=h.drop 2;rwa [show(pT x++l.flatMap pT).drop 2=l.flatMap pT from List.drop_left' O]at this
   rw[RC,LG d];have e:us.take 2=vM x:=by
    simp only[RelPL,RelP]at h1;obtain⟨_,_,e,rfl,_,_,rfl,rfl,rfl⟩:=h1;exact e
   rw[<-e,Sb]
theorem Qp(w:World)(R:Nat->Prop):∀(l:List Par),RelPL w R (l.flatMap pT) (l.flatMap vM)
 |[]=>by simp[RelPL]
 | x::l=>by
   rw[RC,RC];exact RelPL.append (RelPL.cons (by simp only[RelP]) (RelPL.cons (by simp only[RelP]) RelPL.nil)) (Qp w R l)
theorem Ce(l:List Par)(s:l.length<=1000000):
  FnO prog 209 1 0 [.gsl big 2 l.length,.pv (.fn (.func 129) [] [])] [(big,.gro 147 (sN l))] (λv ob'=>∃l',l'.Perm l/\(l'.Pairwise λa b=>¬cD b a<0)/\v= .tup []/\ob'=ax [(big,.gro 147 (sN l'))]):=by
 intro w m R us hR hrel;simp only[RelL,Rel,RelP]at hrel;obtain⟨u1,us1,rfl,⟨_,A,c,rfl,hnc,hcm,h0,h1⟩,u2,us2,rfl,⟨fs,cs,rfl,hfs,hcs⟩,rfl⟩:=hrel;obtain rfl:=(by simpa[RelPL]using hfs:fs=[]);obtain rfl:=(by simpa[RelPL]using hcs:cs=[]);refine(kY (α:=Par) vM (λ_=>rfl) pT (λ_=>rfl) Vh id (λd=>d.Pairwise λa b=>Go.Proofs.ltOf cD b a=S1) List.Pairwise.nil hR (λh=>(h0 h).1) h1 (λus h=>⟨l,U7 _,LG h⟩) (λw' _ d=>by rw[U7];exact Qp w' R.p d)
  (AnyF.slices_SortFunc_none Tryz.sortPar Sl c _ w) ?_).mono ?_
 .intro b d arr hds hpos hb ht hbs hbR;rw[U7]at hds;subst hds;have j:=AnyQ.slices_SortFunc Tryz.sortPar 2 isAgg147 sizeOf147 vM (λ_=>rfl) (λx v hv=>by simp only[vM,AS,Sn,T7]at hv;rcases hv with hv|hv<;>(rw[hv];rfl)) cD (K3 fm) 129 #[] b 0 c d.toArray w call129
   (λmm os dk _ x y=>AL x y _) (oJ Vh vM (λ_=>rfl) hb ht) hbs (by rw[RB];omega)
  rw[RB]at j;refine Calls.mono j ?_;rintro e w' ⟨rfl,d',n,os,hp,hs,rfl⟩;have q:d'.size=d.length:=hp.1.trans RB;exact⟨O,d'.toList,permIn_all RB hp,iR q hs,tu Vh vM (λ_=>rfl) w b n d' os hbs⟩
 .rintro e w' ⟨u,v,ob',m',R',rfl,⟨l',ds',hp,rfl,hs,rfl,rfl⟩,r⟩;refine⟨u,_,_,m',R',O,⟨_,hp,?_,O,O⟩,r⟩;rw[U7];exact hs.imp λh=>Tn h
theorem ye(ks vs:List PV):FnP prog 128 [.mp ks vs] (· = .fn (.func 210) [] [.rp [.mp ks vs] 0]):=by
 refine FnP.of func128 O ntmps128 Vj λm0 w0 F R0=>?_
 exact Z2 O<|Q4 (St.fG 0 O O)<|Z2 O<|Gt O<|⟨_,_,O,O,O⟩
theorem vu(xs:List Par)(vs:List PV)(s:xs.length<=1000000)(t:xs.Pairwise λa b=>cD a b<0):
  FnP prog 127 [.fn (.func 210) [] [.rp [.mp (xs.map dr) vs] 0],.fn (.func 129) [] []] (· = .sl Sl xs.length (sN xs)):=by
 have d:=CL xs vs s;refine FnP.of func127 O ntmps127 Vj λm0 w0 F R0=>?_
 refine Z1 O<|Z1 O<|RL.call O (bM [] 0 call208 O O O O (by exact trivial) Vh O d ?_);rintro _ _ ⟨ss,hS,rfl,rfl⟩;refine A1 O ?_;have j:ss.length<=1000000:=by rw[hS.length_eq];exact s
 have l:=Ce ss j;refine Z2 O<|RL.call O (bM [0] 1 call209 O O O O (by exact⟨Vg,Vm⟩) Vh O l ?_);rintro _ _ ⟨l',hp,ho,rfl,rfl⟩;obtain rfl:l'=xs:=sx fm (hp.trans hS) t ho;have q:ss.length=l'.length:=hS.length_eq;rw[q]at*;exact Z2 O<|Gt O<|⟨_,_,O,O,O⟩
def tI(x:PP):List Value:=[.int .i64 x.1.f,.string x.1.c,.int .i64 x.2.f,.string x.2.c]
instance :Inhabited PP:=⟨(⟨0,⟨#[]⟩⟩,⟨0,⟨#[]⟩⟩)⟩
theorem L6:∀{l:List PP}{w:World}{R:Nat->Prop}{us:List Value},RelPL w R (l.flatMap ppC) us->l.flatMap tI=us
 |[],_,_,us,h=>by simp only[Uu,RelPL]at h;rw[h];rfl
 | x::l,w,R,us,h=>by
   rw[RC]at h;have h1:RelPL w R (ppC x) (us.take 4):=by have:=h.take 4;rwa [show(ppC x++l.flatMap ppC).take 4=ppC x from List.take_left' O]at this
   have d:RelPL w R (l.flatMap ppC) (us.drop 4):=by have:=h.drop 4;rwa [show(ppC x++l.flatMap ppC).drop 4=l.flatMap ppC from List.drop_left' O]at this
   rw[RC,L6 d];have e:us.take 4=tI x:=by
    simp only[RelPL,RelP]at h1;obtain⟨_,_,e,rfl,_,_,rfl,rfl,_,_,rfl,rfl,_,_,rfl,rfl,rfl⟩:=h1;exact e
   rw[<-e,Sb]
theorem P9(w:World)(R:Nat->Prop):∀(l:List PP),RelPL w R (l.flatMap ppC) (l.flatMap tI)
 |[]=>by simp[RelPL]
 | x::l=>by
   rw[RC,RC];exact RelPL.append (RelPL.cons (by simp only[RelP]) (RelPL.cons (by simp only[RelP]) (RelPL.cons (by simp only[RelP]) (RelPL.cons (by simp only[RelP]) RelPL.nil)))) (P9 w R l)
theorem A5(l:List PP)(s:l.length<=1000000):
  FnO prog 214 1 0 [.gsl big 4 l.length,.pv (.fn (.func 132) [] [])] [(big,.gro 238 (s6 l))] (λv ob'=>∃l',l'.Perm l/\(l'.Pairwise λa b=>¬dU b a<0)/\v= .tup []/\ob'=ax [(big,.gro 238 (s6 l'))]):=by
 intro w m R us hR hrel;simp only[RelL,Rel,RelP]at hrel;obtain⟨u1,us1,rfl,⟨_,A,c,rfl,hnc,hcm,h0,h1⟩,u2,us2,rfl,⟨fs,cs,rfl,hfs,hcs⟩,rfl⟩:=hrel;obtain rfl:=(by simpa[RelPL]using hfs:fs=[]);obtain rfl:=(by simpa[RelPL]using hcs:cs=[]);refine(kY (α:=PP) tI (λ_=>rfl) ppC (λ_=>rfl) Vh id (λd=>d.Pairwise λa b=>Go.Proofs.ltOf dU b a=S1) List.Pairwise.nil hR (λh=>(h0 h).1) h1 (λus h=>⟨l,U7 _,L6 h⟩) (λw' _ d=>by rw[U7];exact P9 w' R.p d)
  (AnyF.slices_SortFunc_none Tryz.sortPP Sl c _ w) ?_).mono ?_
 .intro b d arr hds hpos hb ht hbs hbR;rw[U7]at hds;subst hds;have j:=AnyQ.slices_SortFunc Tryz.sortPP 4 isAgg238 sizeOf238 tI (λ_=>rfl) (λx v hv=>by simp only[tI,AS,Sn,T7]at hv;rcases hv with hv|hv|hv|hv<;>(rw[hv];rfl)) dU (K3 du) 132 #[] b 0 c d.toArray w call132
   (λmm os dk _ x y=>Hf x y _) (oJ Vh tI (λ_=>rfl) hb ht) hbs (by rw[RB];omega)
  rw[RB]at j;refine Calls.mono j ?_;rintro e w' ⟨rfl,d',n,os,hp,hs,rfl⟩;have q:d'.size=d.length:=hp.1.trans RB;exact⟨O,d'.toList,permIn_all RB hp,iR q hs,tu Vh tI (λ_=>rfl) w b n d' os hbs⟩
 .rintro e w' ⟨u,v,ob',m',R',rfl,⟨l',ds',hp,rfl,hs,rfl,rfl⟩,r⟩;refine⟨u,_,_,m',R',O,⟨_,hp,?_,O,O⟩,r⟩;rw[U7];exact hs.imp λh=>Tn h
theorem xq(ks vs:List PV):FnP prog 131 [.mp ks vs] (· = .fn (.func 215) [] [.rp [.mp ks vs] 0]):=by
 refine FnP.of func131 O ntmps131 Vj λm0 w0 F R0=>?_
 exact Z2 O<|Q4 (St.fG 0 O O)<|Z2 O<|Gt O<|⟨_,_,O,O,O⟩
theorem tW(xs:List PP)(vs:List PV)(s:xs.length<=1000000)(t:xs.Pairwise λa b=>dU a b<0):
  FnP prog 130 [.fn (.func 215) [] [.rp [.mp (xs.map ppP) vs] 0],.fn (.func 132) [] []] (· = .sl Sl xs.length (s6 xs)):=by
 have d:=FV xs vs s;refine FnP.of func130 O ntmps130 Vj λm0 w0 F R0=>?_
 refine Z1 O<|Z1 O<|RL.call O (bM [] 0 call213 O O O O (by exact trivial) Vh O d ?_);rintro _ _ ⟨ss,hS,rfl,rfl⟩;refine A1 O ?_;have j:ss.length<=1000000:=by rw[hS.length_eq];exact s
 have l:=A5 ss j;refine Z2 O<|RL.call O (bM [0] 1 call214 O O O O (by exact⟨Vg,Vm⟩) Vh O l ?_);rintro _ _ ⟨l',hp,ho,rfl,rfl⟩;obtain rfl:l'=xs:=sx du (hp.trans hS) t ho;have q:ss.length=l'.length:=hS.length_eq;rw[q]at*;exact Z2 O<|Gt O<|⟨_,_,O,O,O⟩
end
section
namespace Vw
open Mm Jn
set_option autoImplicit false
structure Sup(Q:List Par)(x:Mm.Sem):Prop where
 s:∀p,p∉Q->x.s p=0
 p:∀a b,a∉Q\/b∉Q->x.p a b=0
theorem Sup.add{Q:List Par}{x y:Mm.Sem}(d:Sup Q x)(j:Sup Q y):Sup Q (Mm.Sem.add x y):=
 ⟨λp h=>by show x.s p+y.s p=0;rw[d.s p h,j.s p h,UT],λa b h=>by show x.p a b+y.p a b=0;rw[d.p a b h,j.p a b h,UT]⟩
theorem Sup.mul{Q:List Par}{x y:Mm.Sem}(d:Sup Q x)(j:Sup Q y):Sup Q (Mm.Sem.mul x y):=by
 refine⟨λp h=>?_,λa b h=>?_⟩
 .show x.c*y.s p+y.c*x.s p=0;rw[d.s p h,j.s p h,Ve,Ve,UT]
 .show x.c*y.p a b+y.c*x.p a b+(x.s a*y.s b+x.s b*y.s a)=0;rw[d.p a b h,j.p a b h];rcases h with h|h
  .rw[d.s a h,j.s a h];grind
  .rw[d.s b h,j.s b h];grind
theorem Sup.cnt(Q:List Par)(n:Int):Sup Q (cnt n):=⟨λ_ _=>rfl,λ_ _ _=>rfl⟩
theorem Sup.lft{Q:List Par}{p:Par}(h:p∈Q)(x:Rat):Sup Q (lft p x):=by
 refine⟨λq hq=>?_,λa b hq=>?_⟩
 .unfold Mm.lft;refine dt ?_;intro e;exact hq (e▸h)
 .unfold Mm.lft;refine dt ?_;rintro⟨rfl,rfl⟩;rcases hq with hq|hq<;>exact hq h
structure Gv where
 m:Mm.Sem
 n:Nat
 w:Nat
 k:Nat
def Gv.mul(a b:Gv):Gv:=⟨Mm.Sem.mul a.m b.m,a.n*b.n,a.w*b.w,a.k+b.k⟩
def Gv.add(a b:Gv):Gv:=⟨Mm.Sem.add a.m b.m,a.n+b.n,a.w+b.w,max a.k b.k⟩
def Gv.whole(w:Nat):Gv:=⟨cnt w,1,w,0⟩
structure GvOk(Q:List Par)(g:Gv):Prop where
 s:SOk g.w g.k g.m
 q:Sup Q g.m
theorem GvOk.mul{Q:List Par}{a b:Gv}(d:GvOk Q a)(j:GvOk Q b):GvOk Q (a.mul b):=⟨d.s.mul j.s,d.q.mul j.q⟩
theorem GvOk.add{Q:List Par}{a b:Gv}(d:GvOk Q a)(j:GvOk Q b):GvOk Q (a.add b):=
 ⟨(d.s.up (BY _) (Nat.le_max_left _ _)).add (j.s.up (BY _) (Nat.le_max_right _ _)),d.q.add j.q⟩
theorem GvOk.whole(Q:List Par)(w:Nat):GvOk Q (Gv.whole w):=⟨lY w,Sup.cnt Q w⟩
structure Msr(f:Gv->Nat):Prop where
 mul:∀a b,f (a.mul b)=f a*f b
 add:∀a b,f (a.add b)=f a+f b
theorem msr_n:Msr Gv.n:=⟨λ_ _=>rfl,λ_ _=>rfl⟩
theorem EE:Msr Gv.w:=⟨λ_ _=>rfl,λ_ _=>rfl⟩
structure Itm where
 v:List ByteArray
 g:Gv
structure Prt where
 a:List Int
 is:List Itm
structure Ch where
 v:List ByteArray
 s:List Bool
def Qx(x:Ch)(p:Int×ByteArray):Bool:= !x.s.getD p.1.toNat S1||decide (x.v.getD p.1.toNat ⟨#[]⟩=p.2)
def B5(x:Ch)(A:List Int)(V:List ByteArray):Bool:=(A.zip V).all (Qx x)
def rO(x:Ch)(p:Int×ByteArray):Ch:=⟨x.v.set p.1.toNat p.2,x.s.set p.1.toNat Sm⟩
def pR(x:Ch)(A:List Int)(V:List ByteArray):Ch:=(A.zip V).foldl rO x
def leaves:List Prt->Ch->Gv->List (Ch×Gv)
 |[],x,g=>[(x,g)]
 |p::ps,x,g=>p.is.flatMap λi=>if B5 x p.a i.v=Sm then leaves ps (pR x p.a i.v) (g.mul i.g)else []
theorem yJ:∀(Z:List (Int×ByteArray))(x:Ch),(Z.foldl rO x).v.length=x.v.length/\(Z.foldl rO x).s.length=x.s.length
 |[],x=>⟨O,O⟩
 | p::Z,x=>by
   have h:=yJ Z (rO x p);simp only[rO,SI]at h;exact h
theorem A7{I:Ch->Gv->Prop}{ps:List Prt}:∀{x:Ch}{g:Gv},I x g->(∀p∈ps,∀i∈p.is,∀x g,I x g->B5 x p.a i.v=Sm->I (pR x p.a i.v) (g.mul i.g))->∀l∈leaves ps x g,I l.1 l.2:=by
 induction ps with
 |nil=>intro x g h _ l hl;simp only[leaves,Rn]at hl;subst hl;exact h
 | cons p ps ih=>
   intro x g h hs l hl;rw[leaves,RN]at hl;obtain⟨i,hi,hl⟩:=hl;split at hl
   .rename_i ha;exact ih (hs p Vj i hi x g h ha) (λq hq=>hs q (by simp[hq])) l hl
   .simp at hl
def bL:List Nat->Nat
 |[]=>1
 |a::l=>a*bL l
theorem cF:∀l m:List Nat,bL (l++m)=bL l*bL m
 |[],m=>by simp[bL]
 |a::l,m=>by simp only[SN,bL,cF l m,Tj]
theorem jx{M:Nat}(hM:1<=M):∀{l:List Nat}{j:Nat},(∀a∈l,a<=M)->l.length<=j->bL l<=M^j
 |[],j,_,_=>Nat.one_le_pow _ _ hM
 |a::l,0,_,h=>by simp at h
 | a::l,j+1,ha,h=>by
   rw[bL,Tc,SX];exact Sw (jx hM (λb hb=>ha b (by simp[hb])) (by simpa using h)) (ha a Vj)
theorem lV{α:Type}{f g:α->Nat}:∀{l:List α},(∀a∈l,f a<=g a)->bL (l.map f)<=bL (l.map g)
 |[],_=>BY _
 |a::l,h=>Sw (h a Vj) (lV λb hb=>h b (by simp[hb]))
def Prt.tot(f:Gv->Nat)(p:Prt):Nat:=(p.is.map λi=>f i.g).sum
theorem zj{α:Type}(f:α->List Nat):∀l:List α,(l.flatMap f).sum=(l.map λa=>(f a).sum).sum
 |[]=>rfl
 |a::l=>by rw[RC,List.sum_append,bP,Se,zj f l]
theorem uV{α:Type}{f g:α->Nat}:∀{l:List α},(∀a∈l,f a<=g a)->(l.map f).sum<=(l.map g).sum
 |[],_=>BY _
 |a::l,h=>by simp only[bP,Se];exact Nat.add_le_add (h a Vj) (uV λb hb=>h b (by simp[hb]))
theorem zU(c:Nat):∀l:List Nat,(l.map λa=>c*a).sum=c*l.sum
 |[]=>by simp
 |a::l=>by simp only[bP,Se,zU c l,TM]
theorem A9{f:Gv->Nat}(q:Msr f){ps:List Prt}:∀{x:Ch}{g:Gv},((leaves ps x g).map λl=>f l.2).sum<=f g*bL (ps.map (Prt.tot f)):=by
 induction ps with
 |nil=>intro x g;simp[leaves,bL]
 | cons p ps ih=>
   intro x g;rw[leaves,T9,zj,bP,bL];have j:(p.is.map λi=>((if B5 x p.a i.v=Sm then leaves ps (pR x p.a i.v) (g.mul i.g)else []).map λl=>f l.2).sum).sum<=(p.is.map λi=>f g*bL (ps.map (Prt.tot f))*f i.g).sum:=by
    refine uV λi _=>?_
    split
    .have:=ih (x:=pR x p.a i.v) (g:=g.mul i.g);rw[q.mul]at this;refine IT this (SQ ?_);rw[Tj,SX (f i.g),<-Tj]
    .simp
   refine IT j (SQ ?_);have d:=zU (f g*bL (ps.map (Prt.tot f))) (p.is.map λi=>f i.g);rw[Ta]at d;refine RI d ?_;show f g*bL _*Prt.tot f p=f g*(Prt.tot f p*bL _);rw[Tj,SX (bL _)]
def Prt.km(p:Prt):Nat:=p.is.foldr (λi z=>max i.g.k z) 0
theorem mk_le{p:Prt}{i:Itm}(h:i∈p.is):i.g.k<=p.km:=by
 unfold Prt.km
 revert h
 induction p.is with
 |nil=>intro h;simp at h
 | cons j l ih=>
   intro h;simp only[List.foldr_cons];rcases AS.1 h with rfl|h
   .exact Nat.le_max_left _ _
   .exact IT (ih h) (Nat.le_max_right _ _)
theorem Mi{p:Prt}{K:Nat}(h:∀i∈p.is,i.g.k<=K):p.km<=K:=by
 unfold Prt.km
 revert h
 induction p.is with
 |nil=>intro _;exact cd _
 |cons j l ih=>intro h;exact Nat.max_le.2 ⟨h j Vj,ih λi hi=>h i (by simp[hi])⟩
theorem AU{ps:List Prt}:∀{x:Ch}{g:Gv},∀l∈leaves ps x g,l.2.k<=g.k+(ps.map Prt.km).sum:=by
 induction ps with
 |nil=>intro x g l hl;simp only[leaves,Rn]at hl;subst hl;simp
 | cons p ps ih=>
   intro x g l hl;rw[leaves,RN]at hl;obtain⟨i,hi,hl⟩:=hl;split at hl
   .have:=ih l hl;have d:=mk_le hi;simp only[bP,Se];have e:(g.mul i.g).k=g.k+i.g.k:=rfl;omega
   .simp at hl
structure En where
 t:ByteArray
 v:List ByteArray
 g:Gv
def jnt(v:List ByteArray):ByteArray:=⟨(Lib.join (v.map (·.data.toList)) [0]).toArray⟩
def wb(E:List En)(t:ByteArray):Option Nat:=E.findIdx? λe=>decide (e.t=t)
def vg(E:List En)(v:List ByteArray)(g:Gv):List En:=match wb E (jnt v)with
 |some i=>E.set i ⟨jnt v,v,g.add (E.getD i ⟨jnt v,v,g⟩).g⟩
 |none=>E++[⟨jnt v,v,g⟩]
theorem fw{E:List En}{t:ByteArray}{i:Nat}(h:wb E t=Sh i):∃hi:i<E.length,E[i].t=t/\∀j (d:j<i),(E[j]'Vf).t≠t:=by
 obtain⟨hi,h1,h2⟩:=Ts.1 h;exact⟨hi,by simpa using h1,λj d=>by have:=h2 j d;simpa using this⟩
theorem kF{E:List En}{t:ByteArray}(h:wb E t=Sl):∀e∈E,e.t≠t:=by
 intro e he;have:=Un.1 h e he;simpa using this
theorem eR(E:List En)(v:List ByteArray)(g:Gv):(∃i,∃hi:i<E.length,wb E (jnt v)=Sh i/\vg E v g=E.set i ⟨jnt v,v,g.add E[i].g⟩/\E[i].t=jnt v)\/(wb E (jnt v)=Sl/\vg E v g=E++[⟨jnt v,v,g⟩]/\∀e∈E,e.t≠jnt v):=by
 unfold vg;cases h:wb E (jnt v)with
 | some i=>
   obtain⟨hi,h1,_⟩:=fw h;exact .inl ⟨i,hi,O,by simp[List.getD,hi],h1⟩
 |none=>exact .inr ⟨O,O,kF h⟩
theorem Ih(E:List En)(v:List ByteArray)(g:Gv):E.length<=(vg E v g).length:=by
 rcases eR E v g with⟨i,hi,_,e,_⟩|⟨_,e,_⟩<;>rw[e]<;>simp
structure EnOk(E:List En):Prop where
 nd:(E.map (·.t)).Nodup
 t:∀e∈E,e.t=jnt e.v
theorem EnOk.nil:EnOk []:=⟨List.nodup_nil,λ_ h=>absurd h Vj⟩
theorem Oh{E:List En}(h:EnOk E)(v:List ByteArray)(g:Gv):EnOk (vg E v g):=by
 rcases eR E v g with⟨i,hi,_,e,ht⟩|⟨_,e,hn⟩<;>rw[e]
 .refine⟨?_,λx hx=>?_⟩
  .rw[SH];have d:(E.map (·.t)).set i ((E.map (·.t))[i]'(by simpa using hi))=E.map (·.t):=List.set_getElem_self _;simp only[SE,ht]at d;show((E.map (·.t)).set i (jnt v)).Nodup;rw[d];exact h.nd
  .rcases List.mem_or_eq_of_mem_set hx with hx|rfl
   .exact h.t x hx
   .rfl
 .refine⟨?_,λx hx=>?_⟩
  .rw[RG,Uk];refine⟨h.nd,Vj,λa ha b hb e2=>?_⟩;obtain⟨x,hx,rfl⟩:=By.1 ha;simp at hb;exact hn x hx (e2.trans hb)
  .rcases Rx.1 hx with hx|hx
   .exact h.t x hx
   .simp at hx;subst hx;rfl
theorem I9{E:List En}{v:List ByteArray}{g:Gv}{x:En}(h:x∈vg E v g):x∈E\/(x.v=v/\(x.g=g\/∃y∈E,y.t=jnt v/\x.g=g.add y.g)):=by
 rcases eR E v g with⟨i,hi,_,e,ht⟩|⟨_,e,hn⟩<;>rw[e]at h
 .rcases List.mem_or_eq_of_mem_set h with h|rfl
  .exact .inl h
  .exact .inr ⟨O,.inr ⟨E[i],au hi,ht,O⟩⟩
 .rcases Rx.1 h with h|h
  .exact .inl h
  .simp at h;subst h;exact .inr ⟨O,.inl O⟩
def iE(f:Gv->Nat)(E:List En):Nat:=(E.map λe=>f e.g).sum
theorem EF{f:Gv->Nat}:∀{E:List En}{i:Nat}(d:i<E.length)(e:En),iE f (E.set i e)+f E[i].g=iE f E+f e.g
 |x::E,0,_,e=>by simp only[iE,List.set_cons_zero,bP,Se,List.getElem_cons_zero];omega
 | x::E,i+1,d,e=>by
   have:=EF (f:=f) (E:=E) (i:=i) (by simpa using d) e;simp only[iE,List.set_cons_succ,bP,Se,List.getElem_cons_succ]at this ⊢;omega
theorem sq{f:Gv->Nat}(d:Msr f)(E:List En)(v:List ByteArray)(g:Gv):iE f (vg E v g)=iE f E+f g:=by
 rcases eR E v g with⟨i,hi,_,e,ht⟩|⟨_,e,hn⟩<;>rw[e]
 .have:=EF (f:=f) hi ⟨jnt v,v,g.add E[i].g⟩;simp only[d.add]at this;omega
 .simp[iE]
def iD(K:List Int)(x:Ch):List ByteArray:=K.map λa=>x.v.getD a.toNat ⟨#[]⟩
open Classical in
noncomputable def stepE(lf:ByteArray->Gv)(v:Int)(K:List Int)(E:List En)(l:Ch×Gv):List En:=
 if(l.2.mul (lf (l.1.v.getD v.toNat ⟨#[]⟩))).m=Mm.Sem.zero then E else vg E (iD K l.1) (l.2.mul (lf (l.1.v.getD v.toNat ⟨#[]⟩)))
noncomputable def foldE(lf:ByteArray->Gv)(v:Int)(K:List Int)(E:List En)(ls:List (Ch×Gv)):List En:=ls.foldl (stepE lf v K) E
def ch0(n:Nat):Ch:=⟨List.replicate n ⟨#[]⟩,List.replicate n S1⟩
noncomputable def viewE(lf:ByteArray->Gv)(n:Nat)(v:Int)(K:List Int)(ps:List Prt):List En:=foldE lf v K [] (leaves ps (ch0 n) (Gv.whole 1))
section
variable {lf:ByteArray->Gv}{v:Int}{K:List Int}
theorem fj(E:List En)(l:Ch×Gv):stepE lf v K E l=E\/stepE lf v K E l=vg E (iD K l.1) (l.2.mul (lf (l.1.v.getD v.toNat ⟨#[]⟩))):=by
 unfold stepE;split
 .exact .inl O
 .exact .inr O
theorem Ec(E:List En)(l:Ch×Gv):E.length<=(stepE lf v K E l).length:=by
 rcases fj (lf:=lf) (v:=v) (K:=K) E l with e|e<;>rw[e]
 .exact BY _
 .exact Ih _ _ _
theorem uo:∀(ls:List (Ch×Gv))(E:List En),E.length<=(foldE lf v K E ls).length
 |[],_=>BY _
 |l::ls,E=>IT (Ec E l) (uo ls _)
theorem o0(E:List En)(a b:List (Ch×Gv)):foldE lf v K E (a++b)=foldE lf v K (foldE lf v K E a) b:=Uf
theorem yn:∀(ls:List (Ch×Gv)){E:List En},EnOk E->EnOk (foldE lf v K E ls)
 |[],_,h=>h
 | l::ls,E,h=>by
   refine yn ls ?_;rcases fj (lf:=lf) (v:=v) (K:=K) E l with e|e<;>rw[e]
   .exact h
   .exact Oh h _ _
theorem gh{I:En->Prop}(q:∀x y:En,I x->I y->∀t,I ⟨t,x.v,x.g.add y.g⟩):∀(ls:List (Ch×Gv)){E:List En},(∀e∈E,I e)->(∀l∈ls,I ⟨jnt (iD K l.1),iD K l.1,l.2.mul (lf (l.1.v.getD v.toNat ⟨#[]⟩))⟩)->∀e∈foldE lf v K E ls,I e
 |[],_,h,_=>h
 | l::ls,E,h,hl=>by
   refine gh q ls ?_ λx hx=>hl x (by simp[hx])
   rcases fj (lf:=lf) (v:=v) (K:=K) E l with e|e<;>rw[e]
   .exact h
   .intro x hx;have j:=hl l Vj;obtain⟨t,xv,xg⟩:=x;have d:t=jnt xv\/⟨t,xv,xg⟩∈E:=by
     rcases eR E (iD K l.1) (l.2.mul (lf (l.1.v.getD v.toNat ⟨#[]⟩)))with⟨i,hi,_,e2,_⟩|⟨_,e2,_⟩<;>rw[e2]at hx
     .rcases List.mem_or_eq_of_mem_set hx with hx|hx
      .exact .inr hx
      .cases hx;exact .inl O
     .rcases Rx.1 hx with hx|hx
      .exact .inr hx
      .simp at hx;obtain⟨rfl,rfl,rfl⟩:=hx;exact .inl O
    rcases I9 hx with hx|⟨rfl,rfl|⟨y,hy,_,rfl⟩⟩
    .exact h _ hx
    .rcases d with rfl|d
     .exact j
     .exact h _ d
    .exact q _ y j (h y hy) t
theorem uH{f:Gv->Nat}(d:Msr f)(j:∀t,f (lf t)=1):∀(ls:List (Ch×Gv))(E:List En),iE f (foldE lf v K E ls)<=iE f E+(ls.map λl=>f l.2).sum
 |[],E=>by simp[foldE]
 | l::ls,E=>by
   have:=uH d j ls (stepE lf v K E l);have e:iE f (stepE lf v K E l)<=iE f E+f l.2:=by
    rcases fj (lf:=lf) (v:=v) (K:=K) E l with e|e<;>rw[e]
    .omega
    .rw[sq d,d.mul,j,R6];exact BY _
   simp only[bP,Se];show iE f (foldE lf v K (stepE lf v K E l) ls)<=_;omega
theorem yW{f:Gv->Nat}(d:Msr f):∀(ls:List (Ch×Gv))(E:List En),iE f E<=iE f (foldE lf v K E ls)
 |[],E=>BY _
 | l::ls,E=>by
   refine IT ?_ (yW d ls (stepE lf v K E l));rcases fj (lf:=lf) (v:=v) (K:=K) E l with e|e<;>rw[e]
   .exact BY _
   .rw[sq d];omega
theorem uD{f:Gv->Nat}(d:Msr f)(l:∀t,f (lf t)=1)(q:f (Gv.whole 1)=1)(n:Nat)(ps:List Prt):iE f (viewE lf n v K ps)<=bL (ps.map (Prt.tot f)):=by
 have s:=uH (lf:=lf) (v:=v) (K:=K) d l (leaves ps (ch0 n) (Gv.whole 1)) [];have j:=A9 d (ps:=ps) (x:=ch0 n) (g:=Gv.whole 1);rw[q,Nat.one_mul]at j;have z:iE f []=0:=rfl;unfold viewE;omega
end
theorem KF:∀(v:List ByteArray)(M:Nat),(∀t∈v,t.size<=M)->(Lib.join (v.map (·.data.toList)) [0]).length<=v.length*(M+1)
 |[],M,_=>by simp[Lib.join]
 | x::r,M,h=>by
   rw[bP,Lib.join_cons,IS];have h1:x.data.toList.length<=M:=by rw[RE];exact h x Vj
   have j:∀r:List ByteArray,(∀t∈r,t.size<=M)->(Lib.joinTail [0] (r.map (·.data.toList))).length<=r.length*(M+1):=λr=>by
    induction r with
    |nil=>intro _;simp[Lib.joinTail]
    | cons y r ih=>
      intro hy;have d:=ih λt ht=>hy t (by simp[ht])
      have l:y.data.toList.length<=M:=by rw[RE];exact hy y Vj
      simp only[Lib.joinTail,bP,List.flatten_cons,IS,RD,Rk,Tx]at d ⊢;rw[Va];omega
   have d:=j r λt ht=>h t (by simp[ht])
   rw[Rk,Va];omega
theorem Ny{E:List En}(h:∀e∈E,1<=e.g.n):E.length<=iE Gv.n E:=by
 induction E with
 |nil=>exact cd _
 | cons e E ih=>
   have j:=h e Vj;have d:=ih λx hx=>h x (by simp[hx])
   simp only[iE,bP,Se,Rk]at d ⊢;omega
theorem w6{f:Gv->Nat}{E:List En}{e:En}(h:e∈E):f e.g<=iE f E:=by
 induction E with
 |nil=>simp at h
 | cons x E ih=>
   simp only[iE,bP,Se];rcases AS.1 h with rfl|h
   .omega
   .have:=ih h;simp only[iE]at this;omega
end Vw
end
section
open Mk Jn
set_option autoImplicit false

def Zf(x:ByteArray):Prop:=(0:UInt8)∉x.data.toList


end
section
open Mk Jn
theorem Agr.Ou{n:Nat}{ops:Array Oper}{σ τ:St}{s:OS}{rd:List Nat}{y:Operand}{xs:Array Operand}{ts:Array TypeId}{dst:Option Tmp}{ty:TypeId}{pos:String}{after:Array Edge}{gd:Option (Nat×Bool)}
  (h:Agr n ops ⟨dst,.call { callee:= .value y,args:=xs,argTypes:=ts },ty,pos,after,gd⟩ σ τ s rd):xs.toList.map (τ.ev n)=xs.toList.map (σ.ev n):=by
 apply Sd;intro x hx;obtain⟨i,hi⟩:=SU hx;exact h.e (i+1) x (by simpa[Op.operands,Call.operands,UL]using hi)

abbrev aW(ll:List (List Int)):PV:= .sl Sl ll.length (ll.map aj)
theorem dx{ll:List (List Int)}{k:Nat}(h:k<ll.length):(ll.map aj)[k*1]? =Sh (aj ll[k]):=by simp[h]
theorem dz{ll:List (List Int)}{k:Nat}(h:k<ll.length):ll.map aj≠[]:=λe=>by have:=ag List.length e;simp at this;rw[this]at h;simp at h
structure VD where
 chs:List (List Int)
 kes:List (List Int)
 hos:List (List Int)
 wa:List Int
section
theorem w8(S:Sch)(P:List Int)(v:Int):(cE S P v).length<=P.length:=by
 unfold cE Ks;rw[(jG _).length_eq];exact IT (Te ..) (sk P v)
end
end
end Go.Proofs.YtoplpepiabedhaaGreatDoor
