/- Lemmas. No condition. -/
import Derived.Deep.Slices
import Derived.ChangeArms
import Derived.OpenShut
import Derived.Test.YtoplpepiabedhaaGreatDoorJB14
set_option maxRecDepth 100000
set_option maxHeartbeats 4000000
open Go.RowKit Go.Proofs.Tryz
namespace Go.Proofs.YtoplpepiabedhaaGreatDoor
section
open Go.RowKit Go.ChangeShapes Go.WideShapes Go.Deep
def OpT(P:Program)(t:TypeId){α:Type}(f:α->List PV)(I:α->Prop):Prop:=
 ∀(H:Type)(enc:TypeId×Value->H)(w:World)(base:Nat)(spare:Nat->Bool)(held:Bool)(fuel:Nat)(cs:List Value)(x:DataW H×List MemPlace),
  DataW.trod enc P w base spare held fuel t cs=some x->∃a,I a/\RelPL w (fun b=>b<w.heap.size) (f a) cs
section
variable {P:Program}{t:TypeId}
theorem OpT.map{α β:Type}{f:α->List PV}{I:α->Prop}{f':β->List PV}{I':β->Prop}(h:OpT P t f I)(g:α->β)(hf:∀a,f' (g a)=f a)(hI:∀a,I a->I' (g a)):OpT P t f' I':=
 fun H enc w base spare held fuel cs x hx=>by
  obtain⟨a,ha,hr⟩:=h H enc w base spare held fuel cs x hx;exact⟨g a,hI a ha,by rw[hf];exact hr⟩
theorem RelPL.one{w:World}{R:Nat->Prop}{p:PV}{u:Value}(h:RelP w R p u):RelPL w R [p] [u]:=RelPL.cons h RelPL.nil
theorem OpT.int(ht:P.underlying t=some (.int .i64)):OpT P t (fun n:Int=>[.int .i64 n]) (fun n=> -9223372036854775808<=n/\n<=9223372036854775807):=
 fun H enc w base spare held fuel cs x hx=>by
  obtain⟨n,rfl,_,hw⟩:=DataW.trod_int ht hx;exact⟨n,bounds_i64 hw,RelPL.one (by simp only[RelP])⟩
theorem O6{w:World}{R:Nat->Prop}{α:Type}{f:α->List PV}:∀{n:Nat}{A:Nat->α}{us:Nat->List Value},(∀i,i<n->RelPL w R (f (A i)) (us i))->RelPL w R (((List.range n).map A).flatMap f) ((List.range n).flatMap us):=by
 intro n A us h;induction n with
 |zero=>simpa using RelPL.nil
 | succ n ih=>
   rw[SL,PD,PS,PS];refine RelPL.append (ih fun i hi=>h i Ts) ?_;simpa using h n Ts
theorem O5{c:Nat}{us:Nat->List Value}:∀{n:Nat},(∀i,i<n->(us i).length=c)->((List.range n).flatMap us).length=n*c/\∀i j,i<n->j<c->((List.range n).flatMap us)[i*c+j]? =(us i)[j]? :=by
 intro n h;induction n with
 |zero=>exact⟨Tw,fun i j hi=>absurd hi Ts⟩
 | succ n ih=>
   obtain⟨h1,h2⟩:=ih fun i hi=>h i Ts
   rw[SL,PS];refine⟨by rw[Ph,h1,List.flatMap_singleton,h n Ts,Tn],fun i j hi hj=>?_⟩;by_cases e:i<n
   ·rw[List.getElem?_append_left (by rw[h1];calc i*c+j<i*c+c:=Ts
     _=(i+1)*c:=by rw[Tn]
     _<=n*c:=Qs c e)]
    exact h2 i j e hj
   ·obtain rfl:i=n:=Ts;rw[List.getElem?_append_right (by rw[h1];omega),h1,List.flatMap_singleton,show i*c+j-i*c=j by omega]
theorem OpT.sl{e:TypeId}{α:Type}{f:α->List PV}{I:α->Prop}(c:Nat)[Inhabited α](ht:P.underlying t=some (.slice e))(hc:P.cellsOf e=c)(h:OpT P e f I):
  OpT P t (fun l:List α=>[.sl none l.length (l.flatMap f)]) (fun l=>l.length<=maxLen/\∀a∈l,I a):=
 fun H enc w base spare held fuel cs x hx=>by
  rcases open_slice ht hx with⟨rfl,rfl⟩|⟨a,len,cap,m,n,D,Pl,rfl,hb,hl,hm,hmm,hxe,hel⟩
  ·refine⟨[],⟨Tw,Tw⟩,RelPL.one ?_⟩;simp only[RelP];exact⟨none,0,O,BY _,by simp[maxLen],(fun _ e=>by cases e),(fun e=>by cases e),fun e=>absurd rfl e⟩
  ·have hlm:len<=m:=by rw[hmm];split<;>omega
   rw[hc]at hel;have hx2:∀i,i<len->∃p:α×List Value,I p.1/\RelPL w (fun b=>b<w.heap.size) (f p.1) p.2/\p.2.length=c/\∀j,j<c->w.cell? (a.add (i*c+j))=p.2[j]? :=fun i hi=>by
    obtain⟨cs',h1,h2⟩:=hel i Ts;obtain⟨y,hy,hr⟩:=h H enc w base spare held n cs' _ h2;obtain⟨_,h3,h4⟩:=World.cells?_some h1;exact⟨(y,cs'),hy,hr,h3,fun j hj=>by rw[<-add_add];exact h4 j hj⟩
   obtain⟨F,hF⟩:=choose_lt hx2;have hlen:((List.range len).map fun i=>(F i).1).length=len:=Tw;refine⟨(List.range len).map fun i=>(F i).1,⟨by rw[hlen];omega,fun y hy=>?_⟩,RelPL.one ?_⟩
   ·obtain⟨i,hi,rfl⟩:=IT.1 hy;exact(hF i (P0.1 hi)).1
   ·rw[hlen];simp only[RelP];refine⟨some a,cap,O,hl,hm,(fun _ e=>by cases e),(fun e=>by cases e),fun hne=>?_⟩;have hrel:=O6 (w:=w) (R:=fun b=>b<w.heap.size) (f:=f) (A:=fun i=>(F i).1) (us:=fun i=>(F i).2) fun i hi=>(hF i hi).2.1
    obtain⟨hL,hat⟩:=O5 (us:=fun i=>(F i).2) (c:=c) (n:=len) fun i hi=>(hF i hi).2.2.1
    generalize hU:(List.range len).flatMap (fun i=>(F i).2)=U at hrel hL hat
    have hpos:0<len*c:=by
     rw[<-hL,RelPL.length hrel];exact Qe.2 hne
    have hlen0:0<len:=Nat.pos_of_mul_pos_right hpos;have hc0:0<c:=Nat.pos_of_mul_pos_left hpos;have hcell:∀k,k<len*c->w.cell? (a.add k)=U[k]? :=fun k hk=>by
     have e:k=k/c*c+k%c:=by rw[Q4];exact(Nat.div_add_mod k c).symm
     have h1:k/c<len:=Nat.div_lt_of_lt_mul (by rw[Q4];exact hk);have h2:k%c<c:=Rb _ hc0;rw[e,hat _ _ h1 h2];exact(hF _ h1).2.2.2 _ h2
    have h0:=hcell 0 hpos;rw[By Ts]at h0;obtain⟨b,off,sp⟩:=a;have hsp:sp=none:=by
     cases sp with
     |none=>rfl
     | some s=>
       exfalso;have e:(⟨b,off,some s⟩:Addr).add 0=⟨b,off,some s⟩:=rfl;rw[e]at h0;unfold World.cell? at h0;split at h0
       ·simp at h0
       ·cases h0
    subst hsp;rw[Addr.add_lit]at h0;refine⟨b,off,U,O,hrel,World.block_lt_of_cell? w _ h0,fun j hj=>?_⟩;have:=hcell j Ts;rw[Addr.add_lit]at this;exact this
end

theorem OpT.one{P:Program}{t:TypeId}{H:Type}{enc:TypeId×Value->H}{w:World}{base:Nat}{spare:Nat->Bool}{held:Bool}{v:Value}{d:DataW H}{ps:List MemPlace}{α:Type}{p:α->PV}{I:α->Prop}(ho:OpT P t (fun a=>[p a]) I)(hv:v.cells=#[v])(h:DataW.Trod enc P w base spare held t v d ps):∃a,I a/\RelP w (fun b=>b<w.heap.size) (p a) v:=by
 obtain⟨fuel,hf⟩:=h
 obtain⟨a,ha,hr⟩:=ho _ _ _ _ _ _ _ _ _ hf
 refine⟨a,ha,?_⟩
 rw[hv]at hr
 simp only[RelPL]at hr
 obtain⟨u,vs,e,h1,_⟩:=hr
 simp at e
 rw[e.1];exact h1
end
theorem O8:OpT prog 3 (fun n:Int=>[.int .i64 n]) (fun n=> -9223372036854775808<=n/\n<=9223372036854775807):=OpT.int underlying3
theorem O7:OpT prog 22 (fun l:List Int=>[ai l]) (fun l=>l.length<=9223372036854775807):=
 (OpT.sl 1 underlying22 Tt O8).map id (fun l=>by
  show [PV.sl none l.length (aF l)]=[PV.sl none l.length (l.flatMap fun n=>[PV.int .i64 n])]
  congr 2
  induction l with
  |nil=>rfl
  |cons x l ih=>simp[<-ih]) (fun l h=>h.1)
end Go.Proofs.YtoplpepiabedhaaGreatDoor
