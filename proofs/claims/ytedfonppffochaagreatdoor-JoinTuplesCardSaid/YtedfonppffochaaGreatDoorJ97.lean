/- Lemmas. No condition. -/
import Derived.Shelf.SlSortCmp.NoneTotal
import Derived.Ground.SlsfProg
import Derived.Ground.NamesProg
import Derived.Test.YtedfonppffochaaGreatDoorProg
import Derived.Test.YtedfonppffochaaGreatDoorJ96
set_option maxRecDepth 100000
set_option maxHeartbeats 4000000
open Go.RowKit Go.Proofs.Tryz
namespace Go.Proofs.YtedfonppffochaaGreatDoor
section
inductive Path (adj:Nat->Nat->Prop) (ok:Nat->Prop) (a:Nat):Nat->Prop
 | refl:Path adj ok a a
 | step {b c:Nat}:Path adj ok a b->adj b c->ok c->Path adj ok a c
section
variable {adj:Nat->Nat->Prop} {ok ok':Nat->Prop}
theorem Path.trans {a b c:Nat} (h1:Path adj ok a b) (h2:Path adj ok b c):Path adj ok a c:=by
 induction h2 with
 | refl=>exact h1
 | step _ h3 h4 ih=>exact .step ih h3 h4
theorem Path.one {a b:Nat} (h:adj a b) (hb:ok b):Path adj ok a b:= .step .refl h hb
theorem Path.mono {a b:Nat} (h:Path adj ok a b) (hm:∀ c,ok c->ok' c):Path adj ok' a b:=by
 induction h with
 | refl=>exact .refl
 | step _ h3 h4 ih=>exact .step ih h3 (hm _ h4)
theorem Path.fin {a b:Nat} (h:Path adj ok a b) (ha:ok a):ok b:=by
 cases h with
 | refl=>exact ha
 | step _ _ h=>exact h
theorem Path.symm (hs:∀ a b,adj a b->adj b a) {a b:Nat} (h:Path adj ok a b) (ha:ok a):Path adj ok b a:=by
 induction h with
 | refl=>exact .refl
 | step h1 h3 h4 ih=>exact (Path.one (hs _ _ h3) (h1.fin ha)).trans ih
theorem Path.stay {inn:Nat->Prop} {a b:Nat} (h:Path adj ok a b) (ha:inn a) (hc:∀ x y,inn x->adj x y->ok y->inn y):Path adj (fun c=>ok c/\inn c) a b/\inn b:=by
 induction h with
 | refl=>exact ⟨.refl,ha⟩
 | step _ h3 h4 ih=>exact ⟨.step ih.1 h3 ⟨h4,hc _ _ ih.2 h3 h4⟩,hc _ _ ih.2 h3 h4⟩
end
def Anc (adj:Nat->Nat->Prop) (pos:Nat->Nat) (a b:Nat):Prop:=pos a<pos b/\Path adj (fun c=>pos a<=pos c) a b
section
variable {adj:Nat->Nat->Prop} {pos:Nat->Nat} (hs:∀ a b,adj a b->adj b a)
theorem Anc.trans {a b c:Nat} (h1:Anc adj pos a b) (h2:Anc adj pos b c):Anc adj pos a c:=by
 have h3:=h1.1;exact ⟨Nat.lt_trans h1.1 h2.1,h1.2.trans (h2.2.mono fun d hd=>by omega)⟩
include hs in
end
structure IsOrd (n:Nat) (adj:Nat->Nat->Prop) (pos:Nat->Nat) (P:List Int):Prop where
 len:P.length=n
 par:∀ b,b<n->(P.getD b 0= -1/\∀ a,a<n->¬ Anc adj pos a b)\/(∃ a:Nat,a<n/\P.getD b 0=(a:Int)/\Anc adj pos a b/\∀ a',a'<n->Anc adj pos a' b->a'=a\/Anc adj pos a' a)
section
variable {n:Nat} {adj:Nat->Nat->Prop} {pos:Nat->Nat} {P:List Int}
theorem IsOrd.upF (h:IsOrd n adj pos P):∀ (m b k:Nat),b<n->pos b<=m->pos b<=k->(upF P k (P.getD b 0)).isSome=true:=by
 intro m;induction m with
 | zero=>
   intro b k hb hm hk;rcases h.par b hb with ⟨h1,_⟩ | ⟨a,ha,h1,h2,_⟩
   ·rw [h1,sW Pq];rfl
   ·have:=h2.1;omega
 | succ m ih=>
   intro b k hb hm hk;rcases h.par b hb with ⟨h1,_⟩ | ⟨a,ha,h1,h2,_⟩
   ·rw [h1,sW Pq];rfl
   ·have:=h2.1;obtain ⟨k',rfl⟩:∃ k',k=k'+1:=⟨k-1,Po⟩;rw [h1,ym (by rw [h.len];exact ha),Option.isSome_map];have:=ih a k' ha Po Po;rwa [getD_eq (by rw [h.len];exact ha)] at this
theorem IsOrd.dP (h:IsOrd n adj pos P) (hp:∀ b,b<n->pos b<n):UpOk P:=by
 refine ⟨fun p hp=>?_,fun v hv=>?_⟩
 ·obtain ⟨b,hb,e⟩:=MK hp;rw [<-getD_eq hb 0] at e;have hb':b<n:=by rw [<-h.len];exact hb
  have:=h.len;rcases h.par b hb' with ⟨h1,_⟩ | ⟨a,ha,h1,_,_⟩<;>omega
 ·have hv':v<n:=by rw [<-h.len];exact hv
  have:=h.upF (pos v) v P.length hv' (xV _) (by rw [h.len];exact Pb (hp v hv'));rwa [uR hv,<-getD_eq hv 0]
theorem IsOrd.mem (h:IsOrd n adj pos P) (hp:∀ b,b<n->pos b<n):∀ b,b<P.length->∀ a:Nat,(a:Int)∈bp P b↔a<n/\Anc adj pos a b:=by
 have hl:=h.len;refine pt (h.dP hp) (fun v hv hr e a=>?_) (fun v hv p hpl hr e ih a=>?_)
 ·rw [e];rcases h.par v Po with ⟨_,h2⟩ | ⟨c,hc,h1,_,_⟩
  ·exact ⟨fun hh=>absurd hh NC,fun hh=>absurd hh.2 (h2 a hh.1)⟩
  ·rw [getD_eq hv,hr] at h1;omega
 ·rw [e,sh,ih a];rcases h.par v Po with ⟨h1,_⟩ | ⟨c,hc,h1,h2,h3⟩
  ·rw [getD_eq hv,hr] at h1;omega
  ·rw [getD_eq hv,hr] at h1;have:c=p:=Po;subst this;constructor
   ·rintro (h4 | h4)
    ·have:a=c:=Po;subst this;exact ⟨hc,h2⟩
    ·exact ⟨h4.1,h4.2.trans h2⟩
   ·rintro ⟨h4,h5⟩;rcases h3 a h4 h5 with rfl | h6
    ·exact .inl O
    ·exact .inr ⟨h4,h6⟩
end
def Ex (S:Sch) (a b:Nat):Prop:=a≠b/\eS S a b=true
theorem kL {S:Sch} {a b:Int} (h:eS S a b=true):eS S b a=true:=by
 unfold eS at h ⊢;obtain ⟨r,hr,h2⟩:=My.1 h;rw [My];exact ⟨r,hr,by rw [Bool.and_comm];exact h2⟩
theorem kq (S:Sch):∀ a b,Ex S a b->Ex S b a:=fun _ _ h=>⟨fun e=>h.1 e.symm,kL h.2⟩
def jM (q:List Int) (a:Nat):Nat:=q.idxOf (a:Int)
theorem ES {n:Nat} {q:List Int} (hq:q.Perm (upZ n)) {a:Nat} (ha:a<n):jM q a<n:=by
 have:q.idxOf (a:Int)<q.length:=NH (hq.mem_iff.2 (bx.2 ⟨a,ha,O⟩));rwa [hq.length_eq,a8] at this
theorem nq {n:Nat} {q:List Int} (hq:q.Perm (upZ n)) {a b:Nat} (ha:a<n) (h:jM q a=jM q b):a=b:=by
 have h1:q.idxOf (a:Int)<q.length:=NH (hq.mem_iff.2 (bx.2 ⟨a,ha,O⟩));have h2:q.idxOf (b:Int)<q.length:=by unfold jM at h;rw [<-h];exact h1
 have e1:q[q.idxOf (a:Int)]=(a:Int):=List.getElem_idxOf h1;have e2:q[q.idxOf (b:Int)]=(b:Int):=List.getElem_idxOf h2;have e3:q[q.idxOf (a:Int)]=q[q.idxOf (b:Int)]:=by unfold jM at h;congr 1
 rw [e1,e2] at e3;omega
theorem IsOrd.ok {S:Sch} (hV:Valid S) {q:List Int} (hq:q.Perm (upZ S.attrs.length)) {P:List Int} (h:IsOrd S.attrs.length (Ex S) (jM q) P):OrdOk S P:=by
 have hp:∀ b,b<S.attrs.length->jM q b<S.attrs.length:=fun b hb=>ES hq hb
 have hu:=h.dP hp;refine ⟨hV,h.len,hu.rng,hu.up,fun r hr=>?_⟩;unfold mu;rw [uv];intro a ha;rw [uv];intro b hb;obtain ⟨x,hx⟩:=so (hV.rng r hr a ha).1;obtain ⟨y,hy⟩:=so (hV.rng r hr b hb).1;have hxl:x<S.attrs.length:=by have:=(hV.rng r hr a ha).2;omega
 have hyl:y<S.attrs.length:=by have:=(hV.rng r hr b hb).2;omega
 by_cases e:a=b
 ·simp [e]
 ·have hxy:x≠y:=Po;have hadj:Ex S x y:=⟨hxy,by rw [<-hx,<-hy];exact AN hr ha hb⟩;have hl:=h.len;rcases Nat.lt_or_gt_of_ne (fun e=>hxy (nq hq hxl e)) with h1 | h1
  ·have:(x:Int)∈bp P y:=(h.mem hp y Po x).2 ⟨hxl,h1,.one hadj (Pb h1)⟩;rw [hx,hy];simp [hiB,this]
  ·have:(y:Int)∈bp P x:=(h.mem hp x Po y).2 ⟨hyl,h1,.one (kq S _ _ hadj) (Pb h1)⟩;rw [hx,hy];simp [hiB,this]
end
section
def eu (G:List B64) (a b:Nat):Prop:=(G.getD a 0#64).getLsbD b=true
theorem ma {G:List B64} {rest:B64} {a b:Nat}:Reach G rest a b↔Path (eu G) (fun c=>rest.getLsbD c=true) a b:=by
 constructor
 ·intro h;induction h with
  | refl=>exact .refl
  | step _ h1 h2 ih=>exact .step ih h1 h2
 ·intro h;induction h with
  | refl=>exact .refl
  | step _ h1 h2 ih=>exact .step ih h1 h2
structure Comp (adj:Nat->Nat->Prop) (rest c:B64):Prop where
 sub:∀ i,c.getLsbD i=true->rest.getLsbD i=true
 clo:∀ i j,c.getLsbD i=true->adj i j->rest.getLsbD j=true->c.getLsbD j=true
 con:∀ i j,c.getLsbD i=true->c.getLsbD j=true->Path adj (fun x=>c.getLsbD x=true) i j
 ne:∃ i,c.getLsbD i=true
structure CompsI (adj:Nat->Nat->Prop) (rest:B64) (k:Nat) (cs:List B64) (R:B64):Prop where
 all:∀ c∈cs,Comp adj rest c
 cov:∀ i,rest.getLsbD i=true↔R.getLsbD i=true\/∃ c∈cs,c.getLsbD i=true
 dis:∀ i,R.getLsbD i=true->∀ c∈cs,¬ c.getLsbD i=true
 pw:cs.Pairwise (fun c d=>∀ i,c.getLsbD i=true->¬ d.getLsbD i=true)
 low:∀ i,i<k->¬ R.getLsbD i=true
theorem fa (x y:B64) (i:Nat):(x&&& ~~~y).getLsbD i=true↔x.getLsbD i=true/\¬ y.getLsbD i=true:=by
 rw [NN,BitVec.getLsbD_not];constructor
 ·intro h;simp at h;exact ⟨h.1,by rw [h.2.2];decide⟩
 ·rintro ⟨h1,h2⟩;have:=cq h1;have h3:y.getLsbD i=false:=by simpa using h2
  rw [h1,h3,IS this];rfl
theorem kT (G:List B64) (rest:B64) (hs:∀ a b,eu G a b->eu G b a):∀ k,CompsI (eu G) rest k (compsN G rest k).1 (compsN G rest k).2
 | 0=>⟨by simp [compsN],by simp [compsN],by simp [compsN],by simp [compsN],by intro i h;omega⟩
 | k+1=>by
   have h:=kT G rest hs k;simp only [compsN];generalize compsN G rest k=cr at*;obtain ⟨cs,R⟩:=cr;simp only at h ⊢;by_cases hk:R.getLsbD k=true
   ·rw [qY hk];have hcR:∀ i,(compB G R k).getLsbD i=true->R.getLsbD i=true:=fun i hi=>kr hk hi
    have hkc:(compB G R k).getLsbD k=true:=(eH (cq hk)).2 .refl;have hclR:∀ i j,(compB G R k).getLsbD i=true->eu G i j->R.getLsbD j=true->(compB G R k).getLsbD j=true:=fun i j h1 h2 h3=>
     (eH (cq h3)).2 (.step (dG h1) h2 h3)
    have hC:Comp (eu G) rest (compB G R k):=by
     refine ⟨fun i hi=>(h.cov i).2 (.inl (hcR i hi)),fun i j h1 h2 h3=>?_,?_,⟨k,hkc⟩⟩
     ·rcases (h.cov j).1 h3 with h4 | ⟨d,hd,h4⟩
      ·exact hclR i j h1 h2 h4
      ·exact absurd ((h.all d hd).clo j i h4 (hs i j h2) ((h.cov i).2 (.inl (hcR i h1)))) (h.dis i (hcR i h1) d hd)
     ·have one:∀ i,(compB G R k).getLsbD i=true->Path (eu G) (fun x=>(compB G R k).getLsbD x=true) k i:=fun i hi=>
       ((ma.1 (dG hi)).stay (inn:=fun x=>(compB G R k).getLsbD x=true) hkc hclR).1.mono fun c hc=>hc.2
      exact fun i j hi hj=>((one i hi).symm hs hkc).trans (one j hj)
    refine ⟨fun c hc=>?_,fun i=>?_,fun i hi c hc=>?_,?_,fun i hi hR=>?_⟩
    ·rcases Mc.1 hc with hc | hc
     ·exact h.all c hc
     ·rw [o7.1 hc];exact hC
    ·rw [h.cov i,fa];constructor
     ·rintro (h1 | ⟨c,hc,h1⟩)
      ·by_cases h2:(compB G R k).getLsbD i=true
       ·exact .inr ⟨_,N9 _ (o7.2 O),h2⟩
       ·exact .inl ⟨h1,h2⟩
      ·exact .inr ⟨c,Oh _ hc,h1⟩
     ·rintro (h1 | ⟨c,hc,h1⟩)
      ·exact .inl h1.1
      ·rcases Mc.1 hc with hc | hc
       ·exact .inr ⟨c,hc,h1⟩
       ·rw [o7.1 hc] at h1;exact .inl (hcR i h1)
    ·rw [fa] at hi;rcases Mc.1 hc with hc | hc
     ·exact h.dis i hi.1 c hc
     ·rw [o7.1 hc];exact hi.2
    ·rw [OY];refine ⟨h.pw,Ps,fun c hc d hd i h1 h2=>?_⟩;rw [o7.1 hd] at h2;exact h.dis i (hcR i h2) c hc h1
    ·rw [fa] at hR;by_cases e:i=k
     ·subst e;exact hR.2 hkc
     ·exact h.low i Po hR.1
   ·rw [kH hk];refine ⟨h.all,h.cov,h.dis,h.pw,fun i hi=>?_⟩;by_cases e:i=k
    ·subst e;exact hk
    ·exact h.low i Po
def xh (adj:Nat->Nat->Prop) (pos:Nat->Nat) (rest:B64) (a b:Nat):Prop:=
 rest.getLsbD a=true/\rest.getLsbD b=true/\pos a<pos b/\Path adj (fun c=>rest.getLsbD c=true/\pos a<=pos c) a b
def DT (adj:Nat->Nat->Prop) (pos:Nat->Nat) (rest:B64) (par:Int) (b:Nat) (x:Int):Prop:=
 (x=par/\∀ a,¬ xh adj pos rest a b)\/∃ a:Nat,x=(a:Int)/\xh adj pos rest a b/\∀ a',xh adj pos rest a' b->a'=a\/xh adj pos rest a' a
theorem BR {n:Nat} {q:List Int} (hq:q.Perm (upZ n)) {c:B64} (hc:∀ i,c.getLsbD i=true->i<n) (hne:∃ i,c.getLsbD i=true):
  ∃ a:Nat,a<n/\q.find? (fun x=>c.getLsbD x.toNat)=some (a:Int)/\c.getLsbD a=true/\∀ i,c.getLsbD i=true->jM q a<=jM q i:=by
 cases hf:q.find? (fun x=>c.getLsbD x.toNat) with
 | none=>
   obtain ⟨i,hi⟩:=hne;have:=List.find?_eq_none.1 hf (i:Int) (hq.mem_iff.2 (bx.2 ⟨i,hc i hi,O⟩));simp at this;rw [hi] at this;cases this
 | some x=>
   obtain ⟨h1,us,vs,h2,h3⟩:=List.find?_eq_some_iff_append.1 hf;have hxm:x∈q:=by rw [h2];simp
   obtain ⟨a,ha,rfl⟩:=bx.1 (hq.mem_iff.1 hxm);have h1':c.getLsbD a=true:=by simpa using h1
   refine ⟨a,ha,O,h1',fun i hi=>?_⟩;have no:∀ j:Nat,c.getLsbD j=true->(j:Int)∉us:=fun j hj hm=>by
    have:=h3 _ hm;simp at this;rw [hj] at this;cases this
   unfold jM;rw [h2,List.idxOf_append,List.idxOf_append,kH (no a h1'),kH (no i hi)];simp
section
variable {n:Nat} {G:List B64} {q:List Int} (hG:G.length=n) (hs:∀ a b,eu G a b->eu G b a) (hq:q.Perm (upZ n))
theorem xh.sub {adj:Nat->Nat->Prop} {pos:Nat->Nat} {r r':B64} (h:∀ i,r.getLsbD i=true->r'.getLsbD i=true) {a b:Nat} (k:xh adj pos r a b):xh adj pos r' a b:=
 ⟨h _ k.1,h _ k.2.1,k.2.2.1,k.2.2.2.mono fun c hc=>⟨h _ hc.1,hc.2⟩⟩
include hs hq in
theorem tu {f:Nat} (IH:∀ rest par P,cC rest<=f->(∀ i,rest.getLsbD i=true->i<n)->P.length=n->∀ b,b<n->(rest.getLsbD b=false->(placeF G q f rest par P).getD b 0=P.getD b 0)/\(rest.getLsbD b=true->DT (eu G) (jM q) rest par b ((placeF G q f rest par P).getD b 0)))
  {rest c:B64} (hc:Comp (eu G) rest c) (hpop:∀ a,c.getLsbD a=true->cC (c&&& ~~~(BitVec.twoPow 64 a))<=f) (hr:∀ i,rest.getLsbD i=true->i<n) (par:Int) (P:List Int) (hP:P.length=n) (b:Nat) (hb:b<n):
  (c.getLsbD b=false->(dd q (placeF G q f) par P c).getD b 0=P.getD b 0)/\(c.getLsbD b=true->DT (eu G) (jM q) rest par b ((dd q (placeF G q f) par P c).getD b 0)):=by
 obtain ⟨a,ha,hfind,hca,hmin⟩:=BR hq (fun i hi=>hr i (hc.sub i hi)) hc.ne;have e:dd q (placeF G q f) par P c=placeF G q f (c&&& ~~~(BitVec.twoPow 64 a)) a (P.set a par):=by unfold dd;rw [hfind];rfl
 rw [e];have hbit:∀ i,(c&&& ~~~(BitVec.twoPow 64 a)).getLsbD i=true↔c.getLsbD i=true/\a≠i:=fun i=>by rw [bA,cH,Ms]
 have hih:=IH (c&&& ~~~(BitVec.twoPow 64 a)) a (P.set a par) (hpop a hca) (fun i hi=>hr i (hc.sub i ((hbit i).1 hi).1)) (by simp [hP]) b hb;have stay:∀ a' b',xh (eu G) (jM q) rest a' b'->c.getLsbD b'=true->c.getLsbD a'=true:=by
  intro a' b' h1 h2;have hpath:=(h1.2.2.2.symm hs ⟨h1.1,xV _⟩);exact (hpath.stay (inn:=fun x=>c.getLsbD x=true) h2 (fun x y hx hxy hy=>hc.clo x y hx hxy hy.1)).2
 have inside:∀ a' b',xh (eu G) (jM q) rest a' b'->c.getLsbD b'=true->a'≠a->xh (eu G) (jM q) (c&&& ~~~(BitVec.twoPow 64 a)) a' b':=by
  intro a' b' h1 h2 h3;have hca':=stay a' b' h1 h2;have hpa:jM q a<jM q a':=Nat.lt_of_le_of_ne (hmin a' hca') (fun e=>h3 (nq hq ha e).symm);have hpb:=h1.2.2.1;refine ⟨(hbit a').2 ⟨hca',fun e=>h3 e.symm⟩,(hbit b').2 ⟨h2,fun e=>by subst e;omega⟩,h1.2.2.1,?_⟩;refine ((h1.2.2.2.stay (inn:=fun x=>c.getLsbD x=true) hca' (fun x y hx hxy hy=>hc.clo x y hx hxy hy.1)).1.mono fun x hx=>?_);exact ⟨(hbit x).2 ⟨hx.2,fun e=>by have:=hx.1.2;subst e;omega⟩,hx.1.2⟩
 have root:∀ b',c.getLsbD b'=true->a≠b'->xh (eu G) (jM q) rest a b':=fun b' h1 h2=>
  ⟨hc.sub a hca,hc.sub b' h1,Nat.lt_of_le_of_ne (hmin b' h1) (fun e=>h2 (nq hq ha e)),(hc.con a b' hca h1).mono fun x hx=>⟨hc.sub x hx,hmin x hx⟩⟩
 have hsub:∀ i,(c&&& ~~~(BitVec.twoPow 64 a)).getLsbD i=true->rest.getLsbD i=true:=fun i hi=>hc.sub i ((hbit i).1 hi).1
 constructor
 ·intro hcb;have hab:a≠b:=fun e=>by subst e;rw [hca] at hcb;cases hcb
  have h1:(c&&& ~~~(BitVec.twoPow 64 a)).getLsbD b=false:=by
   cases h2:(c&&& ~~~(BitVec.twoPow 64 a)).getLsbD b with
   | false=>rfl
   | true=>rw [((hbit b).1 h2).1] at hcb;cases hcb
  rw [hih.1 h1,List.getD,List.getD,NU hab]
 ·intro hcb;by_cases hab:a=b
  ·subst hab;have h1:(c&&& ~~~(BitVec.twoPow 64 a)).getLsbD a=false:=by rw [bA];simp
   left
   refine ⟨by rw [hih.1 h1,List.getD];simp [hP,ha],fun a' h2=>?_⟩;have h3:=stay a' a h2 hca;have:=hmin a' h3;have:=h2.2.2.1;omega
  ·have h1:(c&&& ~~~(BitVec.twoPow 64 a)).getLsbD b=true:=(hbit b).2 ⟨hcb,hab⟩;right
   rcases hih.2 h1 with ⟨h2,h3⟩ | ⟨d,h2,h3,h4⟩
   ·refine ⟨a,h2,root b hcb hab,fun a' h5=>?_⟩;by_cases e2:a'=a
    ·exact .inl e2
    ·exact absurd (inside a' b h5 hcb e2) (h3 a')
   ·refine ⟨d,h2,h3.sub hsub,fun a' h5=>?_⟩;have hd:=(hbit d).1 h3.1;by_cases e2:a'=a
    ·right;rw [e2];exact root d hd.1 hd.2
    ·rcases h4 a' (inside a' b h5 hcb e2) with h6 | h6
     ·exact .inl h6
     ·exact .inr (h6.sub hsub)
include hG hs hq in
theorem vI:∀ (f:Nat) (rest:B64) (par:Int) (P:List Int),cC rest<=f->(∀ i,rest.getLsbD i=true->i<n)->P.length=n->∀ b,b<n->(rest.getLsbD b=false->(placeF G q f rest par P).getD b 0=P.getD b 0)/\(rest.getLsbD b=true->DT (eu G) (jM q) rest par b ((placeF G q f rest par P).getD b 0)):=by
 intro f;induction f with
 | zero=>
   intro rest par P hf hr hP b hb;refine ⟨fun _=>rfl,fun h=>?_⟩;rw [oh (Nat.le_zero.1 hf) b] at h;cases h
 | succ f IH=>
   intro rest par P hf hr hP b hb;have hI:=kT G rest hs G.length;have hpop:∀ c∈(compsN G rest G.length).1,∀ a,c.getLsbD a=true->cC (c&&& ~~~(BitVec.twoPow 64 a))<=f:=fun c hc a ha=>by have:=tO hc ha;omega
   have fold:∀ (cs:List B64) (P:List Int),(∀ c∈cs,Comp (eu G) rest c)->(∀ c∈cs,∀ a,c.getLsbD a=true->cC (c&&& ~~~(BitVec.twoPow 64 a))<=f)->cs.Pairwise (fun c d=>∀ i,c.getLsbD i=true->¬ d.getLsbD i=true)->P.length=n->
     ((∀ c∈cs,¬ c.getLsbD b=true)->(cs.foldl (dd q (placeF G q f) par) P).getD b 0=P.getD b 0)/\(∀ c∈cs,c.getLsbD b=true->DT (eu G) (jM q) rest par b ((cs.foldl (dd q (placeF G q f) par) P).getD b 0)):=by
    intro cs;induction cs with
    | nil=>intro P _ _ _ _;exact ⟨fun _=>rfl,fun c hc=>by cases hc⟩
    | cons c cs ih=>
      intro P h1 h2 h3 h4;have hl:(dd q (placeF G q f) par P c).length=n:=by
       unfold dd;split
       ·rw [iv];simp [h4]
       ·exact h4
      have hg:=tu hs hq IH (h1 c (Nw ..)) (h2 c (Nw ..)) hr par P h4 b hb;have hi:=ih (dd q (placeF G q f) par P c) (fun d hd=>h1 d (L7 _ hd)) (fun d hd=>h2 d (L7 _ hd)) (Of.1 h3).2 hl;rw [MG];constructor
      ·intro h5;rw [hi.1 (fun d hd=>h5 d (L7 _ hd))];exact hg.1 (by simpa using h5 c (Nw ..))
      ·intro d hd h5;rcases sh.1 hd with rfl | hd
       ·rw [hi.1 (fun e he=>(Of.1 h3).1 e he b h5)];exact hg.2 h5
       ·exact hi.2 d hd h5
   have hfold:=fold (compsN G rest G.length).1 P hI.all hpop hI.pw hP;simp only [placeF];constructor
   ·intro h1;refine hfold.1 fun c hc h2=>?_
    rw [(hI.all c hc).sub b h2] at h1;cases h1
   ·intro h1;rcases (hI.cov b).1 h1 with h2 | ⟨c,hc,h2⟩
    ·exact absurd h2 (hI.low b Po)
    ·exact hfold.2 c hc h2
include hG hs hq in
theorem GH (hn:n<64) (hadj:∀ a b,eu G a b->b<n):IsOrd n (eu G) (jM q) (ofL G q):=by
 have hall:∀ i,(gI G.length).getLsbD i=true↔i<n:=fun i=>by rw [fB Po,Ms,hG]
 have anc:∀ a b,a<n->b<n->(xh (eu G) (jM q) (gI G.length) a b↔Anc (eu G) (jM q) a b):=by
  intro a b ha hb;constructor
  ·intro h;exact ⟨h.2.2.1,h.2.2.2.mono fun c hc=>hc.2⟩
  ·intro h;refine ⟨(hall a).2 ha,(hall b).2 hb,h.1,?_⟩;exact (h.2.stay (inn:=fun x=>(gI G.length).getLsbD x=true) ((hall a).2 ha) (fun x y _ hxy _=>(hall y).2 (hadj x y hxy))).1.mono fun c hc=>⟨hc.2,hc.1⟩
 refine ⟨by rw [Bf,hG],fun b hb=>?_⟩;have:=(vI hG hs hq 64 (gI G.length) (-1) (List.replicate G.length 0) (jk _) (fun i hi=>(hall i).1 hi) (by simp [hG]) b hb).2 ((hall b).2 hb);rcases this with ⟨h1,h2⟩ | ⟨a,h1,h2,h3⟩
 ·exact .inl ⟨h1,fun a ha h3=>h2 a ((anc a b ha hb).2 h3)⟩
 ·have ha:=(hall a).1 h2.1;refine .inr ⟨a,ha,h1,(anc a b ha hb).1 h2,fun a' ha' h4=>?_⟩;rcases h3 a' ((anc a' b ha' hb).2 h4) with h5 | h5
  ·exact .inl h5
  ·exact .inr ((anc a' a ha' ha).1 h5)
end
theorem BO {S:Sch} (hV:Valid S) (a b:Nat):eu (gr S) a b↔Ex S a b:=by
 unfold eu Ex;by_cases ha:a<S.attrs.length
 ·rw [pC hV ha,cH,Ms]
 ·rw [List.getD,MV (by rw [fR];omega)];constructor
  ·intro h;simp at h
  ·rintro ⟨_,h⟩;have:=(ow hV h).1;omega
theorem A8 {S:Sch} (hV:Valid S):eu (gr S)=Ex S:=by
 funext a b;exact propext (BO hV a b)
theorem C9 {S:Sch} (hV:Valid S) {q:List Int} (hq:q.Perm (upZ S.attrs.length)):IsOrd S.attrs.length (Ex S) (jM q) (ordL S q):=by
 have h1:=A8 hV;have h2:=hV.n2;have:=GH (G:=gr S) (q:=q) (n:=S.attrs.length) (fR S) (by rw [h1];exact kq S) hq Po (by rw [h1];intro a b h;have:=(ow hV h.2).2;omega);rw [h1] at this;exact this
end
section
open Mk
end
section
open Mk
end
section
open Mk
end
section
open Mk
theorem Aa {P:List Int} (hP:UpOk P):(aD P).length=P.length:=by rw [(cf hP).length_eq,a8]
end
theorem Bs {P:Program} {f:FuncId} {args:List PV} {us:List Value} (h:FnP P f args (· = .bool true)) (w:World) (hG:lA w (fun b=>b<w.heap.size)) (hrel:RelPL w (fun b=>b<w.heap.size) args us):
  Calls P f us.toArray w fun e w'=>e= .returned (.bool true)/\Below w.heap.size w w':=
 (h w _ us hG (fun _ hb=>hb) hrel).mono fun _ _ ⟨u,v,e,hv,hb,hr⟩=>by
  subst hv;simp only [RelP] at hr;subst hr;exact ⟨e,hb⟩
section
open Mk
theorem IW {n:Nat}:∀ {l:List Int},l.Pairwise (· < ·)->(∀ a∈l,0<=a/\a<n)->l.length<=n:=by
 intro l hp hr;have hnd:l.Nodup:=hp.imp (fun h e=>by omega);have hsub:∀ a∈l,a∈upZ n:=fun a ha=>by
  obtain ⟨x,hx⟩:=so (hr a ha).1;exact bx.2 ⟨x,by have:=(hr a ha).2;omega,hx⟩
 have:(((upZ n).filter fun a=>decide (a∈l))).Perm l:=cu (Nd Ns (cJ _)) hnd fun a=>by
  rw [L9,Ms];exact ⟨fun h=>h.2,fun h=>⟨hsub a h,h⟩⟩
 rw [<-this.length_eq];exact AT (Mn _ _) (by rw [a8];exact xV _)
theorem Jq (p:UInt8) (i:Nat):(nm p i).size=2:=by
 unfold nm chr;simp [ByteArray.size_append];rfl
theorem JO {S:Sch} {most:Nat} (h:Made S most) (hm:most<=8):SB S:=by
 have h1:=h.a2;have h2:=h.r2;have h3:=IM h.fs;refine ⟨Po,Po,Po,fun x hx=>?_,fun x hx=>?_,fun x hx=>?_⟩
 ·obtain ⟨i,hi,rfl⟩:=MK hx;rw [(h.at' i hi).1,Jq];decide
 ·obtain ⟨i,hi,rfl⟩:=MK hx;rw [(h.rs i hi).1,Jq];decide
 ·obtain ⟨i,hi,rfl⟩:=MK hx;have:=IW (h.rs i hi).2.2.1 (h.rs i hi).2.2.2;omega
section
variable {C:Ctx} {n:Nat} {σ:St} {dst:Option Tmp} {ty:TypeId} {ts:Array TypeId} {pos:String} {after:Array Edge} {gd:Option (Nat×Bool)}
end
end
section
open Mk
end
section
open Mk
end
section
open Mk
end
section
open Mk Jn
theorem jG:∀ (x y:List UInt8),Op.bytesLess x y=decide (x<y)
 | [],[]=>by simp [Op.bytesLess]
 | _::_,[]=>by simp [Op.bytesLess]
 | [],_::_=>by simp [Op.bytesLess]
 | a::x,b::y=>by
   rw [Op.bytesLess,jG x y];simp only [List.cons_lt_cons_iff];by_cases h1:a<b<;>by_cases h2:a=b<;>by_cases h3:x<y<;>simp [h1,h2,h3]
theorem mg (x:ByteArray) (a b:List ByteArray):aZ (x::a) (x::b)=aZ a b:=by
 unfold aZ vZ;rw [Mg,L6,L6,oy,oy,List.cons_lt_cons_iff];simp [List.lt_irrefl]
theorem Dr {x y:ByteArray} (h:x≠y) (a b:List ByteArray):aZ (x::a) (y::b)=Op.bytesLess x.toList y.toList:=by
 unfold aZ vZ;rw [jG,ByteArray.toList_eq,ByteArray.toList_eq,Mg,L6,L6,oy,oy,List.cons_lt_cons_iff];exact ⟨fun k=>k.elim id fun e=>absurd (xu e.1) h,.inl⟩
theorem oD:∀ {i:Nat} {a b:List ByteArray} (ha:i<a.length) (hb:i<b.length),a.take i=b.take i->a[i]≠b[i]->aZ a b=Op.bytesLess a[i].toList b[i].toList
 | 0,x::a,y::b,_,_,_,h=>Dr h a b
 | i+1,x::a,y::b,ha,hb,ht,h=>by
   rw [O7,O7,Oe] at ht;obtain ⟨rfl,ht⟩:=ht;rw [mg];exact oD (by simpa using ha) (by simpa using hb) ht h
theorem gL:∀ {i:Nat} {a b:List ByteArray},i<=a.length->i<=b.length->(i=a.length\/i=b.length)->a.take i=b.take i->aZ a b=decide ((a.length:Int)<b.length)
 | _,[],[],_,_,_,_=>by simp [aZ,vZ]
 | _,[],y::b,_,_,_,_=>by simp [aZ,vZ]
 | _,x::a,[],_,_,_,_=>by simp [aZ,vZ];omega
 | 0,x::a,y::b,_,_,h,_=>by simp at h
 | i+1,x::a,y::b,ha,hb,h,ht=>by
   rw [O7,O7,Oe] at ht;obtain ⟨rfl,ht⟩:=ht;rw [mg,gL (i:=i) (by simpa using ha) (by simpa using hb) (by simpa using h) ht];simp
theorem vV (a b:List ByteArray) (ha:a.length<=1000000) (hb:b.length<=1000000):FnP prog 20 [aI a,aI b] (· = .bool (aZ a b)):=by
 refine FnP.of func20 O ntmps20 Ps fun m0 w0 F R0=>?_
 refine Z1 O O<|Z1 O O ?_;refine Gl O (st:=fun ac:Nat=>mkS [(0,.pv (aI a)),(1,.pv (aI b)),(5,.pv (.int .i64 ac))] [] 0)
  (I:=fun ac=>(ac<=a.length/\ac<=b.length)/\a.take ac=b.take ac) (μ:=fun ac=>a.length-ac) (x0:=(0)) (Io (aS O) trivial O O) (⟨⟨bk _,bk _⟩,O⟩) ?_
 rintro i ⟨hi,ht⟩;refine Gr O ?_;iterate 5 refine A1 O ?_
 apply Iy 5 10 15 [11,12,13,14] O Py
 ·intro hb4;iterate 5 refine A1 O ?_
  exact Iq Px O O O
 ·intro hb4;iterate 5 refine A1 O ?_
  exact Iq Px O O O
 refine Gc O O (fun hc15=>?_) (fun hc15=>?_)
 ·have hab:i<a.length/\i<b.length:=by simp at hc15;omega
  have va:=aM hab.1;have na:=bc hab.1;have vb:=aM hab.2;have nb:=bc hab.2;refine Il<|Ge O follows [0,1,2,3,4,5,6,7,8] Pp ?_;iterate 3 refine D1 O O ?_
  first | refine D2 O O Pr ?_ | refine D1 O O ?_
  iterate 3 refine D1 O O ?_
  first | refine D2 O O Pr ?_ | refine D1 O O ?_
  refine D1 O O ?_;refine ⟨Pp,?_⟩;refine Gc O O (fun hc26=>?_) (fun hc26=>?_)
  ·refine Ge O follows [0,1,2,3,4,5,6,7,8,9] Pp ?_;iterate 3 refine D1 O O ?_
   first | refine D2 O O Pr ?_ | refine D1 O O ?_
   iterate 3 refine D1 O O ?_
   first | refine D2 O O Pr ?_ | refine D1 O O ?_
   iterate 2 refine D1 O O ?_
   refine ⟨Pp,?_⟩;exact Gt O<|⟨_,_,O,O,af PV.bool (oD hab.1 hab.2 ht (fun e=>by rw [e] at hc26;simp at hc26)).symm⟩
  ·exact Il<|Z3 O O O O<|⟨(i+1),Io (aS O) trivial O O,⟨⟨Po,Po⟩,by rw [aR hab.1,aR hab.2,ht,show a[i]=b[i] from baT (by simpa using hc26)]⟩,Po⟩
 ·refine Gx O<|Gr O ?_;iterate 6 refine A1 O ?_
  exact Gt O<|⟨_,_,O,O,af PV.bool (gL (i:=i) hi.1 hi.2 (by simp at hc15;omega) ht).symm⟩
theorem mO (a b:List ByteArray) (ha:a.length<=1000000) (hb:b.length<=1000000):FnP prog 63 [aI a,aI b] (· = .bool (decide (a=b))):=by
 refine FnP.of func63 O ntmps63 Ps fun m0 w0 F R0=>?_
 refine Z1 O O<|Gr O ?_;iterate 5 refine A1 O ?_
 refine Gc O O (fun hc10=>?_) (fun hc10=>?_)
 ·exact Z1 O O<|Gt O<|⟨_,_,O,O,af PV.bool (Mu (fun e=>by rw [e] at hc10;simp at hc10)).symm⟩
 ·have hl:a.length=b.length:=by simp at hc10;omega
  refine Il<|Z3 O O O O ?_;refine Gl O (st:=fun ac:Nat=>mkS [(0,.pv (aI a)),(1,.pv (aI b)),(12,.pv (.int .i64 a.length)),(13,.pv (.int .i64 ac))] [] 0)
   (I:=fun ac=>ac<=a.length/\a.take ac=b.take ac) (μ:=fun ac=>a.length-ac) (x0:=(0)) (Io (aS O) trivial O O) (⟨bk _,O⟩) ?_
  rintro i ⟨hi,ht⟩;refine Z1 O O ?_;refine Gp O O (fun hc14=>?_) (fun hc14=>?_)
  ·have ha1:i<a.length:=Po;have hb1:i<b.length:=Po;have va:=aM ha1;have na:=bc ha1;have vb:=aM hb1;have nb:=bc hb1;refine Il<|Z2 O O O<|Ge O follows [0,1,2,3,4,5,6,7,8] Pp ?_;iterate 3 refine D1 O O ?_
   first | refine D2 O O Pr ?_ | refine D1 O O ?_
   iterate 3 refine D1 O O ?_
   first | refine D2 O O Pr ?_ | refine D1 O O ?_
   refine D1 O O ?_;refine ⟨Pp,?_⟩;refine Gc O O (fun hc24=>?_) (fun hc24=>?_)
   ·exact Z1 O O<|Gt O<|⟨_,_,O,O,af PV.bool (Mu (fun e=>by subst e;simp at hc24)).symm⟩
   ·exact Il<|Z2 O O O<|⟨(i+1),Io (aS O) trivial O O,⟨Po,by rw [aR ha1,aR hb1,ht,show a[i]=b[i] from baT (by simpa using hc24)]⟩,Po⟩
  ·exact Gx O<|Z1 O O<|Gt O<|⟨_,_,O,O,af PV.bool (IS (by rwa [a6 Po,a6 Po] at ht)).symm⟩
end
section
section
variable {C:Ctx} {n:Nat} {σ:St} {dst:Option Tmp} {ty t:TypeId} {pos:String} {after:Array Edge} {gd:Option (Nat×Bool)} {x y:Operand}
theorem dK {T e:TypeId} {id s k:Nat} {kl:IntKind} {il:Int} {o:Ob} (l:Nat) (hT:C.P.underlying T=some (.slice e)) (hs:dx C.P e s) (hx:σ.ev n x= .osl id s k) (ho:σ.ob id=some o) (hy:σ.ev n y= .pv (.int kl il)) (hi:il=(l:Int)) (h1:l<=k) (hre:o.real=true:=by rfl):
  XJ C n ⟨dst,.slice T x (some y) none none,ty,pos,after,gd⟩ σ ⟨.tsl id (l*s) (k-l),[],[]⟩:=
 .val fun a w m R hw=>by
  obtain ⟨b,N,c,he,hkc,hcm,hN,hm,hor⟩:=hw.osl hx ho hre;have e1:a.eval y= .int kl l:=by rw [hw.int hy,hi]
  have hav:σ.av id=false:=by
   cases hv:σ.av id with
   | false=>rfl
   | true=>have:=hw.hr.free id hv;rw [ho] at this;cases this
  refine ⟨.slice (if c=l then some ⟨b,0,none⟩ else (some ⟨b,0,none⟩:Option Addr).map (·.add (l*s))) (k-l) (c-l),?_,?_⟩
  ·simp [execOp,he,e1,Instr.sliceAt,Instr.slice,Instr.sliceBounds,Instr.sliceBound,asIntOf,run_underlying hT,hs.run,h1]
  ·simp only [Rel];refine ⟨hav,_,_,O,fun hp b' N' e=>?_⟩;rw [hm] at e;cases e;rw [kH Po];simp [Addr.add_lit]
theorem G4.tsl {id off j size:Nat} {T:TypeId} {cs news:List PV} (hx:σ.ev n y= .tsl id off j) (ho:σ.ob id=some (.cells T cs)) (hn:news=cs.drop off) (hl:news.length=j*size):G4 C n σ y j news:=by
 intro a w m R hw;have h:=hw.ev y;rw [hx] at h;simp only [Rel] at h;obtain ⟨hav,A,c,he,hA⟩:=h;obtain ⟨b,N,hm,arr,hb,hsz,hle,hr⟩:=hw.live ho;refine ⟨A,c,(arr.toList.take cs.length).drop off,he,by rw [hn];exact hr.drop off,fun hne=>?_⟩;have hj:0<j:=by
  rcases Mv j with h0 | h0
  ·exfalso;apply hne;rw [h0,OP,hn,Nv] at hl;rw [List.drop_eq_nil_iff,AI];omega
  ·exact h0
 refine ⟨b,off,hA hj b N hm,Pw,(hw.hr.own id b N hm).1,fun i hi=>?_⟩;simp only [Nv,AI] at hi;rw [cell_of_row w b (off+i) arr T (0,0) hb,MA,Ma,qY Po];simp
theorem jA.any {j:Nat} {news:List PV} (h:jA n σ y j news):G4 C n σ y j news:=fun hw=>h.row hw
end
end
def St.gsO (σ:St) (t id sz n:Nat) (T:TypeId) (cs:List PV):St:=⟨upd σ.sl t (.gsl id sz n),obL [(id,some (.gro T cs))] σ.ob,σ.av⟩
theorem St.pn {σ:St} {id sz n:Nat} {T:TypeId} {cs:List PV} (t:Nat) (ht:σ.sl t= .osl id sz n) (ho:σ.ob id=some (.cells T cs)) (hn:0<n) (hc:cs≠[]):σ.le (σ.gsO t id sz n T cs):=by
 rintro C nn a w ⟨m,R,hw⟩;have hs:∀ i,i≠id->obL [(id,some (Ob.gro T cs))] σ.ob i=σ.ob i:=fun i hi=>dJ _ _ _ (by simpa using hi)
 have hi:obL [(id,some (Ob.gro T cs))] σ.ob id=some (.gro T cs):=by simp [obL]
 refine ⟨m,R,⟨?_,?_,?_,hw.hr.inj,hw.hr.own,hw.hr.rsz,hw.hr.rfr,hw.hr.r0,hw.hr.frame,hw.hr.keep,hw.hr.res⟩,hw.df,hw.sz,?_⟩
 ·intro i;by_cases e:i=id
  ·subst e;rw [hw.hr.dom,ho];show _=bl (obL _ _ _);rw [hi];exact (bQ hc).symm
  ·show _=bl (obL _ _ _);rw [hs i e];exact hw.hr.dom i
 ·intro i h;by_cases e:i=id
  ·subst e;have:=hw.hr.free i h;rw [ho] at this;cases this
  ·show obL _ _ _=none;rw [hs i e];exact hw.hr.free i h
 ·intro i o b N h1 h2;by_cases e:i=id
  ·subst e;have h1':obL [(i,some (Ob.gro T cs))] σ.ob i=some o:=h1;rw [hi] at h1';cases h1';have q:=hw.hr.obj i _ b N ho h2;exact q
  ·have h1':obL [(id,some (Ob.gro T cs))] σ.ob i=some o:=h1;rw [hs i e] at h1';exact hw.hr.obj i o b N h1' h2
 ·intro q hq;show Rel w m σ.av R (upd σ.sl t (.gsl id sz n) q) _;by_cases e:q=t
  ·subst e;rw [au];have:=hw.sl q hq;rw [ht] at this;simp only [Rel] at this ⊢;obtain ⟨b,N,hm,_⟩:=hw.live ho;obtain ⟨h0,h1⟩:=this;obtain ⟨c,he,h2,h3,h4⟩:=h1 b N hm;exact ⟨h0,_,c,he,h2,h3,fun e=>by omega,fun _ b' N' hm'=>by rw [hm] at hm';cases hm';exact ⟨O,h4⟩⟩
  ·rw [aG _ _ e];exact hw.sl q hq
def St.nilS (σ:St) (t:Nat):St:=⟨upd σ.sl t (.pv nS),σ.ob,σ.av⟩
theorem St.rB {σ:St} {id sz:Nat} (t:Nat) (ht:σ.sl t= .gsl id sz 0):σ.le (σ.nilS t):=by
 rintro C nn a w ⟨m,R,hw⟩;refine ⟨m,R,hw.hr,hw.df,hw.sz,fun q hq=>?_⟩;show Rel w m σ.av R (upd σ.sl t (.pv nS) q) _;by_cases e:q=t
 ·subst e;rw [au];have:=hw.sl q hq;rw [ht] at this;simp only [Rel,RelP] at this ⊢;obtain ⟨_,A,c,he,h1,h2,h3,_⟩:=this;obtain ⟨rfl,rfl,_⟩:=h3 trivial;exact ⟨none,0,he,h1,h2,(fun _ e=>by cases e;rfl),(fun _=>rfl),fun e=>absurd O e⟩
 ·rw [aG _ _ e];exact hw.sl q hq
section
open Mk Jn
abbrev eV (x:Rw):List PV:=[aI x.v,.int .i64 x.w]
def aB (l:List Rw):List PV:=l.flatMap eV
abbrev bL (l:List Rw):PV:= .sl none l.length (aB l)
theorem aK (l:List Rw):(aB l).length=l.length*2:=fK _ 2 (fun _=>rfl) l
theorem aN {l:List Rw} {k:Nat} (h:k<l.length):((aB l).drop (k*2)).take 2=eV l[k]:=iq _ 2 (fun _=>rfl) l k h
theorem aW {l:List Rw} {k:Nat} (h:k<l.length):aB l≠[]:=fun e=>by have:=aK l;rw [e] at this;simp at this;omega
theorem nr {l:List Rw} {k:Nat} (h:k<l.length):(aB l)[k*2]? =some (aI l[k].v):=by
 have:=aN h;have h2:(((aB l).drop (k*2)).take 2)[0]? =(eV l[k])[0]? :=by rw [this]
 simpa [Ma,MA] using h2
theorem s5 {l:List Rw} {k:Nat} (h:k<l.length):(aB l)[k*2+1]? =some (.int .i64 l[k].w):=by
 have:=aN h;have h2:(((aB l).drop (k*2)).take 2)[1]? =(eV l[k])[1]? :=by rw [this]
 simpa [Ma,MA] using h2
theorem fj (l m:List Rw):aB (l++m)=aB l++aB m:=by simp [aB]
theorem dW (l:List Rw) (x:Rw):aB l++eV x=aB (l++[x]):=by simp [aB]
theorem dw (l:List Rw):∀ c∈aB l,c.leaf=true:=fun c hc=>by
 obtain ⟨t,_,hc⟩:=Mq.1 hc;simp only [sh,NC,Pf] at hc;rcases hc with rfl | rfl<;>rfl
theorem fu (l:List Rw) (k:Nat):(aB l).take (k*2)=aB (l.take k)/\(aB l).drop (k*2)=aB (l.drop k):=by
 have e:aB l=aB (l.take k)++aB (l.drop k):=by rw [<-fj,M6]
 rcases Nx l.length k with h | h
 ·have hl:=aK l;rw [a6 Po,a6 Po,List.drop_eq_nil_of_le Po,List.drop_eq_nil_of_le Po];exact ⟨O,O⟩
 ·have hl:(aB (l.take k)).length=k*2:=by rw [aK,AI,ND h]
  constructor
  ·conv=>lhs;rw [e]
   rw [<-hl,List.take_left]
  ·conv=>lhs;rw [e]
   rw [<-hl,List.drop_left]
theorem qu {l:List Rw} {k:Nat} (h:k<l.length) (w:Int):(aB l).set (k*2+1) (.int .i64 w)=aB (l.set k ⟨l[k].v,w⟩):=by
 induction l generalizing k with
 | nil=>simp at h
 | cons a l ih=>
   cases k with
   | zero=>rfl
   | succ k=>
     have h2:k<l.length:=by simpa using h
     have e:=ih h2;rw [show (k+1)*2+1=k*2+1+1+1 by omega];show (aI a.v::PV.int .i64 a.w::aB l).set (k*2+1+1+1) _=aI a.v::PV.int .i64 a.w::aB (l.set k ⟨l[k].v,w⟩);rw [List.set_cons_succ,List.set_cons_succ,e]
theorem yZ {x:Rw}:∀ {i:Nat} {out:List Rw} (h:i<out.length),(∀ j (hj:j<out.length),j<i->aZ out[j].v x.v=true)->aZ out[i].v x.v=false->out[i].v=x.v->dB x out=out.set i ⟨out[i].v,out[i].w+x.w⟩
 | 0,y::l,_,_,h2,h3=>by
   rw [dB,kH (by simpa using h2),qY (by simpa using h3)];rfl
 | i+1,y::l,h,h1,h2,h3=>by
   rw [dB,qY (show aZ y.v x.v=true from h1 0 Ps Po),yZ (i:=i) (by simpa using h) (fun j hj hji=>h1 (j+1) (by simpa using hj) Po) (by simpa using h2) (by simpa using h3)];rfl
theorem ns {x:Rw}:∀ {i:Nat} {out:List Rw},i<=out.length->(∀ j (hj:j<out.length),j<i->aZ out[j].v x.v=true)->(∀ (h:i<out.length),aZ out[i].v x.v=false/\out[i].v≠x.v)->dB x out=out.take i++x::out.drop i
 | 0,[],_,_,_=>rfl
 | 0,y::l,_,_,h2=>by
   have:=h2 Ps;rw [dB,kH (by simpa using this.1),kH (by simpa using this.2)];rfl
 | i+1,y::l,h,h1,h2=>by
   rw [dB,qY (show aZ y.v x.v=true from h1 0 Ps Po),ns (i:=i) (by simpa using h) (fun j hj hji=>h1 (j+1) (by simpa using hj) Po) (fun hi=>h2 (by simpa using hi))];rfl
theorem xw {x:Rw} {B X:Int} (hB:0<=B) (hx: -X<=x.w/\x.w<=X):∀ {l:List Rw},(∀ y∈l, -B<=y.w/\y.w<=B)->∀ y∈dB x l, -(B+X)<=y.w/\y.w<=B+X
 | [],_,y,hy=>by rw [dB,o7] at hy;rw [hy];omega
 | z::l,h,y,hy=>by
   have hz:=h z Ps;have hl:∀ y∈l, -B<=y.w/\y.w<=B:=fun y hy=>h y (by simp [hy])
   rw [dB] at hy;split at hy
   ·rcases sh.1 hy with rfl | hy
    ·omega
    ·exact xw hB hx hl y hy
   ·split at hy
    ·rcases sh.1 hy with rfl | hy
     ·show-(B+X)<=z.w+x.w/\z.w+x.w<=B+X;omega
     ·have:=hl y hy;omega
    ·rcases sh.1 hy with rfl | hy
     ·omega
     ·have:=h y hy;omega
structure SoF (l:List Rw) (k:Nat) (out:List Rw):Prop where
 e:out=(l.take k).foldl (fun out x=>dB x out) []
 v:∀ y∈out,y.v.length<=1000
 w:∀ y∈out, -((k:Int)*1000000)<=y.w/\y.w<=(k:Int)*1000000
 n:out.length<=k
theorem SoF.zero (l:List Rw):SoF l 0 []:=⟨O,fun _ h=>absurd h Ps,fun _ h=>absurd h Ps,xV _⟩
theorem SoF.succ {l out:List Rw} {k:Nat} (h:SoF l k out) (hk:k<l.length) (hv:l[k].v.length<=1000) (hw: -1000000<=l[k].w/\l[k].w<=1000000):SoF l (k+1) (dB l[k] out):=by
 refine ⟨?_,fun y hy=>?_,fun y hy=>?_,?_⟩
 ·rw [aR hk,Na,<-h.e];rfl
 ·rcases jL hy with e | ⟨z,hz,e⟩
  ·rw [e];exact hv
  ·rw [e];exact h.v z hz
 ·have:=xw (B:=(k:Int)*1000000) (X:=1000000) Po hw h.w y hy;have e:((k+1:Nat):Int)*1000000=(k:Int)*1000000+1000000:=Po;rw [e];exact this
 ·have:=nU l[k] out;have:=h.n;omega
theorem wM (l:List Rw) (hl:l.length<=1000) (hv:∀ x∈l,x.v.length<=1000) (hw:∀ x∈l, -1000000<=x.w/\x.w<=1000000):FnP prog 31 [bL l] (· =bL (lH l)):=by
 refine FnP.of func31 O ntmps31 Ps fun m0 w0 F R0=>?_
 have hll:=aK l;refine Z1 O O<|Z1 O O<|Im (Iu 3 0 2 49 O O)<|Z3 O O O O ?_;refine Gl O (st:=fun ac:Nat×List Rw=>mkS [(3,.gsl 0 2 ac.2.length),(10,.pv (bL l)),(11,.pv (.int .i64 l.length)),(12,.pv (.int .i64 ac.1))] [(0,.gro 49 (aB ac.2))] 1)
  (I:=fun ac=>ac.1<=l.length/\SoF l ac.1 ac.2) (μ:=fun ac=>l.length-ac.1) (x0:=(0,[])) (Io (aS O) (aO O) O O) (⟨bk _,SoF.zero l⟩) ?_
 rintro ⟨k,out⟩ ⟨hk,hs⟩;try simp only at hk hs ⊢
 refine Z1 O O ?_;refine Gp O O (fun hc13=>?_) (fun hc13=>?_)
 ·have hlt:k<l.length:=Po;have hrow:=aN hlt;have hne:=aW hlt;have hxv:=hv _ (aJ hlt);have hxw:=hw _ (aJ hlt);have hsu:=hs.succ hlt hxv hxw;have hon:=hs.n;have hol:=aK out;have hsw:=hs.w;have hsv:=hs.v;generalize l[k]=x at*;refine Il<|Z1 O O ?_;first | refine A3 O Pr ?_ | refine A1 O ?_
  refine Y2 O O ?_;by_cases he:out=[]
  ·have hl0:out.length=0:=by rw [he];rfl
   refine Im (St.rB 3 (id:=0) (sz:=2) (af (fun n=>V.gsl 0 2 n) hl0))<|Z1 O O ?_;refine Gl O (st:=fun x_1:Nat=>mkS [(3,.pv nS),(5,.ptr 1 0),(6,.pv (.int .i64 x_1)),(10,.pv (bL l)),(11,.pv (.int .i64 l.length)),(12,.pv (.int .i64 k))] [(1,.mix 49 [.pv (aI x.v),.pv (.int .i64 x.w)])] 2)
    (I:=fun x_1=>x_1<=out.length/\∀ j (hj:j<out.length),j<x_1->aZ out[j].v x.v=true) (μ:=fun x_1=>out.length-x_1) (x0:=(0)) (Io (aS O) (aO O) O O) (⟨bk _,fun j _ h=>absurd h Po⟩) ?_
   rintro i ⟨hi,hall⟩;refine Ge O follows [0,1,2,3,4,5,6,7,8,9,10,11,12,13] Pp ?_;iterate 3 refine D1 O O ?_
   refine Ds 19 [] O O O (fun τ h=>XJ.cast (v':= .pv (.bool false)) (aQ (Ee h 0 O O) (Ee h 1 O O) O) (af (fun b=>V.pv (.bool b)) (Mu Po))) O Pp ?_;iterate 10 refine D1 O O ?_
   refine ⟨Pp,?_⟩;refine Gc O O (fun hc29=>absurd hc29 Ps) (fun hc29=>?_);refine Gx O<|Ge O follows [0,1,2,3,4,5,6,7,8,9,10,11,12,13] Pp ?_;iterate 3 refine D1 O O ?_
   refine Ds 35 [] O O O (fun τ h=>XJ.cast (v':= .pv (.bool false)) (aQ (Ee h 0 O O) (Ee h 1 O O) O) (af (fun b=>V.pv (.bool b)) (Mu Po))) O Pp ?_;iterate 10 refine D1 O O ?_
   refine ⟨Pp,?_⟩;refine Gc O O (fun hc45=>absurd hc45 Ps) (fun hc45=>?_);refine Il ?_;obtain rfl:i=0:=Po;have hput:dB x out=[x]:=by rw [he];rfl
   refine Ge O follows [0,1,2,3,4,5,6,7,8,9,10] Pp ?_;iterate 8 refine D1 O O ?_
   refine Ds 64 [_] O O O (fun τ h=>fc 3 JM (Ee h 0 O O) (Eo h 0 O O) O (.inl ⟨_,(Ee h 1 O O)⟩) O Ps Po (h.n 0 _ O)) O Pp<|Ds 65 [_] O O O (fun τ h=>rM 4 JM (Ee h 0 O O) (.inr ⟨_,_,_,_,(Ee h 1 O O),(Eo h 0 O O),O⟩) O (dw [x]) Po (h.n 0 _ O)) O Pp<|D1 O O ?_;refine ⟨Pp,?_⟩;exact Z2 O O O<|⟨(k+1,dB x out),Ip [4] ⟨af (fun n=>V.gsl 4 2 n) (show 1=(dB x out).length by rw [hput];rfl),O,O,O,Pw⟩ ⟨IN (b:=some (.gro 49 (eV x))) Pp (af (fun c=>some (Ob.gro 49 c)) (show eV x=aB (dB x out) by rw [hput];rfl)),Pw⟩ O O Pq O,⟨Po,hsu⟩,Pv⟩
  ·have hpos:0<out.length:=MB.2 he;have hcne:aB out≠[]:=aW hpos;refine Im (St.ku 3 O O hpos hcne)<|Z1 O O ?_;refine Gl O (st:=fun x_1:Nat=>mkS [(3,.osl 0 2 out.length),(5,.ptr 1 0),(6,.pv (.int .i64 x_1)),(10,.pv (bL l)),(11,.pv (.int .i64 l.length)),(12,.pv (.int .i64 k))] [(0,.cells 49 (aB out)),(1,.mix 49 [.pv (aI x.v),.pv (.int .i64 x.w)])] 2)
    (I:=fun x_1=>x_1<=out.length/\∀ j (hj:j<out.length),j<x_1->aZ out[j].v x.v=true) (μ:=fun x_1=>out.length-x_1) (x0:=(0)) (Io (aS O) (aO O) O O) (⟨bk _,fun j _ h=>absurd h Po⟩) ?_
   rintro i ⟨hi,hall⟩;by_cases hi2:i<out.length
   ·have hov:(aB out)[i*2+0]? =some (aI out[i].v):=nr hi2;have how:=s5 hi2;have hom:=aJ hi2;have hob:=hsw _ hom;have hls:=vV out[i].v x.v (by have:=hsv _ hom;omega) Po;have hts:=mO out[i].v x.v (by have:=hsv _ hom;omega) Po;refine Ge O follows [0,1,2,3,4,5,6,7,8,9,10,11,12,13] Pp ?_;iterate 3 refine D1 O O ?_
    refine Ds 19 [] O O O (fun τ h=>XJ.cast (v':= .pv (.bool true)) (aQ (Ee h 0 O O) (Ee h 1 O O) O) (af (fun b=>V.pv (.bool b)) (IS Po))) O Pp ?_;iterate 5 refine D1 O O ?_
    refine Dg 25 [_] O O O O (fun τ h=>aC ⟨_,underlying47,O⟩ (Ee h 0 O O) (Eo h 0 O O) hov) O Pp ?_;iterate 2 refine D1 O O ?_
    refine Dg 28 [] O O O O (fun τ h=>ae call20 hls (h.bt O)) O Pp<|D1 O O ?_;refine ⟨Pp,?_⟩;refine Gc O O (fun hc29=>?_) (fun hc29=>?_)
    ·exact Il<|Z3 O O O O<|⟨(i+1),Io (aS O) (aO O) O O,⟨Po,fun j hj hji=>if h:j<i then hall j hj h else (by obtain rfl:j=i:=Po;exact hc29)⟩,Po⟩
    ·refine Gx O<|Ge O follows [0,1,2,3,4,5,6,7,8,9,10,11,12,13] Pp ?_;iterate 3 refine D1 O O ?_
     refine Ds 35 [] O O O (fun τ h=>XJ.cast (v':= .pv (.bool true)) (aQ (Ee h 0 O O) (Ee h 1 O O) O) (af (fun b=>V.pv (.bool b)) (IS Po))) O Pp ?_;iterate 5 refine D1 O O ?_
     refine Dg 41 [_] O O O O (fun τ h=>aC ⟨_,underlying47,O⟩ (Ee h 0 O O) (Eo h 0 O O) hov) O Pp ?_;iterate 2 refine D1 O O ?_
     refine Dg 44 [] O O O O (fun τ h=>ae call63 hts (h.bt O)) O Pp<|D1 O O ?_;refine ⟨Pp,?_⟩;refine Gc O O (fun hc45=>?_) (fun hc45=>?_)
     ·have hins:dB x out=out.set i ⟨out[i].v,out[i].w+x.w⟩:=yZ hi2 hall (by simpa using hc29) (Ng hc45);refine Ge O follows [0,1,2,3,4,5,6,7,8,9,10] Pp ?_;iterate 4 refine D1 O O ?_
      refine Ds 50 [_] O O O (fun τ h=>aC ⟨_,underlying3,O⟩ (Ee h 0 O O) (Eo h 0 O O) how) O Pp ?_;iterate 5 refine D1 O O ?_
      refine DL.step (d:=none) [_] O O O (fun τ h=>aF sz3 (Ee h 0 O O) (Eo h 0 O O) (Ee h 1 O O) O (by first | omega | (simp;omega))) O Pp ?_;refine ⟨Pp,?_⟩;refine Im (St.pn 3 O O hpos (by intro e;have h:=af List.length e;rw [Md] at h;exact hcne (Mj h))) ?_;exact Gx O<|Z2 O O O<|⟨(k+1,dB x out),Io ⟨af (fun n=>V.gsl 0 2 n) (show out.length=(dB x out).length by rw [hins,Md]),O,O,O,Pw⟩ ⟨IN (b:=some (.gro 49 ((aB out).set (i*2+1) (.int .i64 (out[i].w+x.w))))) Pp (af (fun c=>some (Ob.gro 49 c)) (by rw [hins];exact qu hi2 _)),Pw⟩ O O,⟨Po,hsu⟩,Pv⟩
     ·refine Il ?_;have hput:dB x out=out.take i++x::out.drop i:=ns hi hall (fun h=>⟨by simpa using hc29,NM hc45⟩);have hcut:=fu out i;have hdl:((aB out).drop (i*2)).length=(out.length-i)*2:=by rw [Nv];omega
      have hnews:((eV x).take (1*2)++(aB out).drop (i*2)).take ((1+(out.length-i))*2)=aB (x::out.drop i):=by
       rw [hcut.2,show (eV x).take (1*2)++aB (out.drop i)=aB (x::out.drop i) from O,a6];rw [aK,AS,Nv];omega
      have hnl:(((eV x).take (1*2)++(aB out).drop (i*2)).take ((1+(out.length-i))*2)).length=(1+(out.length-i))*2:=by rw [hnews,aK,AS,Nv];omega
      have hnf:∀ c∈((eV x).take (1*2)++(aB out).drop (i*2)).take ((1+(out.length-i))*2),c.leaf=true:=by rw [hnews];exact dw _
      have hcs:(aB out).take (i*2)++((eV x).take (1*2)++(aB out).drop (i*2)).take ((1+(out.length-i))*2)=aB (dB x out):=by rw [hnews,hcut.1,hput,fj]
      have hil:i+(1+(out.length-i))=(dB x out).length:=by rw [hput,kQ,AS,AI,Nv];omega
      refine Ge O follows [0,1,2,3,4,5,6,7,8,9,10] Pp ?_;iterate 2 refine D1 O O ?_
      refine Ds 58 [_] O O O (fun τ h=>dC i underlying38 lM (Ee h 0 O O) (Eo h 0 O O) (Ee h 1 O O) O hi) O Pp ?_;iterate 4 refine D1 O O ?_
      refine Ds 63 [_] O O O (fun τ h=>dK i underlying38 lM (Ee h 0 O O) (Eo h 0 O O) (Ee h 1 O O) O hi) O Pp<|Ds 64 [_,_] O O O (fun τ h=>eI 3 JM (Ee h 0 O O) (Eo h 0 O O) (xV _) (G4.tsl (Ee h 1 O O) (Eo h 1 O O) O hdl) hdl (fun c hc=>dw out c (OE hc)) Po (h.n 0 _ O)) O Pp<|Ds 65 [_,_] O O O (fun τ h=>eI 4 JM (Ee h 0 O O) (Eo h 0 O O) Po (jA.any (.inr ⟨_,_,_,_,(Ee h 1 O O),(Eo h 1 O O),O⟩)) hnl hnf Po (h.n 0 _ O)) O Pp<|D1 O O ?_;refine ⟨Pp,?_⟩;exact Im (St.pn 3 O O Po (fun e=>aW (l:=dB x out) (k:=0) Po (hcs.symm.trans e)))<|Z2 O O O<|⟨(k+1,dB x out),Ip [4] ⟨af (fun n=>V.gsl 4 2 n) hil,O,O,O,Pw⟩ ⟨IN (b:=some (.gro 49 ((aB out).take (i*2)++((eV x).take (1*2)++(aB out).drop (i*2)).take ((1+(out.length-i))*2)))) Pp (af (fun c=>some (Ob.gro 49 c)) hcs),Pw⟩ O O Pq O,⟨Po,hsu⟩,Pv⟩
   ·refine Ge O follows [0,1,2,3,4,5,6,7,8,9,10,11,12,13] Pp ?_;iterate 3 refine D1 O O ?_
    refine Ds 19 [] O O O (fun τ h=>XJ.cast (v':= .pv (.bool false)) (aQ (Ee h 0 O O) (Ee h 1 O O) O) (af (fun b=>V.pv (.bool b)) (Mu Po))) O Pp ?_;iterate 10 refine D1 O O ?_
    refine ⟨Pp,?_⟩;refine Gc O O (fun hc29=>absurd hc29 Ps) (fun hc29=>?_);refine Gx O<|Ge O follows [0,1,2,3,4,5,6,7,8,9,10,11,12,13] Pp ?_;iterate 3 refine D1 O O ?_
    refine Ds 35 [] O O O (fun τ h=>XJ.cast (v':= .pv (.bool false)) (aQ (Ee h 0 O O) (Ee h 1 O O) O) (af (fun b=>V.pv (.bool b)) (Mu Po))) O Pp ?_;iterate 10 refine D1 O O ?_
    refine ⟨Pp,?_⟩;refine Gc O O (fun hc45=>absurd hc45 Ps) (fun hc45=>?_);refine Il ?_;have hput:dB x out=out.take i++x::out.drop i:=ns hi hall (fun h=>absurd h hi2);have hcut:=fu out i;have hdl:((aB out).drop (i*2)).length=(out.length-i)*2:=by rw [Nv];omega
    have hnews:((eV x).take (1*2)++(aB out).drop (i*2)).take ((1+(out.length-i))*2)=aB (x::out.drop i):=by
     rw [hcut.2,show (eV x).take (1*2)++aB (out.drop i)=aB (x::out.drop i) from O,a6];rw [aK,AS,Nv];omega
    have hnl:(((eV x).take (1*2)++(aB out).drop (i*2)).take ((1+(out.length-i))*2)).length=(1+(out.length-i))*2:=by rw [hnews,aK,AS,Nv];omega
    have hnf:∀ c∈((eV x).take (1*2)++(aB out).drop (i*2)).take ((1+(out.length-i))*2),c.leaf=true:=by rw [hnews];exact dw _
    have hcs:(aB out).take (i*2)++((eV x).take (1*2)++(aB out).drop (i*2)).take ((1+(out.length-i))*2)=aB (dB x out):=by rw [hnews,hcut.1,hput,fj]
    have hil:i+(1+(out.length-i))=(dB x out).length:=by rw [hput,kQ,AS,AI,Nv];omega
    refine Ge O follows [0,1,2,3,4,5,6,7,8,9,10] Pp ?_;iterate 2 refine D1 O O ?_
    refine Ds 58 [_] O O O (fun τ h=>dC i underlying38 lM (Ee h 0 O O) (Eo h 0 O O) (Ee h 1 O O) O hi) O Pp ?_;iterate 4 refine D1 O O ?_
    refine Ds 63 [_] O O O (fun τ h=>dK i underlying38 lM (Ee h 0 O O) (Eo h 0 O O) (Ee h 1 O O) O hi) O Pp<|Ds 64 [_,_] O O O (fun τ h=>eI 3 JM (Ee h 0 O O) (Eo h 0 O O) (xV _) (G4.tsl (Ee h 1 O O) (Eo h 1 O O) O hdl) hdl (fun c hc=>dw out c (OE hc)) Po (h.n 0 _ O)) O Pp<|Ds 65 [_,_] O O O (fun τ h=>eI 4 JM (Ee h 0 O O) (Eo h 0 O O) Po (jA.any (.inr ⟨_,_,_,_,(Ee h 1 O O),(Eo h 1 O O),O⟩)) hnl hnf Po (h.n 0 _ O)) O Pp<|D1 O O ?_;refine ⟨Pp,?_⟩;exact Im (St.pn 3 O O Po (fun e=>aW (l:=dB x out) (k:=0) Po (hcs.symm.trans e)))<|Z2 O O O<|⟨(k+1,dB x out),Ip [4] ⟨af (fun n=>V.gsl 4 2 n) hil,O,O,O,Pw⟩ ⟨IN (b:=some (.gro 49 ((aB out).take (i*2)++((eV x).take (1*2)++(aB out).drop (i*2)).take ((1+(out.length-i))*2)))) Pp (af (fun c=>some (Ob.gro 49 c)) hcs),Pw⟩ O O Pq O,⟨Po,hsu⟩,Pv⟩
 ·refine Im (Ir 0 O O) ?_;have hon:=hs.n;have hol:=aK out;have hfin:lH l=out.filter fun y=>y.w !=0:=by rw [lH,hs.e,show k=l.length by omega,Mz]
  refine Gx O<|Z1 O O<|Im (Iu 7 1 2 49 O O)<|Z3 O O O O ?_;refine Gl O (st:=fun x_2:Nat×List Rw=>mkS [(7,.gsl 1 2 x_2.2.length),(67,.pv (bL out)),(68,.pv (.int .i64 out.length)),(69,.pv (.int .i64 x_2.1))] [(1,.gro 49 (aB x_2.2))] 2)
   (I:=fun x_2=>(x_2.1<=out.length/\x_2.2.length<=x_2.1)/\x_2.2=(out.take x_2.1).filter fun y=>y.w !=0) (μ:=fun x_2=>out.length-x_2.1) (x0:=(0,[])) (Io (aS O) (aO O) O O) (⟨⟨bk _,xV _⟩,O⟩) ?_
  rintro ⟨j,q⟩ ⟨hj,hq⟩;try simp only at hj hq ⊢
  refine Z1 O O ?_;refine Gp O O (fun hc70=>?_) (fun hc70=>?_)
  ·have hlj:j<out.length:=Po;have hrj:=aN hlj;have hnj:=aW hlj;have hql:=aK q;have htk:out.take (j+1)=out.take j++[out[j]]:=aR hlj;generalize out[j]=y at*;refine Il<|Z1 O O ?_;first | refine A3 O Pr ?_ | refine A1 O ?_
   refine Y2 O O<|Z3 O O O O ?_;refine Gc O O (fun hc75=>?_) (fun hc75=>?_)
   ·refine Gr O ?_;iterate 5 refine A1 O ?_
    exact Z2 O O O<|⟨(j+1,q++[y]),Ip [0,4] ⟨af (fun n=>V.gsl 4 2 n) (show q.length+1=(q++[y]).length by simp),O,O,O,Pw⟩ ⟨IN (b:=some (.gro 49 (aB q++eV y))) Pp (af (fun c=>some (Ob.gro 49 c)) (dW q y)),Pw⟩ O O Pq O,⟨⟨Po,by simp only [kQ,L8];omega⟩,by rw [htk,MR,<-hq];simp only [MW,List.filter_nil];rw [qY hc75]⟩,Pv⟩
   ·exact Il<|Z2 O O O<|⟨(j+1,q),Io (aS O) (aO O) O O,⟨⟨Po,Pv⟩,by rw [htk,MR,<-hq];simp only [MW,List.filter_nil];rw [kH (by rw [hc75];decide),MN]⟩,Pv⟩
  ·exact Im (Ir 1 O O)<|Gx O<|Z2 O O O<|Gt O<|⟨_,_,O,O,by rw [hfin,show out.filter (fun y=>y.w !=0)=q by rw [hq,a6 Po]];rfl⟩
end
section
open Mk Jn
def Fk:List ByteArray:=[⟨#[114,101,100]⟩,⟨#[103,114,101,101,110]⟩,⟨#[98,108,117,101]⟩]
def rI:List ByteArray:=[⟨#[49]⟩,⟨#[50]⟩,⟨#[49,48]⟩]
def C6:List ByteArray:=[⟨#[48]⟩,⟨#[49]⟩,⟨#[45,50]⟩,⟨#[49,47,50]⟩,⟨#[51]⟩,⟨#[53,47,51]⟩,⟨#[49]⟩,⟨#[50]⟩]
def gX (kd:Int):List ByteArray:=⟨#[]⟩::(if kd=3 then Fk else if kd=1 then rI else C6)
def FA (c:Nat) (kd:Int):ByteArray:=if c=8 then ⟨#[]⟩ else if kd=3 then Fk.getD (c%3) ⟨#[]⟩ else if kd=1 then rI.getD (c%3) ⟨#[]⟩ else C6.getD c ⟨#[]⟩
theorem fE {l:List ByteArray} {j:Nat} (h:j<l.length):l.getD j ⟨#[]⟩=l[j]/\l[j]∈l:=⟨by simp [List.getD,h],aJ h⟩
theorem Di {c:Nat} (kd:Int) (h:c<9):FA c kd∈gX kd:=by
 unfold FA gX;by_cases h8:c=8
 ·rw [qY h8];simp
 ·rw [kH h8];refine L7 _ ?_;by_cases h3:kd=3
  ·rw [qY h3,qY h3];have:=fE (l:=Fk) (j:=c%3) (Ni _ Pq);rw [this.1];exact this.2
  ·rw [kH h3,kH h3];by_cases h1:kd=1
   ·rw [qY h1,qY h1];have:=fE (l:=rI) (j:=c%3) (Ni _ Pq);rw [this.1];exact this.2
   ·rw [kH h1,kH h1];have:=fE (l:=C6) (j:=c) (by have e:C6.length=8:=rfl;omega);rw [this.1];exact this.2
theorem vw (L:List Int) (k:Nat) (hL:L.length<=600) (hk:k<=L.length) (nm:ByteArray) (kd:Int):
  FnM prog 59 85 (jB L k) [.agg [.str nm,.int .i64 kd]] (fun v c=>v= .str (FA (sNv L k 9).toNat kd)/\c=jB L (sNk L k)):=by
 refine FnM.of func59 O ntmps59 Ps O Ps fun m0 w0 F R0=>?_
 have hn:=zP L k 9 hL hk Pq Pq;have hb:=uV L k 9 Pq;obtain ⟨c,hc⟩:=so hb.1;have hc9:c<9:=Po;rw [hc] at hn;rw [hc,Mb];refine Z2 O O O<|Z1 O O<|Rs 7 O O (iu call18 hn O O)<|A1 O<|Z3 O O O O ?_;refine Gc O O (fun hc8=>?_) (fun hc8=>?_)
 ·have h8:c=8:=by have h:(c:Int)=8:=(by simpa using hc8);omega
  exact Z1 O O<|Gt O<|⟨_,jB L (sNk L k),O,O,af PV.str (by rw [FA,qY h8]),O⟩
 ·have h8:¬ c=8:=by have h:¬ (c:Int)=8:=(by simpa using hc8);omega
  refine Z4 O O O O O ?_;refine Gc O O (fun hc11=>?_) (fun hc11=>?_)
  ·have h3:kd=3:=by simpa using hc11
   have hlt:c%3<Fk.length:=Ni _ Pq;have hv:=aM hlt;have hne:=bc hlt;exact Gr O<|Rs 15 O O (aq (vs:=Fk.map fun x=> .pv (.str x)) (cs:=aA Fk) none Ps uq O Pq Pq Pp Pp)<|A1 O<|Rs 17 O O (XJ.cast (v':= .pv (.int .i64 ((c%3:Nat):Int))) (l8 O O Pq) O)<|Rs 18 O O (ag (c%3) underlying47 sz9 O O O hlt hne)<|Rs 19 O O (ai ⟨_,underlying9,O⟩ O hv)<|A1 O<|Gt O<|⟨_,jB L (sNk L k),O,O,af PV.str (by rw [FA,kH h8,qY h3,(fE hlt).1]),O⟩
  ·have h3:¬ kd=3:=by simpa using hc11
   refine Z4 O O O O O ?_;refine Gc O O (fun hc20=>?_) (fun hc20=>?_)
   ·have h1:kd=1:=by simpa using hc20
    have hlt:c%3<rI.length:=Ni _ Pq;have hv:=aM hlt;have hne:=bc hlt;exact Gr O<|Rs 24 O O (aq (vs:=rI.map fun x=> .pv (.str x)) (cs:=aA rI) none Ps uq O Pq Pq Pp Pp)<|A1 O<|Rs 26 O O (XJ.cast (v':= .pv (.int .i64 ((c%3:Nat):Int))) (l8 O O Pq) O)<|Rs 27 O O (ag (c%3) underlying47 sz9 O O O hlt hne)<|Rs 28 O O (ai ⟨_,underlying9,O⟩ O hv)<|A1 O<|Gt O<|⟨_,jB L (sNk L k),O,O,af PV.str (by rw [FA,kH h8,kH h3,qY h1,(fE hlt).1]),O⟩
   ·have h1:¬ kd=1:=by simpa using hc20
    have hlt:c<C6.length:=by have e:C6.length=8:=rfl;omega
    have hv:=aM hlt;have hne:=bc hlt;exact Il<|Gr O<|Rs 29 O O (aq (vs:=C6.map fun x=> .pv (.str x)) (cs:=aA C6) none Ps uq O Pq Pq Pp Pp)<|A1 O<|Rs 31 O O (ag c underlying47 sz9 O O O hlt hne)<|Rs 32 O O (ai ⟨_,underlying9,O⟩ O hv)<|A1 O<|Gt O<|⟨_,jB L (sNk L k),O,O,af PV.str (by rw [FA,kH h8,kH h3,kH h1,(fE hlt).1]),O⟩
theorem rZ (L:List Int) (k:Nat) (hL:L.length<=600) (hk:k<=L.length) (nm:ByteArray) (kd:Int):
  ∃ x∈gX kd,FnM prog 59 85 (jB L k) [.agg [.str nm,.int .i64 kd]] (fun v c=>v= .str x/\c=jB L (sNk L k)):=
 ⟨_,Di kd (by have:=uV L k 9 Pq;omega),vw L k hL hk nm kd⟩
end
section
open Mk Jn
theorem yz (x y:Int) (hx:x.natAbs<1000000000) (hy:y.natAbs<1000000000):Gy x y:=by
 have hs:∀ n:Nat,n<1000000000->(aj n).length<=1:=fun n h=>bF.2 Po
 exact sF (fun a b=>a<1000000000/\b<1000000000) (fun a b h h0 h1 _ _=>by
  have:=hs a h.1;have:=hs b h.2;omega) x y ⟨hx,hy⟩ (by have:=hs _ hx;omega) (by have:=hs _ hy;omega)
theorem DR {s:ByteArray} (h:cS s=false):o5 s=⟨#[]⟩:=by
 unfold cS at h;unfold o5;have:∀ l m:List UInt8,(Lib.cut l m).2.2=false->(Lib.cut l m).2.1=[]:=fun l m h=>by
  unfold Lib.cut at h ⊢;split at h
  ·simp at h
  ·split
   ·contradiction
   ·rfl
 rw [this _ _ h]
theorem Ad (z:Int) (hz:z.natAbs<1000000000):FnP prog 250 [ec z] (· = .tup [.int .i64 z,.bool true]):=by
 refine FnP.of func250 O ntmps250 Ps fun m0 w0 F R0=>?_
 have hlen:(aj z.natAbs).length<=1:=bF.2 Po;have hat:=ja (aj z.natAbs) 2 Po;have hl2:lim (aj z.natAbs) 2=0:=by rw [gA];omega
 generalize lim (aj z.natAbs) 2=L at*;have hsm:=dF z.natAbs Po;have hwr:IntKind.i64.wrap ((z.natAbs:Nat):Int)=(z.natAbs:Int):=eT Po;refine Z3 O O O O<|Gr O ?_;iterate 5 refine A1 O ?_
 apply Ix 5 9 14 [10,11,12,13] O Py
 ·intro hb4;iterate 5 refine A1 O ?_
  exact Iq Px O O O
 ·intro hb4;exact Y2 O O<|Rg 12 O O O (ae call184 hat O)<|Y2 O O<|Iq Px O O O
 refine Gc O O (fun hc14=>absurd hc14 (fun h=>by simp at h;omega)) (fun hc14=>?_);refine Il<|Ge O follows [0,1,2,3,4,5,6,7,8,9] Pp ?_;iterate 2 refine D1 O O ?_
 refine Ds 17 [] O O O (fun τ h=>ae call184 hat (h.bt O)) O Pp<|Ds 18 [] O O O (fun τ h=>nL (b:=1000000000) (Ee h 0 O O) (Ee h 1 O O) Po) O Pp<|Ds 19 [] O O O (fun τ h=>nL (b:=1000000000) (Ee h 0 O O) (Ee h 1 O O) Po) O Pp ?_;iterate 2 refine D1 O O ?_
 refine Ds 22 [] O O O (fun τ h=>ae call270 hsm (h.bt O)) O Pp<|Ds 23 [] O O O (fun τ h=>XJ.cast (v':= .pv (.int .u64 (z.natAbs:Int))) (nR (b:=z.natAbs) (Ee h 0 O O) (Ee h 1 O O) Po) (af (fun n:Nat=>V.pv (.int .u64 (n:Int))) Po)) O Pp<|D1 O O ?_;refine ⟨Pp,?_⟩;refine Z2 O O O ?_;refine Gp O O (fun hc25=>absurd hc25 Po) (fun hc25=>?_);refine Il<|Z2 O O O ?_;refine Gc O O (fun hc27=>?_) (fun hc27=>?_)
 ·have hz0:z<0:=Ng hc27;exact Z1 O O<|Rs 29 O O ((en underlying136 underlying3 O).cast (v':= .pv (.int .i64 (z.natAbs:Int))) (af (fun z=>V.pv (.int .i64 z)) hwr))<|Y3 O O O<|Gt O<|⟨_,_,O,O,af (fun q=>PV.tup [PV.int IntKind.i64 q,PV.bool true]) (show-(z.natAbs:Int)=z by omega)⟩
 ·have hz0:¬ z<0:=NM hc27;exact Il<|Z1 O O<|Rs 32 O O ((en underlying136 underlying3 O).cast (v':= .pv (.int .i64 (z.natAbs:Int))) (af (fun z=>V.pv (.int .i64 z)) hwr))<|Y2 O O<|Gt O<|⟨_,_,O,O,af (fun q=>PV.tup [PV.int IntKind.i64 q,PV.bool true]) (show (z.natAbs:Int)=z by omega)⟩
theorem p3 (s:ByteArray) (h:bo s=true) (hz:(rdZ s).natAbs<1000000000):FnP prog 218 [.str s] (· = .tup [.int .i64 (rdZ s),.bool true]):=by
 refine FnP.of func218 O ntmps218 Ps fun m0 w0 F R0=>?_
 have hv:=cV s;rw [h] at hv;refine Z2 O O O<|Z1 O O<|Rs 5 O O (ae call248 hv O)<|A1 O ?_;refine Gc O O (fun hc6=>absurd hc6 Ps) (fun hc6=>?_);refine Il<|Z1 O O<|Rs 8 O O (ae call249 (iC s h) O)<|Rs 9 O O (ae call250 (Ad _ hz) O) ?_;iterate 4 refine A1 O ?_
 exact Gt O<|⟨_,_,O,O,O⟩
theorem jn (s:ByteArray) (h:bo s=true) (hz:(rdZ s).natAbs<1000000000):FnP prog 216 [.str s] (· = .bool true):=by
 refine FnP.of func216 O ntmps216 Ps fun m0 w0 F R0=>?_
 have h1:decide (rdZ s>= -1000000000)=true:=IS Po;have h2:decide (rdZ s<=1000000000)=true:=IS Po;refine Z1 O O<|Z1 O O<|Rs 7 O O (ae call218 (p3 s h hz) O) ?_;iterate 5 refine A1 O ?_
 exact Z3 O O O O<|Rg 13 O O O (XJ.cast (v':= .pv (.bool true)) (aQ O O O) (af (fun b=>V.pv (.bool b)) h1))<|Y3 O O O<|Rg 17 O O O (XJ.cast (v':= .pv (.bool true)) (aQ O O O) (af (fun b=>V.pv (.bool b)) h2))<|Y2 O O<|Gt O<|⟨_,_,O,O,O⟩
theorem EP:bo ⟨#[]⟩=false:=Pp
theorem zW:FnP prog 218 [.str ⟨#[]⟩] (· = .tup [.int .i64 0,.bool false]):=by
 refine FnP.of func218 O ntmps218 Ps fun m0 w0 F R0=>?_
 have hv:=cV ⟨#[]⟩;rw [EP] at hv;refine Z2 O O O<|Z1 O O<|Rs 5 O O (ae call248 hv O)<|A1 O ?_;refine Gc O O (fun hc6=>?_) (fun hc6=>absurd hc6 Ps);exact Z2 O O O<|Gt O<|⟨_,_,O,O,O⟩
theorem GA:mP ⟨#[]⟩=false:=Pp
theorem GR:bo (sO ⟨#[]⟩)=false:=Pp
theorem vL:FnP prog 217 [.str ⟨#[]⟩] (· = .tup [.str ⟨#[]⟩,.str ⟨#[]⟩,.bool false]):=by
 refine FnP.of func217 O ntmps217 Ps fun m0 w0 F R0=>?_
 have hv:=j9 ⟨#[]⟩ Pq (fun h=>by rw [GR] at h;cases h);rw [GA] at hv;refine Z3 O O O O<|Z1 O O<|Rs 9 O O (ae call246 hv O)<|A1 O ?_;refine Gc O O (fun hc10=>?_) (fun hc10=>absurd hc10 Ps);exact Z3 O O O O<|Gt O<|⟨_,_,O,O,O⟩
structure NumOk (v:ByteArray):Prop where
 s:v.size<4294967281
 r:mP v=true
 n:bo (sO v)=true/\(rdZ (sO v)).natAbs<1000000000
 d:cS v=true->bo (o5 v)=true/\1<=rdZ (o5 v)/\rdZ (o5 v)<=12
theorem vT (v:ByteArray) (h:NumOk v):FnP prog 217 [.str v] (· = .tup [.str (sO v),.str (if cS v=true then o5 v else EE),.bool true]):=by
 refine FnP.of func217 O ntmps217 Ps fun m0 w0 F R0=>?_
 have hG:bo (sO v)=true->HA v=false->Gy (rdZ (sO v)) (rdZ (o5 v)):=fun _ hb=>by
  refine yz _ _ h.n.2 ?_;have hr:=h.r;unfold mP at hr;by_cases hs:cS v=true
  ·have:=h.d hs;omega
  ·rw [qY (by rw [h.n.1,MH hs];rfl)] at hr;have e:o5 v=⟨#[]⟩:=DR (MH hs);rw [e];decide
 have hv:=j9 v h.s hG;rw [h.r] at hv;have hc:=DY v ⟨#[47]⟩ h.s;refine Z3 O O O O<|Z1 O O<|Rs 9 O O (ae call246 hv O)<|A1 O ?_;refine Gc O O (fun hc10=>absurd hc10 Ps) (fun hc10=>?_);refine Il<|Z1 O O<|Rs 13 O O (ae call247 hc O) ?_;iterate 7 refine A1 O ?_
 refine Z2 O O O ?_;refine Gc O O (fun hc18=>?_) (fun hc18=>?_)
 ·have hs:cS v=false:=by have h9:(!cS v)=true:=hc18;simpa using h9
  rw [hs,kH Pq];refine Z1 O O<|Gr O ?_;iterate 5 refine A1 O ?_
  exact Gt O<|⟨_,_,O,O,O⟩
 ·have hs:cS v=true:=by have h9:(!cS v)=false:=hc18;simpa using h9
  rw [hs,qY O];refine Il<|Gr O ?_;iterate 5 refine A1 O ?_
  exact Gt O<|⟨_,_,O,O,O⟩
theorem kG (nm v:ByteArray) (h:v=⟨#[]⟩\/bo v=true/\(rdZ v).natAbs<1000000000):FnP prog 179 [.agg [.str nm,.int .i64 1],.str v] (· = .bool true):=by
 refine FnP.of func179 O ntmps179 Ps fun m0 w0 F R0=>?_
 refine Z2 O O O<|Z2 O O O<|Z2 O O O ?_;refine Gc O O (fun hc12=>?_) (fun hc12=>absurd hc12 Ps);by_cases he:v=⟨#[]⟩
 ·subst he;refine Z1 O O<|Rs 15 O O (XJ.cast (v':= .pv (.bool true)) (cF O O O) (af (fun b=>V.pv (.bool b)) (NZ _))) ?_;iterate 5 refine A1 O ?_
  exact Gt O<|⟨_,_,O,O,O⟩
 ·have hne:(v.toList==(⟨#[]⟩:ByteArray).toList)=false:=by rw [MQ];exact fun e=>he (bytes_inj e)
  obtain ⟨hv1,hv2⟩:=h.resolve_left he;exact Z1 O O<|Rs 15 O O (XJ.cast (v':= .pv (.bool false)) (cF O O O) (af (fun b=>V.pv (.bool b)) hne))<|Y2 O O<|Rg 18 O O O (ae call216 (jn v hv1 hv2) O)<|Y2 O O<|Gt O<|⟨_,_,O,O,O⟩
theorem qW (nm v:ByteArray) (h:v=⟨#[]⟩\/oS v=true/\v.size<=1000):FnP prog 179 [.agg [.str nm,.int .i64 3],.str v] (· = .bool true):=by
 refine FnP.of func179 O ntmps179 Ps fun m0 w0 F R0=>?_
 refine Z2 O O O<|Z2 O O O<|Z2 O O O ?_;refine Gc O O (fun hc12=>absurd hc12 Ps) (fun hc12=>?_);refine Z2 O O O ?_;refine Gc O O (fun hc20=>absurd hc20 Ps) (fun hc20=>?_);refine Z2 O O O ?_;refine Gc O O (fun hc50=>?_) (fun hc50=>absurd hc50 Ps);by_cases he:v=⟨#[]⟩
 ·subst he;refine Z1 O O<|Rs 53 O O (XJ.cast (v':= .pv (.bool true)) (cF O O O) (af (fun b=>V.pv (.bool b)) (NZ _))) ?_;iterate 5 refine A1 O ?_
  exact Gt O<|⟨_,_,O,O,O⟩
 ·have hne:(v.toList==(⟨#[]⟩:ByteArray).toList)=false:=by rw [MQ];exact fun e=>he (bytes_inj e)
  obtain ⟨hv1,hv2⟩:=h.resolve_left he;have hws:=q9 v Po;rw [hv1] at hws;exact Z1 O O<|Rs 53 O O (XJ.cast (v':= .pv (.bool false)) (cF O O O) (af (fun b=>V.pv (.bool b)) hne))<|Y2 O O<|Rg 56 O O O (ae call212 hws O)<|Y2 O O<|Gt O<|⟨_,_,O,O,O⟩
theorem yD (nm v:ByteArray) (h:NumOk v) (hne0:v≠⟨#[]⟩):FnP prog 179 [.agg [.str nm,.int .i64 2],.str v] (· = .bool true):=by
 refine FnP.of func179 O ntmps179 Ps fun m0 w0 F R0=>?_
 have hpa:=vT v h;have hden:bo (if cS v=true then o5 v else EE)=true/\1<=rdZ (if cS v=true then o5 v else EE)/\rdZ (if cS v=true then o5 v else EE)<=12:=by
  by_cases hs:cS v=true
  ·rw [qY hs];exact h.d hs
  ·rw [kH hs];exact ⟨nk,by rw [se];decide,by rw [se];decide⟩
 generalize (if cS v=true then o5 v else EE)=dn at*;have hsm:=p3 dn hden.1 Po;have hbd:=jn (sO v) h.n.1 h.n.2;have hne:(v.toList==(⟨#[]⟩:ByteArray).toList)=false:=by rw [MQ];exact fun e=>hne0 (bytes_inj e)
 have h1:decide (rdZ dn>=1)=true:=IS hden.2.1;have h2:decide (rdZ dn<=12)=true:=IS hden.2.2;refine Z2 O O O<|Z2 O O O<|Z2 O O O ?_;refine Gc O O (fun hc12=>absurd hc12 Ps) (fun hc12=>?_);refine Z2 O O O ?_;refine Gc O O (fun hc20=>?_) (fun hc20=>absurd hc20 Ps);refine Z1 O O<|Rs 24 O O (ae call217 hpa O) ?_;iterate 7 refine A1 O ?_
 refine Z1 O O<|Rs 30 O O (ae call218 hsm O) ?_;iterate 5 refine A1 O ?_
 refine Z1 O O<|Rs 34 O O (XJ.cast (v':= .pv (.bool false)) (cF O O O) (af (fun b=>V.pv (.bool b)) hne)) ?_;iterate 4 refine A1 O ?_
 exact Rg 39 O O O (ae call216 hbd O)<|Y3 O O O<|Rg 43 O O O (XJ.cast (v':= .pv (.bool true)) (aQ O O O) (af (fun b=>V.pv (.bool b)) h1))<|Y3 O O O<|Rg 47 O O O (XJ.cast (v':= .pv (.bool true)) (aQ O O O) (af (fun b=>V.pv (.bool b)) h2))<|Y3 O O O<|Gt O<|⟨_,_,O,O,O⟩
theorem vz (nm:ByteArray):FnP prog 179 [.agg [.str nm,.int .i64 2],.str ⟨#[]⟩] (· = .bool true):=by
 refine FnP.of func179 O ntmps179 Ps fun m0 w0 F R0=>?_
 have hpa:=vL;have hsm:=zW;refine Z2 O O O<|Z2 O O O<|Z2 O O O ?_;refine Gc O O (fun hc12=>absurd hc12 Ps) (fun hc12=>?_);refine Z2 O O O ?_;refine Gc O O (fun hc20=>?_) (fun hc20=>absurd hc20 Ps);refine Z1 O O<|Rs 24 O O (ae call217 hpa O) ?_;iterate 7 refine A1 O ?_
 refine Z1 O O<|Rs 30 O O (ae call218 hsm O) ?_;iterate 5 refine A1 O ?_
 refine Z1 O O<|Rs 34 O O (XJ.cast (v':= .pv (.bool true)) (cF O O O) (af (fun b=>V.pv (.bool b)) (NZ _))) ?_;iterate 16 refine A1 O ?_
 exact Gt O<|⟨_,_,O,O,O⟩
end
end Go.Proofs.YtedfonppffochaaGreatDoor
namespace Go.Proofs
open Go.Proofs.YtedfonppffochaaGreatDoor
open Go.Shelf
def Tryz.sortRow_ren:Go.Shelf.Ren:=⟨fun | 6=>53 | 15=>104 | 14=>103 | 28=>163 | 29=>164 | 20=>155 | 21=>156 | 22=>157 | 23=>158 | 24=>159 | 25=>160 | 26=>161 | 27=>162 | 46=>197 | 47=>198 | 48=>199 | 49=>200 | 50=>201 | 57=>238 | n=>n,fun | 22=>38 | 24=>49 | 25=>97 | 3=>3 | 39=>161 | 0=>0 | 53=>218 | 55=>136 | 4=>4 | 46=>211 | 45=>210 | 50=>215 | 5=>5 | 9=>9 | 66=>246 | 70=>250 | 76=>279 | 77=>280 | n=>n,fun | n=>n⟩
theorem Tryz.sortRow:Go.Proofs.SlLaysF0.n6 prog Tryz.sortRow_ren:={
 mixed:=Pp
 f6:=⟨Tryz.f53.name,Pq,Tryz.func53.trans (af some Pp)⟩
 f14:=⟨Tryz.f103.name,Pq,Tryz.func103.trans (af some Pp)⟩
 f15:=Tryz.func104.trans (af some Pp)
 f20:=⟨Tryz.f155.name,Pq,Tryz.func155.trans (af some Pp)⟩
 f21:=⟨Tryz.f156.name,Pq,Tryz.func156.trans (af some Pp)⟩
 f22:=⟨Tryz.f157.name,Pq,Tryz.func157.trans (af some Pp)⟩
 f23:=⟨Tryz.f158.name,Pq,Tryz.func158.trans (af some Pp)⟩
 f24:=⟨Tryz.f159.name,Pq,Tryz.func159.trans (af some Pp)⟩
 f25:=⟨Tryz.f160.name,Pq,Tryz.func160.trans (af some Pp)⟩
 f26:=⟨Tryz.f161.name,Pq,Tryz.func161.trans (af some Pp)⟩
 f27:=⟨Tryz.f162.name,Pq,Tryz.func162.trans (af some Pp)⟩
 f28:=Tryz.func163.trans (af some Pp)
 f29:=Tryz.func164.trans (af some Pp)
 f46:=⟨Tryz.f197.name,Pq,Tryz.func197.trans (af some Pp)⟩
 f47:=Tryz.func198.trans (af some Pp)
 f48:=Tryz.func199.trans (af some Pp)
 f49:=⟨Tryz.f200.name,Pq,Tryz.func200.trans (af some Pp)⟩
 f50:=⟨Tryz.f201.name,Pq,Tryz.func201.trans (af some Pp)⟩
 f57:=⟨Tryz.f238.name,Pq,Tryz.func238.trans (af some Pp)⟩
 t0:=Tryz.underlying0
 a0:=Tryz.isAgg0
 z0:=Tryz.sizeOf0
 v0:=Tryz.zeroValue0
 t3:=Tryz.underlying3
 a3:=Tryz.isAgg3
 z3:=Tryz.sizeOf3
 v3:=Tryz.zeroValue3
 t4:=Tryz.underlying4
 a4:=Tryz.isAgg4
 z4:=Tryz.sizeOf4
 v4:=Tryz.zeroValue4
 t5:=Tryz.underlying5
 a5:=Tryz.isAgg5
 z5:=Tryz.sizeOf5
 v5:=Tryz.zeroValue5
 t9:=Tryz.underlying9
 a9:=Tryz.isAgg9
 z9:=Tryz.sizeOf9
 v9:=Tryz.zeroValue9
 t22:=Tryz.underlying38
 a22:=Tryz.isAgg38
 z22:=Tryz.sizeOf38
 v22:=Tryz.zeroValue38
 t25:=Tryz.underlying97
 a25:=Tryz.isAgg97
 z25:=Tryz.sizeOf97
 v25:=Tryz.zeroValue97
 t39:=Tryz.underlying161
 a39:=Tryz.isAgg161
 z39:=Tryz.sizeOf161
 v39:=Tryz.zeroValue161
 t45:=Tryz.underlying210
 a45:=Tryz.isAgg210
 z45:=Tryz.sizeOf210
 v45:=Tryz.zeroValue210
 t46:=Tryz.underlying211
 a46:=Tryz.isAgg211
 z46:=Tryz.sizeOf211
 v46:=Tryz.zeroValue211
 t50:=Tryz.underlying215
 a50:=Tryz.isAgg215
 z50:=Tryz.sizeOf215
 v50:=Tryz.zeroValue215
 t53:=Tryz.underlying218
 a53:=Tryz.isAgg218
 z53:=Tryz.sizeOf218
 v53:=Tryz.zeroValue218
 t55:=Tryz.underlying136
 a55:=Tryz.isAgg136
 z55:=Tryz.sizeOf136
 v55:=Tryz.zeroValue136
 t66:=Tryz.underlying246
 a66:=Tryz.isAgg246
 z66:=Tryz.sizeOf246
 v66:=Tryz.zeroValue246
 t70:=Tryz.underlying250
 a70:=Tryz.isAgg250
 z70:=Tryz.sizeOf250
 v70:=Tryz.zeroValue250
 t76:=Tryz.underlying279
 a76:=Tryz.isAgg279
 z76:=Tryz.sizeOf279
 v76:=Tryz.zeroValue279
 t77:=Tryz.underlying280
 a77:=Tryz.isAgg280
 z77:=Tryz.sizeOf280
 v77:=Tryz.zeroValue280 }
end Go.Proofs
namespace Go.Proofs.YtedfonppffochaaGreatDoor
section
open Mk Jn
def xk (s t:ByteArray):Int:=if Op.bytesLess s.toList t.toList=true then-1 else if (s.toList==t.toList)=true then 0 else 1
def lN (a b:List ByteArray):Int:=if aZ a b=true then-1 else if a=b then 0 else 1
theorem Af (s:ByteArray) (w:World):Calls prog 172 #[.string s] w fun e w'=>e= .returned (.bool false)/\w=w':=by
 have hs:(s.toList !=s.toList)=false:=Ps
 go_enter func172,ntmps172
 go_wp2
 go_ret
 exact ⟨O,O⟩
theorem Ce (s t:ByteArray) (w:World):Calls prog 111 #[.string s,.string t] w fun e w'=>e= .returned (.int .i64 (xk s t))/\w=w':=by
 have hn:=Af
 go_enter func111,ntmps111
 go_wp2_with (go_at_call 172;refine (hn _ _).mono ?_;rintro e w' ⟨rfl,rfl⟩)
 ·have h1:Op.bytesLess s.toList t.toList=true:=Pr
  go_ret
  exact ⟨gp (by unfold xk;rw [qY h1]),O⟩
 ·have h1:Op.bytesLess s.toList t.toList=false:=Pr;have h2:(!s.toList==t.toList)=true:=Pr
  go_ret
  refine ⟨gp ?_,O⟩;unfold xk;rw [h1,kH Pq,kH (by simpa using h2)]
 ·have h1:Op.bytesLess s.toList t.toList=false:=Pr;have h2:(!s.toList==t.toList)=false:=Pr
  go_ret
  refine ⟨gp ?_,O⟩;unfold xk;rw [h1,kH Pq,qY (by simpa using h2)]
theorem xr {s t:ByteArray} (h:xk s t=0):s=t:=by
 unfold xk at h;split at h
 ·cases h
 ·split at h
  ·next h2=>exact bytes_inj (by simpa using h2)
  ·cases h
theorem E9 {a b:List ByteArray} {k:Nat} (ha:k<a.length) (hb:k<b.length) (e:a.take k=b.take k) (hne:xk a[k] b[k]≠0):lN a b=xk a[k] b[k]:=by
 have hd:a[k]≠b[k]:=fun e2=>hne (by
  unfold xk;rw [e2,kH (by rw [jG];simp),qY Ps])
 have hl:=oD ha hb e hd;have hab:a≠b:=fun e2=>by subst e2;exact hd O
 have ht:(a[k].toList==b[k].toList)=false:=by
  cases hh:(a[k].toList==b[k].toList) with
  | false=>rfl
  | true=>exact absurd (bytes_inj (by simpa using hh)) hd
 unfold lN xk;rw [hl,kH hab,ht];simp
theorem xY {a b:List ByteArray} {k:Nat} (ha:k<a.length) (hb:k=b.length) (e:a.take k=b.take k):lN a b=1:=by
 have hl:=gL (a:=a) (b:=b) (i:=k) Po Po (.inr hb) e;unfold lN;rw [hl,kH Pt,kH (by rintro rfl;omega)]
theorem vn {a b:List ByteArray} {k:Nat} (ha:k=a.length) (hb:k<=b.length) (e:a.take k=b.take k):lN a b=if (a.length:Int)<b.length then-1 else 0:=by
 have hl:=gL (a:=a) (b:=b) (i:=k) Po Po (.inl ha) e;unfold lN;rw [hl];by_cases h:(a.length:Int)<b.length
 ·rw [IS h];simp [h]
 ·rw [Mu h,kH Pq,qY,kH h];rw [a6 Po,a6 Po] at e;exact e
theorem uD (A B:Option Addr) (c d:Nat) (l m:List ByteArray) (w:World) {R:Nat->Prop} (h:Row w R A (GF l)) {R':Nat->Prop} (h':Row w R' B (GF m)) (hl:l.length<=1000000) (hm:m.length<=1000000):
  Calls prog 74 #[.slice A l.length c,.slice B m.length d] w fun e w'=>e= .returned (.int .i64 (lN l m))/\w=w':=by
 have hcc:=Ce;have hA:=@Row.D4 _ _ _ _ h;have hB:=@Row.D4 _ _ _ _ h';clear h h'
 go_enter func74,ntmps74
 go_wp2
 go_loop [11] (fun i=>∃ k:Nat,k<=l.length/\k<=m.length/\i= .int .i64 k/\l.take k=m.take k) (fun i=>l.length-(intOf i).toNat)
 case atStart=>exact ⟨0,bk _,bk _,O,Ps⟩
 case round=>
  obtain ⟨k,hk,hkm,rfl,hno⟩:=hrel;have HN:=Lib.hid hno;clear hno;by_cases hlt:k<l.length
  ·obtain ⟨b,off,rfl,hb,hck⟩:=hA hlt;by_cases hlt':k<m.length
   ·obtain ⟨b',off',rfl,hb',hck'⟩:=hB hlt';clear hA hB
    go_wp2_with (go_at_call 111;refine (hcc _ _ _).mono ?_;rintro e w' ⟨rfl,rfl⟩)
    ·have he:(xk l[k] m[k] !=0)=true:=Pr
     go_ret
     exact ⟨gp (E9 hlt hlt' HN.out (by simpa using he)).symm,O⟩
    ·have he:(xk l[k] m[k] !=0)=false:=Pr;refine ⟨⟨k+1,Po,Po,by go_num,?_⟩,by simp [intOf];omega⟩;have hn:=HN.out;rw [aR hlt,aR hlt',hn,xr (s:=l[k]) (t:=m[k]) (by simpa using he)]
   ·obtain rfl:k=m.length:=Po;clear hA hB
    go_wp2
    go_ret
    exact ⟨gp (xY hlt O HN.out).symm,O⟩
  ·clear hA hB
   go_wp2
   ·have he:l.length<m.length:=Pr
    go_ret
    refine ⟨gp ?_,O⟩;rw [vn Po hkm HN.out,qY Po]
   ·have he:¬ l.length<m.length:=Pr
    go_ret
    refine ⟨gp ?_,O⟩;rw [vn Po hkm HN.out,kH Po]
theorem sj (A B:Option Addr) (c d:Nat) (l m:List ByteArray) (p q:Int) (w:World) {R:Nat->Prop} (h:Row w R A (GF l)) {R':Nat->Prop} (h':Row w R' B (GF m)) (hl:l.length<=1000000) (hm:m.length<=1000000):
  Calls prog 54 #[.agg #[.slice A l.length c,.int .i64 p],.agg #[.slice B m.length d,.int .i64 q]] w fun e w'=>e= .returned (.int .i64 (lN l m))/\∃ n os',w'=Go.Sort.grow (w.drewN n) os':=by
 have hcon:=fun o1 o2=>uD A B c d l m ((w.alloc o1).alloc o2) ((h.alloc o1).alloc o2) ((h'.alloc o1).alloc o2) hl hm
 clear h h';generalize lN l m=z at hcon ⊢
 go_enter func54,ntmps54
 go_wp2_with (go_at_call 74;refine (hcon _ _).mono ?_;rintro e w' ⟨rfl,rfl⟩)
 go_ret
 exact ⟨O,0,_,by rw [Go.Sort.alloc_eq_grow,Go.Sort.alloc_eq_grow,Go.Sort.grow_grow];rfl⟩
end
section
open Mk Jn
theorem n0:NumOk ⟨#[48]⟩:=⟨Pq,Pp,⟨Pp,by decide+kernel⟩,fun h=>absurd h (by decide+kernel)⟩
theorem n1:NumOk ⟨#[49]⟩:=⟨Pq,Pp,⟨Pp,by decide+kernel⟩,fun h=>absurd h (by decide+kernel)⟩
theorem n2:NumOk ⟨#[50]⟩:=⟨Pq,Pp,⟨Pp,by decide+kernel⟩,fun h=>absurd h (by decide+kernel)⟩
theorem n3:NumOk ⟨#[51]⟩:=⟨Pq,Pp,⟨Pp,by decide+kernel⟩,fun h=>absurd h (by decide+kernel)⟩
theorem nm2:NumOk ⟨#[45,50]⟩:=⟨Pq,Pp,⟨Pp,by decide+kernel⟩,fun h=>absurd h (by decide+kernel)⟩
theorem nh:NumOk ⟨#[49,47,50]⟩:=⟨Pq,Pp,⟨Pp,by decide+kernel⟩,fun _=>⟨Pp,by decide+kernel,by decide+kernel⟩⟩
theorem n53:NumOk ⟨#[53,47,51]⟩:=⟨Pq,Pp,⟨Pp,by decide+kernel⟩,fun _=>⟨Pp,by decide+kernel,by decide+kernel⟩⟩
theorem we (nm v:ByteArray) (kd:Int) (hk:kd=1\/kd=2\/kd=3) (hv:v∈gX kd):FnP prog 179 [.agg [.str nm,.int .i64 kd],.str v] (· = .bool true):=by
 rcases hk with rfl | rfl | rfl
 ·refine kG nm v ?_;simp only [gX,rI,sh,NC,Pf] at hv;rcases hv with rfl | hv
  ·exact .inl O
  ·right
   simp at hv;rcases hv with rfl | rfl | rfl<;>exact ⟨Pp,by decide+kernel⟩
 ·by_cases hne:v=⟨#[]⟩
  ·rw [hne];exact vz nm
  ·refine yD nm v ?_ hne;simp only [gX,C6,sh,NC,Pf] at hv;have hv:=hv.resolve_left hne;simp at hv;rcases hv with rfl | rfl | rfl | rfl | rfl | rfl | rfl | rfl
   ·exact n0
   ·exact n1
   ·exact nm2
   ·exact nh
   ·exact n3
   ·exact n53
   ·exact n1
   ·exact n2
 ·refine qW nm v ?_;simp only [gX,Fk,sh,NC,Pf] at hv;rcases hv with rfl | hv
  ·exact .inl O
  ·right
   simp at hv;rcases hv with rfl | rfl | rfl<;>exact ⟨Pp,Pq⟩
theorem mf {w:World} {R:Nat->Prop}:∀ {l:List ByteArray} {us:List Value},RelPL w R (aA l) us->us=l.map Value.string
 | [],us,h=>by simpa [RelPL] using h
 | x::l,us,h=>by
   simp only [oy,RelPL,RelP] at h;obtain ⟨u,vs,rfl,rfl,h2⟩:=h;rw [mf h2];rfl
theorem tK {w:World} {R:Nat->Prop} (hR:∀ b,R b->b<w.heap.size) {l:List ByteArray} {us:List Value} {ps:List PV} (h:RelPL w R (aI l::ps) us):∃ A c vs,us= .slice A l.length c::vs/\Row w R A (GF l)/\RelPL w R ps vs:=by
 simp only [RelPL,RelP] at h;obtain ⟨u,vs,rfl,⟨A,c,rfl,_,_,_,_,h5⟩,h6⟩:=h;refine ⟨A,c,vs,O,fun hne=>?_,h6⟩;obtain ⟨b,off,us,rfl,h6,h7,h8⟩:=h5 (fun e=>hne (by rw [List.map_eq_nil_iff] at e ⊢; exact e));have e7:us=l.map Value.string:=mf h6;subst e7;exact ⟨b,off,O,h7,hR b h7,h8⟩
theorem x9 (a b:List ByteArray) (ha:a.length<=1000000) (hb:b.length<=1000000):FnP prog 74 [aI a,aI b] (· = .int .i64 (lN a b)):=by
 intro w R us hG hR hrel;obtain ⟨A,c,vs,rfl,r1,h1⟩:=tK hR hrel;obtain ⟨B,d,vs,rfl,r2,h2⟩:=tK hR h1;obtain rfl:=(by simpa [RelPL] using h2:vs=[]);exact (uD A B c d a b w r1 r2 ha hb).mono fun e w' ⟨he,hw⟩=>⟨_,_,he,O,by rw [<-hw];exact Below.refl _ _,by simp only [RelP]⟩
theorem Eb (a b:List ByteArray):decide (lN a b<0)=aZ a b:=by
 unfold lN;cases h:aZ a b with
 | true=>rw [qY O];rfl
 | false=>rw [kH Pq];by_cases h2:a=b<;>simp [h2]
theorem xb (a b:List ByteArray) (ha:a.length<=1000000) (hb:b.length<=1000000):FnP prog 32 [aI a,aI b] (· = .bool (aZ a b)):=by
 refine FnP.of func32 O ntmps32 Ps fun m0 w0 F R0=>?_
 have hc:=x9 a b ha hb;exact Z1 O O<|Z2 O O O<|Rs 7 O O (ae call74 hc O)<|Y2 O O<|Gt O<|⟨_,_,O,O,af PV.bool (Eb a b)⟩
end
section
open Mk Jn
def MdV (S:Sch) (A:List Int) (v:List ByteArray):Prop:=v.length=A.length/\∀ i (h:i<v.length) (h2:i<A.length),v[i]∈gX (S.attrs.getD A[i].toNat default).2
def MdR (S:Sch) (A:List Int) (x:Rw):Prop:=(1<=x.w/\x.w<=5)/\MdV S A x.v
def MdT (S:Sch) (A:List Int) (most:Nat) (l:List Rw):Prop:=∃ l0,l=lH l0/\l0.length<=most/\∀ x∈l0,MdR S A x
theorem Gb (v:List ByteArray) (x:ByteArray):aA v++[PV.str x]=aA (v++[x]):=Ps
theorem MdV.snoc {S:Sch} {A:List Int} {v:List ByteArray} {j:Nat} (hj:j<A.length) (h:v.length=j/\∀ i (h:i<v.length) (h2:i<A.length),v[i]∈gX (S.attrs.getD A[i].toNat default).2) {x:ByteArray} (hx:x∈gX (S.attrs.getD A[j].toNat default).2):
  (v++[x]).length=j+1/\∀ i (h:i<(v++[x]).length) (h2:i<A.length),(v++[x])[i]∈gX (S.attrs.getD A[i].toNat default).2:=by
 obtain ⟨rfl,hv⟩:=h;refine ⟨Ps,fun i h h2=>?_⟩;rcases Nx i v.length with h3 | h3
 ·rw [Oc h3];exact hv i h3 h2
 ·have e:i=v.length:=by simp at h;omega
  subst e;rw [List.getElem_append_right (xV _)];simpa using hx
theorem bW {α:Type} (l:List α) (a:α):l.length+1=(l++[a]).length:=Ps
theorem pV (L:List Int) (k:Nat) (hL:L.length<=600) (hk:k<=L.length) (S:Sch) (r most:Nat) (hm:most<=100) (hr:r<S.rels.length) (hA:S.rels[r].2.length<=1000) (hb:∀ a∈S.rels[r].2,0<=a/\a<S.attrs.length):
  FnM prog 15 85 (jB L k) [gK S,.int .i64 r,.int .i64 most] (fun v c=>(∃ l,MdT S S.rels[r].2 most l/\v=bL l)/\∃ k',k'<=L.length/\c=jB L k'):=by
 refine FnM.of func15 O ntmps15 Ps O Ps fun m0 w0 F R0=>?_
 have hkk:∀ k,k<=L.length->sNk L k<=L.length:=fun k hk=>by unfold sNk;split<;>omega
 have hk1:=hkk _ hk;have hn1:=zP L k ((most:Int)+1) hL hk Po Po;have hb1:=uV L k ((most:Int)+1) Po;generalize sNv L k ((most:Int)+1)=nb at*;have hrne:=ew hr;have hra:(bj S.rels)[r*2+1]? =some (ak S.rels[r].2):=by
  have h2:(((bj S.rels).drop (r*2)).take 2)[1]? =[PV.str S.rels[r].1,ak S.rels[r].2][1]? :=by rw [cW hr]
  simpa [Ma,MA] using h2
 generalize S.rels[r].2=A at*;refine Z2 O O O<|Z1 O O<|Im (Iu 9 1 2 49 O O)<|Z3 O O O O<|Rs 17 O O (iu call18 hn1 O O)<|A1 O ?_;refine Gl O (st:=fun ac:Int×Nat×List Rw=>mkS [(0,.ptr big 0),(2,.pv (.int .i64 r)),(5,.ptr 0 0),(9,.gsl 1 2 ac.2.2.length),(10,.pv (.int .i64 ac.1))] [(big,HD L ac.2.1),(0,.mix 34 [.pv (.sl none S.attrs.length (cc S.attrs)),.pv (.sl none S.rels.length (bj S.rels)),.pv (.sl none S.feats.length (bm S.feats)),.pv (.int .i64 S.label)]),(1,.gro 49 (aB ac.2.2))] 2)
  (I:=fun ac=>(((0<=ac.1/\ac.1<=most)/\(ac.2.2.length:Int)+ac.1<=most)/\ac.2.1<=L.length)/\∀ x∈ac.2.2,MdR S A x) (μ:=fun ac=>ac.1.toNat) (x0:=(nb,sNk L k,[])) (Io (aS O) (aO O) O O) (⟨⟨⟨⟨Pv,Pv⟩,by simp only [List.length_nil];omega⟩,hk1⟩,fun _ h=>absurd h Ps⟩) ?_
 rintro ⟨i,k2,l⟩ ⟨⟨⟨hi,hli⟩,hk2⟩,hl⟩;try simp only at hi hli hk2 hl ⊢
 refine Z2 O O O ?_;refine Gp O O (fun hc19=>?_) (fun hc19=>?_)
 ·obtain ⟨pk,hpk1,hpk⟩:=wm L k2 [1,1,2,5] hL hk2 Ps Ps;have hpk2:1<=pk/\pk<=5:=by simp at hpk1;omega
  have hk3:=hkk _ hk2;have hll:=aK l;refine Il<|Z1 O O<|Rs 23 O O (aq none Ps xj O Pq Pq O O)<|Rs 24 O O (iu call58 hpk O O)<|Y3 O O O<|Im (St.er (T':=49) (cs:=[.pv nS,.pv (.int .i64 pk)]) 2 0 3 1 9 Pp O Pp)<|Z3 O O O O<|Rs 29 O O (ag r underlying31 Eu O O O hr hrne)<|A1 O<|Rs 31 O O (ai ⟨_,underlying22,O⟩ O hra)<|Y2 O O ?_;refine Gl O (st:=fun x_1:Nat×Nat×List ByteArray=>mkS [(0,.ptr big 0),(2,.pv (.int .i64 r)),(5,.ptr 0 0),(9,.gsl 1 2 l.length),(10,.pv (.int .i64 i)),(11,.ptr 2 0),(31,.pv (ak A)),(32,.pv (.int .i64 A.length)),(33,.pv (.int .i64 x_1.1))] [(big,HD L x_1.2.1),(0,.mix 34 [.pv (.sl none S.attrs.length (cc S.attrs)),.pv (.sl none S.rels.length (bj S.rels)),.pv (.sl none S.feats.length (bm S.feats)),.pv (.int .i64 S.label)]),(1,.gro 49 (aB l)),(2,.mix 49 [.gsl 3 1 x_1.2.2.length,.pv (.int .i64 pk)]),(3,.gro 9 (aA x_1.2.2))] 4)
   (I:=fun x_1=>(x_1.1<=A.length/\x_1.2.1<=L.length)/\(x_1.2.2.length=x_1.1/\∀ i (h:i<x_1.2.2.length) (h2:i<A.length),x_1.2.2[i]∈gX (S.attrs.getD A[i].toNat default).2)) (μ:=fun x_1=>A.length-x_1.1) (x0:=(0,sNk L k2,[])) (Io (aS O) (aO O) O O) (⟨⟨bk _,hk3⟩,O,fun i h=>absurd h Ps⟩) ?_
  rintro ⟨j,k3,v⟩ ⟨⟨hj,hk4⟩,hmd⟩;try simp only at hj hk4 hmd ⊢
  refine Z1 O O ?_;refine Gp O O (fun hc34=>?_) (fun hc34=>?_)
  ·have hlj:j<A.length:=Po;obtain ⟨a,haa⟩:=so (hb _ (aJ hlj)).1;have hal:a<S.attrs.length:=by have:=(hb _ (aJ hlj)).2;omega
   have hpv:(aE A)[j*1]? =some (.int .i64 (a:Int)):=by rw [<-haa];simp [hlj]
   have hpn:=aH hlj;have har:=od hal;have han:=lq hal;obtain ⟨x,hxm,hxs⟩:=rZ L k3 hL hk4 S.attrs[a].1 S.attrs[a].2;have hmd2:=MdV.snoc hlj hmd (x:=x) (by rw [haa,Mb];simpa [List.getD,hal] using hxm);have hk5:=hkk _ hk4;have hvl:=hmd.1;refine Il<|Gr O<|Rs 35 O O (ag j underlying22 sz3 O O O hlj hpn)<|Rs 36 O O (ai ⟨_,underlying3,O⟩ O hpv)<|A1 O<|Ge O follows [0,1,2,3,4,5,6,7,8,9,10,11,12] Pp ?_;iterate 6 refine D1 O O ?_
   refine Ds 43 [] O O O (fun τ h=>ag a underlying28 G1 (Ee h 0 O O) (Ee h 1 O O) O hal han) O Pp<|Ds 44 [] O O O (fun τ h=>db ⟨_,underlying27,O⟩ G1 (Ee h 0 O O) har O) O Pp<|Ds 45 [_] O O O (fun τ h=>iu call59 hxs (h.args.trans O) (Eo h 0 O O)) O Pp ?_;iterate 4 refine D1 O O ?_
   refine ⟨Pp,?_⟩;exact Z2 O O O<|⟨(j+1,sNk L k3,v++[x]),Ip [0,1,2,5] (aT O) ⟨O,O,O,IN (b:=some (.mix 49 [.gsl 5 1 (v.length+1),.pv (.int .i64 pk)])) Pp (af (fun n=>some (Ob.mix 49 [.gsl 5 1 n,.pv (.int .i64 pk)])) (bW v x)),IN (b:=some (.gro 9 (aA v++[.str x]))) Pp (af (fun c=>some (Ob.gro 9 c)) (Gb v x)),Pw⟩ O O Pq O,⟨⟨Po,hk5⟩,hmd2⟩,Pv⟩
  ·refine Im (Ir 3 O O) ?_;have hmr:MdR S A ⟨v,pk⟩:=⟨hpk2,(by have:=hmd.1;omega:v.length=A.length),hmd.2⟩;refine Gx O<|Gr O ?_;iterate 5 refine A1 O ?_
   exact Z3 O O O O<|⟨(i-1,k3,l++[⟨v,pk⟩]),Ip [0,5] ⟨O,O,O,af (fun n=>V.gsl 5 2 n) (bW l ⟨v,pk⟩),O,Pw⟩ ⟨O,O,IN (b:=some (.gro 49 (aB l++eV ⟨v,pk⟩))) Pp (af (fun c=>some (Ob.gro 49 c)) (dW l ⟨v,pk⟩)),Pw⟩ O O Pq O,⟨⟨⟨Pv,by simp only [kQ,L8];omega⟩,hk4⟩,fun y hy=>by rcases Mc.1 hy with h | h;exact hl y h;rw [o7.1 h];exact hmr⟩,Pv⟩
 ·refine Im (Ir 1 O O) ?_;have hso:=wM l Po (fun x hx=>by have:=(hl x hx).2.1;omega) (fun x hx=>by have:=(hl x hx).1;omega);exact Gx O<|Z1 O O<|Rs 55 O O (ae call31 hso O)<|A1 O<|Gt O<|⟨_,jB L k2,O,O,⟨lH l,⟨l,O,Po,hl⟩,O⟩,k2,hk2,O⟩
def Cq (d:List (List Rw)):List PV:=d.map bL
abbrev dbP (d:List (List Rw)):PV:= .sl none d.length (Cq d)
theorem jE (d:List (List Rw)) (l:List Rw):Cq d++[bL l]=Cq (d++[l]):=by simp [Cq]
theorem dH (d:List (List Rw)):(Cq d).length=d.length*1:=by simp [Cq]
def MdD (S:Sch) (most n:Nat) (d:List (List Rw)):Prop:=d.length=n/\∀ i (h:i<d.length) (h2:i<S.rels.length),MdT S S.rels[i].2 most d[i]
theorem MdD.snoc {S:Sch} {most n:Nat} {d:List (List Rw)} (h:MdD S most n d) (hn:n<S.rels.length) {l:List Rw} (hl:MdT S S.rels[n].2 most l):MdD S most (n+1) (d++[l]):=by
 obtain ⟨rfl,hd⟩:=h;refine ⟨Ps,fun i h h2=>?_⟩;rcases Nx i d.length with h3 | h3
 ·rw [Oc h3];exact hd i h3 h2
 ·have e:i=d.length:=by simp at h;omega
  subst e;rw [List.getElem_append_right (xV _)];simpa using hl
theorem nB (L:List Int) (k:Nat) (hL:L.length<=600) (hk:k<=L.length) (S:Sch) (most:Nat) (hm:most<=100) (hS:S.rels.length<=1000) (hA:∀ r∈S.rels,r.2.length<=1000/\∀ a∈r.2,0<=a/\a<S.attrs.length):
  FnM prog 11 85 (jB L k) [gK S,.int .i64 most] (fun v c=>(∃ d,MdD S most S.rels.length d/\v=dbP d)/\∃ k',k'<=L.length/\c=jB L k'):=by
 refine FnM.of func11 O ntmps11 Ps O Ps fun m0 w0 F R0=>?_
 refine Z2 O O O<|Z1 O O<|Im (Iu 7 1 1 38 O O)<|Z4 O O O O O ?_;refine Gl O (st:=fun ac:Nat×Nat×List (List Rw)=>mkS [(0,.ptr big 0),(2,.pv (.int .i64 most)),(4,.ptr 0 0),(7,.gsl 1 1 ac.2.2.length),(11,.pv (.int .i64 S.rels.length)),(12,.pv (.int .i64 ac.1))] [(big,HD L ac.2.1),(0,.mix 34 [.pv (.sl none S.attrs.length (cc S.attrs)),.pv (.sl none S.rels.length (bj S.rels)),.pv (.sl none S.feats.length (bm S.feats)),.pv (.int .i64 S.label)]),(1,.gro 38 (Cq ac.2.2))] 2)
  (I:=fun ac=>(ac.1<=S.rels.length/\ac.2.1<=L.length)/\MdD S most ac.1 ac.2.2) (μ:=fun ac=>S.rels.length-ac.1) (x0:=(0,k,[])) (Io (aS O) (aO O) O O) (⟨⟨bk _,hk⟩,O,fun i h=>absurd h Ps⟩) ?_
 rintro ⟨i,k2,d⟩ ⟨⟨hi,hk2⟩,hd⟩;try simp only at hi hk2 hd ⊢
 refine Z1 O O ?_;refine Gp O O (fun hc13=>?_) (fun hc13=>?_)
 ·have hlt:i<S.rels.length:=Po;have hrA:=hA _ (aJ hlt);have hdl:=hd.1;have htl:=dH d;refine Il<|Z2 O O O<|Gr O ?_;iterate 5 refine A1 O ?_
  refine RL.call O (jW call15 (pV L k2 hL hk2 S i most hm hlt hrA.1 hrA.2) O O ?_);rintro _ _ ⟨⟨l,hml,rfl⟩,k3,hk3,rfl⟩;have hsn:=hd.snoc hlt hml;exact Y3 O O O<|Z2 O O O<|⟨(i+1,k3,d++[l]),Ip [0,3] ⟨O,O,O,af (fun n=>V.gsl 3 1 n) (bW d l),O,O,Pw⟩ ⟨O,O,IN (b:=some (.gro 38 (Cq d++[bL l]))) Pp (af (fun c=>some (Ob.gro 38 c)) (jE d l)),Pw⟩ O O Pq O,⟨⟨Po,hk3⟩,hsn⟩,Pv⟩
 ·refine Im (Ir 1 O O) ?_;have hin:i=S.rels.length:=Po;subst hin;exact Gx O<|Z2 O O O<|Gt O<|⟨_,jB L k2,O,O,⟨d,hd,O⟩,k2,hk2,O⟩
end
section
open Mk Jn
section
variable {C:Ctx} {n:Nat} {σ:St} {dst:Option Tmp} {ty t t':TypeId} {pos:String} {after:Array Edge} {gd:Option (Nat×Bool)} {x:Operand}
theorem l9 {e:TypeId} {k:Nat} {cs:List PV} {K:St->Prop} (hu:C.P.underlying t=some (.slice e)) (hx:σ.ev n x= .pv (.sl none k cs)) (hk:∀ b:Bool,(b=true->cs=[])->K (σ.app dst ⟨.pv (.bool b),[],[]⟩)):
  OJ C n ⟨dst,.binOp .eql t x (.const (.slice none 0 0)) t',ty,pos,after,gd⟩ K σ:=by
 rintro a w Q ⟨m,R,hw⟩;have:=hw.pv hx;simp only [RelP] at this;obtain ⟨A,c,e1,_,_,_,_,h5⟩:=this;have hc:a.eval (.const (.slice none 0 0))= .slice none 0 0:=rfl;have hb:A.isNone=true->cs=[]:=fun h=>by
  cases cs with
  | nil=>rfl
  | cons c cs=>
    obtain ⟨b,off,us,rfl,_⟩:=h5 Ps;cases h
 have hrun:(execOp a.eval ⟨dst,.binOp .eql t x (.const (.slice none 0 0)) t',ty,pos,after,gd⟩).run C.P w= .ok (.value (.bool A.isNone)) w:=by
  simp [execOp,e1,eqGuard,binOp,hc,run_equal_slice_nil _ _ _ _ _ _ hu]
 unfold Oper.wp;rw [hrun];exact ⟨_,hk A.isNone hb,m,R,St.dX σ dst _▸hw.put dst (by simp only [Rel,RelP])⟩
theorem ek {T e:TypeId} {z:Value} {size bytes:Nat} (id:Nat) (he:ElemIs C.P T e z size bytes) (hid:σ.av id=true):
  XJ C n ⟨dst,.buildSlice T 0 #[],ty,pos,after,gd⟩ σ ⟨.osl id size 0,[(id,some (.cells e []))],[id]⟩:=by
 rintro a w Q ⟨m,R,hw⟩;obtain ⟨i,hi,hz,hsize,hbytes⟩:=info_parts he.info;have hrun:(execOp a.eval ⟨dst,.buildSlice T 0 #[],ty,pos,after,gd⟩).run C.P w= .ok (.value (.slice (some ⟨w.heap.size,0,none⟩) 0 0)) (w.alloc (.cells #[] e)):=by
  have hb:(Instr.buildSlice T 0 #[]).run C.P w= .ok (.slice (some ⟨w.heap.size,0,none⟩) 0 0) (w.alloc (.cells #[] e)):=by
   simp [Instr.buildSlice,run_underlying he.u,sizeOf,typeInfo,hi,Instr.fill,newRow]
   congr 2
   exact Array.eq_empty_of_size_eq_zero Ps
  have hm:(#[]:Array (Nat×Operand)).map (fun x=>(x.1,a.eval x.2))= #[]:=Ps;simp only [execOp,hm,Sem.run_bind,hb,Result.andThen_ok,Sem.run_pure]
 unfold Oper.wp;rw [hrun];refine ⟨_,O,upd m id (some (w.heap.size,0)),R,?_⟩;rw [Iw];refine SW.put (hw.alloc hid #[] e (.cells e []) ?_) dst ?_
 ·intro w' m' av' hR hm ha hb;exact ⟨_,hb,O,xV _,RelPL.nil⟩
 ·simp only [Rel];refine ⟨by simp [avL],fun b N h=>?_⟩;rw [au] at h;cases h;exact ⟨0,O,xV _,by simp [maxLen],Ps⟩
end
theorem fX (l:List ByteArray) (hl:l.length<=1000000):FnP prog 99 [aI l] (· =aI l):=by
 refine FnP.fg2 (FnP.of func99 O ntmps99 Ps fun m0 w0 F R0=>?_);refine Z1 O O<|Z1 O O ?_;refine RL.call O (l9 underlying47 O ?_);intro b hb;refine Gc O O (fun hc4=>?_) (fun hc4=>?_)
 ·have hl0:l=[]:=List.map_eq_nil_iff.1 (hb hc4);exact Z1 O O<|Gt O<|⟨_,_,O,O,by rw [hl0];rfl⟩
 ·refine Il<|Gr O<|Rs 5 O O (ek 0 uq O)<|A1 O<|Rs 7 O O (fc 1 uq O O O (.inl ⟨none,O⟩) Ps (fun c hc=>by obtain ⟨y,_,rfl⟩:=IT.1 hc;rfl) Po O) ?_;exact A1 O<|Im (Ir 1 O O)<|Gt O<|⟨_,_,O,O,show PV.sl none (0+l.length) ([]++aA l)=_ by rw [Mt,MZ]⟩
def eB (ls:List Int) (n:Nat):List Int:=(List.range n).map fun a:Nat=>((ls.count (a:Int):Nat):Int)
theorem p9 (ls:List Int) (n:Nat):(eB ls n).length=n:=by simp [eB]
theorem u6 {ls:List Int} {n a:Nat} (h:a<n):(aE (eB ls n))[a*1]? =some (.int .i64 ((ls.count (a:Int):Nat):Int)):=by simp [eB,h]
theorem xC {ls:List Int} {n a:Nat} (h:a<n):(aE (eB ls n)).set (a*1) (.int .i64 (((ls.count (a:Int):Nat):Int)+1))=aE (eB (ls++[(a:Int)]) n):=by
 apply MJ
 ·simp [eB]
 ·intro i h1 h2;simp only [eB,Oi,Nj,OV,List.count_append,Mi];by_cases e:a=i
  ·subst e;rw [qY O];simp
  ·rw [kH e];have:List.count (i:Int) [(a:Int)]=0:=by rw [List.count_eq_zero];simp;omega
   rw [this,Ny]
theorem vU (n:Nat):List.replicate n (PV.int .i64 0)=aE (eB [] n):=by
 apply MJ
 ·simp [eB]
 ·intro i h1 h2;simp [eB]
def bE (ls:List Int) (A:List Int) (x:Rw):Bool:=(A.zip x.v).all fun p=> !(p.2.toList==(⟨#[]⟩:ByteArray).toList)||((ls.count p.1:Nat):Int)==1
def gF (S:Sch) (A:List Int) (l:List Rw):List Rw:=l.filter (bE (S.rels.flatMap (·.2)) A)
end
section
open Mk Jn
structure SJn (S:Sch):Prop where
 a:S.attrs.length<=1000
 r:S.rels.length<=1000
 l:∀ r∈S.rels,r.2.length<=1000
 b:∀ r∈S.rels,∀ a∈r.2,0<=a/\a<S.attrs.length
theorem xL {l:List (ByteArray×List Int)} {k:Nat} (h:k<l.length):(l.take (k+1)).flatMap (·.2)=(l.take k).flatMap (·.2)++l[k].2:=by
 rw [aR h,Nb];simp
theorem eM {A:List Int} {v:List ByteArray} (hl:v.length=A.length) {j:Nat} (hj:j<A.length) (f:Int×ByteArray->Bool):((A.zip v).take (j+1)).all f=(((A.zip v).take j).all f&&f (A[j],v[j]'Po)):=by
 have h:j<(A.zip v).length:=by simp;omega
 rw [aR h,List.all_append];simp
theorem yO {l:List (ByteArray×List Int)} (h:∀ r∈l,r.2.length<=1000):(l.flatMap (·.2)).length<=l.length*1000:=by
 induction l with
 | nil=>simp
 | cons a l ih=>
   have h1:=h a Ps;have h2:=ih fun r hr=>h r (by simp [hr])
   rw [M8,kQ,AS];omega
theorem zS (S:Sch) (hS:SJn S) (r:Nat) (hr:r<S.rels.length) (l:List Rw) (hl:l.length<=1000) (hv:∀ x∈l,x.v.length=S.rels[r].2.length):
  FnP prog 73 [gK S,.int .i64 r,bL l] (· =bL (gF S S.rels[r].2 l)):=by
 refine FnP.of func73 O ntmps73 Ps fun m0 w0 F R0=>?_
 have hll:=aK l;have hSa:=hS.a;have hSr:=hS.r;have hrne:=ew hr;have hra:(bj S.rels)[r*2+1]? =some (ak S.rels[r].2):=by
  have h2:(((bj S.rels).drop (r*2)).take 2)[1]? =[PV.str S.rels[r].1,ak S.rels[r].2][1]? :=by rw [cW hr]
  simpa [Ma,MA] using h2
 have hrl:=hS.l _ (aJ hr);have hrb:=hS.b _ (aJ hr);unfold gF;generalize S.rels[r].2=A at*;refine Z2 O O O<|Gr O ?_;iterate 5 refine A1 O ?_
 refine Z4 O O O O O ?_;refine Gl O (st:=fun ac:Nat=>mkS [(1,.pv (.int .i64 r)),(2,.pv (bL l)),(3,.ptr 0 0),(7,.osl 1 1 S.attrs.length),(23,.pv (.sl none S.rels.length (bj S.rels))),(24,.pv (.int .i64 S.rels.length)),(25,.pv (.int .i64 ac))] [(0,.mix 34 [.pv (.sl none S.attrs.length (cc S.attrs)),.pv (.sl none S.rels.length (bj S.rels)),.pv (.sl none S.feats.length (bm S.feats)),.pv (.int .i64 S.label)]),(1,.cells 3 (aE (eB ((S.rels.take ac).flatMap (·.2)) S.attrs.length)))] 2)
  (I:=fun ac=>ac<=S.rels.length) (μ:=fun ac=>S.rels.length-ac) (x0:=(0)) (Io (aS O) ⟨O,af (fun c=>some (Ob.cells 3 c)) ((ct (.int .i64 0) (S.attrs.length*1)).trans (by rw [Mi,vU];rfl)),Pw⟩ O O) (bk _) ?_
 rintro k hk;refine Z1 O O ?_;refine Gp O O (fun hc26=>?_) (fun hc26=>?_)
 ·have hlt:k<S.rels.length:=Po;have hrow:=cW hlt;have hne:=ew hlt;have hkl:=hS.l _ (aJ hlt);have hkb:=hS.b _ (aJ hlt);have hfs:=xL hlt;generalize S.rels[k]=rk at*;refine Il<|Z1 O O ?_;first | refine A3 O Pr ?_ | refine A1 O ?_
  refine Y2 O O<|Z4 O O O O O ?_;refine Gl O (st:=fun x_1:Nat=>mkS [(1,.pv (.int .i64 r)),(2,.pv (bL l)),(3,.ptr 0 0),(7,.osl 1 1 S.attrs.length),(23,.pv (.sl none S.rels.length (bj S.rels))),(24,.pv (.int .i64 S.rels.length)),(25,.pv (.int .i64 k)),(30,.pv (ak rk.2)),(31,.pv (.int .i64 rk.2.length)),(32,.pv (.int .i64 x_1))] [(0,.mix 34 [.pv (.sl none S.attrs.length (cc S.attrs)),.pv (.sl none S.rels.length (bj S.rels)),.pv (.sl none S.feats.length (bm S.feats)),.pv (.int .i64 S.label)]),(1,.cells 3 (aE (eB ((S.rels.take k).flatMap (·.2)++rk.2.take x_1) S.attrs.length)))] 3)
   (I:=fun x_1=>x_1<=rk.2.length) (μ:=fun x_1=>rk.2.length-x_1) (x0:=(0)) (Io (aS O) ⟨O,af (fun c=>some (Ob.cells 3 (aE (eB c S.attrs.length)))) Ps,Pw⟩ O O) (bk _) ?_
  rintro j hj;refine Z1 O O ?_;refine Gp O O (fun hc33=>?_) (fun hc33=>?_)
  ·have hlj:j<rk.2.length:=Po;obtain ⟨a,haa⟩:=so (hkb _ (aJ hlj)).1;have hal:a<S.attrs.length:=by have:=(hkb _ (aJ hlj)).2;omega
   have hpv:(aE rk.2)[j*1]? =some (.int .i64 (a:Int)):=by rw [<-haa];simp [hlj]
   have hpn:=aH hlj;have htk:rk.2.take (j+1)=rk.2.take j++[(a:Int)]:=by rw [aR hlj,haa]
   have hfl:=yO (l:=S.rels.take k) fun r hr=>hS.l r (Nl hr)
   have htl:(S.rels.take k).length<=1000:=by rw [AI];omega
   have hLl:((S.rels.take k).flatMap (·.2)++rk.2.take j).length<=2000000:=by rw [kQ,AI];omega
   generalize hLS:(S.rels.take k).flatMap (·.2)++rk.2.take j=LS at*;have hua:=u6 (ls:=LS) hal;have hus:=xC (ls:=LS) hal;have hul:(aE (eB LS S.attrs.length)).length=S.attrs.length:=by rw [xT,p9]
   have hcb:LS.count (a:Int)<=2000000:=AT List.count_le_length hLl;exact Il<|Z1 O O<|Rs 35 O O (ai ⟨_,underlying3,O⟩ O hpv)<|A1 O<|Z3 O O O O<|Rs 39 O O (aC ⟨_,underlying3,O⟩ O O hua)<|Y2 O O<|RL.step (d:=none) O O (aF sz3 O O O O Po)<|Z2 O O O<|⟨(j+1),Io (aS O) ⟨O,IN (b:=some (.cells 3 ((aE (eB LS S.attrs.length)).set (a*1) (.int .i64 (((LS.count (a:Int):Nat):Int)+1))))) Pp (af (fun c=>some (Ob.cells 3 c)) (hus.trans (by rw [htk,<-NG,hLS]))),Pw⟩ O O,Po,Po⟩
  ·exact Gx O<|Z2 O O O<|⟨(k+1),Io (aS O) ⟨O,af (fun c=>some (Ob.cells 3 (aE (eB c S.attrs.length)))) (by rw [hfs,show rk.2.take j=rk.2 from a6 Po]),Pw⟩ O O,Po,Po⟩
 ·have hLl:=yO (l:=S.rels) fun r hr=>hS.l r hr
  rw [show S.rels.take k=S.rels from a6 Po];generalize S.rels.flatMap (·.2)=LS at*;have hul:(aE (eB LS S.attrs.length)).length=S.attrs.length:=by rw [xT,p9]
  refine Gx O<|Z1 O O<|Im (Iu 12 2 2 49 O O)<|Z3 O O O O ?_;refine Gl O (st:=fun x_2:Nat×List Rw=>mkS [(1,.pv (.int .i64 r)),(3,.ptr 0 0),(7,.osl 1 1 S.attrs.length),(12,.gsl 2 2 x_2.2.length),(44,.pv (bL l)),(45,.pv (.int .i64 l.length)),(46,.pv (.int .i64 x_2.1))] [(0,.mix 34 [.pv (.sl none S.attrs.length (cc S.attrs)),.pv (.sl none S.rels.length (bj S.rels)),.pv (.sl none S.feats.length (bm S.feats)),.pv (.int .i64 S.label)]),(1,.cells 3 (aE (eB LS S.attrs.length))),(2,.gro 49 (aB x_2.2))] 3)
   (I:=fun x_2=>(x_2.1<=l.length/\x_2.2.length<=x_2.1)/\x_2.2=(l.take x_2.1).filter (bE LS A)) (μ:=fun x_2=>l.length-x_2.1) (x0:=(0,[])) (Io (aS O) (aO O) O O) (⟨⟨bk _,xV _⟩,O⟩) ?_
  rintro ⟨i,q⟩ ⟨hi,hq⟩;try simp only at hi hq ⊢
  refine Z1 O O ?_;refine Gp O O (fun hc47=>?_) (fun hc47=>?_)
  ·have hil:i<l.length:=Po;have hrw:=aN hil;have hrn:=aW hil;have hxl:=hv _ (aJ hil);have hql:=aK q;have htk2:l.take (i+1)=l.take i++[l[i]]:=aR hil;generalize l[i]=x at*;refine Il<|Z1 O O ?_;first | refine A3 O Pr ?_ | refine A1 O ?_
   refine Y2 O O<|Z1 O O<|Z3 O O O O<|Rs 53 O O (ag r underlying31 Eu O O O hr hrne)<|A1 O<|Rs 55 O O (ai ⟨_,underlying22,O⟩ O hra)<|Y2 O O ?_;refine Gl O (st:=fun x_3:Nat×Bool=>mkS [(1,.pv (.int .i64 r)),(3,.ptr 0 0),(7,.osl 1 1 S.attrs.length),(12,.gsl 2 2 q.length),(14,.ptr 3 0),(15,.pv (.bool x_3.2)),(44,.pv (bL l)),(45,.pv (.int .i64 l.length)),(46,.pv (.int .i64 i)),(55,.pv (ak A)),(56,.pv (.int .i64 A.length)),(57,.pv (.int .i64 x_3.1))] [(0,.mix 34 [.pv (.sl none S.attrs.length (cc S.attrs)),.pv (.sl none S.rels.length (bj S.rels)),.pv (.sl none S.feats.length (bm S.feats)),.pv (.int .i64 S.label)]),(1,.cells 3 (aE (eB LS S.attrs.length))),(2,.gro 49 (aB q)),(3,.mix 49 [.pv (aI x.v),.pv (.int .i64 x.w)])] 4)
    (I:=fun x_3=>x_3.1<=A.length/\x_3.2=((A.zip x.v).take x_3.1).all fun p=> !(p.2.toList==(⟨#[]⟩:ByteArray).toList)||((LS.count p.1:Nat):Int)==1) (μ:=fun x_3=>A.length-x_3.1) (x0:=(0,true)) (Io (aS O) (aO O) O O) (⟨bk _,O⟩) ?_
   rintro ⟨j,b⟩ ⟨hj,hb⟩;try simp only at hj hb ⊢
   refine Z1 O O ?_;refine Gp O O (fun hc58=>?_) (fun hc58=>?_)
   ·have hlj:j<A.length:=Po;have hzs:=eM hxl hlj fun p=> !(p.2.toList==(⟨#[]⟩:ByteArray).toList)||((LS.count p.1:Nat):Int)==1
    obtain ⟨a,haa⟩:=so (hrb _ (aJ hlj)).1;have hal:a<S.attrs.length:=by have:=(hrb _ (aJ hlj)).2;omega
    have hpv:(aE A)[j*1]? =some (.int .i64 (a:Int)):=by rw [<-haa];simp [hlj]
    have hpn:=aH hlj;have hjv:j<x.v.length:=Po;have hsv:=aM hjv;have hsn:=bc hjv;have hua:=u6 (ls:=LS) hal;rw [<-hb,haa] at hzs;simp only at hzs;refine Il<|Z2 O O O<|Rs 61 O O (ai ⟨_,underlying3,O⟩ O hpv)<|Y2 O O ?_;by_cases hbt:b=true
    ·by_cases hve:(x.v[j].toList==(⟨#[]⟩:ByteArray).toList)=true
     ·refine Gr O<|Rs 62 O O (XJ.cast (v':= .pv (.bool true)) (jP O) (af (fun b=>V.pv (.bool b)) hbt)) ?_;iterate 5 refine A1 O ?_
      refine Rg 68 O O O (ai ⟨_,underlying9,O⟩ O hsv)<|Rg 69 O O O (XJ.cast (v':= .pv (.bool false)) (cF O O O) (af (fun b=>V.pv (.bool !b)) hve)) ?_;iterate 4 refine A1 O ?_
      refine Rg 74 O O O (aC ⟨_,underlying3,O⟩ O O hua) ?_;iterate 4 refine A1 O ?_
      exact Z2 O O O<|⟨(j+1,(((LS.count (a:Int):Nat):Int)==1)),Io (aS O) (aO O) O O,⟨Po,by simp only;rw [hzs,hbt,hve];rfl⟩,Pv⟩
     ·refine Gr O<|Rs 62 O O (XJ.cast (v':= .pv (.bool true)) (jP O) (af (fun b=>V.pv (.bool b)) hbt)) ?_;iterate 5 refine A1 O ?_
      refine Rg 68 O O O (ai ⟨_,underlying9,O⟩ O hsv)<|Rg 69 O O O (XJ.cast (v':= .pv (.bool true)) (cF O O O) (af (fun b=>V.pv (.bool !b)) (MH hve))) ?_;iterate 9 refine A1 O ?_
      exact Z2 O O O<|⟨(j+1,true),Io (aS O) (aO O) O O,⟨Po,by simp only;rw [hzs,hbt,MH hve];rfl⟩,Pv⟩
    ·refine Gr O<|Rs 62 O O (XJ.cast (v':= .pv (.bool false)) (jP O) (af (fun b=>V.pv (.bool b)) (MH hbt))) ?_;iterate 16 refine A1 O ?_
     exact Z2 O O O<|⟨(j+1,false),Io (aS O) (aO O) O O,⟨Po,by simp only;rw [hzs,MH hbt,Bool.false_and]⟩,Pv⟩
   ·have hbl:bE LS A x=b:=by unfold bE;rw [hb,a6 Pt]
    refine Gx O<|Z1 O O ?_;refine Gc O O (fun hc79=>?_) (fun hc79=>?_)
    ·refine Ge O follows [0,1,2,3,4,5,6,7,8,9] Pp ?_;iterate 3 refine D1 O O ?_
     refine Ds 83 [] O O O (fun τ h=>ae call99 (fX x.v Po) (h.bt O)) O Pp ?_;iterate 6 refine D1 O O ?_
     refine ⟨Pp,?_⟩;exact Z2 O O O<|⟨(i+1,q++[x]),Ip [0,1,5] ⟨O,O,O,af (fun n=>V.gsl 5 2 n) (bW q x),O,O,O,Pw⟩ ⟨O,O,IN (b:=some (.gro 49 (aB q++eV x))) Pp (af (fun c=>some (Ob.gro 49 c)) (dW q x)),Pw⟩ O O Pq O,⟨⟨Po,by simp only [kQ,L8];omega⟩,by rw [htk2,MR,<-hq];simp only [MW,List.filter_nil];rw [qY (hbl.trans hc79)]⟩,Pv⟩
    ·exact Il<|Z2 O O O<|⟨(i+1,q),Io (aS O) (aO O) O O,⟨⟨Po,Pv⟩,by rw [htk2,MR,<-hq];simp only [MW,List.filter_nil];rw [kH (by rw [hbl,hc79];decide),MN]⟩,Pv⟩
  ·exact Im (Ir 2 O O)<|Gx O<|Z2 O O O<|Gt O<|⟨_,_,O,O,by rw [show l.filter (bE LS A)=q by rw [hq,a6 Po]];rfl⟩
end
namespace Jn
set_option autoImplicit false
section
variable {α:Type} [DecidableEq α]
abbrev Asg (α:Type):=Int->Option α
def put (σ:Asg α) (a:Int) (x:α):Asg α:=fun b=>if b=a then some x else σ b
def agr (A:List Int) (σ:Asg α) (row:List α):Bool:=(A.zip row).all fun p=>match σ p.1 with
 | none=>true
 | some x=>decide (x=p.2)
theorem ib {A:List Int} {σ τ:Asg α} (h:∀ a∈A,σ a=τ a) (row:List α):agr A σ row=agr A τ row:=by
 unfold agr;rw [Mg,uv,uv];constructor
 ·intro k p hp;have:=k p hp;rw [<-h p.1 (OX hp).1];exact this
 ·intro k p hp;have:=k p hp;rw [h p.1 (OX hp).1];exact this
def Sub (σ τ:Asg α):Prop:=∀ a x,σ a=some x->τ a=some x
theorem zw {A:List Int} {σ τ:Asg α} (h:Sub σ τ) {row:List α} (k:agr A τ row=true):agr A σ row=true:=by
 unfold agr at*;rw [uv] at*;intro p hp;have:=k p hp;cases e:σ p.1 with
 | none=>rfl
 | some x=>rw [h _ _ e] at this;exact this
structure Rels (α:Type) where
 A:List (List Int)
 T:List (List (List α))
def Rels.at (P:Rels α) (r:Nat):List Int:=P.A.getD r []
def Rels.rows (P:Rels α) (r:Nat):List (List α):=P.T.getD r []
def Bd (P:Rels α) (r:Nat) (σ:Asg α):Bool:=(P.rows r).any (agr (P.at r) σ)
def bw (P:Rels α) (v:Int):List Nat:=(List.range P.A.length).filter fun r=>decide (v∈P.at r)
structure IsCand (P:Rels α) (v:Int) (σ:Asg α) (cs:List α):Prop where
 nd:cs.Nodup
 mem:∀ x,x∈cs↔∀ r∈bw P v,Bd P r (put σ v x)=true
theorem yx {P:Rels α} {r:Nat} {σ τ:Asg α} (h:Sub σ τ) (k:Bd P r τ=true):Bd P r σ=true:=by
 unfold Bd at*;rw [My] at*;obtain ⟨row,h1,h2⟩:=k;exact ⟨row,h1,zw h h2⟩
theorem fZ {P:Rels α} {r:Nat} {σ τ:Asg α} (h:∀ a∈P.at r,σ a=τ a):Bd P r σ=Bd P r τ:=by
 unfold Bd;rw [Mg,My,My];exact ⟨fun ⟨x,h1,h2⟩=>⟨x,h1,by rw [<-ib h];exact h2⟩,fun ⟨x,h1,h2⟩=>⟨x,h1,by rw [ib h];exact h2⟩⟩
def enW (cd:Int->Asg α->List α):List Int->Asg α->List (Asg α)
 | [],σ=>[σ]
 | v::vs,σ=>(cd v σ).flatMap fun x=>enW cd vs (put σ v x)
omit [DecidableEq α] in
theorem cG (σ:Asg α) (a:Int) (x:α):put σ a x a=some x:=qY O
omit [DecidableEq α] in
theorem dZ (σ:Asg α) {a b:Int} (x:α) (h:b≠a):put σ a x b=σ b:=kH h
omit [DecidableEq α] in
theorem gu {cd:Int->Asg α->List α}:∀ {vs:List Int} {σ τ:Asg α},τ∈enW cd vs σ->∀ a,a∉vs->τ a=σ a
 | [],σ,τ,h,a,_=>by rw [enW,o7] at h;rw [h]
 | v::vs,σ,τ,h,a,ha=>by
   rw [enW,Mq] at h;obtain ⟨x,_,h⟩:=h;rw [gu h a (fun e=>ha (by simp [e])),dZ _ _ (fun e=>ha (by simp [e]))]
omit [DecidableEq α] in
theorem qM {cd:Int->Asg α->List α} (hc:∀ v σ,(cd v σ).Nodup):∀ {vs:List Int} {σ:Asg α},vs.Nodup->(enW cd vs σ).Nodup
 | [],σ,_=>by simp [enW]
 | v::vs,σ,hn=>by
   rw [NO] at hn;rw [enW];have key:∀ (l:List α),l.Nodup->(l.flatMap fun x=>enW cd vs (put σ v x)).Nodup:=by
    intro l;induction l with
    | nil=>intro _;simp
    | cons x l ih=>
      intro hl;rw [NO] at hl;rw [M8,List.nodup_append];refine ⟨qM hc hn.2,ih hl.2,fun τ h1 τ' h2 e=>?_⟩;subst e;obtain ⟨y,hy,h2⟩:=Mq.1 h2;have e1:=gu h1 v hn.1;have e2:=gu h2 v hn.1;rw [cG] at e1 e2;rw [e1] at e2;cases e2;exact hl.1 hy
   exact key _ (hc v σ)
theorem nM {P:Rels α} {cd:Int->Asg α->List α}:∀ {vs:List Int} (_:∀ v∈vs,∀ σ,IsCand P v σ (cd v σ)) {σ τ:Asg α},vs.Nodup->(∀ a∈vs,σ a=none)->
  (τ∈enW cd vs σ↔(∀ a,a∉vs->τ a=σ a)/\(∀ a∈vs,(τ a).isSome=true)/\∀ r<P.A.length,(∃ a∈vs,a∈P.at r)->Bd P r τ=true)
 | [],_,σ,τ,_,_=>by
   rw [enW,o7];constructor
   ·rintro rfl;exact ⟨fun _ _=>rfl,fun _ h=>absurd h Ps,fun _ _ ⟨_,h,_⟩=>absurd h Ps⟩
   ·intro h;funext a;exact h.1 a Ps
 | v::vs,hc,σ,τ,hn,hs=>by
   rw [NO] at hn;have hc':∀ v∈vs,∀ σ,IsCand P v σ (cd v σ):=fun u hu=>hc u (by simp [hu])
   have hs':∀ x,∀ a∈vs,put σ v x a=none:=fun x a ha=>by rw [dZ _ _ (fun e:a=v=>hn.1 (by rw [<-e];exact ha))];exact hs a (by simp [ha])
   rw [enW,Mq];constructor
   ·rintro ⟨x,hx,h⟩;have hm:=(nM hc' hn.2 (hs' x)).1 h;have hv:τ v=some x:=by rw [hm.1 v hn.1,cG]
    refine ⟨fun a ha=>?_,fun a ha=>?_,fun r hr ⟨a,ha,hra⟩=>?_⟩
    ·rw [hm.1 a (fun e=>ha (by simp [e])),dZ _ _ (fun e=>ha (by simp [e]))]
    ·rcases sh.1 ha with rfl | ha
     ·rw [hv];rfl
     ·exact hm.2.1 a ha
    ·by_cases h2:∃ b∈vs,b∈P.at r
     ·exact hm.2.2 r hr h2
     ·have hav:a=v:=by
       rcases sh.1 ha with e | e
       ·exact e
       ·exact absurd ⟨a,e,hra⟩ h2
      subst hav;have:=((hc a Ps σ).mem x).1 hx r (L9.2 ⟨Mx.2 hr,by simpa using hra⟩);rw [<-this];exact fZ fun b hb=>hm.1 b fun e=>h2 ⟨b,e,hb⟩
   ·rintro ⟨h1,h2,h3⟩;obtain ⟨x,hx⟩:=BY.1 (h2 v Ps);have hsub:Sub (put σ v x) τ:=fun a y e=>by
     by_cases hav:a=v
     ·subst hav;rw [cG] at e;cases e;exact hx
     ·rw [dZ _ _ hav] at e;by_cases hvs:a∈v::vs
      ·rw [hs a hvs] at e;cases e
      ·rw [h1 a hvs];exact e
    refine ⟨x,((hc v Ps σ).mem x).2 fun r hr=>?_,(nM hc' hn.2 (hs' x)).2 ⟨fun a ha=>?_,fun a ha=>h2 a (by simp [ha]),fun r hr ⟨a,ha,hra⟩=>h3 r hr ⟨a,by simp [ha],hra⟩⟩⟩
    ·obtain ⟨hr1,hr2⟩:=L9.1 hr;exact yx hsub (h3 r (Mx.1 hr1) ⟨v,Ps,by simpa using hr2⟩)
    ·by_cases hav:a=v
     ·subst hav;rw [cG,hx]
     ·rw [dZ _ _ hav];exact h1 a (by simp [hav,ha])
end
structure SR (R:Type) where
 zero:R
 one:R
 add:R->R->R
 mul:R->R->R
 add_assoc:∀ a b c,add (add a b) c=add a (add b c)
 zero_add:∀ a,add zero a=a
 add_zero:∀ a,add a zero=a
 mul_assoc:∀ a b c,mul (mul a b) c=mul a (mul b c)
 mul_comm:∀ a b,mul a b=mul b a
 one_mul:∀ a,mul one a=a
 zero_mul:∀ a,mul zero a=zero
 add_mul:∀ a b c,mul (add a b) c=add (mul a c) (mul b c)
section
variable {R:Type} (S:SR R)
def eg:List R->R
 | []=>S.zero
 | a::l=>S.add a (eg l)
theorem kK (l m:List R):eg S (l++m)=S.add (eg S l) (eg S m):=by
 induction l with
 | nil=>rw [MZ,eg,S.zero_add]
 | cons a l ih=>rw [MX,eg,ih,eg,S.add_assoc]
theorem uS (l:List R) (c:R):eg S (l.map fun a=>S.mul a c)=S.mul (eg S l) c:=by
 induction l with
 | nil=>rw [M9,eg,S.zero_mul]
 | cons a l ih=>rw [oy,eg,ih,eg,S.add_mul]
theorem vq (l:List R) (c:R):eg S (l.map fun a=>S.mul c a)=S.mul c (eg S l):=by
 rw [S.mul_comm c,<-uS]
 congr 1
 exact Mr fun a _=>S.mul_comm c a
theorem jb {β γ:Type} (l:List β) (f:β->List γ) (w:γ->R):eg S ((l.flatMap f).map w)=eg S (l.map fun b=>eg S ((f b).map w)):=by
 induction l with
 | nil=>rfl
 | cons b l ih=>rw [M8,Mw,kK,ih,oy,eg]
theorem cx {β:Type} {l:List β} {f g:β->R} (h:∀ b∈l,f b=g b):eg S (l.map f)=eg S (l.map g):=by rw [Mr h]
end
inductive Tr where
 | node (v:Int) (ts:List Tr)
mutual
def Tr.vs:Tr->List Int
 | .node v ts=>v::vsL ts
def vsL:List Tr->List Int
 | []=>[]
 | t::ts=>t.vs++vsL ts
end
section
variable {α R:Type} (S:SR R) (cd:Int->Asg α->List α) (g:Int->Asg α->R)
mutual
def val:Tr->Asg α->R
 | .node v ts,σ=>eg S ((cd v σ).map fun x=>S.mul (g v (put σ v x)) (valL ts (put σ v x)))
def valL:List Tr->Asg α->R
 | [],_=>S.one
 | t::ts,σ=>S.mul (val t σ) (valL ts σ)
end
def wts:List Int->Asg α->R
 | [],_=>S.one
 | v::vs,τ=>S.mul (g v τ) (wts vs τ)
theorem wy (l m:List Int) (τ:Asg α):wts S g (l++m) τ=S.mul (wts S g l τ) (wts S g m τ):=by
 induction l with
 | nil=>rw [MZ,wts,S.one_mul]
 | cons v l ih=>rw [MX,wts,ih,wts,S.mul_assoc]
theorem ni (l m:List Int) (σ:Asg α):enW cd (l++m) σ=(enW cd l σ).flatMap (enW cd m):=by
 induction l generalizing σ with
 | nil=>simp [enW]
 | cons v l ih=>
   rw [MX,enW,enW,List.flatMap_assoc]
   congr 1
   funext x;exact ih _
structure Dep (D E:Int->List Int):Prop where
 d:∀ v σ τ,(∀ a∈D v,σ a=τ a)->cd v σ=cd v τ
 e:∀ v σ τ,(∀ a∈E v,σ a=τ a)->g v σ=g v τ
variable (D E:Int->List Int)
mutual
def Tr.Sep:Tr->Prop
 | .node v ts=>(∀ a∈E v,a∉vsL ts)/\SepL ts
def SepL:List Tr->Prop
 | []=>True
 | t::ts=>t.Sep/\SepL ts/\(∀ w∈t.vs,(∀ a∈D w,a∉vsL ts)/\∀ a∈E w,a∉vsL ts)/\∀ w∈vsL ts,(∀ a∈D w,a∉t.vs)/\∀ a∈E w,a∉t.vs
end
variable {cd g D E}
theorem e8 {σ τ:Asg α} {l:List Int} (h:∀ a∈l,σ a=τ a) (v:Int) (x:α):∀ a∈l,put σ v x a=put τ v x a:=fun a ha=>by
 unfold put;split
 ·rfl
 ·exact h a ha
mutual
theorem val_congr (hd:Dep cd g D E):∀ (t:Tr) (σ τ:Asg α),(∀ w∈t.vs,(∀ a∈D w,σ a=τ a)/\∀ a∈E w,σ a=τ a)->val S cd g t σ=val S cd g t τ
 | .node v ts,σ,τ,h=>by
   have hv:=h v (by simp [Tr.vs]);rw [val,val,hd.d v σ τ hv.1];refine cx S fun x _=>?_
   rw [hd.e v _ _ (e8 hv.2 v x),valL_congr hd ts _ _ fun w hw=>⟨e8 (h w (by simp [Tr.vs,hw])).1 v x,e8 (h w (by simp [Tr.vs,hw])).2 v x⟩]
theorem valL_congr (hd:Dep cd g D E):∀ (ts:List Tr) (σ τ:Asg α),(∀ w∈vsL ts,(∀ a∈D w,σ a=τ a)/\∀ a∈E w,σ a=τ a)->valL S cd g ts σ=valL S cd g ts τ
 | [],_,_,_=>by rw [valL,valL]
 | t::ts,σ,τ,h=>by
   rw [valL,valL,val_congr hd t σ τ fun w hw=>h w (by simp [vsL,hw]),valL_congr hd ts σ τ fun w hw=>h w (by simp [vsL,hw])]
end
theorem Ag (hd:Dep cd g D E) {l:List Int} {σ τ:Asg α} (h:∀ w∈l,∀ a∈E w,σ a=τ a):wts S g l σ=wts S g l τ:=by
 induction l with
 | nil=>rfl
 | cons v l ih=>rw [wts,wts,hd.e v σ τ (h v Ps),ih fun w hw=>h w (by simp [hw])]
mutual
theorem val_sum (hd:Dep cd g D E):∀ (t:Tr) (σ:Asg α),t.Sep D E->val S cd g t σ=eg S ((enW cd t.vs σ).map (wts S g t.vs))
 | .node v ts,σ,hs=>by
   rw [Tr.Sep] at hs;rw [val,Tr.vs,enW,jb];refine cx S fun x _=>?_
   rw [valL_sum hd ts _ hs.2,<-vq,OM];refine cx S fun τ hτ=>?_
   show S.mul _ (wts S g (vsL ts) τ)=wts S g (v::vsL ts) τ;rw [wts,hd.e v (put σ v x) τ fun a ha=>(gu hτ a (hs.1 a ha)).symm]
theorem valL_sum (hd:Dep cd g D E):∀ (ts:List Tr) (σ:Asg α),SepL D E ts->valL S cd g ts σ=eg S ((enW cd (vsL ts) σ).map (wts S g (vsL ts)))
 | [],σ,_=>by
   rw [valL,vsL,enW,oy,M9,eg,eg,wts];rw [S.add_zero]
 | t::ts,σ,hs=>by
   rw [SepL] at hs;obtain ⟨h1,h2,h3,h4⟩:=hs;rw [valL,vsL,ni,jb,val_sum hd t σ h1,<-uS,OM];refine cx S fun τ hτ=>?_
   show S.mul (wts S g t.vs τ) _=_;have e1:∀ τ'∈enW cd (vsL ts) τ,wts S g (t.vs++vsL ts) τ'=S.mul (wts S g t.vs τ) (wts S g (vsL ts) τ'):=fun τ' h'=>by
    rw [wy,Ag S hd fun w hw a ha=>gu h' a ((h3 w hw).2 a ha)]
   rw [cx S e1,<-Function.comp_def (f:=fun b=>S.mul (wts S g t.vs τ) b),<-OM,vq,<-valL_sum hd ts τ h2];rw [valL_congr S hd ts σ τ fun w hw=>⟨fun a ha=>(gu hτ a ((h4 w hw).1 a ha)).symm,fun a ha=>(gu hτ a ((h4 w hw).2 a ha)).symm⟩]
end
end
end Jn
end Go.Proofs.YtedfonppffochaaGreatDoor
