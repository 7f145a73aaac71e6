/-
  Texts of ours, joined and shortened by merge2.py: P2, P3, R8, R9, P4, W1, Fc, LA, R10, MT, M5, JE, E30, E31, JF, JG, KM, Sl, KI, KV, JH, JI, JJ, JA. No statement of the program is proved here.
-/
import Derived.Shelf.SlSortCmp.NoneTotal
import Derived.Ground.SlsfProg
import Derived.Ground.NamesProg
import Derived.Test.YtedfonppffochaaGreatDoorProg
import Derived.Test.YtedfonppffochaaGreatDoorJ86
set_option maxRecDepth 100000
set_option maxHeartbeats 4000000
open Go.RowKit Go.Proofs.Tryz
namespace Go.Proofs.YtedfonppffochaaGreatDoor
section
set_option maxHeartbeats 1000000
inductive Path (adj:Nat→Nat→Prop) (ok:Nat→Prop) (a:Nat):Nat→Prop
 | refl:Path adj ok a a
 | step {b c:Nat}:Path adj ok a b→adj b c→ok c→Path adj ok a c
section
variable {adj:Nat→Nat→Prop} {ok ok':Nat→Prop}
theorem Path.trans {a b c:Nat} (h1:Path adj ok a b) (h2:Path adj ok b c):Path adj ok a c:=by
 induction h2 with
 | refl=>exact h1
 | step _ h3 h4 ih=>exact .step ih h3 h4
theorem Path.one {a b:Nat} (h:adj a b) (hb:ok b):Path adj ok a b:= .step .refl h hb
theorem Path.mono {a b:Nat} (h:Path adj ok a b) (hm:∀ c,ok c→ok' c):Path adj ok' a b:=by
 induction h with
 | refl=>exact .refl
 | step _ h3 h4 ih=>exact .step ih h3 (hm _ h4)
theorem Path.fin {a b:Nat} (h:Path adj ok a b) (ha:ok a):ok b:=by
 cases h with
 | refl=>exact ha
 | step _ _ h=>exact h
theorem Path.symm (hs:∀ a b,adj a b→adj b a) {a b:Nat} (h:Path adj ok a b) (ha:ok a):Path adj ok b a:=by
 induction h with
 | refl=>exact .refl
 | step h1 h3 h4 ih=>exact (Path.one (hs _ _ h3) (h1.fin ha)).trans ih
theorem Path.stay {inn:Nat→Prop} {a b:Nat} (h:Path adj ok a b) (ha:inn a) (hc:∀ x y,inn x→adj x y→ok y→inn y):Path adj (fun c=>ok c∧inn c) a b∧inn b:=by
 induction h with
 | refl=>exact ⟨.refl,ha⟩
 | step _ h3 h4 ih=>exact ⟨.step ih.1 h3 ⟨h4,hc _ _ ih.2 h3 h4⟩,hc _ _ ih.2 h3 h4⟩
end
def Anc (adj:Nat→Nat→Prop) (pos:Nat→Nat) (a b:Nat):Prop:=pos a<pos b∧Path adj (fun c=>pos a≤pos c) a b
section
variable {adj:Nat→Nat→Prop} {pos:Nat→Nat} (hs:∀ a b,adj a b→adj b a)
theorem Anc.trans {a b c:Nat} (h1:Anc adj pos a b) (h2:Anc adj pos b c):Anc adj pos a c:=by
 have h3:=h1.1;exact ⟨Nat.lt_trans h1.1 h2.1,h1.2.trans (h2.2.mono fun d hd=>by omega)⟩
include hs in
end
structure IsOrd (n:Nat) (adj:Nat→Nat→Prop) (pos:Nat→Nat) (P:List Int):Prop where
 len:P.length=n
 par:∀ b,b<n→(P.getD b 0= -1∧∀ a,a<n→¬ Anc adj pos a b)∨(∃ a:Nat,a<n∧P.getD b 0=(a:Int)∧Anc adj pos a b∧∀ a',a'<n→Anc adj pos a' b→a'=a∨Anc adj pos a' a)
section
variable {n:Nat} {adj:Nat→Nat→Prop} {pos:Nat→Nat} {P:List Int}
theorem IsOrd.upF (h:IsOrd n adj pos P):∀ (m b k:Nat),b<n→pos b≤m→pos b≤k→(upF P k (P.getD b 0)).isSome=true:=by
 intro m;induction m with
 | zero=>
   intro b k hb hm hk;rcases h.par b hb with ⟨h1,_⟩ | ⟨a,ha,h1,h2,_⟩
   ·rw [h1,sW Ma];rfl
   ·have:=h2.1;omega
 | succ m ih=>
   intro b k hb hm hk;rcases h.par b hb with ⟨h1,_⟩ | ⟨a,ha,h1,h2,_⟩
   ·rw [h1,sW Ma];rfl
   ·have:=h2.1;obtain ⟨k',rfl⟩:∃ k',k=k'+1:=⟨k-1,L8⟩;rw [h1,ym (by rw [h.len];exact ha),Option.isSome_map];have:=ih a k' ha L8 L8;rwa [getD_eq (by rw [h.len];exact ha)] at this
theorem IsOrd.dP (h:IsOrd n adj pos P) (hp:∀ b,b<n→pos b<n):UpOk P:=by
 refine ⟨fun p hp=>?_,fun v hv=>?_⟩
 ·obtain ⟨b,hb,e⟩:=J3 hp;rw [← getD_eq hb 0] at e;have hb':b<n:=by rw [← h.len];exact hb
  have:=h.len;rcases h.par b hb' with ⟨h1,_⟩ | ⟨a,ha,h1,_,_⟩<;>omega
 ·have hv':v<n:=by rw [← h.len];exact hv
  have:=h.upF (pos v) v P.length hv' (Cz _) (by rw [h.len];exact Nat.le_of_lt (hp v hv'));rwa [uR hv, ← getD_eq hv 0]
theorem IsOrd.mem (h:IsOrd n adj pos P) (hp:∀ b,b<n→pos b<n):∀ b,b<P.length→∀ a:Nat,(a:Int)∈bp P b↔a<n∧Anc adj pos a b:=by
 have hl:=h.len;refine pt (h.dP hp) (fun v hv hr e a=>?_) (fun v hv p hpl hr e ih a=>?_)
 ·rw [e];rcases h.par v L8 with ⟨_,h2⟩ | ⟨c,hc,h1,_,_⟩
  ·exact ⟨fun hh=>absurd hh K9,fun hh=>absurd hh.2 (h2 a hh.1)⟩
  ·rw [getD_eq hv,hr] at h1;omega
 ·rw [e,Bd,ih a];rcases h.par v L8 with ⟨h1,_⟩ | ⟨c,hc,h1,h2,h3⟩
  ·rw [getD_eq hv,hr] at h1;omega
  ·rw [getD_eq hv,hr] at h1;have:c=p:=L8;subst this;constructor
   ·rintro (h4 | h4)
    ·have:a=c:=L8;subst this;exact ⟨hc,h2⟩
    ·exact ⟨h4.1,h4.2.trans h2⟩
   ·rintro ⟨h4,h5⟩;rcases h3 a h4 h5 with rfl | h6
    ·exact .inl rfl
    ·exact .inr ⟨h4,h6⟩
end
def Ex (S:Sch) (a b:Nat):Prop:=a≠b∧eS S a b=true
theorem kL {S:Sch} {a b:Int} (h:eS S a b=true):eS S b a=true:=by
 unfold eS at h ⊢;obtain ⟨r,hr,h2⟩:=IQ.1 h;rw [IQ];exact ⟨r,hr,by rw [Bool.and_comm];exact h2⟩
theorem kq (S:Sch):∀ a b,Ex S a b→Ex S b a:=fun _ _ h=>⟨fun e=>h.1 e.symm,kL h.2⟩
def jM (q:List Int) (a:Nat):Nat:=q.idxOf (a:Int)
theorem ES {n:Nat} {q:List Int} (hq:q.Perm (upZ n)) {a:Nat} (ha:a<n):jM q a<n:=by
 have:q.idxOf (a:Int)<q.length:=Km (hq.mem_iff.2 (bx.2 ⟨a,ha,rfl⟩));rwa [hq.length_eq,a8] at this
theorem nq {n:Nat} {q:List Int} (hq:q.Perm (upZ n)) {a b:Nat} (ha:a<n) (h:jM q a=jM q b):a=b:=by
 have h1:q.idxOf (a:Int)<q.length:=Km (hq.mem_iff.2 (bx.2 ⟨a,ha,rfl⟩));have h2:q.idxOf (b:Int)<q.length:=by unfold jM at h;rw [← h];exact h1
 have e1:q[q.idxOf (a:Int)]=(a:Int):=List.getElem_idxOf h1;have e2:q[q.idxOf (b:Int)]=(b:Int):=List.getElem_idxOf h2;have e3:q[q.idxOf (a:Int)]=q[q.idxOf (b:Int)]:=by unfold jM at h;congr 1
 rw [e1,e2] at e3;omega
theorem IsOrd.ok {S:Sch} (hV:Valid S) {q:List Int} (hq:q.Perm (upZ S.attrs.length)) {P:List Int} (h:IsOrd S.attrs.length (Ex S) (jM q) P):OrdOk S P:=by
 have hp:∀ b,b<S.attrs.length→jM q b<S.attrs.length:=fun b hb=>ES hq hb
 have hu:=h.dP hp;refine ⟨hV,h.len,hu.rng,hu.up,fun r hr=>?_⟩;unfold mu;rw [AT];intro a ha;rw [AT];intro b hb;obtain ⟨x,hx⟩:=BY (hV.rng r hr a ha).1;obtain ⟨y,hy⟩:=BY (hV.rng r hr b hb).1;have hxl:x<S.attrs.length:=by have:=(hV.rng r hr a ha).2;omega
 have hyl:y<S.attrs.length:=by have:=(hV.rng r hr b hb).2;omega
 by_cases e:a=b
 ·simp [e]
 ·have hxy:x≠y:=L8;have hadj:Ex S x y:=⟨hxy,by rw [← hx, ← hy];exact AN hr ha hb⟩;have hl:=h.len;rcases Nat.lt_or_gt_of_ne (fun e=>hxy (nq hq hxl e)) with h1 | h1
  ·have:(x:Int)∈bp P y:=(h.mem hp y L8 x).2 ⟨hxl,h1,.one hadj (Nat.le_of_lt h1)⟩;rw [hx,hy];simp [hiB,this]
  ·have:(y:Int)∈bp P x:=(h.mem hp x L8 y).2 ⟨hyl,h1,.one (kq S _ _ hadj) (Nat.le_of_lt h1)⟩;rw [hx,hy];simp [hiB,this]
end
section
set_option maxHeartbeats 1000000
def eu (G:List B64) (a b:Nat):Prop:=(G.getD a 0#64).getLsbD b=true
theorem ma {G:List B64} {rest:B64} {a b:Nat}:Reach G rest a b↔Path (eu G) (fun c=>rest.getLsbD c=true) a b:=by
 constructor
 ·intro h;induction h with
  | refl=>exact .refl
  | step _ h1 h2 ih=>exact .step ih h1 h2
 ·intro h;induction h with
  | refl=>exact .refl
  | step _ h1 h2 ih=>exact .step ih h1 h2
structure Comp (adj:Nat→Nat→Prop) (rest c:B64):Prop where
 sub:∀ i,c.getLsbD i=true→rest.getLsbD i=true
 clo:∀ i j,c.getLsbD i=true→adj i j→rest.getLsbD j=true→c.getLsbD j=true
 con:∀ i j,c.getLsbD i=true→c.getLsbD j=true→Path adj (fun x=>c.getLsbD x=true) i j
 ne:∃ i,c.getLsbD i=true
structure CompsI (adj:Nat→Nat→Prop) (rest:B64) (k:Nat) (cs:List B64) (R:B64):Prop where
 all:∀ c∈cs,Comp adj rest c
 cov:∀ i,rest.getLsbD i=true↔R.getLsbD i=true∨∃ c∈cs,c.getLsbD i=true
 dis:∀ i,R.getLsbD i=true→∀ c∈cs,¬ c.getLsbD i=true
 pw:cs.Pairwise (fun c d=>∀ i,c.getLsbD i=true→¬ d.getLsbD i=true)
 low:∀ i,i<k→¬ R.getLsbD i=true
theorem fa (x y:B64) (i:Nat):(x&&& ~~~y).getLsbD i=true↔x.getLsbD i=true∧¬ y.getLsbD i=true:=by
 rw [Ku,BitVec.getLsbD_not];constructor
 ·intro h;simp at h;exact ⟨h.1,by rw [h.2.2];decide⟩
 ·rintro ⟨h1,h2⟩;have:=cq h1;have h3:y.getLsbD i=false:=by simpa using h2
  rw [h1,h3,Fz this];rfl
theorem kT (G:List B64) (rest:B64) (hs:∀ a b,eu G a b→eu G b a):∀ k,CompsI (eu G) rest k (compsN G rest k).1 (compsN G rest k).2
 | 0=>⟨by simp [compsN],by simp [compsN],by simp [compsN],by simp [compsN],by intro i h;omega⟩
 | k+1=>by
   have h:=kT G rest hs k;simp only [compsN];generalize compsN G rest k=cr at*;obtain ⟨cs,R⟩:=cr;simp only at h ⊢;by_cases hk:R.getLsbD k=true
   ·rw [By hk];have hcR:∀ i,(compB G R k).getLsbD i=true→R.getLsbD i=true:=fun i hi=>kr hk hi
    have hkc:(compB G R k).getLsbD k=true:=(eH (cq hk)).2 .refl;have hclR:∀ i j,(compB G R k).getLsbD i=true→eu G i j→R.getLsbD j=true→(compB G R k).getLsbD j=true:=fun i j h1 h2 h3=>
     (eH (cq h3)).2 (.step (dG h1) h2 h3)
    have hC:Comp (eu G) rest (compB G R k):=by
     refine ⟨fun i hi=>(h.cov i).2 (.inl (hcR i hi)),fun i j h1 h2 h3=>?_,?_,⟨k,hkc⟩⟩
     ·rcases (h.cov j).1 h3 with h4 | ⟨d,hd,h4⟩
      ·exact hclR i j h1 h2 h4
      ·exact absurd ((h.all d hd).clo j i h4 (hs i j h2) ((h.cov i).2 (.inl (hcR i h1)))) (h.dis i (hcR i h1) d hd)
     ·have one:∀ i,(compB G R k).getLsbD i=true→Path (eu G) (fun x=>(compB G R k).getLsbD x=true) k i:=fun i hi=>
       ((ma.1 (dG hi)).stay (inn:=fun x=>(compB G R k).getLsbD x=true) hkc hclR).1.mono fun c hc=>hc.2
      exact fun i j hi hj=>((one i hi).symm hs hkc).trans (one j hj)
    refine ⟨fun c hc=>?_,fun i=>?_,fun i hi c hc=>?_,?_,fun i hi hR=>?_⟩
    ·rcases Dq.1 hc with hc | hc
     ·exact h.all c hc
     ·rw [AK.1 hc];exact hC
    ·rw [h.cov i,fa];constructor
     ·rintro (h1 | ⟨c,hc,h1⟩)
      ·by_cases h2:(compB G R k).getLsbD i=true
       ·exact .inr ⟨_,Ld _ (AK.2 rfl),h2⟩
       ·exact .inl ⟨h1,h2⟩
      ·exact .inr ⟨c,Ll _ hc,h1⟩
     ·rintro (h1 | ⟨c,hc,h1⟩)
      ·exact .inl h1.1
      ·rcases Dq.1 hc with hc | hc
       ·exact .inr ⟨c,hc,h1⟩
       ·rw [AK.1 hc] at h1;exact .inl (hcR i h1)
    ·rw [fa] at hi;rcases Dq.1 hc with hc | hc
     ·exact h.dis i hi.1 c hc
     ·rw [AK.1 hc];exact hi.2
    ·rw [LU];refine ⟨h.pw,Mc,fun c hc d hd i h1 h2=>?_⟩;rw [AK.1 hd] at h2;exact h.dis i (hcR i h2) c hc h1
    ·rw [fa] at hR;by_cases e:i=k
     ·subst e;exact hR.2 hkc
     ·exact h.low i L8 hR.1
   ·rw [uv hk];refine ⟨h.all,h.cov,h.dis,h.pw,fun i hi=>?_⟩;by_cases e:i=k
    ·subst e;exact hk
    ·exact h.low i L8
def xh (adj:Nat→Nat→Prop) (pos:Nat→Nat) (rest:B64) (a b:Nat):Prop:=
 rest.getLsbD a=true∧rest.getLsbD b=true∧pos a<pos b∧Path adj (fun c=>rest.getLsbD c=true∧pos a≤pos c) a b
def DT (adj:Nat→Nat→Prop) (pos:Nat→Nat) (rest:B64) (par:Int) (b:Nat) (x:Int):Prop:=
 (x=par∧∀ a,¬ xh adj pos rest a b)∨∃ a:Nat,x=(a:Int)∧xh adj pos rest a b∧∀ a',xh adj pos rest a' b→a'=a∨xh adj pos rest a' a
theorem BR {n:Nat} {q:List Int} (hq:q.Perm (upZ n)) {c:B64} (hc:∀ i,c.getLsbD i=true→i<n) (hne:∃ i,c.getLsbD i=true):
  ∃ a:Nat,a<n∧q.find? (fun x=>c.getLsbD x.toNat)=some (a:Int)∧c.getLsbD a=true∧∀ i,c.getLsbD i=true→jM q a≤jM q i:=by
 cases hf:q.find? (fun x=>c.getLsbD x.toNat) with
 | none=>
   obtain ⟨i,hi⟩:=hne;have:=List.find?_eq_none.1 hf (i:Int) (hq.mem_iff.2 (bx.2 ⟨i,hc i hi,rfl⟩));simp at this;rw [hi] at this;cases this
 | some x=>
   obtain ⟨h1,us,vs,h2,h3⟩:=List.find?_eq_some_iff_append.1 hf;have hxm:x∈q:=by rw [h2];simp
   obtain ⟨a,ha,rfl⟩:=bx.1 (hq.mem_iff.1 hxm);have h1':c.getLsbD a=true:=by simpa using h1
   refine ⟨a,ha,rfl,h1',fun i hi=>?_⟩;have no:∀ j:Nat,c.getLsbD j=true→(j:Int)∉us:=fun j hj hm=>by
    have:=h3 _ hm;simp at this;rw [hj] at this;cases this
   unfold jM;rw [h2,List.idxOf_append,List.idxOf_append,uv (no a h1'),uv (no i hi)];simp
section
variable {n:Nat} {G:List B64} {q:List Int} (hG:G.length=n) (hs:∀ a b,eu G a b→eu G b a) (hq:q.Perm (upZ n))
theorem xh.sub {adj:Nat→Nat→Prop} {pos:Nat→Nat} {r r':B64} (h:∀ i,r.getLsbD i=true→r'.getLsbD i=true) {a b:Nat} (k:xh adj pos r a b):xh adj pos r' a b:=
 ⟨h _ k.1,h _ k.2.1,k.2.2.1,k.2.2.2.mono fun c hc=>⟨h _ hc.1,hc.2⟩⟩
include hs hq in
theorem tu {f:Nat} (IH:∀ rest par P,cC rest≤f→(∀ i,rest.getLsbD i=true→i<n)→P.length=n→∀ b,b<n→(rest.getLsbD b=false→(placeF G q f rest par P).getD b 0=P.getD b 0)∧(rest.getLsbD b=true→DT (eu G) (jM q) rest par b ((placeF G q f rest par P).getD b 0)))
  {rest c:B64} (hc:Comp (eu G) rest c) (hpop:∀ a,c.getLsbD a=true→cC (c&&& ~~~(BitVec.twoPow 64 a))≤f) (hr:∀ i,rest.getLsbD i=true→i<n) (par:Int) (P:List Int) (hP:P.length=n) (b:Nat) (hb:b<n):
  (c.getLsbD b=false→(dd q (placeF G q f) par P c).getD b 0=P.getD b 0)∧(c.getLsbD b=true→DT (eu G) (jM q) rest par b ((dd q (placeF G q f) par P c).getD b 0)):=by
 obtain ⟨a,ha,hfind,hca,hmin⟩:=BR hq (fun i hi=>hr i (hc.sub i hi)) hc.ne;have e:dd q (placeF G q f) par P c=placeF G q f (c&&& ~~~(BitVec.twoPow 64 a)) a (P.set a par):=by unfold dd;rw [hfind];rfl
 rw [e];have hbit:∀ i,(c&&& ~~~(BitVec.twoPow 64 a)).getLsbD i=true↔c.getLsbD i=true∧a≠i:=fun i=>by rw [bA,bk,HL]
 have hih:=IH (c&&& ~~~(BitVec.twoPow 64 a)) a (P.set a par) (hpop a hca) (fun i hi=>hr i (hc.sub i ((hbit i).1 hi).1)) (by simp [hP]) b hb;have stay:∀ a' b',xh (eu G) (jM q) rest a' b'→c.getLsbD b'=true→c.getLsbD a'=true:=by
  intro a' b' h1 h2;have hpath:=(h1.2.2.2.symm hs ⟨h1.1,Cz _⟩);exact (hpath.stay (inn:=fun x=>c.getLsbD x=true) h2 (fun x y hx hxy hy=>hc.clo x y hx hxy hy.1)).2
 have inside:∀ a' b',xh (eu G) (jM q) rest a' b'→c.getLsbD b'=true→a'≠a→xh (eu G) (jM q) (c&&& ~~~(BitVec.twoPow 64 a)) a' b':=by
  intro a' b' h1 h2 h3;have hca':=stay a' b' h1 h2;have hpa:jM q a<jM q a':=Nat.lt_of_le_of_ne (hmin a' hca') (fun e=>h3 (nq hq ha e).symm);have hpb:=h1.2.2.1;refine ⟨(hbit a').2 ⟨hca',fun e=>h3 e.symm⟩,(hbit b').2 ⟨h2,fun e=>by subst e;omega⟩,h1.2.2.1,?_⟩;refine ((h1.2.2.2.stay (inn:=fun x=>c.getLsbD x=true) hca' (fun x y hx hxy hy=>hc.clo x y hx hxy hy.1)).1.mono fun x hx=>?_);exact ⟨(hbit x).2 ⟨hx.2,fun e=>by have:=hx.1.2;subst e;omega⟩,hx.1.2⟩
 have root:∀ b',c.getLsbD b'=true→a≠b'→xh (eu G) (jM q) rest a b':=fun b' h1 h2=>
  ⟨hc.sub a hca,hc.sub b' h1,Nat.lt_of_le_of_ne (hmin b' h1) (fun e=>h2 (nq hq ha e)),(hc.con a b' hca h1).mono fun x hx=>⟨hc.sub x hx,hmin x hx⟩⟩
 have hsub:∀ i,(c&&& ~~~(BitVec.twoPow 64 a)).getLsbD i=true→rest.getLsbD i=true:=fun i hi=>hc.sub i ((hbit i).1 hi).1
 constructor
 ·intro hcb;have hab:a≠b:=fun e=>by subst e;rw [hca] at hcb;cases hcb
  have h1:(c&&& ~~~(BitVec.twoPow 64 a)).getLsbD b=false:=by
   cases h2:(c&&& ~~~(BitVec.twoPow 64 a)).getLsbD b with
   | false=>rfl
   | true=>rw [((hbit b).1 h2).1] at hcb;cases hcb
  rw [hih.1 h1,List.getD,List.getD,KK hab]
 ·intro hcb;by_cases hab:a=b
  ·subst hab;have h1:(c&&& ~~~(BitVec.twoPow 64 a)).getLsbD a=false:=by rw [bA];simp
   left
   refine ⟨by rw [hih.1 h1,List.getD];simp [hP,ha],fun a' h2=>?_⟩;have h3:=stay a' a h2 hca;have:=hmin a' h3;have:=h2.2.2.1;omega
  ·have h1:(c&&& ~~~(BitVec.twoPow 64 a)).getLsbD b=true:=(hbit b).2 ⟨hcb,hab⟩;right
   rcases hih.2 h1 with ⟨h2,h3⟩ | ⟨d,h2,h3,h4⟩
   ·refine ⟨a,h2,root b hcb hab,fun a' h5=>?_⟩;by_cases e2:a'=a
    ·exact .inl e2
    ·exact absurd (inside a' b h5 hcb e2) (h3 a')
   ·refine ⟨d,h2,h3.sub hsub,fun a' h5=>?_⟩;have hd:=(hbit d).1 h3.1;by_cases e2:a'=a
    ·right;rw [e2];exact root d hd.1 hd.2
    ·rcases h4 a' (inside a' b h5 hcb e2) with h6 | h6
     ·exact .inl h6
     ·exact .inr (h6.sub hsub)
include hG hs hq in
theorem vI:∀ (f:Nat) (rest:B64) (par:Int) (P:List Int),cC rest≤f→(∀ i,rest.getLsbD i=true→i<n)→P.length=n→∀ b,b<n→(rest.getLsbD b=false→(placeF G q f rest par P).getD b 0=P.getD b 0)∧(rest.getLsbD b=true→DT (eu G) (jM q) rest par b ((placeF G q f rest par P).getD b 0)):=by
 intro f;induction f with
 | zero=>
   intro rest par P hf hr hP b hb;refine ⟨fun _=>rfl,fun h=>?_⟩;rw [oh (Nat.le_zero.1 hf) b] at h;cases h
 | succ f IH=>
   intro rest par P hf hr hP b hb;have hI:=kT G rest hs G.length;have hpop:∀ c∈(compsN G rest G.length).1,∀ a,c.getLsbD a=true→cC (c&&& ~~~(BitVec.twoPow 64 a))≤f:=fun c hc a ha=>by have:=tO hc ha;omega
   have fold:∀ (cs:List B64) (P:List Int),(∀ c∈cs,Comp (eu G) rest c)→(∀ c∈cs,∀ a,c.getLsbD a=true→cC (c&&& ~~~(BitVec.twoPow 64 a))≤f)→cs.Pairwise (fun c d=>∀ i,c.getLsbD i=true→¬ d.getLsbD i=true)→P.length=n→
     ((∀ c∈cs,¬ c.getLsbD b=true)→(cs.foldl (dd q (placeF G q f) par) P).getD b 0=P.getD b 0)∧(∀ c∈cs,c.getLsbD b=true→DT (eu G) (jM q) rest par b ((cs.foldl (dd q (placeF G q f) par) P).getD b 0)):=by
    intro cs;induction cs with
    | nil=>intro P _ _ _ _;exact ⟨fun _=>rfl,fun c hc=>by cases hc⟩
    | cons c cs ih=>
      intro P h1 h2 h3 h4;have hl:(dd q (placeF G q f) par P c).length=n:=by
       unfold dd;split
       ·rw [iv];simp [h4]
       ·exact h4
      have hg:=tu hs hq IH (h1 c (Kl ..)) (h2 c (Kl ..)) hr par P h4 b hb;have hi:=ih (dd q (placeF G q f) par P c) (fun d hd=>h1 d (DJ _ hd)) (fun d hd=>h2 d (DJ _ hd)) (Lh.1 h3).2 hl;rw [JN];constructor
      ·intro h5;rw [hi.1 (fun d hd=>h5 d (DJ _ hd))];exact hg.1 (by simpa using h5 c (Kl ..))
      ·intro d hd h5;rcases Bd.1 hd with rfl | hd
       ·rw [hi.1 (fun e he=>(Lh.1 h3).1 e he b h5)];exact hg.2 h5
       ·exact hi.2 d hd h5
   have hfold:=fold (compsN G rest G.length).1 P hI.all hpop hI.pw hP;simp only [placeF];constructor
   ·intro h1;refine hfold.1 fun c hc h2=>?_
    rw [(hI.all c hc).sub b h2] at h1;cases h1
   ·intro h1;rcases (hI.cov b).1 h1 with h2 | ⟨c,hc,h2⟩
    ·exact absurd h2 (hI.low b L8)
    ·exact hfold.2 c hc h2
include hG hs hq in
theorem GH (hn:n<64) (hadj:∀ a b,eu G a b→b<n):IsOrd n (eu G) (jM q) (ofL G q):=by
 have hall:∀ i,(gI G.length).getLsbD i=true↔i<n:=fun i=>by rw [fB L8,HL,hG]
 have anc:∀ a b,a<n→b<n→(xh (eu G) (jM q) (gI G.length) a b↔Anc (eu G) (jM q) a b):=by
  intro a b ha hb;constructor
  ·intro h;exact ⟨h.2.2.1,h.2.2.2.mono fun c hc=>hc.2⟩
  ·intro h;refine ⟨(hall a).2 ha,(hall b).2 hb,h.1,?_⟩;exact (h.2.stay (inn:=fun x=>(gI G.length).getLsbD x=true) ((hall a).2 ha) (fun x y _ hxy _=>(hall y).2 (hadj x y hxy))).1.mono fun c hc=>⟨hc.2,hc.1⟩
 refine ⟨by rw [Bf,hG],fun b hb=>?_⟩;have:=(vI hG hs hq 64 (gI G.length) (-1) (List.replicate G.length 0) (jk _) (fun i hi=>(hall i).1 hi) (by simp [hG]) b hb).2 ((hall b).2 hb);rcases this with ⟨h1,h2⟩ | ⟨a,h1,h2,h3⟩
 ·exact .inl ⟨h1,fun a ha h3=>h2 a ((anc a b ha hb).2 h3)⟩
 ·have ha:=(hall a).1 h2.1;refine .inr ⟨a,ha,h1,(anc a b ha hb).1 h2,fun a' ha' h4=>?_⟩;rcases h3 a' ((anc a' b ha' hb).2 h4) with h5 | h5
  ·exact .inl h5
  ·exact .inr ((anc a' a ha' ha).1 h5)
end
theorem BO {S:Sch} (hV:Valid S) (a b:Nat):eu (gr S) a b↔Ex S a b:=by
 unfold eu Ex;by_cases ha:a<S.attrs.length
 ·rw [pC hV ha,bk,HL]
 ·rw [List.getD,Ju (by rw [fR];omega)];constructor
  ·intro h;simp at h
  ·rintro ⟨_,h⟩;have:=(ow hV h).1;omega
theorem A8 {S:Sch} (hV:Valid S):eu (gr S)=Ex S:=by
 funext a b;exact propext (BO hV a b)
theorem C9 {S:Sch} (hV:Valid S) {q:List Int} (hq:q.Perm (upZ S.attrs.length)):IsOrd S.attrs.length (Ex S) (jM q) (ordL S q):=by
 have h1:=A8 hV;have h2:=hV.n2;have:=GH (G:=gr S) (q:=q) (n:=S.attrs.length) (fR S) (by rw [h1];exact kq S) hq L8 (by rw [h1];intro a b h;have:=(ow hV h.2).2;omega);rw [h1] at this;exact this
end
section
open Go.RowKit Mk
set_option maxHeartbeats 4000000
end
section
open Go.RowKit Mk
set_option maxHeartbeats 4000000
end
section
open Go.RowKit Mk
set_option maxHeartbeats 1000000
end
section
open Go.RowKit Mk
set_option maxHeartbeats 1000000
theorem Aa {P:List Int} (hP:UpOk P):(aD P).length=P.length:=by rw [(cf hP).length_eq,a8]
end
theorem Bs {P:Program} {f:FuncId} {args:List PV} {us:List Value} (h:FnP P f args (· = .bool true)) (w:World) (hG:lA w (fun b=>b<w.heap.size)) (hrel:RelPL w (fun b=>b<w.heap.size) args us):
  Calls P f us.toArray w fun e w'=>e= .returned (.bool true)∧Below w.heap.size w w':=
 (h w _ us hG (fun _ hb=>hb) hrel).mono fun _ _ ⟨u,v,e,hv,hb,hr⟩=>by
  subst hv;simp only [RelP] at hr;subst hr;exact ⟨e,hb⟩
section
open Go.RowKit Mk
set_option maxHeartbeats 1000000
theorem IW {n:Nat}:∀ {l:List Int},l.Pairwise (· < ·)→(∀ a∈l,0≤a∧a<n)→l.length≤n:=by
 intro l hp hr;have hnd:l.Nodup:=hp.imp (fun h e=>by omega);have hsub:∀ a∈l,a∈upZ n:=fun a ha=>by
  obtain ⟨x,hx⟩:=BY (hr a ha).1;exact bx.2 ⟨x,by have:=(hr a ha).2;omega,hx⟩
 have:(((upZ n).filter fun a=>decide (a∈l))).Perm l:=cu (J0 Kc (cJ _)) hnd fun a=>by
  rw [Hf,HL];exact ⟨fun h=>h.2,fun h=>⟨hsub a h,h⟩⟩
 rw [← this.length_eq];exact C0 (IN _ _) (by rw [a8];exact Cz _)
theorem Jq (p:UInt8) (i:Nat):(nm p i).size=2:=by
 unfold nm chr;simp [ByteArray.size_append];rfl
theorem JO {S:Sch} {most:Nat} (h:Made S most) (hm:most≤8):SB S:=by
 have h1:=h.a2;have h2:=h.r2;have h3:=IM h.fs;refine ⟨L8,L8,L8,fun x hx=>?_,fun x hx=>?_,fun x hx=>?_⟩
 ·obtain ⟨i,hi,rfl⟩:=J3 hx;rw [(h.at' i hi).1,Jq];decide
 ·obtain ⟨i,hi,rfl⟩:=J3 hx;rw [(h.rs i hi).1,Jq];decide
 ·obtain ⟨i,hi,rfl⟩:=J3 hx;have:=IW (h.rs i hi).2.2.1 (h.rs i hi).2.2.2;omega
section
variable {C:Ctx} {n:Nat} {σ:St} {dst:Option Tmp} {ty:TypeId} {ts:Array TypeId} {pos:String} {after:Array Edge} {gd:Option (Nat×Bool)}
end
end
section
open Go.RowKit Mk
set_option maxHeartbeats 4000000
end
section
open Go.RowKit Mk
set_option maxHeartbeats 4000000
end
section
open Go.RowKit Mk
set_option maxHeartbeats 4000000
end
section
open Go.RowKit Mk Jn
set_option maxHeartbeats 4000000
theorem jG:∀ (x y:List UInt8),Op.bytesLess x y=decide (x<y)
 | [],[]=>by simp [Op.bytesLess]
 | _::_,[]=>by simp [Op.bytesLess]
 | [],_::_=>by simp [Op.bytesLess]
 | a::x,b::y=>by
   rw [Op.bytesLess,jG x y];simp only [List.cons_lt_cons_iff];by_cases h1:a<b<;>by_cases h2:a=b<;>by_cases h3:x<y<;>simp [h1,h2,h3]
theorem mg (x:ByteArray) (a b:List ByteArray):aZ (x::a) (x::b)=aZ a b:=by
 unfold aZ vZ;rw [Ho,F8,F8,AS,AS,List.cons_lt_cons_iff];simp [List.lt_irrefl]
theorem Dr {x y:ByteArray} (h:x≠y) (a b:List ByteArray):aZ (x::a) (y::b)=Op.bytesLess x.toList y.toList:=by
 unfold aZ vZ;rw [jG,ByteArray.toList_eq,ByteArray.toList_eq,Ho,F8,F8,AS,AS,List.cons_lt_cons_iff];exact ⟨fun k=>k.elim id fun e=>absurd (xu e.1) h,.inl⟩
theorem oD:∀ {i:Nat} {a b:List ByteArray} (ha:i<a.length) (hb:i<b.length),a.take i=b.take i→a[i]≠b[i]→aZ a b=Op.bytesLess a[i].toList b[i].toList
 | 0,x::a,y::b,_,_,_,h=>Dr h a b
 | i+1,x::a,y::b,ha,hb,ht,h=>by
   rw [LW,LW,Lq] at ht;obtain ⟨rfl,ht⟩:=ht;rw [mg];exact oD (by simpa using ha) (by simpa using hb) ht h
theorem gL:∀ {i:Nat} {a b:List ByteArray},i≤a.length→i≤b.length→(i=a.length∨i=b.length)→a.take i=b.take i→aZ a b=decide ((a.length:Int)<b.length)
 | _,[],[],_,_,_,_=>by simp [aZ,vZ]
 | _,[],y::b,_,_,_,_=>by simp [aZ,vZ]
 | _,x::a,[],_,_,_,_=>by simp [aZ,vZ];omega
 | 0,x::a,y::b,_,_,h,_=>by simp at h
 | i+1,x::a,y::b,ha,hb,h,ht=>by
   rw [LW,LW,Lq] at ht;obtain ⟨rfl,ht⟩:=ht;rw [mg,gL (i:=i) (by simpa using ha) (by simpa using hb) (by simpa using h) ht];simp
theorem vV (a b:List ByteArray) (ha:a.length≤1000000) (hb:b.length≤1000000):FnP Tryz.prog 20 [aI a,aI b] (· = .bool (aZ a b)):=by
 refine FnP.of func20 rfl ntmps20 Mc fun m0 w0 F R0=>?_
 refine Z1 rfl rfl<|Z1 rfl rfl ?_;refine Gl rfl (st:=fun x_0:Nat=>mkS [(0,.pv (aI a)),(1,.pv (aI b)),(5,.pv (.int .i64 x_0))] [] 0)
  (I:=fun x_0=>(x_0≤a.length∧x_0≤b.length)∧a.take x_0=b.take x_0) (μ:=fun x_0=>a.length-x_0) (x0:=(0)) (Io (aS rfl) trivial rfl rfl) (⟨⟨cH _,cH _⟩,rfl⟩) ?_
 rintro i ⟨hi,ht⟩;refine Gr rfl ?_;iterate 5 refine A1 rfl ?_
 apply Iy 5 10 15 [11,12,13,14] rfl (by first | exact ax.le | exact ax.aw | exact Iv)
 ·intro hb4;iterate 5 refine A1 rfl ?_
  exact Iq (Ik (Ik (Ik (Ik (Ik (Ik (fEq.refl) rfl) rfl) rfl) rfl) rfl) rfl) rfl rfl rfl
 ·intro hb4;iterate 5 refine A1 rfl ?_
  exact Iq (Ik (Ik (Ik (Ik (Ik (Ik (fEq.refl) rfl) rfl) rfl) rfl) rfl) rfl) rfl rfl rfl
 refine Gc rfl rfl (fun hc15=>?_) (fun hc15=>?_)
 ·have hab:i<a.length∧i<b.length:=by simp at hc15;omega
  have va:=aM hab.1;have na:=bc hab.1;have vb:=aM hab.2;have nb:=bc hab.2;refine Il<|Ge rfl follows [0,1,2,3,4,5,6,7,8] L9<|D1 rfl rfl<|D1 rfl rfl<|D1 rfl rfl ?_;first | refine D2 rfl rfl Mb ?_ | refine D1 rfl rfl ?_
  iterate 3 refine D1 rfl rfl ?_
  first | refine D2 rfl rfl Mb ?_ | refine D1 rfl rfl ?_
  refine D1 rfl rfl ?_;refine ⟨L9,?_⟩;refine Gc rfl rfl (fun hc26=>?_) (fun hc26=>?_)
  ·refine Ge rfl follows [0,1,2,3,4,5,6,7,8,9] L9<|D1 rfl rfl<|D1 rfl rfl<|D1 rfl rfl ?_;first | refine D2 rfl rfl Mb ?_ | refine D1 rfl rfl ?_
   iterate 3 refine D1 rfl rfl ?_
   first | refine D2 rfl rfl Mb ?_ | refine D1 rfl rfl ?_
   iterate 2 refine D1 rfl rfl ?_
   refine ⟨L9,?_⟩;exact Gt rfl<|⟨_,_,rfl,rfl,congrArg PV.bool (oD hab.1 hab.2 ht (fun e=>by rw [e] at hc26;simp at hc26)).symm⟩
  ·exact Il<|Z3 rfl rfl rfl rfl<|⟨(i+1),Io (aS rfl) trivial rfl rfl,⟨⟨L8,L8⟩,by rw [aJ hab.1,aJ hab.2,ht,show a[i]=b[i] from baT (by simpa using hc26)]⟩,L8⟩
 ·refine Gx rfl<|Gr rfl ?_;iterate 6 refine A1 rfl ?_
  exact Gt rfl<|⟨_,_,rfl,rfl,congrArg PV.bool (gL (i:=i) hi.1 hi.2 (by simp at hc15;omega) ht).symm⟩
theorem mO (a b:List ByteArray) (ha:a.length≤1000000) (hb:b.length≤1000000):FnP Tryz.prog 63 [aI a,aI b] (· = .bool (decide (a=b))):=by
 refine FnP.of func63 rfl ntmps63 Mc fun m0 w0 F R0=>?_
 refine Z1 rfl rfl<|Gr rfl ?_;iterate 5 refine A1 rfl ?_
 refine Gc rfl rfl (fun hc10=>?_) (fun hc10=>?_)
 ·exact Z1 rfl rfl<|Gt rfl<|⟨_,_,rfl,rfl,congrArg PV.bool (I6 (fun e=>by rw [e] at hc10;simp at hc10)).symm⟩
 ·have hl:a.length=b.length:=by simp at hc10;omega
  refine Il<|Z3 rfl rfl rfl rfl ?_;refine Gl rfl (st:=fun x_0:Nat=>mkS [(0,.pv (aI a)),(1,.pv (aI b)),(12,.pv (.int .i64 a.length)),(13,.pv (.int .i64 x_0))] [] 0)
   (I:=fun x_0=>x_0≤a.length∧a.take x_0=b.take x_0) (μ:=fun x_0=>a.length-x_0) (x0:=(0)) (Io (aS rfl) trivial rfl rfl) (⟨cH _,rfl⟩) ?_
  rintro i ⟨hi,ht⟩;refine Z1 rfl rfl ?_;refine Gp rfl rfl (fun hc14=>?_) (fun hc14=>?_)
  ·have ha1:i<a.length:=L8;have hb1:i<b.length:=L8;have va:=aM ha1;have na:=bc ha1;have vb:=aM hb1;have nb:=bc hb1;refine Il<|Z2 rfl rfl rfl<|Ge rfl follows [0,1,2,3,4,5,6,7,8] L9<|D1 rfl rfl<|D1 rfl rfl<|D1 rfl rfl ?_;first | refine D2 rfl rfl Mb ?_ | refine D1 rfl rfl ?_
   iterate 3 refine D1 rfl rfl ?_
   first | refine D2 rfl rfl Mb ?_ | refine D1 rfl rfl ?_
   refine D1 rfl rfl ?_;refine ⟨L9,?_⟩;refine Gc rfl rfl (fun hc24=>?_) (fun hc24=>?_)
   ·exact Z1 rfl rfl<|Gt rfl<|⟨_,_,rfl,rfl,congrArg PV.bool (I6 (fun e=>by subst e;simp at hc24)).symm⟩
   ·exact Il<|Z2 rfl rfl rfl<|⟨(i+1),Io (aS rfl) trivial rfl rfl,⟨L8,by rw [aJ ha1,aJ hb1,ht,show a[i]=b[i] from baT (by simpa using hc24)]⟩,L8⟩
  ·exact Gx rfl<|Z1 rfl rfl<|Gt rfl<|⟨_,_,rfl,rfl,congrArg PV.bool (Fz (by rwa [aR L8,aR L8] at ht)).symm⟩
end
section
section
variable {C:Ctx} {n:Nat} {σ:St} {dst:Option Tmp} {ty t:TypeId} {pos:String} {after:Array Edge} {gd:Option (Nat×Bool)} {x y:Operand}
theorem dK {T e:TypeId} {id s k:Nat} {kl:IntKind} {il:Int} {o:Ob} (l:Nat) (hT:C.P.underlying T=some (.slice e)) (hs:dx C.P e s) (hx:σ.ev n x= .osl id s k) (ho:σ.ob id=some o) (hy:σ.ev n y= .pv (.int kl il)) (hi:il=(l:Int)) (h1:l≤k) (hre:o.real=true:=by rfl):
  XJ C n ⟨dst,.slice T x (some y) none none,ty,pos,after,gd⟩ σ ⟨.tsl id (l*s) (k-l),[],[]⟩:=
 .val fun a w m R hw=>by
  obtain ⟨b,N,c,he,hkc,hcm,hN,hm,hor⟩:=hw.osl hx ho hre;have e1:a.eval y= .int kl l:=by rw [hw.int hy,hi]
  have hav:σ.av id=false:=by
   cases hv:σ.av id with
   | false=>rfl
   | true=>have:=hw.hr.free id hv;rw [ho] at this;cases this
  refine ⟨.slice (if c=l then some ⟨b,0,none⟩ else (some ⟨b,0,none⟩:Option Addr).map (·.add (l*s))) (k-l) (c-l),?_,?_⟩
  ·simp [execOp,he,e1,Instr.sliceAt,Instr.slice,Instr.sliceBounds,Instr.sliceBound,asIntOf,run_underlying hT,hs.run,h1]
  ·simp only [Rel];refine ⟨hav,_,_,rfl,fun hp b' N' e=>?_⟩;rw [hm] at e;cases e;rw [uv L8];simp [Addr.add_lit]
theorem G4.tsl {id off j size:Nat} {T:TypeId} {cs news:List PV} (hx:σ.ev n y= .tsl id off j) (ho:σ.ob id=some (.cells T cs)) (hn:news=cs.drop off) (hl:news.length=j*size):G4 C n σ y j news:=by
 intro a w m R hw;have h:=hw.ev y;rw [hx] at h;simp only [Rel] at h;obtain ⟨hav,A,c,he,hA⟩:=h;obtain ⟨b,N,hm,arr,hb,hsz,hle,hr⟩:=hw.live ho;refine ⟨A,c,(arr.toList.take cs.length).drop off,he,by rw [hn];exact hr.drop off,fun hne=>?_⟩;have hj:0<j:=by
  rcases J2 j with h0 | h0
  ·exfalso;apply hne;rw [h0,L7,hn,Kh] at hl;rw [List.drop_eq_nil_iff,BX];omega
  ·exact h0
 refine ⟨b,off,hA hj b N hm,trivial,(hw.hr.own id b N hm).1,fun i hi=>?_⟩;simp only [Kh,BX] at hi;rw [cell_of_row w b (off+i) arr T (0,0) hb,IP,Et,By L8];simp
theorem jA.any {j:Nat} {news:List PV} (h:jA n σ y j news):G4 C n σ y j news:=fun hw=>h.row hw
end
end
def St.gsO (σ:St) (t id sz n:Nat) (T:TypeId) (cs:List PV):St:=⟨upd σ.sl t (.gsl id sz n),obL [(id,some (.gro T cs))] σ.ob,σ.av⟩
theorem St.pn {σ:St} {id sz n:Nat} {T:TypeId} {cs:List PV} (t:Nat) (ht:σ.sl t= .osl id sz n) (ho:σ.ob id=some (.cells T cs)) (hn:0<n) (hc:cs≠[]):σ.le (σ.gsO t id sz n T cs):=by
 rintro C nn a w ⟨m,R,hw⟩;have hs:∀ i,i≠id→obL [(id,some (Ob.gro T cs))] σ.ob i=σ.ob i:=fun i hi=>dJ _ _ _ (by simpa using hi)
 have hi:obL [(id,some (Ob.gro T cs))] σ.ob id=some (.gro T cs):=by simp [obL]
 refine ⟨m,R,⟨?_,?_,?_,hw.hr.inj,hw.hr.own,hw.hr.rsz,hw.hr.rfr,hw.hr.r0,hw.hr.frame,hw.hr.keep,hw.hr.res⟩,hw.df,hw.sz,?_⟩
 ·intro i;by_cases e:i=id
  ·subst e;rw [hw.hr.dom,ho];show _=bl (obL _ _ _);rw [hi];exact (bQ hc).symm
  ·show _=bl (obL _ _ _);rw [hs i e];exact hw.hr.dom i
 ·intro i h;by_cases e:i=id
  ·subst e;have:=hw.hr.free i h;rw [ho] at this;cases this
  ·show obL _ _ _=none;rw [hs i e];exact hw.hr.free i h
 ·intro i o b N h1 h2;by_cases e:i=id
  ·subst e;have h1':obL [(i,some (Ob.gro T cs))] σ.ob i=some o:=h1;rw [hi] at h1';cases h1';have q:=hw.hr.obj i _ b N ho h2;exact q
  ·have h1':obL [(id,some (Ob.gro T cs))] σ.ob i=some o:=h1;rw [hs i e] at h1';exact hw.hr.obj i o b N h1' h2
 ·intro q hq;show Rel w m σ.av R (upd σ.sl t (.gsl id sz n) q) _;by_cases e:q=t
  ·subst e;rw [au];have:=hw.sl q hq;rw [ht] at this;simp only [Rel] at this ⊢;obtain ⟨b,N,hm,_⟩:=hw.live ho;obtain ⟨h0,h1⟩:=this;obtain ⟨c,he,h2,h3,h4⟩:=h1 b N hm;exact ⟨h0,_,c,he,h2,h3,fun e=>by omega,fun _ b' N' hm'=>by rw [hm] at hm';cases hm';exact ⟨rfl,h4⟩⟩
  ·rw [aG _ _ e];exact hw.sl q hq
def St.nilS (σ:St) (t:Nat):St:=⟨upd σ.sl t (.pv nS),σ.ob,σ.av⟩
theorem St.rB {σ:St} {id sz:Nat} (t:Nat) (ht:σ.sl t= .gsl id sz 0):σ.le (σ.nilS t):=by
 rintro C nn a w ⟨m,R,hw⟩;refine ⟨m,R,hw.hr,hw.df,hw.sz,fun q hq=>?_⟩;show Rel w m σ.av R (upd σ.sl t (.pv nS) q) _;by_cases e:q=t
 ·subst e;rw [au];have:=hw.sl q hq;rw [ht] at this;simp only [Rel,RelP] at this ⊢;obtain ⟨_,A,c,he,h1,h2,h3,_⟩:=this;obtain ⟨rfl,rfl,_⟩:=h3 trivial;exact ⟨none,0,he,h1,h2,(fun _ e=>by cases e;rfl),(fun _=>rfl),fun e=>absurd rfl e⟩
 ·rw [aG _ _ e];exact hw.sl q hq
section
open Go.RowKit Mk Jn
set_option maxHeartbeats 4000000
abbrev eV (x:Rw):List PV:=[aI x.v,.int .i64 x.w]
def aB (l:List Rw):List PV:=l.flatMap eV
abbrev bL (l:List Rw):PV:= .sl none l.length (aB l)
theorem aK (l:List Rw):(aB l).length=l.length*2:=fK _ 2 (fun _=>rfl) l
theorem aN {l:List Rw} {k:Nat} (h:k<l.length):((aB l).drop (k*2)).take 2=eV l[k]:=iq _ 2 (fun _=>rfl) l k h
theorem aW {l:List Rw} {k:Nat} (h:k<l.length):aB l≠[]:=fun e=>by have:=aK l;rw [e] at this;simp at this;omega
theorem nr {l:List Rw} {k:Nat} (h:k<l.length):(aB l)[k*2]? =some (aI l[k].v):=by
 have:=aN h;have h2:(((aB l).drop (k*2)).take 2)[0]? =(eV l[k])[0]? :=by rw [this]
 simpa [Et,IP] using h2
theorem s5 {l:List Rw} {k:Nat} (h:k<l.length):(aB l)[k*2+1]? =some (.int .i64 l[k].w):=by
 have:=aN h;have h2:(((aB l).drop (k*2)).take 2)[1]? =(eV l[k])[1]? :=by rw [this]
 simpa [Et,IP] using h2
theorem fj (l m:List Rw):aB (l++m)=aB l++aB m:=by simp [aB]
theorem dW (l:List Rw) (x:Rw):aB l++eV x=aB (l++[x]):=by simp [aB]
theorem dw (l:List Rw):∀ c∈aB l,c.leaf=true:=fun c hc=>by
 obtain ⟨t,_,hc⟩:=H2.1 hc;simp only [Bd,K9,or_false] at hc;rcases hc with rfl | rfl<;>rfl
theorem fu (l:List Rw) (k:Nat):(aB l).take (k*2)=aB (l.take k)∧(aB l).drop (k*2)=aB (l.drop k):=by
 have e:aB l=aB (l.take k)++aB (l.drop k):=by rw [← fj,JM]
 rcases LI l.length k with h | h
 ·have hl:=aK l;rw [aR L8,aR L8,List.drop_eq_nil_of_le L8,List.drop_eq_nil_of_le L8];exact ⟨rfl,rfl⟩
 ·have hl:(aB (l.take k)).length=k*2:=by rw [aK,BX,Lf h]
  constructor
  ·conv=>lhs;rw [e]
   rw [← hl,List.take_left]
  ·conv=>lhs;rw [e]
   rw [← hl,List.drop_left]
theorem qu {l:List Rw} {k:Nat} (h:k<l.length) (w:Int):(aB l).set (k*2+1) (.int .i64 w)=aB (l.set k ⟨l[k].v,w⟩):=by
 induction l generalizing k with
 | nil=>simp at h
 | cons a l ih=>
   cases k with
   | zero=>rfl
   | succ k=>
     have h2:k<l.length:=by simpa using h
     have e:=ih h2;rw [show (k+1)*2+1=k*2+1+1+1 by omega];show (aI a.v::PV.int .i64 a.w::aB l).set (k*2+1+1+1) _=aI a.v::PV.int .i64 a.w::aB (l.set k ⟨l[k].v,w⟩);rw [List.set_cons_succ,List.set_cons_succ,e]
theorem yZ {x:Rw}:∀ {i:Nat} {out:List Rw} (h:i<out.length),(∀ j (hj:j<out.length),j<i→aZ out[j].v x.v=true)→aZ out[i].v x.v=false→out[i].v=x.v→dB x out=out.set i ⟨out[i].v,out[i].w+x.w⟩
 | 0,y::l,_,_,h2,h3=>by
   rw [dB,uv (by simpa using h2),By (by simpa using h3)];rfl
 | i+1,y::l,h,h1,h2,h3=>by
   rw [dB,By (show aZ y.v x.v=true from h1 0 Mc L8),yZ (i:=i) (by simpa using h) (fun j hj hji=>h1 (j+1) (by simpa using hj) L8) (by simpa using h2) (by simpa using h3)];rfl
theorem ns {x:Rw}:∀ {i:Nat} {out:List Rw},i≤out.length→(∀ j (hj:j<out.length),j<i→aZ out[j].v x.v=true)→(∀ (h:i<out.length),aZ out[i].v x.v=false∧out[i].v≠x.v)→dB x out=out.take i++x::out.drop i
 | 0,[],_,_,_=>rfl
 | 0,y::l,_,_,h2=>by
   have:=h2 Mc;rw [dB,uv (by simpa using this.1),uv (by simpa using this.2)];rfl
 | i+1,y::l,h,h1,h2=>by
   rw [dB,By (show aZ y.v x.v=true from h1 0 Mc L8),ns (i:=i) (by simpa using h) (fun j hj hji=>h1 (j+1) (by simpa using hj) L8) (fun hi=>h2 (by simpa using hi))];rfl
theorem xw {x:Rw} {B X:Int} (hB:0≤B) (hx: -X≤x.w∧x.w≤X):∀ {l:List Rw},(∀ y∈l, -B≤y.w∧y.w≤B)→∀ y∈dB x l, -(B+X)≤y.w∧y.w≤B+X
 | [],_,y,hy=>by rw [dB,AK] at hy;rw [hy];omega
 | z::l,h,y,hy=>by
   have hz:=h z Mc;have hl:∀ y∈l, -B≤y.w∧y.w≤B:=fun y hy=>h y (by simp [hy])
   rw [dB] at hy;split at hy
   ·rcases Bd.1 hy with rfl | hy
    ·omega
    ·exact xw hB hx hl y hy
   ·split at hy
    ·rcases Bd.1 hy with rfl | hy
     ·show-(B+X)≤z.w+x.w∧z.w+x.w≤B+X;omega
     ·have:=hl y hy;omega
    ·rcases Bd.1 hy with rfl | hy
     ·omega
     ·have:=h y hy;omega
structure SoF (l:List Rw) (k:Nat) (out:List Rw):Prop where
 e:out=(l.take k).foldl (fun out x=>dB x out) []
 v:∀ y∈out,y.v.length≤1000
 w:∀ y∈out, -((k:Int)*1000000)≤y.w∧y.w≤(k:Int)*1000000
 n:out.length≤k
theorem SoF.zero (l:List Rw):SoF l 0 []:=⟨rfl,fun _ h=>absurd h Mc,fun _ h=>absurd h Mc,Cz _⟩
theorem SoF.succ {l out:List Rw} {k:Nat} (h:SoF l k out) (hk:k<l.length) (hv:l[k].v.length≤1000) (hw: -1000000≤l[k].w∧l[k].w≤1000000):SoF l (k+1) (dB l[k] out):=by
 refine ⟨?_,fun y hy=>?_,fun y hy=>?_,?_⟩
 ·rw [aJ hk,Ka, ← h.e];rfl
 ·rcases jL hy with e | ⟨z,hz,e⟩
  ·rw [e];exact hv
  ·rw [e];exact h.v z hz
 ·have:=xw (B:=(k:Int)*1000000) (X:=1000000) L8 hw h.w y hy;have e:((k+1:Nat):Int)*1000000=(k:Int)*1000000+1000000:=L8;rw [e];exact this
 ·have:=nU l[k] out;have:=h.n;omega
theorem wM (l:List Rw) (hl:l.length≤1000) (hv:∀ x∈l,x.v.length≤1000) (hw:∀ x∈l, -1000000≤x.w∧x.w≤1000000):FnP Tryz.prog 31 [bL l] (· =bL (lH l)):=by
 refine FnP.of func31 rfl ntmps31 Mc fun m0 w0 F R0=>?_
 have hll:=aK l;refine Z1 rfl rfl<|Z1 rfl rfl<|Im (Iu 3 0 2 49 rfl rfl)<|Z3 rfl rfl rfl rfl ?_;refine Gl rfl (st:=fun x_0:Nat×List Rw=>mkS [(3,.gsl 0 2 x_0.2.length),(10,.pv (bL l)),(11,.pv (.int .i64 l.length)),(12,.pv (.int .i64 x_0.1))] [(0,.gro 49 (aB x_0.2))] 1)
  (I:=fun x_0=>x_0.1≤l.length∧SoF l x_0.1 x_0.2) (μ:=fun x_0=>l.length-x_0.1) (x0:=(0,[])) (Io (aS rfl) (aO rfl) rfl rfl) (⟨cH _,SoF.zero l⟩) ?_
 rintro ⟨k,out⟩ ⟨hk,hs⟩;try simp only at hk hs ⊢
 refine Z1 rfl rfl ?_;refine Gp rfl rfl (fun hc13=>?_) (fun hc13=>?_)
 ·have hlt:k<l.length:=L8;have hrow:=aN hlt;have hne:=aW hlt;have hxv:=hv _ (af hlt);have hxw:=hw _ (af hlt);have hsu:=hs.succ hlt hxv hxw;have hon:=hs.n;have hol:=aK out;have hsw:=hs.w;have hsv:=hs.v;generalize l[k]=x at*;refine Il<|Z1 rfl rfl ?_;first | refine A3 rfl Mb ?_ | refine A1 rfl ?_
  refine Y2 rfl rfl ?_;by_cases he:out=[]
  ·have hl0:out.length=0:=by rw [he];rfl
   refine Im (St.rB 3 (id:=0) (sz:=2) (congrArg (fun n=>V.gsl 0 2 n) hl0))<|Z1 rfl rfl ?_;refine Gl rfl (st:=fun x_1:Nat=>mkS [(3,.pv nS),(5,.ptr 1 0),(6,.pv (.int .i64 x_1)),(10,.pv (bL l)),(11,.pv (.int .i64 l.length)),(12,.pv (.int .i64 k))] [(1,.mix 49 [.pv (aI x.v),.pv (.int .i64 x.w)])] 2)
    (I:=fun x_1=>x_1≤out.length∧∀ j (hj:j<out.length),j<x_1→aZ out[j].v x.v=true) (μ:=fun x_1=>out.length-x_1) (x0:=(0)) (Io (aS rfl) (aO rfl) rfl rfl) (⟨cH _,fun j _ h=>absurd h L8⟩) ?_
   rintro i ⟨hi,hall⟩;refine Ge rfl follows [0,1,2,3,4,5,6,7,8,9,10,11,12,13] L9<|D1 rfl rfl<|D1 rfl rfl<|D1 rfl rfl<|Ds 19 [] rfl rfl rfl (fun τ h=>XJ.cast (v':= .pv (.bool false)) (aQ (Ee h 0 rfl rfl) (Ee h 1 rfl rfl) rfl) (congrArg (fun b=>V.pv (.bool b)) (I6 L8))) rfl L9 ?_;iterate 10 refine D1 rfl rfl ?_
   refine ⟨L9,?_⟩;refine Gc rfl rfl (fun hc29=>absurd hc29 Mc) (fun hc29=>?_);refine Gx rfl<|Ge rfl follows [0,1,2,3,4,5,6,7,8,9,10,11,12,13] L9<|D1 rfl rfl<|D1 rfl rfl<|D1 rfl rfl<|Ds 35 [] rfl rfl rfl (fun τ h=>XJ.cast (v':= .pv (.bool false)) (aQ (Ee h 0 rfl rfl) (Ee h 1 rfl rfl) rfl) (congrArg (fun b=>V.pv (.bool b)) (I6 L8))) rfl L9 ?_;iterate 10 refine D1 rfl rfl ?_
   refine ⟨L9,?_⟩;refine Gc rfl rfl (fun hc45=>absurd hc45 Mc) (fun hc45=>?_);refine Il ?_;obtain rfl:i=0:=L8;have hput:dB x out=[x]:=by rw [he];rfl
   refine Ge rfl follows [0,1,2,3,4,5,6,7,8,9,10] L9 ?_;iterate 8 refine D1 rfl rfl ?_
   refine Ds 64 [_] rfl rfl rfl (fun τ h=>fc 3 xi (Ee h 0 rfl rfl) (Eo h 0 rfl rfl) rfl (.inl ⟨_,(Ee h 1 rfl rfl)⟩) rfl Mc L8 (h.n 0 _ rfl)) rfl L9<|Ds 65 [_] rfl rfl rfl (fun τ h=>rM 4 xi (Ee h 0 rfl rfl) (.inr ⟨_,_,_,_,(Ee h 1 rfl rfl),(Eo h 0 rfl rfl),rfl⟩) rfl (dw [x]) L8 (h.n 0 _ rfl)) rfl L9<|D1 rfl rfl ?_;refine ⟨L9,?_⟩;exact Z2 rfl rfl rfl<|⟨(k+1,dB x out),Ip [4] ⟨congrArg (fun n=>V.gsl 4 2 n) (show 1=(dB x out).length by rw [hput];rfl),rfl,rfl,rfl,trivial⟩ ⟨C4 (b:=some (.gro 49 (eV x))) L9 (congrArg (fun c=>some (Ob.gro 49 c)) (show eV x=aB (dB x out) by rw [hput];rfl)),trivial⟩ rfl rfl Ma rfl,⟨L8,hsu⟩,Me⟩
  ·have hpos:0<out.length:=IT.2 he;have hcne:aB out≠[]:=aW hpos;refine Im (St.ku 3 rfl rfl hpos hcne)<|Z1 rfl rfl ?_;refine Gl rfl (st:=fun x_1:Nat=>mkS [(3,.osl 0 2 out.length),(5,.ptr 1 0),(6,.pv (.int .i64 x_1)),(10,.pv (bL l)),(11,.pv (.int .i64 l.length)),(12,.pv (.int .i64 k))] [(0,.cells 49 (aB out)),(1,.mix 49 [.pv (aI x.v),.pv (.int .i64 x.w)])] 2)
    (I:=fun x_1=>x_1≤out.length∧∀ j (hj:j<out.length),j<x_1→aZ out[j].v x.v=true) (μ:=fun x_1=>out.length-x_1) (x0:=(0)) (Io (aS rfl) (aO rfl) rfl rfl) (⟨cH _,fun j _ h=>absurd h L8⟩) ?_
   rintro i ⟨hi,hall⟩;by_cases hi2:i<out.length
   ·have hov:(aB out)[i*2+0]? =some (aI out[i].v):=nr hi2;have how:=s5 hi2;have hom:=af hi2;have hob:=hsw _ hom;have hls:=vV out[i].v x.v (by have:=hsv _ hom;omega) L8;have hts:=mO out[i].v x.v (by have:=hsv _ hom;omega) L8;refine Ge rfl follows [0,1,2,3,4,5,6,7,8,9,10,11,12,13] L9<|D1 rfl rfl<|D1 rfl rfl<|D1 rfl rfl<|Ds 19 [] rfl rfl rfl (fun τ h=>XJ.cast (v':= .pv (.bool true)) (aQ (Ee h 0 rfl rfl) (Ee h 1 rfl rfl) rfl) (congrArg (fun b=>V.pv (.bool b)) (Fz L8))) rfl L9 ?_;iterate 5 refine D1 rfl rfl ?_
    refine Dg 25 [_] rfl rfl rfl rfl (fun τ h=>aC ⟨_,underlying47,rfl⟩ (Ee h 0 rfl rfl) (Eo h 0 rfl rfl) hov) rfl L9<|D1 rfl rfl<|D1 rfl rfl<|Dg 28 [] rfl rfl rfl rfl (fun τ h=>ae call20 hls (h.bt rfl)) rfl L9<|D1 rfl rfl ?_;refine ⟨L9,?_⟩;refine Gc rfl rfl (fun hc29=>?_) (fun hc29=>?_)
    ·exact Il<|Z3 rfl rfl rfl rfl<|⟨(i+1),Io (aS rfl) (aO rfl) rfl rfl,⟨L8,fun j hj hji=>if h:j<i then hall j hj h else (by obtain rfl:j=i:=L8;exact hc29)⟩,L8⟩
    ·refine Gx rfl<|Ge rfl follows [0,1,2,3,4,5,6,7,8,9,10,11,12,13] L9<|D1 rfl rfl<|D1 rfl rfl<|D1 rfl rfl<|Ds 35 [] rfl rfl rfl (fun τ h=>XJ.cast (v':= .pv (.bool true)) (aQ (Ee h 0 rfl rfl) (Ee h 1 rfl rfl) rfl) (congrArg (fun b=>V.pv (.bool b)) (Fz L8))) rfl L9 ?_;iterate 5 refine D1 rfl rfl ?_
     refine Dg 41 [_] rfl rfl rfl rfl (fun τ h=>aC ⟨_,underlying47,rfl⟩ (Ee h 0 rfl rfl) (Eo h 0 rfl rfl) hov) rfl L9<|D1 rfl rfl<|D1 rfl rfl<|Dg 44 [] rfl rfl rfl rfl (fun τ h=>ae call63 hts (h.bt rfl)) rfl L9<|D1 rfl rfl ?_;refine ⟨L9,?_⟩;refine Gc rfl rfl (fun hc45=>?_) (fun hc45=>?_)
     ·have hins:dB x out=out.set i ⟨out[i].v,out[i].w+x.w⟩:=yZ hi2 hall (by simpa using hc29) (Kb hc45);refine Ge rfl follows [0,1,2,3,4,5,6,7,8,9,10] L9 ?_;iterate 4 refine D1 rfl rfl ?_
      refine Ds 50 [_] rfl rfl rfl (fun τ h=>aC ⟨_,underlying3,rfl⟩ (Ee h 0 rfl rfl) (Eo h 0 rfl rfl) how) rfl L9 ?_;iterate 5 refine D1 rfl rfl ?_
      refine DL.step (d:=none) [_] rfl rfl rfl (fun τ h=>aF sz3 (Ee h 0 rfl rfl) (Eo h 0 rfl rfl) (Ee h 1 rfl rfl) rfl (by first | omega | (simp;omega))) rfl L9 ?_;refine ⟨L9,?_⟩;refine Im (St.pn 3 rfl rfl hpos (by intro e;have h:=congrArg List.length e;rw [IF] at h;exact hcne (IA h))) ?_;exact Gx rfl<|Z2 rfl rfl rfl<|⟨(k+1,dB x out),Io ⟨congrArg (fun n=>V.gsl 0 2 n) (show out.length=(dB x out).length by rw [hins,IF]),rfl,rfl,rfl,trivial⟩ ⟨C4 (b:=some (.gro 49 ((aB out).set (i*2+1) (.int .i64 (out[i].w+x.w))))) L9 (congrArg (fun c=>some (Ob.gro 49 c)) (by rw [hins];exact qu hi2 _)),trivial⟩ rfl rfl,⟨L8,hsu⟩,Me⟩
     ·refine Il ?_;have hput:dB x out=out.take i++x::out.drop i:=ns hi hall (fun h=>⟨by simpa using hc29,Kt hc45⟩);have hcut:=fu out i;have hdl:((aB out).drop (i*2)).length=(out.length-i)*2:=by rw [Kh];omega
      have hnews:((eV x).take (1*2)++(aB out).drop (i*2)).take ((1+(out.length-i))*2)=aB (x::out.drop i):=by
       rw [hcut.2,show (eV x).take (1*2)++aB (out.drop i)=aB (x::out.drop i) from rfl,aR];rw [aK,CG,Kh];omega
      have hnl:(((eV x).take (1*2)++(aB out).drop (i*2)).take ((1+(out.length-i))*2)).length=(1+(out.length-i))*2:=by rw [hnews,aK,CG,Kh];omega
      have hnf:∀ c∈((eV x).take (1*2)++(aB out).drop (i*2)).take ((1+(out.length-i))*2),c.leaf=true:=by rw [hnews];exact dw _
      have hcs:(aB out).take (i*2)++((eV x).take (1*2)++(aB out).drop (i*2)).take ((1+(out.length-i))*2)=aB (dB x out):=by rw [hnews,hcut.1,hput,fj]
      have hil:i+(1+(out.length-i))=(dB x out).length:=by rw [hput,AI,CG,BX,Kh];omega
      refine Ge rfl follows [0,1,2,3,4,5,6,7,8,9,10] L9<|D1 rfl rfl<|D1 rfl rfl<|Ds 58 [_] rfl rfl rfl (fun τ h=>dC i underlying38 lM (Ee h 0 rfl rfl) (Eo h 0 rfl rfl) (Ee h 1 rfl rfl) rfl hi) rfl L9 ?_;iterate 4 refine D1 rfl rfl ?_
      refine Ds 63 [_] rfl rfl rfl (fun τ h=>dK i underlying38 lM (Ee h 0 rfl rfl) (Eo h 0 rfl rfl) (Ee h 1 rfl rfl) rfl hi) rfl L9<|Ds 64 [_,_] rfl rfl rfl (fun τ h=>eI 3 xi (Ee h 0 rfl rfl) (Eo h 0 rfl rfl) (Cz _) (G4.tsl (Ee h 1 rfl rfl) (Eo h 1 rfl rfl) rfl hdl) hdl (fun c hc=>dw out c (List.mem_of_mem_drop hc)) L8 (h.n 0 _ rfl)) rfl L9<|Ds 65 [_,_] rfl rfl rfl (fun τ h=>eI 4 xi (Ee h 0 rfl rfl) (Eo h 0 rfl rfl) L8 (jA.any (.inr ⟨_,_,_,_,(Ee h 1 rfl rfl),(Eo h 1 rfl rfl),rfl⟩)) hnl hnf L8 (h.n 0 _ rfl)) rfl L9<|D1 rfl rfl ?_;refine ⟨L9,?_⟩;exact Im (St.pn 3 rfl rfl L8 (fun e=>aW (l:=dB x out) (k:=0) L8 (hcs.symm.trans e)))<|Z2 rfl rfl rfl<|⟨(k+1,dB x out),Ip [4] ⟨congrArg (fun n=>V.gsl 4 2 n) hil,rfl,rfl,rfl,trivial⟩ ⟨C4 (b:=some (.gro 49 ((aB out).take (i*2)++((eV x).take (1*2)++(aB out).drop (i*2)).take ((1+(out.length-i))*2)))) L9 (congrArg (fun c=>some (Ob.gro 49 c)) hcs),trivial⟩ rfl rfl Ma rfl,⟨L8,hsu⟩,Me⟩
   ·refine Ge rfl follows [0,1,2,3,4,5,6,7,8,9,10,11,12,13] L9<|D1 rfl rfl<|D1 rfl rfl<|D1 rfl rfl<|Ds 19 [] rfl rfl rfl (fun τ h=>XJ.cast (v':= .pv (.bool false)) (aQ (Ee h 0 rfl rfl) (Ee h 1 rfl rfl) rfl) (congrArg (fun b=>V.pv (.bool b)) (I6 L8))) rfl L9 ?_;iterate 10 refine D1 rfl rfl ?_
    refine ⟨L9,?_⟩;refine Gc rfl rfl (fun hc29=>absurd hc29 Mc) (fun hc29=>?_);refine Gx rfl<|Ge rfl follows [0,1,2,3,4,5,6,7,8,9,10,11,12,13] L9<|D1 rfl rfl<|D1 rfl rfl<|D1 rfl rfl<|Ds 35 [] rfl rfl rfl (fun τ h=>XJ.cast (v':= .pv (.bool false)) (aQ (Ee h 0 rfl rfl) (Ee h 1 rfl rfl) rfl) (congrArg (fun b=>V.pv (.bool b)) (I6 L8))) rfl L9 ?_;iterate 10 refine D1 rfl rfl ?_
    refine ⟨L9,?_⟩;refine Gc rfl rfl (fun hc45=>absurd hc45 Mc) (fun hc45=>?_);refine Il ?_;have hput:dB x out=out.take i++x::out.drop i:=ns hi hall (fun h=>absurd h hi2);have hcut:=fu out i;have hdl:((aB out).drop (i*2)).length=(out.length-i)*2:=by rw [Kh];omega
    have hnews:((eV x).take (1*2)++(aB out).drop (i*2)).take ((1+(out.length-i))*2)=aB (x::out.drop i):=by
     rw [hcut.2,show (eV x).take (1*2)++aB (out.drop i)=aB (x::out.drop i) from rfl,aR];rw [aK,CG,Kh];omega
    have hnl:(((eV x).take (1*2)++(aB out).drop (i*2)).take ((1+(out.length-i))*2)).length=(1+(out.length-i))*2:=by rw [hnews,aK,CG,Kh];omega
    have hnf:∀ c∈((eV x).take (1*2)++(aB out).drop (i*2)).take ((1+(out.length-i))*2),c.leaf=true:=by rw [hnews];exact dw _
    have hcs:(aB out).take (i*2)++((eV x).take (1*2)++(aB out).drop (i*2)).take ((1+(out.length-i))*2)=aB (dB x out):=by rw [hnews,hcut.1,hput,fj]
    have hil:i+(1+(out.length-i))=(dB x out).length:=by rw [hput,AI,CG,BX,Kh];omega
    refine Ge rfl follows [0,1,2,3,4,5,6,7,8,9,10] L9<|D1 rfl rfl<|D1 rfl rfl<|Ds 58 [_] rfl rfl rfl (fun τ h=>dC i underlying38 lM (Ee h 0 rfl rfl) (Eo h 0 rfl rfl) (Ee h 1 rfl rfl) rfl hi) rfl L9 ?_;iterate 4 refine D1 rfl rfl ?_
    refine Ds 63 [_] rfl rfl rfl (fun τ h=>dK i underlying38 lM (Ee h 0 rfl rfl) (Eo h 0 rfl rfl) (Ee h 1 rfl rfl) rfl hi) rfl L9<|Ds 64 [_,_] rfl rfl rfl (fun τ h=>eI 3 xi (Ee h 0 rfl rfl) (Eo h 0 rfl rfl) (Cz _) (G4.tsl (Ee h 1 rfl rfl) (Eo h 1 rfl rfl) rfl hdl) hdl (fun c hc=>dw out c (List.mem_of_mem_drop hc)) L8 (h.n 0 _ rfl)) rfl L9<|Ds 65 [_,_] rfl rfl rfl (fun τ h=>eI 4 xi (Ee h 0 rfl rfl) (Eo h 0 rfl rfl) L8 (jA.any (.inr ⟨_,_,_,_,(Ee h 1 rfl rfl),(Eo h 1 rfl rfl),rfl⟩)) hnl hnf L8 (h.n 0 _ rfl)) rfl L9<|D1 rfl rfl ?_;refine ⟨L9,?_⟩;exact Im (St.pn 3 rfl rfl L8 (fun e=>aW (l:=dB x out) (k:=0) L8 (hcs.symm.trans e)))<|Z2 rfl rfl rfl<|⟨(k+1,dB x out),Ip [4] ⟨congrArg (fun n=>V.gsl 4 2 n) hil,rfl,rfl,rfl,trivial⟩ ⟨C4 (b:=some (.gro 49 ((aB out).take (i*2)++((eV x).take (1*2)++(aB out).drop (i*2)).take ((1+(out.length-i))*2)))) L9 (congrArg (fun c=>some (Ob.gro 49 c)) hcs),trivial⟩ rfl rfl Ma rfl,⟨L8,hsu⟩,Me⟩
 ·refine Im (Ir 0 rfl rfl) ?_;have hon:=hs.n;have hol:=aK out;have hfin:lH l=out.filter fun y=>y.w !=0:=by rw [lH,hs.e,show k=l.length by omega,Ki]
  refine Gx rfl<|Z1 rfl rfl<|Im (Iu 7 1 2 49 rfl rfl)<|Z3 rfl rfl rfl rfl ?_;refine Gl rfl (st:=fun x_2:Nat×List Rw=>mkS [(7,.gsl 1 2 x_2.2.length),(67,.pv (bL out)),(68,.pv (.int .i64 out.length)),(69,.pv (.int .i64 x_2.1))] [(1,.gro 49 (aB x_2.2))] 2)
   (I:=fun x_2=>(x_2.1≤out.length∧x_2.2.length≤x_2.1)∧x_2.2=(out.take x_2.1).filter fun y=>y.w !=0) (μ:=fun x_2=>out.length-x_2.1) (x0:=(0,[])) (Io (aS rfl) (aO rfl) rfl rfl) (⟨⟨cH _,Cz _⟩,rfl⟩) ?_
  rintro ⟨j,q⟩ ⟨hj,hq⟩;try simp only at hj hq ⊢
  refine Z1 rfl rfl ?_;refine Gp rfl rfl (fun hc70=>?_) (fun hc70=>?_)
  ·have hlj:j<out.length:=L8;have hrj:=aN hlj;have hnj:=aW hlj;have hql:=aK q;have htk:out.take (j+1)=out.take j++[out[j]]:=aJ hlj;generalize out[j]=y at*;refine Il<|Z1 rfl rfl ?_;first | refine A3 rfl Mb ?_ | refine A1 rfl ?_
   refine Y2 rfl rfl<|Z3 rfl rfl rfl rfl ?_;refine Gc rfl rfl (fun hc75=>?_) (fun hc75=>?_)
   ·refine Gr rfl ?_;iterate 5 refine A1 rfl ?_
    exact Z2 rfl rfl rfl<|⟨(j+1,q++[y]),Ip [0,4] ⟨congrArg (fun n=>V.gsl 4 2 n) (show q.length+1=(q++[y]).length by simp),rfl,rfl,rfl,trivial⟩ ⟨C4 (b:=some (.gro 49 (aB q++eV y))) L9 (congrArg (fun c=>some (Ob.gro 49 c)) (dW q y)),trivial⟩ rfl rfl Ma rfl,⟨⟨L8,by simp only [AI,FE];omega⟩,by rw [htk,Jt, ← hq];simp only [Jy,List.filter_nil];rw [By hc75]⟩,Me⟩
   ·exact Il<|Z2 rfl rfl rfl<|⟨(j+1,q),Io (aS rfl) (aO rfl) rfl rfl,⟨⟨L8,Me⟩,by rw [htk,Jt, ← hq];simp only [Jy,List.filter_nil];rw [uv (by rw [hc75];decide),Jv]⟩,Me⟩
  ·exact Im (Ir 1 rfl rfl)<|Gx rfl<|Z2 rfl rfl rfl<|Gt rfl<|⟨_,_,rfl,rfl,by rw [hfin,show out.filter (fun y=>y.w !=0)=q by rw [hq,aR L8]];rfl⟩
end
section
open Go.RowKit Mk Jn
set_option maxHeartbeats 4000000
def Fk:List ByteArray:=[⟨#[114,101,100]⟩,⟨#[103,114,101,101,110]⟩,⟨#[98,108,117,101]⟩]
def rI:List ByteArray:=[⟨#[49]⟩,⟨#[50]⟩,⟨#[49,48]⟩]
def C6:List ByteArray:=[⟨#[48]⟩,⟨#[49]⟩,⟨#[45,50]⟩,⟨#[49,47,50]⟩,⟨#[51]⟩,⟨#[53,47,51]⟩,⟨#[49]⟩,⟨#[50]⟩]
def gX (kd:Int):List ByteArray:=⟨#[]⟩::(if kd=3 then Fk else if kd=1 then rI else C6)
def FA (c:Nat) (kd:Int):ByteArray:=if c=8 then ⟨#[]⟩ else if kd=3 then Fk.getD (c%3) ⟨#[]⟩ else if kd=1 then rI.getD (c%3) ⟨#[]⟩ else C6.getD c ⟨#[]⟩
theorem fE {l:List ByteArray} {j:Nat} (h:j<l.length):l.getD j ⟨#[]⟩=l[j]∧l[j]∈l:=⟨by simp [List.getD,h],af h⟩
theorem Di {c:Nat} (kd:Int) (h:c<9):FA c kd∈gX kd:=by
 unfold FA gX;by_cases h8:c=8
 ·rw [By h8];simp
 ·rw [uv h8];refine DJ _ ?_;by_cases h3:kd=3
  ·rw [By h3,By h3];have:=fE (l:=Fk) (j:=c%3) (KX _ Ma);rw [this.1];exact this.2
  ·rw [uv h3,uv h3];by_cases h1:kd=1
   ·rw [By h1,By h1];have:=fE (l:=rI) (j:=c%3) (KX _ Ma);rw [this.1];exact this.2
   ·rw [uv h1,uv h1];have:=fE (l:=C6) (j:=c) (by have e:C6.length=8:=rfl;omega);rw [this.1];exact this.2
theorem vw (L:List Int) (k:Nat) (hL:L.length≤600) (hk:k≤L.length) (nm:ByteArray) (kd:Int):
  FnM Tryz.prog 59 85 (jB L k) [.agg [.str nm,.int .i64 kd]] (fun v c=>v= .str (FA (sNv L k 9).toNat kd)∧c=jB L (sNk L k)):=by
 refine FnM.of func59 rfl ntmps59 Mc rfl Mc fun m0 w0 F R0=>?_
 have hn:=zP L k 9 hL hk Ma Ma;have hb:=uV L k 9 Ma;obtain ⟨c,hc⟩:=BY hb.1;have hc9:c<9:=L8;rw [hc] at hn;rw [hc,FJ];refine Z2 rfl rfl rfl<|Z1 rfl rfl<|Rs 7 rfl rfl (iu call18 hn rfl rfl)<|A1 rfl<|Z3 rfl rfl rfl rfl ?_;refine Gc rfl rfl (fun hc8=>?_) (fun hc8=>?_)
 ·have h8:c=8:=by have h:(c:Int)=8:=(by simpa using hc8);omega
  exact Z1 rfl rfl<|Gt rfl<|⟨_,jB L (sNk L k),rfl,rfl,congrArg PV.str (by rw [FA,By h8]),rfl⟩
 ·have h8:¬ c=8:=by have h:¬ (c:Int)=8:=(by simpa using hc8);omega
  refine Z4 rfl rfl rfl rfl rfl ?_;refine Gc rfl rfl (fun hc11=>?_) (fun hc11=>?_)
  ·have h3:kd=3:=by simpa using hc11
   have hlt:c%3<Fk.length:=KX _ Ma;have hv:=aM hlt;have hne:=bc hlt;exact Gr rfl<|Rs 15 rfl rfl (aq (vs:=Fk.map fun x=> .pv (.str x)) (cs:=aA Fk) none Mc uq rfl Ma Ma L9 L9)<|A1 rfl<|Rs 17 rfl rfl (XJ.cast (v':= .pv (.int .i64 ((c%3:Nat):Int))) (l8 rfl rfl Ma) rfl)<|Rs 18 rfl rfl (ag (c%3) underlying47 sz9 rfl rfl rfl hlt hne)<|Rs 19 rfl rfl (ai ⟨_,underlying9,rfl⟩ rfl hv)<|A1 rfl<|Gt rfl<|⟨_,jB L (sNk L k),rfl,rfl,congrArg PV.str (by rw [FA,uv h8,By h3,(fE hlt).1]),rfl⟩
  ·have h3:¬ kd=3:=by simpa using hc11
   refine Z4 rfl rfl rfl rfl rfl ?_;refine Gc rfl rfl (fun hc20=>?_) (fun hc20=>?_)
   ·have h1:kd=1:=by simpa using hc20
    have hlt:c%3<rI.length:=KX _ Ma;have hv:=aM hlt;have hne:=bc hlt;exact Gr rfl<|Rs 24 rfl rfl (aq (vs:=rI.map fun x=> .pv (.str x)) (cs:=aA rI) none Mc uq rfl Ma Ma L9 L9)<|A1 rfl<|Rs 26 rfl rfl (XJ.cast (v':= .pv (.int .i64 ((c%3:Nat):Int))) (l8 rfl rfl Ma) rfl)<|Rs 27 rfl rfl (ag (c%3) underlying47 sz9 rfl rfl rfl hlt hne)<|Rs 28 rfl rfl (ai ⟨_,underlying9,rfl⟩ rfl hv)<|A1 rfl<|Gt rfl<|⟨_,jB L (sNk L k),rfl,rfl,congrArg PV.str (by rw [FA,uv h8,uv h3,By h1,(fE hlt).1]),rfl⟩
   ·have h1:¬ kd=1:=by simpa using hc20
    have hlt:c<C6.length:=by have e:C6.length=8:=rfl;omega
    have hv:=aM hlt;have hne:=bc hlt;exact Il<|Gr rfl<|Rs 29 rfl rfl (aq (vs:=C6.map fun x=> .pv (.str x)) (cs:=aA C6) none Mc uq rfl Ma Ma L9 L9)<|A1 rfl<|Rs 31 rfl rfl (ag c underlying47 sz9 rfl rfl rfl hlt hne)<|Rs 32 rfl rfl (ai ⟨_,underlying9,rfl⟩ rfl hv)<|A1 rfl<|Gt rfl<|⟨_,jB L (sNk L k),rfl,rfl,congrArg PV.str (by rw [FA,uv h8,uv h3,uv h1,(fE hlt).1]),rfl⟩
theorem rZ (L:List Int) (k:Nat) (hL:L.length≤600) (hk:k≤L.length) (nm:ByteArray) (kd:Int):
  ∃ x∈gX kd,FnM Tryz.prog 59 85 (jB L k) [.agg [.str nm,.int .i64 kd]] (fun v c=>v= .str x∧c=jB L (sNk L k)):=
 ⟨_,Di kd (by have:=uV L k 9 Ma;omega),vw L k hL hk nm kd⟩
end
section
open Go.RowKit Mk Jn
set_option maxHeartbeats 4000000
theorem yz (x y:Int) (hx:x.natAbs<1000000000) (hy:y.natAbs<1000000000):Gy x y:=by
 have hs:∀ n:Nat,n<1000000000→(aj n).length≤1:=fun n h=>bF.2 L8
 exact sF (fun a b=>a<1000000000∧b<1000000000) (fun a b h h0 h1 _ _=>by
  have:=hs a h.1;have:=hs b h.2;omega) x y ⟨hx,hy⟩ (by have:=hs _ hx;omega) (by have:=hs _ hy;omega)
theorem DR {s:ByteArray} (h:cS s=false):o5 s=⟨#[]⟩:=by
 unfold cS at h;unfold o5;have:∀ l m:List UInt8,(Lib.cut l m).2.2=false→(Lib.cut l m).2.1=[]:=fun l m h=>by
  unfold Lib.cut at h ⊢;split at h
  ·simp at h
  ·split
   ·contradiction
   ·rfl
 rw [this _ _ h]
theorem Ad (z:Int) (hz:z.natAbs<1000000000):FnP Tryz.prog 250 [ec z] (· = .tup [.int .i64 z,.bool true]):=by
 refine FnP.of func250 rfl ntmps250 Mc fun m0 w0 F R0=>?_
 have hlen:(aj z.natAbs).length≤1:=bF.2 L8;have hat:=ja (aj z.natAbs) 2 L8;have hl2:lim (aj z.natAbs) 2=0:=by rw [gA];omega
 generalize lim (aj z.natAbs) 2=L at*;have hsm:=dF z.natAbs L8;have hwr:IntKind.i64.wrap ((z.natAbs:Nat):Int)=(z.natAbs:Int):=eT L8;refine Z3 rfl rfl rfl rfl<|Gr rfl ?_;iterate 5 refine A1 rfl ?_
 apply Ix 5 9 14 [10,11,12,13] rfl (by first | exact ax.le | exact ax.aw | exact Iv)
 ·intro hb4;iterate 5 refine A1 rfl ?_
  exact Iq (Ik (Ik (Ik (Ik (Ik (Ik (fEq.refl) rfl) rfl) rfl) rfl) rfl) rfl) rfl rfl rfl
 ·intro hb4;exact Y2 rfl rfl<|Rg 12 rfl rfl rfl (ae call184 hat rfl)<|Y2 rfl rfl<|Iq (Ik (Ik (Ik (Ik (Ik (Ik (fEq.refl) rfl) rfl) rfl) rfl) rfl) rfl) rfl rfl rfl
 refine Gc rfl rfl (fun hc14=>absurd hc14 (fun h=>by simp at h;omega)) (fun hc14=>?_);refine Il<|Ge rfl follows [0,1,2,3,4,5,6,7,8,9] L9<|D1 rfl rfl<|D1 rfl rfl<|Ds 17 [] rfl rfl rfl (fun τ h=>ae call184 hat (h.bt rfl)) rfl L9<|Ds 18 [] rfl rfl rfl (fun τ h=>nL (b:=1000000000) (Ee h 0 rfl rfl) (Ee h 1 rfl rfl) L8) rfl L9<|Ds 19 [] rfl rfl rfl (fun τ h=>nL (b:=1000000000) (Ee h 0 rfl rfl) (Ee h 1 rfl rfl) L8) rfl L9<|D1 rfl rfl<|D1 rfl rfl<|Ds 22 [] rfl rfl rfl (fun τ h=>ae call270 hsm (h.bt rfl)) rfl L9<|Ds 23 [] rfl rfl rfl (fun τ h=>XJ.cast (v':= .pv (.int .u64 (z.natAbs:Int))) (nR (b:=z.natAbs) (Ee h 0 rfl rfl) (Ee h 1 rfl rfl) L8) (congrArg (fun n:Nat=>V.pv (.int .u64 (n:Int))) L8)) rfl L9<|D1 rfl rfl ?_;refine ⟨L9,?_⟩;refine Z2 rfl rfl rfl ?_;refine Gp rfl rfl (fun hc25=>absurd hc25 L8) (fun hc25=>?_);refine Il<|Z2 rfl rfl rfl ?_;refine Gc rfl rfl (fun hc27=>?_) (fun hc27=>?_)
 ·have hz0:z<0:=Kb hc27;exact Z1 rfl rfl<|Rs 29 rfl rfl ((en underlying136 underlying3 rfl).cast (v':= .pv (.int .i64 (z.natAbs:Int))) (congrArg (fun z=>V.pv (.int .i64 z)) hwr))<|Y3 rfl rfl rfl<|Gt rfl<|⟨_,_,rfl,rfl,congrArg (fun q=>PV.tup [PV.int IntKind.i64 q,PV.bool true]) (show-(z.natAbs:Int)=z by omega)⟩
 ·have hz0:¬ z<0:=Kt hc27;exact Il<|Z1 rfl rfl<|Rs 32 rfl rfl ((en underlying136 underlying3 rfl).cast (v':= .pv (.int .i64 (z.natAbs:Int))) (congrArg (fun z=>V.pv (.int .i64 z)) hwr))<|Y2 rfl rfl<|Gt rfl<|⟨_,_,rfl,rfl,congrArg (fun q=>PV.tup [PV.int IntKind.i64 q,PV.bool true]) (show (z.natAbs:Int)=z by omega)⟩
theorem p3 (s:ByteArray) (h:bo s=true) (hz:(rdZ s).natAbs<1000000000):FnP Tryz.prog 218 [.str s] (· = .tup [.int .i64 (rdZ s),.bool true]):=by
 refine FnP.of func218 rfl ntmps218 Mc fun m0 w0 F R0=>?_
 have hv:=cV s;rw [h] at hv;refine Z2 rfl rfl rfl<|Z1 rfl rfl<|Rs 5 rfl rfl (ae call248 hv rfl)<|A1 rfl ?_;refine Gc rfl rfl (fun hc6=>absurd hc6 Mc) (fun hc6=>?_);refine Il<|Z1 rfl rfl<|Rs 8 rfl rfl (ae call249 (iC s h) rfl)<|Rs 9 rfl rfl (ae call250 (Ad _ hz) rfl) ?_;iterate 4 refine A1 rfl ?_
 exact Gt rfl<|⟨_,_,rfl,rfl,rfl⟩
theorem jn (s:ByteArray) (h:bo s=true) (hz:(rdZ s).natAbs<1000000000):FnP Tryz.prog 216 [.str s] (· = .bool true):=by
 refine FnP.of func216 rfl ntmps216 Mc fun m0 w0 F R0=>?_
 have h1:decide (rdZ s≥ -1000000000)=true:=Fz L8;have h2:decide (rdZ s≤1000000000)=true:=Fz L8;refine Z1 rfl rfl<|Z1 rfl rfl<|Rs 7 rfl rfl (ae call218 (p3 s h hz) rfl) ?_;iterate 5 refine A1 rfl ?_
 exact Z3 rfl rfl rfl rfl<|Rg 13 rfl rfl rfl (XJ.cast (v':= .pv (.bool true)) (aQ rfl rfl rfl) (congrArg (fun b=>V.pv (.bool b)) h1))<|Y3 rfl rfl rfl<|Rg 17 rfl rfl rfl (XJ.cast (v':= .pv (.bool true)) (aQ rfl rfl rfl) (congrArg (fun b=>V.pv (.bool b)) h2))<|Y2 rfl rfl<|Gt rfl<|⟨_,_,rfl,rfl,rfl⟩
theorem EP:bo ⟨#[]⟩=false:=L9
theorem zW:FnP Tryz.prog 218 [.str ⟨#[]⟩] (· = .tup [.int .i64 0,.bool false]):=by
 refine FnP.of func218 rfl ntmps218 Mc fun m0 w0 F R0=>?_
 have hv:=cV ⟨#[]⟩;rw [EP] at hv;refine Z2 rfl rfl rfl<|Z1 rfl rfl<|Rs 5 rfl rfl (ae call248 hv rfl)<|A1 rfl ?_;refine Gc rfl rfl (fun hc6=>?_) (fun hc6=>absurd hc6 Mc);exact Z2 rfl rfl rfl<|Gt rfl<|⟨_,_,rfl,rfl,rfl⟩
theorem GA:mP ⟨#[]⟩=false:=L9
theorem GR:bo (sO ⟨#[]⟩)=false:=L9
theorem vL:FnP Tryz.prog 217 [.str ⟨#[]⟩] (· = .tup [.str ⟨#[]⟩,.str ⟨#[]⟩,.bool false]):=by
 refine FnP.of func217 rfl ntmps217 Mc fun m0 w0 F R0=>?_
 have hv:=j9 ⟨#[]⟩ Ma (fun h=>by rw [GR] at h;cases h);rw [GA] at hv;refine Z3 rfl rfl rfl rfl<|Z1 rfl rfl<|Rs 9 rfl rfl (ae call246 hv rfl)<|A1 rfl ?_;refine Gc rfl rfl (fun hc10=>?_) (fun hc10=>absurd hc10 Mc);exact Z3 rfl rfl rfl rfl<|Gt rfl<|⟨_,_,rfl,rfl,rfl⟩
structure NumOk (v:ByteArray):Prop where
 s:v.size<4294967281
 r:mP v=true
 n:bo (sO v)=true∧(rdZ (sO v)).natAbs<1000000000
 d:cS v=true→bo (o5 v)=true∧1≤rdZ (o5 v)∧rdZ (o5 v)≤12
theorem vT (v:ByteArray) (h:NumOk v):FnP Tryz.prog 217 [.str v] (· = .tup [.str (sO v),.str (if cS v=true then o5 v else EE),.bool true]):=by
 refine FnP.of func217 rfl ntmps217 Mc fun m0 w0 F R0=>?_
 have hG:bo (sO v)=true→HA v=false→Gy (rdZ (sO v)) (rdZ (o5 v)):=fun _ hb=>by
  refine yz _ _ h.n.2 ?_;have hr:=h.r;unfold mP at hr;by_cases hs:cS v=true
  ·have:=h.d hs;omega
  ·rw [By (by rw [h.n.1,Jw hs];rfl)] at hr;have e:o5 v=⟨#[]⟩:=DR (Jw hs);rw [e];decide
 have hv:=j9 v h.s hG;rw [h.r] at hv;have hc:=DY v ⟨#[47]⟩ h.s;refine Z3 rfl rfl rfl rfl<|Z1 rfl rfl<|Rs 9 rfl rfl (ae call246 hv rfl)<|A1 rfl ?_;refine Gc rfl rfl (fun hc10=>absurd hc10 Mc) (fun hc10=>?_);refine Il<|Z1 rfl rfl<|Rs 13 rfl rfl (ae call247 hc rfl) ?_;iterate 7 refine A1 rfl ?_
 refine Z2 rfl rfl rfl ?_;refine Gc rfl rfl (fun hc18=>?_) (fun hc18=>?_)
 ·have hs:cS v=false:=by have h9:(!cS v)=true:=hc18;simpa using h9
  rw [hs,uv Ma];refine Z1 rfl rfl<|Gr rfl ?_;iterate 5 refine A1 rfl ?_
  exact Gt rfl<|⟨_,_,rfl,rfl,rfl⟩
 ·have hs:cS v=true:=by have h9:(!cS v)=false:=hc18;simpa using h9
  rw [hs,By rfl];refine Il<|Gr rfl ?_;iterate 5 refine A1 rfl ?_
  exact Gt rfl<|⟨_,_,rfl,rfl,rfl⟩
theorem kG (nm v:ByteArray) (h:v=⟨#[]⟩∨bo v=true∧(rdZ v).natAbs<1000000000):FnP Tryz.prog 179 [.agg [.str nm,.int .i64 1],.str v] (· = .bool true):=by
 refine FnP.of func179 rfl ntmps179 Mc fun m0 w0 F R0=>?_
 refine Z2 rfl rfl rfl<|Z2 rfl rfl rfl<|Z2 rfl rfl rfl ?_;refine Gc rfl rfl (fun hc12=>?_) (fun hc12=>absurd hc12 Mc);by_cases he:v=⟨#[]⟩
 ·subst he;refine Z1 rfl rfl<|Rs 15 rfl rfl (XJ.cast (v':= .pv (.bool true)) (cF rfl rfl rfl) (congrArg (fun b=>V.pv (.bool b)) (Lm _))) ?_;iterate 5 refine A1 rfl ?_
  exact Gt rfl<|⟨_,_,rfl,rfl,rfl⟩
 ·have hne:(v.toList==(⟨#[]⟩:ByteArray).toList)=false:=by rw [J4];exact fun e=>he (bytes_inj e)
  obtain ⟨hv1,hv2⟩:=h.resolve_left he;exact Z1 rfl rfl<|Rs 15 rfl rfl (XJ.cast (v':= .pv (.bool false)) (cF rfl rfl rfl) (congrArg (fun b=>V.pv (.bool b)) hne))<|Y2 rfl rfl<|Rg 18 rfl rfl rfl (ae call216 (jn v hv1 hv2) rfl)<|Y2 rfl rfl<|Gt rfl<|⟨_,_,rfl,rfl,rfl⟩
theorem qW (nm v:ByteArray) (h:v=⟨#[]⟩∨oS v=true∧v.size≤1000):FnP Tryz.prog 179 [.agg [.str nm,.int .i64 3],.str v] (· = .bool true):=by
 refine FnP.of func179 rfl ntmps179 Mc fun m0 w0 F R0=>?_
 refine Z2 rfl rfl rfl<|Z2 rfl rfl rfl<|Z2 rfl rfl rfl ?_;refine Gc rfl rfl (fun hc12=>absurd hc12 Mc) (fun hc12=>?_);refine Z2 rfl rfl rfl ?_;refine Gc rfl rfl (fun hc20=>absurd hc20 Mc) (fun hc20=>?_);refine Z2 rfl rfl rfl ?_;refine Gc rfl rfl (fun hc50=>?_) (fun hc50=>absurd hc50 Mc);by_cases he:v=⟨#[]⟩
 ·subst he;refine Z1 rfl rfl<|Rs 53 rfl rfl (XJ.cast (v':= .pv (.bool true)) (cF rfl rfl rfl) (congrArg (fun b=>V.pv (.bool b)) (Lm _))) ?_;iterate 5 refine A1 rfl ?_
  exact Gt rfl<|⟨_,_,rfl,rfl,rfl⟩
 ·have hne:(v.toList==(⟨#[]⟩:ByteArray).toList)=false:=by rw [J4];exact fun e=>he (bytes_inj e)
  obtain ⟨hv1,hv2⟩:=h.resolve_left he;have hws:=q9 v L8;rw [hv1] at hws;exact Z1 rfl rfl<|Rs 53 rfl rfl (XJ.cast (v':= .pv (.bool false)) (cF rfl rfl rfl) (congrArg (fun b=>V.pv (.bool b)) hne))<|Y2 rfl rfl<|Rg 56 rfl rfl rfl (ae call212 hws rfl)<|Y2 rfl rfl<|Gt rfl<|⟨_,_,rfl,rfl,rfl⟩
theorem yD (nm v:ByteArray) (h:NumOk v) (hne0:v≠⟨#[]⟩):FnP Tryz.prog 179 [.agg [.str nm,.int .i64 2],.str v] (· = .bool true):=by
 refine FnP.of func179 rfl ntmps179 Mc fun m0 w0 F R0=>?_
 have hpa:=vT v h;have hden:bo (if cS v=true then o5 v else EE)=true∧1≤rdZ (if cS v=true then o5 v else EE)∧rdZ (if cS v=true then o5 v else EE)≤12:=by
  by_cases hs:cS v=true
  ·rw [By hs];exact h.d hs
  ·rw [uv hs];exact ⟨nk,by rw [se];decide,by rw [se];decide⟩
 generalize (if cS v=true then o5 v else EE)=dn at*;have hsm:=p3 dn hden.1 L8;have hbd:=jn (sO v) h.n.1 h.n.2;have hne:(v.toList==(⟨#[]⟩:ByteArray).toList)=false:=by rw [J4];exact fun e=>hne0 (bytes_inj e)
 have h1:decide (rdZ dn≥1)=true:=Fz hden.2.1;have h2:decide (rdZ dn≤12)=true:=Fz hden.2.2;refine Z2 rfl rfl rfl<|Z2 rfl rfl rfl<|Z2 rfl rfl rfl ?_;refine Gc rfl rfl (fun hc12=>absurd hc12 Mc) (fun hc12=>?_);refine Z2 rfl rfl rfl ?_;refine Gc rfl rfl (fun hc20=>?_) (fun hc20=>absurd hc20 Mc);refine Z1 rfl rfl<|Rs 24 rfl rfl (ae call217 hpa rfl) ?_;iterate 7 refine A1 rfl ?_
 refine Z1 rfl rfl<|Rs 30 rfl rfl (ae call218 hsm rfl) ?_;iterate 5 refine A1 rfl ?_
 refine Z1 rfl rfl<|Rs 34 rfl rfl (XJ.cast (v':= .pv (.bool false)) (cF rfl rfl rfl) (congrArg (fun b=>V.pv (.bool b)) hne)) ?_;iterate 4 refine A1 rfl ?_
 exact Rg 39 rfl rfl rfl (ae call216 hbd rfl)<|Y3 rfl rfl rfl<|Rg 43 rfl rfl rfl (XJ.cast (v':= .pv (.bool true)) (aQ rfl rfl rfl) (congrArg (fun b=>V.pv (.bool b)) h1))<|Y3 rfl rfl rfl<|Rg 47 rfl rfl rfl (XJ.cast (v':= .pv (.bool true)) (aQ rfl rfl rfl) (congrArg (fun b=>V.pv (.bool b)) h2))<|Y3 rfl rfl rfl<|Gt rfl<|⟨_,_,rfl,rfl,rfl⟩
theorem vz (nm:ByteArray):FnP Tryz.prog 179 [.agg [.str nm,.int .i64 2],.str ⟨#[]⟩] (· = .bool true):=by
 refine FnP.of func179 rfl ntmps179 Mc fun m0 w0 F R0=>?_
 have hpa:=vL;have hsm:=zW;refine Z2 rfl rfl rfl<|Z2 rfl rfl rfl<|Z2 rfl rfl rfl ?_;refine Gc rfl rfl (fun hc12=>absurd hc12 Mc) (fun hc12=>?_);refine Z2 rfl rfl rfl ?_;refine Gc rfl rfl (fun hc20=>?_) (fun hc20=>absurd hc20 Mc);refine Z1 rfl rfl<|Rs 24 rfl rfl (ae call217 hpa rfl) ?_;iterate 7 refine A1 rfl ?_
 refine Z1 rfl rfl<|Rs 30 rfl rfl (ae call218 hsm rfl) ?_;iterate 5 refine A1 rfl ?_
 refine Z1 rfl rfl<|Rs 34 rfl rfl (XJ.cast (v':= .pv (.bool true)) (cF rfl rfl rfl) (congrArg (fun b=>V.pv (.bool b)) (Lm _))) ?_;iterate 16 refine A1 rfl ?_
 exact Gt rfl<|⟨_,_,rfl,rfl,rfl⟩
end
end Go.Proofs.YtedfonppffochaaGreatDoor
namespace Go.Proofs
open Go.Proofs.YtedfonppffochaaGreatDoor
open Go.Shelf
def Tryz.sortRow_ren:Go.Shelf.Ren:=⟨fun | 6=>53 | 15=>104 | 14=>103 | 28=>163 | 29=>164 | 20=>155 | 21=>156 | 22=>157 | 23=>158 | 24=>159 | 25=>160 | 26=>161 | 27=>162 | 46=>197 | 47=>198 | 48=>199 | 49=>200 | 50=>201 | 57=>238 | n=>n,fun | 22=>38 | 24=>49 | 25=>97 | 3=>3 | 39=>161 | 0=>0 | 53=>218 | 55=>136 | 4=>4 | 46=>211 | 45=>210 | 50=>215 | 5=>5 | 9=>9 | 66=>246 | 70=>250 | 76=>279 | 77=>280 | n=>n,fun | n=>n⟩
theorem Tryz.sortRow:Go.Proofs.SlLaysF0.n6 Tryz.prog Tryz.sortRow_ren:={
 mixed:=L9
 f6:=⟨Tryz.f53.name,Ma,Tryz.func53.trans (congrArg some L9)⟩
 f14:=⟨Tryz.f103.name,Ma,Tryz.func103.trans (congrArg some L9)⟩
 f15:=Tryz.func104.trans (congrArg some L9)
 f20:=⟨Tryz.f155.name,Ma,Tryz.func155.trans (congrArg some L9)⟩
 f21:=⟨Tryz.f156.name,Ma,Tryz.func156.trans (congrArg some L9)⟩
 f22:=⟨Tryz.f157.name,Ma,Tryz.func157.trans (congrArg some L9)⟩
 f23:=⟨Tryz.f158.name,Ma,Tryz.func158.trans (congrArg some L9)⟩
 f24:=⟨Tryz.f159.name,Ma,Tryz.func159.trans (congrArg some L9)⟩
 f25:=⟨Tryz.f160.name,Ma,Tryz.func160.trans (congrArg some L9)⟩
 f26:=⟨Tryz.f161.name,Ma,Tryz.func161.trans (congrArg some L9)⟩
 f27:=⟨Tryz.f162.name,Ma,Tryz.func162.trans (congrArg some L9)⟩
 f28:=Tryz.func163.trans (congrArg some L9)
 f29:=Tryz.func164.trans (congrArg some L9)
 f46:=⟨Tryz.f197.name,Ma,Tryz.func197.trans (congrArg some L9)⟩
 f47:=Tryz.func198.trans (congrArg some L9)
 f48:=Tryz.func199.trans (congrArg some L9)
 f49:=⟨Tryz.f200.name,Ma,Tryz.func200.trans (congrArg some L9)⟩
 f50:=⟨Tryz.f201.name,Ma,Tryz.func201.trans (congrArg some L9)⟩
 f57:=⟨Tryz.f238.name,Ma,Tryz.func238.trans (congrArg some L9)⟩
 t0:=Tryz.underlying0
 a0:=Tryz.isAgg0
 z0:=Tryz.sizeOf0
 v0:=Tryz.zeroValue0
 t3:=Tryz.underlying3
 a3:=Tryz.isAgg3
 z3:=Tryz.sizeOf3
 v3:=Tryz.zeroValue3
 t4:=Tryz.underlying4
 a4:=Tryz.isAgg4
 z4:=Tryz.sizeOf4
 v4:=Tryz.zeroValue4
 t5:=Tryz.underlying5
 a5:=Tryz.isAgg5
 z5:=Tryz.sizeOf5
 v5:=Tryz.zeroValue5
 t9:=Tryz.underlying9
 a9:=Tryz.isAgg9
 z9:=Tryz.sizeOf9
 v9:=Tryz.zeroValue9
 t22:=Tryz.underlying38
 a22:=Tryz.isAgg38
 z22:=Tryz.sizeOf38
 v22:=Tryz.zeroValue38
 t25:=Tryz.underlying97
 a25:=Tryz.isAgg97
 z25:=Tryz.sizeOf97
 v25:=Tryz.zeroValue97
 t39:=Tryz.underlying161
 a39:=Tryz.isAgg161
 z39:=Tryz.sizeOf161
 v39:=Tryz.zeroValue161
 t45:=Tryz.underlying210
 a45:=Tryz.isAgg210
 z45:=Tryz.sizeOf210
 v45:=Tryz.zeroValue210
 t46:=Tryz.underlying211
 a46:=Tryz.isAgg211
 z46:=Tryz.sizeOf211
 v46:=Tryz.zeroValue211
 t50:=Tryz.underlying215
 a50:=Tryz.isAgg215
 z50:=Tryz.sizeOf215
 v50:=Tryz.zeroValue215
 t53:=Tryz.underlying218
 a53:=Tryz.isAgg218
 z53:=Tryz.sizeOf218
 v53:=Tryz.zeroValue218
 t55:=Tryz.underlying136
 a55:=Tryz.isAgg136
 z55:=Tryz.sizeOf136
 v55:=Tryz.zeroValue136
 t66:=Tryz.underlying246
 a66:=Tryz.isAgg246
 z66:=Tryz.sizeOf246
 v66:=Tryz.zeroValue246
 t70:=Tryz.underlying250
 a70:=Tryz.isAgg250
 z70:=Tryz.sizeOf250
 v70:=Tryz.zeroValue250
 t76:=Tryz.underlying279
 a76:=Tryz.isAgg279
 z76:=Tryz.sizeOf279
 v76:=Tryz.zeroValue279
 t77:=Tryz.underlying280
 a77:=Tryz.isAgg280
 z77:=Tryz.sizeOf280
 v77:=Tryz.zeroValue280 }
end Go.Proofs
namespace Go.Proofs.YtedfonppffochaaGreatDoor
section
open Go.RowKit Mk Jn
def xk (s t:ByteArray):Int:=if Op.bytesLess s.toList t.toList=true then-1 else if (s.toList==t.toList)=true then 0 else 1
def lN (a b:List ByteArray):Int:=if aZ a b=true then-1 else if a=b then 0 else 1
theorem Af (s:ByteArray) (w:World):Calls Tryz.prog 172 #[.string s] w fun e w'=>e= .returned (.bool false)∧w=w':=by
 have hs:(s.toList !=s.toList)=false:=Mc
 go_enter func172,ntmps172
 go_wp2
 go_ret
 exact ⟨rfl,rfl⟩
theorem Ce (s t:ByteArray) (w:World):Calls Tryz.prog 111 #[.string s,.string t] w fun e w'=>e= .returned (.int .i64 (xk s t))∧w=w':=by
 have hn:=Af
 go_enter func111,ntmps111
 go_wp2_with (go_at_call 172;refine (hn _ _).mono ?_;rintro e w' ⟨rfl,rfl⟩)
 ·have h1:Op.bytesLess s.toList t.toList=true:=Mb
  go_ret
  exact ⟨gp (by unfold xk;rw [By h1]),rfl⟩
 ·have h1:Op.bytesLess s.toList t.toList=false:=Mb;have h2:(!s.toList==t.toList)=true:=Mb
  go_ret
  refine ⟨gp ?_,rfl⟩;unfold xk;rw [h1,uv Ma,uv (by simpa using h2)]
 ·have h1:Op.bytesLess s.toList t.toList=false:=Mb;have h2:(!s.toList==t.toList)=false:=Mb
  go_ret
  refine ⟨gp ?_,rfl⟩;unfold xk;rw [h1,uv Ma,By (by simpa using h2)]
theorem xr {s t:ByteArray} (h:xk s t=0):s=t:=by
 unfold xk at h;split at h
 ·cases h
 ·split at h
  ·next h2=>exact bytes_inj (by simpa using h2)
  ·cases h
theorem E9 {a b:List ByteArray} {k:Nat} (ha:k<a.length) (hb:k<b.length) (e:a.take k=b.take k) (hne:xk a[k] b[k]≠0):lN a b=xk a[k] b[k]:=by
 have hd:a[k]≠b[k]:=fun e2=>hne (by
  unfold xk;rw [e2,uv (by rw [jG];simp),By Mc])
 have hl:=oD ha hb e hd;have hab:a≠b:=fun e2=>by subst e2;exact hd rfl
 have ht:(a[k].toList==b[k].toList)=false:=by
  cases hh:(a[k].toList==b[k].toList) with
  | false=>rfl
  | true=>exact absurd (bytes_inj (by simpa using hh)) hd
 unfold lN xk;rw [hl,uv hab,ht];simp
theorem xY {a b:List ByteArray} {k:Nat} (ha:k<a.length) (hb:k=b.length) (e:a.take k=b.take k):lN a b=1:=by
 have hl:=gL (a:=a) (b:=b) (i:=k) L8 L8 (.inr hb) e;unfold lN;rw [hl,uv Md,uv (by rintro rfl;omega)]
theorem vn {a b:List ByteArray} {k:Nat} (ha:k=a.length) (hb:k≤b.length) (e:a.take k=b.take k):lN a b=if (a.length:Int)<b.length then-1 else 0:=by
 have hl:=gL (a:=a) (b:=b) (i:=k) L8 L8 (.inl ha) e;unfold lN;rw [hl];by_cases h:(a.length:Int)<b.length
 ·rw [Fz h];simp [h]
 ·rw [I6 h,uv Ma,By,uv h];rw [aR L8,aR L8] at e;exact e
theorem uD (A B:Option Addr) (c d:Nat) (l m:List ByteArray) (w:World) {R:Nat→Prop} (h:Row w R A (GF l)) {R':Nat→Prop} (h':Row w R' B (GF m)) (hl:l.length≤1000000) (hm:m.length≤1000000):
  Calls Tryz.prog 74 #[.slice A l.length c,.slice B m.length d] w fun e w'=>e= .returned (.int .i64 (lN l m))∧w=w':=by
 have hcc:=Ce;have hA:=@Row.D4 _ _ _ _ h;have hB:=@Row.D4 _ _ _ _ h';clear h h'
 go_enter func74,ntmps74
 go_wp2
 go_loop [11] (fun i=>∃ k:Nat,k≤l.length∧k≤m.length∧i= .int .i64 k∧l.take k=m.take k) (fun i=>l.length-(intOf i).toNat)
 case atStart=>exact ⟨0,cH _,cH _,rfl,Mc⟩
 case round=>
  obtain ⟨k,hk,hkm,rfl,hno⟩:=hrel;have HN:=Lib.hid hno;clear hno;by_cases hlt:k<l.length
  ·obtain ⟨b,off,rfl,hb,hck⟩:=hA hlt;by_cases hlt':k<m.length
   ·obtain ⟨b',off',rfl,hb',hck'⟩:=hB hlt';clear hA hB
    go_wp2_with (go_at_call 111;refine (hcc _ _ _).mono ?_;rintro e w' ⟨rfl,rfl⟩)
    ·have he:(xk l[k] m[k] !=0)=true:=Mb
     go_ret
     exact ⟨gp (E9 hlt hlt' HN.out (by simpa using he)).symm,rfl⟩
    ·have he:(xk l[k] m[k] !=0)=false:=Mb;refine ⟨⟨k+1,L8,L8,by go_num,?_⟩,by simp [intOf];omega⟩;have hn:=HN.out;rw [aJ hlt,aJ hlt',hn,xr (s:=l[k]) (t:=m[k]) (by simpa using he)]
   ·obtain rfl:k=m.length:=L8;clear hA hB
    go_wp2
    go_ret
    exact ⟨gp (xY hlt rfl HN.out).symm,rfl⟩
  ·clear hA hB
   go_wp2
   ·have he:l.length<m.length:=Mb
    go_ret
    refine ⟨gp ?_,rfl⟩;rw [vn L8 hkm HN.out,By L8]
   ·have he:¬ l.length<m.length:=Mb
    go_ret
    refine ⟨gp ?_,rfl⟩;rw [vn L8 hkm HN.out,uv L8]
theorem sj (A B:Option Addr) (c d:Nat) (l m:List ByteArray) (p q:Int) (w:World) {R:Nat→Prop} (h:Row w R A (GF l)) {R':Nat→Prop} (h':Row w R' B (GF m)) (hl:l.length≤1000000) (hm:m.length≤1000000):
  Calls Tryz.prog 54 #[.agg #[.slice A l.length c,.int .i64 p],.agg #[.slice B m.length d,.int .i64 q]] w fun e w'=>e= .returned (.int .i64 (lN l m))∧∃ n os',w'=Go.Sort.grow (w.drewN n) os':=by
 have hcon:=fun o1 o2=>uD A B c d l m ((w.alloc o1).alloc o2) ((h.alloc o1).alloc o2) ((h'.alloc o1).alloc o2) hl hm
 clear h h';generalize lN l m=z at hcon ⊢
 go_enter func54,ntmps54
 go_wp2_with (go_at_call 74;refine (hcon _ _).mono ?_;rintro e w' ⟨rfl,rfl⟩)
 go_ret
 exact ⟨rfl,0,_,by rw [Go.Sort.alloc_eq_grow,Go.Sort.alloc_eq_grow,Go.Sort.grow_grow];rfl⟩
end
section
open Go.RowKit Mk Jn
set_option maxHeartbeats 4000000
theorem n0:NumOk ⟨#[48]⟩:=⟨Ma,L9,⟨L9,by decide+kernel⟩,fun h=>absurd h (by decide+kernel)⟩
theorem n1:NumOk ⟨#[49]⟩:=⟨Ma,L9,⟨L9,by decide+kernel⟩,fun h=>absurd h (by decide+kernel)⟩
theorem n2:NumOk ⟨#[50]⟩:=⟨Ma,L9,⟨L9,by decide+kernel⟩,fun h=>absurd h (by decide+kernel)⟩
theorem n3:NumOk ⟨#[51]⟩:=⟨Ma,L9,⟨L9,by decide+kernel⟩,fun h=>absurd h (by decide+kernel)⟩
theorem nm2:NumOk ⟨#[45,50]⟩:=⟨Ma,L9,⟨L9,by decide+kernel⟩,fun h=>absurd h (by decide+kernel)⟩
theorem nh:NumOk ⟨#[49,47,50]⟩:=⟨Ma,L9,⟨L9,by decide+kernel⟩,fun _=>⟨L9,by decide+kernel,by decide+kernel⟩⟩
theorem n53:NumOk ⟨#[53,47,51]⟩:=⟨Ma,L9,⟨L9,by decide+kernel⟩,fun _=>⟨L9,by decide+kernel,by decide+kernel⟩⟩
theorem we (nm v:ByteArray) (kd:Int) (hk:kd=1∨kd=2∨kd=3) (hv:v∈gX kd):FnP Tryz.prog 179 [.agg [.str nm,.int .i64 kd],.str v] (· = .bool true):=by
 rcases hk with rfl | rfl | rfl
 ·refine kG nm v ?_;simp only [gX,rI,Bd,K9,or_false] at hv;rcases hv with rfl | hv
  ·exact .inl rfl
  ·right
   simp at hv;rcases hv with rfl | rfl | rfl<;>exact ⟨L9,by decide+kernel⟩
 ·by_cases hne:v=⟨#[]⟩
  ·rw [hne];exact vz nm
  ·refine yD nm v ?_ hne;simp only [gX,C6,Bd,K9,or_false] at hv;have hv:=hv.resolve_left hne;simp at hv;rcases hv with rfl | rfl | rfl | rfl | rfl | rfl | rfl | rfl
   ·exact n0
   ·exact n1
   ·exact nm2
   ·exact nh
   ·exact n3
   ·exact n53
   ·exact n1
   ·exact n2
 ·refine qW nm v ?_;simp only [gX,Fk,Bd,K9,or_false] at hv;rcases hv with rfl | hv
  ·exact .inl rfl
  ·right
   simp at hv;rcases hv with rfl | rfl | rfl<;>exact ⟨L9,Ma⟩
theorem mf {w:World} {R:Nat→Prop}:∀ {l:List ByteArray} {us:List Value},RelPL w R (aA l) us→us=l.map Value.string
 | [],us,h=>by simpa [RelPL] using h
 | x::l,us,h=>by
   simp only [AS,RelPL,RelP] at h;obtain ⟨u,vs,rfl,rfl,h2⟩:=h;rw [mf h2];rfl
theorem tK {w:World} {R:Nat→Prop} (hR:∀ b,R b→b<w.heap.size) {l:List ByteArray} {us:List Value} {ps:List PV} (h:RelPL w R (aI l::ps) us):∃ A c vs,us= .slice A l.length c::vs∧Row w R A (GF l)∧RelPL w R ps vs:=by
 simp only [RelPL,RelP] at h;obtain ⟨u,vs,rfl,⟨A,c,rfl,_,_,_,_,h5⟩,h6⟩:=h;refine ⟨A,c,vs,rfl,fun hne=>?_,h6⟩;obtain ⟨b,off,us,rfl,h6,h7,h8⟩:=h5 (fun e=>hne (by rw [List.map_eq_nil_iff] at e ⊢; exact e));have e7:us=l.map Value.string:=mf h6;subst e7;exact ⟨b,off,rfl,h7,hR b h7,h8⟩
theorem x9 (a b:List ByteArray) (ha:a.length≤1000000) (hb:b.length≤1000000):FnP Tryz.prog 74 [aI a,aI b] (· = .int .i64 (lN a b)):=by
 intro w R us hG hR hrel;obtain ⟨A,c,vs,rfl,r1,h1⟩:=tK hR hrel;obtain ⟨B,d,vs,rfl,r2,h2⟩:=tK hR h1;obtain rfl:=(by simpa [RelPL] using h2:vs=[]);exact (uD A B c d a b w r1 r2 ha hb).mono fun e w' ⟨he,hw⟩=>⟨_,_,he,rfl,by rw [← hw];exact Below.refl _ _,by simp only [RelP]⟩
theorem Eb (a b:List ByteArray):decide (lN a b<0)=aZ a b:=by
 unfold lN;cases h:aZ a b with
 | true=>rw [By rfl];rfl
 | false=>rw [uv Ma];by_cases h2:a=b<;>simp [h2]
theorem xb (a b:List ByteArray) (ha:a.length≤1000000) (hb:b.length≤1000000):FnP Tryz.prog 32 [aI a,aI b] (· = .bool (aZ a b)):=by
 refine FnP.of func32 rfl ntmps32 Mc fun m0 w0 F R0=>?_
 have hc:=x9 a b ha hb;exact Z1 rfl rfl<|Z2 rfl rfl rfl<|Rs 7 rfl rfl (ae call74 hc rfl)<|Y2 rfl rfl<|Gt rfl<|⟨_,_,rfl,rfl,congrArg PV.bool (Eb a b)⟩
end
section
open Go.RowKit Mk Jn
set_option maxHeartbeats 4000000
def MdV (S:Sch) (A:List Int) (v:List ByteArray):Prop:=v.length=A.length∧∀ i (h:i<v.length) (h2:i<A.length),v[i]∈gX (S.attrs.getD A[i].toNat default).2
def MdR (S:Sch) (A:List Int) (x:Rw):Prop:=(1≤x.w∧x.w≤5)∧MdV S A x.v
def MdT (S:Sch) (A:List Int) (most:Nat) (l:List Rw):Prop:=∃ l0,l=lH l0∧l0.length≤most∧∀ x∈l0,MdR S A x
theorem Gb (v:List ByteArray) (x:ByteArray):aA v++[PV.str x]=aA (v++[x]):=Mc
theorem MdV.snoc {S:Sch} {A:List Int} {v:List ByteArray} {j:Nat} (hj:j<A.length) (h:v.length=j∧∀ i (h:i<v.length) (h2:i<A.length),v[i]∈gX (S.attrs.getD A[i].toNat default).2) {x:ByteArray} (hx:x∈gX (S.attrs.getD A[j].toNat default).2):
  (v++[x]).length=j+1∧∀ i (h:i<(v++[x]).length) (h2:i<A.length),(v++[x])[i]∈gX (S.attrs.getD A[i].toNat default).2:=by
 obtain ⟨rfl,hv⟩:=h;refine ⟨Mc,fun i h h2=>?_⟩;rcases LI i v.length with h3 | h3
 ·rw [LB h3];exact hv i h3 h2
 ·have e:i=v.length:=by simp at h;omega
  subst e;rw [List.getElem_append_right (Cz _)];simpa using hx
theorem bW {α:Type} (l:List α) (a:α):l.length+1=(l++[a]).length:=Mc
theorem pV (L:List Int) (k:Nat) (hL:L.length≤600) (hk:k≤L.length) (S:Sch) (r most:Nat) (hm:most≤100) (hr:r<S.rels.length) (hA:S.rels[r].2.length≤1000) (hb:∀ a∈S.rels[r].2,0≤a∧a<S.attrs.length):
  FnM Tryz.prog 15 85 (jB L k) [gK S,.int .i64 r,.int .i64 most] (fun v c=>(∃ l,MdT S S.rels[r].2 most l∧v=bL l)∧∃ k',k'≤L.length∧c=jB L k'):=by
 refine FnM.of func15 rfl ntmps15 Mc rfl Mc fun m0 w0 F R0=>?_
 have hkk:∀ k,k≤L.length→sNk L k≤L.length:=fun k hk=>by unfold sNk;split<;>omega
 have hk1:=hkk _ hk;have hn1:=zP L k ((most:Int)+1) hL hk L8 L8;have hb1:=uV L k ((most:Int)+1) L8;generalize sNv L k ((most:Int)+1)=nb at*;have hrne:=ew hr;have hra:(bj S.rels)[r*2+1]? =some (ak S.rels[r].2):=by
  have h2:(((bj S.rels).drop (r*2)).take 2)[1]? =[PV.str S.rels[r].1,ak S.rels[r].2][1]? :=by rw [cW hr]
  simpa [Et,IP] using h2
 generalize S.rels[r].2=A at*;refine Z2 rfl rfl rfl<|Z1 rfl rfl<|Im (Iu 9 1 2 49 rfl rfl)<|Z3 rfl rfl rfl rfl<|Rs 17 rfl rfl (iu call18 hn1 rfl rfl)<|A1 rfl ?_;refine Gl rfl (st:=fun x_0:Int×Nat×List Rw=>mkS [(0,.ptr big 0),(2,.pv (.int .i64 r)),(5,.ptr 0 0),(9,.gsl 1 2 x_0.2.2.length),(10,.pv (.int .i64 x_0.1))] [(big,HD L x_0.2.1),(0,.mix 34 [.pv (.sl none S.attrs.length (cc S.attrs)),.pv (.sl none S.rels.length (bj S.rels)),.pv (.sl none S.feats.length (bm S.feats)),.pv (.int .i64 S.label)]),(1,.gro 49 (aB x_0.2.2))] 2)
  (I:=fun x_0=>(((0≤x_0.1∧x_0.1≤most)∧(x_0.2.2.length:Int)+x_0.1≤most)∧x_0.2.1≤L.length)∧∀ x∈x_0.2.2,MdR S A x) (μ:=fun x_0=>x_0.1.toNat) (x0:=(nb,sNk L k,[])) (Io (aS rfl) (aO rfl) rfl rfl) (⟨⟨⟨⟨Me,Me⟩,by simp only [List.length_nil];omega⟩,hk1⟩,fun _ h=>absurd h Mc⟩) ?_
 rintro ⟨i,k2,l⟩ ⟨⟨⟨hi,hli⟩,hk2⟩,hl⟩;try simp only at hi hli hk2 hl ⊢
 refine Z2 rfl rfl rfl ?_;refine Gp rfl rfl (fun hc19=>?_) (fun hc19=>?_)
 ·obtain ⟨pk,hpk1,hpk⟩:=wm L k2 [1,1,2,5] hL hk2 Mc Mc;have hpk2:1≤pk∧pk≤5:=by simp at hpk1;omega
  have hk3:=hkk _ hk2;have hll:=aK l;refine Il<|Z1 rfl rfl<|Rs 23 rfl rfl (aq none Mc xj rfl Ma Ma rfl rfl)<|Rs 24 rfl rfl (iu call58 hpk rfl rfl)<|Y3 rfl rfl rfl<|Im (St.er (T':=49) (cs:=[.pv nS,.pv (.int .i64 pk)]) 2 0 3 1 9 L9 rfl L9)<|Z3 rfl rfl rfl rfl<|Rs 29 rfl rfl (ag r underlying31 Eu rfl rfl rfl hr hrne)<|A1 rfl<|Rs 31 rfl rfl (ai ⟨_,underlying22,rfl⟩ rfl hra)<|Y2 rfl rfl ?_;refine Gl rfl (st:=fun x_1:Nat×Nat×List ByteArray=>mkS [(0,.ptr big 0),(2,.pv (.int .i64 r)),(5,.ptr 0 0),(9,.gsl 1 2 l.length),(10,.pv (.int .i64 i)),(11,.ptr 2 0),(31,.pv (ak A)),(32,.pv (.int .i64 A.length)),(33,.pv (.int .i64 x_1.1))] [(big,HD L x_1.2.1),(0,.mix 34 [.pv (.sl none S.attrs.length (cc S.attrs)),.pv (.sl none S.rels.length (bj S.rels)),.pv (.sl none S.feats.length (bm S.feats)),.pv (.int .i64 S.label)]),(1,.gro 49 (aB l)),(2,.mix 49 [.gsl 3 1 x_1.2.2.length,.pv (.int .i64 pk)]),(3,.gro 9 (aA x_1.2.2))] 4)
   (I:=fun x_1=>(x_1.1≤A.length∧x_1.2.1≤L.length)∧(x_1.2.2.length=x_1.1∧∀ i (h:i<x_1.2.2.length) (h2:i<A.length),x_1.2.2[i]∈gX (S.attrs.getD A[i].toNat default).2)) (μ:=fun x_1=>A.length-x_1.1) (x0:=(0,sNk L k2,[])) (Io (aS rfl) (aO rfl) rfl rfl) (⟨⟨cH _,hk3⟩,rfl,fun i h=>absurd h Mc⟩) ?_
  rintro ⟨j,k3,v⟩ ⟨⟨hj,hk4⟩,hmd⟩;try simp only at hj hk4 hmd ⊢
  refine Z1 rfl rfl ?_;refine Gp rfl rfl (fun hc34=>?_) (fun hc34=>?_)
  ·have hlj:j<A.length:=L8;obtain ⟨a,haa⟩:=BY (hb _ (af hlj)).1;have hal:a<S.attrs.length:=by have:=(hb _ (af hlj)).2;omega
   have hpv:(aE A)[j*1]? =some (.int .i64 (a:Int)):=by rw [← haa];simp [hlj]
   have hpn:=aH hlj;have har:=od hal;have han:=lq hal;obtain ⟨x,hxm,hxs⟩:=rZ L k3 hL hk4 S.attrs[a].1 S.attrs[a].2;have hmd2:=MdV.snoc hlj hmd (x:=x) (by rw [haa,FJ];simpa [List.getD,hal] using hxm);have hk5:=hkk _ hk4;have hvl:=hmd.1;refine Il<|Gr rfl<|Rs 35 rfl rfl (ag j underlying22 sz3 rfl rfl rfl hlj hpn)<|Rs 36 rfl rfl (ai ⟨_,underlying3,rfl⟩ rfl hpv)<|A1 rfl<|Ge rfl follows [0,1,2,3,4,5,6,7,8,9,10,11,12] L9 ?_;iterate 6 refine D1 rfl rfl ?_
   refine Ds 43 [] rfl rfl rfl (fun τ h=>ag a underlying28 G1 (Ee h 0 rfl rfl) (Ee h 1 rfl rfl) rfl hal han) rfl L9<|Ds 44 [] rfl rfl rfl (fun τ h=>db ⟨_,underlying27,rfl⟩ G1 (Ee h 0 rfl rfl) har rfl) rfl L9<|Ds 45 [_] rfl rfl rfl (fun τ h=>iu call59 hxs (h.args.trans rfl) (Eo h 0 rfl rfl)) rfl L9 ?_;iterate 4 refine D1 rfl rfl ?_
   refine ⟨L9,?_⟩;exact Z2 rfl rfl rfl<|⟨(j+1,sNk L k3,v++[x]),Ip [0,1,2,5] (aT rfl) ⟨rfl,rfl,rfl,C4 (b:=some (.mix 49 [.gsl 5 1 (v.length+1),.pv (.int .i64 pk)])) L9 (congrArg (fun n=>some (Ob.mix 49 [.gsl 5 1 n,.pv (.int .i64 pk)])) (bW v x)),C4 (b:=some (.gro 9 (aA v++[.str x]))) L9 (congrArg (fun c=>some (Ob.gro 9 c)) (Gb v x)),trivial⟩ rfl rfl Ma rfl,⟨⟨L8,hk5⟩,hmd2⟩,Me⟩
  ·refine Im (Ir 3 rfl rfl) ?_;have hmr:MdR S A ⟨v,pk⟩:=⟨hpk2,(by have:=hmd.1;omega:v.length=A.length),hmd.2⟩;refine Gx rfl<|Gr rfl ?_;iterate 5 refine A1 rfl ?_
   exact Z3 rfl rfl rfl rfl<|⟨(i-1,k3,l++[⟨v,pk⟩]),Ip [0,5] ⟨rfl,rfl,rfl,congrArg (fun n=>V.gsl 5 2 n) (bW l ⟨v,pk⟩),rfl,trivial⟩ ⟨rfl,rfl,C4 (b:=some (.gro 49 (aB l++eV ⟨v,pk⟩))) L9 (congrArg (fun c=>some (Ob.gro 49 c)) (dW l ⟨v,pk⟩)),trivial⟩ rfl rfl Ma rfl,⟨⟨⟨Me,by simp only [AI,FE];omega⟩,hk4⟩,fun y hy=>by rcases Dq.1 hy with h | h;exact hl y h;rw [AK.1 h];exact hmr⟩,Me⟩
 ·refine Im (Ir 1 rfl rfl) ?_;have hso:=wM l L8 (fun x hx=>by have:=(hl x hx).2.1;omega) (fun x hx=>by have:=(hl x hx).1;omega);exact Gx rfl<|Z1 rfl rfl<|Rs 55 rfl rfl (ae call31 hso rfl)<|A1 rfl<|Gt rfl<|⟨_,jB L k2,rfl,rfl,⟨lH l,⟨l,rfl,L8,hl⟩,rfl⟩,k2,hk2,rfl⟩
def dv (d:List (List Rw)):List PV:=d.map bL
abbrev dbP (d:List (List Rw)):PV:= .sl none d.length (dv d)
theorem jE (d:List (List Rw)) (l:List Rw):dv d++[bL l]=dv (d++[l]):=by simp [dv]
theorem dH (d:List (List Rw)):(dv d).length=d.length*1:=by simp [dv]
def MdD (S:Sch) (most n:Nat) (d:List (List Rw)):Prop:=d.length=n∧∀ i (h:i<d.length) (h2:i<S.rels.length),MdT S S.rels[i].2 most d[i]
theorem MdD.snoc {S:Sch} {most n:Nat} {d:List (List Rw)} (h:MdD S most n d) (hn:n<S.rels.length) {l:List Rw} (hl:MdT S S.rels[n].2 most l):MdD S most (n+1) (d++[l]):=by
 obtain ⟨rfl,hd⟩:=h;refine ⟨Mc,fun i h h2=>?_⟩;rcases LI i d.length with h3 | h3
 ·rw [LB h3];exact hd i h3 h2
 ·have e:i=d.length:=by simp at h;omega
  subst e;rw [List.getElem_append_right (Cz _)];simpa using hl
theorem nB (L:List Int) (k:Nat) (hL:L.length≤600) (hk:k≤L.length) (S:Sch) (most:Nat) (hm:most≤100) (hS:S.rels.length≤1000) (hA:∀ r∈S.rels,r.2.length≤1000∧∀ a∈r.2,0≤a∧a<S.attrs.length):
  FnM Tryz.prog 11 85 (jB L k) [gK S,.int .i64 most] (fun v c=>(∃ d,MdD S most S.rels.length d∧v=dbP d)∧∃ k',k'≤L.length∧c=jB L k'):=by
 refine FnM.of func11 rfl ntmps11 Mc rfl Mc fun m0 w0 F R0=>?_
 refine Z2 rfl rfl rfl<|Z1 rfl rfl<|Im (Iu 7 1 1 38 rfl rfl)<|Z4 rfl rfl rfl rfl rfl ?_;refine Gl rfl (st:=fun x_0:Nat×Nat×List (List Rw)=>mkS [(0,.ptr big 0),(2,.pv (.int .i64 most)),(4,.ptr 0 0),(7,.gsl 1 1 x_0.2.2.length),(11,.pv (.int .i64 S.rels.length)),(12,.pv (.int .i64 x_0.1))] [(big,HD L x_0.2.1),(0,.mix 34 [.pv (.sl none S.attrs.length (cc S.attrs)),.pv (.sl none S.rels.length (bj S.rels)),.pv (.sl none S.feats.length (bm S.feats)),.pv (.int .i64 S.label)]),(1,.gro 38 (dv x_0.2.2))] 2)
  (I:=fun x_0=>(x_0.1≤S.rels.length∧x_0.2.1≤L.length)∧MdD S most x_0.1 x_0.2.2) (μ:=fun x_0=>S.rels.length-x_0.1) (x0:=(0,k,[])) (Io (aS rfl) (aO rfl) rfl rfl) (⟨⟨cH _,hk⟩,rfl,fun i h=>absurd h Mc⟩) ?_
 rintro ⟨i,k2,d⟩ ⟨⟨hi,hk2⟩,hd⟩;try simp only at hi hk2 hd ⊢
 refine Z1 rfl rfl ?_;refine Gp rfl rfl (fun hc13=>?_) (fun hc13=>?_)
 ·have hlt:i<S.rels.length:=L8;have hrA:=hA _ (af hlt);have hdl:=hd.1;have htl:=dH d;refine Il<|Z2 rfl rfl rfl<|Gr rfl ?_;iterate 5 refine A1 rfl ?_
  refine RL.call rfl (jW call15 (pV L k2 hL hk2 S i most hm hlt hrA.1 hrA.2) rfl rfl ?_);rintro _ _ ⟨⟨l,hml,rfl⟩,k3,hk3,rfl⟩;have hsn:=hd.snoc hlt hml;exact Y3 rfl rfl rfl<|Z2 rfl rfl rfl<|⟨(i+1,k3,d++[l]),Ip [0,3] ⟨rfl,rfl,rfl,congrArg (fun n=>V.gsl 3 1 n) (bW d l),rfl,rfl,trivial⟩ ⟨rfl,rfl,C4 (b:=some (.gro 38 (dv d++[bL l]))) L9 (congrArg (fun c=>some (Ob.gro 38 c)) (jE d l)),trivial⟩ rfl rfl Ma rfl,⟨⟨L8,hk3⟩,hsn⟩,Me⟩
 ·refine Im (Ir 1 rfl rfl) ?_;have hin:i=S.rels.length:=L8;subst hin;exact Gx rfl<|Z2 rfl rfl rfl<|Gt rfl<|⟨_,jB L k2,rfl,rfl,⟨d,hd,rfl⟩,k2,hk2,rfl⟩
end
section
open Go.RowKit Mk Jn
set_option maxHeartbeats 4000000
section
variable {C:Ctx} {n:Nat} {σ:St} {dst:Option Tmp} {ty t t':TypeId} {pos:String} {after:Array Edge} {gd:Option (Nat×Bool)} {x:Operand}
theorem l9 {e:TypeId} {k:Nat} {cs:List PV} {K:St→Prop} (hu:C.P.underlying t=some (.slice e)) (hx:σ.ev n x= .pv (.sl none k cs)) (hk:∀ b:Bool,(b=true→cs=[])→K (σ.app dst ⟨.pv (.bool b),[],[]⟩)):
  OJ C n ⟨dst,.binOp .eql t x (.const (.slice none 0 0)) t',ty,pos,after,gd⟩ K σ:=by
 rintro a w Q ⟨m,R,hw⟩;have:=hw.pv hx;simp only [RelP] at this;obtain ⟨A,c,e1,_,_,_,_,h5⟩:=this;have hc:a.eval (.const (.slice none 0 0))= .slice none 0 0:=rfl;have hb:A.isNone=true→cs=[]:=fun h=>by
  cases cs with
  | nil=>rfl
  | cons c cs=>
    obtain ⟨b,off,us,rfl,_⟩:=h5 Mc;cases h
 have hrun:(execOp a.eval ⟨dst,.binOp .eql t x (.const (.slice none 0 0)) t',ty,pos,after,gd⟩).run C.P w= .ok (.value (.bool A.isNone)) w:=by
  simp [execOp,e1,eqGuard,binOp,hc,run_equal_slice_nil _ _ _ _ _ _ hu]
 unfold Oper.wp;rw [hrun];exact ⟨_,hk A.isNone hb,m,R,St.dX σ dst _▸hw.put dst (by simp only [Rel,RelP])⟩
theorem ek {T e:TypeId} {z:Value} {size bytes:Nat} (id:Nat) (he:ElemIs C.P T e z size bytes) (hid:σ.av id=true):
  XJ C n ⟨dst,.buildSlice T 0 #[],ty,pos,after,gd⟩ σ ⟨.osl id size 0,[(id,some (.cells e []))],[id]⟩:=by
 rintro a w Q ⟨m,R,hw⟩;obtain ⟨i,hi,hz,hsize,hbytes⟩:=info_parts he.info;have hrun:(execOp a.eval ⟨dst,.buildSlice T 0 #[],ty,pos,after,gd⟩).run C.P w= .ok (.value (.slice (some ⟨w.heap.size,0,none⟩) 0 0)) (w.alloc (.cells #[] e)):=by
  have hb:(Instr.buildSlice T 0 #[]).run C.P w= .ok (.slice (some ⟨w.heap.size,0,none⟩) 0 0) (w.alloc (.cells #[] e)):=by
   simp [Instr.buildSlice,run_underlying he.u,sizeOf,typeInfo,hi,Instr.fill,newRow]
   congr 2
   exact Array.eq_empty_of_size_eq_zero Mc
  have hm:(#[]:Array (Nat×Operand)).map (fun x=>(x.1,a.eval x.2))= #[]:=Mc;simp only [execOp,hm,Sem.run_bind,hb,Result.andThen_ok,Sem.run_pure]
 unfold Oper.wp;rw [hrun];refine ⟨_,rfl,upd m id (some (w.heap.size,0)),R,?_⟩;rw [Iw];refine SW.put (hw.alloc hid #[] e (.cells e []) ?_) dst ?_
 ·intro w' m' av' hR hm ha hb;exact ⟨_,hb,rfl,Cz _,RelPL.nil⟩
 ·simp only [Rel];refine ⟨by simp [avL],fun b N h=>?_⟩;rw [au] at h;cases h;exact ⟨0,rfl,Cz _,by simp [maxLen],Mc⟩
end
theorem fX (l:List ByteArray) (hl:l.length≤1000000):FnP Tryz.prog 99 [aI l] (· =aI l):=by
 refine FnP.fg2 (FnP.of func99 rfl ntmps99 Mc fun m0 w0 F R0=>?_);refine Z1 rfl rfl<|Z1 rfl rfl ?_;refine RL.call rfl (l9 underlying47 rfl ?_);intro b hb;refine Gc rfl rfl (fun hc4=>?_) (fun hc4=>?_)
 ·have hl0:l=[]:=List.map_eq_nil_iff.1 (hb hc4);exact Z1 rfl rfl<|Gt rfl<|⟨_,_,rfl,rfl,by rw [hl0];rfl⟩
 ·refine Il<|Gr rfl<|Rs 5 rfl rfl (ek 0 uq rfl)<|A1 rfl<|Rs 7 rfl rfl (fc 1 uq rfl rfl rfl (.inl ⟨none,rfl⟩) Mc (fun c hc=>by obtain ⟨y,_,rfl⟩:=Df.1 hc;rfl) L8 rfl) ?_;exact A1 rfl<|Im (Ir 1 rfl rfl)<|Gt rfl<|⟨_,_,rfl,rfl,show PV.sl none (0+l.length) ([]++aA l)=_ by rw [I9,JX]⟩
def eB (ls:List Int) (n:Nat):List Int:=(List.range n).map fun a:Nat=>((ls.count (a:Int):Nat):Int)
theorem p9 (ls:List Int) (n:Nat):(eB ls n).length=n:=by simp [eB]
theorem u6 {ls:List Int} {n a:Nat} (h:a<n):(aE (eB ls n))[a*1]? =some (.int .i64 ((ls.count (a:Int):Nat):Int)):=by simp [eB,h]
theorem xC {ls:List Int} {n a:Nat} (h:a<n):(aE (eB ls n)).set (a*1) (.int .i64 (((ls.count (a:Int):Nat):Int)+1))=aE (eB (ls++[(a:Int)]) n):=by
 apply Jl
 ·simp [eB]
 ·intro i h1 h2;simp only [eB,Li,Kp,List.getElem_range,List.count_append,Ja];by_cases e:a=i
  ·subst e;rw [By rfl];simp
  ·rw [uv e];have:List.count (i:Int) [(a:Int)]=0:=by rw [List.count_eq_zero];simp;omega
   rw [this,Kv]
theorem vU (n:Nat):List.replicate n (PV.int .i64 0)=aE (eB [] n):=by
 apply Jl
 ·simp [eB]
 ·intro i h1 h2;simp [eB]
def bq (ls:List Int) (A:List Int) (x:Rw):Bool:=(A.zip x.v).all fun p=> !(p.2.toList==(⟨#[]⟩:ByteArray).toList)||((ls.count p.1:Nat):Int)==1
def gF (S:Sch) (A:List Int) (l:List Rw):List Rw:=l.filter (bq (S.rels.flatMap (·.2)) A)
end
section
open Go.RowKit Mk Jn
set_option maxHeartbeats 4000000
structure SJn (S:Sch):Prop where
 a:S.attrs.length≤1000
 r:S.rels.length≤1000
 l:∀ r∈S.rels,r.2.length≤1000
 b:∀ r∈S.rels,∀ a∈r.2,0≤a∧a<S.attrs.length
theorem xL {l:List (ByteArray×List Int)} {k:Nat} (h:k<l.length):(l.take (k+1)).flatMap (·.2)=(l.take k).flatMap (·.2)++l[k].2:=by
 rw [aJ h,JS];simp
theorem eM {A:List Int} {v:List ByteArray} (hl:v.length=A.length) {j:Nat} (hj:j<A.length) (f:Int×ByteArray→Bool):((A.zip v).take (j+1)).all f=(((A.zip v).take j).all f&&f (A[j],v[j]'L8)):=by
 have h:j<(A.zip v).length:=by simp;omega
 rw [aJ h,List.all_append];simp
theorem yO {l:List (ByteArray×List Int)} (h:∀ r∈l,r.2.length≤1000):(l.flatMap (·.2)).length≤l.length*1000:=by
 induction l with
 | nil=>simp
 | cons a l ih=>
   have h1:=h a Mc;have h2:=ih fun r hr=>h r (by simp [hr])
   rw [JQ,AI,CG];omega
theorem zS (S:Sch) (hS:SJn S) (r:Nat) (hr:r<S.rels.length) (l:List Rw) (hl:l.length≤1000) (hv:∀ x∈l,x.v.length=S.rels[r].2.length):
  FnP Tryz.prog 73 [gK S,.int .i64 r,bL l] (· =bL (gF S S.rels[r].2 l)):=by
 refine FnP.of func73 rfl ntmps73 Mc fun m0 w0 F R0=>?_
 have hll:=aK l;have hSa:=hS.a;have hSr:=hS.r;have hrne:=ew hr;have hra:(bj S.rels)[r*2+1]? =some (ak S.rels[r].2):=by
  have h2:(((bj S.rels).drop (r*2)).take 2)[1]? =[PV.str S.rels[r].1,ak S.rels[r].2][1]? :=by rw [cW hr]
  simpa [Et,IP] using h2
 have hrl:=hS.l _ (af hr);have hrb:=hS.b _ (af hr);unfold gF;generalize S.rels[r].2=A at*;refine Z2 rfl rfl rfl<|Gr rfl ?_;iterate 5 refine A1 rfl ?_
 refine Z4 rfl rfl rfl rfl rfl ?_;refine Gl rfl (st:=fun x_0:Nat=>mkS [(1,.pv (.int .i64 r)),(2,.pv (bL l)),(3,.ptr 0 0),(7,.osl 1 1 S.attrs.length),(23,.pv (.sl none S.rels.length (bj S.rels))),(24,.pv (.int .i64 S.rels.length)),(25,.pv (.int .i64 x_0))] [(0,.mix 34 [.pv (.sl none S.attrs.length (cc S.attrs)),.pv (.sl none S.rels.length (bj S.rels)),.pv (.sl none S.feats.length (bm S.feats)),.pv (.int .i64 S.label)]),(1,.cells 3 (aE (eB ((S.rels.take x_0).flatMap (·.2)) S.attrs.length)))] 2)
  (I:=fun x_0=>x_0≤S.rels.length) (μ:=fun x_0=>S.rels.length-x_0) (x0:=(0)) (Io (aS rfl) ⟨rfl,congrArg (fun c=>some (Ob.cells 3 c)) ((ct (.int .i64 0) (S.attrs.length*1)).trans (by rw [Ja,vU];rfl)),trivial⟩ rfl rfl) (cH _) ?_
 rintro k hk;refine Z1 rfl rfl ?_;refine Gp rfl rfl (fun hc26=>?_) (fun hc26=>?_)
 ·have hlt:k<S.rels.length:=L8;have hrow:=cW hlt;have hne:=ew hlt;have hkl:=hS.l _ (af hlt);have hkb:=hS.b _ (af hlt);have hfs:=xL hlt;generalize S.rels[k]=rk at*;refine Il<|Z1 rfl rfl ?_;first | refine A3 rfl Mb ?_ | refine A1 rfl ?_
  refine Y2 rfl rfl<|Z4 rfl rfl rfl rfl rfl ?_;refine Gl rfl (st:=fun x_1:Nat=>mkS [(1,.pv (.int .i64 r)),(2,.pv (bL l)),(3,.ptr 0 0),(7,.osl 1 1 S.attrs.length),(23,.pv (.sl none S.rels.length (bj S.rels))),(24,.pv (.int .i64 S.rels.length)),(25,.pv (.int .i64 k)),(30,.pv (ak rk.2)),(31,.pv (.int .i64 rk.2.length)),(32,.pv (.int .i64 x_1))] [(0,.mix 34 [.pv (.sl none S.attrs.length (cc S.attrs)),.pv (.sl none S.rels.length (bj S.rels)),.pv (.sl none S.feats.length (bm S.feats)),.pv (.int .i64 S.label)]),(1,.cells 3 (aE (eB ((S.rels.take k).flatMap (·.2)++rk.2.take x_1) S.attrs.length)))] 3)
   (I:=fun x_1=>x_1≤rk.2.length) (μ:=fun x_1=>rk.2.length-x_1) (x0:=(0)) (Io (aS rfl) ⟨rfl,congrArg (fun c=>some (Ob.cells 3 (aE (eB c S.attrs.length)))) Mc,trivial⟩ rfl rfl) (cH _) ?_
  rintro j hj;refine Z1 rfl rfl ?_;refine Gp rfl rfl (fun hc33=>?_) (fun hc33=>?_)
  ·have hlj:j<rk.2.length:=L8;obtain ⟨a,haa⟩:=BY (hkb _ (af hlj)).1;have hal:a<S.attrs.length:=by have:=(hkb _ (af hlj)).2;omega
   have hpv:(aE rk.2)[j*1]? =some (.int .i64 (a:Int)):=by rw [← haa];simp [hlj]
   have hpn:=aH hlj;have htk:rk.2.take (j+1)=rk.2.take j++[(a:Int)]:=by rw [aJ hlj,haa]
   have hfl:=yO (l:=S.rels.take k) fun r hr=>hS.l r (Kk hr)
   have htl:(S.rels.take k).length≤1000:=by rw [BX];omega
   have hLl:((S.rels.take k).flatMap (·.2)++rk.2.take j).length≤2000000:=by rw [AI,BX];omega
   generalize hLS:(S.rels.take k).flatMap (·.2)++rk.2.take j=LS at*;have hua:=u6 (ls:=LS) hal;have hus:=xC (ls:=LS) hal;have hul:(aE (eB LS S.attrs.length)).length=S.attrs.length:=by rw [Cq,p9]
   have hcb:LS.count (a:Int)≤2000000:=C0 List.count_le_length hLl;exact Il<|Z1 rfl rfl<|Rs 35 rfl rfl (ai ⟨_,underlying3,rfl⟩ rfl hpv)<|A1 rfl<|Z3 rfl rfl rfl rfl<|Rs 39 rfl rfl (aC ⟨_,underlying3,rfl⟩ rfl rfl hua)<|Y2 rfl rfl<|RL.step (d:=none) rfl rfl (aF sz3 rfl rfl rfl rfl L8)<|Z2 rfl rfl rfl<|⟨(j+1),Io (aS rfl) ⟨rfl,C4 (b:=some (.cells 3 ((aE (eB LS S.attrs.length)).set (a*1) (.int .i64 (((LS.count (a:Int):Nat):Int)+1))))) L9 (congrArg (fun c=>some (Ob.cells 3 c)) (hus.trans (by rw [htk, ← Kr,hLS]))),trivial⟩ rfl rfl,L8,L8⟩
  ·exact Gx rfl<|Z2 rfl rfl rfl<|⟨(k+1),Io (aS rfl) ⟨rfl,congrArg (fun c=>some (Ob.cells 3 (aE (eB c S.attrs.length)))) (by rw [hfs,show rk.2.take j=rk.2 from aR L8]),trivial⟩ rfl rfl,L8,L8⟩
 ·have hLl:=yO (l:=S.rels) fun r hr=>hS.l r hr
  rw [show S.rels.take k=S.rels from aR L8];generalize S.rels.flatMap (·.2)=LS at*;have hul:(aE (eB LS S.attrs.length)).length=S.attrs.length:=by rw [Cq,p9]
  refine Gx rfl<|Z1 rfl rfl<|Im (Iu 12 2 2 49 rfl rfl)<|Z3 rfl rfl rfl rfl ?_;refine Gl rfl (st:=fun x_2:Nat×List Rw=>mkS [(1,.pv (.int .i64 r)),(3,.ptr 0 0),(7,.osl 1 1 S.attrs.length),(12,.gsl 2 2 x_2.2.length),(44,.pv (bL l)),(45,.pv (.int .i64 l.length)),(46,.pv (.int .i64 x_2.1))] [(0,.mix 34 [.pv (.sl none S.attrs.length (cc S.attrs)),.pv (.sl none S.rels.length (bj S.rels)),.pv (.sl none S.feats.length (bm S.feats)),.pv (.int .i64 S.label)]),(1,.cells 3 (aE (eB LS S.attrs.length))),(2,.gro 49 (aB x_2.2))] 3)
   (I:=fun x_2=>(x_2.1≤l.length∧x_2.2.length≤x_2.1)∧x_2.2=(l.take x_2.1).filter (bq LS A)) (μ:=fun x_2=>l.length-x_2.1) (x0:=(0,[])) (Io (aS rfl) (aO rfl) rfl rfl) (⟨⟨cH _,Cz _⟩,rfl⟩) ?_
  rintro ⟨i,q⟩ ⟨hi,hq⟩;try simp only at hi hq ⊢
  refine Z1 rfl rfl ?_;refine Gp rfl rfl (fun hc47=>?_) (fun hc47=>?_)
  ·have hil:i<l.length:=L8;have hrw:=aN hil;have hrn:=aW hil;have hxl:=hv _ (af hil);have hql:=aK q;have htk2:l.take (i+1)=l.take i++[l[i]]:=aJ hil;generalize l[i]=x at*;refine Il<|Z1 rfl rfl ?_;first | refine A3 rfl Mb ?_ | refine A1 rfl ?_
   refine Y2 rfl rfl<|Z1 rfl rfl<|Z3 rfl rfl rfl rfl<|Rs 53 rfl rfl (ag r underlying31 Eu rfl rfl rfl hr hrne)<|A1 rfl<|Rs 55 rfl rfl (ai ⟨_,underlying22,rfl⟩ rfl hra)<|Y2 rfl rfl ?_;refine Gl rfl (st:=fun x_3:Nat×Bool=>mkS [(1,.pv (.int .i64 r)),(3,.ptr 0 0),(7,.osl 1 1 S.attrs.length),(12,.gsl 2 2 q.length),(14,.ptr 3 0),(15,.pv (.bool x_3.2)),(44,.pv (bL l)),(45,.pv (.int .i64 l.length)),(46,.pv (.int .i64 i)),(55,.pv (ak A)),(56,.pv (.int .i64 A.length)),(57,.pv (.int .i64 x_3.1))] [(0,.mix 34 [.pv (.sl none S.attrs.length (cc S.attrs)),.pv (.sl none S.rels.length (bj S.rels)),.pv (.sl none S.feats.length (bm S.feats)),.pv (.int .i64 S.label)]),(1,.cells 3 (aE (eB LS S.attrs.length))),(2,.gro 49 (aB q)),(3,.mix 49 [.pv (aI x.v),.pv (.int .i64 x.w)])] 4)
    (I:=fun x_3=>x_3.1≤A.length∧x_3.2=((A.zip x.v).take x_3.1).all fun p=> !(p.2.toList==(⟨#[]⟩:ByteArray).toList)||((LS.count p.1:Nat):Int)==1) (μ:=fun x_3=>A.length-x_3.1) (x0:=(0,true)) (Io (aS rfl) (aO rfl) rfl rfl) (⟨cH _,rfl⟩) ?_
   rintro ⟨j,b⟩ ⟨hj,hb⟩;try simp only at hj hb ⊢
   refine Z1 rfl rfl ?_;refine Gp rfl rfl (fun hc58=>?_) (fun hc58=>?_)
   ·have hlj:j<A.length:=L8;have hzs:=eM hxl hlj fun p=> !(p.2.toList==(⟨#[]⟩:ByteArray).toList)||((LS.count p.1:Nat):Int)==1
    obtain ⟨a,haa⟩:=BY (hrb _ (af hlj)).1;have hal:a<S.attrs.length:=by have:=(hrb _ (af hlj)).2;omega
    have hpv:(aE A)[j*1]? =some (.int .i64 (a:Int)):=by rw [← haa];simp [hlj]
    have hpn:=aH hlj;have hjv:j<x.v.length:=L8;have hsv:=aM hjv;have hsn:=bc hjv;have hua:=u6 (ls:=LS) hal;rw [← hb,haa] at hzs;simp only at hzs;refine Il<|Z2 rfl rfl rfl<|Rs 61 rfl rfl (ai ⟨_,underlying3,rfl⟩ rfl hpv)<|Y2 rfl rfl ?_;by_cases hbt:b=true
    ·by_cases hve:(x.v[j].toList==(⟨#[]⟩:ByteArray).toList)=true
     ·refine Gr rfl<|Rs 62 rfl rfl (XJ.cast (v':= .pv (.bool true)) (jP rfl) (congrArg (fun b=>V.pv (.bool b)) hbt)) ?_;iterate 5 refine A1 rfl ?_
      refine Rg 68 rfl rfl rfl (ai ⟨_,underlying9,rfl⟩ rfl hsv)<|Rg 69 rfl rfl rfl (XJ.cast (v':= .pv (.bool false)) (cF rfl rfl rfl) (congrArg (fun b=>V.pv (.bool !b)) hve)) ?_;iterate 4 refine A1 rfl ?_
      refine Rg 74 rfl rfl rfl (aC ⟨_,underlying3,rfl⟩ rfl rfl hua) ?_;iterate 4 refine A1 rfl ?_
      exact Z2 rfl rfl rfl<|⟨(j+1,(((LS.count (a:Int):Nat):Int)==1)),Io (aS rfl) (aO rfl) rfl rfl,⟨L8,by simp only;rw [hzs,hbt,hve];rfl⟩,Me⟩
     ·refine Gr rfl<|Rs 62 rfl rfl (XJ.cast (v':= .pv (.bool true)) (jP rfl) (congrArg (fun b=>V.pv (.bool b)) hbt)) ?_;iterate 5 refine A1 rfl ?_
      refine Rg 68 rfl rfl rfl (ai ⟨_,underlying9,rfl⟩ rfl hsv)<|Rg 69 rfl rfl rfl (XJ.cast (v':= .pv (.bool true)) (cF rfl rfl rfl) (congrArg (fun b=>V.pv (.bool !b)) (Jw hve))) ?_;iterate 9 refine A1 rfl ?_
      exact Z2 rfl rfl rfl<|⟨(j+1,true),Io (aS rfl) (aO rfl) rfl rfl,⟨L8,by simp only;rw [hzs,hbt,Jw hve];rfl⟩,Me⟩
    ·refine Gr rfl<|Rs 62 rfl rfl (XJ.cast (v':= .pv (.bool false)) (jP rfl) (congrArg (fun b=>V.pv (.bool b)) (Jw hbt))) ?_;iterate 16 refine A1 rfl ?_
     exact Z2 rfl rfl rfl<|⟨(j+1,false),Io (aS rfl) (aO rfl) rfl rfl,⟨L8,by simp only;rw [hzs,Jw hbt,Bool.false_and]⟩,Me⟩
   ·have hbl:bq LS A x=b:=by unfold bq;rw [hb,aR Md]
    refine Gx rfl<|Z1 rfl rfl ?_;refine Gc rfl rfl (fun hc79=>?_) (fun hc79=>?_)
    ·refine Ge rfl follows [0,1,2,3,4,5,6,7,8,9] L9<|D1 rfl rfl<|D1 rfl rfl<|D1 rfl rfl<|Ds 83 [] rfl rfl rfl (fun τ h=>ae call99 (fX x.v L8) (h.bt rfl)) rfl L9 ?_;iterate 6 refine D1 rfl rfl ?_
     refine ⟨L9,?_⟩;exact Z2 rfl rfl rfl<|⟨(i+1,q++[x]),Ip [0,1,5] ⟨rfl,rfl,rfl,congrArg (fun n=>V.gsl 5 2 n) (bW q x),rfl,rfl,rfl,trivial⟩ ⟨rfl,rfl,C4 (b:=some (.gro 49 (aB q++eV x))) L9 (congrArg (fun c=>some (Ob.gro 49 c)) (dW q x)),trivial⟩ rfl rfl Ma rfl,⟨⟨L8,by simp only [AI,FE];omega⟩,by rw [htk2,Jt, ← hq];simp only [Jy,List.filter_nil];rw [By (hbl.trans hc79)]⟩,Me⟩
    ·exact Il<|Z2 rfl rfl rfl<|⟨(i+1,q),Io (aS rfl) (aO rfl) rfl rfl,⟨⟨L8,Me⟩,by rw [htk2,Jt, ← hq];simp only [Jy,List.filter_nil];rw [uv (by rw [hbl,hc79];decide),Jv]⟩,Me⟩
  ·exact Im (Ir 2 rfl rfl)<|Gx rfl<|Z2 rfl rfl rfl<|Gt rfl<|⟨_,_,rfl,rfl,by rw [show l.filter (bq LS A)=q by rw [hq,aR L8]];rfl⟩
end
namespace Jn
set_option autoImplicit false
section
variable {α:Type} [DecidableEq α]
abbrev Asg (α:Type):=Int→Option α
def put (σ:Asg α) (a:Int) (x:α):Asg α:=fun b=>if b=a then some x else σ b
def agr (A:List Int) (σ:Asg α) (row:List α):Bool:=(A.zip row).all fun p=>match σ p.1 with
 | none=>true
 | some x=>decide (x=p.2)
theorem ib {A:List Int} {σ τ:Asg α} (h:∀ a∈A,σ a=τ a) (row:List α):agr A σ row=agr A τ row:=by
 unfold agr;rw [Ho,AT,AT];constructor
 ·intro k p hp;have:=k p hp;rw [← h p.1 (List.of_mem_zip hp).1];exact this
 ·intro k p hp;have:=k p hp;rw [h p.1 (List.of_mem_zip hp).1];exact this
def Sub (σ τ:Asg α):Prop:=∀ a x,σ a=some x→τ a=some x
theorem zw {A:List Int} {σ τ:Asg α} (h:Sub σ τ) {row:List α} (k:agr A τ row=true):agr A σ row=true:=by
 unfold agr at*;rw [AT] at*;intro p hp;have:=k p hp;cases e:σ p.1 with
 | none=>rfl
 | some x=>rw [h _ _ e] at this;exact this
structure Rels (α:Type) where
 A:List (List Int)
 T:List (List (List α))
def Rels.at (P:Rels α) (r:Nat):List Int:=P.A.getD r []
def Rels.rows (P:Rels α) (r:Nat):List (List α):=P.T.getD r []
def hE (P:Rels α) (r:Nat) (σ:Asg α):Bool:=(P.rows r).any (agr (P.at r) σ)
def bw (P:Rels α) (v:Int):List Nat:=(List.range P.A.length).filter fun r=>decide (v∈P.at r)
structure IsCand (P:Rels α) (v:Int) (σ:Asg α) (cs:List α):Prop where
 nd:cs.Nodup
 mem:∀ x,x∈cs↔∀ r∈bw P v,hE P r (put σ v x)=true
theorem yx {P:Rels α} {r:Nat} {σ τ:Asg α} (h:Sub σ τ) (k:hE P r τ=true):hE P r σ=true:=by
 unfold hE at*;rw [IQ] at*;obtain ⟨row,h1,h2⟩:=k;exact ⟨row,h1,zw h h2⟩
theorem fZ {P:Rels α} {r:Nat} {σ τ:Asg α} (h:∀ a∈P.at r,σ a=τ a):hE P r σ=hE P r τ:=by
 unfold hE;rw [Ho,IQ,IQ];exact ⟨fun ⟨x,h1,h2⟩=>⟨x,h1,by rw [← ib h];exact h2⟩,fun ⟨x,h1,h2⟩=>⟨x,h1,by rw [ib h];exact h2⟩⟩
def enW (cd:Int→Asg α→List α):List Int→Asg α→List (Asg α)
 | [],σ=>[σ]
 | v::vs,σ=>(cd v σ).flatMap fun x=>enW cd vs (put σ v x)
omit [DecidableEq α] in
theorem cG (σ:Asg α) (a:Int) (x:α):put σ a x a=some x:=By rfl
omit [DecidableEq α] in
theorem dZ (σ:Asg α) {a b:Int} (x:α) (h:b≠a):put σ a x b=σ b:=uv h
omit [DecidableEq α] in
theorem gu {cd:Int→Asg α→List α}:∀ {vs:List Int} {σ τ:Asg α},τ∈enW cd vs σ→∀ a,a∉vs→τ a=σ a
 | [],σ,τ,h,a,_=>by rw [enW,AK] at h;rw [h]
 | v::vs,σ,τ,h,a,ha=>by
   rw [enW,H2] at h;obtain ⟨x,_,h⟩:=h;rw [gu h a (fun e=>ha (by simp [e])),dZ _ _ (fun e=>ha (by simp [e]))]
omit [DecidableEq α] in
theorem qM {cd:Int→Asg α→List α} (hc:∀ v σ,(cd v σ).Nodup):∀ {vs:List Int} {σ:Asg α},vs.Nodup→(enW cd vs σ).Nodup
 | [],σ,_=>by simp [enW]
 | v::vs,σ,hn=>by
   rw [K5] at hn;rw [enW];have key:∀ (l:List α),l.Nodup→(l.flatMap fun x=>enW cd vs (put σ v x)).Nodup:=by
    intro l;induction l with
    | nil=>intro _;simp
    | cons x l ih=>
      intro hl;rw [K5] at hl;rw [JQ,List.nodup_append];refine ⟨qM hc hn.2,ih hl.2,fun τ h1 τ' h2 e=>?_⟩;subst e;obtain ⟨y,hy,h2⟩:=H2.1 h2;have e1:=gu h1 v hn.1;have e2:=gu h2 v hn.1;rw [cG] at e1 e2;rw [e1] at e2;cases e2;exact hl.1 hy
   exact key _ (hc v σ)
theorem nM {P:Rels α} {cd:Int→Asg α→List α}:∀ {vs:List Int} (_:∀ v∈vs,∀ σ,IsCand P v σ (cd v σ)) {σ τ:Asg α},vs.Nodup→(∀ a∈vs,σ a=none)→
  (τ∈enW cd vs σ↔(∀ a,a∉vs→τ a=σ a)∧(∀ a∈vs,(τ a).isSome=true)∧∀ r<P.A.length,(∃ a∈vs,a∈P.at r)→hE P r τ=true)
 | [],_,σ,τ,_,_=>by
   rw [enW,AK];constructor
   ·rintro rfl;exact ⟨fun _ _=>rfl,fun _ h=>absurd h Mc,fun _ _ ⟨_,h,_⟩=>absurd h Mc⟩
   ·intro h;funext a;exact h.1 a Mc
 | v::vs,hc,σ,τ,hn,hs=>by
   rw [K5] at hn;have hc':∀ v∈vs,∀ σ,IsCand P v σ (cd v σ):=fun u hu=>hc u (by simp [hu])
   have hs':∀ x,∀ a∈vs,put σ v x a=none:=fun x a ha=>by rw [dZ _ _ (fun e:a=v=>hn.1 (by rw [← e];exact ha))];exact hs a (by simp [ha])
   rw [enW,H2];constructor
   ·rintro ⟨x,hx,h⟩;have hm:=(nM hc' hn.2 (hs' x)).1 h;have hv:τ v=some x:=by rw [hm.1 v hn.1,cG]
    refine ⟨fun a ha=>?_,fun a ha=>?_,fun r hr ⟨a,ha,hra⟩=>?_⟩
    ·rw [hm.1 a (fun e=>ha (by simp [e])),dZ _ _ (fun e=>ha (by simp [e]))]
    ·rcases Bd.1 ha with rfl | ha
     ·rw [hv];rfl
     ·exact hm.2.1 a ha
    ·by_cases h2:∃ b∈vs,b∈P.at r
     ·exact hm.2.2 r hr h2
     ·have hav:a=v:=by
       rcases Bd.1 ha with e | e
       ·exact e
       ·exact absurd ⟨a,e,hra⟩ h2
      subst hav;have:=((hc a Mc σ).mem x).1 hx r (Hf.2 ⟨IG.2 hr,by simpa using hra⟩);rw [← this];exact fZ fun b hb=>hm.1 b fun e=>h2 ⟨b,e,hb⟩
   ·rintro ⟨h1,h2,h3⟩;obtain ⟨x,hx⟩:=C1.1 (h2 v Mc);have hsub:Sub (put σ v x) τ:=fun a y e=>by
     by_cases hav:a=v
     ·subst hav;rw [cG] at e;cases e;exact hx
     ·rw [dZ _ _ hav] at e;by_cases hvs:a∈v::vs
      ·rw [hs a hvs] at e;cases e
      ·rw [h1 a hvs];exact e
    refine ⟨x,((hc v Mc σ).mem x).2 fun r hr=>?_,(nM hc' hn.2 (hs' x)).2 ⟨fun a ha=>?_,fun a ha=>h2 a (by simp [ha]),fun r hr ⟨a,ha,hra⟩=>h3 r hr ⟨a,by simp [ha],hra⟩⟩⟩
    ·obtain ⟨hr1,hr2⟩:=Hf.1 hr;exact yx hsub (h3 r (IG.1 hr1) ⟨v,Mc,by simpa using hr2⟩)
    ·by_cases hav:a=v
     ·subst hav;rw [cG,hx]
     ·rw [dZ _ _ hav];exact h1 a (by simp [hav,ha])
end
structure SR (R:Type) where
 zero:R
 one:R
 add:R→R→R
 mul:R→R→R
 add_assoc:∀ a b c,add (add a b) c=add a (add b c)
 zero_add:∀ a,add zero a=a
 add_zero:∀ a,add a zero=a
 mul_assoc:∀ a b c,mul (mul a b) c=mul a (mul b c)
 mul_comm:∀ a b,mul a b=mul b a
 one_mul:∀ a,mul one a=a
 zero_mul:∀ a,mul zero a=zero
 add_mul:∀ a b c,mul (add a b) c=add (mul a c) (mul b c)
section
variable {R:Type} (S:SR R)
def eg:List R→R
 | []=>S.zero
 | a::l=>S.add a (eg l)
theorem kK (l m:List R):eg S (l++m)=S.add (eg S l) (eg S m):=by
 induction l with
 | nil=>rw [JX,eg,S.zero_add]
 | cons a l ih=>rw [JR,eg,ih,eg,S.add_assoc]
theorem uS (l:List R) (c:R):eg S (l.map fun a=>S.mul a c)=S.mul (eg S l) c:=by
 induction l with
 | nil=>rw [JZ,eg,S.zero_mul]
 | cons a l ih=>rw [AS,eg,ih,eg,S.add_mul]
theorem vq (l:List R) (c:R):eg S (l.map fun a=>S.mul c a)=S.mul c (eg S l):=by
 rw [S.mul_comm c, ← uS]
 congr 1
 exact ID fun a _=>S.mul_comm c a
theorem jb {β γ:Type} (l:List β) (f:β→List γ) (w:γ→R):eg S ((l.flatMap f).map w)=eg S (l.map fun b=>eg S ((f b).map w)):=by
 induction l with
 | nil=>rfl
 | cons b l ih=>rw [JQ,Je,kK,ih,AS,eg]
theorem cx {β:Type} {l:List β} {f g:β→R} (h:∀ b∈l,f b=g b):eg S (l.map f)=eg S (l.map g):=by rw [ID h]
end
inductive Tr where
 | node (v:Int) (ts:List Tr)
mutual
def Tr.vs:Tr→List Int
 | .node v ts=>v::vsL ts
def vsL:List Tr→List Int
 | []=>[]
 | t::ts=>t.vs++vsL ts
end
section
variable {α R:Type} (S:SR R) (cd:Int→Asg α→List α) (g:Int→Asg α→R)
mutual
def val:Tr→Asg α→R
 | .node v ts,σ=>eg S ((cd v σ).map fun x=>S.mul (g v (put σ v x)) (valL ts (put σ v x)))
def valL:List Tr→Asg α→R
 | [],_=>S.one
 | t::ts,σ=>S.mul (val t σ) (valL ts σ)
end
def wts:List Int→Asg α→R
 | [],_=>S.one
 | v::vs,τ=>S.mul (g v τ) (wts vs τ)
theorem wy (l m:List Int) (τ:Asg α):wts S g (l++m) τ=S.mul (wts S g l τ) (wts S g m τ):=by
 induction l with
 | nil=>rw [JX,wts,S.one_mul]
 | cons v l ih=>rw [JR,wts,ih,wts,S.mul_assoc]
theorem ni (l m:List Int) (σ:Asg α):enW cd (l++m) σ=(enW cd l σ).flatMap (enW cd m):=by
 induction l generalizing σ with
 | nil=>simp [enW]
 | cons v l ih=>
   rw [JR,enW,enW,List.flatMap_assoc]
   congr 1
   funext x;exact ih _
structure Dep (D E:Int→List Int):Prop where
 d:∀ v σ τ,(∀ a∈D v,σ a=τ a)→cd v σ=cd v τ
 e:∀ v σ τ,(∀ a∈E v,σ a=τ a)→g v σ=g v τ
variable (D E:Int→List Int)
mutual
def Tr.Sep:Tr→Prop
 | .node v ts=>(∀ a∈E v,a∉vsL ts)∧SepL ts
def SepL:List Tr→Prop
 | []=>True
 | t::ts=>t.Sep∧SepL ts∧(∀ w∈t.vs,(∀ a∈D w,a∉vsL ts)∧∀ a∈E w,a∉vsL ts)∧∀ w∈vsL ts,(∀ a∈D w,a∉t.vs)∧∀ a∈E w,a∉t.vs
end
variable {cd g D E}
theorem e8 {σ τ:Asg α} {l:List Int} (h:∀ a∈l,σ a=τ a) (v:Int) (x:α):∀ a∈l,put σ v x a=put τ v x a:=fun a ha=>by
 unfold put;split
 ·rfl
 ·exact h a ha
mutual
theorem val_congr (hd:Dep cd g D E):∀ (t:Tr) (σ τ:Asg α),(∀ w∈t.vs,(∀ a∈D w,σ a=τ a)∧∀ a∈E w,σ a=τ a)→val S cd g t σ=val S cd g t τ
 | .node v ts,σ,τ,h=>by
   have hv:=h v (by simp [Tr.vs]);rw [val,val,hd.d v σ τ hv.1];refine cx S fun x _=>?_
   rw [hd.e v _ _ (e8 hv.2 v x),valL_congr hd ts _ _ fun w hw=>⟨e8 (h w (by simp [Tr.vs,hw])).1 v x,e8 (h w (by simp [Tr.vs,hw])).2 v x⟩]
theorem valL_congr (hd:Dep cd g D E):∀ (ts:List Tr) (σ τ:Asg α),(∀ w∈vsL ts,(∀ a∈D w,σ a=τ a)∧∀ a∈E w,σ a=τ a)→valL S cd g ts σ=valL S cd g ts τ
 | [],_,_,_=>by rw [valL,valL]
 | t::ts,σ,τ,h=>by
   rw [valL,valL,val_congr hd t σ τ fun w hw=>h w (by simp [vsL,hw]),valL_congr hd ts σ τ fun w hw=>h w (by simp [vsL,hw])]
end
theorem Ag (hd:Dep cd g D E) {l:List Int} {σ τ:Asg α} (h:∀ w∈l,∀ a∈E w,σ a=τ a):wts S g l σ=wts S g l τ:=by
 induction l with
 | nil=>rfl
 | cons v l ih=>rw [wts,wts,hd.e v σ τ (h v Mc),ih fun w hw=>h w (by simp [hw])]
mutual
theorem val_sum (hd:Dep cd g D E):∀ (t:Tr) (σ:Asg α),t.Sep D E→val S cd g t σ=eg S ((enW cd t.vs σ).map (wts S g t.vs))
 | .node v ts,σ,hs=>by
   rw [Tr.Sep] at hs;rw [val,Tr.vs,enW,jb];refine cx S fun x _=>?_
   rw [valL_sum hd ts _ hs.2, ← vq,LR];refine cx S fun τ hτ=>?_
   show S.mul _ (wts S g (vsL ts) τ)=wts S g (v::vsL ts) τ;rw [wts,hd.e v (put σ v x) τ fun a ha=>(gu hτ a (hs.1 a ha)).symm]
theorem valL_sum (hd:Dep cd g D E):∀ (ts:List Tr) (σ:Asg α),SepL D E ts→valL S cd g ts σ=eg S ((enW cd (vsL ts) σ).map (wts S g (vsL ts)))
 | [],σ,_=>by
   rw [valL,vsL,enW,AS,JZ,eg,eg,wts];rw [S.add_zero]
 | t::ts,σ,hs=>by
   rw [SepL] at hs;obtain ⟨h1,h2,h3,h4⟩:=hs;rw [valL,vsL,ni,jb,val_sum hd t σ h1, ← uS,LR];refine cx S fun τ hτ=>?_
   show S.mul (wts S g t.vs τ) _=_;have e1:∀ τ'∈enW cd (vsL ts) τ,wts S g (t.vs++vsL ts) τ'=S.mul (wts S g t.vs τ) (wts S g (vsL ts) τ'):=fun τ' h'=>by
    rw [wy,Ag S hd fun w hw a ha=>gu h' a ((h3 w hw).2 a ha)]
   rw [cx S e1, ← Function.comp_def (f:=fun b=>S.mul (wts S g t.vs τ) b), ← LR,vq, ← valL_sum hd ts τ h2];rw [valL_congr S hd ts σ τ fun w hw=>⟨fun a ha=>(gu hτ a ((h4 w hw).1 a ha)).symm,fun a ha=>(gu hτ a ((h4 w hw).2 a ha)).symm⟩]
end
end
end Jn
end Go.Proofs.YtedfonppffochaaGreatDoor
