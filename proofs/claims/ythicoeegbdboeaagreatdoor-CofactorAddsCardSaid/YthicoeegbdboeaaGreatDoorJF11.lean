/- Lemmas. No condition. -/
import Derived.Test.YthicoeegbdboeaaGreatDoorJF10
set_option maxRecDepth 100000
set_option maxHeartbeats 4000000
open Go.RowKit Go.Proofs.Tryz
open Option renaming some→WB,none→WC
open Bool renaming true→YK,false→YL
namespace Go.Proofs.YthicoeegbdboeaaGreatDoor
variable{n i b a j k U most v c:Nat}{adj:Nat->ew}{α:Type}{cs P l H L:cP}{S:ZN}{σ:St}{T:TypeId}{ls:List na}
section
def pcN(k n:Nat):Nat:=(List.range k).countP λi=>n.testBit i
theorem Da(k n:Nat):pcN (k+1) n=n%2+pcN k (n/2):=by
 unfold pcN;rw[List.range_succ_eq_map,List.countP_cons,List.countP_map];have e:((λi=>n.testBit i)∘Nat.succ)=λi=>(n/2).testBit i:=by
  funext i;simp[Nat.testBit_succ]
 rw[e,XA]
 congr 1
 rw[Nat.testBit_zero];rcases Nat.mod_two_eq_zero_or_one n with h|h<;>simp[h]
theorem xV(h:n≠0):(n&&&(n-1))%2=0/\(n&&&(n-1))/2=if n%2=0 then(n/2)&&&(n/2-1)else n/2:=by
 constructor
 .have:=Nat.and_mod_two_pow (a:=n) (b:=n-1) (n:=1);simp only[Nat.pow_one]at this;rw[this];rcases Nat.mod_two_eq_zero_or_one n with e|e
  .rw[e];simp
  grind
 have:(n&&&(n-1))/2=n/2&&&(n-1)/2:=by
  apply Nat.eq_of_testBit_eq;intro i;rw[<-Nat.testBit_succ,Nat.testBit_and,Nat.testBit_and,Nat.testBit_succ,Nat.testBit_succ]
 rw[this];split
 .grind
 grind
theorem DK:∀k n,n<2^k->n≠0->pcN k (n&&&(n-1))+1=pcN k n
 |0,n,h,h0=>by simp at h;omega
 | k+1,n,h,h0=>by
   rw[Da,Da];obtain⟨h1,h2⟩:=xV h0;rw[h1,h2];split
   .rename_i e;have:=DK k (n/2) (by rw[Wt]at h;omega) Zi;omega
   omega
theorem L4{x:ZO}(h:x≠0#64):dV (x&&&(x-1#64))+1=dV x:=by
 have q:x.toNat≠0:=λe=>h (BitVec.eq_of_toNat_eq (by simpa using e))
 have hl:=x.isLt;have e:(x&&&(x-1#64)).toNat=x.toNat&&&(x.toNat-1):=by grind
 have:=DK 64 x.toNat hl q;rw[<-e]at this;exact this
theorem Jm(q:n<=63):dV (l6 n)=n:=by
 unfold dV;have:∀k,(List.range k).countP (λi=>(l6 n).getLsbD i)=min k n:=by
  intro k;induction k with
  |zero=>simp
  | succ k ih=>
    rw[XC,List.countP_append,ih,List.countP_singleton,kY Zi];by_cases h:k<n
    .simp[h];omega
    simp[h];omega
 rw[this];omega
theorem MI{x y:ZO}(h:∀i,x.getLsbD i=YK->y.getLsbD i=YK):dV x<=dV y:=by unfold dV;exact List.countP_mono_left λi _ hi=>h i hi
theorem vp{x:ZO}(h:x.getLsbD i=YK):0<dV x:=by unfold dV;rw[List.countP_pos_iff];exact⟨i,Wi.2 (ft h),h⟩
noncomputable def widW(p:ZO->Nat)(G:Zz)(rest:ZO):Nat:=(ZL G rest G.length).1.foldl (λm c=>max m (p c)) 0
noncomputable def minW(w:ZO->Nat)(G:Zz)(c:ZO)(k:Nat):Nat:=(List.range k).foldl (λm a=>if c.getLsbD a=YK then min m (w (c&&& ~~~(BitVec.twoPow 64 a)))else m) (G.length+1)
noncomputable def nearB(G:Zz)(c:ZO):ZO:=bitsOf λi=>(List.range G.length).any λb=>c.getLsbD b&&(G.getD b 0#64).getLsbD i
noncomputable def keyN(G:Zz)(c:ZO):Nat:=dV (nearB G c&&& ~~~c)
noncomputable def parF(G:Zz):Nat->ZO->Nat
 |0,_=>0
 |f+1,c=>max (minW (widW (parF G f) G) G c G.length) (keyN G c+1)
theorem HF(G:Zz)(f:Nat)(c:ZO):parF G (f+1) c=max (minW (widW (parF G f) G) G c G.length) (keyN G c+1):=rfl
noncomputable def partV(G:Zz)(c:ZO):Nat:=parF G 64 c
noncomputable def widV(G:Zz)(rest:ZO):Nat:=widW (partV G) G rest
theorem max_le_iff{p:ZO->Nat}:∀{l:Zz}{z:Nat},l.foldl (λm c=>max m (p c)) z<=b↔z<=b/\∀c∈l,p c<=b
 |[],z=>by simp
 | c::l,z=>by
   rw[W5,max_le_iff];constructor
   .rintro⟨h1,h2⟩;exact⟨Zi,λd hd=>by rcases By.1 hd with rfl|hd;omega;exact h2 d hd⟩
   rintro⟨h1,h2⟩;exact⟨by have:=h2 c Zm;omega,λd hd=>h2 d (by simp[hd])⟩
theorem sV{p q:ZO->Nat}:∀{l:Zz}{z:Nat},(∀c∈l,p c=q c)->l.foldl (λm c=>max m (p c)) z=l.foldl (λm c=>max m (q c)) z
 |[],_,_=>rfl
 |c::l,z,h=>by rw[W5,W5,h c Zm,sV λd hd=>h d (by simp[hd])]
theorem mT(w:ZO->Nat)(G:Zz)(c:ZO)(k:Nat):minW w G c (k+1)=if c.getLsbD k=YK then min (minW w G c k) (w (c&&& ~~~(BitVec.twoPow 64 k)))else minW w G c k:=by unfold minW;rw[XC,XN];rfl
theorem oe{w w':ZO->Nat}{G:Zz}{c:ZO}:∀{k:Nat},(∀a,a<k->c.getLsbD a=YK->w (c&&& ~~~(BitVec.twoPow 64 a))=w' (c&&& ~~~(BitVec.twoPow 64 a)))->minW w G c k=minW w' G c k
 |0,_=>rfl
 | k+1,h=>by
   rw[mT,mT,oe λa ha=>h a Zi];split
   .rename_i hk;rw[h k Zi hk]
   .rfl
theorem lQ{w:ZO->Nat}{G:Zz}{c:ZO}:∀{k:Nat},minW w G c k<=b↔G.length+1<=b\/∃a,a<k/\c.getLsbD a=YK/\w (c&&& ~~~(BitVec.twoPow 64 a))<=b
 | 0=>by
   constructor
   .exact λh=> .inl h
   rintro(h|⟨a,h,_⟩)
   .exact h
   omega
 | k+1=>by
   rw[mT];split
   .rename_i hk;constructor
    .intro h;by_cases h1:minW w G c k<=b
     .rcases lQ.1 h1 with h2|⟨a,h2,h3⟩
      .exact .inl h2
      exact .inr ⟨a,Zi,h3⟩
     exact .inr ⟨k,Zi,hk,Zi⟩
    rintro(h|⟨a,h1,h2,h3⟩)
    .have:=lQ (w:=w) (G:=G) (c:=c) (k:=k).2 (.inl h);omega
    by_cases e:a=k
    .subst e;omega
    have:=lQ (w:=w) (G:=G) (c:=c) (k:=k).2 (.inr ⟨a,Zi,h2,h3⟩);omega
   rename_i hk;rw[lQ];constructor
   .rintro(h|⟨a,h1,h2⟩)
    .exact .inl h
    exact .inr ⟨a,Zi,h2⟩
   rintro(h|⟨a,h1,h2,h3⟩)
   .exact .inl h
   exact .inr ⟨a,by by_cases e:a=k;subst e;exact absurd h2 hk;omega,h2,h3⟩
structure GOk(G:Zz):Prop where
 n:G.length<=12
 sym:∀a b,iV G a b->iV G b a
 lt:∀a b,iV G a b->b<G.length
def InB(n:Nat)(c:ZO):Prop:=∀i,c.getLsbD i=YK->i<n
theorem InB.diff{c:ZO}(h:InB n c)(a:Nat):InB n (c&&& ~~~(BitVec.twoPow 64 a)):=λi hi=>by
 rw[c7,aJ]at hi;exact h i hi.1
section
variable {G:Zz}(hG:GOk G)
include hG
theorem OV(c:ZO)(i:Nat):(nearB G c).getLsbD i=YK↔∃b,c.getLsbD b=YK/\iV G b i:=by
 by_cases hi:i<64
 .unfold nearB;rw[kq _ hi,Wv];constructor
  .rintro⟨b,_,h⟩;rw[aJ]at h;exact⟨b,h⟩
  rintro⟨b,h1,h2⟩;refine⟨b,Wi.2 ?_,by rw[aJ];exact⟨h1,h2⟩⟩;exact hG.lt _ _ (hG.sym _ _ h2)
 constructor
 .intro h;exact absurd (ft h) hi
 rintro⟨b,_,h⟩;have:=hG.lt _ _ h;have:=hG.n;omega
theorem ve(rest:ZO)(t:rest.getLsbD a=YK):Comp (iV G) rest (ZQ G rest a)/\(ZQ G rest a).getLsbD a=YK:=by
 have q:(ZQ G rest a).getLsbD a=YK:=(iX (ft t)).2 .refl;have s:∀i j,(ZQ G rest a).getLsbD i=YK->iV G i j->rest.getLsbD j=YK->(ZQ G rest a).getLsbD j=YK:=λi j h1 h2 h3=>(iX (ft h3)).2 (.step (gl h1) h2 h3)
 have one:∀i,(ZQ G rest a).getLsbD i=YK->Path (iV G) (λx=>(ZQ G rest a).getLsbD x=YK) a i:=λi hi=>
  ((tN.1 (gl hi)).stay (inn:=λx=>(ZQ G rest a).getLsbD x=YK) q s).1.mono λc hc=>hc.2
 exact⟨⟨λi hi=>se t hi,s,λi j hi hj=>((one i hi).symm hG.sym q).trans (one j hj),a,q⟩,q⟩
omit hG in
theorem w7{rest c:ZO}(hc:Comp adj rest c)(s:c.getLsbD i=YK){ok:ew}(q:∀x,ok x->rest.getLsbD x=YK)(h:Path adj ok i j):c.getLsbD j=YK:=by
 induction h with
 |refl=>exact s
 |step _ h1 h2 ih=>exact hc.clo _ _ ih h1 (q _ h2)
omit hG in
theorem Hw{rest c d:ZO}(hc:Comp adj rest c)(q:Comp adj rest d)(s:c.getLsbD i=YK)(t:d.getLsbD i=YK):c=d:=by apply XZ;intro j _;rw[V0];exact⟨λh=>w7 q t hc.sub (hc.con i j s h),λh=>w7 hc s q.sub (q.con i j t h)⟩
theorem ki{rest:ZO}(u:InB G.length rest){d:ZO}:d∈(ZL G rest G.length).1↔Comp (iV G) rest d:=by
 have h:=qX G rest hG.sym G.length;have t:=(q8 G rest G.length).1;refine⟨h.all d,λs=>?_⟩;obtain⟨i,hi⟩:=s.ne;have q:=s.sub i hi;rcases(h.cov i).1 q with h1|⟨c,hc,h1⟩
 .exact absurd h1 (h.low i (u i q))
 have:=Hw (h.all c hc) s h1 hi;subst this;exact hc
theorem uT{rest:ZO}(q:InB G.length rest){p:ZO->Nat}:widW p G rest<=b↔∀d,Comp (iV G) rest d->p d<=b:=by unfold widW;rw[max_le_iff];exact⟨λh d hd=>h.2 d ((ki hG q).2 hd),λh=>⟨sh _,λc hc=>h c ((ki hG q).1 hc)⟩⟩
theorem Eh:∀(f f':Nat)(c:ZO),InB G.length c->(∃i,c.getLsbD i=YK)->dV c<=f->dV c<=f'->parF G f c=parF G f' c
 |0,_,c,_,⟨i,hi⟩,h,_=>by have:=vp hi;omega
 |_+1,0,c,_,⟨i,hi⟩,_,h=>by have:=vp hi;omega
 | f+1,f'+1,c,hn,_,h1,h2=>by
   simp only[parF]
   congr 1
   refine oe λa _ hca=>?_
   refine sV λd hd=>?_
   have q:=(ki hG (hn.diff a)).1 hd;have s:dV d<dV c:=x7 (λi hi=>by have:=q.sub i hi;rw[c7,aJ]at this;exact this.1) (j:=a) (by
    cases e:d.getLsbD a with
    |false=>rfl
    |true=>have:=q.sub a e;rw[c7]at this;simp at this) hca
   exact Eh f f' d (λi hi=>hn.diff a i (q.sub i hi)) q.ne Zi Zi
theorem BN{c:ZO}(s:InB G.length c)(u:∃i,c.getLsbD i=YK):partV G c=max (minW (widV G) G c G.length) (keyN G c+1):=by
 unfold partV;rw[show(64:Nat)=63+1 from O,HF];refine ah (λz=>max z (keyN G c+1)) ?_;refine oe λa _ hca=>?_
 refine sV λd hd=>?_
 have q:=(ki hG (s.diff a)).1 hd;have t:dV d<dV c:=x7 (λi hi=>by have:=q.sub i hi;rw[c7,aJ]at this;exact this.1) (j:=a) (by
  cases e:d.getLsbD a with
  |false=>rfl
  |true=>have:=q.sub a e;rw[c7]at this;simp at this) hca
 have:=pI c;exact Eh hG 63 64 d (λi hi=>s.diff a i (q.sub i hi)) q.ne Zi Zi
theorem v7{c d:ZO}(q:Comp (iV G) (c&&& ~~~(BitVec.twoPow 64 a)) d):(∀i,d.getLsbD i=YK->c.getLsbD i=YK)/\d.getLsbD a=YL:=by
 have _:=hG.n;refine⟨λi hi=>?_,?_⟩
 .have:=q.sub i hi;rw[c7,aJ]at this;exact this.1
 cases e:d.getLsbD a with
 |false=>rfl
 |true=>have:=q.sub a e;rw[c7]at this;simp at this
theorem BU:∀(k:Nat)(c:ZO),dV c<=k->InB G.length c->(∃i,c.getLsbD i=YK)->partV G c<=G.length
 |0,c,h,_,⟨i,hi⟩=>by have:=vp hi;omega
 | k+1,c,h,hn,⟨i,hi⟩=>by
   rw[BN hG hn ⟨i,hi⟩];have s:minW (widV G) G c G.length<=G.length:=lQ.2 (.inr ⟨i,hn i hi,hi,(uT hG (hn.diff i)).2 λd hd=>by
    have hs:=v7 hG hd;have:=x7 hs.1 hs.2 hi;exact BU k d Zi (λj hj=>hn j (hs.1 j hj)) hd.ne⟩)
   have t:keyN G c+1<=G.length:=by
    have q:=hG.n;have:dV (nearB G c&&& ~~~c)<dV (l6 G.length):=x7 (λj hj=>by
     rw[j6,OV hG]at hj;obtain⟨⟨b,_,hb⟩,_⟩:=hj;rw[kY Zi,Ws];exact hG.lt _ _ hb) (j:=i) (by
     cases e:(nearB G c&&& ~~~c).getLsbD i with
     |false=>rfl
     |true=>rw[j6]at e;exact absurd hi e.2) (by rw[kY Zi,Ws];exact hn i hi)
    rw[Jm Zi]at this;exact this
   omega
theorem U3{rest:ZO}(q:InB G.length rest):widV G rest<=G.length:=(uT hG q).2 λd hd=>BU hG (dV d) d (BY _) (λi hi=>q i (hd.sub i hi)) hd.ne
theorem Fw{rest c d:ZO}(hc:Comp (iV G) rest c)(u:c.getLsbD a=YK):
  Comp (iV G) (rest&&& ~~~(BitVec.twoPow 64 a)) d↔(Comp (iV G) rest d/\d.getLsbD a=YL)\/Comp (iV G) (c&&& ~~~(BitVec.twoPow 64 a)) d:=by
 have q:∀(x:ZO)(i:Nat),(x&&& ~~~(BitVec.twoPow 64 a)).getLsbD i=YK↔x.getLsbD i=YK/\a≠i:=λx i=>by rw[c7,aJ,Ws]
 constructor
 .intro hd;have hs:=v7 hG hd;obtain⟨i,hi⟩:=hd.ne;by_cases hic:c.getLsbD i=YK
  .right
   have s:∀j,d.getLsbD j=YK->c.getLsbD j=YK:=λj hj=>w7 hc hic hs.1 (hd.con i j hi hj)
   refine⟨λj hj=>(q c j).2 ⟨s j hj,λe=>by subst e;rw[hs.2]at hj;cases hj⟩,λx j hx hj hjc=>?_,hd.con,⟨i,hi⟩⟩;have:=(q c j).1 hjc;exact hd.clo x j hx hj ((q rest j).2 ⟨hc.sub j this.1,this.2⟩)
  left
  have t:∀j,d.getLsbD j=YK->¬c.getLsbD j=YK:=λj hj hcj=>hic (w7 hc hcj hs.1 (hd.con j i hj hi))
  refine⟨⟨hs.1,λx j hx hj hjr=>?_,hd.con,⟨i,hi⟩⟩,hs.2⟩;refine hd.clo x j hx hj ((q rest j).2 ⟨hjr,λe=>?_⟩);subst e;exact t x hx (hc.clo _ x u (hG.sym _ _ hj) (hs.1 x hx))
 rintro(⟨hd,hda⟩|hd)
 .refine⟨λj hj=>(q rest j).2 ⟨hd.sub j hj,λe=>by subst e;rw[hda]at hj;cases hj⟩,λx j hx hj hjr=>hd.clo x j hx hj ((q rest j).1 hjr).1,hd.con,hd.ne⟩
 have hs:=v7 hG hd;refine⟨λj hj=>(q rest j).2 ⟨hc.sub j (hs.1 j hj),λe=>by subst e;rw[hs.2]at hj;cases hj⟩,λx j hx hj hjr=>?_,hd.con,hd.ne⟩;have:=(q rest j).1 hjr;exact hd.clo x j hx hj ((q c j).2 ⟨hc.clo x j (hs.1 x hx) hj this.1,this.2⟩)
theorem Rv{rest:ZO}(q:InB G.length rest)(s:rest.getLsbD a=YK)(t:widV G rest<=b)(u:widV G (ZQ G rest a&&& ~~~(BitVec.twoPow 64 a))<=b):widV G (rest&&& ~~~(BitVec.twoPow 64 a))<=b:=by
 obtain⟨hc,hca⟩:=ve hG rest s;refine(uT hG (q.diff a)).2 λd hd=>?_
 rcases(Fw hG hc hca).1 hd with⟨h,_⟩|h
 .exact(uT hG q).1 t d h
 exact(uT hG (InB.diff (λi hi=>q i (hc.sub i hi)) a)).1 u d h
theorem JB{rest:ZO}(t:InB G.length rest)(u:∃i,rest.getLsbD i=YK)(h:widV G rest<=b):∃a,a<G.length/\rest.getLsbD a=YK/\widV G (ZQ G rest a&&& ~~~(BitVec.twoPow 64 a))<=b:=by
 obtain⟨i,hi⟩:=u;obtain⟨hc,hci⟩:=ve hG rest hi;have q:InB G.length (ZQ G rest i):=λj hj=>t j (hc.sub j hj)
 have z:=(uT hG t).1 h _ hc;rw[BN hG q hc.ne]at z;obtain⟨a,h1,h2,h3⟩:∃a,a<G.length/\(ZQ G rest i).getLsbD a=YK/\widV G (ZQ G rest i&&& ~~~(BitVec.twoPow 64 a))<=b:=by
  rcases lQ.1 (OF (Nat.le_max_left _ _) z)with h1|h1
  .exact⟨i,t i hi,hci,OF (U3 hG (q.diff i)) Zi⟩
  exact h1
 have s:=hc.sub a h2;have:=ve hG rest s;refine⟨a,h1,s,?_⟩;rw[Hw this.1 hc this.2 h2];exact h3
end
noncomputable def leastF(G:Zz)(most:Nat):Nat->ZO->cP
 |0,_=>[]
 | f+1,rest=>match (List.range G.length).find? (λa=>rest.getLsbD a&&decide (widV G (ZQ G rest a&&& ~~~(BitVec.twoPow 64 a))<=most))with
   |some a=>(a:Int)::leastF G most f (rest&&& ~~~(BitVec.twoPow 64 a))
   |none=>[]
noncomputable def leastL(G:Zz):cP:=leastF G (widV G (l6 G.length)) G.length (l6 G.length)
theorem pX{x:ZO}(h:x.getLsbD a=YK):dV (x&&& ~~~(BitVec.twoPow 64 a))+1=dV x:=by
 unfold dV;have q:∀k,(List.range k).countP (λi=>(x&&& ~~~(BitVec.twoPow 64 a)).getLsbD i)+(if a<k then 1 else 0)=(List.range k).countP λi=>x.getLsbD i:=by
  intro k;induction k with
  |zero=>simp
  | succ k ih=>
    rw[XC,List.countP_append,List.countP_append,<-ih,List.countP_singleton,List.countP_singleton,c7];by_cases e:a=k
    .subst e;simp[h]
    by_cases h2:x.getLsbD k=YK
    .by_cases h3:a<k
     .simp[h2,e,h3,Nat.lt_succ_of_lt h3]<;>omega
     simp[h2,e,h3,show ¬a<k+1 by omega]
    by_cases h3:a<k
    .simp[h2,h3,Nat.lt_succ_of_lt h3]
    simp[h2,h3,show ¬a<k+1 by omega]
 have:=q 64;rw[IT (ft h)]at this;exact this
end
section
open Mk
theorem yC(x:ZO):ZK prog 260 [cx x] (· = ZU (dV x)):=by
 refine ZC func260 O ntmps260 λ_ _ _ _=>?_
 refine Z1 O<|Z1 O<|Gl O (st:=λZq:ZO×Nat=>ZT [(0,.pv (cx Zq.1)),(3,ZI Zq.2)] [] 0)
  (I:=λZq=>Zq.2+dV Zq.1=dV x) (μ:=λZq=>dV Zq.1) (x0:=(x,0)) (Vn (aS O) trivial O O) Zm ?_
 rintro⟨y,k⟩ hk;try simp only at hk ⊢
 have s:=pI x;refine Z1 O<|Rs O (wh (Y:=0#64) O O)<|Gp O (λq=>?_) (λq=>?_)
 .have hp:=L4 q;exact Vl<|Z3 O<|Z2 O<|Rs O (Jq (Y:=1#64) O O)<|Rs O (vh O O)<|A1 O<|⟨(y&&&(y-1#64),k+1),Vn (aS O) trivial O O,Zo,Zo⟩
 have hz:y=0#64:=V5 q;subst hz;exact Gx O<|Z2 O<|YR O<|by rw[<-hk];rfl
theorem I4(G:Zz)(B:GOk G)(c:ZO):ZK prog 229 [cS G,cx c] (· = ZU (keyN G c)):=by
 refine ZC func229 O ntmps229 λ_ _ _ _=>?_
 have u:=B.n;refine Z1 O<|Z1 O<|Z3 O<|Gz O (st:=λZq:Nat×ZO=>([(1,WC),(5,WB (.pv (cx Zq.2))),(8,WC),(9,WC),(10,WB (ZI Zq.1))],[])) 0
  (I:=λZq=>Zq.1<=G.length/\∀i,Zq.2.getLsbD i=(List.range Zq.1).any λb=>c.getLsbD b&&(G.getD b 0#64).getLsbD i) (μ:=λZq=>G.length-Zq.1) (x0:=(0,0#64)) (Vn (aS O) trivial O O) (⟨sh _,λc=>by simp⟩) ?_
 rintro⟨k,near⟩ ⟨hk,hnear⟩;try simp only at hk hnear ⊢
 refine Z1 O<|Gp O (λs=>?_) (λs=>?_)
 .have hlt:k<G.length:=Zi;have E:=kA hlt;have z:=mA hlt;refine Vl<|Z2 O ?_;first|refine A2 O Zl ?_|refine A1 O ?_
  refine Y2 O<|Z2 O<|Rs O (aa call112 (rA c k Zi) O)<|Gc O (λq=>?_) (λq=>?_)
  .exact Z2 O<|Rs O (sO O O)<|A1 O<|Z2 O<|⟨(k+1,near|||G[k]),Vn (aS O) trivial O O,⟨Zo,λi=>(mZ (hnear i) hlt).1 q⟩,Zo⟩
  exact Vl<|Z2 O<|⟨(k+1,near),Vn (aS O) trivial O O,⟨Zo,λi=>(mZ (hnear i) hlt).2 q⟩,Zo⟩
 have hkG:k=G.length:=Zi;rw[hkG]at hnear;have t:near=nearB G c:=by apply XZ;intro i hi;unfold nearB;rw[kq _ hi,hnear]
 subst t;exact Gx O<|Z2 O<|Rs O (dN O O)<|Rs O (aa call260 (yC _) O)<|A1 O<|YR O O
abbrev L1(M:List (ZO×Nat)):Ob:= .mp (M.map λp=>cx p.1) (M.map λp=> .int .i64 (p.2:Int))
def vB(G:Zz)(M:List (ZO×Nat)):Prop:=∀p∈M,p.2=partV G p.1
abbrev finV(G:Zz):V:= .agg [.pv (cS G),.map big]
theorem OP(x y:ZO):keq (cx x) (cx y)=WB (decide (x=y)):=by simp only[keq,cx];show WB (_==_)=_;rw[w6]
theorem mX(c:ZO):∀(M:List (ZO×Nat))(i:Nat),(∃r,bZ (cx c) (M.map λp=>cx p.1) i=WB r)/\(bZ (cx c) (M.map λp=>cx p.1) i=WB WC->∀p∈M,p.1≠c)/\(∀j,bZ (cx c) (M.map λp=>cx p.1) i=WB (WB j)->i<=j/\∃w,M[j-i]? =WB (c,w))
 |[],i=>⟨⟨WC,O⟩,λ_=>by simp,λj h=>by simp[bZ]at h⟩
 | p::M,i=>by
   obtain⟨h1,h2,h3⟩:=mX c M (i+1);simp only[ed,bZ,OP];by_cases e:c=p.1
   .rw[VK e];refine⟨⟨_,O⟩,λh=>by simp at h,λj h=>?_⟩;simp at h;subst h;exact⟨BY _,p.2,by simp[e]⟩
   rw[VL e];refine⟨h1,λh q hq=>?_,λj h=>?_⟩
   .rcases By.1 hq with rfl|hq
    .exact λs=>e s.symm
    exact h2 h q hq
   obtain⟨h4,w,h5⟩:=h3 j h;exact⟨Zi,w,by rw[show j-i=(j-(i+1))+1 by omega];simpa using h5⟩
theorem JL{G:Zz}{M:List (ZO×Nat)}(t:vB G M)(c:ZO):lP (cx c) (M.map λp=>cx p.1) (M.map λp=> .int .i64 (p.2:Int))=WB (if ∃p∈M,p.1=c then WB (.int .i64 (partV G c))else WC):=by
 obtain⟨⟨r,h1⟩,h2,h3⟩:=mX c M 0;unfold lP;rw[h1];cases r with
 | none=>
   have:=h2 h1;rw[AS (fun⟨p,hp,e⟩=>this p hp e)]
 | some j=>
   obtain⟨_,w,h4⟩:=h3 j h1;simp only[Nat.sub_zero]at h4;have q:=W8 h4;rw[IT ⟨_,q,O⟩];have s:w=partV G c:=t _ q;simp[h4,s]
theorem MS{G:Zz}{M:List (ZO×Nat)}(q:vB G M)(c:ZO):∃M',vB G M'/\pK (cx c) (M.map λp=>cx p.1)=M'.map (λp=>cx p.1)/\pN (cx c) (.int .i64 (partV G c:Nat)) (M.map λp=>cx p.1) (M.map λp=> .int .i64 (p.2:Int))=M'.map λp=> .int .i64 (p.2:Int):=by
 obtain⟨⟨r,h1⟩,_,_⟩:=mX c M 0;unfold pK pN;rw[h1];cases r with
 | none=>
   refine⟨M++[(c,partV G c)],λp hp=>?_,Zm,Zm⟩;rcases We.1 hp with h|h
   .exact q p h
   rw[VH.1 h]
 | some j=>
   refine⟨M.set j (c,partV G c),λp hp=>?_,by simp[Wp],by simp[Wp]⟩;rcases Xm hp with h|h
   .exact q p h
   rw[h]
theorem Hv(a b:Nat):(if(b:Int)>(a:Int)then(b:Int)else(a:Int))=((max a b:Nat):Int):=by split<;>omega
theorem RN(a b:Nat):(if(b:Int)<(a:Int)then(b:Int)else(a:Int))=((min a b:Nat):Int):=by split<;>omega
def QW(G:Zz)(x:Nat)(v:V)(ob':Nat->va):Prop:=∃M',vB G M'/\v= ZI (x:Int)/\ob'=au [(big,L1 M')]
def HZ(P:Program)(f:FuncId)(G:Zz)(rest:ZO)(x:Nat):Prop:=∀M,vB G M->ZS P f 1 0 [finV G,.pv (cx rest)] [(big,L1 M)] (QW G x)
theorem Dm(G:Zz)(W:GOk G)(rest:ZO)(X:InB G.length rest)(hp:∀d,Comp (iV G) rest d->HZ prog 170 G d (partV G d)):HZ prog 111 G rest (widV G rest):=by
 intro M hM;refine ZE func111 O ntmps111 λ_ _ _ _=>?_
 have s:=W.n;have u:=tO G s rest;have q:=λd=>ki W X (d:=d)
 have B:widV G rest=(ZL G rest G.length).1.foldl (λz c=>max z (partV G c)) 0:=rfl;have Y:=mE G rest G.length;generalize (ZL G rest G.length).1=cs at*;have Z:∀d∈cs,partV G d<=12:=λd hd=>OF (BU W _ d (BY _) (λi hi=>X i (((q d).1 hd).sub i hi)) ((q d).1 hd).ne) s
 refine Z2 O<|Z1 O<|Z3 O<|Rs O (aa call169 u O)<|Y2 O<|Gz O (st:=λZq:Nat×Nat×List (ZO×Nat)=>([(2,WC),(5,WB (ZI Zq.2.1)),(11,WC),(12,WC),(13,WB (ZI Zq.1))],[(big,WB (L1 Zq.2.2)),(0,WC)])) 1
  (I:=λZq=>Zq.1<=cs.length/\Zq.2.1=(cs.take Zq.1).foldl (λz c=>max z (partV G c)) 0/\vB G Zq.2.2) (μ:=λZq=>cs.length-Zq.1) (x0:=(0,0,M)) (YS O) (⟨sh _,O,hM⟩) ?_
 rintro⟨k,m,M2⟩ ⟨hk,hm,hM2⟩;try simp only at hk hm hM2 ⊢
 refine Z1 O<|Gp O (λt=>?_) (λt=>?_)
 .have hlt:k<cs.length:=Zi;have hv:=kA hlt;have ab:=mA hlt;have E:=hp cs[k] ((q _).1 (ak hlt)) M2 hM2;have V:(cs.take (k+1)).foldl (λz c=>max z (partV G c)) 0=max m (partV G cs[k]):=by rw[bP hlt,XN,<-hm];rfl
  refine Vl<|Z1 O ?_;first|refine A2 O Zl ?_|refine A1 O ?_
  refine A1 O<|Z3 O<|RL.call O (iD [big] 0 call170 E O O O O ⟨O,Zp⟩ Zk O ?_);rintro _ _ ⟨M3,hM3,rfl,rfl⟩;exact Y2 O<|Z2 O<|⟨(k+1,max m (partV G cs[k]),M3),Vn ⟨O,ah (λz=>ZI z) (Hv _ _),O,O,O,Zp⟩ (aO O) O O,⟨Zo,V.symm,hM3⟩,Zo⟩
 rw[aG Zi,<-B]at hm;subst hm;exact Gx O<|Z2 O<|Gt O<|⟨[(4,ZI (widV G rest:Nat))],[(big,L1 M2)],[ZI (widV G rest:Nat)],YS O,O,O,O,M2,hM2,O,O⟩
theorem NO(G:Zz)(X:GOk G)(c:ZO)(hc:InB G.length c)(Y:∃i,c.getLsbD i=YK)(hw:∀a,a<G.length->c.getLsbD a=YK->HZ prog 111 G (c&&& ~~~(BitVec.twoPow 64 a)) (widV G (c&&& ~~~(BitVec.twoPow 64 a)))):HZ prog 170 G c (partV G c):=by
 intro M hM;refine ZE func170 O ntmps170 λ_ _ _ _=>?_
 have Z:=X.n;have t:=JL hM c;have E:=BN X hc Y;have V:∀k,minW (widV G) G c k<=G.length+1:=λk=>lQ.2 (.inl (BY _))
 have ab:keyN G c<=64:=pI _;refine Z2 O ?_;by_cases hm:∃p∈M,p.1=c
 .rw[IT hm]at t;refine Z3 O<|Rs O (iy (zp:= .int .i64 0) underlying207 underlying211 (.inl ⟨big,O,O⟩) O O Vh O t O O)<|Ar 5 O<|Z1 O<|Gc O (λq=>?_) (λq=>absurd q Zm);exact Z2 O<|Gt O<|⟨[(4,ZI (partV G c:Nat))],[(big,L1 M)],[ZI (partV G c:Nat)],YS O,O,O,O,M,hM,O,O⟩
 rw[AS hm]at t;refine Z3 O<|Rs O (iy (zp:= .int .i64 0) underlying207 underlying211 (.inl ⟨big,O,O⟩) O O Vh O t O O)<|Ar 5 O<|Z1 O<|Gc O (λq=>absurd q Zm) (λq=>?_);refine Vl<|Gr O<|Ar 5 O<|Z4 O<|Gz O (st:=λZq:Nat×List (ZO×Nat)=>([(1,WC),(2,WC),(7,WB (ZI (minW (widV G) G c Zq.1:Nat))),(24,WC),(25,WB (ZI Zq.1))],[(big,WB (L1 Zq.2)),(0,WC)])) 1
  (I:=λZq=>Zq.1<=G.length/\vB G Zq.2) (μ:=λZq=>G.length-Zq.1) (x0:=(0,M)) (YS O) (⟨sh _,hM⟩) ?_
 rintro⟨k,M2⟩ ⟨hk,hM2⟩;try simp only at hk hM2 ⊢
 refine Z1 O<|Gp O (λB=>?_) (λB=>?_)
 .have hlt:k<G.length:=Zi;have u:=mT (widV G) G c k;refine Vl<|Z2 O<|Z2 O<|Rs O (aa call112 (rA c k Zi) O)<|Gc O (λs=>?_) (λs=>?_)
  .rw[IT s]at u;have W:=hw k hlt s M2 hM2;refine VC 9 O<|Dr 4 O<|YM O (λτ h=>aa call114 (jI k Zi) (h.aE O))<|YM O (λτ h=>dN (Ee h 0 O) (Ee h 1 O))<|DL.rel (RO [big] 0 0 (QW G (widV G (c&&& ~~~(BitVec.twoPow 64 k))))) [big] [] [big] O O O (λτ h=>Tu [big] 0 call111 W (h.args.trans O) O O O ⟨Eo h 0 O,Zp⟩ Zk O) O Zj Zj Zj ?_;rintro _ ⟨_,_,⟨M3,hM3,rfl,rfl⟩,rfl⟩ _ _;refine Dr 2 O ⟨Zj,Z2 O<|⟨(k+1,M3),Vn ⟨O,O,ah (λz=>ZI z) ((RN _ _).trans (by rw[u])),O,O,Zp⟩ (aO O) O O,⟨Zo,hM3⟩,Zo⟩⟩
  rw[AS (by rw[s];decide)]at u;exact Vl<|Z2 O<|⟨(k+1,M2),Vn ⟨O,O,by simp only[u];rfl,O,O,Zp⟩ (aO O) O O,⟨Zo,hM2⟩,Zo⟩
 have hkG:k=G.length:=Zi;subst hkG;obtain⟨M4,hM4,hpk,hpv⟩:=MS hM2 c;obtain⟨⟨r,hkf⟩,_,_⟩:=mX c M2 0;have ac:=V G.length;exact Gx O<|Z4 O<|Rs O (aa call229 (I4 G X c) O)<|A1 O<|Rs O (XJ.cast (v':= ZI (partV G c:Nat)) (zT O O) (ah (λz=>ZI z) ((Hv _ (keyN G c+1)).trans (by rw[E]))))<|A1 O<|Z4 O<|RL.step (d:=WC) O O (jQ underlying207 underlying211 O O O O O hkf hpk hpv)<|Z2 O<|Gt O<|⟨[(4,ZI (partV G c:Nat))],[(big,L1 M4)],[ZI (partV G c:Nat)],YS O,O,O,O,M4,hM4,O,O⟩
theorem AY(G:Zz)(q:GOk G):∀(k:Nat)(rest:ZO),dV rest<=k->InB G.length rest->HZ prog 111 G rest (widV G rest)
 | 0,rest,h,hr=>Dm G q rest hr λd hd=>by
   obtain⟨i,hi⟩:=hd.ne;have:=vp (hd.sub i hi);omega
 | k+1,rest,h,hr=>Dm G q rest hr λd hd=>NO G q d (λi hi=>hr i (hd.sub i hi)) hd.ne λa ha hda=>AY G q k _ (by
   have s:=pX hda;have t:=MI hd.sub;omega) (InB.diff (λi hi=>hr i (hd.sub i hi)) a)
end
section
open Mk Jn
def nC(X:ZO)(k:Nat):cP:=((List.range k).filter λa=>X.getLsbD a).map Int.ofNat
theorem uq(X:ZO)(k:Nat):nC X (k+1)=nC X k++if X.getLsbD k=YK then [(k:Int)]else []:=by grind[nC,XC]
theorem OK{X:ZO}(h:X>>>a=0#64):∀b,a<=b->X.getLsbD b=YL:=by intro b hb;have:=ah (λz=>z.getLsbD (b-a)) h;simp only[BitVec.getLsbD_ushiftRight,BitVec.getLsbD_zero]at this;rwa [show a+(b-a)=b by omega]at this
theorem Ri{X:ZO}(h:InB n X):X>>>n=0#64:=by
 apply XZ;intro i hi;simp only[BitVec.getLsbD_ushiftRight,BitVec.getLsbD_zero];cases hb:X.getLsbD (n+i)with
 |false=>rfl
 |true=>have:=h _ hb;omega
theorem IQ{X:ZO}(h:X>>>a=0#64)(q:a<=n):nC X n=nC X a:=by
 induction n with
 |zero=>rw[show a=0 by omega]
 | succ n ih=>
   rcases XE n a with h1|h1
   .rw[show a=n+1 by omega]
   grind[uq,OK]
theorem Gn(X:ZO)(n:Nat)(M:n<=60)(E:InB n X):ZK prog 261 [cx X] (· =al (nC X n)):=by
 refine ZC func261 O ntmps261 λ_ _ _ _=>?_
 have z:=Ri E;refine Z1 O<|Z1 O<|Vm (Vs 3 0 1 3 O O)<|Z1 O<|Gl O (st:=λZq:Nat×cP=>ZT [(0,.pv (cx X)),(3,.bz 0 1 Zq.2.length),(4,ZI Zq.1)] [(0,.bD 3 (aI Zq.2))] 1)
  (I:=λZq=>(Zq.1<=n/\Zq.2.length<=Zq.1)/\Zq.2=nC X Zq.1) (μ:=λZq=>n-Zq.1) (x0:=(0,[])) (YS O) (⟨⟨sh _,BY _⟩,O⟩) ?_
 rintro⟨a,q⟩ ⟨⟨ha,hqa⟩,hq⟩;try simp only at ha hqa hq ⊢
 refine Z2 O<|Rs O (GM a O O O Zi)<|Rs O (wh (Y:=0#64) O O)<|Gp O (λt=>?_) (λt=>?_)
 .have hlt:a<n:=by rcases XE a n with h|h;exact h;exact absurd (by rw[show a=n by omega];exact z) t
  have B:(aI q).length=q.length*1:=Zm;have u:=uq X a;refine Vl<|Z2 O<|Rs O (aa call112 (rA X a Zi) O)<|Gc O (λs=>?_) (λs=>?_)
  .exact Gr O<|Ar 5 O<|Z3 O<|⟨(a+1,q++[(a:Int)]),Vo [2] ⟨O,ah (λn=>V.bz 2 1 n) (fv q _),O,Zp⟩ ⟨ah (λc=>WB (Ob.bD 3 c)) Zm,Zp⟩ O O Zk O,⟨⟨Zo,by simp only[Hb,VV];omega⟩,by simp only;rw[u,IT s,<-hq]⟩,Zo⟩
  exact Vl<|Z3 O<|⟨(a+1,q),YS O,⟨⟨Zo,Zo⟩,by simp only;rw[u,AS (by rw[s];decide),W7,<-hq]⟩,Zo⟩
 have hz:X>>>a=0#64:=V5 t;rw[<-IQ hz ha]at hq;exact Vm (Vq 0 O O)<|Gx O<|Z2 O<|YR O<|by rw[<-hq];rfl
def bT{α:Type}(D:List α)(us:List (Nat×α)):List α:=us.foldl (λD u=>D.set u.1 u.2) D
theorem dM(D:List α)(us:List (Nat×α)):(bT D us).length=D.length:=by
 unfold bT;induction us generalizing D with
 |nil=>rfl
 |cons u us ih=>rw[W5,ih,VN]
theorem iT(D:List α)(us vs:List (Nat×α)):bT D (us++vs)=bT (bT D us) vs:=XN
section
variable (P:cP)(G:Zz)
def jC:Nat->Int->ZO
 |0,v=>G.getD v.toNat 0#64
 |k+1,v=>(aB P v).foldl (λz c=>z|||jC k c) (G.getD v.toNat 0#64)
def lG:Nat->Int->cP
 |0,v=>[v]
 |k+1,v=>v::(aB P v).flatMap (lG k)
def zW:Nat->Int->ZO->List (Nat×Int)
 |0,v,ab=>[(v.toNat,(dV ab:Int))]
 |k+1,v,ab=>(v.toNat,(dV ab:Int))::(aB P v).flatMap λc=>zW k c (ab|||BitVec.twoPow 64 v.toNat)
def k8(n:Nat):Nat->Int->ZO->List (Nat×cP)
 |0,v,ab=>[(v.toNat,nC (jC P G 0 v&&&ab) n)]
 |k+1,v,ab=>((aB P v).flatMap λc=>k8 n k c (ab|||BitVec.twoPow 64 v.toNat))++[(v.toNat,nC (jC P G (k+1) v&&&ab) n)]
end
abbrev layA(G:Zz)(v:Int)(ab:ZO):nR:=[ZI v,.pv (cx ab),.ptr big 0,.ptr 9004 0,.pv (.rp [cS G] 0),.ptr 9006 0]
abbrev Sx(n:Nat)(G:Zz)(chs:vm)(w:Nat)(L:cP)(D:cP)(K:vm)(hs:na):Zy:=[(big,.mix 257 [.pv (cB chs),.bJ 9001 1 n,.bJ 9002 1 n,.bz w 1 L.length]),(9001,.cells 22 (K.map al)),(9002,.cells 22 hs),(w,.bD 3 (aI L)),(9004,.mix 22 [.bJ 9005 1 n]),(9005,.cells 3 (aI D)),(9006,.mix 343 [.fn (.func 259) [] [.ptr big 0,.ptr 9004 0,.pv (.rp [cS G] 0),.ptr 9006 0]])]
theorem nw2{av:Av}(q:av b=YK)(s:av (b+1)=YK):(nwO b 2).all av=YK:=by show(av (b+0)&&(av (b+1)&&YK))=YK;rw[XG,q,s];rfl
theorem vZ{NR:Int->ZO}:∀(cs:cP)(g:ZO),InB n g->(∀c∈cs,InB n (NR c))->InB n (cs.foldl (λz c=>z|||NR c) g)
 |[],g,hg,_=>hg
 | c::cs,g,hg,h=>by
   rw[W5];refine vZ cs _ (λi hi=>?_) λd hd=>h d (by simp[hd])
   rw[Yt,Wr]at hi;rcases hi with hi|hi
   .exact hg i hi
   exact h c Zm i hi
theorem iZ(h:j<cs.length)(f:Int->List α):(cs.take (j+1)).flatMap f=(cs.take j).flatMap f++f cs[j]:=by rw[AI h,Xn];simp
theorem Ce(f:Int->List α)(cs:cP)(j:Nat):((cs.take j).flatMap f).length<=(cs.flatMap f).length:=by grind[WV,Hb]
theorem tZ(n:Nat)(hn:n<=12)(G:Zz)(hGn:G.length=n)(chs:vm)(hcl:chs.length<=64)(v:Nat)(hv:v<n)(E:v<chs.length)(CS:cP)(ay:chs[v]=CS)(hCl:CS.length<=64)(az:∀c∈CS,∃m:Nat,c=(m:Int))(ab:ZO)
  (NR:Int->ZO) (WS:Int->cP) (DU:Int->List (Nat×Int)) (KU:Int->List (Nat×cP)) (hg:InB n (G[v]'Zi)) (aA:∀c∈CS,InB n (NR c)) (hs:na)
  (af:∀c∈CS,∀(L D:cP)(K:vm),D.length=n->K.length=n->L.length+(WS c).length<=1000->ZS prog 259 7 2 (layA G c (ab|||BitVec.twoPow 64 v)) (Sx n G chs 9003 L D K hs) (λr ob'=>r= .pv (cx (NR c))/\ob'=au (Sx n G chs 1 (L++WS c) (bT D (DU c)) (bT K (KU c)) hs)))
  (L D:cP) (K:vm) (hD:D.length=n) (hK:K.length=n) (hL:L.length+1+(CS.flatMap WS).length<=1000):
  ZS prog 259 7 2 (layA G v ab) (Sx n G chs 9003 L D K hs) (λr ob'=>r= .pv (cx (CS.foldl (λz c=>z|||NR c) (G[v]'Zi)))/\ob'=au (Sx n G chs 1 (L++(v:Int)::CS.flatMap WS) (bT (D.set v (dV ab)) (CS.flatMap DU)) ((bT K (CS.flatMap KU)).set v (nC (CS.foldl (λz c=>z|||NR c) (G[v]'Zi)&&&ab) n)) hs)):=by
 refine ZE func259 O ntmps259 λ_ _ _ _=>?_
 have t:v<G.length:=Zi;have am:=kA t;have an:=mA t;have W:=kV E;have ao:=kP E;rw[ay]at W;have ap:=vZ CS G[v] hg aA;generalize G[v]=g0 at*;have u:=Gn (CS.foldl (λz c=>z|||NR c) g0&&&ab) n Zi (λi hi=>ap i (by rw[BitVec.getLsbD_and,aJ]at hi;exact hi.1));have hDl:(aI D).length=n:=by rw[IS,hD]
 have hpl:=pI ab;refine Z1 O ?_;have aD:(aI L).length=L.length*1:=Zm;refine Gr O<|Ar 7 O<|VC 6 O<|Dr 3 O<|YM O (λτ h=>aa call260 (yC _) (h.aE O))<|YQ [_] O (λτ h=>ag v aal sz3 (Ee h 0 O) (Eo h 0 O) (Ee h 1 O) O Zi)<|DL.step (d:=WC) [_] O O O (λτ h=>ba sz3 (Ee h 0 O) (Eo h 0 O) (Ee h 1 O) O Zi) O Zj ?_;refine⟨Zj,?_⟩;refine Z2 O<|Rs O (ai v underlying205 N8 O O O t an)<|Rs O (aC ⟨_,underlying211,O⟩ O am)<|A1 O<|Z3 O<|Rs O (ai v aaz yM O O O E ao)<|Rs O (aC ⟨_,aal,O⟩ O W)<|Y2 O<|Gz O (st:=λZq:Nat×cP×cP×vm=>([(0,WC),(1,WC),(2,WC),(5,WC),(9,WB (.pv (cx ((CS.take Zq.1).foldl (λz c=>z|||NR c) g0)))),(31,WC),(32,WC),(33,WB (ZI Zq.1))],[(big,WB (.mix 257 [.pv (cB chs),.bJ 9001 1 n,.bJ 9002 1 n,.bz 1 1 Zq.2.1.length])),(1,WB (.bD 3 (aI Zq.2.1))),(9001,WB (.cells 22 (Zq.2.2.2.map al))),(9002,WC),(9004,WC),(9005,WB (.cells 3 (aI Zq.2.2.1))),(9006,WC)])) 2
  (I:=λZq=>(Zq.1<=CS.length/\Zq.2.1=L++(v:Int)::(CS.take Zq.1).flatMap WS)/\Zq.2.2.1=bT (D.set v (dV ab)) ((CS.take Zq.1).flatMap DU)/\Zq.2.2.2=bT K ((CS.take Zq.1).flatMap KU)) (μ:=λZq=>CS.length-Zq.1) (x0:=(0,L++[(v:Int)],D.set v (dV ab),K)) (Vn (aS O) ⟨VT (b:=WB (.mix 257 [.pv (cB chs),.bJ 9001 1 n,.bJ 9002 1 n,.bz 1 1 (L.length+1)])) Zj (ah (λq=>WB (Ob.mix 257 [.pv (cB chs),.bJ 9001 1 n,.bJ 9002 1 n,.bz 1 1 q])) (fv L _)),VT (b:=WB (.bD 3 (aI L++[.int .i64 v]))) Zj (ah (λc=>WB (Ob.bD 3 c)) Zm),Zj,Zj,Zj,VT (b:=WB (.cells 3 ((aI D).set (v*1) (.int .i64 (dV ab))))) Zj (ah (λc=>WB (Ob.cells 3 c)) (by simp[Wp])),Zj,Zp⟩ O O) (⟨⟨sh _,O⟩,O,O⟩) ?_
 rintro⟨j,M,D2,K2⟩ ⟨⟨hj,hM⟩,hD2,hK2⟩;try simp only at hj hM hD2 hK2 ⊢
 refine Z1 O<|Gp O (λad=>?_) (λad=>?_)
 .have hlt:j<CS.length:=Zi;have X:=ak hlt;obtain⟨c,hc⟩:=az _ X;have ar:(aI CS)[j*1]? =WB (.int .i64 (c:Int)):=by rw[<-hc];simp[hlt]
  have hpn:=aU hlt;have B:=iZ hlt WS;have Y:=iZ hlt DU;have Z:=iZ hlt KU;have s:(CS.take (j+1)).foldl (λz c=>z|||NR c) g0=(CS.take j).foldl (λz c=>z|||NR c) g0|||NR CS[j]:=by rw[AI hlt,XN];rfl
  have ax:((CS.take (j+1)).flatMap WS).length<=(CS.flatMap WS).length:=Ce WS CS (j+1);have ac:=af _ X M D2 K2 (by rw[hD2,dM,VN,hD]) (by rw[hK2,dM,hK]) (by rw[B,Hb]at ax;rw[hM];simp only[Hb,VI];omega);rw[hc]at ac B Y Z s;generalize (CS.take j).foldl (λz c=>z|||NR c) g0=acc at*;refine Vl<|Z1 O<|Rs O (aC ⟨_,aan,O⟩ O ar)<|A1 O<|VC 10 O<|Dr 5 O<|YM O (λτ h=>aa call114 (jI v Zi) (h.aE O))<|YM O (λτ h=>sO (Ee h 0 O) (Ee h 1 O))<|YQ [big,9001,9002,1,9004,9005,9006] O (λτ h=>fi (vs:=[ZI (c:Int),.pv (cx (ab|||BitVec.twoPow 64 v))]) [big,9001,9002,1,9004,9005,9006] 2 call259 ac (Ee h 0 O) (h.argsY.trans O) O O O O ⟨(Eo h 0 O),(Eo h 1 O),(Eo h 2 O),(Eo h 3 O),(Eo h 4 O),(Eo h 5 O),(Eo h 6 O),Zp⟩ Zk (nw2 (h.n 0 _ O) (h.n 1 _ O)))<|YM O (λτ h=>sO (Ee h 0 O) (Ee h 1 O))<|D1 O O ⟨Zj,Z2 O<|⟨(j+1,M++WS (c:Int),bT D2 (DU (c:Int)),bT K2 (KU (c:Int))),Vo [0,3] ⟨O,O,O,O,ah (λz=>V.pv (cx z)) s.symm,O,O,O,Zp⟩ (aP Zj) O O Zk O,⟨⟨Zo,by simp only;rw[B,hM];simp⟩,by simp only;rw[Y,iT,<-hD2],by simp only;rw[Z,iT,<-hK2]⟩,Zo⟩⟩
 rw[show CS.take j=CS from aG Zi]at hM hD2 hK2 ⊢;have aN:(K2.map al).length=n:=by rw[IS,hK2,dM,hK]
 generalize CS.foldl (λz c=>z|||NR c) g0=near at*;refine Gx O<|VC 9 O<|Dr 5 O<|YM O (λτ h=>vh (Ee h 0 O) (Ee h 1 O))<|YM O (λτ h=>aa call261 u (h.aE O))<|YQ [_] O (λτ h=>ag v aaz yM (Ee h 0 O) (Eo h 0 O) (Ee h 1 O) O Zi)<|DL.step (d:=WC) [_] O O O (λτ h=>ba yM (Ee h 0 O) (Eo h 0 O) (Ee h 1 O) O Zi) O Zj ⟨Zj,Z2 O<|Gt O<|⟨[(8,.pv (cx near))],Sx n G chs 1 (L++(v:Int)::CS.flatMap WS) (bT (D.set v (dV ab)) (CS.flatMap DU)) ((bT K (CS.flatMap KU)).set v (nC (near&&&ab) n)) hs,[.pv (cx near)],Vn (aS O) (by rw[<-hM,<-hD2,<-hK2];exact⟨Zj,VT (b:=WB (.cells 22 ((K2.map al).set (v*1) (al (nC (near&&&ab) n))))) Zj (ah (λc=>WB (Ob.cells 22 c)) (by simp[Wp])),Zj,Zj,Zj,Zj,Zj,Zp⟩) O O,O,O,O,O,O⟩⟩
end
section
open Mk Jn
def xh(P:cP)(k:Nat)(v:Int):cP:=((List.range k).filter λa=>P.getD a 0==v).map Int.ofNat
theorem qy(P:cP)(v:Int):xh P P.length v=aB P v:=by unfold xh aB upZ;rw[List.filter_map];rfl
theorem zM(P:cP)(k:Nat)(v:Int):xh P (k+1) v=xh P k v++if P.getD k 0=v then [(k:Int)]else []:=by grind[xh,XC]
theorem p9(P:cP)(k:Nat)(v:Int):(xh P k v).length<=k:=by grind[xh,IS,OF,Wx]
def lsT(P:cP)(k:Nat):vm:=(upZ P.length).map (xh P k)++[xh P k (-1)]
theorem dq(P:cP)(k:Nat):(lsT P k).length=P.length+1:=by simp[lsT,bt]
theorem Cu(P:cP)(k:Nat)(h:i<P.length):(lsT P k)[i]'(by rw[dq];omega)=xh P k i:=by unfold lsT;rw[List.getElem_append_left (by simp[bt,h])];simp[upZ]
theorem qh(P:cP)(k:Nat):(lsT P k)[P.length]'(by rw[dq];omega)=xh P k (-1):=by unfold lsT;rw[List.getElem_append_right (by simp[bt])];simp[bt]
theorem Ed(P:cP):lsT P 0=List.replicate (P.length+1) []:=by
 apply WU
 .simp[dq]
 .intro i h1 h2;rw[List.getElem_replicate];by_cases hi:i<P.length
  .rw[Cu P 0 hi];rfl
  have hi':i=P.length:=by rw[dq]at h1;omega
  subst hi';rw[qh P 0];rfl
theorem D7(u:∀p∈P, -1<=p/\p<P.length)(s:k<P.length)(U:Nat)(t:(P[k]= -1/\U=P.length)\/(P[k]=(U:Int)/\U<P.length)):
  lsT P (k+1)=(lsT P k).set U ((lsT P k)[U]'(by rw[dq];rcases t with h|h<;>omega)++[(k:Int)]):=by
 have q:P.getD k 0=P[k]:=by simp[List.getD,s]
 apply WU
 .simp[dq]
 grind[dq,Cu,zM,qh]
def lsP(ls:vm):List na:=ls.map λl=>l.map λi=> .int .i64 i
theorem eV(ls:vm):(lsP ls).length=ls.length:=by simp[lsP]
theorem Ak(ls:vm)(U:Nat)(q:U<ls.length)(x:Int):lsP (ls.set U (ls[U]++[x]))=(lsP ls).set U ((lsP ls)[U]'(by rw[eV];exact q)++[.int .i64 x]):=by unfold lsP;rw[Wp];simp
theorem Hm(ls:vm):chP (lsP ls)=ls.map λl=> .pv (al l):=by unfold chP lsP;rw[XX];apply V9;intro l _;simp
theorem TP(P:cP)(k:Nat)(h:U<(lsP (lsT P k)).length):((lsP (lsT P k))[U]).length<=k:=by
 have q:U<(lsT P k).length:=by rwa [eV]at h
 have e:(lsP (lsT P k))[U]=(lsT P k)[U].map λi=>PV.int .i64 i:=by simp[lsP]
 rw[e,IS];by_cases hU:U<P.length
 .rw[Cu P k hU];exact p9 P k _
 grind[dq,qh,p9]
theorem wX(cs:nR)(j:Nat)(v:V)(h:j<cs.length):k7 cs j [v]=cs.set j v:=by unfold k7;rw[XU,IT h,XO];rfl
def jB(D:cP)(l:cP)(j:Nat):Int:=(l.take j).foldl (λh a=>if D.getD a.toNat 0>D.getD h.toNat 0 then a else h) (l.headD 0)
theorem EZ(D l:cP)(h:j<l.length):jB D l (j+1)=if D.getD l[j].toNat 0>D.getD (jB D l j).toNat 0 then l[j]else jB D l j:=by unfold jB;rw[AI h,XN];rfl
theorem yK(D:cP)(hl:l≠[])(j:Nat):jB D l j∈l:=by
 have q:∀(k:cP)(h0:Int),(∀a∈k,a∈l)->h0∈l->k.foldl (λh a=>if D.getD a.toNat 0>D.getD h.toNat 0 then a else h) h0∈l:=by
  intro k;induction k with
  |nil=>exact λh0 _ h=>h
  | cons a k ih=>
    intro h0 hk hh;rw[W5];refine ih _ (λb hb=>hk b (by simp[hb])) ?_;split
    .exact hk a Zm
    exact hh
 unfold jB;refine q _ _ (λa ha=>X0 ha) ?_;cases l with
 |nil=>exact absurd O hl
 |cons x l=>simp
def hpL(D:cP)(S:ZN):cP:=S.aU.map λr=>jB D r.2 r.2.length
theorem QE(D:cP)(S:ZN):(hpL D S).length=S.aU.length:=by simp[hpL]
def hsT(n:Nat)(H:cP)(k:Nat):vm:=(upZ n).map (xh H k)
theorem eG(n:Nat)(H:cP)(k:Nat):(hsT n H k).length=n:=by simp[hsT,bt]
theorem IL(n:Nat)(H:cP)(k:Nat)(h:i<n):(hsT n H k)[i]'(by rw[eG];exact h)=xh H k i:=by simp[hsT,upZ]
theorem DG(n:Nat)(H:cP):hsT n H 0=List.replicate n []:=by
 apply WU
 .simp[eG]
 .intro i h1 h2;rw[List.getElem_replicate,IL n H 0 (by rwa [eG]at h1)];rfl
theorem Mx(s:k<H.length)(t:U<n)(e:H[k]=(U:Int)):hsT n H (k+1)=(hsT n H k).set U ((hsT n H k)[U]'(by rw[eG];exact t)++[(k:Int)]):=by
 have q:H.getD k 0=H[k]:=by simp[List.getD,s]
 apply WU
 .simp[eG]
 grind[eG,IL,zM]
theorem UA(n:Nat)(H:cP)(k:Nat)(h:U<(lsP (hsT n H k)).length):((lsP (hsT n H k))[U]).length<=k:=by
 have q:U<(hsT n H k).length:=by rwa [eV]at h
 have e:(lsP (hsT n H k))[U]=(hsT n H k)[U].map λi=>PV.int .i64 i:=by simp[lsP]
 rw[e,IS,IL n H k (by rwa [eG]at q)];exact p9 H k _
end
section
open Mk
theorem Ep{G:Zz}(q:Valid S)(h:IsG S G):GOk G:=by have s:G=gr S:=Ek q h;subst s;have t:=q.n2;have e:=Ij q;exact⟨by rw[lj];omega,by rw[e];exact me S,by rw[e,lj];intro a b h;have:=(oF q h.2).2;omega⟩
theorem CX(n:Nat)(q:n<=63):InB n (l6 n):=λi hi=>by rw[kY Zi,Ws]at hi;exact hi
structure LInv(G:Zz)(most:Nat)(L:cP)(rest:ZO):Prop where
 inb:InB G.length rest
 wid:widV G rest<=most
 len:L.length+dV rest=G.length
 lst:L++leastF G most (dV rest) rest=leastL G
 nd:L.Nodup
 mem:∀x∈L,∃a:Nat,a<G.length/\x=(a:Int)/\rest.getLsbD a=YL
 cov:∀a,a<G.length->(a:Int)∈L\/rest.getLsbD a=YK
theorem LInv.first{G:Zz}(t:GOk G):LInv G (widV G (l6 G.length)) [] (l6 G.length):=by have s:=t.n;have q:=Jm (n:=G.length) Zi;exact⟨CX _ Zi,BY _,by simp[q],by rw[q];rfl,Zm,Zm,λa ha=> .inr (by rw[kY Zi];simpa using ha)⟩
theorem LInv.next{G:Zz}(B:GOk G){rest:ZO}(h:LInv G most L rest)(E:k<G.length)(t:∀b,b<k->¬ (rest.getLsbD b=YK/\widV G (ZQ G rest b&&& ~~~(BitVec.twoPow 64 b))<=most))
  (s:rest.getLsbD k=YK) (u:widV G (ZQ G rest k&&& ~~~(BitVec.twoPow 64 k))<=most):LInv G most (L++[(k:Int)]) (rest&&& ~~~(BitVec.twoPow 64 k)):=by
 have z:=pX s;have q:(List.range G.length).find? (λa=>rest.getLsbD a&&decide (widV G (ZQ G rest a&&& ~~~(BitVec.twoPow 64 a))<=most))=WB k:=by
  rw[List.find?_range_eq_some];refine⟨by rw[s];simpa using u,by simpa using E,λj hj=>?_⟩;have:=t j hj;cases e:rest.getLsbD j with
  |false=>rfl
  |true=>simp;exact Nat.lt_of_not_le λh=>this ⟨e,h⟩
 refine⟨h.inb.diff k,Rv B h.inb s h.wid u,by have:=h.len;simp;omega,?_,?_,λx hx=>?_,λa ha=>?_⟩
 .rw[<-h.lst,<-z];simp only[leastF,q,XO,YE]
 .rw[XL];refine⟨h.nd,Zm,λx hx y hy e=>?_⟩;rw[VH]at hy;subst hy e;obtain⟨a,_,e,hr⟩:=h.mem _ hx;have:k=a:=Zi;subst this;rw[s]at hr;cases hr
 .rcases We.1 hx with hx|hx
  .obtain⟨a,ha,e,hr⟩:=h.mem x hx;exact⟨a,ha,e,by rw[c7,hr];rfl⟩
  grind
 rcases h.cov a ha with h3|h3
 .exact .inl (Y5 _ h3)
 grind
theorem LInv.last{G:Zz}(h:LInv G most L 0#64):L=leastL G/\L.Perm (upZ G.length):=by
 have s:dV 0#64=0:=by unfold dV;simp
 have q:=h.lst;rw[s]at q;simp only[leastF,W7]at q;refine⟨q,dK h.nd (cX _) λx=>?_⟩;rw[bR];constructor
 .intro hx;obtain⟨a,ha,e,_⟩:=h.mem x hx;exact⟨a,ha,e⟩
 rintro⟨a,ha,rfl⟩;rcases h.cov a ha with h2|h2
 .exact h2
 simp at h2
theorem yZ(S:ZN)(hS:SB S)(hV:Valid S):ZK prog 53 [fp S] (λv=>∃G,IsG S G/\v=al (leastL G)/\(leastL G).Perm (upZ G.length)):=by
 refine ZC func53 O ntmps53 λ_ _ _ _=>?_
 have hn12:=hV.n2;refine Z2 O<|Z1 O<|RL.call O (cT call109 (nP S hS hV) O ?_);rintro _ ⟨G,rfl,hIG⟩;have hGl:=hIG.len;have E:=Ep hV hIG;have V:=AY G E 64 (l6 G.length) (pI _) (CX _ Zi) [] (by intro p hp;cases hp);refine Rs O (cY 1 O)<|Y3 O<|Z2 O<|Rs O (aa call110 (xw G Zi) O)<|A1 O<|Z2 O<|RL.call O (iD [1] 3 call111 V O O O O ⟨O,Zp⟩ Zk O ?_);rintro _ _ ⟨M0,hM0,rfl,rfl⟩;refine A1 O<|Z1 O<|Vm (Vs 6 3 1 3 O O)<|Gz O (st:=λZq:cP×ZO×List (ZO×Nat)=>([(3,WC),(4,WB (.pv (cx Zq.2.1))),(5,WC),(6,WB (.bz 3 1 Zq.1.length))],[(1,WB (L1 Zq.2.2)),(2,WC),(3,WB (.bD 3 (aI Zq.1)))])) 4
  (I:=λZq=>LInv G (widV G (l6 G.length)) Zq.1 Zq.2.1/\vB G Zq.2.2) (μ:=λZq=>dV Zq.2.1) (x0:=([],l6 G.length,M0)) (YS O) (⟨LInv.first E,hM0⟩) ?_
 rintro⟨L,rest,M1⟩ ⟨hI,hM1⟩;try simp only at hI hM1 ⊢
 refine Z1 O<|Rs O (wh (Y:=0#64) O O)<|Gp O (λu=>?_) (λu=>?_)
 .obtain⟨a0,ha0,hra0,hwa0⟩:=JB E hI.inb (PQ u) hI.wid;have hLl:=hI.len;have hsl:(aI L).length=L.length*1:=Zm;refine Vl<|Z4 O<|Gz O (st:=λq:Nat×List (ZO×Nat)=>([(3,WC),(4,WC),(5,WC),(6,WC),(22,WC),(23,WB (ZI q.1))],[(1,WB (L1 q.2)),(2,WC),(3,WC)])) 4
   (I:=λq=>q.1<=a0/\vB G q.2/\∀b,b<q.1->¬ (rest.getLsbD b=YK/\widV G (ZQ G rest b&&& ~~~(BitVec.twoPow 64 b))<=widV G (l6 G.length))) (μ:=λq=>G.length-q.1) (x0:=(0,M1)) (YS O) (⟨sh _,hM1,λb hb=>absurd hb (W9 _)⟩) ?_
  rintro⟨k,M2⟩ ⟨hk,hM2,hno⟩;try simp only at hk hM2 hno ⊢
  refine Z1 O<|Gp O (λz=>?_) (λz=>absurd z Zi);have W:k<G.length:=Zi;have s:=rA rest k Zi;have M:=jI k Zi;have X:=xx G Zi rest k Zi;refine Vl<|Z2 O ?_;by_cases hb:rest.getLsbD k=YK
  .rw[hb]at s;have B:=ve E rest hb;have Z:InB G.length (ZQ G rest k&&& ~~~(BitVec.twoPow 64 k)):=InB.diff (λi hi=>hI.inb i (B.1.sub i hi)) k;have ab:=AY G E 64 _ (pI _) Z M2 hM2;have ac:=λh2=>hI.next E W hno hb h2
   refine Ge O follows [0,1,2,3,4,5,6,7,8,9,10,11,12,14,13,15,16] Zj<|Dr 2 O<|YM O (λτ h=>aa call112 s (h.aE O))<|Dr 6 O<|Dg [] O (λτ h=>aa call113 X (h.aE O)) O Zj<|D1 O O<|Dg [] O (λτ h=>aa call114 M (h.aE O)) O Zj<|Dg [] O (λτ h=>dN (Ee h 0 O) (Ee h 1 O)) O Zj<|D1 O O<|DL.relG (RO [1] 4 0 (QW G (widV G (ZQ G rest k&&& ~~~(BitVec.twoPow 64 k))))) [1] [] [1] O O O O (λτ h=>Tu [1] 4 call111 ab (h.args.trans O) O O O ⟨Eo h 0 O,Zp⟩ Zk O) O Zj Zj Zj ?_;rintro _ ⟨_,_,⟨M3,hM3,rfl,rfl⟩,rfl⟩ _ _;refine Dr 2 O ⟨Zj,Gp O (λt=>?_) (λt=>?_)⟩
   .exact Gr O<|Ar 5 O<|Z2 O<|Rs O (aa call114 M O)<|Rs O (dN O O)<|A1 O<|Gx O<|⟨(L++[(k:Int)],rest&&& ~~~(BitVec.twoPow 64 k),M3),Vo [0,1,2,5] ⟨O,O,O,by simp only[Hb,VV];rfl,Zp⟩ ⟨VT (b:=WB (L1 M3)) O O,O,ah (λc=>WB (Ob.bD 3 c)) (jW L k).symm,Zp⟩ O O Zk O,⟨ac Zi,hM3⟩,by have:=pX hb;simp only;omega⟩
   exact Vl<|Z2 O<|⟨(k+1,M3),YS O,⟨by simp only;by_cases e:k=a0;subst e;exact absurd hwa0 Zi;omega,hM3,λb hb2=>by rcases V3.1 hb2 with h1|rfl;exact hno b h1;exact λh=>by have:=h.2;omega⟩,Zo⟩
  have hb':rest.getLsbD k=YL:=by simpa using hb
  rw[hb']at s;refine VC 17 O<|Dr 2 O<|YM O (λτ h=>aa call112 s (h.aE O))<|Dr 14 O ⟨Zj,Gc O (λt=>absurd t Zk) (λt=>?_)⟩;exact Vl<|Z2 O<|⟨(k+1,M2),YS O,⟨by simp only;by_cases e:k=a0;subst e;exact absurd hra0 hb;omega,hM2,λb hb2=>by rcases V3.1 hb2 with h1|rfl;exact hno b h1;exact λh=>hb h.1⟩,Zo⟩
 have hz:rest=0#64:=V5 u;subst hz;obtain⟨hLe,hperm⟩:=hI.last;exact Gx O<|Vm (Vq 3 O O)<|Z2 O<|YR O ⟨G,hIG,by rw[<-hLe];rfl,by rw[<-hLe];exact hperm⟩
noncomputable def lstL(S:ZN):cP:=leastL (gr S)
theorem oy(S:ZN)(hS:SB S)(s:Valid S):(lstL S).Perm (upZ S.aj.length)/\ZK prog 53 [fp S] (· =al (lstL S)):=by
 have h:=yZ S hS s;have z:∀{v:PV},(∃G,IsG S G/\v=al (leastL G)/\(leastL G).Perm (upZ G.length))->v=al (lstL S)/\(lstL S).Perm (upZ S.aj.length):=fun{v} ⟨G,t,e,hp⟩=>by
  have:=Ek s t;subst this;rw[lj]at hp;exact⟨e,hp⟩
 refine⟨?_,h.mono λv hv=>(z hv).1⟩;have t:IsG S (gr S):=⟨lj S,λa ha b=>yV s (by rwa [lj]at ha) b⟩;have q:LInv (gr S) (widV (gr S) (l6 (gr S).length)) [] (l6 (gr S).length):=LInv.first (Ep s t);have B:∀(k:Nat)(L:cP)(rest:ZO),dV rest=k->LInv (gr S) (widV (gr S) (l6 (gr S).length)) L rest->(leastL (gr S)).Perm (upZ (gr S).length):=by
  intro k;induction k with
  | zero=>
    intro L rest hk q;have I:rest=0#64:=by apply XZ;intro i _;rw[vF hk i];simp
    subst I;have:=q.last;rw[<-this.1];exact this.2
  | succ k ih=>
    intro L rest hk q;have E:∃i,rest.getLsbD i=YK:=V5 λM=>by
     have:dV rest=0:=by unfold dV;rw[List.countP_eq_zero];intro i _ hi;exact M ⟨i,hi⟩
     omega
    obtain⟨a,ha,h1,h2⟩:=JB (Ep s t) q.inb E q.wid;obtain⟨b,hb⟩:∃b,(List.range (gr S).length).find? (λa=>rest.getLsbD a&&decide (widV (gr S) (ZQ (gr S) rest a&&& ~~~(BitVec.twoPow 64 a))<=widV (gr S) (l6 (gr S).length)))=WB b:=by
     cases hf:(List.range (gr S).length).find? (λa=>rest.getLsbD a&&decide (widV (gr S) (ZQ (gr S) rest a&&& ~~~(BitVec.twoPow 64 a))<=widV (gr S) (l6 (gr S).length)))with
     |some b=>exact⟨b,O⟩
     | none=>
       have:=List.find?_eq_none.1 hf a (Wi.2 ha);simp[h1,h2]at this
    have u:=hb;rw[List.find?_range_eq_some]at u;obtain⟨hb3,hb4,hb5⟩:=u;rw[aJ,Ws]at hb3;refine ih (L++[(b:Int)]) (rest&&& ~~~(BitVec.twoPow 64 b)) (by have:=pX hb3.1;omega) (q.next (Ep s t) (by simpa using hb4) (λj hj h=>?_) hb3.1 hb3.2);have:=hb5 j hj;simp[h.1,h.2]at this
 have:=B _ [] _ O q;rw[lj]at this;exact this
end
noncomputable section
open Mk Jn Mm
abbrev ZV(a:ZN)(b:List ZO):List (Nat×Ob):=[(0,oZ a),(2,.mix 257 [.pv nS,.pv nS,.pv nS,.pv nS]),(3,.mix 205 [.pv (cS b)]),(5,.cells 22 (List.replicate b.length nS)),(6,.cells 22 (List.replicate b.length nS)),(7,.mix 257 [.bJ 4 1 (b.length+1),.bJ 5 1 b.length,.bJ 6 1 b.length,.pv nS])]
abbrev ZW(a:List (List Int))(b:List Int)(c:Nat)(d:List ZO)(e f:List Int):List (Nat×Ob):=[(2,.mix 257 [.pv nS,.pv nS,.pv nS,.pv nS]),(5,.cells 22 (a.map al)),(7,.mix 257 [.pv (cB (lsT b c)),.bJ 5 1 d.length,.bJ 6 1 d.length,.bz 8 1 e.length]),(8,.bD 3 (aI e)),(9,.cells 3 (aI f)),(10,.mix 22 [.bJ 9 1 d.length])]
abbrev ZX(a:List ZO)(b:List Int)(c:Int)(d:ZN):St:=ZT [(2,.ptr 0 0),(4,.ptr 2 0),(5,.ptr 3 0),(6,ZI a.length),(7,.ptr 7 0),(32,.pv (al b)),(33,ZI b.length),(34,ZI c)] (ZV d a) 8
abbrev Z6:Nat×Ob:=(2,.mix 257 [.pv nS,.pv nS,.pv nS,.pv nS])
abbrev Z8(a:List ZO):List (Nat×V):=[(2,.ptr 0 0),(4,.ptr 2 0),(5,.ptr 3 0),(6,ZI a.length),(7,.ptr 7 0)]
abbrev aaa(a:List Int)(b:Nat)(c:List ZO)(d:List Int):Nat×Ob:=(7,.mix 257 [.pv (cB (lsT a b)),.bJ 5 1 c.length,.bJ 6 1 c.length,.bz 8 1 d.length])
end
section
open Mk Jn
theorem Bi    {nw:Nat} (q:U<ls.length) (x:PV) (s:σ.ob nw=WB (.bD T (ls[U]++[x]))) (t:∀ j,j<ls.length->j≠U->σ.ob (j+1000)=WB (.bD T (ls.getD j []))):
  ∀j (h:j<(ls.set U (ls[U]++[x])).length),σ.ob (rnF U nw (j+1000))=WB (.bD T ((ls.set U (ls[U]++[x]))[j])):=by grind[VN,Cq,en,List.getElem_set_ne,List.getD]
theorem wF{A:Nat}{TA:TypeId}{cells:nR}(q:A<1000)(h:j<ls.length):(ovl σ A TA T cells ls).ob (j+1000)=WB (.bD T (ls.getD j [])):=by rw[dr q h];simp[List.getD,h]
theorem Cj{G:Zz}(q:Valid S)(s:IsG S G){a:Int}(h:gF S a (i:Int)=YK):i<G.length:=by unfold gF at h;obtain⟨r,hr,h2⟩:=Wv.1 h;simp only[aJ,VJ]at h2;have:=(q.rng r hr _ h2.2).2;rw[s.len];omega
theorem wy{G:Zz}(s:Valid S)(q:IsG S G)(P:cP)(t:P.length=G.length):∀(k:Nat)(v:Nat),v<G.length->InB G.length (jC P G k v)
 | 0,v,hv=>λi hi=>by
   unfold jC at hi;rw[Wh,q.bit v hv i,aJ]at hi;exact Cj s q hi.2
 | k+1,v,hv=>by
   unfold jC;refine vZ _ _ (λi hi=>?_) λc hc=>?_
   .rw[Wh,q.bit v hv i,aJ]at hi;exact Cj s q hi.2
   obtain⟨m,hm,rfl,_⟩:=bz.1 hc;exact wy s q P t k m Zi
theorem I9(n:Nat)(W:n<=12)(X:Valid S)(G:Zz)(Y:IsG S G)(s:G.length=n)(P:cP)(Z:UpOk P)(aa:P.length=n)(chs:vm)(ac:chs.length=n+1)(B:∀v (h:v<n),chs[v]'Zi=aB P v)(hs:na):∀(k v:Nat)(_:v<n)(_:n<=k+(bU P v).length+1)(ab:ZO)(L D:cP)(K:vm),D.length=n->K.length=n->L.length+(lG P k v).length<=1000->
  ZS prog 259 7 2 (layA G v ab) (Sx n G chs 9003 L D K hs) (λr ob'=>r= .pv (cx (jC P G k v))/\ob'=au (Sx n G chs 1 (L++lG P k v) (bT D (zW P k v ab)) (bT K (k8 P G n k v ab)) hs)):=by
 have u:∀v (h:v<G.length),G.getD v 0#64=G[v]:=λv h=>by simp[List.getD,h]
 have t:∀v (h:v<G.length),InB n G[v]:=λv h=>by
  have:=wy X Y P Zi 0 v h;rw[jC,Wh,u v h,s]at this;exact this
 have E:∀v,(aB P v).length<=64:=λv=>OF (Wx ..) (by rw[bt];omega)
 intro k;induction k with
 | zero=>
   intro v hv hf ab L D K hD hK hL;have I:aB P v=[]:=yj Z Zi Zi;have M:=tZ n W G s chs Zi v hv Zi [] (by rw[B v hv,I]) Zm Zm ab (λ_=>0#64) (λ_=>[]) (λ_=>[]) (λ_=>[]) (t v Zi) Zm hs Zm L D K hD hK (by simp[lG]at hL ⊢; omega);have V:jC P G 0 (v:Int)=G[v]'Zi:=by rw[jC,Wh,u v Zi]
   rw[lG,zW,k8,V,Wh];exact M
 | succ k ih=>
   intro v hv hf ab L D K hD hK hL;have q:∀c∈aB P v,∃m:Nat,m<n/\c=(m:Int)/\P.getD m 0=(v:Int):=λc hc=>by
    obtain⟨m,hm,e,hp⟩:=bz.1 hc;exact⟨m,Zi,e,hp⟩
   have M:=tZ n W G s chs Zi v hv Zi (aB P v) (B v hv) (E v) (λc hc=>by obtain⟨m,_,e,_⟩:=q c hc;exact⟨m,e⟩) ab (jC P G k) (lG P k) (λc=>zW P k c (ab|||BitVec.twoPow 64 v)) (λc=>k8 P G n k c (ab|||BitVec.twoPow 64 v)) (t v Zi) (λc hc=>by
     obtain⟨m,hm,rfl,_⟩:=q c hc;have:=wy X Y P Zi k m Zi;rwa [s]at this) hs (λc hc L' D' K' hD' hK' hL'=>by
     obtain⟨m,hm,rfl,hp⟩:=q c hc;exact ih m hm (by rw[dE Z Zi Zi hp,VI];omega) _ L' D' K' hD' hK' hL') L D K hD hK (by unfold lG at hL;simp only[VI]at hL;omega)
   have V:jC P G (k+1) (v:Int)=(aB P v).foldl (λz c=>z|||jC P G k c) (G[v]'Zi):=by rw[jC,Wh,u v Zi]
   rw[lG,zW,k8,V,iT,Wh];exact M
theorem DO{l:Zx}{os:Zy}(s:l.all (λp=>p.2.all λi=>Nat.blt i 1000)=YK)(u:os.all (λp=>Nat.blt p.1 1000&&p.2.all λi=>Nat.blt i 1000)=YK):(∀t,((ZT l os k).sl t).all (λi=>Nat.blt i 1000)=YK)/\∀i o,(ZT l os k).ob i=WB o->i<1000/\o.all (λi=>Nat.blt i 1000)=YK:=by
 constructor
 .intro t;show(look l t).all _=YK;clear u;induction l with
  |nil=>rfl
  | cons p l ih=>
    simp only[Xi,aJ]at s;obtain⟨d,v⟩:=p;simp only[look];cases Nat.beq t d with
    |true=>exact s.1
    |false=>exact ih s.2
 .intro i o h;have q:=IN.1 u _ (dx h);rw[aJ]at q;exact⟨MZ q.1,q.2⟩
theorem vX(P:cP):∀(k:Nat)(v:Int),lG P k v=(bG P k v).vs
 |0,v=>by rw[lG,bG,Tr.vs,vsL]
 | k+1,v=>by
   rw[lG,bG,Tr.vs,fF,YA];rw[show lG P k=λc=>(bG P k c).vs from funext (vX P k)]
theorem wc:(aB P (-1)).flatMap (lG P P.length)=dS P:=by rw[<-yX,fF,YA,show lG P P.length=λc=>(bG P P.length c).vs from funext (vX P P.length)]
def oG(S:ZN)(P:cP)(G:Zz):VD where
 chs:=lsT P P.length
 kes:=bT (List.replicate G.length []) ((aB P (-1)).flatMap λc=>k8 P G G.length P.length c 0#64)
 hos:=hsT G.length (hpL (bT (List.replicate G.length 0) ((aB P (-1)).flatMap λc=>zW P P.length c 0#64)) S) S.aU.length
 wa:=dS P
abbrev ij(D:VD):PV:= .agg [cB D.chs,cB D.kes,cB D.hos,al D.wa]
noncomputable section
open Mk Jn Mm
abbrev aag(a:VD):Nat×Ob:=(9001,.mp [.int .i64 (-1)] [ij a])
end
theorem QA{G:Zz}{M CS D2:cP}{K2:vm}(s:k=P.length)(t:i=S.aU.length)(X:hpL D2 S=H)(Y:M=CS.flatMap (lG P P.length))(q:aB P (-1)=CS)(u:D2=bT (List.replicate G.length 0) (CS.flatMap λc=>zW P P.length c 0#64))
  (z:K2=bT (List.replicate G.length []) (CS.flatMap λc=>k8 P G G.length P.length c 0#64)) (B:K2.length=G.length):PV.agg [cB (lsT P k),.sl WC G.length (K2.map al),.sl WC G.length ((hsT G.length H i).map al),al M]=ij (oG S P G):=by
 have E:(oG S P G).kes=K2:=by rw[z,<-q];rfl
 have I:(oG S P G).wa=M:=by rw[Y,<-q,wc];rfl
 have V:(oG S P G).hos=hsT G.length H i:=by rw[<-X,t,u,<-q];rfl
 have W:(oG S P G).chs=lsT P k:=by rw[s];rfl
 unfold ij;rw[E,I,V,W];unfold cB;rw[B,eG]
theorem Up(n:Nat):PV.fgL (List.replicate n nS)=(List.replicate n ([]:cP)).map al:=by
 induction n with
 |zero=>rfl
 |succ n ih=>rw[List.replicate_succ,List.replicate_succ,PV.fgL,ih,ed];rfl
theorem Oh(S:ZN)(hS:SB S)(P:cP)(hO:OrdOk S P):ZK prog 219 [fp S,l7 P] (λv=>∃G,IsG S G/\v=ij (oG S P G)):=by
 refine ZD func219 O ntmps219 λ_ _ _ _=>?_
 have hV:=hO.val;have hP:=hO.jv;have hPl:=hO.len;have hn12:=hV.n2;refine Z3 O<|Z1 O<|RL.call O (cT call109 (nP S hS hV) O ?_);rintro _ ⟨G,rfl,hG⟩;have hGl:=hG.len;refine Y2 O<|Z3 O<|VC 10 O<|Dr 10 O ⟨Zj,Wk [(2,.ptr 0 0),(3,.ptr 1 0),(4,.ptr 2 0),(5,.ptr 3 0),(6,ZI G.length),(7,.ptr 7 0)] [(0,oZ S),(1,.mix 32 [.pv (al P)]),Z6,(3,.mix 205 [.pv (cS G)]),(4,.cells 22 (List.replicate (G.length+1) nS)),(5,.cells 22 (List.replicate G.length nS)),(6,.cells 22 (List.replicate G.length nS)),(7,.mix 257 [.bJ 4 1 (G.length+1),.bJ 5 1 G.length,.bJ 6 1 G.length,.pv nS])] 8 (aS O) ⟨O,O,O,O,ah (λc=>WB (Ob.cells 22 c)) ((ct nS ((G.length+1)*1)).trans (by rw[VY])),ah (λc=>WB (Ob.cells 22 c)) ((ct nS (G.length*1)).trans (by rw[VY])),ah (λc=>WB (Ob.cells 22 c)) ((ct nS (G.length*1)).trans (by rw[VY])),O,Zp⟩ O O<|Vm (St.jN 4 O)<|Vm (St.H2 (A:=4) (TA:=22) 3 (G.length+1) (ah (λc=>WB (Ob.mix 22 c)) Zm) Zk Zi (λi h1 h2=>KT Zk h1 h2))<|Z4 O ?_⟩;refine Gl O (st:=λZq:Nat=>ovl (ZX G P Zq S) 4 22 3 (chV (lsP (lsT P Zq))) (lsP (lsT P Zq)))
  (I:=λZq=>Zq<=P.length) (μ:=λZq=>P.length-Zq) (x0:=0) (St.ia 1000 999 (aT O) (aP Zj) (ah (λc=>WB (Ob.mix 22 c)) (by rw[jq 999 (by rw[eV,dq];omega),Ed,hPl,hGl];unfold lsP;rw[List.map_replicate];rfl)) (λj hj=>by rw[eV,dq]at hj;rw[en Zi];refine(dr (A:=4) (TA:=22) (cells:=chV (List.replicate (G.length+1) [])) (ls:=List.replicate (G.length+1) []) Zk (by rw[Xy];omega)).trans ?_;simp[Ed,lsP]) O O Zk Zk Zk Zk (by rw[eV,dq];omega)) (sh _) ?_
 rintro k hk;refine Z1 O<|Gp O (λhc35=>?_) (λhc35=>?_)
 .have hlt:k<P.length:=Zi;have hpn:=aU hlt;have hpv:=bo hlt;have hpr:=hP.rng _ (ak hlt);have E:(lsP (lsT P k)).length=G.length+1:=by rw[eV,dq];omega
  have hlb:=λU (h:U<(lsP (lsT P k)).length)=>TP P k h
  generalize hls:lsP (lsT P k)=ls at*;refine Vl<|Z2 O<|A2 O Zl ?_;refine Y2 O<|Z2 O ?_;refine Gp O (λhc40=>?_) (λhc40=>?_)
  .have hm1:P[k]= -1:=Zi;have s:G.length<ls.length:=Zi;have X:lsP (lsT P (k+1))=ls.set (G.length) (ls[G.length]++[.int .i64 k]):=by have h5:G.length<(lsT P k).length:=(by rw[dq];omega);rw[D7 hO.rng hlt (G.length) (.inl ⟨hm1,Zi⟩),Ak _ _ h5];subst hls;rfl
   have Y:=HI s;have hlbU:=hlb _ s;have u:(G.length)*1+1<=(chV ls).length:=by rw[j7];omega
   refine Z2 O<|VC 13 O<|Dr 6 O<|YQ [_] O (λτ h=>ag (G.length) aaz yM (Ee h 0 O) (Eo h 0 O) (Ee h 1 O) O Zi)<|YQ [_] O (λτ h=>gN ⟨_,aal,O⟩ (Ee h 0 O) (Eo h 0 O) Y)<|Dr 2 O<|YQ [(G.length)+1000,8] O (λτ h=>cU 9 xg (Ee h 0 O) ((h.o 0 _ O).trans (VT (b:=(ovl (ZX G P k S) 4 22 3 (chV (ls)) (ls)).ob (G.length+1000)) Zj (dr Zk s))) (VY _).symm (Ee h 1 O) (Eo h 1 O) O O Zi (h.n 0 _ O))<|YQ [_] O (λτ h=>ag (G.length) aaz yM (Ee h 0 O) (Eo h 0 O) (Ee h 1 O) O Zi)<|DL.step (d:=WC) [_] O O O (λτ h=>mY yM (Ee h 0 O) (Eo h 0 O) (Ee h 1 O) O u O O) O Zj ⟨Zj,Z2 O<|⟨(k+1),(by rw[X];exact St.ia (G.length) 9 (aT O) (aP Zj) (VT (b:=WB (.mix 22 (k7 (chV ls) ((G.length)*1) [.bz 9 1 (ls[G.length].length+1)]))) Zj (ah (λc=>WB (Ob.mix 22 c)) ((wX _ _ _ (by rw[j7];omega)).trans (rQ s 9 _).symm))) (Bi s _ Zj (λj hj hne=>VT (b:=bif Nat.beq (j+1000) (G.length+1000)then(WC:va)else(ovl (ZX G P k S) 4 22 3 (chV (ls)) (ls)).ob (j+1000)) Zj (by rw[IC Zi,Wo];exact wF Zk hj))) O O Zk Zk Zk Zi (by rw[VN];omega)),Zi,Zi⟩⟩
  obtain⟨a,ha⟩:=VG (show 0<=P[k] by omega);have s:a<ls.length:=Zi;have X:lsP (lsT P (k+1))=ls.set (a) (ls[a]++[.int .i64 k]):=by have h5:a<(lsT P k).length:=(by rw[dq];omega);rw[D7 hO.rng hlt (a) (.inr ⟨ha,Zi⟩),Ak _ _ h5];subst hls;rfl
  have Y:=HI s;have hlbU:=hlb _ s;have u:(a)*1+1<=(chV ls).length:=by rw[j7];omega
  refine Vl ?_;rw[ha];refine VC 13 O<|Dr 6 O<|YQ [_] O (λτ h=>ag (a) aaz yM (Ee h 0 O) (Eo h 0 O) (Ee h 1 O) O Zi)<|YQ [_] O (λτ h=>gN ⟨_,aal,O⟩ (Ee h 0 O) (Eo h 0 O) Y)<|Dr 2 O<|YQ [(a)+1000,8] O (λτ h=>cU 9 xg (Ee h 0 O) ((h.o 0 _ O).trans (VT (b:=(ovl (ZX G P k S) 4 22 3 (chV (ls)) (ls)).ob (a+1000)) Zj (dr Zk s))) (VY _).symm (Ee h 1 O) (Eo h 1 O) O O Zi (h.n 0 _ O))<|YQ [_] O (λτ h=>ag (a) aaz yM (Ee h 0 O) (Eo h 0 O) (Ee h 1 O) O Zi)<|DL.step (d:=WC) [_] O O O (λτ h=>mY yM (Ee h 0 O) (Eo h 0 O) (Ee h 1 O) O u O O) O Zj ⟨Zj,Z2 O<|⟨(k+1),(by rw[X];exact St.ia (a) 9 (aT O) (aP Zj) (VT (b:=WB (.mix 22 (k7 (chV ls) ((a)*1) [.bz 9 1 (ls[a].length+1)]))) Zj (ah (λc=>WB (Ob.mix 22 c)) ((wX _ _ _ (by rw[j7];omega)).trans (rQ s 9 _).symm))) (Bi s _ Zj (λj hj hne=>VT (b:=bif Nat.beq (j+1000) (a+1000)then(WC:va)else(ovl (ZX G P k S) 4 22 3 (chV (ls)) (ls)).ob (j+1000)) Zj (by rw[IC Zi,Wo];exact wF Zk hj))) O O Zk Zk Zk Zi (by rw[VN];omega)),Zi,Zi⟩⟩
 have hkP:k=P.length:=Zi;have E:(lsP (lsT P k)).length=G.length+1:=by rw[eV,dq];omega
 have hLl:(lsT P k).length=G.length+1:=by rw[dq];omega
 have hcp:chP (lsP (lsT P k))=((lsT P k).map al).map V.pv:=by rw[Hm,XX];rfl
 generalize hls:lsP (lsT P k)=ls at*;refine Vm (St.ia (l:=(Z8 G)) (os:=(ZV S G)) (k:=8) (A:=4) (TA:=22) (T:=3) (ls:=ls) 1000 999 (aT Zj) (aP Zj) (VT (b:=WB (.mix 22 (chV ls))) Zj (by rw[jq 999 Zi])) (λj hj=>by rw[en Zi];exact VT (b:=(ovl (ZX G P k S) 4 22 3 (chV (ls)) (ls)).ob (j+1000)) Zj (dr Zk hj)) O O Zk Zk Zk Zk Zi) ?_;have hsm:=DO (l:=(Z8 G)) (os:=(ZV S G)) (k:=8) O O;refine Vm (St.Io ls Zk Zi hsm.1 hsm.2)<|Vm (St.oP (id:=4) (cs:=(lsT P k).map al) O hcp)<|Vm (Vn (l:=(Z8 G)) (os:=(4,.cells 22 ((lsT P k).map al))::(ZV S G)) (k:=8) (aS Zj) (aO Zj) O O)<|Vm (St.cD 7 3 8 1 3 O O O)<|Vm (Vq 4 O O)<|Vm (St.PZ 7 O)<|Vm (St.Qc (id:=5) O)<|Wk (Z8 G) [(0,oZ S),Z6,(3,.mix 205 [.pv (cS G)]),(5,.cells 22 ((List.replicate G.length ([]:cP)).map al)),(6,.cells 22 (List.replicate G.length nS)),(7,.mix 257 [.pv (cB (lsT P k)),.bJ 5 1 G.length,.bJ 6 1 G.length,.bz 8 1 0]),(8,.bD 3 (aI []))] 9 (aS Zj) ⟨Zj,Zj,Zj,VT (b:=WB (.cells 22 (PV.fgL (List.replicate G.length nS)))) Zj (ah (λc=>WB (Ob.cells 22 c)) (Up _)),Zj,VT (b:=WB (.mix 257 [.pv (.sl WC (G.length+1) ((lsT P k).map al)),.bJ 5 1 G.length,.bJ 6 1 G.length,.bz 8 1 0])) Zj (ah (λq=>WB (Ob.mix 257 [.pv (.sl WC q ((lsT P k).map al)),.bJ 5 1 G.length,.bJ 6 1 G.length,.bz 8 1 0])) hLl.symm),Zj,Zp⟩ O O ?_;clear hls hcp E;have hCl:(aB P (-1)).length<=64:=OF (Wx ..) (by rw[bt];omega);have hCm:∀c∈aB P (-1),∃m:Nat,m<G.length/\c=(m:Int)/\P.getD m 0= -1:=λc hc=>by obtain⟨m,hm,e,hp⟩:=bz.1 hc;exact⟨m,Zi,e,hp⟩
 have hrl:G.length<(lsT P k).length:=Zi;have hrv:=kV hrl;have hrn:=kP hrl;have hroot:(lsT P k)[G.length]=aB P (-1):=by have h5:=qh P k;rw[hkP,qy]at h5;simp only[hkP,hGl,<-hPl];exact h5
 rw[hroot]at hrv;have hch:∀v (h:v<G.length),(lsT P k)[v]'Zi=aB P v:=λv h=>by have h5:=Cu P k (i:=v) Zi;rw[h5,hkP,qy]
 have hvis:=fun(m:Nat)(hm:m<G.length)(hr:P.getD m 0= -1)=>I9 G.length Zi hV G hG O P hP Zi (lsT P k) hLl hch (List.replicate G.length nS) P.length m hm Zi 0#64
 have hvl:((aB P (-1)).flatMap (lG P P.length)).length<=12:=by rw[wc,Kv hP];omega
 generalize hCS:aB P (-1)=CS at*;refine Gx O<|Z4 O<|Z1 O<|Vm (St.gR 3 O O)<|Z2 O<|Z3 O<|Rs O (ai G.length aaz yM O O O hrl hrn)<|Rs O (aC ⟨_,aal,O⟩ O hrv)<|Y2 O<|Gz O (st:=λt:Nat×cP×cP×vm=>([(2,WC),(4,WC),(7,WC),(10,WC),(11,WC),(62,WC),(63,WC),(64,WB (ZI t.1))],[(0,WC),(2,WC),(5,WB (.cells 22 (t.2.2.2.map al))),(6,WC),(7,WB (.mix 257 [.pv (cB ((lsT P k))),.bJ 5 1 G.length,.bJ 6 1 G.length,.bz 8 1 t.2.1.length])),(8,WB (.bD 3 (aI t.2.1))),(9,WB (.cells 3 (aI t.2.2.1))),(10,WC),(11,WC)])) 12
  (I:=λt=>(t.1<=CS.length/\t.2.1=(CS.take t.1).flatMap (lG P P.length))/\t.2.2.1=bT (List.replicate G.length 0) ((CS.take t.1).flatMap λc=>zW P P.length c 0#64)/\t.2.2.2=bT (List.replicate G.length []) ((CS.take t.1).flatMap λc=>k8 P G G.length P.length c 0#64)) (μ:=λt=>CS.length-t.1) (x0:=(0,[],List.replicate G.length 0,List.replicate G.length [])) (Vn (aS O) ⟨Zj,Zj,Zj,Zj,Zj,Zj,VT (b:=WB (.cells 3 (mkZ [.int .i64 0] (G.length*1)))) Zj (ah (λc=>WB (Ob.cells 3 c)) ((ct (.int .i64 0) (G.length*1)).trans (by rw[VY];show _=List.map _ (List.replicate _ _);rw[List.map_replicate]))),Zj,Zj,Zp⟩ O O) (⟨⟨sh _,O⟩,O,O⟩) ?_
 rintro⟨j,M,D2,K2⟩ ⟨⟨hj,hM⟩,hD2,hK2⟩;try simp only at hj hM hD2 hK2 ⊢
 refine Z1 O<|Gp O (λhc65=>?_) (λhc65=>?_)
 .have hlt:j<CS.length:=Zi;have hcm:=ak hlt;obtain⟨c,hcl,hc,hcr⟩:=hCm _ hcm;have hpv2:(aI CS)[j*1]? =WB (.int .i64 (c:Int)):=by rw[<-hc];simp[hlt]
  have hpn2:=aU hlt;have htf:=iZ hlt (lG P P.length);have htd:=iZ hlt (λc=>zW P P.length c 0#64);have htk:=iZ hlt (λc=>k8 P G G.length P.length c 0#64);have hfl:=Ce (lG P P.length) CS (j+1);rw[hc]at htf htd htk;have hgo:=hvis c hcl hcr M D2 K2 (by rw[hD2,dM,Xy]) (by rw[hK2,dM,Xy]) (by rw[htf,Hb]at hfl;rw[hM];omega);exact Vl<|Z1 O<|Rs O (aC ⟨_,aan,O⟩ O hpv2)<|A1 O<|Z2 O<|Rs O (fi (vs:=[ZI (c:Int),.pv (cx 0#64)]) [7,5,6,8,10,9,11] 12 call259 hgo O O O O O O ⟨Zj,Zj,Zj,Zj,Zj,Zj,Zj,Zp⟩ Zk O)<|Z2 O<|⟨(j+1,M++lG P P.length (c:Int),bT D2 (zW P P.length (c:Int) 0#64),bT K2 (k8 P G G.length P.length (c:Int) 0#64)),Vo [0,1,2,3,4,5,6,7,13,9,10,11] (aT O) (aP Zj) O O Zk O,⟨⟨Zo,by simp only;rw[htf,<-hM]⟩,by simp only;rw[htd,iT,<-hD2],by simp only;rw[htk,iT,<-hK2]⟩,Zo⟩
 rw[show CS.take j=CS from aG Zi]at hM hD2 hK2;have hDl:D2.length=G.length:=by rw[hD2,dM,Xy]
 have hKl:K2.length=G.length:=by rw[hK2,dM,Xy]
 have hIl:(aI D2).length=G.length:=by rw[IS,hDl]
 have hrl5:=hV.r2;have hrln:=hS.rl;have hHl:=QE D2 S;generalize hH:hpL D2 S=H at hHl;have hHr:∀i (h:i<S.aU.length),H[i]'Zi=jB D2 S.aU[i].2 S.aU[i].2.length:=λi h=>by subst hH;simp[hpL]
 refine Wk [(2,.ptr 0 0),(4,.ptr 2 0),(7,.ptr 7 0),(10,.ptr 10 0)] [(0,oZ S),Z6,(5,.cells 22 (K2.map al)),(6,.cells 22 (List.replicate G.length nS)),(aaa P k G M),(8,.bD 3 (aI M)),(9,.cells 3 (aI D2)),(10,.mix 22 [.bJ 9 1 G.length])] 12 (aS Zj) (aO Zj) O O<|Vm (St.jN 6 O)<|Vm (St.H2 (A:=6) (TA:=22) 3 G.length (ah (λc=>WB (Ob.mix 22 c)) Zm) Zk Zi (λi h1 h2=>KT Zk h1 h2))<|Gx O<|Z4 O ?_;refine Gl O (st:=λB:Nat=>ovl (ZT [(4,.ptr 2 0),(7,.ptr 7 0),(10,.ptr 10 0),(73,.pv (.sl WC S.aU.length (aZ S.aU))),(74,ZI S.aU.length),(75,ZI B)] (ZW K2 P k G M D2) 12) 6 22 3 (chV (lsP (hsT G.length H B))) (lsP (hsT G.length H B)))
  (I:=λB=>B<=S.aU.length) (μ:=λB=>S.aU.length-B) (x0:=0) (St.ia 1000 999 (aT O) (aP Zj) (ah (λc=>WB (Ob.mix 22 c)) (by rw[jq 999 (by rw[eV,eG];omega),DG];unfold lsP;rw[List.map_replicate];rfl)) (λj hj=>by rw[eV,eG]at hj;rw[en Zi];refine(dr (A:=6) (TA:=22) (cells:=chV (List.replicate G.length [])) (ls:=List.replicate G.length []) Zk (by rw[Xy];omega)).trans ?_;simp[DG,lsP]) O O Zk Zk Zk Zk (by rw[eV,eG];omega)) (sh _) ?_
 rintro i hi;refine Z1 O<|Gp O (λhc76=>?_) (λhc76=>?_)
 .have hli:i<S.aU.length:=Zi;have hrow:=eT hli;have hne:=iq hli;have hrk:=hrln _ (ak hli);have hrr:=hV.rng _ (ak hli);have Z:=hV.ne _ (ak hli);have hHi:=hHr i hli;have E:(lsP (hsT G.length H i)).length=G.length:=by rw[eV,eG]
  have hlb:=λU (h:U<(lsP (hsT G.length H i)).length)=>UA G.length H i h
  generalize S.aU[i]=rk at*;have hhm:=λj=>yK D2 Z j
  have aa:∀x∈rk.2,∃m:Nat,m<G.length/\x=(m:Int):=λx hx=>by obtain⟨m,e⟩:=VG (hrr x hx).1;exact⟨m,by have:=(hrr x hx).2;omega,e⟩
  obtain⟨U,hUn,hUe⟩:=aa _ (hhm rk.2.length);generalize hls:lsP (hsT G.length H i)=ls at*;have s:U<ls.length:=Zi;have X:lsP (hsT G.length H (i+1))=ls.set U (ls[U]++[.int .i64 i]):=by have h5:U<(hsT G.length H i).length:=(by rw[eG];exact hUn);rw[Mx Zi hUn (hHi.trans hUe),Ak _ _ h5];subst hls;rfl
  have Y:=HI s;have hlbU:=hlb _ s;have u:U*1+1<=(chV ls).length:=by rw[j7];omega
  have h0l:0<rk.2.length:=Ww.2 Z;have hq0:(aI rk.2)[0*1]? =WB (.int .i64 (jB D2 rk.2 0)):=by cases hc:rk.2 with|nil=>exact absurd hc Z|cons x l=>simp[jB]
  have hpn0:=aU h0l;refine Vl<|Z2 O<|A3 O Zl ?_;refine Y3 O<|Z2 O<|Rs O (ai 0 aal sz3 O O O h0l hpn0)<|Rs O (aC ⟨_,aan,O⟩ O hq0)<|A1 O<|Z4 O ?_;refine Gl O (st:=λW:Nat=>ovl (ZT [(4,.ptr 2 0),(7,.ptr 7 0),(10,.ptr 10 0),(14,ZI i),(16,ZI (jB D2 rk.2 W)),(73,.pv (.sl WC S.aU.length (aZ S.aU))),(74,ZI S.aU.length),(75,ZI i),(85,.pv (al rk.2)),(86,ZI rk.2.length),(87,ZI W)] (ZW K2 P k G M D2) 13) 6 22 3 (chV ls) (ls))
   (I:=λW=>W<=rk.2.length) (μ:=λW=>rk.2.length-W) (x0:=0) (St.ia 1000 999 (aT O) (aP Zj) (VT (b:=WB (.mix 22 (chV ls))) Zj (by rw[jq 999 Zi])) (λj2 hj2=>by rw[en Zi];exact VT (b:=(ovl (ZT [(4,.ptr 2 0),(7,.ptr 7 0),(10,.ptr 10 0),(73,.pv (.sl WC S.aU.length (aZ S.aU))),(74,ZI S.aU.length),(75,ZI i)] (ZW K2 P k G M D2) 12) 6 22 3 (chV (ls)) (ls)).ob (j2+1000)) Zj (dr Zk hj2)) O O Zk Zk Zk Zk Zi) (sh _) ?_
  rintro j3 hj3;refine Z1 O<|Gp O (λhc88=>?_) (λhc88=>?_)
  .have hl3:j3<rk.2.length:=Zi;obtain⟨a,hal,ha⟩:=aa _ (ak hl3);obtain⟨mh,hml,hmh⟩:=aa _ (hhm j3);have hpv3:(aI rk.2)[j3*1]? =WB (.int .i64 (a:Int)):=by rw[<-ha];simp[hl3]
   have hpn3:=aU hl3;have hDa:(aI D2)[a*1]? =WB (.int .i64 (D2.getD a 0)):=by simp[List.getD,hDl,hal]
   have hDm:(aI D2)[mh*1]? =WB (.int .i64 (D2.getD mh 0)):=by simp[List.getD,hDl,hml]
   have hhs:=EZ D2 rk.2 hl3;rw[ha,hmh,Wh,Wh]at hhs;refine Vl<|Z1 O<|Rs O (aC ⟨_,aan,O⟩ O hpv3)<|A1 O<|VC 9 O<|Dr 2 O<|YQ [_] O (λτ h=>ag a aal sz3 (Ee h 0 O) (Eo h 0 O) (Ee h 1 O) O Zi)<|YQ [_] O (λτ h=>aX ⟨_,aan,O⟩ (Ee h 0 O) (Eo h 0 O) hDa)<|Dr 2 O<|YQ [_] O (λτ h=>ag mh aal sz3 (Ee h 0 O) (Eo h 0 O) (Ee h 1 O) hmh Zi)<|YQ [_] O (λτ h=>aX ⟨_,aan,O⟩ (Ee h 0 O) (Eo h 0 O) hDm)<|D1 O O ⟨Zj,Gp O (λab=>?_) (λab=>?_)⟩
   .exact Z2 O<|Z2 O<|⟨(j3+1),St.ia 1000 999 ⟨O,O,O,O,ah (λz=>ZI z) (hhs.trans (IT ab)).symm,O,O,O,O,O,O,Zp⟩ (aP Zj) (VT (b:=WB (.mix 22 (chV ls))) Zj (by rw[jq 999 Zi])) (λj2 hj2=>by rw[en Zi];exact VT (b:=(ovl (ZT [(4,.ptr 2 0),(7,.ptr 7 0),(10,.ptr 10 0),(14,ZI i),(16,ZI (jB D2 rk.2 j3)),(73,.pv (.sl WC S.aU.length (aZ S.aU))),(74,ZI S.aU.length),(75,ZI i),(85,.pv (al rk.2)),(86,ZI rk.2.length),(87,ZI j3)] (ZW K2 P k G M D2) 13) 6 22 3 (chV ls) (ls)).ob (j2+1000)) Zj (dr Zk hj2)) O O Zk Zk Zk Zk Zi,Zi,Zi⟩
   exact Vl<|Z2 O<|⟨(j3+1),St.ia 1000 999 ⟨O,O,O,O,ah (λz=>ZI z) ((hhs.trans (AS ab)).trans hmh.symm).symm,O,O,O,O,O,O,Zp⟩ (aP Zj) (VT (b:=WB (.mix 22 (chV ls))) Zj (by rw[jq 999 Zi])) (λj2 hj2=>by rw[en Zi];exact VT (b:=(ovl (ZT [(4,.ptr 2 0),(7,.ptr 7 0),(10,.ptr 10 0),(14,ZI i),(16,ZI (jB D2 rk.2 j3)),(73,.pv (.sl WC S.aU.length (aZ S.aU))),(74,ZI S.aU.length),(75,ZI i),(85,.pv (al rk.2)),(86,ZI rk.2.length),(87,ZI j3)] (ZW K2 P k G M D2) 13) 6 22 3 (chV ls) (ls)).ob (j2+1000)) Zj (dr Zk hj2)) O O Zk Zk Zk Zk Zi,Zi,Zi⟩
  have hje:j3=rk.2.length:=Zi;rw[<-hje]at hUe;refine Gx O<|VC 13 O<|Dr 6 O<|YQ [_] O (λτ h=>ag U aaz yM (Ee h 0 O) (Eo h 0 O) (Ee h 1 O) hUe Zi)<|YQ [_] O (λτ h=>gN ⟨_,aal,O⟩ (Ee h 0 O) (Eo h 0 O) Y)<|Dr 2 O<|YQ [U+1000,13] O (λτ h=>cU 14 xg (Ee h 0 O) ((h.o 0 _ O).trans (VT (b:=(ovl (ZT [(4,.ptr 2 0),(7,.ptr 7 0),(10,.ptr 10 0),(14,ZI i),(16,ZI (jB D2 rk.2 j3)),(73,.pv (.sl WC S.aU.length (aZ S.aU))),(74,ZI S.aU.length),(75,ZI i),(85,.pv (al rk.2)),(86,ZI rk.2.length),(87,ZI j3)] (ZW K2 P k G M D2) 13) 6 22 3 (chV ls) (ls)).ob (U+1000)) Zj (dr Zk s))) (VY _).symm (Ee h 1 O) (Eo h 1 O) O O Zi (h.n 0 _ O))<|YQ [_] O (λτ h=>ag U aaz yM (Ee h 0 O) (Eo h 0 O) (Ee h 1 O) hUe Zi)<|DL.step (d:=WC) [_] O O O (λτ h=>mY yM (Ee h 0 O) (Eo h 0 O) (Ee h 1 O) O u O O) O Zj ⟨Zj,Z2 O<|⟨(i+1),(by rw[X];exact St.ia U 14 (aT O) (aP Zj) (VT (b:=WB (.mix 22 (k7 (chV ls) (U*1) [.bz 14 1 (ls[U].length+1)]))) Zj (ah (λc=>WB (Ob.mix 22 c)) ((wX _ _ _ (by rw[j7];omega)).trans (rQ s 14 _).symm))) (Bi s _ Zj (λj2 hj2 hne2=>VT (b:=bif Nat.beq (j2+1000) (U+1000)then(WC:va)else(ovl (ZT [(4,.ptr 2 0),(7,.ptr 7 0),(10,.ptr 10 0),(14,ZI i),(16,ZI (jB D2 rk.2 j3)),(73,.pv (.sl WC S.aU.length (aZ S.aU))),(74,ZI S.aU.length),(75,ZI i),(85,.pv (al rk.2)),(86,ZI rk.2.length),(87,ZI j3)] (ZW K2 P k G M D2) 13) 6 22 3 (chV ls) (ls)).ob (j2+1000)) Zj (by rw[IC Zi,Wo];exact wF Zk hj2))) O O Zk Zk Zk Zi (by rw[VN];omega)),Zi,Zi⟩⟩
 have hie:i=S.aU.length:=Zi;have E:(lsP (hsT G.length H i)).length=G.length:=by rw[eV,eG]
 have hcp2:chP (lsP (hsT G.length H i))=((hsT G.length H i).map al).map V.pv:=by rw[Hm,XX];rfl
 generalize hls:lsP (hsT G.length H i)=ls at*;refine Vm (St.ia (l:=[(4,.ptr 2 0),(7,.ptr 7 0)]) (os:=[Z6,(5,.cells 22 (K2.map al)),(aaa P k G M),(8,.bD 3 (aI M))]) (k:=12) (A:=6) (TA:=22) (T:=3) (ls:=ls) 1000 999 (aT Zj) (aP Zj) (VT (b:=WB (.mix 22 (chV ls))) Zj (by rw[jq 999 Zi])) (λj2 hj2=>by rw[en Zi];exact VT (b:=(ovl (ZT [(4,.ptr 2 0),(7,.ptr 7 0),(10,.ptr 10 0),(73,.pv (.sl WC S.aU.length (aZ S.aU))),(74,ZI S.aU.length),(75,ZI i)] (ZW K2 P k G M D2) 12) 6 22 3 (chV (ls)) (ls)).ob (j2+1000)) Zj (dr Zk hj2)) O O Zk Zk Zk Zk Zi) ?_;have hsm2:=DO (l:=[(4,.ptr 2 0),(7,.ptr 7 0)]) (os:=[Z6,(5,.cells 22 (K2.map al)),(aaa P k G M),(8,.bD 3 (aI M))]) (k:=12) O O;exact Vm (St.Io ls Zk Zi hsm2.1 hsm2.2)<|Vm (St.oP (id:=6) (cs:=(hsT G.length H i).map al) O hcp2)<|Wk [(4,.ptr 2 0),(7,.ptr 7 0)] [Z6,(5,.cells 22 (K2.map al)),(6,.cells 22 ((hsT G.length H i).map al)),(aaa P k G M),(8,.bD 3 (aI M))] 12 (aS Zj) (aO Zj) O O<|Vm (Vq 6 O O)<|Vm (Vq 5 O O)<|Vm (Vq 8 O O)<|Vm (St.PZ 7 O)<|Gx O<|Z2 O<|YR O ⟨⟨ar ⟨_,underlying257,O⟩ UC O O O,Zp⟩,G,hG,QA hkP hie hH hM hCS hD2 hK2 hKl⟩
noncomputable def planS(S:ZN):VD:=oG S (ordL S (lstL S)) (gr S)
theorem Uo(S:ZN)(hS:SB S)(q:OrdOk S (ordL S (lstL S))):ZK prog 219 [fp S,l7 (ordL S (lstL S))] (· =ij (planS S)):=
 (Oh S hS _ q).mono λv ⟨G,hG,e⟩=>by rw[e,Ek q.val hG];rfl
theorem TU(hS:SB S)(q:Valid S):OrdOk S (ordL S (lstL S)):=by have s:=(oy S hS q).1;exact(wj q s).ok q s
theorem Ag(l:cP)(hl:l.length<=1000000):ZK prog 216 [al l] (· =al l):=by
 refine ZK.fg2 (ZC func216 O ntmps216 λ_ _ _ _=>?_);refine Z1 O<|Z1 O<|RL.call O (tP aal O ?_);intro b hb;refine Gc O (λq=>?_) (λq=>?_)
 .have hl0:l=[]:=List.map_eq_nil_iff.1 (hb q);exact Z1 O<|YR O<|by rw[hl0];rfl
 refine Vl<|Gr O<|Rs O (lu 0 xg O)<|A1 O<|Rs O (gz 1 xg O O O (.inl ⟨WC,O⟩) Zm (λc hc=>by obtain⟨y,_,rfl⟩:=VS.1 hc;rfl) Zi O) ?_;exact A1 O<|Vm (Vq 1 O O)<|YR O<|show PV.sl WC (0+l.length) ([]++aI l)=_ by rw[Wm,WZ]
abbrev jnO(S:ZN)(T:Gk)(lp:cP)(pk pv:na):Zy:=[(big,oX S (.pv (dbP T)) (.pv (al lp)) 9001),(9001,.mp pk pv)]
abbrev Ts(D:VD):nR:=[.pv (cB D.chs),.pv (cB D.kes),.pv (cB D.hos),.pv (al D.wa)]
theorem nF:∀(a b:Zy)(i:Nat)(o:Ob),au a i=WB o->au (a++b) i=WB o
 |[],b,i,o,h=>by simp[au]at h
 | (d,v)::a,b,i,o,h=>by
   simp only[Wu,au]at h ⊢;cases hb:Nat.beq i d with
   |true=>rw[hb]at h;exact h
   |false=>rw[hb]at h;exact nF a b i o h
theorem LG(S:ZN)(hS:SB S)(B:Valid S)(T:Gk)(lp:cP)(E:lp.Perm (upZ S.aj.length))(D:VD)(t:ZK prog 219 [fp S,l7 (ordL S lp)] (· =ij D)):ZS prog 164 2 0 [.ptr big 0,ZI (-1)] (jnO S T lp [] []) (λv ob'=>v= .agg (Ts D)/\ob'=au (jnO S T lp [.int .i64 (-1)] [ij D])):=by
 refine ZF func164 O ntmps164 λ_ _ _ _=>?_
 have I:∀a∈lp,0<=a/\a<S.aj.length:=λa ha=>by obtain⟨m,hm,rfl⟩:=bR.1 (E.mem_iff.1 ha);omega
 have u:lp.length<=1000:=by rw[E.length_eq,bt];have:=B.n2;omega
 have z:=SU S hS B lp I u;generalize ordL S lp=Q at*;refine Z2 O<|VC 12 O<|Dr 5 O<|YQ [_] O (λτ h=>iy (zp:= .agg [.sl (WB YK) 0 [],.sl (WB YK) 0 [],.sl (WB YK) 0 [],.sl (WB YK) 0 []]) underlying141 aan (.inl ⟨9001,(Ee h 0 O),(Eo h 0 O)⟩) (Ee h 1 O) O QQ O (r:=WC) O O O)<|Dr 6 O ⟨Zj,Z2 O<|Gc O (λq=>?_) (λq=>absurd q Zm)⟩;refine Z4 O<|Rs O (aa call216 (Ag _ Zi) O)<|A1 O<|Z2 O<|Gp O (λs=>absurd s Zm) (λs=>?_);refine Vl<|VC 12 O<|Dr 9 O<|YM O (λτ h=>aa call220 z (h.aE O))<|YM O (λτ h=>aa call219 t (h.aE O))<|D1 O O ⟨Zj,VC 7 O<|Dr 6 O<|DL.step (d:=WC) [_] O O O (λτ h=>jQ underlying141 aan (Ee h 0 O) (Eo h 0 O) (Ee h 1 O) (Ee h 2 O) O (r:=WC) O O O) O Zj ?_⟩;refine⟨Zj,?_⟩;exact Z2 O<|Gt O<|⟨[(4,.ptr 1 0)],[(big,oX S (.pv (dbP T)) (.pv (al lp)) 9001),(aag D),(1,.mix 257 (Ts D))],[.agg (Ts D)],[(big,oX S (.pv (dbP T)) (.pv (al lp)) 9001),(aag D)],2,Vn (aS O) (aO Zj) O O,O,⟨ar ⟨_,underlying257,O⟩ UC O O O,Zp⟩,O,O,λi o h=>nF _ [(1,.mix 257 (Ts D))] i o h,Zk,O,O⟩
end
section
open Mk
theorem N7{x:ZO}(q:l.Nodup)(t:∀y∈l,0<=y)(u:∀a:Nat,(a:Int)∈l↔x.getLsbD a=YK):l.length=dV x:=by
 have s:l.Perm (((List.range 64).filter λi=>x.getLsbD i).map Int.ofNat):=dK q (List.Pairwise.map _ (λa b h e=>h (Int.ofNat.inj e)) (WY WN List.nodup_range)) λy=>by grind[VG,VU.2,Wi.2,ft,VU.1]
 rw[s.length_eq,IS];unfold dV;rw[List.countP_eq_length_filter]

end
section
open Mk Jn
set_option autoImplicit false
theorem sQ(f:Nat->α):∀(us:List (Nat×α))(D:List α),(∀p∈us,p.2=f p.1)->∀i,i<D.length->(bT D us)[i]? =if i∈us.map (·.1)then WB (f i)else D[i]?
 |[],D,_,i,_=>by simp[bT]
 | u::us,D,h,i,hi=>by
   have e:bT D (u::us)=bT (D.set u.1 u.2) us:=rfl;rw[e,sQ f us _ (λp hp=>h p (by simp[hp])) i (by simpa using hi)];by_cases h1:i∈us.map (·.1)
   .grind
   grind
theorem QS{F:Int->ZO}(x:Nat):∀g:ZO,(cs.foldl (λz c=>z|||F c) g).getLsbD x=(g.getLsbD x||cs.any λc=>(F c).getLsbD x):=by induction cs<;>grind
theorem AM(s:UpOk P)(t:v<P.length):(upZ P.length).filter (λa=>decide (a∈bU P v)&&(j0 P v).any λb=>gF S a b)=iY S P v:=by
 unfold iY;refine O3 ?_ (WY WN ((Vi P.length).imp λh=>Int.le_of_lt h));have q:=(WW.1 (ku s v t)).2;refine dK (WY WN (cX _)) (by unfold TZ;exact WY WN q) λa=>?_
 unfold TZ;rw[VU,VU,aJ,Ws];refine⟨λh=>h.2,λh=>⟨?_,h⟩⟩;obtain⟨x,hx,e,_⟩:=mj s v t a h.1;exact bR.2 ⟨x,hx,e⟩
def AbB(P:cP)(v:Nat)(ab:ZO):Prop:=∀x:Nat,ab.getLsbD x=YK↔(x:Int)∈bU P v
theorem yA(P:cP)(G:Zz)(x:Nat):∀(k:Nat)(v:Int),(jC P G k v).getLsbD x=(lG P k v).any λm=>(G.getD m.toNat 0#64).getLsbD x
 |0,v=>by rw[jC,lG];simp
 | k+1,v=>by
   rw[jC,lG,QS,List.any_cons,List.any_flatMap]
   congr 1
   exact ah (aB P v).any (funext λc=>yA P G x k c)
theorem D6(P:cP):∀(k:Nat)(v:Int)(ab:ZO),(zW P k v ab).map (·.1)=(lG P k v).map Int.toNat
 |0,v,ab=>rfl
 | k+1,v,ab=>by
   rw[zW,lG,ed,ed,Ym,Ym]
   congr 1
   exact ah (λf=>List.flatMap f (aB P v)) (funext λc=>D6 P k c _)
theorem DQ(P:cP)(G:Zz)(n x:Nat):∀(k:Nat)(v:Int)(ab:ZO),x∈(lG P k v).map Int.toNat->x∈(k8 P G n k v ab).map (·.1)
 |0,v,ab,h=>by rw[k8];simpa[lG]using h
 | k+1,v,ab,h=>by
   rw[k8,Wf,Ym,We,V6];rw[lG,ed,Ym]at h;rcases By.1 h with h|h
   .right;simp[h]
   obtain⟨c,hc,h⟩:=V6.1 h;exact .inl ⟨c,hc,DQ P G n x k c _ h⟩
section
variable {S:ZN}{P:cP}(h:OrdOk S P)
include h
theorem n12:P.length<=12:=by rw[h.len];exact h.val.n2
theorem AbB.down{ab:ZO}(q:AbB P v ab)(s:v<P.length)(hc:c<P.length)(t:P.getD c 0=(v:Int)):AbB P c (ab|||BitVec.twoPow 64 (v:Int).toNat):=by
 intro x;have u:=n12 h;rw[dE h.jv hc s t,Yt,YF,Wr,q x,By];simp only[Wh,aJ,Ws];constructor
 .grind
 grind
theorem AbB.pop{ab:ZO}(q:AbB P v ab)(s:v<P.length):dV ab=(bU P v).length:=by refine(N7 (WW.1 (ku h.jv v s)).2 (λy hy=>?_) λa=>(q a).symm).symm;obtain⟨a,_,e,_⟩:=mj h.jv v s y hy;omega
theorem PG:∀(k v:Nat)(ab:ZO),v<P.length->AbB P v ab->∀p∈zW P k v ab,p.2=((bU P (p.1:Nat)).length:Int)
 | 0,v,ab,hv,hab,p,hp=>by
   rw[zW,VH]at hp;subst hp;show(dV ab:Int)=_;rw[hab.pop h hv];rfl
 | k+1,v,ab,hv,hab,p,hp=>by
   rw[zW,By]at hp;rcases hp with hp|hp
   .subst hp;show(dV ab:Int)=_;rw[hab.pop h hv];rfl
   obtain⟨c,hc,hp⟩:=V6.1 hp;obtain⟨m,hm,rfl,e⟩:=bz.1 hc;exact PG k m _ hm (hab.down h hv hm e) p hp
theorem JO(s:v<P.length)(u:P.length<=k+1+(bU P v).length){x:Nat}(z:x<P.length):(x:Int)∈lG P k v↔(x:Int)∈j0 P v:=by
 have t:bG P k v=bG P (k+1) v:=(sX h.jv k v s u).symm;rw[vX,t,tree_vs,fc,By];have hc:=oN h.jv (k+1) v (λa ha e=>by rw[dE h.jv ha s (by rw[getD_at ha];exact e),VI];omega) x z;have q:(v:Int)∈bU P x++[-1]↔(v:Int)∈bU P x:=by grind
 simp only[q]at hc;constructor
 .grind
 grind
theorem QG(q:v<P.length):∀x∈lG P k v,∃m:Nat,m<P.length/\x=(m:Int):=λx hx=>by
 rw[vX]at hx;obtain⟨m,hm,e,_⟩:=jl h.jv k v q x hx;exact⟨m,hm,e⟩
theorem Qg{ab:ZO}(q:v<P.length)(u:P.length<=k+1+(bU P v).length)(s:AbB P v ab):nC (jC P (gr S) k v&&&ab) P.length=iY S P v:=by
 rw[<-AM h.jv q];unfold nC upZ;rw[List.filter_map]
 congr 1
 apply YW;intro x t;have t:=Wi.1 t;show _=(decide ((x:Int)∈bU P v)&&(j0 P v).any λb=>gF S (x:Int) b);rw[BitVec.getLsbD_and,yA];by_cases ha:(x:Int)∈bU P v
 .rw[(s x).2 ha,XV,VK ha,Yb,V0,Wv,Wv];constructor
  .rintro⟨m,hm,hb⟩;obtain⟨m',hm',rfl⟩:=QG h q m hm;refine⟨_,(JO h q u hm').1 hm,?_⟩;rw[Wh,yV h.val (by rw[<-h.len];exact hm'),aJ]at hb;exact qI hb.2
  rintro⟨m,hm,hb⟩;obtain⟨⟨m',hm',rfl⟩,h2⟩:=fc.1 hm;refine⟨_,(JO h q u hm').2 hm,?_⟩;rw[Wh,yV h.val (by rw[<-h.len];exact hm'),aJ,Ws];refine⟨?_,qI hb⟩;rintro rfl;rcases h2 with h2|h2
  .have:m'=v:=Zi;subst this;exact ns h.jv q ha
  exact ns h.jv q (fL h.jv q h2 ha)
 rw[VL ha,Yq,Bool.and_eq_false_iff];right
 rw[Bool.eq_false_iff];exact λe=>ha ((s x).1 e)
theorem Gu:∀(k v:Nat)(ab:ZO),v<P.length->P.length<=k+1+(bU P v).length->AbB P v ab->∀p∈k8 P (gr S) P.length k v ab,p.2=iY S P (p.1:Nat)
 |0,v,ab,hv,hf,hab,p,hp=>by grind[k8,VH,Qg]
 | k+1,v,ab,hv,hf,hab,p,hp=>by
   rw[k8,We,VH]at hp;rcases hp with hp|hp
   .obtain⟨c,hc,hp⟩:=V6.1 hp;obtain⟨m,hm,rfl,e⟩:=bz.1 hc;exact Gu k m _ hm (by rw[dE h.jv hm hv e,VI];omega) (hab.down h hv hm e) p hp
   subst hp;exact Qg h hv hf hab
omit h in
theorem Ml(hc:c<P.length)(e:P.getD c 0= -1):bU P c=[]:=mF hc (by rw[<-getD_at hc];exact e)
omit h in
theorem Cg(hc:c<P.length)(e:P.getD c 0= -1):AbB P c 0#64:=λx=>by rw[Ml hc e];simp
theorem LM(s:i<P.length):∃c:Nat,c<P.length/\P.getD c 0= -1/\(c:Int)∈aB P (-1)/\i∈(lG P P.length c).map Int.toNat:=by have q:(i:Int)∈dS P:=(fV h.jv).mem_iff.2 (bR.2 ⟨i,s,O⟩);rw[<-wc,V6]at q;obtain⟨c,hc,q⟩:=q;obtain⟨m,hm,rfl,e⟩:=bz.1 hc;exact⟨m,hm,e,hc,VS.2 ⟨_,q,O⟩⟩
omit h in
theorem H3(D l:cP):∀a∈l,D.getD a.toNat 0<=D.getD (jB D l l.length).toNat 0:=by
 have q:∀(k:cP)(h0:Int),D.getD h0.toNat 0<=D.getD (k.foldl (λh a=>if D.getD a.toNat 0>D.getD h.toNat 0 then a else h) h0).toNat 0/\∀a∈k,D.getD a.toNat 0<=D.getD (k.foldl (λh a=>if D.getD a.toNat 0>D.getD h.toNat 0 then a else h) h0).toNat 0:=by
  intro k;induction k with
  |nil=>intro h0;exact⟨Int.le_refl _,λa ha=>by cases ha⟩
  | cons x k ih=>
    intro h0;rw[W5];have s:=ih (if D.getD x.toNat 0>D.getD h0.toNat 0 then x else h0);by_cases hx:D.getD x.toNat 0>D.getD h0.toNat 0
    .grind
    grind
 intro a ha;unfold jB;rw[XD];exact(q l _).2 a ha
theorem SO{r:er×cP}(t:r∈S.aU)(D:cP)(E:∀i:Nat,i<P.length->D.getD i 0=((bU P (i:Nat)).length:Int)):jB D r.2 r.2.length=jT P r.2:=by
 have q:∀a∈r.2,0<=a/\a<P.length:=by rw[h.len];exact h.val.rng r t
 obtain⟨h1,h2⟩:=vR h.jv (h.val.ne r t) q (h.rt r t);have u:=yK D (h.val.ne r t) r.2.length;rcases h2 _ u with e|e
 .exact e
 exfalso;have z:=H3 D r.2 _ h1;obtain⟨a,ha⟩:=VG (q _ u).1;obtain⟨b,hb⟩:=VG (q _ h1).1;have I:=(q _ u).2;have M:=(q _ h1).2;rw[ha]at I e z;rw[hb]at M e z;have B:a<P.length:=Zi;have s:b<P.length:=Zi;have V:=Qt h.jv s e;rw[Wh,Wh,E a B,E b s]at z;omega
def nY(S:ZN)(P:cP):VD:=⟨(upZ P.length).map (aB P)++[aB P (-1)],(upZ P.length).map (iY S P),(upZ P.length).map (xh (S.aU.map λr=>jT P r.2) S.aU.length),dS P⟩
theorem Du:oG S P (gr S)=nY S P:=by
 have q:(gr S).length=P.length:=by rw[lj,h.len]
 have E:∀i:Nat,i<P.length->(bT (List.replicate (gr S).length (0:Int)) ((aB P (-1)).flatMap λc=>zW P P.length c 0#64)).getD i 0=((bU P (i:Nat)).length:Int):=by
  intro i hi;rw[VO,sQ (λi=>((bU P (i:Nat)).length:Int)) _ _ (λp hp=>?_) i (by rw[Xy,q];exact hi),IT ?_]
  .rfl
  .grind[LM,Ym,D6]
  obtain⟨c,hc,hp⟩:=V6.1 hp;obtain⟨m,hm,rfl,e⟩:=bz.1 hc;exact PG h P.length m _ hm (Cg hm e) p hp
 have s:(oG S P (gr S)).chs=(nY S P).chs:=by
  show lsT P P.length=_;unfold lsT nY;rw[qy]
  congr 1
  exact V9 λv _=>qy P v
 have t:(oG S P (gr S)).kes=(nY S P).kes:=by
  show bT (List.replicate (gr S).length []) _=(upZ P.length).map (iY S P);apply Ys;intro i;by_cases hi:i<P.length
  .rw[sQ (λi=>iY S P (i:Nat)) _ _ (λp hp=>?_) i (by rw[Xy,q];exact hi),IT ?_]
   .simp[upZ,hi]
   .grind[LM,Ym,DQ]
   obtain⟨c,hc,hp⟩:=V6.1 hp;obtain⟨m,hm,rfl,e⟩:=bz.1 hc;rw[q]at hp;exact Gu h P.length m _ hm Zi (Cg hm e) p hp
  rw[WT (by rw[dM,Xy,q];omega),WT (by rw[IS,bt];omega)]
 have u:(oG S P (gr S)).hos=(nY S P).hos:=by
  show hsT (gr S).length (hpL _ S) S.aU.length=_;unfold hsT nY hpL;rw[q]
  congr 2
  exact V9 λr hr=>SO h hr _ (by rw[q]at E;exact E)
 have z:(oG S P (gr S)).wa=(nY S P).wa:=rfl;generalize oG S P (gr S)=A at s t u z;generalize nY S P=B at s t u z;cases A;cases B;simp only at s t u z;rw[s,t,u,z]
end
structure TabOk(S:ZN)(T:Gk):Prop where
 n:T.length=S.aU.length
 l:∀l∈T,l.length<=12
 v:∀r (h:r<T.length) (h2:r<S.aU.length),∀x∈T[r],x.v.length=S.aU[r].2.length
 zf:∀l∈T,∀x∈l,∀y∈x.v,Zf y/\y.size<=10000
theorem Va(q:Valid S)(s:S.aU.length<=1000)(hl:∀r∈S.aU,r.2.length<=1000):SJn S:=⟨by have:=q.n2;omega,s,hl,q.rng⟩
theorem Uz(h:OrdOk S P)(hS:SJn S){T:Gk}(q:TabOk S T)(s:∀a:Nat,a<S.aj.length->∃r∈S.aU,(a:Int)∈r.2)(lp:PV)(pk pv:na):CtxV ⟨S,T,lp,pk,pv⟩ P (nY S P) where
 ok:=⟨hS,q.n,λl hl=>by have:=q.l l hl;omega,q.v⟩
 ord:=h
 n64:=by have:=n12 h;omega
 ch:=rfl
 ke:=rfl
 hl:=by simp[nY,bt]
 ho:=λl hl=>by
  obtain⟨v,_,rfl⟩:=VS.1 hl;refine⟨OF (p9 _ _ _) hS.r,λr hr=>?_⟩;unfold xh at hr;obtain⟨a,ha,rfl⟩:=VS.1 hr;have:=Wi.1 (VU.1 ha).1;constructor<;>simp<;>omega
 zf:=q.zf
 t12:=q.l
 wv:=λa ha=>by
  obtain⟨r,hr,h2⟩:=s a ha;obtain⟨i,hi,e⟩:=Xp hr;refine List.ne_nil_of_mem (a:=i) ?_;unfold cw;rw[VU,Wi];refine⟨by simpa[RJ]using hi,?_⟩;rw[tc];unfold o9;simp only[VO,AT hi,Xg,e,Ws];exact h2
end
section
open Mk Jn
set_option autoImplicit false
def hoL(S:ZN)(P:cP)(v:Int):cP:=xh (S.aU.map λr=>jT P r.2) S.aU.length v
theorem lA{v r:Int}:r∈hoL S P v↔∃k:Nat,∃h:k<S.aU.length,r=(k:Int)/\jT P S.aU[k].2=v:=by
 unfold hoL xh;rw[VS];constructor
 .grind
 grind
section
variable {S:ZN}{P:cP}(h:OrdOk S P)
include h
theorem xA{x:Int}(q:x∈dS P):∃n:Nat,n<P.length/\x=(n:Int):=by obtain⟨n,hn,e⟩:=bR.1 ((fV h.jv).mem_iff.1 q);exact⟨n,hn,e⟩
theorem kj:(dS P).Nodup:=(fV h.jv).nodup_iff.2 (cX _)
theorem Ou:((dS P).flatMap (hoL S P)).Perm (upZ S.aU.length):=by
 refine dK ?_ (cX _) λr=>?_
 .unfold List.Nodup;rw[List.pairwise_flatMap];refine⟨λv _=>?_,(kj h).imp λhne r hr q hq e=>?_⟩
  .unfold hoL xh;exact List.Pairwise.map _ (λa b h e=>h (Int.ofNat.inj e)) (WY WN List.nodup_range)
  obtain⟨k,hk,e1,e2⟩:=lA.1 hr;obtain⟨k',hk',e3,e4⟩:=lA.1 hq;have:k=k':=Zi;subst this;exact hne (e2.symm.trans e4)
 rw[V6,bR];constructor
 .rintro⟨v,_,hr⟩;obtain⟨k,hk,e,_⟩:=lA.1 hr;exact⟨k,hk,e⟩
 rintro⟨k,hk,rfl⟩;have t:=ak hk;have s:∀a∈S.aU[k].2,0<=a/\a<P.length:=by rw[h.len];exact h.val.rng _ t
 have u:=(vR h.jv (h.val.ne _ t) s (h.rt _ t)).1;refine⟨jT P S.aU[k].2,?_,lA.2 ⟨k,hk,O,O⟩⟩;have z:=s _ u;exact(fV h.jv).mem_iff.2 (bR.2 ⟨(jT P S.aU[k].2).toNat,Zi,Zi⟩)
end
section
variable {J:JD}{P:cP}(h:OrdOk J.S P)
include h
omit h in
theorem T5(q:k<J.S.aU.length):o9 J k=J.S.aU[k].2:=by unfold o9;rw[VO,AT q];rfl
end
def uQ(S:ZN)(T:Gk):List (cP×om):=(S.aU.map (·.2)).zip T
section
variable {J:JD}{P:cP}{D:VD}(h:CtxV J P D)(hd:∀l∈J.T,l.Pairwise λa b=>a.v≠b.v)
include h
theorem SL(v:Nat)(u:v<J.S.aj.length)(σ:vb):IsCand (RJ J) (v:Int) σ (cA (RJ J) sdS v σ):=by
 refine MU zU vn (h.wv v u) (λr hr row hrow=>?_) σ;rw[eD]at hrow;rw[tc];obtain⟨x,hx,rfl⟩:=VS.1 hrow;unfold cw at hr;have t:=Wi.1 (VU.1 hr).1;have q:r<J.S.aU.length:=by simpa[RJ]using t
 have s:r<J.T.length:=by rw[h.ok.n];exact q
 have e:bW J r=J.T[r]:=by unfold bW;rw[VO,AT s];rfl
 rw[e]at hx;rw[T5 q];exact h.ok.v r s q x hx
omit h in
theorem IG:∀w,∀a∈dom (RJ J) w,∃r∈J.S.aU,w∈r.2/\a∈r.2:=λ_ _ ha=>Cc ha
omit h in
theorem TL:∀v (σ τ:vb),(∀a∈dom (RJ J) v,σ a=τ a)->cA (RJ J) sdS v σ=cA (RJ J) sdS v τ:=λv σ τ hh=>sq (RJ J) sdS v σ τ hh
end
end
namespace Jn
set_option autoImplicit false
section
variable {R:Type}(S:SR R)
theorem xn(hc:∀a b,S.add a b=S.add b a){l m:List R}(h:l.Perm m):du S l=du S m:=by
 induction h with
 |nil=>rfl
 |cons x _ ih=>rw[du,ih,du]
 |swap x y l=>rw[du,du,du,du,<-S.add_assoc,hc y x,S.add_assoc]
 |trans _ _ a b=>rw[a,b]
theorem Of(hc:∀a b,S.add a b=S.add b a){β:Type}{l a b:List β}{w u:β->R}{u':β->R}(hl:l.Nodup)(t:a.Nodup)(z:b.Nodup)
  (B:∀x,x∈l↔x∈a\/x∈b) (E:∀x,x∈a->x∈b->False) (I:∀x∈a,w x=u x) (M:∀x∈b,w x=u' x):
  du S (l.map w)=S.add (du S (a.map u)) (du S (b.map u')):=by
 have q:(a++b).Nodup:=XL.2 ⟨t,z,λx hx y hy e=>E x hx (e▸hy)⟩;have s:l.Perm (a++b):=(List.perm_ext_iff_of_nodup hl q).2 λx=>by rw[B,We]
 rw[xn S hc (s.map w),Wf,lX,da S I,da S M]
def eP:List R->R
 |[]=>S.one
 |a::l=>S.mul a (eP l)
theorem pA(l m:List R):eP S (l++m)=S.mul (eP S l) (eP S m):=by
 induction l with
 |nil=>rw[WZ,eP,S.one_mul]
 |cons a l ih=>rw[Wu,eP,ih,eP,S.mul_assoc]
end
inductive Spl:om->om->om->Prop
 |nil:Spl [] [] []
 |left (x:Rw) {l a b:om} (h:Spl l a b):Spl (x::l) (x::a) b
 |right (x:Rw) {l a b:om} (h:Spl l a b):Spl (x::l) a (x::b)
theorem Spl.symm{l a b:om}(h:Spl l a b):Spl l b a:=by
 induction h with
 |nil=>exact .nil
 |left x _ ih=>exact .right x ih
 |right x _ ih=>exact .left x ih
theorem Spl.mem{l a b:om}(h:Spl l a b)(y:Rw):y∈l↔y∈a\/y∈b:=by
 induction h with
 |nil=>simp
 |left x _ ih=>rw[By,By,ih,or_assoc]
 |right x _ ih=>rw[By,By,ih];grind
theorem Spl.filter{l a b:om}(h:Spl l a b)(p:Rw->Bool):Spl (l.filter p) (a.filter p) (b.filter p):=by
 induction h with
 |nil=>exact .nil
 | left x _ ih=>
   rw[WL,WL];split
   .exact .left x ih
   exact ih
 | right x _ ih=>
   rw[WL,WL];split
   .exact .right x ih
   exact ih
theorem Spl.eq{l a b:om}(h:Spl l a b)(e:b=[]):l=a:=by
 induction h with
 |nil=>rfl
 |left x _ ih=>rw[ih e]
 |right x _ ih=>cases e
theorem Spl.ne{l a b:om}(h:Spl l a b):l.Pairwise (λx y=>x.v≠y.v)->∀x∈a,∀y∈b,x.v≠y.v:=by
 induction h with
 |nil=>intro _ x hx;simp at hx
 | left z hs ih=>
   intro hp x hx y hy;rw[WX]at hp;rcases By.1 hx with rfl|hx
   .exact hp.1 y ((hs.mem y).2 (.inr hy))
   exact ih hp.2 x hx y hy
 | right z hs ih=>
   intro hp x hx y hy;rw[WX]at hp;rcases By.1 hy with rfl|hy
   .exact(hp.1 x ((hs.mem x).2 (.inl hx))).symm
   exact ih hp.2 x hx y hy
theorem mV{τ:vb}:∀{A:cP}{x y:hC},(∀a∈A,(τ a).isSome=YK)->x.length=A.length->y.length=A.length->agr A τ x=YK->agr A τ y=YK->x=y
 |[],[],[],_,_,_,_,_=>rfl
 | a::A,u::x,v::y,h,hx,hy,h1,h2=>by
   unfold agr at h1 h2;rw[X2,Xi,aJ]at h1 h2;obtain⟨z,hz⟩:=V4.1 (h a Zm);have q:=h1.1;have s:=h2.1;simp only[hz,VJ]at q s;rw[<-q,<-s,mV (τ:=τ) (λb hb=>h b (by simp[hb])) (by simpa using hx) (by simpa using hy) h1.2 h2.2]
 |[],_::_,_,_,hx,_,_,_=>by simp at hx
 |[],[],_::_,_,_,hy,_,_=>by simp at hy
 |_::_,[],_,_,hx,_,_,_=>by simp at hx
 |_::_,_::_,[],_,_,hy,_,_=>by simp at hy
section
variable {R:Type}(S:SR R)(lf:Int->er->R)(wt:Int->R)(A:Nat->cP)(ho:Int->ee)
def gW(A:cP)(l:om)(τ:vb):R:=eP S ((l.filter λx=>agr A τ x.v).map λx=>wt x.w)
def gV(T:Nat->om)(v:Int)(τ:vb):R:=S.mul (match τ v with|some x=>lf v x|none=>S.one) (eP S ((ho v).map λr=>gW S wt (A r) (T r) τ))
variable {T T':Nat->om}{S lf wt A ho}
theorem Ea{τ:vb}(h:∀r,gW S wt (A r) (T r) τ=gW S wt (A r) (T' r) τ)(v:Int):gV S lf wt A ho T v τ=gV S lf wt A ho T' v τ:=by unfold gV;rw[V9 λr _=>h r]
theorem qV{g g':Int->vb->R}{τ:vb}:∀{vs:cP},(∀v∈vs,g v τ=g' v τ)->wts S g vs τ=wts S g' vs τ
 |[],_=>rfl
 |v::vs,h=>by rw[wts,wts,h v Zm,qV λu hu=>h u (by simp[hu])]
end
section
variable {R:Type}{S:SR R}{lf:Int->er->R}{wt:Int->R}{ho:Int->ee}
structure Dif(r:Nat)(P P':Rels er)(T T':Nat->om):Prop where
 a:P'.A=P.A
 p:∀q,P.rows q=(T q).map (·.v)
 p':∀q,P'.rows q=(T' q).map (·.v)
 t:∀q,q≠r->T' q=T q
theorem Dif.at{r:Nat}{P P':Rels er}{T T':Nat->om}(h:Dif r P P' T T')(q:Nat):P'.at q=P.at q:=by unfold Rels.at;rw[h.a]
theorem cM{P:Rels er}{T:Nat->om}(h:∀q,P.rows q=(T q).map (·.v)){q:Nat}{τ:vb}:dG P q τ=YK↔∃x∈T q,agr (P.at q) τ x.v=YK:=by unfold dG;rw[h q,List.any_map,Wv];rfl
def Tup(P:Rels er)(vs:cP)(τ:vb):Prop:=(∀a,a∉vs->τ a=WC)/\(∀a∈vs,(τ a).isSome=YK)/\∀r<P.A.length,(∃a∈vs,a∈P.at r)->dG P r τ=YK
variable {r:Nat}{P P1 P2:Rels er}{T T1 T2:Nat->om}{vs:cP}
theorem Dif.bS(h:Dif r P P1 T T1){τ:vb}(s:Tup P vs τ)(u:dG P1 r τ=YK):Tup P1 vs τ:=by
 refine⟨s.1,s.2.1,λq hq ha=>?_⟩;by_cases e:q=r
 .rw[e];exact u
 have:=s.2.2 q (by rw[<-h.a];exact hq) (by rw[<-h.at];exact ha);rw[cM h.p]at this;rw[cM h.p',h.t q e,h.at];exact this
theorem Dif.pull(h:Dif r P P1 T T1)(hs:∀x∈T1 r,x∈T r){τ:vb}(s:Tup P1 vs τ):Tup P vs τ:=by
 refine⟨s.1,s.2.1,λq hq ha=>?_⟩;have:=s.2.2 q (by rw[h.a];exact hq) (by rw[h.at];exact ha);rw[cM h.p',h.at]at this;rw[cM h.p];obtain⟨x,hx,e⟩:=this;by_cases e':q=r
 .subst e';exact⟨x,hs x hx,e⟩
 exact⟨x,by rw[<-h.t q e'];exact hx,e⟩
section
variable (d1:Dif r P P1 T T1)(d2:Dif r P P2 T T2)(hs:Spl (T r) (T1 r) (T2 r))(hr:r<P.A.length)(hv:∃a∈vs,a∈P.at r)(hsub:∀a∈P.at r,a∈vs)
 (hl:∀x∈T r,x.v.length=(P.at r).length) (hp:(T r).Pairwise λx y=>x.v≠y.v)
include d1 d2 hs hr hv
theorem QH(τ:vb):Tup P vs τ↔Tup P1 vs τ\/Tup P2 vs τ:=by
 constructor
 .intro h;have:=h.2.2 r hr hv;rw[cM d1.p]at this;obtain⟨x,hx,e⟩:=this;rcases(hs.mem x).1 hx with hx|hx
  .exact .inl (d1.bS h ((cM d1.p').2 ⟨x,hx,by rw[d1.at];exact e⟩))
  exact .inr (d2.bS h ((cM d2.p').2 ⟨x,hx,by rw[d2.at];exact e⟩))
 rintro(h|h)
 .exact d1.pull (λx hx=>(hs.mem x).2 (.inl hx)) h
 exact d2.pull (λx hx=>(hs.mem x).2 (.inr hx)) h
include hsub hl hp
omit d2 in
theorem Pz{τ:vb}(h:Tup P1 vs τ):∀y∈T2 r,agr (P.at r) τ y.v=YL:=by intro y hy;rw[Bool.eq_false_iff];intro e;have:=h.2.2 r (by rw[d1.a];exact hr) (by rw[d1.at];exact hv);rw[cM d1.p',d1.at]at this;obtain⟨x,hx,e'⟩:=this;exact hs.ne hp x hx y hy (mV (λa ha=>h.2.1 a (hsub a ha)) (hl x ((hs.mem x).2 (.inl hx))) (hl y ((hs.mem y).2 (.inr hy))) e' e)
omit d2 in
theorem Db{τ:vb}(h:Tup P1 vs τ)(q:Nat):gW S wt (P.at q) (T q) τ=gW S wt (P.at q) (T1 q) τ:=by
 by_cases e:q=r
 .subst e;unfold gW;rw[(hs.filter _).eq (List.filter_eq_nil_iff.2 λy hy=>by rw[Pz d1 hs hr hv hsub hl hp h y hy];simp)]
 rw[d1.t q e]
theorem Se(hc:∀a b,S.add a b=S.add b a){cd cd1 cd2:Int->vb->hC}(s:vs.Nodup)(k:∀v∈vs,∀σ,IsCand P v σ (cd v σ))(k1:∀v∈vs,∀σ,IsCand P1 v σ (cd1 v σ))(k2:∀v∈vs,∀σ,IsCand P2 v σ (cd2 v σ))
  (n:∀v σ,(cd v σ).Nodup) (n1:∀v σ,(cd1 v σ).Nodup) (n2:∀v σ,(cd2 v σ).Nodup) {σ:vb} (t:∀a,σ a=WC):
  du S ((enW cd vs σ).map (wts S (gV S lf wt P.at ho T) vs))=S.add (du S ((enW cd1 vs σ).map (wts S (gV S lf wt P.at ho T1) vs))) (du S ((enW cd2 vs σ).map (wts S (gV S lf wt P.at ho T2) vs))):=by
 have m:∀{Q:Rels er}{c:Int->vb->hC},(∀v∈vs,∀σ,IsCand Q v σ (c v σ))->∀τ,τ∈enW c vs σ↔Tup Q vs τ:=λhk τ=>by
  rw[mz hk s λa _=>t a];unfold Tup;simp only[t]
 refine Of S hc (jM n s) (jM n1 s) (jM n2 s) (λτ=>?_) (λτ a b=>?_) (λτ h=>?_) λτ h=>?_
 .rw[m k,m k1,m k2];exact QH d1 d2 hs hr hv τ
 .rw[m k1]at a;rw[m k2]at b;have:=b.2.2 r (by rw[d2.a];exact hr) (by rw[d2.at];exact hv);rw[cM d2.p',d2.at]at this;obtain⟨y,hy,e⟩:=this;rw[Pz d1 hs hr hv hsub hl hp a y hy]at e;cases e
 .rw[m k1]at h;exact qV λv _=>Ea (λq=>Db d1 hs hr hv hsub hl hp h q) v
 rw[m k2]at h;exact qV λv _=>Ea (λq=>Db d2 hs.symm hr hv hsub hl hp h q) v
end
def iz(m:Int)(l:om):om:=l.map λx=>⟨x.v,x.w*m⟩
theorem yY{c:R}{f f':Nat->R}{r:Nat}(hf:f' r=S.mul c (f r))(hq:∀q,q≠r->f' q=f q):∀{l:ee},l.Nodup->r∈l->eP S (l.map f')=S.mul c (eP S (l.map f))
 | q::l,hn,hr=>by
   rw[WW]at hn;rw[ed,ed,eP,eP];by_cases e:q=r
   .subst e;rw[hf,S.mul_assoc,V9 λb hb=>hq b λs=>hn.1 (s▸hb)]
   rw[hq q e,yY hf hq hn.2 ((By.1 hr).resolve_left λs=>e s.symm),<-S.mul_assoc,<-S.mul_assoc,S.mul_comm c]
theorem Iu{c:R}{g g':Int->vb->R}{τ:vb}{u:Int}(hf:g' u τ=S.mul c (g u τ)):∀{vs:cP},(∀v∈vs,v≠u->g' v τ=g v τ)->vs.Nodup->u∈vs->wts S g' vs τ=S.mul c (wts S g vs τ)
 | v::vs,hq,hn,hu=>by
   rw[WW]at hn;rw[wts,wts];by_cases e:v=u
   .subst e;rw[hf,S.mul_assoc,qV λw hw=>hq w (by simp[hw]) λq=>hn.1 (q▸hw)]
   rw[hq v Zm e,Iu hf (λw hw=>hq w (by simp[hw])) hn.2 ((By.1 hu).resolve_left λq=>e q.symm),<-S.mul_assoc,<-S.mul_assoc,S.mul_comm c]
theorem ox{p:Rw->Bool}:∀{l:om},l.Pairwise (λx y=>x.v≠y.v)->(∀x∈l,∀y∈l,p x=YK->p y=YK->x.v=y.v)->(∃x∈l,p x=YK)->∃x∈l,l.filter p=[x]
 | z::l,hp,h,hx=>by
   rw[WX]at hp;rw[WL];by_cases e:p z=YK
   .refine⟨z,Zm,?_⟩;rw[IT e,List.filter_eq_nil_iff.2 λy hy q=>hp.1 y hy (h z Zm y (by simp[hy]) e q)]
   rw[AS e];obtain⟨x,hx,ex⟩:=hx;obtain⟨y,hy,ey⟩:=ox hp.2 (λx hx y hy=>h x (by simp[hx]) y (by simp[hy])) ⟨x,(By.1 hx).resolve_left λq=>e (q▸ex),ex⟩;exact⟨y,by simp[hy],ey⟩
theorem Q9{T T':Nat->om}{r:Nat}{P:Rels er}{vs:cP}(h:∀q,P.rows q=(T q).map (·.v))(W:∀q,q≠r->T' q=T q)(m:Int)(X:T' r=iz m (T r))(Y:∀x∈T r,wt (x.w*m)=S.mul (wt m) (wt x.w))
  (Z:r<P.A.length) (hv:∃a∈vs,a∈P.at r) (s:∀a∈P.at r,a∈vs) (hl:∀x∈T r,x.v.length=(P.at r).length) (hp:(T r).Pairwise λx y=>x.v≠y.v)
  {u:Int} (t:u∈vs) (z:∀v,v∈vs->(ho v).Nodup/\(r∈ho v↔v=u))
  {cd:Int->vb->hC} (I:vs.Nodup) (k:∀v∈vs,∀σ,IsCand P v σ (cd v σ)) {σ:vb} (hσ:∀a,σ a=WC):
  du S ((enW cd vs σ).map (wts S (gV S lf wt P.at ho T') vs))=S.mul (wt m) (du S ((enW cd vs σ).map (wts S (gV S lf wt P.at ho T) vs))):=by
 rw[<-xc,XX];refine da S λτ hτ=>?_
 rw[mz k I λa _=>hσ a]at hτ;have B:=hτ.2.2 r Z hv;rw[cM h]at B;obtain⟨x,hx,ex⟩:=ox (p:=λx=>agr (P.at r) τ x.v) hp (λx hx y hy e e'=>mV (λa ha=>hτ.2.1 a (s a ha)) (hl x hx) (hl y hy) e e') B;have M:gW S wt (P.at r) (T' r) τ=S.mul (wt m) (gW S wt (P.at r) (T r) τ):=by
  have V:(T' r).filter (λx=>agr (P.at r) τ x.v)=[⟨x.v,x.w*m⟩]:=by
   rw[X,iz,List.filter_map];show List.map _ ((T r).filter λx=>agr (P.at r) τ x.v)=_;rw[ex];rfl
  unfold gW;rw[V,ex];show S.mul (wt (x.w*m)) S.one=S.mul (wt m) (S.mul (wt x.w) S.one);rw[Y x hx,S.mul_assoc]
 have E:∀q,q≠r->gW S wt (P.at q) (T' q) τ=gW S wt (P.at q) (T q) τ:=λq e=>by rw[W q e]
 refine Iu (u:=u) ?_ (λv hv' hne=>?_) I t
 .unfold gV;rw[yY (c:=wt m) (f:=λr=>gW S wt (P.at r) (T r) τ) (r:=r) M E (z u t).1 ((z u t).2.2 O),<-S.mul_assoc,<-S.mul_assoc,S.mul_comm (wt m)]
 unfold gV;rw[V9 λq hq'=>E q λe=>hne ((z v hv').2.1 (e▸hq'))]
end
end Jn
end Go.Proofs.YthicoeegbdboeaaGreatDoor
