/-
  Texts of ours, joined and shortened by merge2.py: Lw, B5, KL, KQ, B6, KR, KW, KXB, K1N, K2N, K3N. No statement of the program is proved here.
-/
import Derived.Test.YtjlikknopfnllaaGreatDoorJ68
set_option maxRecDepth 100000
set_option maxHeartbeats 4000000
open Go.RowKit Go.Proofs.Tryz
namespace Go.Proofs.YtjlikknopfnllaaGreatDoor
section
set_option maxHeartbeats 1000000
def pcN (k n:Nat):Nat:=(List.range k).countP fun i=>n.testBit i
theorem tZ (k n:Nat):pcN (k+1) n=n%2+pcN k (n/2):=by
 unfold pcN
 rw [List.range_succ_eq_map,List.countP_cons,List.countP_map]
 have e:((fun i=>n.testBit i)∘Nat.succ)=fun i=>(n/2).testBit i:=by
  funext i
  simp [Nat.testBit_succ]
 rw [e,Nat.add_comm]
 congr 1
 rw [Nat.testBit_zero]
 rcases Nat.mod_two_eq_zero_or_one n with h | h<;>simp [h]
theorem qC {n:Nat} (h:n≠0):(n&&&(n-1))%2=0∧(n&&&(n-1))/2=if n%2=0 then (n/2)&&&(n/2-1) else n/2:=by
 constructor
 ·have:=Nat.and_mod_two_pow (a:=n) (b:=n-1) (n:=1)
  simp only [Nat.pow_one] at this
  rw [this]
  rcases Nat.mod_two_eq_zero_or_one n with e | e
  ·rw [e];simp
  ·rw [e,show (n-1)%2=0 by omega];simp
 ·have:(n&&&(n-1))/2=n/2&&&(n-1)/2:=by
   apply Nat.eq_of_testBit_eq
   intro i
   rw [← Nat.testBit_succ,Nat.testBit_and,Nat.testBit_and,Nat.testBit_succ,Nat.testBit_succ]
  rw [this]
  split
  ·rw [show (n-1)/2=n/2-1 by omega]
  ·rw [show (n-1)/2=n/2 by omega,Nat.and_self]
theorem vk:∀ k n,n<2^k→n≠0→pcN k (n&&&(n-1))+1=pcN k n
 | 0,n,h,h0=>by simp at h;omega
 | k+1,n,h,h0=>by
   rw [tZ,tZ]
   obtain ⟨h1,h2⟩:=qC h0
   rw [h1,h2]
   split
   ·rename_i e
    have:=vk k (n/2) (by rw [Nat.pow_succ] at h;omega) (by omega)
    omega
   ·omega
theorem Dp {x:B64} (h:x≠0#64):cC (x&&&(x-1#64))+1=cC x:=by
 have h0:x.toNat≠0:=fun e=>h (BitVec.eq_of_toNat_eq (by simpa using e))
 have hl:=x.isLt
 have e:(x&&&(x-1#64)).toNat=x.toNat&&&(x.toNat-1):=by
  rw [BitVec.toNat_and,BitVec.toNat_sub]
  congr 1
  simp
  omega
 have:=vk 64 x.toNat hl h0
 rw [← e] at this
 exact this
theorem Ac {n:Nat} (hn:n≤63):cC (gI n)=n:=by
 unfold cC
 have:∀ k,(List.range k).countP (fun i=>(gI n).getLsbD i)=min k n:=by
  intro k
  induction k with
  | zero=>simp
  | succ k ih=>
    rw [List.range_succ,List.countP_append,ih,List.countP_singleton,fB (by omega)]
    by_cases h:k<n
    ·simp [h];omega
    ·simp [h];omega
 rw [this];omega
theorem C2 {x y:B64} (h:∀ i,x.getLsbD i=true→y.getLsbD i=true):cC x≤cC y:=by
 unfold cC
 exact List.countP_mono_left fun i _ hi=>h i hi
theorem n5 {x:B64} {i:Nat} (h:x.getLsbD i=true):0<cC x:=by
 unfold cC
 rw [List.countP_pos_iff]
 exact ⟨i,List.mem_range.2 (cq h),h⟩
noncomputable def widW (p:B64→Nat) (G:List B64) (rest:B64):Nat:=(compsN G rest G.length).1.foldl (fun m c=>max m (p c)) 0
noncomputable def minW (w:B64→Nat) (G:List B64) (c:B64) (k:Nat):Nat:=(List.range k).foldl (fun m a=>if c.getLsbD a=true then min m (w (c&&& ~~~(BitVec.twoPow 64 a))) else m) (G.length+1)
noncomputable def nearB (G:List B64) (c:B64):B64:=bitsOf fun i=>(List.range G.length).any fun b=>c.getLsbD b&&(G.getD b 0#64).getLsbD i
noncomputable def keyN (G:List B64) (c:B64):Nat:=cC (nearB G c&&& ~~~c)
noncomputable def parF (G:List B64):Nat→B64→Nat
 | 0,_=>0
 | f+1,c=>max (minW (widW (parF G f) G) G c G.length) (keyN G c+1)
theorem Au (G:List B64) (f:Nat) (c:B64):parF G (f+1) c=max (minW (widW (parF G f) G) G c G.length) (keyN G c+1):=rfl
noncomputable def partV (G:List B64) (c:B64):Nat:=parF G 64 c
noncomputable def widV (G:List B64) (rest:B64):Nat:=widW (partV G) G rest
theorem max_le_iff {p:B64→Nat} {b:Nat}:∀ {l:List B64} {z:Nat},l.foldl (fun m c=>max m (p c)) z≤b↔z≤b∧∀ c∈l,p c≤b
 | [],z=>by simp
 | c::l,z=>by
   rw [List.foldl_cons,max_le_iff]
   constructor
   ·rintro ⟨h1,h2⟩
    exact ⟨by omega,fun d hd=>by rcases List.mem_cons.1 hd with rfl | hd;omega;exact h2 d hd⟩
   ·rintro ⟨h1,h2⟩
    exact ⟨by have:=h2 c (by simp);omega,fun d hd=>h2 d (by simp [hd])⟩
theorem lj {p q:B64→Nat}:∀ {l:List B64} {z:Nat},(∀ c∈l,p c=q c)→l.foldl (fun m c=>max m (p c)) z=l.foldl (fun m c=>max m (q c)) z
 | [],_,_=>rfl
 | c::l,z,h=>by rw [List.foldl_cons,List.foldl_cons,h c (by simp),lj fun d hd=>h d (by simp [hd])]
theorem iw (w:B64→Nat) (G:List B64) (c:B64) (k:Nat):minW w G c (k+1)=if c.getLsbD k=true then min (minW w G c k) (w (c&&& ~~~(BitVec.twoPow 64 k))) else minW w G c k:=by
 unfold minW
 rw [List.range_succ,List.foldl_append]
 rfl
theorem iJ {w w':B64→Nat} {G:List B64} {c:B64}:∀ {k:Nat},(∀ a,a<k→c.getLsbD a=true→w (c&&& ~~~(BitVec.twoPow 64 a))=w' (c&&& ~~~(BitVec.twoPow 64 a)))→minW w G c k=minW w' G c k
 | 0,_=>rfl
 | k+1,h=>by
   rw [iw,iw,iJ fun a ha=>h a (by omega)]
   split
   ·rename_i hk;rw [h k (by omega) hk]
   ·rfl
theorem gh {w:B64→Nat} {G:List B64} {c:B64} {b:Nat}:∀ {k:Nat},minW w G c k≤b↔G.length+1≤b∨∃ a,a<k∧c.getLsbD a=true∧w (c&&& ~~~(BitVec.twoPow 64 a))≤b
 | 0=>by
   constructor
   ·exact fun h=> .inl h
   ·rintro (h | ⟨a,h,_⟩)
    ·exact h
    ·omega
 | k+1=>by
   rw [iw]
   split
   ·rename_i hk
    constructor
    ·intro h
     by_cases h1:minW w G c k≤b
     ·rcases gh.1 h1 with h2 | ⟨a,h2,h3⟩
      ·exact .inl h2
      ·exact .inr ⟨a,by omega,h3⟩
     ·exact .inr ⟨k,by omega,hk,by omega⟩
    ·rintro (h | ⟨a,h1,h2,h3⟩)
     ·have:=gh (w:=w) (G:=G) (c:=c) (k:=k).2 (.inl h);omega
     ·by_cases e:a=k
      ·subst e;omega
      ·have:=gh (w:=w) (G:=G) (c:=c) (k:=k).2 (.inr ⟨a,by omega,h2,h3⟩);omega
   ·rename_i hk
    rw [gh]
    constructor
    ·rintro (h | ⟨a,h1,h2⟩)
     ·exact .inl h
     ·exact .inr ⟨a,by omega,h2⟩
    ·rintro (h | ⟨a,h1,h2,h3⟩)
     ·exact .inl h
     ·exact .inr ⟨a,by by_cases e:a=k;subst e;exact absurd h2 hk;omega,h2,h3⟩
structure GOk (G:List B64):Prop where
 n:G.length≤12
 sym:∀ a b,eu G a b→eu G b a
 lt:∀ a b,eu G a b→b<G.length
def InB (n:Nat) (c:B64):Prop:=∀ i,c.getLsbD i=true→i<n
theorem InB.diff {n:Nat} {c:B64} (h:InB n c) (a:Nat):InB n (c&&& ~~~(BitVec.twoPow 64 a)):=fun i hi=>by
 rw [bA,Bool.and_eq_true] at hi
 exact h i hi.1
section
variable {G:List B64} (hG:GOk G)
include hG
theorem BT (c:B64) (i:Nat):(nearB G c).getLsbD i=true↔∃ b,c.getLsbD b=true∧eu G b i:=by
 by_cases hi:i<64
 ·unfold nearB
  rw [fN _ hi,List.any_eq_true]
  constructor
  ·rintro ⟨b,_,h⟩
   rw [Bool.and_eq_true] at h
   exact ⟨b,h⟩
  ·rintro ⟨b,h1,h2⟩
   refine ⟨b,List.mem_range.2 ?_,by rw [Bool.and_eq_true];exact ⟨h1,h2⟩⟩
   exact hG.lt _ _ (hG.sym _ _ h2)
 ·constructor
  ·intro h;exact absurd (cq h) hi
  ·rintro ⟨b,_,h⟩;have:=hG.lt _ _ h;have:=hG.n;omega
theorem oW (rest:B64) {a:Nat} (ha:rest.getLsbD a=true):Comp (eu G) rest (compB G rest a)∧(compB G rest a).getLsbD a=true:=by
 have hac:(compB G rest a).getLsbD a=true:=(eH (cq ha)).2 .refl
 have hcl:∀ i j,(compB G rest a).getLsbD i=true→eu G i j→rest.getLsbD j=true→(compB G rest a).getLsbD j=true:=fun i j h1 h2 h3=>(eH (cq h3)).2 (.step (dG h1) h2 h3)
 have one:∀ i,(compB G rest a).getLsbD i=true→Path (eu G) (fun x=>(compB G rest a).getLsbD x=true) a i:=fun i hi=>
  ((ma.1 (dG hi)).stay (inn:=fun x=>(compB G rest a).getLsbD x=true) hac hcl).1.mono fun c hc=>hc.2
 exact ⟨⟨fun i hi=>kr ha hi,hcl,fun i j hi hj=>((one i hi).symm hG.sym hac).trans (one j hj),a,hac⟩,hac⟩
omit hG in
theorem oV {adj:Nat→Nat→Prop} {rest c:B64} (hc:Comp adj rest c) {i j:Nat} (hi:c.getLsbD i=true) {ok:Nat→Prop} (hok:∀ x,ok x→rest.getLsbD x=true) (h:Path adj ok i j):c.getLsbD j=true:=by
 induction h with
 | refl=>exact hi
 | step _ h1 h2 ih=>exact hc.clo _ _ ih h1 (hok _ h2)
omit hG in
theorem x6 {adj:Nat→Nat→Prop} {rest c d:B64} (hc:Comp adj rest c) (hd:Comp adj rest d) {i:Nat} (h1:c.getLsbD i=true) (h2:d.getLsbD i=true):c=d:=by
 apply BitVec.eq_of_getLsbD_eq
 intro j _
 rw [Bool.eq_iff_iff]
 exact ⟨fun h=>oV hd h2 hc.sub (hc.con i j h1 h),fun h=>oV hc h1 hd.sub (hd.con i j h2 h)⟩
theorem fm {rest:B64} (hr:InB G.length rest) {d:B64}:d∈(compsN G rest G.length).1↔Comp (eu G) rest d:=by
 have h:=kT G rest hG.sym G.length
 have hsub:=(ky G rest G.length).1
 refine ⟨h.all d,fun hd=>?_⟩
 obtain ⟨i,hi⟩:=hd.ne
 have hir:=hd.sub i hi
 rcases (h.cov i).1 hir with h1 | ⟨c,hc,h1⟩
 ·exact absurd h1 (h.low i (hr i hir))
 ·have:=x6 (h.all c hc) hd h1 hi
  subst this
  exact hc
theorem nc {rest:B64} (hr:InB G.length rest) {p:B64→Nat} {b:Nat}:widW p G rest≤b↔∀ d,Comp (eu G) rest d→p d≤b:=by
 unfold widW
 rw [max_le_iff]
 exact ⟨fun h d hd=>h.2 d ((fm hG hr).2 hd),fun h=>⟨Nat.zero_le _,fun c hc=>h c ((fm hG hr).1 hc)⟩⟩
theorem uU:∀ (f f':Nat) (c:B64),InB G.length c→(∃ i,c.getLsbD i=true)→cC c≤f→cC c≤f'→parF G f c=parF G f' c
 | 0,_,c,_,⟨i,hi⟩,h,_=>by have:=n5 hi;omega
 | _+1,0,c,_,⟨i,hi⟩,_,h=>by have:=n5 hi;omega
 | f+1,f'+1,c,hn,_,h1,h2=>by
   simp only [parF]
   congr 1
   refine iJ fun a _ hca=>?_
   refine lj fun d hd=>?_
   have hD:=(fm hG (hn.diff a)).1 hd
   have hlt:cC d<cC c:=pb (fun i hi=>by have:=hD.sub i hi;rw [bA,Bool.and_eq_true] at this;exact this.1) (j:=a) (by
    cases e:d.getLsbD a with
    | false=>rfl
    | true=>have:=hD.sub a e;rw [bA] at this;simp at this) hca
   exact uU f f' d (fun i hi=>hn.diff a i (hD.sub i hi)) hD.ne (by omega) (by omega)
theorem sc {c:B64} (hn:InB G.length c) (hne:∃ i,c.getLsbD i=true):partV G c=max (minW (widV G) G c G.length) (keyN G c+1):=by
 unfold partV
 rw [show (64:Nat)=63+1 from rfl,Au]
 refine congrArg (fun z=>max z (keyN G c+1)) ?_
 refine iJ fun a _ hca=>?_
 refine lj fun d hd=>?_
 have hD:=(fm hG (hn.diff a)).1 hd
 have hlt:cC d<cC c:=pb (fun i hi=>by have:=hD.sub i hi;rw [bA,Bool.and_eq_true] at this;exact this.1) (j:=a) (by
  cases e:d.getLsbD a with
  | false=>rfl
  | true=>have:=hD.sub a e;rw [bA] at this;simp at this) hca
 have:=jk c
 exact uU hG 63 64 d (fun i hi=>hn.diff a i (hD.sub i hi)) hD.ne (by omega) (by omega)
theorem n9 {c d:B64} {a:Nat} (hD:Comp (eu G) (c&&& ~~~(BitVec.twoPow 64 a)) d):(∀ i,d.getLsbD i=true→c.getLsbD i=true)∧d.getLsbD a=false:=by
 have _:=hG.n
 refine ⟨fun i hi=>?_,?_⟩
 ·have:=hD.sub i hi;rw [bA,Bool.and_eq_true] at this;exact this.1
 ·cases e:d.getLsbD a with
  | false=>rfl
  | true=>have:=hD.sub a e;rw [bA] at this;simp at this
theorem sM:∀ (k:Nat) (c:B64),cC c≤k→InB G.length c→(∃ i,c.getLsbD i=true)→partV G c≤G.length
 | 0,c,h,_,⟨i,hi⟩=>by have:=n5 hi;omega
 | k+1,c,h,hn,⟨i,hi⟩=>by
   rw [sc hG hn ⟨i,hi⟩]
   have h1:minW (widV G) G c G.length≤G.length:=gh.2 (.inr ⟨i,hn i hi,hi,(nc hG (hn.diff i)).2 fun d hd=>by
    have hs:=n9 hG hd
    have:=pb hs.1 hs.2 hi
    exact sM k d (by omega) (fun j hj=>hn j (hs.1 j hj)) hd.ne⟩)
   have h2:keyN G c+1≤G.length:=by
    have h12:=hG.n
    have:cC (nearB G c&&& ~~~c)<cC (gI G.length):=pb (fun j hj=>by
     rw [fa,BT hG] at hj
     obtain ⟨⟨b,_,hb⟩,_⟩:=hj
     rw [fB (by omega),decide_eq_true_iff]
     exact hG.lt _ _ hb) (j:=i) (by
     cases e:(nearB G c&&& ~~~c).getLsbD i with
     | false=>rfl
     | true=>rw [fa] at e;exact absurd hi e.2) (by rw [fB (by omega),decide_eq_true_iff];exact hn i hi)
    rw [Ac (by omega)] at this
    exact this
   omega
theorem HT {rest:B64} (hr:InB G.length rest):widV G rest≤G.length:=(nc hG hr).2 fun d hd=>sM hG (cC d) d (Nat.le_refl _) (fun i hi=>hr i (hd.sub i hi)) hd.ne
theorem wW {rest c d:B64} {a:Nat} (hc:Comp (eu G) rest c) (hca:c.getLsbD a=true):
  Comp (eu G) (rest&&& ~~~(BitVec.twoPow 64 a)) d↔(Comp (eu G) rest d∧d.getLsbD a=false)∨Comp (eu G) (c&&& ~~~(BitVec.twoPow 64 a)) d:=by
 have hbit:∀ (x:B64) (i:Nat),(x&&& ~~~(BitVec.twoPow 64 a)).getLsbD i=true↔x.getLsbD i=true∧a≠i:=fun x i=>by rw [bA,Bool.and_eq_true,decide_eq_true_iff]
 constructor
 ·intro hd
  have hs:=n9 hG hd
  obtain ⟨i,hi⟩:=hd.ne
  by_cases hic:c.getLsbD i=true
  ·right
   have hdc:∀ j,d.getLsbD j=true→c.getLsbD j=true:=fun j hj=>oV hc hic hs.1 (hd.con i j hi hj)
   refine ⟨fun j hj=>(hbit c j).2 ⟨hdc j hj,fun e=>by subst e;rw [hs.2] at hj;cases hj⟩,fun x j hx hj hjc=>?_,hd.con,⟨i,hi⟩⟩
   have:=(hbit c j).1 hjc
   exact hd.clo x j hx hj ((hbit rest j).2 ⟨hc.sub j this.1,this.2⟩)
  ·left
   have hno:∀ j,d.getLsbD j=true→¬ c.getLsbD j=true:=fun j hj hcj=>hic (oV hc hcj hs.1 (hd.con j i hj hi))
   refine ⟨⟨hs.1,fun x j hx hj hjr=>?_,hd.con,⟨i,hi⟩⟩,hs.2⟩
   refine hd.clo x j hx hj ((hbit rest j).2 ⟨hjr,fun e=>?_⟩)
   subst e
   exact hno x hx (hc.clo _ x hca (hG.sym _ _ hj) (hs.1 x hx))
 ·rintro (⟨hd,hda⟩ | hd)
  ·refine ⟨fun j hj=>(hbit rest j).2 ⟨hd.sub j hj,fun e=>by subst e;rw [hda] at hj;cases hj⟩,fun x j hx hj hjr=>hd.clo x j hx hj ((hbit rest j).1 hjr).1,hd.con,hd.ne⟩
  ·have hs:=n9 hG hd
   refine ⟨fun j hj=>(hbit rest j).2 ⟨hc.sub j (hs.1 j hj),fun e=>by subst e;rw [hs.2] at hj;cases hj⟩,fun x j hx hj hjr=>?_,hd.con,hd.ne⟩
   have:=(hbit rest j).1 hjr
   exact hd.clo x j hx hj ((hbit c j).2 ⟨hc.clo x j (hs.1 x hx) hj this.1,this.2⟩)
theorem Gw {rest:B64} (hr:InB G.length rest) {a b:Nat} (ha:rest.getLsbD a=true) (h1:widV G rest≤b) (h2:widV G (compB G rest a&&& ~~~(BitVec.twoPow 64 a))≤b):widV G (rest&&& ~~~(BitVec.twoPow 64 a))≤b:=by
 obtain ⟨hc,hca⟩:=oW hG rest ha
 refine (nc hG (hr.diff a)).2 fun d hd=>?_
 rcases (wW hG hc hca).1 hd with ⟨h,_⟩ | h
 ·exact (nc hG hr).1 h1 d h
 ·exact (nc hG (InB.diff (fun i hi=>hr i (hc.sub i hi)) a)).1 h2 d h
theorem xp {rest:B64} (hr:InB G.length rest) {b:Nat} (hne:∃ i,rest.getLsbD i=true) (h:widV G rest≤b):∃ a,a<G.length∧rest.getLsbD a=true∧widV G (compB G rest a&&& ~~~(BitVec.twoPow 64 a))≤b:=by
 obtain ⟨i,hi⟩:=hne
 obtain ⟨hc,hci⟩:=oW hG rest hi
 have hcn:InB G.length (compB G rest i):=fun j hj=>hr j (hc.sub j hj)
 have hp:=(nc hG hr).1 h _ hc
 rw [sc hG hcn hc.ne] at hp
 obtain ⟨a,h1,h2,h3⟩:∃ a,a<G.length∧(compB G rest i).getLsbD a=true∧widV G (compB G rest i&&& ~~~(BitVec.twoPow 64 a))≤b:=by
  rcases gh.1 (Nat.le_trans (Nat.le_max_left _ _) hp) with h1 | h1
  ·exact ⟨i,hr i hi,hci,Nat.le_trans (HT hG (hcn.diff i)) (by omega)⟩
  ·exact h1
 have har:=hc.sub a h2
 have:=oW hG rest har
 refine ⟨a,h1,har,?_⟩
 rw [x6 this.1 hc this.2 h2]
 exact h3
end
noncomputable def leastF (G:List B64) (most:Nat):Nat→B64→List Int
 | 0,_=>[]
 | f+1,rest=>match (List.range G.length).find? (fun a=>rest.getLsbD a&&decide (widV G (compB G rest a&&& ~~~(BitVec.twoPow 64 a))≤most)) with
   | some a=>(a:Int)::leastF G most f (rest&&& ~~~(BitVec.twoPow 64 a))
   | none=>[]
noncomputable def leastL (G:List B64):List Int:=leastF G (widV G (gI G.length)) G.length (gI G.length)
theorem jK {x:B64} {a:Nat} (h:x.getLsbD a=true):cC (x&&& ~~~(BitVec.twoPow 64 a))+1=cC x:=by
 unfold cC
 have key:∀ k,(List.range k).countP (fun i=>(x&&& ~~~(BitVec.twoPow 64 a)).getLsbD i)+(if a<k then 1 else 0)=(List.range k).countP fun i=>x.getLsbD i:=by
  intro k
  induction k with
  | zero=>simp
  | succ k ih=>
    rw [List.range_succ,List.countP_append,List.countP_append, ← ih,List.countP_singleton,List.countP_singleton,bA]
    by_cases e:a=k
    ·subst e;simp [h]
    ·by_cases h2:x.getLsbD k=true
     ·by_cases h3:a<k
      ·simp [h2,e,h3,Nat.lt_succ_of_lt h3]<;>omega
      ·simp [h2,e,h3,show ¬ a<k+1 by omega]
     ·by_cases h3:a<k
      ·simp [h2,h3,Nat.lt_succ_of_lt h3]
      ·simp [h2,h3,show ¬ a<k+1 by omega]
 have:=key 64
 rw [if_pos (cq h)] at this
 exact this
end
section
open Go.RowKit Mk
set_option maxHeartbeats 4000000
theorem qI (x:B64):FnP Tryz.prog 252 [bz x] (· = .int .i64 (cC x)):=by
 refine FnP.of func252 rfl ntmps252 (by simp) fun m0 w0 F R0=>?_
 refine Z1 rfl rfl ?_
 refine Z1 rfl rfl ?_
 refine Gl rfl (st:=fun x_0:B64×Nat=>mkS [(0,.pv (bz x_0.1)),(3,.pv (.int .i64 x_0.2))] [] 0)
  (I:=fun x_0=>x_0.2+cC x_0.1=cC x) (μ:=fun x_0=>cC x_0.1) (x0:=(x,0)) (Io (aS rfl) trivial rfl rfl) (by simp) ?_
 rintro ⟨y,k⟩ hk
 try simp only at hk ⊢
 have h64:=jk x
 refine Z1 rfl rfl ?_
 refine Rs 5 rfl rfl (nA (Y:=0#64) rfl rfl) ?_
 refine Gp rfl rfl (fun hc5=>?_) (fun hc5=>?_)
 ·have hp:=Dp hc5
  refine Il ?_
  refine Z3 rfl rfl rfl rfl ?_
  refine Z2 rfl rfl rfl ?_
  refine Rs 8 rfl rfl (zx (Y:=1#64) rfl rfl) ?_
  refine Rs 9 rfl rfl (nK rfl rfl) ?_
  refine A1 rfl ?_
  exact ⟨(y&&&(y-1#64),k+1),Io (aS rfl) trivial rfl rfl,by simp only;omega,by simp only;omega⟩
 ·have hz:y=0#64:=Classical.byContradiction hc5
  subst hz
  refine Gx rfl ?_
  refine Z2 rfl rfl rfl ?_
  refine Gt rfl ?_
  exact ⟨_,_,rfl,rfl,by rw [← hk];rfl⟩
theorem A7 (G:List B64) (hG:GOk G) (c:B64):FnP Tryz.prog 221 [bS G,bz c] (· = .int .i64 (keyN G c)):=by
 refine FnP.of func221 rfl ntmps221 (by simp) fun m0 w0 F R0=>?_
 have h12:=hG.n
 refine Z1 rfl rfl ?_
 refine Z1 rfl rfl ?_
 refine Z3 rfl rfl rfl rfl ?_
 refine Gl rfl (st:=fun x_0:Nat×B64=>mkS [(1,.pv (bz c)),(5,.pv (bz x_0.2)),(8,.pv (bS G)),(9,.pv (.int .i64 G.length)),(10,.pv (.int .i64 x_0.1))] [] 0)
  (I:=fun x_0=>x_0.1≤G.length∧∀ i,x_0.2.getLsbD i=(List.range x_0.1).any fun b=>c.getLsbD b&&(G.getD b 0#64).getLsbD i) (μ:=fun x_0=>G.length-x_0.1) (x0:=(0,0#64)) (Io (aS rfl) trivial rfl rfl) (⟨Nat.zero_le _,fun c=>by simp⟩) ?_
 rintro ⟨k,near⟩ ⟨hk,hnear⟩
 try simp only at hk hnear ⊢
 refine Z1 rfl rfl ?_
 refine Gp rfl rfl (fun hc11=>?_) (fun hc11=>?_)
 ·have hlt:k<G.length:=by omega
  have hv:=fJ hlt
  have hne:=gN hlt
  refine Il ?_
  refine Z2 rfl rfl rfl ?_
  first | refine A2 rfl (by assumption) ?_ | refine A1 rfl ?_
  refine Y2 rfl rfl ?_
  refine Z2 rfl rfl rfl ?_
  refine Rs 17 rfl rfl (ae call130 (lr c k (by omega)) rfl) ?_
  refine Gc rfl rfl (fun hc17=>?_) (fun hc17=>?_)
  ·refine Z2 rfl rfl rfl ?_
   refine Rs 20 rfl rfl (kW rfl rfl) ?_
   refine A1 rfl ?_
   refine Z2 rfl rfl rfl ?_
   exact ⟨(k+1,near|||G[k]),Io (aS rfl) trivial rfl rfl,⟨by simp only;omega,fun i=>(ir (hnear i) hlt).1 hc17⟩,by simp only;omega⟩
  ·refine Il ?_
   refine Z2 rfl rfl rfl ?_
   exact ⟨(k+1,near),Io (aS rfl) trivial rfl rfl,⟨by simp only;omega,fun i=>(ir (hnear i) hlt).2 hc17⟩,by simp only;omega⟩
 ·have hkG:k=G.length:=by omega
  rw [hkG] at hnear
  have hnb:near=nearB G c:=by apply BitVec.eq_of_getLsbD_eq;intro i hi;unfold nearB;rw [fN _ hi,hnear]
  subst hnb
  refine Gx rfl ?_
  refine Z2 rfl rfl rfl ?_
  refine Rs 24 rfl rfl (cv rfl rfl) ?_
  refine Rs 25 rfl rfl (ae call252 (qI _) rfl) ?_
  refine A1 rfl ?_
  refine Gt rfl ?_
  exact ⟨_,_,rfl,rfl,rfl⟩
abbrev Bq (M:List (B64×Nat)):Ob:= .mp (M.map fun p=>bz p.1) (M.map fun p=> .int .i64 (p.2:Int))
def np (G:List B64) (M:List (B64×Nat)):Prop:=∀ p∈M,p.2=partV G p.1
abbrev finV (G:List B64):V:= .agg [.pv (bS G),.map big]
theorem CO (x y:B64):keq (bz x) (bz y)=some (decide (x=y)):=by
 simp only [keq,bz]
 show some (_==_)=_
 rw [nt]
theorem gP (c:B64):∀ (M:List (B64×Nat)) (i:Nat),(∃ r,dR (bz c) (M.map fun p=>bz p.1) i=some r)∧(dR (bz c) (M.map fun p=>bz p.1) i=some none→∀ p∈M,p.1≠c)∧(∀ j,dR (bz c) (M.map fun p=>bz p.1) i=some (some j)→i≤j∧∃ w,M[j-i]? =some (c,w))
 | [],i=>⟨⟨none,rfl⟩,fun _=>by simp,fun j h=>by simp [dR] at h⟩
 | p::M,i=>by
   obtain ⟨h1,h2,h3⟩:=gP c M (i+1)
   simp only [List.map_cons,dR,CO]
   by_cases e:c=p.1
   ·rw [decide_eq_true e]
    refine ⟨⟨_,rfl⟩,fun h=>by simp at h,fun j h=>?_⟩
    simp at h
    subst h
    exact ⟨Nat.le_refl _,p.2,by simp [e]⟩
   ·rw [decide_eq_false e]
    refine ⟨h1,fun h q hq=>?_,fun j h=>?_⟩
    ·rcases List.mem_cons.1 hq with rfl | hq
     ·exact fun e'=>e e'.symm
     ·exact h2 h q hq
    ·obtain ⟨h4,w,h5⟩:=h3 j h
     exact ⟨by omega,w,by rw [show j-i=(j-(i+1))+1 by omega];simpa using h5⟩
theorem zU {G:List B64} {M:List (B64×Nat)} (hM:np G M) (c:B64):qH (bz c) (M.map fun p=>bz p.1) (M.map fun p=> .int .i64 (p.2:Int))=some (if ∃ p∈M,p.1=c then some (.int .i64 (partV G c)) else none):=by
 obtain ⟨⟨r,h1⟩,h2,h3⟩:=gP c M 0
 unfold qH
 rw [h1]
 cases r with
 | none=>
   have:=h2 h1
   rw [if_neg (fun ⟨p,hp,e⟩=>this p hp e)]
 | some j=>
   obtain ⟨_,w,h4⟩:=h3 j h1
   simp only [Nat.sub_zero] at h4
   have hm:=List.mem_of_getElem? h4
   rw [if_pos ⟨_,hm,rfl⟩]
   have hw:w=partV G c:=hM _ hm
   simp [h4,hw]
theorem BS {G:List B64} {M:List (B64×Nat)} (hM:np G M) (c:B64):∃ M',np G M'∧s6 (bz c) (M.map fun p=>bz p.1)=M'.map (fun p=>bz p.1)∧tg (bz c) (.int .i64 (partV G c:Nat)) (M.map fun p=>bz p.1) (M.map fun p=> .int .i64 (p.2:Int))=M'.map fun p=> .int .i64 (p.2:Int):=by
 obtain ⟨⟨r,h1⟩,_,_⟩:=gP c M 0
 unfold s6 tg
 rw [h1]
 cases r with
 | none=>
   refine ⟨M++[(c,partV G c)],fun p hp=>?_,by simp,by simp⟩
   rcases List.mem_append.1 hp with h | h
   ·exact hM p h
   ·rw [List.mem_singleton.1 h]
 | some j=>
   refine ⟨M.set j (c,partV G c),fun p hp=>?_,by simp [List.map_set],by simp [List.map_set]⟩
   rcases List.mem_or_eq_of_mem_set hp with h | h
   ·exact hM p h
   ·rw [h]
theorem xR (a b:Nat):(if (b:Int)>(a:Int) then (b:Int) else (a:Int))=((max a b:Nat):Int):=by split<;>omega
theorem EZ (a b:Nat):(if (b:Int)<(a:Int) then (b:Int) else (a:Int))=((min a b:Nat):Int):=by split<;>omega
def QW (G:List B64) (x:Nat) (v:V) (ob':Nat→Option Ob):Prop:=∃ M',np G M'∧v= .pv (.int .i64 (x:Int))∧ob'=ar [(big,Bq M')]
def AF (P:Program) (f:FuncId) (G:List B64) (rest:B64) (x:Nat):Prop:=∀ M,np G M→FnO P f 1 0 [finV G,.pv (bz rest)] [(big,Bq M)] (QW G x)
theorem ux (G:List B64) (hG:GOk G) (rest:B64) (hr:InB G.length rest) (hp:∀ d,Comp (eu G) rest d→AF Tryz.prog 183 G d (partV G d)):AF Tryz.prog 129 G rest (widV G rest):=by
 intro M hM
 refine FnO.of func129 rfl ntmps129 (by simp) fun m0 w0 F R0=>?_
 have h12:=hG.n
 have hcs:=lO G h12 rest
 have hmem:=fun d=>fm hG hr (d:=d)
 have hwd:widV G rest=(compsN G rest G.length).1.foldl (fun z c=>max z (partV G c)) 0:=rfl
 have hcl:=gU G rest G.length
 generalize (compsN G rest G.length).1=cs at*
 have hbd:∀ d∈cs,partV G d≤12:=fun d hd=>Nat.le_trans (sM hG _ d (Nat.le_refl _) (fun i hi=>hr i (((hmem d).1 hd).sub i hi)) ((hmem d).1 hd).ne) h12
 refine Z2 rfl rfl rfl ?_
 refine Z1 rfl rfl ?_
 refine Z3 rfl rfl rfl rfl ?_
 refine Rs 11 rfl rfl (ae call182 hcs rfl) ?_
 refine Y2 rfl rfl ?_
 refine Gl rfl (st:=fun x_0:Nat×Nat×List (B64×Nat)=>mkS [(2,.ptr 0 0),(5,.pv (.int .i64 x_0.2.1)),(11,.pv (bS cs)),(12,.pv (.int .i64 cs.length)),(13,.pv (.int .i64 x_0.1))] [(big,Bq x_0.2.2),(0,.mix 190 [.pv (bS G),.map big])] 1)
  (I:=fun x_0=>x_0.1≤cs.length∧x_0.2.1=(cs.take x_0.1).foldl (fun z c=>max z (partV G c)) 0∧np G x_0.2.2) (μ:=fun x_0=>cs.length-x_0.1) (x0:=(0,0,M)) (Io (aS rfl) (aO rfl) rfl rfl) (⟨Nat.zero_le _,rfl,hM⟩) ?_
 rintro ⟨k,m,M2⟩ ⟨hk,hm,hM2⟩
 try simp only at hk hm hM2 ⊢
 refine Z1 rfl rfl ?_
 refine Gp rfl rfl (fun hc14=>?_) (fun hc14=>?_)
 ·have hlt:k<cs.length:=by omega
  have hv:=fJ hlt
  have hne:=gN hlt
  have hpk:=hp cs[k] ((hmem _).1 (List.getElem_mem hlt)) M2 hM2
  have hfd:(cs.take (k+1)).foldl (fun z c=>max z (partV G c)) 0=max m (partV G cs[k]):=by rw [bT hlt,List.foldl_append, ← hm];rfl
  refine Il ?_
  refine Z1 rfl rfl ?_
  first | refine A2 rfl (by assumption) ?_ | refine A1 rfl ?_
  refine A1 rfl ?_
  refine Z3 rfl rfl rfl rfl ?_
  refine RL.call rfl (fA [big] 0 call183 hpk rfl rfl rfl rfl ⟨rfl,trivial⟩ (by decide) rfl ?_)
  rintro _ _ ⟨M3,hM3,rfl,rfl⟩
  refine Y2 rfl rfl ?_
  refine Z2 rfl rfl rfl ?_
  exact ⟨(k+1,max m (partV G cs[k]),M3),Io ⟨rfl,congrArg (fun z=>V.pv (.int .i64 z)) (xR _ _),rfl,rfl,rfl,trivial⟩ (aO rfl) rfl rfl,⟨by simp only;omega,hfd.symm,hM3⟩,by simp only;omega⟩
 ·rw [List.take_of_length_le (by omega), ← hwd] at hm
  subst hm
  refine Gx rfl ?_
  refine Z2 rfl rfl rfl ?_
  refine Gt rfl ?_
  exact ⟨[(4,.pv (.int .i64 (widV G rest:Nat)))],[(big,Bq M2)],[.pv (.int .i64 (widV G rest:Nat))],Io (aS rfl) (aO rfl) rfl rfl,rfl,rfl,rfl,M2,hM2,rfl,rfl⟩
theorem DP (G:List B64) (hG:GOk G) (c:B64) (hc:InB G.length c) (hne:∃ i,c.getLsbD i=true) (hw:∀ a,a<G.length→c.getLsbD a=true→AF Tryz.prog 129 G (c&&& ~~~(BitVec.twoPow 64 a)) (widV G (c&&& ~~~(BitVec.twoPow 64 a)))):AF Tryz.prog 183 G c (partV G c):=by
 intro M hM
 refine FnO.of func183 rfl ntmps183 (by simp) fun m0 w0 F R0=>?_
 have h12:=hG.n
 have hlk:=zU hM c
 have hpe:=sc hG hc hne
 have hmb:∀ k,minW (widV G) G c k≤G.length+1:=fun k=>gh.2 (.inl (Nat.le_refl _))
 have hkb:keyN G c≤64:=jk _
 refine Z2 rfl rfl rfl ?_
 by_cases hm:∃ p∈M,p.1=c
 ·rw [if_pos hm] at hlk
  refine Z3 rfl rfl rfl rfl ?_
  refine Rs 13 rfl rfl (cg (zp:= .int .i64 0) underlying188 underlying191 (.inl ⟨big,rfl,rfl⟩) rfl rfl Hy rfl hlk rfl rfl) ?_
  iterate 5 refine A1 rfl ?_
  refine Z1 rfl rfl ?_
  refine Gc rfl rfl (fun hc16=>?_) (fun hc16=>absurd hc16 (by simp))
  refine Z2 rfl rfl rfl ?_
  refine Gt rfl ?_
  exact ⟨[(4,.pv (.int .i64 (partV G c:Nat)))],[(big,Bq M)],[.pv (.int .i64 (partV G c:Nat))],Io (aS rfl) (aO rfl) rfl rfl,rfl,rfl,rfl,M,hM,rfl,rfl⟩
 ·rw [if_neg hm] at hlk
  refine Z3 rfl rfl rfl rfl ?_
  refine Rs 13 rfl rfl (cg (zp:= .int .i64 0) underlying188 underlying191 (.inl ⟨big,rfl,rfl⟩) rfl rfl Hy rfl hlk rfl rfl) ?_
  iterate 5 refine A1 rfl ?_
  refine Z1 rfl rfl ?_
  refine Gc rfl rfl (fun hc16=>absurd hc16 (by simp)) (fun hc16=>?_)
  refine Il ?_
  refine Gr rfl ?_
  iterate 5 refine A1 rfl ?_
  refine Z4 rfl rfl rfl rfl rfl ?_
  refine Gl rfl (st:=fun x_0:Nat×List (B64×Nat)=>mkS [(1,.pv (bz c)),(2,.ptr 0 0),(7,.pv (.int .i64 (minW (widV G) G c x_0.1:Nat))),(24,.pv (.int .i64 G.length)),(25,.pv (.int .i64 x_0.1))] [(big,Bq x_0.2),(0,.mix 190 [.pv (bS G),.map big])] 1)
   (I:=fun x_0=>x_0.1≤G.length∧np G x_0.2) (μ:=fun x_0=>G.length-x_0.1) (x0:=(0,M)) (Io (aS rfl) (aO rfl) rfl rfl) (⟨Nat.zero_le _,hM⟩) ?_
  rintro ⟨k,M2⟩ ⟨hk,hM2⟩
  try simp only at hk hM2 ⊢
  refine Z1 rfl rfl ?_
  refine Gp rfl rfl (fun hc26=>?_) (fun hc26=>?_)
  ·have hlt:k<G.length:=by omega
   have hms:=iw (widV G) G c k
   refine Il ?_
   refine Z2 rfl rfl rfl ?_
   refine Z2 rfl rfl rfl ?_
   refine Rs 30 rfl rfl (ae call130 (lr c k (by omega)) rfl) ?_
   refine Gc rfl rfl (fun hc30=>?_) (fun hc30=>?_)
   ·rw [if_pos hc30] at hms
    have hwk:=hw k hlt hc30 M2 hM2
    refine Ge rfl follows [0,1,2,3,4,5,6,7,8] (by kernel_rfl) ?_
    iterate 4 refine D1 rfl rfl ?_
    refine Ds 35 [] rfl rfl rfl (fun τ h=>ae call132 (fi k (by omega)) (h.bt rfl)) rfl (by kernel_rfl) ?_
    refine Ds 36 [] rfl rfl rfl (fun τ h=>cv (Ee h 0 rfl rfl) (Ee h 1 rfl rfl)) rfl (by kernel_rfl) ?_
    refine DL.rel (RO [big] 0 0 (QW G (widV G (c&&& ~~~(BitVec.twoPow 64 k))))) [big] [] [big] rfl rfl rfl (fun τ h=>relO [big] 0 call129 hwk (h.args.trans rfl) rfl rfl rfl ⟨Eo h 0 rfl rfl,trivial⟩ (by decide) rfl) rfl (by kernel_rfl) (by kernel_rfl) (by kernel_rfl) ?_
    rintro _ ⟨_,_,⟨M3,hM3,rfl,rfl⟩,rfl⟩ _ _
    iterate 2 refine D1 rfl rfl ?_
    refine ⟨by kernel_rfl,?_⟩
    refine Z2 rfl rfl rfl ?_
    exact ⟨(k+1,M3),Io ⟨rfl,rfl,congrArg (fun z=>V.pv (.int .i64 z)) ((EZ _ _).trans (by rw [hms])),rfl,rfl,trivial⟩ (aO rfl) rfl rfl,⟨by simp only;omega,hM3⟩,by simp only;omega⟩
   ·rw [if_neg (by rw [hc30];decide)] at hms
    refine Il ?_
    refine Z2 rfl rfl rfl ?_
    exact ⟨(k+1,M2),Io ⟨rfl,rfl,by simp only [hms];rfl,rfl,rfl,trivial⟩ (aO rfl) rfl rfl,⟨by simp only;omega,hM2⟩,by simp only;omega⟩
  ·have hkG:k=G.length:=by omega
   subst hkG
   obtain ⟨M4,hM4,hpk,hpv⟩:=BS hM2 c
   obtain ⟨⟨r,hkf⟩,_,_⟩:=gP c M2 0
   have hmk:=hmb G.length
   refine Gx rfl ?_
   refine Z4 rfl rfl rfl rfl rfl ?_
   refine Rs 44 rfl rfl (ae call221 (A7 G hG c) rfl) ?_
   refine A1 rfl ?_
   refine Rs 46 rfl rfl (XJ.cast (v':= .pv (.int .i64 (partV G c:Nat))) (yX rfl rfl) (congrArg (fun z=>V.pv (.int .i64 z)) ((xR _ (keyN G c+1)).trans (by rw [hpe])))) ?_
   refine A1 rfl ?_
   refine Z4 rfl rfl rfl rfl rfl ?_
   refine RL.step (d:=none) rfl rfl (ed underlying188 underlying191 rfl rfl rfl rfl rfl hkf hpk hpv) ?_
   refine Z2 rfl rfl rfl ?_
   refine Gt rfl ?_
   exact ⟨[(4,.pv (.int .i64 (partV G c:Nat)))],[(big,Bq M4)],[.pv (.int .i64 (partV G c:Nat))],Io (aS rfl) (aO rfl) rfl rfl,rfl,rfl,rfl,M4,hM4,rfl,rfl⟩
theorem sT (G:List B64) (hG:GOk G):∀ (k:Nat) (rest:B64),cC rest≤k→InB G.length rest→AF Tryz.prog 129 G rest (widV G rest)
 | 0,rest,h,hr=>ux G hG rest hr fun d hd=>by
   obtain ⟨i,hi⟩:=hd.ne
   have:=n5 (hd.sub i hi)
   omega
 | k+1,rest,h,hr=>ux G hG rest hr fun d hd=>DP G hG d (fun i hi=>hr i (hd.sub i hi)) hd.ne fun a ha hda=>sT G hG k _ (by
   have h1:=jK hda
   have h2:=C2 hd.sub
   omega) (InB.diff (fun i hi=>hr i (hd.sub i hi)) a)
end
section
open Go.RowKit Mk Jn
set_option maxHeartbeats 4000000
def gG (X:B64) (k:Nat):List Int:=((List.range k).filter fun a=>X.getLsbD a).map Int.ofNat
theorem lU (X:B64) (k:Nat):gG X (k+1)=gG X k++if X.getLsbD k=true then [(k:Int)] else []:=by
 unfold gG
 rw [List.range_succ,List.filter_append,List.map_append]
 by_cases h:X.getLsbD k=true
 ·simp [List.filter_cons,h]
 ·simp [List.filter_cons,h]
theorem DF {X:B64} {a:Nat} (h:X>>>a=0#64):∀ b,a≤b→X.getLsbD b=false:=by
 intro b hb
 have:=congrArg (fun z=>z.getLsbD (b-a)) h
 simp only [BitVec.getLsbD_ushiftRight,BitVec.getLsbD_zero] at this
 rwa [show a+(b-a)=b by omega] at this
theorem Gv {n:Nat} {X:B64} (h:InB n X):X>>>n=0#64:=by
 apply BitVec.eq_of_getLsbD_eq
 intro i hi
 simp only [BitVec.getLsbD_ushiftRight,BitVec.getLsbD_zero]
 cases hb:X.getLsbD (n+i) with
 | false=>rfl
 | true=>have:=h _ hb;omega
theorem ze {X:B64} {a n:Nat} (h:X>>>a=0#64) (ha:a≤n):gG X n=gG X a:=by
 induction n with
 | zero=>rw [show a=0 by omega]
 | succ n ih=>
   rcases Nat.lt_or_ge n a with h1 | h1
   ·rw [show a=n+1 by omega]
   ·rw [lU,DF h n h1,if_neg (by simp),List.append_nil,ih h1]
theorem Bc (X:B64) (n:Nat) (hn:n≤60) (hX:InB n X):FnP Tryz.prog 254 [bz X] (· =ak (gG X n)):=by
 refine FnP.of func254 rfl ntmps254 (by simp) fun m0 w0 F R0=>?_
 have hso:=Gv hX
 refine Z1 rfl rfl ?_
 refine Z1 rfl rfl ?_
 refine Im (Iu 3 0 1 3 rfl rfl) ?_
 refine Z1 rfl rfl ?_
 refine Gl rfl (st:=fun x_0:Nat×List Int=>mkS [(0,.pv (bz X)),(3,.gsl 0 1 x_0.2.length),(4,.pv (.int .i64 x_0.1))] [(0,.gro 3 (aE x_0.2))] 1)
  (I:=fun x_0=>(x_0.1≤n∧x_0.2.length≤x_0.1)∧x_0.2=gG X x_0.1) (μ:=fun x_0=>n-x_0.1) (x0:=(0,[])) (Io (aS rfl) (aO rfl) rfl rfl) (⟨⟨Nat.zero_le _,Nat.le_refl _⟩,rfl⟩) ?_
 rintro ⟨a,q⟩ ⟨⟨ha,hqa⟩,hq⟩
 try simp only at ha hqa hq ⊢
 refine Z2 rfl rfl rfl ?_
 refine Rs 7 rfl rfl (xU a rfl rfl rfl (by omega)) ?_
 refine Rs 8 rfl rfl (nA (Y:=0#64) rfl rfl) ?_
 refine Gp rfl rfl (fun hc8=>?_) (fun hc8=>?_)
 ·have hlt:a<n:=by rcases Nat.lt_or_ge a n with h | h;exact h;exact absurd (by rw [show a=n by omega];exact hso) hc8
  have hsl:(aE q).length=q.length*1:=by simp
  have hls:=lU X a
  refine Il ?_
  refine Z2 rfl rfl rfl ?_
  refine Rs 13 rfl rfl (ae call130 (lr X a (by omega)) rfl) ?_
  refine Gc rfl rfl (fun hc13=>?_) (fun hc13=>?_)
  ·refine Gr rfl ?_
   iterate 5 refine A1 rfl ?_
   refine Z3 rfl rfl rfl rfl ?_
   exact ⟨(a+1,q++[(a:Int)]),Ip [2] ⟨rfl,congrArg (fun n=>V.gsl 2 1 n) (bW q _),rfl,trivial⟩ ⟨congrArg (fun c=>some (Ob.gro 3 c)) (by simp),trivial⟩ rfl rfl (by decide) rfl,⟨⟨by simp only;omega,by simp only [List.length_append,List.length_singleton];omega⟩,by simp only;rw [hls,if_pos hc13, ← hq]⟩,by simp only;omega⟩
  ·refine Il ?_
   refine Z3 rfl rfl rfl rfl ?_
   exact ⟨(a+1,q),Io (aS rfl) (aO rfl) rfl rfl,⟨⟨by simp only;omega,by simp only;omega⟩,by simp only;rw [hls,if_neg (by rw [hc13];decide),List.append_nil, ← hq]⟩,by simp only;omega⟩
 ·have hz:X>>>a=0#64:=Classical.byContradiction hc8
  rw [← ze hz ha] at hq
  refine Im (Ir 0 rfl rfl) ?_
  refine Gx rfl ?_
  refine Z2 rfl rfl rfl ?_
  refine Gt rfl ?_
  exact ⟨_,_,rfl,rfl,by rw [← hq];rfl⟩
def bg {α:Type} (D:List α) (us:List (Nat×α)):List α:=us.foldl (fun D u=>D.set u.1 u.2) D
theorem cA {α:Type} (D:List α) (us:List (Nat×α)):(bg D us).length=D.length:=by
 unfold bg
 induction us generalizing D with
 | nil=>rfl
 | cons u us ih=>rw [List.foldl_cons,ih,List.length_set]
theorem eD {α:Type} (D:List α) (us vs:List (Nat×α)):bg D (us++vs)=bg (bg D us) vs:=List.foldl_append
section
variable (P:List Int) (G:List B64)
def eW:Nat→Int→B64
 | 0,v=>G.getD v.toNat 0#64
 | k+1,v=>(al P v).foldl (fun z c=>z|||eW k c) (G.getD v.toNat 0#64)
def fY:Nat→Int→List Int
 | 0,v=>[v]
 | k+1,v=>v::(al P v).flatMap (fY k)
def ri:Nat→Int→B64→List (Nat×Int)
 | 0,v,ab=>[(v.toNat,(cC ab:Int))]
 | k+1,v,ab=>(v.toNat,(cC ab:Int))::(al P v).flatMap fun c=>ri k c (ab|||BitVec.twoPow 64 v.toNat)
def fQ (n:Nat):Nat→Int→B64→List (Nat×List Int)
 | 0,v,ab=>[(v.toNat,gG (eW P G 0 v&&&ab) n)]
 | k+1,v,ab=>((al P v).flatMap fun c=>fQ n k c (ab|||BitVec.twoPow 64 v.toNat))++[(v.toNat,gG (eW P G (k+1) v&&&ab) n)]
end
abbrev layA (G:List B64) (v:Int) (ab:B64):List V:=[.pv (.int .i64 v),.pv (bz ab),.ptr big 0,.ptr 1000004 0,.pv (.rp [bS G] 0),.ptr 1000006 0]
abbrev Fc (n:Nat) (G:List B64) (chs:List (List Int)) (w:Nat) (L:List Int) (D:List Int) (K:List (List Int)) (hs:List PV):List (Nat×Ob):=[(big,.mix 144 [.pv (bu chs),.osl 1000001 1 n,.osl 1000002 1 n,.gsl w 1 L.length]),(1000001,.cells 22 (K.map ak)),(1000002,.cells 22 hs),(w,.gro 3 (aE L)),(1000004,.mix 22 [.osl 1000005 1 n]),(1000005,.cells 3 (aE D)),(1000006,.mix 294 [.fn (.func 253) [] [.ptr big 0,.ptr 1000004 0,.pv (.rp [bS G] 0),.ptr 1000006 0]])]
theorem nw2 {av:Av} {b:Nat} (h0:av b=true) (h1:av (b+1)=true):(nwO b 2).all av=true:=by
 show (av (b+0)&&(av (b+1)&&true))=true
 rw [Nat.add_zero,h0,h1];rfl
theorem oO {n:Nat} {NR:Int→B64}:∀ (cs:List Int) (g:B64),InB n g→(∀ c∈cs,InB n (NR c))→InB n (cs.foldl (fun z c=>z|||NR c) g)
 | [],g,hg,_=>hg
 | c::cs,g,hg,h=>by
   rw [List.foldl_cons]
   refine oO cs _ (fun i hi=>?_) fun d hd=>h d (by simp [hd])
   rw [BitVec.getLsbD_or,Bool.or_eq_true] at hi
   rcases hi with hi | hi
   ·exact hg i hi
   ·exact h c (by simp) i hi
theorem eC {α:Type} {cs:List Int} {j:Nat} (h:j<cs.length) (f:Int→List α):(cs.take (j+1)).flatMap f=(cs.take j).flatMap f++f cs[j]:=by
 rw [List.take_succ_eq_append_getElem h,List.flatMap_append];simp
theorem vo {α:Type} (f:Int→List α) (cs:List Int) (j:Nat):((cs.take j).flatMap f).length≤(cs.flatMap f).length:=by
 have e:cs.flatMap f=(cs.take j).flatMap f++(cs.drop j).flatMap f:=by rw [← List.flatMap_append,List.take_append_drop]
 rw [e,List.length_append];omega
theorem lP (n:Nat) (hn:n≤12) (G:List B64) (hGn:G.length=n) (chs:List (List Int)) (hcl:chs.length≤64) (v:Nat) (hv:v<n) (hvc:v<chs.length) (CS:List Int) (hCS:chs[v]=CS) (hCl:CS.length≤64) (hCm:∀ c∈CS,∃ m:Nat,c=(m:Int)) (ab:B64)
  (NR:Int→B64) (WS:Int→List Int) (DU:Int→List (Nat×Int)) (KU:Int→List (Nat×List Int)) (hg:InB n (G[v]'(by omega))) (hNR:∀ c∈CS,InB n (NR c)) (hs:List PV)
  (hrec:∀ c∈CS,∀ (L D:List Int) (K:List (List Int)),D.length=n→K.length=n→L.length+(WS c).length≤1000→FnO Tryz.prog 253 7 2 (layA G c (ab|||BitVec.twoPow 64 v)) (Fc n G chs 1000003 L D K hs) (fun r ob'=>r= .pv (bz (NR c))∧ob'=ar (Fc n G chs 1 (L++WS c) (bg D (DU c)) (bg K (KU c)) hs)))
  (L D:List Int) (K:List (List Int)) (hD:D.length=n) (hK:K.length=n) (hL:L.length+1+(CS.flatMap WS).length≤1000):
  FnO Tryz.prog 253 7 2 (layA G v ab) (Fc n G chs 1000003 L D K hs) (fun r ob'=>r= .pv (bz (CS.foldl (fun z c=>z|||NR c) (G[v]'(by omega))))∧ob'=ar (Fc n G chs 1 (L++(v:Int)::CS.flatMap WS) (bg (D.set v (cC ab)) (CS.flatMap DU)) ((bg K (CS.flatMap KU)).set v (gG (CS.foldl (fun z c=>z|||NR c) (G[v]'(by omega))&&&ab) n)) hs)):=by
 refine FnO.of func253 rfl ntmps253 (by simp) fun m0 w0 F R0=>?_
 have hvG:v<G.length:=by omega
 have hgv:=fJ hvG
 have hgn:=gN hvG
 have hcv:=cM hvc
 have hcn:=cQ hvc
 rw [hCS] at hcv
 have hin:=oO CS G[v] hg hNR
 generalize G[v]=g0 at*
 have hlist:=Bc (CS.foldl (fun z c=>z|||NR c) g0&&&ab) n (by omega) (fun i hi=>hin i (by rw [BitVec.getLsbD_and,Bool.and_eq_true] at hi;exact hi.1))
 have hDl:(aE D).length=n:=by rw [List.length_map,hD]
 have hpl:=jk ab
 refine Z1 rfl rfl ?_
 have hsl0:(aE L).length=L.length*1:=by simp
 refine Z1 rfl rfl ?_
 first | refine A1 rfl ?_ | refine A2 rfl (by assumption) ?_
 iterate 5 refine A1 rfl ?_
 refine Ge rfl follows [0,1,2,3,4,5] (by kernel_rfl) ?_
 first | refine D1 rfl rfl ?_ | refine D2 rfl rfl (by assumption) ?_
 iterate 2 refine D1 rfl rfl ?_
 refine Ds 21 [] rfl rfl rfl (fun τ h=>ae call252 (qI _) (h.bt rfl)) rfl (by kernel_rfl) ?_
 refine Ds 22 [_] rfl rfl rfl (fun τ h=>aa v underlying22 sz3 (Ee h 0 rfl rfl) (Eo h 0 rfl rfl) (Ee h 1 rfl rfl) rfl (by omega)) rfl (by kernel_rfl) ?_
 refine DL.step (d:=none) [_] rfl rfl rfl (fun τ h=>aF sz3 (Ee h 0 rfl rfl) (Eo h 0 rfl rfl) (Ee h 1 rfl rfl) rfl (by omega)) rfl (by kernel_rfl) ?_
 refine ⟨by kernel_rfl,?_⟩
 refine Gr rfl ?_
 first | refine A1 rfl ?_ | refine A2 rfl (by assumption) ?_
 refine A1 rfl ?_
 refine Rs 25 rfl rfl (ag v underlying186 BC rfl rfl rfl hvG hgn) ?_
 refine Rs 26 rfl rfl (ai ⟨_,underlying191,rfl⟩ rfl hgv) ?_
 refine A1 rfl ?_
 refine Z1 rfl rfl ?_
 first | refine A1 rfl ?_ | refine A2 rfl (by assumption) ?_
 refine A1 rfl ?_
 refine Rs 30 rfl rfl (ag v underlying142 ly rfl rfl rfl hvc hcn) ?_
 refine Rs 31 rfl rfl (ai ⟨_,underlying22,rfl⟩ rfl hcv) ?_
 refine Y2 rfl rfl ?_
 refine Gl rfl (st:=fun x_0:Nat×List Int×List Int×List (List Int)=>mkS [(0,.pv (.int .i64 v)),(1,.pv (bz ab)),(2,.ptr big 0),(5,.ptr 1000006 0),(9,.pv (bz ((CS.take x_0.1).foldl (fun z c=>z|||NR c) g0))),(31,.pv (ak CS)),(32,.pv (.int .i64 CS.length)),(33,.pv (.int .i64 x_0.1))] [(big,.mix 144 [.pv (bu chs),.osl 1000001 1 n,.osl 1000002 1 n,.gsl 1 1 x_0.2.1.length]),(1,.gro 3 (aE x_0.2.1)),(1000001,.cells 22 (x_0.2.2.2.map ak)),(1000002,.cells 22 hs),(1000004,.mix 22 [.osl 1000005 1 n]),(1000005,.cells 3 (aE x_0.2.2.1)),(1000006,.mix 294 [.fn (.func 253) [] [.ptr big 0,.ptr 1000004 0,.pv (.rp [bS G] 0),.ptr 1000006 0]])] 2)
  (I:=fun x_0=>(x_0.1≤CS.length∧x_0.2.1=L++(v:Int)::(CS.take x_0.1).flatMap WS)∧x_0.2.2.1=bg (D.set v (cC ab)) ((CS.take x_0.1).flatMap DU)∧x_0.2.2.2=bg K ((CS.take x_0.1).flatMap KU)) (μ:=fun x_0=>CS.length-x_0.1) (x0:=(0,L++[(v:Int)],D.set v (cC ab),K)) (Io (aS rfl) ⟨Eq.trans (b:=some (.mix 144 [.pv (bu chs),.osl 1000001 1 n,.osl 1000002 1 n,.gsl 1 1 (L.length+1)])) (by kernel_rfl) (congrArg (fun q=>some (Ob.mix 144 [.pv (bu chs),.osl 1000001 1 n,.osl 1000002 1 n,.gsl 1 1 q])) (bW L _)),Eq.trans (b:=some (.gro 3 (aE L++[.int .i64 v]))) (by kernel_rfl) (congrArg (fun c=>some (Ob.gro 3 c)) (by simp)),by kernel_rfl,by kernel_rfl,by kernel_rfl,Eq.trans (b:=some (.cells 3 ((aE D).set (v*1) (.int .i64 (cC ab))))) (by kernel_rfl) (congrArg (fun c=>some (Ob.cells 3 c)) (by simp [List.map_set])),by kernel_rfl,trivial⟩ rfl rfl) (⟨⟨Nat.zero_le _,rfl⟩,rfl,rfl⟩) ?_
 rintro ⟨j,M,D2,K2⟩ ⟨⟨hj,hM⟩,hD2,hK2⟩
 try simp only at hj hM hD2 hK2 ⊢
 refine Z1 rfl rfl ?_
 refine Gp rfl rfl (fun hc34=>?_) (fun hc34=>?_)
 ·have hlt:j<CS.length:=by omega
  have hcm:=List.getElem_mem hlt
  obtain ⟨c,hc⟩:=hCm _ hcm
  have hpv:(aE CS)[j*1]? =some (.int .i64 (c:Int)):=by rw [← hc];simp [hlt]
  have hpn:=aH hlt
  have htf:=eC hlt WS
  have htd:=eC hlt DU
  have htk:=eC hlt KU
  have hacc:(CS.take (j+1)).foldl (fun z c=>z|||NR c) g0=(CS.take j).foldl (fun z c=>z|||NR c) g0|||NR CS[j]:=by rw [List.take_succ_eq_append_getElem hlt,List.foldl_append];rfl
  have hfl:((CS.take (j+1)).flatMap WS).length≤(CS.flatMap WS).length:=vo WS CS (j+1)
  have hgo:=hrec _ hcm M D2 K2 (by rw [hD2,cA,List.length_set,hD]) (by rw [hK2,cA,hK]) (by rw [htf,List.length_append] at hfl;rw [hM];simp only [List.length_append,List.length_cons];omega)
  rw [hc] at hgo htf htd htk hacc
  generalize (CS.take j).foldl (fun z c=>z|||NR c) g0=acc at*
  refine Il ?_
  refine Z1 rfl rfl ?_
  refine Rs 36 rfl rfl (ai ⟨_,underlying3,rfl⟩ rfl hpv) ?_
  refine A1 rfl ?_
  refine Ge rfl follows [0,1,2,3,4,5,6,7,8,9] (by kernel_rfl) ?_
  refine D1 rfl rfl ?_
  first | refine D1 rfl rfl ?_ | refine D2 rfl rfl (by assumption) ?_
  iterate 3 refine D1 rfl rfl ?_
  refine Ds 42 [] rfl rfl rfl (fun τ h=>ae call132 (fi v (by omega)) (h.bt rfl)) rfl (by kernel_rfl) ?_
  refine Ds 43 [] rfl rfl rfl (fun τ h=>kW (Ee h 0 rfl rfl) (Ee h 1 rfl rfl)) rfl (by kernel_rfl) ?_
  refine Ds 44 [big,1000001,1000002,1,1000004,1000005,1000006] rfl rfl rfl (fun τ h=>bJ (vs:=[.pv (.int .i64 (c:Int)),.pv (bz (ab|||BitVec.twoPow 64 v))]) [big,1000001,1000002,1,1000004,1000005,1000006] 2 call253 hgo (Ee h 0 rfl rfl) (h.argsY.trans rfl) rfl rfl rfl rfl ⟨(Eo h 0 rfl rfl),(Eo h 1 rfl rfl),(Eo h 2 rfl rfl),(Eo h 3 rfl rfl),(Eo h 4 rfl rfl),(Eo h 5 rfl rfl),(Eo h 6 rfl rfl),trivial⟩ (by decide) (nw2 (h.n 0 _ rfl) (h.n 1 _ rfl))) rfl (by kernel_rfl) ?_
  refine Ds 45 [] rfl rfl rfl (fun τ h=>kW (Ee h 0 rfl rfl) (Ee h 1 rfl rfl)) rfl (by kernel_rfl) ?_
  refine D1 rfl rfl ?_
  refine ⟨by kernel_rfl,?_⟩
  refine Z2 rfl rfl rfl ?_
  exact ⟨(j+1,M++WS (c:Int),bg D2 (DU (c:Int)),bg K2 (KU (c:Int))),Ip [0,3] ⟨rfl,rfl,rfl,rfl,congrArg (fun z=>V.pv (bz z)) hacc.symm,rfl,rfl,rfl,trivial⟩ (aP (by kernel_rfl)) rfl rfl (by decide) rfl,⟨⟨by simp only;omega,by simp only;rw [htf,hM];simp⟩,by simp only;rw [htd,eD, ← hD2],by simp only;rw [htk,eD, ← hK2]⟩,by simp only;omega⟩
 ·rw [show CS.take j=CS from List.take_of_length_le (by omega)] at hM hD2 hK2 ⊢
  have hKl2:(K2.map ak).length=n:=by rw [List.length_map,hK2,cA,hK]
  generalize CS.foldl (fun z c=>z|||NR c) g0=near at*
  refine Gx rfl ?_
  refine Ge rfl follows [0,1,2,3,4,5,6,7,8] (by kernel_rfl) ?_
  refine D1 rfl rfl ?_
  first | refine D1 rfl rfl ?_ | refine D2 rfl rfl (by assumption) ?_
  iterate 3 refine D1 rfl rfl ?_
  refine Ds 52 [] rfl rfl rfl (fun τ h=>nK (Ee h 0 rfl rfl) (Ee h 1 rfl rfl)) rfl (by kernel_rfl) ?_
  refine Ds 53 [] rfl rfl rfl (fun τ h=>ae call254 hlist (h.bt rfl)) rfl (by kernel_rfl) ?_
  refine Ds 54 [_] rfl rfl rfl (fun τ h=>aa v underlying142 ly (Ee h 0 rfl rfl) (Eo h 0 rfl rfl) (Ee h 1 rfl rfl) rfl (by omega)) rfl (by kernel_rfl) ?_
  refine DL.step (d:=none) [_] rfl rfl rfl (fun τ h=>aF ly (Ee h 0 rfl rfl) (Eo h 0 rfl rfl) (Ee h 1 rfl rfl) rfl (by omega)) rfl (by kernel_rfl) ?_
  refine ⟨by kernel_rfl,?_⟩
  refine Z2 rfl rfl rfl ?_
  refine Gt rfl ?_
  exact ⟨[(8,.pv (bz near))],Fc n G chs 1 (L++(v:Int)::CS.flatMap WS) (bg (D.set v (cC ab)) (CS.flatMap DU)) ((bg K (CS.flatMap KU)).set v (gG (near&&&ab) n)) hs,[.pv (bz near)],Io (aS rfl) (by rw [← hM, ← hD2, ← hK2];exact ⟨by kernel_rfl,Eq.trans (b:=some (.cells 22 ((K2.map ak).set (v*1) (ak (gG (near&&&ab) n))))) (by kernel_rfl) (congrArg (fun c=>some (Ob.cells 22 c)) (by simp [List.map_set])),by kernel_rfl,by kernel_rfl,by kernel_rfl,by kernel_rfl,by kernel_rfl,trivial⟩) rfl rfl,rfl,rfl,rfl,rfl,rfl⟩
end
section
open Go.RowKit Mk Jn
def o6 (P:List Int) (k:Nat) (v:Int):List Int:=((List.range k).filter fun a=>P.getD a 0==v).map Int.ofNat
theorem jT (P:List Int) (v:Int):o6 P P.length v=al P v:=by
 unfold o6 al upZ
 rw [List.filter_map]
 rfl
theorem kE (P:List Int) (k:Nat) (v:Int):o6 P (k+1) v=o6 P k v++if P.getD k 0=v then [(k:Int)] else []:=by
 unfold o6
 rw [List.range_succ,List.filter_append,List.map_append]
 by_cases h:P.getD k 0=v
 ·rw [if_pos h,List.filter_cons,if_pos (by rw [h];simp)];rfl
 ·rw [if_neg h,List.filter_cons,if_neg (by simpa using h)];rfl
theorem jI (P:List Int) (k:Nat) (v:Int):(o6 P k v).length≤k:=by
 unfold o6;rw [List.length_map]
 exact Nat.le_trans (List.length_filter_le ..) (by simp)
def lsT (P:List Int) (k:Nat):List (List Int):=(upZ P.length).map (o6 P k)++[o6 P k (-1)]
theorem b7 (P:List Int) (k:Nat):(lsT P k).length=P.length+1:=by simp [lsT,a8]
theorem mJ (P:List Int) (k:Nat) {i:Nat} (h:i<P.length):(lsT P k)[i]'(by rw [b7];omega)=o6 P k i:=by
 unfold lsT
 rw [List.getElem_append_left (by simp [a8,h])]
 simp [upZ]
theorem fG (P:List Int) (k:Nat):(lsT P k)[P.length]'(by rw [b7];omega)=o6 P k (-1):=by
 unfold lsT
 rw [List.getElem_append_right (by simp [a8])]
 simp [a8]
theorem vr (P:List Int):lsT P 0=List.replicate (P.length+1) []:=by
 apply List.ext_getElem
 ·simp [b7]
 ·intro i h1 h2
  rw [List.getElem_replicate]
  by_cases hi:i<P.length
  ·rw [mJ P 0 hi];rfl
  ·have hi':i=P.length:=by rw [b7] at h1;omega
   subst hi'
   rw [fG P 0];rfl
theorem uk {P:List Int} (hP:∀ p∈P, -1≤p∧p<P.length) {k:Nat} (hk:k<P.length) (U:Nat) (hU:(P[k]= -1∧U=P.length)∨(P[k]=(U:Int)∧U<P.length)):
  lsT P (k+1)=(lsT P k).set U ((lsT P k)[U]'(by rw [b7];rcases hU with h | h<;>omega)++[(k:Int)]):=by
 have hkd:P.getD k 0=P[k]:=by simp [List.getD,hk]
 apply List.ext_getElem
 ·simp [b7]
 ·intro i h1 h2
  rw [b7] at h1
  rw [List.getElem_set]
  by_cases hi:i<P.length
  ·rw [mJ P (k+1) hi,kE,hkd]
   by_cases e:U=i
   ·subst e
    rw [if_pos rfl]
    rcases hU with h | h
    ·omega
    ·rw [if_pos h.1,mJ P k hi]
   ·rw [if_neg e,mJ P k hi]
    rcases hU with h | h
    ·rw [if_neg (by rw [h.1];omega),List.append_nil]
    ·rw [if_neg (by rw [h.1];omega),List.append_nil]
  ·have hi':i=P.length:=by omega
   subst hi'
   rw [fG P (k+1),kE,hkd]
   by_cases e:U=P.length
   ·subst e
    rw [if_pos rfl]
    rcases hU with h | h
    ·rw [if_pos h.1,fG P k]
    ·omega
   ·rw [if_neg e,fG P k]
    rcases hU with h | h
    ·omega
    ·rw [if_neg (by rw [h.1];omega),List.append_nil]
def lsP (ls:List (List Int)):List (List PV):=ls.map fun l=>l.map fun i=> .int .i64 i
theorem cZ (ls:List (List Int)):(lsP ls).length=ls.length:=by simp [lsP]
theorem sq (ls:List (List Int)) (U:Nat) (hU:U<ls.length) (x:Int):lsP (ls.set U (ls[U]++[x]))=(lsP ls).set U ((lsP ls)[U]'(by rw [cZ];exact hU)++[.int .i64 x]):=by
 unfold lsP
 rw [List.map_set]
 simp
theorem zo (ls:List (List Int)):chP (lsP ls)=ls.map fun l=> .pv (ak l):=by
 unfold chP lsP
 rw [List.map_map]
 apply List.map_congr_left
 intro l _
 simp
theorem Hv (P:List Int) (k:Nat) {U:Nat} (h:U<(lsP (lsT P k)).length):((lsP (lsT P k))[U]).length≤k:=by
 have h2:U<(lsT P k).length:=by rwa [cZ] at h
 have e:(lsP (lsT P k))[U]=(lsT P k)[U].map fun i=>PV.int .i64 i:=by simp [lsP]
 rw [e,List.length_map]
 by_cases hU:U<P.length
 ·rw [mJ P k hU];exact jI P k _
 ·have:U=P.length:=by rw [b7] at h2;omega
  subst this
  rw [fG P k];exact jI P k _
theorem nF (cs:List V) (j:Nat) (v:V) (h:j<cs.length):eY cs j [v]=cs.set j v:=by
 unfold eY
 rw [List.set_eq_take_append_cons_drop,if_pos h,List.append_assoc]
 rfl
def eX (D:List Int) (l:List Int) (j:Nat):Int:=(l.take j).foldl (fun h a=>if D.getD a.toNat 0>D.getD h.toNat 0 then a else h) (l.headD 0)
theorem wC (D l:List Int) {j:Nat} (h:j<l.length):eX D l (j+1)=if D.getD l[j].toNat 0>D.getD (eX D l j).toNat 0 then l[j] else eX D l j:=by
 unfold eX
 rw [List.take_succ_eq_append_getElem h,List.foldl_append];rfl
theorem pY (D:List Int) {l:List Int} (hl:l≠[]) (j:Nat):eX D l j∈l:=by
 have key:∀ (k:List Int) (h0:Int),(∀ a∈k,a∈l)→h0∈l→k.foldl (fun h a=>if D.getD a.toNat 0>D.getD h.toNat 0 then a else h) h0∈l:=by
  intro k
  induction k with
  | nil=>exact fun h0 _ h=>h
  | cons a k ih=>
    intro h0 hk hh
    rw [List.foldl_cons]
    refine ih _ (fun b hb=>hk b (by simp [hb])) ?_
    split
    ·exact hk a (by simp)
    ·exact hh
 unfold eX
 refine key _ _ (fun a ha=>List.mem_of_mem_take ha) ?_
 cases l with
 | nil=>exact absurd rfl hl
 | cons x l=>simp
def hpL (D:List Int) (S:Sch):List Int:=S.rels.map fun r=>eX D r.2 r.2.length
theorem F9 (D:List Int) (S:Sch):(hpL D S).length=S.rels.length:=by simp [hpL]
def hsT (n:Nat) (H:List Int) (k:Nat):List (List Int):=(upZ n).map (o6 H k)
theorem cP (n:Nat) (H:List Int) (k:Nat):(hsT n H k).length=n:=by simp [hsT,a8]
theorem p6 (n:Nat) (H:List Int) (k:Nat) {i:Nat} (h:i<n):(hsT n H k)[i]'(by rw [cP];exact h)=o6 H k i:=by simp [hsT,upZ]
theorem uy (n:Nat) (H:List Int):hsT n H 0=List.replicate n []:=by
 apply List.ext_getElem
 ·simp [cP]
 ·intro i h1 h2
  rw [List.getElem_replicate,p6 n H 0 (by rwa [cP] at h1)];rfl
theorem Cy {n:Nat} {H:List Int} {k U:Nat} (hk:k<H.length) (hU:U<n) (e:H[k]=(U:Int)):hsT n H (k+1)=(hsT n H k).set U ((hsT n H k)[U]'(by rw [cP];exact hU)++[(k:Int)]):=by
 have hkd:H.getD k 0=H[k]:=by simp [List.getD,hk]
 apply List.ext_getElem
 ·simp [cP]
 ·intro i h1 h2
  rw [cP] at h1
  rw [List.getElem_set,p6 n H (k+1) h1,kE,hkd,e]
  by_cases e2:U=i
  ·subst e2
   rw [if_pos rfl,if_pos rfl,p6 n H k h1]
  ·rw [if_neg e2,if_neg (by omega),List.append_nil,p6 n H k h1]
theorem Hl (n:Nat) (H:List Int) (k:Nat) {U:Nat} (h:U<(lsP (hsT n H k)).length):((lsP (hsT n H k))[U]).length≤k:=by
 have h2:U<(hsT n H k).length:=by rwa [cZ] at h
 have e:(lsP (hsT n H k))[U]=(hsT n H k)[U].map fun i=>PV.int .i64 i:=by simp [lsP]
 rw [e,List.length_map,p6 n H k (by rwa [cP] at h2)]
 exact jI H k _
end
section
open Go.RowKit Mk
set_option maxHeartbeats 4000000
theorem ve {S:Sch} {G:List B64} (hV:Valid S) (h:IsG S G):GOk G:=by
 have h1:G=gr S:=uw hV h
 subst h1
 have h2:=hV.n2
 have e:=A8 hV
 exact ⟨by rw [fR];omega,by rw [e];exact kq S,by rw [e,fR];intro a b h;have:=(ow hV h.2).2;omega⟩
theorem uM (n:Nat) (hn:n≤63):InB n (gI n):=fun i hi=>by rw [fB (by omega),decide_eq_true_iff] at hi;exact hi
structure LInv (G:List B64) (most:Nat) (L:List Int) (rest:B64):Prop where
 inb:InB G.length rest
 wid:widV G rest≤most
 len:L.length+cC rest=G.length
 lst:L++leastF G most (cC rest) rest=leastL G
 nd:L.Nodup
 mem:∀ x∈L,∃ a:Nat,a<G.length∧x=(a:Int)∧rest.getLsbD a=false
 cov:∀ a,a<G.length→(a:Int)∈L∨rest.getLsbD a=true
theorem LInv.first {G:List B64} (hG:GOk G):LInv G (widV G (gI G.length)) [] (gI G.length):=by
 have h12:=hG.n
 have hp:=Ac (n:=G.length) (by omega)
 exact ⟨uM _ (by omega),Nat.le_refl _,by simp [hp],by rw [hp];rfl,by simp,by simp,fun a ha=> .inr (by rw [fB (by omega)];simpa using ha)⟩
theorem LInv.next {G:List B64} (hG:GOk G) {most:Nat} {L:List Int} {rest:B64} (h:LInv G most L rest) {k:Nat} (hk:k<G.length) (hno:∀ b,b<k→¬ (rest.getLsbD b=true∧widV G (compB G rest b&&& ~~~(BitVec.twoPow 64 b))≤most))
  (h1:rest.getLsbD k=true) (h2:widV G (compB G rest k&&& ~~~(BitVec.twoPow 64 k))≤most):LInv G most (L++[(k:Int)]) (rest&&& ~~~(BitVec.twoPow 64 k)):=by
 have hp:=jK h1
 have hfind:(List.range G.length).find? (fun a=>rest.getLsbD a&&decide (widV G (compB G rest a&&& ~~~(BitVec.twoPow 64 a))≤most))=some k:=by
  rw [List.find?_range_eq_some]
  refine ⟨by rw [h1];simpa using h2,by simpa using hk,fun j hj=>?_⟩
  have:=hno j hj
  cases e:rest.getLsbD j with
  | false=>rfl
  | true=>simp;exact Nat.lt_of_not_le fun h=>this ⟨e,h⟩
 refine ⟨h.inb.diff k,Gw hG h.inb h1 h.wid h2,by have:=h.len;simp;omega,?_,?_,fun x hx=>?_,fun a ha=>?_⟩
 ·rw [← h.lst, ← hp]
  simp only [leastF,hfind,List.append_assoc,List.singleton_append]
 ·rw [List.nodup_append]
  refine ⟨h.nd,by simp,fun x hx y hy e=>?_⟩
  rw [List.mem_singleton] at hy
  subst hy e
  obtain ⟨a,_,e,hr⟩:=h.mem _ hx
  have:k=a:=by omega
  subst this
  rw [h1] at hr
  cases hr
 ·rcases List.mem_append.1 hx with hx | hx
  ·obtain ⟨a,ha,e,hr⟩:=h.mem x hx
   exact ⟨a,ha,e,by rw [bA,hr];rfl⟩
  ·exact ⟨k,hk,List.mem_singleton.1 hx,by rw [bA];simp⟩
 ·rcases h.cov a ha with h3 | h3
  ·exact .inl (List.mem_append_left _ h3)
  ·by_cases e:a=k
   ·subst e;exact .inl (by simp)
   ·exact .inr (by rw [bA,h3];simpa using fun e'=>e e'.symm)
theorem LInv.last {G:List B64} {most:Nat} {L:List Int} (h:LInv G most L 0#64):L=leastL G∧L.Perm (upZ G.length):=by
 have h0:cC 0#64=0:=by unfold cC;simp
 have h1:=h.lst
 rw [h0] at h1
 simp only [leastF,List.append_nil] at h1
 refine ⟨h1,cu h.nd (cJ _) fun x=>?_⟩
 rw [bx]
 constructor
 ·intro hx
  obtain ⟨a,ha,e,_⟩:=h.mem x hx
  exact ⟨a,ha,e⟩
 ·rintro ⟨a,ha,rfl⟩
  rcases h.cov a ha with h2 | h2
  ·exact h2
  ·simp at h2
theorem qw (S:Sch) (hS:SB S) (hV:Valid S):FnP Tryz.prog 85 [gK S] (fun v=>∃ G,IsG S G∧v=ak (leastL G)∧(leastL G).Perm (upZ G.length)):=by
 refine FnP.of func85 rfl ntmps85 (by simp) fun m0 w0 F R0=>?_
 have hn12:=hV.n2
 refine Z2 rfl rfl rfl ?_
 refine Z1 rfl rfl ?_
 refine RL.call rfl (dE call127 (iE S hS hV) rfl ?_)
 rintro _ ⟨G,rfl,hIG⟩
 have hGl:=hIG.len
 have hG:=ve hV hIG
 have hw0:=sT G hG 64 (gI G.length) (jk _) (uM _ (by omega)) [] (by intro p hp;cases hp)
 refine Rs 10 rfl rfl (fF 1 rfl) ?_
 refine Y3 rfl rfl rfl ?_
 refine Z2 rfl rfl rfl ?_
 refine Rs 14 rfl rfl (ae call128 (qh G (by omega)) rfl) ?_
 refine A1 rfl ?_
 refine Z2 rfl rfl rfl ?_
 refine RL.call rfl (fA [1] 3 call129 hw0 rfl rfl rfl rfl ⟨rfl,trivial⟩ (by decide) rfl ?_)
 rintro _ _ ⟨M0,hM0,rfl,rfl⟩
 refine A1 rfl ?_
 refine Z1 rfl rfl ?_
 refine Im (Iu 6 3 1 3 rfl rfl) ?_
 refine Gl rfl (st:=fun x_0:List Int×B64×List (B64×Nat)=>mkS [(3,.ptr 2 0),(4,.pv (bz x_0.2.1)),(5,.pv (.int .i64 (widV G (gI G.length):Nat))),(6,.gsl 3 1 x_0.1.length)] [(1,Bq x_0.2.2),(2,.mix 190 [.pv (bS G),.map 1]),(3,.gro 3 (aE x_0.1))] 4)
  (I:=fun x_0=>LInv G (widV G (gI G.length)) x_0.1 x_0.2.1∧np G x_0.2.2) (μ:=fun x_0=>cC x_0.2.1) (x0:=([],gI G.length,M0)) (Io (aS rfl) (aO rfl) rfl rfl) (⟨LInv.first hG,hM0⟩) ?_
 rintro ⟨L,rest,M1⟩ ⟨hI,hM1⟩
 try simp only at hI hM1 ⊢
 refine Z1 rfl rfl ?_
 refine Rs 19 rfl rfl (nA (Y:=0#64) rfl rfl) ?_
 refine Gp rfl rfl (fun hc19=>?_) (fun hc19=>?_)
 ·obtain ⟨a0,ha0,hra0,hwa0⟩:=xp hG hI.inb (D5 hc19) hI.wid
  have hLl:=hI.len
  have hsl:(aE L).length=L.length*1:=by simp
  refine Il ?_
  refine Z4 rfl rfl rfl rfl rfl ?_
  refine Gl rfl (st:=fun x_1:Nat×List (B64×Nat)=>mkS [(3,.ptr 2 0),(4,.pv (bz rest)),(5,.pv (.int .i64 (widV G (gI G.length):Nat))),(6,.gsl 3 1 L.length),(22,.pv (.int .i64 G.length)),(23,.pv (.int .i64 x_1.1))] [(1,Bq x_1.2),(2,.mix 190 [.pv (bS G),.map 1]),(3,.gro 3 (aE L))] 4)
   (I:=fun x_1=>x_1.1≤a0∧np G x_1.2∧∀ b,b<x_1.1→¬ (rest.getLsbD b=true∧widV G (compB G rest b&&& ~~~(BitVec.twoPow 64 b))≤widV G (gI G.length))) (μ:=fun x_1=>G.length-x_1.1) (x0:=(0,M1)) (Io (aS rfl) (aO rfl) rfl rfl) (⟨Nat.zero_le _,hM1,fun b hb=>absurd hb (Nat.not_lt_zero _)⟩) ?_
  rintro ⟨k,M2⟩ ⟨hk,hM2,hno⟩
  try simp only at hk hM2 hno ⊢
  refine Z1 rfl rfl ?_
  refine Gp rfl rfl (fun hc24=>?_) (fun hc24=>absurd hc24 (by omega))
  have hlt:k<G.length:=by omega
  have hhas:=lr rest k (by omega)
  have hof:=fi k (by omega)
  have hcs:=pj G (by omega) rest k (by omega)
  refine Il ?_
  refine Z2 rfl rfl rfl ?_
  by_cases hb:rest.getLsbD k=true
  ·rw [hb] at hhas
   have hcomp:=oW hG rest hb
   have hin:InB G.length (compB G rest k&&& ~~~(BitVec.twoPow 64 k)):=InB.diff (fun i hi=>hI.inb i (hcomp.1.sub i hi)) k
   have hwk:=sT G hG 64 _ (jk _) hin M2 hM2
   have hnx:=fun h2=>hI.next hG hlt hno hb h2
   refine Ge rfl follows [0,1,2,3,4,5,6,7,8,9,10,11,12,14,13,15,16] (by kernel_rfl) ?_
   iterate 2 refine D1 rfl rfl ?_
   refine Ds 28 [] rfl rfl rfl (fun τ h=>ae call130 hhas (h.bt rfl)) rfl (by kernel_rfl) ?_
   iterate 6 refine D1 rfl rfl ?_
   refine Dg 35 [] rfl rfl rfl rfl (fun τ h=>ae call131 hcs (h.bt rfl)) rfl (by kernel_rfl) ?_
   refine D1 rfl rfl ?_
   refine Dg 37 [] rfl rfl rfl rfl (fun τ h=>ae call132 hof (h.bt rfl)) rfl (by kernel_rfl) ?_
   refine Dg 38 [] rfl rfl rfl rfl (fun τ h=>cv (Ee h 0 rfl rfl) (Ee h 1 rfl rfl)) rfl (by kernel_rfl) ?_
   refine D1 rfl rfl ?_
   refine DL.relG (RO [1] 4 0 (QW G (widV G (compB G rest k&&& ~~~(BitVec.twoPow 64 k))))) [1] [] [1] rfl rfl rfl rfl (fun τ h=>relO [1] 4 call129 hwk (h.args.trans rfl) rfl rfl rfl ⟨Eo h 0 rfl rfl,trivial⟩ (by decide) rfl) rfl (by kernel_rfl) (by kernel_rfl) (by kernel_rfl) ?_
   rintro _ ⟨_,_,⟨M3,hM3,rfl,rfl⟩,rfl⟩ _ _
   iterate 2 refine D1 rfl rfl ?_
   refine ⟨by kernel_rfl,?_⟩
   refine Gp rfl rfl (fun hc42=>?_) (fun hc42=>?_)
   ·refine Gr rfl ?_
    iterate 5 refine A1 rfl ?_
    refine Z2 rfl rfl rfl ?_
    refine Rs 49 rfl rfl (ae call132 hof rfl) ?_
    refine Rs 50 rfl rfl (cv rfl rfl) ?_
    refine A1 rfl ?_
    refine Gx rfl ?_
    exact ⟨(L++[(k:Int)],rest&&& ~~~(BitVec.twoPow 64 k),M3),Ip [0,1,2,5] ⟨rfl,rfl,rfl,by simp only [List.length_append,List.length_singleton];rfl,trivial⟩ ⟨Eq.trans (b:=some (Bq M3)) rfl rfl,rfl,congrArg (fun c=>some (Ob.gro 3 c)) (yK L k).symm,trivial⟩ rfl rfl (by decide) rfl,⟨hnx (by omega),hM3⟩,by have:=jK hb;simp only;omega⟩
   ·refine Il ?_
    refine Z2 rfl rfl rfl ?_
    exact ⟨(k+1,M3),Io (aS rfl) (aO rfl) rfl rfl,⟨by simp only;by_cases e:k=a0;subst e;exact absurd hwa0 (by omega);omega,hM3,fun b hb2=>by rcases Nat.lt_succ_iff_lt_or_eq.1 hb2 with h1 | rfl;exact hno b h1;exact fun h=>by have:=h.2;omega⟩,by simp only;omega⟩
  ·have hb':rest.getLsbD k=false:=by simpa using hb
   rw [hb'] at hhas
   refine Ge rfl follows [0,1,2,3,4,5,6,7,8,9,10,11,12,13,14,15,16] (by kernel_rfl) ?_
   iterate 2 refine D1 rfl rfl ?_
   refine Ds 28 [] rfl rfl rfl (fun τ h=>ae call130 hhas (h.bt rfl)) rfl (by kernel_rfl) ?_
   iterate 14 refine D1 rfl rfl ?_
   refine ⟨by kernel_rfl,?_⟩
   refine Gc rfl rfl (fun hc42=>absurd hc42 (by decide)) (fun hc42=>?_)
   refine Il ?_
   refine Z2 rfl rfl rfl ?_
   exact ⟨(k+1,M2),Io (aS rfl) (aO rfl) rfl rfl,⟨by simp only;by_cases e:k=a0;subst e;exact absurd hra0 hb;omega,hM2,fun b hb2=>by rcases Nat.lt_succ_iff_lt_or_eq.1 hb2 with h1 | rfl;exact hno b h1;exact fun h=>hb h.1⟩,by simp only;omega⟩
 ·have hz:rest=0#64:=Classical.byContradiction hc19
  subst hz
  obtain ⟨hLe,hperm⟩:=hI.last
  refine Gx rfl ?_
  refine Im (Ir 3 rfl rfl) ?_
  refine Z2 rfl rfl rfl ?_
  refine Gt rfl ?_
  exact ⟨_,_,rfl,rfl,G,hIG,by rw [← hLe];rfl,by rw [← hLe];exact hperm⟩
noncomputable def lstL (S:Sch):List Int:=leastL (gr S)
theorem iN (S:Sch) (hS:SB S) (hV:Valid S):(lstL S).Perm (upZ S.attrs.length)∧FnP Tryz.prog 85 [gK S] (· =ak (lstL S)):=by
 have h:=qw S hS hV
 have key:∀ {v:PV},(∃ G,IsG S G∧v=ak (leastL G)∧(leastL G).Perm (upZ G.length))→v=ak (lstL S)∧(lstL S).Perm (upZ S.attrs.length):=fun {v} ⟨G,hG,e,hp⟩=>by
  have:=uw hV hG
  subst this
  rw [fR] at hp
  exact ⟨e,hp⟩
 refine ⟨?_,h.mono fun v hv=>(key hv).1⟩
 have hG:IsG S (gr S):=⟨fR S,fun a ha b=>pC hV (by rwa [fR] at ha) b⟩
 have hI:LInv (gr S) (widV (gr S) (gI (gr S).length)) [] (gI (gr S).length):=LInv.first (ve hV hG)
 have fin:∀ (k:Nat) (L:List Int) (rest:B64),cC rest=k→LInv (gr S) (widV (gr S) (gI (gr S).length)) L rest→(leastL (gr S)).Perm (upZ (gr S).length):=by
  intro k
  induction k with
  | zero=>
    intro L rest hk hI
    have hz:rest=0#64:=by apply BitVec.eq_of_getLsbD_eq;intro i _;rw [oh hk i];simp
    subst hz
    have:=hI.last
    rw [← this.1];exact this.2
  | succ k ih=>
    intro L rest hk hI
    have hne:∃ i,rest.getLsbD i=true:=Classical.byContradiction fun hn=>by
     have:cC rest=0:=by unfold cC;rw [List.countP_eq_zero];intro i _ hi;exact hn ⟨i,hi⟩
     omega
    obtain ⟨a,ha,h1,h2⟩:=xp (ve hV hG) hI.inb hne hI.wid
    obtain ⟨b,hb⟩:∃ b,(List.range (gr S).length).find? (fun a=>rest.getLsbD a&&decide (widV (gr S) (compB (gr S) rest a&&& ~~~(BitVec.twoPow 64 a))≤widV (gr S) (gI (gr S).length)))=some b:=by
     cases hf:(List.range (gr S).length).find? (fun a=>rest.getLsbD a&&decide (widV (gr S) (compB (gr S) rest a&&& ~~~(BitVec.twoPow 64 a))≤widV (gr S) (gI (gr S).length))) with
     | some b=>exact ⟨b,rfl⟩
     | none=>
       have:=List.find?_eq_none.1 hf a (List.mem_range.2 ha)
       simp [h1,h2] at this
    have hb2:=hb
    rw [List.find?_range_eq_some] at hb2
    obtain ⟨hb3,hb4,hb5⟩:=hb2
    rw [Bool.and_eq_true,decide_eq_true_iff] at hb3
    refine ih (L++[(b:Int)]) (rest&&& ~~~(BitVec.twoPow 64 b)) (by have:=jK hb3.1;omega) (hI.next (ve hV hG) (by simpa using hb4) (fun j hj h=>?_) hb3.1 hb3.2)
    have:=hb5 j hj
    simp [h.1,h.2] at this
 have:=fin _ [] _ rfl hI
 rw [fR] at this
 exact this
end
section
open Go.RowKit Mk Jn
set_option maxHeartbeats 4000000
theorem r5 {σ:St} {T:TypeId} {ls:List (List PV)} {U nw:Nat} (hU:U<ls.length) (x:PV) (h0:σ.ob nw=some (.gro T (ls[U]++[x]))) (hr:∀ j,j<ls.length→j≠U→σ.ob (j+1000)=some (.gro T (ls.getD j []))):
  ∀ j (h:j<(ls.set U (ls[U]++[x])).length),σ.ob (rnF U nw (j+1000))=some (.gro T ((ls.set U (ls[U]++[x]))[j])):=by
 intro j h
 rw [List.length_set] at h
 by_cases e:j=U
 ·subst e
  rw [uu,h0]
  simp
 ·rw [b9 (by omega),hr j h e,List.getElem_set_ne (by omega)]
  simp [List.getD,h]
theorem oE {σ:St} {A:Nat} {TA T:TypeId} {cells:List V} {ls:List (List PV)} (hA:A<1000) {j:Nat} (h:j<ls.length):(ovl σ A TA T cells ls).ob (j+1000)=some (.gro T (ls.getD j [])):=by
 rw [b8 hA h];simp [List.getD,h]
theorem uh {S:Sch} {G:List B64} (hV:Valid S) (hG:IsG S G) {a:Int} {i:Nat} (h:eS S a (i:Int)=true):i<G.length:=by
 unfold eS at h
 obtain ⟨r,hr,h2⟩:=List.any_eq_true.1 h
 simp only [Bool.and_eq_true,decide_eq_true_eq] at h2
 have:=(hV.rng r hr _ h2.2).2
 rw [hG.len];omega
theorem oA {S:Sch} {G:List B64} (hV:Valid S) (hG:IsG S G) (P:List Int) (hPl:P.length=G.length):∀ (k:Nat) (v:Nat),v<G.length→InB G.length (eW P G k v)
 | 0,v,hv=>fun i hi=>by
   unfold eW at hi
   rw [Int.toNat_natCast,hG.bit v hv i,Bool.and_eq_true] at hi
   exact uh hV hG hi.2
 | k+1,v,hv=>by
   unfold eW
   refine oO _ _ (fun i hi=>?_) fun c hc=>?_
   ·rw [Int.toNat_natCast,hG.bit v hv i,Bool.and_eq_true] at hi
    exact uh hV hG hi.2
   ·obtain ⟨m,hm,rfl,_⟩:=aX.1 hc
    exact oA hV hG P hPl k m (by omega)
theorem Bl (n:Nat) (hn:n≤12) {S:Sch} (hV:Valid S) (G:List B64) (hG:IsG S G) (hGn:G.length=n) (P:List Int) (hP:UpOk P) (hPl:P.length=n) (chs:List (List Int)) (hcl:chs.length=n+1) (hch:∀ v (h:v<n),chs[v]'(by omega)=al P v) (hs:List PV):∀ (k v:Nat) (_:v<n) (_:n≤k+(bp P v).length+1) (ab:B64) (L D:List Int) (K:List (List Int)),D.length=n→K.length=n→L.length+(fY P k v).length≤1000→
  FnO Tryz.prog 253 7 2 (layA G v ab) (Fc n G chs 1000003 L D K hs) (fun r ob'=>r= .pv (bz (eW P G k v))∧ob'=ar (Fc n G chs 1 (L++fY P k v) (bg D (ri P k v ab)) (bg K (fQ P G n k v ab)) hs)):=by
 have hgd:∀ v (h:v<G.length),G.getD v 0#64=G[v]:=fun v h=>by simp [List.getD,h]
 have hinG:∀ v (h:v<G.length),InB n G[v]:=fun v h=>by
  have:=oA hV hG P (by omega) 0 v h
  rw [eW,Int.toNat_natCast,hgd v h,hGn] at this
  exact this
 have hkl:∀ v,(al P v).length≤64:=fun v=>Nat.le_trans (List.length_filter_le ..) (by rw [a8];omega)
 intro k
 induction k with
 | zero=>
   intro v hv hf ab L D K hD hK hL
   have hlf:al P v=[]:=ln hP (by omega) (by omega)
   have h1:=lP n hn G hGn chs (by omega) v hv (by omega) [] (by rw [hch v hv,hlf]) (by simp) (by simp) ab (fun _=>0#64) (fun _=>[]) (fun _=>[]) (fun _=>[]) (hinG v (by omega)) (by simp) hs (by simp) L D K hD hK (by simp [fY] at hL ⊢; omega)
   have e1:eW P G 0 (v:Int)=G[v]'(by omega):=by rw [eW,Int.toNat_natCast,hgd v (by omega)]
   rw [fY,ri,fQ,e1,Int.toNat_natCast]
   exact h1
 | succ k ih=>
   intro v hv hf ab L D K hD hK hL
   have hkid:∀ c∈al P v,∃ m:Nat,m<n∧c=(m:Int)∧P.getD m 0=(v:Int):=fun c hc=>by
    obtain ⟨m,hm,e,hp⟩:=aX.1 hc
    exact ⟨m,by omega,e,hp⟩
   have h1:=lP n hn G hGn chs (by omega) v hv (by omega) (al P v) (hch v hv) (hkl v) (fun c hc=>by obtain ⟨m,_,e,_⟩:=hkid c hc;exact ⟨m,e⟩) ab (eW P G k) (fY P k) (fun c=>ri P k c (ab|||BitVec.twoPow 64 v)) (fun c=>fQ P G n k c (ab|||BitVec.twoPow 64 v)) (hinG v (by omega)) (fun c hc=>by
     obtain ⟨m,hm,rfl,_⟩:=hkid c hc
     have:=oA hV hG P (by omega) k m (by omega)
     rwa [hGn] at this) hs (fun c hc L' D' K' hD' hK' hL'=>by
     obtain ⟨m,hm,rfl,hp⟩:=hkid c hc
     exact ih m hm (by rw [bO hP (by omega) (by omega) hp,List.length_cons];omega) _ L' D' K' hD' hK' hL') L D K hD hK (by unfold fY at hL;simp only [List.length_cons] at hL;omega)
   have e1:eW P G (k+1) (v:Int)=(al P v).foldl (fun z c=>z|||eW P G k c) (G[v]'(by omega)):=by rw [eW,Int.toNat_natCast,hgd v (by omega)]
   rw [fY,ri,fQ,e1,eD,Int.toNat_natCast]
   exact h1
theorem uA {l:List (Nat×V)} {os:List (Nat×Ob)} {k:Nat} (h1:l.all (fun p=>p.2.all fun i=>Nat.blt i 1000)=true) (h2:os.all (fun p=>Nat.blt p.1 1000&&p.2.all fun i=>Nat.blt i 1000)=true):(∀ t,((mkS l os k).sl t).all (fun i=>Nat.blt i 1000)=true)∧∀ i o,(mkS l os k).ob i=some o→i<1000∧o.all (fun i=>Nat.blt i 1000)=true:=by
 constructor
 ·intro t
  show (look l t).all _=true
  clear h2
  induction l with
  | nil=>rfl
  | cons p l ih=>
    simp only [List.all_cons,Bool.and_eq_true] at h1
    obtain ⟨d,v⟩:=p
    simp only [look]
    cases Nat.beq t d with
    | true=>exact h1.1
    | false=>exact ih h1.2
 ·intro i o h
  have hm:=List.all_eq_true.1 h2 _ (bV h)
  rw [Bool.and_eq_true] at hm
  exact ⟨Bo hm.1,hm.2⟩
theorem ot (P:List Int):∀ (k:Nat) (v:Int),fY P k v=(a7 P k v).vs
 | 0,v=>by rw [fY,a7,Tr.vs,vsL]
 | k+1,v=>by
   rw [fY,a7,Tr.vs,dm,List.flatMap_map]
   rw [show fY P k=fun c=>(a7 P k c).vs from funext (ot P k)]
theorem nN {P:List Int}:(al P (-1)).flatMap (fY P P.length)=aD P:=by
 rw [← ij,dm,List.flatMap_map,show fY P P.length=fun c=>(a7 P P.length c).vs from funext (ot P P.length)]
def iK (S:Sch) (P:List Int) (G:List B64):VD where
 chs:=lsT P P.length
 kes:=bg (List.replicate G.length []) ((al P (-1)).flatMap fun c=>fQ P G G.length P.length c 0#64)
 hos:=hsT G.length (hpL (bg (List.replicate G.length 0) ((al P (-1)).flatMap fun c=>ri P P.length c 0#64)) S) S.rels.length
 wa:=aD P
abbrev ca (D:VD):PV:= .agg [bu D.chs,bu D.kes,bu D.hos,ak D.wa]
theorem FR {S:Sch} {P:List Int} {G:List B64} {k i:Nat} {H M CS D2:List Int} {K2:List (List Int)} (hkP:k=P.length) (hie:i=S.rels.length) (hH:hpL D2 S=H) (hM:M=CS.flatMap (fY P P.length)) (hCS:al P (-1)=CS) (hD2:D2=bg (List.replicate G.length 0) (CS.flatMap fun c=>ri P P.length c 0#64))
  (hK2:K2=bg (List.replicate G.length []) (CS.flatMap fun c=>fQ P G G.length P.length c 0#64)) (hKl:K2.length=G.length):PV.agg [bu (lsT P k),.sl none G.length (K2.map ak),.sl none G.length ((hsT G.length H i).map ak),ak M]=ca (iK S P G):=by
 have e1:(iK S P G).kes=K2:=by rw [hK2, ← hCS];rfl
 have e2:(iK S P G).wa=M:=by rw [hM, ← hCS,nN];rfl
 have e3:(iK S P G).hos=hsT G.length H i:=by rw [← hH,hie,hD2, ← hCS];rfl
 have e4:(iK S P G).chs=lsT P k:=by rw [hkP];rfl
 unfold ca
 rw [e1,e2,e3,e4]
 unfold bu
 rw [hKl,cP]
theorem H6 (n:Nat):PV.fgL (List.replicate n nS)=(List.replicate n ([]:List Int)).map ak:=by
 induction n with
 | zero=>rfl
 | succ n ih=>rw [List.replicate_succ,List.replicate_succ,PV.fgL,ih,List.map_cons];rfl
theorem Dk (S:Sch) (hS:SB S) (P:List Int) (hO:OrdOk S P):FnP Tryz.prog 225 [gK S,Fe P] (fun v=>∃ G,IsG S G∧v=ca (iK S P G)):=by
 refine FnP.ofC func225 rfl ntmps225 (by simp) fun m0 w0 F R0=>?_
 have hV:=hO.val
 have hP:=hO.dP
 have hPl:=hO.len
 have hn12:=hV.n2
 refine Z3 rfl rfl rfl rfl ?_
 refine Z1 rfl rfl ?_
 refine RL.call rfl (dE call127 (iE S hS hV) rfl ?_)
 rintro _ ⟨G,rfl,hG⟩
 have hGl:=hG.len
 refine Y2 rfl rfl ?_
 refine Z3 rfl rfl rfl rfl ?_
 refine Ge rfl follows [0,1,2,3,4,5,6,7,8,9] (by kernel_rfl) ?_
 iterate 10 refine D1 rfl rfl ?_
 refine ⟨by kernel_rfl,?_⟩
 refine Wk [(2,.ptr 0 0),(3,.ptr 1 0),(4,.ptr 2 0),(5,.ptr 3 0),(6,.pv (.int .i64 G.length)),(7,.ptr 7 0)] [(0,oZ S),(1,.mix 271 [.pv (ak P)]),(2,.mix 144 [.pv nS,.pv nS,.pv nS,.pv nS]),(3,.mix 186 [.pv (bS G)]),(4,.cells 22 (List.replicate (G.length+1) nS)),(5,.cells 22 (List.replicate G.length nS)),(6,.cells 22 (List.replicate G.length nS)),(7,.mix 144 [.osl 4 1 (G.length+1),.osl 5 1 G.length,.osl 6 1 G.length,.pv nS])] 8 (aS rfl) ⟨rfl,rfl,rfl,rfl,congrArg (fun c=>some (Ob.cells 22 c)) ((ct nS ((G.length+1)*1)).trans (by rw [Nat.mul_one])),congrArg (fun c=>some (Ob.cells 22 c)) ((ct nS (G.length*1)).trans (by rw [Nat.mul_one])),congrArg (fun c=>some (Ob.cells 22 c)) ((ct nS (G.length*1)).trans (by rw [Nat.mul_one])),rfl,trivial⟩ rfl rfl ?_
 refine Im (St.py 4 rfl) ?_
 refine Im (St.Ae (A:=4) (TA:=22) 3 (G.length+1) (congrArg (fun c=>some (Ob.mix 22 c)) (by simp)) (by decide) (by omega) (fun i h1 h2=>xN (by decide) h1 h2)) ?_
 refine Z4 rfl rfl rfl rfl rfl ?_
 refine Gl rfl (st:=fun x_0:Nat=>ovl (mkS [(2,.ptr 0 0),(4,.ptr 2 0),(5,.ptr 3 0),(6,.pv (.int .i64 G.length)),(7,.ptr 7 0),(32,.pv (ak P)),(33,.pv (.int .i64 P.length)),(34,.pv (.int .i64 x_0))] [(0,oZ S),(2,.mix 144 [.pv nS,.pv nS,.pv nS,.pv nS]),(3,.mix 186 [.pv (bS G)]),(5,.cells 22 (List.replicate G.length nS)),(6,.cells 22 (List.replicate G.length nS)),(7,.mix 144 [.osl 4 1 (G.length+1),.osl 5 1 G.length,.osl 6 1 G.length,.pv nS])] 8) 4 22 3 (chV (lsP (lsT P x_0))) (lsP (lsT P x_0)))
  (I:=fun x_0=>x_0≤P.length) (μ:=fun x_0=>P.length-x_0) (x0:=(0)) (St.ej 1000 999 (aT rfl) (aP (by kernel_rfl)) (congrArg (fun c=>some (Ob.mix 22 c)) (by rw [eQ 999 (by rw [cZ,b7];omega),vr,hPl,hGl];unfold lsP;rw [List.map_replicate];rfl)) (fun j hj=>by rw [cZ,b7] at hj;rw [b9 (by omega)];refine (b8 (A:=4) (TA:=22) (cells:=chV (List.replicate (G.length+1) [])) (ls:=List.replicate (G.length+1) []) (by decide) (by rw [List.length_replicate];omega)).trans ?_;simp [vr,lsP]) rfl rfl (by decide) (by decide) (by decide) (by decide) (by rw [cZ,b7];omega)) (Nat.zero_le _) ?_
 rintro k hk
 refine Z1 rfl rfl ?_
 refine Gp rfl rfl (fun hc35=>?_) (fun hc35=>?_)
 ·have hlt:k<P.length:=by omega
  have hpn:=aH hlt
  have hpv:=cE hlt
  have hpr:=hP.rng _ (List.getElem_mem hlt)
  have hlen:(lsP (lsT P k)).length=G.length+1:=by rw [cZ,b7];omega
  have hlb:=fun U (h:U<(lsP (lsT P k)).length)=>Hv P k h
  generalize hls:lsP (lsT P k)=ls at*
  refine Il ?_
  refine Z2 rfl rfl rfl ?_
  first | refine A2 rfl (by assumption) ?_ | refine A1 rfl ?_
  refine Y2 rfl rfl ?_
  refine Z2 rfl rfl rfl ?_
  refine Gp rfl rfl (fun hc40=>?_) (fun hc40=>?_)
  ·have hm1:P[k]= -1:=by omega
   have hUl:G.length<ls.length:=by omega
   have hnx:lsP (lsT P (k+1))=ls.set (G.length) (ls[G.length]++[.int .i64 k]):=by have h5:G.length<(lsT P k).length:=(by rw [b7];omega);rw [uk hO.rng hlt (G.length) (.inl ⟨hm1,by omega⟩),sq _ _ h5];subst hls;rfl
   have hld:=xA hUl
   have hlbU:=hlb _ hUl
   have hsto:(G.length)*1+1≤(chV ls).length:=by rw [fp];omega
   refine Z2 rfl rfl rfl ?_
   refine Ge rfl follows [0,1,2,3,4,5,6,7,8,9,10,11,12] (by kernel_rfl) ?_
   iterate 6 refine D1 rfl rfl ?_
   refine Ds 48 [_] rfl rfl rfl (fun τ h=>aa (G.length) underlying142 ly (Ee h 0 rfl rfl) (Eo h 0 rfl rfl) (Ee h 1 rfl rfl) rfl (by omega)) rfl (by kernel_rfl) ?_
   refine Ds 49 [_] rfl rfl rfl (fun τ h=>jU ⟨_,underlying22,rfl⟩ (Ee h 0 rfl rfl) (Eo h 0 rfl rfl) hld) rfl (by kernel_rfl) ?_
   iterate 2 refine D1 rfl rfl ?_
   refine Ds 52 [(G.length)+1000,8] rfl rfl rfl (fun τ h=>eN 9 xj (Ee h 0 rfl rfl) ((h.o 0 _ rfl).trans (Eq.trans (b:=(ovl (mkS [(2,.ptr 0 0),(4,.ptr 2 0),(5,.ptr 3 0),(6,.pv (.int .i64 G.length)),(7,.ptr 7 0),(32,.pv (ak P)),(33,.pv (.int .i64 P.length)),(34,.pv (.int .i64 k))] [(0,oZ S),(2,.mix 144 [.pv nS,.pv nS,.pv nS,.pv nS]),(3,.mix 186 [.pv (bS G)]),(5,.cells 22 (List.replicate G.length nS)),(6,.cells 22 (List.replicate G.length nS)),(7,.mix 144 [.osl 4 1 (G.length+1),.osl 5 1 G.length,.osl 6 1 G.length,.pv nS])] 8) 4 22 3 (chV (ls)) (ls)).ob (G.length+1000)) (by kernel_rfl) (b8 (by decide) hUl))) (Nat.mul_one _).symm (Ee h 1 rfl rfl) (Eo h 1 rfl rfl) rfl rfl (by omega) (h.n 0 _ rfl)) rfl (by kernel_rfl) ?_
   refine Ds 53 [_] rfl rfl rfl (fun τ h=>aa (G.length) underlying142 ly (Ee h 0 rfl rfl) (Eo h 0 rfl rfl) (Ee h 1 rfl rfl) rfl (by omega)) rfl (by kernel_rfl) ?_
   refine DL.step (d:=none) [_] rfl rfl rfl (fun τ h=>jR ly (Ee h 0 rfl rfl) (Eo h 0 rfl rfl) (Ee h 1 rfl rfl) rfl hsto rfl rfl) rfl (by kernel_rfl) ?_
   refine ⟨by kernel_rfl,?_⟩
   refine Z2 rfl rfl rfl ?_
   exact ⟨(k+1),(by rw [hnx];exact St.ej (G.length) 9 (aT rfl) (aP (by kernel_rfl)) (Eq.trans (b:=some (.mix 22 (eY (chV ls) ((G.length)*1) [.gsl 9 1 (ls[G.length].length+1)]))) (by kernel_rfl) (congrArg (fun c=>some (Ob.mix 22 c)) ((nF _ _ _ (by rw [fp];omega)).trans (kg hUl 9 _).symm))) (r5 hUl _ (by kernel_rfl) (fun j hj hne=>Eq.trans (b:=bif Nat.beq (j+1000) (G.length+1000) then (none:Option Ob) else (ovl (mkS [(2,.ptr 0 0),(4,.ptr 2 0),(5,.ptr 3 0),(6,.pv (.int .i64 G.length)),(7,.ptr 7 0),(32,.pv (ak P)),(33,.pv (.int .i64 P.length)),(34,.pv (.int .i64 k))] [(0,oZ S),(2,.mix 144 [.pv nS,.pv nS,.pv nS,.pv nS]),(3,.mix 186 [.pv (bS G)]),(5,.cells 22 (List.replicate G.length nS)),(6,.cells 22 (List.replicate G.length nS)),(7,.mix 144 [.osl 4 1 (G.length+1),.osl 5 1 G.length,.osl 6 1 G.length,.pv nS])] 8) 4 22 3 (chV (ls)) (ls)).ob (j+1000)) (by kernel_rfl) (by rw [y7 (by omega),cond_false];exact oE (by decide) hj))) rfl rfl (by decide) (by decide) (by decide) (by omega) (by rw [List.length_set];omega)),by omega,by omega⟩
  ·obtain ⟨a,ha⟩:=Int.eq_ofNat_of_zero_le (show 0≤P[k] by omega)
   have hUl:a<ls.length:=by omega
   have hnx:lsP (lsT P (k+1))=ls.set (a) (ls[a]++[.int .i64 k]):=by have h5:a<(lsT P k).length:=(by rw [b7];omega);rw [uk hO.rng hlt (a) (.inr ⟨ha,by omega⟩),sq _ _ h5];subst hls;rfl
   have hld:=xA hUl
   have hlbU:=hlb _ hUl
   have hsto:(a)*1+1≤(chV ls).length:=by rw [fp];omega
   refine Il ?_
   rw [ha]
   refine Ge rfl follows [0,1,2,3,4,5,6,7,8,9,10,11,12] (by kernel_rfl) ?_
   iterate 6 refine D1 rfl rfl ?_
   refine Ds 48 [_] rfl rfl rfl (fun τ h=>aa (a) underlying142 ly (Ee h 0 rfl rfl) (Eo h 0 rfl rfl) (Ee h 1 rfl rfl) rfl (by omega)) rfl (by kernel_rfl) ?_
   refine Ds 49 [_] rfl rfl rfl (fun τ h=>jU ⟨_,underlying22,rfl⟩ (Ee h 0 rfl rfl) (Eo h 0 rfl rfl) hld) rfl (by kernel_rfl) ?_
   iterate 2 refine D1 rfl rfl ?_
   refine Ds 52 [(a)+1000,8] rfl rfl rfl (fun τ h=>eN 9 xj (Ee h 0 rfl rfl) ((h.o 0 _ rfl).trans (Eq.trans (b:=(ovl (mkS [(2,.ptr 0 0),(4,.ptr 2 0),(5,.ptr 3 0),(6,.pv (.int .i64 G.length)),(7,.ptr 7 0),(32,.pv (ak P)),(33,.pv (.int .i64 P.length)),(34,.pv (.int .i64 k))] [(0,oZ S),(2,.mix 144 [.pv nS,.pv nS,.pv nS,.pv nS]),(3,.mix 186 [.pv (bS G)]),(5,.cells 22 (List.replicate G.length nS)),(6,.cells 22 (List.replicate G.length nS)),(7,.mix 144 [.osl 4 1 (G.length+1),.osl 5 1 G.length,.osl 6 1 G.length,.pv nS])] 8) 4 22 3 (chV (ls)) (ls)).ob (a+1000)) (by kernel_rfl) (b8 (by decide) hUl))) (Nat.mul_one _).symm (Ee h 1 rfl rfl) (Eo h 1 rfl rfl) rfl rfl (by omega) (h.n 0 _ rfl)) rfl (by kernel_rfl) ?_
   refine Ds 53 [_] rfl rfl rfl (fun τ h=>aa (a) underlying142 ly (Ee h 0 rfl rfl) (Eo h 0 rfl rfl) (Ee h 1 rfl rfl) rfl (by omega)) rfl (by kernel_rfl) ?_
   refine DL.step (d:=none) [_] rfl rfl rfl (fun τ h=>jR ly (Ee h 0 rfl rfl) (Eo h 0 rfl rfl) (Ee h 1 rfl rfl) rfl hsto rfl rfl) rfl (by kernel_rfl) ?_
   refine ⟨by kernel_rfl,?_⟩
   refine Z2 rfl rfl rfl ?_
   exact ⟨(k+1),(by rw [hnx];exact St.ej (a) 9 (aT rfl) (aP (by kernel_rfl)) (Eq.trans (b:=some (.mix 22 (eY (chV ls) ((a)*1) [.gsl 9 1 (ls[a].length+1)]))) (by kernel_rfl) (congrArg (fun c=>some (Ob.mix 22 c)) ((nF _ _ _ (by rw [fp];omega)).trans (kg hUl 9 _).symm))) (r5 hUl _ (by kernel_rfl) (fun j hj hne=>Eq.trans (b:=bif Nat.beq (j+1000) (a+1000) then (none:Option Ob) else (ovl (mkS [(2,.ptr 0 0),(4,.ptr 2 0),(5,.ptr 3 0),(6,.pv (.int .i64 G.length)),(7,.ptr 7 0),(32,.pv (ak P)),(33,.pv (.int .i64 P.length)),(34,.pv (.int .i64 k))] [(0,oZ S),(2,.mix 144 [.pv nS,.pv nS,.pv nS,.pv nS]),(3,.mix 186 [.pv (bS G)]),(5,.cells 22 (List.replicate G.length nS)),(6,.cells 22 (List.replicate G.length nS)),(7,.mix 144 [.osl 4 1 (G.length+1),.osl 5 1 G.length,.osl 6 1 G.length,.pv nS])] 8) 4 22 3 (chV (ls)) (ls)).ob (j+1000)) (by kernel_rfl) (by rw [y7 (by omega),cond_false];exact oE (by decide) hj))) rfl rfl (by decide) (by decide) (by decide) (by omega) (by rw [List.length_set];omega)),by omega,by omega⟩
 ·have hkP:k=P.length:=by omega
  have hlen:(lsP (lsT P k)).length=G.length+1:=by rw [cZ,b7];omega
  have hLl:(lsT P k).length=G.length+1:=by rw [b7];omega
  have hcp:chP (lsP (lsT P k))=((lsT P k).map ak).map V.pv:=by rw [zo,List.map_map];rfl
  generalize hls:lsP (lsT P k)=ls at*
  refine Im (St.ej (l:=[(2,.ptr 0 0),(4,.ptr 2 0),(5,.ptr 3 0),(6,.pv (.int .i64 G.length)),(7,.ptr 7 0)]) (os:=[(0,oZ S),(2,.mix 144 [.pv nS,.pv nS,.pv nS,.pv nS]),(3,.mix 186 [.pv (bS G)]),(5,.cells 22 (List.replicate G.length nS)),(6,.cells 22 (List.replicate G.length nS)),(7,.mix 144 [.osl 4 1 (G.length+1),.osl 5 1 G.length,.osl 6 1 G.length,.pv nS])]) (k:=8) (A:=4) (TA:=22) (T:=3) (ls:=ls) 1000 999 (aT (by kernel_rfl)) (aP (by kernel_rfl)) (Eq.trans (b:=some (.mix 22 (chV ls))) (by kernel_rfl) (by rw [eQ 999 (by omega)])) (fun j hj=>by rw [b9 (by omega)];exact Eq.trans (b:=(ovl (mkS [(2,.ptr 0 0),(4,.ptr 2 0),(5,.ptr 3 0),(6,.pv (.int .i64 G.length)),(7,.ptr 7 0),(32,.pv (ak P)),(33,.pv (.int .i64 P.length)),(34,.pv (.int .i64 k))] [(0,oZ S),(2,.mix 144 [.pv nS,.pv nS,.pv nS,.pv nS]),(3,.mix 186 [.pv (bS G)]),(5,.cells 22 (List.replicate G.length nS)),(6,.cells 22 (List.replicate G.length nS)),(7,.mix 144 [.osl 4 1 (G.length+1),.osl 5 1 G.length,.osl 6 1 G.length,.pv nS])] 8) 4 22 3 (chV (ls)) (ls)).ob (j+1000)) (by kernel_rfl) (b8 (by decide) hj)) rfl rfl (by decide) (by decide) (by decide) (by decide) (by omega)) ?_
  have hsm:=uA (l:=[(2,.ptr 0 0),(4,.ptr 2 0),(5,.ptr 3 0),(6,.pv (.int .i64 G.length)),(7,.ptr 7 0)]) (os:=[(0,oZ S),(2,.mix 144 [.pv nS,.pv nS,.pv nS,.pv nS]),(3,.mix 186 [.pv (bS G)]),(5,.cells 22 (List.replicate G.length nS)),(6,.cells 22 (List.replicate G.length nS)),(7,.mix 144 [.osl 4 1 (G.length+1),.osl 5 1 G.length,.osl 6 1 G.length,.pv nS])]) (k:=8) rfl rfl
  refine Im (St.zC ls (by decide) (by omega) hsm.1 hsm.2) ?_
  refine Im (St.zb (id:=4) (cs:=(lsT P k).map ak) rfl hcp) ?_
  refine Im (Io (l:=[(2,.ptr 0 0),(4,.ptr 2 0),(5,.ptr 3 0),(6,.pv (.int .i64 G.length)),(7,.ptr 7 0)]) (os:=(4,.cells 22 ((lsT P k).map ak))::[(0,oZ S),(2,.mix 144 [.pv nS,.pv nS,.pv nS,.pv nS]),(3,.mix 186 [.pv (bS G)]),(5,.cells 22 (List.replicate G.length nS)),(6,.cells 22 (List.replicate G.length nS)),(7,.mix 144 [.osl 4 1 (G.length+1),.osl 5 1 G.length,.osl 6 1 G.length,.pv nS])]) (k:=8) (aS (by kernel_rfl)) (aO (by kernel_rfl)) rfl rfl) ?_
  refine Im (St.er 7 3 8 1 3 rfl rfl rfl) ?_
  refine Im (Ir 4 rfl rfl) ?_
  refine Im (St.uB 7 rfl) ?_
  refine Im (St.Hc (id:=5) rfl) ?_
  refine Wk [(2,.ptr 0 0),(4,.ptr 2 0),(5,.ptr 3 0),(6,.pv (.int .i64 G.length)),(7,.ptr 7 0)] [(0,oZ S),(2,.mix 144 [.pv nS,.pv nS,.pv nS,.pv nS]),(3,.mix 186 [.pv (bS G)]),(5,.cells 22 ((List.replicate G.length ([]:List Int)).map ak)),(6,.cells 22 (List.replicate G.length nS)),(7,.mix 144 [.pv (bu (lsT P k)),.osl 5 1 G.length,.osl 6 1 G.length,.gsl 8 1 0]),(8,.gro 3 (aE []))] 9 (aS (by kernel_rfl)) ⟨by kernel_rfl,by kernel_rfl,by kernel_rfl,Eq.trans (b:=some (.cells 22 (PV.fgL (List.replicate G.length nS)))) (by kernel_rfl) (congrArg (fun c=>some (Ob.cells 22 c)) (H6 _)),by kernel_rfl,Eq.trans (b:=some (.mix 144 [.pv (.sl none (G.length+1) ((lsT P k).map ak)),.osl 5 1 G.length,.osl 6 1 G.length,.gsl 8 1 0])) (by kernel_rfl) (congrArg (fun q=>some (Ob.mix 144 [.pv (.sl none q ((lsT P k).map ak)),.osl 5 1 G.length,.osl 6 1 G.length,.gsl 8 1 0])) hLl.symm),by kernel_rfl,trivial⟩ rfl rfl ?_
  clear hls hcp hlen
  have hCl:(al P (-1)).length≤64:=Nat.le_trans (List.length_filter_le ..) (by rw [a8];omega)
  have hCm:∀ c∈al P (-1),∃ m:Nat,m<G.length∧c=(m:Int)∧P.getD m 0= -1:=fun c hc=>by obtain ⟨m,hm,e,hp⟩:=aX.1 hc;exact ⟨m,by omega,e,hp⟩
  have hrl:G.length<(lsT P k).length:=by omega
  have hrv:=cM hrl
  have hrn:=cQ hrl
  have hroot:(lsT P k)[G.length]=al P (-1):=by have h5:=fG P k;rw [hkP,jT] at h5;simp only [hkP,hGl, ← hPl];exact h5
  rw [hroot] at hrv
  have hch:∀ v (h:v<G.length),(lsT P k)[v]'(by omega)=al P v:=fun v h=>by have h5:=mJ P k (i:=v) (by omega);rw [h5,hkP,jT]
  have hvis:=fun (m:Nat) (hm:m<G.length) (hr:P.getD m 0= -1)=>Bl G.length (by omega) hV G hG rfl P hP (by omega) (lsT P k) hLl hch (List.replicate G.length nS) P.length m hm (by omega) 0#64
  have hvl:((al P (-1)).flatMap (fY P P.length)).length≤12:=by rw [nN,Aa hP];omega
  generalize hCS:al P (-1)=CS at*
  refine Gx rfl ?_
  refine Z4 rfl rfl rfl rfl rfl ?_
  refine Z1 rfl rfl ?_
  refine Im (St.fS 3 rfl rfl) ?_
  refine Z2 rfl rfl rfl ?_
  refine Z3 rfl rfl rfl rfl ?_
  refine Rs 61 rfl rfl (ag G.length underlying142 ly rfl rfl rfl hrl hrn) ?_
  refine Rs 62 rfl rfl (ai ⟨_,underlying22,rfl⟩ rfl hrv) ?_
  refine Y2 rfl rfl ?_
  refine Gl rfl (st:=fun x_1:Nat×List Int×List Int×List (List Int)=>mkS [(2,.ptr 0 0),(4,.ptr 2 0),(7,.ptr 7 0),(10,.ptr 10 0),(11,.ptr 11 0),(62,.pv (ak CS)),(63,.pv (.int .i64 CS.length)),(64,.pv (.int .i64 x_1.1))] [(0,oZ S),(2,.mix 144 [.pv nS,.pv nS,.pv nS,.pv nS]),(5,.cells 22 (x_1.2.2.2.map ak)),(6,.cells 22 (List.replicate G.length nS)),(7,.mix 144 [.pv (bu ((lsT P k))),.osl 5 1 G.length,.osl 6 1 G.length,.gsl 8 1 x_1.2.1.length]),(8,.gro 3 (aE x_1.2.1)),(9,.cells 3 (aE x_1.2.2.1)),(10,.mix 22 [.osl 9 1 G.length]),(11,.mix 294 [.fn (.func 253) [] [.ptr 7 0,.ptr 10 0,.pv (.rp [bS G] 0),.ptr 11 0]])] 12)
   (I:=fun x_1=>(x_1.1≤CS.length∧x_1.2.1=(CS.take x_1.1).flatMap (fY P P.length))∧x_1.2.2.1=bg (List.replicate G.length 0) ((CS.take x_1.1).flatMap fun c=>ri P P.length c 0#64)∧x_1.2.2.2=bg (List.replicate G.length []) ((CS.take x_1.1).flatMap fun c=>fQ P G G.length P.length c 0#64)) (μ:=fun x_1=>CS.length-x_1.1) (x0:=(0,[],List.replicate G.length 0,List.replicate G.length [])) (Io (aS rfl) ⟨by kernel_rfl,by kernel_rfl,by kernel_rfl,by kernel_rfl,by kernel_rfl,by kernel_rfl,Eq.trans (b:=some (.cells 3 (mkZ [.int .i64 0] (G.length*1)))) (by kernel_rfl) (congrArg (fun c=>some (Ob.cells 3 c)) ((ct (.int .i64 0) (G.length*1)).trans (by rw [Nat.mul_one];show _=List.map _ (List.replicate _ _);rw [List.map_replicate]))),by kernel_rfl,by kernel_rfl,trivial⟩ rfl rfl) (⟨⟨Nat.zero_le _,rfl⟩,rfl,rfl⟩) ?_
  rintro ⟨j,M,D2,K2⟩ ⟨⟨hj,hM⟩,hD2,hK2⟩
  try simp only at hj hM hD2 hK2 ⊢
  refine Z1 rfl rfl ?_
  refine Gp rfl rfl (fun hc65=>?_) (fun hc65=>?_)
  ·have hlt:j<CS.length:=by omega
   have hcm:=List.getElem_mem hlt
   obtain ⟨c,hcl,hc,hcr⟩:=hCm _ hcm
   have hpv2:(aE CS)[j*1]? =some (.int .i64 (c:Int)):=by rw [← hc];simp [hlt]
   have hpn2:=aH hlt
   have htf:=eC hlt (fY P P.length)
   have htd:=eC hlt (fun c=>ri P P.length c 0#64)
   have htk:=eC hlt (fun c=>fQ P G G.length P.length c 0#64)
   have hfl:=vo (fY P P.length) CS (j+1)
   rw [hc] at htf htd htk
   have hgo:=hvis c hcl hcr M D2 K2 (by rw [hD2,cA,List.length_replicate]) (by rw [hK2,cA,List.length_replicate]) (by rw [htf,List.length_append] at hfl;rw [hM];omega)
   refine Il ?_
   refine Z1 rfl rfl ?_
   refine Rs 67 rfl rfl (ai ⟨_,underlying3,rfl⟩ rfl hpv2) ?_
   refine A1 rfl ?_
   refine Z2 rfl rfl rfl ?_
   refine Rs 70 rfl rfl (bJ (vs:=[.pv (.int .i64 (c:Int)),.pv (bz 0#64)]) [7,5,6,8,10,9,11] 12 call253 hgo rfl rfl rfl rfl rfl rfl ⟨by kernel_rfl,by kernel_rfl,by kernel_rfl,by kernel_rfl,by kernel_rfl,by kernel_rfl,by kernel_rfl,trivial⟩ (by decide) rfl) ?_
   refine Z2 rfl rfl rfl ?_
   exact ⟨(j+1,M++fY P P.length (c:Int),bg D2 (ri P P.length (c:Int) 0#64),bg K2 (fQ P G G.length P.length (c:Int) 0#64)),Ip [0,1,2,3,4,5,6,7,13,9,10,11] (aT rfl) (aP (by kernel_rfl)) rfl rfl (by decide) rfl,⟨⟨by simp only;omega,by simp only;rw [htf, ← hM]⟩,by simp only;rw [htd,eD, ← hD2],by simp only;rw [htk,eD, ← hK2]⟩,by simp only;omega⟩
  ·rw [show CS.take j=CS from List.take_of_length_le (by omega)] at hM hD2 hK2
   have hDl:D2.length=G.length:=by rw [hD2,cA,List.length_replicate]
   have hKl:K2.length=G.length:=by rw [hK2,cA,List.length_replicate]
   have hIl:(aE D2).length=G.length:=by rw [List.length_map,hDl]
   have hrl5:=hV.r2
   have hrln:=hS.rl
   have hHl:=F9 D2 S
   generalize hH:hpL D2 S=H at hHl
   have hHr:∀ i (h:i<S.rels.length),H[i]'(by omega)=eX D2 S.rels[i].2 S.rels[i].2.length:=fun i h=>by subst hH;simp [hpL]
   refine Wk [(2,.ptr 0 0),(4,.ptr 2 0),(7,.ptr 7 0),(10,.ptr 10 0)] [(0,oZ S),(2,.mix 144 [.pv nS,.pv nS,.pv nS,.pv nS]),(5,.cells 22 (K2.map ak)),(6,.cells 22 (List.replicate G.length nS)),(7,.mix 144 [.pv (bu (lsT P k)),.osl 5 1 G.length,.osl 6 1 G.length,.gsl 8 1 M.length]),(8,.gro 3 (aE M)),(9,.cells 3 (aE D2)),(10,.mix 22 [.osl 9 1 G.length])] 12 (aS (by kernel_rfl)) (aO (by kernel_rfl)) rfl rfl ?_
   refine Im (St.py 6 rfl) ?_
   refine Im (St.Ae (A:=6) (TA:=22) 3 G.length (congrArg (fun c=>some (Ob.mix 22 c)) (by simp)) (by decide) (by omega) (fun i h1 h2=>xN (by decide) h1 h2)) ?_
   refine Gx rfl ?_
   refine Z4 rfl rfl rfl rfl rfl ?_
   refine Gl rfl (st:=fun x_2:Nat=>ovl (mkS [(4,.ptr 2 0),(7,.ptr 7 0),(10,.ptr 10 0),(73,.pv (.sl none S.rels.length (bj S.rels))),(74,.pv (.int .i64 S.rels.length)),(75,.pv (.int .i64 x_2))] [(2,.mix 144 [.pv nS,.pv nS,.pv nS,.pv nS]),(5,.cells 22 (K2.map ak)),(7,.mix 144 [.pv (bu (lsT P k)),.osl 5 1 G.length,.osl 6 1 G.length,.gsl 8 1 M.length]),(8,.gro 3 (aE M)),(9,.cells 3 (aE D2)),(10,.mix 22 [.osl 9 1 G.length])] 12) 6 22 3 (chV (lsP (hsT G.length H x_2))) (lsP (hsT G.length H x_2)))
    (I:=fun x_2=>x_2≤S.rels.length) (μ:=fun x_2=>S.rels.length-x_2) (x0:=(0)) (St.ej 1000 999 (aT rfl) (aP (by kernel_rfl)) (congrArg (fun c=>some (Ob.mix 22 c)) (by rw [eQ 999 (by rw [cZ,cP];omega),uy];unfold lsP;rw [List.map_replicate];rfl)) (fun j hj=>by rw [cZ,cP] at hj;rw [b9 (by omega)];refine (b8 (A:=6) (TA:=22) (cells:=chV (List.replicate G.length [])) (ls:=List.replicate G.length []) (by decide) (by rw [List.length_replicate];omega)).trans ?_;simp [uy,lsP]) rfl rfl (by decide) (by decide) (by decide) (by decide) (by rw [cZ,cP];omega)) (Nat.zero_le _) ?_
   rintro i hi
   refine Z1 rfl rfl ?_
   refine Gp rfl rfl (fun hc76=>?_) (fun hc76=>?_)
   ·have hli:i<S.rels.length:=by omega
    have hrow:=cW hli
    have hne:=ew hli
    have hrk:=hrln _ (List.getElem_mem hli)
    have hrr:=hV.rng _ (List.getElem_mem hli)
    have hrn0:=hV.ne _ (List.getElem_mem hli)
    have hHi:=hHr i hli
    have hlen:(lsP (hsT G.length H i)).length=G.length:=by rw [cZ,cP]
    have hlb:=fun U (h:U<(lsP (hsT G.length H i)).length)=>Hl G.length H i h
    generalize S.rels[i]=rk at*
    have hhm:=fun j=>pY D2 hrn0 j
    have hnat:∀ x∈rk.2,∃ m:Nat,m<G.length∧x=(m:Int):=fun x hx=>by obtain ⟨m,e⟩:=Int.eq_ofNat_of_zero_le (hrr x hx).1;exact ⟨m,by have:=(hrr x hx).2;omega,e⟩
    obtain ⟨U,hUn,hUe⟩:=hnat _ (hhm rk.2.length)
    generalize hls:lsP (hsT G.length H i)=ls at*
    have hUl:U<ls.length:=by omega
    have hnx:lsP (hsT G.length H (i+1))=ls.set U (ls[U]++[.int .i64 i]):=by have h5:U<(hsT G.length H i).length:=(by rw [cP];exact hUn);rw [Cy (by omega) hUn (hHi.trans hUe),sq _ _ h5];subst hls;rfl
    have hld:=xA hUl
    have hlbU:=hlb _ hUl
    have hsto:U*1+1≤(chV ls).length:=by rw [fp];omega
    have h0l:0<rk.2.length:=List.length_pos_iff.2 hrn0
    have hq0:(aE rk.2)[0*1]? =some (.int .i64 (eX D2 rk.2 0)):=by cases hc:rk.2 with | nil=>exact absurd hc hrn0 | cons x l=>simp [eX]
    have hpn0:=aH h0l
    refine Il ?_
    refine Z2 rfl rfl rfl ?_
    first | refine A3 rfl (by assumption) ?_ | refine A1 rfl ?_
    refine Y3 rfl rfl rfl ?_
    refine Z2 rfl rfl rfl ?_
    refine Rs 82 rfl rfl (ag 0 underlying22 sz3 rfl rfl rfl h0l hpn0) ?_
    refine Rs 83 rfl rfl (ai ⟨_,underlying3,rfl⟩ rfl hq0) ?_
    refine A1 rfl ?_
    refine Z4 rfl rfl rfl rfl rfl ?_
    refine Gl rfl (st:=fun x_3:Nat=>ovl (mkS [(4,.ptr 2 0),(7,.ptr 7 0),(10,.ptr 10 0),(14,.pv (.int .i64 i)),(16,.pv (.int .i64 (eX D2 rk.2 x_3))),(73,.pv (.sl none S.rels.length (bj S.rels))),(74,.pv (.int .i64 S.rels.length)),(75,.pv (.int .i64 i)),(85,.pv (ak rk.2)),(86,.pv (.int .i64 rk.2.length)),(87,.pv (.int .i64 x_3))] [(2,.mix 144 [.pv nS,.pv nS,.pv nS,.pv nS]),(5,.cells 22 (K2.map ak)),(7,.mix 144 [.pv (bu (lsT P k)),.osl 5 1 G.length,.osl 6 1 G.length,.gsl 8 1 M.length]),(8,.gro 3 (aE M)),(9,.cells 3 (aE D2)),(10,.mix 22 [.osl 9 1 G.length])] 13) 6 22 3 (chV ls) (ls))
     (I:=fun x_3=>x_3≤rk.2.length) (μ:=fun x_3=>rk.2.length-x_3) (x0:=(0)) (St.ej 1000 999 (aT rfl) (aP (by kernel_rfl)) (Eq.trans (b:=some (.mix 22 (chV ls))) (by kernel_rfl) (by rw [eQ 999 (by omega)])) (fun j2 hj2=>by rw [b9 (by omega)];exact Eq.trans (b:=(ovl (mkS [(4,.ptr 2 0),(7,.ptr 7 0),(10,.ptr 10 0),(73,.pv (.sl none S.rels.length (bj S.rels))),(74,.pv (.int .i64 S.rels.length)),(75,.pv (.int .i64 i))] [(2,.mix 144 [.pv nS,.pv nS,.pv nS,.pv nS]),(5,.cells 22 (K2.map ak)),(7,.mix 144 [.pv (bu (lsT P k)),.osl 5 1 G.length,.osl 6 1 G.length,.gsl 8 1 M.length]),(8,.gro 3 (aE M)),(9,.cells 3 (aE D2)),(10,.mix 22 [.osl 9 1 G.length])] 12) 6 22 3 (chV (ls)) (ls)).ob (j2+1000)) (by kernel_rfl) (b8 (by decide) hj2)) rfl rfl (by decide) (by decide) (by decide) (by decide) (by omega)) (Nat.zero_le _) ?_
    rintro j3 hj3
    refine Z1 rfl rfl ?_
    refine Gp rfl rfl (fun hc88=>?_) (fun hc88=>?_)
    ·have hl3:j3<rk.2.length:=by omega
     obtain ⟨a,hal,ha⟩:=hnat _ (List.getElem_mem hl3)
     obtain ⟨mh,hml,hmh⟩:=hnat _ (hhm j3)
     have hpv3:(aE rk.2)[j3*1]? =some (.int .i64 (a:Int)):=by rw [← ha];simp [hl3]
     have hpn3:=aH hl3
     have hDa:(aE D2)[a*1]? =some (.int .i64 (D2.getD a 0)):=by simp [List.getD,hDl,hal]
     have hDm:(aE D2)[mh*1]? =some (.int .i64 (D2.getD mh 0)):=by simp [List.getD,hDl,hml]
     have hhs:=wC D2 rk.2 hl3
     rw [ha,hmh,Int.toNat_natCast,Int.toNat_natCast] at hhs
     refine Il ?_
     refine Z1 rfl rfl ?_
     refine Rs 90 rfl rfl (ai ⟨_,underlying3,rfl⟩ rfl hpv3) ?_
     refine A1 rfl ?_
     refine Ge rfl follows [0,1,2,3,4,5,6,7,8] (by kernel_rfl) ?_
     iterate 2 refine D1 rfl rfl ?_
     refine Ds 93 [_] rfl rfl rfl (fun τ h=>aa a underlying22 sz3 (Ee h 0 rfl rfl) (Eo h 0 rfl rfl) (Ee h 1 rfl rfl) rfl (by omega)) rfl (by kernel_rfl) ?_
     refine Ds 94 [_] rfl rfl rfl (fun τ h=>aC ⟨_,underlying3,rfl⟩ (Ee h 0 rfl rfl) (Eo h 0 rfl rfl) hDa) rfl (by kernel_rfl) ?_
     iterate 2 refine D1 rfl rfl ?_
     refine Ds 97 [_] rfl rfl rfl (fun τ h=>aa mh underlying22 sz3 (Ee h 0 rfl rfl) (Eo h 0 rfl rfl) (Ee h 1 rfl rfl) hmh (by omega)) rfl (by kernel_rfl) ?_
     refine Ds 98 [_] rfl rfl rfl (fun τ h=>aC ⟨_,underlying3,rfl⟩ (Ee h 0 rfl rfl) (Eo h 0 rfl rfl) hDm) rfl (by kernel_rfl) ?_
     refine D1 rfl rfl ?_
     refine ⟨by kernel_rfl,?_⟩
     refine Gp rfl rfl (fun hc99=>?_) (fun hc99=>?_)
     ·refine Z2 rfl rfl rfl ?_
      refine Z2 rfl rfl rfl ?_
      exact ⟨(j3+1),St.ej 1000 999 ⟨rfl,rfl,rfl,rfl,congrArg (fun z=>V.pv (.int .i64 z)) (hhs.trans (if_pos hc99)).symm,rfl,rfl,rfl,rfl,rfl,rfl,trivial⟩ (aP (by kernel_rfl)) (Eq.trans (b:=some (.mix 22 (chV ls))) (by kernel_rfl) (by rw [eQ 999 (by omega)])) (fun j2 hj2=>by rw [b9 (by omega)];exact Eq.trans (b:=(ovl (mkS [(4,.ptr 2 0),(7,.ptr 7 0),(10,.ptr 10 0),(14,.pv (.int .i64 i)),(16,.pv (.int .i64 (eX D2 rk.2 j3))),(73,.pv (.sl none S.rels.length (bj S.rels))),(74,.pv (.int .i64 S.rels.length)),(75,.pv (.int .i64 i)),(85,.pv (ak rk.2)),(86,.pv (.int .i64 rk.2.length)),(87,.pv (.int .i64 j3))] [(2,.mix 144 [.pv nS,.pv nS,.pv nS,.pv nS]),(5,.cells 22 (K2.map ak)),(7,.mix 144 [.pv (bu (lsT P k)),.osl 5 1 G.length,.osl 6 1 G.length,.gsl 8 1 M.length]),(8,.gro 3 (aE M)),(9,.cells 3 (aE D2)),(10,.mix 22 [.osl 9 1 G.length])] 13) 6 22 3 (chV ls) (ls)).ob (j2+1000)) (by kernel_rfl) (b8 (by decide) hj2)) rfl rfl (by decide) (by decide) (by decide) (by decide) (by omega),by omega,by omega⟩
     ·refine Il ?_
      refine Z2 rfl rfl rfl ?_
      exact ⟨(j3+1),St.ej 1000 999 ⟨rfl,rfl,rfl,rfl,congrArg (fun z=>V.pv (.int .i64 z)) ((hhs.trans (if_neg hc99)).trans hmh.symm).symm,rfl,rfl,rfl,rfl,rfl,rfl,trivial⟩ (aP (by kernel_rfl)) (Eq.trans (b:=some (.mix 22 (chV ls))) (by kernel_rfl) (by rw [eQ 999 (by omega)])) (fun j2 hj2=>by rw [b9 (by omega)];exact Eq.trans (b:=(ovl (mkS [(4,.ptr 2 0),(7,.ptr 7 0),(10,.ptr 10 0),(14,.pv (.int .i64 i)),(16,.pv (.int .i64 (eX D2 rk.2 j3))),(73,.pv (.sl none S.rels.length (bj S.rels))),(74,.pv (.int .i64 S.rels.length)),(75,.pv (.int .i64 i)),(85,.pv (ak rk.2)),(86,.pv (.int .i64 rk.2.length)),(87,.pv (.int .i64 j3))] [(2,.mix 144 [.pv nS,.pv nS,.pv nS,.pv nS]),(5,.cells 22 (K2.map ak)),(7,.mix 144 [.pv (bu (lsT P k)),.osl 5 1 G.length,.osl 6 1 G.length,.gsl 8 1 M.length]),(8,.gro 3 (aE M)),(9,.cells 3 (aE D2)),(10,.mix 22 [.osl 9 1 G.length])] 13) 6 22 3 (chV ls) (ls)).ob (j2+1000)) (by kernel_rfl) (b8 (by decide) hj2)) rfl rfl (by decide) (by decide) (by decide) (by decide) (by omega),by omega,by omega⟩
    ·have hje:j3=rk.2.length:=by omega
     rw [← hje] at hUe
     refine Gx rfl ?_
     refine Ge rfl follows [0,1,2,3,4,5,6,7,8,9,10,11,12] (by kernel_rfl) ?_
     iterate 6 refine D1 rfl rfl ?_
     refine Ds 108 [_] rfl rfl rfl (fun τ h=>aa U underlying142 ly (Ee h 0 rfl rfl) (Eo h 0 rfl rfl) (Ee h 1 rfl rfl) hUe (by omega)) rfl (by kernel_rfl) ?_
     refine Ds 109 [_] rfl rfl rfl (fun τ h=>jU ⟨_,underlying22,rfl⟩ (Ee h 0 rfl rfl) (Eo h 0 rfl rfl) hld) rfl (by kernel_rfl) ?_
     iterate 2 refine D1 rfl rfl ?_
     refine Ds 112 [U+1000,13] rfl rfl rfl (fun τ h=>eN 14 xj (Ee h 0 rfl rfl) ((h.o 0 _ rfl).trans (Eq.trans (b:=(ovl (mkS [(4,.ptr 2 0),(7,.ptr 7 0),(10,.ptr 10 0),(14,.pv (.int .i64 i)),(16,.pv (.int .i64 (eX D2 rk.2 j3))),(73,.pv (.sl none S.rels.length (bj S.rels))),(74,.pv (.int .i64 S.rels.length)),(75,.pv (.int .i64 i)),(85,.pv (ak rk.2)),(86,.pv (.int .i64 rk.2.length)),(87,.pv (.int .i64 j3))] [(2,.mix 144 [.pv nS,.pv nS,.pv nS,.pv nS]),(5,.cells 22 (K2.map ak)),(7,.mix 144 [.pv (bu (lsT P k)),.osl 5 1 G.length,.osl 6 1 G.length,.gsl 8 1 M.length]),(8,.gro 3 (aE M)),(9,.cells 3 (aE D2)),(10,.mix 22 [.osl 9 1 G.length])] 13) 6 22 3 (chV ls) (ls)).ob (U+1000)) (by kernel_rfl) (b8 (by decide) hUl))) (Nat.mul_one _).symm (Ee h 1 rfl rfl) (Eo h 1 rfl rfl) rfl rfl (by omega) (h.n 0 _ rfl)) rfl (by kernel_rfl) ?_
     refine Ds 113 [_] rfl rfl rfl (fun τ h=>aa U underlying142 ly (Ee h 0 rfl rfl) (Eo h 0 rfl rfl) (Ee h 1 rfl rfl) hUe (by omega)) rfl (by kernel_rfl) ?_
     refine DL.step (d:=none) [_] rfl rfl rfl (fun τ h=>jR ly (Ee h 0 rfl rfl) (Eo h 0 rfl rfl) (Ee h 1 rfl rfl) rfl hsto rfl rfl) rfl (by kernel_rfl) ?_
     refine ⟨by kernel_rfl,?_⟩
     refine Z2 rfl rfl rfl ?_
     exact ⟨(i+1),(by rw [hnx];exact St.ej U 14 (aT rfl) (aP (by kernel_rfl)) (Eq.trans (b:=some (.mix 22 (eY (chV ls) (U*1) [.gsl 14 1 (ls[U].length+1)]))) (by kernel_rfl) (congrArg (fun c=>some (Ob.mix 22 c)) ((nF _ _ _ (by rw [fp];omega)).trans (kg hUl 14 _).symm))) (r5 hUl _ (by kernel_rfl) (fun j2 hj2 hne2=>Eq.trans (b:=bif Nat.beq (j2+1000) (U+1000) then (none:Option Ob) else (ovl (mkS [(4,.ptr 2 0),(7,.ptr 7 0),(10,.ptr 10 0),(14,.pv (.int .i64 i)),(16,.pv (.int .i64 (eX D2 rk.2 j3))),(73,.pv (.sl none S.rels.length (bj S.rels))),(74,.pv (.int .i64 S.rels.length)),(75,.pv (.int .i64 i)),(85,.pv (ak rk.2)),(86,.pv (.int .i64 rk.2.length)),(87,.pv (.int .i64 j3))] [(2,.mix 144 [.pv nS,.pv nS,.pv nS,.pv nS]),(5,.cells 22 (K2.map ak)),(7,.mix 144 [.pv (bu (lsT P k)),.osl 5 1 G.length,.osl 6 1 G.length,.gsl 8 1 M.length]),(8,.gro 3 (aE M)),(9,.cells 3 (aE D2)),(10,.mix 22 [.osl 9 1 G.length])] 13) 6 22 3 (chV ls) (ls)).ob (j2+1000)) (by kernel_rfl) (by rw [y7 (by omega),cond_false];exact oE (by decide) hj2))) rfl rfl (by decide) (by decide) (by decide) (by omega) (by rw [List.length_set];omega)),by omega,by omega⟩
   ·have hie:i=S.rels.length:=by omega
    have hlen:(lsP (hsT G.length H i)).length=G.length:=by rw [cZ,cP]
    have hcp2:chP (lsP (hsT G.length H i))=((hsT G.length H i).map ak).map V.pv:=by rw [zo,List.map_map];rfl
    generalize hls:lsP (hsT G.length H i)=ls at*
    refine Im (St.ej (l:=[(4,.ptr 2 0),(7,.ptr 7 0)]) (os:=[(2,.mix 144 [.pv nS,.pv nS,.pv nS,.pv nS]),(5,.cells 22 (K2.map ak)),(7,.mix 144 [.pv (bu (lsT P k)),.osl 5 1 G.length,.osl 6 1 G.length,.gsl 8 1 M.length]),(8,.gro 3 (aE M))]) (k:=12) (A:=6) (TA:=22) (T:=3) (ls:=ls) 1000 999 (aT (by kernel_rfl)) (aP (by kernel_rfl)) (Eq.trans (b:=some (.mix 22 (chV ls))) (by kernel_rfl) (by rw [eQ 999 (by omega)])) (fun j2 hj2=>by rw [b9 (by omega)];exact Eq.trans (b:=(ovl (mkS [(4,.ptr 2 0),(7,.ptr 7 0),(10,.ptr 10 0),(73,.pv (.sl none S.rels.length (bj S.rels))),(74,.pv (.int .i64 S.rels.length)),(75,.pv (.int .i64 i))] [(2,.mix 144 [.pv nS,.pv nS,.pv nS,.pv nS]),(5,.cells 22 (K2.map ak)),(7,.mix 144 [.pv (bu (lsT P k)),.osl 5 1 G.length,.osl 6 1 G.length,.gsl 8 1 M.length]),(8,.gro 3 (aE M)),(9,.cells 3 (aE D2)),(10,.mix 22 [.osl 9 1 G.length])] 12) 6 22 3 (chV (ls)) (ls)).ob (j2+1000)) (by kernel_rfl) (b8 (by decide) hj2)) rfl rfl (by decide) (by decide) (by decide) (by decide) (by omega)) ?_
    have hsm2:=uA (l:=[(4,.ptr 2 0),(7,.ptr 7 0)]) (os:=[(2,.mix 144 [.pv nS,.pv nS,.pv nS,.pv nS]),(5,.cells 22 (K2.map ak)),(7,.mix 144 [.pv (bu (lsT P k)),.osl 5 1 G.length,.osl 6 1 G.length,.gsl 8 1 M.length]),(8,.gro 3 (aE M))]) (k:=12) rfl rfl
    refine Im (St.zC ls (by decide) (by omega) hsm2.1 hsm2.2) ?_
    refine Im (St.zb (id:=6) (cs:=(hsT G.length H i).map ak) rfl hcp2) ?_
    refine Wk [(4,.ptr 2 0),(7,.ptr 7 0)] [(2,.mix 144 [.pv nS,.pv nS,.pv nS,.pv nS]),(5,.cells 22 (K2.map ak)),(6,.cells 22 ((hsT G.length H i).map ak)),(7,.mix 144 [.pv (bu (lsT P k)),.osl 5 1 G.length,.osl 6 1 G.length,.gsl 8 1 M.length]),(8,.gro 3 (aE M))] 12 (aS (by kernel_rfl)) (aO (by kernel_rfl)) rfl rfl ?_
    refine Im (Ir 6 rfl rfl) ?_
    refine Im (Ir 5 rfl rfl) ?_
    refine Im (Ir 8 rfl rfl) ?_
    refine Im (St.uB 7 rfl) ?_
    refine Gx rfl ?_
    refine Z2 rfl rfl rfl ?_
    refine Gt rfl ?_
    exact ⟨_,_,rfl,rfl,⟨aY ⟨_,underlying144,rfl⟩ Fj rfl rfl rfl,trivial⟩,G,hG,FR hkP hie hH hM hCS hD2 hK2 hKl⟩
end
section
open Go.RowKit Mk Jn
set_option maxHeartbeats 4000000
noncomputable def planS (S:Sch):VD:=iK S (ordL S (lstL S)) (gr S)
theorem He (S:Sch) (hS:SB S) (hO:OrdOk S (ordL S (lstL S))):FnP Tryz.prog 225 [gK S,Fe (ordL S (lstL S))] (· =ca (planS S)):=
 (Dk S hS _ hO).mono fun v ⟨G,hG,e⟩=>by rw [e,uw hO.val hG];rfl
theorem G9 {S:Sch} (hS:SB S) (hV:Valid S):OrdOk S (ordL S (lstL S)):=by
 have hp:=(iN S hS hV).1
 exact (C9 hV hp).ok hV hp
theorem rR (l:List Int) (hl:l.length≤1000000):FnP Tryz.prog 222 [ak l] (· =ak l):=by
 refine FnP.fg2 (FnP.of func222 rfl ntmps222 (by simp) fun m0 w0 F R0=>?_)
 refine Z1 rfl rfl ?_
 refine Z1 rfl rfl ?_
 refine RL.call rfl (l9 underlying22 rfl ?_)
 intro b hb
 refine Gc rfl rfl (fun hc4=>?_) (fun hc4=>?_)
 ·have hl0:l=[]:=List.map_eq_nil_iff.1 (hb hc4)
  refine Z1 rfl rfl ?_
  refine Gt rfl ?_
  exact ⟨_,_,rfl,rfl,by rw [hl0];rfl⟩
 ·refine Il ?_
  refine Gr rfl ?_
  refine Rs 5 rfl rfl (ek 0 xj rfl) ?_
  refine A1 rfl ?_
  refine Rs 7 rfl rfl (fc 1 xj rfl rfl rfl (.inl ⟨none,rfl⟩) (by simp) (fun c hc=>by obtain ⟨y,_,rfl⟩:=List.mem_map.1 hc;rfl) (by omega) rfl) ?_
  refine A1 rfl ?_
  refine Im (Ir 1 rfl rfl) ?_
  refine Gt rfl ?_
  exact ⟨_,_,rfl,rfl,show PV.sl none (0+l.length) ([]++aE l)=_ by rw [Nat.zero_add,List.nil_append]⟩
abbrev jnO (S:Sch) (T:List (List Rw)) (lp:List Int) (pk pv:List PV):List (Nat×Ob):=[(big,oX S (.pv (dbP T)) (.pv (ak lp)) 1000001),(1000001,.mp pk pv)]
abbrev A6 (D:VD):List V:=[.pv (bu D.chs),.pv (bu D.kes),.pv (bu D.hos),.pv (ak D.wa)]
theorem gH:∀ (a b:List (Nat×Ob)) (i:Nat) (o:Ob),ar a i=some o→ar (a++b) i=some o
 | [],b,i,o,h=>by simp [ar] at h
 | (d,v)::a,b,i,o,h=>by
   simp only [List.cons_append,ar] at h ⊢
   cases hb:Nat.beq i d with
   | true=>rw [hb] at h;exact h
   | false=>rw [hb] at h;exact gH a b i o h
theorem Ax (S:Sch) (hS:SB S) (hV:Valid S) (T:List (List Rw)) (lp:List Int) (hp:lp.Perm (upZ S.attrs.length)) (D:VD) (hlay:FnP Tryz.prog 225 [gK S,Fe (ordL S lp)] (· =ca D)):FnO Tryz.prog 186 2 0 [.ptr big 0,.pv (.int .i64 (-1))] (jnO S T lp [] []) (fun v ob'=>v= .agg (A6 D)∧ob'=ar (jnO S T lp [.int .i64 (-1)] [ca D])):=by
 refine FnO.ofC func186 rfl ntmps186 (by simp) fun m0 w0 F R0=>?_
 have hq:∀ a∈lp,0≤a∧a<S.attrs.length:=fun a ha=>by obtain ⟨m,hm,rfl⟩:=bx.1 (hp.mem_iff.1 ha);omega
 have hql:lp.length≤1000:=by rw [hp.length_eq,a8];have:=hV.n2;omega
 have hof:=Gu S hS hV lp hq hql
 generalize ordL S lp=Q at*
 refine Z2 rfl rfl rfl ?_
 refine Ge rfl follows [0,1,2,3,4,5,6,7,8,9,10,11] (by kernel_rfl) ?_
 iterate 5 refine D1 rfl rfl ?_
 refine Ds 14 [_] rfl rfl rfl (fun τ h=>cg (zp:= .agg [.sl (some true) 0 [],.sl (some true) 0 [],.sl (some true) 0 [],.sl (some true) 0 []]) underlying125 underlying3 (.inl ⟨1000001,(Ee h 0 rfl rfl),(Eo h 0 rfl rfl)⟩) (Ee h 1 rfl rfl) rfl yr rfl (r:=none) rfl rfl rfl) rfl (by kernel_rfl) ?_
 iterate 6 refine D1 rfl rfl ?_
 refine ⟨by kernel_rfl,?_⟩
 refine Z2 rfl rfl rfl ?_
 refine Gc rfl rfl (fun hc18=>?_) (fun hc18=>absurd hc18 (by simp))
 refine Z4 rfl rfl rfl rfl rfl ?_
 refine Rs 23 rfl rfl (ae call222 (rR _ (by omega)) rfl) ?_
 refine A1 rfl ?_
 refine Z2 rfl rfl rfl ?_
 refine Gp rfl rfl (fun hc25=>absurd hc25 (by simp)) (fun hc25=>?_)
 refine Il ?_
 refine Ge rfl follows [0,1,2,3,4,5,6,7,8,9,10,11] (by kernel_rfl) ?_
 iterate 9 refine D1 rfl rfl ?_
 refine Ds 41 [] rfl rfl rfl (fun τ h=>ae call226 hof (h.bt rfl)) rfl (by kernel_rfl) ?_
 refine Ds 42 [] rfl rfl rfl (fun τ h=>ae call225 hlay (h.bt rfl)) rfl (by kernel_rfl) ?_
 refine D1 rfl rfl ?_
 refine ⟨by kernel_rfl,?_⟩
 refine Ge rfl follows [0,1,2,3,4,5,6] (by kernel_rfl) ?_
 iterate 6 refine D1 rfl rfl ?_
 refine DL.step (d:=none) [_] rfl rfl rfl (fun τ h=>ed underlying125 underlying3 (Ee h 0 rfl rfl) (Eo h 0 rfl rfl) (Ee h 1 rfl rfl) (Ee h 2 rfl rfl) rfl (r:=none) rfl rfl rfl) rfl (by kernel_rfl) ?_
 refine ⟨by kernel_rfl,?_⟩
 refine Z2 rfl rfl rfl ?_
 refine Gt rfl ?_
 exact ⟨[(4,.ptr 1 0)],[(big,oX S (.pv (dbP T)) (.pv (ak lp)) 1000001),(1000001,.mp [.int .i64 (-1)] [ca D]),(1,.mix 144 (A6 D))],[.agg (A6 D)],[(big,oX S (.pv (dbP T)) (.pv (ak lp)) 1000001),(1000001,.mp [.int .i64 (-1)] [ca D])],2,Io (aS rfl) (aO (by kernel_rfl)) rfl rfl,rfl,⟨aY ⟨_,underlying144,rfl⟩ Fj rfl rfl rfl,trivial⟩,rfl,rfl,fun i o h=>gH _ [(1,.mix 144 (A6 D))] i o h,by decide,rfl,rfl⟩
theorem Cm (S:Sch) (T:List (List Rw)) (lp:List Int) (D:VD):FnO Tryz.prog 186 2 0 [.ptr big 0,.pv (.int .i64 (-1))] (jnO S T lp [.int .i64 (-1)] [ca D]) (fun v ob'=>v= .agg (A6 D)∧ob'=ar (jnO S T lp [.int .i64 (-1)] [ca D])):=by
 refine FnO.ofC func186 rfl ntmps186 (by simp) fun m0 w0 F R0=>?_
 refine Z2 rfl rfl rfl ?_
 refine Ge rfl follows [0,1,2,3,4,5,6,7,8,9,10,11] (by kernel_rfl) ?_
 iterate 5 refine D1 rfl rfl ?_
 refine Ds 14 [_] rfl rfl rfl (fun τ h=>cg (zp:= .agg [.sl (some true) 0 [],.sl (some true) 0 [],.sl (some true) 0 [],.sl (some true) 0 []]) underlying125 underlying3 (.inl ⟨1000001,(Ee h 0 rfl rfl),(Eo h 0 rfl rfl)⟩) (Ee h 1 rfl rfl) rfl yr rfl (r:=some (ca D)) rfl rfl rfl) rfl (by kernel_rfl) ?_
 iterate 6 refine D1 rfl rfl ?_
 refine ⟨by kernel_rfl,?_⟩
 refine Z2 rfl rfl rfl ?_
 refine Gc rfl rfl (fun hc18=>absurd hc18 (by simp)) (fun hc18=>?_)
 refine Il ?_
 refine Z2 rfl rfl rfl ?_
 refine Gt rfl ?_
 exact ⟨[(4,.ptr 1 0)],[(big,oX S (.pv (dbP T)) (.pv (ak lp)) 1000001),(1000001,.mp [.int .i64 (-1)] [ca D]),(1,.mix 144 (A6 D))],[.agg (A6 D)],[(big,oX S (.pv (dbP T)) (.pv (ak lp)) 1000001),(1000001,.mp [.int .i64 (-1)] [ca D])],2,Io (aS rfl) (aO (by kernel_rfl)) rfl rfl,rfl,⟨aY ⟨_,underlying144,rfl⟩ Fj rfl rfl rfl,trivial⟩,rfl,rfl,fun i o h=>gH _ [(1,.mix 144 (A6 D))] i o h,by decide,rfl,rfl⟩
end
section
open Go.RowKit Mk Jn
set_option maxHeartbeats 4000000
abbrev s0B:Asg ByteArray:=fun _=>none
abbrev jdB (S:Sch) (T:List (List Rw)) (lp:List Int) (D:VD):JD:=⟨S,T,ak lp,[.int .i64 (-1)],[ca D]⟩
abbrev HC:PV:= .agg [.bool false,.bool true,.fn (.func 189) [] [],.fn (.func 190) [] [],.fn (.func 191) [] []]
abbrev Fa:PV:= .fn (.func 142) [] []
abbrev wtB:PV:= .fn (.func 143) [] []
abbrev HG (S:Sch) (T:List (List Rw)) (lp:List Int) (D:VD):List (Nat×Ob):=[(4,.mix 155 [.ptr big 0,.pv (bu D.chs),.pv (bu D.kes),.pv (bu D.hos),.pv (ak D.wa),.pv (.bool false),.pv (.bool true),.pv (.fn (.func 189) [] []),.pv (.fn (.func 190) [] []),.pv (.fn (.func 191) [] []),.pv Fa,.pv wtB,.pv .nilmap,.osl 1 1 S.attrs.length,.osl 2 1 S.attrs.length,.map 3]),(1,.cells 9 (aA (List.replicate S.attrs.length eb))),(2,.cells 4 (ay (stL s0B S.attrs.length))),(3,.mp [] []),(big,oX S (.pv (dbP T)) (.pv (ak lp)) 1000001),(1000001,.mp [.int .i64 (-1)] [ca D])]
theorem yH (n:Nat):List.replicate n (PV.bool false)=ay (stL s0B n):=by
 apply List.ext_getElem
 ·simp [cK]
 ·intro i h1 h2
  simp [stL]
theorem rE (S:Sch) (T:List (List Rw)) (lp:List Int) (pk pv:List PV) (D:VD) (hn:S.attrs.length≤1000) (hpl:FnO Tryz.prog 186 2 0 [.ptr big 0,.pv (.int .i64 (-1))] (jnO S T lp pk pv) (fun v ob'=>v= .agg (A6 D)∧ob'=ar (jnO S T lp [.int .i64 (-1)] [ca D]))):
  FnO Tryz.prog 140 2 5 [.ptr big 0,.pv (.int .i64 (-1)),.pv .nilmap,.pv HC,.pv Fa,.pv wtB] (jnO S T lp pk pv) (fun v ob'=>v= .ptr 4 0∧ob'=ar (HG S T lp D)):=by
 refine FnO.of func140 rfl ntmps140 (by simp) fun m0 w0 F R0=>?_
 refine Z2 rfl rfl rfl ?_
 refine Gr rfl ?_
 iterate 7 refine A1 rfl ?_
 refine Ge rfl follows [0,1,2,3,4,5,6,7,8,9,10,11,12,13,14,15] (by kernel_rfl) ?_
 iterate 3 refine D1 rfl rfl ?_
 refine Ds 23 [big,1000001] rfl rfl rfl (fun τ h=>ah [big,1000001] 5 call186 hpl (h.args.trans rfl) rfl rfl rfl ⟨(Eo h 0 rfl rfl),(Eo h 1 rfl rfl),trivial⟩ (by decide) rfl) rfl (by kernel_rfl) ?_
 iterate 8 refine D1 rfl rfl ?_
 refine Ds 32 [] rfl rfl rfl (fun τ h=>fF 3 (h.n 0 _ rfl)) rfl (by kernel_rfl) ?_
 refine D1 (d:=some 33) (s:=⟨.agg [.ptr big 0,.pv (bu D.chs),.pv (bu D.kes),.pv (bu D.hos),.pv (ak D.wa),.pv (.bool false),.pv (.bool true),.pv (.fn (.func 189) [] []),.pv (.fn (.func 190) [] []),.pv (.fn (.func 191) [] []),.pv Fa,.pv wtB,.pv .nilmap,.osl 1 1 S.attrs.length,.osl 2 1 S.attrs.length,.map 3],[],[]⟩) (rd:=[big,1,2,3]) (φ:=True) rfl (by kernel_rfl) ?_
 iterate 2 refine D1 rfl rfl ?_
 refine ⟨by kernel_rfl,?_⟩
 refine Gt rfl ?_
 exact ⟨[(12,.ptr 4 0)],HG S T lp D,[.ptr 4 0],Io (aS rfl) ⟨by kernel_rfl,Eq.trans (b:=some (.cells 9 (mkZ [.str ByteArray.empty] (S.attrs.length*1)))) (by kernel_rfl) (congrArg (fun c=>some (Ob.cells 9 c)) ((ct (.str ByteArray.empty) (S.attrs.length*1)).trans (by rw [Nat.mul_one];show _=List.map _ (List.replicate _ _);rw [List.map_replicate];rfl))),Eq.trans (b:=some (.cells 4 (mkZ [.bool false] (S.attrs.length*1)))) (by kernel_rfl) (congrArg (fun c=>some (Ob.cells 4 c)) ((ct (.bool false) (S.attrs.length*1)).trans (by rw [Nat.mul_one];exact yH _))),by kernel_rfl,by kernel_rfl,by kernel_rfl,trivial⟩ rfl rfl,rfl,rfl,rfl,rfl,rfl⟩
end
section
open Go.RowKit Mk Jn
set_option maxHeartbeats 4000000
abbrev o6N (J:JD) (W:WD) (σ:Asg ByteArray) (now:List ByteArray) (mk mv:List PV):List (Nat×Ob):=[(big,oN W 1000004 1000001 J.S.attrs.length 1000002 1000003),(1000001,.cells 9 (aA now)),(1000002,.cells 4 (ay (stL σ J.S.attrs.length))),(1000003,.mp mk mv),(1000004,oX2 J 1000005),(1000005,.mp J.pk J.pv)]
theorem fq (J:JD) (hJ:JOk J) (W:WD) (σ:Asg ByteArray) (now:List ByteArray) (hn:NowOk J.S.attrs.length σ now) (mk mv:List PV) (r:Nat) (hr:r<J.S.rels.length) (x:Rw) (hx:x.v.length=J.S.rels[r].2.length):
  FnO Tryz.prog 256 6 0 [.ptr big 0,.pv (.int .i64 r),.pv (sJ x)] (o6N J W σ now mk mv) (fun v ob'=>v= .pv (.bool (agr J.S.rels[r].2 σ x.v))∧ob'=ar (o6N J W σ now mk mv)):=by
 refine FnO.of func256 rfl ntmps256 (by simp) fun m0 w0 F R0=>?_
 have hS:=hJ.s
 have hrne:=ew hr
 have hra:(bj J.S.rels)[r*2+1]? =some (ak J.S.rels[r].2):=by
  have h2:(((bj J.S.rels).drop (r*2)).take 2)[1]? =[PV.str J.S.rels[r].1,ak J.S.rels[r].2][1]? :=by rw [cW hr]
  simpa [List.getElem?_take,List.getElem?_drop] using h2
 have hrl:=hS.l _ (List.getElem_mem hr)
 have hrb:=hS.b _ (List.getElem_mem hr)
 have hSr:=hS.r
 have hnl:=hn.l
 rw [pq]
 generalize J.S.rels[r].2=A at*
 refine Z2 rfl rfl rfl ?_
 refine Gr rfl ?_
 iterate 9 refine A1 rfl ?_
 refine Rs 18 rfl rfl (ag r underlying31 Eu rfl rfl rfl hr hrne) ?_
 refine A1 rfl ?_
 refine Rs 20 rfl rfl (ai ⟨_,underlying22,rfl⟩ rfl hra) ?_
 refine Y2 rfl rfl ?_
 refine Gl rfl (st:=fun x_0:Nat=>mkS [(0,.ptr big 0),(5,.ptr 0 0),(20,.pv (ak A)),(21,.pv (.int .i64 A.length)),(22,.pv (.int .i64 x_0))] [(big,oN W 1000004 1000001 J.S.attrs.length 1000002 1000003),(0,.mix 49 [.pv (aI x.v),.pv (.int .i64 x.w)]),(1000001,.cells 9 (aA now)),(1000002,.cells 4 (ay (stL σ J.S.attrs.length))),(1000003,.mp mk mv),(1000004,oX2 J 1000005),(1000005,.mp J.pk J.pv)] 1)
  (I:=fun x_0=>x_0≤A.length∧((A.zip x.v).take x_0).all (agP σ)=true) (μ:=fun x_0=>A.length-x_0) (x0:=(0)) (Io (aS rfl) (aO rfl) rfl rfl) (⟨Nat.zero_le _,rfl⟩) ?_
 rintro j ⟨hj,hall⟩
 refine Z1 rfl rfl ?_
 refine Gp rfl rfl (fun hc23=>?_) (fun hc23=>?_)
 ·have hlj:j<A.length:=by omega
  have hzs:=eM hx hlj (agP σ)
  obtain ⟨a,haa⟩:=Int.eq_ofNat_of_zero_le (hrb _ (List.getElem_mem hlj)).1
  have hal:a<J.S.attrs.length:=by have:=(hrb _ (List.getElem_mem hlj)).2;omega
  have hpv:(aE A)[j*1]? =some (.int .i64 (a:Int)):=by rw [← haa];simp [hlj]
  have hpn:=aH hlj
  have hjv:j<x.v.length:=by omega
  have hsv:=aM hjv
  have hsn:=bc hjv
  have hset:=DW (σ:=σ) hal
  have hnow:=aM (l:=now) (k:=a) (by omega)
  have hsl:(ay (stL σ J.S.attrs.length)).length=J.S.attrs.length:=by rw [List.length_map,cK]
  have hnl2:(aA now).length=J.S.attrs.length:=by rw [List.length_map,hnl]
  rw [hall,haa,Bool.true_and] at hzs
  refine Il ?_
  refine Z2 rfl rfl rfl ?_
  refine Rs 26 rfl rfl (ai ⟨_,underlying3,rfl⟩ rfl hpv) ?_
  refine Y2 rfl rfl ?_
  by_cases hsg:(σ (a:Int)).isSome=true
  ·have hval:=Option.some_get hsg
   have hnv:now[a]'(by omega)=(σ (a:Int)).get hsg:=hn.e a (by omega) _ hval.symm
   generalize hgz:(σ (a:Int)).get hsg=z at*
   rw [gW hval.symm] at hzs
   rw [hsg] at hset
   rw [hnv] at hnow
   refine Ge rfl follows [0,1,2,3,4,5,6,7,8,9,10,11,12,13,14,15,16,17,18,19,20,21] (by kernel_rfl) ?_
   iterate 6 refine D1 rfl rfl ?_
   refine Ds 33 [_] rfl rfl rfl (fun τ h=>aC ⟨_,underlying4,rfl⟩ (Ee h 0 rfl rfl) (Eo h 0 rfl rfl) hset) rfl (by kernel_rfl) ?_
   iterate 7 refine D1 rfl rfl ?_
   refine Dg 41 [_] rfl rfl rfl rfl (fun τ h=>aC ⟨_,underlying9,rfl⟩ (Ee h 0 rfl rfl) (Eo h 0 rfl rfl) hnow) rfl (by kernel_rfl) ?_
   iterate 4 refine D1 rfl rfl ?_
   refine Dg 46 [] rfl rfl rfl rfl (fun τ h=>ai ⟨_,underlying9,rfl⟩ (Ee h 0 rfl rfl) hsv) rfl (by kernel_rfl) ?_
   iterate 2 refine D1 rfl rfl ?_
   refine ⟨by kernel_rfl,?_⟩
   refine Gc rfl rfl (fun hc48=>?_) (fun hc48=>?_)
   ·refine Z1 rfl rfl ?_
    refine Gt rfl ?_
    exact ⟨[(6,.pv (.bool false))],o6N J W σ now mk mv,[.pv (.bool false)],Io (aS rfl) (aO rfl) rfl rfl,rfl,rfl,rfl,congrArg (fun b=>V.pv (.bool b)) (pZ (hzs.trans (Ha hc48))).symm,rfl⟩
   ·refine Il ?_
    refine Z2 rfl rfl rfl ?_
    exact ⟨(j+1),Io (aS rfl) (aO rfl) rfl rfl,⟨by omega,hzs.trans (G6 hc48)⟩,by omega⟩
  ·have hno:σ (a:Int)=none:=by cases h:σ (a:Int) with | none=>rfl | some x=>rw [h] at hsg;exact absurd rfl hsg
   rw [oM hno] at hzs
   rw [eq_false_of_ne_true hsg] at hset
   refine Ge rfl follows [0,1,2,3,4,5,6,7,8,9,10,11,12,13,14,15,16,17,18,19,20,21] (by kernel_rfl) ?_
   iterate 6 refine D1 rfl rfl ?_
   refine Ds 33 [_] rfl rfl rfl (fun τ h=>aC ⟨_,underlying4,rfl⟩ (Ee h 0 rfl rfl) (Eo h 0 rfl rfl) hset) rfl (by kernel_rfl) ?_
   iterate 15 refine D1 rfl rfl ?_
   refine ⟨by kernel_rfl,?_⟩
   refine Gc rfl rfl (fun hc48=>absurd hc48 (by simp)) (fun hc48=>?_)
   refine Il ?_
   refine Z2 rfl rfl rfl ?_
   exact ⟨(j+1),Io (aS rfl) (aO rfl) rfl rfl,⟨by omega,hzs⟩,by omega⟩
 ·rw [List.take_of_length_le (by simp;omega)] at hall
  refine Gx rfl ?_
  refine Z1 rfl rfl ?_
  refine Gt rfl ?_
  exact ⟨[(6,.pv (.bool true))],o6N J W σ now mk mv,[.pv (.bool true)],Io (aS rfl) (aO rfl) rfl rfl,rfl,rfl,rfl,congrArg (fun b=>V.pv (.bool b)) hall.symm,rfl⟩
end
section
open Go.RowKit Mk Jn
set_option maxHeartbeats 4000000
abbrev o7N (J:JD) (W:WD) (σ:Asg ByteArray) (now:List ByteArray) (mk mv:List PV):List (Nat×Ob):=[(big,.mix 198 [.ptr 1000001 0]),(1000001,oN W 1000005 1000002 J.S.attrs.length 1000003 1000004),(1000002,.cells 9 (aA now)),(1000003,.cells 4 (ay (stL σ J.S.attrs.length))),(1000004,.mp mk mv),(1000005,oX2 J 1000006),(1000006,.mp J.pk J.pv)]
theorem sQ (J:JD) (hJ:JOk J) (W:WD) (σ:Asg ByteArray) (now:List ByteArray) (hn:NowOk J.S.attrs.length σ now) (mk mv:List PV) (r:Nat) (hr:r<J.S.rels.length) (x:Rw) (hx:x.v.length=J.S.rels[r].2.length):
  FnO Tryz.prog 273 7 0 [.pv (sJ x),.ptr big 0,.pv (.rp [.int .i64 r] 0)] (o7N J W σ now mk mv) (fun v ob'=>v= .pv (.bool (agr J.S.rels[r].2 σ x.v))∧ob'=ar (o7N J W σ now mk mv)):=by
 refine FnO.of func273 rfl ntmps273 (by simp) fun m0 w0 F R0=>?_
 have hgo:=fq J hJ W σ now hn mk mv r hr x hx
 generalize agr J.S.rels[r].2 σ x.v=b at*
 refine Z2 rfl rfl rfl ?_
 refine Gr rfl ?_
 first | refine A1 rfl ?_ | refine A2 rfl (by assumption) ?_
 first | refine A1 rfl ?_ | refine A2 rfl (by assumption) ?_
 refine A1 rfl ?_
 refine Rs 8 rfl rfl (ah [1000001,1000002,1000003,1000004,1000005,1000006] 1 call256 hgo rfl rfl rfl rfl ⟨rfl,rfl,rfl,rfl,rfl,rfl,trivial⟩ (by decide) rfl) ?_
 refine A1 rfl ?_
 refine Gt rfl ?_
 exact ⟨[(4,.pv (.bool b))],o7N J W σ now mk mv,[.pv (.bool b)],Io (aS rfl) (aO (by kernel_rfl)) rfl rfl,rfl,rfl,rfl,rfl,rfl⟩
abbrev sm1N (r:Nat):V:= .fn (.func 273) [] [.ptr big 0,.pv (.rp [.int .i64 r] 0)]
theorem qc (J:JD) (hJ:JOk J) (W:WD) (σ:Asg ByteArray) (now:List ByteArray) (hn:NowOk J.S.attrs.length σ now) (mk mv:List PV) (r:Nat) (hr:r<J.S.rels.length) (l:List Rw) (hl:l.length≤1000) (hx:∀ x∈l,x.v.length=J.S.rels[r].2.length):
  ∃ i:Int,decide (i≥0)=l.any (fun x=>agr J.S.rels[r].2 σ x.v)∧FnO Tryz.prog 109 7 0 [.pv (bL l),sm1N r] (o7N J W σ now mk mv) (fun v ob'=>v= .pv (.int .i64 i)∧ob'=ar (o7N J W σ now mk mv)):=by
 have hgo:∀ k (h:k<l.length),FnO Tryz.prog 273 7 0 [.pv (sJ l[k]),.ptr big 0,.pv (.rp [.int .i64 r] 0)] (o7N J W σ now mk mv) (fun v ob'=>v= .pv (.bool (agr J.S.rels[r].2 σ l[k].v))∧ob'=ar (o7N J W σ now mk mv)):=fun k h=>sQ J hJ W σ now hn mk mv r hr l[k] (hx _ (List.getElem_mem h))
 have hi:∃ i:Int,decide (i≥0)=l.any (fun x=>agr J.S.rels[r].2 σ x.v)∧((∀ k (h:k<l.length),agr J.S.rels[r].2 σ l[k].v=true→(∀ j (h:j<l.length),j<k→agr J.S.rels[r].2 σ l[j].v=false)→i=k)∧((∀ j (h:j<l.length),agr J.S.rels[r].2 σ l[j].v=false)→i= -1)):=jg l fun x=>agr J.S.rels[r].2 σ x.v
 obtain ⟨i,hi,hi1,hi2⟩:=hi
 refine ⟨i,hi,?_⟩
 refine FnO.of func109 rfl ntmps109 (by simp) fun m0 w0 F R0=>?_
 clear hi hJ hn hx
 generalize J.S.rels[r].2=A at*
 refine Z1 rfl rfl ?_
 refine Z3 rfl rfl rfl rfl ?_
 refine Gl rfl (st:=fun x_0:Nat=>mkS [(0,.pv (bL l)),(1,sm1N r),(7,.pv (.int .i64 l.length)),(8,.pv (.int .i64 x_0))] [(big,.mix 198 [.ptr 1000001 0]),(1000001,oN W 1000005 1000002 J.S.attrs.length 1000003 1000004),(1000002,.cells 9 (aA now)),(1000003,.cells 4 (ay (stL σ J.S.attrs.length))),(1000004,.mp mk mv),(1000005,oX2 J 1000006),(1000006,.mp J.pk J.pv)] 0)
  (I:=fun x_0=>x_0≤l.length∧∀ j (h:j<l.length),j<x_0→agr A σ l[j].v=false) (μ:=fun x_0=>l.length-x_0) (x0:=(0)) (Io (aS rfl) (aO (by kernel_rfl)) rfl rfl) (⟨Nat.zero_le _,fun _ _ h=>absurd h (by omega)⟩) ?_
 rintro k ⟨hk,hno⟩
 refine Z1 rfl rfl ?_
 refine Gp rfl rfl (fun hc9=>?_) (fun hc9=>?_)
 ·have hlt:k<l.length:=by omega
  have hrw:=aN hlt
  have hrn:=aW hlt
  have hgk:=hgo k hlt
  have hik:=hi1 k hlt
  generalize hbk:agr A σ l[k].v=b at*
  refine Il ?_
  refine Z2 rfl rfl rfl ?_
  refine Z4 rfl rfl rfl rfl rfl ?_
  first | refine A3 rfl (by assumption) ?_ | refine A1 rfl ?_
  refine Rs 16 rfl rfl (bJ [big,1000001,1000002,1000003,1000004,1000005,1000006] 0 call273 hgk rfl rfl rfl rfl rfl rfl ⟨rfl,rfl,rfl,rfl,rfl,rfl,rfl,trivial⟩ (by decide) rfl) ?_
  refine Gc rfl rfl (fun hc16=>?_) (fun hc16=>?_)
  ·refine Z2 rfl rfl rfl ?_
   refine Gt rfl ?_
   exact ⟨[(4,.pv (.int .i64 k))],o7N J W σ now mk mv,[.pv (.int .i64 k)],Io (aS rfl) (aO (by kernel_rfl)) rfl rfl,rfl,rfl,rfl,by rw [hik hc16 hno];rfl,rfl⟩
  ·refine Il ?_
   refine Z2 rfl rfl rfl ?_
   exact ⟨(k+1),Io (aS rfl) (aO (by kernel_rfl)) rfl rfl,⟨by omega,fun j h hj=>by rcases Nat.lt_succ_iff_lt_or_eq.1 hj with h1 | h1;exact hno j h h1;subst h1;exact hbk.trans hc16⟩,by omega⟩
 ·have hm:=hi2 fun j h=>hno j h (by omega)
  refine Gx rfl ?_
  refine Z1 rfl rfl ?_
  refine Gt rfl ?_
  exact ⟨[(4,.pv (.int .i64 (-1)))],o7N J W σ now mk mv,[.pv (.int .i64 (-1))],Io (aS rfl) (aO (by kernel_rfl)) rfl rfl,rfl,rfl,rfl,by rw [hm];rfl,rfl⟩
theorem q8 (J:JD) (hJ:JOk J) (W:WD) (σ:Asg ByteArray) (now:List ByteArray) (hn:NowOk J.S.attrs.length σ now) (mk mv:List PV) (r:Nat) (hr:r<J.S.rels.length) (l:List Rw) (hl:l.length≤1000) (hx:∀ x∈l,x.v.length=J.S.rels[r].2.length):
  FnO Tryz.prog 66 7 0 [.pv (bL l),sm1N r] (o7N J W σ now mk mv) (fun v ob'=>v= .pv (.bool (l.any fun x=>agr J.S.rels[r].2 σ x.v))∧ob'=ar (o7N J W σ now mk mv)):=by
 obtain ⟨i,hi,hgo⟩:=qc J hJ W σ now hn mk mv r hr l hl hx
 refine FnO.of func66 rfl ntmps66 (by simp) fun m0 w0 F R0=>?_
 rw [← hi]
 clear hi hJ hn hx
 refine Z1 rfl rfl ?_
 refine Z2 rfl rfl rfl ?_
 refine Rs 7 rfl rfl (ah [big,1000001,1000002,1000003,1000004,1000005,1000006] 0 call109 hgo rfl rfl rfl rfl ⟨rfl,rfl,rfl,rfl,rfl,rfl,rfl,trivial⟩ (by decide) rfl) ?_
 refine Y2 rfl rfl ?_
 refine Gt rfl ?_
 exact ⟨[(4,.pv (.bool (decide (i≥0))))],o7N J W σ now mk mv,[.pv (.bool (decide (i≥0)))],Io (aS rfl) (aO (by kernel_rfl)) rfl rfl,rfl,rfl,rfl,rfl,rfl⟩
theorem vB (J:JD) (hJ:JOk J) (W:WD) (σ:Asg ByteArray) (now:List ByteArray) (hn:NowOk J.S.attrs.length σ now) (mk mv:List PV) (r:Nat) (hr:r<J.S.rels.length):
  FnO Tryz.prog 259 6 0 [.ptr big 0,.pv (.int .i64 r)] (o6N J W σ now mk mv) (fun v ob'=>v= .pv (.bool ((dh J r).any fun x=>agr (cy J r) σ x.v))∧ob'=ar (o6N J W σ now mk mv)):=by
 refine FnO.of func259 rfl ntmps259 (by simp) fun m0 w0 F R0=>?_
 have hrT:r<J.T.length:=by rw [hJ.n];exact hr
 have hgo:=q8 J hJ W σ now hn mk mv r hr J.T[r] (hJ.l _ (List.getElem_mem hrT)) (hJ.v r hrT hr)
 rw [show dh J r=J.T[r] by simp [dh,List.getD,hrT],show cy J r=J.S.rels[r].2 by simp [cy,List.getD,hr]]
 have htr:=cD hrT
 have htn:=dN hrT
 have hTl:J.T.length≤1000:=by rw [hJ.n];exact hJ.s.r
 generalize J.S.rels[r].2=A at*
 generalize J.T[r]=l at*
 refine Z3 rfl rfl rfl rfl ?_
 refine Im (St.fS 1 rfl rfl) ?_
 refine Ge rfl follows [0,1,2,3,4,5,6,7,8,9,10,11,12] (by kernel_rfl) ?_
 iterate 8 refine D1 rfl rfl ?_
 refine Ds 13 [] rfl rfl rfl (fun τ h=>ag r underlying35 qk (Ee h 0 rfl rfl) (Ee h 1 rfl rfl) rfl hrT htn) rfl (by kernel_rfl) ?_
 refine Ds 14 [] rfl rfl rfl (fun τ h=>ai ⟨_,underlying38,rfl⟩ (Ee h 0 rfl rfl) htr) rfl (by kernel_rfl) ?_
 refine D1 rfl rfl ?_
 refine Ds 16 [0,big,1000001,1000002,1000003,1000004,1000005] rfl rfl rfl (fun τ h=>ah [0,big,1000001,1000002,1000003,1000004,1000005] 2 call66 hgo (h.args.trans rfl) rfl rfl rfl ⟨(Eo h 0 rfl rfl),(Eo h 1 rfl rfl),(Eo h 2 rfl rfl),(Eo h 3 rfl rfl),(Eo h 4 rfl rfl),(Eo h 5 rfl rfl),(Eo h 6 rfl rfl),trivial⟩ (by decide) rfl) rfl (by kernel_rfl) ?_
 refine D1 rfl rfl ?_
 refine ⟨by kernel_rfl,?_⟩
 refine Gt rfl ?_
 exact ⟨[(4,.pv (.bool (l.any fun x=>agr A σ x.v)))],o6N J W σ now mk mv,[.pv (.bool (l.any fun x=>agr A σ x.v))],Io (aS rfl) (aO (by kernel_rfl)) rfl rfl,rfl,rfl,rfl,rfl,rfl⟩
end
section
open Go.RowKit Mk Jn
set_option maxHeartbeats 4000000
theorem rj (J:JD) (hJ:JOk J) (W:WD) (σ:Asg ByteArray) (now:List ByteArray) (hn:NowOk J.S.attrs.length σ now) (mk mv:List PV) (r:Nat) (hr:r<J.S.rels.length):
  FnO Tryz.prog 258 7 0 [.pv (.int .i64 r),.ptr big 0] (o7N J W σ now mk mv) (fun v ob'=>v= .pv (.bool !(bR (RJ J) r σ))∧ob'=ar (o7N J W σ now mk mv)):=by
 refine FnO.of func258 rfl ntmps258 (by simp) fun m0 w0 F R0=>?_
 have hgo:=vB J hJ W σ now hn mk mv r hr
 rw [← oK] at hgo
 generalize bR (RJ J) r σ=b at*
 refine Z1 rfl rfl ?_
 refine Gr rfl ?_
 first | refine A1 rfl ?_ | refine A2 rfl (by assumption) ?_
 refine A1 rfl ?_
 refine Rs 6 rfl rfl (ah [1000001,1000002,1000003,1000004,1000005,1000006] 0 call259 hgo rfl rfl rfl rfl ⟨rfl,rfl,rfl,rfl,rfl,rfl,trivial⟩ (by decide) rfl) ?_
 refine Y2 rfl rfl ?_
 refine Gt rfl ?_
 exact ⟨[(3,.pv (.bool !b))],o7N J W σ now mk mv,[.pv (.bool !b)],Io (aS rfl) (aO (by kernel_rfl)) rfl rfl,rfl,rfl,rfl,rfl,rfl⟩
abbrev c11N:V:= .fn (.func 258) [] [.ptr big 0]
abbrev bI (rs:List Nat):List Int:=rs.map fun r:Nat=>(r:Int)
theorem qS (J:JD) (hJ:JOk J) (W:WD) (σ:Asg ByteArray) (now:List ByteArray) (hn:NowOk J.S.attrs.length σ now) (mk mv:List PV) (rs:List Nat) (hl:rs.length≤1000) (hr:∀ r∈rs,r<J.S.rels.length):
  FnO Tryz.prog 152 7 0 [.pv (ak (bI rs)),c11N] (o7N J W σ now mk mv) (fun v ob'=>v= .pv (.bool (rs.any fun r=> !(bR (RJ J) r σ)))∧ob'=ar (o7N J W σ now mk mv)):=by
 have hgo:∀ k (h:k<rs.length),FnO Tryz.prog 258 7 0 [.pv (.int .i64 rs[k]),.ptr big 0] (o7N J W σ now mk mv) (fun v ob'=>v= .pv (.bool !(bR (RJ J) rs[k] σ))∧ob'=ar (o7N J W σ now mk mv)):=fun k h=>rj J hJ W σ now hn mk mv rs[k] (hr _ (List.getElem_mem h))
 obtain ⟨i,hi,hi1,hi2⟩:=jg rs fun r=> !(bR (RJ J) r σ)
 clear hJ hn hr
 have hidx:FnO Tryz.prog 195 7 0 [.pv (ak (bI rs)),c11N] (o7N J W σ now mk mv) (fun v ob'=>v= .pv (.int .i64 i)∧ob'=ar (o7N J W σ now mk mv)):=by
  refine FnO.of func195 rfl ntmps195 (by simp) fun m0 w0 F R0=>?_
  clear hi
  have hnl:(bI rs).length=rs.length:=by simp [bI]
  refine Z1 rfl rfl ?_
  refine Z3 rfl rfl rfl rfl ?_
  refine Gl rfl (st:=fun x_0:Nat=>mkS [(0,.pv (ak (bI rs))),(1,c11N),(7,.pv (.int .i64 (bI rs).length)),(8,.pv (.int .i64 x_0))] [(big,.mix 198 [.ptr 1000001 0]),(1000001,oN W 1000005 1000002 J.S.attrs.length 1000003 1000004),(1000002,.cells 9 (aA now)),(1000003,.cells 4 (ay (stL σ J.S.attrs.length))),(1000004,.mp mk mv),(1000005,oX2 J 1000006),(1000006,.mp J.pk J.pv)] 0)
   (I:=fun x_0=>x_0≤rs.length∧∀ j (h:j<rs.length),j<x_0→(!(bR (RJ J) rs[j] σ))=false) (μ:=fun x_0=>rs.length-x_0) (x0:=(0)) (Io (aS rfl) (aO (by kernel_rfl)) rfl rfl) (⟨Nat.zero_le _,fun _ _ h=>absurd h (by omega)⟩) ?_
  rintro k ⟨hk,hno⟩
  refine Z1 rfl rfl ?_
  refine Gp rfl rfl (fun hc9=>?_) (fun hc9=>?_)
  ·have hlt:k<rs.length:=by omega
   have hpv:(aE (bI rs))[k*1]? =some (.int .i64 ((rs[k]:Nat):Int)):=by simp [hlt]
   have hpn:=aH (l:=bI rs) (k:=k) (by omega)
   have hgk:=hgo k hlt
   have hik:=hi1 k hlt
   generalize hbk:bR (RJ J) rs[k] σ=b at*
   refine Il ?_
   refine Z2 rfl rfl rfl ?_
   refine Z4 rfl rfl rfl rfl rfl ?_
   refine Rs 15 rfl rfl (ai ⟨_,underlying3,rfl⟩ rfl hpv) ?_
   refine Rs 16 rfl rfl (bJ [big,1000001,1000002,1000003,1000004,1000005,1000006] 0 call258 hgk rfl rfl rfl rfl rfl rfl ⟨rfl,rfl,rfl,rfl,rfl,rfl,rfl,trivial⟩ (by decide) rfl) ?_
   refine Gc rfl rfl (fun hc16=>?_) (fun hc16=>?_)
   ·refine Z2 rfl rfl rfl ?_
    refine Gt rfl ?_
    exact ⟨[(4,.pv (.int .i64 k))],o7N J W σ now mk mv,[.pv (.int .i64 k)],Io (aS rfl) (aO (by kernel_rfl)) rfl rfl,rfl,rfl,rfl,by rw [hik hc16 hno];rfl,rfl⟩
   ·refine Il ?_
    refine Z2 rfl rfl rfl ?_
    exact ⟨(k+1),Io (aS rfl) (aO (by kernel_rfl)) rfl rfl,⟨by omega,fun j h hj=>by rcases Nat.lt_succ_iff_lt_or_eq.1 hj with h1 | h1;exact hno j h h1;subst h1;rw [hbk];exact hc16⟩,by omega⟩
  ·have hm:=hi2 fun j h=>hno j h (by omega)
   refine Gx rfl ?_
   refine Z1 rfl rfl ?_
   refine Gt rfl ?_
   exact ⟨[(4,.pv (.int .i64 (-1)))],o7N J W σ now mk mv,[.pv (.int .i64 (-1))],Io (aS rfl) (aO (by kernel_rfl)) rfl rfl,rfl,rfl,rfl,by rw [hm];rfl,rfl⟩
 refine FnO.of func152 rfl ntmps152 (by simp) fun m0 w0 F R0=>?_
 rw [← hi]
 clear hi hgo hi1 hi2
 refine Z1 rfl rfl ?_
 refine Z2 rfl rfl rfl ?_
 refine Rs 7 rfl rfl (ah [big,1000001,1000002,1000003,1000004,1000005,1000006] 0 call195 hidx rfl rfl rfl rfl ⟨rfl,rfl,rfl,rfl,rfl,rfl,rfl,trivial⟩ (by decide) rfl) ?_
 refine Y2 rfl rfl ?_
 refine Gt rfl ?_
 exact ⟨[(4,.pv (.bool (decide (i≥0))))],o7N J W σ now mk mv,[.pv (.bool (decide (i≥0)))],Io (aS rfl) (aO (by kernel_rfl)) rfl rfl,rfl,rfl,rfl,rfl,rfl⟩
theorem mo (J:JD) (hJ:JOk J) (W:WD) (σ:Asg ByteArray) (now:List ByteArray) (hn:NowOk J.S.attrs.length σ now) (mk mv:List PV) (a:Nat) (ha:a<J.S.attrs.length) (hσ:σ (a:Int)=none) (rs:List Nat) (hl:rs.length≤1000) (hr:∀ r∈rs,r<J.S.rels.length) (x:ByteArray):
  FnO Tryz.prog 257 7 0 [.pv (.str x),.ptr big 0,.pv (.rp [.int .i64 a] 0),.pv (.rp [ak (bI rs)] 0)] (o7N J W σ now mk mv) (fun v ob'=>v= .pv (.bool (rs.any fun r=> !(bR (RJ J) r (put σ a x))))∧ob'=ar (o7N J W σ (now.set a x) mk mv)):=by
 refine FnO.of func257 rfl ntmps257 (by simp) fun m0 w0 F R0=>?_
 have hgo:=qS J hJ W (put σ a x) (now.set a x) (hn.put ha x) mk mv rs hl hr
 generalize (rs.any fun r=> !(bR (RJ J) r (put σ a x)))=b at*
 have hnl:(aA now).length=J.S.attrs.length:=by rw [List.length_map,hn.l]
 have hsl:(ay (stL σ J.S.attrs.length)).length=J.S.attrs.length:=by rw [List.length_map,cK]
 have hsl2:(ay (stL (put σ a x) J.S.attrs.length)).length=J.S.attrs.length:=by rw [List.length_map,cK]
 have h1:=ix (l:=now) (a:=a) x
 have h2:=kZ (σ:=σ) ha x
 have h3:(ay (stL (put σ a x) J.S.attrs.length)).set (a*1) (.bool false)=ay (stL σ J.S.attrs.length):=by rw [qO ha,cO hσ]
 clear hJ hn hr
 refine Z1 rfl rfl ?_
 refine Ge rfl follows [0,1,2,3,4,5,6,7,8,9,10,11,12,13,14] (by kernel_rfl) ?_
 first | refine D1 rfl rfl ?_ | refine D2 rfl rfl (by assumption) ?_
 iterate 3 refine D1 rfl rfl ?_
 first | refine D1 rfl rfl ?_ | refine D2 rfl rfl (by assumption) ?_
 first | refine D1 rfl rfl ?_ | refine D2 rfl rfl (by assumption) ?_
 iterate 3 refine D1 rfl rfl ?_
 first | refine D1 rfl rfl ?_ | refine D2 rfl rfl (by assumption) ?_
 refine D1 rfl rfl ?_
 refine Ds 18 [_] rfl rfl rfl (fun τ h=>aa a underlying47 sz9 (Ee h 0 rfl rfl) (Eo h 0 rfl rfl) (Ee h 1 rfl rfl) rfl (by omega)) rfl (by kernel_rfl) ?_
 refine DL.step (d:=none) [_] rfl rfl rfl (fun τ h=>aF sz9 (Ee h 0 rfl rfl) (Eo h 0 rfl rfl) (Ee h 1 rfl rfl) rfl (by omega)) rfl (by kernel_rfl) ?_
 refine Ds 19 [_] rfl rfl rfl (fun τ h=>aa a underlying115 sz4 (Ee h 0 rfl rfl) (Eo h 0 rfl rfl) (Ee h 1 rfl rfl) rfl (by omega)) rfl (by kernel_rfl) ?_
 refine DL.step (d:=none) [_] rfl rfl rfl (fun τ h=>aF sz4 (Ee h 0 rfl rfl) (Eo h 0 rfl rfl) (Ee h 1 rfl rfl) rfl (by omega)) rfl (by kernel_rfl) ?_
 refine ⟨by kernel_rfl,?_⟩
 refine Im (Io (l:=[(1,.ptr big 0),(2,.pv (.rp [.int .i64 a] 0)),(3,.pv (.rp [ak (bI rs)] 0))]) (os:=o7N J W (put σ a x) (now.set a x) mk mv) (k:=0) (aS rfl) ⟨rfl,rfl,congrArg (fun c=>some (Ob.cells 9 c)) h1,congrArg (fun c=>some (Ob.cells 4 c)) h2,rfl,rfl,rfl,trivial⟩ rfl rfl) ?_
 refine Gr rfl ?_
 first | refine A1 rfl ?_ | refine A2 rfl (by assumption) ?_
 refine A1 rfl ?_
 refine Rs 22 rfl rfl (ah [big,1000001,1000002,1000003,1000004,1000005,1000006] 0 call152 hgo rfl rfl rfl rfl ⟨rfl,rfl,rfl,rfl,rfl,rfl,rfl,trivial⟩ (by decide) rfl) ?_
 refine A1 rfl ?_
 refine Im (Io (l:=[(1,.ptr big 0),(2,.pv (.rp [.int .i64 a] 0)),(6,.pv (.bool b))]) (os:=o7N J W (put σ a x) (now.set a x) mk mv) (k:=0) (aS rfl) (aO (by kernel_rfl)) rfl rfl) ?_
 refine Ge rfl follows [0,1,2,3,4,5,6] (by kernel_rfl) ?_
 first | refine D1 rfl rfl ?_ | refine D2 rfl rfl (by assumption) ?_
 iterate 3 refine D1 rfl rfl ?_
 first | refine D1 rfl rfl ?_ | refine D2 rfl rfl (by assumption) ?_
 refine Ds 28 [_] rfl rfl rfl (fun τ h=>aa a underlying115 sz4 (Ee h 0 rfl rfl) (Eo h 0 rfl rfl) (Ee h 1 rfl rfl) rfl (by omega)) rfl (by kernel_rfl) ?_
 refine DL.step (d:=none) [_] rfl rfl rfl (fun τ h=>aF sz4 (Ee h 0 rfl rfl) (Eo h 0 rfl rfl) (Ee h 1 rfl rfl) rfl (by omega)) rfl (by kernel_rfl) ?_
 refine ⟨by kernel_rfl,?_⟩
 refine Z2 rfl rfl rfl ?_
 refine Gt rfl ?_
 exact ⟨[(5,.pv (.bool b))],o7N J W σ (now.set a x) mk mv,[.pv (.bool b)],Io (aS rfl) ⟨by kernel_rfl,by kernel_rfl,by kernel_rfl,congrArg (fun c=>some (Ob.cells 4 c)) h3,by kernel_rfl,by kernel_rfl,by kernel_rfl,trivial⟩ rfl rfl,rfl,rfl,rfl,rfl,rfl⟩
end
end Go.Proofs.YtjlikknopfnllaaGreatDoor
