/- Lemmas. No condition. -/
import Derived.Test.YtedfonppffochaaGreatDoorJ99
set_option maxRecDepth 100000
set_option maxHeartbeats 4000000
open Go.RowKit Go.Proofs.Tryz
namespace Go.Proofs.YtedfonppffochaaGreatDoor
section
open Mk Jn
def o6 (P:List Int) (k:Nat) (v:Int):List Int:=((List.range k).filter fun a=>P.getD a 0==v).map Int.ofNat
theorem jT (P:List Int) (v:Int):o6 P P.length v=al P v:=by
 unfold o6 al upZ;rw [List.filter_map];rfl
theorem kE (P:List Int) (k:Nat) (v:Int):o6 P (k+1) v=o6 P k v++if P.getD k 0=v then [(k:Int)] else []:=by
 unfold o6;rw [NY,MR,Mw];by_cases h:P.getD k 0=v
 ·rw [qY h,MW,qY (by rw [h];simp)];rfl
 ·rw [kH h,MW,kH (by simpa using h)];rfl
theorem jI (P:List Int) (k:Nat) (v:Int):(o6 P k v).length<=k:=by
 unfold o6;rw [xT];exact AT (Mn ..) Ps
def lsT (P:List Int) (k:Nat):List (List Int):=(upZ P.length).map (o6 P k)++[o6 P k (-1)]
theorem b7 (P:List Int) (k:Nat):(lsT P k).length=P.length+1:=by simp [lsT,a8]
theorem mJ (P:List Int) (k:Nat) {i:Nat} (h:i<P.length):(lsT P k)[i]'(by rw [b7];omega)=o6 P k i:=by
 unfold lsT;rw [Oc (by simp [a8,h])];simp [upZ]
theorem fG (P:List Int) (k:Nat):(lsT P k)[P.length]'(by rw [b7];omega)=o6 P k (-1):=by
 unfold lsT;rw [List.getElem_append_right (by simp [a8])];simp [a8]
theorem vr (P:List Int):lsT P 0=List.replicate (P.length+1) []:=by
 apply MJ
 ·simp [b7]
 ·intro i h1 h2;rw [List.getElem_replicate];by_cases hi:i<P.length
  ·rw [mJ P 0 hi];rfl
  ·have hi':i=P.length:=by rw [b7] at h1;omega
   subst hi';rw [fG P 0];rfl
theorem uk {P:List Int} (hP:∀ p∈P, -1<=p/\p<P.length) {k:Nat} (hk:k<P.length) (U:Nat) (hU:(P[k]= -1/\U=P.length)\/(P[k]=(U:Int)/\U<P.length)):
  lsT P (k+1)=(lsT P k).set U ((lsT P k)[U]'(by rw [b7];rcases hU with h | h<;>omega)++[(k:Int)]):=by
 have hkd:P.getD k 0=P[k]:=by simp [List.getD,hk]
 apply MJ
 ·simp [b7]
 ·intro i h1 h2;rw [b7] at h1;rw [Oi];by_cases hi:i<P.length
  ·rw [mJ P (k+1) hi,kE,hkd];by_cases e:U=i
   ·subst e;rw [qY O];rcases hU with h | h
    ·omega
    ·rw [qY h.1,mJ P k hi]
   ·rw [kH e,mJ P k hi];rcases hU with h | h
    ·rw [kH (by rw [h.1];omega),MN]
    ·rw [kH (by rw [h.1];omega),MN]
  ·have hi':i=P.length:=Po;subst hi';rw [fG P (k+1),kE,hkd];by_cases e:U=P.length
   ·subst e;rw [qY O];rcases hU with h | h
    ·rw [qY h.1,fG P k]
    ·omega
   ·rw [kH e,fG P k];rcases hU with h | h
    ·omega
    ·rw [kH (by rw [h.1];omega),MN]
def lsP (ls:List (List Int)):List (List PV):=ls.map fun l=>l.map fun i=> .int .i64 i
theorem cZ (ls:List (List Int)):(lsP ls).length=ls.length:=by simp [lsP]
theorem sq (ls:List (List Int)) (U:Nat) (hU:U<ls.length) (x:Int):lsP (ls.set U (ls[U]++[x]))=(lsP ls).set U ((lsP ls)[U]'(by rw [cZ];exact hU)++[.int .i64 x]):=by
 unfold lsP;rw [NF];simp
theorem zo (ls:List (List Int)):chP (lsP ls)=ls.map fun l=> .pv (ak l):=by
 unfold chP lsP;rw [OM];apply Mr;intro l _;simp
theorem Hv (P:List Int) (k:Nat) {U:Nat} (h:U<(lsP (lsT P k)).length):((lsP (lsT P k))[U]).length<=k:=by
 have h2:U<(lsT P k).length:=by rwa [cZ] at h
 have e:(lsP (lsT P k))[U]=(lsT P k)[U].map fun i=>PV.int .i64 i:=by simp [lsP]
 rw [e,xT];by_cases hU:U<P.length
 ·rw [mJ P k hU];exact jI P k _
 ·have:U=P.length:=by rw [b7] at h2;omega
  subst this;rw [fG P k];exact jI P k _
theorem nF (cs:List V) (j:Nat) (v:V) (h:j<cs.length):eY cs j [v]=cs.set j v:=by
 unfold eY;rw [Ol,qY h,NG];rfl
def eX (D:List Int) (l:List Int) (j:Nat):Int:=(l.take j).foldl (fun h a=>if D.getD a.toNat 0>D.getD h.toNat 0 then a else h) (l.headD 0)
theorem wC (D l:List Int) {j:Nat} (h:j<l.length):eX D l (j+1)=if D.getD l[j].toNat 0>D.getD (eX D l j).toNat 0 then l[j] else eX D l j:=by
 unfold eX;rw [aR h,Na];rfl
theorem pY (D:List Int) {l:List Int} (hl:l≠[]) (j:Nat):eX D l j∈l:=by
 have key:∀ (k:List Int) (h0:Int),(∀ a∈k,a∈l)->h0∈l->k.foldl (fun h a=>if D.getD a.toNat 0>D.getD h.toNat 0 then a else h) h0∈l:=by
  intro k;induction k with
  | nil=>exact fun h0 _ h=>h
  | cons a k ih=>
    intro h0 hk hh;rw [MG];refine ih _ (fun b hb=>hk b (by simp [hb])) ?_;split
    ·exact hk a Ps
    ·exact hh
 unfold eX;refine key _ _ (fun a ha=>Nl ha) ?_;cases l with
 | nil=>exact absurd O hl
 | cons x l=>simp
def hpL (D:List Int) (S:Sch):List Int:=S.rels.map fun r=>eX D r.2 r.2.length
theorem F9 (D:List Int) (S:Sch):(hpL D S).length=S.rels.length:=by simp [hpL]
def hsT (n:Nat) (H:List Int) (k:Nat):List (List Int):=(upZ n).map (o6 H k)
theorem cP (n:Nat) (H:List Int) (k:Nat):(hsT n H k).length=n:=by simp [hsT,a8]
theorem p6 (n:Nat) (H:List Int) (k:Nat) {i:Nat} (h:i<n):(hsT n H k)[i]'(by rw [cP];exact h)=o6 H k i:=by simp [hsT,upZ]
theorem uy (n:Nat) (H:List Int):hsT n H 0=List.replicate n []:=by
 apply MJ
 ·simp [cP]
 ·intro i h1 h2;rw [List.getElem_replicate,p6 n H 0 (by rwa [cP] at h1)];rfl
theorem Cy {n:Nat} {H:List Int} {k U:Nat} (hk:k<H.length) (hU:U<n) (e:H[k]=(U:Int)):hsT n H (k+1)=(hsT n H k).set U ((hsT n H k)[U]'(by rw [cP];exact hU)++[(k:Int)]):=by
 have hkd:H.getD k 0=H[k]:=by simp [List.getD,hk]
 apply MJ
 ·simp [cP]
 ·intro i h1 h2;rw [cP] at h1;rw [Oi,p6 n H (k+1) h1,kE,hkd,e];by_cases e2:U=i
  ·subst e2;rw [qY O,qY O,p6 n H k h1]
  ·rw [kH e2,kH Po,MN,p6 n H k h1]
theorem Hl (n:Nat) (H:List Int) (k:Nat) {U:Nat} (h:U<(lsP (hsT n H k)).length):((lsP (hsT n H k))[U]).length<=k:=by
 have h2:U<(hsT n H k).length:=by rwa [cZ] at h
 have e:(lsP (hsT n H k))[U]=(hsT n H k)[U].map fun i=>PV.int .i64 i:=by simp [lsP]
 rw [e,xT,p6 n H k (by rwa [cP] at h2)];exact jI H k _
end
section
open Mk
theorem ve {S:Sch} {G:List B64} (hV:Valid S) (h:IsG S G):GOk G:=by
 have h1:G=gr S:=uw hV h;subst h1;have h2:=hV.n2;have e:=A8 hV;exact ⟨by rw [fR];omega,by rw [e];exact kq S,by rw [e,fR];intro a b h;have:=(ow hV h.2).2;omega⟩
theorem uM (n:Nat) (hn:n<=63):InB n (gI n):=fun i hi=>by rw [fB Po,Ms] at hi;exact hi
structure LInv (G:List B64) (most:Nat) (L:List Int) (rest:B64):Prop where
 inb:InB G.length rest
 wid:widV G rest<=most
 len:L.length+cC rest=G.length
 lst:L++leastF G most (cC rest) rest=leastL G
 nd:L.Nodup
 mem:∀ x∈L,∃ a:Nat,a<G.length/\x=(a:Int)/\rest.getLsbD a=false
 cov:∀ a,a<G.length->(a:Int)∈L\/rest.getLsbD a=true
theorem LInv.first {G:List B64} (hG:GOk G):LInv G (widV G (gI G.length)) [] (gI G.length):=by
 have h12:=hG.n;have hp:=Ac (n:=G.length) Po;exact ⟨uM _ Po,xV _,by simp [hp],by rw [hp];rfl,Ps,Ps,fun a ha=> .inr (by rw [fB Po];simpa using ha)⟩
theorem LInv.next {G:List B64} (hG:GOk G) {most:Nat} {L:List Int} {rest:B64} (h:LInv G most L rest) {k:Nat} (hk:k<G.length) (hno:∀ b,b<k->¬ (rest.getLsbD b=true/\widV G (compB G rest b&&& ~~~(BitVec.twoPow 64 b))<=most))
  (h1:rest.getLsbD k=true) (h2:widV G (compB G rest k&&& ~~~(BitVec.twoPow 64 k))<=most):LInv G most (L++[(k:Int)]) (rest&&& ~~~(BitVec.twoPow 64 k)):=by
 have hp:=jK h1;have hfind:(List.range G.length).find? (fun a=>rest.getLsbD a&&decide (widV G (compB G rest a&&& ~~~(BitVec.twoPow 64 a))<=most))=some k:=by
  rw [List.find?_range_eq_some];refine ⟨by rw [h1];simpa using h2,by simpa using hk,fun j hj=>?_⟩;have:=hno j hj;cases e:rest.getLsbD j with
  | false=>rfl
  | true=>simp;exact Nat.lt_of_not_le fun h=>this ⟨e,h⟩
 refine ⟨h.inb.diff k,Gw hG h.inb h1 h.wid h2,by have:=h.len;simp;omega,?_,?_,fun x hx=>?_,fun a ha=>?_⟩
 ·rw [<-h.lst,<-hp];simp only [leastF,hfind,NG,List.singleton_append]
 ·rw [List.nodup_append];refine ⟨h.nd,Ps,fun x hx y hy e=>?_⟩;rw [o7] at hy;subst hy e;obtain ⟨a,_,e,hr⟩:=h.mem _ hx;have:k=a:=Po;subst this;rw [h1] at hr;cases hr
 ·rcases Mc.1 hx with hx | hx
  ·obtain ⟨a,ha,e,hr⟩:=h.mem x hx;exact ⟨a,ha,e,by rw [bA,hr];rfl⟩
  ·exact ⟨k,hk,o7.1 hx,by rw [bA];simp⟩
 ·rcases h.cov a ha with h3 | h3
  ·exact .inl (Oh _ h3)
  ·by_cases e:a=k
   ·subst e;exact .inl Ps
   ·exact .inr (by rw [bA,h3];simpa using fun e'=>e e'.symm)
theorem LInv.last {G:List B64} {most:Nat} {L:List Int} (h:LInv G most L 0#64):L=leastL G/\L.Perm (upZ G.length):=by
 have h0:cC 0#64=0:=by unfold cC;simp
 have h1:=h.lst;rw [h0] at h1;simp only [leastF,MN] at h1;refine ⟨h1,cu h.nd (cJ _) fun x=>?_⟩;rw [bx];constructor
 ·intro hx;obtain ⟨a,ha,e,_⟩:=h.mem x hx;exact ⟨a,ha,e⟩
 ·rintro ⟨a,ha,rfl⟩;rcases h.cov a ha with h2 | h2
  ·exact h2
  ·simp at h2
theorem qw (S:Sch) (hS:SB S) (hV:Valid S):FnP prog 85 [gK S] (fun v=>∃ G,IsG S G/\v=ak (leastL G)/\(leastL G).Perm (upZ G.length)):=by
 refine FnP.of func85 O ntmps85 Ps fun m0 w0 F R0=>?_
 have hn12:=hV.n2;refine Z2 O O O<|Z1 O O ?_;refine RL.call O (dE call127 (iE S hS hV) O ?_);rintro _ ⟨G,rfl,hIG⟩;have hGl:=hIG.len;have hG:=ve hV hIG;have hw0:=sT G hG 64 (gI G.length) (jk _) (uM _ Po) [] (by intro p hp;cases hp);refine Rs 10 O O (fF 1 O)<|Y3 O O O<|Z2 O O O<|Rs 14 O O (ae call128 (qh G Po) O)<|A1 O<|Z2 O O O ?_;refine RL.call O (fA [1] 3 call129 hw0 O O O O ⟨O,Pw⟩ Pq O ?_);rintro _ _ ⟨M0,hM0,rfl,rfl⟩;refine A1 O<|Z1 O O<|Im (Iu 6 3 1 3 O O) ?_;refine Gl O (st:=fun ac:List Int×B64×List (B64×Nat)=>mkS [(3,.ptr 2 0),(4,.pv (bz ac.2.1)),(5,.pv (.int .i64 (widV G (gI G.length):Nat))),(6,.gsl 3 1 ac.1.length)] [(1,Bq ac.2.2),(2,.mix 190 [.pv (bS G),.map 1]),(3,.gro 3 (aE ac.1))] 4)
  (I:=fun ac=>LInv G (widV G (gI G.length)) ac.1 ac.2.1/\np G ac.2.2) (μ:=fun ac=>cC ac.2.1) (x0:=([],gI G.length,M0)) (Io (aS O) (aO O) O O) (⟨LInv.first hG,hM0⟩) ?_
 rintro ⟨L,rest,M1⟩ ⟨hI,hM1⟩;try simp only at hI hM1 ⊢
 refine Z1 O O<|Rs 19 O O (nA (Y:=0#64) O O) ?_;refine Gp O O (fun hc19=>?_) (fun hc19=>?_)
 ·obtain ⟨a0,ha0,hra0,hwa0⟩:=xp hG hI.inb (D5 hc19) hI.wid;have hLl:=hI.len;have hsl:(aE L).length=L.length*1:=Ps;refine Il<|Z4 O O O O O ?_;refine Gl O (st:=fun x_1:Nat×List (B64×Nat)=>mkS [(3,.ptr 2 0),(4,.pv (bz rest)),(5,.pv (.int .i64 (widV G (gI G.length):Nat))),(6,.gsl 3 1 L.length),(22,.pv (.int .i64 G.length)),(23,.pv (.int .i64 x_1.1))] [(1,Bq x_1.2),(2,.mix 190 [.pv (bS G),.map 1]),(3,.gro 3 (aE L))] 4)
   (I:=fun x_1=>x_1.1<=a0/\np G x_1.2/\∀ b,b<x_1.1->¬ (rest.getLsbD b=true/\widV G (compB G rest b&&& ~~~(BitVec.twoPow 64 b))<=widV G (gI G.length))) (μ:=fun x_1=>G.length-x_1.1) (x0:=(0,M1)) (Io (aS O) (aO O) O O) (⟨bk _,hM1,fun b hb=>absurd hb (NW _)⟩) ?_
  rintro ⟨k,M2⟩ ⟨hk,hM2,hno⟩;try simp only at hk hM2 hno ⊢
  refine Z1 O O ?_;refine Gp O O (fun hc24=>?_) (fun hc24=>absurd hc24 Po);have hlt:k<G.length:=Po;have hhas:=lr rest k Po;have hof:=fi k Po;have hcs:=pj G Po rest k Po;refine Il<|Z2 O O O ?_;by_cases hb:rest.getLsbD k=true
  ·rw [hb] at hhas;have hcomp:=oW hG rest hb;have hin:InB G.length (compB G rest k&&& ~~~(BitVec.twoPow 64 k)):=InB.diff (fun i hi=>hI.inb i (hcomp.1.sub i hi)) k;have hwk:=sT G hG 64 _ (jk _) hin M2 hM2;have hnx:=fun h2=>hI.next hG hlt hno hb h2
   refine Ge O follows [0,1,2,3,4,5,6,7,8,9,10,11,12,14,13,15,16] Pp ?_;iterate 2 refine D1 O O ?_
   refine Ds 28 [] O O O (fun τ h=>ae call130 hhas (h.bt O)) O Pp ?_;iterate 6 refine D1 O O ?_
   refine Dg 35 [] O O O O (fun τ h=>ae call131 hcs (h.bt O)) O Pp<|D1 O O<|Dg 37 [] O O O O (fun τ h=>ae call132 hof (h.bt O)) O Pp<|Dg 38 [] O O O O (fun τ h=>tm (Ee h 0 O O) (Ee h 1 O O)) O Pp<|D1 O O<|DL.relG (RO [1] 4 0 (QW G (widV G (compB G rest k&&& ~~~(BitVec.twoPow 64 k))))) [1] [] [1] O O O O (fun τ h=>relO [1] 4 call129 hwk (h.args.trans O) O O O ⟨Eo h 0 O O,Pw⟩ Pq O) O Pp Pp Pp ?_;rintro _ ⟨_,_,⟨M3,hM3,rfl,rfl⟩,rfl⟩ _ _;iterate 2 refine D1 O O ?_
   refine ⟨Pp,?_⟩;refine Gp O O (fun hc42=>?_) (fun hc42=>?_)
   ·refine Gr O ?_;iterate 5 refine A1 O ?_
    exact Z2 O O O<|Rs 49 O O (ae call132 hof O)<|Rs 50 O O (tm O O)<|A1 O<|Gx O<|⟨(L++[(k:Int)],rest&&& ~~~(BitVec.twoPow 64 k),M3),Ip [0,1,2,5] ⟨O,O,O,by simp only [kQ,L8];rfl,Pw⟩ ⟨IN (b:=some (Bq M3)) O O,O,af (fun c=>some (Ob.gro 3 c)) (yK L k).symm,Pw⟩ O O Pq O,⟨hnx Po,hM3⟩,by have:=jK hb;simp only;omega⟩
   ·exact Il<|Z2 O O O<|⟨(k+1,M3),Io (aS O) (aO O) O O,⟨by simp only;by_cases e:k=a0;subst e;exact absurd hwa0 Po;omega,hM3,fun b hb2=>by rcases Me.1 hb2 with h1 | rfl;exact hno b h1;exact fun h=>by have:=h.2;omega⟩,Pv⟩
  ·have hb':rest.getLsbD k=false:=by simpa using hb
   rw [hb'] at hhas;refine Ge O follows [0,1,2,3,4,5,6,7,8,9,10,11,12,13,14,15,16] Pp ?_;iterate 2 refine D1 O O ?_
   refine Ds 28 [] O O O (fun τ h=>ae call130 hhas (h.bt O)) O Pp ?_;iterate 14 refine D1 O O ?_
   refine ⟨Pp,?_⟩;refine Gc O O (fun hc42=>absurd hc42 Pq) (fun hc42=>?_);exact Il<|Z2 O O O<|⟨(k+1,M2),Io (aS O) (aO O) O O,⟨by simp only;by_cases e:k=a0;subst e;exact absurd hra0 hb;omega,hM2,fun b hb2=>by rcases Me.1 hb2 with h1 | rfl;exact hno b h1;exact fun h=>hb h.1⟩,Pv⟩
 ·have hz:rest=0#64:=MC hc19;subst hz;obtain ⟨hLe,hperm⟩:=hI.last;exact Gx O<|Im (Ir 3 O O)<|Z2 O O O<|Gt O<|⟨_,_,O,O,G,hIG,by rw [<-hLe];rfl,by rw [<-hLe];exact hperm⟩
noncomputable def lstL (S:Sch):List Int:=leastL (gr S)
theorem iN (S:Sch) (hS:SB S) (hV:Valid S):(lstL S).Perm (upZ S.attrs.length)/\FnP prog 85 [gK S] (· =ak (lstL S)):=by
 have h:=qw S hS hV;have key:∀ {v:PV},(∃ G,IsG S G/\v=ak (leastL G)/\(leastL G).Perm (upZ G.length))->v=ak (lstL S)/\(lstL S).Perm (upZ S.attrs.length):=fun {v} ⟨G,hG,e,hp⟩=>by
  have:=uw hV hG;subst this;rw [fR] at hp;exact ⟨e,hp⟩
 refine ⟨?_,h.mono fun v hv=>(key hv).1⟩;have hG:IsG S (gr S):=⟨fR S,fun a ha b=>pC hV (by rwa [fR] at ha) b⟩;have hI:LInv (gr S) (widV (gr S) (gI (gr S).length)) [] (gI (gr S).length):=LInv.first (ve hV hG);have fin:∀ (k:Nat) (L:List Int) (rest:B64),cC rest=k->LInv (gr S) (widV (gr S) (gI (gr S).length)) L rest->(leastL (gr S)).Perm (upZ (gr S).length):=by
  intro k;induction k with
  | zero=>
    intro L rest hk hI;have hz:rest=0#64:=by apply NL;intro i _;rw [oh hk i];simp
    subst hz;have:=hI.last;rw [<-this.1];exact this.2
  | succ k ih=>
    intro L rest hk hI;have hne:∃ i,rest.getLsbD i=true:=MC fun hn=>by
     have:cC rest=0:=by unfold cC;rw [List.countP_eq_zero];intro i _ hi;exact hn ⟨i,hi⟩
     omega
    obtain ⟨a,ha,h1,h2⟩:=xp (ve hV hG) hI.inb hne hI.wid;obtain ⟨b,hb⟩:∃ b,(List.range (gr S).length).find? (fun a=>rest.getLsbD a&&decide (widV (gr S) (compB (gr S) rest a&&& ~~~(BitVec.twoPow 64 a))<=widV (gr S) (gI (gr S).length)))=some b:=by
     cases hf:(List.range (gr S).length).find? (fun a=>rest.getLsbD a&&decide (widV (gr S) (compB (gr S) rest a&&& ~~~(BitVec.twoPow 64 a))<=widV (gr S) (gI (gr S).length))) with
     | some b=>exact ⟨b,O⟩
     | none=>
       have:=List.find?_eq_none.1 hf a (Mx.2 ha);simp [h1,h2] at this
    have hb2:=hb;rw [List.find?_range_eq_some] at hb2;obtain ⟨hb3,hb4,hb5⟩:=hb2;rw [cH,Ms] at hb3;refine ih (L++[(b:Int)]) (rest&&& ~~~(BitVec.twoPow 64 b)) (by have:=jK hb3.1;omega) (hI.next (ve hV hG) (by simpa using hb4) (fun j hj h=>?_) hb3.1 hb3.2);have:=hb5 j hj;simp [h.1,h.2] at this
 have:=fin _ [] _ O hI;rw [fR] at this;exact this
end
section
open Mk Jn
theorem r5 {σ:St} {T:TypeId} {ls:List (List PV)} {U nw:Nat} (hU:U<ls.length) (x:PV) (h0:σ.ob nw=some (.gro T (ls[U]++[x]))) (hr:∀ j,j<ls.length->j≠U->σ.ob (j+1000)=some (.gro T (ls.getD j []))):
  ∀ j (h:j<(ls.set U (ls[U]++[x])).length),σ.ob (rnF U nw (j+1000))=some (.gro T ((ls.set U (ls[U]++[x]))[j])):=by
 intro j h;rw [Md] at h;by_cases e:j=U
 ·subst e;rw [uu,h0];simp
 ·rw [b9 Po,hr j h e,List.getElem_set_ne Po];simp [List.getD,h]
theorem oE {σ:St} {A:Nat} {TA T:TypeId} {cells:List V} {ls:List (List PV)} (hA:A<1000) {j:Nat} (h:j<ls.length):(ovl σ A TA T cells ls).ob (j+1000)=some (.gro T (ls.getD j [])):=by
 rw [b8 hA h];simp [List.getD,h]
theorem uh {S:Sch} {G:List B64} (hV:Valid S) (hG:IsG S G) {a:Int} {i:Nat} (h:eS S a (i:Int)=true):i<G.length:=by
 unfold eS at h;obtain ⟨r,hr,h2⟩:=My.1 h;simp only [cH,L6] at h2;have:=(hV.rng r hr _ h2.2).2;rw [hG.len];omega
theorem oA {S:Sch} {G:List B64} (hV:Valid S) (hG:IsG S G) (P:List Int) (hPl:P.length=G.length):∀ (k:Nat) (v:Nat),v<G.length->InB G.length (eW P G k v)
 | 0,v,hv=>fun i hi=>by
   unfold eW at hi;rw [Mb,hG.bit v hv i,cH] at hi;exact uh hV hG hi.2
 | k+1,v,hv=>by
   unfold eW;refine oO _ _ (fun i hi=>?_) fun c hc=>?_
   ·rw [Mb,hG.bit v hv i,cH] at hi;exact uh hV hG hi.2
   ·obtain ⟨m,hm,rfl,_⟩:=aX.1 hc;exact oA hV hG P hPl k m Po
theorem Bl (n:Nat) (hn:n<=12) {S:Sch} (hV:Valid S) (G:List B64) (hG:IsG S G) (hGn:G.length=n) (P:List Int) (hP:UpOk P) (hPl:P.length=n) (chs:List (List Int)) (hcl:chs.length=n+1) (hch:∀ v (h:v<n),chs[v]'Po=al P v) (hs:List PV):∀ (k v:Nat) (_:v<n) (_:n<=k+(bp P v).length+1) (ab:B64) (L D:List Int) (K:List (List Int)),D.length=n->K.length=n->L.length+(fY P k v).length<=1000->
  FnO prog 253 7 2 (layA G v ab) (Fc n G chs 9003 L D K hs) (fun r ob'=>r= .pv (bz (eW P G k v))/\ob'=ar (Fc n G chs 1 (L++fY P k v) (bg D (j0 P k v ab)) (bg K (fQ P G n k v ab)) hs)):=by
 have hgd:∀ v (h:v<G.length),G.getD v 0#64=G[v]:=fun v h=>by simp [List.getD,h]
 have hinG:∀ v (h:v<G.length),InB n G[v]:=fun v h=>by
  have:=oA hV hG P Po 0 v h;rw [eW,Mb,hgd v h,hGn] at this;exact this
 have hkl:∀ v,(al P v).length<=64:=fun v=>AT (Mn ..) (by rw [a8];omega)
 intro k;induction k with
 | zero=>
   intro v hv hf ab L D K hD hK hL;have hlf:al P v=[]:=ln hP Po Po;have h1:=lP n hn G hGn chs Po v hv Po [] (by rw [hch v hv,hlf]) Ps Ps ab (fun _=>0#64) (fun _=>[]) (fun _=>[]) (fun _=>[]) (hinG v Po) Ps hs Ps L D K hD hK (by simp [fY] at hL ⊢; omega);have e1:eW P G 0 (v:Int)=G[v]'Po:=by rw [eW,Mb,hgd v Po]
   rw [fY,j0,fQ,e1,Mb];exact h1
 | succ k ih=>
   intro v hv hf ab L D K hD hK hL;have hkid:∀ c∈al P v,∃ m:Nat,m<n/\c=(m:Int)/\P.getD m 0=(v:Int):=fun c hc=>by
    obtain ⟨m,hm,e,hp⟩:=aX.1 hc;exact ⟨m,Po,e,hp⟩
   have h1:=lP n hn G hGn chs Po v hv Po (al P v) (hch v hv) (hkl v) (fun c hc=>by obtain ⟨m,_,e,_⟩:=hkid c hc;exact ⟨m,e⟩) ab (eW P G k) (fY P k) (fun c=>j0 P k c (ab|||BitVec.twoPow 64 v)) (fun c=>fQ P G n k c (ab|||BitVec.twoPow 64 v)) (hinG v Po) (fun c hc=>by
     obtain ⟨m,hm,rfl,_⟩:=hkid c hc;have:=oA hV hG P Po k m Po;rwa [hGn] at this) hs (fun c hc L' D' K' hD' hK' hL'=>by
     obtain ⟨m,hm,rfl,hp⟩:=hkid c hc;exact ih m hm (by rw [bO hP Po Po hp,AS];omega) _ L' D' K' hD' hK' hL') L D K hD hK (by unfold fY at hL;simp only [AS] at hL;omega)
   have e1:eW P G (k+1) (v:Int)=(al P v).foldl (fun z c=>z|||eW P G k c) (G[v]'Po):=by rw [eW,Mb,hgd v Po]
   rw [fY,j0,fQ,e1,eD,Mb];exact h1
theorem uA {l:List (Nat×V)} {os:List (Nat×Ob)} {k:Nat} (h1:l.all (fun p=>p.2.all fun i=>Nat.blt i 1000)=true) (h2:os.all (fun p=>Nat.blt p.1 1000&&p.2.all fun i=>Nat.blt i 1000)=true):(∀ t,((mkS l os k).sl t).all (fun i=>Nat.blt i 1000)=true)/\∀ i o,(mkS l os k).ob i=some o->i<1000/\o.all (fun i=>Nat.blt i 1000)=true:=by
 constructor
 ·intro t;show (look l t).all _=true;clear h2;induction l with
  | nil=>rfl
  | cons p l ih=>
    simp only [NQ,cH] at h1;obtain ⟨d,v⟩:=p;simp only [look];cases Nat.beq t d with
    | true=>exact h1.1
    | false=>exact ih h1.2
 ·intro i o h;have hm:=uv.1 h2 _ (bV h);rw [cH] at hm;exact ⟨Bo hm.1,hm.2⟩
theorem ot (P:List Int):∀ (k:Nat) (v:Int),fY P k v=(a7 P k v).vs
 | 0,v=>by rw [fY,a7,Tr.vs,vsL]
 | k+1,v=>by
   rw [fY,a7,Tr.vs,dm,List.flatMap_map];rw [show fY P k=fun c=>(a7 P k c).vs from funext (ot P k)]
theorem nN {P:List Int}:(al P (-1)).flatMap (fY P P.length)=aD P:=by
 rw [<-ij,dm,List.flatMap_map,show fY P P.length=fun c=>(a7 P P.length c).vs from funext (ot P P.length)]
def iK (S:Sch) (P:List Int) (G:List B64):VD where
 chs:=lsT P P.length
 kes:=bg (List.replicate G.length []) ((al P (-1)).flatMap fun c=>fQ P G G.length P.length c 0#64)
 hos:=hsT G.length (hpL (bg (List.replicate G.length 0) ((al P (-1)).flatMap fun c=>j0 P P.length c 0#64)) S) S.rels.length
 wa:=aD P
abbrev ca (D:VD):PV:= .agg [bu D.chs,bu D.kes,bu D.hos,ak D.wa]
theorem FR {S:Sch} {P:List Int} {G:List B64} {k i:Nat} {H M CS D2:List Int} {K2:List (List Int)} (hkP:k=P.length) (hie:i=S.rels.length) (hH:hpL D2 S=H) (hM:M=CS.flatMap (fY P P.length)) (hCS:al P (-1)=CS) (hD2:D2=bg (List.replicate G.length 0) (CS.flatMap fun c=>j0 P P.length c 0#64))
  (hK2:K2=bg (List.replicate G.length []) (CS.flatMap fun c=>fQ P G G.length P.length c 0#64)) (hKl:K2.length=G.length):PV.agg [bu (lsT P k),.sl none G.length (K2.map ak),.sl none G.length ((hsT G.length H i).map ak),ak M]=ca (iK S P G):=by
 have e1:(iK S P G).kes=K2:=by rw [hK2,<-hCS];rfl
 have e2:(iK S P G).wa=M:=by rw [hM,<-hCS,nN];rfl
 have e3:(iK S P G).hos=hsT G.length H i:=by rw [<-hH,hie,hD2,<-hCS];rfl
 have e4:(iK S P G).chs=lsT P k:=by rw [hkP];rfl
 unfold ca;rw [e1,e2,e3,e4];unfold bu;rw [hKl,cP]
theorem H6 (n:Nat):PV.fgL (List.replicate n nS)=(List.replicate n ([]:List Int)).map ak:=by
 induction n with
 | zero=>rfl
 | succ n ih=>rw [List.replicate_succ,List.replicate_succ,PV.fgL,ih,oy];rfl
theorem Dk (S:Sch) (hS:SB S) (P:List Int) (hO:OrdOk S P):FnP prog 225 [gK S,Fe P] (fun v=>∃ G,IsG S G/\v=ca (iK S P G)):=by
 refine FnP.ofC func225 O ntmps225 Ps fun m0 w0 F R0=>?_
 have hV:=hO.val;have hP:=hO.dP;have hPl:=hO.len;have hn12:=hV.n2;refine Z3 O O O O<|Z1 O O ?_;refine RL.call O (dE call127 (iE S hS hV) O ?_);rintro _ ⟨G,rfl,hG⟩;have hGl:=hG.len;refine Y2 O O<|Z3 O O O O<|Ge O follows [0,1,2,3,4,5,6,7,8,9] Pp ?_;iterate 10 refine D1 O O ?_
 refine ⟨Pp,?_⟩;refine Wk [(2,.ptr 0 0),(3,.ptr 1 0),(4,.ptr 2 0),(5,.ptr 3 0),(6,.pv (.int .i64 G.length)),(7,.ptr 7 0)] [(0,oZ S),(1,.mix 271 [.pv (ak P)]),(2,.mix 144 [.pv nS,.pv nS,.pv nS,.pv nS]),(3,.mix 186 [.pv (bS G)]),(4,.cells 22 (List.replicate (G.length+1) nS)),(5,.cells 22 (List.replicate G.length nS)),(6,.cells 22 (List.replicate G.length nS)),(7,.mix 144 [.osl 4 1 (G.length+1),.osl 5 1 G.length,.osl 6 1 G.length,.pv nS])] 8 (aS O) ⟨O,O,O,O,af (fun c=>some (Ob.cells 22 c)) ((ct nS ((G.length+1)*1)).trans (by rw [Mi])),af (fun c=>some (Ob.cells 22 c)) ((ct nS (G.length*1)).trans (by rw [Mi])),af (fun c=>some (Ob.cells 22 c)) ((ct nS (G.length*1)).trans (by rw [Mi])),O,Pw⟩ O O<|Im (St.py 4 O)<|Im (St.Ae (A:=4) (TA:=22) 3 (G.length+1) (af (fun c=>some (Ob.mix 22 c)) Ps) Pq Po (fun i h1 h2=>xN Pq h1 h2))<|Z4 O O O O O ?_;refine Gl O (st:=fun ac:Nat=>ovl (mkS [(2,.ptr 0 0),(4,.ptr 2 0),(5,.ptr 3 0),(6,.pv (.int .i64 G.length)),(7,.ptr 7 0),(32,.pv (ak P)),(33,.pv (.int .i64 P.length)),(34,.pv (.int .i64 ac))] [(0,oZ S),(2,.mix 144 [.pv nS,.pv nS,.pv nS,.pv nS]),(3,.mix 186 [.pv (bS G)]),(5,.cells 22 (List.replicate G.length nS)),(6,.cells 22 (List.replicate G.length nS)),(7,.mix 144 [.osl 4 1 (G.length+1),.osl 5 1 G.length,.osl 6 1 G.length,.pv nS])] 8) 4 22 3 (chV (lsP (lsT P ac))) (lsP (lsT P ac)))
  (I:=fun ac=>ac<=P.length) (μ:=fun ac=>P.length-ac) (x0:=(0)) (St.ej 1000 999 (aT O) (aP Pp) (af (fun c=>some (Ob.mix 22 c)) (by rw [eQ 999 (by rw [cZ,b7];omega),vr,hPl,hGl];unfold lsP;rw [List.map_replicate];rfl)) (fun j hj=>by rw [cZ,b7] at hj;rw [b9 Po];refine (b8 (A:=4) (TA:=22) (cells:=chV (List.replicate (G.length+1) [])) (ls:=List.replicate (G.length+1) []) Pq (by rw [Nz];omega)).trans ?_;simp [vr,lsP]) O O Pq Pq Pq Pq (by rw [cZ,b7];omega)) (bk _) ?_
 rintro k hk;refine Z1 O O ?_;refine Gp O O (fun hc35=>?_) (fun hc35=>?_)
 ·have hlt:k<P.length:=Po;have hpn:=aH hlt;have hpv:=cE hlt;have hpr:=hP.rng _ (aJ hlt);have hlen:(lsP (lsT P k)).length=G.length+1:=by rw [cZ,b7];omega
  have hlb:=fun U (h:U<(lsP (lsT P k)).length)=>Hv P k h
  generalize hls:lsP (lsT P k)=ls at*;refine Il<|Z2 O O O ?_;first | refine A2 O Pr ?_ | refine A1 O ?_
  refine Y2 O O<|Z2 O O O ?_;refine Gp O O (fun hc40=>?_) (fun hc40=>?_)
  ·have hm1:P[k]= -1:=Po;have hUl:G.length<ls.length:=Po;have hnx:lsP (lsT P (k+1))=ls.set (G.length) (ls[G.length]++[.int .i64 k]):=by have h5:G.length<(lsT P k).length:=(by rw [b7];omega);rw [uk hO.rng hlt (G.length) (.inl ⟨hm1,Po⟩),sq _ _ h5];subst hls;rfl
   have hld:=xA hUl;have hlbU:=hlb _ hUl;have hsto:(G.length)*1+1<=(chV ls).length:=by rw [fp];omega
   refine Z2 O O O<|Ge O follows [0,1,2,3,4,5,6,7,8,9,10,11,12] Pp ?_;iterate 6 refine D1 O O ?_
   refine Ds 48 [_] O O O (fun τ h=>aa (G.length) underlying142 ly (Ee h 0 O O) (Eo h 0 O O) (Ee h 1 O O) O Po) O Pp<|Ds 49 [_] O O O (fun τ h=>jU ⟨_,underlying22,O⟩ (Ee h 0 O O) (Eo h 0 O O) hld) O Pp ?_;iterate 2 refine D1 O O ?_
   refine Ds 52 [(G.length)+1000,8] O O O (fun τ h=>eN 9 xj (Ee h 0 O O) ((h.o 0 _ O).trans (IN (b:=(ovl (mkS [(2,.ptr 0 0),(4,.ptr 2 0),(5,.ptr 3 0),(6,.pv (.int .i64 G.length)),(7,.ptr 7 0),(32,.pv (ak P)),(33,.pv (.int .i64 P.length)),(34,.pv (.int .i64 k))] [(0,oZ S),(2,.mix 144 [.pv nS,.pv nS,.pv nS,.pv nS]),(3,.mix 186 [.pv (bS G)]),(5,.cells 22 (List.replicate G.length nS)),(6,.cells 22 (List.replicate G.length nS)),(7,.mix 144 [.osl 4 1 (G.length+1),.osl 5 1 G.length,.osl 6 1 G.length,.pv nS])] 8) 4 22 3 (chV (ls)) (ls)).ob (G.length+1000)) Pp (b8 Pq hUl))) (Mi _).symm (Ee h 1 O O) (Eo h 1 O O) O O Po (h.n 0 _ O)) O Pp<|Ds 53 [_] O O O (fun τ h=>aa (G.length) underlying142 ly (Ee h 0 O O) (Eo h 0 O O) (Ee h 1 O O) O Po) O Pp<|DL.step (d:=none) [_] O O O (fun τ h=>jR ly (Ee h 0 O O) (Eo h 0 O O) (Ee h 1 O O) O hsto O O) O Pp ?_;refine ⟨Pp,?_⟩;exact Z2 O O O<|⟨(k+1),(by rw [hnx];exact St.ej (G.length) 9 (aT O) (aP Pp) (IN (b:=some (.mix 22 (eY (chV ls) ((G.length)*1) [.gsl 9 1 (ls[G.length].length+1)]))) Pp (af (fun c=>some (Ob.mix 22 c)) ((nF _ _ _ (by rw [fp];omega)).trans (kg hUl 9 _).symm))) (r5 hUl _ Pp (fun j hj hne=>IN (b:=bif Nat.beq (j+1000) (G.length+1000) then (none:Option Ob) else (ovl (mkS [(2,.ptr 0 0),(4,.ptr 2 0),(5,.ptr 3 0),(6,.pv (.int .i64 G.length)),(7,.ptr 7 0),(32,.pv (ak P)),(33,.pv (.int .i64 P.length)),(34,.pv (.int .i64 k))] [(0,oZ S),(2,.mix 144 [.pv nS,.pv nS,.pv nS,.pv nS]),(3,.mix 186 [.pv (bS G)]),(5,.cells 22 (List.replicate G.length nS)),(6,.cells 22 (List.replicate G.length nS)),(7,.mix 144 [.osl 4 1 (G.length+1),.osl 5 1 G.length,.osl 6 1 G.length,.pv nS])] 8) 4 22 3 (chV (ls)) (ls)).ob (j+1000)) Pp (by rw [y7 Po,MD];exact oE Pq hj))) O O Pq Pq Pq Po (by rw [Md];omega)),Po,Po⟩
  ·obtain ⟨a,ha⟩:=so (show 0<=P[k] by omega);have hUl:a<ls.length:=Po;have hnx:lsP (lsT P (k+1))=ls.set (a) (ls[a]++[.int .i64 k]):=by have h5:a<(lsT P k).length:=(by rw [b7];omega);rw [uk hO.rng hlt (a) (.inr ⟨ha,Po⟩),sq _ _ h5];subst hls;rfl
   have hld:=xA hUl;have hlbU:=hlb _ hUl;have hsto:(a)*1+1<=(chV ls).length:=by rw [fp];omega
   refine Il ?_;rw [ha];refine Ge O follows [0,1,2,3,4,5,6,7,8,9,10,11,12] Pp ?_;iterate 6 refine D1 O O ?_
   refine Ds 48 [_] O O O (fun τ h=>aa (a) underlying142 ly (Ee h 0 O O) (Eo h 0 O O) (Ee h 1 O O) O Po) O Pp<|Ds 49 [_] O O O (fun τ h=>jU ⟨_,underlying22,O⟩ (Ee h 0 O O) (Eo h 0 O O) hld) O Pp ?_;iterate 2 refine D1 O O ?_
   refine Ds 52 [(a)+1000,8] O O O (fun τ h=>eN 9 xj (Ee h 0 O O) ((h.o 0 _ O).trans (IN (b:=(ovl (mkS [(2,.ptr 0 0),(4,.ptr 2 0),(5,.ptr 3 0),(6,.pv (.int .i64 G.length)),(7,.ptr 7 0),(32,.pv (ak P)),(33,.pv (.int .i64 P.length)),(34,.pv (.int .i64 k))] [(0,oZ S),(2,.mix 144 [.pv nS,.pv nS,.pv nS,.pv nS]),(3,.mix 186 [.pv (bS G)]),(5,.cells 22 (List.replicate G.length nS)),(6,.cells 22 (List.replicate G.length nS)),(7,.mix 144 [.osl 4 1 (G.length+1),.osl 5 1 G.length,.osl 6 1 G.length,.pv nS])] 8) 4 22 3 (chV (ls)) (ls)).ob (a+1000)) Pp (b8 Pq hUl))) (Mi _).symm (Ee h 1 O O) (Eo h 1 O O) O O Po (h.n 0 _ O)) O Pp<|Ds 53 [_] O O O (fun τ h=>aa (a) underlying142 ly (Ee h 0 O O) (Eo h 0 O O) (Ee h 1 O O) O Po) O Pp<|DL.step (d:=none) [_] O O O (fun τ h=>jR ly (Ee h 0 O O) (Eo h 0 O O) (Ee h 1 O O) O hsto O O) O Pp ?_;refine ⟨Pp,?_⟩;exact Z2 O O O<|⟨(k+1),(by rw [hnx];exact St.ej (a) 9 (aT O) (aP Pp) (IN (b:=some (.mix 22 (eY (chV ls) ((a)*1) [.gsl 9 1 (ls[a].length+1)]))) Pp (af (fun c=>some (Ob.mix 22 c)) ((nF _ _ _ (by rw [fp];omega)).trans (kg hUl 9 _).symm))) (r5 hUl _ Pp (fun j hj hne=>IN (b:=bif Nat.beq (j+1000) (a+1000) then (none:Option Ob) else (ovl (mkS [(2,.ptr 0 0),(4,.ptr 2 0),(5,.ptr 3 0),(6,.pv (.int .i64 G.length)),(7,.ptr 7 0),(32,.pv (ak P)),(33,.pv (.int .i64 P.length)),(34,.pv (.int .i64 k))] [(0,oZ S),(2,.mix 144 [.pv nS,.pv nS,.pv nS,.pv nS]),(3,.mix 186 [.pv (bS G)]),(5,.cells 22 (List.replicate G.length nS)),(6,.cells 22 (List.replicate G.length nS)),(7,.mix 144 [.osl 4 1 (G.length+1),.osl 5 1 G.length,.osl 6 1 G.length,.pv nS])] 8) 4 22 3 (chV (ls)) (ls)).ob (j+1000)) Pp (by rw [y7 Po,MD];exact oE Pq hj))) O O Pq Pq Pq Po (by rw [Md];omega)),Po,Po⟩
 ·have hkP:k=P.length:=Po;have hlen:(lsP (lsT P k)).length=G.length+1:=by rw [cZ,b7];omega
  have hLl:(lsT P k).length=G.length+1:=by rw [b7];omega
  have hcp:chP (lsP (lsT P k))=((lsT P k).map ak).map V.pv:=by rw [zo,OM];rfl
  generalize hls:lsP (lsT P k)=ls at*;refine Im (St.ej (l:=[(2,.ptr 0 0),(4,.ptr 2 0),(5,.ptr 3 0),(6,.pv (.int .i64 G.length)),(7,.ptr 7 0)]) (os:=[(0,oZ S),(2,.mix 144 [.pv nS,.pv nS,.pv nS,.pv nS]),(3,.mix 186 [.pv (bS G)]),(5,.cells 22 (List.replicate G.length nS)),(6,.cells 22 (List.replicate G.length nS)),(7,.mix 144 [.osl 4 1 (G.length+1),.osl 5 1 G.length,.osl 6 1 G.length,.pv nS])]) (k:=8) (A:=4) (TA:=22) (T:=3) (ls:=ls) 1000 999 (aT Pp) (aP Pp) (IN (b:=some (.mix 22 (chV ls))) Pp (by rw [eQ 999 Po])) (fun j hj=>by rw [b9 Po];exact IN (b:=(ovl (mkS [(2,.ptr 0 0),(4,.ptr 2 0),(5,.ptr 3 0),(6,.pv (.int .i64 G.length)),(7,.ptr 7 0),(32,.pv (ak P)),(33,.pv (.int .i64 P.length)),(34,.pv (.int .i64 k))] [(0,oZ S),(2,.mix 144 [.pv nS,.pv nS,.pv nS,.pv nS]),(3,.mix 186 [.pv (bS G)]),(5,.cells 22 (List.replicate G.length nS)),(6,.cells 22 (List.replicate G.length nS)),(7,.mix 144 [.osl 4 1 (G.length+1),.osl 5 1 G.length,.osl 6 1 G.length,.pv nS])] 8) 4 22 3 (chV (ls)) (ls)).ob (j+1000)) Pp (b8 Pq hj)) O O Pq Pq Pq Pq Po) ?_;have hsm:=uA (l:=[(2,.ptr 0 0),(4,.ptr 2 0),(5,.ptr 3 0),(6,.pv (.int .i64 G.length)),(7,.ptr 7 0)]) (os:=[(0,oZ S),(2,.mix 144 [.pv nS,.pv nS,.pv nS,.pv nS]),(3,.mix 186 [.pv (bS G)]),(5,.cells 22 (List.replicate G.length nS)),(6,.cells 22 (List.replicate G.length nS)),(7,.mix 144 [.osl 4 1 (G.length+1),.osl 5 1 G.length,.osl 6 1 G.length,.pv nS])]) (k:=8) O O;refine Im (St.zC ls Pq Po hsm.1 hsm.2)<|Im (St.zb (id:=4) (cs:=(lsT P k).map ak) O hcp)<|Im (Io (l:=[(2,.ptr 0 0),(4,.ptr 2 0),(5,.ptr 3 0),(6,.pv (.int .i64 G.length)),(7,.ptr 7 0)]) (os:=(4,.cells 22 ((lsT P k).map ak))::[(0,oZ S),(2,.mix 144 [.pv nS,.pv nS,.pv nS,.pv nS]),(3,.mix 186 [.pv (bS G)]),(5,.cells 22 (List.replicate G.length nS)),(6,.cells 22 (List.replicate G.length nS)),(7,.mix 144 [.osl 4 1 (G.length+1),.osl 5 1 G.length,.osl 6 1 G.length,.pv nS])]) (k:=8) (aS Pp) (aO Pp) O O)<|Im (St.er 7 3 8 1 3 O O O)<|Im (Ir 4 O O)<|Im (St.uB 7 O)<|Im (St.Hc (id:=5) O)<|Wk [(2,.ptr 0 0),(4,.ptr 2 0),(5,.ptr 3 0),(6,.pv (.int .i64 G.length)),(7,.ptr 7 0)] [(0,oZ S),(2,.mix 144 [.pv nS,.pv nS,.pv nS,.pv nS]),(3,.mix 186 [.pv (bS G)]),(5,.cells 22 ((List.replicate G.length ([]:List Int)).map ak)),(6,.cells 22 (List.replicate G.length nS)),(7,.mix 144 [.pv (bu (lsT P k)),.osl 5 1 G.length,.osl 6 1 G.length,.gsl 8 1 0]),(8,.gro 3 (aE []))] 9 (aS Pp) ⟨Pp,Pp,Pp,IN (b:=some (.cells 22 (PV.fgL (List.replicate G.length nS)))) Pp (af (fun c=>some (Ob.cells 22 c)) (H6 _)),Pp,IN (b:=some (.mix 144 [.pv (.sl none (G.length+1) ((lsT P k).map ak)),.osl 5 1 G.length,.osl 6 1 G.length,.gsl 8 1 0])) Pp (af (fun q=>some (Ob.mix 144 [.pv (.sl none q ((lsT P k).map ak)),.osl 5 1 G.length,.osl 6 1 G.length,.gsl 8 1 0])) hLl.symm),Pp,Pw⟩ O O ?_;clear hls hcp hlen;have hCl:(al P (-1)).length<=64:=AT (Mn ..) (by rw [a8];omega);have hCm:∀ c∈al P (-1),∃ m:Nat,m<G.length/\c=(m:Int)/\P.getD m 0= -1:=fun c hc=>by obtain ⟨m,hm,e,hp⟩:=aX.1 hc;exact ⟨m,Po,e,hp⟩
  have hrl:G.length<(lsT P k).length:=Po;have hrv:=cM hrl;have hrn:=cQ hrl;have hroot:(lsT P k)[G.length]=al P (-1):=by have h5:=fG P k;rw [hkP,jT] at h5;simp only [hkP,hGl,<-hPl];exact h5
  rw [hroot] at hrv;have hch:∀ v (h:v<G.length),(lsT P k)[v]'Po=al P v:=fun v h=>by have h5:=mJ P k (i:=v) Po;rw [h5,hkP,jT]
  have hvis:=fun (m:Nat) (hm:m<G.length) (hr:P.getD m 0= -1)=>Bl G.length Po hV G hG O P hP Po (lsT P k) hLl hch (List.replicate G.length nS) P.length m hm Po 0#64
  have hvl:((al P (-1)).flatMap (fY P P.length)).length<=12:=by rw [nN,Aa hP];omega
  generalize hCS:al P (-1)=CS at*;refine Gx O<|Z4 O O O O O<|Z1 O O<|Im (St.fS 3 O O)<|Z2 O O O<|Z3 O O O O<|Rs 61 O O (ag G.length underlying142 ly O O O hrl hrn)<|Rs 62 O O (ai ⟨_,underlying22,O⟩ O hrv)<|Y2 O O ?_;refine Gl O (st:=fun x_1:Nat×List Int×List Int×List (List Int)=>mkS [(2,.ptr 0 0),(4,.ptr 2 0),(7,.ptr 7 0),(10,.ptr 10 0),(11,.ptr 11 0),(62,.pv (ak CS)),(63,.pv (.int .i64 CS.length)),(64,.pv (.int .i64 x_1.1))] [(0,oZ S),(2,.mix 144 [.pv nS,.pv nS,.pv nS,.pv nS]),(5,.cells 22 (x_1.2.2.2.map ak)),(6,.cells 22 (List.replicate G.length nS)),(7,.mix 144 [.pv (bu ((lsT P k))),.osl 5 1 G.length,.osl 6 1 G.length,.gsl 8 1 x_1.2.1.length]),(8,.gro 3 (aE x_1.2.1)),(9,.cells 3 (aE x_1.2.2.1)),(10,.mix 22 [.osl 9 1 G.length]),(11,.mix 294 [.fn (.func 253) [] [.ptr 7 0,.ptr 10 0,.pv (.rp [bS G] 0),.ptr 11 0]])] 12)
   (I:=fun x_1=>(x_1.1<=CS.length/\x_1.2.1=(CS.take x_1.1).flatMap (fY P P.length))/\x_1.2.2.1=bg (List.replicate G.length 0) ((CS.take x_1.1).flatMap fun c=>j0 P P.length c 0#64)/\x_1.2.2.2=bg (List.replicate G.length []) ((CS.take x_1.1).flatMap fun c=>fQ P G G.length P.length c 0#64)) (μ:=fun x_1=>CS.length-x_1.1) (x0:=(0,[],List.replicate G.length 0,List.replicate G.length [])) (Io (aS O) ⟨Pp,Pp,Pp,Pp,Pp,Pp,IN (b:=some (.cells 3 (mkZ [.int .i64 0] (G.length*1)))) Pp (af (fun c=>some (Ob.cells 3 c)) ((ct (.int .i64 0) (G.length*1)).trans (by rw [Mi];show _=List.map _ (List.replicate _ _);rw [List.map_replicate]))),Pp,Pp,Pw⟩ O O) (⟨⟨bk _,O⟩,O,O⟩) ?_
  rintro ⟨j,M,D2,K2⟩ ⟨⟨hj,hM⟩,hD2,hK2⟩;try simp only at hj hM hD2 hK2 ⊢
  refine Z1 O O ?_;refine Gp O O (fun hc65=>?_) (fun hc65=>?_)
  ·have hlt:j<CS.length:=Po;have hcm:=aJ hlt;obtain ⟨c,hcl,hc,hcr⟩:=hCm _ hcm;have hpv2:(aE CS)[j*1]? =some (.int .i64 (c:Int)):=by rw [<-hc];simp [hlt]
   have hpn2:=aH hlt;have htf:=eC hlt (fY P P.length);have htd:=eC hlt (fun c=>j0 P P.length c 0#64);have htk:=eC hlt (fun c=>fQ P G G.length P.length c 0#64);have hfl:=vo (fY P P.length) CS (j+1);rw [hc] at htf htd htk;have hgo:=hvis c hcl hcr M D2 K2 (by rw [hD2,cA,Nz]) (by rw [hK2,cA,Nz]) (by rw [htf,kQ] at hfl;rw [hM];omega);exact Il<|Z1 O O<|Rs 67 O O (ai ⟨_,underlying3,O⟩ O hpv2)<|A1 O<|Z2 O O O<|Rs 70 O O (bJ (vs:=[.pv (.int .i64 (c:Int)),.pv (bz 0#64)]) [7,5,6,8,10,9,11] 12 call253 hgo O O O O O O ⟨Pp,Pp,Pp,Pp,Pp,Pp,Pp,Pw⟩ Pq O)<|Z2 O O O<|⟨(j+1,M++fY P P.length (c:Int),bg D2 (j0 P P.length (c:Int) 0#64),bg K2 (fQ P G G.length P.length (c:Int) 0#64)),Ip [0,1,2,3,4,5,6,7,13,9,10,11] (aT O) (aP Pp) O O Pq O,⟨⟨Pv,by simp only;rw [htf,<-hM]⟩,by simp only;rw [htd,eD,<-hD2],by simp only;rw [htk,eD,<-hK2]⟩,Pv⟩
  ·rw [show CS.take j=CS from a6 Po] at hM hD2 hK2;have hDl:D2.length=G.length:=by rw [hD2,cA,Nz]
   have hKl:K2.length=G.length:=by rw [hK2,cA,Nz]
   have hIl:(aE D2).length=G.length:=by rw [xT,hDl]
   have hrl5:=hV.r2;have hrln:=hS.rl;have hHl:=F9 D2 S;generalize hH:hpL D2 S=H at hHl;have hHr:∀ i (h:i<S.rels.length),H[i]'Po=eX D2 S.rels[i].2 S.rels[i].2.length:=fun i h=>by subst hH;simp [hpL]
   refine Wk [(2,.ptr 0 0),(4,.ptr 2 0),(7,.ptr 7 0),(10,.ptr 10 0)] [(0,oZ S),(2,.mix 144 [.pv nS,.pv nS,.pv nS,.pv nS]),(5,.cells 22 (K2.map ak)),(6,.cells 22 (List.replicate G.length nS)),(7,.mix 144 [.pv (bu (lsT P k)),.osl 5 1 G.length,.osl 6 1 G.length,.gsl 8 1 M.length]),(8,.gro 3 (aE M)),(9,.cells 3 (aE D2)),(10,.mix 22 [.osl 9 1 G.length])] 12 (aS Pp) (aO Pp) O O<|Im (St.py 6 O)<|Im (St.Ae (A:=6) (TA:=22) 3 G.length (af (fun c=>some (Ob.mix 22 c)) Ps) Pq Po (fun i h1 h2=>xN Pq h1 h2))<|Gx O<|Z4 O O O O O ?_;refine Gl O (st:=fun x_2:Nat=>ovl (mkS [(4,.ptr 2 0),(7,.ptr 7 0),(10,.ptr 10 0),(73,.pv (.sl none S.rels.length (bj S.rels))),(74,.pv (.int .i64 S.rels.length)),(75,.pv (.int .i64 x_2))] [(2,.mix 144 [.pv nS,.pv nS,.pv nS,.pv nS]),(5,.cells 22 (K2.map ak)),(7,.mix 144 [.pv (bu (lsT P k)),.osl 5 1 G.length,.osl 6 1 G.length,.gsl 8 1 M.length]),(8,.gro 3 (aE M)),(9,.cells 3 (aE D2)),(10,.mix 22 [.osl 9 1 G.length])] 12) 6 22 3 (chV (lsP (hsT G.length H x_2))) (lsP (hsT G.length H x_2)))
    (I:=fun x_2=>x_2<=S.rels.length) (μ:=fun x_2=>S.rels.length-x_2) (x0:=(0)) (St.ej 1000 999 (aT O) (aP Pp) (af (fun c=>some (Ob.mix 22 c)) (by rw [eQ 999 (by rw [cZ,cP];omega),uy];unfold lsP;rw [List.map_replicate];rfl)) (fun j hj=>by rw [cZ,cP] at hj;rw [b9 Po];refine (b8 (A:=6) (TA:=22) (cells:=chV (List.replicate G.length [])) (ls:=List.replicate G.length []) Pq (by rw [Nz];omega)).trans ?_;simp [uy,lsP]) O O Pq Pq Pq Pq (by rw [cZ,cP];omega)) (bk _) ?_
   rintro i hi;refine Z1 O O ?_;refine Gp O O (fun hc76=>?_) (fun hc76=>?_)
   ·have hli:i<S.rels.length:=Po;have hrow:=cW hli;have hne:=ew hli;have hrk:=hrln _ (aJ hli);have hrr:=hV.rng _ (aJ hli);have hrn0:=hV.ne _ (aJ hli);have hHi:=hHr i hli;have hlen:(lsP (hsT G.length H i)).length=G.length:=by rw [cZ,cP]
    have hlb:=fun U (h:U<(lsP (hsT G.length H i)).length)=>Hl G.length H i h
    generalize S.rels[i]=rk at*;have hhm:=fun j=>pY D2 hrn0 j
    have hnat:∀ x∈rk.2,∃ m:Nat,m<G.length/\x=(m:Int):=fun x hx=>by obtain ⟨m,e⟩:=so (hrr x hx).1;exact ⟨m,by have:=(hrr x hx).2;omega,e⟩
    obtain ⟨U,hUn,hUe⟩:=hnat _ (hhm rk.2.length);generalize hls:lsP (hsT G.length H i)=ls at*;have hUl:U<ls.length:=Po;have hnx:lsP (hsT G.length H (i+1))=ls.set U (ls[U]++[.int .i64 i]):=by have h5:U<(hsT G.length H i).length:=(by rw [cP];exact hUn);rw [Cy Po hUn (hHi.trans hUe),sq _ _ h5];subst hls;rfl
    have hld:=xA hUl;have hlbU:=hlb _ hUl;have hsto:U*1+1<=(chV ls).length:=by rw [fp];omega
    have h0l:0<rk.2.length:=MB.2 hrn0;have hq0:(aE rk.2)[0*1]? =some (.int .i64 (eX D2 rk.2 0)):=by cases hc:rk.2 with | nil=>exact absurd hc hrn0 | cons x l=>simp [eX]
    have hpn0:=aH h0l;refine Il<|Z2 O O O ?_;first | refine A3 O Pr ?_ | refine A1 O ?_
    refine Y3 O O O<|Z2 O O O<|Rs 82 O O (ag 0 underlying22 sz3 O O O h0l hpn0)<|Rs 83 O O (ai ⟨_,underlying3,O⟩ O hq0)<|A1 O<|Z4 O O O O O ?_;refine Gl O (st:=fun x_3:Nat=>ovl (mkS [(4,.ptr 2 0),(7,.ptr 7 0),(10,.ptr 10 0),(14,.pv (.int .i64 i)),(16,.pv (.int .i64 (eX D2 rk.2 x_3))),(73,.pv (.sl none S.rels.length (bj S.rels))),(74,.pv (.int .i64 S.rels.length)),(75,.pv (.int .i64 i)),(85,.pv (ak rk.2)),(86,.pv (.int .i64 rk.2.length)),(87,.pv (.int .i64 x_3))] [(2,.mix 144 [.pv nS,.pv nS,.pv nS,.pv nS]),(5,.cells 22 (K2.map ak)),(7,.mix 144 [.pv (bu (lsT P k)),.osl 5 1 G.length,.osl 6 1 G.length,.gsl 8 1 M.length]),(8,.gro 3 (aE M)),(9,.cells 3 (aE D2)),(10,.mix 22 [.osl 9 1 G.length])] 13) 6 22 3 (chV ls) (ls))
     (I:=fun x_3=>x_3<=rk.2.length) (μ:=fun x_3=>rk.2.length-x_3) (x0:=(0)) (St.ej 1000 999 (aT O) (aP Pp) (IN (b:=some (.mix 22 (chV ls))) Pp (by rw [eQ 999 Po])) (fun j2 hj2=>by rw [b9 Po];exact IN (b:=(ovl (mkS [(4,.ptr 2 0),(7,.ptr 7 0),(10,.ptr 10 0),(73,.pv (.sl none S.rels.length (bj S.rels))),(74,.pv (.int .i64 S.rels.length)),(75,.pv (.int .i64 i))] [(2,.mix 144 [.pv nS,.pv nS,.pv nS,.pv nS]),(5,.cells 22 (K2.map ak)),(7,.mix 144 [.pv (bu (lsT P k)),.osl 5 1 G.length,.osl 6 1 G.length,.gsl 8 1 M.length]),(8,.gro 3 (aE M)),(9,.cells 3 (aE D2)),(10,.mix 22 [.osl 9 1 G.length])] 12) 6 22 3 (chV (ls)) (ls)).ob (j2+1000)) Pp (b8 Pq hj2)) O O Pq Pq Pq Pq Po) (bk _) ?_
    rintro j3 hj3;refine Z1 O O ?_;refine Gp O O (fun hc88=>?_) (fun hc88=>?_)
    ·have hl3:j3<rk.2.length:=Po;obtain ⟨a,hal,ha⟩:=hnat _ (aJ hl3);obtain ⟨mh,hml,hmh⟩:=hnat _ (hhm j3);have hpv3:(aE rk.2)[j3*1]? =some (.int .i64 (a:Int)):=by rw [<-ha];simp [hl3]
     have hpn3:=aH hl3;have hDa:(aE D2)[a*1]? =some (.int .i64 (D2.getD a 0)):=by simp [List.getD,hDl,hal]
     have hDm:(aE D2)[mh*1]? =some (.int .i64 (D2.getD mh 0)):=by simp [List.getD,hDl,hml]
     have hhs:=wC D2 rk.2 hl3;rw [ha,hmh,Mb,Mb] at hhs;refine Il<|Z1 O O<|Rs 90 O O (ai ⟨_,underlying3,O⟩ O hpv3)<|A1 O<|Ge O follows [0,1,2,3,4,5,6,7,8] Pp ?_;iterate 2 refine D1 O O ?_
     refine Ds 93 [_] O O O (fun τ h=>aa a underlying22 sz3 (Ee h 0 O O) (Eo h 0 O O) (Ee h 1 O O) O Po) O Pp<|Ds 94 [_] O O O (fun τ h=>aC ⟨_,underlying3,O⟩ (Ee h 0 O O) (Eo h 0 O O) hDa) O Pp ?_;iterate 2 refine D1 O O ?_
     refine Ds 97 [_] O O O (fun τ h=>aa mh underlying22 sz3 (Ee h 0 O O) (Eo h 0 O O) (Ee h 1 O O) hmh Po) O Pp<|Ds 98 [_] O O O (fun τ h=>aC ⟨_,underlying3,O⟩ (Ee h 0 O O) (Eo h 0 O O) hDm) O Pp<|D1 O O ?_;refine ⟨Pp,?_⟩;refine Gp O O (fun hc99=>?_) (fun hc99=>?_)
     ·exact Z2 O O O<|Z2 O O O<|⟨(j3+1),St.ej 1000 999 ⟨O,O,O,O,af (fun z=>V.pv (.int .i64 z)) (hhs.trans (qY hc99)).symm,O,O,O,O,O,O,Pw⟩ (aP Pp) (IN (b:=some (.mix 22 (chV ls))) Pp (by rw [eQ 999 Po])) (fun j2 hj2=>by rw [b9 Po];exact IN (b:=(ovl (mkS [(4,.ptr 2 0),(7,.ptr 7 0),(10,.ptr 10 0),(14,.pv (.int .i64 i)),(16,.pv (.int .i64 (eX D2 rk.2 j3))),(73,.pv (.sl none S.rels.length (bj S.rels))),(74,.pv (.int .i64 S.rels.length)),(75,.pv (.int .i64 i)),(85,.pv (ak rk.2)),(86,.pv (.int .i64 rk.2.length)),(87,.pv (.int .i64 j3))] [(2,.mix 144 [.pv nS,.pv nS,.pv nS,.pv nS]),(5,.cells 22 (K2.map ak)),(7,.mix 144 [.pv (bu (lsT P k)),.osl 5 1 G.length,.osl 6 1 G.length,.gsl 8 1 M.length]),(8,.gro 3 (aE M)),(9,.cells 3 (aE D2)),(10,.mix 22 [.osl 9 1 G.length])] 13) 6 22 3 (chV ls) (ls)).ob (j2+1000)) Pp (b8 Pq hj2)) O O Pq Pq Pq Pq Po,Po,Po⟩
     ·exact Il<|Z2 O O O<|⟨(j3+1),St.ej 1000 999 ⟨O,O,O,O,af (fun z=>V.pv (.int .i64 z)) ((hhs.trans (kH hc99)).trans hmh.symm).symm,O,O,O,O,O,O,Pw⟩ (aP Pp) (IN (b:=some (.mix 22 (chV ls))) Pp (by rw [eQ 999 Po])) (fun j2 hj2=>by rw [b9 Po];exact IN (b:=(ovl (mkS [(4,.ptr 2 0),(7,.ptr 7 0),(10,.ptr 10 0),(14,.pv (.int .i64 i)),(16,.pv (.int .i64 (eX D2 rk.2 j3))),(73,.pv (.sl none S.rels.length (bj S.rels))),(74,.pv (.int .i64 S.rels.length)),(75,.pv (.int .i64 i)),(85,.pv (ak rk.2)),(86,.pv (.int .i64 rk.2.length)),(87,.pv (.int .i64 j3))] [(2,.mix 144 [.pv nS,.pv nS,.pv nS,.pv nS]),(5,.cells 22 (K2.map ak)),(7,.mix 144 [.pv (bu (lsT P k)),.osl 5 1 G.length,.osl 6 1 G.length,.gsl 8 1 M.length]),(8,.gro 3 (aE M)),(9,.cells 3 (aE D2)),(10,.mix 22 [.osl 9 1 G.length])] 13) 6 22 3 (chV ls) (ls)).ob (j2+1000)) Pp (b8 Pq hj2)) O O Pq Pq Pq Pq Po,Po,Po⟩
    ·have hje:j3=rk.2.length:=Po;rw [<-hje] at hUe;refine Gx O<|Ge O follows [0,1,2,3,4,5,6,7,8,9,10,11,12] Pp ?_;iterate 6 refine D1 O O ?_
     refine Ds 108 [_] O O O (fun τ h=>aa U underlying142 ly (Ee h 0 O O) (Eo h 0 O O) (Ee h 1 O O) hUe Po) O Pp<|Ds 109 [_] O O O (fun τ h=>jU ⟨_,underlying22,O⟩ (Ee h 0 O O) (Eo h 0 O O) hld) O Pp ?_;iterate 2 refine D1 O O ?_
     refine Ds 112 [U+1000,13] O O O (fun τ h=>eN 14 xj (Ee h 0 O O) ((h.o 0 _ O).trans (IN (b:=(ovl (mkS [(4,.ptr 2 0),(7,.ptr 7 0),(10,.ptr 10 0),(14,.pv (.int .i64 i)),(16,.pv (.int .i64 (eX D2 rk.2 j3))),(73,.pv (.sl none S.rels.length (bj S.rels))),(74,.pv (.int .i64 S.rels.length)),(75,.pv (.int .i64 i)),(85,.pv (ak rk.2)),(86,.pv (.int .i64 rk.2.length)),(87,.pv (.int .i64 j3))] [(2,.mix 144 [.pv nS,.pv nS,.pv nS,.pv nS]),(5,.cells 22 (K2.map ak)),(7,.mix 144 [.pv (bu (lsT P k)),.osl 5 1 G.length,.osl 6 1 G.length,.gsl 8 1 M.length]),(8,.gro 3 (aE M)),(9,.cells 3 (aE D2)),(10,.mix 22 [.osl 9 1 G.length])] 13) 6 22 3 (chV ls) (ls)).ob (U+1000)) Pp (b8 Pq hUl))) (Mi _).symm (Ee h 1 O O) (Eo h 1 O O) O O Po (h.n 0 _ O)) O Pp<|Ds 113 [_] O O O (fun τ h=>aa U underlying142 ly (Ee h 0 O O) (Eo h 0 O O) (Ee h 1 O O) hUe Po) O Pp<|DL.step (d:=none) [_] O O O (fun τ h=>jR ly (Ee h 0 O O) (Eo h 0 O O) (Ee h 1 O O) O hsto O O) O Pp ?_;refine ⟨Pp,?_⟩;exact Z2 O O O<|⟨(i+1),(by rw [hnx];exact St.ej U 14 (aT O) (aP Pp) (IN (b:=some (.mix 22 (eY (chV ls) (U*1) [.gsl 14 1 (ls[U].length+1)]))) Pp (af (fun c=>some (Ob.mix 22 c)) ((nF _ _ _ (by rw [fp];omega)).trans (kg hUl 14 _).symm))) (r5 hUl _ Pp (fun j2 hj2 hne2=>IN (b:=bif Nat.beq (j2+1000) (U+1000) then (none:Option Ob) else (ovl (mkS [(4,.ptr 2 0),(7,.ptr 7 0),(10,.ptr 10 0),(14,.pv (.int .i64 i)),(16,.pv (.int .i64 (eX D2 rk.2 j3))),(73,.pv (.sl none S.rels.length (bj S.rels))),(74,.pv (.int .i64 S.rels.length)),(75,.pv (.int .i64 i)),(85,.pv (ak rk.2)),(86,.pv (.int .i64 rk.2.length)),(87,.pv (.int .i64 j3))] [(2,.mix 144 [.pv nS,.pv nS,.pv nS,.pv nS]),(5,.cells 22 (K2.map ak)),(7,.mix 144 [.pv (bu (lsT P k)),.osl 5 1 G.length,.osl 6 1 G.length,.gsl 8 1 M.length]),(8,.gro 3 (aE M)),(9,.cells 3 (aE D2)),(10,.mix 22 [.osl 9 1 G.length])] 13) 6 22 3 (chV ls) (ls)).ob (j2+1000)) Pp (by rw [y7 Po,MD];exact oE Pq hj2))) O O Pq Pq Pq Po (by rw [Md];omega)),Po,Po⟩
   ·have hie:i=S.rels.length:=Po;have hlen:(lsP (hsT G.length H i)).length=G.length:=by rw [cZ,cP]
    have hcp2:chP (lsP (hsT G.length H i))=((hsT G.length H i).map ak).map V.pv:=by rw [zo,OM];rfl
    generalize hls:lsP (hsT G.length H i)=ls at*;refine Im (St.ej (l:=[(4,.ptr 2 0),(7,.ptr 7 0)]) (os:=[(2,.mix 144 [.pv nS,.pv nS,.pv nS,.pv nS]),(5,.cells 22 (K2.map ak)),(7,.mix 144 [.pv (bu (lsT P k)),.osl 5 1 G.length,.osl 6 1 G.length,.gsl 8 1 M.length]),(8,.gro 3 (aE M))]) (k:=12) (A:=6) (TA:=22) (T:=3) (ls:=ls) 1000 999 (aT Pp) (aP Pp) (IN (b:=some (.mix 22 (chV ls))) Pp (by rw [eQ 999 Po])) (fun j2 hj2=>by rw [b9 Po];exact IN (b:=(ovl (mkS [(4,.ptr 2 0),(7,.ptr 7 0),(10,.ptr 10 0),(73,.pv (.sl none S.rels.length (bj S.rels))),(74,.pv (.int .i64 S.rels.length)),(75,.pv (.int .i64 i))] [(2,.mix 144 [.pv nS,.pv nS,.pv nS,.pv nS]),(5,.cells 22 (K2.map ak)),(7,.mix 144 [.pv (bu (lsT P k)),.osl 5 1 G.length,.osl 6 1 G.length,.gsl 8 1 M.length]),(8,.gro 3 (aE M)),(9,.cells 3 (aE D2)),(10,.mix 22 [.osl 9 1 G.length])] 12) 6 22 3 (chV (ls)) (ls)).ob (j2+1000)) Pp (b8 Pq hj2)) O O Pq Pq Pq Pq Po) ?_;have hsm2:=uA (l:=[(4,.ptr 2 0),(7,.ptr 7 0)]) (os:=[(2,.mix 144 [.pv nS,.pv nS,.pv nS,.pv nS]),(5,.cells 22 (K2.map ak)),(7,.mix 144 [.pv (bu (lsT P k)),.osl 5 1 G.length,.osl 6 1 G.length,.gsl 8 1 M.length]),(8,.gro 3 (aE M))]) (k:=12) O O;exact Im (St.zC ls Pq Po hsm2.1 hsm2.2)<|Im (St.zb (id:=6) (cs:=(hsT G.length H i).map ak) O hcp2)<|Wk [(4,.ptr 2 0),(7,.ptr 7 0)] [(2,.mix 144 [.pv nS,.pv nS,.pv nS,.pv nS]),(5,.cells 22 (K2.map ak)),(6,.cells 22 ((hsT G.length H i).map ak)),(7,.mix 144 [.pv (bu (lsT P k)),.osl 5 1 G.length,.osl 6 1 G.length,.gsl 8 1 M.length]),(8,.gro 3 (aE M))] 12 (aS Pp) (aO Pp) O O<|Im (Ir 6 O O)<|Im (Ir 5 O O)<|Im (Ir 8 O O)<|Im (St.uB 7 O)<|Gx O<|Z2 O O O<|Gt O<|⟨_,_,O,O,⟨aY ⟨_,underlying144,O⟩ Fj O O O,Pw⟩,G,hG,FR hkP hie hH hM hCS hD2 hK2 hKl⟩
end
section
open Mk Jn
noncomputable def planS (S:Sch):VD:=iK S (ordL S (lstL S)) (gr S)
theorem He (S:Sch) (hS:SB S) (hO:OrdOk S (ordL S (lstL S))):FnP prog 225 [gK S,Fe (ordL S (lstL S))] (· =ca (planS S)):=
 (Dk S hS _ hO).mono fun v ⟨G,hG,e⟩=>by rw [e,uw hO.val hG];rfl
theorem G9 {S:Sch} (hS:SB S) (hV:Valid S):OrdOk S (ordL S (lstL S)):=by
 have hp:=(iN S hS hV).1;exact (C9 hV hp).ok hV hp
theorem rR (l:List Int) (hl:l.length<=1000000):FnP prog 222 [ak l] (· =ak l):=by
 refine FnP.fg2 (FnP.of func222 O ntmps222 Ps fun m0 w0 F R0=>?_);refine Z1 O O<|Z1 O O ?_;refine RL.call O (l9 underlying22 O ?_);intro b hb;refine Gc O O (fun hc4=>?_) (fun hc4=>?_)
 ·have hl0:l=[]:=List.map_eq_nil_iff.1 (hb hc4);exact Z1 O O<|Gt O<|⟨_,_,O,O,by rw [hl0];rfl⟩
 ·refine Il<|Gr O<|Rs 5 O O (ek 0 xj O)<|A1 O<|Rs 7 O O (fc 1 xj O O O (.inl ⟨none,O⟩) Ps (fun c hc=>by obtain ⟨y,_,rfl⟩:=IT.1 hc;rfl) Po O) ?_;exact A1 O<|Im (Ir 1 O O)<|Gt O<|⟨_,_,O,O,show PV.sl none (0+l.length) ([]++aE l)=_ by rw [Mt,MZ]⟩
abbrev jnO (S:Sch) (T:List (List Rw)) (lp:List Int) (pk pv:List PV):List (Nat×Ob):=[(big,oX S (.pv (dbP T)) (.pv (ak lp)) 9001),(9001,.mp pk pv)]
abbrev A6 (D:VD):List V:=[.pv (bu D.chs),.pv (bu D.kes),.pv (bu D.hos),.pv (ak D.wa)]
theorem gH:∀ (a b:List (Nat×Ob)) (i:Nat) (o:Ob),ar a i=some o->ar (a++b) i=some o
 | [],b,i,o,h=>by simp [ar] at h
 | (d,v)::a,b,i,o,h=>by
   simp only [MX,ar] at h ⊢;cases hb:Nat.beq i d with
   | true=>rw [hb] at h;exact h
   | false=>rw [hb] at h;exact gH a b i o h
theorem Ax (S:Sch) (hS:SB S) (hV:Valid S) (T:List (List Rw)) (lp:List Int) (hp:lp.Perm (upZ S.attrs.length)) (D:VD) (hlay:FnP prog 225 [gK S,Fe (ordL S lp)] (· =ca D)):FnO prog 186 2 0 [.ptr big 0,.pv (.int .i64 (-1))] (jnO S T lp [] []) (fun v ob'=>v= .agg (A6 D)/\ob'=ar (jnO S T lp [.int .i64 (-1)] [ca D])):=by
 refine FnO.ofC func186 O ntmps186 Ps fun m0 w0 F R0=>?_
 have hq:∀ a∈lp,0<=a/\a<S.attrs.length:=fun a ha=>by obtain ⟨m,hm,rfl⟩:=bx.1 (hp.mem_iff.1 ha);omega
 have hql:lp.length<=1000:=by rw [hp.length_eq,a8];have:=hV.n2;omega
 have hof:=Gu S hS hV lp hq hql;generalize ordL S lp=Q at*;refine Z2 O O O<|Ge O follows [0,1,2,3,4,5,6,7,8,9,10,11] Pp ?_;iterate 5 refine D1 O O ?_
 refine Ds 14 [_] O O O (fun τ h=>cg (zp:= .agg [.sl (some true) 0 [],.sl (some true) 0 [],.sl (some true) 0 [],.sl (some true) 0 []]) underlying125 underlying3 (.inl ⟨9001,(Ee h 0 O O),(Eo h 0 O O)⟩) (Ee h 1 O O) O yr O (r:=none) O O O) O Pp ?_;iterate 6 refine D1 O O ?_
 refine ⟨Pp,?_⟩;refine Z2 O O O ?_;refine Gc O O (fun hc18=>?_) (fun hc18=>absurd hc18 Ps);refine Z4 O O O O O<|Rs 23 O O (ae call222 (rR _ Po) O)<|A1 O<|Z2 O O O ?_;refine Gp O O (fun hc25=>absurd hc25 Ps) (fun hc25=>?_);refine Il<|Ge O follows [0,1,2,3,4,5,6,7,8,9,10,11] Pp ?_;iterate 9 refine D1 O O ?_
 refine Ds 41 [] O O O (fun τ h=>ae call226 hof (h.bt O)) O Pp<|Ds 42 [] O O O (fun τ h=>ae call225 hlay (h.bt O)) O Pp<|D1 O O ?_;refine ⟨Pp,?_⟩;refine Ge O follows [0,1,2,3,4,5,6] Pp ?_;iterate 6 refine D1 O O ?_
 refine DL.step (d:=none) [_] O O O (fun τ h=>ed underlying125 underlying3 (Ee h 0 O O) (Eo h 0 O O) (Ee h 1 O O) (Ee h 2 O O) O (r:=none) O O O) O Pp ?_;refine ⟨Pp,?_⟩;exact Z2 O O O<|Gt O<|⟨[(4,.ptr 1 0)],[(big,oX S (.pv (dbP T)) (.pv (ak lp)) 9001),(9001,.mp [.int .i64 (-1)] [ca D]),(1,.mix 144 (A6 D))],[.agg (A6 D)],[(big,oX S (.pv (dbP T)) (.pv (ak lp)) 9001),(9001,.mp [.int .i64 (-1)] [ca D])],2,Io (aS O) (aO Pp) O O,O,⟨aY ⟨_,underlying144,O⟩ Fj O O O,Pw⟩,O,O,fun i o h=>gH _ [(1,.mix 144 (A6 D))] i o h,Pq,O,O⟩
theorem Cm (S:Sch) (T:List (List Rw)) (lp:List Int) (D:VD):FnO prog 186 2 0 [.ptr big 0,.pv (.int .i64 (-1))] (jnO S T lp [.int .i64 (-1)] [ca D]) (fun v ob'=>v= .agg (A6 D)/\ob'=ar (jnO S T lp [.int .i64 (-1)] [ca D])):=by
 refine FnO.ofC func186 O ntmps186 Ps fun m0 w0 F R0=>?_
 refine Z2 O O O<|Ge O follows [0,1,2,3,4,5,6,7,8,9,10,11] Pp ?_;iterate 5 refine D1 O O ?_
 refine Ds 14 [_] O O O (fun τ h=>cg (zp:= .agg [.sl (some true) 0 [],.sl (some true) 0 [],.sl (some true) 0 [],.sl (some true) 0 []]) underlying125 underlying3 (.inl ⟨9001,(Ee h 0 O O),(Eo h 0 O O)⟩) (Ee h 1 O O) O yr O (r:=some (ca D)) O O O) O Pp ?_;iterate 6 refine D1 O O ?_
 refine ⟨Pp,?_⟩;refine Z2 O O O ?_;refine Gc O O (fun hc18=>absurd hc18 Ps) (fun hc18=>?_);exact Il<|Z2 O O O<|Gt O<|⟨[(4,.ptr 1 0)],[(big,oX S (.pv (dbP T)) (.pv (ak lp)) 9001),(9001,.mp [.int .i64 (-1)] [ca D]),(1,.mix 144 (A6 D))],[.agg (A6 D)],[(big,oX S (.pv (dbP T)) (.pv (ak lp)) 9001),(9001,.mp [.int .i64 (-1)] [ca D])],2,Io (aS O) (aO Pp) O O,O,⟨aY ⟨_,underlying144,O⟩ Fj O O O,Pw⟩,O,O,fun i o h=>gH _ [(1,.mix 144 (A6 D))] i o h,Pq,O,O⟩
end
section
open Mk Jn
abbrev s0B:Asg ByteArray:=fun _=>none
abbrev jdB (S:Sch) (T:List (List Rw)) (lp:List Int) (D:VD):JD:=⟨S,T,ak lp,[.int .i64 (-1)],[ca D]⟩
abbrev HC:PV:= .agg [.bool false,.bool true,.fn (.func 189) [] [],.fn (.func 190) [] [],.fn (.func 191) [] []]
abbrev Fa:PV:= .fn (.func 142) [] []
abbrev wtB:PV:= .fn (.func 143) [] []
abbrev HG (S:Sch) (T:List (List Rw)) (lp:List Int) (D:VD):List (Nat×Ob):=[(4,.mix 155 [.ptr big 0,.pv (bu D.chs),.pv (bu D.kes),.pv (bu D.hos),.pv (ak D.wa),.pv (.bool false),.pv (.bool true),.pv (.fn (.func 189) [] []),.pv (.fn (.func 190) [] []),.pv (.fn (.func 191) [] []),.pv Fa,.pv wtB,.pv .nilmap,.osl 1 1 S.attrs.length,.osl 2 1 S.attrs.length,.map 3]),(1,.cells 9 (aA (List.replicate S.attrs.length eb))),(2,.cells 4 (ay (stL s0B S.attrs.length))),(3,.mp [] []),(big,oX S (.pv (dbP T)) (.pv (ak lp)) 9001),(9001,.mp [.int .i64 (-1)] [ca D])]
theorem yH (n:Nat):List.replicate n (PV.bool false)=ay (stL s0B n):=by
 apply MJ
 ·simp [cK]
 ·intro i h1 h2;simp [stL]
theorem rE (S:Sch) (T:List (List Rw)) (lp:List Int) (pk pv:List PV) (D:VD) (hn:S.attrs.length<=1000) (hpl:FnO prog 186 2 0 [.ptr big 0,.pv (.int .i64 (-1))] (jnO S T lp pk pv) (fun v ob'=>v= .agg (A6 D)/\ob'=ar (jnO S T lp [.int .i64 (-1)] [ca D]))):
  FnO prog 140 2 5 [.ptr big 0,.pv (.int .i64 (-1)),.pv .nilmap,.pv HC,.pv Fa,.pv wtB] (jnO S T lp pk pv) (fun v ob'=>v= .ptr 4 0/\ob'=ar (HG S T lp D)):=by
 refine FnO.of func140 O ntmps140 Ps fun m0 w0 F R0=>?_
 refine Z2 O O O<|Gr O ?_;iterate 7 refine A1 O ?_
 refine Ge O follows [0,1,2,3,4,5,6,7,8,9,10,11,12,13,14,15] Pp ?_;iterate 3 refine D1 O O ?_
 refine Ds 23 [big,9001] O O O (fun τ h=>ah [big,9001] 5 call186 hpl (h.args.trans O) O O O ⟨(Eo h 0 O O),(Eo h 1 O O),Pw⟩ Pq O) O Pp ?_;iterate 8 refine D1 O O ?_
 refine Ds 32 [] O O O (fun τ h=>fF 3 (h.n 0 _ O)) O Pp<|D1 (d:=some 33) (s:=⟨.agg [.ptr big 0,.pv (bu D.chs),.pv (bu D.kes),.pv (bu D.hos),.pv (ak D.wa),.pv (.bool false),.pv (.bool true),.pv (.fn (.func 189) [] []),.pv (.fn (.func 190) [] []),.pv (.fn (.func 191) [] []),.pv Fa,.pv wtB,.pv .nilmap,.osl 1 1 S.attrs.length,.osl 2 1 S.attrs.length,.map 3],[],[]⟩) (rd:=[big,1,2,3]) (φ:=True) O Pp ?_;iterate 2 refine D1 O O ?_
 refine ⟨Pp,?_⟩;exact Gt O<|⟨[(12,.ptr 4 0)],HG S T lp D,[.ptr 4 0],Io (aS O) ⟨Pp,IN (b:=some (.cells 9 (mkZ [.str ByteArray.empty] (S.attrs.length*1)))) Pp (af (fun c=>some (Ob.cells 9 c)) ((ct (.str ByteArray.empty) (S.attrs.length*1)).trans (by rw [Mi];show _=List.map _ (List.replicate _ _);rw [List.map_replicate];rfl))),IN (b:=some (.cells 4 (mkZ [.bool false] (S.attrs.length*1)))) Pp (af (fun c=>some (Ob.cells 4 c)) ((ct (.bool false) (S.attrs.length*1)).trans (by rw [Mi];exact yH _))),Pp,Pp,Pp,Pw⟩ O O,O,O,O,O,O⟩
end
section
open Mk Jn
abbrev o6N (J:JD) (W:WD) (σ:Asg ByteArray) (now:List ByteArray) (mk mv:List PV):List (Nat×Ob):=[(big,oN W 9004 9001 J.S.attrs.length 9002 9003),(9001,.cells 9 (aA now)),(9002,.cells 4 (ay (stL σ J.S.attrs.length))),(9003,.mp mk mv),(9004,oX2 J 9005),(9005,.mp J.pk J.pv)]
theorem fq (J:JD) (hJ:JOk J) (W:WD) (σ:Asg ByteArray) (now:List ByteArray) (hn:NowOk J.S.attrs.length σ now) (mk mv:List PV) (r:Nat) (hr:r<J.S.rels.length) (x:Rw) (hx:x.v.length=J.S.rels[r].2.length):
  FnO prog 256 6 0 [.ptr big 0,.pv (.int .i64 r),.pv (sJ x)] (o6N J W σ now mk mv) (fun v ob'=>v= .pv (.bool (agr J.S.rels[r].2 σ x.v))/\ob'=ar (o6N J W σ now mk mv)):=by
 refine FnO.of func256 O ntmps256 Ps fun m0 w0 F R0=>?_
 have hS:=hJ.s;have hrne:=ew hr;have hra:(bj J.S.rels)[r*2+1]? =some (ak J.S.rels[r].2):=by
  have h2:(((bj J.S.rels).drop (r*2)).take 2)[1]? =[PV.str J.S.rels[r].1,ak J.S.rels[r].2][1]? :=by rw [cW hr]
  simpa [Ma,MA] using h2
 have hrl:=hS.l _ (aJ hr);have hrb:=hS.b _ (aJ hr);have hSr:=hS.r;have hnl:=hn.l;rw [pq];generalize J.S.rels[r].2=A at*;refine Z2 O O O<|Gr O ?_;iterate 9 refine A1 O ?_
 refine Rs 18 O O (ag r underlying31 Eu O O O hr hrne)<|A1 O<|Rs 20 O O (ai ⟨_,underlying22,O⟩ O hra)<|Y2 O O ?_;refine Gl O (st:=fun ac:Nat=>mkS [(0,.ptr big 0),(5,.ptr 0 0),(20,.pv (ak A)),(21,.pv (.int .i64 A.length)),(22,.pv (.int .i64 ac))] [(big,oN W 9004 9001 J.S.attrs.length 9002 9003),(0,.mix 49 [.pv (aI x.v),.pv (.int .i64 x.w)]),(9001,.cells 9 (aA now)),(9002,.cells 4 (ay (stL σ J.S.attrs.length))),(9003,.mp mk mv),(9004,oX2 J 9005),(9005,.mp J.pk J.pv)] 1)
  (I:=fun ac=>ac<=A.length/\((A.zip x.v).take ac).all (agP σ)=true) (μ:=fun ac=>A.length-ac) (x0:=(0)) (Io (aS O) (aO O) O O) (⟨bk _,O⟩) ?_
 rintro j ⟨hj,hall⟩;refine Z1 O O ?_;refine Gp O O (fun hc23=>?_) (fun hc23=>?_)
 ·have hlj:j<A.length:=Po;have hzs:=eM hx hlj (agP σ);obtain ⟨a,haa⟩:=so (hrb _ (aJ hlj)).1;have hal:a<J.S.attrs.length:=by have:=(hrb _ (aJ hlj)).2;omega
  have hpv:(aE A)[j*1]? =some (.int .i64 (a:Int)):=by rw [<-haa];simp [hlj]
  have hpn:=aH hlj;have hjv:j<x.v.length:=Po;have hsv:=aM hjv;have hsn:=bc hjv;have hset:=DW (σ:=σ) hal;have hnow:=aM (l:=now) (k:=a) Po;have hsl:(ay (stL σ J.S.attrs.length)).length=J.S.attrs.length:=by rw [xT,cK]
  have hnl2:(aA now).length=J.S.attrs.length:=by rw [xT,hnl]
  rw [hall,haa,NX] at hzs;refine Il<|Z2 O O O<|Rs 26 O O (ai ⟨_,underlying3,O⟩ O hpv)<|Y2 O O ?_;by_cases hsg:(σ (a:Int)).isSome=true
  ·have hval:=Option.some_get hsg;have hnv:now[a]'Po=(σ (a:Int)).get hsg:=hn.e a Po _ hval.symm;generalize hgz:(σ (a:Int)).get hsg=z at*;rw [gW hval.symm] at hzs;rw [hsg] at hset;rw [hnv] at hnow;refine Ge O follows [0,1,2,3,4,5,6,7,8,9,10,11,12,13,14,15,16,17,18,19,20,21] Pp ?_;iterate 6 refine D1 O O ?_
   refine Ds 33 [_] O O O (fun τ h=>aC ⟨_,underlying4,O⟩ (Ee h 0 O O) (Eo h 0 O O) hset) O Pp ?_;iterate 7 refine D1 O O ?_
   refine Dg 41 [_] O O O O (fun τ h=>aC ⟨_,underlying9,O⟩ (Ee h 0 O O) (Eo h 0 O O) hnow) O Pp ?_;iterate 4 refine D1 O O ?_
   refine Dg 46 [] O O O O (fun τ h=>ai ⟨_,underlying9,O⟩ (Ee h 0 O O) hsv) O Pp ?_;iterate 2 refine D1 O O ?_
   refine ⟨Pp,?_⟩;refine Gc O O (fun hc48=>?_) (fun hc48=>?_)
   ·exact Z1 O O<|Gt O<|⟨[(6,.pv (.bool false))],o6N J W σ now mk mv,[.pv (.bool false)],Io (aS O) (aO O) O O,O,O,O,af (fun b=>V.pv (.bool b)) (pZ (hzs.trans (Ha hc48))).symm,O⟩
   ·exact Il<|Z2 O O O<|⟨(j+1),Io (aS O) (aO O) O O,⟨Po,hzs.trans (G6 hc48)⟩,Po⟩
  ·have hno:σ (a:Int)=none:=by cases h:σ (a:Int) with | none=>rfl | some x=>rw [h] at hsg;exact absurd O hsg
   rw [oM hno] at hzs;rw [MH hsg] at hset;refine Ge O follows [0,1,2,3,4,5,6,7,8,9,10,11,12,13,14,15,16,17,18,19,20,21] Pp ?_;iterate 6 refine D1 O O ?_
   refine Ds 33 [_] O O O (fun τ h=>aC ⟨_,underlying4,O⟩ (Ee h 0 O O) (Eo h 0 O O) hset) O Pp ?_;iterate 15 refine D1 O O ?_
   refine ⟨Pp,?_⟩;refine Gc O O (fun hc48=>absurd hc48 Ps) (fun hc48=>?_);exact Il<|Z2 O O O<|⟨(j+1),Io (aS O) (aO O) O O,⟨Po,hzs⟩,Po⟩
 ·rw [a6 Pt] at hall;exact Gx O<|Z1 O O<|Gt O<|⟨[(6,.pv (.bool true))],o6N J W σ now mk mv,[.pv (.bool true)],Io (aS O) (aO O) O O,O,O,O,af (fun b=>V.pv (.bool b)) hall.symm,O⟩
end
section
open Mk Jn
abbrev o7N (J:JD) (W:WD) (σ:Asg ByteArray) (now:List ByteArray) (mk mv:List PV):List (Nat×Ob):=[(big,.mix 198 [.ptr 9001 0]),(9001,oN W 9005 9002 J.S.attrs.length 9003 9004),(9002,.cells 9 (aA now)),(9003,.cells 4 (ay (stL σ J.S.attrs.length))),(9004,.mp mk mv),(9005,oX2 J 9006),(9006,.mp J.pk J.pv)]
theorem sQ (J:JD) (hJ:JOk J) (W:WD) (σ:Asg ByteArray) (now:List ByteArray) (hn:NowOk J.S.attrs.length σ now) (mk mv:List PV) (r:Nat) (hr:r<J.S.rels.length) (x:Rw) (hx:x.v.length=J.S.rels[r].2.length):
  FnO prog 273 7 0 [.pv (sJ x),.ptr big 0,.pv (.rp [.int .i64 r] 0)] (o7N J W σ now mk mv) (fun v ob'=>v= .pv (.bool (agr J.S.rels[r].2 σ x.v))/\ob'=ar (o7N J W σ now mk mv)):=by
 refine FnO.of func273 O ntmps273 Ps fun m0 w0 F R0=>?_
 have hgo:=fq J hJ W σ now hn mk mv r hr x hx;generalize agr J.S.rels[r].2 σ x.v=b at*;refine Z2 O O O<|Gr O ?_;first | refine A1 O ?_ | refine A2 O Pr ?_
 first | refine A1 O ?_ | refine A2 O Pr ?_
 exact A1 O<|Rs 8 O O (ah [9001,9002,9003,9004,9005,9006] 1 call256 hgo O O O O ⟨O,O,O,O,O,O,Pw⟩ Pq O)<|A1 O<|Gt O<|⟨[(4,.pv (.bool b))],o7N J W σ now mk mv,[.pv (.bool b)],Io (aS O) (aO Pp) O O,O,O,O,O,O⟩
abbrev sm1N (r:Nat):V:= .fn (.func 273) [] [.ptr big 0,.pv (.rp [.int .i64 r] 0)]
theorem qc (J:JD) (hJ:JOk J) (W:WD) (σ:Asg ByteArray) (now:List ByteArray) (hn:NowOk J.S.attrs.length σ now) (mk mv:List PV) (r:Nat) (hr:r<J.S.rels.length) (l:List Rw) (hl:l.length<=1000) (hx:∀ x∈l,x.v.length=J.S.rels[r].2.length):
  ∃ i:Int,decide (i>=0)=l.any (fun x=>agr J.S.rels[r].2 σ x.v)/\FnO prog 109 7 0 [.pv (bL l),sm1N r] (o7N J W σ now mk mv) (fun v ob'=>v= .pv (.int .i64 i)/\ob'=ar (o7N J W σ now mk mv)):=by
 have hgo:∀ k (h:k<l.length),FnO prog 273 7 0 [.pv (sJ l[k]),.ptr big 0,.pv (.rp [.int .i64 r] 0)] (o7N J W σ now mk mv) (fun v ob'=>v= .pv (.bool (agr J.S.rels[r].2 σ l[k].v))/\ob'=ar (o7N J W σ now mk mv)):=fun k h=>sQ J hJ W σ now hn mk mv r hr l[k] (hx _ (aJ h))
 have hi:∃ i:Int,decide (i>=0)=l.any (fun x=>agr J.S.rels[r].2 σ x.v)/\((∀ k (h:k<l.length),agr J.S.rels[r].2 σ l[k].v=true->(∀ j (h:j<l.length),j<k->agr J.S.rels[r].2 σ l[j].v=false)->i=k)/\((∀ j (h:j<l.length),agr J.S.rels[r].2 σ l[j].v=false)->i= -1)):=jg l fun x=>agr J.S.rels[r].2 σ x.v
 obtain ⟨i,hi,hi1,hi2⟩:=hi;refine ⟨i,hi,?_⟩;refine FnO.of func109 O ntmps109 Ps fun m0 w0 F R0=>?_
 clear hi hJ hn hx;generalize J.S.rels[r].2=A at*;refine Z1 O O<|Z3 O O O O ?_;refine Gl O (st:=fun ac:Nat=>mkS [(0,.pv (bL l)),(1,sm1N r),(7,.pv (.int .i64 l.length)),(8,.pv (.int .i64 ac))] [(big,.mix 198 [.ptr 9001 0]),(9001,oN W 9005 9002 J.S.attrs.length 9003 9004),(9002,.cells 9 (aA now)),(9003,.cells 4 (ay (stL σ J.S.attrs.length))),(9004,.mp mk mv),(9005,oX2 J 9006),(9006,.mp J.pk J.pv)] 0)
  (I:=fun ac=>ac<=l.length/\∀ j (h:j<l.length),j<ac->agr A σ l[j].v=false) (μ:=fun ac=>l.length-ac) (x0:=(0)) (Io (aS O) (aO Pp) O O) (⟨bk _,fun _ _ h=>absurd h Po⟩) ?_
 rintro k ⟨hk,hno⟩;refine Z1 O O ?_;refine Gp O O (fun hc9=>?_) (fun hc9=>?_)
 ·have hlt:k<l.length:=Po;have hrw:=aN hlt;have hrn:=aW hlt;have hgk:=hgo k hlt;have hik:=hi1 k hlt;generalize hbk:agr A σ l[k].v=b at*;refine Il<|Z2 O O O<|Z4 O O O O O ?_;first | refine A3 O Pr ?_ | refine A1 O ?_
  refine Rs 16 O O (bJ [big,9001,9002,9003,9004,9005,9006] 0 call273 hgk O O O O O O ⟨O,O,O,O,O,O,O,Pw⟩ Pq O) ?_;refine Gc O O (fun hc16=>?_) (fun hc16=>?_)
  ·exact Z2 O O O<|Gt O<|⟨[(4,.pv (.int .i64 k))],o7N J W σ now mk mv,[.pv (.int .i64 k)],Io (aS O) (aO Pp) O O,O,O,O,by rw [hik hc16 hno];rfl,O⟩
  ·exact Il<|Z2 O O O<|⟨(k+1),Io (aS O) (aO Pp) O O,⟨Po,fun j h hj=>by rcases Me.1 hj with h1 | h1;exact hno j h h1;subst h1;exact hbk.trans hc16⟩,Po⟩
 ·have hm:=hi2 fun j h=>hno j h Po
  exact Gx O<|Z1 O O<|Gt O<|⟨[(4,.pv (.int .i64 (-1)))],o7N J W σ now mk mv,[.pv (.int .i64 (-1))],Io (aS O) (aO Pp) O O,O,O,O,by rw [hm];rfl,O⟩
theorem q8 (J:JD) (hJ:JOk J) (W:WD) (σ:Asg ByteArray) (now:List ByteArray) (hn:NowOk J.S.attrs.length σ now) (mk mv:List PV) (r:Nat) (hr:r<J.S.rels.length) (l:List Rw) (hl:l.length<=1000) (hx:∀ x∈l,x.v.length=J.S.rels[r].2.length):
  FnO prog 66 7 0 [.pv (bL l),sm1N r] (o7N J W σ now mk mv) (fun v ob'=>v= .pv (.bool (l.any fun x=>agr J.S.rels[r].2 σ x.v))/\ob'=ar (o7N J W σ now mk mv)):=by
 obtain ⟨i,hi,hgo⟩:=qc J hJ W σ now hn mk mv r hr l hl hx;refine FnO.of func66 O ntmps66 Ps fun m0 w0 F R0=>?_
 rw [<-hi];clear hi hJ hn hx;exact Z1 O O<|Z2 O O O<|Rs 7 O O (ah [big,9001,9002,9003,9004,9005,9006] 0 call109 hgo O O O O ⟨O,O,O,O,O,O,O,Pw⟩ Pq O)<|Y2 O O<|Gt O<|⟨[(4,.pv (.bool (decide (i>=0))))],o7N J W σ now mk mv,[.pv (.bool (decide (i>=0)))],Io (aS O) (aO Pp) O O,O,O,O,O,O⟩
theorem vB (J:JD) (hJ:JOk J) (W:WD) (σ:Asg ByteArray) (now:List ByteArray) (hn:NowOk J.S.attrs.length σ now) (mk mv:List PV) (r:Nat) (hr:r<J.S.rels.length):
  FnO prog 259 6 0 [.ptr big 0,.pv (.int .i64 r)] (o6N J W σ now mk mv) (fun v ob'=>v= .pv (.bool ((dh J r).any fun x=>agr (cy J r) σ x.v))/\ob'=ar (o6N J W σ now mk mv)):=by
 refine FnO.of func259 O ntmps259 Ps fun m0 w0 F R0=>?_
 have hrT:r<J.T.length:=by rw [hJ.n];exact hr
 have hgo:=q8 J hJ W σ now hn mk mv r hr J.T[r] (hJ.l _ (aJ hrT)) (hJ.v r hrT hr);rw [show dh J r=J.T[r] by simp [dh,List.getD,hrT],show cy J r=J.S.rels[r].2 by simp [cy,List.getD,hr]];have htr:=cD hrT;have htn:=dN hrT;have hTl:J.T.length<=1000:=by rw [hJ.n];exact hJ.s.r
 generalize J.S.rels[r].2=A at*;generalize J.T[r]=l at*;refine Z3 O O O O<|Im (St.fS 1 O O)<|Ge O follows [0,1,2,3,4,5,6,7,8,9,10,11,12] Pp ?_;iterate 8 refine D1 O O ?_
 refine Ds 13 [] O O O (fun τ h=>ag r underlying35 qk (Ee h 0 O O) (Ee h 1 O O) O hrT htn) O Pp<|Ds 14 [] O O O (fun τ h=>ai ⟨_,underlying38,O⟩ (Ee h 0 O O) htr) O Pp<|D1 O O<|Ds 16 [0,big,9001,9002,9003,9004,9005] O O O (fun τ h=>ah [0,big,9001,9002,9003,9004,9005] 2 call66 hgo (h.args.trans O) O O O ⟨(Eo h 0 O O),(Eo h 1 O O),(Eo h 2 O O),(Eo h 3 O O),(Eo h 4 O O),(Eo h 5 O O),(Eo h 6 O O),Pw⟩ Pq O) O Pp<|D1 O O ?_;refine ⟨Pp,?_⟩;exact Gt O<|⟨[(4,.pv (.bool (l.any fun x=>agr A σ x.v)))],o6N J W σ now mk mv,[.pv (.bool (l.any fun x=>agr A σ x.v))],Io (aS O) (aO Pp) O O,O,O,O,O,O⟩
end
section
open Mk Jn
theorem rj (J:JD) (hJ:JOk J) (W:WD) (σ:Asg ByteArray) (now:List ByteArray) (hn:NowOk J.S.attrs.length σ now) (mk mv:List PV) (r:Nat) (hr:r<J.S.rels.length):
  FnO prog 258 7 0 [.pv (.int .i64 r),.ptr big 0] (o7N J W σ now mk mv) (fun v ob'=>v= .pv (.bool !(Bd (RJ J) r σ))/\ob'=ar (o7N J W σ now mk mv)):=by
 refine FnO.of func258 O ntmps258 Ps fun m0 w0 F R0=>?_
 have hgo:=vB J hJ W σ now hn mk mv r hr;rw [<-oK] at hgo;generalize Bd (RJ J) r σ=b at*;refine Z1 O O<|Gr O ?_;first | refine A1 O ?_ | refine A2 O Pr ?_
 exact A1 O<|Rs 6 O O (ah [9001,9002,9003,9004,9005,9006] 0 call259 hgo O O O O ⟨O,O,O,O,O,O,Pw⟩ Pq O)<|Y2 O O<|Gt O<|⟨[(3,.pv (.bool !b))],o7N J W σ now mk mv,[.pv (.bool !b)],Io (aS O) (aO Pp) O O,O,O,O,O,O⟩
abbrev c11N:V:= .fn (.func 258) [] [.ptr big 0]
abbrev bI (rs:List Nat):List Int:=rs.map fun r:Nat=>(r:Int)
theorem qS (J:JD) (hJ:JOk J) (W:WD) (σ:Asg ByteArray) (now:List ByteArray) (hn:NowOk J.S.attrs.length σ now) (mk mv:List PV) (rs:List Nat) (hl:rs.length<=1000) (hr:∀ r∈rs,r<J.S.rels.length):
  FnO prog 152 7 0 [.pv (ak (bI rs)),c11N] (o7N J W σ now mk mv) (fun v ob'=>v= .pv (.bool (rs.any fun r=> !(Bd (RJ J) r σ)))/\ob'=ar (o7N J W σ now mk mv)):=by
 have hgo:∀ k (h:k<rs.length),FnO prog 258 7 0 [.pv (.int .i64 rs[k]),.ptr big 0] (o7N J W σ now mk mv) (fun v ob'=>v= .pv (.bool !(Bd (RJ J) rs[k] σ))/\ob'=ar (o7N J W σ now mk mv)):=fun k h=>rj J hJ W σ now hn mk mv rs[k] (hr _ (aJ h))
 obtain ⟨i,hi,hi1,hi2⟩:=jg rs fun r=> !(Bd (RJ J) r σ)
 clear hJ hn hr;have hidx:FnO prog 195 7 0 [.pv (ak (bI rs)),c11N] (o7N J W σ now mk mv) (fun v ob'=>v= .pv (.int .i64 i)/\ob'=ar (o7N J W σ now mk mv)):=by
  refine FnO.of func195 O ntmps195 Ps fun m0 w0 F R0=>?_
  clear hi;have hnl:(bI rs).length=rs.length:=by simp [bI]
  refine Z1 O O<|Z3 O O O O ?_;refine Gl O (st:=fun ac:Nat=>mkS [(0,.pv (ak (bI rs))),(1,c11N),(7,.pv (.int .i64 (bI rs).length)),(8,.pv (.int .i64 ac))] [(big,.mix 198 [.ptr 9001 0]),(9001,oN W 9005 9002 J.S.attrs.length 9003 9004),(9002,.cells 9 (aA now)),(9003,.cells 4 (ay (stL σ J.S.attrs.length))),(9004,.mp mk mv),(9005,oX2 J 9006),(9006,.mp J.pk J.pv)] 0)
   (I:=fun ac=>ac<=rs.length/\∀ j (h:j<rs.length),j<ac->(!(Bd (RJ J) rs[j] σ))=false) (μ:=fun ac=>rs.length-ac) (x0:=(0)) (Io (aS O) (aO Pp) O O) (⟨bk _,fun _ _ h=>absurd h Po⟩) ?_
  rintro k ⟨hk,hno⟩;refine Z1 O O ?_;refine Gp O O (fun hc9=>?_) (fun hc9=>?_)
  ·have hlt:k<rs.length:=Po;have hpv:(aE (bI rs))[k*1]? =some (.int .i64 ((rs[k]:Nat):Int)):=by simp [hlt]
   have hpn:=aH (l:=bI rs) (k:=k) Po;have hgk:=hgo k hlt;have hik:=hi1 k hlt;generalize hbk:Bd (RJ J) rs[k] σ=b at*;refine Il<|Z2 O O O<|Z4 O O O O O<|Rs 15 O O (ai ⟨_,underlying3,O⟩ O hpv)<|Rs 16 O O (bJ [big,9001,9002,9003,9004,9005,9006] 0 call258 hgk O O O O O O ⟨O,O,O,O,O,O,O,Pw⟩ Pq O) ?_;refine Gc O O (fun hc16=>?_) (fun hc16=>?_)
   ·exact Z2 O O O<|Gt O<|⟨[(4,.pv (.int .i64 k))],o7N J W σ now mk mv,[.pv (.int .i64 k)],Io (aS O) (aO Pp) O O,O,O,O,by rw [hik hc16 hno];rfl,O⟩
   ·exact Il<|Z2 O O O<|⟨(k+1),Io (aS O) (aO Pp) O O,⟨Po,fun j h hj=>by rcases Me.1 hj with h1 | h1;exact hno j h h1;subst h1;rw [hbk];exact hc16⟩,Po⟩
  ·have hm:=hi2 fun j h=>hno j h Po
   exact Gx O<|Z1 O O<|Gt O<|⟨[(4,.pv (.int .i64 (-1)))],o7N J W σ now mk mv,[.pv (.int .i64 (-1))],Io (aS O) (aO Pp) O O,O,O,O,by rw [hm];rfl,O⟩
 refine FnO.of func152 O ntmps152 Ps fun m0 w0 F R0=>?_
 rw [<-hi];clear hi hgo hi1 hi2;exact Z1 O O<|Z2 O O O<|Rs 7 O O (ah [big,9001,9002,9003,9004,9005,9006] 0 call195 hidx O O O O ⟨O,O,O,O,O,O,O,Pw⟩ Pq O)<|Y2 O O<|Gt O<|⟨[(4,.pv (.bool (decide (i>=0))))],o7N J W σ now mk mv,[.pv (.bool (decide (i>=0)))],Io (aS O) (aO Pp) O O,O,O,O,O,O⟩
theorem Jo (J:JD) (hJ:JOk J) (W:WD) (σ:Asg ByteArray) (now:List ByteArray) (hn:NowOk J.S.attrs.length σ now) (mk mv:List PV) (a:Nat) (ha:a<J.S.attrs.length) (hσ:σ (a:Int)=none) (rs:List Nat) (hl:rs.length<=1000) (hr:∀ r∈rs,r<J.S.rels.length) (x:ByteArray):
  FnO prog 257 7 0 [.pv (.str x),.ptr big 0,.pv (.rp [.int .i64 a] 0),.pv (.rp [ak (bI rs)] 0)] (o7N J W σ now mk mv) (fun v ob'=>v= .pv (.bool (rs.any fun r=> !(Bd (RJ J) r (put σ a x))))/\ob'=ar (o7N J W σ (now.set a x) mk mv)):=by
 refine FnO.of func257 O ntmps257 Ps fun m0 w0 F R0=>?_
 have hgo:=qS J hJ W (put σ a x) (now.set a x) (hn.put ha x) mk mv rs hl hr;generalize (rs.any fun r=> !(Bd (RJ J) r (put σ a x)))=b at*;have hnl:(aA now).length=J.S.attrs.length:=by rw [xT,hn.l]
 have hsl:(ay (stL σ J.S.attrs.length)).length=J.S.attrs.length:=by rw [xT,cK]
 have hsl2:(ay (stL (put σ a x) J.S.attrs.length)).length=J.S.attrs.length:=by rw [xT,cK]
 have h1:=ix (l:=now) (a:=a) x;have h2:=kZ (σ:=σ) ha x;have h3:(ay (stL (put σ a x) J.S.attrs.length)).set (a*1) (.bool false)=ay (stL σ J.S.attrs.length):=by rw [qO ha,cO hσ]
 clear hJ hn hr;refine Z1 O O<|Ge O follows [0,1,2,3,4,5,6,7,8,9,10,11,12,13,14] Pp ?_;first | refine D1 O O ?_ | refine D2 O O Pr ?_
 iterate 3 refine D1 O O ?_
 first | refine D1 O O ?_ | refine D2 O O Pr ?_
 first | refine D1 O O ?_ | refine D2 O O Pr ?_
 iterate 3 refine D1 O O ?_
 first | refine D1 O O ?_ | refine D2 O O Pr ?_
 refine D1 O O<|Ds 18 [_] O O O (fun τ h=>aa a underlying47 sz9 (Ee h 0 O O) (Eo h 0 O O) (Ee h 1 O O) O Po) O Pp<|DL.step (d:=none) [_] O O O (fun τ h=>aF sz9 (Ee h 0 O O) (Eo h 0 O O) (Ee h 1 O O) O Po) O Pp<|Ds 19 [_] O O O (fun τ h=>aa a underlying115 sz4 (Ee h 0 O O) (Eo h 0 O O) (Ee h 1 O O) O Po) O Pp<|DL.step (d:=none) [_] O O O (fun τ h=>aF sz4 (Ee h 0 O O) (Eo h 0 O O) (Ee h 1 O O) O Po) O Pp ?_;refine ⟨Pp,?_⟩;refine Im (Io (l:=[(1,.ptr big 0),(2,.pv (.rp [.int .i64 a] 0)),(3,.pv (.rp [ak (bI rs)] 0))]) (os:=o7N J W (put σ a x) (now.set a x) mk mv) (k:=0) (aS O) ⟨O,O,af (fun c=>some (Ob.cells 9 c)) h1,af (fun c=>some (Ob.cells 4 c)) h2,O,O,O,Pw⟩ O O)<|Gr O ?_;first | refine A1 O ?_ | refine A2 O Pr ?_
 refine A1 O<|Rs 22 O O (ah [big,9001,9002,9003,9004,9005,9006] 0 call152 hgo O O O O ⟨O,O,O,O,O,O,O,Pw⟩ Pq O)<|A1 O<|Im (Io (l:=[(1,.ptr big 0),(2,.pv (.rp [.int .i64 a] 0)),(6,.pv (.bool b))]) (os:=o7N J W (put σ a x) (now.set a x) mk mv) (k:=0) (aS O) (aO Pp) O O)<|Ge O follows [0,1,2,3,4,5,6] Pp ?_;first | refine D1 O O ?_ | refine D2 O O Pr ?_
 iterate 3 refine D1 O O ?_
 first | refine D1 O O ?_ | refine D2 O O Pr ?_
 refine Ds 28 [_] O O O (fun τ h=>aa a underlying115 sz4 (Ee h 0 O O) (Eo h 0 O O) (Ee h 1 O O) O Po) O Pp<|DL.step (d:=none) [_] O O O (fun τ h=>aF sz4 (Ee h 0 O O) (Eo h 0 O O) (Ee h 1 O O) O Po) O Pp ?_;refine ⟨Pp,?_⟩;exact Z2 O O O<|Gt O<|⟨[(5,.pv (.bool b))],o7N J W σ (now.set a x) mk mv,[.pv (.bool b)],Io (aS O) ⟨Pp,Pp,Pp,af (fun c=>some (Ob.cells 4 c)) h3,Pp,Pp,Pp,Pw⟩ O O,O,O,O,O,O⟩
end
section
open Mk Jn
abbrev o8N (J:JD) (W:WD) (q:List ByteArray) (σ:Asg ByteArray) (now:List ByteArray) (mk mv:List PV):List (Nat×Ob):=[(big,cB q),(9001,.mix 198 [.ptr 9002 0]),(9002,oN W 9006 9003 J.S.attrs.length 9004 9005),(9003,.cells 9 (aA now)),(9004,.cells 4 (ay (stL σ J.S.attrs.length))),(9005,.mp mk mv),(9006,oX2 J 9007),(9007,.mp J.pk J.pv)]
abbrev c1N (a:Nat) (rs:List Nat):V:= .fn (.func 257) [] [.ptr 9001 0,.pv (.rp [.int .i64 a] 0),.pv (.rp [ak (bI rs)] 0)]
theorem qo (J:JD) (hJ:JOk J) (W:WD) (σ:Asg ByteArray) (now:List ByteArray) (hn:NowOk J.S.attrs.length σ now) (mk mv:List PV) (a:Nat) (ha:a<J.S.attrs.length) (hσ:σ (a:Int)=none) (rs:List Nat) (hl:rs.length<=1000) (hr:∀ r∈rs,r<J.S.rels.length) (l:List ByteArray) (n:Nat) (hln:l.length=n) (hn1:n<=1000) (i:Int)
  (hi1:∀ k (h:k<l.length),dS J rs σ a l[k]=true->(∀ j (h:j<l.length),j<k->dS J rs σ a l[j]=false)->i=k) (hi2:(∀ j (h:j<l.length),dS J rs σ a l[j]=false)->i= -1):
  FnO prog 194 8 0 [.osl big 1 n,c1N a rs] (o8N J W l σ now mk mv) (fun v ob'=>v= .pv (.int .i64 i)/\ob'=ar (o8N J W l σ (tst now a (l.take (if i<0 then n else i.toNat+1))) mk mv)):=by
 refine FnO.of func194 O ntmps194 Ps fun m0 w0 F R0=>?_
 refine Z1 O O<|Z3 O O O O ?_;refine Gl O (st:=fun ac:Nat=>mkS [(0,.osl big 1 n),(1,c1N a rs),(7,.pv (.int .i64 n)),(8,.pv (.int .i64 ac))] [(big,cB l),(9001,.mix 198 [.ptr 9002 0]),(9002,oN W 9006 9003 J.S.attrs.length 9004 9005),(9003,.cells 9 (aA (tst now a (l.take ac)))),(9004,.cells 4 (ay (stL σ J.S.attrs.length))),(9005,.mp mk mv),(9006,oX2 J 9007),(9007,.mp J.pk J.pv)] 0)
  (I:=fun ac=>ac<=n/\∀ j (h:j<l.length),j<ac->dS J rs σ a l[j]=false) (μ:=fun ac=>n-ac) (x0:=(0)) (Io (aS O) (aO Pp) O O) (⟨bk _,fun _ _ h=>absurd h Po⟩) ?_
 rintro k ⟨hk,hno⟩;refine Z1 O O ?_;refine Gp O O (fun hc9=>?_) (fun hc9=>?_)
 ·have hlt:k<l.length:=Po;have hv:=aM hlt;have hgk:=Jo J hJ W σ (tst now a (l.take k)) (ki hn ha hσ _) mk mv a ha hσ rs hl hr l[k];rw [jJ hlt] at hgk;have hik:=hi1 k hlt;rw [show (rs.any fun r=> !(Bd (RJ J) r (put σ a l[k])))=dS J rs σ a l[k] from O] at hgk;generalize hbk:dS J rs σ a l[k]=b at*;refine Il<|Z2 O O O<|Z3 O O O O<|Rs 14 O O (aa k underlying47 sz9 O O O O Po)<|Rs 15 O O (aC ⟨_,underlying9,O⟩ O O hv)<|Rs 16 O O (bJ [9001,9002,9003,9004,9005,9006,9007] 0 call257 hgk O O O O O O ⟨O,O,O,O,O,O,O,Pw⟩ Pq O) ?_;refine Gc O O (fun hc16=>?_) (fun hc16=>?_)
  ·exact Z2 O O O<|Gt O<|⟨[(4,.pv (.int .i64 k))],o8N J W l σ (tst now a (l.take (k+1))) mk mv,[.pv (.int .i64 k)],Io (aS O) (aO Pp) O O,O,O,O,by rw [hik hc16 hno];rfl,by rw [hik hc16 hno,kH Po];rfl⟩
  ·exact Il<|Z2 O O O<|⟨(k+1),Io (aS O) (aO Pp) O O,⟨Po,fun j h hj=>by rcases Me.1 hj with h1 | h1;exact hno j h h1;subst h1;rw [hbk];exact hc16⟩,Po⟩
 ·have hm:=hi2 fun j h=>hno j h Po
  obtain rfl:n=k:=Po;exact Gx O<|Z1 O O<|Gt O<|⟨[(4,.pv (.int .i64 (-1)))],o8N J W l σ (tst now a (l.take n)) mk mv,[.pv (.int .i64 (-1))],Io (aS O) (aO Pp) O O,O,O,O,by rw [hm];rfl,by rw [hm];rfl⟩
theorem pO (J:JD) (hJ:JOk J) (W:WD) (σ:Asg ByteArray) (now:List ByteArray) (hn:NowOk J.S.attrs.length σ now) (mk mv:List PV) (a:Nat) (ha:a<J.S.attrs.length) (hσ:σ (a:Int)=none) (rs:List Nat) (hl:rs.length<=1000) (hr:∀ r∈rs,r<J.S.rels.length) (l:List ByteArray) (n:Nat) (hln:l.length=n) (hn1:n<=1000):
  FnO prog 150 8 0 [.osl big 1 n,c1N a rs] (o8N J W l σ now mk mv) (fun v ob'=>v= .osl big 1 (l.filter fun x=> !dS J rs σ a x).length/\ob'=ar (o8N J W (l.filter fun x=> !dS J rs σ a x) σ (tst now a l) mk mv)):=by
 obtain ⟨i,hi,hi1,hi2⟩:=jg l (dS J rs σ a);obtain ⟨hia,hib⟩:=sH hi hi1 hi2;have hidx:=qo J hJ W σ now hn mk mv a ha hσ rs hl hr l n hln hn1 i hi1 hi2;refine FnO.of func150 O ntmps150 Ps fun m0 w0 F R0=>?_
 clear hi hi1 hi2;refine Z1 O O<|Z2 O O O<|Rs 10 O O (ah [big,9001,9002,9003,9004,9005,9006,9007] 0 call194 hidx O O O O ⟨O,O,O,O,O,O,O,O,Pw⟩ Pq O)<|A1 O<|Z2 O O O ?_;refine Gc O O (fun hc12=>?_) (fun hc12=>?_)
 ·have hie:i= -1:=by simpa using hc12
  have hf:(l.filter fun x=> !dS J rs σ a x)=l:=O8.2 fun x hx=>by rw [hia hie x hx];rfl
  exact Z2 O O O<|Gt O<|⟨[(4,.osl big 1 n)],o8N J W l σ (tst now a l) mk mv,[.osl big 1 n],Io (aS O) ⟨Pp,Pp,Pp,IN (b:=some (Ob.cells 9 (aA (tst now a (l.take (if i<0 then n else i.toNat+1)))))) Pp (by rw [hie,qY Pq,a6 Po]),Pp,Pp,Pp,Pp,Pw⟩ O O,O,O,O,by rw [hf,hln];rfl,by rw [hf]⟩
 ·have hne:¬ i= -1:=by intro e;rw [e] at hc12;simp at hc12
  obtain ⟨i0,rfl,hi0,hft⟩:=hib hne;refine Il<|Z3 O O O O ?_;refine Gl O (st:=fun ac:Nat×Nat×List ByteArray=>mkS [(0,.osl big 1 n),(1,c1N a rs),(5,.pv (.int .i64 ac.2.1)),(6,.pv (.int .i64 ac.1))] [(big,cB ac.2.2),(9001,.mix 198 [.ptr 9002 0]),(9002,oN W 9006 9003 J.S.attrs.length 9004 9005),(9003,.cells 9 (aA (tst now a (l.take ac.1)))),(9004,.cells 4 (ay (stL σ J.S.attrs.length))),(9005,.mp mk mv),(9006,oX2 J 9007),(9007,.mp J.pk J.pv)] 0)
   (I:=fun ac=>((ac.1<=n/\ac.2.1<ac.1)/\ac.2.2.length=n)/\(ac.2.2.drop ac.1=l.drop ac.1/\ac.2.2.take ac.2.1=(l.take ac.1).filter fun x=> !dS J rs σ a x)/\ac.2.1=((l.take ac.1).filter fun x=> !dS J rs σ a x).length) (μ:=fun ac=>n-ac.1) (x0:=(i0+1,i0,l)) (Io (aS O) ⟨Pp,Pp,Pp,IN (b:=some (Ob.cells 9 (aA (tst now a (l.take (if (i0:Int)<0 then n else (i0:Int).toNat+1)))))) Pp (by rw [kH Po];rfl),Pp,Pp,Pp,Pp,Pw⟩ O O) (⟨⟨⟨Pv,Pv⟩,hln⟩,⟨O,by simp only;rw [hft]⟩,by simp only;rw [hft,AI];omega⟩) ?_
  rintro ⟨k,m,q⟩ ⟨⟨⟨hk,hmk⟩,hql⟩,⟨hqd,hqt⟩,hme⟩;try simp only at hk hmk hql hqd hqt hme ⊢
  have hqln:(aA q).length=n:=by rw [xT,hql]
  refine Z4 O O O O O ?_;refine Gp O O (fun hc19=>?_) (fun hc19=>?_)
  ·have hlt:k<l.length:=Po;have hq0:q[k]'Po=l[k]:=by have:=af (fun z=>z[0]?) hqd;simp only [MA,Ny] at this;rw [kJ Po,kJ hlt] at this;exact Nq this
   have hv:(aA q)[k*1]? =some (.str l[k]):=by rw [Mi,Nf,kJ Po,hq0];rfl
   have hgk:=Jo J hJ W σ (tst now a (l.take k)) (ki hn ha hσ _) mk mv a ha hσ rs hl hr l[k];rw [jJ hlt] at hgk;rw [show (rs.any fun r=> !(Bd (RJ J) r (put σ a l[k])))=dS J rs σ a l[k] from O] at hgk;have hdrop:q.drop (k+1)=l.drop (k+1):=by have:=af (fun z=>z.drop 1) hqd;simpa only [List.drop_drop] using this
   have hfs:(l.take (k+1)).filter (fun x=> !dS J rs σ a x)=(l.take k).filter (fun x=> !dS J rs σ a x)++if dS J rs σ a l[k]=true then [] else [l[k]]:=by rw [aR hlt];exact kR _ _ _
   generalize hbk:dS J rs σ a l[k]=b at*;refine Il<|Z2 O O O<|Rs 24 O O (aa k underlying47 sz9 O O O O Po)<|Rs 25 O O (aC ⟨_,underlying9,O⟩ O O hv)<|A1 O<|Z2 O O O<|Rs 28 O O (bJ [9001,9002,9003,9004,9005,9006,9007] 0 call257 hgk O O O O O O ⟨O,O,O,O,O,O,O,Pw⟩ Pq O)<|A1 O ?_;refine Gc O O (fun hc29=>?_) (fun hc29=>?_)
   ·exact Z3 O O O O<|Rs 33 O O (aa m underlying47 sz9 O O O O Po)<|RL.step (d:=none) O O (aF sz9 O O O O Po)<|Z3 O O O O<|Z3 O O O O<|⟨(k+1,m+1,q.set m l[k]),Io (aS O) ⟨IN (b:=some (Ob.cells 9 ((aA q).set (m*1) (.str l[k])))) Pp (af (fun c=>some (Ob.cells 9 c)) (jS l[k])),Pp,Pp,Pp,Pp,Pp,Pp,Pp,Pw⟩ O O,⟨⟨⟨Pv,Pv⟩,by simp only [Md];exact hql⟩,⟨by simp only;rw [List.drop_set_of_lt Po];exact hdrop,by simp only;rw [hfs,kH (by intro e;rw [e] at hc29;simp at hc29),<-hqt];exact du Po⟩,by simp only;rw [hfs,kH (by intro e;rw [e] at hc29;simp at hc29),kQ,<-hme];rfl⟩,Pv⟩
   ·exact Il<|Z3 O O O O<|⟨(k+1,m,q),Io (aS O) (aO Pp) O O,⟨⟨⟨Pv,Pv⟩,hql⟩,⟨hdrop,by simp only;rw [hfs,qY (by simpa using hc29),MN];exact hqt⟩,by simp only;rw [hfs,qY (by simpa using hc29),MN];exact hme⟩,Pv⟩
  ·have hkn:l.take k=l:=a6 Po;rw [hkn] at hqt hme;have hfin:(aA q).take (m*1)=aA (l.filter fun x=> !dS J rs σ a x):=by rw [Mi,<-List.map_take,hqt]
   exact Gx O<|Z2 O O O<|Rs 38 O O (dK m underlying47 sz9 O O O O Po)<|RL.step (d:=none) O O (kn uq O O O Po)<|Z2 O O O<|Rs 41 O O (dC m underlying47 sz9 O O O O Po)<|A1 O<|Gt O<|⟨[(4,.osl big 1 m)],o8N J W (l.filter fun x=> !dS J rs σ a x) σ (tst now a l) mk mv,[.osl big 1 m],Io (aS O) ⟨IN (b:=some (Ob.cells 9 ((aA q).take (m*1)))) Pp (af (fun c=>some (Ob.cells 9 c)) hfin),Pp,Pp,IN (b:=some (Ob.cells 9 (aA (tst now a (l.take k))))) Pp (by rw [hkn]),Pp,Pp,Pp,Pp,Pw⟩ O O,O,O,O,by rw [hme];rfl,O⟩
end
section
open Mk Jn
theorem wS (J:JD) (W:WD) (σ:Asg ByteArray) (now:List ByteArray) (mk mv:List PV) (a:Nat) (rs:List Nat):
  FnO prog 194 7 0 [.pv (aI []),.fn (.func 257) [] [.ptr big 0,.pv (.rp [.int .i64 a] 0),.pv (.rp [ak (bI rs)] 0)]] (o7N J W σ now mk mv) (fun v ob'=>v= .pv (.int .i64 (-1))/\ob'=ar (o7N J W σ now mk mv)):=by
 refine FnO.of func194 O ntmps194 Ps fun m0 w0 F R0=>?_
 refine Z1 O O<|Z3 O O O O ?_;refine Gl O (st:=fun ac:Unit=>mkS [(0,.pv (aI [])),(1,.fn (.func 257) [] [.ptr big 0,.pv (.rp [.int .i64 a] 0),.pv (.rp [ak (bI rs)] 0)]),(7,.pv (.int .i64 0)),(8,.pv (.int .i64 0))] [(big,.mix 198 [.ptr 9001 0]),(9001,oN W 9005 9002 J.S.attrs.length 9003 9004),(9002,.cells 9 (aA now)),(9003,.cells 4 (ay (stL σ J.S.attrs.length))),(9004,.mp mk mv),(9005,oX2 J 9006),(9006,.mp J.pk J.pv)] 0)
  (I:=fun ac=>True) (μ:=fun ac=>0) (x0:=(())) (Io (aS O) (aO O) O O) (trivial) ?_
 rintro u hI;refine Z1 O O ?_;refine Gp O O (fun hc9=>absurd hc9 Po) (fun hc9=>?_);exact Gx O<|Z1 O O<|Gt O<|⟨[(4,.pv (.int .i64 (-1)))],o7N J W σ now mk mv,[.pv (.int .i64 (-1))],Io (aS O) (aO Pp) O O,O,O,O,O,O⟩
theorem vy (J:JD) (W:WD) (σ:Asg ByteArray) (now:List ByteArray) (mk mv:List PV) (a:Nat) (rs:List Nat):
  FnO prog 150 7 0 [.pv (aI []),.fn (.func 257) [] [.ptr big 0,.pv (.rp [.int .i64 a] 0),.pv (.rp [ak (bI rs)] 0)]] (o7N J W σ now mk mv) (fun v ob'=>v= .pv (aI [])/\ob'=ar (o7N J W σ now mk mv)):=by
 refine FnO.of func150 O ntmps150 Ps fun m0 w0 F R0=>?_
 have hgo:=wS J W σ now mk mv a rs;refine Z1 O O<|Z2 O O O<|Rs 10 O O (ah [big,9001,9002,9003,9004,9005,9006] 0 call194 hgo O O O O ⟨O,O,O,O,O,O,O,Pw⟩ Pq O)<|A1 O<|Z2 O O O ?_;refine Gc O O (fun hc12=>?_) (fun hc12=>absurd hc12 (by simp at hc12));exact Z2 O O O<|Gt O<|⟨[(4,.pv (aI []))],o7N J W σ now mk mv,[.pv (aI [])],Io (aS O) (aO Pp) O O,O,O,O,O,O⟩
theorem wJ (J:JD) (hJ:JOk J) (hJ12:∀ l∈J.T,l.length<=12) (W:WD) (σ:Asg ByteArray) (now:List ByteArray) (hn:NowOk J.S.attrs.length σ now) (mk mv:List PV) (a:Nat) (ha:a<J.S.attrs.length) (hσ:σ (a:Int)=none) (hw:bw (RJ J) a≠[]):
  FnO prog 227 6 0 [.ptr big 0,.pv (.int .i64 a)] (o6N J W σ now mk mv) (fun v ob'=>v= .pv (aI (bC (RJ J) sdS a σ))/\ob'=ar (o6N J W σ (tst now a (jx J a σ)) mk mv)):=by
 refine FnO.of func227 O ntmps227 Ps fun m0 w0 F R0=>?_
 have hS:=hJ.s;have hSr:=hS.r;obtain ⟨f,rest,hwf⟩:∃ f rest,bw (RJ J) a=f::rest:=by cases h:bw (RJ J) a with | nil=>exact absurd h hw | cons f rest=>exact ⟨f,rest,rfl⟩
 have hcv:=re J a σ hσ hwf (uK hJ f);have hcl:jx J a σ=sdS (xf J f a σ):=by unfold jx;rw [hwf]
 have hwm:=kA J a;have hff:=hwm f (by rw [hwf];simp);have hfr:=hff.1;have hrsl:(bw (RJ J) a).length<=1000:=AT (Mn ..) (by simp [RJ];omega);have hrs:∀ r∈bw (RJ J) a,r<J.S.rels.length:=fun r hr=>(hwm r hr).1
 have hq0:(aE (bI (bw (RJ J) a)))[0]? =some (.int .i64 (f:Int)):=by rw [hwf];rfl
 have hqn:aE (bI (bw (RJ J) a))≠[]:=by rw [hwf];simp
 have hql:0<(bI (bw (RJ J) a)).length:=by rw [hwf];simp
 have hrne:=ew hfr;have hra:(bj J.S.rels)[f*2+1]? =some (ak J.S.rels[f].2):=by
  have h2:(((bj J.S.rels).drop (f*2)).take 2)[1]? =[PV.str J.S.rels[f].1,ak J.S.rels[f].2][1]? :=by rw [cW hfr]
  simpa [Ma,MA] using h2
 have hrl:=hS.l _ (aJ hfr);have hfT:f<J.T.length:=by rw [hJ.n];exact hfr
 have htr:=cD hfT;have htn:=dN hfT;have hTl:J.T[f].length<=12:=hJ12 _ (aJ hfT);have hxv:=hJ.v f hfT hfr;have hidx:=qb J.S.rels[f].2 a Po (by rw [<-show cy J f=J.S.rels[f].2 by simp [cy,List.getD,hfr]];exact hff.2);have hat:(J.S.rels[f].2).idxOf (a:Int)<J.S.rels[f].2.length:=NH (by rw [<-show cy J f=J.S.rels[f].2 by simp [cy,List.getD,hfr]];exact hff.2);have hraw:xf J f a σ=(J.T[f].filter fun x=>agr J.S.rels[f].2 σ x.v).map fun x=>x.v.getD ((J.S.rels[f].2).idxOf (a:Int)) eb:=by unfold xf;rw [show cy J f=J.S.rels[f].2 by simp [cy,List.getD,hfr],show dh J f=J.T[f] by simp [dh,List.getD,hfT]]
 have hagr:∀ k (h:k<J.T[f].length),FnO prog 256 6 0 [.ptr big 0,.pv (.int .i64 f),.pv (sJ J.T[f][k])] (o6N J W σ now mk mv) (fun v ob'=>v= .pv (.bool (agr J.S.rels[f].2 σ J.T[f][k].v))/\ob'=ar (o6N J W σ now mk mv)):=fun k h=>fq J hJ W σ now hn mk mv f hfr J.T[f][k] (hxv _ (aJ h))
 have hdel:=fun (l:List ByteArray) (n:Nat) (h1:l.length=n) (h2:n<=1000)=>pO J hJ W σ now hn mk mv a ha hσ (bw (RJ J) a) hrsl hrs l n h1 h2
 have hdel0:=vy J W σ now mk mv a (bw (RJ J) a);have hwt:=mM J a;rw [hcl,hcv];clear hcl hcv hwm hff hrs hrsl hw hn;generalize J.T[f]=tf at*;generalize J.S.rels[f].2=A at*;generalize hrsg:bw (RJ J) (a:Int)=rs at*;refine Z3 O O O O<|Z1 O O<|Im (St.er 2 0 3 1 3 O O O)<|Gr O ?_;iterate 10 refine A1 O ?_
 refine Gl O (st:=fun ac:Nat×List Nat=>mkS [(2,.ptr 0 0),(3,.ptr 1 0),(5,.ptr 2 0),(22,.pv (.sl none J.S.rels.length (bj J.S.rels))),(23,.pv (.int .i64 J.S.rels.length)),(24,.pv (.int .i64 ac.1))] [(big,oN W 9004 9001 J.S.attrs.length 9002 9003),(0,.mix 198 [.ptr big 0]),(1,.mix 3 [.pv (.int .i64 a)]),(2,.mix 22 [.gsl 3 1 ac.2.length]),(3,.gro 3 (aE (bI ac.2))),(9001,.cells 9 (aA now)),(9002,.cells 4 (ay (stL σ J.S.attrs.length))),(9003,.mp mk mv),(9004,oX2 J 9005),(9005,.mp J.pk J.pv)] 4)
  (I:=fun ac=>(ac.1<=J.S.rels.length/\ac.2.length<=ac.1)/\ac.2=r4 J a ac.1) (μ:=fun ac=>J.S.rels.length-ac.1) (x0:=(0,[])) (Io (aS O) (aO Pp) O O) (⟨⟨bk _,xV _⟩,O⟩) ?_
 rintro ⟨k,q⟩ ⟨⟨hk,hqk⟩,hqe⟩;try simp only at hk hqk hqe ⊢
 refine Z1 O O ?_;refine Gp O O (fun hc25=>?_) (fun hc25=>?_)
 ·have hlt:k<J.S.rels.length:=Po;have hrow:=cW hlt;have hne:=ew hlt;have hkl:=hS.l _ (aJ hlt);have hws:=mD J a hlt;generalize J.S.rels[k]=rk at*;refine Il<|Z2 O O O ?_;first | refine A3 O Pr ?_ | refine A1 O ?_
  refine Y3 O O O<|Z3 O O O O<|Rs 32 O O (ae call146 (gY rk.2 a Po) O) ?_;refine Gc O O (fun hc32=>?_) (fun hc32=>?_)
  ·refine Gr O ?_;iterate 5 refine A1 O ?_
   exact Z2 O O O<|⟨(k+1,q++[k]),Ip [0,1,2,6] (aT O) ⟨Pp,Pp,Pp,IN (b:=some (.mix 22 [.gsl 6 1 (q.length+1)])) Pp (af (fun n=>some (Ob.mix 22 [.gsl 6 1 n])) (bW q k)),IN (b:=some (.gro 3 (aE (bI q)++[.int .i64 k]))) Pp (af (fun c=>some (Ob.gro 3 c)) Ps),Pp,Pp,Pp,Pp,Pp,Pw⟩ O O Pq O,⟨⟨Pv,by simp only [kQ,L8];omega⟩,by simp only;rw [hws,qY (Ng hc32),hqe]⟩,Pv⟩
  ·exact Il<|Z2 O O O<|⟨(k+1,q),Io (aS O) (aO Pp) O O,⟨⟨Pv,Pv⟩,by simp only;rw [hws,kH (NM hc32),MN,hqe]⟩,Pv⟩
 ·have hqrs:q=rs:=by rw [hqe,show k=J.S.rels.length by omega,hwt]
  subst hqrs;refine Im (Ir 3 O O)<|Im (St.fS 2 O O)<|Im (St.fS 1 O O)<|Im (Io (l:=[(2,.ptr 0 0),(3,.pv (.rp [.int .i64 a] 0)),(5,.pv (.rp [ak (bI q)] 0))]) (os:=(0,.mix 198 [.ptr big 0])::o6N J W σ now mk mv) (k:=1) ⟨Pp,Pp,IN (b:= .pv (.rp [.sl none q.length (aE (bI q))] 0)) Pp (af (fun n=>V.pv (.rp [.sl none n (aE (bI q))] 0)) (show q.length=(bI q).length by simp)),Pw⟩ (aO Pp) O O) ?_;refine Gx O<|Z1 O O<|Rs 39 O O (ag 0 underlying22 sz3 O O O hql hqn)<|Rs 40 O O (ai ⟨_,underlying3,O⟩ O hq0)<|A1 O<|Ge O follows [0,1,2,3,4,5,6,7,8,9,10,11,12,13,14] Pp ?_;iterate 9 refine D1 O O ?_
  refine Ds 50 [] O O O (fun τ h=>ag f underlying31 Eu (Ee h 0 O O) (Ee h 1 O O) O hfr hrne) O Pp<|D1 O O<|Ds 52 [] O O O (fun τ h=>ai ⟨_,underlying22,O⟩ (Ee h 0 O O) hra) O Pp<|D1 O O<|Ds 54 [] O O O (fun τ h=>ae call147 hidx (h.bt O)) O Pp<|D1 O O ?_;refine ⟨Pp,?_⟩;refine Z1 O O<|Im (Iu 10 1 1 9 O O)<|Gr O ?_;iterate 8 refine A1 O ?_
  refine Rs 63 O O (ag f underlying35 qk O O O hfT htn)<|Rs 64 O O (ai ⟨_,underlying38,O⟩ O htr)<|Y2 O O ?_;refine Gl O (st:=fun x_1:Nat×List ByteArray=>mkS [(2,.ptr 0 0),(3,.pv (.rp [.int .i64 a] 0)),(5,.pv (.rp [ak (bI q)] 0)),(8,.pv (.int .i64 f)),(9,.pv (.int .i64 ((A.idxOf (a:Int):Nat):Int))),(10,.gsl 1 1 x_1.2.length),(64,.pv (bL tf)),(65,.pv (.int .i64 tf.length)),(66,.pv (.int .i64 x_1.1))] [(big,oN W 9004 9001 J.S.attrs.length 9002 9003),(0,.mix 198 [.ptr big 0]),(1,.gro 9 (aA x_1.2)),(9001,.cells 9 (aA now)),(9002,.cells 4 (ay (stL σ J.S.attrs.length))),(9003,.mp mk mv),(9004,oX2 J 9005),(9005,.mp J.pk J.pv)] 2)
   (I:=fun x_1=>(x_1.1<=tf.length/\x_1.2.length<=x_1.1)/\x_1.2=((tf.take x_1.1).filter fun x=>agr A σ x.v).map fun x=>x.v.getD (A.idxOf (a:Int)) eb) (μ:=fun x_1=>tf.length-x_1.1) (x0:=(0,[])) (Io (aS O) (aO Pp) O O) (⟨⟨bk _,xV _⟩,O⟩) ?_
  rintro ⟨k2,q2⟩ ⟨⟨hk2,hqk2⟩,hqe2⟩;try simp only at hk2 hqk2 hqe2 ⊢
  refine Z1 O O ?_;refine Gp O O (fun hc67=>?_) (fun hc67=>?_)
  ·have hlt2:k2<tf.length:=Po;have hrw:=aN hlt2;have hrn:=aW hlt2;have hga:=hagr k2 hlt2;have hxl:=hxv _ (aJ hlt2);have htk2:=aR hlt2;generalize tf[k2]=x at*;have hix:A.idxOf (a:Int)<x.v.length:=Po;have hvx:(aA x.v)[A.idxOf (a:Int)*1]? =some (.str (x.v.getD (A.idxOf (a:Int)) eb)):=by simp [List.getD,hix]
   have hxn:=bc hix;refine Il<|Z1 O O ?_;first | refine A3 O Pr ?_ | refine A1 O ?_
   refine Y2 O O<|Ge O follows [0,1,2,3,4,5,6,7,8,9,10] Pp ?_;iterate 5 refine D1 O O ?_
   refine Ds 76 [] O O O (fun τ h=>cg (zp:= .str ByteArray.empty) underlying152 underlying3 (.inr (.inr ⟨(Ee h 0 O O),O,O⟩)) (Ee h 1 O O) O Ic O (r:=none) O O O) O Pp ?_;iterate 5 refine D1 O O ?_
   refine ⟨Pp,?_⟩;by_cases hag:agr A σ x.v=true
   ·rw [hag] at hga;refine Z3 O O O O<|Rs 82 O O (ah [big,9001,9002,9003,9004,9005] 0 call256 hga O O O O ⟨O,O,O,O,O,O,Pw⟩ Pq O) ?_;iterate 13 refine A1 O ?_
    refine Gc O O (fun hc95=>?_) (fun hc95=>absurd hc95 Ps);exact Z4 O O O O O<|Rs 100 O O (ag (A.idxOf (a:Int)) underlying47 sz9 O O O hix hxn)<|Rs 101 O O (ai ⟨_,underlying9,O⟩ O hvx)<|Y3 O O O<|Z2 O O O<|⟨(k2+1,q2++[x.v.getD (A.idxOf (a:Int)) eb]),Ip [0,4] ⟨O,O,O,O,O,af (fun n=>V.gsl 4 1 n) (bW q2 _),O,O,O,Pw⟩ ⟨Pp,Pp,IN (b:=some (.gro 9 (aA q2++[.str (x.v.getD (A.idxOf (a:Int)) eb)]))) Pp (af (fun c=>some (Ob.gro 9 c)) Ps),Pp,Pp,Pp,Pp,Pp,Pw⟩ O O Pq O,⟨⟨Pv,by simp only [kQ,L8];omega⟩,by simp only;rw [htk2,MR,Mw,hqe2];simp [MW,hag]⟩,Pv⟩
   ·rw [MH hag] at hga;refine Z3 O O O O<|Rs 82 O O (ah [big,9001,9002,9003,9004,9005] 0 call256 hga O O O O ⟨O,O,O,O,O,O,Pw⟩ Pq O) ?_;iterate 13 refine A1 O ?_
    refine Gc O O (fun hc95=>absurd hc95 Ps) (fun hc95=>?_);exact Il<|Z2 O O O<|⟨(k2+1,q2),Io (aS O) (aO Pp) O O,⟨⟨Pv,Pv⟩,by simp only;rw [htk2,MR,Mw,hqe2];simp [MW,hag]⟩,Pv⟩
  ·have hq12:q2.length<=12:=Po;rw [show tf.take k2=tf from a6 Po] at hqe2;have hqr:q2=xf J f a σ:=hqe2.trans hraw.symm;refine Gx O ?_;by_cases hq2:q2=[]
   ·subst hq2;exact Im (St.rB 10 O)<|Z1 O O<|Rs 106 O O (ae call148 lT O)<|Z1 O O<|Rs 108 O O (ae call149 gD O)<|A1 O<|Z2 O O O<|Rs 111 O O (ah [0,big,9001,9002,9003,9004,9005] 0 call150 hdel0 O O O O ⟨Pp,Pp,Pp,Pp,Pp,Pp,Pp,Pw⟩ Pq O)<|A1 O<|Gt O<|⟨[(4,.pv (aI []))],o6N J W σ now mk mv,[.pv (aI [])],Io (aS O) (aO Pp) O O,O,O,O,by rw [<-hqr,nG];rfl,by rw [<-hqr,nG];rfl⟩
   ·refine Im (St.ku 10 O O (MB.2 hq2) (by simpa using hq2)) ?_;have hsort:=mX q2 q2.length O hq12;have hcmp:=jh (cR q2) q2.length (cY q2).length_eq Po;have hcl2:=jX (cR q2);have hsl2:=(cY q2).length_eq;have hdl:=hdel (bD (cR q2)) (bD (cR q2)).length O Po;exact Z1 O O<|Rs 106 O O (ah [1] 0 call148 hsort O O O O ⟨O,Pw⟩ Pq O)<|Z1 O O<|Rs 108 O O (ah [1] 0 call149 hcmp O O O O ⟨O,Pw⟩ Pq O)<|A1 O<|Im (Io (l:=[(2,.ptr 0 0),(3,.pv (.rp [.int .i64 a] 0)),(5,.pv (.rp [ak (bI q)] 0)),(10,.osl 1 1 (bD (cR q2)).length)]) (os:=(1,cB (bD (cR q2)))::(0,.mix 198 [.ptr big 0])::o6N J W σ now mk mv) (k:=2) (aS Pp) (aO Pp) O O)<|Z2 O O O<|Rs 111 O O (ah [1,0,big,9001,9002,9003,9004,9005] 0 call150 hdl O O O O ⟨Pp,Pp,Pp,Pp,Pp,Pp,Pp,Pp,Pw⟩ Pq O)<|A1 O<|Im (Ir 1 O O)<|Im (St.uQ [4])<|Gt O<|⟨[(4,.pv (aI ((bD (cR q2)).filter fun x=> !dS J q σ a x)))],o6N J W σ (tst now a (bD (cR q2))) mk mv,[.pv (aI ((bD (cR q2)).filter fun x=> !dS J q σ a x))],Io (aS Pp) (aO Pp) O O,O,O,O,by rw [<-hqr];rfl,by rw [<-hqr];rfl⟩
end
section
open Mk Jn
abbrev nC (r:Nat):List V:=[.pv (.bool (decide ((r:Int)<0))),.pv (z1 (r:Int).natAbs)]
abbrev xg (r:Nat):V:= .agg (nC r)
abbrev jQ (r:Nat):Ob:= .mix 91 (nC r)
def GE:Nat:=1001
def GN:Nat:=12^GE
theorem Hp {a e m:Nat} (he:e<m) (h:a<=12^e):(aj ((a:Nat):Int).natAbs).length<=m:=by
 rw [Int.natAbs_natCast,bF];exact Nat.lt_of_le_of_lt (AT h (Nat.pow_le_pow_left (by decide:12<=1000000000) e)) (Nat.pow_lt_pow_right Pq he)
theorem mV {a:Nat} (h:a<=GN):(aj ((a:Nat):Int).natAbs).length<=1000000:=Hp (e:=GE) Pq h
theorem ig {n k:Nat} (h:n<=12^k) (hk:k<=1001):n<=GN:=AT h (MM Pq hk)
theorem D6:1<=GN:=ig (k:=0) Pq Pq
theorem F7 (a b:Nat) (ha:a<=GN) (hb:b<=GN):FnP prog 86 [ec (a:Int),ec (b:Int)] (· =ec ((bG.add a b:Nat):Int)):=by
 have:=j1 (a:Int) (b:Int) (mV ha) (mV hb);rwa [show (a:Int)+(b:Int)=((bG.add a b:Nat):Int) from (Int.natCast_add a b).symm] at this
theorem th (a b:Nat) (ha:a<=GN) (hb:b<=GN):FnP prog 87 [ec (a:Int),ec (b:Int)] (· =ec ((bG.mul a b:Nat):Int)):=by
 have:=sE (a:Int) (b:Int) (mV ha) (mV hb);rwa [show (a:Int)*(b:Int)=((bG.mul a b:Nat):Int) from (Oo a b).symm] at this
theorem zK (a:Nat):FnP prog 88 [ec (a:Int)] (· = .bool (decide (a=0))):=by
 refine FnP.of func88 O ntmps88 Ps fun m0 w0 F R0=>?_
 have he:(((a:Int).sign)==0)=decide (a=0):=by
  cases a with
  | zero=>rfl
  | succ a=>rw [Int.sign_eq_one_of_pos Po];simp
 exact Z2 O O O<|Z1 O O<|Rs 4 O O (ae call89 (nj _) O)<|Y2 O O<|Gt O<|⟨_,_,O,O,af PV.bool he⟩
theorem wY (v:Int) (x:ByteArray):FnP prog 91 [.int .i64 v,.str x] (· =ec ((1:Nat):Int)):=by
 refine FnP.ofC func91 O ntmps91 Ps fun m0 w0 F R0=>?_
 exact Z1 O O<|Gr O<|Rs 5 O O (ae call51 (fO 1 Pq Pq) O)<|A1 O<|Gt O<|⟨_,_,O,O,⟨aY ⟨_,underlying91,O⟩ lK O O O,Pw⟩,O⟩
theorem CA (w:Int):FnP prog 92 [.int .i64 w] (· =ec ((1:Nat):Int)):=by
 refine FnP.ofC func92 O ntmps92 Ps fun m0 w0 F R0=>?_
 exact Z1 O O<|Gr O<|Rs 3 O O (ae call51 (fO 1 Pq Pq) O)<|A1 O<|Gt O<|⟨_,_,O,O,⟨aY ⟨_,underlying91,O⟩ lK O O O,Pw⟩,O⟩
abbrev wdN (D:VD):WD:=⟨bu D.chs,bu D.kes,bu D.hos,ak D.wa,.bool false,z1 0,.bool false,z1 1,.fn (.func 86) [] [],.fn (.func 87) [] [],.fn (.func 88) [] [],.fn (.func 91) [] [],.fn (.func 92) [] []⟩
theorem Bk:∀ (a b:List (Nat×Ob)) (i:Nat) (o:Ob),ar a i=some o->ar (a++b) i=some o
 | [],b,i,o,h=>by simp [ar] at h
 | (d,v)::a,b,i,o,h=>by
   simp only [MX,ar] at h ⊢;cases hb:Nat.beq i d with
   | true=>rw [hb] at h;exact h
   | false=>rw [hb] at h;exact Bk a b i o h
end
end Go.Proofs.YtedfonppffochaaGreatDoor
