/- Lemmas for the statement of this claim's last text. No condition. -/
import Derived.Test.YtedfonppffochaaGreatDoorJA10
set_option maxRecDepth 100000
set_option maxHeartbeats 4000000
open Go.RowKit Go.Proofs.Tryz
namespace Go.Proofs.YtedfonppffochaaGreatDoor
section
open Mk Jn
abbrev s0N:Asg ByteArray:=fun _=>none
abbrev jdN (S:Sch) (T:List (List Rw)) (lp:List Int) (D:VD):JD:=⟨S,T,ak lp,[.int .i64 (-1)],[ca D]⟩
abbrev H5:PV:= .agg [.bool false,z1 0,.bool false,z1 1,.fn (.func 86) [] [],.fn (.func 87) [] [],.fn (.func 88) [] []]
abbrev BV:PV:= .fn (.func 91) [] []
abbrev wtN:PV:= .fn (.func 92) [] []
abbrev st0N (S:Sch) (T:List (List Rw)) (lp:List Int) (D:VD):List (Nat×Ob):=[(4,.mix 240 [.ptr big 0,.pv (bu D.chs),.pv (bu D.kes),.pv (bu D.hos),.pv (ak D.wa),.pv (.bool false),.pv (z1 0),.pv (.bool false),.pv (z1 1),.pv (.fn (.func 86) [] []),.pv (.fn (.func 87) [] []),.pv (.fn (.func 88) [] []),.pv BV,.pv wtN,.pv .nilmap,.osl 1 1 S.attrs.length,.osl 2 1 S.attrs.length,.map 3]),(1,.cells 9 (aA (List.replicate S.attrs.length eb))),(2,.cells 4 (ay (stL s0N S.attrs.length))),(3,.mp [] []),(big,oX S (.pv (dbP T)) (.pv (ak lp)) 9001),(9001,.mp [.int .i64 (-1)] [ca D])]
theorem zA (n:Nat):List.replicate n (PV.bool false)=ay (stL s0N n):=by
 apply H2
 ·simp [cK]
 ·intro i h1 h2;simp [stL]
theorem sw (S:Sch) (T:List (List Rw)) (lp:List Int) (pk pv:List PV) (D:VD) (hn:S.attrs.length<=1000) (hpl:FnO Tryz.prog 186 2 0 [.ptr big 0,.pv (.int .i64 (-1))] (jnO S T lp pk pv) (fun v ob'=>v= .agg (A6 D)/\ob'=ar (jnO S T lp [.int .i64 (-1)] [ca D]))):
  FnO Tryz.prog 137 2 5 [.ptr big 0,.pv (.int .i64 (-1)),.pv .nilmap,.pv H5,.pv BV,.pv wtN] (jnO S T lp pk pv) (fun v ob'=>v= .ptr 4 0/\ob'=ar (st0N S T lp D)):=by
 refine FnO.of func137 O ntmps137 OG fun m0 w0 F R0=>?_
 refine Z2 O O O<|Gr O ?_;iterate 7 refine A1 O ?_
 refine Ge O follows [0,1,2,3,4,5,6,7,8,9,10,11,12,13,14,15] OD ?_;iterate 3 refine D1 O O ?_
 refine Ds 23 [big,9001] O O O (fun τ h=>ah [big,9001] 5 call186 hpl (h.args.trans O) O O O ⟨(Eo h 0 O O),(Eo h 1 O O),OK⟩ OE O) O OD ?_;iterate 8 refine D1 O O ?_
 refine Ds 32 [] O O O (fun τ h=>fF 3 (h.n 0 _ O)) O OD<|D1 (d:=some 33) (s:=⟨.agg [.ptr big 0,.pv (bu D.chs),.pv (bu D.kes),.pv (bu D.hos),.pv (ak D.wa),.pv (.bool false),.pv (z1 0),.pv (.bool false),.pv (z1 1),.pv (.fn (.func 86) [] []),.pv (.fn (.func 87) [] []),.pv (.fn (.func 88) [] []),.pv BV,.pv wtN,.pv .nilmap,.osl 1 1 S.attrs.length,.osl 2 1 S.attrs.length,.map 3],[],[]⟩) (rd:=[big,1,2,3]) (φ:=True) O OD ?_;iterate 2 refine D1 O O ?_
 refine ⟨OD,?_⟩;exact Gt O<|⟨[(12,.ptr 4 0)],st0N S T lp D,[.ptr 4 0],Io (aS O) ⟨OD,ry (b:=some (.cells 9 (mkZ [.str ByteArray.empty] (S.attrs.length*1)))) OD (af (fun c=>some (Ob.cells 9 c)) ((ct (.str ByteArray.empty) (S.attrs.length*1)).trans (by rw [ID];show _=List.map _ (List.replicate _ _);rw [List.map_replicate];rfl))),ry (b:=some (.cells 4 (mkZ [.bool false] (S.attrs.length*1)))) OD (af (fun c=>some (Ob.cells 4 c)) ((ct (.bool false) (S.attrs.length*1)).trans (by rw [ID];exact zA _))),OD,OD,OD,OK⟩ O O,O,O,O,O,O⟩
end
section
open Mk Jn
abbrev jobJ (S:Sch) (T:List (List Rw)) (lp:List Int):Ob:= (oX S (.pv (dbP T)) (.pv (ak lp)) 9001)
def pr (S:Sch) (T:List (List Rw)) (lp:List Int) (pk pv:List PV) (D:VD):Prop:=FnO Tryz.prog 186 2 0 [.ptr big 0,.pv (.int .i64 (-1))] (jnO S T lp pk pv) (fun v ob'=>v= .agg (A6 D)/\ob'=ar (jnO S T lp [.int .i64 (-1)] [ca D]))
theorem now0 (n:Nat):NowOk n s0N (List.replicate n eb):=⟨OG,fun a h x e=>(by cases e),fun a _=>rfl⟩
theorem C7 (S:Sch) (T:List (List Rw)) (lp:List Int) (pk pv:List PV) (D:VD) (hpl:pr S T lp pk pv D) (P:List Int) (hc:CtxV (jdN S T lp D) P D):
  FnO Tryz.prog 90 2 0 [.ptr big 0,.pv .nilmap,.pv H5,.pv BV,.pv wtN] (jnO S T lp pk pv) (fun v ob'=>v=xg (fl bG (jdN S T lp D) P (bq P (-1)) s0N)/\ob'=ar (jnO S T lp [.int .i64 (-1)] [ca D])):=by
 refine FnO.ofC func90 O ntmps90 OG fun m0 w0 F R0=>?_
 have hst:=sw S T lp pk pv D hc.ok.s.a hpl;have htt:=rT (jdN S T lp D) P D hc s0N (fun _=>rfl) (List.replicate S.attrs.length eb) [] (now0 _) (fun p hp=>by cases hp);refine Z2 O O O<|Gr O ?_;iterate 5 refine A1 O ?_
 refine Rs 16 O O (ah [big,9001] 2 call137 hst O O O O ⟨O,O,OK⟩ OE O) ?_;refine RL.call O (dU (os:=o6N (jdN S T lp D) (wdN D) s0N (List.replicate S.attrs.length eb) [] []) [6,3,4,5,big,9001] 0 call138 (args:=[.ptr big 0]) (k':=0) OD OD OD OD ⟨OD,OD,OD,OD,OD,OD,OK⟩ OE OD htt fun v ob' hv=>?_);obtain ⟨now2,M2,hn2,hM2,rfl,rfl⟩:=hv;exact A1 O<|Gt O<|⟨[(10,.ptr 1 0)],[(big,jobJ S T lp),(9001,.mp [.int .i64 (-1)] [ca D]),(1,jQ (fl bG (jdN S T lp D) P (bq P (-1)) s0N))],[xg (fl bG (jdN S T lp D) P (bq P (-1)) s0N)],[(big,jobJ S T lp),(9001,.mp [.int .i64 (-1)] [ca D])],2,Io (aS O) (aO OD) O O,O,⟨aY ⟨_,underlying91,O⟩ lK O O O,OK⟩,O,O,fun i o h=>gH _ [(1,jQ (fl bG (jdN S T lp D) P (bq P (-1)) s0N))] i o h,OE,O,O⟩
theorem vD (S:Sch) (T:List (List Rw)) (lp:List Int) (pk pv:List PV) (D:VD) (hpl:pr S T lp pk pv D) (P:List Int) (hc:CtxV (jdN S T lp D) P D):
  FnO Tryz.prog 49 2 0 [.ptr big 0] (jnO S T lp pk pv) (fun v ob'=>v=xg (fl bG (jdN S T lp D) P (bq P (-1)) s0N)/\ob'=ar (jnO S T lp [.int .i64 (-1)] [ca D])):=by
 refine FnO.ofC func49 O ntmps49 OG fun m0 w0 F R0=>?_
 have hrun:=C7 S T lp pk pv D hpl P hc;have hof0:=fO 0 OE OE;have hof1:=fO 1 OE OE;generalize fl bG (jdN S T lp D) P (bq P (-1)) s0N=N at*;exact Z1 O O<|Gr O<|Rs 4 O O (ae call51 hof0 O)<|Rs 5 O O (ae call51 hof1 O)<|Y3 O O O<|Z2 O O O<|Rs 9 O O (ah [big,9001] 2 call90 hrun O O O O ⟨O,O,OK⟩ OE O)<|A1 O<|Gt O<|⟨[(2,.ptr 0 0)],[(big,jobJ S T lp),(9001,.mp [.int .i64 (-1)] [ca D]),(0,jQ N)],[xg N],[(big,jobJ S T lp),(9001,.mp [.int .i64 (-1)] [ca D])],1,Io (aS O) (aO OD) O O,O,⟨aY ⟨_,underlying91,O⟩ lK O O O,OK⟩,O,O,fun i o h=>gH _ [(0,jQ N)] i o h,OE,O,O⟩
theorem qq:FnP Tryz.prog 141 [] (· =HC):=by
 refine FnP.ofC func141 O ntmps141 OG fun m0 w0 F R0=>?_
 exact Z1 O O<|Z2 O O O<|Gt O<|⟨_,_,O,O,⟨aY ⟨_,underlying148,O⟩ sz148 O O O,OK⟩,O⟩
theorem vP (S:Sch) (T:List (List Rw)) (lp:List Int) (pk pv:List PV) (D:VD) (hn:S.attrs.length<=1000) (hpl:pr S T lp pk pv D):
  FnO Tryz.prog 96 2 5 [.ptr big 0,.pv (.int .i64 (-1)),.pv .nilmap] (jnO S T lp pk pv) (fun v ob'=>v= .ptr 4 0/\ob'=ar (HG S T lp D)):=by
 refine FnO.of func96 O ntmps96 OG fun m0 w0 F R0=>?_
 have hst:=rE S T lp pk pv D hn hpl;exact Z1 O O<|Z3 O O O O<|Rs 10 O O (ae call141 qq O)<|Rs 11 O O (ah [big,9001] 0 call140 hst O O O O ⟨O,O,OK⟩ OE O)<|A1 O<|Gt O<|⟨[(6,.ptr 4 0)],HG S T lp D,[.ptr 4 0],Io (aS O) (aO OD) O O,O,O,O,O,O⟩
end
section
open Mk
noncomputable def costN (G:List B64) (rest:B64) (a:Nat):Nat:=keyN G (compB G rest a)+1
section
variable {G:List B64} (hG:GOk G)
include hG
end
theorem BD {l:List Int} {x:B64} (hnd:l.Nodup) (hnn:∀ y∈l,0<=y) (hm:∀ a:Nat,(a:Int)∈l↔x.getLsbD a=true):l.length=cC x:=by
 have hp:l.Perm (((List.range 64).filter fun i=>x.getLsbD i).map Int.ofNat):=cu hnd (List.Pairwise.map _ (fun a b h e=>h (Int.ofNat.inj e)) (IN Jt List.nodup_range)) fun y=>by
  rw [uF];constructor
  ·intro hy;obtain ⟨a,rfl⟩:=rK (hnn y hy);have:=(hm a).1 hy;exact ⟨a,wU.2 ⟨Hq.2 (cq this),this⟩,O⟩
  ·rintro ⟨a,ha,rfl⟩;exact (hm a).2 (wU.1 ha).2
 rw [hp.length_eq,rJ];unfold cC;rw [List.countP_eq_length_filter]
section
variable {S:Sch} (hV:Valid S) {q:List Int} (hq:q.Perm (upZ S.attrs.length))
include hV hq
end
end
section
open Mk Jn
set_option autoImplicit false
theorem j6 {α:Type} (f:Nat->α):∀ (us:List (Nat×α)) (D:List α),(∀ p∈us,p.2=f p.1)->∀ i,i<D.length->(bg D us)[i]? =if i∈us.map (·.1) then some (f i) else D[i]?
 | [],D,_,i,_=>by simp [bg]
 | u::us,D,h,i,hi=>by
   have e:bg D (u::us)=bg (D.set u.1 u.2) us:=rfl;rw [e,j6 f us _ (fun p hp=>h p (by simp [hp])) i (by simpa using hi)];by_cases h1:i∈us.map (·.1)
   ·rw [og h1,og (by rw [jt];exact vf _ h1)]
   ·rw [ga h1];by_cases h2:u.1=i
    ·rw [og (by rw [jt,h2];exact Kl ..),List.getElem?_set,og h2,og OC,h u OG,h2]
    ·rw [ga (by rw [jt,k6];rintro (e | e);exact h2 e.symm;exact h1 e),List.getElem?_set,ga h2]
theorem FQ {cs:List Int} {F:Int->B64} (x:Nat):∀ g:B64,(cs.foldl (fun z c=>z|||F c) g).getLsbD x=(g.getLsbD x||cs.any fun c=>(F c).getLsbD x):=by
 induction cs with
 | nil=>intro g;simp
 | cons c cs ih=>intro g;rw [FE,ih,Lj,List.any_cons,Bool.or_assoc]
theorem s7 {S:Sch} {P:List Int} (hP:UpOk P) {v:Nat} (hv:v<P.length):(upZ P.length).filter (fun a=>decide (a∈bp P v)&&(fk P v).any fun b=>eS S a b)=dq S P v:=by
 unfold dq;refine CV ?_ (IN Jt ((Hj P.length).imp fun h=>Int.le_of_lt h));have hab:=(K1.1 (fP hP v hv)).2;refine cu (IN Jt (cJ _)) (by unfold H7;exact IN Jt hab) fun a=>?_
 unfold H7;rw [wU,wU,cH,BX];refine ⟨fun h=>h.2,fun h=>⟨?_,h⟩⟩;obtain ⟨x,hx,e,_⟩:=gE hP v hv a h.1;exact bx.2 ⟨x,hx,e⟩
def AbB (P:List Int) (v:Nat) (ab:B64):Prop:=∀ x:Nat,ab.getLsbD x=true↔(x:Int)∈bp P v
theorem qt (P:List Int) (G:List B64) (x:Nat):∀ (k:Nat) (v:Int),(eW P G k v).getLsbD x=(fY P k v).any fun m=>(G.getD m.toNat 0#64).getLsbD x
 | 0,v=>by rw [eW,fY];simp
 | k+1,v=>by
   rw [eW,fY,FQ,List.any_cons,List.any_flatMap]
   congr 1
   exact af (bq P v).any (funext fun c=>qt P G x k c)
theorem uf (P:List Int):∀ (k:Nat) (v:Int) (ab:B64),(j0 P k v ab).map (·.1)=(fY P k v).map Int.toNat
 | 0,v,ab=>rfl
 | k+1,v,ab=>by
   rw [j0,fY,jt,jt,LW,LW]
   congr 1
   exact af (fun f=>List.flatMap f (bq P v)) (funext fun c=>uf P k c _)
theorem uC (P:List Int) (G:List B64) (n x:Nat):∀ (k:Nat) (v:Int) (ab:B64),x∈(fY P k v).map Int.toNat->x∈(fQ P G n k v ab).map (·.1)
 | 0,v,ab,h=>by rw [fQ];simpa [fY] using h
 | k+1,v,ab,h=>by
   rw [fQ,Ho,LW,my,AT];rw [fY,jt,LW] at h;rcases k6.1 h with h | h
   ·right;simp [h]
   ·obtain ⟨c,hc,h⟩:=AT.1 h;exact .inl ⟨c,hc,uC P G n x k c _ h⟩
section
variable {S:Sch} {P:List Int} (h:OrdOk S P)
include h
theorem n12:P.length<=12:=by rw [h.len];exact h.val.n2
theorem AbB.down {v c:Nat} {ab:B64} (hab:AbB P v ab) (hv:v<P.length) (hc:c<P.length) (hp:P.getD c 0=(v:Int)):AbB P c (ab|||BitVec.twoPow 64 (v:Int).toNat):=by
 intro x;have hn:=n12 h;rw [bO h.dP hc hv hp,Lj,LG,Jy,hab x,k6];simp only [yR,cH,BX];constructor
 ·rintro (h1 | ⟨_,h1⟩)
  ·exact .inr h1
  ·exact .inl OC
 ·rintro (h1 | h1)
  ·exact .inr ⟨OC,OC⟩
  ·exact .inl h1
theorem AbB.pop {v:Nat} {ab:B64} (hab:AbB P v ab) (hv:v<P.length):cC ab=(bp P v).length:=by
 refine (BD (K1.1 (fP h.dP v hv)).2 (fun y hy=>?_) fun a=>(hab a).symm).symm;obtain ⟨a,_,e,_⟩:=gE h.dP v hv y hy;omega
theorem Ev:∀ (k v:Nat) (ab:B64),v<P.length->AbB P v ab->∀ p∈j0 P k v ab,p.2=((bp P (p.1:Nat)).length:Int)
 | 0,v,ab,hv,hab,p,hp=>by
   rw [j0,fe] at hp;subst hp;show (cC ab:Int)=_;rw [hab.pop h hv];rfl
 | k+1,v,ab,hv,hab,p,hp=>by
   rw [j0,k6] at hp;rcases hp with hp | hp
   ·subst hp;show (cC ab:Int)=_;rw [hab.pop h hv];rfl
   ·obtain ⟨c,hc,hp⟩:=AT.1 hp;obtain ⟨m,hm,rfl,e⟩:=aX.1 hc;exact Ev k m _ hm (hab.down h hv hm e) p hp
theorem zI {k v:Nat} (hv:v<P.length) (hf:P.length<=k+1+(bp P v).length) {x:Nat} (hx:x<P.length):(x:Int)∈fY P k v↔(x:Int)∈fk P v:=by
 have ht:a7 P k v=a7 P (k+1) v:=(iy h.dP k v hv hf).symm;rw [ot,ht,tree_vs,da,k6];have hc:=iO h.dP (k+1) v (fun a ha e=>by rw [bO h.dP ha hv (by rw [getD_at ha];exact e),qU];omega) x hx;have hne:(v:Int)∈bp P x++[-1]↔(v:Int)∈bp P x:=by
  rw [my,fe];exact ⟨fun e=>e.resolve_right OC,.inl⟩
 simp only [hne] at hc;constructor
 ·rintro (h1 | h1)
  ·exact ⟨⟨x,hx,O⟩,.inl h1⟩
  ·refine ⟨⟨x,hx,O⟩,.inr ?_⟩;have:=List.count_pos_iff.2 h1;exact CP fun hn=>by rw [ga hn] at hc;omega
 ·rintro ⟨_,h1 | h1⟩
  ·exact .inl h1
  ·rw [og h1] at hc;exact .inr (List.count_pos_iff.1 OC)
theorem FN {k v:Nat} (hv:v<P.length):∀ x∈fY P k v,∃ m:Nat,m<P.length/\x=(m:Int):=fun x hx=>by
 rw [ot] at hx;obtain ⟨m,hm,e,_⟩:=gR h.dP k v hv x hx;exact ⟨m,hm,e⟩
theorem Ef {k v:Nat} {ab:B64} (hv:v<P.length) (hf:P.length<=k+1+(bp P v).length) (hab:AbB P v ab):gG (eW P (gr S) k v&&&ab) P.length=dq S P v:=by
 rw [<-s7 h.dP hv];unfold gG upZ;rw [List.filter_map]
 congr 1
 apply List.filter_congr;intro x hx;have hx:=Hq.1 hx;show _=(decide ((x:Int)∈bp P v)&&(fk P v).any fun b=>eS S (x:Int) b);rw [Ky,qt];by_cases ha:(x:Int)∈bp P v
 ·rw [(hab x).2 ha,Lu,x7 ha,Oh,BY,IF,IF];constructor
  ·rintro ⟨m,hm,hb⟩;obtain ⟨m',hm',rfl⟩:=FN h hv m hm;refine ⟨_,(zI h hv hf hm').1 hm,?_⟩;rw [yR,pC h.val (by rw [<-h.len];exact hm'),cH] at hb;exact kL hb.2
  ·rintro ⟨m,hm,hb⟩;obtain ⟨⟨m',hm',rfl⟩,h2⟩:=da.1 hm;refine ⟨_,(zI h hv hf hm').2 hm,?_⟩;rw [yR,pC h.val (by rw [<-h.len];exact hm'),cH,BX];refine ⟨?_,kL hb⟩;rintro rfl;rcases h2 with h2 | h2
   ·have:m'=v:=OC;subst this;exact jl h.dP hv ha
   ·exact jl h.dP hv (fH h.dP hv h2 ha)
 ·rw [Et ha,Bool.false_and,Bool.and_eq_false_iff];right
  rw [Bool.eq_false_iff];exact fun e=>ha ((hab x).1 e)
theorem AM:∀ (k v:Nat) (ab:B64),v<P.length->P.length<=k+1+(bp P v).length->AbB P v ab->∀ p∈fQ P (gr S) P.length k v ab,p.2=dq S P (p.1:Nat)
 | 0,v,ab,hv,hf,hab,p,hp=>by
   rw [fQ,fe] at hp;subst hp;exact Ef h hv hf hab
 | k+1,v,ab,hv,hf,hab,p,hp=>by
   rw [fQ,my,fe] at hp;rcases hp with hp | hp
   ·obtain ⟨c,hc,hp⟩:=AT.1 hp;obtain ⟨m,hm,rfl,e⟩:=aX.1 hc;exact AM k m _ hm (by rw [bO h.dP hm hv e,qU];omega) (hab.down h hv hm e) p hp
   ·subst hp;exact Ef h hv hf hab
omit h in
theorem Bt {c:Nat} (hc:c<P.length) (e:P.getD c 0= -1):bp P c=[]:=eJ hc (by rw [<-getD_at hc];exact e)
omit h in
theorem tL {c:Nat} (hc:c<P.length) (e:P.getD c 0= -1):AbB P c 0#64:=fun x=>by rw [Bt hc e];simp
theorem Am {i:Nat} (hi:i<P.length):∃ c:Nat,c<P.length/\P.getD c 0= -1/\(c:Int)∈bq P (-1)/\i∈(fY P P.length c).map Int.toNat:=by
 have h1:(i:Int)∈aD P:=(cf h.dP).mem_iff.2 (bx.2 ⟨i,hi,O⟩);rw [<-nN,AT] at h1;obtain ⟨c,hc,h1⟩:=h1;obtain ⟨m,hm,rfl,e⟩:=aX.1 hc;exact ⟨m,hm,e,hc,uF.2 ⟨_,h1,O⟩⟩
omit h in
theorem Ay (D l:List Int):∀ a∈l,D.getD a.toNat 0<=D.getD (eX D l l.length).toNat 0:=by
 have key:∀ (k:List Int) (h0:Int),D.getD h0.toNat 0<=D.getD (k.foldl (fun h a=>if D.getD a.toNat 0>D.getD h.toNat 0 then a else h) h0).toNat 0/\∀ a∈k,D.getD a.toNat 0<=D.getD (k.foldl (fun h a=>if D.getD a.toNat 0>D.getD h.toNat 0 then a else h) h0).toNat 0:=by
  intro k;induction k with
  | nil=>intro h0;exact ⟨Int.le_refl _,fun a ha=>by cases ha⟩
  | cons x k ih=>
    intro h0;rw [FE];have h1:=ih (if D.getD x.toNat 0>D.getD h0.toNat 0 then x else h0);by_cases hx:D.getD x.toNat 0>D.getD h0.toNat 0
    ·rw [og hx] at h1 ⊢;refine ⟨Int.le_trans (Int.le_of_lt hx) h1.1,fun a ha=>?_⟩;rcases k6.1 ha with rfl | ha
     ·exact h1.1
     ·exact h1.2 a ha
    ·rw [ga hx] at h1 ⊢;refine ⟨h1.1,fun a ha=>?_⟩;rcases k6.1 ha with rfl | ha
     ·exact Int.le_trans (Int.not_lt.1 hx) h1.1
     ·exact h1.2 a ha
 intro a ha;unfold eX;rw [J4];exact (key l _).2 a ha
theorem F3 {r:ByteArray×List Int} (hr:r∈S.rels) (D:List Int) (hD:∀ i:Nat,i<P.length->D.getD i 0=((bp P (i:Nat)).length:Int)):eX D r.2 r.2.length=ka P r.2:=by
 have hrng:∀ a∈r.2,0<=a/\a<P.length:=by rw [h.len];exact h.val.rng r hr
 obtain ⟨h1,h2⟩:=nI h.dP (h.val.ne r hr) hrng (h.rt r hr);have h3:=pY D (h.val.ne r hr) r.2.length;rcases h2 _ h3 with e | e
 ·exact e
 ·exfalso;have h4:=Ay D r.2 _ h1;obtain ⟨a,ha⟩:=rK (hrng _ h3).1;obtain ⟨b,hb⟩:=rK (hrng _ h1).1;have r1:=(hrng _ h3).2;have r2:=(hrng _ h1).2;rw [ha] at r1 e h4;rw [hb] at r2 e h4;have r1':a<P.length:=OC;have r2':b<P.length:=OC;have h5:=ED h.dP r2' e;rw [yR,yR,hD a r1',hD b r2'] at h4;omega
def gT (S:Sch) (P:List Int):VD:=⟨(upZ P.length).map (bq P)++[bq P (-1)],(upZ P.length).map (dq S P),(upZ P.length).map (o6 (S.rels.map fun r=>ka P r.2) S.rels.length),aD P⟩
theorem oj:iK S P (gr S)=gT S P:=by
 have hgl:(gr S).length=P.length:=by rw [fR,h.len]
 have hD:∀ i:Nat,i<P.length->(bg (List.replicate (gr S).length (0:Int)) ((bq P (-1)).flatMap fun c=>j0 P P.length c 0#64)).getD i 0=((bp P (i:Nat)).length:Int):=by
  intro i hi;rw [sh,j6 (fun i=>((bp P (i:Nat)).length:Int)) _ _ (fun p hp=>?_) i (by rw [Kn,hgl];exact hi),og ?_]
  ·rfl
  ·obtain ⟨c,hc,e,hm,hv⟩:=Am h hi;rw [LW,AT];exact ⟨c,hm,by rw [uf];exact hv⟩
  ·obtain ⟨c,hc,hp⟩:=AT.1 hp;obtain ⟨m,hm,rfl,e⟩:=aX.1 hc;exact Ev h P.length m _ hm (tL hm e) p hp
 have e1:(iK S P (gr S)).chs=(gT S P).chs:=by
  show lsT P P.length=_;unfold lsT gT;rw [jT]
  congr 1
  exact Cz fun v _=>jT P v
 have e2:(iK S P (gr S)).kes=(gT S P).kes:=by
  show bg (List.replicate (gr S).length []) _=(upZ P.length).map (dq S P);apply List.ext_getElem?;intro i;by_cases hi:i<P.length
  ·rw [j6 (fun i=>dq S P (i:Nat)) _ _ (fun p hp=>?_) i (by rw [Kn,hgl];exact hi),og ?_]
   ·simp [upZ,hi]
   ·obtain ⟨c,hc,e,hm,hv⟩:=Am h hi;rw [LW,AT];exact ⟨c,hm,uC P _ _ _ _ _ _ hv⟩
   ·obtain ⟨c,hc,hp⟩:=AT.1 hp;obtain ⟨m,hm,rfl,e⟩:=aX.1 hc;rw [hgl] at hp;exact AM h P.length m _ hm OC (tL hm e) p hp
  ·rw [IT (by rw [cA,Kn,hgl];omega),IT (by rw [rJ,a8];omega)]
 have e3:(iK S P (gr S)).hos=(gT S P).hos:=by
  show hsT (gr S).length (hpL _ S) S.rels.length=_;unfold hsT gT hpL;rw [hgl]
  congr 2
  exact Cz fun r hr=>F3 h hr _ (by rw [hgl] at hD;exact hD)
 have e4:(iK S P (gr S)).wa=(gT S P).wa:=rfl;generalize iK S P (gr S)=A at e1 e2 e3 e4;generalize gT S P=B at e1 e2 e3 e4;cases A;cases B;simp only at e1 e2 e3 e4;rw [e1,e2,e3,e4]
end
structure TabOk (S:Sch) (T:List (List Rw)):Prop where
 n:T.length=S.rels.length
 l:∀ l∈T,l.length<=12
 v:∀ r (h:r<T.length) (h2:r<S.rels.length),∀ x∈T[r],x.v.length=S.rels[r].2.length
 zf:∀ l∈T,∀ x∈l,∀ y∈x.v,Zf y/\y.size<=10000
theorem zq {S:Sch} (hV:Valid S) (hr:S.rels.length<=1000) (hl:∀ r∈S.rels,r.2.length<=1000):SJn S:=⟨by have:=hV.n2;omega,hr,hl,hV.rng⟩
theorem HF {S:Sch} {P:List Int} (h:OrdOk S P) (hS:SJn S) {T:List (List Rw)} (hT:TabOk S T) (hw:∀ a:Nat,a<S.attrs.length->∃ r∈S.rels,(a:Int)∈r.2) (lp:PV) (pk pv:List PV):CtxV ⟨S,T,lp,pk,pv⟩ P (gT S P) where
 ok:=⟨hS,hT.n,fun l hl=>by have:=hT.l l hl;omega,hT.v⟩
 ord:=h
 n64:=by have:=n12 h;omega
 ch:=rfl
 ke:=rfl
 hl:=by simp [gT,a8]
 ho:=fun l hl=>by
  obtain ⟨v,_,rfl⟩:=uF.1 hl;refine ⟨uv (jI _ _ _) hS.r,fun r hr=>?_⟩;unfold o6 at hr;obtain ⟨a,ha,rfl⟩:=uF.1 hr;have:=Hq.1 (wU.1 ha).1;constructor<;>simp<;>omega
 zf:=hT.zf
 t12:=hT.l
 wv:=fun a ha=>by
  obtain ⟨r,hr,h2⟩:=hw a ha;obtain ⟨i,hi,e⟩:=By hr;refine List.ne_nil_of_mem (a:=i) ?_;unfold bw;rw [wU,Hq];refine ⟨by simpa [RJ] using hi,?_⟩;rw [qX];unfold cy;simp only [sh,fI hi,Lg,e,BX];exact h2
end
section
open Mk Jn
set_option autoImplicit false
def bY:List Int->Int
 | []=>1
 | x::l=>x*bY l
theorem ql (l m:List Int):bY (l++m)=bY l*bY m:=by
 induction l with
 | nil=>rw [Ew,bY,Int.one_mul]
 | cons x l ih=>rw [F8,bY,ih,bY,Ou]
theorem vE {l m:List Int} (h:l.Perm m):bY l=bY m:=by
 induction h with
 | nil=>rfl
 | cons x _ ih=>rw [bY,bY,ih]
 | swap x y l=>rw [bY,bY,bY,bY,Int.mul_left_comm]
 | trans _ _ h1 h2=>rw [h1,h2]
def wr (J:JD) (σ:Asg ByteArray) (r:Nat):Int:=bY (((dh J r).filter fun x=>agr (cy J r) σ x.v).map (·.w))
def tW (J:JD) (σ:Asg ByteArray) (r:Nat) (w:Int) (rows:List Rw):Int:=rows.foldl (fun z x=>if agr (cy J r) σ x.v=true then z*x.w else z) w
theorem uL (J:JD) (σ:Asg ByteArray) (r:Nat) (rows:List Rw):∀ w,tW J σ r w rows=w*bY ((rows.filter fun x=>agr (cy J r) σ x.v).map (·.w)):=by
 induction rows with
 | nil=>intro w;simp [tW,bY]
 | cons x rows ih=>
   intro w;show tW J σ r (if _ then _ else _) rows=_;rw [ih,Hf];by_cases h:agr (cy J r) σ x.v=true
   ·rw [og h,og h,jt,bY,Ou]
   ·rw [ga h,ga h]
theorem Ba (J:JD) (σ:Asg ByteArray) (r:Nat) (w:Int) {rows:List Rw} {k:Nat} (h:k<rows.length):tW J σ r w (rows.take (k+1))=if agr (cy J r) σ rows[k].v=true then tW J σ r w (rows.take k)*rows[k].w else tW J σ r w (rows.take k):=by
 unfold tW;rw [aR h,J0];rfl
def rh (J:JD) (σ:Asg ByteArray) (w:Int) (rs:List Int):Int:=rs.foldl (fun z r=>tW J σ r.toNat z (dh J r.toNat)) w
theorem Bx (J:JD) (σ:Asg ByteArray) (rs:List Int):∀ w,rh J σ w rs=w*bY (rs.map fun r=>wr J σ r.toNat):=by
 induction rs with
 | nil=>intro w;simp [rh,bY]
 | cons r rs ih=>
   intro w;show rh J σ (tW J σ r.toNat w (dh J r.toNat)) rs=_;rw [ih,uL,jt,bY,Ou];rfl
theorem pc (J:JD) (σ:Asg ByteArray) (w:Int) {rs:List Int} {k:Nat} (h:k<rs.length):rh J σ w (rs.take (k+1))=tW J σ rs[k].toNat (rh J σ w (rs.take k)) (dh J rs[k].toNat):=by
 unfold rh;rw [aR h,J0];rfl
def enC (J:JD) (P:List Int) (hos:Int->List Int):List Int->Asg ByteArray->Int->List (Asg ByteArray×Int)
 | [],σ,w=>[(σ,w)]
 | v::vs,σ,w=>(bC (RJ J) sdS v σ).flatMap fun x=>if fl aU J P (bq P v) (put σ v x)=true then enC J P hos vs (put σ v x) (rh J (put σ v x) w (hos v)) else []
theorem xG (J:JD) (P:List Int) (hos:Int->List Int):∀ (vs:List Int) (σ:Asg ByteArray) (w:Int),(enC J P hos vs σ w).map (·.1)=enT (bC (RJ J) sdS) (fun v τ=>fl aU J P (bq P v) τ) vs σ
 | [],σ,w=>rfl
 | v::vs,σ,w=>by
   rw [enC,enT,LW]
   congr 1
   funext x;by_cases hb:fl aU J P (bq P v) (put σ v x)=true
   ·rw [og hb,og hb,xG J P hos vs]
   ·rw [ga hb,ga hb];rfl
theorem zc (J:JD) (P:List Int) (hos:Int->List Int):∀ (vs:List Int) (σ:Asg ByteArray) (w:Int),∀ p∈enC J P hos vs σ w,∀ a,a∉vs->p.1 a=σ a
 | [],σ,w,p,hp,a,_=>by rw [enC,fe] at hp;rw [hp]
 | v::vs,σ,w,p,hp,a,ha=>by
   rw [enC,AT] at hp;obtain ⟨x,_,hp⟩:=hp;by_cases hb:fl aU J P (bq P v) (put σ v x)=true
   ·rw [og hb] at hp;rw [zc J P hos vs _ _ p hp a fun e=>ha (by simp [e]),dZ _ _ fun e=>ha (by simp [e])]
   ·rw [ga hb] at hp;cases hp
theorem jC {σ:Asg ByteArray}:∀ {A:List Int} {x:List ByteArray},(∀ a∈A,(σ a).isSome=true)->x.length=A.length->(agr A σ x=true↔A.map (fun a=>(σ a).getD eb)=x)
 | [],x,_,hl=>by
   have:x=[]:=vG hl;subst this;simp [agr]
 | a::A,[],_,hl=>by simp at hl
 | a::A,y::x,hs,hl=>by
   have ih:=jC (σ:=σ) (A:=A) (x:=x) (fun b hb=>hs b (by simp [hb])) (by simpa using hl);have ha:=hs a OG;obtain ⟨z,hz⟩:=tH.1 ha;rw [pq] at ih ⊢;rw [LX,K9,cH,ih,gW hz,BX,jt,hz,Lo];rfl
theorem filter_one {l:List Rw} {p:Rw->Bool} (hd:l.Pairwise fun a b=>a.v≠b.v) {v:List ByteArray} (hp:∀ x∈l,p x=true->x.v=v):(l.filter p).length<=1:=by
 have h1:(l.filter p).Pairwise fun a b=>a.v≠b.v:=IN Jt hd
 have h2:∀ x∈l.filter p,x.v=v:=fun x hx=>hp x (wU.1 hx).1 (wU.1 hx).2
 generalize l.filter p=m at h1 h2;match m,h1,h2 with
 | [],_,_=>exact eF _
 | [a],_,_=>exact qT _
 | a::b::m,h1,h2=>exact absurd ((h2 a OG).trans (h2 b OG).symm) ((Km.1 h1).1 b OG)
def hoL (S:Sch) (P:List Int) (v:Int):List Int:=o6 (S.rels.map fun r=>ka P r.2) S.rels.length v
theorem iQ {S:Sch} {P:List Int} {v r:Int}:r∈hoL S P v↔∃ k:Nat,∃ h:k<S.rels.length,r=(k:Int)/\ka P S.rels[k].2=v:=by
 unfold hoL o6;rw [uF];constructor
 ·rintro ⟨k,hk,rfl⟩;have h1:=wU.1 hk;have hk:=Hq.1 h1.1;have h2:=Li.1 h1.2;rw [sh,Ko,fI hk] at h2;exact ⟨k,hk,O,h2⟩
 ·rintro ⟨k,hk,rfl,e⟩;refine ⟨k,wU.2 ⟨Hq.2 hk,?_⟩,O⟩;rw [sh,Ko,fI hk];exact Li.2 e
section
variable {S:Sch} {P:List Int} (h:OrdOk S P)
include h
theorem Bg {x:Int} (hx:x∈aD P):∃ n:Nat,n<P.length/\x=(n:Int):=by
 obtain ⟨n,hn,e⟩:=bx.1 ((cf h.dP).mem_iff.1 hx);exact ⟨n,hn,e⟩
theorem jD:(aD P).Nodup:=(cf h.dP).nodup_iff.2 (cJ _)
theorem tz:∀ i,i<=(aD P).length->∀ x∈(aD P).take i,∀ a∈bp P x,a∈(aD P).take i
 | 0,_,x,hx,_,_=>by simp at hx
 | i+1,hi,x,hx,a,ha=>by
   rw [aR OC,my,fe] at hx ⊢;left
   rcases hx with hx | hx
   ·exact tz i OC x hx a ha
   ·have hw:=Bi h.dP (i:=i) OC;rw [<-hx] at hw;obtain ⟨n,hn,e⟩:=Bg h (x:=x) (by rw [hx];exact aJ _);subst e;rw [yR] at hw;rcases hw.2 with e | e
    ·rw [eJ hn (by rw [<-getD_at hn];exact e)] at ha;cases ha
    ·obtain ⟨p,hp,e2⟩:=Bg h (Kk e);rw [e2] at e;rw [bO h.dP hn hp e2] at ha;rcases k6.1 ha with rfl | ha
     ·exact e
     ·exact tz i OC _ e a ha
def Pre (P:List Int) (i:Nat) (σ:Asg ByteArray):Prop:=∀ a,(σ a).isSome=true↔a∈(aD P).take i
omit h in
theorem Pre.put {i:Nat} {σ:Asg ByteArray} (hp:Pre P i σ) (hi:i<(aD P).length) (x:ByteArray):Pre P (i+1) (put σ (aD P)[i] x):=fun a=>by
 rw [aR hi,my,fe,<-hp a];by_cases e:a=(aD P)[i]
 ·subst e;rw [cG];exact ⟨fun _=> .inr O,fun _=>rfl⟩
 ·rw [dZ _ _ e];exact ⟨.inl,fun k=>k.resolve_right e⟩
theorem Pre.at {i:Nat} {σ:Asg ByteArray} (hp:Pre P i σ) (hi:i<(aD P).length):∃ n:Nat,n<P.length/\(aD P)[i]=(n:Int)/\At P n σ:=by
 obtain ⟨n,hn,e⟩:=Bg h (aJ hi);refine ⟨n,hn,e,⟨fun a ha=>?_,fun a ha=>?_⟩⟩
 ·have:=tz h (i+1) OC (aD P)[i] (by rw [aR hi];exact Ll _ (fe.2 O)) a (by rw [e];exact ha);rw [aR hi,my,fe,e] at this;rcases this with this | this
  ·exact (hp a).2 this
  ·rw [this] at ha;exact absurd ha (jl h.dP hn)
 ·have hno:a∉(aD P).take i:=by
   intro hm;have hw:=(Bi h.dP hi).1;obtain ⟨_,hb⟩:=da.1 ha;rcases hb with rfl | hb
   ·rw [e] at hw;exact hw hm
   ·have:=tz h i OC a hm _ hb;rw [e] at hw;exact hw this
  have:=mt (hp a).1 hno;cases hs:σ a with
  | none=>rfl
  | some y=>rw [hs] at this;exact absurd O this
theorem ub {n:Nat} (hn:n<P.length) {σ:Asg ByteArray} (ha:At P n σ) (x:ByteArray) {r:ByteArray×List Int} (hr:r∈S.rels) (e:ka P r.2=(n:Int)):∀ a∈r.2,(Jn.put σ n x a).isSome=true:=by
 have hrng:∀ a∈r.2,0<=a/\a<P.length:=by rw [h.len];exact h.val.rng r hr
 intro a hm;rcases (nI h.dP (h.val.ne r hr) hrng (h.rt r hr)).2 a hm with e2 | e2
 ·rw [e2,e,cG];rfl
 ·rw [e] at e2;have hne:a≠(n:Int):=fun e3=>jl h.dP hn (e3▸e2)
  rw [dZ _ _ hne];exact ha.up a e2
theorem uZ:((aD P).flatMap (hoL S P)).Perm (upZ S.rels.length):=by
 refine cu ?_ (cJ _) fun r=>?_
 ·unfold List.Nodup;rw [List.pairwise_flatMap];refine ⟨fun v _=>?_,(jD h).imp fun hne r hr q hq e=>?_⟩
  ·unfold hoL o6;exact List.Pairwise.map _ (fun a b h e=>h (Int.ofNat.inj e)) (IN Jt List.nodup_range)
  ·obtain ⟨k,hk,e1,e2⟩:=iQ.1 hr;obtain ⟨k',hk',e3,e4⟩:=iQ.1 hq;have:k=k':=OC;subst this;exact hne (e2.symm.trans e4)
 ·rw [AT,bx];constructor
  ·rintro ⟨v,_,hr⟩;obtain ⟨k,hk,e,_⟩:=iQ.1 hr;exact ⟨k,hk,e⟩
  ·rintro ⟨k,hk,rfl⟩;have hm:=aJ hk;have hrng:∀ a∈S.rels[k].2,0<=a/\a<P.length:=by rw [h.len];exact h.val.rng _ hm
   have h1:=(nI h.dP (h.val.ne _ hm) hrng (h.rt _ hm)).1;refine ⟨ka P S.rels[k].2,?_,iQ.2 ⟨k,hk,O,O⟩⟩;have h2:=hrng _ h1;exact (cf h.dP).mem_iff.2 (bx.2 ⟨(ka P S.rels[k].2).toNat,OC,OC⟩)
theorem Hk (i:Nat):(((aD P).take i).flatMap (hoL S P)).length<=S.rels.length:=by
 have e:=(uZ h).length_eq;rw [a8] at e;rw [<-e]
 conv=>rhs;rw [<-zj i (aD P),Jw,a6]
 omega
end
section
variable {J:JD} {P:List Int} (h:OrdOk J.S P)
include h
omit h in
theorem BH {σ τ:Asg ByteArray} {r:Nat} (k:∀ a∈cy J r,σ a=τ a):wr J σ r=wr J τ r:=by
 unfold wr
 congr 2
 exact List.filter_congr fun x _=>ib k x.v
omit h in
theorem ft {k:Nat} (hk:k<J.S.rels.length):cy J k=J.S.rels[k].2:=by
 unfold cy;rw [sh,fI hk];rfl
theorem Hg:∀ (vs:List Int) (i:Nat) (σ:Asg ByteArray) (w:Int),(aD P).drop i=vs->i<=(aD P).length->Pre P i σ->∀ p∈enC J P (hoL J.S P) vs σ w,p.2=w*bY ((vs.flatMap (hoL J.S P)).map fun r=>wr J p.1 r.toNat)
 | [],i,σ,w,_,_,_,p,hp=>by
   rw [enC,fe] at hp;subst hp;simp [bY]
 | v::vs,i,σ,w,hd,hi,hpre,p,hp=>by
   have hi2:i<(aD P).length:=by
    rcases LK i (aD P).length with h1 | h1
    ·exact h1
    ·rw [Lv h1] at hd;cases hd
   rw [C0 hi2] at hd;injection hd with hv hd
   rw [enC,AT] at hp;obtain ⟨x,_,hp⟩:=hp;by_cases hb:fl aU J P (bq P v) (Jn.put σ v x)=true
   ·rw [og hb] at hp;have ih:=Hg vs (i+1) _ _ hd hi2 (by rw [<-hv];exact hpre.put hi2 x) p hp;have hx:=zc J P _ vs _ _ p hp;rw [ih,Bx,IG,Ho,ql,Ou]
    congr 2
    congr 1
    refine Cz fun r hr=>?_
    obtain ⟨k,hk,rfl,e⟩:=iQ.1 hr;obtain ⟨n,hn,e2,hat⟩:=hpre.at h hi2;rw [hv] at e2;subst e2;refine BH fun a ha=>?_
    rw [yR,ft hk] at ha;have hset:=ub h hn hat x (aJ hk) e a ha;have hpo:=(hpre.put hi2 x a);rw [hv] at hpo;have hm:=hpo.1 hset;refine (hx a fun hav=>?_).symm;have hnd:=jD h;rw [<-zj (i+1) (aD P),hd] at hnd;exact (List.nodup_append.1 hnd).2.2 a hm a hav O
   ·rw [ga hb] at hp;cases hp
end
def bH (n:Nat) (τ:Asg ByteArray):List ByteArray:=(List.range n).map fun a:Nat=>(τ (a:Int)).getD eb
theorem ef (n:Nat) (τ:Asg ByteArray):(bH n τ).length=n:=by simp [bH]
theorem rN {n:Nat} (τ:Asg ByteArray) {a:Int} (h0:0<=a) (h1:a<n):(bH n τ).getD a.toNat eb=(τ a).getD eb:=by
 obtain ⟨k,rfl⟩:=rK h0;unfold bH;rw [yR,sh,Ko,List.getElem?_range OC];rfl
def Ez (y:List ByteArray):List (List Int×List Rw)->Int->Prop
 | [],w=>w=1
 | p::L,w=>∃ x∈p.2,p.1.map (fun a=>y.getD a.toNat eb)=x.v/\∃ w',Ez y L w'/\w=x.w*w'
theorem sK {y:List ByteArray} {g:List Int×List Rw->Int}:∀ {L:List (List Int×List Rw)},(∀ p∈L,∃ x∈p.2,p.1.map (fun a=>y.getD a.toNat eb)=x.v/\g p=x.w)->Ez y L (bY (L.map g))
 | [],_=>rfl
 | p::L,h=>by
   obtain ⟨x,hx,e,e2⟩:=h p OG;exact ⟨x,hx,e,_,sK fun q hq=>h q (by simp [hq]),by rw [jt,bY,e2]⟩
theorem yC {y:List ByteArray} {g:List Int×List Rw->Int}:∀ {L:List (List Int×List Rw)} {w:Int},(∀ p∈L,∀ x∈p.2,p.1.map (fun a=>y.getD a.toNat eb)=x.v->g p=x.w)->Ez y L w->w=bY (L.map g)
 | [],w,_,h=>h
 | p::L,w,hg,h=>by
   obtain ⟨x,hx,e,w',h',e'⟩:=h;rw [e',jt,bY,hg p OG x hx e,yC (fun q hq=>hg q (by simp [hq])) h']
theorem j4 {y:List ByteArray}:∀ {L:List (List Int×List Rw)} {w:Int},Ez y L w->∀ p∈L,∃ x∈p.2,p.1.map (fun a=>y.getD a.toNat eb)=x.v
 | q::L,w,h,p,hp=>by
   obtain ⟨x,hx,e,w',h',_⟩:=h;rcases k6.1 hp with rfl | hp
   ·exact ⟨x,hx,e⟩
   ·exact j4 h' p hp
def iL (S:Sch) (T:List (List Rw)):List (List Int×List Rw):=(S.rels.map (·.2)).zip T
structure IsJoin (S:Sch) (T:List (List Rw)) (l:List Rw):Prop where
 mem:∀ y,y∈l↔y.v.length=S.attrs.length/\Ez y.v (iL S T) y.w
 nd:l.Pairwise fun a b=>a.v≠b.v
def o9 (J:JD) (P:List Int):List Rw:=(enC J P (hoL J.S P) (aD P) (fun _=>none) 1).map fun p=>⟨bH J.S.attrs.length p.1,p.2⟩
section
variable {J:JD} {P:List Int} {D:VD} (h:CtxV J P D) (hd:∀ l∈J.T,l.Pairwise fun a b=>a.v≠b.v)
include h
theorem E6 (v:Nat) (hv:v<J.S.attrs.length) (σ:Asg ByteArray):IsCand (RJ J) (v:Int) σ (bC (RJ J) sdS v σ):=by
 refine Dv qL sf (h.wv v hv) (fun r hr row hrow=>?_) σ;rw [kF] at hrow;rw [qX];obtain ⟨x,hx,rfl⟩:=uF.1 hrow;unfold bw at hr;have hr1:=Hq.1 (wU.1 hr).1;have hr2:r<J.S.rels.length:=by simpa [RJ] using hr1
 have hr3:r<J.T.length:=by rw [h.ok.n];exact hr2
 have e:dh J r=J.T[r]:=by unfold dh;rw [sh,fI hr3];rfl
 rw [e] at hx;rw [ft hr2];exact h.ok.v r hr3 hr2 x hx
omit h in
theorem GP:∀ w,∀ a∈dom (RJ J) w,∃ r∈J.S.rels,w∈r.2/\a∈r.2:=fun _ _ ha=>ud ha
omit h in
theorem yS:∀ v (σ τ:Asg ByteArray),(∀ a∈dom (RJ J) v,σ a=τ a)->bC (RJ J) sdS v σ=bC (RJ J) sdS v τ:=fun v σ τ hh=>kI (RJ J) sdS v σ τ hh
theorem ko:SepL (dom (RJ J)) (fun _=>[]) ((bq P (-1)).map (a7 P P.length)):=w5 h.ord GP P.length (-1)
theorem B1:ChL (fun a=>(bq P a).map (a7 P P.length)) ((bq P (-1)).map (a7 P P.length)):=by
 have key:∀ l:List Int,(∀ c∈l,c∈bq P (-1))->ChL (fun a=>(bq P a).map (a7 P P.length)) (l.map (a7 P P.length)):=by
  intro l;induction l with
  | nil=>intro _;trivial
  | cons c l ih=>
    intro hl;obtain ⟨n,hn,rfl,_⟩:=aX.1 (hl c OG);rw [jt,ChL];exact ⟨zG h.ord.dP P.length n hn OC (qT _),ih fun x hx=>hl x (by simp [hx])⟩
 exact key _ fun _ hh=>hh
theorem Fu (σ:Asg ByteArray):enT (bC (RJ J) sdS) (fun v τ=>fl aU J P (bq P v) τ) (aD P) σ=enW (bC (RJ J) sdS) (aD P) σ:=by
 have:=enT_forest yS (ch:=fun a=>(bq P a).map (a7 P P.length)) [] (fun _=>rfl) _ σ (ko h) (B1 h);rw [xd,ij] at this;exact this
theorem B3 (σ:Asg ByteArray):fl bG J P (bq P (-1)) σ=(enW (bC (RJ J) sdS) (aD P) σ).length:=by
 rw [<-ij];exact BN yS (ko h) σ
theorem HO (σ:Asg ByteArray):fl aU J P (bq P (-1)) σ= !(enW (bC (RJ J) sdS) (aD P) σ).isEmpty:=by
 rw [<-ij];exact tY yS (ko h) σ
theorem iR:(enC J P (hoL J.S P) (aD P) (fun _=>none) 1).map (·.1)=enW (bC (RJ J) sdS) (aD P) fun _=>none:=by rw [xG,Fu h]
theorem y3:(o9 J P).length=fl bG J P (bq P (-1)) fun _=>none:=by
 rw [B3 h,<-iR h];simp [o9]
theorem sx {a:Int}:a∈aD P↔0<=a/\a<J.S.attrs.length:=by
 rw [(cf h.ord.dP).mem_iff,bx,h.ord.len];constructor
 ·rintro ⟨n,hn,rfl⟩;omega
 ·rintro ⟨h1,h2⟩;exact ⟨a.toNat,OC,OC⟩
theorem AR {τ:Asg ByteArray}:τ∈enW (bC (RJ J) sdS) (aD P) (fun _=>none)↔(∀ a,a∉aD P->τ a=none)/\(∀ a∈aD P,(τ a).isSome=true)/\∀ r<J.S.rels.length,Bd (RJ J) r τ=true:=by
 have hw:∀ v∈aD P,∀ σ,IsCand (RJ J) v σ (bC (RJ J) sdS v σ):=fun v hv σ=>by
  obtain ⟨h1,h2⟩:=(sx h).1 hv;obtain ⟨n,rfl⟩:=rK h1;exact E6 h n OC σ
 rw [nM hw (jD h.ord) fun _ _=>rfl];have e:(RJ J).A.length=J.S.rels.length:=by simp [RJ]
 rw [e];refine and_congr_right fun _=>and_congr_right fun _=>⟨fun hh r hr=>hh r hr ?_,fun hh r hr _=>hh r hr⟩
 rw [qX,ft hr];have hm:=aJ hr;obtain ⟨a,ha⟩:=List.exists_mem_of_ne_nil _ (h.ord.val.ne _ hm);exact ⟨a,(sx h).2 (h.ord.val.rng _ hm a ha),ha⟩
include hd
theorem HW {τ:Asg ByteArray} (ht:∀ a∈aD P,(τ a).isSome=true) {r:Nat} (hr:r<J.S.rels.length) {x:Rw} (hx:x∈dh J r) (e:agr (cy J r) τ x.v=true):wr J τ r=x.w:=by
 have hr3:r<J.T.length:=by rw [h.ok.n];exact hr
 have et:dh J r=J.T[r]:=by unfold dh;rw [sh,fI hr3];rfl
 have hs:∀ a∈cy J r,(τ a).isSome=true:=fun a ha=>by
  rw [ft hr] at ha;exact ht a ((sx h).2 (h.ord.val.rng _ (aJ hr) a ha))
 have hl:∀ z∈dh J r,z.v.length=(cy J r).length:=fun z hz=>by
  rw [et] at hz;rw [ft hr];exact h.ok.v r hr3 hr z hz
 have h1:=filter_one (l:=dh J r) (p:=fun z=>agr (cy J r) τ z.v) (by rw [et];exact hd _ (aJ _)) (v:=(cy J r).map fun a=>(τ a).getD eb) fun z hz hp=>((jC hs (hl z hz)).1 hp).symm
 have h2:x∈(dh J r).filter fun z=>agr (cy J r) τ z.v:=wU.2 ⟨hx,e⟩
 unfold wr;generalize (dh J r).filter (fun z=>agr (cy J r) τ z.v)=m at h1 h2;match m,h1,h2 with
 | [z],_,h2=>rw [fe] at h2;subst h2;simp [bY]
theorem wr_bd (hw:∀ l∈J.T,∀ x∈l,1<=x.w/\x.w<=100) {σ:Asg ByteArray} {r:Nat} (hr:r<J.S.rels.length) (ht:∀ a∈cy J r,(σ a).isSome=true) (k:Nat):1<=bY ((((dh J r).take k).filter fun x=>agr (cy J r) σ x.v).map (·.w))/\bY ((((dh J r).take k).filter fun x=>agr (cy J r) σ x.v).map (·.w))<=100:=by
 have hr3:r<J.T.length:=by rw [h.ok.n];exact hr
 have et:dh J r=J.T[r]:=by unfold dh;rw [sh,fI hr3];rfl
 have h1:=filter_one (l:=(dh J r).take k) (p:=fun z=>agr (cy J r) σ z.v) (by rw [et];exact IN (List.take_sublist _ _) (hd _ (aJ _))) (v:=(cy J r).map fun a=>(σ a).getD eb) fun z hz hp=>by
  have hz:=Kk hz;rw [et] at hz;exact ((jC ht (by rw [ft hr];exact h.ok.v r hr3 hr z hz)).1 hp).symm
 have h2:∀ x∈((dh J r).take k).filter (fun z=>agr (cy J r) σ z.v),1<=x.w/\x.w<=100:=fun x hx=>by
  have:=Kk (wU.1 hx).1;rw [et] at this;exact hw _ (aJ _) x this
 generalize ((dh J r).take k).filter (fun z=>agr (cy J r) σ z.v)=m at h1 h2;match m,h1,h2 with
 | [],_,_=>exact ⟨OE,OE⟩
 | [z],_,h2=>have:=h2 z OG;simp only [jt,Jl,bY,Int.mul_one];exact this
theorem Hx:IsJoin J.S J.T (o9 J P):=by
 have hlen:(iL J.S J.T).length=J.S.rels.length:=by unfold iL;rw [LP,rJ,h.ok.n,Nat.min_self]
 have hat:∀ r (hr:r<J.S.rels.length),(iL J.S J.T)[r]'(by rw [hlen];exact hr)=(cy J r,dh J r):=fun r hr=>by
  have hr3:r<J.T.length:=by rw [h.ok.n];exact hr
  unfold iL;rw [List.getElem_zip,Kg,ft hr];unfold dh;rw [sh,fI hr3];rfl
 have hw:∀ p∈enC J P (hoL J.S P) (aD P) (fun _=>none) 1,p.2=bY ((List.range J.S.rels.length).map fun r=>wr J p.1 r):=fun p hp=>by
  rw [Hg h.ord (aD P) 0 _ 1 O (eF _) (fun a=>by simp) p hp,Int.one_mul,vE ((uZ h.ord).map _)];unfold upZ;rw [Of];rfl
 have hrows:∀ {τ:Asg ByteArray} {r:Nat},(∀ a∈aD P,(τ a).isSome=true)->r<J.S.rels.length->∀ x∈dh J r,(agr (cy J r) τ x.v=true↔(cy J r).map (fun a=>(bH J.S.attrs.length τ).getD a.toNat eb)=x.v):=fun {τ r} ht hr x hx=>by
  have hr3:r<J.T.length:=by rw [h.ok.n];exact hr
  have et:dh J r=J.T[r]:=by unfold dh;rw [sh,fI hr3];rfl
  have hrg:∀ a∈cy J r,0<=a/\a<J.S.attrs.length:=fun a ha=>by rw [ft hr] at ha;exact h.ord.val.rng _ (aJ hr) a ha
  rw [et] at hx;rw [jC (fun a ha=>ht a ((sx h).2 (hrg a ha))) (by rw [ft hr];exact h.ok.v r hr3 hr x hx)];rw [Cz fun a ha=>(rN τ (hrg a ha).1 (hrg a ha).2).symm]
 have heq:∀ τ:Asg ByteArray,(List.range J.S.rels.length).map (fun r=>wr J τ r)=(iL J.S J.T).map fun p=>bY ((p.2.filter fun x=>agr p.1 τ x.v).map (·.w)):=fun τ=>by
  apply H2
  ·simp [hlen]
  ·intro r h1 h2;have hr:r<J.S.rels.length:=by simpa using h1
   rw [Kg,Kg,LY,hat r hr];rfl
 refine ⟨fun y=>?_,?_⟩
 ·unfold o9;rw [uF];constructor
  ·rintro ⟨p,hp,rfl⟩;refine ⟨ef _ _,?_⟩;have hm:p.1∈enW (bC (RJ J) sdS) (aD P) fun _=>none:=by rw [<-iR h];exact uF.2 ⟨p,hp,O⟩
   obtain ⟨_,ht,hs⟩:=(AR h).1 hm;show Ez _ _ p.2;rw [hw p hp,heq];refine sK fun q hq=>?_
   obtain ⟨r,hr,e⟩:=By hq;rw [hlen] at hr;rw [hat r hr] at e;subst e;have h1:=hs r hr;rw [oK] at h1;obtain ⟨x,hx,hag⟩:=IF.1 h1;exact ⟨x,hx,(hrows ht hr x hx).1 hag,HW h hd ht hr hx hag⟩
  ·rintro ⟨hl,hy⟩
   let τ:Asg ByteArray:=fun a=>if 0<=a/\a<J.S.attrs.length then some (y.v.getD a.toNat eb) else none
   have hto:∀ a∈aD P,(τ a).isSome=true:=fun a ha=>by
    show (if _ then _ else _:Option ByteArray).isSome=true;rw [og ((sx h).1 ha)];rfl
   have hvy:bH J.S.attrs.length τ=y.v:=by
    apply H2
    ·rw [ef,hl]
    ·intro i h1 h2;rw [ef] at h1;have e1:(bH J.S.attrs.length τ)[i]'(by rw [ef];exact h1)=(τ (i:Int)).getD eb:=by simp only [bH,Kg,LY]
     refine e1.trans ?_;show (if _ then _ else _:Option ByteArray).getD eb=_;rw [og OC,yR,sh,fI h2];rfl
   have hm:τ∈enW (bC (RJ J) sdS) (aD P) fun _=>none:=by
    refine (AR h).2 ⟨fun a ha=>?_,hto,fun r hr=>?_⟩
    ·show (if _ then _ else _:Option ByteArray)=none;rw [ga (mt (sx h).2 ha)]
    ·obtain ⟨x,hx,e⟩:=j4 hy (cy J r,dh J r) (by rw [<-hat r hr];exact aJ _);rw [oK];refine IF.2 ⟨x,hx,?_⟩;refine (hrows hto hr x hx).2 ?_;rw [hvy];exact e
   rw [<-iR h] at hm;obtain ⟨p,hp,e⟩:=uF.1 hm;refine ⟨p,hp,?_⟩;have e2:p.2=y.w:=by
    rw [hw p hp,heq];refine (yC (fun q hq x hx he=>?_) hy).symm;obtain ⟨r,hr,e3⟩:=By hq;rw [hlen] at hr;rw [hat r hr] at e3;subst e3;rw [e];refine HW h hd hto hr hx ((hrows hto hr x hx).2 ?_);rw [hvy];exact he
   rw [e,hvy,e2]
 ·unfold o9;have hn:((enC J P (hoL J.S P) (aD P) (fun _=>none) 1).map (·.1)).Nodup:=by
   rw [iR h];refine qM (fun v σ=>?_) (jD h.ord);unfold bC;split
   ·exact List.nodup_nil
   ·exact (qL _).filter _
  have hm:∀ p∈enC J P (hoL J.S P) (aD P) (fun _=>none) 1,(∀ a,a∉aD P->p.1 a=none)/\(∀ a∈aD P,(p.1 a).isSome=true):=fun p hp=>by
   have hm:p.1∈enW (bC (RJ J) sdS) (aD P) fun _=>none:=by rw [<-iR h];exact uF.2 ⟨p,hp,O⟩
   obtain ⟨h1,h2,_⟩:=(AR h).1 hm;exact ⟨h1,h2⟩
  generalize enC J P (hoL J.S P) (aD P) (fun _=>none) 1=L at hn hm;rw [List.pairwise_map];unfold List.Nodup at hn;rw [List.pairwise_map] at hn;refine List.Pairwise.imp_of_mem (fun {p q} hp hq hne e=>hne ?_) hn;funext a;by_cases ha:a∈aD P
  ·obtain ⟨h1,h2⟩:=(sx h).1 ha;have e1:=rN p.1 h1 h2;have e2:=rN q.1 h1 h2;simp only at e;rw [e,e2] at e1;obtain ⟨x,hx⟩:=tH.1 ((hm p hp).2 a ha);obtain ⟨z,hz⟩:=tH.1 ((hm q hq).2 a ha);rw [hx,hz] at e1;rw [hx,hz,show z=x from e1]
  ·rw [(hm p hp).1 a ha,(hm q hq).1 a ha]
end
theorem vd {l m:List Rw} (hl:Aj l) (hm:Aj m) (h:∀ y,y∈l↔y∈m):l=m:=by
 have irr:∀ {k:List Rw},Aj k->k.Nodup:=fun {k} hk=>hk.imp fun {a b} hab e=>by rw [e,cz] at hab;cases hab
 haveI:DecidableEq Rw:=fun a b=>Classical.propDecidable (a=b)
 refine List.Perm.eq_of_pairwise (le:=fun (a b:Rw)=>aZ a.v b.v=true) (fun a b _ _ h1 h2=>?_) hl hm (cu (irr hl) (irr hm) h);have:=cT h1 h2;rw [cz] at this;cases this
end
section
open Mk Jn
def iX (n:Nat) (l:List (Asg ByteArray×Int)):List Rw:=l.map fun p=>⟨bH n p.1,p.2⟩
theorem yU (n:Nat) (l m:List (Asg ByteArray×Int)):iX n (l++m)=iX n l++iX n m:=by simp [iX]
theorem Mc (n:Nat) (l:List (Asg ByteArray×Int)):(iX n l).length=l.length:=by simp [iX]
theorem zt (J:JD) (P:List Int):o9 J P=iX J.S.attrs.length (enC J P (hoL J.S P) (aD P) (fun _=>none) 1):=rfl
def enF (J:JD) (P:List Int) (v:Int) (vs:List Int) (σ:Asg ByteArray) (w:Int) (x:ByteArray):List (Asg ByteArray×Int):=if fl aU J P (bq P v) (put σ v x)=true then enC J P (hoL J.S P) vs (put σ v x) (rh J (put σ v x) w (hoL J.S P v)) else []
theorem Co (J:JD) (P:List Int) (v:Int) (vs:List Int) (σ:Asg ByteArray) (w:Int):enC J P (hoL J.S P) (v::vs) σ w=(bC (RJ J) sdS v σ).flatMap (enF J P v vs σ w):=rfl
theorem lY {α β:Type} {l:List α} {k:Nat} (h:k<l.length) (f:α->List β):(l.take (k+1)).flatMap f=(l.take k).flatMap f++f l[k]:=by
 rw [aR h,Jw];simp
theorem Dh {α β:Type} (f:α->List β) (l:List α) (j:Nat):((l.take j).flatMap f).length<=(l.flatMap f).length:=by
 conv=>rhs;rw [<-zj j l,Jw,a6]
 omega
theorem mF {w p:Int} {m:Nat} (h1:1<=w) (h2:w<=(100:Int)^m) (h3:1<=p) (h4:p<=100):1<=w*p/\w*p<=(100:Int)^(m+1):=by
 constructor
 ·have:=Int.mul_le_mul h1 h3 OE OC;omega
 ·rw [Int.pow_succ];exact Int.mul_le_mul h2 h4 OC OC
section
variable {J:JD} {P:List Int} {D:VD} (h:CtxV J P D) (hd:∀ l∈J.T,l.Pairwise fun a b=>a.v≠b.v) (hw:∀ l∈J.T,∀ x∈l,1<=x.w/\x.w<=100)
include h hd hw
theorem yi {σ:Asg ByteArray} {r:Nat} (hr:r<J.S.rels.length) (ht:∀ a∈cy J r,(σ a).isSome=true) {w:Int} {m:Nat} (h1:1<=w) (h2:w<=(100:Int)^m) (k:Nat):1<=tW J σ r w ((dh J r).take k)/\tW J σ r w ((dh J r).take k)<=(100:Int)^(m+1):=by
 rw [uL];have:=wr_bd h hd hw hr ht k;exact mF h1 h2 this.1 this.2
theorem zX {σ:Asg ByteArray} {rs:List Int} (hr:∀ r∈rs,∃ k:Nat,r=(k:Int)/\k<J.S.rels.length/\∀ a∈cy J k,(σ a).isSome=true) {w:Int} {m:Nat} (h1:1<=w) (h2:w<=(100:Int)^m):∀ j,j<=rs.length->1<=rh J σ w (rs.take j)/\rh J σ w (rs.take j)<=(100:Int)^(m+j)
 | 0,_=>by
   rw [List.take_zero];exact ⟨h1,h2⟩
 | j+1,hj=>by
   have ih:=zX hr h1 h2 j OC;rw [pc J σ w (show j<rs.length by omega)];obtain ⟨k,e,hk,ht⟩:=hr _ (aJ (show j<rs.length by omega));rw [e,yR];have:=yi h hd hw hk ht ih.1 ih.2 (dh J k).length;rwa [J4,Ov] at this
end
section
variable {J:JD} {P:List Int} (h:OrdOk J.S P)
include h
theorem H4 {n:Nat} (hn:n<P.length) {σ:Asg ByteArray} (ha:At P n σ) (x:ByteArray):∀ r∈hoL J.S P n,∃ k:Nat,r=(k:Int)/\k<J.S.rels.length/\∀ a∈cy J k,(Jn.put σ n x a).isSome=true:=fun r hr=>by
 obtain ⟨k,hk,e,e2⟩:=iQ.1 hr;refine ⟨k,e,hk,fun a hka=>?_⟩;rw [ft hk] at hka;exact ub h hn ha x (aJ hk) e2 a hka
omit h in
theorem GB {i:Nat} (hi:i<(aD P).length):(((aD P).take (i+1)).flatMap (hoL J.S P)).length=(((aD P).take i).flatMap (hoL J.S P)).length+(hoL J.S P (aD P)[i]).length:=by
 rw [lY hi,a6]
theorem Bz {σ:Asg ByteArray} {now:List ByteArray} (hn:NowOk J.S.attrs.length σ now) (hp:Pre P (aD P).length σ):now=bH J.S.attrs.length σ:=by
 apply H2
 ·rw [hn.l,ef]
 ·intro i h1 h2;have hi:i<J.S.attrs.length:=by rw [<-hn.l];exact h1
  have hm:(i:Int)∈(aD P).take (aD P).length:=by
   rw [J4];exact (cf h.dP).mem_iff.2 (bx.2 ⟨i,by rw [h.len];exact hi,O⟩)
  obtain ⟨x,hx⟩:=tH.1 ((hp _).2 hm);rw [hn.e i h1 x hx];simp [bH,hx]
end
end
section
open Mk Jn
section
variable {C:Ctx} {n:Nat} {σ:St} {dst:Option Tmp} {ty t t':TypeId} {pos:String} {after:Array Edge} {gd:Option (Nat×Bool)} {x:Operand}
theorem v7 {e:TypeId} {id sz k:Nat} {o:Ob} (hu:C.P.underlying t=some (.slice e)) (hx:σ.ev n x= .osl id sz k) (ho:σ.ob id=some o) (hre:o.real=true:=by rfl):
  XJ C n ⟨dst,.binOp .eql t x (.const (.slice none 0 0)) t',ty,pos,after,gd⟩ σ ⟨.pv (.bool false),[],[]⟩:=by
 rintro a w Q ⟨m,R,hw⟩;obtain ⟨b,N,c,e1,_,_,_,_,_⟩:=hw.osl hx ho hre;have hc:a.eval (.const (.slice none 0 0))= .slice none 0 0:=rfl;have hrun:(execOp a.eval ⟨dst,.binOp .eql t x (.const (.slice none 0 0)) t',ty,pos,after,gd⟩).run C.P w= .ok (.value (.bool false)) w:=by
  simp [execOp,e1,eqGuard,binOp,hc,run_equal_slice_nil _ _ _ _ _ _ hu]
 unfold Oper.wp;rw [hrun];exact ⟨_,O,m,R,St.dX σ dst _▸hw.put dst (by simp only [Rel,RelP])⟩
end
theorem rS (l:List ByteArray) (n:Nat) (hn:l.length=n) (hl:n<=1000000):FnO Tryz.prog 99 1 0 [.osl big 1 n] [(big,cB l)] (fun v ob'=>v= .pv (aI l)/\ob'=ar [(big,cB l)]):=by
 refine FnO.of func99 O ntmps99 OG fun m0 w0 F R0=>?_
 refine Z1 O O<|Z1 O O<|Rs 4 O O (v7 underlying47 O O) ?_;refine Gc O O (fun hc4=>absurd hc4 OG) (fun hc4=>?_);refine Il<|Gr O<|Rs 5 O O (ek 0 uq O)<|A1 O<|Rs 7 O O (fc 1 uq O O O (.inr ⟨_,_,_,_,O,O,O⟩) (by simp [hn]) (fun c hc=>by obtain ⟨y,_,rfl⟩:=uF.1 (Kk hc);rfl) OC O) ?_;exact A1 O<|Im (Ir 1 O O)<|Im (St.uQ [2])<|Gt O<|⟨[(2,.pv (aI l))],[(big,cB l)],[.pv (aI l)],Io ⟨(show V.pv (.sl none (0+n) ([]++(aA l).take (n*1)))= .pv (.sl none l.length (aA l)) by rw [Dq,Ew,bk (by simp [hn]),hn]),OK⟩ (aO OD) O O,O,O,O,O,O⟩
abbrev choV:V:= .fn (.func 98) [] [.ptr 9006 0,.ptr 9007 0,.ptr 9008 0]
abbrev choA (i:Nat) (w:Int):List V:=[.pv (.int .i64 i),.pv (.int .i64 w),.ptr 9006 0,.ptr 9007 0,.ptr 9008 0]
abbrev oT (J:JD) (D:VD) (σ:Asg ByteArray) (now:List ByteArray) (M:List (ByteArray×Bool)) (g:Nat) (L:List Rw):List (Nat×Ob):=[(big,oB (wdB D) 9004 9001 J.S.attrs.length 9002 9003),(9001,.cells 9 (aA now)),(9002,.cells 4 (ay (stL σ J.S.attrs.length))),(9003,.mp (ba M) (bB M)),(9004,oX2 J 9005),(9005,.mp J.pk J.pv),(9006,.mix 139 [.ptr big 0]),(9007,.mix 38 [.gsl g 2 L.length]),(9008,.mix 141 [choV]),(g,.gro 49 (aB L))]
def GY (J:JD) (P:List Int) (i:Nat):Nat:=(((aD P).take i).flatMap (hoL J.S P)).length
def DG (J:JD) (P:List Int) (D:VD) (i:Nat):Prop:=∀ σ now M w L,Pre P i σ->ZfA σ->SzA σ->NowOk J.S.attrs.length σ now->iz aU J P M->1<=w->w<=(100:Int)^GY J P i->L.length+(enC J P (hoL J.S P) ((aD P).drop i) σ w).length<=1000000->
 FnO Tryz.prog 98 10 1 (choA i w) (oT J D σ now M 9009 L) (fun v ob'=>∃ now' M',NowOk J.S.attrs.length σ now'/\iz aU J P M'/\v= .tup []/\ob'=ar (oT J D σ now' M' 0 (L++iX J.S.attrs.length (enC J P (hoL J.S P) ((aD P).drop i) σ w))))
theorem CF (J:JD) (P:List Int) (D:VD) (h:CtxV J P D) (hwa:D.wa=aD P):DG J P D (aD P).length:=by
 intro σ now M w L hpre hz hsz hn hM hw1 hw2 hL;rw [List.drop_length] at hL ⊢;have hfull:=Bz h.ord hn hpre;have hnl:=hn.l;have hna:=h.ok.s.a;have hcl:=rS now J.S.attrs.length hnl OC;have hLl:L.length+1<=1000000:=hL;have hsl:(aB L).length=L.length*2:=aK L;have hfin:L++iX J.S.attrs.length (enC J P (hoL J.S P) [] σ w)=L++[⟨now,w⟩]:=by rw [enC,hfull];rfl
 have hlen:(L++[(⟨now,w⟩:Rw)]).length=L.length+1:=OG;rw [hfin];refine FnO.of func98 O ntmps98 OG fun m0 w0 F R0=>?_
 rw [<-hwa] at*;refine Z1 O O ?_;first | refine A1 O ?_ | refine A2 O OF ?_
 iterate 6 refine A1 O ?_
 refine Gc O O (fun hc22=>?_) (fun hc22=>absurd hc22 OG);refine Ge O follows [0,1,2,3,4,5,6,7,8,9,10] OD ?_;first | refine D1 O O ?_ | refine D2 O O OF ?_
 first | refine D1 O O ?_ | refine D2 O O OF ?_
 iterate 3 refine D1 O O ?_
 refine Ds 28 [9001] O O O (fun τ h=>ah [9001] 0 call99 hcl (h.args.trans O) O O O ⟨(Eo h 0 O O),OK⟩ OE O) O OD ?_;iterate 5 refine D1 O O ?_
 refine ⟨OD,?_⟩;exact Gt O<|⟨[],oT J D σ now M 0 (L++[⟨now,w⟩]),[],Is [1] trivial ⟨OD,OD,OD,OD,OD,OD,OD,ry (b:=some (.mix 38 [.gsl 1 2 (L.length+1)])) OD (af (fun n=>some (Ob.mix 38 [.gsl 1 2 n])) hlen.symm),OD,ry (b:=some (.gro 49 (aB L++eV ⟨now,w⟩))) OD (af (fun c=>some (Ob.gro 49 c)) (dW L ⟨now,w⟩)),OK⟩ O O OE O,O,O,O,now,M,hn,hM,O,O⟩
theorem H9 {a b:Int} (h1:1<=a) (h2:a<=(100:Int)^7) (h3:1<=b) (h4:b<=100): -9223372036854775808<=a*b/\a*b<=9223372036854775807:=by
 have:=mF (m:=7) h1 h2 h3 h4;have e:(100:Int)^(7+1)=10000000000000000:=OE;rw [e] at this;omega
theorem F1 {w:Int} {m:Nat} (h:w<=(100:Int)^m) (hm:m<=7):w<=(100:Int)^7:=Int.le_trans h (by
 have:(100:Nat)^m<=100^7:=Kf OE hm
 exact_mod_cast this)
theorem CK (J:JD) (P:List Int) (D:VD) (h:CtxV J P D) (hd:∀ l∈J.T,l.Pairwise fun a b=>a.v≠b.v) (hw100:∀ l∈J.T,∀ x∈l,1<=x.w/\x.w<=100) (hr6:J.S.rels.length<=6) (hwa:D.wa=aD P) (hho:∀ v (hv:v<D.hos.length),D.hos[v]=hoL J.S P v)
  (i:Nat) (hi:i<(aD P).length) (hrec:DG J P D (i+1)):DG J P D i:=by
 intro σ now M w L hpre hz hsz hn hM hw1 hw2 hL;obtain ⟨n,hnP,hwn,hat⟩:=hpre.at h.ord hi;have hP:=h.ord.dP;have hlen:=h.len;have hn64:=h.n64;have hJ:=h.ok;have hva:n<J.S.attrs.length:=OC;have hself:=hat.self hnP;have hdr:(aD P).drop i=(n:Int)::(aD P).drop (i+1):=by rw [C0 hi,hwn]
 rw [hdr,Co] at hL ⊢;have hmi:GY J P (i+1)=GY J P i+(hoL J.S P n).length:=by unfold GY;rw [GB hi,hwn]
 have hm6:GY J P (i+1)<=6:=uv (Hk h.ord (i+1)) hr6;have hcand:=mK J h.ok h.t12 (wdB D) σ now hn (ba M) (bB M) n hva hself (h.wv n hva);have htn:=ki hn hva hself (jx J n σ);have hcok:=h.s8 n σ;have hcle:=gm h.t12 n σ;have hbr:=fun now2 M2 x hx1 hx2 h2 h3=>w3 J P D h n hnP σ now2 M2 x hat hz hsz hx1 hx2 h2 h3
 have hvo:n<D.hos.length:=by rw [h.hl];exact hnP
 have hov:=cM hvo;have hon:=cQ hvo;have hoh:=h.ho _ (aJ hvo);rw [hho n hvo] at hov hoh;have hset:=fun x=>H4 h.ord hnP hat x
 have hagr:=fun x now2 M2 (h2:NowOk J.S.attrs.length σ now2) r (hr:r<J.S.rels.length) y (hy:y.v.length=J.S.rels[r].2.length)=>dV J hJ (wdB D) (put σ n x) (now2.set n x) (h2.put hva x) (ba M2) (bB M2) r hr y hy
 have hvb:=fun x=>zX h hd hw100 (hset x) hw1 hw2
 have hrb:=fun x (r:Nat) (hr:r<J.S.rels.length) (ht:∀ a∈cy J r,(put σ n x a).isSome=true) (w2:Int) (m:Nat) (h1:1<=w2) (h2:w2<=(100:Int)^m) k=>yi h hd hw100 hr ht h1 h2 k
 have hpp:=fun x=>hpre.put hi x
 rw [hwn] at hpp;have hgo:=fun x now2 M2 L2 (hx1:Zf x) (hx2:x.size<=10000) (h2:NowOk J.S.attrs.length σ now2) (h3:iz aU J P M2) h4 h5 h6=>hrec (put σ n x) (now2.set n x) M2 (rh J (put σ n x) w (hoL J.S P n)) L2 (hpp x) (hz.put n hx1) (hsz.put n hx2) (h2.put hva x) h3 h4 h5 h6
 have hwl:i<D.wa.length:=by rw [hwa];exact hi
 have hwp:(aE D.wa)[i*1]? =some (.int .i64 (n:Int)):=by
  have:D.wa[i]'hwl=(n:Int):=by rw [<-hwn];congr 1
  rw [<-this];simp [hwl]
 have hwne:=aH hwl;have hwll:D.wa.length<=1000:=by rw [hwa,(cf hP).length_eq,a8];omega
 have hun:∀ x now2,NowOk J.S.attrs.length (put σ n x) now2->NowOk J.S.attrs.length σ now2:=fun x now2 h4=>by have:=h4.un (n:Int);rwa [cO hself] at this
 have hnl:∀ now2,NowOk J.S.attrs.length σ now2->(aA now2).length=J.S.attrs.length:=fun now2 h2=>by rw [rJ,h2.l]
 have hsl:(ay (stL σ J.S.attrs.length)).length=J.S.attrs.length:=by rw [rJ,cK]
 have hsl2:∀ x,(ay (stL (put σ n x) J.S.attrs.length)).length=J.S.attrs.length:=fun x=>by rw [rJ,cK]
 have hs1:=fun (now2:List ByteArray) x=>ix (l:=now2) (a:=n) x
 have hs2:=fun x=>kZ (σ:=σ) hva x
 have hs3:∀ x,(ay (stL (put σ n x) J.S.attrs.length)).set (n*1) (.bool false)=ay (stL σ J.S.attrs.length):=fun x=>by rw [qO hva,cO hself]
 have hfx:∀ x,enF J P n ((aD P).drop (i+1)) σ w x=if fl aU J P (bq P n) (put σ n x)=true then enC J P (hoL J.S P) ((aD P).drop (i+1)) (put σ n x) (rh J (put σ n x) w (hoL J.S P n)) else []:=fun x=>rfl
 have hiv:¬ (i:Int)=D.wa.length:=OC;refine FnO.of func98 O ntmps98 OG fun m0 w0 F R0=>?_
 have hsetk:=hset;clear hrec hpp hset hpre hwn hdr hho hwa;generalize jx J n σ=CL at*;generalize bC (RJ J) sdS n σ=C at*;generalize enF J P n ((aD P).drop (i+1)) σ w=fx at*;generalize hoL J.S P n=Hs at*;refine Z1 O O ?_;first | refine A1 O ?_ | refine A2 O OF ?_
 iterate 6 refine A1 O ?_
 refine Gc O O (fun hc22=>absurd hc22 (fun e=>hiv (by simpa using e))) (fun hc22=>?_);refine Il<|Gr O ?_;first | refine A1 O ?_ | refine A2 O OF ?_
 iterate 5 refine A1 O ?_
 refine Rs 39 O O (ag i underlying22 sz3 O O O hwl hwne)<|Rs 40 O O (ai ⟨_,underlying3,O⟩ O hwp)<|A1 O<|Gr O ?_;first | refine A1 O ?_ | refine A2 O OF ?_
 refine A1 O<|Rs 43 O O (ah six 0 call100 hcand O O O O ⟨O,O,O,O,O,O,OK⟩ OE O)<|Y2 O O ?_;refine Gl O (st:=fun x_0:Nat×List ByteArray×List (ByteArray×Bool)×List Rw=>mkS [(0,.pv (.int .i64 i)),(1,.pv (.int .i64 w)),(2,.ptr 9006 0),(4,.ptr 9008 0),(7,.pv (.int .i64 n)),(43,.pv (aI C)),(44,.pv (.int .i64 C.length)),(45,.pv (.int .i64 x_0.1))] [(big,oB (wdB D) 9004 9001 J.S.attrs.length 9002 9003),(0,.gro 49 (aB x_0.2.2.2)),(9001,.cells 9 (aA x_0.2.1)),(9002,.cells 4 (ay (stL σ J.S.attrs.length))),(9003,.mp (ba x_0.2.2.1) (bB x_0.2.2.1)),(9004,oX2 J 9005),(9005,.mp J.pk J.pv),(9006,.mix 139 [.ptr big 0]),(9007,.mix 38 [.gsl 0 2 x_0.2.2.2.length]),(9008,.mix 141 [choV])] 1)
  (I:=fun x_0=>(x_0.1<=C.length/\NowOk J.S.attrs.length σ x_0.2.1)/\iz aU J P x_0.2.2.1/\x_0.2.2.2=L++iX J.S.attrs.length ((C.take x_0.1).flatMap fx)) (μ:=fun x_0=>C.length-x_0.1) (x0:=(0,tst now n CL,M,L)) (Is [9009] (aT O) (aP OD) O O OE O) (⟨⟨eF _,htn⟩,hM,by simp [iX]⟩) ?_
 rintro ⟨k,now2,M2,L2⟩ ⟨⟨hk,hn2⟩,hM2,hL2⟩;try simp only at hk hn2 hM2 hL2 ⊢
 refine Z1 O O ?_;refine Gp O O (fun hc46=>?_) (fun hc46=>?_)
 ·have hlt:k<C.length:=OC;have hv2:=aM hlt;have hne2:=bc hlt;obtain ⟨hx1,hx2⟩:=hcok _ (aJ hlt);have hbk:=fun now2 M2=>hbr now2 M2 C[k] hx1 hx2
  have hsucc:=lY hlt fx;have hle:=Dh fx C (k+1);have hfk:=hfx C[k];have hagk:=hagr C[k];have hvbk:=hvb C[k];have hrbk:=hrb C[k];have hgk:=fun now2 M2 L2=>hgo C[k] now2 M2 L2 hx1 hx2
  have hunk:=hun C[k];have hsl2k:=hsl2 C[k];have hs1k:=fun now2=>hs1 now2 C[k]
  have hs2k:=hs2 C[k];have hs3k:=hs3 C[k];have hsek:=hsetk C[k];generalize C[k]=x at*;generalize hfg:fl aU J P (bq P n) (put σ n x)=fb at*;generalize put σ n x=σ2 at*;refine Il<|Z1 O O ?_;first | refine A2 O OF ?_ | refine A1 O ?_
  refine A1 O<|Gr O ?_;first | refine A1 O ?_ | refine A2 O OF ?_
  refine Y2 O O ?_;refine RL.call O (OJ.mono (Gh call101 (hbk now2 M2 hn2 hM2) vj O O O ⟨O,O,O,O,O,O,OK⟩) ?_);rintro _ ⟨_,⟨_,_,_,⟨now3,M3,hn3,hM3,rfl,rfl,rfl⟩,rfl⟩,_,_,rfl⟩;refine A1 O ?_;refine Gc O O (fun hc53=>?_) (fun hc53=>?_)
  ·have hff:fb=false:=by simpa using hc53
   rw [hff,ga OE] at hfk;rw [hfk,xd] at hsucc;exact Gx O<|Z2 O O O<|⟨(k+1,now3,M3,L2),Io (aS O) (aO OD) O O,⟨⟨OI,hn3⟩,hM3,by simp only;rw [hsucc];exact hL2⟩,OI⟩
  ·have hff:fb=true:=by simpa using hc53
   rw [hff,og O] at hfk;have hnl3:=hnl now3 hn3;have hnp3:=hs1k now3;have hag3:=hagk now3 M3 hn3;refine Il<|Ge O follows [0,1,2,3,4,5,6,7,8,9,10,11,12,13,14] OD ?_;first | refine D1 O O ?_ | refine D2 O O OF ?_
   iterate 4 refine D1 O O ?_
   first | refine D1 O O ?_ | refine D2 O O OF ?_
   iterate 5 refine D1 O O ?_
   refine Ds 65 [_] O O O (fun τ h=>aa n underlying47 sz9 (Ee h 0 O O) (Eo h 0 O O) (Ee h 1 O O) O OC) O OD<|DL.step (d:=none) [_] O O O (fun τ h=>aF sz9 (Ee h 0 O O) (Eo h 0 O O) (Ee h 1 O O) O OC) O OD<|Ds 66 [_] O O O (fun τ h=>aa n underlying115 sz4 (Ee h 0 O O) (Eo h 0 O O) (Ee h 1 O O) O OC) O OD<|DL.step (d:=none) [_] O O O (fun τ h=>aF sz4 (Ee h 0 O O) (Eo h 0 O O) (Ee h 1 O O) O OC) O OD ?_;refine ⟨OD,?_⟩;refine Im (Io (l:=[(0,.pv (.int .i64 i)),(1,.pv (.int .i64 w)),(2,.ptr 9006 0),(4,.ptr 9008 0),(7,.pv (.int .i64 n)),(9,.pv (.str x)),(43,.pv (aI C)),(44,.pv (.int .i64 C.length)),(45,.pv (.int .i64 k))]) (os:=oT J D σ2 (now3.set n x) M3 0 L2) (k:=1) (aS O) ⟨OD,af (fun c=>some (Ob.cells 9 c)) hnp3,af (fun c=>some (Ob.cells 4 c)) hs2k,OD,OD,OD,OD,OD,OD,OD,OK⟩ O O)<|Z2 O O O<|Gr O ?_;first | refine A1 O ?_ | refine A2 O OF ?_
   iterate 5 refine A1 O ?_
   refine Rs 74 O O (ag n underlying142 ly O O O hvo hon)<|Rs 75 O O (ai ⟨_,underlying22,O⟩ O hov)<|Y2 O O ?_;refine Gl O (st:=fun x_1:Nat=>mkS [(0,.pv (.int .i64 i)),(1,.pv (.int .i64 w)),(2,.ptr 9006 0),(4,.ptr 9008 0),(7,.pv (.int .i64 n)),(10,.pv (.int .i64 (rh J σ2 w (Hs.take x_1)))),(43,.pv (aI C)),(44,.pv (.int .i64 C.length)),(45,.pv (.int .i64 k)),(75,.pv (ak Hs)),(76,.pv (.int .i64 Hs.length)),(77,.pv (.int .i64 x_1))] [(big,oB (wdB D) 9004 9001 J.S.attrs.length 9002 9003),(0,.gro 49 (aB L2)),(9001,.cells 9 (aA (now3.set n x))),(9002,.cells 4 (ay (stL σ2 J.S.attrs.length))),(9003,.mp (ba M3) (bB M3)),(9004,oX2 J 9005),(9005,.mp J.pk J.pv),(9006,.mix 139 [.ptr big 0]),(9007,.mix 38 [.gsl 0 2 L2.length]),(9008,.mix 141 [choV])] 1)
    (I:=fun x_1=>x_1<=Hs.length) (μ:=fun x_1=>Hs.length-x_1) (x0:=(0)) (Io (aS O) (aO OD) O O) (eF _) ?_
   rintro j hj;refine Z1 O O ?_;refine Gp O O (fun hc78=>?_) (fun hc78=>?_)
   ·have hltj:j<Hs.length:=OC;have hHl:=hoh.1;obtain ⟨hr0,hr1⟩:=hoh.2 _ (aJ hltj);obtain ⟨r',hre,_,hset'⟩:=hsek _ (aJ hltj);obtain ⟨r,hr⟩:=rK hr0;have hrr:r'=r:=OC;subst hrr;have hrl:r'<J.S.rels.length:=OC;have hpv:(aE Hs)[j*1]? =some (.int .i64 (r':Int)):=by rw [<-hr];simp [hltj]
    have hpn:=aH hltj;have hrT:r'<J.T.length:=by rw [hJ.n];exact hrl
    have htr:=cD hrT;have htn:=dN hrT;have hTl:=hJ.l _ (aJ hrT);have hxv:=hJ.v r' hrT hrl;have hwv:=hw100 _ (aJ hrT);have hga:=fun (q:Nat) (hq:q<J.T[r'].length)=>hag3 r' hrl J.T[r'][q] (hxv _ (aJ hq))
    have hvj:=hvbk j OC;have hwt:=pc J σ2 w hltj;rw [hr,yR] at hwt;have htb:dh J r'=J.T[r']:=by unfold dh;rw [sh,fI hrT];rfl
    have hrj:=hrbk r' hrl hset' _ _ hvj.1 hvj.2;have hrt:=fun (q:Nat) (hq:q<J.T[r'].length)=>Ba J σ2 r' (rh J σ2 w (Hs.take j)) hq
    rw [ft hrl] at hrt;rw [htb] at hrj hwt;generalize J.T[r']=tf at*;generalize hwj:rh J σ2 w (Hs.take j)=wj at*;refine Il<|Z1 O O<|Rs 80 O O (ai ⟨_,underlying3,O⟩ O hpv)<|A1 O<|Gr O ?_;first | refine A1 O ?_ | refine A2 O OF ?_
    iterate 7 refine A1 O ?_
    refine Rs 89 O O (ag r' underlying35 qk O O O hrT htn)<|Rs 90 O O (ai ⟨_,underlying38,O⟩ O htr)<|Y2 O O ?_;refine Gl O (st:=fun x_2:Nat=>mkS [(0,.pv (.int .i64 i)),(1,.pv (.int .i64 w)),(2,.ptr 9006 0),(4,.ptr 9008 0),(7,.pv (.int .i64 n)),(10,.pv (.int .i64 (tW J σ2 r' wj (tf.take x_2)))),(12,.pv (.int .i64 (r':Int))),(43,.pv (aI C)),(44,.pv (.int .i64 C.length)),(45,.pv (.int .i64 k)),(75,.pv (ak Hs)),(76,.pv (.int .i64 Hs.length)),(77,.pv (.int .i64 j)),(90,.pv (bL tf)),(91,.pv (.int .i64 tf.length)),(92,.pv (.int .i64 x_2))] [(big,oB (wdB D) 9004 9001 J.S.attrs.length 9002 9003),(0,.gro 49 (aB L2)),(9001,.cells 9 (aA (now3.set n x))),(9002,.cells 4 (ay (stL σ2 J.S.attrs.length))),(9003,.mp (ba M3) (bB M3)),(9004,oX2 J 9005),(9005,.mp J.pk J.pv),(9006,.mix 139 [.ptr big 0]),(9007,.mix 38 [.gsl 0 2 L2.length]),(9008,.mix 141 [choV])] 1)
     (I:=fun x_2=>x_2<=tf.length) (μ:=fun x_2=>tf.length-x_2) (x0:=(0)) (Io (aS O) (aO OD) O O) (eF _) ?_
    rintro k3 hk3;refine Z1 O O ?_;refine Gp O O (fun hc93=>?_) (fun hc93=>?_)
    ·have hlt3:k3<tf.length:=OC;have hrw:=aN hlt3;have hrn:=aW hlt3;have hgk3:=hga k3 hlt3;have hwk3:=hwv _ (aJ hlt3);have hrk3:=hrt k3 hlt3;have hbk3:=hrj k3;have hmul:=H9 hbk3.1 (F1 hbk3.2 OC) hwk3.1 hwk3.2;generalize tW J σ2 r' wj (tf.take k3)=wz at*;generalize tf[k3]=y at*;generalize hbg:agr J.S.rels[r'].2 σ2 y.v=b at*;refine Il<|Z1 O O ?_;first | refine A3 O OF ?_ | refine A1 O ?_
     refine Y2 O O<|Gr O ?_;first | refine A1 O ?_ | refine A2 O OF ?_
     refine Y2 O O<|Rs 99 O O (ah six 2 call102 hgk3 O O O O ⟨OD,OD,OD,OD,OD,OD,OK⟩ OE O) ?_;refine Gc O O (fun hc99=>?_) (fun hc99=>?_)
     ·rw [og hc99] at hrk3;exact Z3 O O O O<|Rs 103 O O (qa O O hmul)<|A1 O<|Z2 O O O<|⟨(k3+1),Io ⟨O,O,O,O,O,af (fun z=>V.pv (.int .i64 z)) hrk3.symm,O,O,O,O,O,O,O,O,O,O,OK⟩ (aO OD) O O,OC,OC⟩
     ·rw [ga (by rw [hc99];decide)] at hrk3;exact Il<|Z2 O O O<|⟨(k3+1),Io ⟨O,O,O,O,O,af (fun z=>V.pv (.int .i64 z)) hrk3.symm,O,O,O,O,O,O,O,O,O,O,OK⟩ (aO OD) O O,OC,OC⟩
    ·rw [show tf.take k3=tf from bk OC];exact Gx O<|Z2 O O O<|⟨(j+1),Io ⟨O,O,O,O,O,af (fun z=>V.pv (.int .i64 z)) hwt.symm,O,O,O,O,O,O,OK⟩ (aO OD) O O,OC,OC⟩
   ·rw [show Hs.take j=Hs from bk OC];have hvn:=hvbk Hs.length (qT _);rw [J4] at hvn;rw [hsucc,a6,hfk] at hle;have hL2l:L2.length=L.length+((C.take k).flatMap fx).length:=by rw [hL2,a6,Mc]
    have hgo4:=hgk now3 M3 L2 hn3 hM3 hvn.1 (by rw [hmi];exact hvn.2) OC;generalize hEg:enC J P (hoL J.S P) ((aD P).drop (i+1)) σ2 (rh J σ2 w Hs)=E at*;refine Gx O<|Gr O ?_;first | refine A1 O ?_ | refine A2 O OF ?_
    refine Y3 O O O ?_;refine RL.call O (qx [big,9001,9002,9003,9004,9005,9006,9007,9008,0] 1 call98 hgo4 O O O O O ⟨OD,OD,OD,OD,OD,OD,OD,OD,OD,OD,OK⟩ OE O ?_);rintro _ _ ⟨now4,M4,hn4,hM4,rfl,rfl⟩;refine Gr O ?_;first | refine A1 O ?_ | refine A2 O OF ?_
    iterate 4 refine A1 O ?_
    exact Rs 116 O O (aa n underlying115 sz4 O O O O OC)<|RL.step (d:=none) O O (aF sz4 O O O O OC)<|Z2 O O O<|⟨(k+1,now4,M4,L2++iX J.S.attrs.length E),Ip [1] (aT O) ⟨OD,OD,OD,ry (b:=some (Ob.cells 4 ((ay (stL σ2 J.S.attrs.length)).set (n*1) (.bool false)))) OD (af (fun c=>some (Ob.cells 4 c)) hs3k),OD,OD,OD,OD,OD,OD,OK⟩ O O OE O,⟨⟨OI,hunk _ hn4⟩,hM4,by simp only;rw [hsucc,hfk,yU,hL2,xJ]⟩,OI⟩
 ·rw [show C.take k=C from bk OC] at hL2;exact Gx O<|⟨[],oT J D σ now2 M2 0 L2,[],Io trivial (aO OD) O O,O,O,O,now2,M2,hn2,hM2,O,by rw [<-hL2]⟩
theorem Ey (J:JD) (P:List Int) (D:VD) (h:CtxV J P D) (hd:∀ l∈J.T,l.Pairwise fun a b=>a.v≠b.v) (hw100:∀ l∈J.T,∀ x∈l,1<=x.w/\x.w<=100) (hr6:J.S.rels.length<=6) (hwa:D.wa=aD P) (hho:∀ v (hv:v<D.hos.length),D.hos[v]=hoL J.S P v):∀ k i,i+k=(aD P).length->DG J P D i
 | 0,i,e=>by
   obtain rfl:i=(aD P).length:=OC;exact CF J P D h hwa
 | k+1,i,e=>CK J P D h hd hw100 hr6 hwa hho i OC (Ey J P D h hd hw100 hr6 hwa hho k (i+1) OC)
end
section
section
variable {C:Ctx} {n:Nat} {σ:St} {a:Act} {w:World} {m:Gm} {R:Nat->Prop}
theorem SW.HI (h:SW C n σ a w m R) {w':World} {g:Nat} {arr:Array Value} {ty:TypeId} (hg:w'.heap[g]? =some (.cells arr ty (0,0))) {row:Option Nat} (hgr:w.grownBy w' row) (hrow:∀ k,row=some k->¬ R k/\(∀ i b N,m i=some (b,N)->b≠k)/\(C.F k\/C.w0.heap.size<=k))
  (hgm:∀ i b N,m i=some (b,N)->b≠g) (hgF:C.F g\/C.w0.heap.size<=g):SW C n σ a w' m (fun b=>R b\/b=g):=by
 have hblk:∀ k,k<w.heap.size->(∀ q,row=some q->k≠q)->w'.heap[k]? =w.heap[k]? :=fun k hk hne=>hgr.block k hk (fun e=>hne k e.symm O)
 have hgs:g<w'.heap.size:=(Ld.1 hg).1;have hR:∀ b,R b->(R b\/b=g)/\w'.heap[b]? =w.heap[b]? :=fun b hb=>⟨.inl hb,hblk b (h.hr.rsz b hb) (fun q hq e=>(hrow q hq).1 (e▸hb))⟩
 refine h.world ⟨h.hr.dom,h.hr.free,?_,h.hr.inj,?_,?_,?_,fun b hb=> .inl (h.hr.r0 b hb),?_,h.hr.keep,h.hr.res⟩ hR (fun _ _ _ e=>e) (fun _ e=>e)
 ·intro i o b N h1 h2;exact (h.hr.obj i o b N h1 h2).mono hR (fun _ _ _ e=>e) (fun _ e=>e) (hblk b (h.hr.own i b N h2).1 (fun q hq=>(hrow q hq).2.1 i b N h2))
 ·intro i b N h1;obtain ⟨h2,h3,h4⟩:=h.hr.own i b N h1;refine ⟨IP h2 hgr.size,?_,h4⟩;rintro (h5 | h5)
  ·exact h3 h5
  ·exact hgm i b N h1 h5
 ·rintro b (hb | hb)
  ·exact IP (h.hr.rsz b hb) hgr.size
  ·rw [hb];exact hgs
 ·rintro b (hb | hb)
  ·exact h.hr.rfr b hb
  ·rw [hb];exact .inr (hgF.symm)
 ·refine ⟨hgr.os.trans h.hr.frame.os,hgr.tape.trans h.hr.frame.tape,hgr.output.trans h.hr.frame.output,uv h.hr.frame.size hgr.size,?_⟩;intro k hk hF;rw [hblk k (IP hk h.hr.frame.size) (fun q hq e=>by subst e;rcases (hrow k hq).2.2 with h' | h';exact hF h';omega)];exact h.hr.frame.block k hk hF
end
section
variable {C:Ctx} {n:Nat} {σ:St} {dst:Option Tmp} {ty t t':TypeId} {pos:String} {after:Array Edge} {gd:Option (Nat×Bool)} {x y:Operand}
theorem sG {e:TypeId} {z:Value} {size bytes k j id:Nat} {cs news:List PV} (he:ElemIs C.P t e z size bytes) (hs:σ.ev n x= .gsl id size k) (ho:σ.ob id=some (.gro e cs)) (hcs:cs.length=k*size)
  (hsrc:jA n σ y j news) (hl:news.length=j*size) (hlf:∀ c∈news,c.leaf=true) (hb:k+j<=1000000000) (hk0:0<k):
  XJ C n ⟨dst,.call { callee:= .builtin .append,args:= #[x,y],argTypes:= #[t,t] },ty,pos,after,gd⟩ σ ⟨.pv (.sl none (k+j) (cs++news)),[(id,none)],[]⟩:=by
 rintro a w Q ⟨m,R,hw⟩;obtain ⟨A0,c,hev,hkc,hcm,hz,hp⟩:=hw.gsl hs;obtain ⟨A,c2,us,hev2,hr2,hrow⟩:=hsrc.row hw;have sub:∀ i x,upd m id none i=some x->m i=some x/\i≠id:=fun i x e=>by
  by_cases hi:i=id
  ·subst hi;rw [au] at e;cases e
  ·rw [aG _ _ hi] at e;exact ⟨e,hi⟩
 have hcne:cs≠[]:=fun e=>by
  rw [e] at hcs;have:=Nat.mul_pos hk0 he.pos;simp at hcs;omega
 obtain ⟨b,N,hm,arr,hbk,hsz,hle,hr⟩:=hw.live ho (bQ hcne);obtain ⟨rfl,hN⟩:=hp hk0 b N hm;have hown:w.ownsRow 0 e size (.slice (some ⟨b,0,none⟩) k c) k (arr.toList.take (k*size)):=by
  refine ⟨?_,.inr ⟨b,c,arr,O,eF _,hbk,hkc,hcm,by rw [hsz,hN],O⟩⟩;have:=JQ size hkc;simp only [iP,zE];omega
 refine iG x y t O 0 e z size bytes he.u he.info he.zs he.pos he.by_ _ k j c2 A _ us hev hev2 hown hrow (by rw [hr2.length,hl]) (bU hr2 hlf) hb (eF _) ?_;intro A' c' w' hown' hgr hat
 have own:=hw.hr.own id b N hm;have hrel:RelPL w R (cs++news) (arr.toList.take (k*size)++us):=by
  rw [hcs] at hr;exact hr.append hr2
 have bprop:¬ R b/\(∀ i b' N',upd m id none i=some (b',N')->b'≠b)/\(C.F b\/C.w0.heap.size<=b):=
  ⟨own.2.1,fun i b' N' hi e=>(sub i _ hi).2 (xx hw (sub i _ hi).1 hm e),own.2.2⟩
 rcases hown'.2 with ⟨hv,h0⟩ | ⟨g,cap,cur,hv,_,hg,hkc',hcm',hcs',htk⟩
 ·exfalso;simp only [Value.slice.injEq] at hv;obtain ⟨rfl,_,_⟩:=hv;rcases hat with h | ⟨g',h,_⟩<;>simp [Value.ownBlock] at h
 ·simp only [Value.slice.injEq] at hv;obtain ⟨rfl, -,rfl⟩:=hv;have gprop:¬ R g/\(∀ i b' N',upd m id none i=some (b',N')->b'≠g)/\(C.F g\/C.w0.heap.size<=g):=by
   rcases hat with h | ⟨g',h,hle⟩
   ·simp only [Value.ownBlock,uT] at h;rw [h];exact bprop
   ·simp only [Value.ownBlock,uT] at h;subst h;refine ⟨fun h=>?_,fun i b' N' hi e=>?_,.inr ?_⟩
    ·have:=hw.hr.rsz _ h;omega
    ·have:=(hw.hr.own i b' N' (sub i _ hi).1).1;omega
    ·have:=hw.hr.frame.size;omega
  have hul:(arr.toList.take (k*size)++us).length=(k+j)*size:=hown'.1;refine ⟨_,O,upd m id none,fun b=>R b\/b=g,?_⟩;rw [Iw];have hgrow:=hgr;refine SW.put ((hw.drop id).HI hg hgr (fun q hq=>by simp [Value.ownBlock] at hq;subst hq;exact bprop) gprop.2.1 gprop.2.2) dst ?_;simp only [Rel,RelP];refine ⟨_,c',O,hkc',hcm',fun b h=>(by cases h),fun h=>(by cases h),fun _=>⟨g,0,arr.toList.take (k*size)++us,rfl,?_,.inr rfl,fun q hq=>?_⟩⟩
  ·refine hrel.mono fun b' hb'=>⟨.inl hb',?_⟩
   refine hgr.block b' (hw.hr.rsz b' hb') fun e=>?_
   simp only [Value.ownBlock,uT] at e;exact bprop.1 (e▸hb')
  ·simp only [World.cell?,hg,Dq];rw [<-htk,<-hul,vR,og hq,LZ];rfl
end
end
section
open Mk Jn
section
variable {C:Ctx} {n:Nat} {σ:St} {dst:Option Tmp} {ty t:TypeId} {pos:String} {after:Array Edge} {gd:Option (Nat×Bool)} {x:Operand}
theorem nO {cells:Array Value} {k:Nat} (h0:0<cells.size) {v:Value} (h:v∈(Builtin.zeroCells cells k).toList):v∈cells.toList:=by
 unfold Builtin.zeroCells at h;simp only [Om,uF] at h;obtain ⟨i,_,rfl⟩:=h;rw [getElem!_pos cells _ (Lc _ h0)];exact Array.getElem_mem_toList _
theorem vv {e T:TypeId} {z:Value} {size bytes id off k:Nat} {cs:List PV} (he:ElemIs C.P t e z size bytes) (h1:∀ v∈z.cells.toList,v.oneCell'=true) (hx:σ.ev n x= .tsl id off k) (ho:σ.ob id=some (.cells T cs)) (hle:off+k*size<=cs.length):
  XJ C n ⟨dst,.call { callee:= .builtin .clear,args:= #[x],argTypes:= #[t] },ty,pos,after,gd⟩ σ ⟨.pv (.tup []),[(id,some (.cells T (cs.take off)))],[]⟩:=by
 rintro a w Q ⟨m,R,hw⟩;obtain ⟨b,N,hm,arr,hb,hN,hle',hr⟩:=hw.live ho;have h:=hw.ev x;rw [hx] at h;simp only [Rel] at h;obtain ⟨hav,A,c,hev,hA⟩:=h;have hzr:∀ w,(zeroValue e).run C.P w= .ok z w:=fun w=>by
  have:=he.info;cases hq:C.P.info? e with
  | none=>simp [hq] at this
  | some i=>simp [hq] at this;simp [zeroValue,typeInfo,hq,this.1]
 rcases J6 k with h0 | hp
 ·subst h0;have hrun:(execOp a.eval ⟨dst,.call { callee:= .builtin .clear,args:= #[x],argTypes:= #[t] },ty,pos,after,gd⟩).run C.P w= .ok (.value (.tuple #[])) w:=by
   cases A<;>simp [execOp,resolve,invoke,builtin,Builtin.clear_,hev,run_underlying he.u,Result.andThen]
  unfold Oper.wp;rw [hrun];have hw':=hw.turn hm w O (fun _ _=>rfl) O O O (.cells T (cs.take off)) (fun hR=>⟨arr,hb,hN,OH,by
   have:=hr.take off;rw [LC] at this;rw [iP];exact this⟩)
  refine ⟨_,O,m,R,?_⟩;rw [Iw];exact SW.put hw' dst (by simp only [Rel,RelP];exact ⟨[],O,RelPL.nil⟩)
 ·have hA':=hA hp b N hm;subst hA';have hZl:(Builtin.zeroCells z.cells k).toList.length=k*size:=by rw [zE,size_zeroCells,he.zs]
  have hZ1:∀ v∈(Builtin.zeroCells z.cells k).toList,v.oneCell'=true:=fun v hv=>h1 v (nO (by rw [he.zs];exact he.pos) hv)
  generalize hZ:(Builtin.zeroCells z.cells k).toList=Z at hZl hZ1;have hst:=run_storeCells_at (P:=C.P) b off T Z 0 arr w hb OC hZ1;simp only [KX] at hst;have hrun:(execOp a.eval ⟨dst,.call { callee:= .builtin .clear,args:= #[x],argTypes:= #[t] },ty,pos,after,gd⟩).run C.P w= .ok (.value (.tuple #[])) (w.setRow b (arr.toList.take off++Z++arr.toList.drop (off+Z.length)).toArray):=by
   cases k with
   | zero=>omega
   | succ k=>simp [execOp,resolve,invoke,builtin,Builtin.clear_,hev,run_underlying he.u,hzr,hZ,hst,Result.andThen]
  unfold Oper.wp;rw [hrun];have hw':=hw.store hm arr (arr.toList.take off++Z++arr.toList.drop (off+Z.length)).toArray T hb OH (.cells T (cs.take off)) (fun w' hR hb'=>⟨_,hb',OH,OH,by
   have:=(hr.take off).mono hR;rw [LC] at this;rw [iP];have e:(arr.toList.take off++Z++arr.toList.drop (off+Z.length)).toArray.toList.take (min off cs.length)=arr.toList.take (min off cs.length):=by
    show List.take _ (_++_++_)=_;rw [xJ,LN OH,LC]
    congr 1
    omega
   rw [e];exact this⟩)
  refine ⟨_,O,m,R,?_⟩;rw [Iw];exact SW.put hw' dst (by simp only [Rel,RelP];exact ⟨[],O,RelPL.nil⟩)
end
theorem vO (a b:Rw) (ha:a.v.length<=1000000) (hb:b.v.length<=1000000):FnP Tryz.prog 54 [sJ a,sJ b] (· = .int .i64 (lN a.v b.v)):=by
 refine FnP.of func54 O ntmps54 OG fun m0 w0 F R0=>?_
 have hc:=x9 a.v b.v ha hb;exact Z3 O O O O<|Z4 O O O O O<|Rs 9 O O (ae call74 hc O)<|A1 O<|Gt O<|⟨_,_,O,O,O⟩
def dL (f:Int) (l:List Rw):List Rw:=l.map fun x=>⟨x.v,f*x.w⟩
theorem iT (l:List Rw):dL 1 l=l:=by simp [dL]
theorem kv (f:Int) {l:List Rw} {k:Nat} (h:k<l.length):dL f (l.take (k+1))=dL f (l.take k)++[⟨l[k].v,f*l[k].w⟩]:=by
 unfold dL;rw [aR h,Ho];rfl
theorem mw (l:List Rw) (f:Int) (hl:l.length<=1000) (hv:∀ x∈l,x.v.length<=1000) (hw:∀ x∈l, -9223372036854775808<=f*x.w/\f*x.w<=9223372036854775807):FnO Tryz.prog 65 0 1 [.pv (bL l),.pv (.int .i64 f)] [] (fun v ob'=>v= .gsl 0 2 l.length/\ob'=ar [(0,.gro 49 (aB (dL f l)))]):=by
 refine FnO.of func65 O ntmps65 OG fun m0 w0 F R0=>?_
 refine Z1 O O<|Z1 O O<|Im (Iu 5 0 2 49 O O)<|Z3 O O O O ?_;refine Gl O (st:=fun x_0:Nat×List Rw=>mkS [(1,.pv (.int .i64 f)),(5,.gsl 0 2 x_0.2.length),(8,.pv (bL l)),(9,.pv (.int .i64 l.length)),(10,.pv (.int .i64 x_0.1))] [(0,.gro 49 (aB x_0.2))] 1)
  (I:=fun x_0=>x_0.1<=l.length/\x_0.2=dL f (l.take x_0.1)) (μ:=fun x_0=>l.length-x_0.1) (x0:=(0,[])) (Io (aS O) (aO O) O O) (⟨eF _,O⟩) ?_
 rintro ⟨k,q⟩ ⟨hk,hq⟩;try simp only at hk hq ⊢
 refine Z1 O O ?_;refine Gp O O (fun hc11=>?_) (fun hc11=>?_)
 ·have hlt:k<l.length:=OC;have hrow:=aN hlt;have hne:=aW hlt;have hxv:=hv _ (aJ hlt);have hxw:=hw _ (aJ hlt);have hsn:=kv f hlt;have hql:q.length=k:=by rw [hq];simp [dL];omega
  have hqc:=aK q;generalize l[k]=x at*;have hcl:=fX x.v OC;have hsn2:=dW q ⟨x.v,f*x.w⟩;refine Il<|Z1 O O ?_;first | refine A3 O OF ?_ | refine A1 O ?_
  refine Y2 O O<|Ge O follows [0,1,2,3,4,5,6,7,8,9,10,11] OD ?_;iterate 3 refine D1 O O ?_
  refine Ds 17 [] O O O (fun τ h=>ae call99 hcl (h.bt O)) O OD ?_;iterate 3 refine D1 O O ?_
  refine Ds 21 [] O O O (fun τ h=>qa (Ee h 0 O O) (Ee h 1 O O) hxw) O OD ?_;iterate 4 refine D1 O O ?_
  refine ⟨OD,?_⟩;exact Z2 O O O<|⟨(k+1,q++[⟨x.v,f*x.w⟩]),Ip [3] ⟨O,ry (b:=V.gsl 3 2 (q.length+1)) O (af (fun n=>V.gsl 3 2 n) (bW q (⟨x.v,f*x.w⟩:Rw))),O,O,O,OK⟩ ⟨ry (b:=some (.gro 49 (aB q++eV ⟨x.v,f*x.w⟩))) OD (af (fun c=>some (Ob.gro 49 c)) hsn2),OK⟩ O O OE O,⟨OI,by simp only;rw [hsn,hq]⟩,OI⟩
 ·have hqf:q=dL f l:=by rw [hq,show l.take k=l from bk OC]
  have hqn:q.length=l.length:=by rw [hqf];simp [dL]
  exact Gx O<|Z2 O O O<|Gt O<|⟨[(4,.gsl 0 2 l.length)],[(0,.gro 49 (aB (dL f l)))],[.gsl 0 2 l.length],Io ⟨ry (b:=V.gsl 0 2 q.length) O (by rw [hqn]),OK⟩ ⟨ry (b:=some (.gro 49 (aB q))) O (by rw [hqf]),OK⟩ O O,O,O,O,O,O⟩
theorem zT (l:List Rw) (f:Int) (hl:l.length<=1000) (hv:∀ x∈l,x.v.length<=1000) (hw:∀ x∈l, -9223372036854775808<=f*x.w/\f*x.w<=9223372036854775807):FnP Tryz.prog 65 [bL l,.int .i64 f] (· =bL (dL f l)):=by
 refine FnP.of func65 O ntmps65 OG fun m0 w0 F R0=>?_
 refine Z1 O O<|Z1 O O<|Im (Iu 5 0 2 49 O O)<|Z3 O O O O ?_;refine Gl O (st:=fun x_0:Nat×List Rw=>mkS [(1,.pv (.int .i64 f)),(5,.gsl 0 2 x_0.2.length),(8,.pv (bL l)),(9,.pv (.int .i64 l.length)),(10,.pv (.int .i64 x_0.1))] [(0,.gro 49 (aB x_0.2))] 1)
  (I:=fun x_0=>x_0.1<=l.length/\x_0.2=dL f (l.take x_0.1)) (μ:=fun x_0=>l.length-x_0.1) (x0:=(0,[])) (Io (aS O) (aO O) O O) (⟨eF _,O⟩) ?_
 rintro ⟨k,q⟩ ⟨hk,hq⟩;try simp only at hk hq ⊢
 refine Z1 O O ?_;refine Gp O O (fun hc11=>?_) (fun hc11=>?_)
 ·have hlt:k<l.length:=OC;have hrow:=aN hlt;have hne:=aW hlt;have hxv:=hv _ (aJ hlt);have hxw:=hw _ (aJ hlt);have hsn:=kv f hlt;have hql:q.length=k:=by rw [hq];simp [dL];omega
  have hqc:=aK q;generalize l[k]=x at*;have hcl:=fX x.v OC;have hsn2:=dW q ⟨x.v,f*x.w⟩;refine Il<|Z1 O O ?_;first | refine A3 O OF ?_ | refine A1 O ?_
  refine Y2 O O<|Ge O follows [0,1,2,3,4,5,6,7,8,9,10,11] OD ?_;iterate 3 refine D1 O O ?_
  refine Ds 17 [] O O O (fun τ h=>ae call99 hcl (h.bt O)) O OD ?_;iterate 3 refine D1 O O ?_
  refine Ds 21 [] O O O (fun τ h=>qa (Ee h 0 O O) (Ee h 1 O O) hxw) O OD ?_;iterate 4 refine D1 O O ?_
  refine ⟨OD,?_⟩;exact Z2 O O O<|⟨(k+1,q++[⟨x.v,f*x.w⟩]),Ip [3] ⟨O,ry (b:=V.gsl 3 2 (q.length+1)) O (af (fun n=>V.gsl 3 2 n) (bW q (⟨x.v,f*x.w⟩:Rw))),O,O,O,OK⟩ ⟨ry (b:=some (.gro 49 (aB q++eV ⟨x.v,f*x.w⟩))) OD (af (fun c=>some (Ob.gro 49 c)) hsn2),OK⟩ O O OE O,⟨OI,by simp only;rw [hsn,hq]⟩,OI⟩
 ·have hqf:q=dL f l:=by rw [hq,show l.take k=l from bk OC]
  exact Im (Ir 0 O O)<|Gx O<|Z2 O O O<|Gt O<|⟨_,_,O,O,by rw [hqf];rfl⟩
end
section
open Mk Jn
abbrev di (l:List Rw):Ob:= .cells 49 (aB l)
abbrev Gg:PV:= .fn (.func 54) [] []
def CU (l:List Rw):Prop:=l.Pairwise fun a b=>aZ b.v a.v=false
theorem CU.at {l:List Rw} (h:CU l) {i:Nat} (h0:0<i) (hi:i<l.length):aZ l[i].v (l[i-1]'OC).v=false:=by
 unfold CU at h;rw [Ja] at h;exact h (i-1) i OC hi OC
theorem rW (l:List Rw) (n:Nat) (hl:l.length=n) (hn:n<=1000) (hs:CU l) (hv:∀ x∈l,x.v.length<=1000):FnO Tryz.prog 155 1 0 [.osl big 2 n,.pv (.int .i64 0),.pv (.int .i64 n),.pv Gg] [(big,di l)] (fun v ob'=>v= .tup []/\ob'=ar [(big,di l)]):=by
 refine FnO.of func155 O ntmps155 OG fun m0 w0 F R0=>?_
 have hll:=aK l;refine Z3 O O O O ?_;refine Gl O (st:=fun x_0:Nat=>mkS [(0,.osl big 2 n),(1,.pv (.int .i64 0)),(2,.pv (.int .i64 n)),(3,.pv Gg),(8,.pv (.int .i64 x_0))] [(big,di l)] 0)
  (I:=fun x_0=>1<=x_0) (μ:=fun x_0=>n-x_0) (x0:=(1)) (Io (aS O) (aO OD) O O) (qT _) ?_
 rintro i hi;refine Z3 O O O O ?_;refine Gp O O (fun hc14=>?_) (fun hc14=>?_)
 ·have hlt:i<l.length:=OC;have hlt2:i-1<l.length:=OC;have hrow:=aN hlt;have hrow2:=aN hlt2;have hne:=aW hlt;have hls:=hs.at hi hlt;have hxv:=hv _ (aJ hlt);have hyv:=hv _ (aJ hlt2);have hcm:=vO l[i] l[i-1] OC OC;have hcz:=Eb l[i].v l[i-1].v;rw [hls] at hcz;generalize l[i]=x at*;generalize l[i-1]=y at*;refine Il<|Z2 O O O ?_;refine Gl O (st:=fun x_1:Unit=>mkS [(0,.osl big 2 n),(1,.pv (.int .i64 0)),(2,.pv (.int .i64 n)),(3,.pv Gg),(8,.pv (.int .i64 i)),(9,.pv (.int .i64 i))] [(big,di l)] 0)
   (I:=fun x_1=>True) (μ:=fun x_1=>0) (x0:=(())) (Io (aS O) (aO OD) O O) (trivial) ?_
  rintro u hI;refine Ge O follows [0,1,2,3,4,5,6,7,8,9,10,11,12,13,14,15,16] OD ?_;iterate 2 refine D1 O O ?_
  refine Ds 20 [] O O O (fun τ h=>XJ.cast (v':= .pv (.bool true)) (aQ (Ee h 0 O O) (Ee h 1 O O) O) (af (fun b=>V.pv (.bool b)) (x7 OC))) O OD ?_;iterate 4 refine D1 O O ?_
  refine Dg 25 [_] O O O O (fun τ h=>aa i underlying38 lM (Ee h 0 O O) (Eo h 0 O O) (Ee h 1 O O) O OC) O OD ?_;first | refine D3 O O OF ?_ | refine D1 O O ?_
  iterate 3 refine D1 O O ?_
  refine Dg 30 [_] O O O O (fun τ h=>aa (i-1) underlying38 lM (Ee h 0 O O) (Eo h 0 O O) (Ee h 1 O O) OC OC) O OD ?_;first | refine D3 O O OF ?_ | refine D1 O O ?_
  refine Dg 32 [] O O O O (fun τ h=>bb call54 (Ee h 0 O O) hcm (h.jv O)) O OD<|Dg 33 [] O O O O (fun τ h=>XJ.cast (v':= .pv (.bool false)) (aQ (Ee h 0 O O) (Ee h 1 O O) O) (af (fun b=>V.pv (.bool b)) hcz)) O OD<|D1 O O ?_;refine ⟨OD,?_⟩;refine Gc O O (fun hc34=>absurd hc34 OG) (fun hc34=>?_);exact Gx O<|Z3 O O O O<|⟨(i+1),Io (aS O) (aO OD) O O,OC,OC⟩
 ·exact Gx O<|⟨[],[(big,di l)],[],Io trivial (aO OD) O O,O,O,O,O,O⟩
theorem AP (l:List Rw) (n:Nat) (hl:l.length=n) (hn:n<20) (hs:CU l) (hv:∀ x∈l,x.v.length<=1000):FnO Tryz.prog 110 1 0 [.osl big 2 n,.pv (.int .i64 n),.pv Gg] [(big,di l)] (fun v ob'=>v= .tup []/\ob'=ar [(big,di l)]):=by
 refine FnO.of func110 O ntmps110 OG fun m0 w0 F R0=>?_
 have hin:=rW l n hl OC hs hv;refine Z1 O O<|Z3 O O O O ?_;refine Gl O (st:=fun x_0:Unit=>mkS [(0,.osl big 2 n),(1,.pv (.int .i64 n)),(2,.pv Gg),(6,.pv (.int .i64 20)),(7,.pv (.int .i64 0)),(8,.pv (.int .i64 20))] [(big,di l)] 0)
  (I:=fun x_0=>True) (μ:=fun x_0=>0) (x0:=(())) (Io (aS O) (aO OD) O O) (trivial) ?_
 rintro u hI;refine Z3 O O O O ?_;refine Gp O O (fun hc13=>absurd hc13 OC) (fun hc13=>?_);refine Gx O<|Z4 O O O O O<|Rs 27 O O (ah [big] 0 call155 hin O O O O ⟨O,OK⟩ OE O) ?_;refine Gl O (st:=fun x_1:Unit=>mkS [(0,.osl big 2 n),(1,.pv (.int .i64 n)),(2,.pv Gg),(6,.pv (.int .i64 20))] [(big,di l)] 0)
  (I:=fun x_1=>True) (μ:=fun x_1=>0) (x0:=(())) (Io (aS O) (aO OD) O O) (trivial) ?_
 rintro u hI;refine Z3 O O O O ?_;refine Gp O O (fun hc30=>absurd hc30 OC) (fun hc30=>?_);exact Gx O<|⟨[],[(big,di l)],[],Io trivial (aO OD) O O,O,O,O,O,O⟩
theorem rX (l:List Rw) (n:Nat) (hl:l.length=n) (hn:n<20) (hs:CU l) (hv:∀ x∈l,x.v.length<=1000):FnO Tryz.prog 68 1 0 [.osl big 2 n,.pv Gg] [(big,di l)] (fun v ob'=>v= .tup []/\ob'=ar [(big,di l)]):=by
 refine FnO.of func68 O ntmps68 OG fun m0 w0 F R0=>?_
 have hst:=AP l n hl hn hs hv;exact Z4 O O O O O<|Rs 8 O O (ah [big] 0 call110 hst O O O O ⟨O,OK⟩ OE O)<|⟨[],[(big,di l)],[],Io trivial (aO OD) O O,O,O,O,O,O⟩
end
section
open Mk Jn
section
variable {C:Ctx} {n:Nat} {σ:St} {ty:TypeId} {pos:String} {after:Array Edge} {gd:Option (Nat×Bool)} {x y:Operand}
theorem wD {T T':TypeId} {id off k:Nat} {cs vs:List PV} (hk:dx C.P T k) (hx:σ.ev n x= .ptr id off) (ho:σ.ob id=some (.cells T' cs)) (hv:σ.ev n y= .pv (.agg vs)) (hlen:vs.length=k) (hlf:∀ c∈vs,c.leaf=true) (hle:off+k<=cs.length):
  XJ C n ⟨none,.store T x y,ty,pos,after,gd⟩ σ ⟨.pv .any,[(id,some (.cells T' (eY cs off vs)))],[]⟩:=by
 rintro a w Q ⟨m,R,hw⟩;obtain ⟨b,N,he,hm,arr,hb,hN,hle',hr⟩:=hw.ptr hx ho;have hrel:=hw.pv hv;simp only [RelP] at hrel;obtain ⟨us,hev,hus⟩:=hrel;have hcl:(a.eval y).cells=us.toArray:=by rw [hev];rfl
 have hul:us.length=k:=by rw [hus.length,hlen]
 have hrun:=gv (P:=C.P) (T:=T) (u:=a.eval y) (off:=off) hb (by rw [hcl,JX,hul];exact hk) (by rw [hcl,JX];omega) (by rw [hcl];simpa using bU hus hlf);unfold Oper.wp;have hrun':(execOp a.eval ⟨none,.store T x y,ty,pos,after,gd⟩).run C.P w= .ok .skip (w.setRow b (eY arr.toList off us).toArray):=by
  simp only [execOp,he,Sem.run_bind,hrun,Result.andThen_ok,Sem.run_pure,hcl]
 rw [hrun'];refine ⟨_,O,m,R,?_⟩;refine hw.store hm arr _ T' hb (by simp only [JX];rw [bd _ _ _ OH];simpa using hN) _ ?_;intro w' hR hb';refine ⟨_,hb',by simp only [JX];rw [bd _ _ _ OH];simpa using hN,by rw [bd _ _ _ OC];exact hle',?_⟩;rw [bd cs off vs OC];have e:(eY arr.toList off us).toArray.toList.take cs.length=eY (arr.toList.take cs.length) off us:=by
  simp only [eY];exact gn _ _ _ _ (by first | omega | (simp;omega)) (by first | omega | (simp;omega))
 rw [e];have:RelPL w R (eY cs off vs) (eY (arr.toList.take cs.length) off us):=by
  show RelPL w R (cs.take off++vs++cs.drop (off+vs.length)) (_++us++_);rw [<-hus.length];exact ((hr.take off).append hus).append (hr.drop _)
 exact this.mono hR
end
theorem Kd (a b:List ByteArray) (ha:a.length<=1000000) (hb:b.length<=1000000):FnP Tryz.prog 69 [aI a,aI b] (· = .bool (decide (a=b))):=by
 refine FnP.of func69 O ntmps69 OG fun m0 w0 F R0=>?_
 refine Z1 O O<|Gr O ?_;iterate 5 refine A1 O ?_
 refine Gc O O (fun hc10=>?_) (fun hc10=>?_)
 ·exact Z1 O O<|Gt O<|⟨_,_,O,O,af PV.bool (Et (fun e=>by rw [e] at hc10;simp at hc10)).symm⟩
 ·have hl:a.length=b.length:=by simp at hc10;omega
  refine Il<|Z3 O O O O ?_;refine Gl O (st:=fun x_0:Nat=>mkS [(0,.pv (aI a)),(1,.pv (aI b)),(12,.pv (.int .i64 a.length)),(13,.pv (.int .i64 x_0))] [] 0)
   (I:=fun x_0=>x_0<=a.length/\a.take x_0=b.take x_0) (μ:=fun x_0=>a.length-x_0) (x0:=(0)) (Io (aS O) trivial O O) (⟨eF _,O⟩) ?_
  rintro i ⟨hi,ht⟩;refine Z1 O O ?_;refine Gp O O (fun hc14=>?_) (fun hc14=>?_)
  ·have ha1:i<a.length:=OC;have hb1:i<b.length:=OC;have va:=aM ha1;have na:=bc ha1;have vb:=aM hb1;have nb:=bc hb1;refine Il<|Z2 O O O<|Ge O follows [0,1,2,3,4,5,6,7,8] OD ?_;iterate 3 refine D1 O O ?_
   first | refine D2 O O OF ?_ | refine D1 O O ?_
   iterate 3 refine D1 O O ?_
   first | refine D2 O O OF ?_ | refine D1 O O ?_
   refine D1 O O ?_;refine ⟨OD,?_⟩;refine Gc O O (fun hc24=>?_) (fun hc24=>?_)
   ·exact Z1 O O<|Gt O<|⟨_,_,O,O,af PV.bool (Et (fun e=>by subst e;simp at hc24)).symm⟩
   ·exact Il<|Z2 O O O<|⟨(i+1),Io (aS O) trivial O O,⟨OC,by rw [aR ha1,aR hb1,ht,show a[i]=b[i] from baT (by simpa using hc24)]⟩,OC⟩
  ·exact Gx O<|Z1 O O<|Gt O<|⟨_,_,O,O,af PV.bool (x7 (by rwa [bk OC,bk OC] at ht)).symm⟩
theorem lS (x:Rw):FnP Tryz.prog 71 [sJ x] (· = .bool (x.w==0)):=by
 refine FnP.of func71 O ntmps71 OG fun m0 w0 F R0=>?_
 exact Z2 O O O<|Z4 O O O O O<|Gt O<|⟨_,_,O,O,O⟩
theorem su (x:Rw):FnP Tryz.prog 67 [sJ x] (· = .bool (decide (x.w<0)||decide (x.w>100))):=by
 refine FnP.of func67 O ntmps67 OG fun m0 w0 F R0=>?_
 refine Z2 O O O<|Z4 O O O O O ?_;apply Ix 4 6 10 [7,8,9] O ON
 ·intro hb3;iterate 4 refine A1 O ?_
  exact Iq OM O O O
 ·intro hb3;iterate 4 refine A1 O ?_
  exact Iq OM O O O
 exact A1 O<|Gt O<|⟨_,_,O,O,O⟩
theorem vx (l:List Rw) (hl:l.length<=1000) (g:FuncId) (p:Rw->Bool) (hc:bN Tryz.prog g) (hg:∀ x∈l,FnP Tryz.prog g ([]++[sJ x]++[]) (· = .bool (p x))):∃ i:Int,decide (i>=0)=l.any p/\FnP Tryz.prog 109 [bL l,.fn (.func g) [] []] (· = .int .i64 i):=by
 obtain ⟨i,hi,hi1,hi2⟩:=jg l p;refine ⟨i,hi,?_⟩;refine FnP.of func109 O ntmps109 OG fun m0 w0 F R0=>?_
 refine Z1 O O<|Z3 O O O O ?_;refine Gl O (st:=fun x_0:Nat=>mkS [(0,.pv (bL l)),(1,.pv (.fn (.func g) [] [])),(7,.pv (.int .i64 l.length)),(8,.pv (.int .i64 x_0))] [] 0)
  (I:=fun x_0=>x_0<=l.length/\∀ j (h:j<l.length),j<x_0->p l[j]=false) (μ:=fun x_0=>l.length-x_0) (x0:=(0)) (Io (aS O) trivial O O) (⟨eF _,fun _ _ h=>absurd h OC⟩) ?_
 rintro k ⟨hk,hno⟩;refine Z1 O O ?_;refine Gp O O (fun hc9=>?_) (fun hc9=>?_)
 ·have hlt:k<l.length:=OC;have hrw:=aN hlt;have hrn:=aW hlt;have hgk:=hg _ (aJ hlt);have hik:=hi1 k hlt;generalize hbk:p l[k]=b at*;refine Il<|Z2 O O O<|Z4 O O O O O ?_;first | refine A3 O OF ?_ | refine A1 O ?_
  refine Rs 16 O O (bb hc O hgk O) ?_;refine Gc O O (fun hc16=>?_) (fun hc16=>?_)
  ·exact Z2 O O O<|Gt O<|⟨_,_,O,O,by rw [hik hc16 hno];rfl⟩
  ·exact Il<|Z2 O O O<|⟨(k+1),Io (aS O) trivial O O,⟨OC,fun j h hj=>by rcases DJ.1 hj with h1 | h1;exact hno j h h1;subst h1;exact hbk.trans hc16⟩,OC⟩
 ·have hm:=hi2 fun j h=>hno j h OC
  exact Gx O<|Z1 O O<|Gt O<|⟨_,_,O,O,by rw [hm];rfl⟩
theorem Ml (l:List Rw) (hl:l.length<=1000) (g:FuncId) (p:Rw->Bool) (hc:bN Tryz.prog g) (hg:∀ x∈l,FnP Tryz.prog g ([]++[sJ x]++[]) (· = .bool (p x))):FnP Tryz.prog 66 [bL l,.fn (.func g) [] []] (· = .bool (l.any p)):=by
 obtain ⟨i,hi,hx⟩:=vx l hl g p hc hg;refine FnP.of func66 O ntmps66 OG fun m0 w0 F R0=>?_
 exact Z1 O O<|Z2 O O O<|Rs 7 O O (ae call109 hx O)<|Y2 O O<|Gt O<|⟨_,_,O,O,af PV.bool hi⟩
def isZ (x:Rw):Bool:=x.w==0
abbrev zF:PV:= .fn (.func 71) [] []
theorem xa (l:List Rw) (n:Nat) (hln:l.length=n) (hn:n<=1000) (i:Int)
  (hi1:∀ k (h:k<l.length),isZ l[k]=true->(∀ j (h:j<l.length),j<k->isZ l[j]=false)->i=k) (hi2:(∀ j (h:j<l.length),isZ l[j]=false)->i= -1):FnO Tryz.prog 109 1 0 [.osl big 2 n,.pv zF] [(big,di l)] (fun v ob'=>v= .pv (.int .i64 i)/\ob'=ar [(big,di l)]):=by
 refine FnO.of func109 O ntmps109 OG fun m0 w0 F R0=>?_
 refine Z1 O O<|Z3 O O O O ?_;refine Gl O (st:=fun x_0:Nat=>mkS [(0,.osl big 2 n),(1,.pv zF),(7,.pv (.int .i64 n)),(8,.pv (.int .i64 x_0))] [(big,di l)] 0)
  (I:=fun x_0=>x_0<=n/\∀ j (h:j<l.length),j<x_0->isZ l[j]=false) (μ:=fun x_0=>n-x_0) (x0:=(0)) (Io (aS O) (aO OD) O O) (⟨eF _,fun _ _ h=>absurd h OC⟩) ?_
 rintro k ⟨hk,hno⟩;refine Z1 O O ?_;refine Gp O O (fun hc9=>?_) (fun hc9=>?_)
 ·have hlt:k<l.length:=OC;have hrw:=aN hlt;have hgk:=lS l[k];rw [show (l[k].w==0)=isZ l[k] from O] at hgk;have hik:=hi1 k hlt;generalize hbk:isZ l[k]=b at*;refine Il<|Z2 O O O<|Z3 O O O O<|Rs 14 O O (aa k underlying38 lM O O O O OC) ?_;first | refine A3 O OF ?_ | refine A1 O ?_
  refine Rs 16 O O (bb call71 O hgk O) ?_;refine Gc O O (fun hc16=>?_) (fun hc16=>?_)
  ·exact Z2 O O O<|Gt O<|⟨[(4,.pv (.int .i64 k))],[(big,di l)],[.pv (.int .i64 k)],Io (aS O) (aO OD) O O,O,O,O,by rw [hik hc16 hno];rfl,O⟩
  ·exact Il<|Z2 O O O<|⟨(k+1),Io (aS O) (aO OD) O O,⟨OC,fun j h hj=>by rcases DJ.1 hj with h1 | h1;exact hno j h h1;subst h1;exact hbk.trans hc16⟩,OC⟩
 ·have hm:=hi2 fun j h=>hno j h OC
  exact Gx O<|Z1 O O<|Gt O<|⟨[(4,.pv (.int .i64 (-1)))],[(big,di l)],[.pv (.int .i64 (-1))],Io (aS O) (aO OD) O O,O,O,O,by rw [hm];rfl,O⟩
theorem AQ {l:List Rw} {k:Nat} (h:k<l.length) (x:Rw):(((aB l).take (k*2))++eV x++(aB l).drop (k*2+2))=aB (l.set k x):=by
 rw [K5,og h,fj,(fu l k).1,show k*2+2=(k+1)*2 by omega,(fu l (k+1)).2,xJ];rfl
theorem rF (l:List Rw) (n:Nat) (hln:l.length=n) (hn1:n<=1000):FnO Tryz.prog 70 1 0 [.osl big 2 n,.pv zF] [(big,di l)] (fun v ob'=>v= .osl big 2 (l.filter fun x=> !isZ x).length/\ob'=ar [(big,di (l.filter fun x=> !isZ x))]):=by
 obtain ⟨i,hi,hi1,hi2⟩:=jg l isZ;obtain ⟨hia,hib⟩:=sH hi hi1 hi2;have hidx:=xa l n hln hn1 i hi1 hi2;refine FnO.of func70 O ntmps70 OG fun m0 w0 F R0=>?_
 clear hi hi1 hi2;refine Z1 O O<|Z2 O O O<|Rs 10 O O (ah [big] 0 call109 hidx O O O O ⟨O,OK⟩ OE O)<|A1 O<|Z2 O O O ?_;refine Gc O O (fun hc12=>?_) (fun hc12=>?_)
 ·have hie:i= -1:=by simpa using hc12
  have hf:(l.filter fun x=> !isZ x)=l:=Ol.2 fun x hx=>by rw [hia hie x hx];rfl
  exact Z2 O O O<|Gt O<|⟨[(4,.osl big 2 n)],[(big,di l)],[.osl big 2 n],Io (aS O) (aO OD) O O,O,O,O,by rw [hf,hln];rfl,by rw [hf]⟩
 ·have hne:¬ i= -1:=by intro e;rw [e] at hc12;simp at hc12
  obtain ⟨i0,rfl,hi0,hft⟩:=hib hne;refine Il<|Z3 O O O O ?_;refine Gl O (st:=fun x_0:Nat×Nat×List Rw=>mkS [(0,.osl big 2 n),(1,.pv zF),(5,.pv (.int .i64 x_0.2.1)),(6,.pv (.int .i64 x_0.1))] [(big,di x_0.2.2)] 0)
   (I:=fun x_0=>((x_0.1<=n/\x_0.2.1<x_0.1)/\x_0.2.2.length=n)/\(x_0.2.2.drop x_0.1=l.drop x_0.1/\x_0.2.2.take x_0.2.1=(l.take x_0.1).filter fun x=> !isZ x)/\x_0.2.1=((l.take x_0.1).filter fun x=> !isZ x).length) (μ:=fun x_0=>n-x_0.1) (x0:=(i0+1,i0,l)) (Io (aS O) (aO OD) O O) (⟨⟨⟨OI,OI⟩,hln⟩,⟨O,by simp only;rw [hft]⟩,by simp only;rw [hft,iP];omega⟩) ?_
  rintro ⟨k,m,q⟩ ⟨⟨⟨hk,hmk⟩,hql⟩,⟨hqd,hqt⟩,hme⟩;try simp only at hk hmk hql hqd hqt hme ⊢
  have hqln:(aB q).length=n*2:=by rw [aK,hql]
  refine Z4 O O O O O ?_;refine Gp O O (fun hc19=>?_) (fun hc19=>?_)
  ·have hlt:k<l.length:=OC;have hq0:q[k]'OC=l[k]:=by have:=af (fun z=>z[0]?) hqd;simp only [FJ,KX] at this;rw [fI OC,fI hlt] at this;exact Ki this
   have hv:((aB q).drop (k*2)).take 2=eV l[k]:=by rw [aN (show k<q.length by omega),hq0]
   have hgk:=lS l[k];rw [show (l[k].w==0)=isZ l[k] from O] at hgk;have hdrop:q.drop (k+1)=l.drop (k+1):=by have:=af (fun z=>z.drop 1) hqd;simpa only [List.drop_drop] using this
   have hfs:(l.take (k+1)).filter (fun x=> !isZ x)=(l.take k).filter (fun x=> !isZ x)++if isZ l[k]=true then [] else [l[k]]:=by rw [aR hlt];exact kR _ _ _
   generalize hbk:isZ l[k]=b at*;have hput:=AQ (show m<q.length by omega) l[k];generalize l[k]=x at*;refine Il<|Z2 O O O<|Rs 24 O O (aa k underlying38 lM O O O O OC) ?_;first | refine A3 O OF ?_ | refine A1 O ?_
   refine Y2 O O<|Z2 O O O<|Rs 28 O O (bb call71 O hgk O)<|A1 O ?_;refine Gc O O (fun hc29=>?_) (fun hc29=>?_)
   ·refine Z3 O O O O<|Rs 33 O O (aa m underlying38 lM O O O O OC)<|RL.step (d:=none) O O (wD lM O O O O (by simp;exact ⟨O,O⟩) OC) ?_;exact Z3 O O O O<|Z3 O O O O<|⟨(k+1,m+1,q.set m x),Io (aS O) ⟨ry (b:=some (Ob.cells 49 ((aB q).take (m*2)++eV x++(aB q).drop (m*2+2)))) OD (af (fun c=>some (Ob.cells 49 c)) hput),OK⟩ O O,⟨⟨⟨OI,OI⟩,by simp only [tx];exact hql⟩,⟨by simp only;rw [LU OC];exact hdrop,by simp only;rw [hfs,ga (by intro e;rw [e] at hc29;simp at hc29),<-hqt];exact du OC⟩,by simp only;rw [hfs,ga (by intro e;rw [e] at hc29;simp at hc29),a6,<-hme];rfl⟩,OI⟩
   ·exact Il<|Z3 O O O O<|⟨(k+1,m,q),Io (aS O) (aO OD) O O,⟨⟨⟨OI,OI⟩,hql⟩,⟨hdrop,by simp only;rw [hfs,og (by simpa using hc29),xd];exact hqt⟩,by simp only;rw [hfs,og (by simpa using hc29),xd];exact hme⟩,OI⟩
  ·have hkn:l.take k=l:=bk OC;rw [hkn] at hqt hme;have hfin:(aB q).take (m*2)=aB (l.filter fun x=> !isZ x):=by rw [(fu q m).1,hqt]
   exact Gx O<|Z2 O O O<|Rs 38 O O (dK m underlying38 lM O O O O OC)<|RL.step (d:=none) O O (vv JM OE O O OC)<|Z2 O O O<|Rs 41 O O (dC m underlying38 lM O O O O OC)<|A1 O<|Gt O<|⟨[(4,.osl big 2 m)],[(big,di (l.filter fun x=> !isZ x))],[.osl big 2 m],Io (aS O) ⟨ry (b:=some (Ob.cells 49 ((aB q).take (m*2)))) OD (af (fun c=>some (Ob.cells 49 c)) hfin),OK⟩ O O,O,O,O,by rw [hme];rfl,O⟩
end
section
open Mk Jn
def leR (x y:Rw):Prop:=aZ y.v x.v=false
theorem Nz (x:Rw):leR x x:=cz _
theorem ck {x y z:Rw} (h1:leR x y) (h2:leR y z):leR x z:=by
 unfold leR at*;cases h:aZ z.v x.v with
 | false=>rfl
 | true=>
   cases h3:aZ x.v y.v with
   | true=>rw [cT h h3] at h2;cases h2
   | false=>rw [gO h3 h1,h2] at h;cases h
theorem Mx {x y:Rw} (h:aZ x.v y.v=true):leR x y:=by
 unfold leR;cases h2:aZ y.v x.v with
 | false=>rfl
 | true=>have:=cT h h2;rw [cz] at this;cases this
abbrev dR:Rw:=⟨[],0⟩
theorem qY {l:List Rw} {i:Nat} (h:i<l.length):l.getD i dR=l[i]:=by simp [List.getD,h]
def oy (q:List Rw) (i k:Nat):List Rw:=(q.set i (q.getD k dR)).set k (q.getD i dR)
theorem Mh {q:List Rw} {i k p:Nat} (hi:i<q.length) (hk:k<q.length):(oy q i k).getD p dR=if p=k then q.getD i dR else if p=i then q.getD k dR else q.getD p dR:=by
 have e1:q.getD i dR=q[i]:=qY hi;have e2:q.getD k dR=q[k]:=qY hk;unfold oy;rw [e1,e2];by_cases h1:p=k
 ·subst h1;simp [List.getD,hk]
 ·rw [ga h1];by_cases h2:p=i
  ·subst h2;simp only [List.getD,og];rw [Kj (fun e=>h1 e.symm)];simp [hi]
  ·rw [ga h2];simp only [List.getD];rw [Kj (fun e=>h1 e.symm),Kj (fun e=>h2 e.symm)]
theorem ri {q:List Rw} {i k:Nat} (hi:i<q.length) (hk:k<q.length):oy q i k=(q.set i q[k]).set k q[i]:=by
 unfold oy;rw [qY hi,qY hk]
theorem MX {q:List Rw} {i k:Nat} (hi:i<q.length) (hk:k<q.length):(oy q i k).Perm q:=by
 rw [ri hi hk];exact List.set_set_perm hi hk
structure Part (a b:Nat) (l m:List Rw):Prop where
 p:m.Perm l
 t:m.take a=l.take a
 d:m.drop b=l.drop b
theorem Part.refl (a b:Nat) (l:List Rw):Part a b l l:=⟨List.Perm.refl _,O,O⟩
theorem Part.trans {a b:Nat} {l m n:List Rw} (h:Part a b l m) (k:Part a b m n):Part a b l n:=⟨k.p.trans h.p,k.t.trans h.t,k.d.trans h.d⟩
theorem Part.len {a b:Nat} {l m:List Rw} (h:Part a b l m):m.length=l.length:=h.p.length_eq
theorem Part.swap {a b i k:Nat} {q:List Rw} (hi:a<=i) (hk:a<=k) (hib:i<b) (hkb:k<b) (hb:b<=q.length):Part a b q (oy q i k):=
 ⟨MX OC OC,by unfold oy;rw [List.take_set_of_le hk,List.take_set_of_le hi],by unfold oy;rw [LU hkb,LU hib]⟩
theorem Part.split {A L B m:List Rw} (h:Part A.length (A.length+L.length) (A++L++B) m):∃ S,m=A++S++B/\S.Perm L:=by
 have hl:=h.len;have h1:m.take A.length=A:=by rw [h.t,xJ,List.take_left'];rfl
 have h2:m.drop (A.length+L.length)=B:=by rw [h.d,List.drop_left'];simp
 refine ⟨(m.take (A.length+L.length)).drop A.length,?_,?_⟩
 ·have e1:m=m.take (A.length+L.length)++B:=by rw [<-h2,zj]
  have e2:m.take (A.length+L.length)=A++(m.take (A.length+L.length)).drop A.length:=by
   have:=zj A.length (m.take (A.length+L.length));rw [LC,K3 OC,h1] at this;exact this.symm
  rw [<-e2];exact e1
 ·have e1:m=m.take (A.length+L.length)++B:=by rw [<-h2,zj]
  have e2:m.take (A.length+L.length)=A++(m.take (A.length+L.length)).drop A.length:=by
   have:=zj A.length (m.take (A.length+L.length));rw [LC,K3 OC,h1] at this;exact this.symm
  have hp:=h.p;rw [e1,e2] at hp;exact (List.perm_append_left_iff A).1 ((List.perm_append_right_iff B).1 hp)
def Nv (a:Nat) (l:List Rw) (i j:Nat):Prop:=∀ p q,a<=p->p<q->q<=i->(p≠j->q≠j->leR (l.getD p dR) (l.getD q dR))/\(p=j->leR (l.getD p dR) (l.getD q dR))
def N1 (a:Nat) (l:List Rw) (i:Nat):Prop:=∀ p q,a<=p->p<q->q<i->leR (l.getD p dR) (l.getD q dR)
theorem Nv.first {a:Nat} {l:List Rw} {i:Nat} (h:N1 a l i):Nv a l i i:=fun p q h0 h1 h2=>⟨fun _ h4=>h p q h0 h1 OC,fun e=>by omega⟩
theorem Nv.swap {a:Nat} {l:List Rw} {i j:Nat} (h:Nv a l i j) (hj:a<j) (hji:j<=i) (hi:i<l.length) (hlt:aZ (l.getD j dR).v (l.getD (j-1) dR).v=true):Nv a (oy l j (j-1)) i (j-1):=by
 intro p q h0 h1 h2;rw [Mh OC OC,Mh OC OC];have a1:=h p q h0 h1 h2;have a2:=h (j-1) q OC;have a3:=h p (j-1) h0;have a4:=h j q OC;have a5:=h p j h0;by_cases e1:p=j-1
 ·rw [og e1];refine ⟨fun h=>absurd e1 h,fun _=>?_⟩;by_cases e2:q=j-1
  ·omega
  ·rw [ga e2];by_cases e3:q=j
   ·rw [og e3];exact Mx hlt
   ·rw [ga e3];exact (a4 OC h2).2 O
 ·rw [ga e1];refine ⟨fun _ h4=>?_,fun h=>absurd h e1⟩;rw [ga h4];by_cases e3:q=j
  ·rw [og e3,ga OC];exact (a3 OC OC).1 OC OC
  ·rw [ga e3];by_cases e5:p=j
   ·rw [og e5];exact (a2 OC h2).1 OC e3
   ·rw [ga e5];exact a1.1 e5 e3
theorem Nv.last {a:Nat} {l:List Rw} {i j:Nat} (h:Nv a l i j) (hji:j<=i) (hs:j=a\/leR (l.getD (j-1) dR) (l.getD j dR)):N1 a l (i+1):=by
 intro p q h0 h1 h2;have a1:=h p q h0 h1 OC;have a3:=h p (j-1) h0;by_cases e1:p=j
 ·exact a1.2 e1
 ·by_cases e2:q=j
  ·subst e2;rcases hs with hs | hs
   ·omega
   ·by_cases e3:p=q-1
    ·rw [e3];exact hs
    ·exact ck ((a3 OC OC).1 e1 OC) hs
  ·exact a1.1 e1 e2
theorem N1.pw {A S B:List Rw} (h:N1 A.length (A++S++B) (A.length+S.length)):CU S:=by
 unfold CU;rw [Ja];intro p q hp hq hpq;have:=h (A.length+p) (A.length+q) OC OC OC;rw [qY OH,qY OH] at this;simpa [List.getElem_append,hp,hq,leR] using this
theorem ov {q:List Rw} {i k:Nat} (hi:i<q.length) (hk:k<q.length):((((aB q).take (i*2)++eV q[k]++(aB q).drop (i*2+2)).take (k*2))++eV q[i]++(((aB q).take (i*2)++eV q[k]++(aB q).drop (i*2+2)).drop (k*2+2)))=aB (oy q i k):=by
 rw [AQ hi,AQ (by simpa using hk),ri hi hk]
theorem Mz (A L B:List Rw) (n:Nat) (hn:A.length+L.length+B.length=n) (hn2:n<=100000) (hv:∀ x∈A++L++B,x.v.length<=1000):
  FnO Tryz.prog 155 1 0 [.osl big 2 n,.pv (.int .i64 A.length),.pv (.int .i64 ((A.length+L.length:Nat):Int)),.pv Gg] [(big,di (A++L++B))] (fun v ob'=>v= .tup []/\∃ S,S.Perm L/\CU S/\ob'=ar [(big,di (A++S++B))]):=by
 refine FnO.of func155 O ntmps155 OG fun m0 w0 F R0=>?_
 have hql0:(A++L++B).length=n:=by simp;omega
 have hfin:∀ m,Part A.length (A.length+L.length) (A++L++B) m->N1 A.length m (A.length+L.length)->∃ S,m=A++S++B/\S.Perm L/\CU S:=fun m h1 h2=>by
  obtain ⟨S,rfl,hp⟩:=h1.split;exact ⟨S,O,hp,N1.pw (A:=A) (S:=S) (B:=B) (by rw [hp.length_eq];exact h2)⟩
 obtain ⟨a,ha⟩:∃ a,a=A.length:=⟨_,O⟩;obtain ⟨b,hb⟩:∃ b,b=A.length+L.length:=⟨_,O⟩;have hbn:b<=n:=OC;have hab:a<=b:=OC;rw [<-hb,<-ha] at hfin;rw [<-hb,<-ha];clear ha hb hn;generalize A++L++B=l at*;refine Z3 O O O O ?_;refine Gl O (st:=fun x_0:Nat×List Rw=>mkS [(0,.osl big 2 n),(1,.pv (.int .i64 a)),(2,.pv (.int .i64 b)),(3,.pv Gg),(8,.pv (.int .i64 x_0.1))] [(big,di x_0.2)] 0)
  (I:=fun x_0=>(a+1<=x_0.1/\(x_0.1<=b\/x_0.1=a+1))/\Part a b l x_0.2/\N1 a x_0.2 x_0.1) (μ:=fun x_0=>n+1-x_0.1) (x0:=(a+1,l)) (Io (aS O) (aO OD) O O) (⟨⟨qT _,.inr O⟩,Part.refl _ _ _,fun p q h0 h1 h2=>by omega⟩) ?_
 rintro ⟨i,q⟩ ⟨⟨hi,hib⟩,hq,hA⟩;try simp only at hi hib hq hA ⊢
 refine Z3 O O O O ?_;refine Gp O O (fun hc14=>?_) (fun hc14=>?_)
 ·have hql:q.length=n:=by rw [hq.len,hql0]
  have hlt:i<b:=OC;refine Il<|Z2 O O O ?_;refine Gl O (st:=fun x_1:Nat×List Rw=>mkS [(0,.osl big 2 n),(1,.pv (.int .i64 a)),(2,.pv (.int .i64 b)),(3,.pv Gg),(8,.pv (.int .i64 i)),(9,.pv (.int .i64 x_1.1))] [(big,di x_1.2)] 0)
   (I:=fun x_1=>(a<=x_1.1/\x_1.1<=i)/\Part a b l x_1.2/\Nv a x_1.2 i x_1.1) (μ:=fun x_1=>x_1.1) (x0:=(i,q)) (Io (aS O) (aO OD) O O) (⟨⟨OC,qT _⟩,hq,Nv.first hA⟩) ?_
  rintro ⟨j,s⟩ ⟨⟨hja,hji⟩,hs,hI⟩;try simp only at hja hji hs hI ⊢
  have hsl:s.length=n:=by rw [hs.len,hql0]
  have hjl:j<s.length:=OC;have hrow:=aN hjl;have hne:=aW hjl;have hrl:=aK s;have hxv:=hv s[j] (hs.p.mem_iff.1 (aJ hjl));by_cases h:a<j
  ·have hjl1:j-1<s.length:=OC;have hrow2:=aN hjl1;have hyv:=hv s[j-1] (hs.p.mem_iff.1 (aJ hjl1));have hcm:=vO s[j] s[j-1] OC OC;have hcz:=Eb s[j].v s[j-1].v;have hd1:s.getD j dR=s[j]:=qY hjl;have hd2:s.getD (j-1) dR=s[j-1]:=qY hjl1;have hsw:=ov hjl hjl1;have hpt:=Part.swap (q:=s) (i:=j) (k:=j-1) hja (show a<=j-1 by omega) (show j<b by omega) (show j-1<b by omega) OC;refine Ge O follows [0,1,2,3,4,5,6,7,8,9,10,11,12,13,14,15,16] OD ?_;iterate 2 refine D1 O O ?_
   refine Ds 20 [] O O O (fun τ h=>XJ.cast (v':= .pv (.bool true)) (aQ (Ee h 0 O O) (Ee h 1 O O) O) (af (fun b=>V.pv (.bool b)) (x7 OC))) O OD ?_;iterate 4 refine D1 O O ?_
   refine Dg 25 [_] O O O O (fun τ h=>aa j underlying38 lM (Ee h 0 O O) (Eo h 0 O O) (Ee h 1 O O) O OC) O OD ?_;first | refine D3 O O OF ?_ | refine D1 O O ?_
   iterate 3 refine D1 O O ?_
   refine Dg 30 [_] O O O O (fun τ h=>aa (j-1) underlying38 lM (Ee h 0 O O) (Eo h 0 O O) (Ee h 1 O O) OC OC) O OD ?_;first | refine D3 O O OF ?_ | refine D1 O O ?_
   refine Dg 32 [] O O O O (fun τ h=>bb call54 (Ee h 0 O O) hcm (h.jv O)) O OD ?_;iterate 2 refine D1 O O ?_
   refine ⟨OD,?_⟩;refine Gc O O (fun hc34=>?_) (fun hc34=>?_)
   ·have hlv:aZ (s.getD j dR).v (s.getD (j-1) dR).v=true:=by rw [hd1,hd2];exact hcz.symm.trans hc34
    refine Il<|Ge O follows [0,1,2,3,4,5,6,7,8,9,10,11,12,13,14,15,16,17] OD ?_;iterate 8 refine D1 O O ?_
    refine Ds 45 [_] O O O (fun τ h=>aa (j-1) underlying38 lM (Ee h 0 O O) (Eo h 0 O O) (Ee h 1 O O) OC OC) O OD ?_;first | refine D3 O O OF ?_ | refine D1 O O ?_
    iterate 2 refine D1 O O ?_
    refine Ds 49 [_] O O O (fun τ h=>aa j underlying38 lM (Ee h 0 O O) (Eo h 0 O O) (Ee h 1 O O) O OC) O OD ?_;first | refine D3 O O OF ?_ | refine D1 O O ?_
    refine Ds 51 [_] O O O (fun τ h=>aa j underlying38 lM (Ee h 0 O O) (Eo h 0 O O) (Ee h 1 O O) O OC) O OD<|DL.step (d:=none) [_] O O O (fun τ h=>wD lM (Ee h 0 O O) (Eo h 0 O O) (Ee h 1 O O) O (by simp;exact ⟨O,O⟩) OC) O OD ?_;refine Ds 52 [_] O O O (fun τ h=>aa (j-1) underlying38 lM (Ee h 0 O O) (Eo h 0 O O) (Ee h 1 O O) OC OC) O OD<|DL.step (d:=none) [_] O O O (fun τ h=>wD lM (Ee h 0 O O) (Eo h 0 O O) (Ee h 1 O O) O (by simp;exact ⟨O,O⟩) (by simp [eY];omega)) O OD ?_;refine ⟨OD,?_⟩;exact Z3 O O O O<|⟨(j-1,oy s j (j-1)),Io ⟨O,O,O,O,O,af (fun i=>V.pv (PV.int .i64 i)) OC,OK⟩ ⟨ry (b:=some (Ob.cells 49 ((((aB s).take (j*2)++eV s[j-1]++(aB s).drop (j*2+2)).take ((j-1)*2))++eV s[j]++(((aB s).take (j*2)++eV s[j-1]++(aB s).drop (j*2+2)).drop ((j-1)*2+2))))) OD (af (fun c=>some (Ob.cells 49 c)) hsw),OK⟩ O O,⟨⟨OI,OI⟩,hs.trans hpt,hI.swap h hji OC hlv⟩,OI⟩
   ·have hst:j=a\/leR (s.getD (j-1) dR) (s.getD j dR):= .inr (by rw [hd1,hd2];exact hcz.symm.trans hc34);exact Gx O<|Z3 O O O O<|⟨(i+1,s),Io (aS O) (aO OD) O O,⟨⟨OI,.inl OI⟩,hs,hI.last hji hst⟩,OI⟩
  ·refine Ge O follows [0,1,2,3,4,5,6,7,8,9,10,11,12,13,14,15,16] OD ?_;iterate 2 refine D1 O O ?_
   refine Ds 20 [] O O O (fun τ h=>XJ.cast (v':= .pv (.bool false)) (aQ (Ee h 0 O O) (Ee h 1 O O) O) (af (fun b=>V.pv (.bool b)) (Et OC))) O OD ?_;iterate 14 refine D1 O O ?_
   refine ⟨OD,?_⟩;refine Gc O O (fun hc34=>absurd hc34 (Bool.false_ne_true)) (fun hc34=>?_);have hst:j=a\/leR (s.getD (j-1) dR) (s.getD j dR):= .inl OC;exact Gx O<|Z3 O O O O<|⟨(i+1,s),Io (aS O) (aO OD) O O,⟨⟨OI,.inl OI⟩,hs,hI.last hji hst⟩,OI⟩
 ·obtain ⟨S,hSe,hSp,hSs⟩:=hfin q hq (fun p r h0 h1 h2=>hA p r h0 h1 OC);subst hSe;exact Gx O<|⟨[],[(big,di (A++S++B))],[],Io trivial (aO OD) O O,O,O,O,O,S,hSp,hSs,O⟩
end
end Go.Proofs.YtedfonppffochaaGreatDoor
