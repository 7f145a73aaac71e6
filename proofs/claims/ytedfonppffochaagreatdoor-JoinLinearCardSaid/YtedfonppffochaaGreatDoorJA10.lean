/- Lemmas for the statement of this claim's last text. No condition. -/
import Derived.Test.YtedfonppffochaaGreatDoorJA9
set_option maxRecDepth 100000
set_option maxHeartbeats 4000000
open Go.RowKit Go.Proofs.Tryz
namespace Go.Proofs.YtedfonppffochaaGreatDoor
section
open Mk Jn
theorem r5 {σ:St} {T:TypeId} {ls:List (List PV)} {U nw:Nat} (hU:U<ls.length) (x:PV) (h0:σ.ob nw=some (.gro T (ls[U]++[x]))) (hr:∀ j,j<ls.length->j≠U->σ.ob (j+1000)=some (.gro T (ls.getD j []))):
  ∀ j (h:j<(ls.set U (ls[U]++[x])).length),σ.ob (rnF U nw (j+1000))=some (.gro T ((ls.set U (ls[U]++[x]))[j])):=by
 intro j h;rw [tx] at h;by_cases e:j=U
 ·subst e;rw [uu,h0];simp
 ·rw [b9 OC,hr j h e,List.getElem_set_ne OC];simp [List.getD,h]
theorem oE {σ:St} {A:Nat} {TA T:TypeId} {cells:List V} {ls:List (List PV)} (hA:A<1000) {j:Nat} (h:j<ls.length):(ovl σ A TA T cells ls).ob (j+1000)=some (.gro T (ls.getD j [])):=by
 rw [b8 hA h];simp [List.getD,h]
theorem uh {S:Sch} {G:List B64} (hV:Valid S) (hG:IsG S G) {a:Int} {i:Nat} (h:eS S a (i:Int)=true):i<G.length:=by
 unfold eS at h;obtain ⟨r,hr,h2⟩:=IF.1 h;simp only [cH,AS] at h2;have:=(hV.rng r hr _ h2.2).2;rw [hG.len];omega
theorem oA {S:Sch} {G:List B64} (hV:Valid S) (hG:IsG S G) (P:List Int) (hPl:P.length=G.length):∀ (k:Nat) (v:Nat),v<G.length->InB G.length (eW P G k v)
 | 0,v,hv=>fun i hi=>by
   unfold eW at hi;rw [yR,hG.bit v hv i,cH] at hi;exact uh hV hG hi.2
 | k+1,v,hv=>by
   unfold eW;refine oO _ _ (fun i hi=>?_) fun c hc=>?_
   ·rw [yR,hG.bit v hv i,cH] at hi;exact uh hV hG hi.2
   ·obtain ⟨m,hm,rfl,_⟩:=aX.1 hc;exact oA hV hG P hPl k m OC
theorem Bl (n:Nat) (hn:n<=12) {S:Sch} (hV:Valid S) (G:List B64) (hG:IsG S G) (hGn:G.length=n) (P:List Int) (hP:UpOk P) (hPl:P.length=n) (chs:List (List Int)) (hcl:chs.length=n+1) (hch:∀ v (h:v<n),chs[v]'OC=bq P v) (hs:List PV):∀ (k v:Nat) (_:v<n) (_:n<=k+(bp P v).length+1) (ab:B64) (L D:List Int) (K:List (List Int)),D.length=n->K.length=n->L.length+(fY P k v).length<=1000->
  FnO Tryz.prog 253 7 2 (layA G v ab) (Fc n G chs 9003 L D K hs) (fun r ob'=>r= .pv (bz (eW P G k v))/\ob'=ar (Fc n G chs 1 (L++fY P k v) (bg D (j0 P k v ab)) (bg K (fQ P G n k v ab)) hs)):=by
 have hgd:∀ v (h:v<G.length),G.getD v 0#64=G[v]:=fun v h=>by simp [List.getD,h]
 have hinG:∀ v (h:v<G.length),InB n G[v]:=fun v h=>by
  have:=oA hV hG P OC 0 v h;rw [eW,yR,hgd v h,hGn] at this;exact this
 have hkl:∀ v,(bq P v).length<=64:=fun v=>uv (IE ..) (by rw [a8];omega)
 intro k;induction k with
 | zero=>
   intro v hv hf ab L D K hD hK hL;have hlf:bq P v=[]:=ln hP OC OC;have h1:=lP n hn G hGn chs OC v hv OC [] (by rw [hch v hv,hlf]) OG OG ab (fun _=>0#64) (fun _=>[]) (fun _=>[]) (fun _=>[]) (hinG v OC) OG hs OG L D K hD hK (by simp [fY] at hL ⊢; omega);have e1:eW P G 0 (v:Int)=G[v]'OC:=by rw [eW,yR,hgd v OC]
   rw [fY,j0,fQ,e1,yR];exact h1
 | succ k ih=>
   intro v hv hf ab L D K hD hK hL;have hkid:∀ c∈bq P v,∃ m:Nat,m<n/\c=(m:Int)/\P.getD m 0=(v:Int):=fun c hc=>by
    obtain ⟨m,hm,e,hp⟩:=aX.1 hc;exact ⟨m,OC,e,hp⟩
   have h1:=lP n hn G hGn chs OC v hv OC (bq P v) (hch v hv) (hkl v) (fun c hc=>by obtain ⟨m,_,e,_⟩:=hkid c hc;exact ⟨m,e⟩) ab (eW P G k) (fY P k) (fun c=>j0 P k c (ab|||BitVec.twoPow 64 v)) (fun c=>fQ P G n k c (ab|||BitVec.twoPow 64 v)) (hinG v OC) (fun c hc=>by
     obtain ⟨m,hm,rfl,_⟩:=hkid c hc;have:=oA hV hG P OC k m OC;rwa [hGn] at this) hs (fun c hc L' D' K' hD' hK' hL'=>by
     obtain ⟨m,hm,rfl,hp⟩:=hkid c hc;exact ih m hm (by rw [bO hP OC OC hp,qU];omega) _ L' D' K' hD' hK' hL') L D K hD hK (by unfold fY at hL;simp only [qU] at hL;omega)
   have e1:eW P G (k+1) (v:Int)=(bq P v).foldl (fun z c=>z|||eW P G k c) (G[v]'OC):=by rw [eW,yR,hgd v OC]
   rw [fY,j0,fQ,e1,eD,yR];exact h1
theorem uA {l:List (Nat×V)} {os:List (Nat×Ob)} {k:Nat} (h1:l.all (fun p=>p.2.all fun i=>Nat.blt i 1000)=true) (h2:os.all (fun p=>Nat.blt p.1 1000&&p.2.all fun i=>Nat.blt i 1000)=true):(∀ t,((mkS l os k).sl t).all (fun i=>Nat.blt i 1000)=true)/\∀ i o,(mkS l os k).ob i=some o->i<1000/\o.all (fun i=>Nat.blt i 1000)=true:=by
 constructor
 ·intro t;show (look l t).all _=true;clear h2;induction l with
  | nil=>rfl
  | cons p l ih=>
    simp only [K9,cH] at h1;obtain ⟨d,v⟩:=p;simp only [look];cases Nat.beq t d with
    | true=>exact h1.1
    | false=>exact ih h1.2
 ·intro i o h;have hm:=nP.1 h2 _ (bV h);rw [cH] at hm;exact ⟨Bo hm.1,hm.2⟩
theorem ot (P:List Int):∀ (k:Nat) (v:Int),fY P k v=(a7 P k v).vs
 | 0,v=>by rw [fY,a7,Tr.vs,vsL]
 | k+1,v=>by
   rw [fY,a7,Tr.vs,dm,List.flatMap_map];rw [show fY P k=fun c=>(a7 P k c).vs from funext (ot P k)]
theorem nN {P:List Int}:(bq P (-1)).flatMap (fY P P.length)=aD P:=by
 rw [<-ij,dm,List.flatMap_map,show fY P P.length=fun c=>(a7 P P.length c).vs from funext (ot P P.length)]
def iK (S:Sch) (P:List Int) (G:List B64):VD where
 chs:=lsT P P.length
 kes:=bg (List.replicate G.length []) ((bq P (-1)).flatMap fun c=>fQ P G G.length P.length c 0#64)
 hos:=hsT G.length (hpL (bg (List.replicate G.length 0) ((bq P (-1)).flatMap fun c=>j0 P P.length c 0#64)) S) S.rels.length
 wa:=aD P
abbrev ca (D:VD):PV:= .agg [bu D.chs,bu D.kes,bu D.hos,ak D.wa]
theorem FR {S:Sch} {P:List Int} {G:List B64} {k i:Nat} {H M CS D2:List Int} {K2:List (List Int)} (hkP:k=P.length) (hie:i=S.rels.length) (hH:hpL D2 S=H) (hM:M=CS.flatMap (fY P P.length)) (hCS:bq P (-1)=CS) (hD2:D2=bg (List.replicate G.length 0) (CS.flatMap fun c=>j0 P P.length c 0#64))
  (hK2:K2=bg (List.replicate G.length []) (CS.flatMap fun c=>fQ P G G.length P.length c 0#64)) (hKl:K2.length=G.length):PV.agg [bu (lsT P k),.sl none G.length (K2.map ak),.sl none G.length ((hsT G.length H i).map ak),ak M]=ca (iK S P G):=by
 have e1:(iK S P G).kes=K2:=by rw [hK2,<-hCS];rfl
 have e2:(iK S P G).wa=M:=by rw [hM,<-hCS,nN];rfl
 have e3:(iK S P G).hos=hsT G.length H i:=by rw [<-hH,hie,hD2,<-hCS];rfl
 have e4:(iK S P G).chs=lsT P k:=by rw [hkP];rfl
 unfold ca;rw [e1,e2,e3,e4];unfold bu;rw [hKl,cP]
theorem H6 (n:Nat):PV.fgL (List.replicate n nS)=(List.replicate n ([]:List Int)).map ak:=by
 induction n with
 | zero=>rfl
 | succ n ih=>rw [List.replicate_succ,List.replicate_succ,PV.fgL,ih,jt];rfl
theorem Dk (S:Sch) (hS:SB S) (P:List Int) (hO:OrdOk S P):FnP Tryz.prog 225 [gK S,Fe P] (fun v=>∃ G,IsG S G/\v=ca (iK S P G)):=by
 refine FnP.ofC func225 O ntmps225 OG fun m0 w0 F R0=>?_
 have hV:=hO.val;have hP:=hO.dP;have hPl:=hO.len;have hn12:=hV.n2;refine Z3 O O O O<|Z1 O O ?_;refine RL.call O (dE call127 (iE S hS hV) O ?_);rintro _ ⟨G,rfl,hG⟩;have hGl:=hG.len;refine Y2 O O<|Z3 O O O O<|Ge O follows [0,1,2,3,4,5,6,7,8,9] OD ?_;iterate 10 refine D1 O O ?_
 refine ⟨OD,?_⟩;refine Wk [(2,.ptr 0 0),(3,.ptr 1 0),(4,.ptr 2 0),(5,.ptr 3 0),(6,.pv (.int .i64 G.length)),(7,.ptr 7 0)] [(0,oZ S),(1,.mix 271 [.pv (ak P)]),(2,.mix 144 [.pv nS,.pv nS,.pv nS,.pv nS]),(3,.mix 186 [.pv (bS G)]),(4,.cells 22 (List.replicate (G.length+1) nS)),(5,.cells 22 (List.replicate G.length nS)),(6,.cells 22 (List.replicate G.length nS)),(7,.mix 144 [.osl 4 1 (G.length+1),.osl 5 1 G.length,.osl 6 1 G.length,.pv nS])] 8 (aS O) ⟨O,O,O,O,af (fun c=>some (Ob.cells 22 c)) ((ct nS ((G.length+1)*1)).trans (by rw [ID])),af (fun c=>some (Ob.cells 22 c)) ((ct nS (G.length*1)).trans (by rw [ID])),af (fun c=>some (Ob.cells 22 c)) ((ct nS (G.length*1)).trans (by rw [ID])),O,OK⟩ O O<|Im (St.py 4 O)<|Im (St.Ae (A:=4) (TA:=22) 3 (G.length+1) (af (fun c=>some (Ob.mix 22 c)) OG) OE OC (fun i h1 h2=>xN OE h1 h2))<|Z4 O O O O O ?_;refine Gl O (st:=fun x_0:Nat=>ovl (mkS [(2,.ptr 0 0),(4,.ptr 2 0),(5,.ptr 3 0),(6,.pv (.int .i64 G.length)),(7,.ptr 7 0),(32,.pv (ak P)),(33,.pv (.int .i64 P.length)),(34,.pv (.int .i64 x_0))] [(0,oZ S),(2,.mix 144 [.pv nS,.pv nS,.pv nS,.pv nS]),(3,.mix 186 [.pv (bS G)]),(5,.cells 22 (List.replicate G.length nS)),(6,.cells 22 (List.replicate G.length nS)),(7,.mix 144 [.osl 4 1 (G.length+1),.osl 5 1 G.length,.osl 6 1 G.length,.pv nS])] 8) 4 22 3 (chV (lsP (lsT P x_0))) (lsP (lsT P x_0)))
  (I:=fun x_0=>x_0<=P.length) (μ:=fun x_0=>P.length-x_0) (x0:=(0)) (St.ej 1000 999 (aT O) (aP OD) (af (fun c=>some (Ob.mix 22 c)) (by rw [eQ 999 (by rw [cZ,b7];omega),vr,hPl,hGl];unfold lsP;rw [List.map_replicate];rfl)) (fun j hj=>by rw [cZ,b7] at hj;rw [b9 OC];refine (b8 (A:=4) (TA:=22) (cells:=chV (List.replicate (G.length+1) [])) (ls:=List.replicate (G.length+1) []) OE (by rw [Kn];omega)).trans ?_;simp [vr,lsP]) O O OE OE OE OE (by rw [cZ,b7];omega)) (eF _) ?_
 rintro k hk;refine Z1 O O ?_;refine Gp O O (fun hc35=>?_) (fun hc35=>?_)
 ·have hlt:k<P.length:=OC;have hpn:=aH hlt;have hpv:=cE hlt;have hpr:=hP.rng _ (aJ hlt);have hlen:(lsP (lsT P k)).length=G.length+1:=by rw [cZ,b7];omega
  have hlb:=fun U (h:U<(lsP (lsT P k)).length)=>Hv P k h
  generalize hls:lsP (lsT P k)=ls at*;refine Il<|Z2 O O O ?_;first | refine A2 O OF ?_ | refine A1 O ?_
  refine Y2 O O<|Z2 O O O ?_;refine Gp O O (fun hc40=>?_) (fun hc40=>?_)
  ·have hm1:P[k]= -1:=OC;have hUl:G.length<ls.length:=OC;have hnx:lsP (lsT P (k+1))=ls.set (G.length) (ls[G.length]++[.int .i64 k]):=by have h5:G.length<(lsT P k).length:=(by rw [b7];omega);rw [uk hO.rng hlt (G.length) (.inl ⟨hm1,OC⟩),sq _ _ h5];subst hls;rfl
   have hld:=xA hUl;have hlbU:=hlb _ hUl;have hsto:(G.length)*1+1<=(chV ls).length:=by rw [fp];omega
   refine Z2 O O O<|Ge O follows [0,1,2,3,4,5,6,7,8,9,10,11,12] OD ?_;iterate 6 refine D1 O O ?_
   refine Ds 48 [_] O O O (fun τ h=>aa (G.length) underlying142 ly (Ee h 0 O O) (Eo h 0 O O) (Ee h 1 O O) O OC) O OD<|Ds 49 [_] O O O (fun τ h=>jU ⟨_,underlying22,O⟩ (Ee h 0 O O) (Eo h 0 O O) hld) O OD ?_;iterate 2 refine D1 O O ?_
   refine Ds 52 [(G.length)+1000,8] O O O (fun τ h=>eN 9 xj (Ee h 0 O O) ((h.o 0 _ O).trans (ry (b:=(ovl (mkS [(2,.ptr 0 0),(4,.ptr 2 0),(5,.ptr 3 0),(6,.pv (.int .i64 G.length)),(7,.ptr 7 0),(32,.pv (ak P)),(33,.pv (.int .i64 P.length)),(34,.pv (.int .i64 k))] [(0,oZ S),(2,.mix 144 [.pv nS,.pv nS,.pv nS,.pv nS]),(3,.mix 186 [.pv (bS G)]),(5,.cells 22 (List.replicate G.length nS)),(6,.cells 22 (List.replicate G.length nS)),(7,.mix 144 [.osl 4 1 (G.length+1),.osl 5 1 G.length,.osl 6 1 G.length,.pv nS])] 8) 4 22 3 (chV (ls)) (ls)).ob (G.length+1000)) OD (b8 OE hUl))) (ID _).symm (Ee h 1 O O) (Eo h 1 O O) O O OC (h.n 0 _ O)) O OD<|Ds 53 [_] O O O (fun τ h=>aa (G.length) underlying142 ly (Ee h 0 O O) (Eo h 0 O O) (Ee h 1 O O) O OC) O OD<|DL.step (d:=none) [_] O O O (fun τ h=>jR ly (Ee h 0 O O) (Eo h 0 O O) (Ee h 1 O O) O hsto O O) O OD ?_;refine ⟨OD,?_⟩;exact Z2 O O O<|⟨(k+1),(by rw [hnx];exact St.ej (G.length) 9 (aT O) (aP OD) (ry (b:=some (.mix 22 (eY (chV ls) ((G.length)*1) [.gsl 9 1 (ls[G.length].length+1)]))) OD (af (fun c=>some (Ob.mix 22 c)) ((nF _ _ _ (by rw [fp];omega)).trans (kg hUl 9 _).symm))) (r5 hUl _ OD (fun j hj hne=>ry (b:=bif Nat.beq (j+1000) (G.length+1000) then (none:Option Ob) else (ovl (mkS [(2,.ptr 0 0),(4,.ptr 2 0),(5,.ptr 3 0),(6,.pv (.int .i64 G.length)),(7,.ptr 7 0),(32,.pv (ak P)),(33,.pv (.int .i64 P.length)),(34,.pv (.int .i64 k))] [(0,oZ S),(2,.mix 144 [.pv nS,.pv nS,.pv nS,.pv nS]),(3,.mix 186 [.pv (bS G)]),(5,.cells 22 (List.replicate G.length nS)),(6,.cells 22 (List.replicate G.length nS)),(7,.mix 144 [.osl 4 1 (G.length+1),.osl 5 1 G.length,.osl 6 1 G.length,.pv nS])] 8) 4 22 3 (chV (ls)) (ls)).ob (j+1000)) OD (by rw [y7 OC,Hh];exact oE OE hj))) O O OE OE OE OC (by rw [tx];omega)),OC,OC⟩
  ·obtain ⟨a,ha⟩:=rK (show 0<=P[k] by omega);have hUl:a<ls.length:=OC;have hnx:lsP (lsT P (k+1))=ls.set (a) (ls[a]++[.int .i64 k]):=by have h5:a<(lsT P k).length:=(by rw [b7];omega);rw [uk hO.rng hlt (a) (.inr ⟨ha,OC⟩),sq _ _ h5];subst hls;rfl
   have hld:=xA hUl;have hlbU:=hlb _ hUl;have hsto:(a)*1+1<=(chV ls).length:=by rw [fp];omega
   refine Il ?_;rw [ha];refine Ge O follows [0,1,2,3,4,5,6,7,8,9,10,11,12] OD ?_;iterate 6 refine D1 O O ?_
   refine Ds 48 [_] O O O (fun τ h=>aa (a) underlying142 ly (Ee h 0 O O) (Eo h 0 O O) (Ee h 1 O O) O OC) O OD<|Ds 49 [_] O O O (fun τ h=>jU ⟨_,underlying22,O⟩ (Ee h 0 O O) (Eo h 0 O O) hld) O OD ?_;iterate 2 refine D1 O O ?_
   refine Ds 52 [(a)+1000,8] O O O (fun τ h=>eN 9 xj (Ee h 0 O O) ((h.o 0 _ O).trans (ry (b:=(ovl (mkS [(2,.ptr 0 0),(4,.ptr 2 0),(5,.ptr 3 0),(6,.pv (.int .i64 G.length)),(7,.ptr 7 0),(32,.pv (ak P)),(33,.pv (.int .i64 P.length)),(34,.pv (.int .i64 k))] [(0,oZ S),(2,.mix 144 [.pv nS,.pv nS,.pv nS,.pv nS]),(3,.mix 186 [.pv (bS G)]),(5,.cells 22 (List.replicate G.length nS)),(6,.cells 22 (List.replicate G.length nS)),(7,.mix 144 [.osl 4 1 (G.length+1),.osl 5 1 G.length,.osl 6 1 G.length,.pv nS])] 8) 4 22 3 (chV (ls)) (ls)).ob (a+1000)) OD (b8 OE hUl))) (ID _).symm (Ee h 1 O O) (Eo h 1 O O) O O OC (h.n 0 _ O)) O OD<|Ds 53 [_] O O O (fun τ h=>aa (a) underlying142 ly (Ee h 0 O O) (Eo h 0 O O) (Ee h 1 O O) O OC) O OD<|DL.step (d:=none) [_] O O O (fun τ h=>jR ly (Ee h 0 O O) (Eo h 0 O O) (Ee h 1 O O) O hsto O O) O OD ?_;refine ⟨OD,?_⟩;exact Z2 O O O<|⟨(k+1),(by rw [hnx];exact St.ej (a) 9 (aT O) (aP OD) (ry (b:=some (.mix 22 (eY (chV ls) ((a)*1) [.gsl 9 1 (ls[a].length+1)]))) OD (af (fun c=>some (Ob.mix 22 c)) ((nF _ _ _ (by rw [fp];omega)).trans (kg hUl 9 _).symm))) (r5 hUl _ OD (fun j hj hne=>ry (b:=bif Nat.beq (j+1000) (a+1000) then (none:Option Ob) else (ovl (mkS [(2,.ptr 0 0),(4,.ptr 2 0),(5,.ptr 3 0),(6,.pv (.int .i64 G.length)),(7,.ptr 7 0),(32,.pv (ak P)),(33,.pv (.int .i64 P.length)),(34,.pv (.int .i64 k))] [(0,oZ S),(2,.mix 144 [.pv nS,.pv nS,.pv nS,.pv nS]),(3,.mix 186 [.pv (bS G)]),(5,.cells 22 (List.replicate G.length nS)),(6,.cells 22 (List.replicate G.length nS)),(7,.mix 144 [.osl 4 1 (G.length+1),.osl 5 1 G.length,.osl 6 1 G.length,.pv nS])] 8) 4 22 3 (chV (ls)) (ls)).ob (j+1000)) OD (by rw [y7 OC,Hh];exact oE OE hj))) O O OE OE OE OC (by rw [tx];omega)),OC,OC⟩
 ·have hkP:k=P.length:=OC;have hlen:(lsP (lsT P k)).length=G.length+1:=by rw [cZ,b7];omega
  have hLl:(lsT P k).length=G.length+1:=by rw [b7];omega
  have hcp:chP (lsP (lsT P k))=((lsT P k).map ak).map V.pv:=by rw [zo,Of];rfl
  generalize hls:lsP (lsT P k)=ls at*;refine Im (St.ej (l:=[(2,.ptr 0 0),(4,.ptr 2 0),(5,.ptr 3 0),(6,.pv (.int .i64 G.length)),(7,.ptr 7 0)]) (os:=[(0,oZ S),(2,.mix 144 [.pv nS,.pv nS,.pv nS,.pv nS]),(3,.mix 186 [.pv (bS G)]),(5,.cells 22 (List.replicate G.length nS)),(6,.cells 22 (List.replicate G.length nS)),(7,.mix 144 [.osl 4 1 (G.length+1),.osl 5 1 G.length,.osl 6 1 G.length,.pv nS])]) (k:=8) (A:=4) (TA:=22) (T:=3) (ls:=ls) 1000 999 (aT OD) (aP OD) (ry (b:=some (.mix 22 (chV ls))) OD (by rw [eQ 999 OC])) (fun j hj=>by rw [b9 OC];exact ry (b:=(ovl (mkS [(2,.ptr 0 0),(4,.ptr 2 0),(5,.ptr 3 0),(6,.pv (.int .i64 G.length)),(7,.ptr 7 0),(32,.pv (ak P)),(33,.pv (.int .i64 P.length)),(34,.pv (.int .i64 k))] [(0,oZ S),(2,.mix 144 [.pv nS,.pv nS,.pv nS,.pv nS]),(3,.mix 186 [.pv (bS G)]),(5,.cells 22 (List.replicate G.length nS)),(6,.cells 22 (List.replicate G.length nS)),(7,.mix 144 [.osl 4 1 (G.length+1),.osl 5 1 G.length,.osl 6 1 G.length,.pv nS])] 8) 4 22 3 (chV (ls)) (ls)).ob (j+1000)) OD (b8 OE hj)) O O OE OE OE OE OC) ?_;have hsm:=uA (l:=[(2,.ptr 0 0),(4,.ptr 2 0),(5,.ptr 3 0),(6,.pv (.int .i64 G.length)),(7,.ptr 7 0)]) (os:=[(0,oZ S),(2,.mix 144 [.pv nS,.pv nS,.pv nS,.pv nS]),(3,.mix 186 [.pv (bS G)]),(5,.cells 22 (List.replicate G.length nS)),(6,.cells 22 (List.replicate G.length nS)),(7,.mix 144 [.osl 4 1 (G.length+1),.osl 5 1 G.length,.osl 6 1 G.length,.pv nS])]) (k:=8) O O;refine Im (St.zC ls OE OC hsm.1 hsm.2)<|Im (St.zb (id:=4) (cs:=(lsT P k).map ak) O hcp)<|Im (Io (l:=[(2,.ptr 0 0),(4,.ptr 2 0),(5,.ptr 3 0),(6,.pv (.int .i64 G.length)),(7,.ptr 7 0)]) (os:=(4,.cells 22 ((lsT P k).map ak))::[(0,oZ S),(2,.mix 144 [.pv nS,.pv nS,.pv nS,.pv nS]),(3,.mix 186 [.pv (bS G)]),(5,.cells 22 (List.replicate G.length nS)),(6,.cells 22 (List.replicate G.length nS)),(7,.mix 144 [.osl 4 1 (G.length+1),.osl 5 1 G.length,.osl 6 1 G.length,.pv nS])]) (k:=8) (aS OD) (aO OD) O O)<|Im (St.er 7 3 8 1 3 O O O)<|Im (Ir 4 O O)<|Im (St.uB 7 O)<|Im (St.Hc (id:=5) O)<|Wk [(2,.ptr 0 0),(4,.ptr 2 0),(5,.ptr 3 0),(6,.pv (.int .i64 G.length)),(7,.ptr 7 0)] [(0,oZ S),(2,.mix 144 [.pv nS,.pv nS,.pv nS,.pv nS]),(3,.mix 186 [.pv (bS G)]),(5,.cells 22 ((List.replicate G.length ([]:List Int)).map ak)),(6,.cells 22 (List.replicate G.length nS)),(7,.mix 144 [.pv (bu (lsT P k)),.osl 5 1 G.length,.osl 6 1 G.length,.gsl 8 1 0]),(8,.gro 3 (aE []))] 9 (aS OD) ⟨OD,OD,OD,ry (b:=some (.cells 22 (PV.fgL (List.replicate G.length nS)))) OD (af (fun c=>some (Ob.cells 22 c)) (H6 _)),OD,ry (b:=some (.mix 144 [.pv (.sl none (G.length+1) ((lsT P k).map ak)),.osl 5 1 G.length,.osl 6 1 G.length,.gsl 8 1 0])) OD (af (fun q=>some (Ob.mix 144 [.pv (.sl none q ((lsT P k).map ak)),.osl 5 1 G.length,.osl 6 1 G.length,.gsl 8 1 0])) hLl.symm),OD,OK⟩ O O ?_;clear hls hcp hlen;have hCl:(bq P (-1)).length<=64:=uv (IE ..) (by rw [a8];omega);have hCm:∀ c∈bq P (-1),∃ m:Nat,m<G.length/\c=(m:Int)/\P.getD m 0= -1:=fun c hc=>by obtain ⟨m,hm,e,hp⟩:=aX.1 hc;exact ⟨m,OC,e,hp⟩
  have hrl:G.length<(lsT P k).length:=OC;have hrv:=cM hrl;have hrn:=cQ hrl;have hroot:(lsT P k)[G.length]=bq P (-1):=by have h5:=fG P k;rw [hkP,jT] at h5;simp only [hkP,hGl,<-hPl];exact h5
  rw [hroot] at hrv;have hch:∀ v (h:v<G.length),(lsT P k)[v]'OC=bq P v:=fun v h=>by have h5:=mJ P k (i:=v) OC;rw [h5,hkP,jT]
  have hvis:=fun (m:Nat) (hm:m<G.length) (hr:P.getD m 0= -1)=>Bl G.length OC hV G hG O P hP OC (lsT P k) hLl hch (List.replicate G.length nS) P.length m hm OC 0#64
  have hvl:((bq P (-1)).flatMap (fY P P.length)).length<=12:=by rw [nN,Aa hP];omega
  generalize hCS:bq P (-1)=CS at*;refine Gx O<|Z4 O O O O O<|Z1 O O<|Im (St.fS 3 O O)<|Z2 O O O<|Z3 O O O O<|Rs 61 O O (ag G.length underlying142 ly O O O hrl hrn)<|Rs 62 O O (ai ⟨_,underlying22,O⟩ O hrv)<|Y2 O O ?_;refine Gl O (st:=fun x_1:Nat×List Int×List Int×List (List Int)=>mkS [(2,.ptr 0 0),(4,.ptr 2 0),(7,.ptr 7 0),(10,.ptr 10 0),(11,.ptr 11 0),(62,.pv (ak CS)),(63,.pv (.int .i64 CS.length)),(64,.pv (.int .i64 x_1.1))] [(0,oZ S),(2,.mix 144 [.pv nS,.pv nS,.pv nS,.pv nS]),(5,.cells 22 (x_1.2.2.2.map ak)),(6,.cells 22 (List.replicate G.length nS)),(7,.mix 144 [.pv (bu ((lsT P k))),.osl 5 1 G.length,.osl 6 1 G.length,.gsl 8 1 x_1.2.1.length]),(8,.gro 3 (aE x_1.2.1)),(9,.cells 3 (aE x_1.2.2.1)),(10,.mix 22 [.osl 9 1 G.length]),(11,.mix 294 [.fn (.func 253) [] [.ptr 7 0,.ptr 10 0,.pv (.rp [bS G] 0),.ptr 11 0]])] 12)
   (I:=fun x_1=>(x_1.1<=CS.length/\x_1.2.1=(CS.take x_1.1).flatMap (fY P P.length))/\x_1.2.2.1=bg (List.replicate G.length 0) ((CS.take x_1.1).flatMap fun c=>j0 P P.length c 0#64)/\x_1.2.2.2=bg (List.replicate G.length []) ((CS.take x_1.1).flatMap fun c=>fQ P G G.length P.length c 0#64)) (μ:=fun x_1=>CS.length-x_1.1) (x0:=(0,[],List.replicate G.length 0,List.replicate G.length [])) (Io (aS O) ⟨OD,OD,OD,OD,OD,OD,ry (b:=some (.cells 3 (mkZ [.int .i64 0] (G.length*1)))) OD (af (fun c=>some (Ob.cells 3 c)) ((ct (.int .i64 0) (G.length*1)).trans (by rw [ID];show _=List.map _ (List.replicate _ _);rw [List.map_replicate]))),OD,OD,OK⟩ O O) (⟨⟨eF _,O⟩,O,O⟩) ?_
  rintro ⟨j,M,D2,K2⟩ ⟨⟨hj,hM⟩,hD2,hK2⟩;try simp only at hj hM hD2 hK2 ⊢
  refine Z1 O O ?_;refine Gp O O (fun hc65=>?_) (fun hc65=>?_)
  ·have hlt:j<CS.length:=OC;have hcm:=aJ hlt;obtain ⟨c,hcl,hc,hcr⟩:=hCm _ hcm;have hpv2:(aE CS)[j*1]? =some (.int .i64 (c:Int)):=by rw [<-hc];simp [hlt]
   have hpn2:=aH hlt;have htf:=eC hlt (fY P P.length);have htd:=eC hlt (fun c=>j0 P P.length c 0#64);have htk:=eC hlt (fun c=>fQ P G G.length P.length c 0#64);have hfl:=vo (fY P P.length) CS (j+1);rw [hc] at htf htd htk;have hgo:=hvis c hcl hcr M D2 K2 (by rw [hD2,cA,Kn]) (by rw [hK2,cA,Kn]) (by rw [htf,a6] at hfl;rw [hM];omega);exact Il<|Z1 O O<|Rs 67 O O (ai ⟨_,underlying3,O⟩ O hpv2)<|A1 O<|Z2 O O O<|Rs 70 O O (bJ (vs:=[.pv (.int .i64 (c:Int)),.pv (bz 0#64)]) [7,5,6,8,10,9,11] 12 call253 hgo O O O O O O ⟨OD,OD,OD,OD,OD,OD,OD,OK⟩ OE O)<|Z2 O O O<|⟨(j+1,M++fY P P.length (c:Int),bg D2 (j0 P P.length (c:Int) 0#64),bg K2 (fQ P G G.length P.length (c:Int) 0#64)),Ip [0,1,2,3,4,5,6,7,13,9,10,11] (aT O) (aP OD) O O OE O,⟨⟨OI,by simp only;rw [htf,<-hM]⟩,by simp only;rw [htd,eD,<-hD2],by simp only;rw [htk,eD,<-hK2]⟩,OI⟩
  ·rw [show CS.take j=CS from bk OC] at hM hD2 hK2;have hDl:D2.length=G.length:=by rw [hD2,cA,Kn]
   have hKl:K2.length=G.length:=by rw [hK2,cA,Kn]
   have hIl:(aE D2).length=G.length:=by rw [rJ,hDl]
   have hrl5:=hV.r2;have hrln:=hS.rl;have hHl:=F9 D2 S;generalize hH:hpL D2 S=H at hHl;have hHr:∀ i (h:i<S.rels.length),H[i]'OC=eX D2 S.rels[i].2 S.rels[i].2.length:=fun i h=>by subst hH;simp [hpL]
   refine Wk [(2,.ptr 0 0),(4,.ptr 2 0),(7,.ptr 7 0),(10,.ptr 10 0)] [(0,oZ S),(2,.mix 144 [.pv nS,.pv nS,.pv nS,.pv nS]),(5,.cells 22 (K2.map ak)),(6,.cells 22 (List.replicate G.length nS)),(7,.mix 144 [.pv (bu (lsT P k)),.osl 5 1 G.length,.osl 6 1 G.length,.gsl 8 1 M.length]),(8,.gro 3 (aE M)),(9,.cells 3 (aE D2)),(10,.mix 22 [.osl 9 1 G.length])] 12 (aS OD) (aO OD) O O<|Im (St.py 6 O)<|Im (St.Ae (A:=6) (TA:=22) 3 G.length (af (fun c=>some (Ob.mix 22 c)) OG) OE OC (fun i h1 h2=>xN OE h1 h2))<|Gx O<|Z4 O O O O O ?_;refine Gl O (st:=fun x_2:Nat=>ovl (mkS [(4,.ptr 2 0),(7,.ptr 7 0),(10,.ptr 10 0),(73,.pv (.sl none S.rels.length (bj S.rels))),(74,.pv (.int .i64 S.rels.length)),(75,.pv (.int .i64 x_2))] [(2,.mix 144 [.pv nS,.pv nS,.pv nS,.pv nS]),(5,.cells 22 (K2.map ak)),(7,.mix 144 [.pv (bu (lsT P k)),.osl 5 1 G.length,.osl 6 1 G.length,.gsl 8 1 M.length]),(8,.gro 3 (aE M)),(9,.cells 3 (aE D2)),(10,.mix 22 [.osl 9 1 G.length])] 12) 6 22 3 (chV (lsP (hsT G.length H x_2))) (lsP (hsT G.length H x_2)))
    (I:=fun x_2=>x_2<=S.rels.length) (μ:=fun x_2=>S.rels.length-x_2) (x0:=(0)) (St.ej 1000 999 (aT O) (aP OD) (af (fun c=>some (Ob.mix 22 c)) (by rw [eQ 999 (by rw [cZ,cP];omega),uy];unfold lsP;rw [List.map_replicate];rfl)) (fun j hj=>by rw [cZ,cP] at hj;rw [b9 OC];refine (b8 (A:=6) (TA:=22) (cells:=chV (List.replicate G.length [])) (ls:=List.replicate G.length []) OE (by rw [Kn];omega)).trans ?_;simp [uy,lsP]) O O OE OE OE OE (by rw [cZ,cP];omega)) (eF _) ?_
   rintro i hi;refine Z1 O O ?_;refine Gp O O (fun hc76=>?_) (fun hc76=>?_)
   ·have hli:i<S.rels.length:=OC;have hrow:=cW hli;have hne:=ew hli;have hrk:=hrln _ (aJ hli);have hrr:=hV.rng _ (aJ hli);have hrn0:=hV.ne _ (aJ hli);have hHi:=hHr i hli;have hlen:(lsP (hsT G.length H i)).length=G.length:=by rw [cZ,cP]
    have hlb:=fun U (h:U<(lsP (hsT G.length H i)).length)=>Hl G.length H i h
    generalize S.rels[i]=rk at*;have hhm:=fun j=>pY D2 hrn0 j
    have hnat:∀ x∈rk.2,∃ m:Nat,m<G.length/\x=(m:Int):=fun x hx=>by obtain ⟨m,e⟩:=rK (hrr x hx).1;exact ⟨m,by have:=(hrr x hx).2;omega,e⟩
    obtain ⟨U,hUn,hUe⟩:=hnat _ (hhm rk.2.length);generalize hls:lsP (hsT G.length H i)=ls at*;have hUl:U<ls.length:=OC;have hnx:lsP (hsT G.length H (i+1))=ls.set U (ls[U]++[.int .i64 i]):=by have h5:U<(hsT G.length H i).length:=(by rw [cP];exact hUn);rw [Cy OC hUn (hHi.trans hUe),sq _ _ h5];subst hls;rfl
    have hld:=xA hUl;have hlbU:=hlb _ hUl;have hsto:U*1+1<=(chV ls).length:=by rw [fp];omega
    have h0l:0<rk.2.length:=CG.2 hrn0;have hq0:(aE rk.2)[0*1]? =some (.int .i64 (eX D2 rk.2 0)):=by cases hc:rk.2 with | nil=>exact absurd hc hrn0 | cons x l=>simp [eX]
    have hpn0:=aH h0l;refine Il<|Z2 O O O ?_;first | refine A3 O OF ?_ | refine A1 O ?_
    refine Y3 O O O<|Z2 O O O<|Rs 82 O O (ag 0 underlying22 sz3 O O O h0l hpn0)<|Rs 83 O O (ai ⟨_,underlying3,O⟩ O hq0)<|A1 O<|Z4 O O O O O ?_;refine Gl O (st:=fun x_3:Nat=>ovl (mkS [(4,.ptr 2 0),(7,.ptr 7 0),(10,.ptr 10 0),(14,.pv (.int .i64 i)),(16,.pv (.int .i64 (eX D2 rk.2 x_3))),(73,.pv (.sl none S.rels.length (bj S.rels))),(74,.pv (.int .i64 S.rels.length)),(75,.pv (.int .i64 i)),(85,.pv (ak rk.2)),(86,.pv (.int .i64 rk.2.length)),(87,.pv (.int .i64 x_3))] [(2,.mix 144 [.pv nS,.pv nS,.pv nS,.pv nS]),(5,.cells 22 (K2.map ak)),(7,.mix 144 [.pv (bu (lsT P k)),.osl 5 1 G.length,.osl 6 1 G.length,.gsl 8 1 M.length]),(8,.gro 3 (aE M)),(9,.cells 3 (aE D2)),(10,.mix 22 [.osl 9 1 G.length])] 13) 6 22 3 (chV ls) (ls))
     (I:=fun x_3=>x_3<=rk.2.length) (μ:=fun x_3=>rk.2.length-x_3) (x0:=(0)) (St.ej 1000 999 (aT O) (aP OD) (ry (b:=some (.mix 22 (chV ls))) OD (by rw [eQ 999 OC])) (fun j2 hj2=>by rw [b9 OC];exact ry (b:=(ovl (mkS [(4,.ptr 2 0),(7,.ptr 7 0),(10,.ptr 10 0),(73,.pv (.sl none S.rels.length (bj S.rels))),(74,.pv (.int .i64 S.rels.length)),(75,.pv (.int .i64 i))] [(2,.mix 144 [.pv nS,.pv nS,.pv nS,.pv nS]),(5,.cells 22 (K2.map ak)),(7,.mix 144 [.pv (bu (lsT P k)),.osl 5 1 G.length,.osl 6 1 G.length,.gsl 8 1 M.length]),(8,.gro 3 (aE M)),(9,.cells 3 (aE D2)),(10,.mix 22 [.osl 9 1 G.length])] 12) 6 22 3 (chV (ls)) (ls)).ob (j2+1000)) OD (b8 OE hj2)) O O OE OE OE OE OC) (eF _) ?_
    rintro j3 hj3;refine Z1 O O ?_;refine Gp O O (fun hc88=>?_) (fun hc88=>?_)
    ·have hl3:j3<rk.2.length:=OC;obtain ⟨a,hal,ha⟩:=hnat _ (aJ hl3);obtain ⟨mh,hml,hmh⟩:=hnat _ (hhm j3);have hpv3:(aE rk.2)[j3*1]? =some (.int .i64 (a:Int)):=by rw [<-ha];simp [hl3]
     have hpn3:=aH hl3;have hDa:(aE D2)[a*1]? =some (.int .i64 (D2.getD a 0)):=by simp [List.getD,hDl,hal]
     have hDm:(aE D2)[mh*1]? =some (.int .i64 (D2.getD mh 0)):=by simp [List.getD,hDl,hml]
     have hhs:=wC D2 rk.2 hl3;rw [ha,hmh,yR,yR] at hhs;refine Il<|Z1 O O<|Rs 90 O O (ai ⟨_,underlying3,O⟩ O hpv3)<|A1 O<|Ge O follows [0,1,2,3,4,5,6,7,8] OD ?_;iterate 2 refine D1 O O ?_
     refine Ds 93 [_] O O O (fun τ h=>aa a underlying22 sz3 (Ee h 0 O O) (Eo h 0 O O) (Ee h 1 O O) O OC) O OD<|Ds 94 [_] O O O (fun τ h=>aC ⟨_,underlying3,O⟩ (Ee h 0 O O) (Eo h 0 O O) hDa) O OD ?_;iterate 2 refine D1 O O ?_
     refine Ds 97 [_] O O O (fun τ h=>aa mh underlying22 sz3 (Ee h 0 O O) (Eo h 0 O O) (Ee h 1 O O) hmh OC) O OD<|Ds 98 [_] O O O (fun τ h=>aC ⟨_,underlying3,O⟩ (Ee h 0 O O) (Eo h 0 O O) hDm) O OD<|D1 O O ?_;refine ⟨OD,?_⟩;refine Gp O O (fun hc99=>?_) (fun hc99=>?_)
     ·exact Z2 O O O<|Z2 O O O<|⟨(j3+1),St.ej 1000 999 ⟨O,O,O,O,af (fun z=>V.pv (.int .i64 z)) (hhs.trans (og hc99)).symm,O,O,O,O,O,O,OK⟩ (aP OD) (ry (b:=some (.mix 22 (chV ls))) OD (by rw [eQ 999 OC])) (fun j2 hj2=>by rw [b9 OC];exact ry (b:=(ovl (mkS [(4,.ptr 2 0),(7,.ptr 7 0),(10,.ptr 10 0),(14,.pv (.int .i64 i)),(16,.pv (.int .i64 (eX D2 rk.2 j3))),(73,.pv (.sl none S.rels.length (bj S.rels))),(74,.pv (.int .i64 S.rels.length)),(75,.pv (.int .i64 i)),(85,.pv (ak rk.2)),(86,.pv (.int .i64 rk.2.length)),(87,.pv (.int .i64 j3))] [(2,.mix 144 [.pv nS,.pv nS,.pv nS,.pv nS]),(5,.cells 22 (K2.map ak)),(7,.mix 144 [.pv (bu (lsT P k)),.osl 5 1 G.length,.osl 6 1 G.length,.gsl 8 1 M.length]),(8,.gro 3 (aE M)),(9,.cells 3 (aE D2)),(10,.mix 22 [.osl 9 1 G.length])] 13) 6 22 3 (chV ls) (ls)).ob (j2+1000)) OD (b8 OE hj2)) O O OE OE OE OE OC,OC,OC⟩
     ·exact Il<|Z2 O O O<|⟨(j3+1),St.ej 1000 999 ⟨O,O,O,O,af (fun z=>V.pv (.int .i64 z)) ((hhs.trans (ga hc99)).trans hmh.symm).symm,O,O,O,O,O,O,OK⟩ (aP OD) (ry (b:=some (.mix 22 (chV ls))) OD (by rw [eQ 999 OC])) (fun j2 hj2=>by rw [b9 OC];exact ry (b:=(ovl (mkS [(4,.ptr 2 0),(7,.ptr 7 0),(10,.ptr 10 0),(14,.pv (.int .i64 i)),(16,.pv (.int .i64 (eX D2 rk.2 j3))),(73,.pv (.sl none S.rels.length (bj S.rels))),(74,.pv (.int .i64 S.rels.length)),(75,.pv (.int .i64 i)),(85,.pv (ak rk.2)),(86,.pv (.int .i64 rk.2.length)),(87,.pv (.int .i64 j3))] [(2,.mix 144 [.pv nS,.pv nS,.pv nS,.pv nS]),(5,.cells 22 (K2.map ak)),(7,.mix 144 [.pv (bu (lsT P k)),.osl 5 1 G.length,.osl 6 1 G.length,.gsl 8 1 M.length]),(8,.gro 3 (aE M)),(9,.cells 3 (aE D2)),(10,.mix 22 [.osl 9 1 G.length])] 13) 6 22 3 (chV ls) (ls)).ob (j2+1000)) OD (b8 OE hj2)) O O OE OE OE OE OC,OC,OC⟩
    ·have hje:j3=rk.2.length:=OC;rw [<-hje] at hUe;refine Gx O<|Ge O follows [0,1,2,3,4,5,6,7,8,9,10,11,12] OD ?_;iterate 6 refine D1 O O ?_
     refine Ds 108 [_] O O O (fun τ h=>aa U underlying142 ly (Ee h 0 O O) (Eo h 0 O O) (Ee h 1 O O) hUe OC) O OD<|Ds 109 [_] O O O (fun τ h=>jU ⟨_,underlying22,O⟩ (Ee h 0 O O) (Eo h 0 O O) hld) O OD ?_;iterate 2 refine D1 O O ?_
     refine Ds 112 [U+1000,13] O O O (fun τ h=>eN 14 xj (Ee h 0 O O) ((h.o 0 _ O).trans (ry (b:=(ovl (mkS [(4,.ptr 2 0),(7,.ptr 7 0),(10,.ptr 10 0),(14,.pv (.int .i64 i)),(16,.pv (.int .i64 (eX D2 rk.2 j3))),(73,.pv (.sl none S.rels.length (bj S.rels))),(74,.pv (.int .i64 S.rels.length)),(75,.pv (.int .i64 i)),(85,.pv (ak rk.2)),(86,.pv (.int .i64 rk.2.length)),(87,.pv (.int .i64 j3))] [(2,.mix 144 [.pv nS,.pv nS,.pv nS,.pv nS]),(5,.cells 22 (K2.map ak)),(7,.mix 144 [.pv (bu (lsT P k)),.osl 5 1 G.length,.osl 6 1 G.length,.gsl 8 1 M.length]),(8,.gro 3 (aE M)),(9,.cells 3 (aE D2)),(10,.mix 22 [.osl 9 1 G.length])] 13) 6 22 3 (chV ls) (ls)).ob (U+1000)) OD (b8 OE hUl))) (ID _).symm (Ee h 1 O O) (Eo h 1 O O) O O OC (h.n 0 _ O)) O OD<|Ds 113 [_] O O O (fun τ h=>aa U underlying142 ly (Ee h 0 O O) (Eo h 0 O O) (Ee h 1 O O) hUe OC) O OD<|DL.step (d:=none) [_] O O O (fun τ h=>jR ly (Ee h 0 O O) (Eo h 0 O O) (Ee h 1 O O) O hsto O O) O OD ?_;refine ⟨OD,?_⟩;exact Z2 O O O<|⟨(i+1),(by rw [hnx];exact St.ej U 14 (aT O) (aP OD) (ry (b:=some (.mix 22 (eY (chV ls) (U*1) [.gsl 14 1 (ls[U].length+1)]))) OD (af (fun c=>some (Ob.mix 22 c)) ((nF _ _ _ (by rw [fp];omega)).trans (kg hUl 14 _).symm))) (r5 hUl _ OD (fun j2 hj2 hne2=>ry (b:=bif Nat.beq (j2+1000) (U+1000) then (none:Option Ob) else (ovl (mkS [(4,.ptr 2 0),(7,.ptr 7 0),(10,.ptr 10 0),(14,.pv (.int .i64 i)),(16,.pv (.int .i64 (eX D2 rk.2 j3))),(73,.pv (.sl none S.rels.length (bj S.rels))),(74,.pv (.int .i64 S.rels.length)),(75,.pv (.int .i64 i)),(85,.pv (ak rk.2)),(86,.pv (.int .i64 rk.2.length)),(87,.pv (.int .i64 j3))] [(2,.mix 144 [.pv nS,.pv nS,.pv nS,.pv nS]),(5,.cells 22 (K2.map ak)),(7,.mix 144 [.pv (bu (lsT P k)),.osl 5 1 G.length,.osl 6 1 G.length,.gsl 8 1 M.length]),(8,.gro 3 (aE M)),(9,.cells 3 (aE D2)),(10,.mix 22 [.osl 9 1 G.length])] 13) 6 22 3 (chV ls) (ls)).ob (j2+1000)) OD (by rw [y7 OC,Hh];exact oE OE hj2))) O O OE OE OE OC (by rw [tx];omega)),OC,OC⟩
   ·have hie:i=S.rels.length:=OC;have hlen:(lsP (hsT G.length H i)).length=G.length:=by rw [cZ,cP]
    have hcp2:chP (lsP (hsT G.length H i))=((hsT G.length H i).map ak).map V.pv:=by rw [zo,Of];rfl
    generalize hls:lsP (hsT G.length H i)=ls at*;refine Im (St.ej (l:=[(4,.ptr 2 0),(7,.ptr 7 0)]) (os:=[(2,.mix 144 [.pv nS,.pv nS,.pv nS,.pv nS]),(5,.cells 22 (K2.map ak)),(7,.mix 144 [.pv (bu (lsT P k)),.osl 5 1 G.length,.osl 6 1 G.length,.gsl 8 1 M.length]),(8,.gro 3 (aE M))]) (k:=12) (A:=6) (TA:=22) (T:=3) (ls:=ls) 1000 999 (aT OD) (aP OD) (ry (b:=some (.mix 22 (chV ls))) OD (by rw [eQ 999 OC])) (fun j2 hj2=>by rw [b9 OC];exact ry (b:=(ovl (mkS [(4,.ptr 2 0),(7,.ptr 7 0),(10,.ptr 10 0),(73,.pv (.sl none S.rels.length (bj S.rels))),(74,.pv (.int .i64 S.rels.length)),(75,.pv (.int .i64 i))] [(2,.mix 144 [.pv nS,.pv nS,.pv nS,.pv nS]),(5,.cells 22 (K2.map ak)),(7,.mix 144 [.pv (bu (lsT P k)),.osl 5 1 G.length,.osl 6 1 G.length,.gsl 8 1 M.length]),(8,.gro 3 (aE M)),(9,.cells 3 (aE D2)),(10,.mix 22 [.osl 9 1 G.length])] 12) 6 22 3 (chV (ls)) (ls)).ob (j2+1000)) OD (b8 OE hj2)) O O OE OE OE OE OC) ?_;have hsm2:=uA (l:=[(4,.ptr 2 0),(7,.ptr 7 0)]) (os:=[(2,.mix 144 [.pv nS,.pv nS,.pv nS,.pv nS]),(5,.cells 22 (K2.map ak)),(7,.mix 144 [.pv (bu (lsT P k)),.osl 5 1 G.length,.osl 6 1 G.length,.gsl 8 1 M.length]),(8,.gro 3 (aE M))]) (k:=12) O O;exact Im (St.zC ls OE OC hsm2.1 hsm2.2)<|Im (St.zb (id:=6) (cs:=(hsT G.length H i).map ak) O hcp2)<|Wk [(4,.ptr 2 0),(7,.ptr 7 0)] [(2,.mix 144 [.pv nS,.pv nS,.pv nS,.pv nS]),(5,.cells 22 (K2.map ak)),(6,.cells 22 ((hsT G.length H i).map ak)),(7,.mix 144 [.pv (bu (lsT P k)),.osl 5 1 G.length,.osl 6 1 G.length,.gsl 8 1 M.length]),(8,.gro 3 (aE M))] 12 (aS OD) (aO OD) O O<|Im (Ir 6 O O)<|Im (Ir 5 O O)<|Im (Ir 8 O O)<|Im (St.uB 7 O)<|Gx O<|Z2 O O O<|Gt O<|⟨_,_,O,O,⟨aY ⟨_,underlying144,O⟩ Fj O O O,OK⟩,G,hG,FR hkP hie hH hM hCS hD2 hK2 hKl⟩
end
section
open Mk Jn
noncomputable def planS (S:Sch):VD:=iK S (ordL S (lstL S)) (gr S)
theorem He (S:Sch) (hS:SB S) (hO:OrdOk S (ordL S (lstL S))):FnP Tryz.prog 225 [gK S,Fe (ordL S (lstL S))] (· =ca (planS S)):=
 (Dk S hS _ hO).mono fun v ⟨G,hG,e⟩=>by rw [e,uw hO.val hG];rfl
theorem G9 {S:Sch} (hS:SB S) (hV:Valid S):OrdOk S (ordL S (lstL S)):=by
 have hp:=(iN S hS hV).1;exact (C9 hV hp).ok hV hp
theorem rR (l:List Int) (hl:l.length<=1000000):FnP Tryz.prog 222 [ak l] (· =ak l):=by
 refine FnP.fg2 (FnP.of func222 O ntmps222 OG fun m0 w0 F R0=>?_);refine Z1 O O<|Z1 O O ?_;refine RL.call O (l9 underlying22 O ?_);intro b hb;refine Gc O O (fun hc4=>?_) (fun hc4=>?_)
 ·have hl0:l=[]:=List.map_eq_nil_iff.1 (hb hc4);exact Z1 O O<|Gt O<|⟨_,_,O,O,by rw [hl0];rfl⟩
 ·refine Il<|Gr O<|Rs 5 O O (ek 0 xj O)<|A1 O<|Rs 7 O O (fc 1 xj O O O (.inl ⟨none,O⟩) OG (fun c hc=>by obtain ⟨y,_,rfl⟩:=uF.1 hc;rfl) OC O) ?_;exact A1 O<|Im (Ir 1 O O)<|Gt O<|⟨_,_,O,O,show PV.sl none (0+l.length) ([]++aE l)=_ by rw [Dq,Ew]⟩
abbrev jnO (S:Sch) (T:List (List Rw)) (lp:List Int) (pk pv:List PV):List (Nat×Ob):=[(big,oX S (.pv (dbP T)) (.pv (ak lp)) 9001),(9001,.mp pk pv)]
abbrev A6 (D:VD):List V:=[.pv (bu D.chs),.pv (bu D.kes),.pv (bu D.hos),.pv (ak D.wa)]
theorem gH:∀ (a b:List (Nat×Ob)) (i:Nat) (o:Ob),ar a i=some o->ar (a++b) i=some o
 | [],b,i,o,h=>by simp [ar] at h
 | (d,v)::a,b,i,o,h=>by
   simp only [F8,ar] at h ⊢;cases hb:Nat.beq i d with
   | true=>rw [hb] at h;exact h
   | false=>rw [hb] at h;exact gH a b i o h
theorem Ax (S:Sch) (hS:SB S) (hV:Valid S) (T:List (List Rw)) (lp:List Int) (hp:lp.Perm (upZ S.attrs.length)) (D:VD) (hlay:FnP Tryz.prog 225 [gK S,Fe (ordL S lp)] (· =ca D)):FnO Tryz.prog 186 2 0 [.ptr big 0,.pv (.int .i64 (-1))] (jnO S T lp [] []) (fun v ob'=>v= .agg (A6 D)/\ob'=ar (jnO S T lp [.int .i64 (-1)] [ca D])):=by
 refine FnO.ofC func186 O ntmps186 OG fun m0 w0 F R0=>?_
 have hq:∀ a∈lp,0<=a/\a<S.attrs.length:=fun a ha=>by obtain ⟨m,hm,rfl⟩:=bx.1 (hp.mem_iff.1 ha);omega
 have hql:lp.length<=1000:=by rw [hp.length_eq,a8];have:=hV.n2;omega
 have hof:=Gu S hS hV lp hq hql;generalize ordL S lp=Q at*;refine Z2 O O O<|Ge O follows [0,1,2,3,4,5,6,7,8,9,10,11] OD ?_;iterate 5 refine D1 O O ?_
 refine Ds 14 [_] O O O (fun τ h=>cg (zp:= .agg [.sl (some true) 0 [],.sl (some true) 0 [],.sl (some true) 0 [],.sl (some true) 0 []]) underlying125 underlying3 (.inl ⟨9001,(Ee h 0 O O),(Eo h 0 O O)⟩) (Ee h 1 O O) O yr O (r:=none) O O O) O OD ?_;iterate 6 refine D1 O O ?_
 refine ⟨OD,?_⟩;refine Z2 O O O ?_;refine Gc O O (fun hc18=>?_) (fun hc18=>absurd hc18 OG);refine Z4 O O O O O<|Rs 23 O O (ae call222 (rR _ OC) O)<|A1 O<|Z2 O O O ?_;refine Gp O O (fun hc25=>absurd hc25 OG) (fun hc25=>?_);refine Il<|Ge O follows [0,1,2,3,4,5,6,7,8,9,10,11] OD ?_;iterate 9 refine D1 O O ?_
 refine Ds 41 [] O O O (fun τ h=>ae call226 hof (h.bt O)) O OD<|Ds 42 [] O O O (fun τ h=>ae call225 hlay (h.bt O)) O OD<|D1 O O ?_;refine ⟨OD,?_⟩;refine Ge O follows [0,1,2,3,4,5,6] OD ?_;iterate 6 refine D1 O O ?_
 refine DL.step (d:=none) [_] O O O (fun τ h=>ed underlying125 underlying3 (Ee h 0 O O) (Eo h 0 O O) (Ee h 1 O O) (Ee h 2 O O) O (r:=none) O O O) O OD ?_;refine ⟨OD,?_⟩;exact Z2 O O O<|Gt O<|⟨[(4,.ptr 1 0)],[(big,oX S (.pv (dbP T)) (.pv (ak lp)) 9001),(9001,.mp [.int .i64 (-1)] [ca D]),(1,.mix 144 (A6 D))],[.agg (A6 D)],[(big,oX S (.pv (dbP T)) (.pv (ak lp)) 9001),(9001,.mp [.int .i64 (-1)] [ca D])],2,Io (aS O) (aO OD) O O,O,⟨aY ⟨_,underlying144,O⟩ Fj O O O,OK⟩,O,O,fun i o h=>gH _ [(1,.mix 144 (A6 D))] i o h,OE,O,O⟩
theorem Cm (S:Sch) (T:List (List Rw)) (lp:List Int) (D:VD):FnO Tryz.prog 186 2 0 [.ptr big 0,.pv (.int .i64 (-1))] (jnO S T lp [.int .i64 (-1)] [ca D]) (fun v ob'=>v= .agg (A6 D)/\ob'=ar (jnO S T lp [.int .i64 (-1)] [ca D])):=by
 refine FnO.ofC func186 O ntmps186 OG fun m0 w0 F R0=>?_
 refine Z2 O O O<|Ge O follows [0,1,2,3,4,5,6,7,8,9,10,11] OD ?_;iterate 5 refine D1 O O ?_
 refine Ds 14 [_] O O O (fun τ h=>cg (zp:= .agg [.sl (some true) 0 [],.sl (some true) 0 [],.sl (some true) 0 [],.sl (some true) 0 []]) underlying125 underlying3 (.inl ⟨9001,(Ee h 0 O O),(Eo h 0 O O)⟩) (Ee h 1 O O) O yr O (r:=some (ca D)) O O O) O OD ?_;iterate 6 refine D1 O O ?_
 refine ⟨OD,?_⟩;refine Z2 O O O ?_;refine Gc O O (fun hc18=>absurd hc18 OG) (fun hc18=>?_);exact Il<|Z2 O O O<|Gt O<|⟨[(4,.ptr 1 0)],[(big,oX S (.pv (dbP T)) (.pv (ak lp)) 9001),(9001,.mp [.int .i64 (-1)] [ca D]),(1,.mix 144 (A6 D))],[.agg (A6 D)],[(big,oX S (.pv (dbP T)) (.pv (ak lp)) 9001),(9001,.mp [.int .i64 (-1)] [ca D])],2,Io (aS O) (aO OD) O O,O,⟨aY ⟨_,underlying144,O⟩ Fj O O O,OK⟩,O,O,fun i o h=>gH _ [(1,.mix 144 (A6 D))] i o h,OE,O,O⟩
end
section
open Mk Jn
abbrev s0B:Asg ByteArray:=fun _=>none
abbrev jdB (S:Sch) (T:List (List Rw)) (lp:List Int) (D:VD):JD:=⟨S,T,ak lp,[.int .i64 (-1)],[ca D]⟩
abbrev HC:PV:= .agg [.bool false,.bool true,.fn (.func 189) [] [],.fn (.func 190) [] [],.fn (.func 191) [] []]
abbrev Fa:PV:= .fn (.func 142) [] []
abbrev wtB:PV:= .fn (.func 143) [] []
abbrev HG (S:Sch) (T:List (List Rw)) (lp:List Int) (D:VD):List (Nat×Ob):=[(4,.mix 155 [.ptr big 0,.pv (bu D.chs),.pv (bu D.kes),.pv (bu D.hos),.pv (ak D.wa),.pv (.bool false),.pv (.bool true),.pv (.fn (.func 189) [] []),.pv (.fn (.func 190) [] []),.pv (.fn (.func 191) [] []),.pv Fa,.pv wtB,.pv .nilmap,.osl 1 1 S.attrs.length,.osl 2 1 S.attrs.length,.map 3]),(1,.cells 9 (aA (List.replicate S.attrs.length eb))),(2,.cells 4 (ay (stL s0B S.attrs.length))),(3,.mp [] []),(big,oX S (.pv (dbP T)) (.pv (ak lp)) 9001),(9001,.mp [.int .i64 (-1)] [ca D])]
theorem yH (n:Nat):List.replicate n (PV.bool false)=ay (stL s0B n):=by
 apply H2
 ·simp [cK]
 ·intro i h1 h2;simp [stL]
theorem rE (S:Sch) (T:List (List Rw)) (lp:List Int) (pk pv:List PV) (D:VD) (hn:S.attrs.length<=1000) (hpl:FnO Tryz.prog 186 2 0 [.ptr big 0,.pv (.int .i64 (-1))] (jnO S T lp pk pv) (fun v ob'=>v= .agg (A6 D)/\ob'=ar (jnO S T lp [.int .i64 (-1)] [ca D]))):
  FnO Tryz.prog 140 2 5 [.ptr big 0,.pv (.int .i64 (-1)),.pv .nilmap,.pv HC,.pv Fa,.pv wtB] (jnO S T lp pk pv) (fun v ob'=>v= .ptr 4 0/\ob'=ar (HG S T lp D)):=by
 refine FnO.of func140 O ntmps140 OG fun m0 w0 F R0=>?_
 refine Z2 O O O<|Gr O ?_;iterate 7 refine A1 O ?_
 refine Ge O follows [0,1,2,3,4,5,6,7,8,9,10,11,12,13,14,15] OD ?_;iterate 3 refine D1 O O ?_
 refine Ds 23 [big,9001] O O O (fun τ h=>ah [big,9001] 5 call186 hpl (h.args.trans O) O O O ⟨(Eo h 0 O O),(Eo h 1 O O),OK⟩ OE O) O OD ?_;iterate 8 refine D1 O O ?_
 refine Ds 32 [] O O O (fun τ h=>fF 3 (h.n 0 _ O)) O OD<|D1 (d:=some 33) (s:=⟨.agg [.ptr big 0,.pv (bu D.chs),.pv (bu D.kes),.pv (bu D.hos),.pv (ak D.wa),.pv (.bool false),.pv (.bool true),.pv (.fn (.func 189) [] []),.pv (.fn (.func 190) [] []),.pv (.fn (.func 191) [] []),.pv Fa,.pv wtB,.pv .nilmap,.osl 1 1 S.attrs.length,.osl 2 1 S.attrs.length,.map 3],[],[]⟩) (rd:=[big,1,2,3]) (φ:=True) O OD ?_;iterate 2 refine D1 O O ?_
 refine ⟨OD,?_⟩;exact Gt O<|⟨[(12,.ptr 4 0)],HG S T lp D,[.ptr 4 0],Io (aS O) ⟨OD,ry (b:=some (.cells 9 (mkZ [.str ByteArray.empty] (S.attrs.length*1)))) OD (af (fun c=>some (Ob.cells 9 c)) ((ct (.str ByteArray.empty) (S.attrs.length*1)).trans (by rw [ID];show _=List.map _ (List.replicate _ _);rw [List.map_replicate];rfl))),ry (b:=some (.cells 4 (mkZ [.bool false] (S.attrs.length*1)))) OD (af (fun c=>some (Ob.cells 4 c)) ((ct (.bool false) (S.attrs.length*1)).trans (by rw [ID];exact yH _))),OD,OD,OD,OK⟩ O O,O,O,O,O,O⟩
end
section
open Mk Jn
abbrev o6N (J:JD) (W:WD) (σ:Asg ByteArray) (now:List ByteArray) (mk mv:List PV):List (Nat×Ob):=[(big,oN W 9004 9001 J.S.attrs.length 9002 9003),(9001,.cells 9 (aA now)),(9002,.cells 4 (ay (stL σ J.S.attrs.length))),(9003,.mp mk mv),(9004,oX2 J 9005),(9005,.mp J.pk J.pv)]
theorem fq (J:JD) (hJ:JOk J) (W:WD) (σ:Asg ByteArray) (now:List ByteArray) (hn:NowOk J.S.attrs.length σ now) (mk mv:List PV) (r:Nat) (hr:r<J.S.rels.length) (x:Rw) (hx:x.v.length=J.S.rels[r].2.length):
  FnO Tryz.prog 256 6 0 [.ptr big 0,.pv (.int .i64 r),.pv (sJ x)] (o6N J W σ now mk mv) (fun v ob'=>v= .pv (.bool (agr J.S.rels[r].2 σ x.v))/\ob'=ar (o6N J W σ now mk mv)):=by
 refine FnO.of func256 O ntmps256 OG fun m0 w0 F R0=>?_
 have hS:=hJ.s;have hrne:=ew hr;have hra:(bj J.S.rels)[r*2+1]? =some (ak J.S.rels[r].2):=by
  have h2:(((bj J.S.rels).drop (r*2)).take 2)[1]? =[PV.str J.S.rels[r].1,ak J.S.rels[r].2][1]? :=by rw [cW hr]
  simpa [vR,FJ] using h2
 have hrl:=hS.l _ (aJ hr);have hrb:=hS.b _ (aJ hr);have hSr:=hS.r;have hnl:=hn.l;rw [pq];generalize J.S.rels[r].2=A at*;refine Z2 O O O<|Gr O ?_;iterate 9 refine A1 O ?_
 refine Rs 18 O O (ag r underlying31 Eu O O O hr hrne)<|A1 O<|Rs 20 O O (ai ⟨_,underlying22,O⟩ O hra)<|Y2 O O ?_;refine Gl O (st:=fun x_0:Nat=>mkS [(0,.ptr big 0),(5,.ptr 0 0),(20,.pv (ak A)),(21,.pv (.int .i64 A.length)),(22,.pv (.int .i64 x_0))] [(big,oN W 9004 9001 J.S.attrs.length 9002 9003),(0,.mix 49 [.pv (aI x.v),.pv (.int .i64 x.w)]),(9001,.cells 9 (aA now)),(9002,.cells 4 (ay (stL σ J.S.attrs.length))),(9003,.mp mk mv),(9004,oX2 J 9005),(9005,.mp J.pk J.pv)] 1)
  (I:=fun x_0=>x_0<=A.length/\((A.zip x.v).take x_0).all (agP σ)=true) (μ:=fun x_0=>A.length-x_0) (x0:=(0)) (Io (aS O) (aO O) O O) (⟨eF _,O⟩) ?_
 rintro j ⟨hj,hall⟩;refine Z1 O O ?_;refine Gp O O (fun hc23=>?_) (fun hc23=>?_)
 ·have hlj:j<A.length:=OC;have hzs:=eM hx hlj (agP σ);obtain ⟨a,haa⟩:=rK (hrb _ (aJ hlj)).1;have hal:a<J.S.attrs.length:=by have:=(hrb _ (aJ hlj)).2;omega
  have hpv:(aE A)[j*1]? =some (.int .i64 (a:Int)):=by rw [<-haa];simp [hlj]
  have hpn:=aH hlj;have hjv:j<x.v.length:=OC;have hsv:=aM hjv;have hsn:=bc hjv;have hset:=DW (σ:=σ) hal;have hnow:=aM (l:=now) (k:=a) OC;have hsl:(ay (stL σ J.S.attrs.length)).length=J.S.attrs.length:=by rw [rJ,cK]
  have hnl2:(aA now).length=J.S.attrs.length:=by rw [rJ,hnl]
  rw [hall,haa,Oh] at hzs;refine Il<|Z2 O O O<|Rs 26 O O (ai ⟨_,underlying3,O⟩ O hpv)<|Y2 O O ?_;by_cases hsg:(σ (a:Int)).isSome=true
  ·have hval:=Option.some_get hsg;have hnv:now[a]'OC=(σ (a:Int)).get hsg:=hn.e a OC _ hval.symm;generalize hgz:(σ (a:Int)).get hsg=z at*;rw [gW hval.symm] at hzs;rw [hsg] at hset;rw [hnv] at hnow;refine Ge O follows [0,1,2,3,4,5,6,7,8,9,10,11,12,13,14,15,16,17,18,19,20,21] OD ?_;iterate 6 refine D1 O O ?_
   refine Ds 33 [_] O O O (fun τ h=>aC ⟨_,underlying4,O⟩ (Ee h 0 O O) (Eo h 0 O O) hset) O OD ?_;iterate 7 refine D1 O O ?_
   refine Dg 41 [_] O O O O (fun τ h=>aC ⟨_,underlying9,O⟩ (Ee h 0 O O) (Eo h 0 O O) hnow) O OD ?_;iterate 4 refine D1 O O ?_
   refine Dg 46 [] O O O O (fun τ h=>ai ⟨_,underlying9,O⟩ (Ee h 0 O O) hsv) O OD ?_;iterate 2 refine D1 O O ?_
   refine ⟨OD,?_⟩;refine Gc O O (fun hc48=>?_) (fun hc48=>?_)
   ·exact Z1 O O<|Gt O<|⟨[(6,.pv (.bool false))],o6N J W σ now mk mv,[.pv (.bool false)],Io (aS O) (aO O) O O,O,O,O,af (fun b=>V.pv (.bool b)) (pZ (hzs.trans (Ha hc48))).symm,O⟩
   ·exact Il<|Z2 O O O<|⟨(j+1),Io (aS O) (aO O) O O,⟨OC,hzs.trans (G6 hc48)⟩,OC⟩
  ·have hno:σ (a:Int)=none:=by cases h:σ (a:Int) with | none=>rfl | some x=>rw [h] at hsg;exact absurd O hsg
   rw [oM hno] at hzs;rw [J8 hsg] at hset;refine Ge O follows [0,1,2,3,4,5,6,7,8,9,10,11,12,13,14,15,16,17,18,19,20,21] OD ?_;iterate 6 refine D1 O O ?_
   refine Ds 33 [_] O O O (fun τ h=>aC ⟨_,underlying4,O⟩ (Ee h 0 O O) (Eo h 0 O O) hset) O OD ?_;iterate 15 refine D1 O O ?_
   refine ⟨OD,?_⟩;refine Gc O O (fun hc48=>absurd hc48 OG) (fun hc48=>?_);exact Il<|Z2 O O O<|⟨(j+1),Io (aS O) (aO O) O O,⟨OC,hzs⟩,OC⟩
 ·rw [bk OH] at hall;exact Gx O<|Z1 O O<|Gt O<|⟨[(6,.pv (.bool true))],o6N J W σ now mk mv,[.pv (.bool true)],Io (aS O) (aO O) O O,O,O,O,af (fun b=>V.pv (.bool b)) hall.symm,O⟩
end
section
open Mk Jn
abbrev o7N (J:JD) (W:WD) (σ:Asg ByteArray) (now:List ByteArray) (mk mv:List PV):List (Nat×Ob):=[(big,.mix 198 [.ptr 9001 0]),(9001,oN W 9005 9002 J.S.attrs.length 9003 9004),(9002,.cells 9 (aA now)),(9003,.cells 4 (ay (stL σ J.S.attrs.length))),(9004,.mp mk mv),(9005,oX2 J 9006),(9006,.mp J.pk J.pv)]
theorem sQ (J:JD) (hJ:JOk J) (W:WD) (σ:Asg ByteArray) (now:List ByteArray) (hn:NowOk J.S.attrs.length σ now) (mk mv:List PV) (r:Nat) (hr:r<J.S.rels.length) (x:Rw) (hx:x.v.length=J.S.rels[r].2.length):
  FnO Tryz.prog 273 7 0 [.pv (sJ x),.ptr big 0,.pv (.rp [.int .i64 r] 0)] (o7N J W σ now mk mv) (fun v ob'=>v= .pv (.bool (agr J.S.rels[r].2 σ x.v))/\ob'=ar (o7N J W σ now mk mv)):=by
 refine FnO.of func273 O ntmps273 OG fun m0 w0 F R0=>?_
 have hgo:=fq J hJ W σ now hn mk mv r hr x hx;generalize agr J.S.rels[r].2 σ x.v=b at*;refine Z2 O O O<|Gr O ?_;first | refine A1 O ?_ | refine A2 O OF ?_
 first | refine A1 O ?_ | refine A2 O OF ?_
 exact A1 O<|Rs 8 O O (ah [9001,9002,9003,9004,9005,9006] 1 call256 hgo O O O O ⟨O,O,O,O,O,O,OK⟩ OE O)<|A1 O<|Gt O<|⟨[(4,.pv (.bool b))],o7N J W σ now mk mv,[.pv (.bool b)],Io (aS O) (aO OD) O O,O,O,O,O,O⟩
abbrev sm1N (r:Nat):V:= .fn (.func 273) [] [.ptr big 0,.pv (.rp [.int .i64 r] 0)]
theorem qc (J:JD) (hJ:JOk J) (W:WD) (σ:Asg ByteArray) (now:List ByteArray) (hn:NowOk J.S.attrs.length σ now) (mk mv:List PV) (r:Nat) (hr:r<J.S.rels.length) (l:List Rw) (hl:l.length<=1000) (hx:∀ x∈l,x.v.length=J.S.rels[r].2.length):
  ∃ i:Int,decide (i>=0)=l.any (fun x=>agr J.S.rels[r].2 σ x.v)/\FnO Tryz.prog 109 7 0 [.pv (bL l),sm1N r] (o7N J W σ now mk mv) (fun v ob'=>v= .pv (.int .i64 i)/\ob'=ar (o7N J W σ now mk mv)):=by
 have hgo:∀ k (h:k<l.length),FnO Tryz.prog 273 7 0 [.pv (sJ l[k]),.ptr big 0,.pv (.rp [.int .i64 r] 0)] (o7N J W σ now mk mv) (fun v ob'=>v= .pv (.bool (agr J.S.rels[r].2 σ l[k].v))/\ob'=ar (o7N J W σ now mk mv)):=fun k h=>sQ J hJ W σ now hn mk mv r hr l[k] (hx _ (aJ h))
 have hi:∃ i:Int,decide (i>=0)=l.any (fun x=>agr J.S.rels[r].2 σ x.v)/\((∀ k (h:k<l.length),agr J.S.rels[r].2 σ l[k].v=true->(∀ j (h:j<l.length),j<k->agr J.S.rels[r].2 σ l[j].v=false)->i=k)/\((∀ j (h:j<l.length),agr J.S.rels[r].2 σ l[j].v=false)->i= -1)):=jg l fun x=>agr J.S.rels[r].2 σ x.v
 obtain ⟨i,hi,hi1,hi2⟩:=hi;refine ⟨i,hi,?_⟩;refine FnO.of func109 O ntmps109 OG fun m0 w0 F R0=>?_
 clear hi hJ hn hx;generalize J.S.rels[r].2=A at*;refine Z1 O O<|Z3 O O O O ?_;refine Gl O (st:=fun x_0:Nat=>mkS [(0,.pv (bL l)),(1,sm1N r),(7,.pv (.int .i64 l.length)),(8,.pv (.int .i64 x_0))] [(big,.mix 198 [.ptr 9001 0]),(9001,oN W 9005 9002 J.S.attrs.length 9003 9004),(9002,.cells 9 (aA now)),(9003,.cells 4 (ay (stL σ J.S.attrs.length))),(9004,.mp mk mv),(9005,oX2 J 9006),(9006,.mp J.pk J.pv)] 0)
  (I:=fun x_0=>x_0<=l.length/\∀ j (h:j<l.length),j<x_0->agr A σ l[j].v=false) (μ:=fun x_0=>l.length-x_0) (x0:=(0)) (Io (aS O) (aO OD) O O) (⟨eF _,fun _ _ h=>absurd h OC⟩) ?_
 rintro k ⟨hk,hno⟩;refine Z1 O O ?_;refine Gp O O (fun hc9=>?_) (fun hc9=>?_)
 ·have hlt:k<l.length:=OC;have hrw:=aN hlt;have hrn:=aW hlt;have hgk:=hgo k hlt;have hik:=hi1 k hlt;generalize hbk:agr A σ l[k].v=b at*;refine Il<|Z2 O O O<|Z4 O O O O O ?_;first | refine A3 O OF ?_ | refine A1 O ?_
  refine Rs 16 O O (bJ [big,9001,9002,9003,9004,9005,9006] 0 call273 hgk O O O O O O ⟨O,O,O,O,O,O,O,OK⟩ OE O) ?_;refine Gc O O (fun hc16=>?_) (fun hc16=>?_)
  ·exact Z2 O O O<|Gt O<|⟨[(4,.pv (.int .i64 k))],o7N J W σ now mk mv,[.pv (.int .i64 k)],Io (aS O) (aO OD) O O,O,O,O,by rw [hik hc16 hno];rfl,O⟩
  ·exact Il<|Z2 O O O<|⟨(k+1),Io (aS O) (aO OD) O O,⟨OC,fun j h hj=>by rcases DJ.1 hj with h1 | h1;exact hno j h h1;subst h1;exact hbk.trans hc16⟩,OC⟩
 ·have hm:=hi2 fun j h=>hno j h OC
  exact Gx O<|Z1 O O<|Gt O<|⟨[(4,.pv (.int .i64 (-1)))],o7N J W σ now mk mv,[.pv (.int .i64 (-1))],Io (aS O) (aO OD) O O,O,O,O,by rw [hm];rfl,O⟩
theorem q8 (J:JD) (hJ:JOk J) (W:WD) (σ:Asg ByteArray) (now:List ByteArray) (hn:NowOk J.S.attrs.length σ now) (mk mv:List PV) (r:Nat) (hr:r<J.S.rels.length) (l:List Rw) (hl:l.length<=1000) (hx:∀ x∈l,x.v.length=J.S.rels[r].2.length):
  FnO Tryz.prog 66 7 0 [.pv (bL l),sm1N r] (o7N J W σ now mk mv) (fun v ob'=>v= .pv (.bool (l.any fun x=>agr J.S.rels[r].2 σ x.v))/\ob'=ar (o7N J W σ now mk mv)):=by
 obtain ⟨i,hi,hgo⟩:=qc J hJ W σ now hn mk mv r hr l hl hx;refine FnO.of func66 O ntmps66 OG fun m0 w0 F R0=>?_
 rw [<-hi];clear hi hJ hn hx;exact Z1 O O<|Z2 O O O<|Rs 7 O O (ah [big,9001,9002,9003,9004,9005,9006] 0 call109 hgo O O O O ⟨O,O,O,O,O,O,O,OK⟩ OE O)<|Y2 O O<|Gt O<|⟨[(4,.pv (.bool (decide (i>=0))))],o7N J W σ now mk mv,[.pv (.bool (decide (i>=0)))],Io (aS O) (aO OD) O O,O,O,O,O,O⟩
theorem vB (J:JD) (hJ:JOk J) (W:WD) (σ:Asg ByteArray) (now:List ByteArray) (hn:NowOk J.S.attrs.length σ now) (mk mv:List PV) (r:Nat) (hr:r<J.S.rels.length):
  FnO Tryz.prog 259 6 0 [.ptr big 0,.pv (.int .i64 r)] (o6N J W σ now mk mv) (fun v ob'=>v= .pv (.bool ((dh J r).any fun x=>agr (cy J r) σ x.v))/\ob'=ar (o6N J W σ now mk mv)):=by
 refine FnO.of func259 O ntmps259 OG fun m0 w0 F R0=>?_
 have hrT:r<J.T.length:=by rw [hJ.n];exact hr
 have hgo:=q8 J hJ W σ now hn mk mv r hr J.T[r] (hJ.l _ (aJ hrT)) (hJ.v r hrT hr);rw [show dh J r=J.T[r] by simp [dh,List.getD,hrT],show cy J r=J.S.rels[r].2 by simp [cy,List.getD,hr]];have htr:=cD hrT;have htn:=dN hrT;have hTl:J.T.length<=1000:=by rw [hJ.n];exact hJ.s.r
 generalize J.S.rels[r].2=A at*;generalize J.T[r]=l at*;refine Z3 O O O O<|Im (St.fS 1 O O)<|Ge O follows [0,1,2,3,4,5,6,7,8,9,10,11,12] OD ?_;iterate 8 refine D1 O O ?_
 refine Ds 13 [] O O O (fun τ h=>ag r underlying35 qk (Ee h 0 O O) (Ee h 1 O O) O hrT htn) O OD<|Ds 14 [] O O O (fun τ h=>ai ⟨_,underlying38,O⟩ (Ee h 0 O O) htr) O OD<|D1 O O<|Ds 16 [0,big,9001,9002,9003,9004,9005] O O O (fun τ h=>ah [0,big,9001,9002,9003,9004,9005] 2 call66 hgo (h.args.trans O) O O O ⟨(Eo h 0 O O),(Eo h 1 O O),(Eo h 2 O O),(Eo h 3 O O),(Eo h 4 O O),(Eo h 5 O O),(Eo h 6 O O),OK⟩ OE O) O OD<|D1 O O ?_;refine ⟨OD,?_⟩;exact Gt O<|⟨[(4,.pv (.bool (l.any fun x=>agr A σ x.v)))],o6N J W σ now mk mv,[.pv (.bool (l.any fun x=>agr A σ x.v))],Io (aS O) (aO OD) O O,O,O,O,O,O⟩
end
section
open Mk Jn
theorem rj (J:JD) (hJ:JOk J) (W:WD) (σ:Asg ByteArray) (now:List ByteArray) (hn:NowOk J.S.attrs.length σ now) (mk mv:List PV) (r:Nat) (hr:r<J.S.rels.length):
  FnO Tryz.prog 258 7 0 [.pv (.int .i64 r),.ptr big 0] (o7N J W σ now mk mv) (fun v ob'=>v= .pv (.bool !(Bd (RJ J) r σ))/\ob'=ar (o7N J W σ now mk mv)):=by
 refine FnO.of func258 O ntmps258 OG fun m0 w0 F R0=>?_
 have hgo:=vB J hJ W σ now hn mk mv r hr;rw [<-oK] at hgo;generalize Bd (RJ J) r σ=b at*;refine Z1 O O<|Gr O ?_;first | refine A1 O ?_ | refine A2 O OF ?_
 exact A1 O<|Rs 6 O O (ah [9001,9002,9003,9004,9005,9006] 0 call259 hgo O O O O ⟨O,O,O,O,O,O,OK⟩ OE O)<|Y2 O O<|Gt O<|⟨[(3,.pv (.bool !b))],o7N J W σ now mk mv,[.pv (.bool !b)],Io (aS O) (aO OD) O O,O,O,O,O,O⟩
abbrev c11N:V:= .fn (.func 258) [] [.ptr big 0]
abbrev bI (rs:List Nat):List Int:=rs.map fun r:Nat=>(r:Int)
theorem qS (J:JD) (hJ:JOk J) (W:WD) (σ:Asg ByteArray) (now:List ByteArray) (hn:NowOk J.S.attrs.length σ now) (mk mv:List PV) (rs:List Nat) (hl:rs.length<=1000) (hr:∀ r∈rs,r<J.S.rels.length):
  FnO Tryz.prog 152 7 0 [.pv (ak (bI rs)),c11N] (o7N J W σ now mk mv) (fun v ob'=>v= .pv (.bool (rs.any fun r=> !(Bd (RJ J) r σ)))/\ob'=ar (o7N J W σ now mk mv)):=by
 have hgo:∀ k (h:k<rs.length),FnO Tryz.prog 258 7 0 [.pv (.int .i64 rs[k]),.ptr big 0] (o7N J W σ now mk mv) (fun v ob'=>v= .pv (.bool !(Bd (RJ J) rs[k] σ))/\ob'=ar (o7N J W σ now mk mv)):=fun k h=>rj J hJ W σ now hn mk mv rs[k] (hr _ (aJ h))
 obtain ⟨i,hi,hi1,hi2⟩:=jg rs fun r=> !(Bd (RJ J) r σ)
 clear hJ hn hr;have hidx:FnO Tryz.prog 195 7 0 [.pv (ak (bI rs)),c11N] (o7N J W σ now mk mv) (fun v ob'=>v= .pv (.int .i64 i)/\ob'=ar (o7N J W σ now mk mv)):=by
  refine FnO.of func195 O ntmps195 OG fun m0 w0 F R0=>?_
  clear hi;have hnl:(bI rs).length=rs.length:=by simp [bI]
  refine Z1 O O<|Z3 O O O O ?_;refine Gl O (st:=fun x_0:Nat=>mkS [(0,.pv (ak (bI rs))),(1,c11N),(7,.pv (.int .i64 (bI rs).length)),(8,.pv (.int .i64 x_0))] [(big,.mix 198 [.ptr 9001 0]),(9001,oN W 9005 9002 J.S.attrs.length 9003 9004),(9002,.cells 9 (aA now)),(9003,.cells 4 (ay (stL σ J.S.attrs.length))),(9004,.mp mk mv),(9005,oX2 J 9006),(9006,.mp J.pk J.pv)] 0)
   (I:=fun x_0=>x_0<=rs.length/\∀ j (h:j<rs.length),j<x_0->(!(Bd (RJ J) rs[j] σ))=false) (μ:=fun x_0=>rs.length-x_0) (x0:=(0)) (Io (aS O) (aO OD) O O) (⟨eF _,fun _ _ h=>absurd h OC⟩) ?_
  rintro k ⟨hk,hno⟩;refine Z1 O O ?_;refine Gp O O (fun hc9=>?_) (fun hc9=>?_)
  ·have hlt:k<rs.length:=OC;have hpv:(aE (bI rs))[k*1]? =some (.int .i64 ((rs[k]:Nat):Int)):=by simp [hlt]
   have hpn:=aH (l:=bI rs) (k:=k) OC;have hgk:=hgo k hlt;have hik:=hi1 k hlt;generalize hbk:Bd (RJ J) rs[k] σ=b at*;refine Il<|Z2 O O O<|Z4 O O O O O<|Rs 15 O O (ai ⟨_,underlying3,O⟩ O hpv)<|Rs 16 O O (bJ [big,9001,9002,9003,9004,9005,9006] 0 call258 hgk O O O O O O ⟨O,O,O,O,O,O,O,OK⟩ OE O) ?_;refine Gc O O (fun hc16=>?_) (fun hc16=>?_)
   ·exact Z2 O O O<|Gt O<|⟨[(4,.pv (.int .i64 k))],o7N J W σ now mk mv,[.pv (.int .i64 k)],Io (aS O) (aO OD) O O,O,O,O,by rw [hik hc16 hno];rfl,O⟩
   ·exact Il<|Z2 O O O<|⟨(k+1),Io (aS O) (aO OD) O O,⟨OC,fun j h hj=>by rcases DJ.1 hj with h1 | h1;exact hno j h h1;subst h1;rw [hbk];exact hc16⟩,OC⟩
  ·have hm:=hi2 fun j h=>hno j h OC
   exact Gx O<|Z1 O O<|Gt O<|⟨[(4,.pv (.int .i64 (-1)))],o7N J W σ now mk mv,[.pv (.int .i64 (-1))],Io (aS O) (aO OD) O O,O,O,O,by rw [hm];rfl,O⟩
 refine FnO.of func152 O ntmps152 OG fun m0 w0 F R0=>?_
 rw [<-hi];clear hi hgo hi1 hi2;exact Z1 O O<|Z2 O O O<|Rs 7 O O (ah [big,9001,9002,9003,9004,9005,9006] 0 call195 hidx O O O O ⟨O,O,O,O,O,O,O,OK⟩ OE O)<|Y2 O O<|Gt O<|⟨[(4,.pv (.bool (decide (i>=0))))],o7N J W σ now mk mv,[.pv (.bool (decide (i>=0)))],Io (aS O) (aO OD) O O,O,O,O,O,O⟩
theorem Jo (J:JD) (hJ:JOk J) (W:WD) (σ:Asg ByteArray) (now:List ByteArray) (hn:NowOk J.S.attrs.length σ now) (mk mv:List PV) (a:Nat) (ha:a<J.S.attrs.length) (hσ:σ (a:Int)=none) (rs:List Nat) (hl:rs.length<=1000) (hr:∀ r∈rs,r<J.S.rels.length) (x:ByteArray):
  FnO Tryz.prog 257 7 0 [.pv (.str x),.ptr big 0,.pv (.rp [.int .i64 a] 0),.pv (.rp [ak (bI rs)] 0)] (o7N J W σ now mk mv) (fun v ob'=>v= .pv (.bool (rs.any fun r=> !(Bd (RJ J) r (put σ a x))))/\ob'=ar (o7N J W σ (now.set a x) mk mv)):=by
 refine FnO.of func257 O ntmps257 OG fun m0 w0 F R0=>?_
 have hgo:=qS J hJ W (put σ a x) (now.set a x) (hn.put ha x) mk mv rs hl hr;generalize (rs.any fun r=> !(Bd (RJ J) r (put σ a x)))=b at*;have hnl:(aA now).length=J.S.attrs.length:=by rw [rJ,hn.l]
 have hsl:(ay (stL σ J.S.attrs.length)).length=J.S.attrs.length:=by rw [rJ,cK]
 have hsl2:(ay (stL (put σ a x) J.S.attrs.length)).length=J.S.attrs.length:=by rw [rJ,cK]
 have h1:=ix (l:=now) (a:=a) x;have h2:=kZ (σ:=σ) ha x;have h3:(ay (stL (put σ a x) J.S.attrs.length)).set (a*1) (.bool false)=ay (stL σ J.S.attrs.length):=by rw [qO ha,cO hσ]
 clear hJ hn hr;refine Z1 O O<|Ge O follows [0,1,2,3,4,5,6,7,8,9,10,11,12,13,14] OD ?_;first | refine D1 O O ?_ | refine D2 O O OF ?_
 iterate 3 refine D1 O O ?_
 first | refine D1 O O ?_ | refine D2 O O OF ?_
 first | refine D1 O O ?_ | refine D2 O O OF ?_
 iterate 3 refine D1 O O ?_
 first | refine D1 O O ?_ | refine D2 O O OF ?_
 refine D1 O O<|Ds 18 [_] O O O (fun τ h=>aa a underlying47 sz9 (Ee h 0 O O) (Eo h 0 O O) (Ee h 1 O O) O OC) O OD<|DL.step (d:=none) [_] O O O (fun τ h=>aF sz9 (Ee h 0 O O) (Eo h 0 O O) (Ee h 1 O O) O OC) O OD<|Ds 19 [_] O O O (fun τ h=>aa a underlying115 sz4 (Ee h 0 O O) (Eo h 0 O O) (Ee h 1 O O) O OC) O OD<|DL.step (d:=none) [_] O O O (fun τ h=>aF sz4 (Ee h 0 O O) (Eo h 0 O O) (Ee h 1 O O) O OC) O OD ?_;refine ⟨OD,?_⟩;refine Im (Io (l:=[(1,.ptr big 0),(2,.pv (.rp [.int .i64 a] 0)),(3,.pv (.rp [ak (bI rs)] 0))]) (os:=o7N J W (put σ a x) (now.set a x) mk mv) (k:=0) (aS O) ⟨O,O,af (fun c=>some (Ob.cells 9 c)) h1,af (fun c=>some (Ob.cells 4 c)) h2,O,O,O,OK⟩ O O)<|Gr O ?_;first | refine A1 O ?_ | refine A2 O OF ?_
 refine A1 O<|Rs 22 O O (ah [big,9001,9002,9003,9004,9005,9006] 0 call152 hgo O O O O ⟨O,O,O,O,O,O,O,OK⟩ OE O)<|A1 O<|Im (Io (l:=[(1,.ptr big 0),(2,.pv (.rp [.int .i64 a] 0)),(6,.pv (.bool b))]) (os:=o7N J W (put σ a x) (now.set a x) mk mv) (k:=0) (aS O) (aO OD) O O)<|Ge O follows [0,1,2,3,4,5,6] OD ?_;first | refine D1 O O ?_ | refine D2 O O OF ?_
 iterate 3 refine D1 O O ?_
 first | refine D1 O O ?_ | refine D2 O O OF ?_
 refine Ds 28 [_] O O O (fun τ h=>aa a underlying115 sz4 (Ee h 0 O O) (Eo h 0 O O) (Ee h 1 O O) O OC) O OD<|DL.step (d:=none) [_] O O O (fun τ h=>aF sz4 (Ee h 0 O O) (Eo h 0 O O) (Ee h 1 O O) O OC) O OD ?_;refine ⟨OD,?_⟩;exact Z2 O O O<|Gt O<|⟨[(5,.pv (.bool b))],o7N J W σ (now.set a x) mk mv,[.pv (.bool b)],Io (aS O) ⟨OD,OD,OD,af (fun c=>some (Ob.cells 4 c)) h3,OD,OD,OD,OK⟩ O O,O,O,O,O,O⟩
end
section
open Mk Jn
abbrev o8N (J:JD) (W:WD) (q:List ByteArray) (σ:Asg ByteArray) (now:List ByteArray) (mk mv:List PV):List (Nat×Ob):=[(big,cB q),(9001,.mix 198 [.ptr 9002 0]),(9002,oN W 9006 9003 J.S.attrs.length 9004 9005),(9003,.cells 9 (aA now)),(9004,.cells 4 (ay (stL σ J.S.attrs.length))),(9005,.mp mk mv),(9006,oX2 J 9007),(9007,.mp J.pk J.pv)]
abbrev c1N (a:Nat) (rs:List Nat):V:= .fn (.func 257) [] [.ptr 9001 0,.pv (.rp [.int .i64 a] 0),.pv (.rp [ak (bI rs)] 0)]
theorem qo (J:JD) (hJ:JOk J) (W:WD) (σ:Asg ByteArray) (now:List ByteArray) (hn:NowOk J.S.attrs.length σ now) (mk mv:List PV) (a:Nat) (ha:a<J.S.attrs.length) (hσ:σ (a:Int)=none) (rs:List Nat) (hl:rs.length<=1000) (hr:∀ r∈rs,r<J.S.rels.length) (l:List ByteArray) (n:Nat) (hln:l.length=n) (hn1:n<=1000) (i:Int)
  (hi1:∀ k (h:k<l.length),dS J rs σ a l[k]=true->(∀ j (h:j<l.length),j<k->dS J rs σ a l[j]=false)->i=k) (hi2:(∀ j (h:j<l.length),dS J rs σ a l[j]=false)->i= -1):
  FnO Tryz.prog 194 8 0 [.osl big 1 n,c1N a rs] (o8N J W l σ now mk mv) (fun v ob'=>v= .pv (.int .i64 i)/\ob'=ar (o8N J W l σ (tst now a (l.take (if i<0 then n else i.toNat+1))) mk mv)):=by
 refine FnO.of func194 O ntmps194 OG fun m0 w0 F R0=>?_
 refine Z1 O O<|Z3 O O O O ?_;refine Gl O (st:=fun x_0:Nat=>mkS [(0,.osl big 1 n),(1,c1N a rs),(7,.pv (.int .i64 n)),(8,.pv (.int .i64 x_0))] [(big,cB l),(9001,.mix 198 [.ptr 9002 0]),(9002,oN W 9006 9003 J.S.attrs.length 9004 9005),(9003,.cells 9 (aA (tst now a (l.take x_0)))),(9004,.cells 4 (ay (stL σ J.S.attrs.length))),(9005,.mp mk mv),(9006,oX2 J 9007),(9007,.mp J.pk J.pv)] 0)
  (I:=fun x_0=>x_0<=n/\∀ j (h:j<l.length),j<x_0->dS J rs σ a l[j]=false) (μ:=fun x_0=>n-x_0) (x0:=(0)) (Io (aS O) (aO OD) O O) (⟨eF _,fun _ _ h=>absurd h OC⟩) ?_
 rintro k ⟨hk,hno⟩;refine Z1 O O ?_;refine Gp O O (fun hc9=>?_) (fun hc9=>?_)
 ·have hlt:k<l.length:=OC;have hv:=aM hlt;have hgk:=Jo J hJ W σ (tst now a (l.take k)) (ki hn ha hσ _) mk mv a ha hσ rs hl hr l[k];rw [jJ hlt] at hgk;have hik:=hi1 k hlt;rw [show (rs.any fun r=> !(Bd (RJ J) r (put σ a l[k])))=dS J rs σ a l[k] from O] at hgk;generalize hbk:dS J rs σ a l[k]=b at*;refine Il<|Z2 O O O<|Z3 O O O O<|Rs 14 O O (aa k underlying47 sz9 O O O O OC)<|Rs 15 O O (aC ⟨_,underlying9,O⟩ O O hv)<|Rs 16 O O (bJ [9001,9002,9003,9004,9005,9006,9007] 0 call257 hgk O O O O O O ⟨O,O,O,O,O,O,O,OK⟩ OE O) ?_;refine Gc O O (fun hc16=>?_) (fun hc16=>?_)
  ·exact Z2 O O O<|Gt O<|⟨[(4,.pv (.int .i64 k))],o8N J W l σ (tst now a (l.take (k+1))) mk mv,[.pv (.int .i64 k)],Io (aS O) (aO OD) O O,O,O,O,by rw [hik hc16 hno];rfl,by rw [hik hc16 hno,ga OC];rfl⟩
  ·exact Il<|Z2 O O O<|⟨(k+1),Io (aS O) (aO OD) O O,⟨OC,fun j h hj=>by rcases DJ.1 hj with h1 | h1;exact hno j h h1;subst h1;rw [hbk];exact hc16⟩,OC⟩
 ·have hm:=hi2 fun j h=>hno j h OC
  obtain rfl:n=k:=OC;exact Gx O<|Z1 O O<|Gt O<|⟨[(4,.pv (.int .i64 (-1)))],o8N J W l σ (tst now a (l.take n)) mk mv,[.pv (.int .i64 (-1))],Io (aS O) (aO OD) O O,O,O,O,by rw [hm];rfl,by rw [hm];rfl⟩
theorem pO (J:JD) (hJ:JOk J) (W:WD) (σ:Asg ByteArray) (now:List ByteArray) (hn:NowOk J.S.attrs.length σ now) (mk mv:List PV) (a:Nat) (ha:a<J.S.attrs.length) (hσ:σ (a:Int)=none) (rs:List Nat) (hl:rs.length<=1000) (hr:∀ r∈rs,r<J.S.rels.length) (l:List ByteArray) (n:Nat) (hln:l.length=n) (hn1:n<=1000):
  FnO Tryz.prog 150 8 0 [.osl big 1 n,c1N a rs] (o8N J W l σ now mk mv) (fun v ob'=>v= .osl big 1 (l.filter fun x=> !dS J rs σ a x).length/\ob'=ar (o8N J W (l.filter fun x=> !dS J rs σ a x) σ (tst now a l) mk mv)):=by
 obtain ⟨i,hi,hi1,hi2⟩:=jg l (dS J rs σ a);obtain ⟨hia,hib⟩:=sH hi hi1 hi2;have hidx:=qo J hJ W σ now hn mk mv a ha hσ rs hl hr l n hln hn1 i hi1 hi2;refine FnO.of func150 O ntmps150 OG fun m0 w0 F R0=>?_
 clear hi hi1 hi2;refine Z1 O O<|Z2 O O O<|Rs 10 O O (ah [big,9001,9002,9003,9004,9005,9006,9007] 0 call194 hidx O O O O ⟨O,O,O,O,O,O,O,O,OK⟩ OE O)<|A1 O<|Z2 O O O ?_;refine Gc O O (fun hc12=>?_) (fun hc12=>?_)
 ·have hie:i= -1:=by simpa using hc12
  have hf:(l.filter fun x=> !dS J rs σ a x)=l:=Ol.2 fun x hx=>by rw [hia hie x hx];rfl
  exact Z2 O O O<|Gt O<|⟨[(4,.osl big 1 n)],o8N J W l σ (tst now a l) mk mv,[.osl big 1 n],Io (aS O) ⟨OD,OD,OD,ry (b:=some (Ob.cells 9 (aA (tst now a (l.take (if i<0 then n else i.toNat+1)))))) OD (by rw [hie,og OE,bk OC]),OD,OD,OD,OD,OK⟩ O O,O,O,O,by rw [hf,hln];rfl,by rw [hf]⟩
 ·have hne:¬ i= -1:=by intro e;rw [e] at hc12;simp at hc12
  obtain ⟨i0,rfl,hi0,hft⟩:=hib hne;refine Il<|Z3 O O O O ?_;refine Gl O (st:=fun x_0:Nat×Nat×List ByteArray=>mkS [(0,.osl big 1 n),(1,c1N a rs),(5,.pv (.int .i64 x_0.2.1)),(6,.pv (.int .i64 x_0.1))] [(big,cB x_0.2.2),(9001,.mix 198 [.ptr 9002 0]),(9002,oN W 9006 9003 J.S.attrs.length 9004 9005),(9003,.cells 9 (aA (tst now a (l.take x_0.1)))),(9004,.cells 4 (ay (stL σ J.S.attrs.length))),(9005,.mp mk mv),(9006,oX2 J 9007),(9007,.mp J.pk J.pv)] 0)
   (I:=fun x_0=>((x_0.1<=n/\x_0.2.1<x_0.1)/\x_0.2.2.length=n)/\(x_0.2.2.drop x_0.1=l.drop x_0.1/\x_0.2.2.take x_0.2.1=(l.take x_0.1).filter fun x=> !dS J rs σ a x)/\x_0.2.1=((l.take x_0.1).filter fun x=> !dS J rs σ a x).length) (μ:=fun x_0=>n-x_0.1) (x0:=(i0+1,i0,l)) (Io (aS O) ⟨OD,OD,OD,ry (b:=some (Ob.cells 9 (aA (tst now a (l.take (if (i0:Int)<0 then n else (i0:Int).toNat+1)))))) OD (by rw [ga OC];rfl),OD,OD,OD,OD,OK⟩ O O) (⟨⟨⟨OI,OI⟩,hln⟩,⟨O,by simp only;rw [hft]⟩,by simp only;rw [hft,iP];omega⟩) ?_
  rintro ⟨k,m,q⟩ ⟨⟨⟨hk,hmk⟩,hql⟩,⟨hqd,hqt⟩,hme⟩;try simp only at hk hmk hql hqd hqt hme ⊢
  have hqln:(aA q).length=n:=by rw [rJ,hql]
  refine Z4 O O O O O ?_;refine Gp O O (fun hc19=>?_) (fun hc19=>?_)
  ·have hlt:k<l.length:=OC;have hq0:q[k]'OC=l[k]:=by have:=af (fun z=>z[0]?) hqd;simp only [FJ,KX] at this;rw [fI OC,fI hlt] at this;exact Ki this
   have hv:(aA q)[k*1]? =some (.str l[k]):=by rw [ID,Ko,fI OC,hq0];rfl
   have hgk:=Jo J hJ W σ (tst now a (l.take k)) (ki hn ha hσ _) mk mv a ha hσ rs hl hr l[k];rw [jJ hlt] at hgk;rw [show (rs.any fun r=> !(Bd (RJ J) r (put σ a l[k])))=dS J rs σ a l[k] from O] at hgk;have hdrop:q.drop (k+1)=l.drop (k+1):=by have:=af (fun z=>z.drop 1) hqd;simpa only [List.drop_drop] using this
   have hfs:(l.take (k+1)).filter (fun x=> !dS J rs σ a x)=(l.take k).filter (fun x=> !dS J rs σ a x)++if dS J rs σ a l[k]=true then [] else [l[k]]:=by rw [aR hlt];exact kR _ _ _
   generalize hbk:dS J rs σ a l[k]=b at*;refine Il<|Z2 O O O<|Rs 24 O O (aa k underlying47 sz9 O O O O OC)<|Rs 25 O O (aC ⟨_,underlying9,O⟩ O O hv)<|A1 O<|Z2 O O O<|Rs 28 O O (bJ [9001,9002,9003,9004,9005,9006,9007] 0 call257 hgk O O O O O O ⟨O,O,O,O,O,O,O,OK⟩ OE O)<|A1 O ?_;refine Gc O O (fun hc29=>?_) (fun hc29=>?_)
   ·exact Z3 O O O O<|Rs 33 O O (aa m underlying47 sz9 O O O O OC)<|RL.step (d:=none) O O (aF sz9 O O O O OC)<|Z3 O O O O<|Z3 O O O O<|⟨(k+1,m+1,q.set m l[k]),Io (aS O) ⟨ry (b:=some (Ob.cells 9 ((aA q).set (m*1) (.str l[k])))) OD (af (fun c=>some (Ob.cells 9 c)) (jS l[k])),OD,OD,OD,OD,OD,OD,OD,OK⟩ O O,⟨⟨⟨OI,OI⟩,by simp only [tx];exact hql⟩,⟨by simp only;rw [LU OC];exact hdrop,by simp only;rw [hfs,ga (by intro e;rw [e] at hc29;simp at hc29),<-hqt];exact du OC⟩,by simp only;rw [hfs,ga (by intro e;rw [e] at hc29;simp at hc29),a6,<-hme];rfl⟩,OI⟩
   ·exact Il<|Z3 O O O O<|⟨(k+1,m,q),Io (aS O) (aO OD) O O,⟨⟨⟨OI,OI⟩,hql⟩,⟨hdrop,by simp only;rw [hfs,og (by simpa using hc29),xd];exact hqt⟩,by simp only;rw [hfs,og (by simpa using hc29),xd];exact hme⟩,OI⟩
  ·have hkn:l.take k=l:=bk OC;rw [hkn] at hqt hme;have hfin:(aA q).take (m*1)=aA (l.filter fun x=> !dS J rs σ a x):=by rw [ID,<-List.map_take,hqt]
   exact Gx O<|Z2 O O O<|Rs 38 O O (dK m underlying47 sz9 O O O O OC)<|RL.step (d:=none) O O (kn uq O O O OC)<|Z2 O O O<|Rs 41 O O (dC m underlying47 sz9 O O O O OC)<|A1 O<|Gt O<|⟨[(4,.osl big 1 m)],o8N J W (l.filter fun x=> !dS J rs σ a x) σ (tst now a l) mk mv,[.osl big 1 m],Io (aS O) ⟨ry (b:=some (Ob.cells 9 ((aA q).take (m*1)))) OD (af (fun c=>some (Ob.cells 9 c)) hfin),OD,OD,ry (b:=some (Ob.cells 9 (aA (tst now a (l.take k))))) OD (by rw [hkn]),OD,OD,OD,OD,OK⟩ O O,O,O,O,by rw [hme];rfl,O⟩
end
section
open Mk Jn
theorem wS (J:JD) (W:WD) (σ:Asg ByteArray) (now:List ByteArray) (mk mv:List PV) (a:Nat) (rs:List Nat):
  FnO Tryz.prog 194 7 0 [.pv (aI []),.fn (.func 257) [] [.ptr big 0,.pv (.rp [.int .i64 a] 0),.pv (.rp [ak (bI rs)] 0)]] (o7N J W σ now mk mv) (fun v ob'=>v= .pv (.int .i64 (-1))/\ob'=ar (o7N J W σ now mk mv)):=by
 refine FnO.of func194 O ntmps194 OG fun m0 w0 F R0=>?_
 refine Z1 O O<|Z3 O O O O ?_;refine Gl O (st:=fun x_0:Unit=>mkS [(0,.pv (aI [])),(1,.fn (.func 257) [] [.ptr big 0,.pv (.rp [.int .i64 a] 0),.pv (.rp [ak (bI rs)] 0)]),(7,.pv (.int .i64 0)),(8,.pv (.int .i64 0))] [(big,.mix 198 [.ptr 9001 0]),(9001,oN W 9005 9002 J.S.attrs.length 9003 9004),(9002,.cells 9 (aA now)),(9003,.cells 4 (ay (stL σ J.S.attrs.length))),(9004,.mp mk mv),(9005,oX2 J 9006),(9006,.mp J.pk J.pv)] 0)
  (I:=fun x_0=>True) (μ:=fun x_0=>0) (x0:=(())) (Io (aS O) (aO O) O O) (trivial) ?_
 rintro u hI;refine Z1 O O ?_;refine Gp O O (fun hc9=>absurd hc9 OC) (fun hc9=>?_);exact Gx O<|Z1 O O<|Gt O<|⟨[(4,.pv (.int .i64 (-1)))],o7N J W σ now mk mv,[.pv (.int .i64 (-1))],Io (aS O) (aO OD) O O,O,O,O,O,O⟩
theorem vy (J:JD) (W:WD) (σ:Asg ByteArray) (now:List ByteArray) (mk mv:List PV) (a:Nat) (rs:List Nat):
  FnO Tryz.prog 150 7 0 [.pv (aI []),.fn (.func 257) [] [.ptr big 0,.pv (.rp [.int .i64 a] 0),.pv (.rp [ak (bI rs)] 0)]] (o7N J W σ now mk mv) (fun v ob'=>v= .pv (aI [])/\ob'=ar (o7N J W σ now mk mv)):=by
 refine FnO.of func150 O ntmps150 OG fun m0 w0 F R0=>?_
 have hgo:=wS J W σ now mk mv a rs;refine Z1 O O<|Z2 O O O<|Rs 10 O O (ah [big,9001,9002,9003,9004,9005,9006] 0 call194 hgo O O O O ⟨O,O,O,O,O,O,O,OK⟩ OE O)<|A1 O<|Z2 O O O ?_;refine Gc O O (fun hc12=>?_) (fun hc12=>absurd hc12 (by simp at hc12));exact Z2 O O O<|Gt O<|⟨[(4,.pv (aI []))],o7N J W σ now mk mv,[.pv (aI [])],Io (aS O) (aO OD) O O,O,O,O,O,O⟩
theorem wJ (J:JD) (hJ:JOk J) (hJ12:∀ l∈J.T,l.length<=12) (W:WD) (σ:Asg ByteArray) (now:List ByteArray) (hn:NowOk J.S.attrs.length σ now) (mk mv:List PV) (a:Nat) (ha:a<J.S.attrs.length) (hσ:σ (a:Int)=none) (hw:bw (RJ J) a≠[]):
  FnO Tryz.prog 227 6 0 [.ptr big 0,.pv (.int .i64 a)] (o6N J W σ now mk mv) (fun v ob'=>v= .pv (aI (bC (RJ J) sdS a σ))/\ob'=ar (o6N J W σ (tst now a (jx J a σ)) mk mv)):=by
 refine FnO.of func227 O ntmps227 OG fun m0 w0 F R0=>?_
 have hS:=hJ.s;have hSr:=hS.r;obtain ⟨f,rest,hwf⟩:∃ f rest,bw (RJ J) a=f::rest:=by cases h:bw (RJ J) a with | nil=>exact absurd h hw | cons f rest=>exact ⟨f,rest,rfl⟩
 have hcv:=re J a σ hσ hwf (uK hJ f);have hcl:jx J a σ=sdS (xf J f a σ):=by unfold jx;rw [hwf]
 have hwm:=kA J a;have hff:=hwm f (by rw [hwf];simp);have hfr:=hff.1;have hrsl:(bw (RJ J) a).length<=1000:=uv (IE ..) (by simp [RJ];omega);have hrs:∀ r∈bw (RJ J) a,r<J.S.rels.length:=fun r hr=>(hwm r hr).1
 have hq0:(aE (bI (bw (RJ J) a)))[0]? =some (.int .i64 (f:Int)):=by rw [hwf];rfl
 have hqn:aE (bI (bw (RJ J) a))≠[]:=by rw [hwf];simp
 have hql:0<(bI (bw (RJ J) a)).length:=by rw [hwf];simp
 have hrne:=ew hfr;have hra:(bj J.S.rels)[f*2+1]? =some (ak J.S.rels[f].2):=by
  have h2:(((bj J.S.rels).drop (f*2)).take 2)[1]? =[PV.str J.S.rels[f].1,ak J.S.rels[f].2][1]? :=by rw [cW hfr]
  simpa [vR,FJ] using h2
 have hrl:=hS.l _ (aJ hfr);have hfT:f<J.T.length:=by rw [hJ.n];exact hfr
 have htr:=cD hfT;have htn:=dN hfT;have hTl:J.T[f].length<=12:=hJ12 _ (aJ hfT);have hxv:=hJ.v f hfT hfr;have hidx:=qb J.S.rels[f].2 a OC (by rw [<-show cy J f=J.S.rels[f].2 by simp [cy,List.getD,hfr]];exact hff.2);have hat:(J.S.rels[f].2).idxOf (a:Int)<J.S.rels[f].2.length:=Kr (by rw [<-show cy J f=J.S.rels[f].2 by simp [cy,List.getD,hfr]];exact hff.2);have hraw:xf J f a σ=(J.T[f].filter fun x=>agr J.S.rels[f].2 σ x.v).map fun x=>x.v.getD ((J.S.rels[f].2).idxOf (a:Int)) eb:=by unfold xf;rw [show cy J f=J.S.rels[f].2 by simp [cy,List.getD,hfr],show dh J f=J.T[f] by simp [dh,List.getD,hfT]]
 have hagr:∀ k (h:k<J.T[f].length),FnO Tryz.prog 256 6 0 [.ptr big 0,.pv (.int .i64 f),.pv (sJ J.T[f][k])] (o6N J W σ now mk mv) (fun v ob'=>v= .pv (.bool (agr J.S.rels[f].2 σ J.T[f][k].v))/\ob'=ar (o6N J W σ now mk mv)):=fun k h=>fq J hJ W σ now hn mk mv f hfr J.T[f][k] (hxv _ (aJ h))
 have hdel:=fun (l:List ByteArray) (n:Nat) (h1:l.length=n) (h2:n<=1000)=>pO J hJ W σ now hn mk mv a ha hσ (bw (RJ J) a) hrsl hrs l n h1 h2
 have hdel0:=vy J W σ now mk mv a (bw (RJ J) a);have hwt:=mM J a;rw [hcl,hcv];clear hcl hcv hwm hff hrs hrsl hw hn;generalize J.T[f]=tf at*;generalize J.S.rels[f].2=A at*;generalize hrsg:bw (RJ J) (a:Int)=rs at*;refine Z3 O O O O<|Z1 O O<|Im (St.er 2 0 3 1 3 O O O)<|Gr O ?_;iterate 10 refine A1 O ?_
 refine Gl O (st:=fun x_0:Nat×List Nat=>mkS [(2,.ptr 0 0),(3,.ptr 1 0),(5,.ptr 2 0),(22,.pv (.sl none J.S.rels.length (bj J.S.rels))),(23,.pv (.int .i64 J.S.rels.length)),(24,.pv (.int .i64 x_0.1))] [(big,oN W 9004 9001 J.S.attrs.length 9002 9003),(0,.mix 198 [.ptr big 0]),(1,.mix 3 [.pv (.int .i64 a)]),(2,.mix 22 [.gsl 3 1 x_0.2.length]),(3,.gro 3 (aE (bI x_0.2))),(9001,.cells 9 (aA now)),(9002,.cells 4 (ay (stL σ J.S.attrs.length))),(9003,.mp mk mv),(9004,oX2 J 9005),(9005,.mp J.pk J.pv)] 4)
  (I:=fun x_0=>(x_0.1<=J.S.rels.length/\x_0.2.length<=x_0.1)/\x_0.2=r4 J a x_0.1) (μ:=fun x_0=>J.S.rels.length-x_0.1) (x0:=(0,[])) (Io (aS O) (aO OD) O O) (⟨⟨eF _,qT _⟩,O⟩) ?_
 rintro ⟨k,q⟩ ⟨⟨hk,hqk⟩,hqe⟩;try simp only at hk hqk hqe ⊢
 refine Z1 O O ?_;refine Gp O O (fun hc25=>?_) (fun hc25=>?_)
 ·have hlt:k<J.S.rels.length:=OC;have hrow:=cW hlt;have hne:=ew hlt;have hkl:=hS.l _ (aJ hlt);have hws:=mD J a hlt;generalize J.S.rels[k]=rk at*;refine Il<|Z2 O O O ?_;first | refine A3 O OF ?_ | refine A1 O ?_
  refine Y3 O O O<|Z3 O O O O<|Rs 32 O O (ae call146 (gY rk.2 a OC) O) ?_;refine Gc O O (fun hc32=>?_) (fun hc32=>?_)
  ·refine Gr O ?_;iterate 5 refine A1 O ?_
   exact Z2 O O O<|⟨(k+1,q++[k]),Ip [0,1,2,6] (aT O) ⟨OD,OD,OD,ry (b:=some (.mix 22 [.gsl 6 1 (q.length+1)])) OD (af (fun n=>some (Ob.mix 22 [.gsl 6 1 n])) (bW q k)),ry (b:=some (.gro 3 (aE (bI q)++[.int .i64 k]))) OD (af (fun c=>some (Ob.gro 3 c)) OG),OD,OD,OD,OD,OD,OK⟩ O O OE O,⟨⟨OI,by simp only [a6,vt];omega⟩,by simp only;rw [hws,og (Kh hc32),hqe]⟩,OI⟩
  ·exact Il<|Z2 O O O<|⟨(k+1,q),Io (aS O) (aO OD) O O,⟨⟨OI,OI⟩,by simp only;rw [hws,ga (Kq hc32),xd,hqe]⟩,OI⟩
 ·have hqrs:q=rs:=by rw [hqe,show k=J.S.rels.length by omega,hwt]
  subst hqrs;refine Im (Ir 3 O O)<|Im (St.fS 2 O O)<|Im (St.fS 1 O O)<|Im (Io (l:=[(2,.ptr 0 0),(3,.pv (.rp [.int .i64 a] 0)),(5,.pv (.rp [ak (bI q)] 0))]) (os:=(0,.mix 198 [.ptr big 0])::o6N J W σ now mk mv) (k:=1) ⟨OD,OD,ry (b:= .pv (.rp [.sl none q.length (aE (bI q))] 0)) OD (af (fun n=>V.pv (.rp [.sl none n (aE (bI q))] 0)) (show q.length=(bI q).length by simp)),OK⟩ (aO OD) O O) ?_;refine Gx O<|Z1 O O<|Rs 39 O O (ag 0 underlying22 sz3 O O O hql hqn)<|Rs 40 O O (ai ⟨_,underlying3,O⟩ O hq0)<|A1 O<|Ge O follows [0,1,2,3,4,5,6,7,8,9,10,11,12,13,14] OD ?_;iterate 9 refine D1 O O ?_
  refine Ds 50 [] O O O (fun τ h=>ag f underlying31 Eu (Ee h 0 O O) (Ee h 1 O O) O hfr hrne) O OD<|D1 O O<|Ds 52 [] O O O (fun τ h=>ai ⟨_,underlying22,O⟩ (Ee h 0 O O) hra) O OD<|D1 O O<|Ds 54 [] O O O (fun τ h=>ae call147 hidx (h.bt O)) O OD<|D1 O O ?_;refine ⟨OD,?_⟩;refine Z1 O O<|Im (Iu 10 1 1 9 O O)<|Gr O ?_;iterate 8 refine A1 O ?_
  refine Rs 63 O O (ag f underlying35 qk O O O hfT htn)<|Rs 64 O O (ai ⟨_,underlying38,O⟩ O htr)<|Y2 O O ?_;refine Gl O (st:=fun x_1:Nat×List ByteArray=>mkS [(2,.ptr 0 0),(3,.pv (.rp [.int .i64 a] 0)),(5,.pv (.rp [ak (bI q)] 0)),(8,.pv (.int .i64 f)),(9,.pv (.int .i64 ((A.idxOf (a:Int):Nat):Int))),(10,.gsl 1 1 x_1.2.length),(64,.pv (bL tf)),(65,.pv (.int .i64 tf.length)),(66,.pv (.int .i64 x_1.1))] [(big,oN W 9004 9001 J.S.attrs.length 9002 9003),(0,.mix 198 [.ptr big 0]),(1,.gro 9 (aA x_1.2)),(9001,.cells 9 (aA now)),(9002,.cells 4 (ay (stL σ J.S.attrs.length))),(9003,.mp mk mv),(9004,oX2 J 9005),(9005,.mp J.pk J.pv)] 2)
   (I:=fun x_1=>(x_1.1<=tf.length/\x_1.2.length<=x_1.1)/\x_1.2=((tf.take x_1.1).filter fun x=>agr A σ x.v).map fun x=>x.v.getD (A.idxOf (a:Int)) eb) (μ:=fun x_1=>tf.length-x_1.1) (x0:=(0,[])) (Io (aS O) (aO OD) O O) (⟨⟨eF _,qT _⟩,O⟩) ?_
  rintro ⟨k2,q2⟩ ⟨⟨hk2,hqk2⟩,hqe2⟩;try simp only at hk2 hqk2 hqe2 ⊢
  refine Z1 O O ?_;refine Gp O O (fun hc67=>?_) (fun hc67=>?_)
  ·have hlt2:k2<tf.length:=OC;have hrw:=aN hlt2;have hrn:=aW hlt2;have hga:=hagr k2 hlt2;have hxl:=hxv _ (aJ hlt2);have htk2:=aR hlt2;generalize tf[k2]=x at*;have hix:A.idxOf (a:Int)<x.v.length:=OC;have hvx:(aA x.v)[A.idxOf (a:Int)*1]? =some (.str (x.v.getD (A.idxOf (a:Int)) eb)):=by simp [List.getD,hix]
   have hxn:=bc hix;refine Il<|Z1 O O ?_;first | refine A3 O OF ?_ | refine A1 O ?_
   refine Y2 O O<|Ge O follows [0,1,2,3,4,5,6,7,8,9,10] OD ?_;iterate 5 refine D1 O O ?_
   refine Ds 76 [] O O O (fun τ h=>cg (zp:= .str ByteArray.empty) underlying152 underlying3 (.inr (.inr ⟨(Ee h 0 O O),O,O⟩)) (Ee h 1 O O) O Ic O (r:=none) O O O) O OD ?_;iterate 5 refine D1 O O ?_
   refine ⟨OD,?_⟩;by_cases hag:agr A σ x.v=true
   ·rw [hag] at hga;refine Z3 O O O O<|Rs 82 O O (ah [big,9001,9002,9003,9004,9005] 0 call256 hga O O O O ⟨O,O,O,O,O,O,OK⟩ OE O) ?_;iterate 13 refine A1 O ?_
    refine Gc O O (fun hc95=>?_) (fun hc95=>absurd hc95 OG);exact Z4 O O O O O<|Rs 100 O O (ag (A.idxOf (a:Int)) underlying47 sz9 O O O hix hxn)<|Rs 101 O O (ai ⟨_,underlying9,O⟩ O hvx)<|Y3 O O O<|Z2 O O O<|⟨(k2+1,q2++[x.v.getD (A.idxOf (a:Int)) eb]),Ip [0,4] ⟨O,O,O,O,O,af (fun n=>V.gsl 4 1 n) (bW q2 _),O,O,O,OK⟩ ⟨OD,OD,ry (b:=some (.gro 9 (aA q2++[.str (x.v.getD (A.idxOf (a:Int)) eb)]))) OD (af (fun c=>some (Ob.gro 9 c)) OG),OD,OD,OD,OD,OD,OK⟩ O O OE O,⟨⟨OI,by simp only [a6,vt];omega⟩,by simp only;rw [htk2,Jm,Ho,hqe2];simp [Hf,hag]⟩,OI⟩
   ·rw [J8 hag] at hga;refine Z3 O O O O<|Rs 82 O O (ah [big,9001,9002,9003,9004,9005] 0 call256 hga O O O O ⟨O,O,O,O,O,O,OK⟩ OE O) ?_;iterate 13 refine A1 O ?_
    refine Gc O O (fun hc95=>absurd hc95 OG) (fun hc95=>?_);exact Il<|Z2 O O O<|⟨(k2+1,q2),Io (aS O) (aO OD) O O,⟨⟨OI,OI⟩,by simp only;rw [htk2,Jm,Ho,hqe2];simp [Hf,hag]⟩,OI⟩
  ·have hq12:q2.length<=12:=OC;rw [show tf.take k2=tf from bk OC] at hqe2;have hqr:q2=xf J f a σ:=hqe2.trans hraw.symm;refine Gx O ?_;by_cases hq2:q2=[]
   ·subst hq2;exact Im (St.rB 10 O)<|Z1 O O<|Rs 106 O O (ae call148 lT O)<|Z1 O O<|Rs 108 O O (ae call149 gD O)<|A1 O<|Z2 O O O<|Rs 111 O O (ah [0,big,9001,9002,9003,9004,9005] 0 call150 hdel0 O O O O ⟨OD,OD,OD,OD,OD,OD,OD,OK⟩ OE O)<|A1 O<|Gt O<|⟨[(4,.pv (aI []))],o6N J W σ now mk mv,[.pv (aI [])],Io (aS O) (aO OD) O O,O,O,O,by rw [<-hqr,nG];rfl,by rw [<-hqr,nG];rfl⟩
   ·refine Im (St.ku 10 O O (CG.2 hq2) (by simpa using hq2)) ?_;have hsort:=mX q2 q2.length O hq12;have hcmp:=jh (cR q2) q2.length (cY q2).length_eq OC;have hcl2:=jX (cR q2);have hsl2:=(cY q2).length_eq;have hdl:=hdel (bD (cR q2)) (bD (cR q2)).length O OC;exact Z1 O O<|Rs 106 O O (ah [1] 0 call148 hsort O O O O ⟨O,OK⟩ OE O)<|Z1 O O<|Rs 108 O O (ah [1] 0 call149 hcmp O O O O ⟨O,OK⟩ OE O)<|A1 O<|Im (Io (l:=[(2,.ptr 0 0),(3,.pv (.rp [.int .i64 a] 0)),(5,.pv (.rp [ak (bI q)] 0)),(10,.osl 1 1 (bD (cR q2)).length)]) (os:=(1,cB (bD (cR q2)))::(0,.mix 198 [.ptr big 0])::o6N J W σ now mk mv) (k:=2) (aS OD) (aO OD) O O)<|Z2 O O O<|Rs 111 O O (ah [1,0,big,9001,9002,9003,9004,9005] 0 call150 hdl O O O O ⟨OD,OD,OD,OD,OD,OD,OD,OD,OK⟩ OE O)<|A1 O<|Im (Ir 1 O O)<|Im (St.uQ [4])<|Gt O<|⟨[(4,.pv (aI ((bD (cR q2)).filter fun x=> !dS J q σ a x)))],o6N J W σ (tst now a (bD (cR q2))) mk mv,[.pv (aI ((bD (cR q2)).filter fun x=> !dS J q σ a x))],Io (aS OD) (aO OD) O O,O,O,O,by rw [<-hqr];rfl,by rw [<-hqr];rfl⟩
end
section
open Mk Jn
abbrev nC (r:Nat):List V:=[.pv (.bool (decide ((r:Int)<0))),.pv (z1 (r:Int).natAbs)]
abbrev xg (r:Nat):V:= .agg (nC r)
abbrev jQ (r:Nat):Ob:= .mix 91 (nC r)
def GE:Nat:=1001
def GN:Nat:=12^GE
theorem Hp {a e m:Nat} (he:e<m) (h:a<=12^e):(aj ((a:Nat):Int).natAbs).length<=m:=by
 rw [Int.natAbs_natCast,bF];exact Nat.lt_of_le_of_lt (uv h (Nat.pow_le_pow_left (by decide:12<=1000000000) e)) (Nat.pow_lt_pow_right OE he)
theorem mV {a:Nat} (h:a<=GN):(aj ((a:Nat):Int).natAbs).length<=1000000:=Hp (e:=GE) OE h
theorem ig {n k:Nat} (h:n<=12^k) (hk:k<=1001):n<=GN:=uv h (Kf OE hk)
theorem D6:1<=GN:=ig (k:=0) OE OE
theorem F7 (a b:Nat) (ha:a<=GN) (hb:b<=GN):FnP Tryz.prog 86 [ec (a:Int),ec (b:Int)] (· =ec ((bG.add a b:Nat):Int)):=by
 have:=j1 (a:Int) (b:Int) (mV ha) (mV hb);rwa [show (a:Int)+(b:Int)=((bG.add a b:Nat):Int) from (LD a b).symm] at this
theorem th (a b:Nat) (ha:a<=GN) (hb:b<=GN):FnP Tryz.prog 87 [ec (a:Int),ec (b:Int)] (· =ec ((bG.mul a b:Nat):Int)):=by
 have:=sE (a:Int) (b:Int) (mV ha) (mV hb);rwa [show (a:Int)*(b:Int)=((bG.mul a b:Nat):Int) from (L5 a b).symm] at this
theorem zK (a:Nat):FnP Tryz.prog 88 [ec (a:Int)] (· = .bool (decide (a=0))):=by
 refine FnP.of func88 O ntmps88 OG fun m0 w0 F R0=>?_
 have he:(((a:Int).sign)==0)=decide (a=0):=by
  cases a with
  | zero=>rfl
  | succ a=>rw [Int.sign_eq_one_of_pos OC];simp
 exact Z2 O O O<|Z1 O O<|Rs 4 O O (ae call89 (nj _) O)<|Y2 O O<|Gt O<|⟨_,_,O,O,af PV.bool he⟩
theorem wY (v:Int) (x:ByteArray):FnP Tryz.prog 91 [.int .i64 v,.str x] (· =ec ((1:Nat):Int)):=by
 refine FnP.ofC func91 O ntmps91 OG fun m0 w0 F R0=>?_
 exact Z1 O O<|Gr O<|Rs 5 O O (ae call51 (fO 1 OE OE) O)<|A1 O<|Gt O<|⟨_,_,O,O,⟨aY ⟨_,underlying91,O⟩ lK O O O,OK⟩,O⟩
theorem CA (w:Int):FnP Tryz.prog 92 [.int .i64 w] (· =ec ((1:Nat):Int)):=by
 refine FnP.ofC func92 O ntmps92 OG fun m0 w0 F R0=>?_
 exact Z1 O O<|Gr O<|Rs 3 O O (ae call51 (fO 1 OE OE) O)<|A1 O<|Gt O<|⟨_,_,O,O,⟨aY ⟨_,underlying91,O⟩ lK O O O,OK⟩,O⟩
abbrev wdN (D:VD):WD:=⟨bu D.chs,bu D.kes,bu D.hos,ak D.wa,.bool false,z1 0,.bool false,z1 1,.fn (.func 86) [] [],.fn (.func 87) [] [],.fn (.func 88) [] [],.fn (.func 91) [] [],.fn (.func 92) [] []⟩
theorem Bk:∀ (a b:List (Nat×Ob)) (i:Nat) (o:Ob),ar a i=some o->ar (a++b) i=some o
 | [],b,i,o,h=>by simp [ar] at h
 | (d,v)::a,b,i,o,h=>by
   simp only [F8,ar] at h ⊢;cases hb:Nat.beq i d with
   | true=>rw [hb] at h;exact h
   | false=>rw [hb] at h;exact Bk a b i o h
end
section
open Mk Jn
abbrev bM (M:List (ByteArray×Nat)):List PV:=M.map fun p=>ec (p.2:Int)
abbrev o6R (J:JD) (W:WD) (σ:Asg ByteArray) (now:List ByteArray) (mk mv:List PV) (o:Ob):List (Nat×Ob):=[(big,oN W 9004 9001 J.S.attrs.length 9002 9003),(9001,.cells 9 (aA now)),(9002,.cells 4 (ay (stL σ J.S.attrs.length))),(9003,.mp mk mv),(9004,oX2 J 9005),(9005,.mp J.pk J.pv),(0,o)]
theorem yL (J:JD) (W:WD) (σ:Asg ByteArray) (now:List ByteArray) (mk mv:List PV) (r:Ob):∀ i o,ar (o6N J W σ now mk mv) i=some o->ar (o6R J W σ now mk mv r) i=some o:=fun i o h=>Bk (o6N J W σ now mk mv) [(0,r)] i o h
def QKN (J:JD) (P:List Int) (D:VD) (σ:Asg ByteArray) (r:Nat) (v:V) (ob':Nat->Option Ob):Prop:=∃ now' M',NowOk J.S.attrs.length σ now'/\iz bG J P M'/\v=xg r/\ob'=ar (o6N J (wdN D) σ now' (ba M') (bM M'))
def RBN (J:JD) (P:List Int) (σ:Asg ByteArray) (r:Nat) (p:V) (a b:Ob):Prop:=∃ now' M',NowOk J.S.attrs.length σ now'/\iz bG J P M'/\p=xg r/\a= .cells 9 (aA now')/\b= .mp (ba M') (bM M')
theorem zN {J:JD} {P:List Int} {D:VD} {σ:Asg ByteArray} {r:Nat} (v:V) (ob':Nat->Option Ob) (h:QKN J P D σ r v ob'):∃ p a b,RBN J P σ r p a b/\p.ren (cm six 0)=p/\a.ren (cm six 0)=a/\b.ren (cm six 0)=b/\v=p/\ob'=ar [(big,oN (wdN D) 9004 9001 J.S.attrs.length 9002 9003),(9001,a),(9002,.cells 4 (ay (stL σ J.S.attrs.length))),(9003,b),(9004,oX2 J 9005),(9005,.mp J.pk J.pv)]:=by
 obtain ⟨now',M',h1,h2,rfl,rfl⟩:=h;exact ⟨_,_,_,⟨now',M',h1,h2,O,O,O⟩,O,O,O,O,O⟩
def oi (J:JD) (P:List Int) (D:VD) (v:Nat):Prop:=∀ σ now M,At P v σ->ZfA σ->SzA σ->NowOk J.S.attrs.length σ now->iz bG J P M->FnO Tryz.prog 188 6 0 [.ptr big 0,.pv (.int .i64 v)] (o6N J (wdN D) σ now (ba M) (bM M)) (QKN J P D σ (fv bG J P v σ))
def kU (J:JD) (P:List Int) (D:VD) (v:Nat):Prop:=∀ σ now M x,At P v σ->ZfA σ->SzA σ->Zf x->x.size<=10000->NowOk J.S.attrs.length σ now->iz bG J P M->FnO Tryz.prog 228 6 0 [.ptr big 0,.pv (.int .i64 v),.pv (.str x)] (o6N J (wdN D) σ now (ba M) (bM M)) (QKN J P D σ (fl bG J P (bq P v) (put σ v x)))
theorem mj (J:JD) (P:List Int) (D:VD) (h:CtxV J P D) (v:Nat) (hv:v<P.length) (hb:kU J P D v):oi J P D v:=by
 intro σ now M hat hz hsz hn hM;refine FnO.ofC func188 O ntmps188 OG fun m0 w0 F R0=>?_
 have hP:=h.ord.dP;have hnl:=h.len;have hn64:=h.n64;have hva:v<J.S.attrs.length:=OC;have hvk:v<D.kes.length:=by rw [h.kel];exact hv
 have hkv:=cM hvk;have hkn:=cQ hvk;have hw8:IntKind.u8.wrap (v:Int)=((UInt8.ofNat v).toNat:Int):=by
  have:=h.n64;rw [UInt8.toNat_ofNat'];simp [IntKind.wrap,IntKind.bits,IntKind.signed]
 have hwb:=mS (UInt8.ofNat v);rw [h.Hb hv] at hkv;have hkl:=yj J.S P v;have hke:∀ a∈dq J.S P v,∃ b:Nat,a=(b:Int)/\b<J.S.attrs.length/\∃ y,σ (b:Int)=some y:=fun a ha=>by
  obtain ⟨b,e,hb,hm⟩:=h.xz hv ha;exact ⟨b,e,OC,tH.1 (hat.up _ hm)⟩
 have hktl:∀ k,(lG (fun a=>(σ a).getD eb) ((dq J.S P v).take k)).length<=10001*64:=fun k=>by
  refine uv (nQ fun a _=>?_) (Ks _ ?_)
  ·cases e:σ a with
   | none=>exact (by decide:(0:Nat)<=10000)
   | some x=>exact hsz a x e
  ·have:=h.n64;rw [iP];omega
 have hlk:=tT bG (fun r:Nat=>ec (r:Int)) hM hv hat hz;have hput:=fun M2 (hM2:iz bG J P M2)=>y8 bG (fun r:Nat=>ec (r:Int)) h.ord (by have:=h.n64;omega) hM2 hv hat hz
 have hfnd:=fun M2:List (ByteArray×Nat)=>gJ (lz v (dq J.S P v) σ) (fun r:Nat=>ec (r:Int)) M2 0
 have hcand:=wJ J h.ok h.t12 (wdN D) σ now hn (ba M) (bM M) v hva (hat.self hv) (h.wv v hva);have htn:=ki hn hva (hat.self hv) (jx J v σ);have hcok:=h.s8 v σ;have hcl:=gm h.t12 v σ;have hfv:=Gz bG J hP hv σ;have hbr:=fun now2 M2 x hx1 hx2 h2 h3=>hb σ now2 M2 x hat hz hsz hx1 hx2 h2 h3
 have hks:lz v (dq J.S P v) σ=⟨(UInt8.ofNat v::lG (fun a=>(σ a).getD eb) (dq J.S P v)).toArray⟩:=rfl;have hkne:(lz v (dq J.S P v) σ).data.toList≠[]:=by rw [hks];simp
 have hkbl:(lz v (dq J.S P v) σ).data.toList.length<=1000000000:=by
  have:=hktl (dq J.S P v).length;rw [J4] at this;rw [hks];simp only [qU];omega
 have hsb:=fun k=>ig (Hn h.t12 hP hv σ k) OC
 have hfb:=fun x=>ig (sr h.t12 hP hv _ (List.prefix_refl _) (put σ v x)) OC
 clear hb;generalize hKg:lz v (dq J.S P v) σ=KB at*;generalize dq J.S P v=K at*;generalize jx J v σ=CL at*;generalize hFG:(fun x=>fl bG J P (bq P v) (put σ v x))=fx at*;have hfx:∀ x,fl bG J P (bq P v) (put σ v x)=fx x:=fun x=>by rw [<-hFG]
 simp only [hfx] at hbr hfb;generalize fv bG J P v σ=FV at*;generalize bC (RJ J) sdS v σ=C at*;refine Z1 O O<|Z1 O O<|Im (St.er 1 1 2 1 5 O O O)<|Z1 O O<|Rs 14 O O ((en underlying3 underlying5 O).cast (v':= .pv (.int .u8 ((UInt8.ofNat v).toNat:Int))) (af (fun z=>V.pv (.int .u8 z)) hw8))<|Rs 15 O O (ah [1,2] 3 call192 hwb O O O O ⟨O,O,OK⟩ OE O) ?_;clear hw8 hwb;refine Gr O ?_;iterate 6 refine A1 O ?_
 refine Rs 22 O O (ag v underlying142 ly O O O hvk hkn)<|Rs 23 O O (ai ⟨_,underlying22,O⟩ O hkv)<|Y2 O O ?_;refine Gl O (st:=fun x_0:Nat×List UInt8=>mkS [(0,.ptr big 0),(1,.pv (.int .i64 v)),(4,.ptr 0 0),(5,.ptr 1 0),(23,.pv (ak K)),(24,.pv (.int .i64 K.length)),(25,.pv (.int .i64 x_0.1))] [(big,oN (wdN D) 9004 9001 J.S.attrs.length 9002 9003),(0,.mix 91 [.pv (.bool false),.pv nS]),(1,.mix 165 [.ptr 1 0,.gsl 4 1 x_0.2.length]),(4,.gro 5 (az x_0.2)),(9001,.cells 9 (aA now)),(9002,.cells 4 (ay (stL σ J.S.attrs.length))),(9003,.mp (ba M) (bM M)),(9004,oX2 J 9005),(9005,.mp J.pk J.pv)] 5)
  (I:=fun x_0=>x_0.1<=K.length/\x_0.2=UInt8.ofNat v::lG (fun a=>(σ a).getD eb) (K.take x_0.1)) (μ:=fun x_0=>K.length-x_0.1) (x0:=(0,[UInt8.ofNat v])) (Io (aS O) (aO OD) O O) (⟨eF _,O⟩) ?_
 rintro ⟨k,L⟩ ⟨hk,hL⟩;try simp only at hk hL ⊢
 refine Z1 O O ?_;refine Gp O O (fun hc26=>?_) (fun hc26=>?_)
 ·have hlt:k<K.length:=OC;obtain ⟨a,ha,hal,y,hy⟩:=hke _ (aJ hlt);have hpv:(aE K)[k*1]? =some (.int .i64 (a:Int)):=by rw [<-ha];simp [hlt]
  have hpn:=aH hlt;have hnow:now[a]'(by rw [hn.l];exact hal)=y:=hn.e a (by rw [hn.l];exact hal) y hy;have hnp:=aM (l:=now) (k:=a) (by rw [hn.l];exact hal);rw [hnow] at hnp;have hnl2:(aA now).length=J.S.attrs.length:=by rw [rJ,hn.l]
  have hys:=hsz _ _ hy;have hkt:=hktl k;have hktk:=pg (fun a=>(σ a).getD eb) hlt;rw [ha,hy] at hktk;have hLn:L≠[]:=by rw [hL];simp
  have hws:=qm L (y++(⟨#[0]⟩:ByteArray)) hLn (by rw [hL,ug];simp only [qU];omega);rw [MC] at hws;refine Il<|Z1 O O<|Rs 28 O O (ai ⟨_,underlying3,O⟩ O hpv)<|A1 O<|Gr O ?_;iterate 6 refine A1 O ?_
  refine Rs 35 O O (aC ⟨_,underlying9,O⟩ O O hnp)<|Rs 36 O O (xO O O (by show y.size+1<=_;omega)) ?_;exact Rs 37 O O (ah [1,4] 5 call105 hws O O O O ⟨OD,OD,OK⟩ OE O)<|Z2 O O O<|⟨(k+1,L++(y.data.toList++[0])),Ip [0,1,2,3,5] (aT O) (aP OD) O O OE O,⟨OI,by simp only;rw [hktk,hL];rfl⟩,OI⟩
 ·have hLK:L=UInt8.ofNat v::lG (fun a=>(σ a).getD eb) K:=by rw [hL,show K.take k=K from bk OC]
  have hLn:L≠[]:=by rw [hLK];simp
  have hKL:(⟨L.toArray⟩:ByteArray)=KB:=by rw [hks,hLK]
  have hLe:L=KB.data.toList:=by rw [<-hKL]
  have hLl:L.length<=1000000000:=by rw [hLe];exact hkbl
  have hbs:=j8 L hLn hLl;rw [hKL] at hbs;have hbs2:=mW L.length KB hkne (by rw [hLe]) hLl;refine Gx O ?_;by_cases hm:∃ p∈M,p.1=KB
  ·rw [og hm] at hlk;refine Ge O follows [0,1,2,3,4,5,6,7,8,9,10,11] OD ?_;iterate 4 refine D1 O O ?_
   refine Ds 44 [1,4] O O O (fun τ h=>ah [1,4] 5 call108 hbs (h.args.trans O) O O O ⟨(Eo h 0 O O),(Eo h 1 O O),OK⟩ OE O) O OD<|Ds 45 [_] O O O (fun τ h=>cg (zp:= .agg [.bool false,.sl (some true) 0 []]) underlying238 underlying9 (.inl ⟨9003,(Ee h 0 O O),(Eo h 0 O O)⟩) (Ee h 1 O O) O Ej O hlk O O) O OD ?_;iterate 6 refine D1 O O ?_
   refine ⟨OD,?_⟩;refine Z1 O O ?_;refine Gc O O (fun hc48=>?_) (fun hc48=>absurd hc48 OG);exact Z2 O O O<|Gt O<|⟨[(4,.ptr 0 0)],o6R J (wdN D) σ now (ba M) (bM M) (jQ FV),[xg FV],o6N J (wdN D) σ now (ba M) (bM M),1,Io (aS O) (aO OD) O O,O,⟨aY ⟨_,underlying91,O⟩ lK O O O,OK⟩,O,O,yL _ _ _ _ _ _ _,OE,now,M,hn,hM,O,O⟩
  ·rw [ga hm] at hlk;refine Ge O follows [0,1,2,3,4,5,6,7,8,9,10,11] OD ?_;iterate 4 refine D1 O O ?_
   refine Ds 44 [1,4] O O O (fun τ h=>ah [1,4] 5 call108 hbs (h.args.trans O) O O O ⟨(Eo h 0 O O),(Eo h 1 O O),OK⟩ OE O) O OD<|Ds 45 [_] O O O (fun τ h=>cg (zp:= .agg [.bool false,.sl (some true) 0 []]) underlying238 underlying9 (.inl ⟨9003,(Ee h 0 O O),(Eo h 0 O O)⟩) (Ee h 1 O O) O Ej O hlk O O) O OD ?_;iterate 6 refine D1 O O ?_
   refine ⟨OD,?_⟩;refine Z1 O O ?_;refine Gc O O (fun hc48=>absurd hc48 OG) (fun hc48=>?_);refine Il<|Gr O ?_;iterate 7 refine A1 O ?_
   refine Z2 O O O<|Rs 57 O O (ah [big,9001,9002,9003,9004,9005] 7 call227 hcand O O O O ⟨OD,OD,OD,OD,OD,OD,OK⟩ OE O)<|Y2 O O ?_;refine Gl O (st:=fun x_1:Nat×List ByteArray×List (ByteArray×Nat)=>mkS [(0,.ptr big 0),(1,.pv (.int .i64 v)),(4,.ptr 0 0),(5,.ptr 1 0),(10,.ptr 6 0),(57,.pv (aI C)),(58,.pv (.int .i64 C.length)),(59,.pv (.int .i64 x_1.1))] [(big,oN (wdN D) 9004 9001 J.S.attrs.length 9002 9003),(0,.mix 91 [.pv (.bool false),.pv nS]),(1,.mix 165 [.ptr 1 0,.gsl 4 1 L.length]),(4,.fro 5 KB),(6,jQ (kH bG ((C.take x_1.1).map fx))),(9001,.cells 9 (aA x_1.2.1)),(9002,.cells 4 (ay (stL σ J.S.attrs.length))),(9003,.mp (ba x_1.2.2) (bM x_1.2.2)),(9004,oX2 J 9005),(9005,.mp J.pk J.pv)] 7)
    (I:=fun x_1=>x_1.1<=C.length/\NowOk J.S.attrs.length σ x_1.2.1/\iz bG J P x_1.2.2) (μ:=fun x_1=>C.length-x_1.1) (x0:=(0,tst now v CL,M)) (Io (aS O) (aO OD) O O) (⟨eF _,htn,hM⟩) ?_
   rintro ⟨k2,now2,M2⟩ ⟨hk2,hn2,hM2⟩;try simp only at hk2 hn2 hM2 ⊢
   refine Z1 O O ?_;refine Gp O O (fun hc60=>?_) (fun hc60=>?_)
   ·have hlt2:k2<C.length:=OC;have hv2:=aM hlt2;have hne2:=bc hlt2;have hco:=hcok _ (aJ hlt2);have hbk:=hbr now2 M2 C[k2] hco.1 hco.2 hn2 hM2;have hss:=qK bG hlt2 fx;have hga:=F7 _ _ (hsb k2) (hfb C[k2]);generalize kH bG ((C.take k2).map fx)=acc at*;refine Il<|Z1 O O ?_;first | refine A2 O OF ?_ | refine A1 O ?_
    refine A1 O<|Ge O follows [0,1,2,3,4,5,6,7,8,9,10,11] OD ?_;iterate 9 refine D1 O O ?_
    refine DL.rel (RV (RBN J P σ (fx C[k2]))) [9001,9003] [] [big,9001,9002,9003,9004,9005] O O O (fun τ h=>Gh call228 hbk zN (h.args.trans O) O O ⟨Eo h 0 O O,Eo h 1 O O,Eo h 2 O O,Eo h 3 O O,Eo h 4 O O,Eo h 5 O O,OK⟩) O OD OD OD ?_;rintro _ ⟨_,_,_,⟨now3,M3,hn3,hM3,rfl,rfl,rfl⟩,rfl⟩ _ _;refine Ds 73 [] O O O (fun τ h=>bb call86 (Ee h 0 O O) hga (h.jv O)) O OD<|D1 O O ?_;refine ⟨OD,?_⟩;exact Z2 O O O<|⟨(k2+1,now3,M3),Io (aS O) ⟨OD,OD,OD,OD,ry (b:=some (jQ (bG.add acc (fx C[k2])))) OD (af (fun b=>some (jQ b)) hss.symm),OD,OD,OD,OD,OD,OK⟩ O O,⟨OC,hn3,hM3⟩,OI⟩
   ·rw [show C.take k2=C from bk OC,<-hfv];obtain ⟨M4,hM4,hpk,hpv⟩:=hput M2 hM2;obtain ⟨⟨r,hkf⟩,_,_⟩:=hfnd M2;refine Gx O<|Ge O follows [0,1,2,3,4,5,6] OD ?_;iterate 4 refine D1 O O ?_
    refine Ds 79 [1,4] O O O (fun τ h=>ah [1,4] 7 call108 hbs2 (h.args.trans O) O O O ⟨(Eo h 0 O O),(Eo h 1 O O),OK⟩ OE O) O OD<|D1 O O<|DL.step (d:=none) [_] O O O (fun τ h=>ed underlying238 underlying9 (Ee h 0 O O) (Eo h 0 O O) (Ee h 1 O O) (Ee h 2 O O) O hkf hpk hpv) O OD ?_;refine ⟨OD,?_⟩;exact Z2 O O O<|Gt O<|⟨[(4,.ptr 0 0)],o6R J (wdN D) σ now2 (ba M4) (bM M4) (jQ FV),[xg FV],o6N J (wdN D) σ now2 (ba M4) (bM M4),1,Io (aS O) (aO OD) O O,O,⟨aY ⟨_,underlying91,O⟩ lK O O O,OK⟩,O,O,yL _ _ _ _ _ _ _,OE,now2,M4,hn2,hM4,O,O⟩
theorem jr (J:JD) (P:List Int) (D:VD) (h:CtxV J P D) (v:Nat) (hv:v<P.length) (hw:∀ c:Nat,c<P.length->P.getD c 0=(v:Int)->oi J P D c):kU J P D v:=by
 intro σ now M x hat hz hsz hx1 hx2 hn hM;refine FnO.ofC func228 O ntmps228 OG fun m0 w0 F R0=>?_
 have hP:=h.ord.dP;have hlen:=h.len;have hn64:=h.n64;have hJ:=h.ok;have hva:v<J.S.attrs.length:=OC;have hself:=hat.self hv;have hnp:=hn.put hva x;have hagr:=fun r (hr:r<J.S.rels.length) y (hy:y.v.length=J.S.rels[r].2.length)=>fq J hJ (wdN D) (put σ v x) (now.set v x) hnp (ba M) (bM M) r hr y hy
 have hvo:v<D.hos.length:=by rw [h.hl];exact hv
 have hov:=cM hvo;have hon:=cQ hvo;have hoh:=h.ho _ (aJ hvo);generalize D.hos[v]=Hs at*;have hvc:v<D.chs.length:=by rw [h.chl];omega
 have hcv:=cM hvc;have hcn:=cQ hvc;rw [h.HX hv] at hcv;have hkid:∀ c∈bq P v,∃ m:Nat,m<P.length/\c=(m:Int)/\P.getD m 0=(v:Int):=fun c hc=>aX.1 hc
 have hcl:(bq P v).length<=64:=uv (uv (IE ..) (by rw [a8];exact qT _)) hn64;have hview:=fun (c:Nat) (hc:c<P.length) (hp:P.getD c 0=(v:Int)) now2 M2 h2 h3=>hw c hc hp (put σ v x) now2 M2 (hat.child hP hv hc hp x) (hz.put v hx1) (hsz.put v hx2) h2 h3
 have hfn:=uO bG J P (put σ v x);have hft:=fun (cs:List Int) (k:Nat) (hk:k<cs.length)=>oG bG J P (put σ v x) hk
 have hfz:=yv bG J P (bq P v) (put σ v x);have hnl:(aA now).length=J.S.attrs.length:=by rw [rJ,hn.l]
 have hsl:(ay (stL σ J.S.attrs.length)).length=J.S.attrs.length:=by rw [rJ,cK]
 have hsl2:(ay (stL (put σ v x) J.S.attrs.length)).length=J.S.attrs.length:=by rw [rJ,cK]
 have h1:=ix (l:=now) (a:=v) x;have h2:=kZ (σ:=σ) hva x;have h3:(ay (stL (put σ v x) J.S.attrs.length)).set (v*1) (.bool false)=ay (stL σ J.S.attrs.length):=by rw [qO hva,cO hself]
 have hun:∀ now2,NowOk J.S.attrs.length (put σ v x) now2->NowOk J.S.attrs.length σ now2:=fun now2 h4=>by have:=h4.un (v:Int);rwa [cO hself] at this
 have hkb:=fun k=>ig (sr h.t12 hP hv _ (List.take_prefix k _) (put σ v x)) OC
 have hvb:=fun (c:Nat) (hc:c<P.length)=>ig (Ed h.t12 hP hc (put σ v x)) OC
 generalize bq P v=CS at*;clear hw;generalize put σ v x=σ2 at*;refine Z1 O O<|Ge O follows [0,1,2,3,4,5,6,7,8,9,10,11,12,13,14] OD ?_;iterate 11 refine D1 O O ?_
 refine Ds 25 [_] O O O (fun τ h=>aa v underlying47 sz9 (Ee h 0 O O) (Eo h 0 O O) (Ee h 1 O O) O OC) O OD<|DL.step (d:=none) [_] O O O (fun τ h=>aF sz9 (Ee h 0 O O) (Eo h 0 O O) (Ee h 1 O O) O OC) O OD<|Ds 26 [_] O O O (fun τ h=>aa v underlying115 sz4 (Ee h 0 O O) (Eo h 0 O O) (Ee h 1 O O) O OC) O OD<|DL.step (d:=none) [_] O O O (fun τ h=>aF sz4 (Ee h 0 O O) (Eo h 0 O O) (Ee h 1 O O) O OC) O OD ?_;refine ⟨OD,?_⟩;refine Im (Io (l:=[(0,.ptr big 0),(1,.pv (.int .i64 v)),(2,.pv (.str x)),(6,.ptr 0 0)]) (os:=(0,.mix 91 [.pv (.bool false),.pv nS])::o6N J (wdN D) σ2 (now.set v x) (ba M) (bM M)) (k:=1) (aS O) ⟨O,O,af (fun c=>some (Ob.cells 9 c)) h1,af (fun c=>some (Ob.cells 4 c)) h2,O,O,O,OK⟩ O O)<|Gr O ?_;iterate 6 refine A1 O ?_
 refine Rs 33 O O (bb call91 O (wY _ _) O)<|Y2 O O<|Gr O ?_;iterate 6 refine A1 O ?_
 refine Rs 40 O O (ag v underlying142 ly O O O hvo hon)<|Rs 41 O O (ai ⟨_,underlying22,O⟩ O hov)<|Y2 O O ?_;refine Gl O (st:=fun x_0:Nat=>mkS [(0,.ptr big 0),(1,.pv (.int .i64 v)),(6,.ptr 0 0),(7,.ptr 1 0),(41,.pv (ak Hs)),(42,.pv (.int .i64 Hs.length)),(43,.pv (.int .i64 x_0))] [(big,oN (wdN D) 9004 9001 J.S.attrs.length 9002 9003),(0,.mix 91 [.pv (.bool false),.pv nS]),(1,jQ 1),(9001,.cells 9 (aA (now.set v x))),(9002,.cells 4 (ay (stL σ2 J.S.attrs.length))),(9003,.mp (ba M) (bM M)),(9004,oX2 J 9005),(9005,.mp J.pk J.pv)] 2)
  (I:=fun x_0=>x_0<=Hs.length) (μ:=fun x_0=>Hs.length-x_0) (x0:=(0)) (Io (aS O) (aO OD) O O) (eF _) ?_
 rintro k hk;refine Z1 O O ?_;refine Gp O O (fun hc44=>?_) (fun hc44=>?_)
 ·have hlt:k<Hs.length:=OC;have hHl:=hoh.1;obtain ⟨hr0,hr1⟩:=hoh.2 _ (aJ hlt);obtain ⟨r,hr⟩:=rK hr0;have hrl:r<J.S.rels.length:=OC;have hpv:(aE Hs)[k*1]? =some (.int .i64 (r:Int)):=by rw [<-hr];simp [hlt]
  have hpn:=aH hlt;have hrT:r<J.T.length:=by rw [hJ.n];exact hrl
  have htr:=cD hrT;have htn:=dN hrT;have hTl:=hJ.l _ (aJ hrT);have hxv:=hJ.v r hrT hrl;have hga:=fun (i:Nat) (hi:i<J.T[r].length)=>hagr r hrl J.T[r][i] (hxv _ (aJ hi))
  generalize J.T[r]=tf at*;refine Il<|Z1 O O<|Rs 46 O O (ai ⟨_,underlying3,O⟩ O hpv)<|A1 O<|Gr O ?_;iterate 8 refine A1 O ?_
  refine Rs 55 O O (ag r underlying35 qk O O O hrT htn)<|Rs 56 O O (ai ⟨_,underlying38,O⟩ O htr)<|Y2 O O ?_;refine Gl O (st:=fun x_1:Nat=>mkS [(0,.ptr big 0),(1,.pv (.int .i64 v)),(6,.ptr 0 0),(7,.ptr 1 0),(9,.pv (.int .i64 (r:Int))),(41,.pv (ak Hs)),(42,.pv (.int .i64 Hs.length)),(43,.pv (.int .i64 k)),(56,.pv (bL tf)),(57,.pv (.int .i64 tf.length)),(58,.pv (.int .i64 x_1))] [(big,oN (wdN D) 9004 9001 J.S.attrs.length 9002 9003),(0,.mix 91 [.pv (.bool false),.pv nS]),(1,jQ 1),(9001,.cells 9 (aA (now.set v x))),(9002,.cells 4 (ay (stL σ2 J.S.attrs.length))),(9003,.mp (ba M) (bM M)),(9004,oX2 J 9005),(9005,.mp J.pk J.pv)] 2)
   (I:=fun x_1=>x_1<=tf.length) (μ:=fun x_1=>tf.length-x_1) (x0:=(0)) (Io (aS O) (aO OD) O O) (eF _) ?_
  rintro k3 hk3;refine Z1 O O ?_;refine Gp O O (fun hc59=>?_) (fun hc59=>?_)
  ·have hlt3:k3<tf.length:=OC;have hrw:=aN hlt3;have hrn:=aW hlt3;have hgk:=hga k3 hlt3;generalize tf[k3]=y at*;generalize hbg:agr J.S.rels[r].2 σ2 y.v=b at*;refine Il<|Z1 O O ?_;first | refine A3 O OF ?_ | refine A1 O ?_
   refine Y2 O O<|Z3 O O O O<|Rs 65 O O (ah [big,9001,9002,9003,9004,9005] 3 call256 hgk O O O O ⟨O,O,O,O,O,O,OK⟩ OE O) ?_;refine Gc O O (fun hc65=>?_) (fun hc65=>?_)
   ·refine Ge O follows [0,1,2,3,4,5,6,7,8,9,10,11,12,13,14] OD ?_;iterate 12 refine D1 O O ?_
    refine Ds 78 [] O O O (fun τ h=>bb call92 (Ee h 0 O O) (CA _) (h.jv O)) O OD<|Ds 79 [] O O O (fun τ h=>bb call87 (Ee h 0 O O) (th 1 1 D6 D6) (h.jv O)) O OD<|D1 O O ?_;refine ⟨OD,?_⟩;exact Z2 O O O<|⟨(k3+1),Io (aS O) (aO OD) O O,OC,OC⟩
   ·exact Il<|Z2 O O O<|⟨(k3+1),Io (aS O) (aO OD) O O,OC,OC⟩
  ·skip
   exact Gx O<|Z2 O O O<|⟨(k+1),Io (aS O) (aO OD) O O,OC,OC⟩
 ·skip
  refine Gx O<|Gr O ?_;iterate 6 refine A1 O ?_
  refine Rs 88 O O (ag v underlying142 ly O O O hvc hcn)<|Rs 89 O O (ai ⟨_,underlying22,O⟩ O hcv)<|Y2 O O ?_;refine Gl O (st:=fun x_2:Nat×List ByteArray×List (ByteArray×Nat)=>mkS [(0,.ptr big 0),(1,.pv (.int .i64 v)),(6,.ptr 0 0),(7,.ptr 1 0),(89,.pv (ak CS)),(90,.pv (.int .i64 CS.length)),(91,.pv (.int .i64 x_2.1))] [(big,oN (wdN D) 9004 9001 J.S.attrs.length 9002 9003),(0,.mix 91 [.pv (.bool false),.pv nS]),(1,jQ (fl bG J P (CS.take x_2.1) σ2)),(9001,.cells 9 (aA x_2.2.1)),(9002,.cells 4 (ay (stL σ2 J.S.attrs.length))),(9003,.mp (ba x_2.2.2) (bM x_2.2.2)),(9004,oX2 J 9005),(9005,.mp J.pk J.pv)] 2)
   (I:=fun x_2=>x_2.1<=CS.length/\NowOk J.S.attrs.length σ2 x_2.2.1/\iz bG J P x_2.2.2) (μ:=fun x_2=>CS.length-x_2.1) (x0:=(0,now.set v x,M)) (Io (aS O) ⟨OD,OD,ry (b:=some (jQ bG.one)) OD (af (fun b=>some (jQ b)) hfn.symm),OD,OD,OD,OD,OD,OK⟩ O O) (⟨eF _,hnp,hM⟩) ?_
  rintro ⟨k4,now2,M2⟩ ⟨hk4,hn2,hM2⟩;try simp only at hk4 hn2 hM2 ⊢
  refine Z1 O O ?_;refine Gp O O (fun hc92=>?_) (fun hc92=>?_)
  ·have hlt4:k4<CS.length:=OC;obtain ⟨c,hc,hce,hcp⟩:=hkid _ (aJ hlt4);have hpv4:(aE CS)[k4*1]? =some (.int .i64 (c:Int)):=by rw [<-hce];simp [hlt4]
   have hpn4:=aH hlt4;have hvk:=hview c hc hcp now2 M2 hn2 hM2;have htk:=hft CS k4 hlt4;have hfz4:=hfz k4;have hmm:=th _ _ (hkb k4) (hvb c hc);rw [hce] at htk;generalize hag:fl bG J P (CS.take k4) σ2=acc at*;refine Il<|Z1 O O<|Rs 94 O O (ai ⟨_,underlying3,O⟩ O hpv4)<|A1 O<|Ge O follows [0,1,2,3,4,5,6] OD ?_;iterate 6 refine D1 O O ?_
   refine Ds 101 [] O O O (fun τ h=>bb call88 (Ee h 0 O O) (zK _) (h.jv O)) O OD ?_;refine ⟨OD,?_⟩;refine Gc O O (fun hc101=>?_) (fun hc101=>?_)
   ·have haf:acc=0:=by simpa using hc101
    have hall:acc=fl bG J P CS σ2:=haf.trans (hfz4 haf).symm;rw [hall];refine Gx O<|Gr O ?_;iterate 5 refine A1 O ?_
    exact Rs 118 O O (aa v underlying115 sz4 O O O O OC)<|RL.step (d:=none) O O (aF sz4 O O O O OC)<|Z2 O O O<|Gt O<|⟨[(6,.ptr 0 0)],o6R J (wdN D) σ now2 (ba M2) (bM M2) (jQ (fl bG J P CS σ2)),[xg (fl bG J P CS σ2)],o6N J (wdN D) σ now2 (ba M2) (bM M2),1,Io (aS O) ⟨OD,OD,af (fun c=>some (Ob.cells 4 c)) h3,OD,OD,OD,OD,OK⟩ O O,O,⟨aY ⟨_,underlying91,O⟩ lK O O O,OK⟩,O,O,yL _ _ _ _ _ _ _,OE,now2,M2,hun _ hn2,hM2,O,O⟩
   ·refine Il<|Ge O follows [0,1,2,3,4,5,6,7,8,9,10] OD ?_;iterate 8 refine D1 O O ?_
    refine DL.rel (RV (RBN J P σ2 (fv bG J P c σ2))) [9001,9003] [] [big,9001,9002,9003,9004,9005] O O O (fun τ h=>Gh call188 hvk zN (h.args.trans O) O O ⟨Eo h 0 O O,Eo h 1 O O,Eo h 2 O O,Eo h 3 O O,Eo h 4 O O,Eo h 5 O O,OK⟩) O OD OD OD ?_;rintro _ ⟨_,_,_,⟨now3,M3,hn3,hM3,rfl,rfl,rfl⟩,rfl⟩ _ _;refine Ds 111 [] O O O (fun τ h=>bb call87 (Ee h 0 O O) hmm (h.jv O)) O OD<|D1 O O ?_;refine ⟨OD,?_⟩;exact Z2 O O O<|⟨(k4+1,now3,M3),Io (aS O) ⟨OD,OD,ry (b:=some (jQ (bG.mul acc (fv bG J P c σ2)))) OD (af (fun b=>some (jQ b)) htk.symm),OD,OD,OD,OD,OD,OK⟩ O O,⟨OC,hn3,hM3⟩,OI⟩
  ·rw [show CS.take k4=CS from bk OC];refine Gx O<|Gr O ?_;iterate 5 refine A1 O ?_
   exact Rs 118 O O (aa v underlying115 sz4 O O O O OC)<|RL.step (d:=none) O O (aF sz4 O O O O OC)<|Z2 O O O<|Gt O<|⟨[(6,.ptr 0 0)],o6R J (wdN D) σ now2 (ba M2) (bM M2) (jQ (fl bG J P CS σ2)),[xg (fl bG J P CS σ2)],o6N J (wdN D) σ now2 (ba M2) (bM M2),1,Io (aS O) ⟨OD,OD,af (fun c=>some (Ob.cells 4 c)) h3,OD,OD,OD,OD,OK⟩ O O,O,⟨aY ⟨_,underlying91,O⟩ lK O O O,OK⟩,O,O,yL _ _ _ _ _ _ _,OE,now2,M2,hun _ hn2,hM2,O,O⟩
theorem EK (J:JD) (P:List Int) (D:VD) (h:CtxV J P D):∀ (k v:Nat),v<P.length->P.length<=k+(bp P v).length+1->oi J P D v/\kU J P D v:=by
 have hP:=h.ord.dP;intro k;induction k with
 | zero=>
   intro v hv hk;have hb:=jr J P D h v hv fun c hc hp=>by
    have:=lu hP hc;rw [bO hP hc hv hp,qU] at this;omega
   exact ⟨mj J P D h v hv hb,hb⟩
 | succ k ih=>
   intro v hv hk;have hb:=jr J P D h v hv fun c hc hp=>(ih c hc (by rw [bO hP hc hv hp,qU];omega)).1
   exact ⟨mj J P D h v hv hb,hb⟩
theorem BI (J:JD) (P:List Int) (D:VD) (h:CtxV J P D) (v:Nat) (hv:v<P.length):oi J P D v:=(EK J P D h P.length v hv OC).1
end
section
open Mk Jn
theorem rG (J:JD) (P:List Int) (D:VD) (h:CtxV J P D) (σ:Asg ByteArray) (now:List ByteArray) (mk mv:List PV):FnO Tryz.prog 187 6 0 [.ptr big 0] (o6N J (wdN D) σ now mk mv) (fun v ob'=>v= .pv (ak (bq P (-1)))/\ob'=ar (o6N J (wdN D) σ now mk mv)):=by
 refine FnO.of func187 O ntmps187 OG fun m0 w0 F R0=>?_
 have hvc:P.length<D.chs.length:=by rw [h.chl];omega
 have hcv:=cM hvc;have hcn:=cQ hvc;rw [h.xZ] at hcv;have hcl:=h.chl;have hn64:=h.n64;refine Z1 O O<|Ge O follows [0,1,2,3,4,5,6,7,8,9,10,11,12,13,14] OD ?_;iterate 12 refine D1 O O ?_
 refine Ds 15 [] O O O (fun τ h=>ag P.length underlying142 ly (Ee h 0 O O) (Ee h 1 O O) OC hvc hcn) O OD<|Ds 16 [] O O O (fun τ h=>ai ⟨_,underlying22,O⟩ (Ee h 0 O O) hcv) O OD<|D1 O O ?_;refine ⟨OD,?_⟩;exact Gt O<|⟨[(2,.pv (ak (bq P (-1))))],o6N J (wdN D) σ now mk mv,[.pv (ak (bq P (-1)))],Io (aS O) (aO O) O O,O,O,O,O,O⟩
theorem rT (J:JD) (P:List Int) (D:VD) (h:CtxV J P D) (σ:Asg ByteArray) (hσ:∀ a,σ a=none) (now:List ByteArray) (M:List (ByteArray×Nat)) (hn:NowOk J.S.attrs.length σ now) (hM:iz bG J P M):FnO Tryz.prog 138 6 0 [.ptr big 0] (o6N J (wdN D) σ now (ba M) (bM M)) (QKN J P D σ (fl bG J P (bq P (-1)) σ)):=by
 refine FnO.ofC func138 O ntmps138 OG fun m0 w0 F R0=>?_
 have hP:=h.ord.dP;have hn64:=h.n64;have hroots:=rG J P D h σ now (ba M) (bM M);have hkid:∀ c∈bq P (-1),∃ m:Nat,m<P.length/\c=(m:Int)/\P.getD m 0= -1:=fun c hc=>aX.1 hc
 have hcl:(bq P (-1)).length<=64:=uv (uv (IE ..) (by rw [a8];exact qT _)) hn64;have hview:=fun (c:Nat) (hc:c<P.length) (hp:P.getD c 0= -1) now2 M2 h2 h3=>BI J P D h c hc σ now2 M2 ⟨fun a ha=>by rw [eJ hc (by rw [<-getD_at hc];exact hp)] at ha;simp at ha,fun a _=>hσ a⟩ (fun a x e=>by rw [hσ] at e;cases e) (fun a x e=>by rw [hσ] at e;cases e) h2 h3
 have hfn:=uO bG J P σ;have hft:=fun (cs:List Int) (k:Nat) (hk:k<cs.length)=>oG bG J P σ hk
 have hkb:=fun k=>ig (Cd h.t12 hP _ (List.take_prefix k (bq P (-1))) σ) OC
 have hvb:=fun (c:Nat) (hc:c<P.length)=>ig (Ed h.t12 hP hc σ) OC
 generalize bq P (-1)=CS at*;refine Z1 O O<|Gr O ?_;iterate 7 refine A1 O ?_
 refine Z1 O O<|Rs 12 O O (ah [big,9001,9002,9003,9004,9005] 2 call187 hroots O O O O ⟨O,O,O,O,O,O,OK⟩ OE O)<|Y2 O O ?_;refine Gl O (st:=fun x_0:Nat×List ByteArray×List (ByteArray×Nat)=>mkS [(0,.ptr big 0),(2,.ptr 0 0),(3,.ptr 1 0),(12,.pv (ak CS)),(13,.pv (.int .i64 CS.length)),(14,.pv (.int .i64 x_0.1))] [(big,oN (wdN D) 9004 9001 J.S.attrs.length 9002 9003),(0,.mix 91 [.pv (.bool false),.pv nS]),(1,jQ (fl bG J P (CS.take x_0.1) σ)),(9001,.cells 9 (aA x_0.2.1)),(9002,.cells 4 (ay (stL σ J.S.attrs.length))),(9003,.mp (ba x_0.2.2) (bM x_0.2.2)),(9004,oX2 J 9005),(9005,.mp J.pk J.pv)] 2)
  (I:=fun x_0=>x_0.1<=CS.length/\NowOk J.S.attrs.length σ x_0.2.1/\iz bG J P x_0.2.2) (μ:=fun x_0=>CS.length-x_0.1) (x0:=(0,now,M)) (Io (aS O) ⟨OD,OD,ry (b:=some (jQ bG.one)) OD (af (fun b=>some (jQ b)) hfn.symm),OD,OD,OD,OD,OD,OK⟩ O O) (⟨eF _,hn,hM⟩) ?_
 rintro ⟨k4,now2,M2⟩ ⟨hk4,hn2,hM2⟩;try simp only at hk4 hn2 hM2 ⊢
 refine Z1 O O ?_;refine Gp O O (fun hc15=>?_) (fun hc15=>?_)
 ·have hlt4:k4<CS.length:=OC;obtain ⟨c,hc,hce,hcp⟩:=hkid _ (aJ hlt4);have hpv4:(aE CS)[k4*1]? =some (.int .i64 (c:Int)):=by rw [<-hce];simp [hlt4]
  have hpn4:=aH hlt4;have hvk:=hview c hc hcp now2 M2 hn2 hM2;have htk:=hft CS k4 hlt4;have hmm:=th _ _ (hkb k4) (hvb c hc);rw [hce] at htk;generalize hag:fl bG J P (CS.take k4) σ=acc at*;refine Il<|Z1 O O<|Rs 17 O O (ai ⟨_,underlying3,O⟩ O hpv4)<|A1 O<|Ge O follows [0,1,2,3,4,5,6,7,8,9,10] OD ?_;iterate 8 refine D1 O O ?_
  refine DL.rel (RV (RBN J P σ (fv bG J P c σ))) [9001,9003] [] [big,9001,9002,9003,9004,9005] O O O (fun τ h=>Gh call188 hvk zN (h.args.trans O) O O ⟨Eo h 0 O O,Eo h 1 O O,Eo h 2 O O,Eo h 3 O O,Eo h 4 O O,Eo h 5 O O,OK⟩) O OD OD OD ?_;rintro _ ⟨_,_,_,⟨now3,M3,hn3,hM3,rfl,rfl,rfl⟩,rfl⟩ _ _;refine Ds 27 [] O O O (fun τ h=>bb call87 (Ee h 0 O O) hmm (h.jv O)) O OD<|D1 O O ?_;refine ⟨OD,?_⟩;exact Z2 O O O<|⟨(k4+1,now3,M3),Io (aS O) ⟨OD,OD,ry (b:=some (jQ (bG.mul acc (fv bG J P c σ)))) OD (af (fun b=>some (jQ b)) htk.symm),OD,OD,OD,OD,OD,OK⟩ O O,⟨OC,hn3,hM3⟩,OI⟩
 ·rw [show CS.take k4=CS from bk OC];exact Gx O<|Z2 O O O<|Gt O<|⟨[(2,.ptr 0 0)],o6R J (wdN D) σ now2 (ba M2) (bM M2) (jQ (fl bG J P CS σ)),[xg (fl bG J P CS σ)],o6N J (wdN D) σ now2 (ba M2) (bM M2),1,Io (aS O) (aO OD) O O,O,⟨aY ⟨_,underlying91,O⟩ lK O O O,OK⟩,O,O,yL _ _ _ _ _ _ _,OE,now2,M2,hn2,hM2,O,O⟩
end
end Go.Proofs.YtedfonppffochaaGreatDoor
