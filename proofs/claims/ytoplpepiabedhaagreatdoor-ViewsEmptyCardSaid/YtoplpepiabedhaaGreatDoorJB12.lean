/- Lemmas. No condition. -/
import Derived.Test.YtoplpepiabedhaaGreatDoorJB11
set_option maxRecDepth 100000
set_option maxHeartbeats 4000000
open Go.RowKit Go.Proofs.Tryz
namespace Go.Proofs.YtoplpepiabedhaaGreatDoor
section
open Mk Jn
theorem vJ{σ:St}{T:TypeId}{ls:List (List PV)}{U nw:Nat}(hU:U<ls.length)(x:PV)(h0:σ.ob nw=some (.gro T (ls[U]++[x])))(hr:∀j,j<ls.length->j≠U->σ.ob (j+1000)=some (.gro T (ls.getD j []))):
  ∀j (h:j<(ls.set U (ls[U]++[x])).length),σ.ob (rnF U nw (j+1000))=some (.gro T ((ls.set U (ls[U]++[x]))[j])):=by
 intro j h;rw[PO]at h;by_cases e:j=U
 ·subst e;rw[yF,h0];simp
 ·rw[cz Ts,hr j h e,List.getElem_set_ne Ts];simp[List.getD,h]
theorem qH{σ:St}{A:Nat}{TA T:TypeId}{cells:List V}{ls:List (List PV)}(hA:A<1000){j:Nat}(h:j<ls.length):(ovl σ A TA T cells ls).ob (j+1000)=some (.gro T (ls.getD j [])):=by
 rw[cE hA h];simp[List.getD,h]
theorem x9{S:Sch}{G:List B64}(hV:Valid S)(hG:IsG S G){a:Int}{i:Nat}(h:fa S a (i:Int)=true):i<G.length:=by
 unfold fa at h;obtain⟨r,hr,h2⟩:=Qy.1 h;simp only[sh,Po]at h2;have:=(hV.rng r hr _ h2.2).2;rw[hG.len];omega
theorem rU{S:Sch}{G:List B64}(hV:Valid S)(hG:IsG S G)(P:List Int)(hPl:P.length=G.length):∀(k:Nat)(v:Nat),v<G.length->InB G.length (gP P G k v)
 | 0,v,hv=>fun i hi=>by
   unfold gP at hi;rw[Pz,hG.bit v hv i,sh]at hi;exact x9 hV hG hi.2
 | k+1,v,hv=>by
   unfold gP;refine qV _ _ (fun i hi=>?_) fun c hc=>?_
   ·rw[Pz,hG.bit v hv i,sh]at hi;exact x9 hV hG hi.2
   ·obtain⟨m,hm,rfl,_⟩:=a7.1 hc;exact rU hV hG P hPl k m Ts
theorem CU(n:Nat)(hn:n<=12){S:Sch}(hV:Valid S)(G:List B64)(hG:IsG S G)(hGn:G.length=n)(P:List Int)(hP:UpOk P)(hPl:P.length=n)(chs:List (List Int))(hcl:chs.length=n+1)(hch:∀v (h:v<n),chs[v]'Ts=aA P v)(hs:List PV):∀(k v:Nat)(_:v<n)(_:n<=k+(bP P v).length+1)(ab:B64)(L D:List Int)(K:List (List Int)),D.length=n->K.length=n->L.length+(jx P k v).length<=1000->
  FnO prog 113 7 2 (layA G v ab) (Km n G chs 9003 L D K hs) (fun r ob'=>r= .pv (fF (gP P G k v))/\ob'=ax (Km n G chs 1 (L++jx P k v) (bH D (uU P k v ab)) (bH K (jb P G n k v ab)) hs)):=by
 have hgd:∀v (h:v<G.length),G.getD v 0#64=G[v]:=fun v h=>by simp[List.getD,h]
 have hinG:∀v (h:v<G.length),InB n G[v]:=fun v h=>by
  have:=rU hV hG P Ts 0 v h;rw[gP,Pz,hgd v h,hGn]at this;exact this
 have hkl:∀v,(aA P v).length<=64:=fun v=>IS (Re ..) (by rw[aW];omega)
 intro k;induction k with
 | zero=>
   intro v hv hf ab L D K hD hK hL;have hlf:aA P v=[]:=oF hP Ts Ts;have h1:=pH n hn G hGn chs Ts v hv Ts [] (by rw[hch v hv,hlf]) Tw Tw ab (fun _=>0#64) (fun _=>[]) (fun _=>[]) (fun _=>[]) (hinG v Ts) Tw hs Tw L D K hD hK (by simp[jx]at hL ⊢; omega);have e1:gP P G 0 (v:Int)=G[v]'Ts:=by rw[gP,Pz,hgd v Ts]
   rw[jx,uU,jb,e1,Pz];exact h1
 | succ k ih=>
   intro v hv hf ab L D K hD hK hL;have hkid:∀c∈aA P v,∃m:Nat,m<n/\c=(m:Int)/\P.getD m 0=(v:Int):=fun c hc=>by
    obtain⟨m,hm,e,hp⟩:=a7.1 hc;exact⟨m,Ts,e,hp⟩
   have h1:=pH n hn G hGn chs Ts v hv Ts (aA P v) (hch v hv) (hkl v) (fun c hc=>by obtain⟨m,_,e,_⟩:=hkid c hc;exact⟨m,e⟩) ab (gP P G k) (jx P k) (fun c=>uU P k c (ab|||BitVec.twoPow 64 v)) (fun c=>jb P G n k c (ab|||BitVec.twoPow 64 v)) (hinG v Ts) (fun c hc=>by
     obtain⟨m,hm,rfl,_⟩:=hkid c hc;have:=rU hV hG P Ts k m Ts;rwa [hGn]at this) hs (fun c hc L' D' K' hD' hK' hL'=>by
     obtain⟨m,hm,rfl,hp⟩:=hkid c hc;exact ih m hm (by rw[dN hP Ts Ts hp,Pd];omega) _ L' D' K' hD' hK' hL') L D K hD hK (by unfold jx at hL;simp only[Pd]at hL;omega)
   have e1:gP P G (k+1) (v:Int)=(aA P v).foldl (fun z c=>z|||gP P G k c) (G[v]'Ts):=by rw[gP,Pz,hgd v Ts]
   rw[jx,uU,jb,e1,ga,Pz];exact h1
theorem yb{l:List (Nat×V)}{os:List (Nat×Ob)}{k:Nat}(h1:l.all (fun p=>p.2.all fun i=>Nat.blt i 1000)=true)(h2:os.all (fun p=>Nat.blt p.1 1000&&p.2.all fun i=>Nat.blt i 1000)=true):(∀t,((mkS l os k).sl t).all (fun i=>Nat.blt i 1000)=true)/\∀i o,(mkS l os k).ob i=some o->i<1000/\o.all (fun i=>Nat.blt i 1000)=true:=by
 constructor
 ·intro t;show(look l t).all _=true;clear h2;induction l with
  |nil=>rfl
  | cons p l ih=>
    simp only[RB,sh]at h1;obtain⟨d,v⟩:=p;simp only[look];cases Nat.beq t d with
    |true=>exact h1.1
    |false=>exact ih h1.2
 ·intro i o h;have hm:=IN.1 h2 _ (bu h);rw[sh]at hm;exact⟨FH hm.1,hm.2⟩
theorem qY(P:List Int):∀(k:Nat)(v:Int),jx P k v=(cw P k v).vs
 |0,v=>by rw[jx,cw,Tr.vs,vsL]
 | k+1,v=>by
   rw[jx,cw,Tr.vs,fc,Sa];rw[show jx P k=fun c=>(cw P k c).vs from funext (qY P k)]
theorem qw{P:List Int}:(aA P (-1)).flatMap (jx P P.length)=aH P:=by
 rw[<-oa,fc,Sa,show jx P P.length=fun c=>(cw P P.length c).vs from funext (qY P P.length)]
def lr(S:Sch)(P:List Int)(G:List B64):VD where
 chs:=lsT P P.length
 kes:=bH (List.replicate G.length []) ((aA P (-1)).flatMap fun c=>jb P G G.length P.length c 0#64)
 hos:=hsT G.length (hpL (bH (List.replicate G.length 0) ((aA P (-1)).flatMap fun c=>uU P P.length c 0#64)) S) S.rels.length
 wa:=aH P
abbrev zw(D:VD):PV:= .agg [ba D.chs,ba D.kes,ba D.hos,ai D.wa]
theorem LO{S:Sch}{P:List Int}{G:List B64}{k i:Nat}{H M CS D2:List Int}{K2:List (List Int)}(hkP:k=P.length)(hie:i=S.rels.length)(hH:hpL D2 S=H)(hM:M=CS.flatMap (jx P P.length))(hCS:aA P (-1)=CS)(hD2:D2=bH (List.replicate G.length 0) (CS.flatMap fun c=>uU P P.length c 0#64))
  (hK2:K2=bH (List.replicate G.length []) (CS.flatMap fun c=>jb P G G.length P.length c 0#64)) (hKl:K2.length=G.length):PV.agg [ba (lsT P k),.sl none G.length (K2.map ai),.sl none G.length ((hsT G.length H i).map ai),ai M]=zw (lr S P G):=by
 have e1:(lr S P G).kes=K2:=by rw[hK2,<-hCS];rfl
 have e2:(lr S P G).wa=M:=by rw[hM,<-hCS,qw];rfl
 have e3:(lr S P G).hos=hsT G.length H i:=by rw[<-hH,hie,hD2,<-hCS];rfl
 have e4:(lr S P G).chs=lsT P k:=by rw[hkP];rfl
 unfold zw;rw[e1,e2,e3,e4];unfold ba;rw[hKl,cU]
theorem N3(n:Nat):PV.fgL (List.replicate n nS)=(List.replicate n ([]:List Int)).map ai:=by
 induction n with
 |zero=>rfl
 |succ n ih=>rw[Ss,Ss,PV.fgL,ih,bL];rfl
theorem Hw(S:Sch)(hS:SB S)(P:List Int)(hO:OrdOk S P):FnP prog 46 [eZ S,lR P] (fun v=>∃G,IsG S G/\v=zw (lr S P G)):=by
 refine FnP.ofC func46 O ntmps46 Tw fun m0 w0 F R0=>?_
 have hV:=hO.val;have hP:=hO.jo;have hPl:=hO.len;have hn12:=hV.n2;refine Z3 O O O O<|Z1 O O ?_;refine RL.call O (jz call112 (Ao S hS hV) O ?_);rintro _ ⟨G,rfl,hG⟩;have hGl:=hG.len;refine Y2 O O<|Z3 O O O O<|Ge O follows [0,1,2,3,4,5,6,7,8,9] Tt ?_;iterate 10 refine D1 O O ?_
 refine⟨Tt,?_⟩;refine Wk [(2,.ptr 0 0),(3,.ptr 1 0),(4,.ptr 2 0),(5,.ptr 3 0),(6,pIi G.length),(7,.ptr 7 0)] [(0,oZ S),(1,.mix 32 [.pv (ai P)]),(2,.mix 97 [.pv nS,.pv nS,.pv nS,.pv nS]),(3,.mix 202 [.pv (jd G)]),(4,.cells 22 (List.replicate (G.length+1) nS)),(5,.cells 22 (List.replicate G.length nS)),(6,.cells 22 (List.replicate G.length nS)),(7,.mix 97 [.osl 4 1 (G.length+1),.osl 5 1 G.length,.osl 6 1 G.length,.pv nS])] 8 (aS O) ⟨O,O,O,O,ag (fun c=>some (Ob.cells 22 c)) ((ck nS ((G.length+1)*1)).trans (by rw[PX])),ag (fun c=>some (Ob.cells 22 c)) ((ck nS (G.length*1)).trans (by rw[PX])),ag (fun c=>some (Ob.cells 22 c)) ((ck nS (G.length*1)).trans (by rw[PX])),O,TB⟩ O O<|OT (St.uy 4 O)<|OT (St.Du (A:=4) (TA:=22) 3 (G.length+1) (ag (fun c=>some (Ob.mix 22 c)) Tw) Tu Ts (fun i h1 h2=>CH Tu h1 h2))<|Z4 O O O O O ?_;refine Gl O (st:=fun TC:Nat=>ovl (mkS [(2,.ptr 0 0),(4,.ptr 2 0),(5,.ptr 3 0),(6,pIi G.length),(7,.ptr 7 0),(32,.pv (ai P)),(33,pIi P.length),(34,pIi TC)] [(0,oZ S),(2,.mix 97 [.pv nS,.pv nS,.pv nS,.pv nS]),(3,.mix 202 [.pv (jd G)]),(5,.cells 22 (List.replicate G.length nS)),(6,.cells 22 (List.replicate G.length nS)),(7,.mix 97 [.osl 4 1 (G.length+1),.osl 5 1 G.length,.osl 6 1 G.length,.pv nS])] 8) 4 22 3 (chV (lsP (lsT P TC))) (lsP (lsT P TC)))
  (I:=fun TC=>TC<=P.length) (μ:=fun TC=>P.length-TC) (x0:=(0)) (St.fB 1000 999 (aT O) (aP Tt) (ag (fun c=>some (Ob.mix 22 c)) (by rw[gD 999 (by rw[dm,cB];omega),xG,hPl,hGl];unfold lsP;rw[List.map_replicate];rfl)) (fun j hj=>by rw[dm,cB]at hj;rw[cz Ts];refine(cE (A:=4) (TA:=22) (cells:=chV (List.replicate (G.length+1) [])) (ls:=List.replicate (G.length+1) []) Tu (by rw[Rf];omega)).trans ?_;simp[xG,lsP]) O O Tu Tu Tu Tu (by rw[dm,cB];omega)) (cd _) ?_
 rintro k hk;refine Z1 O O ?_;refine Gp O O (fun hc35=>?_) (fun hc35=>?_)
 ·have hlt:k<P.length:=Ts;have hpn:=aE hlt;have hpv:=aQ hlt;have hpr:=hP.rng _ (ar hlt);have hlen:(lsP (lsT P k)).length=G.length+1:=by rw[dm,cB];omega
  have hlb:=fun U (h:U<(lsP (lsT P k)).length)=>M9 P k h
  generalize hls:lsP (lsT P k)=ls at*;refine OR<|Z2 O O O ?_;first|refine A2 O Tv ?_|refine A1 O ?_
  refine Y2 O O<|Z2 O O O ?_;refine Gp O O (fun hc40=>?_) (fun hc40=>?_)
  ·have hm1:P[k]= -1:=Ts;have hUl:G.length<ls.length:=Ts;have hnx:lsP (lsT P (k+1))=ls.set (G.length) (ls[G.length]++[.int .i64 k]):=by have h5:G.length<(lsT P k).length:=(by rw[cB];omega);rw[yy hO.rng hlt (G.length) (.inl ⟨hm1,Ts⟩),wv _ _ h5];subst hls;rfl
   have hld:=BN hUl;have hlbU:=hlb _ hUl;have hsto:(G.length)*1+1<=(chV ls).length:=by rw[iz];omega
   refine Z2 O O O<|Ge O follows [0,1,2,3,4,5,6,7,8,9,10,11,12] Tt ?_;iterate 6 refine D1 O O ?_
   refine Ds 48 [_] O O O (fun τ h=>aq (G.length) underlying95 pN (Ee h 0 O O) (Eo h 0 O O) (Ee h 1 O O) O Ts) O Tt<|Ds 49 [_] O O O (fun τ h=>mg ⟨_,underlying22,O⟩ (Ee h 0 O O) (Eo h 0 O O) hld) O Tt ?_;iterate 2 refine D1 O O ?_
   refine Ds 52 [(G.length)+1000,8] O O O (fun τ h=>gG 9 vL (Ee h 0 O O) ((h.o 0 _ O).trans (PG (b:=(ovl (mkS [(2,.ptr 0 0),(4,.ptr 2 0),(5,.ptr 3 0),(6,pIi G.length),(7,.ptr 7 0),(32,.pv (ai P)),(33,pIi P.length),(34,pIi k)] [(0,oZ S),(2,.mix 97 [.pv nS,.pv nS,.pv nS,.pv nS]),(3,.mix 202 [.pv (jd G)]),(5,.cells 22 (List.replicate G.length nS)),(6,.cells 22 (List.replicate G.length nS)),(7,.mix 97 [.osl 4 1 (G.length+1),.osl 5 1 G.length,.osl 6 1 G.length,.pv nS])] 8) 4 22 3 (chV (ls)) (ls)).ob (G.length+1000)) Tt (cE Tu hUl))) (PX _).symm (Ee h 1 O O) (Eo h 1 O O) O O Ts (h.n 0 _ O)) O Tt<|Ds 53 [_] O O O (fun τ h=>aq (G.length) underlying95 pN (Ee h 0 O O) (Eo h 0 O O) (Ee h 1 O O) O Ts) O Tt<|DL.step (d:=none) [_] O O O (fun τ h=>l9 pN (Ee h 0 O O) (Eo h 0 O O) (Ee h 1 O O) O hsto O O) O Tt ?_;refine⟨Tt,?_⟩;exact Z2 O O O<|⟨(k+1),(by rw[hnx];exact St.fB (G.length) 9 (aT O) (aP Tt) (PG (b:=some (.mix 22 (fy (chV ls) ((G.length)*1) [.gsl 9 1 (ls[G.length].length+1)]))) Tt (ag (fun c=>some (Ob.mix 22 c)) ((rO _ _ _ (by rw[iz];omega)).trans (ns hUl 9 _).symm))) (vJ hUl _ Tt (fun j hj hne=>PG (b:=bif Nat.beq (j+1000) (G.length+1000)then(none:Option Ob)else(ovl (mkS [(2,.ptr 0 0),(4,.ptr 2 0),(5,.ptr 3 0),(6,pIi G.length),(7,.ptr 7 0),(32,.pv (ai P)),(33,pIi P.length),(34,pIi k)] [(0,oZ S),(2,.mix 97 [.pv nS,.pv nS,.pv nS,.pv nS]),(3,.mix 202 [.pv (jd G)]),(5,.cells 22 (List.replicate G.length nS)),(6,.cells 22 (List.replicate G.length nS)),(7,.mix 97 [.osl 4 1 (G.length+1),.osl 5 1 G.length,.osl 6 1 G.length,.pv nS])] 8) 4 22 3 (chV (ls)) (ls)).ob (j+1000)) Tt (by rw[Dj Ts,PE];exact qH Tu hj))) O O Tu Tu Tu Ts (by rw[PO];omega)),Ts,Ts⟩
  ·obtain⟨a,ha⟩:=Bb (show 0<=P[k] by omega);have hUl:a<ls.length:=Ts;have hnx:lsP (lsT P (k+1))=ls.set (a) (ls[a]++[.int .i64 k]):=by have h5:a<(lsT P k).length:=(by rw[cB];omega);rw[yy hO.rng hlt (a) (.inr ⟨ha,Ts⟩),wv _ _ h5];subst hls;rfl
   have hld:=BN hUl;have hlbU:=hlb _ hUl;have hsto:(a)*1+1<=(chV ls).length:=by rw[iz];omega
   refine OR ?_;rw[ha];refine Ge O follows [0,1,2,3,4,5,6,7,8,9,10,11,12] Tt ?_;iterate 6 refine D1 O O ?_
   refine Ds 48 [_] O O O (fun τ h=>aq (a) underlying95 pN (Ee h 0 O O) (Eo h 0 O O) (Ee h 1 O O) O Ts) O Tt<|Ds 49 [_] O O O (fun τ h=>mg ⟨_,underlying22,O⟩ (Ee h 0 O O) (Eo h 0 O O) hld) O Tt ?_;iterate 2 refine D1 O O ?_
   refine Ds 52 [(a)+1000,8] O O O (fun τ h=>gG 9 vL (Ee h 0 O O) ((h.o 0 _ O).trans (PG (b:=(ovl (mkS [(2,.ptr 0 0),(4,.ptr 2 0),(5,.ptr 3 0),(6,pIi G.length),(7,.ptr 7 0),(32,.pv (ai P)),(33,pIi P.length),(34,pIi k)] [(0,oZ S),(2,.mix 97 [.pv nS,.pv nS,.pv nS,.pv nS]),(3,.mix 202 [.pv (jd G)]),(5,.cells 22 (List.replicate G.length nS)),(6,.cells 22 (List.replicate G.length nS)),(7,.mix 97 [.osl 4 1 (G.length+1),.osl 5 1 G.length,.osl 6 1 G.length,.pv nS])] 8) 4 22 3 (chV (ls)) (ls)).ob (a+1000)) Tt (cE Tu hUl))) (PX _).symm (Ee h 1 O O) (Eo h 1 O O) O O Ts (h.n 0 _ O)) O Tt<|Ds 53 [_] O O O (fun τ h=>aq (a) underlying95 pN (Ee h 0 O O) (Eo h 0 O O) (Ee h 1 O O) O Ts) O Tt<|DL.step (d:=none) [_] O O O (fun τ h=>l9 pN (Ee h 0 O O) (Eo h 0 O O) (Ee h 1 O O) O hsto O O) O Tt ?_;refine⟨Tt,?_⟩;exact Z2 O O O<|⟨(k+1),(by rw[hnx];exact St.fB (a) 9 (aT O) (aP Tt) (PG (b:=some (.mix 22 (fy (chV ls) ((a)*1) [.gsl 9 1 (ls[a].length+1)]))) Tt (ag (fun c=>some (Ob.mix 22 c)) ((rO _ _ _ (by rw[iz];omega)).trans (ns hUl 9 _).symm))) (vJ hUl _ Tt (fun j hj hne=>PG (b:=bif Nat.beq (j+1000) (a+1000)then(none:Option Ob)else(ovl (mkS [(2,.ptr 0 0),(4,.ptr 2 0),(5,.ptr 3 0),(6,pIi G.length),(7,.ptr 7 0),(32,.pv (ai P)),(33,pIi P.length),(34,pIi k)] [(0,oZ S),(2,.mix 97 [.pv nS,.pv nS,.pv nS,.pv nS]),(3,.mix 202 [.pv (jd G)]),(5,.cells 22 (List.replicate G.length nS)),(6,.cells 22 (List.replicate G.length nS)),(7,.mix 97 [.osl 4 1 (G.length+1),.osl 5 1 G.length,.osl 6 1 G.length,.pv nS])] 8) 4 22 3 (chV (ls)) (ls)).ob (j+1000)) Tt (by rw[Dj Ts,PE];exact qH Tu hj))) O O Tu Tu Tu Ts (by rw[PO];omega)),Ts,Ts⟩
 ·have hkP:k=P.length:=Ts;have hlen:(lsP (lsT P k)).length=G.length+1:=by rw[dm,cB];omega
  have hLl:(lsT P k).length=G.length+1:=by rw[cB];omega
  have hcp:chP (lsP (lsT P k))=((lsT P k).map ai).map V.pv:=by rw[BX,Q3];rfl
  generalize hls:lsP (lsT P k)=ls at*;refine OT (St.fB (l:=[(2,.ptr 0 0),(4,.ptr 2 0),(5,.ptr 3 0),(6,pIi G.length),(7,.ptr 7 0)]) (os:=[(0,oZ S),(2,.mix 97 [.pv nS,.pv nS,.pv nS,.pv nS]),(3,.mix 202 [.pv (jd G)]),(5,.cells 22 (List.replicate G.length nS)),(6,.cells 22 (List.replicate G.length nS)),(7,.mix 97 [.osl 4 1 (G.length+1),.osl 5 1 G.length,.osl 6 1 G.length,.pv nS])]) (k:=8) (A:=4) (TA:=22) (T:=3) (ls:=ls) 1000 999 (aT Tt) (aP Tt) (PG (b:=some (.mix 22 (chV ls))) Tt (by rw[gD 999 Ts])) (fun j hj=>by rw[cz Ts];exact PG (b:=(ovl (mkS [(2,.ptr 0 0),(4,.ptr 2 0),(5,.ptr 3 0),(6,pIi G.length),(7,.ptr 7 0),(32,.pv (ai P)),(33,pIi P.length),(34,pIi k)] [(0,oZ S),(2,.mix 97 [.pv nS,.pv nS,.pv nS,.pv nS]),(3,.mix 202 [.pv (jd G)]),(5,.cells 22 (List.replicate G.length nS)),(6,.cells 22 (List.replicate G.length nS)),(7,.mix 97 [.osl 4 1 (G.length+1),.osl 5 1 G.length,.osl 6 1 G.length,.pv nS])] 8) 4 22 3 (chV (ls)) (ls)).ob (j+1000)) Tt (cE Tu hj)) O O Tu Tu Tu Tu Ts) ?_;have hsm:=yb (l:=[(2,.ptr 0 0),(4,.ptr 2 0),(5,.ptr 3 0),(6,pIi G.length),(7,.ptr 7 0)]) (os:=[(0,oZ S),(2,.mix 97 [.pv nS,.pv nS,.pv nS,.pv nS]),(3,.mix 202 [.pv (jd G)]),(5,.cells 22 (List.replicate G.length nS)),(6,.cells 22 (List.replicate G.length nS)),(7,.mix 97 [.osl 4 1 (G.length+1),.osl 5 1 G.length,.osl 6 1 G.length,.pv nS])]) (k:=8) O O;refine OT (St.A6 ls Tu Ts hsm.1 hsm.2)<|OT (St.Bi (id:=4) (cs:=(lsT P k).map ai) O hcp)<|OT (OU (l:=[(2,.ptr 0 0),(4,.ptr 2 0),(5,.ptr 3 0),(6,pIi G.length),(7,.ptr 7 0)]) (os:=(4,.cells 22 ((lsT P k).map ai))::[(0,oZ S),(2,.mix 97 [.pv nS,.pv nS,.pv nS,.pv nS]),(3,.mix 202 [.pv (jd G)]),(5,.cells 22 (List.replicate G.length nS)),(6,.cells 22 (List.replicate G.length nS)),(7,.mix 97 [.osl 4 1 (G.length+1),.osl 5 1 G.length,.osl 6 1 G.length,.pv nS])]) (k:=8) (aS Tt) (aO Tt) O O)<|OT (St.c8 7 3 8 1 3 O O O)<|OT (OX 4 O O)<|OT (St.J1 7 O)<|OT (St.JP (id:=5) O)<|Wk [(2,.ptr 0 0),(4,.ptr 2 0),(5,.ptr 3 0),(6,pIi G.length),(7,.ptr 7 0)] [(0,oZ S),(2,.mix 97 [.pv nS,.pv nS,.pv nS,.pv nS]),(3,.mix 202 [.pv (jd G)]),(5,.cells 22 ((List.replicate G.length ([]:List Int)).map ai)),(6,.cells 22 (List.replicate G.length nS)),(7,.mix 97 [.pv (ba (lsT P k)),.osl 5 1 G.length,.osl 6 1 G.length,.gsl 8 1 0]),(8,.gro 3 (aF []))] 9 (aS Tt) ⟨Tt,Tt,Tt,PG (b:=some (.cells 22 (PV.fgL (List.replicate G.length nS)))) Tt (ag (fun c=>some (Ob.cells 22 c)) (N3 _)),Tt,PG (b:=some (.mix 97 [.pv (.sl none (G.length+1) ((lsT P k).map ai)),.osl 5 1 G.length,.osl 6 1 G.length,.gsl 8 1 0])) Tt (ag (fun q=>some (Ob.mix 97 [.pv (.sl none q ((lsT P k).map ai)),.osl 5 1 G.length,.osl 6 1 G.length,.gsl 8 1 0])) hLl.symm),Tt,TB⟩ O O ?_;clear hls hcp hlen;have hCl:(aA P (-1)).length<=64:=IS (Re ..) (by rw[aW];omega);have hCm:∀c∈aA P (-1),∃m:Nat,m<G.length/\c=(m:Int)/\P.getD m 0= -1:=fun c hc=>by obtain⟨m,hm,e,hp⟩:=a7.1 hc;exact⟨m,Ts,e,hp⟩
  have hrl:G.length<(lsT P k).length:=Ts;have hrv:=fo hrl;have hrn:=fu hrl;have hroot:(lsT P k)[G.length]=aA P (-1):=by have h5:=iH P k;rw[hkP,jP]at h5;simp only[hkP,hGl,<-hPl];exact h5
  rw[hroot]at hrv;have hch:∀v (h:v<G.length),(lsT P k)[v]'Ts=aA P v:=fun v h=>by have h5:=pT P k (i:=v) Ts;rw[h5,hkP,jP]
  have hvis:=fun(m:Nat)(hm:m<G.length)(hr:P.getD m 0= -1)=>CU G.length Ts hV G hG O P hP Ts (lsT P k) hLl hch (List.replicate G.length nS) P.length m hm Ts 0#64
  have hvl:((aA P (-1)).flatMap (jx P P.length)).length<=12:=by rw[qw,C3 hP];omega
  generalize hCS:aA P (-1)=CS at*;refine Gx O<|Z4 O O O O O<|Z1 O O<|OT (St.iB 3 O O)<|Z2 O O O<|Z3 O O O O<|Rs 61 O O (ae G.length underlying95 pN O O O hrl hrn)<|Rs 62 O O (au ⟨_,underlying22,O⟩ O hrv)<|Y2 O O ?_;refine Gl O (st:=fun x_1:Nat×List Int×List Int×List (List Int)=>mkS [(2,.ptr 0 0),(4,.ptr 2 0),(7,.ptr 7 0),(10,.ptr 10 0),(11,.ptr 11 0),(62,.pv (ai CS)),(63,pIi CS.length),(64,pIi x_1.1)] [(0,oZ S),(2,.mix 97 [.pv nS,.pv nS,.pv nS,.pv nS]),(5,.cells 22 (x_1.2.2.2.map ai)),(6,.cells 22 (List.replicate G.length nS)),(7,.mix 97 [.pv (ba ((lsT P k))),.osl 5 1 G.length,.osl 6 1 G.length,.gsl 8 1 x_1.2.1.length]),(8,.gro 3 (aF x_1.2.1)),(9,.cells 3 (aF x_1.2.2.1)),(10,.mix 22 [.osl 9 1 G.length]),(11,.mix 204 [.fn (.func 113) [] [.ptr 7 0,.ptr 10 0,.pv (.rp [jd G] 0),.ptr 11 0]])] 12)
   (I:=fun x_1=>(x_1.1<=CS.length/\x_1.2.1=(CS.take x_1.1).flatMap (jx P P.length))/\x_1.2.2.1=bH (List.replicate G.length 0) ((CS.take x_1.1).flatMap fun c=>uU P P.length c 0#64)/\x_1.2.2.2=bH (List.replicate G.length []) ((CS.take x_1.1).flatMap fun c=>jb P G G.length P.length c 0#64)) (μ:=fun x_1=>CS.length-x_1.1) (x0:=(0,[],List.replicate G.length 0,List.replicate G.length [])) (OU (aS O) ⟨Tt,Tt,Tt,Tt,Tt,Tt,PG (b:=some (.cells 3 (mkZ [.int .i64 0] (G.length*1)))) Tt (ag (fun c=>some (Ob.cells 3 c)) ((ck (.int .i64 0) (G.length*1)).trans (by rw[PX];show _=List.map _ (List.replicate _ _);rw[List.map_replicate]))),Tt,Tt,TB⟩ O O) (⟨⟨cd _,O⟩,O,O⟩) ?_
  rintro⟨j,M,D2,K2⟩ ⟨⟨hj,hM⟩,hD2,hK2⟩;try simp only at hj hM hD2 hK2 ⊢
  refine Z1 O O ?_;refine Gp O O (fun hc65=>?_) (fun hc65=>?_)
  ·have hlt:j<CS.length:=Ts;have hcm:=ar hlt;obtain⟨c,hcl,hc,hcr⟩:=hCm _ hcm;have hpv2:(aF CS)[j*1]? =some (.int .i64 (c:Int)):=by rw[<-hc];simp[hlt]
   have hpn2:=aE hlt;have htf:=fK hlt (jx P P.length);have htd:=fK hlt (fun c=>uU P P.length c 0#64);have htk:=fK hlt (fun c=>jb P G G.length P.length c 0#64);have hfl:=yZ (jx P P.length) CS (j+1);rw[hc]at htf htd htk;have hgo:=hvis c hcl hcr M D2 K2 (by rw[hD2,cS,Rf]) (by rw[hK2,cS,Rf]) (by rw[htf,Ph]at hfl;rw[hM];omega);exact OR<|Z1 O O<|Rs 67 O O (au ⟨_,underlying3,O⟩ O hpv2)<|A1 O<|Z2 O O O<|Rs 70 O O (ki (vs:=[pIi (c:Int),.pv (fF 0#64)]) [7,5,6,8,10,9,11] 12 call113 hgo O O O O O O ⟨Tt,Tt,Tt,Tt,Tt,Tt,Tt,TB⟩ Tu O)<|Z2 O O O<|⟨(j+1,M++jx P P.length (c:Int),bH D2 (uU P P.length (c:Int) 0#64),bH K2 (jb P G G.length P.length (c:Int) 0#64)),OV [0,1,2,3,4,5,6,7,13,9,10,11] (aT O) (aP Tt) O O Tu O,⟨⟨Tz,by simp only;rw[htf,<-hM]⟩,by simp only;rw[htd,ga,<-hD2],by simp only;rw[htk,ga,<-hK2]⟩,Tz⟩
  ·rw[show CS.take j=CS from aX Ts]at hM hD2 hK2;have hDl:D2.length=G.length:=by rw[hD2,cS,Rf]
   have hKl:K2.length=G.length:=by rw[hK2,cS,Rf]
   have hIl:(aF D2).length=G.length:=by rw[Pg,hDl]
   have hrl5:=hV.r2;have hrln:=hS.rl;have hHl:=ML D2 S;generalize hH:hpL D2 S=H at hHl;have hHr:∀i (h:i<S.rels.length),H[i]'Ts=gQ D2 S.rels[i].2 S.rels[i].2.length:=fun i h=>by subst hH;simp[hpL]
   refine Wk [(2,.ptr 0 0),(4,.ptr 2 0),(7,.ptr 7 0),(10,.ptr 10 0)] [(0,oZ S),(2,.mix 97 [.pv nS,.pv nS,.pv nS,.pv nS]),(5,.cells 22 (K2.map ai)),(6,.cells 22 (List.replicate G.length nS)),(7,.mix 97 [.pv (ba (lsT P k)),.osl 5 1 G.length,.osl 6 1 G.length,.gsl 8 1 M.length]),(8,.gro 3 (aF M)),(9,.cells 3 (aF D2)),(10,.mix 22 [.osl 9 1 G.length])] 12 (aS Tt) (aO Tt) O O<|OT (St.uy 6 O)<|OT (St.Du (A:=6) (TA:=22) 3 G.length (ag (fun c=>some (Ob.mix 22 c)) Tw) Tu Ts (fun i h1 h2=>CH Tu h1 h2))<|Gx O<|Z4 O O O O O ?_;refine Gl O (st:=fun x_2:Nat=>ovl (mkS [(4,.ptr 2 0),(7,.ptr 7 0),(10,.ptr 10 0),(73,.pv (.sl none S.rels.length (aJ S.rels))),(74,pIi S.rels.length),(75,pIi x_2)] [(2,.mix 97 [.pv nS,.pv nS,.pv nS,.pv nS]),(5,.cells 22 (K2.map ai)),(7,.mix 97 [.pv (ba (lsT P k)),.osl 5 1 G.length,.osl 6 1 G.length,.gsl 8 1 M.length]),(8,.gro 3 (aF M)),(9,.cells 3 (aF D2)),(10,.mix 22 [.osl 9 1 G.length])] 12) 6 22 3 (chV (lsP (hsT G.length H x_2))) (lsP (hsT G.length H x_2)))
    (I:=fun x_2=>x_2<=S.rels.length) (μ:=fun x_2=>S.rels.length-x_2) (x0:=(0)) (St.fB 1000 999 (aT O) (aP Tt) (ag (fun c=>some (Ob.mix 22 c)) (by rw[gD 999 (by rw[dm,cU];omega),xI];unfold lsP;rw[List.map_replicate];rfl)) (fun j hj=>by rw[dm,cU]at hj;rw[cz Ts];refine(cE (A:=6) (TA:=22) (cells:=chV (List.replicate G.length [])) (ls:=List.replicate G.length []) Tu (by rw[Rf];omega)).trans ?_;simp[xI,lsP]) O O Tu Tu Tu Tu (by rw[dm,cU];omega)) (cd _) ?_
   rintro i hi;refine Z1 O O ?_;refine Gp O O (fun hc76=>?_) (fun hc76=>?_)
   ·have hli:i<S.rels.length:=Ts;have hrow:=dJ hli;have hne:=fY hli;have hrk:=hrln _ (ar hli);have hrr:=hV.rng _ (ar hli);have hrn0:=hV.ne _ (ar hli);have hHi:=hHr i hli;have hlen:(lsP (hsT G.length H i)).length=G.length:=by rw[dm,cU]
    have hlb:=fun U (h:U<(lsP (hsT G.length H i)).length)=>Oe G.length H i h
    generalize S.rels[i]=rk at*;have hhm:=fun j=>s6 D2 hrn0 j
    have hnat:∀x∈rk.2,∃m:Nat,m<G.length/\x=(m:Int):=fun x hx=>by obtain⟨m,e⟩:=Bb (hrr x hx).1;exact⟨m,by have:=(hrr x hx).2;omega,e⟩
    obtain⟨U,hUn,hUe⟩:=hnat _ (hhm rk.2.length);generalize hls:lsP (hsT G.length H i)=ls at*;have hUl:U<ls.length:=Ts;have hnx:lsP (hsT G.length H (i+1))=ls.set U (ls[U]++[.int .i64 i]):=by have h5:U<(hsT G.length H i).length:=(by rw[cU];exact hUn);rw[Hj Ts hUn (hHi.trans hUe),wv _ _ h5];subst hls;rfl
    have hld:=BN hUl;have hlbU:=hlb _ hUl;have hsto:U*1+1<=(chV ls).length:=by rw[iz];omega
    have h0l:0<rk.2.length:=Qe.2 hrn0;have hq0:(aF rk.2)[0*1]? =some (.int .i64 (gQ D2 rk.2 0)):=by cases hc:rk.2 with|nil=>exact absurd hc hrn0|cons x l=>simp[gQ]
    have hpn0:=aE h0l;refine OR<|Z2 O O O ?_;first|refine A3 O Tv ?_|refine A1 O ?_
    refine Y3 O O O<|Z2 O O O<|Rs 82 O O (ae 0 underlying22 sz3 O O O h0l hpn0)<|Rs 83 O O (au ⟨_,underlying3,O⟩ O hq0)<|A1 O<|Z4 O O O O O ?_;refine Gl O (st:=fun x_3:Nat=>ovl (mkS [(4,.ptr 2 0),(7,.ptr 7 0),(10,.ptr 10 0),(14,pIi i),(16,pIi (gQ D2 rk.2 x_3)),(73,.pv (.sl none S.rels.length (aJ S.rels))),(74,pIi S.rels.length),(75,pIi i),(85,.pv (ai rk.2)),(86,pIi rk.2.length),(87,pIi x_3)] [(2,.mix 97 [.pv nS,.pv nS,.pv nS,.pv nS]),(5,.cells 22 (K2.map ai)),(7,.mix 97 [.pv (ba (lsT P k)),.osl 5 1 G.length,.osl 6 1 G.length,.gsl 8 1 M.length]),(8,.gro 3 (aF M)),(9,.cells 3 (aF D2)),(10,.mix 22 [.osl 9 1 G.length])] 13) 6 22 3 (chV ls) (ls))
     (I:=fun x_3=>x_3<=rk.2.length) (μ:=fun x_3=>rk.2.length-x_3) (x0:=(0)) (St.fB 1000 999 (aT O) (aP Tt) (PG (b:=some (.mix 22 (chV ls))) Tt (by rw[gD 999 Ts])) (fun j2 hj2=>by rw[cz Ts];exact PG (b:=(ovl (mkS [(4,.ptr 2 0),(7,.ptr 7 0),(10,.ptr 10 0),(73,.pv (.sl none S.rels.length (aJ S.rels))),(74,pIi S.rels.length),(75,pIi i)] [(2,.mix 97 [.pv nS,.pv nS,.pv nS,.pv nS]),(5,.cells 22 (K2.map ai)),(7,.mix 97 [.pv (ba (lsT P k)),.osl 5 1 G.length,.osl 6 1 G.length,.gsl 8 1 M.length]),(8,.gro 3 (aF M)),(9,.cells 3 (aF D2)),(10,.mix 22 [.osl 9 1 G.length])] 12) 6 22 3 (chV (ls)) (ls)).ob (j2+1000)) Tt (cE Tu hj2)) O O Tu Tu Tu Tu Ts) (cd _) ?_
    rintro j3 hj3;refine Z1 O O ?_;refine Gp O O (fun hc88=>?_) (fun hc88=>?_)
    ·have hl3:j3<rk.2.length:=Ts;obtain⟨a,hal,ha⟩:=hnat _ (ar hl3);obtain⟨mh,hml,hmh⟩:=hnat _ (hhm j3);have hpv3:(aF rk.2)[j3*1]? =some (.int .i64 (a:Int)):=by rw[<-ha];simp[hl3]
     have hpn3:=aE hl3;have hDa:(aF D2)[a*1]? =some (.int .i64 (D2.getD a 0)):=by simp[List.getD,hDl,hal]
     have hDm:(aF D2)[mh*1]? =some (.int .i64 (D2.getD mh 0)):=by simp[List.getD,hDl,hml]
     have hhs:=zE D2 rk.2 hl3;rw[ha,hmh,Pz,Pz]at hhs;refine OR<|Z1 O O<|Rs 90 O O (au ⟨_,underlying3,O⟩ O hpv3)<|A1 O<|Ge O follows [0,1,2,3,4,5,6,7,8] Tt ?_;iterate 2 refine D1 O O ?_
     refine Ds 93 [_] O O O (fun τ h=>aq a underlying22 sz3 (Ee h 0 O O) (Eo h 0 O O) (Ee h 1 O O) O Ts) O Tt<|Ds 94 [_] O O O (fun τ h=>b8 ⟨_,underlying3,O⟩ (Ee h 0 O O) (Eo h 0 O O) hDa) O Tt ?_;iterate 2 refine D1 O O ?_
     refine Ds 97 [_] O O O (fun τ h=>aq mh underlying22 sz3 (Ee h 0 O O) (Eo h 0 O O) (Ee h 1 O O) hmh Ts) O Tt<|Ds 98 [_] O O O (fun τ h=>b8 ⟨_,underlying3,O⟩ (Ee h 0 O O) (Eo h 0 O O) hDm) O Tt<|D1 O O ?_;refine⟨Tt,?_⟩;refine Gp O O (fun hc99=>?_) (fun hc99=>?_)
     ·exact Z2 O O O<|Z2 O O O<|⟨(j3+1),St.fB 1000 999 ⟨O,O,O,O,ag (fun z=>pIi z) (hhs.trans (AT hc99)).symm,O,O,O,O,O,O,TB⟩ (aP Tt) (PG (b:=some (.mix 22 (chV ls))) Tt (by rw[gD 999 Ts])) (fun j2 hj2=>by rw[cz Ts];exact PG (b:=(ovl (mkS [(4,.ptr 2 0),(7,.ptr 7 0),(10,.ptr 10 0),(14,pIi i),(16,pIi (gQ D2 rk.2 j3)),(73,.pv (.sl none S.rels.length (aJ S.rels))),(74,pIi S.rels.length),(75,pIi i),(85,.pv (ai rk.2)),(86,pIi rk.2.length),(87,pIi j3)] [(2,.mix 97 [.pv nS,.pv nS,.pv nS,.pv nS]),(5,.cells 22 (K2.map ai)),(7,.mix 97 [.pv (ba (lsT P k)),.osl 5 1 G.length,.osl 6 1 G.length,.gsl 8 1 M.length]),(8,.gro 3 (aF M)),(9,.cells 3 (aF D2)),(10,.mix 22 [.osl 9 1 G.length])] 13) 6 22 3 (chV ls) (ls)).ob (j2+1000)) Tt (cE Tu hj2)) O O Tu Tu Tu Tu Ts,Ts,Ts⟩
     ·exact OR<|Z2 O O O<|⟨(j3+1),St.fB 1000 999 ⟨O,O,O,O,ag (fun z=>pIi z) ((hhs.trans (dw hc99)).trans hmh.symm).symm,O,O,O,O,O,O,TB⟩ (aP Tt) (PG (b:=some (.mix 22 (chV ls))) Tt (by rw[gD 999 Ts])) (fun j2 hj2=>by rw[cz Ts];exact PG (b:=(ovl (mkS [(4,.ptr 2 0),(7,.ptr 7 0),(10,.ptr 10 0),(14,pIi i),(16,pIi (gQ D2 rk.2 j3)),(73,.pv (.sl none S.rels.length (aJ S.rels))),(74,pIi S.rels.length),(75,pIi i),(85,.pv (ai rk.2)),(86,pIi rk.2.length),(87,pIi j3)] [(2,.mix 97 [.pv nS,.pv nS,.pv nS,.pv nS]),(5,.cells 22 (K2.map ai)),(7,.mix 97 [.pv (ba (lsT P k)),.osl 5 1 G.length,.osl 6 1 G.length,.gsl 8 1 M.length]),(8,.gro 3 (aF M)),(9,.cells 3 (aF D2)),(10,.mix 22 [.osl 9 1 G.length])] 13) 6 22 3 (chV ls) (ls)).ob (j2+1000)) Tt (cE Tu hj2)) O O Tu Tu Tu Tu Ts,Ts,Ts⟩
    ·have hje:j3=rk.2.length:=Ts;rw[<-hje]at hUe;refine Gx O<|Ge O follows [0,1,2,3,4,5,6,7,8,9,10,11,12] Tt ?_;iterate 6 refine D1 O O ?_
     refine Ds 108 [_] O O O (fun τ h=>aq U underlying95 pN (Ee h 0 O O) (Eo h 0 O O) (Ee h 1 O O) hUe Ts) O Tt<|Ds 109 [_] O O O (fun τ h=>mg ⟨_,underlying22,O⟩ (Ee h 0 O O) (Eo h 0 O O) hld) O Tt ?_;iterate 2 refine D1 O O ?_
     refine Ds 112 [U+1000,13] O O O (fun τ h=>gG 14 vL (Ee h 0 O O) ((h.o 0 _ O).trans (PG (b:=(ovl (mkS [(4,.ptr 2 0),(7,.ptr 7 0),(10,.ptr 10 0),(14,pIi i),(16,pIi (gQ D2 rk.2 j3)),(73,.pv (.sl none S.rels.length (aJ S.rels))),(74,pIi S.rels.length),(75,pIi i),(85,.pv (ai rk.2)),(86,pIi rk.2.length),(87,pIi j3)] [(2,.mix 97 [.pv nS,.pv nS,.pv nS,.pv nS]),(5,.cells 22 (K2.map ai)),(7,.mix 97 [.pv (ba (lsT P k)),.osl 5 1 G.length,.osl 6 1 G.length,.gsl 8 1 M.length]),(8,.gro 3 (aF M)),(9,.cells 3 (aF D2)),(10,.mix 22 [.osl 9 1 G.length])] 13) 6 22 3 (chV ls) (ls)).ob (U+1000)) Tt (cE Tu hUl))) (PX _).symm (Ee h 1 O O) (Eo h 1 O O) O O Ts (h.n 0 _ O)) O Tt<|Ds 113 [_] O O O (fun τ h=>aq U underlying95 pN (Ee h 0 O O) (Eo h 0 O O) (Ee h 1 O O) hUe Ts) O Tt<|DL.step (d:=none) [_] O O O (fun τ h=>l9 pN (Ee h 0 O O) (Eo h 0 O O) (Ee h 1 O O) O hsto O O) O Tt ?_;refine⟨Tt,?_⟩;exact Z2 O O O<|⟨(i+1),(by rw[hnx];exact St.fB U 14 (aT O) (aP Tt) (PG (b:=some (.mix 22 (fy (chV ls) (U*1) [.gsl 14 1 (ls[U].length+1)]))) Tt (ag (fun c=>some (Ob.mix 22 c)) ((rO _ _ _ (by rw[iz];omega)).trans (ns hUl 14 _).symm))) (vJ hUl _ Tt (fun j2 hj2 hne2=>PG (b:=bif Nat.beq (j2+1000) (U+1000)then(none:Option Ob)else(ovl (mkS [(4,.ptr 2 0),(7,.ptr 7 0),(10,.ptr 10 0),(14,pIi i),(16,pIi (gQ D2 rk.2 j3)),(73,.pv (.sl none S.rels.length (aJ S.rels))),(74,pIi S.rels.length),(75,pIi i),(85,.pv (ai rk.2)),(86,pIi rk.2.length),(87,pIi j3)] [(2,.mix 97 [.pv nS,.pv nS,.pv nS,.pv nS]),(5,.cells 22 (K2.map ai)),(7,.mix 97 [.pv (ba (lsT P k)),.osl 5 1 G.length,.osl 6 1 G.length,.gsl 8 1 M.length]),(8,.gro 3 (aF M)),(9,.cells 3 (aF D2)),(10,.mix 22 [.osl 9 1 G.length])] 13) 6 22 3 (chV ls) (ls)).ob (j2+1000)) Tt (by rw[Dj Ts,PE];exact qH Tu hj2))) O O Tu Tu Tu Ts (by rw[PO];omega)),Ts,Ts⟩
   ·have hie:i=S.rels.length:=Ts;have hlen:(lsP (hsT G.length H i)).length=G.length:=by rw[dm,cU]
    have hcp2:chP (lsP (hsT G.length H i))=((hsT G.length H i).map ai).map V.pv:=by rw[BX,Q3];rfl
    generalize hls:lsP (hsT G.length H i)=ls at*;refine OT (St.fB (l:=[(4,.ptr 2 0),(7,.ptr 7 0)]) (os:=[(2,.mix 97 [.pv nS,.pv nS,.pv nS,.pv nS]),(5,.cells 22 (K2.map ai)),(7,.mix 97 [.pv (ba (lsT P k)),.osl 5 1 G.length,.osl 6 1 G.length,.gsl 8 1 M.length]),(8,.gro 3 (aF M))]) (k:=12) (A:=6) (TA:=22) (T:=3) (ls:=ls) 1000 999 (aT Tt) (aP Tt) (PG (b:=some (.mix 22 (chV ls))) Tt (by rw[gD 999 Ts])) (fun j2 hj2=>by rw[cz Ts];exact PG (b:=(ovl (mkS [(4,.ptr 2 0),(7,.ptr 7 0),(10,.ptr 10 0),(73,.pv (.sl none S.rels.length (aJ S.rels))),(74,pIi S.rels.length),(75,pIi i)] [(2,.mix 97 [.pv nS,.pv nS,.pv nS,.pv nS]),(5,.cells 22 (K2.map ai)),(7,.mix 97 [.pv (ba (lsT P k)),.osl 5 1 G.length,.osl 6 1 G.length,.gsl 8 1 M.length]),(8,.gro 3 (aF M)),(9,.cells 3 (aF D2)),(10,.mix 22 [.osl 9 1 G.length])] 12) 6 22 3 (chV (ls)) (ls)).ob (j2+1000)) Tt (cE Tu hj2)) O O Tu Tu Tu Tu Ts) ?_;have hsm2:=yb (l:=[(4,.ptr 2 0),(7,.ptr 7 0)]) (os:=[(2,.mix 97 [.pv nS,.pv nS,.pv nS,.pv nS]),(5,.cells 22 (K2.map ai)),(7,.mix 97 [.pv (ba (lsT P k)),.osl 5 1 G.length,.osl 6 1 G.length,.gsl 8 1 M.length]),(8,.gro 3 (aF M))]) (k:=12) O O;exact OT (St.A6 ls Tu Ts hsm2.1 hsm2.2)<|OT (St.Bi (id:=6) (cs:=(hsT G.length H i).map ai) O hcp2)<|Wk [(4,.ptr 2 0),(7,.ptr 7 0)] [(2,.mix 97 [.pv nS,.pv nS,.pv nS,.pv nS]),(5,.cells 22 (K2.map ai)),(6,.cells 22 ((hsT G.length H i).map ai)),(7,.mix 97 [.pv (ba (lsT P k)),.osl 5 1 G.length,.osl 6 1 G.length,.gsl 8 1 M.length]),(8,.gro 3 (aF M))] 12 (aS Tt) (aO Tt) O O<|OT (OX 6 O O)<|OT (OX 5 O O)<|OT (OX 8 O O)<|OT (St.J1 7 O)<|Gx O<|Z2 O O O<|Gt O<|⟨_,_,O,O,⟨az ⟨_,underlying97,O⟩ sz97 O O O,TB⟩,G,hG,LO hkP hie hH hM hCS hD2 hK2 hKl⟩
end
section
open Mk Jn
noncomputable def planS(S:Sch):VD:=lr S (ordL S (lstL S)) (gr S)
end
section
open Mk
noncomputable def costN(G:List B64)(rest:B64)(a:Nat):Nat:=keyN G (compB G rest a)+1

theorem GM{l:List Int}{x:B64}(hnd:l.Nodup)(hnn:∀y∈l,0<=y)(hm:∀a:Nat,(a:Int)∈l↔x.getLsbD a=true):l.length=jL x:=by
 have hp:l.Perm (((List.range 64).filter fun i=>x.getLsbD i).map Int.ofNat):=dU hnd (List.Pairwise.map _ (fun a b h e=>h (Int.ofNat.inj e)) (RH Ri List.nodup_range)) fun y=>by
  rw[IT];constructor
  ·intro hy;obtain⟨a,rfl⟩:=Bb (hnn y hy);have:=(hm a).1 hy;exact⟨a,Qn.2 ⟨P0.2 (ir this),this⟩,O⟩
  ·rintro⟨a,ha,rfl⟩;exact(hm a).2 (Qn.1 ha).2
 rw[hp.length_eq,Pg];unfold jL;rw[List.countP_eq_length_filter]

end
section
open Mk Jn
set_option autoImplicit false
theorem od{α:Type}(f:Nat->α):∀(us:List (Nat×α))(D:List α),(∀p∈us,p.2=f p.1)->∀i,i<D.length->(bH D us)[i]? =if i∈us.map (·.1)then some (f i)else D[i]?
 |[],D,_,i,_=>by simp[bH]
 | u::us,D,h,i,hi=>by
   have e:bH D (u::us)=bH (D.set u.1 u.2) us:=rfl;rw[e,od f us _ (fun p hp=>h p (by simp[hp])) i (by simpa using hi)];by_cases h1:i∈us.map (·.1)
   ·rw[AT h1,AT (by rw[bL];exact PH _ h1)]
   ·rw[dw h1];by_cases h2:u.1=i
    ·rw[AT (by rw[bL,h2];exact PU ..),Sq,AT h2,AT Ts,h u Tw,h2]
    ·rw[dw (by rw[bL,AS];rintro(e|e);exact h2 e.symm;exact h1 e),Sq,dw h2]
theorem Ly{cs:List Int}{F:Int->B64}(x:Nat):∀g:B64,(cs.foldl (fun z c=>z|||F c) g).getLsbD x=(g.getLsbD x||cs.any fun c=>(F c).getLsbD x):=by
 induction cs with
 |nil=>intro g;simp
 |cons c cs ih=>intro g;rw[QQ,ih,BitVec.getLsbD_or,List.any_cons,Bool.or_assoc]
theorem vZ{S:Sch}{P:List Int}(hP:UpOk P){v:Nat}(hv:v<P.length):(upZ P.length).filter (fun a=>decide (a∈bP P v)&&(dD P v).any fun b=>fa S a b)=fh S P v:=by
 unfold fh;refine rB ?_ (RH Ri ((Nl P.length).imp fun h=>Int.le_of_lt h));have hab:=(Rz.1 (iK hP v hv)).2;refine dU (RH Ri (cG _)) (by unfold JB;exact RH Ri hab) fun a=>?_
 unfold JB;rw[Qn,Qn,sh,P9];refine⟨fun h=>h.2,fun h=>⟨?_,h⟩⟩;obtain⟨x,hx,e,_⟩:=kC hP v hv a h.1;exact bI.2 ⟨x,hx,e⟩
def AbB(P:List Int)(v:Nat)(ab:B64):Prop:=∀x:Nat,ab.getLsbD x=true↔(x:Int)∈bP P v
theorem uE(P:List Int)(G:List B64)(x:Nat):∀(k:Nat)(v:Int),(gP P G k v).getLsbD x=(jx P k v).any fun m=>(G.getD m.toNat 0#64).getLsbD x
 |0,v=>by rw[gP,jx];simp
 | k+1,v=>by
   rw[gP,jx,Ly,List.any_cons,List.any_flatMap]
   congr 1
   exact ag (aA P v).any (funext fun c=>uE P G x k c)
theorem xq(P:List Int):∀(k:Nat)(v:Int)(ab:B64),(uU P k v ab).map (·.1)=(jx P k v).map Int.toNat
 |0,v,ab=>rfl
 | k+1,v,ab=>by
   rw[uU,jx,bL,bL,R4,R4]
   congr 1
   exact ag (fun f=>List.flatMap f (aA P v)) (funext fun c=>xq P k c _)
theorem xn(P:List Int)(G:List B64)(n x:Nat):∀(k:Nat)(v:Int)(ab:B64),x∈(jx P k v).map Int.toNat->x∈(jb P G n k v ab).map (·.1)
 |0,v,ab,h=>by rw[jb];simpa[jx]using h
 | k+1,v,ab,h=>by
   rw[jb,PD,R4,Pq,P5];rw[jx,bL,R4]at h;rcases AS.1 h with h|h
   ·right;simp[h]
   ·obtain⟨c,hc,h⟩:=P5.1 h;exact .inl ⟨c,hc,xn P G n x k c _ h⟩
section
variable {S:Sch}{P:List Int}(h:OrdOk S P)
include h
theorem n12:P.length<=12:=by rw[h.len];exact h.val.n2
theorem AbB.down{v c:Nat}{ab:B64}(hab:AbB P v ab)(hv:v<P.length)(hc:c<P.length)(hp:P.getD c 0=(v:Int)):AbB P c (ab|||BitVec.twoPow 64 (v:Int).toNat):=by
 intro x;have hn:=n12 h;rw[dN h.jo hc hv hp,BitVec.getLsbD_or,BitVec.getLsbD_twoPow,PQ,hab x,AS];simp only[Pz,sh,P9];constructor
 ·rintro(h1|⟨_,h1⟩)
  ·exact .inr h1
  ·exact .inl Ts
 ·rintro(h1|h1)
  ·exact .inr ⟨Ts,Ts⟩
  ·exact .inl h1
theorem AbB.pop{v:Nat}{ab:B64}(hab:AbB P v ab)(hv:v<P.length):jL ab=(bP P v).length:=by
 refine(GM (Rz.1 (iK h.jo v hv)).2 (fun y hy=>?_) fun a=>(hab a).symm).symm;obtain⟨a,_,e,_⟩:=kC h.jo v hv y hy;omega
theorem Jp:∀(k v:Nat)(ab:B64),v<P.length->AbB P v ab->∀p∈uU P k v ab,p.2=((bP P (p.1:Nat)).length:Int)
 | 0,v,ab,hv,hab,p,hp=>by
   rw[uU,OF]at hp;subst hp;show(jL ab:Int)=_;rw[hab.pop h hv];rfl
 | k+1,v,ab,hv,hab,p,hp=>by
   rw[uU,AS]at hp;rcases hp with hp|hp
   ·subst hp;show(jL ab:Int)=_;rw[hab.pop h hv];rfl
   ·obtain⟨c,hc,hp⟩:=P5.1 hp;obtain⟨m,hm,rfl,e⟩:=a7.1 hc;exact Jp k m _ hm (hab.down h hv hm e) p hp
theorem Fl{k v:Nat}(hv:v<P.length)(hf:P.length<=k+1+(bP P v).length){x:Nat}(hx:x<P.length):(x:Int)∈jx P k v↔(x:Int)∈dD P v:=by
 have ht:cw P k v=cw P (k+1) v:=(uf h.jo k v hv hf).symm;rw[qY,ht,tree_vs,gX,AS];have hc:=kY h.jo (k+1) v (fun a ha e=>by rw[dN h.jo ha hv (by rw[getD_at ha];exact e),Pd];omega) x hx;have hne:(v:Int)∈bP P x++[-1]↔(v:Int)∈bP P x:=by
  rw[Pq,OF];exact⟨fun e=>e.resolve_right Ts,.inl⟩
 simp only[hne]at hc;constructor
 ·rintro(h1|h1)
  ·exact⟨⟨x,hx,O⟩,.inl h1⟩
  ·refine⟨⟨x,hx,O⟩,.inr ?_⟩;have:=List.count_pos_iff.2 h1;exact PT fun hn=>by rw[dw hn]at hc;omega
 ·rintro⟨_,h1|h1⟩
  ·exact .inl h1
  ·rw[AT h1]at hc;exact .inr (List.count_pos_iff.1 Ts)
theorem J8{k v:Nat}(hv:v<P.length):∀x∈jx P k v,∃m:Nat,m<P.length/\x=(m:Int):=fun x hx=>by
 rw[qY]at hx;obtain⟨m,hm,e,_⟩:=yA h.jo k v hv x hx;exact⟨m,hm,e⟩
theorem Jg{k v:Nat}{ab:B64}(hv:v<P.length)(hf:P.length<=k+1+(bP P v).length)(hab:AbB P v ab):j6 (gP P (gr S) k v&&&ab) P.length=fh S P v:=by
 rw[<-vZ h.jo hv];unfold j6 upZ;rw[List.filter_map]
 congr 1
 apply List.filter_congr;intro x hx;have hx:=P0.1 hx;show _=(decide ((x:Int)∈bP P v)&&(dD P v).any fun b=>fa S (x:Int) b);rw[Sz,uE];by_cases ha:(x:Int)∈bP P v
 ·rw[(hab x).2 ha,Sf,Pn ha,Tc,PA,Qy,Qy];constructor
  ·rintro⟨m,hm,hb⟩;obtain⟨m',hm',rfl⟩:=J8 h hv m hm;refine⟨_,(Fl h hv hf hm').1 hm,?_⟩;rw[Pz,za h.val (by rw[<-h.len];exact hm'),sh]at hb;exact nE hb.2
  ·rintro⟨m,hm,hb⟩;obtain⟨⟨m',hm',rfl⟩,h2⟩:=gX.1 hm;refine⟨_,(Fl h hv hf hm').2 hm,?_⟩;rw[Pz,za h.val (by rw[<-h.len];exact hm'),sh,P9];refine⟨?_,nE hb⟩;rintro rfl;rcases h2 with h2|h2
   ·have:m'=v:=Ts;subst this;exact tf h.jo hv ha
   ·exact tf h.jo hv (rS h.jo hv h2 ha)
 ·rw[Pt ha,Bool.false_and,Bool.and_eq_false_iff];right
  rw[Bool.eq_false_iff];exact fun e=>ha ((hab x).1 e)
theorem C7:∀(k v:Nat)(ab:B64),v<P.length->P.length<=k+1+(bP P v).length->AbB P v ab->∀p∈jb P (gr S) P.length k v ab,p.2=fh S P (p.1:Nat)
 | 0,v,ab,hv,hf,hab,p,hp=>by
   rw[jb,OF]at hp;subst hp;exact Jg h hv hf hab
 | k+1,v,ab,hv,hf,hab,p,hp=>by
   rw[jb,Pq,OF]at hp;rcases hp with hp|hp
   ·obtain⟨c,hc,hp⟩:=P5.1 hp;obtain⟨m,hm,rfl,e⟩:=a7.1 hc;exact C7 k m _ hm (by rw[dN h.jo hm hv e,Pd];omega) (hab.down h hv hm e) p hp
   ·subst hp;exact Jg h hv hf hab
omit h in
theorem GG{c:Nat}(hc:c<P.length)(e:P.getD c 0= -1):bP P c=[]:=nG hc (by rw[<-getD_at hc];exact e)
omit h in
theorem yi{c:Nat}(hc:c<P.length)(e:P.getD c 0= -1):AbB P c 0#64:=fun x=>by rw[GG hc e];simp
theorem C1{i:Nat}(hi:i<P.length):∃c:Nat,c<P.length/\P.getD c 0= -1/\(c:Int)∈aA P (-1)/\i∈(jx P P.length c).map Int.toNat:=by
 have h1:(i:Int)∈aH P:=(bU h.jo).mem_iff.2 (bI.2 ⟨i,hi,O⟩);rw[<-qw,P5]at h1;obtain⟨c,hc,h1⟩:=h1;obtain⟨m,hm,rfl,e⟩:=a7.1 hc;exact⟨m,hm,e,hc,IT.2 ⟨_,h1,O⟩⟩
omit h in
theorem Cy(D l:List Int):∀a∈l,D.getD a.toNat 0<=D.getD (gQ D l l.length).toNat 0:=by
 have key:∀(k:List Int)(h0:Int),D.getD h0.toNat 0<=D.getD (k.foldl (fun h a=>if D.getD a.toNat 0>D.getD h.toNat 0 then a else h) h0).toNat 0/\∀a∈k,D.getD a.toNat 0<=D.getD (k.foldl (fun h a=>if D.getD a.toNat 0>D.getD h.toNat 0 then a else h) h0).toNat 0:=by
  intro k;induction k with
  |nil=>intro h0;exact⟨Int.le_refl _,fun a ha=>by cases ha⟩
  | cons x k ih=>
    intro h0;rw[QQ];have h1:=ih (if D.getD x.toNat 0>D.getD h0.toNat 0 then x else h0);by_cases hx:D.getD x.toNat 0>D.getD h0.toNat 0
    ·rw[AT hx]at h1 ⊢;refine⟨Int.le_trans (Int.le_of_lt hx) h1.1,fun a ha=>?_⟩;rcases AS.1 ha with rfl|ha
     ·exact h1.1
     ·exact h1.2 a ha
    ·rw[dw hx]at h1 ⊢;refine⟨h1.1,fun a ha=>?_⟩;rcases AS.1 ha with rfl|ha
     ·exact Int.le_trans (Int.not_lt.1 hx) h1.1
     ·exact h1.2 a ha
 intro a ha;unfold gQ;rw[SS];exact(key l _).2 a ha
theorem Lp{r:ByteArray×List Int}(hr:r∈S.rels)(D:List Int)(hD:∀i:Nat,i<P.length->D.getD i 0=((bP P (i:Nat)).length:Int)):gQ D r.2 r.2.length=iy P r.2:=by
 have hrng:∀a∈r.2,0<=a/\a<P.length:=by rw[h.len];exact h.val.rng r hr
 obtain⟨h1,h2⟩:=qO h.jo (h.val.ne r hr) hrng (h.rt r hr);have h3:=s6 D (h.val.ne r hr) r.2.length;rcases h2 _ h3 with e|e
 ·exact e
 ·exfalso;have h4:=Cy D r.2 _ h1;obtain⟨a,ha⟩:=Bb (hrng _ h3).1;obtain⟨b,hb⟩:=Bb (hrng _ h1).1;have r1:=(hrng _ h3).2;have r2:=(hrng _ h1).2;rw[ha]at r1 e h4;rw[hb]at r2 e h4;have r1':a<P.length:=Ts;have r2':b<P.length:=Ts;have h5:=Bk h.jo r2' e;rw[Pz,Pz,hD a r1',hD b r2']at h4;omega
def bh(S:Sch)(P:List Int):VD:=⟨(upZ P.length).map (aA P)++[aA P (-1)],(upZ P.length).map (fh S P),(upZ P.length).map (lS (S.rels.map fun r=>iy P r.2) S.rels.length),aH P⟩
theorem IZ:lr S P (gr S)=bh S P:=by
 have hgl:(gr S).length=P.length:=by rw[y0,h.len]
 have hD:∀i:Nat,i<P.length->(bH (List.replicate (gr S).length (0:Int)) ((aA P (-1)).flatMap fun c=>uU P P.length c 0#64)).getD i 0=((bP P (i:Nat)).length:Int):=by
  intro i hi;rw[Pk,od (fun i=>((bP P (i:Nat)).length:Int)) _ _ (fun p hp=>?_) i (by rw[Rf,hgl];exact hi),AT ?_]
  ·rfl
  ·obtain⟨c,hc,e,hm,hv⟩:=C1 h hi;rw[R4,P5];exact⟨c,hm,by rw[xq];exact hv⟩
  ·obtain⟨c,hc,hp⟩:=P5.1 hp;obtain⟨m,hm,rfl,e⟩:=a7.1 hc;exact Jp h P.length m _ hm (yi hm e) p hp
 have e1:(lr S P (gr S)).chs=(bh S P).chs:=by
  show lsT P P.length=_;unfold lsT bh;rw[jP]
  congr 1
  exact PR fun v _=>jP P v
 have e2:(lr S P (gr S)).kes=(bh S P).kes:=by
  show bH (List.replicate (gr S).length []) _=(upZ P.length).map (fh S P);apply SF;intro i;by_cases hi:i<P.length
  ·rw[od (fun i=>fh S P (i:Nat)) _ _ (fun p hp=>?_) i (by rw[Rf,hgl];exact hi),AT ?_]
   ·simp[upZ,hi]
   ·obtain⟨c,hc,e,hm,hv⟩:=C1 h hi;rw[R4,P5];exact⟨c,hm,xn P _ _ _ _ _ _ hv⟩
   ·obtain⟨c,hc,hp⟩:=P5.1 hp;obtain⟨m,hm,rfl,e⟩:=a7.1 hc;rw[hgl]at hp;exact C7 h P.length m _ hm Ts (yi hm e) p hp
  ·rw[Qg (by rw[cS,Rf,hgl];omega),Qg (by rw[Pg,aW];omega)]
 have e3:(lr S P (gr S)).hos=(bh S P).hos:=by
  show hsT (gr S).length (hpL _ S) S.rels.length=_;unfold hsT bh hpL;rw[hgl]
  congr 2
  exact PR fun r hr=>Lp h hr _ (by rw[hgl]at hD;exact hD)
 have e4:(lr S P (gr S)).wa=(bh S P).wa:=rfl;generalize lr S P (gr S)=A at e1 e2 e3 e4;generalize bh S P=B at e1 e2 e3 e4;cases A;cases B;simp only at e1 e2 e3 e4;rw[e1,e2,e3,e4]
end
theorem Oh{S:Sch}(hV:Valid S)(hr:S.rels.length<=1000)(hl:∀r∈S.rels,r.2.length<=1000):SJn S:=⟨by have:=hV.n2;omega,hr,hl,hV.rng⟩
end
section
open Mk Jn
set_option autoImplicit false
def hoL(S:Sch)(P:List Int)(v:Int):List Int:=lS (S.rels.map fun r=>iy P r.2) S.rels.length v
theorem LG{S:Sch}{P:List Int}{v r:Int}:r∈hoL S P v↔∃k:Nat,∃h:k<S.rels.length,r=(k:Int)/\iy P S.rels[k].2=v:=by
 unfold hoL lS;rw[IT];constructor
 ·rintro⟨k,hk,rfl⟩;have h1:=Qn.1 hk;have hk:=P0.1 h1.1;have h2:=Rk.1 h1.2;rw[Pk,Rv,By hk]at h2;exact⟨k,hk,O,h2⟩
 ·rintro⟨k,hk,rfl,e⟩;refine⟨k,Qn.2 ⟨P0.2 hk,?_⟩,O⟩;rw[Pk,Rv,By hk];exact Rk.2 e



end
section
namespace Vw
open Mm Jn Mk
set_option autoImplicit false
def eT(A:List Int)(l:List Rw):Prt:=⟨A,l.map fun x=>⟨x.v,Gv.whole x.w.toNat⟩⟩
def FO(E:List En):List En:=E.mergeSort fun a b=>decide (a.t.data.toList<=b.t.data.toList)
def ct(K:List Int)(E:List En):Prt:=⟨K,(FO E).map fun e=>⟨e.v,e.g⟩⟩
theorem dy(E:List En):(FO E).Perm E:=Td _ _
theorem AK{K:List Int}{E:List En}(h:E=[]):(ct K E).is=[]:=by subst h;simp[ct,FO]
theorem pE(f:Gv->Nat)(K:List Int)(E:List En):(ct K E).tot f=gO f E:=by
 unfold Prt.tot ct gO;simp only[Q3];exact((dy E).map fun e=>f e.g).sum_nat
section
variable (S:Sch)(P:List Int)(T:List (List Rw))(lf:Int->ByteArray->Gv)
def oT(r:Int):List Int:=(S.rels.getD r.toNat default).2
def l6(r:Int):List Rw:=T.getD r.toNat []
def fe(f:Int->List En)(v:Int):List Prt:=((hoL S P v).map fun r=>eT (oT S r) (l6 T r))++(aA P v).map fun c=>ct (fh S P c) (f c)
noncomputable def mkV(f:Int->List En)(v:Int):List En:=viewE (lf v) S.attrs.length v (fh S P v) (fe S P T f v)
noncomputable def vwK:Nat->Int->List En
 |0,v=>mkV S P T lf (fun _=>[]) v
 |k+1,v=>mkV S P T lf (vwK k) v
noncomputable def vwS(v:Int):List En:=vwK S P T lf P.length v
def FP:Nat->Int->List Int
 |0,v=>hoL S P v
 |k+1,v=>hoL S P v++(aA P v).flatMap (FP k)
def wT(f:Gv->Nat)(r:Int):Nat:=(eT (oT S r) (l6 T r)).tot f
end
section
variable {S:Sch}{P:List Int}{T:List (List Rw)}{lf:Int->ByteArray->Gv}
theorem jZ{f g:Int->List En}{v:Int}(h:∀c∈aA P v,f c=g c):mkV S P T lf f v=mkV S P T lf g v:=by
 have e:((aA P v).map fun c=>ct (fh S P c) (f c))=(aA P v).map fun c=>ct (fh S P c) (g c):=PR fun c hc=>by rw[h c hc]
 unfold mkV fe;rw[e]
theorem w8(hP:UpOk P):∀(k:Nat)(v:Nat),v<P.length->P.length<=k+1+(bP P v).length->vwK S P T lf (k+1) v=vwK S P T lf k v
 | 0,v,hv,h=>by
   rw[vwK,vwK];exact jZ fun c hc=>by rw[oF hP hv Ts]at hc;simp at hc
 | k+1,v,hv,h=>by
   rw[vwK,vwK];refine jZ fun c hc=>?_
   obtain⟨m,hm,rfl,hp⟩:=a7.1 hc;have e:=dN hP hm hv hp;exact w8 hP k m hm (by rw[e,Pd];omega)
theorem lL(hP:UpOk P){v:Nat}(hv:v<P.length):vwS S P T lf v=mkV S P T lf (vwS S P T lf) v:=by
 unfold vwS;rw[<-w8 hP P.length v hv Ts,vwK]
theorem rY:∀(k:Nat)(v:Int),FP S P k v=(cw P k v).vs.flatMap (hoL S P)
 |0,v=>by rw[FP,cw,Tr.vs,vsL];simp
 | k+1,v=>by
   rw[FP,cw,Tr.vs,fc,Py,Sa,List.flatMap_assoc];rw[show FP S P k=fun c=>(cw P k c).vs.flatMap (hoL S P)from funext (rY k)]
theorem kN{α:Type}(f:α->List Nat):∀l:List α,c6 (l.flatMap f)=c6 (l.map fun a=>c6 (f a))
 |[]=>rfl
 |a::l=>by rw[Py,dx,bL,c6,kN f l]
theorem vV{f:Gv->Nat}(hf:Msr f)(h1:∀v t,f (lf v t)=1)(h2:f (Gv.whole 1)=1):∀(k:Nat)(v:Int),gO f (vwK S P T lf k v)<=c6 ((FP S P k v).map (wT S T f))
 | 0,v=>by
   rw[vwK,FP];refine IS (sG hf (h1 v) h2 _ _) ?_;unfold fe;rw[PD,dx,Q3,Q3];have h3:c6 ((aA P v).map (Prt.tot f∘fun c=>ct (fh S P c) []))<=1^(aA P v).length:=by
    refine mK (BY 1) (fun a ha=>?_) Tw;obtain⟨c,_,rfl⟩:=IT.1 ha;show(ct (fh S P c) []).tot f<=1;rw[pE];exact cd _
   rw[Nat.one_pow]at h3;exact IS (P8 _ h3) (Qp (PX _))
 | k+1,v=>by
   rw[vwK,FP,PD,dx,R4,kN];refine IS (sG hf (h1 v) h2 _ _) ?_;unfold fe;rw[PD,dx,Q3,Q3];refine Qc (Qp O) (k7 fun c _=>?_);show(ct (fh S P c) (vwK S P T lf k c)).tot f<=_;rw[pE];exact vV hf h1 h2 k c
theorem wX{L:List Int}(hL:L.Nodup)(H:List Int):∀k,(L.map fun v=>(lS H k v).length).sum<=k
 | 0=>by
   have:∀l:List Int,(l.map fun v=>(lS H 0 v).length).sum=0:=fun l=>by
    induction l with
    |nil=>rfl
    |cons a l ih=>rw[bL,PM,ih];rfl
   rw[this];exact BY _
 | k+1=>by
   have h:=wX hL H k;have e:∀l:List Int,(l.map fun v=>(lS H (k+1) v).length).sum=(l.map fun v=>(lS H k v).length).sum+l.count (H.getD k 0):=fun l=>by
    induction l with
    |nil=>rfl
    | cons a l ih=>
      rw[bL,PM,ih,bL,PM,List.count_cons,ke,Ph];generalize H.getD k 0=y;by_cases ha:y=a
      ·subst ha;rw[AT O,AT Tw,PI];omega
      ·rw[dw ha,dw (by simpa using Ne.symm ha),Rt];omega
   rw[e];have:=List.nodup_iff_count.1 hL (H.getD k 0);omega
theorem ko{α β:Type}(f:α->List β):∀l:List α,(l.flatMap f).length=(l.map fun a=>(f a).length).sum
 |[]=>rfl
 |a::l=>by rw[Py,Ph,ko f l,bL,PM]
theorem Ew{L:List Int}(hL:L.Nodup):(L.flatMap (hoL S P)).length<=S.rels.length:=by
 rw[ko];exact wX hL _ _
theorem M5{n:Nat}:∀{L:List Int},L.Nodup->(∀x∈L,∃a:Nat,a<n/\x=(a:Int))->L.length<=n:=by
 intro L hL hr;have h:=wX hL (upZ n) n;have e:∀l:List Int,(∀x∈l,∃a:Nat,a<n/\x=(a:Int))->l.length<=(l.map fun v=>(lS (upZ n) n v).length).sum:=fun l=>by
  induction l with
  |nil=>intro _;exact cd _
  | cons x l ih=>
    intro hx;obtain⟨a,ha,rfl⟩:=hx x Tw;have h1:=ih fun y hy=>hx y (by simp[hy])
    have h2:1<=(lS (upZ n) n (a:Int)).length:=by
     refine Qe.2 fun e=>?_
     have:(a:Int)∈lS (upZ n) n (a:Int):=by
      unfold lS;refine IT.2 ⟨a,Qn.2 ⟨P0.2 ha,?_⟩,O⟩;simp[upZ,List.getD,ha]
     rw[e]at this;simp at this
    rw[Pd,bL,PM];omega
 exact IS (e L hr) h
theorem p6(hP:UpOk P){v:Nat}(hv:v<P.length):(cw P P.length v).vs.Nodup/\∀x∈(cw P P.length v).vs,∃a:Nat,a<P.length/\x=(a:Int):=by
 rw[tree_vs];have hr:=rP (P:=P) P.length (v:Int);have hd:∀a (ha:a<P.length),P[a]=(v:Int)->P.length+1<=(bP P a).length+P.length:=fun a ha e=>by
  have:=dN hP ha hv (by rw[getD_at ha];exact e);rw[this,Pd];omega
 have hc:=fun x (hx:x<P.length)=>kY hP P.length (v:Int) hd x hx
 refine⟨Rz.2 ⟨fun h=>?_,List.nodup_iff_count.2 fun x=>?_⟩,fun x hx=>?_⟩
 ·have h1:=List.count_pos_iff.2 h;rw[hc v hv,dw]at h1
  ·omega
  ·intro h2;rcases Pq.1 h2 with h2|h2
   ·exact tf hP hv h2
   ·simp at h2
 ·by_cases hx:x∈jB P P.length (v:Int)
  ·obtain⟨a,ha,rfl⟩:=hr x hx;rw[hc a ha];split<;>omega
  ·rw[List.count_eq_zero.2 hx];omega
 ·rcases AS.1 hx with rfl|hx
  ·exact⟨v,hv,O⟩
  ·exact hr x hx
theorem Cg(hP:UpOk P){f:Gv->Nat}(hf:Msr f)(h1:∀v t,f (lf v t)=1)(h2:f (Gv.whole 1)=1){M:Nat}(hM:1<=M)(hm:∀r,wT S T f r<=M){v:Nat}(hv:v<P.length):gO f (vwS S P T lf v)<=M^S.rels.length:=by
 refine IS (vV hf h1 h2 _ _) (mK hM (fun a ha=>?_) ?_)
 ·obtain⟨r,_,rfl⟩:=IT.1 ha;exact hm r
 ·rw[Pg,rY];exact Ew (p6 hP hv).1
theorem A8(hP:UpOk P){f:Gv->Nat}(hf:Msr f)(h1:∀v t,f (lf v t)=1)(h2:f (Gv.whole 1)=1){M:Nat}(hM:1<=M)(hm:∀r,wT S T f r<=M):c6 ((aA P (-1)).map fun r=>gO f (vwS S P T lf r))<=M^S.rels.length:=by
 refine IS (k7 fun r _=>vV hf h1 h2 P.length r) ?_;rw[<-kN,<-R4];refine mK hM (fun a ha=>?_) ?_
 ·obtain⟨r,_,rfl⟩:=IT.1 ha;exact hm r
 ·rw[Pg];have e:(aA P (-1)).flatMap (FP S P P.length)=(aH P).flatMap (hoL S P):=by
   rw[<-oa,fc,Sa,List.flatMap_assoc];rw[show FP S P P.length=fun c=>(cw P P.length c).vs.flatMap (hoL S P)from funext (rY _)]
  rw[e];exact Ew ((bU hP).nodup_iff.2 (cG _))
theorem Nq(h1:∀v t,(lf v t).k<=1):∀(k:Nat)(v:Int),∀e∈vwK S P T lf k v,e.g.k<=(cw P k v).vs.length:=by
 have key:∀(f:Int->List En)(v:Int)(b:Int->Nat),(∀c∈aA P v,∀e∈f c,e.g.k<=b c)->∀e∈mkV S P T lf f v,e.g.k<=((aA P v).map b).sum+1:=by
  intro f v b hb;refine j4 (I:=fun e=>e.g.k<=((aA P v).map b).sum+1) (fun x y hx hy t=>Nat.max_le.2 ⟨hx,hy⟩) _ (fun _ h=>absurd h Tw) fun l hl=>?_
  have h2:=yq l hl;have h3:=h1 v (l.1.v.getD v.toNat ⟨#[]⟩);have h4:((fe S P T f v).map Prt.km).sum<=((aA P v).map b).sum:=by
   unfold fe;rw[PD,List.sum_append,Q3,Q3];have h5:((hoL S P v).map (Prt.km∘fun r=>eT (oT S r) (l6 T r))).sum<=((hoL S P v).map fun _=>0).sum:=tQ fun r _=>K9 fun i hi=>by
    obtain⟨x,_,rfl⟩:=IT.1 hi;exact BY _
   have h6:((hoL S P v).map fun _=>0).sum=0:=by
    generalize hoL S P v=l;induction l with
    |nil=>rfl
    |cons a l ih=>rw[bL,PM,ih]
   have h7:((aA P v).map (Prt.km∘fun c=>ct (fh S P c) (f c))).sum<=((aA P v).map b).sum:=tQ fun c hc=>K9 fun i hi=>by
    obtain⟨x,hx,rfl⟩:=IT.1 hi;exact hb c hc x ((dy _).mem_iff.1 hx)
   omega
  have h8:(Gv.whole 1).k=0:=rfl;show l.2.k+(lf v _).k<=_;omega
 intro k;induction k with
 | zero=>
   intro v e he;have:=key (fun _=>[]) v (fun _=>0) (fun _ _ _ h=>absurd h Tw) e (by rw[vwK]at he;exact he);have h0:((aA P v).map fun _=>0).sum=0:=by
    generalize aA P v=l;induction l with
    |nil=>rfl
    |cons a l ih=>rw[bL,PM,ih]
   rw[cw,Tr.vs,vsL];simp only[PI];omega
 | succ k ih=>
   intro v e he;have:=key (vwK S P T lf k) v (fun c=>(cw P k c).vs.length) (fun c _ e he=>ih c e he) e (by rw[vwK]at he;exact he);rw[cw,Tr.vs,fc,Sa,Pd,ko];exact this
theorem vwS_k(hP:UpOk P)(h1:∀v t,(lf v t).k<=1){v:Nat}(hv:v<P.length):∀e∈vwS S P T lf v,e.g.k<=P.length:=fun e he=>by
 obtain⟨h2,h3⟩:=p6 hP hv;exact IS (Nq h1 _ _ e he) (M5 h2 h3)
theorem HH(hP:UpOk P){v:Nat}(hv:v<P.length){r:Int}(hr:r∈hoL S P v)(h:l6 T r=[]):vwS S P T lf v=[]:=by
 rw[lL hP hv];refine uL ⟨eT (oT S r) (l6 T r),Rn _ (IT.2 ⟨r,hr,O⟩),?_⟩;rw[h];rfl
theorem BT(hP:UpOk P){v c:Nat}(hv:v<P.length)(hc:(c:Int)∈aA P v)(h:vwS S P T lf c=[]):vwS S P T lf v=[]:=by
 rw[lL hP hv];exact uL ⟨ct (fh S P c) (vwS S P T lf c),Rh _ (IT.2 ⟨c,hc,O⟩),AK h⟩
theorem DZ(hP:UpOk P){h:Nat}(hh:h<P.length)(he:vwS S P T lf h=[]):∀a:Nat,(a:Int)∈(h:Int)::bP P h->vwS S P T lf a=[]:=by
 have key:∀h,h<P.length->vwS S P T lf h=[]->∀a:Nat,(a:Int)∈(h:Int)::bP P h->vwS S P T lf a=[]:=by
  refine pZ hP (fun v hv hp hab he a ha=>?_) (fun v hv p hpl hp hab ih he a ha=>?_)
  ·rw[hab,OF]at ha;have:a=v:=Ts;subst this;exact he
  ·have hpe:vwS S P T lf p=[]:=BT hP hpl (a7.2 ⟨v,hv,O,by rw[getD_at hv];exact hp⟩) he;rcases AS.1 ha with ha|ha
   ·have:a=v:=Ts;subst this;exact he
   ·rw[hab]at ha;exact ih hpe a ha
 exact key h hh he
end
end Vw
end
section
open Go.RowKit Mk Jn Mm Vw
theorem GZ{α:Type}[Inhabited α](enc:α->Value)(w:World)(b n:Nat)(d:Array α)(os:Array Obj)(hb:b<w.heap.size):SrtW (fun x=>[enc x]) b w (Go.Sort.grow (Go.Sort.putRow enc (Go.Sort.ahead w n) b 0 d) os) d.toList:=by
 have hh:(Go.Sort.grow (Go.Sort.putRow enc (Go.Sort.ahead w n) b 0 d) os).heap=(w.heap.modify b (Go.Sort.onCells (Go.Sort.putCells enc 0 d)))++os:=rfl;have hfl:(d.toList.flatMap fun x=>[enc x])=d.toList.map enc:=by rw[Tf]
 refine⟨O,O,O,?_,fun j hj hne=>?_,fun arr ty fz h hle=>?_⟩
 ·rw[hh];simp
 ·rw[hh,Sj (by simpa using hj),RG,dw (Ne.symm hne)]
 ·refine⟨Go.Sort.putCells enc 0 d arr,?_,by simp[Go.Sort.putCells],?_⟩
  ·rw[hh,Sj (by simpa using hb),RG,AT O,h];rfl
  ·rw[hfl]at hle ⊢;apply Qu
   ·simp[Go.Sort.putCells]at hle ⊢; omega
   ·intro i h1 h2;simp only[Pg,Px]at h2 hle;simp only[List.getElem_take,Array.getElem_toList,Go.Sort.putCells,Array.getElem_mapIdx,Qm];rw[AT ⟨cd _,Ts⟩,S8,getElem!_pos d i h2]
theorem vg(l:List ByteArray):uW l=bO l:=(Tf ..).symm
theorem JI{a b:ByteArray}:leS a b↔a.data.toList<=b.data.toList:=by
 unfold leS ltS;exact List.not_lt
theorem BK{enc:List UInt8->Value}{w:World}{b:Nat}{arr:Array Value}{ty:TypeId}{ds:List (List UInt8)}(hb:w.heap[b]? =some (.cells arr ty (0,0)))(h:arr.toList.take (ds.flatMap fun x=>[enc x]).length=ds.flatMap fun x=>[enc x]):Go.Sort.Holds enc w b 0 ds.toArray:=by
 have hfl:(ds.flatMap fun x=>[enc x])=ds.map enc:=by rw[Tf]
 rw[hfl]at h;intro j hj;rw[Pv]at hj;have e1:(arr.toList.take (ds.map enc).length)[j]? =(ds.map enc)[j]? :=by rw[h]
 rw[Pw,AT (by simpa using hj),SY,Rv,By hj]at e1;constructor
 ·simp only[World.cell?,hb,PJ];rw[e1,getElem!_pos ds.toArray j (by simpa using hj)];simp
 ·simp[World.frozen?,hb]
theorem uS(l:List ByteArray)(hl:l.length<=1000000):FnO prog 344 1 0 [.gsl big 1 l.length] [(big,.gro 9 (uW l))] (fun v ob'=>v= .tup []/\ob'=ax [(big,.gro 9 (uW (o9 l)))]):=by
 intro w m R us hR hrel;simp only[RelL,Rel]at hrel;obtain⟨u1,us1,rfl,⟨_,A,c,rfl,hnc,hcm,h0,h1⟩,rfl⟩:=hrel;refine(kz (α:=List UInt8) (fun x=>[Go.Proofs.encStr x]) (fun _=>rfl) Nn (fun _=>rfl) Tu (fun x=>⟨x.toArray⟩) (fun ds=>ds.Pairwise fun a b=>a<=b) List.Pairwise.nil hR (fun h=>(h0 h).1) h1 (fun us h=>?_) (fun w' _ ds=>?_)
  (Tryz.slices_Sort_string_none none c w) ?_).mono ?_
 ·refine⟨l.map (·.data.toList),by rw[Q3];exact(PR fun x _=>rfl).trans (Tl l),?_⟩;have h2:RelPL w R.p (bO l) us:=by
   rw[<-vg];exact h
  rw[oc h2,Sa,Tf]
 ·have e:((ds.map fun x=>(⟨x.toArray⟩:ByteArray)).flatMap Nn)=bO (ds.map fun x=>(⟨x.toArray⟩:ByteArray)):=vg _;have e2:(ds.flatMap fun x=>[Go.Proofs.encStr x])=(ds.map fun x=>(⟨x.toArray⟩:ByteArray)).map Value.string:=by rw[Q3,Tf];rfl
  rw[e,e2];exact F6 _
 ·intro b ds arr hds hpos hb ht hbs hbR;have hdl:ds.length=l.length:=by rw[<-hds,Pg]
  have hgo:=Tryz.slices_Sort_string b 0 c ds w (BK hb ht) hbs Ts;rw[hdl]at hgo;refine Calls.mono hgo ?_;rintro e w' ⟨rfl,n,os,rfl⟩;refine⟨O,ds.mergeSort fun x y=>decide (x<=y),Td _ _,?_,GZ Go.Proofs.encStr w b n _ os hbs⟩;have:=SE (le:=fun a b:List UInt8=>decide (a<=b)) (by intro a b c h1 h2;simp only[Po]at *; exact List.le_trans h1 h2) (by intro a b;simp only[PQ,Po];exact List.le_total a b) ds;exact this.imp Tw
 ·rintro e w' ⟨u,v,ob',m',R',rfl,⟨l',ds',hp,rfl,hs,rfl,rfl⟩,r⟩;refine⟨u,_,_,m',R',O,⟨O,?_⟩,r⟩;have e:ds'.map (fun x=>(⟨x.toArray⟩:ByteArray))=o9 l:=by
   refine rE hp ?_;rw[Q9];exact hs.imp fun{a b} h=>JI.2 (by simpa using h)
  rw[e];rfl
theorem wm(ks vs:List PV):FnP prog 288 [.mp ks vs] (· = .fn (.func 345) [] [.rp [.mp ks vs] 0]):=by
 refine FnP.of func288 O ntmps288 Tw fun m0 w0 F R0=>?_
 exact Z2 O O O<|OT (St.iB 0 O O)<|Z2 O O O<|Gt O<|⟨_,_,O,O,O⟩
theorem tj(xs:List ByteArray)(vs:List PV)(hn:xs.length<=1000000):
  FnP prog 287 [.fn (.func 345) [] [.rp [.mp (xs.map PV.str) vs] 0]] (· =aZ (o9 xs)):=by
 have hcol:=CY xs vs hn;refine FnP.of func287 O ntmps287 Tw fun m0 w0 F R0=>?_
 refine Z1 O O<|Z1 O O ?_;refine RL.call O (bM [] 0 call343 O O O O (by exact trivial) Tu O hcol ?_);rintro _ _ ⟨ss,hS,rfl,rfl⟩;refine A1 O ?_;have hsl:ss.length<=1000000:=by rw[hS.length_eq];exact hn
 have hso:=uS ss hsl;refine Z1 O O ?_;refine RL.call O (bM [0] 1 call344 O O O O (by exact⟨Tt,TB⟩) Tu O hso ?_);rintro _ _ ⟨rfl,rfl⟩;have hse:o9 ss=o9 xs:=rE ((kR ss).trans hS) (lF ss);have hle:ss.length=(o9 xs).length:=by rw[<-hse,(kR ss).length_eq]
 rw[hse,hle];exact Z2 O O O<|Gt O<|⟨_,_,O,O,by show PV.sl none _ (uW _)=_;rw[vg]⟩
end
section
namespace Vw
open Mm Jn Mk
set_option autoImplicit false
section
variable {Q:List Par}{X:Nat->List ByteArray}
structure VX(X:Nat->List ByteArray)(A:List Int)(V:List ByteArray):Prop where
 len:V.length=A.length
 x:∀j (h:j<V.length) (h':j<A.length),V[j]∈X A[j].toNat
structure ChX(n:Nat)(X:Nat->List ByteArray)(x:Ch):Prop where
 v:x.v.length=n
 s:x.s.length=n
 x:∀a,x.v.getD a ⟨#[]⟩∈X a
theorem NL{n:Nat}(h0:∀a,(⟨#[]⟩:ByteArray)∈X a):ChX n X (ch0 n):=by
 refine⟨by simp[ch0],by simp[ch0],fun a=>?_⟩;have:(ch0 n).v.getD a ⟨#[]⟩=⟨#[]⟩:=by
  simp only[ch0,Pk,List.getElem?_replicate];split<;>rfl
 rw[this];exact h0 a
theorem Fw{n:Nat}:∀{A:List Int}{V:List ByteArray}{x:Ch},VX X A V->ChX n X x->ChX n X (xy x A V)
 |[],V,x,_,h=>h
 |a::A,[],x,hv,_=>absurd hv.len Tw
 | a::A,t::V,x,hv,h=>by
   show ChX n X (xy (AR x (a,t)) A V);refine Fw ⟨by have:=hv.len;simpa using this,fun j h1 h2=>?_⟩ ⟨by simpa[AR]using h.v,by simpa[AR]using h.s,fun b=>?_⟩
   ·have:=hv.x (j+1) (by simpa using h1) (by simpa using h2);simpa using this
   ·have h3:=hv.x 0 Tw Tw;simp only[List.getElem_cons_zero]at h3;simp only[AR,Pk,Sq];split
    ·rename_i e;subst e;split
     ·exact h3
     ·have h4:=h.x a.toNat
      rename_i h5;rw[Pk,Qg Ts]at h4;exact h4
    ·have h4:=h.x b;rw[Pk]at h4;exact h4
structure ItX(Q:List Par)(X:Nat->List ByteArray)(A:List Int)(V:List ByteArray)(g:Gv):Prop where
 ok:GvOk Q g
 n:1<=g.n
 v:VX X A V
abbrev PtX(Q:List Par)(X:Nat->List ByteArray)(p:Prt):Prop:=∀i∈p.is,ItX Q X p.a i.v i.g
theorem Ll{n:Nat}{K:List Int}{x:Ch}(h:ChX n X x):VX X K (jl K x):=
 ⟨by simp[jl],fun j h1 h2=>by simp only[jl,Qm];exact h.x _⟩
theorem xW{n:Nat}{ps:List Prt}(hp:∀p∈ps,PtX Q X p){x:Ch}{g:Gv}(hx:ChX n X x)(hg:GvOk Q g)(hn:1<=g.n):∀l∈leaves ps x g,ChX n X l.1/\GvOk Q l.2/\1<=l.2.n:=
 Aa (I:=fun x g=>ChX n X x/\GvOk Q g/\1<=g.n) ⟨hx,hg,hn⟩ fun p hpp i hi x g h _=>⟨Fw (hp p hpp i hi).v h.1,h.2.1.mul (hp p hpp i hi).ok,Qc h.2.2 (hp p hpp i hi).n⟩
structure LfX(Q:List Par)(X:Nat->List ByteArray)(lf:Int->ByteArray->Gv):Prop where
 g:∀v t,t∈X v.toNat->GvOk Q (lf v t)
 n:∀v t,(lf v t).n=1
 w:∀v t,(lf v t).w=1
 k:∀v t,(lf v t).k=1
 x0:∀a,(⟨#[]⟩:ByteArray)∈X a
theorem Ez{lf:Int->ByteArray->Gv}(hl:LfX Q X lf){n:Nat}{v:Int}{K:List Int}{ps:List Prt}(hp:∀p∈ps,PtX Q X p):∀e∈viewE (lf v) n v K ps,ItX Q X K e.v e.g:=by
 refine j4 (I:=fun e=>ItX Q X K e.v e.g) (fun x y hx hy t=>⟨hx.ok.add hy.ok,IS hx.n (RD _ _),hx.v⟩) _ (fun _ h=>absurd h Tw) fun l hll=>?_
 obtain⟨h1,h2,h3⟩:=xW hp (NL (n:=n) hl.x0) (GvOk.whole Q 1) (BY 1) l hll;refine⟨h2.mul (hl.g _ _ (h1.x _)),?_,Ll h1⟩;show 1<=l.2.n*(lf v _).n;rw[hl.n];omega
section
variable {S:Sch}{P:List Int}{T:List (List Rw)}{lf:Int->ByteArray->Gv}
def TbX(X:Nat->List ByteArray)(S:Sch)(T:List (List Rw)):Prop:=∀r:Int,∀x∈l6 T r,VX X (oT S r) x.v
theorem Oo(hT:TbX X S T)(r:Int):PtX Q X (eT (oT S r) (l6 T r)):=fun i hi=>by
 obtain⟨x,hx,rfl⟩:=IT.1 hi;exact⟨GvOk.whole Q _,BY 1,hT r x hx⟩
theorem NZ{K:List Int}{E:List En}(h:∀e∈E,ItX Q X K e.v e.g):PtX Q X (ct K E):=fun i hi=>by
 obtain⟨e,he,rfl⟩:=IT.1 hi;exact h e ((dy E).mem_iff.1 he)
theorem vw(hT:TbX X S T){f:Int->List En}{v:Int}(hf:∀c∈aA P v,∀e∈f c,ItX Q X (fh S P c) e.v e.g):∀p∈fe S P T f v,PtX Q X p:=fun p hp=>by
 rcases Pq.1 hp with hp|hp
 ·obtain⟨r,_,rfl⟩:=IT.1 hp;exact Oo hT r
 ·obtain⟨c,hc,rfl⟩:=IT.1 hp;exact NZ (hf c hc)
theorem Nj(hl:LfX Q X lf)(hT:TbX X S T):∀(k:Nat)(v:Int),∀e∈vwK S P T lf k v,ItX Q X (fh S P v) e.v e.g
 |0,v=>by rw[vwK];exact Ez hl (vw hT fun _ _ _ h=>absurd h Tw)
 |k+1,v=>by rw[vwK];exact Ez hl (vw hT fun c _=>Nj hl hT k c)
theorem Mr(hl:LfX Q X lf)(hT:TbX X S T)(v:Int):∀e∈vwS S P T lf v,ItX Q X (fh S P v) e.v e.g:=Nj hl hT _ v
theorem JF(f:Int->List En)(v:Int):EnOk (mkV S P T lf f v):=xt _ EnOk.nil
theorem M3:∀(k:Nat)(v:Int),EnOk (vwK S P T lf k v)
 |0,v=>by rw[vwK];exact JF _ v
 |k+1,v=>by rw[vwK];exact JF _ v
theorem I9(v:Int):EnOk (vwS S P T lf v):=M3 _ v
def getV(vs:List (Option (List En)))(c:Int):List En:=(vs.getD c.toNat none).getD []
noncomputable def bldS(S:Sch)(P:List Int)(T:List (List Rw))(lf:Int->ByteArray->Gv)(vs:List (Option (List En)))(v:Int):List (Option (List En)):=vs.set v.toNat (some (mkV S P T lf (getV vs) v))
noncomputable def stV(S:Sch)(P:List Int)(T:List (List Rw))(lf:Int->ByteArray->Gv)(D:List Int):List (Option (List En)):=(List.range P.length).map fun a:Nat=>if(a:Int)∈D then some (vwS S P T lf a)else none
theorem Da(D:List Int):(stV S P T lf D).length=P.length:=by simp[stV]
theorem yW{D:List Int}{a:Nat}(h:a<(stV S P T lf D).length):(stV S P T lf D)[a]=if(a:Int)∈D then some (vwS S P T lf a)else none:=by simp[stV]
theorem Fh{D:List Int}{a:Nat}(ha:a<P.length)(h:(a:Int)∈D):getV (stV S P T lf D) a=vwS S P T lf a:=by
 unfold getV;rw[Pk,Pz,By (by rw[Da];exact ha),yW,AT h];rfl
theorem yD(hP:UpOk P){i:Nat}(hi:i<(aH P).length):bldS S P T lf (stV S P T lf ((aH P).drop (i+1))) (aH P)[i]=stV S P T lf ((aH P).drop i)/\∀c∈aA P (aH P)[i],c∈(aH P).drop (i+1):=by
 have hn:(aH P).Nodup:=(bU hP).nodup_iff.2 (cG _);obtain⟨v,hv,e⟩:∃v:Nat,v<P.length/\(aH P)[i]=(v:Int):=by
  have:=(bU hP).mem_iff.1 (ar hi);exact bI.1 this
 have hch:∀c∈aA P (aH P)[i],c∈(aH P).drop (i+1):=by
  intro c hc;rw[e]at hc;obtain⟨m,hm,rfl,hp⟩:=a7.1 hc;have hmw:(m:Int)∈aH P:=(bU hP).mem_iff.2 (bI.2 ⟨m,hm,O⟩);obtain⟨j,hj,ej⟩:=Q0 hmw;have h2:=(KO hP hj).2;rw[ej,Pz,hp]at h2;rcases h2 with h2|h2
  ·omega
  ·obtain⟨l,hl,el⟩:=QS.1 h2;have:l=i:=by
    have h3:(aH P)[l]'Ts=(aH P)[i]:=by rw[el,e]
    exact(List.getElem_inj hn).1 h3
   rw[List.mem_drop_iff_getElem];obtain⟨d,rfl⟩:∃d,j=i+1+d:=⟨j-(i+1),Ts⟩;exact⟨d,Ts,ej⟩
 refine⟨?_,hch⟩;have hdrop:(aH P).drop i=(aH P)[i]::(aH P).drop (i+1):=PC hi;have hmk:mkV S P T lf (getV (stV S P T lf ((aH P).drop (i+1)))) (v:Int)=vwS S P T lf v:=by
  rw[lL hP hv];refine jZ fun c hc=>?_
  have h1:=hch c (by rw[e];exact hc);obtain⟨m,hm,rfl,_⟩:=a7.1 hc;exact Fh hm h1
 unfold bldS;rw[e,hmk,hdrop,e,Pz];apply Qu
 ·simp[stV]
 ·intro a h1 h2;rw[yW h2,SQ];by_cases hav:v=a
  ·subst hav;simp
  ·rw[dw hav,yW (by simpa[stV]using h1)];have:((a:Int)∈(v:Int)::(aH P).drop (i+1))↔(a:Int)∈(aH P).drop (i+1):=by
    simp only[AS];exact⟨fun h=>h.elim (fun h=>absurd h Ts) id,.inr⟩
   simp only[this]
theorem Nw(hP:UpOk P){i v:Nat}(hi:i<(aH P).length)(e:(aH P)[i]=(v:Int)):(stV S P T lf ((aH P).drop (i+1))).set v (some (vwS S P T lf v))=stV S P T lf ((aH P).drop i):=by
 obtain⟨h1,h2⟩:=yD (S:=S) (T:=T) (lf:=lf) hP hi;rw[<-h1];have hv:v<P.length:=by
  have:=(bU hP).mem_iff.1 (ar hi);obtain⟨w,hw,e2⟩:=bI.1 this;omega
 unfold bldS;rw[e,Pz,lL hP hv]
 congr 2
 refine jZ fun c hc=>?_
 have h3:=h2 c (by rw[e];exact hc);obtain⟨m,hm,rfl,_⟩:=a7.1 hc;exact(Fh hm h3).symm
theorem LN(hP:UpOk P):stV S P T lf (aH P)=(List.range P.length).map fun a:Nat=>some (vwS S P T lf a):=by
 unfold stV;refine PR fun a ha=>AT ?_
 exact(bU hP).mem_iff.2 (bI.2 ⟨a,P0.1 ha,O⟩)
def fG(E:List En):List En:=E.mergeSort fun a b=> !bl b.v a.v
theorem fU(E:List En):(fG E).Perm E:=Td _ _
theorem z8{a b:List ByteArray}(h:bl a b=true):bl b a=false:=by
 cases h2:bl b a with
 |false=>rfl
 |true=>have:=eQ h h2;rw[lD]at this;cases this
theorem L8(E:List En):(fG E).Pairwise fun a b=>bl b.v a.v=false:=by
 have h:=SE (le:=fun a b:En=> !bl b.v a.v) (fun a b c h1 h2=>?_) (fun a b=>?_) E
 ·exact h.imp fun{a b} h=>by simpa using h
 ·simp only[Rm]at*;cases h3:bl c.v a.v with
  |false=>rfl
  | true=>
    cases h4:bl b.v c.v with
    |true=>rw[eQ h4 h3]at h1;cases h1
    |false=>rw[ky h2 h4]at h3;rw[h3]at h1;cases h1
 ·cases h1:bl b.v a.v with
  |false=>rfl
  |true=>rw[z8 h1];rfl
theorem EnOk.vnd{E:List En}(h:EnOk E):E.Pairwise fun a b=>a.v≠b.v:=by
 have:=h.nd;rw[List.Nodup,Q9]at this;refine List.Pairwise.imp_of_mem (fun{a b} ha hb hne e=>hne ?_) this;rw[h.t a ha,h.t b hb,e]
theorem qj:∀{l m:List En},(l.Pairwise fun a b=>bl b.v a.v=false)->(m.Pairwise fun a b=>bl b.v a.v=false)->(l.Pairwise fun a b=>a.v≠b.v)->l.Perm m->l=m
 |[],m,_,_,_,hp=>List.Perm.nil_eq hp
 |x::l,[],_,_,_,hp=>absurd hp.length_eq Tw
 | x::l,y::m,h1,h2,h3,hp=>by
   obtain⟨a1,a2⟩:=PW.1 h1;obtain⟨b1,b2⟩:=PW.1 h2;obtain⟨c1,c2⟩:=PW.1 h3;have hxy:x=y:=by
    rcases AS.1 (hp.mem_iff.1 (PU))with e|hx
    ·exact e
    ·rcases AS.1 (hp.mem_iff.2 (PU))with e|hy
     ·exact e.symm
     ·exact absurd (ky (b1 x hx) (a1 y hy)) (c1 y hy)
   subst hxy;rw[qj a2 b2 c2 (List.Perm.cons_inv hp)]
theorem Lw{E l:List En}(h:EnOk E)(hp:l.Perm E)(hs:l.Pairwise fun a b=>bl b.v a.v=false):l=fG E:=
 qj hs (L8 E) (hp.symm.pairwise h.vnd fun h e=>h e.symm) (hp.trans (fU E).symm)
def gz:Gv:=⟨Mm.Sem.zero,0,0,0⟩
theorem OP(Q:List Par):GvOk Q gz:=by
 have h:Mm.Sem.zero=cnt (0:Nat):=Mm.Sem.same (by show(0:Rat)=(((0:Nat):Int):Rat);rfl) (fun _=>rfl) (fun _ _=>rfl);refine⟨?_,?_⟩
 ·show SOk 0 0 Mm.Sem.zero;rw[h];exact kU 0
 ·show Sup Q Mm.Sem.zero;rw[h];exact Sup.cnt Q _
def atV(E:List En)(key:List ByteArray):Gv:=((E.find? fun e=>decide (e.v=key)).map (·.g)).getD gz
theorem Ou{E:List En}{Q:List Par}(h:∀e∈E,GvOk Q e.g)(key:List ByteArray):GvOk Q (atV E key):=by
 unfold atV;cases he:E.find? fun e=>decide (e.v=key)with
 |none=>exact OP Q
 |some e=>exact h e (RQ he)
theorem MA{f:Gv->Nat}(h0:f gz=0)(E:List En)(key:List ByteArray):f (atV E key)<=gO f E:=by
 unfold atV;cases he:E.find? fun e=>decide (e.v=key)with
 |none=>show f gz<=_;rw[h0];exact cd _
 |some e=>exact u7 (RQ he)
noncomputable def totF(S:Sch)(P:List Int)(T:List (List Rw))(lf:Int->ByteArray->Gv)(rs:List Int)(z:Gv):Gv:=rs.foldl (fun z r=>z.mul (atV (fG (vwS S P T lf r)) [])) z
noncomputable def totV(S:Sch)(P:List Int)(T:List (List Rw))(lf:Int->ByteArray->Gv):Gv:=totF S P T lf (aA P (-1)) (Gv.whole 1)
theorem CD(x:Mm.Sem):Mm.Sem.mul x Mm.Sem.zero=Mm.Sem.zero:=by rw[show Mm.Sem.mul x Mm.Sem.zero=uV.mul x uV.zero from O,uV.mul_comm,uV.zero_mul];rfl
theorem Bl(x:Mm.Sem):Mm.Sem.mul Mm.Sem.zero x=Mm.Sem.zero:=by rw[show Mm.Sem.mul Mm.Sem.zero x=uV.mul uV.zero x from O,uV.zero_mul];rfl
theorem tT:∀{rs:List Int}{z:Gv},(z.m=Mm.Sem.zero\/∃r∈rs,vwS S P T lf r=[])->(totF S P T lf rs z).m=Mm.Sem.zero
 | [],z,h=>by
   rcases h with h|⟨r,hr,_⟩
   ·exact h
   ·simp at hr
 | r::rs,z,h=>by
   show(totF S P T lf rs (z.mul (atV (fG (vwS S P T lf r)) []))).m=_;refine tT ?_;rcases h with h|⟨q,hq,he⟩
   ·refine .inl ?_;show Mm.Sem.mul z.m _=_;rw[h,Bl]
   ·rcases AS.1 hq with rfl|hq
    ·refine .inl ?_;rw[he];have e0:atV (fG ([]:List En)) []=gz:=by simp[fG,atV]
     rw[e0];show Mm.Sem.mul z.m Mm.Sem.zero=_;rw[CD]
    ·exact .inr ⟨q,hq,he⟩
theorem xN{f:Gv->Nat}(hf:Msr f)(h0:f gz=0):∀{rs:List Int}{z:Gv},f (totF S P T lf rs z)<=f z*c6 (rs.map fun r=>gO f (vwS S P T lf r))
 |[],z=>by show f z<=f z*1;omega
 | r::rs,z=>by
   show f (totF S P T lf rs (z.mul (atV (fG (vwS S P T lf r)) [])))<=_;refine IS (xN hf h0 (rs:=rs)) ?_;rw[hf.mul,bL,c6,<-Q6];refine Qs _ (P8 _ ?_);refine IS (MA h0 _ _) (Qp ?_);exact((fU _).map fun e=>f e.g).sum_nat
theorem JW:∀{rs:List Int}{z:Gv}(b:Int->Nat),(∀r∈rs,∀e∈vwS S P T lf r,e.g.k<=b r)->(totF S P T lf rs z).k<=z.k+(rs.map b).sum
 |[],z,b,_=>by show z.k<=z.k+0;omega
 | r::rs,z,b,h=>by
   show(totF S P T lf rs (z.mul (atV (fG (vwS S P T lf r)) []))).k<=_;refine IS (JW (rs:=rs) b fun q hq=>h q (by simp[hq])) ?_;have h1:(atV (fG (vwS S P T lf r)) []).k<=b r:=by
    unfold atV;cases he:(fG (vwS S P T lf r)).find? fun e=>decide (e.v=[])with
    |none=>exact cd _
    |some e=>exact h r Tw e ((fU _).mem_iff.1 (RQ he))
   show z.k+(atV _ []).k+_<=_;rw[bL,PM];omega
theorem M4(hP:UpOk P)(h1:∀v t,(lf v t).k<=1):(totV S P T lf).k<=P.length:=by
 have h:=JW (S:=S) (P:=P) (T:=T) (lf:=lf) (rs:=aA P (-1)) (z:=Gv.whole 1) (fun r=>(cw P P.length r).vs.length) (fun r _ e he=>Nq h1 _ r e he);have e:((aA P (-1)).map fun r=>(cw P P.length r).vs.length).sum=(aH P).length:=by
  rw[<-oa,fc,Sa,ko]
 rw[e,(bU hP).length_eq,aW]at h;have h0:(Gv.whole 1).k=0:=rfl;unfold totV;omega
end
end
end Vw
end
section
section
variable {w:World}{m:Gm}{av:Av}{R:Nat->Prop}
theorem y6:∀(ps:List V)(vs:List Value)(k t:Nat),RelL w m av R ps vs->k<=t->∀z:Value,Rel w m av R (look (cF k ps) t) (vs[t-k]?.getD z)
 |[],vs,k,t,_,_,z=>by simp only[cF,look,Rel,RelP]
 | p::ps,vs,k,t,hr,hk,z=>by
   simp only[RelL]at hr;obtain⟨u,vs',rfl,h1,h2⟩:=hr;simp only[cF,look];by_cases e:t=k
   ·subst e;simp only[Sn,Qd,SO];simpa using h1
   ·have hb:Nat.beq t k=false:=by cases hb:Nat.beq t k;rfl;exact absurd (aI hb) e
    rw[hb];have:=y6 ps vs' (k+1) t h2 Ts z;have e2:t-k=(t-(k+1))+1:=Ts;rw[e2];simpa using this
theorem xu:∀(ps:List V)(vs:List Value)(k:Nat),ps.length=vs.length->(∀t,k<=t->t<k+vs.length->∀z:Value,Rel w m av R (look (cF k ps) t) (vs[t-k]?.getD z))->RelL w m av R ps vs
 |[],[],_,_,_=>by simp only[RelL]
 |[],v::vs,_,h,_=>by simp at h
 |p::ps,[],_,h,_=>by simp at h
 | p::ps,v::vs,k,h,hs=>by
   refine RelL.cons ?_ (xu ps vs (k+1) (by simpa using h) fun t h1 h2 z=>?_)
   ·have:=hs k (BY _) Tw v;simpa[cF,look]using this
   ·have:=hs t Ts Tx z;have hb:Nat.beq t k=false:=by cases hb:Nat.beq t k;rfl;have:=aI hb;omega
    simp only[cF,look,hb,PE]at this;have e2:t-k=(t-(k+1))+1:=Ts;rw[e2]at this;simpa using this
end
theorem Fm{k k1 k' i:Nat}(hk:k<=k1)(h:okR k k' i=true):okR k1 k' i=true:=by
 unfold okR at*;simp only[PQ,sh]at h ⊢;rcases h with h|⟨h1,h2⟩
 ·exact .inl h
 ·refine .inr ⟨h1,?_⟩;have:i<big+k:=Pp h2;exact RI (by omega:i+1<=big+k1)
mutual
theorem V.xB{p q:Nat->Bool}(h:∀i,p i=true->q i=true):∀v:V,v.all p=true->v.all q=true
 | .pv _,_=>rfl
 | .ptr i _,hv=>h i hv
 | .osl i _ _,hv=>h i hv
 | .tsl i _ _,hv=>h i hv
 | .gsl i _ _,hv=>h i hv
 | .map i,hv=>h i hv
 | .agg vs,hv=>V.allL_up h vs hv
 | .tup vs,hv=>V.allL_up h vs hv
 | .fn _ a b,hv=>by
   simp only[V.all,sh]at hv ⊢;exact⟨V.allL_up h a hv.1,V.allL_up h b hv.2⟩
theorem V.allL_up{p q:Nat->Bool}(h:∀i,p i=true->q i=true):∀vs:List V,V.allL p vs=true->V.allL q vs=true
 |[],_=>rfl
 | v::vs,hv=>by
   simp only[V.allL,sh]at hv ⊢;exact⟨V.xB h v hv.1,V.allL_up h vs hv.2⟩
end
theorem Ob.xB{p q:Nat->Bool}(h:∀i,p i=true->q i=true):∀o:Ob,o.all p=true->o.all q=true
 | .mix _ vs,hv=>V.allL_up h vs hv
 | .cells _ _,_=>rfl
 | .gro _ _,_=>rfl
 | .mp _ _,_=>rfl
 | .it _ _,_=>rfl
 | .fro _ _,_=>rfl
 | .mi _ _ _,_=>rfl
theorem St.xc{σ τ:St}(hob:σ.ob=τ.ob)(hav:σ.av=τ.av)(hs:∀t w m R u,Rel w m σ.av R (σ.sl t) u->Rel w m σ.av R (τ.sl t) u):σ.le τ:=by
 rintro C n a w ⟨m,R,hw⟩;refine⟨m,R,⟨?_,hw.df,hw.sz,fun t ht=>?_⟩⟩
 ·have:=hw.hr;rw[hob,hav]at this;exact this
 ·rw[<-hav];exact hs t w m R _ (hw.sl t ht)
def St.setSl(σ:St)(t:Nat)(v:V):St:=⟨fun i=>bif Nat.beq i t then v else σ.sl i,σ.ob,σ.av⟩
theorem St.ON{σ:St}{f:Fn}{fs cs:List PV}(t:Nat)(h:σ.sl t= .fn f (fs.map V.pv) (cs.map V.pv)):σ.le (σ.setSl t (.pv (.fn f fs cs))):=by
 refine St.xc O O fun i w m R u hu=>?_
 show Rel w m σ.av R (bif Nat.beq i t then _ else σ.sl i) u;cases hb:Nat.beq i t with
 |false=>exact hu
 | true=>
   obtain rfl:=aI hb;rw[h]at hu;simp only[Qd,Rel,RelP]at hu ⊢;obtain⟨us,vs,rfl,h1,h2⟩:=hu;exact⟨us,vs,O,h1.toP,h2.toP⟩
theorem FnO.weak{P:Program}{f:FuncId}{k k1 k':Nat}{args args1:List V}{os os1:List (Nat×Ob)}{Q:V->(Nat->Option Ob)->Prop}(h:FnO P f k k' args os Q)(hk:k<=k1)(hla:args.length=args1.length)(hle:(mkS (cF 0 args1) os1 0).le (mkS (cF 0 args) os 0)):
  FnO P f k1 k' args1 os1 Q:=by
 intro w m R us hHR hrel;have hl:=hrel.length;obtain⟨R1,hp1,hd1⟩:∃R1:RT w (dj m),R1.p=R.p/\R1.df=[]:=⟨⟨R.p,R.g,R.d,[]⟩,O,O⟩;have init:SJ ⟨P,m,w,dj m,R1⟩ us.length (mkS (cF 0 args1) os1 0) { tmps:=us.toArray,defers:=[] } w:=by
  refine⟨m,R.p,⟨hHR.dfs hp1,hd1.symm,Tw,fun t ht=>?_⟩⟩;show Rel w m (avK 0) R.p (look (cF 0 args1) t) (us.toArray.getD t undef);have:=y6 args1 us 0 t hrel (cd _) undef;rw[PN];simpa using this
 obtain⟨m2,R2,hw⟩:=hle _ _ _ _ init;have hr:=hw.hr;have hF:∀b,dj m2 b->dj m b:=fun b ⟨id,N,e⟩=>by
  obtain⟨h1,_,h3⟩:=hr.own id b N e;rcases h3 with h3|h3
  ·exact h3
  ·have:w.heap.size<=b:=h3;omega
 have hR2:∀b,R.p b->R2 b:=fun b hb=>hr.r0 b (by show R1.p b;rw[hp1];exact hb)
 have hRT:∃R3:RT w (dj m2),R3.p=R2:=⟨⟨R2,R.g.mono fun b hb=>⟨hR2 b hb,O⟩,fun b hb=>⟨hr.rsz b hb,fun⟨id,N,e⟩=>(hr.own id b N e).2.1 hb⟩,[]⟩,O⟩;obtain⟨R3,hR3⟩:=hRT;have hH2:HR ⟨P,m2,w,dj m2,R3⟩ m2 R3.p (ax os) (avK 0) w:=by
  rw[hR3];exact⟨hr.dom,hr.free,hr.obj,hr.inj,fun id b N e=>⟨(hr.own id b N e).1,(hr.own id b N e).2.1,.inl ⟨id,N,e⟩⟩,hr.rsz,fun b hb=> .inl (by show R3.p b;rw[hR3];exact hb),fun b hb=>by have:R3.p b:=hb;rw[hR3]at this;exact this,Fr.refl _ _,fun _ _ _ e=>e,hr.res⟩
 have hargs:RelL w m2 (avK 0) R3.p args us:=by
  rw[hR3];refine xu args us 0 Ts fun t _ ht z=>?_
  have:=hw.sl t Ts;have e:us[t-0]?.getD z=us.toArray.getD t undef:=by
   rw[PN];have ht':t<us.length:=Ts;simp[ht']
  rw[e];exact this
 refine(h w m2 R3 us hH2 hargs).mono ?_;rintro e w' ⟨u,v,ob',m',R',rfl,hq,hv,hall,hH,hrv⟩;refine⟨u,v,ob',m',R',O,hq,V.xB (fun i=>Fm hk) v hv,fun i o ho=>⟨Fm hk (hall i o ho).1,Ob.xB (fun i=>Fm hk) o (hall i o ho).2⟩,?_,hrv⟩;have hfr:=hH.frame;refine⟨hH.dom,hH.free,hH.obj,hH.inj,fun id b N e=>⟨(hH.own id b N e).1,(hH.own id b N e).2.1,(hH.own id b N e).2.2.imp (hF b) fun h=>h⟩,hH.rsz,fun b hb=>?_,fun b hb=>hH.r0 b (by show R3.p b;rw[hR3];exact hR2 b hb),⟨hfr.os,hfr.tape,hfr.output,hfr.size,fun k hk hn=>hfr.block k hk fun h=>hn (hF k h)⟩,fun id x hid e=>hr.keep id x hid (hH.keep id x hid e),hH.res⟩;rcases hH.rfr b hb with h1|h1|h1
 ·have h2:R2 b:=by have:R3.p b:=h1;rw[hR3]at this;exact this
  rcases hr.rfr b h2 with h3|h3|h3
  ·exact .inl (by have:R1.p b:=h3;rw[hp1]at this;exact this)
  ·exact .inr (.inl h3)
  ·exact .inr (.inr h3)
 ·exact .inr (.inl h1)
 ·exact .inr (.inr (hF b h1))
end
section
open Go.RowKit Mk Jn Mm
theorem nO(q:Rat)(h:F1 q):FnP prog 125 [frP q,.rp [.int .i64 0] 0] (· = .str (fL q)):=by
 refine FnP.of func125 O ntmps125 Tw fun m0 w0 F R0=>?_
 have hf:=zn q h;refine Z2 O O O<|Z1 O O<|Rs 8 O O (aa call126 hf O) ?_;iterate 5 refine A1 O ?_
 refine Z2 O O O ?_;refine Gc O O (fun hc12=>absurd hc12 Tw) (fun hc12=>?_);exact OR<|Z2 O O O<|Gt O<|⟨_,_,O,O,O⟩
theorem Jt{K:Type}[BEq K][LawfulBEq K]{l:List (K×Rat)}(hn:(l.map (·.1)).Nodup){i:Nat}(hi:i<l.length):s7 l l[i].1=some l[i].2:=by
 have hf:l.findIdx? (fun e=>e.1==l[i].1)=some i:=by
  rw[Rj];refine⟨hi,Tw,fun j hj=>?_⟩;have h1:=P6.1 hn j i Tx Tx hj;simp only[Qm]at h1;simpa using h1
 unfold s7;rw[hf];simp[hi]
theorem xo{K:Type}{cmp:K->K->Int}(h:Mm.Cmp cmp){l:List (K×Rat)}(ha:l.Pairwise fun a b=>cmp a.1 b.1<0):(l.map (·.1)).Nodup:=by
 rw[List.Nodup,Q9];refine ha.imp fun{a b} h1 e=>?_
 rw[e]at h1;have:=h.swap b.1 b.1;omega
theorem HO{l:List (Par×Rat)}{k:Nat}(h:k<l.length):((r9 (l.map (·.1))).drop (k*2)).take 2=[.int .i64 l[k].1.f,.str l[k].1.c]:=by
 have:=cm oR 2 (fun _=>rfl) (l.map (·.1)) k (by simpa using h);simpa[r9]using this
theorem Kf{l:List (PP×Rat)}{k:Nat}(h:k<l.length):((sq (l.map (·.1))).drop (k*4)).take 4=[.int .i64 l[k].1.1.f,.str l[k].1.1.c,.int .i64 l[k].1.2.f,.str l[k].1.2.c]:=by
 have:=cm ppC 4 (fun _=>rfl) (l.map (·.1)) k (by simpa using h);simpa[sq]using this
theorem Kj{l:List (Par×Rat)}{k:Nat}(h:k<l.length):r9 (l.map (·.1))≠[]:=fun e=>by have:=xR (l.map (·.1));rw[e]at this;simp at this;omega
theorem ND{l:List (PP×Rat)}{k:Nat}(h:k<l.length):sq (l.map (·.1))≠[]:=fun e=>by have:=yp (l.map (·.1));rw[e]at this;simp at this;omega
theorem L1{l:List (Par×Rat)}{i:Nat}(hi:i<l.length):gj (tmL (l.take i))++[.int .i64 l[i].1.f,.str l[i].1.c,.str (fL l[i].2)]=gj (tmL (l.take (i+1))):=by
 rw[bC hi];simp only[tmL,gj,PD,PS,bL,Qh,Py,Sx,PZ]
theorem Lf{l:List (PP×Rat)}{i:Nat}(hi:i<l.length):gm (prL (l.take i))++[.int .i64 l[i].1.1.f,.str l[i].1.1.c,.int .i64 l[i].1.2.f,.str l[i].1.2.c,.str (fL l[i].2)]=gm (prL (l.take (i+1))):=by
 rw[bC hi];simp only[prL,gm,PD,PS,bL,Qh,Py,Sx,PZ]
theorem Fp(m:MC)(hs:m.s.Pairwise fun a b=>cq a.1 b.1<0)(hp:m.p.Pairwise fun a b=>dz a.1 b.1<0)(h1:MF1 m):FnP prog 50 [mcP m] (· = .tup [uT m,.int .i64 0]):=by
 refine FnP.ofC func50 O ntmps50 Tw fun m0 w0 F R0=>?_
 have hct:=nO m.c h1.c;have hls:=h1.ls;have hlp:=h1.lp;have hk1:=vX (aD cP m.s) (aK m.s);have hk2:=wC (aD ppP m.p) (aK m.p);have hm1:(m.s.map (·.1)).map cP=aD cP m.s:=by simp[aD]
 have hm2:(m.p.map (·.1)).map ppP=aD ppP m.p:=by simp[aD]
 have hso1:=sI (m.s.map (·.1)) (aK m.s) (by simpa using hls) (by rw[Q9];exact hs);have hso2:=uq (m.p.map (·.1)) (aK m.p) (by simpa using hlp) (by rw[Q9];exact hp);rw[hm1,Pg]at hso1;rw[hm2,Pg]at hso2;have hns:=xo eF hs;have hnp:=xo cV hp;have hd1:=yv cM hns;have hd2:=yv eL hnp;refine Z3 O O O O<|Z2 O O O<|OT (St.iB 2 O O)<|Z2 O O O<|OT (St.ON (fs:=[]) (cs:=[.rp [.int .i64 0] 0]) 5 O)<|Z3 O O O O<|Rs 15 O O (gE (fs:=[]) (ps:=[frP m.c]) (cs:=[.rp [.int .i64 0] 0]) call125 O hct O)<|Y3 O O O<|OT (St.c8 (T':=47) (cs:=[.pv (.str (fL m.c)),.pv nS,.pv nS]) 3 1 4 3 149 Tt O O)<|OT (St.c8 (T':=47) (cs:=[.pv (.str (fL m.c)),.gsl 4 3 0,.pv nS]) 3 2 5 5 151 Tt O O)<|Z2 O O O<|Rs 19 O O (aa call128 hk1 O)<|Rs 20 O O (aa call127 hso1 O)<|Y2 O O ?_;refine Gl O (st:=fun TC:Nat=>mkS [(1,.ptr 0 0),(2,.ptr 1 0),(4,.pv (.rp [.int .i64 0] 0)),(5,.pv (.fn (.func 125) [] [.rp [.int .i64 0] 0])),(6,.ptr 3 0),(20,.pv (.sl none m.s.length (r9 (m.s.map (·.1))))),(21,pIi m.s.length),(22,pIi TC)] [(0,.mix 120 [.pv (.bool (decide (m.c.num<0))),.pv (bF m.c.num.natAbs),.pv (.bool (decide ((m.c.den:Int)<0))),.pv (bF (m.c.den:Int).natAbs),.pv (.mp (aD cP m.s) (aK m.s)),.pv (.mp (aD ppP m.p) (aK m.p))]),(1,.mix 47 [.pv (.str ⟨#[]⟩),.pv nS,.pv nS]),(3,.mix 47 [.pv (.str (fL m.c)),.gsl 4 3 TC,.gsl 5 5 0]),(4,.gro 149 (gj (tmL (m.s.take TC)))),(5,.gro 151 (gm []))] 6)
  (I:=fun TC=>TC<=m.s.length) (μ:=fun TC=>m.s.length-TC) (x0:=(0)) (OU (aS O) (aO Tt) O O) (cd _) ?_
 rintro i hi;refine Z1 O O ?_;refine Gp O O (fun hc23=>?_) (fun hc23=>?_)
 ·have hlt:i<m.s.length:=Ts;have hrow:=HO hlt;have hne:=Kj hlt;have hc2:=nO m.s[i].2 (h1.s _ (ar hlt));have hlk:=mC cM m.s m.s[i].1;rw[Jt hns hlt]at hlk;have htl:=nX (tmL (m.s.take i));rw[nF,Pj,Qt hi]at htl;refine OR<|Gr O<|Rs 24 O O (ae i underlying171 zz O O O hlt hne)<|Rs 25 O O (aR ⟨_,underlying147,O⟩ zz O hrow O)<|Y2 O O<|Ge O follows [0,1,2,3,4,5,6,7,8,9,10,11,12,13] Tt ?_;iterate 7 refine D1 O O ?_
  refine Ds 33 [] O O O (fun τ h=>mQ jT underlying117 (.inr (.inl ⟨(Ee h 0 O O),hd1⟩)) (Ee h 1 O O) ⟨m.s[i].1,O⟩ lA O hlk O) O Tt<|Ds 34 [] O O O (fun τ h=>gE (fs:=[]) (ps:=[frP m.s[i].2]) (cs:=[.rp [.int .i64 0] 0]) call125 (Ee h 0 O O) hc2 ((ag (fun l=>(V.args (fun _=>none) l).map PV.fgA) h.cF).trans O)) O Tt ?_;iterate 5 refine D1 O O ?_
  refine⟨Tt,?_⟩;exact Z2 O O O<|⟨(i+1),OV [0,1,2,3,8,5] (aT O) ⟨Tt,Tt,Tt,PG (b:=some (.gro 149 (gj (tmL (m.s.take i))++[.int .i64 m.s[i].1.f,.str m.s[i].1.c,.str (fL m.s[i].2)]))) Tt (ag (fun c=>some (Ob.gro 149 c)) (L1 hlt)),Tt,TB⟩ O O Tu O,hlt,Ts⟩
 ·have hie:m.s.take i=m.s:=aX Ts;have hil:i=m.s.length:=Ts;rw[hie,hil];refine Gx O<|Z2 O O O<|Rs 42 O O (aa call131 hk2 O)<|Rs 43 O O (aa call130 hso2 O)<|Y2 O O ?_;refine Gl O (st:=fun x_1:Nat=>mkS [(1,.ptr 0 0),(2,.ptr 1 0),(4,.pv (.rp [.int .i64 0] 0)),(5,.pv (.fn (.func 125) [] [.rp [.int .i64 0] 0])),(6,.ptr 3 0),(43,.pv (.sl none m.p.length (sq (m.p.map (·.1))))),(44,pIi m.p.length),(45,pIi x_1)] [(0,.mix 120 [.pv (.bool (decide (m.c.num<0))),.pv (bF m.c.num.natAbs),.pv (.bool (decide ((m.c.den:Int)<0))),.pv (bF (m.c.den:Int).natAbs),.pv (.mp (aD cP m.s) (aK m.s)),.pv (.mp (aD ppP m.p) (aK m.p))]),(1,.mix 47 [.pv (.str ⟨#[]⟩),.pv nS,.pv nS]),(3,.mix 47 [.pv (.str (fL m.c)),.gsl 4 3 m.s.length,.gsl 5 5 x_1]),(4,.gro 149 (gj (tmL m.s))),(5,.gro 151 (gm (prL (m.p.take x_1))))] 6)
   (I:=fun x_1=>x_1<=m.p.length) (μ:=fun x_1=>m.p.length-x_1) (x0:=(0)) (OU (aS O) (aO Tt) O O) (cd _) ?_
  rintro j hj;refine Z1 O O ?_;refine Gp O O (fun hc46=>?_) (fun hc46=>?_)
  ·have hlt:j<m.p.length:=Ts;have hrow:=Kf hlt;have hne:=ND hlt;have hc2:=nO m.p[j].2 (h1.p _ (ar hlt));have hlk:=mC eL m.p m.p[j].1;rw[Jt hnp hlt]at hlk;have htl:=mT (prL (m.p.take j));rw[nN,Pj,Qt hj]at htl;refine OR<|Gr O<|Rs 47 O O (ae j underlying235 HU O O O hlt hne)<|Rs 48 O O (aR ⟨_,underlying238,O⟩ HU O hrow O)<|Y2 O O<|Ge O follows [0,1,2,3,4,5,6,7,8,9,10,11,12,13,14,15,16] Tt ?_;iterate 10 refine D1 O O ?_
   refine Ds 59 [] O O O (fun τ h=>mQ qN underlying118 (.inr (.inl ⟨(Ee h 0 O O),hd2⟩)) (Ee h 1 O O) ⟨m.p[j].1,O⟩ lA O hlk O) O Tt<|Ds 60 [] O O O (fun τ h=>gE (fs:=[]) (ps:=[frP m.p[j].2]) (cs:=[.rp [.int .i64 0] 0]) call125 (Ee h 0 O O) hc2 ((ag (fun l=>(V.args (fun _=>none) l).map PV.fgA) h.cF).trans O)) O Tt ?_;iterate 5 refine D1 O O ?_
   refine⟨Tt,?_⟩;exact Z2 O O O<|⟨(j+1),OV [0,1,2,3,4,8] (aT O) ⟨Tt,Tt,Tt,Tt,PG (b:=some (.gro 151 (gm (prL (m.p.take j))++[.int .i64 m.p[j].1.1.f,.str m.p[j].1.1.c,.int .i64 m.p[j].1.2.f,.str m.p[j].1.2.c,.str (fL m.p[j].2)]))) Tt (ag (fun c=>some (Ob.gro 151 c)) (Lf hlt)),TB⟩ O O Tu O,hlt,Ts⟩
  ·have hje:m.p.take j=m.p:=aX Ts;have hjl:j=m.p.length:=Ts;rw[hje,hjl];refine Gx O<|Z2 O O O ?_;refine Gc O O (fun hc67=>absurd hc67 Tw) (fun hc67=>?_);exact OR<|OT (OX (o:= .gro 149 (gj (tmL m.s))) 4 Tt O)<|OT (OX (o:= .gro 151 (gm (prL m.p))) 5 Tt O)<|Z3 O O O O<|Gt O<|⟨_,_,O,O,⟨az ⟨_,underlying47,O⟩ J2 O O O,TB⟩,O⟩
end
section
open Go.RowKit Mk Jn Mm Vw
abbrev bR(E:List En):List PV:=E.map fun e=>PV.str e.t
abbrev jA(E:List En):List PV:=E.map fun e=>aZ e.v
noncomputable abbrev gvsV(E:List En):List PV:=E.map fun e=>momP e.g.m
theorem BH(s t:ByteArray):keq (.str s) (.str t)=some (decide (t=s)):=by
 show some (s==t)=_;rw[iT]
 congr 1
 rw[PA,Po,Rk];exact⟨fun h=>(bytes_inj h).symm,fun h=>by rw[h]⟩
theorem ru(t:ByteArray):∀(E:List En)(i:Nat),cc (.str t) (bR E) i=some ((uX E t).map (i+ ·))
 |[],i=>rfl
 | e::E,i=>by
   show(match keq (.str t) (.str e.t)with|some true=>some (some i)|some false=>cc (.str t) (bR E) (i+1)|none=>none)=_;rw[BH,uX,List.findIdx?_cons];cases h:decide (e.t=t)with
   |true=>simp
   | false=>
     simp only[Qk,SD];rw[ru t E (i+1),uX];cases E.findIdx? fun e=>decide (e.t=t)with
     |none=>rfl
     |some j=>simp;omega
theorem wB{E:List En}{t:ByteArray}{i:Nat}(h:uX E t=some i):cc (.str t) (bR E) 0=some (some i):=by rw[ru,h];simp
theorem vS{E:List En}{t:ByteArray}(h:uX E t=none):cc (.str t) (bR E) 0=some none:=by rw[ru,h];rfl
theorem sW{E:List En}{t:ByteArray}{i:Nat}(h:uX E t=some i)(hi:i<E.length)(f:En->PV):iC (.str t) (bR E) (E.map f)=some (some (f E[i])):=by
 unfold iC;rw[wB h];simp[hi]
theorem BW{E:List En}{t:ByteArray}(h:uX E t=none)(f:En->PV):iC (.str t) (bR E) (E.map f)=some none:=by
 unfold iC;rw[vS h]
theorem qt{E:List En}(hE:EnOk E){e:En}(he:e∈E)(f:En->PV):iC (.str e.t) (bR E) (E.map f)=some (some (f e)):=by
 cases h:uX E e.t with
 |none=>exact absurd O (jO h e he)
 | some i=>
   obtain⟨hi,h1,_⟩:=Vw.eD h;rw[sW h hi];obtain⟨j,hj,rfl⟩:=Q0 he;have:i=j:=by
    have h2:(E.map (·.t))[i]'(by simpa using hi)=(E.map (·.t))[j]'(by simpa using hj):=by simpa using h1
    exact(List.getElem_inj hE.nd).1 h2
   subst this;rfl
theorem JJ{E:List En}(hE:EnOk E):vW (bR E):=by
 unfold vW;rw[Q9];have:=hE.nd;rw[List.Nodup,Q9]at this;exact this.imp fun{a b} h=>by rw[BH,Pt fun e=>h e.symm]
theorem x8{E:List En}{t:ByteArray}{i:Nat}(h:uX E t=some i)(hi:i<E.length)(x:En)(hx:x.t=t)(f:En->PV):lV (.str t) (bR E)=bR (E.set i x)/\kZ (.str t) (f x) (bR E) (E.map f)=(E.set i x).map f:=by
 unfold lV kZ;rw[wB h];simp only;exact⟨by rw[<-hx];simp[Qi],by simp[Qi]⟩
theorem yP{E:List En}{t:ByteArray}(h:uX E t=none)(x:En)(hx:x.t=t)(f:En->PV):lV (.str t) (bR E)=bR (E++[x])/\kZ (.str t) (f x) (bR E) (E.map f)=(E++[x]).map f:=by
 unfold lV kZ;rw[vS h];simp only;exact⟨by rw[<-hx];simp,Tw⟩
theorem Bh{Q:List Par}(E:List En)(v:List ByteArray)(g:Gv)(hE:∀e∈E,GvOk Q e.g/\e.g.w<=10^50/\e.g.k<=50)(hg:GvOk Q g)(hw:g.w<=10^50)(hk:g.k<=50)(hv:v.length<=1000000)(hb:(Lib.join (v.map (·.data.toList)) [0]).length<=140737488355328):
  FnO prog 123 2 0 [.agg [.map big,.map 9001],.pv (aZ v),.pv (momP g.m)] [(big,.mp (bR E) (jA E)),(9001,.mp (bR E) (gvsV E))] (fun r ob'=>r= .tup []/\ob'=ax [(big,.mp (bR (s5 E v g)) (jA (s5 E v g))),(9001,.mp (bR (s5 E v g)) (gvsV (s5 E v g)))]):=by
 refine FnO.of func123 O ntmps123 Tw fun m0 w0 F R0=>?_
 have hj:FnP prog 204 [aZ v,.str ⟨#[0]⟩] (· = .str (jnt v)):=Kk v ⟨#[0]⟩ Ts hb;rcases ed E v g with⟨i,hi,hf,he,ht⟩|⟨hf,he,hn⟩
 ·have hlk:=sW hf hi fun e=>momP e.g.m
  obtain⟨hpk,hpv⟩:=x8 hf hi ⟨jnt v,v,g.add E[i].g⟩ O fun e=>aZ e.v
  have hpg:=(x8 hf hi ⟨jnt v,v,g.add E[i].g⟩ O fun e=>momP e.g.m).2;have hkf:=wB hf;obtain⟨o1,o2,o3⟩:=hE _ (ar hi);have had:=Ke (hg.s.up (BY _) (Nat.le_max_left _ _)) (o1.s.up (BY _) (Nat.le_max_right g.k _)) hw o2 (Nat.max_le.2 ⟨hk,o3⟩);rw[he];simp only at hpg hpv;change kZ _ (momP (Mm.Sem.add g.m E[i].g.m)) _ _=_ at hpg
  generalize E.set i ⟨jnt v,v,g.add E[i].g⟩=E' at*;generalize hD:E[i]=D at*;refine Z2 O O O<|Z1 O O<|Rs 10 O O (aa call204 hj O)<|A1 O<|Z3 O O O O<|Rs 15 O O (ta (zp:= .agg [.bool false,.sl (some true) 0 [],.bool false,.sl (some true) 0 [],.nilmap,.nilmap]) underlying108 underlying9 (.inl ⟨9001,O,O⟩) O O r8 O hlk O O) ?_;iterate 6 refine A1 O ?_
  refine Z1 O O ?_;refine Gc O O (fun hc18=>?_) (fun hc18=>absurd hc18 Tw);refine Z2 O O O<|Rs 21 O O (aa call177 had O)<|A1 O<|Ge O follows [0,1,2,3,4,5,6,7,8,9] Tt ?_;iterate 8 refine D1 O O ?_
  refine DL.step (d:=none) [_] O O O (fun τ h=>fm underlying107 underlying9 (Ee h 0 O O) (Eo h 0 O O) (Ee h 1 O O) (Ee h 2 O O) O hkf hpk hpv) O Tt<|DL.step (d:=none) [_] O O O (fun τ h=>fm underlying108 underlying9 (Ee h 0 O O) (Eo h 0 O O) (Ee h 1 O O) (Ee h 2 O O) O hkf hpk hpg) O Tt ?_;refine⟨Tt,?_⟩;exact⟨[],[(big,.mp (bR E') (jA E')),(9001,.mp (bR E') (gvsV E'))],[],OU trivial (aO Tt) O O,O,O,O,O,O⟩
 ·have hlk:=BW hf fun e=>momP e.g.m
  obtain⟨hpk,hpv⟩:=yP hf ⟨jnt v,v,g⟩ O fun e=>aZ e.v
  have hpg:=(yP hf ⟨jnt v,v,g⟩ O fun e=>momP e.g.m).2;have hkf:=vS hf;rw[he];simp only at hpg hpv;generalize E++[⟨jnt v,v,g⟩]=E' at*;refine Z2 O O O<|Z1 O O<|Rs 10 O O (aa call204 hj O)<|A1 O<|Z3 O O O O<|Rs 15 O O (ta (zp:= .agg [.bool false,.sl (some true) 0 [],.bool false,.sl (some true) 0 [],.nilmap,.nilmap]) underlying108 underlying9 (.inl ⟨9001,O,O⟩) O O r8 O hlk O O) ?_;iterate 6 refine A1 O ?_
  refine Z1 O O ?_;refine Gc O O (fun hc18=>absurd hc18 Tw) (fun hc18=>?_);refine OR<|Ge O follows [0,1,2,3,4,5,6,7,8,9] Tt ?_;iterate 8 refine D1 O O ?_
  refine DL.step (d:=none) [_] O O O (fun τ h=>fm underlying107 underlying9 (Ee h 0 O O) (Eo h 0 O O) (Ee h 1 O O) (Ee h 2 O O) O hkf hpk hpv) O Tt<|DL.step (d:=none) [_] O O O (fun τ h=>fm underlying108 underlying9 (Ee h 0 O O) (Eo h 0 O O) (Ee h 1 O O) (Ee h 2 O O) O hkf hpk hpg) O Tt ?_;refine⟨Tt,?_⟩;exact⟨[],[(big,.mp (bR E') (jA E')),(9001,.mp (bR E') (gvsV E'))],[],OU trivial (aO Tt) O O,O,O,O,O,O⟩
noncomputable abbrev itC(i:Itm):List PV:=aZ i.v::mcC (cn i.g.m)
noncomputable def itsC(l:List Itm):List PV:=l.flatMap itC
noncomputable abbrev ptC(p:Prt):List PV:=[ai p.a,.sl none p.is.length (itsC p.is)]
noncomputable abbrev ptP(p:Prt):PV:= .agg (ptC p)
noncomputable def ptsC(l:List Prt):List PV:=l.flatMap ptC
theorem qJ(l:List Itm):(itsC l).length=l.length*7:=bV _ 7 (fun _=>rfl) l
theorem rj(l:List Prt):(ptsC l).length=l.length*2:=bV _ 2 (fun _=>rfl) l
theorem Hk{l:List Itm}{k:Nat}(h:k<l.length):((itsC l).drop (k*7)).take 7=itC l[k]:=cm _ 7 (fun _=>rfl) l k h
theorem yJ{l:List Prt}{k:Nat}(h:k<l.length):((ptsC l).drop (k*2)).take 2=ptC l[k]:=cm _ 2 (fun _=>rfl) l k h
theorem sX{l:List Itm}{i:Nat}(h:i<l.length):itsC (l.take i)++itC l[i]=itsC (l.take (i+1)):=by
 rw[AI h];simp only[itsC,PS,Py,Sx,PZ]
theorem K4{l:List Itm}{k:Nat}(h:k<l.length):itsC l≠[]:=fun e=>by have:=qJ l;rw[e]at this;simp at this;omega
theorem LY{l:List Prt}{k:Nat}(h:k<l.length):ptsC l≠[]:=fun e=>by have:=rj l;rw[e]at this;simp at this;omega
noncomputable abbrev vwP(E:List En):PV:= .agg [.mp (bR E) (jA E),.mp (bR E) (gvsV E)]
theorem EZ(E:List En):o9 (E.map (·.t))=(FO E).map (·.t):=by
 refine(rE ((dy E).map _) ?_).symm;rw[Q9];have:=SE (le:=fun a b:En=>decide (a.t.data.toList<=b.t.data.toList)) (by intro a b c h1 h2;simp only[Po]at *; exact List.le_trans h1 h2) (by intro a b;simp only[PQ,Po];exact List.le_total _ _) E;exact this.imp fun{a b} h=>JI.2 (by simpa using h)
theorem zQ(E:List En)(K:List Int)(hE:EnOk E)(hn:E.length<=1000000):FnP prog 199 [vwP E,ai K] (· =ptP (ct K E)):=by
 refine FnP.ofC func199 O ntmps199 Tw fun m0 w0 F R0=>?_
 have hks:=wm (bR E) (jA E);have hso:=tj (E.map (·.t)) (jA E) (by simpa using hn);rw[show(E.map (·.t)).map PV.str=bR E by simp,EZ]at hso;have hd:=JJ hE;obtain⟨L,hL⟩:∃L,L=FO E:=⟨_,O⟩;have hLl:L.length=E.length:=by rw[hL];exact(dy E).length_eq
 have hLm:∀e∈L,e∈E:=fun e he=>by rw[hL]at he;exact(dy E).mem_iff.1 he
 obtain⟨I,hI⟩:∃I:List Itm,I=L.map fun e=>⟨e.v,e.g⟩:=⟨_,O⟩
 have hIl:I.length=L.length:=by rw[hI];simp
 have hv:ct K E=⟨K,I⟩:=by rw[hI,hL];rfl
 obtain⟨ts,hts⟩:∃ts:List ByteArray,ts=L.map (·.t):=⟨_,O⟩;have htl:ts.length=L.length:=by rw[hts];simp
 rw[<-hL,<-hts]at hso;refine Z2 O O O<|Z4 O O O O O<|OT (St.c8 (T':=222) (cs:=[.pv (ai K),.pv nS]) 2 1 3 7 224 Tt O O)<|Z2 O O O<|Rs 12 O O (aa call288 hks O)<|Rs 13 O O (aa call287 hso O)<|Y2 O O ?_;refine Gl O (st:=fun TC:Nat=>mkS [(2,.ptr 0 0),(4,.ptr 1 0),(5,.ptr 2 0),(13,.pv (aZ ts)),(14,pIi ts.length),(15,pIi TC)] [(0,.mix 110 [.pv (.mp (bR E) (jA E)),.pv (.mp (bR E) (gvsV E))]),(1,.mix 222 [.pv nS,.pv nS]),(2,.mix 222 [.pv (ai K),.gsl 3 7 TC]),(3,.gro 224 (itsC (I.take TC)))] 4)
  (I:=fun TC=>TC<=L.length) (μ:=fun TC=>L.length-TC) (x0:=(0)) (OU (aS O) (aO Tt) O O) (cd _) ?_
 rintro i hi;refine Z1 O O ?_;refine Gp O O (fun hc16=>?_) (fun hc16=>?_)
 ·have hlt:i<L.length:=Ts;have hlT:i<ts.length:=Ts;have hiI:i<I.length:=Ts;have hgt:ts[i]=L[i].t:=by simp[hts]
  have hgI:I[i]=⟨L[i].v,L[i].g⟩:=by simp[hI]
  have hva:=bz hlT;have hne:=bA hlT;rw[hgt]at hva;have hl1:=qt hE (hLm _ (ar hlt)) fun e=>aZ e.v
  have hl2:=qt hE (hLm _ (ar hlt)) fun e=>momP e.g.m
  have hsn:=sX hiI;rw[hgI]at hsn;have htk:(itsC (I.take i)).length=i*7:=by rw[qJ,Pj,Qt Ts]
  generalize L[i]=e at*;refine OR<|Z1 O O ?_;first|refine A2 O Tv ?_|refine A1 O ?_
  refine A1 O<|Gr O ?_;iterate 5 refine A1 O ?_
  refine Rs 24 O O (kW (zp:= .sl (some true) 0 []) underlying107 underlying9 (.inr (.inl ⟨O,hd⟩)) O O OI O hl1 O)<|Y3 O O O<|Rs 28 O O (kW (zp:= .agg [.bool false,.sl (some true) 0 [],.bool false,.sl (some true) 0 [],.nilmap,.nilmap]) underlying108 underlying9 (.inr (.inl ⟨O,hd⟩)) O O r8 O hl2 O) ?_;iterate 5 refine A1 O ?_
  exact Z2 O O O<|⟨(i+1),OV [0,1,2,5] (aT O) ⟨Tt,Tt,Tt,PG (b:=some (.gro 224 (itsC (I.take i)++itC ⟨e.v,e.g⟩))) Tt (ag (fun c=>some (Ob.gro 224 c)) hsn),TB⟩ O O Tu O,hlt,Ts⟩
 ·have hie:I.take i=I:=aX Ts;have hil:i=I.length:=Ts;rw[hie,hil];exact Gx O<|OT (OX (o:= .gro 224 (itsC I)) 3 Tt O)<|Z2 O O O<|Gt O<|⟨_,_,O,O,⟨az ⟨_,underlying222,O⟩ Im O O O,TB⟩,by rw[hv];rfl⟩
abbrev NJ(l:List Bool):PV:= .sl none l.length (l.map PV.bool)
abbrev chsC(x:Ch):List PV:=[aZ x.v,NJ x.s]
abbrev On(x:Ch):PV:= .agg (chsC x)
theorem Na{l:List Bool}{k:Nat}(h:k<l.length):(l.map PV.bool)[k*1]? =some (.bool l[k]):=by simp[h]
theorem M1{l:List Bool}{k:Nat}(h:k<l.length):l.map PV.bool≠[]:=fun e=>by rw[RU]at e;subst e;simp at h
theorem tB(l:List ByteArray)(h0:0<l.length)(hl:l.length<=1000000):FnO prog 117 0 1 [.pv (aZ l)] [] (fun v ob'=>v= .osl 0 1 l.length/\ob'=ax [(0,.cells 9 (bO l))]):=by
 refine FnO.of func117 O ntmps117 Tw fun m0 w0 F R0=>?_
 refine Z1 O O<|Z1 O O ?_;refine RL.call O (fX underlying39 O ?_);intro b hb;refine Gc O O (fun hc4=>absurd hc4 (by have:=RU.1 (hb hc4);subst this;simp at h0)) (fun hc4=>?_);refine OR<|Gr O<|Rs 5 O O (cI 0 zX O)<|A1 O<|Rs 7 O O (eY 1 zX O O O (.inl ⟨none,O⟩) Tw (fun c hc=>by obtain⟨y,_,rfl⟩:=IT.1 hc;rfl) Ts O) ?_;exact A1 O<|Gt O<|⟨[(2,.osl 0 1 l.length)],[(0,.cells 9 (bO l))],[.osl 0 1 l.length],OV [1] ⟨PG (b:=V.osl 1 1 (0+l.length)) O (by rw[PJ];rfl),TB⟩ ⟨PG (b:=some (Ob.cells 9 ([]++bO l))) O (by rw[Qa];rfl),TB⟩ O O Tu O,O,O,O,O,O⟩
end


















section
open Mk Jn
def sE(S:Sch)(d:List (List Rw))(k:Nat):List (List Rw):=(List.zipWith (fun r l=>o6 S r.2 l) S.rels d).take k
def dM(S:Sch)(d:List (List Rw)):List (List Rw):=List.zipWith (fun r l=>o6 S r.2 l) S.rels d
theorem Al{S:Sch}{d:List (List Rw)}(hd:d.length=S.rels.length){k:Nat}(hk:k<S.rels.length):sE S d (k+1)=sE S d k++[o6 S S.rels[k].2 (d[k]'Ts)]:=by
 unfold sE;rw[AI Tx,List.getElem_zipWith]
theorem Ec{S:Sch}{d:List (List Rw)}(hd:d.length=S.rels.length):sE S d S.rels.length=dM S d:=aX Tx
theorem El{S:Sch}{d:List (List Rw)}(hd:d.length=S.rels.length){k:Nat}(hk:k<=S.rels.length):(sE S d k).length=k:=by
 unfold sE;simp;omega
end



section
open Mk Jn
theorem n0:NumOk ⟨#[48]⟩:=⟨Tu,Tt,⟨Tt,by decide+kernel⟩,fun h=>absurd h (by decide+kernel)⟩
theorem n1:NumOk ⟨#[49]⟩:=⟨Tu,Tt,⟨Tt,by decide+kernel⟩,fun h=>absurd h (by decide+kernel)⟩
theorem n2:NumOk ⟨#[50]⟩:=⟨Tu,Tt,⟨Tt,by decide+kernel⟩,fun h=>absurd h (by decide+kernel)⟩
theorem n3:NumOk ⟨#[51]⟩:=⟨Tu,Tt,⟨Tt,by decide+kernel⟩,fun h=>absurd h (by decide+kernel)⟩
theorem nm2:NumOk ⟨#[45,50]⟩:=⟨Tu,Tt,⟨Tt,by decide+kernel⟩,fun h=>absurd h (by decide+kernel)⟩
theorem nh:NumOk ⟨#[49,47,50]⟩:=⟨Tu,Tt,⟨Tt,by decide+kernel⟩,fun _=>⟨Tt,by decide+kernel,by decide+kernel⟩⟩
theorem n53:NumOk ⟨#[53,47,51]⟩:=⟨Tu,Tt,⟨Tt,by decide+kernel⟩,fun _=>⟨Tt,by decide+kernel,by decide+kernel⟩⟩
theorem AD(nm v:ByteArray)(kd:Int)(hk:kd=1\/kd=2\/kd=3)(hv:v∈gM kd):FnP prog 166 [.agg [.str nm,.int .i64 kd],.str v] (· = .bool true):=by
 rcases hk with rfl|rfl|rfl
 ·refine oJ nm v ?_;simp only[gM,sV,AS,P7,R6]at hv;rcases hv with rfl|hv
  ·exact .inl O
  ·right
   simp at hv;rcases hv with rfl|rfl|rfl<;>exact⟨Tt,by decide+kernel⟩
 ·by_cases hne:v=⟨#[]⟩
  ·rw[hne];exact zG nm
  ·refine Ct nm v ?_ hne;simp only[gM,AQ,AS,P7,R6]at hv;have hv:=hv.resolve_left hne;simp at hv;rcases hv with rfl|rfl|rfl|rfl|rfl|rfl|rfl|rfl
   ·exact n0
   ·exact n1
   ·exact nm2
   ·exact nh
   ·exact n3
   ·exact n53
   ·exact n1
   ·exact n2
 ·refine Dr nm v ?_;simp only[gM,Jx,AS,P7,R6]at hv;rcases hv with rfl|hv
  ·exact .inl O
  ·right
   simp at hv;rcases hv with rfl|rfl|rfl<;>exact⟨Tt,Tu⟩
theorem pO{w:World}{R:Nat->Prop}:∀{l:List ByteArray}{us:List Value},RelPL w R (bO l) us->us=l.map Value.string
 |[],us,h=>by simpa[RelPL]using h
 | x::l,us,h=>by
   simp only[bL,RelPL,RelP]at h;obtain⟨u,vs,rfl,rfl,h2⟩:=h;rw[pO h2];rfl
theorem yG{w:World}{R:Nat->Prop}(hR:∀b,R b->b<w.heap.size){l:List ByteArray}{us:List Value}{ps:List PV}(h:RelPL w R (aZ l::ps) us):∃A c vs,us= .slice A l.length c::vs/\Row w R A (K5 l)/\RelPL w R ps vs:=by
 simp only[RelPL,RelP]at h;obtain⟨u,vs,rfl,⟨A,c,rfl,_,_,_,_,h5⟩,h6⟩:=h;refine⟨A,c,vs,O,fun hne=>?_,h6⟩;obtain⟨b,off,us,rfl,h6,h7,h8⟩:=h5 (fun e=>hne (by rw[RU]at e ⊢; exact e));have e7:us=l.map Value.string:=pO h6;subst e7;exact⟨b,off,O,h7,hR b h7,h8⟩
theorem MB(a b:List ByteArray)(ha:a.length<=1000000)(hb:b.length<=1000000):FnP prog 53 [aZ a,aZ b] (· = .int .i64 (qR a b)):=by
 intro w R us hG hR hrel;obtain⟨A,c,vs,rfl,r1,h1⟩:=yG hR hrel;obtain⟨B,d,vs,rfl,r2,h2⟩:=yG hR h1;obtain rfl:=(by simpa[RelPL]using h2:vs=[]);exact(yS A B c d a b w r1 r2 ha hb).mono fun e w' ⟨he,hw⟩=>⟨_,_,he,O,by rw[<-hw];exact Below.refl _ _,by simp only[RelP]⟩
theorem Nd(a b:List ByteArray):decide (qR a b<0)=bl a b:=by
 unfold qR;cases h:bl a b with
 |true=>rw[AT O];rfl
 |false=>rw[dw Tu];by_cases h2:a=b<;>simp[h2]
theorem qh(a b:List ByteArray)(ha:a.length<=1000000)(hb:b.length<=1000000):FnP prog 167 [aZ a,aZ b] (· = .bool (bl a b)):=by
 refine FnP.of func167 O ntmps167 Tw fun m0 w0 F R0=>?_
 have hc:=MB a b ha hb;exact Z1 O O<|Z2 O O O<|Rs 7 O O (aa call53 hc O)<|Y2 O O<|Gt O<|⟨_,_,O,O,ag PV.bool (Nd a b)⟩
end
section
open Mk Jn
structure RowOk(S:Sch)(A:List Int)(low:Int)(x:Rw):Prop where
 l:x.v.length=A.length
 v:∀i (h:i<x.v.length) (h2:i<A.length),∀nm,FnP prog 166 [.agg [.str nm,.int .i64 (S.attrs.getD A[i].toNat default).2],.str x.v[i]] (· = .bool true)
 w:x.w≠0/\low<=x.w/\x.w<=100
theorem pt{S:Sch}{a:Nat}(h:a<S.attrs.length):S.attrs.getD a default=S.attrs[a]:=by simp[List.getD,h]
theorem vi(S:Sch)(hS:SJn S)(nm:ByteArray)(A:List Int)(hA:A.length<=1000)(hb:∀a∈A,0<=a/\a<S.attrs.length)(low:Int)(x:Rw)(hx:RowOk S A low x):FnP prog 342 [eZ S,.agg [.str nm,ai A],rowP x] (· = .bool true):=by
 refine FnP.of func342 O ntmps342 Tw fun m0 w0 F R0=>?_
 have hxl:=hx.l;have hSa:=hS.a;refine Z4 O O O O O<|Z4 O O O O O ?_;refine Gl O (st:=fun TC:Nat=>mkS [(3,.ptr 0 0),(5,.ptr 2 0),(10,.pv (ai A)),(11,pIi A.length),(12,pIi TC)] [(0,oZ S),(2,.mix 41 [.pv (aZ x.v),pIi x.w])] 3)
  (I:=fun TC=>TC<=A.length) (μ:=fun TC=>A.length-TC) (x0:=(0)) (OU (aS O) (aO O) O O) (cd _) ?_
 rintro j hj;refine Z1 O O ?_;refine Gp O O (fun hc13=>?_) (fun hc13=>?_)
 ·have hlj:j<A.length:=Ts;obtain⟨a,haa⟩:=Bb (hb _ (ar hlj)).1;have hal:a<S.attrs.length:=by have:=(hb _ (ar hlj)).2;omega
  have hpv:(aF A)[j*1]? =some (.int .i64 (a:Int)):=by rw[<-haa];simp[hlj]
  have hpn:=aE hlj;have hjv:j<x.v.length:=Ts;have hsv:=bz hjv;have hsn:=bA hjv;have har:=kB hal;have han:=gB hal;have hvl:=hx.v j hjv hlj S.attrs[a].1;rw[haa,Pz,pt hal]at hvl;refine OR<|Z2 O O O<|Rs 16 O O (au ⟨_,underlying3,O⟩ O hpv)<|Y2 O O<|Ge O follows [0,1,2,3,4,5,6,7,8,9,10,11] Tt ?_;iterate 3 refine D1 O O ?_
  refine Ds 20 [] O O O (fun τ h=>ae a underlying26 kT (Ee h 0 O O) (Ee h 1 O O) O hal han) O Tt ?_;first|refine D3 O O Tv ?_|refine D1 O O ?_
  iterate 3 refine D1 O O ?_
  refine Ds 25 [] O O O (fun τ h=>ae j underlying39 sz9 (Ee h 0 O O) (Ee h 1 O O) O hjv hsn) O Tt<|Ds 26 [] O O O (fun τ h=>au ⟨_,underlying9,O⟩ (Ee h 0 O O) hsv) O Tt<|Ds 27 [] O O O (fun τ h=>aa call166 hvl (h.aL O)) O Tt<|D1 O O ?_;refine⟨Tt,?_⟩;refine Gc O O (fun hc28=>absurd hc28 Tw) (fun hc28=>?_);exact OR<|Z2 O O O<|⟨(j+1),OU (aS O) (aO O) O O,Ts,Ts⟩
 ·exact Gx O<|Z1 O O<|Gt O<|⟨_,_,O,O,O⟩
structure TblOk(S:Sch)(A:List Int)(low:Int)(l:List Rw):Prop where
 row:∀x∈l,RowOk S A low x
 asc:Je l
theorem CO{l:List Rw}(h:Je l){k:Nat}(hk:k+1<l.length):bl l[k].v l[k+1].v=true:=by
 unfold Je at h;rw[P6]at h;exact h k (k+1) Ts hk Ts
theorem sT(S:Sch)(hB:SB S)(hS:SJn S)(hV:bp S=0)(r:Nat)(hr:r<S.rels.length)(l:List Rw)(most low:Int)(hm:(l.length:Int)<=most)(hl:l.length<=1000)(hT:TblOk S S.rels[r].2 low l):FnP prog 286 [eZ S,.int .i64 r,mf l,.int .i64 most,.int .i64 low] (· = .int .i64 0):=by
 refine FnP.of func286 O ntmps286 Tw fun m0 w0 F R0=>?_
 have hchk:=qz S hB;rw[hV]at hchk;have hrow:=dJ hr;have hrne:=fY hr;have hrl:=hS.l _ (ar hr);have hrb:=hS.b _ (ar hr);have hSr:=hS.r;have hval:=fun(x:Rw)(hx:RowOk S S.rels[r].2 low x)=>vi S hS S.rels[r].1 S.rels[r].2 hrl hrb low x hx
 have hTr:=hT.row;have hTa:=hT.asc;clear hT;generalize S.rels[r]=rr at*;refine Z2 O O O<|Z1 O O<|Rs 16 O O (aa call159 hchk O)<|Y2 O O ?_;refine Gc O O (fun hc14=>absurd hc14 Tw) (fun hc14=>?_);refine Z3 O O O O ?_;apply O2 6 23 29 [24,25,26,27,28] O TE
 ·intro hb2;iterate 6 refine A1 O ?_
  exact OW TD O O O
 ·intro hb2;iterate 6 refine A1 O ?_
  exact OW TD O O O
 refine A1 O ?_;refine Gc O O (fun hc20=>absurd hc20 (fun h=>by simp at h;omega)) (fun hc20=>?_);refine Gr O ?_;iterate 5 refine A1 O ?_
 refine Gp O O (fun hc30=>absurd hc30 Ts) (fun hc30=>?_);refine OR<|Z4 O O O O O ?_;first|refine A3 O Tv ?_|refine A1 O ?_
 refine Y2 O O<|Z3 O O O O ?_;refine Gl O (st:=fun TC:Nat=>mkS [(2,.pv (mf l)),(4,pIi low),(5,.ptr 0 0),(11,.ptr 1 0),(40,.pv (mf l)),(41,pIi l.length),(42,pIi TC)] [(0,oZ S),(1,.mix 74 [.pv (.str rr.1),.pv (ai rr.2)])] 2)
  (I:=fun TC=>TC<=l.length) (μ:=fun TC=>l.length-TC) (x0:=(0)) (OU (aS O) (aO O) O O) (cd _) ?_
 rintro k hk;refine Z1 O O ?_;refine Gp O O (fun hc43=>?_) (fun hc43=>?_)
 ·have hlt:k<l.length:=Ts;have hrw:=eK hlt;have hrn:=gC hlt;have hxo:=hTr _ (ar hlt);have hvk:=hval _ hxo;have hxl:=hxo.l;obtain⟨hw1,hw2,hw3⟩:=hxo.w;have hprev:0<k->∃hq:k-1<l.length,bl (l[k-1]'hq).v l[k].v=true:=fun h0=>by
   obtain⟨j,rfl⟩:∃j,k=j+1:=⟨k-1,Ts⟩;exact⟨by simp only[Nat.add_sub_cancel];omega,by simpa using CO hTa hlt⟩
  have hpl:∀hq:k-1<l.length,(l[k-1]'hq).v.length=rr.2.length:=fun hq=>(hTr _ (ar hq)).l
  have hpr:∀hq:k-1<l.length,(aY l)[(k-1)*2]? =some (aZ (l[k-1]'hq).v):=fun hq=>Bd hq
  clear hxo;generalize l[k]=x at*;refine OR<|Z2 O O O ?_;first|refine A3 O Tv ?_|refine A1 O ?_
  refine Y3 O O O<|Gr O ?_;iterate 8 refine A1 O ?_
  refine Gc O O (fun hc47=>absurd hc47 Tx) (fun hc47=>?_);refine Z3 O O O O<|Rs 59 O O (aa call342 hvk O)<|Y2 O O ?_;refine Gc O O (fun hc55=>absurd hc55 Tw) (fun hc55=>?_);refine Z4 O O O O O ?_;apply O2 5 65 70 [66,67,68,69] O TE
  ·intro hb3;iterate 5 refine A1 O ?_
   exact OW TD O O O
  ·intro hb3;iterate 5 refine A1 O ?_
   exact OW TD O O O
  refine A1 O ?_;apply O2 4 71 75 [72,73,74] O TE
  ·intro hb9;iterate 4 refine A1 O ?_
   exact OW TD O O O
  ·intro hb9;iterate 4 refine A1 O ?_
   exact OW TD O O O
  refine A1 O ?_;refine Gc O O (fun hc61=>absurd hc61 (fun h=>by simp at h;omega)) (fun hc61=>?_);by_cases hk0:k=0
  ·refine Ge O follows [0,1,2,3,4,5,6,7,8,9,10,11,12,13,14] Tt<|D1 O O<|Ds 78 [] O O O (fun τ h=>XJ.cast (v':= .pv (.bool false)) (aG (Ee h 0 O O) (Ee h 1 O O) O) (ag (fun b=>V.pv (.bool b)) (Pt Ts))) O Tt ?_;iterate 13 refine D1 O O ?_
   refine⟨Tt,?_⟩;refine Gc O O (fun hc76=>absurd hc76 Tw) (fun hc76=>?_);exact OR<|Z2 O O O<|⟨(k+1),OU (aS O) (aO O) O O,Ts,Ts⟩
  ·obtain⟨hq,hls⟩:=hprev Ts;have hjl:=qh _ x.v (by rw[hpl hq];omega) Ts;rw[hls]at hjl;have hpq:=hpr hq;refine Ge O follows [0,1,2,3,4,5,6,7,8,9,10,11,12,13,14] Tt<|D1 O O<|Ds 78 [] O O O (fun τ h=>XJ.cast (v':= .pv (.bool true)) (aG (Ee h 0 O O) (Ee h 1 O O) O) (ag (fun b=>V.pv (.bool b)) (Pn Ts))) O Tt ?_;iterate 4 refine D1 O O ?_
   refine Dg 83 [] O O O O (fun τ h=>ae (k-1) underlying38 Ls (Ee h 0 O O) (Ee h 1 O O) Ts hq hrn) O Tt<|D1 O O<|Dg 85 [] O O O O (fun τ h=>au ⟨_,underlying39,O⟩ (Ee h 0 O O) hpq) O Tt ?_;iterate 2 refine D1 O O ?_
   refine Dg 88 [] O O O O (fun τ h=>aa call167 hjl (h.aL O)) O Tt ?_;iterate 3 refine D1 O O ?_
   refine⟨Tt,?_⟩;refine Gc O O (fun hc76=>absurd hc76 Tw) (fun hc76=>?_);exact OR<|Z2 O O O<|⟨(k+1),OU (aS O) (aO O) O O,Ts,Ts⟩
 ·exact Gx O<|Z1 O O<|Gt O<|⟨_,_,O,O,O⟩
theorem HM(S:Sch)(hB:SB S)(hS:SJn S)(hV:bp S=0)(r:Nat)(hr:r<S.rels.length)(l:List Rw)(hl:l.length<=60)(hT:TblOk S S.rels[r].2 1 l):FnP prog 197 [eZ S,.int .i64 r,mf l] (· = .int .i64 0):=by
 refine FnP.of func197 O ntmps197 Tw fun m0 w0 F R0=>?_
 have hr:=sT S hB hS hV r hr l 60 1 Ts Ts hT;exact Z2 O O O<|Z3 O O O O<|Rs 10 O O (aa call286 hr O)<|A1 O<|Gt O<|⟨_,_,O,O,O⟩
theorem xX(S:Sch)(hB:SB S)(hS:SJn S)(hV:bp S=0)(d:List (List Rw))(hd:d.length=S.rels.length)(hl:∀l∈d,l.length<=60)(hT:∀r (h:r<d.length) (h2:r<S.rels.length),TblOk S S.rels[r].2 1 d[r]):FnP prog 111 [eZ S,dbP d] (· = .int .i64 0):=by
 refine FnP.of func111 O ntmps111 Tw fun m0 w0 F R0=>?_
 have hchk:=qz S hB;rw[hV]at hchk;have hSr:=hS.r;have hdl:=er d;refine Z2 O O O<|Z1 O O<|Rs 10 O O (aa call159 hchk O)<|A1 O<|Z2 O O O ?_;refine Gc O O (fun hc12=>?_) (fun hc12=>?_)
 ·exact Z2 O O O<|Gt O<|⟨_,_,O,O,O⟩
 ·refine OR<|Gr O ?_;iterate 6 refine A1 O ?_
  refine Gc O O (fun hc19=>absurd hc19 Tx) (fun hc19=>?_);refine OR<|Z3 O O O O ?_;refine Gl O (st:=fun TC:Nat=>mkS [(2,.ptr 0 0),(20,.pv (dbP d)),(21,pIi d.length),(22,pIi TC)] [(0,oZ S)] 1)
   (I:=fun TC=>TC<=d.length) (μ:=fun TC=>d.length-TC) (x0:=(0)) (OU (aS O) (aO O) O O) (cd _) ?_
  rintro k hk;refine Z1 O O ?_;refine Gp O O (fun hc23=>?_) (fun hc23=>?_)
  ·have hlt:k<d.length:=Ts;have htr:=xO hlt;have htn:=wG hlt;have hto:=HM S hB hS hV k Ts d[k] (hl _ (ar hlt)) (hT k hlt Ts);generalize d[k]=tk at*;refine OR<|Z1 O O<|Rs 25 O O (ae k underlying34 sz38 O O O hlt htn)<|Rs 26 O O (au ⟨_,underlying38,O⟩ O htr)<|Y2 O O<|Z3 O O O O<|Rs 30 O O (aa call197 hto O)<|A1 O<|Z2 O O O ?_;refine Gc O O (fun hc32=>absurd hc32 Tw) (fun hc32=>?_);exact OR<|Z2 O O O<|⟨(k+1),OU (aS O) (aO O) O O,Ts,Ts⟩
  ·exact Gx O<|Z1 O O<|Gt O<|⟨_,_,O,O,O⟩
end

section
open Mk Jn
structure DbOk(S:Sch)(d:List (List Rw)):Prop where
 hB:SB S
 hc:bp S=0
 hS:SJn S
 n:d.length=S.rels.length
 l:∀l∈d,l.length<=12
 t:∀r (h:r<d.length) (h2:r<S.rels.length),TblOk S S.rels[r].2 1 d[r]
 zf:∀l∈d,∀x∈l,∀y∈x.v,Zf y/\y.size<=10000



end
end Go.Proofs.YtoplpepiabedhaaGreatDoor
