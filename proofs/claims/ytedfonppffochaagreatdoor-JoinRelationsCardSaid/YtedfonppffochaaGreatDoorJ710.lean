/-
  Texts of ours, joined and shortened by merge2.py: KR, KW, KXB, K1N, K2N, K3N, K4N, K5N, KN, K8N, K9N. No statement of the program is proved here.
-/
import Derived.Test.YtedfonppffochaaGreatDoorJ79
set_option maxRecDepth 100000
set_option maxHeartbeats 4000000
open Go.RowKit Go.Proofs.Tryz
namespace Go.Proofs.YtedfonppffochaaGreatDoor
section
open Go.RowKit Mk Jn
set_option maxHeartbeats 4000000
theorem r5 {σ:St} {T:TypeId} {ls:List (List PV)} {U nw:Nat} (hU:U<ls.length) (x:PV) (h0:σ.ob nw=some (.gro T (ls[U]++[x]))) (hr:∀ j,j<ls.length→j≠U→σ.ob (j+1000)=some (.gro T (ls.getD j []))):
  ∀ j (h:j<(ls.set U (ls[U]++[x])).length),σ.ob (rnF U nw (j+1000))=some (.gro T ((ls.set U (ls[U]++[x]))[j])):=by
 intro j h;rw [List.length_set] at h;by_cases e:j=U
 ·subst e;rw [uu,h0];simp
 ·rw [b9 (by omega),hr j h e,List.getElem_set_ne (by omega)];simp [List.getD,h]
theorem oE {σ:St} {A:Nat} {TA T:TypeId} {cells:List V} {ls:List (List PV)} (hA:A<1000) {j:Nat} (h:j<ls.length):(ovl σ A TA T cells ls).ob (j+1000)=some (.gro T (ls.getD j [])):=by
 rw [b8 hA h];simp [List.getD,h]
theorem uh {S:Sch} {G:List B64} (hV:Valid S) (hG:IsG S G) {a:Int} {i:Nat} (h:eS S a (i:Int)=true):i<G.length:=by
 unfold eS at h;obtain ⟨r,hr,h2⟩:=List.any_eq_true.1 h;simp only [Bool.and_eq_true,decide_eq_true_eq] at h2;have:=(hV.rng r hr _ h2.2).2;rw [hG.len];omega
theorem oA {S:Sch} {G:List B64} (hV:Valid S) (hG:IsG S G) (P:List Int) (hPl:P.length=G.length):∀ (k:Nat) (v:Nat),v<G.length→InB G.length (eW P G k v)
 | 0,v,hv=>fun i hi=>by
   unfold eW at hi;rw [Int.toNat_natCast,hG.bit v hv i,Bool.and_eq_true] at hi;exact uh hV hG hi.2
 | k+1,v,hv=>by
   unfold eW;refine oO _ _ (fun i hi=>?_) fun c hc=>?_
   ·rw [Int.toNat_natCast,hG.bit v hv i,Bool.and_eq_true] at hi;exact uh hV hG hi.2
   ·obtain ⟨m,hm,rfl,_⟩:=aX.1 hc;exact oA hV hG P hPl k m (by omega)
theorem Bl (n:Nat) (hn:n≤12) {S:Sch} (hV:Valid S) (G:List B64) (hG:IsG S G) (hGn:G.length=n) (P:List Int) (hP:UpOk P) (hPl:P.length=n) (chs:List (List Int)) (hcl:chs.length=n+1) (hch:∀ v (h:v<n),chs[v]'(by omega)=al P v) (hs:List PV):∀ (k v:Nat) (_:v<n) (_:n≤k+(bp P v).length+1) (ab:B64) (L D:List Int) (K:List (List Int)),D.length=n→K.length=n→L.length+(fY P k v).length≤1000→
  FnO Tryz.prog 253 7 2 (layA G v ab) (Fc n G chs 1000003 L D K hs) (fun r ob'=>r= .pv (bz (eW P G k v))∧ob'=ar (Fc n G chs 1 (L++fY P k v) (bg D (ri P k v ab)) (bg K (fQ P G n k v ab)) hs)):=by
 have hgd:∀ v (h:v<G.length),G.getD v 0#64=G[v]:=fun v h=>by simp [List.getD,h]
 have hinG:∀ v (h:v<G.length),InB n G[v]:=fun v h=>by
  have:=oA hV hG P (by omega) 0 v h;rw [eW,Int.toNat_natCast,hgd v h,hGn] at this;exact this
 have hkl:∀ v,(al P v).length≤64:=fun v=>Nat.le_trans (List.length_filter_le ..) (by rw [a8];omega)
 intro k;induction k with
 | zero=>
   intro v hv hf ab L D K hD hK hL;have hlf:al P v=[]:=ln hP (by omega) (by omega);have h1:=lP n hn G hGn chs (by omega) v hv (by omega) [] (by rw [hch v hv,hlf]) (by simp) (by simp) ab (fun _=>0#64) (fun _=>[]) (fun _=>[]) (fun _=>[]) (hinG v (by omega)) (by simp) hs (by simp) L D K hD hK (by simp [fY] at hL ⊢; omega);have e1:eW P G 0 (v:Int)=G[v]'(by omega):=by rw [eW,Int.toNat_natCast,hgd v (by omega)]
   rw [fY,ri,fQ,e1,Int.toNat_natCast];exact h1
 | succ k ih=>
   intro v hv hf ab L D K hD hK hL;have hkid:∀ c∈al P v,∃ m:Nat,m<n∧c=(m:Int)∧P.getD m 0=(v:Int):=fun c hc=>by
    obtain ⟨m,hm,e,hp⟩:=aX.1 hc;exact ⟨m,by omega,e,hp⟩
   have h1:=lP n hn G hGn chs (by omega) v hv (by omega) (al P v) (hch v hv) (hkl v) (fun c hc=>by obtain ⟨m,_,e,_⟩:=hkid c hc;exact ⟨m,e⟩) ab (eW P G k) (fY P k) (fun c=>ri P k c (ab|||BitVec.twoPow 64 v)) (fun c=>fQ P G n k c (ab|||BitVec.twoPow 64 v)) (hinG v (by omega)) (fun c hc=>by
     obtain ⟨m,hm,rfl,_⟩:=hkid c hc;have:=oA hV hG P (by omega) k m (by omega);rwa [hGn] at this) hs (fun c hc L' D' K' hD' hK' hL'=>by
     obtain ⟨m,hm,rfl,hp⟩:=hkid c hc;exact ih m hm (by rw [bO hP (by omega) (by omega) hp,List.length_cons];omega) _ L' D' K' hD' hK' hL') L D K hD hK (by unfold fY at hL;simp only [List.length_cons] at hL;omega)
   have e1:eW P G (k+1) (v:Int)=(al P v).foldl (fun z c=>z|||eW P G k c) (G[v]'(by omega)):=by rw [eW,Int.toNat_natCast,hgd v (by omega)]
   rw [fY,ri,fQ,e1,eD,Int.toNat_natCast];exact h1
theorem uA {l:List (Nat×V)} {os:List (Nat×Ob)} {k:Nat} (h1:l.all (fun p=>p.2.all fun i=>Nat.blt i 1000)=true) (h2:os.all (fun p=>Nat.blt p.1 1000&&p.2.all fun i=>Nat.blt i 1000)=true):(∀ t,((mkS l os k).sl t).all (fun i=>Nat.blt i 1000)=true)∧∀ i o,(mkS l os k).ob i=some o→i<1000∧o.all (fun i=>Nat.blt i 1000)=true:=by
 constructor
 ·intro t;show (look l t).all _=true;clear h2;induction l with
  | nil=>rfl
  | cons p l ih=>
    simp only [List.all_cons,Bool.and_eq_true] at h1;obtain ⟨d,v⟩:=p;simp only [look];cases Nat.beq t d with
    | true=>exact h1.1
    | false=>exact ih h1.2
 ·intro i o h;have hm:=List.all_eq_true.1 h2 _ (bV h);rw [Bool.and_eq_true] at hm;exact ⟨Bo hm.1,hm.2⟩
theorem ot (P:List Int):∀ (k:Nat) (v:Int),fY P k v=(a7 P k v).vs
 | 0,v=>by rw [fY,a7,Tr.vs,vsL]
 | k+1,v=>by
   rw [fY,a7,Tr.vs,dm,List.flatMap_map];rw [show fY P k=fun c=>(a7 P k c).vs from funext (ot P k)]
theorem nN {P:List Int}:(al P (-1)).flatMap (fY P P.length)=aD P:=by
 rw [← ij,dm,List.flatMap_map,show fY P P.length=fun c=>(a7 P P.length c).vs from funext (ot P P.length)]
def iK (S:Sch) (P:List Int) (G:List B64):VD where
 chs:=lsT P P.length
 kes:=bg (List.replicate G.length []) ((al P (-1)).flatMap fun c=>fQ P G G.length P.length c 0#64)
 hos:=hsT G.length (hpL (bg (List.replicate G.length 0) ((al P (-1)).flatMap fun c=>ri P P.length c 0#64)) S) S.rels.length
 wa:=aD P
abbrev ca (D:VD):PV:= .agg [bu D.chs,bu D.kes,bu D.hos,ak D.wa]
theorem FR {S:Sch} {P:List Int} {G:List B64} {k i:Nat} {H M CS D2:List Int} {K2:List (List Int)} (hkP:k=P.length) (hie:i=S.rels.length) (hH:hpL D2 S=H) (hM:M=CS.flatMap (fY P P.length)) (hCS:al P (-1)=CS) (hD2:D2=bg (List.replicate G.length 0) (CS.flatMap fun c=>ri P P.length c 0#64))
  (hK2:K2=bg (List.replicate G.length []) (CS.flatMap fun c=>fQ P G G.length P.length c 0#64)) (hKl:K2.length=G.length):PV.agg [bu (lsT P k),.sl none G.length (K2.map ak),.sl none G.length ((hsT G.length H i).map ak),ak M]=ca (iK S P G):=by
 have e1:(iK S P G).kes=K2:=by rw [hK2, ← hCS];rfl
 have e2:(iK S P G).wa=M:=by rw [hM, ← hCS,nN];rfl
 have e3:(iK S P G).hos=hsT G.length H i:=by rw [← hH,hie,hD2, ← hCS];rfl
 have e4:(iK S P G).chs=lsT P k:=by rw [hkP];rfl
 unfold ca;rw [e1,e2,e3,e4];unfold bu;rw [hKl,cP]
theorem H6 (n:Nat):PV.fgL (List.replicate n nS)=(List.replicate n ([]:List Int)).map ak:=by
 induction n with
 | zero=>rfl
 | succ n ih=>rw [List.replicate_succ,List.replicate_succ,PV.fgL,ih,List.map_cons];rfl
theorem Dk (S:Sch) (hS:SB S) (P:List Int) (hO:OrdOk S P):FnP Tryz.prog 225 [gK S,Fe P] (fun v=>∃ G,IsG S G∧v=ca (iK S P G)):=by
 refine FnP.ofC func225 rfl ntmps225 (by simp) fun m0 w0 F R0=>?_
 have hV:=hO.val;have hP:=hO.dP;have hPl:=hO.len;have hn12:=hV.n2;refine Z3 rfl rfl rfl rfl<|Z1 rfl rfl ?_;refine RL.call rfl (dE call127 (iE S hS hV) rfl ?_);rintro _ ⟨G,rfl,hG⟩;have hGl:=hG.len;refine Y2 rfl rfl<|Z3 rfl rfl rfl rfl<|Ge rfl follows [0,1,2,3,4,5,6,7,8,9] (by kernel_rfl) ?_;iterate 10 refine D1 rfl rfl ?_
 refine ⟨by kernel_rfl,?_⟩;refine Wk [(2,.ptr 0 0),(3,.ptr 1 0),(4,.ptr 2 0),(5,.ptr 3 0),(6,.pv (.int .i64 G.length)),(7,.ptr 7 0)] [(0,oZ S),(1,.mix 271 [.pv (ak P)]),(2,.mix 144 [.pv nS,.pv nS,.pv nS,.pv nS]),(3,.mix 186 [.pv (bS G)]),(4,.cells 22 (List.replicate (G.length+1) nS)),(5,.cells 22 (List.replicate G.length nS)),(6,.cells 22 (List.replicate G.length nS)),(7,.mix 144 [.osl 4 1 (G.length+1),.osl 5 1 G.length,.osl 6 1 G.length,.pv nS])] 8 (aS rfl) ⟨rfl,rfl,rfl,rfl,congrArg (fun c=>some (Ob.cells 22 c)) ((ct nS ((G.length+1)*1)).trans (by rw [Nat.mul_one])),congrArg (fun c=>some (Ob.cells 22 c)) ((ct nS (G.length*1)).trans (by rw [Nat.mul_one])),congrArg (fun c=>some (Ob.cells 22 c)) ((ct nS (G.length*1)).trans (by rw [Nat.mul_one])),rfl,trivial⟩ rfl rfl<|Im (St.py 4 rfl)<|Im (St.Ae (A:=4) (TA:=22) 3 (G.length+1) (congrArg (fun c=>some (Ob.mix 22 c)) (by simp)) (by decide) (by omega) (fun i h1 h2=>xN (by decide) h1 h2))<|Z4 rfl rfl rfl rfl rfl ?_;refine Gl rfl (st:=fun x_0:Nat=>ovl (mkS [(2,.ptr 0 0),(4,.ptr 2 0),(5,.ptr 3 0),(6,.pv (.int .i64 G.length)),(7,.ptr 7 0),(32,.pv (ak P)),(33,.pv (.int .i64 P.length)),(34,.pv (.int .i64 x_0))] [(0,oZ S),(2,.mix 144 [.pv nS,.pv nS,.pv nS,.pv nS]),(3,.mix 186 [.pv (bS G)]),(5,.cells 22 (List.replicate G.length nS)),(6,.cells 22 (List.replicate G.length nS)),(7,.mix 144 [.osl 4 1 (G.length+1),.osl 5 1 G.length,.osl 6 1 G.length,.pv nS])] 8) 4 22 3 (chV (lsP (lsT P x_0))) (lsP (lsT P x_0)))
  (I:=fun x_0=>x_0≤P.length) (μ:=fun x_0=>P.length-x_0) (x0:=(0)) (St.ej 1000 999 (aT rfl) (aP (by kernel_rfl)) (congrArg (fun c=>some (Ob.mix 22 c)) (by rw [eQ 999 (by rw [cZ,b7];omega),vr,hPl,hGl];unfold lsP;rw [List.map_replicate];rfl)) (fun j hj=>by rw [cZ,b7] at hj;rw [b9 (by omega)];refine (b8 (A:=4) (TA:=22) (cells:=chV (List.replicate (G.length+1) [])) (ls:=List.replicate (G.length+1) []) (by decide) (by rw [List.length_replicate];omega)).trans ?_;simp [vr,lsP]) rfl rfl (by decide) (by decide) (by decide) (by decide) (by rw [cZ,b7];omega)) (Nat.zero_le _) ?_
 rintro k hk;refine Z1 rfl rfl ?_;refine Gp rfl rfl (fun hc35=>?_) (fun hc35=>?_)
 ·have hlt:k<P.length:=by omega
  have hpn:=aH hlt;have hpv:=cE hlt;have hpr:=hP.rng _ (List.getElem_mem hlt);have hlen:(lsP (lsT P k)).length=G.length+1:=by rw [cZ,b7];omega
  have hlb:=fun U (h:U<(lsP (lsT P k)).length)=>Hv P k h
  generalize hls:lsP (lsT P k)=ls at*;refine Il<|Z2 rfl rfl rfl ?_;first | refine A2 rfl (by assumption) ?_ | refine A1 rfl ?_
  refine Y2 rfl rfl<|Z2 rfl rfl rfl ?_;refine Gp rfl rfl (fun hc40=>?_) (fun hc40=>?_)
  ·have hm1:P[k]= -1:=by omega
   have hUl:G.length<ls.length:=by omega
   have hnx:lsP (lsT P (k+1))=ls.set (G.length) (ls[G.length]++[.int .i64 k]):=by have h5:G.length<(lsT P k).length:=(by rw [b7];omega);rw [uk hO.rng hlt (G.length) (.inl ⟨hm1,by omega⟩),sq _ _ h5];subst hls;rfl
   have hld:=xA hUl;have hlbU:=hlb _ hUl;have hsto:(G.length)*1+1≤(chV ls).length:=by rw [fp];omega
   refine Z2 rfl rfl rfl<|Ge rfl follows [0,1,2,3,4,5,6,7,8,9,10,11,12] (by kernel_rfl) ?_;iterate 6 refine D1 rfl rfl ?_
   refine Ds 48 [_] rfl rfl rfl (fun τ h=>aa (G.length) underlying142 ly (Ee h 0 rfl rfl) (Eo h 0 rfl rfl) (Ee h 1 rfl rfl) rfl (by omega)) rfl (by kernel_rfl)<|Ds 49 [_] rfl rfl rfl (fun τ h=>jU ⟨_,underlying22,rfl⟩ (Ee h 0 rfl rfl) (Eo h 0 rfl rfl) hld) rfl (by kernel_rfl)<|D1 rfl rfl<|D1 rfl rfl<|Ds 52 [(G.length)+1000,8] rfl rfl rfl (fun τ h=>eN 9 xj (Ee h 0 rfl rfl) ((h.o 0 _ rfl).trans (Eq.trans (b:=(ovl (mkS [(2,.ptr 0 0),(4,.ptr 2 0),(5,.ptr 3 0),(6,.pv (.int .i64 G.length)),(7,.ptr 7 0),(32,.pv (ak P)),(33,.pv (.int .i64 P.length)),(34,.pv (.int .i64 k))] [(0,oZ S),(2,.mix 144 [.pv nS,.pv nS,.pv nS,.pv nS]),(3,.mix 186 [.pv (bS G)]),(5,.cells 22 (List.replicate G.length nS)),(6,.cells 22 (List.replicate G.length nS)),(7,.mix 144 [.osl 4 1 (G.length+1),.osl 5 1 G.length,.osl 6 1 G.length,.pv nS])] 8) 4 22 3 (chV (ls)) (ls)).ob (G.length+1000)) (by kernel_rfl) (b8 (by decide) hUl))) (Nat.mul_one _).symm (Ee h 1 rfl rfl) (Eo h 1 rfl rfl) rfl rfl (by omega) (h.n 0 _ rfl)) rfl (by kernel_rfl)<|Ds 53 [_] rfl rfl rfl (fun τ h=>aa (G.length) underlying142 ly (Ee h 0 rfl rfl) (Eo h 0 rfl rfl) (Ee h 1 rfl rfl) rfl (by omega)) rfl (by kernel_rfl)<|DL.step (d:=none) [_] rfl rfl rfl (fun τ h=>jR ly (Ee h 0 rfl rfl) (Eo h 0 rfl rfl) (Ee h 1 rfl rfl) rfl hsto rfl rfl) rfl (by kernel_rfl) ?_;refine ⟨by kernel_rfl,?_⟩;exact Z2 rfl rfl rfl<|⟨(k+1),(by rw [hnx];exact St.ej (G.length) 9 (aT rfl) (aP (by kernel_rfl)) (Eq.trans (b:=some (.mix 22 (eY (chV ls) ((G.length)*1) [.gsl 9 1 (ls[G.length].length+1)]))) (by kernel_rfl) (congrArg (fun c=>some (Ob.mix 22 c)) ((nF _ _ _ (by rw [fp];omega)).trans (kg hUl 9 _).symm))) (r5 hUl _ (by kernel_rfl) (fun j hj hne=>Eq.trans (b:=bif Nat.beq (j+1000) (G.length+1000) then (none:Option Ob) else (ovl (mkS [(2,.ptr 0 0),(4,.ptr 2 0),(5,.ptr 3 0),(6,.pv (.int .i64 G.length)),(7,.ptr 7 0),(32,.pv (ak P)),(33,.pv (.int .i64 P.length)),(34,.pv (.int .i64 k))] [(0,oZ S),(2,.mix 144 [.pv nS,.pv nS,.pv nS,.pv nS]),(3,.mix 186 [.pv (bS G)]),(5,.cells 22 (List.replicate G.length nS)),(6,.cells 22 (List.replicate G.length nS)),(7,.mix 144 [.osl 4 1 (G.length+1),.osl 5 1 G.length,.osl 6 1 G.length,.pv nS])] 8) 4 22 3 (chV (ls)) (ls)).ob (j+1000)) (by kernel_rfl) (by rw [y7 (by omega),cond_false];exact oE (by decide) hj))) rfl rfl (by decide) (by decide) (by decide) (by omega) (by rw [List.length_set];omega)),by omega,by omega⟩
  ·obtain ⟨a,ha⟩:=Int.eq_ofNat_of_zero_le (show 0≤P[k] by omega);have hUl:a<ls.length:=by omega
   have hnx:lsP (lsT P (k+1))=ls.set (a) (ls[a]++[.int .i64 k]):=by have h5:a<(lsT P k).length:=(by rw [b7];omega);rw [uk hO.rng hlt (a) (.inr ⟨ha,by omega⟩),sq _ _ h5];subst hls;rfl
   have hld:=xA hUl;have hlbU:=hlb _ hUl;have hsto:(a)*1+1≤(chV ls).length:=by rw [fp];omega
   refine Il ?_;rw [ha];refine Ge rfl follows [0,1,2,3,4,5,6,7,8,9,10,11,12] (by kernel_rfl) ?_;iterate 6 refine D1 rfl rfl ?_
   refine Ds 48 [_] rfl rfl rfl (fun τ h=>aa (a) underlying142 ly (Ee h 0 rfl rfl) (Eo h 0 rfl rfl) (Ee h 1 rfl rfl) rfl (by omega)) rfl (by kernel_rfl)<|Ds 49 [_] rfl rfl rfl (fun τ h=>jU ⟨_,underlying22,rfl⟩ (Ee h 0 rfl rfl) (Eo h 0 rfl rfl) hld) rfl (by kernel_rfl)<|D1 rfl rfl<|D1 rfl rfl<|Ds 52 [(a)+1000,8] rfl rfl rfl (fun τ h=>eN 9 xj (Ee h 0 rfl rfl) ((h.o 0 _ rfl).trans (Eq.trans (b:=(ovl (mkS [(2,.ptr 0 0),(4,.ptr 2 0),(5,.ptr 3 0),(6,.pv (.int .i64 G.length)),(7,.ptr 7 0),(32,.pv (ak P)),(33,.pv (.int .i64 P.length)),(34,.pv (.int .i64 k))] [(0,oZ S),(2,.mix 144 [.pv nS,.pv nS,.pv nS,.pv nS]),(3,.mix 186 [.pv (bS G)]),(5,.cells 22 (List.replicate G.length nS)),(6,.cells 22 (List.replicate G.length nS)),(7,.mix 144 [.osl 4 1 (G.length+1),.osl 5 1 G.length,.osl 6 1 G.length,.pv nS])] 8) 4 22 3 (chV (ls)) (ls)).ob (a+1000)) (by kernel_rfl) (b8 (by decide) hUl))) (Nat.mul_one _).symm (Ee h 1 rfl rfl) (Eo h 1 rfl rfl) rfl rfl (by omega) (h.n 0 _ rfl)) rfl (by kernel_rfl)<|Ds 53 [_] rfl rfl rfl (fun τ h=>aa (a) underlying142 ly (Ee h 0 rfl rfl) (Eo h 0 rfl rfl) (Ee h 1 rfl rfl) rfl (by omega)) rfl (by kernel_rfl)<|DL.step (d:=none) [_] rfl rfl rfl (fun τ h=>jR ly (Ee h 0 rfl rfl) (Eo h 0 rfl rfl) (Ee h 1 rfl rfl) rfl hsto rfl rfl) rfl (by kernel_rfl) ?_;refine ⟨by kernel_rfl,?_⟩;exact Z2 rfl rfl rfl<|⟨(k+1),(by rw [hnx];exact St.ej (a) 9 (aT rfl) (aP (by kernel_rfl)) (Eq.trans (b:=some (.mix 22 (eY (chV ls) ((a)*1) [.gsl 9 1 (ls[a].length+1)]))) (by kernel_rfl) (congrArg (fun c=>some (Ob.mix 22 c)) ((nF _ _ _ (by rw [fp];omega)).trans (kg hUl 9 _).symm))) (r5 hUl _ (by kernel_rfl) (fun j hj hne=>Eq.trans (b:=bif Nat.beq (j+1000) (a+1000) then (none:Option Ob) else (ovl (mkS [(2,.ptr 0 0),(4,.ptr 2 0),(5,.ptr 3 0),(6,.pv (.int .i64 G.length)),(7,.ptr 7 0),(32,.pv (ak P)),(33,.pv (.int .i64 P.length)),(34,.pv (.int .i64 k))] [(0,oZ S),(2,.mix 144 [.pv nS,.pv nS,.pv nS,.pv nS]),(3,.mix 186 [.pv (bS G)]),(5,.cells 22 (List.replicate G.length nS)),(6,.cells 22 (List.replicate G.length nS)),(7,.mix 144 [.osl 4 1 (G.length+1),.osl 5 1 G.length,.osl 6 1 G.length,.pv nS])] 8) 4 22 3 (chV (ls)) (ls)).ob (j+1000)) (by kernel_rfl) (by rw [y7 (by omega),cond_false];exact oE (by decide) hj))) rfl rfl (by decide) (by decide) (by decide) (by omega) (by rw [List.length_set];omega)),by omega,by omega⟩
 ·have hkP:k=P.length:=by omega
  have hlen:(lsP (lsT P k)).length=G.length+1:=by rw [cZ,b7];omega
  have hLl:(lsT P k).length=G.length+1:=by rw [b7];omega
  have hcp:chP (lsP (lsT P k))=((lsT P k).map ak).map V.pv:=by rw [zo,List.map_map];rfl
  generalize hls:lsP (lsT P k)=ls at*;refine Im (St.ej (l:=[(2,.ptr 0 0),(4,.ptr 2 0),(5,.ptr 3 0),(6,.pv (.int .i64 G.length)),(7,.ptr 7 0)]) (os:=[(0,oZ S),(2,.mix 144 [.pv nS,.pv nS,.pv nS,.pv nS]),(3,.mix 186 [.pv (bS G)]),(5,.cells 22 (List.replicate G.length nS)),(6,.cells 22 (List.replicate G.length nS)),(7,.mix 144 [.osl 4 1 (G.length+1),.osl 5 1 G.length,.osl 6 1 G.length,.pv nS])]) (k:=8) (A:=4) (TA:=22) (T:=3) (ls:=ls) 1000 999 (aT (by kernel_rfl)) (aP (by kernel_rfl)) (Eq.trans (b:=some (.mix 22 (chV ls))) (by kernel_rfl) (by rw [eQ 999 (by omega)])) (fun j hj=>by rw [b9 (by omega)];exact Eq.trans (b:=(ovl (mkS [(2,.ptr 0 0),(4,.ptr 2 0),(5,.ptr 3 0),(6,.pv (.int .i64 G.length)),(7,.ptr 7 0),(32,.pv (ak P)),(33,.pv (.int .i64 P.length)),(34,.pv (.int .i64 k))] [(0,oZ S),(2,.mix 144 [.pv nS,.pv nS,.pv nS,.pv nS]),(3,.mix 186 [.pv (bS G)]),(5,.cells 22 (List.replicate G.length nS)),(6,.cells 22 (List.replicate G.length nS)),(7,.mix 144 [.osl 4 1 (G.length+1),.osl 5 1 G.length,.osl 6 1 G.length,.pv nS])] 8) 4 22 3 (chV (ls)) (ls)).ob (j+1000)) (by kernel_rfl) (b8 (by decide) hj)) rfl rfl (by decide) (by decide) (by decide) (by decide) (by omega)) ?_;have hsm:=uA (l:=[(2,.ptr 0 0),(4,.ptr 2 0),(5,.ptr 3 0),(6,.pv (.int .i64 G.length)),(7,.ptr 7 0)]) (os:=[(0,oZ S),(2,.mix 144 [.pv nS,.pv nS,.pv nS,.pv nS]),(3,.mix 186 [.pv (bS G)]),(5,.cells 22 (List.replicate G.length nS)),(6,.cells 22 (List.replicate G.length nS)),(7,.mix 144 [.osl 4 1 (G.length+1),.osl 5 1 G.length,.osl 6 1 G.length,.pv nS])]) (k:=8) rfl rfl;refine Im (St.zC ls (by decide) (by omega) hsm.1 hsm.2)<|Im (St.zb (id:=4) (cs:=(lsT P k).map ak) rfl hcp)<|Im (Io (l:=[(2,.ptr 0 0),(4,.ptr 2 0),(5,.ptr 3 0),(6,.pv (.int .i64 G.length)),(7,.ptr 7 0)]) (os:=(4,.cells 22 ((lsT P k).map ak))::[(0,oZ S),(2,.mix 144 [.pv nS,.pv nS,.pv nS,.pv nS]),(3,.mix 186 [.pv (bS G)]),(5,.cells 22 (List.replicate G.length nS)),(6,.cells 22 (List.replicate G.length nS)),(7,.mix 144 [.osl 4 1 (G.length+1),.osl 5 1 G.length,.osl 6 1 G.length,.pv nS])]) (k:=8) (aS (by kernel_rfl)) (aO (by kernel_rfl)) rfl rfl)<|Im (St.er 7 3 8 1 3 rfl rfl rfl)<|Im (Ir 4 rfl rfl)<|Im (St.uB 7 rfl)<|Im (St.Hc (id:=5) rfl)<|Wk [(2,.ptr 0 0),(4,.ptr 2 0),(5,.ptr 3 0),(6,.pv (.int .i64 G.length)),(7,.ptr 7 0)] [(0,oZ S),(2,.mix 144 [.pv nS,.pv nS,.pv nS,.pv nS]),(3,.mix 186 [.pv (bS G)]),(5,.cells 22 ((List.replicate G.length ([]:List Int)).map ak)),(6,.cells 22 (List.replicate G.length nS)),(7,.mix 144 [.pv (bu (lsT P k)),.osl 5 1 G.length,.osl 6 1 G.length,.gsl 8 1 0]),(8,.gro 3 (aE []))] 9 (aS (by kernel_rfl)) ⟨by kernel_rfl,by kernel_rfl,by kernel_rfl,Eq.trans (b:=some (.cells 22 (PV.fgL (List.replicate G.length nS)))) (by kernel_rfl) (congrArg (fun c=>some (Ob.cells 22 c)) (H6 _)),by kernel_rfl,Eq.trans (b:=some (.mix 144 [.pv (.sl none (G.length+1) ((lsT P k).map ak)),.osl 5 1 G.length,.osl 6 1 G.length,.gsl 8 1 0])) (by kernel_rfl) (congrArg (fun q=>some (Ob.mix 144 [.pv (.sl none q ((lsT P k).map ak)),.osl 5 1 G.length,.osl 6 1 G.length,.gsl 8 1 0])) hLl.symm),by kernel_rfl,trivial⟩ rfl rfl ?_;clear hls hcp hlen;have hCl:(al P (-1)).length≤64:=Nat.le_trans (List.length_filter_le ..) (by rw [a8];omega);have hCm:∀ c∈al P (-1),∃ m:Nat,m<G.length∧c=(m:Int)∧P.getD m 0= -1:=fun c hc=>by obtain ⟨m,hm,e,hp⟩:=aX.1 hc;exact ⟨m,by omega,e,hp⟩
  have hrl:G.length<(lsT P k).length:=by omega
  have hrv:=cM hrl;have hrn:=cQ hrl;have hroot:(lsT P k)[G.length]=al P (-1):=by have h5:=fG P k;rw [hkP,jT] at h5;simp only [hkP,hGl, ← hPl];exact h5
  rw [hroot] at hrv;have hch:∀ v (h:v<G.length),(lsT P k)[v]'(by omega)=al P v:=fun v h=>by have h5:=mJ P k (i:=v) (by omega);rw [h5,hkP,jT]
  have hvis:=fun (m:Nat) (hm:m<G.length) (hr:P.getD m 0= -1)=>Bl G.length (by omega) hV G hG rfl P hP (by omega) (lsT P k) hLl hch (List.replicate G.length nS) P.length m hm (by omega) 0#64
  have hvl:((al P (-1)).flatMap (fY P P.length)).length≤12:=by rw [nN,Aa hP];omega
  generalize hCS:al P (-1)=CS at*;refine Gx rfl<|Z4 rfl rfl rfl rfl rfl<|Z1 rfl rfl<|Im (St.fS 3 rfl rfl)<|Z2 rfl rfl rfl<|Z3 rfl rfl rfl rfl<|Rs 61 rfl rfl (ag G.length underlying142 ly rfl rfl rfl hrl hrn)<|Rs 62 rfl rfl (ai ⟨_,underlying22,rfl⟩ rfl hrv)<|Y2 rfl rfl ?_;refine Gl rfl (st:=fun x_1:Nat×List Int×List Int×List (List Int)=>mkS [(2,.ptr 0 0),(4,.ptr 2 0),(7,.ptr 7 0),(10,.ptr 10 0),(11,.ptr 11 0),(62,.pv (ak CS)),(63,.pv (.int .i64 CS.length)),(64,.pv (.int .i64 x_1.1))] [(0,oZ S),(2,.mix 144 [.pv nS,.pv nS,.pv nS,.pv nS]),(5,.cells 22 (x_1.2.2.2.map ak)),(6,.cells 22 (List.replicate G.length nS)),(7,.mix 144 [.pv (bu ((lsT P k))),.osl 5 1 G.length,.osl 6 1 G.length,.gsl 8 1 x_1.2.1.length]),(8,.gro 3 (aE x_1.2.1)),(9,.cells 3 (aE x_1.2.2.1)),(10,.mix 22 [.osl 9 1 G.length]),(11,.mix 294 [.fn (.func 253) [] [.ptr 7 0,.ptr 10 0,.pv (.rp [bS G] 0),.ptr 11 0]])] 12)
   (I:=fun x_1=>(x_1.1≤CS.length∧x_1.2.1=(CS.take x_1.1).flatMap (fY P P.length))∧x_1.2.2.1=bg (List.replicate G.length 0) ((CS.take x_1.1).flatMap fun c=>ri P P.length c 0#64)∧x_1.2.2.2=bg (List.replicate G.length []) ((CS.take x_1.1).flatMap fun c=>fQ P G G.length P.length c 0#64)) (μ:=fun x_1=>CS.length-x_1.1) (x0:=(0,[],List.replicate G.length 0,List.replicate G.length [])) (Io (aS rfl) ⟨by kernel_rfl,by kernel_rfl,by kernel_rfl,by kernel_rfl,by kernel_rfl,by kernel_rfl,Eq.trans (b:=some (.cells 3 (mkZ [.int .i64 0] (G.length*1)))) (by kernel_rfl) (congrArg (fun c=>some (Ob.cells 3 c)) ((ct (.int .i64 0) (G.length*1)).trans (by rw [Nat.mul_one];show _=List.map _ (List.replicate _ _);rw [List.map_replicate]))),by kernel_rfl,by kernel_rfl,trivial⟩ rfl rfl) (⟨⟨Nat.zero_le _,rfl⟩,rfl,rfl⟩) ?_
  rintro ⟨j,M,D2,K2⟩ ⟨⟨hj,hM⟩,hD2,hK2⟩;try simp only at hj hM hD2 hK2 ⊢
  refine Z1 rfl rfl ?_;refine Gp rfl rfl (fun hc65=>?_) (fun hc65=>?_)
  ·have hlt:j<CS.length:=by omega
   have hcm:=List.getElem_mem hlt;obtain ⟨c,hcl,hc,hcr⟩:=hCm _ hcm;have hpv2:(aE CS)[j*1]? =some (.int .i64 (c:Int)):=by rw [← hc];simp [hlt]
   have hpn2:=aH hlt;have htf:=eC hlt (fY P P.length);have htd:=eC hlt (fun c=>ri P P.length c 0#64);have htk:=eC hlt (fun c=>fQ P G G.length P.length c 0#64);have hfl:=vo (fY P P.length) CS (j+1);rw [hc] at htf htd htk;have hgo:=hvis c hcl hcr M D2 K2 (by rw [hD2,cA,List.length_replicate]) (by rw [hK2,cA,List.length_replicate]) (by rw [htf,List.length_append] at hfl;rw [hM];omega);refine Il<|Z1 rfl rfl<|Rs 67 rfl rfl (ai ⟨_,underlying3,rfl⟩ rfl hpv2)<|A1 rfl<|Z2 rfl rfl rfl<|Rs 70 rfl rfl (bJ (vs:=[.pv (.int .i64 (c:Int)),.pv (bz 0#64)]) [7,5,6,8,10,9,11] 12 call253 hgo rfl rfl rfl rfl rfl rfl ⟨by kernel_rfl,by kernel_rfl,by kernel_rfl,by kernel_rfl,by kernel_rfl,by kernel_rfl,by kernel_rfl,trivial⟩ (by decide) rfl) ?_;exact Z2 rfl rfl rfl<|⟨(j+1,M++fY P P.length (c:Int),bg D2 (ri P P.length (c:Int) 0#64),bg K2 (fQ P G G.length P.length (c:Int) 0#64)),Ip [0,1,2,3,4,5,6,7,13,9,10,11] (aT rfl) (aP (by kernel_rfl)) rfl rfl (by decide) rfl,⟨⟨by simp only;omega,by simp only;rw [htf, ← hM]⟩,by simp only;rw [htd,eD, ← hD2],by simp only;rw [htk,eD, ← hK2]⟩,by simp only;omega⟩
  ·rw [show CS.take j=CS from List.take_of_length_le (by omega)] at hM hD2 hK2;have hDl:D2.length=G.length:=by rw [hD2,cA,List.length_replicate]
   have hKl:K2.length=G.length:=by rw [hK2,cA,List.length_replicate]
   have hIl:(aE D2).length=G.length:=by rw [List.length_map,hDl]
   have hrl5:=hV.r2;have hrln:=hS.rl;have hHl:=F9 D2 S;generalize hH:hpL D2 S=H at hHl;have hHr:∀ i (h:i<S.rels.length),H[i]'(by omega)=eX D2 S.rels[i].2 S.rels[i].2.length:=fun i h=>by subst hH;simp [hpL]
   refine Wk [(2,.ptr 0 0),(4,.ptr 2 0),(7,.ptr 7 0),(10,.ptr 10 0)] [(0,oZ S),(2,.mix 144 [.pv nS,.pv nS,.pv nS,.pv nS]),(5,.cells 22 (K2.map ak)),(6,.cells 22 (List.replicate G.length nS)),(7,.mix 144 [.pv (bu (lsT P k)),.osl 5 1 G.length,.osl 6 1 G.length,.gsl 8 1 M.length]),(8,.gro 3 (aE M)),(9,.cells 3 (aE D2)),(10,.mix 22 [.osl 9 1 G.length])] 12 (aS (by kernel_rfl)) (aO (by kernel_rfl)) rfl rfl<|Im (St.py 6 rfl)<|Im (St.Ae (A:=6) (TA:=22) 3 G.length (congrArg (fun c=>some (Ob.mix 22 c)) (by simp)) (by decide) (by omega) (fun i h1 h2=>xN (by decide) h1 h2))<|Gx rfl<|Z4 rfl rfl rfl rfl rfl ?_;refine Gl rfl (st:=fun x_2:Nat=>ovl (mkS [(4,.ptr 2 0),(7,.ptr 7 0),(10,.ptr 10 0),(73,.pv (.sl none S.rels.length (bj S.rels))),(74,.pv (.int .i64 S.rels.length)),(75,.pv (.int .i64 x_2))] [(2,.mix 144 [.pv nS,.pv nS,.pv nS,.pv nS]),(5,.cells 22 (K2.map ak)),(7,.mix 144 [.pv (bu (lsT P k)),.osl 5 1 G.length,.osl 6 1 G.length,.gsl 8 1 M.length]),(8,.gro 3 (aE M)),(9,.cells 3 (aE D2)),(10,.mix 22 [.osl 9 1 G.length])] 12) 6 22 3 (chV (lsP (hsT G.length H x_2))) (lsP (hsT G.length H x_2)))
    (I:=fun x_2=>x_2≤S.rels.length) (μ:=fun x_2=>S.rels.length-x_2) (x0:=(0)) (St.ej 1000 999 (aT rfl) (aP (by kernel_rfl)) (congrArg (fun c=>some (Ob.mix 22 c)) (by rw [eQ 999 (by rw [cZ,cP];omega),uy];unfold lsP;rw [List.map_replicate];rfl)) (fun j hj=>by rw [cZ,cP] at hj;rw [b9 (by omega)];refine (b8 (A:=6) (TA:=22) (cells:=chV (List.replicate G.length [])) (ls:=List.replicate G.length []) (by decide) (by rw [List.length_replicate];omega)).trans ?_;simp [uy,lsP]) rfl rfl (by decide) (by decide) (by decide) (by decide) (by rw [cZ,cP];omega)) (Nat.zero_le _) ?_
   rintro i hi;refine Z1 rfl rfl ?_;refine Gp rfl rfl (fun hc76=>?_) (fun hc76=>?_)
   ·have hli:i<S.rels.length:=by omega
    have hrow:=cW hli;have hne:=ew hli;have hrk:=hrln _ (List.getElem_mem hli);have hrr:=hV.rng _ (List.getElem_mem hli);have hrn0:=hV.ne _ (List.getElem_mem hli);have hHi:=hHr i hli;have hlen:(lsP (hsT G.length H i)).length=G.length:=by rw [cZ,cP]
    have hlb:=fun U (h:U<(lsP (hsT G.length H i)).length)=>Hl G.length H i h
    generalize S.rels[i]=rk at*;have hhm:=fun j=>pY D2 hrn0 j
    have hnat:∀ x∈rk.2,∃ m:Nat,m<G.length∧x=(m:Int):=fun x hx=>by obtain ⟨m,e⟩:=Int.eq_ofNat_of_zero_le (hrr x hx).1;exact ⟨m,by have:=(hrr x hx).2;omega,e⟩
    obtain ⟨U,hUn,hUe⟩:=hnat _ (hhm rk.2.length);generalize hls:lsP (hsT G.length H i)=ls at*;have hUl:U<ls.length:=by omega
    have hnx:lsP (hsT G.length H (i+1))=ls.set U (ls[U]++[.int .i64 i]):=by have h5:U<(hsT G.length H i).length:=(by rw [cP];exact hUn);rw [Cy (by omega) hUn (hHi.trans hUe),sq _ _ h5];subst hls;rfl
    have hld:=xA hUl;have hlbU:=hlb _ hUl;have hsto:U*1+1≤(chV ls).length:=by rw [fp];omega
    have h0l:0<rk.2.length:=List.length_pos_iff.2 hrn0;have hq0:(aE rk.2)[0*1]? =some (.int .i64 (eX D2 rk.2 0)):=by cases hc:rk.2 with | nil=>exact absurd hc hrn0 | cons x l=>simp [eX]
    have hpn0:=aH h0l;refine Il<|Z2 rfl rfl rfl ?_;first | refine A3 rfl (by assumption) ?_ | refine A1 rfl ?_
    refine Y3 rfl rfl rfl<|Z2 rfl rfl rfl<|Rs 82 rfl rfl (ag 0 underlying22 sz3 rfl rfl rfl h0l hpn0)<|Rs 83 rfl rfl (ai ⟨_,underlying3,rfl⟩ rfl hq0)<|A1 rfl<|Z4 rfl rfl rfl rfl rfl ?_;refine Gl rfl (st:=fun x_3:Nat=>ovl (mkS [(4,.ptr 2 0),(7,.ptr 7 0),(10,.ptr 10 0),(14,.pv (.int .i64 i)),(16,.pv (.int .i64 (eX D2 rk.2 x_3))),(73,.pv (.sl none S.rels.length (bj S.rels))),(74,.pv (.int .i64 S.rels.length)),(75,.pv (.int .i64 i)),(85,.pv (ak rk.2)),(86,.pv (.int .i64 rk.2.length)),(87,.pv (.int .i64 x_3))] [(2,.mix 144 [.pv nS,.pv nS,.pv nS,.pv nS]),(5,.cells 22 (K2.map ak)),(7,.mix 144 [.pv (bu (lsT P k)),.osl 5 1 G.length,.osl 6 1 G.length,.gsl 8 1 M.length]),(8,.gro 3 (aE M)),(9,.cells 3 (aE D2)),(10,.mix 22 [.osl 9 1 G.length])] 13) 6 22 3 (chV ls) (ls))
     (I:=fun x_3=>x_3≤rk.2.length) (μ:=fun x_3=>rk.2.length-x_3) (x0:=(0)) (St.ej 1000 999 (aT rfl) (aP (by kernel_rfl)) (Eq.trans (b:=some (.mix 22 (chV ls))) (by kernel_rfl) (by rw [eQ 999 (by omega)])) (fun j2 hj2=>by rw [b9 (by omega)];exact Eq.trans (b:=(ovl (mkS [(4,.ptr 2 0),(7,.ptr 7 0),(10,.ptr 10 0),(73,.pv (.sl none S.rels.length (bj S.rels))),(74,.pv (.int .i64 S.rels.length)),(75,.pv (.int .i64 i))] [(2,.mix 144 [.pv nS,.pv nS,.pv nS,.pv nS]),(5,.cells 22 (K2.map ak)),(7,.mix 144 [.pv (bu (lsT P k)),.osl 5 1 G.length,.osl 6 1 G.length,.gsl 8 1 M.length]),(8,.gro 3 (aE M)),(9,.cells 3 (aE D2)),(10,.mix 22 [.osl 9 1 G.length])] 12) 6 22 3 (chV (ls)) (ls)).ob (j2+1000)) (by kernel_rfl) (b8 (by decide) hj2)) rfl rfl (by decide) (by decide) (by decide) (by decide) (by omega)) (Nat.zero_le _) ?_
    rintro j3 hj3;refine Z1 rfl rfl ?_;refine Gp rfl rfl (fun hc88=>?_) (fun hc88=>?_)
    ·have hl3:j3<rk.2.length:=by omega
     obtain ⟨a,hal,ha⟩:=hnat _ (List.getElem_mem hl3);obtain ⟨mh,hml,hmh⟩:=hnat _ (hhm j3);have hpv3:(aE rk.2)[j3*1]? =some (.int .i64 (a:Int)):=by rw [← ha];simp [hl3]
     have hpn3:=aH hl3;have hDa:(aE D2)[a*1]? =some (.int .i64 (D2.getD a 0)):=by simp [List.getD,hDl,hal]
     have hDm:(aE D2)[mh*1]? =some (.int .i64 (D2.getD mh 0)):=by simp [List.getD,hDl,hml]
     have hhs:=wC D2 rk.2 hl3;rw [ha,hmh,Int.toNat_natCast,Int.toNat_natCast] at hhs;refine Il<|Z1 rfl rfl<|Rs 90 rfl rfl (ai ⟨_,underlying3,rfl⟩ rfl hpv3)<|A1 rfl<|Ge rfl follows [0,1,2,3,4,5,6,7,8] (by kernel_rfl)<|D1 rfl rfl<|D1 rfl rfl<|Ds 93 [_] rfl rfl rfl (fun τ h=>aa a underlying22 sz3 (Ee h 0 rfl rfl) (Eo h 0 rfl rfl) (Ee h 1 rfl rfl) rfl (by omega)) rfl (by kernel_rfl)<|Ds 94 [_] rfl rfl rfl (fun τ h=>aC ⟨_,underlying3,rfl⟩ (Ee h 0 rfl rfl) (Eo h 0 rfl rfl) hDa) rfl (by kernel_rfl)<|D1 rfl rfl<|D1 rfl rfl<|Ds 97 [_] rfl rfl rfl (fun τ h=>aa mh underlying22 sz3 (Ee h 0 rfl rfl) (Eo h 0 rfl rfl) (Ee h 1 rfl rfl) hmh (by omega)) rfl (by kernel_rfl)<|Ds 98 [_] rfl rfl rfl (fun τ h=>aC ⟨_,underlying3,rfl⟩ (Ee h 0 rfl rfl) (Eo h 0 rfl rfl) hDm) rfl (by kernel_rfl)<|D1 rfl rfl ?_;refine ⟨by kernel_rfl,?_⟩;refine Gp rfl rfl (fun hc99=>?_) (fun hc99=>?_)
     ·exact Z2 rfl rfl rfl<|Z2 rfl rfl rfl<|⟨(j3+1),St.ej 1000 999 ⟨rfl,rfl,rfl,rfl,congrArg (fun z=>V.pv (.int .i64 z)) (hhs.trans (if_pos hc99)).symm,rfl,rfl,rfl,rfl,rfl,rfl,trivial⟩ (aP (by kernel_rfl)) (Eq.trans (b:=some (.mix 22 (chV ls))) (by kernel_rfl) (by rw [eQ 999 (by omega)])) (fun j2 hj2=>by rw [b9 (by omega)];exact Eq.trans (b:=(ovl (mkS [(4,.ptr 2 0),(7,.ptr 7 0),(10,.ptr 10 0),(14,.pv (.int .i64 i)),(16,.pv (.int .i64 (eX D2 rk.2 j3))),(73,.pv (.sl none S.rels.length (bj S.rels))),(74,.pv (.int .i64 S.rels.length)),(75,.pv (.int .i64 i)),(85,.pv (ak rk.2)),(86,.pv (.int .i64 rk.2.length)),(87,.pv (.int .i64 j3))] [(2,.mix 144 [.pv nS,.pv nS,.pv nS,.pv nS]),(5,.cells 22 (K2.map ak)),(7,.mix 144 [.pv (bu (lsT P k)),.osl 5 1 G.length,.osl 6 1 G.length,.gsl 8 1 M.length]),(8,.gro 3 (aE M)),(9,.cells 3 (aE D2)),(10,.mix 22 [.osl 9 1 G.length])] 13) 6 22 3 (chV ls) (ls)).ob (j2+1000)) (by kernel_rfl) (b8 (by decide) hj2)) rfl rfl (by decide) (by decide) (by decide) (by decide) (by omega),by omega,by omega⟩
     ·exact Il<|Z2 rfl rfl rfl<|⟨(j3+1),St.ej 1000 999 ⟨rfl,rfl,rfl,rfl,congrArg (fun z=>V.pv (.int .i64 z)) ((hhs.trans (if_neg hc99)).trans hmh.symm).symm,rfl,rfl,rfl,rfl,rfl,rfl,trivial⟩ (aP (by kernel_rfl)) (Eq.trans (b:=some (.mix 22 (chV ls))) (by kernel_rfl) (by rw [eQ 999 (by omega)])) (fun j2 hj2=>by rw [b9 (by omega)];exact Eq.trans (b:=(ovl (mkS [(4,.ptr 2 0),(7,.ptr 7 0),(10,.ptr 10 0),(14,.pv (.int .i64 i)),(16,.pv (.int .i64 (eX D2 rk.2 j3))),(73,.pv (.sl none S.rels.length (bj S.rels))),(74,.pv (.int .i64 S.rels.length)),(75,.pv (.int .i64 i)),(85,.pv (ak rk.2)),(86,.pv (.int .i64 rk.2.length)),(87,.pv (.int .i64 j3))] [(2,.mix 144 [.pv nS,.pv nS,.pv nS,.pv nS]),(5,.cells 22 (K2.map ak)),(7,.mix 144 [.pv (bu (lsT P k)),.osl 5 1 G.length,.osl 6 1 G.length,.gsl 8 1 M.length]),(8,.gro 3 (aE M)),(9,.cells 3 (aE D2)),(10,.mix 22 [.osl 9 1 G.length])] 13) 6 22 3 (chV ls) (ls)).ob (j2+1000)) (by kernel_rfl) (b8 (by decide) hj2)) rfl rfl (by decide) (by decide) (by decide) (by decide) (by omega),by omega,by omega⟩
    ·have hje:j3=rk.2.length:=by omega
     rw [← hje] at hUe;refine Gx rfl<|Ge rfl follows [0,1,2,3,4,5,6,7,8,9,10,11,12] (by kernel_rfl) ?_;iterate 6 refine D1 rfl rfl ?_
     refine Ds 108 [_] rfl rfl rfl (fun τ h=>aa U underlying142 ly (Ee h 0 rfl rfl) (Eo h 0 rfl rfl) (Ee h 1 rfl rfl) hUe (by omega)) rfl (by kernel_rfl)<|Ds 109 [_] rfl rfl rfl (fun τ h=>jU ⟨_,underlying22,rfl⟩ (Ee h 0 rfl rfl) (Eo h 0 rfl rfl) hld) rfl (by kernel_rfl)<|D1 rfl rfl<|D1 rfl rfl<|Ds 112 [U+1000,13] rfl rfl rfl (fun τ h=>eN 14 xj (Ee h 0 rfl rfl) ((h.o 0 _ rfl).trans (Eq.trans (b:=(ovl (mkS [(4,.ptr 2 0),(7,.ptr 7 0),(10,.ptr 10 0),(14,.pv (.int .i64 i)),(16,.pv (.int .i64 (eX D2 rk.2 j3))),(73,.pv (.sl none S.rels.length (bj S.rels))),(74,.pv (.int .i64 S.rels.length)),(75,.pv (.int .i64 i)),(85,.pv (ak rk.2)),(86,.pv (.int .i64 rk.2.length)),(87,.pv (.int .i64 j3))] [(2,.mix 144 [.pv nS,.pv nS,.pv nS,.pv nS]),(5,.cells 22 (K2.map ak)),(7,.mix 144 [.pv (bu (lsT P k)),.osl 5 1 G.length,.osl 6 1 G.length,.gsl 8 1 M.length]),(8,.gro 3 (aE M)),(9,.cells 3 (aE D2)),(10,.mix 22 [.osl 9 1 G.length])] 13) 6 22 3 (chV ls) (ls)).ob (U+1000)) (by kernel_rfl) (b8 (by decide) hUl))) (Nat.mul_one _).symm (Ee h 1 rfl rfl) (Eo h 1 rfl rfl) rfl rfl (by omega) (h.n 0 _ rfl)) rfl (by kernel_rfl)<|Ds 113 [_] rfl rfl rfl (fun τ h=>aa U underlying142 ly (Ee h 0 rfl rfl) (Eo h 0 rfl rfl) (Ee h 1 rfl rfl) hUe (by omega)) rfl (by kernel_rfl)<|DL.step (d:=none) [_] rfl rfl rfl (fun τ h=>jR ly (Ee h 0 rfl rfl) (Eo h 0 rfl rfl) (Ee h 1 rfl rfl) rfl hsto rfl rfl) rfl (by kernel_rfl) ?_;refine ⟨by kernel_rfl,?_⟩;exact Z2 rfl rfl rfl<|⟨(i+1),(by rw [hnx];exact St.ej U 14 (aT rfl) (aP (by kernel_rfl)) (Eq.trans (b:=some (.mix 22 (eY (chV ls) (U*1) [.gsl 14 1 (ls[U].length+1)]))) (by kernel_rfl) (congrArg (fun c=>some (Ob.mix 22 c)) ((nF _ _ _ (by rw [fp];omega)).trans (kg hUl 14 _).symm))) (r5 hUl _ (by kernel_rfl) (fun j2 hj2 hne2=>Eq.trans (b:=bif Nat.beq (j2+1000) (U+1000) then (none:Option Ob) else (ovl (mkS [(4,.ptr 2 0),(7,.ptr 7 0),(10,.ptr 10 0),(14,.pv (.int .i64 i)),(16,.pv (.int .i64 (eX D2 rk.2 j3))),(73,.pv (.sl none S.rels.length (bj S.rels))),(74,.pv (.int .i64 S.rels.length)),(75,.pv (.int .i64 i)),(85,.pv (ak rk.2)),(86,.pv (.int .i64 rk.2.length)),(87,.pv (.int .i64 j3))] [(2,.mix 144 [.pv nS,.pv nS,.pv nS,.pv nS]),(5,.cells 22 (K2.map ak)),(7,.mix 144 [.pv (bu (lsT P k)),.osl 5 1 G.length,.osl 6 1 G.length,.gsl 8 1 M.length]),(8,.gro 3 (aE M)),(9,.cells 3 (aE D2)),(10,.mix 22 [.osl 9 1 G.length])] 13) 6 22 3 (chV ls) (ls)).ob (j2+1000)) (by kernel_rfl) (by rw [y7 (by omega),cond_false];exact oE (by decide) hj2))) rfl rfl (by decide) (by decide) (by decide) (by omega) (by rw [List.length_set];omega)),by omega,by omega⟩
   ·have hie:i=S.rels.length:=by omega
    have hlen:(lsP (hsT G.length H i)).length=G.length:=by rw [cZ,cP]
    have hcp2:chP (lsP (hsT G.length H i))=((hsT G.length H i).map ak).map V.pv:=by rw [zo,List.map_map];rfl
    generalize hls:lsP (hsT G.length H i)=ls at*;refine Im (St.ej (l:=[(4,.ptr 2 0),(7,.ptr 7 0)]) (os:=[(2,.mix 144 [.pv nS,.pv nS,.pv nS,.pv nS]),(5,.cells 22 (K2.map ak)),(7,.mix 144 [.pv (bu (lsT P k)),.osl 5 1 G.length,.osl 6 1 G.length,.gsl 8 1 M.length]),(8,.gro 3 (aE M))]) (k:=12) (A:=6) (TA:=22) (T:=3) (ls:=ls) 1000 999 (aT (by kernel_rfl)) (aP (by kernel_rfl)) (Eq.trans (b:=some (.mix 22 (chV ls))) (by kernel_rfl) (by rw [eQ 999 (by omega)])) (fun j2 hj2=>by rw [b9 (by omega)];exact Eq.trans (b:=(ovl (mkS [(4,.ptr 2 0),(7,.ptr 7 0),(10,.ptr 10 0),(73,.pv (.sl none S.rels.length (bj S.rels))),(74,.pv (.int .i64 S.rels.length)),(75,.pv (.int .i64 i))] [(2,.mix 144 [.pv nS,.pv nS,.pv nS,.pv nS]),(5,.cells 22 (K2.map ak)),(7,.mix 144 [.pv (bu (lsT P k)),.osl 5 1 G.length,.osl 6 1 G.length,.gsl 8 1 M.length]),(8,.gro 3 (aE M)),(9,.cells 3 (aE D2)),(10,.mix 22 [.osl 9 1 G.length])] 12) 6 22 3 (chV (ls)) (ls)).ob (j2+1000)) (by kernel_rfl) (b8 (by decide) hj2)) rfl rfl (by decide) (by decide) (by decide) (by decide) (by omega)) ?_;have hsm2:=uA (l:=[(4,.ptr 2 0),(7,.ptr 7 0)]) (os:=[(2,.mix 144 [.pv nS,.pv nS,.pv nS,.pv nS]),(5,.cells 22 (K2.map ak)),(7,.mix 144 [.pv (bu (lsT P k)),.osl 5 1 G.length,.osl 6 1 G.length,.gsl 8 1 M.length]),(8,.gro 3 (aE M))]) (k:=12) rfl rfl;exact Im (St.zC ls (by decide) (by omega) hsm2.1 hsm2.2)<|Im (St.zb (id:=6) (cs:=(hsT G.length H i).map ak) rfl hcp2)<|Wk [(4,.ptr 2 0),(7,.ptr 7 0)] [(2,.mix 144 [.pv nS,.pv nS,.pv nS,.pv nS]),(5,.cells 22 (K2.map ak)),(6,.cells 22 ((hsT G.length H i).map ak)),(7,.mix 144 [.pv (bu (lsT P k)),.osl 5 1 G.length,.osl 6 1 G.length,.gsl 8 1 M.length]),(8,.gro 3 (aE M))] 12 (aS (by kernel_rfl)) (aO (by kernel_rfl)) rfl rfl<|Im (Ir 6 rfl rfl)<|Im (Ir 5 rfl rfl)<|Im (Ir 8 rfl rfl)<|Im (St.uB 7 rfl)<|Gx rfl<|Z2 rfl rfl rfl<|Gt rfl<|⟨_,_,rfl,rfl,⟨aY ⟨_,underlying144,rfl⟩ Fj rfl rfl rfl,trivial⟩,G,hG,FR hkP hie hH hM hCS hD2 hK2 hKl⟩
end
section
open Go.RowKit Mk Jn
set_option maxHeartbeats 4000000
noncomputable def planS (S:Sch):VD:=iK S (ordL S (lstL S)) (gr S)
theorem He (S:Sch) (hS:SB S) (hO:OrdOk S (ordL S (lstL S))):FnP Tryz.prog 225 [gK S,Fe (ordL S (lstL S))] (· =ca (planS S)):=
 (Dk S hS _ hO).mono fun v ⟨G,hG,e⟩=>by rw [e,uw hO.val hG];rfl
theorem G9 {S:Sch} (hS:SB S) (hV:Valid S):OrdOk S (ordL S (lstL S)):=by
 have hp:=(iN S hS hV).1;exact (C9 hV hp).ok hV hp
theorem rR (l:List Int) (hl:l.length≤1000000):FnP Tryz.prog 222 [ak l] (· =ak l):=by
 refine FnP.fg2 (FnP.of func222 rfl ntmps222 (by simp) fun m0 w0 F R0=>?_);refine Z1 rfl rfl<|Z1 rfl rfl ?_;refine RL.call rfl (l9 underlying22 rfl ?_);intro b hb;refine Gc rfl rfl (fun hc4=>?_) (fun hc4=>?_)
 ·have hl0:l=[]:=List.map_eq_nil_iff.1 (hb hc4);exact Z1 rfl rfl<|Gt rfl<|⟨_,_,rfl,rfl,by rw [hl0];rfl⟩
 ·refine Il<|Gr rfl<|Rs 5 rfl rfl (ek 0 xj rfl)<|A1 rfl<|Rs 7 rfl rfl (fc 1 xj rfl rfl rfl (.inl ⟨none,rfl⟩) (by simp) (fun c hc=>by obtain ⟨y,_,rfl⟩:=List.mem_map.1 hc;rfl) (by omega) rfl) ?_;exact A1 rfl<|Im (Ir 1 rfl rfl)<|Gt rfl<|⟨_,_,rfl,rfl,show PV.sl none (0+l.length) ([]++aE l)=_ by rw [Nat.zero_add,List.nil_append]⟩
abbrev jnO (S:Sch) (T:List (List Rw)) (lp:List Int) (pk pv:List PV):List (Nat×Ob):=[(big,oX S (.pv (dbP T)) (.pv (ak lp)) 1000001),(1000001,.mp pk pv)]
abbrev A6 (D:VD):List V:=[.pv (bu D.chs),.pv (bu D.kes),.pv (bu D.hos),.pv (ak D.wa)]
theorem gH:∀ (a b:List (Nat×Ob)) (i:Nat) (o:Ob),ar a i=some o→ar (a++b) i=some o
 | [],b,i,o,h=>by simp [ar] at h
 | (d,v)::a,b,i,o,h=>by
   simp only [List.cons_append,ar] at h ⊢;cases hb:Nat.beq i d with
   | true=>rw [hb] at h;exact h
   | false=>rw [hb] at h;exact gH a b i o h
theorem Ax (S:Sch) (hS:SB S) (hV:Valid S) (T:List (List Rw)) (lp:List Int) (hp:lp.Perm (upZ S.attrs.length)) (D:VD) (hlay:FnP Tryz.prog 225 [gK S,Fe (ordL S lp)] (· =ca D)):FnO Tryz.prog 186 2 0 [.ptr big 0,.pv (.int .i64 (-1))] (jnO S T lp [] []) (fun v ob'=>v= .agg (A6 D)∧ob'=ar (jnO S T lp [.int .i64 (-1)] [ca D])):=by
 refine FnO.ofC func186 rfl ntmps186 (by simp) fun m0 w0 F R0=>?_
 have hq:∀ a∈lp,0≤a∧a<S.attrs.length:=fun a ha=>by obtain ⟨m,hm,rfl⟩:=bx.1 (hp.mem_iff.1 ha);omega
 have hql:lp.length≤1000:=by rw [hp.length_eq,a8];have:=hV.n2;omega
 have hof:=Gu S hS hV lp hq hql;generalize ordL S lp=Q at*;refine Z2 rfl rfl rfl<|Ge rfl follows [0,1,2,3,4,5,6,7,8,9,10,11] (by kernel_rfl) ?_;iterate 5 refine D1 rfl rfl ?_
 refine Ds 14 [_] rfl rfl rfl (fun τ h=>cg (zp:= .agg [.sl (some true) 0 [],.sl (some true) 0 [],.sl (some true) 0 [],.sl (some true) 0 []]) underlying125 underlying3 (.inl ⟨1000001,(Ee h 0 rfl rfl),(Eo h 0 rfl rfl)⟩) (Ee h 1 rfl rfl) rfl yr rfl (r:=none) rfl rfl rfl) rfl (by kernel_rfl) ?_;iterate 6 refine D1 rfl rfl ?_
 refine ⟨by kernel_rfl,?_⟩;refine Z2 rfl rfl rfl ?_;refine Gc rfl rfl (fun hc18=>?_) (fun hc18=>absurd hc18 (by simp));refine Z4 rfl rfl rfl rfl rfl<|Rs 23 rfl rfl (ae call222 (rR _ (by omega)) rfl)<|A1 rfl<|Z2 rfl rfl rfl ?_;refine Gp rfl rfl (fun hc25=>absurd hc25 (by simp)) (fun hc25=>?_);refine Il<|Ge rfl follows [0,1,2,3,4,5,6,7,8,9,10,11] (by kernel_rfl) ?_;iterate 9 refine D1 rfl rfl ?_
 refine Ds 41 [] rfl rfl rfl (fun τ h=>ae call226 hof (h.bt rfl)) rfl (by kernel_rfl)<|Ds 42 [] rfl rfl rfl (fun τ h=>ae call225 hlay (h.bt rfl)) rfl (by kernel_rfl)<|D1 rfl rfl ?_;refine ⟨by kernel_rfl,?_⟩;refine Ge rfl follows [0,1,2,3,4,5,6] (by kernel_rfl) ?_;iterate 6 refine D1 rfl rfl ?_
 refine DL.step (d:=none) [_] rfl rfl rfl (fun τ h=>ed underlying125 underlying3 (Ee h 0 rfl rfl) (Eo h 0 rfl rfl) (Ee h 1 rfl rfl) (Ee h 2 rfl rfl) rfl (r:=none) rfl rfl rfl) rfl (by kernel_rfl) ?_;refine ⟨by kernel_rfl,?_⟩;exact Z2 rfl rfl rfl<|Gt rfl<|⟨[(4,.ptr 1 0)],[(big,oX S (.pv (dbP T)) (.pv (ak lp)) 1000001),(1000001,.mp [.int .i64 (-1)] [ca D]),(1,.mix 144 (A6 D))],[.agg (A6 D)],[(big,oX S (.pv (dbP T)) (.pv (ak lp)) 1000001),(1000001,.mp [.int .i64 (-1)] [ca D])],2,Io (aS rfl) (aO (by kernel_rfl)) rfl rfl,rfl,⟨aY ⟨_,underlying144,rfl⟩ Fj rfl rfl rfl,trivial⟩,rfl,rfl,fun i o h=>gH _ [(1,.mix 144 (A6 D))] i o h,by decide,rfl,rfl⟩
theorem Cm (S:Sch) (T:List (List Rw)) (lp:List Int) (D:VD):FnO Tryz.prog 186 2 0 [.ptr big 0,.pv (.int .i64 (-1))] (jnO S T lp [.int .i64 (-1)] [ca D]) (fun v ob'=>v= .agg (A6 D)∧ob'=ar (jnO S T lp [.int .i64 (-1)] [ca D])):=by
 refine FnO.ofC func186 rfl ntmps186 (by simp) fun m0 w0 F R0=>?_
 refine Z2 rfl rfl rfl<|Ge rfl follows [0,1,2,3,4,5,6,7,8,9,10,11] (by kernel_rfl) ?_;iterate 5 refine D1 rfl rfl ?_
 refine Ds 14 [_] rfl rfl rfl (fun τ h=>cg (zp:= .agg [.sl (some true) 0 [],.sl (some true) 0 [],.sl (some true) 0 [],.sl (some true) 0 []]) underlying125 underlying3 (.inl ⟨1000001,(Ee h 0 rfl rfl),(Eo h 0 rfl rfl)⟩) (Ee h 1 rfl rfl) rfl yr rfl (r:=some (ca D)) rfl rfl rfl) rfl (by kernel_rfl) ?_;iterate 6 refine D1 rfl rfl ?_
 refine ⟨by kernel_rfl,?_⟩;refine Z2 rfl rfl rfl ?_;refine Gc rfl rfl (fun hc18=>absurd hc18 (by simp)) (fun hc18=>?_);exact Il<|Z2 rfl rfl rfl<|Gt rfl<|⟨[(4,.ptr 1 0)],[(big,oX S (.pv (dbP T)) (.pv (ak lp)) 1000001),(1000001,.mp [.int .i64 (-1)] [ca D]),(1,.mix 144 (A6 D))],[.agg (A6 D)],[(big,oX S (.pv (dbP T)) (.pv (ak lp)) 1000001),(1000001,.mp [.int .i64 (-1)] [ca D])],2,Io (aS rfl) (aO (by kernel_rfl)) rfl rfl,rfl,⟨aY ⟨_,underlying144,rfl⟩ Fj rfl rfl rfl,trivial⟩,rfl,rfl,fun i o h=>gH _ [(1,.mix 144 (A6 D))] i o h,by decide,rfl,rfl⟩
end
section
open Go.RowKit Mk Jn
set_option maxHeartbeats 4000000
abbrev s0B:Asg ByteArray:=fun _=>none
abbrev jdB (S:Sch) (T:List (List Rw)) (lp:List Int) (D:VD):JD:=⟨S,T,ak lp,[.int .i64 (-1)],[ca D]⟩
abbrev HC:PV:= .agg [.bool false,.bool true,.fn (.func 189) [] [],.fn (.func 190) [] [],.fn (.func 191) [] []]
abbrev Fa:PV:= .fn (.func 142) [] []
abbrev wtB:PV:= .fn (.func 143) [] []
abbrev HG (S:Sch) (T:List (List Rw)) (lp:List Int) (D:VD):List (Nat×Ob):=[(4,.mix 155 [.ptr big 0,.pv (bu D.chs),.pv (bu D.kes),.pv (bu D.hos),.pv (ak D.wa),.pv (.bool false),.pv (.bool true),.pv (.fn (.func 189) [] []),.pv (.fn (.func 190) [] []),.pv (.fn (.func 191) [] []),.pv Fa,.pv wtB,.pv .nilmap,.osl 1 1 S.attrs.length,.osl 2 1 S.attrs.length,.map 3]),(1,.cells 9 (aA (List.replicate S.attrs.length eb))),(2,.cells 4 (ay (stL s0B S.attrs.length))),(3,.mp [] []),(big,oX S (.pv (dbP T)) (.pv (ak lp)) 1000001),(1000001,.mp [.int .i64 (-1)] [ca D])]
theorem yH (n:Nat):List.replicate n (PV.bool false)=ay (stL s0B n):=by
 apply List.ext_getElem
 ·simp [cK]
 ·intro i h1 h2;simp [stL]
theorem rE (S:Sch) (T:List (List Rw)) (lp:List Int) (pk pv:List PV) (D:VD) (hn:S.attrs.length≤1000) (hpl:FnO Tryz.prog 186 2 0 [.ptr big 0,.pv (.int .i64 (-1))] (jnO S T lp pk pv) (fun v ob'=>v= .agg (A6 D)∧ob'=ar (jnO S T lp [.int .i64 (-1)] [ca D]))):
  FnO Tryz.prog 140 2 5 [.ptr big 0,.pv (.int .i64 (-1)),.pv .nilmap,.pv HC,.pv Fa,.pv wtB] (jnO S T lp pk pv) (fun v ob'=>v= .ptr 4 0∧ob'=ar (HG S T lp D)):=by
 refine FnO.of func140 rfl ntmps140 (by simp) fun m0 w0 F R0=>?_
 refine Z2 rfl rfl rfl<|Gr rfl ?_;iterate 7 refine A1 rfl ?_
 refine Ge rfl follows [0,1,2,3,4,5,6,7,8,9,10,11,12,13,14,15] (by kernel_rfl)<|D1 rfl rfl<|D1 rfl rfl<|D1 rfl rfl<|Ds 23 [big,1000001] rfl rfl rfl (fun τ h=>ah [big,1000001] 5 call186 hpl (h.args.trans rfl) rfl rfl rfl ⟨(Eo h 0 rfl rfl),(Eo h 1 rfl rfl),trivial⟩ (by decide) rfl) rfl (by kernel_rfl) ?_;iterate 8 refine D1 rfl rfl ?_
 refine Ds 32 [] rfl rfl rfl (fun τ h=>fF 3 (h.n 0 _ rfl)) rfl (by kernel_rfl)<|D1 (d:=some 33) (s:=⟨.agg [.ptr big 0,.pv (bu D.chs),.pv (bu D.kes),.pv (bu D.hos),.pv (ak D.wa),.pv (.bool false),.pv (.bool true),.pv (.fn (.func 189) [] []),.pv (.fn (.func 190) [] []),.pv (.fn (.func 191) [] []),.pv Fa,.pv wtB,.pv .nilmap,.osl 1 1 S.attrs.length,.osl 2 1 S.attrs.length,.map 3],[],[]⟩) (rd:=[big,1,2,3]) (φ:=True) rfl (by kernel_rfl)<|D1 rfl rfl<|D1 rfl rfl ?_;refine ⟨by kernel_rfl,?_⟩;exact Gt rfl<|⟨[(12,.ptr 4 0)],HG S T lp D,[.ptr 4 0],Io (aS rfl) ⟨by kernel_rfl,Eq.trans (b:=some (.cells 9 (mkZ [.str ByteArray.empty] (S.attrs.length*1)))) (by kernel_rfl) (congrArg (fun c=>some (Ob.cells 9 c)) ((ct (.str ByteArray.empty) (S.attrs.length*1)).trans (by rw [Nat.mul_one];show _=List.map _ (List.replicate _ _);rw [List.map_replicate];rfl))),Eq.trans (b:=some (.cells 4 (mkZ [.bool false] (S.attrs.length*1)))) (by kernel_rfl) (congrArg (fun c=>some (Ob.cells 4 c)) ((ct (.bool false) (S.attrs.length*1)).trans (by rw [Nat.mul_one];exact yH _))),by kernel_rfl,by kernel_rfl,by kernel_rfl,trivial⟩ rfl rfl,rfl,rfl,rfl,rfl,rfl⟩
end
section
open Go.RowKit Mk Jn
set_option maxHeartbeats 4000000
abbrev o6N (J:JD) (W:WD) (σ:Asg ByteArray) (now:List ByteArray) (mk mv:List PV):List (Nat×Ob):=[(big,oN W 1000004 1000001 J.S.attrs.length 1000002 1000003),(1000001,.cells 9 (aA now)),(1000002,.cells 4 (ay (stL σ J.S.attrs.length))),(1000003,.mp mk mv),(1000004,oX2 J 1000005),(1000005,.mp J.pk J.pv)]
theorem fq (J:JD) (hJ:JOk J) (W:WD) (σ:Asg ByteArray) (now:List ByteArray) (hn:NowOk J.S.attrs.length σ now) (mk mv:List PV) (r:Nat) (hr:r<J.S.rels.length) (x:Rw) (hx:x.v.length=J.S.rels[r].2.length):
  FnO Tryz.prog 256 6 0 [.ptr big 0,.pv (.int .i64 r),.pv (sJ x)] (o6N J W σ now mk mv) (fun v ob'=>v= .pv (.bool (agr J.S.rels[r].2 σ x.v))∧ob'=ar (o6N J W σ now mk mv)):=by
 refine FnO.of func256 rfl ntmps256 (by simp) fun m0 w0 F R0=>?_
 have hS:=hJ.s;have hrne:=ew hr;have hra:(bj J.S.rels)[r*2+1]? =some (ak J.S.rels[r].2):=by
  have h2:(((bj J.S.rels).drop (r*2)).take 2)[1]? =[PV.str J.S.rels[r].1,ak J.S.rels[r].2][1]? :=by rw [cW hr]
  simpa [List.getElem?_take,List.getElem?_drop] using h2
 have hrl:=hS.l _ (List.getElem_mem hr);have hrb:=hS.b _ (List.getElem_mem hr);have hSr:=hS.r;have hnl:=hn.l;rw [pq];generalize J.S.rels[r].2=A at*;refine Z2 rfl rfl rfl<|Gr rfl ?_;iterate 9 refine A1 rfl ?_
 refine Rs 18 rfl rfl (ag r underlying31 Eu rfl rfl rfl hr hrne)<|A1 rfl<|Rs 20 rfl rfl (ai ⟨_,underlying22,rfl⟩ rfl hra)<|Y2 rfl rfl ?_;refine Gl rfl (st:=fun x_0:Nat=>mkS [(0,.ptr big 0),(5,.ptr 0 0),(20,.pv (ak A)),(21,.pv (.int .i64 A.length)),(22,.pv (.int .i64 x_0))] [(big,oN W 1000004 1000001 J.S.attrs.length 1000002 1000003),(0,.mix 49 [.pv (aI x.v),.pv (.int .i64 x.w)]),(1000001,.cells 9 (aA now)),(1000002,.cells 4 (ay (stL σ J.S.attrs.length))),(1000003,.mp mk mv),(1000004,oX2 J 1000005),(1000005,.mp J.pk J.pv)] 1)
  (I:=fun x_0=>x_0≤A.length∧((A.zip x.v).take x_0).all (agP σ)=true) (μ:=fun x_0=>A.length-x_0) (x0:=(0)) (Io (aS rfl) (aO rfl) rfl rfl) (⟨Nat.zero_le _,rfl⟩) ?_
 rintro j ⟨hj,hall⟩;refine Z1 rfl rfl ?_;refine Gp rfl rfl (fun hc23=>?_) (fun hc23=>?_)
 ·have hlj:j<A.length:=by omega
  have hzs:=eM hx hlj (agP σ);obtain ⟨a,haa⟩:=Int.eq_ofNat_of_zero_le (hrb _ (List.getElem_mem hlj)).1;have hal:a<J.S.attrs.length:=by have:=(hrb _ (List.getElem_mem hlj)).2;omega
  have hpv:(aE A)[j*1]? =some (.int .i64 (a:Int)):=by rw [← haa];simp [hlj]
  have hpn:=aH hlj;have hjv:j<x.v.length:=by omega
  have hsv:=aM hjv;have hsn:=bc hjv;have hset:=DW (σ:=σ) hal;have hnow:=aM (l:=now) (k:=a) (by omega);have hsl:(ay (stL σ J.S.attrs.length)).length=J.S.attrs.length:=by rw [List.length_map,cK]
  have hnl2:(aA now).length=J.S.attrs.length:=by rw [List.length_map,hnl]
  rw [hall,haa,Bool.true_and] at hzs;refine Il<|Z2 rfl rfl rfl<|Rs 26 rfl rfl (ai ⟨_,underlying3,rfl⟩ rfl hpv)<|Y2 rfl rfl ?_;by_cases hsg:(σ (a:Int)).isSome=true
  ·have hval:=Option.some_get hsg;have hnv:now[a]'(by omega)=(σ (a:Int)).get hsg:=hn.e a (by omega) _ hval.symm;generalize hgz:(σ (a:Int)).get hsg=z at*;rw [gW hval.symm] at hzs;rw [hsg] at hset;rw [hnv] at hnow;refine Ge rfl follows [0,1,2,3,4,5,6,7,8,9,10,11,12,13,14,15,16,17,18,19,20,21] (by kernel_rfl) ?_;iterate 6 refine D1 rfl rfl ?_
   refine Ds 33 [_] rfl rfl rfl (fun τ h=>aC ⟨_,underlying4,rfl⟩ (Ee h 0 rfl rfl) (Eo h 0 rfl rfl) hset) rfl (by kernel_rfl) ?_;iterate 7 refine D1 rfl rfl ?_
   refine Dg 41 [_] rfl rfl rfl rfl (fun τ h=>aC ⟨_,underlying9,rfl⟩ (Ee h 0 rfl rfl) (Eo h 0 rfl rfl) hnow) rfl (by kernel_rfl) ?_;iterate 4 refine D1 rfl rfl ?_
   refine Dg 46 [] rfl rfl rfl rfl (fun τ h=>ai ⟨_,underlying9,rfl⟩ (Ee h 0 rfl rfl) hsv) rfl (by kernel_rfl)<|D1 rfl rfl<|D1 rfl rfl ?_;refine ⟨by kernel_rfl,?_⟩;refine Gc rfl rfl (fun hc48=>?_) (fun hc48=>?_)
   ·exact Z1 rfl rfl<|Gt rfl<|⟨[(6,.pv (.bool false))],o6N J W σ now mk mv,[.pv (.bool false)],Io (aS rfl) (aO rfl) rfl rfl,rfl,rfl,rfl,congrArg (fun b=>V.pv (.bool b)) (pZ (hzs.trans (Ha hc48))).symm,rfl⟩
   ·exact Il<|Z2 rfl rfl rfl<|⟨(j+1),Io (aS rfl) (aO rfl) rfl rfl,⟨by omega,hzs.trans (G6 hc48)⟩,by omega⟩
  ·have hno:σ (a:Int)=none:=by cases h:σ (a:Int) with | none=>rfl | some x=>rw [h] at hsg;exact absurd rfl hsg
   rw [oM hno] at hzs;rw [eq_false_of_ne_true hsg] at hset;refine Ge rfl follows [0,1,2,3,4,5,6,7,8,9,10,11,12,13,14,15,16,17,18,19,20,21] (by kernel_rfl) ?_;iterate 6 refine D1 rfl rfl ?_
   refine Ds 33 [_] rfl rfl rfl (fun τ h=>aC ⟨_,underlying4,rfl⟩ (Ee h 0 rfl rfl) (Eo h 0 rfl rfl) hset) rfl (by kernel_rfl) ?_;iterate 15 refine D1 rfl rfl ?_
   refine ⟨by kernel_rfl,?_⟩;refine Gc rfl rfl (fun hc48=>absurd hc48 (by simp)) (fun hc48=>?_);exact Il<|Z2 rfl rfl rfl<|⟨(j+1),Io (aS rfl) (aO rfl) rfl rfl,⟨by omega,hzs⟩,by omega⟩
 ·rw [List.take_of_length_le (by simp;omega)] at hall;exact Gx rfl<|Z1 rfl rfl<|Gt rfl<|⟨[(6,.pv (.bool true))],o6N J W σ now mk mv,[.pv (.bool true)],Io (aS rfl) (aO rfl) rfl rfl,rfl,rfl,rfl,congrArg (fun b=>V.pv (.bool b)) hall.symm,rfl⟩
end
section
open Go.RowKit Mk Jn
set_option maxHeartbeats 4000000
abbrev o7N (J:JD) (W:WD) (σ:Asg ByteArray) (now:List ByteArray) (mk mv:List PV):List (Nat×Ob):=[(big,.mix 198 [.ptr 1000001 0]),(1000001,oN W 1000005 1000002 J.S.attrs.length 1000003 1000004),(1000002,.cells 9 (aA now)),(1000003,.cells 4 (ay (stL σ J.S.attrs.length))),(1000004,.mp mk mv),(1000005,oX2 J 1000006),(1000006,.mp J.pk J.pv)]
theorem sQ (J:JD) (hJ:JOk J) (W:WD) (σ:Asg ByteArray) (now:List ByteArray) (hn:NowOk J.S.attrs.length σ now) (mk mv:List PV) (r:Nat) (hr:r<J.S.rels.length) (x:Rw) (hx:x.v.length=J.S.rels[r].2.length):
  FnO Tryz.prog 273 7 0 [.pv (sJ x),.ptr big 0,.pv (.rp [.int .i64 r] 0)] (o7N J W σ now mk mv) (fun v ob'=>v= .pv (.bool (agr J.S.rels[r].2 σ x.v))∧ob'=ar (o7N J W σ now mk mv)):=by
 refine FnO.of func273 rfl ntmps273 (by simp) fun m0 w0 F R0=>?_
 have hgo:=fq J hJ W σ now hn mk mv r hr x hx;generalize agr J.S.rels[r].2 σ x.v=b at*;refine Z2 rfl rfl rfl<|Gr rfl ?_;first | refine A1 rfl ?_ | refine A2 rfl (by assumption) ?_
 first | refine A1 rfl ?_ | refine A2 rfl (by assumption) ?_
 exact A1 rfl<|Rs 8 rfl rfl (ah [1000001,1000002,1000003,1000004,1000005,1000006] 1 call256 hgo rfl rfl rfl rfl ⟨rfl,rfl,rfl,rfl,rfl,rfl,trivial⟩ (by decide) rfl)<|A1 rfl<|Gt rfl<|⟨[(4,.pv (.bool b))],o7N J W σ now mk mv,[.pv (.bool b)],Io (aS rfl) (aO (by kernel_rfl)) rfl rfl,rfl,rfl,rfl,rfl,rfl⟩
abbrev sm1N (r:Nat):V:= .fn (.func 273) [] [.ptr big 0,.pv (.rp [.int .i64 r] 0)]
theorem qc (J:JD) (hJ:JOk J) (W:WD) (σ:Asg ByteArray) (now:List ByteArray) (hn:NowOk J.S.attrs.length σ now) (mk mv:List PV) (r:Nat) (hr:r<J.S.rels.length) (l:List Rw) (hl:l.length≤1000) (hx:∀ x∈l,x.v.length=J.S.rels[r].2.length):
  ∃ i:Int,decide (i≥0)=l.any (fun x=>agr J.S.rels[r].2 σ x.v)∧FnO Tryz.prog 109 7 0 [.pv (bL l),sm1N r] (o7N J W σ now mk mv) (fun v ob'=>v= .pv (.int .i64 i)∧ob'=ar (o7N J W σ now mk mv)):=by
 have hgo:∀ k (h:k<l.length),FnO Tryz.prog 273 7 0 [.pv (sJ l[k]),.ptr big 0,.pv (.rp [.int .i64 r] 0)] (o7N J W σ now mk mv) (fun v ob'=>v= .pv (.bool (agr J.S.rels[r].2 σ l[k].v))∧ob'=ar (o7N J W σ now mk mv)):=fun k h=>sQ J hJ W σ now hn mk mv r hr l[k] (hx _ (List.getElem_mem h))
 have hi:∃ i:Int,decide (i≥0)=l.any (fun x=>agr J.S.rels[r].2 σ x.v)∧((∀ k (h:k<l.length),agr J.S.rels[r].2 σ l[k].v=true→(∀ j (h:j<l.length),j<k→agr J.S.rels[r].2 σ l[j].v=false)→i=k)∧((∀ j (h:j<l.length),agr J.S.rels[r].2 σ l[j].v=false)→i= -1)):=jg l fun x=>agr J.S.rels[r].2 σ x.v
 obtain ⟨i,hi,hi1,hi2⟩:=hi;refine ⟨i,hi,?_⟩;refine FnO.of func109 rfl ntmps109 (by simp) fun m0 w0 F R0=>?_
 clear hi hJ hn hx;generalize J.S.rels[r].2=A at*;refine Z1 rfl rfl<|Z3 rfl rfl rfl rfl ?_;refine Gl rfl (st:=fun x_0:Nat=>mkS [(0,.pv (bL l)),(1,sm1N r),(7,.pv (.int .i64 l.length)),(8,.pv (.int .i64 x_0))] [(big,.mix 198 [.ptr 1000001 0]),(1000001,oN W 1000005 1000002 J.S.attrs.length 1000003 1000004),(1000002,.cells 9 (aA now)),(1000003,.cells 4 (ay (stL σ J.S.attrs.length))),(1000004,.mp mk mv),(1000005,oX2 J 1000006),(1000006,.mp J.pk J.pv)] 0)
  (I:=fun x_0=>x_0≤l.length∧∀ j (h:j<l.length),j<x_0→agr A σ l[j].v=false) (μ:=fun x_0=>l.length-x_0) (x0:=(0)) (Io (aS rfl) (aO (by kernel_rfl)) rfl rfl) (⟨Nat.zero_le _,fun _ _ h=>absurd h (by omega)⟩) ?_
 rintro k ⟨hk,hno⟩;refine Z1 rfl rfl ?_;refine Gp rfl rfl (fun hc9=>?_) (fun hc9=>?_)
 ·have hlt:k<l.length:=by omega
  have hrw:=aN hlt;have hrn:=aW hlt;have hgk:=hgo k hlt;have hik:=hi1 k hlt;generalize hbk:agr A σ l[k].v=b at*;refine Il<|Z2 rfl rfl rfl<|Z4 rfl rfl rfl rfl rfl ?_;first | refine A3 rfl (by assumption) ?_ | refine A1 rfl ?_
  refine Rs 16 rfl rfl (bJ [big,1000001,1000002,1000003,1000004,1000005,1000006] 0 call273 hgk rfl rfl rfl rfl rfl rfl ⟨rfl,rfl,rfl,rfl,rfl,rfl,rfl,trivial⟩ (by decide) rfl) ?_;refine Gc rfl rfl (fun hc16=>?_) (fun hc16=>?_)
  ·exact Z2 rfl rfl rfl<|Gt rfl<|⟨[(4,.pv (.int .i64 k))],o7N J W σ now mk mv,[.pv (.int .i64 k)],Io (aS rfl) (aO (by kernel_rfl)) rfl rfl,rfl,rfl,rfl,by rw [hik hc16 hno];rfl,rfl⟩
  ·exact Il<|Z2 rfl rfl rfl<|⟨(k+1),Io (aS rfl) (aO (by kernel_rfl)) rfl rfl,⟨by omega,fun j h hj=>by rcases Nat.lt_succ_iff_lt_or_eq.1 hj with h1 | h1;exact hno j h h1;subst h1;exact hbk.trans hc16⟩,by omega⟩
 ·have hm:=hi2 fun j h=>hno j h (by omega)
  exact Gx rfl<|Z1 rfl rfl<|Gt rfl<|⟨[(4,.pv (.int .i64 (-1)))],o7N J W σ now mk mv,[.pv (.int .i64 (-1))],Io (aS rfl) (aO (by kernel_rfl)) rfl rfl,rfl,rfl,rfl,by rw [hm];rfl,rfl⟩
theorem q8 (J:JD) (hJ:JOk J) (W:WD) (σ:Asg ByteArray) (now:List ByteArray) (hn:NowOk J.S.attrs.length σ now) (mk mv:List PV) (r:Nat) (hr:r<J.S.rels.length) (l:List Rw) (hl:l.length≤1000) (hx:∀ x∈l,x.v.length=J.S.rels[r].2.length):
  FnO Tryz.prog 66 7 0 [.pv (bL l),sm1N r] (o7N J W σ now mk mv) (fun v ob'=>v= .pv (.bool (l.any fun x=>agr J.S.rels[r].2 σ x.v))∧ob'=ar (o7N J W σ now mk mv)):=by
 obtain ⟨i,hi,hgo⟩:=qc J hJ W σ now hn mk mv r hr l hl hx;refine FnO.of func66 rfl ntmps66 (by simp) fun m0 w0 F R0=>?_
 rw [← hi];clear hi hJ hn hx;exact Z1 rfl rfl<|Z2 rfl rfl rfl<|Rs 7 rfl rfl (ah [big,1000001,1000002,1000003,1000004,1000005,1000006] 0 call109 hgo rfl rfl rfl rfl ⟨rfl,rfl,rfl,rfl,rfl,rfl,rfl,trivial⟩ (by decide) rfl)<|Y2 rfl rfl<|Gt rfl<|⟨[(4,.pv (.bool (decide (i≥0))))],o7N J W σ now mk mv,[.pv (.bool (decide (i≥0)))],Io (aS rfl) (aO (by kernel_rfl)) rfl rfl,rfl,rfl,rfl,rfl,rfl⟩
theorem vB (J:JD) (hJ:JOk J) (W:WD) (σ:Asg ByteArray) (now:List ByteArray) (hn:NowOk J.S.attrs.length σ now) (mk mv:List PV) (r:Nat) (hr:r<J.S.rels.length):
  FnO Tryz.prog 259 6 0 [.ptr big 0,.pv (.int .i64 r)] (o6N J W σ now mk mv) (fun v ob'=>v= .pv (.bool ((dh J r).any fun x=>agr (cy J r) σ x.v))∧ob'=ar (o6N J W σ now mk mv)):=by
 refine FnO.of func259 rfl ntmps259 (by simp) fun m0 w0 F R0=>?_
 have hrT:r<J.T.length:=by rw [hJ.n];exact hr
 have hgo:=q8 J hJ W σ now hn mk mv r hr J.T[r] (hJ.l _ (List.getElem_mem hrT)) (hJ.v r hrT hr);rw [show dh J r=J.T[r] by simp [dh,List.getD,hrT],show cy J r=J.S.rels[r].2 by simp [cy,List.getD,hr]];have htr:=cD hrT;have htn:=dN hrT;have hTl:J.T.length≤1000:=by rw [hJ.n];exact hJ.s.r
 generalize J.S.rels[r].2=A at*;generalize J.T[r]=l at*;refine Z3 rfl rfl rfl rfl<|Im (St.fS 1 rfl rfl)<|Ge rfl follows [0,1,2,3,4,5,6,7,8,9,10,11,12] (by kernel_rfl) ?_;iterate 8 refine D1 rfl rfl ?_
 refine Ds 13 [] rfl rfl rfl (fun τ h=>ag r underlying35 qk (Ee h 0 rfl rfl) (Ee h 1 rfl rfl) rfl hrT htn) rfl (by kernel_rfl)<|Ds 14 [] rfl rfl rfl (fun τ h=>ai ⟨_,underlying38,rfl⟩ (Ee h 0 rfl rfl) htr) rfl (by kernel_rfl)<|D1 rfl rfl<|Ds 16 [0,big,1000001,1000002,1000003,1000004,1000005] rfl rfl rfl (fun τ h=>ah [0,big,1000001,1000002,1000003,1000004,1000005] 2 call66 hgo (h.args.trans rfl) rfl rfl rfl ⟨(Eo h 0 rfl rfl),(Eo h 1 rfl rfl),(Eo h 2 rfl rfl),(Eo h 3 rfl rfl),(Eo h 4 rfl rfl),(Eo h 5 rfl rfl),(Eo h 6 rfl rfl),trivial⟩ (by decide) rfl) rfl (by kernel_rfl)<|D1 rfl rfl ?_;refine ⟨by kernel_rfl,?_⟩;exact Gt rfl<|⟨[(4,.pv (.bool (l.any fun x=>agr A σ x.v)))],o6N J W σ now mk mv,[.pv (.bool (l.any fun x=>agr A σ x.v))],Io (aS rfl) (aO (by kernel_rfl)) rfl rfl,rfl,rfl,rfl,rfl,rfl⟩
end
section
open Go.RowKit Mk Jn
set_option maxHeartbeats 4000000
theorem rj (J:JD) (hJ:JOk J) (W:WD) (σ:Asg ByteArray) (now:List ByteArray) (hn:NowOk J.S.attrs.length σ now) (mk mv:List PV) (r:Nat) (hr:r<J.S.rels.length):
  FnO Tryz.prog 258 7 0 [.pv (.int .i64 r),.ptr big 0] (o7N J W σ now mk mv) (fun v ob'=>v= .pv (.bool !(hE (RJ J) r σ))∧ob'=ar (o7N J W σ now mk mv)):=by
 refine FnO.of func258 rfl ntmps258 (by simp) fun m0 w0 F R0=>?_
 have hgo:=vB J hJ W σ now hn mk mv r hr;rw [← oK] at hgo;generalize hE (RJ J) r σ=b at*;refine Z1 rfl rfl<|Gr rfl ?_;first | refine A1 rfl ?_ | refine A2 rfl (by assumption) ?_
 exact A1 rfl<|Rs 6 rfl rfl (ah [1000001,1000002,1000003,1000004,1000005,1000006] 0 call259 hgo rfl rfl rfl rfl ⟨rfl,rfl,rfl,rfl,rfl,rfl,trivial⟩ (by decide) rfl)<|Y2 rfl rfl<|Gt rfl<|⟨[(3,.pv (.bool !b))],o7N J W σ now mk mv,[.pv (.bool !b)],Io (aS rfl) (aO (by kernel_rfl)) rfl rfl,rfl,rfl,rfl,rfl,rfl⟩
abbrev c11N:V:= .fn (.func 258) [] [.ptr big 0]
abbrev bI (rs:List Nat):List Int:=rs.map fun r:Nat=>(r:Int)
theorem qS (J:JD) (hJ:JOk J) (W:WD) (σ:Asg ByteArray) (now:List ByteArray) (hn:NowOk J.S.attrs.length σ now) (mk mv:List PV) (rs:List Nat) (hl:rs.length≤1000) (hr:∀ r∈rs,r<J.S.rels.length):
  FnO Tryz.prog 152 7 0 [.pv (ak (bI rs)),c11N] (o7N J W σ now mk mv) (fun v ob'=>v= .pv (.bool (rs.any fun r=> !(hE (RJ J) r σ)))∧ob'=ar (o7N J W σ now mk mv)):=by
 have hgo:∀ k (h:k<rs.length),FnO Tryz.prog 258 7 0 [.pv (.int .i64 rs[k]),.ptr big 0] (o7N J W σ now mk mv) (fun v ob'=>v= .pv (.bool !(hE (RJ J) rs[k] σ))∧ob'=ar (o7N J W σ now mk mv)):=fun k h=>rj J hJ W σ now hn mk mv rs[k] (hr _ (List.getElem_mem h))
 obtain ⟨i,hi,hi1,hi2⟩:=jg rs fun r=> !(hE (RJ J) r σ)
 clear hJ hn hr;have hidx:FnO Tryz.prog 195 7 0 [.pv (ak (bI rs)),c11N] (o7N J W σ now mk mv) (fun v ob'=>v= .pv (.int .i64 i)∧ob'=ar (o7N J W σ now mk mv)):=by
  refine FnO.of func195 rfl ntmps195 (by simp) fun m0 w0 F R0=>?_
  clear hi;have hnl:(bI rs).length=rs.length:=by simp [bI]
  refine Z1 rfl rfl<|Z3 rfl rfl rfl rfl ?_;refine Gl rfl (st:=fun x_0:Nat=>mkS [(0,.pv (ak (bI rs))),(1,c11N),(7,.pv (.int .i64 (bI rs).length)),(8,.pv (.int .i64 x_0))] [(big,.mix 198 [.ptr 1000001 0]),(1000001,oN W 1000005 1000002 J.S.attrs.length 1000003 1000004),(1000002,.cells 9 (aA now)),(1000003,.cells 4 (ay (stL σ J.S.attrs.length))),(1000004,.mp mk mv),(1000005,oX2 J 1000006),(1000006,.mp J.pk J.pv)] 0)
   (I:=fun x_0=>x_0≤rs.length∧∀ j (h:j<rs.length),j<x_0→(!(hE (RJ J) rs[j] σ))=false) (μ:=fun x_0=>rs.length-x_0) (x0:=(0)) (Io (aS rfl) (aO (by kernel_rfl)) rfl rfl) (⟨Nat.zero_le _,fun _ _ h=>absurd h (by omega)⟩) ?_
  rintro k ⟨hk,hno⟩;refine Z1 rfl rfl ?_;refine Gp rfl rfl (fun hc9=>?_) (fun hc9=>?_)
  ·have hlt:k<rs.length:=by omega
   have hpv:(aE (bI rs))[k*1]? =some (.int .i64 ((rs[k]:Nat):Int)):=by simp [hlt]
   have hpn:=aH (l:=bI rs) (k:=k) (by omega);have hgk:=hgo k hlt;have hik:=hi1 k hlt;generalize hbk:hE (RJ J) rs[k] σ=b at*;refine Il<|Z2 rfl rfl rfl<|Z4 rfl rfl rfl rfl rfl<|Rs 15 rfl rfl (ai ⟨_,underlying3,rfl⟩ rfl hpv)<|Rs 16 rfl rfl (bJ [big,1000001,1000002,1000003,1000004,1000005,1000006] 0 call258 hgk rfl rfl rfl rfl rfl rfl ⟨rfl,rfl,rfl,rfl,rfl,rfl,rfl,trivial⟩ (by decide) rfl) ?_;refine Gc rfl rfl (fun hc16=>?_) (fun hc16=>?_)
   ·exact Z2 rfl rfl rfl<|Gt rfl<|⟨[(4,.pv (.int .i64 k))],o7N J W σ now mk mv,[.pv (.int .i64 k)],Io (aS rfl) (aO (by kernel_rfl)) rfl rfl,rfl,rfl,rfl,by rw [hik hc16 hno];rfl,rfl⟩
   ·exact Il<|Z2 rfl rfl rfl<|⟨(k+1),Io (aS rfl) (aO (by kernel_rfl)) rfl rfl,⟨by omega,fun j h hj=>by rcases Nat.lt_succ_iff_lt_or_eq.1 hj with h1 | h1;exact hno j h h1;subst h1;rw [hbk];exact hc16⟩,by omega⟩
  ·have hm:=hi2 fun j h=>hno j h (by omega)
   exact Gx rfl<|Z1 rfl rfl<|Gt rfl<|⟨[(4,.pv (.int .i64 (-1)))],o7N J W σ now mk mv,[.pv (.int .i64 (-1))],Io (aS rfl) (aO (by kernel_rfl)) rfl rfl,rfl,rfl,rfl,by rw [hm];rfl,rfl⟩
 refine FnO.of func152 rfl ntmps152 (by simp) fun m0 w0 F R0=>?_
 rw [← hi];clear hi hgo hi1 hi2;exact Z1 rfl rfl<|Z2 rfl rfl rfl<|Rs 7 rfl rfl (ah [big,1000001,1000002,1000003,1000004,1000005,1000006] 0 call195 hidx rfl rfl rfl rfl ⟨rfl,rfl,rfl,rfl,rfl,rfl,rfl,trivial⟩ (by decide) rfl)<|Y2 rfl rfl<|Gt rfl<|⟨[(4,.pv (.bool (decide (i≥0))))],o7N J W σ now mk mv,[.pv (.bool (decide (i≥0)))],Io (aS rfl) (aO (by kernel_rfl)) rfl rfl,rfl,rfl,rfl,rfl,rfl⟩
theorem mo (J:JD) (hJ:JOk J) (W:WD) (σ:Asg ByteArray) (now:List ByteArray) (hn:NowOk J.S.attrs.length σ now) (mk mv:List PV) (a:Nat) (ha:a<J.S.attrs.length) (hσ:σ (a:Int)=none) (rs:List Nat) (hl:rs.length≤1000) (hr:∀ r∈rs,r<J.S.rels.length) (x:ByteArray):
  FnO Tryz.prog 257 7 0 [.pv (.str x),.ptr big 0,.pv (.rp [.int .i64 a] 0),.pv (.rp [ak (bI rs)] 0)] (o7N J W σ now mk mv) (fun v ob'=>v= .pv (.bool (rs.any fun r=> !(hE (RJ J) r (put σ a x))))∧ob'=ar (o7N J W σ (now.set a x) mk mv)):=by
 refine FnO.of func257 rfl ntmps257 (by simp) fun m0 w0 F R0=>?_
 have hgo:=qS J hJ W (put σ a x) (now.set a x) (hn.put ha x) mk mv rs hl hr;generalize (rs.any fun r=> !(hE (RJ J) r (put σ a x)))=b at*;have hnl:(aA now).length=J.S.attrs.length:=by rw [List.length_map,hn.l]
 have hsl:(ay (stL σ J.S.attrs.length)).length=J.S.attrs.length:=by rw [List.length_map,cK]
 have hsl2:(ay (stL (put σ a x) J.S.attrs.length)).length=J.S.attrs.length:=by rw [List.length_map,cK]
 have h1:=ix (l:=now) (a:=a) x;have h2:=kZ (σ:=σ) ha x;have h3:(ay (stL (put σ a x) J.S.attrs.length)).set (a*1) (.bool false)=ay (stL σ J.S.attrs.length):=by rw [qO ha,cO hσ]
 clear hJ hn hr;refine Z1 rfl rfl<|Ge rfl follows [0,1,2,3,4,5,6,7,8,9,10,11,12,13,14] (by kernel_rfl) ?_;first | refine D1 rfl rfl ?_ | refine D2 rfl rfl (by assumption) ?_
 iterate 3 refine D1 rfl rfl ?_
 first | refine D1 rfl rfl ?_ | refine D2 rfl rfl (by assumption) ?_
 first | refine D1 rfl rfl ?_ | refine D2 rfl rfl (by assumption) ?_
 iterate 3 refine D1 rfl rfl ?_
 first | refine D1 rfl rfl ?_ | refine D2 rfl rfl (by assumption) ?_
 refine D1 rfl rfl<|Ds 18 [_] rfl rfl rfl (fun τ h=>aa a underlying47 sz9 (Ee h 0 rfl rfl) (Eo h 0 rfl rfl) (Ee h 1 rfl rfl) rfl (by omega)) rfl (by kernel_rfl)<|DL.step (d:=none) [_] rfl rfl rfl (fun τ h=>aF sz9 (Ee h 0 rfl rfl) (Eo h 0 rfl rfl) (Ee h 1 rfl rfl) rfl (by omega)) rfl (by kernel_rfl)<|Ds 19 [_] rfl rfl rfl (fun τ h=>aa a underlying115 sz4 (Ee h 0 rfl rfl) (Eo h 0 rfl rfl) (Ee h 1 rfl rfl) rfl (by omega)) rfl (by kernel_rfl)<|DL.step (d:=none) [_] rfl rfl rfl (fun τ h=>aF sz4 (Ee h 0 rfl rfl) (Eo h 0 rfl rfl) (Ee h 1 rfl rfl) rfl (by omega)) rfl (by kernel_rfl) ?_;refine ⟨by kernel_rfl,?_⟩;refine Im (Io (l:=[(1,.ptr big 0),(2,.pv (.rp [.int .i64 a] 0)),(3,.pv (.rp [ak (bI rs)] 0))]) (os:=o7N J W (put σ a x) (now.set a x) mk mv) (k:=0) (aS rfl) ⟨rfl,rfl,congrArg (fun c=>some (Ob.cells 9 c)) h1,congrArg (fun c=>some (Ob.cells 4 c)) h2,rfl,rfl,rfl,trivial⟩ rfl rfl)<|Gr rfl ?_;first | refine A1 rfl ?_ | refine A2 rfl (by assumption) ?_
 refine A1 rfl<|Rs 22 rfl rfl (ah [big,1000001,1000002,1000003,1000004,1000005,1000006] 0 call152 hgo rfl rfl rfl rfl ⟨rfl,rfl,rfl,rfl,rfl,rfl,rfl,trivial⟩ (by decide) rfl)<|A1 rfl<|Im (Io (l:=[(1,.ptr big 0),(2,.pv (.rp [.int .i64 a] 0)),(6,.pv (.bool b))]) (os:=o7N J W (put σ a x) (now.set a x) mk mv) (k:=0) (aS rfl) (aO (by kernel_rfl)) rfl rfl)<|Ge rfl follows [0,1,2,3,4,5,6] (by kernel_rfl) ?_;first | refine D1 rfl rfl ?_ | refine D2 rfl rfl (by assumption) ?_
 iterate 3 refine D1 rfl rfl ?_
 first | refine D1 rfl rfl ?_ | refine D2 rfl rfl (by assumption) ?_
 refine Ds 28 [_] rfl rfl rfl (fun τ h=>aa a underlying115 sz4 (Ee h 0 rfl rfl) (Eo h 0 rfl rfl) (Ee h 1 rfl rfl) rfl (by omega)) rfl (by kernel_rfl)<|DL.step (d:=none) [_] rfl rfl rfl (fun τ h=>aF sz4 (Ee h 0 rfl rfl) (Eo h 0 rfl rfl) (Ee h 1 rfl rfl) rfl (by omega)) rfl (by kernel_rfl) ?_;refine ⟨by kernel_rfl,?_⟩;exact Z2 rfl rfl rfl<|Gt rfl<|⟨[(5,.pv (.bool b))],o7N J W σ (now.set a x) mk mv,[.pv (.bool b)],Io (aS rfl) ⟨by kernel_rfl,by kernel_rfl,by kernel_rfl,congrArg (fun c=>some (Ob.cells 4 c)) h3,by kernel_rfl,by kernel_rfl,by kernel_rfl,trivial⟩ rfl rfl,rfl,rfl,rfl,rfl,rfl⟩
end
section
open Go.RowKit Mk Jn
set_option maxHeartbeats 4000000
abbrev o8N (J:JD) (W:WD) (q:List ByteArray) (σ:Asg ByteArray) (now:List ByteArray) (mk mv:List PV):List (Nat×Ob):=[(big,cB q),(1000001,.mix 198 [.ptr 1000002 0]),(1000002,oN W 1000006 1000003 J.S.attrs.length 1000004 1000005),(1000003,.cells 9 (aA now)),(1000004,.cells 4 (ay (stL σ J.S.attrs.length))),(1000005,.mp mk mv),(1000006,oX2 J 1000007),(1000007,.mp J.pk J.pv)]
abbrev c1N (a:Nat) (rs:List Nat):V:= .fn (.func 257) [] [.ptr 1000001 0,.pv (.rp [.int .i64 a] 0),.pv (.rp [ak (bI rs)] 0)]
theorem qo (J:JD) (hJ:JOk J) (W:WD) (σ:Asg ByteArray) (now:List ByteArray) (hn:NowOk J.S.attrs.length σ now) (mk mv:List PV) (a:Nat) (ha:a<J.S.attrs.length) (hσ:σ (a:Int)=none) (rs:List Nat) (hl:rs.length≤1000) (hr:∀ r∈rs,r<J.S.rels.length) (l:List ByteArray) (n:Nat) (hln:l.length=n) (hn1:n≤1000) (i:Int)
  (hi1:∀ k (h:k<l.length),dS J rs σ a l[k]=true→(∀ j (h:j<l.length),j<k→dS J rs σ a l[j]=false)→i=k) (hi2:(∀ j (h:j<l.length),dS J rs σ a l[j]=false)→i= -1):
  FnO Tryz.prog 194 8 0 [.osl big 1 n,c1N a rs] (o8N J W l σ now mk mv) (fun v ob'=>v= .pv (.int .i64 i)∧ob'=ar (o8N J W l σ (tst now a (l.take (if i<0 then n else i.toNat+1))) mk mv)):=by
 refine FnO.of func194 rfl ntmps194 (by simp) fun m0 w0 F R0=>?_
 refine Z1 rfl rfl<|Z3 rfl rfl rfl rfl ?_;refine Gl rfl (st:=fun x_0:Nat=>mkS [(0,.osl big 1 n),(1,c1N a rs),(7,.pv (.int .i64 n)),(8,.pv (.int .i64 x_0))] [(big,cB l),(1000001,.mix 198 [.ptr 1000002 0]),(1000002,oN W 1000006 1000003 J.S.attrs.length 1000004 1000005),(1000003,.cells 9 (aA (tst now a (l.take x_0)))),(1000004,.cells 4 (ay (stL σ J.S.attrs.length))),(1000005,.mp mk mv),(1000006,oX2 J 1000007),(1000007,.mp J.pk J.pv)] 0)
  (I:=fun x_0=>x_0≤n∧∀ j (h:j<l.length),j<x_0→dS J rs σ a l[j]=false) (μ:=fun x_0=>n-x_0) (x0:=(0)) (Io (aS rfl) (aO (by kernel_rfl)) rfl rfl) (⟨Nat.zero_le _,fun _ _ h=>absurd h (by omega)⟩) ?_
 rintro k ⟨hk,hno⟩;refine Z1 rfl rfl ?_;refine Gp rfl rfl (fun hc9=>?_) (fun hc9=>?_)
 ·have hlt:k<l.length:=by omega
  have hv:=aM hlt;have hgk:=mo J hJ W σ (tst now a (l.take k)) (ki hn ha hσ _) mk mv a ha hσ rs hl hr l[k];rw [jJ hlt] at hgk;have hik:=hi1 k hlt;rw [show (rs.any fun r=> !(hE (RJ J) r (put σ a l[k])))=dS J rs σ a l[k] from rfl] at hgk;generalize hbk:dS J rs σ a l[k]=b at*;refine Il<|Z2 rfl rfl rfl<|Z3 rfl rfl rfl rfl<|Rs 14 rfl rfl (aa k underlying47 sz9 rfl rfl rfl rfl (by omega))<|Rs 15 rfl rfl (aC ⟨_,underlying9,rfl⟩ rfl rfl hv)<|Rs 16 rfl rfl (bJ [1000001,1000002,1000003,1000004,1000005,1000006,1000007] 0 call257 hgk rfl rfl rfl rfl rfl rfl ⟨rfl,rfl,rfl,rfl,rfl,rfl,rfl,trivial⟩ (by decide) rfl) ?_;refine Gc rfl rfl (fun hc16=>?_) (fun hc16=>?_)
  ·exact Z2 rfl rfl rfl<|Gt rfl<|⟨[(4,.pv (.int .i64 k))],o8N J W l σ (tst now a (l.take (k+1))) mk mv,[.pv (.int .i64 k)],Io (aS rfl) (aO (by kernel_rfl)) rfl rfl,rfl,rfl,rfl,by rw [hik hc16 hno];rfl,by rw [hik hc16 hno,if_neg (by omega)];rfl⟩
  ·exact Il<|Z2 rfl rfl rfl<|⟨(k+1),Io (aS rfl) (aO (by kernel_rfl)) rfl rfl,⟨by omega,fun j h hj=>by rcases Nat.lt_succ_iff_lt_or_eq.1 hj with h1 | h1;exact hno j h h1;subst h1;rw [hbk];exact hc16⟩,by omega⟩
 ·have hm:=hi2 fun j h=>hno j h (by omega)
  obtain rfl:n=k:=by omega
  exact Gx rfl<|Z1 rfl rfl<|Gt rfl<|⟨[(4,.pv (.int .i64 (-1)))],o8N J W l σ (tst now a (l.take n)) mk mv,[.pv (.int .i64 (-1))],Io (aS rfl) (aO (by kernel_rfl)) rfl rfl,rfl,rfl,rfl,by rw [hm];rfl,by rw [hm];rfl⟩
theorem pO (J:JD) (hJ:JOk J) (W:WD) (σ:Asg ByteArray) (now:List ByteArray) (hn:NowOk J.S.attrs.length σ now) (mk mv:List PV) (a:Nat) (ha:a<J.S.attrs.length) (hσ:σ (a:Int)=none) (rs:List Nat) (hl:rs.length≤1000) (hr:∀ r∈rs,r<J.S.rels.length) (l:List ByteArray) (n:Nat) (hln:l.length=n) (hn1:n≤1000):
  FnO Tryz.prog 150 8 0 [.osl big 1 n,c1N a rs] (o8N J W l σ now mk mv) (fun v ob'=>v= .osl big 1 (l.filter fun x=> !dS J rs σ a x).length∧ob'=ar (o8N J W (l.filter fun x=> !dS J rs σ a x) σ (tst now a l) mk mv)):=by
 obtain ⟨i,hi,hi1,hi2⟩:=jg l (dS J rs σ a);obtain ⟨hia,hib⟩:=sH hi hi1 hi2;have hidx:=qo J hJ W σ now hn mk mv a ha hσ rs hl hr l n hln hn1 i hi1 hi2;refine FnO.of func150 rfl ntmps150 (by simp) fun m0 w0 F R0=>?_
 clear hi hi1 hi2;refine Z1 rfl rfl<|Z2 rfl rfl rfl<|Rs 10 rfl rfl (ah [big,1000001,1000002,1000003,1000004,1000005,1000006,1000007] 0 call194 hidx rfl rfl rfl rfl ⟨rfl,rfl,rfl,rfl,rfl,rfl,rfl,rfl,trivial⟩ (by decide) rfl)<|A1 rfl<|Z2 rfl rfl rfl ?_;refine Gc rfl rfl (fun hc12=>?_) (fun hc12=>?_)
 ·have hie:i= -1:=by simpa using hc12
  have hf:(l.filter fun x=> !dS J rs σ a x)=l:=List.filter_eq_self.2 fun x hx=>by rw [hia hie x hx];rfl
  exact Z2 rfl rfl rfl<|Gt rfl<|⟨[(4,.osl big 1 n)],o8N J W l σ (tst now a l) mk mv,[.osl big 1 n],Io (aS rfl) ⟨by kernel_rfl,by kernel_rfl,by kernel_rfl,Eq.trans (b:=some (Ob.cells 9 (aA (tst now a (l.take (if i<0 then n else i.toNat+1)))))) (by kernel_rfl) (by rw [hie,if_pos (by decide),List.take_of_length_le (by omega)]),by kernel_rfl,by kernel_rfl,by kernel_rfl,by kernel_rfl,trivial⟩ rfl rfl,rfl,rfl,rfl,by rw [hf,hln];rfl,by rw [hf]⟩
 ·have hne:¬ i= -1:=by intro e;rw [e] at hc12;simp at hc12
  obtain ⟨i0,rfl,hi0,hft⟩:=hib hne;refine Il<|Z3 rfl rfl rfl rfl ?_;refine Gl rfl (st:=fun x_0:Nat×Nat×List ByteArray=>mkS [(0,.osl big 1 n),(1,c1N a rs),(5,.pv (.int .i64 x_0.2.1)),(6,.pv (.int .i64 x_0.1))] [(big,cB x_0.2.2),(1000001,.mix 198 [.ptr 1000002 0]),(1000002,oN W 1000006 1000003 J.S.attrs.length 1000004 1000005),(1000003,.cells 9 (aA (tst now a (l.take x_0.1)))),(1000004,.cells 4 (ay (stL σ J.S.attrs.length))),(1000005,.mp mk mv),(1000006,oX2 J 1000007),(1000007,.mp J.pk J.pv)] 0)
   (I:=fun x_0=>((x_0.1≤n∧x_0.2.1<x_0.1)∧x_0.2.2.length=n)∧(x_0.2.2.drop x_0.1=l.drop x_0.1∧x_0.2.2.take x_0.2.1=(l.take x_0.1).filter fun x=> !dS J rs σ a x)∧x_0.2.1=((l.take x_0.1).filter fun x=> !dS J rs σ a x).length) (μ:=fun x_0=>n-x_0.1) (x0:=(i0+1,i0,l)) (Io (aS rfl) ⟨by kernel_rfl,by kernel_rfl,by kernel_rfl,Eq.trans (b:=some (Ob.cells 9 (aA (tst now a (l.take (if (i0:Int)<0 then n else (i0:Int).toNat+1)))))) (by kernel_rfl) (by rw [if_neg (by omega)];rfl),by kernel_rfl,by kernel_rfl,by kernel_rfl,by kernel_rfl,trivial⟩ rfl rfl) (⟨⟨⟨by simp only;omega,by simp only;omega⟩,hln⟩,⟨rfl,by simp only;rw [hft]⟩,by simp only;rw [hft,List.length_take];omega⟩) ?_
  rintro ⟨k,m,q⟩ ⟨⟨⟨hk,hmk⟩,hql⟩,⟨hqd,hqt⟩,hme⟩;try simp only at hk hmk hql hqd hqt hme ⊢
  have hqln:(aA q).length=n:=by rw [List.length_map,hql]
  refine Z4 rfl rfl rfl rfl rfl ?_;refine Gp rfl rfl (fun hc19=>?_) (fun hc19=>?_)
  ·have hlt:k<l.length:=by omega
   have hq0:q[k]'(by omega)=l[k]:=by have:=congrArg (fun z=>z[0]?) hqd;simp only [List.getElem?_drop,Nat.add_zero] at this;rw [List.getElem?_eq_getElem (by omega),List.getElem?_eq_getElem hlt] at this;exact Option.some.inj this
   have hv:(aA q)[k*1]? =some (.str l[k]):=by rw [Nat.mul_one,List.getElem?_map,List.getElem?_eq_getElem (by omega),hq0];rfl
   have hgk:=mo J hJ W σ (tst now a (l.take k)) (ki hn ha hσ _) mk mv a ha hσ rs hl hr l[k];rw [jJ hlt] at hgk;rw [show (rs.any fun r=> !(hE (RJ J) r (put σ a l[k])))=dS J rs σ a l[k] from rfl] at hgk;have hdrop:q.drop (k+1)=l.drop (k+1):=by have:=congrArg (fun z=>z.drop 1) hqd;simpa only [List.drop_drop] using this
   have hfs:(l.take (k+1)).filter (fun x=> !dS J rs σ a x)=(l.take k).filter (fun x=> !dS J rs σ a x)++if dS J rs σ a l[k]=true then [] else [l[k]]:=by rw [List.take_succ_eq_append_getElem hlt];exact kR _ _ _
   generalize hbk:dS J rs σ a l[k]=b at*;refine Il<|Z2 rfl rfl rfl<|Rs 24 rfl rfl (aa k underlying47 sz9 rfl rfl rfl rfl (by omega))<|Rs 25 rfl rfl (aC ⟨_,underlying9,rfl⟩ rfl rfl hv)<|A1 rfl<|Z2 rfl rfl rfl<|Rs 28 rfl rfl (bJ [1000001,1000002,1000003,1000004,1000005,1000006,1000007] 0 call257 hgk rfl rfl rfl rfl rfl rfl ⟨rfl,rfl,rfl,rfl,rfl,rfl,rfl,trivial⟩ (by decide) rfl)<|A1 rfl ?_;refine Gc rfl rfl (fun hc29=>?_) (fun hc29=>?_)
   ·exact Z3 rfl rfl rfl rfl<|Rs 33 rfl rfl (aa m underlying47 sz9 rfl rfl rfl rfl (by omega))<|RL.step (d:=none) rfl rfl (aF sz9 rfl rfl rfl rfl (by omega))<|Z3 rfl rfl rfl rfl<|Z3 rfl rfl rfl rfl<|⟨(k+1,m+1,q.set m l[k]),Io (aS rfl) ⟨Eq.trans (b:=some (Ob.cells 9 ((aA q).set (m*1) (.str l[k])))) (by kernel_rfl) (congrArg (fun c=>some (Ob.cells 9 c)) (jS l[k])),by kernel_rfl,by kernel_rfl,by kernel_rfl,by kernel_rfl,by kernel_rfl,by kernel_rfl,by kernel_rfl,trivial⟩ rfl rfl,⟨⟨⟨by simp only;omega,by simp only;omega⟩,by simp only [List.length_set];exact hql⟩,⟨by simp only;rw [List.drop_set_of_lt (by omega)];exact hdrop,by simp only;rw [hfs,if_neg (by intro e;rw [e] at hc29;simp at hc29), ← hqt];exact du (by omega)⟩,by simp only;rw [hfs,if_neg (by intro e;rw [e] at hc29;simp at hc29),List.length_append, ← hme];rfl⟩,by simp only;omega⟩
   ·exact Il<|Z3 rfl rfl rfl rfl<|⟨(k+1,m,q),Io (aS rfl) (aO (by kernel_rfl)) rfl rfl,⟨⟨⟨by simp only;omega,by simp only;omega⟩,hql⟩,⟨hdrop,by simp only;rw [hfs,if_pos (by simpa using hc29),List.append_nil];exact hqt⟩,by simp only;rw [hfs,if_pos (by simpa using hc29),List.append_nil];exact hme⟩,by simp only;omega⟩
  ·have hkn:l.take k=l:=List.take_of_length_le (by omega);rw [hkn] at hqt hme;have hfin:(aA q).take (m*1)=aA (l.filter fun x=> !dS J rs σ a x):=by rw [Nat.mul_one, ← List.map_take,hqt]
   exact Gx rfl<|Z2 rfl rfl rfl<|Rs 38 rfl rfl (dK m underlying47 sz9 rfl rfl rfl rfl (by omega))<|RL.step (d:=none) rfl rfl (kn uq rfl rfl rfl (by omega))<|Z2 rfl rfl rfl<|Rs 41 rfl rfl (dC m underlying47 sz9 rfl rfl rfl rfl (by omega))<|A1 rfl<|Gt rfl<|⟨[(4,.osl big 1 m)],o8N J W (l.filter fun x=> !dS J rs σ a x) σ (tst now a l) mk mv,[.osl big 1 m],Io (aS rfl) ⟨Eq.trans (b:=some (Ob.cells 9 ((aA q).take (m*1)))) (by kernel_rfl) (congrArg (fun c=>some (Ob.cells 9 c)) hfin),by kernel_rfl,by kernel_rfl,Eq.trans (b:=some (Ob.cells 9 (aA (tst now a (l.take k))))) (by kernel_rfl) (by rw [hkn]),by kernel_rfl,by kernel_rfl,by kernel_rfl,by kernel_rfl,trivial⟩ rfl rfl,rfl,rfl,rfl,by rw [hme];rfl,rfl⟩
end
section
open Go.RowKit Mk Jn
set_option maxHeartbeats 4000000
theorem wS (J:JD) (W:WD) (σ:Asg ByteArray) (now:List ByteArray) (mk mv:List PV) (a:Nat) (rs:List Nat):
  FnO Tryz.prog 194 7 0 [.pv (aI []),.fn (.func 257) [] [.ptr big 0,.pv (.rp [.int .i64 a] 0),.pv (.rp [ak (bI rs)] 0)]] (o7N J W σ now mk mv) (fun v ob'=>v= .pv (.int .i64 (-1))∧ob'=ar (o7N J W σ now mk mv)):=by
 refine FnO.of func194 rfl ntmps194 (by simp) fun m0 w0 F R0=>?_
 refine Z1 rfl rfl<|Z3 rfl rfl rfl rfl ?_;refine Gl rfl (st:=fun x_0:Unit=>mkS [(0,.pv (aI [])),(1,.fn (.func 257) [] [.ptr big 0,.pv (.rp [.int .i64 a] 0),.pv (.rp [ak (bI rs)] 0)]),(7,.pv (.int .i64 0)),(8,.pv (.int .i64 0))] [(big,.mix 198 [.ptr 1000001 0]),(1000001,oN W 1000005 1000002 J.S.attrs.length 1000003 1000004),(1000002,.cells 9 (aA now)),(1000003,.cells 4 (ay (stL σ J.S.attrs.length))),(1000004,.mp mk mv),(1000005,oX2 J 1000006),(1000006,.mp J.pk J.pv)] 0)
  (I:=fun x_0=>True) (μ:=fun x_0=>0) (x0:=(())) (Io (aS rfl) (aO rfl) rfl rfl) (trivial) ?_
 rintro u hI;refine Z1 rfl rfl ?_;refine Gp rfl rfl (fun hc9=>absurd hc9 (by omega)) (fun hc9=>?_);exact Gx rfl<|Z1 rfl rfl<|Gt rfl<|⟨[(4,.pv (.int .i64 (-1)))],o7N J W σ now mk mv,[.pv (.int .i64 (-1))],Io (aS rfl) (aO (by kernel_rfl)) rfl rfl,rfl,rfl,rfl,rfl,rfl⟩
theorem vy (J:JD) (W:WD) (σ:Asg ByteArray) (now:List ByteArray) (mk mv:List PV) (a:Nat) (rs:List Nat):
  FnO Tryz.prog 150 7 0 [.pv (aI []),.fn (.func 257) [] [.ptr big 0,.pv (.rp [.int .i64 a] 0),.pv (.rp [ak (bI rs)] 0)]] (o7N J W σ now mk mv) (fun v ob'=>v= .pv (aI [])∧ob'=ar (o7N J W σ now mk mv)):=by
 refine FnO.of func150 rfl ntmps150 (by simp) fun m0 w0 F R0=>?_
 have hgo:=wS J W σ now mk mv a rs;refine Z1 rfl rfl<|Z2 rfl rfl rfl<|Rs 10 rfl rfl (ah [big,1000001,1000002,1000003,1000004,1000005,1000006] 0 call194 hgo rfl rfl rfl rfl ⟨rfl,rfl,rfl,rfl,rfl,rfl,rfl,trivial⟩ (by decide) rfl)<|A1 rfl<|Z2 rfl rfl rfl ?_;refine Gc rfl rfl (fun hc12=>?_) (fun hc12=>absurd hc12 (by simp at hc12));exact Z2 rfl rfl rfl<|Gt rfl<|⟨[(4,.pv (aI []))],o7N J W σ now mk mv,[.pv (aI [])],Io (aS rfl) (aO (by kernel_rfl)) rfl rfl,rfl,rfl,rfl,rfl,rfl⟩
theorem wJ (J:JD) (hJ:JOk J) (hJ12:∀ l∈J.T,l.length≤12) (W:WD) (σ:Asg ByteArray) (now:List ByteArray) (hn:NowOk J.S.attrs.length σ now) (mk mv:List PV) (a:Nat) (ha:a<J.S.attrs.length) (hσ:σ (a:Int)=none) (hw:bw (RJ J) a≠[]):
  FnO Tryz.prog 227 6 0 [.ptr big 0,.pv (.int .i64 a)] (o6N J W σ now mk mv) (fun v ob'=>v= .pv (aI (bC (RJ J) sdS a σ))∧ob'=ar (o6N J W σ (tst now a (jx J a σ)) mk mv)):=by
 refine FnO.of func227 rfl ntmps227 (by simp) fun m0 w0 F R0=>?_
 have hS:=hJ.s;have hSr:=hS.r;obtain ⟨f,rest,hwf⟩:∃ f rest,bw (RJ J) a=f::rest:=by cases h:bw (RJ J) a with | nil=>exact absurd h hw | cons f rest=>exact ⟨f,rest,rfl⟩
 have hcv:=re J a σ hσ hwf (uK hJ f);have hcl:jx J a σ=sdS (xf J f a σ):=by unfold jx;rw [hwf]
 have hwm:=kA J a;have hff:=hwm f (by rw [hwf];simp);have hfr:=hff.1;have hrsl:(bw (RJ J) a).length≤1000:=Nat.le_trans (List.length_filter_le ..) (by simp [RJ];omega);have hrs:∀ r∈bw (RJ J) a,r<J.S.rels.length:=fun r hr=>(hwm r hr).1
 have hq0:(aE (bI (bw (RJ J) a)))[0]? =some (.int .i64 (f:Int)):=by rw [hwf];rfl
 have hqn:aE (bI (bw (RJ J) a))≠[]:=by rw [hwf];simp
 have hql:0<(bI (bw (RJ J) a)).length:=by rw [hwf];simp
 have hrne:=ew hfr;have hra:(bj J.S.rels)[f*2+1]? =some (ak J.S.rels[f].2):=by
  have h2:(((bj J.S.rels).drop (f*2)).take 2)[1]? =[PV.str J.S.rels[f].1,ak J.S.rels[f].2][1]? :=by rw [cW hfr]
  simpa [List.getElem?_take,List.getElem?_drop] using h2
 have hrl:=hS.l _ (List.getElem_mem hfr);have hfT:f<J.T.length:=by rw [hJ.n];exact hfr
 have htr:=cD hfT;have htn:=dN hfT;have hTl:J.T[f].length≤12:=hJ12 _ (List.getElem_mem hfT);have hxv:=hJ.v f hfT hfr;have hidx:=qb J.S.rels[f].2 a (by omega) (by rw [← show cy J f=J.S.rels[f].2 by simp [cy,List.getD,hfr]];exact hff.2);have hat:(J.S.rels[f].2).idxOf (a:Int)<J.S.rels[f].2.length:=List.idxOf_lt_length_of_mem (by rw [← show cy J f=J.S.rels[f].2 by simp [cy,List.getD,hfr]];exact hff.2);have hraw:xf J f a σ=(J.T[f].filter fun x=>agr J.S.rels[f].2 σ x.v).map fun x=>x.v.getD ((J.S.rels[f].2).idxOf (a:Int)) eb:=by unfold xf;rw [show cy J f=J.S.rels[f].2 by simp [cy,List.getD,hfr],show dh J f=J.T[f] by simp [dh,List.getD,hfT]]
 have hagr:∀ k (h:k<J.T[f].length),FnO Tryz.prog 256 6 0 [.ptr big 0,.pv (.int .i64 f),.pv (sJ J.T[f][k])] (o6N J W σ now mk mv) (fun v ob'=>v= .pv (.bool (agr J.S.rels[f].2 σ J.T[f][k].v))∧ob'=ar (o6N J W σ now mk mv)):=fun k h=>fq J hJ W σ now hn mk mv f hfr J.T[f][k] (hxv _ (List.getElem_mem h))
 have hdel:=fun (l:List ByteArray) (n:Nat) (h1:l.length=n) (h2:n≤1000)=>pO J hJ W σ now hn mk mv a ha hσ (bw (RJ J) a) hrsl hrs l n h1 h2
 have hdel0:=vy J W σ now mk mv a (bw (RJ J) a);have hwt:=mM J a;rw [hcl,hcv];clear hcl hcv hwm hff hrs hrsl hw hn;generalize J.T[f]=tf at*;generalize J.S.rels[f].2=A at*;generalize hrsg:bw (RJ J) (a:Int)=rs at*;refine Z3 rfl rfl rfl rfl<|Z1 rfl rfl<|Im (St.er 2 0 3 1 3 rfl rfl rfl)<|Gr rfl ?_;iterate 10 refine A1 rfl ?_
 refine Gl rfl (st:=fun x_0:Nat×List Nat=>mkS [(2,.ptr 0 0),(3,.ptr 1 0),(5,.ptr 2 0),(22,.pv (.sl none J.S.rels.length (bj J.S.rels))),(23,.pv (.int .i64 J.S.rels.length)),(24,.pv (.int .i64 x_0.1))] [(big,oN W 1000004 1000001 J.S.attrs.length 1000002 1000003),(0,.mix 198 [.ptr big 0]),(1,.mix 3 [.pv (.int .i64 a)]),(2,.mix 22 [.gsl 3 1 x_0.2.length]),(3,.gro 3 (aE (bI x_0.2))),(1000001,.cells 9 (aA now)),(1000002,.cells 4 (ay (stL σ J.S.attrs.length))),(1000003,.mp mk mv),(1000004,oX2 J 1000005),(1000005,.mp J.pk J.pv)] 4)
  (I:=fun x_0=>(x_0.1≤J.S.rels.length∧x_0.2.length≤x_0.1)∧x_0.2=r4 J a x_0.1) (μ:=fun x_0=>J.S.rels.length-x_0.1) (x0:=(0,[])) (Io (aS rfl) (aO (by kernel_rfl)) rfl rfl) (⟨⟨Nat.zero_le _,Nat.le_refl _⟩,rfl⟩) ?_
 rintro ⟨k,q⟩ ⟨⟨hk,hqk⟩,hqe⟩;try simp only at hk hqk hqe ⊢
 refine Z1 rfl rfl ?_;refine Gp rfl rfl (fun hc25=>?_) (fun hc25=>?_)
 ·have hlt:k<J.S.rels.length:=by omega
  have hrow:=cW hlt;have hne:=ew hlt;have hkl:=hS.l _ (List.getElem_mem hlt);have hws:=mD J a hlt;generalize J.S.rels[k]=rk at*;refine Il<|Z2 rfl rfl rfl ?_;first | refine A3 rfl (by assumption) ?_ | refine A1 rfl ?_
  refine Y3 rfl rfl rfl<|Z3 rfl rfl rfl rfl<|Rs 32 rfl rfl (ae call146 (gY rk.2 a (by omega)) rfl) ?_;refine Gc rfl rfl (fun hc32=>?_) (fun hc32=>?_)
  ·refine Gr rfl ?_;iterate 5 refine A1 rfl ?_
   exact Z2 rfl rfl rfl<|⟨(k+1,q++[k]),Ip [0,1,2,6] (aT rfl) ⟨by kernel_rfl,by kernel_rfl,by kernel_rfl,Eq.trans (b:=some (.mix 22 [.gsl 6 1 (q.length+1)])) (by kernel_rfl) (congrArg (fun n=>some (Ob.mix 22 [.gsl 6 1 n])) (bW q k)),Eq.trans (b:=some (.gro 3 (aE (bI q)++[.int .i64 k]))) (by kernel_rfl) (congrArg (fun c=>some (Ob.gro 3 c)) (by simp)),by kernel_rfl,by kernel_rfl,by kernel_rfl,by kernel_rfl,by kernel_rfl,trivial⟩ rfl rfl (by decide) rfl,⟨⟨by simp only;omega,by simp only [List.length_append,List.length_singleton];omega⟩,by simp only;rw [hws,if_pos (of_decide_eq_true hc32),hqe]⟩,by simp only;omega⟩
  ·exact Il<|Z2 rfl rfl rfl<|⟨(k+1,q),Io (aS rfl) (aO (by kernel_rfl)) rfl rfl,⟨⟨by simp only;omega,by simp only;omega⟩,by simp only;rw [hws,if_neg (of_decide_eq_false hc32),List.append_nil,hqe]⟩,by simp only;omega⟩
 ·have hqrs:q=rs:=by rw [hqe,show k=J.S.rels.length by omega,hwt]
  subst hqrs;refine Im (Ir 3 rfl rfl)<|Im (St.fS 2 rfl rfl)<|Im (St.fS 1 rfl rfl)<|Im (Io (l:=[(2,.ptr 0 0),(3,.pv (.rp [.int .i64 a] 0)),(5,.pv (.rp [ak (bI q)] 0))]) (os:=(0,.mix 198 [.ptr big 0])::o6N J W σ now mk mv) (k:=1) ⟨by kernel_rfl,by kernel_rfl,Eq.trans (b:= .pv (.rp [.sl none q.length (aE (bI q))] 0)) (by kernel_rfl) (congrArg (fun n=>V.pv (.rp [.sl none n (aE (bI q))] 0)) (show q.length=(bI q).length by simp)),trivial⟩ (aO (by kernel_rfl)) rfl rfl) ?_;refine Gx rfl<|Z1 rfl rfl<|Rs 39 rfl rfl (ag 0 underlying22 sz3 rfl rfl rfl hql hqn)<|Rs 40 rfl rfl (ai ⟨_,underlying3,rfl⟩ rfl hq0)<|A1 rfl<|Ge rfl follows [0,1,2,3,4,5,6,7,8,9,10,11,12,13,14] (by kernel_rfl) ?_;iterate 9 refine D1 rfl rfl ?_
  refine Ds 50 [] rfl rfl rfl (fun τ h=>ag f underlying31 Eu (Ee h 0 rfl rfl) (Ee h 1 rfl rfl) rfl hfr hrne) rfl (by kernel_rfl)<|D1 rfl rfl<|Ds 52 [] rfl rfl rfl (fun τ h=>ai ⟨_,underlying22,rfl⟩ (Ee h 0 rfl rfl) hra) rfl (by kernel_rfl)<|D1 rfl rfl<|Ds 54 [] rfl rfl rfl (fun τ h=>ae call147 hidx (h.bt rfl)) rfl (by kernel_rfl)<|D1 rfl rfl ?_;refine ⟨by kernel_rfl,?_⟩;refine Z1 rfl rfl<|Im (Iu 10 1 1 9 rfl rfl)<|Gr rfl ?_;iterate 8 refine A1 rfl ?_
  refine Rs 63 rfl rfl (ag f underlying35 qk rfl rfl rfl hfT htn)<|Rs 64 rfl rfl (ai ⟨_,underlying38,rfl⟩ rfl htr)<|Y2 rfl rfl ?_;refine Gl rfl (st:=fun x_1:Nat×List ByteArray=>mkS [(2,.ptr 0 0),(3,.pv (.rp [.int .i64 a] 0)),(5,.pv (.rp [ak (bI q)] 0)),(8,.pv (.int .i64 f)),(9,.pv (.int .i64 ((A.idxOf (a:Int):Nat):Int))),(10,.gsl 1 1 x_1.2.length),(64,.pv (bL tf)),(65,.pv (.int .i64 tf.length)),(66,.pv (.int .i64 x_1.1))] [(big,oN W 1000004 1000001 J.S.attrs.length 1000002 1000003),(0,.mix 198 [.ptr big 0]),(1,.gro 9 (aA x_1.2)),(1000001,.cells 9 (aA now)),(1000002,.cells 4 (ay (stL σ J.S.attrs.length))),(1000003,.mp mk mv),(1000004,oX2 J 1000005),(1000005,.mp J.pk J.pv)] 2)
   (I:=fun x_1=>(x_1.1≤tf.length∧x_1.2.length≤x_1.1)∧x_1.2=((tf.take x_1.1).filter fun x=>agr A σ x.v).map fun x=>x.v.getD (A.idxOf (a:Int)) eb) (μ:=fun x_1=>tf.length-x_1.1) (x0:=(0,[])) (Io (aS rfl) (aO (by kernel_rfl)) rfl rfl) (⟨⟨Nat.zero_le _,Nat.le_refl _⟩,rfl⟩) ?_
  rintro ⟨k2,q2⟩ ⟨⟨hk2,hqk2⟩,hqe2⟩;try simp only at hk2 hqk2 hqe2 ⊢
  refine Z1 rfl rfl ?_;refine Gp rfl rfl (fun hc67=>?_) (fun hc67=>?_)
  ·have hlt2:k2<tf.length:=by omega
   have hrw:=aN hlt2;have hrn:=aW hlt2;have hga:=hagr k2 hlt2;have hxl:=hxv _ (List.getElem_mem hlt2);have htk2:=List.take_succ_eq_append_getElem hlt2;generalize tf[k2]=x at*;have hix:A.idxOf (a:Int)<x.v.length:=by omega
   have hvx:(aA x.v)[A.idxOf (a:Int)*1]? =some (.str (x.v.getD (A.idxOf (a:Int)) eb)):=by simp [List.getD,hix]
   have hxn:=bc hix;refine Il<|Z1 rfl rfl ?_;first | refine A3 rfl (by assumption) ?_ | refine A1 rfl ?_
   refine Y2 rfl rfl<|Ge rfl follows [0,1,2,3,4,5,6,7,8,9,10] (by kernel_rfl) ?_;iterate 5 refine D1 rfl rfl ?_
   refine Ds 76 [] rfl rfl rfl (fun τ h=>cg (zp:= .str ByteArray.empty) underlying152 underlying3 (.inr (.inr ⟨(Ee h 0 rfl rfl),rfl,rfl⟩)) (Ee h 1 rfl rfl) rfl Ic rfl (r:=none) rfl rfl rfl) rfl (by kernel_rfl) ?_;iterate 5 refine D1 rfl rfl ?_
   refine ⟨by kernel_rfl,?_⟩;by_cases hag:agr A σ x.v=true
   ·rw [hag] at hga;refine Z3 rfl rfl rfl rfl<|Rs 82 rfl rfl (ah [big,1000001,1000002,1000003,1000004,1000005] 0 call256 hga rfl rfl rfl rfl ⟨rfl,rfl,rfl,rfl,rfl,rfl,trivial⟩ (by decide) rfl) ?_;iterate 13 refine A1 rfl ?_
    refine Gc rfl rfl (fun hc95=>?_) (fun hc95=>absurd hc95 (by simp));exact Z4 rfl rfl rfl rfl rfl<|Rs 100 rfl rfl (ag (A.idxOf (a:Int)) underlying47 sz9 rfl rfl rfl hix hxn)<|Rs 101 rfl rfl (ai ⟨_,underlying9,rfl⟩ rfl hvx)<|Y3 rfl rfl rfl<|Z2 rfl rfl rfl<|⟨(k2+1,q2++[x.v.getD (A.idxOf (a:Int)) eb]),Ip [0,4] ⟨rfl,rfl,rfl,rfl,rfl,congrArg (fun n=>V.gsl 4 1 n) (bW q2 _),rfl,rfl,rfl,trivial⟩ ⟨by kernel_rfl,by kernel_rfl,Eq.trans (b:=some (.gro 9 (aA q2++[.str (x.v.getD (A.idxOf (a:Int)) eb)]))) (by kernel_rfl) (congrArg (fun c=>some (Ob.gro 9 c)) (by simp)),by kernel_rfl,by kernel_rfl,by kernel_rfl,by kernel_rfl,by kernel_rfl,trivial⟩ rfl rfl (by decide) rfl,⟨⟨by simp only;omega,by simp only [List.length_append,List.length_singleton];omega⟩,by simp only;rw [htk2,List.filter_append,List.map_append,hqe2];simp [List.filter_cons,hag]⟩,by simp only;omega⟩
   ·rw [eq_false_of_ne_true hag] at hga;refine Z3 rfl rfl rfl rfl<|Rs 82 rfl rfl (ah [big,1000001,1000002,1000003,1000004,1000005] 0 call256 hga rfl rfl rfl rfl ⟨rfl,rfl,rfl,rfl,rfl,rfl,trivial⟩ (by decide) rfl) ?_;iterate 13 refine A1 rfl ?_
    refine Gc rfl rfl (fun hc95=>absurd hc95 (by simp)) (fun hc95=>?_);exact Il<|Z2 rfl rfl rfl<|⟨(k2+1,q2),Io (aS rfl) (aO (by kernel_rfl)) rfl rfl,⟨⟨by simp only;omega,by simp only;omega⟩,by simp only;rw [htk2,List.filter_append,List.map_append,hqe2];simp [List.filter_cons,hag]⟩,by simp only;omega⟩
  ·have hq12:q2.length≤12:=by omega
   rw [show tf.take k2=tf from List.take_of_length_le (by omega)] at hqe2;have hqr:q2=xf J f a σ:=hqe2.trans hraw.symm;refine Gx rfl ?_;by_cases hq2:q2=[]
   ·subst hq2;refine Im (St.rB 10 rfl)<|Z1 rfl rfl<|Rs 106 rfl rfl (ae call148 lT rfl)<|Z1 rfl rfl<|Rs 108 rfl rfl (ae call149 gD rfl)<|A1 rfl<|Z2 rfl rfl rfl<|Rs 111 rfl rfl (ah [0,big,1000001,1000002,1000003,1000004,1000005] 0 call150 hdel0 rfl rfl rfl rfl ⟨by kernel_rfl,by kernel_rfl,by kernel_rfl,by kernel_rfl,by kernel_rfl,by kernel_rfl,by kernel_rfl,trivial⟩ (by decide) rfl) ?_;exact A1 rfl<|Gt rfl<|⟨[(4,.pv (aI []))],o6N J W σ now mk mv,[.pv (aI [])],Io (aS rfl) (aO (by kernel_rfl)) rfl rfl,rfl,rfl,rfl,by rw [← hqr,nG];rfl,by rw [← hqr,nG];rfl⟩
   ·refine Im (St.ku 10 rfl rfl (List.length_pos_iff.2 hq2) (by simpa using hq2)) ?_;have hsort:=mX q2 q2.length rfl hq12;have hcmp:=jh (cR q2) q2.length (cY q2).length_eq (by omega);have hcl2:=jX (cR q2);have hsl2:=(cY q2).length_eq;have hdl:=hdel (bD (cR q2)) (bD (cR q2)).length rfl (by omega);refine Z1 rfl rfl<|Rs 106 rfl rfl (ah [1] 0 call148 hsort rfl rfl rfl rfl ⟨rfl,trivial⟩ (by decide) rfl)<|Z1 rfl rfl<|Rs 108 rfl rfl (ah [1] 0 call149 hcmp rfl rfl rfl rfl ⟨rfl,trivial⟩ (by decide) rfl)<|A1 rfl<|Im (Io (l:=[(2,.ptr 0 0),(3,.pv (.rp [.int .i64 a] 0)),(5,.pv (.rp [ak (bI q)] 0)),(10,.osl 1 1 (bD (cR q2)).length)]) (os:=(1,cB (bD (cR q2)))::(0,.mix 198 [.ptr big 0])::o6N J W σ now mk mv) (k:=2) (aS (by kernel_rfl)) (aO (by kernel_rfl)) rfl rfl)<|Z2 rfl rfl rfl<|Rs 111 rfl rfl (ah [1,0,big,1000001,1000002,1000003,1000004,1000005] 0 call150 hdl rfl rfl rfl rfl ⟨by kernel_rfl,by kernel_rfl,by kernel_rfl,by kernel_rfl,by kernel_rfl,by kernel_rfl,by kernel_rfl,by kernel_rfl,trivial⟩ (by decide) rfl) ?_;exact A1 rfl<|Im (Ir 1 rfl rfl)<|Im (St.uQ [4])<|Gt rfl<|⟨[(4,.pv (aI ((bD (cR q2)).filter fun x=> !dS J q σ a x)))],o6N J W σ (tst now a (bD (cR q2))) mk mv,[.pv (aI ((bD (cR q2)).filter fun x=> !dS J q σ a x))],Io (aS (by kernel_rfl)) (aO (by kernel_rfl)) rfl rfl,rfl,rfl,rfl,by rw [← hqr];rfl,by rw [← hqr];rfl⟩
end
section
open Go.RowKit Mk Jn
set_option maxHeartbeats 4000000
abbrev nC (r:Nat):List V:=[.pv (.bool (decide ((r:Int)<0))),.pv (z1 (r:Int).natAbs)]
abbrev xg (r:Nat):V:= .agg (nC r)
abbrev jQ (r:Nat):Ob:= .mix 91 (nC r)
def GE:Nat:=1001
def GN:Nat:=12^GE
theorem Hp {a e m:Nat} (he:e<m) (h:a≤12^e):(aj ((a:Nat):Int).natAbs).length≤m:=by
 rw [Int.natAbs_natCast,bF];exact Nat.lt_of_le_of_lt (Nat.le_trans h (Nat.pow_le_pow_left (by decide:12≤1000000000) e)) (Nat.pow_lt_pow_right (by decide) he)
theorem mV {a:Nat} (h:a≤GN):(aj ((a:Nat):Int).natAbs).length≤1000000:=Hp (e:=GE) (by decide) h
theorem ig {n k:Nat} (h:n≤12^k) (hk:k≤1001):n≤GN:=Nat.le_trans h (Nat.pow_le_pow_right (by decide) hk)
theorem D6:1≤GN:=ig (k:=0) (by decide) (by decide)
theorem F7 (a b:Nat) (ha:a≤GN) (hb:b≤GN):FnP Tryz.prog 86 [ec (a:Int),ec (b:Int)] (· =ec ((bG.add a b:Nat):Int)):=by
 have:=j1 (a:Int) (b:Int) (mV ha) (mV hb);rwa [show (a:Int)+(b:Int)=((bG.add a b:Nat):Int) from (Int.natCast_add a b).symm] at this
theorem th (a b:Nat) (ha:a≤GN) (hb:b≤GN):FnP Tryz.prog 87 [ec (a:Int),ec (b:Int)] (· =ec ((bG.mul a b:Nat):Int)):=by
 have:=sE (a:Int) (b:Int) (mV ha) (mV hb);rwa [show (a:Int)*(b:Int)=((bG.mul a b:Nat):Int) from (Int.natCast_mul a b).symm] at this
theorem zK (a:Nat):FnP Tryz.prog 88 [ec (a:Int)] (· = .bool (decide (a=0))):=by
 refine FnP.of func88 rfl ntmps88 (by simp) fun m0 w0 F R0=>?_
 have he:(((a:Int).sign)==0)=decide (a=0):=by
  cases a with
  | zero=>rfl
  | succ a=>rw [Int.sign_eq_one_of_pos (by omega)];simp
 exact Z2 rfl rfl rfl<|Z1 rfl rfl<|Rs 4 rfl rfl (ae call89 (nj _) rfl)<|Y2 rfl rfl<|Gt rfl<|⟨_,_,rfl,rfl,congrArg PV.bool he⟩
theorem wY (v:Int) (x:ByteArray):FnP Tryz.prog 91 [.int .i64 v,.str x] (· =ec ((1:Nat):Int)):=by
 refine FnP.ofC func91 rfl ntmps91 (by simp) fun m0 w0 F R0=>?_
 exact Z1 rfl rfl<|Gr rfl<|Rs 5 rfl rfl (ae call51 (fO 1 (by decide) (by decide)) rfl)<|A1 rfl<|Gt rfl<|⟨_,_,rfl,rfl,⟨aY ⟨_,underlying91,rfl⟩ lK rfl rfl rfl,trivial⟩,rfl⟩
theorem CA (w:Int):FnP Tryz.prog 92 [.int .i64 w] (· =ec ((1:Nat):Int)):=by
 refine FnP.ofC func92 rfl ntmps92 (by simp) fun m0 w0 F R0=>?_
 exact Z1 rfl rfl<|Gr rfl<|Rs 3 rfl rfl (ae call51 (fO 1 (by decide) (by decide)) rfl)<|A1 rfl<|Gt rfl<|⟨_,_,rfl,rfl,⟨aY ⟨_,underlying91,rfl⟩ lK rfl rfl rfl,trivial⟩,rfl⟩
abbrev wdN (D:VD):WD:=⟨bu D.chs,bu D.kes,bu D.hos,ak D.wa,.bool false,z1 0,.bool false,z1 1,.fn (.func 86) [] [],.fn (.func 87) [] [],.fn (.func 88) [] [],.fn (.func 91) [] [],.fn (.func 92) [] []⟩
theorem Bk:∀ (a b:List (Nat×Ob)) (i:Nat) (o:Ob),ar a i=some o→ar (a++b) i=some o
 | [],b,i,o,h=>by simp [ar] at h
 | (d,v)::a,b,i,o,h=>by
   simp only [List.cons_append,ar] at h ⊢;cases hb:Nat.beq i d with
   | true=>rw [hb] at h;exact h
   | false=>rw [hb] at h;exact Bk a b i o h
end
section
open Go.RowKit Mk Jn
set_option maxHeartbeats 4000000
abbrev bM (M:List (ByteArray×Nat)):List PV:=M.map fun p=>ec (p.2:Int)
abbrev o6R (J:JD) (W:WD) (σ:Asg ByteArray) (now:List ByteArray) (mk mv:List PV) (o:Ob):List (Nat×Ob):=[(big,oN W 1000004 1000001 J.S.attrs.length 1000002 1000003),(1000001,.cells 9 (aA now)),(1000002,.cells 4 (ay (stL σ J.S.attrs.length))),(1000003,.mp mk mv),(1000004,oX2 J 1000005),(1000005,.mp J.pk J.pv),(0,o)]
theorem yL (J:JD) (W:WD) (σ:Asg ByteArray) (now:List ByteArray) (mk mv:List PV) (r:Ob):∀ i o,ar (o6N J W σ now mk mv) i=some o→ar (o6R J W σ now mk mv r) i=some o:=fun i o h=>Bk (o6N J W σ now mk mv) [(0,r)] i o h
def QKN (J:JD) (P:List Int) (D:VD) (σ:Asg ByteArray) (r:Nat) (v:V) (ob':Nat→Option Ob):Prop:=∃ now' M',NowOk J.S.attrs.length σ now'∧iz bG J P M'∧v=xg r∧ob'=ar (o6N J (wdN D) σ now' (ba M') (bM M'))
def RBN (J:JD) (P:List Int) (σ:Asg ByteArray) (r:Nat) (p:V) (a b:Ob):Prop:=∃ now' M',NowOk J.S.attrs.length σ now'∧iz bG J P M'∧p=xg r∧a= .cells 9 (aA now')∧b= .mp (ba M') (bM M')
theorem zN {J:JD} {P:List Int} {D:VD} {σ:Asg ByteArray} {r:Nat} (v:V) (ob':Nat→Option Ob) (h:QKN J P D σ r v ob'):∃ p a b,RBN J P σ r p a b∧p.ren (cm six 0)=p∧a.ren (cm six 0)=a∧b.ren (cm six 0)=b∧v=p∧ob'=ar [(big,oN (wdN D) 1000004 1000001 J.S.attrs.length 1000002 1000003),(1000001,a),(1000002,.cells 4 (ay (stL σ J.S.attrs.length))),(1000003,b),(1000004,oX2 J 1000005),(1000005,.mp J.pk J.pv)]:=by
 obtain ⟨now',M',h1,h2,rfl,rfl⟩:=h;exact ⟨_,_,_,⟨now',M',h1,h2,rfl,rfl,rfl⟩,rfl,rfl,rfl,rfl,rfl⟩
def oi (J:JD) (P:List Int) (D:VD) (v:Nat):Prop:=∀ σ now M,At P v σ→ZfA σ→SzA σ→NowOk J.S.attrs.length σ now→iz bG J P M→FnO Tryz.prog 188 6 0 [.ptr big 0,.pv (.int .i64 v)] (o6N J (wdN D) σ now (ba M) (bM M)) (QKN J P D σ (fv bG J P v σ))
def kU (J:JD) (P:List Int) (D:VD) (v:Nat):Prop:=∀ σ now M x,At P v σ→ZfA σ→SzA σ→Zf x→x.size≤10000→NowOk J.S.attrs.length σ now→iz bG J P M→FnO Tryz.prog 228 6 0 [.ptr big 0,.pv (.int .i64 v),.pv (.str x)] (o6N J (wdN D) σ now (ba M) (bM M)) (QKN J P D σ (fl bG J P (al P v) (put σ v x)))
theorem mj (J:JD) (P:List Int) (D:VD) (h:CtxV J P D) (v:Nat) (hv:v<P.length) (hb:kU J P D v):oi J P D v:=by
 intro σ now M hat hz hsz hn hM;refine FnO.ofC func188 rfl ntmps188 (by simp) fun m0 w0 F R0=>?_
 have hP:=h.ord.dP;have hnl:=h.len;have hn64:=h.n64;have hva:v<J.S.attrs.length:=by omega
 have hvk:v<D.kes.length:=by rw [h.kel];exact hv
 have hkv:=cM hvk;have hkn:=cQ hvk;have hw8:IntKind.u8.wrap (v:Int)=((UInt8.ofNat v).toNat:Int):=by
  have:=h.n64;rw [UInt8.toNat_ofNat'];simp [IntKind.wrap,IntKind.bits,IntKind.signed]
 have hwb:=mS (UInt8.ofNat v);rw [h.Hb hv] at hkv;have hkl:=yj J.S P v;have hke:∀ a∈dq J.S P v,∃ b:Nat,a=(b:Int)∧b<J.S.attrs.length∧∃ y,σ (b:Int)=some y:=fun a ha=>by
  obtain ⟨b,e,hb,hm⟩:=h.xz hv ha;exact ⟨b,e,by omega,Option.isSome_iff_exists.1 (hat.up _ hm)⟩
 have hktl:∀ k,(lG (fun a=>(σ a).getD eb) ((dq J.S P v).take k)).length≤10001*64:=fun k=>by
  refine Nat.le_trans (nQ fun a _=>?_) (Nat.mul_le_mul_left _ ?_)
  ·cases e:σ a with
   | none=>exact (by decide:(0:Nat)≤10000)
   | some x=>exact hsz a x e
  ·have:=h.n64;rw [List.length_take];omega
 have hlk:=tT bG (fun r:Nat=>ec (r:Int)) hM hv hat hz;have hput:=fun M2 (hM2:iz bG J P M2)=>y8 bG (fun r:Nat=>ec (r:Int)) h.ord (by have:=h.n64;omega) hM2 hv hat hz
 have hfnd:=fun M2:List (ByteArray×Nat)=>gJ (lz v (dq J.S P v) σ) (fun r:Nat=>ec (r:Int)) M2 0
 have hcand:=wJ J h.ok h.t12 (wdN D) σ now hn (ba M) (bM M) v hva (hat.self hv) (h.wv v hva);have htn:=ki hn hva (hat.self hv) (jx J v σ);have hcok:=h.s8 v σ;have hcl:=gm h.t12 v σ;have hfv:=Gz bG J hP hv σ;have hbr:=fun now2 M2 x hx1 hx2 h2 h3=>hb σ now2 M2 x hat hz hsz hx1 hx2 h2 h3
 have hks:lz v (dq J.S P v) σ=⟨(UInt8.ofNat v::lG (fun a=>(σ a).getD eb) (dq J.S P v)).toArray⟩:=rfl;have hkne:(lz v (dq J.S P v) σ).data.toList≠[]:=by rw [hks];simp
 have hkbl:(lz v (dq J.S P v) σ).data.toList.length≤1000000000:=by
  have:=hktl (dq J.S P v).length;rw [List.take_length] at this;rw [hks];simp only [List.length_cons];omega
 have hsb:=fun k=>ig (Hn h.t12 hP hv σ k) (by omega)
 have hfb:=fun x=>ig (sr h.t12 hP hv _ (List.prefix_refl _) (put σ v x)) (by omega)
 clear hb;generalize hKg:lz v (dq J.S P v) σ=KB at*;generalize dq J.S P v=K at*;generalize jx J v σ=CL at*;generalize hFG:(fun x=>fl bG J P (al P v) (put σ v x))=fx at*;have hfx:∀ x,fl bG J P (al P v) (put σ v x)=fx x:=fun x=>by rw [← hFG]
 simp only [hfx] at hbr hfb;generalize fv bG J P v σ=FV at*;generalize bC (RJ J) sdS v σ=C at*;refine Z1 rfl rfl<|Z1 rfl rfl<|Im (St.er 1 1 2 1 5 rfl rfl rfl)<|Z1 rfl rfl<|Rs 14 rfl rfl ((en underlying3 underlying5 rfl).cast (v':= .pv (.int .u8 ((UInt8.ofNat v).toNat:Int))) (congrArg (fun z=>V.pv (.int .u8 z)) hw8))<|Rs 15 rfl rfl (ah [1,2] 3 call192 hwb rfl rfl rfl rfl ⟨rfl,rfl,trivial⟩ (by decide) rfl) ?_;clear hw8 hwb;refine Gr rfl ?_;iterate 6 refine A1 rfl ?_
 refine Rs 22 rfl rfl (ag v underlying142 ly rfl rfl rfl hvk hkn)<|Rs 23 rfl rfl (ai ⟨_,underlying22,rfl⟩ rfl hkv)<|Y2 rfl rfl ?_;refine Gl rfl (st:=fun x_0:Nat×List UInt8=>mkS [(0,.ptr big 0),(1,.pv (.int .i64 v)),(4,.ptr 0 0),(5,.ptr 1 0),(23,.pv (ak K)),(24,.pv (.int .i64 K.length)),(25,.pv (.int .i64 x_0.1))] [(big,oN (wdN D) 1000004 1000001 J.S.attrs.length 1000002 1000003),(0,.mix 91 [.pv (.bool false),.pv nS]),(1,.mix 165 [.ptr 1 0,.gsl 4 1 x_0.2.length]),(4,.gro 5 (az x_0.2)),(1000001,.cells 9 (aA now)),(1000002,.cells 4 (ay (stL σ J.S.attrs.length))),(1000003,.mp (ba M) (bM M)),(1000004,oX2 J 1000005),(1000005,.mp J.pk J.pv)] 5)
  (I:=fun x_0=>x_0.1≤K.length∧x_0.2=UInt8.ofNat v::lG (fun a=>(σ a).getD eb) (K.take x_0.1)) (μ:=fun x_0=>K.length-x_0.1) (x0:=(0,[UInt8.ofNat v])) (Io (aS rfl) (aO (by kernel_rfl)) rfl rfl) (⟨Nat.zero_le _,rfl⟩) ?_
 rintro ⟨k,L⟩ ⟨hk,hL⟩;try simp only at hk hL ⊢
 refine Z1 rfl rfl ?_;refine Gp rfl rfl (fun hc26=>?_) (fun hc26=>?_)
 ·have hlt:k<K.length:=by omega
  obtain ⟨a,ha,hal,y,hy⟩:=hke _ (List.getElem_mem hlt);have hpv:(aE K)[k*1]? =some (.int .i64 (a:Int)):=by rw [← ha];simp [hlt]
  have hpn:=aH hlt;have hnow:now[a]'(by rw [hn.l];exact hal)=y:=hn.e a (by rw [hn.l];exact hal) y hy;have hnp:=aM (l:=now) (k:=a) (by rw [hn.l];exact hal);rw [hnow] at hnp;have hnl2:(aA now).length=J.S.attrs.length:=by rw [List.length_map,hn.l]
  have hys:=hsz _ _ hy;have hkt:=hktl k;have hktk:=pg (fun a=>(σ a).getD eb) hlt;rw [ha,hy] at hktk;have hLn:L≠[]:=by rw [hL];simp
  have hws:=qm L (y++(⟨#[0]⟩:ByteArray)) hLn (by rw [hL,ug];simp only [List.length_cons];omega);rw [r3] at hws;refine Il<|Z1 rfl rfl<|Rs 28 rfl rfl (ai ⟨_,underlying3,rfl⟩ rfl hpv)<|A1 rfl<|Gr rfl ?_;iterate 6 refine A1 rfl ?_
  refine Rs 35 rfl rfl (aC ⟨_,underlying9,rfl⟩ rfl rfl hnp)<|Rs 36 rfl rfl (xO rfl rfl (by show y.size+1≤_;omega)) ?_;refine Rs 37 rfl rfl (ah [1,4] 5 call105 hws rfl rfl rfl rfl ⟨by kernel_rfl,by kernel_rfl,trivial⟩ (by decide) rfl) ?_;exact Z2 rfl rfl rfl<|⟨(k+1,L++(y.data.toList++[0])),Ip [0,1,2,3,5] (aT rfl) (aP (by kernel_rfl)) rfl rfl (by decide) rfl,⟨by simp only;omega,by simp only;rw [hktk,hL];rfl⟩,by simp only;omega⟩
 ·have hLK:L=UInt8.ofNat v::lG (fun a=>(σ a).getD eb) K:=by rw [hL,show K.take k=K from List.take_of_length_le (by omega)]
  have hLn:L≠[]:=by rw [hLK];simp
  have hKL:(⟨L.toArray⟩:ByteArray)=KB:=by rw [hks,hLK]
  have hLe:L=KB.data.toList:=by rw [← hKL]
  have hLl:L.length≤1000000000:=by rw [hLe];exact hkbl
  have hbs:=j8 L hLn hLl;rw [hKL] at hbs;have hbs2:=mW L.length KB hkne (by rw [hLe]) hLl;refine Gx rfl ?_;by_cases hm:∃ p∈M,p.1=KB
  ·rw [if_pos hm] at hlk;refine Ge rfl follows [0,1,2,3,4,5,6,7,8,9,10,11] (by kernel_rfl) ?_;iterate 4 refine D1 rfl rfl ?_
   refine Ds 44 [1,4] rfl rfl rfl (fun τ h=>ah [1,4] 5 call108 hbs (h.args.trans rfl) rfl rfl rfl ⟨(Eo h 0 rfl rfl),(Eo h 1 rfl rfl),trivial⟩ (by decide) rfl) rfl (by kernel_rfl)<|Ds 45 [_] rfl rfl rfl (fun τ h=>cg (zp:= .agg [.bool false,.sl (some true) 0 []]) underlying238 underlying9 (.inl ⟨1000003,(Ee h 0 rfl rfl),(Eo h 0 rfl rfl)⟩) (Ee h 1 rfl rfl) rfl Ej rfl hlk rfl rfl) rfl (by kernel_rfl) ?_;iterate 6 refine D1 rfl rfl ?_
   refine ⟨by kernel_rfl,?_⟩;refine Z1 rfl rfl ?_;refine Gc rfl rfl (fun hc48=>?_) (fun hc48=>absurd hc48 (by simp));exact Z2 rfl rfl rfl<|Gt rfl<|⟨[(4,.ptr 0 0)],o6R J (wdN D) σ now (ba M) (bM M) (jQ FV),[xg FV],o6N J (wdN D) σ now (ba M) (bM M),1,Io (aS rfl) (aO (by kernel_rfl)) rfl rfl,rfl,⟨aY ⟨_,underlying91,rfl⟩ lK rfl rfl rfl,trivial⟩,rfl,rfl,yL _ _ _ _ _ _ _,by decide,now,M,hn,hM,rfl,rfl⟩
  ·rw [if_neg hm] at hlk;refine Ge rfl follows [0,1,2,3,4,5,6,7,8,9,10,11] (by kernel_rfl) ?_;iterate 4 refine D1 rfl rfl ?_
   refine Ds 44 [1,4] rfl rfl rfl (fun τ h=>ah [1,4] 5 call108 hbs (h.args.trans rfl) rfl rfl rfl ⟨(Eo h 0 rfl rfl),(Eo h 1 rfl rfl),trivial⟩ (by decide) rfl) rfl (by kernel_rfl)<|Ds 45 [_] rfl rfl rfl (fun τ h=>cg (zp:= .agg [.bool false,.sl (some true) 0 []]) underlying238 underlying9 (.inl ⟨1000003,(Ee h 0 rfl rfl),(Eo h 0 rfl rfl)⟩) (Ee h 1 rfl rfl) rfl Ej rfl hlk rfl rfl) rfl (by kernel_rfl) ?_;iterate 6 refine D1 rfl rfl ?_
   refine ⟨by kernel_rfl,?_⟩;refine Z1 rfl rfl ?_;refine Gc rfl rfl (fun hc48=>absurd hc48 (by simp)) (fun hc48=>?_);refine Il<|Gr rfl ?_;iterate 7 refine A1 rfl ?_
   refine Z2 rfl rfl rfl<|Rs 57 rfl rfl (ah [big,1000001,1000002,1000003,1000004,1000005] 7 call227 hcand rfl rfl rfl rfl ⟨by kernel_rfl,by kernel_rfl,by kernel_rfl,by kernel_rfl,by kernel_rfl,by kernel_rfl,trivial⟩ (by decide) rfl) ?_;refine Y2 rfl rfl ?_;refine Gl rfl (st:=fun x_1:Nat×List ByteArray×List (ByteArray×Nat)=>mkS [(0,.ptr big 0),(1,.pv (.int .i64 v)),(4,.ptr 0 0),(5,.ptr 1 0),(10,.ptr 6 0),(57,.pv (aI C)),(58,.pv (.int .i64 C.length)),(59,.pv (.int .i64 x_1.1))] [(big,oN (wdN D) 1000004 1000001 J.S.attrs.length 1000002 1000003),(0,.mix 91 [.pv (.bool false),.pv nS]),(1,.mix 165 [.ptr 1 0,.gsl 4 1 L.length]),(4,.fro 5 KB),(6,jQ (eg bG ((C.take x_1.1).map fx))),(1000001,.cells 9 (aA x_1.2.1)),(1000002,.cells 4 (ay (stL σ J.S.attrs.length))),(1000003,.mp (ba x_1.2.2) (bM x_1.2.2)),(1000004,oX2 J 1000005),(1000005,.mp J.pk J.pv)] 7)
    (I:=fun x_1=>x_1.1≤C.length∧NowOk J.S.attrs.length σ x_1.2.1∧iz bG J P x_1.2.2) (μ:=fun x_1=>C.length-x_1.1) (x0:=(0,tst now v CL,M)) (Io (aS rfl) (aO (by kernel_rfl)) rfl rfl) (⟨Nat.zero_le _,htn,hM⟩) ?_
   rintro ⟨k2,now2,M2⟩ ⟨hk2,hn2,hM2⟩;try simp only at hk2 hn2 hM2 ⊢
   refine Z1 rfl rfl ?_;refine Gp rfl rfl (fun hc60=>?_) (fun hc60=>?_)
   ·have hlt2:k2<C.length:=by omega
    have hv2:=aM hlt2;have hne2:=bc hlt2;have hco:=hcok _ (List.getElem_mem hlt2);have hbk:=hbr now2 M2 C[k2] hco.1 hco.2 hn2 hM2;have hss:=qK bG hlt2 fx;have hga:=F7 _ _ (hsb k2) (hfb C[k2]);generalize eg bG ((C.take k2).map fx)=acc at*;refine Il<|Z1 rfl rfl ?_;first | refine A2 rfl (by assumption) ?_ | refine A1 rfl ?_
    refine A1 rfl<|Ge rfl follows [0,1,2,3,4,5,6,7,8,9,10,11] (by kernel_rfl) ?_;iterate 9 refine D1 rfl rfl ?_
    refine DL.rel (RV (RBN J P σ (fx C[k2]))) [1000001,1000003] [] [big,1000001,1000002,1000003,1000004,1000005] rfl rfl rfl (fun τ h=>Gh call228 hbk zN (h.args.trans rfl) rfl rfl ⟨Eo h 0 rfl rfl,Eo h 1 rfl rfl,Eo h 2 rfl rfl,Eo h 3 rfl rfl,Eo h 4 rfl rfl,Eo h 5 rfl rfl,trivial⟩) rfl (by kernel_rfl) (by kernel_rfl) (by kernel_rfl) ?_;rintro _ ⟨_,_,_,⟨now3,M3,hn3,hM3,rfl,rfl,rfl⟩,rfl⟩ _ _;refine Ds 73 [] rfl rfl rfl (fun τ h=>bb call86 (Ee h 0 rfl rfl) hga (h.jv rfl)) rfl (by kernel_rfl)<|D1 rfl rfl ?_;refine ⟨by kernel_rfl,?_⟩;exact Z2 rfl rfl rfl<|⟨(k2+1,now3,M3),Io (aS rfl) ⟨by kernel_rfl,by kernel_rfl,by kernel_rfl,by kernel_rfl,Eq.trans (b:=some (jQ (bG.add acc (fx C[k2])))) (by kernel_rfl) (congrArg (fun b=>some (jQ b)) hss.symm),by kernel_rfl,by kernel_rfl,by kernel_rfl,by kernel_rfl,by kernel_rfl,trivial⟩ rfl rfl,⟨by omega,hn3,hM3⟩,by simp only;omega⟩
   ·rw [show C.take k2=C from List.take_of_length_le (by omega), ← hfv];obtain ⟨M4,hM4,hpk,hpv⟩:=hput M2 hM2;obtain ⟨⟨r,hkf⟩,_,_⟩:=hfnd M2;refine Gx rfl<|Ge rfl follows [0,1,2,3,4,5,6] (by kernel_rfl) ?_;iterate 4 refine D1 rfl rfl ?_
    refine Ds 79 [1,4] rfl rfl rfl (fun τ h=>ah [1,4] 7 call108 hbs2 (h.args.trans rfl) rfl rfl rfl ⟨(Eo h 0 rfl rfl),(Eo h 1 rfl rfl),trivial⟩ (by decide) rfl) rfl (by kernel_rfl)<|D1 rfl rfl<|DL.step (d:=none) [_] rfl rfl rfl (fun τ h=>ed underlying238 underlying9 (Ee h 0 rfl rfl) (Eo h 0 rfl rfl) (Ee h 1 rfl rfl) (Ee h 2 rfl rfl) rfl hkf hpk hpv) rfl (by kernel_rfl) ?_;refine ⟨by kernel_rfl,?_⟩;exact Z2 rfl rfl rfl<|Gt rfl<|⟨[(4,.ptr 0 0)],o6R J (wdN D) σ now2 (ba M4) (bM M4) (jQ FV),[xg FV],o6N J (wdN D) σ now2 (ba M4) (bM M4),1,Io (aS rfl) (aO (by kernel_rfl)) rfl rfl,rfl,⟨aY ⟨_,underlying91,rfl⟩ lK rfl rfl rfl,trivial⟩,rfl,rfl,yL _ _ _ _ _ _ _,by decide,now2,M4,hn2,hM4,rfl,rfl⟩
theorem jr (J:JD) (P:List Int) (D:VD) (h:CtxV J P D) (v:Nat) (hv:v<P.length) (hw:∀ c:Nat,c<P.length→P.getD c 0=(v:Int)→oi J P D c):kU J P D v:=by
 intro σ now M x hat hz hsz hx1 hx2 hn hM;refine FnO.ofC func228 rfl ntmps228 (by simp) fun m0 w0 F R0=>?_
 have hP:=h.ord.dP;have hlen:=h.len;have hn64:=h.n64;have hJ:=h.ok;have hva:v<J.S.attrs.length:=by omega
 have hself:=hat.self hv;have hnp:=hn.put hva x;have hagr:=fun r (hr:r<J.S.rels.length) y (hy:y.v.length=J.S.rels[r].2.length)=>fq J hJ (wdN D) (put σ v x) (now.set v x) hnp (ba M) (bM M) r hr y hy
 have hvo:v<D.hos.length:=by rw [h.hl];exact hv
 have hov:=cM hvo;have hon:=cQ hvo;have hoh:=h.ho _ (List.getElem_mem hvo);generalize D.hos[v]=Hs at*;have hvc:v<D.chs.length:=by rw [h.chl];omega
 have hcv:=cM hvc;have hcn:=cQ hvc;rw [h.HX hv] at hcv;have hkid:∀ c∈al P v,∃ m:Nat,m<P.length∧c=(m:Int)∧P.getD m 0=(v:Int):=fun c hc=>aX.1 hc
 have hcl:(al P v).length≤64:=Nat.le_trans (Nat.le_trans (List.length_filter_le ..) (by rw [a8];exact Nat.le_refl _)) hn64;have hview:=fun (c:Nat) (hc:c<P.length) (hp:P.getD c 0=(v:Int)) now2 M2 h2 h3=>hw c hc hp (put σ v x) now2 M2 (hat.child hP hv hc hp x) (hz.put v hx1) (hsz.put v hx2) h2 h3
 have hfn:=uO bG J P (put σ v x);have hft:=fun (cs:List Int) (k:Nat) (hk:k<cs.length)=>oG bG J P (put σ v x) hk
 have hfz:=yv bG J P (al P v) (put σ v x);have hnl:(aA now).length=J.S.attrs.length:=by rw [List.length_map,hn.l]
 have hsl:(ay (stL σ J.S.attrs.length)).length=J.S.attrs.length:=by rw [List.length_map,cK]
 have hsl2:(ay (stL (put σ v x) J.S.attrs.length)).length=J.S.attrs.length:=by rw [List.length_map,cK]
 have h1:=ix (l:=now) (a:=v) x;have h2:=kZ (σ:=σ) hva x;have h3:(ay (stL (put σ v x) J.S.attrs.length)).set (v*1) (.bool false)=ay (stL σ J.S.attrs.length):=by rw [qO hva,cO hself]
 have hun:∀ now2,NowOk J.S.attrs.length (put σ v x) now2→NowOk J.S.attrs.length σ now2:=fun now2 h4=>by have:=h4.un (v:Int);rwa [cO hself] at this
 have hkb:=fun k=>ig (sr h.t12 hP hv _ (List.take_prefix k _) (put σ v x)) (by omega)
 have hvb:=fun (c:Nat) (hc:c<P.length)=>ig (Ed h.t12 hP hc (put σ v x)) (by omega)
 generalize al P v=CS at*;clear hw;generalize put σ v x=σ2 at*;refine Z1 rfl rfl<|Ge rfl follows [0,1,2,3,4,5,6,7,8,9,10,11,12,13,14] (by kernel_rfl) ?_;iterate 11 refine D1 rfl rfl ?_
 refine Ds 25 [_] rfl rfl rfl (fun τ h=>aa v underlying47 sz9 (Ee h 0 rfl rfl) (Eo h 0 rfl rfl) (Ee h 1 rfl rfl) rfl (by omega)) rfl (by kernel_rfl)<|DL.step (d:=none) [_] rfl rfl rfl (fun τ h=>aF sz9 (Ee h 0 rfl rfl) (Eo h 0 rfl rfl) (Ee h 1 rfl rfl) rfl (by omega)) rfl (by kernel_rfl)<|Ds 26 [_] rfl rfl rfl (fun τ h=>aa v underlying115 sz4 (Ee h 0 rfl rfl) (Eo h 0 rfl rfl) (Ee h 1 rfl rfl) rfl (by omega)) rfl (by kernel_rfl)<|DL.step (d:=none) [_] rfl rfl rfl (fun τ h=>aF sz4 (Ee h 0 rfl rfl) (Eo h 0 rfl rfl) (Ee h 1 rfl rfl) rfl (by omega)) rfl (by kernel_rfl) ?_;refine ⟨by kernel_rfl,?_⟩;refine Im (Io (l:=[(0,.ptr big 0),(1,.pv (.int .i64 v)),(2,.pv (.str x)),(6,.ptr 0 0)]) (os:=(0,.mix 91 [.pv (.bool false),.pv nS])::o6N J (wdN D) σ2 (now.set v x) (ba M) (bM M)) (k:=1) (aS rfl) ⟨rfl,rfl,congrArg (fun c=>some (Ob.cells 9 c)) h1,congrArg (fun c=>some (Ob.cells 4 c)) h2,rfl,rfl,rfl,trivial⟩ rfl rfl)<|Gr rfl ?_;iterate 6 refine A1 rfl ?_
 refine Rs 33 rfl rfl (bb call91 rfl (wY _ _) rfl)<|Y2 rfl rfl<|Gr rfl ?_;iterate 6 refine A1 rfl ?_
 refine Rs 40 rfl rfl (ag v underlying142 ly rfl rfl rfl hvo hon)<|Rs 41 rfl rfl (ai ⟨_,underlying22,rfl⟩ rfl hov)<|Y2 rfl rfl ?_;refine Gl rfl (st:=fun x_0:Nat=>mkS [(0,.ptr big 0),(1,.pv (.int .i64 v)),(6,.ptr 0 0),(7,.ptr 1 0),(41,.pv (ak Hs)),(42,.pv (.int .i64 Hs.length)),(43,.pv (.int .i64 x_0))] [(big,oN (wdN D) 1000004 1000001 J.S.attrs.length 1000002 1000003),(0,.mix 91 [.pv (.bool false),.pv nS]),(1,jQ 1),(1000001,.cells 9 (aA (now.set v x))),(1000002,.cells 4 (ay (stL σ2 J.S.attrs.length))),(1000003,.mp (ba M) (bM M)),(1000004,oX2 J 1000005),(1000005,.mp J.pk J.pv)] 2)
  (I:=fun x_0=>x_0≤Hs.length) (μ:=fun x_0=>Hs.length-x_0) (x0:=(0)) (Io (aS rfl) (aO (by kernel_rfl)) rfl rfl) (Nat.zero_le _) ?_
 rintro k hk;refine Z1 rfl rfl ?_;refine Gp rfl rfl (fun hc44=>?_) (fun hc44=>?_)
 ·have hlt:k<Hs.length:=by omega
  have hHl:=hoh.1;obtain ⟨hr0,hr1⟩:=hoh.2 _ (List.getElem_mem hlt);obtain ⟨r,hr⟩:=Int.eq_ofNat_of_zero_le hr0;have hrl:r<J.S.rels.length:=by omega
  have hpv:(aE Hs)[k*1]? =some (.int .i64 (r:Int)):=by rw [← hr];simp [hlt]
  have hpn:=aH hlt;have hrT:r<J.T.length:=by rw [hJ.n];exact hrl
  have htr:=cD hrT;have htn:=dN hrT;have hTl:=hJ.l _ (List.getElem_mem hrT);have hxv:=hJ.v r hrT hrl;have hga:=fun (i:Nat) (hi:i<J.T[r].length)=>hagr r hrl J.T[r][i] (hxv _ (List.getElem_mem hi))
  generalize J.T[r]=tf at*;refine Il<|Z1 rfl rfl<|Rs 46 rfl rfl (ai ⟨_,underlying3,rfl⟩ rfl hpv)<|A1 rfl<|Gr rfl ?_;iterate 8 refine A1 rfl ?_
  refine Rs 55 rfl rfl (ag r underlying35 qk rfl rfl rfl hrT htn)<|Rs 56 rfl rfl (ai ⟨_,underlying38,rfl⟩ rfl htr)<|Y2 rfl rfl ?_;refine Gl rfl (st:=fun x_1:Nat=>mkS [(0,.ptr big 0),(1,.pv (.int .i64 v)),(6,.ptr 0 0),(7,.ptr 1 0),(9,.pv (.int .i64 (r:Int))),(41,.pv (ak Hs)),(42,.pv (.int .i64 Hs.length)),(43,.pv (.int .i64 k)),(56,.pv (bL tf)),(57,.pv (.int .i64 tf.length)),(58,.pv (.int .i64 x_1))] [(big,oN (wdN D) 1000004 1000001 J.S.attrs.length 1000002 1000003),(0,.mix 91 [.pv (.bool false),.pv nS]),(1,jQ 1),(1000001,.cells 9 (aA (now.set v x))),(1000002,.cells 4 (ay (stL σ2 J.S.attrs.length))),(1000003,.mp (ba M) (bM M)),(1000004,oX2 J 1000005),(1000005,.mp J.pk J.pv)] 2)
   (I:=fun x_1=>x_1≤tf.length) (μ:=fun x_1=>tf.length-x_1) (x0:=(0)) (Io (aS rfl) (aO (by kernel_rfl)) rfl rfl) (Nat.zero_le _) ?_
  rintro k3 hk3;refine Z1 rfl rfl ?_;refine Gp rfl rfl (fun hc59=>?_) (fun hc59=>?_)
  ·have hlt3:k3<tf.length:=by omega
   have hrw:=aN hlt3;have hrn:=aW hlt3;have hgk:=hga k3 hlt3;generalize tf[k3]=y at*;generalize hbg:agr J.S.rels[r].2 σ2 y.v=b at*;refine Il<|Z1 rfl rfl ?_;first | refine A3 rfl (by assumption) ?_ | refine A1 rfl ?_
   refine Y2 rfl rfl<|Z3 rfl rfl rfl rfl<|Rs 65 rfl rfl (ah [big,1000001,1000002,1000003,1000004,1000005] 3 call256 hgk rfl rfl rfl rfl ⟨rfl,rfl,rfl,rfl,rfl,rfl,trivial⟩ (by decide) rfl) ?_;refine Gc rfl rfl (fun hc65=>?_) (fun hc65=>?_)
   ·refine Ge rfl follows [0,1,2,3,4,5,6,7,8,9,10,11,12,13,14] (by kernel_rfl) ?_;iterate 12 refine D1 rfl rfl ?_
    refine Ds 78 [] rfl rfl rfl (fun τ h=>bb call92 (Ee h 0 rfl rfl) (CA _) (h.jv rfl)) rfl (by kernel_rfl)<|Ds 79 [] rfl rfl rfl (fun τ h=>bb call87 (Ee h 0 rfl rfl) (th 1 1 D6 D6) (h.jv rfl)) rfl (by kernel_rfl)<|D1 rfl rfl ?_;refine ⟨by kernel_rfl,?_⟩;exact Z2 rfl rfl rfl<|⟨(k3+1),Io (aS rfl) (aO (by kernel_rfl)) rfl rfl,by omega,by omega⟩
   ·exact Il<|Z2 rfl rfl rfl<|⟨(k3+1),Io (aS rfl) (aO (by kernel_rfl)) rfl rfl,by omega,by omega⟩
  ·skip
   exact Gx rfl<|Z2 rfl rfl rfl<|⟨(k+1),Io (aS rfl) (aO (by kernel_rfl)) rfl rfl,by omega,by omega⟩
 ·skip
  refine Gx rfl<|Gr rfl ?_;iterate 6 refine A1 rfl ?_
  refine Rs 88 rfl rfl (ag v underlying142 ly rfl rfl rfl hvc hcn)<|Rs 89 rfl rfl (ai ⟨_,underlying22,rfl⟩ rfl hcv)<|Y2 rfl rfl ?_;refine Gl rfl (st:=fun x_2:Nat×List ByteArray×List (ByteArray×Nat)=>mkS [(0,.ptr big 0),(1,.pv (.int .i64 v)),(6,.ptr 0 0),(7,.ptr 1 0),(89,.pv (ak CS)),(90,.pv (.int .i64 CS.length)),(91,.pv (.int .i64 x_2.1))] [(big,oN (wdN D) 1000004 1000001 J.S.attrs.length 1000002 1000003),(0,.mix 91 [.pv (.bool false),.pv nS]),(1,jQ (fl bG J P (CS.take x_2.1) σ2)),(1000001,.cells 9 (aA x_2.2.1)),(1000002,.cells 4 (ay (stL σ2 J.S.attrs.length))),(1000003,.mp (ba x_2.2.2) (bM x_2.2.2)),(1000004,oX2 J 1000005),(1000005,.mp J.pk J.pv)] 2)
   (I:=fun x_2=>x_2.1≤CS.length∧NowOk J.S.attrs.length σ2 x_2.2.1∧iz bG J P x_2.2.2) (μ:=fun x_2=>CS.length-x_2.1) (x0:=(0,now.set v x,M)) (Io (aS rfl) ⟨by kernel_rfl,by kernel_rfl,Eq.trans (b:=some (jQ bG.one)) (by kernel_rfl) (congrArg (fun b=>some (jQ b)) hfn.symm),by kernel_rfl,by kernel_rfl,by kernel_rfl,by kernel_rfl,by kernel_rfl,trivial⟩ rfl rfl) (⟨Nat.zero_le _,hnp,hM⟩) ?_
  rintro ⟨k4,now2,M2⟩ ⟨hk4,hn2,hM2⟩;try simp only at hk4 hn2 hM2 ⊢
  refine Z1 rfl rfl ?_;refine Gp rfl rfl (fun hc92=>?_) (fun hc92=>?_)
  ·have hlt4:k4<CS.length:=by omega
   obtain ⟨c,hc,hce,hcp⟩:=hkid _ (List.getElem_mem hlt4);have hpv4:(aE CS)[k4*1]? =some (.int .i64 (c:Int)):=by rw [← hce];simp [hlt4]
   have hpn4:=aH hlt4;have hvk:=hview c hc hcp now2 M2 hn2 hM2;have htk:=hft CS k4 hlt4;have hfz4:=hfz k4;have hmm:=th _ _ (hkb k4) (hvb c hc);rw [hce] at htk;generalize hag:fl bG J P (CS.take k4) σ2=acc at*;refine Il<|Z1 rfl rfl<|Rs 94 rfl rfl (ai ⟨_,underlying3,rfl⟩ rfl hpv4)<|A1 rfl<|Ge rfl follows [0,1,2,3,4,5,6] (by kernel_rfl) ?_;iterate 6 refine D1 rfl rfl ?_
   refine Ds 101 [] rfl rfl rfl (fun τ h=>bb call88 (Ee h 0 rfl rfl) (zK _) (h.jv rfl)) rfl (by kernel_rfl) ?_;refine ⟨by kernel_rfl,?_⟩;refine Gc rfl rfl (fun hc101=>?_) (fun hc101=>?_)
   ·have haf:acc=0:=by simpa using hc101
    have hall:acc=fl bG J P CS σ2:=haf.trans (hfz4 haf).symm;rw [hall];refine Gx rfl<|Gr rfl ?_;iterate 5 refine A1 rfl ?_
    exact Rs 118 rfl rfl (aa v underlying115 sz4 rfl rfl rfl rfl (by omega))<|RL.step (d:=none) rfl rfl (aF sz4 rfl rfl rfl rfl (by omega))<|Z2 rfl rfl rfl<|Gt rfl<|⟨[(6,.ptr 0 0)],o6R J (wdN D) σ now2 (ba M2) (bM M2) (jQ (fl bG J P CS σ2)),[xg (fl bG J P CS σ2)],o6N J (wdN D) σ now2 (ba M2) (bM M2),1,Io (aS rfl) ⟨by kernel_rfl,by kernel_rfl,congrArg (fun c=>some (Ob.cells 4 c)) h3,by kernel_rfl,by kernel_rfl,by kernel_rfl,by kernel_rfl,trivial⟩ rfl rfl,rfl,⟨aY ⟨_,underlying91,rfl⟩ lK rfl rfl rfl,trivial⟩,rfl,rfl,yL _ _ _ _ _ _ _,by decide,now2,M2,hun _ hn2,hM2,rfl,rfl⟩
   ·refine Il<|Ge rfl follows [0,1,2,3,4,5,6,7,8,9,10] (by kernel_rfl) ?_;iterate 8 refine D1 rfl rfl ?_
    refine DL.rel (RV (RBN J P σ2 (fv bG J P c σ2))) [1000001,1000003] [] [big,1000001,1000002,1000003,1000004,1000005] rfl rfl rfl (fun τ h=>Gh call188 hvk zN (h.args.trans rfl) rfl rfl ⟨Eo h 0 rfl rfl,Eo h 1 rfl rfl,Eo h 2 rfl rfl,Eo h 3 rfl rfl,Eo h 4 rfl rfl,Eo h 5 rfl rfl,trivial⟩) rfl (by kernel_rfl) (by kernel_rfl) (by kernel_rfl) ?_;rintro _ ⟨_,_,_,⟨now3,M3,hn3,hM3,rfl,rfl,rfl⟩,rfl⟩ _ _;refine Ds 111 [] rfl rfl rfl (fun τ h=>bb call87 (Ee h 0 rfl rfl) hmm (h.jv rfl)) rfl (by kernel_rfl)<|D1 rfl rfl ?_;refine ⟨by kernel_rfl,?_⟩;exact Z2 rfl rfl rfl<|⟨(k4+1,now3,M3),Io (aS rfl) ⟨by kernel_rfl,by kernel_rfl,Eq.trans (b:=some (jQ (bG.mul acc (fv bG J P c σ2)))) (by kernel_rfl) (congrArg (fun b=>some (jQ b)) htk.symm),by kernel_rfl,by kernel_rfl,by kernel_rfl,by kernel_rfl,by kernel_rfl,trivial⟩ rfl rfl,⟨by omega,hn3,hM3⟩,by simp only;omega⟩
  ·rw [show CS.take k4=CS from List.take_of_length_le (by omega)];refine Gx rfl<|Gr rfl ?_;iterate 5 refine A1 rfl ?_
   exact Rs 118 rfl rfl (aa v underlying115 sz4 rfl rfl rfl rfl (by omega))<|RL.step (d:=none) rfl rfl (aF sz4 rfl rfl rfl rfl (by omega))<|Z2 rfl rfl rfl<|Gt rfl<|⟨[(6,.ptr 0 0)],o6R J (wdN D) σ now2 (ba M2) (bM M2) (jQ (fl bG J P CS σ2)),[xg (fl bG J P CS σ2)],o6N J (wdN D) σ now2 (ba M2) (bM M2),1,Io (aS rfl) ⟨by kernel_rfl,by kernel_rfl,congrArg (fun c=>some (Ob.cells 4 c)) h3,by kernel_rfl,by kernel_rfl,by kernel_rfl,by kernel_rfl,trivial⟩ rfl rfl,rfl,⟨aY ⟨_,underlying91,rfl⟩ lK rfl rfl rfl,trivial⟩,rfl,rfl,yL _ _ _ _ _ _ _,by decide,now2,M2,hun _ hn2,hM2,rfl,rfl⟩
theorem EK (J:JD) (P:List Int) (D:VD) (h:CtxV J P D):∀ (k v:Nat),v<P.length→P.length≤k+(bp P v).length+1→oi J P D v∧kU J P D v:=by
 have hP:=h.ord.dP;intro k;induction k with
 | zero=>
   intro v hv hk;have hb:=jr J P D h v hv fun c hc hp=>by
    have:=lu hP hc;rw [bO hP hc hv hp,List.length_cons] at this;omega
   exact ⟨mj J P D h v hv hb,hb⟩
 | succ k ih=>
   intro v hv hk;have hb:=jr J P D h v hv fun c hc hp=>(ih c hc (by rw [bO hP hc hv hp,List.length_cons];omega)).1
   exact ⟨mj J P D h v hv hb,hb⟩
theorem BI (J:JD) (P:List Int) (D:VD) (h:CtxV J P D) (v:Nat) (hv:v<P.length):oi J P D v:=(EK J P D h P.length v hv (by omega)).1
end
section
open Go.RowKit Mk Jn
set_option maxHeartbeats 4000000
theorem rG (J:JD) (P:List Int) (D:VD) (h:CtxV J P D) (σ:Asg ByteArray) (now:List ByteArray) (mk mv:List PV):FnO Tryz.prog 187 6 0 [.ptr big 0] (o6N J (wdN D) σ now mk mv) (fun v ob'=>v= .pv (ak (al P (-1)))∧ob'=ar (o6N J (wdN D) σ now mk mv)):=by
 refine FnO.of func187 rfl ntmps187 (by simp) fun m0 w0 F R0=>?_
 have hvc:P.length<D.chs.length:=by rw [h.chl];omega
 have hcv:=cM hvc;have hcn:=cQ hvc;rw [h.xZ] at hcv;have hcl:=h.chl;have hn64:=h.n64;refine Z1 rfl rfl<|Ge rfl follows [0,1,2,3,4,5,6,7,8,9,10,11,12,13,14] (by kernel_rfl) ?_;iterate 12 refine D1 rfl rfl ?_
 refine Ds 15 [] rfl rfl rfl (fun τ h=>ag P.length underlying142 ly (Ee h 0 rfl rfl) (Ee h 1 rfl rfl) (by omega) hvc hcn) rfl (by kernel_rfl)<|Ds 16 [] rfl rfl rfl (fun τ h=>ai ⟨_,underlying22,rfl⟩ (Ee h 0 rfl rfl) hcv) rfl (by kernel_rfl)<|D1 rfl rfl ?_;refine ⟨by kernel_rfl,?_⟩;exact Gt rfl<|⟨[(2,.pv (ak (al P (-1))))],o6N J (wdN D) σ now mk mv,[.pv (ak (al P (-1)))],Io (aS rfl) (aO rfl) rfl rfl,rfl,rfl,rfl,rfl,rfl⟩
theorem rT (J:JD) (P:List Int) (D:VD) (h:CtxV J P D) (σ:Asg ByteArray) (hσ:∀ a,σ a=none) (now:List ByteArray) (M:List (ByteArray×Nat)) (hn:NowOk J.S.attrs.length σ now) (hM:iz bG J P M):FnO Tryz.prog 138 6 0 [.ptr big 0] (o6N J (wdN D) σ now (ba M) (bM M)) (QKN J P D σ (fl bG J P (al P (-1)) σ)):=by
 refine FnO.ofC func138 rfl ntmps138 (by simp) fun m0 w0 F R0=>?_
 have hP:=h.ord.dP;have hn64:=h.n64;have hroots:=rG J P D h σ now (ba M) (bM M);have hkid:∀ c∈al P (-1),∃ m:Nat,m<P.length∧c=(m:Int)∧P.getD m 0= -1:=fun c hc=>aX.1 hc
 have hcl:(al P (-1)).length≤64:=Nat.le_trans (Nat.le_trans (List.length_filter_le ..) (by rw [a8];exact Nat.le_refl _)) hn64;have hview:=fun (c:Nat) (hc:c<P.length) (hp:P.getD c 0= -1) now2 M2 h2 h3=>BI J P D h c hc σ now2 M2 ⟨fun a ha=>by rw [eJ hc (by rw [← getD_at hc];exact hp)] at ha;simp at ha,fun a _=>hσ a⟩ (fun a x e=>by rw [hσ] at e;cases e) (fun a x e=>by rw [hσ] at e;cases e) h2 h3
 have hfn:=uO bG J P σ;have hft:=fun (cs:List Int) (k:Nat) (hk:k<cs.length)=>oG bG J P σ hk
 have hkb:=fun k=>ig (Cd h.t12 hP _ (List.take_prefix k (al P (-1))) σ) (by omega)
 have hvb:=fun (c:Nat) (hc:c<P.length)=>ig (Ed h.t12 hP hc σ) (by omega)
 generalize al P (-1)=CS at*;refine Z1 rfl rfl<|Gr rfl ?_;iterate 7 refine A1 rfl ?_
 refine Z1 rfl rfl<|Rs 12 rfl rfl (ah [big,1000001,1000002,1000003,1000004,1000005] 2 call187 hroots rfl rfl rfl rfl ⟨rfl,rfl,rfl,rfl,rfl,rfl,trivial⟩ (by decide) rfl)<|Y2 rfl rfl ?_;refine Gl rfl (st:=fun x_0:Nat×List ByteArray×List (ByteArray×Nat)=>mkS [(0,.ptr big 0),(2,.ptr 0 0),(3,.ptr 1 0),(12,.pv (ak CS)),(13,.pv (.int .i64 CS.length)),(14,.pv (.int .i64 x_0.1))] [(big,oN (wdN D) 1000004 1000001 J.S.attrs.length 1000002 1000003),(0,.mix 91 [.pv (.bool false),.pv nS]),(1,jQ (fl bG J P (CS.take x_0.1) σ)),(1000001,.cells 9 (aA x_0.2.1)),(1000002,.cells 4 (ay (stL σ J.S.attrs.length))),(1000003,.mp (ba x_0.2.2) (bM x_0.2.2)),(1000004,oX2 J 1000005),(1000005,.mp J.pk J.pv)] 2)
  (I:=fun x_0=>x_0.1≤CS.length∧NowOk J.S.attrs.length σ x_0.2.1∧iz bG J P x_0.2.2) (μ:=fun x_0=>CS.length-x_0.1) (x0:=(0,now,M)) (Io (aS rfl) ⟨by kernel_rfl,by kernel_rfl,Eq.trans (b:=some (jQ bG.one)) (by kernel_rfl) (congrArg (fun b=>some (jQ b)) hfn.symm),by kernel_rfl,by kernel_rfl,by kernel_rfl,by kernel_rfl,by kernel_rfl,trivial⟩ rfl rfl) (⟨Nat.zero_le _,hn,hM⟩) ?_
 rintro ⟨k4,now2,M2⟩ ⟨hk4,hn2,hM2⟩;try simp only at hk4 hn2 hM2 ⊢
 refine Z1 rfl rfl ?_;refine Gp rfl rfl (fun hc15=>?_) (fun hc15=>?_)
 ·have hlt4:k4<CS.length:=by omega
  obtain ⟨c,hc,hce,hcp⟩:=hkid _ (List.getElem_mem hlt4);have hpv4:(aE CS)[k4*1]? =some (.int .i64 (c:Int)):=by rw [← hce];simp [hlt4]
  have hpn4:=aH hlt4;have hvk:=hview c hc hcp now2 M2 hn2 hM2;have htk:=hft CS k4 hlt4;have hmm:=th _ _ (hkb k4) (hvb c hc);rw [hce] at htk;generalize hag:fl bG J P (CS.take k4) σ=acc at*;refine Il<|Z1 rfl rfl<|Rs 17 rfl rfl (ai ⟨_,underlying3,rfl⟩ rfl hpv4)<|A1 rfl<|Ge rfl follows [0,1,2,3,4,5,6,7,8,9,10] (by kernel_rfl) ?_;iterate 8 refine D1 rfl rfl ?_
  refine DL.rel (RV (RBN J P σ (fv bG J P c σ))) [1000001,1000003] [] [big,1000001,1000002,1000003,1000004,1000005] rfl rfl rfl (fun τ h=>Gh call188 hvk zN (h.args.trans rfl) rfl rfl ⟨Eo h 0 rfl rfl,Eo h 1 rfl rfl,Eo h 2 rfl rfl,Eo h 3 rfl rfl,Eo h 4 rfl rfl,Eo h 5 rfl rfl,trivial⟩) rfl (by kernel_rfl) (by kernel_rfl) (by kernel_rfl) ?_;rintro _ ⟨_,_,_,⟨now3,M3,hn3,hM3,rfl,rfl,rfl⟩,rfl⟩ _ _;refine Ds 27 [] rfl rfl rfl (fun τ h=>bb call87 (Ee h 0 rfl rfl) hmm (h.jv rfl)) rfl (by kernel_rfl)<|D1 rfl rfl ?_;refine ⟨by kernel_rfl,?_⟩;exact Z2 rfl rfl rfl<|⟨(k4+1,now3,M3),Io (aS rfl) ⟨by kernel_rfl,by kernel_rfl,Eq.trans (b:=some (jQ (bG.mul acc (fv bG J P c σ)))) (by kernel_rfl) (congrArg (fun b=>some (jQ b)) htk.symm),by kernel_rfl,by kernel_rfl,by kernel_rfl,by kernel_rfl,by kernel_rfl,trivial⟩ rfl rfl,⟨by omega,hn3,hM3⟩,by simp only;omega⟩
 ·rw [show CS.take k4=CS from List.take_of_length_le (by omega)];exact Gx rfl<|Z2 rfl rfl rfl<|Gt rfl<|⟨[(2,.ptr 0 0)],o6R J (wdN D) σ now2 (ba M2) (bM M2) (jQ (fl bG J P CS σ)),[xg (fl bG J P CS σ)],o6N J (wdN D) σ now2 (ba M2) (bM M2),1,Io (aS rfl) (aO (by kernel_rfl)) rfl rfl,rfl,⟨aY ⟨_,underlying91,rfl⟩ lK rfl rfl rfl,trivial⟩,rfl,rfl,yL _ _ _ _ _ _ _,by decide,now2,M2,hn2,hM2,rfl,rfl⟩
end
end Go.Proofs.YtedfonppffochaaGreatDoor
