/-
  Texts of ours, joined and shortened by merge2.py: KU, K5B, E34, K6, KP, K7, K8B, K9B, E35. No statement of the program is proved here.
-/
import Derived.Lib.Builder
import Derived.Lib.UnsafeStr
import Derived.Lib.AppendStr
import Derived.Laws.Externs
import Derived.Laws.Pointers
import Derived.Test.YtjlikknopfnllaaGreatDoorJ67
set_option maxRecDepth 100000
set_option maxHeartbeats 4000000
open Go.RowKit Go.Proofs.Tryz
namespace Go.Proofs.YtjlikknopfnllaaGreatDoor
section
open Go.RowKit Mk Jn
set_option maxHeartbeats 4000000
theorem Dy {l:List Int} {x:Int} {k:Nat} (h:k<l.length) (hx:l[k]=x) (hno:∀ j (h:j<l.length),j<k→l[j]≠x):l.idxOf x=k:=by
 have hm:x∈l:=hx▸List.getElem_mem h
 have h1:=List.idxOf_lt_length_of_mem hm
 have h2:l[l.idxOf x]=x:=List.getElem_idxOf h1
 rcases Nat.lt_trichotomy (l.idxOf x) k with c | c | c
 ·exact absurd h2 (hno _ h1 c)
 ·exact c
 ·exact absurd hx (by
   have:=List.not_of_lt_findIdx (p:=(· ==x)) (xs:=l) (i:=k) c
   simpa using this)
theorem qb (l:List Int) (x:Int) (hl:l.length≤1000000) (hx:x∈l):FnP Tryz.prog 147 [ak l,.int .i64 x] (· = .int .i64 ((l.idxOf x:Nat):Int)):=by
 refine FnP.of func147 rfl ntmps147 (by simp) fun m0 w0 F R0=>?_
 refine Z1 rfl rfl ?_
 refine Z3 rfl rfl rfl rfl ?_
 refine Gl rfl (st:=fun x_0:Nat=>mkS [(0,.pv (ak l)),(1,.pv (.int .i64 x)),(7,.pv (.int .i64 l.length)),(8,.pv (.int .i64 x_0))] [] 0)
  (I:=fun x_0=>x_0≤l.length∧∀ j (h:j<l.length),j<x_0→l[j]≠x) (μ:=fun x_0=>l.length-x_0) (x0:=(0)) (Io (aS rfl) trivial rfl rfl) (⟨Nat.zero_le _,fun _ _ h=>absurd h (by omega)⟩) ?_
 rintro k ⟨hk,hno⟩
 refine Z1 rfl rfl ?_
 refine Gp rfl rfl (fun hc9=>?_) (fun hc9=>?_)
 ·have hlt:k<l.length:=by omega
  have hv:=cE hlt
  have hne:=aH hlt
  refine Il ?_
  refine Z2 rfl rfl rfl ?_
  refine Z4 rfl rfl rfl rfl rfl ?_
  first | refine A2 rfl (by assumption) ?_ | refine A1 rfl ?_
  refine A1 rfl ?_
  refine Gc rfl rfl (fun hc16=>?_) (fun hc16=>?_)
  ·refine Z2 rfl rfl rfl ?_
   refine Gt rfl ?_
   exact ⟨_,_,rfl,rfl,by rw [Dy hlt (eq_of_beq hc16).symm hno];rfl⟩
  ·refine Il ?_
   refine Z2 rfl rfl rfl ?_
   exact ⟨(k+1),Io (aS rfl) trivial rfl rfl,⟨by omega,fun j h hj=>by rcases Nat.lt_succ_iff_lt_or_eq.1 hj with h1 | h1;exact hno j h h1;subst h1;intro e;rw [e] at hc16;simp at hc16⟩,by omega⟩
 ·exact absurd hx (fun hm=>by obtain ⟨j,h,e⟩:=List.mem_iff_getElem.1 hm;exact hno j h (by omega) e)
  done
theorem AZ:FnP Tryz.prog 229 [aI [],.int .i64 0,.int .i64 0] (· = .tup []):=by
 refine FnP.of func229 rfl ntmps229 (by simp) fun m0 w0 F R0=>?_
 refine Z3 rfl rfl rfl rfl ?_
 refine Gl rfl (st:=fun x_0:Unit=>mkS [(0,.pv (aI [])),(1,.pv (.int .i64 0)),(2,.pv (.int .i64 0)),(6,.pv (.int .i64 1))] [] 0)
  (I:=fun x_0=>True) (μ:=fun x_0=>0) (x0:=(())) (Io (aS rfl) trivial rfl rfl) (trivial) ?_
 rintro u hI
 refine Z3 rfl rfl rfl rfl ?_
 refine Gp rfl rfl (fun hc12=>absurd hc12 (by omega)) (fun hc12=>?_)
 refine Gx rfl ?_
 exact ⟨_,_,rfl,rfl,rfl⟩
theorem zh (e:Int):FnP Tryz.prog 193 [aI [],.int .i64 0,.int .i64 0,.int .i64 e] (· = .tup []):=by
 refine FnP.of func193 rfl ntmps193 (by simp) fun m0 w0 F R0=>?_
 refine Z1 rfl rfl ?_
 refine Z1 rfl rfl ?_
 refine Gl rfl (st:=fun x_0:Unit=>mkS [(0,.pv (aI [])),(1,.pv (.int .i64 0)),(2,.pv (.int .i64 0)),(3,.pv (.int .i64 e)),(8,.pv (.bool true)),(9,.pv (.bool true))] [] 0)
  (I:=fun x_0=>True) (μ:=fun x_0=>0) (x0:=(())) (Io (aS rfl) trivial rfl rfl) (trivial) ?_
 rintro u hI
 refine Z4 rfl rfl rfl rfl rfl ?_
 refine Z2 rfl rfl rfl ?_
 refine Gp rfl rfl (fun hc23=>?_) (fun hc23=>absurd hc23 (fun h=>h (by omega)))
 refine Z3 rfl rfl rfl rfl ?_
 refine Rs 27 rfl rfl (ae call229 AZ rfl) ?_
 refine Gt rfl ?_
 exact ⟨_,_,rfl,rfl,rfl⟩
theorem lT:FnP Tryz.prog 148 [aI []] (· = .tup []):=by
 refine FnP.of func148 rfl ntmps148 (by simp) fun m0 w0 F R0=>?_
 refine Z3 rfl rfl rfl rfl ?_
 refine Z3 rfl rfl rfl rfl ?_
 refine Rs 8 rfl rfl ((en underlying3 underlying161 rfl).cast (v':= .pv (.int .u64 (0:Nat))) rfl) ?_
 refine RL.call rfl (dE call104 (tP 0 (by decide)) rfl ?_)
 rintro _ ⟨e,rfl⟩
 refine Rs 10 rfl rfl (ae call193 (zh e) rfl) ?_
 exact ⟨_,_,rfl,rfl,rfl⟩
theorem gD:FnP Tryz.prog 149 [aI []] (· =aI []):=by
 refine FnP.of func149 rfl ntmps149 (by simp) fun m0 w0 F R0=>?_
 refine Z1 rfl rfl ?_
 refine Z3 rfl rfl rfl rfl ?_
 refine Gp rfl rfl (fun hc8=>?_) (fun hc8=>absurd hc8 (fun h=>h (by show ((0:Nat):Int)<2;omega)))
 refine Z2 rfl rfl rfl ?_
 refine Gt rfl ?_
 exact ⟨_,_,rfl,rfl,rfl⟩
end
section
open Go.RowKit Mk Jn
set_option maxHeartbeats 4000000
theorem vH (J:JD) (W:WD) (σ:Asg ByteArray) (now:List ByteArray) (mk mv:List PV) (a:Nat) (rs:List Nat):
  FnO Tryz.prog 194 7 0 [.pv (aI []),.fn (.func 151) [] [.ptr big 0,.pv (.rp [.int .i64 a] 0),.pv (.rp [ak (bK rs)] 0)]] (o7B J W σ now mk mv) (fun v ob'=>v= .pv (.int .i64 (-1))∧ob'=ar (o7B J W σ now mk mv)):=by
 refine FnO.of func194 rfl ntmps194 (by simp) fun m0 w0 F R0=>?_
 refine Z1 rfl rfl ?_
 refine Z3 rfl rfl rfl rfl ?_
 refine Gl rfl (st:=fun x_0:Unit=>mkS [(0,.pv (aI [])),(1,.fn (.func 151) [] [.ptr big 0,.pv (.rp [.int .i64 a] 0),.pv (.rp [ak (bK rs)] 0)]),(7,.pv (.int .i64 0)),(8,.pv (.int .i64 0))] [(big,.mix 139 [.ptr 1000001 0]),(1000001,oB W 1000005 1000002 J.S.attrs.length 1000003 1000004),(1000002,.cells 9 (aA now)),(1000003,.cells 4 (ay (stL σ J.S.attrs.length))),(1000004,.mp mk mv),(1000005,oX2 J 1000006),(1000006,.mp J.pk J.pv)] 0)
  (I:=fun x_0=>True) (μ:=fun x_0=>0) (x0:=(())) (Io (aS rfl) (aO rfl) rfl rfl) (trivial) ?_
 rintro u hI
 refine Z1 rfl rfl ?_
 refine Gp rfl rfl (fun hc9=>absurd hc9 (by omega)) (fun hc9=>?_)
 refine Gx rfl ?_
 refine Z1 rfl rfl ?_
 refine Gt rfl ?_
 exact ⟨[(4,.pv (.int .i64 (-1)))],o7B J W σ now mk mv,[.pv (.int .i64 (-1))],Io (aS rfl) (aO (by kernel_rfl)) rfl rfl,rfl,rfl,rfl,rfl,rfl⟩
theorem w8 (J:JD) (W:WD) (σ:Asg ByteArray) (now:List ByteArray) (mk mv:List PV) (a:Nat) (rs:List Nat):
  FnO Tryz.prog 150 7 0 [.pv (aI []),.fn (.func 151) [] [.ptr big 0,.pv (.rp [.int .i64 a] 0),.pv (.rp [ak (bK rs)] 0)]] (o7B J W σ now mk mv) (fun v ob'=>v= .pv (aI [])∧ob'=ar (o7B J W σ now mk mv)):=by
 refine FnO.of func150 rfl ntmps150 (by simp) fun m0 w0 F R0=>?_
 have hgo:=vH J W σ now mk mv a rs
 refine Z1 rfl rfl ?_
 refine Z2 rfl rfl rfl ?_
 refine Rs 10 rfl rfl (ah [big,1000001,1000002,1000003,1000004,1000005,1000006] 0 call194 hgo rfl rfl rfl rfl ⟨rfl,rfl,rfl,rfl,rfl,rfl,rfl,trivial⟩ (by decide) rfl) ?_
 refine A1 rfl ?_
 refine Z2 rfl rfl rfl ?_
 refine Gc rfl rfl (fun hc12=>?_) (fun hc12=>absurd hc12 (by simp at hc12))
 refine Z2 rfl rfl rfl ?_
 refine Gt rfl ?_
 exact ⟨[(4,.pv (aI []))],o7B J W σ now mk mv,[.pv (aI [])],Io (aS rfl) (aO (by kernel_rfl)) rfl rfl,rfl,rfl,rfl,rfl,rfl⟩
theorem mK (J:JD) (hJ:JOk J) (hJ12:∀ l∈J.T,l.length≤12) (W:WD) (σ:Asg ByteArray) (now:List ByteArray) (hn:NowOk J.S.attrs.length σ now) (mk mv:List PV) (a:Nat) (ha:a<J.S.attrs.length) (hσ:σ (a:Int)=none) (hw:bw (RJ J) a≠[]):
  FnO Tryz.prog 100 6 0 [.ptr big 0,.pv (.int .i64 a)] (o6B J W σ now mk mv) (fun v ob'=>v= .pv (aI (bC (RJ J) sdS a σ))∧ob'=ar (o6B J W σ (tst now a (jx J a σ)) mk mv)):=by
 refine FnO.of func100 rfl ntmps100 (by simp) fun m0 w0 F R0=>?_
 have hS:=hJ.s
 have hSr:=hS.r
 obtain ⟨f,rest,hwf⟩:∃ f rest,bw (RJ J) a=f::rest:=by cases h:bw (RJ J) a with | nil=>exact absurd h hw | cons f rest=>exact ⟨f,rest,rfl⟩
 have hcv:=re J a σ hσ hwf (uK hJ f)
 have hcl:jx J a σ=sdS (xf J f a σ):=by unfold jx;rw [hwf]
 have hwm:=kA J a
 have hff:=hwm f (by rw [hwf];simp)
 have hfr:=hff.1
 have hrsl:(bw (RJ J) a).length≤1000:=Nat.le_trans (List.length_filter_le ..) (by simp [RJ];omega)
 have hrs:∀ r∈bw (RJ J) a,r<J.S.rels.length:=fun r hr=>(hwm r hr).1
 have hq0:(aE (bK (bw (RJ J) a)))[0]? =some (.int .i64 (f:Int)):=by rw [hwf];rfl
 have hqn:aE (bK (bw (RJ J) a))≠[]:=by rw [hwf];simp
 have hql:0<(bK (bw (RJ J) a)).length:=by rw [hwf];simp
 have hrne:=ew hfr
 have hra:(bj J.S.rels)[f*2+1]? =some (ak J.S.rels[f].2):=by
  have h2:(((bj J.S.rels).drop (f*2)).take 2)[1]? =[PV.str J.S.rels[f].1,ak J.S.rels[f].2][1]? :=by rw [cW hfr]
  simpa [List.getElem?_take,List.getElem?_drop] using h2
 have hrl:=hS.l _ (List.getElem_mem hfr)
 have hfT:f<J.T.length:=by rw [hJ.n];exact hfr
 have htr:=cD hfT
 have htn:=dN hfT
 have hTl:J.T[f].length≤12:=hJ12 _ (List.getElem_mem hfT)
 have hxv:=hJ.v f hfT hfr
 have hidx:=qb J.S.rels[f].2 a (by omega) (by rw [← show cy J f=J.S.rels[f].2 by simp [cy,List.getD,hfr]];exact hff.2)
 have hat:(J.S.rels[f].2).idxOf (a:Int)<J.S.rels[f].2.length:=List.idxOf_lt_length_of_mem (by rw [← show cy J f=J.S.rels[f].2 by simp [cy,List.getD,hfr]];exact hff.2)
 have hraw:xf J f a σ=(J.T[f].filter fun x=>agr J.S.rels[f].2 σ x.v).map fun x=>x.v.getD ((J.S.rels[f].2).idxOf (a:Int)) eb:=by unfold xf;rw [show cy J f=J.S.rels[f].2 by simp [cy,List.getD,hfr],show dh J f=J.T[f] by simp [dh,List.getD,hfT]]
 have hagr:∀ k (h:k<J.T[f].length),FnO Tryz.prog 102 6 0 [.ptr big 0,.pv (.int .i64 f),.pv (sJ J.T[f][k])] (o6B J W σ now mk mv) (fun v ob'=>v= .pv (.bool (agr J.S.rels[f].2 σ J.T[f][k].v))∧ob'=ar (o6B J W σ now mk mv)):=fun k h=>dV J hJ W σ now hn mk mv f hfr J.T[f][k] (hxv _ (List.getElem_mem h))
 have hdel:=fun (l:List ByteArray) (n:Nat) (h1:l.length=n) (h2:n≤1000)=>qG J hJ W σ now hn mk mv a ha hσ (bw (RJ J) a) hrsl hrs l n h1 h2
 have hdel0:=w8 J W σ now mk mv a (bw (RJ J) a)
 have hwt:=mM J a
 rw [hcl,hcv]
 clear hcl hcv hwm hff hrs hrsl hw hn
 generalize J.T[f]=tf at*
 generalize J.S.rels[f].2=A at*
 generalize hrsg:bw (RJ J) (a:Int)=rs at*
 refine Z3 rfl rfl rfl rfl ?_
 refine Z1 rfl rfl ?_
 refine Im (St.er 2 0 3 1 3 rfl rfl rfl) ?_
 refine Gr rfl ?_
 iterate 10 refine A1 rfl ?_
 refine Gl rfl (st:=fun x_0:Nat×List Nat=>mkS [(2,.ptr 0 0),(3,.ptr 1 0),(5,.ptr 2 0),(22,.pv (.sl none J.S.rels.length (bj J.S.rels))),(23,.pv (.int .i64 J.S.rels.length)),(24,.pv (.int .i64 x_0.1))] [(big,oB W 1000004 1000001 J.S.attrs.length 1000002 1000003),(0,.mix 139 [.ptr big 0]),(1,.mix 3 [.pv (.int .i64 a)]),(2,.mix 22 [.gsl 3 1 x_0.2.length]),(3,.gro 3 (aE (bK x_0.2))),(1000001,.cells 9 (aA now)),(1000002,.cells 4 (ay (stL σ J.S.attrs.length))),(1000003,.mp mk mv),(1000004,oX2 J 1000005),(1000005,.mp J.pk J.pv)] 4)
  (I:=fun x_0=>(x_0.1≤J.S.rels.length∧x_0.2.length≤x_0.1)∧x_0.2=r4 J a x_0.1) (μ:=fun x_0=>J.S.rels.length-x_0.1) (x0:=(0,[])) (Io (aS rfl) (aO (by kernel_rfl)) rfl rfl) (⟨⟨Nat.zero_le _,Nat.le_refl _⟩,rfl⟩) ?_
 rintro ⟨k,q⟩ ⟨⟨hk,hqk⟩,hqe⟩
 try simp only at hk hqk hqe ⊢
 refine Z1 rfl rfl ?_
 refine Gp rfl rfl (fun hc25=>?_) (fun hc25=>?_)
 ·have hlt:k<J.S.rels.length:=by omega
  have hrow:=cW hlt
  have hne:=ew hlt
  have hkl:=hS.l _ (List.getElem_mem hlt)
  have hws:=mD J a hlt
  generalize J.S.rels[k]=rk at*
  refine Il ?_
  refine Z2 rfl rfl rfl ?_
  first | refine A3 rfl (by assumption) ?_ | refine A1 rfl ?_
  refine Y3 rfl rfl rfl ?_
  refine Z3 rfl rfl rfl rfl ?_
  refine Rs 32 rfl rfl (ae call146 (gY rk.2 a (by omega)) rfl) ?_
  refine Gc rfl rfl (fun hc32=>?_) (fun hc32=>?_)
  ·refine Gr rfl ?_
   iterate 5 refine A1 rfl ?_
   refine Z2 rfl rfl rfl ?_
   exact ⟨(k+1,q++[k]),Ip [0,1,2,6] (aT rfl) ⟨by kernel_rfl,by kernel_rfl,by kernel_rfl,Eq.trans (b:=some (.mix 22 [.gsl 6 1 (q.length+1)])) (by kernel_rfl) (congrArg (fun n=>some (Ob.mix 22 [.gsl 6 1 n])) (bW q k)),Eq.trans (b:=some (.gro 3 (aE (bK q)++[.int .i64 k]))) (by kernel_rfl) (congrArg (fun c=>some (Ob.gro 3 c)) (by simp)),by kernel_rfl,by kernel_rfl,by kernel_rfl,by kernel_rfl,by kernel_rfl,trivial⟩ rfl rfl (by decide) rfl,⟨⟨by simp only;omega,by simp only [List.length_append,List.length_singleton];omega⟩,by simp only;rw [hws,if_pos (of_decide_eq_true hc32),hqe]⟩,by simp only;omega⟩
  ·refine Il ?_
   refine Z2 rfl rfl rfl ?_
   exact ⟨(k+1,q),Io (aS rfl) (aO (by kernel_rfl)) rfl rfl,⟨⟨by simp only;omega,by simp only;omega⟩,by simp only;rw [hws,if_neg (of_decide_eq_false hc32),List.append_nil,hqe]⟩,by simp only;omega⟩
 ·have hqrs:q=rs:=by rw [hqe,show k=J.S.rels.length by omega,hwt]
  subst hqrs
  refine Im (Ir 3 rfl rfl) ?_
  refine Im (St.fS 2 rfl rfl) ?_
  refine Im (St.fS 1 rfl rfl) ?_
  refine Im (Io (l:=[(2,.ptr 0 0),(3,.pv (.rp [.int .i64 a] 0)),(5,.pv (.rp [ak (bK q)] 0))]) (os:=(0,.mix 139 [.ptr big 0])::o6B J W σ now mk mv) (k:=1) ⟨by kernel_rfl,by kernel_rfl,Eq.trans (b:= .pv (.rp [.sl none q.length (aE (bK q))] 0)) (by kernel_rfl) (congrArg (fun n=>V.pv (.rp [.sl none n (aE (bK q))] 0)) (show q.length=(bK q).length by simp)),trivial⟩ (aO (by kernel_rfl)) rfl rfl) ?_
  refine Gx rfl ?_
  refine Z1 rfl rfl ?_
  refine Rs 39 rfl rfl (ag 0 underlying22 sz3 rfl rfl rfl hql hqn) ?_
  refine Rs 40 rfl rfl (ai ⟨_,underlying3,rfl⟩ rfl hq0) ?_
  refine A1 rfl ?_
  refine Ge rfl follows [0,1,2,3,4,5,6,7,8,9,10,11,12,13,14] (by kernel_rfl) ?_
  iterate 9 refine D1 rfl rfl ?_
  refine Ds 50 [] rfl rfl rfl (fun τ h=>ag f underlying31 Eu (Ee h 0 rfl rfl) (Ee h 1 rfl rfl) rfl hfr hrne) rfl (by kernel_rfl) ?_
  refine D1 rfl rfl ?_
  refine Ds 52 [] rfl rfl rfl (fun τ h=>ai ⟨_,underlying22,rfl⟩ (Ee h 0 rfl rfl) hra) rfl (by kernel_rfl) ?_
  refine D1 rfl rfl ?_
  refine Ds 54 [] rfl rfl rfl (fun τ h=>ae call147 hidx (h.bt rfl)) rfl (by kernel_rfl) ?_
  refine D1 rfl rfl ?_
  refine ⟨by kernel_rfl,?_⟩
  refine Z1 rfl rfl ?_
  refine Im (Iu 10 1 1 9 rfl rfl) ?_
  refine Gr rfl ?_
  iterate 8 refine A1 rfl ?_
  refine Rs 63 rfl rfl (ag f underlying35 qk rfl rfl rfl hfT htn) ?_
  refine Rs 64 rfl rfl (ai ⟨_,underlying38,rfl⟩ rfl htr) ?_
  refine Y2 rfl rfl ?_
  refine Gl rfl (st:=fun x_1:Nat×List ByteArray=>mkS [(2,.ptr 0 0),(3,.pv (.rp [.int .i64 a] 0)),(5,.pv (.rp [ak (bK q)] 0)),(8,.pv (.int .i64 f)),(9,.pv (.int .i64 ((A.idxOf (a:Int):Nat):Int))),(10,.gsl 1 1 x_1.2.length),(64,.pv (bL tf)),(65,.pv (.int .i64 tf.length)),(66,.pv (.int .i64 x_1.1))] [(big,oB W 1000004 1000001 J.S.attrs.length 1000002 1000003),(0,.mix 139 [.ptr big 0]),(1,.gro 9 (aA x_1.2)),(1000001,.cells 9 (aA now)),(1000002,.cells 4 (ay (stL σ J.S.attrs.length))),(1000003,.mp mk mv),(1000004,oX2 J 1000005),(1000005,.mp J.pk J.pv)] 2)
   (I:=fun x_1=>(x_1.1≤tf.length∧x_1.2.length≤x_1.1)∧x_1.2=((tf.take x_1.1).filter fun x=>agr A σ x.v).map fun x=>x.v.getD (A.idxOf (a:Int)) eb) (μ:=fun x_1=>tf.length-x_1.1) (x0:=(0,[])) (Io (aS rfl) (aO (by kernel_rfl)) rfl rfl) (⟨⟨Nat.zero_le _,Nat.le_refl _⟩,rfl⟩) ?_
  rintro ⟨k2,q2⟩ ⟨⟨hk2,hqk2⟩,hqe2⟩
  try simp only at hk2 hqk2 hqe2 ⊢
  refine Z1 rfl rfl ?_
  refine Gp rfl rfl (fun hc67=>?_) (fun hc67=>?_)
  ·have hlt2:k2<tf.length:=by omega
   have hrw:=aN hlt2
   have hrn:=aW hlt2
   have hga:=hagr k2 hlt2
   have hxl:=hxv _ (List.getElem_mem hlt2)
   have htk2:=List.take_succ_eq_append_getElem hlt2
   generalize tf[k2]=x at*
   have hix:A.idxOf (a:Int)<x.v.length:=by omega
   have hvx:(aA x.v)[A.idxOf (a:Int)*1]? =some (.str (x.v.getD (A.idxOf (a:Int)) eb)):=by simp [List.getD,hix]
   have hxn:=bc hix
   refine Il ?_
   refine Z1 rfl rfl ?_
   first | refine A3 rfl (by assumption) ?_ | refine A1 rfl ?_
   refine Y2 rfl rfl ?_
   refine Ge rfl follows [0,1,2,3,4,5,6,7,8,9,10] (by kernel_rfl) ?_
   iterate 5 refine D1 rfl rfl ?_
   refine Ds 76 [] rfl rfl rfl (fun τ h=>cg (zp:= .str ByteArray.empty) underlying152 underlying3 (.inr (.inr ⟨(Ee h 0 rfl rfl),rfl,rfl⟩)) (Ee h 1 rfl rfl) rfl Ic rfl (r:=none) rfl rfl rfl) rfl (by kernel_rfl) ?_
   iterate 5 refine D1 rfl rfl ?_
   refine ⟨by kernel_rfl,?_⟩
   by_cases hag:agr A σ x.v=true
   ·rw [hag] at hga
    refine Z3 rfl rfl rfl rfl ?_
    refine Rs 82 rfl rfl (ah [big,1000001,1000002,1000003,1000004,1000005] 0 call102 hga rfl rfl rfl rfl ⟨rfl,rfl,rfl,rfl,rfl,rfl,trivial⟩ (by decide) rfl) ?_
    iterate 13 refine A1 rfl ?_
    refine Gc rfl rfl (fun hc95=>?_) (fun hc95=>absurd hc95 (by simp))
    refine Z4 rfl rfl rfl rfl rfl ?_
    refine Rs 100 rfl rfl (ag (A.idxOf (a:Int)) underlying47 sz9 rfl rfl rfl hix hxn) ?_
    refine Rs 101 rfl rfl (ai ⟨_,underlying9,rfl⟩ rfl hvx) ?_
    refine Y3 rfl rfl rfl ?_
    refine Z2 rfl rfl rfl ?_
    exact ⟨(k2+1,q2++[x.v.getD (A.idxOf (a:Int)) eb]),Ip [0,4] ⟨rfl,rfl,rfl,rfl,rfl,congrArg (fun n=>V.gsl 4 1 n) (bW q2 _),rfl,rfl,rfl,trivial⟩ ⟨by kernel_rfl,by kernel_rfl,Eq.trans (b:=some (.gro 9 (aA q2++[.str (x.v.getD (A.idxOf (a:Int)) eb)]))) (by kernel_rfl) (congrArg (fun c=>some (Ob.gro 9 c)) (by simp)),by kernel_rfl,by kernel_rfl,by kernel_rfl,by kernel_rfl,by kernel_rfl,trivial⟩ rfl rfl (by decide) rfl,⟨⟨by simp only;omega,by simp only [List.length_append,List.length_singleton];omega⟩,by simp only;rw [htk2,List.filter_append,List.map_append,hqe2];simp [List.filter_cons,hag]⟩,by simp only;omega⟩
   ·rw [eq_false_of_ne_true hag] at hga
    refine Z3 rfl rfl rfl rfl ?_
    refine Rs 82 rfl rfl (ah [big,1000001,1000002,1000003,1000004,1000005] 0 call102 hga rfl rfl rfl rfl ⟨rfl,rfl,rfl,rfl,rfl,rfl,trivial⟩ (by decide) rfl) ?_
    iterate 13 refine A1 rfl ?_
    refine Gc rfl rfl (fun hc95=>absurd hc95 (by simp)) (fun hc95=>?_)
    refine Il ?_
    refine Z2 rfl rfl rfl ?_
    exact ⟨(k2+1,q2),Io (aS rfl) (aO (by kernel_rfl)) rfl rfl,⟨⟨by simp only;omega,by simp only;omega⟩,by simp only;rw [htk2,List.filter_append,List.map_append,hqe2];simp [List.filter_cons,hag]⟩,by simp only;omega⟩
  ·have hq12:q2.length≤12:=by omega
   rw [show tf.take k2=tf from List.take_of_length_le (by omega)] at hqe2
   have hqr:q2=xf J f a σ:=hqe2.trans hraw.symm
   refine Gx rfl ?_
   by_cases hq2:q2=[]
   ·subst hq2
    refine Im (St.rB 10 rfl) ?_
    refine Z1 rfl rfl ?_
    refine Rs 106 rfl rfl (ae call148 lT rfl) ?_
    refine Z1 rfl rfl ?_
    refine Rs 108 rfl rfl (ae call149 gD rfl) ?_
    refine A1 rfl ?_
    refine Z2 rfl rfl rfl ?_
    refine Rs 111 rfl rfl (ah [0,big,1000001,1000002,1000003,1000004,1000005] 0 call150 hdel0 rfl rfl rfl rfl ⟨by kernel_rfl,by kernel_rfl,by kernel_rfl,by kernel_rfl,by kernel_rfl,by kernel_rfl,by kernel_rfl,trivial⟩ (by decide) rfl) ?_
    refine A1 rfl ?_
    refine Gt rfl ?_
    exact ⟨[(4,.pv (aI []))],o6B J W σ now mk mv,[.pv (aI [])],Io (aS rfl) (aO (by kernel_rfl)) rfl rfl,rfl,rfl,rfl,by rw [← hqr,nG];rfl,by rw [← hqr,nG];rfl⟩
   ·refine Im (St.ku 10 rfl rfl (List.length_pos_iff.2 hq2) (by simpa using hq2)) ?_
    have hsort:=mX q2 q2.length rfl hq12
    have hcmp:=jh (cR q2) q2.length (cY q2).length_eq (by omega)
    have hcl2:=jX (cR q2)
    have hsl2:=(cY q2).length_eq
    have hdl:=hdel (bD (cR q2)) (bD (cR q2)).length rfl (by omega)
    refine Z1 rfl rfl ?_
    refine Rs 106 rfl rfl (ah [1] 0 call148 hsort rfl rfl rfl rfl ⟨rfl,trivial⟩ (by decide) rfl) ?_
    refine Z1 rfl rfl ?_
    refine Rs 108 rfl rfl (ah [1] 0 call149 hcmp rfl rfl rfl rfl ⟨rfl,trivial⟩ (by decide) rfl) ?_
    refine A1 rfl ?_
    refine Im (Io (l:=[(2,.ptr 0 0),(3,.pv (.rp [.int .i64 a] 0)),(5,.pv (.rp [ak (bK q)] 0)),(10,.osl 1 1 (bD (cR q2)).length)]) (os:=(1,cB (bD (cR q2)))::(0,.mix 139 [.ptr big 0])::o6B J W σ now mk mv) (k:=2) (aS (by kernel_rfl)) (aO (by kernel_rfl)) rfl rfl) ?_
    refine Z2 rfl rfl rfl ?_
    refine Rs 111 rfl rfl (ah [1,0,big,1000001,1000002,1000003,1000004,1000005] 0 call150 hdl rfl rfl rfl rfl ⟨by kernel_rfl,by kernel_rfl,by kernel_rfl,by kernel_rfl,by kernel_rfl,by kernel_rfl,by kernel_rfl,by kernel_rfl,trivial⟩ (by decide) rfl) ?_
    refine A1 rfl ?_
    refine Im (Ir 1 rfl rfl) ?_
    refine Im (St.uQ [4]) ?_
    refine Gt rfl ?_
    exact ⟨[(4,.pv (aI ((bD (cR q2)).filter fun x=> !dS J q σ a x)))],o6B J W σ (tst now a (bD (cR q2))) mk mv,[.pv (aI ((bD (cR q2)).filter fun x=> !dS J q σ a x))],Io (aS (by kernel_rfl)) (aO (by kernel_rfl)) rfl rfl,rfl,rfl,rfl,by rw [← hqr];rfl,by rw [← hqr];rfl⟩
end
section
section
variable {C:Ctx} {n:Nat} {σ:St} {dst:Option Tmp} {ty t t':TypeId} {ts:Array TypeId} {pos:String} {after:Array Edge} {gd:Option (Nat×Bool)} {x y:Operand}
theorem wR {e:TypeId} (hu:C.P.underlying t=some (.pointer e)) (hx:σ.ev n x= .pv .nilptr):
  XJ C n ⟨dst,.binOp .eql t x (.const (.pointer none)) t',ty,pos,after,gd⟩ σ ⟨.pv (.bool true),[],[]⟩:=
 .val fun a w m R hw=>by
  have h:=hw.pv hx
  simp only [RelP] at h
  have hc:a.eval (.const (.pointer none))= .pointer none:=rfl
  have hu':C.P.underlying t=some (.pointer (C.P.pointee t)):=by simp [Program.pointee,hu]
  exact ⟨.bool true,by simp [execOp,h,eqGuard,hc,run_eql_pointer_nil _ _ _ hu'],by simp only [Rel,RelP]⟩
theorem vC {e:TypeId} {id off:Nat} {o:Ob} (hu:C.P.underlying t=some (.pointer e)) (hx:σ.ev n x= .ptr id off) (ho:σ.ob id=some o) (hre:o.real=true:=by rfl):
  XJ C n ⟨dst,.binOp .eql t x (.const (.pointer none)) t',ty,pos,after,gd⟩ σ ⟨.pv (.bool false),[],[]⟩:=
 .val fun a w m R hw=>by
  obtain ⟨b,N,h,_⟩:=hw.ptr hx ho hre
  have hc:a.eval (.const (.pointer none))= .pointer none:=rfl
  have hu':C.P.underlying t=some (.pointer (C.P.pointee t)):=by simp [Program.pointee,hu]
  exact ⟨.bool false,by simp [execOp,h,eqGuard,hc,run_eql_pointer_nil _ _ _ hu'],by simp only [Rel,RelP]⟩
theorem wF {e:TypeId} {j:TypeInfo} {id off:Nat} {o:Ob} (hu:C.P.underlying t=some (.pointer e)) (hj:C.P.info? e=some j) (hx:σ.ev n x= .ptr id off) (hy:σ.ev n y= .ptr id off) (ho:σ.ob id=some o) (hre:o.real=true:=by rfl):
  XJ C n ⟨dst,.binOp .neq t x y t',ty,pos,after,gd⟩ σ ⟨.pv (.bool false),[],[]⟩:=
 .val fun a w m R hw=>by
  obtain ⟨b,N,h,hm,_⟩:=hw.ptr hx ho hre
  obtain ⟨b2,N2,h2,hm2,_⟩:=hw.ptr hy ho hre
  rw [hm] at hm2
  cases hm2
  exact ⟨.bool false,by simp [execOp,h,h2,eqGuard,Lib.run_neq_ptr_same _ _ hu hj],by simp only [Rel,RelP]⟩
theorem zH {P:Program} {T:TypeId} {N d s:Nat} (hd:P.depth=d+1) (hs:P.cellsOf T=s) (h0:s≠0) (hN:s≤N):liesAt P P.depth T (N/P.cellsOf T) 0 T 1=true:=by
 have h1:0<N/s:=Nat.div_pos hN (by omega)
 have hsame:sameLayout P P.depth T T=true:=by rw [hd];unfold sameLayout;simp
 have hrow:rowAt P (sameLayout P P.depth · T) P.depth T (N/P.cellsOf T) 0 1=true:=by
  rw [show P.depth=d+1 from hd]
  unfold rowAt
  rw [hs,if_neg h0]
  have hs2:sameLayout P (d+1) T T=true:=by rw [← hd];exact hsame
  simp only [Nat.zero_div,Nat.zero_mod,Nat.zero_add,hs2,Bool.and_true,beq_self_eq_true,Bool.true_and]
  rw [decide_eq_true (show 1≤N/s from h1)]
  rfl
 rw [hd]
 unfold liesAt
 rw [hrow]
 rfl
theorem CI {e T:TypeId} {j:TypeInfo} {s d:TypeId} {id:Nat} {cs:List V} (hs:C.P.underlying s=some (.pointer e)) (hd:C.P.underlying d=some .unsafePointer) (hj:C.P.info? e=some j) (hj0:j.size≠0) (hx:σ.ev n x= .ptr id 0) (ho:σ.ob id=some (.mix T cs)) (hl:cs≠[]):
  XJ C n ⟨dst,.convert s d x,ty,pos,after,gd⟩ σ ⟨.ptr id 0,[],[]⟩:=
 .val fun a w m R hw=>by
  obtain ⟨b,N,h,hm,arr,hb,hsz,hle,_⟩:=hw.ptr hx ho
  have hev:=hw.ev x
  rw [hx] at hev
  have hpos:0<cs.length:=List.length_pos_iff.2 hl
  have hsh:w.shape? b=some (T,arr.size):=by simp [World.shape?,hb]
  refine ⟨a.eval x,?_,hev⟩
  simp only [execOp,h,Sem.run_bind,Lib.run_to_unsafe w ⟨b,0,none⟩ hs hd hj hj0 hsh (show 0<arr.size by omega),Result.andThen_ok]
  rfl
theorem Cx {T:TypeId} {j:TypeInfo} {s d:TypeId} {id dp:Nat} {cs:List V} (hs:C.P.underlying s=some .unsafePointer) (hd:C.P.underlying d=some (.pointer T)) (hj:C.P.info? T=some j) (hdp:C.P.depth=dp+1) (hc:C.P.cellsOf T=cs.length) (hx:σ.ev n x= .ptr id 0) (ho:σ.ob id=some (.mix T cs)) (hl:cs≠[]):
  XJ C n ⟨dst,.convert s d x,ty,pos,after,gd⟩ σ ⟨.ptr id 0,[],[]⟩:=
 .val fun a w m R hw=>by
  obtain ⟨b,N,h,hm,arr,hb,hsz,hle,_⟩:=hw.ptr hx ho
  have hev:=hw.ev x
  rw [hx] at hev
  have hpos:0<cs.length:=List.length_pos_iff.2 hl
  have hsh:w.shape? b=some (T,arr.size):=by simp [World.shape?,hb]
  refine ⟨a.eval x,?_,hev⟩
  simp only [execOp,h,Sem.run_bind,Lib.run_from_unsafe w ⟨b,0,none⟩ hs hd hj hsh (zH hdp hc (by omega) (by omega)),Result.andThen_ok]
  rfl
theorem Cg {f:FuncId} {fn:Func} {v:V} (hf:C.P.funcs[f]? =some fn) (hname:(fn.name== "runtime.NumGoroutine")=false) (hb:fn.body.isNone=true) (hn:Extern.findNext fn=none) (he:Extern.find fn=some Extern.AbiNoEscape.same) (hx:σ.ev n x=v):
  XJ C n ⟨dst,.call { callee:= .value (.func f),args:= #[x],argTypes:=ts },ty,pos,after,gd⟩ σ ⟨v,[],[]⟩:=
 .val fun a w m R hw=>by
  have hev:=hw.ev x
  rw [hx] at hev
  refine ⟨a.eval x,?_,hev⟩
  have hr:=run_callFunc_extern hf hname hb hn he #[a.eval x] w
  rw [Lib.run_noEscape] at hr
  simp only [Result.andThen_ok] at hr
  have hc:a.eval (.func f)= .func (.func f) #[] #[]:=rfl
  simp [execOp,resolve,Deferred.ofValue,invoke,hc,hr]
theorem FL {P:Program} (w:World) (t u ty e:TypeId) (i:TypeInfo) (ht:P.underlying t=some (.slice e)) (hu:P.underlying u=some .string) (hi:P.info? e=some i) (hz:i.zero=some (.int .u8 0)) (hs1:i.size=1) (hby:i.bytes=1)
  (g cap k:Nat) (cur:Array Value) (hg:w.heap[g]? =some (.cells cur e (0,0))) (hkc:k≤cap) (hcm:cap≤maxLen) (hcs:cur.size=cap) (s:ByteArray) (hb:k+s.size≤1000000000):
  ∃ g' c' w',(Builtin.append_ #[t,u] ty #[.slice (some ⟨g,0,none⟩) k cap,.string s]).run P w= .ok (.slice (some ⟨g',0,none⟩) (k+s.size) c') w'∧w.grownBy w' (some g)∧(g'=g∨g'=w.heap.size)∧
   k+s.size≤c'∧c'≤maxLen∧∃ cur',w'.heap[g']? =some (.cells cur' e (0,0))∧cur'.size=c'∧cur'.toList.take (k+s.size)=cur.toList.take k++Lib.strCells s:=by
 have hl:(cur.toList.take k++Lib.strCells s).length=k+s.size:=by
  rw [List.length_append,Lib.strCells_length,List.length_take,Array.length_toList];omega
 by_cases hroom:k+s.size≤cap
 ·refine ⟨g,cap,_,Lib.run_append_room_string (P:=P) w t u ty e i ht hu hi hs1 g k cap cur hg s hroom (by omega),⟨rfl,rfl,rfl,by simp,fun q _ hq=>setRow_other w g q _ (fun e=>hq (by rw [e]))⟩,.inl rfl,hroom,hcm,_,setRow_heap w g cur _ e _ hg,?_,?_⟩
  ·simp only [List.size_toArray,List.length_append,List.length_take,List.length_drop,Array.length_toList,Lib.strCells_length];omega
  ·simp only []
   rw [show k+s.size=(cur.toList.take k++Lib.strCells s).length from hl.symm]
   exact List.take_left
 ·have holds:∀ j u,(cur.toList.take k)[j]? =some u→w.cell? ((⟨g,0,none⟩:Addr).add j)=some u:=fun j u hj=>by
   rw [Addr.add_lit]
   simp only [Nat.zero_add]
   rw [cell_of_row w g j cur e (0,0) hg, ← hj,List.getElem?_take]
   have hjl:j<(cur.toList.take k).length:=by
    rcases Nat.lt_or_ge j (cur.toList.take k).length with h | h
    ·exact h
    ·rw [List.getElem?_eq_none h] at hj;cases hj
   rw [List.length_take] at hjl
   rw [if_pos (by omega)]
   simp
  have h63:k+s.size≤maxLen:=by simp only [maxLen];omega
  refine ⟨w.heap.size,_,_,Lib.run_append_grow_string (P:=P) w t u ty e i (.int .u8 0) ht hu hi hz ⟨g,0,none⟩ k cap (cur.toList.take k) (by rw [hs1,List.length_take,Array.length_toList];omega) holds s (by omega) (by omega) (by rw [hby];exact growslice_fits (by omega) (by omega)),
   ⟨rfl,rfl,rfl,by simp,fun q hq _=>heap_alloc_old w.drew _ hq⟩,.inr rfl,grownCap_ge w (k+s.size) cap e,grownCap_le_maxLen w (k+s.size) cap e h63,_,heap_alloc_new w.drew _,?_,?_⟩
  ·have hge:=grownCap_ge w (k+s.size) cap e
   have hz1:(Value.int IntKind.u8 0).cells.size=1:=rfl
   simp only [Array.size_append,List.size_toArray,size_zeroCells,hz1,Lib.strCells_length,List.length_take,Array.length_toList]
   omega
  ·simp only [Array.toList_append]
   rw [show k+s.size=(cur.toList.take k++Lib.strCells s).length from hl.symm]
   exact List.take_left
theorem jj {w:World} {R:Nat→Prop} (s:ByteArray):RelPL w R (az s.data.toList) (Lib.strCells s):=by
 unfold az Lib.strCells
 induction s.data.toList with
 | nil=>simp [RelPL]
 | cons a l ih=>exact RelPL.cons (by simp only [RelP]) ih
theorem r6 {e:TypeId} {k id:Nat} {cs:List PV} {s:ByteArray} (id':Nat) (he:ElemIs C.P t e (.int .u8 0) 1 1) (hu:C.P.underlying t'=some .string) (hs:σ.ev n x= .gsl id 1 k) (ho:σ.ob id=some (.gro e cs)) (hcs:cs.length=k)
  (hy:σ.ev n y= .pv (.str s)) (hb:k+s.size≤1000000000) (hk0:0<k) (hid:σ.av id'=true):
  XJ C n ⟨dst,.call { callee:= .builtin .append,args:= #[x,y],argTypes:= #[t,t'] },ty,pos,after,gd⟩ σ ⟨.gsl id' 1 (k+s.size),[(id',some (.gro e (cs++az s.data.toList))),(id,none)],[id']⟩:=by
 rintro a w Q ⟨m,R,hw⟩
 obtain ⟨A0,c,hev,hkc,hcm,hz,hp⟩:=hw.gsl hs
 have hcne:cs≠[]:=fun e=>by rw [e] at hcs;simp at hcs;omega
 have hne:cs++az s.data.toList≠[]:=fun e=>hcne (List.append_eq_nil_iff.1 e).1
 have sub:∀ i x,upd m id none i=some x→m i=some x∧i≠id:=fun i x e=>by
  by_cases hi:i=id
  ·subst hi;rw [au] at e;cases e
  ·rw [aG _ _ hi] at e;exact ⟨e,hi⟩
 obtain ⟨b,N,hm,arr,hbk,hsz,hle,hr⟩:=hw.live ho (bQ hcne)
 obtain ⟨rfl,hN⟩:=hp hk0 b N hm
 obtain ⟨i,hi,hzz,hsize,hbytes⟩:=info_parts he.info
 have own:=hw.hr.own id b N hm
 have hsv:a.eval y= .string s:=hw.str hy
 obtain ⟨g,c',w',hrun,hgr,hat,hkc',hcm',cur',hg,hcs',htk⟩:=FL (P:=C.P) w t t' ty e i he.u hu hi hzz hsize hbytes b c k arr hbk hkc hcm (by omega) s hb
 have hrel:RelPL w R (cs++az s.data.toList) (arr.toList.take k++Lib.strCells s):=by
  rw [hcs] at hr
  exact hr.append (jj s)
 have gprop:¬ R g∧(∀ i b' N',upd m id none i=some (b',N')→b'≠g)∧(C.F g∨C.w0.heap.size≤g):=by
  rcases hat with h | h
  ·rw [h]
   exact ⟨own.2.1,fun i b' N' hi e=>(sub i _ hi).2 (xx hw (sub i _ hi).1 hm e),own.2.2⟩
  ·refine ⟨fun hh=>?_,fun i b' N' hi e=>?_,.inr ?_⟩
   ·have:=hw.hr.rsz _ hh;omega
   ·have:=(hw.hr.own i b' N' (sub i _ hi).1).1;omega
   ·have:=hw.hr.frame.size;omega
 have bprop:¬ R b∧(∀ i b' N',upd m id none i=some (b',N')→b'≠b)∧(C.F b∨C.w0.heap.size≤b):=
  ⟨own.2.1,fun i b' N' hi e=>(sub i _ hi).2 (xx hw (sub i _ hi).1 hm e),own.2.2⟩
 unfold Oper.wp
 have hexec:(execOp a.eval ⟨dst,.call { callee:= .builtin .append,args:= #[x,y],argTypes:= #[t,t'] },ty,pos,after,gd⟩).run C.P w= .ok (.value (.slice (some ⟨g,0,none⟩) (k+s.size) c')) w':=by
  unfold execOp
  simp only [resolve,invoke,builtin,Sem.run_bind,Sem.run_pure,Result.andThen_ok,List.map_toArray,List.map_cons,List.map_nil,hev,hsv,hrun]
 rw [hexec]
 have hul:(arr.toList.take k++Lib.strCells s).length=k+s.size:=by
  rw [List.length_append,Lib.strCells_length,List.length_take,Array.length_toList];omega
 have hcl:(cs++az s.data.toList).length=k+s.size:=by rw [← hrel.length,hul]
 refine ⟨_,rfl,upd (upd m id none) id' (some (g,cur'.size)),R,?_⟩
 rw [Iw]
 refine SW.put ((hw.drop id).fresh hid hg hgr (fun q hq=>by simp at hq;subst hq;exact bprop) gprop.1 gprop.2.1 gprop.2.2 (.gro e (cs++az s.data.toList)) ?_ (bQ hne)) dst ?_
 ·intro m' av' hR _ _
  refine ⟨cur',hg,rfl,by rw [hcl,hcs'];exact hkc',?_⟩
  rw [hcl,htk]
  exact hrel.mono hR
 ·simp only [Rel]
  refine ⟨by simp [avL],_,c',rfl,hkc',hcm',fun h=>by omega,fun _ b' N' e'=>?_⟩
  rw [au] at e'
  cases e'
  exact ⟨rfl,by rw [hcs',Nat.mul_one]⟩
theorem D8 {id sz k:Nat} {o:Ob} (hx:σ.ev n x= .gsl id sz k) (ho:σ.ob id=some o) (hk:0<k) (hre:o.real=true):
  XJ C n ⟨dst,.call { callee:= .builtin .unsafeSliceData,args:= #[x],argTypes:=ts },ty,pos,after,gd⟩ σ ⟨.ptr id 0,[],[]⟩:=
 .val fun a w m R hw=>by
  obtain ⟨A,c,he,hkc,_,_,hp⟩:=hw.gsl hx
  obtain ⟨b,N,hm,_⟩:=hw.live ho hre
  obtain ⟨rfl,_⟩:=hp hk b N hm
  have hav:=hw.ev x
  rw [hx] at hav
  simp only [Rel] at hav
  refine ⟨.pointer (some ⟨b,0,none⟩),?_,?_⟩
  ·simp only [execOp,resolve,invoke,builtin,Sem.run_bind,Sem.run_pure,Result.andThen_ok,List.map_toArray,List.map_cons,List.map_nil,he,Lib.run_unsafeSliceData_row w ts ty ⟨b,0,none⟩ k c (by omega)]
  ·simp only [Rel]
   refine ⟨hav.1,fun b' N' e=>?_⟩
   rw [hm] at e;cases e;rfl
theorem rO {h:Array Obj} {b:Nat} {x:Obj} (f:Obj→Obj) (hb:h[b]? =some x) (hf:f x=x):h.modify b f=h:=by
 apply Array.ext_getElem?
 intro i
 rw [Array.getElem?_modify]
 split
 ·next e=>subst e;rw [hb];simp [hf]
 ·rfl
theorem yJ {w:World} {b k:Nat} {arr:Array Value} {e:TypeId} (hb:w.heap[b]? =some (.cells arr e (0,k))) (hk:k≠0):w.freeze ⟨b,0,none⟩ k=w:=by
 unfold World.freeze
 rw [if_neg hk,rO _ hb (by
  have:(0==k)=false:=by simpa using fun e:0=k=>hk e.symm
  simp [this])]
theorem DS {w:World} {b k:Nat} {arr:Array Value} {e:TypeId} (hb:w.heap[b]? =some (.cells arr e (0,0))) (hk:k≠0):(w.freeze ⟨b,0,none⟩ k).heap[b]? =some (.cells arr e (0,k)):=by
 unfold World.freeze
 rw [if_neg hk]
 simp only []
 rw [Array.getElem?_modify,if_pos rfl,hb]
 simp
theorem xQ {w:World} {b k q:Nat} (h:q≠b):(w.freeze ⟨b,0,none⟩ k).heap[q]? =w.heap[q]? :=by
 unfold World.freeze
 split
 ·rfl
 ·simp only []
  rw [Array.getElem?_modify,if_neg (fun e=>h e.symm)]
theorem DV (w:World) (a:Addr) (k:Nat):(w.freeze a k).heap.size=w.heap.size∧(w.freeze a k).os=w.os∧(w.freeze a k).tape=w.tape∧(w.freeze a k).output=w.output:=by
 unfold World.freeze
 split
 ·exact ⟨rfl,rfl,rfl,rfl⟩
 ·exact ⟨by simp,rfl,rfl,rfl⟩
theorem wI {w:World} {R:Nat→Prop} {l:List UInt8} {us:List Value} (h:RelPL w R (az l) us):us=l.map fun c=> .int .u8 c.toNat:=by
 induction l generalizing us with
 | nil=>simp [az,RelPL] at h;simp [h]
 | cons c l ih=>
   simp only [az,List.map_cons,RelPL,RelP] at h
   obtain ⟨u,vs,rfl,rfl,h2⟩:=h
   rw [List.map_cons, ← ih h2]
theorem BW {e it:TypeId} {id:Nat} {l:List UInt8} (hp:C.P.underlying t=some (.pointer e)) (hc:C.P.cellsOf e=1) (hx:σ.ev n x= .ptr id 0) (ho:σ.ob id=some (.gro e (az l))) (hy:σ.ev n y= .pv (.int .i64 l.length)) (h0:l≠[]) (hb:l.length≤1000000000):
  XJ C n ⟨dst,.call { callee:= .builtin .unsafeString,args:= #[x,y],argTypes:= #[t,it] },ty,pos,after,gd⟩ σ ⟨.pv (.str ⟨l.toArray⟩),[(id,some (.fro e ⟨l.toArray⟩))],[]⟩:=by
 rintro a w Q ⟨m,R,hw⟩
 have hbn:az l≠[]:=by simpa [az] using h0
 obtain ⟨b,N,he,hm,arr,hbk,hsz,hle,hr⟩:=hw.ptr hx ho (bQ hbn)
 have hbl:(az l).length=l.length:=by simp [az]
 rw [hbl] at hle hr
 have htk:=wI hr
 have hyv:a.eval y= .int .i64 l.length:=hw.int hy
 have hl0:l.length≠0:=by simpa using h0
 have hcell:∀ j z,l[j]? =some z→w.cell? ((⟨b,0,none⟩:Addr).add j)=some (.int .u8 z.toNat):=fun j z hj=>by
  rw [Addr.add_lit]
  simp only [Nat.zero_add]
  have h2:(arr.toList.take l.length)[j]? =some (.int .u8 z.toNat):=by rw [htk,List.getElem?_map,hj];rfl
  have hjl:j<l.length:=(List.getElem?_eq_some_iff.1 hj).1
  rw [cell_of_row w b j arr e (0,0) hbk, ← h2,List.getElem?_take,if_pos hjl]
  simp
 have hus:=Lib.run_unsafeString_row (P:=C.P) w t it ty e hp hc b arr.size (by simp [World.shape?,hbk]) l h0 (by omega) (by omega) hcell
 unfold Oper.wp
 have hexec:(execOp a.eval ⟨dst,.call { callee:= .builtin .unsafeString,args:= #[x,y],argTypes:= #[t,it] },ty,pos,after,gd⟩).run C.P w= .ok (.value (.string ⟨l.toArray⟩)) (w.freeze ⟨b,0,none⟩ l.length):=by
  unfold execOp
  simp only [resolve,invoke,builtin,Sem.run_bind,Sem.run_pure,Result.andThen_ok,List.map_toArray,List.map_cons,List.map_nil,he,hyv,hus]
 rw [hexec]
 obtain ⟨q1,q2,q3,q4⟩:=DV w ⟨b,0,none⟩ l.length
 refine ⟨_,rfl,m,R,?_⟩
 rw [Iw]
 refine SW.put (hw.turn hm (w.freeze ⟨b,0,none⟩ l.length) q1 (fun k hk=>xQ hk) q2 q3 q4 (.fro e ⟨l.toArray⟩) fun hR=>?_) dst ?_
 ·refine ⟨arr,?_,hsz,?_,?_⟩
  ·rw [DS hbk hl0];rfl
  ·show l.toArray.size≤N
   simp;omega
  ·show arr.toList.take l.toArray.size=_
   simp [htk]
 ·simp only [Rel,RelP]
theorem CY {e it:TypeId} {id:Nat} {s:ByteArray} {k:Int} (hp:C.P.underlying t=some (.pointer e)) (hc:C.P.cellsOf e=1) (hx:σ.ev n x= .ptr id 0) (ho:σ.ob id=some (.fro e s)) (hy:σ.ev n y= .pv (.int .i64 k)) (hk:k=s.data.toList.length) (h0:s.data.toList≠[]) (hb:s.data.toList.length≤1000000000):
  XJ C n ⟨dst,.call { callee:= .builtin .unsafeString,args:= #[x,y],argTypes:= #[t,it] },ty,pos,after,gd⟩ σ ⟨.pv (.str s),[],[]⟩:=
 .val fun a w m R hw=>by
  subst hk
  obtain ⟨b,N,he,hm,arr,hbk,hsz,hle,htk⟩:=hw.ptr hx ho
  have hss:s.size=s.data.toList.length:=by rw [Array.length_toList];rfl
  have hyv:a.eval y= .int .i64 s.data.toList.length:=hw.int hy
  have hl0:s.data.toList.length≠0:=fun e=>h0 (List.length_eq_zero_iff.1 e)
  have hcell:∀ j z,s.data.toList[j]? =some z→w.cell? ((⟨b,0,none⟩:Addr).add j)=some (.int .u8 z.toNat):=fun j z hj=>by
   rw [Addr.add_lit]
   simp only [Nat.zero_add]
   have h2:(arr.toList.take s.size)[j]? =some (.int .u8 z.toNat):=by rw [htk,List.getElem?_map,hj];rfl
   have hjl:j<s.data.toList.length:=(List.getElem?_eq_some_iff.1 hj).1
   rw [cell_of_row w b j arr e (0,s.size) hbk, ← h2,List.getElem?_take,if_pos (by omega)]
   simp
  have hus:=Lib.run_unsafeString_row (P:=C.P) w t it ty e hp hc b arr.size (by simp [World.shape?,hbk]) s.data.toList h0 (by omega) (by omega) hcell
  rw [yJ (by rw [← hss];exact hbk) hl0] at hus
  refine ⟨.string s,?_,by simp only [Rel,RelP]⟩
  unfold execOp
  simp only [resolve,invoke,builtin,Sem.run_bind,Sem.run_pure,Result.andThen_ok,List.map_toArray,List.map_cons,List.map_nil,he,hyv,hus]
end
end
section
set_option maxHeartbeats 4000000
theorem tD:∃ j,Tryz.prog.info? 165=some j∧j.size≠0:=by
 obtain ⟨j,hj,hs⟩:=Option.map_eq_some_iff.1 (show (Tryz.prog.info? 165).map (·.size)=some 2 by kernel_rfl)
 exact ⟨j,hj,by rw [hs];decide⟩
theorem u7 (k:Nat) (cs:List PV):FnO Tryz.prog 165 2 0 [.ptr big 0] [(big,.mix 165 [.pv .nilptr,.gsl 1000001 1 k]),(1000001,.gro 5 cs)] (fun v ob'=>v= .tup []∧ob'=ar [(big,.mix 165 [.ptr big 0,.gsl 1000001 1 k]),(1000001,.gro 5 cs)]):=by
 refine FnO.of func165 rfl ntmps165 (by simp) fun m0 w0 F R0=>?_
 obtain ⟨j,hj,hj0⟩:=tD
 refine Z4 rfl rfl rfl rfl rfl ?_
 refine Rs 6 rfl rfl (wR underlying162 rfl) ?_
 refine Gc rfl rfl (fun hc6=>?_) (fun hc6=>absurd hc6 (by simp))
 refine Z2 rfl rfl rfl ?_
 refine Rs 9 rfl rfl (CI underlying162 underlying252 hj hj0 rfl rfl (by simp)) ?_
 refine Rs 10 rfl rfl (Cg func202 (by kernel_rfl) (by kernel_rfl) (by kernel_rfl) (by kernel_rfl) rfl) ?_
 refine Rs 11 rfl rfl (Cx (dp:=_) underlying252 underlying162 hj rfl (by kernel_rfl) rfl rfl (by simp)) ?_
 refine Y3 rfl rfl rfl ?_
 exact ⟨[],[(big,.mix 165 [.ptr big 0,.gsl 1000001 1 k]),(1000001,.gro 5 cs)],[],Io trivial (aO rfl) rfl rfl,rfl,rfl,rfl,rfl,rfl⟩
theorem B7 (k:Nat) (cs:List PV):FnO Tryz.prog 165 2 0 [.ptr big 0] [(big,.mix 165 [.ptr big 0,.gsl 1000001 1 k]),(1000001,.gro 5 cs)] (fun v ob'=>v= .tup []∧ob'=ar [(big,.mix 165 [.ptr big 0,.gsl 1000001 1 k]),(1000001,.gro 5 cs)]):=by
 refine FnO.of func165 rfl ntmps165 (by simp) fun m0 w0 F R0=>?_
 obtain ⟨j,hj,hj0⟩:=tD
 refine Z4 rfl rfl rfl rfl rfl ?_
 refine Rs 6 rfl rfl (vC underlying162 rfl rfl) ?_
 refine Gc rfl rfl (fun hc6=>absurd hc6 (by simp)) (fun hc6=>?_)
 refine Gr rfl ?_
 iterate 5 refine A1 rfl ?_
 refine Rs 19 rfl rfl (wF underlying162 hj rfl rfl rfl) ?_
 refine Gc rfl rfl (fun hc19=>absurd hc19 (by simp)) (fun hc19=>?_)
 refine Il ?_
 exact ⟨[],[(big,.mix 165 [.ptr big 0,.gsl 1000001 1 k]),(1000001,.gro 5 cs)],[],Io trivial (aO rfl) rfl rfl,rfl,rfl,rfl,rfl,rfl⟩
theorem mS (c:UInt8):FnO Tryz.prog 192 2 2 [.ptr big 0,.pv (.int .u8 (c.toNat:Int))] [(big,.mix 165 [.pv .nilptr,.gsl 1000001 1 0]),(1000001,.gro 5 [])] (fun v ob'=>v= .pv .niliface∧ob'=ar [(big,.mix 165 [.ptr big 0,.gsl 1 1 1]),(1,.gro 5 (az [c]))]):=by
 refine FnO.of func192 rfl ntmps192 (by simp) fun m0 w0 F R0=>?_
 have hcc:=u7 0 []
 refine Z1 rfl rfl ?_
 refine Z1 rfl rfl ?_
 refine Rs 6 rfl rfl (ah [big,1000001] 0 call165 hcc rfl rfl rfl rfl ⟨rfl,rfl,trivial⟩ (by decide) rfl) ?_
 refine Gr rfl ?_
 iterate 11 refine A1 rfl ?_
 refine Z1 rfl rfl ?_
 refine Gt rfl ?_
 exact ⟨[(4,.pv .niliface)],[(big,.mix 165 [.ptr big 0,.gsl 1 1 1]),(1,.gro 5 (az [c]))],[.pv .niliface],Io (aS rfl) (aO (by kernel_rfl)) rfl rfl,rfl,rfl,rfl,rfl,rfl⟩
theorem qm (l:List UInt8) (s:ByteArray) (h0:l≠[]) (hb:l.length+s.size≤1000000000):FnO Tryz.prog 105 2 1 [.ptr big 0,.pv (.str s)] [(big,.mix 165 [.ptr big 0,.gsl 1000001 1 l.length]),(1000001,.gro 5 (az l))] (fun v ob'=>v= .tup [.pv (.int .i64 s.size),.pv .niliface]∧ob'=ar [(big,.mix 165 [.ptr big 0,.gsl 0 1 (l++s.data.toList).length]),(0,.gro 5 (az (l++s.data.toList)))]):=by
 refine FnO.of func105 rfl ntmps105 (by simp) fun m0 w0 F R0=>?_
 have hcc:=B7 l.length (az l)
 have hlb:(az l).length=l.length:=by simp [az]
 have hlp:=List.length_pos_iff.2 h0
 have hll:(l++s.data.toList).length=l.length+s.size:=by rw [List.length_append,Array.length_toList];rfl
 have hbb:az (l++s.data.toList)=az l++az s.data.toList:=by simp [az]
 refine Z2 rfl rfl rfl ?_
 refine Z1 rfl rfl ?_
 refine Rs 7 rfl rfl (ah [big,1000001] 0 call165 hcc rfl rfl rfl rfl ⟨rfl,rfl,trivial⟩ (by decide) rfl) ?_
 refine Gr rfl ?_
 iterate 6 refine A1 rfl ?_
 refine Rs 14 rfl rfl (r6 0 F4 underlying9 rfl rfl hlb rfl hb hlp rfl) ?_
 refine Y3 rfl rfl rfl ?_
 refine Z4 rfl rfl rfl rfl rfl ?_
 refine Gt rfl ?_
 exact ⟨[(4,.pv (.int .i64 s.size)),(5,.pv .niliface)],[(big,.mix 165 [.ptr big 0,.gsl 0 1 (l.length+s.size)]),(0,.gro 5 (az l++az s.data.toList))],[.pv (.int .i64 s.size),.pv .niliface],Io (aS rfl) (aO (by kernel_rfl)) rfl rfl,rfl,rfl,rfl,rfl,by rw [hll,hbb]⟩
theorem j8 (l:List UInt8) (h0:l≠[]) (hb:l.length≤1000000000):FnO Tryz.prog 108 2 0 [.ptr big 0] [(big,.mix 165 [.ptr big 0,.gsl 1000001 1 l.length]),(1000001,.gro 5 (az l))] (fun v ob'=>v= .pv (.str ⟨l.toArray⟩)∧ob'=ar [(big,.mix 165 [.ptr big 0,.gsl 1000001 1 l.length]),(1000001,.fro 5 ⟨l.toArray⟩)]):=by
 refine FnO.of func108 rfl ntmps108 (by simp) fun m0 w0 F R0=>?_
 have hlp:=List.length_pos_iff.2 h0
 have hre:(Ob.gro 5 (az l)).real=true:=bQ (by simpa [az] using h0)
 refine Z1 rfl rfl ?_
 refine Ge rfl follows [0,1,2,3,4,5,6,7,8,9,10,11] (by kernel_rfl) ?_
 iterate 4 refine D1 rfl rfl ?_
 refine Ds 7 [_] rfl rfl rfl (fun τ h=>D8 (Ee h 0 rfl rfl) (Eo h 0 rfl rfl) hlp hre) rfl (by kernel_rfl) ?_
 iterate 5 refine D1 rfl rfl ?_
 refine Ds 13 [_] rfl rfl rfl (fun τ h=>BW underlying224 (by kernel_rfl) (Ee h 0 rfl rfl) (Eo h 0 rfl rfl) (Ee h 1 rfl rfl) h0 hb) rfl (by kernel_rfl) ?_
 refine D1 rfl rfl ?_
 refine ⟨by kernel_rfl,?_⟩
 refine Gt rfl ?_
 exact ⟨[(2,.pv (.str ⟨l.toArray⟩))],[(big,.mix 165 [.ptr big 0,.gsl 1000001 1 l.length]),(1000001,.fro 5 ⟨l.toArray⟩)],[.pv (.str ⟨l.toArray⟩)],Io (aS rfl) (aO (by kernel_rfl)) rfl rfl,rfl,rfl,rfl,rfl,rfl⟩
theorem mW (k:Nat) (s:ByteArray) (h0:s.data.toList≠[]) (hk:k=s.data.toList.length) (hb:k≤1000000000):FnO Tryz.prog 108 2 0 [.ptr big 0] [(big,.mix 165 [.ptr big 0,.gsl 1000001 1 k]),(1000001,.fro 5 s)] (fun v ob'=>v= .pv (.str s)∧ob'=ar [(big,.mix 165 [.ptr big 0,.gsl 1000001 1 k]),(1000001,.fro 5 s)]):=by
 refine FnO.of func108 rfl ntmps108 (by simp) fun m0 w0 F R0=>?_
 have hlp:0<k:=by rw [hk];exact List.length_pos_iff.2 h0
 refine Z1 rfl rfl ?_
 refine Ge rfl follows [0,1,2,3,4,5,6,7,8,9,10,11] (by kernel_rfl) ?_
 iterate 4 refine D1 rfl rfl ?_
 refine Ds 7 [_] rfl rfl rfl (fun τ h=>D8 (Ee h 0 rfl rfl) (Eo h 0 rfl rfl) hlp rfl) rfl (by kernel_rfl) ?_
 iterate 5 refine D1 rfl rfl ?_
 refine Ds 13 [_] rfl rfl rfl (fun τ h=>CY underlying224 (by kernel_rfl) (Ee h 0 rfl rfl) (Eo h 0 rfl rfl) (Ee h 1 rfl rfl) (congrArg (fun n:Nat=>(n:Int)) hk) h0 (by omega)) rfl (by kernel_rfl) ?_
 refine D1 rfl rfl ?_
 refine ⟨by kernel_rfl,?_⟩
 refine Gt rfl ?_
 exact ⟨[(2,.pv (.str s))],[(big,.mix 165 [.ptr big 0,.gsl 1000001 1 k]),(1000001,.fro 5 s)],[.pv (.str s)],Io (aS rfl) (aO (by kernel_rfl)) rfl rfl,rfl,rfl,rfl,rfl,rfl⟩
end
section
open Go.RowKit Mk Jn
set_option autoImplicit false
section
variable {R:Type} (Z:SR R)
theorem qK {β:Type} {l:List β} {k:Nat} (h:k<l.length) (f:β→R):eg Z ((l.take (k+1)).map f)=Z.add (eg Z ((l.take k).map f)) (f l[k]):=by
 rw [List.take_succ_eq_append_getElem h,List.map_append,kK]
 congr 1
 show Z.add _ (eg Z [])=_
 rw [eg,Z.add_zero]
theorem sv {cd:Int→Asg ByteArray→List ByteArray} {g:Int→Asg ByteArray→R} (l m:List Tr) (σ:Asg ByteArray):valL Z cd g (l++m) σ=Z.mul (valL Z cd g l σ) (valL Z cd g m σ):=by
 induction l with
 | nil=>rw [List.nil_append,valL,Z.one_mul]
 | cons t l ih=>rw [List.cons_append,valL,ih,valL,Z.mul_assoc]
def fv (J:JD) (P:List Int) (v:Int) (σ:Asg ByteArray):R:=Jn.val Z (bC (RJ J) sdS) (fun _ _=>Z.one) (a7 P P.length v) σ
def fl (J:JD) (P:List Int) (cs:List Int) (σ:Asg ByteArray):R:=valL Z (bC (RJ J) sdS) (fun _ _=>Z.one) (cs.map (a7 P P.length)) σ
theorem uO (J:JD) (P:List Int) (σ:Asg ByteArray):fl Z J P [] σ=Z.one:=by unfold fl;rw [List.map_nil,valL]
theorem rb (J:JD) (P cs ds:List Int) (σ:Asg ByteArray):fl Z J P (cs++ds) σ=Z.mul (fl Z J P cs σ) (fl Z J P ds σ):=by
 unfold fl;rw [List.map_append,sv]
theorem HM (J:JD) (P:List Int) (c:Int) (σ:Asg ByteArray):fl Z J P [c] σ=fv Z J P c σ:=by
 unfold fl fv
 rw [List.map_cons,List.map_nil,valL,valL,Z.mul_comm,Z.one_mul]
theorem oG (J:JD) (P:List Int) {cs:List Int} (σ:Asg ByteArray) {k:Nat} (h:k<cs.length):fl Z J P (cs.take (k+1)) σ=Z.mul (fl Z J P (cs.take k) σ) (fv Z J P cs[k] σ):=by
 rw [List.take_succ_eq_append_getElem h,rb,HM]
theorem yv (J:JD) (P:List Int) (cs:List Int) (σ:Asg ByteArray) (k:Nat) (h:fl Z J P (cs.take k) σ=Z.zero):fl Z J P cs σ=Z.zero:=by
 have e:fl Z J P cs σ=Z.mul (fl Z J P (cs.take k) σ) (fl Z J P (cs.drop k) σ):=by rw [← rb,List.take_append_drop]
 rw [e,h,Z.zero_mul]
theorem Gz (J:JD) {P:List Int} (hP:UpOk P) {v:Nat} (hv:v<P.length) (σ:Asg ByteArray):fv Z J P v σ=eg Z ((bC (RJ J) sdS v σ).map fun x=>fl Z J P (al P v) (put σ v x)):=by
 unfold fv fl
 rw [Ga hP hv,Jn.val]
 exact cx Z fun x _=>Z.one_mul _
structure At (P:List Int) (v:Nat) (σ:Asg ByteArray):Prop where
 up:∀ a∈bp P v,(σ a).isSome=true
 no:∀ a∈fk P v,σ a=none
theorem At.self {P:List Int} {v:Nat} {σ:Asg ByteArray} (h:At P v σ) (hv:v<P.length):σ (v:Int)=none:=h.no _ (da.2 ⟨⟨v,hv,rfl⟩,.inl rfl⟩)
theorem Ht {P:List Int} (hP:UpOk P):∀ w,w<P.length→∀ v a:Int,v∈(w:Int)::bp P w→a∈(w:Int)::bp P w→a=v∨a∈bp P v∨v∈bp P a:=by
 refine pt hP (fun w hw h e v a hv ha=>?_) (fun w hw p hp h e ih v a hv ha=>?_)
 ·rw [e,List.mem_singleton] at hv ha
  exact .inl (by rw [hv,ha])
 ·rcases List.mem_cons.1 hv with rfl | hv
  ·rcases List.mem_cons.1 ha with rfl | ha
   ·exact .inl rfl
   ·exact .inr (.inl ha)
  ·rcases List.mem_cons.1 ha with rfl | ha
   ·exact .inr (.inr hv)
   ·rw [e] at hv ha;exact ih v a hv ha
theorem At.child {P:List Int} (hP:UpOk P) {v c:Nat} {σ:Asg ByteArray} (h:At P v σ) (hv:v<P.length) (hc:c<P.length) (hp:P.getD c 0=(v:Int)) (x:ByteArray):At P c (put σ v x):=by
 have e:=bO hP hc hv hp
 refine ⟨fun a ha=>?_,fun a ha=>?_⟩
 ·rw [e] at ha
  rcases List.mem_cons.1 ha with rfl | ha
  ·rw [cG];rfl
  ·have:a≠(v:Int):=fun e=>jl hP hv (e▸ha)
   rw [dZ _ _ this];exact h.up a ha
 ·obtain ⟨⟨b,hb,rfl⟩,h2⟩:=da.1 ha
  have hvb:(v:Int)∈bp P b:=by
   rcases h2 with h2 | h2
   ·have:b=c:=by omega
    subst this;rw [e];simp
   ·exact fH hP hb (by rw [e];simp) h2
  have:(b:Int)≠(v:Int):=fun e=>by
   have:b=v:=by omega
   subst this;exact jl hP hb hvb
  rw [dZ _ _ this]
  exact h.no _ (da.2 ⟨⟨b,hb,rfl⟩,.inr hvb⟩)
theorem ud {J:JD} {w a:Int} (ha:a∈dom (RJ J) w):∃ r∈J.S.rels,w∈r.2∧a∈r.2:=by
 unfold dom at ha
 obtain ⟨r,hr,ha⟩:=List.mem_flatMap.1 ha
 obtain ⟨h1,h2⟩:=List.mem_filter.1 hr
 have hlt:r<J.S.rels.length:=by have:=List.mem_range.1 h1;simpa [RJ] using this
 have e:(RJ J).at r=J.S.rels[r].2:=by rw [qX];simp [cy,List.getD,hlt]
 rw [e] at ha h2
 exact ⟨_,List.getElem_mem hlt,by simpa using h2,ha⟩
theorem HK {J:JD} {P:List Int} (h:OrdOk J.S P) {v:Nat} (hv:v<P.length) {σ τ:Asg ByteArray} (hσ:At P v σ) (hτ:At P v τ) (hk:∀ a∈dq J.S P v,σ a=τ a):fv Z J P v σ=fv Z J P v τ:=by
 have hP:=h.dP
 unfold fv
 refine val_congr Z (cd:=bC (RJ J) sdS) (g:=fun _ _=>Z.one) (D:=dom (RJ J)) (E:=fun _=>[]) ⟨fun w a b hab=>kI (RJ J) sdS w a b hab,fun _ _ _ _=>rfl⟩ _ _ _ fun w hw=>⟨fun a ha=>?_,fun a ha=>absurd ha (by simp)⟩
 obtain ⟨m,hm,rfl,hvm⟩:=gR hP _ v hv w hw
 have hbm:(m:Int)∈fk P v:=da.2 ⟨⟨m,hm,rfl⟩,by rcases List.mem_cons.1 hvm with e | e;exact .inl e.symm;exact .inr e⟩
 obtain ⟨r,hr,h1,h2⟩:=ud ha
 have key:a∈fk P v∨a∈dq J.S P v:=by
  obtain ⟨b,hb⟩:=Int.eq_ofNat_of_zero_le (h.val.rng r hr a h2).1
  have hbl:b<P.length:=by have:=(h.val.rng r hr a h2).2;rw [h.len];omega
  subst hb
  have bel:(v:Int)∈(b:Int)::bp P b→(b:Int)∈fk P v:=fun hh=>da.2 ⟨⟨b,hbl,rfl⟩,by rcases List.mem_cons.1 hh with e | e;exact .inl e.symm;exact .inr e⟩
  rcases iU (h.rt r hr) h1 h2 with e | e | e
  ·have:m=b:=by omega
   subst this;exact .inl hbm
  ·refine .inl (bel ?_)
   rcases List.mem_cons.1 hvm with e2 | e2
   ·have:v=m:=by omega
    subst this;exact List.mem_cons_of_mem _ e
   ·exact List.mem_cons_of_mem _ (fH hP hbl e2 e)
  ·rcases Ht hP m hm v b hvm (List.mem_cons_of_mem _ e) with e2 | e2 | e2
   ·exact .inl (bel (by rw [e2];simp))
   ·exact .inr (r9.2 ⟨e2,m,hbm,AN hr h2 h1⟩)
   ·exact .inl (bel (List.mem_cons_of_mem _ e2))
 rcases key with hk2 | hk2
 ·rw [hσ.no a hk2,hτ.no a hk2]
 ·exact hk a hk2
end
def Zf (x:ByteArray):Prop:=(0:UInt8)∉x.data.toList
def lG (now:Int→ByteArray) (l:List Int):List UInt8:=l.flatMap fun a=>(now a).data.toList++[0]
def Bn (v:Nat) (l:List Int) (σ:Asg ByteArray):List UInt8:=UInt8.ofNat v::lG (fun a=>(σ a).getD eb) l
theorem lQ:∀ {a b c d:List UInt8},(0:UInt8)∉a→(0:UInt8)∉b→a++0::c=b++0::d→a=b∧c=d
 | [],[],c,d,_,_,h=>⟨rfl,by simpa using h⟩
 | [],y::b,c,d,_,hb,h=>by
   simp only [List.nil_append,List.cons_append,List.cons.injEq] at h
   exact absurd (by rw [← h.1];simp) hb
 | x::a,[],c,d,ha,_,h=>by
   simp only [List.nil_append,List.cons_append,List.cons.injEq] at h
   exact absurd (by rw [h.1];simp) ha
 | x::a,y::b,c,d,ha,hb,h=>by
   simp only [List.cons_append,List.cons.injEq] at h
   have:=lQ (fun e=>ha (List.mem_cons_of_mem _ e)) (fun e=>hb (List.mem_cons_of_mem _ e)) h.2
   exact ⟨by rw [h.1,this.1],this.2⟩
theorem tR {f g:Int→ByteArray}:∀ {l:List Int},(∀ a∈l,Zf (f a))→(∀ a∈l,Zf (g a))→lG f l=lG g l→∀ a∈l,f a=g a
 | [],_,_,_,a,ha=>by simp at ha
 | x::l,hf,hg,h,a,ha=>by
   unfold lG at h
   rw [List.flatMap_cons,List.flatMap_cons,List.append_assoc,List.append_assoc,List.singleton_append,List.singleton_append] at h
   have hs:=lQ (hf x (by simp)) (hg x (by simp)) h
   rcases List.mem_cons.1 ha with rfl | ha
   ·exact ByteArray.ext (Array.ext' hs.1)
   ·exact tR (fun b hb=>hf b (by simp [hb])) (fun b hb=>hg b (by simp [hb])) hs.2 a ha
theorem rQ (f:Int→ByteArray) (l m:List Int):lG f (l++m)=lG f l++lG f m:=List.flatMap_append
theorem pg (f:Int→ByteArray) {l:List Int} {k:Nat} (h:k<l.length):lG f (l.take (k+1))=lG f (l.take k)++((f l[k]).data.toList++[0]):=by
 rw [List.take_succ_eq_append_getElem h,rQ]
 congr 1
 unfold lG;simp
def ZfA (σ:Asg ByteArray):Prop:=∀ a x,σ a=some x→Zf x
theorem ZfA.put {σ:Asg ByteArray} (h:ZfA σ) (a:Int) {x:ByteArray} (hx:Zf x):ZfA (put σ a x):=fun b y e=>by
 unfold Jn.put at e
 split at e
 ·cases e;exact hx
 ·exact h b y e
theorem ZfA.getD {σ:Asg ByteArray} (h:ZfA σ) (a:Int):Zf ((σ a).getD eb):=by
 cases e:σ a with
 | none=>show (0:UInt8)∉_;simp [eb]
 | some x=>exact h a x e
section
variable {R:Type} (Z:SR R)
def iz (J:JD) (P:List Int) (M:List (ByteArray×R)):Prop:=∀ p∈M,∀ (v:Nat) (σ:Asg ByteArray),v<P.length→At P v σ→ZfA σ→p.1.data.toList=Bn v (dq J.S P v) σ→p.2=fv Z J P v σ
theorem B9 {J:JD} {P:List Int} (h:OrdOk J.S P) (hl:P.length≤256) {v v':Nat} (hv:v<P.length) (hv':v'<P.length) {σ τ:Asg ByteArray} (hσ:At P v σ) (hτ:At P v' τ) (hz:ZfA σ) (hz':ZfA τ) (e:Bn v (dq J.S P v) σ=Bn v' (dq J.S P v') τ):fv Z J P v σ=fv Z J P v' τ:=by
 unfold Bn at e
 rw [List.cons.injEq] at e
 have hvv:v=v':=by
  have:=congrArg UInt8.toNat e.1
  rw [UInt8.toNat_ofNat',UInt8.toNat_ofNat'] at this
  omega
 subst hvv
 refine HK Z h hv hσ hτ fun a ha=>?_
 have hk:=tR (fun a _=>hz.getD a) (fun a _=>hz'.getD a) e.2 a ha
 have hu:=(r9.1 ha).1
 have h1:=hσ.up a hu
 have h2:=hτ.up a hu
 obtain ⟨x,hx⟩:=Option.isSome_iff_exists.1 h1
 obtain ⟨y,hy⟩:=Option.isSome_iff_exists.1 h2
 rw [hx,hy] at hk ⊢
 exact congrArg some hk
def lz (v:Nat) (l:List Int) (σ:Asg ByteArray):ByteArray:=⟨(Bn v l σ).toArray⟩
theorem iz.add {J:JD} {P:List Int} (h:OrdOk J.S P) (hl:P.length≤256) {M:List (ByteArray×R)} (hM:iz Z J P M) {v:Nat} (hv:v<P.length) {σ:Asg ByteArray} (hσ:At P v σ) (hz:ZfA σ):∀ v' (τ:Asg ByteArray),v'<P.length→At P v' τ→ZfA τ→(lz v (dq J.S P v) σ).data.toList=Bn v' (dq J.S P v') τ→fv Z J P v σ=fv Z J P v' τ:=fun v' τ hv' hτ hz' e=>B9 Z h hl hv hv' hσ hτ hz hz' (by simpa [lz] using e)
theorem gJ (c:ByteArray) (rep:R→PV):∀ (M:List (ByteArray×R)) (i:Nat),(∃ r,dR (.str c) (M.map fun p=> .str p.1) i=some r)∧(dR (.str c) (M.map fun p=> .str p.1) i=some none→∀ p∈M,p.1≠c)∧(∀ j,dR (.str c) (M.map fun p=> .str p.1) i=some (some j)→i≤j∧∃ w,M[j-i]? =some (c,w))
 | [],i=>⟨⟨none,rfl⟩,fun _=>by simp,fun j h=>by simp [dR] at h⟩
 | p::M,i=>by
   obtain ⟨h1,h2,h3⟩:=gJ c rep M (i+1)
   have hq:keq (.str c) (.str p.1)=some (c==p.1):=rfl
   simp only [List.map_cons,dR,hq]
   by_cases e:c=p.1
   ·rw [show (c==p.1)=true by rw [← e];exact l6 c]
    refine ⟨⟨_,rfl⟩,fun h=>by simp at h,fun j h=>?_⟩
    simp at h
    subst h
    exact ⟨Nat.le_refl _,p.2,by simp [e]⟩
   ·rw [show (c==p.1)=false from by cases h:c==p.1 with | true=>exact absurd (ue h) e | false=>rfl]
    refine ⟨h1,fun h q hq=>?_,fun j h=>?_⟩
    ·rcases List.mem_cons.1 hq with rfl | hq
     ·exact fun e'=>e e'.symm
     ·exact h2 h q hq
    ·obtain ⟨h4,w,h5⟩:=h3 j h
     exact ⟨by omega,w,by rw [show j-i=(j-(i+1))+1 by omega];simpa using h5⟩
theorem tT (rep:R→PV) {J:JD} {P:List Int} {M:List (ByteArray×R)} (hM:iz Z J P M) {v:Nat} (hv:v<P.length) {σ:Asg ByteArray} (hσ:At P v σ) (hz:ZfA σ):
  qH (.str (lz v (dq J.S P v) σ)) (M.map fun p=> .str p.1) (M.map fun p=>rep p.2)=some (if ∃ p∈M,p.1=lz v (dq J.S P v) σ then some (rep (fv Z J P v σ)) else none):=by
 obtain ⟨⟨r,h1⟩,h2,h3⟩:=gJ (lz v (dq J.S P v) σ) rep M 0
 unfold qH
 rw [h1]
 cases r with
 | none=>
   have:=h2 h1
   rw [if_neg (fun ⟨p,hp,e⟩=>this p hp e)]
 | some j=>
   obtain ⟨_,w,h4⟩:=h3 j h1
   simp only [Nat.sub_zero] at h4
   have hm:=List.mem_of_getElem? h4
   rw [if_pos ⟨_,hm,rfl⟩]
   have hw:w=fv Z J P v σ:=hM _ hm v σ hv hσ hz (by simp [lz])
   simp [h4,hw]
theorem y8 (rep:R→PV) {J:JD} {P:List Int} (h:OrdOk J.S P) (hl:P.length≤256) {M:List (ByteArray×R)} (hM:iz Z J P M) {v:Nat} (hv:v<P.length) {σ:Asg ByteArray} (hσ:At P v σ) (hz:ZfA σ):
  ∃ M',iz Z J P M'∧s6 (.str (lz v (dq J.S P v) σ)) (M.map fun p=> .str p.1)=M'.map (fun p=> .str p.1)∧tg (.str (lz v (dq J.S P v) σ)) (rep (fv Z J P v σ)) (M.map fun p=> .str p.1) (M.map fun p=>rep p.2)=M'.map fun p=>rep p.2:=by
 obtain ⟨⟨r,h1⟩,_,_⟩:=gJ (lz v (dq J.S P v) σ) rep M 0
 unfold s6 tg
 rw [h1]
 have hadd:=iz.add Z h hl hM hv hσ hz
 cases r with
 | none=>
   refine ⟨M++[(lz v (dq J.S P v) σ,fv Z J P v σ)],fun p hp=>?_,by simp,by simp⟩
   rcases List.mem_append.1 hp with h | h
   ·exact hM p h
   ·rw [List.mem_singleton.1 h];exact hadd
 | some j=>
   refine ⟨M.set j (lz v (dq J.S P v) σ,fv Z J P v σ),fun p hp=>?_,by simp [List.map_set],by simp [List.map_set]⟩
   rcases List.mem_or_eq_of_mem_set hp with h | h
   ·exact hM p h
   ·rw [h];exact hadd
end
theorem x3 {β:Type} {l:List β} {f:β→Nat} {B:Nat} (h:∀ b∈l,f b≤B):eg bG (l.map f)≤l.length*B:=by
 induction l with
 | nil=>simp [eg,bG]
 | cons b l ih=>
   rw [List.map_cons,eg,List.length_cons,Nat.succ_mul]
   have h1:=ih fun x hx=>h x (by simp [hx])
   have h2:=h b (by simp)
   show f b+eg bG (l.map f)≤_
   omega
mutual
theorem val_le {cd:Int→Asg ByteArray→List ByteArray} {K:Nat} (hK:∀ v σ,(cd v σ).length≤K):∀ (t:Tr) (σ:Asg ByteArray),Jn.val bG cd (fun _ _=>bG.one) t σ≤K^t.vs.length
 | .node v ts,σ=>by
   rw [Jn.val,Tr.vs,List.length_cons,Nat.pow_succ,Nat.mul_comm]
   refine Nat.le_trans (x3 (B:=K^(vsL ts).length) fun x _=>?_) (Nat.mul_le_mul_right _ (hK v σ))
   rw [bG.one_mul]
   exact valL_le hK ts _
theorem valL_le {cd:Int→Asg ByteArray→List ByteArray} {K:Nat} (hK:∀ v σ,(cd v σ).length≤K):∀ (ts:List Tr) (σ:Asg ByteArray),valL bG cd (fun _ _=>bG.one) ts σ≤K^(vsL ts).length
 | [],_=>by rw [valL,vsL];exact Nat.le_refl _
 | t::ts,σ=>by
   rw [valL,vsL,List.length_append,Nat.pow_add]
   exact Nat.mul_le_mul (val_le hK t σ) (valL_le hK ts σ)
end
theorem gm {J:JD} (h12:∀ l∈J.T,l.length≤12) (v:Int) (σ:Asg ByteArray):(bC (RJ J) sdS v σ).length≤12:=by
 unfold bC
 cases bw (RJ J) v with
 | nil=>simp
 | cons f l=>
   refine Nat.le_trans (List.length_filter_le ..) (Nat.le_trans (jX _) ?_)
   rw [(cY _).length_eq]
   refine Nat.le_trans (List.length_filterMap_le ..) (Nat.le_trans (List.length_filter_le ..) ?_)
   rw [kF,List.length_map]
   unfold dh
   by_cases hf:f<J.T.length
   ·simp only [List.getD,List.getElem?_eq_getElem hf,Option.getD_some];exact h12 _ (List.getElem_mem hf)
   ·simp [List.getD,List.getElem?_eq_none (by omega:J.T.length≤f)]
theorem wH {P:List Int} (hP:UpOk P) (v:Int) (f:Nat) (hf:∀ a (ha:a<P.length),P[a]=v→P.length+1≤(bp P a).length+f):(fy P f v).Nodup:=by
 rw [List.nodup_iff_count]
 intro x
 by_cases hx:x∈fy P f v
 ·obtain ⟨a,ha,rfl⟩:=jN f v x hx
  rw [iO hP f v hf a ha]
  split<;>omega
 ·rw [List.count_eq_zero_of_not_mem hx];omega
theorem Gq {n:Nat} {l:List Int} (hn:l.Nodup) (h:∀ x∈l,∃ a:Nat,a<n∧x=(a:Int)):l.length≤n:=by
 have hp:((upZ n).filter fun a=>decide (a∈l)).Perm l:=by
  refine cu (List.Pairwise.sublist List.filter_sublist (cJ _)) hn fun a=>?_
  rw [List.mem_filter,decide_eq_true_iff,bx]
  exact ⟨fun hh=>hh.2,fun hh=>⟨h a hh,hh⟩⟩
 rw [← hp.length_eq]
 exact Nat.le_trans (List.length_filter_le ..) (by rw [a8];exact Nat.le_refl _)
theorem Ci {P:List Int} (hP:UpOk P) {v:Nat} (hv:v<P.length):(vsL ((al P v).map (a7 P P.length))).length≤P.length:=by
 rw [show vsL ((al P v).map (a7 P P.length))=fy P (P.length+1) v from kids_vs P P.length v]
 refine Gq (wH hP v _ fun a ha e=>by omega) fun x hx=>jN _ _ x hx
theorem sr {J:JD} (h12:∀ l∈J.T,l.length≤12) {P:List Int} (hP:UpOk P) {v:Nat} (hv:v<P.length) (cs:List Int) (hcs:cs <+: al P v) (σ:Asg ByteArray):fl bG J P cs σ≤12^P.length:=by
 unfold fl
 refine Nat.le_trans (valL_le (gm h12) _ _) (Nat.pow_le_pow_right (by decide) (Nat.le_trans ?_ (Ci hP hv)))
 obtain ⟨ds,e⟩:=hcs
 rw [← e,List.map_append,dm,dm,List.flatMap_append,List.length_append]
 omega
theorem qN {P:List Int} (hP:UpOk P):(vsL ((al P (-1)).map (a7 P P.length))).length≤P.length:=by
 rw [show vsL ((al P (-1)).map (a7 P P.length))=aD P from kids_vs P P.length (-1),(cf hP).length_eq,a8]
 exact Nat.le_refl _
theorem Cd {J:JD} (h12:∀ l∈J.T,l.length≤12) {P:List Int} (hP:UpOk P) (cs:List Int) (hcs:cs <+: al P (-1)) (σ:Asg ByteArray):fl bG J P cs σ≤12^P.length:=by
 unfold fl
 refine Nat.le_trans (valL_le (gm h12) _ _) (Nat.pow_le_pow_right (by decide) (Nat.le_trans ?_ (qN hP)))
 obtain ⟨ds,e⟩:=hcs
 rw [← e,List.map_append,dm,dm,List.flatMap_append,List.length_append]
 omega
theorem Hn {J:JD} (h12:∀ l∈J.T,l.length≤12) {P:List Int} (hP:UpOk P) {v:Nat} (hv:v<P.length) (σ:Asg ByteArray) (k:Nat):eg bG (((bC (RJ J) sdS v σ).take k).map fun x=>fl bG J P (al P v) (put σ v x))≤12^(P.length+1):=by
 refine Nat.le_trans (x3 (B:=12^P.length) fun x _=>sr h12 hP hv _ (List.prefix_refl _) _) ?_
 rw [Nat.pow_succ,Nat.mul_comm]
 refine Nat.mul_le_mul_left _ ?_
 have:=gm h12 v σ
 rw [List.length_take];omega
theorem Ed {J:JD} (h12:∀ l∈J.T,l.length≤12) {P:List Int} (hP:UpOk P) {v:Nat} (hv:v<P.length) (σ:Asg ByteArray):fv bG J P v σ≤12^(P.length+1):=by
 have:=Hn h12 hP hv σ (bC (RJ J) sdS v σ).length
 rwa [List.take_length, ← Gz bG J hP hv] at this
end
section
open Go.RowKit Mk Jn
set_option maxHeartbeats 4000000
theorem Agr.jv {n:Nat} {ops:Array Oper} {σ τ:St} {s:OS} {rd:List Nat} {y:Operand} {xs:Array Operand} {ts:Array TypeId} {dst:Option Tmp} {ty:TypeId} {pos:String} {after:Array Edge} {gd:Option (Nat×Bool)}
  (h:Agr n ops ⟨dst,.call { callee:= .value y,args:=xs,argTypes:=ts },ty,pos,after,gd⟩ σ τ s rd) {ps:List PV} (hp:(V.args (fun _=>none) (xs.toList.map (σ.ev n))).map PV.fgA=some ps):
  (V.args (fun _=>none) (xs.toList.map (τ.ev n))).map PV.fgA=some ps:=by
 have e:xs.toList.map (τ.ev n)=xs.toList.map (σ.ev n):=by
  apply List.map_congr_left
  intro x hx
  obtain ⟨i,hi⟩:=List.getElem?_of_mem hx
  exact h.e (i+1) x (by simpa [Op.operands,Call.operands,Nat.add_comm] using hi)
 rw [e];exact hp
theorem Agr.argsY {n:Nat} {ops:Array Oper} {σ τ:St} {s:OS} {rd:List Nat} {y:Operand} {xs:Array Operand} {ts:Array TypeId} {dst:Option Tmp} {ty:TypeId} {pos:String} {after:Array Edge} {gd:Option (Nat×Bool)}
  (h:Agr n ops ⟨dst,.call { callee:= .value y,args:=xs,argTypes:=ts },ty,pos,after,gd⟩ σ τ s rd):xs.toList.map (τ.ev n)=xs.toList.map (σ.ev n):=by
 apply List.map_congr_left
 intro x hx
 obtain ⟨i,hi⟩:=List.getElem?_of_mem hx
 exact h.e (i+1) x (by simpa [Op.operands,Call.operands,Nat.add_comm] using hi)
abbrev six:List Nat:=[big,1000001,1000002,1000003,1000004,1000005]
def RV (R:V→Ob→Ob→Prop) (s:OS):Prop:=∃ p o1 o3,R p o1 o3∧s=⟨p,[(1000001,some o1),(1000003,some o3)],[]⟩
section
variable {C:Ctx} {n:Nat} {σ:St} {dst:Option Tmp} {ty:TypeId} {ts:Array TypeId} {pos:String} {after:Array Edge} {gd:Option (Nat×Bool)}
theorem GZ {i k:Nat} (h:¬ i=k):Nat.beq i k=false:=by
 cases hb:Nat.beq i k with
 | false=>rfl
 | true=>exact absurd (Nat.eq_of_beq_eq_true hb) h
theorem Gh {f:FuncId} {xs:Array Operand} {args:List V} {O0 o1 O2 o3 O4 O5:Ob} {Q:V→(Nat→Option Ob)→Prop} {R:V→Ob→Ob→Prop} (hc:bN C.P f)
  (hf:FnO C.P f 6 0 args [(big,O0),(1000001,o1),(1000002,O2),(1000003,o3),(1000004,O4),(1000005,O5)] Q)
  (hQ:∀ v ob',Q v ob'→∃ p a b,R p a b∧p.ren (cm six 0)=p∧a.ren (cm six 0)=a∧b.ren (cm six 0)=b∧v=p∧ob'=ar [(big,O0),(1000001,a),(1000002,O2),(1000003,b),(1000004,O4),(1000005,O5)])
  (hargs:xs.toList.map (σ.ev n)=V.renL (cm six 0) args) (ha:V.allL (okR 6 0) args=true)
  (hob:[(big,O0),(1000001,o1),(1000002,O2),(1000003,o3),(1000004,O4),(1000005,O5)].all (fun p=>p.2.all (okR 6 0))=true)
  (hobs:dD σ (cm six 0) [(big,O0),(1000001,o1),(1000002,O2),(1000003,o3),(1000004,O4),(1000005,O5)]):
  OJ C n ⟨dst,.call { callee:= .value (.func f),args:=xs,argTypes:=ts },ty,pos,after,gd⟩ (fun τ'=>∃ s,RV R s∧s.wr.map (·.1)=[1000001,1000003]∧s.nw=[]∧τ'=σ.app dst s) σ:=by
 refine dU six 0 hc hargs ha rfl hob hobs (by decide) rfl hf fun v ob' h=>?_
 obtain ⟨p,a,b,hR,ep,ea,eb,rfl,rfl⟩:=hQ v ob' h
 refine ⟨_,⟨v,a,b,hR,rfl⟩,rfl,rfl,?_⟩
 obtain ⟨h0,h1,h2,h3,h4,h5,_⟩:=hobs
 have key:∀ i,obL (wrO six 0 0 (ar [(big,O0),(1000001,a),(1000002,O2),(1000003,b),(1000004,O4),(1000005,O5)])) σ.ob i=obL [(1000001,some a),(1000003,some b)] σ.ob i:=by
  intro i
  show obL [(big,some (O0.ren (cm six 0))),(1000001,some (a.ren (cm six 0))),(1000002,some (O2.ren (cm six 0))),(1000003,some (b.ren (cm six 0))),(1000004,some (O4.ren (cm six 0))),(1000005,some (O5.ren (cm six 0)))] σ.ob i=_
  rw [ea,eb]
  by_cases e0:i=big
  ·subst e0;exact h0.symm
  by_cases e1:i=1000001
  ·subst e1;rfl
  by_cases e2:i=1000002
  ·subst e2;exact h2.symm
  by_cases e3:i=1000003
  ·subst e3;rfl
  by_cases e4:i=1000004
  ·subst e4;exact h4.symm
  by_cases e5:i=1000005
  ·subst e5;exact h5.symm
  simp only [obL,GZ e0,GZ e1,GZ e2,GZ e3,GZ e4,GZ e5,cond_false]
 have e:=funext key
 unfold St.app
 simp only [ep,e]
 rfl
end
abbrev bu (ll:List (List Int)):PV:= .sl none ll.length (ll.map ak)
theorem cM {ll:List (List Int)} {k:Nat} (h:k<ll.length):(ll.map ak)[k*1]? =some (ak ll[k]):=by simp [h]
theorem cQ {ll:List (List Int)} {k:Nat} (h:k<ll.length):ll.map ak≠[]:=fun e=>by have:=congrArg List.length e;simp at this;rw [this] at h;simp at h
structure VD where
 chs:List (List Int)
 kes:List (List Int)
 hos:List (List Int)
 wa:List Int
structure CtxV (J:JD) (P:List Int) (D:VD):Prop where
 ok:JOk J
 ord:OrdOk J.S P
 n64:P.length≤64
 ch:D.chs=(upZ P.length).map (al P)++[al P (-1)]
 ke:D.kes=(upZ P.length).map (dq J.S P)
 hl:D.hos.length=P.length
 ho:∀ h∈D.hos,h.length≤1000∧∀ r∈h,0≤r∧r<J.S.rels.length
 zf:∀ l∈J.T,∀ x∈l,∀ y∈x.v,Zf y∧y.size≤10000
 t12:∀ l∈J.T,l.length≤12
 wv:∀ a:Nat,a<J.S.attrs.length→bw (RJ J) (a:Int)≠[]
def SzA (σ:Asg ByteArray):Prop:=∀ a x,σ a=some x→x.size≤10000
theorem SzA.put {σ:Asg ByteArray} (h:SzA σ) (a:Int) {x:ByteArray} (hx:x.size≤10000):SzA (put σ a x):=fun b y e=>by
 unfold Jn.put at e
 split at e
 ·cases e;exact hx
 ·exact h b y e
section
variable {J:JD} {P:List Int} {D:VD} (h:CtxV J P D)
include h
theorem CtxV.len:P.length=J.S.attrs.length:=h.ord.len
theorem CtxV.chl:D.chs.length=P.length+1:=by rw [h.ch];simp [a8]
theorem CtxV.kel:D.kes.length=P.length:=by rw [h.ke];simp [a8]
theorem CtxV.HX {v:Nat} (hv:v<P.length):D.chs[v]'(by rw [h.chl];omega)=al P v:=by
 have hlu:v<(upZ P.length).length:=by rw [a8];exact hv
 simp only [h.ch,List.getElem_append,List.length_map,a8,hv,dite_true,List.getElem_map]
 simp [upZ]
theorem CtxV.xZ:D.chs[P.length]'(by rw [h.chl];omega)=al P (-1):=by
 simp [h.ch,List.getElem_append,a8]
theorem CtxV.Hb {v:Nat} (hv:v<P.length):D.kes[v]'(by rw [h.kel];omega)=dq J.S P v:=by
 simp only [h.ke,List.getElem_map]
 simp [upZ]
theorem CtxV.xz {v:Nat} (hv:v<P.length) {a:Int} (ha:a∈dq J.S P v):∃ b:Nat,a=(b:Int)∧b<P.length∧(b:Int)∈bp P v:=by
 have h1:=(r9.1 ha).1
 obtain ⟨b,hb,e⟩:=gB h.ord.dP hv (List.mem_cons_of_mem _ h1)
 exact ⟨b,e,hb,e▸h1⟩
omit h in
theorem yj (S:Sch) (P:List Int) (v:Int):(dq S P v).length≤P.length:=by
 unfold dq H7
 rw [(iY _).length_eq]
 exact Nat.le_trans (List.length_filter_le ..) (vg P v)
theorem CtxV.s8 (v:Int) (σ:Asg ByteArray):∀ x∈bC (RJ J) sdS v σ,Zf x∧x.size≤10000:=by
 intro x hx
 unfold bC at hx
 cases hw:bw (RJ J) v with
 | nil=>rw [hw] at hx;simp at hx
 | cons f l=>
   rw [hw] at hx
   simp only at hx
   have hm:=(List.mem_filter.1 hx).1
   rw [sf] at hm
   obtain ⟨row,hrow,e⟩:=List.mem_filterMap.1 hm
   have hr:=(List.mem_filter.1 hrow).1
   rw [kF] at hr
   obtain ⟨y,hy,rfl⟩:=List.mem_map.1 hr
   have hmem:x∈y.v:=List.mem_of_getElem? e
   unfold dh at hy
   by_cases hf:f<J.T.length
   ·simp only [List.getD,List.getElem?_eq_getElem hf,Option.getD_some] at hy
    exact h.zf _ (List.getElem_mem hf) y hy x hmem
   ·simp [List.getD,List.getElem?_eq_none (by omega:J.T.length≤f)] at hy
end
theorem nQ {f:Int→ByteArray}:∀ {l:List Int},(∀ a∈l,(f a).size≤10000)→(lG f l).length≤10001*l.length
 | [],_=>by simp [lG]
 | a::l,h=>by
   have h1:=nQ (l:=l) fun b hb=>h b (by simp [hb])
   have h2:=h a (by simp)
   have h3:(f a).data.toList.length=(f a).size:=by rw [Array.length_toList];rfl
   unfold lG at h1 ⊢
   rw [List.flatMap_cons,List.length_append,List.length_append,List.length_cons,h3]
   simp only [List.length_cons,List.length_nil]
   omega
theorem r3 (x:ByteArray):(x++(⟨#[0]⟩:ByteArray)).data.toList=x.data.toList++[0]:=by
 rw [ByteArray.data_append];simp
theorem ug (x:ByteArray):(x++(⟨#[0]⟩:ByteArray)).size=x.size+1:=by
 have e:(x++(⟨#[0]⟩:ByteArray)).data.toList.length=x.data.toList.length+1:=by rw [r3,List.length_append];rfl
 rw [Array.length_toList,Array.length_toList] at e
 exact e
abbrev ba {R:Type} (M:List (ByteArray×R)):List PV:=M.map fun p=> .str p.1
abbrev wdB (D:VD):WD:=⟨bu D.chs,bu D.kes,bu D.hos,ak D.wa,.bool false,.bool true,.fn (.func 189) [] [],.fn (.func 190) [] [],.fn (.func 191) [] [],.any,.any,.fn (.func 142) [] [],.fn (.func 143) [] []⟩
theorem xt (x y:Bool):FnP Tryz.prog 189 [.bool x,.bool y] (· = .bool (aU.add x y)):=by
 refine FnP.of func189 rfl ntmps189 (by simp) fun m0 w0 F R0=>?_
 refine Z1 rfl rfl ?_
 by_cases hx:x=true
 ·subst hx
  refine Gr rfl ?_
  iterate 5 refine A1 rfl ?_
  refine Gt rfl ?_
  exact ⟨_,_,rfl,rfl,rfl⟩
 ·obtain rfl:=eq_false_of_ne_true hx
  refine Gr rfl ?_
  iterate 5 refine A1 rfl ?_
  refine Gt rfl ?_
  exact ⟨_,_,rfl,rfl,rfl⟩
theorem kM (x y:Bool):FnP Tryz.prog 190 [.bool x,.bool y] (· = .bool (aU.mul x y)):=by
 refine FnP.of func190 rfl ntmps190 (by simp) fun m0 w0 F R0=>?_
 refine Z1 rfl rfl ?_
 by_cases hx:x=true
 ·subst hx
  refine Gr rfl ?_
  iterate 5 refine A1 rfl ?_
  refine Gt rfl ?_
  exact ⟨_,_,rfl,rfl,rfl⟩
 ·obtain rfl:=eq_false_of_ne_true hx
  refine Gr rfl ?_
  iterate 5 refine A1 rfl ?_
  refine Gt rfl ?_
  exact ⟨_,_,rfl,rfl,rfl⟩
theorem xv (x:Bool):FnP Tryz.prog 191 [.bool x] (· = .bool (!x)):=by
 refine FnP.of func191 rfl ntmps191 (by simp) fun m0 w0 F R0=>?_
 refine Z1 rfl rfl ?_
 refine Z3 rfl rfl rfl rfl ?_
 refine Gt rfl ?_
 exact ⟨_,_,rfl,rfl,rfl⟩
theorem wg (v:Int) (x:ByteArray):FnP Tryz.prog 142 [.int .i64 v,.str x] (· = .bool true):=by
 refine FnP.of func142 rfl ntmps142 (by simp) fun m0 w0 F R0=>?_
 refine Z1 rfl rfl ?_
 refine Z1 rfl rfl ?_
 refine Gt rfl ?_
 exact ⟨_,_,rfl,rfl,rfl⟩
theorem Cf (w:Int):FnP Tryz.prog 143 [.int .i64 w] (· = .bool true):=by
 refine FnP.of func143 rfl ntmps143 (by simp) fun m0 w0 F R0=>?_
 refine Z1 rfl rfl ?_
 refine Z1 rfl rfl ?_
 refine Gt rfl ?_
 exact ⟨_,_,rfl,rfl,rfl⟩
end
section
open Go.RowKit Mk Jn
set_option maxHeartbeats 4000000
abbrev bB (M:List (ByteArray×Bool)):List PV:=M.map fun p=> .bool p.2
def QKB (J:JD) (P:List Int) (D:VD) (σ:Asg ByteArray) (r:Bool) (v:V) (ob':Nat→Option Ob):Prop:=∃ now' M',NowOk J.S.attrs.length σ now'∧iz aU J P M'∧v= .pv (.bool r)∧ob'=ar (o6B J (wdB D) σ now' (ba M') (bB M'))
def RBB (J:JD) (P:List Int) (σ:Asg ByteArray) (r:Bool) (p:V) (a b:Ob):Prop:=∃ now' M',NowOk J.S.attrs.length σ now'∧iz aU J P M'∧p= .pv (.bool r)∧a= .cells 9 (aA now')∧b= .mp (ba M') (bB M')
theorem vj {J:JD} {P:List Int} {D:VD} {σ:Asg ByteArray} {r:Bool} (v:V) (ob':Nat→Option Ob) (h:QKB J P D σ r v ob'):∃ p a b,RBB J P σ r p a b∧p.ren (cm six 0)=p∧a.ren (cm six 0)=a∧b.ren (cm six 0)=b∧v=p∧ob'=ar [(big,oB (wdB D) 1000004 1000001 J.S.attrs.length 1000002 1000003),(1000001,a),(1000002,.cells 4 (ay (stL σ J.S.attrs.length))),(1000003,b),(1000004,oX2 J 1000005),(1000005,.mp J.pk J.pv)]:=by
 obtain ⟨now',M',h1,h2,rfl,rfl⟩:=h
 exact ⟨_,_,_,⟨now',M',h1,h2,rfl,rfl,rfl⟩,rfl,rfl,rfl,rfl,rfl⟩
def oa (J:JD) (P:List Int) (D:VD) (v:Nat):Prop:=∀ σ now M,At P v σ→ZfA σ→SzA σ→NowOk J.S.attrs.length σ now→iz aU J P M→FnO Tryz.prog 145 6 0 [.ptr big 0,.pv (.int .i64 v)] (o6B J (wdB D) σ now (ba M) (bB M)) (QKB J P D σ (fv aU J P v σ))
def gC (J:JD) (P:List Int) (D:VD) (v:Nat):Prop:=∀ σ now M x,At P v σ→ZfA σ→SzA σ→Zf x→x.size≤10000→NowOk J.S.attrs.length σ now→iz aU J P M→FnO Tryz.prog 101 6 0 [.ptr big 0,.pv (.int .i64 v),.pv (.str x)] (o6B J (wdB D) σ now (ba M) (bB M)) (QKB J P D σ (fl aU J P (al P v) (put σ v x)))
theorem lX (J:JD) (P:List Int) (D:VD) (h:CtxV J P D) (v:Nat) (hv:v<P.length) (hb:gC J P D v):oa J P D v:=by
 intro σ now M hat hz hsz hn hM
 refine FnO.of func145 rfl ntmps145 (by simp) fun m0 w0 F R0=>?_
 have hP:=h.ord.dP
 have hnl:=h.len
 have hn64:=h.n64
 have hva:v<J.S.attrs.length:=by omega
 have hvk:v<D.kes.length:=by rw [h.kel];exact hv
 have hkv:=cM hvk
 have hkn:=cQ hvk
 have hw8:IntKind.u8.wrap (v:Int)=((UInt8.ofNat v).toNat:Int):=by
  have:=h.n64
  rw [UInt8.toNat_ofNat']
  simp [IntKind.wrap,IntKind.bits,IntKind.signed]
 have hwb:=mS (UInt8.ofNat v)
 rw [h.Hb hv] at hkv
 have hkl:=yj J.S P v
 have hke:∀ a∈dq J.S P v,∃ b:Nat,a=(b:Int)∧b<J.S.attrs.length∧∃ y,σ (b:Int)=some y:=fun a ha=>by
  obtain ⟨b,e,hb,hm⟩:=h.xz hv ha
  exact ⟨b,e,by omega,Option.isSome_iff_exists.1 (hat.up _ hm)⟩
 have hktl:∀ k,(lG (fun a=>(σ a).getD eb) ((dq J.S P v).take k)).length≤10001*64:=fun k=>by
  refine Nat.le_trans (nQ fun a _=>?_) (Nat.mul_le_mul_left _ ?_)
  ·cases e:σ a with
   | none=>exact (by decide:(0:Nat)≤10000)
   | some x=>exact hsz a x e
  ·have:=h.n64
   rw [List.length_take];omega
 have hlk:=tT aU PV.bool hM hv hat hz
 have hput:=fun M2 (hM2:iz aU J P M2)=>y8 aU PV.bool h.ord (by have:=h.n64;omega) hM2 hv hat hz
 have hfnd:=fun M2:List (ByteArray×Bool)=>gJ (lz v (dq J.S P v) σ) PV.bool M2 0
 have hcand:=mK J h.ok h.t12 (wdB D) σ now hn (ba M) (bB M) v hva (hat.self hv) (h.wv v hva)
 have htn:=ki hn hva (hat.self hv) (jx J v σ)
 have hcok:=h.s8 v σ
 have hcl:=gm h.t12 v σ
 have hfv:=Gz aU J hP hv σ
 have hbr:=fun now2 M2 x hx1 hx2 h2 h3=>hb σ now2 M2 x hat hz hsz hx1 hx2 h2 h3
 have hks:lz v (dq J.S P v) σ=⟨(UInt8.ofNat v::lG (fun a=>(σ a).getD eb) (dq J.S P v)).toArray⟩:=rfl
 have hkne:(lz v (dq J.S P v) σ).data.toList≠[]:=by rw [hks];simp
 have hkbl:(lz v (dq J.S P v) σ).data.toList.length≤1000000000:=by
  have:=hktl (dq J.S P v).length
  rw [List.take_length] at this
  rw [hks];simp only [List.length_cons];omega
 clear hb
 generalize hKg:lz v (dq J.S P v) σ=KB at*
 generalize dq J.S P v=K at*
 generalize jx J v σ=CL at*
 generalize hFG:(fun x=>fl aU J P (al P v) (put σ v x))=fx at*
 have hfx:∀ x,fl aU J P (al P v) (put σ v x)=fx x:=fun x=>by rw [← hFG]
 simp only [hfx] at hbr
 generalize fv aU J P v σ=FV at*
 generalize bC (RJ J) sdS v σ=C at*
 refine Z1 rfl rfl ?_
 refine Z1 rfl rfl ?_
 refine Im (St.er 0 1 1 1 5 rfl rfl rfl) ?_
 refine Z1 rfl rfl ?_
 refine Rs 14 rfl rfl ((en underlying3 underlying5 rfl).cast (v':= .pv (.int .u8 ((UInt8.ofNat v).toNat:Int))) (congrArg (fun z=>V.pv (.int .u8 z)) hw8)) ?_
 refine Rs 15 rfl rfl (ah [0,1] 2 call192 hwb rfl rfl rfl rfl ⟨rfl,rfl,trivial⟩ (by decide) rfl) ?_
 clear hw8 hwb
 refine Gr rfl ?_
 iterate 6 refine A1 rfl ?_
 refine Rs 22 rfl rfl (ag v underlying142 ly rfl rfl rfl hvk hkn) ?_
 refine Rs 23 rfl rfl (ai ⟨_,underlying22,rfl⟩ rfl hkv) ?_
 refine Y2 rfl rfl ?_
 refine Gl rfl (st:=fun x_0:Nat×List UInt8=>mkS [(0,.ptr big 0),(1,.pv (.int .i64 v)),(5,.ptr 0 0),(23,.pv (ak K)),(24,.pv (.int .i64 K.length)),(25,.pv (.int .i64 x_0.1))] [(big,oB (wdB D) 1000004 1000001 J.S.attrs.length 1000002 1000003),(0,.mix 165 [.ptr 0 0,.gsl 3 1 x_0.2.length]),(3,.gro 5 (az x_0.2)),(1000001,.cells 9 (aA now)),(1000002,.cells 4 (ay (stL σ J.S.attrs.length))),(1000003,.mp (ba M) (bB M)),(1000004,oX2 J 1000005),(1000005,.mp J.pk J.pv)] 4)
  (I:=fun x_0=>x_0.1≤K.length∧x_0.2=UInt8.ofNat v::lG (fun a=>(σ a).getD eb) (K.take x_0.1)) (μ:=fun x_0=>K.length-x_0.1) (x0:=(0,[UInt8.ofNat v])) (Io (aS rfl) (aO (by kernel_rfl)) rfl rfl) (⟨Nat.zero_le _,rfl⟩) ?_
 rintro ⟨k,L⟩ ⟨hk,hL⟩
 try simp only at hk hL ⊢
 refine Z1 rfl rfl ?_
 refine Gp rfl rfl (fun hc26=>?_) (fun hc26=>?_)
 ·have hlt:k<K.length:=by omega
  obtain ⟨a,ha,hal,y,hy⟩:=hke _ (List.getElem_mem hlt)
  have hpv:(aE K)[k*1]? =some (.int .i64 (a:Int)):=by rw [← ha];simp [hlt]
  have hpn:=aH hlt
  have hnow:now[a]'(by rw [hn.l];exact hal)=y:=hn.e a (by rw [hn.l];exact hal) y hy
  have hnp:=aM (l:=now) (k:=a) (by rw [hn.l];exact hal)
  rw [hnow] at hnp
  have hnl2:(aA now).length=J.S.attrs.length:=by rw [List.length_map,hn.l]
  have hys:=hsz _ _ hy
  have hkt:=hktl k
  have hktk:=pg (fun a=>(σ a).getD eb) hlt
  rw [ha,hy] at hktk
  have hLn:L≠[]:=by rw [hL];simp
  have hws:=qm L (y++(⟨#[0]⟩:ByteArray)) hLn (by rw [hL,ug];simp only [List.length_cons];omega)
  rw [r3] at hws
  refine Il ?_
  refine Z1 rfl rfl ?_
  refine Rs 28 rfl rfl (ai ⟨_,underlying3,rfl⟩ rfl hpv) ?_
  refine A1 rfl ?_
  refine Gr rfl ?_
  iterate 6 refine A1 rfl ?_
  refine Rs 35 rfl rfl (aC ⟨_,underlying9,rfl⟩ rfl rfl hnp) ?_
  refine Rs 36 rfl rfl (xO rfl rfl (by show y.size+1≤_;omega)) ?_
  refine Rs 37 rfl rfl (ah [0,3] 4 call105 hws rfl rfl rfl rfl ⟨by kernel_rfl,by kernel_rfl,trivial⟩ (by decide) rfl) ?_
  refine Z2 rfl rfl rfl ?_
  exact ⟨(k+1,L++(y.data.toList++[0])),Ip [0,1,2,4] (aT rfl) (aP (by kernel_rfl)) rfl rfl (by decide) rfl,⟨by simp only;omega,by simp only;rw [hktk,hL];rfl⟩,by simp only;omega⟩
 ·have hLK:L=UInt8.ofNat v::lG (fun a=>(σ a).getD eb) K:=by rw [hL,show K.take k=K from List.take_of_length_le (by omega)]
  have hLn:L≠[]:=by rw [hLK];simp
  have hKL:(⟨L.toArray⟩:ByteArray)=KB:=by rw [hks,hLK]
  have hLe:L=KB.data.toList:=by rw [← hKL]
  have hLl:L.length≤1000000000:=by rw [hLe];exact hkbl
  have hbs:=j8 L hLn hLl
  rw [hKL] at hbs
  have hbs2:=mW L.length KB hkne (by rw [hLe]) hLl
  refine Gx rfl ?_
  by_cases hm:∃ p∈M,p.1=KB
  ·rw [if_pos hm] at hlk
   refine Ge rfl follows [0,1,2,3,4,5,6,7,8,9,10] (by kernel_rfl) ?_
   iterate 4 refine D1 rfl rfl ?_
   refine Ds 44 [0,3] rfl rfl rfl (fun τ h=>ah [0,3] 4 call108 hbs (h.args.trans rfl) rfl rfl rfl ⟨(Eo h 0 rfl rfl),(Eo h 1 rfl rfl),trivial⟩ (by decide) rfl) rfl (by kernel_rfl) ?_
   refine Ds 45 [_] rfl rfl rfl (fun τ h=>cg (zp:= .bool false) underlying153 underlying9 (.inl ⟨1000003,(Ee h 0 rfl rfl),(Eo h 0 rfl rfl)⟩) (Ee h 1 rfl rfl) rfl Hu rfl hlk rfl rfl) rfl (by kernel_rfl) ?_
   iterate 5 refine D1 rfl rfl ?_
   refine ⟨by kernel_rfl,?_⟩
   refine Z1 rfl rfl ?_
   refine Gc rfl rfl (fun hc48=>?_) (fun hc48=>absurd hc48 (by simp))
   refine Z2 rfl rfl rfl ?_
   refine Gt rfl ?_
   exact ⟨[(4,.pv (.bool FV))],o6B J (wdB D) σ now (ba M) (bB M),[.pv (.bool FV)],Io (aS rfl) (aO (by kernel_rfl)) rfl rfl,rfl,rfl,rfl,now,M,hn,hM,rfl,rfl⟩
  ·rw [if_neg hm] at hlk
   refine Ge rfl follows [0,1,2,3,4,5,6,7,8,9,10] (by kernel_rfl) ?_
   iterate 4 refine D1 rfl rfl ?_
   refine Ds 44 [0,3] rfl rfl rfl (fun τ h=>ah [0,3] 4 call108 hbs (h.args.trans rfl) rfl rfl rfl ⟨(Eo h 0 rfl rfl),(Eo h 1 rfl rfl),trivial⟩ (by decide) rfl) rfl (by kernel_rfl) ?_
   refine Ds 45 [_] rfl rfl rfl (fun τ h=>cg (zp:= .bool false) underlying153 underlying9 (.inl ⟨1000003,(Ee h 0 rfl rfl),(Eo h 0 rfl rfl)⟩) (Ee h 1 rfl rfl) rfl Hu rfl hlk rfl rfl) rfl (by kernel_rfl) ?_
   iterate 5 refine D1 rfl rfl ?_
   refine ⟨by kernel_rfl,?_⟩
   refine Z1 rfl rfl ?_
   refine Gc rfl rfl (fun hc48=>absurd hc48 (by simp)) (fun hc48=>?_)
   refine Il ?_
   refine Gr rfl ?_
   iterate 6 refine A1 rfl ?_
   refine Z2 rfl rfl rfl ?_
   refine Rs 57 rfl rfl (ah [big,1000001,1000002,1000003,1000004,1000005] 4 call100 hcand rfl rfl rfl rfl ⟨by kernel_rfl,by kernel_rfl,by kernel_rfl,by kernel_rfl,by kernel_rfl,by kernel_rfl,trivial⟩ (by decide) rfl) ?_
   refine Y2 rfl rfl ?_
   refine Gl rfl (st:=fun x_1:Nat×List ByteArray×List (ByteArray×Bool)=>mkS [(0,.ptr big 0),(1,.pv (.int .i64 v)),(5,.ptr 0 0),(10,.pv (.bool (eg aU ((C.take x_1.1).map fx)))),(57,.pv (aI C)),(58,.pv (.int .i64 C.length)),(59,.pv (.int .i64 x_1.1))] [(big,oB (wdB D) 1000004 1000001 J.S.attrs.length 1000002 1000003),(0,.mix 165 [.ptr 0 0,.gsl 3 1 L.length]),(3,.fro 5 KB),(1000001,.cells 9 (aA x_1.2.1)),(1000002,.cells 4 (ay (stL σ J.S.attrs.length))),(1000003,.mp (ba x_1.2.2) (bB x_1.2.2)),(1000004,oX2 J 1000005),(1000005,.mp J.pk J.pv)] 4)
    (I:=fun x_1=>x_1.1≤C.length∧NowOk J.S.attrs.length σ x_1.2.1∧iz aU J P x_1.2.2) (μ:=fun x_1=>C.length-x_1.1) (x0:=(0,tst now v CL,M)) (Io (aS rfl) (aO (by kernel_rfl)) rfl rfl) (⟨Nat.zero_le _,htn,hM⟩) ?_
   rintro ⟨k2,now2,M2⟩ ⟨hk2,hn2,hM2⟩
   try simp only at hk2 hn2 hM2 ⊢
   refine Z1 rfl rfl ?_
   refine Gp rfl rfl (fun hc60=>?_) (fun hc60=>?_)
   ·have hlt2:k2<C.length:=by omega
    have hv2:=aM hlt2
    have hne2:=bc hlt2
    have hco:=hcok _ (List.getElem_mem hlt2)
    have hbk:=hbr now2 M2 C[k2] hco.1 hco.2 hn2 hM2
    have hss:=qK aU hlt2 fx
    generalize eg aU ((C.take k2).map fx)=acc at*
    refine Il ?_
    refine Z1 rfl rfl ?_
    first | refine A2 rfl (by assumption) ?_ | refine A1 rfl ?_
    refine A1 rfl ?_
    refine Ge rfl follows [0,1,2,3,4,5,6,7,8,9,10,11] (by kernel_rfl) ?_
    iterate 9 refine D1 rfl rfl ?_
    refine DL.rel (RV (RBB J P σ (fx C[k2]))) [1000001,1000003] [] [big,1000001,1000002,1000003,1000004,1000005] rfl rfl rfl (fun τ h=>Gh call101 hbk vj (h.args.trans rfl) rfl rfl ⟨Eo h 0 rfl rfl,Eo h 1 rfl rfl,Eo h 2 rfl rfl,Eo h 3 rfl rfl,Eo h 4 rfl rfl,Eo h 5 rfl rfl,trivial⟩) rfl (by kernel_rfl) (by kernel_rfl) (by kernel_rfl) ?_
    rintro _ ⟨_,_,_,⟨now3,M3,hn3,hM3,rfl,rfl,rfl⟩,rfl⟩ _ _
    refine Ds 73 [] rfl rfl rfl (fun τ h=>bb call189 (Ee h 0 rfl rfl) (xt _ _) (h.jv rfl)) rfl (by kernel_rfl) ?_
    refine D1 rfl rfl ?_
    refine ⟨by kernel_rfl,?_⟩
    refine Z2 rfl rfl rfl ?_
    exact ⟨(k2+1,now3,M3),Io ⟨rfl,rfl,rfl,congrArg (fun b=>V.pv (.bool b)) hss.symm,rfl,rfl,rfl,trivial⟩ (aO (by kernel_rfl)) rfl rfl,⟨by omega,hn3,hM3⟩,by simp only;omega⟩
   ·rw [show C.take k2=C from List.take_of_length_le (by omega), ← hfv]
    obtain ⟨M4,hM4,hpk,hpv⟩:=hput M2 hM2
    obtain ⟨⟨r,hkf⟩,_,_⟩:=hfnd M2
    refine Gx rfl ?_
    refine Ge rfl follows [0,1,2,3,4,5,6] (by kernel_rfl) ?_
    iterate 4 refine D1 rfl rfl ?_
    refine Ds 79 [0,3] rfl rfl rfl (fun τ h=>ah [0,3] 4 call108 hbs2 (h.args.trans rfl) rfl rfl rfl ⟨(Eo h 0 rfl rfl),(Eo h 1 rfl rfl),trivial⟩ (by decide) rfl) rfl (by kernel_rfl) ?_
    refine D1 rfl rfl ?_
    refine DL.step (d:=none) [_] rfl rfl rfl (fun τ h=>ed underlying153 underlying9 (Ee h 0 rfl rfl) (Eo h 0 rfl rfl) (Ee h 1 rfl rfl) (Ee h 2 rfl rfl) rfl hkf hpk hpv) rfl (by kernel_rfl) ?_
    refine ⟨by kernel_rfl,?_⟩
    refine Z2 rfl rfl rfl ?_
    refine Gt rfl ?_
    exact ⟨[(4,.pv (.bool FV))],o6B J (wdB D) σ now2 (ba M4) (bB M4),[.pv (.bool FV)],Io (aS rfl) (aO (by kernel_rfl)) rfl rfl,rfl,rfl,rfl,now2,M4,hn2,hM4,rfl,rfl⟩
theorem js (J:JD) (P:List Int) (D:VD) (h:CtxV J P D) (v:Nat) (hv:v<P.length) (hw:∀ c:Nat,c<P.length→P.getD c 0=(v:Int)→oa J P D c):gC J P D v:=by
 intro σ now M x hat hz hsz hx1 hx2 hn hM
 refine FnO.of func101 rfl ntmps101 (by simp) fun m0 w0 F R0=>?_
 have hP:=h.ord.dP
 have hlen:=h.len
 have hn64:=h.n64
 have hJ:=h.ok
 have hva:v<J.S.attrs.length:=by omega
 have hself:=hat.self hv
 have hnp:=hn.put hva x
 have hagr:=fun r (hr:r<J.S.rels.length) y (hy:y.v.length=J.S.rels[r].2.length)=>dV J hJ (wdB D) (put σ v x) (now.set v x) hnp (ba M) (bB M) r hr y hy
 have hvo:v<D.hos.length:=by rw [h.hl];exact hv
 have hov:=cM hvo
 have hon:=cQ hvo
 have hoh:=h.ho _ (List.getElem_mem hvo)
 generalize D.hos[v]=Hs at*
 have hvc:v<D.chs.length:=by rw [h.chl];omega
 have hcv:=cM hvc
 have hcn:=cQ hvc
 rw [h.HX hv] at hcv
 have hkid:∀ c∈al P v,∃ m:Nat,m<P.length∧c=(m:Int)∧P.getD m 0=(v:Int):=fun c hc=>aX.1 hc
 have hcl:(al P v).length≤64:=Nat.le_trans (Nat.le_trans (List.length_filter_le ..) (by rw [a8];exact Nat.le_refl _)) hn64
 have hview:=fun (c:Nat) (hc:c<P.length) (hp:P.getD c 0=(v:Int)) now2 M2 h2 h3=>hw c hc hp (put σ v x) now2 M2 (hat.child hP hv hc hp x) (hz.put v hx1) (hsz.put v hx2) h2 h3
 have hfn:=uO aU J P (put σ v x)
 have hft:=fun (cs:List Int) (k:Nat) (hk:k<cs.length)=>oG aU J P (put σ v x) hk
 have hfz:=yv aU J P (al P v) (put σ v x)
 have hnl:(aA now).length=J.S.attrs.length:=by rw [List.length_map,hn.l]
 have hsl:(ay (stL σ J.S.attrs.length)).length=J.S.attrs.length:=by rw [List.length_map,cK]
 have hsl2:(ay (stL (put σ v x) J.S.attrs.length)).length=J.S.attrs.length:=by rw [List.length_map,cK]
 have h1:=ix (l:=now) (a:=v) x
 have h2:=kZ (σ:=σ) hva x
 have h3:(ay (stL (put σ v x) J.S.attrs.length)).set (v*1) (.bool false)=ay (stL σ J.S.attrs.length):=by rw [qO hva,cO hself]
 have hun:∀ now2,NowOk J.S.attrs.length (put σ v x) now2→NowOk J.S.attrs.length σ now2:=fun now2 h4=>by have:=h4.un (v:Int);rwa [cO hself] at this
 generalize al P v=CS at*
 clear hw
 generalize put σ v x=σ2 at*
 refine Z1 rfl rfl ?_
 refine Ge rfl follows [0,1,2,3,4,5,6,7,8,9,10,11,12,13,14] (by kernel_rfl) ?_
 iterate 11 refine D1 rfl rfl ?_
 refine Ds 25 [_] rfl rfl rfl (fun τ h=>aa v underlying47 sz9 (Ee h 0 rfl rfl) (Eo h 0 rfl rfl) (Ee h 1 rfl rfl) rfl (by omega)) rfl (by kernel_rfl) ?_
 refine DL.step (d:=none) [_] rfl rfl rfl (fun τ h=>aF sz9 (Ee h 0 rfl rfl) (Eo h 0 rfl rfl) (Ee h 1 rfl rfl) rfl (by omega)) rfl (by kernel_rfl) ?_
 refine Ds 26 [_] rfl rfl rfl (fun τ h=>aa v underlying115 sz4 (Ee h 0 rfl rfl) (Eo h 0 rfl rfl) (Ee h 1 rfl rfl) rfl (by omega)) rfl (by kernel_rfl) ?_
 refine DL.step (d:=none) [_] rfl rfl rfl (fun τ h=>aF sz4 (Ee h 0 rfl rfl) (Eo h 0 rfl rfl) (Ee h 1 rfl rfl) rfl (by omega)) rfl (by kernel_rfl) ?_
 refine ⟨by kernel_rfl,?_⟩
 refine Im (Io (l:=[(0,.ptr big 0),(1,.pv (.int .i64 v)),(2,.pv (.str x))]) (os:=o6B J (wdB D) σ2 (now.set v x) (ba M) (bB M)) (k:=0) (aS rfl) ⟨rfl,congrArg (fun c=>some (Ob.cells 9 c)) h1,congrArg (fun c=>some (Ob.cells 4 c)) h2,rfl,rfl,rfl,trivial⟩ rfl rfl) ?_
 refine Gr rfl ?_
 iterate 6 refine A1 rfl ?_
 refine Rs 33 rfl rfl (bb call142 rfl (wg _ _) rfl) ?_
 refine A1 rfl ?_
 refine Gr rfl ?_
 iterate 6 refine A1 rfl ?_
 refine Rs 40 rfl rfl (ag v underlying142 ly rfl rfl rfl hvo hon) ?_
 refine Rs 41 rfl rfl (ai ⟨_,underlying22,rfl⟩ rfl hov) ?_
 refine Y2 rfl rfl ?_
 refine Gl rfl (st:=fun x_0:Nat=>mkS [(0,.ptr big 0),(1,.pv (.int .i64 v)),(7,.pv (.bool true)),(41,.pv (ak Hs)),(42,.pv (.int .i64 Hs.length)),(43,.pv (.int .i64 x_0))] [(big,oB (wdB D) 1000004 1000001 J.S.attrs.length 1000002 1000003),(1000001,.cells 9 (aA (now.set v x))),(1000002,.cells 4 (ay (stL σ2 J.S.attrs.length))),(1000003,.mp (ba M) (bB M)),(1000004,oX2 J 1000005),(1000005,.mp J.pk J.pv)] 0)
  (I:=fun x_0=>x_0≤Hs.length) (μ:=fun x_0=>Hs.length-x_0) (x0:=(0)) (Io (aS rfl) (aO (by kernel_rfl)) rfl rfl) (Nat.zero_le _) ?_
 rintro k hk
 refine Z1 rfl rfl ?_
 refine Gp rfl rfl (fun hc44=>?_) (fun hc44=>?_)
 ·have hlt:k<Hs.length:=by omega
  have hHl:=hoh.1
  obtain ⟨hr0,hr1⟩:=hoh.2 _ (List.getElem_mem hlt)
  obtain ⟨r,hr⟩:=Int.eq_ofNat_of_zero_le hr0
  have hrl:r<J.S.rels.length:=by omega
  have hpv:(aE Hs)[k*1]? =some (.int .i64 (r:Int)):=by rw [← hr];simp [hlt]
  have hpn:=aH hlt
  have hrT:r<J.T.length:=by rw [hJ.n];exact hrl
  have htr:=cD hrT
  have htn:=dN hrT
  have hTl:=hJ.l _ (List.getElem_mem hrT)
  have hxv:=hJ.v r hrT hrl
  have hga:=fun (i:Nat) (hi:i<J.T[r].length)=>hagr r hrl J.T[r][i] (hxv _ (List.getElem_mem hi))
  generalize J.T[r]=tf at*
  refine Il ?_
  refine Z1 rfl rfl ?_
  refine Rs 46 rfl rfl (ai ⟨_,underlying3,rfl⟩ rfl hpv) ?_
  refine A1 rfl ?_
  refine Gr rfl ?_
  iterate 8 refine A1 rfl ?_
  refine Rs 55 rfl rfl (ag r underlying35 qk rfl rfl rfl hrT htn) ?_
  refine Rs 56 rfl rfl (ai ⟨_,underlying38,rfl⟩ rfl htr) ?_
  refine Y2 rfl rfl ?_
  refine Gl rfl (st:=fun x_1:Nat=>mkS [(0,.ptr big 0),(1,.pv (.int .i64 v)),(7,.pv (.bool true)),(9,.pv (.int .i64 (r:Int))),(41,.pv (ak Hs)),(42,.pv (.int .i64 Hs.length)),(43,.pv (.int .i64 k)),(56,.pv (bL tf)),(57,.pv (.int .i64 tf.length)),(58,.pv (.int .i64 x_1))] [(big,oB (wdB D) 1000004 1000001 J.S.attrs.length 1000002 1000003),(1000001,.cells 9 (aA (now.set v x))),(1000002,.cells 4 (ay (stL σ2 J.S.attrs.length))),(1000003,.mp (ba M) (bB M)),(1000004,oX2 J 1000005),(1000005,.mp J.pk J.pv)] 0)
   (I:=fun x_1=>x_1≤tf.length) (μ:=fun x_1=>tf.length-x_1) (x0:=(0)) (Io (aS rfl) (aO (by kernel_rfl)) rfl rfl) (Nat.zero_le _) ?_
  rintro k3 hk3
  refine Z1 rfl rfl ?_
  refine Gp rfl rfl (fun hc59=>?_) (fun hc59=>?_)
  ·have hlt3:k3<tf.length:=by omega
   have hrw:=aN hlt3
   have hrn:=aW hlt3
   have hgk:=hga k3 hlt3
   generalize tf[k3]=y at*
   generalize hbg:agr J.S.rels[r].2 σ2 y.v=b at*
   refine Il ?_
   refine Z1 rfl rfl ?_
   first | refine A3 rfl (by assumption) ?_ | refine A1 rfl ?_
   refine Y2 rfl rfl ?_
   refine Z3 rfl rfl rfl rfl ?_
   refine Rs 65 rfl rfl (ah [big,1000001,1000002,1000003,1000004,1000005] 1 call102 hgk rfl rfl rfl rfl ⟨rfl,rfl,rfl,rfl,rfl,rfl,trivial⟩ (by decide) rfl) ?_
   refine Gc rfl rfl (fun hc65=>?_) (fun hc65=>?_)
   ·refine Ge rfl follows [0,1,2,3,4,5,6,7,8,9,10,11,12,13,14] (by kernel_rfl) ?_
    iterate 12 refine D1 rfl rfl ?_
    refine Ds 78 [] rfl rfl rfl (fun τ h=>bb call143 (Ee h 0 rfl rfl) (Cf _) (h.jv rfl)) rfl (by kernel_rfl) ?_
    refine Ds 79 [] rfl rfl rfl (fun τ h=>bb call190 (Ee h 0 rfl rfl) (kM _ _) (h.jv rfl)) rfl (by kernel_rfl) ?_
    refine D1 rfl rfl ?_
    refine ⟨by kernel_rfl,?_⟩
    refine Z2 rfl rfl rfl ?_
    exact ⟨(k3+1),Io (aS rfl) (aO (by kernel_rfl)) rfl rfl,by omega,by omega⟩
   ·refine Il ?_
    refine Z2 rfl rfl rfl ?_
    exact ⟨(k3+1),Io (aS rfl) (aO (by kernel_rfl)) rfl rfl,by omega,by omega⟩
  ·skip
   refine Gx rfl ?_
   refine Z2 rfl rfl rfl ?_
   exact ⟨(k+1),Io (aS rfl) (aO (by kernel_rfl)) rfl rfl,by omega,by omega⟩
 ·skip
  refine Gx rfl ?_
  refine Gr rfl ?_
  iterate 6 refine A1 rfl ?_
  refine Rs 88 rfl rfl (ag v underlying142 ly rfl rfl rfl hvc hcn) ?_
  refine Rs 89 rfl rfl (ai ⟨_,underlying22,rfl⟩ rfl hcv) ?_
  refine Y2 rfl rfl ?_
  refine Gl rfl (st:=fun x_2:Nat×List ByteArray×List (ByteArray×Bool)=>mkS [(0,.ptr big 0),(1,.pv (.int .i64 v)),(7,.pv (.bool (fl aU J P (CS.take x_2.1) σ2))),(89,.pv (ak CS)),(90,.pv (.int .i64 CS.length)),(91,.pv (.int .i64 x_2.1))] [(big,oB (wdB D) 1000004 1000001 J.S.attrs.length 1000002 1000003),(1000001,.cells 9 (aA x_2.2.1)),(1000002,.cells 4 (ay (stL σ2 J.S.attrs.length))),(1000003,.mp (ba x_2.2.2) (bB x_2.2.2)),(1000004,oX2 J 1000005),(1000005,.mp J.pk J.pv)] 0)
   (I:=fun x_2=>x_2.1≤CS.length∧NowOk J.S.attrs.length σ2 x_2.2.1∧iz aU J P x_2.2.2) (μ:=fun x_2=>CS.length-x_2.1) (x0:=(0,now.set v x,M)) (Io ⟨rfl,rfl,congrArg (fun b=>V.pv (.bool b)) hfn.symm,rfl,rfl,rfl,trivial⟩ (aO (by kernel_rfl)) rfl rfl) (⟨Nat.zero_le _,hnp,hM⟩) ?_
  rintro ⟨k4,now2,M2⟩ ⟨hk4,hn2,hM2⟩
  try simp only at hk4 hn2 hM2 ⊢
  refine Z1 rfl rfl ?_
  refine Gp rfl rfl (fun hc92=>?_) (fun hc92=>?_)
  ·have hlt4:k4<CS.length:=by omega
   obtain ⟨c,hc,hce,hcp⟩:=hkid _ (List.getElem_mem hlt4)
   have hpv4:(aE CS)[k4*1]? =some (.int .i64 (c:Int)):=by rw [← hce];simp [hlt4]
   have hpn4:=aH hlt4
   have hvk:=hview c hc hcp now2 M2 hn2 hM2
   have htk:=hft CS k4 hlt4
   have hfz4:=hfz k4
   rw [hce] at htk
   generalize hag:fl aU J P (CS.take k4) σ2=acc at*
   refine Il ?_
   refine Z1 rfl rfl ?_
   refine Rs 94 rfl rfl (ai ⟨_,underlying3,rfl⟩ rfl hpv4) ?_
   refine A1 rfl ?_
   refine Gr rfl ?_
   iterate 6 refine A1 rfl ?_
   refine Rs 101 rfl rfl (bb call191 rfl (xv _) rfl) ?_
   refine Gc rfl rfl (fun hc101=>?_) (fun hc101=>?_)
   ·have haf:acc=false:=by simpa using hc101
    have hall:acc=fl aU J P CS σ2:=haf.trans (hfz4 haf).symm
    rw [hall]
    refine Gx rfl ?_
    refine Gr rfl ?_
    iterate 5 refine A1 rfl ?_
    refine Rs 118 rfl rfl (aa v underlying115 sz4 rfl rfl rfl rfl (by omega)) ?_
    refine RL.step (d:=none) rfl rfl (aF sz4 rfl rfl rfl rfl (by omega)) ?_
    refine Z2 rfl rfl rfl ?_
    refine Gt rfl ?_
    exact ⟨[(6,.pv (.bool (fl aU J P CS σ2)))],o6B J (wdB D) σ now2 (ba M2) (bB M2),[.pv (.bool (fl aU J P CS σ2))],Io (aS rfl) ⟨by kernel_rfl,by kernel_rfl,congrArg (fun c=>some (Ob.cells 4 c)) h3,by kernel_rfl,by kernel_rfl,by kernel_rfl,trivial⟩ rfl rfl,rfl,rfl,rfl,now2,M2,hun _ hn2,hM2,rfl,rfl⟩
   ·refine Il ?_
    refine Ge rfl follows [0,1,2,3,4,5,6,7,8,9,10] (by kernel_rfl) ?_
    iterate 8 refine D1 rfl rfl ?_
    refine DL.rel (RV (RBB J P σ2 (fv aU J P c σ2))) [1000001,1000003] [] [big,1000001,1000002,1000003,1000004,1000005] rfl rfl rfl (fun τ h=>Gh call145 hvk vj (h.args.trans rfl) rfl rfl ⟨Eo h 0 rfl rfl,Eo h 1 rfl rfl,Eo h 2 rfl rfl,Eo h 3 rfl rfl,Eo h 4 rfl rfl,Eo h 5 rfl rfl,trivial⟩) rfl (by kernel_rfl) (by kernel_rfl) (by kernel_rfl) ?_
    rintro _ ⟨_,_,_,⟨now3,M3,hn3,hM3,rfl,rfl,rfl⟩,rfl⟩ _ _
    refine Ds 111 [] rfl rfl rfl (fun τ h=>bb call190 (Ee h 0 rfl rfl) (kM _ _) (h.jv rfl)) rfl (by kernel_rfl) ?_
    refine D1 rfl rfl ?_
    refine ⟨by kernel_rfl,?_⟩
    refine Z2 rfl rfl rfl ?_
    exact ⟨(k4+1,now3,M3),Io ⟨rfl,rfl,congrArg (fun b=>V.pv (.bool b)) htk.symm,rfl,rfl,rfl,trivial⟩ (aO (by kernel_rfl)) rfl rfl,⟨by omega,hn3,hM3⟩,by simp only;omega⟩
  ·rw [show CS.take k4=CS from List.take_of_length_le (by omega)]
   refine Gx rfl ?_
   refine Gr rfl ?_
   iterate 5 refine A1 rfl ?_
   refine Rs 118 rfl rfl (aa v underlying115 sz4 rfl rfl rfl rfl (by omega)) ?_
   refine RL.step (d:=none) rfl rfl (aF sz4 rfl rfl rfl rfl (by omega)) ?_
   refine Z2 rfl rfl rfl ?_
   refine Gt rfl ?_
   exact ⟨[(6,.pv (.bool (fl aU J P CS σ2)))],o6B J (wdB D) σ now2 (ba M2) (bB M2),[.pv (.bool (fl aU J P CS σ2))],Io (aS rfl) ⟨by kernel_rfl,by kernel_rfl,congrArg (fun c=>some (Ob.cells 4 c)) h3,by kernel_rfl,by kernel_rfl,by kernel_rfl,trivial⟩ rfl rfl,rfl,rfl,rfl,now2,M2,hun _ hn2,hM2,rfl,rfl⟩
theorem x8 (J:JD) (P:List Int) (D:VD) (h:CtxV J P D):∀ (k v:Nat),v<P.length→P.length≤k+(bp P v).length+1→oa J P D v∧gC J P D v:=by
 have hP:=h.ord.dP
 intro k
 induction k with
 | zero=>
   intro v hv hk
   have hb:=js J P D h v hv fun c hc hp=>by
    have:=lu hP hc
    rw [bO hP hc hv hp,List.length_cons] at this
    omega
   exact ⟨lX J P D h v hv hb,hb⟩
 | succ k ih=>
   intro v hv hk
   have hb:=js J P D h v hv fun c hc hp=>(ih c hc (by rw [bO hP hc hv hp,List.length_cons];omega)).1
   exact ⟨lX J P D h v hv hb,hb⟩
theorem Cs (J:JD) (P:List Int) (D:VD) (h:CtxV J P D) (v:Nat) (hv:v<P.length):oa J P D v:=(x8 J P D h P.length v hv (by omega)).1
theorem w3 (J:JD) (P:List Int) (D:VD) (h:CtxV J P D) (v:Nat) (hv:v<P.length):gC J P D v:=(x8 J P D h P.length v hv (by omega)).2
end
section
open Go.RowKit Mk Jn
set_option maxHeartbeats 4000000
theorem s9 (J:JD) (P:List Int) (D:VD) (h:CtxV J P D) (σ:Asg ByteArray) (now:List ByteArray) (mk mv:List PV):FnO Tryz.prog 144 6 0 [.ptr big 0] (o6B J (wdB D) σ now mk mv) (fun v ob'=>v= .pv (ak (al P (-1)))∧ob'=ar (o6B J (wdB D) σ now mk mv)):=by
 refine FnO.of func144 rfl ntmps144 (by simp) fun m0 w0 F R0=>?_
 have hvc:P.length<D.chs.length:=by rw [h.chl];omega
 have hcv:=cM hvc
 have hcn:=cQ hvc
 rw [h.xZ] at hcv
 have hcl:=h.chl
 have hn64:=h.n64
 refine Z1 rfl rfl ?_
 refine Ge rfl follows [0,1,2,3,4,5,6,7,8,9,10,11,12,13,14] (by kernel_rfl) ?_
 iterate 12 refine D1 rfl rfl ?_
 refine Ds 15 [] rfl rfl rfl (fun τ h=>ag P.length underlying142 ly (Ee h 0 rfl rfl) (Ee h 1 rfl rfl) (by omega) hvc hcn) rfl (by kernel_rfl) ?_
 refine Ds 16 [] rfl rfl rfl (fun τ h=>ai ⟨_,underlying22,rfl⟩ (Ee h 0 rfl rfl) hcv) rfl (by kernel_rfl) ?_
 refine D1 rfl rfl ?_
 refine ⟨by kernel_rfl,?_⟩
 refine Gt rfl ?_
 exact ⟨[(2,.pv (ak (al P (-1))))],o6B J (wdB D) σ now mk mv,[.pv (ak (al P (-1)))],Io (aS rfl) (aO rfl) rfl rfl,rfl,rfl,rfl,rfl,rfl⟩
theorem sB (J:JD) (P:List Int) (D:VD) (h:CtxV J P D) (σ:Asg ByteArray) (hσ:∀ a,σ a=none) (now:List ByteArray) (M:List (ByteArray×Bool)) (hn:NowOk J.S.attrs.length σ now) (hM:iz aU J P M):FnO Tryz.prog 97 6 0 [.ptr big 0] (o6B J (wdB D) σ now (ba M) (bB M)) (QKB J P D σ (fl aU J P (al P (-1)) σ)):=by
 refine FnO.of func97 rfl ntmps97 (by simp) fun m0 w0 F R0=>?_
 have hP:=h.ord.dP
 have hn64:=h.n64
 have hroots:=s9 J P D h σ now (ba M) (bB M)
 have hkid:∀ c∈al P (-1),∃ m:Nat,m<P.length∧c=(m:Int)∧P.getD m 0= -1:=fun c hc=>aX.1 hc
 have hcl:(al P (-1)).length≤64:=Nat.le_trans (Nat.le_trans (List.length_filter_le ..) (by rw [a8];exact Nat.le_refl _)) hn64
 have hview:=fun (c:Nat) (hc:c<P.length) (hp:P.getD c 0= -1) now2 M2 h2 h3=>Cs J P D h c hc σ now2 M2 ⟨fun a ha=>by rw [eJ hc (by rw [← getD_at hc];exact hp)] at ha;simp at ha,fun a _=>hσ a⟩ (fun a x e=>by rw [hσ] at e;cases e) (fun a x e=>by rw [hσ] at e;cases e) h2 h3
 have hfn:=uO aU J P σ
 have hft:=fun (cs:List Int) (k:Nat) (hk:k<cs.length)=>oG aU J P σ hk
 generalize al P (-1)=CS at*
 refine Z1 rfl rfl ?_
 refine Gr rfl ?_
 iterate 6 refine A1 rfl ?_
 refine Z1 rfl rfl ?_
 refine Rs 12 rfl rfl (ah [big,1000001,1000002,1000003,1000004,1000005] 0 call144 hroots rfl rfl rfl rfl ⟨rfl,rfl,rfl,rfl,rfl,rfl,trivial⟩ (by decide) rfl) ?_
 refine Y2 rfl rfl ?_
 refine Gl rfl (st:=fun x_0:Nat×List ByteArray×List (ByteArray×Bool)=>mkS [(0,.ptr big 0),(3,.pv (.bool (fl aU J P (CS.take x_0.1) σ))),(12,.pv (ak CS)),(13,.pv (.int .i64 CS.length)),(14,.pv (.int .i64 x_0.1))] [(big,oB (wdB D) 1000004 1000001 J.S.attrs.length 1000002 1000003),(1000001,.cells 9 (aA x_0.2.1)),(1000002,.cells 4 (ay (stL σ J.S.attrs.length))),(1000003,.mp (ba x_0.2.2) (bB x_0.2.2)),(1000004,oX2 J 1000005),(1000005,.mp J.pk J.pv)] 0)
  (I:=fun x_0=>x_0.1≤CS.length∧NowOk J.S.attrs.length σ x_0.2.1∧iz aU J P x_0.2.2) (μ:=fun x_0=>CS.length-x_0.1) (x0:=(0,now,M)) (Io ⟨rfl,congrArg (fun b=>V.pv (.bool b)) hfn.symm,rfl,rfl,rfl,trivial⟩ (aO (by kernel_rfl)) rfl rfl) (⟨Nat.zero_le _,hn,hM⟩) ?_
 rintro ⟨k4,now2,M2⟩ ⟨hk4,hn2,hM2⟩
 try simp only at hk4 hn2 hM2 ⊢
 refine Z1 rfl rfl ?_
 refine Gp rfl rfl (fun hc15=>?_) (fun hc15=>?_)
 ·have hlt4:k4<CS.length:=by omega
  obtain ⟨c,hc,hce,hcp⟩:=hkid _ (List.getElem_mem hlt4)
  have hpv4:(aE CS)[k4*1]? =some (.int .i64 (c:Int)):=by rw [← hce];simp [hlt4]
  have hpn4:=aH hlt4
  have hvk:=hview c hc hcp now2 M2 hn2 hM2
  have htk:=hft CS k4 hlt4
  rw [hce] at htk
  generalize hag:fl aU J P (CS.take k4) σ=acc at*
  refine Il ?_
  refine Z1 rfl rfl ?_
  refine Rs 17 rfl rfl (ai ⟨_,underlying3,rfl⟩ rfl hpv4) ?_
  refine A1 rfl ?_
  refine Ge rfl follows [0,1,2,3,4,5,6,7,8,9,10] (by kernel_rfl) ?_
  iterate 8 refine D1 rfl rfl ?_
  refine DL.rel (RV (RBB J P σ (fv aU J P c σ))) [1000001,1000003] [] [big,1000001,1000002,1000003,1000004,1000005] rfl rfl rfl (fun τ h=>Gh call145 hvk vj (h.args.trans rfl) rfl rfl ⟨Eo h 0 rfl rfl,Eo h 1 rfl rfl,Eo h 2 rfl rfl,Eo h 3 rfl rfl,Eo h 4 rfl rfl,Eo h 5 rfl rfl,trivial⟩) rfl (by kernel_rfl) (by kernel_rfl) (by kernel_rfl) ?_
  rintro _ ⟨_,_,_,⟨now3,M3,hn3,hM3,rfl,rfl,rfl⟩,rfl⟩ _ _
  refine Ds 27 [] rfl rfl rfl (fun τ h=>bb call190 (Ee h 0 rfl rfl) (kM _ _) (h.jv rfl)) rfl (by kernel_rfl) ?_
  refine D1 rfl rfl ?_
  refine ⟨by kernel_rfl,?_⟩
  refine Z2 rfl rfl rfl ?_
  exact ⟨(k4+1,now3,M3),Io ⟨rfl,congrArg (fun b=>V.pv (.bool b)) htk.symm,rfl,rfl,rfl,trivial⟩ (aO (by kernel_rfl)) rfl rfl,⟨by omega,hn3,hM3⟩,by simp only;omega⟩
 ·rw [show CS.take k4=CS from List.take_of_length_le (by omega)]
  refine Gx rfl ?_
  refine Z2 rfl rfl rfl ?_
  refine Gt rfl ?_
  exact ⟨[(2,.pv (.bool (fl aU J P CS σ)))],o6B J (wdB D) σ now2 (ba M2) (bB M2),[.pv (.bool (fl aU J P CS σ))],Io (aS rfl) (aO (by kernel_rfl)) rfl rfl,rfl,rfl,rfl,now2,M2,hn2,hM2,rfl,rfl⟩
end
section
theorem St.Ib {σ τ:St} (p:Nat→Bool) (ρ:Nat→Nat) (hs:∀ t,τ.sl t= .pv .any∨σ.sl t=(τ.sl t).ren ρ) (hsp:∀ t,(τ.sl t).all p=true)
  (ho:∀ i o,τ.ob i=some o→σ.ob (ρ i)=some (o.ren ρ)∧p i=true∧o.all p=true) (hinj:∀ i j,p i=true→p j=true→ρ i=ρ j→i=j)
  (hav:∀ i,p i=true→τ.av i=false) (hbig:∀ i,big≤i→τ.av i=false∧ρ i=i):σ.le τ:=by
 rintro C n a w ⟨m,R,hw⟩
 let m2:Gm:=fun i=>if (τ.ob i).isSome then m (ρ i) else none
 have sub:∀ i x,m2 i=some x→m (ρ i)=some x∧p i=true:=fun i x h=>by
  simp only [m2] at h
  split at h
  ·rename_i hs
   obtain ⟨o,hoo⟩:=Option.isSome_iff_exists.1 hs
   exact ⟨h,(ho i o hoo).2.1⟩
  ·cases h
 have um:∀ i x,p i=true→m2 i=some x→m (ρ i)=some x:=fun i x _ h=>(sub i x h).1
 refine ⟨m2,R,⟨?_,?_,?_,?_,?_,hw.hr.rsz,hw.hr.rfr,hw.hr.r0,hw.hr.frame,?_,fun i hi=>(hbig i hi).1⟩,hw.df,hw.sz,?_⟩
 ·intro i
  simp only [m2]
  cases e:τ.ob i with
  | none=>rfl
  | some o=>
    have:=hw.hr.dom (ρ i)
    rw [(ho i o e).1] at this
    simpa [bl,Ob.ia] using this
 ·intro i hi
  cases e:τ.ob i with
  | none=>rfl
  | some o=>
    have h3:=hav i (ho i o e).2.1
    rw [hi] at h3
    cases h3
 ·intro i o b N h3 h4
  have h5:=ho i o h3
  exact (hw.hr.obj _ _ b N h5.1 (sub _ _ h4).1).eP ρ p um hav h5.2.2
 ·intro i j b N N' e1 e2
  exact hinj i j (sub _ _ e1).2 (sub _ _ e2).2 (hw.hr.inj _ _ b N N' (sub _ _ e1).1 (sub _ _ e2).1)
 ·exact fun i b N e=>hw.hr.own _ b N (sub _ _ e).1
 ·intro i x hi e
  have e2:=(sub i x e).1
  rw [(hbig i hi).2] at e2
  exact hw.hr.keep i x hi e2
 ·intro t ht
  rcases hs t with e | e
  ·rw [e];simp only [Rel,RelP]
  ·have h3:=hw.sl t ht
   rw [e] at h3
   exact h3.eP ρ p um hav _ _ (hsp t)
def ovl (σ:St) (A:Nat) (TA T:TypeId) (cells:List V) (ls:List (List PV)):St:=
 ⟨σ.sl,fun id=>bif Nat.beq id A then some (.mix TA cells) else bif (Nat.ble 1000 id&&Nat.blt id (1000+ls.length)) then some (.gro T (ls.getD (id-1000) [])) else σ.ob id,fun id=>σ.av id&&Nat.blt id 1000⟩
def chV (ls:List (List PV)):List V:=ls.zipIdx.map fun p=> .gsl (p.2+1000) 1 p.1.length
def chP (ls:List (List PV)):List V:=ls.map fun c=> .pv (.sl none c.length c)
theorem xA {ls:List (List PV)} {j:Nat} (h:j<ls.length):(chV ls)[j*1]? =some (.gsl (j+1000) 1 ls[j].length):=by
 simp [chV,h]
theorem fp (ls:List (List PV)):(chV ls).length=ls.length:=by simp [chV]
theorem beqT {i k:Nat} (h:i=k):Nat.beq i k=true:=by subst h;exact Nat.beq_refl i
theorem y7 {i k:Nat} (h:i≠k):Nat.beq i k=false:=by
 cases hb:Nat.beq i k with
 | false=>rfl
 | true=>exact absurd (Nat.eq_of_beq_eq_true hb) h
theorem bltT {i k:Nat} (h:i<k):Nat.blt i k=true:=Nat.ble_eq_true_of_le h
theorem Bo {i k:Nat} (h:Nat.blt i k=true):i<k:=Nat.le_of_ble_eq_true h
theorem b8 {σ:St} {A:Nat} {TA T:TypeId} {cells:List V} {ls:List (List PV)} (hA:A<1000) {j:Nat} (h:j<ls.length):(ovl σ A TA T cells ls).ob (j+1000)=some (.gro T ls[j]):=by
 show (bif Nat.beq (j+1000) A then _ else _)=_
 rw [y7 (by omega),cond_false,show Nat.ble 1000 (j+1000)=true from Nat.ble_eq_true_of_le (by omega),show Nat.blt (j+1000) (1000+ls.length)=true from bltT (by omega)]
 simp [List.getD,h]
theorem iV {σ:St} {A:Nat} {TA T:TypeId} {cells:List V} {ls:List (List PV)} {i:Nat} (h:i≠A) (h2:i<1000):(ovl σ A TA T cells ls).ob i=σ.ob i:=by
 show (bif Nat.beq i A then _ else _)=_
 rw [y7 h,cond_false]
 have:Nat.ble 1000 i=false:=by
  cases hb:Nat.ble 1000 i with
  | false=>rfl
  | true=>have:=Nat.le_of_ble_eq_true hb;omega
 rw [this];rfl
theorem mL {σ:St} {A:Nat} {TA T:TypeId} {cells:List V} {ls:List (List PV)} (hA:A<1000) {i:Nat} (h:1000+ls.length≤i):(ovl σ A TA T cells ls).ob i=σ.ob i:=by
 show (bif Nat.beq i A then _ else _)=_
 rw [y7 (by omega),cond_false]
 have:Nat.blt i (1000+ls.length)=false:=by
  cases hb:Nat.blt i (1000+ls.length) with
  | false=>rfl
  | true=>have:=Bo hb;omega
 rw [this,Bool.and_false];rfl
theorem ph {σ:St} {A:Nat} {TA T:TypeId} {cells:List V} {ls:List (List PV)}:(ovl σ A TA T cells ls).ob A=some (.mix TA cells):=by
 show (bif Nat.beq A A then _ else _)=_
 rw [beqT rfl];rfl
theorem St.Ae {σ:St} {A:Nat} {TA:TypeId} (T:TypeId) (m:Nat) (ho:σ.ob A=some (.mix TA (List.replicate m (.pv nS)))) (hA:A<1000) (hm:m≤1000) (hav:∀ i,1000≤i→i<2000→σ.av i=true):σ.le (ovl σ A TA T (chV (List.replicate m [])) (List.replicate m [])):=by
 rintro C n a w ⟨mm,R,hw⟩
 have hA2:∀ i,σ.av i=false→(ovl σ A TA T (chV (List.replicate m [])) (List.replicate m [])).av i=false:=fun i h=>by
  show (σ.av i&&_)=false
  rw [h];rfl
 have hnone:∀ i,1000≤i→i<2000→mm i=none:=fun i h1 h2=>by
  have h3:=hw.hr.dom i
  rw [hw.hr.free i (hav i h1 h2)] at h3
  simpa [bl] using h3
 have hRR:∀ b,R b→R b∧w.heap[b]? =w.heap[b]? :=fun b h=>⟨h,rfl⟩
 refine ⟨mm,R,⟨?_,?_,?_,hw.hr.inj,hw.hr.own,hw.hr.rsz,hw.hr.rfr,hw.hr.r0,hw.hr.frame,hw.hr.keep,fun i hi=>hA2 i (hw.hr.res i hi)⟩,hw.df,hw.sz,fun t ht=>(hw.sl t ht).mono hRR (fun _ _ _ e=>e) hA2 _ _⟩
 ·intro i
  by_cases e:i=A
  ·subst e;rw [ph,hw.hr.dom,ho];rfl
  ·by_cases h1:i<1000
   ·rw [iV e h1];exact hw.hr.dom i
   ·by_cases h2:i<1000+m
    ·have:=b8 (σ:=σ) (TA:=TA) (T:=T) (cells:=chV (List.replicate m [])) (ls:=List.replicate m []) hA (j:=i-1000) (by simp;omega)
     rw [show i-1000+1000=i by omega] at this
     rw [this,hnone i (by omega) (by omega)]
     simp [bl,Ob.real]
    ·rw [mL hA (by simp;omega)];exact hw.hr.dom i
 ·intro i h
  have h':(σ.av i&&Nat.blt i 1000)=true:=h
  rw [Bool.and_eq_true] at h'
  have h2:=hw.hr.free i h'.1
  have hlt:=Bo h'.2
  have e:i≠A:=fun e=>by subst e;rw [ho] at h2;cases h2
  rw [iV e hlt];exact h2
 ·intro i o b N h1 h2
  by_cases e:i=A
  ·subst e
   rw [ph] at h1
   cases h1
   obtain ⟨arr,q1,q2,q3,q4⟩:=hw.hr.obj i _ b N ho h2
   refine ⟨arr,q1,q2,by rw [fp];simpa using q3,?_⟩
   rw [fp]
   simp only [List.length_replicate] at q4 ⊢
   have key:∀ (k s:Nat) (us:List Value),s+k≤m→RelL w mm σ.av R (List.replicate k (.pv nS)) us→RelL w mm (ovl σ i TA T (chV (List.replicate m [])) (List.replicate m [])).av R (((List.replicate k ([]:List PV)).zipIdx s).map fun p=> .gsl (p.2+1000) 1 p.1.length) us:=by
    intro k
    induction k with
    | zero=>intro s us _ h;simpa [RelL] using h
    | succ k ih=>
      intro s us hk h
      simp only [List.replicate_succ,RelL] at h
      obtain ⟨u,vs,rfl,hu,hv⟩:=h
      simp only [List.replicate_succ,List.zipIdx_cons,List.map_cons,RelL]
      refine ⟨u,vs,rfl,?_,ih (s+1) vs (by omega) hv⟩
      simp only [Rel,RelP] at hu ⊢
      obtain ⟨A',c,rfl,_,hc,hb,hcz,_⟩:=hu
      have hAn:=hb true rfl
      refine ⟨?_,A',c,rfl,Nat.zero_le _,hc,fun _=>⟨?_,hcz trivial,hnone _ (by omega) (by omega)⟩,fun h=>absurd h (by simp)⟩
      ·show (σ.av (s+1000)&&Nat.blt (s+1000) 1000)=false
       have:Nat.blt (s+1000) 1000=false:=by
        cases hb:Nat.blt (s+1000) 1000 with
        | false=>rfl
        | true=>have:=Bo hb;omega
       rw [this,Bool.and_false]
      ·cases A' with
       | none=>rfl
       | some _=>simp at hAn
   exact key m 0 _ (by omega) q4
  ·by_cases hf:1000≤i∧i<1000+m
   ·have:=hnone i hf.1 (by omega)
    rw [this] at h2;cases h2
   ·have h3:σ.ob i=some o:=by
     by_cases h1000:i<1000
     ·rwa [iV e h1000] at h1
     ·rwa [mL hA (by simp;omega)] at h1
    exact (hw.hr.obj i o b N h3 h2).mono hRR (fun _ _ _ e=>e) hA2 rfl
mutual
theorem V.all_mono {p q:Nat→Bool} (h:∀ i,p i=true→q i=true):∀ v:V,v.all p=true→v.all q=true
 | .pv _,_=>rfl
 | .ptr i _,hv=>by simp only [V.all] at hv ⊢; exact h i hv
 | .osl i _ _,hv=>by simp only [V.all] at hv ⊢; exact h i hv
 | .tsl i _ _,hv=>by simp only [V.all] at hv ⊢; exact h i hv
 | .gsl i _ _,hv=>by simp only [V.all] at hv ⊢; exact h i hv
 | .map i,hv=>by simp only [V.all] at hv ⊢; exact h i hv
 | .agg cs,hv=>by simp only [V.all] at hv ⊢; exact V.allL_mono h cs hv
 | .tup cs,hv=>by simp only [V.all] at hv ⊢; exact V.allL_mono h cs hv
 | .fn _ a b,hv=>by simp only [V.all,Bool.and_eq_true] at hv ⊢; exact ⟨V.allL_mono h a hv.1,V.allL_mono h b hv.2⟩
theorem V.allL_mono {p q:Nat→Bool} (h:∀ i,p i=true→q i=true):∀ vs:List V,V.allL p vs=true→V.allL q vs=true
 | [],_=>rfl
 | c::cs,hv=>by simp only [V.allL,Bool.and_eq_true] at hv ⊢; exact ⟨V.all_mono h c hv.1,V.allL_mono h cs hv.2⟩
end
mutual
theorem V.oH (id:Nat) (r:Bool) (cs:List PV):∀ v:V,v.all (fun i=> !(Nat.beq i id))=true→V.pubV id r cs v=v
 | .pv _,_=>rfl
 | .ptr _ _,_=>rfl
 | .osl i _ _,h=>by simp only [V.all,Bool.not_eq_true'] at h;simp only [V.pubV,h,cond_false]
 | .tsl i _ _,h=>by simp only [V.all,Bool.not_eq_true'] at h;simp only [V.pubV,h,cond_false]
 | .gsl i _ _,h=>by simp only [V.all,Bool.not_eq_true'] at h;simp only [V.pubV,h,cond_false]
 | .map _,_=>rfl
 | .agg cs',h=>by simp only [V.all] at h;simp only [V.pubV,V.pubL_out id r cs cs' h]
 | .tup cs',h=>by simp only [V.all] at h;simp only [V.pubV,V.pubL_out id r cs cs' h]
 | .fn _ a b,h=>by simp only [V.all,Bool.and_eq_true] at h;simp only [V.pubV,V.pubL_out id r cs a h.1,V.pubL_out id r cs b h.2]
theorem V.pubL_out (id:Nat) (r:Bool) (cs:List PV):∀ vs:List V,V.allL (fun i=> !(Nat.beq i id)) vs=true→V.pubL id r cs vs=vs
 | [],_=>rfl
 | c::cs',h=>by simp only [V.allL,Bool.and_eq_true] at h;simp only [V.pubL,V.oH id r cs c h.1,V.pubL_out id r cs cs' h.2]
end
theorem Ob.oH (id:Nat) (r:Bool) (cs:List PV) {o:Ob} (h:o.all (fun i=> !(Nat.beq i id))=true):o.BF id r cs=o:=by
 cases o with
 | mix t vs=>exact congrArg _ (V.pubL_out id r cs vs h)
 | cells _ _=>rfl
 | gro _ _=>rfl
 | mp _ _=>rfl
 | it _ _=>rfl
 | fro _ _=>rfl
def chM (ls:List (List PV)) (j:Nat):List V:=chV (ls.take j)++chP (ls.drop j)
theorem Dc {id:Nat} {r:Bool} {cs:List PV} (vs:List V):V.pubL id r cs vs=vs.map (V.pubV id r cs):=by
 induction vs with
 | nil=>rfl
 | cons v vs ih=>rw [V.pubL,ih,List.map_cons]
theorem GD (ls:List (List PV)) {j:Nat} (h:j<ls.length):V.pubL (j+1000) false ls[j] (chM ls (j+1))=chM ls j:=by
 rw [Dc]
 unfold chM
 have e1:chV (ls.take (j+1))=chV (ls.take j)++[.gsl (j+1000) 1 ls[j].length]:=by
  rw [List.take_succ_eq_append_getElem h]
  simp only [chV,List.zipIdx_append,List.map_append,List.zipIdx_cons,List.zipIdx_nil,List.map_cons,List.map_nil,List.length_take]
  rw [show 0+min j ls.length=j by omega]
 have e2:chP (ls.drop j)= .pv (.sl none ls[j].length ls[j])::chP (ls.drop (j+1)):=by
  rw [List.drop_eq_getElem_cons h];rfl
 have h1:(chV (ls.take j)).map (V.pubV (j+1000) false ls[j])=chV (ls.take j):=by
  have:∀ v∈chV (ls.take j),V.pubV (j+1000) false ls[j] v=v:=fun v hv=>by
   unfold chV at hv
   obtain ⟨q,hq,rfl⟩:=List.mem_map.1 hv
   have:=List.mem_zipIdx hq
   have h3:=this.2.1
   rw [List.length_take] at h3
   simp only [V.pubV]
   rw [y7 (by omega),cond_false]
  rw [List.map_congr_left this]
  exact List.map_id' _
 have h2:(chP (ls.drop (j+1))).map (V.pubV (j+1000) false ls[j])=chP (ls.drop (j+1)):=by
  have:∀ v∈chP (ls.drop (j+1)),V.pubV (j+1000) false ls[j] v=v:=fun v hv=>by
   unfold chP at hv
   obtain ⟨q,_,rfl⟩:=List.mem_map.1 hv
   rfl
  rw [List.map_congr_left this]
  exact List.map_id' _
 have h3:V.pubV (j+1000) false ls[j] (.gsl (j+1000) 1 ls[j].length)= .pv (.sl none ls[j].length ls[j]):=by
  simp only [V.pubV]
  rw [beqT rfl,cond_true]
 rw [e1,e2,List.map_append,List.map_append,h1,h2,List.map_cons,List.map_nil,h3,List.append_assoc,List.singleton_append]
theorem St.zC {σ:St} {A:Nat} {TA T:TypeId} (ls:List (List PV)) (hA:A<1000) (hm:ls.length≤1000) (hs:∀ t,(σ.sl t).all (fun i=>Nat.blt i 1000)=true) (ho:∀ i o,σ.ob i=some o→i<1000∧o.all (fun i=>Nat.blt i 1000)=true):
  (ovl σ A TA T (chV ls) ls).le (ovl σ A TA T (chP ls) []):=by
 have vm:∀ (j:Nat) (v:V),v.all (fun i=>Nat.blt i 1000)=true→v.all (fun i=> !(Nat.beq i (j+1000)))=true:=fun j v h=>V.all_mono (fun i hi=>by
  have:=Bo hi
  rw [y7 (by omega)];rfl) v h
 have om:∀ (j:Nat) (o:Ob),o.all (fun i=>Nat.blt i 1000)=true→o.all (fun i=> !(Nat.beq i (j+1000)))=true:=fun j o h=>by
  cases o with
  | mix t vs=>exact V.allL_mono (fun i hi=>by
    have:=Bo hi
    rw [y7 (by omega)];rfl) vs h
  | cells _ _=>rfl
  | gro _ _=>rfl
  | mp _ _=>rfl
  | it _ _=>rfl
  | fro _ _=>rfl
 have step:∀ j,(h:j<ls.length)→(ovl σ A TA T (chM ls (j+1)) (ls.take (j+1))).le (ovl σ A TA T (chM ls j) (ls.take j)):=by
  intro j h
  have hlt:j<(ls.take (j+1)).length:=by rw [List.length_take];omega
  have hfam:=b8 (σ:=σ) (TA:=TA) (T:=T) (cells:=chM ls (j+1)) hA hlt
  rw [List.getElem_take] at hfam
  have hp:=Ir (j+1000) hfam (r:=false) (cs:=ls[j]) rfl
  have e:(ovl σ A TA T (chM ls (j+1)) (ls.take (j+1))).G3 (j+1000) false ls[j]=ovl σ A TA T (chM ls j) (ls.take j):=by
   have e1:(fun t=>V.pubV (j+1000) false ls[j] (σ.sl t))=σ.sl:=funext fun t=>V.oH _ _ _ _ (vm j _ (hs t))
   have e2:∀ i,(bif Nat.beq i (j+1000) then none else ((ovl σ A TA T (chM ls (j+1)) (ls.take (j+1))).ob i).map (Ob.BF (j+1000) false ls[j]))=(ovl σ A TA T (chM ls j) (ls.take j)).ob i:=by
    intro i
    by_cases hi:i=j+1000
    ·subst hi
     rw [beqT rfl,cond_true,mL hA (by rw [List.length_take];omega)]
     cases hq:σ.ob (j+1000) with
     | none=>rfl
     | some o=>have:=(ho _ o hq).1;omega
    ·rw [y7 hi,cond_false]
     by_cases hiA:i=A
     ·subst hiA
      rw [ph,ph]
      simp only [Option.map_some,Ob.BF]
      rw [GD ls h]
     ·by_cases h1:i<1000
      ·rw [iV hiA h1,iV hiA h1]
       cases hq:σ.ob i with
       | none=>rfl
       | some o=>simp only [Option.map_some];rw [Ob.oH _ _ _ (om j o (ho i o hq).2)]
      ·by_cases h2:i<j+1000
       ·obtain ⟨q,rfl⟩:∃ q,i=q+1000:=⟨i-1000,by omega⟩
        rw [b8 hA (by rw [List.length_take];omega),b8 hA (by rw [List.length_take];omega)]
        simp [Ob.BF,List.getElem_take]
       ·rw [mL hA (by rw [List.length_take];omega),mL hA (by rw [List.length_take];omega)]
        cases hq:σ.ob i with
        | none=>rfl
        | some o=>have:=(ho i o hq).1;omega
   unfold St.G3
   show St.mk (fun t=>V.pubV (j+1000) false ls[j] (σ.sl t)) _ _=St.mk σ.sl _ _
   rw [e1]
   congr 1
   exact funext e2
  rw [e] at hp
  exact hp
 have all:∀ j,j≤ls.length→(ovl σ A TA T (chM ls j) (ls.take j)).le (ovl σ A TA T (chM ls 0) (ls.take 0)):=by
  intro j
  induction j with
  | zero=>exact fun _ C n a w h=>h
  | succ j ih=>exact fun h=>(step j h).trans (ih (by omega))
 have:=all ls.length (Nat.le_refl _)
 have e1:chM ls ls.length=chV ls:=by unfold chM chP;rw [List.take_length,List.drop_length];simp
 have e2:chM ls 0=chP ls:=by unfold chM;rw [List.take_zero,List.drop_zero];rfl
 rwa [e1,e2,List.take_length,List.take_zero] at this
def rnF (up nw i:Nat):Nat:=bif Nat.beq i (up+1000) then nw else i
theorem b9 {up nw i:Nat} (h:i≠up+1000):rnF up nw i=i:=by unfold rnF;rw [y7 h];rfl
theorem uu (up nw:Nat):rnF up nw (up+1000)=nw:=by unfold rnF;rw [beqT rfl];rfl
theorem St.ej {σ:St} {l:List (Nat×V)} {os:List (Nat×Ob)} {k A:Nat} {TA T:TypeId} {ls:List (List PV)} (up nw:Nat) (hl:mG σ (rnF up nw) l) (ho:dD σ (rnF up nw) os)
  (hA:σ.ob A=some (.mix TA (V.renL (rnF up nw) (chV ls)))) (hf:∀ j (h:j<ls.length),σ.ob (rnF up nw (j+1000))=some (.gro T ls[j])) (h1:l.all (fun p=>p.2.okA k)=true) (h2:os.all (fun p=>Nat.blt p.1 k&&p.2.okA k)=true)
  (hk:k≤nw) (hn:nw<1000) (hAk:A<k) (hup:up≤1000) (hm:ls.length≤1000):σ.le (ovl (mkS l os k) A TA T (chV ls) ls):=by
 have hbg:big=1000000:=rfl
 have kb:∀ i,(Nat.blt i k||Nat.ble big i)=true→i<k∨big≤i:=fun i h=>by
  rcases Bool.or_eq_true_iff.1 h with h | h
  ·exact .inl (Bo h)
  ·exact .inr (Nat.le_of_ble_eq_true h)
 refine St.Ib (fun i=>decide (i<k)||decide (big≤i)||(decide (1000≤i)&&decide (i<1000+ls.length))) (rnF up nw) ?_ ?_ ?_ ?_ ?_ ?_
 ·exact fC hl
 ·intro t
  exact V.all_mono (fun i hi=>by rcases kb i hi with h | h<;>simp [h]) _ (V.fr _ _ (look_ok h1 t))
 ·intro i o h
  by_cases e:i=A
  ·subst e
   rw [ph] at h
   cases h
   refine ⟨by rw [b9 (by omega)];exact hA,by simp [hAk],?_⟩
   show V.allL _ (chV ls)=true
   have:∀ (vs:List V),(∀ v∈vs,V.all (fun i=>decide (i<k)||decide (big≤i)||(decide (1000≤i)&&decide (i<1000+ls.length))) v=true)→V.allL (fun i=>decide (i<k)||decide (big≤i)||(decide (1000≤i)&&decide (i<1000+ls.length))) vs=true:=by
    intro vs
    induction vs with
    | nil=>intro _;rfl
    | cons v vs ih=>intro h;simp only [V.allL,Bool.and_eq_true];exact ⟨h v (by simp),ih fun w hw=>h w (by simp [hw])⟩
   refine this _ fun v hv=>?_
   unfold chV at hv
   obtain ⟨q,hq,rfl⟩:=List.mem_map.1 hv
   have:=(List.mem_zipIdx hq).2.1
   simp only [V.all]
   rw [decide_eq_true (show 1000≤q.2+1000 by omega),decide_eq_true (show q.2+1000<1000+ls.length by omega)]
   simp
  ·by_cases h1000:i<1000
   ·rw [iV e h1000] at h
    have hm':=bV h
    have h3:=List.all_eq_true.1 h2 _ hm'
    simp only [Bool.and_eq_true] at h3
    refine ⟨eE ho i o hm',by simp [Bo h3.1],?_⟩
    have h4:=Ob.fr k h3.2
    cases o with
    | mix t vs=>exact V.allL_mono (fun i hi=>by rcases kb i hi with h | h<;>simp [h]) vs h4
    | cells _ _=>rfl
    | gro _ _=>rfl
    | mp _ _=>rfl
    | it _ _=>rfl
    | fro _ _=>rfl
   ·by_cases h2000:i<1000+ls.length
    ·obtain ⟨j,rfl⟩:∃ j,i=j+1000:=⟨i-1000,by omega⟩
     have hj:j<ls.length:=by omega
     rw [b8 (by omega) hj] at h
     cases h
     refine ⟨hf j hj,?_,rfl⟩
     rw [decide_eq_true (show 1000≤j+1000 by omega),decide_eq_true (show j+1000<1000+ls.length by omega)]
     simp
    ·rw [mL (by omega) (by omega)] at h
     have hm':=bV h
     have h3:=List.all_eq_true.1 h2 _ hm'
     simp only [Bool.and_eq_true] at h3
     have:=Bo h3.1
     omega
 ·intro i j hi hj e
  simp only [Bool.or_eq_true,Bool.and_eq_true,decide_eq_true_eq] at hi hj
  by_cases e1:i=up+1000
  ·by_cases e2:j=up+1000
   ·rw [e1,e2]
   ·rw [e1,uu,b9 e2] at e
    omega
  ·by_cases e2:j=up+1000
   ·rw [e2,uu,b9 e1] at e
    omega
   ·rwa [b9 e1,b9 e2] at e
 ·intro i hi
  simp only [Bool.or_eq_true,Bool.and_eq_true,decide_eq_true_eq] at hi
  show (avK k i&&Nat.blt i 1000)=false
  rcases hi with (h | h) | h
  ·have:Nat.ble k i=false:=by
    cases hb:Nat.ble k i with
    | false=>rfl
    | true=>have:=Nat.le_of_ble_eq_true hb;omega
   unfold avK
   rw [this];rfl
  ·rw [dO h];rfl
  ·have:Nat.blt i 1000=false:=by
    cases hb:Nat.blt i 1000 with
    | false=>rfl
    | true=>have:=Bo hb;omega
   rw [this,Bool.and_false]
 ·intro i hi
  refine ⟨?_,b9 (by omega)⟩
  show (avK k i&&Nat.blt i 1000)=false
  rw [dO hi];rfl
theorem kg {ls:List (List PV)} {up:Nat} (hup:up<ls.length) (nw:Nat) (x:PV):V.renL (rnF up nw) (chV (ls.set up (ls[up]++[x])))=(chV ls).set (up*1) (.gsl nw 1 (ls[up].length+1)):=by
 have hr:∀ vs:List V,V.renL (rnF up nw) vs=vs.map (V.ren (rnF up nw)):=by
  intro vs
  induction vs with
  | nil=>rfl
  | cons v vs ih=>rw [V.renL,ih,List.map_cons]
 rw [hr]
 apply List.ext_getElem
 ·simp [chV]
 ·intro i h1 h2
  simp only [chV,List.length_map,List.length_zipIdx,List.length_set] at h1
  simp only [chV,List.getElem_map,List.getElem_zipIdx,List.getElem_set,Nat.mul_one,Nat.zero_add,V.ren]
  by_cases e:up=i
  ·subst e
   simp [uu]
  ·rw [if_neg e,if_neg e,b9 (by omega)]
def St.mixC (σ:St) (id:Nat) (T:TypeId) (cs:List PV):St:=⟨σ.sl,obL [(id,some (.cells T cs))] σ.ob,σ.av⟩
theorem St.zb {σ:St} {id:Nat} {T:TypeId} {vs:List V} {cs:List PV} (ho:σ.ob id=some (.mix T vs)) (hc:vs=cs.map .pv):σ.le (σ.mixC id T cs):=by
 subst hc
 rintro C n a w ⟨m,R,hw⟩
 have hs:∀ i,i≠id→obL [(id,some (Ob.cells T cs))] σ.ob i=σ.ob i:=fun i hi=>dJ _ _ _ (by simpa using hi)
 have hi:obL [(id,some (Ob.cells T cs))] σ.ob id=some (.cells T cs):=by simp [obL]
 refine ⟨m,R,⟨?_,?_,?_,hw.hr.inj,hw.hr.own,hw.hr.rsz,hw.hr.rfr,hw.hr.r0,hw.hr.frame,hw.hr.keep,hw.hr.res⟩,hw.df,hw.sz,hw.sl⟩
 ·intro i
  by_cases e:i=id
  ·subst e;rw [hw.hr.dom,ho];show _=bl (obL _ _ _);rw [hi];rfl
  ·show _=bl (obL _ _ _);rw [hs i e];exact hw.hr.dom i
 ·intro i h
  by_cases e:i=id
  ·subst e;have:=hw.hr.free i h;rw [ho] at this;cases this
  ·show obL _ _ _=none;rw [hs i e];exact hw.hr.free i h
 ·intro i o b N h1 h2
  by_cases e:i=id
  ·subst e
   have h1':obL [(i,some (Ob.cells T cs))] σ.ob i=some o:=h1
   rw [hi] at h1'
   cases h1'
   obtain ⟨arr,q1,q2,q3,q4⟩:=hw.hr.obj i _ b N ho h2
   rw [List.length_map] at q3 q4
   exact ⟨arr,q1,q2,q3,RelL.toP q4⟩
  ·have h1':obL [(id,some (Ob.cells T cs))] σ.ob i=some o:=h1
   rw [hs i e] at h1'
   exact hw.hr.obj i o b N h1' h2
def St.obC (σ:St) (id:Nat) (o:Ob):St:=⟨σ.sl,obL [(id,some o)] σ.ob,σ.av⟩
theorem St.Ei {σ:St} {id:Nat} {o o':Ob} (ho:σ.ob id=some o) (hre:o'.real=o.real) (h:∀ w m av R b N,lD w m av R b N o→lD w m av R b N o'):σ.le (σ.obC id o'):=by
 rintro C n a w ⟨m,R,hw⟩
 have hs:∀ i,i≠id→obL [(id,some o')] σ.ob i=σ.ob i:=fun i hi=>dJ _ _ _ (by simpa using hi)
 have hi:obL [(id,some o')] σ.ob id=some o':=by simp [obL]
 refine ⟨m,R,⟨?_,?_,?_,hw.hr.inj,hw.hr.own,hw.hr.rsz,hw.hr.rfr,hw.hr.r0,hw.hr.frame,hw.hr.keep,hw.hr.res⟩,hw.df,hw.sz,hw.sl⟩
 ·intro i
  by_cases e:i=id
  ·subst e;rw [hw.hr.dom,ho];show _=bl (obL _ _ _);rw [hi];exact hre.symm
  ·show _=bl (obL _ _ _);rw [hs i e];exact hw.hr.dom i
 ·intro i h
  by_cases e:i=id
  ·subst e;have:=hw.hr.free i h;rw [ho] at this;cases this
  ·show obL _ _ _=none;rw [hs i e];exact hw.hr.free i h
 ·intro i q b N h1 h2
  by_cases e:i=id
  ·subst e
   have h1':obL [(i,some o')] σ.ob i=some q:=h1
   rw [hi] at h1'
   cases h1'
   exact h _ _ _ _ _ _ (hw.hr.obj i _ b N ho h2)
  ·have h1':obL [(id,some o')] σ.ob i=some q:=h1
   rw [hs i e] at h1'
   exact hw.hr.obj i q b N h1' h2
theorem St.py {σ:St} {T:TypeId} {cs:List PV} (id:Nat) (ho:σ.ob id=some (.cells T cs)):σ.le (σ.obC id (.mix T (cs.map .pv))):=by
 refine St.Ei ho rfl fun w m av R b N h=>?_
 obtain ⟨arr,q1,q2,q3,q4⟩:=h
 exact ⟨arr,q1,q2,by rw [List.length_map];exact q3,by rw [List.length_map];exact RelL.ofP q4⟩
def V.fgV:V→V
 | .pv (.sl _ n cs)=> .pv (.sl none n cs)
 | v=>v
theorem Rel.fgV {w:World} {m:Gm} {av:Av} {R:Nat→Prop}:∀ {v:V} {u:Value},Rel w m av R v u→Rel w m av R v.fgV u:=by
 intro v u h
 cases v with
 | pv p=>
   cases p with
   | sl nl n cs=>
     simp only [V.fgV,Rel,RelP] at h ⊢
     obtain ⟨A,c,e,h1,h2,_,_,h5⟩:=h
     exact ⟨A,c,e,h1,h2,fun _ h=>(by cases h),fun h=>(by cases h),h5⟩
   | _=>exact h
 | _=>exact h
theorem RelL.fgV {w:World} {m:Gm} {av:Av} {R:Nat→Prop}:∀ {vs:List V} {us:List Value},RelL w m av R vs us→RelL w m av R (vs.map V.fgV) us
 | [],_,h=>h
 | v::vs,us,h=>by
   simp only [RelL] at h
   obtain ⟨u,us',rfl,h1,h2⟩:=h
   simp only [List.map_cons,RelL]
   exact ⟨u,us',rfl,h1.fgV,RelL.fgV h2⟩
theorem St.uB {σ:St} {T:TypeId} {vs:List V} (id:Nat) (ho:σ.ob id=some (.mix T vs)):σ.le (σ.obC id (.mix T (vs.map V.fgV))):=by
 refine St.Ei ho rfl fun w m av R b N h=>?_
 obtain ⟨arr,q1,q2,q3,q4⟩:=h
 exact ⟨arr,q1,q2,by rw [List.length_map];exact q3,by rw [List.length_map];exact RelL.fgV q4⟩
theorem eQ {ls:List (List PV)} {up:Nat} (nw:Nat) (h:ls.length≤up):V.renL (rnF up nw) (chV ls)=chV ls:=by
 have hr:∀ vs:List V,V.renL (rnF up nw) vs=vs.map (V.ren (rnF up nw)):=by
  intro vs
  induction vs with
  | nil=>rfl
  | cons v vs ih=>rw [V.renL,ih,List.map_cons]
 rw [hr]
 have:∀ v∈chV ls,V.ren (rnF up nw) v=v:=fun v hv=>by
  unfold chV at hv
  obtain ⟨q,hq,rfl⟩:=List.mem_map.1 hv
  have:=(List.mem_zipIdx hq).2.1
  simp only [V.ren]
  rw [b9 (by omega)]
 rw [List.map_congr_left this]
 exact List.map_id' _
theorem xN {k i:Nat} (hk:k≤1000) (h1:1000≤i) (h2:i<2000):avK k i=true:=by
 unfold avK
 rw [Nat.ble_eq_true_of_le (show k≤i by omega),bltT (show i<big from by show i<1000000;omega)];rfl
end
end Go.Proofs.YtjlikknopfnllaaGreatDoor
