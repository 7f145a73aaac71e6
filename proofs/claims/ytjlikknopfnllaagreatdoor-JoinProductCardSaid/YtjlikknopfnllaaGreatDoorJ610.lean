/-
  Texts of ours, joined and shortened by merge2.py: K4N, K5N, KN, K8N, K9N, KXN, KD, Lz, KY, KZ, KE. No statement of the program is proved here.
-/
import Derived.Test.YtjlikknopfnllaaGreatDoorJ69
set_option maxRecDepth 100000
set_option maxHeartbeats 4000000
open Go.RowKit Go.Proofs.Tryz
namespace Go.Proofs.YtjlikknopfnllaaGreatDoor
section
open Go.RowKit Mk Jn
set_option maxHeartbeats 4000000
abbrev o8N (J:JD) (W:WD) (q:List ByteArray) (σ:Asg ByteArray) (now:List ByteArray) (mk mv:List PV):List (Nat×Ob):=[(big,cB q),(1000001,.mix 198 [.ptr 1000002 0]),(1000002,oN W 1000006 1000003 J.S.attrs.length 1000004 1000005),(1000003,.cells 9 (aA now)),(1000004,.cells 4 (ay (stL σ J.S.attrs.length))),(1000005,.mp mk mv),(1000006,oX2 J 1000007),(1000007,.mp J.pk J.pv)]
abbrev c1N (a:Nat) (rs:List Nat):V:= .fn (.func 257) [] [.ptr 1000001 0,.pv (.rp [.int .i64 a] 0),.pv (.rp [ak (bI rs)] 0)]
theorem qo (J:JD) (hJ:JOk J) (W:WD) (σ:Asg ByteArray) (now:List ByteArray) (hn:NowOk J.S.attrs.length σ now) (mk mv:List PV) (a:Nat) (ha:a<J.S.attrs.length) (hσ:σ (a:Int)=none) (rs:List Nat) (hl:rs.length≤1000) (hr:∀ r∈rs,r<J.S.rels.length) (l:List ByteArray) (n:Nat) (hln:l.length=n) (hn1:n≤1000) (i:Int)
  (hi1:∀ k (h:k<l.length),dS J rs σ a l[k]=true→(∀ j (h:j<l.length),j<k→dS J rs σ a l[j]=false)→i=k) (hi2:(∀ j (h:j<l.length),dS J rs σ a l[j]=false)→i= -1):
  FnO Tryz.prog 194 8 0 [.osl big 1 n,c1N a rs] (o8N J W l σ now mk mv) (fun v ob'=>v= .pv (.int .i64 i)∧ob'=ar (o8N J W l σ (tst now a (l.take (if i<0 then n else i.toNat+1))) mk mv)):=by
 refine FnO.of func194 rfl ntmps194 (by simp) fun m0 w0 F R0=>?_
 refine Z1 rfl rfl ?_
 refine Z3 rfl rfl rfl rfl ?_
 refine Gl rfl (st:=fun x_0:Nat=>mkS [(0,.osl big 1 n),(1,c1N a rs),(7,.pv (.int .i64 n)),(8,.pv (.int .i64 x_0))] [(big,cB l),(1000001,.mix 198 [.ptr 1000002 0]),(1000002,oN W 1000006 1000003 J.S.attrs.length 1000004 1000005),(1000003,.cells 9 (aA (tst now a (l.take x_0)))),(1000004,.cells 4 (ay (stL σ J.S.attrs.length))),(1000005,.mp mk mv),(1000006,oX2 J 1000007),(1000007,.mp J.pk J.pv)] 0)
  (I:=fun x_0=>x_0≤n∧∀ j (h:j<l.length),j<x_0→dS J rs σ a l[j]=false) (μ:=fun x_0=>n-x_0) (x0:=(0)) (Io (aS rfl) (aO (by kernel_rfl)) rfl rfl) (⟨Nat.zero_le _,fun _ _ h=>absurd h (by omega)⟩) ?_
 rintro k ⟨hk,hno⟩
 refine Z1 rfl rfl ?_
 refine Gp rfl rfl (fun hc9=>?_) (fun hc9=>?_)
 ·have hlt:k<l.length:=by omega
  have hv:=aM hlt
  have hgk:=mo J hJ W σ (tst now a (l.take k)) (ki hn ha hσ _) mk mv a ha hσ rs hl hr l[k]
  rw [jJ hlt] at hgk
  have hik:=hi1 k hlt
  rw [show (rs.any fun r=> !(bR (RJ J) r (put σ a l[k])))=dS J rs σ a l[k] from rfl] at hgk
  generalize hbk:dS J rs σ a l[k]=b at*
  refine Il ?_
  refine Z2 rfl rfl rfl ?_
  refine Z3 rfl rfl rfl rfl ?_
  refine Rs 14 rfl rfl (aa k underlying47 sz9 rfl rfl rfl rfl (by omega)) ?_
  refine Rs 15 rfl rfl (aC ⟨_,underlying9,rfl⟩ rfl rfl hv) ?_
  refine Rs 16 rfl rfl (bJ [1000001,1000002,1000003,1000004,1000005,1000006,1000007] 0 call257 hgk rfl rfl rfl rfl rfl rfl ⟨rfl,rfl,rfl,rfl,rfl,rfl,rfl,trivial⟩ (by decide) rfl) ?_
  refine Gc rfl rfl (fun hc16=>?_) (fun hc16=>?_)
  ·refine Z2 rfl rfl rfl ?_
   refine Gt rfl ?_
   exact ⟨[(4,.pv (.int .i64 k))],o8N J W l σ (tst now a (l.take (k+1))) mk mv,[.pv (.int .i64 k)],Io (aS rfl) (aO (by kernel_rfl)) rfl rfl,rfl,rfl,rfl,by rw [hik hc16 hno];rfl,by rw [hik hc16 hno,if_neg (by omega)];rfl⟩
  ·refine Il ?_
   refine Z2 rfl rfl rfl ?_
   exact ⟨(k+1),Io (aS rfl) (aO (by kernel_rfl)) rfl rfl,⟨by omega,fun j h hj=>by rcases Nat.lt_succ_iff_lt_or_eq.1 hj with h1 | h1;exact hno j h h1;subst h1;rw [hbk];exact hc16⟩,by omega⟩
 ·have hm:=hi2 fun j h=>hno j h (by omega)
  obtain rfl:n=k:=by omega
  refine Gx rfl ?_
  refine Z1 rfl rfl ?_
  refine Gt rfl ?_
  exact ⟨[(4,.pv (.int .i64 (-1)))],o8N J W l σ (tst now a (l.take n)) mk mv,[.pv (.int .i64 (-1))],Io (aS rfl) (aO (by kernel_rfl)) rfl rfl,rfl,rfl,rfl,by rw [hm];rfl,by rw [hm];rfl⟩
theorem pO (J:JD) (hJ:JOk J) (W:WD) (σ:Asg ByteArray) (now:List ByteArray) (hn:NowOk J.S.attrs.length σ now) (mk mv:List PV) (a:Nat) (ha:a<J.S.attrs.length) (hσ:σ (a:Int)=none) (rs:List Nat) (hl:rs.length≤1000) (hr:∀ r∈rs,r<J.S.rels.length) (l:List ByteArray) (n:Nat) (hln:l.length=n) (hn1:n≤1000):
  FnO Tryz.prog 150 8 0 [.osl big 1 n,c1N a rs] (o8N J W l σ now mk mv) (fun v ob'=>v= .osl big 1 (l.filter fun x=> !dS J rs σ a x).length∧ob'=ar (o8N J W (l.filter fun x=> !dS J rs σ a x) σ (tst now a l) mk mv)):=by
 obtain ⟨i,hi,hi1,hi2⟩:=jg l (dS J rs σ a)
 obtain ⟨hia,hib⟩:=sH hi hi1 hi2
 have hidx:=qo J hJ W σ now hn mk mv a ha hσ rs hl hr l n hln hn1 i hi1 hi2
 refine FnO.of func150 rfl ntmps150 (by simp) fun m0 w0 F R0=>?_
 clear hi hi1 hi2
 refine Z1 rfl rfl ?_
 refine Z2 rfl rfl rfl ?_
 refine Rs 10 rfl rfl (ah [big,1000001,1000002,1000003,1000004,1000005,1000006,1000007] 0 call194 hidx rfl rfl rfl rfl ⟨rfl,rfl,rfl,rfl,rfl,rfl,rfl,rfl,trivial⟩ (by decide) rfl) ?_
 refine A1 rfl ?_
 refine Z2 rfl rfl rfl ?_
 refine Gc rfl rfl (fun hc12=>?_) (fun hc12=>?_)
 ·have hie:i= -1:=by simpa using hc12
  have hf:(l.filter fun x=> !dS J rs σ a x)=l:=List.filter_eq_self.2 fun x hx=>by rw [hia hie x hx];rfl
  refine Z2 rfl rfl rfl ?_
  refine Gt rfl ?_
  exact ⟨[(4,.osl big 1 n)],o8N J W l σ (tst now a l) mk mv,[.osl big 1 n],Io (aS rfl) ⟨by kernel_rfl,by kernel_rfl,by kernel_rfl,Eq.trans (b:=some (Ob.cells 9 (aA (tst now a (l.take (if i<0 then n else i.toNat+1)))))) (by kernel_rfl) (by rw [hie,if_pos (by decide),List.take_of_length_le (by omega)]),by kernel_rfl,by kernel_rfl,by kernel_rfl,by kernel_rfl,trivial⟩ rfl rfl,rfl,rfl,rfl,by rw [hf,hln];rfl,by rw [hf]⟩
 ·have hne:¬ i= -1:=by intro e;rw [e] at hc12;simp at hc12
  obtain ⟨i0,rfl,hi0,hft⟩:=hib hne
  refine Il ?_
  refine Z3 rfl rfl rfl rfl ?_
  refine Gl rfl (st:=fun x_0:Nat×Nat×List ByteArray=>mkS [(0,.osl big 1 n),(1,c1N a rs),(5,.pv (.int .i64 x_0.2.1)),(6,.pv (.int .i64 x_0.1))] [(big,cB x_0.2.2),(1000001,.mix 198 [.ptr 1000002 0]),(1000002,oN W 1000006 1000003 J.S.attrs.length 1000004 1000005),(1000003,.cells 9 (aA (tst now a (l.take x_0.1)))),(1000004,.cells 4 (ay (stL σ J.S.attrs.length))),(1000005,.mp mk mv),(1000006,oX2 J 1000007),(1000007,.mp J.pk J.pv)] 0)
   (I:=fun x_0=>((x_0.1≤n∧x_0.2.1<x_0.1)∧x_0.2.2.length=n)∧(x_0.2.2.drop x_0.1=l.drop x_0.1∧x_0.2.2.take x_0.2.1=(l.take x_0.1).filter fun x=> !dS J rs σ a x)∧x_0.2.1=((l.take x_0.1).filter fun x=> !dS J rs σ a x).length) (μ:=fun x_0=>n-x_0.1) (x0:=(i0+1,i0,l)) (Io (aS rfl) ⟨by kernel_rfl,by kernel_rfl,by kernel_rfl,Eq.trans (b:=some (Ob.cells 9 (aA (tst now a (l.take (if (i0:Int)<0 then n else (i0:Int).toNat+1)))))) (by kernel_rfl) (by rw [if_neg (by omega)];rfl),by kernel_rfl,by kernel_rfl,by kernel_rfl,by kernel_rfl,trivial⟩ rfl rfl) (⟨⟨⟨by simp only;omega,by simp only;omega⟩,hln⟩,⟨rfl,by simp only;rw [hft]⟩,by simp only;rw [hft,List.length_take];omega⟩) ?_
  rintro ⟨k,m,q⟩ ⟨⟨⟨hk,hmk⟩,hql⟩,⟨hqd,hqt⟩,hme⟩
  try simp only at hk hmk hql hqd hqt hme ⊢
  have hqln:(aA q).length=n:=by rw [List.length_map,hql]
  refine Z4 rfl rfl rfl rfl rfl ?_
  refine Gp rfl rfl (fun hc19=>?_) (fun hc19=>?_)
  ·have hlt:k<l.length:=by omega
   have hq0:q[k]'(by omega)=l[k]:=by have:=congrArg (fun z=>z[0]?) hqd;simp only [List.getElem?_drop,Nat.add_zero] at this;rw [List.getElem?_eq_getElem (by omega),List.getElem?_eq_getElem hlt] at this;exact Option.some.inj this
   have hv:(aA q)[k*1]? =some (.str l[k]):=by rw [Nat.mul_one,List.getElem?_map,List.getElem?_eq_getElem (by omega),hq0];rfl
   have hgk:=mo J hJ W σ (tst now a (l.take k)) (ki hn ha hσ _) mk mv a ha hσ rs hl hr l[k]
   rw [jJ hlt] at hgk
   rw [show (rs.any fun r=> !(bR (RJ J) r (put σ a l[k])))=dS J rs σ a l[k] from rfl] at hgk
   have hdrop:q.drop (k+1)=l.drop (k+1):=by have:=congrArg (fun z=>z.drop 1) hqd;simpa only [List.drop_drop] using this
   have hfs:(l.take (k+1)).filter (fun x=> !dS J rs σ a x)=(l.take k).filter (fun x=> !dS J rs σ a x)++if dS J rs σ a l[k]=true then [] else [l[k]]:=by rw [List.take_succ_eq_append_getElem hlt];exact kR _ _ _
   generalize hbk:dS J rs σ a l[k]=b at*
   refine Il ?_
   refine Z2 rfl rfl rfl ?_
   refine Rs 24 rfl rfl (aa k underlying47 sz9 rfl rfl rfl rfl (by omega)) ?_
   refine Rs 25 rfl rfl (aC ⟨_,underlying9,rfl⟩ rfl rfl hv) ?_
   refine A1 rfl ?_
   refine Z2 rfl rfl rfl ?_
   refine Rs 28 rfl rfl (bJ [1000001,1000002,1000003,1000004,1000005,1000006,1000007] 0 call257 hgk rfl rfl rfl rfl rfl rfl ⟨rfl,rfl,rfl,rfl,rfl,rfl,rfl,trivial⟩ (by decide) rfl) ?_
   refine A1 rfl ?_
   refine Gc rfl rfl (fun hc29=>?_) (fun hc29=>?_)
   ·refine Z3 rfl rfl rfl rfl ?_
    refine Rs 33 rfl rfl (aa m underlying47 sz9 rfl rfl rfl rfl (by omega)) ?_
    refine RL.step (d:=none) rfl rfl (aF sz9 rfl rfl rfl rfl (by omega)) ?_
    refine Z3 rfl rfl rfl rfl ?_
    refine Z3 rfl rfl rfl rfl ?_
    exact ⟨(k+1,m+1,q.set m l[k]),Io (aS rfl) ⟨Eq.trans (b:=some (Ob.cells 9 ((aA q).set (m*1) (.str l[k])))) (by kernel_rfl) (congrArg (fun c=>some (Ob.cells 9 c)) (jS l[k])),by kernel_rfl,by kernel_rfl,by kernel_rfl,by kernel_rfl,by kernel_rfl,by kernel_rfl,by kernel_rfl,trivial⟩ rfl rfl,⟨⟨⟨by simp only;omega,by simp only;omega⟩,by simp only [List.length_set];exact hql⟩,⟨by simp only;rw [List.drop_set_of_lt (by omega)];exact hdrop,by simp only;rw [hfs,if_neg (by intro e;rw [e] at hc29;simp at hc29), ← hqt];exact du (by omega)⟩,by simp only;rw [hfs,if_neg (by intro e;rw [e] at hc29;simp at hc29),List.length_append, ← hme];rfl⟩,by simp only;omega⟩
   ·refine Il ?_
    refine Z3 rfl rfl rfl rfl ?_
    exact ⟨(k+1,m,q),Io (aS rfl) (aO (by kernel_rfl)) rfl rfl,⟨⟨⟨by simp only;omega,by simp only;omega⟩,hql⟩,⟨hdrop,by simp only;rw [hfs,if_pos (by simpa using hc29),List.append_nil];exact hqt⟩,by simp only;rw [hfs,if_pos (by simpa using hc29),List.append_nil];exact hme⟩,by simp only;omega⟩
  ·have hkn:l.take k=l:=List.take_of_length_le (by omega)
   rw [hkn] at hqt hme
   have hfin:(aA q).take (m*1)=aA (l.filter fun x=> !dS J rs σ a x):=by rw [Nat.mul_one, ← List.map_take,hqt]
   refine Gx rfl ?_
   refine Z2 rfl rfl rfl ?_
   refine Rs 38 rfl rfl (dK m underlying47 sz9 rfl rfl rfl rfl (by omega)) ?_
   refine RL.step (d:=none) rfl rfl (kn uq rfl rfl rfl (by omega)) ?_
   refine Z2 rfl rfl rfl ?_
   refine Rs 41 rfl rfl (dC m underlying47 sz9 rfl rfl rfl rfl (by omega)) ?_
   refine A1 rfl ?_
   refine Gt rfl ?_
   exact ⟨[(4,.osl big 1 m)],o8N J W (l.filter fun x=> !dS J rs σ a x) σ (tst now a l) mk mv,[.osl big 1 m],Io (aS rfl) ⟨Eq.trans (b:=some (Ob.cells 9 ((aA q).take (m*1)))) (by kernel_rfl) (congrArg (fun c=>some (Ob.cells 9 c)) hfin),by kernel_rfl,by kernel_rfl,Eq.trans (b:=some (Ob.cells 9 (aA (tst now a (l.take k))))) (by kernel_rfl) (by rw [hkn]),by kernel_rfl,by kernel_rfl,by kernel_rfl,by kernel_rfl,trivial⟩ rfl rfl,rfl,rfl,rfl,by rw [hme];rfl,rfl⟩
end
section
open Go.RowKit Mk Jn
set_option maxHeartbeats 4000000
theorem wS (J:JD) (W:WD) (σ:Asg ByteArray) (now:List ByteArray) (mk mv:List PV) (a:Nat) (rs:List Nat):
  FnO Tryz.prog 194 7 0 [.pv (aI []),.fn (.func 257) [] [.ptr big 0,.pv (.rp [.int .i64 a] 0),.pv (.rp [ak (bI rs)] 0)]] (o7N J W σ now mk mv) (fun v ob'=>v= .pv (.int .i64 (-1))∧ob'=ar (o7N J W σ now mk mv)):=by
 refine FnO.of func194 rfl ntmps194 (by simp) fun m0 w0 F R0=>?_
 refine Z1 rfl rfl ?_
 refine Z3 rfl rfl rfl rfl ?_
 refine Gl rfl (st:=fun x_0:Unit=>mkS [(0,.pv (aI [])),(1,.fn (.func 257) [] [.ptr big 0,.pv (.rp [.int .i64 a] 0),.pv (.rp [ak (bI rs)] 0)]),(7,.pv (.int .i64 0)),(8,.pv (.int .i64 0))] [(big,.mix 198 [.ptr 1000001 0]),(1000001,oN W 1000005 1000002 J.S.attrs.length 1000003 1000004),(1000002,.cells 9 (aA now)),(1000003,.cells 4 (ay (stL σ J.S.attrs.length))),(1000004,.mp mk mv),(1000005,oX2 J 1000006),(1000006,.mp J.pk J.pv)] 0)
  (I:=fun x_0=>True) (μ:=fun x_0=>0) (x0:=(())) (Io (aS rfl) (aO rfl) rfl rfl) (trivial) ?_
 rintro u hI
 refine Z1 rfl rfl ?_
 refine Gp rfl rfl (fun hc9=>absurd hc9 (by omega)) (fun hc9=>?_)
 refine Gx rfl ?_
 refine Z1 rfl rfl ?_
 refine Gt rfl ?_
 exact ⟨[(4,.pv (.int .i64 (-1)))],o7N J W σ now mk mv,[.pv (.int .i64 (-1))],Io (aS rfl) (aO (by kernel_rfl)) rfl rfl,rfl,rfl,rfl,rfl,rfl⟩
theorem vy (J:JD) (W:WD) (σ:Asg ByteArray) (now:List ByteArray) (mk mv:List PV) (a:Nat) (rs:List Nat):
  FnO Tryz.prog 150 7 0 [.pv (aI []),.fn (.func 257) [] [.ptr big 0,.pv (.rp [.int .i64 a] 0),.pv (.rp [ak (bI rs)] 0)]] (o7N J W σ now mk mv) (fun v ob'=>v= .pv (aI [])∧ob'=ar (o7N J W σ now mk mv)):=by
 refine FnO.of func150 rfl ntmps150 (by simp) fun m0 w0 F R0=>?_
 have hgo:=wS J W σ now mk mv a rs
 refine Z1 rfl rfl ?_
 refine Z2 rfl rfl rfl ?_
 refine Rs 10 rfl rfl (ah [big,1000001,1000002,1000003,1000004,1000005,1000006] 0 call194 hgo rfl rfl rfl rfl ⟨rfl,rfl,rfl,rfl,rfl,rfl,rfl,trivial⟩ (by decide) rfl) ?_
 refine A1 rfl ?_
 refine Z2 rfl rfl rfl ?_
 refine Gc rfl rfl (fun hc12=>?_) (fun hc12=>absurd hc12 (by simp at hc12))
 refine Z2 rfl rfl rfl ?_
 refine Gt rfl ?_
 exact ⟨[(4,.pv (aI []))],o7N J W σ now mk mv,[.pv (aI [])],Io (aS rfl) (aO (by kernel_rfl)) rfl rfl,rfl,rfl,rfl,rfl,rfl⟩
theorem wJ (J:JD) (hJ:JOk J) (hJ12:∀ l∈J.T,l.length≤12) (W:WD) (σ:Asg ByteArray) (now:List ByteArray) (hn:NowOk J.S.attrs.length σ now) (mk mv:List PV) (a:Nat) (ha:a<J.S.attrs.length) (hσ:σ (a:Int)=none) (hw:bw (RJ J) a≠[]):
  FnO Tryz.prog 227 6 0 [.ptr big 0,.pv (.int .i64 a)] (o6N J W σ now mk mv) (fun v ob'=>v= .pv (aI (bC (RJ J) sdS a σ))∧ob'=ar (o6N J W σ (tst now a (jx J a σ)) mk mv)):=by
 refine FnO.of func227 rfl ntmps227 (by simp) fun m0 w0 F R0=>?_
 have hS:=hJ.s
 have hSr:=hS.r
 obtain ⟨f,rest,hwf⟩:∃ f rest,bw (RJ J) a=f::rest:=by cases h:bw (RJ J) a with | nil=>exact absurd h hw | cons f rest=>exact ⟨f,rest,rfl⟩
 have hcv:=re J a σ hσ hwf (uK hJ f)
 have hcl:jx J a σ=sdS (xf J f a σ):=by unfold jx;rw [hwf]
 have hwm:=kA J a
 have hff:=hwm f (by rw [hwf];simp)
 have hfr:=hff.1
 have hrsl:(bw (RJ J) a).length≤1000:=Nat.le_trans (List.length_filter_le ..) (by simp [RJ];omega)
 have hrs:∀ r∈bw (RJ J) a,r<J.S.rels.length:=fun r hr=>(hwm r hr).1
 have hq0:(aE (bI (bw (RJ J) a)))[0]? =some (.int .i64 (f:Int)):=by rw [hwf];rfl
 have hqn:aE (bI (bw (RJ J) a))≠[]:=by rw [hwf];simp
 have hql:0<(bI (bw (RJ J) a)).length:=by rw [hwf];simp
 have hrne:=ew hfr
 have hra:(bj J.S.rels)[f*2+1]? =some (ak J.S.rels[f].2):=by
  have h2:(((bj J.S.rels).drop (f*2)).take 2)[1]? =[PV.str J.S.rels[f].1,ak J.S.rels[f].2][1]? :=by rw [cW hfr]
  simpa [List.getElem?_take,List.getElem?_drop] using h2
 have hrl:=hS.l _ (List.getElem_mem hfr)
 have hfT:f<J.T.length:=by rw [hJ.n];exact hfr
 have htr:=cD hfT
 have htn:=dN hfT
 have hTl:J.T[f].length≤12:=hJ12 _ (List.getElem_mem hfT)
 have hxv:=hJ.v f hfT hfr
 have hidx:=qb J.S.rels[f].2 a (by omega) (by rw [← show cy J f=J.S.rels[f].2 by simp [cy,List.getD,hfr]];exact hff.2)
 have hat:(J.S.rels[f].2).idxOf (a:Int)<J.S.rels[f].2.length:=List.idxOf_lt_length_of_mem (by rw [← show cy J f=J.S.rels[f].2 by simp [cy,List.getD,hfr]];exact hff.2)
 have hraw:xf J f a σ=(J.T[f].filter fun x=>agr J.S.rels[f].2 σ x.v).map fun x=>x.v.getD ((J.S.rels[f].2).idxOf (a:Int)) eb:=by unfold xf;rw [show cy J f=J.S.rels[f].2 by simp [cy,List.getD,hfr],show dh J f=J.T[f] by simp [dh,List.getD,hfT]]
 have hagr:∀ k (h:k<J.T[f].length),FnO Tryz.prog 256 6 0 [.ptr big 0,.pv (.int .i64 f),.pv (sJ J.T[f][k])] (o6N J W σ now mk mv) (fun v ob'=>v= .pv (.bool (agr J.S.rels[f].2 σ J.T[f][k].v))∧ob'=ar (o6N J W σ now mk mv)):=fun k h=>fq J hJ W σ now hn mk mv f hfr J.T[f][k] (hxv _ (List.getElem_mem h))
 have hdel:=fun (l:List ByteArray) (n:Nat) (h1:l.length=n) (h2:n≤1000)=>pO J hJ W σ now hn mk mv a ha hσ (bw (RJ J) a) hrsl hrs l n h1 h2
 have hdel0:=vy J W σ now mk mv a (bw (RJ J) a)
 have hwt:=mM J a
 rw [hcl,hcv]
 clear hcl hcv hwm hff hrs hrsl hw hn
 generalize J.T[f]=tf at*
 generalize J.S.rels[f].2=A at*
 generalize hrsg:bw (RJ J) (a:Int)=rs at*
 refine Z3 rfl rfl rfl rfl ?_
 refine Z1 rfl rfl ?_
 refine Im (St.er 2 0 3 1 3 rfl rfl rfl) ?_
 refine Gr rfl ?_
 iterate 10 refine A1 rfl ?_
 refine Gl rfl (st:=fun x_0:Nat×List Nat=>mkS [(2,.ptr 0 0),(3,.ptr 1 0),(5,.ptr 2 0),(22,.pv (.sl none J.S.rels.length (bj J.S.rels))),(23,.pv (.int .i64 J.S.rels.length)),(24,.pv (.int .i64 x_0.1))] [(big,oN W 1000004 1000001 J.S.attrs.length 1000002 1000003),(0,.mix 198 [.ptr big 0]),(1,.mix 3 [.pv (.int .i64 a)]),(2,.mix 22 [.gsl 3 1 x_0.2.length]),(3,.gro 3 (aE (bI x_0.2))),(1000001,.cells 9 (aA now)),(1000002,.cells 4 (ay (stL σ J.S.attrs.length))),(1000003,.mp mk mv),(1000004,oX2 J 1000005),(1000005,.mp J.pk J.pv)] 4)
  (I:=fun x_0=>(x_0.1≤J.S.rels.length∧x_0.2.length≤x_0.1)∧x_0.2=r4 J a x_0.1) (μ:=fun x_0=>J.S.rels.length-x_0.1) (x0:=(0,[])) (Io (aS rfl) (aO (by kernel_rfl)) rfl rfl) (⟨⟨Nat.zero_le _,Nat.le_refl _⟩,rfl⟩) ?_
 rintro ⟨k,q⟩ ⟨⟨hk,hqk⟩,hqe⟩
 try simp only at hk hqk hqe ⊢
 refine Z1 rfl rfl ?_
 refine Gp rfl rfl (fun hc25=>?_) (fun hc25=>?_)
 ·have hlt:k<J.S.rels.length:=by omega
  have hrow:=cW hlt
  have hne:=ew hlt
  have hkl:=hS.l _ (List.getElem_mem hlt)
  have hws:=mD J a hlt
  generalize J.S.rels[k]=rk at*
  refine Il ?_
  refine Z2 rfl rfl rfl ?_
  first | refine A3 rfl (by assumption) ?_ | refine A1 rfl ?_
  refine Y3 rfl rfl rfl ?_
  refine Z3 rfl rfl rfl rfl ?_
  refine Rs 32 rfl rfl (ae call146 (gY rk.2 a (by omega)) rfl) ?_
  refine Gc rfl rfl (fun hc32=>?_) (fun hc32=>?_)
  ·refine Gr rfl ?_
   iterate 5 refine A1 rfl ?_
   refine Z2 rfl rfl rfl ?_
   exact ⟨(k+1,q++[k]),Ip [0,1,2,6] (aT rfl) ⟨by kernel_rfl,by kernel_rfl,by kernel_rfl,Eq.trans (b:=some (.mix 22 [.gsl 6 1 (q.length+1)])) (by kernel_rfl) (congrArg (fun n=>some (Ob.mix 22 [.gsl 6 1 n])) (bW q k)),Eq.trans (b:=some (.gro 3 (aE (bI q)++[.int .i64 k]))) (by kernel_rfl) (congrArg (fun c=>some (Ob.gro 3 c)) (by simp)),by kernel_rfl,by kernel_rfl,by kernel_rfl,by kernel_rfl,by kernel_rfl,trivial⟩ rfl rfl (by decide) rfl,⟨⟨by simp only;omega,by simp only [List.length_append,List.length_singleton];omega⟩,by simp only;rw [hws,if_pos (of_decide_eq_true hc32),hqe]⟩,by simp only;omega⟩
  ·refine Il ?_
   refine Z2 rfl rfl rfl ?_
   exact ⟨(k+1,q),Io (aS rfl) (aO (by kernel_rfl)) rfl rfl,⟨⟨by simp only;omega,by simp only;omega⟩,by simp only;rw [hws,if_neg (of_decide_eq_false hc32),List.append_nil,hqe]⟩,by simp only;omega⟩
 ·have hqrs:q=rs:=by rw [hqe,show k=J.S.rels.length by omega,hwt]
  subst hqrs
  refine Im (Ir 3 rfl rfl) ?_
  refine Im (St.fS 2 rfl rfl) ?_
  refine Im (St.fS 1 rfl rfl) ?_
  refine Im (Io (l:=[(2,.ptr 0 0),(3,.pv (.rp [.int .i64 a] 0)),(5,.pv (.rp [ak (bI q)] 0))]) (os:=(0,.mix 198 [.ptr big 0])::o6N J W σ now mk mv) (k:=1) ⟨by kernel_rfl,by kernel_rfl,Eq.trans (b:= .pv (.rp [.sl none q.length (aE (bI q))] 0)) (by kernel_rfl) (congrArg (fun n=>V.pv (.rp [.sl none n (aE (bI q))] 0)) (show q.length=(bI q).length by simp)),trivial⟩ (aO (by kernel_rfl)) rfl rfl) ?_
  refine Gx rfl ?_
  refine Z1 rfl rfl ?_
  refine Rs 39 rfl rfl (ag 0 underlying22 sz3 rfl rfl rfl hql hqn) ?_
  refine Rs 40 rfl rfl (ai ⟨_,underlying3,rfl⟩ rfl hq0) ?_
  refine A1 rfl ?_
  refine Ge rfl follows [0,1,2,3,4,5,6,7,8,9,10,11,12,13,14] (by kernel_rfl) ?_
  iterate 9 refine D1 rfl rfl ?_
  refine Ds 50 [] rfl rfl rfl (fun τ h=>ag f underlying31 Eu (Ee h 0 rfl rfl) (Ee h 1 rfl rfl) rfl hfr hrne) rfl (by kernel_rfl) ?_
  refine D1 rfl rfl ?_
  refine Ds 52 [] rfl rfl rfl (fun τ h=>ai ⟨_,underlying22,rfl⟩ (Ee h 0 rfl rfl) hra) rfl (by kernel_rfl) ?_
  refine D1 rfl rfl ?_
  refine Ds 54 [] rfl rfl rfl (fun τ h=>ae call147 hidx (h.bt rfl)) rfl (by kernel_rfl) ?_
  refine D1 rfl rfl ?_
  refine ⟨by kernel_rfl,?_⟩
  refine Z1 rfl rfl ?_
  refine Im (Iu 10 1 1 9 rfl rfl) ?_
  refine Gr rfl ?_
  iterate 8 refine A1 rfl ?_
  refine Rs 63 rfl rfl (ag f underlying35 qk rfl rfl rfl hfT htn) ?_
  refine Rs 64 rfl rfl (ai ⟨_,underlying38,rfl⟩ rfl htr) ?_
  refine Y2 rfl rfl ?_
  refine Gl rfl (st:=fun x_1:Nat×List ByteArray=>mkS [(2,.ptr 0 0),(3,.pv (.rp [.int .i64 a] 0)),(5,.pv (.rp [ak (bI q)] 0)),(8,.pv (.int .i64 f)),(9,.pv (.int .i64 ((A.idxOf (a:Int):Nat):Int))),(10,.gsl 1 1 x_1.2.length),(64,.pv (bL tf)),(65,.pv (.int .i64 tf.length)),(66,.pv (.int .i64 x_1.1))] [(big,oN W 1000004 1000001 J.S.attrs.length 1000002 1000003),(0,.mix 198 [.ptr big 0]),(1,.gro 9 (aA x_1.2)),(1000001,.cells 9 (aA now)),(1000002,.cells 4 (ay (stL σ J.S.attrs.length))),(1000003,.mp mk mv),(1000004,oX2 J 1000005),(1000005,.mp J.pk J.pv)] 2)
   (I:=fun x_1=>(x_1.1≤tf.length∧x_1.2.length≤x_1.1)∧x_1.2=((tf.take x_1.1).filter fun x=>agr A σ x.v).map fun x=>x.v.getD (A.idxOf (a:Int)) eb) (μ:=fun x_1=>tf.length-x_1.1) (x0:=(0,[])) (Io (aS rfl) (aO (by kernel_rfl)) rfl rfl) (⟨⟨Nat.zero_le _,Nat.le_refl _⟩,rfl⟩) ?_
  rintro ⟨k2,q2⟩ ⟨⟨hk2,hqk2⟩,hqe2⟩
  try simp only at hk2 hqk2 hqe2 ⊢
  refine Z1 rfl rfl ?_
  refine Gp rfl rfl (fun hc67=>?_) (fun hc67=>?_)
  ·have hlt2:k2<tf.length:=by omega
   have hrw:=aN hlt2
   have hrn:=aW hlt2
   have hga:=hagr k2 hlt2
   have hxl:=hxv _ (List.getElem_mem hlt2)
   have htk2:=List.take_succ_eq_append_getElem hlt2
   generalize tf[k2]=x at*
   have hix:A.idxOf (a:Int)<x.v.length:=by omega
   have hvx:(aA x.v)[A.idxOf (a:Int)*1]? =some (.str (x.v.getD (A.idxOf (a:Int)) eb)):=by simp [List.getD,hix]
   have hxn:=bc hix
   refine Il ?_
   refine Z1 rfl rfl ?_
   first | refine A3 rfl (by assumption) ?_ | refine A1 rfl ?_
   refine Y2 rfl rfl ?_
   refine Ge rfl follows [0,1,2,3,4,5,6,7,8,9,10] (by kernel_rfl) ?_
   iterate 5 refine D1 rfl rfl ?_
   refine Ds 76 [] rfl rfl rfl (fun τ h=>cg (zp:= .str ByteArray.empty) underlying152 underlying3 (.inr (.inr ⟨(Ee h 0 rfl rfl),rfl,rfl⟩)) (Ee h 1 rfl rfl) rfl Ic rfl (r:=none) rfl rfl rfl) rfl (by kernel_rfl) ?_
   iterate 5 refine D1 rfl rfl ?_
   refine ⟨by kernel_rfl,?_⟩
   by_cases hag:agr A σ x.v=true
   ·rw [hag] at hga
    refine Z3 rfl rfl rfl rfl ?_
    refine Rs 82 rfl rfl (ah [big,1000001,1000002,1000003,1000004,1000005] 0 call256 hga rfl rfl rfl rfl ⟨rfl,rfl,rfl,rfl,rfl,rfl,trivial⟩ (by decide) rfl) ?_
    iterate 13 refine A1 rfl ?_
    refine Gc rfl rfl (fun hc95=>?_) (fun hc95=>absurd hc95 (by simp))
    refine Z4 rfl rfl rfl rfl rfl ?_
    refine Rs 100 rfl rfl (ag (A.idxOf (a:Int)) underlying47 sz9 rfl rfl rfl hix hxn) ?_
    refine Rs 101 rfl rfl (ai ⟨_,underlying9,rfl⟩ rfl hvx) ?_
    refine Y3 rfl rfl rfl ?_
    refine Z2 rfl rfl rfl ?_
    exact ⟨(k2+1,q2++[x.v.getD (A.idxOf (a:Int)) eb]),Ip [0,4] ⟨rfl,rfl,rfl,rfl,rfl,congrArg (fun n=>V.gsl 4 1 n) (bW q2 _),rfl,rfl,rfl,trivial⟩ ⟨by kernel_rfl,by kernel_rfl,Eq.trans (b:=some (.gro 9 (aA q2++[.str (x.v.getD (A.idxOf (a:Int)) eb)]))) (by kernel_rfl) (congrArg (fun c=>some (Ob.gro 9 c)) (by simp)),by kernel_rfl,by kernel_rfl,by kernel_rfl,by kernel_rfl,by kernel_rfl,trivial⟩ rfl rfl (by decide) rfl,⟨⟨by simp only;omega,by simp only [List.length_append,List.length_singleton];omega⟩,by simp only;rw [htk2,List.filter_append,List.map_append,hqe2];simp [List.filter_cons,hag]⟩,by simp only;omega⟩
   ·rw [eq_false_of_ne_true hag] at hga
    refine Z3 rfl rfl rfl rfl ?_
    refine Rs 82 rfl rfl (ah [big,1000001,1000002,1000003,1000004,1000005] 0 call256 hga rfl rfl rfl rfl ⟨rfl,rfl,rfl,rfl,rfl,rfl,trivial⟩ (by decide) rfl) ?_
    iterate 13 refine A1 rfl ?_
    refine Gc rfl rfl (fun hc95=>absurd hc95 (by simp)) (fun hc95=>?_)
    refine Il ?_
    refine Z2 rfl rfl rfl ?_
    exact ⟨(k2+1,q2),Io (aS rfl) (aO (by kernel_rfl)) rfl rfl,⟨⟨by simp only;omega,by simp only;omega⟩,by simp only;rw [htk2,List.filter_append,List.map_append,hqe2];simp [List.filter_cons,hag]⟩,by simp only;omega⟩
  ·have hq12:q2.length≤12:=by omega
   rw [show tf.take k2=tf from List.take_of_length_le (by omega)] at hqe2
   have hqr:q2=xf J f a σ:=hqe2.trans hraw.symm
   refine Gx rfl ?_
   by_cases hq2:q2=[]
   ·subst hq2
    refine Im (St.rB 10 rfl) ?_
    refine Z1 rfl rfl ?_
    refine Rs 106 rfl rfl (ae call148 lT rfl) ?_
    refine Z1 rfl rfl ?_
    refine Rs 108 rfl rfl (ae call149 gD rfl) ?_
    refine A1 rfl ?_
    refine Z2 rfl rfl rfl ?_
    refine Rs 111 rfl rfl (ah [0,big,1000001,1000002,1000003,1000004,1000005] 0 call150 hdel0 rfl rfl rfl rfl ⟨by kernel_rfl,by kernel_rfl,by kernel_rfl,by kernel_rfl,by kernel_rfl,by kernel_rfl,by kernel_rfl,trivial⟩ (by decide) rfl) ?_
    refine A1 rfl ?_
    refine Gt rfl ?_
    exact ⟨[(4,.pv (aI []))],o6N J W σ now mk mv,[.pv (aI [])],Io (aS rfl) (aO (by kernel_rfl)) rfl rfl,rfl,rfl,rfl,by rw [← hqr,nG];rfl,by rw [← hqr,nG];rfl⟩
   ·refine Im (St.ku 10 rfl rfl (List.length_pos_iff.2 hq2) (by simpa using hq2)) ?_
    have hsort:=mX q2 q2.length rfl hq12
    have hcmp:=jh (cR q2) q2.length (cY q2).length_eq (by omega)
    have hcl2:=jX (cR q2)
    have hsl2:=(cY q2).length_eq
    have hdl:=hdel (bD (cR q2)) (bD (cR q2)).length rfl (by omega)
    refine Z1 rfl rfl ?_
    refine Rs 106 rfl rfl (ah [1] 0 call148 hsort rfl rfl rfl rfl ⟨rfl,trivial⟩ (by decide) rfl) ?_
    refine Z1 rfl rfl ?_
    refine Rs 108 rfl rfl (ah [1] 0 call149 hcmp rfl rfl rfl rfl ⟨rfl,trivial⟩ (by decide) rfl) ?_
    refine A1 rfl ?_
    refine Im (Io (l:=[(2,.ptr 0 0),(3,.pv (.rp [.int .i64 a] 0)),(5,.pv (.rp [ak (bI q)] 0)),(10,.osl 1 1 (bD (cR q2)).length)]) (os:=(1,cB (bD (cR q2)))::(0,.mix 198 [.ptr big 0])::o6N J W σ now mk mv) (k:=2) (aS (by kernel_rfl)) (aO (by kernel_rfl)) rfl rfl) ?_
    refine Z2 rfl rfl rfl ?_
    refine Rs 111 rfl rfl (ah [1,0,big,1000001,1000002,1000003,1000004,1000005] 0 call150 hdl rfl rfl rfl rfl ⟨by kernel_rfl,by kernel_rfl,by kernel_rfl,by kernel_rfl,by kernel_rfl,by kernel_rfl,by kernel_rfl,by kernel_rfl,trivial⟩ (by decide) rfl) ?_
    refine A1 rfl ?_
    refine Im (Ir 1 rfl rfl) ?_
    refine Im (St.uQ [4]) ?_
    refine Gt rfl ?_
    exact ⟨[(4,.pv (aI ((bD (cR q2)).filter fun x=> !dS J q σ a x)))],o6N J W σ (tst now a (bD (cR q2))) mk mv,[.pv (aI ((bD (cR q2)).filter fun x=> !dS J q σ a x))],Io (aS (by kernel_rfl)) (aO (by kernel_rfl)) rfl rfl,rfl,rfl,rfl,by rw [← hqr];rfl,by rw [← hqr];rfl⟩
end
section
open Go.RowKit Mk Jn
set_option maxHeartbeats 4000000
abbrev nC (r:Nat):List V:=[.pv (.bool (decide ((r:Int)<0))),.pv (dd (r:Int).natAbs)]
abbrev xg (r:Nat):V:= .agg (nC r)
abbrev jQ (r:Nat):Ob:= .mix 91 (nC r)
def GE:Nat:=1001
def GN:Nat:=12^GE
theorem Hp {a e m:Nat} (he:e<m) (h:a≤12^e):(aj ((a:Nat):Int).natAbs).length≤m:=by
 rw [Int.natAbs_natCast,bF]
 exact Nat.lt_of_le_of_lt (Nat.le_trans h (Nat.pow_le_pow_left (by decide:12≤1000000000) e)) (Nat.pow_lt_pow_right (by decide) he)
theorem mV {a:Nat} (h:a≤GN):(aj ((a:Nat):Int).natAbs).length≤1000000:=Hp (e:=GE) (by decide) h
theorem ig {n k:Nat} (h:n≤12^k) (hk:k≤1001):n≤GN:=Nat.le_trans h (Nat.pow_le_pow_right (by decide) hk)
theorem D6:1≤GN:=ig (k:=0) (by decide) (by decide)
theorem F7 (a b:Nat) (ha:a≤GN) (hb:b≤GN):FnP Tryz.prog 86 [ec (a:Int),ec (b:Int)] (· =ec ((bG.add a b:Nat):Int)):=by
 have:=j1 (a:Int) (b:Int) (mV ha) (mV hb)
 rwa [show (a:Int)+(b:Int)=((bG.add a b:Nat):Int) from (Int.natCast_add a b).symm] at this
theorem th (a b:Nat) (ha:a≤GN) (hb:b≤GN):FnP Tryz.prog 87 [ec (a:Int),ec (b:Int)] (· =ec ((bG.mul a b:Nat):Int)):=by
 have:=sE (a:Int) (b:Int) (mV ha) (mV hb)
 rwa [show (a:Int)*(b:Int)=((bG.mul a b:Nat):Int) from (Int.natCast_mul a b).symm] at this
theorem zK (a:Nat):FnP Tryz.prog 88 [ec (a:Int)] (· = .bool (decide (a=0))):=by
 refine FnP.of func88 rfl ntmps88 (by simp) fun m0 w0 F R0=>?_
 have he:(((a:Int).sign)==0)=decide (a=0):=by
  cases a with
  | zero=>rfl
  | succ a=>rw [Int.sign_eq_one_of_pos (by omega)];simp
 refine Z2 rfl rfl rfl ?_
 refine Z1 rfl rfl ?_
 refine Rs 4 rfl rfl (ae call89 (nj _) rfl) ?_
 refine Y2 rfl rfl ?_
 refine Gt rfl ?_
 exact ⟨_,_,rfl,rfl,congrArg PV.bool he⟩
theorem wY (v:Int) (x:ByteArray):FnP Tryz.prog 91 [.int .i64 v,.str x] (· =ec ((1:Nat):Int)):=by
 refine FnP.ofC func91 rfl ntmps91 (by simp) fun m0 w0 F R0=>?_
 refine Z1 rfl rfl ?_
 refine Gr rfl ?_
 refine Rs 5 rfl rfl (ae call51 (fO 1 (by decide) (by decide)) rfl) ?_
 refine A1 rfl ?_
 refine Gt rfl ?_
 exact ⟨_,_,rfl,rfl,⟨aY ⟨_,underlying91,rfl⟩ lK rfl rfl rfl,trivial⟩,rfl⟩
theorem CA (w:Int):FnP Tryz.prog 92 [.int .i64 w] (· =ec ((1:Nat):Int)):=by
 refine FnP.ofC func92 rfl ntmps92 (by simp) fun m0 w0 F R0=>?_
 refine Z1 rfl rfl ?_
 refine Gr rfl ?_
 refine Rs 3 rfl rfl (ae call51 (fO 1 (by decide) (by decide)) rfl) ?_
 refine A1 rfl ?_
 refine Gt rfl ?_
 exact ⟨_,_,rfl,rfl,⟨aY ⟨_,underlying91,rfl⟩ lK rfl rfl rfl,trivial⟩,rfl⟩
abbrev wdN (D:VD):WD:=⟨bu D.chs,bu D.kes,bu D.hos,ak D.wa,.bool false,dd 0,.bool false,dd 1,.fn (.func 86) [] [],.fn (.func 87) [] [],.fn (.func 88) [] [],.fn (.func 91) [] [],.fn (.func 92) [] []⟩
theorem Bk:∀ (a b:List (Nat×Ob)) (i:Nat) (o:Ob),ar a i=some o→ar (a++b) i=some o
 | [],b,i,o,h=>by simp [ar] at h
 | (d,v)::a,b,i,o,h=>by
   simp only [List.cons_append,ar] at h ⊢
   cases hb:Nat.beq i d with
   | true=>rw [hb] at h;exact h
   | false=>rw [hb] at h;exact Bk a b i o h
end
section
open Go.RowKit Mk Jn
set_option maxHeartbeats 4000000
abbrev bM (M:List (ByteArray×Nat)):List PV:=M.map fun p=>ec (p.2:Int)
abbrev o6R (J:JD) (W:WD) (σ:Asg ByteArray) (now:List ByteArray) (mk mv:List PV) (o:Ob):List (Nat×Ob):=[(big,oN W 1000004 1000001 J.S.attrs.length 1000002 1000003),(1000001,.cells 9 (aA now)),(1000002,.cells 4 (ay (stL σ J.S.attrs.length))),(1000003,.mp mk mv),(1000004,oX2 J 1000005),(1000005,.mp J.pk J.pv),(0,o)]
theorem yL (J:JD) (W:WD) (σ:Asg ByteArray) (now:List ByteArray) (mk mv:List PV) (r:Ob):∀ i o,ar (o6N J W σ now mk mv) i=some o→ar (o6R J W σ now mk mv r) i=some o:=fun i o h=>Bk (o6N J W σ now mk mv) [(0,r)] i o h
def QKN (J:JD) (P:List Int) (D:VD) (σ:Asg ByteArray) (r:Nat) (v:V) (ob':Nat→Option Ob):Prop:=∃ now' M',NowOk J.S.attrs.length σ now'∧iz bG J P M'∧v=xg r∧ob'=ar (o6N J (wdN D) σ now' (ba M') (bM M'))
def RBN (J:JD) (P:List Int) (σ:Asg ByteArray) (r:Nat) (p:V) (a b:Ob):Prop:=∃ now' M',NowOk J.S.attrs.length σ now'∧iz bG J P M'∧p=xg r∧a= .cells 9 (aA now')∧b= .mp (ba M') (bM M')
theorem zN {J:JD} {P:List Int} {D:VD} {σ:Asg ByteArray} {r:Nat} (v:V) (ob':Nat→Option Ob) (h:QKN J P D σ r v ob'):∃ p a b,RBN J P σ r p a b∧p.ren (cm six 0)=p∧a.ren (cm six 0)=a∧b.ren (cm six 0)=b∧v=p∧ob'=ar [(big,oN (wdN D) 1000004 1000001 J.S.attrs.length 1000002 1000003),(1000001,a),(1000002,.cells 4 (ay (stL σ J.S.attrs.length))),(1000003,b),(1000004,oX2 J 1000005),(1000005,.mp J.pk J.pv)]:=by
 obtain ⟨now',M',h1,h2,rfl,rfl⟩:=h
 exact ⟨_,_,_,⟨now',M',h1,h2,rfl,rfl,rfl⟩,rfl,rfl,rfl,rfl,rfl⟩
def oi (J:JD) (P:List Int) (D:VD) (v:Nat):Prop:=∀ σ now M,At P v σ→ZfA σ→SzA σ→NowOk J.S.attrs.length σ now→iz bG J P M→FnO Tryz.prog 188 6 0 [.ptr big 0,.pv (.int .i64 v)] (o6N J (wdN D) σ now (ba M) (bM M)) (QKN J P D σ (fv bG J P v σ))
def kU (J:JD) (P:List Int) (D:VD) (v:Nat):Prop:=∀ σ now M x,At P v σ→ZfA σ→SzA σ→Zf x→x.size≤10000→NowOk J.S.attrs.length σ now→iz bG J P M→FnO Tryz.prog 228 6 0 [.ptr big 0,.pv (.int .i64 v),.pv (.str x)] (o6N J (wdN D) σ now (ba M) (bM M)) (QKN J P D σ (fl bG J P (al P v) (put σ v x)))
theorem mj (J:JD) (P:List Int) (D:VD) (h:CtxV J P D) (v:Nat) (hv:v<P.length) (hb:kU J P D v):oi J P D v:=by
 intro σ now M hat hz hsz hn hM
 refine FnO.ofC func188 rfl ntmps188 (by simp) fun m0 w0 F R0=>?_
 have hP:=h.ord.dP
 have hnl:=h.len
 have hn64:=h.n64
 have hva:v<J.S.attrs.length:=by omega
 have hvk:v<D.kes.length:=by rw [h.kel];exact hv
 have hkv:=cM hvk
 have hkn:=cQ hvk
 have hw8:IntKind.u8.wrap (v:Int)=((UInt8.ofNat v).toNat:Int):=by
  have:=h.n64
  rw [UInt8.toNat_ofNat']
  simp [IntKind.wrap,IntKind.bits,IntKind.signed]
 have hwb:=mS (UInt8.ofNat v)
 rw [h.Hb hv] at hkv
 have hkl:=yj J.S P v
 have hke:∀ a∈dq J.S P v,∃ b:Nat,a=(b:Int)∧b<J.S.attrs.length∧∃ y,σ (b:Int)=some y:=fun a ha=>by
  obtain ⟨b,e,hb,hm⟩:=h.xz hv ha
  exact ⟨b,e,by omega,Option.isSome_iff_exists.1 (hat.up _ hm)⟩
 have hktl:∀ k,(lG (fun a=>(σ a).getD eb) ((dq J.S P v).take k)).length≤10001*64:=fun k=>by
  refine Nat.le_trans (nQ fun a _=>?_) (Nat.mul_le_mul_left _ ?_)
  ·cases e:σ a with
   | none=>exact (by decide:(0:Nat)≤10000)
   | some x=>exact hsz a x e
  ·have:=h.n64
   rw [List.length_take];omega
 have hlk:=tT bG (fun r:Nat=>ec (r:Int)) hM hv hat hz
 have hput:=fun M2 (hM2:iz bG J P M2)=>y8 bG (fun r:Nat=>ec (r:Int)) h.ord (by have:=h.n64;omega) hM2 hv hat hz
 have hfnd:=fun M2:List (ByteArray×Nat)=>gJ (lz v (dq J.S P v) σ) (fun r:Nat=>ec (r:Int)) M2 0
 have hcand:=wJ J h.ok h.t12 (wdN D) σ now hn (ba M) (bM M) v hva (hat.self hv) (h.wv v hva)
 have htn:=ki hn hva (hat.self hv) (jx J v σ)
 have hcok:=h.s8 v σ
 have hcl:=gm h.t12 v σ
 have hfv:=Gz bG J hP hv σ
 have hbr:=fun now2 M2 x hx1 hx2 h2 h3=>hb σ now2 M2 x hat hz hsz hx1 hx2 h2 h3
 have hks:lz v (dq J.S P v) σ=⟨(UInt8.ofNat v::lG (fun a=>(σ a).getD eb) (dq J.S P v)).toArray⟩:=rfl
 have hkne:(lz v (dq J.S P v) σ).data.toList≠[]:=by rw [hks];simp
 have hkbl:(lz v (dq J.S P v) σ).data.toList.length≤1000000000:=by
  have:=hktl (dq J.S P v).length
  rw [List.take_length] at this
  rw [hks];simp only [List.length_cons];omega
 have hsb:=fun k=>ig (Hn h.t12 hP hv σ k) (by omega)
 have hfb:=fun x=>ig (sr h.t12 hP hv _ (List.prefix_refl _) (put σ v x)) (by omega)
 clear hb
 generalize hKg:lz v (dq J.S P v) σ=KB at*
 generalize dq J.S P v=K at*
 generalize jx J v σ=CL at*
 generalize hFG:(fun x=>fl bG J P (al P v) (put σ v x))=fx at*
 have hfx:∀ x,fl bG J P (al P v) (put σ v x)=fx x:=fun x=>by rw [← hFG]
 simp only [hfx] at hbr hfb
 generalize fv bG J P v σ=FV at*
 generalize bC (RJ J) sdS v σ=C at*
 refine Z1 rfl rfl ?_
 refine Z1 rfl rfl ?_
 refine Im (St.er 1 1 2 1 5 rfl rfl rfl) ?_
 refine Z1 rfl rfl ?_
 refine Rs 14 rfl rfl ((en underlying3 underlying5 rfl).cast (v':= .pv (.int .u8 ((UInt8.ofNat v).toNat:Int))) (congrArg (fun z=>V.pv (.int .u8 z)) hw8)) ?_
 refine Rs 15 rfl rfl (ah [1,2] 3 call192 hwb rfl rfl rfl rfl ⟨rfl,rfl,trivial⟩ (by decide) rfl) ?_
 clear hw8 hwb
 refine Gr rfl ?_
 iterate 6 refine A1 rfl ?_
 refine Rs 22 rfl rfl (ag v underlying142 ly rfl rfl rfl hvk hkn) ?_
 refine Rs 23 rfl rfl (ai ⟨_,underlying22,rfl⟩ rfl hkv) ?_
 refine Y2 rfl rfl ?_
 refine Gl rfl (st:=fun x_0:Nat×List UInt8=>mkS [(0,.ptr big 0),(1,.pv (.int .i64 v)),(4,.ptr 0 0),(5,.ptr 1 0),(23,.pv (ak K)),(24,.pv (.int .i64 K.length)),(25,.pv (.int .i64 x_0.1))] [(big,oN (wdN D) 1000004 1000001 J.S.attrs.length 1000002 1000003),(0,.mix 91 [.pv (.bool false),.pv nS]),(1,.mix 165 [.ptr 1 0,.gsl 4 1 x_0.2.length]),(4,.gro 5 (az x_0.2)),(1000001,.cells 9 (aA now)),(1000002,.cells 4 (ay (stL σ J.S.attrs.length))),(1000003,.mp (ba M) (bM M)),(1000004,oX2 J 1000005),(1000005,.mp J.pk J.pv)] 5)
  (I:=fun x_0=>x_0.1≤K.length∧x_0.2=UInt8.ofNat v::lG (fun a=>(σ a).getD eb) (K.take x_0.1)) (μ:=fun x_0=>K.length-x_0.1) (x0:=(0,[UInt8.ofNat v])) (Io (aS rfl) (aO (by kernel_rfl)) rfl rfl) (⟨Nat.zero_le _,rfl⟩) ?_
 rintro ⟨k,L⟩ ⟨hk,hL⟩
 try simp only at hk hL ⊢
 refine Z1 rfl rfl ?_
 refine Gp rfl rfl (fun hc26=>?_) (fun hc26=>?_)
 ·have hlt:k<K.length:=by omega
  obtain ⟨a,ha,hal,y,hy⟩:=hke _ (List.getElem_mem hlt)
  have hpv:(aE K)[k*1]? =some (.int .i64 (a:Int)):=by rw [← ha];simp [hlt]
  have hpn:=aH hlt
  have hnow:now[a]'(by rw [hn.l];exact hal)=y:=hn.e a (by rw [hn.l];exact hal) y hy
  have hnp:=aM (l:=now) (k:=a) (by rw [hn.l];exact hal)
  rw [hnow] at hnp
  have hnl2:(aA now).length=J.S.attrs.length:=by rw [List.length_map,hn.l]
  have hys:=hsz _ _ hy
  have hkt:=hktl k
  have hktk:=pg (fun a=>(σ a).getD eb) hlt
  rw [ha,hy] at hktk
  have hLn:L≠[]:=by rw [hL];simp
  have hws:=qm L (y++(⟨#[0]⟩:ByteArray)) hLn (by rw [hL,ug];simp only [List.length_cons];omega)
  rw [r3] at hws
  refine Il ?_
  refine Z1 rfl rfl ?_
  refine Rs 28 rfl rfl (ai ⟨_,underlying3,rfl⟩ rfl hpv) ?_
  refine A1 rfl ?_
  refine Gr rfl ?_
  iterate 6 refine A1 rfl ?_
  refine Rs 35 rfl rfl (aC ⟨_,underlying9,rfl⟩ rfl rfl hnp) ?_
  refine Rs 36 rfl rfl (xO rfl rfl (by show y.size+1≤_;omega)) ?_
  refine Rs 37 rfl rfl (ah [1,4] 5 call105 hws rfl rfl rfl rfl ⟨by kernel_rfl,by kernel_rfl,trivial⟩ (by decide) rfl) ?_
  refine Z2 rfl rfl rfl ?_
  exact ⟨(k+1,L++(y.data.toList++[0])),Ip [0,1,2,3,5] (aT rfl) (aP (by kernel_rfl)) rfl rfl (by decide) rfl,⟨by simp only;omega,by simp only;rw [hktk,hL];rfl⟩,by simp only;omega⟩
 ·have hLK:L=UInt8.ofNat v::lG (fun a=>(σ a).getD eb) K:=by rw [hL,show K.take k=K from List.take_of_length_le (by omega)]
  have hLn:L≠[]:=by rw [hLK];simp
  have hKL:(⟨L.toArray⟩:ByteArray)=KB:=by rw [hks,hLK]
  have hLe:L=KB.data.toList:=by rw [← hKL]
  have hLl:L.length≤1000000000:=by rw [hLe];exact hkbl
  have hbs:=j8 L hLn hLl
  rw [hKL] at hbs
  have hbs2:=mW L.length KB hkne (by rw [hLe]) hLl
  refine Gx rfl ?_
  by_cases hm:∃ p∈M,p.1=KB
  ·rw [if_pos hm] at hlk
   refine Ge rfl follows [0,1,2,3,4,5,6,7,8,9,10,11] (by kernel_rfl) ?_
   iterate 4 refine D1 rfl rfl ?_
   refine Ds 44 [1,4] rfl rfl rfl (fun τ h=>ah [1,4] 5 call108 hbs (h.args.trans rfl) rfl rfl rfl ⟨(Eo h 0 rfl rfl),(Eo h 1 rfl rfl),trivial⟩ (by decide) rfl) rfl (by kernel_rfl) ?_
   refine Ds 45 [_] rfl rfl rfl (fun τ h=>cg (zp:= .agg [.bool false,.sl (some true) 0 []]) underlying238 underlying9 (.inl ⟨1000003,(Ee h 0 rfl rfl),(Eo h 0 rfl rfl)⟩) (Ee h 1 rfl rfl) rfl Ej rfl hlk rfl rfl) rfl (by kernel_rfl) ?_
   iterate 6 refine D1 rfl rfl ?_
   refine ⟨by kernel_rfl,?_⟩
   refine Z1 rfl rfl ?_
   refine Gc rfl rfl (fun hc48=>?_) (fun hc48=>absurd hc48 (by simp))
   refine Z2 rfl rfl rfl ?_
   refine Gt rfl ?_
   exact ⟨[(4,.ptr 0 0)],o6R J (wdN D) σ now (ba M) (bM M) (jQ FV),[xg FV],o6N J (wdN D) σ now (ba M) (bM M),1,Io (aS rfl) (aO (by kernel_rfl)) rfl rfl,rfl,⟨aY ⟨_,underlying91,rfl⟩ lK rfl rfl rfl,trivial⟩,rfl,rfl,yL _ _ _ _ _ _ _,by decide,now,M,hn,hM,rfl,rfl⟩
  ·rw [if_neg hm] at hlk
   refine Ge rfl follows [0,1,2,3,4,5,6,7,8,9,10,11] (by kernel_rfl) ?_
   iterate 4 refine D1 rfl rfl ?_
   refine Ds 44 [1,4] rfl rfl rfl (fun τ h=>ah [1,4] 5 call108 hbs (h.args.trans rfl) rfl rfl rfl ⟨(Eo h 0 rfl rfl),(Eo h 1 rfl rfl),trivial⟩ (by decide) rfl) rfl (by kernel_rfl) ?_
   refine Ds 45 [_] rfl rfl rfl (fun τ h=>cg (zp:= .agg [.bool false,.sl (some true) 0 []]) underlying238 underlying9 (.inl ⟨1000003,(Ee h 0 rfl rfl),(Eo h 0 rfl rfl)⟩) (Ee h 1 rfl rfl) rfl Ej rfl hlk rfl rfl) rfl (by kernel_rfl) ?_
   iterate 6 refine D1 rfl rfl ?_
   refine ⟨by kernel_rfl,?_⟩
   refine Z1 rfl rfl ?_
   refine Gc rfl rfl (fun hc48=>absurd hc48 (by simp)) (fun hc48=>?_)
   refine Il ?_
   refine Gr rfl ?_
   iterate 7 refine A1 rfl ?_
   refine Z2 rfl rfl rfl ?_
   refine Rs 57 rfl rfl (ah [big,1000001,1000002,1000003,1000004,1000005] 7 call227 hcand rfl rfl rfl rfl ⟨by kernel_rfl,by kernel_rfl,by kernel_rfl,by kernel_rfl,by kernel_rfl,by kernel_rfl,trivial⟩ (by decide) rfl) ?_
   refine Y2 rfl rfl ?_
   refine Gl rfl (st:=fun x_1:Nat×List ByteArray×List (ByteArray×Nat)=>mkS [(0,.ptr big 0),(1,.pv (.int .i64 v)),(4,.ptr 0 0),(5,.ptr 1 0),(10,.ptr 6 0),(57,.pv (aI C)),(58,.pv (.int .i64 C.length)),(59,.pv (.int .i64 x_1.1))] [(big,oN (wdN D) 1000004 1000001 J.S.attrs.length 1000002 1000003),(0,.mix 91 [.pv (.bool false),.pv nS]),(1,.mix 165 [.ptr 1 0,.gsl 4 1 L.length]),(4,.fro 5 KB),(6,jQ (eg bG ((C.take x_1.1).map fx))),(1000001,.cells 9 (aA x_1.2.1)),(1000002,.cells 4 (ay (stL σ J.S.attrs.length))),(1000003,.mp (ba x_1.2.2) (bM x_1.2.2)),(1000004,oX2 J 1000005),(1000005,.mp J.pk J.pv)] 7)
    (I:=fun x_1=>x_1.1≤C.length∧NowOk J.S.attrs.length σ x_1.2.1∧iz bG J P x_1.2.2) (μ:=fun x_1=>C.length-x_1.1) (x0:=(0,tst now v CL,M)) (Io (aS rfl) (aO (by kernel_rfl)) rfl rfl) (⟨Nat.zero_le _,htn,hM⟩) ?_
   rintro ⟨k2,now2,M2⟩ ⟨hk2,hn2,hM2⟩
   try simp only at hk2 hn2 hM2 ⊢
   refine Z1 rfl rfl ?_
   refine Gp rfl rfl (fun hc60=>?_) (fun hc60=>?_)
   ·have hlt2:k2<C.length:=by omega
    have hv2:=aM hlt2
    have hne2:=bc hlt2
    have hco:=hcok _ (List.getElem_mem hlt2)
    have hbk:=hbr now2 M2 C[k2] hco.1 hco.2 hn2 hM2
    have hss:=qK bG hlt2 fx
    have hga:=F7 _ _ (hsb k2) (hfb C[k2])
    generalize eg bG ((C.take k2).map fx)=acc at*
    refine Il ?_
    refine Z1 rfl rfl ?_
    first | refine A2 rfl (by assumption) ?_ | refine A1 rfl ?_
    refine A1 rfl ?_
    refine Ge rfl follows [0,1,2,3,4,5,6,7,8,9,10,11] (by kernel_rfl) ?_
    iterate 9 refine D1 rfl rfl ?_
    refine DL.rel (RV (RBN J P σ (fx C[k2]))) [1000001,1000003] [] [big,1000001,1000002,1000003,1000004,1000005] rfl rfl rfl (fun τ h=>Gh call228 hbk zN (h.args.trans rfl) rfl rfl ⟨Eo h 0 rfl rfl,Eo h 1 rfl rfl,Eo h 2 rfl rfl,Eo h 3 rfl rfl,Eo h 4 rfl rfl,Eo h 5 rfl rfl,trivial⟩) rfl (by kernel_rfl) (by kernel_rfl) (by kernel_rfl) ?_
    rintro _ ⟨_,_,_,⟨now3,M3,hn3,hM3,rfl,rfl,rfl⟩,rfl⟩ _ _
    refine Ds 73 [] rfl rfl rfl (fun τ h=>bb call86 (Ee h 0 rfl rfl) hga (h.jv rfl)) rfl (by kernel_rfl) ?_
    refine D1 rfl rfl ?_
    refine ⟨by kernel_rfl,?_⟩
    refine Z2 rfl rfl rfl ?_
    exact ⟨(k2+1,now3,M3),Io (aS rfl) ⟨by kernel_rfl,by kernel_rfl,by kernel_rfl,by kernel_rfl,Eq.trans (b:=some (jQ (bG.add acc (fx C[k2])))) (by kernel_rfl) (congrArg (fun b=>some (jQ b)) hss.symm),by kernel_rfl,by kernel_rfl,by kernel_rfl,by kernel_rfl,by kernel_rfl,trivial⟩ rfl rfl,⟨by omega,hn3,hM3⟩,by simp only;omega⟩
   ·rw [show C.take k2=C from List.take_of_length_le (by omega), ← hfv]
    obtain ⟨M4,hM4,hpk,hpv⟩:=hput M2 hM2
    obtain ⟨⟨r,hkf⟩,_,_⟩:=hfnd M2
    refine Gx rfl ?_
    refine Ge rfl follows [0,1,2,3,4,5,6] (by kernel_rfl) ?_
    iterate 4 refine D1 rfl rfl ?_
    refine Ds 79 [1,4] rfl rfl rfl (fun τ h=>ah [1,4] 7 call108 hbs2 (h.args.trans rfl) rfl rfl rfl ⟨(Eo h 0 rfl rfl),(Eo h 1 rfl rfl),trivial⟩ (by decide) rfl) rfl (by kernel_rfl) ?_
    refine D1 rfl rfl ?_
    refine DL.step (d:=none) [_] rfl rfl rfl (fun τ h=>ed underlying238 underlying9 (Ee h 0 rfl rfl) (Eo h 0 rfl rfl) (Ee h 1 rfl rfl) (Ee h 2 rfl rfl) rfl hkf hpk hpv) rfl (by kernel_rfl) ?_
    refine ⟨by kernel_rfl,?_⟩
    refine Z2 rfl rfl rfl ?_
    refine Gt rfl ?_
    exact ⟨[(4,.ptr 0 0)],o6R J (wdN D) σ now2 (ba M4) (bM M4) (jQ FV),[xg FV],o6N J (wdN D) σ now2 (ba M4) (bM M4),1,Io (aS rfl) (aO (by kernel_rfl)) rfl rfl,rfl,⟨aY ⟨_,underlying91,rfl⟩ lK rfl rfl rfl,trivial⟩,rfl,rfl,yL _ _ _ _ _ _ _,by decide,now2,M4,hn2,hM4,rfl,rfl⟩
theorem jr (J:JD) (P:List Int) (D:VD) (h:CtxV J P D) (v:Nat) (hv:v<P.length) (hw:∀ c:Nat,c<P.length→P.getD c 0=(v:Int)→oi J P D c):kU J P D v:=by
 intro σ now M x hat hz hsz hx1 hx2 hn hM
 refine FnO.ofC func228 rfl ntmps228 (by simp) fun m0 w0 F R0=>?_
 have hP:=h.ord.dP
 have hlen:=h.len
 have hn64:=h.n64
 have hJ:=h.ok
 have hva:v<J.S.attrs.length:=by omega
 have hself:=hat.self hv
 have hnp:=hn.put hva x
 have hagr:=fun r (hr:r<J.S.rels.length) y (hy:y.v.length=J.S.rels[r].2.length)=>fq J hJ (wdN D) (put σ v x) (now.set v x) hnp (ba M) (bM M) r hr y hy
 have hvo:v<D.hos.length:=by rw [h.hl];exact hv
 have hov:=cM hvo
 have hon:=cQ hvo
 have hoh:=h.ho _ (List.getElem_mem hvo)
 generalize D.hos[v]=Hs at*
 have hvc:v<D.chs.length:=by rw [h.chl];omega
 have hcv:=cM hvc
 have hcn:=cQ hvc
 rw [h.HX hv] at hcv
 have hkid:∀ c∈al P v,∃ m:Nat,m<P.length∧c=(m:Int)∧P.getD m 0=(v:Int):=fun c hc=>aX.1 hc
 have hcl:(al P v).length≤64:=Nat.le_trans (Nat.le_trans (List.length_filter_le ..) (by rw [a8];exact Nat.le_refl _)) hn64
 have hview:=fun (c:Nat) (hc:c<P.length) (hp:P.getD c 0=(v:Int)) now2 M2 h2 h3=>hw c hc hp (put σ v x) now2 M2 (hat.child hP hv hc hp x) (hz.put v hx1) (hsz.put v hx2) h2 h3
 have hfn:=uO bG J P (put σ v x)
 have hft:=fun (cs:List Int) (k:Nat) (hk:k<cs.length)=>oG bG J P (put σ v x) hk
 have hfz:=yv bG J P (al P v) (put σ v x)
 have hnl:(aA now).length=J.S.attrs.length:=by rw [List.length_map,hn.l]
 have hsl:(ay (stL σ J.S.attrs.length)).length=J.S.attrs.length:=by rw [List.length_map,cK]
 have hsl2:(ay (stL (put σ v x) J.S.attrs.length)).length=J.S.attrs.length:=by rw [List.length_map,cK]
 have h1:=ix (l:=now) (a:=v) x
 have h2:=kZ (σ:=σ) hva x
 have h3:(ay (stL (put σ v x) J.S.attrs.length)).set (v*1) (.bool false)=ay (stL σ J.S.attrs.length):=by rw [qO hva,cO hself]
 have hun:∀ now2,NowOk J.S.attrs.length (put σ v x) now2→NowOk J.S.attrs.length σ now2:=fun now2 h4=>by have:=h4.un (v:Int);rwa [cO hself] at this
 have hkb:=fun k=>ig (sr h.t12 hP hv _ (List.take_prefix k _) (put σ v x)) (by omega)
 have hvb:=fun (c:Nat) (hc:c<P.length)=>ig (Ed h.t12 hP hc (put σ v x)) (by omega)
 generalize al P v=CS at*
 clear hw
 generalize put σ v x=σ2 at*
 refine Z1 rfl rfl ?_
 refine Ge rfl follows [0,1,2,3,4,5,6,7,8,9,10,11,12,13,14] (by kernel_rfl) ?_
 iterate 11 refine D1 rfl rfl ?_
 refine Ds 25 [_] rfl rfl rfl (fun τ h=>aa v underlying47 sz9 (Ee h 0 rfl rfl) (Eo h 0 rfl rfl) (Ee h 1 rfl rfl) rfl (by omega)) rfl (by kernel_rfl) ?_
 refine DL.step (d:=none) [_] rfl rfl rfl (fun τ h=>aF sz9 (Ee h 0 rfl rfl) (Eo h 0 rfl rfl) (Ee h 1 rfl rfl) rfl (by omega)) rfl (by kernel_rfl) ?_
 refine Ds 26 [_] rfl rfl rfl (fun τ h=>aa v underlying115 sz4 (Ee h 0 rfl rfl) (Eo h 0 rfl rfl) (Ee h 1 rfl rfl) rfl (by omega)) rfl (by kernel_rfl) ?_
 refine DL.step (d:=none) [_] rfl rfl rfl (fun τ h=>aF sz4 (Ee h 0 rfl rfl) (Eo h 0 rfl rfl) (Ee h 1 rfl rfl) rfl (by omega)) rfl (by kernel_rfl) ?_
 refine ⟨by kernel_rfl,?_⟩
 refine Im (Io (l:=[(0,.ptr big 0),(1,.pv (.int .i64 v)),(2,.pv (.str x)),(6,.ptr 0 0)]) (os:=(0,.mix 91 [.pv (.bool false),.pv nS])::o6N J (wdN D) σ2 (now.set v x) (ba M) (bM M)) (k:=1) (aS rfl) ⟨rfl,rfl,congrArg (fun c=>some (Ob.cells 9 c)) h1,congrArg (fun c=>some (Ob.cells 4 c)) h2,rfl,rfl,rfl,trivial⟩ rfl rfl) ?_
 refine Gr rfl ?_
 iterate 6 refine A1 rfl ?_
 refine Rs 33 rfl rfl (bb call91 rfl (wY _ _) rfl) ?_
 refine Y2 rfl rfl ?_
 refine Gr rfl ?_
 iterate 6 refine A1 rfl ?_
 refine Rs 40 rfl rfl (ag v underlying142 ly rfl rfl rfl hvo hon) ?_
 refine Rs 41 rfl rfl (ai ⟨_,underlying22,rfl⟩ rfl hov) ?_
 refine Y2 rfl rfl ?_
 refine Gl rfl (st:=fun x_0:Nat=>mkS [(0,.ptr big 0),(1,.pv (.int .i64 v)),(6,.ptr 0 0),(7,.ptr 1 0),(41,.pv (ak Hs)),(42,.pv (.int .i64 Hs.length)),(43,.pv (.int .i64 x_0))] [(big,oN (wdN D) 1000004 1000001 J.S.attrs.length 1000002 1000003),(0,.mix 91 [.pv (.bool false),.pv nS]),(1,jQ 1),(1000001,.cells 9 (aA (now.set v x))),(1000002,.cells 4 (ay (stL σ2 J.S.attrs.length))),(1000003,.mp (ba M) (bM M)),(1000004,oX2 J 1000005),(1000005,.mp J.pk J.pv)] 2)
  (I:=fun x_0=>x_0≤Hs.length) (μ:=fun x_0=>Hs.length-x_0) (x0:=(0)) (Io (aS rfl) (aO (by kernel_rfl)) rfl rfl) (Nat.zero_le _) ?_
 rintro k hk
 refine Z1 rfl rfl ?_
 refine Gp rfl rfl (fun hc44=>?_) (fun hc44=>?_)
 ·have hlt:k<Hs.length:=by omega
  have hHl:=hoh.1
  obtain ⟨hr0,hr1⟩:=hoh.2 _ (List.getElem_mem hlt)
  obtain ⟨r,hr⟩:=Int.eq_ofNat_of_zero_le hr0
  have hrl:r<J.S.rels.length:=by omega
  have hpv:(aE Hs)[k*1]? =some (.int .i64 (r:Int)):=by rw [← hr];simp [hlt]
  have hpn:=aH hlt
  have hrT:r<J.T.length:=by rw [hJ.n];exact hrl
  have htr:=cD hrT
  have htn:=dN hrT
  have hTl:=hJ.l _ (List.getElem_mem hrT)
  have hxv:=hJ.v r hrT hrl
  have hga:=fun (i:Nat) (hi:i<J.T[r].length)=>hagr r hrl J.T[r][i] (hxv _ (List.getElem_mem hi))
  generalize J.T[r]=tf at*
  refine Il ?_
  refine Z1 rfl rfl ?_
  refine Rs 46 rfl rfl (ai ⟨_,underlying3,rfl⟩ rfl hpv) ?_
  refine A1 rfl ?_
  refine Gr rfl ?_
  iterate 8 refine A1 rfl ?_
  refine Rs 55 rfl rfl (ag r underlying35 qk rfl rfl rfl hrT htn) ?_
  refine Rs 56 rfl rfl (ai ⟨_,underlying38,rfl⟩ rfl htr) ?_
  refine Y2 rfl rfl ?_
  refine Gl rfl (st:=fun x_1:Nat=>mkS [(0,.ptr big 0),(1,.pv (.int .i64 v)),(6,.ptr 0 0),(7,.ptr 1 0),(9,.pv (.int .i64 (r:Int))),(41,.pv (ak Hs)),(42,.pv (.int .i64 Hs.length)),(43,.pv (.int .i64 k)),(56,.pv (bL tf)),(57,.pv (.int .i64 tf.length)),(58,.pv (.int .i64 x_1))] [(big,oN (wdN D) 1000004 1000001 J.S.attrs.length 1000002 1000003),(0,.mix 91 [.pv (.bool false),.pv nS]),(1,jQ 1),(1000001,.cells 9 (aA (now.set v x))),(1000002,.cells 4 (ay (stL σ2 J.S.attrs.length))),(1000003,.mp (ba M) (bM M)),(1000004,oX2 J 1000005),(1000005,.mp J.pk J.pv)] 2)
   (I:=fun x_1=>x_1≤tf.length) (μ:=fun x_1=>tf.length-x_1) (x0:=(0)) (Io (aS rfl) (aO (by kernel_rfl)) rfl rfl) (Nat.zero_le _) ?_
  rintro k3 hk3
  refine Z1 rfl rfl ?_
  refine Gp rfl rfl (fun hc59=>?_) (fun hc59=>?_)
  ·have hlt3:k3<tf.length:=by omega
   have hrw:=aN hlt3
   have hrn:=aW hlt3
   have hgk:=hga k3 hlt3
   generalize tf[k3]=y at*
   generalize hbg:agr J.S.rels[r].2 σ2 y.v=b at*
   refine Il ?_
   refine Z1 rfl rfl ?_
   first | refine A3 rfl (by assumption) ?_ | refine A1 rfl ?_
   refine Y2 rfl rfl ?_
   refine Z3 rfl rfl rfl rfl ?_
   refine Rs 65 rfl rfl (ah [big,1000001,1000002,1000003,1000004,1000005] 3 call256 hgk rfl rfl rfl rfl ⟨rfl,rfl,rfl,rfl,rfl,rfl,trivial⟩ (by decide) rfl) ?_
   refine Gc rfl rfl (fun hc65=>?_) (fun hc65=>?_)
   ·refine Ge rfl follows [0,1,2,3,4,5,6,7,8,9,10,11,12,13,14] (by kernel_rfl) ?_
    iterate 12 refine D1 rfl rfl ?_
    refine Ds 78 [] rfl rfl rfl (fun τ h=>bb call92 (Ee h 0 rfl rfl) (CA _) (h.jv rfl)) rfl (by kernel_rfl) ?_
    refine Ds 79 [] rfl rfl rfl (fun τ h=>bb call87 (Ee h 0 rfl rfl) (th 1 1 D6 D6) (h.jv rfl)) rfl (by kernel_rfl) ?_
    refine D1 rfl rfl ?_
    refine ⟨by kernel_rfl,?_⟩
    refine Z2 rfl rfl rfl ?_
    exact ⟨(k3+1),Io (aS rfl) (aO (by kernel_rfl)) rfl rfl,by omega,by omega⟩
   ·refine Il ?_
    refine Z2 rfl rfl rfl ?_
    exact ⟨(k3+1),Io (aS rfl) (aO (by kernel_rfl)) rfl rfl,by omega,by omega⟩
  ·skip
   refine Gx rfl ?_
   refine Z2 rfl rfl rfl ?_
   exact ⟨(k+1),Io (aS rfl) (aO (by kernel_rfl)) rfl rfl,by omega,by omega⟩
 ·skip
  refine Gx rfl ?_
  refine Gr rfl ?_
  iterate 6 refine A1 rfl ?_
  refine Rs 88 rfl rfl (ag v underlying142 ly rfl rfl rfl hvc hcn) ?_
  refine Rs 89 rfl rfl (ai ⟨_,underlying22,rfl⟩ rfl hcv) ?_
  refine Y2 rfl rfl ?_
  refine Gl rfl (st:=fun x_2:Nat×List ByteArray×List (ByteArray×Nat)=>mkS [(0,.ptr big 0),(1,.pv (.int .i64 v)),(6,.ptr 0 0),(7,.ptr 1 0),(89,.pv (ak CS)),(90,.pv (.int .i64 CS.length)),(91,.pv (.int .i64 x_2.1))] [(big,oN (wdN D) 1000004 1000001 J.S.attrs.length 1000002 1000003),(0,.mix 91 [.pv (.bool false),.pv nS]),(1,jQ (fl bG J P (CS.take x_2.1) σ2)),(1000001,.cells 9 (aA x_2.2.1)),(1000002,.cells 4 (ay (stL σ2 J.S.attrs.length))),(1000003,.mp (ba x_2.2.2) (bM x_2.2.2)),(1000004,oX2 J 1000005),(1000005,.mp J.pk J.pv)] 2)
   (I:=fun x_2=>x_2.1≤CS.length∧NowOk J.S.attrs.length σ2 x_2.2.1∧iz bG J P x_2.2.2) (μ:=fun x_2=>CS.length-x_2.1) (x0:=(0,now.set v x,M)) (Io (aS rfl) ⟨by kernel_rfl,by kernel_rfl,Eq.trans (b:=some (jQ bG.one)) (by kernel_rfl) (congrArg (fun b=>some (jQ b)) hfn.symm),by kernel_rfl,by kernel_rfl,by kernel_rfl,by kernel_rfl,by kernel_rfl,trivial⟩ rfl rfl) (⟨Nat.zero_le _,hnp,hM⟩) ?_
  rintro ⟨k4,now2,M2⟩ ⟨hk4,hn2,hM2⟩
  try simp only at hk4 hn2 hM2 ⊢
  refine Z1 rfl rfl ?_
  refine Gp rfl rfl (fun hc92=>?_) (fun hc92=>?_)
  ·have hlt4:k4<CS.length:=by omega
   obtain ⟨c,hc,hce,hcp⟩:=hkid _ (List.getElem_mem hlt4)
   have hpv4:(aE CS)[k4*1]? =some (.int .i64 (c:Int)):=by rw [← hce];simp [hlt4]
   have hpn4:=aH hlt4
   have hvk:=hview c hc hcp now2 M2 hn2 hM2
   have htk:=hft CS k4 hlt4
   have hfz4:=hfz k4
   have hmm:=th _ _ (hkb k4) (hvb c hc)
   rw [hce] at htk
   generalize hag:fl bG J P (CS.take k4) σ2=acc at*
   refine Il ?_
   refine Z1 rfl rfl ?_
   refine Rs 94 rfl rfl (ai ⟨_,underlying3,rfl⟩ rfl hpv4) ?_
   refine A1 rfl ?_
   refine Ge rfl follows [0,1,2,3,4,5,6] (by kernel_rfl) ?_
   iterate 6 refine D1 rfl rfl ?_
   refine Ds 101 [] rfl rfl rfl (fun τ h=>bb call88 (Ee h 0 rfl rfl) (zK _) (h.jv rfl)) rfl (by kernel_rfl) ?_
   refine ⟨by kernel_rfl,?_⟩
   refine Gc rfl rfl (fun hc101=>?_) (fun hc101=>?_)
   ·have haf:acc=0:=by simpa using hc101
    have hall:acc=fl bG J P CS σ2:=haf.trans (hfz4 haf).symm
    rw [hall]
    refine Gx rfl ?_
    refine Gr rfl ?_
    iterate 5 refine A1 rfl ?_
    refine Rs 118 rfl rfl (aa v underlying115 sz4 rfl rfl rfl rfl (by omega)) ?_
    refine RL.step (d:=none) rfl rfl (aF sz4 rfl rfl rfl rfl (by omega)) ?_
    refine Z2 rfl rfl rfl ?_
    refine Gt rfl ?_
    exact ⟨[(6,.ptr 0 0)],o6R J (wdN D) σ now2 (ba M2) (bM M2) (jQ (fl bG J P CS σ2)),[xg (fl bG J P CS σ2)],o6N J (wdN D) σ now2 (ba M2) (bM M2),1,Io (aS rfl) ⟨by kernel_rfl,by kernel_rfl,congrArg (fun c=>some (Ob.cells 4 c)) h3,by kernel_rfl,by kernel_rfl,by kernel_rfl,by kernel_rfl,trivial⟩ rfl rfl,rfl,⟨aY ⟨_,underlying91,rfl⟩ lK rfl rfl rfl,trivial⟩,rfl,rfl,yL _ _ _ _ _ _ _,by decide,now2,M2,hun _ hn2,hM2,rfl,rfl⟩
   ·refine Il ?_
    refine Ge rfl follows [0,1,2,3,4,5,6,7,8,9,10] (by kernel_rfl) ?_
    iterate 8 refine D1 rfl rfl ?_
    refine DL.rel (RV (RBN J P σ2 (fv bG J P c σ2))) [1000001,1000003] [] [big,1000001,1000002,1000003,1000004,1000005] rfl rfl rfl (fun τ h=>Gh call188 hvk zN (h.args.trans rfl) rfl rfl ⟨Eo h 0 rfl rfl,Eo h 1 rfl rfl,Eo h 2 rfl rfl,Eo h 3 rfl rfl,Eo h 4 rfl rfl,Eo h 5 rfl rfl,trivial⟩) rfl (by kernel_rfl) (by kernel_rfl) (by kernel_rfl) ?_
    rintro _ ⟨_,_,_,⟨now3,M3,hn3,hM3,rfl,rfl,rfl⟩,rfl⟩ _ _
    refine Ds 111 [] rfl rfl rfl (fun τ h=>bb call87 (Ee h 0 rfl rfl) hmm (h.jv rfl)) rfl (by kernel_rfl) ?_
    refine D1 rfl rfl ?_
    refine ⟨by kernel_rfl,?_⟩
    refine Z2 rfl rfl rfl ?_
    exact ⟨(k4+1,now3,M3),Io (aS rfl) ⟨by kernel_rfl,by kernel_rfl,Eq.trans (b:=some (jQ (bG.mul acc (fv bG J P c σ2)))) (by kernel_rfl) (congrArg (fun b=>some (jQ b)) htk.symm),by kernel_rfl,by kernel_rfl,by kernel_rfl,by kernel_rfl,by kernel_rfl,trivial⟩ rfl rfl,⟨by omega,hn3,hM3⟩,by simp only;omega⟩
  ·rw [show CS.take k4=CS from List.take_of_length_le (by omega)]
   refine Gx rfl ?_
   refine Gr rfl ?_
   iterate 5 refine A1 rfl ?_
   refine Rs 118 rfl rfl (aa v underlying115 sz4 rfl rfl rfl rfl (by omega)) ?_
   refine RL.step (d:=none) rfl rfl (aF sz4 rfl rfl rfl rfl (by omega)) ?_
   refine Z2 rfl rfl rfl ?_
   refine Gt rfl ?_
   exact ⟨[(6,.ptr 0 0)],o6R J (wdN D) σ now2 (ba M2) (bM M2) (jQ (fl bG J P CS σ2)),[xg (fl bG J P CS σ2)],o6N J (wdN D) σ now2 (ba M2) (bM M2),1,Io (aS rfl) ⟨by kernel_rfl,by kernel_rfl,congrArg (fun c=>some (Ob.cells 4 c)) h3,by kernel_rfl,by kernel_rfl,by kernel_rfl,by kernel_rfl,trivial⟩ rfl rfl,rfl,⟨aY ⟨_,underlying91,rfl⟩ lK rfl rfl rfl,trivial⟩,rfl,rfl,yL _ _ _ _ _ _ _,by decide,now2,M2,hun _ hn2,hM2,rfl,rfl⟩
theorem EK (J:JD) (P:List Int) (D:VD) (h:CtxV J P D):∀ (k v:Nat),v<P.length→P.length≤k+(bp P v).length+1→oi J P D v∧kU J P D v:=by
 have hP:=h.ord.dP
 intro k
 induction k with
 | zero=>
   intro v hv hk
   have hb:=jr J P D h v hv fun c hc hp=>by
    have:=lu hP hc
    rw [bO hP hc hv hp,List.length_cons] at this
    omega
   exact ⟨mj J P D h v hv hb,hb⟩
 | succ k ih=>
   intro v hv hk
   have hb:=jr J P D h v hv fun c hc hp=>(ih c hc (by rw [bO hP hc hv hp,List.length_cons];omega)).1
   exact ⟨mj J P D h v hv hb,hb⟩
theorem BI (J:JD) (P:List Int) (D:VD) (h:CtxV J P D) (v:Nat) (hv:v<P.length):oi J P D v:=(EK J P D h P.length v hv (by omega)).1
end
section
open Go.RowKit Mk Jn
set_option maxHeartbeats 4000000
theorem rG (J:JD) (P:List Int) (D:VD) (h:CtxV J P D) (σ:Asg ByteArray) (now:List ByteArray) (mk mv:List PV):FnO Tryz.prog 187 6 0 [.ptr big 0] (o6N J (wdN D) σ now mk mv) (fun v ob'=>v= .pv (ak (al P (-1)))∧ob'=ar (o6N J (wdN D) σ now mk mv)):=by
 refine FnO.of func187 rfl ntmps187 (by simp) fun m0 w0 F R0=>?_
 have hvc:P.length<D.chs.length:=by rw [h.chl];omega
 have hcv:=cM hvc
 have hcn:=cQ hvc
 rw [h.xZ] at hcv
 have hcl:=h.chl
 have hn64:=h.n64
 refine Z1 rfl rfl ?_
 refine Ge rfl follows [0,1,2,3,4,5,6,7,8,9,10,11,12,13,14] (by kernel_rfl) ?_
 iterate 12 refine D1 rfl rfl ?_
 refine Ds 15 [] rfl rfl rfl (fun τ h=>ag P.length underlying142 ly (Ee h 0 rfl rfl) (Ee h 1 rfl rfl) (by omega) hvc hcn) rfl (by kernel_rfl) ?_
 refine Ds 16 [] rfl rfl rfl (fun τ h=>ai ⟨_,underlying22,rfl⟩ (Ee h 0 rfl rfl) hcv) rfl (by kernel_rfl) ?_
 refine D1 rfl rfl ?_
 refine ⟨by kernel_rfl,?_⟩
 refine Gt rfl ?_
 exact ⟨[(2,.pv (ak (al P (-1))))],o6N J (wdN D) σ now mk mv,[.pv (ak (al P (-1)))],Io (aS rfl) (aO rfl) rfl rfl,rfl,rfl,rfl,rfl,rfl⟩
theorem rT (J:JD) (P:List Int) (D:VD) (h:CtxV J P D) (σ:Asg ByteArray) (hσ:∀ a,σ a=none) (now:List ByteArray) (M:List (ByteArray×Nat)) (hn:NowOk J.S.attrs.length σ now) (hM:iz bG J P M):FnO Tryz.prog 138 6 0 [.ptr big 0] (o6N J (wdN D) σ now (ba M) (bM M)) (QKN J P D σ (fl bG J P (al P (-1)) σ)):=by
 refine FnO.ofC func138 rfl ntmps138 (by simp) fun m0 w0 F R0=>?_
 have hP:=h.ord.dP
 have hn64:=h.n64
 have hroots:=rG J P D h σ now (ba M) (bM M)
 have hkid:∀ c∈al P (-1),∃ m:Nat,m<P.length∧c=(m:Int)∧P.getD m 0= -1:=fun c hc=>aX.1 hc
 have hcl:(al P (-1)).length≤64:=Nat.le_trans (Nat.le_trans (List.length_filter_le ..) (by rw [a8];exact Nat.le_refl _)) hn64
 have hview:=fun (c:Nat) (hc:c<P.length) (hp:P.getD c 0= -1) now2 M2 h2 h3=>BI J P D h c hc σ now2 M2 ⟨fun a ha=>by rw [eJ hc (by rw [← getD_at hc];exact hp)] at ha;simp at ha,fun a _=>hσ a⟩ (fun a x e=>by rw [hσ] at e;cases e) (fun a x e=>by rw [hσ] at e;cases e) h2 h3
 have hfn:=uO bG J P σ
 have hft:=fun (cs:List Int) (k:Nat) (hk:k<cs.length)=>oG bG J P σ hk
 have hkb:=fun k=>ig (Cd h.t12 hP _ (List.take_prefix k (al P (-1))) σ) (by omega)
 have hvb:=fun (c:Nat) (hc:c<P.length)=>ig (Ed h.t12 hP hc σ) (by omega)
 generalize al P (-1)=CS at*
 refine Z1 rfl rfl ?_
 refine Gr rfl ?_
 iterate 7 refine A1 rfl ?_
 refine Z1 rfl rfl ?_
 refine Rs 12 rfl rfl (ah [big,1000001,1000002,1000003,1000004,1000005] 2 call187 hroots rfl rfl rfl rfl ⟨rfl,rfl,rfl,rfl,rfl,rfl,trivial⟩ (by decide) rfl) ?_
 refine Y2 rfl rfl ?_
 refine Gl rfl (st:=fun x_0:Nat×List ByteArray×List (ByteArray×Nat)=>mkS [(0,.ptr big 0),(2,.ptr 0 0),(3,.ptr 1 0),(12,.pv (ak CS)),(13,.pv (.int .i64 CS.length)),(14,.pv (.int .i64 x_0.1))] [(big,oN (wdN D) 1000004 1000001 J.S.attrs.length 1000002 1000003),(0,.mix 91 [.pv (.bool false),.pv nS]),(1,jQ (fl bG J P (CS.take x_0.1) σ)),(1000001,.cells 9 (aA x_0.2.1)),(1000002,.cells 4 (ay (stL σ J.S.attrs.length))),(1000003,.mp (ba x_0.2.2) (bM x_0.2.2)),(1000004,oX2 J 1000005),(1000005,.mp J.pk J.pv)] 2)
  (I:=fun x_0=>x_0.1≤CS.length∧NowOk J.S.attrs.length σ x_0.2.1∧iz bG J P x_0.2.2) (μ:=fun x_0=>CS.length-x_0.1) (x0:=(0,now,M)) (Io (aS rfl) ⟨by kernel_rfl,by kernel_rfl,Eq.trans (b:=some (jQ bG.one)) (by kernel_rfl) (congrArg (fun b=>some (jQ b)) hfn.symm),by kernel_rfl,by kernel_rfl,by kernel_rfl,by kernel_rfl,by kernel_rfl,trivial⟩ rfl rfl) (⟨Nat.zero_le _,hn,hM⟩) ?_
 rintro ⟨k4,now2,M2⟩ ⟨hk4,hn2,hM2⟩
 try simp only at hk4 hn2 hM2 ⊢
 refine Z1 rfl rfl ?_
 refine Gp rfl rfl (fun hc15=>?_) (fun hc15=>?_)
 ·have hlt4:k4<CS.length:=by omega
  obtain ⟨c,hc,hce,hcp⟩:=hkid _ (List.getElem_mem hlt4)
  have hpv4:(aE CS)[k4*1]? =some (.int .i64 (c:Int)):=by rw [← hce];simp [hlt4]
  have hpn4:=aH hlt4
  have hvk:=hview c hc hcp now2 M2 hn2 hM2
  have htk:=hft CS k4 hlt4
  have hmm:=th _ _ (hkb k4) (hvb c hc)
  rw [hce] at htk
  generalize hag:fl bG J P (CS.take k4) σ=acc at*
  refine Il ?_
  refine Z1 rfl rfl ?_
  refine Rs 17 rfl rfl (ai ⟨_,underlying3,rfl⟩ rfl hpv4) ?_
  refine A1 rfl ?_
  refine Ge rfl follows [0,1,2,3,4,5,6,7,8,9,10] (by kernel_rfl) ?_
  iterate 8 refine D1 rfl rfl ?_
  refine DL.rel (RV (RBN J P σ (fv bG J P c σ))) [1000001,1000003] [] [big,1000001,1000002,1000003,1000004,1000005] rfl rfl rfl (fun τ h=>Gh call188 hvk zN (h.args.trans rfl) rfl rfl ⟨Eo h 0 rfl rfl,Eo h 1 rfl rfl,Eo h 2 rfl rfl,Eo h 3 rfl rfl,Eo h 4 rfl rfl,Eo h 5 rfl rfl,trivial⟩) rfl (by kernel_rfl) (by kernel_rfl) (by kernel_rfl) ?_
  rintro _ ⟨_,_,_,⟨now3,M3,hn3,hM3,rfl,rfl,rfl⟩,rfl⟩ _ _
  refine Ds 27 [] rfl rfl rfl (fun τ h=>bb call87 (Ee h 0 rfl rfl) hmm (h.jv rfl)) rfl (by kernel_rfl) ?_
  refine D1 rfl rfl ?_
  refine ⟨by kernel_rfl,?_⟩
  refine Z2 rfl rfl rfl ?_
  exact ⟨(k4+1,now3,M3),Io (aS rfl) ⟨by kernel_rfl,by kernel_rfl,Eq.trans (b:=some (jQ (bG.mul acc (fv bG J P c σ)))) (by kernel_rfl) (congrArg (fun b=>some (jQ b)) htk.symm),by kernel_rfl,by kernel_rfl,by kernel_rfl,by kernel_rfl,by kernel_rfl,trivial⟩ rfl rfl,⟨by omega,hn3,hM3⟩,by simp only;omega⟩
 ·rw [show CS.take k4=CS from List.take_of_length_le (by omega)]
  refine Gx rfl ?_
  refine Z2 rfl rfl rfl ?_
  refine Gt rfl ?_
  exact ⟨[(2,.ptr 0 0)],o6R J (wdN D) σ now2 (ba M2) (bM M2) (jQ (fl bG J P CS σ)),[xg (fl bG J P CS σ)],o6N J (wdN D) σ now2 (ba M2) (bM M2),1,Io (aS rfl) (aO (by kernel_rfl)) rfl rfl,rfl,⟨aY ⟨_,underlying91,rfl⟩ lK rfl rfl rfl,trivial⟩,rfl,rfl,yL _ _ _ _ _ _ _,by decide,now2,M2,hn2,hM2,rfl,rfl⟩
end
section
open Go.RowKit Mk Jn
set_option maxHeartbeats 4000000
abbrev s0N:Asg ByteArray:=fun _=>none
abbrev jdN (S:Sch) (T:List (List Rw)) (lp:List Int) (D:VD):JD:=⟨S,T,ak lp,[.int .i64 (-1)],[ca D]⟩
abbrev H5:PV:= .agg [.bool false,dd 0,.bool false,dd 1,.fn (.func 86) [] [],.fn (.func 87) [] [],.fn (.func 88) [] []]
abbrev BV:PV:= .fn (.func 91) [] []
abbrev wtN:PV:= .fn (.func 92) [] []
abbrev st0N (S:Sch) (T:List (List Rw)) (lp:List Int) (D:VD):List (Nat×Ob):=[(4,.mix 240 [.ptr big 0,.pv (bu D.chs),.pv (bu D.kes),.pv (bu D.hos),.pv (ak D.wa),.pv (.bool false),.pv (dd 0),.pv (.bool false),.pv (dd 1),.pv (.fn (.func 86) [] []),.pv (.fn (.func 87) [] []),.pv (.fn (.func 88) [] []),.pv BV,.pv wtN,.pv .nilmap,.osl 1 1 S.attrs.length,.osl 2 1 S.attrs.length,.map 3]),(1,.cells 9 (aA (List.replicate S.attrs.length eb))),(2,.cells 4 (ay (stL s0N S.attrs.length))),(3,.mp [] []),(big,oX S (.pv (dbP T)) (.pv (ak lp)) 1000001),(1000001,.mp [.int .i64 (-1)] [ca D])]
theorem zA (n:Nat):List.replicate n (PV.bool false)=ay (stL s0N n):=by
 apply List.ext_getElem
 ·simp [cK]
 ·intro i h1 h2
  simp [stL]
theorem sw (S:Sch) (T:List (List Rw)) (lp:List Int) (pk pv:List PV) (D:VD) (hn:S.attrs.length≤1000) (hpl:FnO Tryz.prog 186 2 0 [.ptr big 0,.pv (.int .i64 (-1))] (jnO S T lp pk pv) (fun v ob'=>v= .agg (A6 D)∧ob'=ar (jnO S T lp [.int .i64 (-1)] [ca D]))):
  FnO Tryz.prog 137 2 5 [.ptr big 0,.pv (.int .i64 (-1)),.pv .nilmap,.pv H5,.pv BV,.pv wtN] (jnO S T lp pk pv) (fun v ob'=>v= .ptr 4 0∧ob'=ar (st0N S T lp D)):=by
 refine FnO.of func137 rfl ntmps137 (by simp) fun m0 w0 F R0=>?_
 refine Z2 rfl rfl rfl ?_
 refine Gr rfl ?_
 iterate 7 refine A1 rfl ?_
 refine Ge rfl follows [0,1,2,3,4,5,6,7,8,9,10,11,12,13,14,15] (by kernel_rfl) ?_
 iterate 3 refine D1 rfl rfl ?_
 refine Ds 23 [big,1000001] rfl rfl rfl (fun τ h=>ah [big,1000001] 5 call186 hpl (h.args.trans rfl) rfl rfl rfl ⟨(Eo h 0 rfl rfl),(Eo h 1 rfl rfl),trivial⟩ (by decide) rfl) rfl (by kernel_rfl) ?_
 iterate 8 refine D1 rfl rfl ?_
 refine Ds 32 [] rfl rfl rfl (fun τ h=>fF 3 (h.n 0 _ rfl)) rfl (by kernel_rfl) ?_
 refine D1 (d:=some 33) (s:=⟨.agg [.ptr big 0,.pv (bu D.chs),.pv (bu D.kes),.pv (bu D.hos),.pv (ak D.wa),.pv (.bool false),.pv (dd 0),.pv (.bool false),.pv (dd 1),.pv (.fn (.func 86) [] []),.pv (.fn (.func 87) [] []),.pv (.fn (.func 88) [] []),.pv BV,.pv wtN,.pv .nilmap,.osl 1 1 S.attrs.length,.osl 2 1 S.attrs.length,.map 3],[],[]⟩) (rd:=[big,1,2,3]) (φ:=True) rfl (by kernel_rfl) ?_
 iterate 2 refine D1 rfl rfl ?_
 refine ⟨by kernel_rfl,?_⟩
 refine Gt rfl ?_
 exact ⟨[(12,.ptr 4 0)],st0N S T lp D,[.ptr 4 0],Io (aS rfl) ⟨by kernel_rfl,Eq.trans (b:=some (.cells 9 (mkZ [.str ByteArray.empty] (S.attrs.length*1)))) (by kernel_rfl) (congrArg (fun c=>some (Ob.cells 9 c)) ((ct (.str ByteArray.empty) (S.attrs.length*1)).trans (by rw [Nat.mul_one];show _=List.map _ (List.replicate _ _);rw [List.map_replicate];rfl))),Eq.trans (b:=some (.cells 4 (mkZ [.bool false] (S.attrs.length*1)))) (by kernel_rfl) (congrArg (fun c=>some (Ob.cells 4 c)) ((ct (.bool false) (S.attrs.length*1)).trans (by rw [Nat.mul_one];exact zA _))),by kernel_rfl,by kernel_rfl,by kernel_rfl,trivial⟩ rfl rfl,rfl,rfl,rfl,rfl,rfl⟩
end
section
open Go.RowKit Mk Jn
set_option maxHeartbeats 4000000
abbrev jobJ (S:Sch) (T:List (List Rw)) (lp:List Int):Ob:= (oX S (.pv (dbP T)) (.pv (ak lp)) 1000001)
def pr (S:Sch) (T:List (List Rw)) (lp:List Int) (pk pv:List PV) (D:VD):Prop:=FnO Tryz.prog 186 2 0 [.ptr big 0,.pv (.int .i64 (-1))] (jnO S T lp pk pv) (fun v ob'=>v= .agg (A6 D)∧ob'=ar (jnO S T lp [.int .i64 (-1)] [ca D]))
theorem now0 (n:Nat):NowOk n s0N (List.replicate n eb):=⟨by simp,fun a h x e=>(by cases e),fun a _=>rfl⟩
theorem C7 (S:Sch) (T:List (List Rw)) (lp:List Int) (pk pv:List PV) (D:VD) (hpl:pr S T lp pk pv D) (P:List Int) (hc:CtxV (jdN S T lp D) P D):
  FnO Tryz.prog 90 2 0 [.ptr big 0,.pv .nilmap,.pv H5,.pv BV,.pv wtN] (jnO S T lp pk pv) (fun v ob'=>v=xg (fl bG (jdN S T lp D) P (al P (-1)) s0N)∧ob'=ar (jnO S T lp [.int .i64 (-1)] [ca D])):=by
 refine FnO.ofC func90 rfl ntmps90 (by simp) fun m0 w0 F R0=>?_
 have hst:=sw S T lp pk pv D hc.ok.s.a hpl
 have htt:=rT (jdN S T lp D) P D hc s0N (fun _=>rfl) (List.replicate S.attrs.length eb) [] (now0 _) (fun p hp=>by cases hp)
 refine Z2 rfl rfl rfl ?_
 refine Gr rfl ?_
 iterate 5 refine A1 rfl ?_
 refine Rs 16 rfl rfl (ah [big,1000001] 2 call137 hst rfl rfl rfl rfl ⟨rfl,rfl,trivial⟩ (by decide) rfl) ?_
 refine RL.call rfl (dU (os:=o6N (jdN S T lp D) (wdN D) s0N (List.replicate S.attrs.length eb) [] []) [6,3,4,5,big,1000001] 0 call138 (args:=[.ptr big 0]) (k':=0) (by kernel_rfl) (by kernel_rfl) (by kernel_rfl) (by kernel_rfl) ⟨by kernel_rfl,by kernel_rfl,by kernel_rfl,by kernel_rfl,by kernel_rfl,by kernel_rfl,trivial⟩ (by decide) (by kernel_rfl) htt fun v ob' hv=>?_)
 obtain ⟨now2,M2,hn2,hM2,rfl,rfl⟩:=hv
 refine A1 rfl ?_
 refine Gt rfl ?_
 exact ⟨[(10,.ptr 1 0)],[(big,jobJ S T lp),(1000001,.mp [.int .i64 (-1)] [ca D]),(1,jQ (fl bG (jdN S T lp D) P (al P (-1)) s0N))],[xg (fl bG (jdN S T lp D) P (al P (-1)) s0N)],[(big,jobJ S T lp),(1000001,.mp [.int .i64 (-1)] [ca D])],2,Io (aS rfl) (aO (by kernel_rfl)) rfl rfl,rfl,⟨aY ⟨_,underlying91,rfl⟩ lK rfl rfl rfl,trivial⟩,rfl,rfl,fun i o h=>gH _ [(1,jQ (fl bG (jdN S T lp D) P (al P (-1)) s0N))] i o h,by decide,rfl,rfl⟩
theorem vD (S:Sch) (T:List (List Rw)) (lp:List Int) (pk pv:List PV) (D:VD) (hpl:pr S T lp pk pv D) (P:List Int) (hc:CtxV (jdN S T lp D) P D):
  FnO Tryz.prog 49 2 0 [.ptr big 0] (jnO S T lp pk pv) (fun v ob'=>v=xg (fl bG (jdN S T lp D) P (al P (-1)) s0N)∧ob'=ar (jnO S T lp [.int .i64 (-1)] [ca D])):=by
 refine FnO.ofC func49 rfl ntmps49 (by simp) fun m0 w0 F R0=>?_
 have hrun:=C7 S T lp pk pv D hpl P hc
 have hof0:=fO 0 (by decide) (by decide)
 have hof1:=fO 1 (by decide) (by decide)
 generalize fl bG (jdN S T lp D) P (al P (-1)) s0N=N at*
 refine Z1 rfl rfl ?_
 refine Gr rfl ?_
 refine Rs 4 rfl rfl (ae call51 hof0 rfl) ?_
 refine Rs 5 rfl rfl (ae call51 hof1 rfl) ?_
 refine Y3 rfl rfl rfl ?_
 refine Z2 rfl rfl rfl ?_
 refine Rs 9 rfl rfl (ah [big,1000001] 2 call90 hrun rfl rfl rfl rfl ⟨rfl,rfl,trivial⟩ (by decide) rfl) ?_
 refine A1 rfl ?_
 refine Gt rfl ?_
 exact ⟨[(2,.ptr 0 0)],[(big,jobJ S T lp),(1000001,.mp [.int .i64 (-1)] [ca D]),(0,jQ N)],[xg N],[(big,jobJ S T lp),(1000001,.mp [.int .i64 (-1)] [ca D])],1,Io (aS rfl) (aO (by kernel_rfl)) rfl rfl,rfl,⟨aY ⟨_,underlying91,rfl⟩ lK rfl rfl rfl,trivial⟩,rfl,rfl,fun i o h=>gH _ [(0,jQ N)] i o h,by decide,rfl,rfl⟩
theorem qq:FnP Tryz.prog 141 [] (· =HC):=by
 refine FnP.ofC func141 rfl ntmps141 (by simp) fun m0 w0 F R0=>?_
 refine Z1 rfl rfl ?_
 refine Z2 rfl rfl rfl ?_
 refine Gt rfl ?_
 exact ⟨_,_,rfl,rfl,⟨aY ⟨_,underlying148,rfl⟩ sz148 rfl rfl rfl,trivial⟩,rfl⟩
theorem vP (S:Sch) (T:List (List Rw)) (lp:List Int) (pk pv:List PV) (D:VD) (hn:S.attrs.length≤1000) (hpl:pr S T lp pk pv D):
  FnO Tryz.prog 96 2 5 [.ptr big 0,.pv (.int .i64 (-1)),.pv .nilmap] (jnO S T lp pk pv) (fun v ob'=>v= .ptr 4 0∧ob'=ar (HG S T lp D)):=by
 refine FnO.of func96 rfl ntmps96 (by simp) fun m0 w0 F R0=>?_
 have hst:=rE S T lp pk pv D hn hpl
 refine Z1 rfl rfl ?_
 refine Z3 rfl rfl rfl rfl ?_
 refine Rs 10 rfl rfl (ae call141 qq rfl) ?_
 refine Rs 11 rfl rfl (ah [big,1000001] 0 call140 hst rfl rfl rfl rfl ⟨rfl,rfl,trivial⟩ (by decide) rfl) ?_
 refine A1 rfl ?_
 refine Gt rfl ?_
 exact ⟨[(6,.ptr 4 0)],HG S T lp D,[.ptr 4 0],Io (aS rfl) (aO (by kernel_rfl)) rfl rfl,rfl,rfl,rfl,rfl,rfl⟩
end
section
open Mk
set_option maxHeartbeats 1000000
noncomputable def costN (G:List B64) (rest:B64) (a:Nat):Nat:=keyN G (compB G rest a)+1
section
variable {G:List B64} (hG:GOk G)
include hG
end
theorem BD {l:List Int} {x:B64} (hnd:l.Nodup) (hnn:∀ y∈l,0≤y) (hm:∀ a:Nat,(a:Int)∈l↔x.getLsbD a=true):l.length=cC x:=by
 have hp:l.Perm (((List.range 64).filter fun i=>x.getLsbD i).map Int.ofNat):=cu hnd (List.Pairwise.map _ (fun a b h e=>h (Int.ofNat.inj e)) (List.Pairwise.sublist List.filter_sublist List.nodup_range)) fun y=>by
  rw [List.mem_map]
  constructor
  ·intro hy
   obtain ⟨a,rfl⟩:=Int.eq_ofNat_of_zero_le (hnn y hy)
   have:=(hm a).1 hy
   exact ⟨a,List.mem_filter.2 ⟨List.mem_range.2 (cq this),this⟩,rfl⟩
  ·rintro ⟨a,ha,rfl⟩
   exact (hm a).2 (List.mem_filter.1 ha).2
 rw [hp.length_eq,List.length_map]
 unfold cC
 rw [List.countP_eq_length_filter]
section
variable {S:Sch} (hV:Valid S) {q:List Int} (hq:q.Perm (upZ S.attrs.length))
include hV hq
end
end
section
open Go.RowKit Mk Jn
set_option autoImplicit false
theorem j6 {α:Type} (f:Nat→α):∀ (us:List (Nat×α)) (D:List α),(∀ p∈us,p.2=f p.1)→∀ i,i<D.length→(bg D us)[i]? =if i∈us.map (·.1) then some (f i) else D[i]?
 | [],D,_,i,_=>by simp [bg]
 | u::us,D,h,i,hi=>by
   have e:bg D (u::us)=bg (D.set u.1 u.2) us:=rfl
   rw [e,j6 f us _ (fun p hp=>h p (by simp [hp])) i (by simpa using hi)]
   by_cases h1:i∈us.map (·.1)
   ·rw [if_pos h1,if_pos (by rw [List.map_cons];exact List.mem_cons_of_mem _ h1)]
   ·rw [if_neg h1]
    by_cases h2:u.1=i
    ·rw [if_pos (by rw [List.map_cons,h2];exact List.mem_cons_self ..),List.getElem?_set,if_pos h2,if_pos (by omega),h u (by simp),h2]
    ·rw [if_neg (by rw [List.map_cons,List.mem_cons];rintro (e | e);exact h2 e.symm;exact h1 e),List.getElem?_set,if_neg h2]
theorem FQ {cs:List Int} {F:Int→B64} (x:Nat):∀ g:B64,(cs.foldl (fun z c=>z|||F c) g).getLsbD x=(g.getLsbD x||cs.any fun c=>(F c).getLsbD x):=by
 induction cs with
 | nil=>intro g;simp
 | cons c cs ih=>intro g;rw [List.foldl_cons,ih,BitVec.getLsbD_or,List.any_cons,Bool.or_assoc]
theorem s7 {S:Sch} {P:List Int} (hP:UpOk P) {v:Nat} (hv:v<P.length):(upZ P.length).filter (fun a=>decide (a∈bp P v)&&(fk P v).any fun b=>eS S a b)=dq S P v:=by
 unfold dq
 refine CV ?_ (List.Pairwise.sublist List.filter_sublist ((Hj P.length).imp fun h=>Int.le_of_lt h))
 have hab:=(List.nodup_cons.1 (fP hP v hv)).2
 refine cu (List.Pairwise.sublist List.filter_sublist (cJ _)) (by unfold H7;exact List.Pairwise.sublist List.filter_sublist hab) fun a=>?_
 unfold H7
 rw [List.mem_filter,List.mem_filter,Bool.and_eq_true,decide_eq_true_iff]
 refine ⟨fun h=>h.2,fun h=>⟨?_,h⟩⟩
 obtain ⟨x,hx,e,_⟩:=gE hP v hv a h.1
 exact bx.2 ⟨x,hx,e⟩
def AbB (P:List Int) (v:Nat) (ab:B64):Prop:=∀ x:Nat,ab.getLsbD x=true↔(x:Int)∈bp P v
theorem qt (P:List Int) (G:List B64) (x:Nat):∀ (k:Nat) (v:Int),(eW P G k v).getLsbD x=(fY P k v).any fun m=>(G.getD m.toNat 0#64).getLsbD x
 | 0,v=>by rw [eW,fY];simp
 | k+1,v=>by
   rw [eW,fY,FQ,List.any_cons,List.any_flatMap]
   congr 1
   exact congrArg (al P v).any (funext fun c=>qt P G x k c)
theorem uf (P:List Int):∀ (k:Nat) (v:Int) (ab:B64),(ri P k v ab).map (·.1)=(fY P k v).map Int.toNat
 | 0,v,ab=>rfl
 | k+1,v,ab=>by
   rw [ri,fY,List.map_cons,List.map_cons,List.map_flatMap,List.map_flatMap]
   congr 1
   exact congrArg (fun f=>List.flatMap f (al P v)) (funext fun c=>uf P k c _)
theorem uC (P:List Int) (G:List B64) (n x:Nat):∀ (k:Nat) (v:Int) (ab:B64),x∈(fY P k v).map Int.toNat→x∈(fQ P G n k v ab).map (·.1)
 | 0,v,ab,h=>by rw [fQ];simpa [fY] using h
 | k+1,v,ab,h=>by
   rw [fQ,List.map_append,List.map_flatMap,List.mem_append,List.mem_flatMap]
   rw [fY,List.map_cons,List.map_flatMap] at h
   rcases List.mem_cons.1 h with h | h
   ·right;simp [h]
   ·obtain ⟨c,hc,h⟩:=List.mem_flatMap.1 h
    exact .inl ⟨c,hc,uC P G n x k c _ h⟩
section
variable {S:Sch} {P:List Int} (h:OrdOk S P)
include h
theorem n12:P.length≤12:=by rw [h.len];exact h.val.n2
theorem AbB.down {v c:Nat} {ab:B64} (hab:AbB P v ab) (hv:v<P.length) (hc:c<P.length) (hp:P.getD c 0=(v:Int)):AbB P c (ab|||BitVec.twoPow 64 (v:Int).toNat):=by
 intro x
 have hn:=n12 h
 rw [bO h.dP hc hv hp,BitVec.getLsbD_or,BitVec.getLsbD_twoPow,Bool.or_eq_true,hab x,List.mem_cons]
 simp only [Int.toNat_natCast,Bool.and_eq_true,decide_eq_true_iff]
 constructor
 ·rintro (h1 | ⟨_,h1⟩)
  ·exact .inr h1
  ·exact .inl (by omega)
 ·rintro (h1 | h1)
  ·exact .inr ⟨by omega,by omega⟩
  ·exact .inl h1
theorem AbB.pop {v:Nat} {ab:B64} (hab:AbB P v ab) (hv:v<P.length):cC ab=(bp P v).length:=by
 refine (BD (List.nodup_cons.1 (fP h.dP v hv)).2 (fun y hy=>?_) fun a=>(hab a).symm).symm
 obtain ⟨a,_,e,_⟩:=gE h.dP v hv y hy
 omega
theorem Ev:∀ (k v:Nat) (ab:B64),v<P.length→AbB P v ab→∀ p∈ri P k v ab,p.2=((bp P (p.1:Nat)).length:Int)
 | 0,v,ab,hv,hab,p,hp=>by
   rw [ri,List.mem_singleton] at hp
   subst hp
   show (cC ab:Int)=_
   rw [hab.pop h hv];rfl
 | k+1,v,ab,hv,hab,p,hp=>by
   rw [ri,List.mem_cons] at hp
   rcases hp with hp | hp
   ·subst hp
    show (cC ab:Int)=_
    rw [hab.pop h hv];rfl
   ·obtain ⟨c,hc,hp⟩:=List.mem_flatMap.1 hp
    obtain ⟨m,hm,rfl,e⟩:=aX.1 hc
    exact Ev k m _ hm (hab.down h hv hm e) p hp
theorem zI {k v:Nat} (hv:v<P.length) (hf:P.length≤k+1+(bp P v).length) {x:Nat} (hx:x<P.length):(x:Int)∈fY P k v↔(x:Int)∈fk P v:=by
 have ht:a7 P k v=a7 P (k+1) v:=(iy h.dP k v hv hf).symm
 rw [ot,ht,tree_vs,da,List.mem_cons]
 have hc:=iO h.dP (k+1) v (fun a ha e=>by rw [bO h.dP ha hv (by rw [getD_at ha];exact e),List.length_cons];omega) x hx
 have hne:(v:Int)∈bp P x++[-1]↔(v:Int)∈bp P x:=by
  rw [List.mem_append,List.mem_singleton]
  exact ⟨fun e=>e.resolve_right (by omega),.inl⟩
 simp only [hne] at hc
 constructor
 ·rintro (h1 | h1)
  ·exact ⟨⟨x,hx,rfl⟩,.inl h1⟩
  ·refine ⟨⟨x,hx,rfl⟩,.inr ?_⟩
   have:=List.count_pos_iff.2 h1
   exact Classical.byContradiction fun hn=>by rw [if_neg hn] at hc;omega
 ·rintro ⟨_,h1 | h1⟩
  ·exact .inl h1
  ·rw [if_pos h1] at hc
   exact .inr (List.count_pos_iff.1 (by omega))
theorem FN {k v:Nat} (hv:v<P.length):∀ x∈fY P k v,∃ m:Nat,m<P.length∧x=(m:Int):=fun x hx=>by
 rw [ot] at hx
 obtain ⟨m,hm,e,_⟩:=gR h.dP k v hv x hx
 exact ⟨m,hm,e⟩
theorem Ef {k v:Nat} {ab:B64} (hv:v<P.length) (hf:P.length≤k+1+(bp P v).length) (hab:AbB P v ab):gG (eW P (gr S) k v&&&ab) P.length=dq S P v:=by
 rw [← s7 h.dP hv]
 unfold gG upZ
 rw [List.filter_map]
 congr 1
 apply List.filter_congr
 intro x hx
 have hx:=List.mem_range.1 hx
 show _=(decide ((x:Int)∈bp P v)&&(fk P v).any fun b=>eS S (x:Int) b)
 rw [BitVec.getLsbD_and,qt]
 by_cases ha:(x:Int)∈bp P v
 ·rw [(hab x).2 ha,Bool.and_true,decide_eq_true ha,Bool.true_and,Bool.eq_iff_iff,List.any_eq_true,List.any_eq_true]
  constructor
  ·rintro ⟨m,hm,hb⟩
   obtain ⟨m',hm',rfl⟩:=FN h hv m hm
   refine ⟨_,(zI h hv hf hm').1 hm,?_⟩
   rw [Int.toNat_natCast,pC h.val (by rw [← h.len];exact hm'),Bool.and_eq_true] at hb
   exact kL hb.2
  ·rintro ⟨m,hm,hb⟩
   obtain ⟨⟨m',hm',rfl⟩,h2⟩:=da.1 hm
   refine ⟨_,(zI h hv hf hm').2 hm,?_⟩
   rw [Int.toNat_natCast,pC h.val (by rw [← h.len];exact hm'),Bool.and_eq_true,decide_eq_true_iff]
   refine ⟨?_,kL hb⟩
   rintro rfl
   rcases h2 with h2 | h2
   ·have:m'=v:=by omega
    subst this
    exact jl h.dP hv ha
   ·exact jl h.dP hv (fH h.dP hv h2 ha)
 ·rw [decide_eq_false ha,Bool.false_and,Bool.and_eq_false_iff]
  right
  rw [Bool.eq_false_iff]
  exact fun e=>ha ((hab x).1 e)
theorem AM:∀ (k v:Nat) (ab:B64),v<P.length→P.length≤k+1+(bp P v).length→AbB P v ab→∀ p∈fQ P (gr S) P.length k v ab,p.2=dq S P (p.1:Nat)
 | 0,v,ab,hv,hf,hab,p,hp=>by
   rw [fQ,List.mem_singleton] at hp
   subst hp
   exact Ef h hv hf hab
 | k+1,v,ab,hv,hf,hab,p,hp=>by
   rw [fQ,List.mem_append,List.mem_singleton] at hp
   rcases hp with hp | hp
   ·obtain ⟨c,hc,hp⟩:=List.mem_flatMap.1 hp
    obtain ⟨m,hm,rfl,e⟩:=aX.1 hc
    exact AM k m _ hm (by rw [bO h.dP hm hv e,List.length_cons];omega) (hab.down h hv hm e) p hp
   ·subst hp
    exact Ef h hv hf hab
omit h in
theorem Bt {c:Nat} (hc:c<P.length) (e:P.getD c 0= -1):bp P c=[]:=eJ hc (by rw [← getD_at hc];exact e)
omit h in
theorem tL {c:Nat} (hc:c<P.length) (e:P.getD c 0= -1):AbB P c 0#64:=fun x=>by rw [Bt hc e];simp
theorem Am {i:Nat} (hi:i<P.length):∃ c:Nat,c<P.length∧P.getD c 0= -1∧(c:Int)∈al P (-1)∧i∈(fY P P.length c).map Int.toNat:=by
 have h1:(i:Int)∈aD P:=(cf h.dP).mem_iff.2 (bx.2 ⟨i,hi,rfl⟩)
 rw [← nN,List.mem_flatMap] at h1
 obtain ⟨c,hc,h1⟩:=h1
 obtain ⟨m,hm,rfl,e⟩:=aX.1 hc
 exact ⟨m,hm,e,hc,List.mem_map.2 ⟨_,h1,rfl⟩⟩
omit h in
theorem Ay (D l:List Int):∀ a∈l,D.getD a.toNat 0≤D.getD (eX D l l.length).toNat 0:=by
 have key:∀ (k:List Int) (h0:Int),D.getD h0.toNat 0≤D.getD (k.foldl (fun h a=>if D.getD a.toNat 0>D.getD h.toNat 0 then a else h) h0).toNat 0∧∀ a∈k,D.getD a.toNat 0≤D.getD (k.foldl (fun h a=>if D.getD a.toNat 0>D.getD h.toNat 0 then a else h) h0).toNat 0:=by
  intro k
  induction k with
  | nil=>intro h0;exact ⟨Int.le_refl _,fun a ha=>by cases ha⟩
  | cons x k ih=>
    intro h0
    rw [List.foldl_cons]
    have h1:=ih (if D.getD x.toNat 0>D.getD h0.toNat 0 then x else h0)
    by_cases hx:D.getD x.toNat 0>D.getD h0.toNat 0
    ·rw [if_pos hx] at h1 ⊢
     refine ⟨Int.le_trans (Int.le_of_lt hx) h1.1,fun a ha=>?_⟩
     rcases List.mem_cons.1 ha with rfl | ha
     ·exact h1.1
     ·exact h1.2 a ha
    ·rw [if_neg hx] at h1 ⊢
     refine ⟨h1.1,fun a ha=>?_⟩
     rcases List.mem_cons.1 ha with rfl | ha
     ·exact Int.le_trans (Int.not_lt.1 hx) h1.1
     ·exact h1.2 a ha
 intro a ha
 unfold eX
 rw [List.take_length]
 exact (key l _).2 a ha
theorem F3 {r:ByteArray×List Int} (hr:r∈S.rels) (D:List Int) (hD:∀ i:Nat,i<P.length→D.getD i 0=((bp P (i:Nat)).length:Int)):eX D r.2 r.2.length=ka P r.2:=by
 have hrng:∀ a∈r.2,0≤a∧a<P.length:=by rw [h.len];exact h.val.rng r hr
 obtain ⟨h1,h2⟩:=nI h.dP (h.val.ne r hr) hrng (h.rt r hr)
 have h3:=pY D (h.val.ne r hr) r.2.length
 rcases h2 _ h3 with e | e
 ·exact e
 ·exfalso
  have h4:=Ay D r.2 _ h1
  obtain ⟨a,ha⟩:=Int.eq_ofNat_of_zero_le (hrng _ h3).1
  obtain ⟨b,hb⟩:=Int.eq_ofNat_of_zero_le (hrng _ h1).1
  have r1:=(hrng _ h3).2
  have r2:=(hrng _ h1).2
  rw [ha] at r1 e h4
  rw [hb] at r2 e h4
  have r1':a<P.length:=by omega
  have r2':b<P.length:=by omega
  have h5:=ED h.dP r2' e
  rw [Int.toNat_natCast,Int.toNat_natCast,hD a r1',hD b r2'] at h4
  omega
def gT (S:Sch) (P:List Int):VD:=⟨(upZ P.length).map (al P)++[al P (-1)],(upZ P.length).map (dq S P),(upZ P.length).map (o6 (S.rels.map fun r=>ka P r.2) S.rels.length),aD P⟩
theorem oj:iK S P (gr S)=gT S P:=by
 have hgl:(gr S).length=P.length:=by rw [fR,h.len]
 have hD:∀ i:Nat,i<P.length→(bg (List.replicate (gr S).length (0:Int)) ((al P (-1)).flatMap fun c=>ri P P.length c 0#64)).getD i 0=((bp P (i:Nat)).length:Int):=by
  intro i hi
  rw [List.getD_eq_getElem?_getD,j6 (fun i=>((bp P (i:Nat)).length:Int)) _ _ (fun p hp=>?_) i (by rw [List.length_replicate,hgl];exact hi),if_pos ?_]
  ·rfl
  ·obtain ⟨c,hc,e,hm,hv⟩:=Am h hi
   rw [List.map_flatMap,List.mem_flatMap]
   exact ⟨c,hm,by rw [uf];exact hv⟩
  ·obtain ⟨c,hc,hp⟩:=List.mem_flatMap.1 hp
   obtain ⟨m,hm,rfl,e⟩:=aX.1 hc
   exact Ev h P.length m _ hm (tL hm e) p hp
 have e1:(iK S P (gr S)).chs=(gT S P).chs:=by
  show lsT P P.length=_
  unfold lsT gT
  rw [jT]
  congr 1
  exact List.map_congr_left fun v _=>jT P v
 have e2:(iK S P (gr S)).kes=(gT S P).kes:=by
  show bg (List.replicate (gr S).length []) _=(upZ P.length).map (dq S P)
  apply List.ext_getElem?
  intro i
  by_cases hi:i<P.length
  ·rw [j6 (fun i=>dq S P (i:Nat)) _ _ (fun p hp=>?_) i (by rw [List.length_replicate,hgl];exact hi),if_pos ?_]
   ·simp [upZ,hi]
   ·obtain ⟨c,hc,e,hm,hv⟩:=Am h hi
    rw [List.map_flatMap,List.mem_flatMap]
    exact ⟨c,hm,uC P _ _ _ _ _ _ hv⟩
   ·obtain ⟨c,hc,hp⟩:=List.mem_flatMap.1 hp
    obtain ⟨m,hm,rfl,e⟩:=aX.1 hc
    rw [hgl] at hp
    exact AM h P.length m _ hm (by omega) (tL hm e) p hp
  ·rw [List.getElem?_eq_none (by rw [cA,List.length_replicate,hgl];omega),List.getElem?_eq_none (by rw [List.length_map,a8];omega)]
 have e3:(iK S P (gr S)).hos=(gT S P).hos:=by
  show hsT (gr S).length (hpL _ S) S.rels.length=_
  unfold hsT gT hpL
  rw [hgl]
  congr 2
  exact List.map_congr_left fun r hr=>F3 h hr _ (by rw [hgl] at hD;exact hD)
 have e4:(iK S P (gr S)).wa=(gT S P).wa:=rfl
 generalize iK S P (gr S)=A at e1 e2 e3 e4
 generalize gT S P=B at e1 e2 e3 e4
 cases A;cases B
 simp only at e1 e2 e3 e4
 rw [e1,e2,e3,e4]
end
structure TabOk (S:Sch) (T:List (List Rw)):Prop where
 n:T.length=S.rels.length
 l:∀ l∈T,l.length≤12
 v:∀ r (h:r<T.length) (h2:r<S.rels.length),∀ x∈T[r],x.v.length=S.rels[r].2.length
 zf:∀ l∈T,∀ x∈l,∀ y∈x.v,Zf y∧y.size≤10000
theorem zq {S:Sch} (hV:Valid S) (hr:S.rels.length≤1000) (hl:∀ r∈S.rels,r.2.length≤1000):SJn S:=⟨by have:=hV.n2;omega,hr,hl,hV.rng⟩
theorem HF {S:Sch} {P:List Int} (h:OrdOk S P) (hS:SJn S) {T:List (List Rw)} (hT:TabOk S T) (hw:∀ a:Nat,a<S.attrs.length→∃ r∈S.rels,(a:Int)∈r.2) (lp:PV) (pk pv:List PV):CtxV ⟨S,T,lp,pk,pv⟩ P (gT S P) where
 ok:=⟨hS,hT.n,fun l hl=>by have:=hT.l l hl;omega,hT.v⟩
 ord:=h
 n64:=by have:=n12 h;omega
 ch:=rfl
 ke:=rfl
 hl:=by simp [gT,a8]
 ho:=fun l hl=>by
  obtain ⟨v,_,rfl⟩:=List.mem_map.1 hl
  refine ⟨Nat.le_trans (jI _ _ _) hS.r,fun r hr=>?_⟩
  unfold o6 at hr
  obtain ⟨a,ha,rfl⟩:=List.mem_map.1 hr
  have:=List.mem_range.1 (List.mem_filter.1 ha).1
  constructor<;>simp<;>omega
 zf:=hT.zf
 t12:=hT.l
 wv:=fun a ha=>by
  obtain ⟨r,hr,h2⟩:=hw a ha
  obtain ⟨i,hi,e⟩:=List.getElem_of_mem hr
  refine List.ne_nil_of_mem (a:=i) ?_
  unfold bw
  rw [List.mem_filter,List.mem_range]
  refine ⟨by simpa [RJ] using hi,?_⟩
  rw [qX]
  unfold cy
  simp only [List.getD_eq_getElem?_getD,List.getElem?_eq_getElem hi,Option.getD_some,e,decide_eq_true_iff]
  exact h2
end
section
open Go.RowKit Mk Jn
set_option autoImplicit false
def bY:List Int→Int
 | []=>1
 | x::l=>x*bY l
theorem ql (l m:List Int):bY (l++m)=bY l*bY m:=by
 induction l with
 | nil=>rw [List.nil_append,bY,Int.one_mul]
 | cons x l ih=>rw [List.cons_append,bY,ih,bY,Int.mul_assoc]
theorem vE {l m:List Int} (h:l.Perm m):bY l=bY m:=by
 induction h with
 | nil=>rfl
 | cons x _ ih=>rw [bY,bY,ih]
 | swap x y l=>rw [bY,bY,bY,bY,Int.mul_left_comm]
 | trans _ _ h1 h2=>rw [h1,h2]
def wr (J:JD) (σ:Asg ByteArray) (r:Nat):Int:=bY (((dh J r).filter fun x=>agr (cy J r) σ x.v).map (·.w))
def tW (J:JD) (σ:Asg ByteArray) (r:Nat) (w:Int) (rows:List Rw):Int:=rows.foldl (fun z x=>if agr (cy J r) σ x.v=true then z*x.w else z) w
theorem uL (J:JD) (σ:Asg ByteArray) (r:Nat) (rows:List Rw):∀ w,tW J σ r w rows=w*bY ((rows.filter fun x=>agr (cy J r) σ x.v).map (·.w)):=by
 induction rows with
 | nil=>intro w;simp [tW,bY]
 | cons x rows ih=>
   intro w
   show tW J σ r (if _ then _ else _) rows=_
   rw [ih,List.filter_cons]
   by_cases h:agr (cy J r) σ x.v=true
   ·rw [if_pos h,if_pos h,List.map_cons,bY,Int.mul_assoc]
   ·rw [if_neg h,if_neg h]
theorem Ba (J:JD) (σ:Asg ByteArray) (r:Nat) (w:Int) {rows:List Rw} {k:Nat} (h:k<rows.length):tW J σ r w (rows.take (k+1))=if agr (cy J r) σ rows[k].v=true then tW J σ r w (rows.take k)*rows[k].w else tW J σ r w (rows.take k):=by
 unfold tW
 rw [List.take_succ_eq_append_getElem h,List.foldl_append];rfl
def rh (J:JD) (σ:Asg ByteArray) (w:Int) (rs:List Int):Int:=rs.foldl (fun z r=>tW J σ r.toNat z (dh J r.toNat)) w
theorem Bx (J:JD) (σ:Asg ByteArray) (rs:List Int):∀ w,rh J σ w rs=w*bY (rs.map fun r=>wr J σ r.toNat):=by
 induction rs with
 | nil=>intro w;simp [rh,bY]
 | cons r rs ih=>
   intro w
   show rh J σ (tW J σ r.toNat w (dh J r.toNat)) rs=_
   rw [ih,uL,List.map_cons,bY,Int.mul_assoc];rfl
theorem pc (J:JD) (σ:Asg ByteArray) (w:Int) {rs:List Int} {k:Nat} (h:k<rs.length):rh J σ w (rs.take (k+1))=tW J σ rs[k].toNat (rh J σ w (rs.take k)) (dh J rs[k].toNat):=by
 unfold rh
 rw [List.take_succ_eq_append_getElem h,List.foldl_append];rfl
def enC (J:JD) (P:List Int) (hos:Int→List Int):List Int→Asg ByteArray→Int→List (Asg ByteArray×Int)
 | [],σ,w=>[(σ,w)]
 | v::vs,σ,w=>(bC (RJ J) sdS v σ).flatMap fun x=>if fl aU J P (al P v) (put σ v x)=true then enC J P hos vs (put σ v x) (rh J (put σ v x) w (hos v)) else []
theorem xG (J:JD) (P:List Int) (hos:Int→List Int):∀ (vs:List Int) (σ:Asg ByteArray) (w:Int),(enC J P hos vs σ w).map (·.1)=enT (bC (RJ J) sdS) (fun v τ=>fl aU J P (al P v) τ) vs σ
 | [],σ,w=>rfl
 | v::vs,σ,w=>by
   rw [enC,enT,List.map_flatMap]
   congr 1
   funext x
   by_cases hb:fl aU J P (al P v) (put σ v x)=true
   ·rw [if_pos hb,if_pos hb,xG J P hos vs]
   ·rw [if_neg hb,if_neg hb];rfl
theorem zc (J:JD) (P:List Int) (hos:Int→List Int):∀ (vs:List Int) (σ:Asg ByteArray) (w:Int),∀ p∈enC J P hos vs σ w,∀ a,a∉vs→p.1 a=σ a
 | [],σ,w,p,hp,a,_=>by rw [enC,List.mem_singleton] at hp;rw [hp]
 | v::vs,σ,w,p,hp,a,ha=>by
   rw [enC,List.mem_flatMap] at hp
   obtain ⟨x,_,hp⟩:=hp
   by_cases hb:fl aU J P (al P v) (put σ v x)=true
   ·rw [if_pos hb] at hp
    rw [zc J P hos vs _ _ p hp a fun e=>ha (by simp [e]),dZ _ _ fun e=>ha (by simp [e])]
   ·rw [if_neg hb] at hp;cases hp
theorem jC {σ:Asg ByteArray}:∀ {A:List Int} {x:List ByteArray},(∀ a∈A,(σ a).isSome=true)→x.length=A.length→(agr A σ x=true↔A.map (fun a=>(σ a).getD eb)=x)
 | [],x,_,hl=>by
   have:x=[]:=List.eq_nil_of_length_eq_zero hl
   subst this
   simp [agr]
 | a::A,[],_,hl=>by simp at hl
 | a::A,y::x,hs,hl=>by
   have ih:=jC (σ:=σ) (A:=A) (x:=x) (fun b hb=>hs b (by simp [hb])) (by simpa using hl)
   have ha:=hs a (by simp)
   obtain ⟨z,hz⟩:=Option.isSome_iff_exists.1 ha
   rw [pq] at ih ⊢
   rw [List.zip_cons_cons,List.all_cons,Bool.and_eq_true,ih,gW hz,decide_eq_true_iff,List.map_cons,hz,List.cons.injEq]
   rfl
theorem filter_one {l:List Rw} {p:Rw→Bool} (hd:l.Pairwise fun a b=>a.v≠b.v) {v:List ByteArray} (hp:∀ x∈l,p x=true→x.v=v):(l.filter p).length≤1:=by
 have h1:(l.filter p).Pairwise fun a b=>a.v≠b.v:=List.Pairwise.sublist List.filter_sublist hd
 have h2:∀ x∈l.filter p,x.v=v:=fun x hx=>hp x (List.mem_filter.1 hx).1 (List.mem_filter.1 hx).2
 generalize l.filter p=m at h1 h2
 match m,h1,h2 with
 | [],_,_=>exact Nat.zero_le _
 | [a],_,_=>exact Nat.le_refl _
 | a::b::m,h1,h2=>exact absurd ((h2 a (by simp)).trans (h2 b (by simp)).symm) ((List.pairwise_cons.1 h1).1 b (by simp))
def hoL (S:Sch) (P:List Int) (v:Int):List Int:=o6 (S.rels.map fun r=>ka P r.2) S.rels.length v
theorem iQ {S:Sch} {P:List Int} {v r:Int}:r∈hoL S P v↔∃ k:Nat,∃ h:k<S.rels.length,r=(k:Int)∧ka P S.rels[k].2=v:=by
 unfold hoL o6
 rw [List.mem_map]
 constructor
 ·rintro ⟨k,hk,rfl⟩
  have h1:=List.mem_filter.1 hk
  have hk:=List.mem_range.1 h1.1
  have h2:=beq_iff_eq.1 h1.2
  rw [List.getD_eq_getElem?_getD,List.getElem?_map,List.getElem?_eq_getElem hk] at h2
  exact ⟨k,hk,rfl,h2⟩
 ·rintro ⟨k,hk,rfl,e⟩
  refine ⟨k,List.mem_filter.2 ⟨List.mem_range.2 hk,?_⟩,rfl⟩
  rw [List.getD_eq_getElem?_getD,List.getElem?_map,List.getElem?_eq_getElem hk]
  exact beq_iff_eq.2 e
section
variable {S:Sch} {P:List Int} (h:OrdOk S P)
include h
theorem Bg {x:Int} (hx:x∈aD P):∃ n:Nat,n<P.length∧x=(n:Int):=by
 obtain ⟨n,hn,e⟩:=bx.1 ((cf h.dP).mem_iff.1 hx)
 exact ⟨n,hn,e⟩
theorem jD:(aD P).Nodup:=(cf h.dP).nodup_iff.2 (cJ _)
theorem tz:∀ i,i≤(aD P).length→∀ x∈(aD P).take i,∀ a∈bp P x,a∈(aD P).take i
 | 0,_,x,hx,_,_=>by simp at hx
 | i+1,hi,x,hx,a,ha=>by
   rw [List.take_succ_eq_append_getElem (by omega),List.mem_append,List.mem_singleton] at hx ⊢
   left
   rcases hx with hx | hx
   ·exact tz i (by omega) x hx a ha
   ·have hw:=Bi h.dP (i:=i) (by omega)
    rw [← hx] at hw
    obtain ⟨n,hn,e⟩:=Bg h (x:=x) (by rw [hx];exact List.getElem_mem _)
    subst e
    rw [Int.toNat_natCast] at hw
    rcases hw.2 with e | e
    ·rw [eJ hn (by rw [← getD_at hn];exact e)] at ha
     cases ha
    ·obtain ⟨p,hp,e2⟩:=Bg h (List.mem_of_mem_take e)
     rw [e2] at e
     rw [bO h.dP hn hp e2] at ha
     rcases List.mem_cons.1 ha with rfl | ha
     ·exact e
     ·exact tz i (by omega) _ e a ha
def Pre (P:List Int) (i:Nat) (σ:Asg ByteArray):Prop:=∀ a,(σ a).isSome=true↔a∈(aD P).take i
omit h in
theorem Pre.put {i:Nat} {σ:Asg ByteArray} (hp:Pre P i σ) (hi:i<(aD P).length) (x:ByteArray):Pre P (i+1) (put σ (aD P)[i] x):=fun a=>by
 rw [List.take_succ_eq_append_getElem hi,List.mem_append,List.mem_singleton, ← hp a]
 by_cases e:a=(aD P)[i]
 ·subst e
  rw [cG]
  exact ⟨fun _=> .inr rfl,fun _=>rfl⟩
 ·rw [dZ _ _ e]
  exact ⟨.inl,fun k=>k.resolve_right e⟩
theorem Pre.at {i:Nat} {σ:Asg ByteArray} (hp:Pre P i σ) (hi:i<(aD P).length):∃ n:Nat,n<P.length∧(aD P)[i]=(n:Int)∧At P n σ:=by
 obtain ⟨n,hn,e⟩:=Bg h (List.getElem_mem hi)
 refine ⟨n,hn,e,⟨fun a ha=>?_,fun a ha=>?_⟩⟩
 ·have:=tz h (i+1) (by omega) (aD P)[i] (by rw [List.take_succ_eq_append_getElem hi];exact List.mem_append_right _ (List.mem_singleton.2 rfl)) a (by rw [e];exact ha)
  rw [List.take_succ_eq_append_getElem hi,List.mem_append,List.mem_singleton,e] at this
  rcases this with this | this
  ·exact (hp a).2 this
  ·rw [this] at ha;exact absurd ha (jl h.dP hn)
 ·have hno:a∉(aD P).take i:=by
   intro hm
   have hw:=(Bi h.dP hi).1
   obtain ⟨_,hb⟩:=da.1 ha
   rcases hb with rfl | hb
   ·rw [e] at hw;exact hw hm
   ·have:=tz h i (by omega) a hm _ hb
    rw [e] at hw;exact hw this
  have:=mt (hp a).1 hno
  cases hs:σ a with
  | none=>rfl
  | some y=>rw [hs] at this;exact absurd rfl this
theorem ub {n:Nat} (hn:n<P.length) {σ:Asg ByteArray} (ha:At P n σ) (x:ByteArray) {r:ByteArray×List Int} (hr:r∈S.rels) (e:ka P r.2=(n:Int)):∀ a∈r.2,(Jn.put σ n x a).isSome=true:=by
 have hrng:∀ a∈r.2,0≤a∧a<P.length:=by rw [h.len];exact h.val.rng r hr
 intro a hm
 rcases (nI h.dP (h.val.ne r hr) hrng (h.rt r hr)).2 a hm with e2 | e2
 ·rw [e2,e,cG];rfl
 ·rw [e] at e2
  have hne:a≠(n:Int):=fun e3=>jl h.dP hn (e3▸e2)
  rw [dZ _ _ hne]
  exact ha.up a e2
theorem uZ:((aD P).flatMap (hoL S P)).Perm (upZ S.rels.length):=by
 refine cu ?_ (cJ _) fun r=>?_
 ·unfold List.Nodup
  rw [List.pairwise_flatMap]
  refine ⟨fun v _=>?_,(jD h).imp fun hne r hr q hq e=>?_⟩
  ·unfold hoL o6
   exact List.Pairwise.map _ (fun a b h e=>h (Int.ofNat.inj e)) (List.Pairwise.sublist List.filter_sublist List.nodup_range)
  ·obtain ⟨k,hk,e1,e2⟩:=iQ.1 hr
   obtain ⟨k',hk',e3,e4⟩:=iQ.1 hq
   have:k=k':=by omega
   subst this
   exact hne (e2.symm.trans e4)
 ·rw [List.mem_flatMap,bx]
  constructor
  ·rintro ⟨v,_,hr⟩
   obtain ⟨k,hk,e,_⟩:=iQ.1 hr
   exact ⟨k,hk,e⟩
  ·rintro ⟨k,hk,rfl⟩
   have hm:=List.getElem_mem hk
   have hrng:∀ a∈S.rels[k].2,0≤a∧a<P.length:=by rw [h.len];exact h.val.rng _ hm
   have h1:=(nI h.dP (h.val.ne _ hm) hrng (h.rt _ hm)).1
   refine ⟨ka P S.rels[k].2,?_,iQ.2 ⟨k,hk,rfl,rfl⟩⟩
   have h2:=hrng _ h1
   exact (cf h.dP).mem_iff.2 (bx.2 ⟨(ka P S.rels[k].2).toNat,by omega,by omega⟩)
theorem Hk (i:Nat):(((aD P).take i).flatMap (hoL S P)).length≤S.rels.length:=by
 have e:=(uZ h).length_eq
 rw [a8] at e
 rw [← e]
 conv=>rhs;rw [← List.take_append_drop i (aD P),List.flatMap_append,List.length_append]
 omega
end
section
variable {J:JD} {P:List Int} (h:OrdOk J.S P)
include h
omit h in
theorem BH {σ τ:Asg ByteArray} {r:Nat} (k:∀ a∈cy J r,σ a=τ a):wr J σ r=wr J τ r:=by
 unfold wr
 congr 2
 exact List.filter_congr fun x _=>ib k x.v
omit h in
theorem ft {k:Nat} (hk:k<J.S.rels.length):cy J k=J.S.rels[k].2:=by
 unfold cy
 rw [List.getD_eq_getElem?_getD,List.getElem?_eq_getElem hk];rfl
theorem Hg:∀ (vs:List Int) (i:Nat) (σ:Asg ByteArray) (w:Int),(aD P).drop i=vs→i≤(aD P).length→Pre P i σ→∀ p∈enC J P (hoL J.S P) vs σ w,p.2=w*bY ((vs.flatMap (hoL J.S P)).map fun r=>wr J p.1 r.toNat)
 | [],i,σ,w,_,_,_,p,hp=>by
   rw [enC,List.mem_singleton] at hp
   subst hp
   simp [bY]
 | v::vs,i,σ,w,hd,hi,hpre,p,hp=>by
   have hi2:i<(aD P).length:=by
    rcases Nat.lt_or_ge i (aD P).length with h1 | h1
    ·exact h1
    ·rw [List.drop_of_length_le h1] at hd;cases hd
   rw [List.drop_eq_getElem_cons hi2] at hd
   injection hd with hv hd
   rw [enC,List.mem_flatMap] at hp
   obtain ⟨x,_,hp⟩:=hp
   by_cases hb:fl aU J P (al P v) (Jn.put σ v x)=true
   ·rw [if_pos hb] at hp
    have ih:=Hg vs (i+1) _ _ hd hi2 (by rw [← hv];exact hpre.put hi2 x) p hp
    have hx:=zc J P _ vs _ _ p hp
    rw [ih,Bx,List.flatMap_cons,List.map_append,ql,Int.mul_assoc]
    congr 2
    congr 1
    refine List.map_congr_left fun r hr=>?_
    obtain ⟨k,hk,rfl,e⟩:=iQ.1 hr
    obtain ⟨n,hn,e2,hat⟩:=hpre.at h hi2
    rw [hv] at e2
    subst e2
    refine BH fun a ha=>?_
    rw [Int.toNat_natCast,ft hk] at ha
    have hset:=ub h hn hat x (List.getElem_mem hk) e a ha
    have hpo:=(hpre.put hi2 x a)
    rw [hv] at hpo
    have hm:=hpo.1 hset
    refine (hx a fun hav=>?_).symm
    have hnd:=jD h
    rw [← List.take_append_drop (i+1) (aD P),hd] at hnd
    exact (List.nodup_append.1 hnd).2.2 a hm a hav rfl
   ·rw [if_neg hb] at hp;cases hp
end
def bH (n:Nat) (τ:Asg ByteArray):List ByteArray:=(List.range n).map fun a:Nat=>(τ (a:Int)).getD eb
theorem ef (n:Nat) (τ:Asg ByteArray):(bH n τ).length=n:=by simp [bH]
theorem rN {n:Nat} (τ:Asg ByteArray) {a:Int} (h0:0≤a) (h1:a<n):(bH n τ).getD a.toNat eb=(τ a).getD eb:=by
 obtain ⟨k,rfl⟩:=Int.eq_ofNat_of_zero_le h0
 unfold bH
 rw [Int.toNat_natCast,List.getD_eq_getElem?_getD,List.getElem?_map,List.getElem?_range (by omega)]
 rfl
def Ez (y:List ByteArray):List (List Int×List Rw)→Int→Prop
 | [],w=>w=1
 | p::L,w=>∃ x∈p.2,p.1.map (fun a=>y.getD a.toNat eb)=x.v∧∃ w',Ez y L w'∧w=x.w*w'
theorem sK {y:List ByteArray} {g:List Int×List Rw→Int}:∀ {L:List (List Int×List Rw)},(∀ p∈L,∃ x∈p.2,p.1.map (fun a=>y.getD a.toNat eb)=x.v∧g p=x.w)→Ez y L (bY (L.map g))
 | [],_=>rfl
 | p::L,h=>by
   obtain ⟨x,hx,e,e2⟩:=h p (by simp)
   exact ⟨x,hx,e,_,sK fun q hq=>h q (by simp [hq]),by rw [List.map_cons,bY,e2]⟩
theorem yC {y:List ByteArray} {g:List Int×List Rw→Int}:∀ {L:List (List Int×List Rw)} {w:Int},(∀ p∈L,∀ x∈p.2,p.1.map (fun a=>y.getD a.toNat eb)=x.v→g p=x.w)→Ez y L w→w=bY (L.map g)
 | [],w,_,h=>h
 | p::L,w,hg,h=>by
   obtain ⟨x,hx,e,w',h',e'⟩:=h
   rw [e',List.map_cons,bY,hg p (by simp) x hx e,yC (fun q hq=>hg q (by simp [hq])) h']
theorem j4 {y:List ByteArray}:∀ {L:List (List Int×List Rw)} {w:Int},Ez y L w→∀ p∈L,∃ x∈p.2,p.1.map (fun a=>y.getD a.toNat eb)=x.v
 | q::L,w,h,p,hp=>by
   obtain ⟨x,hx,e,w',h',_⟩:=h
   rcases List.mem_cons.1 hp with rfl | hp
   ·exact ⟨x,hx,e⟩
   ·exact j4 h' p hp
def iL (S:Sch) (T:List (List Rw)):List (List Int×List Rw):=(S.rels.map (·.2)).zip T
structure IsJoin (S:Sch) (T:List (List Rw)) (l:List Rw):Prop where
 mem:∀ y,y∈l↔y.v.length=S.attrs.length∧Ez y.v (iL S T) y.w
 nd:l.Pairwise fun a b=>a.v≠b.v
def o9 (J:JD) (P:List Int):List Rw:=(enC J P (hoL J.S P) (aD P) (fun _=>none) 1).map fun p=>⟨bH J.S.attrs.length p.1,p.2⟩
section
variable {J:JD} {P:List Int} {D:VD} (h:CtxV J P D) (hd:∀ l∈J.T,l.Pairwise fun a b=>a.v≠b.v)
include h
theorem E6 (v:Nat) (hv:v<J.S.attrs.length) (σ:Asg ByteArray):IsCand (RJ J) (v:Int) σ (bC (RJ J) sdS v σ):=by
 refine Dv qL sf (h.wv v hv) (fun r hr row hrow=>?_) σ
 rw [kF] at hrow
 rw [qX]
 obtain ⟨x,hx,rfl⟩:=List.mem_map.1 hrow
 unfold bw at hr
 have hr1:=List.mem_range.1 (List.mem_filter.1 hr).1
 have hr2:r<J.S.rels.length:=by simpa [RJ] using hr1
 have hr3:r<J.T.length:=by rw [h.ok.n];exact hr2
 have e:dh J r=J.T[r]:=by unfold dh;rw [List.getD_eq_getElem?_getD,List.getElem?_eq_getElem hr3];rfl
 rw [e] at hx
 rw [ft hr2]
 exact h.ok.v r hr3 hr2 x hx
omit h in
theorem GP:∀ w,∀ a∈dom (RJ J) w,∃ r∈J.S.rels,w∈r.2∧a∈r.2:=fun _ _ ha=>ud ha
omit h in
theorem yS:∀ v (σ τ:Asg ByteArray),(∀ a∈dom (RJ J) v,σ a=τ a)→bC (RJ J) sdS v σ=bC (RJ J) sdS v τ:=fun v σ τ hh=>kI (RJ J) sdS v σ τ hh
theorem ko:SepL (dom (RJ J)) (fun _=>[]) ((al P (-1)).map (a7 P P.length)):=w5 h.ord GP P.length (-1)
theorem B1:ChL (fun a=>(al P a).map (a7 P P.length)) ((al P (-1)).map (a7 P P.length)):=by
 have key:∀ l:List Int,(∀ c∈l,c∈al P (-1))→ChL (fun a=>(al P a).map (a7 P P.length)) (l.map (a7 P P.length)):=by
  intro l
  induction l with
  | nil=>intro _;trivial
  | cons c l ih=>
    intro hl
    obtain ⟨n,hn,rfl,_⟩:=aX.1 (hl c (by simp))
    rw [List.map_cons,ChL]
    exact ⟨zG h.ord.dP P.length n hn (by omega) (Nat.le_refl _),ih fun x hx=>hl x (by simp [hx])⟩
 exact key _ fun _ hh=>hh
theorem Fu (σ:Asg ByteArray):enT (bC (RJ J) sdS) (fun v τ=>fl aU J P (al P v) τ) (aD P) σ=enW (bC (RJ J) sdS) (aD P) σ:=by
 have:=enT_forest yS (ch:=fun a=>(al P a).map (a7 P P.length)) [] (fun _=>rfl) _ σ (ko h) (B1 h)
 rw [List.append_nil,ij] at this
 exact this
theorem B3 (σ:Asg ByteArray):fl bG J P (al P (-1)) σ=(enW (bC (RJ J) sdS) (aD P) σ).length:=by
 rw [← ij]
 exact BN yS (ko h) σ
theorem HO (σ:Asg ByteArray):fl aU J P (al P (-1)) σ= !(enW (bC (RJ J) sdS) (aD P) σ).isEmpty:=by
 rw [← ij]
 exact tY yS (ko h) σ
theorem iR:(enC J P (hoL J.S P) (aD P) (fun _=>none) 1).map (·.1)=enW (bC (RJ J) sdS) (aD P) fun _=>none:=by rw [xG,Fu h]
theorem y3:(o9 J P).length=fl bG J P (al P (-1)) fun _=>none:=by
 rw [B3 h, ← iR h]
 simp [o9]
theorem sx {a:Int}:a∈aD P↔0≤a∧a<J.S.attrs.length:=by
 rw [(cf h.ord.dP).mem_iff,bx,h.ord.len]
 constructor
 ·rintro ⟨n,hn,rfl⟩;omega
 ·rintro ⟨h1,h2⟩;exact ⟨a.toNat,by omega,by omega⟩
theorem AR {τ:Asg ByteArray}:τ∈enW (bC (RJ J) sdS) (aD P) (fun _=>none)↔(∀ a,a∉aD P→τ a=none)∧(∀ a∈aD P,(τ a).isSome=true)∧∀ r<J.S.rels.length,bR (RJ J) r τ=true:=by
 have hw:∀ v∈aD P,∀ σ,IsCand (RJ J) v σ (bC (RJ J) sdS v σ):=fun v hv σ=>by
  obtain ⟨h1,h2⟩:=(sx h).1 hv
  obtain ⟨n,rfl⟩:=Int.eq_ofNat_of_zero_le h1
  exact E6 h n (by omega) σ
 rw [nM hw (jD h.ord) fun _ _=>rfl]
 have e:(RJ J).A.length=J.S.rels.length:=by simp [RJ]
 rw [e]
 refine and_congr_right fun _=>and_congr_right fun _=>⟨fun hh r hr=>hh r hr ?_,fun hh r hr _=>hh r hr⟩
 rw [qX,ft hr]
 have hm:=List.getElem_mem hr
 obtain ⟨a,ha⟩:=List.exists_mem_of_ne_nil _ (h.ord.val.ne _ hm)
 exact ⟨a,(sx h).2 (h.ord.val.rng _ hm a ha),ha⟩
include hd
theorem HW {τ:Asg ByteArray} (ht:∀ a∈aD P,(τ a).isSome=true) {r:Nat} (hr:r<J.S.rels.length) {x:Rw} (hx:x∈dh J r) (e:agr (cy J r) τ x.v=true):wr J τ r=x.w:=by
 have hr3:r<J.T.length:=by rw [h.ok.n];exact hr
 have et:dh J r=J.T[r]:=by unfold dh;rw [List.getD_eq_getElem?_getD,List.getElem?_eq_getElem hr3];rfl
 have hs:∀ a∈cy J r,(τ a).isSome=true:=fun a ha=>by
  rw [ft hr] at ha
  exact ht a ((sx h).2 (h.ord.val.rng _ (List.getElem_mem hr) a ha))
 have hl:∀ z∈dh J r,z.v.length=(cy J r).length:=fun z hz=>by
  rw [et] at hz;rw [ft hr];exact h.ok.v r hr3 hr z hz
 have h1:=filter_one (l:=dh J r) (p:=fun z=>agr (cy J r) τ z.v) (by rw [et];exact hd _ (List.getElem_mem _)) (v:=(cy J r).map fun a=>(τ a).getD eb) fun z hz hp=>((jC hs (hl z hz)).1 hp).symm
 have h2:x∈(dh J r).filter fun z=>agr (cy J r) τ z.v:=List.mem_filter.2 ⟨hx,e⟩
 unfold wr
 generalize (dh J r).filter (fun z=>agr (cy J r) τ z.v)=m at h1 h2
 match m,h1,h2 with
 | [z],_,h2=>rw [List.mem_singleton] at h2;subst h2;simp [bY]
theorem wr_bd (hw:∀ l∈J.T,∀ x∈l,1≤x.w∧x.w≤100) {σ:Asg ByteArray} {r:Nat} (hr:r<J.S.rels.length) (ht:∀ a∈cy J r,(σ a).isSome=true) (k:Nat):1≤bY ((((dh J r).take k).filter fun x=>agr (cy J r) σ x.v).map (·.w))∧bY ((((dh J r).take k).filter fun x=>agr (cy J r) σ x.v).map (·.w))≤100:=by
 have hr3:r<J.T.length:=by rw [h.ok.n];exact hr
 have et:dh J r=J.T[r]:=by unfold dh;rw [List.getD_eq_getElem?_getD,List.getElem?_eq_getElem hr3];rfl
 have h1:=filter_one (l:=(dh J r).take k) (p:=fun z=>agr (cy J r) σ z.v) (by rw [et];exact List.Pairwise.sublist (List.take_sublist _ _) (hd _ (List.getElem_mem _))) (v:=(cy J r).map fun a=>(σ a).getD eb) fun z hz hp=>by
  have hz:=List.mem_of_mem_take hz
  rw [et] at hz
  exact ((jC ht (by rw [ft hr];exact h.ok.v r hr3 hr z hz)).1 hp).symm
 have h2:∀ x∈((dh J r).take k).filter (fun z=>agr (cy J r) σ z.v),1≤x.w∧x.w≤100:=fun x hx=>by
  have:=List.mem_of_mem_take (List.mem_filter.1 hx).1
  rw [et] at this
  exact hw _ (List.getElem_mem _) x this
 generalize ((dh J r).take k).filter (fun z=>agr (cy J r) σ z.v)=m at h1 h2
 match m,h1,h2 with
 | [],_,_=>exact ⟨by decide,by decide⟩
 | [z],_,h2=>have:=h2 z (by simp);simp only [List.map_cons,List.map_nil,bY,Int.mul_one];exact this
theorem Hx:IsJoin J.S J.T (o9 J P):=by
 have hlen:(iL J.S J.T).length=J.S.rels.length:=by unfold iL;rw [List.length_zip,List.length_map,h.ok.n,Nat.min_self]
 have hat:∀ r (hr:r<J.S.rels.length),(iL J.S J.T)[r]'(by rw [hlen];exact hr)=(cy J r,dh J r):=fun r hr=>by
  have hr3:r<J.T.length:=by rw [h.ok.n];exact hr
  unfold iL
  rw [List.getElem_zip,List.getElem_map,ft hr]
  unfold dh
  rw [List.getD_eq_getElem?_getD,List.getElem?_eq_getElem hr3];rfl
 have hw:∀ p∈enC J P (hoL J.S P) (aD P) (fun _=>none) 1,p.2=bY ((List.range J.S.rels.length).map fun r=>wr J p.1 r):=fun p hp=>by
  rw [Hg h.ord (aD P) 0 _ 1 rfl (Nat.zero_le _) (fun a=>by simp) p hp,Int.one_mul,vE ((uZ h.ord).map _)]
  unfold upZ
  rw [List.map_map];rfl
 have hrows:∀ {τ:Asg ByteArray} {r:Nat},(∀ a∈aD P,(τ a).isSome=true)→r<J.S.rels.length→∀ x∈dh J r,(agr (cy J r) τ x.v=true↔(cy J r).map (fun a=>(bH J.S.attrs.length τ).getD a.toNat eb)=x.v):=fun {τ r} ht hr x hx=>by
  have hr3:r<J.T.length:=by rw [h.ok.n];exact hr
  have et:dh J r=J.T[r]:=by unfold dh;rw [List.getD_eq_getElem?_getD,List.getElem?_eq_getElem hr3];rfl
  have hrg:∀ a∈cy J r,0≤a∧a<J.S.attrs.length:=fun a ha=>by rw [ft hr] at ha;exact h.ord.val.rng _ (List.getElem_mem hr) a ha
  rw [et] at hx
  rw [jC (fun a ha=>ht a ((sx h).2 (hrg a ha))) (by rw [ft hr];exact h.ok.v r hr3 hr x hx)]
  rw [List.map_congr_left fun a ha=>(rN τ (hrg a ha).1 (hrg a ha).2).symm]
 have heq:∀ τ:Asg ByteArray,(List.range J.S.rels.length).map (fun r=>wr J τ r)=(iL J.S J.T).map fun p=>bY ((p.2.filter fun x=>agr p.1 τ x.v).map (·.w)):=fun τ=>by
  apply List.ext_getElem
  ·simp [hlen]
  ·intro r h1 h2
   have hr:r<J.S.rels.length:=by simpa using h1
   rw [List.getElem_map,List.getElem_map,List.getElem_range,hat r hr];rfl
 refine ⟨fun y=>?_,?_⟩
 ·unfold o9
  rw [List.mem_map]
  constructor
  ·rintro ⟨p,hp,rfl⟩
   refine ⟨ef _ _,?_⟩
   have hm:p.1∈enW (bC (RJ J) sdS) (aD P) fun _=>none:=by rw [← iR h];exact List.mem_map.2 ⟨p,hp,rfl⟩
   obtain ⟨_,ht,hs⟩:=(AR h).1 hm
   show Ez _ _ p.2
   rw [hw p hp,heq]
   refine sK fun q hq=>?_
   obtain ⟨r,hr,e⟩:=List.getElem_of_mem hq
   rw [hlen] at hr
   rw [hat r hr] at e
   subst e
   have h1:=hs r hr
   rw [oK] at h1
   obtain ⟨x,hx,hag⟩:=List.any_eq_true.1 h1
   exact ⟨x,hx,(hrows ht hr x hx).1 hag,HW h hd ht hr hx hag⟩
  ·rintro ⟨hl,hy⟩
   let τ:Asg ByteArray:=fun a=>if 0≤a∧a<J.S.attrs.length then some (y.v.getD a.toNat eb) else none
   have hto:∀ a∈aD P,(τ a).isSome=true:=fun a ha=>by
    show (if _ then _ else _:Option ByteArray).isSome=true
    rw [if_pos ((sx h).1 ha)];rfl
   have hvy:bH J.S.attrs.length τ=y.v:=by
    apply List.ext_getElem
    ·rw [ef,hl]
    ·intro i h1 h2
     rw [ef] at h1
     have e1:(bH J.S.attrs.length τ)[i]'(by rw [ef];exact h1)=(τ (i:Int)).getD eb:=by simp only [bH,List.getElem_map,List.getElem_range]
     refine e1.trans ?_
     show (if _ then _ else _:Option ByteArray).getD eb=_
     rw [if_pos (by omega),Int.toNat_natCast,List.getD_eq_getElem?_getD,List.getElem?_eq_getElem h2];rfl
   have hm:τ∈enW (bC (RJ J) sdS) (aD P) fun _=>none:=by
    refine (AR h).2 ⟨fun a ha=>?_,hto,fun r hr=>?_⟩
    ·show (if _ then _ else _:Option ByteArray)=none
     rw [if_neg (mt (sx h).2 ha)]
    ·obtain ⟨x,hx,e⟩:=j4 hy (cy J r,dh J r) (by rw [← hat r hr];exact List.getElem_mem _)
     rw [oK]
     refine List.any_eq_true.2 ⟨x,hx,?_⟩
     refine (hrows hto hr x hx).2 ?_
     rw [hvy];exact e
   rw [← iR h] at hm
   obtain ⟨p,hp,e⟩:=List.mem_map.1 hm
   refine ⟨p,hp,?_⟩
   have e2:p.2=y.w:=by
    rw [hw p hp,heq]
    refine (yC (fun q hq x hx he=>?_) hy).symm
    obtain ⟨r,hr,e3⟩:=List.getElem_of_mem hq
    rw [hlen] at hr
    rw [hat r hr] at e3
    subst e3
    rw [e]
    refine HW h hd hto hr hx ((hrows hto hr x hx).2 ?_)
    rw [hvy];exact he
   rw [e,hvy,e2]
 ·unfold o9
  have hn:((enC J P (hoL J.S P) (aD P) (fun _=>none) 1).map (·.1)).Nodup:=by
   rw [iR h]
   refine qM (fun v σ=>?_) (jD h.ord)
   unfold bC
   split
   ·exact List.nodup_nil
   ·exact (qL _).filter _
  have hm:∀ p∈enC J P (hoL J.S P) (aD P) (fun _=>none) 1,(∀ a,a∉aD P→p.1 a=none)∧(∀ a∈aD P,(p.1 a).isSome=true):=fun p hp=>by
   have hm:p.1∈enW (bC (RJ J) sdS) (aD P) fun _=>none:=by rw [← iR h];exact List.mem_map.2 ⟨p,hp,rfl⟩
   obtain ⟨h1,h2,_⟩:=(AR h).1 hm
   exact ⟨h1,h2⟩
  generalize enC J P (hoL J.S P) (aD P) (fun _=>none) 1=L at hn hm
  rw [List.pairwise_map]
  unfold List.Nodup at hn
  rw [List.pairwise_map] at hn
  refine List.Pairwise.imp_of_mem (fun {p q} hp hq hne e=>hne ?_) hn
  funext a
  by_cases ha:a∈aD P
  ·obtain ⟨h1,h2⟩:=(sx h).1 ha
   have e1:=rN p.1 h1 h2
   have e2:=rN q.1 h1 h2
   simp only at e
   rw [e,e2] at e1
   obtain ⟨x,hx⟩:=Option.isSome_iff_exists.1 ((hm p hp).2 a ha)
   obtain ⟨z,hz⟩:=Option.isSome_iff_exists.1 ((hm q hq).2 a ha)
   rw [hx,hz] at e1
   rw [hx,hz,show z=x from e1]
  ·rw [(hm p hp).1 a ha,(hm q hq).1 a ha]
end
theorem vd {l m:List Rw} (hl:Aj l) (hm:Aj m) (h:∀ y,y∈l↔y∈m):l=m:=by
 have irr:∀ {k:List Rw},Aj k→k.Nodup:=fun {k} hk=>hk.imp fun {a b} hab e=>by rw [e,cz] at hab;cases hab
 haveI:DecidableEq Rw:=fun a b=>Classical.propDecidable (a=b)
 refine List.Perm.eq_of_pairwise (le:=fun (a b:Rw)=>aZ a.v b.v=true) (fun a b _ _ h1 h2=>?_) hl hm (cu (irr hl) (irr hm) h)
 have:=cT h1 h2
 rw [cz] at this;cases this
end
section
open Go.RowKit Mk Jn
def iX (n:Nat) (l:List (Asg ByteArray×Int)):List Rw:=l.map fun p=>⟨bH n p.1,p.2⟩
theorem yU (n:Nat) (l m:List (Asg ByteArray×Int)):iX n (l++m)=iX n l++iX n m:=by simp [iX]
theorem k8 (n:Nat) (l:List (Asg ByteArray×Int)):(iX n l).length=l.length:=by simp [iX]
theorem zt (J:JD) (P:List Int):o9 J P=iX J.S.attrs.length (enC J P (hoL J.S P) (aD P) (fun _=>none) 1):=rfl
def enF (J:JD) (P:List Int) (v:Int) (vs:List Int) (σ:Asg ByteArray) (w:Int) (x:ByteArray):List (Asg ByteArray×Int):=if fl aU J P (al P v) (put σ v x)=true then enC J P (hoL J.S P) vs (put σ v x) (rh J (put σ v x) w (hoL J.S P v)) else []
theorem Co (J:JD) (P:List Int) (v:Int) (vs:List Int) (σ:Asg ByteArray) (w:Int):enC J P (hoL J.S P) (v::vs) σ w=(bC (RJ J) sdS v σ).flatMap (enF J P v vs σ w):=rfl
theorem lY {α β:Type} {l:List α} {k:Nat} (h:k<l.length) (f:α→List β):(l.take (k+1)).flatMap f=(l.take k).flatMap f++f l[k]:=by
 rw [List.take_succ_eq_append_getElem h,List.flatMap_append];simp
theorem Dh {α β:Type} (f:α→List β) (l:List α) (j:Nat):((l.take j).flatMap f).length≤(l.flatMap f).length:=by
 conv=>rhs;rw [← List.take_append_drop j l,List.flatMap_append,List.length_append]
 omega
theorem mF {w p:Int} {m:Nat} (h1:1≤w) (h2:w≤(100:Int)^m) (h3:1≤p) (h4:p≤100):1≤w*p∧w*p≤(100:Int)^(m+1):=by
 constructor
 ·have:=Int.mul_le_mul h1 h3 (by decide) (by omega);omega
 ·rw [Int.pow_succ]
  exact Int.mul_le_mul h2 h4 (by omega) (by omega)
section
variable {J:JD} {P:List Int} {D:VD} (h:CtxV J P D) (hd:∀ l∈J.T,l.Pairwise fun a b=>a.v≠b.v) (hw:∀ l∈J.T,∀ x∈l,1≤x.w∧x.w≤100)
include h hd hw
theorem yi {σ:Asg ByteArray} {r:Nat} (hr:r<J.S.rels.length) (ht:∀ a∈cy J r,(σ a).isSome=true) {w:Int} {m:Nat} (h1:1≤w) (h2:w≤(100:Int)^m) (k:Nat):1≤tW J σ r w ((dh J r).take k)∧tW J σ r w ((dh J r).take k)≤(100:Int)^(m+1):=by
 rw [uL]
 have:=wr_bd h hd hw hr ht k
 exact mF h1 h2 this.1 this.2
theorem zX {σ:Asg ByteArray} {rs:List Int} (hr:∀ r∈rs,∃ k:Nat,r=(k:Int)∧k<J.S.rels.length∧∀ a∈cy J k,(σ a).isSome=true) {w:Int} {m:Nat} (h1:1≤w) (h2:w≤(100:Int)^m):∀ j,j≤rs.length→1≤rh J σ w (rs.take j)∧rh J σ w (rs.take j)≤(100:Int)^(m+j)
 | 0,_=>by
   rw [List.take_zero]
   exact ⟨h1,h2⟩
 | j+1,hj=>by
   have ih:=zX hr h1 h2 j (by omega)
   rw [pc J σ w (show j<rs.length by omega)]
   obtain ⟨k,e,hk,ht⟩:=hr _ (List.getElem_mem (show j<rs.length by omega))
   rw [e,Int.toNat_natCast]
   have:=yi h hd hw hk ht ih.1 ih.2 (dh J k).length
   rwa [List.take_length,Nat.add_assoc] at this
end
section
variable {J:JD} {P:List Int} (h:OrdOk J.S P)
include h
theorem H4 {n:Nat} (hn:n<P.length) {σ:Asg ByteArray} (ha:At P n σ) (x:ByteArray):∀ r∈hoL J.S P n,∃ k:Nat,r=(k:Int)∧k<J.S.rels.length∧∀ a∈cy J k,(Jn.put σ n x a).isSome=true:=fun r hr=>by
 obtain ⟨k,hk,e,e2⟩:=iQ.1 hr
 refine ⟨k,e,hk,fun a hka=>?_⟩
 rw [ft hk] at hka
 exact ub h hn ha x (List.getElem_mem hk) e2 a hka
omit h in
theorem GB {i:Nat} (hi:i<(aD P).length):(((aD P).take (i+1)).flatMap (hoL J.S P)).length=(((aD P).take i).flatMap (hoL J.S P)).length+(hoL J.S P (aD P)[i]).length:=by
 rw [lY hi,List.length_append]
theorem Bz {σ:Asg ByteArray} {now:List ByteArray} (hn:NowOk J.S.attrs.length σ now) (hp:Pre P (aD P).length σ):now=bH J.S.attrs.length σ:=by
 apply List.ext_getElem
 ·rw [hn.l,ef]
 ·intro i h1 h2
  have hi:i<J.S.attrs.length:=by rw [← hn.l];exact h1
  have hm:(i:Int)∈(aD P).take (aD P).length:=by
   rw [List.take_length]
   exact (cf h.dP).mem_iff.2 (bx.2 ⟨i,by rw [h.len];exact hi,rfl⟩)
  obtain ⟨x,hx⟩:=Option.isSome_iff_exists.1 ((hp _).2 hm)
  rw [hn.e i h1 x hx]
  simp [bH,hx]
end
end
end Go.Proofs.YtjlikknopfnllaaGreatDoor
