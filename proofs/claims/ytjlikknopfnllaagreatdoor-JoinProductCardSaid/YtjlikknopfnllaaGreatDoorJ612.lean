/-
  Texts of ours, joined and shortened by merge2.py: KB, UE, UF, UG, I1, I2, I3, I4, I5, I6, UH, Gj, Gv, Ops, Op1. No statement of the program is proved here.
-/
import Derived.Handed
import Derived.LaidMore
import Derived.LaidLaws
import Derived.LaidHandle
import Derived.MakeChecks
import Derived.Lib.LaidTab
import Derived.Deep.Slices
import Derived.ChangeArms
import Derived.OpenShut
import Derived.Test.YtjlikknopfnllaaGreatDoorJ611
set_option maxRecDepth 100000
set_option maxHeartbeats 4000000
open Go.RowKit Go.Proofs.Tryz
namespace Go.Proofs.YtjlikknopfnllaaGreatDoor
section
open Go.RowKit Mk Jn
set_option maxHeartbeats 4000000
structure DbOk (S:Sch) (d:List (List Rw)):Prop where
 hB:SB S
 hc:cI S=0
 hS:SJn S
 n:d.length=S.rels.length
 l:∀ l∈d,l.length≤12
 t:∀ r (h:r<d.length) (h2:r<S.rels.length),TblOk S S.rels[r].2 1 d[r]
 zf:∀ l∈d,∀ x∈l,∀ y∈x.v,Zf y∧y.size≤10000
noncomputable abbrev jdX (S:Sch) (T:List (List Rw)):JD:=⟨S,T,ak (lstL S),[.int .i64 (-1)],[ca (planS S)]⟩
noncomputable def joinL (S:Sch) (d:List (List Rw)):List Rw:=(o9 (jdX S (bf S d)) (ordL S (lstL S))).mergeSort fun a b=> !aZ b.v a.v
theorem qz {S:Sch} {d:List (List Rw)} (h:d.length=S.rels.length):(bf S d).length=S.rels.length:=by simp [bf,h]
theorem ur {S:Sch} {d:List (List Rw)} {r:Nat} (hd:r<d.length) (hr:r<S.rels.length) (h:r<(bf S d).length):(bf S d)[r]=gF S S.rels[r].2 d[r]:=by simp [bf]
theorem qQ {S:Sch} {d:List (List Rw)} {l:List Rw} (h:l∈bf S d):∃ l'∈d,List.Sublist l l':=by
 unfold bf at h
 obtain ⟨i,hi,e⟩:=List.mem_iff_getElem.1 h
 rw [List.length_zipWith] at hi
 refine ⟨d[i]'(by omega),List.getElem_mem _,?_⟩
 rw [← e,List.getElem_zipWith]
 exact List.filter_sublist
section
variable {S:Sch} {d:List (List Rw)} (h:DbOk S d)
include h
theorem DbOk.val:Valid S:=jF h.hc
theorem DbOk.tab:TabOk S (bf S d) where
 n:=qz h.n
 l:=fun l hl=>by
  obtain ⟨l',h1,h2⟩:=qQ hl
  exact Nat.le_trans h2.length_le (h.l l' h1)
 v:=fun r hr h2 x hx=>by
  have hd:r<d.length:=by rw [h.n];exact h2
  rw [ur hd h2] at hx
  exact ((h.t r hd h2).row x (List.mem_filter.1 hx).1).l
 zf:=fun l hl x hx=>by
  obtain ⟨l',h1,h2⟩:=qQ hl
  exact h.zf l' h1 x (h2.subset hx)
omit h in
theorem EF {l:List Rw} (hl:l∈bf S d):∃ (r:Nat) (hd:r<d.length) (hr:r<S.rels.length),List.Sublist l d[r]:=by
 unfold bf at hl
 obtain ⟨i,hi,e⟩:=List.mem_iff_getElem.1 hl
 rw [List.length_zipWith] at hi
 refine ⟨i,by omega,by omega,?_⟩
 rw [← e,List.getElem_zipWith]
 exact List.filter_sublist
theorem DbOk.dist:∀ l∈bf S d,l.Pairwise fun a b=>a.v≠b.v:=fun l hl=>by
 obtain ⟨r,hd,hr,hs⟩:=EF hl
 exact List.Pairwise.sublist hs ((h.t r hd hr).asc.imp fun {a b} hab e=>by rw [e,cz] at hab;cases hab)
theorem DbOk.wts:∀ l∈bf S d,∀ x∈l,1≤x.w∧x.w≤100:=fun l hl x hx=>by
 obtain ⟨r,hd,hr,hs⟩:=EF hl
 exact ((h.t r hd hr).row x (hs.subset hx)).w.2
theorem DbOk.ord:OrdOk S (ordL S (lstL S)):=G9 h.hB h.val
theorem DbOk.ctx:CtxV (jdX S (bf S d)) (ordL S (lstL S)) (planS S):=by
 have:=HF h.ord h.hS h.tab (fun a ha=>h.val.use a ha) (ak (lstL S)) [.int .i64 (-1)] [ca (planS S)]
 rw [← show planS S=gT S (ordL S (lstL S)) from oj h.ord] at this
 exact this
theorem DbOk.out:IsJoin S (bf S d) (o9 (jdX S (bf S d)) (ordL S (lstL S))):=Hx h.ctx h.dist
theorem DbOk.hwa:(planS S).wa=aD (ordL S (lstL S)):=by rw [show planS S=gT S (ordL S (lstL S)) from oj h.ord];rfl
theorem DbOk.hho:∀ v (hv:v<(planS S).hos.length),(planS S).hos[v]=hoL S (ordL S (lstL S)) v:=by
 rw [show planS S=gT S (ordL S (lstL S)) from oj h.ord]
 intro v hv
 simp [gT,hoL,upZ]
omit h in
theorem fh:(joinL S d).Perm (o9 (jdX S (bf S d)) (ordL S (lstL S))):=List.mergeSort_perm _ _
theorem sN:IsJoin S (bf S d) (joinL S d) where
 mem:=fun y=>by rw [(fh (S:=S) (d:=d)).mem_iff];exact h.out.mem y
 nd:=by
  have:=h.out.nd
  exact (fh.pairwise_iff fun {a b} hab=>Ne.symm hab).2 this
omit h in
theorem Ek {l:List Rw} (hs:l.Pairwise fun a b=>aZ b.v a.v=false) (hn:l.Pairwise fun a b=>a.v≠b.v):Aj l:=
 (hs.and hn).imp fun {a b} ⟨h1,h2⟩=>by
  cases h3:aZ a.v b.v with
  | true=>rfl
  | false=>exact absurd (gO h3 h1) h2
theorem tG:Aj (joinL S d):=by
 refine Ek ?_ (sN h).nd
 have:=List.pairwise_mergeSort (le:=fun a b:Rw=> !aZ b.v a.v) (fun a b c h1 h2=>by
  have h1':aZ b.v a.v=false:=by simpa using h1
  have h2':aZ c.v b.v=false:=by simpa using h2
  cases h3:aZ c.v a.v with
  | false=>rfl
  | true=>
    cases h4:aZ a.v b.v with
    | true=>rw [cT h3 h4] at h2';cases h2'
    | false=>rw [gO h4 h1',h2'] at h3;cases h3) (fun a b=>by
  cases h3:aZ b.v a.v with
  | false=>rfl
  | true=>
    cases h4:aZ a.v b.v with
    | false=>rfl
    | true=>have:=cT h3 h4;rw [cz] at this;cases this) (o9 (jdX S (bf S d)) (ordL S (lstL S)))
 exact this.imp fun {a b} hab=>by simpa using hab
theorem ER {l':List Rw} (hp:l'.Perm (o9 (jdX S (bf S d)) (ordL S (lstL S)))) (hs:l'.Pairwise fun a b=>aZ b.v a.v=false):l'=joinL S d:=by
 have hn:l'.Pairwise fun a b=>a.v≠b.v:=(hp.pairwise_iff fun {a b} hab=>Ne.symm hab).2 h.out.nd
 exact vd (Ek hs hn) (tG h) fun y=>by rw [hp.mem_iff,fh.mem_iff]
theorem pL:(joinL S d).length=fl bG (jdX S (bf S d)) (ordL S (lstL S)) (al (ordL S (lstL S)) (-1)) fun _=>none:=by
 rw [(fh (S:=S) (d:=d)).length_eq];exact y3 h.ctx
theorem DbOk.check:FnP Tryz.prog 36 [gK S,dbP d] (· = .int .i64 0):=Cl S h.hB h.hS h.hc d h.n (fun l hl=>by have:=h.l l hl;omega) h.t
theorem DbOk.new:FnO Tryz.prog 48 0 2 [.pv (gK S),.pv (dbP d)] [] (fun v ob'=>v= .ptr 0 0∧ob'=ar [(0,oX S (.pv (dbP (bf S d))) (.pv (ak (lstL S))) 1),(1,.mp [] [])]):=
 wG S h.hB h.val h.hS d h.n (fun l hl=>by have:=h.l l hl;omega) fun r hr h2 x hx=>((h.t r hr h2).row x hx).l
theorem DbOk.plan0:pr S (bf S d) (lstL S) [] [] (planS S):=Ax S h.hB h.val (bf S d) (lstL S) (iN S h.hB h.val).1 (planS S) (He S h.hB h.ord)
theorem DbOk.Dw:FnO Tryz.prog 49 2 0 [.ptr big 0] (jnO S (bf S d) (lstL S) [] []) (fun v ob'=>v=xg (joinL S d).length∧ob'=ar (jnO S (bf S d) (lstL S) [.int .i64 (-1)] [ca (planS S)])):=by
 have:=vD S (bf S d) (lstL S) [] [] (planS S) h.plan0 (ordL S (lstL S)) h.ctx
 rw [pL h];exact this
end
def pJ (l:List Rw):PV:=if 2000<l.length then .tup [bL [],.int .i64 3] else .tup [bL l,.int .i64 0]
theorem fl_12 {S:Sch} {d:List (List Rw)} (h:DbOk S d):(joinL S d).length≤12^12:=by
 rw [pL h]
 have h1:=valL_le (gm (J:=jdX S (bf S d)) h.ctx.t12) ((al (ordL S (lstL S)) (-1)).map (a7 (ordL S (lstL S)) (ordL S (lstL S)).length)) (fun _=>none)
 have h2:=qN h.ord.dP
 have h3:(ordL S (lstL S)).length≤12:=n12 h.ord
 exact Nat.le_trans h1 (Nat.pow_le_pow_right (by decide) (by omega))
theorem iH (S:Sch) (d:List (List Rw)) (h:DbOk S d):FnP Tryz.prog 12 [gK S,dbP d] (· =pJ (joinL S d)):=by
 refine FnP.fg2 (FnP.of func12 rfl ntmps12 (by simp) fun m0 w0 F R0=>?_)
 have hchk:=h.check
 have hnew:=h.new
 have hsz:=h.Dw
 have h12:=fl_12 h
 have hll:(aj ((((joinL S d).length:Nat):Int)).natAbs).length≤1000000:=mV (ig h12 (by decide))
 have hof:=fO 2000 (by decide) (by decide)
 have hl2:(aj ((2000:Int)).natAbs).length≤1000000:=by rw [show (2000:Int).natAbs=2000 from rfl];exact mV (a:=2000) (ig (k:=4) (by decide) (by decide))
 have hcmp:=gl (((joinL S d).length:Nat):Int) 2000 hll hl2
 have hpl:=Cm S (bf S d) (lstL S) (planS S)
 have hol:(o9 (jdX S (bf S d)) (ordL S (lstL S))).length=(joinL S d).length:=fh.length_eq.symm
 have htup:=fun hll=>sy S (bf S d) (lstL S) [.int .i64 (-1)] [ca (planS S)] (planS S) hpl (ordL S (lstL S)) h.ctx h.dist h.wts h.val.r2 h.hwa h.hho (o9 (jdX S (bf S d)) (ordL S (lstL S))) rfl hll
 have hvl:∀ x∈o9 (jdX S (bf S d)) (ordL S (lstL S)),x.v.length≤1000000:=fun x hx=>by
  have:=((h.out.mem x).1 hx).1
  have:=h.hB.a
  omega
 have hsrt:=fun hll=>w7 (o9 (jdX S (bf S d)) (ordL S (lstL S))) hll hvl
 have hjo:=fun l'=>ER (l':=l') h
 have hbp:∀ l,pJ l=if 2000<l.length then .tup [bL [],.int .i64 3] else .tup [bL l,.int .i64 0]:=fun l=>rfl
 clear h12 hll hl2 hvl hpl
 generalize joinL S d=JL at*
 generalize o9 (jdX S (bf S d)) (ordL S (lstL S))=OL at*
 refine Z3 rfl rfl rfl rfl ?_
 refine Z2 rfl rfl rfl ?_
 refine Rs 11 rfl rfl (ae call36 hchk rfl) ?_
 refine A1 rfl ?_
 refine Z2 rfl rfl rfl ?_
 refine Gc rfl rfl (fun hc13=>absurd hc13 (by simp)) (fun hc13=>?_)
 refine Il ?_
 refine Z2 rfl rfl rfl ?_
 refine Rs 17 rfl rfl (ah [] 1 call48 hnew rfl rfl rfl rfl trivial (by decide) rfl) ?_
 refine A1 rfl ?_
 refine Wk [(7,.ptr 1 0)] [(1,oX S (.pv (dbP (bf S d))) (.pv (ak (lstL S))) 2),(2,.mp [] [])] 3 (aS (by kernel_rfl)) (aO (by kernel_rfl)) rfl rfl ?_
 refine Z1 rfl rfl ?_
 refine Rs 19 rfl rfl (ah [1,2] 3 call49 hsz rfl rfl rfl rfl ⟨by kernel_rfl,by kernel_rfl,trivial⟩ (by decide) rfl) ?_
 refine Rs 20 rfl rfl (ae call51 hof rfl) ?_
 refine Rs 21 rfl rfl (ae call50 hcmp rfl) ?_
 refine A1 rfl ?_
 refine Wk [(7,.ptr 1 0),(22,.pv (.bool (decide (((((JL.length:Nat):Int))-2000).sign>0))))] [(1,oX S (.pv (dbP (bf S d))) (.pv (ak (lstL S))) 2),(2,.mp [.int .i64 (-1)] [ca (planS S)])] 3 (aS (by kernel_rfl)) (aO (by kernel_rfl)) rfl rfl ?_
 refine Gp rfl rfl (fun hc22=>?_) (fun hc22=>?_)
 ·have hbig:2000<JL.length:=by
   have:0<(((JL.length:Nat):Int)-2000).sign:=hc22
   have:=Int.sign_pos_iff.1 this
   omega
  refine Z2 rfl rfl rfl ?_
  refine Gt rfl ?_
  exact ⟨_,_,rfl,rfl,by rw [hbp,if_pos hbig];rfl⟩
 ·have hsm:¬ 2000<JL.length:=fun hb=>hc22 (by
   have:0<(((JL.length:Nat):Int)-2000).sign:=Int.sign_pos_iff.2 (by omega)
   exact this)
  have htu:=htup (by omega)
  have hso:=hsrt (by omega)
  refine Il ?_
  refine Z1 rfl rfl ?_
  refine Rs 24 rfl rfl (ah [1,2] 3 call52 htu rfl rfl rfl rfl ⟨by kernel_rfl,by kernel_rfl,trivial⟩ (by decide) rfl) ?_
  refine A1 rfl ?_
  refine Wk [(8,.gsl 3 2 OL.length)] [(3,jz OL)] 4 (aS (by kernel_rfl)) (aO (by kernel_rfl)) rfl rfl ?_
  refine Z1 rfl rfl ?_
  refine RL.call rfl (dU (os:=[(big,jz OL)]) [3] 4 call53 (args:=[.gsl big 2 OL.length,.pv (.fn (.func 54) [] [])]) (k':=0) (by kernel_rfl) (by kernel_rfl) (by kernel_rfl) (by kernel_rfl) ⟨by kernel_rfl,trivial⟩ (by decide) (by kernel_rfl) hso fun v ob' hv=>?_)
  obtain ⟨l',hp',hs',rfl,rfl⟩:=hv
  have hle:=hp'.length_eq
  have hje:=hjo l' hp' hs'
  refine Wk [(8,.gsl 3 2 OL.length)] [(3,jz l')] 4 (aS (by kernel_rfl)) (aO (by kernel_rfl)) rfl rfl ?_
  subst hje
  refine Im (Ir 3 rfl rfl) ?_
  refine Z3 rfl rfl rfl rfl ?_
  refine Gt rfl ?_
  exact ⟨_,_,rfl,rfl,by rw [hbp,if_neg hsm, ← hle];rfl⟩
theorem En:∀ k n,n<10^(k+1)→(Lib.decDigits n).length≤k+1
 | 0,n,h=>by rw [Lib.decDigits,dif_pos (by omega)];simp
 | k+1,n,h=>by
   rw [Lib.decDigits]
   split
   ·simp
   ·have:=En k (n/10) (by rw [Nat.pow_succ] at h;omega)
    simp only [List.length_append,List.length_singleton];omega
theorem Ff {n:Nat} (h:n<1000000000):(Lib.decDigits n).length≤1000:=by
 have:=En 8 n (by simpa using h)
 omega
theorem mI (S:Sch) (d:List (List Rw)) (h:DbOk S d) (hn:(joinL S d).length<1000000000):FnP Tryz.prog 13 [gK S,dbP d] (· = .tup [.str ⟨(Lib.decDigits (joinL S d).length).toArray⟩,.int .i64 0]):=by
 refine FnP.of func13 rfl ntmps13 (by simp) fun m0 w0 F R0=>?_
 have hchk:=h.check
 have hnew:=h.new
 have hsz:=h.Dw
 have hst:=lF (joinL S d).length hn (Ff hn)
 generalize joinL S d=JL at*
 refine Z3 rfl rfl rfl rfl ?_
 refine Z2 rfl rfl rfl ?_
 refine Rs 9 rfl rfl (ae call36 hchk rfl) ?_
 refine A1 rfl ?_
 refine Z2 rfl rfl rfl ?_
 refine Gc rfl rfl (fun hc11=>absurd hc11 (by simp)) (fun hc11=>?_)
 refine Il ?_
 refine Z2 rfl rfl rfl ?_
 refine Rs 15 rfl rfl (ah [] 1 call48 hnew rfl rfl rfl rfl trivial (by decide) rfl) ?_
 refine Rs 16 rfl rfl (ah [1,2] 3 call49 hsz rfl rfl rfl rfl ⟨by kernel_rfl,by kernel_rfl,trivial⟩ (by decide) rfl) ?_
 refine Rs 17 rfl rfl (ae call55 hst rfl) ?_
 refine Y2 rfl rfl ?_
 refine Gt rfl ?_
 exact ⟨_,_,rfl,rfl,rfl⟩
end
section
open Go.RowKit Mk Jn
set_option maxHeartbeats 4000000
theorem Bv (S:Sch) (hB:SB S) (hS:SJn S) (hV:cI S=0) (r:Nat) (hr:r<S.rels.length) (l:List Rw) (hl:l.length≤120) (hT:TblOk S S.rels[r].2 (-100) l):FnP Tryz.prog 40 [gK S,.agg [.int .i64 r,bL l]] (· = .int .i64 0):=by
 refine FnP.of func40 rfl ntmps40 (by simp) fun m0 w0 F R0=>?_
 have hro:=jd S hB hS hV r hr l 120 (-100) (by omega) (by omega) hT
 refine Z3 rfl rfl rfl rfl ?_
 refine Gr rfl ?_
 iterate 5 refine A1 rfl ?_
 refine Rs 10 rfl rfl (ae call83 hro rfl) ?_
 refine A1 rfl ?_
 refine Gt rfl ?_
 exact ⟨_,_,rfl,rfl,rfl⟩
theorem wB (S:Sch) (d:List (List Rw)) (h:DbOk S d) (r:Nat) (hrd:r<d.length) (hr:r<S.rels.length) (x:List Rw) (hx:TblOk S S.rels[r].2 (-100) x) (hxl:x.length<8) (hne:d[r]≠[]) (hs:CU (d[r]++x)) (hA:S.rels[r].2.length≤1000)
  (nx:List Rw) (hnx:(((d[r]++x).foldl mgR []).filter fun x=> !isZ x)=nx) (hok:(nx.any fun x=>decide (x.w<0)||decide (x.w>100))=false) (hnl:nx.length≤60) (hnv:∀ y∈nx,y.v.length≤1000∧ -1000000≤y.w∧y.w≤1000000):
  FnP Tryz.prog 24 [gK S,dbP d,.agg [.int .i64 r,bL x]] (· = .tup [dbP (d.set r nx),.int .i64 0]):=by
 refine FnP.fg2 (FnP.of func24 rfl ntmps24 (by simp) fun m0 w0 F R0=>?_)
 have hchk:=h.check
 have hdel:=Bv S h.hB h.hS h.hc r hr x (by omega) hx
 have htr:=cD hrd
 have htn:=dN hrd
 have hrow:∀ k (hk:k<d.length),d[k].length≤12∧∀ y∈d[k],y.v.length≤1000∧ -1000000≤y.w∧y.w≤1000000:=fun k hk=>by
  have hk2:k<S.rels.length:=by have:=h.n;omega
  refine ⟨h.l _ (List.getElem_mem hk),fun y hy=>?_⟩
  have:=(h.t k hk hk2).row y hy
  have hsl:=h.hS.l _ (List.getElem_mem hk2)
  have hwl:=this.l
  have hww:=this.w
  exact ⟨by omega,by omega,by omega⟩
 have hxr:∀ y∈x,y.v.length≤1000∧ -1000000≤y.w∧y.w≤1000000:=fun y hy=>by
  have:=hx.row y hy
  have hwl:=this.l
  have hww:=this.w
  exact ⟨by omega,by omega,by omega⟩
 have hdr:=hrow r hrd
 have hcp:=mw d[r] 1 (by omega) (fun y hy=>(hdr.2 y hy).1) (fun y hy=>by have:=hdr.2 y hy;omega)
 rw [iT] at hcp
 have hall:∀ y∈d[r]++x,y.v.length≤1000∧ -1000000≤y.w∧y.w≤1000000:=fun y hy=>by
  rcases List.mem_append.1 hy with hy | hy
  ·exact hdr.2 y hy
  ·exact hxr y hy
 have hso:=wK (d[r]++x) (by simp [hne]) (by rw [List.length_append];omega) hs (fun y hy=>(hall y hy).1) (fun y hy=>(hall y hy).2)
 rw [hnx] at hso
 have hco:=v8 nx (by omega) 67 _ call67 (fun y _=>su y)
 rw [hok] at hco
 have hsn:(d.set r nx).length=d.length:=List.length_set
 have hcps:∀ k (hk:k<d.length),FnP Tryz.prog 65 [bL ((d.set r nx)[k]'(by omega)),.int .i64 1] (· =bL ((d.set r nx)[k]'(by omega))):=fun k hk=>by
  have:=zT ((d.set r nx)[k]'(by omega)) 1
  rw [iT] at this
  rw [List.getElem_set] at this ⊢
  by_cases e:r=k
  ·rw [if_pos e] at this ⊢
   exact this (by omega) (fun y hy=>(hnv y hy).1) (fun y hy=>by have:=hnv y hy;omega)
  ·rw [if_neg e] at this ⊢
   have hk2:=hrow k hk
   exact this (by omega) (fun y hy=>(hk2.2 y hy).1) (fun y hy=>by have:=hk2.2 y hy;omega)
 have hdl:=dH d
 have hdn:d.length≤1000:=by have:=h.n;have:=h.hS.r;omega
 have hrp:0<d[r].length:=List.length_pos_iff.2 hne
 have hrc:=aK d[r]
 have hxc:=aK x
 have hxlf:=dw x
 have hxa:=fj d[r] x
 have hge:∀ k (hk:k<d.length),((d.set r nx)[k]'(by omega))=if r=k then nx else d[k]:=fun k hk=>List.getElem_set ..
 have hel:r<d.length:=hrd
 have hdr12:=hdr.1
 have hso2:FnP Tryz.prog 25 [.sl none (d[r].length+x.length) (aB d[r]++aB x)] (· =bL nx):=by rw [← hxa, ← List.length_append];exact hso
 clear hrow hdr hall hnx hs hok hxr
 refine Z4 rfl rfl rfl rfl rfl ?_
 refine Z2 rfl rfl rfl ?_
 refine Rs 16 rfl rfl (ae call36 hchk rfl) ?_
 refine A1 rfl ?_
 refine Z2 rfl rfl rfl ?_
 refine Gc rfl rfl (fun hc18=>absurd hc18 (by simp)) (fun hc18=>?_)
 refine Il ?_
 refine Z2 rfl rfl rfl ?_
 refine Rs 22 rfl rfl (ae call40 hdel rfl) ?_
 refine A1 rfl ?_
 refine Z2 rfl rfl rfl ?_
 refine Gc rfl rfl (fun hc24=>absurd hc24 (by simp)) (fun hc24=>?_)
 refine Il ?_
 refine Ge rfl follows [0,1,2,3,4,5,6,7,8,9,10] (by kernel_rfl) ?_
 iterate 3 refine D1 rfl rfl ?_
 refine Ds 29 [] rfl rfl rfl (fun τ h=>ag r underlying36 qk (Ee h 0 rfl rfl) (Ee h 1 rfl rfl) rfl hrd htn) rfl (by kernel_rfl) ?_
 refine Ds 30 [] rfl rfl rfl (fun τ h=>ai ⟨_,underlying38,rfl⟩ (Ee h 0 rfl rfl) htr) rfl (by kernel_rfl) ?_
 refine Ds 31 [] rfl rfl rfl (fun τ h=>ah [] 2 call65 hcp (h.args.trans rfl) rfl rfl rfl trivial (by decide) ((Bool.and_true _).trans (h.n 0 _ rfl))) rfl (by kernel_rfl) ?_
 iterate 2 refine D1 rfl rfl ?_
 refine Ds 34 [2] rfl rfl rfl (fun τ h=>sG xi (Ee h 0 rfl rfl) (Eo h 0 rfl rfl) hrc (.inl ⟨none,(Ee h 1 rfl rfl)⟩) hxc hxlf (by omega) hrp) rfl (by kernel_rfl) ?_
 refine Ds 35 [] rfl rfl rfl (fun τ h=>ae call25 hso2 (h.bt rfl)) rfl (by kernel_rfl) ?_
 refine D1 rfl rfl ?_
 refine ⟨by kernel_rfl,?_⟩
 refine Wk [(1,.pv (dbP d)),(5,.ptr 1 0),(10,.pv (bL nx))] [(1,.mix 59 [.pv (.int .i64 r),.pv (bL x)])] 2 (aS (by kernel_rfl)) (aO (by kernel_rfl)) rfl rfl ?_
 refine Z1 rfl rfl ?_
 refine Rs 37 rfl rfl (ae call66 hco rfl) ?_
 refine Gc rfl rfl (fun hc37=>absurd hc37 (by simp)) (fun hc37=>?_)
 refine Il ?_
 refine Z3 rfl rfl rfl rfl ?_
 refine Gp rfl rfl (fun hc40=>absurd hc40 (by omega)) (fun hc40=>?_)
 refine Il ?_
 refine Z1 rfl rfl ?_
 refine Im (Iu 11 2 1 38 rfl rfl) ?_
 refine Z3 rfl rfl rfl rfl ?_
 refine Gl rfl (st:=fun x_0:Nat×List (List Rw)=>mkS [(5,.ptr 1 0),(10,.pv (bL nx)),(11,.gsl 2 1 x_0.2.length),(41,.pv (dbP d)),(42,.pv (.int .i64 d.length)),(43,.pv (.int .i64 x_0.1))] [(1,.mix 59 [.pv (.int .i64 r),.pv (bL x)]),(2,.gro 38 (dv x_0.2))] 3)
  (I:=fun x_0=>x_0.1≤d.length∧x_0.2=(d.set r nx).take x_0.1) (μ:=fun x_0=>d.length-x_0.1) (x0:=(0,[])) (Io (aS rfl) (aO (by kernel_rfl)) rfl rfl) (⟨Nat.zero_le _,rfl⟩) ?_
 rintro ⟨k,q⟩ ⟨hk,hq⟩
 try simp only at hk hq ⊢
 refine Z1 rfl rfl ?_
 refine Gp rfl rfl (fun hc44=>?_) (fun hc44=>?_)
 ·have hlt:k<d.length:=by omega
  have htk:=cD hlt
  have htkn:=dN hlt
  have hck:=hcps k hlt
  have hqs:(d.set r nx).take (k+1)=q++[(d.set r nx)[k]'(by omega)]:=by rw [List.take_succ_eq_append_getElem (by omega),hq]
  have hgk:=hge k hlt
  have hql:(dv q).length=q.length*1:=dH q
  have hqn:q.length=k:=by rw [hq,List.length_take];omega
  refine Il ?_
  refine Z1 rfl rfl ?_
  refine Rs 46 rfl rfl (ag k underlying36 qk rfl rfl rfl hlt htkn) ?_
  refine Rs 47 rfl rfl (ai ⟨_,underlying38,rfl⟩ rfl htk) ?_
  refine Y2 rfl rfl ?_
  refine Z4 rfl rfl rfl rfl rfl ?_
  refine Gc rfl rfl (fun hc51=>?_) (fun hc51=>?_)
  ·have hkr0:(k:Int)=r:=by simpa using hc51
   have hkr:r=k:=by omega
   rw [if_pos hkr] at hgk
   rw [hgk] at hck hqs
   have hsn2:=jE q nx
   refine Z2 rfl rfl rfl ?_
   refine Z2 rfl rfl rfl ?_
   refine Rs 55 rfl rfl (ae call65 hck rfl) ?_
   refine Y3 rfl rfl rfl ?_
   refine Z2 rfl rfl rfl ?_
   exact ⟨(k+1,q++[nx]),Ip [0,1,4] ⟨rfl,rfl,Eq.trans (b:=V.gsl 4 1 (q.length+1)) (by kernel_rfl) (congrArg (fun n=>V.gsl 4 1 n) (bW q nx)),rfl,rfl,rfl,trivial⟩ ⟨by kernel_rfl,Eq.trans (b:=some (Ob.gro 38 (dv q++[bL nx]))) (by kernel_rfl) (congrArg (fun c=>some (Ob.gro 38 c)) hsn2),trivial⟩ rfl rfl (by decide) rfl,⟨by simp only;omega,by simp only;rw [hqs]⟩,by simp only;omega⟩
  ·have hkr:¬ r=k:=fun e=>by subst e;simp at hc51
   rw [if_neg hkr] at hgk
   rw [hgk] at hck hqs
   have hsn2:=jE q d[k]
   refine Il ?_
   refine Z2 rfl rfl rfl ?_
   refine Rs 55 rfl rfl (ae call65 hck rfl) ?_
   refine Y3 rfl rfl rfl ?_
   refine Z2 rfl rfl rfl ?_
   exact ⟨(k+1,q++[d[k]]),Ip [0,1,4] ⟨rfl,rfl,Eq.trans (b:=V.gsl 4 1 (q.length+1)) (by kernel_rfl) (congrArg (fun n=>V.gsl 4 1 n) (bW q d[k])),rfl,rfl,rfl,trivial⟩ ⟨by kernel_rfl,Eq.trans (b:=some (Ob.gro 38 (dv q++[bL d[k]]))) (by kernel_rfl) (congrArg (fun c=>some (Ob.gro 38 c)) hsn2),trivial⟩ rfl rfl (by decide) rfl,⟨by simp only;omega,by simp only;rw [hqs]⟩,by simp only;omega⟩
 ·have hqf:q=d.set r nx:=by rw [hq,List.take_of_length_le (by omega)]
  refine Gx rfl ?_
  refine Im (Ir 2 rfl rfl) ?_
  refine Z3 rfl rfl rfl rfl ?_
  refine Gt rfl ?_
  exact ⟨_,_,rfl,rfl,by rw [hqf];rfl⟩
theorem vK (a:List Rw) (ha:a.length≤1000000) (hv:∀ x∈a,x.v.length≤1000000):FnP Tryz.prog 19 [bL a,bL a] (· = .bool true):=by
 refine FnP.of func19 rfl ntmps19 (by simp) fun m0 w0 F R0=>?_
 refine Z1 rfl rfl ?_
 refine Gr rfl ?_
 iterate 5 refine A1 rfl ?_
 refine Gc rfl rfl (fun hc10=>absurd hc10 (by simp)) (fun hc10=>?_)
 refine Il ?_
 refine Z3 rfl rfl rfl rfl ?_
 refine Gl rfl (st:=fun x_0:Nat=>mkS [(0,.pv (bL a)),(1,.pv (bL a)),(12,.pv (.int .i64 a.length)),(13,.pv (.int .i64 x_0))] [] 0)
  (I:=fun x_0=>x_0≤a.length) (μ:=fun x_0=>a.length-x_0) (x0:=(0)) (Io (aS rfl) trivial rfl rfl) (Nat.zero_le _) ?_
 rintro k hk
 refine Z1 rfl rfl ?_
 refine Gp rfl rfl (fun hc14=>?_) (fun hc14=>?_)
 ·have hlt:k<a.length:=by omega
  have hov:(aB a)[k*2+0]? =some (aI a[k].v):=nr hlt
  have how:=s5 hlt
  have hne:=aW hlt
  have htx:=mO a[k].v a[k].v (hv _ (List.getElem_mem hlt)) (hv _ (List.getElem_mem hlt))
  rw [show decide (a[k].v=a[k].v)=true from decide_eq_true rfl] at htx
  generalize a[k]=x at*
  refine Il ?_
  refine Z2 rfl rfl rfl ?_
  refine Ge rfl follows [0,1,2,3,4,5,6,7,8,9,10,11,12,13,14,15,16,17,18,19,20,21,22,23,24] (by kernel_rfl) ?_
  iterate 2 refine D1 rfl rfl ?_
  refine Ds 18 [] rfl rfl rfl (fun τ h=>ag k underlying38 lM (Ee h 0 rfl rfl) (Ee h 1 rfl rfl) rfl hlt hne) rfl (by kernel_rfl) ?_
  refine D1 rfl rfl ?_
  refine Ds 20 [] rfl rfl rfl (fun τ h=>ai ⟨_,underlying3,rfl⟩ (Ee h 0 rfl rfl) how) rfl (by kernel_rfl) ?_
  iterate 2 refine D1 rfl rfl ?_
  refine Ds 23 [] rfl rfl rfl (fun τ h=>ag k underlying38 lM (Ee h 0 rfl rfl) (Ee h 1 rfl rfl) rfl hlt hne) rfl (by kernel_rfl) ?_
  refine D1 rfl rfl ?_
  refine Ds 25 [] rfl rfl rfl (fun τ h=>ai ⟨_,underlying3,rfl⟩ (Ee h 0 rfl rfl) how) rfl (by kernel_rfl) ?_
  refine Ds 26 [] rfl rfl rfl (fun τ h=>XJ.cast (v':= .pv (.bool false)) (aQ (Ee h 0 rfl rfl) (Ee h 1 rfl rfl) rfl) (congrArg (fun b=>V.pv (.bool b)) (by simp))) rfl (by kernel_rfl) ?_
  iterate 3 refine D1 rfl rfl ?_
  refine Dg 30 [] rfl rfl rfl rfl (fun τ h=>ag k underlying38 lM (Ee h 0 rfl rfl) (Ee h 1 rfl rfl) rfl hlt hne) rfl (by kernel_rfl) ?_
  refine D1 rfl rfl ?_
  refine Dg 32 [] rfl rfl rfl rfl (fun τ h=>ai ⟨_,underlying47,rfl⟩ (Ee h 0 rfl rfl) hov) rfl (by kernel_rfl) ?_
  iterate 2 refine D1 rfl rfl ?_
  refine Dg 35 [] rfl rfl rfl rfl (fun τ h=>ag k underlying38 lM (Ee h 0 rfl rfl) (Ee h 1 rfl rfl) rfl hlt hne) rfl (by kernel_rfl) ?_
  refine D1 rfl rfl ?_
  refine Dg 37 [] rfl rfl rfl rfl (fun τ h=>ai ⟨_,underlying47,rfl⟩ (Ee h 0 rfl rfl) hov) rfl (by kernel_rfl) ?_
  refine Dg 38 [] rfl rfl rfl rfl (fun τ h=>ae call63 htx (h.bt rfl)) rfl (by kernel_rfl) ?_
  iterate 2 refine D1 rfl rfl ?_
  refine ⟨by kernel_rfl,?_⟩
  refine Gc rfl rfl (fun hc40=>absurd hc40 (by simp)) (fun hc40=>?_)
  refine Il ?_
  refine Z2 rfl rfl rfl ?_
  exact ⟨(k+1),Io (aS rfl) trivial rfl rfl,by omega,by omega⟩
 ·refine Gx rfl ?_
  refine Z1 rfl rfl ?_
  refine Gt rfl ?_
  exact ⟨_,_,rfl,rfl,rfl⟩
end
section
open Go.RowKit Mk Jn
set_option maxHeartbeats 4000000
abbrev tA:ByteArray:=⟨#[97]⟩
abbrev tB:ByteArray:=⟨#[98]⟩
abbrev tC:ByteArray:=⟨#[99]⟩
abbrev tX:ByteArray:=⟨#[120]⟩
abbrev t1:ByteArray:=⟨#[49]⟩
abbrev t2:ByteArray:=⟨#[50]⟩
def prS:Sch:=⟨[(tA,1),(tB,3),(tC,1)],[(⟨#[114]⟩,[0,1]),(⟨#[113]⟩,[1,2])],[], -1⟩
def prD:List (List Rw):=[[⟨[t1,tX],2⟩],[⟨[tX,t2],3⟩]]
def prJ:List Rw:=[⟨[t1,tX,t2],6⟩]
theorem DX (nm:ByteArray):FnP Tryz.prog 179 [.agg [.str nm,.int .i64 1],.str t1] (· = .bool true):=kG nm t1 (.inr ⟨by kernel_rfl,by decide+kernel⟩)
theorem Hm (nm:ByteArray):FnP Tryz.prog 179 [.agg [.str nm,.int .i64 1],.str t2] (· = .bool true):=kG nm t2 (.inr ⟨by kernel_rfl,by decide+kernel⟩)
theorem Gn (nm:ByteArray):FnP Tryz.prog 179 [.agg [.str nm,.int .i64 3],.str tX] (· = .bool true):=qW nm tX (.inr ⟨by kernel_rfl,by decide⟩)
theorem E1 (low:Int) (hl:low≤ -2) (w:Int) (hw:w≠0∧ -2≤w∧w≤100):RowOk prS [0,1] low ⟨[t1,tX],w⟩:=by
 refine ⟨rfl,fun i h h2 nm=>?_,by simp only;omega⟩
 match i,h with
 | 0,_=>exact DX nm
 | 1,_=>exact Gn nm
theorem Da:RowOk prS [0,1] 1 ⟨[t1,tX],2⟩:=by
 refine ⟨rfl,fun i h h2 nm=>?_,by decide⟩
 match i,h with
 | 0,_=>exact DX nm
 | 1,_=>exact Gn nm
theorem Fo:RowOk prS [1,2] 1 ⟨[tX,t2],3⟩:=by
 refine ⟨rfl,fun i h h2 nm=>?_,by decide⟩
 match i,h with
 | 0,_=>exact Gn nm
 | 1,_=>exact Hm nm
theorem pr_sb:SB prS:=⟨by decide,by decide,by decide,by decide,by decide,by decide⟩
theorem El:cI prS=0:=by kernel_rfl
theorem pr_sj:SJn prS:=zq (jF El) (by decide) (by decide)
theorem EN {y:ByteArray} (h:y.data.toList.all (· !=0)=true):Zf y:=fun hm=>by
 have:=List.all_eq_true.1 h _ hm
 simp at this
theorem w6:DbOk prS prD where
 hB:=pr_sb
 hc:=El
 hS:=pr_sj
 n:=rfl
 l:=by decide
 t:=fun r h h2=>by
  match r,h with
  | 0,_=>
    refine ⟨fun x hx=>?_,List.pairwise_singleton _ _⟩
    obtain rfl:=List.mem_singleton.1 hx
    exact Da
  | 1,_=>
    refine ⟨fun x hx=>?_,List.pairwise_singleton _ _⟩
    obtain rfl:=List.mem_singleton.1 hx
    exact Fo
 zf:=fun l hl x hx y hy=>by
  simp only [prD,List.mem_cons,List.not_mem_nil,or_false] at hl
  rcases hl with rfl | rfl
  ·obtain rfl:=List.mem_singleton.1 hx
   simp only [List.mem_cons,List.not_mem_nil,or_false] at hy
   rcases hy with rfl | rfl<;>exact ⟨EN (by decide),by decide⟩
  ·obtain rfl:=List.mem_singleton.1 hx
   simp only [List.mem_cons,List.not_mem_nil,or_false] at hy
   rcases hy with rfl | rfl<;>exact ⟨EN (by decide),by decide⟩
theorem FB:bf prS prD=prD:=by kernel_rfl
theorem pr_is:IsJoin prS prD prJ where
 mem:=fun y=>by
  rw [show iL prS prD=[([0,1],[⟨[t1,tX],2⟩]),([1,2],[⟨[tX,t2],3⟩])] from rfl]
  simp only [Ez,List.mem_singleton,prJ]
  constructor
  ·rintro rfl
   exact ⟨rfl,_,rfl,rfl,_,⟨_,rfl,rfl,1,rfl,rfl⟩,rfl⟩
  ·rintro ⟨hl,x,rfl,e1,w',⟨z,rfl,e2,w2,rfl,rfl⟩,e3⟩
   obtain ⟨v,w⟩:=y
   match v,hl with
   | [a,b,c],_=>
     simp only [List.map_cons,List.map_nil] at e1 e2
     injection e1 with h1 e1
     injection e1 with h2 e1
     injection e2 with h3 e2
     injection e2 with h4 e2
     have k1:a=t1:=h1
     have k2:b=tX:=h2
     have k4:c=t2:=h4
     have k5:w=6:=e3
     rw [k1,k2,k4,k5]
 nd:=List.pairwise_singleton _ _
theorem xB:joinL prS prD=prJ:=by
 have h:=sN w6
 rw [FB] at h
 exact vd (tG w6) (List.pairwise_singleton _ _) fun y=>by rw [h.mem,pr_is.mem]
theorem AU:FnP Tryz.prog 47 [] (· = .tup [gK prS,dbP prD]):=by
 refine FnP.fg2 (FnP.ofC func47 rfl ntmps47 (by simp) fun m0 w0 F R0=>?_)
 refine Z2 rfl rfl rfl ?_
 refine Z3 rfl rfl rfl rfl ?_
 refine Rs 6 rfl rfl (aq none (by simp) el28 rfl (by decide) (by decide) rfl rfl) ?_
 refine Rs 7 rfl rfl (aq none (by simp) xj rfl (by decide) (by decide) rfl rfl) ?_
 refine A1 rfl ?_
 refine Rs 9 rfl rfl (aq none (by simp) xj rfl (by decide) (by decide) rfl rfl) ?_
 refine A1 rfl ?_
 refine Rs 11 rfl rfl (aq none (by simp) el31 rfl (by decide) (by decide) rfl rfl) ?_
 refine Y3 rfl rfl rfl ?_
 refine Z1 rfl rfl ?_
 refine Rs 14 rfl rfl (aq none (by simp) uq rfl (by decide) (by decide) rfl rfl) ?_
 refine A1 rfl ?_
 refine Rs 16 rfl rfl (aq none (by simp) xi rfl (by decide) (by decide) rfl rfl) ?_
 refine Rs 17 rfl rfl (aq none (by simp) uq rfl (by decide) (by decide) rfl rfl) ?_
 refine A1 rfl ?_
 refine Rs 19 rfl rfl (aq none (by simp) xi rfl (by decide) (by decide) rfl rfl) ?_
 refine Rs 20 rfl rfl (aq none (by simp) el36 rfl (by decide) (by decide) rfl rfl) ?_
 refine Y2 rfl rfl ?_
 refine Gt rfl ?_
 exact ⟨_,_,rfl,rfl,⟨aY ⟨_,underlying34,rfl⟩ sz34 rfl rfl rfl,trivial⟩,rfl⟩
theorem HH:TblOk prS [0,1] (-100) [⟨[t1,tX], -2⟩]:=by
 refine ⟨fun x hx=>?_,List.pairwise_singleton _ _⟩
 obtain rfl:=List.mem_singleton.1 hx
 exact E1 (-100) (by decide) (-2) (by decide)
theorem CD:FnP Tryz.prog 24 [gK prS,dbP prD,.agg [.int .i64 0,bL [⟨[t1,tX], -2⟩]]] (· = .tup [dbP (prD.set 0 []),.int .i64 0]):=
 wB prS prD w6 0 (by decide) (by decide) [⟨[t1,tX], -2⟩] HH (by decide) (by simp [prD]) (by
  show CU [⟨[t1,tX],2⟩,⟨[t1,tX], -2⟩]
  refine List.pairwise_pair.2 ?_
  exact cz _) (by decide) [] (by kernel_rfl) rfl (by decide) (fun y hy=>by simp at hy)
theorem pX:FnP Tryz.prog 9 [] (· = .bool true):=by
 refine FnP.of func9 rfl ntmps9 (by simp) fun m0 w0 F R0=>?_
 have hbu:=iH prS prD w6
 have hsi:=mI prS prD w6 (by rw [xB];decide)
 rw [xB] at hbu hsi
 rw [show pJ prJ= .tup [bL prJ,.int .i64 0] from rfl] at hbu
 rw [show (⟨(Lib.decDigits prJ.length).toArray⟩:ByteArray)=⟨#[49]⟩ by rw [Lib.decDigits,dif_pos (by decide)];rfl] at hsi
 have hro:=vK prJ (by decide) (by decide)
 have hch:=w6.check
 refine Z1 rfl rfl ?_
 refine Gr rfl ?_
 refine Rs 10 rfl rfl (ae call47 AU rfl) ?_
 iterate 6 refine A1 rfl ?_
 refine Z2 rfl rfl rfl ?_
 refine Rs 16 rfl rfl (ae call12 hbu rfl) ?_
 iterate 5 refine A1 rfl ?_
 refine Z2 rfl rfl rfl ?_
 refine Rs 22 rfl rfl (ae call13 hsi rfl) ?_
 iterate 5 refine A1 rfl ?_
 refine Z2 rfl rfl rfl ?_
 refine Rs 28 rfl rfl (aq none (by simp) uq rfl (by decide) (by decide) rfl rfl) ?_
 refine A1 rfl ?_
 refine Rs 30 rfl rfl (aq none (by simp) xi rfl (by decide) (by decide) rfl rfl) ?_
 refine A1 rfl ?_
 refine Rs 32 rfl rfl (ae call24 CD rfl) ?_
 iterate 5 refine A1 rfl ?_
 refine Z4 rfl rfl rfl rfl rfl ?_
 refine Rg 39 rfl rfl rfl (aq none (by simp) uq rfl (by decide) (by decide) rfl rfl) ?_
 refine A1 rfl ?_
 refine Rg 41 rfl rfl rfl (aq none (by simp) xi rfl (by decide) (by decide) rfl rfl) ?_
 refine Rg 42 rfl rfl rfl (ae call19 hro rfl) ?_
 iterate 7 refine A1 rfl ?_
 refine Rg 50 rfl rfl rfl (XJ.cast (v':= .pv (.bool true)) (cF rfl rfl rfl) (congrArg (fun b=>V.pv (.bool b)) (beq_self_eq_true _))) ?_
 iterate 12 refine A1 rfl ?_
 refine Rg 63 rfl rfl rfl (ag 0 underlying36 qk rfl rfl rfl (by decide) (by simp [dv,prD])) ?_
 refine Rg 64 rfl rfl rfl (ai (v:=bL []) ⟨_,underlying38,rfl⟩ rfl rfl) ?_
 iterate 6 refine A1 rfl ?_
 refine Rg 71 rfl rfl rfl (ae call36 hch rfl) ?_
 refine Y3 rfl rfl rfl ?_
 refine Gt rfl ?_
 exact ⟨_,_,rfl,rfl,rfl⟩
end
section
open Go.RowKit Mk Jn
set_option maxHeartbeats 4000000
theorem E4 {v:ByteArray} {kd:Int} (h:v∈gX kd):Zf v∧v.size≤10000:=by
 have hz:∀ l:List ByteArray,(∀ y∈l,y.data.toList.all (· !=0)=true∧y.size≤10000)→v∈l→Zf v∧v.size≤10000:=fun l hl hm=>⟨EN (hl v hm).1,(hl v hm).2⟩
 unfold gX at h
 split at h
 ·exact hz _ (by decide) h
 ·split at h
  ·exact hz _ (by decide) h
  ·exact hz _ (by decide) h
theorem GK {l:List Rw} {B:Int} (h:∀ x∈l,x.w≤B):o0 l≤B*l.length:=by
 unfold o0
 induction l with
 | nil=>simp
 | cons x l ih=>
   have h1:=h x (by simp)
   have h2:=ih fun y hy=>h y (by simp [hy])
   simp only [List.map_cons,List.sum_cons,List.length_cons]
   rw [Int.natCast_add,Int.mul_add]
   have:B*((1:Nat):Int)=B:=by simp
   omega
theorem nY {S:Sch} {A:List Int} (hk:∀ a∈S.attrs,a.2=1∨a.2=2∨a.2=3) (hA:∀ a∈A,0≤a∧a<S.attrs.length) {most:Nat} (hm:most≤20) {l:List Rw} (h:MdT S A most l):TblOk S A 1 l∧l.length≤most∧(∀ x∈l,∀ y∈x.v,Zf y∧y.size≤10000)∧∀ x∈l,x.w≤5*most:=by
 obtain ⟨l0,rfl,hl,hx⟩:=h
 have hp:∀ z∈l0,0<z.w:=fun z hz=>by have:=(hx z hz).1;omega
 have hs:=tU hp
 have ht:o0 l0≤5*l0.length:=GK fun x hx'=>(hx x hx').1.2
 have hmd:∀ x∈lH l0,MdV S A x.v:=fun x hx'=>by
  obtain ⟨z,hz,e⟩:=hs.val x hx'
  rw [e];exact (hx z hz).2
 have hw5:∀ x∈lH l0,x.w≤5*most:=fun x hx'=>by
  have h1:=zR (hs.pos hp) x hx'
  rw [hs.tot] at h1
  omega
 refine ⟨⟨fun x hx'=>⟨(hmd x hx').1,fun i h1 h2 nm=>?_,?_⟩,hs.asc⟩,Nat.le_trans hs.len hl,fun x hx' y hy=>?_,hw5⟩
 ·have hv:=(hmd x hx').2 i h1 h2
  have hr:=hA _ (List.getElem_mem h2)
  refine we nm _ _ ?_ hv
  have hlt:A[i].toNat<S.attrs.length:=by omega
  rw [mC hlt]
  exact hk _ (List.getElem_mem hlt)
 ·have h1:=hs.pos hp x hx'
  have h2:=hw5 x hx'
  omega
 ·obtain ⟨i,hi,rfl⟩:=List.mem_iff_getElem.1 hy
  have hm2:=hmd x hx'
  exact E4 (hm2.2 i hi (by rw [← hm2.1];exact hi))
theorem pe {S:Sch} (hB:SB S) (hc:cI S=0) (hS:SJn S) (hk:∀ a∈S.attrs,a.2=1∨a.2=2∨a.2=3) {most:Nat} (hm:most≤12) {d:List (List Rw)} (hd:d.length=S.rels.length) (ht:∀ i (h:i<d.length) (h2:i<S.rels.length),MdT S S.rels[i].2 most d[i]):DbOk S d where
 hB:=hB
 hc:=hc
 hS:=hS
 n:=hd
 l:=fun l hl=>by
  obtain ⟨i,hi,rfl⟩:=List.mem_iff_getElem.1 hl
  have:=(nY hk (hS.b _ (List.getElem_mem (show i<S.rels.length by omega))) (by omega) (ht i hi (by omega))).2.1
  omega
 t:=fun r h h2=>(nY hk (hS.b _ (List.getElem_mem h2)) (by omega) (ht r h h2)).1
 zf:=fun l hl=>by
  obtain ⟨i,hi,rfl⟩:=List.mem_iff_getElem.1 hl
  exact (nY hk (hS.b _ (List.getElem_mem (show i<S.rels.length by omega))) (by omega) (ht i hi (by omega))).2.2.1
def pdS:Sch:=⟨[(tA,1),(tB,2)],[(⟨#[114]⟩,[0]),(⟨#[113]⟩,[1])],[], -1⟩
def pdY:Sch:=⟨[(tA,1)],[(⟨#[114]⟩,[0]),(⟨#[113]⟩,[0])],[], -1⟩
theorem Hh:SB pdS:=⟨by decide,by decide,by decide,by decide,by decide,by decide⟩
theorem x7:cI pdS=0:=by kernel_rfl
theorem zj:SJn pdS:=zq (jF x7) (by decide) (by decide)
theorem Hf:SB pdY:=⟨by decide,by decide,by decide,by decide,by decide,by decide⟩
theorem Bd:cI pdY=0:=by kernel_rfl
theorem Ho:SJn pdY:=zq (jF Bd) (by decide) (by decide)
theorem Ak {S:Sch} {d:List (List Rw)} (h:DbOk S d) (hn:∀ r∈S.rels,r.2.Nodup):kJ (iL S (bf S d)):=fun p hp=>by
 unfold iL at hp
 obtain ⟨i,hi,rfl⟩:=List.mem_iff_getElem.1 hp
 rw [List.length_zip,List.length_map] at hi
 have h1:i<S.rels.length:=by omega
 have h2:i<(bf S d).length:=by omega
 have h3:i<d.length:=by rw [h.n];exact h1
 rw [List.getElem_zip,List.getElem_map]
 refine ⟨hn _ (List.getElem_mem h1),fun x hx=>?_,h.dist _ (List.getElem_mem h2)⟩
 rw [ur h3 h1 h2] at hx
 exact ((h.t i h3 h1).row x (List.mem_filter.1 hx).1).l
theorem my {S:Sch} {d:List (List Rw)} (h:DbOk S d) (hn:∀ r∈S.rels,r.2.Nodup):(joinL S d).length=(enR (iL S (bf S d)) fun _=>none).length:=by
 have hl:=qz h.n
 refine BX (sN h) (Ak h hn) (fun p hp=>?_) fun a ha=>?_
 ·unfold iL at hp
  have:=(List.of_mem_zip hp).1
  obtain ⟨r,hr,e⟩:=List.mem_map.1 this
  rw [← e]
  exact h.hS.b r hr
 ·obtain ⟨r,hr,ha2⟩:=h.val.use a ha
  obtain ⟨i,hi,rfl⟩:=List.mem_iff_getElem.1 hr
  refine ⟨(S.rels[i].2,(bf S d)[i]'(by omega)),?_,ha2⟩
  unfold iL
  rw [List.mem_iff_getElem]
  exact ⟨i,by rw [List.length_zip,List.length_map];omega,by rw [List.getElem_zip,List.getElem_map]⟩
theorem k6 {α:Type} {l:List α} {f:α→Nat} {c:Nat} (h:∀ x∈l,f x=c):(l.map f).sum=l.length*c:=by
 induction l with
 | nil=>simp
 | cons x l ih=>
   rw [List.map_cons,List.sum_cons,h x (by simp),ih fun y hy=>h y (by simp [hy]),List.length_cons,Nat.add_mul,Nat.one_mul,Nat.add_comm]
theorem uT {σ:Asg ByteArray} {a:Int} {v:List ByteArray} (hl:v.length=1):Ew σ [a] v=put σ a (v[0]'(by omega)):=by
 match v,hl with
 | [x],_=>rfl
theorem rK {σ:Asg ByteArray} {a:Int} {v:List ByteArray} (hl:v.length=1):agr [a] σ v=match σ a with | none=>true | some x=>decide (x=v[0]'(by omega)):=by
 match v,hl with
 | [x],_=>
   rw [pq]
   simp only [List.zip_cons_cons,List.zip_nil_right,List.all_cons,List.all_nil,Bool.and_true,agP,List.getElem_cons_zero]
   cases σ a<;>rfl
theorem Cq (r0 r1:List Rw) (h0:∀ x∈r0,x.v.length=1) (h1:∀ x∈r1,x.v.length=1):(enR [([0],r0),([1],r1)] fun _=>none).length=r0.length*r1.length:=by
 simp only [enR,List.length_flatMap]
 have hf:∀ (a:Int) (σ:Asg ByteArray) (r:List Rw),(∀ x∈r,x.v.length=1)→σ a=none→(r.filter fun x=>agr [a] σ x.v)=r:=fun a σ r h hs=>List.filter_eq_self.2 fun x hx=>by rw [rK (h x hx),hs]
 rw [hf 0 _ r0 h0 rfl]
 refine k6 fun x hx=>?_
 rw [hf 1 _ r1 h1 (by rw [uT (h0 x hx)];rfl)]
 exact (k6 (c:=1) fun _ _=>rfl).trans (Nat.mul_one _)
def v0 (x:Rw):ByteArray:=x.v.getD 0 eb
def eq2 (x y:Rw):Bool:=decide (v0 x=v0 y)&& !decide (v0 x=⟨#[]⟩)
theorem C0 (z0 z1:List Rw) (h0:∀ x∈z0,x.v.length=1) (h1:∀ x∈z1,x.v.length=1):
  (enR [([0],z0.filter fun x=> !decide (v0 x=⟨#[]⟩)),([0],z1.filter fun x=> !decide (v0 x=⟨#[]⟩))] fun _=>none).length=(z0.map fun x=>(z1.filter (eq2 x)).length).sum:=by
 simp only [enR,List.length_flatMap]
 have hv:∀ (x:Rw) (h:x.v.length=1),x.v[0]'(by omega)=v0 x:=fun x h=>by simp [v0,List.getD,h]
 have hf:((z0.filter fun x=> !decide (v0 x=⟨#[]⟩)).filter fun x=>agr [0] (fun _=>none) x.v)=z0.filter fun x=> !decide (v0 x=⟨#[]⟩):=List.filter_eq_self.2 fun x hx=>by rw [rK (h0 x (List.mem_filter.1 hx).1)]
 rw [hf]
 have hg:∀ x∈z0,(!decide (v0 x=⟨#[]⟩))=true→((((z1.filter fun x=> !decide (v0 x=⟨#[]⟩)).filter fun y=>agr [0] (Ew (fun _=>none) [0] x.v) y.v).map fun _=>1).sum)=(z1.filter (eq2 x)).length:=fun x hx hne=>by
  rw [k6 (c:=1) (fun _ _=>rfl),Nat.mul_one,List.filter_filter]
  congr 1
  refine List.filter_congr fun y hy=>?_
  rw [rK (h1 y hy),uT (h0 x hx),cG,hv x (h0 x hx),hv y (h1 y hy)]
  show (decide (v0 x=v0 y)&& !decide (v0 y=⟨#[]⟩))=eq2 x y
  unfold eq2
  by_cases e:v0 x=v0 y
  ·rw [e]
  ·simp [e]
 clear hf
 induction z0 with
 | nil=>rfl
 | cons x z0 ih=>
   have ih:=ih (fun y hy=>h0 y (by simp [hy])) (fun y hy=>hg y (by simp [hy]))
   rw [List.map_cons,List.sum_cons, ← ih]
   cases hne: !decide (v0 x=⟨#[]⟩) with
   | true=>
     rw [List.filter_cons,if_pos hne,List.map_cons,List.sum_cons]
     congr 1
     have:=hg x (by simp) hne
     simpa using this
   | false=>
     rw [List.filter_cons,if_neg (by rw [hne];decide)]
     have:(z1.filter (eq2 x))=[]:=by
      rw [List.filter_eq_nil_iff]
      intro y _
      unfold eq2
      rw [hne,Bool.and_false]
      decide
     rw [this,List.length_nil,Nat.zero_add]
end
section
set_option maxHeartbeats 4000000
def xd (l:List Nat):List PV:=l.map fun (n:Nat)=>PV.int .i64 (n:Int)
abbrev pli (l:List Nat):PV:= .sl none l.length (xd l)
abbrev bigC (z:Int):List PV:=[.bool (decide (z<0)),pli (aj z.natAbs)]
abbrev bigP (z:Int):PV:= .agg (bigC z)
theorem uF (l:List Nat):(xd l).length=l.length:=by simp [xd]
theorem Dq {l:List Nat} {k:Nat} (h:k<l.length):(xd l)[k*1]? =some (.int .i64 (lim l k:Int)):=by rw [gj h];simp [xd,h]
theorem FJ {l:List Nat} {k:Nat} (h:k<l.length):xd l≠[]:=fun e=>by have:=uF l;rw [e] at this;simp at this;omega
theorem limI_snoc (l:List Nat) (n:Nat):xd l++[.int .i64 (n:Int)]=xd (l++[n]):=by simp [xd]
attribute [simp] uF
theorem kQ {α:Type} (l:List α) (a:α):l.length+1=(l++[a]).length:=by simp
theorem CP (neg:Bool) (a:Nat):(sgn neg a).tmod 1000000000=sgn neg (a%1000000000):=by
 cases neg
 ·rfl
 ·show (-(a:Int)).tmod 1000000000= -((a%1000000000:Nat):Int)
  rw [Int.neg_tmod];rfl
theorem tx (neg:Bool) (a:Nat):(sgn neg a).tdiv 1000000000=sgn neg (a/1000000000):=by
 cases neg
 ·rfl
 ·show (-(a:Int)).tdiv 1000000000= -((a/1000000000:Nat):Int)
  rw [Int.neg_tdiv];rfl
theorem C1 (n:Int):sgn (decide (n<0)) n.natAbs=n:=by
 by_cases h:n<0
 ·rw [decide_eq_true h];simp [sgn];omega
 ·rw [decide_eq_false h];simp [sgn];omega
theorem Cz (n:Int) (h0: -9223372036854775808≤n) (h1:n≤9223372036854775807):FnP Tryz.prog 56 [.int .i64 n] (· =bigP n):=by
 refine FnP.ofC func56 rfl ntmps56 (by simp) fun m0 w0 F R0=>?_
 obtain ⟨neg,hneg⟩:∃ b,b=decide (n<0):=⟨_,rfl⟩
 have hsn:sgn neg n.natAbs=n:=by rw [hneg];exact C1 n
 refine Z1 rfl rfl ?_
 refine Z1 rfl rfl ?_
 refine Rs 6 rfl rfl (XJ.cast (v':= .pv (.bool neg)) (aQ rfl rfl rfl) (congrArg (fun b=>V.pv (.bool b)) hneg.symm)) ?_
 refine Y3 rfl rfl rfl ?_
 refine Im (St.er 1 1 2 1 3 rfl rfl rfl) ?_
 refine Gl rfl (st:=fun x_0:Nat×List Nat=>mkS [(0,.pv (.int .i64 (sgn neg x_0.1))),(2,.ptr 0 0),(3,.ptr 1 0)] [(0,.mix 100 [.pv (.bool false),.pv nS]),(1,.mix 100 [.pv (.bool neg),.gsl 2 1 x_0.2.length]),(2,.gro 3 (xd x_0.2))] 3)
  (I:=fun x_0=>x_0.2++aj x_0.1=aj n.natAbs∧x_0.1≤n.natAbs) (μ:=fun x_0=>x_0.1) (x0:=(n.natAbs,[])) (Io ⟨congrArg (fun i=>V.pv (.int .i64 i)) hsn.symm,rfl,rfl,trivial⟩ (aO rfl) rfl rfl) (⟨rfl,Nat.le_refl _⟩) ?_
 rintro ⟨a,l⟩ ⟨hla,hle⟩
 try simp only at hla hle ⊢
 refine Z2 rfl rfl rfl ?_
 refine Gc rfl rfl (fun hc9=>?_) (fun hc9=>?_)
 ·refine Il ?_
  repeat apply Iz
  refine AW.block ?_
  have ha0:a≠0:=fun e=>by rw [e] at hc9;cases neg<;>simp [sgn] at hc9
  refine Z1 rfl rfl ?_
  refine Rs 11 rfl rfl (XJ.cast (v':= .pv (.int .i64 (sgn neg (a%1000000000)))) (l8 rfl rfl (by decide)) (congrArg (fun i=>V.pv (.int .i64 i)) (CP neg a))) ?_
  refine A1 rfl ?_
  refine Z2 rfl rfl rfl ?_
  refine Gp rfl rfl (fun hc13=>?_) (fun hc13=>?_)
  ·refine Z1 rfl rfl ?_
   refine Rs 15 rfl rfl (XJ.cast (v':= .pv (.int .i64 ((a%1000000000:Nat):Int))) (EA rfl (by cases neg<;>simp [sgn]<;>omega) (by cases neg<;>simp [sgn]<;>omega)) (congrArg (fun i=>V.pv (.int .i64 i)) (by cases neg<;>simp [sgn] at hc13 ⊢ ;omega))) ?_
   refine A1 rfl ?_
   have hll:l.length≤1000000:=by
    have e1:=congrArg List.length hla
    rw [List.length_append] at e1
    have e2:(aj n.natAbs).length≤3:=bF.2 (by omega)
    omega
   refine Gr rfl ?_
   iterate 7 refine A1 rfl ?_
   refine Z1 rfl rfl ?_
   refine Rs 23 rfl rfl (XJ.cast (v':= .pv (.int .i64 (sgn neg (a/1000000000)))) (qe rfl rfl (by decide)) (congrArg (fun i=>V.pv (.int .i64 i)) (by rw [tx,eT];cases neg<;>simp [sgn]<;>omega))) ?_
   refine A1 rfl ?_
   exact ⟨(a/1000000000,l++[a%1000000000]),Ip [0,1,4] (aT rfl) ⟨rfl,Eq.trans (b:=some (.mix 100 [.pv (.bool neg),.gsl 4 1 (l.length+1)])) (by kernel_rfl) (congrArg (fun n=>some (Ob.mix 100 [.pv (.bool neg),.gsl 4 1 n])) (kQ l _)),congrArg (fun c=>some (Ob.gro 3 c)) (limI_snoc _ _),trivial⟩ rfl rfl (by decide) rfl,⟨by rw [← hla,cj ha0];simp,by omega⟩,by omega⟩
  ·have hd:sgn neg (a%1000000000)=((a%1000000000:Nat):Int):=by cases neg<;>simp [sgn] at hc13 ⊢ ;omega
   refine Il ?_
   have hll:l.length≤1000000:=by
    have e1:=congrArg List.length hla
    rw [List.length_append] at e1
    have e2:(aj n.natAbs).length≤3:=bF.2 (by omega)
    omega
   refine Z2 rfl rfl rfl ?_
   refine Rs 18 rfl rfl (XJ.cast (v':= .pv (.int .i64 ((a%1000000000:Nat):Int))) iZ (congrArg (fun i=>V.pv (.int .i64 i)) hd)) ?_
   iterate 4 refine A1 rfl ?_
   refine Z1 rfl rfl ?_
   refine Rs 23 rfl rfl (XJ.cast (v':= .pv (.int .i64 (sgn neg (a/1000000000)))) (qe rfl rfl (by decide)) (congrArg (fun i=>V.pv (.int .i64 i)) (by rw [tx,eT];cases neg<;>simp [sgn]<;>omega))) ?_
   refine A1 rfl ?_
   exact ⟨(a/1000000000,l++[a%1000000000]),Ip [0,1,4] (aT rfl) ⟨rfl,Eq.trans (b:=some (.mix 100 [.pv (.bool neg),.gsl 4 1 (l.length+1)])) (by kernel_rfl) (congrArg (fun n=>some (Ob.mix 100 [.pv (.bool neg),.gsl 4 1 n])) (kQ l _)),congrArg (fun c=>some (Ob.gro 3 c)) (limI_snoc _ _),trivial⟩ rfl rfl (by decide) rfl,⟨by rw [← hla,cj ha0];simp,by omega⟩,by omega⟩
 ·refine Gx rfl ?_
  have ha0:a=0:=by cases neg<;>simp [sgn] at hc9<;>omega
  rw [ha0,aV,List.append_nil] at hla
  refine Im (Ir 2 rfl rfl) ?_
  refine Z2 rfl rfl rfl ?_
  refine Gt rfl ?_
  exact ⟨_,_,rfl,rfl,⟨aY ⟨_,underlying100,rfl⟩ sz100 rfl rfl rfl,trivial⟩,by rw [hla,hneg];rfl⟩
end
section
set_option maxHeartbeats 4000000
def intI (l:List Int):List PV:=l.map fun (n:Int)=>PV.int .i64 n
theorem IA (l:List Int):(intI l).length=l.length:=by simp [intI]
theorem intI_nat (l:List Nat):xd l=intI (l.map Int.ofNat):=by simp [intI,xd]
attribute [simp] IA
end
section
set_option maxHeartbeats 4000000
theorem tdivN {a b:Nat} (h:a≤9223372036854775807):IntKind.i64.wrap ((a:Int).tdiv (b:Int))=((a/b:Nat):Int):=by
 have e:(a:Int).tdiv (b:Int)=((a/b:Nat):Int):=rfl
 have h2:=Nat.div_le_self a b
 rw [e]
 generalize a/b=c at*
 rw [eT (by omega)]
end
section
set_option maxHeartbeats 4000000
def o7 (n:Nat):Nat:=(Lib.decDigits n).length
theorem fe {n:Nat} (h:10≤n):o7 n=o7 (n/10)+1:=by
 rw [o7,o7,Lib.decDigits,dif_neg (by omega)];simp
theorem dx {n:Nat} (h:n<10):o7 n=1:=by rw [o7,Lib.decDigits,dif_pos h];rfl
theorem AK {n k:Nat} (hk:0<k) (h:n<10^k):o7 n≤k:=by
 induction k generalizing n with
 | zero=>omega
 | succ k ih=>
   by_cases h2:n<10
   ·rw [dx h2];omega
   ·rw [fe (by omega)]
    have hk0:0<k:=by
     rcases Nat.eq_zero_or_pos k with e | e
     ·subst e;simp at h;omega
     ·exact e
    have:=ih hk0 (n:=n/10) (by rw [Nat.div_lt_iff_lt_mul (by decide)];rw [Nat.pow_succ] at h;exact h)
    omega
theorem tdivP {a b:Nat} (h:a≤9223372036854775807):IntKind.i64.wrap ((a:Int).tdiv (b:Int))=((a/b:Nat):Int):=tdivN h
end
section
open Go.RowKit Mk
set_option maxHeartbeats 4000000
def leD:Nat→Nat→List UInt8
 | 0,_=>[]
 | k+1,n=>UInt8.ofNat (48+n%10)::leD k (n/10)
theorem leD_len:∀ (k n:Nat),(leD k n).length=k
 | 0,_=>rfl
 | k+1,n=>by simp [leD,leD_len k]
attribute [simp] leD_len
theorem rJ:∀ (a b n:Nat),leD (a+b) n=leD a n++leD b (n/10^a)
 | 0,b,n=>by simp [leD]
 | a+1,b,n=>by
   rw [show a+1+b=(a+b)+1 by omega,leD,leD,rJ a b,List.cons_append,Nat.div_div_eq_div_mul,Nat.pow_succ,Nat.mul_comm 10]
theorem xJ:∀ (k m n:Nat),k≤m→leD k (n%10^m)=leD k n
 | 0,_,_,_=>rfl
 | k+1,0,_,h=>by omega
 | k+1,m+1,n,h=>by
   have e1:n%10^(m+1)%10=n%10:=Nat.mod_mod_of_dvd _ ⟨10^m,by rw [Nat.pow_succ,Nat.mul_comm]⟩
   have e2:n%10^(m+1)/10=n/10%10^m:=by rw [Nat.pow_succ,Nat.mul_comm];exact Nat.mod_mul_right_div_self n 10 (10^m)
   rw [leD,leD,e1,e2,xJ k m _ (by omega)]
theorem vt:∀ k,leD k 0=List.replicate k 48
 | 0=>rfl
 | k+1=>by rw [leD,Nat.zero_mod,Nat.zero_div,vt k];rfl
theorem F8 {n k:Nat} (hk:o7 n≤k):leD k n=(Lib.decDigits n).reverse++List.replicate (k-o7 n) 48:=by
 induction n using Nat.strongRecOn generalizing k with
 | ind n ih=>
   by_cases h:n<10
   ·obtain ⟨j,rfl⟩:∃ j,k=j+1:=⟨k-1,by rw [dx h] at hk;omega⟩
    rw [dx h,leD,Nat.mod_eq_of_lt h,Nat.div_eq_of_lt h,vt,Lib.decDigits,dif_pos h];rfl
   ·rw [fe (by omega)] at hk
    obtain ⟨j,rfl⟩:∃ j,k=j+1:=⟨k-1,by omega⟩
    have e2:Lib.decDigits n=Lib.decDigits (n/10)++[UInt8.ofNat (48+n%10)]:=by
     conv=>lhs;rw [Lib.decDigits]
     rw [dif_neg h]
    rw [leD,ih (n/10) (by omega) (by omega),fe (n:=n) (by omega),e2,List.reverse_append]
    simp
theorem CG {n:Nat} (h:n≠0):(Lib.decDigits n).reverse.getD (o7 n-1) 0≠48:=by
 induction n using Nat.strongRecOn with
 | ind n ih=>
   by_cases h2:n<10
   ·rw [dx h2,Lib.decDigits,dif_pos h2]
    simp only [Nat.sub_self,List.reverse_singleton,List.getD_cons_zero]
    intro e
    have:=congrArg UInt8.toNat e
    simp at this
    omega
   ·have:=ih (n/10) (by omega) (by omega)
    rw [fe (by omega),Lib.decDigits,dif_neg h2,List.reverse_append]
    have hp:0<o7 (n/10):=by
     by_cases h3:n/10<10
     ·rw [dx h3];decide
     ·rw [fe (by omega)];omega
    obtain ⟨j,hj⟩:∃ j,o7 (n/10)=j+1:=⟨_,(Nat.succ_pred_eq_of_pos hp).symm⟩
    rw [hj] at this ⊢
    simpa using this
theorem vG (n:Nat):o7 n≤9*(aj n).length+1:=by
 by_cases h:n=0
 ·subst h;rw [dx (by decide)];omega
 ·have hl:=gM n
  rw [show (1000000000:Nat)=10^9 from rfl, ← Nat.pow_mul] at hl
  by_cases h0:(aj n).length=0
  ·exact absurd (cU.1 h0) h
  ·have:=AK (by omega) hl;omega
theorem ry {n:Nat} (h:n≠0):o7 n≤9*(aj n).length:=by
 have hl:=gM n
 rw [show (1000000000:Nat)=10^9 from rfl, ← Nat.pow_mul] at hl
 by_cases h0:(aj n).length=0
 ·exact absurd (cU.1 h0) h
 ·exact AK (by omega) hl
theorem Df (n i:Nat):leD (9*(i+1)) n=leD (9*i) n++leD 9 (lim (aj n) i):=by
 rw [show 9*(i+1)=9*i+9 by omega,rJ,gA]
 congr 1
 rw [show (1000000000:Nat)=10^9 from rfl, ← Nat.pow_mul,xJ 9 9 _ (Nat.le_refl _)]
theorem C4 (k d:Nat):leD (k+1) d=leD k d++[UInt8.ofNat (48+d/10^k%10)]:=by
 rw [rJ k 1];rfl
structure Rev (E e:List UInt8) (i:Nat):Prop where
 len:e.length=E.length
 ile:2*i≤E.length+1
 at_:∀ j,j<E.length→e.getD j 0=if j<i∨E.length-i≤j then E.getD (E.length-1-j) 0 else E.getD j 0
theorem rev_zero (E:List UInt8):Rev E E 0:=⟨rfl,by omega,fun j hj=>by rw [if_neg (by omega)]⟩
theorem qT {l:List UInt8} {k i:Nat} {x:UInt8} (hk:k<l.length):(l.set k x).getD i 0=if i=k then x else l.getD i 0:=by
 simp only [List.getD,List.getElem?_set]
 by_cases h:i=k
 ·subst h;simp [hk]
 ·rw [if_neg (fun e=>h e.symm),if_neg h]
theorem tH {E e:List UInt8} {i:Nat} (h:Rev E e i) (hi:i<E.length-1-i):Rev E ((e.set i (e.getD (E.length-1-i) 0)).set (E.length-1-i) (e.getD i 0)) (i+1):=by
 have hl:=h.len
 refine ⟨by simp [hl],by omega,fun j hj=>?_⟩
 have a1:e.getD i 0=E.getD i 0:=by rw [h.at_ i (by omega),if_neg (by omega)]
 have a2:e.getD (E.length-1-i) 0=E.getD (E.length-1-i) 0:=by rw [h.at_ _ (by omega),if_neg (by omega)]
 rw [qT (by simp;omega),qT (by omega),a1,a2]
 by_cases h1:j=E.length-1-i
 ·rw [if_pos h1,if_pos (by omega)];congr 1;omega
 ·rw [if_neg h1]
  by_cases h2:j=i
  ·rw [if_pos h2,if_pos (by omega)];congr 1;omega
  ·rw [if_neg h2,h.at_ j hj]
   by_cases h3:j<i∨E.length-i≤j
   ·rw [if_pos h3,if_pos (by omega)]
   ·rw [if_neg h3,if_neg (by omega)]
theorem zk {E e:List UInt8} {i:Nat} (h:Rev E e i) (hi:E.length≤2*i+1):e=E.reverse:=by
 have hl:=h.len
 refine List.ext_getElem (by simp [hl]) fun j h1 h2=>?_
 have hj:j<E.length:=by omega
 have e1:=h.at_ j hj
 rw [List.getElem_reverse]
 have e2:e.getD j 0=e[j]:=by simp [List.getD,h1]
 have e3:E.getD (E.length-1-j) 0=E[E.length-1-j]:=by simp [List.getD,show E.length-1-j<E.length by omega]
 rw [← e2,e1, ← e3]
 split
 ·rfl
 ·congr 1;omega
theorem sg (l:List UInt8) (d:Nat) (hd:d<10):az l++[.int .u8 ((48:Int)+(d:Int))]=az (l++[UInt8.ofNat (48+d)]):=by
 simp only [az,List.map_append,List.map_cons,List.map_nil]
 congr 3
 have:(UInt8.ofNat (48+d)).toNat=48+d:=by simp;omega
 rw [this];rfl
theorem bytesP_len (l:List UInt8):(az l).length=l.length:=by simp [az]
attribute [simp] bytesP_len
theorem so (l:List UInt8) (k:Nat):(az l).take k=az (l.take k):=by simp [az,List.map_take]
theorem fI (l:List UInt8) (k:Nat) (x:UInt8):(az l).set k (.int .u8 (x.toNat:Int))=az (l.set k x):=by simp [az,List.map_set]
theorem eF {l:List UInt8} {k:Nat} (h:k<l.length):(az l)[k*1]? =some (.int .u8 ((l.getD k 0).toNat:Int)):=by rw [kp h];simp [List.getD,h]
theorem xT (z:Int):Lib.itoa z=(if z<0 then [45] else [])++Lib.decDigits z.natAbs:=by
 unfold Lib.itoa
 split
 ·rfl
 ·rw [show z.toNat=z.natAbs by omega];rfl
theorem xV:Lib.itoa 0=[48]:=by
 rw [xT,if_neg (by decide),Int.natAbs_zero,Lib.decDigits,dif_pos (by decide)];rfl
theorem u8_48 (x:UInt8):(((x.toNat:Nat):Int)==48)=true↔x=48:=by
 rw [beq_iff_eq]
 constructor
 ·intro h;exact UInt8.toNat_inj.1 (show x.toNat=(48:UInt8).toNat from Int.ofNat_inj.1 h)
 ·intro h;rw [h];rfl
theorem vR (z:Int) (hl:(aj z.natAbs).length≤1000000):FnP Tryz.prog 57 [bigP z] (· = .str ⟨(Lib.itoa z).toArray⟩):=by
 refine FnP.of func57 rfl ntmps57 (by simp) fun m0 w0 F R0=>?_
 obtain ⟨n,hn⟩:∃ n,n=z.natAbs:=⟨_,rfl⟩
 refine Z2 rfl rfl rfl ?_
 refine Z4 rfl rfl rfl rfl rfl ?_
 refine Gc rfl rfl (fun hc12=>?_) (fun hc12=>?_)
 ·refine Z1 rfl rfl ?_
  refine Gt rfl ?_
  have h0:=cU.1 (show (aj z.natAbs).length=0 by have:=Be hc12;omega)
  have hz:z=0:=by omega
  exact ⟨_,_,rfl,rfl,by rw [hz,xV];rfl⟩
 ·have hl0:0<(aj z.natAbs).length:=by have:=sS hc12;omega
  have hn0:z.natAbs≠0:=fun e=>by rw [e,aV] at hl0;simp at hl0
  refine Il ?_
  refine Z1 rfl rfl ?_
  refine Im (Iu 3 1 1 5 rfl rfl) ?_
  refine Z1 rfl rfl ?_
  refine Gl rfl (st:=fun x_0:Nat×List UInt8=>mkS [(1,.ptr 0 0),(3,.gsl 1 1 x_0.2.length),(4,.pv (.int .i64 x_0.1))] [(0,.mix 100 [.pv (.bool (decide (z<0))),.pv (pli (aj z.natAbs))]),(1,.gro 5 (az x_0.2))] 2)
   (I:=fun x_0=>x_0.1≤(aj z.natAbs).length∧x_0.2=leD (9*x_0.1) z.natAbs) (μ:=fun x_0=>(aj z.natAbs).length-x_0.1) (x0:=(0,[])) (Io (aS rfl) (aO rfl) rfl rfl) (⟨Nat.zero_le _,rfl⟩) ?_
  rintro ⟨i,l⟩ ⟨hi,hll⟩
  try simp only at hi hll ⊢
  refine Gr rfl ?_
  iterate 5 refine A1 rfl ?_
  refine Gp rfl rfl (fun hc17=>?_) (fun hc17=>?_)
  ·have hil:i<(aj z.natAbs).length:=by omega
   have hv:=Dq hil
   have hne:=FJ hil
   have hbd:=jc (c7 z.natAbs) i
   have hst:=Df z.natAbs i
   have hlen:l.length=9*i:=by rw [hll,leD_len]
   rw [← hll] at hst
   clear hll
   refine Il ?_
   repeat apply Iz
   refine AW.block ?_
   generalize lim (aj z.natAbs) i=d at*
   refine Z4 rfl rfl rfl rfl rfl ?_
   first | refine A2 rfl (by assumption) ?_ | refine A1 rfl ?_
   refine A1 rfl ?_
   refine Z1 rfl rfl ?_
   refine Gl rfl (st:=fun x_1:Nat×List UInt8=>mkS [(1,.ptr 0 0),(3,.gsl 1 1 x_1.2.length),(4,.pv (.int .i64 i)),(5,.pv (.int .i64 ((d/10^x_1.1:Nat):Int))),(6,.pv (.int .i64 x_1.1))] [(0,.mix 100 [.pv (.bool (decide (z<0))),.pv (pli (aj z.natAbs))]),(1,.gro 5 (az x_1.2))] 2)
    (I:=fun x_1=>x_1.1≤9∧x_1.2=l++leD x_1.1 d) (μ:=fun x_1=>9-x_1.1) (x0:=(0,l)) (Io ⟨rfl,rfl,rfl,congrArg (fun n:Nat=>V.pv (.int .i64 n)) (by simp),rfl,trivial⟩ (aO rfl) rfl rfl) (⟨Nat.zero_le _,by simp [leD]⟩) ?_
   rintro ⟨k,m⟩ ⟨hk,hm⟩
   try simp only at hk hm ⊢
   refine Z2 rfl rfl rfl ?_
   refine Gp rfl rfl (fun hc26=>?_) (fun hc26=>?_)
   ·have hmlen:m.length=9*i+k:=by rw [hm];simp;omega
    have hs2:=C4 k d
    have hq:d/10^k≤d:=Nat.div_le_self _ _
    have hq2:d/10^(k+1)=d/10^k/10:=by rw [Nat.pow_succ,Nat.div_div_eq_div_mul]
    have hs3:m++[UInt8.ofNat (48+d/10^k%10)]=l++leD (k+1) d:=by rw [hs2,hm,List.append_assoc]
    have hmod:d/10^k%10<10:=Nat.mod_lt _ (by decide)
    have hbs:=sg m (d/10^k%10) hmod
    clear hm hs2
    refine Il ?_
    repeat apply Iz
    refine AW.block ?_
    generalize d/10^k=c at*
    refine Z2 rfl rfl rfl ?_
    refine Rs 31 rfl rfl (XJ.cast (v':= .pv (.int .i64 ((c%10:Nat):Int))) (l8 rfl rfl (by decide)) rfl) ?_
    refine A1 rfl ?_
    refine Rs 33 rfl rfl (XJ.cast (v':= .pv (.int .u8 ((48:Int)+((c%10:Nat):Int)))) (en underlying3 underlying5 rfl) (congrArg (fun i=>V.pv (.int .u8 i)) (by show ((48:Int)+((c%10:Nat):Int))%256=_;omega))) ?_
    refine Y3 rfl rfl rfl ?_
    refine Z1 rfl rfl ?_
    refine Rs 37 rfl rfl (XJ.cast (v':= .pv (.int .i64 ((c/10:Nat):Int))) (qe rfl rfl (by decide)) (congrArg (fun i=>V.pv (.int .i64 i)) (tdivP (b:=10) (by omega)))) ?_
    refine A1 rfl ?_
    refine Z3 rfl rfl rfl rfl ?_
    exact ⟨(k+1,m++[UInt8.ofNat (48+c%10)]),Ip [0,3] ⟨rfl,Eq.trans (b:= .gsl 3 1 (m.length+1)) rfl (congrArg (V.gsl 3 1) (kQ m _)),rfl,congrArg (fun n:Nat=>V.pv (.int .i64 n)) hq2.symm,rfl,trivial⟩ ⟨rfl,congrArg (fun c=>some (Ob.gro 5 c)) hbs,trivial⟩ rfl rfl (by decide) rfl,⟨by omega,hs3⟩,by omega⟩
   ·have hk9:k=9:=by omega
    rw [hk9, ← hst] at hm
    refine Gx rfl ?_
    refine Z3 rfl rfl rfl rfl ?_
    exact ⟨(i+1,m),Io (aS rfl) (aO rfl) rfl rfl,⟨by omega,hm⟩,by omega⟩
  ·have hie:i=(aj z.natAbs).length:=by omega
   rw [hie,F8 (ry hn0)] at hll
   have hlast:=CG hn0
   have hDl:(Lib.decDigits z.natAbs).reverse.length=o7 z.natAbs:=by simp [o7]
   have hDp:0<o7 z.natAbs:=by unfold o7;rw [Lib.decDigits];split<;>simp
   have hit:=xT z
   have hdl:=vG z.natAbs
   have hD:∃ D,D=(Lib.decDigits z.natAbs).reverse:=⟨_,rfl⟩
   obtain ⟨D,hD⟩:=hD
   rw [← hD] at hll hlast hDl
   have hDr:Lib.decDigits z.natAbs=D.reverse:=by rw [hD,List.reverse_reverse]
   rw [hDr] at hit
   clear hD hDr
   rw [← hDl] at hlast hDp
   have hlD:l.take D.length=D:=by rw [hll];simp
   have hge:D.length≤l.length:=by rw [hll];simp
   have hlge:∀ j,D.length≤j→j<l.length→l.getD j 0=48:=fun j h1 h2=>by
    rw [hll] at h2 ⊢
    simp at h2
    simp only [List.getD,List.getElem?_append_right h1,List.getElem?_replicate]
    rw [if_pos (by omega)];rfl
   have hlt:l.getD (D.length-1) 0≠48:=by
    rw [hll]
    simp only [List.getD,List.getElem?_append_left (show D.length-1<D.length by omega)]
    simpa [List.getD] using hlast
   have hllen:l.length≤9000001:=by
    have:=congrArg List.length hll
    simp at this
    omega
   clear hll hlast
   refine Im (St.ku 3 rfl rfl (by omega) (jZ (k:=0) (by omega))) ?_
   refine Gx rfl ?_
   refine Gl rfl (st:=fun x_2:Nat=>mkS [(1,.ptr 0 0),(3,.osl 1 1 x_2)] [(0,.mix 100 [.pv (.bool (decide (z<0))),.pv (pli (aj z.natAbs))]),(1,.cells 5 (az l))] 2)
    (I:=fun x_2=>D.length≤x_2∧x_2≤l.length) (μ:=fun x_2=>x_2) (x0:=(l.length)) (Io (aS rfl) (aO rfl) rfl rfl) (⟨hge,Nat.le_refl _⟩) ?_
   rintro k ⟨hk1,hk2⟩
   have hkl:k-1<l.length:=by omega
   have hvk:=eF hkl
   have h48:=u8_48 (l.getD (k-1) 0)
   have hgek:=hlge (k-1)
   have heq:k=D.length→l.getD (k-1) 0≠48:=fun e=>by rw [e];exact hlt
   generalize l.getD (k-1) 0=ck at*
   refine Z4 rfl rfl rfl rfl rfl ?_
   refine Rs 42 rfl rfl (aa (k-1) underlying163 sz5 rfl rfl rfl (by omega) (by omega)) ?_
   first | refine A2 rfl (by assumption) ?_ | refine A1 rfl ?_
   refine A1 rfl ?_
   refine Gc rfl rfl (fun hc44=>?_) (fun hc44=>?_)
   ·have hk3:D.length≤k-1:=by have h1:=h48.1 hc44;rcases Nat.lt_or_ge (k-1) D.length with e | e;exact absurd h1 (heq (by omega));exact e
    refine Il ?_
    refine Z4 rfl rfl rfl rfl rfl ?_
    refine Rs 49 rfl rfl (dC (k-1) underlying163 sz5 rfl rfl rfl (by omega) (by omega)) ?_
    refine A1 rfl ?_
    exact ⟨(k-1),Io (aS rfl) (aO rfl) rfl rfl,⟨hk3,by omega⟩,by omega⟩
   ·have hk3:k=D.length:=by
     apply Decidable.byContradiction
     intro hne
     have:=h48.2 (hgek (by omega) hkl)
     rw [hc44] at this
     cases this
    refine Gx rfl ?_
    refine Im (St.FE (vs:=az D) 1 k (by rfl) (by rw [so,hk3,hlD])) ?_
    rw [hk3]
    refine Z2 rfl rfl rfl ?_
    refine Gc rfl rfl (fun hc51=>?_) (fun hc51=>?_)
    ·have hE:∃ E,E=D++[45]:=⟨_,rfl⟩
     obtain ⟨E,hE⟩:=hE
     have hEr:Lib.itoa z=E.reverse:=by rw [hit,if_pos (by simpa using hc51),hE];simp
     have hEl:E.length=D.length+1:=by rw [hE];simp
     refine Z2 rfl rfl rfl ?_
     refine Rs 54 rfl rfl (l7 3 F4 rfl rfl (by simp) rfl rfl rfl rfl (by omega) rfl) ?_
     refine A1 rfl ?_
     rw [show az D++[PV.int .u8 45]=az E by rw [hE];simp [az], ← hEl]
     refine Gr rfl ?_
     iterate 5 refine A1 rfl ?_
     refine Gl rfl (st:=fun x_3:Nat×List UInt8=>mkS [(3,.osl 1 1 x_3.2.length),(7,.pv (.int .i64 x_3.1)),(8,.pv (.int .i64 ((x_3.2.length:Int)-1-x_3.1)))] [(1,.cells 5 (az x_3.2))] 2)
      (I:=fun x_3=>Rev E x_3.2 x_3.1) (μ:=fun x_3=>x_3.2.length-x_3.1) (x0:=(0,E)) (Ip [0,3] ⟨rfl,rfl,congrArg (fun i=>V.pv (.int .i64 i)) (by simp),trivial⟩ (aP rfl) rfl rfl (by decide) rfl) (rev_zero E) ?_
     rintro ⟨i,e⟩ hR
     try simp only at hR ⊢
     refine Z3 rfl rfl rfl rfl ?_
     refine Gp rfl rfl (fun hc60=>?_) (fun hc60=>?_)
     ·have hel:=hR.len
      have hi1:i<e.length:=by omega
      have hk1:e.length-1-i<e.length:=by omega
      have hvi:=eF hi1
      have hvk:=eF hk1
      have hst:=tH hR (by omega)
      rw [← hel] at hst
      have hset:((az e).set (i*1) (.int .u8 ((e.getD (e.length-1-i) 0).toNat:Int))).set ((e.length-1-i)*1) (.int .u8 ((e.getD i 0).toNat:Int))=az ((e.set i (e.getD (e.length-1-i) 0)).set (e.length-1-i) (e.getD i 0)):=by rw [Nat.mul_one,Nat.mul_one,fI,fI]
      have hln:((e.set i (e.getD (e.length-1-i) 0)).set (e.length-1-i) (e.getD i 0)).length=e.length:=by simp
      clear hR
      refine Il ?_
      repeat apply Iz
      refine AW.block ?_
      generalize (e.set i (e.getD (e.length-1-i) 0)).set (e.length-1-i) (e.getD i 0)=e2 at*
      generalize e.getD (e.length-1-i) 0=ck at*
      generalize e.getD i 0=ci at*
      refine Ge rfl follows [0,1,2,3,4,5,6,7,8,9,10,11,12,13,14,15] (by kernel_rfl) ?_
      iterate 6 refine D1 rfl rfl ?_
      refine Ds 71 [_] rfl rfl rfl (fun τ h=>aa (e.length-1-i) underlying163 sz5 (Ee h 0 rfl rfl) (Eo h 0 rfl rfl) (Ee h 1 rfl rfl) (by omega) hk1) rfl (by kernel_rfl) ?_
      first | refine D2 rfl rfl (by assumption) ?_ | refine D1 rfl rfl ?_
      iterate 2 refine D1 rfl rfl ?_
      refine Ds 75 [_] rfl rfl rfl (fun τ h=>aa i underlying163 sz5 (Ee h 0 rfl rfl) (Eo h 0 rfl rfl) (Ee h 1 rfl rfl) rfl hi1) rfl (by kernel_rfl) ?_
      first | refine D2 rfl rfl (by assumption) ?_ | refine D1 rfl rfl ?_
      refine Ds 77 [_] rfl rfl rfl (fun τ h=>aa i underlying163 sz5 (Ee h 0 rfl rfl) (Eo h 0 rfl rfl) (Ee h 1 rfl rfl) rfl hi1) rfl (by kernel_rfl) ?_
      refine D1 rfl rfl ?_
      refine Ds 78 [_] rfl rfl rfl (fun τ h=>aa (e.length-1-i) underlying163 sz5 (Ee h 0 rfl rfl) (Eo h 0 rfl rfl) (Ee h 1 rfl rfl) (by omega) hk1) rfl (by kernel_rfl) ?_
      refine D1 rfl rfl ?_
      refine ⟨by kernel_rfl,?_⟩
      refine Gr rfl ?_
      iterate 6 refine A1 rfl ?_
      exact ⟨(i+1,e2),Io ⟨congrArg (V.osl 1 1) hln.symm,rfl,congrArg (fun i:Int=>V.pv (PV.int .i64 i)) (show (e.length:Int)-1-i-1=(e2.length:Int)-1-((i+1:Nat):Int) by omega),trivial⟩ ⟨congrArg (fun c=>some (Ob.cells 5 c)) hset,trivial⟩ rfl rfl,hst,by show e2.length-(i+1)<e.length-i;omega⟩
     ·have hel:=hR.len
      have hev:=zk hR (by omega)
      refine Gx rfl ?_
      refine Z1 rfl rfl ?_
      refine Rs 80 rfl rfl (EC e underlying163 underlying5 underlying9 (.inr ⟨_,_,_,_,rfl,rfl,(by rw [Nat.mul_one];exact (List.take_of_length_le (by simp)).symm)⟩)) ?_
      refine A1 rfl ?_
      refine Gt rfl ?_
      exact ⟨_,_,rfl,rfl,by rw [hEr, ← hev];rfl⟩
    ·have hE:∃ E,E=D:=⟨_,rfl⟩
     obtain ⟨E,hE⟩:=hE
     have hEr:Lib.itoa z=E.reverse:=by rw [hit,if_neg (by simpa using hc51),hE];simp
     have hEl:E.length≤D.length+1:=by rw [hE];omega
     rw [← hE]
     refine Il ?_
     refine Gr rfl ?_
     iterate 5 refine A1 rfl ?_
     refine Gl rfl (st:=fun x_3:Nat×List UInt8=>mkS [(3,.osl 1 1 x_3.2.length),(7,.pv (.int .i64 x_3.1)),(8,.pv (.int .i64 ((x_3.2.length:Int)-1-x_3.1)))] [(1,.cells 5 (az x_3.2))] 2)
      (I:=fun x_3=>Rev E x_3.2 x_3.1) (μ:=fun x_3=>x_3.2.length-x_3.1) (x0:=(0,E)) (Io ⟨rfl,rfl,congrArg (fun i=>V.pv (.int .i64 i)) (by simp),trivial⟩ (aO rfl) rfl rfl) (rev_zero E) ?_
     rintro ⟨i,e⟩ hR
     try simp only at hR ⊢
     refine Z3 rfl rfl rfl rfl ?_
     refine Gp rfl rfl (fun hc60=>?_) (fun hc60=>?_)
     ·have hel:=hR.len
      have hi1:i<e.length:=by omega
      have hk1:e.length-1-i<e.length:=by omega
      have hvi:=eF hi1
      have hvk:=eF hk1
      have hst:=tH hR (by omega)
      rw [← hel] at hst
      have hset:((az e).set (i*1) (.int .u8 ((e.getD (e.length-1-i) 0).toNat:Int))).set ((e.length-1-i)*1) (.int .u8 ((e.getD i 0).toNat:Int))=az ((e.set i (e.getD (e.length-1-i) 0)).set (e.length-1-i) (e.getD i 0)):=by rw [Nat.mul_one,Nat.mul_one,fI,fI]
      have hln:((e.set i (e.getD (e.length-1-i) 0)).set (e.length-1-i) (e.getD i 0)).length=e.length:=by simp
      clear hR
      refine Il ?_
      repeat apply Iz
      refine AW.block ?_
      generalize (e.set i (e.getD (e.length-1-i) 0)).set (e.length-1-i) (e.getD i 0)=e2 at*
      generalize e.getD (e.length-1-i) 0=ck at*
      generalize e.getD i 0=ci at*
      refine Ge rfl follows [0,1,2,3,4,5,6,7,8,9,10,11,12,13,14,15] (by kernel_rfl) ?_
      iterate 6 refine D1 rfl rfl ?_
      refine Ds 71 [_] rfl rfl rfl (fun τ h=>aa (e.length-1-i) underlying163 sz5 (Ee h 0 rfl rfl) (Eo h 0 rfl rfl) (Ee h 1 rfl rfl) (by omega) hk1) rfl (by kernel_rfl) ?_
      first | refine D2 rfl rfl (by assumption) ?_ | refine D1 rfl rfl ?_
      iterate 2 refine D1 rfl rfl ?_
      refine Ds 75 [_] rfl rfl rfl (fun τ h=>aa i underlying163 sz5 (Ee h 0 rfl rfl) (Eo h 0 rfl rfl) (Ee h 1 rfl rfl) rfl hi1) rfl (by kernel_rfl) ?_
      first | refine D2 rfl rfl (by assumption) ?_ | refine D1 rfl rfl ?_
      refine Ds 77 [_] rfl rfl rfl (fun τ h=>aa i underlying163 sz5 (Ee h 0 rfl rfl) (Eo h 0 rfl rfl) (Ee h 1 rfl rfl) rfl hi1) rfl (by kernel_rfl) ?_
      refine D1 rfl rfl ?_
      refine Ds 78 [_] rfl rfl rfl (fun τ h=>aa (e.length-1-i) underlying163 sz5 (Ee h 0 rfl rfl) (Eo h 0 rfl rfl) (Ee h 1 rfl rfl) (by omega) hk1) rfl (by kernel_rfl) ?_
      refine D1 rfl rfl ?_
      refine ⟨by kernel_rfl,?_⟩
      refine Gr rfl ?_
      iterate 6 refine A1 rfl ?_
      exact ⟨(i+1,e2),Io ⟨congrArg (V.osl 1 1) hln.symm,rfl,congrArg (fun i:Int=>V.pv (PV.int .i64 i)) (show (e.length:Int)-1-i-1=(e2.length:Int)-1-((i+1:Nat):Int) by omega),trivial⟩ ⟨congrArg (fun c=>some (Ob.cells 5 c)) hset,trivial⟩ rfl rfl,hst,by show e2.length-(i+1)<e.length-i;omega⟩
     ·have hel:=hR.len
      have hev:=zk hR (by omega)
      refine Gx rfl ?_
      refine Z1 rfl rfl ?_
      refine Rs 80 rfl rfl (EC e underlying163 underlying5 underlying9 (.inr ⟨_,_,_,_,rfl,rfl,(by rw [Nat.mul_one];exact (List.take_of_length_le (by simp)).symm)⟩)) ?_
      refine A1 rfl ?_
      refine Gt rfl ?_
      exact ⟨_,_,rfl,rfl,by rw [hEr, ← hev];rfl⟩
end
section
open Go.RowKit Mk
set_option maxHeartbeats 4000000
theorem wU (n:Int) (h0: -9223372036854775808≤n) (h1:n≤9223372036854775807):FnP Tryz.prog 14 [.int .i64 n] (· = .str ⟨(Lib.itoa n).toArray⟩):=by
 refine FnP.of func14 rfl ntmps14 (by simp) fun m0 w0 F R0=>?_
 have hl:(aj n.natAbs).length≤3:=bF.2 (by omega)
 refine Z1 rfl rfl ?_
 refine Z1 rfl rfl ?_
 refine Rs 4 rfl rfl (ae call56 (Cz n h0 h1) rfl) ?_
 refine Rs 5 rfl rfl (ae call57 (vR n (by omega)) rfl) ?_
 refine A1 rfl ?_
 refine Gt rfl ?_
 exact ⟨_,_,rfl,rfl,rfl⟩
end
section
open Go.RowKit Mk Jn
set_option maxHeartbeats 4000000
theorem eG {S:Sch} {a:Int} {most:Nat} {l:List Rw} (h:MdT S [a] most l):l.length≤most∧∀ x∈l,x.v.length=1:=by
 obtain ⟨l0,rfl,hl,hx⟩:=h
 have hs:=tU (l:=l0) fun z hz=>by have:=(hx z hz).1;omega
 refine ⟨Nat.le_trans hs.len hl,fun x hx'=>?_⟩
 obtain ⟨z,hz,e⟩:=hs.val x hx'
 rw [e];exact (hx z hz).2.1
theorem Fz {x:Rw} (h:x.v.length=1):x.v=[v0 x]:=by
 obtain ⟨v,w⟩:=x
 match v,h with
 | [y],_=>rfl
theorem vf {S:Sch} {a:Int} {l:List Rw} (h:∀ x∈l,x.v.length=1) (hc:(S.rels.flatMap (·.2)).count a=1):gF S [a] l=l:=by
 refine List.filter_eq_self.2 fun x hx=>?_
 unfold bq
 rw [Fz (h x hx)]
 simp only [List.zip_cons_cons,List.zip_nil_right,List.all_cons,List.all_nil,Bool.and_true]
 rw [hc]
 simp
theorem nP (a b:ByteArray):(a.toList==b.toList)=decide (a=b):=by
 by_cases e:a=b
 ·subst e;simp
 ·rw [decide_eq_false e,beq_eq_false_iff_ne]
  exact fun h=>e (bytes_inj h)
theorem qU {S:Sch} {a:Int} {l:List Rw} (h:∀ x∈l,x.v.length=1) (hc:(S.rels.flatMap (·.2)).count a=2):gF S [a] l=l.filter fun x=> !decide (v0 x=⟨#[]⟩):=by
 refine List.filter_congr fun x hx=>?_
 unfold bq
 rw [Fz (h x hx)]
 simp only [List.zip_cons_cons,List.zip_nil_right,List.all_cons,List.all_nil,Bool.and_true]
 rw [hc,nP]
 simp [v0]
theorem Et (a:Int):[a].Nodup:=List.pairwise_singleton _ _
theorem prod1 {d:List (List Rw)} (h:MdD pdS 6 2 d):∃ d0 d1,d=[d0,d1]∧MdT pdS [0] 6 d0∧DbOk pdS [d0,d1]∧(joinL pdS [d0,d1]).length=d0.length*d1.length∧d0.length≤6∧d1.length≤6:=by
 match d,h.1 with
 | [d0,d1],_=>
   have h0:=h.2 0 (by simp) (by decide)
   have h1:=h.2 1 (by simp) (by decide)
   have k0:MdT pdS [0] 6 d0:=h0
   have k1:MdT pdS [1] 6 d1:=h1
   have hok:DbOk pdS [d0,d1]:=pe Hh x7 zj (by decide) (most:=6) (by decide) rfl h.2
   have l0:=eG k0
   have l1:=eG k1
   refine ⟨d0,d1,rfl,k0,hok,?_,l0.1,l1.1⟩
   rw [my hok (by intro r hr;simp only [pdS,List.mem_cons,List.not_mem_nil,or_false] at hr;rcases hr with rfl | rfl<;>exact Et _)]
   have e:iL pdS (bf pdS [d0,d1])=[([0],d0),([1],d1)]:=by
    show [(([0]:List Int),gF pdS [0] d0),([1],gF pdS [1] d1)]=_
    rw [vf l0.2 (by decide),vf l1.2 (by decide)]
   rw [e]
   exact Cq d0 d1 l0.2 l1.2
theorem Hq {l:List Rw} (h:MdT pdS [0] 6 l):MdT pdY [0] 6 l:=by
 obtain ⟨l0,e,hl,hx⟩:=h
 refine ⟨l0,e,hl,fun x hx'=>⟨(hx x hx').1,(hx x hx').2.1,fun i h1 h2=>?_⟩⟩
 have:=(hx x hx').2.2 i h1 h2
 match i,h2 with
 | 0,_=>exact this
def og (z1:List Rw) (x:Rw):Nat:=(z1.filter (eq2 x)).length
theorem prod2 {z0 z1:List Rw} (h0:MdT pdY [0] 6 z0) (h1:MdT pdY [0] 6 z1):DbOk pdY [z0,z1]∧(joinL pdY [z0,z1]).length=(z0.map (og z1)).sum∧z0.length≤6∧z1.length≤6:=by
 have hok:DbOk pdY [z0,z1]:=pe Hf Bd Ho (by decide) (most:=6) (by decide) rfl fun i h h2=>by
  match i,h with
  | 0,_=>exact h0
  | 1,_=>exact h1
 have l0:=eG h0
 have l1:=eG h1
 refine ⟨hok,?_,l0.1,l1.1⟩
 rw [my hok (by intro r hr;simp only [pdY,List.mem_cons,List.not_mem_nil,or_false] at hr;rcases hr with rfl | rfl<;>exact Et _)]
 have e:iL pdY (bf pdY [z0,z1])=[([0],z0.filter fun x=> !decide (v0 x=⟨#[]⟩)),([0],z1.filter fun x=> !decide (v0 x=⟨#[]⟩))]:=by
  show [(([0]:List Int),gF pdY [0] z0),([0],gF pdY [0] z1)]=_
  rw [qU l0.2 (by decide),qU l1.2 (by decide)]
 rw [e]
 exact C0 z0 z1 l0.2 l1.2
theorem H2 {α:Type} {l:List α} {f:α→Nat} {c:Nat} (h:∀ x∈l,f x≤c):(l.map f).sum≤l.length*c:=by
 induction l with
 | nil=>simp
 | cons x l ih=>
   have h1:=h x (by simp)
   have h2:=ih fun y hy=>h y (by simp [hy])
   rw [List.map_cons,List.sum_cons,List.length_cons,Nat.add_mul,Nat.one_mul]
   omega
theorem DJ {α:Type} {l:List α} {k:Nat} (h:k<l.length) (f:α→Nat):((l.take (k+1)).map f).sum=((l.take k).map f).sum+f l[k]:=by
 rw [List.take_succ_eq_append_getElem h,List.map_append,List.sum_append];simp
theorem zE {l:List Rw} {k:Nat} (h:k<l.length) (x:Rw):og (l.take (k+1)) x=og (l.take k) x+if eq2 x l[k]=true then 1 else 0:=by
 unfold og
 rw [List.take_succ_eq_append_getElem h,List.filter_append,List.length_append]
 congr 1
 by_cases e:eq2 x l[k]=true
 ·rw [if_pos e,List.filter_cons,if_pos e];rfl
 ·rw [if_neg e,List.filter_cons,if_neg e];rfl
theorem CJ (n:Nat):Lib.itoa (n:Int)=Lib.decDigits n:=by
 unfold Lib.itoa;rw [if_neg (by omega),Int.toNat_natCast]
theorem HL {x:Rw} (h:x.v.length=1):(aA x.v)[0*1]? =some (.str (v0 x))∧aA x.v≠[]:=by
 rw [Fz h];exact ⟨rfl,by simp⟩
theorem qD {l:List Rw} (h:l.length≤2000):pJ l= .tup [bL l,.int .i64 0]:=by unfold pJ;rw [if_neg (by omega)]
theorem jt (t:List Int):FnP Tryz.prog 3 [ak t] (· = .bool true):=by
 refine FnP.of func3 rfl ntmps3 (by simp) fun m0 w0 F R0=>?_
 refine Z1 rfl rfl ?_
 refine Z3 rfl rfl rfl rfl ?_
 refine Gp rfl rfl (fun hc21=>?_) (fun hc21=>?_)
 ·refine Gr rfl ?_
  refine Rs 22 rfl rfl (ae call9 pX rfl) ?_
  refine A1 rfl ?_
  refine Gt rfl ?_
  exact ⟨_,_,rfl,rfl,rfl⟩
 ·have hL:t.length≤400:=by omega
  refine Il ?_
  refine Z1 rfl rfl ?_
  refine RL.call rfl (fA [] 0 call10 (Cr t (by omega)) rfl rfl rfl rfl trivial (by decide) rfl ?_)
  rintro _ _ ⟨rfl,rfl⟩
  refine A1 rfl ?_
  refine Z2 rfl rfl rfl ?_
  refine Rs 27 rfl rfl (aq none (by simp) el28 rfl (by decide) (by decide) rfl rfl) ?_
  refine Rs 28 rfl rfl (aq none (by simp) xj rfl (by decide) (by decide) rfl rfl) ?_
  refine A1 rfl ?_
  refine Rs 30 rfl rfl (aq none (by simp) xj rfl (by decide) (by decide) rfl rfl) ?_
  refine A1 rfl ?_
  refine Rs 32 rfl rfl (aq none (by simp) el31 rfl (by decide) (by decide) rfl rfl) ?_
  refine Y3 rfl rfl rfl ?_
  refine Im (St.uB 1 rfl) ?_
  refine Wk [(3,.ptr 0 0),(4,.ptr 1 0)] [(0,HD t 0),(1,.mix 34 [.pv (.sl none 2 (cc pdS.attrs)),.pv (.sl none 2 (bj pdS.rels)),.pv (.sl none 0 (bm pdS.feats)),.pv (.int .i64 (-1))])] 2 (aS (by kernel_rfl)) (aO (by kernel_rfl)) rfl rfl ?_
  refine Z2 rfl rfl rfl ?_
  refine RL.call rfl (jW call11 (nB t 0 (by omega) (Nat.zero_le _) pdS 6 (by decide) (by decide) (by intro r hr;exact ⟨zj.l r hr,zj.b r hr⟩)) rfl rfl ?_)
  rintro _ _ ⟨⟨d,hd,rfl⟩,k1,hk1,rfl⟩
  obtain ⟨d0,d1,rfl,hd0,hok,hjl,hl0,hl1⟩:=prod1 hd
  clear hd
  refine A1 rfl ?_
  have hmul:d0.length*d1.length≤36:=Nat.mul_le_mul hl0 hl1
  have hbu:=iH pdS [d0,d1] hok
  have hsi:=mI pdS [d0,d1] hok (by omega)
  rw [qD (by omega)] at hbu
  have hmk:=wU ((((joinL pdS [d0,d1]).length:Nat):Int)) (by omega) (by omega)
  rw [CJ] at hmk
  have hml: -9223372036854775808≤(d0.length:Int)*d1.length∧(d0.length:Int)*d1.length≤9223372036854775807:=by rw [← Int.natCast_mul];omega
  have hne1:((((joinL pdS [d0,d1]).length:Nat):Int) !=(d0.length:Int)*d1.length)=false:=by rw [hjl,Int.natCast_mul];simp
  generalize joinL pdS [d0,d1]=J1 at*
  generalize Lib.decDigits J1.length=DD at*
  refine Z2 rfl rfl rfl ?_
  refine Rs 40 rfl rfl (ae call12 hbu rfl) ?_
  iterate 5 refine A1 rfl ?_
  refine Z2 rfl rfl rfl ?_
  refine Rs 46 rfl rfl (ae call13 hsi rfl) ?_
  iterate 5 refine A1 rfl ?_
  refine Ge rfl follows [0,1,2,3,4,5,6,7,8,9,10,11,12,13,14,15,16,17,18,19,20,21,22,23,24,25,26] (by kernel_rfl) ?_
  iterate 10 refine D1 rfl rfl ?_
  refine Dg 59 [] rfl rfl rfl rfl (fun τ h=>ag 0 underlying36 qk (Ee h 0 rfl rfl) (Ee h 1 rfl rfl) rfl (by simp) (by simp [dv])) rfl (by kernel_rfl) ?_
  refine Dg 60 [] rfl rfl rfl rfl (fun τ h=>ai (v:=bL d0) ⟨_,underlying38,rfl⟩ (Ee h 0 rfl rfl) rfl) rfl (by kernel_rfl) ?_
  iterate 2 refine D1 rfl rfl ?_
  refine Dg 63 [] rfl rfl rfl rfl (fun τ h=>ag 1 underlying36 qk (Ee h 0 rfl rfl) (Ee h 1 rfl rfl) rfl (by simp) (by simp [dv])) rfl (by kernel_rfl) ?_
  refine Dg 64 [] rfl rfl rfl rfl (fun τ h=>ai (v:=bL d1) ⟨_,underlying38,rfl⟩ (Ee h 0 rfl rfl) rfl) rfl (by kernel_rfl) ?_
  refine D1 rfl rfl ?_
  refine Dg 66 [] rfl rfl rfl rfl (fun τ h=>qa (Ee h 0 rfl rfl) (Ee h 1 rfl rfl) hml) rfl (by kernel_rfl) ?_
  refine Dg 67 [] rfl rfl rfl rfl (fun τ h=>XJ.cast (v':= .pv (.bool false)) (aQ (Ee h 0 rfl rfl) (Ee h 1 rfl rfl) rfl) (congrArg (fun b=>V.pv (.bool b)) hne1)) rfl (by kernel_rfl) ?_
  iterate 5 refine D1 rfl rfl ?_
  refine Dg 73 [] rfl rfl rfl rfl (fun τ h=>ae call14 hmk (h.bt rfl)) rfl (by kernel_rfl) ?_
  refine Dg 74 [] rfl rfl rfl rfl (fun τ h=>XJ.cast (v':= .pv (.bool false)) (cF (Ee h 0 rfl rfl) (Ee h 1 rfl rfl) rfl) (congrArg (fun b=>V.pv (.bool b)) (by simp))) rfl (by kernel_rfl) ?_
  refine D1 rfl rfl ?_
  refine ⟨by kernel_rfl,?_⟩
  refine Gc rfl rfl (fun hc75=>absurd hc75 (by simp)) (fun hc75=>?_)
  refine Il ?_
  have hal:(cc pdS.attrs).length=4:=rfl
  refine Z3 rfl rfl rfl rfl ?_
  refine Rs 79 rfl rfl (aq none (by simp) xj rfl (by decide) (by decide) rfl rfl) ?_
  refine A1 rfl ?_
  refine Rs 81 rfl rfl (aq none (by simp) xj rfl (by decide) (by decide) rfl rfl) ?_
  refine A1 rfl ?_
  refine Rs 83 rfl rfl (aq none (by simp) el31 rfl (by decide) (by decide) rfl rfl) ?_
  refine Y3 rfl rfl rfl ?_
  refine Im (St.uB 2 rfl) ?_
  refine Wk [(3,.ptr 0 0),(5,.pv (dbP [d0,d1])),(10,.ptr 2 0)] [(0,HD t k1),(2,.mix 34 [.pv (.sl none 1 (cc pdY.attrs)),.pv (.sl none 2 (bj pdY.rels)),.pv (.sl none 0 (bm pdY.feats)),.pv (.int .i64 (-1))])] 3 (aS (by kernel_rfl)) (aO (by kernel_rfl)) rfl rfl ?_
  refine Ge rfl follows [0,1,2,3,4,5,6,7] (by kernel_rfl) ?_
  refine D1 rfl rfl ?_
  refine Ds 86 [] rfl rfl rfl (fun τ h=>ag 0 underlying36 qk (Ee h 0 rfl rfl) (Ee h 1 rfl rfl) rfl (by simp) (by simp [dv])) rfl (by kernel_rfl) ?_
  refine Ds 87 [] rfl rfl rfl (fun τ h=>ai (v:=bL d0) ⟨_,underlying38,rfl⟩ (Ee h 0 rfl rfl) rfl) rfl (by kernel_rfl) ?_
  iterate 2 refine D1 rfl rfl ?_
  refine DL.rel (RM 85 0 (fun v c=>(∃ l,MdT pdY [0] 6 l∧v=bL l)∧∃ k',k'≤t.length∧c=jB t k')) [0] [] [0] rfl rfl rfl (fun τ h=>relM call15 (pV t k1 (by omega) hk1 pdY 1 6 (by decide) (by decide) (by decide) (by decide)) (h.args.trans rfl) (Eo h 0 rfl rfl)) rfl (by kernel_rfl) (by kernel_rfl) (by kernel_rfl) ?_
  rintro _ ⟨_,_,⟨⟨d2,hd2,rfl⟩,k2,hk2,rfl⟩,rfl⟩ _ _
  refine Ds 91 [] rfl rfl rfl (fun τ h=>aq none (by simp) el36 rfl (by decide) (by decide) (h.fillS rfl rfl) rfl) rfl (by kernel_rfl) ?_
  refine D1 rfl rfl ?_
  refine ⟨by kernel_rfl,?_⟩
  obtain ⟨hok2,hjl2,_,hl2⟩:=prod2 (Hq hd0) hd2
  have hsum:(d0.map (og d2)).sum≤36:=Nat.le_trans (H2 fun x _=>List.length_filter_le ..) (Nat.mul_le_mul hl0 hl2)
  have hb2:=iH pdY [d0,d2] hok2
  rw [qD (by omega)] at hb2
  have hv0:=(eG hd0).2
  have hv2:=(eG hd2).2
  have hlik:∀ (j:Nat) (x:Rw),og (d2.take j) x≤6:=fun j x=>Nat.le_trans (List.length_filter_le ..) (by rw [List.length_take];omega)
  generalize joinL pdY [d0,d2]=J2 at*
  refine Z2 rfl rfl rfl ?_
  refine Rs 95 rfl rfl (ae call12 hb2 rfl) ?_
  iterate 5 refine A1 rfl ?_
  refine Z1 rfl rfl ?_
  refine Z1 rfl rfl ?_
  refine Rs 99 rfl rfl (ag 0 underlying36 qk rfl rfl rfl (by simp) (by simp [dv])) ?_
  refine Rs 100 rfl rfl (ai (v:=bL d0) ⟨_,underlying38,rfl⟩ rfl rfl) ?_
  refine Y2 rfl rfl ?_
  refine Gl rfl (st:=fun x_0:Nat=>mkS [(11,.pv (dbP [d0,d2])),(12,.pv (bL J2)),(13,.pv (.int .i64 0)),(14,.pv (.int .i64 (((d0.take x_0).map (og d2)).sum:Nat))),(100,.pv (bL d0)),(101,.pv (.int .i64 d0.length)),(102,.pv (.int .i64 x_0))] [] 3)
   (I:=fun x_0=>x_0≤d0.length∧((d0.take x_0).map (og d2)).sum≤6*x_0) (μ:=fun x_0=>d0.length-x_0) (x0:=(0)) (Io (aS rfl) trivial rfl rfl) (⟨Nat.zero_le _,by simp⟩) ?_
  rintro i ⟨hi,hs⟩
  refine Z1 rfl rfl ?_
  refine Gp rfl rfl (fun hc103=>?_) (fun hc103=>?_)
  ·have hlt:i<d0.length:=by omega
   have hrw:=aN hlt
   have hrn:=aW hlt
   have hxv:=HL (hv0 _ (List.getElem_mem hlt))
   have hxl:=hv0 _ (List.getElem_mem hlt)
   have hst:=DJ hlt (og d2)
   have hl6:og d2 d0[i]≤6:=by have:=hlik d2.length d0[i];rwa [List.take_length] at this
   generalize d0[i]=x at*
   generalize ((d0.take i).map (og d2)).sum=base at*
   refine Il ?_
   refine Z1 rfl rfl ?_
   first | refine A3 rfl (by assumption) ?_ | refine A1 rfl ?_
   refine Y2 rfl rfl ?_
   refine Z1 rfl rfl ?_
   refine Rs 107 rfl rfl (ag 1 underlying36 qk rfl rfl rfl (by simp) (by simp [dv])) ?_
   refine Rs 108 rfl rfl (ai (v:=bL d2) ⟨_,underlying38,rfl⟩ rfl rfl) ?_
   refine Y2 rfl rfl ?_
   refine Gl rfl (st:=fun x_1:Nat=>mkS [(11,.pv (dbP [d0,d2])),(12,.pv (bL J2)),(13,.pv (.int .i64 0)),(14,.pv (.int .i64 ((base+og (d2.take x_1) x:Nat):Int))),(16,.ptr 3 0),(100,.pv (bL d0)),(101,.pv (.int .i64 d0.length)),(102,.pv (.int .i64 i)),(108,.pv (bL d2)),(109,.pv (.int .i64 d2.length)),(110,.pv (.int .i64 x_1))] [(3,.mix 49 [.pv (aI x.v),.pv (.int .i64 x.w)])] 4)
    (I:=fun x_1=>x_1≤d2.length) (μ:=fun x_1=>d2.length-x_1) (x0:=(0)) (Io (aS rfl) (aO (by kernel_rfl)) rfl rfl) (Nat.zero_le _) ?_
   rintro j hj
   refine Z1 rfl rfl ?_
   refine Gp rfl rfl (fun hc111=>?_) (fun hc111=>?_)
   ·have hltj:j<d2.length:=by omega
    have hrwj:=aN hltj
    have hrnj:=aW hltj
    have hyv:=HL (hv2 _ (List.getElem_mem hltj))
    have hyl:=hv2 _ (List.getElem_mem hltj)
    have hlt2:=zE hltj x
    have hlj:=hlik j x
    generalize d2[j]=y at*
    refine Il ?_
    refine Z1 rfl rfl ?_
    first | refine A3 rfl (by assumption) ?_ | refine A1 rfl ?_
    refine Y2 rfl rfl ?_
    by_cases he:v0 x=v0 y
    ·refine Ge rfl follows [0,1,2,3,4,5,6,7,8,9,10,11,12,13,14,15] (by kernel_rfl) ?_
     iterate 2 refine D1 rfl rfl ?_
     refine Ds 116 [] rfl rfl rfl (fun τ h=>ag 0 underlying47 sz9 (Ee h 0 rfl rfl) (Ee h 1 rfl rfl) rfl (by omega) hxv.2) rfl (by kernel_rfl) ?_
     refine Ds 117 [] rfl rfl rfl (fun τ h=>ai ⟨_,underlying9,rfl⟩ (Ee h 0 rfl rfl) hxv.1) rfl (by kernel_rfl) ?_
     iterate 2 refine D1 rfl rfl ?_
     refine Ds 120 [] rfl rfl rfl (fun τ h=>ag 0 underlying47 sz9 (Ee h 0 rfl rfl) (Ee h 1 rfl rfl) rfl (by omega) hyv.2) rfl (by kernel_rfl) ?_
     refine Ds 121 [] rfl rfl rfl (fun τ h=>ai ⟨_,underlying9,rfl⟩ (Ee h 0 rfl rfl) hyv.1) rfl (by kernel_rfl) ?_
     refine Ds 122 [] rfl rfl rfl (fun τ h=>XJ.cast (v':= .pv (.bool true)) (cF (Ee h 0 rfl rfl) (Ee h 1 rfl rfl) rfl) (congrArg (fun b=>V.pv (.bool b)) (by rw [nP];exact decide_eq_true he))) rfl (by kernel_rfl) ?_
     iterate 3 refine D1 rfl rfl ?_
     refine Dg 126 [] rfl rfl rfl rfl (fun τ h=>ag 0 underlying47 sz9 (Ee h 0 rfl rfl) (Ee h 1 rfl rfl) rfl (by omega) hxv.2) rfl (by kernel_rfl) ?_
     refine Dg 127 [] rfl rfl rfl rfl (fun τ h=>ai ⟨_,underlying9,rfl⟩ (Ee h 0 rfl rfl) hxv.1) rfl (by kernel_rfl) ?_
     refine Dg 128 [] rfl rfl rfl rfl (fun τ h=>XJ.cast (v':= .pv (.bool (!decide (v0 x=⟨#[]⟩)))) (cF (Ee h 0 rfl rfl) (Ee h 1 rfl rfl) rfl) (congrArg (fun b=>V.pv (.bool b)) (congrArg (fun b=> !b) (nP _ _)))) rfl (by kernel_rfl) ?_
     refine D1 rfl rfl ?_
     refine ⟨by kernel_rfl,?_⟩
     refine Gc rfl rfl (fun hc129=>?_) (fun hc129=>?_)
     ·have hq2:eq2 x y=true:=by unfold eq2;rw [decide_eq_true he,hc129];rfl
      rw [if_pos hq2] at hlt2
      refine Z3 rfl rfl rfl rfl ?_
      refine Z2 rfl rfl rfl ?_
      exact ⟨(j+1),Io ⟨rfl,rfl,rfl,congrArg (fun n:Int=>V.pv (.int .i64 n)) (show ((base+og (d2.take j) x:Nat):Int)+1=((base+og (d2.take (j+1)) x:Nat):Int) by rw [hlt2];omega),rfl,rfl,rfl,rfl,rfl,rfl,rfl,trivial⟩ (aO (by kernel_rfl)) rfl rfl,by omega,by omega⟩
     ·have hq2:¬ eq2 x y=true:=by unfold eq2;rw [hc129,Bool.and_false];decide
      rw [if_neg hq2,Nat.add_zero] at hlt2
      refine Il ?_
      refine Z2 rfl rfl rfl ?_
      exact ⟨(j+1),Io ⟨rfl,rfl,rfl,congrArg (fun n:Nat=>V.pv (.int .i64 (n:Int))) (show base+og (d2.take j) x=base+og (d2.take (j+1)) x by omega),rfl,rfl,rfl,rfl,rfl,rfl,rfl,trivial⟩ (aO (by kernel_rfl)) rfl rfl,by omega,by omega⟩
    ·refine Ge rfl follows [0,1,2,3,4,5,6,7,8,9,10,11,12,13,14,15] (by kernel_rfl) ?_
     iterate 2 refine D1 rfl rfl ?_
     refine Ds 116 [] rfl rfl rfl (fun τ h=>ag 0 underlying47 sz9 (Ee h 0 rfl rfl) (Ee h 1 rfl rfl) rfl (by omega) hxv.2) rfl (by kernel_rfl) ?_
     refine Ds 117 [] rfl rfl rfl (fun τ h=>ai ⟨_,underlying9,rfl⟩ (Ee h 0 rfl rfl) hxv.1) rfl (by kernel_rfl) ?_
     iterate 2 refine D1 rfl rfl ?_
     refine Ds 120 [] rfl rfl rfl (fun τ h=>ag 0 underlying47 sz9 (Ee h 0 rfl rfl) (Ee h 1 rfl rfl) rfl (by omega) hyv.2) rfl (by kernel_rfl) ?_
     refine Ds 121 [] rfl rfl rfl (fun τ h=>ai ⟨_,underlying9,rfl⟩ (Ee h 0 rfl rfl) hyv.1) rfl (by kernel_rfl) ?_
     refine Ds 122 [] rfl rfl rfl (fun τ h=>XJ.cast (v':= .pv (.bool false)) (cF (Ee h 0 rfl rfl) (Ee h 1 rfl rfl) rfl) (congrArg (fun b=>V.pv (.bool b)) (by rw [nP];exact decide_eq_false he))) rfl (by kernel_rfl) ?_
     iterate 7 refine D1 rfl rfl ?_
     refine ⟨by kernel_rfl,?_⟩
     refine Gc rfl rfl (fun hc129=>absurd hc129 (by simp)) (fun hc129=>?_)
     have hq2:¬ eq2 x y=true:=by unfold eq2;rw [decide_eq_false he];simp
     rw [if_neg hq2,Nat.add_zero] at hlt2
     refine Il ?_
     refine Z2 rfl rfl rfl ?_
     exact ⟨(j+1),Io ⟨rfl,rfl,rfl,congrArg (fun n:Nat=>V.pv (.int .i64 (n:Int))) (show base+og (d2.take j) x=base+og (d2.take (j+1)) x by omega),rfl,rfl,rfl,rfl,rfl,rfl,rfl,trivial⟩ (aO (by kernel_rfl)) rfl rfl,by omega,by omega⟩
   ·rw [show d2.take j=d2 from List.take_of_length_le (by omega)]
    refine Gx rfl ?_
    refine Z2 rfl rfl rfl ?_
    exact ⟨(i+1),Io ⟨rfl,rfl,rfl,congrArg (fun n:Nat=>V.pv (.int .i64 (n:Int))) hst.symm,rfl,rfl,rfl,trivial⟩ trivial rfl rfl,⟨by omega,by omega⟩,by omega⟩
  ·rw [show d0.take i=d0 from List.take_of_length_le (by omega)]
   have hfin:((((J2.length:Nat):Int))==((((d0.map (og d2)).sum:Nat)):Int))=true:=by rw [hjl2];simp
   refine Gx rfl ?_
   refine Gr rfl ?_
   iterate 6 refine A1 rfl ?_
   refine Rg 140 rfl rfl rfl (XJ.cast (v':= .pv (.bool true)) (aQ rfl rfl rfl) (congrArg (fun b=>V.pv (.bool b)) hfin)) ?_
   refine Y2 rfl rfl ?_
   refine Rg 143 rfl rfl rfl (ae call9 pX rfl) ?_
   refine Y2 rfl rfl ?_
   refine Gt rfl ?_
   exact ⟨_,_,rfl,rfl,rfl⟩
end
theorem gy {P:Program} {W:World} {n:String} {g:Nat} {cs:Array Value} (hg:P.globalNamed n=some g) (h:W.var? P n=some cs):∃ t fz,W.heap[g]? =some (.cells cs t fz):=by
 simp only [World.var?,hg,Option.bind_some] at h
 split at h
 ·rename_i cs' t fz hb
  cases h
  exact ⟨t,fz,hb⟩
 ·cases h
theorem oF {W:World} {g:Nat} {o:Obj} (h:W.heap[g]? =some o):g<W.heap.size:=(Array.getElem?_eq_some_iff.1 h).1
theorem gv0:Tryz.prog.globalNamed "internal/strconv.uint64pow10" =some 0:=by kernel_rfl
theorem gv4:Tryz.prog.globalNamed "strconv.ErrSyntax" =some 4:=by kernel_rfl
theorem gv5:Tryz.prog.globalNamed "strconv.ErrRange" =some 5:=by kernel_rfl
theorem gt0:(Tryz.prog.globals[0]?).map (·.type)=some 283:=by kernel_rfl
theorem gt4:(Tryz.prog.globals[4]?).map (·.type)=some 167:=by kernel_rfl
theorem gt5:(Tryz.prog.globals[5]?).map (·.type)=some 167:=by kernel_rfl
theorem An {W:World} (h:W.ShapedOpen Tryz.prog):∃ (m:Int) (t:TypeId) (fz:Nat×Nat),W.heap[1]? =some (.cells #[.int .i64 m] t fz):=by
 obtain ⟨cs,hh,hs,hr⟩:=h.1 1 #[.int .i64 0] 3 (of_decide_eq_true (by kernel_rfl)) (by kernel_rfl)
 obtain ⟨ts,hts,_,hall⟩:=hr (by kernel_rfl)
 rw [show Tryz.prog.cellTypes Tryz.prog.depth 3=some [3] by kernel_rfl] at hts
 cases hts
 have h1:cs.size=1:=hs
 obtain ⟨u,hu',hok⟩:=hall 0 cs[0] (by simp [h1])
 obtain rfl:u=3:=by simpa using hu'.symm
 have hm:∃ m,cs[0]= .int .i64 m:=by
  unfold Cell.ok at hok
  rw [underlying3] at hok
  cases hv:cs[0]<;>rw [hv] at hok<;>simp at hok
  rename_i k m
  obtain rfl:=hok.1
  exact ⟨m,rfl⟩
 obtain ⟨m,hm⟩:=hm
 have:cs= #[.int .i64 m]:=by
  apply Array.ext
  ·simp [h1]
  ·intro i h2 h3
   have:i=0:=by omega
   subst this
   simpa using hm
 rw [this] at hh
 exact ⟨m,_,_,hh⟩
def HP:List (String×DataW Unit):=Rows.joinProductRow.laid
theorem Fv {W:World} (hsh:W.ShapedOpen Tryz.prog) (h:laidMetH Tryz.prog HP W):lA W (fun b=>b<W.heap.size):=by
 rw [MakeChecks.laidMetH_plain _ _ _ (by kernel_rfl)] at h
 obtain ⟨ps,⟨g0,t0,cs0,f0,p0,q0,hg0,ht0,hv0,hd0,⟨g1,t1,cs1,f1,p1,q1,hg1,ht1,hv1,hd1,⟨g2,t2,cs2,f2,p2,q2,hg2,ht2,hv2,hd2,⟨g4,t4,cs4,f4,p4,q4,hg4,ht4,hv4,hd4,⟨g5,t5,cs5,f5,p5,q5,hg5,ht5,hv5,hd5,_⟩,_⟩,_⟩,_⟩,_⟩,_,_⟩:=h
 obtain rfl:=Option.some.inj (gv0.symm.trans hg2)
 obtain rfl:=Option.some.inj (gv5.symm.trans hg4)
 obtain rfl:=Option.some.inj (gv4.symm.trans hg5)
 obtain rfl:=Option.some.inj (gt0.symm.trans ht2)
 obtain rfl:=Option.some.inj (gt5.symm.trans ht4)
 obtain rfl:=Option.some.inj (gt4.symm.trans ht5)
 have e2:cs2.toList=Lib.pow10Tab.map fun z=>Value.int .u64 z:=Lib.cells_of_tab underlying283 underlying136 (by kernel_rfl) (by kernel_rfl) hd2
 obtain ⟨_,u4,v4,e4,_⟩:=iface_of_trod underlying167 hd4
 obtain ⟨_,u5,v5,e5,_⟩:=iface_of_trod underlying167 hd5
 obtain ⟨x2,y2,b2⟩:=gy gv0 hv2
 obtain ⟨x4,y4,b4⟩:=gy gv5 hv4
 obtain ⟨x5,y5,b5⟩:=gy gv4 hv5
 obtain ⟨m,x1,y1,b1⟩:=An hsh
 obtain ⟨l2⟩:=cs2
 obtain ⟨l4⟩:=cs4
 obtain ⟨l5⟩:=cs5
 simp only at e2 e4 e5
 subst e2 e4 e5
 intro x hx
 simp only [glb,List.mem_cons,List.not_mem_nil,or_false] at hx
 rcases hx with rfl | rfl | rfl | rfl
 ·exact ⟨oF b2,_,b2,_,_,rfl⟩
 ·exact ⟨oF b1,_,b1,_,_,_,rfl⟩
 ·exact ⟨oF b5,_,b5,_,_,_,_,rfl⟩
 ·exact ⟨oF b4,_,b4,_,_,_,_,rfl⟩
noncomputable def witW (os:Os):World:=World.doorLaid Tryz.prog 54 os
theorem wL (os:Os) (args:Array Value):((witW os).forCall (fun _ _=>0) ⟨#[],args,[]⟩).Shaped Tryz.prog:=World.shaped_of_RefB (by kernel_rfl) (by kernel_rfl)
theorem Fq (os:Os) (args:Array Value):laidMetH Tryz.prog HP ((witW os).forCall (fun _ _=>0) ⟨#[],args,[]⟩).memory:=
 laidMetH_of_parts3 (fuel:=8) (laidMet_of_run' 8 (by kernel_rfl) (by kernel_rfl)) (by kernel_rfl) (by kernel_rfl)
section
open Go.RowKit Go.ChangeShapes Go.WideShapes Go.Deep
def OpT (P:Program) (t:TypeId) {α:Type} (f:α→List PV) (I:α→Prop):Prop:=
 ∀ (H:Type) (enc:TypeId×Value→H) (w:World) (base:Nat) (spare:Nat→Bool) (held:Bool) (fuel:Nat) (cs:List Value) (x:DataW H×List MemPlace),
  DataW.trod enc P w base spare held fuel t cs=some x→∃ a,I a∧RelPL w (fun b=>b<w.heap.size) (f a) cs
section
variable {P:Program} {t:TypeId}
theorem OpT.map {α β:Type} {f:α→List PV} {I:α→Prop} {f':β→List PV} {I':β→Prop} (h:OpT P t f I) (g:α→β) (hf:∀ a,f' (g a)=f a) (hI:∀ a,I a→I' (g a)):OpT P t f' I':=
 fun H enc w base spare held fuel cs x hx=>by
  obtain ⟨a,ha,hr⟩:=h H enc w base spare held fuel cs x hx
  exact ⟨g a,hI a ha,by rw [hf];exact hr⟩
theorem RelPL.one {w:World} {R:Nat→Prop} {p:PV} {u:Value} (h:RelP w R p u):RelPL w R [p] [u]:=RelPL.cons h RelPL.nil
theorem OpT.int (ht:P.underlying t=some (.int .i64)):OpT P t (fun n:Int=>[.int .i64 n]) (fun n=> -9223372036854775808≤n∧n≤9223372036854775807):=
 fun H enc w base spare held fuel cs x hx=>by
  obtain ⟨n,rfl,_,hw⟩:=DataW.trod_int ht hx
  exact ⟨n,bounds_i64 hw,RelPL.one (by simp only [RelP])⟩
theorem vJ {w:World} {R:Nat→Prop} {α:Type} {f:α→List PV}:∀ {n:Nat} {A:Nat→α} {us:Nat→List Value},(∀ i,i<n→RelPL w R (f (A i)) (us i))→RelPL w R (((List.range n).map A).flatMap f) ((List.range n).flatMap us):=by
 intro n A us h
 induction n with
 | zero=>simpa using RelPL.nil
 | succ n ih=>
   rw [List.range_succ,List.map_append,List.flatMap_append,List.flatMap_append]
   refine RelPL.append (ih fun i hi=>h i (by omega)) ?_
   simpa using h n (by omega)
theorem oo {c:Nat} {us:Nat→List Value}:∀ {n:Nat},(∀ i,i<n→(us i).length=c)→((List.range n).flatMap us).length=n*c∧∀ i j,i<n→j<c→((List.range n).flatMap us)[i*c+j]? =(us i)[j]? :=by
 intro n h
 induction n with
 | zero=>exact ⟨by simp,fun i j hi=>absurd hi (by omega)⟩
 | succ n ih=>
   obtain ⟨h1,h2⟩:=ih fun i hi=>h i (by omega)
   rw [List.range_succ,List.flatMap_append]
   refine ⟨by rw [List.length_append,h1,List.flatMap_singleton,h n (by omega),Nat.succ_mul],fun i j hi hj=>?_⟩
   by_cases e:i<n
   ·rw [List.getElem?_append_left (by rw [h1];calc i*c+j<i*c+c:=by omega
     _=(i+1)*c:=by rw [Nat.succ_mul]
     _≤n*c:=Nat.mul_le_mul_right c e)]
    exact h2 i j e hj
   ·obtain rfl:i=n:=by omega
    rw [List.getElem?_append_right (by rw [h1];omega),h1,List.flatMap_singleton,show i*c+j-i*c=j by omega]
theorem OpT.sl {e:TypeId} {α:Type} {f:α→List PV} {I:α→Prop} (c:Nat) [Inhabited α] (ht:P.underlying t=some (.slice e)) (hc:P.cellsOf e=c) (h:OpT P e f I):
  OpT P t (fun l:List α=>[.sl none l.length (l.flatMap f)]) (fun l=>l.length≤maxLen∧∀ a∈l,I a):=
 fun H enc w base spare held fuel cs x hx=>by
  rcases open_slice ht hx with ⟨rfl,rfl⟩ | ⟨a,len,cap,m,n,D,Pl,rfl,hb,hl,hm,hmm,hxe,hel⟩
  ·refine ⟨[],⟨by simp,by simp⟩,RelPL.one ?_⟩
   simp only [RelP]
   exact ⟨none,0,rfl,Nat.le_refl _,by simp [maxLen],(fun _ e=>by cases e),(fun e=>by cases e),fun e=>absurd rfl e⟩
  ·have hlm:len≤m:=by rw [hmm];split<;>omega
   rw [hc] at hel
   have hx2:∀ i,i<len→∃ p:α×List Value,I p.1∧RelPL w (fun b=>b<w.heap.size) (f p.1) p.2∧p.2.length=c∧∀ j,j<c→w.cell? (a.add (i*c+j))=p.2[j]? :=fun i hi=>by
    obtain ⟨cs',h1,h2⟩:=hel i (by omega)
    obtain ⟨y,hy,hr⟩:=h H enc w base spare held n cs' _ h2
    obtain ⟨_,h3,h4⟩:=World.cells?_some h1
    exact ⟨(y,cs'),hy,hr,h3,fun j hj=>by rw [← add_add];exact h4 j hj⟩
   obtain ⟨F,hF⟩:=choose_lt hx2
   have hlen:((List.range len).map fun i=>(F i).1).length=len:=by simp
   refine ⟨(List.range len).map fun i=>(F i).1,⟨by rw [hlen];omega,fun y hy=>?_⟩,RelPL.one ?_⟩
   ·obtain ⟨i,hi,rfl⟩:=List.mem_map.1 hy
    exact (hF i (List.mem_range.1 hi)).1
   ·rw [hlen]
    simp only [RelP]
    refine ⟨some a,cap,rfl,hl,hm,(fun _ e=>by cases e),(fun e=>by cases e),fun hne=>?_⟩
    have hrel:=vJ (w:=w) (R:=fun b=>b<w.heap.size) (f:=f) (A:=fun i=>(F i).1) (us:=fun i=>(F i).2) fun i hi=>(hF i hi).2.1
    obtain ⟨hL,hat⟩:=oo (us:=fun i=>(F i).2) (c:=c) (n:=len) fun i hi=>(hF i hi).2.2.1
    generalize hU:(List.range len).flatMap (fun i=>(F i).2)=U at hrel hL hat
    have hpos:0<len*c:=by
     rw [← hL,RelPL.length hrel]
     exact List.length_pos_iff.2 hne
    have hlen0:0<len:=Nat.pos_of_mul_pos_right hpos
    have hc0:0<c:=Nat.pos_of_mul_pos_left hpos
    have hcell:∀ k,k<len*c→w.cell? (a.add k)=U[k]? :=fun k hk=>by
     have e:k=k/c*c+k%c:=by rw [Nat.mul_comm];exact (Nat.div_add_mod k c).symm
     have h1:k/c<len:=Nat.div_lt_of_lt_mul (by rw [Nat.mul_comm];exact hk)
     have h2:k%c<c:=Nat.mod_lt _ hc0
     rw [e,hat _ _ h1 h2]
     exact (hF _ h1).2.2.2 _ h2
    have h0:=hcell 0 hpos
    rw [List.getElem?_eq_getElem (by omega)] at h0
    obtain ⟨b,off,sp⟩:=a
    have hsp:sp=none:=by
     cases sp with
     | none=>rfl
     | some s=>
       exfalso
       have e:(⟨b,off,some s⟩:Addr).add 0=⟨b,off,some s⟩:=rfl
       rw [e] at h0
       unfold World.cell? at h0
       split at h0
       ·simp at h0
       ·cases h0
    subst hsp
    rw [Addr.add_lit] at h0
    refine ⟨b,off,U,rfl,hrel,World.block_lt_of_cell? w _ h0,fun j hj=>?_⟩
    have:=hcell j (by omega)
    rw [Addr.add_lit] at this
    exact this
end
section
variable {H:Type} {enc:TypeId×Value→H} {P:Program} {w:World} {base:Nat} {spare:Nat→Bool} {held:Bool} {t:TypeId} {v:Value} {d:DataW H} {ps:List MemPlace} {r:Go.Reach} {b0:Nat}
theorem OpT.one {α:Type} {p:α→PV} {I:α→Prop} (ho:OpT P t (fun a=>[p a]) I) (hv:v.cells= #[v]) (h:DataW.Trod enc P w base spare held t v d ps):∃ a,I a∧RelP w (fun b=>b<w.heap.size) (p a) v:=by
 obtain ⟨fuel,hf⟩:=h
 obtain ⟨a,ha,hr⟩:=ho _ _ _ _ _ _ _ _ _ hf
 refine ⟨a,ha,?_⟩
 rw [hv] at hr
 simp only [RelPL] at hr
 obtain ⟨u,vs,e,h1,_⟩:=hr
 simp at e
 rw [e.1];exact h1
end
#print axioms OpT.sl
end
theorem Hr:OpT Tryz.prog 3 (fun n:Int=>[.int .i64 n]) (fun n=> -9223372036854775808≤n∧n≤9223372036854775807):=OpT.int underlying3
theorem FC:OpT Tryz.prog 22 (fun l:List Int=>[ak l]) (fun l=>l.length≤9223372036854775807):=
 (OpT.sl 1 underlying22 (by kernel_rfl) Hr).map id (fun l=>by
  show [PV.sl none l.length (aE l)]=[PV.sl none l.length (l.flatMap fun n=>[PV.int .i64 n])]
  congr 2
  induction l with
  | nil=>rfl
  | cons x l ih=>simp [← ih]) (fun l h=>h.1)
end Go.Proofs.YtjlikknopfnllaaGreatDoor
