/-
  Texts of ours, joined and shortened by merge2.py: B2, B3, B4, P1, P2, P3, R8, R9, P4, W1, Fc, LA, R10, MT, M5, JE, E30, E31, JF, JG, KM, Sl, KI, KV. No statement of the program is proved here.
-/
import Derived.Shelf.SlSortCmp.NoneTotal
import Derived.Ground.SlsfProg
import Derived.Ground.NamesProg
import Derived.Test.YtjlikknopfnllaaGreatDoorProg
import Derived.Test.YtjlikknopfnllaaGreatDoorJ65
set_option maxRecDepth 100000
set_option maxHeartbeats 4000000
open Go.RowKit Go.Proofs.Tryz
namespace Go.Proofs.YtjlikknopfnllaaGreatDoor
section
open Go.RowKit Mk
set_option maxHeartbeats 1000000
theorem getD_eq {α:Type} {l:List α} {k:Nat} (h:k<l.length) (d:α):l.getD k d=l[k]:=by simp [List.getD,h]
def yV (n:Nat) (G:List B64) (p:Nat→Nat→Bool):Prop:=G.length=n∧∀ a,a<n→∀ b:Nat,(G.getD a 0#64).getLsbD b=p a b
theorem yV.zero (n:Nat):yV n (List.replicate n 0#64) (fun _ _=>false):=⟨by simp,fun a ha b=>by simp [List.getD,ha]⟩
theorem yV.congr {n:Nat} {G:List B64} {p q:Nat→Nat→Bool} (h:yV n G p) (e:∀ a,a<n→∀ b,p a b=q a b):yV n G q:=⟨h.1,fun a ha b=>by rw [h.2 a ha b,e a ha b]⟩
theorem yV.or {n:Nat} {G:List B64} {p:Nat→Nat→Bool} (h:yV n G p) {i:Nat} (hi:i<n) (x:B64):yV n (G.set i (G[i]'(by rw [h.1];exact hi)|||x)) (fun a b=>p a b||(decide (a=i)&&x.getLsbD b)):=by
 refine ⟨by simp [h.1],fun a ha b=>?_⟩
 have hl:i<G.length:=by rw [h.1];exact hi
 by_cases e:a=i
 ·subst e
  have:=h.2 a ha b
  rw [getD_eq hl] at this
  simp [List.getD,hl,BitVec.getLsbD_or,this]
 ·have:=h.2 a ha b
  simp only [List.getD] at this ⊢
  rw [List.getElem?_set_ne (fun e'=>e e'.symm),this];simp [e]
def ou (rs:List (ByteArray×List Int)) (a b:Nat):Bool:=rs.any fun r=>decide ((a:Int)∈r.2)&&decide ((b:Int)∈r.2)
theorem gS {l:List Int} {q i:Nat} (hq:q<l.length) (hi:l[q]=(i:Int)) (a:Nat):(a:Int)∈l.take (q+1)↔(a:Int)∈l.take q∨a=i:=by
 rw [bT hq,List.mem_append,List.mem_singleton,hi]
 exact or_congr Iff.rfl ⟨fun h=>by omega,fun h=>by rw [h]⟩
theorem B5 {rs:List (ByteArray×List Int)} {l:List Int} {q i a b:Nat} {all:B64} (hq:q<l.length) (hi:l[q]=(i:Int)) (hall:∀ b:Nat,all.getLsbD b=decide ((b:Int)∈l)):
  ((decide (a≠b)&&(ou rs a b||(decide ((a:Int)∈l.take q)&&decide ((b:Int)∈l))))||(decide (a=i)&&(all&&& ~~~(BitVec.twoPow 64 i)).getLsbD b))=
  (decide (a≠b)&&(ou rs a b||(decide ((a:Int)∈l.take (q+1))&&decide ((b:Int)∈l)))):=by
 have hm:decide ((a:Int)∈l.take (q+1))=(decide ((a:Int)∈l.take q)||decide (a=i)):=by
  rw [Bool.eq_iff_iff,Bool.or_eq_true,decide_eq_true_iff,decide_eq_true_iff,decide_eq_true_iff,gS hq hi]
 rw [hm,BitVec.getLsbD_and,BitVec.getLsbD_not,BitVec.getLsbD_twoPow,hall]
 by_cases hb:(b:Int)∈l
 ·have hb64:b<64:=cq (x:=all) (by rw [hall];simpa using hb)
  by_cases e:a=i
  ·subst e
   by_cases e2:a=b
   ·subst e2;simp [hb64]
   ·simp [e2,hb,hb64]
  ·simp [e]
 ·simp [hb]
theorem wO {rs:List (ByteArray×List Int)} {k a b:Nat} (hk:k<rs.length):ou (rs.take (k+1)) a b=(ou (rs.take k) a b||(decide ((a:Int)∈rs[k].2)&&decide ((b:Int)∈rs[k].2))):=by
 unfold ou
 rw [bT hk];simp only [List.any_append,List.any_cons,List.any_nil,Bool.or_false]
theorem iE (S:Sch) (hS:SB S) (hV:Valid S):FnP Tryz.prog 127 [gK S] (fun v=>∃ G,v=bS G∧IsG S G):=by
 refine FnP.of func127 rfl ntmps127 (by simp) fun m0 w0 F R0=>?_
 have hb:=hV.n2
 have hb2:=hV.r2
 refine Z2 rfl rfl rfl ?_
 refine Gr rfl ?_
 iterate 5 refine A1 rfl ?_
 refine Z4 rfl rfl rfl rfl rfl ?_
 refine Gl rfl (st:=fun x_0:Nat×List B64=>mkS [(3,.osl 1 1 S.attrs.length),(16,.pv (.sl none S.rels.length (bj S.rels))),(17,.pv (.int .i64 S.rels.length)),(18,.pv (.int .i64 x_0.1))] [(1,.cells 191 (kz x_0.2))] 2)
  (I:=fun x_0=>x_0.1≤S.rels.length∧yV S.attrs.length x_0.2 (fun a b=>decide (a≠b)&&ou (S.rels.take x_0.1) a b)) (μ:=fun x_0=>S.rels.length-x_0.1) (x0:=(0,List.replicate S.attrs.length 0#64)) (Io (aS rfl) ⟨congrArg (fun c=>some (Ob.cells 191 c)) ((ct (.int .u64 0) (S.attrs.length*1)).trans (by simp)),trivial⟩ rfl rfl) (⟨Nat.zero_le _,(yV.zero _).congr (fun a _ b=>by simp [ou])⟩) ?_
 rintro ⟨k,G⟩ ⟨hk,hG⟩
 try simp only at hk hG ⊢
 refine Z1 rfl rfl ?_
 refine Gp rfl rfl (fun hc19=>?_) (fun hc19=>?_)
 ·have hlt:k<S.rels.length:=by omega
  have hrow:=cW hlt
  have hne:=ew hlt
  have hll:=hS.rl _ (List.getElem_mem hlt)
  have hrng:=hV.rng _ (List.getElem_mem hlt)
  refine Il ?_
  refine Z1 rfl rfl ?_
  refine Rs 21 rfl rfl (db ⟨_,underlying30,rfl⟩ Eu rfl hrow rfl) ?_
  refine Y2 rfl rfl ?_
  refine Z1 rfl rfl ?_
  refine Z4 rfl rfl rfl rfl rfl ?_
  refine Gl rfl (st:=fun x_1:Nat×B64=>mkS [(3,.osl 1 1 S.attrs.length),(5,.ptr 2 0),(6,.pv (bz x_1.2)),(16,.pv (.sl none S.rels.length (bj S.rels))),(17,.pv (.int .i64 S.rels.length)),(18,.pv (.int .i64 k)),(23,.pv (ak S.rels[k].2)),(24,.pv (.int .i64 S.rels[k].2.length)),(25,.pv (.int .i64 x_1.1))] [(1,.cells 191 (kz G)),(2,.mix 30 [.pv (.str S.rels[k].1),.pv (ak S.rels[k].2)])] 3)
   (I:=fun x_1=>x_1.1≤S.rels[k].2.length∧∀ b:Nat,x_1.2.getLsbD b=decide ((b:Int)∈S.rels[k].2.take x_1.1)) (μ:=fun x_1=>S.rels[k].2.length-x_1.1) (x0:=(0,0#64)) (Io (aS rfl) (aO rfl) rfl rfl) (⟨Nat.zero_le _,fun b=>by simp⟩) ?_
  rintro ⟨q,all⟩ ⟨hq,hall⟩
  try simp only at hq hall ⊢
  refine Z1 rfl rfl ?_
  refine Gp rfl rfl (fun hc26=>?_) (fun hc26=>?_)
  ·have hql:q<S.rels[k].2.length:=by omega
   have hv:=cE hql
   have hne2:=aH hql
   have hrq:=hrng _ (List.getElem_mem hql)
   obtain ⟨i,hi⟩:=Int.eq_ofNat_of_zero_le hrq.1
   have hof:FnP Tryz.prog 132 [.int .i64 S.rels[k].2[q]] (· =bz (BitVec.twoPow 64 i)):=by rw [hi];exact fi i (by omega)
   refine Il ?_
   refine Z1 rfl rfl ?_
   first | refine A2 rfl (by assumption) ?_ | refine A1 rfl ?_
   refine A1 rfl ?_
   refine Z2 rfl rfl rfl ?_
   refine Rs 31 rfl rfl (ae call132 hof rfl) ?_
   refine Rs 32 rfl rfl (kW rfl rfl) ?_
   refine A1 rfl ?_
   refine Z2 rfl rfl rfl ?_
   exact ⟨(q+1,all|||BitVec.twoPow 64 i),Io (aS rfl) (aO rfl) rfl rfl,⟨by simp only;omega,fun b=>by simp only;rw [BitVec.getLsbD_or,hall,BitVec.getLsbD_twoPow,Bool.eq_iff_iff,Bool.or_eq_true,decide_eq_true_iff,decide_eq_true_iff,gS hql hi,Bool.and_eq_true,decide_eq_true_iff,decide_eq_true_iff];exact or_congr Iff.rfl ⟨fun h=>h.2.symm,fun h=>⟨by omega,h.symm⟩⟩⟩,by simp only;omega⟩
  ·rw [List.take_of_length_le (by omega)] at hall
   refine Gx rfl ?_
   refine Z4 rfl rfl rfl rfl rfl ?_
   refine Gl rfl (st:=fun x_2:Nat×List B64=>mkS [(3,.osl 1 1 S.attrs.length),(6,.pv (bz all)),(16,.pv (.sl none S.rels.length (bj S.rels))),(17,.pv (.int .i64 S.rels.length)),(18,.pv (.int .i64 k)),(35,.pv (ak S.rels[k].2)),(36,.pv (.int .i64 S.rels[k].2.length)),(37,.pv (.int .i64 x_2.1))] [(1,.cells 191 (kz x_2.2))] 3)
    (I:=fun x_2=>x_2.1≤S.rels[k].2.length∧yV S.attrs.length x_2.2 (fun a b=>decide (a≠b)&&(ou (S.rels.take k) a b||(decide ((a:Int)∈S.rels[k].2.take x_2.1)&&decide ((b:Int)∈S.rels[k].2))))) (μ:=fun x_2=>S.rels[k].2.length-x_2.1) (x0:=(0,G)) (Io (aS rfl) (aO rfl) rfl rfl) (⟨Nat.zero_le _,hG.congr (fun a _ b=>by simp)⟩) ?_
   rintro ⟨q2,G2⟩ ⟨hq2,hG2⟩
   try simp only at hq2 hG2 ⊢
   refine Z1 rfl rfl ?_
   refine Gp rfl rfl (fun hc38=>?_) (fun hc38=>?_)
   ·have hql:q2<S.rels[k].2.length:=by omega
    have hv:=cE hql
    have hne2:=aH hql
    have hrq:=hrng _ (List.getElem_mem hql)
    obtain ⟨i,hi⟩:=Int.eq_ofNat_of_zero_le hrq.1
    have hil:i<G2.length:=by rw [hG2.1];omega
    have hgl:=hG2.1
    have hvi:=fJ hil
    have hof:FnP Tryz.prog 132 [.int .i64 S.rels[k].2[q2]] (· =bz (BitVec.twoPow 64 i)):=by rw [hi];exact fi i (by omega)
    refine Il ?_
    refine Z1 rfl rfl ?_
    first | refine A2 rfl (by assumption) ?_ | refine A1 rfl ?_
    refine A1 rfl ?_
    refine Ge rfl follows [0,1,2,3,4,5,6,7,8,9,10] (by kernel_rfl) ?_
    iterate 2 refine D1 rfl rfl ?_
    refine Ds 43 [_] rfl rfl rfl (fun τ h=>aa i underlying186 BC (Ee h 0 rfl rfl) (Eo h 0 rfl rfl) (Ee h 1 rfl rfl) hi (by omega)) rfl (by kernel_rfl) ?_
    refine Ds 44 [_] rfl rfl rfl (fun τ h=>aC ⟨_,underlying191,rfl⟩ (Ee h 0 rfl rfl) (Eo h 0 rfl rfl) hvi) rfl (by kernel_rfl) ?_
    iterate 2 refine D1 rfl rfl ?_
    refine Ds 47 [] rfl rfl rfl (fun τ h=>ae call132 hof (h.bt rfl)) rfl (by kernel_rfl) ?_
    refine Ds 48 [] rfl rfl rfl (fun τ h=>cv (Ee h 0 rfl rfl) (Ee h 1 rfl rfl)) rfl (by kernel_rfl) ?_
    refine Ds 49 [] rfl rfl rfl (fun τ h=>kW (Ee h 0 rfl rfl) (Ee h 1 rfl rfl)) rfl (by kernel_rfl) ?_
    refine Ds 50 [_] rfl rfl rfl (fun τ h=>aa i underlying186 BC (Ee h 0 rfl rfl) (Eo h 0 rfl rfl) (Ee h 1 rfl rfl) hi (by omega)) rfl (by kernel_rfl) ?_
    refine DL.step (d:=none) [_] rfl rfl rfl (fun τ h=>aF BC (Ee h 0 rfl rfl) (Eo h 0 rfl rfl) (Ee h 1 rfl rfl) rfl (by simp;omega)) rfl (by kernel_rfl) ?_
    refine ⟨by kernel_rfl,?_⟩
    refine Z2 rfl rfl rfl ?_
    exact ⟨(q2+1,G2.set i (G2[i]|||(all&&& ~~~(BitVec.twoPow 64 i)))),Io (aS rfl) ⟨by show some (Ob.cells _ _)=_;simp [List.map_set],trivial⟩ rfl rfl,⟨by simp only;omega,(hG2.or (by omega) _).congr (fun a _ b=>B5 hql hi hall)⟩,by simp only;omega⟩
   ·have hG3:=hG2.congr (q:=fun a b=>decide (a≠b)&&ou (S.rels.take (k+1)) a b) (fun a _ b=>by rw [show S.rels[k].2.take q2=S.rels[k].2 from List.take_of_length_le (by omega),wO hlt])
    refine Gx rfl ?_
    refine Z2 rfl rfl rfl ?_
    exact ⟨(k+1,G2),Io (aS rfl) (aO rfl) rfl rfl,⟨by simp only;omega,hG3⟩,by simp only;omega⟩
 ·rw [List.take_of_length_le (by omega)] at hG
  refine Gx rfl ?_
  refine Im (Ir 1 rfl rfl) ?_
  refine Z2 rfl rfl rfl ?_
  refine Im (St.uQ [2]) ?_
  refine Gt rfl ?_
  exact ⟨_,_,rfl,rfl,G,by show PV.sl none S.attrs.length (kz G)=_;rw [← hG.1],hG.1,fun a ha b=>by rw [hG.2 a (by rw [← hG.1];exact ha) b];rfl⟩
theorem ir {G:List B64} {next:B64} {k c:Nat} {near:B64} (h:near.getLsbD c=(List.range k).any fun b=>next.getLsbD b&&(G.getD b 0#64).getLsbD c) (hk:k<G.length):
  (next.getLsbD k=true→(near|||G[k]).getLsbD c=(List.range (k+1)).any fun b=>next.getLsbD b&&(G.getD b 0#64).getLsbD c)∧
  (next.getLsbD k=false→near.getLsbD c=(List.range (k+1)).any fun b=>next.getLsbD b&&(G.getD b 0#64).getLsbD c):=by
 rw [List.range_succ,List.any_append, ← h,BitVec.getLsbD_or]
 simp only [List.any_cons,List.any_nil,Bool.or_false,getD_eq hk]
 exact ⟨fun e=>by rw [e];simp,fun e=>by rw [e];simp⟩
theorem pj (G:List B64) (hG:G.length≤12) (rest:B64) (a:Nat) (ha:a<64):FnP Tryz.prog 131 [bS G,bz rest,.int .i64 a] (· =bz (compB G rest a)):=by
 refine FnP.of func131 rfl ntmps131 (by simp) fun m0 w0 F R0=>?_
 refine Z1 rfl rfl ?_
 refine Z1 rfl rfl ?_
 refine Rs 13 rfl rfl (ae call132 (fi a ha) rfl) ?_
 refine A1 rfl ?_
 refine Z2 rfl rfl rfl ?_
 refine Gl rfl (st:=fun x_0:B64×B64=>mkS [(0,.pv (bS G)),(1,.pv (bz rest)),(7,.pv (bz x_0.1)),(8,.pv (bz x_0.2))] [] 0)
  (I:=fun x_0=>CInv G rest a x_0.1 x_0.2) (μ:=fun x_0=>Cv x_0.1 x_0.2) (x0:=(BitVec.twoPow 64 a,BitVec.twoPow 64 a)) (Io (aS rfl) trivial rfl rfl) (CInv.first ha) ?_
 rintro ⟨out,next⟩ hI
 try simp only at hI ⊢
 refine Z1 rfl rfl ?_
 refine Rs 16 rfl rfl (nA (Y:=0#64) rfl rfl) ?_
 refine Gp rfl rfl (fun hc16=>?_) (fun hc16=>?_)
 ·refine Il ?_
  refine Z1 rfl rfl ?_
  refine Z3 rfl rfl rfl rfl ?_
  refine Gl rfl (st:=fun x_1:Nat×B64=>mkS [(0,.pv (bS G)),(1,.pv (bz rest)),(7,.pv (bz out)),(8,.pv (bz next)),(9,.pv (bz x_1.2)),(17,.pv (bS G)),(18,.pv (.int .i64 G.length)),(19,.pv (.int .i64 x_1.1))] [] 0)
   (I:=fun x_1=>x_1.1≤G.length∧∀ c,x_1.2.getLsbD c=(List.range x_1.1).any fun b=>next.getLsbD b&&(G.getD b 0#64).getLsbD c) (μ:=fun x_1=>G.length-x_1.1) (x0:=(0,0#64)) (Io (aS rfl) trivial rfl rfl) (⟨Nat.zero_le _,fun c=>by simp⟩) ?_
  rintro ⟨k,near⟩ ⟨hk,hnear⟩
  try simp only at hk hnear ⊢
  refine Z1 rfl rfl ?_
  refine Gp rfl rfl (fun hc20=>?_) (fun hc20=>?_)
  ·have hlt:k<G.length:=by omega
   have hv:=fJ hlt
   have hne:=gN hlt
   refine Il ?_
   refine Z2 rfl rfl rfl ?_
   first | refine A2 rfl (by assumption) ?_ | refine A1 rfl ?_
   refine Y2 rfl rfl ?_
   refine Z2 rfl rfl rfl ?_
   refine Rs 26 rfl rfl (ae call130 (lr next k (by omega)) rfl) ?_
   refine Gc rfl rfl (fun hc26=>?_) (fun hc26=>?_)
   ·refine Z2 rfl rfl rfl ?_
    refine Rs 29 rfl rfl (kW rfl rfl) ?_
    refine A1 rfl ?_
    refine Z2 rfl rfl rfl ?_
    exact ⟨(k+1,near|||G[k]),Io (aS rfl) trivial rfl rfl,⟨by simp only;omega,fun c=>(ir (hnear c) hlt).1 hc26⟩,by simp only;omega⟩
   ·refine Il ?_
    refine Z2 rfl rfl rfl ?_
    exact ⟨(k+1,near),Io (aS rfl) trivial rfl rfl,⟨by simp only;omega,fun c=>(ir (hnear c) hlt).2 hc26⟩,by simp only;omega⟩
  ·have hkG:k=G.length:=by omega
   rw [hkG] at hnear
   refine Gx rfl ?_
   refine Z2 rfl rfl rfl ?_
   refine Rs 33 rfl rfl (nK rfl rfl) ?_
   refine A1 rfl ?_
   refine Rs 35 rfl rfl (cv rfl rfl) ?_
   refine A1 rfl ?_
   refine Z2 rfl rfl rfl ?_
   refine Rs 38 rfl rfl (kW rfl rfl) ?_
   refine A1 rfl ?_
   exact ⟨(out|||(near&&&rest&&& ~~~out),near&&&rest&&& ~~~out),Io (aS rfl) trivial rfl rfl,hI.next hnear,ET hc16⟩
 ·have hz:next=0#64:=Classical.byContradiction hc16
  subst hz
  refine Gx rfl ?_
  refine Z2 rfl rfl rfl ?_
  refine Gt rfl ?_
  exact ⟨_,_,rfl,rfl,congrArg (fun x=>bz x) hI.last⟩
theorem gU (G:List B64) (rest:B64):∀ k,(compsN G rest k).1.length≤k
 | 0=>Nat.le_refl _
 | k+1=>by
   have:=gU G rest k
   simp only [compsN]
   split
   ·simp;omega
   ·omega
theorem AY (L:List B64) (x:B64):kz (L++[x])=kz L++[bz x]:=by simp
theorem lO (G:List B64) (hG:G.length≤12) (rest:B64):FnP Tryz.prog 182 [bS G,bz rest] (· =bS (compsN G rest G.length).1):=by
 refine FnP.of func182 rfl ntmps182 (by simp) fun m0 w0 F R0=>?_
 refine Z1 rfl rfl ?_
 refine Z1 rfl rfl ?_
 refine Im (Iu 5 0 1 191 rfl rfl) ?_
 refine Z3 rfl rfl rfl rfl ?_
 refine Gl rfl (st:=fun x_0:Nat×List B64×B64=>mkS [(0,.pv (bS G)),(1,.pv (bz x_0.2.2)),(5,.gsl 0 1 x_0.2.1.length),(9,.pv (.int .i64 G.length)),(10,.pv (.int .i64 x_0.1))] [(0,.gro 191 (kz x_0.2.1))] 1)
  (I:=fun x_0=>x_0.1≤G.length∧compsN G rest x_0.1=(x_0.2.1,x_0.2.2)) (μ:=fun x_0=>G.length-x_0.1) (x0:=(0,[],rest)) (Io (aS rfl) (aO rfl) rfl rfl) (⟨Nat.zero_le _,rfl⟩) ?_
 rintro ⟨k,L,R⟩ ⟨hk,hc⟩
 try simp only at hk hc ⊢
 refine Z1 rfl rfl ?_
 refine Gp rfl rfl (fun hc11=>?_) (fun hc11=>?_)
 ·have hlt:k<G.length:=by omega
  have hsl:(kz L).length=L.length*1:=by simp
  have hLl:L.length≤k:=by have:=gU G rest k;rw [hc] at this;exact this
  have hn:compsN G rest (k+1)=if R.getLsbD k=true then (L++[compB G R k],R&&& ~~~compB G R k) else (L,R):=by simp only [compsN,hc]
  refine Il ?_
  refine Z2 rfl rfl rfl ?_
  refine Z2 rfl rfl rfl ?_
  refine Rs 15 rfl rfl (ae call130 (lr R k (by omega)) rfl) ?_
  refine Gc rfl rfl (fun hc15=>?_) (fun hc15=>?_)
  ·rw [if_pos hc15] at hn
   refine Z3 rfl rfl rfl rfl ?_
   refine Rs 19 rfl rfl (ae call131 (pj G hG R k (by omega)) rfl) ?_
   refine A1 rfl ?_
   refine Gr rfl ?_
   iterate 5 refine A1 rfl ?_
   refine Z2 rfl rfl rfl ?_
   refine Rs 26 rfl rfl (cv rfl rfl) ?_
   refine A1 rfl ?_
   refine Z2 rfl rfl rfl ?_
   exact ⟨(k+1,L++[compB G R k],R&&& ~~~compB G R k),Ip [2] ⟨rfl,rfl,by simp;rfl,rfl,rfl,trivial⟩ ⟨congrArg (fun c=>some (Ob.gro 191 c)) (AY L _).symm,trivial⟩ rfl rfl (by decide) rfl,⟨by simp only;omega,hn⟩,by simp only;omega⟩
  ·rw [if_neg (by rw [hc15];decide)] at hn
   refine Il ?_
   refine Z2 rfl rfl rfl ?_
   exact ⟨(k+1,L,R),Io (aS rfl) (aO rfl) rfl rfl,⟨by simp only;omega,hn⟩,by simp only;omega⟩
 ·refine Gx rfl ?_
  refine Im (Ir 0 rfl rfl) ?_
  refine Z2 rfl rfl rfl ?_
  refine Gt rfl ?_
  exact ⟨_,_,rfl,rfl,by rw [show G.length=k by omega,hc];simp;rfl⟩
end
section
open Go.RowKit Mk
set_option maxHeartbeats 1000000
section
variable {C:Ctx} {n:Nat} {σ τ:St} {ops:Array Oper} {dst:Option Tmp} {ty:TypeId} {ts:Array TypeId} {pos:String} {after:Array Edge} {gd:Option (Nat×Bool)}
theorem Agr.e9 {s:OS} {rd:List Nat} {y:Operand} {xs:Array Operand} (h:Agr n ops ⟨dst,.call { callee:= .value y,args:=xs,argTypes:=ts },ty,pos,after,gd⟩ σ τ s rd):xs.toList.map (τ.ev n)=xs.toList.map (σ.ev n):=by
 apply List.map_congr_left
 intro x hx
 obtain ⟨i,hi⟩:=List.getElem?_of_mem hx
 exact h.e (i+1) x (by simpa [Op.operands,Call.operands,Nat.add_comm] using hi)
theorem bJ {f:FuncId} {xs:Array Operand} {y:Operand} {fs cs:List V} {args:List V} {os:List (Nat×Ob)} {k':Nat} {r:V} {X:Nat→Option Ob} {vs:List V} (ids:List Nat) (base:Nat) (hc:bN C.P f) (hf:FnO C.P f ids.length k' args os (fun v ob'=>v=r∧ob'=X)) (hy:σ.ev n y= .fn (.func f) fs cs) (hxs:xs.toList.map (σ.ev n)=vs) (hargs:fs++vs++cs=V.renL (cm ids base) args)
  (ha:V.allL (okR ids.length 0) args=true) (hos:os.map (·.1)=(List.range ids.length).map (big+ ·)) (hob:os.all (fun p=>p.2.all (okR ids.length 0))=true) (hobs:dD σ (cm ids base) os)
  (hnd:ids.Nodup) (hav:(nwO base k').all σ.av=true):
  XJ C n ⟨dst,.call { callee:= .value y,args:=xs,argTypes:=ts },ty,pos,after,gd⟩ σ ⟨r.ren (cm ids base),wrO ids base k' X,nwO base k'⟩:=
 pf ids base hc hy (by rw [hxs];exact hargs) ha hos hob hobs hnd hav hf (by rintro _ _ ⟨rfl,rfl⟩;rfl)
end
def b3 (q:List Int) (W:B64→Int→List Int→List Int) (par:Int) (P:List Int) (c:B64):List Int:=
 match q.find? (fun a=>c.getLsbD a.toNat) with
 | some a=>W (c&&& ~~~(BitVec.twoPow 64 a.toNat)) a (P.set a.toNat par)
 | none=>P
noncomputable def placeF (G:List B64) (q:List Int):Nat→B64→Int→List Int→List Int
 | 0,_,_,P=>P
 | f+1,rest,par,P=>(compsN G rest G.length).1.foldl (b3 q (placeF G q f) par) P
abbrev plF (G:List B64) (q:List Int):V:= .fn (.func 255) [] [.pv (.rp [bS G] 0),.pv (.rp [ak q] 0),.ptr big 0,.ptr 1000001 0]
abbrev plA (G:List B64) (q:List Int) (rest:B64) (par:Int):List V:=[.pv (bz rest),.pv (.int .i64 par),.pv (.rp [bS G] 0),.pv (.rp [ak q] 0),.ptr big 0,.ptr 1000001 0]
abbrev plO (G:List B64) (q:List Int) (P:List Int):List (Nat×Ob):=[(big,.mix 271 [.osl 1000002 1 G.length]),(1000001,.mix 295 [plF G q]),(1000002,EW P)]
theorem z6 {q:List Int} {p:Int→Bool} {k:Nat} (hk:k<q.length) (hno:q.take k |>.all (fun a=> !p a)) (h:p q[k]=true):q.find? p=some q[k]:=by
 rw [List.find?_eq_some_iff_append]
 refine ⟨h,q.take k,q.drop (k+1),?_,fun a ha=>List.all_eq_true.1 hno a ha⟩
 conv=>lhs;rw [← List.take_append_drop k q]
 rw [List.drop_eq_getElem_cons hk]
theorem lZ (G:List B64) (hG:G.length≤12) (q:List Int) (hq:∀ a∈q,0≤a∧a<G.length) (hql:q.length≤1000) (W:B64→Int→List Int→List Int) (hWl:∀ r p P,(W r p P).length=P.length) (rest:B64) (par:Int)
  (hrec:∀ c∈(compsN G rest G.length).1,∀ (a:Nat) (P:List Int),a<G.length→c.getLsbD a=true→P.length=G.length→FnO Tryz.prog 255 3 0 (plA G q (c&&& ~~~(BitVec.twoPow 64 a)) a) (plO G q P) (fun r ob'=>r= .tup []∧ob'=ar (plO G q (W (c&&& ~~~(BitVec.twoPow 64 a)) a P))))
  (P:List Int) (hP:P.length=G.length):
  FnO Tryz.prog 255 3 0 (plA G q rest par) (plO G q P) (fun r ob'=>r= .tup []∧ob'=ar (plO G q ((compsN G rest G.length).1.foldl (b3 q W par) P))):=by
 refine FnO.of func255 rfl ntmps255 (by simp) fun m0 w0 F R0=>?_
 have hcl:=gU G rest G.length
 have hlen:∀ (Q:List Int) c,(b3 q W par Q c).length=Q.length:=by
  intro Q c;unfold b3;split
  ·rw [hWl];simp
  ·rfl
 refine Gr rfl ?_
 first | refine A1 rfl ?_ | refine A2 rfl (by assumption) ?_
 refine A1 rfl ?_
 refine Rs 14 rfl rfl (ae call182 (lO G hG rest) rfl) ?_
 refine Y2 rfl rfl ?_
 refine Gl rfl (st:=fun x_0:Nat×List Int=>mkS [(1,.pv (.int .i64 par)),(3,.pv (.rp [ak q] 0)),(4,.ptr big 0),(5,.ptr 1000001 0),(14,.pv (bS (compsN G rest G.length).1)),(15,.pv (.int .i64 (compsN G rest G.length).1.length)),(16,.pv (.int .i64 x_0.1))] [(big,.mix 271 [.osl 1000002 1 G.length]),(1000001,.mix 295 [plF G q]),(1000002,EW x_0.2)] 0)
  (I:=fun x_0=>x_0.1≤(compsN G rest G.length).1.length∧x_0.2.length=P.length∧x_0.2=((compsN G rest G.length).1.take x_0.1).foldl (b3 q W par) P) (μ:=fun x_0=>(compsN G rest G.length).1.length-x_0.1) (x0:=(0,P)) (Io (aS rfl) (aO rfl) rfl rfl) (⟨Nat.zero_le _,rfl,rfl⟩) ?_
 rintro ⟨k,Q⟩ ⟨hk,hQl,hQ⟩
 try simp only at hk hQl hQ ⊢
 refine Z1 rfl rfl ?_
 refine Gp rfl rfl (fun hc17=>?_) (fun hc17=>?_)
 ·have hlt:k<(compsN G rest G.length).1.length:=by omega
  have hv:=fJ hlt
  have hne:=gN hlt
  have hcm:=List.getElem_mem hlt
  have hfs:((compsN G rest G.length).1.take (k+1)).foldl (b3 q W par) P=b3 q W par Q (compsN G rest G.length).1[k]:=by rw [bT hlt,List.foldl_append, ← hQ];rfl
  generalize hcd:(compsN G rest G.length).1[k]=c at*
  refine Il ?_
  refine Z1 rfl rfl ?_
  first | refine A2 rfl (by assumption) ?_ | refine A1 rfl ?_
  refine A1 rfl ?_
  refine Gr rfl ?_
  first | refine A1 rfl ?_ | refine A2 rfl (by assumption) ?_
  refine Y2 rfl rfl ?_
  refine Gl rfl (st:=fun x_1:Nat=>mkS [(1,.pv (.int .i64 par)),(3,.pv (.rp [ak q] 0)),(4,.ptr big 0),(5,.ptr 1000001 0),(9,.pv (bz c)),(14,.pv (bS (compsN G rest G.length).1)),(15,.pv (.int .i64 (compsN G rest G.length).1.length)),(16,.pv (.int .i64 k)),(20,.pv (ak q)),(21,.pv (.int .i64 q.length)),(22,.pv (.int .i64 x_1))] [(big,.mix 271 [.osl 1000002 1 G.length]),(1000001,.mix 295 [plF G q]),(1000002,EW Q)] 0)
   (I:=fun x_1=>x_1≤q.length∧(q.take x_1).all (fun a=> !c.getLsbD a.toNat)=true) (μ:=fun x_1=>q.length-x_1) (x0:=(0)) (Io (aS rfl) (aO rfl) rfl rfl) (⟨Nat.zero_le _,rfl⟩) ?_
  rintro j ⟨hj,hno⟩
  refine Z1 rfl rfl ?_
  refine Gp rfl rfl (fun hc23=>?_) (fun hc23=>?_)
  ·have hjl:j<q.length:=by omega
   have hvj:=cE hjl
   have hnej:=aH hjl
   have hqj:=hq _ (List.getElem_mem hjl)
   obtain ⟨a,ha⟩:=Int.eq_ofNat_of_zero_le hqj.1
   have hat:q[j].toNat=a:=by omega
   have hhas:FnP Tryz.prog 130 [bz c,.int .i64 q[j]] (· = .bool (c.getLsbD a)):=by rw [ha];exact lr c a (by omega)
   have hof:FnP Tryz.prog 132 [.int .i64 q[j]] (· =bz (BitVec.twoPow 64 a)):=by rw [ha];exact fi a (by omega)
   refine Il ?_
   refine Z1 rfl rfl ?_
   first | refine A2 rfl (by assumption) ?_ | refine A1 rfl ?_
   refine A1 rfl ?_
   refine Z2 rfl rfl rfl ?_
   refine Rs 28 rfl rfl (ae call130 hhas rfl) ?_
   refine Gc rfl rfl (fun hc28=>?_) (fun hc28=>?_)
   ·have hgo:=hrec c hcm a (Q.set a par) (by omega) hc28 (by simp;omega)
    have hpl:b3 q W par Q c=W (c&&& ~~~(BitVec.twoPow 64 a)) a (Q.set a par):=by unfold b3;rw [z6 hjl hno (by rw [hat];exact hc28)];simp only [hat,ha,Int.toNat_natCast]
    have hlW:(W (c&&& ~~~(BitVec.twoPow 64 a)) a (Q.set a par)).length=P.length:=by rw [hWl];simp;omega
    have hset:aE (Q.set a par)=(aE Q).set (a*1) (.int .i64 par):=by simp [List.map_set]
    refine Z1 rfl rfl ?_
    first | refine A1 rfl ?_ | refine A2 rfl (by assumption) ?_
    refine Y2 rfl rfl ?_
    refine Rs 33 rfl rfl (aa a underlying22 sz3 rfl rfl rfl ha (by omega)) ?_
    refine RL.step (d:=none) rfl rfl (aF sz3 rfl rfl rfl rfl (by simp;omega)) ?_
    refine Ge rfl follows [0,1,2,3,4,5,6] (by kernel_rfl) ?_
    first | refine D1 rfl rfl ?_ | refine D2 rfl rfl (by assumption) ?_
    iterate 2 refine D1 rfl rfl ?_
    refine Ds 37 [] rfl rfl rfl (fun τ h=>ae call132 hof (h.bt rfl)) rfl (by kernel_rfl) ?_
    refine Ds 38 [] rfl rfl rfl (fun τ h=>cv (Ee h 0 rfl rfl) (Ee h 1 rfl rfl)) rfl (by kernel_rfl) ?_
    refine D1 rfl rfl ?_
    refine Ds 40 [big,1000001,1000002] rfl rfl rfl (fun τ h=>bJ [big,1000001,1000002] 0 call255 hgo (Ee h 0 rfl rfl) (h.e9.trans rfl) (by rw [← ha];rfl) rfl rfl rfl ⟨(Eo h 0 rfl rfl),(Eo h 1 rfl rfl),((h.o 2 _ rfl).trans (congrArg (fun c=>some (Ob.cells 3 c)) hset.symm)),trivial⟩ (by decide) rfl) rfl (by kernel_rfl) ?_
    refine ⟨by kernel_rfl,?_⟩
    refine Gx rfl ?_
    refine Z2 rfl rfl rfl ?_
    exact ⟨(k+1,W (c&&& ~~~(BitVec.twoPow 64 a)) a (Q.set a par)),Io (aS rfl) (aO rfl) rfl rfl,⟨by simp only;omega,hlW,by simp only;rw [hfs,hpl]⟩,by simp only;omega⟩
   ·refine Il ?_
    refine Z2 rfl rfl rfl ?_
    exact ⟨(j+1),Io (aS rfl) (aO rfl) rfl rfl,⟨by omega,BE hjl hno (by rw [hat,hc28];rfl)⟩,by omega⟩
  ·have hnone:q.find? (fun a=>c.getLsbD a.toNat)=none:=by rw [List.take_of_length_le (by omega)] at hno;rw [List.find?_eq_none];intro x hx;have:=List.all_eq_true.1 hno x hx;simpa using this
   have hpl:b3 q W par Q c=Q:=by unfold b3;rw [hnone]
   refine Gx rfl ?_
   refine Z2 rfl rfl rfl ?_
   exact ⟨(k+1,Q),Io (aS rfl) (aO rfl) rfl rfl,⟨by simp only;omega,hQl,by simp only;rw [hfs,hpl]⟩,by simp only;omega⟩
 ·refine Gx rfl ?_
  exact ⟨[],plO G q ((compsN G rest G.length).1.foldl (b3 q W par) P),[],Io trivial (by rw [List.take_of_length_le (by omega)] at hQ;rw [← hQ];exact ⟨by kernel_rfl,by kernel_rfl,by kernel_rfl,trivial⟩) rfl rfl,rfl,rfl,rfl,rfl,rfl⟩
theorem kr {G:List B64} {R:B64} {a i:Nat} (ha:R.getLsbD a=true) (h:(compB G R a).getLsbD i=true):R.getLsbD i=true:=by
 cases dG h with
 | refl=>exact ha
 | step _ _ h=>exact h
theorem ky (G:List B64) (rest:B64):∀ k,(∀ i,(compsN G rest k).2.getLsbD i=true→rest.getLsbD i=true)∧∀ c∈(compsN G rest k).1,∀ i,c.getLsbD i=true→rest.getLsbD i=true
 | 0=>⟨fun _ h=>h,fun c hc=>by simp [compsN] at hc⟩
 | k+1=>by
   obtain ⟨h1,h2⟩:=ky G rest k
   simp only [compsN]
   split
   ·rename_i hk
    refine ⟨fun i hi=>?_,fun c hc i hi=>?_⟩
    ·rw [BitVec.getLsbD_and,Bool.and_eq_true] at hi;exact h1 i hi.1
    ·rcases List.mem_append.1 hc with h | h
     ·exact h2 c h i hi
     ·rw [List.mem_singleton.1 h] at hi;exact h1 i (kr hk hi)
   ·exact ⟨h1,h2⟩
def cC (x:B64):Nat:=(List.range 64).countP fun i=>x.getLsbD i
theorem pb {x y:B64} (h:∀ i,x.getLsbD i=true→y.getLsbD i=true) {j:Nat} (h1:x.getLsbD j=false) (h2:y.getLsbD j=true):cC x<cC y:=
 lx (fun a _ ha=>h a ha) ⟨j,List.mem_range.2 (cq h2),h1,h2⟩
theorem bA (c:B64) (a i:Nat):(c&&& ~~~(BitVec.twoPow 64 a)).getLsbD i=(c.getLsbD i&&decide (a≠i)):=by
 rw [BitVec.getLsbD_and,BitVec.getLsbD_not,BitVec.getLsbD_twoPow]
 by_cases hi:i<64
 ·by_cases e:a=i
  ·subst e;simp [hi]
  ·simp [hi,e]
 ·rw [BitVec.getLsbD_of_ge c i (by omega)];rfl
theorem tO {G:List B64} {rest c:B64} {k a:Nat} (hc:c∈(compsN G rest k).1) (ha:c.getLsbD a=true):cC (c&&& ~~~(BitVec.twoPow 64 a))<cC rest:=by
 have hs:=(ky G rest k).2 c hc
 refine pb (fun i hi=>?_) (j:=a) ?_ (hs a ha)
 ·rw [bA,Bool.and_eq_true] at hi;exact hs i hi.1
 ·rw [bA];simp
theorem oh {x:B64} (h:cC x=0) (i:Nat):x.getLsbD i=false:=by
 cases e:x.getLsbD i with
 | false=>rfl
 | true=>
   have:=List.countP_eq_zero.1 h i (List.mem_range.2 (cq e))
   exact absurd e this
theorem mN (G:List B64) {rest:B64} (h:∀ i,rest.getLsbD i=false):∀ k,compsN G rest k=([],rest)
 | 0=>rfl
 | k+1=>by simp only [compsN,mN G h k,h k];simp
theorem iv (G:List B64) (q:List Int):∀ (f:Nat) (rest:B64) (par:Int) (P:List Int),(placeF G q f rest par P).length=P.length
 | 0,_,_,_=>rfl
 | f+1,rest,par,P=>by
   simp only [placeF]
   generalize (compsN G rest G.length).1=cs
   induction cs generalizing P with
   | nil=>rfl
   | cons c cs ih=>
     rw [List.foldl_cons,ih]
     unfold b3;split
     ·rw [iv G q f];simp
     ·rfl
theorem rf (G:List B64) (hG:G.length≤12) (q:List Int) (hq:∀ a∈q,0≤a∧a<G.length) (hql:q.length≤1000):∀ (f:Nat) (rest:B64) (par:Int) (P:List Int),cC rest≤f→P.length=G.length→
  FnO Tryz.prog 255 3 0 (plA G q rest par) (plO G q P) (fun r ob'=>r= .tup []∧ob'=ar (plO G q (placeF G q f rest par P)))
 | 0,rest,par,P,hf,hP=>by
   have hz:=mN G (oh (Nat.le_zero.1 hf)) G.length
   have:=lZ G hG q hq hql (fun _ _ P=>P) (fun _ _ _=>rfl) rest par (by rw [hz];intro c hc;cases hc) P hP
   rw [hz] at this
   exact this
 | f+1,rest,par,P,hf,hP=>lZ G hG q hq hql (placeF G q f) (iv G q f) rest par (fun c hc a P' ha hca hP'=>rf G hG q hq hql f _ _ P' (by have:=tO hc hca;omega) hP') P hP
theorem jk (x:B64):cC x≤64:=Nat.le_trans List.countP_le_length (by simp)
noncomputable def ofL (G:List B64) (q:List Int):List Int:=placeF G q 64 (gI G.length) (-1) (List.replicate G.length 0)
theorem Bf (G:List B64) (q:List Int):(ofL G q).length=G.length:=by unfold ofL;rw [iv];simp
theorem yn (S:Sch) (hS:SB S) (hV:Valid S) (q:List Int) (hq:∀ a∈q,0≤a∧a<S.attrs.length) (hql:q.length≤1000):FnP Tryz.prog 226 [gK S,ak q] (fun v=>∃ G,IsG S G∧v=Fe (ofL G q)):=by
 refine FnP.fg2 (FnP.ofC func226 rfl ntmps226 (by simp) fun m0 w0 F R0=>?_)
 have hn12:=hV.n2
 refine Z3 rfl rfl rfl rfl ?_
 refine Z1 rfl rfl ?_
 refine RL.call rfl (dE call127 (iE S hS hV) rfl ?_)
 rintro _ ⟨G,rfl,hG⟩
 have hGl:=hG.len
 refine Y2 rfl rfl ?_
 refine Gr rfl ?_
 iterate 6 refine A1 rfl ?_
 refine Z1 rfl rfl ?_
 refine Im (St.fS 1 rfl rfl) ?_
 refine Im (St.fS 3 rfl rfl) ?_
 have hgo:=rf G (by omega) q (by rw [hGl];exact hq) hql 64 (gI G.length) (-1) (List.replicate G.length 0) (jk _) (by simp)
 refine Z2 rfl rfl rfl ?_
 refine Ge rfl follows [0,1,2,3] (by kernel_rfl) ?_
 iterate 2 refine D1 rfl rfl ?_
 refine Ds 17 [] rfl rfl rfl (fun τ h=>ae call128 (qh G (by omega)) (h.bt rfl)) rfl (by kernel_rfl) ?_
 refine Ds 18 [5,6,4] rfl rfl rfl (fun τ h=>bJ [5,6,4] 7 call255 hgo (Ee h 0 rfl rfl) (h.e9.trans rfl) rfl rfl rfl rfl ⟨(Eo h 0 rfl rfl),(Eo h 1 rfl rfl),((h.o 2 _ rfl).trans (congrArg (fun c=>some (Ob.cells 3 c)) ((ct (.int .i64 0) (G.length*1)).trans (by simp)))),trivial⟩ (by decide) rfl) rfl (by kernel_rfl) ?_
 refine ⟨by kernel_rfl,?_⟩
 refine Z2 rfl rfl rfl ?_
 refine Gt rfl ?_
 exact ⟨_,_,rfl,rfl,⟨aY ⟨_,underlying271,rfl⟩ sz271 rfl rfl rfl,trivial⟩,G,hG,by show PV.agg [.sl none G.length (aE (ofL G q))]=_;rw [Fe,ak,Bf]⟩
end
section
open Go.RowKit Mk
set_option maxHeartbeats 1000000
noncomputable def gr (S:Sch):List B64:=(List.range S.attrs.length).map fun a=>bitsOf fun b=>decide (a≠b)&&eS S a b
theorem fR (S:Sch):(gr S).length=S.attrs.length:=by simp [gr]
theorem ow {S:Sch} (hV:Valid S) {a b:Int} (h:eS S a b=true):(0≤a∧a<S.attrs.length)∧(0≤b∧b<S.attrs.length):=by
 unfold eS at h
 obtain ⟨r,hr,h2⟩:=List.any_eq_true.1 h
 simp at h2
 exact ⟨hV.rng r hr a h2.1,hV.rng r hr b h2.2⟩
theorem pC {S:Sch} (hV:Valid S) {a:Nat} (ha:a<S.attrs.length) (b:Nat):((gr S).getD a 0#64).getLsbD b=(decide (a≠b)&&eS S a b):=by
 have e:(gr S).getD a 0#64=bitsOf fun b=>decide (a≠b)&&eS S a b:=by simp [gr,List.getD,ha]
 rw [e]
 by_cases hb:b<64
 ·rw [fN _ hb]
 ·rw [BitVec.getLsbD_of_ge _ _ (by omega)]
  cases hl:eS S a b with
  | false=>simp
  | true=>have:=(ow hV hl).2;have:=hV.n2;omega
theorem uw {S:Sch} (hV:Valid S) {G:List B64} (h:IsG S G):G=gr S:=by
 apply List.ext_getElem
 ·rw [h.len,fR]
 ·intro a h1 h2
  apply BitVec.eq_of_getLsbD_eq
  intro b _
  have e1:=h.bit a h1 b
  have e2:=pC hV (a:=a) (by rw [← h.len];exact h1) b
  rw [getD_eq h1] at e1
  rw [getD_eq h2] at e2
  rw [e1,e2]
noncomputable def ordL (S:Sch) (q:List Int):List Int:=ofL (gr S) q
theorem Gu (S:Sch) (hS:SB S) (hV:Valid S) (q:List Int) (hq:∀ a∈q,0≤a∧a<S.attrs.length) (hql:q.length≤1000):FnP Tryz.prog 226 [gK S,ak q] (· =Fe (ordL S q)):=
 (yn S hS hV q hq hql).mono fun v ⟨G,hG,e⟩=>by rw [e,uw hV hG];rfl
def dupB (q:List Int):Nat→Bool
 | 0=>false
 | k+1=>dupB q k||decide (q.getD k 0∈q.take k)
def ofE (S:Sch) (q:List Int):Int:=
 if cI S≠0 then cI S
 else if q.length≠S.attrs.length then 5
 else if (q.any fun a=>decide (a<0)||decide (a≥(q.length:Int)))=true then 2
 else if dupB q q.length=true then 9 else 0
noncomputable def ofV (S:Sch) (q:List Int):PV:= .tup [Fe (if ofE S q=0 then ordL S q else []),.int .i64 (ofE S q)]
end
section
set_option maxHeartbeats 1000000
theorem cu {α:Type} [DecidableEq α] {l r:List α} (hl:l.Nodup) (hr:r.Nodup) (h:∀ a,a∈l↔a∈r):l.Perm r:=by
 rw [List.perm_iff_count]
 intro a
 rw [hl.count,hr.count]
 by_cases e:a∈l
 ·rw [if_pos e,if_pos ((h a).1 e)]
 ·rw [if_neg e,if_neg (fun x=>e ((h a).2 x))]
theorem bx {n:Nat} {x:Int}:x∈upZ n↔∃ a:Nat,a<n∧x=(a:Int):=by
 unfold upZ
 rw [List.mem_map]
 constructor
 ·rintro ⟨a,ha,rfl⟩;exact ⟨a,List.mem_range.1 ha,rfl⟩
 ·rintro ⟨a,ha,rfl⟩;exact ⟨a,List.mem_range.2 ha,rfl⟩
theorem cJ (n:Nat):(upZ n).Nodup:=by
 unfold upZ;exact List.Pairwise.map _ (fun a b h e=>h (Int.ofNat.inj e)) List.nodup_range
theorem Hj (n:Nat):(upZ n).Pairwise (· < ·):=by
 unfold upZ
 exact List.Pairwise.map _ (fun a b h=>by simpa using h) List.pairwise_lt_range
structure UpOk (P:List Int):Prop where
 rng:∀ p∈P, -1≤p∧p<P.length
 up:∀ v,v<P.length→(abv P (v:Int)).isSome=true
theorem uG {P:List Int}:∀ {k:Nat} {x:Int} {l:List Int},upF P k x=some l→upF P (k+1) x=some l
 | 0,x,l,h=>by
   simp only [upF] at h ⊢
   split at h
   ·rename_i hx;rw [if_pos hx];exact h
   ·cases h
 | k+1,x,l,h=>by
   simp only [upF] at h
   unfold upF
   split at h
   ·rename_i hx;rw [if_pos hx];exact h
   ·rename_i hx
    rw [if_neg hx]
    cases e:upF P k (P.getD x.toNat 0) with
    | none=>rw [e] at h;cases h
    | some l'=>
      rw [e] at h
      rw [uG e];exact h
section
variable {P:List Int} (hP:UpOk P)
include hP
theorem qE {v:Nat} (hv:v<P.length):P[v]= -1∨∃ a:Nat,a<P.length∧P[v]=(a:Int):=by
 have:=hP.rng _ (List.getElem_mem hv)
 by_cases h:P[v]= -1
 ·exact .inl h
 ·obtain ⟨a,ha⟩:=Int.eq_ofNat_of_zero_le (show 0≤P[v] by omega)
  exact .inr ⟨a,by omega,ha⟩
omit hP in
theorem uR {v:Nat} (hv:v<P.length):abv P v=upF P P.length P[v]:=by simp [abv,List.getD,hv]
omit hP in
theorem eJ {v:Nat} (hv:v<P.length) (h:P[v]= -1):bp P v=[]:=by
 unfold bp
 rw [uR hv,h,sW (by decide)];rfl
theorem ik {v a:Nat} (hv:v<P.length) (ha:a<P.length) (h:P[v]=(a:Int)):bp P v=(a:Int)::bp P a:=by
 have hs:=hP.up v hv
 have e:=uR hv
 rw [h] at e
 obtain ⟨k,hk⟩:∃ k,P.length=k+1:=⟨P.length-1,by omega⟩
 rw [hk,ym ha] at e
 cases e2:upF P k P[a] with
 | none=>rw [e,e2] at hs;cases hs
 | some l=>
   have e3:abv P a=some l:=by rw [uR ha,hk];exact uG e2
   unfold bp
   rw [e,e2,e3];rfl
theorem pt {motive:Nat→Prop} (root:∀ v (hv:v<P.length),P[v]= -1→bp P v=[]→motive v)
  (step:∀ v (hv:v<P.length) a (_:a<P.length),P[v]=(a:Int)→bp P v=(a:Int)::bp P a→motive a→motive v):∀ v,v<P.length→motive v:=by
 have key:∀ m v,v<P.length→(bp P v).length≤m→motive v:=by
  intro m
  induction m with
  | zero=>
    intro v hv hl
    rcases qE hP hv with h | ⟨a,ha,h⟩
    ·exact root v hv h (eJ hv h)
    ·rw [ik hP hv ha h] at hl;simp at hl
  | succ m ih=>
    intro v hv hl
    rcases qE hP hv with h | ⟨a,ha,h⟩
    ·exact root v hv h (eJ hv h)
    ·have e:=ik hP hv ha h
     rw [e] at hl
     exact step v hv a ha h e (ih a ha (by simpa using hl))
 exact fun v hv=>key _ v hv (Nat.le_refl _)
theorem gE:∀ v,v<P.length→∀ x∈bp P v,∃ a:Nat,a<P.length∧x=(a:Int)∧∃ pre,bp P v=pre++(a:Int)::bp P a:=by
 refine pt hP (fun v hv h e x hx=>?_) (fun v hv a ha h e ih x hx=>?_)
 ·rw [e] at hx;cases hx
 ·rw [e] at hx ⊢
  rcases List.mem_cons.1 hx with rfl | hx
  ·exact ⟨a,ha,rfl,[],rfl⟩
  ·obtain ⟨b,hb,rfl,pre,e2⟩:=ih x hx
   exact ⟨b,hb,rfl,(a:Int)::pre,by rw [e2];rfl⟩
theorem ED {v a:Nat} (hv:v<P.length) (h:(a:Int)∈bp P v):a<P.length∧(bp P a).length<(bp P v).length:=by
 obtain ⟨b,hb,e,pre,e2⟩:=gE hP v hv _ h
 have:a=b:=by omega
 subst this
 refine ⟨hb,?_⟩
 rw [e2];simp;omega
theorem jl {v:Nat} (hv:v<P.length):(v:Int)∉bp P v:=fun h=>Nat.lt_irrefl _ (ED hP hv h).2
theorem fH {a b c:Nat} (hc:c<P.length) (h1:(a:Int)∈bp P b) (h2:(b:Int)∈bp P c):(a:Int)∈bp P c:=by
 obtain ⟨b',hb,e,pre,e2⟩:=gE hP c hc _ h2
 have:b=b':=by omega
 subst this
 rw [e2]
 exact List.mem_append_right _ (List.mem_cons_of_mem _ h1)
theorem fP:∀ v,v<P.length→((v:Int)::bp P v).Nodup:=by
 refine pt hP (fun v hv h e=>by rw [e];simp) (fun v hv a ha h e ih=>?_)
 rw [List.nodup_cons]
 refine ⟨jl hP hv,?_⟩
 rw [e];exact ih
theorem kB:∀ v,v<P.length→((v:Int)::bp P v).map (fun a=>P.getD a.toNat 0)=bp P v++[-1]:=by
 refine pt hP (fun v hv h e=>?_) (fun v hv a ha h e ih=>?_)
 ·rw [e];simp [List.getD,hv,h]
 ·rw [e,List.map_cons,ih]
  simp [List.getD,hv,h]
theorem gB {v:Nat} (hv:v<P.length) {x:Int} (h:x∈(v:Int)::bp P v):∃ a:Nat,a<P.length∧x=(a:Int):=by
 rcases List.mem_cons.1 h with rfl | h
 ·exact ⟨v,hv,rfl⟩
 ·obtain ⟨a,ha,e,_⟩:=gE hP v hv x h
  exact ⟨a,ha,e⟩
theorem pG {v:Nat} (hv:v<P.length):(bp P v++[-1]).Nodup:=by
 rw [List.nodup_append]
 refine ⟨(List.nodup_cons.1 (fP hP v hv)).2,by simp,?_⟩
 intro a ha b hb
 rw [List.mem_singleton.1 hb]
 obtain ⟨c,_,rfl⟩:=gB hP hv (List.mem_cons_of_mem _ ha)
 omega
omit hP in
theorem yu {α:Type} (p:α→Bool):∀ l:List α,(l.map fun a=>if p a=true then 1 else 0).sum=l.countP p
 | []=>rfl
 | a::l=>by rw [List.map_cons,List.sum_cons,yu p l,List.countP_cons];omega
theorem jm {v:Nat} (hv:v<P.length):((upZ P.length).filter fun a=>decide (a∈(v:Int)::bp P v)).Perm ((v:Int)::bp P v):=by
 refine cu (List.Pairwise.sublist List.filter_sublist (cJ _)) (fP hP v hv) fun a=>?_
 rw [List.mem_filter,decide_eq_true_iff,bx]
 exact ⟨fun h=>h.2,fun h=>⟨gB hP hv h,h⟩⟩
theorem iO:∀ (f:Nat) (v:Int),(∀ a (ha:a<P.length),P[a]=v→P.length+1≤(bp P a).length+f)→∀ x,x<P.length→(fy P f v).count (x:Int)=if v∈bp P x++[-1] then 1 else 0:=by
 intro f
 induction f with
 | zero=>
   intro v hf x hx
   rw [if_neg]
   ·rfl
   ·intro hm
    rw [← kB hP x hx] at hm
    obtain ⟨a,ha,e⟩:=List.mem_map.1 hm
    obtain ⟨b,hb,rfl⟩:=gB hP hx ha
    have h1:=hf b hb (by simpa [List.getD,hb] using e)
    have:=vg P (b:Int)
    omega
 | succ f ih=>
   intro v hf x hx
   have term:∀ a∈upZ P.length,(List.count (x:Int)∘fun a=>if P.getD a.toNat 0=v then a::fy P f a else []) a=if (decide (P.getD a.toNat 0=v)&&decide (a∈(x:Int)::bp P x))=true then 1 else 0:=by
    intro a ha
    obtain ⟨b,hb,rfl⟩:=bx.1 ha
    have hgd:P.getD (b:Int).toNat 0=P[b]:=by simp [List.getD,hb]
    simp only [Function.comp,hgd]
    by_cases e:P[b]=v
    ·rw [if_pos e,List.count_cons,ih (b:Int) ?_ x hx]
     ·simp only [e,decide_true,Bool.true_and,decide_eq_true_eq,List.mem_cons,List.mem_append,List.mem_singleton]
      by_cases e1:b=x
      ·subst e1
       rw [if_neg]
       ·simp
       ·rintro (h | h)
        ·exact jl hP hb h
        ·simp at h
      ·have e2:¬ (b:Int)=x:=by omega
       have e3:¬ (b:Int)= -1:=by omega
       have e4:((b:Int)==(x:Int))=false:=by simpa using e2
       simp [e2,e3,e4]
     ·intro c hc hcb
      have h1:=hf b hb e
      rw [ik hP hc hb hcb]
      simp;omega
    ·rw [if_neg e];simp [e]
   unfold fy
   rw [List.count_flatMap,List.map_congr_left term,yu, ← List.countP_filter,(jm hP hx).countP_eq]
   have e1:List.countP (fun a=>decide (P.getD a.toNat 0=v)) ((x:Int)::bp P x)=List.count v (((x:Int)::bp P x).map fun a=>P.getD a.toNat 0):=by
    rw [List.count,List.countP_map]
    refine List.countP_congr fun a _=>?_
    simp
   rw [e1,kB hP x hx,(pG hP hx).count]
omit hP in
theorem jN:∀ (f:Nat) (v:Int),∀ x∈fy P f v,∃ a:Nat,a<P.length∧x=(a:Int)
 | 0,v,x,hx=>by simp [fy] at hx
 | f+1,v,x,hx=>by
   simp only [fy] at hx
   obtain ⟨a,ha,hx⟩:=List.mem_flatMap.1 hx
   split at hx
   ·rcases List.mem_cons.1 hx with rfl | hx
    ·exact bx.1 ha
    ·exact jN f a x hx
   ·cases hx
def aD (P:List Int):List Int:=fy P (P.length+1) (-1)
theorem cf:(aD P).Perm (upZ P.length):=by
 rw [List.perm_iff_count]
 intro x
 rw [(cJ _).count]
 by_cases h:x∈upZ P.length
 ·rw [if_pos h]
  obtain ⟨a,ha,rfl⟩:=bx.1 h
  unfold aD
  rw [iO hP _ _ (fun b hb e=>by omega) a ha,if_pos (by simp)]
 ·rw [if_neg h,List.count_eq_zero]
  exact fun hx=>h (bx.2 (jN _ _ x hx))
end
def Bef (P:List Int) (v:Int) (w:List Int):Prop:=∀ pre x post,w=pre++x::post→P.getD x.toNat 0=v∨P.getD x.toNat 0∈pre
theorem Bef.nil {P:List Int} {v:Int}:Bef P v []:=fun pre x post h=>by simp at h
theorem Bef.append {P:List Int} {v:Int} {w1 w2:List Int} (h1:Bef P v w1) (h2:Bef P v w2):Bef P v (w1++w2):=by
 intro pre x post e
 rcases List.append_eq_append_iff.1 e with ⟨us,e1,e2⟩ | ⟨bs,e1,e2⟩
 ·rcases h2 us x post e2 with h | h
  ·exact .inl h
  ·right;rw [e1];exact List.mem_append_right _ h
 ·cases bs with
  | nil=>
    simp at e1 e2
    rcases h2 [] x post (by simpa using e2.symm) with h | h
    ·exact .inl h
    ·cases h
  | cons b bs=>
    simp at e2
    exact h1 pre x bs (by rw [e1, ← e2.1])
theorem Bef.cons {P:List Int} {v a:Int} {w:List Int} (ha:P.getD a.toNat 0=v) (h:Bef P a w):Bef P v (a::w):=by
 intro pre x post e
 cases pre with
 | nil=>simp at e;rw [← e.1];exact .inl ha
 | cons b pre=>
   simp at e
   rcases h pre x post e.2 with h | h
   ·right;rw [h,e.1];exact List.mem_cons_self ..
   ·right;exact List.mem_cons_of_mem _ h
theorem Bef.flat {P:List Int} {v:Int} {f:Int→List Int}:∀ {l:List Int},(∀ a∈l,Bef P v (f a))→Bef P v (l.flatMap f)
 | [],_=>Bef.nil
 | a::l,h=>by
   rw [List.flatMap_cons]
   exact (h a (List.mem_cons_self ..)).append (Bef.flat fun b hb=>h b (List.mem_cons_of_mem _ hb))
theorem uo (P:List Int):∀ (f:Nat) (v:Int),Bef P v (fy P f v)
 | 0,_=>Bef.nil
 | f+1,v=>by
   unfold fy
   refine Bef.flat fun a _=>?_
   split
   ·rename_i h;exact Bef.cons h (uo P f a)
   ·exact Bef.nil
theorem Bi {P:List Int} (hP:UpOk P) {i:Nat} (hi:i<(aD P).length):(aD P)[i]∉(aD P).take i∧(P.getD (aD P)[i].toNat 0= -1∨P.getD (aD P)[i].toNat 0∈(aD P).take i):=by
 have e:aD P=(aD P).take i++(aD P)[i]::(aD P).drop (i+1):=by
  conv=>lhs;rw [← List.take_append_drop i (aD P)]
  rw [List.drop_eq_getElem_cons hi]
 refine ⟨?_,uo P _ _ _ _ _ e⟩
 have hnd:(aD P).Nodup:=(cf hP).nodup_iff.2 (cJ _)
 intro hm
 obtain ⟨j,hj,e2⟩:=List.mem_take_iff_getElem.1 hm
 exact List.pairwise_iff_getElem.1 hnd j i (by omega) hi (by omega) e2
theorem BM {l:List Int} {x:Int}:x∈Aw l↔x∈l:=(iY l).mem_iff
theorem r9 {S:Sch} {P:List Int} {v x:Int}:x∈dq S P v↔x∈bp P v∧∃ b∈fk P v,eS S x b=true:=by
 unfold dq H7
 rw [BM,List.mem_filter,List.any_eq_true]
theorem da {P:List Int} {v b:Int}:b∈fk P v↔(∃ a:Nat,a<P.length∧b=(a:Int))∧(b=v∨v∈bp P b):=by
 have e:fk P v=(upZ P.length).filter fun a=>a==v||hiB P v a:=rfl
 rw [e,List.mem_filter,bx]
 simp [hiB]
theorem AN {S:Sch} {r:ByteArray×List Int} (hr:r∈S.rels) {a b:Int} (ha:a∈r.2) (hb:b∈r.2):eS S a b=true:=by
 unfold eS;rw [List.any_eq_true];exact ⟨r,hr,by simp [ha,hb]⟩
theorem iU {P l:List Int} (h:mu P l=true) {a b:Int} (ha:a∈l) (hb:b∈l):a=b∨a∈bp P b∨b∈bp P a:=by
 unfold mu at h
 have:=List.all_eq_true.1 (List.all_eq_true.1 h a ha) b hb
 simp [hiB,or_assoc] at this
 exact this
theorem qg {P l:List Int} (hP:UpOk P) (hr:∀ a∈l,0≤a∧a<P.length) (hl:mu P l=true):∀ (k:List Int) (done:List Int) (h:Int),(∀ a∈k,a∈l)→(∀ a∈done,a∈l)→h∈l→(∀ a∈done,a=h∨a∈bp P h)→
  k.foldl (ny P) h∈l∧∀ a,a∈done∨a∈k→a=k.foldl (ny P) h∨a∈bp P (k.foldl (ny P) h)
 | [],done,h,_,_,hh,hd=>⟨hh,fun a ha=>hd a (ha.resolve_right (by simp))⟩
 | x::k,done,h,hk,hdn,hh,hd=>by
   have hx:=hk x (List.mem_cons_self ..)
   have nat:∀ {a:Int},a∈l→∃ n:Nat,n<P.length∧a=(n:Int):=fun {a} ha=>by
    obtain ⟨n,hn⟩:=Int.eq_ofNat_of_zero_le (hr a ha).1
    have:=(hr a ha).2
    exact ⟨n,by omega,hn⟩
   have step:ny P h x∈l∧∀ a∈done++[x],a=ny P h x∨a∈bp P (ny P h x):=by
    unfold ny
    by_cases e:hiB P h x=true
    ·rw [if_pos e]
     have e':h∈bp P x:=by simpa [hiB] using e
     refine ⟨hx,fun a ha=>?_⟩
     rcases List.mem_append.1 ha with had | ha
     ·right
      rcases hd a had with rfl | h3
      ·exact e'
      ·obtain ⟨n,_,rfl⟩:=nat hh
       obtain ⟨m,hm,rfl⟩:=nat hx
       obtain ⟨p,_,rfl⟩:=nat (hdn a had)
       exact fH hP hm h3 e'
     ·left;exact List.mem_singleton.1 ha
    ·rw [if_neg e]
     have e':h∉bp P x:=by simpa [hiB] using e
     refine ⟨hh,fun a ha=>?_⟩
     rcases List.mem_append.1 ha with ha | ha
     ·exact hd a ha
     ·rw [List.mem_singleton.1 ha]
      rcases iU hl hx hh with h1 | h1 | h1
      ·exact .inl h1
      ·exact .inr h1
      ·exact absurd h1 e'
   have:=qg hP hr hl k (done++[x]) (ny P h x) (fun a ha=>hk a (List.mem_cons_of_mem _ ha)) (fun a ha=>by
    rcases List.mem_append.1 ha with h | h
    ·exact hdn a h
    ·rw [List.mem_singleton.1 h];exact hx) step.1 step.2
   rw [List.foldl_cons]
   refine ⟨this.1,fun a ha=>this.2 a ?_⟩
   rcases ha with ha | ha
   ·exact .inl (List.mem_append_left _ ha)
   ·rcases List.mem_cons.1 ha with rfl | ha
    ·exact .inl (by simp)
    ·exact .inr ha
theorem nI {P l:List Int} (hP:UpOk P) (hne:l≠[]) (hr:∀ a∈l,0≤a∧a<P.length) (hl:mu P l=true):ka P l∈l∧∀ a∈l,a=ka P l∨a∈bp P (ka P l):=by
 cases l with
 | nil=>exact absurd rfl hne
 | cons x l=>
   have:=qg hP hr hl (x::l) [] x (fun a h=>h) (by simp) (List.mem_cons_self ..) (by simp)
   unfold ka
   exact ⟨this.1,fun a ha=>this.2 a (.inr ha)⟩
theorem OrdOk.dP {S:Sch} {P:List Int} (h:OrdOk S P):UpOk P:=⟨h.rng,h.up⟩
end
section
set_option maxHeartbeats 1000000
inductive Path (adj:Nat→Nat→Prop) (ok:Nat→Prop) (a:Nat):Nat→Prop
 | refl:Path adj ok a a
 | step {b c:Nat}:Path adj ok a b→adj b c→ok c→Path adj ok a c
section
variable {adj:Nat→Nat→Prop} {ok ok':Nat→Prop}
theorem Path.trans {a b c:Nat} (h1:Path adj ok a b) (h2:Path adj ok b c):Path adj ok a c:=by
 induction h2 with
 | refl=>exact h1
 | step _ h3 h4 ih=>exact .step ih h3 h4
theorem Path.one {a b:Nat} (h:adj a b) (hb:ok b):Path adj ok a b:= .step .refl h hb
theorem Path.mono {a b:Nat} (h:Path adj ok a b) (hm:∀ c,ok c→ok' c):Path adj ok' a b:=by
 induction h with
 | refl=>exact .refl
 | step _ h3 h4 ih=>exact .step ih h3 (hm _ h4)
theorem Path.fin {a b:Nat} (h:Path adj ok a b) (ha:ok a):ok b:=by
 cases h with
 | refl=>exact ha
 | step _ _ h=>exact h
theorem Path.symm (hs:∀ a b,adj a b→adj b a) {a b:Nat} (h:Path adj ok a b) (ha:ok a):Path adj ok b a:=by
 induction h with
 | refl=>exact .refl
 | step h1 h3 h4 ih=>exact (Path.one (hs _ _ h3) (h1.fin ha)).trans ih
theorem Path.stay {inn:Nat→Prop} {a b:Nat} (h:Path adj ok a b) (ha:inn a) (hc:∀ x y,inn x→adj x y→ok y→inn y):Path adj (fun c=>ok c∧inn c) a b∧inn b:=by
 induction h with
 | refl=>exact ⟨.refl,ha⟩
 | step _ h3 h4 ih=>exact ⟨.step ih.1 h3 ⟨h4,hc _ _ ih.2 h3 h4⟩,hc _ _ ih.2 h3 h4⟩
end
def Anc (adj:Nat→Nat→Prop) (pos:Nat→Nat) (a b:Nat):Prop:=pos a<pos b∧Path adj (fun c=>pos a≤pos c) a b
section
variable {adj:Nat→Nat→Prop} {pos:Nat→Nat} (hs:∀ a b,adj a b→adj b a)
theorem Anc.trans {a b c:Nat} (h1:Anc adj pos a b) (h2:Anc adj pos b c):Anc adj pos a c:=by
 have h3:=h1.1
 exact ⟨Nat.lt_trans h1.1 h2.1,h1.2.trans (h2.2.mono fun d hd=>by omega)⟩
include hs in
end
structure IsOrd (n:Nat) (adj:Nat→Nat→Prop) (pos:Nat→Nat) (P:List Int):Prop where
 len:P.length=n
 par:∀ b,b<n→(P.getD b 0= -1∧∀ a,a<n→¬ Anc adj pos a b)∨(∃ a:Nat,a<n∧P.getD b 0=(a:Int)∧Anc adj pos a b∧∀ a',a'<n→Anc adj pos a' b→a'=a∨Anc adj pos a' a)
section
variable {n:Nat} {adj:Nat→Nat→Prop} {pos:Nat→Nat} {P:List Int}
theorem IsOrd.upF (h:IsOrd n adj pos P):∀ (m b k:Nat),b<n→pos b≤m→pos b≤k→(upF P k (P.getD b 0)).isSome=true:=by
 intro m
 induction m with
 | zero=>
   intro b k hb hm hk
   rcases h.par b hb with ⟨h1,_⟩ | ⟨a,ha,h1,h2,_⟩
   ·rw [h1,sW (by decide)];rfl
   ·have:=h2.1;omega
 | succ m ih=>
   intro b k hb hm hk
   rcases h.par b hb with ⟨h1,_⟩ | ⟨a,ha,h1,h2,_⟩
   ·rw [h1,sW (by decide)];rfl
   ·have:=h2.1
    obtain ⟨k',rfl⟩:∃ k',k=k'+1:=⟨k-1,by omega⟩
    rw [h1,ym (by rw [h.len];exact ha),Option.isSome_map]
    have:=ih a k' ha (by omega) (by omega)
    rwa [getD_eq (by rw [h.len];exact ha)] at this
theorem IsOrd.dP (h:IsOrd n adj pos P) (hp:∀ b,b<n→pos b<n):UpOk P:=by
 refine ⟨fun p hp=>?_,fun v hv=>?_⟩
 ·obtain ⟨b,hb,e⟩:=List.getElem_of_mem hp
  rw [← getD_eq hb 0] at e
  have hb':b<n:=by rw [← h.len];exact hb
  have:=h.len
  rcases h.par b hb' with ⟨h1,_⟩ | ⟨a,ha,h1,_,_⟩<;>omega
 ·have hv':v<n:=by rw [← h.len];exact hv
  have:=h.upF (pos v) v P.length hv' (Nat.le_refl _) (by rw [h.len];exact Nat.le_of_lt (hp v hv'))
  rwa [uR hv, ← getD_eq hv 0]
theorem IsOrd.mem (h:IsOrd n adj pos P) (hp:∀ b,b<n→pos b<n):∀ b,b<P.length→∀ a:Nat,(a:Int)∈bp P b↔a<n∧Anc adj pos a b:=by
 have hl:=h.len
 refine pt (h.dP hp) (fun v hv hr e a=>?_) (fun v hv p hpl hr e ih a=>?_)
 ·rw [e]
  rcases h.par v (by omega) with ⟨_,h2⟩ | ⟨c,hc,h1,_,_⟩
  ·exact ⟨fun hh=>absurd hh List.not_mem_nil,fun hh=>absurd hh.2 (h2 a hh.1)⟩
  ·rw [getD_eq hv,hr] at h1;omega
 ·rw [e,List.mem_cons,ih a]
  rcases h.par v (by omega) with ⟨h1,_⟩ | ⟨c,hc,h1,h2,h3⟩
  ·rw [getD_eq hv,hr] at h1;omega
  ·rw [getD_eq hv,hr] at h1
   have:c=p:=by omega
   subst this
   constructor
   ·rintro (h4 | h4)
    ·have:a=c:=by omega
     subst this;exact ⟨hc,h2⟩
    ·exact ⟨h4.1,h4.2.trans h2⟩
   ·rintro ⟨h4,h5⟩
    rcases h3 a h4 h5 with rfl | h6
    ·exact .inl rfl
    ·exact .inr ⟨h4,h6⟩
end
def Ex (S:Sch) (a b:Nat):Prop:=a≠b∧eS S a b=true
theorem kL {S:Sch} {a b:Int} (h:eS S a b=true):eS S b a=true:=by
 unfold eS at h ⊢
 obtain ⟨r,hr,h2⟩:=List.any_eq_true.1 h
 rw [List.any_eq_true]
 exact ⟨r,hr,by rw [Bool.and_comm];exact h2⟩
theorem kq (S:Sch):∀ a b,Ex S a b→Ex S b a:=fun _ _ h=>⟨fun e=>h.1 e.symm,kL h.2⟩
def jM (q:List Int) (a:Nat):Nat:=q.idxOf (a:Int)
theorem ES {n:Nat} {q:List Int} (hq:q.Perm (upZ n)) {a:Nat} (ha:a<n):jM q a<n:=by
 have:q.idxOf (a:Int)<q.length:=List.idxOf_lt_length_of_mem (hq.mem_iff.2 (bx.2 ⟨a,ha,rfl⟩))
 rwa [hq.length_eq,a8] at this
theorem nq {n:Nat} {q:List Int} (hq:q.Perm (upZ n)) {a b:Nat} (ha:a<n) (h:jM q a=jM q b):a=b:=by
 have h1:q.idxOf (a:Int)<q.length:=List.idxOf_lt_length_of_mem (hq.mem_iff.2 (bx.2 ⟨a,ha,rfl⟩))
 have h2:q.idxOf (b:Int)<q.length:=by unfold jM at h;rw [← h];exact h1
 have e1:q[q.idxOf (a:Int)]=(a:Int):=List.getElem_idxOf h1
 have e2:q[q.idxOf (b:Int)]=(b:Int):=List.getElem_idxOf h2
 have e3:q[q.idxOf (a:Int)]=q[q.idxOf (b:Int)]:=by unfold jM at h;congr 1
 rw [e1,e2] at e3
 omega
theorem IsOrd.ok {S:Sch} (hV:Valid S) {q:List Int} (hq:q.Perm (upZ S.attrs.length)) {P:List Int} (h:IsOrd S.attrs.length (Ex S) (jM q) P):OrdOk S P:=by
 have hp:∀ b,b<S.attrs.length→jM q b<S.attrs.length:=fun b hb=>ES hq hb
 have hu:=h.dP hp
 refine ⟨hV,h.len,hu.rng,hu.up,fun r hr=>?_⟩
 unfold mu
 rw [List.all_eq_true]
 intro a ha
 rw [List.all_eq_true]
 intro b hb
 obtain ⟨x,hx⟩:=Int.eq_ofNat_of_zero_le (hV.rng r hr a ha).1
 obtain ⟨y,hy⟩:=Int.eq_ofNat_of_zero_le (hV.rng r hr b hb).1
 have hxl:x<S.attrs.length:=by have:=(hV.rng r hr a ha).2;omega
 have hyl:y<S.attrs.length:=by have:=(hV.rng r hr b hb).2;omega
 by_cases e:a=b
 ·simp [e]
 ·have hxy:x≠y:=by omega
  have hadj:Ex S x y:=⟨hxy,by rw [← hx, ← hy];exact AN hr ha hb⟩
  have hl:=h.len
  rcases Nat.lt_or_gt_of_ne (fun e=>hxy (nq hq hxl e)) with h1 | h1
  ·have:(x:Int)∈bp P y:=(h.mem hp y (by omega) x).2 ⟨hxl,h1,.one hadj (Nat.le_of_lt h1)⟩
   rw [hx,hy];simp [hiB,this]
  ·have:(y:Int)∈bp P x:=(h.mem hp x (by omega) y).2 ⟨hyl,h1,.one (kq S _ _ hadj) (Nat.le_of_lt h1)⟩
   rw [hx,hy];simp [hiB,this]
end
section
set_option maxHeartbeats 1000000
def eu (G:List B64) (a b:Nat):Prop:=(G.getD a 0#64).getLsbD b=true
theorem ma {G:List B64} {rest:B64} {a b:Nat}:Reach G rest a b↔Path (eu G) (fun c=>rest.getLsbD c=true) a b:=by
 constructor
 ·intro h
  induction h with
  | refl=>exact .refl
  | step _ h1 h2 ih=>exact .step ih h1 h2
 ·intro h
  induction h with
  | refl=>exact .refl
  | step _ h1 h2 ih=>exact .step ih h1 h2
structure Comp (adj:Nat→Nat→Prop) (rest c:B64):Prop where
 sub:∀ i,c.getLsbD i=true→rest.getLsbD i=true
 clo:∀ i j,c.getLsbD i=true→adj i j→rest.getLsbD j=true→c.getLsbD j=true
 con:∀ i j,c.getLsbD i=true→c.getLsbD j=true→Path adj (fun x=>c.getLsbD x=true) i j
 ne:∃ i,c.getLsbD i=true
structure CompsI (adj:Nat→Nat→Prop) (rest:B64) (k:Nat) (cs:List B64) (R:B64):Prop where
 all:∀ c∈cs,Comp adj rest c
 cov:∀ i,rest.getLsbD i=true↔R.getLsbD i=true∨∃ c∈cs,c.getLsbD i=true
 dis:∀ i,R.getLsbD i=true→∀ c∈cs,¬ c.getLsbD i=true
 pw:cs.Pairwise (fun c d=>∀ i,c.getLsbD i=true→¬ d.getLsbD i=true)
 low:∀ i,i<k→¬ R.getLsbD i=true
theorem fa (x y:B64) (i:Nat):(x&&& ~~~y).getLsbD i=true↔x.getLsbD i=true∧¬ y.getLsbD i=true:=by
 rw [BitVec.getLsbD_and,BitVec.getLsbD_not]
 constructor
 ·intro h;simp at h;exact ⟨h.1,by rw [h.2.2];decide⟩
 ·rintro ⟨h1,h2⟩
  have:=cq h1
  have h3:y.getLsbD i=false:=by simpa using h2
  rw [h1,h3,decide_eq_true this];rfl
theorem kT (G:List B64) (rest:B64) (hs:∀ a b,eu G a b→eu G b a):∀ k,CompsI (eu G) rest k (compsN G rest k).1 (compsN G rest k).2
 | 0=>⟨by simp [compsN],by simp [compsN],by simp [compsN],by simp [compsN],by intro i h;omega⟩
 | k+1=>by
   have h:=kT G rest hs k
   simp only [compsN]
   generalize compsN G rest k=cr at*
   obtain ⟨cs,R⟩:=cr
   simp only at h ⊢
   by_cases hk:R.getLsbD k=true
   ·rw [if_pos hk]
    have hcR:∀ i,(compB G R k).getLsbD i=true→R.getLsbD i=true:=fun i hi=>kr hk hi
    have hkc:(compB G R k).getLsbD k=true:=(eH (cq hk)).2 .refl
    have hclR:∀ i j,(compB G R k).getLsbD i=true→eu G i j→R.getLsbD j=true→(compB G R k).getLsbD j=true:=fun i j h1 h2 h3=>
     (eH (cq h3)).2 (.step (dG h1) h2 h3)
    have hC:Comp (eu G) rest (compB G R k):=by
     refine ⟨fun i hi=>(h.cov i).2 (.inl (hcR i hi)),fun i j h1 h2 h3=>?_,?_,⟨k,hkc⟩⟩
     ·rcases (h.cov j).1 h3 with h4 | ⟨d,hd,h4⟩
      ·exact hclR i j h1 h2 h4
      ·exact absurd ((h.all d hd).clo j i h4 (hs i j h2) ((h.cov i).2 (.inl (hcR i h1)))) (h.dis i (hcR i h1) d hd)
     ·have one:∀ i,(compB G R k).getLsbD i=true→Path (eu G) (fun x=>(compB G R k).getLsbD x=true) k i:=fun i hi=>
       ((ma.1 (dG hi)).stay (inn:=fun x=>(compB G R k).getLsbD x=true) hkc hclR).1.mono fun c hc=>hc.2
      exact fun i j hi hj=>((one i hi).symm hs hkc).trans (one j hj)
    refine ⟨fun c hc=>?_,fun i=>?_,fun i hi c hc=>?_,?_,fun i hi hR=>?_⟩
    ·rcases List.mem_append.1 hc with hc | hc
     ·exact h.all c hc
     ·rw [List.mem_singleton.1 hc];exact hC
    ·rw [h.cov i,fa]
     constructor
     ·rintro (h1 | ⟨c,hc,h1⟩)
      ·by_cases h2:(compB G R k).getLsbD i=true
       ·exact .inr ⟨_,List.mem_append_right _ (List.mem_singleton.2 rfl),h2⟩
       ·exact .inl ⟨h1,h2⟩
      ·exact .inr ⟨c,List.mem_append_left _ hc,h1⟩
     ·rintro (h1 | ⟨c,hc,h1⟩)
      ·exact .inl h1.1
      ·rcases List.mem_append.1 hc with hc | hc
       ·exact .inr ⟨c,hc,h1⟩
       ·rw [List.mem_singleton.1 hc] at h1;exact .inl (hcR i h1)
    ·rw [fa] at hi
     rcases List.mem_append.1 hc with hc | hc
     ·exact h.dis i hi.1 c hc
     ·rw [List.mem_singleton.1 hc];exact hi.2
    ·rw [List.pairwise_append]
     refine ⟨h.pw,by simp,fun c hc d hd i h1 h2=>?_⟩
     rw [List.mem_singleton.1 hd] at h2
     exact h.dis i (hcR i h2) c hc h1
    ·rw [fa] at hR
     by_cases e:i=k
     ·subst e;exact hR.2 hkc
     ·exact h.low i (by omega) hR.1
   ·rw [if_neg hk]
    refine ⟨h.all,h.cov,h.dis,h.pw,fun i hi=>?_⟩
    by_cases e:i=k
    ·subst e;exact hk
    ·exact h.low i (by omega)
def xh (adj:Nat→Nat→Prop) (pos:Nat→Nat) (rest:B64) (a b:Nat):Prop:=
 rest.getLsbD a=true∧rest.getLsbD b=true∧pos a<pos b∧Path adj (fun c=>rest.getLsbD c=true∧pos a≤pos c) a b
def DT (adj:Nat→Nat→Prop) (pos:Nat→Nat) (rest:B64) (par:Int) (b:Nat) (x:Int):Prop:=
 (x=par∧∀ a,¬ xh adj pos rest a b)∨∃ a:Nat,x=(a:Int)∧xh adj pos rest a b∧∀ a',xh adj pos rest a' b→a'=a∨xh adj pos rest a' a
theorem BR {n:Nat} {q:List Int} (hq:q.Perm (upZ n)) {c:B64} (hc:∀ i,c.getLsbD i=true→i<n) (hne:∃ i,c.getLsbD i=true):
  ∃ a:Nat,a<n∧q.find? (fun x=>c.getLsbD x.toNat)=some (a:Int)∧c.getLsbD a=true∧∀ i,c.getLsbD i=true→jM q a≤jM q i:=by
 cases hf:q.find? (fun x=>c.getLsbD x.toNat) with
 | none=>
   obtain ⟨i,hi⟩:=hne
   have:=List.find?_eq_none.1 hf (i:Int) (hq.mem_iff.2 (bx.2 ⟨i,hc i hi,rfl⟩))
   simp at this
   rw [hi] at this;cases this
 | some x=>
   obtain ⟨h1,us,vs,h2,h3⟩:=List.find?_eq_some_iff_append.1 hf
   have hxm:x∈q:=by rw [h2];simp
   obtain ⟨a,ha,rfl⟩:=bx.1 (hq.mem_iff.1 hxm)
   have h1':c.getLsbD a=true:=by simpa using h1
   refine ⟨a,ha,rfl,h1',fun i hi=>?_⟩
   have no:∀ j:Nat,c.getLsbD j=true→(j:Int)∉us:=fun j hj hm=>by
    have:=h3 _ hm
    simp at this
    rw [hj] at this;cases this
   unfold jM
   rw [h2,List.idxOf_append,List.idxOf_append,if_neg (no a h1'),if_neg (no i hi)]
   simp
section
variable {n:Nat} {G:List B64} {q:List Int} (hG:G.length=n) (hs:∀ a b,eu G a b→eu G b a) (hq:q.Perm (upZ n))
theorem xh.sub {adj:Nat→Nat→Prop} {pos:Nat→Nat} {r r':B64} (h:∀ i,r.getLsbD i=true→r'.getLsbD i=true) {a b:Nat} (k:xh adj pos r a b):xh adj pos r' a b:=
 ⟨h _ k.1,h _ k.2.1,k.2.2.1,k.2.2.2.mono fun c hc=>⟨h _ hc.1,hc.2⟩⟩
include hs hq in
theorem tu {f:Nat} (IH:∀ rest par P,cC rest≤f→(∀ i,rest.getLsbD i=true→i<n)→P.length=n→∀ b,b<n→(rest.getLsbD b=false→(placeF G q f rest par P).getD b 0=P.getD b 0)∧(rest.getLsbD b=true→DT (eu G) (jM q) rest par b ((placeF G q f rest par P).getD b 0)))
  {rest c:B64} (hc:Comp (eu G) rest c) (hpop:∀ a,c.getLsbD a=true→cC (c&&& ~~~(BitVec.twoPow 64 a))≤f) (hr:∀ i,rest.getLsbD i=true→i<n) (par:Int) (P:List Int) (hP:P.length=n) (b:Nat) (hb:b<n):
  (c.getLsbD b=false→(b3 q (placeF G q f) par P c).getD b 0=P.getD b 0)∧(c.getLsbD b=true→DT (eu G) (jM q) rest par b ((b3 q (placeF G q f) par P c).getD b 0)):=by
 obtain ⟨a,ha,hfind,hca,hmin⟩:=BR hq (fun i hi=>hr i (hc.sub i hi)) hc.ne
 have e:b3 q (placeF G q f) par P c=placeF G q f (c&&& ~~~(BitVec.twoPow 64 a)) a (P.set a par):=by unfold b3;rw [hfind];rfl
 rw [e]
 have hbit:∀ i,(c&&& ~~~(BitVec.twoPow 64 a)).getLsbD i=true↔c.getLsbD i=true∧a≠i:=fun i=>by rw [bA,Bool.and_eq_true,decide_eq_true_iff]
 have hih:=IH (c&&& ~~~(BitVec.twoPow 64 a)) a (P.set a par) (hpop a hca) (fun i hi=>hr i (hc.sub i ((hbit i).1 hi).1)) (by simp [hP]) b hb
 have stay:∀ a' b',xh (eu G) (jM q) rest a' b'→c.getLsbD b'=true→c.getLsbD a'=true:=by
  intro a' b' h1 h2
  have hpath:=(h1.2.2.2.symm hs ⟨h1.1,Nat.le_refl _⟩)
  exact (hpath.stay (inn:=fun x=>c.getLsbD x=true) h2 (fun x y hx hxy hy=>hc.clo x y hx hxy hy.1)).2
 have inside:∀ a' b',xh (eu G) (jM q) rest a' b'→c.getLsbD b'=true→a'≠a→xh (eu G) (jM q) (c&&& ~~~(BitVec.twoPow 64 a)) a' b':=by
  intro a' b' h1 h2 h3
  have hca':=stay a' b' h1 h2
  have hpa:jM q a<jM q a':=Nat.lt_of_le_of_ne (hmin a' hca') (fun e=>h3 (nq hq ha e).symm)
  have hpb:=h1.2.2.1
  refine ⟨(hbit a').2 ⟨hca',fun e=>h3 e.symm⟩,(hbit b').2 ⟨h2,fun e=>by subst e;omega⟩,h1.2.2.1,?_⟩
  refine ((h1.2.2.2.stay (inn:=fun x=>c.getLsbD x=true) hca' (fun x y hx hxy hy=>hc.clo x y hx hxy hy.1)).1.mono fun x hx=>?_)
  exact ⟨(hbit x).2 ⟨hx.2,fun e=>by have:=hx.1.2;subst e;omega⟩,hx.1.2⟩
 have root:∀ b',c.getLsbD b'=true→a≠b'→xh (eu G) (jM q) rest a b':=fun b' h1 h2=>
  ⟨hc.sub a hca,hc.sub b' h1,Nat.lt_of_le_of_ne (hmin b' h1) (fun e=>h2 (nq hq ha e)),(hc.con a b' hca h1).mono fun x hx=>⟨hc.sub x hx,hmin x hx⟩⟩
 have hsub:∀ i,(c&&& ~~~(BitVec.twoPow 64 a)).getLsbD i=true→rest.getLsbD i=true:=fun i hi=>hc.sub i ((hbit i).1 hi).1
 constructor
 ·intro hcb
  have hab:a≠b:=fun e=>by subst e;rw [hca] at hcb;cases hcb
  have h1:(c&&& ~~~(BitVec.twoPow 64 a)).getLsbD b=false:=by
   cases h2:(c&&& ~~~(BitVec.twoPow 64 a)).getLsbD b with
   | false=>rfl
   | true=>rw [((hbit b).1 h2).1] at hcb;cases hcb
  rw [hih.1 h1,List.getD,List.getD,List.getElem?_set_ne hab]
 ·intro hcb
  by_cases hab:a=b
  ·subst hab
   have h1:(c&&& ~~~(BitVec.twoPow 64 a)).getLsbD a=false:=by rw [bA];simp
   left
   refine ⟨by rw [hih.1 h1,List.getD];simp [hP,ha],fun a' h2=>?_⟩
   have h3:=stay a' a h2 hca
   have:=hmin a' h3
   have:=h2.2.2.1
   omega
  ·have h1:(c&&& ~~~(BitVec.twoPow 64 a)).getLsbD b=true:=(hbit b).2 ⟨hcb,hab⟩
   right
   rcases hih.2 h1 with ⟨h2,h3⟩ | ⟨d,h2,h3,h4⟩
   ·refine ⟨a,h2,root b hcb hab,fun a' h5=>?_⟩
    by_cases e2:a'=a
    ·exact .inl e2
    ·exact absurd (inside a' b h5 hcb e2) (h3 a')
   ·refine ⟨d,h2,h3.sub hsub,fun a' h5=>?_⟩
    have hd:=(hbit d).1 h3.1
    by_cases e2:a'=a
    ·right;rw [e2];exact root d hd.1 hd.2
    ·rcases h4 a' (inside a' b h5 hcb e2) with h6 | h6
     ·exact .inl h6
     ·exact .inr (h6.sub hsub)
include hG hs hq in
theorem vI:∀ (f:Nat) (rest:B64) (par:Int) (P:List Int),cC rest≤f→(∀ i,rest.getLsbD i=true→i<n)→P.length=n→∀ b,b<n→(rest.getLsbD b=false→(placeF G q f rest par P).getD b 0=P.getD b 0)∧(rest.getLsbD b=true→DT (eu G) (jM q) rest par b ((placeF G q f rest par P).getD b 0)):=by
 intro f
 induction f with
 | zero=>
   intro rest par P hf hr hP b hb
   refine ⟨fun _=>rfl,fun h=>?_⟩
   rw [oh (Nat.le_zero.1 hf) b] at h;cases h
 | succ f IH=>
   intro rest par P hf hr hP b hb
   have hI:=kT G rest hs G.length
   have hpop:∀ c∈(compsN G rest G.length).1,∀ a,c.getLsbD a=true→cC (c&&& ~~~(BitVec.twoPow 64 a))≤f:=fun c hc a ha=>by have:=tO hc ha;omega
   have fold:∀ (cs:List B64) (P:List Int),(∀ c∈cs,Comp (eu G) rest c)→(∀ c∈cs,∀ a,c.getLsbD a=true→cC (c&&& ~~~(BitVec.twoPow 64 a))≤f)→cs.Pairwise (fun c d=>∀ i,c.getLsbD i=true→¬ d.getLsbD i=true)→P.length=n→
     ((∀ c∈cs,¬ c.getLsbD b=true)→(cs.foldl (b3 q (placeF G q f) par) P).getD b 0=P.getD b 0)∧(∀ c∈cs,c.getLsbD b=true→DT (eu G) (jM q) rest par b ((cs.foldl (b3 q (placeF G q f) par) P).getD b 0)):=by
    intro cs
    induction cs with
    | nil=>intro P _ _ _ _;exact ⟨fun _=>rfl,fun c hc=>by cases hc⟩
    | cons c cs ih=>
      intro P h1 h2 h3 h4
      have hl:(b3 q (placeF G q f) par P c).length=n:=by
       unfold b3;split
       ·rw [iv];simp [h4]
       ·exact h4
      have hg:=tu hs hq IH (h1 c (List.mem_cons_self ..)) (h2 c (List.mem_cons_self ..)) hr par P h4 b hb
      have hi:=ih (b3 q (placeF G q f) par P c) (fun d hd=>h1 d (List.mem_cons_of_mem _ hd)) (fun d hd=>h2 d (List.mem_cons_of_mem _ hd)) (List.pairwise_cons.1 h3).2 hl
      rw [List.foldl_cons]
      constructor
      ·intro h5
       rw [hi.1 (fun d hd=>h5 d (List.mem_cons_of_mem _ hd))]
       exact hg.1 (by simpa using h5 c (List.mem_cons_self ..))
      ·intro d hd h5
       rcases List.mem_cons.1 hd with rfl | hd
       ·rw [hi.1 (fun e he=>(List.pairwise_cons.1 h3).1 e he b h5)]
        exact hg.2 h5
       ·exact hi.2 d hd h5
   have hfold:=fold (compsN G rest G.length).1 P hI.all hpop hI.pw hP
   simp only [placeF]
   constructor
   ·intro h1
    refine hfold.1 fun c hc h2=>?_
    rw [(hI.all c hc).sub b h2] at h1;cases h1
   ·intro h1
    rcases (hI.cov b).1 h1 with h2 | ⟨c,hc,h2⟩
    ·exact absurd h2 (hI.low b (by omega))
    ·exact hfold.2 c hc h2
include hG hs hq in
theorem GH (hn:n<64) (hadj:∀ a b,eu G a b→b<n):IsOrd n (eu G) (jM q) (ofL G q):=by
 have hall:∀ i,(gI G.length).getLsbD i=true↔i<n:=fun i=>by rw [fB (by omega),decide_eq_true_iff,hG]
 have anc:∀ a b,a<n→b<n→(xh (eu G) (jM q) (gI G.length) a b↔Anc (eu G) (jM q) a b):=by
  intro a b ha hb
  constructor
  ·intro h;exact ⟨h.2.2.1,h.2.2.2.mono fun c hc=>hc.2⟩
  ·intro h
   refine ⟨(hall a).2 ha,(hall b).2 hb,h.1,?_⟩
   exact (h.2.stay (inn:=fun x=>(gI G.length).getLsbD x=true) ((hall a).2 ha) (fun x y _ hxy _=>(hall y).2 (hadj x y hxy))).1.mono fun c hc=>⟨hc.2,hc.1⟩
 refine ⟨by rw [Bf,hG],fun b hb=>?_⟩
 have:=(vI hG hs hq 64 (gI G.length) (-1) (List.replicate G.length 0) (jk _) (fun i hi=>(hall i).1 hi) (by simp [hG]) b hb).2 ((hall b).2 hb)
 rcases this with ⟨h1,h2⟩ | ⟨a,h1,h2,h3⟩
 ·exact .inl ⟨h1,fun a ha h3=>h2 a ((anc a b ha hb).2 h3)⟩
 ·have ha:=(hall a).1 h2.1
  refine .inr ⟨a,ha,h1,(anc a b ha hb).1 h2,fun a' ha' h4=>?_⟩
  rcases h3 a' ((anc a' b ha' hb).2 h4) with h5 | h5
  ·exact .inl h5
  ·exact .inr ((anc a' a ha' ha).1 h5)
end
theorem BO {S:Sch} (hV:Valid S) (a b:Nat):eu (gr S) a b↔Ex S a b:=by
 unfold eu Ex
 by_cases ha:a<S.attrs.length
 ·rw [pC hV ha,Bool.and_eq_true,decide_eq_true_iff]
 ·rw [List.getD,List.getElem?_eq_none (by rw [fR];omega)]
  constructor
  ·intro h;simp at h
  ·rintro ⟨_,h⟩;have:=(ow hV h).1;omega
theorem A8 {S:Sch} (hV:Valid S):eu (gr S)=Ex S:=by
 funext a b;exact propext (BO hV a b)
theorem C9 {S:Sch} (hV:Valid S) {q:List Int} (hq:q.Perm (upZ S.attrs.length)):IsOrd S.attrs.length (Ex S) (jM q) (ordL S q):=by
 have h1:=A8 hV
 have h2:=hV.n2
 have:=GH (G:=gr S) (q:=q) (n:=S.attrs.length) (fR S) (by rw [h1];exact kq S) hq (by omega) (by rw [h1];intro a b h;have:=(ow hV h.2).2;omega)
 rw [h1] at this
 exact this
end
section
open Go.RowKit Mk
set_option maxHeartbeats 4000000
end
section
open Go.RowKit Mk
set_option maxHeartbeats 4000000
end
section
open Go.RowKit Mk
set_option maxHeartbeats 1000000
end
section
open Go.RowKit Mk
set_option maxHeartbeats 1000000
theorem Aa {P:List Int} (hP:UpOk P):(aD P).length=P.length:=by rw [(cf hP).length_eq,a8]
end
theorem Bs {P:Program} {f:FuncId} {args:List PV} {us:List Value} (h:FnP P f args (· = .bool true)) (w:World) (hG:lA w (fun b=>b<w.heap.size)) (hrel:RelPL w (fun b=>b<w.heap.size) args us):
  Calls P f us.toArray w fun e w'=>e= .returned (.bool true)∧Below w.heap.size w w':=
 (h w _ us hG (fun _ hb=>hb) hrel).mono fun _ _ ⟨u,v,e,hv,hb,hr⟩=>by
  subst hv
  simp only [RelP] at hr
  subst hr
  exact ⟨e,hb⟩
section
open Go.RowKit Mk
set_option maxHeartbeats 1000000
section
variable {C:Ctx} {n:Nat} {σ:St} {dst:Option Tmp} {ty:TypeId} {ts:Array TypeId} {pos:String} {after:Array Edge} {gd:Option (Nat×Bool)}
def RM (T:TypeId) (id:Nat) (Q:PV→List PV→Prop) (s:OS):Prop:=∃ r cs',Q r cs'∧s=⟨.pv r,[(id,some (.mix T (cs'.map .pv)))],[]⟩
theorem relM {f:FuncId} {xs:Array Operand} {ps:List PV} {T:TypeId} {id:Nat} {cs:List PV} {Q:PV→List PV→Prop} (hc:bN C.P f) (hf:FnM C.P f T cs ps Q) (hargs:xs.toList.map (σ.ev n)= .ptr id 0::ps.map .pv) (ho:σ.ob id=some (.mix T (cs.map .pv))):
  OJ C n ⟨dst,.call { callee:= .value (.func f),args:=xs,argTypes:=ts },ty,pos,after,gd⟩ (fun τ'=>∃ s,RM T id Q s∧s.wr.map (·.1)=[id]∧s.nw=[]∧τ'=σ.app dst s) σ:=
 jW hc hf hargs ho fun r cs' h=>⟨_,⟨r,cs',h,rfl⟩,rfl,rfl,rfl⟩
end
end
section
open Go.RowKit Mk
set_option maxHeartbeats 4000000
end
section
open Go.RowKit Mk
set_option maxHeartbeats 4000000
end
section
open Go.RowKit Mk
set_option maxHeartbeats 4000000
end
section
open Go.RowKit Mk Jn
set_option maxHeartbeats 4000000
theorem jG:∀ (x y:List UInt8),Op.bytesLess x y=decide (x<y)
 | [],[]=>by simp [Op.bytesLess]
 | _::_,[]=>by simp [Op.bytesLess]
 | [],_::_=>by simp [Op.bytesLess]
 | a::x,b::y=>by
   rw [Op.bytesLess,jG x y]
   simp only [List.cons_lt_cons_iff]
   by_cases h1:a<b<;>by_cases h2:a=b<;>by_cases h3:x<y<;>simp [h1,h2,h3]
theorem mg (x:ByteArray) (a b:List ByteArray):aZ (x::a) (x::b)=aZ a b:=by
 unfold aZ vZ
 rw [Bool.eq_iff_iff,decide_eq_true_eq,decide_eq_true_eq,List.map_cons,List.map_cons,List.cons_lt_cons_iff]
 simp [List.lt_irrefl]
theorem Dr {x y:ByteArray} (h:x≠y) (a b:List ByteArray):aZ (x::a) (y::b)=Op.bytesLess x.toList y.toList:=by
 unfold aZ vZ
 rw [jG,ByteArray.toList_eq,ByteArray.toList_eq,Bool.eq_iff_iff,decide_eq_true_eq,decide_eq_true_eq,List.map_cons,List.map_cons,List.cons_lt_cons_iff]
 exact ⟨fun k=>k.elim id fun e=>absurd (xu e.1) h,.inl⟩
theorem oD:∀ {i:Nat} {a b:List ByteArray} (ha:i<a.length) (hb:i<b.length),a.take i=b.take i→a[i]≠b[i]→aZ a b=Op.bytesLess a[i].toList b[i].toList
 | 0,x::a,y::b,_,_,_,h=>Dr h a b
 | i+1,x::a,y::b,ha,hb,ht,h=>by
   rw [List.take_succ_cons,List.take_succ_cons,List.cons.injEq] at ht
   obtain ⟨rfl,ht⟩:=ht
   rw [mg]
   exact oD (by simpa using ha) (by simpa using hb) ht h
theorem gL:∀ {i:Nat} {a b:List ByteArray},i≤a.length→i≤b.length→(i=a.length∨i=b.length)→a.take i=b.take i→aZ a b=decide ((a.length:Int)<b.length)
 | _,[],[],_,_,_,_=>by simp [aZ,vZ]
 | _,[],y::b,_,_,_,_=>by simp [aZ,vZ]
 | _,x::a,[],_,_,_,_=>by simp [aZ,vZ];omega
 | 0,x::a,y::b,_,_,h,_=>by simp at h
 | i+1,x::a,y::b,ha,hb,h,ht=>by
   rw [List.take_succ_cons,List.take_succ_cons,List.cons.injEq] at ht
   obtain ⟨rfl,ht⟩:=ht
   rw [mg,gL (i:=i) (by simpa using ha) (by simpa using hb) (by simpa using h) ht]
   simp
theorem vV (a b:List ByteArray) (ha:a.length≤1000000) (hb:b.length≤1000000):FnP Tryz.prog 20 [aI a,aI b] (· = .bool (aZ a b)):=by
 refine FnP.of func20 rfl ntmps20 (by simp) fun m0 w0 F R0=>?_
 refine Z1 rfl rfl ?_
 refine Z1 rfl rfl ?_
 refine Gl rfl (st:=fun x_0:Nat=>mkS [(0,.pv (aI a)),(1,.pv (aI b)),(5,.pv (.int .i64 x_0))] [] 0)
  (I:=fun x_0=>(x_0≤a.length∧x_0≤b.length)∧a.take x_0=b.take x_0) (μ:=fun x_0=>a.length-x_0) (x0:=(0)) (Io (aS rfl) trivial rfl rfl) (⟨⟨Nat.zero_le _,Nat.zero_le _⟩,rfl⟩) ?_
 rintro i ⟨hi,ht⟩
 refine Gr rfl ?_
 iterate 5 refine A1 rfl ?_
 apply Iy 5 10 15 [11,12,13,14] rfl (by first | exact ax.le | exact ax.aw | exact Iv)
 ·intro hb4
  iterate 5 refine A1 rfl ?_
  exact Iq (Ik (Ik (Ik (Ik (Ik (Ik (fEq.refl) rfl) rfl) rfl) rfl) rfl) rfl) rfl rfl rfl
 ·intro hb4
  iterate 5 refine A1 rfl ?_
  exact Iq (Ik (Ik (Ik (Ik (Ik (Ik (fEq.refl) rfl) rfl) rfl) rfl) rfl) rfl) rfl rfl rfl
 refine Gc rfl rfl (fun hc15=>?_) (fun hc15=>?_)
 ·have hab:i<a.length∧i<b.length:=by simp at hc15;omega
  have va:=aM hab.1
  have na:=bc hab.1
  have vb:=aM hab.2
  have nb:=bc hab.2
  refine Il ?_
  refine Ge rfl follows [0,1,2,3,4,5,6,7,8] (by kernel_rfl) ?_
  iterate 3 refine D1 rfl rfl ?_
  first | refine D2 rfl rfl (by assumption) ?_ | refine D1 rfl rfl ?_
  iterate 3 refine D1 rfl rfl ?_
  first | refine D2 rfl rfl (by assumption) ?_ | refine D1 rfl rfl ?_
  refine D1 rfl rfl ?_
  refine ⟨by kernel_rfl,?_⟩
  refine Gc rfl rfl (fun hc26=>?_) (fun hc26=>?_)
  ·refine Ge rfl follows [0,1,2,3,4,5,6,7,8,9] (by kernel_rfl) ?_
   iterate 3 refine D1 rfl rfl ?_
   first | refine D2 rfl rfl (by assumption) ?_ | refine D1 rfl rfl ?_
   iterate 3 refine D1 rfl rfl ?_
   first | refine D2 rfl rfl (by assumption) ?_ | refine D1 rfl rfl ?_
   iterate 2 refine D1 rfl rfl ?_
   refine ⟨by kernel_rfl,?_⟩
   refine Gt rfl ?_
   exact ⟨_,_,rfl,rfl,congrArg PV.bool (oD hab.1 hab.2 ht (fun e=>by rw [e] at hc26;simp at hc26)).symm⟩
  ·refine Il ?_
   refine Z3 rfl rfl rfl rfl ?_
   exact ⟨(i+1),Io (aS rfl) trivial rfl rfl,⟨⟨by omega,by omega⟩,by rw [List.take_succ_eq_append_getElem hab.1,List.take_succ_eq_append_getElem hab.2,ht,show a[i]=b[i] from baT (by simpa using hc26)]⟩,by omega⟩
 ·refine Gx rfl ?_
  refine Gr rfl ?_
  iterate 6 refine A1 rfl ?_
  refine Gt rfl ?_
  exact ⟨_,_,rfl,rfl,congrArg PV.bool (gL (i:=i) hi.1 hi.2 (by simp at hc15;omega) ht).symm⟩
theorem mO (a b:List ByteArray) (ha:a.length≤1000000) (hb:b.length≤1000000):FnP Tryz.prog 63 [aI a,aI b] (· = .bool (decide (a=b))):=by
 refine FnP.of func63 rfl ntmps63 (by simp) fun m0 w0 F R0=>?_
 refine Z1 rfl rfl ?_
 refine Gr rfl ?_
 iterate 5 refine A1 rfl ?_
 refine Gc rfl rfl (fun hc10=>?_) (fun hc10=>?_)
 ·refine Z1 rfl rfl ?_
  refine Gt rfl ?_
  exact ⟨_,_,rfl,rfl,congrArg PV.bool (decide_eq_false (fun e=>by rw [e] at hc10;simp at hc10)).symm⟩
 ·have hl:a.length=b.length:=by simp at hc10;omega
  refine Il ?_
  refine Z3 rfl rfl rfl rfl ?_
  refine Gl rfl (st:=fun x_0:Nat=>mkS [(0,.pv (aI a)),(1,.pv (aI b)),(12,.pv (.int .i64 a.length)),(13,.pv (.int .i64 x_0))] [] 0)
   (I:=fun x_0=>x_0≤a.length∧a.take x_0=b.take x_0) (μ:=fun x_0=>a.length-x_0) (x0:=(0)) (Io (aS rfl) trivial rfl rfl) (⟨Nat.zero_le _,rfl⟩) ?_
  rintro i ⟨hi,ht⟩
  refine Z1 rfl rfl ?_
  refine Gp rfl rfl (fun hc14=>?_) (fun hc14=>?_)
  ·have ha1:i<a.length:=by omega
   have hb1:i<b.length:=by omega
   have va:=aM ha1
   have na:=bc ha1
   have vb:=aM hb1
   have nb:=bc hb1
   refine Il ?_
   refine Z2 rfl rfl rfl ?_
   refine Ge rfl follows [0,1,2,3,4,5,6,7,8] (by kernel_rfl) ?_
   iterate 3 refine D1 rfl rfl ?_
   first | refine D2 rfl rfl (by assumption) ?_ | refine D1 rfl rfl ?_
   iterate 3 refine D1 rfl rfl ?_
   first | refine D2 rfl rfl (by assumption) ?_ | refine D1 rfl rfl ?_
   refine D1 rfl rfl ?_
   refine ⟨by kernel_rfl,?_⟩
   refine Gc rfl rfl (fun hc24=>?_) (fun hc24=>?_)
   ·refine Z1 rfl rfl ?_
    refine Gt rfl ?_
    exact ⟨_,_,rfl,rfl,congrArg PV.bool (decide_eq_false (fun e=>by subst e;simp at hc24)).symm⟩
   ·refine Il ?_
    refine Z2 rfl rfl rfl ?_
    exact ⟨(i+1),Io (aS rfl) trivial rfl rfl,⟨by omega,by rw [List.take_succ_eq_append_getElem ha1,List.take_succ_eq_append_getElem hb1,ht,show a[i]=b[i] from baT (by simpa using hc24)]⟩,by omega⟩
  ·refine Gx rfl ?_
   refine Z1 rfl rfl ?_
   refine Gt rfl ?_
   exact ⟨_,_,rfl,rfl,congrArg PV.bool (decide_eq_true (by rwa [List.take_of_length_le (by omega),List.take_of_length_le (by omega)] at ht)).symm⟩
end
section
section
variable {C:Ctx} {n:Nat} {σ:St} {dst:Option Tmp} {ty t:TypeId} {pos:String} {after:Array Edge} {gd:Option (Nat×Bool)} {x y:Operand}
theorem dK {T e:TypeId} {id s k:Nat} {kl:IntKind} {il:Int} {o:Ob} (l:Nat) (hT:C.P.underlying T=some (.slice e)) (hs:b6 C.P e s) (hx:σ.ev n x= .osl id s k) (ho:σ.ob id=some o) (hy:σ.ev n y= .pv (.int kl il)) (hi:il=(l:Int)) (h1:l≤k) (hre:o.real=true:=by rfl):
  XJ C n ⟨dst,.slice T x (some y) none none,ty,pos,after,gd⟩ σ ⟨.tsl id (l*s) (k-l),[],[]⟩:=
 .val fun a w m R hw=>by
  obtain ⟨b,N,c,he,hkc,hcm,hN,hm,hor⟩:=hw.osl hx ho hre
  have e1:a.eval y= .int kl l:=by rw [hw.int hy,hi]
  have hav:σ.av id=false:=by
   cases hv:σ.av id with
   | false=>rfl
   | true=>have:=hw.hr.free id hv;rw [ho] at this;cases this
  refine ⟨.slice (if c=l then some ⟨b,0,none⟩ else (some ⟨b,0,none⟩:Option Addr).map (·.add (l*s))) (k-l) (c-l),?_,?_⟩
  ·simp [execOp,he,e1,Instr.sliceAt,Instr.slice,Instr.sliceBounds,Instr.sliceBound,asIntOf,run_underlying hT,hs.run,h1]
  ·simp only [Rel]
   refine ⟨hav,_,_,rfl,fun hp b' N' e=>?_⟩
   rw [hm] at e
   cases e
   rw [if_neg (by omega)]
   simp [Addr.add_lit]
theorem G4.tsl {id off j size:Nat} {T:TypeId} {cs news:List PV} (hx:σ.ev n y= .tsl id off j) (ho:σ.ob id=some (.cells T cs)) (hn:news=cs.drop off) (hl:news.length=j*size):G4 C n σ y j news:=by
 intro a w m R hw
 have h:=hw.ev y
 rw [hx] at h
 simp only [Rel] at h
 obtain ⟨hav,A,c,he,hA⟩:=h
 obtain ⟨b,N,hm,arr,hb,hsz,hle,hr⟩:=hw.live ho
 refine ⟨A,c,(arr.toList.take cs.length).drop off,he,by rw [hn];exact hr.drop off,fun hne=>?_⟩
 have hj:0<j:=by
  rcases Nat.eq_zero_or_pos j with h0 | h0
  ·exfalso
   apply hne
   rw [h0,Nat.zero_mul,hn,List.length_drop] at hl
   rw [List.drop_eq_nil_iff,List.length_take]
   omega
  ·exact h0
 refine ⟨b,off,hA hj b N hm,trivial,(hw.hr.own id b N hm).1,fun i hi=>?_⟩
 simp only [List.length_drop,List.length_take] at hi
 rw [cell_of_row w b (off+i) arr T (0,0) hb,List.getElem?_drop,List.getElem?_take,if_pos (by omega)]
 simp
theorem jA.any {j:Nat} {news:List PV} (h:jA n σ y j news):G4 C n σ y j news:=fun hw=>h.row hw
end
end
def St.gsO (σ:St) (t id sz n:Nat) (T:TypeId) (cs:List PV):St:=⟨upd σ.sl t (.gsl id sz n),obL [(id,some (.gro T cs))] σ.ob,σ.av⟩
theorem St.pn {σ:St} {id sz n:Nat} {T:TypeId} {cs:List PV} (t:Nat) (ht:σ.sl t= .osl id sz n) (ho:σ.ob id=some (.cells T cs)) (hn:0<n) (hc:cs≠[]):σ.le (σ.gsO t id sz n T cs):=by
 rintro C nn a w ⟨m,R,hw⟩
 have hs:∀ i,i≠id→obL [(id,some (Ob.gro T cs))] σ.ob i=σ.ob i:=fun i hi=>dJ _ _ _ (by simpa using hi)
 have hi:obL [(id,some (Ob.gro T cs))] σ.ob id=some (.gro T cs):=by simp [obL]
 refine ⟨m,R,⟨?_,?_,?_,hw.hr.inj,hw.hr.own,hw.hr.rsz,hw.hr.rfr,hw.hr.r0,hw.hr.frame,hw.hr.keep,hw.hr.res⟩,hw.df,hw.sz,?_⟩
 ·intro i
  by_cases e:i=id
  ·subst e;rw [hw.hr.dom,ho];show _=bl (obL _ _ _);rw [hi];exact (bQ hc).symm
  ·show _=bl (obL _ _ _);rw [hs i e];exact hw.hr.dom i
 ·intro i h
  by_cases e:i=id
  ·subst e;have:=hw.hr.free i h;rw [ho] at this;cases this
  ·show obL _ _ _=none;rw [hs i e];exact hw.hr.free i h
 ·intro i o b N h1 h2
  by_cases e:i=id
  ·subst e
   have h1':obL [(i,some (Ob.gro T cs))] σ.ob i=some o:=h1
   rw [hi] at h1'
   cases h1'
   have q:=hw.hr.obj i _ b N ho h2
   exact q
  ·have h1':obL [(id,some (Ob.gro T cs))] σ.ob i=some o:=h1
   rw [hs i e] at h1'
   exact hw.hr.obj i o b N h1' h2
 ·intro q hq
  show Rel w m σ.av R (upd σ.sl t (.gsl id sz n) q) _
  by_cases e:q=t
  ·subst e
   rw [au]
   have:=hw.sl q hq
   rw [ht] at this
   simp only [Rel] at this ⊢
   obtain ⟨b,N,hm,_⟩:=hw.live ho
   obtain ⟨h0,h1⟩:=this
   obtain ⟨c,he,h2,h3,h4⟩:=h1 b N hm
   exact ⟨h0,_,c,he,h2,h3,fun e=>by omega,fun _ b' N' hm'=>by rw [hm] at hm';cases hm';exact ⟨rfl,h4⟩⟩
  ·rw [aG _ _ e];exact hw.sl q hq
def St.nilS (σ:St) (t:Nat):St:=⟨upd σ.sl t (.pv nS),σ.ob,σ.av⟩
theorem St.rB {σ:St} {id sz:Nat} (t:Nat) (ht:σ.sl t= .gsl id sz 0):σ.le (σ.nilS t):=by
 rintro C nn a w ⟨m,R,hw⟩
 refine ⟨m,R,hw.hr,hw.df,hw.sz,fun q hq=>?_⟩
 show Rel w m σ.av R (upd σ.sl t (.pv nS) q) _
 by_cases e:q=t
 ·subst e
  rw [au]
  have:=hw.sl q hq
  rw [ht] at this
  simp only [Rel,RelP] at this ⊢
  obtain ⟨_,A,c,he,h1,h2,h3,_⟩:=this
  obtain ⟨rfl,rfl,_⟩:=h3 trivial
  exact ⟨none,0,he,h1,h2,(fun _ e=>by cases e;rfl),(fun _=>rfl),fun e=>absurd rfl e⟩
 ·rw [aG _ _ e];exact hw.sl q hq
section
open Go.RowKit Mk Jn
set_option maxHeartbeats 4000000
abbrev eV (x:Rw):List PV:=[aI x.v,.int .i64 x.w]
def aB (l:List Rw):List PV:=l.flatMap eV
abbrev bL (l:List Rw):PV:= .sl none l.length (aB l)
theorem aK (l:List Rw):(aB l).length=l.length*2:=fK _ 2 (fun _=>rfl) l
theorem aN {l:List Rw} {k:Nat} (h:k<l.length):((aB l).drop (k*2)).take 2=eV l[k]:=iq _ 2 (fun _=>rfl) l k h
theorem aW {l:List Rw} {k:Nat} (h:k<l.length):aB l≠[]:=fun e=>by have:=aK l;rw [e] at this;simp at this;omega
theorem nr {l:List Rw} {k:Nat} (h:k<l.length):(aB l)[k*2]? =some (aI l[k].v):=by
 have:=aN h
 have h2:(((aB l).drop (k*2)).take 2)[0]? =(eV l[k])[0]? :=by rw [this]
 simpa [List.getElem?_take,List.getElem?_drop] using h2
theorem s5 {l:List Rw} {k:Nat} (h:k<l.length):(aB l)[k*2+1]? =some (.int .i64 l[k].w):=by
 have:=aN h
 have h2:(((aB l).drop (k*2)).take 2)[1]? =(eV l[k])[1]? :=by rw [this]
 simpa [List.getElem?_take,List.getElem?_drop] using h2
theorem fj (l m:List Rw):aB (l++m)=aB l++aB m:=by simp [aB]
theorem dW (l:List Rw) (x:Rw):aB l++eV x=aB (l++[x]):=by simp [aB]
theorem dw (l:List Rw):∀ c∈aB l,c.leaf=true:=fun c hc=>by
 obtain ⟨t,_,hc⟩:=List.mem_flatMap.1 hc
 simp only [List.mem_cons,List.not_mem_nil,or_false] at hc
 rcases hc with rfl | rfl<;>rfl
theorem fu (l:List Rw) (k:Nat):(aB l).take (k*2)=aB (l.take k)∧(aB l).drop (k*2)=aB (l.drop k):=by
 have e:aB l=aB (l.take k)++aB (l.drop k):=by rw [← fj,List.take_append_drop]
 rcases Nat.lt_or_ge l.length k with h | h
 ·have hl:=aK l
  rw [List.take_of_length_le (by omega),List.take_of_length_le (by omega),List.drop_eq_nil_of_le (by omega),List.drop_eq_nil_of_le (by omega)]
  exact ⟨rfl,rfl⟩
 ·have hl:(aB (l.take k)).length=k*2:=by rw [aK,List.length_take,Nat.min_eq_left h]
  constructor
  ·conv=>lhs;rw [e]
   rw [← hl,List.take_left]
  ·conv=>lhs;rw [e]
   rw [← hl,List.drop_left]
theorem qu {l:List Rw} {k:Nat} (h:k<l.length) (w:Int):(aB l).set (k*2+1) (.int .i64 w)=aB (l.set k ⟨l[k].v,w⟩):=by
 induction l generalizing k with
 | nil=>simp at h
 | cons a l ih=>
   cases k with
   | zero=>rfl
   | succ k=>
     have h2:k<l.length:=by simpa using h
     have e:=ih h2
     rw [show (k+1)*2+1=k*2+1+1+1 by omega]
     show (aI a.v::PV.int .i64 a.w::aB l).set (k*2+1+1+1) _=aI a.v::PV.int .i64 a.w::aB (l.set k ⟨l[k].v,w⟩)
     rw [List.set_cons_succ,List.set_cons_succ,e]
theorem yZ {x:Rw}:∀ {i:Nat} {out:List Rw} (h:i<out.length),(∀ j (hj:j<out.length),j<i→aZ out[j].v x.v=true)→aZ out[i].v x.v=false→out[i].v=x.v→dB x out=out.set i ⟨out[i].v,out[i].w+x.w⟩
 | 0,y::l,_,_,h2,h3=>by
   rw [dB,if_neg (by simpa using h2),if_pos (by simpa using h3)];rfl
 | i+1,y::l,h,h1,h2,h3=>by
   rw [dB,if_pos (show aZ y.v x.v=true from h1 0 (by simp) (by omega)),yZ (i:=i) (by simpa using h) (fun j hj hji=>h1 (j+1) (by simpa using hj) (by omega)) (by simpa using h2) (by simpa using h3)]
   rfl
theorem ns {x:Rw}:∀ {i:Nat} {out:List Rw},i≤out.length→(∀ j (hj:j<out.length),j<i→aZ out[j].v x.v=true)→(∀ (h:i<out.length),aZ out[i].v x.v=false∧out[i].v≠x.v)→dB x out=out.take i++x::out.drop i
 | 0,[],_,_,_=>rfl
 | 0,y::l,_,_,h2=>by
   have:=h2 (by simp)
   rw [dB,if_neg (by simpa using this.1),if_neg (by simpa using this.2)];rfl
 | i+1,y::l,h,h1,h2=>by
   rw [dB,if_pos (show aZ y.v x.v=true from h1 0 (by simp) (by omega)),ns (i:=i) (by simpa using h) (fun j hj hji=>h1 (j+1) (by simpa using hj) (by omega)) (fun hi=>h2 (by simpa using hi))]
   rfl
theorem xw {x:Rw} {B X:Int} (hB:0≤B) (hx: -X≤x.w∧x.w≤X):∀ {l:List Rw},(∀ y∈l, -B≤y.w∧y.w≤B)→∀ y∈dB x l, -(B+X)≤y.w∧y.w≤B+X
 | [],_,y,hy=>by rw [dB,List.mem_singleton] at hy;rw [hy];omega
 | z::l,h,y,hy=>by
   have hz:=h z (by simp)
   have hl:∀ y∈l, -B≤y.w∧y.w≤B:=fun y hy=>h y (by simp [hy])
   rw [dB] at hy
   split at hy
   ·rcases List.mem_cons.1 hy with rfl | hy
    ·omega
    ·exact xw hB hx hl y hy
   ·split at hy
    ·rcases List.mem_cons.1 hy with rfl | hy
     ·show-(B+X)≤z.w+x.w∧z.w+x.w≤B+X;omega
     ·have:=hl y hy;omega
    ·rcases List.mem_cons.1 hy with rfl | hy
     ·omega
     ·have:=h y hy;omega
structure SoF (l:List Rw) (k:Nat) (out:List Rw):Prop where
 e:out=(l.take k).foldl (fun out x=>dB x out) []
 v:∀ y∈out,y.v.length≤1000
 w:∀ y∈out, -((k:Int)*1000000)≤y.w∧y.w≤(k:Int)*1000000
 n:out.length≤k
theorem SoF.zero (l:List Rw):SoF l 0 []:=⟨rfl,fun _ h=>absurd h (by simp),fun _ h=>absurd h (by simp),Nat.le_refl _⟩
theorem SoF.succ {l out:List Rw} {k:Nat} (h:SoF l k out) (hk:k<l.length) (hv:l[k].v.length≤1000) (hw: -1000000≤l[k].w∧l[k].w≤1000000):SoF l (k+1) (dB l[k] out):=by
 refine ⟨?_,fun y hy=>?_,fun y hy=>?_,?_⟩
 ·rw [List.take_succ_eq_append_getElem hk,List.foldl_append, ← h.e];rfl
 ·rcases jL hy with e | ⟨z,hz,e⟩
  ·rw [e];exact hv
  ·rw [e];exact h.v z hz
 ·have:=xw (B:=(k:Int)*1000000) (X:=1000000) (by omega) hw h.w y hy
  have e:((k+1:Nat):Int)*1000000=(k:Int)*1000000+1000000:=by omega
  rw [e];exact this
 ·have:=nU l[k] out
  have:=h.n
  omega
theorem wM (l:List Rw) (hl:l.length≤1000) (hv:∀ x∈l,x.v.length≤1000) (hw:∀ x∈l, -1000000≤x.w∧x.w≤1000000):FnP Tryz.prog 31 [bL l] (· =bL (lH l)):=by
 refine FnP.of func31 rfl ntmps31 (by simp) fun m0 w0 F R0=>?_
 have hll:=aK l
 refine Z1 rfl rfl ?_
 refine Z1 rfl rfl ?_
 refine Im (Iu 3 0 2 49 rfl rfl) ?_
 refine Z3 rfl rfl rfl rfl ?_
 refine Gl rfl (st:=fun x_0:Nat×List Rw=>mkS [(3,.gsl 0 2 x_0.2.length),(10,.pv (bL l)),(11,.pv (.int .i64 l.length)),(12,.pv (.int .i64 x_0.1))] [(0,.gro 49 (aB x_0.2))] 1)
  (I:=fun x_0=>x_0.1≤l.length∧SoF l x_0.1 x_0.2) (μ:=fun x_0=>l.length-x_0.1) (x0:=(0,[])) (Io (aS rfl) (aO rfl) rfl rfl) (⟨Nat.zero_le _,SoF.zero l⟩) ?_
 rintro ⟨k,out⟩ ⟨hk,hs⟩
 try simp only at hk hs ⊢
 refine Z1 rfl rfl ?_
 refine Gp rfl rfl (fun hc13=>?_) (fun hc13=>?_)
 ·have hlt:k<l.length:=by omega
  have hrow:=aN hlt
  have hne:=aW hlt
  have hxv:=hv _ (List.getElem_mem hlt)
  have hxw:=hw _ (List.getElem_mem hlt)
  have hsu:=hs.succ hlt hxv hxw
  have hon:=hs.n
  have hol:=aK out
  have hsw:=hs.w
  have hsv:=hs.v
  generalize l[k]=x at*
  refine Il ?_
  refine Z1 rfl rfl ?_
  first | refine A3 rfl (by assumption) ?_ | refine A1 rfl ?_
  refine Y2 rfl rfl ?_
  by_cases he:out=[]
  ·have hl0:out.length=0:=by rw [he];rfl
   refine Im (St.rB 3 (id:=0) (sz:=2) (congrArg (fun n=>V.gsl 0 2 n) hl0)) ?_
   refine Z1 rfl rfl ?_
   refine Gl rfl (st:=fun x_1:Nat=>mkS [(3,.pv nS),(5,.ptr 1 0),(6,.pv (.int .i64 x_1)),(10,.pv (bL l)),(11,.pv (.int .i64 l.length)),(12,.pv (.int .i64 k))] [(1,.mix 49 [.pv (aI x.v),.pv (.int .i64 x.w)])] 2)
    (I:=fun x_1=>x_1≤out.length∧∀ j (hj:j<out.length),j<x_1→aZ out[j].v x.v=true) (μ:=fun x_1=>out.length-x_1) (x0:=(0)) (Io (aS rfl) (aO rfl) rfl rfl) (⟨Nat.zero_le _,fun j _ h=>absurd h (by omega)⟩) ?_
   rintro i ⟨hi,hall⟩
   refine Ge rfl follows [0,1,2,3,4,5,6,7,8,9,10,11,12,13] (by kernel_rfl) ?_
   iterate 3 refine D1 rfl rfl ?_
   refine Ds 19 [] rfl rfl rfl (fun τ h=>XJ.cast (v':= .pv (.bool false)) (aQ (Ee h 0 rfl rfl) (Ee h 1 rfl rfl) rfl) (congrArg (fun b=>V.pv (.bool b)) (decide_eq_false (by omega)))) rfl (by kernel_rfl) ?_
   iterate 10 refine D1 rfl rfl ?_
   refine ⟨by kernel_rfl,?_⟩
   refine Gc rfl rfl (fun hc29=>absurd hc29 (by simp)) (fun hc29=>?_)
   refine Gx rfl ?_
   refine Ge rfl follows [0,1,2,3,4,5,6,7,8,9,10,11,12,13] (by kernel_rfl) ?_
   iterate 3 refine D1 rfl rfl ?_
   refine Ds 35 [] rfl rfl rfl (fun τ h=>XJ.cast (v':= .pv (.bool false)) (aQ (Ee h 0 rfl rfl) (Ee h 1 rfl rfl) rfl) (congrArg (fun b=>V.pv (.bool b)) (decide_eq_false (by omega)))) rfl (by kernel_rfl) ?_
   iterate 10 refine D1 rfl rfl ?_
   refine ⟨by kernel_rfl,?_⟩
   refine Gc rfl rfl (fun hc45=>absurd hc45 (by simp)) (fun hc45=>?_)
   refine Il ?_
   obtain rfl:i=0:=by omega
   have hput:dB x out=[x]:=by rw [he];rfl
   refine Ge rfl follows [0,1,2,3,4,5,6,7,8,9,10] (by kernel_rfl) ?_
   iterate 8 refine D1 rfl rfl ?_
   refine Ds 64 [_] rfl rfl rfl (fun τ h=>fc 3 xi (Ee h 0 rfl rfl) (Eo h 0 rfl rfl) rfl (.inl ⟨_,(Ee h 1 rfl rfl)⟩) rfl (by simp) (by omega) (h.n 0 _ rfl)) rfl (by kernel_rfl) ?_
   refine Ds 65 [_] rfl rfl rfl (fun τ h=>rM 4 xi (Ee h 0 rfl rfl) (.inr ⟨_,_,_,_,(Ee h 1 rfl rfl),(Eo h 0 rfl rfl),rfl⟩) rfl (dw [x]) (by omega) (h.n 0 _ rfl)) rfl (by kernel_rfl) ?_
   refine D1 rfl rfl ?_
   refine ⟨by kernel_rfl,?_⟩
   refine Z2 rfl rfl rfl ?_
   exact ⟨(k+1,dB x out),Ip [4] ⟨congrArg (fun n=>V.gsl 4 2 n) (show 1=(dB x out).length by rw [hput];rfl),rfl,rfl,rfl,trivial⟩ ⟨Eq.trans (b:=some (.gro 49 (eV x))) (by kernel_rfl) (congrArg (fun c=>some (Ob.gro 49 c)) (show eV x=aB (dB x out) by rw [hput];rfl)),trivial⟩ rfl rfl (by decide) rfl,⟨by omega,hsu⟩,by simp only;omega⟩
  ·have hpos:0<out.length:=List.length_pos_iff.2 he
   have hcne:aB out≠[]:=aW hpos
   refine Im (St.ku 3 rfl rfl hpos hcne) ?_
   refine Z1 rfl rfl ?_
   refine Gl rfl (st:=fun x_1:Nat=>mkS [(3,.osl 0 2 out.length),(5,.ptr 1 0),(6,.pv (.int .i64 x_1)),(10,.pv (bL l)),(11,.pv (.int .i64 l.length)),(12,.pv (.int .i64 k))] [(0,.cells 49 (aB out)),(1,.mix 49 [.pv (aI x.v),.pv (.int .i64 x.w)])] 2)
    (I:=fun x_1=>x_1≤out.length∧∀ j (hj:j<out.length),j<x_1→aZ out[j].v x.v=true) (μ:=fun x_1=>out.length-x_1) (x0:=(0)) (Io (aS rfl) (aO rfl) rfl rfl) (⟨Nat.zero_le _,fun j _ h=>absurd h (by omega)⟩) ?_
   rintro i ⟨hi,hall⟩
   by_cases hi2:i<out.length
   ·have hov:(aB out)[i*2+0]? =some (aI out[i].v):=nr hi2
    have how:=s5 hi2
    have hom:=List.getElem_mem hi2
    have hob:=hsw _ hom
    have hls:=vV out[i].v x.v (by have:=hsv _ hom;omega) (by omega)
    have hts:=mO out[i].v x.v (by have:=hsv _ hom;omega) (by omega)
    refine Ge rfl follows [0,1,2,3,4,5,6,7,8,9,10,11,12,13] (by kernel_rfl) ?_
    iterate 3 refine D1 rfl rfl ?_
    refine Ds 19 [] rfl rfl rfl (fun τ h=>XJ.cast (v':= .pv (.bool true)) (aQ (Ee h 0 rfl rfl) (Ee h 1 rfl rfl) rfl) (congrArg (fun b=>V.pv (.bool b)) (decide_eq_true (by omega)))) rfl (by kernel_rfl) ?_
    iterate 5 refine D1 rfl rfl ?_
    refine Dg 25 [_] rfl rfl rfl rfl (fun τ h=>aC ⟨_,underlying47,rfl⟩ (Ee h 0 rfl rfl) (Eo h 0 rfl rfl) hov) rfl (by kernel_rfl) ?_
    iterate 2 refine D1 rfl rfl ?_
    refine Dg 28 [] rfl rfl rfl rfl (fun τ h=>ae call20 hls (h.bt rfl)) rfl (by kernel_rfl) ?_
    refine D1 rfl rfl ?_
    refine ⟨by kernel_rfl,?_⟩
    refine Gc rfl rfl (fun hc29=>?_) (fun hc29=>?_)
    ·refine Il ?_
     refine Z3 rfl rfl rfl rfl ?_
     exact ⟨(i+1),Io (aS rfl) (aO rfl) rfl rfl,⟨by omega,fun j hj hji=>if h:j<i then hall j hj h else (by obtain rfl:j=i:=(by omega);exact hc29)⟩,by omega⟩
    ·refine Gx rfl ?_
     refine Ge rfl follows [0,1,2,3,4,5,6,7,8,9,10,11,12,13] (by kernel_rfl) ?_
     iterate 3 refine D1 rfl rfl ?_
     refine Ds 35 [] rfl rfl rfl (fun τ h=>XJ.cast (v':= .pv (.bool true)) (aQ (Ee h 0 rfl rfl) (Ee h 1 rfl rfl) rfl) (congrArg (fun b=>V.pv (.bool b)) (decide_eq_true (by omega)))) rfl (by kernel_rfl) ?_
     iterate 5 refine D1 rfl rfl ?_
     refine Dg 41 [_] rfl rfl rfl rfl (fun τ h=>aC ⟨_,underlying47,rfl⟩ (Ee h 0 rfl rfl) (Eo h 0 rfl rfl) hov) rfl (by kernel_rfl) ?_
     iterate 2 refine D1 rfl rfl ?_
     refine Dg 44 [] rfl rfl rfl rfl (fun τ h=>ae call63 hts (h.bt rfl)) rfl (by kernel_rfl) ?_
     refine D1 rfl rfl ?_
     refine ⟨by kernel_rfl,?_⟩
     refine Gc rfl rfl (fun hc45=>?_) (fun hc45=>?_)
     ·have hins:dB x out=out.set i ⟨out[i].v,out[i].w+x.w⟩:=yZ hi2 hall (by simpa using hc29) (of_decide_eq_true hc45)
      refine Ge rfl follows [0,1,2,3,4,5,6,7,8,9,10] (by kernel_rfl) ?_
      iterate 4 refine D1 rfl rfl ?_
      refine Ds 50 [_] rfl rfl rfl (fun τ h=>aC ⟨_,underlying3,rfl⟩ (Ee h 0 rfl rfl) (Eo h 0 rfl rfl) how) rfl (by kernel_rfl) ?_
      iterate 5 refine D1 rfl rfl ?_
      refine DL.step (d:=none) [_] rfl rfl rfl (fun τ h=>aF sz3 (Ee h 0 rfl rfl) (Eo h 0 rfl rfl) (Ee h 1 rfl rfl) rfl (by first | omega | (simp;omega))) rfl (by kernel_rfl) ?_
      refine ⟨by kernel_rfl,?_⟩
      refine Im (St.pn 3 rfl rfl hpos (by intro e;have h:=congrArg List.length e;rw [List.length_set] at h;exact hcne (List.eq_nil_of_length_eq_zero h))) ?_
      refine Gx rfl ?_
      refine Z2 rfl rfl rfl ?_
      exact ⟨(k+1,dB x out),Io ⟨congrArg (fun n=>V.gsl 0 2 n) (show out.length=(dB x out).length by rw [hins,List.length_set]),rfl,rfl,rfl,trivial⟩ ⟨Eq.trans (b:=some (.gro 49 ((aB out).set (i*2+1) (.int .i64 (out[i].w+x.w))))) (by kernel_rfl) (congrArg (fun c=>some (Ob.gro 49 c)) (by rw [hins];exact qu hi2 _)),trivial⟩ rfl rfl,⟨by omega,hsu⟩,by simp only;omega⟩
     ·refine Il ?_
      have hput:dB x out=out.take i++x::out.drop i:=ns hi hall (fun h=>⟨by simpa using hc29,of_decide_eq_false hc45⟩)
      have hcut:=fu out i
      have hdl:((aB out).drop (i*2)).length=(out.length-i)*2:=by rw [List.length_drop];omega
      have hnews:((eV x).take (1*2)++(aB out).drop (i*2)).take ((1+(out.length-i))*2)=aB (x::out.drop i):=by
       rw [hcut.2,show (eV x).take (1*2)++aB (out.drop i)=aB (x::out.drop i) from rfl,List.take_of_length_le]
       rw [aK,List.length_cons,List.length_drop];omega
      have hnl:(((eV x).take (1*2)++(aB out).drop (i*2)).take ((1+(out.length-i))*2)).length=(1+(out.length-i))*2:=by rw [hnews,aK,List.length_cons,List.length_drop];omega
      have hnf:∀ c∈((eV x).take (1*2)++(aB out).drop (i*2)).take ((1+(out.length-i))*2),c.leaf=true:=by rw [hnews];exact dw _
      have hcs:(aB out).take (i*2)++((eV x).take (1*2)++(aB out).drop (i*2)).take ((1+(out.length-i))*2)=aB (dB x out):=by rw [hnews,hcut.1,hput,fj]
      have hil:i+(1+(out.length-i))=(dB x out).length:=by rw [hput,List.length_append,List.length_cons,List.length_take,List.length_drop];omega
      refine Ge rfl follows [0,1,2,3,4,5,6,7,8,9,10] (by kernel_rfl) ?_
      iterate 2 refine D1 rfl rfl ?_
      refine Ds 58 [_] rfl rfl rfl (fun τ h=>dC i underlying38 lM (Ee h 0 rfl rfl) (Eo h 0 rfl rfl) (Ee h 1 rfl rfl) rfl hi) rfl (by kernel_rfl) ?_
      iterate 4 refine D1 rfl rfl ?_
      refine Ds 63 [_] rfl rfl rfl (fun τ h=>dK i underlying38 lM (Ee h 0 rfl rfl) (Eo h 0 rfl rfl) (Ee h 1 rfl rfl) rfl hi) rfl (by kernel_rfl) ?_
      refine Ds 64 [_,_] rfl rfl rfl (fun τ h=>eI 3 xi (Ee h 0 rfl rfl) (Eo h 0 rfl rfl) (Nat.le_refl _) (G4.tsl (Ee h 1 rfl rfl) (Eo h 1 rfl rfl) rfl hdl) hdl (fun c hc=>dw out c (List.mem_of_mem_drop hc)) (by omega) (h.n 0 _ rfl)) rfl (by kernel_rfl) ?_
      refine Ds 65 [_,_] rfl rfl rfl (fun τ h=>eI 4 xi (Ee h 0 rfl rfl) (Eo h 0 rfl rfl) (by omega) (jA.any (.inr ⟨_,_,_,_,(Ee h 1 rfl rfl),(Eo h 1 rfl rfl),rfl⟩)) hnl hnf (by omega) (h.n 0 _ rfl)) rfl (by kernel_rfl) ?_
      refine D1 rfl rfl ?_
      refine ⟨by kernel_rfl,?_⟩
      refine Im (St.pn 3 rfl rfl (by omega) (fun e=>aW (l:=dB x out) (k:=0) (by omega) (hcs.symm.trans e))) ?_
      refine Z2 rfl rfl rfl ?_
      exact ⟨(k+1,dB x out),Ip [4] ⟨congrArg (fun n=>V.gsl 4 2 n) hil,rfl,rfl,rfl,trivial⟩ ⟨Eq.trans (b:=some (.gro 49 ((aB out).take (i*2)++((eV x).take (1*2)++(aB out).drop (i*2)).take ((1+(out.length-i))*2)))) (by kernel_rfl) (congrArg (fun c=>some (Ob.gro 49 c)) hcs),trivial⟩ rfl rfl (by decide) rfl,⟨by omega,hsu⟩,by simp only;omega⟩
   ·refine Ge rfl follows [0,1,2,3,4,5,6,7,8,9,10,11,12,13] (by kernel_rfl) ?_
    iterate 3 refine D1 rfl rfl ?_
    refine Ds 19 [] rfl rfl rfl (fun τ h=>XJ.cast (v':= .pv (.bool false)) (aQ (Ee h 0 rfl rfl) (Ee h 1 rfl rfl) rfl) (congrArg (fun b=>V.pv (.bool b)) (decide_eq_false (by omega)))) rfl (by kernel_rfl) ?_
    iterate 10 refine D1 rfl rfl ?_
    refine ⟨by kernel_rfl,?_⟩
    refine Gc rfl rfl (fun hc29=>absurd hc29 (by simp)) (fun hc29=>?_)
    refine Gx rfl ?_
    refine Ge rfl follows [0,1,2,3,4,5,6,7,8,9,10,11,12,13] (by kernel_rfl) ?_
    iterate 3 refine D1 rfl rfl ?_
    refine Ds 35 [] rfl rfl rfl (fun τ h=>XJ.cast (v':= .pv (.bool false)) (aQ (Ee h 0 rfl rfl) (Ee h 1 rfl rfl) rfl) (congrArg (fun b=>V.pv (.bool b)) (decide_eq_false (by omega)))) rfl (by kernel_rfl) ?_
    iterate 10 refine D1 rfl rfl ?_
    refine ⟨by kernel_rfl,?_⟩
    refine Gc rfl rfl (fun hc45=>absurd hc45 (by simp)) (fun hc45=>?_)
    refine Il ?_
    have hput:dB x out=out.take i++x::out.drop i:=ns hi hall (fun h=>absurd h hi2)
    have hcut:=fu out i
    have hdl:((aB out).drop (i*2)).length=(out.length-i)*2:=by rw [List.length_drop];omega
    have hnews:((eV x).take (1*2)++(aB out).drop (i*2)).take ((1+(out.length-i))*2)=aB (x::out.drop i):=by
     rw [hcut.2,show (eV x).take (1*2)++aB (out.drop i)=aB (x::out.drop i) from rfl,List.take_of_length_le]
     rw [aK,List.length_cons,List.length_drop];omega
    have hnl:(((eV x).take (1*2)++(aB out).drop (i*2)).take ((1+(out.length-i))*2)).length=(1+(out.length-i))*2:=by rw [hnews,aK,List.length_cons,List.length_drop];omega
    have hnf:∀ c∈((eV x).take (1*2)++(aB out).drop (i*2)).take ((1+(out.length-i))*2),c.leaf=true:=by rw [hnews];exact dw _
    have hcs:(aB out).take (i*2)++((eV x).take (1*2)++(aB out).drop (i*2)).take ((1+(out.length-i))*2)=aB (dB x out):=by rw [hnews,hcut.1,hput,fj]
    have hil:i+(1+(out.length-i))=(dB x out).length:=by rw [hput,List.length_append,List.length_cons,List.length_take,List.length_drop];omega
    refine Ge rfl follows [0,1,2,3,4,5,6,7,8,9,10] (by kernel_rfl) ?_
    iterate 2 refine D1 rfl rfl ?_
    refine Ds 58 [_] rfl rfl rfl (fun τ h=>dC i underlying38 lM (Ee h 0 rfl rfl) (Eo h 0 rfl rfl) (Ee h 1 rfl rfl) rfl hi) rfl (by kernel_rfl) ?_
    iterate 4 refine D1 rfl rfl ?_
    refine Ds 63 [_] rfl rfl rfl (fun τ h=>dK i underlying38 lM (Ee h 0 rfl rfl) (Eo h 0 rfl rfl) (Ee h 1 rfl rfl) rfl hi) rfl (by kernel_rfl) ?_
    refine Ds 64 [_,_] rfl rfl rfl (fun τ h=>eI 3 xi (Ee h 0 rfl rfl) (Eo h 0 rfl rfl) (Nat.le_refl _) (G4.tsl (Ee h 1 rfl rfl) (Eo h 1 rfl rfl) rfl hdl) hdl (fun c hc=>dw out c (List.mem_of_mem_drop hc)) (by omega) (h.n 0 _ rfl)) rfl (by kernel_rfl) ?_
    refine Ds 65 [_,_] rfl rfl rfl (fun τ h=>eI 4 xi (Ee h 0 rfl rfl) (Eo h 0 rfl rfl) (by omega) (jA.any (.inr ⟨_,_,_,_,(Ee h 1 rfl rfl),(Eo h 1 rfl rfl),rfl⟩)) hnl hnf (by omega) (h.n 0 _ rfl)) rfl (by kernel_rfl) ?_
    refine D1 rfl rfl ?_
    refine ⟨by kernel_rfl,?_⟩
    refine Im (St.pn 3 rfl rfl (by omega) (fun e=>aW (l:=dB x out) (k:=0) (by omega) (hcs.symm.trans e))) ?_
    refine Z2 rfl rfl rfl ?_
    exact ⟨(k+1,dB x out),Ip [4] ⟨congrArg (fun n=>V.gsl 4 2 n) hil,rfl,rfl,rfl,trivial⟩ ⟨Eq.trans (b:=some (.gro 49 ((aB out).take (i*2)++((eV x).take (1*2)++(aB out).drop (i*2)).take ((1+(out.length-i))*2)))) (by kernel_rfl) (congrArg (fun c=>some (Ob.gro 49 c)) hcs),trivial⟩ rfl rfl (by decide) rfl,⟨by omega,hsu⟩,by simp only;omega⟩
 ·refine Im (Ir 0 rfl rfl) ?_
  have hon:=hs.n
  have hol:=aK out
  have hfin:lH l=out.filter fun y=>y.w !=0:=by rw [lH,hs.e,show k=l.length by omega,List.take_length]
  refine Gx rfl ?_
  refine Z1 rfl rfl ?_
  refine Im (Iu 7 1 2 49 rfl rfl) ?_
  refine Z3 rfl rfl rfl rfl ?_
  refine Gl rfl (st:=fun x_2:Nat×List Rw=>mkS [(7,.gsl 1 2 x_2.2.length),(67,.pv (bL out)),(68,.pv (.int .i64 out.length)),(69,.pv (.int .i64 x_2.1))] [(1,.gro 49 (aB x_2.2))] 2)
   (I:=fun x_2=>(x_2.1≤out.length∧x_2.2.length≤x_2.1)∧x_2.2=(out.take x_2.1).filter fun y=>y.w !=0) (μ:=fun x_2=>out.length-x_2.1) (x0:=(0,[])) (Io (aS rfl) (aO rfl) rfl rfl) (⟨⟨Nat.zero_le _,Nat.le_refl _⟩,rfl⟩) ?_
  rintro ⟨j,q⟩ ⟨hj,hq⟩
  try simp only at hj hq ⊢
  refine Z1 rfl rfl ?_
  refine Gp rfl rfl (fun hc70=>?_) (fun hc70=>?_)
  ·have hlj:j<out.length:=by omega
   have hrj:=aN hlj
   have hnj:=aW hlj
   have hql:=aK q
   have htk:out.take (j+1)=out.take j++[out[j]]:=List.take_succ_eq_append_getElem hlj
   generalize out[j]=y at*
   refine Il ?_
   refine Z1 rfl rfl ?_
   first | refine A3 rfl (by assumption) ?_ | refine A1 rfl ?_
   refine Y2 rfl rfl ?_
   refine Z3 rfl rfl rfl rfl ?_
   refine Gc rfl rfl (fun hc75=>?_) (fun hc75=>?_)
   ·refine Gr rfl ?_
    iterate 5 refine A1 rfl ?_
    refine Z2 rfl rfl rfl ?_
    exact ⟨(j+1,q++[y]),Ip [0,4] ⟨congrArg (fun n=>V.gsl 4 2 n) (show q.length+1=(q++[y]).length by simp),rfl,rfl,rfl,trivial⟩ ⟨Eq.trans (b:=some (.gro 49 (aB q++eV y))) (by kernel_rfl) (congrArg (fun c=>some (Ob.gro 49 c)) (dW q y)),trivial⟩ rfl rfl (by decide) rfl,⟨⟨by omega,by simp only [List.length_append,List.length_singleton];omega⟩,by rw [htk,List.filter_append, ← hq];simp only [List.filter_cons,List.filter_nil];rw [if_pos hc75]⟩,by simp only;omega⟩
   ·refine Il ?_
    refine Z2 rfl rfl rfl ?_
    exact ⟨(j+1,q),Io (aS rfl) (aO rfl) rfl rfl,⟨⟨by omega,by simp only;omega⟩,by rw [htk,List.filter_append, ← hq];simp only [List.filter_cons,List.filter_nil];rw [if_neg (by rw [hc75];decide),List.append_nil]⟩,by simp only;omega⟩
  ·refine Im (Ir 1 rfl rfl) ?_
   refine Gx rfl ?_
   refine Z2 rfl rfl rfl ?_
   refine Gt rfl ?_
   exact ⟨_,_,rfl,rfl,by rw [hfin,show out.filter (fun y=>y.w !=0)=q by rw [hq,List.take_of_length_le (by omega)]];rfl⟩
end
section
open Go.RowKit Mk Jn
set_option maxHeartbeats 4000000
def Fk:List ByteArray:=[⟨#[114,101,100]⟩,⟨#[103,114,101,101,110]⟩,⟨#[98,108,117,101]⟩]
def rI:List ByteArray:=[⟨#[49]⟩,⟨#[50]⟩,⟨#[49,48]⟩]
def C6:List ByteArray:=[⟨#[48]⟩,⟨#[49]⟩,⟨#[45,50]⟩,⟨#[49,47,50]⟩,⟨#[51]⟩,⟨#[53,47,51]⟩,⟨#[49]⟩,⟨#[50]⟩]
def gX (kd:Int):List ByteArray:=⟨#[]⟩::(if kd=3 then Fk else if kd=1 then rI else C6)
def FA (c:Nat) (kd:Int):ByteArray:=if c=8 then ⟨#[]⟩ else if kd=3 then Fk.getD (c%3) ⟨#[]⟩ else if kd=1 then rI.getD (c%3) ⟨#[]⟩ else C6.getD c ⟨#[]⟩
theorem fE {l:List ByteArray} {j:Nat} (h:j<l.length):l.getD j ⟨#[]⟩=l[j]∧l[j]∈l:=⟨by simp [List.getD,h],List.getElem_mem h⟩
theorem Di {c:Nat} (kd:Int) (h:c<9):FA c kd∈gX kd:=by
 unfold FA gX
 by_cases h8:c=8
 ·rw [if_pos h8];simp
 ·rw [if_neg h8]
  refine List.mem_cons_of_mem _ ?_
  by_cases h3:kd=3
  ·rw [if_pos h3,if_pos h3]
   have:=fE (l:=Fk) (j:=c%3) (Nat.mod_lt _ (by decide));rw [this.1];exact this.2
  ·rw [if_neg h3,if_neg h3]
   by_cases h1:kd=1
   ·rw [if_pos h1,if_pos h1]
    have:=fE (l:=rI) (j:=c%3) (Nat.mod_lt _ (by decide));rw [this.1];exact this.2
   ·rw [if_neg h1,if_neg h1]
    have:=fE (l:=C6) (j:=c) (by have e:C6.length=8:=rfl;omega);rw [this.1];exact this.2
theorem vw (L:List Int) (k:Nat) (hL:L.length≤600) (hk:k≤L.length) (nm:ByteArray) (kd:Int):
  FnM Tryz.prog 59 85 (jB L k) [.agg [.str nm,.int .i64 kd]] (fun v c=>v= .str (FA (sNv L k 9).toNat kd)∧c=jB L (sNk L k)):=by
 refine FnM.of func59 rfl ntmps59 (by simp) rfl (by simp) fun m0 w0 F R0=>?_
 have hn:=zP L k 9 hL hk (by decide) (by decide)
 have hb:=uV L k 9 (by decide)
 obtain ⟨c,hc⟩:=Int.eq_ofNat_of_zero_le hb.1
 have hc9:c<9:=by omega
 rw [hc] at hn
 rw [hc,Int.toNat_natCast]
 refine Z2 rfl rfl rfl ?_
 refine Z1 rfl rfl ?_
 refine Rs 7 rfl rfl (iu call18 hn rfl rfl) ?_
 refine A1 rfl ?_
 refine Z3 rfl rfl rfl rfl ?_
 refine Gc rfl rfl (fun hc8=>?_) (fun hc8=>?_)
 ·have h8:c=8:=by have h:(c:Int)=8:=(by simpa using hc8);omega
  refine Z1 rfl rfl ?_
  refine Gt rfl ?_
  exact ⟨_,jB L (sNk L k),rfl,rfl,congrArg PV.str (by rw [FA,if_pos h8]),rfl⟩
 ·have h8:¬ c=8:=by have h:¬ (c:Int)=8:=(by simpa using hc8);omega
  refine Z4 rfl rfl rfl rfl rfl ?_
  refine Gc rfl rfl (fun hc11=>?_) (fun hc11=>?_)
  ·have h3:kd=3:=by simpa using hc11
   have hlt:c%3<Fk.length:=Nat.mod_lt _ (by decide)
   have hv:=aM hlt
   have hne:=bc hlt
   refine Gr rfl ?_
   refine Rs 15 rfl rfl (aq (vs:=Fk.map fun x=> .pv (.str x)) (cs:=aA Fk) none (by simp) uq rfl (by decide) (by decide) (by kernel_rfl) (by kernel_rfl)) ?_
   refine A1 rfl ?_
   refine Rs 17 rfl rfl (XJ.cast (v':= .pv (.int .i64 ((c%3:Nat):Int))) (l8 rfl rfl (by decide)) rfl) ?_
   refine Rs 18 rfl rfl (ag (c%3) underlying47 sz9 rfl rfl rfl hlt hne) ?_
   refine Rs 19 rfl rfl (ai ⟨_,underlying9,rfl⟩ rfl hv) ?_
   refine A1 rfl ?_
   refine Gt rfl ?_
   exact ⟨_,jB L (sNk L k),rfl,rfl,congrArg PV.str (by rw [FA,if_neg h8,if_pos h3,(fE hlt).1]),rfl⟩
  ·have h3:¬ kd=3:=by simpa using hc11
   refine Z4 rfl rfl rfl rfl rfl ?_
   refine Gc rfl rfl (fun hc20=>?_) (fun hc20=>?_)
   ·have h1:kd=1:=by simpa using hc20
    have hlt:c%3<rI.length:=Nat.mod_lt _ (by decide)
    have hv:=aM hlt
    have hne:=bc hlt
    refine Gr rfl ?_
    refine Rs 24 rfl rfl (aq (vs:=rI.map fun x=> .pv (.str x)) (cs:=aA rI) none (by simp) uq rfl (by decide) (by decide) (by kernel_rfl) (by kernel_rfl)) ?_
    refine A1 rfl ?_
    refine Rs 26 rfl rfl (XJ.cast (v':= .pv (.int .i64 ((c%3:Nat):Int))) (l8 rfl rfl (by decide)) rfl) ?_
    refine Rs 27 rfl rfl (ag (c%3) underlying47 sz9 rfl rfl rfl hlt hne) ?_
    refine Rs 28 rfl rfl (ai ⟨_,underlying9,rfl⟩ rfl hv) ?_
    refine A1 rfl ?_
    refine Gt rfl ?_
    exact ⟨_,jB L (sNk L k),rfl,rfl,congrArg PV.str (by rw [FA,if_neg h8,if_neg h3,if_pos h1,(fE hlt).1]),rfl⟩
   ·have h1:¬ kd=1:=by simpa using hc20
    have hlt:c<C6.length:=by have e:C6.length=8:=rfl;omega
    have hv:=aM hlt
    have hne:=bc hlt
    refine Il ?_
    refine Gr rfl ?_
    refine Rs 29 rfl rfl (aq (vs:=C6.map fun x=> .pv (.str x)) (cs:=aA C6) none (by simp) uq rfl (by decide) (by decide) (by kernel_rfl) (by kernel_rfl)) ?_
    refine A1 rfl ?_
    refine Rs 31 rfl rfl (ag c underlying47 sz9 rfl rfl rfl hlt hne) ?_
    refine Rs 32 rfl rfl (ai ⟨_,underlying9,rfl⟩ rfl hv) ?_
    refine A1 rfl ?_
    refine Gt rfl ?_
    exact ⟨_,jB L (sNk L k),rfl,rfl,congrArg PV.str (by rw [FA,if_neg h8,if_neg h3,if_neg h1,(fE hlt).1]),rfl⟩
theorem rZ (L:List Int) (k:Nat) (hL:L.length≤600) (hk:k≤L.length) (nm:ByteArray) (kd:Int):
  ∃ x∈gX kd,FnM Tryz.prog 59 85 (jB L k) [.agg [.str nm,.int .i64 kd]] (fun v c=>v= .str x∧c=jB L (sNk L k)):=
 ⟨_,Di kd (by have:=uV L k 9 (by decide);omega),vw L k hL hk nm kd⟩
end
section
open Go.RowKit Mk Jn
set_option maxHeartbeats 4000000
theorem yz (x y:Int) (hx:x.natAbs<1000000000) (hy:y.natAbs<1000000000):Gy x y:=by
 have hs:∀ n:Nat,n<1000000000→(aj n).length≤1:=fun n h=>bF.2 (by omega)
 exact sF (fun a b=>a<1000000000∧b<1000000000) (fun a b h h0 h1 _ _=>by
  have:=hs a h.1;have:=hs b h.2;omega) x y ⟨hx,hy⟩ (by have:=hs _ hx;omega) (by have:=hs _ hy;omega)
theorem DR {s:ByteArray} (h:cS s=false):o5 s=⟨#[]⟩:=by
 unfold cS at h
 unfold o5
 have:∀ l m:List UInt8,(Lib.cut l m).2.2=false→(Lib.cut l m).2.1=[]:=fun l m h=>by
  unfold Lib.cut at h ⊢
  split at h
  ·simp at h
  ·split
   ·contradiction
   ·rfl
 rw [this _ _ h]
theorem Ad (z:Int) (hz:z.natAbs<1000000000):FnP Tryz.prog 250 [ec z] (· = .tup [.int .i64 z,.bool true]):=by
 refine FnP.of func250 rfl ntmps250 (by simp) fun m0 w0 F R0=>?_
 have hlen:(aj z.natAbs).length≤1:=bF.2 (by omega)
 have hat:=ja (aj z.natAbs) 2 (by omega)
 have hl2:lim (aj z.natAbs) 2=0:=by rw [gA];omega
 generalize lim (aj z.natAbs) 2=L at*
 have hsm:=dF z.natAbs (by omega)
 have hwr:IntKind.i64.wrap ((z.natAbs:Nat):Int)=(z.natAbs:Int):=eT (by omega)
 refine Z3 rfl rfl rfl rfl ?_
 refine Gr rfl ?_
 iterate 5 refine A1 rfl ?_
 apply Ix 5 9 14 [10,11,12,13] rfl (by first | exact ax.le | exact ax.aw | exact Iv)
 ·intro hb4
  iterate 5 refine A1 rfl ?_
  exact Iq (Ik (Ik (Ik (Ik (Ik (Ik (fEq.refl) rfl) rfl) rfl) rfl) rfl) rfl) rfl rfl rfl
 ·intro hb4
  refine Y2 rfl rfl ?_
  refine Rg 12 rfl rfl rfl (ae call184 hat rfl) ?_
  refine Y2 rfl rfl ?_
  exact Iq (Ik (Ik (Ik (Ik (Ik (Ik (fEq.refl) rfl) rfl) rfl) rfl) rfl) rfl) rfl rfl rfl
 refine Gc rfl rfl (fun hc14=>absurd hc14 (fun h=>by simp at h;omega)) (fun hc14=>?_)
 refine Il ?_
 refine Ge rfl follows [0,1,2,3,4,5,6,7,8,9] (by kernel_rfl) ?_
 iterate 2 refine D1 rfl rfl ?_
 refine Ds 17 [] rfl rfl rfl (fun τ h=>ae call184 hat (h.bt rfl)) rfl (by kernel_rfl) ?_
 refine Ds 18 [] rfl rfl rfl (fun τ h=>nL (b:=1000000000) (Ee h 0 rfl rfl) (Ee h 1 rfl rfl) (by omega)) rfl (by kernel_rfl) ?_
 refine Ds 19 [] rfl rfl rfl (fun τ h=>nL (b:=1000000000) (Ee h 0 rfl rfl) (Ee h 1 rfl rfl) (by omega)) rfl (by kernel_rfl) ?_
 iterate 2 refine D1 rfl rfl ?_
 refine Ds 22 [] rfl rfl rfl (fun τ h=>ae call270 hsm (h.bt rfl)) rfl (by kernel_rfl) ?_
 refine Ds 23 [] rfl rfl rfl (fun τ h=>XJ.cast (v':= .pv (.int .u64 (z.natAbs:Int))) (nR (b:=z.natAbs) (Ee h 0 rfl rfl) (Ee h 1 rfl rfl) (by omega)) (congrArg (fun n:Nat=>V.pv (.int .u64 (n:Int))) (by omega))) rfl (by kernel_rfl) ?_
 refine D1 rfl rfl ?_
 refine ⟨by kernel_rfl,?_⟩
 refine Z2 rfl rfl rfl ?_
 refine Gp rfl rfl (fun hc25=>absurd hc25 (by omega)) (fun hc25=>?_)
 refine Il ?_
 refine Z2 rfl rfl rfl ?_
 refine Gc rfl rfl (fun hc27=>?_) (fun hc27=>?_)
 ·have hz0:z<0:=of_decide_eq_true hc27
  refine Z1 rfl rfl ?_
  refine Rs 29 rfl rfl ((en underlying136 underlying3 rfl).cast (v':= .pv (.int .i64 (z.natAbs:Int))) (congrArg (fun z=>V.pv (.int .i64 z)) hwr)) ?_
  refine Y3 rfl rfl rfl ?_
  refine Gt rfl ?_
  exact ⟨_,_,rfl,rfl,congrArg (fun q=>PV.tup [PV.int IntKind.i64 q,PV.bool true]) (show-(z.natAbs:Int)=z by omega)⟩
 ·have hz0:¬ z<0:=of_decide_eq_false hc27
  refine Il ?_
  refine Z1 rfl rfl ?_
  refine Rs 32 rfl rfl ((en underlying136 underlying3 rfl).cast (v':= .pv (.int .i64 (z.natAbs:Int))) (congrArg (fun z=>V.pv (.int .i64 z)) hwr)) ?_
  refine Y2 rfl rfl ?_
  refine Gt rfl ?_
  exact ⟨_,_,rfl,rfl,congrArg (fun q=>PV.tup [PV.int IntKind.i64 q,PV.bool true]) (show (z.natAbs:Int)=z by omega)⟩
theorem p3 (s:ByteArray) (h:bo s=true) (hz:(rdZ s).natAbs<1000000000):FnP Tryz.prog 218 [.str s] (· = .tup [.int .i64 (rdZ s),.bool true]):=by
 refine FnP.of func218 rfl ntmps218 (by simp) fun m0 w0 F R0=>?_
 have hv:=cV s
 rw [h] at hv
 refine Z2 rfl rfl rfl ?_
 refine Z1 rfl rfl ?_
 refine Rs 5 rfl rfl (ae call248 hv rfl) ?_
 refine A1 rfl ?_
 refine Gc rfl rfl (fun hc6=>absurd hc6 (by simp)) (fun hc6=>?_)
 refine Il ?_
 refine Z1 rfl rfl ?_
 refine Rs 8 rfl rfl (ae call249 (iC s h) rfl) ?_
 refine Rs 9 rfl rfl (ae call250 (Ad _ hz) rfl) ?_
 iterate 4 refine A1 rfl ?_
 refine Gt rfl ?_
 exact ⟨_,_,rfl,rfl,rfl⟩
theorem jn (s:ByteArray) (h:bo s=true) (hz:(rdZ s).natAbs<1000000000):FnP Tryz.prog 216 [.str s] (· = .bool true):=by
 refine FnP.of func216 rfl ntmps216 (by simp) fun m0 w0 F R0=>?_
 have h1:decide (rdZ s≥ -1000000000)=true:=decide_eq_true (by omega)
 have h2:decide (rdZ s≤1000000000)=true:=decide_eq_true (by omega)
 refine Z1 rfl rfl ?_
 refine Z1 rfl rfl ?_
 refine Rs 7 rfl rfl (ae call218 (p3 s h hz) rfl) ?_
 iterate 5 refine A1 rfl ?_
 refine Z3 rfl rfl rfl rfl ?_
 refine Rg 13 rfl rfl rfl (XJ.cast (v':= .pv (.bool true)) (aQ rfl rfl rfl) (congrArg (fun b=>V.pv (.bool b)) h1)) ?_
 refine Y3 rfl rfl rfl ?_
 refine Rg 17 rfl rfl rfl (XJ.cast (v':= .pv (.bool true)) (aQ rfl rfl rfl) (congrArg (fun b=>V.pv (.bool b)) h2)) ?_
 refine Y2 rfl rfl ?_
 refine Gt rfl ?_
 exact ⟨_,_,rfl,rfl,rfl⟩
theorem EP:bo ⟨#[]⟩=false:=by kernel_rfl
theorem zW:FnP Tryz.prog 218 [.str ⟨#[]⟩] (· = .tup [.int .i64 0,.bool false]):=by
 refine FnP.of func218 rfl ntmps218 (by simp) fun m0 w0 F R0=>?_
 have hv:=cV ⟨#[]⟩
 rw [EP] at hv
 refine Z2 rfl rfl rfl ?_
 refine Z1 rfl rfl ?_
 refine Rs 5 rfl rfl (ae call248 hv rfl) ?_
 refine A1 rfl ?_
 refine Gc rfl rfl (fun hc6=>?_) (fun hc6=>absurd hc6 (by simp))
 refine Z2 rfl rfl rfl ?_
 refine Gt rfl ?_
 exact ⟨_,_,rfl,rfl,rfl⟩
theorem GA:mP ⟨#[]⟩=false:=by kernel_rfl
theorem GR:bo (sO ⟨#[]⟩)=false:=by kernel_rfl
theorem vL:FnP Tryz.prog 217 [.str ⟨#[]⟩] (· = .tup [.str ⟨#[]⟩,.str ⟨#[]⟩,.bool false]):=by
 refine FnP.of func217 rfl ntmps217 (by simp) fun m0 w0 F R0=>?_
 have hv:=j9 ⟨#[]⟩ (by decide) (fun h=>by rw [GR] at h;cases h)
 rw [GA] at hv
 refine Z3 rfl rfl rfl rfl ?_
 refine Z1 rfl rfl ?_
 refine Rs 9 rfl rfl (ae call246 hv rfl) ?_
 refine A1 rfl ?_
 refine Gc rfl rfl (fun hc10=>?_) (fun hc10=>absurd hc10 (by simp))
 refine Z3 rfl rfl rfl rfl ?_
 refine Gt rfl ?_
 exact ⟨_,_,rfl,rfl,rfl⟩
structure NumOk (v:ByteArray):Prop where
 s:v.size<4294967281
 r:mP v=true
 n:bo (sO v)=true∧(rdZ (sO v)).natAbs<1000000000
 d:cS v=true→bo (o5 v)=true∧1≤rdZ (o5 v)∧rdZ (o5 v)≤12
theorem vT (v:ByteArray) (h:NumOk v):FnP Tryz.prog 217 [.str v] (· = .tup [.str (sO v),.str (if cS v=true then o5 v else EE),.bool true]):=by
 refine FnP.of func217 rfl ntmps217 (by simp) fun m0 w0 F R0=>?_
 have hG:bo (sO v)=true→HA v=false→Gy (rdZ (sO v)) (rdZ (o5 v)):=fun _ hb=>by
  refine yz _ _ h.n.2 ?_
  have hr:=h.r
  unfold mP at hr
  by_cases hs:cS v=true
  ·have:=h.d hs;omega
  ·rw [if_pos (by rw [h.n.1,eq_false_of_ne_true hs];rfl)] at hr
   have e:o5 v=⟨#[]⟩:=DR (eq_false_of_ne_true hs)
   rw [e];decide
 have hv:=j9 v h.s hG
 rw [h.r] at hv
 have hc:=DY v ⟨#[47]⟩ h.s
 refine Z3 rfl rfl rfl rfl ?_
 refine Z1 rfl rfl ?_
 refine Rs 9 rfl rfl (ae call246 hv rfl) ?_
 refine A1 rfl ?_
 refine Gc rfl rfl (fun hc10=>absurd hc10 (by simp)) (fun hc10=>?_)
 refine Il ?_
 refine Z1 rfl rfl ?_
 refine Rs 13 rfl rfl (ae call247 hc rfl) ?_
 iterate 7 refine A1 rfl ?_
 refine Z2 rfl rfl rfl ?_
 refine Gc rfl rfl (fun hc18=>?_) (fun hc18=>?_)
 ·have hs:cS v=false:=by have h9:(!cS v)=true:=hc18;simpa using h9
  rw [hs,if_neg (by decide)]
  refine Z1 rfl rfl ?_
  refine Gr rfl ?_
  iterate 5 refine A1 rfl ?_
  refine Gt rfl ?_
  exact ⟨_,_,rfl,rfl,rfl⟩
 ·have hs:cS v=true:=by have h9:(!cS v)=false:=hc18;simpa using h9
  rw [hs,if_pos rfl]
  refine Il ?_
  refine Gr rfl ?_
  iterate 5 refine A1 rfl ?_
  refine Gt rfl ?_
  exact ⟨_,_,rfl,rfl,rfl⟩
theorem kG (nm v:ByteArray) (h:v=⟨#[]⟩∨bo v=true∧(rdZ v).natAbs<1000000000):FnP Tryz.prog 179 [.agg [.str nm,.int .i64 1],.str v] (· = .bool true):=by
 refine FnP.of func179 rfl ntmps179 (by simp) fun m0 w0 F R0=>?_
 refine Z2 rfl rfl rfl ?_
 refine Z2 rfl rfl rfl ?_
 refine Z2 rfl rfl rfl ?_
 refine Gc rfl rfl (fun hc12=>?_) (fun hc12=>absurd hc12 (by simp))
 by_cases he:v=⟨#[]⟩
 ·subst he
  refine Z1 rfl rfl ?_
  refine Rs 15 rfl rfl (XJ.cast (v':= .pv (.bool true)) (cF rfl rfl rfl) (congrArg (fun b=>V.pv (.bool b)) (beq_self_eq_true _))) ?_
  iterate 5 refine A1 rfl ?_
  refine Gt rfl ?_
  exact ⟨_,_,rfl,rfl,rfl⟩
 ·have hne:(v.toList==(⟨#[]⟩:ByteArray).toList)=false:=by rw [beq_eq_false_iff_ne];exact fun e=>he (bytes_inj e)
  obtain ⟨hv1,hv2⟩:=h.resolve_left he
  refine Z1 rfl rfl ?_
  refine Rs 15 rfl rfl (XJ.cast (v':= .pv (.bool false)) (cF rfl rfl rfl) (congrArg (fun b=>V.pv (.bool b)) hne)) ?_
  refine Y2 rfl rfl ?_
  refine Rg 18 rfl rfl rfl (ae call216 (jn v hv1 hv2) rfl) ?_
  refine Y2 rfl rfl ?_
  refine Gt rfl ?_
  exact ⟨_,_,rfl,rfl,rfl⟩
theorem qW (nm v:ByteArray) (h:v=⟨#[]⟩∨oS v=true∧v.size≤1000):FnP Tryz.prog 179 [.agg [.str nm,.int .i64 3],.str v] (· = .bool true):=by
 refine FnP.of func179 rfl ntmps179 (by simp) fun m0 w0 F R0=>?_
 refine Z2 rfl rfl rfl ?_
 refine Z2 rfl rfl rfl ?_
 refine Z2 rfl rfl rfl ?_
 refine Gc rfl rfl (fun hc12=>absurd hc12 (by simp)) (fun hc12=>?_)
 refine Z2 rfl rfl rfl ?_
 refine Gc rfl rfl (fun hc20=>absurd hc20 (by simp)) (fun hc20=>?_)
 refine Z2 rfl rfl rfl ?_
 refine Gc rfl rfl (fun hc50=>?_) (fun hc50=>absurd hc50 (by simp))
 by_cases he:v=⟨#[]⟩
 ·subst he
  refine Z1 rfl rfl ?_
  refine Rs 53 rfl rfl (XJ.cast (v':= .pv (.bool true)) (cF rfl rfl rfl) (congrArg (fun b=>V.pv (.bool b)) (beq_self_eq_true _))) ?_
  iterate 5 refine A1 rfl ?_
  refine Gt rfl ?_
  exact ⟨_,_,rfl,rfl,rfl⟩
 ·have hne:(v.toList==(⟨#[]⟩:ByteArray).toList)=false:=by rw [beq_eq_false_iff_ne];exact fun e=>he (bytes_inj e)
  obtain ⟨hv1,hv2⟩:=h.resolve_left he
  have hws:=q9 v (by omega)
  rw [hv1] at hws
  refine Z1 rfl rfl ?_
  refine Rs 53 rfl rfl (XJ.cast (v':= .pv (.bool false)) (cF rfl rfl rfl) (congrArg (fun b=>V.pv (.bool b)) hne)) ?_
  refine Y2 rfl rfl ?_
  refine Rg 56 rfl rfl rfl (ae call212 hws rfl) ?_
  refine Y2 rfl rfl ?_
  refine Gt rfl ?_
  exact ⟨_,_,rfl,rfl,rfl⟩
theorem yD (nm v:ByteArray) (h:NumOk v) (hne0:v≠⟨#[]⟩):FnP Tryz.prog 179 [.agg [.str nm,.int .i64 2],.str v] (· = .bool true):=by
 refine FnP.of func179 rfl ntmps179 (by simp) fun m0 w0 F R0=>?_
 have hpa:=vT v h
 have hden:bo (if cS v=true then o5 v else EE)=true∧1≤rdZ (if cS v=true then o5 v else EE)∧rdZ (if cS v=true then o5 v else EE)≤12:=by
  by_cases hs:cS v=true
  ·rw [if_pos hs];exact h.d hs
  ·rw [if_neg hs];exact ⟨nk,by rw [se];decide,by rw [se];decide⟩
 generalize (if cS v=true then o5 v else EE)=dn at*
 have hsm:=p3 dn hden.1 (by omega)
 have hbd:=jn (sO v) h.n.1 h.n.2
 have hne:(v.toList==(⟨#[]⟩:ByteArray).toList)=false:=by rw [beq_eq_false_iff_ne];exact fun e=>hne0 (bytes_inj e)
 have h1:decide (rdZ dn≥1)=true:=decide_eq_true hden.2.1
 have h2:decide (rdZ dn≤12)=true:=decide_eq_true hden.2.2
 refine Z2 rfl rfl rfl ?_
 refine Z2 rfl rfl rfl ?_
 refine Z2 rfl rfl rfl ?_
 refine Gc rfl rfl (fun hc12=>absurd hc12 (by simp)) (fun hc12=>?_)
 refine Z2 rfl rfl rfl ?_
 refine Gc rfl rfl (fun hc20=>?_) (fun hc20=>absurd hc20 (by simp))
 refine Z1 rfl rfl ?_
 refine Rs 24 rfl rfl (ae call217 hpa rfl) ?_
 iterate 7 refine A1 rfl ?_
 refine Z1 rfl rfl ?_
 refine Rs 30 rfl rfl (ae call218 hsm rfl) ?_
 iterate 5 refine A1 rfl ?_
 refine Z1 rfl rfl ?_
 refine Rs 34 rfl rfl (XJ.cast (v':= .pv (.bool false)) (cF rfl rfl rfl) (congrArg (fun b=>V.pv (.bool b)) hne)) ?_
 iterate 4 refine A1 rfl ?_
 refine Rg 39 rfl rfl rfl (ae call216 hbd rfl) ?_
 refine Y3 rfl rfl rfl ?_
 refine Rg 43 rfl rfl rfl (XJ.cast (v':= .pv (.bool true)) (aQ rfl rfl rfl) (congrArg (fun b=>V.pv (.bool b)) h1)) ?_
 refine Y3 rfl rfl rfl ?_
 refine Rg 47 rfl rfl rfl (XJ.cast (v':= .pv (.bool true)) (aQ rfl rfl rfl) (congrArg (fun b=>V.pv (.bool b)) h2)) ?_
 refine Y3 rfl rfl rfl ?_
 refine Gt rfl ?_
 exact ⟨_,_,rfl,rfl,rfl⟩
theorem vz (nm:ByteArray):FnP Tryz.prog 179 [.agg [.str nm,.int .i64 2],.str ⟨#[]⟩] (· = .bool true):=by
 refine FnP.of func179 rfl ntmps179 (by simp) fun m0 w0 F R0=>?_
 have hpa:=vL
 have hsm:=zW
 refine Z2 rfl rfl rfl ?_
 refine Z2 rfl rfl rfl ?_
 refine Z2 rfl rfl rfl ?_
 refine Gc rfl rfl (fun hc12=>absurd hc12 (by simp)) (fun hc12=>?_)
 refine Z2 rfl rfl rfl ?_
 refine Gc rfl rfl (fun hc20=>?_) (fun hc20=>absurd hc20 (by simp))
 refine Z1 rfl rfl ?_
 refine Rs 24 rfl rfl (ae call217 hpa rfl) ?_
 iterate 7 refine A1 rfl ?_
 refine Z1 rfl rfl ?_
 refine Rs 30 rfl rfl (ae call218 hsm rfl) ?_
 iterate 5 refine A1 rfl ?_
 refine Z1 rfl rfl ?_
 refine Rs 34 rfl rfl (XJ.cast (v':= .pv (.bool true)) (cF rfl rfl rfl) (congrArg (fun b=>V.pv (.bool b)) (beq_self_eq_true _))) ?_
 iterate 16 refine A1 rfl ?_
 refine Gt rfl ?_
 exact ⟨_,_,rfl,rfl,rfl⟩
end
end Go.Proofs.YtjlikknopfnllaaGreatDoor
namespace Go.Proofs
open Go.Shelf
def Tryz.sortRow_ren:Go.Shelf.Ren:=⟨fun | 6=>53 | 15=>104 | 14=>103 | 28=>163 | 29=>164 | 20=>155 | 21=>156 | 22=>157 | 23=>158 | 24=>159 | 25=>160 | 26=>161 | 27=>162 | 46=>197 | 47=>198 | 48=>199 | 49=>200 | 50=>201 | 57=>238 | n=>n,fun | 22=>38 | 24=>49 | 25=>97 | 3=>3 | 39=>161 | 0=>0 | 53=>218 | 55=>136 | 4=>4 | 46=>211 | 45=>210 | 50=>215 | 5=>5 | 9=>9 | 66=>246 | 70=>250 | 76=>279 | 77=>280 | n=>n,fun | n=>n⟩
theorem Tryz.sortRow:Go.Proofs.SlLaysF0.n6 Tryz.prog Tryz.sortRow_ren:={
 mixed:=by kernel_rfl
 f6:=⟨Tryz.f53.name,by decide,Tryz.func53.trans (congrArg some (by kernel_rfl))⟩
 f14:=⟨Tryz.f103.name,by decide,Tryz.func103.trans (congrArg some (by kernel_rfl))⟩
 f15:=Tryz.func104.trans (congrArg some (by kernel_rfl))
 f20:=⟨Tryz.f155.name,by decide,Tryz.func155.trans (congrArg some (by kernel_rfl))⟩
 f21:=⟨Tryz.f156.name,by decide,Tryz.func156.trans (congrArg some (by kernel_rfl))⟩
 f22:=⟨Tryz.f157.name,by decide,Tryz.func157.trans (congrArg some (by kernel_rfl))⟩
 f23:=⟨Tryz.f158.name,by decide,Tryz.func158.trans (congrArg some (by kernel_rfl))⟩
 f24:=⟨Tryz.f159.name,by decide,Tryz.func159.trans (congrArg some (by kernel_rfl))⟩
 f25:=⟨Tryz.f160.name,by decide,Tryz.func160.trans (congrArg some (by kernel_rfl))⟩
 f26:=⟨Tryz.f161.name,by decide,Tryz.func161.trans (congrArg some (by kernel_rfl))⟩
 f27:=⟨Tryz.f162.name,by decide,Tryz.func162.trans (congrArg some (by kernel_rfl))⟩
 f28:=Tryz.func163.trans (congrArg some (by kernel_rfl))
 f29:=Tryz.func164.trans (congrArg some (by kernel_rfl))
 f46:=⟨Tryz.f197.name,by decide,Tryz.func197.trans (congrArg some (by kernel_rfl))⟩
 f47:=Tryz.func198.trans (congrArg some (by kernel_rfl))
 f48:=Tryz.func199.trans (congrArg some (by kernel_rfl))
 f49:=⟨Tryz.f200.name,by decide,Tryz.func200.trans (congrArg some (by kernel_rfl))⟩
 f50:=⟨Tryz.f201.name,by decide,Tryz.func201.trans (congrArg some (by kernel_rfl))⟩
 f57:=⟨Tryz.f238.name,by decide,Tryz.func238.trans (congrArg some (by kernel_rfl))⟩
 t0:=Tryz.underlying0
 a0:=Tryz.isAgg0
 z0:=Tryz.sizeOf0
 v0:=Tryz.zeroValue0
 t3:=Tryz.underlying3
 a3:=Tryz.isAgg3
 z3:=Tryz.sizeOf3
 v3:=Tryz.zeroValue3
 t4:=Tryz.underlying4
 a4:=Tryz.isAgg4
 z4:=Tryz.sizeOf4
 v4:=Tryz.zeroValue4
 t5:=Tryz.underlying5
 a5:=Tryz.isAgg5
 z5:=Tryz.sizeOf5
 v5:=Tryz.zeroValue5
 t9:=Tryz.underlying9
 a9:=Tryz.isAgg9
 z9:=Tryz.sizeOf9
 v9:=Tryz.zeroValue9
 t22:=Tryz.underlying38
 a22:=Tryz.isAgg38
 z22:=Tryz.sizeOf38
 v22:=Tryz.zeroValue38
 t25:=Tryz.underlying97
 a25:=Tryz.isAgg97
 z25:=Tryz.sizeOf97
 v25:=Tryz.zeroValue97
 t39:=Tryz.underlying161
 a39:=Tryz.isAgg161
 z39:=Tryz.sizeOf161
 v39:=Tryz.zeroValue161
 t45:=Tryz.underlying210
 a45:=Tryz.isAgg210
 z45:=Tryz.sizeOf210
 v45:=Tryz.zeroValue210
 t46:=Tryz.underlying211
 a46:=Tryz.isAgg211
 z46:=Tryz.sizeOf211
 v46:=Tryz.zeroValue211
 t50:=Tryz.underlying215
 a50:=Tryz.isAgg215
 z50:=Tryz.sizeOf215
 v50:=Tryz.zeroValue215
 t53:=Tryz.underlying218
 a53:=Tryz.isAgg218
 z53:=Tryz.sizeOf218
 v53:=Tryz.zeroValue218
 t55:=Tryz.underlying136
 a55:=Tryz.isAgg136
 z55:=Tryz.sizeOf136
 v55:=Tryz.zeroValue136
 t66:=Tryz.underlying246
 a66:=Tryz.isAgg246
 z66:=Tryz.sizeOf246
 v66:=Tryz.zeroValue246
 t70:=Tryz.underlying250
 a70:=Tryz.isAgg250
 z70:=Tryz.sizeOf250
 v70:=Tryz.zeroValue250
 t76:=Tryz.underlying279
 a76:=Tryz.isAgg279
 z76:=Tryz.sizeOf279
 v76:=Tryz.zeroValue279
 t77:=Tryz.underlying280
 a77:=Tryz.isAgg280
 z77:=Tryz.sizeOf280
 v77:=Tryz.zeroValue280 }
end Go.Proofs
namespace Go.Proofs.YtjlikknopfnllaaGreatDoor
section
open Go.RowKit Mk Jn
def xk (s t:ByteArray):Int:=if Op.bytesLess s.toList t.toList=true then-1 else if (s.toList==t.toList)=true then 0 else 1
def lN (a b:List ByteArray):Int:=if aZ a b=true then-1 else if a=b then 0 else 1
theorem Af (s:ByteArray) (w:World):Calls Tryz.prog 172 #[.string s] w fun e w'=>e= .returned (.bool false)∧w=w':=by
 have hs:(s.toList !=s.toList)=false:=by simp
 go_enter func172,ntmps172
 go_wp2
 go_ret
 exact ⟨rfl,rfl⟩
theorem Ce (s t:ByteArray) (w:World):Calls Tryz.prog 111 #[.string s,.string t] w fun e w'=>e= .returned (.int .i64 (xk s t))∧w=w':=by
 have hn:=Af
 go_enter func111,ntmps111
 go_wp2_with (go_at_call 172;refine (hn _ _).mono ?_;rintro e w' ⟨rfl,rfl⟩)
 ·have h1:Op.bytesLess s.toList t.toList=true:=by assumption
  go_ret
  exact ⟨gp (by unfold xk;rw [if_pos h1]),rfl⟩
 ·have h1:Op.bytesLess s.toList t.toList=false:=by assumption
  have h2:(!s.toList==t.toList)=true:=by assumption
  go_ret
  refine ⟨gp ?_,rfl⟩
  unfold xk
  rw [h1,if_neg (by decide),if_neg (by simpa using h2)]
 ·have h1:Op.bytesLess s.toList t.toList=false:=by assumption
  have h2:(!s.toList==t.toList)=false:=by assumption
  go_ret
  refine ⟨gp ?_,rfl⟩
  unfold xk
  rw [h1,if_neg (by decide),if_pos (by simpa using h2)]
theorem xr {s t:ByteArray} (h:xk s t=0):s=t:=by
 unfold xk at h
 split at h
 ·cases h
 ·split at h
  ·next h2=>exact bytes_inj (by simpa using h2)
  ·cases h
theorem E9 {a b:List ByteArray} {k:Nat} (ha:k<a.length) (hb:k<b.length) (e:a.take k=b.take k) (hne:xk a[k] b[k]≠0):lN a b=xk a[k] b[k]:=by
 have hd:a[k]≠b[k]:=fun e2=>hne (by
  unfold xk
  rw [e2,if_neg (by rw [jG];simp),if_pos (by simp)])
 have hl:=oD ha hb e hd
 have hab:a≠b:=fun e2=>by subst e2;exact hd rfl
 have ht:(a[k].toList==b[k].toList)=false:=by
  cases hh:(a[k].toList==b[k].toList) with
  | false=>rfl
  | true=>exact absurd (bytes_inj (by simpa using hh)) hd
 unfold lN xk
 rw [hl,if_neg hab,ht]
 simp
theorem xY {a b:List ByteArray} {k:Nat} (ha:k<a.length) (hb:k=b.length) (e:a.take k=b.take k):lN a b=1:=by
 have hl:=gL (a:=a) (b:=b) (i:=k) (by omega) (by omega) (.inr hb) e
 unfold lN
 rw [hl,if_neg (by simp;omega),if_neg (by rintro rfl;omega)]
theorem vn {a b:List ByteArray} {k:Nat} (ha:k=a.length) (hb:k≤b.length) (e:a.take k=b.take k):lN a b=if (a.length:Int)<b.length then-1 else 0:=by
 have hl:=gL (a:=a) (b:=b) (i:=k) (by omega) (by omega) (.inl ha) e
 unfold lN
 rw [hl]
 by_cases h:(a.length:Int)<b.length
 ·rw [decide_eq_true h];simp [h]
 ·rw [decide_eq_false h,if_neg (by decide),if_pos,if_neg h]
  rw [List.take_of_length_le (by omega),List.take_of_length_le (by omega)] at e
  exact e
theorem uD (A B:Option Addr) (c d:Nat) (l m:List ByteArray) (w:World) {R:Nat→Prop} (h:Row w R A (GF l)) {R':Nat→Prop} (h':Row w R' B (GF m)) (hl:l.length≤1000000) (hm:m.length≤1000000):
  Calls Tryz.prog 74 #[.slice A l.length c,.slice B m.length d] w fun e w'=>e= .returned (.int .i64 (lN l m))∧w=w':=by
 have hcc:=Ce
 have hA:=@Row.D4 _ _ _ _ h
 have hB:=@Row.D4 _ _ _ _ h'
 clear h h'
 go_enter func74,ntmps74
 go_wp2
 go_loop [11] (fun i=>∃ k:Nat,k≤l.length∧k≤m.length∧i= .int .i64 k∧l.take k=m.take k) (fun i=>l.length-(intOf i).toNat)
 case atStart=>exact ⟨0,Nat.zero_le _,Nat.zero_le _,rfl,by simp⟩
 case round=>
  obtain ⟨k,hk,hkm,rfl,hno⟩:=hrel
  have HN:=Lib.hid hno
  clear hno
  by_cases hlt:k<l.length
  ·obtain ⟨b,off,rfl,hb,hck⟩:=hA hlt
   by_cases hlt':k<m.length
   ·obtain ⟨b',off',rfl,hb',hck'⟩:=hB hlt'
    clear hA hB
    go_wp2_with (go_at_call 111;refine (hcc _ _ _).mono ?_;rintro e w' ⟨rfl,rfl⟩)
    ·have he:(xk l[k] m[k] !=0)=true:=by assumption
     go_ret
     exact ⟨gp (E9 hlt hlt' HN.out (by simpa using he)).symm,rfl⟩
    ·have he:(xk l[k] m[k] !=0)=false:=by assumption
     refine ⟨⟨k+1,by omega,by omega,by go_num,?_⟩,by simp [intOf];omega⟩
     have hn:=HN.out
     rw [List.take_succ_eq_append_getElem hlt,List.take_succ_eq_append_getElem hlt',hn,xr (s:=l[k]) (t:=m[k]) (by simpa using he)]
   ·obtain rfl:k=m.length:=by omega
    clear hA hB
    go_wp2
    go_ret
    exact ⟨gp (xY hlt rfl HN.out).symm,rfl⟩
  ·clear hA hB
   go_wp2
   ·have he:l.length<m.length:=by assumption
    go_ret
    refine ⟨gp ?_,rfl⟩
    rw [vn (by omega) hkm HN.out,if_pos (by omega)]
   ·have he:¬ l.length<m.length:=by assumption
    go_ret
    refine ⟨gp ?_,rfl⟩
    rw [vn (by omega) hkm HN.out,if_neg (by omega)]
theorem sj (A B:Option Addr) (c d:Nat) (l m:List ByteArray) (p q:Int) (w:World) {R:Nat→Prop} (h:Row w R A (GF l)) {R':Nat→Prop} (h':Row w R' B (GF m)) (hl:l.length≤1000000) (hm:m.length≤1000000):
  Calls Tryz.prog 54 #[.agg #[.slice A l.length c,.int .i64 p],.agg #[.slice B m.length d,.int .i64 q]] w fun e w'=>e= .returned (.int .i64 (lN l m))∧∃ n os',w'=Go.Sort.grow (w.drewN n) os':=by
 have hcon:=fun o1 o2=>uD A B c d l m ((w.alloc o1).alloc o2) ((h.alloc o1).alloc o2) ((h'.alloc o1).alloc o2) hl hm
 clear h h'
 generalize lN l m=z at hcon ⊢
 go_enter func54,ntmps54
 go_wp2_with (go_at_call 74;refine (hcon _ _).mono ?_;rintro e w' ⟨rfl,rfl⟩)
 go_ret
 exact ⟨rfl,0,_,by rw [Go.Sort.alloc_eq_grow,Go.Sort.alloc_eq_grow,Go.Sort.grow_grow];rfl⟩
end
section
open Go.RowKit Mk Jn
set_option maxHeartbeats 4000000
theorem n0:NumOk ⟨#[48]⟩:=⟨by decide,by kernel_rfl,⟨by kernel_rfl,by decide+kernel⟩,fun h=>absurd h (by decide+kernel)⟩
theorem n1:NumOk ⟨#[49]⟩:=⟨by decide,by kernel_rfl,⟨by kernel_rfl,by decide+kernel⟩,fun h=>absurd h (by decide+kernel)⟩
theorem n2:NumOk ⟨#[50]⟩:=⟨by decide,by kernel_rfl,⟨by kernel_rfl,by decide+kernel⟩,fun h=>absurd h (by decide+kernel)⟩
theorem n3:NumOk ⟨#[51]⟩:=⟨by decide,by kernel_rfl,⟨by kernel_rfl,by decide+kernel⟩,fun h=>absurd h (by decide+kernel)⟩
theorem nm2:NumOk ⟨#[45,50]⟩:=⟨by decide,by kernel_rfl,⟨by kernel_rfl,by decide+kernel⟩,fun h=>absurd h (by decide+kernel)⟩
theorem nh:NumOk ⟨#[49,47,50]⟩:=⟨by decide,by kernel_rfl,⟨by kernel_rfl,by decide+kernel⟩,fun _=>⟨by kernel_rfl,by decide+kernel,by decide+kernel⟩⟩
theorem n53:NumOk ⟨#[53,47,51]⟩:=⟨by decide,by kernel_rfl,⟨by kernel_rfl,by decide+kernel⟩,fun _=>⟨by kernel_rfl,by decide+kernel,by decide+kernel⟩⟩
theorem we (nm v:ByteArray) (kd:Int) (hk:kd=1∨kd=2∨kd=3) (hv:v∈gX kd):FnP Tryz.prog 179 [.agg [.str nm,.int .i64 kd],.str v] (· = .bool true):=by
 rcases hk with rfl | rfl | rfl
 ·refine kG nm v ?_
  simp only [gX,rI,List.mem_cons,List.not_mem_nil,or_false] at hv
  rcases hv with rfl | hv
  ·exact .inl rfl
  ·right
   simp at hv
   rcases hv with rfl | rfl | rfl<;>exact ⟨by kernel_rfl,by decide+kernel⟩
 ·by_cases hne:v=⟨#[]⟩
  ·rw [hne];exact vz nm
  ·refine yD nm v ?_ hne
   simp only [gX,C6,List.mem_cons,List.not_mem_nil,or_false] at hv
   have hv:=hv.resolve_left hne
   simp at hv
   rcases hv with rfl | rfl | rfl | rfl | rfl | rfl | rfl | rfl
   ·exact n0
   ·exact n1
   ·exact nm2
   ·exact nh
   ·exact n3
   ·exact n53
   ·exact n1
   ·exact n2
 ·refine qW nm v ?_
  simp only [gX,Fk,List.mem_cons,List.not_mem_nil,or_false] at hv
  rcases hv with rfl | hv
  ·exact .inl rfl
  ·right
   simp at hv
   rcases hv with rfl | rfl | rfl<;>exact ⟨by kernel_rfl,by decide⟩
theorem mf {w:World} {R:Nat→Prop}:∀ {l:List ByteArray} {us:List Value},RelPL w R (aA l) us→us=l.map Value.string
 | [],us,h=>by simpa [RelPL] using h
 | x::l,us,h=>by
   simp only [List.map_cons,RelPL,RelP] at h
   obtain ⟨u,vs,rfl,rfl,h2⟩:=h
   rw [mf h2];rfl
theorem tK {w:World} {R:Nat→Prop} (hR:∀ b,R b→b<w.heap.size) {l:List ByteArray} {us:List Value} {ps:List PV} (h:RelPL w R (aI l::ps) us):∃ A c vs,us= .slice A l.length c::vs∧Row w R A (GF l)∧RelPL w R ps vs:=by
 simp only [RelPL,RelP] at h
 obtain ⟨u,vs,rfl,⟨A,c,rfl,_,_,_,_,h5⟩,h6⟩:=h
 refine ⟨A,c,vs,rfl,fun hne=>?_,h6⟩
 obtain ⟨b,off,us,rfl,h6,h7,h8⟩:=h5 (fun e=>hne (by rw [List.map_eq_nil_iff] at e ⊢; exact e))
 have e7:us=l.map Value.string:=mf h6
 subst e7
 exact ⟨b,off,rfl,h7,hR b h7,h8⟩
theorem x9 (a b:List ByteArray) (ha:a.length≤1000000) (hb:b.length≤1000000):FnP Tryz.prog 74 [aI a,aI b] (· = .int .i64 (lN a b)):=by
 intro w R us hG hR hrel
 obtain ⟨A,c,vs,rfl,r1,h1⟩:=tK hR hrel
 obtain ⟨B,d,vs,rfl,r2,h2⟩:=tK hR h1
 obtain rfl:=(by simpa [RelPL] using h2:vs=[])
 exact (uD A B c d a b w r1 r2 ha hb).mono fun e w' ⟨he,hw⟩=>⟨_,_,he,rfl,by rw [← hw];exact Below.refl _ _,by simp only [RelP]⟩
theorem Eb (a b:List ByteArray):decide (lN a b<0)=aZ a b:=by
 unfold lN
 cases h:aZ a b with
 | true=>rw [if_pos rfl];rfl
 | false=>rw [if_neg (by decide)];by_cases h2:a=b<;>simp [h2]
theorem xb (a b:List ByteArray) (ha:a.length≤1000000) (hb:b.length≤1000000):FnP Tryz.prog 32 [aI a,aI b] (· = .bool (aZ a b)):=by
 refine FnP.of func32 rfl ntmps32 (by simp) fun m0 w0 F R0=>?_
 have hc:=x9 a b ha hb
 refine Z1 rfl rfl ?_
 refine Z2 rfl rfl rfl ?_
 refine Rs 7 rfl rfl (ae call74 hc rfl) ?_
 refine Y2 rfl rfl ?_
 refine Gt rfl ?_
 exact ⟨_,_,rfl,rfl,congrArg PV.bool (Eb a b)⟩
end
end Go.Proofs.YtjlikknopfnllaaGreatDoor
