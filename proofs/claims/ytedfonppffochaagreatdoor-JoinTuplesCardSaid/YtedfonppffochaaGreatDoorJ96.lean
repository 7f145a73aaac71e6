/- Lemmas. No condition. -/
import Derived.MapKept
import Derived.Carry
import Derived.Laws.RangeString
import Derived.Test.YtedfonppffochaaGreatDoorJ95
set_option maxRecDepth 100000
set_option maxHeartbeats 4000000
open Go.RowKit Go.Proofs.Tryz
namespace Go.Proofs.YtedfonppffochaaGreatDoor
section
open Mk
theorem D9 (S:Sch):((((((S.attrs.length:Int)==0)||decide ((12:Int)<S.attrs.length))||((S.rels.length:Int)==0))||decide ((6:Int)<S.rels.length))||decide ((8:Int)<S.feats.length))=true↔S.attrs.length=0\/12<S.attrs.length\/S.rels.length=0\/6<S.rels.length\/8<S.feats.length:=by
 simp only [MF,Nt,L6];omega
def AA (S:Sch):Nat->Int
 | 0=>bZ (ju S) S.attrs.length
 | 1=>iM S
 | _=>bZ (k7 S) S.feats.length
def FI:Nat->FuncId
 | 0=>121
 | 1=>122
 | _=>123
theorem wi (S:Sch) (hS:SB S) (k:Nat):FnP prog (FI k) [gK S] (· = .int .i64 (AA S k)):=by
 match k with
 | 0=>exact kx S hS
 | 1=>exact lE S hS
 | k+2=>exact nz S hS
theorem DO (k:Nat):bN prog (FI k):=by
 match k with
 | 0=>exact call121
 | 1=>exact call122
 | k+2=>exact call123
theorem Ck (k:Nat) (hk:k<3):([.fn (.func 121) [] [],.fn (.func 122) [] [],.fn (.func 123) [] []]:List PV)[k*1]? =some (.fn (.func (FI k)) [] []):=by
 match k,hk with
 | 0,_=>rfl
 | 1,_=>rfl
 | 2,_=>rfl
theorem CB {S:Sch} {k:Nat} (hlim:¬ (S.attrs.length=0\/12<S.attrs.length\/S.rels.length=0\/6<S.rels.length\/8<S.feats.length)) (hk:k<3) (hz:∀ j,j<k->AA S j=0) (h:¬ AA S k=0):AA S k=cI S:=by
 unfold cI;rw [kH hlim];match k,hk with
 | 0,_=>rw [qY (show bZ (ju S) S.attrs.length≠0 from h)];rfl
 | 1,_=>have h0:=hz 0 Po;rw [kH (fun e=>e h0),qY (show iM S≠0 from h)];rfl
 | 2,_=>have h0:=hz 0 Po;have h1:=hz 1 Po;rw [kH (fun e=>e h0),kH (fun e=>e h1),qY (show bZ (k7 S) S.feats.length≠0 from h)];rfl
theorem tN (S:Sch) (hS:SB S):FnP prog 81 [gK S] (· = .int .i64 (cI S)):=by
 refine FnP.of func81 O ntmps81 Ps fun m0 w0 F R0=>?_
 have hb:=hS.a;refine Z2 O O O<|Gr O ?_;iterate 5 refine A1 O ?_
 apply Ix 5 10 15 [11,12,13,14] O Py
 ·intro hb4;iterate 5 refine A1 O ?_
  exact Iq Px O O O
 ·intro hb4;iterate 5 refine A1 O ?_
  exact Iq Px O O O
 refine A1 O ?_;apply Ix 5 16 21 [17,18,19,20] O Py
 ·intro hb10;iterate 5 refine A1 O ?_
  exact Iq Px O O O
 ·intro hb10;iterate 5 refine A1 O ?_
  exact Iq Px O O O
 refine A1 O ?_;apply Ix 5 22 27 [23,24,25,26] O Py
 ·intro hb16;iterate 5 refine A1 O ?_
  exact Iq Px O O O
 ·intro hb16;iterate 5 refine A1 O ?_
  exact Iq Px O O O
 refine A1 O ?_;apply Ix 5 28 33 [29,30,31,32] O Py
 ·intro hb22;iterate 5 refine A1 O ?_
  exact Iq Px O O O
 ·intro hb22;iterate 5 refine A1 O ?_
  exact Iq Px O O O
 refine Gc O O (fun hc33=>?_) (fun hc33=>?_)
 ·exact Z1 O O<|Gt O<|⟨_,_,O,O,af (PV.int .i64) (by unfold cI;rw [qY ((D9 S).1 hc33)])⟩
 ·have hlim:¬ (S.attrs.length=0\/12<S.attrs.length\/S.rels.length=0\/6<S.rels.length\/8<S.feats.length):=fun h=>by rw [(D9 S).2 h] at hc33;cases hc33
  refine Il<|Gr O<|Rs 34 O O (aq none Ps el181 O Pq Pq O O)<|Y2 O O ?_;refine Gl O (st:=fun ac:Nat=>mkS [(1,.ptr 0 0),(34,.pv (.sl none 3 [.fn (.func 121) [] [],.fn (.func 122) [] [],.fn (.func 123) [] []])),(35,.pv (.int .i64 3)),(36,.pv (.int .i64 ac))] [(0,.mix 34 [.pv (.sl none S.attrs.length (cc S.attrs)),.pv (.sl none S.rels.length (bj S.rels)),.pv (.sl none S.feats.length (bm S.feats)),.pv (.int .i64 S.label)])] 1)
   (I:=fun ac=>ac<=3/\∀ j,j<ac->AA S j=0) (μ:=fun ac=>3-ac) (x0:=(0)) (Io (aS O) (aO O) O O) (⟨Po,fun j hj=>absurd hj (NW _)⟩) ?_
  rintro k ⟨hk,hz⟩;refine Z1 O O ?_;refine Gp O O (fun hc37=>?_) (fun hc37=>?_)
  ·have hlt:k<3:=Po;have hv:=Ck k hlt;refine Il<|Gr O<|Rs 38 O O (ag k underlying181 sz123 O O O hlt Ps) ?_;first | refine A2 O Pr ?_ | refine A1 O ?_
   refine A1 O<|Z2 O O O<|Rs 42 O O (bb (DO k) O (wi S hS k) O)<|A1 O<|Z2 O O O ?_;refine Gc O O (fun hc44=>?_) (fun hc44=>?_)
   ·exact Z2 O O O<|Gt O<|⟨_,_,O,O,af (PV.int .i64) (CB hlim hlt hz (inT hc44))⟩
   ·exact Il<|Z2 O O O<|⟨(k+1),Io (aS O) (aO O) O O,⟨Po,fun j hj=>by rcases Me.1 hj with h | rfl;exact hz j h;exact inF hc44⟩,Po⟩
  ·have h0:=hz 0 Po;have h1:=hz 1 Po;have h2:=hz 2 Po;have hcl:=zL hlim h0 h1 h2;refine Gx O<|Z4 O O O O O ?_;apply Ix 7 51 58 [52,53,54,55,56,57] O Py
   ·intro hb3;iterate 7 refine A1 O ?_
    exact Iq Px O O O
   ·intro hb3;iterate 7 refine A1 O ?_
    exact Iq Px O O O
   refine A1 O ?_;refine Gc O O (fun hc47=>?_) (fun hc47=>?_)
   ·exact Z1 O O<|Gt O<|⟨_,_,O,O,af (PV.int .i64) (by rw [hcl,qY (by simpa using hc47)])⟩
   ·have hn:¬ (S.label< -1\/(S.attrs.length:Int)<=S.label):=by simpa using hc47
    have hlv:0<=S.label->∃ (a:Nat),S.label=(a:Int)/\a<S.attrs.length/\(cc S.attrs)[a*2+1]? =some (.int .i64 (S.attrs.getD S.label.toNat default).2):=fun h=>by obtain ⟨a,ha⟩:=so h;have hal:a<S.attrs.length:=Po;refine ⟨a,ha,hal,?_⟩;rw [ha];simp only [Mb,List.getD,kJ hal];exact oC _ 2 (fun _=>rfl) S.attrs a 1 hal Pq
    refine Z4 O O O O O ?_;apply Iy 9 63 72 [64,65,66,67,68,69,70,71] O Py
    ·intro hb3;obtain ⟨a,ha,hal,hk2⟩:=hlv (Ng hb3);have hane:=lq hal;iterate 4 refine A1 O ?_
     refine Rg 68 O O O (ag a underlying28 G1 O O ha hal hane)<|A1 O ?_;first | refine A2 O Pr ?_ | refine A1 O ?_
     exact Y2 O O<|Iq Px O O O
    ·intro hb3;iterate 9 refine A1 O ?_
     exact Iq Px O O O
    refine A1 O ?_;refine Gc O O (fun hc59=>?_) (fun hc59=>?_)
    ·exact Z1 O O<|Gt O<|⟨_,_,O,O,af (PV.int .i64) (by rw [hcl,kH hn,qY (by simpa using hc59)])⟩
    ·exact Il<|Z1 O O<|Gt O<|⟨_,_,O,O,af (PV.int .i64) (by rw [hcl,kH hn,kH (by rintro ⟨h1,h2⟩;rw [IS (show S.label>=0 from h1),NX,bne_eq_false_iff_eq] at hc59;exact h2 hc59)])⟩
end
section
open Mk
theorem xd {α:Type} [DecidableEq α] {l:List α} {x:α} (h:¬ x∈l):hasB l x=false:=by unfold hasB;exact Mu h
theorem sg {α:Type} [DecidableEq α] {l:List α} {x:α} (h:x∈l):hasB l x=true:=by unfold hasB;exact IS h
theorem eF {α:Type} {l:List α} {j k:Nat} (hj:j<k) (hl:j<l.length):l[j]∈l.take k:=Oq.2 ⟨j,Po,O⟩
theorem zE {S:Sch} (hlim:¬ (S.attrs.length=0\/12<S.attrs.length\/S.rels.length=0\/6<S.rels.length\/8<S.feats.length)) {e:Int} (h0:e≠0):
  (bZ (ju S) S.attrs.length=e->cI S=e)/\(bZ (ju S) S.attrs.length=0->iM S=e->cI S=e)/\(bZ (ju S) S.attrs.length=0->iM S=0->bZ (k7 S) S.feats.length=e->cI S=e):=by
 unfold cI;rw [kH hlim];refine ⟨fun h=>?_,fun h1 h2=>?_,fun h1 h2 h3=>?_⟩
 ·rw [qY (by rw [h];exact h0),h]
 ·rw [kH (fun e=>e h1),qY (by rw [h2];exact h0),h2]
 ·rw [kH (fun e=>e h1),kH (fun e=>e h2),qY (by rw [h3];exact h0),h3]
theorem qT (S:Sch) (hS:SB S):FnP prog 82 [gK S] (· = .int .i64 (cI S)):=by
 refine FnP.of func82 O ntmps82 Ps fun m0 w0 F R0=>?_
 have hb:=hS.a;have hb2:=hS.r;have hb3:=hS.f;refine Z2 O O O<|Gr O ?_;iterate 5 refine A1 O ?_
 apply Ix 5 24 29 [25,26,27,28] O Py
 ·intro hb4;iterate 5 refine A1 O ?_
  exact Iq Px O O O
 ·intro hb4;iterate 5 refine A1 O ?_
  exact Iq Px O O O
 refine A1 O ?_;apply Ix 5 30 35 [31,32,33,34] O Py
 ·intro hb10;iterate 5 refine A1 O ?_
  exact Iq Px O O O
 ·intro hb10;iterate 5 refine A1 O ?_
  exact Iq Px O O O
 refine A1 O ?_;apply Ix 5 36 41 [37,38,39,40] O Py
 ·intro hb16;iterate 5 refine A1 O ?_
  exact Iq Px O O O
 ·intro hb16;iterate 5 refine A1 O ?_
  exact Iq Px O O O
 refine A1 O ?_;apply Ix 5 42 47 [43,44,45,46] O Py
 ·intro hb22;iterate 5 refine A1 O ?_
  exact Iq Px O O O
 ·intro hb22;iterate 5 refine A1 O ?_
  exact Iq Px O O O
 refine Gc O O (fun hc47=>?_) (fun hc47=>?_)
 ·exact Z1 O O<|Gt O<|⟨_,_,O,O,af (PV.int .i64) (by unfold cI;rw [qY ((D9 S).1 hc47)])⟩
 ·have hlim:¬ (S.attrs.length=0\/12<S.attrs.length\/S.rels.length=0\/6<S.rels.length\/8<S.feats.length):=fun h=>by rw [(D9 S).2 h] at hc47;cases hc47
  have hpre:=fun {e:Int} (h:e≠0)=>zE (S:=S) hlim h
  refine Il<|Z4 O O O O O ?_;refine Gl O (st:=fun ac:Nat=>mkS [(1,.ptr 0 0),(49,.pv (.sl none S.attrs.length (cc S.attrs))),(50,.pv (.int .i64 S.attrs.length)),(51,.pv (.int .i64 ac))] [(0,.mix 34 [.pv (.sl none S.attrs.length (cc S.attrs)),.pv (.sl none S.rels.length (bj S.rels)),.pv (.sl none S.feats.length (bm S.feats)),.pv (.int .i64 S.label)])] 1)
   (I:=fun ac=>ac<=S.attrs.length/\bZ (ju S) ac=0) (μ:=fun ac=>S.attrs.length-ac) (x0:=(0)) (Io (aS O) (aO O) O O) (⟨bk _,O⟩) ?_
  rintro k ⟨hk,hs⟩;refine Z1 O O ?_;refine Gp O O (fun hc52=>?_) (fun hc52=>?_)
  ·have hlt:k<S.attrs.length:=Po;have hrow:=od hlt;have hne:=lq hlt;have hae:=JC S k hlt;have hfin:∀ e:Int,e≠0->ju S k=e->PV.int .i64 e= .int .i64 (cI S):=fun e h0 h1=>af (PV.int .i64) (((hpre h0).1 (by rw [gQ hs (by rw [h1];exact h0) hlt,h1])).symm)
   refine Il<|Z2 O O O<|Rs 55 O O (db ⟨_,underlying27,O⟩ G1 O hrow O)<|Y3 O O O<|Z2 O O O<|Rs 58 O O (ae call124 (fI S.attrs[k].1 (hS.an _ (aJ hlt))) O)<|A1 O ?_;refine Gc O O (fun hc59=>?_) (fun hc59=>?_)
   ·exact Z1 O O<|Gt O<|⟨_,_,O,O,hfin 14 Pq (by rw [hae,qY (by simpa using hc59)])⟩
   ·have hw:¬ oS S.attrs[k].1=false:=by simpa using hc59
    refine Il<|Z1 O O ?_;refine Gl O (st:=fun x_1:Nat=>mkS [(1,.ptr 0 0),(3,.pv (.int .i64 k)),(4,.ptr 1 0),(5,.pv (.int .i64 x_1)),(49,.pv (.sl none S.attrs.length (cc S.attrs))),(50,.pv (.int .i64 S.attrs.length)),(51,.pv (.int .i64 k))] [(0,.mix 34 [.pv (.sl none S.attrs.length (cc S.attrs)),.pv (.sl none S.rels.length (bj S.rels)),.pv (.sl none S.feats.length (bm S.feats)),.pv (.int .i64 S.label)]),(1,.mix 27 [.pv (.str S.attrs[k].1),.pv (.int .i64 S.attrs[k].2)])] 2)
     (I:=fun x_1=>x_1<=k/\¬ S.attrs[k].1∈(S.attrs.map (·.1)).take x_1) (μ:=fun x_1=>k-x_1) (x0:=(0)) (Io (aS O) (aO O) O O) (⟨bk _,Ps⟩) ?_
    rintro j ⟨hj,hno⟩;refine Z3 O O O O ?_;refine Gp O O (fun hc62=>?_) (fun hc62=>?_)
    ·have hjk:j<k:=Po;have hjl:j<S.attrs.length:=Po;have hnm:(cc S.attrs)[j*2+0]? =some (.str S.attrs[j].1):=oC _ 2 (fun _=>rfl) S.attrs j 0 hjl Pq;have hmm:j<(S.attrs.map (·.1)).length:=by simpa using hjl
     have hme:(S.attrs.map (·.1))[j]=S.attrs[j].1:=Ps;refine Il<|Ge O follows [0,1,2,3,4,5,6,7,8] Pp ?_;iterate 5 refine D1 O O ?_
     first | refine D2 O O Pr ?_ | refine D1 O O ?_
     iterate 3 refine D1 O O ?_
     refine ⟨Pp,?_⟩;refine Gc O O (fun hc73=>?_) (fun hc73=>?_)
     ·exact Z1 O O<|Gt O<|⟨_,_,O,O,hfin 9 Pq (by rw [hae,kH hw,qY (sg (by rw [<-baT hc73,<-hme];exact eF hjk hmm))])⟩
     ·exact Il<|Z3 O O O O<|⟨(j+1),Io (aS O) (aO O) O O,⟨Po,jf hmm hno (by rw [hme];exact baF hc73)⟩,Po⟩
    ·have hno2:¬ hasB ((S.attrs.map (·.1)).take k) S.attrs[k].1=true:=by rw [show j=k by omega] at hno;rw [xd hno];decide
     refine Gx O<|Z4 O O O O O ?_;apply Ix 4 77 81 [78,79,80] O Py
     ·intro hb3;iterate 4 refine A1 O ?_
      exact Iq Px O O O
     ·intro hb3;iterate 4 refine A1 O ?_
      exact Iq Px O O O
     refine Gc O O (fun hc81=>?_) (fun hc81=>?_)
     ·exact Z1 O O<|Gt O<|⟨_,_,O,O,hfin 7 Pq (by rw [hae,kH hw,kH hno2,qY (by simp at hc81;omega)])⟩
     ·exact Il<|Z2 O O O<|⟨(k+1),Io (aS O) (aO O) O O,⟨Po,by rw [eA hs,hae,kH hw,kH hno2,kH (by simp at hc81;omega)]⟩,Po⟩
  ·have hA:bZ (ju S) S.attrs.length=0:=by rw [show S.attrs.length=k by omega];exact hs
   refine Gx O<|Gr O ?_;iterate 5 refine A1 O ?_
   refine Z4 O O O O O ?_;refine Gl O (st:=fun x_2:Nat×List Bool=>mkS [(1,.ptr 0 0),(6,.osl 1 1 S.attrs.length),(88,.pv (.sl none S.rels.length (bj S.rels))),(89,.pv (.int .i64 S.rels.length)),(90,.pv (.int .i64 x_2.1))] [(0,.mix 34 [.pv (.sl none S.attrs.length (cc S.attrs)),.pv (.sl none S.rels.length (bj S.rels)),.pv (.sl none S.feats.length (bm S.feats)),.pv (.int .i64 S.label)]),(1,.cells 4 (ay x_2.2))] 2)
    (I:=fun x_2=>x_2.1<=S.rels.length/\ey S.attrs.length x_2.2 (fun a=>(S.rels.take x_2.1).any fun x=>inB x.2 a)/\bZ (xe S) x_2.1=0) (μ:=fun x_2=>S.rels.length-x_2.1) (x0:=(0,List.replicate S.attrs.length false)) (Io (aS O) ⟨O,af (fun c=>some (Ob.cells 4 c)) ((ct (.bool false) (S.attrs.length*1)).trans Ps),Pw⟩ O O) (⟨bk _,ey.zero _,O⟩) ?_
   rintro ⟨ri,U⟩ ⟨hk,hU,hs⟩;try simp only at hk hU hs ⊢
   refine Z1 O O ?_;refine Gp O O (fun hc91=>?_) (fun hc91=>?_)
   ·have hlt:ri<S.rels.length:=Po;have hrow:=cW hlt;have hne:=ew hlt;have hre:=Cj S ri hlt;have hul:=hU.1;have hll:=hS.rl _ (aJ hlt);have hfin:∀ e:Int,e≠0->xe S ri=e->PV.int .i64 e= .int .i64 (cI S):=fun e h0 h1=>af (PV.int .i64) (((hpre h0).2.1 hA (by unfold iM;rw [gQ hs (by rw [h1];exact h0) hlt,qY (by rw [h1];exact h0),h1])).symm)
    refine Il<|Z2 O O O<|Rs 94 O O (db ⟨_,underlying30,O⟩ Eu O hrow O)<|Y3 O O O<|Z2 O O O<|Rs 97 O O (ae call124 (fI S.rels[ri].1 (hS.rn _ (aJ hlt))) O)<|A1 O ?_;refine Gc O O (fun hc98=>?_) (fun hc98=>?_)
    ·exact Z1 O O<|Gt O<|⟨_,_,O,O,hfin 14 Pq (by rw [hre,qY (by simpa using hc98)])⟩
    ·have hw:¬ oS S.rels[ri].1=false:=by simpa using hc98
     refine Il<|Z1 O O ?_;refine Gl O (st:=fun x_3:Nat=>mkS [(1,.ptr 0 0),(6,.osl 1 1 S.attrs.length),(7,.pv (.int .i64 ri)),(8,.ptr 2 0),(9,.pv (.int .i64 x_3)),(88,.pv (.sl none S.rels.length (bj S.rels))),(89,.pv (.int .i64 S.rels.length)),(90,.pv (.int .i64 ri))] [(0,.mix 34 [.pv (.sl none S.attrs.length (cc S.attrs)),.pv (.sl none S.rels.length (bj S.rels)),.pv (.sl none S.feats.length (bm S.feats)),.pv (.int .i64 S.label)]),(1,.cells 4 (ay U)),(2,.mix 30 [.pv (.str S.rels[ri].1),.pv (ak S.rels[ri].2)])] 3)
      (I:=fun x_3=>x_3<=ri/\¬ S.rels[ri].1∈(S.rels.map (·.1)).take x_3) (μ:=fun x_3=>ri-x_3) (x0:=(0)) (Io (aS O) (aO O) O O) (⟨bk _,Ps⟩) ?_
     rintro j ⟨hj,hno⟩;refine Z3 O O O O ?_;refine Gp O O (fun hc101=>?_) (fun hc101=>?_)
     ·have hjk:j<ri:=Po;have hjl:j<S.rels.length:=Po;have hnm:(bj S.rels)[j*2+0]? =some (.str S.rels[j].1):=oC _ 2 (fun _=>rfl) S.rels j 0 hjl Pq;have hmm:j<(S.rels.map (·.1)).length:=by simpa using hjl
      have hme:(S.rels.map (·.1))[j]=S.rels[j].1:=Ps;refine Il<|Ge O follows [0,1,2,3,4,5,6,7,8] Pp ?_;iterate 5 refine D1 O O ?_
      first | refine D2 O O Pr ?_ | refine D1 O O ?_
      iterate 3 refine D1 O O ?_
      refine ⟨Pp,?_⟩;refine Gc O O (fun hc112=>?_) (fun hc112=>?_)
      ·exact Z1 O O<|Gt O<|⟨_,_,O,O,hfin 9 Pq (by rw [hre,kH hw,qY (sg (by rw [<-baT hc112,<-hme];exact eF hjk hmm))])⟩
      ·exact Il<|Z3 O O O O<|⟨(j+1),Io (aS O) (aO O) O O,⟨Po,jf hmm hno (by rw [hme];exact baF hc112)⟩,Po⟩
     ·have hno2:¬ hasB ((S.rels.map (·.1)).take ri) S.rels[ri].1=true:=by rw [show j=ri by omega] at hno;rw [xd hno];decide
      refine Gx O<|Z4 O O O O O ?_;refine Gc O O (fun hc116=>?_) (fun hc116=>?_)
      ·exact Z1 O O<|Gt O<|⟨_,_,O,O,hfin 7 Pq (by rw [hre,kH hw,kH hno2,qY (by have:=ibT hc116;apply Mj;omega)])⟩
      ·have hl0:¬ S.rels[ri].2=[]:=fun e=>by rw [e] at hc116;simp at hc116
       refine Il<|Z4 O O O O O ?_;refine Gl O (st:=fun x_4:Nat×List Bool=>mkS [(1,.ptr 0 0),(6,.osl 1 1 S.attrs.length),(8,.ptr 2 0),(88,.pv (.sl none S.rels.length (bj S.rels))),(89,.pv (.int .i64 S.rels.length)),(90,.pv (.int .i64 ri)),(118,.pv (ak S.rels[ri].2)),(119,.pv (.int .i64 S.rels[ri].2.length)),(120,.pv (.int .i64 x_4.1))] [(0,.mix 34 [.pv (.sl none S.attrs.length (cc S.attrs)),.pv (.sl none S.rels.length (bj S.rels)),.pv (.sl none S.feats.length (bm S.feats)),.pv (.int .i64 S.label)]),(1,.cells 4 (ay x_4.2)),(2,.mix 30 [.pv (.str S.rels[ri].1),.pv (ak S.rels[ri].2)])] 3)
        (I:=fun x_4=>x_4.1<=S.rels[ri].2.length/\ey S.attrs.length x_4.2 (fun a=>((S.rels.take ri).any fun x=>inB x.2 a)||inB (S.rels[ri].2.take x_4.1) a)/\∀ a∈S.rels[ri].2.take x_4.1,0<=a/\a<S.attrs.length) (μ:=fun x_4=>S.rels[ri].2.length-x_4.1) (x0:=(0,U)) (Io (aS O) (aO O) O O) (⟨bk _,hU.congr (fun a _=>by simp [inB]),Ps⟩) ?_
       rintro ⟨q,U2⟩ ⟨hq,hU2,hr⟩;try simp only at hq hU2 hr ⊢
       refine Z1 O O ?_;refine Gp O O (fun hc121=>?_) (fun hc121=>?_)
       ·have hql:q<S.rels[ri].2.length:=Po;have hv:=cE hql;have hne2:=aH hql;have hul2:=hU2.1;refine Il<|Z1 O O ?_;first | refine A2 O Pr ?_ | refine A1 O ?_
        refine A1 O<|Z3 O O O O ?_;apply Ix 5 126 131 [127,128,129,130] O Py
        ·intro hb2;iterate 5 refine A1 O ?_
         exact Iq Px O O O
        ·intro hb2;iterate 5 refine A1 O ?_
         exact Iq Px O O O
        refine Gc O O (fun hc131=>?_) (fun hc131=>?_)
        ·exact Z1 O O<|Gt O<|⟨_,_,O,O,hfin 2 Pq (by rw [hre,kH hw,kH hno2,kH hl0,qY (HB hql (by simp at hc131;omega))])⟩
        ·have hx:0<=S.rels[ri].2[q]/\S.rels[ri].2[q]<S.attrs.length:=by simp at hc131;omega
         obtain ⟨j,hj⟩:=so hx.1;exact Il<|Z2 O O O<|Rs 134 O O (aa j underlying115 sz4 O O O hj Po)<|A1 O<|Z2 O O O<|⟨(q+1,U2.set j true),Io (aS O) ⟨O,by show some (Ob.cells _ _)=_;rw [<-xX];simp,O,Pw⟩ O O,⟨Pv,(hU2.set (a:=j) Po).congr (fun a _=>J5 hql hj),Dj hql hr hx⟩,Pv⟩
       ·have hrng:(S.rels[ri].2.all fun a=>decide (0<=a)&&decide (a<S.attrs.length))=true:=FZ (fun a ha=>hr a (by rw [a6 Po];exact ha));refine Gx O<|Z1 O O ?_;refine Gl O (st:=fun x_5:Nat=>mkS [(1,.ptr 0 0),(6,.osl 1 1 S.attrs.length),(8,.ptr 2 0),(12,.pv (.int .i64 x_5)),(88,.pv (.sl none S.rels.length (bj S.rels))),(89,.pv (.int .i64 S.rels.length)),(90,.pv (.int .i64 ri))] [(0,.mix 34 [.pv (.sl none S.attrs.length (cc S.attrs)),.pv (.sl none S.rels.length (bj S.rels)),.pv (.sl none S.feats.length (bm S.feats)),.pv (.int .i64 S.label)]),(1,.cells 4 (ay U2)),(2,.mix 30 [.pv (.str S.rels[ri].1),.pv (ak S.rels[ri].2)])] 3)
         (I:=fun x_5=>1<=x_5/\∀ i,i+1<x_5->i+1<S.rels[ri].2.length->S.rels[ri].2.getD i 0<S.rels[ri].2.getD (i+1) 0) (μ:=fun x_5=>S.rels[ri].2.length-x_5) (x0:=(1)) (Io (aS O) (aO O) O O) (⟨xV _,fun i hi=>by omega⟩) ?_
        rintro p ⟨hp1,hasc⟩;refine Gr O ?_;iterate 5 refine A1 O ?_
        refine Gp O O (fun hc140=>?_) (fun hc140=>?_)
        ·have hpl:p<S.rels[ri].2.length:=Po;have hpl1:p-1<S.rels[ri].2.length:=Po;have hv:=cE hpl;have hv1:=cE hpl1;have hne2:=aH hpl;refine Il<|Ge O follows [0,1,2,3,4,5,6,7,8,9,10,11] Pp ?_;iterate 4 refine D1 O O ?_
         first | refine D2 O O Pr ?_ | refine D1 O O ?_
         iterate 4 refine D1 O O ?_
         refine Ds 152 [] O O O (fun τ h=>ag (p-1) underlying22 sz3 (Ee h 0 O O) (Ee h 1 O O) Po Po hne2) O Pp ?_;first | refine D2 O O Pr ?_ | refine D1 O O ?_
         refine D1 O O ?_;refine ⟨Pp,?_⟩;refine Gp O O (fun hc154=>?_) (fun hc154=>?_)
         ·exact Z1 O O<|Gt O<|⟨_,_,O,O,hfin 10 Pq (by rw [hre,kH hw,kH hno2,kH hl0,kH (by rw [hrng];decide),qY (HQ hp1 hpl hc154)])⟩
         ·exact Il<|Z3 O O O O<|⟨(p+1),Io (aS O) (aO O) O O,⟨Po,Br hpl hp1 hasc Po⟩,Po⟩
        ·exact Gx O<|Z2 O O O<|⟨(ri+1,U2),Io (aS O) (aO O) O O,⟨Pv,hU2.congr (fun a _=>CZ hlt Po),by simp only;rw [eA hs,hre,kH hw,kH hno2,kH hl0,kH (by rw [hrng];decide),kH (by rw [GI (fun i hi=>hasc i Po hi)];decide)]⟩,Pv⟩
   ·have hR:bZ (xe S) S.rels.length=0:=by rw [show S.rels.length=ri by omega];exact hs
    have hU3:ey S.attrs.length U (DB S):=by rw [a6 Po] at hU;exact hU
    have hul:=hU3.1;refine Gx O<|Z3 O O O O ?_;refine Gl O (st:=fun x_6:Nat=>mkS [(1,.ptr 0 0),(6,.osl 1 1 S.attrs.length),(156,.osl 1 1 S.attrs.length),(157,.pv (.int .i64 S.attrs.length)),(158,.pv (.int .i64 x_6))] [(0,.mix 34 [.pv (.sl none S.attrs.length (cc S.attrs)),.pv (.sl none S.rels.length (bj S.rels)),.pv (.sl none S.feats.length (bm S.feats)),.pv (.int .i64 S.label)]),(1,.cells 4 (ay U))] 2)
     (I:=fun x_6=>x_6<=S.attrs.length/\∀ b,b<x_6->DB S b=true) (μ:=fun x_6=>S.attrs.length-x_6) (x0:=(0)) (Io (aS O) (aO O) O O) (⟨bk _,fun b hb=>absurd hb (NW _)⟩) ?_
    rintro a ⟨ha,hus⟩;refine Z1 O O ?_;refine Gp O O (fun hc159=>?_) (fun hc159=>?_)
    ·have hal:a<S.attrs.length:=Po;have hua:=hU3.2 a hal;have hva:(ay U)[a*1]? =some (.bool (DB S a)):=by rw [Mi,Nf,hua];rfl
     refine Il<|Z1 O O ?_;first | refine A2 O Pr ?_ | refine A1 O ?_
     refine A1 O<|Z2 O O O ?_;refine Gc O O (fun hc163=>?_) (fun hc163=>?_)
     ·exact Z1 O O<|Gt O<|⟨_,_,O,O,af (PV.int .i64) (((hpre Pq).2.1 hA (by unfold iM;rw [kH (fun e=>e hR),qY (OG.2 ⟨a,Mx.2 hal,by simpa using hc163⟩)])).symm)⟩
     ·exact Il<|Z2 O O O<|⟨(a+1),Io (aS O) (aO O) O O,⟨Po,fun b hb=>by rcases Me.1 hb with h | rfl;exact hus b h;simpa using hc163⟩,Po⟩
    ·have hRS:iM S=0:=I7 hR (uv.2 fun b hb=>hus b (by have:=Mx.1 hb;omega));refine Gx O<|Z4 O O O O O ?_;refine Gl O (st:=fun x_7:Nat=>mkS [(1,.ptr 0 0),(6,.osl 1 1 S.attrs.length),(166,.pv (.sl none S.feats.length (bm S.feats))),(167,.pv (.int .i64 S.feats.length)),(168,.pv (.int .i64 x_7))] [(0,.mix 34 [.pv (.sl none S.attrs.length (cc S.attrs)),.pv (.sl none S.rels.length (bj S.rels)),.pv (.sl none S.feats.length (bm S.feats)),.pv (.int .i64 S.label)]),(1,.cells 4 (ay U))] 2)
      (I:=fun x_7=>x_7<=S.feats.length/\bZ (k7 S) x_7=0) (μ:=fun x_7=>S.feats.length-x_7) (x0:=(0)) (Io (aS O) (aO O) O O) (⟨bk _,O⟩) ?_
     rintro f ⟨hk,hs⟩;refine Z1 O O ?_;refine Gp O O (fun hc169=>?_) (fun hc169=>?_)
     ·have hlt:f<S.feats.length:=Po;have hrow:=vp hlt;have hne:=AH hlt;have hfe:=yF S f hlt;have hfin:∀ e:Int,e≠0->k7 S f=e->PV.int .i64 e= .int .i64 (cI S):=fun e h0 h1=>af (PV.int .i64) (((hpre h0).2.2 hA hRS (by rw [gQ hs (by rw [h1];exact h0) hlt,h1])).symm)
      refine Il<|Z2 O O O<|Rs 172 O O (db ⟨_,underlying107,O⟩ EJ O hrow O)<|Y3 O O O<|Z4 O O O O O ?_;apply Ix 6 176 182 [177,178,179,180,181] O Py
      ·intro hb3;iterate 6 refine A1 O ?_
       exact Iq Px O O O
      ·intro hb3;iterate 6 refine A1 O ?_
       exact Iq Px O O O
      refine Gc O O (fun hc182=>?_) (fun hc182=>?_)
      ·exact Z1 O O<|Gt O<|⟨_,_,O,O,hfin 2 Pq (by rw [hfe,qY (by simp at hc182;omega)])⟩
      ·have hx:0<=S.feats[f].1/\S.feats[f].1<S.attrs.length:=by simp at hc182;omega
       obtain ⟨a,ha⟩:=so hx.1;have hal:a<S.attrs.length:=Po;have hk2:(cc S.attrs)[a*2+1]? =some (.int .i64 S.attrs[a].2):=oC _ 2 (fun _=>rfl) S.attrs a 1 hal Pq;have hane:=lq hal;have hkd:(S.attrs.getD S.feats[f].1.toNat default).2=S.attrs[a].2:=by rw [ha];simp [List.getD,hal]
       refine Il<|Z4 O O O O O ?_;apply Iy 9 186 195 [187,188,189,190,191,192,193,194] O Py
       ·intro hb3;iterate 4 refine A1 O ?_
        apply Ix 4 190 194 [191,192,193] O Py
        ·intro hb7;iterate 4 refine A1 O ?_
         exact Iq Px O O O
        ·intro hb7;iterate 4 refine A1 O ?_
         exact Iq Px O O O
        exact A1 O<|Iq Px O O O
       ·intro hb3;iterate 9 refine A1 O ?_
        exact Iq Px O O O
       refine A1 O ?_;apply Iy 9 196 205 [197,198,199,200,201,202,203,204] O Py
       ·intro hb13;iterate 4 refine A1 O ?_
        refine Rg 201 O O O (ag a underlying28 G1 O O ha hal hane)<|A1 O ?_;first | refine A2 O Pr ?_ | refine A1 O ?_
        exact Y2 O O<|Iq Px O O O
       ·intro hb13;iterate 9 refine A1 O ?_
        exact Iq Px O O O
       refine A1 O<|Z4 O O O O O ?_;apply Iy 4 209 213 [210,211,212] O Py
       ·intro hb3;iterate 4 refine A1 O ?_
        exact Iq Px O O O
       ·intro hb3;iterate 4 refine A1 O ?_
        exact Iq Px O O O
       refine A1 O ?_;apply Iy 9 214 223 [215,216,217,218,219,220,221,222] O Py
       ·intro hb8;iterate 4 refine A1 O ?_
        refine Rg 219 O O O (ag a underlying28 G1 O O ha hal hane)<|A1 O ?_;first | refine A2 O Pr ?_ | refine A1 O ?_
        exact Y2 O O<|Iq Px O O O
       ·intro hb8;iterate 9 refine A1 O ?_
        exact Iq Px O O O
       refine A1 O<|Z3 O O O O ?_;apply Iy 3 226 229 [227,228] O Py
       ·intro hb2;exact Y3 O O O<|Iq Px O O O
       ·intro hb2;exact Y3 O O O<|Iq Px O O O
       refine Gc O O (fun hc229=>?_) (fun hc229=>?_)
       ·exact Z1 O O<|Gt O<|⟨_,_,O,O,hfin 7 Pq (by rw [hfe,kH Po,hkd,qY (by revert hc229;generalize (S.feats[f].2.1==1)=b1;generalize (S.feats[f].2.2==0)=b2;generalize (S.feats[f].2.2==1)=b3;generalize (S.attrs[a].2==2)=b4;generalize (S.feats[f].2.1==2)=b5;generalize (S.attrs[a].2==3)=b6;cases b1<;>cases b2<;>cases b3<;>cases b4<;>cases b5<;>cases b6<;>decide)])⟩
       ·have hkind:¬ ((S.feats[f].2.1==1&&S.attrs[a].2==2&&(S.feats[f].2.2==0||S.feats[f].2.2==1))||(S.feats[f].2.1==2&&S.attrs[a].2==3&&S.feats[f].2.2==0))=false:=by revert hc229;generalize (S.feats[f].2.1==1)=b1;generalize (S.feats[f].2.2==0)=b2;generalize (S.feats[f].2.2==1)=b3;generalize (S.attrs[a].2==2)=b4;generalize (S.feats[f].2.1==2)=b5;generalize (S.attrs[a].2==3)=b6;cases b1<;>cases b2<;>cases b3<;>cases b4<;>cases b5<;>cases b6<;>decide
        refine Il<|Z1 O O ?_;refine Gl O (st:=fun x_8:Nat=>mkS [(1,.ptr 0 0),(6,.osl 1 1 S.attrs.length),(15,.pv (.int .i64 f)),(16,.ptr 2 0),(19,.pv (.int .i64 x_8)),(166,.pv (.sl none S.feats.length (bm S.feats))),(167,.pv (.int .i64 S.feats.length)),(168,.pv (.int .i64 f))] [(0,.mix 34 [.pv (.sl none S.attrs.length (cc S.attrs)),.pv (.sl none S.rels.length (bj S.rels)),.pv (.sl none S.feats.length (bm S.feats)),.pv (.int .i64 S.label)]),(1,.cells 4 (ay U)),(2,.mix 107 [.pv (.int .i64 S.feats[f].1),.pv (.int .i64 S.feats[f].2.1),.pv (.int .i64 S.feats[f].2.2)])] 3)
         (I:=fun x_8=>x_8<=f/\((S.feats.take x_8).any fun g=>g.1==S.feats[f].1)=false) (μ:=fun x_8=>f-x_8) (x0:=(0)) (Io (aS O) (aO O) O O) (⟨bk _,O⟩) ?_
        rintro j ⟨hj,hno⟩;refine Z3 O O O O ?_;refine Gp O O (fun hc232=>?_) (fun hc232=>?_)
        ·have hjk:j<f:=Po;have hjl:j<S.feats.length:=Po;have hnm:(bm S.feats)[j*3+0]? =some (.int .i64 S.feats[j].1):=oC _ 3 (fun _=>rfl) S.feats j 0 hjl Pq;refine Il<|Ge O follows [0,1,2,3,4,5,6,7,8] Pp ?_;iterate 5 refine D1 O O ?_
         first | refine D2 O O Pr ?_ | refine D1 O O ?_
         iterate 3 refine D1 O O ?_
         refine ⟨Pp,?_⟩;refine Gc O O (fun hc243=>?_) (fun hc243=>?_)
         ·exact Z1 O O<|Gt O<|⟨_,_,O,O,hfin 9 Pq (by rw [hfe,kH Po,hkd,kH hkind,qY (by rw [MF];exact .inr (My.2 ⟨S.feats[j],eF hjk hjl,hc243⟩))])⟩
         ·exact Il<|Z3 O O O O<|⟨(j+1),Io (aS O) (aO O) O O,⟨Po,DH hjl hno hc243⟩,Po⟩
        ·rw [show j=f by omega] at hno;refine Gx O<|Gr O ?_;iterate 5 refine A1 O ?_
         refine Gc O O (fun hc248=>?_) (fun hc248=>?_)
         ·exact Z1 O O<|Gt O<|⟨_,_,O,O,hfin 9 Pq (by rw [hfe,kH Po,hkd,kH hkind,qY (by rw [MF];exact .inl hc248)])⟩
         ·exact Il<|Z2 O O O<|⟨(f+1),Io (aS O) (aO O) O O,⟨Po,by rw [eA hs,hfe,kH Po,hkd,kH hkind,kH (by rw [hno,hc248];decide)]⟩,Po⟩
     ·have hF:bZ (k7 S) S.feats.length=0:=by rw [show S.feats.length=f by omega];exact hs
      have hcl:=zL hlim hA hRS hF;refine Gx O<|Z4 O O O O O ?_;apply Ix 6 253 259 [254,255,256,257,258] O Py
      ·intro hb3;iterate 6 refine A1 O ?_
       exact Iq Px O O O
      ·intro hb3;iterate 6 refine A1 O ?_
       exact Iq Px O O O
      refine Gc O O (fun hc259=>?_) (fun hc259=>?_)
      ·exact Z1 O O<|Gt O<|⟨_,_,O,O,af (PV.int .i64) (by rw [hcl,qY (by simpa using hc259)])⟩
      ·have hn:¬ (S.label< -1\/(S.attrs.length:Int)<=S.label):=by simpa using hc259
       refine Il ?_;have hlv:0<=S.label->∃ (a:Nat),S.label=(a:Int)/\a<S.attrs.length/\(cc S.attrs)[a*2+1]? =some (.int .i64 (S.attrs.getD S.label.toNat default).2):=fun h=>by obtain ⟨a,ha⟩:=so h;have hal:a<S.attrs.length:=Po;refine ⟨a,ha,hal,?_⟩;rw [ha];simp only [Mb,List.getD,kJ hal];exact oC _ 2 (fun _=>rfl) S.attrs a 1 hal Pq
       refine Z4 O O O O O ?_;apply Iy 9 263 272 [264,265,266,267,268,269,270,271] O Py
       ·intro hb3;obtain ⟨a,ha,hal,hk2⟩:=hlv (Ng hb3);have hane:=lq hal;iterate 4 refine A1 O ?_
        refine Rg 268 O O O (ag a underlying28 G1 O O ha hal hane)<|A1 O ?_;first | refine A2 O Pr ?_ | refine A1 O ?_
        exact Y2 O O<|Iq Px O O O
       ·intro hb3;iterate 9 refine A1 O ?_
        exact Iq Px O O O
       refine Gc O O (fun hc272=>?_) (fun hc272=>?_)
       ·exact Z1 O O<|Gt O<|⟨_,_,O,O,af (PV.int .i64) (by rw [hcl,kH hn,qY (by simpa using hc272)])⟩
       ·exact Il<|Z1 O O<|Gt O<|⟨_,_,O,O,af (PV.int .i64) (by rw [hcl,kH hn,kH (by rintro ⟨h1,h2⟩;rw [IS (show S.label>=0 from h1),NX,bne_eq_false_iff_eq] at hc272;exact h2 hc272)])⟩
end
def upF (P:List Int):Nat->Int->Option (List Int)
 | 0,x=>if x<0 then some [] else none
 | k+1,x=>if x<0 then some [] else (upF P k (P.getD x.toNat 0)).map (x:: ·)
def abv (P:List Int) (v:Int):Option (List Int):=upF P P.length (P.getD v.toNat 0)
def bp (P:List Int) (v:Int):List Int:=(abv P v).getD []
def hiB (P:List Int) (a b:Int):Bool:=decide (a∈bp P b)
def mu (P:List Int) (l:List Int):Bool:=l.all fun a=>l.all fun b=>a==b||hiB P a b||hiB P b a
def fk (P:List Int) (v:Int):List Int:=((List.range P.length).map Int.ofNat).filter fun a=>a==v||hiB P v a
def eS (S:Sch) (a b:Int):Bool:=S.rels.any fun r=>decide (a∈r.2)&&decide (b∈r.2)
def H7 (S:Sch) (P:List Int) (v:Int):List Int:=(bp P v).filter fun a=>(fk P v).any fun b=>eS S a b
theorem sW {P:List Int} {k:Nat} {x:Int} (h:x<0):upF P k x=some []:=by
 cases k<;>simp [upF,h]
theorem ym {P:List Int} {k a:Nat} (ha:a<P.length):upF P (k+1) (a:Int)=(upF P k P[a]).map ((a:Int):: ·):=by
 have h:¬ ((a:Int)<0):=Po;simp [upF,List.getD,ha,h]
theorem zg {P:List Int}:∀ {k:Nat} {x:Int} {l:List Int},upF P k x=some l->l.length<=k
 | 0,x,l,h=>by
   simp only [upF] at h;split at h
   ·cases h;simp
   ·cases h
 | k+1,x,l,h=>by
   simp only [upF] at h;split at h
   ·cases h;simp
   ·cases e:upF P k (P.getD x.toNat 0) with
    | none=>rw [e] at h;cases h
    | some l'=>rw [e] at h;cases h;simp;exact zg e
theorem vg (P:List Int) (v:Int):(bp P v).length<=P.length:=by
 unfold bp;cases h:abv P v with
 | none=>simp
 | some l=>exact zg h
section
open Mk
abbrev Fe (P:List Int):PV:= .agg [ak P]
theorem BE {α:Type} {l:List α} {p:α->Bool} {k:Nat} (hk:k<l.length) (h:(l.take k).all p=true) (hn:p l[k]=true):(l.take (k+1)).all p=true:=by
 rw [bT hk];simp only [List.all_append,h,NQ,hn,Pk,OB]
structure Valid (S:Sch):Prop where
 n1:1<=S.attrs.length
 n2:S.attrs.length<=12
 r1:1<=S.rels.length
 r2:S.rels.length<=6
 ne:∀ r∈S.rels,r.2≠[]
 rng:∀ r∈S.rels,∀ a∈r.2,0<=a/\a<S.attrs.length
 asc:∀ r∈S.rels,BJ r.2=true
 use:∀ a,a<S.attrs.length->∃ r∈S.rels,(a:Int)∈r.2
theorem jF {S:Sch} (h:cI S=0):Valid S:=by
 unfold cI at h;split at h
 ·cases h
 ·rename_i hlim;split at h
  ·rename_i h1;exact absurd h h1
  ·split at h
   ·rename_i h1;exact absurd h h1
   ·rename_i _ hr;have hr:iM S=0:=MC hr;unfold iM at hr;split at hr
    ·rename_i h1;exact absurd hr h1
    ·rename_i hs;have hs:bZ (xe S) S.rels.length=0:=MC hs;split at hr
     ·cases hr
     ·rename_i hu;have hrel:∀ r∈S.rels,r.2≠[]/\(r.2.all fun a=>decide (0<=a)&&decide (a<S.attrs.length))=true/\BJ r.2=true:=by
       intro r hr;obtain ⟨i,hi,rfl⟩:=MK hr;have he:=wT.1 hs i hi;unfold xe at he;rw [show S.rels.getD i default=S.rels[i] by simp [List.getD,hi]] at he;split at he
       ·rename_i h1;exact absurd he h1
       ·split at he
        ·cases he
        ·split at he
         ·cases he
         ·split at he
          ·cases he
          ·rename_i h1 h2 h3;exact ⟨h1,by simpa using h2,by simpa using h3⟩
      refine ⟨Po,Po,Po,Po,fun r hr=>(hrel r hr).1,fun r hr a ha=>?_,fun r hr=>(hrel r hr).2.2,fun a ha=>?_⟩
      ·have:=uv.1 (hrel r hr).2.1 a ha;simpa using this
      ·have hu:((List.range S.attrs.length).all fun a=>DB S a)=true:=by simpa using hu
       have:=uv.1 hu a (Mx.2 ha);unfold DB at this;obtain ⟨r,hr,hm⟩:=My.1 this;exact ⟨r,hr,by simpa [inB] using hm⟩
end
section
open Go.RowKit Go.MapKept
def keq:PV->PV->Option Bool
 | .int k a,.int k' b=>bif kEq k k' then some (a==b) else none
 | .str a,.str b=>some (a==b)
 | .bool a,.bool b=>some (a==b)
 | _,_=>none
def dR (k:PV):List PV->Nat->Option (Option Nat)
 | [],_=>some none
 | x::l,i=>match keq k x with
   | some true=>some (some i)
   | some false=>dR k l (i+1)
   | none=>none
def Eh:TypeDesc->PV->Bool
 | .int k,.int k' _=>kEq k' k
 | .string,.str _=>true
 | .bool,.bool _=>true
 | _,_=>false
section
variable {w:World} {R:Nat->Prop}
theorem yM {d:TypeDesc} {k x:PV} {u y:Value} (hd:Eh d k=true) (hk:RelP w R k u) (hx:RelP w R x y) {b:Bool} (h:keq k x=some b):Instr.sameNow d u y=some b:=by
 cases k<;>cases d<;>simp only [Eh,Og] at hd<;>cases x<;>simp only [keq,reduceCtorEq] at h<;>simp only [RelP] at hk hx<;>subst hk hx
 ·replace h:=aL h;have:=fT h.1;subst this;simpa [Instr.sameNow] using h.2
 ·simpa [Instr.sameNow] using h
 ·simpa [Instr.sameNow] using h
theorem jY {d:TypeDesc} {k:PV} {u:Value} (hd:Eh d k=true) (hk:RelP w R k u):∀ {ks:List PV} {es:List MapEntry} {i:Nat} {r:Option Nat},RelPL w R ks (es.map (·.key))->dR k ks i=some r->
  match r with
  | none=>Instr.findNow d u es i=some none
  | some j=>∃ q e,j=i+q/\es[q]? =some e/\Instr.findNow d u es i=some (some (j,e.val))
 | [],[],i,r,_,h=>by simp only [dR,JV] at h;subst h;rfl
 | [],_::_,_,_,hr,_=>by simp [RelPL] at hr
 | x::ks,[],_,_,hr,_=>by simp [RelPL] at hr
 | x::ks,e::es,i,r,hr,h=>by
   simp only [oy,RelPL,Oe] at hr;obtain ⟨y,ys,⟨rfl,rfl⟩,h1,h2⟩:=hr;simp only [dR] at h;split at h
   ·rename_i hb;cases h;have:=yM hd hk h1 hb;exact ⟨0,e,O,O,by simp [Instr.findNow,this]⟩
   ·rename_i hb;have hs:=yM hd hk h1 hb;have ih:=jY hd hk h2 h;cases r with
    | none=>simpa [Instr.findNow,hs] using ih
    | some j=>
      obtain ⟨q,e',hj,he,hf⟩:=ih;exact ⟨q+1,e',Po,by simpa using he,by simpa [Instr.findNow,hs] using hf⟩
   ·cases h
theorem Jv {d:TypeDesc} {k:PV} {u:Value} (hd:Eh d k=true) (hk:RelP w R k u):IsKey d u:=by
 cases k<;>cases d<;>simp only [Eh,Og] at hd<;>simp only [RelP] at hk<;>subst hk<;>first | exact fT hd | trivial
theorem ui {k:PV}:∀ {ks:List PV} {i j:Nat},dR k ks i=some (some j)->∃ q x,j=i+q/\ks[q]? =some x/\keq k x=some true
 | [],_,_,h=>by simp [dR] at h
 | x::ks,i,j,h=>by
   simp only [dR] at h;split at h
   ·rename_i hb;cases h;exact ⟨0,x,O,O,hb⟩
   ·obtain ⟨q,y,e,h1,h2⟩:=ui h;exact ⟨q+1,y,Po,by simpa using h1,h2⟩
   ·cases h
theorem ue {a b:ByteArray} (h:(a==b)=true):a=b:=by
 have:(a.data==b.data)=true:=h;exact ByteArray.ext (eq_of_beq this)
theorem l6 (a:ByteArray):(a==a)=true:=by
 have:(a.data==a.data)=true:=NZ a.data;exact this
theorem CT {k x:PV} {u y:Value} (h:keq k x=some true) (hk:RelP w R k u) (hx:RelP w R x y):u=y/\Instr.sameBits 10000 y u=true:=by
 cases k<;>cases x<;>simp only [keq,reduceCtorEq,JV] at h<;>simp only [RelP] at hk hx<;>subst hk hx
 ·replace h:=aL h;have h1:=fT h.1;have h2:=h.2;simp only [JV,Nt] at h2;subst h1 h2;simp [Instr.sameBits]
 ·simp at h;subst h;simp [Instr.sameBits]
 ·have:=ue h;subst this;exact ⟨O,by show (_==_)=true;exact l6 _⟩
end
def uJ (n:Nat) (σ:St) (x:Operand) (ks vs:List PV):Prop:=
 (∃ id,σ.ev n x= .map id/\σ.ob id=some (.mp ks vs))\/σ.ev n x= .pv (.mp ks vs)\/(σ.ev n x= .pv .nilmap/\ks=[]/\vs=[])
section
variable {C:Ctx} {n:Nat} {σ:St} {a:Act} {w:World} {m:Gm} {R:Nat->Prop} {x y z:Operand} {dst:Option Tmp} {ty t kt et:TypeId} {pos:String} {after:Array Edge} {gd:Option (Nat×Bool)} {ks vs:List PV}
theorem uJ.at (hw:SW C n σ a w m R) (h:uJ n σ x ks vs):(∃ b es clock,a.eval x= .map (some b)/\w.heap[b]? =some (.map es clock)/\RelPL w R ks (es.toList.map (·.key))/\RelPL w R vs (es.toList.map (·.val)))\/(a.eval x= .map none/\ks=[]/\vs=[]):=by
 rcases h with ⟨id,hx,ho⟩ | hx | ⟨hx,h1,h2⟩
 ·obtain ⟨b,N,hm,hr⟩:=hw.live ho;have:=hw.ev x;rw [hx] at this;simp only [Rel] at this;obtain ⟨es,clock,q1,q2,q3,_⟩:=hr;exact .inl ⟨b,es,clock,this.2 b N hm,q1,q2,q3⟩
 ·have:=hw.pv hx;simp only [RelP] at this;obtain ⟨b,e,_,es,clock,q1,q2,q3,_⟩:=this;exact .inl ⟨b,es,clock,e,q1,q2,q3⟩
 ·have:=hw.pv hx;simp only [RelP] at this;exact .inr ⟨this,h1,h2⟩
theorem run_map {P:Program} {w:World} {r:Nat} {es:Array MapEntry} {clock:Nat} (hb:w.heap[r]? =some (.map es clock)):(getObj r).run P w= .ok (.map es clock) w:=by
 simp [getObj,Sem.run,hb]
theorem mZ {P:Program} {w:World} {r:Nat} {es:Array MapEntry} {clock:Nat} (o:Obj) (hb:w.heap[r]? =some (.map es clock)):(setObj r o).run P w= .ok () { w with heap:=w.heap.setIfInBounds r o }:=by
 simp [setObj,Sem.run,hb]
def qH (k:PV) (ks vs:List PV):Option (Option PV):=
 match dR k ks 0 with
 | some none=>some none
 | some (some j)=>(vs[j]?).map some
 | none=>none
theorem RelPL.at {ps:List PV} {us:List Value} (h:RelPL w R ps us) {i:Nat} {p:PV} {u:Value} (hp:ps[i]? =some p) (hu:us[i]? =some u):RelP w R p u:=by
 obtain ⟨u',h1,h2⟩:=h.get hp;rw [hu] at h1;cases h1;exact h2
theorem DE (hw:SW C n σ a w m R) {d:TypeDesc} {key zp:PV} {zv:Value} {r:Option PV} (ht:C.P.underlying t=some (.map kt et)) (hk:C.P.underlying kt=some d) (hd:Eh d key=true) (hx:uJ n σ x ks vs) (hy:σ.ev n y= .pv key) (hz:(C.P.info? et).map (·.zero)=some (some zv)) (hzp:ofC zv=zp) (hl:qH key ks vs=some r) (ok:Bool):
  ∃ u,RelP w R (r.getD zp) u/\(Instr.lookup t (a.eval x) (a.eval y) ok).run C.P w= .ok (if ok then .tuple #[u,.bool r.isSome] else u) w:=by
 have hkey:=hw.pv hy;have hzr:(zeroValue et).run C.P w= .ok zv w:=by
  cases hq:C.P.info? et with
  | none=>simp [hq] at hz
  | some i=>simp [hq] at hz;simp [zeroValue,typeInfo,hq,hz]
 have hzrel:RelP w R zp zv:=hzp▸ye w R zv;have hIs:=Jv hd hkey;rcases hx.at hw with ⟨b,es,clock,e,hb,q2,q3⟩ | ⟨e,rfl,rfl⟩
 ·unfold qH at hl;split at hl
  ·rename_i hf;cases hl;have:=jY hd hkey q2 hf;simp only at this;refine ⟨zv,hzrel,?_⟩;simp [Instr.lookup,e,run_underlying ht,run_map hb,run_checkKey hk hIs,run_findKey hk this,hzr,Result.andThen]
  ·rename_i j hf;obtain ⟨q,e',hj,he,hfn⟩:=jY hd hkey q2 hf;simp only [Mt] at hj;subst hj;cases hv:vs[j]? with
   | none=>rw [hv] at hl;cases hl
   | some p=>
     rw [hv] at hl;simp at hl;subst hl;refine ⟨e'.val,RelPL.at q3 hv (by simp [he]),?_⟩;simp [Instr.lookup,e,run_underlying ht,run_map hb,run_checkKey hk hIs,run_findKey hk hfn,Result.andThen]
  ·cases hl
 ·simp only [qH,dR,JV] at hl;subst hl;refine ⟨zv,hzrel,?_⟩;have hf:Instr.findNow d (a.eval y) (#[]:Array MapEntry).toList 0=some none:=rfl;simp [Instr.lookup,e,run_underlying ht,run_checkKey hk hIs,run_findKey hk hf,hzr,Result.andThen]
theorem cg {d:TypeDesc} {key zp p:PV} {zv:Value} {r:Option PV} {b:Bool} (ht:C.P.underlying t=some (.map kt et)) (hk:C.P.underlying kt=some d) (hx:uJ n σ x ks vs) (hy:σ.ev n y= .pv key) (hd:Eh d key=true) (hz:(C.P.info? et).map (·.zero)=some (some zv)) (hzp:ofC zv=zp) (hl:qH key ks vs=some r) (hp:r.getD zp=p) (hb:r.isSome=b):
  XJ C n ⟨dst,.lookup t x y true,ty,pos,after,gd⟩ σ ⟨.pv (.tup [p,.bool b]),[],[]⟩:=
 .val fun a w m R hw=>by
  obtain ⟨u,hr,hrun⟩:=DE hw ht hk hd hx hy hz hzp hl true;subst hp hb;refine ⟨_,by simp only [execOp,Sem.run_bind,hrun,Result.andThen_ok];rfl,?_⟩;simp only [Rel,RelP];exact ⟨[u,.bool r.isSome],O,RelPL.cons hr (RelPL.cons (by simp only [RelP]) RelPL.nil)⟩
theorem SW.HZ (h:SW C n σ a w m R) {id:Nat} (hid:σ.av id=true) (obj:Obj) (N:Nat) (o:Ob)
  (ho:∀ (w':World) (m':Gm) (av':Av),(∀ b,R b->R b/\w'.heap[b]? =w.heap[b]?)->w'.heap[w.heap.size]? =some obj->lD w' m' av' R w.heap.size N o) (hre:o.real=true:=by rfl):
  SW C n ⟨σ.sl,obL [(id,some o)] σ.ob,avL [id] σ.av⟩ a (w.alloc obj) (upd m id (some (w.heap.size,N))) R:=by
 have hR:∀ b,R b->R b/\(w.alloc obj).heap[b]? =w.heap[b]? :=fun b hb=>⟨hb,Below.heap_alloc w _ b (h.hr.rsz b hb)⟩
 have hne:∀ i,σ.av i=false->i≠id:=fun i hi e=>by rw [e,hid] at hi;cases hi
 have hm:∀ i x,σ.av i=false->upd m id (some (w.heap.size,N)) i=some x->m i=some x:=fun i x hi e=>by rwa [aG _ _ (hne i hi)] at e
 have ha:∀ i,σ.av i=false->avL [id] σ.av i=false:=fun i hi=>by
  simp only [avL];cases Nat.beq i id<;>simp [hi]
 have hsz:(w.alloc obj).heap.size=w.heap.size+1:=Ps;have obe:∀ i,i≠id->obL [(id,some o)] σ.ob i=σ.ob i:=fun i hi=>by
  have:Nat.beq i id=false:=by cases hb:Nat.beq i id;rfl;exact absurd (eG hb) hi
  simp [obL,this]
 have obs:obL [(id,some o)] σ.ob id=some o:=by simp [obL]
 refine h.world ⟨?_,?_,?_,?_,?_,?_,h.hr.rfr,h.hr.r0,?_,?_,fun i hi=>ha i (h.hr.res i hi)⟩ hR hm ha
 ·intro i;by_cases e:i=id
  ·subst e;rw [au,obs];exact hre.symm
  ·rw [aG _ _ e,obe i e];exact h.hr.dom i
 ·intro i hi;simp only [avL] at hi;cases hb:Nat.beq i id with
  | true=>rw [hb] at hi;simp at hi
  | false=>
    rw [hb] at hi;rw [obe i (fun e=>by subst e;simp at hb)];exact h.hr.free i (by simpa using hi)
 ·intro i o' b N h1 h2;by_cases e:i=id
  ·subst e;rw [obs] at h1;rw [au] at h2;cases h1;cases h2;exact ho _ _ _ hR (heap_alloc_new w _)
  ·rw [obe i e] at h1;rw [aG _ _ e] at h2;exact (h.hr.obj i o' b N h1 h2).mono hR hm ha (Below.heap_alloc w _ b (h.hr.own i b N h2).1)
 ·intro i j b N N' h1 h2;by_cases e1:i=id<;>by_cases e2:j=id
  ·rw [e1,e2]
  ·subst e1;rw [au] at h1;rw [aG _ _ e2] at h2;cases h1;have:=(h.hr.own j _ _ h2).1;omega
  ·subst e2;rw [au] at h2;rw [aG _ _ e1] at h1;cases h2;have:=(h.hr.own i _ _ h1).1;omega
  ·rw [aG _ _ e1] at h1;rw [aG _ _ e2] at h2;exact h.hr.inj i j b N N' h1 h2
 ·intro i b N h1;by_cases e:i=id
  ·subst e;rw [au] at h1;cases h1;exact ⟨Po,fun hb=>by have:=h.hr.rsz _ hb;omega,.inr h.hr.frame.size⟩
  ·rw [aG _ _ e] at h1;obtain ⟨h2,h3,h4⟩:=h.hr.own i b N h1;exact ⟨Po,h3,h4⟩
 ·intro b hb;have:=h.hr.rsz b hb;omega
 ·refine ⟨h.hr.frame.os,h.hr.frame.tape,h.hr.frame.output,?_,?_⟩
  ·have:=h.hr.frame.size;omega
  ·intro k hk hF;rw [Below.heap_alloc w _ k (by have:=h.hr.frame.size;omega)];exact h.hr.frame.block k hk hF
 ·intro i x hi e;have hne':i≠id:=fun e'=>by subst e';rw [h.hr.res i hi] at hid;cases hid
  rw [aG _ _ hne'] at e;exact h.hr.keep i x hi e
theorem SW.turn (h:SW C n σ a w m R) {id b N:Nat} (hm0:m id=some (b,N)) (w':World) (hs:w'.heap.size=w.heap.size) (hoth:∀ k,k≠b->w'.heap[k]? =w.heap[k]?) (e1:w'.os=w.os) (e2:w'.tape=w.tape) (e3:w'.output=w.output) (o:Ob)
  (ho:(∀ b,R b->R b/\w'.heap[b]? =w.heap[b]?)->lD w' m σ.av R b N o) (hre:o.real=true:=by rfl):
  SW C n ⟨σ.sl,obL [(id,some o)] σ.ob,avL [] σ.av⟩ a w' m R:=by
 have own:=h.hr.own id b N hm0;have hR:∀ k,R k->R k/\w'.heap[k]? =w.heap[k]? :=fun k hk=>⟨hk,hoth k (fun e=>own.2.1 (e▸hk))⟩
 have obe:∀ i,i≠id->obL [(id,some o)] σ.ob i=σ.ob i:=fun i hi=>by
  have:Nat.beq i id=false:=by cases hb:Nat.beq i id;rfl;exact absurd (eG hb) hi
  simp [obL,this]
 have obs:obL [(id,some o)] σ.ob id=some o:=by simp [obL]
 have hm:∀ i x,σ.av i=false->m i=some x->m i=some x:=fun _ _ _ e=>e
 have ha:∀ i,σ.av i=false->avL [] σ.av i=false:=fun _ hi=>hi
 refine h.world ⟨?_,?_,?_,h.hr.inj,?_,?_,h.hr.rfr,h.hr.r0,?_,h.hr.keep,h.hr.res⟩ hR hm ha
 ·intro i;by_cases e:i=id
  ·subst e;rw [hm0,obs];exact hre.symm
  ·rw [obe i e];exact h.hr.dom i
 ·intro i hi;have e:i≠id:=fun e=>by
   subst e;have:=h.hr.dom i;rw [h.hr.free i hi,hm0] at this;cases this
  rw [obe i e];exact h.hr.free i hi
 ·intro i o' b' N' h1 h2;by_cases e:i=id
  ·subst e;rw [obs] at h1;rw [hm0] at h2;cases h1;cases h2;exact ho hR
  ·rw [obe i e] at h1;exact (h.hr.obj i o' b' N' h1 h2).mono hR hm ha (hoth b' (fun e'=>e (h.hr.inj i id b N' N (e'▸h2) hm0)))
 ·intro i b' N' h1;obtain ⟨h2,h3,h4⟩:=h.hr.own i b' N' h1;exact ⟨Po,h3,h4⟩
 ·intro b' hb';have:=h.hr.rsz b' hb';omega
 ·refine ⟨e1.trans h.hr.frame.os,e2.trans h.hr.frame.tape,e3.trans h.hr.frame.output,?_,?_⟩
  ·have:=h.hr.frame.size;omega
  ·intro k hk hF;rw [hoth k (fun e=>by subst e;rcases own.2.2 with h' | h';exact hF h';omega)];exact h.hr.frame.block k hk hF
theorem fF (id:Nat) (hid:σ.av id=true):XJ C n ⟨dst,.makeMap t none,ty,pos,after,gd⟩ σ ⟨.map id,[(id,some (.mp [] []))],[id]⟩:=by
 rintro a w Q ⟨m,R,hw⟩;unfold Oper.wp;have hrun:(execOp a.eval ⟨dst,.makeMap t none,ty,pos,after,gd⟩).run C.P w= .ok (.value (.map (some w.heap.size))) (w.alloc (.map #[] 0)):=by
  simp only [execOp,Option.map_none,Sem.run_bind,run_makeMap,Result.andThen_ok];rfl
 rw [hrun];refine ⟨_,O,upd m id (some (w.heap.size,0)),R,?_⟩;rw [Iw];refine SW.put (hw.HZ hid (.map #[] 0) 0 (.mp [] []) ?_) dst ?_
 ·intro w' m' av' hR hb;exact ⟨#[],0,hb,RelPL.nil,RelPL.nil,by simp [pT]⟩
 ·simp only [Rel];refine ⟨by simp [avL],fun b N e=>?_⟩;rw [au] at e;cases e;rfl
def s6 (k:PV) (ks:List PV):List PV:=match dR k ks 0 with
 | some (some j)=>ks.set j k
 | _=>ks++[k]
def tg (k v:PV) (ks vs:List PV):List PV:=match dR k ks 0 with
 | some (some j)=>vs.set j v
 | _=>vs++[v]
theorem ed {d:TypeDesc} {key v:PV} {id:Nat} {r:Option Nat} {ks' vs':List PV} (ht:C.P.underlying t=some (.map kt et)) (hk:C.P.underlying kt=some d) (hx:σ.ev n x= .map id) (ho:σ.ob id=some (.mp ks vs)) (hy:σ.ev n y= .pv key) (hz:σ.ev n z= .pv v) (hd:Eh d key=true) (hf:dR key ks 0=some r)
  (hks:s6 key ks=ks') (hvs:tg key v ks vs=vs'):XJ C n ⟨none,.mapUpdate t x y z,ty,pos,after,gd⟩ σ ⟨.pv .any,[(id,some (.mp ks' vs'))],[]⟩:=by
 rintro a w Q ⟨m,R,hw⟩;obtain ⟨b,N,hm,es,clock,hb,q2,q3,q4⟩:=hw.live ho;have hxv:=hw.ev x;rw [hx] at hxv;simp only [Rel] at hxv;have hx:=hxv.2 b N hm;have hkey:=hw.pv hy;have hval:=hw.pv hz;have hIs:=Jv hd hkey;have hlt:b<w.heap.size:=(NV.1 hb).1;have fin:∀ (es':Array MapEntry) (clock':Nat),(Instr.mapUpdate t (a.eval x) (a.eval y) (a.eval z)).run C.P w= .ok () { w with heap:=w.heap.setIfInBounds b (.map es' clock') }->
   RelPL w R ks' (es'.toList.map (·.key))->RelPL w R vs' (es'.toList.map (·.val))->pT es'.toList clock'->Oper.wp C.P ⟨none,.mapUpdate t x y z,ty,pos,after,gd⟩ a w (fun a' w'=>∃ σ',σ'=σ.app none ⟨.pv .any,[(id,some (.mp ks' vs'))],[]⟩/\SJ C n σ' a' w') Q:=by
  intro es' clock' hrun h1 h2 h3;unfold Oper.wp;have hrun':(execOp a.eval ⟨none,.mapUpdate t x y z,ty,pos,after,gd⟩).run C.P w= .ok .skip { w with heap:=w.heap.setIfInBounds b (.map es' clock') }:=by
   simp only [execOp,Sem.run_bind,hrun,Result.andThen_ok,Sem.run_pure]
  rw [hrun'];refine ⟨_,O,m,R,hw.turn hm { w with heap:=w.heap.setIfInBounds b (.map es' clock') } Ps (fun k hk=>by simp only;rw [Array.getElem?_setIfInBounds_ne (fun e=>hk e.symm)]) O O O (.mp ks' vs') fun hR=>?_⟩;exact ⟨es',clock',by simp only;rw [Array.getElem?_setIfInBounds];simp [hlt],h1.mono hR,h2.mono hR,h3⟩
 have hl:=q2.length;have hl2:=q3.length;simp only [xT] at hl hl2;cases r with
 | none=>
   have hfn:=jY hd hkey q2 hf;simp only at hfn;refine fin (es.push ⟨a.eval y,a.eval z,clock⟩) (clock+1) ?_ ?_ ?_ ?_
   ·simp [Instr.mapUpdate,hx,run_underlying ht,run_map hb,run_checkKey hk hIs,run_findKey hk hfn,mZ _ hb,Result.andThen]
   ·rw [<-hks];simp only [s6,hf,Array.toList_push,Mw,oy,M9];exact q2.append (RelPL.cons hkey RelPL.nil)
   ·rw [<-hvs];simp only [tg,hf,Array.toList_push,Mw,oy,M9];exact q3.append (RelPL.cons hval RelPL.nil)
   ·simp only [pT,Array.toList_push,Mw,oy,M9];refine ⟨List.nodup_append.2 ⟨q4.1,Ps,fun x hx y hy e=>?_⟩,fun e he=>?_⟩
    ·obtain ⟨e',he',rfl⟩:=IT.1 hx;have:=q4.2 e' he';simp at hy;omega
    ·rcases Mc.1 he with h | h
     ·exact Nat.lt_succ_of_lt (q4.2 e h)
     ·simp at h;subst h;exact Nat.lt_succ_self _
 | some j=>
   obtain ⟨q,e',hj,he,hfn⟩:=jY hd hkey q2 hf;obtain ⟨q',x',hj',hx',hkq⟩:=ui hf;simp only [Mt] at hj hj';subst hj';subst hj;have hrel:=RelPL.at q2 hx' (by simp [he]:(es.toList.map (·.key))[j]? =some e'.key);have hsame:=CT hkq hkey hrel;have hjl:j<es.size:=(Mm.1 he).1 |> fun h=>by simpa using h
   have hek:es[j]? =some e':=by simpa using he
   have hge:es[j]=e':=by have:=Array.getElem?_eq_getElem hjl;rw [hek] at this;exact (Nq this).symm
   have hmod:(es.modify j fun e=>{ e with key:=a.eval y,val:=a.eval z }).toList=es.toList.set j ⟨a.eval y,a.eval z,e'.born⟩:=by
    apply List.ext_getElem?;intro i;rw [OW,Ou,OH];by_cases e:j=i
    ·subst e;simp [hjl,hge]
    ·simp [e]
   refine fin (es.modify j fun e=>{ e with key:=a.eval y,val:=a.eval z }) clock ?_ ?_ ?_ ?_
   ·simp [Instr.mapUpdate,hx,run_underlying ht,run_map hb,run_checkKey hk hIs,run_findKey hk hfn,mZ _ hb,Result.andThen,Instr.keyThatStays,hek,hsame.2]
   ·rw [hmod,<-hks];simp only [s6,hf,NF];exact q2.set j hkey
   ·rw [hmod,<-hvs];simp only [tg,hf,NF];exact q3.set j hval
   ·rw [hmod];have hborn:(es.toList.set j ⟨a.eval y,a.eval z,e'.born⟩).map (·.born)=es.toList.map (·.born):=by
     rw [NF];apply List.ext_getElem?;intro i;rw [OH];by_cases e:j=i
     ·subst e;simp [hjl,hge]
     ·simp [e]
    refine ⟨by rw [hborn];exact q4.1,fun e hm=>?_⟩;have:e.born∈es.toList.map (·.born):=by rw [<-hborn];exact IT.2 ⟨e,hm,O⟩
    obtain ⟨e2,h2,h3⟩:=IT.1 this;rw [<-h3];exact q4.2 e2 h2
def RO (ids:List Nat) (base k':Nat) (Q:V->(Nat->Option Ob)->Prop) (s:OS):Prop:=∃ v ob',Q v ob'/\s=⟨v.ren (cm ids base),wrO ids base k' ob',nwO base k'⟩
theorem DK (ids:List Nat) (base k':Nat) (ob':Nat->Option Ob):(wrO ids base k' ob').map (·.1)=ids++nwO base k':=by
 have h:∀ (l:List Nat) (j:Nat),(l.zipIdx j).map (fun p=>p.1)=l:=by
  intro l;induction l with
  | nil=>intro j;rfl
  | cons x l ih=>intro j;rw [Pa,oy,ih]
 unfold wrO nwO;rw [Mw,OM,OM];exact congr (af _ (h ids 0)) O
theorem relO {f:FuncId} {xs:Array Operand} {ts:Array TypeId} {args:List V} {os:List (Nat×Ob)} {k':Nat} {Q:V->(Nat->Option Ob)->Prop} (ids:List Nat) (base:Nat) (hc:bN C.P f) (hf:FnO C.P f ids.length k' args os Q) (hargs:xs.toList.map (σ.ev n)=V.renL (cm ids base) args)
  (ha:V.allL (okR ids.length 0) args=true) (hos:os.map (·.1)=(List.range ids.length).map (big+ ·)) (hob:os.all (fun p=>p.2.all (okR ids.length 0))=true) (hobs:dD σ (cm ids base) os) (hnd:ids.Nodup) (hav:(nwO base k').all σ.av=true):
  OJ C n ⟨dst,.call { callee:= .value (.func f),args:=xs,argTypes:=ts },ty,pos,after,gd⟩ (fun τ'=>∃ s,RO ids base k' Q s/\s.wr.map (·.1)=ids++nwO base k'/\s.nw=nwO base k'/\τ'=σ.app dst s) σ:=
 dU ids base hc hargs ha hos hob hobs hnd hav hf fun v ob' h=>⟨_,⟨v,ob',h,O⟩,DK _ _ _ _,O,O⟩
end
end
section
section
variable {C:Ctx} {n:Nat} {σ:St} {dst:Option Tmp} {ty t t':TypeId} {pos:String} {after:Array Edge} {gd:Option (Nat×Bool)} {x y:Operand}
theorem rM {e:TypeId} {z:Value} {size bytes j:Nat} {news:List PV} (id':Nat) (he:ElemIs C.P t e z size bytes) (hs:σ.ev n x= .pv nS)
  (hsrc:jA n σ y j news) (hl:news.length=j*size) (hlf:∀ c∈news,c.leaf=true) (hb:j<=1000000000) (hid:σ.av id'=true):
  XJ C n ⟨dst,.call { callee:= .builtin .append,args:= #[x,y],argTypes:= #[t,t] },ty,pos,after,gd⟩ σ ⟨.gsl id' size j,[(id',some (.gro e news))],[id']⟩:=by
 rintro a w Q ⟨m,R,hw⟩;have hx:=hw.pv hs;simp only [RelP] at hx;obtain ⟨A0,c0,hev,_,_,hn,hc0,_⟩:=hx;have hA0:A0=none:=by cases A0;rfl;have:=hn true O;simp at this
 subst hA0;rw [hc0 trivial] at hev;obtain ⟨A,c2,us,hev2,hr2,hrow⟩:=hsrc.row hw;rcases Mv j with rfl | hj
 ·obtain rfl:news=[]:=Mj (by simpa using hl);obtain ⟨i,hi,_⟩:=info_parts he.info;have hrun:(Builtin.append_ #[t,t] ty #[.slice none 0 0,.slice A 0 c2]).run C.P w= .ok (.slice none 0 0) w:=by
   cases A<;>simp [Builtin.append_,run_underlying he.u,sizeOf,typeInfo,hi,Builtin.lenOf,Builtin.firstCells,loadCells,loadCellsFrom]
  unfold Oper.wp execOp;simp only [resolve,invoke,builtin,Sem.run_bind,Sem.run_pure,Result.andThen_ok,OA,oy,M9,hev,hev2,hrun];obtain ⟨h,hmn⟩:=hw.gro0 hid e;refine ⟨_,O,m,R,?_⟩;rw [Iw];exact SW.put h dst<|tl (by simp only [RelP];exact ⟨none,0,O,xV _,by simp [maxLen],(fun _ e=>by cases e;rfl),(fun _=>rfl),fun e=>absurd O e⟩) hmn (by simp [avL])
 ·have hnl:0<news.length:=by rw [hl];exact Nat.mul_pos hj he.pos
  have hne:news≠[]:=MB.1 hnl;refine iG x y t O 0 e z size bytes he.u he.info he.zs he.pos he.by_ _ 0 j c2 A _ us hev hev2 (World.ownsRow_nil w 0 e size) hrow (by rw [hr2.length,hl]) (bU hr2 hlf) Po (bk _) ?_;intro A' c' w' hown' hgr hat
  simp only [Mt,MZ] at hown' hat ⊢;rcases hown'.2 with ⟨hv,h0⟩ | ⟨g,cap,cur,hv,_,hg,hkc',hcm',hcs',htk⟩
  ·omega
  ·simp only [Value.slice.injEq] at hv;obtain ⟨rfl, -,rfl⟩:=hv;have gge:w.heap.size<=g:=by
    rcases hat with h | ⟨g',h,hle⟩
    ·simp [Value.ownBlock] at h
    ·simp only [Value.ownBlock,JV] at h;subst h;exact hle
   refine ⟨_,O,upd m id' (some (g,cur.size)),R,?_⟩;rw [Iw];refine SW.put (hw.fresh hid hg hgr (fun q hq=>by simp [Value.ownBlock] at hq) (fun h=>by have:=hw.hr.rsz _ h;omega) (fun i b N hi e=>by have:=(hw.hr.own i b N hi).1;omega) (.inr (by have:=hw.hr.frame.size;omega)) (.gro e news) ?_ (bQ hne)) dst ?_
   ·intro m' av' hR _ _;refine ⟨cur,hg,O,?_,?_⟩
    ·rw [hcs',<-hr2.length,hown'.1];exact ML _ hkc'
    ·rw [<-hr2.length,hown'.1,htk];exact hr2.mono hR
   ·simp only [Rel];refine ⟨by simp [avL],_,c',O,hkc',hcm',fun h=>by omega,fun _ b N e=>?_⟩;rw [au] at e;cases e;exact ⟨O,hcs'⟩
end
end
section
section
variable {C:Ctx} {n:Nat} {σ:St} {dst:Option Tmp} {ty:TypeId} {pos:String} {after:Array Edge} {gd:Option (Nat×Bool)} {x:Operand}
end
end
section
section
variable {C:Ctx} {n:Nat} {σ:St} {dst:Option Tmp} {ty:TypeId} {pos:String} {after:Array Edge} {gd:Option (Nat×Bool)} {x y:Operand}
theorem dC {T e:TypeId} {id s k:Nat} {kh:IntKind} {ih:Int} {o:Ob} (h:Nat) (hT:C.P.underlying T=some (.slice e)) (hs:dx C.P e s) (hx:σ.ev n x= .osl id s k) (ho:σ.ob id=some o) (hy:σ.ev n y= .pv (.int kh ih)) (hi:ih=(h:Int)) (h2:h<=k) (hre:o.real=true:=by rfl):
  XJ C n ⟨dst,.slice T x none (some y) none,ty,pos,after,gd⟩ σ ⟨.osl id s h,[],[]⟩:=
 .val fun a w m R hw=>by
  obtain ⟨b,N,c,he,hkc,hcm,hN,hm,hor⟩:=hw.osl hx ho hre;have e2:a.eval y= .int kh h:=by rw [hw.int hy,hi]
  have hlc:h<=c:=Po;have hav:σ.av id=false:=by
   cases hv:σ.av id with
   | false=>rfl
   | true=>have:=hw.hr.free id hv;rw [ho] at this;cases this
  refine ⟨.slice (some ⟨b,0,none⟩) h c,?_,?_⟩
  ·by_cases hc0:c=0
   ·subst hc0;have:h=0:=Po;subst this;simp [execOp,he,e2,Instr.sliceAt,Instr.slice,Instr.sliceBounds,Instr.sliceBound,asIntOf,run_underlying hT,hs.run]
   ·simp [execOp,he,e2,Instr.sliceAt,Instr.slice,Instr.sliceBounds,Instr.sliceBound,asIntOf,run_underlying hT,hs.run,hlc,Addr.add_lit,hc0]
  ·simp only [Rel];refine ⟨hav,fun b' N' e=>?_⟩;rw [hm] at e;cases e;exact ⟨c,O,hlc,hcm,hN⟩
def St.cutO (σ:St) (id:Nat) (T:TypeId) (cs:List PV):St:=⟨σ.sl,obL [(id,some (.cells T cs))] σ.ob,σ.av⟩
theorem St.LZ {T:TypeId} {cs vs:List PV} (id j:Nat) (ho:σ.ob id=some (.cells T cs)) (hv:cs.take j=vs):σ.le (σ.cutO id T vs):=by
 subst hv;rintro C n a w ⟨m,R,hw⟩;have obe:∀ i,i≠id->obL [(id,some (.cells T (cs.take j)))] σ.ob i=σ.ob i:=fun i hi=>by
  have:Nat.beq i id=false:=by cases hb:Nat.beq i id;rfl;exact absurd (eG hb) hi
  simp [obL,this]
 have obs:obL [(id,some (.cells T (cs.take j)))] σ.ob id=some (.cells T (cs.take j)):=by simp [obL]
 refine ⟨m,R,⟨?_,?_,?_,hw.hr.inj,hw.hr.own,hw.hr.rsz,hw.hr.rfr,hw.hr.r0,hw.hr.frame,hw.hr.keep,hw.hr.res⟩,hw.df,hw.sz,hw.sl⟩
 ·intro i;show (m i).isSome=bl (obL _ σ.ob i);by_cases e:i=id
  ·subst e;rw [obs,hw.hr.dom,ho];rfl
  ·rw [obe i e];exact hw.hr.dom i
 ·intro i hi;show obL _ σ.ob i=none;by_cases e:i=id
  ·subst e;have:=hw.hr.free i hi;rw [ho] at this;cases this
  ·rw [obe i e];exact hw.hr.free i hi
 ·intro i o b N h1 h2;by_cases e:i=id
  ·subst e;have h1':obL [(i,some (.cells T (cs.take j)))] σ.ob i=some o:=h1;rw [obs] at h1';cases h1';obtain ⟨arr,q1,q2,q3,q4⟩:=hw.hr.obj i _ b N ho h2;refine ⟨arr,q1,q2,Pt,?_⟩;have:=q4.take j;rw [Oa] at this;rw [AI];exact this
  ·have h1':obL [(id,some (.cells T (cs.take j)))] σ.ob i=some o:=h1;rw [obe i e] at h1';exact hw.hr.obj i o b N h1' h2
end
end
section
section
variable {C:Ctx} {n:Nat} {σ:St} {dst:Option Tmp} {ty t:TypeId} {pos:String} {after:Array Edge} {gd:Option (Nat×Bool)} {x:Operand}
end
end
section
section
variable {C:Ctx} {n:Nat} {σ:St} {dst:Option Tmp} {ty:TypeId} {ts:Array TypeId} {pos:String} {after:Array Edge} {gd:Option (Nat×Bool)}
theorem fA {f:FuncId} {xs:Array Operand} {args:List V} {os:List (Nat×Ob)} {k':Nat} {Q:V->(Nat->Option Ob)->Prop} {K:St->Prop} (ids:List Nat) (base:Nat) (hc:bN C.P f) (hf:FnO C.P f ids.length k' args os Q) (hargs:xs.toList.map (σ.ev n)=V.renL (cm ids base) args)
  (ha:V.allL (okR ids.length 0) args=true) (hos:os.map (·.1)=(List.range ids.length).map (big+ ·)) (hob:os.all (fun p=>p.2.all (okR ids.length 0))=true) (hobs:dD σ (cm ids base) os)
  (hnd:ids.Nodup) (hav:(nwO base k').all σ.av=true)
  (hk:∀ v ob',Q v ob'->K (σ.app dst ⟨v.ren (cm ids base),wrO ids base k' ob',nwO base k'⟩)):
  OJ C n ⟨dst,.call { callee:= .value (.func f),args:=xs,argTypes:=ts },ty,pos,after,gd⟩ K σ:=dU ids base hc hargs ha hos hob hobs hnd hav hf hk
end
end
section
open Mk
def Aw (l:List Int):List Int:=l.mergeSort (fun a b=>decide (a<=b))
theorem iY (l:List Int):(Aw l).Perm l:=List.mergeSort_perm l _
theorem o8 (l:List Int):(Aw l).Pairwise (· <= ·):=by
 have:=List.pairwise_mergeSort (le:=fun a b:Int=>decide (a<=b)) (by intro a b c;simp;omega) (by intro a b;simp;omega) l;exact this.imp Ps
theorem yg {l r:List Int} (hp:l.Perm r) (hl:l.Pairwise (· <= ·)) (hr:r.Pairwise (· <= ·)):l=r:=
 hp.eq_of_pairwise (fun a b _ _ h1 h2=>Int.le_antisymm h1 h2) hl hr
theorem CV {l r:List Int} (hp:l.Perm r) (hl:l.Pairwise (· <= ·)):l=Aw r:=yg (hp.trans (iY r).symm) hl (o8 r)
theorem wV (k:Nat) (hk:k<=12):FnP prog 164 [.int .u64 k] (fun v=>∃ i,v= .int .i64 i):=by
 refine FnP.of func164 O ntmps164 Ps fun m0 w0 F R0=>?_
 have hw:IntKind.u8.wrap (k:Int)=(k:Int):=by
  have:k<256:=Po;show ((k:Int)%256)=k;omega
 refine Z1 O O<|Z2 O O O ?_;refine Gp O O (fun hc4=>absurd hc4 Po) (fun hc4=>?_);refine Il<|Z2 O O O ?_;refine Gp O O (fun hc8=>absurd hc8 Po) (fun hc8=>?_);refine Il<|Z2 O O O ?_;refine Gp O O (fun hc14=>absurd hc14 Po) (fun hc14=>?_);refine Il<|Z2 O O O<|Rs 21 O O ((en underlying136 underlying5 O).cast (v':= .pv (.int .u8 k)) (by rw [hw]))<|Rs 22 O O (pz k underlying9 O O O (by show k<256;omega)) ?_;exact A1 O<|Rs 24 O O (aQ O O O)<|A1 O<|Gt O<|⟨_,_,O,O,_,O⟩
theorem tP (k:Nat) (hk:k<=12):FnP prog 104 [.int .u64 k] (fun v=>∃ i,v= .int .i64 i):=by
 refine FnP.of func104 O ntmps104 Ps fun m0 w0 F R0=>?_
 refine Z1 O O ?_;refine Gc O O (fun hcK=>absurd hcK (Bool.false_ne_true)) (fun hcK=>?_);refine Il<|Z1 O O ?_;refine RL.call O (dE call164 (wV k hk) O ?_);rintro _ ⟨i,rfl⟩;exact A1 O<|Gt O<|⟨_,_,O,O,_,O⟩
abbrev EW (l:List Int):Ob:= .cells 3 (aE l)
end
section
open Mk
structure OrdOk (S:Sch) (P:List Int):Prop where
 val:Valid S
 len:P.length=S.attrs.length
 rng:∀ p∈P, -1<=p/\p<P.length
 up:∀ v,v<P.length->(abv P (v:Int)).isSome=true
 rt:∀ r∈S.rels,mu P r.2=true
def dq (S:Sch) (P:List Int) (v:Int):List Int:=Aw (H7 S P v)
end
section
open Mk
def al (P:List Int) (v:Int):List Int:=(upZ P.length).filter fun a=>P.getD a.toNat 0==v
def JA (P:List Int) (h a:Int):Int:=if hiB P h a=true then a else h
def ka (P:List Int) (l:List Int):Int:=l.foldl (JA P) (l.getD 0 0)
def fy (P:List Int):Nat->Int->List Int
 | 0,_=>[]
 | f+1,v=>(upZ P.length).flatMap fun a=>if P.getD a.toNat 0=v then a::fy P f a else []
section
variable {C:Ctx} {n:Nat} {σ:St} {dst:Option Tmp} {ty:TypeId} {ts:Array TypeId} {pos:String} {after:Array Edge} {gd:Option (Nat×Bool)}
theorem qx {f:FuncId} {xs:Array Operand} {y:Operand} {fs cs:List V} {args:List V} {os:List (Nat×Ob)} {k':Nat} {Q:V->(Nat->Option Ob)->Prop} {K:St->Prop} (ids:List Nat) (base:Nat) (hc:bN C.P f) (hf:FnO C.P f ids.length k' args os Q) (hy:σ.ev n y= .fn (.func f) fs cs) (hargs:fs++xs.toList.map (σ.ev n)++cs=V.renL (cm ids base) args)
  (ha:V.allL (okR ids.length 0) args=true) (hos:os.map (·.1)=(List.range ids.length).map (big+ ·)) (hob:os.all (fun p=>p.2.all (okR ids.length 0))=true) (hobs:dD σ (cm ids base) os)
  (hnd:ids.Nodup) (hav:(nwO base k').all σ.av=true)
  (hk:∀ v ob',Q v ob'->K (σ.app dst ⟨v.ren (cm ids base),wrO ids base k' ob',nwO base k'⟩)):
  OJ C n ⟨dst,.call { callee:= .value y,args:=xs,argTypes:=ts },ty,pos,after,gd⟩ K σ:=pf ids base hc hy hargs ha hos hob hobs hnd hav hf hk
end
end
section
open Mk
abbrev B64:=BitVec 64
abbrev bz (x:B64):PV:= .int .u64 (x.toNat:Int)
theorem JG (i:Int):IntKind.u64.wrap i=i%18446744073709551616:=by
 unfold IntKind.wrap;simp [IntKind.signed,IntKind.bits]
theorem rU (x:B64):IntKind.u64.wrap (x.toNat:Int)=x.toNat:=by
 rw [JG];have:=x.isLt;omega
theorem ofInt64 (x:B64):BitVec.ofInt IntKind.u64.bits (x.toNat:Int)=x:=by
 show BitVec.ofInt 64 _=x;rw [BitVec.ofInt_natCast,BitVec.ofNat_toNat,BitVec.setWidth_eq]
section
variable {C:Ctx} {n:Nat} {σ:St} {dst:Option Tmp} {ty t t':TypeId} {pos:String} {after:Array Edge} {gd:Option (Nat×Bool)} {x y:Operand} {X Y:B64}
theorem nK (hx:σ.ev n x= .pv (bz X)) (hy:σ.ev n y= .pv (bz Y)):XJ C n ⟨dst,.binOp .and t x y t',ty,pos,after,gd⟩ σ ⟨.pv (bz (X&&&Y)),[],[]⟩:=
 aQ hx hy (by simp only [qP,ofInt64];exact af (fun i=>some (PV.int .u64 i)) (rU _))
theorem kW (hx:σ.ev n x= .pv (bz X)) (hy:σ.ev n y= .pv (bz Y)):XJ C n ⟨dst,.binOp .or t x y t',ty,pos,after,gd⟩ σ ⟨.pv (bz (X|||Y)),[],[]⟩:=
 aQ hx hy (by simp only [qP,ofInt64];exact af (fun i=>some (PV.int .u64 i)) (rU _))
theorem tm (hx:σ.ev n x= .pv (bz X)) (hy:σ.ev n y= .pv (bz Y)):XJ C n ⟨dst,.binOp .andNot t x y t',ty,pos,after,gd⟩ σ ⟨.pv (bz (X&&& ~~~Y)),[],[]⟩:=
 aQ hx hy (by simp only [qP,ofInt64];exact af (fun i=>some (PV.int .u64 i)) (rU _))
theorem zx (hx:σ.ev n x= .pv (bz X)) (hy:σ.ev n y= .pv (bz Y)):XJ C n ⟨dst,.binOp .sub t x y t',ty,pos,after,gd⟩ σ ⟨.pv (bz (X-Y)),[],[]⟩:=
 aQ hx hy (by
  simp only [qP,JG];refine af (fun i=>some (PV.int .u64 i)) ?_;have:=X.isLt;have:=Y.isLt;rw [BitVec.toNat_sub];omega)
theorem nt (X Y:B64):((X.toNat:Int)==(Y.toNat:Int))=decide (X=Y):=by
 rw [Mg];simp only [Nt,L6];exact ⟨fun h=>BitVec.eq_of_toNat_eq Po,fun h=>by rw [h]⟩
theorem E7 (hx:σ.ev n x= .pv (bz X)) (hy:σ.ev n y= .pv (bz Y)):XJ C n ⟨dst,.binOp .eql t x y t',ty,pos,after,gd⟩ σ ⟨.pv (.bool (decide (X=Y))),[],[]⟩:=
 aQ hx hy (by simp only [qP,nt])
theorem nA (hx:σ.ev n x= .pv (bz X)) (hy:σ.ev n y= .pv (bz Y)):XJ C n ⟨dst,.binOp .neq t x y t',ty,pos,after,gd⟩ σ ⟨.pv (.bool (decide (X≠Y))),[],[]⟩:=
 aQ hx hy (by simp only [qP,bne,nt,decide_not])
theorem Fl (a:Nat) {i:Int} {k':IntKind} (hx:σ.ev n x= .pv (bz 1#64)) (hy:σ.ev n y= .pv (.int k' i)) (hi:i=(a:Int)) (ha:a<64):XJ C n ⟨dst,.binOp .shl t x y t',ty,pos,after,gd⟩ σ ⟨.pv (bz (BitVec.twoPow 64 a)),[],[]⟩:=by
 subst hi;refine XJ.cast (H3 hx hy Po)<|af (fun i=>V.pv (PV.int .u64 i)) ?_;show IntKind.u64.wrap (1*2^(min (Int.toNat (a:Int)) 64))=_;rw [show min (Int.toNat (a:Int)) 64=a by omega,BitVec.toNat_twoPow,JG];simp
theorem xU (a:Nat) {i:Int} {k':IntKind} (hx:σ.ev n x= .pv (bz X)) (hy:σ.ev n y= .pv (.int k' i)) (hi:i=(a:Int)) (ha:a<64):XJ C n ⟨dst,.binOp .shr t x y t',ty,pos,after,gd⟩ σ ⟨.pv (bz (X>>>a)),[],[]⟩:=by
 subst hi;refine XJ.cast (Ii hx hy Po)<|af (fun i=>V.pv (PV.int .u64 i)) ?_;show Int.fdiv (X.toNat:Int) (2^(min (Int.toNat (a:Int)) 64))=_;rw [show min (Int.toNat (a:Int)) 64=a by omega,BitVec.toNat_ushiftRight,Nat.shiftRight_eq_div_pow];have e:(2:Int)^a=((2^a:Nat):Int):=Ps;rw [e,Int.fdiv_eq_ediv_of_nonneg _ (Int.natCast_nonneg _)];simp
end
theorem GS (X:B64) (a:Nat):decide ((X>>>a)&&&1#64=1#64)=X.getLsbD a:=by
 rw [Mg,L6];constructor
 ·intro h;have:=af (fun z:B64=>z.getLsbD 0) h;simpa using this
 ·intro h;apply NL;intro i hi;rw [NN,BitVec.getLsbD_one];by_cases e:i=0
  ·subst e;simp [h]
  ·simp [e]
theorem fi (a:Nat) (ha:a<64):FnP prog 132 [.int .i64 a] (· =bz (BitVec.twoPow 64 a)):=by
 refine FnP.of func132 O ntmps132 Ps fun m0 w0 F R0=>?_
 exact Z1 O O<|Z1 O O<|Rs 4 O O (Fl a O O O ha)<|A1 O<|Gt O<|⟨_,_,O,O,O⟩
theorem lr (X:B64) (a:Nat) (ha:a<64):FnP prog 130 [bz X,.int .i64 a] (· = .bool (X.getLsbD a)):=by
 refine FnP.of func130 O ntmps130 Ps fun m0 w0 F R0=>?_
 exact Z1 O O<|Z2 O O O<|Rs 7 O O (xU a O O O ha)<|Rs 8 O O (nK (Y:=1#64) O O)<|Rs 9 O O (E7 (Y:=1#64) O O)<|A1 O<|Gt O<|⟨_,_,O,O,af PV.bool (GS X a)⟩
abbrev kz (G:List B64):List PV:=G.map bz
abbrev bS (G:List B64):PV:= .sl none G.length (kz G)
theorem fJ {l:List B64} {k:Nat} (h:k<l.length):(kz l)[k*1]? =some (bz l[k]):=by simp [h]
theorem gN {l:List B64} {k:Nat} (h:k<l.length):kz l≠[]:=by intro e;simp at e;subst e;simp at h
def gI (n:Nat):B64:=BitVec.twoPow 64 n-1#64
theorem fB {n:Nat} (hn:n<64) (i:Nat):(gI n).getLsbD i=decide (i<n):=by
 have e:gI n=BitVec.ofNat 64 (2^n-1):=by
  apply BitVec.eq_of_toNat_eq;unfold gI;have h1:2^n<2^64:=Nat.pow_lt_pow_right Pq hn;have h2:0<2^n:=Nat.pow_pos Pq;rw [BitVec.toNat_sub,BitVec.toNat_twoPow,BitVec.toNat_ofNat,OT h1];simp only [BitVec.toNat_ofNat];omega
 rw [e,BitVec.getLsbD_ofNat,Nat.testBit_two_pow_sub_one];by_cases h:i<n
 ·simp [h];omega
 ·simp [h]
theorem qh (G:List B64) (hn:G.length<64):FnP prog 128 [bS G] (· =bz (gI G.length)):=by
 refine FnP.of func128 O ntmps128 Ps fun m0 w0 F R0=>?_
 exact Z1 O O<|Z2 O O O<|Rs 5 O O (ae call132 (fi G.length hn) O)<|Rs 6 O O (zx (Y:=1#64) O O)<|A1 O<|Gt O<|⟨_,_,O,O,O⟩
end
theorem s0 (f:Nat->Bool):∀ w:Nat,∃ x:BitVec w,∀ i,i<w->x.getLsbD i=f i
 | 0=>⟨0#0,fun i h=>absurd h (NW _)⟩
 | w+1=>by
   obtain ⟨x,hx⟩:=s0 f w;refine ⟨BitVec.cons (f w) x,fun i hi=>?_⟩;rw [BitVec.getLsbD_cons];by_cases e:i=w
   ·rw [qY e,e]
   ·rw [kH e,hx i Po]
noncomputable def bitsOf (f:Nat->Bool):BitVec 64:=Classical.choose (s0 f 64)
theorem fN (f:Nat->Bool) {i:Nat} (h:i<64):(bitsOf f).getLsbD i=f i:=Classical.choose_spec (s0 f 64) i h
theorem cq {x:BitVec 64} {i:Nat} (h:x.getLsbD i=true):i<64:=MC fun e=>by
 rw [BitVec.getLsbD_of_ge _ _ Po] at h;cases h
inductive Reach (G:List (BitVec 64)) (rest:BitVec 64) (a:Nat):Nat->Prop
 | refl:Reach G rest a a
 | step {b c:Nat}:Reach G rest a b->(G.getD b 0#64).getLsbD c=true->rest.getLsbD c=true->Reach G rest a c
noncomputable def compB (G:List (BitVec 64)) (rest:BitVec 64) (a:Nat):BitVec 64:=bitsOf fun b=>@decide (Reach G rest a b) (Classical.propDecidable _)
theorem eH {G:List (BitVec 64)} {rest:BitVec 64} {a b:Nat} (hb:b<64):(compB G rest a).getLsbD b=true↔Reach G rest a b:=by
 unfold compB;rw [fN _ hb];exact @Ms _ (Classical.propDecidable _)
theorem dG {G:List (BitVec 64)} {rest:BitVec 64} {a b:Nat} (h:(compB G rest a).getLsbD b=true):Reach G rest a b:=(eH (cq h)).1 h
structure CInv (G:List (BitVec 64)) (rest:BitVec 64) (a:Nat) (out next:BitVec 64):Prop where
 h1:out.getLsbD a=true
 h2:∀ b,out.getLsbD b=true->Reach G rest a b
 h3:∀ b,next.getLsbD b=true->out.getLsbD b=true
 h4:∀ b c,out.getLsbD b=true->next.getLsbD b=false->(G.getD b 0#64).getLsbD c=true->rest.getLsbD c=true->out.getLsbD c=true
theorem CInv.first {G:List (BitVec 64)} {rest:BitVec 64} {a:Nat} (ha:a<64):CInv G rest a (BitVec.twoPow 64 a) (BitVec.twoPow 64 a):=by
 refine ⟨by rw [Oy];simp [ha],fun b hb=>?_,fun _ h=>h,fun b c h1 h2=>by rw [h1] at h2;cases h2⟩;rw [Oy] at hb;have:a=b:=by simpa [ha] using hb
 subst this;exact .refl
theorem CInv.last {G:List (BitVec 64)} {rest:BitVec 64} {a:Nat} {out:BitVec 64} (h:CInv G rest a out 0#64):out=compB G rest a:=by
 apply NL;intro i hi;rw [Mg,eH hi];refine ⟨h.h2 i,fun hr=>?_⟩;clear hi;induction hr with
 | refl=>exact h.h1
 | step _ h1 h2 ih=>exact h.h4 _ _ ih Ps h1 h2
theorem CInv.next {G:List (BitVec 64)} {rest:BitVec 64} {a:Nat} {out next near:BitVec 64} (h:CInv G rest a out next)
  (hn:∀ c,near.getLsbD c=(List.range G.length).any fun b=>next.getLsbD b&&(G.getD b 0#64).getLsbD c):
  CInv G rest a (out|||(near&&&rest&&& ~~~out)) (near&&&rest&&& ~~~out):=by
 have hnear:∀ c,near.getLsbD c=true↔∃ b,next.getLsbD b=true/\(G.getD b 0#64).getLsbD c=true:=by
  intro c;rw [hn,My];constructor
  ·rintro ⟨b,_,h⟩;rw [cH] at h;exact ⟨b,h⟩
  ·rintro ⟨b,h1,h2⟩;refine ⟨b,?_,by rw [h1,h2];rfl⟩;rw [Mx];apply MC;intro e;rw [List.getD,MV Po] at h2;simp at h2
 have hbit:∀ c,(near&&&rest&&& ~~~out).getLsbD c=true↔near.getLsbD c=true/\rest.getLsbD c=true/\out.getLsbD c=false:=by
  intro c;rw [NN,NN,BitVec.getLsbD_not];constructor
  ·intro h;simp at h;exact ⟨h.1.1,h.1.2,h.2.2⟩
  ·rintro ⟨h1,h2,h3⟩;have:=cq h1;rw [h1,h2,h3,IS this];rfl
 have hor:∀ c,(out|||(near&&&rest&&& ~~~out)).getLsbD c=true↔out.getLsbD c=true\/(near&&&rest&&& ~~~out).getLsbD c=true:=by
  intro c;rw [N0,MF]
 refine ⟨(hor _).2 (.inl h.h1),fun b hb=>?_,fun b hb=>(hor b).2 (.inr hb),fun b c h1 h2 h3 h4=>?_⟩
 ·rcases (hor b).1 hb with h1 | h1
  ·exact h.h2 b h1
  ·obtain ⟨g1,g2,_⟩:=(hbit b).1 h1;obtain ⟨d,g3,g4⟩:=(hnear b).1 g1;exact .step (h.h2 d (h.h3 d g3)) g4 g2
 ·rw [hor];by_cases hc:out.getLsbD c=true
  ·exact .inl hc
  ·right
   have hb:out.getLsbD b=true:=by
    rcases (hor b).1 h1 with h5 | h5
    ·exact h5
    ·rw [h5] at h2;cases h2
   rw [hbit];refine ⟨?_,h4,by simpa using hc⟩;rw [hnear];by_cases hnb:next.getLsbD b=true
   ·exact ⟨b,hnb,h3⟩
   ·exact absurd (h.h4 b c hb (by simpa using hnb) h3 h4) hc
def y9 (x:BitVec 64):Nat:=(List.range 64).countP fun i=> !x.getLsbD i
theorem lx {α:Type} {p q:α->Bool}:∀ {l:List α},(∀ a∈l,p a=true->q a=true)->(∃ a∈l,p a=false/\q a=true)->l.countP p<l.countP q
 | [],_,⟨a,h,_⟩=>by cases h
 | x::l,h,⟨a,ha,h1,h2⟩=>by
   have hm:l.countP p<=l.countP q:=List.countP_mono_left fun y hy=>h y (L7 _ hy)
   rw [List.countP_cons,List.countP_cons];by_cases e:a=x
   ·subst e;rw [h1,h2];simp;omega
   ·have hr:=lx (l:=l) (fun y hy=>h y (L7 _ hy)) ⟨a,(sh.1 ha).resolve_left e,h1,h2⟩;have:=h x (Nw ..);by_cases ep:p x=true
    ·rw [ep,this ep];simp;omega
    ·by_cases eq:q x=true<;>simp [ep,eq]<;>omega
theorem Ct {x y:BitVec 64} (h:∀ i,x.getLsbD i=true->y.getLsbD i=true) {j:Nat} (h1:x.getLsbD j=false) (h2:y.getLsbD j=true):y9 y<y9 x:=by
 refine lx (fun a _ ha=>?_) ⟨j,Mx.2 (cq h2),by rw [h2];rfl,by rw [h1];rfl⟩;cases hx:x.getLsbD a with
 | false=>rfl
 | true=>rw [h a hx] at ha;cases ha
theorem D5 {x:BitVec 64} (h:x≠0#64):∃ i,x.getLsbD i=true:=by
 apply MC;intro hn;apply h;apply NL;intro i _;rw [BitVec.getLsbD_zero];cases e:x.getLsbD i with
 | false=>rfl
 | true=>exact absurd ⟨i,e⟩ hn
def Cv (out next:BitVec 64):Nat:=2*y9 out+(if next=0#64 then 0 else 1)
theorem ET {out next x rest:BitVec 64} (hn:next≠0#64):Cv (out|||(x&&&rest&&& ~~~out)) (x&&&rest&&& ~~~out)<Cv out next:=by
 unfold Cv;rw [kH hn];by_cases e:(x&&&rest&&& ~~~out)=0#64
 ·rw [qY e,e];have:out|||0#64=out:=Ps;rw [this];omega
 ·rw [kH e];obtain ⟨i,hi⟩:=D5 e;have h1:out.getLsbD i=false:=by
   rw [NN,BitVec.getLsbD_not] at hi;simp at hi;exact hi.2.2
  have:=Ct (x:=out) (y:=out|||(x&&&rest&&& ~~~out)) (fun j hj=>by rw [N0,hj];rfl) h1 (by rw [N0,hi,Pc]);omega
noncomputable def compsN (G:List (BitVec 64)) (rest:BitVec 64):Nat->List (BitVec 64)×BitVec 64
 | 0=>([],rest)
 | k+1=>if (compsN G rest k).2.getLsbD k=true then ((compsN G rest k).1++[compB G (compsN G rest k).2 k],(compsN G rest k).2&&& ~~~compB G (compsN G rest k).2 k) else compsN G rest k
structure IsG (S:Sch) (G:List (BitVec 64)):Prop where
 len:G.length=S.attrs.length
 bit:∀ a,a<G.length->∀ b:Nat,(G.getD a 0#64).getLsbD b=(decide (a≠b)&&eS S a b)
section
open Mk
theorem getD_eq {α:Type} {l:List α} {k:Nat} (h:k<l.length) (d:α):l.getD k d=l[k]:=by simp [List.getD,h]
def yV (n:Nat) (G:List B64) (p:Nat->Nat->Bool):Prop:=G.length=n/\∀ a,a<n->∀ b:Nat,(G.getD a 0#64).getLsbD b=p a b
theorem yV.zero (n:Nat):yV n (List.replicate n 0#64) (fun _ _=>false):=⟨Ps,fun a ha b=>by simp [List.getD,ha]⟩
theorem yV.congr {n:Nat} {G:List B64} {p q:Nat->Nat->Bool} (h:yV n G p) (e:∀ a,a<n->∀ b,p a b=q a b):yV n G q:=⟨h.1,fun a ha b=>by rw [h.2 a ha b,e a ha b]⟩
theorem yV.or {n:Nat} {G:List B64} {p:Nat->Nat->Bool} (h:yV n G p) {i:Nat} (hi:i<n) (x:B64):yV n (G.set i (G[i]'(by rw [h.1];exact hi)|||x)) (fun a b=>p a b||(decide (a=i)&&x.getLsbD b)):=by
 refine ⟨by simp [h.1],fun a ha b=>?_⟩;have hl:i<G.length:=by rw [h.1];exact hi
 by_cases e:a=i
 ·subst e;have:=h.2 a ha b;rw [getD_eq hl] at this;simp [List.getD,hl,N0,this]
 ·have:=h.2 a ha b;simp only [List.getD] at this ⊢;rw [NU (fun e'=>e e'.symm),this];simp [e]
def ou (rs:List (ByteArray×List Int)) (a b:Nat):Bool:=rs.any fun r=>decide ((a:Int)∈r.2)&&decide ((b:Int)∈r.2)
theorem gS {l:List Int} {q i:Nat} (hq:q<l.length) (hi:l[q]=(i:Int)) (a:Nat):(a:Int)∈l.take (q+1)↔(a:Int)∈l.take q\/a=i:=by
 rw [bT hq,Mc,o7,hi];exact or_congr Iff.rfl ⟨fun h=>by omega,fun h=>by rw [h]⟩
theorem B5 {rs:List (ByteArray×List Int)} {l:List Int} {q i a b:Nat} {all:B64} (hq:q<l.length) (hi:l[q]=(i:Int)) (hall:∀ b:Nat,all.getLsbD b=decide ((b:Int)∈l)):
  ((decide (a≠b)&&(ou rs a b||(decide ((a:Int)∈l.take q)&&decide ((b:Int)∈l))))||(decide (a=i)&&(all&&& ~~~(BitVec.twoPow 64 i)).getLsbD b))=
  (decide (a≠b)&&(ou rs a b||(decide ((a:Int)∈l.take (q+1))&&decide ((b:Int)∈l)))):=by
 have hm:decide ((a:Int)∈l.take (q+1))=(decide ((a:Int)∈l.take q)||decide (a=i)):=by
  rw [Mg,MF,Ms,Ms,Ms,gS hq hi]
 rw [hm,NN,BitVec.getLsbD_not,Oy,hall];by_cases hb:(b:Int)∈l
 ·have hb64:b<64:=cq (x:=all) (by rw [hall];simpa using hb);by_cases e:a=i
  ·subst e;by_cases e2:a=b
   ·subst e2;simp [hb64]
   ·simp [e2,hb,hb64]
  ·simp [e]
 ·simp [hb]
theorem wO {rs:List (ByteArray×List Int)} {k a b:Nat} (hk:k<rs.length):ou (rs.take (k+1)) a b=(ou (rs.take k) a b||(decide ((a:Int)∈rs[k].2)&&decide ((b:Int)∈rs[k].2))):=by
 unfold ou;rw [bT hk];simp only [List.any_append,List.any_cons,List.any_nil,M7]
theorem iE (S:Sch) (hS:SB S) (hV:Valid S):FnP prog 127 [gK S] (fun v=>∃ G,v=bS G/\IsG S G):=by
 refine FnP.of func127 O ntmps127 Ps fun m0 w0 F R0=>?_
 have hb:=hV.n2;have hb2:=hV.r2;refine Z2 O O O<|Gr O ?_;iterate 5 refine A1 O ?_
 refine Z4 O O O O O ?_;refine Gl O (st:=fun ac:Nat×List B64=>mkS [(3,.osl 1 1 S.attrs.length),(16,.pv (.sl none S.rels.length (bj S.rels))),(17,.pv (.int .i64 S.rels.length)),(18,.pv (.int .i64 ac.1))] [(1,.cells 191 (kz ac.2))] 2)
  (I:=fun ac=>ac.1<=S.rels.length/\yV S.attrs.length ac.2 (fun a b=>decide (a≠b)&&ou (S.rels.take ac.1) a b)) (μ:=fun ac=>S.rels.length-ac.1) (x0:=(0,List.replicate S.attrs.length 0#64)) (Io (aS O) ⟨af (fun c=>some (Ob.cells 191 c)) ((ct (.int .u64 0) (S.attrs.length*1)).trans Ps),Pw⟩ O O) (⟨bk _,(yV.zero _).congr (fun a _ b=>by simp [ou])⟩) ?_
 rintro ⟨k,G⟩ ⟨hk,hG⟩;try simp only at hk hG ⊢
 refine Z1 O O ?_;refine Gp O O (fun hc19=>?_) (fun hc19=>?_)
 ·have hlt:k<S.rels.length:=Po;have hrow:=cW hlt;have hne:=ew hlt;have hll:=hS.rl _ (aJ hlt);have hrng:=hV.rng _ (aJ hlt);refine Il<|Z1 O O<|Rs 21 O O (db ⟨_,underlying30,O⟩ Eu O hrow O)<|Y2 O O<|Z1 O O<|Z4 O O O O O ?_;refine Gl O (st:=fun x_1:Nat×B64=>mkS [(3,.osl 1 1 S.attrs.length),(5,.ptr 2 0),(6,.pv (bz x_1.2)),(16,.pv (.sl none S.rels.length (bj S.rels))),(17,.pv (.int .i64 S.rels.length)),(18,.pv (.int .i64 k)),(23,.pv (ak S.rels[k].2)),(24,.pv (.int .i64 S.rels[k].2.length)),(25,.pv (.int .i64 x_1.1))] [(1,.cells 191 (kz G)),(2,.mix 30 [.pv (.str S.rels[k].1),.pv (ak S.rels[k].2)])] 3)
   (I:=fun x_1=>x_1.1<=S.rels[k].2.length/\∀ b:Nat,x_1.2.getLsbD b=decide ((b:Int)∈S.rels[k].2.take x_1.1)) (μ:=fun x_1=>S.rels[k].2.length-x_1.1) (x0:=(0,0#64)) (Io (aS O) (aO O) O O) (⟨bk _,fun b=>by simp⟩) ?_
  rintro ⟨q,all⟩ ⟨hq,hall⟩;try simp only at hq hall ⊢
  refine Z1 O O ?_;refine Gp O O (fun hc26=>?_) (fun hc26=>?_)
  ·have hql:q<S.rels[k].2.length:=Po;have hv:=cE hql;have hne2:=aH hql;have hrq:=hrng _ (aJ hql);obtain ⟨i,hi⟩:=so hrq.1;have hof:FnP prog 132 [.int .i64 S.rels[k].2[q]] (· =bz (BitVec.twoPow 64 i)):=by rw [hi];exact fi i Po
   refine Il<|Z1 O O ?_;first | refine A2 O Pr ?_ | refine A1 O ?_
   exact A1 O<|Z2 O O O<|Rs 31 O O (ae call132 hof O)<|Rs 32 O O (kW O O)<|A1 O<|Z2 O O O<|⟨(q+1,all|||BitVec.twoPow 64 i),Io (aS O) (aO O) O O,⟨Pv,fun b=>by simp only;rw [N0,hall,Oy,Mg,MF,Ms,Ms,gS hql hi,cH,Ms,Ms];exact or_congr Iff.rfl ⟨fun h=>h.2.symm,fun h=>⟨Po,h.symm⟩⟩⟩,Pv⟩
  ·rw [a6 Po] at hall;refine Gx O<|Z4 O O O O O ?_;refine Gl O (st:=fun x_2:Nat×List B64=>mkS [(3,.osl 1 1 S.attrs.length),(6,.pv (bz all)),(16,.pv (.sl none S.rels.length (bj S.rels))),(17,.pv (.int .i64 S.rels.length)),(18,.pv (.int .i64 k)),(35,.pv (ak S.rels[k].2)),(36,.pv (.int .i64 S.rels[k].2.length)),(37,.pv (.int .i64 x_2.1))] [(1,.cells 191 (kz x_2.2))] 3)
    (I:=fun x_2=>x_2.1<=S.rels[k].2.length/\yV S.attrs.length x_2.2 (fun a b=>decide (a≠b)&&(ou (S.rels.take k) a b||(decide ((a:Int)∈S.rels[k].2.take x_2.1)&&decide ((b:Int)∈S.rels[k].2))))) (μ:=fun x_2=>S.rels[k].2.length-x_2.1) (x0:=(0,G)) (Io (aS O) (aO O) O O) (⟨bk _,hG.congr (fun a _ b=>by simp)⟩) ?_
   rintro ⟨q2,G2⟩ ⟨hq2,hG2⟩;try simp only at hq2 hG2 ⊢
   refine Z1 O O ?_;refine Gp O O (fun hc38=>?_) (fun hc38=>?_)
   ·have hql:q2<S.rels[k].2.length:=Po;have hv:=cE hql;have hne2:=aH hql;have hrq:=hrng _ (aJ hql);obtain ⟨i,hi⟩:=so hrq.1;have hil:i<G2.length:=by rw [hG2.1];omega
    have hgl:=hG2.1;have hvi:=fJ hil;have hof:FnP prog 132 [.int .i64 S.rels[k].2[q2]] (· =bz (BitVec.twoPow 64 i)):=by rw [hi];exact fi i Po
    refine Il<|Z1 O O ?_;first | refine A2 O Pr ?_ | refine A1 O ?_
    refine A1 O<|Ge O follows [0,1,2,3,4,5,6,7,8,9,10] Pp ?_;iterate 2 refine D1 O O ?_
    refine Ds 43 [_] O O O (fun τ h=>aa i underlying186 BC (Ee h 0 O O) (Eo h 0 O O) (Ee h 1 O O) hi Po) O Pp<|Ds 44 [_] O O O (fun τ h=>aC ⟨_,underlying191,O⟩ (Ee h 0 O O) (Eo h 0 O O) hvi) O Pp ?_;iterate 2 refine D1 O O ?_
    refine Ds 47 [] O O O (fun τ h=>ae call132 hof (h.bt O)) O Pp<|Ds 48 [] O O O (fun τ h=>tm (Ee h 0 O O) (Ee h 1 O O)) O Pp<|Ds 49 [] O O O (fun τ h=>kW (Ee h 0 O O) (Ee h 1 O O)) O Pp<|Ds 50 [_] O O O (fun τ h=>aa i underlying186 BC (Ee h 0 O O) (Eo h 0 O O) (Ee h 1 O O) hi Po) O Pp<|DL.step (d:=none) [_] O O O (fun τ h=>aF BC (Ee h 0 O O) (Eo h 0 O O) (Ee h 1 O O) O Pt) O Pp ?_;refine ⟨Pp,?_⟩;exact Z2 O O O<|⟨(q2+1,G2.set i (G2[i]|||(all&&& ~~~(BitVec.twoPow 64 i)))),Io (aS O) ⟨by show some (Ob.cells _ _)=_;simp [NF],Pw⟩ O O,⟨Pv,(hG2.or Po _).congr (fun a _ b=>B5 hql hi hall)⟩,Pv⟩
   ·have hG3:=hG2.congr (q:=fun a b=>decide (a≠b)&&ou (S.rels.take (k+1)) a b) (fun a _ b=>by rw [show S.rels[k].2.take q2=S.rels[k].2 from a6 Po,wO hlt]);exact Gx O<|Z2 O O O<|⟨(k+1,G2),Io (aS O) (aO O) O O,⟨Pv,hG3⟩,Pv⟩
 ·rw [a6 Po] at hG;exact Gx O<|Im (Ir 1 O O)<|Z2 O O O<|Im (St.uQ [2])<|Gt O<|⟨_,_,O,O,G,by show PV.sl none S.attrs.length (kz G)=_;rw [<-hG.1],hG.1,fun a ha b=>by rw [hG.2 a (by rw [<-hG.1];exact ha) b];rfl⟩
theorem ir {G:List B64} {next:B64} {k c:Nat} {near:B64} (h:near.getLsbD c=(List.range k).any fun b=>next.getLsbD b&&(G.getD b 0#64).getLsbD c) (hk:k<G.length):
  (next.getLsbD k=true->(near|||G[k]).getLsbD c=(List.range (k+1)).any fun b=>next.getLsbD b&&(G.getD b 0#64).getLsbD c)/\
  (next.getLsbD k=false->near.getLsbD c=(List.range (k+1)).any fun b=>next.getLsbD b&&(G.getD b 0#64).getLsbD c):=by
 rw [NY,List.any_append,<-h,N0];simp only [List.any_cons,List.any_nil,M7,getD_eq hk];exact ⟨fun e=>by rw [e];simp,fun e=>by rw [e];simp⟩
theorem pj (G:List B64) (hG:G.length<=12) (rest:B64) (a:Nat) (ha:a<64):FnP prog 131 [bS G,bz rest,.int .i64 a] (· =bz (compB G rest a)):=by
 refine FnP.of func131 O ntmps131 Ps fun m0 w0 F R0=>?_
 refine Z1 O O<|Z1 O O<|Rs 13 O O (ae call132 (fi a ha) O)<|A1 O<|Z2 O O O ?_;refine Gl O (st:=fun ac:B64×B64=>mkS [(0,.pv (bS G)),(1,.pv (bz rest)),(7,.pv (bz ac.1)),(8,.pv (bz ac.2))] [] 0)
  (I:=fun ac=>CInv G rest a ac.1 ac.2) (μ:=fun ac=>Cv ac.1 ac.2) (x0:=(BitVec.twoPow 64 a,BitVec.twoPow 64 a)) (Io (aS O) trivial O O) (CInv.first ha) ?_
 rintro ⟨out,next⟩ hI;try simp only at hI ⊢
 refine Z1 O O<|Rs 16 O O (nA (Y:=0#64) O O) ?_;refine Gp O O (fun hc16=>?_) (fun hc16=>?_)
 ·refine Il<|Z1 O O<|Z3 O O O O ?_;refine Gl O (st:=fun x_1:Nat×B64=>mkS [(0,.pv (bS G)),(1,.pv (bz rest)),(7,.pv (bz out)),(8,.pv (bz next)),(9,.pv (bz x_1.2)),(17,.pv (bS G)),(18,.pv (.int .i64 G.length)),(19,.pv (.int .i64 x_1.1))] [] 0)
   (I:=fun x_1=>x_1.1<=G.length/\∀ c,x_1.2.getLsbD c=(List.range x_1.1).any fun b=>next.getLsbD b&&(G.getD b 0#64).getLsbD c) (μ:=fun x_1=>G.length-x_1.1) (x0:=(0,0#64)) (Io (aS O) trivial O O) (⟨bk _,fun c=>by simp⟩) ?_
  rintro ⟨k,near⟩ ⟨hk,hnear⟩;try simp only at hk hnear ⊢
  refine Z1 O O ?_;refine Gp O O (fun hc20=>?_) (fun hc20=>?_)
  ·have hlt:k<G.length:=Po;have hv:=fJ hlt;have hne:=gN hlt;refine Il<|Z2 O O O ?_;first | refine A2 O Pr ?_ | refine A1 O ?_
   refine Y2 O O<|Z2 O O O<|Rs 26 O O (ae call130 (lr next k Po) O) ?_;refine Gc O O (fun hc26=>?_) (fun hc26=>?_)
   ·exact Z2 O O O<|Rs 29 O O (kW O O)<|A1 O<|Z2 O O O<|⟨(k+1,near|||G[k]),Io (aS O) trivial O O,⟨Pv,fun c=>(ir (hnear c) hlt).1 hc26⟩,Pv⟩
   ·exact Il<|Z2 O O O<|⟨(k+1,near),Io (aS O) trivial O O,⟨Pv,fun c=>(ir (hnear c) hlt).2 hc26⟩,Pv⟩
  ·have hkG:k=G.length:=Po;rw [hkG] at hnear;exact Gx O<|Z2 O O O<|Rs 33 O O (nK O O)<|A1 O<|Rs 35 O O (tm O O)<|A1 O<|Z2 O O O<|Rs 38 O O (kW O O)<|A1 O<|⟨(out|||(near&&&rest&&& ~~~out),near&&&rest&&& ~~~out),Io (aS O) trivial O O,hI.next hnear,ET hc16⟩
 ·have hz:next=0#64:=MC hc16;subst hz;exact Gx O<|Z2 O O O<|Gt O<|⟨_,_,O,O,af (fun x=>bz x) hI.last⟩
theorem gU (G:List B64) (rest:B64):∀ k,(compsN G rest k).1.length<=k
 | 0=>xV _
 | k+1=>by
   have:=gU G rest k;simp only [compsN];split
   ·simp;omega
   ·omega
theorem AY (L:List B64) (x:B64):kz (L++[x])=kz L++[bz x]:=Ps
theorem lO (G:List B64) (hG:G.length<=12) (rest:B64):FnP prog 182 [bS G,bz rest] (· =bS (compsN G rest G.length).1):=by
 refine FnP.of func182 O ntmps182 Ps fun m0 w0 F R0=>?_
 refine Z1 O O<|Z1 O O<|Im (Iu 5 0 1 191 O O)<|Z3 O O O O ?_;refine Gl O (st:=fun ac:Nat×List B64×B64=>mkS [(0,.pv (bS G)),(1,.pv (bz ac.2.2)),(5,.gsl 0 1 ac.2.1.length),(9,.pv (.int .i64 G.length)),(10,.pv (.int .i64 ac.1))] [(0,.gro 191 (kz ac.2.1))] 1)
  (I:=fun ac=>ac.1<=G.length/\compsN G rest ac.1=(ac.2.1,ac.2.2)) (μ:=fun ac=>G.length-ac.1) (x0:=(0,[],rest)) (Io (aS O) (aO O) O O) (⟨bk _,O⟩) ?_
 rintro ⟨k,L,R⟩ ⟨hk,hc⟩;try simp only at hk hc ⊢
 refine Z1 O O ?_;refine Gp O O (fun hc11=>?_) (fun hc11=>?_)
 ·have hlt:k<G.length:=Po;have hsl:(kz L).length=L.length*1:=Ps;have hLl:L.length<=k:=by have:=gU G rest k;rw [hc] at this;exact this
  have hn:compsN G rest (k+1)=if R.getLsbD k=true then (L++[compB G R k],R&&& ~~~compB G R k) else (L,R):=by simp only [compsN,hc]
  refine Il<|Z2 O O O<|Z2 O O O<|Rs 15 O O (ae call130 (lr R k Po) O) ?_;refine Gc O O (fun hc15=>?_) (fun hc15=>?_)
  ·rw [qY hc15] at hn;refine Z3 O O O O<|Rs 19 O O (ae call131 (pj G hG R k Po) O)<|A1 O<|Gr O ?_;iterate 5 refine A1 O ?_
   exact Z2 O O O<|Rs 26 O O (tm O O)<|A1 O<|Z2 O O O<|⟨(k+1,L++[compB G R k],R&&& ~~~compB G R k),Ip [2] ⟨O,O,by simp;rfl,O,O,Pw⟩ ⟨af (fun c=>some (Ob.gro 191 c)) (AY L _).symm,Pw⟩ O O Pq O,⟨Pv,hn⟩,Pv⟩
  ·rw [kH (by rw [hc15];decide)] at hn;exact Il<|Z2 O O O<|⟨(k+1,L,R),Io (aS O) (aO O) O O,⟨Pv,hn⟩,Pv⟩
 ·exact Gx O<|Im (Ir 0 O O)<|Z2 O O O<|Gt O<|⟨_,_,O,O,by rw [show G.length=k by omega,hc];simp;rfl⟩
end
section
open Mk
section
variable {C:Ctx} {n:Nat} {σ τ:St} {ops:Array Oper} {dst:Option Tmp} {ty:TypeId} {ts:Array TypeId} {pos:String} {after:Array Edge} {gd:Option (Nat×Bool)}
theorem Agr.e9 {s:OS} {rd:List Nat} {y:Operand} {xs:Array Operand} (h:Agr n ops ⟨dst,.call { callee:= .value y,args:=xs,argTypes:=ts },ty,pos,after,gd⟩ σ τ s rd):xs.toList.map (τ.ev n)=xs.toList.map (σ.ev n):=by
 apply Mr;intro x hx;obtain ⟨i,hi⟩:=Nk hx;exact h.e (i+1) x (by simpa [Op.operands,Call.operands,ON] using hi)
theorem bJ {f:FuncId} {xs:Array Operand} {y:Operand} {fs cs:List V} {args:List V} {os:List (Nat×Ob)} {k':Nat} {r:V} {X:Nat->Option Ob} {vs:List V} (ids:List Nat) (base:Nat) (hc:bN C.P f) (hf:FnO C.P f ids.length k' args os (fun v ob'=>v=r/\ob'=X)) (hy:σ.ev n y= .fn (.func f) fs cs) (hxs:xs.toList.map (σ.ev n)=vs) (hargs:fs++vs++cs=V.renL (cm ids base) args)
  (ha:V.allL (okR ids.length 0) args=true) (hos:os.map (·.1)=(List.range ids.length).map (big+ ·)) (hob:os.all (fun p=>p.2.all (okR ids.length 0))=true) (hobs:dD σ (cm ids base) os)
  (hnd:ids.Nodup) (hav:(nwO base k').all σ.av=true):
  XJ C n ⟨dst,.call { callee:= .value y,args:=xs,argTypes:=ts },ty,pos,after,gd⟩ σ ⟨r.ren (cm ids base),wrO ids base k' X,nwO base k'⟩:=
 pf ids base hc hy (by rw [hxs];exact hargs) ha hos hob hobs hnd hav hf (by rintro _ _ ⟨rfl,rfl⟩;rfl)
end
def dd (q:List Int) (W:B64->Int->List Int->List Int) (par:Int) (P:List Int) (c:B64):List Int:=
 match q.find? (fun a=>c.getLsbD a.toNat) with
 | some a=>W (c&&& ~~~(BitVec.twoPow 64 a.toNat)) a (P.set a.toNat par)
 | none=>P
noncomputable def placeF (G:List B64) (q:List Int):Nat->B64->Int->List Int->List Int
 | 0,_,_,P=>P
 | f+1,rest,par,P=>(compsN G rest G.length).1.foldl (dd q (placeF G q f) par) P
abbrev plF (G:List B64) (q:List Int):V:= .fn (.func 255) [] [.pv (.rp [bS G] 0),.pv (.rp [ak q] 0),.ptr big 0,.ptr 9001 0]
abbrev plA (G:List B64) (q:List Int) (rest:B64) (par:Int):List V:=[.pv (bz rest),.pv (.int .i64 par),.pv (.rp [bS G] 0),.pv (.rp [ak q] 0),.ptr big 0,.ptr 9001 0]
abbrev plO (G:List B64) (q:List Int) (P:List Int):List (Nat×Ob):=[(big,.mix 271 [.osl 9002 1 G.length]),(9001,.mix 295 [plF G q]),(9002,EW P)]
theorem z6 {q:List Int} {p:Int->Bool} {k:Nat} (hk:k<q.length) (hno:q.take k |>.all (fun a=> !p a)) (h:p q[k]=true):q.find? p=some q[k]:=by
 rw [List.find?_eq_some_iff_append];refine ⟨h,q.take k,q.drop (k+1),?_,fun a ha=>uv.1 hno a ha⟩
 conv=>lhs;rw [<-M6 k q]
 rw [Mf hk]
theorem lZ (G:List B64) (hG:G.length<=12) (q:List Int) (hq:∀ a∈q,0<=a/\a<G.length) (hql:q.length<=1000) (W:B64->Int->List Int->List Int) (hWl:∀ r p P,(W r p P).length=P.length) (rest:B64) (par:Int)
  (hrec:∀ c∈(compsN G rest G.length).1,∀ (a:Nat) (P:List Int),a<G.length->c.getLsbD a=true->P.length=G.length->FnO prog 255 3 0 (plA G q (c&&& ~~~(BitVec.twoPow 64 a)) a) (plO G q P) (fun r ob'=>r= .tup []/\ob'=ar (plO G q (W (c&&& ~~~(BitVec.twoPow 64 a)) a P))))
  (P:List Int) (hP:P.length=G.length):
  FnO prog 255 3 0 (plA G q rest par) (plO G q P) (fun r ob'=>r= .tup []/\ob'=ar (plO G q ((compsN G rest G.length).1.foldl (dd q W par) P))):=by
 refine FnO.of func255 O ntmps255 Ps fun m0 w0 F R0=>?_
 have hcl:=gU G rest G.length;have hlen:∀ (Q:List Int) c,(dd q W par Q c).length=Q.length:=by
  intro Q c;unfold dd;split
  ·rw [hWl];simp
  ·rfl
 refine Gr O ?_;first | refine A1 O ?_ | refine A2 O Pr ?_
 refine A1 O<|Rs 14 O O (ae call182 (lO G hG rest) O)<|Y2 O O ?_;refine Gl O (st:=fun ac:Nat×List Int=>mkS [(1,.pv (.int .i64 par)),(3,.pv (.rp [ak q] 0)),(4,.ptr big 0),(5,.ptr 9001 0),(14,.pv (bS (compsN G rest G.length).1)),(15,.pv (.int .i64 (compsN G rest G.length).1.length)),(16,.pv (.int .i64 ac.1))] [(big,.mix 271 [.osl 9002 1 G.length]),(9001,.mix 295 [plF G q]),(9002,EW ac.2)] 0)
  (I:=fun ac=>ac.1<=(compsN G rest G.length).1.length/\ac.2.length=P.length/\ac.2=((compsN G rest G.length).1.take ac.1).foldl (dd q W par) P) (μ:=fun ac=>(compsN G rest G.length).1.length-ac.1) (x0:=(0,P)) (Io (aS O) (aO O) O O) (⟨bk _,O,O⟩) ?_
 rintro ⟨k,Q⟩ ⟨hk,hQl,hQ⟩;try simp only at hk hQl hQ ⊢
 refine Z1 O O ?_;refine Gp O O (fun hc17=>?_) (fun hc17=>?_)
 ·have hlt:k<(compsN G rest G.length).1.length:=Po;have hv:=fJ hlt;have hne:=gN hlt;have hcm:=aJ hlt;have hfs:((compsN G rest G.length).1.take (k+1)).foldl (dd q W par) P=dd q W par Q (compsN G rest G.length).1[k]:=by rw [bT hlt,Na,<-hQ];rfl
  generalize hcd:(compsN G rest G.length).1[k]=c at*;refine Il<|Z1 O O ?_;first | refine A2 O Pr ?_ | refine A1 O ?_
  refine A1 O<|Gr O ?_;first | refine A1 O ?_ | refine A2 O Pr ?_
  refine Y2 O O ?_;refine Gl O (st:=fun x_1:Nat=>mkS [(1,.pv (.int .i64 par)),(3,.pv (.rp [ak q] 0)),(4,.ptr big 0),(5,.ptr 9001 0),(9,.pv (bz c)),(14,.pv (bS (compsN G rest G.length).1)),(15,.pv (.int .i64 (compsN G rest G.length).1.length)),(16,.pv (.int .i64 k)),(20,.pv (ak q)),(21,.pv (.int .i64 q.length)),(22,.pv (.int .i64 x_1))] [(big,.mix 271 [.osl 9002 1 G.length]),(9001,.mix 295 [plF G q]),(9002,EW Q)] 0)
   (I:=fun x_1=>x_1<=q.length/\(q.take x_1).all (fun a=> !c.getLsbD a.toNat)=true) (μ:=fun x_1=>q.length-x_1) (x0:=(0)) (Io (aS O) (aO O) O O) (⟨bk _,O⟩) ?_
  rintro j ⟨hj,hno⟩;refine Z1 O O ?_;refine Gp O O (fun hc23=>?_) (fun hc23=>?_)
  ·have hjl:j<q.length:=Po;have hvj:=cE hjl;have hnej:=aH hjl;have hqj:=hq _ (aJ hjl);obtain ⟨a,ha⟩:=so hqj.1;have hat:q[j].toNat=a:=Po;have hhas:FnP prog 130 [bz c,.int .i64 q[j]] (· = .bool (c.getLsbD a)):=by rw [ha];exact lr c a Po
   have hof:FnP prog 132 [.int .i64 q[j]] (· =bz (BitVec.twoPow 64 a)):=by rw [ha];exact fi a Po
   refine Il<|Z1 O O ?_;first | refine A2 O Pr ?_ | refine A1 O ?_
   refine A1 O<|Z2 O O O<|Rs 28 O O (ae call130 hhas O) ?_;refine Gc O O (fun hc28=>?_) (fun hc28=>?_)
   ·have hgo:=hrec c hcm a (Q.set a par) Po hc28 Pt;have hpl:dd q W par Q c=W (c&&& ~~~(BitVec.twoPow 64 a)) a (Q.set a par):=by unfold dd;rw [z6 hjl hno (by rw [hat];exact hc28)];simp only [hat,ha,Mb]
    have hlW:(W (c&&& ~~~(BitVec.twoPow 64 a)) a (Q.set a par)).length=P.length:=by rw [hWl];simp;omega
    have hset:aE (Q.set a par)=(aE Q).set (a*1) (.int .i64 par):=by simp [NF]
    refine Z1 O O ?_;first | refine A1 O ?_ | refine A2 O Pr ?_
    refine Y2 O O<|Rs 33 O O (aa a underlying22 sz3 O O O ha Po)<|RL.step (d:=none) O O (aF sz3 O O O O Pt)<|Ge O follows [0,1,2,3,4,5,6] Pp ?_;first | refine D1 O O ?_ | refine D2 O O Pr ?_
    iterate 2 refine D1 O O ?_
    refine Ds 37 [] O O O (fun τ h=>ae call132 hof (h.bt O)) O Pp<|Ds 38 [] O O O (fun τ h=>tm (Ee h 0 O O) (Ee h 1 O O)) O Pp<|D1 O O<|Ds 40 [big,9001,9002] O O O (fun τ h=>bJ [big,9001,9002] 0 call255 hgo (Ee h 0 O O) (h.e9.trans O) (by rw [<-ha];rfl) O O O ⟨(Eo h 0 O O),(Eo h 1 O O),((h.o 2 _ O).trans (af (fun c=>some (Ob.cells 3 c)) hset.symm)),Pw⟩ Pq O) O Pp ?_;refine ⟨Pp,?_⟩;exact Gx O<|Z2 O O O<|⟨(k+1,W (c&&& ~~~(BitVec.twoPow 64 a)) a (Q.set a par)),Io (aS O) (aO O) O O,⟨Pv,hlW,by simp only;rw [hfs,hpl]⟩,Pv⟩
   ·exact Il<|Z2 O O O<|⟨(j+1),Io (aS O) (aO O) O O,⟨Po,BE hjl hno (by rw [hat,hc28];rfl)⟩,Po⟩
  ·have hnone:q.find? (fun a=>c.getLsbD a.toNat)=none:=by rw [a6 Po] at hno;rw [List.find?_eq_none];intro x hx;have:=uv.1 hno x hx;simpa using this
   have hpl:dd q W par Q c=Q:=by unfold dd;rw [hnone]
   exact Gx O<|Z2 O O O<|⟨(k+1,Q),Io (aS O) (aO O) O O,⟨Pv,hQl,by simp only;rw [hfs,hpl]⟩,Pv⟩
 ·exact Gx O<|⟨[],plO G q ((compsN G rest G.length).1.foldl (dd q W par) P),[],Io trivial (by rw [a6 Po] at hQ;rw [<-hQ];exact ⟨Pp,Pp,Pp,Pw⟩) O O,O,O,O,O,O⟩
theorem kr {G:List B64} {R:B64} {a i:Nat} (ha:R.getLsbD a=true) (h:(compB G R a).getLsbD i=true):R.getLsbD i=true:=by
 cases dG h with
 | refl=>exact ha
 | step _ _ h=>exact h
theorem ky (G:List B64) (rest:B64):∀ k,(∀ i,(compsN G rest k).2.getLsbD i=true->rest.getLsbD i=true)/\∀ c∈(compsN G rest k).1,∀ i,c.getLsbD i=true->rest.getLsbD i=true
 | 0=>⟨fun _ h=>h,fun c hc=>by simp [compsN] at hc⟩
 | k+1=>by
   obtain ⟨h1,h2⟩:=ky G rest k;simp only [compsN];split
   ·rename_i hk;refine ⟨fun i hi=>?_,fun c hc i hi=>?_⟩
    ·rw [NN,cH] at hi;exact h1 i hi.1
    ·rcases Mc.1 hc with h | h
     ·exact h2 c h i hi
     ·rw [o7.1 h] at hi;exact h1 i (kr hk hi)
   ·exact ⟨h1,h2⟩
def cC (x:B64):Nat:=(List.range 64).countP fun i=>x.getLsbD i
theorem pb {x y:B64} (h:∀ i,x.getLsbD i=true->y.getLsbD i=true) {j:Nat} (h1:x.getLsbD j=false) (h2:y.getLsbD j=true):cC x<cC y:=
 lx (fun a _ ha=>h a ha) ⟨j,Mx.2 (cq h2),h1,h2⟩
theorem bA (c:B64) (a i:Nat):(c&&& ~~~(BitVec.twoPow 64 a)).getLsbD i=(c.getLsbD i&&decide (a≠i)):=by
 rw [NN,BitVec.getLsbD_not,Oy];by_cases hi:i<64
 ·by_cases e:a=i
  ·subst e;simp [hi]
  ·simp [hi,e]
 ·rw [BitVec.getLsbD_of_ge c i Po];rfl
theorem tO {G:List B64} {rest c:B64} {k a:Nat} (hc:c∈(compsN G rest k).1) (ha:c.getLsbD a=true):cC (c&&& ~~~(BitVec.twoPow 64 a))<cC rest:=by
 have hs:=(ky G rest k).2 c hc;refine pb (fun i hi=>?_) (j:=a) ?_ (hs a ha)
 ·rw [bA,cH] at hi;exact hs i hi.1
 ·rw [bA];simp
theorem oh {x:B64} (h:cC x=0) (i:Nat):x.getLsbD i=false:=by
 cases e:x.getLsbD i with
 | false=>rfl
 | true=>
   have:=List.countP_eq_zero.1 h i (Mx.2 (cq e));exact absurd e this
theorem mN (G:List B64) {rest:B64} (h:∀ i,rest.getLsbD i=false):∀ k,compsN G rest k=([],rest)
 | 0=>rfl
 | k+1=>by simp only [compsN,mN G h k,h k];simp
theorem iv (G:List B64) (q:List Int):∀ (f:Nat) (rest:B64) (par:Int) (P:List Int),(placeF G q f rest par P).length=P.length
 | 0,_,_,_=>rfl
 | f+1,rest,par,P=>by
   simp only [placeF];generalize (compsN G rest G.length).1=cs;induction cs generalizing P with
   | nil=>rfl
   | cons c cs ih=>
     rw [MG,ih];unfold dd;split
     ·rw [iv G q f];simp
     ·rfl
theorem rf (G:List B64) (hG:G.length<=12) (q:List Int) (hq:∀ a∈q,0<=a/\a<G.length) (hql:q.length<=1000):∀ (f:Nat) (rest:B64) (par:Int) (P:List Int),cC rest<=f->P.length=G.length->
  FnO prog 255 3 0 (plA G q rest par) (plO G q P) (fun r ob'=>r= .tup []/\ob'=ar (plO G q (placeF G q f rest par P)))
 | 0,rest,par,P,hf,hP=>by
   have hz:=mN G (oh (Nat.le_zero.1 hf)) G.length;have:=lZ G hG q hq hql (fun _ _ P=>P) (fun _ _ _=>rfl) rest par (by rw [hz];intro c hc;cases hc) P hP;rw [hz] at this;exact this
 | f+1,rest,par,P,hf,hP=>lZ G hG q hq hql (placeF G q f) (iv G q f) rest par (fun c hc a P' ha hca hP'=>rf G hG q hq hql f _ _ P' (by have:=tO hc hca;omega) hP') P hP
theorem jk (x:B64):cC x<=64:=AT List.countP_le_length Ps
noncomputable def ofL (G:List B64) (q:List Int):List Int:=placeF G q 64 (gI G.length) (-1) (List.replicate G.length 0)
theorem Bf (G:List B64) (q:List Int):(ofL G q).length=G.length:=by unfold ofL;rw [iv];simp
theorem yn (S:Sch) (hS:SB S) (hV:Valid S) (q:List Int) (hq:∀ a∈q,0<=a/\a<S.attrs.length) (hql:q.length<=1000):FnP prog 226 [gK S,ak q] (fun v=>∃ G,IsG S G/\v=Fe (ofL G q)):=by
 refine FnP.fg2 (FnP.ofC func226 O ntmps226 Ps fun m0 w0 F R0=>?_);have hn12:=hV.n2;refine Z3 O O O O<|Z1 O O ?_;refine RL.call O (dE call127 (iE S hS hV) O ?_);rintro _ ⟨G,rfl,hG⟩;have hGl:=hG.len;refine Y2 O O<|Gr O ?_;iterate 6 refine A1 O ?_
 refine Z1 O O<|Im (St.fS 1 O O)<|Im (St.fS 3 O O) ?_;have hgo:=rf G Po q (by rw [hGl];exact hq) hql 64 (gI G.length) (-1) (List.replicate G.length 0) (jk _) Ps;refine Z2 O O O<|Ge O follows [0,1,2,3] Pp ?_;iterate 2 refine D1 O O ?_
 refine Ds 17 [] O O O (fun τ h=>ae call128 (qh G Po) (h.bt O)) O Pp<|Ds 18 [5,6,4] O O O (fun τ h=>bJ [5,6,4] 7 call255 hgo (Ee h 0 O O) (h.e9.trans O) O O O O ⟨(Eo h 0 O O),(Eo h 1 O O),((h.o 2 _ O).trans (af (fun c=>some (Ob.cells 3 c)) ((ct (.int .i64 0) (G.length*1)).trans Ps))),Pw⟩ Pq O) O Pp ?_;refine ⟨Pp,?_⟩;exact Z2 O O O<|Gt O<|⟨_,_,O,O,⟨aY ⟨_,underlying271,O⟩ sz271 O O O,Pw⟩,G,hG,by show PV.agg [.sl none G.length (aE (ofL G q))]=_;rw [Fe,ak,Bf]⟩
end
section
open Mk
noncomputable def gr (S:Sch):List B64:=(List.range S.attrs.length).map fun a=>bitsOf fun b=>decide (a≠b)&&eS S a b
theorem fR (S:Sch):(gr S).length=S.attrs.length:=by simp [gr]
theorem ow {S:Sch} (hV:Valid S) {a b:Int} (h:eS S a b=true):(0<=a/\a<S.attrs.length)/\(0<=b/\b<S.attrs.length):=by
 unfold eS at h;obtain ⟨r,hr,h2⟩:=My.1 h;simp at h2;exact ⟨hV.rng r hr a h2.1,hV.rng r hr b h2.2⟩
theorem pC {S:Sch} (hV:Valid S) {a:Nat} (ha:a<S.attrs.length) (b:Nat):((gr S).getD a 0#64).getLsbD b=(decide (a≠b)&&eS S a b):=by
 have e:(gr S).getD a 0#64=bitsOf fun b=>decide (a≠b)&&eS S a b:=by simp [gr,List.getD,ha]
 rw [e];by_cases hb:b<64
 ·rw [fN _ hb]
 ·rw [BitVec.getLsbD_of_ge _ _ Po];cases hl:eS S a b with
  | false=>simp
  | true=>have:=(ow hV hl).2;have:=hV.n2;omega
theorem uw {S:Sch} (hV:Valid S) {G:List B64} (h:IsG S G):G=gr S:=by
 apply MJ
 ·rw [h.len,fR]
 ·intro a h1 h2;apply NL;intro b _;have e1:=h.bit a h1 b;have e2:=pC hV (a:=a) (by rw [<-h.len];exact h1) b;rw [getD_eq h1] at e1;rw [getD_eq h2] at e2;rw [e1,e2]
noncomputable def ordL (S:Sch) (q:List Int):List Int:=ofL (gr S) q
theorem Gu (S:Sch) (hS:SB S) (hV:Valid S) (q:List Int) (hq:∀ a∈q,0<=a/\a<S.attrs.length) (hql:q.length<=1000):FnP prog 226 [gK S,ak q] (· =Fe (ordL S q)):=
 (yn S hS hV q hq hql).mono fun v ⟨G,hG,e⟩=>by rw [e,uw hV hG];rfl
def dupB (q:List Int):Nat->Bool
 | 0=>false
 | k+1=>dupB q k||decide (q.getD k 0∈q.take k)
def ofE (S:Sch) (q:List Int):Int:=
 if cI S≠0 then cI S
 else if q.length≠S.attrs.length then 5
 else if (q.any fun a=>decide (a<0)||decide (a>=(q.length:Int)))=true then 2
 else if dupB q q.length=true then 9 else 0
noncomputable def ofV (S:Sch) (q:List Int):PV:= .tup [Fe (if ofE S q=0 then ordL S q else []),.int .i64 (ofE S q)]
end
section
theorem cu {α:Type} [DecidableEq α] {l r:List α} (hl:l.Nodup) (hr:r.Nodup) (h:∀ a,a∈l↔a∈r):l.Perm r:=by
 rw [List.perm_iff_count];intro a;rw [hl.count,hr.count];by_cases e:a∈l
 ·rw [qY e,qY ((h a).1 e)]
 ·rw [kH e,kH (fun x=>e ((h a).2 x))]
theorem bx {n:Nat} {x:Int}:x∈upZ n↔∃ a:Nat,a<n/\x=(a:Int):=by
 unfold upZ;rw [IT];constructor
 ·rintro ⟨a,ha,rfl⟩;exact ⟨a,Mx.1 ha,O⟩
 ·rintro ⟨a,ha,rfl⟩;exact ⟨a,Mx.2 ha,O⟩
theorem cJ (n:Nat):(upZ n).Nodup:=by
 unfold upZ;exact List.Pairwise.map _ (fun a b h e=>h (Int.ofNat.inj e)) List.nodup_range
theorem Hj (n:Nat):(upZ n).Pairwise (· < ·):=by
 unfold upZ;exact List.Pairwise.map _ (fun a b h=>by simpa using h) List.pairwise_lt_range
structure UpOk (P:List Int):Prop where
 rng:∀ p∈P, -1<=p/\p<P.length
 up:∀ v,v<P.length->(abv P (v:Int)).isSome=true
theorem uG {P:List Int}:∀ {k:Nat} {x:Int} {l:List Int},upF P k x=some l->upF P (k+1) x=some l
 | 0,x,l,h=>by
   simp only [upF] at h ⊢;split at h
   ·rename_i hx;rw [qY hx];exact h
   ·cases h
 | k+1,x,l,h=>by
   simp only [upF] at h;unfold upF;split at h
   ·rename_i hx;rw [qY hx];exact h
   ·rename_i hx;rw [kH hx];cases e:upF P k (P.getD x.toNat 0) with
    | none=>rw [e] at h;cases h
    | some l'=>
      rw [e] at h;rw [uG e];exact h
section
variable {P:List Int} (hP:UpOk P)
include hP
theorem qE {v:Nat} (hv:v<P.length):P[v]= -1\/∃ a:Nat,a<P.length/\P[v]=(a:Int):=by
 have:=hP.rng _ (aJ hv);by_cases h:P[v]= -1
 ·exact .inl h
 ·obtain ⟨a,ha⟩:=so (show 0<=P[v] by omega);exact .inr ⟨a,Po,ha⟩
omit hP in
theorem uR {v:Nat} (hv:v<P.length):abv P v=upF P P.length P[v]:=by simp [abv,List.getD,hv]
omit hP in
theorem eJ {v:Nat} (hv:v<P.length) (h:P[v]= -1):bp P v=[]:=by
 unfold bp;rw [uR hv,h,sW Pq];rfl
theorem ik {v a:Nat} (hv:v<P.length) (ha:a<P.length) (h:P[v]=(a:Int)):bp P v=(a:Int)::bp P a:=by
 have hs:=hP.up v hv;have e:=uR hv;rw [h] at e;obtain ⟨k,hk⟩:∃ k,P.length=k+1:=⟨P.length-1,Po⟩;rw [hk,ym ha] at e;cases e2:upF P k P[a] with
 | none=>rw [e,e2] at hs;cases hs
 | some l=>
   have e3:abv P a=some l:=by rw [uR ha,hk];exact uG e2
   unfold bp;rw [e,e2,e3];rfl
theorem pt {motive:Nat->Prop} (root:∀ v (hv:v<P.length),P[v]= -1->bp P v=[]->motive v)
  (step:∀ v (hv:v<P.length) a (_:a<P.length),P[v]=(a:Int)->bp P v=(a:Int)::bp P a->motive a->motive v):∀ v,v<P.length->motive v:=by
 have key:∀ m v,v<P.length->(bp P v).length<=m->motive v:=by
  intro m;induction m with
  | zero=>
    intro v hv hl;rcases qE hP hv with h | ⟨a,ha,h⟩
    ·exact root v hv h (eJ hv h)
    ·rw [ik hP hv ha h] at hl;simp at hl
  | succ m ih=>
    intro v hv hl;rcases qE hP hv with h | ⟨a,ha,h⟩
    ·exact root v hv h (eJ hv h)
    ·have e:=ik hP hv ha h;rw [e] at hl;exact step v hv a ha h e (ih a ha (by simpa using hl))
 exact fun v hv=>key _ v hv (xV _)
theorem gE:∀ v,v<P.length->∀ x∈bp P v,∃ a:Nat,a<P.length/\x=(a:Int)/\∃ pre,bp P v=pre++(a:Int)::bp P a:=by
 refine pt hP (fun v hv h e x hx=>?_) (fun v hv a ha h e ih x hx=>?_)
 ·rw [e] at hx;cases hx
 ·rw [e] at hx ⊢;rcases sh.1 hx with rfl | hx
  ·exact ⟨a,ha,O,[],O⟩
  ·obtain ⟨b,hb,rfl,pre,e2⟩:=ih x hx;exact ⟨b,hb,O,(a:Int)::pre,by rw [e2];rfl⟩
theorem ED {v a:Nat} (hv:v<P.length) (h:(a:Int)∈bp P v):a<P.length/\(bp P a).length<(bp P v).length:=by
 obtain ⟨b,hb,e,pre,e2⟩:=gE hP v hv _ h;have:a=b:=Po;subst this;refine ⟨hb,?_⟩;rw [e2];simp;omega
theorem jl {v:Nat} (hv:v<P.length):(v:Int)∉bp P v:=fun h=>Nat.lt_irrefl _ (ED hP hv h).2
theorem fH {a b c:Nat} (hc:c<P.length) (h1:(a:Int)∈bp P b) (h2:(b:Int)∈bp P c):(a:Int)∈bp P c:=by
 obtain ⟨b',hb,e,pre,e2⟩:=gE hP c hc _ h2;have:b=b':=Po;subst this;rw [e2];exact N9 _ (L7 _ h1)
theorem fP:∀ v,v<P.length->((v:Int)::bp P v).Nodup:=by
 refine pt hP (fun v hv h e=>by rw [e];simp) (fun v hv a ha h e ih=>?_);rw [NO];refine ⟨jl hP hv,?_⟩;rw [e];exact ih
theorem kB:∀ v,v<P.length->((v:Int)::bp P v).map (fun a=>P.getD a.toNat 0)=bp P v++[-1]:=by
 refine pt hP (fun v hv h e=>?_) (fun v hv a ha h e ih=>?_)
 ·rw [e];simp [List.getD,hv,h]
 ·rw [e,oy,ih];simp [List.getD,hv,h]
theorem gB {v:Nat} (hv:v<P.length) {x:Int} (h:x∈(v:Int)::bp P v):∃ a:Nat,a<P.length/\x=(a:Int):=by
 rcases sh.1 h with rfl | h
 ·exact ⟨v,hv,O⟩
 ·obtain ⟨a,ha,e,_⟩:=gE hP v hv x h;exact ⟨a,ha,e⟩
theorem pG {v:Nat} (hv:v<P.length):(bp P v++[-1]).Nodup:=by
 rw [List.nodup_append];refine ⟨(NO.1 (fP hP v hv)).2,Ps,?_⟩;intro a ha b hb;rw [o7.1 hb];obtain ⟨c,_,rfl⟩:=gB hP hv (L7 _ ha);omega
omit hP in
theorem yu {α:Type} (p:α->Bool):∀ l:List α,(l.map fun a=>if p a=true then 1 else 0).sum=l.countP p
 | []=>rfl
 | a::l=>by rw [oy,O6,yu p l,List.countP_cons];omega
theorem jm {v:Nat} (hv:v<P.length):((upZ P.length).filter fun a=>decide (a∈(v:Int)::bp P v)).Perm ((v:Int)::bp P v):=by
 refine cu (Nd Ns (cJ _)) (fP hP v hv) fun a=>?_
 rw [L9,Ms,bx];exact ⟨fun h=>h.2,fun h=>⟨gB hP hv h,h⟩⟩
theorem iO:∀ (f:Nat) (v:Int),(∀ a (ha:a<P.length),P[a]=v->P.length+1<=(bp P a).length+f)->∀ x,x<P.length->(fy P f v).count (x:Int)=if v∈bp P x++[-1] then 1 else 0:=by
 intro f;induction f with
 | zero=>
   intro v hf x hx;rw [kH]
   ·rfl
   ·intro hm;rw [<-kB hP x hx] at hm;obtain ⟨a,ha,e⟩:=IT.1 hm;obtain ⟨b,hb,rfl⟩:=gB hP hx ha;have h1:=hf b hb (by simpa [List.getD,hb] using e);have:=vg P (b:Int);omega
 | succ f ih=>
   intro v hf x hx;have term:∀ a∈upZ P.length,(List.count (x:Int)∘fun a=>if P.getD a.toNat 0=v then a::fy P f a else []) a=if (decide (P.getD a.toNat 0=v)&&decide (a∈(x:Int)::bp P x))=true then 1 else 0:=by
    intro a ha;obtain ⟨b,hb,rfl⟩:=bx.1 ha;have hgd:P.getD (b:Int).toNat 0=P[b]:=by simp [List.getD,hb]
    simp only [Function.comp,hgd];by_cases e:P[b]=v
    ·rw [qY e,List.count_cons,ih (b:Int) ?_ x hx]
     ·simp only [e,decide_true,NX,L6,sh,Mc,o7];by_cases e1:b=x
      ·subst e1;rw [kH]
       ·simp
       ·rintro (h | h)
        ·exact jl hP hb h
        ·simp at h
      ·have e2:¬ (b:Int)=x:=Po;have e3:¬ (b:Int)= -1:=Po;have e4:((b:Int)==(x:Int))=false:=by simpa using e2
       simp [e2,e3,e4]
     ·intro c hc hcb;have h1:=hf b hb e;rw [ik hP hc hb hcb];simp;omega
    ·rw [kH e];simp [e]
   unfold fy;rw [List.count_flatMap,Mr term,yu,<-List.countP_filter,(jm hP hx).countP_eq];have e1:List.countP (fun a=>decide (P.getD a.toNat 0=v)) ((x:Int)::bp P x)=List.count v (((x:Int)::bp P x).map fun a=>P.getD a.toNat 0):=by
    rw [List.count,List.countP_map];refine List.countP_congr fun a _=>?_
    simp
   rw [e1,kB hP x hx,(pG hP hx).count]
omit hP in
theorem jN:∀ (f:Nat) (v:Int),∀ x∈fy P f v,∃ a:Nat,a<P.length/\x=(a:Int)
 | 0,v,x,hx=>by simp [fy] at hx
 | f+1,v,x,hx=>by
   simp only [fy] at hx;obtain ⟨a,ha,hx⟩:=Mq.1 hx;split at hx
   ·rcases sh.1 hx with rfl | hx
    ·exact bx.1 ha
    ·exact jN f a x hx
   ·cases hx
def aD (P:List Int):List Int:=fy P (P.length+1) (-1)
theorem cf:(aD P).Perm (upZ P.length):=by
 rw [List.perm_iff_count];intro x;rw [(cJ _).count];by_cases h:x∈upZ P.length
 ·rw [qY h];obtain ⟨a,ha,rfl⟩:=bx.1 h;unfold aD;rw [iO hP _ _ (fun b hb e=>by omega) a ha,qY Ps]
 ·rw [kH h,List.count_eq_zero];exact fun hx=>h (bx.2 (jN _ _ x hx))
end
def Bef (P:List Int) (v:Int) (w:List Int):Prop:=∀ pre x post,w=pre++x::post->P.getD x.toNat 0=v\/P.getD x.toNat 0∈pre
theorem Bef.nil {P:List Int} {v:Int}:Bef P v []:=fun pre x post h=>by simp at h
theorem Bef.append {P:List Int} {v:Int} {w1 w2:List Int} (h1:Bef P v w1) (h2:Bef P v w2):Bef P v (w1++w2):=by
 intro pre x post e;rcases List.append_eq_append_iff.1 e with ⟨us,e1,e2⟩ | ⟨bs,e1,e2⟩
 ·rcases h2 us x post e2 with h | h
  ·exact .inl h
  ·right;rw [e1];exact N9 _ h
 ·cases bs with
  | nil=>
    simp at e1 e2;rcases h2 [] x post (by simpa using e2.symm) with h | h
    ·exact .inl h
    ·cases h
  | cons b bs=>
    simp at e2;exact h1 pre x bs (by rw [e1,<-e2.1])
theorem Bef.cons {P:List Int} {v a:Int} {w:List Int} (ha:P.getD a.toNat 0=v) (h:Bef P a w):Bef P v (a::w):=by
 intro pre x post e;cases pre with
 | nil=>simp at e;rw [<-e.1];exact .inl ha
 | cons b pre=>
   simp at e;rcases h pre x post e.2 with h | h
   ·right;rw [h,e.1];exact Nw ..
   ·right;exact L7 _ h
theorem Bef.flat {P:List Int} {v:Int} {f:Int->List Int}:∀ {l:List Int},(∀ a∈l,Bef P v (f a))->Bef P v (l.flatMap f)
 | [],_=>Bef.nil
 | a::l,h=>by
   rw [M8];exact (h a (Nw ..)).append (Bef.flat fun b hb=>h b (L7 _ hb))
theorem uo (P:List Int):∀ (f:Nat) (v:Int),Bef P v (fy P f v)
 | 0,_=>Bef.nil
 | f+1,v=>by
   unfold fy;refine Bef.flat fun a _=>?_
   split
   ·rename_i h;exact Bef.cons h (uo P f a)
   ·exact Bef.nil
theorem Bi {P:List Int} (hP:UpOk P) {i:Nat} (hi:i<(aD P).length):(aD P)[i]∉(aD P).take i/\(P.getD (aD P)[i].toNat 0= -1\/P.getD (aD P)[i].toNat 0∈(aD P).take i):=by
 have e:aD P=(aD P).take i++(aD P)[i]::(aD P).drop (i+1):=by
  conv=>lhs;rw [<-M6 i (aD P)]
  rw [Mf hi]
 refine ⟨?_,uo P _ _ _ _ _ e⟩;have hnd:(aD P).Nodup:=(cf hP).nodup_iff.2 (cJ _);intro hm;obtain ⟨j,hj,e2⟩:=Oq.1 hm;exact Nr.1 hnd j i Po hi Po e2
theorem BM {l:List Int} {x:Int}:x∈Aw l↔x∈l:=(iY l).mem_iff
theorem r9 {S:Sch} {P:List Int} {v x:Int}:x∈dq S P v↔x∈bp P v/\∃ b∈fk P v,eS S x b=true:=by
 unfold dq H7;rw [BM,L9,My]
theorem da {P:List Int} {v b:Int}:b∈fk P v↔(∃ a:Nat,a<P.length/\b=(a:Int))/\(b=v\/v∈bp P b):=by
 have e:fk P v=(upZ P.length).filter fun a=>a==v||hiB P v a:=rfl
 rw [e,L9,bx];simp [hiB]
theorem AN {S:Sch} {r:ByteArray×List Int} (hr:r∈S.rels) {a b:Int} (ha:a∈r.2) (hb:b∈r.2):eS S a b=true:=by
 unfold eS;rw [My];exact ⟨r,hr,by simp [ha,hb]⟩
theorem iU {P l:List Int} (h:mu P l=true) {a b:Int} (ha:a∈l) (hb:b∈l):a=b\/a∈bp P b\/b∈bp P a:=by
 unfold mu at h;have:=uv.1 (uv.1 h a ha) b hb;simp [hiB,or_assoc] at this;exact this
theorem qg {P l:List Int} (hP:UpOk P) (hr:∀ a∈l,0<=a/\a<P.length) (hl:mu P l=true):∀ (k:List Int) (done:List Int) (h:Int),(∀ a∈k,a∈l)->(∀ a∈done,a∈l)->h∈l->(∀ a∈done,a=h\/a∈bp P h)->
  k.foldl (JA P) h∈l/\∀ a,a∈done\/a∈k->a=k.foldl (JA P) h\/a∈bp P (k.foldl (JA P) h)
 | [],done,h,_,_,hh,hd=>⟨hh,fun a ha=>hd a (ha.resolve_right Ps)⟩
 | x::k,done,h,hk,hdn,hh,hd=>by
   have hx:=hk x (Nw ..);have nat:∀ {a:Int},a∈l->∃ n:Nat,n<P.length/\a=(n:Int):=fun {a} ha=>by
    obtain ⟨n,hn⟩:=so (hr a ha).1;have:=(hr a ha).2;exact ⟨n,Po,hn⟩
   have step:JA P h x∈l/\∀ a∈done++[x],a=JA P h x\/a∈bp P (JA P h x):=by
    unfold JA;by_cases e:hiB P h x=true
    ·rw [qY e];have e':h∈bp P x:=by simpa [hiB] using e
     refine ⟨hx,fun a ha=>?_⟩;rcases Mc.1 ha with had | ha
     ·right
      rcases hd a had with rfl | h3
      ·exact e'
      ·obtain ⟨n,_,rfl⟩:=nat hh;obtain ⟨m,hm,rfl⟩:=nat hx;obtain ⟨p,_,rfl⟩:=nat (hdn a had);exact fH hP hm h3 e'
     ·left;exact o7.1 ha
    ·rw [kH e];have e':h∉bp P x:=by simpa [hiB] using e
     refine ⟨hh,fun a ha=>?_⟩;rcases Mc.1 ha with ha | ha
     ·exact hd a ha
     ·rw [o7.1 ha];rcases iU hl hx hh with h1 | h1 | h1
      ·exact .inl h1
      ·exact .inr h1
      ·exact absurd h1 e'
   have:=qg hP hr hl k (done++[x]) (JA P h x) (fun a ha=>hk a (L7 _ ha)) (fun a ha=>by
    rcases Mc.1 ha with h | h
    ·exact hdn a h
    ·rw [o7.1 h];exact hx) step.1 step.2
   rw [MG];refine ⟨this.1,fun a ha=>this.2 a ?_⟩;rcases ha with ha | ha
   ·exact .inl (Oh _ ha)
   ·rcases sh.1 ha with rfl | ha
    ·exact .inl Ps
    ·exact .inr ha
theorem nI {P l:List Int} (hP:UpOk P) (hne:l≠[]) (hr:∀ a∈l,0<=a/\a<P.length) (hl:mu P l=true):ka P l∈l/\∀ a∈l,a=ka P l\/a∈bp P (ka P l):=by
 cases l with
 | nil=>exact absurd O hne
 | cons x l=>
   have:=qg hP hr hl (x::l) [] x (fun a h=>h) Ps (Nw ..) Ps;unfold ka;exact ⟨this.1,fun a ha=>this.2 a (.inr ha)⟩
theorem OrdOk.dP {S:Sch} {P:List Int} (h:OrdOk S P):UpOk P:=⟨h.rng,h.up⟩
end
end Go.Proofs.YtedfonppffochaaGreatDoor
