/- Lemmas. No condition. -/
import Derived.Test.YtoplpepiabedhaaGreatDoorJC6
set_option maxRecDepth 100000
set_option maxHeartbeats 4000000
open Go.RowKit Go.Proofs.Tryz
open Option renaming some→Sh,none→Sl
open Bool renaming true→Sm,false→S1
namespace Go.Proofs.YtoplpepiabedhaaGreatDoor
variable{i k n a b j v c id sz:Nat}{x:Int}{G:List (BitVec 64)}{rest:BitVec 64}{α:Type}{p:Nat->Nat->Bool}{q l P Q R:List Int}{y:Operand}{xs:Array Operand}{f:FuncId}{cs news:List PV}{S:Sch}{adj:Nat->Nat->Prop}{pos:Nat->Nat}{I rem:List Bool}{T:TypeId}
section
open Mk
abbrev B64:=BitVec 64
abbrev fV(x:B64):PV:= .int .u64 (x.toNat:Int)
theorem sw(i:Int):IntKind.u64.wrap i=i%18446744073709551616:=by
 unfold IntKind.wrap;simp[IntKind.signed,IntKind.bits]
theorem wo(x:B64):IntKind.u64.wrap (x.toNat:Int)=x.toNat:=by
 rw[sw];have:=x.isLt;omega
theorem ofInt64(x:B64):BitVec.ofInt IntKind.u64.bits (x.toNat:Int)=x:=by
 show BitVec.ofInt 64 _=x;rw[BitVec.ofInt_natCast,BitVec.ofNat_toNat,BitVec.setWidth_eq]
section
variable {C:Ctx}{n:Nat}{σ:St}{dst:Option Tmp}{ty t t':TypeId}{pos:String}{after:Array Edge}{gd:Option (Nat×Bool)}{x y:Operand}{X Y:B64}
theorem xR(d:σ.ev n x= .pv (fV X))(r:σ.ev n y= .pv (fV Y)):XJ C n ⟨dst,.binOp .and t x y t',ty,pos,after,gd⟩ σ ⟨.pv (fV (X&&&Y)),[],[]⟩:=
 aC d r (by simp only[vA,ofInt64];exact ag (λi=>Sh (PV.int .u64 i)) (wo _))
theorem zd(d:σ.ev n x= .pv (fV X))(r:σ.ev n y= .pv (fV Y)):XJ C n ⟨dst,.binOp .or t x y t',ty,pos,after,gd⟩ σ ⟨.pv (fV (X|||Y)),[],[]⟩:=
 aC d r (by simp only[vA,ofInt64];exact ag (λi=>Sh (PV.int .u64 i)) (wo _))
theorem Bw(d:σ.ev n x= .pv (fV X))(r:σ.ev n y= .pv (fV Y)):XJ C n ⟨dst,.binOp .andNot t x y t',ty,pos,after,gd⟩ σ ⟨.pv (fV (X&&& ~~~Y)),[],[]⟩:=
 aC d r (by simp only[vA,ofInt64];exact ag (λi=>Sh (PV.int .u64 i)) (wo _))
theorem NJ(d:σ.ev n x= .pv (fV X))(r:σ.ev n y= .pv (fV Y)):XJ C n ⟨dst,.binOp .sub t x y t',ty,pos,after,gd⟩ σ ⟨.pv (fV (X-Y)),[],[]⟩:=
 aC d r (by
  simp only[vA,sw];refine ag (λi=>Sh (PV.int .u64 i)) ?_;have:=X.isLt;have:=Y.isLt;rw[BitVec.toNat_sub];omega)
theorem zD(X Y:B64):((X.toNat:Int)==(Y.toNat:Int))=decide (X=Y):=by
 rw[RJ];simp only[S0,Rt];exact⟨λh=>BitVec.eq_of_toNat_eq Vf,λh=>by rw[h]⟩
theorem Ov(d:σ.ev n x= .pv (fV X))(r:σ.ev n y= .pv (fV Y)):XJ C n ⟨dst,.binOp .eql t x y t',ty,pos,after,gd⟩ σ ⟨.pv (.bool (decide (X=Y))),[],[]⟩:=
 aC d r (by simp only[vA,zD])
theorem DZ(d:σ.ev n x= .pv (fV X))(r:σ.ev n y= .pv (fV Y)):XJ C n ⟨dst,.binOp .neq t x y t',ty,pos,after,gd⟩ σ ⟨.pv (.bool (decide (X≠Y))),[],[]⟩:=
 aC d r (by simp only[vA,bne,zD,decide_not])
theorem NO(a:Nat){i:Int}{k':IntKind}(d:σ.ev n x= .pv (fV 1#64))(r:σ.ev n y= .pv (.int k' i))(s:i=(a:Int))(u:a<64):XJ C n ⟨dst,.binOp .shl t x y t',ty,pos,after,gd⟩ σ ⟨.pv (fV (BitVec.twoPow 64 a)),[],[]⟩:=by
 subst s;refine XJ.cast (Lf d r Vf)<|ag (λi=>V.pv (PV.int .u64 i)) ?_;show IntKind.u64.wrap (1*2^(min (Int.toNat (a:Int)) 64))=_;rw[show min (Int.toNat (a:Int)) 64=a by omega,BitVec.toNat_twoPow,sw];simp
theorem CN(a:Nat){i:Int}{k':IntKind}(d:σ.ev n x= .pv (fV X))(r:σ.ev n y= .pv (.int k' i))(s:i=(a:Int))(u:a<64):XJ C n ⟨dst,.binOp .shr t x y t',ty,pos,after,gd⟩ σ ⟨.pv (fV (X>>>a)),[],[]⟩:=by
 subst s;refine XJ.cast (C1 d r Vf)<|ag (λi=>V.pv (PV.int .u64 i)) ?_;show Int.fdiv (X.toNat:Int) (2^(min (Int.toNat (a:Int)) 64))=_;rw[show min (Int.toNat (a:Int)) 64=a by omega,BitVec.toNat_ushiftRight,Nat.shiftRight_eq_div_pow];have e:(2:Int)^a=((2^a:Nat):Int):=Vj;rw[e,Int.fdiv_eq_ediv_of_nonneg _ (Int.natCast_nonneg _)];simp
end
theorem NF(X:B64)(a:Nat):decide ((X>>>a)&&&1#64=1#64)=X.getLsbD a:=by
 rw[RJ,Rt];constructor
 .intro h;have:=ag (λz:B64=>z.getLsbD 0) h;simpa using this
 .intro h;apply BitVec.eq_of_getLsbD_eq;intro i hi;rw[Us,BitVec.getLsbD_one];by_cases e:i=0
  .subst e;simp[h]
  .simp[e]
theorem wQ(a:Nat)(d:a<64):FnP prog 115 [.int .i64 a] (· =fV (BitVec.twoPow 64 a)):=by
 refine FnP.of func115 O ntmps115 Vj λm0 w0 F R0=>?_
 exact Z1 O<|Z1 O<|Rs O (NO a O O O d)<|A1 O<|Gt O<|⟨_,_,O,O,O⟩
theorem PG(X:B64)(a:Nat)(d:a<64):FnP prog 198 [fV X,.int .i64 a] (· = .bool (X.getLsbD a)):=by
 refine FnP.of func198 O ntmps198 Vj λm0 w0 F R0=>?_
 exact Z1 O<|Z2 O<|Rs O (CN a O O O d)<|Rs O (xR (Y:=1#64) O O)<|Rs O (Ov (Y:=1#64) O O)<|A1 O<|Gt O<|⟨_,_,O,O,ag PV.bool (NF X a)⟩
abbrev xt(G:List B64):List PV:=G.map fV
abbrev jJ(G:List B64):PV:= .sl Sl G.length (xt G)
theorem yU{l:List B64}(h:k<l.length):(xt l)[k*1]? =Sh (fV l[k]):=by simp[h]
theorem I4{l:List B64}(h:k<l.length):xt l≠[]:=by intro e;simp at e;subst e;simp at h
def HF(n:Nat):B64:=BitVec.twoPow 64 n-1#64
theorem Kv(r:n<64)(i:Nat):(HF n).getLsbD i=decide (i<n):=by
 have e:HF n=BitVec.ofNat 64 (2^n-1):=by
  apply BitVec.eq_of_toNat_eq;unfold HF;have d:2^n<2^64:=Nat.pow_lt_pow_right Vh r;have s:0<2^n:=Nat.pow_pos Vh;rw[BitVec.toNat_sub,BitVec.toNat_twoPow,BitVec.toNat_ofNat,Ut d];simp only[BitVec.toNat_ofNat];omega
 rw[e,BitVec.getLsbD_ofNat,Nat.testBit_two_pow_sub_one];by_cases h:i<n
 .simp[h];omega
 .simp[h]
end
theorem wu(f:Nat->Bool):∀w:Nat,∃x:BitVec w,∀i,i<w->x.getLsbD i=f i
 |0=>⟨0#0,λi h=>absurd h (Tu _)⟩
 | w+1=>by
   obtain⟨x,hx⟩:=wu f w;refine⟨BitVec.cons (f w) x,λi hi=>?_⟩;rw[BitVec.getLsbD_cons];by_cases e:i=w
   .rw[AT e,e]
   .rw[dt e,hx i Vf]
noncomputable def bitsOf(f:Nat->Bool):BitVec 64:=Classical.choose (wu f 64)
theorem qm(f:Nat->Bool)(h:i<64):(bitsOf f).getLsbD i=f i:=Classical.choose_spec (wu f 64) i h
theorem iO{x:BitVec 64}(h:x.getLsbD i=Sm):i<64:=RZ λe=>by
 rw[BitVec.getLsbD_of_ge _ _ Vf]at h;cases h
inductive Reach (G:List (BitVec 64)) (rest:BitVec 64) (a:Nat):Nat->Prop
 |refl:Reach G rest a a
 |step {b c:Nat}:Reach G rest a b->(G.getD b 0#64).getLsbD c=Sm->rest.getLsbD c=Sm->Reach G rest a c
noncomputable def compB(G:List (BitVec 64))(rest:BitVec 64)(a:Nat):BitVec 64:=bitsOf λb=>@decide (Reach G rest a b) (Classical.propDecidable _)
theorem pH(d:b<64):(compB G rest a).getLsbD b=Sm↔Reach G rest a b:=by
 unfold compB;rw[qm _ d];exact @SA _ (Classical.propDecidable _)
theorem j6(h:(compB G rest a).getLsbD b=Sm):Reach G rest a b:=(pH (iO h)).1 h
theorem vf{p q:α->Bool}:∀{l:List α},(∀a∈l,p a=Sm->q a=Sm)->(∃a∈l,p a=S1/\q a=Sm)->l.countP p<l.countP q
 |[],_,⟨a,h,_⟩=>by cases h
 | x::l,h,⟨a,ha,h1,h2⟩=>by
   have hm:l.countP p<=l.countP q:=List.countP_mono_left λy hy=>h y (RX _ hy)
   rw[List.countP_cons,List.countP_cons];by_cases e:a=x
   .subst e;rw[h1,h2];simp;omega
   .have hr:=vf (l:=l) (λy hy=>h y (RX _ hy)) ⟨a,(AS.1 ha).resolve_left e,h1,h2⟩;have:=h x (Su ..);by_cases ep:p x=Sm
    .rw[ep,this ep];simp;omega
    .by_cases eq:q x=Sm<;>simp[ep,eq]<;>omega
noncomputable def compsN(G:List (BitVec 64))(rest:BitVec 64):Nat->List (BitVec 64)×BitVec 64
 |0=>([],rest)
 |k+1=>if(compsN G rest k).2.getLsbD k=Sm then((compsN G rest k).1++[compB G (compsN G rest k).2 k],(compsN G rest k).2&&& ~~~compB G (compsN G rest k).2 k)else compsN G rest k
structure IsG(S:Sch)(G:List (BitVec 64)):Prop where
 len:G.length=S.attrs.length
 bit:∀a,a<G.length->∀b:Nat,(G.getD a 0#64).getLsbD b=(decide (a≠b)&&fk S a b)
section
open Mk
theorem getD_eq{l:List α}(h:k<l.length)(d:α):l.getD k d=l[k]:=by simp[List.getD,h]
def FG(n:Nat)(G:List B64)(p:Nat->Nat->Bool):Prop:=G.length=n/\∀a,a<n->∀b:Nat,(G.getD a 0#64).getLsbD b=p a b
theorem FG.zero(n:Nat):FG n (List.replicate n 0#64) (λ_ _=>S1):=⟨Vj,λa ha b=>by simp[List.getD,ha]⟩
theorem FG.congr{G:List B64}{q:Nat->Nat->Bool}(h:FG n G p)(e:∀a,a<n->∀b,p a b=q a b):FG n G q:=⟨h.1,λa ha b=>by rw[h.2 a ha b,e a ha b]⟩
theorem FG.or{G:List B64}(h:FG n G p)(r:i<n)(x:B64):FG n (G.set i (G[i]'(by rw[h.1];exact r)|||x)) (λa b=>p a b||(decide (a=i)&&x.getLsbD b)):=by
 refine⟨by simp[h.1],λa ha b=>?_⟩;have d:i<G.length:=by rw[h.1];exact r
 by_cases e:a=i
 .subst e;have:=h.2 a ha b;rw[getD_eq d]at this;simp[List.getD,d,BitVec.getLsbD_or,this]
 .have:=h.2 a ha b;simp only[List.getD]at this ⊢;rw[Tl (λs=>e s.symm),this];simp[e]
def sF(rs:List (ByteArray×List Int))(a b:Nat):Bool:=rs.any λr=>decide ((a:Int)∈r.2)&&decide ((b:Int)∈r.2)
theorem kV{q:Nat}(d:q<l.length)(r:l[q]=(i:Int))(a:Nat):(a:Int)∈l.take (q+1)↔(a:Int)∈l.take q\/a=i:=by
 rw[bX d,Rx,Rn,r];exact or_congr Iff.rfl ⟨λh=>by omega,λh=>by rw[h]⟩
theorem Il{rs:List (ByteArray×List Int)}{q:Nat}{all:B64}(s:q<l.length)(u:l[q]=(i:Int))(d:∀b:Nat,all.getLsbD b=decide ((b:Int)∈l)):
  ((decide (a≠b)&&(sF rs a b||(decide ((a:Int)∈l.take q)&&decide ((b:Int)∈l))))||(decide (a=i)&&(all&&& ~~~(BitVec.twoPow 64 i)).getLsbD b))=
  (decide (a≠b)&&(sF rs a b||(decide ((a:Int)∈l.take (q+1))&&decide ((b:Int)∈l)))):=by
 have r:decide ((a:Int)∈l.take (q+1))=(decide ((a:Int)∈l.take q)||decide (a=i)):=by
  rw[RJ,Sg,SA,SA,SA,kV s u]
 rw[r,Us,BitVec.getLsbD_not,BitVec.getLsbD_twoPow,d];by_cases hb:(b:Int)∈l
 .have hb64:b<64:=iO (x:=all) (by rw[d];simpa using hb);by_cases e:a=i
  .subst e;by_cases e2:a=b
   .subst e2;simp[hb64]
   .simp[e2,hb,hb64]
  .simp[e]
 .simp[hb]
theorem Bi{rs:List (ByteArray×List Int)}(d:k<rs.length):sF (rs.take (k+1)) a b=(sF (rs.take k) a b||(decide ((a:Int)∈rs[k].2)&&decide ((b:Int)∈rs[k].2))):=by
 unfold sF;rw[bX d];simp only[List.any_append,List.any_cons,List.any_nil,Tk]
theorem B9(S:Sch)(hS:SB S)(U:Valid S):FnP prog 112 [eS S] (λv=>∃G,v=jJ G/\IsG S G):=by
 refine FnP.of func112 O ntmps112 Vj λm0 w0 F R0=>?_
 have hb:=U.n2;have V:=U.r2;refine Z2 O<|Gr O ?_;iterate 5 refine A1 O ?_
 refine Z4 O<|Gl O (st:=λVn:Nat×List B64=>mkS [(3,.osl 1 1 S.attrs.length),(16,.pv (.sl Sl S.rels.length (aM S.rels))),(17,pIi S.rels.length),(18,pIi Vn.1)] [(1,.cells 206 (xt Vn.2))] 2)
  (I:=λVn=>Vn.1<=S.rels.length/\FG S.attrs.length Vn.2 (λa b=>decide (a≠b)&&sF (S.rels.take Vn.1) a b)) (μ:=λVn=>S.rels.length-Vn.1) (x0:=(0,List.replicate S.attrs.length 0#64)) (Q5 (aS O) ⟨ag (λc=>Sh (Ob.cells 206 c)) ((cB (.int .u64 0) (S.attrs.length*1)).trans Vj),Vm⟩ O O) (⟨cd _,(FG.zero _).congr (λa _ b=>by simp[sF])⟩) ?_
 rintro⟨k,G⟩ ⟨hk,hG⟩;try simp only at hk hG ⊢
 refine Z1 O<|Gp O (λE=>?_) (λE=>?_)
 .have hlt:k<S.rels.length:=Vf;have B:=dK hlt;have W:=gF hlt;have Z:=hS.rl _ (au hlt);have u:=U.rng _ (au hlt);refine Q3<|Z1 O<|Rs O (aU ⟨_,underlying74,O⟩ E6 O B O)<|Y2 O<|Z1 O<|Z4 O<|Gl O (st:=λr:Nat×B64=>mkS [(3,.osl 1 1 S.attrs.length),(5,.ptr 2 0),(6,.pv (fV r.2)),(16,.pv (.sl Sl S.rels.length (aM S.rels))),(17,pIi S.rels.length),(18,pIi k),(23,.pv (aj S.rels[k].2)),(24,.pv (.int .i64 S.rels[k].2.length)),(25,pIi r.1)] [(1,.cells 206 (xt G)),(2,.mix 74 [.pv (.str S.rels[k].1),.pv (aj S.rels[k].2)])] 3)
   (I:=λr=>r.1<=S.rels[k].2.length/\∀b:Nat,r.2.getLsbD b=decide ((b:Int)∈S.rels[k].2.take r.1)) (μ:=λr=>S.rels[k].2.length-r.1) (x0:=(0,0#64)) (Q5 (aS O) (aO O) O O) (⟨cd _,λb=>by simp⟩) ?_
  rintro⟨q,all⟩ ⟨hq,hall⟩;try simp only at hq hall ⊢
  refine Z1 O<|Gp O (λH=>?_) (λH=>?_)
  .have hql:q<S.rels[k].2.length:=Vf;have hv:=aX hql;have D:=aD hql;have z:=u _ (au hql);obtain⟨i,hi⟩:=Rm z.1;have A:FnP prog 115 [.int .i64 S.rels[k].2[q]] (· =fV (BitVec.twoPow 64 i)):=by rw[hi];exact wQ i Vf
   refine Q3<|Z1 O ?_;first|refine A2 O Vi ?_|refine A1 O ?_
   exact A1 O<|Z2 O<|Rs O (aa call115 A O)<|Rs O (zd O O)<|A1 O<|Z2 O<|⟨(q+1,all|||BitVec.twoPow 64 i),Q5 (aS O) (aO O) O O,⟨Vl,λb=>by simp only;rw[BitVec.getLsbD_or,hall,BitVec.getLsbD_twoPow,RJ,Sg,SA,SA,kV hql hi,sh,SA,SA];exact or_congr Iff.rfl ⟨λh=>h.2.symm,λh=>⟨Vf,h.symm⟩⟩⟩,Vl⟩
  .rw[aQ Vf]at hall;refine Gx O<|Z4 O<|Gl O (st:=λs:Nat×List B64=>mkS [(3,.osl 1 1 S.attrs.length),(6,.pv (fV all)),(16,.pv (.sl Sl S.rels.length (aM S.rels))),(17,pIi S.rels.length),(18,pIi k),(35,.pv (aj S.rels[k].2)),(36,.pv (.int .i64 S.rels[k].2.length)),(37,pIi s.1)] [(1,.cells 206 (xt s.2))] 3)
    (I:=λs=>s.1<=S.rels[k].2.length/\FG S.attrs.length s.2 (λa b=>decide (a≠b)&&(sF (S.rels.take k) a b||(decide ((a:Int)∈S.rels[k].2.take s.1)&&decide ((b:Int)∈S.rels[k].2))))) (μ:=λs=>S.rels[k].2.length-s.1) (x0:=(0,G)) (Q5 (aS O) (aO O) O O) (⟨cd _,hG.congr (λa _ b=>by simp)⟩) ?_
   rintro⟨q2,G2⟩ ⟨hq2,hG2⟩;try simp only at hq2 hG2 ⊢
   refine Z1 O<|Gp O (λJ=>?_) (λJ=>?_)
   .have hql:q2<S.rels[k].2.length:=Vf;have hv:=aX hql;have D:=aD hql;have z:=u _ (au hql);obtain⟨i,hi⟩:=Rm z.1;have L:i<G2.length:=by rw[hG2.1];omega
    have hgl:=hG2.1;have M:=yU L;have A:FnP prog 115 [.int .i64 S.rels[k].2[q2]] (· =fV (BitVec.twoPow 64 i)):=by rw[hi];exact wQ i Vf
    refine Q3<|Z1 O ?_;first|refine A2 O Vi ?_|refine A1 O ?_
    refine A1 O<|RW 11 O ?_;iterate 2 refine D1 O ?_
    refine Ds [_] O (λτ h=>ak i underlying202 ID (Ee h 0 O O) (Eo h 0 O O) (Ee h 1 O O) hi Vf) O Vg<|Ds [_] O (λτ h=>cm ⟨_,underlying206,O⟩ (Ee h 0 O O) (Eo h 0 O O) M) O Vg ?_;iterate 2 refine D1 O ?_
    refine Ds [] O (λτ h=>aa call115 A (h.aK O)) O Vg<|Ds [] O (λτ h=>Bw (Ee h 0 O O) (Ee h 1 O O)) O Vg<|Ds [] O (λτ h=>zd (Ee h 0 O O) (Ee h 1 O O)) O Vg<|Ds [_] O (λτ h=>ak i underlying202 ID (Ee h 0 O O) (Eo h 0 O O) (Ee h 1 O O) hi Vf) O Vg<|DL.step (d:=Sl) [_] O O O (λτ h=>bQ ID (Ee h 0 O O) (Eo h 0 O O) (Ee h 1 O O) O Vk) O Vg ?_;refine⟨Vg,?_⟩;exact Z2 O<|⟨(q2+1,G2.set i (G2[i]|||(all&&& ~~~(BitVec.twoPow 64 i)))),Q5 (aS O) ⟨by show Sh (Ob.cells _ _)=_;simp[SH],Vm⟩ O O,⟨Vl,(hG2.or Vf _).congr (λa _ b=>Il hql hi hall)⟩,Vl⟩
   .have hG3:=hG2.congr (q:=λa b=>decide (a≠b)&&sF (S.rels.take (k+1)) a b) (λa _ b=>by rw[show S.rels[k].2.take q2=S.rels[k].2 from aQ Vf,Bi hlt]);exact Gx O<|Z2 O<|⟨(k+1,G2),Q5 (aS O) (aO O) O O,⟨Vl,hG3⟩,Vl⟩
 .rw[aQ Vf]at hG;exact Gx O<|Q4 (Q8 1 O O)<|Z2 O<|Q4 (St.qq [2])<|Gt O<|⟨_,_,O,O,G,by show PV.sl Sl S.attrs.length (xt G)=_;rw[<-hG.1],hG.1,λa ha b=>by rw[hG.2 a (by rw[<-hG.1];exact ha) b];rfl⟩
end
section
open Mk
section
variable {C:Ctx}{n:Nat}{σ τ:St}{ops:Array Oper}{dst:Option Tmp}{ty:TypeId}{ts:Array TypeId}{pos:String}{after:Array Edge}{gd:Option (Nat×Bool)}
theorem Agr.cU{s:OS}{rd:List Nat}(h:Agr n ops ⟨dst,.call { callee:= .value y,args:=xs,argTypes:=ts },ty,pos,after,gd⟩ σ τ s rd):xs.toList.map (τ.ev n)=xs.toList.map (σ.ev n):=by
 apply Sd;intro x hx;obtain⟨i,hi⟩:=SU hx;exact h.e (i+1) x (by simpa[Op.operands,Call.operands,UL]using hi)
theorem kX{fs cs:List V}{args:List V}{os:List (Nat×Ob)}{k':Nat}{r:V}{X:Nat->Option Ob}{vs:List V}(ids:List Nat)(base:Nat)(hc:cu C.P f)(D:FnO C.P f ids.length k' args os (λv ob'=>v=r/\ob'=X))(E:σ.ev n y= .fn (.func f) fs cs)(u:xs.toList.map (σ.ev n)=vs)(d:fs++vs++cs=V.renL (dV ids base) args)
  (H:V.allL (okR ids.length 0) args=Sm) (hos:os.map (·.1)=(List.range ids.length).map (big+ ·)) (z:os.all (λp=>p.2.all (okR ids.length 0))=Sm) (s:fO σ (dV ids base) os)
  (A:ids.Nodup) (B:(nwO base k').all σ.av=Sm):
  XJ C n ⟨dst,.call { callee:= .value y,args:=xs,argTypes:=ts },ty,pos,after,gd⟩ σ ⟨r.ren (dV ids base),wrO ids base k' X,nwO base k'⟩:=
 EY ids base hc E (by rw[u];exact d) H hos z s A B D (by rintro _ _ ⟨rfl,rfl⟩;rfl)
end
def iG(q:List Int)(W:B64->Int->List Int->List Int)(par:Int)(P:List Int)(c:B64):List Int:=
 match q.find? (λa=>c.getLsbD a.toNat)with
 |some a=>W (c&&& ~~~(BitVec.twoPow 64 a.toNat)) a (P.set a.toNat par)
 |none=>P
noncomputable def placeF(G:List B64)(q:List Int):Nat->B64->Int->List Int->List Int
 |0,_,_,P=>P
 |f+1,rest,par,P=>(compsN G rest G.length).1.foldl (iG q (placeF G q f) par) P
theorem uL{G:List B64}{R:B64}(d:R.getLsbD a=Sm)(h:(compB G R a).getLsbD i=Sm):R.getLsbD i=Sm:=by
 cases j6 h with
 |refl=>exact d
 |step _ _ h=>exact h
theorem vY(G:List B64)(rest:B64):∀k,(∀i,(compsN G rest k).2.getLsbD i=Sm->rest.getLsbD i=Sm)/\∀c∈(compsN G rest k).1,∀i,c.getLsbD i=Sm->rest.getLsbD i=Sm
 |0=>⟨λ_ h=>h,λc hc=>by simp[compsN]at hc⟩
 | k+1=>by
   obtain⟨h1,h2⟩:=vY G rest k;simp only[compsN];split
   .rename_i hk;refine⟨λi hi=>?_,λc hc i hi=>?_⟩
    .rw[Us,sh]at hi;exact h1 i hi.1
    .rcases Rx.1 hc with h|h
     .exact h2 c h i hi
     .rw[Rn.1 h]at hi;exact h1 i (uL hk hi)
   .exact⟨h1,h2⟩
def ku(x:B64):Nat:=(List.range 64).countP λi=>x.getLsbD i
theorem QB{x y:B64}(h:∀i,x.getLsbD i=Sm->y.getLsbD i=Sm)(r:x.getLsbD j=S1)(d:y.getLsbD j=Sm):ku x<ku y:=
 vf (λa _ ha=>h a ha) ⟨j,Si.2 (iO d),r,d⟩
theorem mV(c:B64)(a i:Nat):(c&&& ~~~(BitVec.twoPow 64 a)).getLsbD i=(c.getLsbD i&&decide (a≠i)):=by
 rw[Us,BitVec.getLsbD_not,BitVec.getLsbD_twoPow];by_cases hi:i<64
 .by_cases e:a=i
  .subst e;simp[hi]
  .simp[hi,e]
 .rw[BitVec.getLsbD_of_ge c i Vf];rfl
theorem Iu{G:List B64}{rest c:B64}(hc:c∈(compsN G rest k).1)(r:c.getLsbD a=Sm):ku (c&&& ~~~(BitVec.twoPow 64 a))<ku rest:=by
 have d:=(vY G rest k).2 c hc;refine QB (λi hi=>?_) (j:=a) ?_ (d a r)
 .rw[mV,sh]at hi;exact d i hi.1
 .rw[mV];simp
theorem Kn{x:B64}(h:ku x=0)(i:Nat):x.getLsbD i=S1:=by
 cases e:x.getLsbD i with
 |false=>rfl
 | true=>
   have:=List.countP_eq_zero.1 h i (Si.2 (iO e));exact absurd e this
theorem nO(G:List B64)(q:List Int):∀(f:Nat)(rest:B64)(par:Int)(P:List Int),(placeF G q f rest par P).length=P.length
 |0,_,_,_=>rfl
 | f+1,rest,par,P=>by
   simp only[placeF];generalize (compsN G rest G.length).1=cs;induction cs generalizing P with
   |nil=>rfl
   | cons c cs ih=>
     rw[Tf,ih];unfold iG;split
     .rw[nO G q f];simp
     .rfl
theorem Ew(x:B64):ku x<=64:=IT List.countP_le_length Vj
noncomputable def ofL(G:List B64)(q:List Int):List Int:=placeF G q 64 (HF G.length) (-1) (List.replicate G.length 0)
theorem O3(G:List B64)(q:List Int):(ofL G q).length=G.length:=by unfold ofL;rw[nO];simp
end
section
open Mk
noncomputable def gr(S:Sch):List B64:=(List.range S.attrs.length).map λa=>bitsOf λb=>decide (a≠b)&&fk S a b
theorem zN(S:Sch):(gr S).length=S.attrs.length:=by simp[gr]
theorem oI(d:Valid S){a b:Int}(h:fk S a b=Sm):(0<=a/\a<S.attrs.length)/\(0<=b/\b<S.attrs.length):=by
 unfold fk at h;obtain⟨r,hr,h2⟩:=SR.1 h;simp at h2;exact⟨d.rng r hr a h2.1,d.rng r hr b h2.2⟩
theorem zP(d:Valid S)(r:a<S.attrs.length)(b:Nat):((gr S).getD a 0#64).getLsbD b=(decide (a≠b)&&fk S a b):=by
 have e:(gr S).getD a 0#64=bitsOf λb=>decide (a≠b)&&fk S a b:=by simp[gr,List.getD,r]
 rw[e];by_cases hb:b<64
 .rw[qm _ hb]
 .rw[BitVec.getLsbD_of_ge _ _ Vf];cases hl:fk S a b with
  |false=>simp
  |true=>have:=(oI d hl).2;have:=d.n2;omega
theorem PF(s:Valid S){G:List B64}(h:IsG S G):G=gr S:=by
 apply SO
 .rw[h.len,zN]
 .intro a h1 h2;apply BitVec.eq_of_getLsbD_eq;intro b _;have d:=h.bit a h1 b;have r:=zP s (a:=a) (by rw[<-h.len];exact h1) b;rw[getD_eq h1]at d;rw[getD_eq h2]at r;rw[d,r]
noncomputable def ordL(S:Sch)(q:List Int):List Int:=ofL (gr S) q
def D9(q:List Int):Nat->Bool
 |0=>S1
 |k+1=>D9 q k||decide (q.getD k 0∈q.take k)
theorem PZ(d:k<n)(h:decide (q.getD k 0∈q.take k)=Sm):D9 q n=Sm:=by
 induction n with
 |zero=>omega
 | succ n ih=>
   simp only[D9,Sg];by_cases e:k=n
   .subst e;exact .inr h
   .exact .inl (ih Vf)
def ofE(S:Sch)(q:List Int):Int:=
 if bz S≠0 then bz S
 else if q.length≠S.attrs.length then 5
 else if(q.any λa=>decide (a<0)||decide (a>=(q.length:Int)))=Sm then 2
 else if D9 q q.length=Sm then 9 else 0
noncomputable def ofV(S:Sch)(q:List Int):PV:= .tup [og (if ofE S q=0 then ordL S q else []),.int .i64 (ofE S q)]
theorem rF{e:Int}(h:ofE S q=e)(d:e≠0):ofV S q= .tup [og [],.int .i64 e]:=by
 unfold ofV;rw[h,dt d]
theorem KC(B:bz S=0)(s:q.Perm (upZ S.attrs.length)):ofE S q=0:=by
 have u:q.length=S.attrs.length:=by rw[s.length_eq,a6]
 have z:∀a∈q,0<=a/\a<S.attrs.length:=by
  intro a ha;have:=s.mem_iff.1 ha;unfold upZ at this;obtain⟨i,hi,rfl⟩:=By.1 this;have:=Si.1 hi;simp;omega
 have d:q.Nodup:=s.nodup_iff.2 (by unfold upZ;exact List.Pairwise.map _ (λa b h e=>h (Int.ofNat.inj e)) List.nodup_range);have A:∀k,k<=q.length->D9 q k=S1:=by
  intro k;induction k with
  |zero=>intro _;rfl
  | succ k ih=>
    intro hk;simp only[D9,ih Vf,Bool.false_or,S8,getD_eq (show k<q.length by omega)];intro hm;obtain⟨i,hi,e⟩:=Tg.1 hm;have r:i<k:=Vf;have:=Sv.1 d i k Vf Vf r;exact this e
 unfold ofE;rw[dt (λh=>h B),dt (λh=>h u),dt,dt (by rw[A _ (BY _)];decide)];rw[SR];rintro⟨a,ha,h⟩;have:=z a ha;simp at h;omega
end
section
theorem gT[DecidableEq α]{l r:List α}(d:l.Nodup)(s:r.Nodup)(h:∀a,a∈l↔a∈r):l.Perm r:=by
 rw[List.perm_iff_count];intro a;rw[d.count,s.count];by_cases e:a∈l
 .rw[AT e,AT ((h a).1 e)]
 .rw[dt e,dt (λx=>e ((h a).2 x))]
theorem bU:x∈upZ n↔∃a:Nat,a<n/\x=(a:Int):=by
 unfold upZ;rw[By];constructor
 .rintro⟨a,ha,rfl⟩;exact⟨a,Si.1 ha,O⟩
 .rintro⟨a,ha,rfl⟩;exact⟨a,Si.2 ha,O⟩
theorem dy(n:Nat):(upZ n).Nodup:=by
 unfold upZ;exact List.Pairwise.map _ (λa b h e=>h (Int.ofNat.inj e)) List.nodup_range
theorem PE(n:Nat):(upZ n).Pairwise (· < ·):=by
 unfold upZ;exact List.Pairwise.map _ (λa b h=>by simpa using h) List.pairwise_lt_range
structure UpOk(P:List Int):Prop where
 rng:∀p∈P, -1<=p/\p<P.length
 up:∀v,v<P.length->(abv P (v:Int)).isSome=Sm
theorem zZ:∀{k:Nat}{x:Int}{l:List Int},upF P k x=Sh l->upF P (k+1) x=Sh l
 | 0,x,l,h=>by
   simp only[upF]at h ⊢;split at h
   .rename_i hx;rw[AT hx];exact h
   .cases h
 | k+1,x,l,h=>by
   simp only[upF]at h;unfold upF;split at h
   .rename_i hx;rw[AT hx];exact h
   .rename_i hx;rw[dt hx];cases e:upF P k (P.getD x.toNat 0)with
    |none=>rw[e]at h;cases h
    | some l'=>
      rw[e]at h;rw[zZ e];exact h
section
variable {P:List Int}(hP:UpOk P)
include hP
theorem uO(d:v<P.length):P[v]= -1\/∃a:Nat,a<P.length/\P[v]=(a:Int):=by
 have:=hP.rng _ (au d);by_cases h:P[v]= -1
 .exact .inl h
 .obtain⟨a,ha⟩:=Rm (show 0<=P[v] by omega);exact .inr ⟨a,Vf,ha⟩
omit hP in
theorem Ay(d:v<P.length):abv P v=upF P P.length P[v]:=by simp[abv,List.getD,d]
omit hP in
theorem kK(d:v<P.length)(h:P[v]= -1):cq P v=[]:=by
 unfold cq;rw[Ay d,h,ph Vh];rfl
theorem lq(r:v<P.length)(s:a<P.length)(h:P[v]=(a:Int)):cq P v=(a:Int)::cq P a:=by
 have d:=hP.up v r;have e:=Ay r;rw[h]at e;obtain⟨k,hk⟩:∃k,P.length=k+1:=⟨P.length-1,Vf⟩;rw[hk,xA s]at e;cases e2:upF P k P[a]with
 |none=>rw[e,e2]at d;cases d
 | some l=>
   have u:abv P a=Sh l:=by rw[Ay s,hk];exact zZ e2
   unfold cq;rw[e,e2,u];rfl
theorem Ax{motive:Nat->Prop}(root:∀v (d:v<P.length),P[v]= -1->cq P v=[]->motive v)
  (step:∀v (d:v<P.length) a (_:a<P.length),P[v]=(a:Int)->cq P v=(a:Int)::cq P a->motive a->motive v):∀v,v<P.length->motive v:=by
 have r:∀m v,v<P.length->(cq P v).length<=m->motive v:=by
  intro m;induction m with
  | zero=>
    intro v d hl;rcases uO hP d with h|⟨a,ha,h⟩
    .exact root v d h (kK d h)
    .rw[lq hP d ha h]at hl;simp at hl
  | succ m ih=>
    intro v d hl;rcases uO hP d with h|⟨a,ha,h⟩
    .exact root v d h (kK d h)
    .have e:=lq hP d ha h;rw[e]at hl;exact step v d a ha h e (ih a ha (by simpa using hl))
 exact λv d=>r _ v d (BY _)
theorem ju:∀v,v<P.length->∀x∈cq P v,∃a:Nat,a<P.length/\x=(a:Int)/\∃pre,cq P v=pre++(a:Int)::cq P a:=by
 refine Ax hP (λv hv h e x hx=>?_) (λv hv a ha h e ih x hx=>?_)
 .rw[e]at hx;cases hx
 .rw[e]at hx ⊢;rcases AS.1 hx with rfl|hx
  .exact⟨a,ha,O,[],O⟩
  .obtain⟨b,hb,rfl,pre,e2⟩:=ih x hx;exact⟨b,hb,O,(a:Int)::pre,by rw[e2];rfl⟩
theorem LX(d:v<P.length)(h:(a:Int)∈cq P v):a<P.length/\(cq P a).length<(cq P v).length:=by
 obtain⟨b,hb,e,pre,e2⟩:=ju hP v d _ h;have:a=b:=Vf;subst this;refine⟨hb,?_⟩;rw[e2];simp;omega
theorem vq(d:v<P.length):(v:Int)∉cq P v:=λh=>Nat.lt_irrefl _ (LX hP d h).2
theorem kS(hc:c<P.length)(d:(a:Int)∈cq P b)(r:(b:Int)∈cq P c):(a:Int)∈cq P c:=by
 obtain⟨b',hb,e,pre,e2⟩:=ju hP c hc _ r;have:b=b':=Vf;subst this;rw[e2];exact To _ (RX _ d)
theorem gj:∀v,v<P.length->((v:Int)::cq P v).Nodup:=by
 refine Ax hP (λv hv h e=>by rw[e];simp) (λv hv a ha h e ih=>?_);rw[Sx];refine⟨vq hP hv,?_⟩;rw[e];exact ih
theorem tL:∀v,v<P.length->((v:Int)::cq P v).map (λa=>P.getD a.toNat 0)=cq P v++[-1]:=by
 refine Ax hP (λv hv h e=>?_) (λv hv a ha h e ih=>?_)
 .rw[e];simp[List.getD,hv,h]
 .rw[e,bP,ih];simp[List.getD,hv,h]
theorem ly(d:v<P.length)(h:x∈(v:Int)::cq P v):∃a:Nat,a<P.length/\x=(a:Int):=by
 rcases AS.1 h with rfl|h
 .exact⟨v,d,O⟩
 .obtain⟨a,ha,e,_⟩:=ju hP v d x h;exact⟨a,ha,e⟩
theorem GW(d:v<P.length):(cq P v++[-1]).Nodup:=by
 rw[Uk];refine⟨(Sx.1 (gj hP v d)).2,Vj,?_⟩;intro a ha b hb;rw[Rn.1 hb];obtain⟨c,_,rfl⟩:=ly hP d (RX _ ha);omega
omit hP in
theorem Hh(p:α->Bool):∀l:List α,(l.map λa=>if p a=Sm then 1 else 0).sum=l.countP p
 |[]=>rfl
 |a::l=>by rw[bP,Se,Hh p l,List.countP_cons];omega
theorem mK(d:v<P.length):((upZ P.length).filter λa=>decide (a∈(v:Int)::cq P v)).Perm ((v:Int)::cq P v):=by
 refine gT (TO SZ (dy _)) (gj hP v d) λa=>?_
 rw[Sj,SA,bU];exact⟨λh=>h.2,λh=>⟨ly hP d h,h⟩⟩
theorem jq:∀(f:Nat)(v:Int),(∀a (r:a<P.length),P[a]=v->P.length+1<=(cq P a).length+f)->∀x,x<P.length->(ki P f v).count (x:Int)=if v∈cq P x++[-1]then 1 else 0:=by
 intro f;induction f with
 | zero=>
   intro v hf x hx;rw[dt]
   .rfl
   .intro hm;rw[<-tL hP x hx]at hm;obtain⟨a,r,e⟩:=By.1 hm;obtain⟨b,hb,rfl⟩:=ly hP hx r;have z:=hf b hb (by simpa[List.getD,hb]using e);have:=sk P (b:Int);omega
 | succ f ih=>
   intro v hf x hx;have d:∀a∈upZ P.length,(List.count (x:Int)∘λa=>if P.getD a.toNat 0=v then a::ki P f a else []) a=if(decide (P.getD a.toNat 0=v)&&decide (a∈(x:Int)::cq P x))=Sm then 1 else 0:=by
    intro a r;obtain⟨b,hb,rfl⟩:=bU.1 r;have s:P.getD (b:Int).toNat 0=P[b]:=by simp[List.getD,hb]
    simp only[Function.comp,s];by_cases e:P[b]=v
    .rw[AT e,List.count_cons,ih (b:Int) ?_ x hx]
     .simp only[e,decide_true,UM,Rt,AS,Rx,Rn];by_cases u:b=x
      .subst u;rw[dt]
       .simp
       .rintro(h|h)
        .exact vq hP hb h
        .simp at h
      .have e2:¬ (b:Int)=x:=Vf;have A:¬ (b:Int)= -1:=Vf;have B:((b:Int)==(x:Int))=S1:=by simpa using e2
       simp[e2,A,B]
     .intro c hc hcb;have z:=hf b hb e;rw[lq hP hc hb hcb];simp;omega
    .rw[dt e];simp[e]
   unfold ki;rw[List.count_flatMap,Sd d,Hh,<-List.countP_filter,(mK hP hx).countP_eq];have u:List.countP (λa=>decide (P.getD a.toNat 0=v)) ((x:Int)::cq P x)=List.count v (((x:Int)::cq P x).map λa=>P.getD a.toNat 0):=by
    rw[List.count,List.countP_map];refine List.countP_congr λa _=>?_
    simp
   rw[u,tL hP x hx,(GW hP hx).count]
omit hP in
theorem tj:∀(f:Nat)(v:Int),∀x∈ki P f v,∃a:Nat,a<P.length/\x=(a:Int)
 |0,v,x,hx=>by simp[ki]at hx
 | f+1,v,x,hx=>by
   simp only[ki]at hx;obtain⟨a,ha,hx⟩:=RN.1 hx;split at hx
   .rcases AS.1 hx with rfl|hx
    .exact bU.1 ha
    .exact tj f a x hx
   .cases hx
def aL(P:List Int):List Int:=ki P (P.length+1) (-1)
theorem ca:(aL P).Perm (upZ P.length):=by
 rw[List.perm_iff_count];intro x;rw[(dy _).count];by_cases h:x∈upZ P.length
 .rw[AT h];obtain⟨a,ha,rfl⟩:=bU.1 h;unfold aL;rw[jq hP _ _ (λb hb e=>by omega) a ha,AT Vj]
 .rw[dt h,List.count_eq_zero];exact λd=>h (bU.2 (tj _ _ x d))
end
def Bef(P:List Int)(v:Int)(w:List Int):Prop:=∀pre x post,w=pre++x::post->P.getD x.toNat 0=v\/P.getD x.toNat 0∈pre
theorem Bef.nil{v:Int}:Bef P v []:=λpre x post h=>by simp at h
theorem Bef.append{v:Int}{w1 w2:List Int}(r:Bef P v w1)(d:Bef P v w2):Bef P v (w1++w2):=by
 intro pre x post e;rcases List.append_eq_append_iff.1 e with⟨us,e1,e2⟩|⟨bs,e1,e2⟩
 .rcases d us x post e2 with h|h
  .exact .inl h
  .right;rw[e1];exact To _ h
 .cases bs with
  | nil=>
    simp at e1 e2;rcases d [] x post (by simpa using e2.symm)with h|h
    .exact .inl h
    .cases h
  | cons b bs=>
    simp at e2;exact r pre x bs (by rw[e1,<-e2.1])
theorem Bef.cons{v a:Int}{w:List Int}(d:P.getD a.toNat 0=v)(h:Bef P a w):Bef P v (a::w):=by
 intro pre x post e;cases pre with
 |nil=>simp at e;rw[<-e.1];exact .inl d
 | cons b pre=>
   simp at e;rcases h pre x post e.2 with h|h
   .right;rw[h,e.1];exact Su ..
   .right;exact RX _ h
theorem Bef.flat{v:Int}{f:Int->List Int}:∀{l:List Int},(∀a∈l,Bef P v (f a))->Bef P v (l.flatMap f)
 |[],_=>Bef.nil
 | a::l,h=>by
   rw[RC];exact(h a (Su ..)).append (Bef.flat λb hb=>h b (RX _ hb))
theorem z1(P:List Int):∀(f:Nat)(v:Int),Bef P v (ki P f v)
 |0,_=>Bef.nil
 | f+1,v=>by
   unfold ki;refine Bef.flat λa _=>?_
   split
   .rename_i h;exact Bef.cons h (z1 P f a)
   .exact Bef.nil
theorem Ox(s:UpOk P)(r:i<(aL P).length):(aL P)[i]∉(aL P).take i/\(P.getD (aL P)[i].toNat 0= -1\/P.getD (aL P)[i].toNat 0∈(aL P).take i):=by
 have e:aL P=(aL P).take i++(aL P)[i]::(aL P).drop (i+1):=by
  conv=>lhs;rw[<-Sb i (aL P)]
  rw[RF r]
 refine⟨?_,z1 P _ _ _ _ _ e⟩;have d:(aL P).Nodup:=(ca s).nodup_iff.2 (dy _);intro hm;obtain⟨j,hj,e2⟩:=Tg.1 hm;exact Sv.1 d j i Vf r Vf e2
theorem Kd:x∈xT l↔x∈l:=(jG l).mem_iff
theorem kq{v:Int}:x∈cE S P v↔x∈cq P v/\∃b∈mL P v,fk S x b=Sm:=by
 unfold cE Ks;rw[Kd,Sj,SR]
theorem dX{v b:Int}:b∈mL P v↔(∃a:Nat,a<P.length/\b=(a:Int))/\(b=v\/v∈cq P b):=by
 have e:mL P v=(upZ P.length).filter λa=>a==v||hiB P v a:=rfl
 rw[e,Sj,bU];simp[hiB]
theorem wj{r:ByteArray×List Int}(d:r∈S.rels){a b:Int}(s:a∈r.2)(u:b∈r.2):fk S a b=Sm:=by
 unfold fk;rw[SR];exact⟨r,d,by simp[s,u]⟩
theorem BO(h:er P l=Sm){a b:Int}(d:a∈l)(r:b∈l):a=b\/a∈cq P b\/b∈cq P a:=by
 unfold er at h;have:=Ri.1 (Ri.1 h a d) b r;simp[hiB,or_assoc]at this;exact this
theorem uN(z:UpOk P)(u:∀a∈l,0<=a/\a<P.length)(A:er P l=Sm):∀(k:List Int)(done:List Int)(h:Int),(∀a∈k,a∈l)->(∀a∈done,a∈l)->h∈l->(∀a∈done,a=h\/a∈cq P h)->
  k.foldl (sC P) h∈l/\∀a,a∈done\/a∈k->a=k.foldl (sC P) h\/a∈cq P (k.foldl (sC P) h)
 |[],done,h,_,_,hh,hd=>⟨hh,λa ha=>hd a (ha.resolve_right Vj)⟩
 | x::k,done,h,hk,hdn,hh,hd=>by
   have hx:=hk x (Su ..);have r:∀{a:Int},a∈l->∃n:Nat,n<P.length/\a=(n:Int):=fun{a} ha=>by
    obtain⟨n,hn⟩:=Rm (u a ha).1;have:=(u a ha).2;exact⟨n,Vf,hn⟩
   have d:sC P h x∈l/\∀a∈done++[x],a=sC P h x\/a∈cq P (sC P h x):=by
    unfold sC;by_cases e:hiB P h x=Sm
    .rw[AT e];have s:h∈cq P x:=by simpa[hiB]using e
     refine⟨hx,λa ha=>?_⟩;rcases Rx.1 ha with had|ha
     .right
      rcases hd a had with rfl|h3
      .exact s
      .obtain⟨n,_,rfl⟩:=r hh;obtain⟨m,hm,rfl⟩:=r hx;obtain⟨p,_,rfl⟩:=r (hdn a had);exact kS z hm h3 s
     .left;exact Rn.1 ha
    .rw[dt e];have s:h∉cq P x:=by simpa[hiB]using e
     refine⟨hh,λa ha=>?_⟩;rcases Rx.1 ha with ha|ha
     .exact hd a ha
     .rw[Rn.1 ha];rcases BO A hx hh with h1|h1|h1
      .exact .inl h1
      .exact .inr h1
      .exact absurd h1 s
   have:=uN z u A k (done++[x]) (sC P h x) (λa ha=>hk a (RX _ ha)) (λa ha=>by
    rcases Rx.1 ha with h|h
    .exact hdn a h
    .rw[Rn.1 h];exact hx) d.1 d.2
   rw[Tf];refine⟨this.1,λa ha=>this.2 a ?_⟩;rcases ha with ha|ha
   .exact .inl (S7 _ ha)
   .rcases AS.1 ha with rfl|ha
    .exact .inl Vj
    .exact .inr ha
theorem mY(r:UpOk P)(d:l≠[])(s:∀a∈l,0<=a/\a<P.length)(u:er P l=Sm):jL P l∈l/\∀a∈l,a=jL P l\/a∈cq P (jL P l):=by
 cases l with
 |nil=>exact absurd O d
 | cons x l=>
   have:=uN r s u (x::l) [] x (λa h=>h) Vj (Su ..) Vj;unfold jL;exact⟨this.1,λa ha=>this.2 a (.inr ha)⟩
theorem OrdOk.iw(h:OrdOk S P):UpOk P:=⟨h.rng,h.up⟩
theorem JV(h:OrdOk S P){r:ByteArray×List Int}(s:r∈S.rels):jL P r.2∈r.2/\∀a∈r.2,a=jL P r.2\/a∈cE S P (jL P r.2):=by
 have d:∀a∈r.2,0<=a/\a<P.length:=by rw[h.len];exact h.val.rng r s
 obtain⟨h1,h2⟩:=mY h.iw (h.val.ne r s) d (h.rt r s);refine⟨h1,λa ha=>?_⟩;rcases h2 a ha with h3|h3
 .exact .inl h3
 .right
  rw[kq];refine⟨h3,jL P r.2,?_,wj s ha h1⟩;rw[dX];obtain⟨n,hn⟩:=Rm (d _ h1).1;exact⟨⟨n,by have:=(d _ h1).2;omega,hn⟩,.inl O⟩
end
section
inductive Path (adj:Nat->Nat->Prop) (ok:Nat->Prop) (a:Nat):Nat->Prop
 |refl:Path adj ok a a
 |step {b c:Nat}:Path adj ok a b->adj b c->ok c->Path adj ok a c
section
variable {adj:Nat->Nat->Prop}{ok ok':Nat->Prop}
theorem Path.trans{a b c:Nat}(d:Path adj ok a b)(r:Path adj ok b c):Path adj ok a c:=by
 induction r with
 |refl=>exact d
 |step _ h3 h4 ih=>exact .step ih h3 h4
theorem Path.one(h:adj a b)(d:ok b):Path adj ok a b:= .step .refl h d
theorem Path.mono(h:Path adj ok a b)(d:∀c,ok c->ok' c):Path adj ok' a b:=by
 induction h with
 |refl=>exact .refl
 |step _ h3 h4 ih=>exact .step ih h3 (d _ h4)
theorem Path.fin(h:Path adj ok a b)(d:ok a):ok b:=by
 cases h with
 |refl=>exact d
 |step _ _ h=>exact h
theorem Path.symm(d:∀a b,adj a b->adj b a)(h:Path adj ok a b)(r:ok a):Path adj ok b a:=by
 induction h with
 |refl=>exact .refl
 |step h1 h3 h4 ih=>exact(Path.one (d _ _ h3) (h1.fin r)).trans ih
theorem Path.stay{inn:Nat->Prop}(h:Path adj ok a b)(d:inn a)(hc:∀x y,inn x->adj x y->ok y->inn y):Path adj (λc=>ok c/\inn c) a b/\inn b:=by
 induction h with
 |refl=>exact⟨.refl,d⟩
 |step _ h3 h4 ih=>exact⟨.step ih.1 h3 ⟨h4,hc _ _ ih.2 h3 h4⟩,hc _ _ ih.2 h3 h4⟩
end
def Anc(adj:Nat->Nat->Prop)(pos:Nat->Nat)(a b:Nat):Prop:=pos a<pos b/\Path adj (λc=>pos a<=pos c) a b
section
variable {adj:Nat->Nat->Prop}{pos:Nat->Nat}(hs:∀a b,adj a b->adj b a)
theorem Anc.trans{a b c:Nat}(r:Anc adj pos a b)(s:Anc adj pos b c):Anc adj pos a c:=by
 have u:=r.1;exact⟨U9 r.1 s.1,r.2.trans (s.2.mono λd hd=>by omega)⟩
include hs in
theorem Anc.lin(r:Anc adj pos a c)(s:Anc adj pos b c)(h:pos a<pos b):Anc adj pos a b:=
 ⟨h,r.2.trans ((s.2.symm hs (BY _)).mono λd hd=>by omega)⟩
end
structure IsOrd(n:Nat)(adj:Nat->Nat->Prop)(pos:Nat->Nat)(P:List Int):Prop where
 len:P.length=n
 par:∀b,b<n->(P.getD b 0= -1/\∀a,a<n->¬Anc adj pos a b)\/(∃a:Nat,a<n/\P.getD b 0=(a:Int)/\Anc adj pos a b/\∀a',a'<n->Anc adj pos a' b->a'=a\/Anc adj pos a' a)
section
variable {n:Nat}{adj:Nat->Nat->Prop}{pos:Nat->Nat}{P:List Int}
theorem IsOrd.upF(h:IsOrd n adj pos P):∀(m b k:Nat),b<n->pos b<=m->pos b<=k->(upF P k (P.getD b 0)).isSome=Sm:=by
 intro m;induction m with
 | zero=>
   intro b k hb hm hk;rcases h.par b hb with⟨h1,_⟩|⟨a,ha,h1,h2,_⟩
   .rw[h1,ph Vh];rfl
   .have:=h2.1;omega
 | succ m ih=>
   intro b k hb hm hk;rcases h.par b hb with⟨h1,_⟩|⟨a,ha,h1,h2,_⟩
   .rw[h1,ph Vh];rfl
   .have:=h2.1;obtain⟨k',rfl⟩:∃k',k=k'+1:=⟨k-1,Vf⟩;rw[h1,xA (by rw[h.len];exact ha),Option.isSome_map];have:=ih a k' ha Vf Vf;rwa [getD_eq (by rw[h.len];exact ha)]at this
theorem IsOrd.iw(h:IsOrd n adj pos P)(r:∀b,b<n->pos b<n):UpOk P:=by
 refine⟨λp r=>?_,λv hv=>?_⟩
 .obtain⟨b,hb,e⟩:=Sp r;rw[<-getD_eq hb 0]at e;have d:b<n:=by rw[<-h.len];exact hb
  have:=h.len;rcases h.par b d with⟨h1,_⟩|⟨a,ha,h1,_,_⟩<;>omega
 .have hv':v<n:=by rw[<-h.len];exact hv
  have:=h.upF (pos v) v P.length hv' (BY _) (by rw[h.len];exact Vc (r v hv'));rwa [Ay hv,<-getD_eq hv 0]
theorem IsOrd.mem(h:IsOrd n adj pos P)(r:∀b,b<n->pos b<n):∀b,b<P.length->∀a:Nat,(a:Int)∈cq P b↔a<n/\Anc adj pos a b:=by
 have s:=h.len;refine Ax (h.iw r) (λv hv hr e a=>?_) (λv hv p hpl hr e ih a=>?_)
 .rw[e];rcases h.par v Vf with⟨_,h2⟩|⟨c,hc,h1,_,_⟩
  .exact⟨λd=>absurd d Sn,λd=>absurd d.2 (h2 a d.1)⟩
  .rw[getD_eq hv,hr]at h1;omega
 .rw[e,AS,ih a];rcases h.par v Vf with⟨h1,_⟩|⟨c,hc,h1,h2,h3⟩
  .rw[getD_eq hv,hr]at h1;omega
  .rw[getD_eq hv,hr]at h1;have:c=p:=Vf;subst this;constructor
   .rintro(h4|h4)
    .have:a=c:=Vf;subst this;exact⟨hc,h2⟩
    .exact⟨h4.1,h4.2.trans h2⟩
   .rintro⟨h4,h5⟩;rcases h3 a h4 h5 with rfl|h6
    .exact .inl O
    .exact .inr ⟨h4,h6⟩
theorem IsOrd.unique{P':List Int}(h:IsOrd n adj pos P)(r:IsOrd n adj pos P'):P=P':=by
 apply SO
 .rw[h.len,r.len]
 .intro b h1 h2;have d:b<n:=by rw[<-h.len];exact h1
  rw[<-getD_eq h1 0,<-getD_eq h2 0];rcases h.par b d with⟨e1,f1⟩|⟨a,ha,e1,g1,k1⟩
  .rcases r.par b d with⟨e2,_⟩|⟨a',ha',e2,g2,_⟩
   .rw[e1,e2]
   .exact absurd g2 (f1 a' ha')
  .rcases r.par b d with⟨e2,f2⟩|⟨a',ha',e2,g2,k2⟩
   .exact absurd g1 (f2 a ha)
   .rw[e1,e2];rcases k1 a' ha' g2 with e3|e3
    .rw[e3]
    .rcases k2 a ha g1 with e4|e4
     .rw[e4]
     .exact absurd (U9 e3.1 e4.1) (Nat.lt_irrefl _)
end
def tC(S:Sch)(a b:Nat):Prop:=a≠b/\fk S a b=Sm
theorem n4{a b:Int}(h:fk S a b=Sm):fk S b a=Sm:=by
 unfold fk at h ⊢;obtain⟨r,hr,h2⟩:=SR.1 h;rw[SR];exact⟨r,hr,by rw[Bool.and_comm];exact h2⟩
theorem pN(S:Sch):∀a b,tC S a b->tC S b a:=λ_ _ h=>⟨λe=>h.1 e.symm,n4 h.2⟩
def ga(q:List Int)(a:Nat):Nat:=q.idxOf (a:Int)
theorem FL(d:q.Perm (upZ n))(r:a<n):ga q a<n:=by
 have:q.idxOf (a:Int)<q.length:=TS (d.mem_iff.2 (bU.2 ⟨a,r,O⟩));rwa [d.length_eq,a6]at this
theorem kB(A:q.Perm (upZ n))(B:a<n)(h:ga q a=ga q b):a=b:=by
 have d:q.idxOf (a:Int)<q.length:=TS (A.mem_iff.2 (bU.2 ⟨a,B,O⟩));have r:q.idxOf (b:Int)<q.length:=by unfold ga at h;rw[<-h];exact d
 have s:q[q.idxOf (a:Int)]=(a:Int):=List.getElem_idxOf d;have u:q[q.idxOf (b:Int)]=(b:Int):=List.getElem_idxOf r;have z:q[q.idxOf (a:Int)]=q[q.idxOf (b:Int)]:=by unfold ga at h;congr 1
 rw[s,u]at z;omega
theorem IsOrd.ok(u:Valid S)(D:q.Perm (upZ S.attrs.length))(h:IsOrd S.attrs.length (tC S) (ga q) P):OrdOk S P:=by
 have z:∀b,b<S.attrs.length->ga q b<S.attrs.length:=λb hb=>FL D hb
 have B:=h.iw z;refine⟨u,h.len,B.rng,B.up,λr hr=>?_⟩;unfold er;rw[Ri];intro a ha;rw[Ri];intro b hb;obtain⟨x,hx⟩:=Rm (u.rng r hr a ha).1;obtain⟨y,hy⟩:=Rm (u.rng r hr b hb).1;have s:x<S.attrs.length:=by have:=(u.rng r hr a ha).2;omega
 have A:y<S.attrs.length:=by have:=(u.rng r hr b hb).2;omega
 by_cases e:a=b
 .simp[e]
 .have hxy:x≠y:=Vf;have d:tC S x y:=⟨hxy,by rw[<-hx,<-hy];exact wj hr ha hb⟩;have E:=h.len;rcases Nat.lt_or_gt_of_ne (λe=>hxy (kB D s e))with h1|h1
  .have:(x:Int)∈cq P y:=(h.mem z y Vf x).2 ⟨s,h1,.one d (Vc h1)⟩;rw[hx,hy];simp[hiB,this]
  .have:(y:Int)∈cq P x:=(h.mem z x Vf y).2 ⟨A,h1,.one (pN S _ _ d) (Vc h1)⟩;rw[hx,hy];simp[hiB,this]
end
section
def mE(G:List B64)(a b:Nat):Prop:=(G.getD a 0#64).getLsbD b=Sm
theorem A4{G:List B64}{rest:B64}:Reach G rest a b↔Path (mE G) (λc=>rest.getLsbD c=Sm) a b:=by
 constructor
 .intro h;induction h with
  |refl=>exact .refl
  |step _ h1 h2 ih=>exact .step ih h1 h2
 .intro h;induction h with
  |refl=>exact .refl
  |step _ h1 h2 ih=>exact .step ih h1 h2
structure Comp(adj:Nat->Nat->Prop)(rest c:B64):Prop where
 sub:∀i,c.getLsbD i=Sm->rest.getLsbD i=Sm
 clo:∀i j,c.getLsbD i=Sm->adj i j->rest.getLsbD j=Sm->c.getLsbD j=Sm
 con:∀i j,c.getLsbD i=Sm->c.getLsbD j=Sm->Path adj (λx=>c.getLsbD x=Sm) i j
 ne:∃i,c.getLsbD i=Sm
structure CompsI(adj:Nat->Nat->Prop)(rest:B64)(k:Nat)(cs:List B64)(R:B64):Prop where
 all:∀c∈cs,Comp adj rest c
 cov:∀i,rest.getLsbD i=Sm↔R.getLsbD i=Sm\/∃c∈cs,c.getLsbD i=Sm
 dis:∀i,R.getLsbD i=Sm->∀c∈cs,¬c.getLsbD i=Sm
 pw:cs.Pairwise (λc d=>∀i,c.getLsbD i=Sm->¬d.getLsbD i=Sm)
 low:∀i,i<k->¬R.getLsbD i=Sm
theorem oP(x y:B64)(i:Nat):(x&&& ~~~y).getLsbD i=Sm↔x.getLsbD i=Sm/\¬y.getLsbD i=Sm:=by
 rw[Us,BitVec.getLsbD_not];constructor
 .intro h;simp at h;exact⟨h.1,by rw[h.2.2];decide⟩
 .rintro⟨h1,h2⟩;have:=iO h1;have d:y.getLsbD i=S1:=by simpa using h2
  rw[h1,d,Ru this];rfl
theorem vt(G:List B64)(rest:B64)(z:∀a b,mE G a b->mE G b a):∀k,CompsI (mE G) rest k (compsN G rest k).1 (compsN G rest k).2
 |0=>⟨by simp[compsN],by simp[compsN],by simp[compsN],by simp[compsN],by intro i h;omega⟩
 | k+1=>by
   have h:=vt G rest z k;simp only[compsN];generalize compsN G rest k=cr at*;obtain⟨cs,R⟩:=cr;simp only at h ⊢;by_cases hk:R.getLsbD k=Sm
   .rw[AT hk];have r:∀i,(compB G R k).getLsbD i=Sm->R.getLsbD i=Sm:=λi hi=>uL hk hi
    have s:(compB G R k).getLsbD k=Sm:=(pH (iO hk)).2 .refl;have u:∀i j,(compB G R k).getLsbD i=Sm->mE G i j->R.getLsbD j=Sm->(compB G R k).getLsbD j=Sm:=λi j h1 h2 h3=>
     (pH (iO h3)).2 (.step (j6 h1) h2 h3)
    have A:Comp (mE G) rest (compB G R k):=by
     refine⟨λi hi=>(h.cov i).2 (.inl (r i hi)),λi j h1 h2 h3=>?_,?_,⟨k,s⟩⟩
     .rcases(h.cov j).1 h3 with h4|⟨d,hd,h4⟩
      .exact u i j h1 h2 h4
      .exact absurd ((h.all d hd).clo j i h4 (z i j h2) ((h.cov i).2 (.inl (r i h1)))) (h.dis i (r i h1) d hd)
     .have one:∀i,(compB G R k).getLsbD i=Sm->Path (mE G) (λx=>(compB G R k).getLsbD x=Sm) k i:=λi hi=>
       ((A4.1 (j6 hi)).stay (inn:=λx=>(compB G R k).getLsbD x=Sm) s u).1.mono λc hc=>hc.2
      exact λi j hi hj=>((one i hi).symm z s).trans (one j hj)
    refine⟨λc hc=>?_,λi=>?_,λi hi c hc=>?_,?_,λi hi hR=>?_⟩
    .rcases Rx.1 hc with hc|hc
     .exact h.all c hc
     .rw[Rn.1 hc];exact A
    .rw[h.cov i,oP];constructor
     .rintro(h1|⟨c,hc,h1⟩)
      .by_cases h2:(compB G R k).getLsbD i=Sm
       .exact .inr ⟨_,To _ (Rn.2 O),h2⟩
       .exact .inl ⟨h1,h2⟩
      .exact .inr ⟨c,S7 _ hc,h1⟩
     .rintro(h1|⟨c,hc,h1⟩)
      .exact .inl h1.1
      .rcases Rx.1 hc with hc|hc
       .exact .inr ⟨c,hc,h1⟩
       .rw[Rn.1 hc]at h1;exact .inl (r i h1)
    .rw[oP]at hi;rcases Rx.1 hc with hc|hc
     .exact h.dis i hi.1 c hc
     .rw[Rn.1 hc];exact hi.2
    .rw[List.pairwise_append];refine⟨h.pw,Vj,λc hc d hd i h1 h2=>?_⟩;rw[Rn.1 hd]at h2;exact h.dis i (r i h2) c hc h1
    .rw[oP]at hR;by_cases e:i=k
     .subst e;exact hR.2 s
     .exact h.low i Vf hR.1
   .rw[dt hk];refine⟨h.all,h.cov,h.dis,h.pw,λi hi=>?_⟩;by_cases e:i=k
    .subst e;exact hk
    .exact h.low i Vf
def CE(adj:Nat->Nat->Prop)(pos:Nat->Nat)(rest:B64)(a b:Nat):Prop:=
 rest.getLsbD a=Sm/\rest.getLsbD b=Sm/\pos a<pos b/\Path adj (λc=>rest.getLsbD c=Sm/\pos a<=pos c) a b
def IQ(adj:Nat->Nat->Prop)(pos:Nat->Nat)(rest:B64)(par:Int)(b:Nat)(x:Int):Prop:=
 (x=par/\∀a,¬CE adj pos rest a b)\/∃a:Nat,x=(a:Int)/\CE adj pos rest a b/\∀a',CE adj pos rest a' b->a'=a\/CE adj pos rest a' a
theorem I8(z:q.Perm (upZ n)){c:B64}(hc:∀i,c.getLsbD i=Sm->i<n)(s:∃i,c.getLsbD i=Sm):
  ∃a:Nat,a<n/\q.find? (λx=>c.getLsbD x.toNat)=Sh (a:Int)/\c.getLsbD a=Sm/\∀i,c.getLsbD i=Sm->ga q a<=ga q i:=by
 cases hf:q.find? (λx=>c.getLsbD x.toNat)with
 | none=>
   obtain⟨i,hi⟩:=s;have:=List.find?_eq_none.1 hf (i:Int) (z.mem_iff.2 (bU.2 ⟨i,hc i hi,O⟩));simp at this;rw[hi]at this;cases this
 | some x=>
   obtain⟨h1,us,vs,h2,h3⟩:=List.find?_eq_some_iff_append.1 hf;have r:x∈q:=by rw[h2];simp
   obtain⟨a,ha,rfl⟩:=bU.1 (z.mem_iff.1 r);have d:c.getLsbD a=Sm:=by simpa using h1
   refine⟨a,ha,O,d,λi hi=>?_⟩;have u:∀j:Nat,c.getLsbD j=Sm->(j:Int)∉us:=λj hj hm=>by
    have:=h3 _ hm;simp at this;rw[hj]at this;cases this
   unfold ga;rw[h2,List.idxOf_append,List.idxOf_append,dt (u a d),dt (u i hi)];simp
section
variable {n:Nat}{G:List B64}{q:List Int}(hG:G.length=n)(hs:∀a b,mE G a b->mE G b a)(hq:q.Perm (upZ n))
theorem CE.sub{r r':B64}(h:∀i,r.getLsbD i=Sm->r'.getLsbD i=Sm)(k:CE adj pos r a b):CE adj pos r' a b:=
 ⟨h _ k.1,h _ k.2.1,k.2.2.1,k.2.2.2.mono λc hc=>⟨h _ hc.1,hc.2⟩⟩
include hs hq in
theorem xE{f:Nat}(IH:∀rest par P,ku rest<=f->(∀i,rest.getLsbD i=Sm->i<n)->P.length=n->∀b,b<n->(rest.getLsbD b=S1->(placeF G q f rest par P).getD b 0=P.getD b 0)/\(rest.getLsbD b=Sm->IQ (mE G) (ga q) rest par b ((placeF G q f rest par P).getD b 0)))
  {rest c:B64} (hc:Comp (mE G) rest c) (M:∀a,c.getLsbD a=Sm->ku (c&&& ~~~(BitVec.twoPow 64 a))<=f) (V:∀i,rest.getLsbD i=Sm->i<n) (par:Int) (P:List Int) (W:P.length=n) (b:Nat) (hb:b<n):
  (c.getLsbD b=S1->(iG q (placeF G q f) par P c).getD b 0=P.getD b 0)/\(c.getLsbD b=Sm->IQ (mE G) (ga q) rest par b ((iG q (placeF G q f) par P c).getD b 0)):=by
 obtain⟨a,ha,hfind,hca,hmin⟩:=I8 hq (λi hi=>V i (hc.sub i hi)) hc.ne;have e:iG q (placeF G q f) par P c=placeF G q f (c&&& ~~~(BitVec.twoPow 64 a)) a (P.set a par):=by unfold iG;rw[hfind];rfl
 rw[e];have r:∀i,(c&&& ~~~(BitVec.twoPow 64 a)).getLsbD i=Sm↔c.getLsbD i=Sm/\a≠i:=λi=>by rw[mV,sh,SA]
 have J:=IH (c&&& ~~~(BitVec.twoPow 64 a)) a (P.set a par) (M a hca) (λi hi=>V i (hc.sub i ((r i).1 hi).1)) (by simp[W]) b hb;have D:∀a' b',CE (mE G) (ga q) rest a' b'->c.getLsbD b'=Sm->c.getLsbD a'=Sm:=by
  intro a' b' s h2;have L:=(s.2.2.2.symm hs ⟨s.1,BY _⟩);exact(L.stay (inn:=λx=>c.getLsbD x=Sm) h2 (λx y hx hxy hy=>hc.clo x y hx hxy hy.1)).2
 have u:∀a' b',CE (mE G) (ga q) rest a' b'->c.getLsbD b'=Sm->a'≠a->CE (mE G) (ga q) (c&&& ~~~(BitVec.twoPow 64 a)) a' b':=by
  intro a' b' s h2 B;have z:=D a' b' s h2;have Z:ga q a<ga q a':=Nat.lt_of_le_of_ne (hmin a' z) (λe=>B (kB hq ha e).symm);have aa:=s.2.2.1;refine⟨(r a').2 ⟨z,λe=>B e.symm⟩,(r b').2 ⟨h2,λe=>by subst e;omega⟩,s.2.2.1,?_⟩;refine((s.2.2.2.stay (inn:=λx=>c.getLsbD x=Sm) z (λx y hx hxy hy=>hc.clo x y hx hxy hy.1)).1.mono λx hx=>?_);exact⟨(r x).2 ⟨hx.2,λe=>by have:=hx.1.2;subst e;omega⟩,hx.1.2⟩
 have E:∀b',c.getLsbD b'=Sm->a≠b'->CE (mE G) (ga q) rest a b':=λb' s h2=>
  ⟨hc.sub a hca,hc.sub b' s,Nat.lt_of_le_of_ne (hmin b' s) (λe=>h2 (kB hq ha e)),(hc.con a b' hca s).mono λx hx=>⟨hc.sub x hx,hmin x hx⟩⟩
 have H:∀i,(c&&& ~~~(BitVec.twoPow 64 a)).getLsbD i=Sm->rest.getLsbD i=Sm:=λi hi=>hc.sub i ((r i).1 hi).1
 constructor
 .intro hcb;have A:a≠b:=λe=>by subst e;rw[hca]at hcb;cases hcb
  have s:(c&&& ~~~(BitVec.twoPow 64 a)).getLsbD b=S1:=by
   cases h2:(c&&& ~~~(BitVec.twoPow 64 a)).getLsbD b with
   |false=>rfl
   |true=>rw[((r b).1 h2).1]at hcb;cases hcb
  rw[J.1 s,List.getD,List.getD,Tl A]
 .intro hcb;by_cases A:a=b
  .subst A;have s:(c&&& ~~~(BitVec.twoPow 64 a)).getLsbD a=S1:=by rw[mV];simp
   left
   refine⟨by rw[J.1 s,List.getD];simp[W,ha],λa' h2=>?_⟩;have B:=D a' a h2 hca;have:=hmin a' B;have:=h2.2.2.1;omega
  .have s:(c&&& ~~~(BitVec.twoPow 64 a)).getLsbD b=Sm:=(r b).2 ⟨hcb,A⟩;right
   rcases J.2 s with⟨h2,B⟩|⟨d,h2,B,h4⟩
   .refine⟨a,h2,E b hcb A,λa' h5=>?_⟩;by_cases e2:a'=a
    .exact .inl e2
    .exact absurd (u a' b h5 hcb e2) (B a')
   .refine⟨d,h2,B.sub H,λa' h5=>?_⟩;have U:=(r d).1 B.1;by_cases e2:a'=a
    .right;rw[e2];exact E d U.1 U.2
    .rcases h4 a' (u a' b h5 hcb e2)with h6|h6
     .exact .inl h6
     .exact .inr (h6.sub H)
include hG hs hq in
theorem Cn:∀(f:Nat)(rest:B64)(par:Int)(P:List Int),ku rest<=f->(∀i,rest.getLsbD i=Sm->i<n)->P.length=n->∀b,b<n->(rest.getLsbD b=S1->(placeF G q f rest par P).getD b 0=P.getD b 0)/\(rest.getLsbD b=Sm->IQ (mE G) (ga q) rest par b ((placeF G q f rest par P).getD b 0)):=by
 intro f;induction f with
 | zero=>
   intro rest par P hf hr hP b hb;refine⟨λ_=>rfl,λh=>?_⟩;rw[Kn (Nat.le_zero.1 hf) b]at h;cases h
 | succ f IH=>
   intro rest par P hf hr hP b hb;have s:=vt G rest hs G.length;have u:∀c∈(compsN G rest G.length).1,∀a,c.getLsbD a=Sm->ku (c&&& ~~~(BitVec.twoPow 64 a))<=f:=λc hc a ha=>by have:=Iu hc ha;omega
   have z:∀(cs:List B64)(P:List Int),(∀c∈cs,Comp (mE G) rest c)->(∀c∈cs,∀a,c.getLsbD a=Sm->ku (c&&& ~~~(BitVec.twoPow 64 a))<=f)->cs.Pairwise (λc d=>∀i,c.getLsbD i=Sm->¬d.getLsbD i=Sm)->P.length=n->
     ((∀c∈cs,¬c.getLsbD b=Sm)->(cs.foldl (iG q (placeF G q f) par) P).getD b 0=P.getD b 0)/\(∀c∈cs,c.getLsbD b=Sm->IQ (mE G) (ga q) rest par b ((cs.foldl (iG q (placeF G q f) par) P).getD b 0)):=by
    intro cs;induction cs with
    |nil=>intro P _ _ _ _;exact⟨λ_=>rfl,λc hc=>by cases hc⟩
    | cons c cs ih=>
      intro P h1 h2 h3 h4;have D:(iG q (placeF G q f) par P c).length=n:=by
       unfold iG;split
       .rw[nO];simp[h4]
       .exact h4
      have B:=xE hs hq IH (h1 c (Su ..)) (h2 c (Su ..)) hr par P h4 b hb;have A:=ih (iG q (placeF G q f) par P c) (λd hd=>h1 d (RX _ hd)) (λd hd=>h2 d (RX _ hd)) (Sa.1 h3).2 D;rw[Tf];constructor
      .intro h5;rw[A.1 (λd hd=>h5 d (RX _ hd))];exact B.1 (by simpa using h5 c (Su ..))
      .intro d hd h5;rcases AS.1 hd with rfl|hd
       .rw[A.1 (λe he=>(Sa.1 h3).1 e he b h5)];exact B.2 h5
       .exact A.2 d hd h5
   have r:=z (compsN G rest G.length).1 P s.all u s.pw hP;simp only[placeF];constructor
   .intro h1;refine r.1 λc hc h2=>?_
    rw[(s.all c hc).sub b h2]at h1;cases h1
   .intro h1;rcases(s.cov b).1 h1 with h2|⟨c,hc,h2⟩
    .exact absurd h2 (s.low b Vf)
    .exact r.2 c hc h2
include hG hs hq in
theorem MP(u:n<64)(s:∀a b,mE G a b->b<n):IsOrd n (mE G) (ga q) (ofL G q):=by
 have d:∀i,(HF G.length).getLsbD i=Sm↔i<n:=λi=>by rw[Kv Vf,SA,hG]
 have r:∀a b,a<n->b<n->(CE (mE G) (ga q) (HF G.length) a b↔Anc (mE G) (ga q) a b):=by
  intro a b ha hb;constructor
  .intro h;exact⟨h.2.2.1,h.2.2.2.mono λc hc=>hc.2⟩
  .intro h;refine⟨(d a).2 ha,(d b).2 hb,h.1,?_⟩;exact(h.2.stay (inn:=λx=>(HF G.length).getLsbD x=Sm) ((d a).2 ha) (λx y _ hxy _=>(d y).2 (s x y hxy))).1.mono λc hc=>⟨hc.2,hc.1⟩
 refine⟨by rw[O3,hG],λb hb=>?_⟩;have:=(Cn hG hs hq 64 (HF G.length) (-1) (List.replicate G.length 0) (Ew _) (λi hi=>(d i).1 hi) (by simp[hG]) b hb).2 ((d b).2 hb);rcases this with⟨h1,h2⟩|⟨a,h1,h2,h3⟩
 .exact .inl ⟨h1,λa ha h3=>h2 a ((r a b ha hb).2 h3)⟩
 .have ha:=(d a).1 h2.1;refine .inr ⟨a,ha,h1,(r a b ha hb).1 h2,λa' ha' h4=>?_⟩;rcases h3 a' ((r a' b ha' hb).2 h4)with h5|h5
  .exact .inl h5
  .exact .inr ((r a' a ha' ha).1 h5)
end
theorem Is(d:Valid S)(a b:Nat):mE (gr S) a b↔tC S a b:=by
 unfold mE tC;by_cases ha:a<S.attrs.length
 .rw[zP d ha,sh,SA]
 .rw[List.getD,SF (by rw[zN];omega)];constructor
  .intro h;simp at h
  .rintro⟨_,h⟩;have:=(oI d h).1;omega
theorem Me(d:Valid S):mE (gr S)=tC S:=by
 funext a b;exact propext (Is d a b)
theorem zx(r:Valid S)(s:q.Perm (upZ S.attrs.length)):IsOrd S.attrs.length (tC S) (ga q) (ordL S q):=by
 have d:=Me r;have u:=r.n2;have:=MP (G:=gr S) (q:=q) (n:=S.attrs.length) (zN S) (by rw[d];exact pN S) s Vf (by rw[d];intro a b h;have:=(oI r h.2).2;omega);rw[d]at this;exact this
end
section
open Mk
theorem Ba(S:Sch)(hS:SB S)(a b:Int):FnP prog 82 [eS S,.int .i64 a,.int .i64 b] (· = .bool (fk S a b)):=by
 refine FnP.of func82 O ntmps82 Vj λm0 w0 F R0=>?_
 have B:=hS.r;refine Z2 O<|Z4 O<|Gl O (st:=λVn:Nat=>mkS [(1,pIi a),(2,pIi b),(10,.pv (.sl Sl S.rels.length (aM S.rels))),(11,pIi S.rels.length),(12,pIi Vn)] [] 1)
  (I:=λVn=>Vn<=S.rels.length/\((S.rels.take Vn).any λr=>decide (a∈r.2)&&decide (b∈r.2))=S1) (μ:=λVn=>S.rels.length-Vn) (x0:=(0)) (Q5 (aS O) trivial O O) (⟨cd _,O⟩) ?_
 rintro k ⟨hk,hno⟩;refine Z1 O<|Gp O (λu=>?_) (λu=>?_)
 .have hlt:k<S.rels.length:=Vf;have s:=dK hlt;have z:=gF hlt;have A:=hS.rl _ (au hlt);refine Q3<|Z1 O<|Rs O (aU ⟨_,underlying74,O⟩ E6 O s O)<|Y2 O<|Z3 O<|Rs O (aa call60 (wF S.rels[k].2 a Vf) O)<|A1 O ?_;apply Rf 5 20 25 [21,22,23,24] O Vp
  .intro hb4;exact Y3 O<|Rg O (aa call60 (wF S.rels[k].2 b Vf) O)<|A1 O<|Q7 Vo O O O
  .intro hb4;iterate 5 refine A1 O ?_
   exact Q7 Vo O O O
  refine Gc O (λd=>?_) (λd=>?_)
  .exact Z1 O<|Gt O<|⟨_,_,O,O,ag PV.bool (by unfold fk;exact(qK (p:=λr:ByteArray×List Int=>decide (a∈r.2)&&decide (b∈r.2)) hlt d).symm)⟩
  .exact Q3<|Z2 O<|⟨(k+1),Q5 (aS O) trivial O O,⟨Vf,fK hlt hno d⟩,Vf⟩
 .exact Gx O<|Z1 O<|Gt O<|⟨_,_,O,O,ag PV.bool (by rw[aQ Vf]at hno;exact hno.symm)⟩
structure RInv(S:Sch)(rem:List Bool)(a n:Nat)(I:List Bool):Prop where
 len:I.length=n
 has:I.getD a S1=Sm
 snd:∀b,I.getD b S1=Sm->Path (tC S) (λc=>rem.getD c S1=S1) a b
def OZ(S:Sch)(rem I:List Bool)(x y:Nat):Bool:=((I.getD x S1&& !I.getD y S1)&& !rem.getD y S1)&&fk S x y
structure PInv(S:Sch)(rem:List Bool)(a n F k:Nat)(I:List Bool)(more:Bool):Prop where
 r:RInv S rem a n I
 le:I.count S1<=F
 lt:more=Sm->I.count S1<F
 no:more=S1->∀x,x<k->∀y,y<n->OZ S rem I x y=S1
theorem count_set{y:Nat}(d:y<I.length)(h:I[y]=S1):(I.set y Sm).count S1<I.count S1:=by
 rw[List.count_set d,h];have:0<I.count S1:=List.count_pos_iff.2 (by rw[<-h];exact au d);simp;omega
theorem RInv.ext{x y:Nat}(h:RInv S rem a n I)(u:y<n)(d:OZ S rem I x y=Sm):RInv S rem a n (I.set y Sm)/\(I.set y Sm).count S1<I.count S1:=by
 unfold OZ at d;simp only[sh,TB]at d;have r:y<I.length:=by rw[h.len];exact u
 refine⟨⟨by simp[h.len],?_,λb hb=>?_⟩,count_set r (by rw[<-getD_eq r S1];exact d.1.1.2)⟩
 .by_cases e:a=y
  .subst e;simp[List.getD,r]
  .have:=h.has;simp only[List.getD]at this ⊢;rw[Tl (λs=>e s.symm)];exact this
 .by_cases e:b=y
  .subst e;refine .step (h.snd x d.1.1.1) ⟨λe=>?_,d.2⟩ d.1.2;subst e;rw[d.1.1.1]at d;exact absurd d.1.1.2 Vh
  .refine h.snd b ?_;simp only[List.getD]at hb ⊢;rw[Tl (λs=>e s.symm)]at hb;exact hb
theorem RInv.last(z:Valid S)(h:RInv S rem a n I)(B:n=S.attrs.length)(d:∀x,x<n->∀y,y<n->OZ S rem I x y=S1)(b:Nat):I.getD b S1=Sm↔Path (tC S) (λc=>rem.getD c S1=S1) a b:=by
 refine⟨h.snd b,λu=>?_⟩;induction u with
 |refl=>exact h.has
 | @step x y _ h1 h2 ih=>
   have A:=oI z h1.2;have r:x<n:=Vf;have s:y<n:=Vf;have:=d x r y s;unfold OZ at this;rw[ih,h2,h1.2]at this;simpa using this
theorem IL(h:k<I.length):(cj I)[k*1]? =Sh (.bool (I.getD k S1)):=by simp[List.getD,h]
abbrev schV(S:Sch):V:= .pv (eS S)
abbrev mO(l:List Bool):Ob:= .cells 4 (cj l)
theorem Bn(S:Sch)(hS:SB S)(hV:Valid S)(n:Nat)(hn:n=S.attrs.length)(rem:List Bool)(hrem:rem.length=n)(a:Nat)(ha:a<n):
  FnO prog 285 1 0 [schV S,.osl big 1 n,pIi a] [(big,mO rem)]
   (λv ob'=>(∃I:List Bool,v= .pv (kO I)/\I.length=n/\∀b,I.getD b S1=Sm↔Path (tC S) (λc=>rem.getD c S1=S1) a b)/\ob'=ax [(big,mO rem)]):=by
 refine FnO.of func285 O ntmps285 Vj λm0 w0 F R0=>?_
 have hn12:=hV.n2;have M:RInv S rem a n ((List.replicate n S1).set a Sm):=by
  refine⟨Vj,by simp[List.getD,ha],λb hb=>?_⟩;by_cases e:b=a
  .subst e;exact .refl
  .simp only[List.getD]at hb;rw[Tl (λe'=>e e'.symm)]at hb;by_cases hbn:b<n
   .simp[hbn]at hb
   .rw[SF Vk]at hb;cases hb
 refine Z2 O<|Z3 O<|Rs O ((lF (zs:=[.bool S1]) 1 n KW O O O (by rw[hn]) (by rw[hn]) Vf O))<|A1 O<|Z2 O<|Rs O (ak a underlying215 sz4 O O O O ha)<|RL.step (d:=Sl) O O (bQ sz4 O O O O (by rw[cB];simp;omega))<|Z1 O ?_;refine Gl O (st:=λVn:List Bool×Bool=>mkS [(1,.osl big 1 n),(3,.ptr 0 0),(7,.osl 1 1 n),(8,.pv (.bool Vn.2))] [(big,mO rem),(0,.mix 30 (sCc S)),(1,mO Vn.1)] 2)
  (I:=λVn=>RInv S rem a n Vn.1/\(Vn.2=S1->∀x,x<n->∀y,y<n->OZ S rem Vn.1 x y=S1)) (μ:=λVn=>2*Vn.1.count S1+(if Vn.2=Sm then 1 else 0)) (x0:=((List.replicate n S1).set a Sm,Sm)) (Q5 (aS O) ⟨O,O,ag (λc=>Sh (Ob.cells 4 c)) (by rw[cB,R6,R6];show(List.replicate n (PV.bool S1)).set a (PV.bool Sm)=_;simp[SH]),Vm⟩ O O) (⟨M,λh=>by cases h⟩) ?_
 rintro⟨I,more⟩ ⟨hI,hdone⟩;try simp only at hI hdone ⊢
 refine Z1 O<|Gc O (λz=>?_) (λz=>?_)
 .subst z;refine Q3<|Z1 O<|Z3 O<|Gl O (st:=λu:Nat×List Bool×Bool=>mkS [(1,.osl big 1 n),(3,.ptr 0 0),(7,.osl 1 1 n),(8,.pv (.bool u.2.2)),(20,pIi n),(21,pIi u.1)] [(big,mO rem),(0,.mix 30 (sCc S)),(1,mO u.2.1)] 2)
   (I:=λu=>u.1<=n/\PInv S rem a n (I.count S1) u.1 u.2.1 u.2.2) (μ:=λu=>n-u.1) (x0:=(0,I,S1)) (Q5 (aS O) (aO O) O O) (⟨cd _,hI,BY _,(λh=>by cases h),λ_ x hx=>absurd hx (Tu _)⟩) ?_
  rintro⟨k,J,mo⟩ ⟨hk,hJ⟩;try simp only at hk hJ ⊢
  refine Z1 O<|Gp O (λE=>?_) (λE=>?_)
  .have hkn:k<n:=Vf;refine Q3<|Z2 O<|Z3 O<|Gl O (st:=λs:Nat×List Bool×Bool=>mkS [(1,.osl big 1 n),(3,.ptr 0 0),(7,.osl 1 1 n),(8,.pv (.bool s.2.2)),(9,pIi k),(20,pIi n),(21,pIi k),(25,pIi n),(26,pIi s.1)] [(big,mO rem),(0,.mix 30 (sCc S)),(1,mO s.2.1)] 2)
    (I:=λs=>s.1<=n/\PInv S rem a n (I.count S1) k s.2.1 s.2.2/\(s.2.2=S1->∀y,y<s.1->OZ S rem s.2.1 k y=S1)) (μ:=λs=>n-s.1) (x0:=(0,J,mo)) (Q5 (aS O) (aO O) O O) (⟨cd _,hJ,λ_ y hy=>absurd hy (Tu _)⟩) ?_
   rintro⟨j,K,mp⟩ ⟨hj,hK,hrow⟩;try simp only at hj hK hrow ⊢
   refine Z1 O<|Gp O (λH=>?_) (λH=>?_)
   .have hjn:j<n:=Vf;have hKl:=hK.r.len;have U:=IL (I:=K) (k:=k) Vf;have W:=IL (I:=K) (k:=j) Vf;have Z:=IL (I:=rem) (k:=j) Vf;refine Q3<|Z2 O<|Z2 O<|Rs O (ak k underlying215 sz4 O O O O hkn)<|Rs O (cm ⟨_,underlying4,O⟩ O O U)<|A1 O ?_;apply Rf 6 33 39 [34,35,36,37,38] O Vp
    .intro hb4;exact Y2 O<|Rg O (ak j underlying215 sz4 O O O O hjn)<|Rg O (cm ⟨_,underlying4,O⟩ O O W)<|Y2 O<|Q7 Vo O O O
    .intro hb4;iterate 6 refine A1 O ?_
     exact Q7 Vo O O O
    refine A1 O ?_;apply Rf 6 40 46 [41,42,43,44,45] O Vp
    .intro hb11;exact Y2 O<|Rg O (ak j underlying215 sz4 O O O O hjn)<|Rg O (cm ⟨_,underlying4,O⟩ O O Z)<|Y2 O<|Q7 Vo O O O
    .intro hb11;iterate 6 refine A1 O ?_
     exact Q7 Vo O O O
    refine A1 O ?_;apply Rf 5 47 52 [48,49,50,51] O Vp
    .intro hb18;exact Y3 O<|Rg O (aa call82 (Ba S hS k j) O)<|A1 O<|Q7 Vo O O O
    .intro hb18;iterate 5 refine A1 O ?_
     exact Q7 Vo O O O
    refine Gc O (λA=>?_) (λA=>?_)
    .have hext:=hK.r.ext hjn (x:=k) A;have B:=hK.le;exact Z2 O<|Rs O (ak j underlying215 sz4 O O O O hjn)<|RL.step (d:=Sl) O O (bQ sz4 O O O O Vk)<|A1 O<|Z2 O<|⟨(j+1,K.set j Sm,Sm),Q5 (aS O) ⟨O,O,ag (λc=>Sh (Ob.cells 4 c)) (by simp[SH];rfl),Vm⟩ O O,⟨Vl,⟨hext.1,IT (Vc hext.2) B,λ_=>RA hext.2 B,(λh=>by cases h)⟩,(λh=>by cases h)⟩,Vl⟩
    .exact Q3<|Z2 O<|⟨(j+1,K,mp),Q5 (aS O) (aO O) O O,⟨Vl,hK,λh y hy=>by rcases SP.1 hy with L|rfl;exact hrow h y L;exact A⟩,Vl⟩
   .have hjn:j=n:=Vf;exact Gx O<|Z2 O<|⟨(k+1,K,mp),Q5 (aS O) (aO O) O O,⟨Vl,hK.r,hK.le,hK.lt,λh x hx y hy=>by rcases SP.1 hx with L|rfl;exact hK.no h x L y hy;exact hrow h y Vf⟩,Vl⟩
  .have hkn:k=n:=Vf;exact Gx O<|⟨(J,mo),Q5 (aS O) (aO O) O O,⟨hJ.r,λh x hx y hy=>hJ.no h x Vf y hy⟩,by have L:=hJ.le;have h2:=hJ.lt;simp only;cases mo with|false=>simp;omega|true=>have:=h2 O;simp;omega⟩
 .subst z;have D:=hI.last hV hn (hdone O);exact Gx O<|Q4 (Q8 1 O O)<|Z2 O<|Q4 (St.qq [6])<|Gt O<|⟨[(6,.pv (kO I))],[(big,mO rem)],[.pv (kO I)],Q5 ⟨by show V.pv (.sl Sl n (cj I))=_;rw[kO,hI.len],Vm⟩ (aO O) O O,O,O,O,⟨I,O,hI.len,D⟩,O⟩
end
section
open Mk
def Im(n:Nat)(adj:Nat->Nat->Prop)(pos:Nat->Nat)(i:Nat)(P:List Int):Prop:=
 ∀b,b<n->(P.getD b 0= -1/\∀a,a<n->pos a<i->¬Anc adj pos a b)\/∃a:Nat,a<n/\P.getD b 0=(a:Int)/\pos a<i/\Anc adj pos a b/\∀a',a'<n->pos a'<i->Anc adj pos a' b->pos a'<=pos a
theorem Im.last(s:∀a b,adj a b->adj b a)(r:∀a,a<n->pos a<n)(d:∀a b,a<n->pos a=pos b->a=b)(u:P.length=n)(h:Im n adj pos n P):IsOrd n adj pos P:=by
 refine⟨u,λb hb=>?_⟩;rcases h b hb with⟨h1,h2⟩|⟨a,ha,h1,_,h2,h3⟩
 .exact .inl ⟨h1,λa ha=>h2 a ha (r a ha)⟩
 .refine .inr ⟨a,ha,h1,h2,λa' ha' h4=>?_⟩;rcases Nat.lt_or_eq_of_le (h3 a' ha' (r a' ha') h4)with h5|h5
  .exact .inr (h4.lin s h2 h5)
  .exact .inl (d a' a ha' h5)
theorem Im.next(z:∀a b,a<n->pos a=pos b->a=b)(D:a<n)(J:pos a=i)(h:Im n adj pos i P){I:Nat->Prop}
  (E:∀b,b<n->(I b↔Path adj (λc=>pos a<=pos c) a b)) (H:∀b,b<n->(I b/\b≠a->Q.getD b 0=(a:Int))/\(¬ (I b/\b≠a)->Q.getD b 0=P.getD b 0)):Im n adj pos (i+1) Q:=by
 intro b hb;have u:I b/\b≠a↔Anc adj pos a b:=by
  constructor
  .rintro⟨s,h2⟩;have B:=(E b hb).1 s;have A:pos a<=pos b:=B.fin (ok:=λc=>pos a<=pos c) (BY _);exact⟨Nat.lt_of_le_of_ne A (λe=>h2 (z a b D e).symm),B⟩
  .rintro⟨s,h2⟩;exact⟨(E b hb).2 h2,λe=>by subst e;omega⟩
 have r:∀a',a'<n->pos a'<i+1->a'=a\/pos a'<i:=λa' ha' s=>by
  by_cases e:pos a'=i
  .exact .inl (z a' a ha' Vf)
  .exact .inr Vf
 by_cases hA:Anc adj pos a b
 .refine .inr ⟨a,D,(H b hb).1 (u.2 hA),Vf,hA,λa' ha' s _=>by omega⟩
 .rw[(H b hb).2 (λs=>hA (u.1 s))];rcases h b hb with⟨s,h2⟩|⟨d,hd,s,h2,A,h4⟩
  .refine .inl ⟨s,λa' ha' A h4=>?_⟩;rcases r a' ha' A with rfl|h5
   .exact hA h4
   .exact h2 a' ha' h5 h4
  .refine .inr ⟨d,hd,s,Vf,A,λa' ha' h5 h6=>?_⟩;rcases r a' ha' h5 with rfl|h7
   .exact absurd h6 hA
   .exact h4 a' ha' h7 h6
theorem pos_at(r:q.Perm (upZ n))(s:i<q.length)(h:q[i]=(a:Int)):ga q a=i:=by
 have d:q.Nodup:=r.nodup_iff.2 (dy n);unfold ga;rw[<-h];exact d.idxOf_getElem i s
theorem ints_set(P:List Int)(b:Nat)(x:Int):(aE P).set b (.int .i64 x)=aE (P.set b x):=by simp[SH]
theorem Jk{m:Nat}(r:R.length=n)(u:∀b,b<n->(b<j/\I.getD b S1=Sm/\b≠a->R.getD b 0=(a:Int))/\(¬ (b<j/\I.getD b S1=Sm/\b≠a)->R.getD b 0=Q.getD b 0))(B:j<m)(D:m=n)(d:I.getD j S1=Sm/\j≠a)(b:Nat)(s:b<n):
  (b<j+1/\I.getD b S1=Sm/\b≠a->(R.set j (a:Int)).getD b 0=(a:Int))/\(¬ (b<j+1/\I.getD b S1=Sm/\b≠a)->(R.set j (a:Int)).getD b 0=Q.getD b 0):=by
 by_cases e:b=j
 .subst e;refine⟨λ_=>by simp[List.getD,r,s],λh=>absurd ⟨Nat.lt_succ_self _,d.1,d.2⟩ h⟩
 .have e1:(R.set j (a:Int)).getD b 0=R.getD b 0:=by simp only[List.getD];rw[Tl (λz=>e z.symm)]
  rw[e1];exact⟨λh=>(u b s).1 ⟨Vf,h.2⟩,λh=>(u b s).2 (λA=>h ⟨Vf,A.2⟩)⟩
theorem Dh(r:∀b,b<n->(b<j/\I.getD b S1=Sm/\b≠a->R.getD b 0=(a:Int))/\(¬ (b<j/\I.getD b S1=Sm/\b≠a)->R.getD b 0=Q.getD b 0))(d:¬ (I.getD j S1=Sm/\j≠a))(b:Nat)(s:b<n):
  (b<j+1/\I.getD b S1=Sm/\b≠a->R.getD b 0=(a:Int))/\(¬ (b<j+1/\I.getD b S1=Sm/\b≠a)->R.getD b 0=Q.getD b 0):=by
 refine⟨λh=>(r b s).1 ⟨?_,h.2⟩,λh=>(r b s).2 (λu=>h ⟨Vf,u.2⟩)⟩;by_cases e:b=j
 .subst e;exact absurd h.2 d
 .omega
theorem J6(A:q.Perm (upZ S.attrs.length))(u:q.length=S.attrs.length)(s:ga q a=i)(d:∀c,c<q.length->(rem.getD c S1=S1↔i<=ga q c))(z:Valid S){X:Prop}(h:X↔Path (tC S) (λc=>rem.getD c S1=S1) a b):
  X↔Path (tC S) (λc=>ga q a<=ga q c) a b:=by
 rw[h];have r:∀(p p':Nat->Prop),(∀c,c<q.length->p c->p' c)->∀b,Path (tC S) p a b->Path (tC S) p' a b:=by
  intro p p' hpp b hb;induction hb with
  |refl=>exact .refl
  | @step x y _ h1 h2 ih=>
    have:=(oI z h1.2).2;exact .step ih h1 (hpp y Vf h2)
 rw[s];exact⟨r _ _ (λc hc h=>(d c hc).1 h) b,r _ _ (λc hc h=>(d c hc).2 h) b⟩
theorem Ia(u:q.Perm (upZ S.attrs.length))(z:q.length=S.attrs.length)(B:a<S.attrs.length)(A:ga q a=i)(r:rem.length=q.length)(d:∀c,c<q.length->(rem.getD c S1=S1↔i<=ga q c))(c:Nat)(hc:c<q.length):
  (rem.set a Sm).getD c S1=S1↔i+1<=ga q c:=by
 by_cases e:c=a
 .subst e;simp[List.getD,r,hc];omega
 .have e1:(rem.set a Sm).getD c S1=rem.getD c S1:=by simp only[List.getD];rw[Tl (λs=>e s.symm)]
  rw[e1,d c hc];have:ga q c≠ga q a:=λh=>e (kB u Vf h)
  omega
theorem H5(S:Sch)(hS:SB S)(M:Valid S)(q:List Int)(A:q.Perm (upZ S.attrs.length)):FnP prog 196 [eS S,aj q] (· =og (ordL S q)):=by
 refine FnP.fg2 (FnP.ofC func196 O ntmps196 Vj λm0 w0 F R0=>?_);have W:=M.n2;have B:q.length=S.attrs.length:=by rw[A.length_eq,a6]
 have z:∀a b,a<S.attrs.length->ga q a=ga q b->a=b:=λa b ha h=>kB A ha h
 have Z:∀a,a<S.attrs.length->ga q a<S.attrs.length:=λa ha=>FL A ha
 refine Z2 O<|Z2 O<|Rs O (lF (zs:=[.int .i64 0]) 2 q.length tm O O O O O Vf O)<|Y3 O<|Z2 O<|Rs O (lF (zs:=[.bool S1]) 4 q.length KW O O O O O Vf O)<|A1 O<|Z4 O<|Gl O (st:=λVn:Nat×List Int=>mkS [(1,.pv (aj q)),(2,.ptr 0 0),(4,.ptr 1 0),(5,.ptr 3 0),(6,.osl 4 1 q.length),(21,pIi q.length),(22,pIi Vn.1)] [(0,.mix 30 (sCc S)),(1,.mix 32 [.pv nS]),(2,Mc Vn.2),(3,.mix 32 [.osl 2 1 q.length]),(4,mO (List.replicate q.length S1))] 5)
  (I:=λVn=>Vn.1<=q.length/\Vn.2.length=q.length/\∀b,b<Vn.1->Vn.2.getD b 0= -1) (μ:=λVn=>q.length-Vn.1) (x0:=(0,List.replicate q.length 0)) (Q5 (aS O) ⟨O,O,ag (λc=>Sh (Ob.cells 3 c)) ((cB (.int .i64 0) (q.length*1)).trans Vj),O,ag (λc=>Sh (Ob.cells 4 c)) ((cB (.bool S1) (q.length*1)).trans Vj),Vm⟩ O O) (⟨cd _,Vj,λb hb=>absurd hb (Tu _)⟩) ?_
 rintro⟨k,P⟩ ⟨hk,hPl,hm⟩;try simp only at hk hPl hm ⊢
 refine Z1 O<|Gp O (λH=>?_) (λH=>?_)
 .have hlt:k<q.length:=Vf;exact Q3<|Z2 O<|Z3 O<|Rs O (ak k underlying22 sz3 O O O O hlt)<|RL.step (d:=Sl) O O (bQ sz3 O O O O Vk)<|Z2 O<|⟨(k+1,P.set k (-1)),Q5 (aS O) ⟨O,O,ag (λc=>Sh (Ob.cells 3 c)) (by rw[R6];exact ints_set P k (-1)),O,O,Vm⟩ O O,⟨Vl,by simp[hPl],λb hb=>by by_cases e:b=k;(subst e;simp[List.getD,hPl,hlt]);(have:=hm b (by simp only at hb;omega);simp only[List.getD]at this ⊢; rw[Tl (λe'=>e e'.symm)];exact this)⟩,Vl⟩
 .have hinit:Im S.attrs.length (tC S) (ga q) 0 P:=λb hb=> .inl ⟨hm b Vf,λa _ h=>absurd h (Tu _)⟩
  refine Gx O<|Z3 O<|Gl O (st:=λr:Nat×List Int×List Bool=>mkS [(2,.ptr 0 0),(4,.ptr 1 0),(5,.ptr 3 0),(6,.osl 4 1 q.length),(30,.pv (aj q)),(31,pIi q.length),(32,pIi r.1)] [(0,.mix 30 (sCc S)),(1,.mix 32 [.pv nS]),(2,Mc r.2.1),(3,.mix 32 [.osl 2 1 q.length]),(4,mO r.2.2)] 5)
   (I:=λr=>r.1<=q.length/\r.2.1.length=q.length/\r.2.2.length=q.length/\(∀c,c<q.length->(r.2.2.getD c S1=S1↔r.1<=ga q c))/\Im S.attrs.length (tC S) (ga q) r.1 r.2.1) (μ:=λr=>q.length-r.1) (x0:=(0,P,List.replicate q.length S1)) (Q5 (aS O) (aO O) O O) (⟨cd _,hPl,Vj,λc hc=>by simp[List.getD,hc],hinit⟩) ?_
  rintro⟨i,Q,rem⟩ ⟨hi,hQl,hrl,hrem,hO⟩;try simp only at hi hQl hrl hrem hO ⊢
  refine Z1 O<|Gp O (λJ=>?_) (λJ=>?_)
  .have hil:i<q.length:=Vf;have hv:=aX hil;have aa:=aD hil;obtain⟨a,ha,hqa⟩:=bU.1 (A.mem_iff.1 (au hil));have D:=pos_at A hil hqa;have U:=Bn S hS M q.length B rem hrl a Vf;refine Q3<|Z1 O ?_;first|refine A2 O Vi ?_|refine A1 O ?_
   refine A1 O<|Z3 O<|RL.call O (tE [4] 5 call285 U (by rw[<-hqa];rfl) O O O ⟨O,Vm⟩ Vh O ?_);rintro _ _ ⟨⟨I,rfl,hIl,hI⟩,rfl⟩;refine A1 O<|Z3 O<|Gl O (st:=λs:Nat×List Int=>mkS [(2,.ptr 0 0),(4,.ptr 1 0),(5,.ptr 3 0),(6,.osl 4 1 q.length),(9,.pv (.int .i64 q[i])),(10,.pv (kO I)),(30,.pv (aj q)),(31,pIi q.length),(32,pIi i),(41,pIi I.length),(42,pIi s.1)] [(0,.mix 30 (sCc S)),(1,.mix 32 [.pv nS]),(2,Mc s.2),(3,.mix 32 [.osl 2 1 q.length]),(4,mO rem)] 5)
    (I:=λs=>s.1<=I.length/\s.2.length=q.length/\∀b,b<q.length->(b<s.1/\I.getD b S1=Sm/\b≠a->s.2.getD b 0=(a:Int))/\(¬ (b<s.1/\I.getD b S1=Sm/\b≠a)->s.2.getD b 0=Q.getD b 0)) (μ:=λs=>I.length-s.1) (x0:=(0,Q)) (Q5 (aS O) (aO O) O O) (⟨cd _,hQl,λb _=>⟨λh=>absurd h.1 (Tu _),λ_=>rfl⟩⟩) ?_
   rintro⟨j,R⟩ ⟨hj,hRl,hR⟩;try simp only at hj hRl hR ⊢
   refine Z1 O<|Gp O (λL=>?_) (λL=>?_)
   .have hjl:j<I.length:=Vf;have ab:=IL hjl;have E:=vC hjl;refine Q3<|Z2 O<|Z2 O<|Rs O (ae j underlying215 sz4 O O O hjl E) ?_;first|refine A2 O Vi ?_|refine A1 O ?_
    refine A1 O ?_;apply Rf 4 49 53 [50,51,52] O Vp
    .intro hb4;iterate 4 refine A1 O ?_
     exact Q7 Vo O O O
    .intro hb4;iterate 4 refine A1 O ?_
     exact Q7 Vo O O O
    refine Gc O (λu=>?_) (λu=>?_)
    .have hcc:I.getD j S1=Sm/\j≠a:=by rw[hqa]at u;simp only[sh,bne_iff_ne]at u;exact⟨u.1,Vf⟩
     exact Z4 O<|Rs O (ak j underlying22 sz3 O O O O Vf)<|RL.step (d:=Sl) O O (bQ sz3 O O O O Vk)<|Z2 O<|⟨(j+1,R.set j a),Q5 (aS O) ⟨O,O,ag (λc=>Sh (Ob.cells 3 c)) (by rw[R6,hqa];exact ints_set R j a),O,O,Vm⟩ O O,⟨Vl,by simp[hRl],λb hb=>Jk hRl hR hjl hIl hcc b hb⟩,Vl⟩
    .have hcc:¬ (I.getD j S1=Sm/\j≠a):=by rw[hqa]at u;rintro⟨h1,V⟩;rw[h1,UM]at u;exact absurd (inF u) Vf
     exact Q3<|Z2 O<|⟨(j+1,R),Q5 (aS O) (aO O) O O,⟨Vl,hRl,λb hb=>Dh hR hcc b hb⟩,Vl⟩
   .have hO2:Im S.attrs.length (tC S) (ga q) (i+1) R:=hO.next z ha D (I:=λb=>I.getD b S1=Sm) (λb hb=>J6 A B D hrem M (hI b)) (λb hb=>⟨λh=>(hR b Vf).1 ⟨Vf,h.1,h.2⟩,λh=>(hR b Vf).2 (λV=>h ⟨V.2.1,V.2.2⟩)⟩);exact Gx O<|Z2 O<|Rs O (ak a underlying215 sz4 O O O hqa Vf)<|RL.step (d:=Sl) O O (bQ sz4 O O O O Vk)<|Z2 O<|⟨(i+1,R,rem.set a Sm),Q5 (aS O) ⟨O,O,O,O,ag (λc=>Sh (Ob.cells 4 c)) (by simp[SH];rfl),Vm⟩ O O,⟨Vl,hRl,by simp[hrl],λc hc=>Ia A B ha D hrl hrem c hc,hO2⟩,Vl⟩
  .have hord:Q=ordL S q:=(Im.last (pN S) Z z Vf (by rw[show i=S.attrs.length by omega]at hO;exact hO)).unique (zx M A);exact Gx O<|Z2 O<|Gt O<|⟨_,_,O,O,⟨az ⟨_,underlying32,O⟩ J4 O O O,Vm⟩,by show PV.agg [.sl Sl q.length (aE Q)]=_;rw[<-hord,og,aj,hQl]⟩
theorem Df(h:D9 q q.length=S1):q.Nodup:=by
 have d:∀n,D9 q n=S1->∀k,k<n->¬q.getD k 0∈q.take k:=by
  intro n;induction n with
  |zero=>intro _ k hk;omega
  | succ n ih=>
    intro h k hk;simp only[D9,R7,S8]at h;by_cases e:k=n
    .subst e;exact h.2
    .exact ih h.1 k Vf
 unfold List.Nodup;rw[Sv];intro i j hi hj hij e;refine d _ h j hj ?_;rw[getD_eq hj,<-e];exact ie hij hi
theorem JM(h:ofE S q=0):bz S=0/\q.Perm (upZ S.attrs.length):=by
 unfold ofE at h;split at h
 .rename_i d;exact absurd h d
 .rename_i r;have r:bz S=0:=RZ r;refine⟨r,?_⟩;split at h
  .cases h
  .rename_i d;have d:q.length=S.attrs.length:=RZ d;split at h
   .cases h
   .rename_i u;split at h
    .cases h
    .rename_i h3;have s:=Df (q:=q) (by simpa using h3);have B:∀a∈q,a∈upZ S.attrs.length:=by
      intro a ha;have u:(q.any λa=>decide (a<0)||decide (a>=(q.length:Int)))=S1:=by simpa using u
      have:=List.any_eq_false.1 u a ha;simp at this;obtain⟨x,hx⟩:=Rm this.1;exact bU.2 ⟨x,Vf,hx⟩
     have z:((upZ S.attrs.length).filter λa=>decide (a∈q)).Perm q:=gT (TO SZ (dy _)) s λa=>by
      rw[Sj,SA];exact⟨λh=>h.2,λh=>⟨B a h,h⟩⟩
     have A:((upZ S.attrs.length).filter λa=>decide (a∈q)).length=(upZ S.attrs.length).length:=by rw[z.length_eq,d,a6]
     rw[List.length_filter_eq_length_iff]at A;rw[U0.2 A]at z;exact z.symm
theorem KG(S:Sch)(hS:SB S)(q:List Int)(M:q.length<=1000000):FnP prog 109 [eS S,aj q] (· =ofV S q):=by
 refine FnP.fg2 (FnP.ofC func109 O ntmps109 Vj λm0 w0 F R0=>?_);have U:=hS.a;refine Z3 O<|Z1 O<|Rs O (aa call83 (G7 S hS) O)<|A1 O<|Z2 O<|Gc O (λd=>?_) (λd=>?_)
 .exact Z4 O<|Gt O<|⟨_,_,O,O,⟨az ⟨_,underlying32,O⟩ J4 O O O,Vm⟩,(rF (by unfold ofE;rw[AT (inT d)]) (inT d)).symm⟩
 .have h0:bz S=0:=inF d;have L:=jd h0;refine Q3<|Z4 O<|Z4 O<|Gc O (λs=>?_) (λs=>?_)
  .have hne0:¬q.length=S.attrs.length:=by have:=inT s;omega
   exact Z3 O<|Gt O<|⟨_,_,O,O,⟨az ⟨_,underlying32,O⟩ J4 O O O,Vm⟩,(rF (by unfold ofE;rw[dt (λh=>h h0),AT hne0]) Vh).symm⟩
  .have heq:q.length=S.attrs.length:=by have:=inF s;omega
   refine Q3<|Z3 O<|Gl O (st:=λVn:Nat=>mkS [(1,.pv (aj q)),(2,.ptr 0 0),(4,.ptr 1 0),(7,pIi S.attrs.length),(26,.pv (aj q)),(27,pIi q.length),(28,pIi Vn)] [(0,.mix 30 (sCc S)),(1,.mix 32 [.pv nS])] 2)
    (I:=λVn=>Vn<=q.length/\((q.take Vn).any λa=>decide (a<0)||decide (a>=(S.attrs.length:Int)))=S1) (μ:=λVn=>q.length-Vn) (x0:=(0)) (Q5 (aS O) (aO O) O O) (⟨cd _,O⟩) ?_
   rintro k ⟨hk,hany⟩;refine Z1 O<|Gp O (λB=>?_) (λB=>?_)
   .have hlt:k<q.length:=Vf;have E:=aX hlt;have H:=aD hlt;refine Q3<|Z1 O ?_;first|refine A2 O Vi ?_|refine A1 O ?_
    refine A1 O<|Z3 O ?_;apply Re 4 34 38 [35,36,37] O Vp
    .intro hb2;iterate 4 refine A1 O ?_
     exact Q7 Vo O O O
    .intro hb2;iterate 4 refine A1 O ?_
     exact Q7 Vo O O O
    refine Gc O (λu=>?_) (λu=>?_)
    .exact Z3 O<|Gt O<|⟨_,_,O,O,⟨az ⟨_,underlying32,O⟩ J4 O O O,Vm⟩,(rF (by unfold ofE;rw[dt (λh=>h h0),dt (λh=>h heq),AT (by rw[heq];exact qK (p:=λa=>decide (a<0)||decide (a>=(S.attrs.length:Int))) hlt u)]) Vh).symm⟩
    .exact Q3<|Z2 O<|⟨(k+1),Q5 (aS O) (aO O) O O,⟨Vf,fK hlt hany u⟩,Vf⟩
   .rw[aQ Vf]at hany;refine Gx O<|Z3 O<|Gl O (st:=λr:Nat=>mkS [(1,.pv (aj q)),(2,.ptr 0 0),(4,.ptr 1 0),(41,.pv (aj q)),(42,pIi q.length),(43,pIi r)] [(0,.mix 30 (sCc S)),(1,.mix 32 [.pv nS])] 2)
     (I:=λr=>r<=q.length/\D9 q r=S1) (μ:=λr=>q.length-r) (x0:=(0)) (Q5 (aS O) (aO O) O O) (⟨cd _,O⟩) ?_
    rintro j ⟨hj,hdup⟩;refine Z1 O<|Gp O (λD=>?_) (λD=>?_)
    .have hlt:j<q.length:=Vf;have E:=aX hlt;have H:=aD hlt;have A:=getD_eq hlt (0:Int);have J:PV.sl Sl j ((aE q).take (j*1))=aj (q.take j):=by simp[aj,List.map_take];omega
     refine Q3<|Z2 O ?_;first|refine A2 O Vi ?_|refine A1 O ?_
     refine Y2 O<|Z2 O<|Rs O (XJ.cast (v':= .pv (aj (q.take j))) (di j underlying22 sz3 O O O Vf Vj) (by rw[<-J]))<|A1 O<|Rs O (aa call60 (wF (q.take j) q[j] Vk) O)<|Gc O (λz=>?_) (λz=>?_)
     .exact Z3 O<|Gt O<|⟨_,_,O,O,⟨az ⟨_,underlying32,O⟩ J4 O O O,Vm⟩,(rF (by unfold ofE;rw[dt (λh=>h h0),dt (λh=>h heq),dt (by rw[heq,hany];decide),AT (PZ hlt (by rw[A];exact z))]) Vh).symm⟩
     .exact Q3<|Z2 O<|⟨(j+1),Q5 (aS O) (aO O) O O,⟨Vf,by simp only[D9,hdup,A,z];rfl⟩,Vf⟩
    .have he:ofE S q=0:=by unfold ofE;rw[dt (λh=>h h0),dt (λh=>h heq),dt (by rw[heq,hany];decide),dt (by rw[show q.length=j by omega,hdup];decide)]
     exact Gx O<|Z2 O<|Rs O (aa call196 (H5 S hS L q (JM he).2) O)<|Y2 O<|Gt O<|⟨_,_,O,O,⟨az ⟨_,underlying32,O⟩ J4 O O O,Vm⟩,by unfold ofV;rw[he,AT O];rfl⟩
end

section
open Mk
theorem EK(d:UpOk P):(aL P).length=P.length:=by rw[(ca d).length_eq,a6]
def aY:Sch:=⟨[(⟨#[97]⟩,1),(⟨#[98]⟩,1),(⟨#[99]⟩,1)],[(⟨#[114]⟩,[0,1]),(⟨#[113]⟩,[1,2])],[], -1⟩
theorem lS:SB aY:=⟨Vh,Vh,Vh,Vh,Vh,Vh⟩
theorem FJ:bz aY=0:=Vh
abbrev bu:List Int:=[1, -1,1]
theorem sT:Cf aY bu=0:=Vh
theorem Ao(a:Int):xT [a]=[a]:=(rG (RY [a]) Vj).symm
theorem J9:xT []=[]:=(rG (RY []) Vj).symm
theorem Fc:cE aY bu 0=[1]:=by unfold cE;rw[show Ks aY bu 0=[1] by decide,Ao]
theorem K4:cE aY bu 1=[]:=by unfold cE;rw[show Ks aY bu 1=[] by decide,J9]
theorem Hr:cE aY bu 2=[1]:=by unfold cE;rw[show Ks aY bu 2=[1] by decide,Ao]
theorem Hn(l:List Int)(d:l.length<=1000000000):FnP prog 41 [aj l,aj l] (· = .bool Sm):=by
 have h:=GM l l d d;rw[Ru O]at h;exact h
end
theorem Jw{P:Program}{args:List PV}{us:List Value}(h:FnP P f args (· = .bool Sm))(w:World)(r:ow w (λb=>b<w.heap.size))(d:RelPL w (λb=>b<w.heap.size) args us):
  Calls P f us.toArray w λe w'=>e= .returned (.bool Sm)/\Below w.heap.size w w':=
 (h w _ us r (λ_ hb=>hb) d).mono λ_ _ ⟨u,v,e,hv,hb,hr⟩=>by
  subst hv;simp only[RelP]at hr;subst hr;exact⟨e,hb⟩
section
open Mk
theorem ot:∀{l:List Int},l.Pairwise (· < ·)->(∀a∈l,0<=a/\a<n)->l.length<=n:=by
 intro l hp hr;have r:l.Nodup:=hp.imp (λh e=>by omega);have d:∀a∈l,a∈upZ n:=λa ha=>by
  obtain⟨x,hx⟩:=Rm (hr a ha).1;exact bU.2 ⟨x,by have:=(hr a ha).2;omega,hx⟩
 have:(((upZ n).filter λa=>decide (a∈l))).Perm l:=gT (TO SZ (dy _)) r λa=>by
  rw[Sj,SA];exact⟨λh=>h.2,λh=>⟨d a h,h⟩⟩
 rw[<-this.length_eq];exact IT (Te _ _) (by rw[a6];exact BY _)
theorem EC(p:UInt8)(i:Nat):(nm p i).size=2:=by
 unfold nm chr;simp[ByteArray.size_append];rfl
theorem r8{most:Nat}(h:Made S most)(u:most<=8):SB S:=by
 have d:=h.a2;have r:=h.r2;have s:=eV h.fs;refine⟨Vf,Vf,Vf,λx hx=>?_,λx hx=>?_,λx hx=>?_⟩
 .obtain⟨i,hi,rfl⟩:=Sp hx;rw[(h.at' i hi).1,EC];decide
 .obtain⟨i,hi,rfl⟩:=Sp hx;rw[(h.rs i hi).1,EC];decide
 .obtain⟨i,hi,rfl⟩:=Sp hx;have:=ot (h.rs i hi).2.2.1 (h.rs i hi).2.2.2;omega
section
variable {C:Ctx}{n:Nat}{σ:St}{dst:Option Tmp}{ty:TypeId}{ts:Array TypeId}{pos:String}{after:Array Edge}{gd:Option (Nat×Bool)}
def RM(T:TypeId)(id:Nat)(Q:PV->List PV->Prop)(s:OS):Prop:=∃r cs',Q r cs'/\s=⟨.pv r,[(id,Sh (.mix T (cs'.map .pv)))],[]⟩
theorem relM{ps:List PV}{Q:PV->List PV->Prop}(hc:cu C.P f)(u:FnM C.P f T cs ps Q)(d:xs.toList.map (σ.ev n)= .ptr id 0::ps.map .pv)(z:σ.ob id=Sh (.mix T (cs.map .pv))):
  OJ C n ⟨dst,.call { callee:= .value (.func f),args:=xs,argTypes:=ts },ty,pos,after,gd⟩ (λτ'=>∃s,RM T id Q s/\s.wr.map (·.1)=[id]/\s.nw=[]/\τ'=σ.app dst s) σ:=
 mT hc u d z λr cs' h=>⟨_,⟨r,cs',h,O⟩,O,O,O⟩
end
end
section
open Mk
theorem tP(L:List Int)(k:Nat)(D:L.length<=600)(E:k<=L.length)(S:Sch)(hS:SB S)(A:bz S=0):
  FnM prog 43 91 (ig L k) [eS S] (λv c=>(∃q:List Int,q.Perm (upZ S.attrs.length)/\v=og (ordL S q))/\∃k',k'<=L.length/\c=ig L k'):=by
 refine FnM.ofC (rt:=32) (k:=1) func43 O ntmps43 Vj O Vj ⟨_,underlying32,O⟩ J4 λm0 w0 F R0=>?_
 have u:=jd A;have z:=u.n2;have s:=u.n1;refine Z2 O<|Ge O follows [0,1,2,3,4,10,5,6,7,8,9,11,12] Vg ?_;iterate 6 refine D1 O ?_
 refine DL.rel (RM 91 big (λv c=>(∃q:List Int,q.Perm (upZ S.attrs.length)/\v=aj q)/\∃k',k'<=L.length/\c=ig L k')) [big] [] [big] O O O (λτ h=>relM call71 (uK L k S.attrs.length D E s Vf) (h.args.trans O) (Eo h 0 O O)) O Vg Vg Vg ?_;rintro _ ⟨_,_,⟨⟨q,hq,rfl⟩,k2,hk2,rfl⟩,rfl⟩ _ _;have B:q.length=S.attrs.length:=by rw[hq.length_eq,a6]
 have d:ofV S q= .tup [og (ordL S q),.int .i64 0]:=by unfold ofV;rw[KC A hq,AT O]
 have r:=KG S hS q Vf;rw[d]at r;refine Ds [] O (λτ h=>aa call109 r (h.aK O)) O Vg ?_;iterate 5 refine D1 O ?_
 refine⟨Vg,?_⟩;exact Z2 O<|Gt O<|⟨1,_,[aj (ordL S q)],ig L k2,O,O,O,O,O,⟨q,hq,O⟩,k2,hk2,O⟩
end


section
open Mk Jn
theorem mS:∀(x y:List UInt8),Op.bytesLess x y=decide (x<y)
 |[],[]=>by simp[Op.bytesLess]
 |_::_,[]=>by simp[Op.bytesLess]
 |[],_::_=>by simp[Op.bytesLess]
 | a::x,b::y=>by
   rw[Op.bytesLess,mS x y];simp only[List.cons_lt_cons_iff];by_cases h1:a<b<;>by_cases h2:a=b<;>by_cases h3:x<y<;>simp[h1,h2,h3]
theorem qZ(x:ByteArray)(a b:List ByteArray):br (x::a) (x::b)=br a b:=by
 unfold br Bz;rw[RJ,Rt,Rt,bP,bP,List.cons_lt_cons_iff];simp[List.lt_irrefl]
theorem J0{x y:ByteArray}(h:x≠y)(a b:List ByteArray):br (x::a) (y::b)=Op.bytesLess x.toList y.toList:=by
 unfold br Bz;rw[mS,ByteArray.toList_eq,ByteArray.toList_eq,RJ,Rt,Rt,bP,bP,List.cons_lt_cons_iff];exact⟨λk=>k.elim id λe=>absurd (GA e.1) h,.inl⟩
theorem tq:∀{i:Nat}{a b:List ByteArray}(d:i<a.length)(r:i<b.length),a.take i=b.take i->a[i]≠b[i]->br a b=Op.bytesLess a[i].toList b[i].toList
 |0,x::a,y::b,_,_,_,h=>J0 h a b
 | i+1,x::a,y::b,d,r,ht,h=>by
   rw[UK,UK,Tz]at ht;obtain⟨rfl,ht⟩:=ht;rw[qZ];exact tq (by simpa using d) (by simpa using r) ht h
theorem kA:∀{i:Nat}{a b:List ByteArray},i<=a.length->i<=b.length->(i=a.length\/i=b.length)->a.take i=b.take i->br a b=decide ((a.length:Int)<b.length)
 |_,[],[],_,_,_,_=>by simp[br,Bz]
 |_,[],y::b,_,_,_,_=>by simp[br,Bz]
 |_,x::a,[],_,_,_,_=>by simp[br,Bz];omega
 |0,x::a,y::b,_,_,h,_=>by simp at h
 | i+1,x::a,y::b,ha,hb,h,ht=>by
   rw[UK,UK,Tz]at ht;obtain⟨rfl,ht⟩:=ht;rw[qZ,kA (i:=i) (by simpa using ha) (by simpa using hb) (by simpa using h) ht];simp
theorem Cx(a b:List ByteArray)(B:a.length<=1000000)(D:b.length<=1000000):FnP prog 268 [a7 a,a7 b] (· = .bool (br a b)):=by
 refine FnP.of func268 O ntmps268 Vj λm0 w0 F R0=>?_
 refine Z1 O<|Z1 O<|Gl O (st:=λVn:Nat=>mkS [(0,.pv (a7 a)),(1,.pv (a7 b)),(5,pIi Vn)] [] 0)
  (I:=λVn=>(Vn<=a.length/\Vn<=b.length)/\a.take Vn=b.take Vn) (μ:=λVn=>a.length-Vn) (x0:=(0)) (Q5 (aS O) trivial O O) (⟨⟨cd _,cd _⟩,O⟩) ?_
 rintro i ⟨hi,ht⟩;refine Gr O ?_;iterate 5 refine A1 O ?_
 apply Rf 5 10 15 [11,12,13,14] O Vp
 .intro hb4;iterate 5 refine A1 O ?_
  exact Q7 Vo O O O
 .intro hb4;iterate 5 refine A1 O ?_
  exact Q7 Vo O O O
 refine Gc O (λr=>?_) (λr=>?_)
 .have hab:i<a.length/\i<b.length:=by simp at r;omega
  have s:=bE hab.1;have u:=bA hab.1;have z:=bE hab.2;have A:=bA hab.2;refine Q3<|RW 9 O ?_;iterate 3 refine D1 O ?_
  first|refine D2 O O Vi ?_|refine D1 O ?_
  iterate 3 refine D1 O ?_
  first|refine D2 O O Vi ?_|refine D1 O ?_
  refine D1 O ?_;refine⟨Vg,?_⟩;refine Gc O (λd=>?_) (λd=>?_)
  .refine RW 10 O ?_;iterate 3 refine D1 O ?_
   first|refine D2 O O Vi ?_|refine D1 O ?_
   iterate 3 refine D1 O ?_
   first|refine D2 O O Vi ?_|refine D1 O ?_
   iterate 2 refine D1 O ?_
   refine⟨Vg,?_⟩;exact Gt O<|⟨_,_,O,O,ag PV.bool (tq hab.1 hab.2 ht (λe=>by rw[e]at d;simp at d)).symm⟩
  .exact Q3<|Z3 O<|⟨(i+1),Q5 (aS O) trivial O O,⟨⟨Vf,Vf⟩,by rw[AI hab.1,AI hab.2,ht,show a[i]=b[i]from baT (by simpa using d)]⟩,Vf⟩
 .refine Gx O<|Gr O ?_;iterate 6 refine A1 O ?_
  exact Gt O<|⟨_,_,O,O,ag PV.bool (kA (i:=i) hi.1 hi.2 (by simp at r;omega) ht).symm⟩
theorem Cp(a b:List ByteArray)(E:a.length<=1000000)(H:b.length<=1000000):FnP prog 19 [a7 a,a7 b] (· = .bool (decide (a=b))):=by
 refine FnP.of func19 O ntmps19 Vj λm0 w0 F R0=>?_
 refine Z1 O<|Gr O ?_;iterate 5 refine A1 O ?_
 refine Gc O (λd=>?_) (λd=>?_)
 .exact Z1 O<|Gt O<|⟨_,_,O,O,ag PV.bool (Rv (λe=>by rw[e]at d;simp at d)).symm⟩
 .have hl:a.length=b.length:=by simp at d;omega
  refine Q3<|Z3 O<|Gl O (st:=λVn:Nat=>mkS [(0,.pv (a7 a)),(1,.pv (a7 b)),(12,pIi a.length),(13,pIi Vn)] [] 0)
   (I:=λVn=>Vn<=a.length/\a.take Vn=b.take Vn) (μ:=λVn=>a.length-Vn) (x0:=(0)) (Q5 (aS O) trivial O O) (⟨cd _,O⟩) ?_
  rintro i ⟨hi,ht⟩;refine Z1 O<|Gp O (λu=>?_) (λu=>?_)
  .have ha1:i<a.length:=Vf;have s:i<b.length:=Vf;have z:=bE ha1;have A:=bA ha1;have B:=bE s;have D:=bA s;refine Q3<|Z2 O<|RW 9 O ?_;iterate 3 refine D1 O ?_
   first|refine D2 O O Vi ?_|refine D1 O ?_
   iterate 3 refine D1 O ?_
   first|refine D2 O O Vi ?_|refine D1 O ?_
   refine D1 O ?_;refine⟨Vg,?_⟩;refine Gc O (λr=>?_) (λr=>?_)
   .exact Z1 O<|Gt O<|⟨_,_,O,O,ag PV.bool (Rv (λe=>by subst e;simp at r)).symm⟩
   .exact Q3<|Z2 O<|⟨(i+1),Q5 (aS O) trivial O O,⟨Vf,by rw[AI ha1,AI s,ht,show a[i]=b[i]from baT (by simpa using r)]⟩,Vf⟩
  .exact Gx O<|Z1 O<|Gt O<|⟨_,_,O,O,ag PV.bool (Ru (by rwa [aQ Vf,aQ Vf]at ht)).symm⟩
end
section
section
variable {C:Ctx}{n:Nat}{σ:St}{dst:Option Tmp}{ty t:TypeId}{pos:String}{after:Array Edge}{gd:Option (Nat×Bool)}{x y:Operand}
theorem u6{e:TypeId}{s:Nat}{kl:IntKind}{il:Int}{o:Ob}(l:Nat)(A:C.P.underlying T=Sh (.slice e))(B:bN C.P e s)(D:σ.ev n x= .osl id s k)(u:σ.ob id=Sh o)(E:σ.ev n y= .pv (.int kl il))(H:il=(l:Int))(J:l<=k)(r:o.real=Sm:=by rfl):
  XJ C n ⟨dst,.slice T x (Sh y) Sl Sl,ty,pos,after,gd⟩ σ ⟨.tsl id (l*s) (k-l),[],[]⟩:=
 .val λa w m R hw=>by
  obtain⟨b,N,c,he,hkc,hcm,hN,hm,hor⟩:=hw.osl D u r;have z:a.eval y= .int kl l:=by rw[hw.int E,H]
  have d:σ.av id=S1:=by
   cases hv:σ.av id with
   |false=>rfl
   |true=>have:=hw.hr.free id hv;rw[u]at this;cases this
  refine⟨.slice (if c=l then Sh ⟨b,0,Sl⟩else(Sh ⟨b,0,Sl⟩:Option Addr).map (·.add (l*s))) (k-l) (c-l),?_,?_⟩
  .simp[execOp,he,z,Instr.sliceAt,Instr.slice,Instr.sliceBounds,Instr.sliceBound,asIntOf,run_underlying A,B.run,J]
  .simp only[Rel];refine⟨d,_,_,O,λhp b' N' e=>?_⟩;rw[hm]at e;cases e;rw[dt Vf];simp[Addr.add_lit]
theorem Pb.tsl{off size:Nat}(u:σ.ev n y= .tsl id off j)(z:σ.ob id=Sh (.cells T cs))(r:news=cs.drop off)(B:news.length=j*size):Pb C n σ y j news:=by
 intro a w m R hw;have h:=hw.ev y;rw[u]at h;simp only[Rel]at h;obtain⟨hav,A,c,he,hA⟩:=h;obtain⟨b,N,hm,arr,hb,hsz,hle,hr⟩:=hw.live z;refine⟨A,c,(arr.toList.take cs.length).drop off,he,by rw[r];exact hr.drop off,λd=>?_⟩;have s:0<j:=by
  rcases SY j with h0|h0
  .exfalso;apply d;rw[h0,U8,r,Td]at B;rw[List.drop_eq_nil_iff,Rr];omega
  .exact h0
 refine⟨b,off,hA s b N hm,Vm,(hw.hr.own id b N hm).1,λi hi=>?_⟩;simp only[Td,Rr]at hi;rw[cell_of_row w b (off+i) arr T (0,0) hb,Sq,Ry,AT Vf];simp
theorem nP.any(h:nP n σ y j news):Pb C n σ y j news:=λd=>h.row d
end
end
def St.gsO(σ:St)(t id sz n:Nat)(T:TypeId)(cs:List PV):St:=⟨upd σ.sl t (.gsl id sz n),obL [(id,Sh (.gro T cs))] σ.ob,σ.av⟩
theorem St.EZ{σ:St}(t:Nat)(z:σ.sl t= .osl id sz n)(s:σ.ob id=Sh (.cells T cs))(A:0<n)(hc:cs≠[]):σ.le (σ.gsO t id sz n T cs):=by
 rintro C nn a w ⟨m,R,hw⟩;have u:∀i,i≠id->obL [(id,Sh (Ob.gro T cs))] σ.ob i=σ.ob i:=λi r=>fx _ _ _ (by simpa using r)
 have r:obL [(id,Sh (Ob.gro T cs))] σ.ob id=Sh (.gro T cs):=by simp[obL]
 refine⟨m,R,⟨?_,?_,?_,hw.hr.inj,hw.hr.own,hw.hr.rsz,hw.hr.rfr,hw.hr.r0,hw.hr.frame,hw.hr.keep,hw.hr.res⟩,hw.df,hw.sz,?_⟩
 .intro i;by_cases e:i=id
  .subst e;rw[hw.hr.dom,s];show _=bI (obL _ _ _);rw[r];exact(cZ hc).symm
  .show _=bI (obL _ _ _);rw[u i e];exact hw.hr.dom i
 .intro i h;by_cases e:i=id
  .subst e;have:=hw.hr.free i h;rw[s]at this;cases this
  .show obL _ _ _=Sl;rw[u i e];exact hw.hr.free i h
 .intro i o b N h1 h2;by_cases e:i=id
  .subst e;have d:obL [(i,Sh (Ob.gro T cs))] σ.ob i=Sh o:=h1;rw[r]at d;cases d;have q:=hw.hr.obj i _ b N s h2;exact q
  .have d:obL [(id,Sh (Ob.gro T cs))] σ.ob i=Sh o:=h1;rw[u i e]at d;exact hw.hr.obj i o b N d h2
 .intro q hq;show Rel w m σ.av R (upd σ.sl t (.gsl id sz n) q) _;by_cases e:q=t
  .subst e;rw[aA];have:=hw.sl q hq;rw[z]at this;simp only[Rel]at this ⊢;obtain⟨b,N,hm,_⟩:=hw.live s;obtain⟨h0,h1⟩:=this;obtain⟨c,he,h2,h3,h4⟩:=h1 b N hm;exact⟨h0,_,c,he,h2,h3,λe=>by omega,λ_ b' N' hm'=>by rw[hm]at hm';cases hm';exact⟨O,h4⟩⟩
  .rw[aR _ _ e];exact hw.sl q hq
def St.nilS(σ:St)(t:Nat):St:=⟨upd σ.sl t (.pv nS),σ.ob,σ.av⟩
theorem St.NG{σ:St}(t:Nat)(d:σ.sl t= .gsl id sz 0):σ.le (σ.nilS t):=by
 rintro C nn a w ⟨m,R,hw⟩;refine⟨m,R,hw.hr,hw.df,hw.sz,λq hq=>?_⟩;show Rel w m σ.av R (upd σ.sl t (.pv nS) q) _;by_cases e:q=t
 .subst e;rw[aA];have:=hw.sl q hq;rw[d]at this;simp only[Rel,RelP]at this ⊢;obtain⟨_,A,c,he,h1,h2,h3,_⟩:=this;obtain⟨rfl,rfl,_⟩:=h3 trivial;exact⟨Sl,0,he,h1,h2,(λ_ e=>by cases e;rfl),(λ_=>rfl),λe=>absurd O e⟩
 .rw[aR _ _ e];exact hw.sl q hq
section
open Mk Jn
abbrev oq(x:Rw):List PV:=[a7 x.v,.int .i64 x.w]
def a8(l:List Rw):List PV:=l.flatMap oq
abbrev mH(l:List Rw):PV:= .sl Sl l.length (a8 l)
theorem bK(l:List Rw):(a8 l).length=l.length*2:=bY _ 2 (λ_=>rfl) l
theorem dY{l:List Rw}(h:k<l.length):((a8 l).drop (k*2)).take 2=oq l[k]:=cC _ 2 (λ_=>rfl) l k h
theorem gV{l:List Rw}(h:k<l.length):a8 l≠[]:=λe=>by have:=bK l;rw[e]at this;simp at this;omega
theorem El{l:List Rw}(h:k<l.length):(a8 l)[k*2]? =Sh (a7 l[k].v):=by
 have:=dY h;have d:(((a8 l).drop (k*2)).take 2)[0]? =(oq l[k])[0]? :=by rw[this]
 simpa[Ry,Sq]using d
theorem Nq{l:List Rw}(h:k<l.length):(a8 l)[k*2+1]? =Sh (.int .i64 l[k].w):=by
 have:=dY h;have d:(((a8 l).drop (k*2)).take 2)[1]? =(oq l[k])[1]? :=by rw[this]
 simpa[Ry,Sq]using d
theorem pt(l m:List Rw):a8 (l++m)=a8 l++a8 m:=by simp[a8]
theorem sg(l:List Rw)(x:Rw):a8 l++oq x=a8 (l++[x]):=by simp[a8]
theorem gO(l:List Rw):∀c∈a8 l,c.leaf=Sm:=λc hc=>by
 obtain⟨t,_,hc⟩:=RN.1 hc;simp only[AS,Sn,T7]at hc;rcases hc with rfl|rfl<;>rfl
theorem uI(l:List Rw)(k:Nat):(a8 l).take (k*2)=a8 (l.take k)/\(a8 l).drop (k*2)=a8 (l.drop k):=by
 have e:a8 l=a8 (l.take k)++a8 (l.drop k):=by rw[<-pt,Sb]
 rcases Uw l.length k with h|h
 .have hl:=bK l;rw[aQ Vf,aQ Vf,List.drop_eq_nil_of_le Vf,List.drop_eq_nil_of_le Vf];exact⟨O,O⟩
 .have hl:(a8 (l.take k)).length=k*2:=by rw[bK,Rr,SG h]
  constructor
  .conv=>lhs;rw[e]
   rw[<-hl,List.take_left]
  .conv=>lhs;rw[e]
   rw[<-hl,List.drop_left]
theorem FT{l:List Rw}(h:k<l.length)(w:Int):(a8 l).set (k*2+1) (.int .i64 w)=a8 (l.set k ⟨l[k].v,w⟩):=by
 induction l generalizing k with
 |nil=>simp at h
 | cons a l ih=>
   cases k with
   |zero=>rfl
   | succ k=>
     have d:k<l.length:=by simpa using h
     have e:=ih d;rw[show(k+1)*2+1=k*2+1+1+1 by omega];show(a7 a.v::PV.int .i64 a.w::a8 l).set (k*2+1+1+1) _=a7 a.v::PV.int .i64 a.w::a8 (l.set k ⟨l[k].v,w⟩);rw[List.set_cons_succ,List.set_cons_succ,e]
theorem Em{x:Rw}:∀{i:Nat}{out:List Rw}(h:i<out.length),(∀j (d:j<out.length),j<i->br out[j].v x.v=Sm)->br out[i].v x.v=S1->out[i].v=x.v->eM x out=out.set i ⟨out[i].v,out[i].w+x.w⟩
 | 0,y::l,_,_,h2,h3=>by
   rw[eM,dt (by simpa using h2),AT (by simpa using h3)];rfl
 | i+1,y::l,h,h1,h2,h3=>by
   rw[eM,AT (show br y.v x.v=Sm from h1 0 Vj Vf),Em (i:=i) (by simpa using h) (λj d hji=>h1 (j+1) (by simpa using d) Vf) (by simpa using h2) (by simpa using h3)];rfl
theorem s7{x:Rw}:∀{i:Nat}{out:List Rw},i<=out.length->(∀j (d:j<out.length),j<i->br out[j].v x.v=Sm)->(∀(h:i<out.length),br out[i].v x.v=S1/\out[i].v≠x.v)->eM x out=out.take i++x::out.drop i
 |0,[],_,_,_=>rfl
 | 0,y::l,_,_,h2=>by
   have:=h2 Vj;rw[eM,dt (by simpa using this.1),dt (by simpa using this.2)];rfl
 | i+1,y::l,h,h1,h2=>by
   rw[eM,AT (show br y.v x.v=Sm from h1 0 Vj Vf),s7 (i:=i) (by simpa using h) (λj d hji=>h1 (j+1) (by simpa using d) Vf) (λr=>h2 (by simpa using r))];rfl
theorem Fm{x:Rw}{B X:Int}(hB:0<=B)(r: -X<=x.w/\x.w<=X):∀{l:List Rw},(∀y∈l, -B<=y.w/\y.w<=B)->∀y∈eM x l, -(B+X)<=y.w/\y.w<=B+X
 |[],_,y,hy=>by rw[eM,Rn]at hy;rw[hy];omega
 | z::l,h,y,hy=>by
   have hz:=h z Vj;have d:∀y∈l, -B<=y.w/\y.w<=B:=λy hy=>h y (by simp[hy])
   rw[eM]at hy;split at hy
   .rcases AS.1 hy with rfl|hy
    .omega
    .exact Fm hB r d y hy
   .split at hy
    .rcases AS.1 hy with rfl|hy
     .show-(B+X)<=z.w+x.w/\z.w+x.w<=B+X;omega
     .have:=d y hy;omega
    .rcases AS.1 hy with rfl|hy
     .omega
     .have:=h y hy;omega
structure SoF(l:List Rw)(k:Nat)(out:List Rw):Prop where
 e:out=(l.take k).foldl (λout x=>eM x out) []
 v:∀y∈out,y.v.length<=1000
 w:∀y∈out, -((k:Int)*1000000)<=y.w/\y.w<=(k:Int)*1000000
 n:out.length<=k
theorem SoF.zero(l:List Rw):SoF l 0 []:=⟨O,λ_ h=>absurd h Vj,λ_ h=>absurd h Vj,BY _⟩
theorem SoF.succ{l out:List Rw}(h:SoF l k out)(d:k<l.length)(r:l[k].v.length<=1000)(s: -1000000<=l[k].w/\l[k].w<=1000000):SoF l (k+1) (eM l[k] out):=by
 refine⟨?_,λy hy=>?_,λy hy=>?_,?_⟩
 .rw[AI d,Uf,<-h.e];rfl
 .rcases nx hy with e|⟨z,hz,e⟩
  .rw[e];exact r
  .rw[e];exact h.v z hz
 .have:=Fm (B:=(k:Int)*1000000) (X:=1000000) Vf s h.w y hy;have e:((k+1:Nat):Int)*1000000=(k:Int)*1000000+1000000:=Vf;rw[e];exact this
 .have:=sY l[k] out;have:=h.n;omega
theorem BD(l:List Rw)(hl:l.length<=1000)(hv:∀x∈l,x.v.length<=1000)(hw:∀x∈l, -1000000<=x.w/\x.w<=1000000):FnP prog 171 [mH l] (· =mH (mQ l)):=by
 refine FnP.of func171 O ntmps171 Vj λm0 w0 F R0=>?_
 have ay:=bK l;refine Z1 O<|Z1 O<|Q4 (Ra 3 0 2 41 O O)<|Z3 O<|Gl O (st:=λVn:Nat×List Rw=>mkS [(3,.gsl 0 2 Vn.2.length),(10,.pv (mH l)),(11,pIi l.length),(12,pIi Vn.1)] [(0,.gro 41 (a8 Vn.2))] 1)
  (I:=λVn=>Vn.1<=l.length/\SoF l Vn.1 Vn.2) (μ:=λVn=>l.length-Vn.1) (x0:=(0,[])) (Q5 (aS O) (aO O) O O) (⟨cd _,SoF.zero l⟩) ?_
 rintro⟨k,out⟩ ⟨hk,hs⟩;try simp only at hk hs ⊢
 refine Z1 O<|Gp O (λaf=>?_) (λaf=>?_)
 .have hlt:k<l.length:=Vf;have ax:=dY hlt;have az:=gV hlt;have ak:=hv _ (au hlt);have al:=hw _ (au hlt);have L:=hs.succ hlt ak al;have am:=hs.n;have an:=bK out;have ao:=hs.w;have ac:=hs.v;generalize l[k]=x at*;refine Q3<|Z1 O ?_;first|refine A3 O Vi ?_|refine A1 O ?_
  refine Y2 O ?_;by_cases he:out=[]
  .have hl0:out.length=0:=by rw[he];rfl
   refine Q4 (St.NG 3 (id:=0) (sz:=2) (ag (λn=>V.gsl 0 2 n) hl0))<|Z1 O<|Gl O (st:=λz:Nat=>mkS [(3,.pv nS),(5,.ptr 1 0),(6,pIi z),(10,.pv (mH l)),(11,pIi l.length),(12,pIi k)] [(1,.mix 41 [.pv (a7 x.v),pIi x.w])] 2)
    (I:=λz=>z<=out.length/\∀j (hj:j<out.length),j<z->br out[j].v x.v=Sm) (μ:=λz=>out.length-z) (x0:=(0)) (Q5 (aS O) (aO O) O O) (⟨cd _,λj _ h=>absurd h Vf⟩) ?_
   rintro i ⟨hi,hall⟩;refine RW 14 O ?_;iterate 3 refine D1 O ?_
   refine Ds [] O (λτ h=>XJ.cast (v':= .pv (.bool S1)) (aC (Ee h 0 O O) (Ee h 1 O O) O) (ag (λb=>V.pv (.bool b)) (Rv Vf))) O Vg ?_;iterate 10 refine D1 O ?_
   refine⟨Vg,?_⟩;refine Gc O (λr=>absurd r Vj) (λr=>?_);refine Gx O<|RW 14 O ?_;iterate 3 refine D1 O ?_
   refine Ds [] O (λτ h=>XJ.cast (v':= .pv (.bool S1)) (aC (Ee h 0 O O) (Ee h 1 O O) O) (ag (λb=>V.pv (.bool b)) (Rv Vf))) O Vg ?_;iterate 10 refine D1 O ?_
   refine⟨Vg,?_⟩;refine Gc O (λu=>absurd u Vj) (λu=>?_);refine Q3 ?_;obtain rfl:i=0:=Vf;have A:eM x out=[x]:=by rw[he];rfl
   refine RW 11 O ?_;iterate 8 refine D1 O ?_
   refine Ds [_] O (λτ h=>dB 3 Lo (Ee h 0 O O) (Eo h 0 O O) O (.inl ⟨_,(Ee h 1 O O)⟩) O Vj Vf (h.n 0 _ O)) O Vg<|Ds [_] O (λτ h=>wS 4 Lo (Ee h 0 O O) (.inr ⟨_,_,_,_,(Ee h 1 O O),(Eo h 0 O O),O⟩) O (gO [x]) Vf (h.n 0 _ O)) O Vg<|D1 O ?_;refine⟨Vg,?_⟩;exact Z2 O<|⟨(k+1,eM x out),Q6 [4] ⟨ag (λn=>V.gsl 4 2 n) (show 1=(eM x out).length by rw[A];rfl),O,O,O,Vm⟩ ⟨RI (b:=Sh (.gro 41 (oq x))) Vg (ag (λc=>Sh (Ob.gro 41 c)) (show oq x=a8 (eM x out) by rw[A];rfl)),Vm⟩ O O Vh O,⟨Vf,L⟩,Vl⟩
  .have hpos:0<out.length:=SS.2 he;have M:a8 out≠[]:=gV hpos;refine Q4 (St.LQ 3 O O hpos M)<|Z1 O<|Gl O (st:=λz:Nat=>mkS [(3,.osl 0 2 out.length),(5,.ptr 1 0),(6,pIi z),(10,.pv (mH l)),(11,pIi l.length),(12,pIi k)] [(0,.cells 41 (a8 out)),(1,.mix 41 [.pv (a7 x.v),pIi x.w])] 2)
    (I:=λz=>z<=out.length/\∀j (hj:j<out.length),j<z->br out[j].v x.v=Sm) (μ:=λz=>out.length-z) (x0:=(0)) (Q5 (aS O) (aO O) O O) (⟨cd _,λj _ h=>absurd h Vf⟩) ?_
   rintro i ⟨hi,hall⟩;by_cases hi2:i<out.length
   .have hov:(a8 out)[i*2+0]? =Sh (a7 out[i].v):=El hi2;have ap:=Nq hi2;have U:=au hi2;have aA:=ao _ U;have aq:=Cx out[i].v x.v (by have:=ac _ U;omega) Vf;have ar:=Cp out[i].v x.v (by have:=ac _ U;omega) Vf;refine RW 14 O ?_;iterate 3 refine D1 O ?_
    refine Ds [] O (λτ h=>XJ.cast (v':= .pv (.bool Sm)) (aC (Ee h 0 O O) (Ee h 1 O O) O) (ag (λb=>V.pv (.bool b)) (Ru Vf))) O Vg ?_;iterate 5 refine D1 O ?_
    refine Dg [_] O (λτ h=>cm ⟨_,underlying39,O⟩ (Ee h 0 O O) (Eo h 0 O O) hov) O Vg ?_;iterate 2 refine D1 O ?_
    refine Dg [] O (λτ h=>aa call268 aq (h.aK O)) O Vg<|D1 O ?_;refine⟨Vg,?_⟩;refine Gc O (λr=>?_) (λr=>?_)
    .exact Q3<|Z3 O<|⟨(i+1),Q5 (aS O) (aO O) O O,⟨Vf,λj hj hji=>if h:j<i then hall j hj h else(by obtain rfl:j=i:=Vf;exact r)⟩,Vf⟩
    .refine Gx O<|RW 14 O ?_;iterate 3 refine D1 O ?_
     refine Ds [] O (λτ h=>XJ.cast (v':= .pv (.bool Sm)) (aC (Ee h 0 O O) (Ee h 1 O O) O) (ag (λb=>V.pv (.bool b)) (Ru Vf))) O Vg ?_;iterate 5 refine D1 O ?_
     refine Dg [_] O (λτ h=>cm ⟨_,underlying39,O⟩ (Ee h 0 O O) (Eo h 0 O O) hov) O Vg ?_;iterate 2 refine D1 O ?_
     refine Dg [] O (λτ h=>aa call19 ar (h.aK O)) O Vg<|D1 O ?_;refine⟨Vg,?_⟩;refine Gc O (λu=>?_) (λu=>?_)
     .have hins:eM x out=out.set i ⟨out[i].v,out[i].w+x.w⟩:=Em hi2 hall (by simpa using r) (Tm u);refine RW 11 O ?_;iterate 4 refine D1 O ?_
      refine Ds [_] O (λτ h=>cm ⟨_,underlying3,O⟩ (Ee h 0 O O) (Eo h 0 O O) ap) O Vg ?_;iterate 5 refine D1 O ?_
      refine DL.step (d:=Sl) [_] O O O (λτ h=>bQ sz3 (Ee h 0 O O) (Eo h 0 O O) (Ee h 1 O O) O (by first|omega|(simp;omega))) O Vg ?_;refine⟨Vg,?_⟩;refine Q4 (St.EZ 3 O O hpos (by intro e;have h:=ag List.length e;rw[SI]at h;exact M (RU h))) ?_;exact Gx O<|Z2 O<|⟨(k+1,eM x out),Q5 ⟨ag (λn=>V.gsl 0 2 n) (show out.length=(eM x out).length by rw[hins,SI]),O,O,O,Vm⟩ ⟨RI (b:=Sh (.gro 41 ((a8 out).set (i*2+1) (.int .i64 (out[i].w+x.w))))) Vg (ag (λc=>Sh (Ob.gro 41 c)) (by rw[hins];exact FT hi2 _)),Vm⟩ O O,⟨Vf,L⟩,Vl⟩
     .refine Q3 ?_;have A:eM x out=out.take i++x::out.drop i:=s7 hi hall (λh=>⟨by simpa using r,Tn u⟩);have D:=uI out i;have E:((a8 out).drop (i*2)).length=(out.length-i)*2:=by rw[Td];omega
      have s:((oq x).take (1*2)++(a8 out).drop (i*2)).take ((1+(out.length-i))*2)=a8 (x::out.drop i):=by
       rw[D.2,show(oq x).take (1*2)++a8 (out.drop i)=a8 (x::out.drop i)from O,aQ];rw[bK,Rk,Td];omega
      have W:(((oq x).take (1*2)++(a8 out).drop (i*2)).take ((1+(out.length-i))*2)).length=(1+(out.length-i))*2:=by rw[s,bK,Rk,Td];omega
      have Z:∀c∈((oq x).take (1*2)++(a8 out).drop (i*2)).take ((1+(out.length-i))*2),c.leaf=Sm:=by rw[s];exact gO _
      have H:(a8 out).take (i*2)++((oq x).take (1*2)++(a8 out).drop (i*2)).take ((1+(out.length-i))*2)=a8 (eM x out):=by rw[s,D.1,A,pt]
      have ab:i+(1+(out.length-i))=(eM x out).length:=by rw[A,IS,Rk,Rr,Td];omega
      refine RW 11 O ?_;iterate 2 refine D1 O ?_
      refine Ds [_] O (λτ h=>pC i underlying38 Kh (Ee h 0 O O) (Eo h 0 O O) (Ee h 1 O O) O hi) O Vg ?_;iterate 4 refine D1 O ?_
      refine Ds [_] O (λτ h=>u6 i underlying38 Kh (Ee h 0 O O) (Eo h 0 O O) (Ee h 1 O O) O hi) O Vg<|Ds [_,_] O (λτ h=>gv 3 Lo (Ee h 0 O O) (Eo h 0 O O) (BY _) (Pb.tsl (Ee h 1 O O) (Eo h 1 O O) O E) E (λc hc=>gO out c (TX hc)) Vf (h.n 0 _ O)) O Vg<|Ds [_,_] O (λτ h=>gv 4 Lo (Ee h 0 O O) (Eo h 0 O O) Vf (nP.any (.inr ⟨_,_,_,_,(Ee h 1 O O),(Eo h 1 O O),O⟩)) W Z Vf (h.n 0 _ O)) O Vg<|D1 O ?_;refine⟨Vg,?_⟩;exact Q4 (St.EZ 3 O O Vf (λe=>gV (l:=eM x out) (k:=0) Vf (H.symm.trans e)))<|Z2 O<|⟨(k+1,eM x out),Q6 [4] ⟨ag (λn=>V.gsl 4 2 n) ab,O,O,O,Vm⟩ ⟨RI (b:=Sh (.gro 41 ((a8 out).take (i*2)++((oq x).take (1*2)++(a8 out).drop (i*2)).take ((1+(out.length-i))*2)))) Vg (ag (λc=>Sh (Ob.gro 41 c)) H),Vm⟩ O O Vh O,⟨Vf,L⟩,Vl⟩
   .refine RW 14 O ?_;iterate 3 refine D1 O ?_
    refine Ds [] O (λτ h=>XJ.cast (v':= .pv (.bool S1)) (aC (Ee h 0 O O) (Ee h 1 O O) O) (ag (λb=>V.pv (.bool b)) (Rv Vf))) O Vg ?_;iterate 10 refine D1 O ?_
    refine⟨Vg,?_⟩;refine Gc O (λr=>absurd r Vj) (λr=>?_);refine Gx O<|RW 14 O ?_;iterate 3 refine D1 O ?_
    refine Ds [] O (λτ h=>XJ.cast (v':= .pv (.bool S1)) (aC (Ee h 0 O O) (Ee h 1 O O) O) (ag (λb=>V.pv (.bool b)) (Rv Vf))) O Vg ?_;iterate 10 refine D1 O ?_
    refine⟨Vg,?_⟩;refine Gc O (λu=>absurd u Vj) (λu=>?_);refine Q3 ?_;have A:eM x out=out.take i++x::out.drop i:=s7 hi hall (λh=>absurd h hi2);have D:=uI out i;have E:((a8 out).drop (i*2)).length=(out.length-i)*2:=by rw[Td];omega
    have s:((oq x).take (1*2)++(a8 out).drop (i*2)).take ((1+(out.length-i))*2)=a8 (x::out.drop i):=by
     rw[D.2,show(oq x).take (1*2)++a8 (out.drop i)=a8 (x::out.drop i)from O,aQ];rw[bK,Rk,Td];omega
    have W:(((oq x).take (1*2)++(a8 out).drop (i*2)).take ((1+(out.length-i))*2)).length=(1+(out.length-i))*2:=by rw[s,bK,Rk,Td];omega
    have Z:∀c∈((oq x).take (1*2)++(a8 out).drop (i*2)).take ((1+(out.length-i))*2),c.leaf=Sm:=by rw[s];exact gO _
    have H:(a8 out).take (i*2)++((oq x).take (1*2)++(a8 out).drop (i*2)).take ((1+(out.length-i))*2)=a8 (eM x out):=by rw[s,D.1,A,pt]
    have ab:i+(1+(out.length-i))=(eM x out).length:=by rw[A,IS,Rk,Rr,Td];omega
    refine RW 11 O ?_;iterate 2 refine D1 O ?_
    refine Ds [_] O (λτ h=>pC i underlying38 Kh (Ee h 0 O O) (Eo h 0 O O) (Ee h 1 O O) O hi) O Vg ?_;iterate 4 refine D1 O ?_
    refine Ds [_] O (λτ h=>u6 i underlying38 Kh (Ee h 0 O O) (Eo h 0 O O) (Ee h 1 O O) O hi) O Vg<|Ds [_,_] O (λτ h=>gv 3 Lo (Ee h 0 O O) (Eo h 0 O O) (BY _) (Pb.tsl (Ee h 1 O O) (Eo h 1 O O) O E) E (λc hc=>gO out c (TX hc)) Vf (h.n 0 _ O)) O Vg<|Ds [_,_] O (λτ h=>gv 4 Lo (Ee h 0 O O) (Eo h 0 O O) Vf (nP.any (.inr ⟨_,_,_,_,(Ee h 1 O O),(Eo h 1 O O),O⟩)) W Z Vf (h.n 0 _ O)) O Vg<|D1 O ?_;refine⟨Vg,?_⟩;exact Q4 (St.EZ 3 O O Vf (λe=>gV (l:=eM x out) (k:=0) Vf (H.symm.trans e)))<|Z2 O<|⟨(k+1,eM x out),Q6 [4] ⟨ag (λn=>V.gsl 4 2 n) ab,O,O,O,Vm⟩ ⟨RI (b:=Sh (.gro 41 ((a8 out).take (i*2)++((oq x).take (1*2)++(a8 out).drop (i*2)).take ((1+(out.length-i))*2)))) Vg (ag (λc=>Sh (Ob.gro 41 c)) H),Vm⟩ O O Vh O,⟨Vf,L⟩,Vl⟩
 .refine Q4 (Q8 0 O O) ?_;have am:=hs.n;have an:=bK out;have ad:mQ l=out.filter λy=>y.w !=0:=by rw[mQ,hs.e,show k=l.length by omega,T3]
  refine Gx O<|Z1 O<|Q4 (Ra 7 1 2 41 O O)<|Z3 O<|Gl O (st:=λB:Nat×List Rw=>mkS [(7,.gsl 1 2 B.2.length),(67,.pv (mH out)),(68,pIi out.length),(69,pIi B.1)] [(1,.gro 41 (a8 B.2))] 2)
   (I:=λB=>(B.1<=out.length/\B.2.length<=B.1)/\B.2=(out.take B.1).filter λy=>y.w !=0) (μ:=λB=>out.length-B.1) (x0:=(0,[])) (Q5 (aS O) (aO O) O O) (⟨⟨cd _,BY _⟩,O⟩) ?_
  rintro⟨j,q⟩ ⟨hj,hq⟩;try simp only at hj hq ⊢
  refine Z1 O<|Gp O (λaj=>?_) (λaj=>?_)
  .have hlj:j<out.length:=Vf;have aB:=dY hlj;have aD:=gV hlj;have aE:=bK q;have ae:out.take (j+1)=out.take j++[out[j]]:=AI hlj;generalize out[j]=y at*;refine Q3<|Z1 O ?_;first|refine A3 O Vi ?_|refine A1 O ?_
   refine Y2 O<|Z3 O<|Gc O (λJ=>?_) (λJ=>?_)
   .refine Gr O ?_;iterate 5 refine A1 O ?_
    exact Z2 O<|⟨(j+1,q++[y]),Q6 [0,4] ⟨ag (λn=>V.gsl 4 2 n) (show q.length+1=(q++[y]).length by simp),O,O,O,Vm⟩ ⟨RI (b:=Sh (.gro 41 (a8 q++oq y))) Vg (ag (λc=>Sh (Ob.gro 41 c)) (sg q y)),Vm⟩ O O Vh O,⟨⟨Vf,by simp only[IS,RD];omega⟩,by rw[ae,TY,<-hq];simp only[TL,List.filter_nil];rw[AT J]⟩,Vl⟩
   .exact Q3<|Z2 O<|⟨(j+1,q),Q5 (aS O) (aO O) O O,⟨⟨Vf,Vl⟩,by rw[ae,TY,<-hq];simp only[TL,List.filter_nil];rw[dt (by rw[J];decide),Sk]⟩,Vl⟩
  .exact Q4 (Q8 1 O O)<|Gx O<|Z2 O<|Gt O<|⟨_,_,O,O,by rw[ad,show out.filter (λy=>y.w !=0)=q by rw[hq,aQ Vf]];rfl⟩
end
end Go.Proofs.YtoplpepiabedhaaGreatDoor
