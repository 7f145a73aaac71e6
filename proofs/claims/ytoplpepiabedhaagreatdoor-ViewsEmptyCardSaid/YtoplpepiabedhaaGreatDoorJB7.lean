/- Lemmas. No condition. -/
import Derived.Test.YtoplpepiabedhaaGreatDoorJB6
set_option maxRecDepth 100000
set_option maxHeartbeats 4000000
open Go.RowKit Go.Proofs.Tryz
namespace Go.Proofs.YtoplpepiabedhaaGreatDoor
section
open Mk
abbrev B64:=BitVec 64
abbrev fF(x:B64):PV:= .int .u64 (x.toNat:Int)
theorem qI(i:Int):IntKind.u64.wrap i=i%18446744073709551616:=by
 unfold IntKind.wrap;simp[IntKind.signed,IntKind.bits]
theorem wI(x:B64):IntKind.u64.wrap (x.toNat:Int)=x.toNat:=by
 rw[qI];have:=x.isLt;omega
theorem ofInt64(x:B64):BitVec.ofInt IntKind.u64.bits (x.toNat:Int)=x:=by
 show BitVec.ofInt 64 _=x;rw[BitVec.ofInt_natCast,BitVec.ofNat_toNat,BitVec.setWidth_eq]
section
variable {C:Ctx}{n:Nat}{σ:St}{dst:Option Tmp}{ty t t':TypeId}{pos:String}{after:Array Edge}{gd:Option (Nat×Bool)}{x y:Operand}{X Y:B64}
theorem u6(hx:σ.ev n x= .pv (fF X))(hy:σ.ev n y= .pv (fF Y)):XJ C n ⟨dst,.binOp .and t x y t',ty,pos,after,gd⟩ σ ⟨.pv (fF (X&&&Y)),[],[]⟩:=
 aG hx hy (by simp only[tD,ofInt64];exact ag (fun i=>some (PV.int .u64 i)) (wI _))
theorem yU(hx:σ.ev n x= .pv (fF X))(hy:σ.ev n y= .pv (fF Y)):XJ C n ⟨dst,.binOp .or t x y t',ty,pos,after,gd⟩ σ ⟨.pv (fF (X|||Y)),[],[]⟩:=
 aG hx hy (by simp only[tD,ofInt64];exact ag (fun i=>some (PV.int .u64 i)) (wI _))
theorem AE(hx:σ.ev n x= .pv (fF X))(hy:σ.ev n y= .pv (fF Y)):XJ C n ⟨dst,.binOp .andNot t x y t',ty,pos,after,gd⟩ σ ⟨.pv (fF (X&&& ~~~Y)),[],[]⟩:=
 aG hx hy (by simp only[tD,ofInt64];exact ag (fun i=>some (PV.int .u64 i)) (wI _))
theorem Lb(hx:σ.ev n x= .pv (fF X))(hy:σ.ev n y= .pv (fF Y)):XJ C n ⟨dst,.binOp .sub t x y t',ty,pos,after,gd⟩ σ ⟨.pv (fF (X-Y)),[],[]⟩:=
 aG hx hy (by
  simp only[tD,qI];refine ag (fun i=>some (PV.int .u64 i)) ?_;have:=X.isLt;have:=Y.isLt;rw[BitVec.toNat_sub];omega)
theorem xE(X Y:B64):((X.toNat:Int)==(Y.toNat:Int))=decide (X=Y):=by
 rw[PA];simp only[Rk,Po];exact⟨fun h=>BitVec.eq_of_toNat_eq Ts,fun h=>by rw[h]⟩
theorem MM(hx:σ.ev n x= .pv (fF X))(hy:σ.ev n y= .pv (fF Y)):XJ C n ⟨dst,.binOp .eql t x y t',ty,pos,after,gd⟩ σ ⟨.pv (.bool (decide (X=Y))),[],[]⟩:=
 aG hx hy (by simp only[tD,xE])
theorem CE(hx:σ.ev n x= .pv (fF X))(hy:σ.ev n y= .pv (fF Y)):XJ C n ⟨dst,.binOp .neq t x y t',ty,pos,after,gd⟩ σ ⟨.pv (.bool (decide (X≠Y))),[],[]⟩:=
 aG hx hy (by simp only[tD,bne,xE,decide_not])
theorem Kn(a:Nat){i:Int}{k':IntKind}(hx:σ.ev n x= .pv (fF 1#64))(hy:σ.ev n y= .pv (.int k' i))(hi:i=(a:Int))(ha:a<64):XJ C n ⟨dst,.binOp .shl t x y t',ty,pos,after,gd⟩ σ ⟨.pv (fF (BitVec.twoPow 64 a)),[],[]⟩:=by
 subst hi;refine XJ.cast (OO hx hy Ts)<|ag (fun i=>V.pv (PV.int .u64 i)) ?_;show IntKind.u64.wrap (1*2^(min (Int.toNat (a:Int)) 64))=_;rw[show min (Int.toNat (a:Int)) 64=a by omega,BitVec.toNat_twoPow,qI];simp
theorem Bq(a:Nat){i:Int}{k':IntKind}(hx:σ.ev n x= .pv (fF X))(hy:σ.ev n y= .pv (.int k' i))(hi:i=(a:Int))(ha:a<64):XJ C n ⟨dst,.binOp .shr t x y t',ty,pos,after,gd⟩ σ ⟨.pv (fF (X>>>a)),[],[]⟩:=by
 subst hi;refine XJ.cast (NK hx hy Ts)<|ag (fun i=>V.pv (PV.int .u64 i)) ?_;show Int.fdiv (X.toNat:Int) (2^(min (Int.toNat (a:Int)) 64))=_;rw[show min (Int.toNat (a:Int)) 64=a by omega,BitVec.toNat_ushiftRight,Nat.shiftRight_eq_div_pow];have e:(2:Int)^a=((2^a:Nat):Int):=Tw;rw[e,Int.fdiv_eq_ediv_of_nonneg _ (Int.natCast_nonneg _)];simp
end
theorem KC(X:B64)(a:Nat):decide ((X>>>a)&&&1#64=1#64)=X.getLsbD a:=by
 rw[PA,Po];constructor
 ·intro h;have:=ag (fun z:B64=>z.getLsbD 0) h;simpa using this
 ·intro h;apply BitVec.eq_of_getLsbD_eq;intro i hi;rw[Sz,BitVec.getLsbD_one];by_cases e:i=0
  ·subst e;simp[h]
  ·simp[e]
theorem wh(a:Nat)(ha:a<64):FnP prog 115 [.int .i64 a] (· =fF (BitVec.twoPow 64 a)):=by
 refine FnP.of func115 O ntmps115 Tw fun m0 w0 F R0=>?_
 exact Z1 O O<|Z1 O O<|Rs 4 O O (Kn a O O O ha)<|A1 O<|Gt O<|⟨_,_,O,O,O⟩
theorem Oa(X:B64)(a:Nat)(ha:a<64):FnP prog 198 [fF X,.int .i64 a] (· = .bool (X.getLsbD a)):=by
 refine FnP.of func198 O ntmps198 Tw fun m0 w0 F R0=>?_
 exact Z1 O O<|Z2 O O O<|Rs 7 O O (Bq a O O O ha)<|Rs 8 O O (u6 (Y:=1#64) O O)<|Rs 9 O O (MM (Y:=1#64) O O)<|A1 O<|Gt O<|⟨_,_,O,O,ag PV.bool (KC X a)⟩
abbrev vF(G:List B64):List PV:=G.map fF
abbrev jd(G:List B64):PV:= .sl none G.length (vF G)
theorem x6{l:List B64}{k:Nat}(h:k<l.length):(vF l)[k*1]? =some (fF l[k]):=by simp[h]
theorem GY{l:List B64}{k:Nat}(h:k<l.length):vF l≠[]:=by intro e;simp at e;subst e;simp at h
def FJ(n:Nat):B64:=BitVec.twoPow 64 n-1#64
theorem H8{n:Nat}(hn:n<64)(i:Nat):(FJ n).getLsbD i=decide (i<n):=by
 have e:FJ n=BitVec.ofNat 64 (2^n-1):=by
  apply BitVec.eq_of_toNat_eq;unfold FJ;have h1:2^n<2^64:=Nat.pow_lt_pow_right Tu hn;have h2:0<2^n:=Nat.pow_pos Tu;rw[BitVec.toNat_sub,BitVec.toNat_twoPow,BitVec.toNat_ofNat,SP h1];simp only[BitVec.toNat_ofNat];omega
 rw[e,BitVec.getLsbD_ofNat,Nat.testBit_two_pow_sub_one];by_cases h:i<n
 ·simp[h];omega
 ·simp[h]
end
theorem wg(f:Nat->Bool):∀w:Nat,∃x:BitVec w,∀i,i<w->x.getLsbD i=f i
 |0=>⟨0#0,fun i h=>absurd h (RJ _)⟩
 | w+1=>by
   obtain⟨x,hx⟩:=wg f w;refine⟨BitVec.cons (f w) x,fun i hi=>?_⟩;rw[BitVec.getLsbD_cons];by_cases e:i=w
   ·rw[AT e,e]
   ·rw[dw e,hx i Ts]
noncomputable def bitsOf(f:Nat->Bool):BitVec 64:=Classical.choose (wg f 64)
theorem qi(f:Nat->Bool){i:Nat}(h:i<64):(bitsOf f).getLsbD i=f i:=Classical.choose_spec (wg f 64) i h
theorem ir{x:BitVec 64}{i:Nat}(h:x.getLsbD i=true):i<64:=PT fun e=>by
 rw[BitVec.getLsbD_of_ge _ _ Ts]at h;cases h
inductive Reach (G:List (BitVec 64)) (rest:BitVec 64) (a:Nat):Nat->Prop
 |refl:Reach G rest a a
 |step {b c:Nat}:Reach G rest a b->(G.getD b 0#64).getLsbD c=true->rest.getLsbD c=true->Reach G rest a c
noncomputable def compB(G:List (BitVec 64))(rest:BitVec 64)(a:Nat):BitVec 64:=bitsOf fun b=>@decide (Reach G rest a b) (Classical.propDecidable _)
theorem mX{G:List (BitVec 64)}{rest:BitVec 64}{a b:Nat}(hb:b<64):(compB G rest a).getLsbD b=true↔Reach G rest a b:=by
 unfold compB;rw[qi _ hb];exact @P9 _ (Classical.propDecidable _)
theorem jE{G:List (BitVec 64)}{rest:BitVec 64}{a b:Nat}(h:(compB G rest a).getLsbD b=true):Reach G rest a b:=(mX (ir h)).1 h
theorem uP{α:Type}{p q:α->Bool}:∀{l:List α},(∀a∈l,p a=true->q a=true)->(∃a∈l,p a=false/\q a=true)->l.countP p<l.countP q
 |[],_,⟨a,h,_⟩=>by cases h
 | x::l,h,⟨a,ha,h1,h2⟩=>by
   have hm:l.countP p<=l.countP q:=List.countP_mono_left fun y hy=>h y (PH _ hy)
   rw[List.countP_cons,List.countP_cons];by_cases e:a=x
   ·subst e;rw[h1,h2];simp;omega
   ·have hr:=uP (l:=l) (fun y hy=>h y (PH _ hy)) ⟨a,(AS.1 ha).resolve_left e,h1,h2⟩;have:=h x (PU ..);by_cases ep:p x=true
    ·rw[ep,this ep];simp;omega
    ·by_cases eq:q x=true<;>simp[ep,eq]<;>omega
noncomputable def compsN(G:List (BitVec 64))(rest:BitVec 64):Nat->List (BitVec 64)×BitVec 64
 |0=>([],rest)
 |k+1=>if(compsN G rest k).2.getLsbD k=true then((compsN G rest k).1++[compB G (compsN G rest k).2 k],(compsN G rest k).2&&& ~~~compB G (compsN G rest k).2 k)else compsN G rest k
structure IsG(S:Sch)(G:List (BitVec 64)):Prop where
 len:G.length=S.attrs.length
 bit:∀a,a<G.length->∀b:Nat,(G.getD a 0#64).getLsbD b=(decide (a≠b)&&fa S a b)
section
open Mk
theorem getD_eq{α:Type}{l:List α}{k:Nat}(h:k<l.length)(d:α):l.getD k d=l[k]:=by simp[List.getD,h]
def BL(n:Nat)(G:List B64)(p:Nat->Nat->Bool):Prop:=G.length=n/\∀a,a<n->∀b:Nat,(G.getD a 0#64).getLsbD b=p a b
theorem BL.zero(n:Nat):BL n (List.replicate n 0#64) (fun _ _=>false):=⟨Tw,fun a ha b=>by simp[List.getD,ha]⟩
theorem BL.congr{n:Nat}{G:List B64}{p q:Nat->Nat->Bool}(h:BL n G p)(e:∀a,a<n->∀b,p a b=q a b):BL n G q:=⟨h.1,fun a ha b=>by rw[h.2 a ha b,e a ha b]⟩
theorem BL.or{n:Nat}{G:List B64}{p:Nat->Nat->Bool}(h:BL n G p){i:Nat}(hi:i<n)(x:B64):BL n (G.set i (G[i]'(by rw[h.1];exact hi)|||x)) (fun a b=>p a b||(decide (a=i)&&x.getLsbD b)):=by
 refine⟨by simp[h.1],fun a ha b=>?_⟩;have hl:i<G.length:=by rw[h.1];exact hi
 by_cases e:a=i
 ·subst e;have:=h.2 a ha b;rw[getD_eq hl]at this;simp[List.getD,hl,BitVec.getLsbD_or,this]
 ·have:=h.2 a ha b;simp only[List.getD]at this ⊢;rw[Q7 (fun e'=>e e'.symm),this];simp[e]
def qC(rs:List (ByteArray×List Int))(a b:Nat):Bool:=rs.any fun r=>decide ((a:Int)∈r.2)&&decide ((b:Int)∈r.2)
theorem j1{l:List Int}{q i:Nat}(hq:q<l.length)(hi:l[q]=(i:Int))(a:Nat):(a:Int)∈l.take (q+1)↔(a:Int)∈l.take q\/a=i:=by
 rw[bC hq,Pq,OF,hi];exact or_congr Iff.rfl ⟨fun h=>by omega,fun h=>by rw[h]⟩
theorem HQ{rs:List (ByteArray×List Int)}{l:List Int}{q i a b:Nat}{all:B64}(hq:q<l.length)(hi:l[q]=(i:Int))(hall:∀b:Nat,all.getLsbD b=decide ((b:Int)∈l)):
  ((decide (a≠b)&&(qC rs a b||(decide ((a:Int)∈l.take q)&&decide ((b:Int)∈l))))||(decide (a=i)&&(all&&& ~~~(BitVec.twoPow 64 i)).getLsbD b))=
  (decide (a≠b)&&(qC rs a b||(decide ((a:Int)∈l.take (q+1))&&decide ((b:Int)∈l)))):=by
 have hm:decide ((a:Int)∈l.take (q+1))=(decide ((a:Int)∈l.take q)||decide (a=i)):=by
  rw[PA,PQ,P9,P9,P9,j1 hq hi]
 rw[hm,Sz,BitVec.getLsbD_not,BitVec.getLsbD_twoPow,hall];by_cases hb:(b:Int)∈l
 ·have hb64:b<64:=ir (x:=all) (by rw[hall];simpa using hb);by_cases e:a=i
  ·subst e;by_cases e2:a=b
   ·subst e2;simp[hb64]
   ·simp[e2,hb,hb64]
  ·simp[e]
 ·simp[hb]
theorem Ab{rs:List (ByteArray×List Int)}{k a b:Nat}(hk:k<rs.length):qC (rs.take (k+1)) a b=(qC (rs.take k) a b||(decide ((a:Int)∈rs[k].2)&&decide ((b:Int)∈rs[k].2))):=by
 unfold qC;rw[bC hk];simp only[List.any_append,List.any_cons,List.any_nil,Q5]
theorem Ao(S:Sch)(hS:SB S)(hV:Valid S):FnP prog 112 [eZ S] (fun v=>∃G,v=jd G/\IsG S G):=by
 refine FnP.of func112 O ntmps112 Tw fun m0 w0 F R0=>?_
 have hb:=hV.n2;have hb2:=hV.r2;refine Z2 O O O<|Gr O ?_;iterate 5 refine A1 O ?_
 refine Z4 O O O O O ?_;refine Gl O (st:=fun TC:Nat×List B64=>mkS [(3,.osl 1 1 S.attrs.length),(16,.pv (.sl none S.rels.length (aJ S.rels))),(17,pIi S.rels.length),(18,pIi TC.1)] [(1,.cells 206 (vF TC.2))] 2)
  (I:=fun TC=>TC.1<=S.rels.length/\BL S.attrs.length TC.2 (fun a b=>decide (a≠b)&&qC (S.rels.take TC.1) a b)) (μ:=fun TC=>S.rels.length-TC.1) (x0:=(0,List.replicate S.attrs.length 0#64)) (OU (aS O) ⟨ag (fun c=>some (Ob.cells 206 c)) ((ck (.int .u64 0) (S.attrs.length*1)).trans Tw),TB⟩ O O) (⟨cd _,(BL.zero _).congr (fun a _ b=>by simp[qC])⟩) ?_
 rintro⟨k,G⟩ ⟨hk,hG⟩;try simp only at hk hG ⊢
 refine Z1 O O ?_;refine Gp O O (fun hc19=>?_) (fun hc19=>?_)
 ·have hlt:k<S.rels.length:=Ts;have hrow:=dJ hlt;have hne:=fY hlt;have hll:=hS.rl _ (ar hlt);have hrng:=hV.rng _ (ar hlt);refine OR<|Z1 O O<|Rs 21 O O (aR ⟨_,underlying74,O⟩ JV O hrow O)<|Y2 O O<|Z1 O O<|Z4 O O O O O ?_;refine Gl O (st:=fun x_1:Nat×B64=>mkS [(3,.osl 1 1 S.attrs.length),(5,.ptr 2 0),(6,.pv (fF x_1.2)),(16,.pv (.sl none S.rels.length (aJ S.rels))),(17,pIi S.rels.length),(18,pIi k),(23,.pv (ai S.rels[k].2)),(24,.pv (.int .i64 S.rels[k].2.length)),(25,pIi x_1.1)] [(1,.cells 206 (vF G)),(2,.mix 74 [.pv (.str S.rels[k].1),.pv (ai S.rels[k].2)])] 3)
   (I:=fun x_1=>x_1.1<=S.rels[k].2.length/\∀b:Nat,x_1.2.getLsbD b=decide ((b:Int)∈S.rels[k].2.take x_1.1)) (μ:=fun x_1=>S.rels[k].2.length-x_1.1) (x0:=(0,0#64)) (OU (aS O) (aO O) O O) (⟨cd _,fun b=>by simp⟩) ?_
  rintro⟨q,all⟩ ⟨hq,hall⟩;try simp only at hq hall ⊢
  refine Z1 O O ?_;refine Gp O O (fun hc26=>?_) (fun hc26=>?_)
  ·have hql:q<S.rels[k].2.length:=Ts;have hv:=aQ hql;have hne2:=aE hql;have hrq:=hrng _ (ar hql);obtain⟨i,hi⟩:=Bb hrq.1;have hof:FnP prog 115 [.int .i64 S.rels[k].2[q]] (· =fF (BitVec.twoPow 64 i)):=by rw[hi];exact wh i Ts
   refine OR<|Z1 O O ?_;first|refine A2 O Tv ?_|refine A1 O ?_
   exact A1 O<|Z2 O O O<|Rs 31 O O (aa call115 hof O)<|Rs 32 O O (yU O O)<|A1 O<|Z2 O O O<|⟨(q+1,all|||BitVec.twoPow 64 i),OU (aS O) (aO O) O O,⟨Tz,fun b=>by simp only;rw[BitVec.getLsbD_or,hall,BitVec.getLsbD_twoPow,PA,PQ,P9,P9,j1 hql hi,sh,P9,P9];exact or_congr Iff.rfl ⟨fun h=>h.2.symm,fun h=>⟨Ts,h.symm⟩⟩⟩,Tz⟩
  ·rw[aX Ts]at hall;refine Gx O<|Z4 O O O O O ?_;refine Gl O (st:=fun x_2:Nat×List B64=>mkS [(3,.osl 1 1 S.attrs.length),(6,.pv (fF all)),(16,.pv (.sl none S.rels.length (aJ S.rels))),(17,pIi S.rels.length),(18,pIi k),(35,.pv (ai S.rels[k].2)),(36,.pv (.int .i64 S.rels[k].2.length)),(37,pIi x_2.1)] [(1,.cells 206 (vF x_2.2))] 3)
    (I:=fun x_2=>x_2.1<=S.rels[k].2.length/\BL S.attrs.length x_2.2 (fun a b=>decide (a≠b)&&(qC (S.rels.take k) a b||(decide ((a:Int)∈S.rels[k].2.take x_2.1)&&decide ((b:Int)∈S.rels[k].2))))) (μ:=fun x_2=>S.rels[k].2.length-x_2.1) (x0:=(0,G)) (OU (aS O) (aO O) O O) (⟨cd _,hG.congr (fun a _ b=>by simp)⟩) ?_
   rintro⟨q2,G2⟩ ⟨hq2,hG2⟩;try simp only at hq2 hG2 ⊢
   refine Z1 O O ?_;refine Gp O O (fun hc38=>?_) (fun hc38=>?_)
   ·have hql:q2<S.rels[k].2.length:=Ts;have hv:=aQ hql;have hne2:=aE hql;have hrq:=hrng _ (ar hql);obtain⟨i,hi⟩:=Bb hrq.1;have hil:i<G2.length:=by rw[hG2.1];omega
    have hgl:=hG2.1;have hvi:=x6 hil;have hof:FnP prog 115 [.int .i64 S.rels[k].2[q2]] (· =fF (BitVec.twoPow 64 i)):=by rw[hi];exact wh i Ts
    refine OR<|Z1 O O ?_;first|refine A2 O Tv ?_|refine A1 O ?_
    refine A1 O<|Ge O follows [0,1,2,3,4,5,6,7,8,9,10] Tt ?_;iterate 2 refine D1 O O ?_
    refine Ds 43 [_] O O O (fun τ h=>aq i underlying202 F2 (Ee h 0 O O) (Eo h 0 O O) (Ee h 1 O O) hi Ts) O Tt<|Ds 44 [_] O O O (fun τ h=>b8 ⟨_,underlying206,O⟩ (Ee h 0 O O) (Eo h 0 O O) hvi) O Tt ?_;iterate 2 refine D1 O O ?_
    refine Ds 47 [] O O O (fun τ h=>aa call115 hof (h.aL O)) O Tt<|Ds 48 [] O O O (fun τ h=>AE (Ee h 0 O O) (Ee h 1 O O)) O Tt<|Ds 49 [] O O O (fun τ h=>yU (Ee h 0 O O) (Ee h 1 O O)) O Tt<|Ds 50 [_] O O O (fun τ h=>aq i underlying202 F2 (Ee h 0 O O) (Eo h 0 O O) (Ee h 1 O O) hi Ts) O Tt<|DL.step (d:=none) [_] O O O (fun τ h=>bK F2 (Ee h 0 O O) (Eo h 0 O O) (Ee h 1 O O) O Tx) O Tt ?_;refine⟨Tt,?_⟩;exact Z2 O O O<|⟨(q2+1,G2.set i (G2[i]|||(all&&& ~~~(BitVec.twoPow 64 i)))),OU (aS O) ⟨by show some (Ob.cells _ _)=_;simp[Qi],TB⟩ O O,⟨Tz,(hG2.or Ts _).congr (fun a _ b=>HQ hql hi hall)⟩,Tz⟩
   ·have hG3:=hG2.congr (q:=fun a b=>decide (a≠b)&&qC (S.rels.take (k+1)) a b) (fun a _ b=>by rw[show S.rels[k].2.take q2=S.rels[k].2 from aX Ts,Ab hlt]);exact Gx O<|Z2 O O O<|⟨(k+1,G2),OU (aS O) (aO O) O O,⟨Tz,hG3⟩,Tz⟩
 ·rw[aX Ts]at hG;exact Gx O<|OT (OX 1 O O)<|Z2 O O O<|OT (St.lK [2])<|Gt O<|⟨_,_,O,O,G,by show PV.sl none S.attrs.length (vF G)=_;rw[<-hG.1],hG.1,fun a ha b=>by rw[hG.2 a (by rw[<-hG.1];exact ha) b];rfl⟩
end
section
open Mk
section
variable {C:Ctx}{n:Nat}{σ τ:St}{ops:Array Oper}{dst:Option Tmp}{ty:TypeId}{ts:Array TypeId}{pos:String}{after:Array Edge}{gd:Option (Nat×Bool)}
theorem Agr.cF{s:OS}{rd:List Nat}{y:Operand}{xs:Array Operand}(h:Agr n ops ⟨dst,.call { callee:= .value y,args:=xs,argTypes:=ts },ty,pos,after,gd⟩ σ τ s rd):xs.toList.map (τ.ev n)=xs.toList.map (σ.ev n):=by
 apply PR;intro x hx;obtain⟨i,hi⟩:=Qr hx;exact h.e (i+1) x (by simpa[Op.operands,Call.operands,SN]using hi)
theorem ki{f:FuncId}{xs:Array Operand}{y:Operand}{fs cs:List V}{args:List V}{os:List (Nat×Ob)}{k':Nat}{r:V}{X:Nat->Option Ob}{vs:List V}(ids:List Nat)(base:Nat)(hc:cu C.P f)(hf:FnO C.P f ids.length k' args os (fun v ob'=>v=r/\ob'=X))(hy:σ.ev n y= .fn (.func f) fs cs)(hxs:xs.toList.map (σ.ev n)=vs)(hargs:fs++vs++cs=V.renL (dH ids base) args)
  (ha:V.allL (okR ids.length 0) args=true) (hos:os.map (·.1)=(List.range ids.length).map (big+ ·)) (hob:os.all (fun p=>p.2.all (okR ids.length 0))=true) (hobs:ff σ (dH ids base) os)
  (hnd:ids.Nodup) (hav:(nwO base k').all σ.av=true):
  XJ C n ⟨dst,.call { callee:= .value y,args:=xs,argTypes:=ts },ty,pos,after,gd⟩ σ ⟨r.ren (dH ids base),wrO ids base k' X,nwO base k'⟩:=
 Eh ids base hc hy (by rw[hxs];exact hargs) ha hos hob hobs hnd hav hf (by rintro _ _ ⟨rfl,rfl⟩;rfl)
end
def ik(q:List Int)(W:B64->Int->List Int->List Int)(par:Int)(P:List Int)(c:B64):List Int:=
 match q.find? (fun a=>c.getLsbD a.toNat)with
 |some a=>W (c&&& ~~~(BitVec.twoPow 64 a.toNat)) a (P.set a.toNat par)
 |none=>P
noncomputable def placeF(G:List B64)(q:List Int):Nat->B64->Int->List Int->List Int
 |0,_,_,P=>P
 |f+1,rest,par,P=>(compsN G rest G.length).1.foldl (ik q (placeF G q f) par) P
theorem tR{G:List B64}{R:B64}{a i:Nat}(ha:R.getLsbD a=true)(h:(compB G R a).getLsbD i=true):R.getLsbD i=true:=by
 cases jE h with
 |refl=>exact ha
 |step _ _ h=>exact h
theorem uz(G:List B64)(rest:B64):∀k,(∀i,(compsN G rest k).2.getLsbD i=true->rest.getLsbD i=true)/\∀c∈(compsN G rest k).1,∀i,c.getLsbD i=true->rest.getLsbD i=true
 |0=>⟨fun _ h=>h,fun c hc=>by simp[compsN]at hc⟩
 | k+1=>by
   obtain⟨h1,h2⟩:=uz G rest k;simp only[compsN];split
   ·rename_i hk;refine⟨fun i hi=>?_,fun c hc i hi=>?_⟩
    ·rw[Sz,sh]at hi;exact h1 i hi.1
    ·rcases Pq.1 hc with h|h
     ·exact h2 c h i hi
     ·rw[OF.1 h]at hi;exact h1 i (tR hk hi)
   ·exact⟨h1,h2⟩
def jL(x:B64):Nat:=(List.range 64).countP fun i=>x.getLsbD i
theorem Ov{x y:B64}(h:∀i,x.getLsbD i=true->y.getLsbD i=true){j:Nat}(h1:x.getLsbD j=false)(h2:y.getLsbD j=true):jL x<jL y:=
 uP (fun a _ ha=>h a ha) ⟨j,P0.2 (ir h2),h1,h2⟩
theorem mA(c:B64)(a i:Nat):(c&&& ~~~(BitVec.twoPow 64 a)).getLsbD i=(c.getLsbD i&&decide (a≠i)):=by
 rw[Sz,BitVec.getLsbD_not,BitVec.getLsbD_twoPow];by_cases hi:i<64
 ·by_cases e:a=i
  ·subst e;simp[hi]
  ·simp[hi,e]
 ·rw[BitVec.getLsbD_of_ge c i Ts];rfl
theorem Gw{G:List B64}{rest c:B64}{k a:Nat}(hc:c∈(compsN G rest k).1)(ha:c.getLsbD a=true):jL (c&&& ~~~(BitVec.twoPow 64 a))<jL rest:=by
 have hs:=(uz G rest k).2 c hc;refine Ov (fun i hi=>?_) (j:=a) ?_ (hs a ha)
 ·rw[mA,sh]at hi;exact hs i hi.1
 ·rw[mA];simp
theorem Hg{x:B64}(h:jL x=0)(i:Nat):x.getLsbD i=false:=by
 cases e:x.getLsbD i with
 |false=>rfl
 | true=>
   have:=List.countP_eq_zero.1 h i (P0.2 (ir e));exact absurd e this
theorem nx(G:List B64)(q:List Int):∀(f:Nat)(rest:B64)(par:Int)(P:List Int),(placeF G q f rest par P).length=P.length
 |0,_,_,_=>rfl
 | f+1,rest,par,P=>by
   simp only[placeF];generalize (compsN G rest G.length).1=cs;induction cs generalizing P with
   |nil=>rfl
   | cons c cs ih=>
     rw[QQ,ih];unfold ik;split
     ·rw[nx G q f];simp
     ·rfl
theorem FB(x:B64):jL x<=64:=IS List.countP_le_length Tw
noncomputable def ofL(G:List B64)(q:List Int):List Int:=placeF G q 64 (FJ G.length) (-1) (List.replicate G.length 0)
theorem Ms(G:List B64)(q:List Int):(ofL G q).length=G.length:=by unfold ofL;rw[nx];simp
end
section
open Mk
noncomputable def gr(S:Sch):List B64:=(List.range S.attrs.length).map fun a=>bitsOf fun b=>decide (a≠b)&&fa S a b
theorem y0(S:Sch):(gr S).length=S.attrs.length:=by simp[gr]
theorem nZ{S:Sch}(hV:Valid S){a b:Int}(h:fa S a b=true):(0<=a/\a<S.attrs.length)/\(0<=b/\b<S.attrs.length):=by
 unfold fa at h;obtain⟨r,hr,h2⟩:=Qy.1 h;simp at h2;exact⟨hV.rng r hr a h2.1,hV.rng r hr b h2.2⟩
theorem za{S:Sch}(hV:Valid S){a:Nat}(ha:a<S.attrs.length)(b:Nat):((gr S).getD a 0#64).getLsbD b=(decide (a≠b)&&fa S a b):=by
 have e:(gr S).getD a 0#64=bitsOf fun b=>decide (a≠b)&&fa S a b:=by simp[gr,List.getD,ha]
 rw[e];by_cases hb:b<64
 ·rw[qi _ hb]
 ·rw[BitVec.getLsbD_of_ge _ _ Ts];cases hl:fa S a b with
  |false=>simp
  |true=>have:=(nZ hV hl).2;have:=hV.n2;omega
theorem N9{S:Sch}(hV:Valid S){G:List B64}(h:IsG S G):G=gr S:=by
 apply Qu
 ·rw[h.len,y0]
 ·intro a h1 h2;apply BitVec.eq_of_getLsbD_eq;intro b _;have e1:=h.bit a h1 b;have e2:=za hV (a:=a) (by rw[<-h.len];exact h1) b;rw[getD_eq h1]at e1;rw[getD_eq h2]at e2;rw[e1,e2]
noncomputable def ordL(S:Sch)(q:List Int):List Int:=ofL (gr S) q
def E3(q:List Int):Nat->Bool
 |0=>false
 |k+1=>E3 q k||decide (q.getD k 0∈q.take k)
theorem N1{q:List Int}{k n:Nat}(hk:k<n)(h:decide (q.getD k 0∈q.take k)=true):E3 q n=true:=by
 induction n with
 |zero=>omega
 | succ n ih=>
   simp only[E3,PQ];by_cases e:k=n
   ·subst e;exact .inr h
   ·exact .inl (ih Ts)
def ofE(S:Sch)(q:List Int):Int:=
 if bp S≠0 then bp S
 else if q.length≠S.attrs.length then 5
 else if(q.any fun a=>decide (a<0)||decide (a>=(q.length:Int)))=true then 2
 else if E3 q q.length=true then 9 else 0
noncomputable def ofV(S:Sch)(q:List Int):PV:= .tup [lR (if ofE S q=0 then ordL S q else []),.int .i64 (ofE S q)]
theorem rz{S:Sch}{q:List Int}{e:Int}(h:ofE S q=e)(h0:e≠0):ofV S q= .tup [lR [],.int .i64 e]:=by
 unfold ofV;rw[h,dw h0]
theorem Ib{S:Sch}{q:List Int}(h0:bp S=0)(hq:q.Perm (upZ S.attrs.length)):ofE S q=0:=by
 have hl:q.length=S.attrs.length:=by rw[hq.length_eq,aW]
 have hr:∀a∈q,0<=a/\a<S.attrs.length:=by
  intro a ha;have:=hq.mem_iff.1 ha;unfold upZ at this;obtain⟨i,hi,rfl⟩:=IT.1 this;have:=P0.1 hi;simp;omega
 have hnd:q.Nodup:=hq.nodup_iff.2 (by unfold upZ;exact List.Pairwise.map _ (fun a b h e=>h (Int.ofNat.inj e)) List.nodup_range);have hd:∀k,k<=q.length->E3 q k=false:=by
  intro k;induction k with
  |zero=>intro _;rfl
  | succ k ih=>
    intro hk;simp only[E3,ih Ts,Bool.false_or,Qx,getD_eq (show k<q.length by omega)];intro hm;obtain⟨i,hi,e⟩:=QS.1 hm;have hi2:i<k:=Ts;have:=P6.1 hnd i k Ts Ts hi2;exact this e
 unfold ofE;rw[dw (fun h=>h h0),dw (fun h=>h hl),dw,dw (by rw[hd _ (BY _)];decide)];rw[Qy];rintro⟨a,ha,h⟩;have:=hr a ha;simp at h;omega
end
section
theorem dU{α:Type}[DecidableEq α]{l r:List α}(hl:l.Nodup)(hr:r.Nodup)(h:∀a,a∈l↔a∈r):l.Perm r:=by
 rw[List.perm_iff_count];intro a;rw[hl.count,hr.count];by_cases e:a∈l
 ·rw[AT e,AT ((h a).1 e)]
 ·rw[dw e,dw (fun x=>e ((h a).2 x))]
theorem bI{n:Nat}{x:Int}:x∈upZ n↔∃a:Nat,a<n/\x=(a:Int):=by
 unfold upZ;rw[IT];constructor
 ·rintro⟨a,ha,rfl⟩;exact⟨a,P0.1 ha,O⟩
 ·rintro⟨a,ha,rfl⟩;exact⟨a,P0.2 ha,O⟩
theorem cG(n:Nat):(upZ n).Nodup:=by
 unfold upZ;exact List.Pairwise.map _ (fun a b h e=>h (Int.ofNat.inj e)) List.nodup_range
theorem Nl(n:Nat):(upZ n).Pairwise (· < ·):=by
 unfold upZ;exact List.Pairwise.map _ (fun a b h=>by simpa using h) List.pairwise_lt_range
structure UpOk(P:List Int):Prop where
 rng:∀p∈P, -1<=p/\p<P.length
 up:∀v,v<P.length->(abv P (v:Int)).isSome=true
theorem me{P:List Int}:∀{k:Nat}{x:Int}{l:List Int},upF P k x=some l->upF P (k+1) x=some l
 | 0,x,l,h=>by
   simp only[upF]at h ⊢;split at h
   ·rename_i hx;rw[AT hx];exact h
   ·cases h
 | k+1,x,l,h=>by
   simp only[upF]at h;unfold upF;split at h
   ·rename_i hx;rw[AT hx];exact h
   ·rename_i hx;rw[dw hx];cases e:upF P k (P.getD x.toNat 0)with
    |none=>rw[e]at h;cases h
    | some l'=>
      rw[e]at h;rw[me e];exact h
section
variable {P:List Int}(hP:UpOk P)
include hP
theorem s8{v:Nat}(hv:v<P.length):P[v]= -1\/∃a:Nat,a<P.length/\P[v]=(a:Int):=by
 have:=hP.rng _ (ar hv);by_cases h:P[v]= -1
 ·exact .inl h
 ·obtain⟨a,ha⟩:=Bb (show 0<=P[v] by omega);exact .inr ⟨a,Ts,ha⟩
omit hP in
theorem tU{v:Nat}(hv:v<P.length):abv P v=upF P P.length P[v]:=by simp[abv,List.getD,hv]
omit hP in
theorem nG{v:Nat}(hv:v<P.length)(h:P[v]= -1):bP P v=[]:=by
 unfold bP;rw[tU hv,h,fA Tu];rfl
theorem jS{v a:Nat}(hv:v<P.length)(ha:a<P.length)(h:P[v]=(a:Int)):bP P v=(a:Int)::bP P a:=by
 have hs:=hP.up v hv;have e:=tU hv;rw[h]at e;obtain⟨k,hk⟩:∃k,P.length=k+1:=⟨P.length-1,Ts⟩;rw[hk,sn ha]at e;cases e2:upF P k P[a]with
 |none=>rw[e,e2]at hs;cases hs
 | some l=>
   have e3:abv P a=some l:=by rw[tU ha,hk];exact me e2
   unfold bP;rw[e,e2,e3];rfl
theorem pZ{motive:Nat->Prop}(root:∀v (hv:v<P.length),P[v]= -1->bP P v=[]->motive v)
  (step:∀v (hv:v<P.length) a (_:a<P.length),P[v]=(a:Int)->bP P v=(a:Int)::bP P a->motive a->motive v):∀v,v<P.length->motive v:=by
 have key:∀m v,v<P.length->(bP P v).length<=m->motive v:=by
  intro m;induction m with
  | zero=>
    intro v hv hl;rcases s8 hP hv with h|⟨a,ha,h⟩
    ·exact root v hv h (nG hv h)
    ·rw[jS hP hv ha h]at hl;simp at hl
  | succ m ih=>
    intro v hv hl;rcases s8 hP hv with h|⟨a,ha,h⟩
    ·exact root v hv h (nG hv h)
    ·have e:=jS hP hv ha h;rw[e]at hl;exact step v hv a ha h e (ih a ha (by simpa using hl))
 exact fun v hv=>key _ v hv (BY _)
theorem kC:∀v,v<P.length->∀x∈bP P v,∃a:Nat,a<P.length/\x=(a:Int)/\∃pre,bP P v=pre++(a:Int)::bP P a:=by
 refine pZ hP (fun v hv h e x hx=>?_) (fun v hv a ha h e ih x hx=>?_)
 ·rw[e]at hx;cases hx
 ·rw[e]at hx ⊢;rcases AS.1 hx with rfl|hx
  ·exact⟨a,ha,O,[],O⟩
  ·obtain⟨b,hb,rfl,pre,e2⟩:=ih x hx;exact⟨b,hb,O,(a:Int)::pre,by rw[e2];rfl⟩
theorem Bk{v a:Nat}(hv:v<P.length)(h:(a:Int)∈bP P v):a<P.length/\(bP P a).length<(bP P v).length:=by
 obtain⟨b,hb,e,pre,e2⟩:=kC hP v hv _ h;have:a=b:=Ts;subst this;refine⟨hb,?_⟩;rw[e2];simp;omega
theorem tf{v:Nat}(hv:v<P.length):(v:Int)∉bP P v:=fun h=>Nat.lt_irrefl _ (Bk hP hv h).2
theorem rS{a b c:Nat}(hc:c<P.length)(h1:(a:Int)∈bP P b)(h2:(b:Int)∈bP P c):(a:Int)∈bP P c:=by
 obtain⟨b',hb,e,pre,e2⟩:=kC hP c hc _ h2;have:b=b':=Ts;subst this;rw[e2];exact Rh _ (PH _ h1)
theorem iK:∀v,v<P.length->((v:Int)::bP P v).Nodup:=by
 refine pZ hP (fun v hv h e=>by rw[e];simp) (fun v hv a ha h e ih=>?_);rw[Rz];refine⟨tf hP hv,?_⟩;rw[e];exact ih
theorem sB:∀v,v<P.length->((v:Int)::bP P v).map (fun a=>P.getD a.toNat 0)=bP P v++[-1]:=by
 refine pZ hP (fun v hv h e=>?_) (fun v hv a ha h e ih=>?_)
 ·rw[e];simp[List.getD,hv,h]
 ·rw[e,bL,ih];simp[List.getD,hv,h]
theorem j9{v:Nat}(hv:v<P.length){x:Int}(h:x∈(v:Int)::bP P v):∃a:Nat,a<P.length/\x=(a:Int):=by
 rcases AS.1 h with rfl|h
 ·exact⟨v,hv,O⟩
 ·obtain⟨a,ha,e,_⟩:=kC hP v hv x h;exact⟨a,ha,e⟩
theorem CL{v:Nat}(hv:v<P.length):(bP P v++[-1]).Nodup:=by
 rw[Sg];refine⟨(Rz.1 (iK hP v hv)).2,Tw,?_⟩;intro a ha b hb;rw[OF.1 hb];obtain⟨c,_,rfl⟩:=j9 hP hv (PH _ ha);omega
omit hP in
theorem DV{α:Type}(p:α->Bool):∀l:List α,(l.map fun a=>if p a=true then 1 else 0).sum=l.countP p
 |[]=>rfl
 |a::l=>by rw[bL,PM,DV p l,List.countP_cons];omega
theorem lI{v:Nat}(hv:v<P.length):((upZ P.length).filter fun a=>decide (a∈(v:Int)::bP P v)).Perm ((v:Int)::bP P v):=by
 refine dU (RH Ri (cG _)) (iK hP v hv) fun a=>?_
 rw[Qn,P9,bI];exact⟨fun h=>h.2,fun h=>⟨j9 hP hv h,h⟩⟩
theorem kY:∀(f:Nat)(v:Int),(∀a (ha:a<P.length),P[a]=v->P.length+1<=(bP P a).length+f)->∀x,x<P.length->(jB P f v).count (x:Int)=if v∈bP P x++[-1]then 1 else 0:=by
 intro f;induction f with
 | zero=>
   intro v hf x hx;rw[dw]
   ·rfl
   ·intro hm;rw[<-sB hP x hx]at hm;obtain⟨a,ha,e⟩:=IT.1 hm;obtain⟨b,hb,rfl⟩:=j9 hP hx ha;have h1:=hf b hb (by simpa[List.getD,hb]using e);have:=iI P (b:Int);omega
 | succ f ih=>
   intro v hf x hx;have term:∀a∈upZ P.length,(List.count (x:Int)∘fun a=>if P.getD a.toNat 0=v then a::jB P f a else []) a=if(decide (P.getD a.toNat 0=v)&&decide (a∈(x:Int)::bP P x))=true then 1 else 0:=by
    intro a ha;obtain⟨b,hb,rfl⟩:=bI.1 ha;have hgd:P.getD (b:Int).toNat 0=P[b]:=by simp[List.getD,hb]
    simp only[Function.comp,hgd];by_cases e:P[b]=v
    ·rw[AT e,List.count_cons,ih (b:Int) ?_ x hx]
     ·simp only[e,decide_true,Tc,Po,AS,Pq,OF];by_cases e1:b=x
      ·subst e1;rw[dw]
       ·simp
       ·rintro(h|h)
        ·exact tf hP hb h
        ·simp at h
      ·have e2:¬ (b:Int)=x:=Ts;have e3:¬ (b:Int)= -1:=Ts;have e4:((b:Int)==(x:Int))=false:=by simpa using e2
       simp[e2,e3,e4]
     ·intro c hc hcb;have h1:=hf b hb e;rw[jS hP hc hb hcb];simp;omega
    ·rw[dw e];simp[e]
   unfold jB;rw[List.count_flatMap,PR term,DV,<-List.countP_filter,(lI hP hx).countP_eq];have e1:List.countP (fun a=>decide (P.getD a.toNat 0=v)) ((x:Int)::bP P x)=List.count v (((x:Int)::bP P x).map fun a=>P.getD a.toNat 0):=by
    rw[List.count,List.countP_map];refine List.countP_congr fun a _=>?_
    simp
   rw[e1,sB hP x hx,(CL hP hx).count]
omit hP in
theorem rP:∀(f:Nat)(v:Int),∀x∈jB P f v,∃a:Nat,a<P.length/\x=(a:Int)
 |0,v,x,hx=>by simp[jB]at hx
 | f+1,v,x,hx=>by
   simp only[jB]at hx;obtain⟨a,ha,hx⟩:=P5.1 hx;split at hx
   ·rcases AS.1 hx with rfl|hx
    ·exact bI.1 ha
    ·exact rP f a x hx
   ·cases hx
def aH(P:List Int):List Int:=jB P (P.length+1) (-1)
theorem bU:(aH P).Perm (upZ P.length):=by
 rw[List.perm_iff_count];intro x;rw[(cG _).count];by_cases h:x∈upZ P.length
 ·rw[AT h];obtain⟨a,ha,rfl⟩:=bI.1 h;unfold aH;rw[kY hP _ _ (fun b hb e=>by omega) a ha,AT Tw]
 ·rw[dw h,List.count_eq_zero];exact fun hx=>h (bI.2 (rP _ _ x hx))
end
def Bef(P:List Int)(v:Int)(w:List Int):Prop:=∀pre x post,w=pre++x::post->P.getD x.toNat 0=v\/P.getD x.toNat 0∈pre
theorem Bef.nil{P:List Int}{v:Int}:Bef P v []:=fun pre x post h=>by simp at h
theorem Bef.append{P:List Int}{v:Int}{w1 w2:List Int}(h1:Bef P v w1)(h2:Bef P v w2):Bef P v (w1++w2):=by
 intro pre x post e;rcases List.append_eq_append_iff.1 e with⟨us,e1,e2⟩|⟨bs,e1,e2⟩
 ·rcases h2 us x post e2 with h|h
  ·exact .inl h
  ·right;rw[e1];exact Rh _ h
 ·cases bs with
  | nil=>
    simp at e1 e2;rcases h2 [] x post (by simpa using e2.symm)with h|h
    ·exact .inl h
    ·cases h
  | cons b bs=>
    simp at e2;exact h1 pre x bs (by rw[e1,<-e2.1])
theorem Bef.cons{P:List Int}{v a:Int}{w:List Int}(ha:P.getD a.toNat 0=v)(h:Bef P a w):Bef P v (a::w):=by
 intro pre x post e;cases pre with
 |nil=>simp at e;rw[<-e.1];exact .inl ha
 | cons b pre=>
   simp at e;rcases h pre x post e.2 with h|h
   ·right;rw[h,e.1];exact PU ..
   ·right;exact PH _ h
theorem Bef.flat{P:List Int}{v:Int}{f:Int->List Int}:∀{l:List Int},(∀a∈l,Bef P v (f a))->Bef P v (l.flatMap f)
 |[],_=>Bef.nil
 | a::l,h=>by
   rw[Py];exact(h a (PU ..)).append (Bef.flat fun b hb=>h b (PH _ hb))
theorem wZ(P:List Int):∀(f:Nat)(v:Int),Bef P v (jB P f v)
 |0,_=>Bef.nil
 | f+1,v=>by
   unfold jB;refine Bef.flat fun a _=>?_
   split
   ·rename_i h;exact Bef.cons h (wZ P f a)
   ·exact Bef.nil
theorem KO{P:List Int}(hP:UpOk P){i:Nat}(hi:i<(aH P).length):(aH P)[i]∉(aH P).take i/\(P.getD (aH P)[i].toNat 0= -1\/P.getD (aH P)[i].toNat 0∈(aH P).take i):=by
 have e:aH P=(aH P).take i++(aH P)[i]::(aH P).drop (i+1):=by
  conv=>lhs;rw[<-PK i (aH P)]
  rw[PC hi]
 refine⟨?_,wZ P _ _ _ _ _ e⟩;have hnd:(aH P).Nodup:=(bU hP).nodup_iff.2 (cG _);intro hm;obtain⟨j,hj,e2⟩:=QS.1 hm;exact P6.1 hnd j i Ts hi Ts e2
theorem Ij{l:List Int}{x:Int}:x∈vo l↔x∈l:=(ln l).mem_iff
theorem Bz{S:Sch}{P:List Int}{v x:Int}:x∈fh S P v↔x∈bP P v/\∃b∈dD P v,fa S x b=true:=by
 unfold fh JB;rw[Ij,Qn,Qy]
theorem gX{P:List Int}{v b:Int}:b∈dD P v↔(∃a:Nat,a<P.length/\b=(a:Int))/\(b=v\/v∈bP P b):=by
 have e:dD P v=(upZ P.length).filter fun a=>a==v||hiB P v a:=rfl
 rw[e,Qn,bI];simp[hiB]
theorem Bc{S:Sch}{r:ByteArray×List Int}(hr:r∈S.rels){a b:Int}(ha:a∈r.2)(hb:b∈r.2):fa S a b=true:=by
 unfold fa;rw[Qy];exact⟨r,hr,by simp[ha,hb]⟩
theorem ze{P l:List Int}(h:cH P l=true){a b:Int}(ha:a∈l)(hb:b∈l):a=b\/a∈bP P b\/b∈bP P a:=by
 unfold cH at h;have:=IN.1 (IN.1 h a ha) b hb;simp[hiB,or_assoc]at this;exact this
theorem tZ{P l:List Int}(hP:UpOk P)(hr:∀a∈l,0<=a/\a<P.length)(hl:cH P l=true):∀(k:List Int)(done:List Int)(h:Int),(∀a∈k,a∈l)->(∀a∈done,a∈l)->h∈l->(∀a∈done,a=h\/a∈bP P h)->
  k.foldl (qn P) h∈l/\∀a,a∈done\/a∈k->a=k.foldl (qn P) h\/a∈bP P (k.foldl (qn P) h)
 |[],done,h,_,_,hh,hd=>⟨hh,fun a ha=>hd a (ha.resolve_right Tw)⟩
 | x::k,done,h,hk,hdn,hh,hd=>by
   have hx:=hk x (PU ..);have nat:∀{a:Int},a∈l->∃n:Nat,n<P.length/\a=(n:Int):=fun{a} ha=>by
    obtain⟨n,hn⟩:=Bb (hr a ha).1;have:=(hr a ha).2;exact⟨n,Ts,hn⟩
   have step:qn P h x∈l/\∀a∈done++[x],a=qn P h x\/a∈bP P (qn P h x):=by
    unfold qn;by_cases e:hiB P h x=true
    ·rw[AT e];have e':h∈bP P x:=by simpa[hiB]using e
     refine⟨hx,fun a ha=>?_⟩;rcases Pq.1 ha with had|ha
     ·right
      rcases hd a had with rfl|h3
      ·exact e'
      ·obtain⟨n,_,rfl⟩:=nat hh;obtain⟨m,hm,rfl⟩:=nat hx;obtain⟨p,_,rfl⟩:=nat (hdn a had);exact rS hP hm h3 e'
     ·left;exact OF.1 ha
    ·rw[dw e];have e':h∉bP P x:=by simpa[hiB]using e
     refine⟨hh,fun a ha=>?_⟩;rcases Pq.1 ha with ha|ha
     ·exact hd a ha
     ·rw[OF.1 ha];rcases ze hl hx hh with h1|h1|h1
      ·exact .inl h1
      ·exact .inr h1
      ·exact absurd h1 e'
   have:=tZ hP hr hl k (done++[x]) (qn P h x) (fun a ha=>hk a (PH _ ha)) (fun a ha=>by
    rcases Pq.1 ha with h|h
    ·exact hdn a h
    ·rw[OF.1 h];exact hx) step.1 step.2
   rw[QQ];refine⟨this.1,fun a ha=>this.2 a ?_⟩;rcases ha with ha|ha
   ·exact .inl (Rn _ ha)
   ·rcases AS.1 ha with rfl|ha
    ·exact .inl Tw
    ·exact .inr ha
theorem qO{P l:List Int}(hP:UpOk P)(hne:l≠[])(hr:∀a∈l,0<=a/\a<P.length)(hl:cH P l=true):iy P l∈l/\∀a∈l,a=iy P l\/a∈bP P (iy P l):=by
 cases l with
 |nil=>exact absurd O hne
 | cons x l=>
   have:=tZ hP hr hl (x::l) [] x (fun a h=>h) Tw (PU ..) Tw;unfold iy;exact⟨this.1,fun a ha=>this.2 a (.inr ha)⟩
theorem OrdOk.jo{S:Sch}{P:List Int}(h:OrdOk S P):UpOk P:=⟨h.rng,h.up⟩
theorem HF{S:Sch}{P:List Int}(h:OrdOk S P){r:ByteArray×List Int}(hr:r∈S.rels):iy P r.2∈r.2/\∀a∈r.2,a=iy P r.2\/a∈fh S P (iy P r.2):=by
 have hrng:∀a∈r.2,0<=a/\a<P.length:=by rw[h.len];exact h.val.rng r hr
 obtain⟨h1,h2⟩:=qO h.jo (h.val.ne r hr) hrng (h.rt r hr);refine⟨h1,fun a ha=>?_⟩;rcases h2 a ha with h3|h3
 ·exact .inl h3
 ·right
  rw[Bz];refine⟨h3,iy P r.2,?_,Bc hr ha h1⟩;rw[gX];obtain⟨n,hn⟩:=Bb (hrng _ h1).1;exact⟨⟨n,by have:=(hrng _ h1).2;omega,hn⟩,.inl O⟩
end
section
inductive Path (adj:Nat->Nat->Prop) (ok:Nat->Prop) (a:Nat):Nat->Prop
 |refl:Path adj ok a a
 |step {b c:Nat}:Path adj ok a b->adj b c->ok c->Path adj ok a c
section
variable {adj:Nat->Nat->Prop}{ok ok':Nat->Prop}
theorem Path.trans{a b c:Nat}(h1:Path adj ok a b)(h2:Path adj ok b c):Path adj ok a c:=by
 induction h2 with
 |refl=>exact h1
 |step _ h3 h4 ih=>exact .step ih h3 h4
theorem Path.one{a b:Nat}(h:adj a b)(hb:ok b):Path adj ok a b:= .step .refl h hb
theorem Path.mono{a b:Nat}(h:Path adj ok a b)(hm:∀c,ok c->ok' c):Path adj ok' a b:=by
 induction h with
 |refl=>exact .refl
 |step _ h3 h4 ih=>exact .step ih h3 (hm _ h4)
theorem Path.fin{a b:Nat}(h:Path adj ok a b)(ha:ok a):ok b:=by
 cases h with
 |refl=>exact ha
 |step _ _ h=>exact h
theorem Path.symm(hs:∀a b,adj a b->adj b a){a b:Nat}(h:Path adj ok a b)(ha:ok a):Path adj ok b a:=by
 induction h with
 |refl=>exact .refl
 |step h1 h3 h4 ih=>exact(Path.one (hs _ _ h3) (h1.fin ha)).trans ih
theorem Path.stay{inn:Nat->Prop}{a b:Nat}(h:Path adj ok a b)(ha:inn a)(hc:∀x y,inn x->adj x y->ok y->inn y):Path adj (fun c=>ok c/\inn c) a b/\inn b:=by
 induction h with
 |refl=>exact⟨.refl,ha⟩
 |step _ h3 h4 ih=>exact⟨.step ih.1 h3 ⟨h4,hc _ _ ih.2 h3 h4⟩,hc _ _ ih.2 h3 h4⟩
end
def Anc(adj:Nat->Nat->Prop)(pos:Nat->Nat)(a b:Nat):Prop:=pos a<pos b/\Path adj (fun c=>pos a<=pos c) a b
section
variable {adj:Nat->Nat->Prop}{pos:Nat->Nat}(hs:∀a b,adj a b->adj b a)
theorem Anc.trans{a b c:Nat}(h1:Anc adj pos a b)(h2:Anc adj pos b c):Anc adj pos a c:=by
 have h3:=h1.1;exact⟨Tm h1.1 h2.1,h1.2.trans (h2.2.mono fun d hd=>by omega)⟩
include hs in
theorem Anc.lin{a b c:Nat}(h1:Anc adj pos a c)(h2:Anc adj pos b c)(h:pos a<pos b):Anc adj pos a b:=
 ⟨h,h1.2.trans ((h2.2.symm hs (BY _)).mono fun d hd=>by omega)⟩
end
structure IsOrd(n:Nat)(adj:Nat->Nat->Prop)(pos:Nat->Nat)(P:List Int):Prop where
 len:P.length=n
 par:∀b,b<n->(P.getD b 0= -1/\∀a,a<n->¬Anc adj pos a b)\/(∃a:Nat,a<n/\P.getD b 0=(a:Int)/\Anc adj pos a b/\∀a',a'<n->Anc adj pos a' b->a'=a\/Anc adj pos a' a)
section
variable {n:Nat}{adj:Nat->Nat->Prop}{pos:Nat->Nat}{P:List Int}
theorem IsOrd.upF(h:IsOrd n adj pos P):∀(m b k:Nat),b<n->pos b<=m->pos b<=k->(upF P k (P.getD b 0)).isSome=true:=by
 intro m;induction m with
 | zero=>
   intro b k hb hm hk;rcases h.par b hb with⟨h1,_⟩|⟨a,ha,h1,h2,_⟩
   ·rw[h1,fA Tu];rfl
   ·have:=h2.1;omega
 | succ m ih=>
   intro b k hb hm hk;rcases h.par b hb with⟨h1,_⟩|⟨a,ha,h1,h2,_⟩
   ·rw[h1,fA Tu];rfl
   ·have:=h2.1;obtain⟨k',rfl⟩:∃k',k=k'+1:=⟨k-1,Ts⟩;rw[h1,sn (by rw[h.len];exact ha),Option.isSome_map];have:=ih a k' ha Ts Ts;rwa [getD_eq (by rw[h.len];exact ha)]at this
theorem IsOrd.jo(h:IsOrd n adj pos P)(hp:∀b,b<n->pos b<n):UpOk P:=by
 refine⟨fun p hp=>?_,fun v hv=>?_⟩
 ·obtain⟨b,hb,e⟩:=Q0 hp;rw[<-getD_eq hb 0]at e;have hb':b<n:=by rw[<-h.len];exact hb
  have:=h.len;rcases h.par b hb' with⟨h1,_⟩|⟨a,ha,h1,_,_⟩<;>omega
 ·have hv':v<n:=by rw[<-h.len];exact hv
  have:=h.upF (pos v) v P.length hv' (BY _) (by rw[h.len];exact Tq (hp v hv'));rwa [tU hv,<-getD_eq hv 0]
theorem IsOrd.mem(h:IsOrd n adj pos P)(hp:∀b,b<n->pos b<n):∀b,b<P.length->∀a:Nat,(a:Int)∈bP P b↔a<n/\Anc adj pos a b:=by
 have hl:=h.len;refine pZ (h.jo hp) (fun v hv hr e a=>?_) (fun v hv p hpl hr e ih a=>?_)
 ·rw[e];rcases h.par v Ts with⟨_,h2⟩|⟨c,hc,h1,_,_⟩
  ·exact⟨fun hh=>absurd hh P7,fun hh=>absurd hh.2 (h2 a hh.1)⟩
  ·rw[getD_eq hv,hr]at h1;omega
 ·rw[e,AS,ih a];rcases h.par v Ts with⟨h1,_⟩|⟨c,hc,h1,h2,h3⟩
  ·rw[getD_eq hv,hr]at h1;omega
  ·rw[getD_eq hv,hr]at h1;have:c=p:=Ts;subst this;constructor
   ·rintro(h4|h4)
    ·have:a=c:=Ts;subst this;exact⟨hc,h2⟩
    ·exact⟨h4.1,h4.2.trans h2⟩
   ·rintro⟨h4,h5⟩;rcases h3 a h4 h5 with rfl|h6
    ·exact .inl O
    ·exact .inr ⟨h4,h6⟩
theorem IsOrd.unique{P':List Int}(h:IsOrd n adj pos P)(h':IsOrd n adj pos P'):P=P':=by
 apply Qu
 ·rw[h.len,h'.len]
 ·intro b h1 h2;have hb:b<n:=by rw[<-h.len];exact h1
  rw[<-getD_eq h1 0,<-getD_eq h2 0];rcases h.par b hb with⟨e1,f1⟩|⟨a,ha,e1,g1,k1⟩
  ·rcases h'.par b hb with⟨e2,_⟩|⟨a',ha',e2,g2,_⟩
   ·rw[e1,e2]
   ·exact absurd g2 (f1 a' ha')
  ·rcases h'.par b hb with⟨e2,f2⟩|⟨a',ha',e2,g2,k2⟩
   ·exact absurd g1 (f2 a ha)
   ·rw[e1,e2];rcases k1 a' ha' g2 with e3|e3
    ·rw[e3]
    ·rcases k2 a ha g1 with e4|e4
     ·rw[e4]
     ·exact absurd (Tm e3.1 e4.1) (Nat.lt_irrefl _)
end
def su(S:Sch)(a b:Nat):Prop:=a≠b/\fa S a b=true
theorem nE{S:Sch}{a b:Int}(h:fa S a b=true):fa S b a=true:=by
 unfold fa at h ⊢;obtain⟨r,hr,h2⟩:=Qy.1 h;rw[Qy];exact⟨r,hr,by rw[Bool.and_comm];exact h2⟩
theorem og(S:Sch):∀a b,su S a b->su S b a:=fun _ _ h=>⟨fun e=>h.1 e.symm,nE h.2⟩
def fH(q:List Int)(a:Nat):Nat:=q.idxOf (a:Int)
theorem BG{n:Nat}{q:List Int}(hq:q.Perm (upZ n)){a:Nat}(ha:a<n):fH q a<n:=by
 have:q.idxOf (a:Int)<q.length:=List.idxOf_lt_length_of_mem (hq.mem_iff.2 (bI.2 ⟨a,ha,O⟩));rwa [hq.length_eq,aW]at this
theorem kq{n:Nat}{q:List Int}(hq:q.Perm (upZ n)){a b:Nat}(ha:a<n)(h:fH q a=fH q b):a=b:=by
 have h1:q.idxOf (a:Int)<q.length:=List.idxOf_lt_length_of_mem (hq.mem_iff.2 (bI.2 ⟨a,ha,O⟩));have h2:q.idxOf (b:Int)<q.length:=by unfold fH at h;rw[<-h];exact h1
 have e1:q[q.idxOf (a:Int)]=(a:Int):=List.getElem_idxOf h1;have e2:q[q.idxOf (b:Int)]=(b:Int):=List.getElem_idxOf h2;have e3:q[q.idxOf (a:Int)]=q[q.idxOf (b:Int)]:=by unfold fH at h;congr 1
 rw[e1,e2]at e3;omega
theorem IsOrd.ok{S:Sch}(hV:Valid S){q:List Int}(hq:q.Perm (upZ S.attrs.length)){P:List Int}(h:IsOrd S.attrs.length (su S) (fH q) P):OrdOk S P:=by
 have hp:∀b,b<S.attrs.length->fH q b<S.attrs.length:=fun b hb=>BG hq hb
 have hu:=h.jo hp;refine⟨hV,h.len,hu.rng,hu.up,fun r hr=>?_⟩;unfold cH;rw[IN];intro a ha;rw[IN];intro b hb;obtain⟨x,hx⟩:=Bb (hV.rng r hr a ha).1;obtain⟨y,hy⟩:=Bb (hV.rng r hr b hb).1;have hxl:x<S.attrs.length:=by have:=(hV.rng r hr a ha).2;omega
 have hyl:y<S.attrs.length:=by have:=(hV.rng r hr b hb).2;omega
 by_cases e:a=b
 ·simp[e]
 ·have hxy:x≠y:=Ts;have hadj:su S x y:=⟨hxy,by rw[<-hx,<-hy];exact Bc hr ha hb⟩;have hl:=h.len;rcases Nat.lt_or_gt_of_ne (fun e=>hxy (kq hq hxl e))with h1|h1
  ·have:(x:Int)∈bP P y:=(h.mem hp y Ts x).2 ⟨hxl,h1,.one hadj (Tq h1)⟩;rw[hx,hy];simp[hiB,this]
  ·have:(y:Int)∈bP P x:=(h.mem hp x Ts y).2 ⟨hyl,h1,.one (og S _ _ hadj) (Tq h1)⟩;rw[hx,hy];simp[hiB,this]
end
section
def lP(G:List B64)(a b:Nat):Prop:=(G.getD a 0#64).getLsbD b=true
theorem Ad{G:List B64}{rest:B64}{a b:Nat}:Reach G rest a b↔Path (lP G) (fun c=>rest.getLsbD c=true) a b:=by
 constructor
 ·intro h;induction h with
  |refl=>exact .refl
  |step _ h1 h2 ih=>exact .step ih h1 h2
 ·intro h;induction h with
  |refl=>exact .refl
  |step _ h1 h2 ih=>exact .step ih h1 h2
structure Comp(adj:Nat->Nat->Prop)(rest c:B64):Prop where
 sub:∀i,c.getLsbD i=true->rest.getLsbD i=true
 clo:∀i j,c.getLsbD i=true->adj i j->rest.getLsbD j=true->c.getLsbD j=true
 con:∀i j,c.getLsbD i=true->c.getLsbD j=true->Path adj (fun x=>c.getLsbD x=true) i j
 ne:∃i,c.getLsbD i=true
structure CompsI(adj:Nat->Nat->Prop)(rest:B64)(k:Nat)(cs:List B64)(R:B64):Prop where
 all:∀c∈cs,Comp adj rest c
 cov:∀i,rest.getLsbD i=true↔R.getLsbD i=true\/∃c∈cs,c.getLsbD i=true
 dis:∀i,R.getLsbD i=true->∀c∈cs,¬c.getLsbD i=true
 pw:cs.Pairwise (fun c d=>∀i,c.getLsbD i=true->¬d.getLsbD i=true)
 low:∀i,i<k->¬R.getLsbD i=true
theorem n4(x y:B64)(i:Nat):(x&&& ~~~y).getLsbD i=true↔x.getLsbD i=true/\¬y.getLsbD i=true:=by
 rw[Sz,BitVec.getLsbD_not];constructor
 ·intro h;simp at h;exact⟨h.1,by rw[h.2.2];decide⟩
 ·rintro⟨h1,h2⟩;have:=ir h1;have h3:y.getLsbD i=false:=by simpa using h2
  rw[h1,h3,Pn this];rfl
theorem uv(G:List B64)(rest:B64)(hs:∀a b,lP G a b->lP G b a):∀k,CompsI (lP G) rest k (compsN G rest k).1 (compsN G rest k).2
 |0=>⟨by simp[compsN],by simp[compsN],by simp[compsN],by simp[compsN],by intro i h;omega⟩
 | k+1=>by
   have h:=uv G rest hs k;simp only[compsN];generalize compsN G rest k=cr at*;obtain⟨cs,R⟩:=cr;simp only at h ⊢;by_cases hk:R.getLsbD k=true
   ·rw[AT hk];have hcR:∀i,(compB G R k).getLsbD i=true->R.getLsbD i=true:=fun i hi=>tR hk hi
    have hkc:(compB G R k).getLsbD k=true:=(mX (ir hk)).2 .refl;have hclR:∀i j,(compB G R k).getLsbD i=true->lP G i j->R.getLsbD j=true->(compB G R k).getLsbD j=true:=fun i j h1 h2 h3=>
     (mX (ir h3)).2 (.step (jE h1) h2 h3)
    have hC:Comp (lP G) rest (compB G R k):=by
     refine⟨fun i hi=>(h.cov i).2 (.inl (hcR i hi)),fun i j h1 h2 h3=>?_,?_,⟨k,hkc⟩⟩
     ·rcases(h.cov j).1 h3 with h4|⟨d,hd,h4⟩
      ·exact hclR i j h1 h2 h4
      ·exact absurd ((h.all d hd).clo j i h4 (hs i j h2) ((h.cov i).2 (.inl (hcR i h1)))) (h.dis i (hcR i h1) d hd)
     ·have one:∀i,(compB G R k).getLsbD i=true->Path (lP G) (fun x=>(compB G R k).getLsbD x=true) k i:=fun i hi=>
       ((Ad.1 (jE hi)).stay (inn:=fun x=>(compB G R k).getLsbD x=true) hkc hclR).1.mono fun c hc=>hc.2
      exact fun i j hi hj=>((one i hi).symm hs hkc).trans (one j hj)
    refine⟨fun c hc=>?_,fun i=>?_,fun i hi c hc=>?_,?_,fun i hi hR=>?_⟩
    ·rcases Pq.1 hc with hc|hc
     ·exact h.all c hc
     ·rw[OF.1 hc];exact hC
    ·rw[h.cov i,n4];constructor
     ·rintro(h1|⟨c,hc,h1⟩)
      ·by_cases h2:(compB G R k).getLsbD i=true
       ·exact .inr ⟨_,Rh _ (OF.2 O),h2⟩
       ·exact .inl ⟨h1,h2⟩
      ·exact .inr ⟨c,Rn _ hc,h1⟩
     ·rintro(h1|⟨c,hc,h1⟩)
      ·exact .inl h1.1
      ·rcases Pq.1 hc with hc|hc
       ·exact .inr ⟨c,hc,h1⟩
       ·rw[OF.1 hc]at h1;exact .inl (hcR i h1)
    ·rw[n4]at hi;rcases Pq.1 hc with hc|hc
     ·exact h.dis i hi.1 c hc
     ·rw[OF.1 hc];exact hi.2
    ·rw[List.pairwise_append];refine⟨h.pw,Tw,fun c hc d hd i h1 h2=>?_⟩;rw[OF.1 hd]at h2;exact h.dis i (hcR i h2) c hc h1
    ·rw[n4]at hR;by_cases e:i=k
     ·subst e;exact hR.2 hkc
     ·exact h.low i Ts hR.1
   ·rw[dw hk];refine⟨h.all,h.cov,h.dis,h.pw,fun i hi=>?_⟩;by_cases e:i=k
    ·subst e;exact hk
    ·exact h.low i Ts
def AU(adj:Nat->Nat->Prop)(pos:Nat->Nat)(rest:B64)(a b:Nat):Prop:=
 rest.getLsbD a=true/\rest.getLsbD b=true/\pos a<pos b/\Path adj (fun c=>rest.getLsbD c=true/\pos a<=pos c) a b
def GB(adj:Nat->Nat->Prop)(pos:Nat->Nat)(rest:B64)(par:Int)(b:Nat)(x:Int):Prop:=
 (x=par/\∀a,¬AU adj pos rest a b)\/∃a:Nat,x=(a:Int)/\AU adj pos rest a b/\∀a',AU adj pos rest a' b->a'=a\/AU adj pos rest a' a
theorem Hz{n:Nat}{q:List Int}(hq:q.Perm (upZ n)){c:B64}(hc:∀i,c.getLsbD i=true->i<n)(hne:∃i,c.getLsbD i=true):
  ∃a:Nat,a<n/\q.find? (fun x=>c.getLsbD x.toNat)=some (a:Int)/\c.getLsbD a=true/\∀i,c.getLsbD i=true->fH q a<=fH q i:=by
 cases hf:q.find? (fun x=>c.getLsbD x.toNat)with
 | none=>
   obtain⟨i,hi⟩:=hne;have:=List.find?_eq_none.1 hf (i:Int) (hq.mem_iff.2 (bI.2 ⟨i,hc i hi,O⟩));simp at this;rw[hi]at this;cases this
 | some x=>
   obtain⟨h1,us,vs,h2,h3⟩:=List.find?_eq_some_iff_append.1 hf;have hxm:x∈q:=by rw[h2];simp
   obtain⟨a,ha,rfl⟩:=bI.1 (hq.mem_iff.1 hxm);have h1':c.getLsbD a=true:=by simpa using h1
   refine⟨a,ha,O,h1',fun i hi=>?_⟩;have no:∀j:Nat,c.getLsbD j=true->(j:Int)∉us:=fun j hj hm=>by
    have:=h3 _ hm;simp at this;rw[hj]at this;cases this
   unfold fH;rw[h2,List.idxOf_append,List.idxOf_append,dw (no a h1'),dw (no i hi)];simp
section
variable {n:Nat}{G:List B64}{q:List Int}(hG:G.length=n)(hs:∀a b,lP G a b->lP G b a)(hq:q.Perm (upZ n))
theorem AU.sub{adj:Nat->Nat->Prop}{pos:Nat->Nat}{r r':B64}(h:∀i,r.getLsbD i=true->r'.getLsbD i=true){a b:Nat}(k:AU adj pos r a b):AU adj pos r' a b:=
 ⟨h _ k.1,h _ k.2.1,k.2.2.1,k.2.2.2.mono fun c hc=>⟨h _ hc.1,hc.2⟩⟩
include hs hq in
theorem wD{f:Nat}(IH:∀rest par P,jL rest<=f->(∀i,rest.getLsbD i=true->i<n)->P.length=n->∀b,b<n->(rest.getLsbD b=false->(placeF G q f rest par P).getD b 0=P.getD b 0)/\(rest.getLsbD b=true->GB (lP G) (fH q) rest par b ((placeF G q f rest par P).getD b 0)))
  {rest c:B64} (hc:Comp (lP G) rest c) (hpop:∀a,c.getLsbD a=true->jL (c&&& ~~~(BitVec.twoPow 64 a))<=f) (hr:∀i,rest.getLsbD i=true->i<n) (par:Int) (P:List Int) (hP:P.length=n) (b:Nat) (hb:b<n):
  (c.getLsbD b=false->(ik q (placeF G q f) par P c).getD b 0=P.getD b 0)/\(c.getLsbD b=true->GB (lP G) (fH q) rest par b ((ik q (placeF G q f) par P c).getD b 0)):=by
 obtain⟨a,ha,hfind,hca,hmin⟩:=Hz hq (fun i hi=>hr i (hc.sub i hi)) hc.ne;have e:ik q (placeF G q f) par P c=placeF G q f (c&&& ~~~(BitVec.twoPow 64 a)) a (P.set a par):=by unfold ik;rw[hfind];rfl
 rw[e];have hbit:∀i,(c&&& ~~~(BitVec.twoPow 64 a)).getLsbD i=true↔c.getLsbD i=true/\a≠i:=fun i=>by rw[mA,sh,P9]
 have hih:=IH (c&&& ~~~(BitVec.twoPow 64 a)) a (P.set a par) (hpop a hca) (fun i hi=>hr i (hc.sub i ((hbit i).1 hi).1)) (by simp[hP]) b hb;have stay:∀a' b',AU (lP G) (fH q) rest a' b'->c.getLsbD b'=true->c.getLsbD a'=true:=by
  intro a' b' h1 h2;have hpath:=(h1.2.2.2.symm hs ⟨h1.1,BY _⟩);exact(hpath.stay (inn:=fun x=>c.getLsbD x=true) h2 (fun x y hx hxy hy=>hc.clo x y hx hxy hy.1)).2
 have inside:∀a' b',AU (lP G) (fH q) rest a' b'->c.getLsbD b'=true->a'≠a->AU (lP G) (fH q) (c&&& ~~~(BitVec.twoPow 64 a)) a' b':=by
  intro a' b' h1 h2 h3;have hca':=stay a' b' h1 h2;have hpa:fH q a<fH q a':=Nat.lt_of_le_of_ne (hmin a' hca') (fun e=>h3 (kq hq ha e).symm);have hpb:=h1.2.2.1;refine⟨(hbit a').2 ⟨hca',fun e=>h3 e.symm⟩,(hbit b').2 ⟨h2,fun e=>by subst e;omega⟩,h1.2.2.1,?_⟩;refine((h1.2.2.2.stay (inn:=fun x=>c.getLsbD x=true) hca' (fun x y hx hxy hy=>hc.clo x y hx hxy hy.1)).1.mono fun x hx=>?_);exact⟨(hbit x).2 ⟨hx.2,fun e=>by have:=hx.1.2;subst e;omega⟩,hx.1.2⟩
 have root:∀b',c.getLsbD b'=true->a≠b'->AU (lP G) (fH q) rest a b':=fun b' h1 h2=>
  ⟨hc.sub a hca,hc.sub b' h1,Nat.lt_of_le_of_ne (hmin b' h1) (fun e=>h2 (kq hq ha e)),(hc.con a b' hca h1).mono fun x hx=>⟨hc.sub x hx,hmin x hx⟩⟩
 have hsub:∀i,(c&&& ~~~(BitVec.twoPow 64 a)).getLsbD i=true->rest.getLsbD i=true:=fun i hi=>hc.sub i ((hbit i).1 hi).1
 constructor
 ·intro hcb;have hab:a≠b:=fun e=>by subst e;rw[hca]at hcb;cases hcb
  have h1:(c&&& ~~~(BitVec.twoPow 64 a)).getLsbD b=false:=by
   cases h2:(c&&& ~~~(BitVec.twoPow 64 a)).getLsbD b with
   |false=>rfl
   |true=>rw[((hbit b).1 h2).1]at hcb;cases hcb
  rw[hih.1 h1,List.getD,List.getD,Q7 hab]
 ·intro hcb;by_cases hab:a=b
  ·subst hab;have h1:(c&&& ~~~(BitVec.twoPow 64 a)).getLsbD a=false:=by rw[mA];simp
   left
   refine⟨by rw[hih.1 h1,List.getD];simp[hP,ha],fun a' h2=>?_⟩;have h3:=stay a' a h2 hca;have:=hmin a' h3;have:=h2.2.2.1;omega
  ·have h1:(c&&& ~~~(BitVec.twoPow 64 a)).getLsbD b=true:=(hbit b).2 ⟨hcb,hab⟩;right
   rcases hih.2 h1 with⟨h2,h3⟩|⟨d,h2,h3,h4⟩
   ·refine⟨a,h2,root b hcb hab,fun a' h5=>?_⟩;by_cases e2:a'=a
    ·exact .inl e2
    ·exact absurd (inside a' b h5 hcb e2) (h3 a')
   ·refine⟨d,h2,h3.sub hsub,fun a' h5=>?_⟩;have hd:=(hbit d).1 h3.1;by_cases e2:a'=a
    ·right;rw[e2];exact root d hd.1 hd.2
    ·rcases h4 a' (inside a' b h5 hcb e2)with h6|h6
     ·exact .inl h6
     ·exact .inr (h6.sub hsub)
include hG hs hq in
theorem zS:∀(f:Nat)(rest:B64)(par:Int)(P:List Int),jL rest<=f->(∀i,rest.getLsbD i=true->i<n)->P.length=n->∀b,b<n->(rest.getLsbD b=false->(placeF G q f rest par P).getD b 0=P.getD b 0)/\(rest.getLsbD b=true->GB (lP G) (fH q) rest par b ((placeF G q f rest par P).getD b 0)):=by
 intro f;induction f with
 | zero=>
   intro rest par P hf hr hP b hb;refine⟨fun _=>rfl,fun h=>?_⟩;rw[Hg (Nat.le_zero.1 hf) b]at h;cases h
 | succ f IH=>
   intro rest par P hf hr hP b hb;have hI:=uv G rest hs G.length;have hpop:∀c∈(compsN G rest G.length).1,∀a,c.getLsbD a=true->jL (c&&& ~~~(BitVec.twoPow 64 a))<=f:=fun c hc a ha=>by have:=Gw hc ha;omega
   have fold:∀(cs:List B64)(P:List Int),(∀c∈cs,Comp (lP G) rest c)->(∀c∈cs,∀a,c.getLsbD a=true->jL (c&&& ~~~(BitVec.twoPow 64 a))<=f)->cs.Pairwise (fun c d=>∀i,c.getLsbD i=true->¬d.getLsbD i=true)->P.length=n->
     ((∀c∈cs,¬c.getLsbD b=true)->(cs.foldl (ik q (placeF G q f) par) P).getD b 0=P.getD b 0)/\(∀c∈cs,c.getLsbD b=true->GB (lP G) (fH q) rest par b ((cs.foldl (ik q (placeF G q f) par) P).getD b 0)):=by
    intro cs;induction cs with
    |nil=>intro P _ _ _ _;exact⟨fun _=>rfl,fun c hc=>by cases hc⟩
    | cons c cs ih=>
      intro P h1 h2 h3 h4;have hl:(ik q (placeF G q f) par P c).length=n:=by
       unfold ik;split
       ·rw[nx];simp[h4]
       ·exact h4
      have hg:=wD hs hq IH (h1 c (PU ..)) (h2 c (PU ..)) hr par P h4 b hb;have hi:=ih (ik q (placeF G q f) par P c) (fun d hd=>h1 d (PH _ hd)) (fun d hd=>h2 d (PH _ hd)) (PW.1 h3).2 hl;rw[QQ];constructor
      ·intro h5;rw[hi.1 (fun d hd=>h5 d (PH _ hd))];exact hg.1 (by simpa using h5 c (PU ..))
      ·intro d hd h5;rcases AS.1 hd with rfl|hd
       ·rw[hi.1 (fun e he=>(PW.1 h3).1 e he b h5)];exact hg.2 h5
       ·exact hi.2 d hd h5
   have hfold:=fold (compsN G rest G.length).1 P hI.all hpop hI.pw hP;simp only[placeF];constructor
   ·intro h1;refine hfold.1 fun c hc h2=>?_
    rw[(hI.all c hc).sub b h2]at h1;cases h1
   ·intro h1;rcases(hI.cov b).1 h1 with h2|⟨c,hc,h2⟩
    ·exact absurd h2 (hI.low b Ts)
    ·exact hfold.2 c hc h2
include hG hs hq in
theorem KZ(hn:n<64)(hadj:∀a b,lP G a b->b<n):IsOrd n (lP G) (fH q) (ofL G q):=by
 have hall:∀i,(FJ G.length).getLsbD i=true↔i<n:=fun i=>by rw[H8 Ts,P9,hG]
 have anc:∀a b,a<n->b<n->(AU (lP G) (fH q) (FJ G.length) a b↔Anc (lP G) (fH q) a b):=by
  intro a b ha hb;constructor
  ·intro h;exact⟨h.2.2.1,h.2.2.2.mono fun c hc=>hc.2⟩
  ·intro h;refine⟨(hall a).2 ha,(hall b).2 hb,h.1,?_⟩;exact(h.2.stay (inn:=fun x=>(FJ G.length).getLsbD x=true) ((hall a).2 ha) (fun x y _ hxy _=>(hall y).2 (hadj x y hxy))).1.mono fun c hc=>⟨hc.2,hc.1⟩
 refine⟨by rw[Ms,hG],fun b hb=>?_⟩;have:=(zS hG hs hq 64 (FJ G.length) (-1) (List.replicate G.length 0) (FB _) (fun i hi=>(hall i).1 hi) (by simp[hG]) b hb).2 ((hall b).2 hb);rcases this with⟨h1,h2⟩|⟨a,h1,h2,h3⟩
 ·exact .inl ⟨h1,fun a ha h3=>h2 a ((anc a b ha hb).2 h3)⟩
 ·have ha:=(hall a).1 h2.1;refine .inr ⟨a,ha,h1,(anc a b ha hb).1 h2,fun a' ha' h4=>?_⟩;rcases h3 a' ((anc a' b ha' hb).2 h4)with h5|h5
  ·exact .inl h5
  ·exact .inr ((anc a' a ha' ha).1 h5)
end
theorem Gj{S:Sch}(hV:Valid S)(a b:Nat):lP (gr S) a b↔su S a b:=by
 unfold lP su;by_cases ha:a<S.attrs.length
 ·rw[za hV ha,sh,P9]
 ·rw[List.getD,Qg (by rw[y0];omega)];constructor
  ·intro h;simp at h
  ·rintro⟨_,h⟩;have:=(nZ hV h).1;omega
theorem Kd{S:Sch}(hV:Valid S):lP (gr S)=su S:=by
 funext a b;exact propext (Gj hV a b)
theorem xC{S:Sch}(hV:Valid S){q:List Int}(hq:q.Perm (upZ S.attrs.length)):IsOrd S.attrs.length (su S) (fH q) (ordL S q):=by
 have h1:=Kd hV;have h2:=hV.n2;have:=KZ (G:=gr S) (q:=q) (n:=S.attrs.length) (y0 S) (by rw[h1];exact og S) hq Ts (by rw[h1];intro a b h;have:=(nZ hV h.2).2;omega);rw[h1]at this;exact this
end
section
open Mk
theorem zD(S:Sch)(hS:SB S)(a b:Int):FnP prog 82 [eZ S,.int .i64 a,.int .i64 b] (· = .bool (fa S a b)):=by
 refine FnP.of func82 O ntmps82 Tw fun m0 w0 F R0=>?_
 have hb:=hS.r;refine Z2 O O O<|Z4 O O O O O ?_;refine Gl O (st:=fun TC:Nat=>mkS [(1,pIi a),(2,pIi b),(10,.pv (.sl none S.rels.length (aJ S.rels))),(11,pIi S.rels.length),(12,pIi TC)] [] 1)
  (I:=fun TC=>TC<=S.rels.length/\((S.rels.take TC).any fun r=>decide (a∈r.2)&&decide (b∈r.2))=false) (μ:=fun TC=>S.rels.length-TC) (x0:=(0)) (OU (aS O) trivial O O) (⟨cd _,O⟩) ?_
 rintro k ⟨hk,hno⟩;refine Z1 O O ?_;refine Gp O O (fun hc13=>?_) (fun hc13=>?_)
 ·have hlt:k<S.rels.length:=Ts;have hrow:=dJ hlt;have hne:=fY hlt;have hrl:=hS.rl _ (ar hlt);refine OR<|Z1 O O<|Rs 15 O O (aR ⟨_,underlying74,O⟩ JV O hrow O)<|Y2 O O<|Z3 O O O O<|Rs 19 O O (aa call60 (jn S.rels[k].2 a Ts) O)<|A1 O ?_;apply O3 5 20 25 [21,22,23,24] O TE
  ·intro hb4;exact Y3 O O O<|Rg 24 O O O (aa call60 (jn S.rels[k].2 b Ts) O)<|A1 O<|OW TD O O O
  ·intro hb4;iterate 5 refine A1 O ?_
   exact OW TD O O O
  refine Gc O O (fun hc25=>?_) (fun hc25=>?_)
  ·exact Z1 O O<|Gt O<|⟨_,_,O,O,ag PV.bool (by unfold fa;exact(pJ (p:=fun r:ByteArray×List Int=>decide (a∈r.2)&&decide (b∈r.2)) hlt hc25).symm)⟩
  ·exact OR<|Z2 O O O<|⟨(k+1),OU (aS O) trivial O O,⟨Ts,fr hlt hno hc25⟩,Ts⟩
 ·exact Gx O<|Z1 O O<|Gt O<|⟨_,_,O,O,ag PV.bool (by rw[aX Ts]at hno;exact hno.symm)⟩
structure RInv(S:Sch)(rem:List Bool)(a n:Nat)(I:List Bool):Prop where
 len:I.length=n
 has:I.getD a false=true
 snd:∀b,I.getD b false=true->Path (su S) (fun c=>rem.getD c false=false) a b
def KS(S:Sch)(rem I:List Bool)(x y:Nat):Bool:=((I.getD x false&& !I.getD y false)&& !rem.getD y false)&&fa S x y
structure PInv(S:Sch)(rem:List Bool)(a n F k:Nat)(I:List Bool)(more:Bool):Prop where
 r:RInv S rem a n I
 le:I.count false<=F
 lt:more=true->I.count false<F
 no:more=false->∀x,x<k->∀y,y<n->KS S rem I x y=false
theorem count_set{I:List Bool}{y:Nat}(hy:y<I.length)(h:I[y]=false):(I.set y true).count false<I.count false:=by
 rw[List.count_set hy,h];have:0<I.count false:=List.count_pos_iff.2 (by rw[<-h];exact ar hy);simp;omega
theorem RInv.ext{S:Sch}{rem I:List Bool}{a n x y:Nat}(h:RInv S rem a n I)(hy:y<n)(he:KS S rem I x y=true):RInv S rem a n (I.set y true)/\(I.set y true).count false<I.count false:=by
 unfold KS at he;simp only[sh,Rm]at he;have hyl:y<I.length:=by rw[h.len];exact hy
 refine⟨⟨by simp[h.len],?_,fun b hb=>?_⟩,count_set hyl (by rw[<-getD_eq hyl false];exact he.1.1.2)⟩
 ·by_cases e:a=y
  ·subst e;simp[List.getD,hyl]
  ·have:=h.has;simp only[List.getD]at this ⊢;rw[Q7 (fun e'=>e e'.symm)];exact this
 ·by_cases e:b=y
  ·subst e;refine .step (h.snd x he.1.1.1) ⟨fun e=>?_,he.2⟩ he.1.2;subst e;rw[he.1.1.1]at he;exact absurd he.1.1.2 Tu
  ·refine h.snd b ?_;simp only[List.getD]at hb ⊢;rw[Q7 (fun e'=>e e'.symm)]at hb;exact hb
theorem RInv.last{S:Sch}(hV:Valid S){rem I:List Bool}{a n:Nat}(h:RInv S rem a n I)(hn:n=S.attrs.length)(hno:∀x,x<n->∀y,y<n->KS S rem I x y=false)(b:Nat):I.getD b false=true↔Path (su S) (fun c=>rem.getD c false=false) a b:=by
 refine⟨h.snd b,fun hp=>?_⟩;induction hp with
 |refl=>exact h.has
 | @step x y _ h1 h2 ih=>
   have hl:=nZ hV h1.2;have hx:x<n:=Ts;have hy:y<n:=Ts;have:=hno x hx y hy;unfold KS at this;rw[ih,h2,h1.2]at this;simpa using this
theorem HD{I:List Bool}{k:Nat}(h:k<I.length):(bZ I)[k*1]? =some (.bool (I.getD k false)):=by simp[List.getD,h]
abbrev schV(S:Sch):V:= .pv (eZ S)
abbrev lX(l:List Bool):Ob:= .cells 4 (bZ l)
theorem Au(S:Sch)(hS:SB S)(hV:Valid S)(n:Nat)(hn:n=S.attrs.length)(rem:List Bool)(hrem:rem.length=n)(a:Nat)(ha:a<n):
  FnO prog 285 1 0 [schV S,.osl big 1 n,pIi a] [(big,lX rem)]
   (fun v ob'=>(∃I:List Bool,v= .pv (jX I)/\I.length=n/\∀b,I.getD b false=true↔Path (su S) (fun c=>rem.getD c false=false) a b)/\ob'=ax [(big,lX rem)]):=by
 refine FnO.of func285 O ntmps285 Tw fun m0 w0 F R0=>?_
 have hn12:=hV.n2;have hr1:RInv S rem a n ((List.replicate n false).set a true):=by
  refine⟨Tw,by simp[List.getD,ha],fun b hb=>?_⟩;by_cases e:b=a
  ·subst e;exact .refl
  ·simp only[List.getD]at hb;rw[Q7 (fun e'=>e e'.symm)]at hb;by_cases hbn:b<n
   ·simp[hbn]at hb
   ·rw[Qg Tx]at hb;cases hb
 refine Z2 O O O<|Z3 O O O O<|Rs 14 O O ((kG (zs:=[.bool false]) 1 n HG O O O (by rw[hn]) (by rw[hn]) Ts O))<|A1 O<|Z2 O O O<|Rs 17 O O (aq a underlying215 sz4 O O O O ha)<|RL.step (d:=none) O O (bK sz4 O O O O (by rw[ck];simp;omega))<|Z1 O O ?_;refine Gl O (st:=fun TC:List Bool×Bool=>mkS [(1,.osl big 1 n),(3,.ptr 0 0),(7,.osl 1 1 n),(8,.pv (.bool TC.2))] [(big,lX rem),(0,.mix 30 (sCc S)),(1,lX TC.1)] 2)
  (I:=fun TC=>RInv S rem a n TC.1/\(TC.2=false->∀x,x<n->∀y,y<n->KS S rem TC.1 x y=false)) (μ:=fun TC=>2*TC.1.count false+(if TC.2=true then 1 else 0)) (x0:=((List.replicate n false).set a true,true)) (OU (aS O) ⟨O,O,ag (fun c=>some (Ob.cells 4 c)) (by rw[ck,PX,PX];show(List.replicate n (PV.bool false)).set a (PV.bool true)=_;simp[Qi]),TB⟩ O O) (⟨hr1,fun h=>by cases h⟩) ?_
 rintro⟨I,more⟩ ⟨hI,hdone⟩;try simp only at hI hdone ⊢
 refine Z1 O O ?_;refine Gc O O (fun hc18=>?_) (fun hc18=>?_)
 ·subst hc18;refine OR<|Z1 O O<|Z3 O O O O ?_;refine Gl O (st:=fun x_1:Nat×List Bool×Bool=>mkS [(1,.osl big 1 n),(3,.ptr 0 0),(7,.osl 1 1 n),(8,.pv (.bool x_1.2.2)),(20,pIi n),(21,pIi x_1.1)] [(big,lX rem),(0,.mix 30 (sCc S)),(1,lX x_1.2.1)] 2)
   (I:=fun x_1=>x_1.1<=n/\PInv S rem a n (I.count false) x_1.1 x_1.2.1 x_1.2.2) (μ:=fun x_1=>n-x_1.1) (x0:=(0,I,false)) (OU (aS O) (aO O) O O) (⟨cd _,hI,BY _,(fun h=>by cases h),fun _ x hx=>absurd hx (RJ _)⟩) ?_
  rintro⟨k,J,mo⟩ ⟨hk,hJ⟩;try simp only at hk hJ ⊢
  refine Z1 O O ?_;refine Gp O O (fun hc22=>?_) (fun hc22=>?_)
  ·have hkn:k<n:=Ts;refine OR<|Z2 O O O<|Z3 O O O O ?_;refine Gl O (st:=fun x_2:Nat×List Bool×Bool=>mkS [(1,.osl big 1 n),(3,.ptr 0 0),(7,.osl 1 1 n),(8,.pv (.bool x_2.2.2)),(9,pIi k),(20,pIi n),(21,pIi k),(25,pIi n),(26,pIi x_2.1)] [(big,lX rem),(0,.mix 30 (sCc S)),(1,lX x_2.2.1)] 2)
    (I:=fun x_2=>x_2.1<=n/\PInv S rem a n (I.count false) k x_2.2.1 x_2.2.2/\(x_2.2.2=false->∀y,y<x_2.1->KS S rem x_2.2.1 k y=false)) (μ:=fun x_2=>n-x_2.1) (x0:=(0,J,mo)) (OU (aS O) (aO O) O O) (⟨cd _,hJ,fun _ y hy=>absurd hy (RJ _)⟩) ?_
   rintro⟨j,K,mp⟩ ⟨hj,hK,hrow⟩;try simp only at hj hK hrow ⊢
   refine Z1 O O ?_;refine Gp O O (fun hc27=>?_) (fun hc27=>?_)
   ·have hjn:j<n:=Ts;have hKl:=hK.r.len;have hvk:=HD (I:=K) (k:=k) Ts;have hvj:=HD (I:=K) (k:=j) Ts;have hvr:=HD (I:=rem) (k:=j) Ts;refine OR<|Z2 O O O<|Z2 O O O<|Rs 31 O O (aq k underlying215 sz4 O O O O hkn)<|Rs 32 O O (b8 ⟨_,underlying4,O⟩ O O hvk)<|A1 O ?_;apply O3 6 33 39 [34,35,36,37,38] O TE
    ·intro hb4;exact Y2 O O<|Rg 36 O O O (aq j underlying215 sz4 O O O O hjn)<|Rg 37 O O O (b8 ⟨_,underlying4,O⟩ O O hvj)<|Y2 O O<|OW TD O O O
    ·intro hb4;iterate 6 refine A1 O ?_
     exact OW TD O O O
    refine A1 O ?_;apply O3 6 40 46 [41,42,43,44,45] O TE
    ·intro hb11;exact Y2 O O<|Rg 43 O O O (aq j underlying215 sz4 O O O O hjn)<|Rg 44 O O O (b8 ⟨_,underlying4,O⟩ O O hvr)<|Y2 O O<|OW TD O O O
    ·intro hb11;iterate 6 refine A1 O ?_
     exact OW TD O O O
    refine A1 O ?_;apply O3 5 47 52 [48,49,50,51] O TE
    ·intro hb18;exact Y3 O O O<|Rg 51 O O O (aa call82 (zD S hS k j) O)<|A1 O<|OW TD O O O
    ·intro hb18;iterate 5 refine A1 O ?_
     exact OW TD O O O
    refine Gc O O (fun hc52=>?_) (fun hc52=>?_)
    ·have hext:=hK.r.ext hjn (x:=k) hc52;have hle:=hK.le;exact Z2 O O O<|Rs 55 O O (aq j underlying215 sz4 O O O O hjn)<|RL.step (d:=none) O O (bK sz4 O O O O Tx)<|A1 O<|Z2 O O O<|⟨(j+1,K.set j true,true),OU (aS O) ⟨O,O,ag (fun c=>some (Ob.cells 4 c)) (by simp[Qi];rfl),TB⟩ O O,⟨Tz,⟨hext.1,IS (Tq hext.2) hle,fun _=>Ps hext.2 hle,(fun h=>by cases h)⟩,(fun h=>by cases h)⟩,Tz⟩
    ·exact OR<|Z2 O O O<|⟨(j+1,K,mp),OU (aS O) (aO O) O O,⟨Tz,hK,fun h y hy=>by rcases RC.1 hy with h1|rfl;exact hrow h y h1;exact hc52⟩,Tz⟩
   ·have hjn:j=n:=Ts;exact Gx O<|Z2 O O O<|⟨(k+1,K,mp),OU (aS O) (aO O) O O,⟨Tz,hK.r,hK.le,hK.lt,fun h x hx y hy=>by rcases RC.1 hx with h1|rfl;exact hK.no h x h1 y hy;exact hrow h y Ts⟩,Tz⟩
  ·have hkn:k=n:=Ts;exact Gx O<|⟨(J,mo),OU (aS O) (aO O) O O,⟨hJ.r,fun h x hx y hy=>hJ.no h x Ts y hy⟩,by have h1:=hJ.le;have h2:=hJ.lt;simp only;cases mo with|false=>simp;omega|true=>have:=h2 O;simp;omega⟩
 ·subst hc18;have hfin:=hI.last hV hn (hdone O);exact Gx O<|OT (OX 1 O O)<|Z2 O O O<|OT (St.lK [6])<|Gt O<|⟨[(6,.pv (jX I))],[(big,lX rem)],[.pv (jX I)],OU ⟨by show V.pv (.sl none n (bZ I))=_;rw[jX,hI.len],TB⟩ (aO O) O O,O,O,O,⟨I,O,hI.len,hfin⟩,O⟩
end
section
open Mk
def HL(n:Nat)(adj:Nat->Nat->Prop)(pos:Nat->Nat)(i:Nat)(P:List Int):Prop:=
 ∀b,b<n->(P.getD b 0= -1/\∀a,a<n->pos a<i->¬Anc adj pos a b)\/∃a:Nat,a<n/\P.getD b 0=(a:Int)/\pos a<i/\Anc adj pos a b/\∀a',a'<n->pos a'<i->Anc adj pos a' b->pos a'<=pos a
theorem HL.last{n:Nat}{adj:Nat->Nat->Prop}{pos:Nat->Nat}(hs:∀a b,adj a b->adj b a)(hp:∀a,a<n->pos a<n)(hinj:∀a b,a<n->pos a=pos b->a=b){P:List Int}(hl:P.length=n)(h:HL n adj pos n P):IsOrd n adj pos P:=by
 refine⟨hl,fun b hb=>?_⟩;rcases h b hb with⟨h1,h2⟩|⟨a,ha,h1,_,h2,h3⟩
 ·exact .inl ⟨h1,fun a ha=>h2 a ha (hp a ha)⟩
 ·refine .inr ⟨a,ha,h1,h2,fun a' ha' h4=>?_⟩;rcases Nat.lt_or_eq_of_le (h3 a' ha' (hp a' ha') h4)with h5|h5
  ·exact .inr (h4.lin hs h2 h5)
  ·exact .inl (hinj a' a ha' h5)
theorem HL.next{n:Nat}{adj:Nat->Nat->Prop}{pos:Nat->Nat}(hinj:∀a b,a<n->pos a=pos b->a=b){i a:Nat}{P Q:List Int}(ha:a<n)(hpa:pos a=i)(h:HL n adj pos i P){I:Nat->Prop}
  (hI:∀b,b<n->(I b↔Path adj (fun c=>pos a<=pos c) a b)) (hQ:∀b,b<n->(I b/\b≠a->Q.getD b 0=(a:Int))/\(¬ (I b/\b≠a)->Q.getD b 0=P.getD b 0)):HL n adj pos (i+1) Q:=by
 intro b hb;have hanc:I b/\b≠a↔Anc adj pos a b:=by
  constructor
  ·rintro⟨h1,h2⟩;have hp:=(hI b hb).1 h1;have h3:pos a<=pos b:=hp.fin (ok:=fun c=>pos a<=pos c) (BY _);exact⟨Nat.lt_of_le_of_ne h3 (fun e=>h2 (hinj a b ha e).symm),hp⟩
  ·rintro⟨h1,h2⟩;exact⟨(hI b hb).2 h2,fun e=>by subst e;omega⟩
 have cases':∀a',a'<n->pos a'<i+1->a'=a\/pos a'<i:=fun a' ha' h1=>by
  by_cases e:pos a'=i
  ·exact .inl (hinj a' a ha' Ts)
  ·exact .inr Ts
 by_cases hA:Anc adj pos a b
 ·refine .inr ⟨a,ha,(hQ b hb).1 (hanc.2 hA),Ts,hA,fun a' ha' h1 _=>by omega⟩
 ·rw[(hQ b hb).2 (fun h1=>hA (hanc.1 h1))];rcases h b hb with⟨h1,h2⟩|⟨d,hd,h1,h2,h3,h4⟩
  ·refine .inl ⟨h1,fun a' ha' h3 h4=>?_⟩;rcases cases' a' ha' h3 with rfl|h5
   ·exact hA h4
   ·exact h2 a' ha' h5 h4
  ·refine .inr ⟨d,hd,h1,Ts,h3,fun a' ha' h5 h6=>?_⟩;rcases cases' a' ha' h5 with rfl|h7
   ·exact absurd h6 hA
   ·exact h4 a' ha' h7 h6
theorem pos_at{n:Nat}{q:List Int}(hq:q.Perm (upZ n)){i a:Nat}(hi:i<q.length)(h:q[i]=(a:Int)):fH q a=i:=by
 have hnd:q.Nodup:=hq.nodup_iff.2 (cG n);unfold fH;rw[<-h];exact hnd.idxOf_getElem i hi
theorem ints_set(P:List Int)(b:Nat)(x:Int):(aF P).set b (.int .i64 x)=aF (P.set b x):=by simp[Qi]
theorem GC{n m a j:Nat}{R Q:List Int}{I:List Bool}(hRl:R.length=n)(hR:∀b,b<n->(b<j/\I.getD b false=true/\b≠a->R.getD b 0=(a:Int))/\(¬ (b<j/\I.getD b false=true/\b≠a)->R.getD b 0=Q.getD b 0))(hjl:j<m)(hIl:m=n)(hcc:I.getD j false=true/\j≠a)(b:Nat)(hb:b<n):
  (b<j+1/\I.getD b false=true/\b≠a->(R.set j (a:Int)).getD b 0=(a:Int))/\(¬ (b<j+1/\I.getD b false=true/\b≠a)->(R.set j (a:Int)).getD b 0=Q.getD b 0):=by
 by_cases e:b=j
 ·subst e;refine⟨fun _=>by simp[List.getD,hRl,hb],fun h=>absurd ⟨Nat.lt_succ_self _,hcc.1,hcc.2⟩ h⟩
 ·have e1:(R.set j (a:Int)).getD b 0=R.getD b 0:=by simp only[List.getD];rw[Q7 (fun e'=>e e'.symm)]
  rw[e1];exact⟨fun h=>(hR b hb).1 ⟨Ts,h.2⟩,fun h=>(hR b hb).2 (fun h2=>h ⟨Ts,h2.2⟩)⟩
theorem Bf{n a j:Nat}{R Q:List Int}{I:List Bool}(hR:∀b,b<n->(b<j/\I.getD b false=true/\b≠a->R.getD b 0=(a:Int))/\(¬ (b<j/\I.getD b false=true/\b≠a)->R.getD b 0=Q.getD b 0))(hcc:¬ (I.getD j false=true/\j≠a))(b:Nat)(hb:b<n):
  (b<j+1/\I.getD b false=true/\b≠a->R.getD b 0=(a:Int))/\(¬ (b<j+1/\I.getD b false=true/\b≠a)->R.getD b 0=Q.getD b 0):=by
 refine⟨fun h=>(hR b hb).1 ⟨?_,h.2⟩,fun h=>(hR b hb).2 (fun h2=>h ⟨Ts,h2.2⟩)⟩;by_cases e:b=j
 ·subst e;exact absurd h.2 hcc
 ·omega
theorem ID{S:Sch}{q:List Int}(hq:q.Perm (upZ S.attrs.length))(hql:q.length=S.attrs.length){a i b:Nat}(hpa:fH q a=i){rem:List Bool}(hrem:∀c,c<q.length->(rem.getD c false=false↔i<=fH q c))(hV:Valid S){X:Prop}(h:X↔Path (su S) (fun c=>rem.getD c false=false) a b):
  X↔Path (su S) (fun c=>fH q a<=fH q c) a b:=by
 rw[h];have key:∀(p p':Nat->Prop),(∀c,c<q.length->p c->p' c)->∀b,Path (su S) p a b->Path (su S) p' a b:=by
  intro p p' hpp b hb;induction hb with
  |refl=>exact .refl
  | @step x y _ h1 h2 ih=>
    have:=(nZ hV h1.2).2;exact .step ih h1 (hpp y Ts h2)
 rw[hpa];exact⟨key _ _ (fun c hc h=>(hrem c hc).1 h) b,key _ _ (fun c hc h=>(hrem c hc).2 h) b⟩
theorem Gn{S:Sch}{q:List Int}(hq:q.Perm (upZ S.attrs.length))(hql:q.length=S.attrs.length){a i:Nat}(ha:a<S.attrs.length)(hpa:fH q a=i){rem:List Bool}(hrl:rem.length=q.length)(hrem:∀c,c<q.length->(rem.getD c false=false↔i<=fH q c))(c:Nat)(hc:c<q.length):
  (rem.set a true).getD c false=false↔i+1<=fH q c:=by
 by_cases e:c=a
 ·subst e;simp[List.getD,hrl,hc];omega
 ·have e1:(rem.set a true).getD c false=rem.getD c false:=by simp only[List.getD];rw[Q7 (fun e'=>e e'.symm)]
  rw[e1,hrem c hc];have:fH q c≠fH q a:=fun h=>e (kq hq Ts h)
  omega
theorem Hs(S:Sch)(hS:SB S)(hV:Valid S)(q:List Int)(hq:q.Perm (upZ S.attrs.length)):FnP prog 196 [eZ S,ai q] (· =lR (ordL S q)):=by
 refine FnP.fg2 (FnP.ofC func196 O ntmps196 Tw fun m0 w0 F R0=>?_);have hn12:=hV.n2;have hql:q.length=S.attrs.length:=by rw[hq.length_eq,aW]
 have hinj:∀a b,a<S.attrs.length->fH q a=fH q b->a=b:=fun a b ha h=>kq hq ha h
 have hp:∀a,a<S.attrs.length->fH q a<S.attrs.length:=fun a ha=>BG hq ha
 refine Z2 O O O<|Z2 O O O<|Rs 14 O O (kG (zs:=[.int .i64 0]) 2 q.length vL O O O O O Ts O)<|Y3 O O O<|Z2 O O O<|Rs 18 O O (kG (zs:=[.bool false]) 4 q.length HG O O O O O Ts O)<|A1 O<|Z4 O O O O O ?_;refine Gl O (st:=fun TC:Nat×List Int=>mkS [(1,.pv (ai q)),(2,.ptr 0 0),(4,.ptr 1 0),(5,.ptr 3 0),(6,.osl 4 1 q.length),(21,pIi q.length),(22,pIi TC.1)] [(0,.mix 30 (sCc S)),(1,.mix 32 [.pv nS]),(2,LH TC.2),(3,.mix 32 [.osl 2 1 q.length]),(4,lX (List.replicate q.length false))] 5)
  (I:=fun TC=>TC.1<=q.length/\TC.2.length=q.length/\∀b,b<TC.1->TC.2.getD b 0= -1) (μ:=fun TC=>q.length-TC.1) (x0:=(0,List.replicate q.length 0)) (OU (aS O) ⟨O,O,ag (fun c=>some (Ob.cells 3 c)) ((ck (.int .i64 0) (q.length*1)).trans Tw),O,ag (fun c=>some (Ob.cells 4 c)) ((ck (.bool false) (q.length*1)).trans Tw),TB⟩ O O) (⟨cd _,Tw,fun b hb=>absurd hb (RJ _)⟩) ?_
 rintro⟨k,P⟩ ⟨hk,hPl,hm⟩;try simp only at hk hPl hm ⊢
 refine Z1 O O ?_;refine Gp O O (fun hc23=>?_) (fun hc23=>?_)
 ·have hlt:k<q.length:=Ts;exact OR<|Z2 O O O<|Z3 O O O O<|Rs 28 O O (aq k underlying22 sz3 O O O O hlt)<|RL.step (d:=none) O O (bK sz3 O O O O Tx)<|Z2 O O O<|⟨(k+1,P.set k (-1)),OU (aS O) ⟨O,O,ag (fun c=>some (Ob.cells 3 c)) (by rw[PX];exact ints_set P k (-1)),O,O,TB⟩ O O,⟨Tz,by simp[hPl],fun b hb=>by by_cases e:b=k;(subst e;simp[List.getD,hPl,hlt]);(have:=hm b (by simp only at hb;omega);simp only[List.getD]at this ⊢; rw[Q7 (fun e'=>e e'.symm)];exact this)⟩,Tz⟩
 ·have hinit:HL S.attrs.length (su S) (fH q) 0 P:=fun b hb=> .inl ⟨hm b Ts,fun a _ h=>absurd h (RJ _)⟩
  refine Gx O<|Z3 O O O O ?_;refine Gl O (st:=fun x_1:Nat×List Int×List Bool=>mkS [(2,.ptr 0 0),(4,.ptr 1 0),(5,.ptr 3 0),(6,.osl 4 1 q.length),(30,.pv (ai q)),(31,pIi q.length),(32,pIi x_1.1)] [(0,.mix 30 (sCc S)),(1,.mix 32 [.pv nS]),(2,LH x_1.2.1),(3,.mix 32 [.osl 2 1 q.length]),(4,lX x_1.2.2)] 5)
   (I:=fun x_1=>x_1.1<=q.length/\x_1.2.1.length=q.length/\x_1.2.2.length=q.length/\(∀c,c<q.length->(x_1.2.2.getD c false=false↔x_1.1<=fH q c))/\HL S.attrs.length (su S) (fH q) x_1.1 x_1.2.1) (μ:=fun x_1=>q.length-x_1.1) (x0:=(0,P,List.replicate q.length false)) (OU (aS O) (aO O) O O) (⟨cd _,hPl,Tw,fun c hc=>by simp[List.getD,hc],hinit⟩) ?_
  rintro⟨i,Q,rem⟩ ⟨hi,hQl,hrl,hrem,hO⟩;try simp only at hi hQl hrl hrem hO ⊢
  refine Z1 O O ?_;refine Gp O O (fun hc33=>?_) (fun hc33=>?_)
  ·have hil:i<q.length:=Ts;have hv:=aQ hil;have hne:=aE hil;obtain⟨a,ha,hqa⟩:=bI.1 (hq.mem_iff.1 (ar hil));have hpa:=pos_at hq hil hqa;have hgo:=Au S hS hV q.length hql rem hrl a Ts;refine OR<|Z1 O O ?_;first|refine A2 O Tv ?_|refine A1 O ?_
   refine A1 O<|Z3 O O O O ?_;refine RL.call O (uB [4] 5 call285 hgo (by rw[<-hqa];rfl) O O O ⟨O,TB⟩ Tu O ?_);rintro _ _ ⟨⟨I,rfl,hIl,hI⟩,rfl⟩;refine A1 O<|Z3 O O O O ?_;refine Gl O (st:=fun x_2:Nat×List Int=>mkS [(2,.ptr 0 0),(4,.ptr 1 0),(5,.ptr 3 0),(6,.osl 4 1 q.length),(9,.pv (.int .i64 q[i])),(10,.pv (jX I)),(30,.pv (ai q)),(31,pIi q.length),(32,pIi i),(41,pIi I.length),(42,pIi x_2.1)] [(0,.mix 30 (sCc S)),(1,.mix 32 [.pv nS]),(2,LH x_2.2),(3,.mix 32 [.osl 2 1 q.length]),(4,lX rem)] 5)
    (I:=fun x_2=>x_2.1<=I.length/\x_2.2.length=q.length/\∀b,b<q.length->(b<x_2.1/\I.getD b false=true/\b≠a->x_2.2.getD b 0=(a:Int))/\(¬ (b<x_2.1/\I.getD b false=true/\b≠a)->x_2.2.getD b 0=Q.getD b 0)) (μ:=fun x_2=>I.length-x_2.1) (x0:=(0,Q)) (OU (aS O) (aO O) O O) (⟨cd _,hQl,fun b _=>⟨fun h=>absurd h.1 (RJ _),fun _=>rfl⟩⟩) ?_
   rintro⟨j,R⟩ ⟨hj,hRl,hR⟩;try simp only at hj hRl hR ⊢
   refine Z1 O O ?_;refine Gp O O (fun hc43=>?_) (fun hc43=>?_)
   ·have hjl:j<I.length:=Ts;have hvj:=HD hjl;have hnej:=uF hjl;refine OR<|Z2 O O O<|Z2 O O O<|Rs 47 O O (ae j underlying215 sz4 O O O hjl hnej) ?_;first|refine A2 O Tv ?_|refine A1 O ?_
    refine A1 O ?_;apply O3 4 49 53 [50,51,52] O TE
    ·intro hb4;iterate 4 refine A1 O ?_
     exact OW TD O O O
    ·intro hb4;iterate 4 refine A1 O ?_
     exact OW TD O O O
    refine Gc O O (fun hc53=>?_) (fun hc53=>?_)
    ·have hcc:I.getD j false=true/\j≠a:=by rw[hqa]at hc53;simp only[sh,bne_iff_ne]at hc53;exact⟨hc53.1,Ts⟩
     exact Z4 O O O O O<|Rs 58 O O (aq j underlying22 sz3 O O O O Ts)<|RL.step (d:=none) O O (bK sz3 O O O O Tx)<|Z2 O O O<|⟨(j+1,R.set j a),OU (aS O) ⟨O,O,ag (fun c=>some (Ob.cells 3 c)) (by rw[PX,hqa];exact ints_set R j a),O,O,TB⟩ O O,⟨Tz,by simp[hRl],fun b hb=>GC hRl hR hjl hIl hcc b hb⟩,Tz⟩
    ·have hcc:¬ (I.getD j false=true/\j≠a):=by rw[hqa]at hc53;rintro⟨h1,h2⟩;rw[h1,Tc]at hc53;exact absurd (inF hc53) Ts
     exact OR<|Z2 O O O<|⟨(j+1,R),OU (aS O) (aO O) O O,⟨Tz,hRl,fun b hb=>Bf hR hcc b hb⟩,Tz⟩
   ·have hO2:HL S.attrs.length (su S) (fH q) (i+1) R:=hO.next hinj ha hpa (I:=fun b=>I.getD b false=true) (fun b hb=>ID hq hql hpa hrem hV (hI b)) (fun b hb=>⟨fun h=>(hR b Ts).1 ⟨Ts,h.1,h.2⟩,fun h=>(hR b Ts).2 (fun h2=>h ⟨h2.2.1,h2.2.2⟩)⟩);exact Gx O<|Z2 O O O<|Rs 62 O O (aq a underlying215 sz4 O O O hqa Ts)<|RL.step (d:=none) O O (bK sz4 O O O O Tx)<|Z2 O O O<|⟨(i+1,R,rem.set a true),OU (aS O) ⟨O,O,O,O,ag (fun c=>some (Ob.cells 4 c)) (by simp[Qi];rfl),TB⟩ O O,⟨Tz,hRl,by simp[hrl],fun c hc=>Gn hq hql ha hpa hrl hrem c hc,hO2⟩,Tz⟩
  ·have hord:Q=ordL S q:=(HL.last (og S) hp hinj Ts (by rw[show i=S.attrs.length by omega]at hO;exact hO)).unique (xC hV hq);exact Gx O<|Z2 O O O<|Gt O<|⟨_,_,O,O,⟨az ⟨_,underlying32,O⟩ H7 O O O,TB⟩,by show PV.agg [.sl none q.length (aF Q)]=_;rw[<-hord,lR,ai,hQl]⟩
theorem Ba{q:List Int}(h:E3 q q.length=false):q.Nodup:=by
 have key:∀n,E3 q n=false->∀k,k<n->¬q.getD k 0∈q.take k:=by
  intro n;induction n with
  |zero=>intro _ k hk;omega
  | succ n ih=>
    intro h k hk;simp only[E3,PL,Qx]at h;by_cases e:k=n
    ·subst e;exact h.2
    ·exact ih h.1 k Ts
 unfold List.Nodup;rw[P6];intro i j hi hj hij e;refine key _ h j hj ?_;rw[getD_eq hj,<-e];exact gy hij hi
theorem Hm{S:Sch}{q:List Int}(h:ofE S q=0):bp S=0/\q.Perm (upZ S.attrs.length):=by
 unfold ofE at h;split at h
 ·rename_i h1;exact absurd h h1
 ·rename_i h0;have h0:bp S=0:=PT h0;refine⟨h0,?_⟩;split at h
  ·cases h
  ·rename_i h1;have h1:q.length=S.attrs.length:=PT h1;split at h
   ·cases h
   ·rename_i h2;split at h
    ·cases h
    ·rename_i h3;have hnd:=Ba (q:=q) (by simpa using h3);have hr:∀a∈q,a∈upZ S.attrs.length:=by
      intro a ha;have h2:(q.any fun a=>decide (a<0)||decide (a>=(q.length:Int)))=false:=by simpa using h2
      have:=S9.1 h2 a ha;simp at this;obtain⟨x,hx⟩:=Bb this.1;exact bI.2 ⟨x,Ts,hx⟩
     have hp:((upZ S.attrs.length).filter fun a=>decide (a∈q)).Perm q:=dU (RH Ri (cG _)) hnd fun a=>by
      rw[Qn,P9];exact⟨fun h=>h.2,fun h=>⟨hr a h,h⟩⟩
     have hl:((upZ S.attrs.length).filter fun a=>decide (a∈q)).length=(upZ S.attrs.length).length:=by rw[hp.length_eq,h1,aW]
     rw[List.length_filter_eq_length_iff]at hl;rw[Tg.2 hl]at hp;exact hp.symm
theorem H5(S:Sch)(hS:SB S)(q:List Int)(hql:q.length<=1000000):FnP prog 109 [eZ S,ai q] (· =ofV S q):=by
 refine FnP.fg2 (FnP.ofC func109 O ntmps109 Tw fun m0 w0 F R0=>?_);have hb:=hS.a;refine Z3 O O O O<|Z1 O O<|Rs 13 O O (aa call83 (sA S hS) O)<|A1 O<|Z2 O O O ?_;refine Gc O O (fun hc15=>?_) (fun hc15=>?_)
 ·exact Z4 O O O O O<|Gt O<|⟨_,_,O,O,⟨az ⟨_,underlying32,O⟩ H7 O O O,TB⟩,(rz (by unfold ofE;rw[AT (inT hc15)]) (inT hc15)).symm⟩
 ·have h0:bp S=0:=inF hc15;have hV:=gH h0;refine OR<|Z4 O O O O O<|Z4 O O O O O ?_;refine Gc O O (fun hc24=>?_) (fun hc24=>?_)
  ·have hne0:¬q.length=S.attrs.length:=by have:=inT hc24;omega
   exact Z3 O O O O<|Gt O<|⟨_,_,O,O,⟨az ⟨_,underlying32,O⟩ H7 O O O,TB⟩,(rz (by unfold ofE;rw[dw (fun h=>h h0),AT hne0]) Tu).symm⟩
  ·have heq:q.length=S.attrs.length:=by have:=inF hc24;omega
   refine OR<|Z3 O O O O ?_;refine Gl O (st:=fun TC:Nat=>mkS [(1,.pv (ai q)),(2,.ptr 0 0),(4,.ptr 1 0),(7,pIi S.attrs.length),(26,.pv (ai q)),(27,pIi q.length),(28,pIi TC)] [(0,.mix 30 (sCc S)),(1,.mix 32 [.pv nS])] 2)
    (I:=fun TC=>TC<=q.length/\((q.take TC).any fun a=>decide (a<0)||decide (a>=(S.attrs.length:Int)))=false) (μ:=fun TC=>q.length-TC) (x0:=(0)) (OU (aS O) (aO O) O O) (⟨cd _,O⟩) ?_
   rintro k ⟨hk,hany⟩;refine Z1 O O ?_;refine Gp O O (fun hc29=>?_) (fun hc29=>?_)
   ·have hlt:k<q.length:=Ts;have hva:=aQ hlt;have hne:=aE hlt;refine OR<|Z1 O O ?_;first|refine A2 O Tv ?_|refine A1 O ?_
    refine A1 O<|Z3 O O O O ?_;apply O2 4 34 38 [35,36,37] O TE
    ·intro hb2;iterate 4 refine A1 O ?_
     exact OW TD O O O
    ·intro hb2;iterate 4 refine A1 O ?_
     exact OW TD O O O
    refine Gc O O (fun hc38=>?_) (fun hc38=>?_)
    ·exact Z3 O O O O<|Gt O<|⟨_,_,O,O,⟨az ⟨_,underlying32,O⟩ H7 O O O,TB⟩,(rz (by unfold ofE;rw[dw (fun h=>h h0),dw (fun h=>h heq),AT (by rw[heq];exact pJ (p:=fun a=>decide (a<0)||decide (a>=(S.attrs.length:Int))) hlt hc38)]) Tu).symm⟩
    ·exact OR<|Z2 O O O<|⟨(k+1),OU (aS O) (aO O) O O,⟨Ts,fr hlt hany hc38⟩,Ts⟩
   ·rw[aX Ts]at hany;refine Gx O<|Z3 O O O O ?_;refine Gl O (st:=fun x_1:Nat=>mkS [(1,.pv (ai q)),(2,.ptr 0 0),(4,.ptr 1 0),(41,.pv (ai q)),(42,pIi q.length),(43,pIi x_1)] [(0,.mix 30 (sCc S)),(1,.mix 32 [.pv nS])] 2)
     (I:=fun x_1=>x_1<=q.length/\E3 q x_1=false) (μ:=fun x_1=>q.length-x_1) (x0:=(0)) (OU (aS O) (aO O) O O) (⟨cd _,O⟩) ?_
    rintro j ⟨hj,hdup⟩;refine Z1 O O ?_;refine Gp O O (fun hc44=>?_) (fun hc44=>?_)
    ·have hlt:j<q.length:=Ts;have hva:=aQ hlt;have hne:=aE hlt;have hgd:=getD_eq hlt (0:Int);have htk:PV.sl none j ((aF q).take (j*1))=ai (q.take j):=by simp[ai,List.map_take];omega
     refine OR<|Z2 O O O ?_;first|refine A2 O Tv ?_|refine A1 O ?_
     refine Y2 O O<|Z2 O O O<|Rs 50 O O (XJ.cast (v':= .pv (ai (q.take j))) (dq j underlying22 sz3 O O O Ts Tw) (by rw[<-htk]))<|A1 O<|Rs 52 O O (aa call60 (jn (q.take j) q[j] Tx) O) ?_;refine Gc O O (fun hc52=>?_) (fun hc52=>?_)
     ·exact Z3 O O O O<|Gt O<|⟨_,_,O,O,⟨az ⟨_,underlying32,O⟩ H7 O O O,TB⟩,(rz (by unfold ofE;rw[dw (fun h=>h h0),dw (fun h=>h heq),dw (by rw[heq,hany];decide),AT (N1 hlt (by rw[hgd];exact hc52))]) Tu).symm⟩
     ·exact OR<|Z2 O O O<|⟨(j+1),OU (aS O) (aO O) O O,⟨Ts,by simp only[E3,hdup,hgd,hc52];rfl⟩,Ts⟩
    ·have he:ofE S q=0:=by unfold ofE;rw[dw (fun h=>h h0),dw (fun h=>h heq),dw (by rw[heq,hany];decide),dw (by rw[show q.length=j by omega,hdup];decide)]
     exact Gx O<|Z2 O O O<|Rs 57 O O (aa call196 (Hs S hS hV q (Hm he).2) O)<|Y2 O O<|Gt O<|⟨_,_,O,O,⟨az ⟨_,underlying32,O⟩ H7 O O O,TB⟩,by unfold ofV;rw[he,AT O];rfl⟩
end

section
open Mk
theorem C3{P:List Int}(hP:UpOk P):(aH P).length=P.length:=by rw[(bU hP).length_eq,aW]
def aV:Sch:=⟨[(⟨#[97]⟩,1),(⟨#[98]⟩,1),(⟨#[99]⟩,1)],[(⟨#[114]⟩,[0,1]),(⟨#[113]⟩,[1,2])],[], -1⟩
theorem lq:SB aV:=⟨Tu,Tu,Tu,Tu,Tu,Tu⟩
theorem Fg:bp aV=0:=Tu
abbrev bm:List Int:=[1, -1,1]
theorem rW:lW aV bm=0:=Tu
theorem yE(a:Int):vo [a]=[a]:=(rB (PY [a]) Tw).symm
theorem Hx:vo []=[]:=(rB (PY []) Tw).symm
theorem Cm:fh aV bm 0=[1]:=by unfold fh;rw[show JB aV bm 0=[1] by decide,yE]
theorem JY:fh aV bm 1=[]:=by unfold fh;rw[show JB aV bm 1=[] by decide,Hx]
theorem Ci:fh aV bm 2=[1]:=by unfold fh;rw[show JB aV bm 2=[1] by decide,yE]
theorem CF(l:List Int)(hl:l.length<=1000000000):FnP prog 41 [ai l,ai l] (· = .bool true):=by
 have h:=Fa l l hl hl;rw[Pn O]at h;exact h
end
theorem FW{P:Program}{f:FuncId}{args:List PV}{us:List Value}(h:FnP P f args (· = .bool true))(w:World)(hG:nU w (fun b=>b<w.heap.size))(hrel:RelPL w (fun b=>b<w.heap.size) args us):
  Calls P f us.toArray w fun e w'=>e= .returned (.bool true)/\Below w.heap.size w w':=
 (h w _ us hG (fun _ hb=>hb) hrel).mono fun _ _ ⟨u,v,e,hv,hb,hr⟩=>by
  subst hv;simp only[RelP]at hr;subst hr;exact⟨e,hb⟩
section
open Mk
theorem nv{n:Nat}:∀{l:List Int},l.Pairwise (· < ·)->(∀a∈l,0<=a/\a<n)->l.length<=n:=by
 intro l hp hr;have hnd:l.Nodup:=hp.imp (fun h e=>by omega);have hsub:∀a∈l,a∈upZ n:=fun a ha=>by
  obtain⟨x,hx⟩:=Bb (hr a ha).1;exact bI.2 ⟨x,by have:=(hr a ha).2;omega,hx⟩
 have:(((upZ n).filter fun a=>decide (a∈l))).Perm l:=dU (RH Ri (cG _)) hnd fun a=>by
  rw[Qn,P9];exact⟨fun h=>h.2,fun h=>⟨hsub a h,h⟩⟩
 rw[<-this.length_eq];exact IS (Re _ _) (by rw[aW];exact BY _)
theorem Fu(p:UInt8)(i:Nat):(nm p i).size=2:=by
 unfold nm chr;simp[ByteArray.size_append];rfl
theorem qU{S:Sch}{most:Nat}(h:Made S most)(hm:most<=8):SB S:=by
 have h1:=h.a2;have h2:=h.r2;have h3:=eu h.fs;refine⟨Ts,Ts,Ts,fun x hx=>?_,fun x hx=>?_,fun x hx=>?_⟩
 ·obtain⟨i,hi,rfl⟩:=Q0 hx;rw[(h.at' i hi).1,Fu];decide
 ·obtain⟨i,hi,rfl⟩:=Q0 hx;rw[(h.rs i hi).1,Fu];decide
 ·obtain⟨i,hi,rfl⟩:=Q0 hx;have:=nv (h.rs i hi).2.2.1 (h.rs i hi).2.2.2;omega
section
variable {C:Ctx}{n:Nat}{σ:St}{dst:Option Tmp}{ty:TypeId}{ts:Array TypeId}{pos:String}{after:Array Edge}{gd:Option (Nat×Bool)}
def RM(T:TypeId)(id:Nat)(Q:PV->List PV->Prop)(s:OS):Prop:=∃r cs',Q r cs'/\s=⟨.pv r,[(id,some (.mix T (cs'.map .pv)))],[]⟩
theorem relM{f:FuncId}{xs:Array Operand}{ps:List PV}{T:TypeId}{id:Nat}{cs:List PV}{Q:PV->List PV->Prop}(hc:cu C.P f)(hf:FnM C.P f T cs ps Q)(hargs:xs.toList.map (σ.ev n)= .ptr id 0::ps.map .pv)(ho:σ.ob id=some (.mix T (cs.map .pv))):
  OJ C n ⟨dst,.call { callee:= .value (.func f),args:=xs,argTypes:=ts },ty,pos,after,gd⟩ (fun τ'=>∃s,RM T id Q s/\s.wr.map (·.1)=[id]/\s.nw=[]/\τ'=σ.app dst s) σ:=
 kr hc hf hargs ho fun r cs' h=>⟨_,⟨r,cs',h,O⟩,O,O,O⟩
end
end
section
open Mk
theorem tu(L:List Int)(k:Nat)(hL:L.length<=600)(hk:k<=L.length)(S:Sch)(hS:SB S)(h0:bp S=0):
  FnM prog 43 91 (gx L k) [eZ S] (fun v c=>(∃q:List Int,q.Perm (upZ S.attrs.length)/\v=lR (ordL S q))/\∃k',k'<=L.length/\c=gx L k'):=by
 refine FnM.ofC (rt:=32) (k:=1) func43 O ntmps43 Tw O Tw ⟨_,underlying32,O⟩ H7 fun m0 w0 F R0=>?_
 have hV:=gH h0;have hn12:=hV.n2;have hn1:=hV.n1;refine Z2 O O O<|Ge O follows [0,1,2,3,4,10,5,6,7,8,9,11,12] Tt ?_;iterate 6 refine D1 O O ?_
 refine DL.rel (RM 91 big (fun v c=>(∃q:List Int,q.Perm (upZ S.attrs.length)/\v=ai q)/\∃k',k'<=L.length/\c=gx L k')) [big] [] [big] O O O (fun τ h=>relM call71 (sY L k S.attrs.length hL hk hn1 Ts) (h.args.trans O) (Eo h 0 O O)) O Tt Tt Tt ?_;rintro _ ⟨_,_,⟨⟨q,hq,rfl⟩,k2,hk2,rfl⟩,rfl⟩ _ _;have hql:q.length=S.attrs.length:=by rw[hq.length_eq,aW]
 have hofv:ofV S q= .tup [lR (ordL S q),.int .i64 0]:=by unfold ofV;rw[Ib h0 hq,AT O]
 have hof:=H5 S hS q Ts;rw[hofv]at hof;refine Ds 14 [] O O O (fun τ h=>aa call109 hof (h.aL O)) O Tt ?_;iterate 5 refine D1 O O ?_
 refine⟨Tt,?_⟩;exact Z2 O O O<|Gt O<|⟨1,_,[ai (ordL S q)],gx L k2,O,O,O,O,O,⟨q,hq,O⟩,k2,hk2,O⟩
end


section
open Mk Jn
theorem lZ:∀(x y:List UInt8),Op.bytesLess x y=decide (x<y)
 |[],[]=>by simp[Op.bytesLess]
 |_::_,[]=>by simp[Op.bytesLess]
 |[],_::_=>by simp[Op.bytesLess]
 | a::x,b::y=>by
   rw[Op.bytesLess,lZ x y];simp only[List.cons_lt_cons_iff];by_cases h1:a<b<;>by_cases h2:a=b<;>by_cases h3:x<y<;>simp[h1,h2,h3]
theorem pP(x:ByteArray)(a b:List ByteArray):bl (x::a) (x::b)=bl a b:=by
 unfold bl zq;rw[PA,Po,Po,bL,bL,List.cons_lt_cons_iff];simp[List.lt_irrefl]
theorem I0{x y:ByteArray}(h:x≠y)(a b:List ByteArray):bl (x::a) (y::b)=Op.bytesLess x.toList y.toList:=by
 unfold bl zq;rw[lZ,ByteArray.toList_eq,ByteArray.toList_eq,PA,Po,Po,bL,bL,List.cons_lt_cons_iff];exact⟨fun k=>k.elim id fun e=>absurd (DF e.1) h,.inl⟩
theorem sg:∀{i:Nat}{a b:List ByteArray}(ha:i<a.length)(hb:i<b.length),a.take i=b.take i->a[i]≠b[i]->bl a b=Op.bytesLess a[i].toList b[i].toList
 |0,x::a,y::b,_,_,_,h=>I0 h a b
 | i+1,x::a,y::b,ha,hb,ht,h=>by
   rw[SM,SM,Rr]at ht;obtain⟨rfl,ht⟩:=ht;rw[pP];exact sg (by simpa using ha) (by simpa using hb) ht h
theorem kn:∀{i:Nat}{a b:List ByteArray},i<=a.length->i<=b.length->(i=a.length\/i=b.length)->a.take i=b.take i->bl a b=decide ((a.length:Int)<b.length)
 |_,[],[],_,_,_,_=>by simp[bl,zq]
 |_,[],y::b,_,_,_,_=>by simp[bl,zq]
 |_,x::a,[],_,_,_,_=>by simp[bl,zq];omega
 |0,x::a,y::b,_,_,h,_=>by simp at h
 | i+1,x::a,y::b,ha,hb,h,ht=>by
   rw[SM,SM,Rr]at ht;obtain⟨rfl,ht⟩:=ht;rw[pP,kn (i:=i) (by simpa using ha) (by simpa using hb) (by simpa using h) ht];simp
theorem AA(a b:List ByteArray)(ha:a.length<=1000000)(hb:b.length<=1000000):FnP prog 268 [aZ a,aZ b] (· = .bool (bl a b)):=by
 refine FnP.of func268 O ntmps268 Tw fun m0 w0 F R0=>?_
 refine Z1 O O<|Z1 O O ?_;refine Gl O (st:=fun TC:Nat=>mkS [(0,.pv (aZ a)),(1,.pv (aZ b)),(5,pIi TC)] [] 0)
  (I:=fun TC=>(TC<=a.length/\TC<=b.length)/\a.take TC=b.take TC) (μ:=fun TC=>a.length-TC) (x0:=(0)) (OU (aS O) trivial O O) (⟨⟨cd _,cd _⟩,O⟩) ?_
 rintro i ⟨hi,ht⟩;refine Gr O ?_;iterate 5 refine A1 O ?_
 apply O3 5 10 15 [11,12,13,14] O TE
 ·intro hb4;iterate 5 refine A1 O ?_
  exact OW TD O O O
 ·intro hb4;iterate 5 refine A1 O ?_
  exact OW TD O O O
 refine Gc O O (fun hc15=>?_) (fun hc15=>?_)
 ·have hab:i<a.length/\i<b.length:=by simp at hc15;omega
  have va:=bz hab.1;have na:=bA hab.1;have vb:=bz hab.2;have nb:=bA hab.2;refine OR<|Ge O follows [0,1,2,3,4,5,6,7,8] Tt ?_;iterate 3 refine D1 O O ?_
  first|refine D2 O O Tv ?_|refine D1 O O ?_
  iterate 3 refine D1 O O ?_
  first|refine D2 O O Tv ?_|refine D1 O O ?_
  refine D1 O O ?_;refine⟨Tt,?_⟩;refine Gc O O (fun hc26=>?_) (fun hc26=>?_)
  ·refine Ge O follows [0,1,2,3,4,5,6,7,8,9] Tt ?_;iterate 3 refine D1 O O ?_
   first|refine D2 O O Tv ?_|refine D1 O O ?_
   iterate 3 refine D1 O O ?_
   first|refine D2 O O Tv ?_|refine D1 O O ?_
   iterate 2 refine D1 O O ?_
   refine⟨Tt,?_⟩;exact Gt O<|⟨_,_,O,O,ag PV.bool (sg hab.1 hab.2 ht (fun e=>by rw[e]at hc26;simp at hc26)).symm⟩
  ·exact OR<|Z3 O O O O<|⟨(i+1),OU (aS O) trivial O O,⟨⟨Ts,Ts⟩,by rw[AI hab.1,AI hab.2,ht,show a[i]=b[i]from baT (by simpa using hc26)]⟩,Ts⟩
 ·refine Gx O<|Gr O ?_;iterate 6 refine A1 O ?_
  exact Gt O<|⟨_,_,O,O,ag PV.bool (kn (i:=i) hi.1 hi.2 (by simp at hc15;omega) ht).symm⟩
theorem AN(a b:List ByteArray)(ha:a.length<=1000000)(hb:b.length<=1000000):FnP prog 19 [aZ a,aZ b] (· = .bool (decide (a=b))):=by
 refine FnP.of func19 O ntmps19 Tw fun m0 w0 F R0=>?_
 refine Z1 O O<|Gr O ?_;iterate 5 refine A1 O ?_
 refine Gc O O (fun hc10=>?_) (fun hc10=>?_)
 ·exact Z1 O O<|Gt O<|⟨_,_,O,O,ag PV.bool (Pt (fun e=>by rw[e]at hc10;simp at hc10)).symm⟩
 ·have hl:a.length=b.length:=by simp at hc10;omega
  refine OR<|Z3 O O O O ?_;refine Gl O (st:=fun TC:Nat=>mkS [(0,.pv (aZ a)),(1,.pv (aZ b)),(12,pIi a.length),(13,pIi TC)] [] 0)
   (I:=fun TC=>TC<=a.length/\a.take TC=b.take TC) (μ:=fun TC=>a.length-TC) (x0:=(0)) (OU (aS O) trivial O O) (⟨cd _,O⟩) ?_
  rintro i ⟨hi,ht⟩;refine Z1 O O ?_;refine Gp O O (fun hc14=>?_) (fun hc14=>?_)
  ·have ha1:i<a.length:=Ts;have hb1:i<b.length:=Ts;have va:=bz ha1;have na:=bA ha1;have vb:=bz hb1;have nb:=bA hb1;refine OR<|Z2 O O O<|Ge O follows [0,1,2,3,4,5,6,7,8] Tt ?_;iterate 3 refine D1 O O ?_
   first|refine D2 O O Tv ?_|refine D1 O O ?_
   iterate 3 refine D1 O O ?_
   first|refine D2 O O Tv ?_|refine D1 O O ?_
   refine D1 O O ?_;refine⟨Tt,?_⟩;refine Gc O O (fun hc24=>?_) (fun hc24=>?_)
   ·exact Z1 O O<|Gt O<|⟨_,_,O,O,ag PV.bool (Pt (fun e=>by subst e;simp at hc24)).symm⟩
   ·exact OR<|Z2 O O O<|⟨(i+1),OU (aS O) trivial O O,⟨Ts,by rw[AI ha1,AI hb1,ht,show a[i]=b[i]from baT (by simpa using hc24)]⟩,Ts⟩
  ·exact Gx O<|Z1 O O<|Gt O<|⟨_,_,O,O,ag PV.bool (Pn (by rwa [aX Ts,aX Ts]at ht)).symm⟩
end
section
section
variable {C:Ctx}{n:Nat}{σ:St}{dst:Option Tmp}{ty t:TypeId}{pos:String}{after:Array Edge}{gd:Option (Nat×Bool)}{x y:Operand}
theorem ux{T e:TypeId}{id s k:Nat}{kl:IntKind}{il:Int}{o:Ob}(l:Nat)(hT:C.P.underlying T=some (.slice e))(hs:bQ C.P e s)(hx:σ.ev n x= .osl id s k)(ho:σ.ob id=some o)(hy:σ.ev n y= .pv (.int kl il))(hi:il=(l:Int))(h1:l<=k)(hre:o.real=true:=by rfl):
  XJ C n ⟨dst,.slice T x (some y) none none,ty,pos,after,gd⟩ σ ⟨.tsl id (l*s) (k-l),[],[]⟩:=
 .val fun a w m R hw=>by
  obtain⟨b,N,c,he,hkc,hcm,hN,hm,hor⟩:=hw.osl hx ho hre;have e1:a.eval y= .int kl l:=by rw[hw.int hy,hi]
  have hav:σ.av id=false:=by
   cases hv:σ.av id with
   |false=>rfl
   |true=>have:=hw.hr.free id hv;rw[ho]at this;cases this
  refine⟨.slice (if c=l then some ⟨b,0,none⟩else(some ⟨b,0,none⟩:Option Addr).map (·.add (l*s))) (k-l) (c-l),?_,?_⟩
  ·simp[execOp,he,e1,Instr.sliceAt,Instr.slice,Instr.sliceBounds,Instr.sliceBound,asIntOf,run_underlying hT,hs.run,h1]
  ·simp only[Rel];refine⟨hav,_,_,O,fun hp b' N' e=>?_⟩;rw[hm]at e;cases e;rw[dw Ts];simp[Addr.add_lit]
theorem MS.tsl{id off j size:Nat}{T:TypeId}{cs news:List PV}(hx:σ.ev n y= .tsl id off j)(ho:σ.ob id=some (.cells T cs))(hn:news=cs.drop off)(hl:news.length=j*size):MS C n σ y j news:=by
 intro a w m R hw;have h:=hw.ev y;rw[hx]at h;simp only[Rel]at h;obtain⟨hav,A,c,he,hA⟩:=h;obtain⟨b,N,hm,arr,hb,hsz,hle,hr⟩:=hw.live ho;refine⟨A,c,(arr.toList.take cs.length).drop off,he,by rw[hn];exact hr.drop off,fun hne=>?_⟩;have hj:0<j:=by
  rcases Qj j with h0|h0
  ·exfalso;apply hne;rw[h0,Nat.zero_mul,hn,Qw]at hl;rw[List.drop_eq_nil_iff,Pj];omega
  ·exact h0
 refine⟨b,off,hA hj b N hm,TB,(hw.hr.own id b N hm).1,fun i hi=>?_⟩;simp only[Qw,Pj]at hi;rw[cell_of_row w b (off+i) arr T (0,0) hb,Qf,Pw,AT Ts];simp
theorem nM.any{j:Nat}{news:List PV}(h:nM n σ y j news):MS C n σ y j news:=fun hw=>h.row hw
end
end
def St.gsO(σ:St)(t id sz n:Nat)(T:TypeId)(cs:List PV):St:=⟨upd σ.sl t (.gsl id sz n),obL [(id,some (.gro T cs))] σ.ob,σ.av⟩
theorem St.EV{σ:St}{id sz n:Nat}{T:TypeId}{cs:List PV}(t:Nat)(ht:σ.sl t= .osl id sz n)(ho:σ.ob id=some (.cells T cs))(hn:0<n)(hc:cs≠[]):σ.le (σ.gsO t id sz n T cs):=by
 rintro C nn a w ⟨m,R,hw⟩;have hs:∀i,i≠id->obL [(id,some (Ob.gro T cs))] σ.ob i=σ.ob i:=fun i hi=>eC _ _ _ (by simpa using hi)
 have hi:obL [(id,some (Ob.gro T cs))] σ.ob id=some (.gro T cs):=by simp[obL]
 refine⟨m,R,⟨?_,?_,?_,hw.hr.inj,hw.hr.own,hw.hr.rsz,hw.hr.rfr,hw.hr.r0,hw.hr.frame,hw.hr.keep,hw.hr.res⟩,hw.df,hw.sz,?_⟩
 ·intro i;by_cases e:i=id
  ·subst e;rw[hw.hr.dom,ho];show _=bE (obL _ _ _);rw[hi];exact(cL hc).symm
  ·show _=bE (obL _ _ _);rw[hs i e];exact hw.hr.dom i
 ·intro i h;by_cases e:i=id
  ·subst e;have:=hw.hr.free i h;rw[ho]at this;cases this
  ·show obL _ _ _=none;rw[hs i e];exact hw.hr.free i h
 ·intro i o b N h1 h2;by_cases e:i=id
  ·subst e;have h1':obL [(i,some (Ob.gro T cs))] σ.ob i=some o:=h1;rw[hi]at h1';cases h1';have q:=hw.hr.obj i _ b N ho h2;exact q
  ·have h1':obL [(id,some (Ob.gro T cs))] σ.ob i=some o:=h1;rw[hs i e]at h1';exact hw.hr.obj i o b N h1' h2
 ·intro q hq;show Rel w m σ.av R (upd σ.sl t (.gsl id sz n) q) _;by_cases e:q=t
  ·subst e;rw[ay];have:=hw.sl q hq;rw[ht]at this;simp only[Rel]at this ⊢;obtain⟨b,N,hm,_⟩:=hw.live ho;obtain⟨h0,h1⟩:=this;obtain⟨c,he,h2,h3,h4⟩:=h1 b N hm;exact⟨h0,_,c,he,h2,h3,fun e=>by omega,fun _ b' N' hm'=>by rw[hm]at hm';cases hm';exact⟨O,h4⟩⟩
  ·rw[aM _ _ e];exact hw.sl q hq
def St.nilS(σ:St)(t:Nat):St:=⟨upd σ.sl t (.pv nS),σ.ob,σ.av⟩
theorem St.LM{σ:St}{id sz:Nat}(t:Nat)(ht:σ.sl t= .gsl id sz 0):σ.le (σ.nilS t):=by
 rintro C nn a w ⟨m,R,hw⟩;refine⟨m,R,hw.hr,hw.df,hw.sz,fun q hq=>?_⟩;show Rel w m σ.av R (upd σ.sl t (.pv nS) q) _;by_cases e:q=t
 ·subst e;rw[ay];have:=hw.sl q hq;rw[ht]at this;simp only[Rel,RelP]at this ⊢;obtain⟨_,A,c,he,h1,h2,h3,_⟩:=this;obtain⟨rfl,rfl,_⟩:=h3 trivial;exact⟨none,0,he,h1,h2,(fun _ e=>by cases e;rfl),(fun _=>rfl),fun e=>absurd O e⟩
 ·rw[aM _ _ e];exact hw.sl q hq
section
open Mk Jn
abbrev ny(x:Rw):List PV:=[aZ x.v,.int .i64 x.w]
def aY(l:List Rw):List PV:=l.flatMap ny
abbrev mf(l:List Rw):PV:= .sl none l.length (aY l)
theorem bJ(l:List Rw):(aY l).length=l.length*2:=bV _ 2 (fun _=>rfl) l
theorem eK{l:List Rw}{k:Nat}(h:k<l.length):((aY l).drop (k*2)).take 2=ny l[k]:=cm _ 2 (fun _=>rfl) l k h
theorem gC{l:List Rw}{k:Nat}(h:k<l.length):aY l≠[]:=fun e=>by have:=bJ l;rw[e]at this;simp at this;omega
theorem Bd{l:List Rw}{k:Nat}(h:k<l.length):(aY l)[k*2]? =some (aZ l[k].v):=by
 have:=eK h;have h2:(((aY l).drop (k*2)).take 2)[0]? =(ny l[k])[0]? :=by rw[this]
 simpa[Pw,Qf]using h2
theorem Ml{l:List Rw}{k:Nat}(h:k<l.length):(aY l)[k*2+1]? =some (.int .i64 l[k].w):=by
 have:=eK h;have h2:(((aY l).drop (k*2)).take 2)[1]? =(ny l[k])[1]? :=by rw[this]
 simpa[Pw,Qf]using h2
theorem mS(l m:List Rw):aY (l++m)=aY l++aY m:=by simp[aY]
theorem rQ(l:List Rw)(x:Rw):aY l++ny x=aY (l++[x]):=by simp[aY]
theorem fR(l:List Rw):∀c∈aY l,c.leaf=true:=fun c hc=>by
 obtain⟨t,_,hc⟩:=P5.1 hc;simp only[AS,P7,R6]at hc;rcases hc with rfl|rfl<;>rfl
theorem uc(l:List Rw)(k:Nat):(aY l).take (k*2)=aY (l.take k)/\(aY l).drop (k*2)=aY (l.drop k):=by
 have e:aY l=aY (l.take k)++aY (l.drop k):=by rw[<-mS,PK]
 rcases SZ l.length k with h|h
 ·have hl:=bJ l;rw[aX Ts,aX Ts,List.drop_eq_nil_of_le Ts,List.drop_eq_nil_of_le Ts];exact⟨O,O⟩
 ·have hl:(aY (l.take k)).length=k*2:=by rw[bJ,Pj,Qt h]
  constructor
  ·conv=>lhs;rw[e]
   rw[<-hl,List.take_left]
  ·conv=>lhs;rw[e]
   rw[<-hl,List.drop_left]
theorem EW{l:List Rw}{k:Nat}(h:k<l.length)(w:Int):(aY l).set (k*2+1) (.int .i64 w)=aY (l.set k ⟨l[k].v,w⟩):=by
 induction l generalizing k with
 |nil=>simp at h
 | cons a l ih=>
   cases k with
   |zero=>rfl
   | succ k=>
     have h2:k<l.length:=by simpa using h
     have e:=ih h2;rw[show(k+1)*2+1=k*2+1+1+1 by omega];show(aZ a.v::PV.int .i64 a.w::aY l).set (k*2+1+1+1) _=aZ a.v::PV.int .i64 a.w::aY (l.set k ⟨l[k].v,w⟩);rw[List.set_cons_succ,List.set_cons_succ,e]
theorem B8{x:Rw}:∀{i:Nat}{out:List Rw}(h:i<out.length),(∀j (hj:j<out.length),j<i->bl out[j].v x.v=true)->bl out[i].v x.v=false->out[i].v=x.v->dZ x out=out.set i ⟨out[i].v,out[i].w+x.w⟩
 | 0,y::l,_,_,h2,h3=>by
   rw[dZ,dw (by simpa using h2),AT (by simpa using h3)];rfl
 | i+1,y::l,h,h1,h2,h3=>by
   rw[dZ,AT (show bl y.v x.v=true from h1 0 Tw Ts),B8 (i:=i) (by simpa using h) (fun j hj hji=>h1 (j+1) (by simpa using hj) Ts) (by simpa using h2) (by simpa using h3)];rfl
theorem rM{x:Rw}:∀{i:Nat}{out:List Rw},i<=out.length->(∀j (hj:j<out.length),j<i->bl out[j].v x.v=true)->(∀(h:i<out.length),bl out[i].v x.v=false/\out[i].v≠x.v)->dZ x out=out.take i++x::out.drop i
 |0,[],_,_,_=>rfl
 | 0,y::l,_,_,h2=>by
   have:=h2 Tw;rw[dZ,dw (by simpa using this.1),dw (by simpa using this.2)];rfl
 | i+1,y::l,h,h1,h2=>by
   rw[dZ,AT (show bl y.v x.v=true from h1 0 Tw Ts),rM (i:=i) (by simpa using h) (fun j hj hji=>h1 (j+1) (by simpa using hj) Ts) (fun hi=>h2 (by simpa using hi))];rfl
theorem FD{x:Rw}{B X:Int}(hB:0<=B)(hx: -X<=x.w/\x.w<=X):∀{l:List Rw},(∀y∈l, -B<=y.w/\y.w<=B)->∀y∈dZ x l, -(B+X)<=y.w/\y.w<=B+X
 |[],_,y,hy=>by rw[dZ,OF]at hy;rw[hy];omega
 | z::l,h,y,hy=>by
   have hz:=h z Tw;have hl:∀y∈l, -B<=y.w/\y.w<=B:=fun y hy=>h y (by simp[hy])
   rw[dZ]at hy;split at hy
   ·rcases AS.1 hy with rfl|hy
    ·omega
    ·exact FD hB hx hl y hy
   ·split at hy
    ·rcases AS.1 hy with rfl|hy
     ·show-(B+X)<=z.w+x.w/\z.w+x.w<=B+X;omega
     ·have:=hl y hy;omega
    ·rcases AS.1 hy with rfl|hy
     ·omega
     ·have:=h y hy;omega
structure SoF(l:List Rw)(k:Nat)(out:List Rw):Prop where
 e:out=(l.take k).foldl (fun out x=>dZ x out) []
 v:∀y∈out,y.v.length<=1000
 w:∀y∈out, -((k:Int)*1000000)<=y.w/\y.w<=(k:Int)*1000000
 n:out.length<=k
theorem SoF.zero(l:List Rw):SoF l 0 []:=⟨O,fun _ h=>absurd h Tw,fun _ h=>absurd h Tw,BY _⟩
theorem SoF.succ{l out:List Rw}{k:Nat}(h:SoF l k out)(hk:k<l.length)(hv:l[k].v.length<=1000)(hw: -1000000<=l[k].w/\l[k].w<=1000000):SoF l (k+1) (dZ l[k] out):=by
 refine⟨?_,fun y hy=>?_,fun y hy=>?_,?_⟩
 ·rw[AI hk,Sk,<-h.e];rfl
 ·rcases mz hy with e|⟨z,hz,e⟩
  ·rw[e];exact hv
  ·rw[e];exact h.v z hz
 ·have:=FD (B:=(k:Int)*1000000) (X:=1000000) Ts hw h.w y hy;have e:((k+1:Nat):Int)*1000000=(k:Int)*1000000+1000000:=Ts;rw[e];exact this
 ·have:=r6 l[k] out;have:=h.n;omega
theorem zA(l:List Rw)(hl:l.length<=1000)(hv:∀x∈l,x.v.length<=1000)(hw:∀x∈l, -1000000<=x.w/\x.w<=1000000):FnP prog 171 [mf l] (· =mf (lY l)):=by
 refine FnP.of func171 O ntmps171 Tw fun m0 w0 F R0=>?_
 have hll:=bJ l;refine Z1 O O<|Z1 O O<|OT (OZ 3 0 2 41 O O)<|Z3 O O O O ?_;refine Gl O (st:=fun TC:Nat×List Rw=>mkS [(3,.gsl 0 2 TC.2.length),(10,.pv (mf l)),(11,pIi l.length),(12,pIi TC.1)] [(0,.gro 41 (aY TC.2))] 1)
  (I:=fun TC=>TC.1<=l.length/\SoF l TC.1 TC.2) (μ:=fun TC=>l.length-TC.1) (x0:=(0,[])) (OU (aS O) (aO O) O O) (⟨cd _,SoF.zero l⟩) ?_
 rintro⟨k,out⟩ ⟨hk,hs⟩;try simp only at hk hs ⊢
 refine Z1 O O ?_;refine Gp O O (fun hc13=>?_) (fun hc13=>?_)
 ·have hlt:k<l.length:=Ts;have hrow:=eK hlt;have hne:=gC hlt;have hxv:=hv _ (ar hlt);have hxw:=hw _ (ar hlt);have hsu:=hs.succ hlt hxv hxw;have hon:=hs.n;have hol:=bJ out;have hsw:=hs.w;have hsv:=hs.v;generalize l[k]=x at*;refine OR<|Z1 O O ?_;first|refine A3 O Tv ?_|refine A1 O ?_
  refine Y2 O O ?_;by_cases he:out=[]
  ·have hl0:out.length=0:=by rw[he];rfl
   refine OT (St.LM 3 (id:=0) (sz:=2) (ag (fun n=>V.gsl 0 2 n) hl0))<|Z1 O O ?_;refine Gl O (st:=fun x_1:Nat=>mkS [(3,.pv nS),(5,.ptr 1 0),(6,pIi x_1),(10,.pv (mf l)),(11,pIi l.length),(12,pIi k)] [(1,.mix 41 [.pv (aZ x.v),pIi x.w])] 2)
    (I:=fun x_1=>x_1<=out.length/\∀j (hj:j<out.length),j<x_1->bl out[j].v x.v=true) (μ:=fun x_1=>out.length-x_1) (x0:=(0)) (OU (aS O) (aO O) O O) (⟨cd _,fun j _ h=>absurd h Ts⟩) ?_
   rintro i ⟨hi,hall⟩;refine Ge O follows [0,1,2,3,4,5,6,7,8,9,10,11,12,13] Tt ?_;iterate 3 refine D1 O O ?_
   refine Ds 19 [] O O O (fun τ h=>XJ.cast (v':= .pv (.bool false)) (aG (Ee h 0 O O) (Ee h 1 O O) O) (ag (fun b=>V.pv (.bool b)) (Pt Ts))) O Tt ?_;iterate 10 refine D1 O O ?_
   refine⟨Tt,?_⟩;refine Gc O O (fun hc29=>absurd hc29 Tw) (fun hc29=>?_);refine Gx O<|Ge O follows [0,1,2,3,4,5,6,7,8,9,10,11,12,13] Tt ?_;iterate 3 refine D1 O O ?_
   refine Ds 35 [] O O O (fun τ h=>XJ.cast (v':= .pv (.bool false)) (aG (Ee h 0 O O) (Ee h 1 O O) O) (ag (fun b=>V.pv (.bool b)) (Pt Ts))) O Tt ?_;iterate 10 refine D1 O O ?_
   refine⟨Tt,?_⟩;refine Gc O O (fun hc45=>absurd hc45 Tw) (fun hc45=>?_);refine OR ?_;obtain rfl:i=0:=Ts;have hput:dZ x out=[x]:=by rw[he];rfl
   refine Ge O follows [0,1,2,3,4,5,6,7,8,9,10] Tt ?_;iterate 8 refine D1 O O ?_
   refine Ds 64 [_] O O O (fun τ h=>eY 3 Jr (Ee h 0 O O) (Eo h 0 O O) O (.inl ⟨_,(Ee h 1 O O)⟩) O Tw Ts (h.n 0 _ O)) O Tt<|Ds 65 [_] O O O (fun τ h=>wE 4 Jr (Ee h 0 O O) (.inr ⟨_,_,_,_,(Ee h 1 O O),(Eo h 0 O O),O⟩) O (fR [x]) Ts (h.n 0 _ O)) O Tt<|D1 O O ?_;refine⟨Tt,?_⟩;exact Z2 O O O<|⟨(k+1,dZ x out),OV [4] ⟨ag (fun n=>V.gsl 4 2 n) (show 1=(dZ x out).length by rw[hput];rfl),O,O,O,TB⟩ ⟨PG (b:=some (.gro 41 (ny x))) Tt (ag (fun c=>some (Ob.gro 41 c)) (show ny x=aY (dZ x out) by rw[hput];rfl)),TB⟩ O O Tu O,⟨Ts,hsu⟩,Tz⟩
  ·have hpos:0<out.length:=Qe.2 he;have hcne:aY out≠[]:=gC hpos;refine OT (St.JU 3 O O hpos hcne)<|Z1 O O ?_;refine Gl O (st:=fun x_1:Nat=>mkS [(3,.osl 0 2 out.length),(5,.ptr 1 0),(6,pIi x_1),(10,.pv (mf l)),(11,pIi l.length),(12,pIi k)] [(0,.cells 41 (aY out)),(1,.mix 41 [.pv (aZ x.v),pIi x.w])] 2)
    (I:=fun x_1=>x_1<=out.length/\∀j (hj:j<out.length),j<x_1->bl out[j].v x.v=true) (μ:=fun x_1=>out.length-x_1) (x0:=(0)) (OU (aS O) (aO O) O O) (⟨cd _,fun j _ h=>absurd h Ts⟩) ?_
   rintro i ⟨hi,hall⟩;by_cases hi2:i<out.length
   ·have hov:(aY out)[i*2+0]? =some (aZ out[i].v):=Bd hi2;have how:=Ml hi2;have hom:=ar hi2;have hob:=hsw _ hom;have hls:=AA out[i].v x.v (by have:=hsv _ hom;omega) Ts;have hts:=AN out[i].v x.v (by have:=hsv _ hom;omega) Ts;refine Ge O follows [0,1,2,3,4,5,6,7,8,9,10,11,12,13] Tt ?_;iterate 3 refine D1 O O ?_
    refine Ds 19 [] O O O (fun τ h=>XJ.cast (v':= .pv (.bool true)) (aG (Ee h 0 O O) (Ee h 1 O O) O) (ag (fun b=>V.pv (.bool b)) (Pn Ts))) O Tt ?_;iterate 5 refine D1 O O ?_
    refine Dg 25 [_] O O O O (fun τ h=>b8 ⟨_,underlying39,O⟩ (Ee h 0 O O) (Eo h 0 O O) hov) O Tt ?_;iterate 2 refine D1 O O ?_
    refine Dg 28 [] O O O O (fun τ h=>aa call268 hls (h.aL O)) O Tt<|D1 O O ?_;refine⟨Tt,?_⟩;refine Gc O O (fun hc29=>?_) (fun hc29=>?_)
    ·exact OR<|Z3 O O O O<|⟨(i+1),OU (aS O) (aO O) O O,⟨Ts,fun j hj hji=>if h:j<i then hall j hj h else(by obtain rfl:j=i:=Ts;exact hc29)⟩,Ts⟩
    ·refine Gx O<|Ge O follows [0,1,2,3,4,5,6,7,8,9,10,11,12,13] Tt ?_;iterate 3 refine D1 O O ?_
     refine Ds 35 [] O O O (fun τ h=>XJ.cast (v':= .pv (.bool true)) (aG (Ee h 0 O O) (Ee h 1 O O) O) (ag (fun b=>V.pv (.bool b)) (Pn Ts))) O Tt ?_;iterate 5 refine D1 O O ?_
     refine Dg 41 [_] O O O O (fun τ h=>b8 ⟨_,underlying39,O⟩ (Ee h 0 O O) (Eo h 0 O O) hov) O Tt ?_;iterate 2 refine D1 O O ?_
     refine Dg 44 [] O O O O (fun τ h=>aa call19 hts (h.aL O)) O Tt<|D1 O O ?_;refine⟨Tt,?_⟩;refine Gc O O (fun hc45=>?_) (fun hc45=>?_)
     ·have hins:dZ x out=out.set i ⟨out[i].v,out[i].w+x.w⟩:=B8 hi2 hall (by simpa using hc29) (Q8 hc45);refine Ge O follows [0,1,2,3,4,5,6,7,8,9,10] Tt ?_;iterate 4 refine D1 O O ?_
      refine Ds 50 [_] O O O (fun τ h=>b8 ⟨_,underlying3,O⟩ (Ee h 0 O O) (Eo h 0 O O) how) O Tt ?_;iterate 5 refine D1 O O ?_
      refine DL.step (d:=none) [_] O O O (fun τ h=>bK sz3 (Ee h 0 O O) (Eo h 0 O O) (Ee h 1 O O) O (by first|omega|(simp;omega))) O Tt ?_;refine⟨Tt,?_⟩;refine OT (St.EV 3 O O hpos (by intro e;have h:=ag List.length e;rw[PO]at h;exact hcne (PF h))) ?_;exact Gx O<|Z2 O O O<|⟨(k+1,dZ x out),OU ⟨ag (fun n=>V.gsl 0 2 n) (show out.length=(dZ x out).length by rw[hins,PO]),O,O,O,TB⟩ ⟨PG (b:=some (.gro 41 ((aY out).set (i*2+1) (.int .i64 (out[i].w+x.w))))) Tt (ag (fun c=>some (Ob.gro 41 c)) (by rw[hins];exact EW hi2 _)),TB⟩ O O,⟨Ts,hsu⟩,Tz⟩
     ·refine OR ?_;have hput:dZ x out=out.take i++x::out.drop i:=rM hi hall (fun h=>⟨by simpa using hc29,Rc hc45⟩);have hcut:=uc out i;have hdl:((aY out).drop (i*2)).length=(out.length-i)*2:=by rw[Qw];omega
      have hnews:((ny x).take (1*2)++(aY out).drop (i*2)).take ((1+(out.length-i))*2)=aY (x::out.drop i):=by
       rw[hcut.2,show(ny x).take (1*2)++aY (out.drop i)=aY (x::out.drop i)from O,aX];rw[bJ,Pd,Qw];omega
      have hnl:(((ny x).take (1*2)++(aY out).drop (i*2)).take ((1+(out.length-i))*2)).length=(1+(out.length-i))*2:=by rw[hnews,bJ,Pd,Qw];omega
      have hnf:∀c∈((ny x).take (1*2)++(aY out).drop (i*2)).take ((1+(out.length-i))*2),c.leaf=true:=by rw[hnews];exact fR _
      have hcs:(aY out).take (i*2)++((ny x).take (1*2)++(aY out).drop (i*2)).take ((1+(out.length-i))*2)=aY (dZ x out):=by rw[hnews,hcut.1,hput,mS]
      have hil:i+(1+(out.length-i))=(dZ x out).length:=by rw[hput,Ph,Pd,Pj,Qw];omega
      refine Ge O follows [0,1,2,3,4,5,6,7,8,9,10] Tt ?_;iterate 2 refine D1 O O ?_
      refine Ds 58 [_] O O O (fun τ h=>sC i underlying38 Ls (Ee h 0 O O) (Eo h 0 O O) (Ee h 1 O O) O hi) O Tt ?_;iterate 4 refine D1 O O ?_
      refine Ds 63 [_] O O O (fun τ h=>ux i underlying38 Ls (Ee h 0 O O) (Eo h 0 O O) (Ee h 1 O O) O hi) O Tt<|Ds 64 [_,_] O O O (fun τ h=>fS 3 Jr (Ee h 0 O O) (Eo h 0 O O) (BY _) (MS.tsl (Ee h 1 O O) (Eo h 1 O O) O hdl) hdl (fun c hc=>fR out c (Sd hc)) Ts (h.n 0 _ O)) O Tt<|Ds 65 [_,_] O O O (fun τ h=>fS 4 Jr (Ee h 0 O O) (Eo h 0 O O) Ts (nM.any (.inr ⟨_,_,_,_,(Ee h 1 O O),(Eo h 1 O O),O⟩)) hnl hnf Ts (h.n 0 _ O)) O Tt<|D1 O O ?_;refine⟨Tt,?_⟩;exact OT (St.EV 3 O O Ts (fun e=>gC (l:=dZ x out) (k:=0) Ts (hcs.symm.trans e)))<|Z2 O O O<|⟨(k+1,dZ x out),OV [4] ⟨ag (fun n=>V.gsl 4 2 n) hil,O,O,O,TB⟩ ⟨PG (b:=some (.gro 41 ((aY out).take (i*2)++((ny x).take (1*2)++(aY out).drop (i*2)).take ((1+(out.length-i))*2)))) Tt (ag (fun c=>some (Ob.gro 41 c)) hcs),TB⟩ O O Tu O,⟨Ts,hsu⟩,Tz⟩
   ·refine Ge O follows [0,1,2,3,4,5,6,7,8,9,10,11,12,13] Tt ?_;iterate 3 refine D1 O O ?_
    refine Ds 19 [] O O O (fun τ h=>XJ.cast (v':= .pv (.bool false)) (aG (Ee h 0 O O) (Ee h 1 O O) O) (ag (fun b=>V.pv (.bool b)) (Pt Ts))) O Tt ?_;iterate 10 refine D1 O O ?_
    refine⟨Tt,?_⟩;refine Gc O O (fun hc29=>absurd hc29 Tw) (fun hc29=>?_);refine Gx O<|Ge O follows [0,1,2,3,4,5,6,7,8,9,10,11,12,13] Tt ?_;iterate 3 refine D1 O O ?_
    refine Ds 35 [] O O O (fun τ h=>XJ.cast (v':= .pv (.bool false)) (aG (Ee h 0 O O) (Ee h 1 O O) O) (ag (fun b=>V.pv (.bool b)) (Pt Ts))) O Tt ?_;iterate 10 refine D1 O O ?_
    refine⟨Tt,?_⟩;refine Gc O O (fun hc45=>absurd hc45 Tw) (fun hc45=>?_);refine OR ?_;have hput:dZ x out=out.take i++x::out.drop i:=rM hi hall (fun h=>absurd h hi2);have hcut:=uc out i;have hdl:((aY out).drop (i*2)).length=(out.length-i)*2:=by rw[Qw];omega
    have hnews:((ny x).take (1*2)++(aY out).drop (i*2)).take ((1+(out.length-i))*2)=aY (x::out.drop i):=by
     rw[hcut.2,show(ny x).take (1*2)++aY (out.drop i)=aY (x::out.drop i)from O,aX];rw[bJ,Pd,Qw];omega
    have hnl:(((ny x).take (1*2)++(aY out).drop (i*2)).take ((1+(out.length-i))*2)).length=(1+(out.length-i))*2:=by rw[hnews,bJ,Pd,Qw];omega
    have hnf:∀c∈((ny x).take (1*2)++(aY out).drop (i*2)).take ((1+(out.length-i))*2),c.leaf=true:=by rw[hnews];exact fR _
    have hcs:(aY out).take (i*2)++((ny x).take (1*2)++(aY out).drop (i*2)).take ((1+(out.length-i))*2)=aY (dZ x out):=by rw[hnews,hcut.1,hput,mS]
    have hil:i+(1+(out.length-i))=(dZ x out).length:=by rw[hput,Ph,Pd,Pj,Qw];omega
    refine Ge O follows [0,1,2,3,4,5,6,7,8,9,10] Tt ?_;iterate 2 refine D1 O O ?_
    refine Ds 58 [_] O O O (fun τ h=>sC i underlying38 Ls (Ee h 0 O O) (Eo h 0 O O) (Ee h 1 O O) O hi) O Tt ?_;iterate 4 refine D1 O O ?_
    refine Ds 63 [_] O O O (fun τ h=>ux i underlying38 Ls (Ee h 0 O O) (Eo h 0 O O) (Ee h 1 O O) O hi) O Tt<|Ds 64 [_,_] O O O (fun τ h=>fS 3 Jr (Ee h 0 O O) (Eo h 0 O O) (BY _) (MS.tsl (Ee h 1 O O) (Eo h 1 O O) O hdl) hdl (fun c hc=>fR out c (Sd hc)) Ts (h.n 0 _ O)) O Tt<|Ds 65 [_,_] O O O (fun τ h=>fS 4 Jr (Ee h 0 O O) (Eo h 0 O O) Ts (nM.any (.inr ⟨_,_,_,_,(Ee h 1 O O),(Eo h 1 O O),O⟩)) hnl hnf Ts (h.n 0 _ O)) O Tt<|D1 O O ?_;refine⟨Tt,?_⟩;exact OT (St.EV 3 O O Ts (fun e=>gC (l:=dZ x out) (k:=0) Ts (hcs.symm.trans e)))<|Z2 O O O<|⟨(k+1,dZ x out),OV [4] ⟨ag (fun n=>V.gsl 4 2 n) hil,O,O,O,TB⟩ ⟨PG (b:=some (.gro 41 ((aY out).take (i*2)++((ny x).take (1*2)++(aY out).drop (i*2)).take ((1+(out.length-i))*2)))) Tt (ag (fun c=>some (Ob.gro 41 c)) hcs),TB⟩ O O Tu O,⟨Ts,hsu⟩,Tz⟩
 ·refine OT (OX 0 O O) ?_;have hon:=hs.n;have hol:=bJ out;have hfin:lY l=out.filter fun y=>y.w !=0:=by rw[lY,hs.e,show k=l.length by omega,SS]
  refine Gx O<|Z1 O O<|OT (OZ 7 1 2 41 O O)<|Z3 O O O O ?_;refine Gl O (st:=fun x_2:Nat×List Rw=>mkS [(7,.gsl 1 2 x_2.2.length),(67,.pv (mf out)),(68,pIi out.length),(69,pIi x_2.1)] [(1,.gro 41 (aY x_2.2))] 2)
   (I:=fun x_2=>(x_2.1<=out.length/\x_2.2.length<=x_2.1)/\x_2.2=(out.take x_2.1).filter fun y=>y.w !=0) (μ:=fun x_2=>out.length-x_2.1) (x0:=(0,[])) (OU (aS O) (aO O) O O) (⟨⟨cd _,BY _⟩,O⟩) ?_
  rintro⟨j,q⟩ ⟨hj,hq⟩;try simp only at hj hq ⊢
  refine Z1 O O ?_;refine Gp O O (fun hc70=>?_) (fun hc70=>?_)
  ·have hlj:j<out.length:=Ts;have hrj:=eK hlj;have hnj:=gC hlj;have hql:=bJ q;have htk:out.take (j+1)=out.take j++[out[j]]:=AI hlj;generalize out[j]=y at*;refine OR<|Z1 O O ?_;first|refine A3 O Tv ?_|refine A1 O ?_
   refine Y2 O O<|Z3 O O O O ?_;refine Gc O O (fun hc75=>?_) (fun hc75=>?_)
   ·refine Gr O ?_;iterate 5 refine A1 O ?_
    exact Z2 O O O<|⟨(j+1,q++[y]),OV [0,4] ⟨ag (fun n=>V.gsl 4 2 n) (show q.length+1=(q++[y]).length by simp),O,O,O,TB⟩ ⟨PG (b:=some (.gro 41 (aY q++ny y))) Tt (ag (fun c=>some (Ob.gro 41 c)) (rQ q y)),TB⟩ O O Tu O,⟨⟨Ts,by simp only[Ph,PI];omega⟩,by rw[htk,Sw,<-hq];simp only[RE,List.filter_nil];rw[AT hc75]⟩,Tz⟩
   ·exact OR<|Z2 O O O<|⟨(j+1,q),OU (aS O) (aO O) O O,⟨⟨Ts,Tz⟩,by rw[htk,Sw,<-hq];simp only[RE,List.filter_nil];rw[dw (by rw[hc75];decide),PZ]⟩,Tz⟩
  ·exact OT (OX 1 O O)<|Gx O<|Z2 O O O<|Gt O<|⟨_,_,O,O,by rw[hfin,show out.filter (fun y=>y.w !=0)=q by rw[hq,aX Ts]];rfl⟩
end
end Go.Proofs.YtoplpepiabedhaaGreatDoor
