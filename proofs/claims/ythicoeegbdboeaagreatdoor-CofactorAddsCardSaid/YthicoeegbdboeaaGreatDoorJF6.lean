/- Lemmas. No condition. -/
import Derived.Test.YthicoeegbdboeaaGreatDoorJF5
set_option maxRecDepth 100000
set_option maxHeartbeats 4000000
open Go.RowKit Go.Proofs.Tryz
open Option renaming some→WB,none→WC
open Bool renaming true→YK,false→YL
namespace Go.Proofs.YthicoeegbdboeaaGreatDoor
variable{i k n a b j c v id sz:Nat}{x rest:BitVec 64}{G:List (BitVec 64)}{α:Type}{y:Operand}{p:Nat->Nat->Bool}{q l P Q R:cP}{xs:Array Operand}{f:FuncId}{cs news:na}{S:ZN}{adj:Nat->ew}{I rem:List Bool}{T:TypeId}
section
open Mk
abbrev ZO:=BitVec 64
abbrev Zz:=List ZO
abbrev cx(x:ZO):PV:= .int .u64 (x.toNat:Int)
theorem uZ(i:Int):IntKind.u64.wrap i=i%18446744073709551616:=by unfold IntKind.wrap;simp[IntKind.signed,IntKind.bits]
theorem AQ(x:ZO):IntKind.u64.wrap (x.toNat:Int)=x.toNat:=by rw[uZ];have:=x.isLt;omega
theorem ofInt64(x:ZO):BitVec.ofInt IntKind.u64.bits (x.toNat:Int)=x:=by show BitVec.ofInt 64 _=x;rw[BitVec.ofInt_natCast,BitVec.ofNat_toNat,BitVec.setWidth_eq]
section
variable {C:Ctx}{n:Nat}{σ:St}{dst:YX}{ty t t':TypeId}{pos:String}{after:Y4}{gd:Option (Nat×Bool)}{x y:Operand}{X Y:ZO}
theorem vh(r:σ.ev n x= .pv (cx X))(s:σ.ev n y= .pv (cx Y)):XJ C n ⟨dst,.binOp .and t x y t',ty,pos,after,gd⟩ σ ⟨.pv (cx (X&&&Y)),[],[]⟩:=
 aY r s (by simp only[wm,ofInt64];exact ah (λi=>WB (PV.int .u64 i)) (AQ _))
theorem sO(r:σ.ev n x= .pv (cx X))(s:σ.ev n y= .pv (cx Y)):XJ C n ⟨dst,.binOp .or t x y t',ty,pos,after,gd⟩ σ ⟨.pv (cx (X|||Y)),[],[]⟩:=
 aY r s (by simp only[wm,ofInt64];exact ah (λi=>WB (PV.int .u64 i)) (AQ _))
theorem dN(r:σ.ev n x= .pv (cx X))(s:σ.ev n y= .pv (cx Y)):XJ C n ⟨dst,.binOp .andNot t x y t',ty,pos,after,gd⟩ σ ⟨.pv (cx (X&&& ~~~Y)),[],[]⟩:=
 aY r s (by simp only[wm,ofInt64];exact ah (λi=>WB (PV.int .u64 i)) (AQ _))
theorem Jq(r:σ.ev n x= .pv (cx X))(s:σ.ev n y= .pv (cx Y)):XJ C n ⟨dst,.binOp .sub t x y t',ty,pos,after,gd⟩ σ ⟨.pv (cx (X-Y)),[],[]⟩:=
 aY r s (by
  simp only[wm,uZ];refine ah (λi=>WB (PV.int .u64 i)) ?_;have:=X.isLt;have:=Y.isLt;rw[BitVec.toNat_sub];omega)
theorem w6(X Y:ZO):((X.toNat:Int)==(Y.toNat:Int))=decide (X=Y):=by rw[V0];simp only[Xk,VJ];exact⟨λh=>BitVec.eq_of_toNat_eq Zi,λh=>by rw[h]⟩
theorem Sp(r:σ.ev n x= .pv (cx X))(s:σ.ev n y= .pv (cx Y)):XJ C n ⟨dst,.binOp .eql t x y t',ty,pos,after,gd⟩ σ ⟨.pv (.bool (decide (X=Y))),[],[]⟩:=
 aY r s (by simp only[wm,w6])
theorem wh(r:σ.ev n x= .pv (cx X))(s:σ.ev n y= .pv (cx Y)):XJ C n ⟨dst,.binOp .neq t x y t',ty,pos,after,gd⟩ σ ⟨.pv (.bool (decide (X≠Y))),[],[]⟩:=
 aY r s (by simp only[wm,bne,w6,decide_not])
theorem RR(a:Nat){i:Int}{k':IntKind}(r:σ.ev n x= .pv (cx 1#64))(s:σ.ev n y= .pv (.int k' i))(u:i=(a:Int))(z:a<64):XJ C n ⟨dst,.binOp .shl t x y t',ty,pos,after,gd⟩ σ ⟨.pv (cx (BitVec.twoPow 64 a)),[],[]⟩:=by subst u;refine XJ.cast (Ub r s Zi)<|ah (λi=>V.pv (PV.int .u64 i)) ?_;show IntKind.u64.wrap (1*2^(min (Int.toNat (a:Int)) 64))=_;rw[show min (Int.toNat (a:Int)) 64=a by omega,BitVec.toNat_twoPow,uZ];simp
theorem GM(a:Nat){i:Int}{k':IntKind}(r:σ.ev n x= .pv (cx X))(s:σ.ev n y= .pv (.int k' i))(u:i=(a:Int))(z:a<64):XJ C n ⟨dst,.binOp .shr t x y t',ty,pos,after,gd⟩ σ ⟨.pv (cx (X>>>a)),[],[]⟩:=by subst u;refine XJ.cast (UJ r s Zi)<|ah (λi=>V.pv (PV.int .u64 i)) ?_;show Int.fdiv (X.toNat:Int) (2^(min (Int.toNat (a:Int)) 64))=_;rw[show min (Int.toNat (a:Int)) 64=a by omega,BitVec.toNat_ushiftRight,Nat.shiftRight_eq_div_pow];have e:(2:Int)^a=((2^a:Nat):Int):=Zm;rw[e,Int.fdiv_eq_ediv_of_nonneg _ (Int.natCast_nonneg _)];simp
end
theorem Tg(X:ZO)(a:Nat):decide ((X>>>a)&&&1#64=1#64)=X.getLsbD a:=by
 rw[V0,VJ];constructor
 .intro h;have:=ah (λz:ZO=>z.getLsbD 0) h;simpa using this
 grind
theorem jI(a:Nat)(r:a<64):ZK prog 114 [ZU a] (· =cx (BitVec.twoPow 64 a)):=by
 refine ZC func114 O ntmps114 λ_ _ _ _=>?_
 exact Z1 O<|Z1 O<|Rs O (RR a O O O r)<|A1 O<|YR O O
theorem rA(X:ZO)(a:Nat)(r:a<64):ZK prog 112 [cx X,ZU a] (· = .bool (X.getLsbD a)):=by
 refine ZC func112 O ntmps112 λ_ _ _ _=>?_
 exact Z1 O<|Z2 O<|Rs O (GM a O O O r)<|Rs O (vh (Y:=1#64) O O)<|Rs O (Sp (Y:=1#64) O O)<|A1 O<|YR O<|ah PV.bool (Tg X a)
abbrev si(G:Zz):na:=G.map cx
abbrev cS(G:Zz):PV:= .sl WC G.length (si G)
theorem kA{l:Zz}(h:k<l.length):(si l)[k*1]? =WB (cx l[k]):=by simp[h]
theorem mA{l:Zz}(h:k<l.length):si l≠[]:=by intro e;simp at e;subst e;simp at h
def l6(n:Nat):ZO:=BitVec.twoPow 64 n-1#64
theorem kY(s:n<64)(i:Nat):(l6 n).getLsbD i=decide (i<n):=by
 have e:l6 n=BitVec.ofNat 64 (2^n-1):=by
  apply BitVec.eq_of_toNat_eq;unfold l6;have r:2^n<2^64:=Nat.pow_lt_pow_right Zk s;have u:0<2^n:=Nat.pow_pos Zk;rw[BitVec.toNat_sub,BitVec.toNat_twoPow,BitVec.toNat_ofNat,X5 r];simp only[BitVec.toNat_ofNat];omega
 rw[e,BitVec.getLsbD_ofNat,Nat.testBit_two_pow_sub_one];by_cases h:i<n
 .simp[h];omega
 simp[h]
theorem xw(G:Zz)(r:G.length<64):ZK prog 110 [cS G] (· =cx (l6 G.length)):=by
 refine ZC func110 O ntmps110 λ_ _ _ _=>?_
 exact Z1 O<|Z2 O<|Rs O (aa call114 (jI G.length r) O)<|Rs O (Jq (Y:=1#64) O O)<|A1 O<|YR O O
end
theorem Ay(f:Nat->Bool):∀w:Nat,∃x:BitVec w,∀i,i<w->x.getLsbD i=f i
 |0=>⟨0#0,λi h=>absurd h (W9 _)⟩
 | w+1=>by
   obtain⟨x,hx⟩:=Ay f w;refine⟨BitVec.cons (f w) x,λi hi=>?_⟩;rw[BitVec.getLsbD_cons];by_cases e:i=w
   .rw[IT e,e]
   rw[AS e,hx i Zi]
noncomputable def bitsOf(f:Nat->Bool):BitVec 64:=Classical.choose (Ay f 64)
theorem kq(f:Nat->Bool)(h:i<64):(bitsOf f).getLsbD i=f i:=Classical.choose_spec (Ay f 64) i h
theorem ft(h:x.getLsbD i=YK):i<64:=by grind
inductive Reach (G:List (BitVec 64)) (rest:BitVec 64) (a:Nat):ew
 |refl:Reach G rest a a
 |step {b c:Nat}:Reach G rest a b->(G.getD b 0#64).getLsbD c=YK->rest.getLsbD c=YK->Reach G rest a c
noncomputable def ZQ(G:List (BitVec 64))(rest:BitVec 64)(a:Nat):BitVec 64:=bitsOf λb=>@decide (Reach G rest a b) (Classical.propDecidable _)
theorem iX(r:b<64):(ZQ G rest a).getLsbD b=YK↔Reach G rest a b:=by grind[ZQ,kq]
theorem gl(h:(ZQ G rest a).getLsbD b=YK):Reach G rest a b:=(iX (ft h)).1 h
structure CInv(G:List (BitVec 64))(rest:BitVec 64)(a:Nat)(out next:BitVec 64):Prop where
 h1:out.getLsbD a=YK
 h2:∀b,out.getLsbD b=YK->Reach G rest a b
 h3:∀b,next.getLsbD b=YK->out.getLsbD b=YK
 h4:∀b c,out.getLsbD b=YK->next.getLsbD b=YL->(G.getD b 0#64).getLsbD c=YK->rest.getLsbD c=YK->out.getLsbD c=YK
theorem CInv.first(r:a<64):CInv G rest a (BitVec.twoPow 64 a) (BitVec.twoPow 64 a):=by
 refine⟨by rw[YF];simp[r],λb hb=>?_,λ_ h=>h,λb c h1 h2=>by rw[h1]at h2;cases h2⟩;rw[YF]at hb;have:a=b:=by simpa[r]using hb
 subst this;exact .refl
theorem CInv.last{out:BitVec 64}(h:CInv G rest a out 0#64):out=ZQ G rest a:=by
 apply XZ;intro i hi;rw[V0,iX hi];refine⟨h.h2 i,λr=>?_⟩;clear hi;induction r with
 |refl=>exact h.h1
 |step _ h1 h2 ih=>exact h.h4 _ _ ih Zm h1 h2
theorem CInv.next{out next near:BitVec 64}(h:CInv G rest a out next)
  (B:∀c,near.getLsbD c=(List.range G.length).any λb=>next.getLsbD b&&(G.getD b 0#64).getLsbD c):
  CInv G rest a (out|||(near&&&rest&&& ~~~out)) (near&&&rest&&& ~~~out):=by
 have r:∀c,near.getLsbD c=YK↔∃b,next.getLsbD b=YK/\(G.getD b 0#64).getLsbD c=YK:=by grind
 have u:∀c,(near&&&rest&&& ~~~out).getLsbD c=YK↔near.getLsbD c=YK/\rest.getLsbD c=YK/\out.getLsbD c=YL:=by grind
 have s:∀c,(out|||(near&&&rest&&& ~~~out)).getLsbD c=YK↔out.getLsbD c=YK\/(near&&&rest&&& ~~~out).getLsbD c=YK:=by grind
 refine⟨(s _).2 (.inl h.h1),λb z=>?_,λb z=>(s b).2 (.inr z),λb c h1 h2 h3 h4=>?_⟩
 .rcases(s b).1 z with h1|h1
  .exact h.h2 b h1
  obtain⟨g1,g2,_⟩:=(u b).1 h1;obtain⟨d,g3,g4⟩:=(r b).1 g1;exact .step (h.h2 d (h.h3 d g3)) g4 g2
 rw[s];by_cases hc:out.getLsbD c=YK
 .exact .inl hc
 right
 have z:out.getLsbD b=YK:=by grind
 rw[u];refine⟨?_,h4,by simpa using hc⟩;rw[r];by_cases hnb:next.getLsbD b=YK
 .exact⟨b,hnb,h3⟩
 exact absurd (h.h4 b c z (by simpa using hnb) h3 h4) hc
def IA(x:BitVec 64):Nat:=(List.range 64).countP λi=> !x.getLsbD i
theorem rC{p q:α->Bool}:∀{l:List α},(∀a∈l,p a=YK->q a=YK)->(∃a∈l,p a=YL/\q a=YK)->l.countP p<l.countP q
 |[],_,⟨a,h,_⟩=>by cases h
 | x::l,h,⟨a,ha,h1,h2⟩=>by
   have hm:l.countP p<=l.countP q:=List.countP_mono_left λy hy=>h y (VX _ hy)
   rw[List.countP_cons,List.countP_cons];by_cases e:a=x
   .subst e;rw[h1,h2];simp;omega
   have hr:=rC (l:=l) (λy hy=>h y (VX _ hy)) ⟨a,(By.1 ha).resolve_left e,h1,h2⟩;have:=h x (Xj ..);by_cases ep:p x=YK
   .rw[ep,this ep];simp;omega
   grind
theorem Oi{y:BitVec 64}(h:∀i,x.getLsbD i=YK->y.getLsbD i=YK)(s:x.getLsbD j=YL)(r:y.getLsbD j=YK):IA y<IA x:=by
 refine rC (λa _ ha=>?_) ⟨j,Wi.2 (ft r),by rw[r];rfl,by rw[s];rfl⟩;cases hx:x.getLsbD a with
 |false=>rfl
 |true=>rw[h a hx]at ha;cases ha
theorem PQ(h:x≠0#64):∃i,x.getLsbD i=YK:=by
 apply V5;intro hn;apply h;apply XZ;intro i _;rw[BitVec.getLsbD_zero];cases e:x.getLsbD i with
 |false=>rfl
 |true=>exact absurd ⟨i,e⟩ hn
def Ow(out next:BitVec 64):Nat:=2*IA out+(if next=0#64 then 0 else 1)
theorem Rx{out next:BitVec 64}(s:next≠0#64):Ow (out|||(x&&&rest&&& ~~~out)) (x&&&rest&&& ~~~out)<Ow out next:=by
 unfold Ow;rw[AS s];by_cases e:(x&&&rest&&& ~~~out)=0#64
 .rw[IT e,e];have:out|||0#64=out:=Zm;rw[this];omega
 rw[AS e];obtain⟨i,hi⟩:=PQ e;have r:out.getLsbD i=YL:=by
  rw[BitVec.getLsbD_and,BitVec.getLsbD_not]at hi;simp at hi;exact hi.2.2
 have:=Oi (x:=out) (y:=out|||(x&&&rest&&& ~~~out)) (λj hj=>by rw[Yt,hj];rfl) r (by rw[Yt,hi,YY]);omega
noncomputable def ZL(G:List (BitVec 64))(rest:BitVec 64):Nat->List (BitVec 64)×BitVec 64
 |0=>([],rest)
 |k+1=>if(ZL G rest k).2.getLsbD k=YK then((ZL G rest k).1++[ZQ G (ZL G rest k).2 k],(ZL G rest k).2&&& ~~~ZQ G (ZL G rest k).2 k)else ZL G rest k
structure IsG(S:ZN)(G:List (BitVec 64)):Prop where
 len:G.length=S.aj.length
 bit:∀a,a<G.length->∀b:Nat,(G.getD a 0#64).getLsbD b=(decide (a≠b)&&gF S a b)
section
open Mk
theorem getD_eq{l:List α}(h:k<l.length)(d:α):l.getD k d=l[k]:=by simp[List.getD,h]
def Jx(n:Nat)(G:Zz)(p:Nat->Nat->Bool):Prop:=G.length=n/\∀a,a<n->∀b:Nat,(G.getD a 0#64).getLsbD b=p a b
theorem Jx.zero(n:Nat):Jx n (List.replicate n 0#64) (λ_ _=>YL):=⟨Zm,λa ha b=>by simp[List.getD,ha]⟩
theorem Jx.congr{G:Zz}{q:Nat->Nat->Bool}(h:Jx n G p)(e:∀a,a<n->∀b,p a b=q a b):Jx n G q:=⟨h.1,λa ha b=>by rw[h.2 a ha b,e a ha b]⟩
theorem Jx.or{G:Zz}(h:Jx n G p)(r:i<n)(x:ZO):Jx n (G.set i (G[i]'(by rw[h.1];exact r)|||x)) (λa b=>p a b||(decide (a=i)&&x.getLsbD b)):=by
 refine⟨by simp[h.1],λa ha b=>?_⟩;have hl:i<G.length:=by rw[h.1];exact r
 by_cases e:a=i
 .subst e;have:=h.2 a ha b;rw[getD_eq hl]at this;simp[List.getD,hl,Yt,this]
 have:=h.2 a ha b;simp only[List.getD]at this ⊢;rw[Xs (λs=>e s.symm),this];simp[e]
def vd(rs:List (er×cP))(a b:Nat):Bool:=rs.any λr=>decide ((a:Int)∈r.2)&&decide ((b:Int)∈r.2)
theorem mw{q:Nat}(r:q<l.length)(s:l[q]=(i:Int))(a:Nat):(a:Int)∈l.take (q+1)↔(a:Int)∈l.take q\/a=i:=by grind[bP,VH]
theorem Pb{rs:List (er×cP)}{q:Nat}{all:ZO}(u:q<l.length)(z:l[q]=(i:Int))(r:∀b:Nat,all.getLsbD b=decide ((b:Int)∈l)):
  ((decide (a≠b)&&(vd rs a b||(decide ((a:Int)∈l.take q)&&decide ((b:Int)∈l))))||(decide (a=i)&&(all&&& ~~~(BitVec.twoPow 64 i)).getLsbD b))=
  (decide (a≠b)&&(vd rs a b||(decide ((a:Int)∈l.take (q+1))&&decide ((b:Int)∈l)))):=by
 have s:decide ((a:Int)∈l.take (q+1))=(decide ((a:Int)∈l.take q)||decide (a=i)):=by
  rw[V0,Wr,Ws,Ws,Ws,mw u z]
 rw[s,BitVec.getLsbD_and,BitVec.getLsbD_not,YF,r];by_cases hb:(b:Int)∈l
 .grind
 simp[hb]
theorem Ff{rs:List (er×cP)}(r:k<rs.length):vd (rs.take (k+1)) a b=(vd (rs.take k) a b||(decide ((a:Int)∈rs[k].2)&&decide ((b:Int)∈rs[k].2))):=by unfold vd;rw[bP r];simp only[List.any_append,List.any_cons,List.any_nil,Xu]
theorem nP(S:ZN)(hS:SB S)(W:Valid S):ZK prog 109 [fp S] (λv=>∃G,v=cS G/\IsG S G):=by
 refine ZC func109 O ntmps109 λ_ _ _ _=>?_
 have hb:=W.n2;have Z:=W.r2;refine Z2 O<|Gr O<|Ar 5 O<|Z4 O<|Gz O (st:=λZq:Nat×Zz=>([(3,WC),(16,WC),(17,WC),(18,WB (ZI Zq.1))],[(1,WB (.cells 211 (si Zq.2)))])) 2
  (I:=λZq=>Zq.1<=S.aU.length/\Jx S.aj.length Zq.2 (λa b=>decide (a≠b)&&vd (S.aU.take Zq.1) a b)) (μ:=λZq=>S.aU.length-Zq.1) (x0:=(0,List.replicate S.aj.length 0#64)) (Vn (aS O) ⟨ah (λc=>WB (Ob.cells 211 c)) ((ct (.int .u64 0) (S.aj.length*1)).trans Zm),Zp⟩ O O) (⟨sh _,(Jx.zero _).congr (λa _ b=>by simp[vd])⟩) ?_
 rintro⟨k,G⟩ ⟨hk,hG⟩;try simp only at hk hG ⊢
 refine Z1 O<|Gp O (λH=>?_) (λH=>?_)
 .have hlt:k<S.aU.length:=Zi;have D:=eT hlt;have ab:=iq hlt;have ac:=hS.rl _ (ak hlt);have u:=W.rng _ (ak hlt);refine Vl<|Z1 O<|Rs O (aD ⟨_,underlying58,O⟩ O1 O D O)<|Y2 O<|Z1 O<|Z4 O<|Gz O (st:=λr:Nat×ZO=>([(3,WC),(5,WC),(6,WB (.pv (cx r.2))),(16,WC),(17,WC),(18,WC),(23,WC),(24,WC),(25,WB (ZI r.1))],[(1,WC),(2,WC)])) 3
   (I:=λr=>r.1<=S.aU[k].2.length/\∀b:Nat,r.2.getLsbD b=decide ((b:Int)∈S.aU[k].2.take r.1)) (μ:=λr=>S.aU[k].2.length-r.1) (x0:=(0,0#64)) (YS O) (⟨sh _,λb=>by simp⟩) ?_
  rintro⟨q,all⟩ ⟨hq,hall⟩;try simp only at hq hall ⊢
  refine Z1 O<|Gp O (λL=>?_) (λL=>?_)
  .have hql:q<S.aU[k].2.length:=Zi;have hv:=bo hql;have E:=aU hql;have z:=u _ (ak hql);obtain⟨i,hi⟩:=VG z.1;have B:ZK prog 114 [ZU S.aU[k].2[q]] (· =cx (BitVec.twoPow 64 i)):=by rw[hi];exact jI i Zi
   refine Vl<|Z1 O<|A2 O Zl ?_;exact A1 O<|Z2 O<|Rs O (aa call114 B O)<|Rs O (sO O O)<|A1 O<|Z2 O<|⟨(q+1,all|||BitVec.twoPow 64 i),YS O,⟨Zo,λb=>by simp only;rw[Yt,hall,YF,V0,Wr,Ws,Ws,mw hql hi,aJ,Ws,Ws];exact or_congr Iff.rfl ⟨λh=>h.2.symm,λh=>⟨Zi,h.symm⟩⟩⟩,Zo⟩
  rw[aG Zi]at hall;refine Gx O<|Z4 O<|Gz O (st:=λs:Nat×Zz=>([(3,WC),(6,WC),(16,WC),(17,WC),(18,WC),(35,WC),(36,WC),(37,WB (ZI s.1))],[(1,WB (.cells 211 (si s.2)))])) 3
   (I:=λs=>s.1<=S.aU[k].2.length/\Jx S.aj.length s.2 (λa b=>decide (a≠b)&&(vd (S.aU.take k) a b||(decide ((a:Int)∈S.aU[k].2.take s.1)&&decide ((b:Int)∈S.aU[k].2))))) (μ:=λs=>S.aU[k].2.length-s.1) (x0:=(0,G)) (YS O) (⟨sh _,hG.congr (λa _ b=>by simp)⟩) ?_
  rintro⟨q2,G2⟩ ⟨hq2,hG2⟩;try simp only at hq2 hG2 ⊢
  refine Z1 O<|Gp O (λM=>?_) (λM=>?_)
  .have hql:q2<S.aU[k].2.length:=Zi;have hv:=bo hql;have E:=aU hql;have z:=u _ (ak hql);obtain⟨i,hi⟩:=VG z.1;have U:i<G2.length:=by rw[hG2.1];omega
   have hgl:=hG2.1;have V:=kA U;have B:ZK prog 114 [ZU S.aU[k].2[q2]] (· =cx (BitVec.twoPow 64 i)):=by rw[hi];exact jI i Zi
   refine Vl<|Z1 O<|A2 O Zl ?_;refine A1 O<|VC 11 O<|Dr 2 O<|YQ [_] O (λτ h=>ag i underlying205 N8 (Ee h 0 O) (Eo h 0 O) (Ee h 1 O) hi Zi)<|YQ [_] O (λτ h=>aX ⟨_,underlying211,O⟩ (Ee h 0 O) (Eo h 0 O) V)<|Dr 2 O<|YM O (λτ h=>aa call114 B (h.aE O))<|YM O (λτ h=>dN (Ee h 0 O) (Ee h 1 O))<|YM O (λτ h=>sO (Ee h 0 O) (Ee h 1 O))<|YQ [_] O (λτ h=>ag i underlying205 N8 (Ee h 0 O) (Eo h 0 O) (Ee h 1 O) hi Zi)<|DL.step (d:=WC) [_] O O O (λτ h=>ba N8 (Ee h 0 O) (Eo h 0 O) (Ee h 1 O) O Zn) O Zj ⟨Zj,Z2 O<|⟨(q2+1,G2.set i (G2[i]|||(all&&& ~~~(BitVec.twoPow 64 i)))),Vn (aS O) ⟨by show WB (Ob.cells _ _)=_;simp[Wp],Zp⟩ O O,⟨Zo,(hG2.or Zi _).congr (λa _ b=>Pb hql hi hall)⟩,Zo⟩⟩
  have hG3:=hG2.congr (q:=λa b=>decide (a≠b)&&vd (S.aU.take (k+1)) a b) (λa _ b=>by rw[show S.aU[k].2.take q2=S.aU[k].2 from aG Zi,Ff hlt]);exact Gx O<|Z2 O<|⟨(k+1,G2),YS O,⟨Zo,hG3⟩,Zo⟩
 rw[aG Zi]at hG;exact Gx O<|Vm (Vq 1 O O)<|Z2 O<|Vm (St.rE [2])<|YR O ⟨G,by show PV.sl WC S.aj.length (si G)=_;rw[<-hG.1],hG.1,λa ha b=>by rw[hG.2 a (by rw[<-hG.1];exact ha) b];rfl⟩
theorem mZ{G:Zz}{next:ZO}{near:ZO}(h:near.getLsbD c=(List.range k).any λb=>next.getLsbD b&&(G.getD b 0#64).getLsbD c)(r:k<G.length):
  (next.getLsbD k=YK->(near|||G[k]).getLsbD c=(List.range (k+1)).any λb=>next.getLsbD b&&(G.getD b 0#64).getLsbD c)/\
  (next.getLsbD k=YL->near.getLsbD c=(List.range (k+1)).any λb=>next.getLsbD b&&(G.getD b 0#64).getLsbD c):=by
 rw[XC,List.any_append,<-h,Yt];simp only[List.any_cons,List.any_nil,Xu,getD_eq r];exact⟨λe=>by rw[e];simp,λe=>by rw[e];simp⟩
theorem xx(G:Zz)(H:G.length<=12)(rest:ZO)(a:Nat)(B:a<64):ZK prog 113 [cS G,cx rest,ZU a] (· =cx (ZQ G rest a)):=by
 refine ZC func113 O ntmps113 λ_ _ _ _=>?_
 refine Z1 O<|Z1 O<|Rs O (aa call114 (jI a B) O)<|A1 O<|Z2 O<|Gz O (st:=λZq:ZO×ZO=>([(0,WC),(1,WC),(7,WB (.pv (cx Zq.1))),(8,WB (.pv (cx Zq.2)))],[])) 0
  (I:=λZq=>CInv G rest a Zq.1 Zq.2) (μ:=λZq=>Ow Zq.1 Zq.2) (x0:=(BitVec.twoPow 64 a,BitVec.twoPow 64 a)) (Vn (aS O) trivial O O) (CInv.first B) ?_
 rintro⟨out,next⟩ hI;try simp only at hI ⊢
 refine Z1 O<|Rs O (wh (Y:=0#64) O O)<|Gp O (λs=>?_) (λs=>?_)
 .refine Vl<|Z1 O<|Z3 O ?_;refine Gz O (st:=λr:Nat×ZO=>([(0,WC),(1,WC),(7,WC),(8,WC),(9,WB (.pv (cx r.2))),(17,WC),(18,WC),(19,WB (ZI r.1))],[])) 0
   (I:=λr=>r.1<=G.length/\∀c,r.2.getLsbD c=(List.range r.1).any λb=>next.getLsbD b&&(G.getD b 0#64).getLsbD c) (μ:=λr=>G.length-r.1) (x0:=(0,0#64)) (Vn (aS O) trivial O O) (⟨sh _,λc=>by simp⟩) ?_
  rintro⟨k,near⟩ ⟨hk,hnear⟩;try simp only at hk hnear ⊢
  refine Z1 O<|Gp O (λz=>?_) (λz=>?_)
  .have hlt:k<G.length:=Zi;have E:=kA hlt;have D:=mA hlt;refine Vl<|Z2 O ?_;first|refine A2 O Zl ?_|refine A1 O ?_
   refine Y2 O<|Z2 O<|Rs O (aa call112 (rA next k Zi) O)<|Gc O (λu=>?_) (λu=>?_)
   .exact Z2 O<|Rs O (sO O O)<|A1 O<|Z2 O<|⟨(k+1,near|||G[k]),Vn (aS O) trivial O O,⟨Zo,λc=>(mZ (hnear c) hlt).1 u⟩,Zo⟩
   exact Vl<|Z2 O<|⟨(k+1,near),Vn (aS O) trivial O O,⟨Zo,λc=>(mZ (hnear c) hlt).2 u⟩,Zo⟩
  have hkG:k=G.length:=Zi;rw[hkG]at hnear;exact Gx O<|Z2 O<|Rs O (vh O O)<|A1 O<|Rs O (dN O O)<|A1 O<|Z2 O<|Rs O (sO O O)<|A1 O<|⟨(out|||(near&&&rest&&& ~~~out),near&&&rest&&& ~~~out),Vn (aS O) trivial O O,hI.next hnear,Rx s⟩
 have hz:next=0#64:=V5 s;subst hz;exact Gx O<|Z2 O<|YR O<|ah (λx=>cx x) hI.last
theorem mE(G:Zz)(rest:ZO):∀k,(ZL G rest k).1.length<=k
 |0=>BY _
 | k+1=>by
   have:=mE G rest k;simp only[ZL];split
   .simp;omega
   omega
theorem H5(L:Zz)(x:ZO):si (L++[x])=si L++[cx x]:=Zm
theorem tO(G:Zz)(D:G.length<=12)(rest:ZO):ZK prog 169 [cS G,cx rest] (· =cS (ZL G rest G.length).1):=by
 refine ZC func169 O ntmps169 λ_ _ _ _=>?_
 refine Z1 O<|Z1 O<|Vm (Vs 5 0 1 211 O O)<|Z3 O<|Gl O (st:=λZq:Nat×Zz×ZO=>ZT [(0,.pv (cS G)),(1,.pv (cx Zq.2.2)),(5,.bz 0 1 Zq.2.1.length),(9,ZI G.length),(10,ZI Zq.1)] [(0,.bD 211 (si Zq.2.1))] 1)
  (I:=λZq=>Zq.1<=G.length/\ZL G rest Zq.1=(Zq.2.1,Zq.2.2)) (μ:=λZq=>G.length-Zq.1) (x0:=(0,[],rest)) (YS O) (⟨sh _,O⟩) ?_
 rintro⟨k,L,R⟩ ⟨hk,hc⟩;try simp only at hk hc ⊢
 refine Z1 O<|Gp O (λs=>?_) (λs=>?_)
 .have hlt:k<G.length:=Zi;have z:(si L).length=L.length*1:=Zm;have B:L.length<=k:=by have:=mE G rest k;rw[hc]at this;exact this
  have u:ZL G rest (k+1)=if R.getLsbD k=YK then(L++[ZQ G R k],R&&& ~~~ZQ G R k)else(L,R):=by simp only[ZL,hc]
  refine Vl<|Z2 O<|Z2 O<|Rs O (aa call112 (rA R k Zi) O)<|Gc O (λr=>?_) (λr=>?_)
  .rw[IT r]at u;exact Z3 O<|Rs O (aa call113 (xx G D R k Zi) O)<|A1 O<|Gr O<|Ar 5 O<|Z2 O<|Rs O (dN O O)<|A1 O<|Z2 O<|⟨(k+1,L++[ZQ G R k],R&&& ~~~ZQ G R k),Vo [2] ⟨O,O,by simp;rfl,O,O,Zp⟩ ⟨ah (λc=>WB (Ob.bD 211 c)) (H5 L _).symm,Zp⟩ O O Zk O,⟨Zo,u⟩,Zo⟩
  rw[AS (by rw[r];decide)]at u;exact Vl<|Z2 O<|⟨(k+1,L,R),YS O,⟨Zo,u⟩,Zo⟩
 exact Gx O<|Vm (Vq 0 O O)<|Z2 O<|YR O<|by rw[show G.length=k by omega,hc];simp;rfl
end
section
open Mk
section
variable {C:Ctx}{n:Nat}{σ τ:St}{ops:YZ}{dst:YX}{ty:TypeId}{ts:Array TypeId}{pos:String}{after:Y4}{gd:Option (Nat×Bool)}
theorem Agr.jX{s:OS}{rd:ee}(h:Agr n ops ⟨dst,.call { callee:= .value y,args:=xs,argTypes:=ts },ty,pos,after,gd⟩ σ τ s rd):xs.toList.map (τ.ev n)=xs.toList.map (σ.ev n):=by apply V9;intro x hx;obtain⟨i,hi⟩:=WO hx;exact h.e (i+1) x (by simpa[Op.operands,Call.operands,XA]using hi)
theorem fi{fs cs:nR}{args:nR}{os:Zy}{k':Nat}{r:V}{X:Nat->va}{vs:nR}(ids:ee)(base:Nat)(hc:bS C.P f)(H:ZS C.P f ids.length k' args os (λv ob'=>v=r/\ob'=X))(L:σ.ev n y= .fn (.func f) fs cs)(z:xs.toList.map (σ.ev n)=vs)(s:fs++vs++cs=V.renL (eI ids base) args)
  (M:V.allL (okR ids.length 0) args=YK) (hos:os.map (·.1)=(List.range ids.length).map (big+ ·)) (B:os.all (λp=>p.2.all (okR ids.length 0))=YK) (u:gL σ (eI ids base) os)
  (D:ids.Nodup) (E:(nwO base k').all σ.av=YK):
  XJ C n ⟨dst,.call { callee:= .value y,args:=xs,argTypes:=ts },ty,pos,after,gd⟩ σ ⟨r.ren (eI ids base),wrO ids base k' X,nwO base k'⟩:=
 Jo ids base hc L (by rw[z];exact s) M hos B u D E H (by rintro _ _ ⟨rfl,rfl⟩;rfl)
end
def dh(q:cP)(W:ZO->Int->cP->cP)(par:Int)(P:cP)(c:ZO):cP:=
 match q.find? (λa=>c.getLsbD a.toNat)with
 |some a=>W (c&&& ~~~(BitVec.twoPow 64 a.toNat)) a (P.set a.toNat par)
 |none=>P
noncomputable def placeF(G:Zz)(q:cP):Nat->ZO->Int->cP->cP
 |0,_,_,P=>P
 |f+1,rest,par,P=>(ZL G rest G.length).1.foldl (dh q (placeF G q f) par) P
abbrev plF(G:Zz)(q:cP):V:= .fn (.func 262) [] [.pv (.rp [cS G] 0),.pv (.rp [al q] 0),.ptr big 0,.ptr 9001 0]
abbrev plA(G:Zz)(q:cP)(rest:ZO)(par:Int):nR:=[.pv (cx rest),ZI par,.pv (.rp [cS G] 0),.pv (.rp [al q] 0),.ptr big 0,.ptr 9001 0]
abbrev plO(G:Zz)(q:cP)(P:cP):Zy:=[(big,.mix 32 [.bJ 9002 1 G.length]),(9001,.mix 344 [plF G q]),(9002,Ft P)]
theorem J5{p:Int->Bool}(s:k<q.length)(r:q.take k |>.all (λa=> !p a))(h:p q[k]=YK):q.find? p=WB q[k]:=by
 rw[List.find?_eq_some_iff_append];refine⟨h,q.take k,q.drop (k+1),?_,λa ha=>IN.1 r a ha⟩
 conv=>lhs;rw[<-WV k q]
 rw[V1 s]
theorem uy(G:Zz)(hG:G.length<=12)(q:cP)(hq:∀a∈q,0<=a/\a<G.length)(hql:q.length<=1000)(W:ZO->Int->cP->cP)(U:∀r p P,(W r p P).length=P.length)(rest:ZO)(par:Int)
  (V:∀c∈(ZL G rest G.length).1,∀(a:Nat)(P:cP),a<G.length->c.getLsbD a=YK->P.length=G.length->ZS prog 262 3 0 (plA G q (c&&& ~~~(BitVec.twoPow 64 a)) a) (plO G q P) (λr ob'=>r= .bS []/\ob'=au (plO G q (W (c&&& ~~~(BitVec.twoPow 64 a)) a P))))
  (P:cP) (hP:P.length=G.length):
  ZS prog 262 3 0 (plA G q rest par) (plO G q P) (λr ob'=>r= .bS []/\ob'=au (plO G q ((ZL G rest G.length).1.foldl (dh q W par) P))):=by
 refine ZE func262 O ntmps262 λ_ _ _ _=>?_
 have am:=mE G rest G.length;have af:∀(Q:cP) c,(dh q W par Q c).length=Q.length:=by
  intro Q c;unfold dh;split
  .rw[U];simp
  .rfl
 refine Gr O ?_;first|refine A1 O ?_|refine A2 O Zl ?_
 refine A1 O<|Rs O (aa call169 (tO G hG rest) O)<|Y2 O<|Gz O (st:=λZq:Nat×cP=>([(1,WC),(3,WC),(4,WC),(5,WC),(14,WC),(15,WC),(16,WB (ZI Zq.1))],[(big,WC),(9001,WC),(9002,WB (Ft Zq.2))])) 0
  (I:=λZq=>Zq.1<=(ZL G rest G.length).1.length/\Zq.2.length=P.length/\Zq.2=((ZL G rest G.length).1.take Zq.1).foldl (dh q W par) P) (μ:=λZq=>(ZL G rest G.length).1.length-Zq.1) (x0:=(0,P)) (YS O) (⟨sh _,O,O⟩) ?_
 rintro⟨k,Q⟩ ⟨hk,hQl,hQ⟩;try simp only at hk hQl hQ ⊢
 refine Z1 O<|Gp O (λL=>?_) (λL=>?_)
 .have hlt:k<(ZL G rest G.length).1.length:=Zi;have hv:=kA hlt;have an:=mA hlt;have Z:=ak hlt;have D:((ZL G rest G.length).1.take (k+1)).foldl (dh q W par) P=dh q W par Q (ZL G rest G.length).1[k]:=by rw[bP hlt,XN,<-hQ];rfl
  generalize hcd:(ZL G rest G.length).1[k]=c at*;refine Vl<|Z1 O ?_;first|refine A2 O Zl ?_|refine A1 O ?_
  refine A1 O<|Gr O ?_;first|refine A1 O ?_|refine A2 O Zl ?_
  refine Y2 O<|Gz O (st:=λu:Nat=>([(1,WC),(3,WC),(4,WC),(5,WC),(9,WC),(14,WC),(15,WC),(16,WC),(20,WC),(21,WC),(22,WB (ZI u))],[(big,WC),(9001,WC),(9002,WC)])) 0
   (I:=λu=>u<=q.length/\(q.take u).all (λa=> !c.getLsbD a.toNat)=YK) (μ:=λu=>q.length-u) (x0:=0) (YS O) (⟨sh _,O⟩) ?_
  rintro j ⟨hj,hno⟩;refine Z1 O<|Gp O (λM=>?_) (λM=>?_)
  .have hjl:j<q.length:=Zi;have ao:=bo hjl;have ai:=aU hjl;have ab:=hq _ (ak hjl);obtain⟨a,ha⟩:=VG ab.1;have z:q[j].toNat=a:=Zi;have E:ZK prog 112 [cx c,ZU q[j]] (· = .bool (c.getLsbD a)):=by rw[ha];exact rA c a Zi
   have ac:ZK prog 114 [ZU q[j]] (· =cx (BitVec.twoPow 64 a)):=by rw[ha];exact jI a Zi
   refine Vl<|Z1 O ?_;first|refine A2 O Zl ?_|refine A1 O ?_
   refine A1 O<|Z2 O<|Rs O (aa call112 E O)<|Gc O (λs=>?_) (λs=>?_)
   .have hgo:=V c Z a (Q.set a par) Zi s Zn;have B:dh q W par Q c=W (c&&& ~~~(BitVec.twoPow 64 a)) a (Q.set a par):=by unfold dh;rw[J5 hjl hno (by rw[z];exact s)];simp only[z,ha,Wh]
    have ad:(W (c&&& ~~~(BitVec.twoPow 64 a)) a (Q.set a par)).length=P.length:=by rw[U];simp;omega
    have H:aI (Q.set a par)=(aI Q).set (a*1) (.int .i64 par):=by simp[Wp]
    refine Z1 O ?_;first|refine A1 O ?_|refine A2 O Zl ?_
    refine Y2 O<|Rs O (ag a aal sz3 O O O ha Zi)<|RL.step (d:=WC) O O (ba sz3 O O O O Zn)<|VC 7 O ?_;first|refine D1 O O ?_|refine D2 O O Zl ?_
    refine Dr 2 O<|YM O (λτ h=>aa call114 ac (h.aE O))<|YM O (λτ h=>dN (Ee h 0 O) (Ee h 1 O))<|D1 O O<|YQ [big,9001,9002] O (λτ h=>fi [big,9001,9002] 0 call262 hgo (Ee h 0 O) (h.jX.trans O) (by rw[<-ha];rfl) O O O ⟨(Eo h 0 O),(Eo h 1 O),((h.o 2 _ O).trans (ah (λc=>WB (Ob.cells 3 c)) H.symm)),Zp⟩ Zk O) ⟨Zj,Gx O<|Z2 O<|⟨(k+1,W (c&&& ~~~(BitVec.twoPow 64 a)) a (Q.set a par)),YS O,⟨Zo,ad,by simp only;rw[D,B]⟩,Zo⟩⟩
   exact Vl<|Z2 O<|⟨(j+1),YS O,⟨Zi,vu hjl hno (by rw[z,s];rfl)⟩,Zi⟩
  have hnone:q.find? (λa=>c.getLsbD a.toNat)=WC:=by rw[aG Zi]at hno;rw[List.find?_eq_none];intro x hx;have:=IN.1 hno x hx;simpa using this
  have B:dh q W par Q c=Q:=by unfold dh;rw[hnone]
  exact Gx O<|Z2 O<|⟨(k+1,Q),YS O,⟨Zo,hQl,by simp only;rw[D,B]⟩,Zo⟩
 exact Gx O<|⟨[],plO G q ((ZL G rest G.length).1.foldl (dh q W par) P),[],Vn trivial (by rw[aG Zi]at hQ;rw[<-hQ];exact⟨Zj,Zj,Zj,Zp⟩) O O,O,O,O,O,O⟩
theorem se{G:Zz}{R:ZO}(r:R.getLsbD a=YK)(h:(ZQ G R a).getLsbD i=YK):R.getLsbD i=YK:=by
 cases gl h with
 |refl=>exact r
 |step _ _ h=>exact h
theorem q8(G:Zz)(rest:ZO):∀k,(∀i,(ZL G rest k).2.getLsbD i=YK->rest.getLsbD i=YK)/\∀c∈(ZL G rest k).1,∀i,c.getLsbD i=YK->rest.getLsbD i=YK
 |0=>⟨λ_ h=>h,λc hc=>by simp[ZL]at hc⟩
 | k+1=>by
   obtain⟨h1,h2⟩:=q8 G rest k;simp only[ZL];split
   .rename_i hk;refine⟨λi hi=>?_,λc hc i hi=>?_⟩
    .grind
    grind[We.1,VH.1,se]
   exact⟨h1,h2⟩
def dV(x:ZO):Nat:=(List.range 64).countP λi=>x.getLsbD i
theorem x7{x y:ZO}(h:∀i,x.getLsbD i=YK->y.getLsbD i=YK)(s:x.getLsbD j=YL)(r:y.getLsbD j=YK):dV x<dV y:=
 rC (λa _ ha=>h a ha) ⟨j,Wi.2 (ft r),s,r⟩
theorem c7(c:ZO)(a i:Nat):(c&&& ~~~(BitVec.twoPow 64 a)).getLsbD i=(c.getLsbD i&&decide (a≠i)):=by grind
theorem CO{G:Zz}{rest c:ZO}(hc:c∈(ZL G rest k).1)(r:c.getLsbD a=YK):dV (c&&& ~~~(BitVec.twoPow 64 a))<dV rest:=by
 have hs:=(q8 G rest k).2 c hc;refine x7 (λi hi=>?_) (j:=a) ?_ (hs a r)
 .grind
 rw[c7];simp
theorem vF{x:ZO}(h:dV x=0)(i:Nat):x.getLsbD i=YL:=by
 cases e:x.getLsbD i with
 |false=>rfl
 | true=>
   have:=List.countP_eq_zero.1 h i (Wi.2 (ft e));exact absurd e this
theorem uO(G:Zz){rest:ZO}(h:∀i,rest.getLsbD i=YL):∀k,ZL G rest k=([],rest)
 |0=>rfl
 |k+1=>by simp only[ZL,uO G h k,h k];simp
theorem ni(G:Zz)(q:cP):∀(f:Nat)(rest:ZO)(par:Int)(P:cP),(placeF G q f rest par P).length=P.length
 |0,_,_,_=>rfl
 | f+1,rest,par,P=>by
   simp only[placeF];generalize (ZL G rest G.length).1=cs;induction cs generalizing P with
   |nil=>rfl
   | cons c cs ih=>
     rw[W5,ih];unfold dh;split
     .rw[ni G q f];simp
     .rfl
theorem zj(G:Zz)(u:G.length<=12)(q:cP)(z:∀a∈q,0<=a/\a<G.length)(s:q.length<=1000):∀(f:Nat)(rest:ZO)(par:Int)(P:cP),dV rest<=f->P.length=G.length->
  ZS prog 262 3 0 (plA G q rest par) (plO G q P) (λr ob'=>r= .bS []/\ob'=au (plO G q (placeF G q f rest par P)))
 | 0,rest,par,P,hf,hP=>by
   have hz:=uO G (vF (Nat.le_zero.1 hf)) G.length;have:=uy G u q z s (λ_ _ P=>P) (λ_ _ _=>rfl) rest par (by rw[hz];intro c hc;cases hc) P hP;rw[hz]at this;exact this
 |f+1,rest,par,P,hf,hP=>uy G u q z s (placeF G q f) (ni G q f) rest par (λc hc a P' ha hca hP'=>zj G u q z s f _ _ P' (by have:=CO hc hca;omega) hP') P hP
theorem pI(x:ZO):dV x<=64:=OF List.countP_le_length Zm
noncomputable def ofL(G:Zz)(q:cP):cP:=placeF G q 64 (l6 G.length) (-1) (List.replicate G.length 0)
theorem Lt(G:Zz)(q:cP):(ofL G q).length=G.length:=by unfold ofL;rw[ni];simp
theorem HH(S:ZN)(hS:SB S)(B:Valid S)(q:cP)(D:∀a∈q,0<=a/\a<S.aj.length)(u:q.length<=1000):ZK prog 220 [fp S,al q] (λv=>∃G,IsG S G/\v=l7 (ofL G q)):=by refine ZK.fg2 (ZD func220 O ntmps220 λ_ _ _ _=>?_);have z:=B.n2;refine Z3 O<|Z1 O<|RL.call O (cT call109 (nP S hS B) O ?_);rintro _ ⟨G,rfl,hG⟩;have r:=hG.len;refine Y2 O<|Gr O<|Ar 6 O<|Z1 O<|Vm (St.gR 1 O O)<|Vm (St.gR 3 O O) ?_;have s:=zj G Zi q (by rw[r];exact D) u 64 (l6 G.length) (-1) (List.replicate G.length 0) (pI _) Zm;refine Z2 O<|VC 4 O<|Dr 2 O<|YM O (λτ h=>aa call110 (xw G Zi) (h.aE O))<|YQ [5,6,4] O (λτ h=>fi [5,6,4] 7 call262 s (Ee h 0 O) (h.jX.trans O) O O O O ⟨(Eo h 0 O),(Eo h 1 O),((h.o 2 _ O).trans (ah (λc=>WB (Ob.cells 3 c)) ((ct (.int .i64 0) (G.length*1)).trans Zm))),Zp⟩ Zk O) ⟨Zj,Z2 O<|YR O ⟨⟨ar ⟨_,aaH,O⟩ MQ O O O,Zp⟩,G,hG,by show PV.agg [.sl WC G.length (aI (ofL G q))]=_;rw[l7,al,Lt]⟩⟩
end
section
open Mk
noncomputable def gr(S:ZN):Zz:=(List.range S.aj.length).map λa=>bitsOf λb=>decide (a≠b)&&gF S a b
theorem lj(S:ZN):(gr S).length=S.aj.length:=by simp[gr]
theorem oF(s:Valid S){a b:Int}(h:gF S a b=YK):(0<=a/\a<S.aj.length)/\(0<=b/\b<S.aj.length):=by unfold gF at h;obtain⟨r,hr,h2⟩:=Wv.1 h;simp at h2;exact⟨s.rng r hr a h2.1,s.rng r hr b h2.2⟩
theorem yV(r:Valid S)(s:a<S.aj.length)(b:Nat):((gr S).getD a 0#64).getLsbD b=(decide (a≠b)&&gF S a b):=by
 have e:(gr S).getD a 0#64=bitsOf λb=>decide (a≠b)&&gF S a b:=by simp[gr,List.getD,s]
 rw[e];by_cases hb:b<64
 .rw[kq _ hb]
 rw[BitVec.getLsbD_of_ge _ _ Zi];cases hl:gF S a b with
 |false=>simp
 |true=>have:=(oF r hl).2;have:=r.n2;omega
theorem Ek(u:Valid S){G:Zz}(h:IsG S G):G=gr S:=by
 apply WU
 .rw[h.len,lj]
 .intro a h1 h2;apply XZ;intro b _;have r:=h.bit a h1 b;have s:=yV u (a:=a) (by rw[<-h.len];exact h1) b;rw[getD_eq h1]at r;rw[getD_eq h2]at s;rw[r,s]
noncomputable def ordL(S:ZN)(q:cP):cP:=ofL (gr S) q
theorem SU(S:ZN)(hS:SB S)(s:Valid S)(q:cP)(u:∀a∈q,0<=a/\a<S.aj.length)(r:q.length<=1000):ZK prog 220 [fp S,al q] (· =l7 (ordL S q)):=
 (HH S hS s q u r).mono λv ⟨G,hG,e⟩=>by rw[e,Ek s hG];rfl
def Lj(q:cP):Nat->Bool
 |0=>YL
 |k+1=>Lj q k||decide (q.getD k 0∈q.take k)
theorem UL(r:k<n)(h:decide (q.getD k 0∈q.take k)=YK):Lj q n=YK:=by
 induction n with
 |zero=>omega
 | succ n ih=>
   simp only[Lj,Wr];by_cases e:k=n
   .subst e;exact .inr h
   exact .inl (ih Zi)
def ofE(S:ZN)(q:cP):Int:=
 if bF S≠0 then bF S
 else if q.length≠S.aj.length then 5
 else if(q.any λa=>decide (a<0)||decide (a>=(q.length:Int)))=YK then 2
 else if Lj q q.length=YK then 9 else 0
noncomputable def ofV(S:ZN)(q:cP):PV:= .bS [l7 (if ofE S q=0 then ordL S q else []),.int .i64 (ofE S q)]
theorem vt{e:Int}(h:ofE S q=e)(r:e≠0):ofV S q= .bS [l7 [],.int .i64 e]:=by unfold ofV;rw[h,AS r]
theorem Nx(D:bF S=0)(u:q.Perm (upZ S.aj.length)):ofE S q=0:=by
 have hl:q.length=S.aj.length:=by rw[u.length_eq,bt]
 have z:∀a∈q,0<=a/\a<S.aj.length:=by grind[upZ,VS.1,Wi.1]
 have r:q.Nodup:=u.nodup_iff.2 (by unfold upZ;exact List.Pairwise.map _ (λa b h e=>h (Int.ofNat.inj e)) List.nodup_range);have B:∀k,k<=q.length->Lj q k=YL:=by
  intro k;induction k with
  |zero=>intro _;rfl
  | succ k ih=>
    intro hk;simp only[Lj,ih Zi,Bool.false_or,Xf,getD_eq (show k<q.length by omega)];intro hm;obtain⟨i,hi,e⟩:=XQ.1 hm;have s:i<k:=Zi;have:=Wz.1 r i k Zi Zi s;exact this e
 unfold ofE;rw[AS (λh=>h D),AS (λh=>h hl),AS,AS (by rw[B _ (BY _)];decide)];rw[Wv];rintro⟨a,ha,h⟩;have:=z a ha;simp at h;omega
end
section
theorem dK[DecidableEq α]{l r:List α}(hl:l.Nodup)(s:r.Nodup)(h:∀a,a∈l↔a∈r):l.Perm r:=by grind
theorem bR{x:Int}:x∈upZ n↔∃a:Nat,a<n/\x=(a:Int):=by grind[upZ,Wi.1,Wi.2]
theorem cX(n:Nat):(upZ n).Nodup:=by grind[upZ,Int.ofNat.inj,List.nodup_range]
theorem Vi(n:Nat):(upZ n).Pairwise (· < ·):=by grind[upZ,List.pairwise_lt_range]
structure UpOk(P:cP):Prop where
 rng:∀p∈P, -1<=p/\p<P.length
 up:∀v,v<P.length->(abv P (v:Int)).isSome=YK
theorem DP:∀{k:Nat}{x:Int}{l:cP},upF P k x=WB l->upF P (k+1) x=WB l
 |0,x,l,h=>by grind[upF]
 | k+1,x,l,h=>by
   simp only[upF]at h;unfold upF;split at h
   .rename_i hx;rw[IT hx];exact h
   rename_i hx;rw[AS hx];cases e:upF P k (P.getD x.toNat 0)with
   |none=>rw[e]at h;cases h
   | some l'=>
     rw[e]at h;rw[DP e];exact h
section
variable {P:cP}(hP:UpOk P)
include hP
theorem zn(r:v<P.length):P[v]= -1\/∃a:Nat,a<P.length/\P[v]=(a:Int):=by
 have:=hP.rng _ (ak r);by_cases h:P[v]= -1
 .exact .inl h
 obtain⟨a,ha⟩:=VG (show 0<=P[v] by omega);exact .inr ⟨a,Zi,ha⟩
omit hP in
theorem C7(r:v<P.length):abv P v=upF P P.length P[v]:=by simp[abv,List.getD,r]
omit hP in
theorem mF(r:v<P.length)(h:P[v]= -1):bU P v=[]:=by unfold bU;rw[C7 r,h,su Zk];rfl
theorem mK(r:v<P.length)(s:a<P.length)(h:P[v]=(a:Int)):bU P v=(a:Int)::bU P a:=by
 have hs:=hP.up v r;have e:=C7 r;rw[h]at e;obtain⟨k,hk⟩:∃k,P.length=k+1:=⟨P.length-1,Zi⟩;rw[hk,B3 s]at e;cases e2:upF P k P[a]with
 |none=>rw[e,e2]at hs;cases hs
 | some l=>
   have u:abv P a=WB l:=by rw[C7 s,hk];exact DP e2
   unfold bU;rw[e,e2,u];rfl
theorem xD{motive:ew}(root:∀v (r:v<P.length),P[v]= -1->bU P v=[]->motive v)
  (step:∀v (r:v<P.length) a (_:a<P.length),P[v]=(a:Int)->bU P v=(a:Int)::bU P a->motive a->motive v):∀v,v<P.length->motive v:=by
 have s:∀m v,v<P.length->(bU P v).length<=m->motive v:=by
  intro m;induction m with
  | zero=>
    intro v r hl;rcases zn hP r with h|⟨a,ha,h⟩
    .exact root v r h (mF r h)
    grind[mK]
  | succ m ih=>
    intro v r hl;rcases zn hP r with h|⟨a,ha,h⟩
    .exact root v r h (mF r h)
    grind[mK,step]
 exact λv r=>s _ v r (BY _)
theorem mj:∀v,v<P.length->∀x∈bU P v,∃a:Nat,a<P.length/\x=(a:Int)/\∃pre,bU P v=pre++(a:Int)::bU P a:=by
 refine xD hP (λv hv h e x hx=>?_) (λv hv a ha h e ih x hx=>?_)
 .rw[e]at hx;cases hx
 rw[e]at hx ⊢;rcases By.1 hx with rfl|hx
 .exact⟨a,ha,O,[],O⟩
 grind
theorem Qt(r:v<P.length)(h:(a:Int)∈bU P v):a<P.length/\(bU P a).length<(bU P v).length:=by grind[mj]
theorem ns(r:v<P.length):(v:Int)∉bU P v:=λh=>Nat.lt_irrefl _ (Qt hP r h).2
theorem fL(hc:c<P.length)(r:(a:Int)∈bU P b)(s:(b:Int)∈bU P c):(a:Int)∈bU P c:=by grind[mj,List.mem_append_right,VX]
theorem ku:∀v,v<P.length->((v:Int)::bU P v).Nodup:=by refine xD hP (λv hv h e=>by rw[e];simp) (λv hv a ha h e ih=>?_);rw[WW];refine⟨ns hP hv,?_⟩;rw[e];exact ih
theorem qD:∀v,v<P.length->((v:Int)::bU P v).map (λa=>P.getD a.toNat 0)=bU P v++[-1]:=by
 refine xD hP (λv hv h e=>?_) (λv hv a ha h e ih=>?_)
 .rw[e];simp[List.getD,hv,h]
 grind
theorem mC(r:v<P.length){x:Int}(h:x∈(v:Int)::bU P v):∃a:Nat,a<P.length/\x=(a:Int):=by grind[By.1,mj]
theorem yJ(r:v<P.length):(bU P v++[-1]).Nodup:=by rw[XL];refine⟨(WW.1 (ku hP v r)).2,Zm,?_⟩;intro a ha b hb;rw[VH.1 hb];obtain⟨c,_,rfl⟩:=mC hP r (VX _ ha);omega
omit hP in
theorem LF(p:α->Bool):∀l:List α,(l.map λa=>if p a=YK then 1 else 0).sum=l.countP p
 |[]=>rfl
 |a::l=>by rw[ed,Xt,LF p l,List.countP_cons];omega
theorem ph(r:v<P.length):((upZ P.length).filter λa=>decide (a∈(v:Int)::bU P v)).Perm ((v:Int)::bU P v):=by grind[dK,WN,cX,ku,bR,mC]
theorem oN:∀(f:Nat)(v:Int),(∀a (s:a<P.length),P[a]=v->P.length+1<=(bU P a).length+f)->∀x,x<P.length->(lg P f v).count (x:Int)=if v∈bU P x++[-1]then 1 else 0:=by
 intro f;induction f with
 | zero=>
   intro v hf x hx;rw[AS]
   .rfl
   .intro hm;rw[<-qD hP x hx]at hm;obtain⟨a,s,e⟩:=VS.1 hm;obtain⟨b,hb,rfl⟩:=mC hP hx s;have B:=hf b hb (by simpa[List.getD,hb]using e);have:=vW P (b:Int);omega
 | succ f ih=>
   intro v hf x hx;have r:∀a∈upZ P.length,(List.count (x:Int)∘λa=>if P.getD a.toNat 0=v then a::lg P f a else []) a=if(decide (P.getD a.toNat 0=v)&&decide (a∈(x:Int)::bU P x))=YK then 1 else 0:=by
    intro a s;obtain⟨b,hb,rfl⟩:=bR.1 s;have u:P.getD (b:Int).toNat 0=P[b]:=by simp[List.getD,hb]
    simp only[Function.comp,u];by_cases e:P[b]=v
    .rw[IT e,List.count_cons,ih (b:Int) ?_ x hx]
     .simp only[e,YJ,Yb,VJ,By,We,VH];by_cases z:b=x
      .grind[ns]
      grind
     grind[mK]
    rw[AS e];simp[e]
   unfold lg;rw[List.count_flatMap,V9 r,LF,<-List.countP_filter,(ph hP hx).countP_eq];have z:List.countP (λa=>decide (P.getD a.toNat 0=v)) ((x:Int)::bU P x)=List.count v (((x:Int)::bU P x).map λa=>P.getD a.toNat 0):=by
    rw[List.count,List.countP_map];refine List.countP_congr λa _=>?_
    simp
   rw[z,qD hP x hx,(yJ hP hx).count]
omit hP in
theorem qb:∀(f:Nat)(v:Int),∀x∈lg P f v,∃a:Nat,a<P.length/\x=(a:Int)
 |0,v,x,hx=>by simp[lg]at hx
 | f+1,v,x,hx=>by
   simp only[lg]at hx;obtain⟨a,ha,hx⟩:=V6.1 hx;split at hx
   .rcases By.1 hx with rfl|hx
    .exact bR.1 ha
    exact qb f a x hx
   cases hx
def dS(P:cP):cP:=lg P (P.length+1) (-1)
theorem fV:(dS P).Perm (upZ P.length):=by
 rw[List.perm_iff_count];intro x;rw[(cX _).count];by_cases h:x∈upZ P.length
 .rw[IT h];obtain⟨a,ha,rfl⟩:=bR.1 h;unfold dS;rw[oN hP _ _ (λb hb e=>by omega) a ha,IT Zm]
 rw[AS h,List.count_eq_zero];exact λr=>h (bR.2 (qb _ _ x r))
end
theorem N5{x:Int}:x∈Ks l↔x∈l:=(ou l).mem_iff
theorem sU{v x:Int}:x∈iY S P v↔x∈bU P v/\∃b∈j0 P v,gF S x b=YK:=by unfold iY TZ;rw[N5,VU,Wv]
theorem fc{v b:Int}:b∈j0 P v↔(∃a:Nat,a<P.length/\b=(a:Int))/\(b=v\/v∈bU P b):=by grind[j0,upZ,hiB,bR]
theorem BX{r:er×cP}(s:r∈S.aU){a b:Int}(u:a∈r.2)(z:b∈r.2):gF S a b=YK:=by unfold gF;rw[Wv];exact⟨r,s,by simp[u,z]⟩
theorem oB(h:fy P l=YK){a b:Int}(r:a∈l)(s:b∈l):a=b\/a∈bU P b\/b∈bU P a:=by grind[fy,IN.1,hiB]
theorem yw(u:UpOk P)(z:∀a∈l,0<=a/\a<P.length)(hl:fy P l=YK):∀(k:cP)(done:cP)(h:Int),(∀a∈k,a∈l)->(∀a∈done,a∈l)->h∈l->(∀a∈done,a=h\/a∈bU P h)->
  k.foldl (vw P) h∈l/\∀a,a∈done\/a∈k->a=k.foldl (vw P) h\/a∈bU P (k.foldl (vw P) h)
 |[],done,h,_,_,hh,hd=>⟨hh,λa ha=>hd a (ha.resolve_right Zm)⟩
 | x::k,done,h,hk,hdn,hh,hd=>by
   have hx:=hk x (Xj ..);have s:∀{a:Int},a∈l->∃n:Nat,n<P.length/\a=(n:Int):=fun{a} ha=>by grind[VG]
   have r:vw P h x∈l/\∀a∈done++[x],a=vw P h x\/a∈bU P (vw P h x):=by
    unfold vw;by_cases e:hiB P h x=YK
    .rw[IT e];have B:h∈bU P x:=by simpa[hiB]using e
     refine⟨hx,λa ha=>?_⟩;rcases We.1 ha with had|ha
     .grind[fL]
     left;exact VH.1 ha
    grind[bU,hiB,We.1,VH.1,oB]
   have:=yw u z hl k (done++[x]) (vw P h x) (λa ha=>hk a (VX _ ha)) (λa ha=>by grind) r.1 r.2;rw[W5];refine⟨this.1,λa ha=>this.2 a ?_⟩;rcases ha with ha|ha
   .exact .inl (Y5 _ ha)
   grind
theorem vR(s:UpOk P)(r:l≠[])(u:∀a∈l,0<=a/\a<P.length)(hl:fy P l=YK):jT P l∈l/\∀a∈l,a=jT P l\/a∈bU P (jT P l):=by
 cases l with
 |nil=>exact absurd O r
 | cons x l=>
   have:=yw s u hl (x::l) [] x (λa h=>h) Zm (Xj ..) Zm;unfold jT;exact⟨this.1,λa ha=>this.2 a (.inr ha)⟩
theorem OrdOk.jv(h:OrdOk S P):UpOk P:=⟨h.rng,h.up⟩
theorem pW(h:OrdOk S P){r:er×cP}(u:r∈S.aU):jT P r.2∈r.2/\∀a∈r.2,a=jT P r.2\/a∈iY S P (jT P r.2):=by
 have s:∀a∈r.2,0<=a/\a<P.length:=by rw[h.len];exact h.val.rng r u
 obtain⟨h1,h2⟩:=vR h.jv (h.val.ne r u) s (h.rt r u);refine⟨h1,λa ha=>?_⟩;rcases h2 a ha with h3|h3
 .exact .inl h3
 right
 rw[sU];refine⟨h3,jT P r.2,?_,BX u ha h1⟩;rw[fc];obtain⟨n,hn⟩:=VG (s _ h1).1;exact⟨⟨n,by have:=(s _ h1).2;omega,hn⟩,.inl O⟩
end
section
inductive Path (adj:Nat->ew) (ok:ew) (a:Nat):ew
 |refl:Path adj ok a a
 |step {b c:Nat}:Path adj ok a b->adj b c->ok c->Path adj ok a c
section
variable {adj:Nat->ew}{ok ok':ew}
theorem Path.trans{a b c:Nat}(r:Path adj ok a b)(s:Path adj ok b c):Path adj ok a c:=by
 induction s with
 |refl=>exact r
 |step _ h3 h4 ih=>exact .step ih h3 h4
theorem Path.one(h:adj a b)(r:ok b):Path adj ok a b:= .step .refl h r
theorem Path.mono(h:Path adj ok a b)(r:∀c,ok c->ok' c):Path adj ok' a b:=by
 induction h with
 |refl=>exact .refl
 |step _ h3 h4 ih=>exact .step ih h3 (r _ h4)
theorem Path.fin(h:Path adj ok a b)(r:ok a):ok b:=by
 cases h with
 |refl=>exact r
 |step _ _ h=>exact h
theorem Path.symm(hs:∀a b,adj a b->adj b a)(h:Path adj ok a b)(r:ok a):Path adj ok b a:=by
 induction h with
 |refl=>exact .refl
 |step h1 h3 h4 ih=>exact(Path.one (hs _ _ h3) (h1.fin r)).trans ih
theorem Path.stay{inn:ew}(h:Path adj ok a b)(r:inn a)(hc:∀x y,inn x->adj x y->ok y->inn y):Path adj (λc=>ok c/\inn c) a b/\inn b:=by
 induction h with
 |refl=>exact⟨.refl,r⟩
 |step _ h3 h4 ih=>exact⟨.step ih.1 h3 ⟨h4,hc _ _ ih.2 h3 h4⟩,hc _ _ ih.2 h3 h4⟩
end
def Anc(adj:Nat->ew)(pos:Nat->Nat)(a b:Nat):Prop:=pos a<pos b/\Path adj (λc=>pos a<=pos c) a b
section
variable {adj:Nat->ew}{pos:Nat->Nat}(hs:∀a b,adj a b->adj b a)
theorem Anc.trans{a b c:Nat}(r:Anc adj pos a b)(s:Anc adj pos b c):Anc adj pos a c:=by have u:=r.1;exact⟨YU r.1 s.1,r.2.trans (s.2.mono λd hd=>by omega)⟩
include hs in
theorem Anc.lin(r:Anc adj pos a c)(s:Anc adj pos b c)(h:pos a<pos b):Anc adj pos a b:=
 ⟨h,r.2.trans ((s.2.symm hs (BY _)).mono λd hd=>by omega)⟩
end
structure IsOrd(n:Nat)(adj:Nat->ew)(pos:Nat->Nat)(P:cP):Prop where
 len:P.length=n
 par:∀b,b<n->(P.getD b 0= -1/\∀a,a<n->¬Anc adj pos a b)\/(∃a:Nat,a<n/\P.getD b 0=(a:Int)/\Anc adj pos a b/\∀a',a'<n->Anc adj pos a' b->a'=a\/Anc adj pos a' a)
section
variable {n:Nat}{adj:Nat->ew}{pos:Nat->Nat}{P:cP}
theorem IsOrd.upF(h:IsOrd n adj pos P):∀(m b k:Nat),b<n->pos b<=m->pos b<=k->(upF P k (P.getD b 0)).isSome=YK:=by
 intro m;induction m with
 | zero=>
   intro b k hb hm hk;rcases h.par b hb with⟨h1,_⟩|⟨a,ha,h1,h2,_⟩
   .rw[h1,su Zk];rfl
   have:=h2.1;omega
 | succ m ih=>
   intro b k hb hm hk;rcases h.par b hb with⟨h1,_⟩|⟨a,ha,h1,h2,_⟩
   .rw[h1,su Zk];rfl
   have:=h2.1;obtain⟨k',rfl⟩:∃k',k=k'+1:=⟨k-1,Zi⟩;rw[h1,B3 (by rw[h.len];exact ha),Option.isSome_map];have:=ih a k' ha Zi Zi;rwa [getD_eq (by rw[h.len];exact ha)]at this
theorem IsOrd.jv(h:IsOrd n adj pos P)(s:∀b,b<n->pos b<n):UpOk P:=by
 refine⟨λp s=>?_,λv hv=>?_⟩
 .obtain⟨b,hb,e⟩:=Xp s;rw[<-getD_eq hb 0]at e;have r:b<n:=by rw[<-h.len];exact hb
  have:=h.len;rcases h.par b r with⟨h1,_⟩|⟨a,ha,h1,_,_⟩<;>omega
 have hv':v<n:=by rw[<-h.len];exact hv
 have:=h.upF (pos v) v P.length hv' (BY _) (by rw[h.len];exact Yy (s v hv'));rwa [C7 hv,<-getD_eq hv 0]
theorem IsOrd.mem(h:IsOrd n adj pos P)(r:∀b,b<n->pos b<n):∀b,b<P.length->∀a:Nat,(a:Int)∈bU P b↔a<n/\Anc adj pos a b:=by
 have hl:=h.len;refine xD (h.jv r) (λv hv hr e a=>?_) (λv hv p hpl hr e ih a=>?_)
 .rw[e];rcases h.par v Zi with⟨_,h2⟩|⟨c,hc,h1,_,_⟩
  .grind
  rw[getD_eq hv,hr]at h1;omega
 rw[e,By,ih a];rcases h.par v Zi with⟨h1,_⟩|⟨c,hc,h1,h2,h3⟩
 .rw[getD_eq hv,hr]at h1;omega
 rw[getD_eq hv,hr]at h1;have:c=p:=Zi;subst this;constructor
 .rintro(h4|h4)
  .have:a=c:=Zi;subst this;exact⟨hc,h2⟩
  exact⟨h4.1,h4.2.trans h2⟩
 grind
theorem IsOrd.unique{P':cP}(h:IsOrd n adj pos P)(s:IsOrd n adj pos P'):P=P':=by
 apply WU
 .rw[h.len,s.len]
 .intro b h1 h2;have r:b<n:=by rw[<-h.len];exact h1
  rw[<-getD_eq h1 0,<-getD_eq h2 0];rcases h.par b r with⟨e1,f1⟩|⟨a,ha,e1,g1,k1⟩
  .rcases s.par b r with⟨e2,_⟩|⟨a',ha',e2,g2,_⟩
   .rw[e1,e2]
   exact absurd g2 (f1 a' ha')
  rcases s.par b r with⟨e2,f2⟩|⟨a',ha',e2,g2,k2⟩
  .exact absurd g1 (f2 a ha)
  rw[e1,e2];rcases k1 a' ha' g2 with e3|e3
  .rw[e3]
  rcases k2 a ha g1 with e4|e4
  .rw[e4]
  exact absurd (YU e3.1 e4.1) (Nat.lt_irrefl _)
end
def xd(S:ZN)(a b:Nat):Prop:=a≠b/\gF S a b=YK
theorem qI{a b:Int}(h:gF S a b=YK):gF S b a=YK:=by grind[gF,Wv.1,Wv,Bool.and_comm]
theorem me(S:ZN):∀a b,xd S a b->xd S b a:=λ_ _ h=>⟨λe=>h.1 e.symm,qI h.2⟩
def ik(q:cP)(a:Nat):Nat:=q.idxOf (a:Int)
theorem Jv(r:q.Perm (upZ n))(s:a<n):ik q a<n:=by have:q.idxOf (a:Int)<q.length:=XH (r.mem_iff.2 (bR.2 ⟨a,s,O⟩));rwa [r.length_eq,bt]at this
theorem nE(D:q.Perm (upZ n))(E:a<n)(h:ik q a=ik q b):a=b:=by
 have r:q.idxOf (a:Int)<q.length:=XH (D.mem_iff.2 (bR.2 ⟨a,E,O⟩));have s:q.idxOf (b:Int)<q.length:=by unfold ik at h;rw[<-h];exact r
 have u:q[q.idxOf (a:Int)]=(a:Int):=List.getElem_idxOf r;have z:q[q.idxOf (b:Int)]=(b:Int):=List.getElem_idxOf s;have B:q[q.idxOf (a:Int)]=q[q.idxOf (b:Int)]:=by unfold ik at h;congr 1
 rw[u,z]at B;omega
theorem IsOrd.ok(z:Valid S)(H:q.Perm (upZ S.aj.length))(h:IsOrd S.aj.length (xd S) (ik q) P):OrdOk S P:=by
 have B:∀b,b<S.aj.length->ik q b<S.aj.length:=λb hb=>Jv H hb
 have E:=h.jv B;refine⟨z,h.len,E.rng,E.up,λr hr=>?_⟩;unfold fy;rw[IN];intro a ha;rw[IN];intro b hb;obtain⟨x,hx⟩:=VG (z.rng r hr a ha).1;obtain⟨y,hy⟩:=VG (z.rng r hr b hb).1;have u:x<S.aj.length:=by have:=(z.rng r hr a ha).2;omega
 have D:y<S.aj.length:=by have:=(z.rng r hr b hb).2;omega
 by_cases e:a=b
 .simp[e]
 have hxy:x≠y:=Zi;have s:xd S x y:=⟨hxy,by rw[<-hx,<-hy];exact BX hr ha hb⟩;have hl:=h.len;rcases Nat.lt_or_gt_of_ne (λe=>hxy (nE H u e))with h1|h1
 .have:(x:Int)∈bU P y:=(h.mem B y Zi x).2 ⟨u,h1,.one s (Yy h1)⟩;rw[hx,hy];simp[hiB,this]
 have:(y:Int)∈bU P x:=(h.mem B x Zi y).2 ⟨D,h1,.one (me S _ _ s) (Yy h1)⟩;rw[hx,hy];simp[hiB,this]
end
section
def iV(G:Zz)(a b:Nat):Prop:=(G.getD a 0#64).getLsbD b=YK
theorem tN{G:Zz}{rest:ZO}:Reach G rest a b↔Path (iV G) (λc=>rest.getLsbD c=YK) a b:=by
 constructor
 .intro h;induction h with
  |refl=>exact .refl
  |step _ h1 h2 ih=>exact .step ih h1 h2
 .intro h;induction h with
  |refl=>exact .refl
  |step _ h1 h2 ih=>exact .step ih h1 h2
structure Comp(adj:Nat->ew)(rest c:ZO):Prop where
 sub:∀i,c.getLsbD i=YK->rest.getLsbD i=YK
 clo:∀i j,c.getLsbD i=YK->adj i j->rest.getLsbD j=YK->c.getLsbD j=YK
 con:∀i j,c.getLsbD i=YK->c.getLsbD j=YK->Path adj (λx=>c.getLsbD x=YK) i j
 ne:∃i,c.getLsbD i=YK
structure CompsI(adj:Nat->ew)(rest:ZO)(k:Nat)(cs:Zz)(R:ZO):Prop where
 all:∀c∈cs,Comp adj rest c
 cov:∀i,rest.getLsbD i=YK↔R.getLsbD i=YK\/∃c∈cs,c.getLsbD i=YK
 dis:∀i,R.getLsbD i=YK->∀c∈cs,¬c.getLsbD i=YK
 pw:cs.Pairwise (λc d=>∀i,c.getLsbD i=YK->¬d.getLsbD i=YK)
 low:∀i,i<k->¬R.getLsbD i=YK
theorem j6(x y:ZO)(i:Nat):(x&&& ~~~y).getLsbD i=YK↔x.getLsbD i=YK/\¬y.getLsbD i=YK:=by grind
theorem qX(G:Zz)(rest:ZO)(hs:∀a b,iV G a b->iV G b a):∀k,CompsI (iV G) rest k (ZL G rest k).1 (ZL G rest k).2
 |0=>⟨by simp[ZL],by simp[ZL],by simp[ZL],by simp[ZL],by intro i h;omega⟩
 | k+1=>by
   have h:=qX G rest hs k;simp only[ZL];generalize ZL G rest k=cr at*;obtain⟨cs,R⟩:=cr;simp only at h ⊢;by_cases hk:R.getLsbD k=YK
   .rw[IT hk];have r:∀i,(ZQ G R k).getLsbD i=YK->R.getLsbD i=YK:=λi hi=>se hk hi
    have s:(ZQ G R k).getLsbD k=YK:=(iX (ft hk)).2 .refl;have u:∀i j,(ZQ G R k).getLsbD i=YK->iV G i j->R.getLsbD j=YK->(ZQ G R k).getLsbD j=YK:=λi j h1 h2 h3=>
     (iX (ft h3)).2 (.step (gl h1) h2 h3)
    have z:Comp (iV G) rest (ZQ G R k):=by
     refine⟨λi hi=>(h.cov i).2 (.inl (r i hi)),λi j h1 h2 h3=>?_,?_,⟨k,s⟩⟩
     .rcases(h.cov j).1 h3 with h4|⟨d,hd,h4⟩
      .exact u i j h1 h2 h4
      exact absurd ((h.all d hd).clo j i h4 (hs i j h2) ((h.cov i).2 (.inl (r i h1)))) (h.dis i (r i h1) d hd)
     have one:∀i,(ZQ G R k).getLsbD i=YK->Path (iV G) (λx=>(ZQ G R k).getLsbD x=YK) k i:=λi hi=>
      ((tN.1 (gl hi)).stay (inn:=λx=>(ZQ G R k).getLsbD x=YK) s u).1.mono λc hc=>hc.2
     exact λi j hi hj=>((one i hi).symm hs s).trans (one j hj)
    refine⟨λc hc=>?_,λi=>?_,λi hi c hc=>?_,?_,λi hi hR=>?_⟩
    .rcases We.1 hc with hc|hc
     .exact h.all c hc
     rw[VH.1 hc];exact z
    .rw[h.cov i,j6];constructor
     .grind
     grind
    .rw[j6]at hi;rcases We.1 hc with hc|hc
     .exact h.dis i hi.1 c hc
     rw[VH.1 hc];exact hi.2
    .rw[List.pairwise_append];refine⟨h.pw,Zm,λc hc d hd i h1 h2=>?_⟩;rw[VH.1 hd]at h2;exact h.dis i (r i h2) c hc h1
    rw[j6]at hR;by_cases e:i=k
    .subst e;exact hR.2 s
    exact h.low i Zi hR.1
   rw[AS hk];refine⟨h.all,h.cov,h.dis,h.pw,λi hi=>?_⟩;by_cases e:i=k
   .subst e;exact hk
   exact h.low i Zi
def Gf(adj:Nat->ew)(pos:Nat->Nat)(rest:ZO)(a b:Nat):Prop:=
 rest.getLsbD a=YK/\rest.getLsbD b=YK/\pos a<pos b/\Path adj (λc=>rest.getLsbD c=YK/\pos a<=pos c) a b
def Mo(adj:Nat->ew)(pos:Nat->Nat)(rest:ZO)(par:Int)(b:Nat)(x:Int):Prop:=
 (x=par/\∀a,¬Gf adj pos rest a b)\/∃a:Nat,x=(a:Int)/\Gf adj pos rest a b/\∀a',Gf adj pos rest a' b->a'=a\/Gf adj pos rest a' a
theorem Oz(B:q.Perm (upZ n)){c:ZO}(hc:∀i,c.getLsbD i=YK->i<n)(u:∃i,c.getLsbD i=YK):
  ∃a:Nat,a<n/\q.find? (λx=>c.getLsbD x.toNat)=WB (a:Int)/\c.getLsbD a=YK/\∀i,c.getLsbD i=YK->ik q a<=ik q i:=by
 cases hf:q.find? (λx=>c.getLsbD x.toNat)with
 | none=>
   obtain⟨i,hi⟩:=u;have:=List.find?_eq_none.1 hf (i:Int) (B.mem_iff.2 (bR.2 ⟨i,hc i hi,O⟩));simp at this;rw[hi]at this;cases this
 | some x=>
   obtain⟨h1,us,vs,h2,h3⟩:=List.find?_eq_some_iff_append.1 hf;have s:x∈q:=by rw[h2];simp
   obtain⟨a,ha,rfl⟩:=bR.1 (B.mem_iff.1 s);have r:c.getLsbD a=YK:=by simpa using h1
   refine⟨a,ha,O,r,λi hi=>?_⟩;have z:∀j:Nat,c.getLsbD j=YK->(j:Int)∉us:=λj hj hm=>by grind
   unfold ik;rw[h2,List.idxOf_append,List.idxOf_append,AS (z a r),AS (z i hi)];simp
section
variable {n:Nat}{G:Zz}{q:cP}(hG:G.length=n)(hs:∀a b,iV G a b->iV G b a)(hq:q.Perm (upZ n))
theorem Gf.sub{pos:Nat->Nat}{r r':ZO}(h:∀i,r.getLsbD i=YK->r'.getLsbD i=YK)(k:Gf adj pos r a b):Gf adj pos r' a b:=
 ⟨h _ k.1,h _ k.2.1,k.2.2.1,k.2.2.2.mono λc hc=>⟨h _ hc.1,hc.2⟩⟩
include hs hq in
theorem BT{f:Nat}(IH:∀rest par P,dV rest<=f->(∀i,rest.getLsbD i=YK->i<n)->P.length=n->∀b,b<n->(rest.getLsbD b=YL->(placeF G q f rest par P).getD b 0=P.getD b 0)/\(rest.getLsbD b=YK->Mo (iV G) (ik q) rest par b ((placeF G q f rest par P).getD b 0)))
  {rest c:ZO} (hc:Comp (iV G) rest c) (U:∀a,c.getLsbD a=YK->dV (c&&& ~~~(BitVec.twoPow 64 a))<=f) (W:∀i,rest.getLsbD i=YK->i<n) (par:Int) (P:cP) (Z:P.length=n) (b:Nat) (hb:b<n):
  (c.getLsbD b=YL->(dh q (placeF G q f) par P c).getD b 0=P.getD b 0)/\(c.getLsbD b=YK->Mo (iV G) (ik q) rest par b ((dh q (placeF G q f) par P c).getD b 0)):=by
 obtain⟨a,ha,hfind,hca,hmin⟩:=Oz hq (λi hi=>W i (hc.sub i hi)) hc.ne;have e:dh q (placeF G q f) par P c=placeF G q f (c&&& ~~~(BitVec.twoPow 64 a)) a (P.set a par):=by unfold dh;rw[hfind];rfl
 rw[e];have r:∀i,(c&&& ~~~(BitVec.twoPow 64 a)).getLsbD i=YK↔c.getLsbD i=YK/\a≠i:=λi=>by rw[c7,aJ,Ws]
 have L:=IH (c&&& ~~~(BitVec.twoPow 64 a)) a (P.set a par) (U a hca) (λi hi=>W i (hc.sub i ((r i).1 hi).1)) (by simp[Z]) b hb;have B:∀a' b',Gf (iV G) (ik q) rest a' b'->c.getLsbD b'=YK->c.getLsbD a'=YK:=by
  intro a' b' s h2;have H:=(s.2.2.2.symm hs ⟨s.1,BY _⟩);exact(H.stay (inn:=λx=>c.getLsbD x=YK) h2 (λx y hx hxy hy=>hc.clo x y hx hxy hy.1)).2
 have z:∀a' b',Gf (iV G) (ik q) rest a' b'->c.getLsbD b'=YK->a'≠a->Gf (iV G) (ik q) (c&&& ~~~(BitVec.twoPow 64 a)) a' b':=by
  intro a' b' s h2 E;have u:=B a' b' s h2;have aa:ik q a<ik q a':=Nat.lt_of_le_of_ne (hmin a' u) (λe=>E (nE hq ha e).symm);have ab:=s.2.2.1;refine⟨(r a').2 ⟨u,λe=>E e.symm⟩,(r b').2 ⟨h2,λe=>by subst e;omega⟩,s.2.2.1,?_⟩;refine((s.2.2.2.stay (inn:=λx=>c.getLsbD x=YK) u (λx y hx hxy hy=>hc.clo x y hx hxy hy.1)).1.mono λx hx=>?_);exact⟨(r x).2 ⟨hx.2,λe=>by have:=hx.1.2;subst e;omega⟩,hx.1.2⟩
 have M:∀b',c.getLsbD b'=YK->a≠b'->Gf (iV G) (ik q) rest a b':=λb' s h2=>
  ⟨hc.sub a hca,hc.sub b' s,Nat.lt_of_le_of_ne (hmin b' s) (λe=>h2 (nE hq ha e)),(hc.con a b' hca s).mono λx hx=>⟨hc.sub x hx,hmin x hx⟩⟩
 have D:∀i,(c&&& ~~~(BitVec.twoPow 64 a)).getLsbD i=YK->rest.getLsbD i=YK:=λi hi=>hc.sub i ((r i).1 hi).1
 constructor
 .grind
 .intro hcb;by_cases hab:a=b
  .subst hab;have s:(c&&& ~~~(BitVec.twoPow 64 a)).getLsbD a=YL:=by rw[c7];simp
   left
   refine⟨by rw[L.1 s,List.getD];simp[Z,ha],λa' h2=>?_⟩;have E:=B a' a h2 hca;have:=hmin a' E;have:=h2.2.2.1;omega
  have s:(c&&& ~~~(BitVec.twoPow 64 a)).getLsbD b=YK:=(r b).2 ⟨hcb,hab⟩;right
  rcases L.2 s with⟨h2,E⟩|⟨d,h2,E,h4⟩
  .grind
  refine⟨d,h2,E.sub D,λa' h5=>?_⟩;have V:=(r d).1 E.1;by_cases e2:a'=a
  .right;rw[e2];exact M d V.1 V.2
  rcases h4 a' (z a' b h5 hcb e2)with h6|h6
  .exact .inl h6
  exact .inr (h6.sub D)
include hG hs hq in
theorem FH:∀(f:Nat)(rest:ZO)(par:Int)(P:cP),dV rest<=f->(∀i,rest.getLsbD i=YK->i<n)->P.length=n->∀b,b<n->(rest.getLsbD b=YL->(placeF G q f rest par P).getD b 0=P.getD b 0)/\(rest.getLsbD b=YK->Mo (iV G) (ik q) rest par b ((placeF G q f rest par P).getD b 0)):=by
 intro f;induction f with
 | zero=>
   intro rest par P hf hr hP b hb;refine⟨λ_=>rfl,λh=>?_⟩;rw[vF (Nat.le_zero.1 hf) b]at h;cases h
 | succ f IH=>
   intro rest par P hf hr hP b hb;have s:=qX G rest hs G.length;have u:∀c∈(ZL G rest G.length).1,∀a,c.getLsbD a=YK->dV (c&&& ~~~(BitVec.twoPow 64 a))<=f:=λc hc a ha=>by have:=CO hc ha;omega
   have z:∀(cs:Zz)(P:cP),(∀c∈cs,Comp (iV G) rest c)->(∀c∈cs,∀a,c.getLsbD a=YK->dV (c&&& ~~~(BitVec.twoPow 64 a))<=f)->cs.Pairwise (λc d=>∀i,c.getLsbD i=YK->¬d.getLsbD i=YK)->P.length=n->
     ((∀c∈cs,¬c.getLsbD b=YK)->(cs.foldl (dh q (placeF G q f) par) P).getD b 0=P.getD b 0)/\(∀c∈cs,c.getLsbD b=YK->Mo (iV G) (ik q) rest par b ((cs.foldl (dh q (placeF G q f) par) P).getD b 0)):=by
    intro cs;induction cs with
    |nil=>intro P _ _ _ _;exact⟨λ_=>rfl,λc hc=>by cases hc⟩
    | cons c cs ih=>
      intro P h1 h2 h3 h4;have hl:(dh q (placeF G q f) par P c).length=n:=by grind[dh,ni]
      have B:=BT hs hq IH (h1 c (Xj ..)) (h2 c (Xj ..)) hr par P h4 b hb;have D:=ih (dh q (placeF G q f) par P c) (λd hd=>h1 d (VX _ hd)) (λd hd=>h2 d (VX _ hd)) (WX.1 h3).2 hl;rw[W5];constructor
      .grind
      grind
   have r:=z (ZL G rest G.length).1 P s.all u s.pw hP;simp only[placeF];constructor
   .intro h1;refine r.1 λc hc h2=>?_
    rw[(s.all c hc).sub b h2]at h1;cases h1
   .intro h1;rcases(s.cov b).1 h1 with h2|⟨c,hc,h2⟩
    .exact absurd h2 (s.low b Zi)
    exact r.2 c hc h2
include hG hs hq in
theorem SE(z:n<64)(u:∀a b,iV G a b->b<n):IsOrd n (iV G) (ik q) (ofL G q):=by
 have r:∀i,(l6 G.length).getLsbD i=YK↔i<n:=λi=>by rw[kY Zi,Ws,hG]
 have s:∀a b,a<n->b<n->(Gf (iV G) (ik q) (l6 G.length) a b↔Anc (iV G) (ik q) a b):=by
  intro a b ha hb;constructor
  .intro h;exact⟨h.2.2.1,h.2.2.2.mono λc hc=>hc.2⟩
  .intro h;refine⟨(r a).2 ha,(r b).2 hb,h.1,?_⟩;exact(h.2.stay (inn:=λx=>(l6 G.length).getLsbD x=YK) ((r a).2 ha) (λx y _ hxy _=>(r y).2 (u x y hxy))).1.mono λc hc=>⟨hc.2,hc.1⟩
 refine⟨by rw[Lt,hG],λb hb=>?_⟩;have:=(FH hG hs hq 64 (l6 G.length) (-1) (List.replicate G.length 0) (pI _) (λi hi=>(r i).1 hi) (by simp[hG]) b hb).2 ((r b).2 hb);rcases this with⟨h1,h2⟩|⟨a,h1,h2,h3⟩
 .exact .inl ⟨h1,λa ha h3=>h2 a ((s a b ha hb).2 h3)⟩
 have ha:=(r a).1 h2.1;refine .inr ⟨a,ha,h1,(s a b ha hb).1 h2,λa' ha' h4=>?_⟩;rcases h3 a' ((s a' b ha' hb).2 h4)with h5|h5
 .exact .inl h5
 exact .inr ((s a' a ha' ha).1 h5)
end
theorem MN(r:Valid S)(a b:Nat):iV (gr S) a b↔xd S a b:=by
 unfold iV xd;by_cases ha:a<S.aj.length
 .rw[yV r ha,aJ,Ws]
 rw[List.getD,WT (by rw[lj];omega)];constructor
 .intro h;simp at h
 rintro⟨_,h⟩;have:=(oF r h).1;omega
theorem Ij(r:Valid S):iV (gr S)=xd S:=by funext a b;exact propext (MN r a b)
theorem wj(s:Valid S)(u:q.Perm (upZ S.aj.length)):IsOrd S.aj.length (xd S) (ik q) (ordL S q):=by have r:=Ij s;have z:=s.n2;have:=SE (G:=gr S) (q:=q) (n:=S.aj.length) (lj S) (by rw[r];exact me S) u Zi (by rw[r];intro a b h;have:=(oF s h.2).2;omega);rw[r]at this;exact this
end
section
open Mk
theorem F5(S:ZN)(hS:SB S)(a b:Int):ZK prog 204 [fp S,ZU a,ZU b] (· = .bool (gF S a b)):=by
 refine ZC func204 O ntmps204 λ_ _ _ _=>?_
 have E:=hS.r;refine Z2 O<|Z4 O<|Gz O (st:=λZq:Nat=>([(1,WC),(2,WC),(10,WC),(11,WC),(12,WB (ZI Zq))],[])) 1
  (I:=λZq=>Zq<=S.aU.length/\((S.aU.take Zq).any λr=>decide (a∈r.2)&&decide (b∈r.2))=YL) (μ:=λZq=>S.aU.length-Zq) (x0:=0) (Vn (aS O) trivial O O) (⟨sh _,O⟩) ?_
 rintro k ⟨hk,hno⟩;refine Z1 O<|Gp O (λz=>?_) (λz=>?_)
 .have hlt:k<S.aU.length:=Zi;have u:=eT hlt;have B:=iq hlt;have D:=hS.rl _ (ak hlt);refine Vl<|Z1 O<|Rs O (aD ⟨_,underlying58,O⟩ O1 O u O)<|Y2 O<|Z3 O<|Rs O (aa call86 (Bo S.aU[k].2 a Zi) O)<|A1 O ?_;apply Vx 5 20 25 [21,22,23,24] O Zs
  .intro hb4;exact Y3 O<|Rg O (aa call86 (Bo S.aU[k].2 b Zi) O)<|A1 O<|Vp Zr O O O
  .intro hb4;exact Ar 5 O<|Vp Zr O O O
  refine Gc O (λs=>?_) (λs=>?_)
  .exact Z1 O<|YR O<|ah PV.bool (by unfold gF;exact(sW (p:=λr:er×cP=>decide (a∈r.2)&&decide (b∈r.2)) hlt s).symm)
  exact Vl<|Z2 O<|⟨(k+1),Vn (aS O) trivial O O,⟨Zi,fM hlt hno s⟩,Zi⟩
 exact Gx O<|Z1 O<|YR O<|ah PV.bool (by rw[aG Zi]at hno;exact hno.symm)
structure RInv(S:ZN)(rem:List Bool)(a n:Nat)(I:List Bool):Prop where
 len:I.length=n
 has:I.getD a YL=YK
 snd:∀b,I.getD b YL=YK->Path (xd S) (λc=>rem.getD c YL=YL) a b
def SX(S:ZN)(rem I:List Bool)(x y:Nat):Bool:=((I.getD x YL&& !I.getD y YL)&& !rem.getD y YL)&&gF S x y
structure PInv(S:ZN)(rem:List Bool)(a n F k:Nat)(I:List Bool)(more:Bool):Prop where
 r:RInv S rem a n I
 le:I.count YL<=F
 lt:more=YK->I.count YL<F
 no:more=YL->∀x,x<k->∀y,y<n->SX S rem I x y=YL
theorem count_set{y:Nat}(r:y<I.length)(h:I[y]=YL):(I.set y YK).count YL<I.count YL:=by grind
theorem RInv.ext{x y:Nat}(h:RInv S rem a n I)(z:y<n)(r:SX S rem I x y=YK):RInv S rem a n (I.set y YK)/\(I.set y YK).count YL<I.count YL:=by
 unfold SX at r;simp only[aJ,XF]at r;have s:y<I.length:=by rw[h.len];exact z
 refine⟨⟨by simp[h.len],?_,λb hb=>?_⟩,count_set s (by rw[<-getD_eq s YL];exact r.1.1.2)⟩
 .by_cases e:a=y
  .subst e;simp[List.getD,s]
  have:=h.has;simp only[List.getD]at this ⊢;rw[Xs (λu=>e u.symm)];exact this
 by_cases e:b=y
 .subst e;refine .step (h.snd x r.1.1.1) ⟨λe=>?_,r.2⟩ r.1.2;subst e;rw[r.1.1.1]at r;exact absurd r.1.1.2 Zk
 refine h.snd b ?_;simp only[List.getD]at hb ⊢;rw[Xs (λu=>e u.symm)]at hb;exact hb
theorem RInv.last(B:Valid S)(h:RInv S rem a n I)(D:n=S.aj.length)(r:∀x,x<n->∀y,y<n->SX S rem I x y=YL)(b:Nat):I.getD b YL=YK↔Path (xd S) (λc=>rem.getD c YL=YL) a b:=by
 refine⟨h.snd b,λz=>?_⟩;induction z with
 |refl=>exact h.has
 | @step x y _ h1 h2 ih=>
   have hl:=oF B h1.2;have s:x<n:=Zi;have u:y<n:=Zi;have:=r x s y u;unfold SX at this;rw[ih,h2,h1.2]at this;simpa using this
theorem ME(h:k<I.length):(a8 I)[k*1]? =WB (.bool (I.getD k YL)):=by simp[List.getD,h]
abbrev schV(S:ZN):V:= .pv (fp S)
abbrev pS(l:List Bool):Ob:= .cells 4 (a8 l)
theorem FO(S:ZN)(hS:SB S)(hV:Valid S)(n:Nat)(hn:n=S.aj.length)(rem:List Bool)(hrem:rem.length=n)(a:Nat)(ha:a<n):
  ZS prog 150 1 0 [schV S,.bJ big 1 n,ZI a] [(big,pS rem)]
   (λv ob'=>(∃I:List Bool,v= .pv (nI I)/\I.length=n/\∀b,I.getD b YL=YK↔Path (xd S) (λc=>rem.getD c YL=YL) a b)/\ob'=au [(big,pS rem)]):=by
 refine ZE func150 O ntmps150 λ_ _ _ _=>?_
 have hn12:=hV.n2;have U:RInv S rem a n ((List.replicate n YL).set a YK):=by
  refine⟨Zm,by simp[List.getD,ha],λb hb=>?_⟩;by_cases e:b=a
  .subst e;exact .refl
  simp only[List.getD]at hb;rw[Xs (λe'=>e e'.symm)]at hb;by_cases hbn:b<n
  .simp[hbn]at hb
  rw[WT Zn]at hb;cases hb
 refine Z2 O<|Z3 O<|Rs O ((lN (zs:=[.bool YL]) 1 n U7 O O O (by rw[hn]) (by rw[hn]) Zi O))<|A1 O<|Z2 O<|Rs O (ag a aaw sz4 O O O O ha)<|RL.step (d:=WC) O O (ba sz4 O O O O (by rw[ct];simp;omega))<|Z1 O ?_;refine Gz O (st:=λZq:List Bool×Bool=>([(1,WC),(3,WC),(7,WC),(8,WB (.pv (.bool Zq.2)))],[(big,WC),(0,WC),(1,WB (pS Zq.1))])) 2
  (I:=λZq=>RInv S rem a n Zq.1/\(Zq.2=YL->∀x,x<n->∀y,y<n->SX S rem Zq.1 x y=YL)) (μ:=λZq=>2*Zq.1.count YL+(if Zq.2=YK then 1 else 0)) (x0:=((List.replicate n YL).set a YK,YK)) (Vn (aS O) ⟨O,O,ah (λc=>WB (Ob.cells 4 c)) (by rw[ct,VY,VY];show(List.replicate n (PV.bool YL)).set a (PV.bool YK)=_;simp[Wp]),Zp⟩ O O) (⟨U,λh=>by cases h⟩) ?_
 rintro⟨I,more⟩ ⟨hI,hdone⟩;try simp only at hI hdone ⊢
 refine Z1 O<|Gc O (λz=>?_) (λz=>?_)
 .subst z;refine Vl<|Z1 O<|Z3 O<|Gz O (st:=λu:Nat×List Bool×Bool=>([(1,WC),(3,WC),(7,WC),(8,WB (.pv (.bool u.2.2))),(20,WC),(21,WB (ZI u.1))],[(big,WC),(0,WC),(1,WB (pS u.2.1))])) 2
   (I:=λu=>u.1<=n/\PInv S rem a n (I.count YL) u.1 u.2.1 u.2.2) (μ:=λu=>n-u.1) (x0:=(0,I,YL)) (YS O) (⟨sh _,hI,BY _,(λh=>by cases h),λ_ x hx=>absurd hx (W9 _)⟩) ?_
  rintro⟨k,J,mo⟩ ⟨hk,hJ⟩;try simp only at hk hJ ⊢
  refine Z1 O<|Gp O (λH=>?_) (λH=>?_)
  .have hkn:k<n:=Zi;refine Vl<|Z2 O<|Z3 O<|Gz O (st:=λs:Nat×List Bool×Bool=>([(1,WC),(3,WC),(7,WC),(8,WB (.pv (.bool s.2.2))),(9,WC),(20,WC),(21,WC),(25,WC),(26,WB (ZI s.1))],[(big,WC),(0,WC),(1,WB (pS s.2.1))])) 2
    (I:=λs=>s.1<=n/\PInv S rem a n (I.count YL) k s.2.1 s.2.2/\(s.2.2=YL->∀y,y<s.1->SX S rem s.2.1 k y=YL)) (μ:=λs=>n-s.1) (x0:=(0,J,mo)) (YS O) (⟨sh _,hJ,λ_ y hy=>absurd hy (W9 _)⟩) ?_
   rintro⟨j,K,mp⟩ ⟨hj,hK,hrow⟩;try simp only at hj hK hrow ⊢
   refine Z1 O<|Gp O (λL=>?_) (λL=>?_)
   .have hjn:j<n:=Zi;have hKl:=hK.r.len;have W:=ME (I:=K) (k:=k) Zi;have Z:=ME (I:=K) (k:=j) Zi;have ab:=ME (I:=rem) (k:=j) Zi;refine Vl<|Z2 O<|Z2 O<|Rs O (ag k aaw sz4 O O O O hkn)<|Rs O (aX ⟨_,underlying4,O⟩ O O W)<|A1 O ?_;apply Vx 6 33 39 [34,35,36,37,38] O Zs
    .intro hb4;exact Y2 O<|Rg O (ag j aaw sz4 O O O O hjn)<|Rg O (aX ⟨_,underlying4,O⟩ O O Z)<|Y2 O<|Vp Zr O O O
    .intro hb4;exact Ar 6 O<|Vp Zr O O O
    refine A1 O ?_;apply Vx 6 40 46 [41,42,43,44,45] O Zs
    .intro hb11;exact Y2 O<|Rg O (ag j aaw sz4 O O O O hjn)<|Rg O (aX ⟨_,underlying4,O⟩ O O ab)<|Y2 O<|Vp Zr O O O
    .intro hb11;exact Ar 6 O<|Vp Zr O O O
    refine A1 O ?_;apply Vx 5 47 52 [48,49,50,51] O Zs
    .intro hb18;exact Y3 O<|Rg O (aa call204 (F5 S hS k j) O)<|A1 O<|Vp Zr O O O
    .intro hb18;exact Ar 5 O<|Vp Zr O O O
    refine Gc O (λB=>?_) (λB=>?_)
    .have hext:=hK.r.ext hjn (x:=k) B;have D:=hK.le;exact Z2 O<|Rs O (ag j aaw sz4 O O O O hjn)<|RL.step (d:=WC) O O (ba sz4 O O O O Zn)<|A1 O<|Z2 O<|⟨(j+1,K.set j YK,YK),Vn (aS O) ⟨O,O,ah (λc=>WB (Ob.cells 4 c)) (by simp[Wp];rfl),Zp⟩ O O,⟨Zo,⟨hext.1,OF (Yy hext.2) D,λ_=>VW hext.2 D,(λh=>by cases h)⟩,(λh=>by cases h)⟩,Zo⟩
    exact Vl<|Z2 O<|⟨(j+1,K,mp),YS O,⟨Zo,hK,λh y hy=>by rcases V3.1 hy with M|rfl;exact hrow h y M;exact B⟩,Zo⟩
   have hjn:j=n:=Zi;exact Gx O<|Z2 O<|⟨(k+1,K,mp),YS O,⟨Zo,hK.r,hK.le,hK.lt,λh x hx y hy=>by rcases V3.1 hx with M|rfl;exact hK.no h x M y hy;exact hrow h y Zi⟩,Zo⟩
  have hkn:k=n:=Zi;exact Gx O<|⟨(J,mo),YS O,⟨hJ.r,λh x hx y hy=>hJ.no h x Zi y hy⟩,by have M:=hJ.le;have h2:=hJ.lt;simp only;cases mo with|false=>simp;omega|true=>have:=h2 O;simp;omega⟩
 subst z;have E:=hI.last hV hn (hdone O);exact Gx O<|Vm (Vq 1 O O)<|Z2 O<|Vm (St.rE [6])<|Gt O<|⟨[(6,.pv (nI I))],[(big,pS rem)],[.pv (nI I)],Vn ⟨by show V.pv (.sl WC n (a8 I))=_;rw[nI,hI.len],Zp⟩ (aO O) O O,O,O,O,⟨I,O,hI.len,E⟩,O⟩
def NV(n:Nat)(adj:Nat->ew)(pos:Nat->Nat)(i:Nat)(P:cP):Prop:=
 ∀b,b<n->(P.getD b 0= -1/\∀a,a<n->pos a<i->¬Anc adj pos a b)\/∃a:Nat,a<n/\P.getD b 0=(a:Int)/\pos a<i/\Anc adj pos a b/\∀a',a'<n->pos a'<i->Anc adj pos a' b->pos a'<=pos a
theorem NV.last{pos:Nat->Nat}(hs:∀a b,adj a b->adj b a)(s:∀a,a<n->pos a<n)(r:∀a b,a<n->pos a=pos b->a=b)(hl:P.length=n)(h:NV n adj pos n P):IsOrd n adj pos P:=by
 refine⟨hl,λb hb=>?_⟩;rcases h b hb with⟨h1,h2⟩|⟨a,ha,h1,_,h2,h3⟩
 .grind
 refine .inr ⟨a,ha,h1,h2,λa' ha' h4=>?_⟩;rcases Nat.lt_or_eq_of_le (h3 a' ha' (s a' ha') h4)with h5|h5
 .exact .inr (h4.lin hs h2 h5)
 exact .inl (r a' a ha' h5)
theorem NV.next{pos:Nat->Nat}(u:∀a b,a<n->pos a=pos b->a=b)(H:a<n)(L:pos a=i)(h:NV n adj pos i P){I:ew}
  (E:∀b,b<n->(I b↔Path adj (λc=>pos a<=pos c) a b)) (M:∀b,b<n->(I b/\b≠a->Q.getD b 0=(a:Int))/\(¬ (I b/\b≠a)->Q.getD b 0=P.getD b 0)):NV n adj pos (i+1) Q:=by
 intro b hb;have s:I b/\b≠a↔Anc adj pos a b:=by
  constructor
  .rintro⟨r,h2⟩;have B:=(E b hb).1 r;have D:pos a<=pos b:=B.fin (ok:=λc=>pos a<=pos c) (BY _);exact⟨Nat.lt_of_le_of_ne D (λe=>h2 (u a b H e).symm),B⟩
  rintro⟨r,h2⟩;exact⟨(E b hb).2 h2,λe=>by subst e;omega⟩
 have z:∀a',a'<n->pos a'<i+1->a'=a\/pos a'<i:=λa' ha' r=>by grind
 by_cases hA:Anc adj pos a b
 .grind
 rw[(M b hb).2 (λr=>hA (s.1 r))];rcases h b hb with⟨r,h2⟩|⟨d,hd,r,h2,D,h4⟩
 .grind
 grind
theorem pos_at(r:q.Perm (upZ n))(s:i<q.length)(h:q[i]=(a:Int)):ik q a=i:=by grind[cX,ik]
theorem ints_set(P:cP)(b:Nat)(x:Int):(aI P).set b (.int .i64 x)=aI (P.set b x):=by simp[Wp]
theorem NB {m:Nat}   (r:R.length=n) (B:∀ b,b<n->(b<j/\I.getD b YL=YK/\b≠a->R.getD b 0=(a:Int))/\(¬ (b<j/\I.getD b YL=YK/\b≠a)->R.getD b 0=Q.getD b 0)) (s:j<m) (u:m=n) (z:I.getD j YL=YK/\j≠a) (b:Nat) (D:b<n):
  (b<j+1/\I.getD b YL=YK/\b≠a->(R.set j (a:Int)).getD b 0=(a:Int))/\(¬ (b<j+1/\I.getD b YL=YK/\b≠a)->(R.set j (a:Int)).getD b 0=Q.getD b 0):=by grind
theorem H6    (s:∀ b,b<n->(b<j/\I.getD b YL=YK/\b≠a->R.getD b 0=(a:Int))/\(¬ (b<j/\I.getD b YL=YK/\b≠a)->R.getD b 0=Q.getD b 0)) (r:¬ (I.getD j YL=YK/\j≠a)) (b:Nat) (u:b<n):
  (b<j+1/\I.getD b YL=YK/\b≠a->R.getD b 0=(a:Int))/\(¬ (b<j+1/\I.getD b YL=YK/\b≠a)->R.getD b 0=Q.getD b 0):=by grind
theorem Mu(D:q.Perm (upZ S.aj.length))(z:q.length=S.aj.length)(u:ik q a=i)(r:∀c,c<q.length->(rem.getD c YL=YL↔i<=ik q c))(B:Valid S){X:Prop}(h:X↔Path (xd S) (λc=>rem.getD c YL=YL) a b):
  X↔Path (xd S) (λc=>ik q a<=ik q c) a b:=by
 rw[h];have s:∀(p p':ew),(∀c,c<q.length->p c->p' c)->∀b,Path (xd S) p a b->Path (xd S) p' a b:=by
  intro p p' hpp b hb;induction hb with
  |refl=>exact .refl
  | @step x y _ h1 h2 ih=>
    have:=(oF B h1.2).2;exact .step ih h1 (hpp y Zi h2)
 rw[u];exact⟨s _ _ (λc hc h=>(r c hc).1 h) b,s _ _ (λc hc h=>(r c hc).2 h) b⟩
theorem NM(z:q.Perm (upZ S.aj.length))(B:q.length=S.aj.length)(E:a<S.aj.length)(D:ik q a=i)(s:rem.length=q.length)(r:∀c,c<q.length->(rem.getD c YL=YL↔i<=ik q c))(c:Nat)(hc:c<q.length):
  (rem.set a YK).getD c YL=YL↔i+1<=ik q c:=by
 by_cases e:c=a
 .subst e;simp[List.getD,s,hc];omega
 have e1:(rem.set a YK).getD c YL=rem.getD c YL:=by simp only[List.getD];rw[Xs (λu=>e u.symm)]
 rw[e1,r c hc];have:ik q c≠ik q a:=λh=>e (nE z Zi h)
 omega
theorem L6(S:ZN)(hS:SB S)(V:Valid S)(q:cP)(B:q.Perm (upZ S.aj.length)):ZK prog 87 [fp S,al q] (· =l7 (ordL S q)):=by
 refine ZK.fg2 (ZD func87 O ntmps87 λ_ _ _ _=>?_);have aa:=V.n2;have D:q.length=S.aj.length:=by rw[B.length_eq,bt]
 have z:∀a b,a<S.aj.length->ik q a=ik q b->a=b:=λa b ha h=>nE B ha h
 have hp:∀a,a<S.aj.length->ik q a<S.aj.length:=λa ha=>Jv B ha
 refine Z2 O<|Z2 O<|Rs O (lN (zs:=[.int .i64 0]) 2 q.length xg O O O O O Zi O)<|Y3 O<|Z2 O<|Rs O (lN (zs:=[.bool YL]) 4 q.length U7 O O O O O Zi O)<|A1 O<|Z4 O<|Gz O (st:=λZq:Nat×cP=>([(1,WC),(2,WC),(4,WC),(5,WC),(6,WC),(21,WC),(22,WB (ZI Zq.1))],[(0,WC),(1,WC),(2,WB (Ft Zq.2)),(3,WC),(4,WB (pS (List.replicate q.length YL)))])) 5
  (I:=λZq=>Zq.1<=q.length/\Zq.2.length=q.length/\∀b,b<Zq.1->Zq.2.getD b 0= -1) (μ:=λZq=>q.length-Zq.1) (x0:=(0,List.replicate q.length 0)) (Vn (aS O) ⟨O,O,ah (λc=>WB (Ob.cells 3 c)) ((ct (.int .i64 0) (q.length*1)).trans Zm),O,ah (λc=>WB (Ob.cells 4 c)) ((ct (.bool YL) (q.length*1)).trans Zm),Zp⟩ O O) (⟨sh _,Zm,λb hb=>absurd hb (W9 _)⟩) ?_
 rintro⟨k,P⟩ ⟨hk,hPl,hm⟩;try simp only at hk hPl hm ⊢
 refine Z1 O<|Gp O (λL=>?_) (λL=>?_)
 .have hlt:k<q.length:=Zi;exact Vl<|Z2 O<|Z3 O<|Rs O (ag k aal sz3 O O O O hlt)<|RL.step (d:=WC) O O (ba sz3 O O O O Zn)<|Z2 O<|⟨(k+1,P.set k (-1)),Vn (aS O) ⟨O,O,ah (λc=>WB (Ob.cells 3 c)) (by rw[VY];exact ints_set P k (-1)),O,O,Zp⟩ O O,⟨Zo,by simp[hPl],λb hb=>by by_cases e:b=k;(subst e;simp[List.getD,hPl,hlt]);(have:=hm b (by simp only at hb;omega);simp only[List.getD]at this ⊢; rw[Xs (λe'=>e e'.symm)];exact this)⟩,Zo⟩
 have hinit:NV S.aj.length (xd S) (ik q) 0 P:=λb hb=> .inl ⟨hm b Zi,λa _ h=>absurd h (W9 _)⟩
 refine Gx O<|Z3 O<|Gz O (st:=λr:Nat×cP×List Bool=>([(2,WC),(4,WC),(5,WC),(6,WC),(30,WC),(31,WC),(32,WB (ZI r.1))],[(0,WC),(1,WC),(2,WB (Ft r.2.1)),(3,WC),(4,WB (pS r.2.2))])) 5
  (I:=λr=>r.1<=q.length/\r.2.1.length=q.length/\r.2.2.length=q.length/\(∀c,c<q.length->(r.2.2.getD c YL=YL↔r.1<=ik q c))/\NV S.aj.length (xd S) (ik q) r.1 r.2.1) (μ:=λr=>q.length-r.1) (x0:=(0,P,List.replicate q.length YL)) (YS O) (⟨sh _,hPl,Zm,λc hc=>by simp[List.getD,hc],hinit⟩) ?_
 rintro⟨i,Q,rem⟩ ⟨hi,hQl,hrl,hrem,hO⟩;try simp only at hi hQl hrl hrem hO ⊢
 refine Z1 O<|Gp O (λM=>?_) (λM=>?_)
 .have hil:i<q.length:=Zi;have hv:=bo hil;have hne:=aU hil;obtain⟨a,ha,hqa⟩:=bR.1 (B.mem_iff.1 (ak hil));have E:=pos_at B hil hqa;have W:=FO S hS V q.length D rem hrl a Zi;refine Vl<|Z1 O ?_;first|refine A2 O Zl ?_|refine A1 O ?_
  refine A1 O<|Z3 O<|RL.call O (iD [4] 5 call150 W (by rw[<-hqa];rfl) O O O ⟨O,Zp⟩ Zk O ?_);rintro _ _ ⟨⟨I,rfl,hIl,hI⟩,rfl⟩;refine A1 O<|Z3 O<|Gz O (st:=λs:Nat×cP=>([(2,WC),(4,WC),(5,WC),(6,WC),(9,WC),(10,WC),(30,WC),(31,WC),(32,WC),(41,WC),(42,WB (ZI s.1))],[(0,WC),(1,WC),(2,WB (Ft s.2)),(3,WC),(4,WC)])) 5
   (I:=λs=>s.1<=I.length/\s.2.length=q.length/\∀b,b<q.length->(b<s.1/\I.getD b YL=YK/\b≠a->s.2.getD b 0=(a:Int))/\(¬ (b<s.1/\I.getD b YL=YK/\b≠a)->s.2.getD b 0=Q.getD b 0)) (μ:=λs=>I.length-s.1) (x0:=(0,Q)) (YS O) (⟨sh _,hQl,λb _=>⟨λh=>absurd h.1 (W9 _),λ_=>rfl⟩⟩) ?_
  rintro⟨j,R⟩ ⟨hj,hRl,hR⟩;try simp only at hj hRl hR ⊢
  refine Z1 O<|Gp O (λU=>?_) (λU=>?_)
  .have hjl:j<I.length:=Zi;have hvj:=ME hjl;have H:=xN hjl;refine Vl<|Z2 O<|Z2 O<|Rs O (ai j aaw sz4 O O O hjl H) ?_;first|refine A2 O Zl ?_|refine A1 O ?_
   refine A1 O ?_;apply Vx 4 49 53 [50,51,52] O Zs
   .intro hb4;exact Ar 4 O<|Vp Zr O O O
   .intro hb4;exact Ar 4 O<|Vp Zr O O O
   refine Gc O (λu=>?_) (λu=>?_)
   .have hcc:I.getD j YL=YK/\j≠a:=by rw[hqa]at u;simp only[aJ,bne_iff_ne]at u;exact⟨u.1,Zi⟩
    exact Z4 O<|Rs O (ag j aal sz3 O O O O Zi)<|RL.step (d:=WC) O O (ba sz3 O O O O Zn)<|Z2 O<|⟨(j+1,R.set j a),Vn (aS O) ⟨O,O,ah (λc=>WB (Ob.cells 3 c)) (by rw[VY,hqa];exact ints_set R j a),O,O,Zp⟩ O O,⟨Zo,by simp[hRl],λb hb=>NB hRl hR hjl hIl hcc b hb⟩,Zo⟩
   have hcc:¬ (I.getD j YL=YK/\j≠a):=by rw[hqa]at u;rintro⟨h1,Z⟩;rw[h1,Yb]at u;exact absurd (inF u) Zi
   exact Vl<|Z2 O<|⟨(j+1,R),YS O,⟨Zo,hRl,λb hb=>H6 hR hcc b hb⟩,Zo⟩
  have hO2:NV S.aj.length (xd S) (ik q) (i+1) R:=hO.next z ha E (I:=λb=>I.getD b YL=YK) (λb hb=>Mu B D E hrem V (hI b)) (λb hb=>⟨λh=>(hR b Zi).1 ⟨Zi,h.1,h.2⟩,λh=>(hR b Zi).2 (λZ=>h ⟨Z.2.1,Z.2.2⟩)⟩);exact Gx O<|Z2 O<|Rs O (ag a aaw sz4 O O O hqa Zi)<|RL.step (d:=WC) O O (ba sz4 O O O O Zn)<|Z2 O<|⟨(i+1,R,rem.set a YK),Vn (aS O) ⟨O,O,O,O,ah (λc=>WB (Ob.cells 4 c)) (by simp[Wp];rfl),Zp⟩ O O,⟨Zo,hRl,by simp[hrl],λc hc=>NM B D ha E hrl hrem c hc,hO2⟩,Zo⟩
 have hord:Q=ordL S q:=(NV.last (me S) hp z Zi (by rw[show i=S.aj.length by omega]at hO;exact hO)).unique (wj V B);exact Gx O<|Z2 O<|YR O ⟨⟨ar ⟨_,aaH,O⟩ MQ O O O,Zp⟩,by show PV.agg [.sl WC q.length (aI Q)]=_;rw[<-hord,l7,al,hQl]⟩
theorem LU(h:Lj q q.length=YL):q.Nodup:=by
 have r:∀n,Lj q n=YL->∀k,k<n->¬q.getD k 0∈q.take k:=by
  intro n;induction n with
  |zero=>intro _ k hk;omega
  | succ n ih=>
    intro h k hk;simp only[Lj,V8,Xf]at h;by_cases e:k=n
    .subst e;exact h.2
    exact ih h.1 k Zi
 unfold List.Nodup;rw[Wz];intro i j hi hj hij e;refine r _ h j hj ?_;rw[getD_eq hj,<-e];exact je hij hi
theorem Oa(h:ofE S q=0):bF S=0/\q.Perm (upZ S.aj.length):=by
 unfold ofE at h;split at h
 .rename_i r;exact absurd h r
 rename_i s;have s:bF S=0:=V5 s;refine⟨s,?_⟩;split at h
 .cases h
 rename_i r;have r:q.length=S.aj.length:=V5 r;split at h
 .cases h
 rename_i z;split at h
 .cases h
 rename_i h3;have u:=LU (q:=q) (by simpa using h3);have D:∀a∈q,a∈upZ S.aj.length:=by
  intro a ha;have z:(q.any λa=>decide (a<0)||decide (a>=(q.length:Int)))=YL:=by simpa using z
  have:=Yr.1 z a ha;simp at this;obtain⟨x,hx⟩:=VG this.1;exact bR.2 ⟨x,Zi,hx⟩
 have B:((upZ S.aj.length).filter λa=>decide (a∈q)).Perm q:=dK (WY WN (cX _)) u λa=>by grind
 have hl:((upZ S.aj.length).filter λa=>decide (a∈q)).length=(upZ S.aj.length).length:=by rw[B.length_eq,r,bt]
 rw[List.length_filter_eq_length_iff]at hl;rw[Yw.2 hl]at B;exact B.symm
theorem OW(S:ZN)(hS:SB S)(q:cP)(W:q.length<=1000000):ZK prog 40 [fp S,al q] (· =ofV S q):=by
 refine ZK.fg2 (ZD func40 O ntmps40 λ_ _ _ _=>?_);have Z:=hS.a;refine Z3 O<|Z1 O<|Rs O (aa call85 (Ls S hS) O)<|A1 O<|Z2 O<|Gc O (λr=>?_) (λr=>?_)
 .exact Z4 O<|YR O ⟨⟨ar ⟨_,aaH,O⟩ MQ O O O,Zp⟩,(vt (by unfold ofE;rw[IT (inT r)]) (inT r)).symm⟩
 have h0:bF S=0:=inF r;have V:=ji h0;refine Vl<|Z4 O<|Z4 O<|Gc O (λu=>?_) (λu=>?_)
 .have hne0:¬q.length=S.aj.length:=by have:=inT u;omega
  exact Z3 O<|YR O ⟨⟨ar ⟨_,aaH,O⟩ MQ O O O,Zp⟩,(vt (by unfold ofE;rw[AS (λh=>h h0),IT hne0]) Zk).symm⟩
 have heq:q.length=S.aj.length:=by have:=inF u;omega
 refine Vl<|Z3 O<|Gz O (st:=λZq:Nat=>([(1,WC),(2,WC),(4,WC),(7,WC),(26,WC),(27,WC),(28,WB (ZI Zq))],[(0,WC),(1,WC)])) 2
  (I:=λZq=>Zq<=q.length/\((q.take Zq).any λa=>decide (a<0)||decide (a>=(S.aj.length:Int)))=YL) (μ:=λZq=>q.length-Zq) (x0:=0) (YS O) (⟨sh _,O⟩) ?_
 rintro k ⟨hk,hany⟩;refine Z1 O<|Gp O (λE=>?_) (λE=>?_)
 .have hlt:k<q.length:=Zi;have L:=bo hlt;have M:=aU hlt;refine Vl<|Z1 O ?_;first|refine A2 O Zl ?_|refine A1 O ?_
  refine A1 O<|Z3 O ?_;apply Vv 4 34 38 [35,36,37] O Zs
  .intro hb2;exact Ar 4 O<|Vp Zr O O O
  .intro hb2;exact Ar 4 O<|Vp Zr O O O
  refine Gc O (λz=>?_) (λz=>?_)
  .exact Z3 O<|YR O ⟨⟨ar ⟨_,aaH,O⟩ MQ O O O,Zp⟩,(vt (by unfold ofE;rw[AS (λh=>h h0),AS (λh=>h heq),IT (by rw[heq];exact sW (p:=λa=>decide (a<0)||decide (a>=(S.aj.length:Int))) hlt z)]) Zk).symm⟩
  exact Vl<|Z2 O<|⟨(k+1),YS O,⟨Zi,fM hlt hany z⟩,Zi⟩
 rw[aG Zi]at hany;refine Gx O<|Z3 O<|Gz O (st:=λs:Nat=>([(1,WC),(2,WC),(4,WC),(41,WC),(42,WC),(43,WB (ZI s))],[(0,WC),(1,WC)])) 2
  (I:=λs=>s<=q.length/\Lj q s=YL) (μ:=λs=>q.length-s) (x0:=0) (YS O) (⟨sh _,O⟩) ?_
 rintro j ⟨hj,hdup⟩;refine Z1 O<|Gp O (λH=>?_) (λH=>?_)
 .have hlt:j<q.length:=Zi;have L:=bo hlt;have M:=aU hlt;have D:=getD_eq hlt (0:Int);have U:PV.sl WC j ((aI q).take (j*1))=al (q.take j):=by simp[al,Zd];omega
  refine Vl<|Z2 O ?_;first|refine A2 O Zl ?_|refine A1 O ?_
  refine Y2 O<|Z2 O<|Rs O (XJ.cast (v':= .pv (al (q.take j))) (dL j aal sz3 O O O Zi Zm) (by rw[<-U]))<|A1 O<|Rs O (aa call86 (Bo (q.take j) q[j] Zn) O)<|Gc O (λB=>?_) (λB=>?_)
  .exact Z3 O<|YR O ⟨⟨ar ⟨_,aaH,O⟩ MQ O O O,Zp⟩,(vt (by unfold ofE;rw[AS (λh=>h h0),AS (λh=>h heq),AS (by rw[heq,hany];decide),IT (UL hlt (by rw[D];exact B))]) Zk).symm⟩
  exact Vl<|Z2 O<|⟨(j+1),YS O,⟨Zi,by simp only[Lj,hdup,D,B];rfl⟩,Zi⟩
 have he:ofE S q=0:=by unfold ofE;rw[AS (λh=>h h0),AS (λh=>h heq),AS (by rw[heq,hany];decide),AS (by rw[show q.length=j by omega,hdup];decide)]
 exact Gx O<|Z2 O<|Rs O (aa call87 (L6 S hS V q (Oa he).2) O)<|Y2 O<|YR O ⟨⟨ar ⟨_,aaH,O⟩ MQ O O O,Zp⟩,by unfold ofV;rw[he,IT O];rfl⟩
end

section
open Mk
theorem Kv(r:UpOk P):(dS P).length=P.length:=by rw[(fV r).length_eq,bt]
end
theorem MY{P:Program}{args:na}{us:e7}(h:ZK P f args (· = .bool YK))(w:World)(s:r4 w (λb=>b<w.heap.size))(r:ZG w (λb=>b<w.heap.size) args us):
  Calls P f us.toArray w λe w'=>e= .returned (.bool YK)/\Below w.heap.size w w':=
 (h w _ us s (λ_ hb=>hb) r).mono λ_ _ ⟨u,v,e,hv,hb,hr⟩=>by grind[ZH]
section
open Mk
theorem sw:∀{l:cP},l.Pairwise (· < ·)->(∀a∈l,0<=a/\a<n)->l.length<=n:=by
 intro l hp hr;have r:l.Nodup:=hp.imp (λh e=>by omega);have s:∀a∈l,a∈upZ n:=λa ha=>by
  obtain⟨x,hx⟩:=VG (hr a ha).1;exact bR.2 ⟨x,by have:=(hr a ha).2;omega,hx⟩
 have:(((upZ n).filter λa=>decide (a∈l))).Perm l:=dK (WY WN (cX _)) r λa=>by grind
 rw[<-this.length_eq];exact OF (Wx _ _) (by rw[bt];exact BY _)
theorem JX(p:UInt8)(i:Nat):(nm p i).size=2:=by unfold nm chr;simp[X8];rfl
theorem Jz{most o:Nat}(h:Made S most o)(z:most<=8):SB S:=by
 have r:=h.a2;have s:=h.r2;have u:=eW h.fs;refine⟨Zi,Zi,Zi,λx hx=>?_,λx hx=>?_,λx hx=>?_⟩
 .obtain⟨i,hi,rfl⟩:=Xp hx;rw[(h.at' i hi).1,JX];decide
 .obtain⟨i,hi,rfl⟩:=Xp hx;rw[(h.rs i hi).1,JX];decide
 obtain⟨i,hi,rfl⟩:=Xp hx;have:=sw (h.rs i hi).2.2.1 (h.rs i hi).2.2.2;omega
section
variable {C:Ctx}{n:Nat}{σ:St}{dst:YX}{ty:TypeId}{ts:Array TypeId}{pos:String}{after:Y4}{gd:Option (Nat×Bool)}
def RM(T:TypeId)(id:Nat)(Q:PV->na->Prop)(s:OS):Prop:=∃r cs',Q r cs'/\s=⟨.pv r,[(id,WB (.mix T (cs'.map .pv)))],[]⟩
theorem relM{ps:na}{Q:PV->na->Prop}(hc:bS C.P f)(z:FnM C.P f T cs ps Q)(u:xs.toList.map (σ.ev n)= .ptr id 0::ps.map .pv)(ho:σ.ob id=WB (.mix T (cs.map .pv))):
  OJ C n ⟨dst,.call { callee:= .value (.func f),args:=xs,argTypes:=ts },ty,pos,after,gd⟩ (λτ'=>∃s,RM T id Q s/\s.wr.map (·.1)=[id]/\s.nw=[]/\τ'=σ.app dst s) σ:=
 kL hc z u ho λr cs' h=>⟨_,⟨r,cs',h,O⟩,O,O,O⟩
end
end
section
open Mk
theorem xq(L:cP)(k:Nat)(H:L.length<=600)(M:k<=L.length)(S:ZN)(hS:SB S)(D:bF S=0):
  FnM prog 18 73 (jo L k) [fp S] (λv c=>(∃q:cP,q.Perm (upZ S.aj.length)/\v=l7 (ordL S q))/\∃k',k'<=L.length/\c=jo L k'):=by
 refine FnM.ofC (rt:=32) (k:=1) func18 O ntmps18 Zm O Zm ⟨_,aaH,O⟩ MQ λ_ _ _ _=>?_
 have z:=ji D;have B:=z.n2;have u:=z.n1;refine Z2 O<|Ge O follows [0,1,2,3,4,10,5,6,7,8,9,11,12] Zj<|Dr 6 O<|DL.rel (RM 73 big (λv c=>(∃q:cP,q.Perm (upZ S.aj.length)/\v=al q)/\∃k',k'<=L.length/\c=jo L k')) [big] [] [big] O O O (λτ h=>relM call41 (yz L k S.aj.length H M u Zi) (h.args.trans O) (Eo h 0 O)) O Zj Zj Zj ?_;rintro _ ⟨_,_,⟨⟨q,hq,rfl⟩,k2,hk2,rfl⟩,rfl⟩ _ _;have E:q.length=S.aj.length:=by rw[hq.length_eq,bt]
 have r:ofV S q= .bS [l7 (ordL S q),.int .i64 0]:=by unfold ofV;rw[Nx D hq,IT O]
 have s:=OW S hS q Zi;rw[r]at s;refine YM O (λτ h=>aa call40 s (h.aE O))<|Dr 5 O ⟨Zj,Z2 O<|Gt O<|⟨1,_,[al (ordL S q)],jo L k2,O,O,O,O,O,⟨q,hq,O⟩,k2,hk2,O⟩⟩
end


section
open Mk Jn
theorem nj:∀(x y:List UInt8),Op.bytesLess x y=decide (x<y)
 |[],[]=>by simp[Op.bytesLess]
 |_::_,[]=>by simp[Op.bytesLess]
 |[],_::_=>by simp[Op.bytesLess]
 | a::x,b::y=>by
   rw[Op.bytesLess,nj x y];simp only[List.cons_lt_cons_iff];by_cases h1:a<b<;>by_cases h2:a=b<;>by_cases h3:x<y<;>simp[h1,h2,h3]
theorem tS(x:er)(a b:hC):cR (x::a) (x::b)=cR a b:=by unfold cR Ey;rw[V0,VJ,VJ,ed,ed,List.cons_lt_cons_iff];simp[List.lt_irrefl]
theorem Pa{x y:er}(h:x≠y)(a b:hC):cR (x::a) (y::b)=Op.bytesLess x.toList y.toList:=by unfold cR Ey;rw[nj,ByteArray.toList_eq,ByteArray.toList_eq,V0,VJ,VJ,ed,ed,List.cons_lt_cons_iff];exact⟨λk=>k.elim id λe=>absurd (GV e.1) h,.inl⟩
theorem vP:∀{i:Nat}{a b:hC}(r:i<a.length)(s:i<b.length),a.take i=b.take i->a[i]≠b[i]->cR a b=Op.bytesLess a[i].toList b[i].toList
 |0,x::a,y::b,_,_,_,h=>Pa h a b
 | i+1,x::a,y::b,r,s,ht,h=>by
   rw[Yx,Yx,Xd]at ht;obtain⟨rfl,ht⟩:=ht;rw[tS];exact vP (by simpa using r) (by simpa using s) ht h
theorem mL:∀{i:Nat}{a b:hC},i<=a.length->i<=b.length->(i=a.length\/i=b.length)->a.take i=b.take i->cR a b=decide ((a.length:Int)<b.length)
 |_,[],[],_,_,_,_=>by simp[cR,Ey]
 |_,[],y::b,_,_,_,_=>by simp[cR,Ey]
 |_,x::a,[],_,_,_,_=>by simp[cR,Ey];omega
 |0,x::a,y::b,_,_,h,_=>by simp at h
 | i+1,x::a,y::b,ha,hb,h,ht=>by
   rw[Yx,Yx,Xd]at ht;obtain⟨rfl,ht⟩:=ht;rw[tS,mL (i:=i) (by simpa using ha) (by simpa using hb) (by simpa using h) ht];simp
theorem Fs(a b:hC)(E:a.length<=1000000)(H:b.length<=1000000):ZK prog 151 [bh a,bh b] (· = .bool (cR a b)):=by
 refine ZC func151 O ntmps151 λ_ _ _ _=>?_
 refine Z1 O<|Z1 O<|Gz O (st:=λZq:Nat=>([(0,WC),(1,WC),(5,WB (ZI Zq))],[])) 0
  (I:=λZq=>(Zq<=a.length/\Zq<=b.length)/\a.take Zq=b.take Zq) (μ:=λZq=>a.length-Zq) (x0:=0) (Vn (aS O) trivial O O) (⟨⟨sh _,sh _⟩,O⟩) ?_
 rintro i ⟨hi,ht⟩;refine Gr O<|Ar 5 O ?_;apply Vx 5 10 15 [11,12,13,14] O Zs
 .intro hb4;exact Ar 5 O<|Vp Zr O O O
 .intro hb4;exact Ar 5 O<|Vp Zr O O O
 refine Gc O (λs=>?_) (λs=>?_)
 .have hab:i<a.length/\i<b.length:=by simp at s;omega
  have u:=bD hab.1;have z:=cz hab.1;have B:=bD hab.2;have D:=cz hab.2;refine Vl<|VC 9 O<|Dr 3 O ?_;first|refine D2 O O Zl ?_|refine D1 O O ?_
  refine Dr 3 O ?_;first|refine D2 O O Zl ?_|refine D1 O O ?_
  refine D1 O O ⟨Zj,Gc O (λr=>?_) (λr=>?_)⟩
  .refine VC 10 O<|Dr 3 O ?_;first|refine D2 O O Zl ?_|refine D1 O O ?_
   refine Dr 3 O ?_;first|refine D2 O O Zl ?_|refine D1 O O ?_
   refine Dr 2 O ⟨Zj,YR O<|ah PV.bool (vP hab.1 hab.2 ht (λe=>by rw[e]at r;simp at r)).symm⟩
  exact Vl<|Z3 O<|⟨(i+1),Vn (aS O) trivial O O,⟨⟨Zi,Zi⟩,by rw[AI hab.1,AI hab.2,ht,show a[i]=b[i]from baT (by simpa using r)]⟩,Zi⟩
 exact Gx O<|Gr O<|Ar 6 O<|YR O<|ah PV.bool (mL (i:=i) hi.1 hi.2 (by simp at s;omega) ht).symm
theorem FZ(a b:hC)(L:a.length<=1000000)(M:b.length<=1000000):ZK prog 152 [bh a,bh b] (· = .bool (decide (a=b))):=by
 refine ZC func152 O ntmps152 λ_ _ _ _=>?_
 refine Z1 O<|Gr O<|Ar 5 O<|Gc O (λr=>?_) (λr=>?_)
 .exact Z1 O<|YR O<|ah PV.bool (VL (λe=>by rw[e]at r;simp at r)).symm
 have hl:a.length=b.length:=by simp at r;omega
 refine Vl<|Z3 O<|Gz O (st:=λZq:Nat=>([(0,WC),(1,WC),(12,WC),(13,WB (ZI Zq))],[])) 0
  (I:=λZq=>Zq<=a.length/\a.take Zq=b.take Zq) (μ:=λZq=>a.length-Zq) (x0:=0) (Vn (aS O) trivial O O) (⟨sh _,O⟩) ?_
 rintro i ⟨hi,ht⟩;refine Z1 O<|Gp O (λz=>?_) (λz=>?_)
 .have ha1:i<a.length:=Zi;have u:i<b.length:=Zi;have B:=bD ha1;have D:=cz ha1;have E:=bD u;have H:=cz u;refine Vl<|Z2 O<|VC 9 O<|Dr 3 O ?_;first|refine D2 O O Zl ?_|refine D1 O O ?_
  refine Dr 3 O ?_;first|refine D2 O O Zl ?_|refine D1 O O ?_
  refine D1 O O ⟨Zj,Gc O (λs=>?_) (λs=>?_)⟩
  .exact Z1 O<|YR O<|ah PV.bool (VL (λe=>by subst e;simp at s)).symm
  exact Vl<|Z2 O<|⟨(i+1),Vn (aS O) trivial O O,⟨Zi,by rw[AI ha1,AI u,ht,show a[i]=b[i]from baT (by simpa using s)]⟩,Zi⟩
 exact Gx O<|Z1 O<|YR O<|ah PV.bool (VK (by rwa [aG Zi,aG Zi]at ht)).symm
end
section
section
variable {C:Ctx}{n:Nat}{σ:St}{dst:YX}{ty t:TypeId}{pos:String}{after:Y4}{gd:Option (Nat×Bool)}{x y:Operand}
theorem gw{e:TypeId}{s:Nat}{kl:IntKind}{il:Int}{o:Ob}(l:Nat)(B:C.P.underlying T=WB (.slice e))(hs:b8 C.P e s)(D:σ.ev n x= .bJ id s k)(ho:σ.ob id=WB o)(E:σ.ev n y= .pv (.int kl il))(H:il=(l:Int))(L:l<=k)(u:o.real=YK:=by rfl):
  XJ C n ⟨dst,.slice T x (WB y) WC WC,ty,pos,after,gd⟩ σ ⟨.tsl id (l*s) (k-l),[],[]⟩:=
 .val λa w m R hw=>by
  obtain⟨b,N,c,he,hkc,hcm,hN,hm,hor⟩:=hw.bJ D ho u;have z:a.eval y= .int kl l:=by rw[hw.int E,H]
  have r:σ.av id=YL:=by
   cases hv:σ.av id with
   |false=>rfl
   |true=>have:=hw.hr.free id hv;rw[ho]at this;cases this
  refine⟨.slice (if c=l then WB ⟨b,0,WC⟩else(WB ⟨b,0,WC⟩:Option Addr).map (·.add (l*s))) (k-l) (c-l),?_,?_⟩
  .simp[execOp,he,z,Instr.sliceAt,Instr.slice,Instr.sliceBounds,Instr.sliceBound,asIntOf,run_underlying B,hs.run,L]
  simp only[Rel];refine⟨r,_,_,O,λhp b' N' e=>?_⟩;rw[hm]at e;cases e;rw[AS Zi];simp[Addr.add_lit]
theorem PK.tsl{off size:Nat}(z:σ.ev n y= .tsl id off j)(ho:σ.ob id=WB (.cells T cs))(s:news=cs.drop off)(hl:news.length=j*size):PK C n σ y j news:=by
 intro a w m R hw;have h:=hw.ev y;rw[z]at h;simp only[Rel]at h;obtain⟨hav,A,c,he,hA⟩:=h;obtain⟨b,N,hm,arr,hb,hsz,hle,hr⟩:=hw.live ho;refine⟨A,c,(arr.toList.take cs.length).drop off,he,by rw[s];exact hr.drop off,λr=>?_⟩;have u:0<j:=by
  rcases WG j with h0|h0
  .exfalso;apply r;rw[h0,Zg,s,Xb]at hl;rw[List.drop_eq_nil_iff,Vz];omega
  exact h0
 refine⟨b,off,hA u b N hm,Zp,(hw.hr.own id b N hm).1,λi hi=>?_⟩;simp only[Xb,Vz]at hi;rw[cell_of_row w b (off+i) arr T (0,0) hb,WM,V2,IT Zi];simp
theorem oR.any(h:oR n σ y j news):PK C n σ y j news:=λr=>h.row r
end
end
def St.gsO(σ:St)(t id sz n:Nat)(T:TypeId)(cs:na):St:=⟨upd σ.sl t (.bz id sz n),obL [(id,WB (.bD T cs))] σ.ob,σ.av⟩
theorem St.Jf{σ:St}(t:Nat)(r:σ.sl t= .bJ id sz n)(ho:σ.ob id=WB (.cells T cs))(s:0<n)(hc:cs≠[]):σ.le (σ.gsO t id sz n T cs):=
 St.vO fun{C nn a w m R} hw=>⟨λq hq=>by
  show Rel w m σ.av R (upd σ.sl t (.bz id sz n) q) _;by_cases e:q=t
  .subst e;rw[aA];have:=hw.sl q hq;rw[r]at this;simp only[Rel]at this ⊢;obtain⟨b,N,hm,_⟩:=hw.live ho;obtain⟨h0,h1⟩:=this;obtain⟨c,he,h2,h3,h4⟩:=h1 b N hm;exact⟨h0,_,c,he,h2,h3,λe=>by omega,λ_ b' N' hm'=>by rw[hm]at hm';cases hm';exact⟨O,h4⟩⟩
  .rw[a7 _ _ e];exact hw.sl q hq,λp hp=>by
  obtain rfl:=VH.1 hp;exact⟨_,_,ho,O,cQ hc,λ_ _ _ h=>h⟩⟩
def St.nilS(σ:St)(t:Nat):St:=⟨upd σ.sl t (.pv nS),σ.ob,σ.av⟩
theorem St.LQ{σ:St}(t:Nat)(r:σ.sl t= .bz id sz 0):σ.le (σ.nilS t):=by
 rintro C nn a w ⟨m,R,hw⟩;refine⟨m,R,hw.hr,hw.df,hw.sz,λq hq=>?_⟩;show Rel w m σ.av R (upd σ.sl t (.pv nS) q) _;by_cases e:q=t
 .subst e;rw[aA];have:=hw.sl q hq;rw[r]at this;simp only[Rel,ZH]at this ⊢;obtain⟨_,A,c,he,h1,h2,h3,_⟩:=this;obtain⟨rfl,rfl,_⟩:=h3 trivial;exact⟨WC,0,he,h1,h2,(λ_ e=>by cases e;rfl),(λ_=>rfl),λe=>absurd O e⟩
 rw[a7 _ _ e];exact hw.sl q hq
end Go.Proofs.YthicoeegbdboeaaGreatDoor
