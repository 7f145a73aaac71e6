/- Lemmas. No condition. -/
import Derived.Lib.Builder
import Derived.Lib.UnsafeStr
import Derived.Lib.AppendStr
import Derived.Laws.Externs
import Derived.Laws.Pointers
import Derived.Lib.Walk
import Derived.Lib.ItoaMem
import Derived.BigCall
import Derived.BigGuard
import Derived.Laws.StructEq
import Derived.Tactics
import Derived.Tactics2
import Derived.Test.YtkkenamefaegfaaGreatDoorJE7
set_option maxRecDepth 100000
set_option maxHeartbeats 4000000
open Go.RowKit Go.Proofs.Tryz
open Option renaming some→UF,none→UG
open Bool renaming true→VA,false→VC
namespace Go.Proofs.YtkkenamefaegfaaGreatDoor
variable{k j c r id off v b n a:Nat}{l:List ByteArray}{s:ByteArray}{f:FuncId}{e T d:TypeId}{o:Ob}{P:Program}{cs:List V}{w:World}{R:Nat->Prop}{q:Rat}{S:Sch}{A ls:List Int}{α:Type}{u:Value}
section
open Mk Jn
abbrev qE(x:Rw):List PV:=[bh x.v,.int .i64 x.w]
def bt(l:List Rw):List PV:=l.flatMap qE
abbrev oi(l:List Rw):PV:= .sl UG l.length (bt l)
theorem cj(l:List Rw):(bt l).length=l.length*2:=bM _ 2 (λ_=>rfl) l
theorem fo{l:List Rw}(h:k<l.length):((bt l).drop (k*2)).take 2=qE l[k]:=cZ _ 2 (λ_=>rfl) l k h
theorem gR{l:List Rw}(h:k<l.length):bt l≠[]:=λe=>by have:=cj l;rw[e]at this;simp at this;omega
theorem HW{l:List Rw}(h:k<l.length):(bt l)[k*2]? =UF (bh l[k].v):=by
 have:=fo h;have z:(((bt l).drop (k*2)).take 2)[0]? =(qE l[k])[0]? :=by rw[this]
 simpa[TS,UN]using z
theorem P3{l:List Rw}(h:k<l.length):(bt l)[k*2+1]? =UF (.int .i64 l[k].w):=by
 have:=fo h;have z:(((bt l).drop (k*2)).take 2)[1]? =(qE l[k])[1]? :=by rw[this]
 simpa[TS,UN]using z
theorem pQ(l m:List Rw):bt (l++m)=bt l++bt m:=by simp[bt]
theorem vr(l:List Rw)(x:Rw):bt l++qE x=bt (l++[x]):=by simp[bt]
theorem iC(l:List Rw):∀c∈bt l,c.leaf=VA:=λc hc=>by
 obtain⟨t,_,hc⟩:=Uk.1 hc;simp only[BY,UI,V9]at hc;rcases hc with rfl|rfl<;>rfl
theorem xR(l:List Rw)(k:Nat):(bt l).take (k*2)=bt (l.take k)/\(bt l).drop (k*2)=bt (l.drop k):=by
 have e:bt l=bt (l.take k)++bt (l.drop k):=by rw[<-pQ,Ug]
 rcases Vo l.length k with h|h
 .grind[cj,aH,List.drop_eq_nil_of_le]
 have hl:(bt (l.take k)).length=k*2:=by rw[cj,TC,Ul h]
 constructor
 .grind
 grind
theorem GG{l:List Rw}(h:k<l.length)(w:Int):(bt l).set (k*2+1) (.int .i64 w)=bt (l.set k ⟨l[k].v,w⟩):=by
 induction l generalizing k with
 |nil=>simp at h
 | cons a l ih=>
   cases k with
   |zero=>rfl
   | succ k=>
     have z:k<l.length:=by simpa using h
     have e:=ih z;rw[show(k+1)*2+1=k*2+1+1+1 by omega];show(bh a.v::PV.int .i64 a.w::bt l).set (k*2+1+1+1) _=bh a.v::PV.int .i64 a.w::bt (l.set k ⟨l[k].v,w⟩);rw[List.set_cons_succ,List.set_cons_succ,e]
theorem JP{x:Rw}:∀{i:Nat}{out:List Rw}(h:i<out.length),(∀j (z:j<out.length),j<i->bO out[j].v x.v=VA)->bO out[i].v x.v=VC->out[i].v=x.v->fS x out=out.set i ⟨out[i].v,out[i].w+x.w⟩
 |0,y::l,_,_,h2,h3=>by grind[fS]
 | i+1,y::l,h,h1,h2,h3=>by
   rw[fS,By (show bO y.v x.v=VA from h1 0 Xn Xj),JP (i:=i) (by simpa using h) (λj z hji=>h1 (j+1) (by simpa using z) Xj) (by simpa using h2) (by simpa using h3)];rfl
theorem tS{x:Rw}:∀{i:Nat}{out:List Rw},i<=out.length->(∀j (z:j<out.length),j<i->bO out[j].v x.v=VA)->(∀(h:i<out.length),bO out[i].v x.v=VC/\out[i].v≠x.v)->fS x out=out.take i++x::out.drop i
 |0,[],_,_,_=>rfl
 |0,y::l,_,_,h2=>by grind[fS]
 | i+1,y::l,h,h1,h2=>by
   rw[fS,By (show bO y.v x.v=VA from h1 0 Xn Xj),tS (i:=i) (by simpa using h) (λj z hji=>h1 (j+1) (by simpa using z) Xj) (λB=>h2 (by simpa using B))];rfl
theorem Gu{x:Rw}{B X:Int}(hB:0<=B)(E: -X<=x.w/\x.w<=X):∀{l:List Rw},(∀y∈l, -B<=y.w/\y.w<=B)->∀y∈fS x l, -(B+X)<=y.w/\y.w<=B+X
 |[],_,y,hy=>by rw[fS,TF]at hy;rw[hy];omega
 | z::l,h,y,hy=>by
   have hz:=h z Xn;have D:∀y∈l, -B<=y.w/\y.w<=B:=λy hy=>h y (by simp[hy])
   rw[fS]at hy;split at hy
   .rcases BY.1 hy with rfl|hy
    .omega
    exact Gu hB E D y hy
   grind
structure SoF(l:List Rw)(k:Nat)(out:List Rw):Prop where
 e:out=(l.take k).foldl (λout x=>fS x out) []
 v:∀y∈out,y.v.length<=1000
 w:∀y∈out, -((k:Int)*1000000)<=y.w/\y.w<=(k:Int)*1000000
 n:out.length<=k
theorem SoF.zero(l:List Rw):SoF l 0 []:=⟨O,λ_ h=>absurd h Xn,λ_ h=>absurd h Xn,AT _⟩
theorem SoF.succ{l out:List Rw}(h:SoF l k out)(D:k<l.length)(E:l[k].v.length<=1000)(G: -1000000<=l[k].w/\l[k].w<=1000000):SoF l (k+1) (fS l[k] out):=by
 refine⟨?_,λy hy=>?_,λy hy=>?_,?_⟩
 .rw[AI D,VN,<-h.e];rfl
 .rcases pr hy with e|⟨z,hz,e⟩
  .rw[e];exact E
  rw[e];exact h.v z hz
 .have:=Gu (B:=(k:Int)*1000000) (X:=1000000) Xj G h.w y hy;have e:((k+1:Nat):Int)*1000000=(k:Int)*1000000+1000000:=Xj;rw[e];exact this
 have:=tO l[k] out;have:=h.n;omega
theorem Da(l:List Rw)(hl:l.length<=1000)(hv:∀x∈l,x.v.length<=1000)(hw:∀x∈l, -1000000<=x.w/\x.w<=1000000):FnP prog 68 [oi l] (· =oi (oT l)):=by
 refine FnP.of func68 O ntmps68 Xn λ_ _ _ _=>?_
 have aA:=cj l;refine Z1 O<|Z1 O<|Tj (Tp 3 0 2 59 O O)<|Z3 O<|Gz O (st:=λXr:Nat×List Rw=>([(3,UF (.gsl 0 2 Xr.2.length)),(10,UG),(11,UG),(12,UF (pIi Xr.1))],[(0,UF (.gro 59 (bt Xr.2)))])) 1
  (I:=λXr=>Xr.1<=l.length/\SoF l Xr.1 Xr.2) (μ:=λXr=>l.length-Xr.1) (x0:=(0,[])) (WA O) (⟨aJ _,SoF.zero l⟩) ?_
 rintro⟨k,out⟩ ⟨hk,hs⟩;try simp only at hk hs ⊢
 refine Z1 O<|Gp O (λak=>?_) (λak=>?_)
 .have hlt:k<l.length:=Xj;have az:=fo hlt;have aB:=gR hlt;have am:=hv _ (aq hlt);have an:=hw _ (aq hlt);have W:=hs.succ hlt am an;have ao:=hs.n;have ap:=cj out;have ar:=hs.w;have ad:=hs.v;generalize l[k]=x at*;refine Ti<|Z1 O<|A3 O Xm ?_;refine Y2 O ?_;by_cases he:out=[]
  .have hl0:out.length=0:=by rw[he];rfl
   refine Tj (St.Rb 3 (id:=0) (sz:=2) (ah (λn=>V.gsl 0 2 n) hl0))<|Z1 O<|Gz O (st:=λE:Nat=>([(3,UG),(5,UG),(6,UF (pIi E)),(10,UG),(11,UG),(12,UG)],[(1,UG)])) 2
    (I:=λE=>E<=out.length/\∀j (hj:j<out.length),j<E->bO out[j].v x.v=VA) (μ:=λE=>out.length-E) (x0:=0) (WA O) (⟨aJ _,λj _ h=>absurd h Xj⟩) ?_
   rintro i ⟨hi,hall⟩;refine UB 14 O<|Dr 3 O<|TR O (λτ h=>fI (Ee h 0 O O) (Ee h 1 O O) O (TL Xj))<|Dr 10 O ?_;refine⟨Xk,?_⟩;refine Gc O (λz=>absurd z Xn) (λz=>?_);refine Gx O<|UB 14 O<|Dr 3 O<|TR O (λτ h=>fI (Ee h 0 O O) (Ee h 1 O O) O (TL Xj))<|Dr 10 O ?_;refine⟨Xk,?_⟩;refine Gc O (λD=>absurd D Xn) (λD=>?_);refine Ti ?_;obtain rfl:i=0:=Xj;have G:fS x out=[x]:=by rw[he];rfl
   refine UB 11 O<|Dr 8 O<|VE [_] O (λτ h=>dC 3 N1 (Ee h 0 O O) (Eo h 0 O O) O (.inl ⟨_,(Ee h 1 O O)⟩) O Xn Xj (h.n 0 _ O))<|VE [_] O (λτ h=>lN 4 N1 (Ee h 0 O O) (.inr ⟨_,_,_,_,(Ee h 1 O O),(Eo h 0 O O),O⟩) O (iC [x]) Xj (h.n 0 _ O))<|D1 O ?_;refine⟨Xk,?_⟩;exact Z2 O<|⟨(k+1,fS x out),Tl [4] ⟨ah (λn=>V.gsl 4 2 n) (show 1=(fS x out).length by rw[G];rfl),O,O,O,Xq⟩ ⟨TX (b:=UF (.gro 59 (qE x))) Xk (ah (λc=>UF (Ob.gro 59 c)) (show qE x=bt (fS x out) by rw[G];rfl)),Xq⟩ O O Xl O,⟨Xj,W⟩,Xp⟩
  have hpos:0<out.length:=Uq.2 he;have X:bt out≠[]:=gR hpos;refine Tj (St.J8 3 O O hpos X)<|Z1 O<|Gz O (st:=λE:Nat=>([(3,UG),(5,UG),(6,UF (pIi E)),(10,UG),(11,UG),(12,UG)],[(0,UG),(1,UG)])) 2
   (I:=λE=>E<=out.length/\∀j (hj:j<out.length),j<E->bO out[j].v x.v=VA) (μ:=λE=>out.length-E) (x0:=0) (WA O) (⟨aJ _,λj _ h=>absurd h Xj⟩) ?_
  rintro i ⟨hi,hall⟩;by_cases hi2:i<out.length
  .have hov:(bt out)[i*2+0]? =UF (bh out[i].v):=HW hi2;have au:=P3 hi2;have Y:=aq hi2;have aC:=ar _ Y;have ax:=Ev out[i].v x.v (by have:=ad _ Y;omega) Xj;have ay:=sT out[i].v x.v (by have:=ad _ Y;omega) Xj;refine UB 14 O<|Dr 3 O<|TR O (λτ h=>cU (Ee h 0 O O) (Ee h 1 O O) O (TD Xj))<|Dr 5 O<|Dg [_] O (λτ h=>dA ⟨_,underlying53,O⟩ (Ee h 0 O O) (Eo h 0 O O) hov) O Xk<|Dr 2 O<|Dg [] O (λτ h=>aa call133 ax (h.aD O)) O Xk<|D1 O ?_;refine⟨Xk,?_⟩;refine Gc O (λz=>?_) (λz=>?_)
   .exact Ti<|Z3 O<|⟨(i+1),WA O,⟨Xj,λj hj hji=>if h:j<i then hall j hj h else(by obtain rfl:j=i:=Xj;exact z)⟩,Xj⟩
   refine Gx O<|UB 14 O<|Dr 3 O<|TR O (λτ h=>cU (Ee h 0 O O) (Ee h 1 O O) O (TD Xj))<|Dr 5 O<|Dg [_] O (λτ h=>dA ⟨_,underlying53,O⟩ (Ee h 0 O O) (Eo h 0 O O) hov) O Xk<|Dr 2 O<|Dg [] O (λτ h=>aa call13 ay (h.aD O)) O Xk<|D1 O ?_;refine⟨Xk,?_⟩;refine Gc O (λD=>?_) (λD=>?_)
   .have hins:fS x out=out.set i ⟨out[i].v,out[i].w+x.w⟩:=JP hi2 hall (by simpa using z) (Vi D);refine UB 11 O<|Dr 4 O<|VE [_] O (λτ h=>dA ⟨_,underlying3,O⟩ (Ee h 0 O O) (Eo h 0 O O) au)<|Dr 5 O<|DL.step (d:=UG) [_] O O O (λτ h=>dB sz3 (Ee h 0 O O) (Eo h 0 O O) (Ee h 1 O O) O (by first|omega|(simp;omega))) O Xk ?_;refine⟨Xk,?_⟩;refine Tj (St.Ir 3 O O hpos (by intro e;have h:=ah List.length e;rw[TQ]at h;exact X (T6 h))) ?_;exact Gx O<|Z2 O<|⟨(k+1,fS x out),Tk ⟨ah (λn=>V.gsl 0 2 n) (show out.length=(fS x out).length by rw[hins,TQ]),O,O,O,Xq⟩ ⟨TX (b:=UF (.gro 59 ((bt out).set (i*2+1) (.int .i64 (out[i].w+x.w))))) Xk (ah (λc=>UF (Ob.gro 59 c)) (by rw[hins];exact GG hi2 _)),Xq⟩ O O,⟨Xj,W⟩,Xp⟩
   refine Ti ?_;have G:fS x out=out.take i++x::out.drop i:=tS hi hall (λh=>⟨by simpa using z,Vk D⟩);have J:=xR out i;have L:((bt out).drop (i*2)).length=(out.length-i)*2:=by rw[UQ];omega
   have B:((qE x).take (1*2)++(bt out).drop (i*2)).take ((1+(out.length-i))*2)=bt (x::out.drop i):=by
    rw[J.2,show(qE x).take (1*2)++bt (out.drop i)=bt (x::out.drop i)from O,aH];rw[cj,IT,UQ];omega
   have Z:(((qE x).take (1*2)++(bt out).drop (i*2)).take ((1+(out.length-i))*2)).length=(1+(out.length-i))*2:=by rw[B,cj,IT,UQ];omega
   have ab:∀c∈((qE x).take (1*2)++(bt out).drop (i*2)).take ((1+(out.length-i))*2),c.leaf=VA:=by rw[B];exact iC _
   have M:(bt out).take (i*2)++((qE x).take (1*2)++(bt out).drop (i*2)).take ((1+(out.length-i))*2)=bt (fS x out):=by rw[B,J.1,G,pQ]
   have ac:i+(1+(out.length-i))=(fS x out).length:=by rw[G,IN,IT,TC,UQ];omega
   refine UB 11 O<|Dr 2 O<|VE [_] O (λτ h=>jK i underlying57 Kl (Ee h 0 O O) (Eo h 0 O O) (Ee h 1 O O) O hi)<|Dr 4 O<|VE [_] O (λτ h=>mO i underlying57 Kl (Ee h 0 O O) (Eo h 0 O O) (Ee h 1 O O) O hi)<|VE [_,_] O (λτ h=>dt 3 N1 (Ee h 0 O O) (Eo h 0 O O) (AT _) (Od.tsl (Ee h 1 O O) (Eo h 1 O O) O L) L (λc hc=>iC out c (Vq hc)) Xj (h.n 0 _ O))<|VE [_,_] O (λτ h=>dt 4 N1 (Ee h 0 O O) (Eo h 0 O O) Xj (ox.any (.inr ⟨_,_,_,_,(Ee h 1 O O),(Eo h 1 O O),O⟩)) Z ab Xj (h.n 0 _ O))<|D1 O ?_;refine⟨Xk,?_⟩;exact Tj (St.Ir 3 O O Xj (λe=>gR (l:=fS x out) (k:=0) Xj (M.symm.trans e)))<|Z2 O<|⟨(k+1,fS x out),Tl [4] ⟨ah (λn=>V.gsl 4 2 n) ac,O,O,O,Xq⟩ ⟨TX (b:=UF (.gro 59 ((bt out).take (i*2)++((qE x).take (1*2)++(bt out).drop (i*2)).take ((1+(out.length-i))*2)))) Xk (ah (λc=>UF (Ob.gro 59 c)) M),Xq⟩ O O Xl O,⟨Xj,W⟩,Xp⟩
  refine UB 14 O<|Dr 3 O<|TR O (λτ h=>fI (Ee h 0 O O) (Ee h 1 O O) O (TL Xj))<|Dr 10 O ?_;refine⟨Xk,?_⟩;refine Gc O (λz=>absurd z Xn) (λz=>?_);refine Gx O<|UB 14 O<|Dr 3 O<|TR O (λτ h=>fI (Ee h 0 O O) (Ee h 1 O O) O (TL Xj))<|Dr 10 O ?_;refine⟨Xk,?_⟩;refine Gc O (λD=>absurd D Xn) (λD=>?_);refine Ti ?_;have G:fS x out=out.take i++x::out.drop i:=tS hi hall (λh=>absurd h hi2);have J:=xR out i;have L:((bt out).drop (i*2)).length=(out.length-i)*2:=by rw[UQ];omega
  have B:((qE x).take (1*2)++(bt out).drop (i*2)).take ((1+(out.length-i))*2)=bt (x::out.drop i):=by
   rw[J.2,show(qE x).take (1*2)++bt (out.drop i)=bt (x::out.drop i)from O,aH];rw[cj,IT,UQ];omega
  have Z:(((qE x).take (1*2)++(bt out).drop (i*2)).take ((1+(out.length-i))*2)).length=(1+(out.length-i))*2:=by rw[B,cj,IT,UQ];omega
  have ab:∀c∈((qE x).take (1*2)++(bt out).drop (i*2)).take ((1+(out.length-i))*2),c.leaf=VA:=by rw[B];exact iC _
  have M:(bt out).take (i*2)++((qE x).take (1*2)++(bt out).drop (i*2)).take ((1+(out.length-i))*2)=bt (fS x out):=by rw[B,J.1,G,pQ]
  have ac:i+(1+(out.length-i))=(fS x out).length:=by rw[G,IN,IT,TC,UQ];omega
  refine UB 11 O<|Dr 2 O<|VE [_] O (λτ h=>jK i underlying57 Kl (Ee h 0 O O) (Eo h 0 O O) (Ee h 1 O O) O hi)<|Dr 4 O<|VE [_] O (λτ h=>mO i underlying57 Kl (Ee h 0 O O) (Eo h 0 O O) (Ee h 1 O O) O hi)<|VE [_,_] O (λτ h=>dt 3 N1 (Ee h 0 O O) (Eo h 0 O O) (AT _) (Od.tsl (Ee h 1 O O) (Eo h 1 O O) O L) L (λc hc=>iC out c (Vq hc)) Xj (h.n 0 _ O))<|VE [_,_] O (λτ h=>dt 4 N1 (Ee h 0 O O) (Eo h 0 O O) Xj (ox.any (.inr ⟨_,_,_,_,(Ee h 1 O O),(Eo h 1 O O),O⟩)) Z ab Xj (h.n 0 _ O))<|D1 O ?_;refine⟨Xk,?_⟩;exact Tj (St.Ir 3 O O Xj (λe=>gR (l:=fS x out) (k:=0) Xj (M.symm.trans e)))<|Z2 O<|⟨(k+1,fS x out),Tl [4] ⟨ah (λn=>V.gsl 4 2 n) ac,O,O,O,Xq⟩ ⟨TX (b:=UF (.gro 59 ((bt out).take (i*2)++((qE x).take (1*2)++(bt out).drop (i*2)).take ((1+(out.length-i))*2)))) Xk (ah (λc=>UF (Ob.gro 59 c)) M),Xq⟩ O O Xl O,⟨Xj,W⟩,Xp⟩
 refine Tj (Tn 0 O O) ?_;have ao:=hs.n;have ap:=cj out;have af:oT l=out.filter λy=>y.w !=0:=by rw[oT,hs.e,show k=l.length by omega,VM]
 refine Gx O<|Z1 O<|Tj (Tp 7 1 2 59 O O)<|Z3 O<|Gz O (st:=λH:Nat×List Rw=>([(7,UF (.gsl 1 2 H.2.length)),(67,UG),(68,UG),(69,UF (pIi H.1))],[(1,UF (.gro 59 (bt H.2)))])) 2
  (I:=λH=>(H.1<=out.length/\H.2.length<=H.1)/\H.2=(out.take H.1).filter λy=>y.w !=0) (μ:=λH=>out.length-H.1) (x0:=(0,[])) (WA O) (⟨⟨aJ _,AT _⟩,O⟩) ?_
 rintro⟨j,q⟩ ⟨hj,hq⟩;try simp only at hj hq ⊢
 refine Z1 O<|Gp O (λal=>?_) (λal=>?_)
 .have hlj:j<out.length:=Xj;have aF:=fo hlj;have aG:=gR hlj;have aK:=cj q;have ag:out.take (j+1)=out.take j++[out[j]]:=AI hlj;generalize out[j]=y at*;refine Ti<|Z1 O<|A3 O Xm ?_;refine Y2 O<|Z3 O ?_;refine Gc O (λU=>?_) (λU=>?_)
  .exact Gr O<|Ar 5 O<|Z2 O<|⟨(j+1,q++[y]),Tl [0,4] ⟨ah (λn=>V.gsl 4 2 n) (show q.length+1=(q++[y]).length by simp),O,O,O,Xq⟩ ⟨TX (b:=UF (.gro 59 (bt q++qE y))) Xk (ah (λc=>UF (Ob.gro 59 c)) (vr q y)),Xq⟩ O O Xl O,⟨⟨Xj,by simp only[IN,TP];omega⟩,by rw[ag,WK,<-hq];simp only[Wp,List.filter_nil];rw[By U]⟩,Xp⟩
  exact Ti<|Z2 O<|⟨(j+1,q),WA O,⟨⟨Xj,Xp⟩,by rw[ag,WK,<-hq];simp only[Wp,List.filter_nil];rw[sh (by rw[U];decide),Uh]⟩,Xp⟩
 exact Tj (Tn 1 O O)<|Gx O<|Z2 O<|VF O<|by rw[af,show out.filter (λy=>y.w !=0)=q by rw[hq,aH Xj]];rfl
end
section
open Mk Jn
def Ho:List ByteArray:=[⟨#[114,101,100]⟩,⟨#[103,114,101,101,110]⟩,⟨#[98,108,117,101]⟩]
def uc:List ByteArray:=[⟨#[49]⟩,⟨#[50]⟩,⟨#[49,48]⟩]
def CJ:List ByteArray:=[⟨#[48]⟩,⟨#[49]⟩,⟨#[45,50]⟩,⟨#[49,47,50]⟩,⟨#[51]⟩,⟨#[53,47,51]⟩,⟨#[49]⟩,⟨#[50]⟩]
def fF(kd:Int):List ByteArray:=⟨#[]⟩::(if kd=3 then Ho else if kd=1 then uc else CJ)
def OH(c:Nat)(kd:Int):ByteArray:=if c=8 then⟨#[]⟩else if kd=3 then Ho.getD (c%3) ⟨#[]⟩else if kd=1 then uc.getD (c%3) ⟨#[]⟩else CJ.getD c ⟨#[]⟩
theorem oW(h:j<l.length):l.getD j ⟨#[]⟩=l[j]/\l[j]∈l:=⟨by simp[List.getD,h],aq h⟩
theorem Mj(kd:Int)(h:c<9):OH c kd∈fF kd:=by grind[OH,fF,Ur,oW,Ho,UH,uc,CJ]
theorem DO(L:List Int)(k:Nat)(U:L.length<=600)(W:k<=L.length)(nm:ByteArray)(kd:Int):
  FnM prog 67 75 (jq L k) [.agg [.str nm,.int .i64 kd]] (λv c=>v= .str (OH (sNv L k 9).toNat kd)/\c=jq L (sNk L k)):=by
 refine FnM.of func67 O ntmps67 Xn O Xn λ_ _ _ _=>?_
 have I:=iK L k 9 U W Xl Xl;have J:=kW L k 9 Xl;obtain⟨c,hc⟩:=Bg J.1;have M:c<9:=Xj;rw[hc]at I;rw[hc,TU];refine Z2 O<|Z1 O<|Rs O (cy call26 I O O)<|A1 O<|Z3 O<|Gc O (λG=>?_) (λG=>?_)
 .have h8:c=8:=by have h:(c:Int)=8:=(by simpa using G);omega
  exact Z1 O<|Gt O<|⟨_,jq L (sNk L k),O,O,ah PV.str (by rw[OH,By h8]),O⟩
 have h8:¬c=8:=by have h:¬ (c:Int)=8:=(by simpa using G);omega
 refine Z4 O<|Gc O (λD=>?_) (λD=>?_)
 .have h3:kd=3:=by simpa using D
  have z:c%3<Ho.length:=UH _ Xl;have H:=bL z;have B:=bN z;exact Gr O<|Rs O (au (vs:=Ho.map λx=> .pv (.str x)) (cs:=bW Ho) UG Xn EA O Xl Xl Xk Xk)<|A1 O<|Rs O (XJ.cast (v':= pIi ((c%3:Nat):Int)) (fZ O O Xl) O)<|Rs O (ag (c%3) underlying53 sz9 O O O z B)<|Rs O (az ⟨_,underlying9,O⟩ O H)<|A1 O<|Gt O<|⟨_,jq L (sNk L k),O,O,ah PV.str (by rw[OH,sh h8,By h3,(oW z).1]),O⟩
 have h3:¬kd=3:=by simpa using D
 refine Z4 O<|Gc O (λE=>?_) (λE=>?_)
 .have h1:kd=1:=by simpa using E
  have z:c%3<uc.length:=UH _ Xl;have H:=bL z;have B:=bN z;exact Gr O<|Rs O (au (vs:=uc.map λx=> .pv (.str x)) (cs:=bW uc) UG Xn EA O Xl Xl Xk Xk)<|A1 O<|Rs O (XJ.cast (v':= pIi ((c%3:Nat):Int)) (fZ O O Xl) O)<|Rs O (ag (c%3) underlying53 sz9 O O O z B)<|Rs O (az ⟨_,underlying9,O⟩ O H)<|A1 O<|Gt O<|⟨_,jq L (sNk L k),O,O,ah PV.str (by rw[OH,sh h8,sh h3,By h1,(oW z).1]),O⟩
 have h1:¬kd=1:=by simpa using E
 have z:c<CJ.length:=by have e:CJ.length=8:=rfl;omega
 have H:=bL z;have B:=bN z;exact Ti<|Gr O<|Rs O (au (vs:=CJ.map λx=> .pv (.str x)) (cs:=bW CJ) UG Xn EA O Xl Xl Xk Xk)<|A1 O<|Rs O (ag c underlying53 sz9 O O O z B)<|Rs O (az ⟨_,underlying9,O⟩ O H)<|A1 O<|Gt O<|⟨_,jq L (sNk L k),O,O,ah PV.str (by rw[OH,sh h8,sh h3,sh h1,(oW z).1]),O⟩
theorem zZ(L:List Int)(k:Nat)(z:L.length<=600)(B:k<=L.length)(nm:ByteArray)(kd:Int):
  ∃x∈fF kd,FnM prog 67 75 (jq L k) [.agg [.str nm,.int .i64 kd]] (λv c=>v= .str x/\c=jq L (sNk L k)):=
 ⟨_,Mj kd (by have:=kW L k 9 Xl;omega),DO L k z B nm kd⟩
end
section
open Mk Jn
theorem Jv(x y:Int)(B:x.natAbs<1000000000)(D:y.natAbs<1000000000):Qj x y:=by
 have z:∀n:Nat,n<1000000000->(ae n).length<=1:=λn h=>aR.2 Xj
 exact qY (λa b=>a<1000000000/\b<1000000000) (λa b h h0 h1 _ _=>by grind) x y ⟨B,D⟩ (by have:=z _ B;omega) (by have:=z _ D;omega)
theorem Lm(h:bD s=VC):ky s=⟨#[]⟩:=by
 unfold bD at h;unfold ky;have:∀l m:List UInt8,(Lib.cut l m).2.2=VC->(Lib.cut l m).2.1=[]:=λl m h=>by
  unfold Lib.cut at h ⊢;split at h
  .simp at h
  split
  .contradiction
  .rfl
 rw[this _ _ h]
theorem HH(z:Int)(U:z.natAbs<1000000000):FnP prog 253 [fr z] (· = .tup [.int .i64 z,.bool VA]):=by
 refine FnP.of func253 O ntmps253 Xn λ_ _ _ _=>?_
 have J:(ae z.natAbs).length<=1:=aR.2 Xj;have G:=nE (ae z.natAbs) 2 Xj;have M:lim (ae z.natAbs) 2=0:=by rw[mX];omega
 generalize lim (ae z.natAbs) 2=L at*;have I:=fV z.natAbs Xj;have H:IntKind.i64.wrap ((z.natAbs:Nat):Int)=(z.natAbs:Int):=fw Xj;refine Z3 O<|Gr O<|Ar 5 O ?_;apply Tt 5 9 14 [10,11,12,13] O Xt
 .intro hb4;exact Ar 5 O<|Tm Xs O O O
 .intro hb4;exact Y2 O<|Rg O (aa call282 G O)<|Y2 O<|Tm Xs O O O
 refine Gc O (λD=>absurd D (λh=>by simp at h;omega)) (λD=>?_);refine Ti<|UB 10 O<|Dr 2 O<|TR O (λτ h=>aa call282 G (h.aD O))<|TR O (λτ h=>qN (b:=1000000000) (Ee h 0 O O) (Ee h 1 O O) Xj)<|TR O (λτ h=>qN (b:=1000000000) (Ee h 0 O O) (Ee h 1 O O) Xj)<|Dr 2 O<|TR O (λτ h=>aa call293 I (h.aD O))<|TR O (λτ h=>XJ.cast (v':= .pv (.int .u64 (z.natAbs:Int))) (vR (b:=z.natAbs) (Ee h 0 O O) (Ee h 1 O O) Xj) (ah (λn:Nat=>V.pv (.int .u64 (n:Int))) Xj))<|D1 O ?_;refine⟨Xk,?_⟩;refine Z2 O<|Gp O (λE=>absurd E Xj) (λE=>?_);refine Ti<|Z2 O<|Gc O (λB=>?_) (λB=>?_)
 .have hz0:z<0:=Vi B;exact Z1 O<|Rs O ((jC underlying261 underlying3 O).cast (v':= pIi (z.natAbs:Int)) (ah (λz=>pIi z) H))<|Y3 O<|VF O<|ah (λq=>PV.tup [PV.int IntKind.i64 q,PV.bool VA]) (show-(z.natAbs:Int)=z by omega)
 have hz0:¬z<0:=Vk B;exact Ti<|Z1 O<|Rs O ((jC underlying261 underlying3 O).cast (v':= pIi (z.natAbs:Int)) (ah (λz=>pIi z) H))<|Y2 O<|VF O<|ah (λq=>PV.tup [PV.int IntKind.i64 q,PV.bool VA]) (show(z.natAbs:Int)=z by omega)
theorem wS(s:ByteArray)(h:aN s=VA)(D:(rdZ s).natAbs<1000000000):FnP prog 202 [.str s] (· = .tup [.int .i64 (rdZ s),.bool VA]):=by
 refine FnP.of func202 O ntmps202 Xn λ_ _ _ _=>?_
 have B:=eZ s;rw[h]at B;refine Z2 O<|Z1 O<|Rs O (aa call248 B O)<|A1 O<|Gc O (λz=>absurd z Xn) (λz=>?_);exact Ti<|Z1 O<|Rs O (aa call252 (nr s h) O)<|Rs O (aa call253 (HH _ D) O)<|Ar 4 O<|VF O O
theorem oL(s:ByteArray)(h:aN s=VA)(D:(rdZ s).natAbs<1000000000):FnP prog 200 [.str s] (· = .bool VA):=by
 refine FnP.of func200 O ntmps200 Xn λ_ _ _ _=>?_
 have z:decide (rdZ s>= -1000000000)=VA:=TD Xj;have B:decide (rdZ s<=1000000000)=VA:=TD Xj;exact Z1 O<|Z1 O<|Rs O (aa call202 (wS s h D) O)<|Ar 5 O<|Z3 O<|Rg O (cU O O O z)<|Y3 O<|Rg O (cU O O O B)<|Y2 O<|VF O O
theorem QY:aN ⟨#[]⟩=VC:=Xk
theorem IZ:FnP prog 202 [.str ⟨#[]⟩] (· = .tup [.int .i64 0,.bool VC]):=by
 refine FnP.of func202 O ntmps202 Xn λ_ _ _ _=>?_
 have B:=eZ ⟨#[]⟩;rw[QY]at B;refine Z2 O<|Z1 O<|Rs O (aa call248 B O)<|A1 O<|Gc O (λz=>?_) (λz=>absurd z Xn);exact Z2 O<|VF O O
theorem O8:dF ⟨#[]⟩=VC:=Xk
theorem OQ:aN (fT ⟨#[]⟩)=VC:=Xk
theorem Dh:FnP prog 201 [.str ⟨#[]⟩] (· = .tup [.str ⟨#[]⟩,.str ⟨#[]⟩,.bool VC]):=by
 refine FnP.of func201 O ntmps201 Xn λ_ _ _ _=>?_
 have B:=lB ⟨#[]⟩ Xl (λh=>by rw[OQ]at h;cases h);rw[O8]at B;refine Z3 O<|Z1 O<|Rs O (aa call188 B O)<|A1 O<|Gc O (λz=>?_) (λz=>absurd z Xn);exact Z3 O<|VF O O
structure NumOk(v:ByteArray):Prop where
 s:v.size<4294967281
 r:dF v=VA
 n:aN (fT v)=VA/\(rdZ (fT v)).natAbs<1000000000
 d:bD v=VA->aN (ky v)=VA/\1<=rdZ (ky v)/\rdZ (ky v)<=12
theorem Ej(v:ByteArray)(h:NumOk v):FnP prog 201 [.str v] (· = .tup [.str (fT v),.str (if bD v=VA then ky v else yx),.bool VA]):=by
 refine FnP.of func201 O ntmps201 Xn λ_ _ _ _=>?_
 have H:aN (fT v)=VA->Lb v=VC->Qj (rdZ (fT v)) (rdZ (ky v)):=λ_ hb=>by
  refine Jv _ _ h.n.2 ?_;have E:=h.r;unfold dF at E;by_cases hs:bD v=VA
  .have:=h.d hs;omega
  rw[By (by rw[h.n.1,VW hs];rfl)]at E;have e:ky v=⟨#[]⟩:=Lm (VW hs);rw[e];decide
 have G:=lB v h.s H;rw[h.r]at G;have hc:=Iz v ⟨#[47]⟩ h.s;refine Z3 O<|Z1 O<|Rs O (aa call188 G O)<|A1 O<|Gc O (λB=>absurd B Xn) (λB=>?_);refine Ti<|Z1 O<|Rs O (aa call172 hc O)<|Ar 7 O<|Z2 O<|Gc O (λz=>?_) (λz=>?_)
 .have hs:bD v=VC:=by have D:(!bD v)=VA:=z;simpa using D
  rw[hs,sh Xl];exact Z1 O<|Gr O<|Ar 5 O<|VF O O
 have hs:bD v=VA:=by have D:(!bD v)=VC:=z;simpa using D
 rw[hs,By O];exact Ti<|Gr O<|Ar 5 O<|VF O O
theorem pU(nm v:ByteArray)(h:v=⟨#[]⟩\/aN v=VA/\(rdZ v).natAbs<1000000000):FnP prog 126 [.agg [.str nm,.int .i64 1],.str v] (· = .bool VA):=by
 refine FnP.of func126 O ntmps126 Xn λ_ _ _ _=>?_
 refine Z2 O<|Z2 O<|Z2 O<|Gc O (λz=>?_) (λz=>absurd z Xn);by_cases he:v=⟨#[]⟩
 .subst he;exact Z1 O<|Rs O (nB O O O (Uw _))<|Ar 5 O<|VF O O
 have hne:(v.toList==(⟨#[]⟩:ByteArray).toList)=VC:=by rw[UU];exact λe=>he (bytes_inj e)
 obtain⟨hv1,hv2⟩:=h.resolve_left he;exact Z1 O<|Rs O (jE O O O hne)<|Y2 O<|Rg O (aa call200 (oL v hv1 hv2) O)<|Y2 O<|VF O O
theorem F5(nm v:ByteArray)(h:v=⟨#[]⟩\/fE v=VA/\v.size<=1000):FnP prog 126 [.agg [.str nm,.int .i64 3],.str v] (· = .bool VA):=by
 refine FnP.of func126 O ntmps126 Xn λ_ _ _ _=>?_
 refine Z2 O<|Z2 O<|Z2 O<|Gc O (λz=>absurd z Xn) (λz=>?_);refine Z2 O<|Gc O (λB=>absurd B Xn) (λB=>?_);refine Z2 O<|Gc O (λD=>?_) (λD=>absurd D Xn);by_cases he:v=⟨#[]⟩
 .subst he;exact Z1 O<|Rs O (nB O O O (Uw _))<|Ar 5 O<|VF O O
 have hne:(v.toList==(⟨#[]⟩:ByteArray).toList)=VC:=by rw[UU];exact λe=>he (bytes_inj e)
 obtain⟨hv1,hv2⟩:=h.resolve_left he;have E:=xk v Xj;rw[hv1]at E;exact Z1 O<|Rs O (jE O O O hne)<|Y2 O<|Rg O (aa call203 E O)<|Y2 O<|VF O O
theorem F8(nm v:ByteArray)(h:NumOk v)(E:v≠⟨#[]⟩):FnP prog 126 [.agg [.str nm,.int .i64 2],.str v] (· = .bool VA):=by
 refine FnP.of func126 O ntmps126 Xn λ_ _ _ _=>?_
 have G:=Ej v h;have z:aN (if bD v=VA then ky v else yx)=VA/\1<=rdZ (if bD v=VA then ky v else yx)/\rdZ (if bD v=VA then ky v else yx)<=12:=by
  by_cases hs:bD v=VA
  .rw[By hs];exact h.d hs
  rw[sh hs];exact⟨fL,by rw[oH];decide,by rw[oH];decide⟩
 generalize (if bD v=VA then ky v else yx)=dn at*;have H:=wS dn z.1 Xj;have I:=oL (fT v) h.n.1 h.n.2;have J:(v.toList==(⟨#[]⟩:ByteArray).toList)=VC:=by rw[UU];exact λe=>E (bytes_inj e)
 have L:decide (rdZ dn>=1)=VA:=TD z.2.1;have M:decide (rdZ dn<=12)=VA:=TD z.2.2;refine Z2 O<|Z2 O<|Z2 O<|Gc O (λB=>absurd B Xn) (λB=>?_);refine Z2 O<|Gc O (λD=>?_) (λD=>absurd D Xn);exact Z1 O<|Rs O (aa call201 G O)<|Ar 7 O<|Z1 O<|Rs O (aa call202 H O)<|Ar 5 O<|Z1 O<|Rs O (jE O O O J)<|Ar 4 O<|Rg O (aa call200 I O)<|Y3 O<|Rg O (cU O O O L)<|Y3 O<|Rg O (cU O O O M)<|Y3 O<|VF O O
theorem Ed(nm:ByteArray):FnP prog 126 [.agg [.str nm,.int .i64 2],.str ⟨#[]⟩] (· = .bool VA):=by
 refine FnP.of func126 O ntmps126 Xn λ_ _ _ _=>?_
 have D:=Dh;have E:=IZ;refine Z2 O<|Z2 O<|Z2 O<|Gc O (λz=>absurd z Xn) (λz=>?_);refine Z2 O<|Gc O (λB=>?_) (λB=>absurd B Xn);exact Z1 O<|Rs O (aa call201 D O)<|Ar 7 O<|Z1 O<|Rs O (aa call202 E O)<|Ar 5 O<|Z1 O<|Rs O (nB O O O (Uw _))<|Ar 16 O<|VF O O
end
section
section
variable {C:Ctx}{n:Nat}{σ:St}{dst:Option Tmp}{ty:TypeId}{ts:Array TypeId}{pos:String}{after:Array Edge}{gd:Option (Nat×Bool)}
theorem aF{xs:Array Operand}{args:List V}{os:List (Nat×Ob)}{k':Nat}{r:V}{X:Nat->Option Ob}(ids:List Nat)(base:Nat)(hc:db C.P f)(H:FnO C.P f ids.length k' args os (λv ob'=>v=r/\ob'=X))(B:xs.toList.map (σ.ev n)=V.renL (fu ids base) args)
  (I:V.allL (okR ids.length 0) args=VA) (hos:os.map (·.1)=(List.range ids.length).map (big+ ·)) (D:os.all (λp=>p.2.all (okR ids.length 0))=VA) (z:gU σ (fu ids base) os)
  (E:ids.Nodup) (G:(nwO base k').all σ.av=VA):
  XJ C n ⟨dst,.call { callee:= .value (.func f),args:=xs,argTypes:=ts },ty,pos,after,gd⟩ σ ⟨r.ren (fu ids base),wrO ids base k' X,nwO base k'⟩:=
 cz ids base hc B I hos D z E G H (by rintro _ _ ⟨rfl,rfl⟩;rfl)
end
end

section
section
variable {C:Ctx}{n:Nat}{σ:St}{dst:Option Tmp}{ty t t':TypeId}{ts:Array TypeId}{pos:String}{after:Array Edge}{gd:Option (Nat×Bool)}{x y:Operand}
theorem Ea(B:C.P.underlying t=UF (.pointer e))(D:σ.ev n x= .pv .nilptr):
  XJ C n ⟨dst,.binOp .eql t x (.const (.pointer UG)) t',ty,pos,after,gd⟩ σ ⟨.pv (.bool VA),[],[]⟩:=
 .val λa w m R hw=>by
  have h:=hw.pv D;simp only[RelP]at h;have hc:a.eval (.const (.pointer UG))= .pointer UG:=rfl;have z:C.P.underlying t=UF (.pointer (C.P.pointee t)):=by simp[Program.pointee,B]
  exact⟨.bool VA,by simp[execOp,h,eqGuard,hc,run_eql_pointer_nil _ _ _ z],by simp only[Rel,RelP]⟩
theorem Di(D:C.P.underlying t=UF (.pointer e))(E:σ.ev n x= .ptr id off)(G:σ.ob id=UF o)(B:o.real=VA:=by rfl):
  XJ C n ⟨dst,.binOp .eql t x (.const (.pointer UG)) t',ty,pos,after,gd⟩ σ ⟨.pv (.bool VC),[],[]⟩:=
 .val λa w m R hw=>by
  obtain⟨b,N,h,_⟩:=hw.ptr E G B;have hc:a.eval (.const (.pointer UG))= .pointer UG:=rfl;have z:C.P.underlying t=UF (.pointer (C.P.pointee t)):=by simp[Program.pointee,D]
  exact⟨.bool VC,by simp[execOp,h,eqGuard,hc,run_eql_pointer_nil _ _ _ z],by simp only[Rel,RelP]⟩
theorem Dj{j:TypeInfo}(D:C.P.underlying t=UF (.pointer e))(E:C.P.info? e=UF j)(G:σ.ev n x= .ptr id off)(H:σ.ev n y= .ptr id off)(B:σ.ob id=UF o)(z:o.real=VA:=by rfl):
  XJ C n ⟨dst,.binOp .neq t x y t',ty,pos,after,gd⟩ σ ⟨.pv (.bool VC),[],[]⟩:=
 .val λa w m R hw=>by
  obtain⟨b,N,h,hm,_⟩:=hw.ptr G B z;obtain⟨b2,N2,h2,hm2,_⟩:=hw.ptr H B z;rw[hm]at hm2;cases hm2;exact⟨.bool VC,by simp[execOp,h,h2,eqGuard,Lib.run_neq_ptr_same _ _ D E],by simp only[Rel,RelP]⟩
theorem FR{N d s:Nat}(D:P.depth=d+1)(H:P.cellsOf T=s)(I:s≠0)(J:s<=N):liesAt P P.depth T (N/P.cellsOf T) 0 T 1=VA:=by
 have G:0<N/s:=Nat.div_pos J Xj;have z:sameLayout P P.depth T T=VA:=by rw[D];unfold sameLayout;simp
 have B:rowAt P (sameLayout P P.depth · T) P.depth T (N/P.cellsOf T) 0 1=VA:=by
  rw[show P.depth=d+1 from D];unfold rowAt;rw[H,sh I];have E:sameLayout P (d+1) T T=VA:=by rw[<-D];exact z
  simp only[Nat.zero_div,Nat.zero_mod,T8,E,Wh,Uw,Ws];rw[TD (show 1<=N/s from G)];rfl
 rw[D];unfold liesAt;rw[B];rfl
theorem KQ{j:TypeInfo}{s:TypeId}(H:C.P.underlying s=UF (.pointer e))(I:C.P.underlying d=UF .unsafePointer)(J:C.P.info? e=UF j)(D:j.size≠0)(G:σ.ev n x= .ptr id 0)(L:σ.ob id=UF (.mix T cs))(M:cs≠[]):
  XJ C n ⟨dst,.convert s d x,ty,pos,after,gd⟩ σ ⟨.ptr id 0,[],[]⟩:=
 .val λa w m R hw=>by
  obtain⟨b,N,h,hm,arr,hb,hsz,hle,_⟩:=hw.ptr G L;have z:=hw.ev x;rw[G]at z;have E:0<cs.length:=Uq.2 M;have B:w.shape? b=UF (T,arr.size):=by simp[World.shape?,hb]
  refine⟨a.eval x,?_,z⟩;simp only[execOp,h,Sem.run_bind,Lib.run_to_unsafe w ⟨b,0,UG⟩ H I J D B (show 0<arr.size by omega),Result.andThen_ok];rfl
theorem MZ{j:TypeInfo}{s:TypeId}{dp:Nat}(H:C.P.underlying s=UF .unsafePointer)(I:C.P.underlying d=UF (.pointer T))(J:C.P.info? T=UF j)(D:C.P.depth=dp+1)(hc:C.P.cellsOf T=cs.length)(G:σ.ev n x= .ptr id 0)(L:σ.ob id=UF (.mix T cs))(M:cs≠[]):
  XJ C n ⟨dst,.convert s d x,ty,pos,after,gd⟩ σ ⟨.ptr id 0,[],[]⟩:=
 .val λa w m R hw=>by
  obtain⟨b,N,h,hm,arr,hb,hsz,hle,_⟩:=hw.ptr G L;have z:=hw.ev x;rw[G]at z;have E:0<cs.length:=Uq.2 M;have B:w.shape? b=UF (T,arr.size):=by simp[World.shape?,hb]
  refine⟨a.eval x,?_,z⟩;simp only[execOp,h,Sem.run_bind,Lib.run_from_unsafe w ⟨b,0,UG⟩ H I J B (FR D hc Xj Xj),Result.andThen_ok];rfl
theorem Lv{fn:Func}{v:V}(E:C.P.funcs[f]? =UF fn)(z:(fn.name== "runtime.NumGoroutine")=VC)(G:fn.body.isNone=VA)(H:Extern.findNext fn=UG)(I:Extern.find fn=UF Extern.AbiNoEscape.same)(J:σ.ev n x=v):
  XJ C n ⟨dst,.call { callee:= .value (.func f),args:= #[x],argTypes:=ts },ty,pos,after,gd⟩ σ ⟨v,[],[]⟩:=
 .val λa w m R hw=>by
  have B:=hw.ev x;rw[J]at B;refine⟨a.eval x,?_,B⟩;have D:=run_callFunc_extern E z G H I #[a.eval x] w;rw[Lib.run_noEscape]at D;simp only[Result.andThen_ok]at D;have hc:a.eval (.func f)= .func (.func f) #[] #[]:=rfl;simp[execOp,resolve,Deferred.ofValue,invoke,hc,D]
theorem PW(w:World)(t u ty e:TypeId)(i:TypeInfo)(J:P.underlying t=UF (.slice e))(L:P.underlying u=UF .string)(M:P.info? e=UF i)(U:i.zero=UF (.int .u8 0))(z:i.size=1)(G:i.bytes=1)
  (g cap k:Nat) (cur:Array Value) (H:w.heap[g]? =UF (.cells cur e (0,0))) (W:k<=cap) (I:cap<=maxLen) (X:cur.size=cap) (s:ByteArray) (Z:k+s.size<=1000000000):
  ∃g' c' w',(Builtin.append_ #[t,u] ty #[.slice (UF ⟨g,0,UG⟩) k cap,.string s]).run P w= .ok (.slice (UF ⟨g',0,UG⟩) (k+s.size) c') w'/\w.grownBy w' (UF g)/\(g'=g\/g'=w.heap.size)/\
   k+s.size<=c'/\c'<=maxLen/\∃cur',w'.heap[g']? =UF (.cells cur' e (0,0))/\cur'.size=c'/\cur'.toList.take (k+s.size)=cur.toList.take k++Lib.strCells s:=by
 have Y:(cur.toList.take k++Lib.strCells s).length=k+s.size:=by
  rw[IN,Lib.strCells_length,TC,Ua];omega
 by_cases hroom:k+s.size<=cap
 .refine⟨g,cap,_,Lib.run_append_room_string (P:=P) w t u ty e i J L M z g k cap cur H s hroom Xj,⟨O,O,O,Xn,λq _ hq=>setRow_other w g q _ (λe=>hq (by rw[e]))⟩,.inl O,hroom,I,_,setRow_heap w g cur _ e _ H,?_,?_⟩
  .grind
  grind
 have holds:∀j u,(cur.toList.take k)[j]? =UF u->w.cell? ((⟨g,0,UG⟩:Addr).add j)=UF u:=λj u hj=>by
  rw[Addr.add_lit];simp only[T8];rw[cell_of_row w g j cur e (0,0) H,<-hj,TS];have B:j<(cur.toList.take k).length:=by grind
  rw[TC]at B;rw[By Xj];simp
 have D:k+s.size<=maxLen:=by simp only[maxLen];omega
 refine⟨w.heap.size,_,_,Lib.run_append_grow_string (P:=P) w t u ty e i (.int .u8 0) J L M U ⟨g,0,UG⟩ k cap (cur.toList.take k) (by rw[z,TC,Ua];omega) holds s Xj Xj (by rw[G];exact growslice_fits Xj Xj),
  ⟨O,O,O,Xn,λq hq _=>heap_alloc_old w.drew _ hq⟩,.inr O,grownCap_ge w (k+s.size) cap e,grownCap_le_maxLen w (k+s.size) cap e D,_,heap_alloc_new w.drew _,?_,?_⟩
 .have hge:=grownCap_ge w (k+s.size) cap e;have E:(Value.int IntKind.u8 0).cells.size=1:=rfl;simp only[Array.size_append,T4,size_zeroCells,E,Lib.strCells_length,TC,Ua];omega
 grind
theorem oQ(s:ByteArray):RelPL w R (aI s.data.toList) (Lib.strCells s):=by
 unfold aI Lib.strCells;induction s.data.toList with
 |nil=>simp[RelPL]
 |cons a l ih=>exact RelPL.cons (by simp only[RelP]) ih
theorem yP{cs:List PV}(id':Nat)(Z:ElemIs C.P t e (.int .u8 0) 1 1)(hu:C.P.underlying t'=UF .string)(hs:σ.ev n x= .gsl id 1 k)(ho:σ.ob id=UF (.gro e cs))(J:cs.length=k)
  (hy:σ.ev n y= .pv (.str s)) (hb:k+s.size<=1000000000) (X:0<k) (Y:σ.av id'=VA):
  XJ C n ⟨dst,.call { callee:= .builtin .append,args:= #[x,y],argTypes:= #[t,t'] },ty,pos,after,gd⟩ σ ⟨.gsl id' 1 (k+s.size),[(id',UF (.gro e (cs++aI s.data.toList))),(id,UG)],[id']⟩:=by
 rintro a w Q ⟨m,R,hw⟩;obtain⟨A0,c,hev,hkc,hcm,hz,hp⟩:=hw.gsl hs;have E:cs≠[]:=λe=>by rw[e]at J;simp at J;omega
 have M:cs++aI s.data.toList≠[]:=λe=>E (List.append_eq_nil_iff.1 e).1
 have B:∀i x,upd m id UG i=UF x->m i=UF x/\i≠id:=λi x e=>by grind[aC,a8]
 obtain⟨b,N,hm,arr,hbk,hsz,hle,hr⟩:=hw.live ho (cY E);obtain⟨rfl,hN⟩:=hp X b N hm;obtain⟨i,hi,hzz,hsize,hbytes⟩:=info_parts Z.info;have D:=hw.hr.own id b N hm;have U:a.eval y= .string s:=hw.str hy;obtain⟨g,c',w',hrun,hgr,hat,hkc',hcm',cur',hg,hcs',htk⟩:=PW (P:=C.P) w t t' ty e i Z.u hu hi hzz hsize hbytes b c k arr hbk hkc hcm Xj s hb;have G:RelPL w R (cs++aI s.data.toList) (arr.toList.take k++Lib.strCells s):=by
  rw[J]at hr;exact hr.append (oQ s)
 have z:¬R g/\(∀i b' N',upd m id UG i=UF (b',N')->b'≠g)/\(C.F g\/C.w0.heap.size<=g):=by
  rcases hat with h|h
  .rw[h];exact⟨D.2.1,λi b' N' hi e=>(B i _ hi).2 (FE hw (B i _ hi).1 hm e),D.2.2⟩
  refine⟨λhh=>?_,λi b' N' hi e=>?_,.inr ?_⟩
  .have:=hw.hr.rsz _ hh;omega
  .have:=(hw.hr.own i b' N' (B i _ hi).1).1;omega
  have:=hw.hr.frame.size;omega
 have H:¬R b/\(∀i b' N',upd m id UG i=UF (b',N')->b'≠b)/\(C.F b\/C.w0.heap.size<=b):=
  ⟨D.2.1,λi b' N' hi e=>(B i _ hi).2 (FE hw (B i _ hi).1 hm e),D.2.2⟩
 unfold Oper.wp;have I:(execOp a.eval ⟨dst,.call { callee:= .builtin .append,args:= #[x,y],argTypes:= #[t,t'] },ty,pos,after,gd⟩).run C.P w= .ok (.value (.slice (UF ⟨g,0,UG⟩) (k+s.size) c')) w':=by
  unfold execOp;simp only[resolve,invoke,builtin,Sem.run_bind,Sem.run_pure,Result.andThen_ok,Wr,cu,Un,hev,U,hrun]
 rw[I];have W:(arr.toList.take k++Lib.strCells s).length=k+s.size:=by grind
 have L:(cs++aI s.data.toList).length=k+s.size:=by rw[<-G.length,W]
 refine⟨_,O,upd (upd m id UG) id' (UF (g,cur'.size)),R,?_⟩;rw[Ts];refine SW.put ((hw.drop id).fresh Y hg hgr (λq hq=>by simp at hq;subst hq;exact H) z.1 z.2.1 z.2.2 (.gro e (cs++aI s.data.toList)) ?_ (cY M)) dst ?_
 .intro m' av' hR _ _;refine⟨cur',hg,O,by rw[L,hcs'];exact hkc',?_⟩;rw[L,htk];exact G.mono hR
 simp only[Rel];refine⟨by simp[avL],_,c',O,hkc',hcm',λh=>by omega,λ_ b' N' e'=>?_⟩;rw[aC]at e';cases e';exact⟨O,by rw[hcs',TZ]⟩
theorem RN{sz:Nat}(D:σ.ev n x= .gsl id sz k)(E:σ.ob id=UF o)(G:0<k)(B:o.real=VA):
  XJ C n ⟨dst,.call { callee:= .builtin .unsafeSliceData,args:= #[x],argTypes:=ts },ty,pos,after,gd⟩ σ ⟨.ptr id 0,[],[]⟩:=
 .val λa w m R hw=>by
  obtain⟨A,c,he,hkc,_,_,hp⟩:=hw.gsl D;obtain⟨b,N,hm,_⟩:=hw.live E B;obtain⟨rfl,_⟩:=hp G b N hm;have z:=hw.ev x;rw[D]at z;simp only[Rel]at z;refine⟨.pointer (UF ⟨b,0,UG⟩),?_,?_⟩
  .simp only[execOp,resolve,invoke,builtin,Sem.run_bind,Sem.run_pure,Result.andThen_ok,Wr,cu,Un,he,Lib.run_unsafeSliceData_row w ts ty ⟨b,0,UG⟩ k c Xj]
  grind[Rel]
theorem LN{arr:Array Value}(z:w.heap[b]? =UF (.cells arr e (0,0)))(B:k≠0):(w.freeze ⟨b,0,UG⟩ k).heap[b]? =UF (.cells arr e (0,k)):=by
 unfold World.freeze;rw[sh B];simp only[];rw[WN,By O,z];simp
theorem He{q:Nat}(h:q≠b):(w.freeze ⟨b,0,UG⟩ k).heap[q]? =w.heap[q]? :=by
 unfold World.freeze;split
 .rfl
 grind
theorem LW(w:World)(a:Addr)(k:Nat):(w.freeze a k).heap.size=w.heap.size/\(w.freeze a k).os=w.os/\(w.freeze a k).tape=w.tape/\(w.freeze a k).output=w.output:=by
 unfold World.freeze;split
 .exact⟨O,O,O,O⟩
 exact⟨Xn,O,O,O⟩
theorem DA{l:List UInt8}{us:List Value}(h:RelPL w R (aI l) us):us=l.map λc=> .int .u8 c.toNat:=by
 induction l generalizing us with
 |nil=>simp[aI,RelPL]at h;simp[h]
 | cons c l ih=>
   simp only[aI,cu,RelPL,RelP]at h;obtain⟨u,vs,rfl,rfl,h2⟩:=h;rw[cu,<-ih h2]
theorem L7{it:TypeId}{l:List UInt8}(X:C.P.underlying t=UF (.pointer e))(hc:C.P.cellsOf e=1)(Y:σ.ev n x= .ptr id 0)(Z:σ.ob id=UF (.gro e (aI l)))(hy:σ.ev n y= pIi l.length)(U:l≠[])(hb:l.length<=1000000000):
  XJ C n ⟨dst,.call { callee:= .builtin .unsafeString,args:= #[x,y],argTypes:= #[t,it] },ty,pos,after,gd⟩ σ ⟨.pv (.str ⟨l.toArray⟩),[(id,UF (.fro e ⟨l.toArray⟩))],[]⟩:=by
 rintro a w Q ⟨m,R,hw⟩;have G:aI l≠[]:=by simpa[aI]using U
 obtain⟨b,N,he,hm,arr,hbk,hsz,hle,hr⟩:=hw.ptr Y Z (cY G);have H:(aI l).length=l.length:=by simp[aI]
 rw[H]at hle hr;have E:=DA hr;have I:a.eval y= .int .i64 l.length:=hw.int hy;have J:l.length≠0:=by simpa using U
 have B:∀j z,l[j]? =UF z->w.cell? ((⟨b,0,UG⟩:Addr).add j)=UF (.int .u8 z.toNat):=λj z hj=>by
  rw[Addr.add_lit];simp only[T8];have W:(arr.toList.take l.length)[j]? =UF (.int .u8 z.toNat):=by rw[E,VO,hj];rfl
  have L:j<l.length:=(TE.1 hj).1;rw[cell_of_row w b j arr e (0,0) hbk,<-W,TS,By L];simp
 have M:=Lib.run_unsafeString_row (P:=C.P) w t it ty e X hc b arr.size (by simp[World.shape?,hbk]) l U Xj Xj B;unfold Oper.wp;have D:(execOp a.eval ⟨dst,.call { callee:= .builtin .unsafeString,args:= #[x,y],argTypes:= #[t,it] },ty,pos,after,gd⟩).run C.P w= .ok (.value (.string ⟨l.toArray⟩)) (w.freeze ⟨b,0,UG⟩ l.length):=by
  unfold execOp;simp only[resolve,invoke,builtin,Sem.run_bind,Sem.run_pure,Result.andThen_ok,Wr,cu,Un,he,I,M]
 rw[D];obtain⟨q1,q2,q3,q4⟩:=LW w ⟨b,0,UG⟩ l.length;refine⟨_,O,m,R,?_⟩;rw[Ts];refine SW.put (hw.turn hm (w.freeze ⟨b,0,UG⟩ l.length) q1 (λk hk=>He hk) q2 q3 q4 (.fro e ⟨l.toArray⟩) λhR=>?_) dst ?_
 .refine⟨arr,?_,hsz,?_,?_⟩
  .rw[LN hbk J];rfl
  .show l.toArray.size<=N;simp;omega
  show arr.toList.take l.toArray.size=_;simp[E]
 simp only[Rel,RelP]
end
end
section
open Mk Jn
def MdV(S:Sch)(A:List Int)(v:List ByteArray):Prop:=v.length=A.length/\∀i (h:i<v.length) (h2:i<A.length),v[i]∈fF (S.attrs.getD A[i].toNat default).2
def MdR(S:Sch)(A:List Int)(x:Rw):Prop:=(1<=x.w/\x.w<=5)/\MdV S A x.v
def MdT(S:Sch)(A:List Int)(most:Nat)(l:List Rw):Prop:=∃l0,l=oT l0/\l0.length<=most/\∀x∈l0,MdR S A x
theorem P2(v:List ByteArray)(x:ByteArray):bW v++[PV.str x]=bW (v++[x]):=Xn
theorem MdV.snoc   {v:List ByteArray}  (B:j<A.length) (h:v.length=j/\∀ i (h:i<v.length) (z:i<A.length),v[i]∈fF (S.attrs.getD A[i].toNat default).2) {x:ByteArray} (D:x∈fF (S.attrs.getD A[j].toNat default).2):
  (v++[x]).length=j+1/\∀i (h:i<(v++[x]).length) (z:i<A.length),(v++[x])[i]∈fF (S.attrs.getD A[i].toNat default).2:=by grind
theorem kX(l:List α)(a:α):l.length+1=(l++[a]).length:=Xn
theorem ET(L:List Int)(k:Nat)(hL:L.length<=600)(hk:k<=L.length)(S:Sch)(r most:Nat)(hm:most<=100)(hr:r<S.rels.length)(hA:S.rels[r].2.length<=1000)(hb:∀a∈S.rels[r].2,0<=a/\a<S.attrs.length):
  FnM prog 30 75 (jq L k) [gC S,.int .i64 r,.int .i64 most] (λv c=>(∃l,MdT S S.rels[r].2 most l/\v=oi l)/\∃k',k'<=L.length/\c=jq L k'):=by
 refine FnM.of func30 O ntmps30 Xn O Xn λ_ _ _ _=>?_
 have D:∀k,k<=L.length->sNk L k<=L.length:=λk hk=>by unfold sNk;split<;>omega
 have U:=D _ hk;have W:=iK L k ((most:Int)+1) hL hk Xj Xj;have hb1:=kW L k ((most:Int)+1) Xj;generalize sNv L k ((most:Int)+1)=nb at*;have E:=iD hr;have X:(aY S.rels)[r*2+1]? =UF (ar S.rels[r].2):=by
  have h2:(((aY S.rels).drop (r*2)).take 2)[1]? =[PV.str S.rels[r].1,ar S.rels[r].2][1]? :=by rw[fb hr]
  simpa[TS,UN]using h2
 generalize S.rels[r].2=A at*;refine Z2 O<|Z1 O<|Tj (Tp 9 1 2 59 O O)<|Z3 O<|Rs O (cy call26 W O O)<|A1 O<|Gz O (st:=λXr:Int×Nat×List Rw=>([(0,UG),(2,UG),(5,UG),(9,UF (.gsl 1 2 Xr.2.2.length)),(10,UF (pIi Xr.1))],[(big,UF (yy L Xr.2.1)),(0,UG),(1,UF (.gro 59 (bt Xr.2.2)))])) 2
  (I:=λXr=>(((0<=Xr.1/\Xr.1<=most)/\(Xr.2.2.length:Int)+Xr.1<=most)/\Xr.2.1<=L.length)/\∀x∈Xr.2.2,MdR S A x) (μ:=λXr=>Xr.1.toNat) (x0:=(nb,sNk L k,[])) (WA O) (⟨⟨⟨⟨Xp,Xp⟩,by simp only[VI];omega⟩,U⟩,λ_ h=>absurd h Xn⟩) ?_
 rintro⟨i,k2,l⟩ ⟨⟨⟨hi,hli⟩,hk2⟩,hl⟩;try simp only at hi hli hk2 hl ⊢
 refine Z2 O<|Gp O (λJ=>?_) (λJ=>?_)
 .obtain⟨pk,hpk1,hpk⟩:=sQ L k2 [1,1,2,5] hL hk2 Xn Xn;have G:1<=pk/\pk<=5:=by simp at hpk1;omega
  have Y:=D _ hk2;have hll:=cj l;refine Ti<|Z1 O<|Rs O (au UG Xn vY O Xl Xl O O)<|Rs O (cy call28 hpk O O)<|Y3 O<|Tj (St.da (T':=59) (cs:=[.pv nS,pIi pk]) 2 0 3 1 9 Xk O Xk)<|Z3 O<|Rs O (ag r underlying27 HM O O O hr E)<|A1 O<|Rs O (az ⟨_,underlying22,O⟩ O X)<|Y2 O<|Gz O (st:=λz:Nat×Nat×List ByteArray=>([(0,UG),(2,UG),(5,UG),(9,UG),(10,UG),(11,UG),(31,UG),(32,UG),(33,UF (pIi z.1))],[(big,UF (yy L z.2.1)),(0,UG),(1,UG),(2,UF (.mix 59 [.gsl 3 1 z.2.2.length,pIi pk])),(3,UF (.gro 9 (bW z.2.2)))])) 4
   (I:=λz=>(z.1<=A.length/\z.2.1<=L.length)/\(z.2.2.length=z.1/\∀i (h:i<z.2.2.length) (h2:i<A.length),z.2.2[i]∈fF (S.attrs.getD A[i].toNat default).2)) (μ:=λz=>A.length-z.1) (x0:=(0,sNk L k2,[])) (WA O) (⟨⟨aJ _,Y⟩,O,λi h=>absurd h Xn⟩) ?_
  rintro⟨j,k3,v⟩ ⟨⟨hj,hk4⟩,hmd⟩;try simp only at hj hk4 hmd ⊢
  refine Z1 O<|Gp O (λM=>?_) (λM=>?_)
  .have hlj:j<A.length:=Xj;obtain⟨a,haa⟩:=Bg (hb _ (aq hlj)).1;have B:a<S.attrs.length:=by have:=(hb _ (aq hlj)).2;omega
   have Z:(aK A)[j*1]? =UF (.int .i64 (a:Int)):=by rw[<-haa];simp[hlj]
   have ab:=aM hlj;have ac:=ke B;have ad:=gY B;obtain⟨x,hxm,hxs⟩:=zZ L k3 hL hk4 S.attrs[a].1 S.attrs[a].2;have H:=MdV.snoc hlj hmd (x:=x) (by rw[haa,TU];simpa[List.getD,B]using hxm);have af:=D _ hk4;have hvl:=hmd.1;refine Ti<|Gr O<|Rs O (ag j underlying22 sz3 O O O hlj ab)<|Rs O (az ⟨_,underlying3,O⟩ O Z)<|A1 O<|UB 13 O<|Dr 6 O<|TR O (λτ h=>ag a underlying26 yF (Ee h 0 O O) (Ee h 1 O O) O B ad)<|TR O (λτ h=>aG ⟨_,underlying81,O⟩ yF (Ee h 0 O O) ac O)<|VE [_] O (λτ h=>cy call67 hxs (h.args.trans O) (Eo h 0 O O))<|Dr 4 O ?_;refine⟨Xk,?_⟩;exact Z2 O<|⟨(j+1,sNk L k3,v++[x]),Tl [0,1,2,5] (aT O) ⟨O,O,O,TX (b:=UF (.mix 59 [.gsl 5 1 (v.length+1),pIi pk])) Xk (ah (λn=>UF (Ob.mix 59 [.gsl 5 1 n,pIi pk])) (kX v x)),TX (b:=UF (.gro 9 (bW v++[.str x]))) Xk (ah (λc=>UF (Ob.gro 9 c)) (P2 v x)),Xq⟩ O O Xl O,⟨⟨Xj,af⟩,H⟩,Xp⟩
  refine Tj (Tn 3 O O) ?_;have ak:MdR S A ⟨v,pk⟩:=⟨G,(by have:=hmd.1;omega:v.length=A.length),hmd.2⟩;exact Gx O<|Gr O<|Ar 5 O<|Z3 O<|⟨(i-1,k3,l++[⟨v,pk⟩]),Tl [0,5] ⟨O,O,O,ah (λn=>V.gsl 5 2 n) (kX l ⟨v,pk⟩),O,Xq⟩ ⟨O,O,TX (b:=UF (.gro 59 (bt l++qE ⟨v,pk⟩))) Xk (ah (λc=>UF (Ob.gro 59 c)) (vr l ⟨v,pk⟩)),Xq⟩ O O Xl O,⟨⟨⟨Xp,by simp only[IN,TP];omega⟩,hk4⟩,λy hy=>by rcases Uf.1 hy with h|h;exact hl y h;rw[TF.1 h];exact ak⟩,Xp⟩
 refine Tj (Tn 1 O O) ?_;have al:=Da l Xj (λx hx=>by have:=(hl x hx).2.1;omega) (λx hx=>by have:=(hl x hx).1;omega);exact Gx O<|Z1 O<|Rs O (aa call68 al O)<|A1 O<|Gt O<|⟨_,jq L k2,O,O,⟨oT l,⟨l,O,Xj,hl⟩,O⟩,k2,hk2,O⟩
def jI(d:List (List Rw)):List PV:=d.map oi
abbrev dbP(d:List (List Rw)):PV:= .sl UG d.length (jI d)
theorem Cp(d:List (List Rw))(l:List Rw):jI d++[oi l]=jI (d++[l]):=by simp[jI]
theorem jR(d:List (List Rw)):(jI d).length=d.length*1:=by simp[jI]
def MdD(S:Sch)(most n:Nat)(d:List (List Rw)):Prop:=d.length=n/\∀i (h:i<d.length) (h2:i<S.rels.length),MdT S S.rels[i].2 most d[i]
theorem MdD.snoc{most:Nat}{d:List (List Rw)}(h:MdD S most n d)(z:n<S.rels.length){l:List Rw}(B:MdT S S.rels[n].2 most l):MdD S most (n+1) (d++[l]):=by
 obtain⟨rfl,hd⟩:=h;refine⟨Xn,λi h h2=>?_⟩;rcases Vo i d.length with h3|h3
 .grind
 grind
theorem uo(L:List Int)(k:Nat)(J:L.length<=600)(M:k<=L.length)(S:Sch)(most:Nat)(U:most<=100)(hS:S.rels.length<=1000)(W:∀r∈S.rels,r.2.length<=1000/\∀a∈r.2,0<=a/\a<S.attrs.length):
  FnM prog 8 75 (jq L k) [gC S,.int .i64 most] (λv c=>(∃d,MdD S most S.rels.length d/\v=dbP d)/\∃k',k'<=L.length/\c=jq L k'):=by
 refine FnM.of func8 O ntmps8 Xn O Xn λ_ _ _ _=>?_
 refine Z2 O<|Z1 O<|Tj (Tp 7 1 1 57 O O)<|Z4 O<|Gz O (st:=λXr:Nat×Nat×List (List Rw)=>([(0,UG),(2,UG),(4,UG),(7,UF (.gsl 1 1 Xr.2.2.length)),(11,UG),(12,UF (pIi Xr.1))],[(big,UF (yy L Xr.2.1)),(0,UG),(1,UF (.gro 57 (jI Xr.2.2)))])) 2
  (I:=λXr=>(Xr.1<=S.rels.length/\Xr.2.1<=L.length)/\MdD S most Xr.1 Xr.2.2) (μ:=λXr=>S.rels.length-Xr.1) (x0:=(0,k,[])) (WA O) (⟨⟨aJ _,M⟩,O,λi h=>absurd h Xn⟩) ?_
 rintro⟨i,k2,d⟩ ⟨⟨hi,hk2⟩,hd⟩;try simp only at hi hk2 hd ⊢
 refine Z1 O<|Gp O (λB=>?_) (λB=>?_)
 .have hlt:i<S.rels.length:=Xj;have z:=W _ (aq hlt);have G:=hd.1;have H:=jR d;refine Ti<|Z2 O<|Gr O<|Ar 5 O<|RL.call O (ma call30 (ET L k2 J hk2 S i most U hlt z.1 z.2) O O ?_);rintro _ _ ⟨⟨l,hml,rfl⟩,k3,hk3,rfl⟩;have D:=hd.snoc hlt hml;exact Y3 O<|Z2 O<|⟨(i+1,k3,d++[l]),Tl [0,3] ⟨O,O,O,ah (λn=>V.gsl 3 1 n) (kX d l),O,O,Xq⟩ ⟨O,O,TX (b:=UF (.gro 57 (jI d++[oi l]))) Xk (ah (λc=>UF (Ob.gro 57 c)) (Cp d l)),Xq⟩ O O Xl O,⟨⟨Xj,hk3⟩,D⟩,Xp⟩
 refine Tj (Tn 1 O O) ?_;have E:i=S.rels.length:=Xj;subst E;exact Gx O<|Z2 O<|Gt O<|⟨_,jq L k2,O,O,⟨d,hd,O⟩,k2,hk2,O⟩
end
section
open Mk Jn
section
variable {C:Ctx}{n:Nat}{σ:St}{dst:Option Tmp}{ty t t':TypeId}{pos:String}{after:Array Edge}{gd:Option (Nat×Bool)}{x:Operand}
theorem iz{cs:List PV}{K:St->Prop}(D:C.P.underlying t=UF (.slice e))(E:σ.ev n x= .pv (.sl UG k cs))(G:∀b:Bool,(b=VA->cs=[])->K (σ.app dst ⟨.pv (.bool b),[],[]⟩)):
  OJ C n ⟨dst,.binOp .eql t x (.const (.slice UG 0 0)) t',ty,pos,after,gd⟩ K σ:=by
 rintro a w Q ⟨m,R,hw⟩;have:=hw.pv E;simp only[RelP]at this;obtain⟨A,c,e1,_,_,_,_,h5⟩:=this;have hc:a.eval (.const (.slice UG 0 0))= .slice UG 0 0:=rfl;have B:A.isNone=VA->cs=[]:=λh=>by grind
 have z:(execOp a.eval ⟨dst,.binOp .eql t x (.const (.slice UG 0 0)) t',ty,pos,after,gd⟩).run C.P w= .ok (.value (.bool A.isNone)) w:=by
  simp[execOp,e1,eqGuard,binOp,hc,run_equal_slice_nil _ _ _ _ _ _ D]
 unfold Oper.wp;rw[z];exact⟨_,G A.isNone B,m,R,St.iV σ dst _▸hw.put dst (by simp only[Rel,RelP])⟩
theorem dI{z:Value}{size bytes:Nat}(id:Nat)(H:ElemIs C.P T e z size bytes)(E:σ.av id=VA):
  XJ C n ⟨dst,.buildSlice T 0 #[],ty,pos,after,gd⟩ σ ⟨.osl id size 0,[(id,UF (.cells e []))],[id]⟩:=by
 rintro a w Q ⟨m,R,hw⟩;obtain⟨i,hi,hz,hsize,hbytes⟩:=info_parts H.info;have B:(execOp a.eval ⟨dst,.buildSlice T 0 #[],ty,pos,after,gd⟩).run C.P w= .ok (.value (.slice (UF ⟨w.heap.size,0,UG⟩) 0 0)) (w.alloc (.cells #[] e)):=by
  have D:(Instr.buildSlice T 0 #[]).run C.P w= .ok (.slice (UF ⟨w.heap.size,0,UG⟩) 0 0) (w.alloc (.cells #[] e)):=by
   simp[Instr.buildSlice,run_underlying H.u,sizeOf,typeInfo,hi,Instr.fill,newRow]
   congr 2
   exact Array.eq_empty_of_size_eq_zero Xn
  have G:(#[]:Array (Nat×Operand)).map (λx=>(x.1,a.eval x.2))= #[]:=Xn;simp only[execOp,G,Sem.run_bind,D,Result.andThen_ok,Sem.run_pure]
 unfold Oper.wp;rw[B];refine⟨_,O,upd m id (UF (w.heap.size,0)),R,?_⟩;rw[Ts];refine SW.put (hw.alloc E #[] e (.cells e []) ?_) dst ?_
 .intro w' m' av' hR G ha D;exact⟨_,D,O,AT _,RelPL.nil⟩
 simp only[Rel];refine⟨by simp[avL],λb N h=>?_⟩;rw[aC]at h;cases h;exact⟨0,O,AT _,by simp[maxLen],Xn⟩
end
theorem z8(l:List ByteArray)(B:l.length<=1000000):FnP prog 76 [bh l] (· =bh l):=by
 refine FnP.fg2 (FnP.of func76 O ntmps76 Xn λ_ _ _ _=>?_);refine Z1 O<|Z1 O<|RL.call O (iz underlying53 O ?_);intro b hb;refine Gc O (λz=>?_) (λz=>?_)
 .have hl0:l=[]:=VY.1 (hb z);exact Z1 O<|VF O<|by rw[hl0];rfl
 refine Ti<|Gr O<|Rs O (dI 0 EA O)<|A1 O<|Rs O (dC 1 EA O O O (.inl ⟨UG,O⟩) Xn (λc hc=>by obtain⟨y,_,rfl⟩:=TG.1 hc;rfl) Xj O) ?_;exact A1 O<|Tj (Tn 1 O O)<|VF O<|show PV.sl UG (0+l.length) ([]++bW l)=_ by rw[T8,Uv]
def iL(ls:List Int)(n:Nat):List Int:=(List.range n).map λa:Nat=>((ls.count (a:Int):Nat):Int)
theorem wJ(ls:List Int)(n:Nat):(iL ls n).length=n:=by simp[iL]
theorem CW(h:a<n):(aK (iL ls n))[a*1]? =UF (.int .i64 ((ls.count (a:Int):Nat):Int)):=by simp[iL,h]
theorem Hw(h:a<n):(aK (iL ls n)).set (a*1) (.int .i64 (((ls.count (a:Int):Nat):Int)+1))=aK (iL (ls++[(a:Int)]) n):=by
 apply UL
 .simp[iL]
 .intro i h1 h2;simp only[iL,List.getElem_set,UP,WJ,List.count_append,TZ];by_cases e:a=i
  .subst e;rw[By O];simp
  grind
theorem El(n:Nat):List.replicate n (PV.int .i64 0)=aK (iL [] n):=by
 apply UL
 .simp[iL]
 .intro i h1 h2;simp[iL]
def cG(ls:List Int)(A:List Int)(x:Rw):Bool:=(A.zip x.v).all λp=> !(p.2.toList==(⟨#[]⟩:ByteArray).toList)||((ls.count p.1:Nat):Int)==1
def pK(S:Sch)(A:List Int)(l:List Rw):List Rw:=l.filter (cG (S.rels.flatMap (·.2)) A)
end
section
open Mk Jn
structure SJn(S:Sch):Prop where
 a:S.attrs.length<=1000
 r:S.rels.length<=1000
 l:∀r∈S.rels,r.2.length<=1000
 b:∀r∈S.rels,∀a∈r.2,0<=a/\a<S.attrs.length
theorem Hu{l:List (ByteArray×List Int)}(h:k<l.length):(l.take (k+1)).flatMap (·.2)=(l.take k).flatMap (·.2)++l[k].2:=by
 rw[AI h,Us];simp
theorem tq{v:List ByteArray}(z:v.length=A.length)(B:j<A.length)(f:Int×ByteArray->Bool):((A.zip v).take (j+1)).all f=(((A.zip v).take j).all f&&f (A[j],v[j]'Xj)):=by
 have h:j<(A.zip v).length:=by simp;omega
 rw[AI h,Wz];simp
theorem HG{l:List (ByteArray×List Int)}(h:∀r∈l,r.2.length<=1000):(l.flatMap (·.2)).length<=l.length*1000:=by induction l<;>grind
theorem J3(S:Sch)(hS:SJn S)(r:Nat)(J:r<S.rels.length)(l:List Rw)(hl:l.length<=1000)(hv:∀x∈l,x.v.length=S.rels[r].2.length):
  FnP prog 33 [gC S,.int .i64 r,oi l] (· =oi (pK S S.rels[r].2 l)):=by
 refine FnP.of func33 O ntmps33 Xn λ_ _ _ _=>?_
 have aB:=cj l;have aC:=hS.a;have aF:=hS.r;have W:=iD J;have am:(aY S.rels)[r*2+1]? =UF (ar S.rels[r].2):=by
  have h2:(((aY S.rels).drop (r*2)).take 2)[1]? =[PV.str S.rels[r].1,ar S.rels[r].2][1]? :=by rw[fb J]
  simpa[TS,UN]using h2
 have hrl:=hS.l _ (aq J);have X:=hS.b _ (aq J);unfold pK;generalize S.rels[r].2=A at*;refine Z2 O<|Gr O<|Ar 5 O<|Z4 O<|Gz O (st:=λXr:Nat=>([(1,UG),(2,UG),(3,UG),(7,UG),(23,UG),(24,UG),(25,UF (pIi Xr))],[(0,UG),(1,UF (.cells 3 (aK (iL ((S.rels.take Xr).flatMap (·.2)) S.attrs.length))))])) 2
  (I:=λXr=>Xr<=S.rels.length) (μ:=λXr=>S.rels.length-Xr) (x0:=0) (Tk (aS O) ⟨O,ah (λc=>UF (Ob.cells 3 c)) ((dh (.int .i64 0) (S.attrs.length*1)).trans (by rw[TZ,El];rfl)),Xq⟩ O O) (aJ _) ?_
 rintro k hk;refine Z1 O<|Gp O (λad=>?_) (λad=>?_)
 .have hlt:k<S.rels.length:=Xj;have aA:=fb hlt;have hne:=iD hlt;have hkl:=hS.l _ (aq hlt);have Y:=hS.b _ (aq hlt);have an:=Hu hlt;generalize S.rels[k]=rk at*;refine Ti<|Z1 O<|A3 O Xm ?_;refine Y2 O<|Z4 O ?_;refine Gz O (st:=λD:Nat=>([(1,UG),(2,UG),(3,UG),(7,UG),(23,UG),(24,UG),(25,UG),(30,UG),(31,UG),(32,UF (pIi D))],[(0,UG),(1,UF (.cells 3 (aK (iL ((S.rels.take k).flatMap (·.2)++rk.2.take D) S.attrs.length))))])) 3
   (I:=λD=>D<=rk.2.length) (μ:=λD=>rk.2.length-D) (x0:=0) (Tk (aS O) ⟨O,ah (λc=>UF (Ob.cells 3 (aK (iL c S.attrs.length)))) Xn,Xq⟩ O O) (aJ _) ?_
  rintro j hj;refine Z1 O<|Gp O (λaf=>?_) (λaf=>?_)
  .have hlj:j<rk.2.length:=Xj;obtain⟨a,haa⟩:=Bg (Y _ (aq hlj)).1;have H:a<S.attrs.length:=by have:=(Y _ (aq hlj)).2;omega
   have M:(aK rk.2)[j*1]? =UF (.int .i64 (a:Int)):=by rw[<-haa];simp[hlj]
   have ao:=aM hlj;have ap:rk.2.take (j+1)=rk.2.take j++[(a:Int)]:=by rw[AI hlj,haa]
   have hfl:=HG (l:=S.rels.take k) λr J=>hS.l r (Vp J)
   have htl:(S.rels.take k).length<=1000:=by rw[TC];omega
   have Z:((S.rels.take k).flatMap (·.2)++rk.2.take j).length<=2000000:=by rw[IN,TC];omega
   generalize hLS:(S.rels.take k).flatMap (·.2)++rk.2.take j=LS at*;have U:=CW (ls:=LS) H;have au:=Hw (ls:=LS) H;have ax:(aK (iL LS S.attrs.length)).length=S.attrs.length:=by rw[TB,wJ]
   have hcb:LS.count (a:Int)<=2000000:=AS List.count_le_length Z;exact Ti<|Z1 O<|Rs O (az ⟨_,underlying3,O⟩ O M)<|A1 O<|Z3 O<|Rs O (dA ⟨_,underlying3,O⟩ O O U)<|Y2 O<|RL.step (d:=UG) O O (dB sz3 O O O O Xj)<|Z2 O<|⟨(j+1),Tk (aS O) ⟨O,TX (b:=UF (.cells 3 ((aK (iL LS S.attrs.length)).set (a*1) (.int .i64 (((LS.count (a:Int):Nat):Int)+1))))) Xk (ah (λc=>UF (Ob.cells 3 c)) (au.trans (by rw[ap,<-VZ,hLS]))),Xq⟩ O O,Xj,Xj⟩
  exact Gx O<|Z2 O<|⟨(k+1),Tk (aS O) ⟨O,ah (λc=>UF (Ob.cells 3 (aK (iL c S.attrs.length)))) (by rw[an,show rk.2.take j=rk.2 from aH Xj]),Xq⟩ O O,Xj,Xj⟩
 have Z:=HG (l:=S.rels) λr J=>hS.l r J
 rw[show S.rels.take k=S.rels from aH Xj];generalize S.rels.flatMap (·.2)=LS at*;have ax:(aK (iL LS S.attrs.length)).length=S.attrs.length:=by rw[TB,wJ]
 refine Gx O<|Z1 O<|Tj (Tp 12 2 2 59 O O)<|Z3 O<|Gz O (st:=λz:Nat×List Rw=>([(1,UG),(3,UG),(7,UG),(12,UF (.gsl 2 2 z.2.length)),(44,UG),(45,UG),(46,UF (pIi z.1))],[(0,UG),(1,UG),(2,UF (.gro 59 (bt z.2)))])) 3
  (I:=λz=>(z.1<=l.length/\z.2.length<=z.1)/\z.2=(l.take z.1).filter (cG LS A)) (μ:=λz=>l.length-z.1) (x0:=(0,[])) (WA O) (⟨⟨aJ _,AT _⟩,O⟩) ?_
 rintro⟨i,q⟩ ⟨hi,hq⟩;try simp only at hi hq ⊢
 refine Z1 O<|Gp O (λak=>?_) (λak=>?_)
 .have hil:i<l.length:=Xj;have hrw:=fo hil;have hrn:=gR hil;have ay:=hv _ (aq hil);have hql:=cj q;have L:l.take (i+1)=l.take i++[l[i]]:=AI hil;generalize l[i]=x at*;refine Ti<|Z1 O<|A3 O Xm ?_;refine Y2 O<|Z1 O<|Z3 O<|Rs O (ag r underlying27 HM O O O J W)<|A1 O<|Rs O (az ⟨_,underlying22,O⟩ O am)<|Y2 O ?_;refine Gz O (st:=λB:Nat×Bool=>([(1,UG),(3,UG),(7,UG),(12,UG),(14,UG),(15,UF (.pv (.bool B.2))),(44,UG),(45,UG),(46,UG),(55,UG),(56,UG),(57,UF (pIi B.1))],[(0,UG),(1,UG),(2,UG),(3,UG)])) 4
   (I:=λB=>B.1<=A.length/\B.2=((A.zip x.v).take B.1).all λp=> !(p.2.toList==(⟨#[]⟩:ByteArray).toList)||((LS.count p.1:Nat):Int)==1) (μ:=λB=>A.length-B.1) (x0:=(0,VA)) (WA O) (⟨aJ _,O⟩) ?_
  rintro⟨j,b⟩ ⟨hj,hb⟩;try simp only at hj hb ⊢
  refine Z1 O<|Gp O (λal=>?_) (λal=>?_)
  .have hlj:j<A.length:=Xj;have E:=tq ay hlj λp=> !(p.2.toList==(⟨#[]⟩:ByteArray).toList)||((LS.count p.1:Nat):Int)==1
   obtain⟨a,haa⟩:=Bg (X _ (aq hlj)).1;have H:a<S.attrs.length:=by have:=(X _ (aq hlj)).2;omega
   have M:(aK A)[j*1]? =UF (.int .i64 (a:Int)):=by rw[<-haa];simp[hlj]
   have ao:=aM hlj;have ab:j<x.v.length:=Xj;have ac:=bL ab;have hsn:=bN ab;have U:=CW (ls:=LS) H;rw[<-hb,haa]at E;simp only at E;refine Ti<|Z2 O<|Rs O (az ⟨_,underlying3,O⟩ O M)<|Y2 O ?_;by_cases hbt:b=VA
   .by_cases hve:(x.v[j].toList==(⟨#[]⟩:ByteArray).toList)=VA
    .exact Gr O<|Rs O (XJ.cast (v':= .pv (.bool VA)) (pA O) (ah (λb=>V.pv (.bool b)) hbt))<|Ar 5 O<|Rg O (az ⟨_,underlying9,O⟩ O ac)<|Rg O (XJ.cast (v':= .pv (.bool VC)) (jm O O O) (ah (λb=>V.pv (.bool !b)) hve))<|Ar 4 O<|Rg O (dA ⟨_,underlying3,O⟩ O O U)<|Ar 4 O<|Z2 O<|⟨(j+1,(((LS.count (a:Int):Nat):Int)==1)),WA O,⟨Xj,by simp only;rw[E,hbt,hve];rfl⟩,Xp⟩
    exact Gr O<|Rs O (XJ.cast (v':= .pv (.bool VA)) (pA O) (ah (λb=>V.pv (.bool b)) hbt))<|Ar 5 O<|Rg O (az ⟨_,underlying9,O⟩ O ac)<|Rg O (XJ.cast (v':= .pv (.bool VA)) (jm O O O) (ah (λb=>V.pv (.bool !b)) (VW hve)))<|Ar 9 O<|Z2 O<|⟨(j+1,VA),WA O,⟨Xj,by simp only;rw[E,hbt,VW hve];rfl⟩,Xp⟩
   exact Gr O<|Rs O (XJ.cast (v':= .pv (.bool VC)) (pA O) (ah (λb=>V.pv (.bool b)) (VW hbt)))<|Ar 16 O<|Z2 O<|⟨(j+1,VC),WA O,⟨Xj,by simp only;rw[E,VW hbt,Bool.false_and]⟩,Xp⟩
  have hbl:cG LS A x=b:=by unfold cG;rw[hb,aH Xo]
  refine Gx O<|Z1 O<|Gc O (λG=>?_) (λG=>?_)
  .refine UB 10 O<|Dr 3 O<|TR O (λτ h=>aa call76 (z8 x.v Xj) (h.aD O))<|Dr 6 O ?_;refine⟨Xk,?_⟩;exact Z2 O<|⟨(i+1,q++[x]),Tl [0,1,5] ⟨O,O,O,ah (λn=>V.gsl 5 2 n) (kX q x),O,O,O,Xq⟩ ⟨O,O,TX (b:=UF (.gro 59 (bt q++qE x))) Xk (ah (λc=>UF (Ob.gro 59 c)) (vr q x)),Xq⟩ O O Xl O,⟨⟨Xj,by simp only[IN,TP];omega⟩,by rw[L,WK,<-hq];simp only[Wp,List.filter_nil];rw[By (hbl.trans G)]⟩,Xp⟩
  exact Ti<|Z2 O<|⟨(i+1,q),WA O,⟨⟨Xj,Xp⟩,by rw[L,WK,<-hq];simp only[Wp,List.filter_nil];rw[sh (by rw[hbl,G];decide),Uh]⟩,Xp⟩
 exact Tj (Tn 2 O O)<|Gx O<|Z2 O<|VF O<|by rw[show l.filter (cG LS A)=q by rw[hq,aH Xj]];rfl
end
namespace Jn
set_option autoImplicit false

structure SR(R:Type) where
 zero:R
 one:R
 add:R->R->R
 mul:R->R->R
 add_assoc:∀a b c,add (add a b) c=add a (add b c)
 zero_add:∀a,add zero a=a
 add_zero:∀a,add a zero=a
 mul_assoc:∀a b c,mul (mul a b) c=mul a (mul b c)
 mul_comm:∀a b,mul a b=mul b a
 one_mul:∀a,mul one a=a
 zero_mul:∀a,mul zero a=zero
 add_mul:∀a b c,mul (add a b) c=add (mul a c) (mul b c)

inductive Tr where
 |node (v:Int) (ts:List Tr)
mutual
def Tr.vs:Tr->List Int
 | .node v ts=>v::vsL ts
def vsL:List Tr->List Int
 |[]=>[]
 |t::ts=>t.vs++vsL ts
end

end Jn
namespace Jn
set_option autoImplicit false


end Jn
namespace Jn
open Mk
def cH(P:List Int):Nat->Int->Tr
 |0,v=> .node v []
 |k+1,v=> .node v ((aE P v).map (cH P k))
theorem bu{P:List Int}{v c:Int}:c∈aE P v↔∃n:Nat,n<P.length/\c=(n:Int)/\P.getD n 0=v:=by grind[aE,bp]
theorem zg(P:List Int)(v:Int):(aE P v).Nodup:=(cq _).filter _
theorem fe(ts:List Tr):vsL ts=ts.flatMap Tr.vs:=by
 induction ts with
 |nil=>rfl
 |cons t ts ih=>rw[vsL,ih,T0]
theorem ze{β:Type}(p:α->Bool)(f:α->List β)(l:List α):(l.filter p).flatMap f=l.flatMap λa=>if p a=VA then f a else []:=by induction l<;>grind
mutual
theorem tree_vs(P:List Int):∀(k:Nat)(v:Int),(cH P k v).vs=v::lH P k v
 |0,v=>by rw[cH,Tr.vs,vsL,lH]
 |k+1,v=>by rw[cH,Tr.vs,kids_vs P k v]
theorem kids_vs(P:List Int):∀(k:Nat)(v:Int),vsL ((aE P v).map (cH P k))=lH P (k+1) v
 | k,v=>by
   rw[fe,VT,lH];unfold aE;rw[ze]
   congr 1
   funext a;rw[tree_vs P k a];simp only[U6]
end
theorem pJ(P:List Int):vsL ((aE P (-1)).map (cH P P.length))=aQ P:=kids_vs P P.length (-1)
theorem getD_at{P:List Int}(z:n<P.length):P.getD n 0=P[n]:=by simp[List.getD,z]
section
variable {P:List Int}(hP:UpOk P)
include hP
theorem dM(hc:c<P.length)(z:v<P.length)(h:P.getD c 0=(v:Int)):bU P c=(v:Int)::bU P v:=
 lX hP hc z (by rw[<-getD_at hc];exact h)
theorem uQ:∀(k:Nat)(v:Nat),v<P.length->∀x∈(cH P k v).vs,∃m:Nat,m<P.length/\x=(m:Int)/\(v:Int)∈(m:Int)::bU P m
 | 0,v,hv,x,hx=>by
   rw[cH,Tr.vs,vsL,TF]at hx;exact⟨v,hv,hx,Xn⟩
 | k+1,v,hv,x,hx=>by
   rw[cH,Tr.vs,fe,VT]at hx;rcases BY.1 hx with rfl|hx
   .exact⟨v,hv,O,Xn⟩
   obtain⟨c,hc,hx⟩:=Uk.1 hx;obtain⟨n,hn,rfl,hp⟩:=bu.1 hc;obtain⟨m,hm,rfl,hu⟩:=uQ k n hn x hx;have e:=dM hP hn hv hp;refine⟨m,hm,O,Ur _ ?_⟩;rcases BY.1 hu with h|h
   .grind
   exact uX hP hm (by rw[e];simp) h
theorem G0(D:v<P.length):(bU P v).length+1<=P.length:=by
 have B:=(oJ hP D).length_eq;have z:=UZ (λa=>decide (a∈(v:Int)::bU P v)) (upZ P.length);rw[B,a7,IT]at z;exact z
theorem mg(B:v<P.length)(h:P.length<=1+(bU P v).length):aE P v=[]:=by
 rw[List.eq_nil_iff_forall_not_mem];intro c hc;obtain⟨n,hn,rfl,hp⟩:=bu.1 hc;have z:=G0 hP hn;rw[dM hP hn B hp,IT]at z;omega
theorem qQ:∀(k:Nat)(v:Nat),v<P.length->P.length<=k+1+(bU P v).length->cH P (k+1) v=cH P k v
 |0,v,hv,h=>by rw[cH,cH,mg hP hv Xj];rfl
 | k+1,v,hv,h=>by
   rw[cH,cH]
   congr 1
   refine Ud λc hc=>?_
   obtain⟨n,hn,rfl,hp⟩:=bu.1 hc;have e:=dM hP hn hv hp;exact qQ k n hn (by rw[e,IT];omega)
theorem FX(z:v<P.length):cH P P.length v= .node v ((aE P v).map (cH P P.length)):=by
 rw[<-qQ hP P.length v z Xj,cH]
end

end Jn
section
open Mk Jn
abbrev rowP(x:Rw):PV:= .agg (qE x)
theorem Cf{d:List (List Rw)}(h:r<d.length):(jI d)[r*1]? =UF (oi d[r]):=by simp[jI,h]
theorem uR{d:List (List Rw)}(h:r<d.length):jI d≠[]:=λe=>by have:=jR d;rw[e]at this;simp at this;omega
end
section
open Mk Jn
abbrev oZ(S:Sch):Ob:= .mix 30 (sCc S)
end
section
open Mk Jn
def ltS(a b:ByteArray):Prop:=a.data.toList<b.data.toList
instance (a b:ByteArray):Decidable (ltS a b):=inferInstanceAs (Decidable (_<_))
theorem Dq(a:ByteArray):¬ltS a a:=List.lt_irrefl _
theorem wg{a b c:ByteArray}(z:ltS a b)(B:ltS b c):ltS a c:=List.lt_trans z B
theorem Hc{a b:ByteArray}(z:¬ltS a b)(B:¬ltS b a):a=b:=Fy (List.le_antisymm B z)
def leS(a b:ByteArray):Prop:=¬ltS b a
instance (a b:ByteArray):Decidable (leS a b):=inferInstanceAs (Decidable (¬_))
theorem Fb{a b c:ByteArray}(B:leS a b)(z:leS b c):leS a c:=λh=>by
 by_cases e:a=b
 .subst e;exact z h
 have hab:ltS a b:=Ui λk=>e (Hc k B)
 exact z (wg h hab)
theorem JX(a b:ByteArray):leS a b\/leS b a:=by
 by_cases h:ltS b a
 .exact .inr λk=>Dq a (wg k h)
 exact .inl h
theorem MT{a b:ByteArray}(z:leS a b)(B:leS b a):a=b:=Hc B z
def rT(l:List ByteArray):List ByteArray:=l.mergeSort λa b=>decide (leS a b)
theorem nY(l:List ByteArray):(rT l).Perm l:=WV l _
theorem oN(l:List ByteArray):(rT l).Pairwise leS:=by
 have:=Wu (le:=λa b:ByteArray=>decide (leS a b)) (by intro a b c h1 h2;simp only[Tz]at *; exact Fb h1 h2) (by intro a b;simp only[Ub,Tz];exact JX a b) l;exact this.imp Xn
theorem vF{r:List ByteArray}(z:l.Perm r)(B:l.Pairwise leS):l=rT r:=
 (z.trans (nY r).symm).eq_of_pairwise (λa b _ _ h1 h2=>MT h1 h2) B (oN r)
abbrev eb:ByteArray:=⟨#[]⟩
theorem wP(a:ByteArray):FnP prog 164 [.str a] (· = .bool VC):=by
 refine FnP.of func164 O ntmps164 Xn λ_ _ _ _=>?_
 exact Z1 O<|Z4 O<|VF O<|ah PV.bool Xn
theorem O1{a b:ByteArray}(h:(a.toList !=b.toList)=VC):a=b:=bytes_inj (by simpa using h)
end


section
theorem Bv:∃j,prog.info? 298=UF j/\j.size≠0:=by
 obtain⟨j,hj,hs⟩:=Vz.1 (show(prog.info? 298).map (·.size)=UF 2 by kernel_rfl);exact⟨j,hj,by rw[hs];decide⟩
theorem Mx(k:Nat)(cs:List PV):FnO prog 258 2 0 [.ptr big 0] [(big,.mix 298 [.pv .nilptr,.gsl 9001 1 k]),(9001,.gro 5 cs)] (λv ob'=>v= .tup []/\ob'=aB [(big,.mix 298 [.ptr big 0,.gsl 9001 1 k]),(9001,.gro 5 cs)]):=by
 refine FnO.of func258 O ntmps258 Xn λ_ _ _ _=>?_
 obtain⟨j,hj,hj0⟩:=Bv;refine Z4 O<|Rs O (Ea underlying296 O)<|Gc O (λz=>?_) (λz=>absurd z Xn);exact Z2 O<|Rs O (KQ underlying296 underlying366 hj hj0 O O Xn)<|Rs O (Lv func296 Xk Xk Xk Xk O)<|Rs O (MZ (dp:=_) underlying366 underlying296 hj O Xk O O Xn)<|Y3 O<|⟨[],[(big,.mix 298 [.ptr big 0,.gsl 9001 1 k]),(9001,.gro 5 cs)],[],Tk trivial (aO O) O O,O,O,O,O,O⟩
theorem KP(k:Nat)(cs:List PV):FnO prog 258 2 0 [.ptr big 0] [(big,.mix 298 [.ptr big 0,.gsl 9001 1 k]),(9001,.gro 5 cs)] (λv ob'=>v= .tup []/\ob'=aB [(big,.mix 298 [.ptr big 0,.gsl 9001 1 k]),(9001,.gro 5 cs)]):=by
 refine FnO.of func258 O ntmps258 Xn λ_ _ _ _=>?_
 obtain⟨j,hj,hj0⟩:=Bv;refine Z4 O<|Rs O (Di underlying296 O O)<|Gc O (λB=>absurd B Xn) (λB=>?_);refine Gr O<|Ar 5 O<|Rs O (Dj underlying296 hj O O O)<|Gc O (λz=>absurd z Xn) (λz=>?_);exact Ti<|⟨[],[(big,.mix 298 [.ptr big 0,.gsl 9001 1 k]),(9001,.gro 5 cs)],[],Tk trivial (aO O) O O,O,O,O,O,O⟩
theorem IF(l:List UInt8)(s:ByteArray)(H:l≠[])(I:l.length+s.size<=1000000000):FnO prog 210 2 1 [.ptr big 0,.pv (.str s)] [(big,.mix 298 [.ptr big 0,.gsl 9001 1 l.length]),(9001,.gro 5 (aI l))] (λv ob'=>v= .tup [pIi s.size,.pv .niliface]/\ob'=aB [(big,.mix 298 [.ptr big 0,.gsl 0 1 (l++s.data.toList).length]),(0,.gro 5 (aI (l++s.data.toList)))]):=by
 refine FnO.of func210 O ntmps210 Xn λ_ _ _ _=>?_
 have z:=KP l.length (aI l);have B:(aI l).length=l.length:=by simp[aI]
 have D:=Uq.2 H;have E:(l++s.data.toList).length=l.length+s.size:=by rw[IN,Ua];rfl
 have G:aI (l++s.data.toList)=aI l++aI s.data.toList:=by simp[aI]
 exact Z2 O<|Z1 O<|Rs O (aF [big,9001] 0 call258 z O O O O ⟨O,O,Xq⟩ Xl O)<|Gr O<|Ar 6 O<|Rs O (yP 0 QX underlying9 O O B O I D O)<|Y3 O<|Z4 O<|Gt O<|⟨[(4,pIi s.size),(5,.pv .niliface)],[(big,.mix 298 [.ptr big 0,.gsl 0 1 (l.length+s.size)]),(0,.gro 5 (aI l++aI s.data.toList))],[pIi s.size,.pv .niliface],Tk (aS O) (aO Xk) O O,O,O,O,O,by rw[E,G]⟩
theorem wi(l:List UInt8)(D:l≠[])(E:l.length<=1000000000):FnO prog 211 2 0 [.ptr big 0] [(big,.mix 298 [.ptr big 0,.gsl 9001 1 l.length]),(9001,.gro 5 (aI l))] (λv ob'=>v= .pv (.str ⟨l.toArray⟩)/\ob'=aB [(big,.mix 298 [.ptr big 0,.gsl 9001 1 l.length]),(9001,.fro 5 ⟨l.toArray⟩)]):=by
 refine FnO.of func211 O ntmps211 Xn λ_ _ _ _=>?_
 have z:=Uq.2 D;have B:(Ob.gro 5 (aI l)).real=VA:=cY (by simpa[aI]using D);refine Z1 O<|UB 12 O<|Dr 4 O<|VE [_] O (λτ h=>RN (Ee h 0 O O) (Eo h 0 O O) z B)<|Dr 5 O<|VE [_] O (λτ h=>L7 underlying341 Xk (Ee h 0 O O) (Eo h 0 O O) (Ee h 1 O O) D E)<|D1 O ?_;refine⟨Xk,?_⟩;exact Gt O<|⟨[(2,.pv (.str ⟨l.toArray⟩))],[(big,.mix 298 [.ptr big 0,.gsl 9001 1 l.length]),(9001,.fro 5 ⟨l.toArray⟩)],[.pv (.str ⟨l.toArray⟩)],Tk (aS O) (aO Xk) O O,O,O,O,O,O⟩
end
section
open Go.RowKit Go.Sort Go.Lib
theorem Tc(w:World)(T:TypeId)(nd:Nat)(B:nd<=24):Holds (fun(b:UInt8)=>Value.int .u8 (b.toNat:Int)) (w.alloc (.cells zeros24 T)) w.heap.size 0 (Array.replicate nd (0:UInt8)):=λj hj=>by
 have z:j<nd:=by simpa using hj
 refine⟨?_,World.frozen?_alloc_new _ _ _ _⟩;rw[World.cell?_alloc_new,zeros24_at _ Xj,getElem!_pos _ j hj];simp
theorem fin0(w:World)(o:Obj)(dk:Array UInt8)(k:Nat):∃os,(putRow (fun(b:UInt8)=>Value.int .u8 (b.toNat:Int)) (w.alloc o) w.heap.size 0 dk).drewN k=grow (w.drewN k) os:=by
 rw[alloc_eq_grow];obtain⟨os',_,e⟩:=putRow_grow_new (fun(b:UInt8)=>Value.int .u8 (b.toNat:Int)) w #[o] w.heap.size 0 dk (AT _);exact⟨os',by rw[e];rfl⟩
set_option maxHeartbeats 6400000
theorem wm(u:Nat)(z:u<18446744073709551616)(w:World)(G:Lib.TabIs prog w "internal/strconv.uint64pow10" .u64 Lib.pow10Tab):
  Calls prog 260 #[.int .u64 u,.int .i64 10] w λe w'=>e= .returned (.string ⟨(Lib.decDigits u).toArray⟩)/\∃k os,w'=grow (w.drewN k) os:=by
 by_cases hs:u<100
 .have hwr:IntKind.i64.wrap (u:Int)=(u:Int):=fw Xj;have J:((u:Int)<100):=Xj
  go_enter func260,ntmps260
  go_wp2_with (fail)
  refine(Tryz.internal_strconv_small u hs _).mono ?_;rintro e w' ⟨rfl,rfl⟩
  go_wp2
  go_ret
  exact⟨O,0, #[],by simp[World.drewN_zero]⟩
 have hu1:1<=u:=Xj;have L:¬ ((u:Int)<100):=Xj;have H:Lib.nDigits u<=20:=by have:=Lib.numDigits_eq u hu1 z;split at this<;>omega
 have M:Lib.nDigits u<=23:=Xj;have E:prog.arrayLen 370=24:=by simp[Program.arrayLen,underlying370]
 have I:∀W,(Instr.sliceAt 370 (.pointer (UF ⟨w.heap.size,0,UG⟩)) UG (UF (.int .i64 (Lib.nDigits u:Int))) UG).run prog W= .ok (.slice (UF ⟨w.heap.size,0,UG⟩) (Lib.nDigits u) 24) W:=λW=>by
  rw[run_sliceAt_array_h W 370 ⟨w.heap.size,0,UG⟩ (by simp[Program.arrayLen,Program.elem,underlying370]) .i64 (Lib.nDigits u:Int) Xj (by rw[E];omega)]
  go_simp
 have D:=Tc w 370 (Lib.nDigits u) Xj;have B:=Tryz.internal_strconv_formatBase10 w.heap.size 0 24 u (Array.replicate (Lib.nDigits u) 0) (w.alloc (.cells Lib.zeros24 370)) D (by rw[Array.size_replicate];exact Lib.lt_pow_nDigits u) z (by rw[Array.size_replicate];omega);rw[Array.size_replicate]at B;have HH0:=Lib.hid D;clear D E
 go_enter func260,ntmps260
 go_wp2_with (fail)
 refine(Tryz.internal_strconv_numDigits u hu1 z _ (Lib.tabIs_alloc G _)).mono ?_;rintro e w' ⟨rfl,rfl⟩
 go_wp2_with (fail)
 refine B.mono ?_;rintro e w' ⟨rfl,k,v',dk,rfl,hF⟩;have U:(convert 155 9 (.slice (UF ⟨w.heap.size,0,UG⟩) (Lib.nDigits u) 24)).run prog ((putRow (fun(b:UInt8)=>Value.int .u8 (b.toNat:Int)) (w.alloc (.cells Lib.zeros24 370)) w.heap.size 0 dk).drewN k)= .ok (.string ⟨(Lib.decDigits u).toArray⟩) ((putRow (fun(b:UInt8)=>Value.int .u8 (b.toNat:Int)) (w.alloc (.cells Lib.zeros24 370)) w.heap.size 0 dk).drewN k):=by
  have h:=run_convert_bytes_back (P:=prog) ((putRow (fun(b:UInt8)=>Value.int .u8 (b.toNat:Int)) (w.alloc (.cells Lib.zeros24 370)) w.heap.size 0 dk).drewN k) 155 9 5 ⟨w.heap.size,0,UG⟩ 24 (Lib.decDigits u) underlying155 underlying5 underlying9 (λj hj=>by
   rw[Lib.row_is_numeral hF j hj,Lib.add_plain,World.cell?_drewN];exact cell?_putRow (fun(b:UInt8)=>Value.int .u8 (b.toNat:Int)) _ w.heap.size 0 _ dk HH0.out (by rw[hF.size,Array.size_replicate]) j (by rw[hF.size];rw[Lib.decDigits_length]at hj;exact hj))
  rw[Lib.decDigits_length]at h;exact h
 go_wp2
 go_ret
 obtain⟨os,eo⟩:=fin0 w (.cells Lib.zeros24 370) dk k;exact⟨O,k,os,eo⟩
theorem iZ(u:Nat)(z:u<18446744073709551616):FnP prog 212 [.int .u64 u,.int .i64 10] (· = .str ⟨(Lib.decDigits u).toArray⟩):=by
 have B:FnP prog 260 [.int .u64 u,.int .i64 10] (· = .str ⟨(Lib.decDigits u).toArray⟩):=by
  intro w R us hG hR hrel;obtain⟨v11,rfl,h11⟩:=nO hrel;obtain⟨v12,rfl,h12⟩:=nO h11;obtain rfl:=nM h12;exact(wm u z w (QL hG)).mono λe w' ⟨he,k,os,hw⟩=>⟨_,_,he,O,by rw[hw];exact yK w k os,by simp only[RelP]⟩
 refine FnP.of func212 O ntmps212 Xn λ_ _ _ _=>?_
 exact Z1 O<|Z2 O<|Rs O (aa call260 B O)<|A1 O<|VF O O
end
section
open Mk Jn
section
variable {C:Ctx}{n:Nat}{σ:St}{dst:Option Tmp}{ty t t':TypeId}{pos:String}{after:Array Edge}{gd:Option (Nat×Bool)}{x y:Operand}
theorem wF(id':Nat)(he:ElemIs C.P t e (.int .u8 0) 1 1)(hu:C.P.underlying t'=UF .string)(hs:σ.ev n x= .gsl id 1 0)(ho:σ.ob id=UF (.gro e []))
  (hy:σ.ev n y= .pv (.str s)) (hb:s.size<=1000000000) (h0:0<s.size) (aa:σ.av id'=VA):
  XJ C n ⟨dst,.call { callee:= .builtin .append,args:= #[x,y],argTypes:= #[t,t'] },ty,pos,after,gd⟩ σ ⟨.gsl id' 1 s.size,[(id',UF (.gro e (aI s.data.toList))),(id,UG)],[id']⟩:=by
 rintro a w Q ⟨m,R,hw⟩;obtain⟨A0,c,hev,hkc,hcm,hz,hp⟩:=hw.gsl hs;obtain⟨rfl,rfl,hmn⟩:=hz O;obtain⟨i,hi,hzz,hsize,hbytes⟩:=info_parts he.info;have I:a.eval y= .string s:=hw.str hy;have J:s.size<=maxLen:=by simp only[maxLen];omega
 have L:s.data.toList.length=s.size:=by rw[Ua];rfl
 have M:aI s.data.toList≠[]:=λe=>by grind[List.length,aI,TB,VI]
 have D:=Go.run_append_nil_string (P:=C.P) w t t' ty e i (.int .u8 0) he.u hu hi hzz s Xj Xj (by rw[hbytes];omega);have U:w.grownBy (w.drew.alloc (.cells (s.data.map (λb=>Value.int .u8 b.toNat)++Builtin.zeroCells (Value.int .u8 0).cells (grownCap w s.size 0 e-s.size)) e)) UG:=⟨O,O,O,Xn,λq hq _=>heap_alloc_old w.drew _ hq⟩;have E:=grownCap_ge w s.size 0 e;have W:=grownCap_le_maxLen w s.size 0 e J;have X:(Value.int IntKind.u8 0).cells.size=1:=rfl;have hg:=heap_alloc_new w.drew (.cells (s.data.map (λb=>Value.int .u8 b.toNat)++Builtin.zeroCells (Value.int .u8 0).cells (grownCap w s.size 0 e-s.size)) e);have z:(s.data.map (λb=>Value.int .u8 b.toNat)++Builtin.zeroCells (Value.int .u8 0).cells (grownCap w s.size 0 e-s.size)).size=grownCap w s.size 0 e:=by
  have:s.data.size=s.size:=rfl;simp only[Array.size_append,Array.size_map,size_zeroCells,X];omega
 have Y:(s.data.map (λb=>Value.int .u8 b.toNat)++Builtin.zeroCells (Value.int .u8 0).cells (grownCap w s.size 0 e-s.size)).toList.take s.size=Lib.strCells s:=by
  rw[Array.toList_append,List.take_left' (by rw[Ua,Array.size_map];rfl),Array.toList_map];rfl
 generalize (s.data.map (λb=>Value.int .u8 b.toNat)++Builtin.zeroCells (Value.int .u8 0).cells (grownCap w s.size 0 e-s.size))=cur' at*;generalize grownCap w s.size 0 e=c' at*;generalize hw':w.drew.alloc (.cells cur' e)=w' at*;have G:w'.heap[w.heap.size]? =UF (.cells cur' e (0,0)):=hg;unfold Oper.wp;have B:(execOp a.eval ⟨dst,.call { callee:= .builtin .append,args:= #[x,y],argTypes:= #[t,t'] },ty,pos,after,gd⟩).run C.P w= .ok (.value (.slice (UF ⟨w.heap.size,0,UG⟩) s.size c')) w':=by
  unfold execOp;simp only[resolve,invoke,builtin,Sem.run_bind,Sem.run_pure,Result.andThen_ok,Wr,cu,Un,hev,I,D]
 rw[B];have H:(aI s.data.toList).length=s.size:=by simp only[aI,TB,L]
 refine⟨_,O,upd (upd m id UG) id' (UF (w.heap.size,cur'.size)),R,?_⟩;rw[Ts];have Z:∀i x,upd m id UG i=UF x->m i=UF x/\i≠id:=λi x e=>by grind[aC,a8]
 refine SW.put ((hw.drop id).fresh aa G U (λq hq=>by cases hq) (λhh=>?_) (λi b' N' hi e=>?_) (.inr ?_) (.gro e (aI s.data.toList)) ?_ (cY M)) dst ?_
 .have:=hw.hr.rsz _ hh;omega
 .have:=(hw.hr.own i b' N' (Z i _ hi).1).1;omega
 .have:=hw.hr.frame.size;omega
 .intro m' av' hR _ _;refine⟨cur',G,O,by rw[H,z];exact E,?_⟩;rw[H,Y];exact(oQ s).mono hR
 simp only[Rel];refine⟨by simp[avL],_,c',O,E,W,λh=>by omega,λ_ b' N' e'=>?_⟩;rw[aC]at e';cases e';exact⟨O,by rw[z,TZ]⟩
end
theorem th(s:ByteArray)(B:0<s.size)(D:s.size<=1000000000):FnO prog 210 2 1 [.ptr big 0,.pv (.str s)] [(big,.mix 298 [.pv .nilptr,.gsl 9001 1 0]),(9001,.gro 5 [])] (λv ob'=>v= .tup [pIi s.size,.pv .niliface]/\ob'=aB [(big,.mix 298 [.ptr big 0,.gsl 0 1 s.size]),(0,.gro 5 (aI s.data.toList))]):=by
 refine FnO.of func210 O ntmps210 Xn λ_ _ _ _=>?_
 have z:=Mx 0 [];exact Z2 O<|Z1 O<|Rs O (aF [big,9001] 0 call258 z O O O O ⟨O,O,Xq⟩ Xl O)<|Gr O<|Ar 6 O<|Rs O (wF 0 QX underlying9 O O O D B O)<|Y3 O<|Z4 O<|Gt O<|⟨[(4,pIi s.size),(5,.pv .niliface)],[(big,.mix 298 [.ptr big 0,.gsl 0 1 s.size]),(0,.gro 5 (aI s.data.toList))],[pIi s.size,.pv .niliface],Tk (aS O) (aO Xk) O O,O,O,O,O,O⟩
theorem Hr(n:Nat):0<(Lib.decDigits n).length:=by
 cases h:Lib.decDigits n with
 | nil=>
   exfalso;rw[Lib.decDigits]at h;split at h<;>simp at h
 |cons a l=>simp
theorem rR(n:Nat)(U:n<1000000000)(W:(Lib.decDigits n).length<=1000):FnP prog 213 [fr (n:Int)] (· = .str ⟨(Lib.decDigits n).toArray⟩):=by
 refine FnP.of func213 O ntmps213 Xn λ_ _ _ _=>?_
 have M:decide ((n:Int)<0)=VC:=TL Xj;have E:=iZ n Xj;have z:=Hr n;rw[show fr (n:Int)= .agg [.bool VC,.sl UG (ae n).length (cA (ae n))] by show PV.agg [.bool (decide ((n:Int)<0)),bY ((n:Int).natAbs)]=_;rw[M];rfl];by_cases h0:n=0
 .subst h0;rw[aV];refine Z2 O<|Z4 O<|Gc O (λB=>?_) (λB=>absurd B Xn);exact Z1 O<|VF O<|by show PV.str ⟨#[48]⟩=_;rw[Lib.decDigits,dif_pos Xl];rfl
 have hlm:ae n=[n]:=by
  rw[ae,sh h0,show n/1000000000=0 by omega,aV,VU U]
 rw[hlm];have G:(cA [n])[0]? =UF (.int .u64 (n:Int)):=rfl;generalize hD:Lib.decDigits n=D at*;have H:D≠[]:=λe=>by rw[e]at z;simp at z
 have J:=th ⟨D.toArray⟩ (show 0<D.length from z) (show D.length<=1000000000 by omega);have L:=wi D H Xj;refine Z2 O<|Z4 O<|Gc O (λhc=>absurd hc Xn) (λhc=>?_);refine Ti<|Z1 O<|Tj (St.da 1 1 2 1 5 O O O)<|Z2 O<|Gc O (λhc=>absurd hc Xn) (λhc=>?_);refine Ti<|Gr O<|Ar 5 O<|Gl O (st:=λb:Bool=>bif b then mkS [(1,.ptr 0 0),(3,.ptr 1 0),(4,pIi 0)] [(0,.mix 107 [.pv (.bool VC),.pv (.sl UG 1 (cA [n]))]),(1,.mix 298 [.pv .nilptr,.gsl 2 1 0]),(2,.gro 5 [])] 3 else mkS [(1,.ptr 0 0),(3,.ptr 1 0),(4,pIi (-1))] [(0,.mix 107 [.pv (.bool VC),.pv (.sl UG 1 (cA [n]))]),(1,.mix 298 [.ptr 1 0,.gsl 2 1 D.length]),(2,.gro 5 (aI D))] 3)
  (I:=λ_=>True) (μ:=λb=>bif b then 1 else 0) (x0:=VA) (WA O) trivial ?_
 rintro(_|_) _
 .simp only[Ue];refine Z2 O<|Gp O (λhc=>absurd hc Xl) (λhc=>?_);exact Gx O<|Gr O<|Rs O (aF [1,2] 3 call211 L O O O O ⟨O,O,Xq⟩ Xl O)<|A1 O<|VF O O
 simp only[U3];refine Z2 O<|Gp O (λhc=>?_) (λhc=>absurd hc Xl);refine Ti<|Z3 O<|Rs O (ag 0 underlying105 iM O O O Xl (by simp[cA]))<|Rs O (az ⟨_,underlying261,O⟩ O G)<|Rs O (aa call212 E O)<|A1 O<|Gr O<|Ar 6 O<|Gp O (λhc=>absurd hc Xn) (λhc=>?_);exact Ti<|Z1 O<|Rs O (aF [1,2] 3 call210 J O O O O ⟨O,O,Xq⟩ Xl O)<|Z3 O<|⟨VC,Tl [0,1,3] (aT O) (aP Xk) O O Xl O,Xq,Xl⟩
end
section
theorem Lx(g:Nat):fr (g:Int)= .agg [.bool VC,bY g]:=by grind
theorem Mf:bY 1= .sl UG 1 [.int .u64 1]:=by rw[bY,eV Xj Xj];rfl
theorem Ii(x:Int)(g:Nat)(B:0<g):(x<0/\0<x.natAbs%g->x/(g:Int)= -((x.natAbs/g+1:Nat):Int)/\x%(g:Int)=((g-x.natAbs%g:Nat):Int))/\
  (¬ (x<0/\0<x.natAbs%g)->x/(g:Int)=sgn (decide (x<0)) (x.natAbs/g)/\x%(g:Int)=((x.natAbs%g:Nat):Int)):=by
 have D:=Wx x.natAbs g;have E:=UH x.natAbs B;generalize x.natAbs/g=q at*;generalize x.natAbs%g=r at*;have G:((g*q:Nat):Int)=(g:Int)*(q:Int):=Vn g q;have z:(g:Int)* -((q+1:Nat):Int)= -((g:Int)*(q:Int))-(g:Int):=by grind
 constructor
 .rintro⟨h1,h2⟩;refine(Int.ediv_emod_unique Xj).2 ⟨?_,Xj,Xj⟩;rw[z];omega
 .intro h;by_cases h1:x<0
  .have hr:r=0:=by grind
   subst hr;rw[TD h1];refine(Int.ediv_emod_unique Xj).2 ⟨?_,Xj,Xj⟩;simp only[sgn,WH,Int.mul_neg];omega
  rw[TL h1];refine(Int.ediv_emod_unique Xj).2 ⟨?_,Xj,Xj⟩;simp only[sgn,UO,WZ];omega
theorem qz(x:Int)(g:Nat)(hx:(ae x.natAbs).length<=900000)(J:0<g)(L:g<1000000000):FnP prog 230 [fr x,fr (g:Int)] (· = .tup [fr (x/g),fr (x%g)]):=by
 refine FnP.ofC func230 O ntmps230 Xn λ_ _ _ _=>?_
 have U:FnP prog 281 [bY x.natAbs,bY g] (· = .tup [bY (x.natAbs/g),bY (x.natAbs%g)]):=Fs x.natAbs g Xj J L;obtain⟨hp1,hp2⟩:=Ii x g J;have W:(ae (x.natAbs/g)).length<=900000:=AS (cD (Xd _ _)) hx;have X:=UH x.natAbs J;have Y:(ae g).length<=1:=aR.2 Xj;have E:=bP VC (x.natAbs%g);have G:=bP (decide (x<0)) (x.natAbs/g);rw[Lx g];generalize hQ:x.natAbs/g=q at*;generalize hR:x.natAbs%g=r at*;have B:decide (((ae r).length:Int)>0)=decide (0<r):=by
  rw[WX];constructor
  .intro h;exact nZ Xj
  .intro h;have:(ae r).length≠0:=λe=>by have:=bJ.1 e;omega
   omega
 have D:(decide (x<0) !=VC)=decide (x<0):=Xn;refine Z4 O<|Z4 O<|Rs O (aa call281 U O)<|Ar 5 O<|Z3 O ?_;apply Tu 4 18 22 [19,20,21] O Xt
 .intro hb2;exact Ar 4 O<|Tm Xs O O O
 .intro hb2;exact Ar 4 O<|Tm Xs O O O
 refine Gc O (λz=>?_) (λz=>?_)
 .have hc:x<0/\0<r:=by rw[B]at z;simpa using z
  obtain⟨e1,e2⟩:=hp1 hc;have M:=w6 q 1 Xj (by rw[eV Xj Xj];decide);have Z:=qw g r Xj Xj;rw[Mf]at M;have H:=bP (decide (x<0)) (q+1);have I:=bP VC (g-r);refine UB 9 O<|D1 O<|TR O (λτ h=>au UG Xn wQ O Xl Xl (h.E0 O O) O)<|TR O (λτ h=>aa call231 M (h.aD O))<|Dr 3 O<|TR O (λτ h=>aa call233 Z (h.aD O))<|Dr 2 O ?_;refine⟨Xk,?_⟩;exact Gr O<|Ar 6 O<|Rs O (aa call224 (by rw[D];exact H) O)<|A1 O<|Rs O (aa call224 I O)<|Y2 O<|Gt O<|⟨_,_,O,O,⟨ax ⟨_,underlying107,O⟩ kP O O O,ax ⟨_,underlying107,O⟩ kP O O O,Xq⟩,by rw[e1,e2,TD hc.1];rfl⟩
 have hc:¬ (x<0/\0<r):=by rw[B]at z;intro h;simp[h.1,h.2]at z
 obtain⟨e1,e2⟩:=hp2 hc;exact Ti<|Gr O<|Ar 6 O<|Rs O (aa call224 (by rw[D];exact G) O)<|A1 O<|Rs O (aa call224 E O)<|Y2 O<|Gt O<|⟨_,_,O,O,⟨ax ⟨_,underlying107,O⟩ kP O O O,ax ⟨_,underlying107,O⟩ kP O O O,Xq⟩,by rw[e1,e2];rfl⟩
abbrev frC(q:Rat):List PV:=Rh q.num++Rh (q.den:Int)
abbrev frP(q:Rat):PV:= .agg (frC q)
structure FOk(q:Rat):Prop where
 d:q.den<31622
 n:(ae q.num.natAbs).length<=100000
theorem Kf(h:n<1000000000):(ae n).length<=1:=aR.2 Xj
theorem FOk.dl(h:FOk q):(ae (q.den:Int).natAbs).length<=1:=Kf (by rw[TW];have:=h.d;omega)
theorem BK(a:Int):((a-1).sign==0)=decide (a=1):=sign_eq a
theorem Xu{p:Prop}(h:p:=by decide+kernel):p:=h
theorem ix(q:Rat)(h:FOk q):FnP prog 168 [frP q] (· = .bool (decide (q.den=1))):=by
 refine FnP.of func168 O ntmps168 Xn λ_ _ _ _=>?_
 have z:=mV 1 Xj Xj;have B:=jf (q.den:Int) 1 (by have:=h.dl;omega) Xu;have e:(((q.den:Int)-1).sign==0)=decide (q.den=1):=by rw[BK,WX];omega
 refine Z2 O<|UB 6 O<|Dr 2 O<|TR O (λτ h=>aa call166 z O)<|TR O (λτ h=>aa call226 B (h.aD O))<|Dr 2 O ?_;refine⟨Xk,?_⟩;exact VF O<|ah PV.bool e
theorem lC(z:Int):FnP prog 165 [fr z] (· =frP (z:Rat)):=by
 refine FnP.ofC func165 O ntmps165 Xn λ_ _ _ _=>?_
 have B:=mV 1 Xj Xj;refine Z2 O<|UB 4 O<|D1 O<|TR O (λτ h=>aa call166 B O)<|Dr 2 O ?_;refine⟨Xk,?_⟩;exact VF O ⟨⟨ax ⟨_,underlying109,O⟩ rK O O O,Xq⟩,O⟩
theorem o0(n:Int)(z: -9223372036854775808<=n)(B:n<=9223372036854775807):FnP prog 95 [.int .i64 n] (· =frP (n:Rat)):=by
 refine FnP.ofC func95 O ntmps95 Xn λ_ _ _ _=>?_
 exact Z1 O<|Z1 O<|Rs O (aa call166 (mV n z B) O)<|Rs O (aa call165 (lC n) O)<|A1 O<|VF O ⟨⟨ax ⟨_,underlying109,O⟩ rK O O O,Xq⟩,O⟩
theorem fR(q:Rat):FnP prog 140 [frP q] (· = .int .i64 q.num.sign):=by
 refine FnP.of func140 O ntmps140 Xn λ_ _ _ _=>?_
 exact Z2 O<|Z2 O<|Rs O (aa call208 (ou q.num) O)<|A1 O<|VF O O
theorem Pq(x:Int)(y:Nat)(B:(ae x.natAbs).length<=900000)(z:y<1000000000):FnP prog 229 [fr x,fr (y:Int)] (· =fr (Int.gcd x y:Int)):=
 qY Ib (λx y h h0 h2 B z=>SX h h0 h2 B) x (y:Int) (.inl (by rw[TW];exact z)) Xj (by have:=Kf z;rw[TW];omega)
theorem Eb(x:Int)(y:Nat)(z:0<y):(Rat.divInt x y).num=x/(Int.gcd x y:Int)/\((Rat.divInt x y).den:Int)=(y:Int)/(Int.gcd x y:Int):=by
 rw[Rat.num_divInt,Rat.den_divInt,sh Xj,Int.gcd_comm (y:Int) x,Int.sign_eq_one_of_pos Xj,Int.one_mul];refine⟨O,?_⟩;rw[Int.natCast_ediv,show(((y:Int).natAbs:Nat):Int)=(y:Int) by omega]
theorem xD(x:Int)(y:Nat)(M:(ae x.natAbs).length<=900000)(Z:0<y)(U:y<1000000000):FnP prog 170 [fr x,fr (y:Int)] (· =frP (Rat.divInt x y)):=by
 refine FnP.ofC func170 O ntmps170 Xn λ_ _ _ _=>?_
 have L:=ou (y:Int);rw[Int.sign_eq_one_of_pos Xj]at L;have W:=Pq x y M U;have B:0<Int.gcd x y:=Int.gcd_pos_of_ne_zero_right x Xj;have X:Int.gcd x y<=y:=by
  have:=Int.le_of_dvd (show(0:Int)<(y:Int) by omega) (Int.gcd_dvd_right x (y:Int));omega
 obtain⟨e1,e2⟩:=Eb x y Z;have G:=mV 1 Xj Xj;generalize hG:Int.gcd x y=g at*;have D:=jf (g:Int) 1 (by have:=Kf (n:=g) Xj;rw[TW];omega) Xu;have H:=qz x g M B Xj;have I:=qz (y:Int) g (by have:=Kf U;rw[TW];omega) B Xj;have J:(((g:Int)-1).sign !=0)=decide (g≠1):=by
  have:=BK (g:Int);rw[bne,this,<-decide_not,WX];omega
 refine Z3 O<|Z1 O<|Rs O (aa call208 L O)<|A1 O<|Gp O (λE=>absurd E Xn) (λE=>?_);refine Ti<|Z2 O<|Rs O (aa call229 W O)<|Y2 O<|UB 4 O<|D1 O<|TR O (λτ h=>aa call166 G O)<|TR O (λτ h=>aa call226 D (h.aD O))<|D1 O ?_;refine⟨Xk,?_⟩;refine Gc O (λz=>?_) (λz=>?_)
 .exact Z2 O<|Rs O (aa call230 H O)<|Ar 4 O<|Z2 O<|Rs O (aa call230 I O)<|Ar 4 O<|Z4 O<|VF O ⟨⟨ax ⟨_,underlying109,O⟩ rK O O O,Xq⟩,by rw[frP,frC,e1,e2];rfl⟩
 have hg1:g=1:=by rw[J]at z;simpa using z
 have Y:frP (Rat.divInt x y)= .agg (Rh x++Rh (y:Int)):=by rw[frP,frC,e1,e2,hg1,Int.natCast_one,Int.ediv_one,Int.ediv_one]
 exact Ti<|Z4 O<|VF O ⟨⟨ax ⟨_,underlying109,O⟩ rK O O O,Xq⟩,by rw[Y];rfl⟩
theorem nc(h:q.den=1):(q.num:Rat)=q:=Rat.ext O h.symm
theorem jH(z:(ae a).length<=j)(B:(ae b).length<=k):(ae (a*b)).length<=j+k:=by
 refine aR.2 ?_;rw[Nat.pow_add];exact Nat.mul_lt_mul'' (aR.1 z) (aR.1 B)
theorem QR(z:(ae a).length<=k)(B:(ae b).length<=k):(ae (a+b)).length<=k+1:=by
 refine aR.2 ?_;have D:=aR.1 z;have E:=aR.1 B;rw[Um];omega
theorem den_mul(z:a<31622)(B:b<31622):a*b<1000000000:=
 Wq (Uy (show a<=31621 by omega) (show b<=31621 by omega)) Xl
theorem Hj(a b:Rat):Rat.divInt (a.num*b.num) ((a.den*b.den:Nat):Int)=a*b:=by
 rw[Rat.mul_def,Rat.normalize_eq_mkRat,<-Rat.divInt_ofNat]
theorem Fq(a b:Rat):Rat.divInt (a.num*(b.den:Int)+b.num*(a.den:Int)) ((a.den*b.den:Nat):Int)=a+b:=by
 rw[Rat.add_def,Rat.normalize_eq_mkRat,<-Rat.divInt_ofNat]
theorem iR(a b:Rat)(E:FOk a)(G:FOk b):FnP prog 98 [frP a,frP b] (· =frP (a*b)):=by
 refine FnP.ofC func98 O ntmps98 Xn λ_ _ _ _=>?_
 have L:=ix a E;have M:=ix b G;have U:=E.dl;have W:=G.dl;have H:=E.n;have I:=G.n;have D:=gj a.num b.num Xj Xj;have J:=gj (a.den:Int) (b.den:Int) Xj Xj;have X:=lC (a.num*b.num);have z:=xD (a.num*b.num) (a.den*b.den) (by rw[WL];have:=jH H I;omega) (W8 a.den_pos b.den_pos) (den_mul E.d G.d);rw[Hj,show((a.den*b.den:Nat):Int)=(a.den:Int)*(b.den:Int)from Vn _ _]at z;refine Z3 O<|Z1 O<|Rs O (aa call168 L O)<|A1 O ?_;apply Tu 3 7 10 [8,9] O Xt
 .intro hb2;exact A1 O<|Rg O (aa call168 M O)<|A1 O<|Tm Xs O O O
 .intro hb2;exact Y3 O<|Tm Xs O O O
 refine Gc O (λB=>?_) (λB=>?_)
 .have hab:a.den=1/\b.den=1:=by simpa using B
  have e:((a.num*b.num:Int):Rat)=a*b:=by rw[V5,nc hab.1,nc hab.2]
  exact Z4 O<|Rs O (aa call169 D O)<|Rs O (aa call165 X O)<|A1 O<|VF O ⟨⟨ax ⟨_,underlying109,O⟩ rK O O O,Xq⟩,by rw[<-e];rfl⟩
 refine Ti<|UB 12 O<|Dr 4 O<|TR O (λτ h=>aa call169 D (h.aD O))<|Dr 4 O<|TR O (λτ h=>aa call169 J (h.aD O))<|TR O (λτ h=>aa call170 z (h.aD O))<|D1 O ?_;refine⟨Xk,?_⟩;exact VF O ⟨⟨ax ⟨_,underlying109,O⟩ rK O O O,Xq⟩,O⟩
theorem mY(a b:Rat)(D:FOk a)(E:FOk b):FnP prog 99 [frP a,frP b] (· =frP (a+b)):=by
 refine FnP.ofC func99 O ntmps99 Xn λ_ _ _ _=>?_
 have Z:=ix a D;have h2:=ix b E;have G:=D.dl;have H:=E.dl;have I:=D.n;have J:=E.n;have L:(ae (a.num*(b.den:Int)).natAbs).length<=100001:=by rw[WL];exact jH I H
 have M:(ae (b.num*(a.den:Int)).natAbs).length<=100001:=by rw[WL];exact jH J G
 have U:=lx a.num b.num Xj Xj;have W:=gj a.num (b.den:Int) Xj Xj;have X:=gj b.num (a.den:Int) Xj Xj;have Y:=gj (a.den:Int) (b.den:Int) Xj Xj;have hs:=lx (a.num*(b.den:Int)) (b.num*(a.den:Int)) Xj Xj;have hw:=lC (a.num+b.num);have z:=xD (a.num*(b.den:Int)+b.num*(a.den:Int)) (a.den*b.den) (AS (cD (Int.natAbs_add_le _ _)) (by have:=QR L M;omega)) (W8 a.den_pos b.den_pos) (den_mul D.d E.d);rw[Fq,show((a.den*b.den:Nat):Int)=(a.den:Int)*(b.den:Int)from Vn _ _]at z;refine Z3 O<|Z1 O<|Rs O (aa call168 Z O)<|A1 O ?_;apply Tu 3 7 10 [8,9] O Xt
 .intro hb2;exact A1 O<|Rg O (aa call168 h2 O)<|A1 O<|Tm Xs O O O
 .intro hb2;exact Y3 O<|Tm Xs O O O
 refine Gc O (λB=>?_) (λB=>?_)
 .have hab:a.den=1/\b.den=1:=by simpa using B
  have e:((a.num+b.num:Int):Rat)=a+b:=by rw[Rat.intCast_add,nc hab.1,nc hab.2]
  exact Z4 O<|Rs O (aa call171 U O)<|Rs O (aa call165 hw O)<|A1 O<|VF O ⟨⟨ax ⟨_,underlying109,O⟩ rK O O O,Xq⟩,by rw[<-e];rfl⟩
 refine Ti<|UB 18 O<|Dr 4 O<|TR O (λτ h=>aa call169 W (h.aD O))<|Dr 4 O<|TR O (λτ h=>aa call169 X (h.aD O))<|TR O (λτ h=>aa call171 hs (h.aD O))<|Dr 4 O<|TR O (λτ h=>aa call169 Y (h.aD O))<|TR O (λτ h=>aa call170 z (h.aD O))<|D1 O ?_;refine⟨Xk,?_⟩;exact VF O ⟨⟨ax ⟨_,underlying109,O⟩ rK O O O,Xq⟩,O⟩
end
section
theorem uG(k:Nat)(a b:Int)(s t:ByteArray)(w:World):(Op.equalIn (k+2) 146 (.agg #[.int .i64 a,.string s]) (.agg #[.int .i64 b,.string t])).run prog w= .ok (a==b&&s.toList==t.toList) w:=by
 have z:=underlying3;have B:=underlying9;have hS:prog.underlying 146=UF (.struct (prog.fieldsOf 146)):=Xk;rw[run_equalIn_agg w (k+1) 146 _ _ hS Tryz.stoodInHeld146];simp only[Program.fieldsOf,underlying146]
 go_simp
 by_cases h1:a=b<;>by_cases h2:s.toList=t.toList<;>simp[h1,h2]
theorem eqTrm(k:Nat)(a b:Int)(s t u v:ByteArray)(w:World):(Op.equalIn (k+3) 148 (.agg #[.int .i64 a,.string s,.string u]) (.agg #[.int .i64 b,.string t,.string v])).run prog w= .ok ((a==b&&s.toList==t.toList)&&u.toList==v.toList) w:=by
 have B:=underlying41;have hS:prog.underlying 148=UF (.struct (prog.fieldsOf 148)):=Xk;rw[run_equalIn_agg w (k+2) 148 _ _ hS Tryz.stoodInHeld148];have z:=λw=>uG k a b s t w
 simp only[Program.fieldsOf,underlying148]
 go_simp
 by_cases h1:a=b<;>by_cases z:s.toList=t.toList<;>by_cases h3:u.toList=v.toList<;>simp[h1,z,h3]
theorem eqPrr(k:Nat)(a b a' b':Int)(s t s' t' u v:ByteArray)(w:World):(Op.equalIn (k+3) 150 (.agg #[.int .i64 a,.string s,.int .i64 a',.string s',.string u]) (.agg #[.int .i64 b,.string t,.int .i64 b',.string t',.string v])).run prog w= .ok (((a==b&&s.toList==t.toList)&&(a'==b'&&s'.toList==t'.toList))&&u.toList==v.toList) w:=by
 have D:=underlying41;have hS:prog.underlying 150=UF (.struct (prog.fieldsOf 150)):=Xk;rw[run_equalIn_agg w (k+2) 150 _ _ hS Tryz.stoodInHeld150];have z:=λw=>uG k a b s t w
 have B:=λw=>uG k a' b' s' t' w
 simp only[Program.fieldsOf,underlying150]
 go_simp
 by_cases h1:a=b<;>by_cases z:s.toList=t.toList<;>by_cases B:u.toList=v.toList<;>by_cases h4:a'=b'<;>by_cases h5:s'.toList=t'.toList<;>simp[h1,z,B,h4,h5]
structure Par where
 f:Int
 c:ByteArray
structure Trm where
 p:Par
 v:ByteArray
structure Prr where
 a:Par
 b:Par
 v:ByteArray
abbrev rG(p:Par):List PV:=[.int .i64 p.f,.str p.c]
abbrev Jq(t:Trm):List PV:=[.int .i64 t.p.f,.str t.p.c,.str t.v]
abbrev Ey(t:Prr):List PV:=[.int .i64 t.a.f,.str t.a.c,.int .i64 t.b.f,.str t.b.c,.str t.v]
def lq(p q:Par):Bool:=p.f==q.f&&p.c.toList==q.c.toList
def D4(p q:Trm):Bool:=lq p.p q.p&&p.v.toList==q.v.toList
def DH(p q:Prr):Bool:=(lq p.a q.a&&lq p.b q.b)&&p.v.toList==q.v.toList
theorem qO{p:Par}(h:RelP w R (.agg (rG p)) u):u= .agg #[.int .i64 p.f,.string p.c]:=by
 simpa[RelP,RelPL]using h
theorem Jf{p:Trm}(h:RelP w R (.agg (Jq p)) u):u= .agg #[.int .i64 p.p.f,.string p.p.c,.string p.v]:=by
 simpa[RelP,RelPL]using h
theorem I5{p:Prr}(h:RelP w R (.agg (Ey p)) u):u= .agg #[.int .i64 p.a.f,.string p.a.c,.int .i64 p.b.f,.string p.b.c,.string p.v]:=by
 simpa[RelP,RelPL]using h
section
variable {C:Ctx}{n:Nat}{σ:St}{dst:Option Tmp}{ty t':TypeId}{pos:String}{after:Array Edge}{gd:Option (Nat×Bool)}{x y:Operand}
theorem vt{p q:Par}(D:C.P=prog)(E:σ.ev n x= .pv (.agg (rG p)))(G:σ.ev n y= .pv (.agg (rG q))):
  XJ C n ⟨dst,.binOp .eql 146 x y t',ty,pos,after,gd⟩ σ ⟨.pv (.bool (lq p q)),[],[]⟩:=
 .lit O λa w m R hw=>by
  have z:=qO (hw.pv E);have B:=qO (hw.pv G);have e:(Op.equalIn 10000 146 _ _).run _ w=_:=uG 9998 p.f q.f p.c q.c w;rw[D];simp[execOp,z,B,run_eqGuard_agg w _ _ _ _ _ _ Tryz.eqGuardType146,run_eql_struct,e,yh,lq,D4,DH]
theorem KD{p q:Trm}(D:C.P=prog)(E:σ.ev n x= .pv (.agg (Jq p)))(G:σ.ev n y= .pv (.agg (Jq q))):
  XJ C n ⟨dst,.binOp .neq 148 x y t',ty,pos,after,gd⟩ σ ⟨.pv (.bool (!D4 p q)),[],[]⟩:=
 .lit O λa w m R hw=>by
  have z:=Jf (hw.pv E);have B:=Jf (hw.pv G);have e:(Op.equalIn 10000 148 _ _).run _ w=_:=eqTrm 9997 p.p.f q.p.f p.p.c q.p.c p.v q.v w;rw[D];simp[execOp,z,B,run_eqGuard_agg w _ _ _ _ _ _ Tryz.eqGuardType148,run_neq_struct,e,yh,lq,D4,DH]
theorem Kr{p q:Prr}(D:C.P=prog)(E:σ.ev n x= .pv (.agg (Ey p)))(G:σ.ev n y= .pv (.agg (Ey q))):
  XJ C n ⟨dst,.binOp .neq 150 x y t',ty,pos,after,gd⟩ σ ⟨.pv (.bool (!DH p q)),[],[]⟩:=
 .lit O λa w m R hw=>by
  have z:=I5 (hw.pv E);have B:=I5 (hw.pv G);have e:(Op.equalIn 10000 150 _ _).run _ w=_:=eqPrr 9997 p.a.f q.a.f p.b.f q.b.f p.a.c q.a.c p.b.c q.b.c p.v q.v w;rw[D];simp[execOp,z,B,run_eqGuard_agg w _ _ _ _ _ _ Tryz.eqGuardType150,run_neq_struct,e,yh,lq,D4,DH]
end
end
end Go.Proofs.YtkkenamefaegfaaGreatDoor
