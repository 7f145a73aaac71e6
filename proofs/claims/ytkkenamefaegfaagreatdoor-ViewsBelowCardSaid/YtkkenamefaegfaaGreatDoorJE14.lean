/- Lemmas. No condition. -/
import Derived.Test.YtkkenamefaegfaaGreatDoorJE13
set_option maxRecDepth 100000
set_option maxHeartbeats 4000000
open Go.RowKit Go.Proofs.Tryz
open Option renaming some→UF,none→UG
open Bool renaming true→VA,false→VC
namespace Go.Proofs.YtkkenamefaegfaaGreatDoor
variable{v n M a b i k k1 j:Nat}{α:Type}{L K D A:List Int}{w:World}{p q:Nat->Bool}{cs:List PV}{t:ByteArray}{l:List Bool}{S:Sch}{R:Nat->Prop}{T:TypeId}
section
namespace Vw
open Mm Jn Mk
set_option autoImplicit false
def gF(A:List Int)(l:List Rw):Prt:=⟨A,l.map λx=>⟨x.v,Gv.whole x.w.toNat⟩⟩
def Kh(E:List En):List En:=E.mergeSort λa b=>decide (a.t.data.toList<=b.t.data.toList)
def dV(K:List Int)(E:List En):Prt:=⟨K,(Kh E).map λe=>⟨e.v,e.g⟩⟩
theorem eE(E:List En):(Kh E).Perm E:=WV _ _
theorem sC(f:Gv->Nat)(K:List Int)(E:List En):(dV K E).tot f=jt f E:=by
 unfold Prt.tot dV jt;simp only[Va];exact((eE E).map λe=>f e.g).sum_nat
section
variable (S:Sch)(P:List Int)(T:List (List Rw))(lf:Int->ByteArray->Gv)
def lj(r:Int):List Int:=(S.rels.getD r.toNat default).2
def nv(r:Int):List Rw:=T.getD r.toNat []
def fy(f:Int->List En)(v:Int):List Prt:=((hoL S P v).map λr=>gF (lj S r) (nv T r))++(aE P v).map λc=>dV (cK S P c) (f c)
noncomputable def mkV(f:Int->List En)(v:Int):List En:=viewE (lf v) S.attrs.length v (cK S P v) (fy S P T f v)
noncomputable def vwK:Nat->Int->List En
 |0,v=>mkV S P T lf (λ_=>[]) v
 |k+1,v=>mkV S P T lf (vwK k) v
noncomputable def vwS(v:Int):List En:=vwK S P T lf P.length v
def Kc:Nat->Int->List Int
 |0,v=>hoL S P v
 |k+1,v=>hoL S P v++(aE P v).flatMap (Kc k)
def zX(f:Gv->Nat)(r:Int):Nat:=(gF (lj S r) (nv T r)).tot f
end
section
variable {S:Sch}{P:List Int}{T:List (List Rw)}{lf:Int->ByteArray->Gv}
theorem mE{f g:Int->List En}{v:Int}(h:∀c∈aE P v,f c=g c):mkV S P T lf f v=mkV S P T lf g v:=by
 have e:((aE P v).map λc=>dV (cK S P c) (f c))=(aE P v).map λc=>dV (cK S P c) (g c):=Ud λc hc=>by rw[h c hc]
 unfold mkV fy;rw[e]
theorem Bl(r:UpOk P):∀(k:Nat)(v:Nat),v<P.length->P.length<=k+1+(bU P v).length->vwK S P T lf (k+1) v=vwK S P T lf k v
 | 0,v,hv,h=>by
   rw[vwK,vwK];exact mE λc hc=>by rw[mg r hv Xj]at hc;simp at hc
 | k+1,v,hv,h=>by
   rw[vwK,vwK];refine mE λc hc=>?_
   obtain⟨m,hm,rfl,hp⟩:=bu.1 hc;have e:=dM r hm hv hp;exact Bl r k m hm (by rw[e,IT];omega)
theorem qx(r:UpOk P)(s:v<P.length):vwS S P T lf v=mkV S P T lf (vwS S P T lf) v:=by
 unfold vwS;rw[<-Bl r P.length v s Xj,vwK]
theorem vl:∀(k:Nat)(v:Int),Kc S P k v=(cH P k v).vs.flatMap (hoL S P)
 |0,v=>by rw[Kc,cH,Tr.vs,vsL];simp
 | k+1,v=>by
   rw[Kc,cH,Tr.vs,fe,T0,VT,List.flatMap_assoc];rw[show Kc S P k=λc=>(cH P k c).vs.flatMap (hoL S P)from funext (vl k)]
theorem n5(f:α->List Nat):∀l:List α,eQ (l.flatMap f)=eQ (l.map λa=>eQ (f a))
 |[]=>rfl
 |a::l=>by rw[T0,fj,cu,eQ,n5 f l]
theorem zz{f:Gv->Nat}(r:Msr f)(s:∀v t,f (lf v t)=1)(u:f (Gv.whole 1)=1):∀(k:Nat)(v:Int),jt f (vwK S P T lf k v)<=eQ ((Kc S P k v).map (zX S T f))
 | 0,v=>by
   rw[vwK,Kc];refine AS (xQ r (s v) u _ _) ?_;unfold fy;rw[Uc,fj,Va,Va];have h3:eQ ((aE P v).map (Prt.tot f∘λc=>dV (cK S P c) []))<=1^(aE P v).length:=by
    refine pF (AT 1) (λa ha=>?_) Xn;obtain⟨c,_,rfl⟩:=TG.1 ha;show(dV (cK S P c) []).tot f<=1;rw[sC];exact aJ _
   rw[Nat.one_pow]at h3;exact AS (T9 _ h3) (UM (TZ _))
 | k+1,v=>by
   rw[vwK,Kc,Uc,fj,Wf,n5];refine AS (xQ r (s v) u _ _) ?_;unfold fy;rw[Uc,fj,Va,Va];refine Uy (UM O) (nj λc _=>?_);show(dV (cK S P c) (vwK S P T lf k c)).tot f<=_;rw[sC];exact zz r s u k c
theorem zm(r:L.Nodup)(H:List Int):∀k,(L.map λv=>(nA H k v).length).sum<=k
 | 0=>by
   have:∀l:List Int,(l.map λv=>(nA H 0 v).length).sum=0:=λl=>by
    induction l with
    |nil=>rfl
    |cons a l ih=>rw[cu,Up,ih];rfl
   rw[this];exact AT _
 | k+1=>by
   have h:=zm r H k;have e:∀l:List Int,(l.map λv=>(nA H (k+1) v).length).sum=(l.map λv=>(nA H k v).length).sum+l.count (H.getD k 0):=λl=>by
    induction l with
    |nil=>rfl
    | cons a l ih=>
      rw[cu,Up,ih,cu,Up,List.count_cons,qy,IN];generalize H.getD k 0=y;by_cases ha:y=a
      .subst ha;rw[By O,By Xn,TP];omega
      rw[sh ha,sh (by simpa using Ne.symm ha),VI];omega
   rw[e];have:=List.nodup_iff_count.1 r (H.getD k 0);omega
theorem mA{β:Type}(f:α->List β):∀l:List α,(l.flatMap f).length=(l.map λa=>(f a).length).sum
 |[]=>rfl
 |a::l=>by rw[T0,IN,mA f l,cu,Up]
theorem F7(r:L.Nodup):(L.flatMap (hoL S P)).length<=S.rels.length:=by
 rw[mA];exact zm r _ _
theorem Sf:∀{L:List Int},L.Nodup->(∀x∈L,∃a:Nat,a<n/\x=(a:Int))->L.length<=n:=by
 intro L hL hr;have h:=zm hL (upZ n) n;have e:∀l:List Int,(∀x∈l,∃a:Nat,a<n/\x=(a:Int))->l.length<=(l.map λv=>(nA (upZ n) n v).length).sum:=λl=>by
  induction l with
  |nil=>intro _;exact aJ _
  | cons x l ih=>
    intro hx;obtain⟨a,ha,rfl⟩:=hx x Xn;have r:=ih λy hy=>hx y (by simp[hy])
    have s:1<=(nA (upZ n) n (a:Int)).length:=by
     refine Uq.2 λe=>?_
     have:(a:Int)∈nA (upZ n) n (a:Int):=by
      unfold nA;refine TG.2 ⟨a,UW.2 ⟨UR.2 ha,?_⟩,O⟩;simp[upZ,List.getD,ha]
     rw[e]at this;simp at this
    rw[IT,cu,Up];omega
 exact AS (e L hr) h
theorem oy(s:UpOk P)(r:v<P.length):(cH P P.length v).vs.Nodup/\∀x∈(cH P P.length v).vs,∃a:Nat,a<P.length/\x=(a:Int):=by
 rw[tree_vs];have u:=vy (P:=P) P.length (v:Int);have z:∀a (ha:a<P.length),P[a]=(v:Int)->P.length+1<=(bU P a).length+P.length:=λa ha e=>by
  have:=dM s ha r (by rw[getD_at ha];exact e);rw[this,IT];omega
 have hc:=λx (hx:x<P.length)=>j8 s P.length (v:Int) z x hx
 refine⟨Vh.2 ⟨λh=>?_,List.nodup_iff_count.2 λx=>?_⟩,λx hx=>?_⟩
 .have h1:=List.count_pos_iff.2 h;rw[hc v r,sh]at h1
  .omega
  .intro h2;rcases Uf.1 h2 with h2|h2
   .exact xA s r h2
   simp at h2
 .by_cases hx:x∈lH P P.length (v:Int)
  .obtain⟨a,ha,rfl⟩:=u x hx;rw[hc a ha];split<;>omega
  rw[List.count_eq_zero.2 hx];omega
 rcases BY.1 hx with rfl|hx
 .exact⟨v,r,O⟩
 exact u x hx
theorem Ja(s:UpOk P){f:Gv->Nat}(u:Msr f)(z:∀v t,f (lf v t)=1)(B:f (Gv.whole 1)=1)(E:1<=M)(G:∀r,zX S T f r<=M)(H:v<P.length):jt f (vwS S P T lf v)<=M^S.rels.length:=by
 refine AS (zz u z B _ _) (pF E (λa ha=>?_) ?_)
 .obtain⟨r,_,rfl⟩:=TG.1 ha;exact G r
 rw[TB,vl];exact F7 (oy s H).1
theorem F3(s:UpOk P){f:Gv->Nat}(u:Msr f)(z:∀v t,f (lf v t)=1)(B:f (Gv.whole 1)=1)(E:1<=M)(G:∀r,zX S T f r<=M):eQ ((aE P (-1)).map λr=>jt f (vwS S P T lf r))<=M^S.rels.length:=by
 refine AS (nj λr _=>zz u z B P.length r) ?_;rw[<-n5,<-Wf];refine pF E (λa ha=>?_) ?_
 .obtain⟨r,_,rfl⟩:=TG.1 ha;exact G r
 rw[TB];have e:(aE P (-1)).flatMap (Kc S P P.length)=(aQ P).flatMap (hoL S P):=by
  rw[<-pJ,fe,VT,List.flatMap_assoc];rw[show Kc S P P.length=λc=>(cH P P.length c).vs.flatMap (hoL S P)from funext (vl _)]
 rw[e];exact F7 ((cE s).nodup_iff.2 (cq _))
theorem Su(u:∀v t,(lf v t).k<=1):∀(k:Nat)(v:Int),∀e∈vwK S P T lf k v,e.g.k<=(cH P k v).vs.length:=by
 have s:∀(f:Int->List En)(v:Int)(b:Int->Nat),(∀c∈aE P v,∀e∈f c,e.g.k<=b c)->∀e∈mkV S P T lf f v,e.g.k<=((aE P v).map b).sum+1:=by
  intro f v b hb;refine mF (I:=λe=>e.g.k<=((aE P v).map b).sum+1) (λx y hx hy t=>Nat.max_le.2 ⟨hx,hy⟩) _ (λ_ h=>absurd h Xn) λl hl=>?_
  have z:=AA l hl;have B:=u v (l.1.v.getD v.toNat ⟨#[]⟩);have E:((fy S P T f v).map Prt.km).sum<=((aE P v).map b).sum:=by
   unfold fy;rw[Uc,List.sum_append,Va,Va];have G:((hoL S P v).map (Prt.km∘λr=>gF (lj S r) (nv T r))).sum<=((hoL S P v).map λ_=>0).sum:=yf λr _=>PM λi hi=>by
    obtain⟨x,_,rfl⟩:=TG.1 hi;exact AT _
   have H:((hoL S P v).map λ_=>0).sum=0:=by
    generalize hoL S P v=l;induction l with
    |nil=>rfl
    |cons a l ih=>rw[cu,Up,ih]
   have J:((aE P v).map (Prt.km∘λc=>dV (cK S P c) (f c))).sum<=((aE P v).map b).sum:=yf λc hc=>PM λi hi=>by
    obtain⟨x,hx,rfl⟩:=TG.1 hi;exact hb c hc x ((eE _).mem_iff.1 hx)
   omega
  have U:(Gv.whole 1).k=0:=rfl;show l.2.k+(lf v _).k<=_;omega
 intro k;induction k with
 | zero=>
   intro v e he;have:=s (λ_=>[]) v (λ_=>0) (λ_ _ _ h=>absurd h Xn) e (by rw[vwK]at he;exact he);have V:((aE P v).map λ_=>0).sum=0:=by
    generalize aE P v=l;induction l with
    |nil=>rfl
    |cons a l ih=>rw[cu,Up,ih]
   rw[cH,Tr.vs,vsL];simp only[TP];omega
 | succ k ih=>
   intro v e he;have:=s (vwK S P T lf k) v (λc=>(cH P k c).vs.length) (λc _ e he=>ih c e he) e (by rw[vwK]at he;exact he);rw[cH,Tr.vs,fe,VT,IT,mA];exact this
theorem vwS_k(r:UpOk P)(s:∀v t,(lf v t).k<=1)(u:v<P.length):∀e∈vwS S P T lf v,e.g.k<=P.length:=λe he=>by
 obtain⟨h2,h3⟩:=oy r u;exact AS (Su s _ _ e he) (Sf h2 h3)
end
end Vw
end
section
open Go.RowKit Mk Jn Mm Vw
theorem MF[Inhabited α](enc:α->Value)(w:World)(b n:Nat)(d:Array α)(os:Array Obj)(u:b<w.heap.size):SrtW (λx=>[enc x]) b w (Go.Sort.grow (Go.Sort.putRow enc (Go.Sort.ahead w n) b 0 d) os) d.toList:=by
 have s:(Go.Sort.grow (Go.Sort.putRow enc (Go.Sort.ahead w n) b 0 d) os).heap=(w.heap.modify b (Go.Sort.onCells (Go.Sort.putCells enc 0 d)))++os:=rfl;have r:(d.toList.flatMap λx=>[enc x])=d.toList.map enc:=by rw[WW]
 refine⟨O,O,O,?_,λj hj hne=>?_,λarr ty fz h hle=>?_⟩
 .rw[s];simp
 .grind
 refine⟨Go.Sort.putCells enc 0 d arr,?_,by simp[Go.Sort.putCells],?_⟩
 .rw[s,Array.getElem?_append_left (by simpa using u),WN,By O,h];rfl
 rw[r]at hle ⊢;apply UL
 .simp[Go.Sort.putCells]at hle ⊢; omega
 .intro i h1 h2;simp only[TB,Ua]at h2 hle;simp only[List.getElem_take,Array.getElem_toList,Go.Sort.putCells,Array.getElem_mapIdx,UP];rw[By ⟨aJ _,Xj⟩,Nat.sub_zero,getElem!_pos d i h2]
theorem zy(l:List ByteArray):yw l=bW l:=(WW ..).symm
theorem Oc{a b:ByteArray}:leS a b↔a.data.toList<=b.data.toList:=by
 unfold leS ltS;exact List.not_lt
theorem Ft{enc:List UInt8->Value}{arr:Array Value}{ty:TypeId}{ds:List (List UInt8)}(u:w.heap[b]? =UF (.cells arr ty (0,0)))(h:arr.toList.take (ds.flatMap λx=>[enc x]).length=ds.flatMap λx=>[enc x]):Go.Sort.Holds enc w b 0 ds.toArray:=by
 have r:(ds.flatMap λx=>[enc x])=ds.map enc:=by rw[WW]
 rw[r]at h;intro j hj;rw[T4]at hj;have s:(arr.toList.take (ds.map enc).length)[j]? =(ds.map enc)[j]? :=by rw[h]
 rw[TS,By (by simpa using hj),WO,VO,IS hj]at s;constructor
 .simp only[World.cell?,u,T8];rw[s,getElem!_pos ds.toArray j (by simpa using hj)];simp
 simp[World.frozen?,u]
theorem yt(l:List ByteArray)(H:l.length<=1000000):FnO prog 256 1 0 [.gsl big 1 l.length] [(big,.gro 9 (yw l))] (λv ob'=>v= .tup []/\ob'=aB [(big,.gro 9 (yw (rT l)))]):=by
 intro w m R us hR hrel;simp only[RelL,Rel]at hrel;obtain⟨u1,us1,rfl,⟨_,A,c,rfl,hnc,hcm,h0,h1⟩,rfl⟩:=hrel;refine(mK (α:=List UInt8) (λx=>[Go.Proofs.encStr x]) (λ_=>rfl) SN (λ_=>rfl) Xl (λx=>⟨x.toArray⟩) (λs=>s.Pairwise λa b=>a<=b) List.Pairwise.nil hR (λh=>(h0 h).1) h1 (λus h=>?_) (λw' _ s=>?_)
  (Tryz.slices_Sort_string_none UG c w) ?_).mono ?_
 .refine⟨l.map (·.data.toList),by rw[Va];exact(Ud λx _=>rfl).trans (W7 l),?_⟩;have B:RelPL w R.p (bW l) us:=by
   rw[<-zy];exact h
  rw[q8 B,VT,WW]
 .have e:((s.map λx=>(⟨x.toArray⟩:ByteArray)).flatMap SN)=bW (s.map λx=>(⟨x.toArray⟩:ByteArray)):=zy _;have G:(s.flatMap λx=>[Go.Proofs.encStr x])=(s.map λx=>(⟨x.toArray⟩:ByteArray)).map Value.string:=by rw[Va,WW];rfl
  rw[e,G];exact KW _
 .intro b s arr hds hpos hb ht hbs hbR;have E:s.length=l.length:=by rw[<-hds,TB]
  have z:=Tryz.slices_Sort_string b 0 c s w (Ft hb ht) hbs Xj;rw[E]at z;refine Calls.mono z ?_;rintro e w' ⟨rfl,n,os,rfl⟩;refine⟨O,s.mergeSort λx y=>decide (x<=y),WV _ _,?_,MF Go.Proofs.encStr w b n _ os hbs⟩;have:=Wu (le:=λa b:List UInt8=>decide (a<=b)) (by intro a b c h1 B;simp only[Tz]at *; exact List.le_trans h1 B) (by intro a b;simp only[Ub,Tz];exact List.le_total a b) s;exact this.imp Xn
 rintro e w' ⟨u,v,ob',m',R',rfl,⟨l',ds',hp,rfl,hs,rfl,rfl⟩,r⟩;refine⟨u,_,_,m',R',O,⟨O,?_⟩,r⟩;have e:ds'.map (λx=>(⟨x.toArray⟩:ByteArray))=rT l:=by
  refine vF hp ?_;rw[Vx];exact hs.imp fun{a b} h=>Oc.2 (by simpa using h)
 rw[e];rfl
theorem zH(ks vs:List PV):FnP prog 207 [.mp ks vs] (· = .fn (.func 257) [] [.rp [.mp ks vs] 0]):=by
 refine FnP.of func207 O ntmps207 Xn λ_ _ _ _=>?_
 exact Z2 O<|Tj (St.jZ 0 O O)<|Z2 O<|VF O O
theorem wc(xs:List ByteArray)(vs:List PV)(E:xs.length<=1000000):
  FnP prog 206 [.fn (.func 257) [] [.rp [.mp (xs.map PV.str) vs] 0]] (· =bh (rT xs)):=by
 have r:=JM xs vs E;refine FnP.of func206 O ntmps206 Xn λ_ _ _ _=>?_
 refine Z1 O<|Z1 O<|RL.call O (cz [] 0 call255 O O O O (by exact trivial) Xl O r ?_);rintro _ _ ⟨ss,hS,rfl,rfl⟩;refine A1 O ?_;have u:ss.length<=1000000:=by rw[hS.length_eq];exact E
 have z:=yt ss u;refine Z1 O<|RL.call O (cz [0] 1 call256 O O O O (by exact⟨Xk,Xq⟩) Xl O z ?_);rintro _ _ ⟨rfl,rfl⟩;have s:rT ss=rT xs:=vF ((nY ss).trans hS) (oN ss);have B:ss.length=(rT xs).length:=by rw[<-s,(nY ss).length_eq]
 rw[s,B];exact Z2 O<|VF O<|by show PV.sl UG _ (yw _)=_;rw[zy]
end
section
namespace Vw
open Mm Jn Mk
set_option autoImplicit false
section
variable {Q:List Par}{X:Nat->List ByteArray}
structure VX(X:Nat->List ByteArray)(A:List Int)(V:List ByteArray):Prop where
 len:V.length=A.length
 x:∀j (h:j<V.length) (h':j<A.length),V[j]∈X A[j].toNat
structure ChX(n:Nat)(X:Nat->List ByteArray)(x:Ch):Prop where
 v:x.v.length=n
 s:x.s.length=n
 x:∀a,x.v.getD a ⟨#[]⟩∈X a
theorem QB(r:∀a,(⟨#[]⟩:ByteArray)∈X a):ChX n X (ch0 n):=by
 refine⟨by simp[ch0],by simp[ch0],λa=>?_⟩;have:(ch0 n).v.getD a ⟨#[]⟩=⟨#[]⟩:=by
  simp only[ch0,TO,Vv];split<;>rfl
 rw[this];exact r a
theorem GP:∀{A:List Int}{V:List ByteArray}{x:Ch},VX X A V->ChX n X x->ChX n X (ko x A V)
 |[],V,x,_,h=>h
 |a::A,[],x,hv,_=>absurd hv.len Xn
 | a::A,t::V,x,hv,h=>by
   show ChX n X (ko (vD x (a,t)) A V);refine GP ⟨by have:=hv.len;simpa using this,λj h1 h2=>?_⟩ ⟨by simpa[vD]using h.v,by simpa[vD]using h.s,λb=>?_⟩
   .have:=hv.x (j+1) (by simpa using h1) (by simpa using h2);simpa using this
   have h3:=hv.x 0 Xn Xn;simp only[List.getElem_cons_zero]at h3;simp only[vD,TO,WT];split
   .rename_i e;subst e;split
    .exact h3
    have h4:=h.x a.toNat
    rename_i h5;rw[TO,List.getElem?_eq_none Xj]at h4;exact h4
   have h4:=h.x b;rw[TO]at h4;exact h4
structure ItX(Q:List Par)(X:Nat->List ByteArray)(A:List Int)(V:List ByteArray)(g:Gv):Prop where
 ok:GvOk Q g
 n:1<=g.n
 v:VX X A V
abbrev PtX(Q:List Par)(X:Nat->List ByteArray)(p:Prt):Prop:=∀i∈p.is,ItX Q X p.a i.v i.g
theorem Mn{x:Ch}(h:ChX n X x):VX X K (ir K x):=
 ⟨by simp[ir],λj h1 h2=>by simp only[ir,UP];exact h.x _⟩
theorem uD{ps:List Prt}(r:∀p∈ps,PtX Q X p){x:Ch}{g:Gv}(s:ChX n X x)(u:GvOk Q g)(z:1<=g.n):∀l∈leaves ps x g,ChX n X l.1/\GvOk Q l.2/\1<=l.2.n:=
 DM (I:=λx g=>ChX n X x/\GvOk Q g/\1<=g.n) ⟨s,u,z⟩ λp hpp i hi x g h _=>⟨GP (r p hpp i hi).v h.1,h.2.1.mul (r p hpp i hi).ok,Uy h.2.2 (r p hpp i hi).n⟩
structure LfX(Q:List Par)(X:Nat->List ByteArray)(lf:Int->ByteArray->Gv):Prop where
 g:∀v t,t∈X v.toNat->GvOk Q (lf v t)
 n:∀v t,(lf v t).n=1
 w:∀v t,(lf v t).w=1
 k:∀v t,(lf v t).k=1
 x0:∀a,(⟨#[]⟩:ByteArray)∈X a
theorem G1{lf:Int->ByteArray->Gv}(r:LfX Q X lf){v:Int}{ps:List Prt}(s:∀p∈ps,PtX Q X p):∀e∈viewE (lf v) n v K ps,ItX Q X K e.v e.g:=by
 refine mF (I:=λe=>ItX Q X K e.v e.g) (λx y hx hy t=>⟨hx.ok.add hy.ok,AS hx.n (Vf _ _),hx.v⟩) _ (λ_ h=>absurd h Xn) λl hll=>?_
 obtain⟨h1,h2,h3⟩:=uD s (QB (n:=n) r.x0) (GvOk.whole Q 1) (AT 1) l hll;refine⟨h2.mul (r.g _ _ (h1.x _)),?_,Mn h1⟩;show 1<=l.2.n*(lf v _).n;rw[r.n];omega
section
variable {S:Sch}{P:List Int}{T:List (List Rw)}{lf:Int->ByteArray->Gv}
def TbX(X:Nat->List ByteArray)(S:Sch)(T:List (List Rw)):Prop:=∀r:Int,∀x∈nv T r,VX X (lj S r) x.v
theorem S6(s:TbX X S T)(r:Int):PtX Q X (gF (lj S r) (nv T r)):=λi hi=>by
 obtain⟨x,hx,rfl⟩:=TG.1 hi;exact⟨GvOk.whole Q _,AT 1,s r x hx⟩
theorem SO{E:List En}(h:∀e∈E,ItX Q X K e.v e.g):PtX Q X (dV K E):=λi hi=>by
 obtain⟨e,he,rfl⟩:=TG.1 hi;exact h e ((eE E).mem_iff.1 he)
theorem vC(r:TbX X S T){f:Int->List En}{v:Int}(s:∀c∈aE P v,∀e∈f c,ItX Q X (cK S P c) e.v e.g):∀p∈fy S P T f v,PtX Q X p:=λp hp=>by
 rcases Uf.1 hp with hp|hp
 .grind[TG.1,S6]
 grind[TG.1,SO]
theorem R6(hl:LfX Q X lf)(hT:TbX X S T):∀(k:Nat)(v:Int),∀e∈vwK S P T lf k v,ItX Q X (cK S P v) e.v e.g
 |0,v=>by rw[vwK];exact G1 hl (vC hT λ_ _ _ h=>absurd h Xn)
 |k+1,v=>by rw[vwK];exact G1 hl (vC hT λc _=>R6 hl hT k c)
theorem Kt(r:LfX Q X lf)(s:TbX X S T)(v:Int):∀e∈vwS S P T lf v,ItX Q X (cK S P v) e.v e.g:=R6 r s _ v
theorem NV(f:Int->List En)(v:Int):EnOk (mkV S P T lf f v):=AF _ EnOk.nil
theorem Sg:∀(k:Nat)(v:Int),EnOk (vwK S P T lf k v)
 |0,v=>by rw[vwK];exact NV _ v
 |k+1,v=>by rw[vwK];exact NV _ v
theorem II(v:Int):EnOk (vwS S P T lf v):=Sg _ v
def getV(vs:List (Option (List En)))(c:Int):List En:=(vs.getD c.toNat UG).getD []
noncomputable def bldS(S:Sch)(P:List Int)(T:List (List Rw))(lf:Int->ByteArray->Gv)(vs:List (Option (List En)))(v:Int):List (Option (List En)):=vs.set v.toNat (UF (mkV S P T lf (getV vs) v))
noncomputable def stV(S:Sch)(P:List Int)(T:List (List Rw))(lf:Int->ByteArray->Gv)(D:List Int):List (Option (List En)):=(List.range P.length).map λa:Nat=>if(a:Int)∈D then UF (vwS S P T lf a)else UG
theorem GO(D:List Int):(stV S P T lf D).length=P.length:=by simp[stV]
theorem BR(h:a<(stV S P T lf D).length):(stV S P T lf D)[a]=if(a:Int)∈D then UF (vwS S P T lf a)else UG:=by simp[stV]
theorem IV(r:a<P.length)(h:(a:Int)∈D):getV (stV S P T lf D) a=vwS S P T lf a:=by
 unfold getV;rw[TO,TU,IS (by rw[GO];exact r),BR,By h];rfl
theorem AK(z:UpOk P)(H:i<(aQ P).length):bldS S P T lf (stV S P T lf ((aQ P).drop (i+1))) (aQ P)[i]=stV S P T lf ((aQ P).drop i)/\∀c∈aE P (aQ P)[i],c∈(aQ P).drop (i+1):=by
 have I:(aQ P).Nodup:=(cE z).nodup_iff.2 (cq _);obtain⟨v,hv,e⟩:∃v:Nat,v<P.length/\(aQ P)[i]=(v:Int):=by
  have:=(cE z).mem_iff.1 (aq H);exact bp.1 this
 have u:∀c∈aE P (aQ P)[i],c∈(aQ P).drop (i+1):=by
  intro c hc;rw[e]at hc;obtain⟨m,hm,rfl,hp⟩:=bu.1 hc;have B:(m:Int)∈aQ P:=(cE z).mem_iff.2 (bp.2 ⟨m,hm,O⟩);obtain⟨j,hj,ej⟩:=Ux B;have r:=(PB z hj).2;rw[ej,TU,hp]at r;rcases r with r|r
  .omega
  obtain⟨l,hl,el⟩:=Vm.1 r;have:l=i:=by grind[aQ,List.getElem_inj]
  rw[List.mem_drop_iff_getElem];obtain⟨d,rfl⟩:∃d,j=i+1+d:=⟨j-(i+1),Xj⟩;exact⟨d,Xj,ej⟩
 refine⟨?_,u⟩;have s:(aQ P).drop i=(aQ P)[i]::(aQ P).drop (i+1):=TN H;have E:mkV S P T lf (getV (stV S P T lf ((aQ P).drop (i+1)))) (v:Int)=vwS S P T lf v:=by
  rw[qx z hv];refine mE λc hc=>?_
  have G:=u c (by rw[e];exact hc);obtain⟨m,hm,rfl,_⟩:=bu.1 hc;exact IV hm G
 unfold bldS;rw[e,E,s,e,TU];apply UL
 .simp[stV]
 .intro a G r;rw[BR r,List.getElem_set];by_cases hav:v=a
  .subst hav;simp
  rw[sh hav,BR (by simpa[stV]using G)];have:((a:Int)∈(v:Int)::(aQ P).drop (i+1))↔(a:Int)∈(aQ P).drop (i+1):=by grind
  simp only[this]
theorem RY(r:UpOk P)(s:i<(aQ P).length)(e:(aQ P)[i]=(v:Int)):(stV S P T lf ((aQ P).drop (i+1))).set v (UF (vwS S P T lf v))=stV S P T lf ((aQ P).drop i):=by
 obtain⟨h1,h2⟩:=AK (S:=S) (T:=T) (lf:=lf) r s;rw[<-h1];have u:v<P.length:=by
  have:=(cE r).mem_iff.1 (aq s);obtain⟨w,hw,e2⟩:=bp.1 this;omega
 unfold bldS;rw[e,TU,qx r u]
 congr 2
 refine mE λc hc=>?_
 have z:=h2 c (by rw[e];exact hc);obtain⟨m,hm,rfl,_⟩:=bu.1 hc;exact(IV hm z).symm
theorem P5(r:UpOk P):stV S P T lf (aQ P)=(List.range P.length).map λa:Nat=>UF (vwS S P T lf a):=by
 unfold stV;refine Ud λa ha=>By ?_
 exact(cE r).mem_iff.2 (bp.2 ⟨a,UR.1 ha,O⟩)
def jn(E:List En):List En:=E.mergeSort λa b=> !bO b.v a.v
theorem fi(E:List En):(jn E).Perm E:=WV _ _
theorem QU(E:List En):(jn E).Pairwise λa b=>bO b.v a.v=VC:=by
 have h:=Wu (le:=λa b:En=> !bO b.v a.v) (λa b c h1 h2=>?_) (λa b=>?_) E
 .exact h.imp fun{a b} h=>by simpa using h
 .grind[Vg,bO,jo,mN]
 grind[bO]
theorem EnOk.vnd{E:List En}(h:EnOk E):E.Pairwise λa b=>a.v≠b.v:=by
 have:=h.nd;rw[List.Nodup,Vx]at this;refine List.Pairwise.imp_of_mem (fun{a b} ha hb hne e=>hne ?_) this;rw[h.t a ha,h.t b hb,e]
theorem r7:∀{l m:List En},(l.Pairwise λa b=>bO b.v a.v=VC)->(m.Pairwise λa b=>bO b.v a.v=VC)->(l.Pairwise λa b=>a.v≠b.v)->l.Perm m->l=m
 |[],m,_,_,_,hp=>List.Perm.nil_eq hp
 |x::l,[],_,_,_,hp=>absurd hp.length_eq Xn
 | x::l,y::m,h1,h2,h3,hp=>by
   obtain⟨a1,a2⟩:=Ut.1 h1;obtain⟨b1,b2⟩:=Ut.1 h2;obtain⟨c1,c2⟩:=Ut.1 h3;have r:x=y:=by grind[BY.1,Vr,mN]
   subst r;rw[r7 a2 b2 c2 (List.Perm.cons_inv hp)]
theorem Ql{E l:List En}(h:EnOk E)(r:l.Perm E)(s:l.Pairwise λa b=>bO b.v a.v=VC):l=jn E:=
 r7 s (QU E) (r.symm.pairwise h.vnd λh e=>h e.symm) (r.trans (fi E).symm)
def gz:Gv:=⟨Mm.Sem.zero,0,0,0⟩
theorem NJ(Q:List Par):GvOk Q gz:=by
 have h:Mm.Sem.zero=cnt (0:Nat):=Mm.Sem.same (by show(0:Rat)=(((0:Nat):Int):Rat);rfl) (λ_=>rfl) (λ_ _=>rfl);refine⟨?_,?_⟩
 .show SOk 0 0 Mm.Sem.zero;rw[h];exact nW 0
 show Sup Q Mm.Sem.zero;rw[h];exact Sup.cnt Q _
def atV(E:List En)(key:List ByteArray):Gv:=((E.find? λe=>decide (e.v=key)).map (·.g)).getD gz
theorem Te{E:List En}{Q:List Par}(h:∀e∈E,GvOk Q e.g)(key:List ByteArray):GvOk Q (atV E key):=by
 unfold atV;cases he:E.find? λe=>decide (e.v=key)with
 |none=>exact NJ Q
 |some e=>exact h e (VV he)
theorem QG{f:Gv->Nat}(r:f gz=0)(E:List En)(key:List ByteArray):f (atV E key)<=jt f E:=by
 unfold atV;cases he:E.find? λe=>decide (e.v=key)with
 |none=>show f gz<=_;rw[r];exact aJ _
 |some e=>exact yM (VV he)
noncomputable def totF(S:Sch)(P:List Int)(T:List (List Rw))(lf:Int->ByteArray->Gv)(rs:List Int)(z:Gv):Gv:=rs.foldl (λz r=>z.mul (atV (jn (vwS S P T lf r)) [])) z
noncomputable def totV(S:Sch)(P:List Int)(T:List (List Rw))(lf:Int->ByteArray->Gv):Gv:=totF S P T lf (aE P (-1)) (Gv.whole 1)
theorem xj(x:Mm.Sem):Mm.Sem.mul x Mm.Sem.zero=Mm.Sem.zero:=by rw[show Mm.Sem.mul x Mm.Sem.zero=rI.mul x rI.zero from O,rI.mul_comm,rI.zero_mul];rfl
theorem I4(x:Mm.Sem):Mm.Sem.mul Mm.Sem.zero x=Mm.Sem.zero:=by rw[show Mm.Sem.mul Mm.Sem.zero x=rI.mul rI.zero x from O,rI.zero_mul];rfl
theorem Bj{f:Gv->Nat}(s:Msr f)(u:f gz=0):∀{rs:List Int}{z:Gv},f (totF S P T lf rs z)<=f z*eQ (rs.map λr=>jt f (vwS S P T lf r))
 |[],z=>by show f z<=f z*1;omega
 | r::rs,z=>by
   show f (totF S P T lf rs (z.mul (atV (jn (vwS S P T lf r)) [])))<=_;refine AS (Bj s u (rs:=rs)) ?_;rw[s.mul,cu,eQ,<-U1];refine UK _ (T9 _ ?_);refine AS (QG u _ _) (UM ?_);exact((fi _).map λe=>f e.g).sum_nat
theorem N9:∀{rs:List Int}{z:Gv}(b:Int->Nat),(∀r∈rs,∀e∈vwS S P T lf r,e.g.k<=b r)->(totF S P T lf rs z).k<=z.k+(rs.map b).sum
 |[],z,b,_=>by show z.k<=z.k+0;omega
 | r::rs,z,b,h=>by
   show(totF S P T lf rs (z.mul (atV (jn (vwS S P T lf r)) []))).k<=_;refine AS (N9 (rs:=rs) b λq hq=>h q (by simp[hq])) ?_;have s:(atV (jn (vwS S P T lf r)) []).k<=b r:=by
    unfold atV;cases he:(jn (vwS S P T lf r)).find? λe=>decide (e.v=[])with
    |none=>exact aJ _
    |some e=>exact h r Xn e ((fi _).mem_iff.1 (VV he))
   show z.k+(atV _ []).k+_<=_;rw[cu,Up];omega
theorem RR(s:UpOk P)(u:∀v t,(lf v t).k<=1):(totV S P T lf).k<=P.length:=by
 have h:=N9 (S:=S) (P:=P) (T:=T) (lf:=lf) (rs:=aE P (-1)) (z:=Gv.whole 1) (λr=>(cH P P.length r).vs.length) (λr _ e he=>Su u _ r e he);have e:((aE P (-1)).map λr=>(cH P P.length r).vs.length).sum=(aQ P).length:=by
  rw[<-pJ,fe,VT,mA]
 rw[e,(cE s).length_eq,a7]at h;have B:(Gv.whole 1).k=0:=rfl;unfold totV;omega
end
end
end Vw
end
section
section
variable {w:World}{m:Gm}{av:Av}{R:Nat->Prop}
theorem BE:∀(ps:List V)(vs:List Value)(k t:Nat),RelL w m av R ps vs->k<=t->∀z:Value,Rel w m av R (look (eG k ps) t) (vs[t-k]?.getD z)
 |[],vs,k,t,_,_,z=>by simp only[eG,look,Rel,RelP]
 | p::ps,vs,k,t,hr,hk,z=>by
   simp only[RelL]at hr;obtain⟨u,vs',rfl,h1,h2⟩:=hr;simp only[eG,look];by_cases e:t=k
   .simp_all
   have hb:Nat.beq t k=VC:=by cases hb:Nat.beq t k;rfl;exact absurd (cd hb) e
   rw[hb];have:=BE ps vs' (k+1) t h2 Xj z;have r:t-k=(t-(k+1))+1:=Xj;rw[r];simpa using this
theorem AZ:∀(ps:List V)(vs:List Value)(k:Nat),ps.length=vs.length->(∀t,k<=t->t<k+vs.length->∀z:Value,Rel w m av R (look (eG k ps) t) (vs[t-k]?.getD z))->RelL w m av R ps vs
 |[],[],_,_,_=>by simp only[RelL]
 |[],v::vs,_,h,_=>by simp at h
 |p::ps,[],_,h,_=>by simp at h
 | p::ps,v::vs,k,h,hs=>by
   refine RelL.cons ?_ (AZ ps vs (k+1) (by simpa using h) λt h1 h2 z=>?_)
   .have:=hs k (AT _) Xn v;simpa[eG,look]using this
   have:=hs t Xj Xo z;have r:Nat.beq t k=VC:=by cases r:Nat.beq t k;rfl;have:=cd r;omega
   simp only[eG,look,r,Ue]at this;have s:t-k=(t-(k+1))+1:=Xj;rw[s]at this;simpa using this
end
theorem EX{k':Nat}(r:k<=k1)(h:okR k k' i=VA):okR k1 k' i=VA:=by
 unfold okR at*;simp only[Ub,du]at h ⊢;rcases h with h|⟨h1,h2⟩
 .exact .inl h
 refine .inr ⟨h1,?_⟩;have:i<big+k:=TV h2;exact V3 (by omega:i+1<=big+k1)
mutual
theorem V.B4(h:∀i,p i=VA->q i=VA):∀v:V,v.all p=VA->v.all q=VA
 | .pv _,_=>rfl
 | .ptr i _,hv=>h i hv
 | .osl i _ _,hv=>h i hv
 | .tsl i _ _,hv=>h i hv
 | .gsl i _ _,hv=>h i hv
 | .map i,hv=>h i hv
 | .agg vs,hv=>V.allL_up h vs hv
 | .tup vs,hv=>V.allL_up h vs hv
 | .fn _ a b,hv=>by
   simp only[V.all,du]at hv ⊢;exact⟨V.allL_up h a hv.1,V.allL_up h b hv.2⟩
theorem V.allL_up(h:∀i,p i=VA->q i=VA):∀vs:List V,V.allL p vs=VA->V.allL q vs=VA
 |[],_=>rfl
 | v::vs,hv=>by
   simp only[V.allL,du]at hv ⊢;exact⟨V.B4 h v hv.1,V.allL_up h vs hv.2⟩
end
theorem Ob.B4(h:∀i,p i=VA->q i=VA):∀o:Ob,o.all p=VA->o.all q=VA
 | .mix _ vs,hv=>V.allL_up h vs hv
 | .cells _ _,_=>rfl
 | .gro _ _,_=>rfl
 | .mp _ _,_=>rfl
 | .it _ _,_=>rfl
 | .fro _ _,_=>rfl
 | .mi _ _ _,_=>rfl
theorem St.Ca{σ τ:St}(s:σ.ob=τ.ob)(r:σ.av=τ.av)(z:∀t w m R u,Rel w m σ.av R (σ.sl t) u->Rel w m σ.av R (τ.sl t) u):σ.le τ:=by
 rintro C n a w ⟨m,R,hw⟩;refine⟨m,R,⟨?_,hw.df,hw.sz,λt ht=>?_⟩⟩
 .have:=hw.hr;rw[s,r]at this;exact this
 rw[<-r];exact z t w m R _ (hw.sl t ht)
def St.setSl(σ:St)(t:Nat)(v:V):St:=⟨λi=>bif Nat.beq i t then v else σ.sl i,σ.ob,σ.av⟩
theorem St.RG{σ:St}{f:Fn}{fs:List PV}(t:Nat)(h:σ.sl t= .fn f (fs.map V.pv) (cs.map V.pv)):σ.le (σ.setSl t (.pv (.fn f fs cs))):=by
 refine St.Ca O O λi w m R u hu=>?_
 show Rel w m σ.av R (bif Nat.beq i t then _ else σ.sl i) u;cases hb:Nat.beq i t with
 |false=>exact hu
 | true=>
   obtain rfl:=cd hb;rw[h]at hu;simp only[U3,Rel,RelP]at hu ⊢;obtain⟨us,vs,rfl,h1,h2⟩:=hu;exact⟨us,vs,O,h1.toP,h2.toP⟩
theorem FnO.weak{P:Program}{f:FuncId}{k':Nat}{args args1:List V}{os os1:List (Nat×Ob)}{Q:V->(Nat->Option Ob)->Prop}(h:FnO P f k k' args os Q)(H:k<=k1)(Y:args.length=args1.length)(W:(mkS (eG 0 args1) os1 0).le (mkS (eG 0 args) os 0)):
  FnO P f k1 k' args1 os1 Q:=by
 intro w m R us hHR hrel;have Z:=hrel.length;obtain⟨R1,hp1,hd1⟩:∃R1:RT w (fp m),R1.p=R.p/\R1.df=[]:=⟨⟨R.p,R.g,R.d,[]⟩,O,O⟩;have E:SJ ⟨P,m,w,fp m,R1⟩ us.length (mkS (eG 0 args1) os1 0) { tmps:=us.toArray,defers:=[] } w:=by
  refine⟨m,R.p,⟨hHR.dfs hp1,hd1.symm,Xn,λt ht=>?_⟩⟩;show Rel w m (avK 0) R.p (look (eG 0 args1) t) (us.toArray.getD t undef);have:=BE args1 us 0 t hrel (aJ _) undef;rw[Vb];simpa using this
 obtain⟨m2,R2,hw⟩:=W _ _ _ _ E;have r:=hw.hr;have I:∀b,fp m2 b->fp m b:=λb ⟨id,N,e⟩=>by
  obtain⟨h1,_,h3⟩:=r.own id b N e;rcases h3 with h3|h3
  .exact h3
  have:w.heap.size<=b:=h3;omega
 have G:∀b,R.p b->R2 b:=λb hb=>r.r0 b (by show R1.p b;rw[hp1];exact hb)
 have J:∃R3:RT w (fp m2),R3.p=R2:=⟨⟨R2,R.g.mono λb hb=>⟨G b hb,O⟩,λb hb=>⟨r.rsz b hb,fun⟨id,N,e⟩=>(r.own id b N e).2.1 hb⟩,[]⟩,O⟩;obtain⟨R3,hR3⟩:=J;have U:HR ⟨P,m2,w,fp m2,R3⟩ m2 R3.p (aB os) (avK 0) w:=by
  rw[hR3];exact⟨r.dom,r.free,r.obj,r.inj,λid b N e=>⟨(r.own id b N e).1,(r.own id b N e).2.1,.inl ⟨id,N,e⟩⟩,r.rsz,λb hb=> .inl (by show R3.p b;rw[hR3];exact hb),λb hb=>by have:R3.p b:=hb;rw[hR3]at this;exact this,Fr.refl _ _,λ_ _ _ e=>e,r.res⟩
 have B:RelL w m2 (avK 0) R3.p args us:=by
  rw[hR3];refine AZ args us 0 Xj λt _ ht z=>?_
  have:=hw.sl t Xj;have e:us[t-0]?.getD z=us.toArray.getD t undef:=by simp_all
  rw[e];exact this
 refine(h w m2 R3 us U B).mono ?_;rintro e w' ⟨u,v,ob',m',R',rfl,hq,hv,hall,hH,hrv⟩;refine⟨u,v,ob',m',R',O,hq,V.B4 (λi=>EX H) v hv,λi o ho=>⟨EX H (hall i o ho).1,Ob.B4 (λi=>EX H) o (hall i o ho).2⟩,?_,hrv⟩;have s:=hH.frame;refine⟨hH.dom,hH.free,hH.obj,hH.inj,λid b N e=>⟨(hH.own id b N e).1,(hH.own id b N e).2.1,(hH.own id b N e).2.2.imp (I b) λh=>h⟩,hH.rsz,λb hb=>?_,λb hb=>hH.r0 b (by show R3.p b;rw[hR3];exact G b hb),⟨s.os,s.tape,s.output,s.size,λk H hn=>s.block k H λh=>hn (I k h)⟩,λid x hid e=>r.j4 id x hid (hH.j4 id x hid e),hH.res⟩;rcases hH.rfr b hb with h1|h1|h1
 .have h2:R2 b:=by have:R3.p b:=h1;rw[hR3]at this;exact this
  rcases r.rfr b h2 with h3|h3|h3
  .grind
  .exact .inr (.inl h3)
  exact .inr (.inr h3)
 .exact .inr (.inl h1)
 exact .inr (.inr (I b h1))
end
section
open Go.RowKit Mk Jn Mm
theorem qX(q:Rat)(h:F1 q):FnP prog 84 [frP q,.rp [.int .i64 0] 0] (· = .str (bo q)):=by
 refine FnP.of func84 O ntmps84 Xn λ_ _ _ _=>?_
 have s:=EE q h;refine Z2 O<|Z1 O<|Rs O (aa call85 s O)<|Ar 5 O<|Z2 O<|Gc O (λr=>absurd r Xn) (λr=>?_);exact Ti<|Z2 O<|VF O O
theorem Og{K:Type}[BEq K][LawfulBEq K]{l:List (K×Rat)}(z:(l.map (·.1)).Nodup)(s:i<l.length):rS l l[i].1=UF l[i].2:=by
 have u:l.findIdx? (λe=>e.1==l[i].1)=UF i:=by
  rw[U4];refine⟨s,Xn,λj hj=>?_⟩;have r:=Uj.1 z j i Xo Xo hj;simp only[UP]at r;simpa using r
 unfold rS;rw[u];simp[s]
theorem CY{K:Type}{cmp:K->K->Int}(h:Mm.Cmp cmp){l:List (K×Rat)}(r:l.Pairwise λa b=>cmp a.1 b.1<0):(l.map (·.1)).Nodup:=by
 rw[List.Nodup,Vx];refine r.imp fun{a b} h1 e=>?_
 rw[e]at h1;have:=h.swap b.1 b.1;omega
theorem KB{l:List (Par×Rat)}(h:k<l.length):((vo (l.map (·.1))).drop (k*2)).take 2=[.int .i64 l[k].1.f,.str l[k].1.c]:=by simp_all[cZ,rG,vo]
theorem P6{l:List (PP×Rat)}(h:k<l.length):((uE (l.map (·.1))).drop (k*4)).take 4=[.int .i64 l[k].1.1.f,.str l[k].1.1.c,.int .i64 l[k].1.2.f,.str l[k].1.2.c]:=by simp_all[cZ,ppC,uE]
theorem OL{l:List (Par×Rat)}(h:k<l.length):vo (l.map (·.1))≠[]:=λe=>by have:=B6 (l.map (·.1));rw[e]at this;simp at this;omega
theorem Sh{l:List (PP×Rat)}(h:k<l.length):uE (l.map (·.1))≠[]:=λe=>by have:=B8 (l.map (·.1));rw[e]at this;simp at this;omega
theorem PH{l:List (Par×Rat)}(r:i<l.length):bG (tmL (l.take i))++[.int .i64 l[i].1.f,.str l[i].1.c,.str (bo l[i].2)]=bG (tmL (l.take (i+1))):=by
 rw[ct r];simp only[tmL,bG,Uc,Us,cu,Un,T0,Wc,Uh]
theorem Qi{l:List (PP×Rat)}(r:i<l.length):bK (prL (l.take i))++[.int .i64 l[i].1.1.f,.str l[i].1.1.c,.int .i64 l[i].1.2.f,.str l[i].1.2.c,.str (bo l[i].2)]=bK (prL (l.take (i+1))):=by
 rw[ct r];simp only[prL,bK,Uc,Us,cu,Un,T0,Wc,Uh]
theorem Ha(m:MC)(hs:m.s.Pairwise λa b=>bZ a.1 b.1<0)(hp:m.p.Pairwise λa b=>cI a.1 b.1<0)(h1:MF1 m):FnP prog 36 [mcP m] (· = .tup [lR m,.int .i64 0]):=by
 refine FnP.ofC func36 O ntmps36 Xn λ_ _ _ _=>?_
 have hct:=qX m.c h1.c;have hls:=h1.ls;have hlp:=h1.lp;have hk1:=yN (aj aW m.s) (bg m.s);have hk2:=Ah (aj ppP m.p) (bg m.p);have hm1:(m.s.map (·.1)).map aW=aj aW m.s:=by simp[aj]
 have hm2:(m.p.map (·.1)).map ppP=aj ppP m.p:=by simp[aj]
 have B:=wL (m.s.map (·.1)) (bg m.s) (by simpa using hls) (by rw[Vx];exact hs);have E:=xK (m.p.map (·.1)) (bg m.p) (by simpa using hlp) (by rw[Vx];exact hp);rw[hm1,TB]at B;rw[hm2,TB]at E;have W:=CY eF hs;have Y:=CY c6 hp;have hd1:=AM bX W;have hd2:=AM cS Y;refine Z3 O<|Z2 O<|Tj (St.jZ 2 O O)<|Z2 O<|Tj (St.RG (fs:=[]) (cs:=[.rp [.int .i64 0] 0]) 5 O)<|Z3 O<|Rs O (je (fs:=[]) (ps:=[frP m.c]) (cs:=[.rp [.int .i64 0] 0]) call84 O hct O)<|Y3 O<|Tj (St.da (T':=45) (cs:=[.pv (.str (bo m.c)),.pv nS,.pv nS]) 3 1 4 3 148 Xk O O)<|Tj (St.da (T':=45) (cs:=[.pv (.str (bo m.c)),.gsl 4 3 0,.pv nS]) 3 2 5 5 150 Xk O O)<|Z2 O<|Rs O (aa call87 hk1 O)<|Rs O (aa call86 B O)<|Y2 O<|Gz O (st:=λXr:Nat=>([(1,UG),(2,UG),(4,UG),(5,UG),(6,UG),(20,UG),(21,UG),(22,UF (pIi Xr))],[(0,UG),(1,UG),(3,UF (.mix 45 [.pv (.str (bo m.c)),.gsl 4 3 Xr,.gsl 5 5 0])),(4,UF (.gro 148 (bG (tmL (m.s.take Xr))))),(5,UG)])) 6
  (I:=λXr=>Xr<=m.s.length) (μ:=λXr=>m.s.length-Xr) (x0:=0) (Tk (aS O) (aO Xk) O O) (aJ _) ?_
 rintro i hi;refine Z1 O<|Gp O (λZ=>?_) (λZ=>?_)
 .have hlt:i<m.s.length:=Xj;have u:=KB hlt;have H:=OL hlt;have J:=qX m.s[i].2 (h1.s _ (aq hlt));have z:=j1 (g:=frP) bX m.s m.s[i].1;rw[Og W hlt]at z;have U:=lZ (tmL (m.s.take i));rw[oA,TC,Ul hi]at U;refine Ti<|Gr O<|Rs O (ag i underlying189 kN O O O hlt H)<|Rs O (aG ⟨_,underlying146,O⟩ kN O u O)<|Y2 O<|UB 14 O<|Dr 7 O<|TR O (λτ h=>qh gQ underlying110 (.inr (.inl ⟨(Ee h 0 O O),hd1⟩)) (Ee h 1 O O) ⟨m.s[i].1,O⟩ n9 O z O)<|TR O (λτ h=>je (fs:=[]) (ps:=[frP m.s[i].2]) (cs:=[.rp [.int .i64 0] 0]) call84 (Ee h 0 O O) J ((ah (λl=>(V.args (λ_=>UG) l).map PV.fgA) h.eG).trans O))<|Dr 5 O ?_;refine⟨Xk,?_⟩;exact Z2 O<|⟨(i+1),Tl [0,1,2,3,8,5] (aT O) ⟨Xk,Xk,Xk,TX (b:=UF (.gro 148 (bG (tmL (m.s.take i))++[.int .i64 m.s[i].1.f,.str m.s[i].1.c,.str (bo m.s[i].2)]))) Xk (ah (λc=>UF (Ob.gro 148 c)) (PH hlt)),Xk,Xq⟩ O O Xl O,hlt,Xj⟩
 have hie:m.s.take i=m.s:=aH Xj;have hil:i=m.s.length:=Xj;rw[hie,hil];refine Gx O<|Z2 O<|Rs O (aa call90 hk2 O)<|Rs O (aa call89 E O)<|Y2 O<|Gz O (st:=λr:Nat=>([(1,UG),(2,UG),(4,UG),(5,UG),(6,UG),(43,UG),(44,UG),(45,UF (pIi r))],[(0,UG),(1,UG),(3,UF (.mix 45 [.pv (.str (bo m.c)),.gsl 4 3 m.s.length,.gsl 5 5 r])),(4,UG),(5,UF (.gro 150 (bK (prL (m.p.take r)))))])) 6
  (I:=λr=>r<=m.p.length) (μ:=λr=>m.p.length-r) (x0:=0) (Tk (aS O) (aO Xk) O O) (aJ _) ?_
 rintro j hj;refine Z1 O<|Gp O (λab=>?_) (λab=>?_)
 .have hlt:j<m.p.length:=Xj;have u:=P6 hlt;have H:=Sh hlt;have J:=qX m.p[j].2 (h1.p _ (aq hlt));have z:=j1 (g:=frP) cS m.p m.p[j].1;rw[Og Y hlt]at z;have U:=lW (prL (m.p.take j));rw[oq,TC,Ul hj]at U;refine Ti<|Gr O<|Rs O (ag j underlying195 Mo O O O hlt H)<|Rs O (aG ⟨_,underlying198,O⟩ Mo O u O)<|Y2 O<|UB 17 O<|Dr 10 O<|TR O (λτ h=>qh uf underlying111 (.inr (.inl ⟨(Ee h 0 O O),hd2⟩)) (Ee h 1 O O) ⟨m.p[j].1,O⟩ n9 O z O)<|TR O (λτ h=>je (fs:=[]) (ps:=[frP m.p[j].2]) (cs:=[.rp [.int .i64 0] 0]) call84 (Ee h 0 O O) J ((ah (λl=>(V.args (λ_=>UG) l).map PV.fgA) h.eG).trans O))<|Dr 5 O ?_;refine⟨Xk,?_⟩;exact Z2 O<|⟨(j+1),Tl [0,1,2,3,4,8] (aT O) ⟨Xk,Xk,Xk,Xk,TX (b:=UF (.gro 150 (bK (prL (m.p.take j))++[.int .i64 m.p[j].1.1.f,.str m.p[j].1.1.c,.int .i64 m.p[j].1.2.f,.str m.p[j].1.2.c,.str (bo m.p[j].2)]))) Xk (ah (λc=>UF (Ob.gro 150 c)) (Qi hlt)),Xq⟩ O O Xl O,hlt,Xj⟩
 have hje:m.p.take j=m.p:=aH Xj;have hjl:j=m.p.length:=Xj;rw[hje,hjl];refine Gx O<|Z2 O<|Gc O (λG=>absurd G Xn) (λG=>?_);exact Ti<|Tj (Tn (o:= .gro 148 (bG (tmL m.s))) 4 Xk O)<|Tj (Tn (o:= .gro 150 (bK (prL m.p))) 5 Xk O)<|Z3 O<|VF O ⟨⟨ax ⟨_,underlying45,O⟩ ER O O O,Xq⟩,O⟩
end
section
open Go.RowKit Mk Jn Mm Vw
abbrev cC(E:List En):List PV:=E.map λe=>PV.str e.t
abbrev lA(E:List En):List PV:=E.map λe=>bh e.v
noncomputable abbrev gvsV(E:List En):List PV:=E.map λe=>momP e.g.m
theorem E7(s t:ByteArray):keq (.str s) (.str t)=UF (decide (t=s)):=by
 show UF (s==t)=_;rw[iI]
 congr 1
 rw[TY,Tz,U6];exact⟨λh=>(bytes_inj h).symm,λh=>by rw[h]⟩
theorem uu(t:ByteArray):∀(E:List En)(i:Nat),cJ (.str t) (cC E) i=UF ((yu E t).map (i+ ·))
 |[],i=>rfl
 | e::E,i=>by
   show(match keq (.str t) (.str e.t)with|some VA=>UF (UF i)|some VC=>cJ (.str t) (cC E) (i+1)|none=>UG)=_;rw[E7,yu,List.findIdx?_cons];cases h:decide (e.t=t)with
   |true=>simp
   | false=>
     simp only[UO,WZ];rw[uu t E (i+1),yu];cases E.findIdx? λe=>decide (e.t=t)with
     |none=>rfl
     |some j=>simp;omega
theorem yY{E:List En}(h:yu E t=UF i):cJ (.str t) (cC E) 0=UF (UF i):=by rw[uu,h];simp
theorem zj{E:List En}(h:yu E t=UG):cJ (.str t) (cC E) 0=UF UG:=by rw[uu,h];rfl
theorem wv{E:List En}(h:yu E t=UF i)(r:i<E.length)(f:En->PV):jJ (.str t) (cC E) (E.map f)=UF (UF (f E[i])):=by
 unfold jJ;rw[yY h];simp[r]
theorem Fp{E:List En}(h:yu E t=UG)(f:En->PV):jJ (.str t) (cC E) (E.map f)=UF UG:=by
 unfold jJ;rw[zj h]
theorem vd{E:List En}(u:EnOk E){e:En}(r:e∈E)(f:En->PV):jJ (.str e.t) (cC E) (E.map f)=UF (UF (f e)):=by
 cases h:yu E e.t with
 |none=>exact absurd O (l7 h e r)
 | some i=>
   obtain⟨hi,h1,_⟩:=Vw.gm h;rw[wv h hi];obtain⟨j,hj,rfl⟩:=Ux r;have:i=j:=by
    have s:(E.map (·.t))[i]'(by simpa using hi)=(E.map (·.t))[j]'(by simpa using hj):=by simpa using h1
    exact(List.getElem_inj u.nd).1 s
   subst this;rfl
theorem N8{E:List En}(r:EnOk E):zw (cC E):=by
 unfold zw;rw[Vx];have:=r.nd;rw[List.Nodup,Vx]at this;exact this.imp fun{a b} h=>by rw[E7,TL λe=>h e.symm]
theorem Bd{E:List En}(h:yu E t=UF i)(r:i<E.length)(x:En)(s:x.t=t)(f:En->PV):oU (.str t) (cC E)=cC (E.set i x)/\nF (.str t) (f x) (cC E) (E.map f)=(E.set i x).map f:=by grind[oU,nF,yY,US]
theorem CA{E:List En}(h:yu E t=UG)(x:En)(r:x.t=t)(f:En->PV):oU (.str t) (cC E)=cC (E++[x])/\nF (.str t) (f x) (cC E) (E.map f)=(E++[x]).map f:=by grind[oU,nF,zj]
theorem IE{Q:List Par}(E:List En)(v:List ByteArray)(g:Gv)(I:∀e∈E,GvOk Q e.g/\e.g.w<=10^50/\e.g.k<=50)(J:GvOk Q g)(U:g.w<=10^50)(V:g.k<=50)(Y:v.length<=1000000)(W:(Lib.join (v.map (·.data.toList)) [0]).length<=140737488355328):
  FnO prog 82 2 0 [.agg [.map big,.map 9001],.pv (bh v),.pv (momP g.m)] [(big,.mp (cC E) (lA E)),(9001,.mp (cC E) (gvsV E))] (λr ob'=>r= .tup []/\ob'=aB [(big,.mp (cC (uj E v g)) (lA (uj E v g))),(9001,.mp (cC (uj E v g)) (gvsV (uj E v g)))]):=by
 refine FnO.of func82 O ntmps82 Xn λ_ _ _ _=>?_
 have H:FnP prog 141 [bh v,.str ⟨#[0]⟩] (· = .str (jnt v)):=Qs v ⟨#[0]⟩ Xj W;rcases eY E v g with⟨i,hi,hf,he,ht⟩|⟨hf,he,hn⟩
 .have hlk:=wv hf hi λe=>momP e.g.m
  obtain⟨hpk,hpv⟩:=Bd hf hi ⟨jnt v,v,g.add E[i].g⟩ O λe=>bh e.v
  have z:=(Bd hf hi ⟨jnt v,v,g.add E[i].g⟩ O λe=>momP e.g.m).2;have B:=yY hf;obtain⟨o1,o2,o3⟩:=I _ (aq hi);have G:=Q7 (J.s.up (AT _) (Xc _ _)) (o1.s.up (AT _) (Nat.le_max_right g.k _)) U o2 (Nat.max_le.2 ⟨V,o3⟩);rw[he];simp only at z hpv;change nF _ (momP (Mm.Sem.add g.m E[i].g.m)) _ _=_ at z
  generalize E.set i ⟨jnt v,v,g.add E[i].g⟩=E' at*;generalize hD:E[i]=D at*;refine Z2 O<|Z1 O<|Rs O (aa call141 H O)<|A1 O<|Z3 O<|Rs O (xV (zp:= .agg [.bool VC,.sl (UF VA) 0 [],.bool VC,.sl (UF VA) 0 [],.nilmap,.nilmap]) underlying101 underlying9 (.inl ⟨9001,O,O⟩) O O uh O hlk O O)<|Ar 6 O<|Z1 O<|Gc O (λu=>?_) (λu=>absurd u Xn);refine Z2 O<|Rs O (aa call142 G O)<|A1 O<|UB 10 O<|Dr 8 O<|DL.step (d:=UG) [_] O O O (λτ h=>gS underlying100 underlying9 (Ee h 0 O O) (Eo h 0 O O) (Ee h 1 O O) (Ee h 2 O O) O B hpk hpv) O Xk<|DL.step (d:=UG) [_] O O O (λτ h=>gS underlying101 underlying9 (Ee h 0 O O) (Eo h 0 O O) (Ee h 1 O O) (Ee h 2 O O) O B hpk z) O Xk ?_;refine⟨Xk,?_⟩;exact⟨[],[(big,.mp (cC E') (lA E')),(9001,.mp (cC E') (gvsV E'))],[],Tk trivial (aO Xk) O O,O,O,O,O,O⟩
 have hlk:=Fp hf λe=>momP e.g.m
 obtain⟨hpk,hpv⟩:=CA hf ⟨jnt v,v,g⟩ O λe=>bh e.v
 have z:=(CA hf ⟨jnt v,v,g⟩ O λe=>momP e.g.m).2;have B:=zj hf;rw[he];simp only at z hpv;generalize E++[⟨jnt v,v,g⟩]=E' at*;refine Z2 O<|Z1 O<|Rs O (aa call141 H O)<|A1 O<|Z3 O<|Rs O (xV (zp:= .agg [.bool VC,.sl (UF VA) 0 [],.bool VC,.sl (UF VA) 0 [],.nilmap,.nilmap]) underlying101 underlying9 (.inl ⟨9001,O,O⟩) O O uh O hlk O O)<|Ar 6 O<|Z1 O<|Gc O (λu=>absurd u Xn) (λu=>?_);refine Ti<|UB 10 O<|Dr 8 O<|DL.step (d:=UG) [_] O O O (λτ h=>gS underlying100 underlying9 (Ee h 0 O O) (Eo h 0 O O) (Ee h 1 O O) (Ee h 2 O O) O B hpk hpv) O Xk<|DL.step (d:=UG) [_] O O O (λτ h=>gS underlying101 underlying9 (Ee h 0 O O) (Eo h 0 O O) (Ee h 1 O O) (Ee h 2 O O) O B hpk z) O Xk ?_;refine⟨Xk,?_⟩;exact⟨[],[(big,.mp (cC E') (lA E')),(9001,.mp (cC E') (gvsV E'))],[],Tk trivial (aO Xk) O O,O,O,O,O,O⟩
noncomputable abbrev itC(i:Itm):List PV:=bh i.v::mcC (cn i.g.m)
noncomputable def itsC(l:List Itm):List PV:=l.flatMap itC
noncomputable abbrev ptC(p:Prt):List PV:=[ar p.a,.sl UG p.is.length (itsC p.is)]
noncomputable abbrev ptP(p:Prt):PV:= .agg (ptC p)
noncomputable def ptsC(l:List Prt):List PV:=l.flatMap ptC
theorem tG(l:List Itm):(itsC l).length=l.length*7:=bM _ 7 (λ_=>rfl) l
theorem uO(l:List Prt):(ptsC l).length=l.length*2:=bM _ 2 (λ_=>rfl) l
theorem Mh{l:List Itm}(h:k<l.length):((itsC l).drop (k*7)).take 7=itC l[k]:=cZ _ 7 (λ_=>rfl) l k h
theorem Bc{l:List Prt}(h:k<l.length):((ptsC l).drop (k*2)).take 2=ptC l[k]:=cZ _ 2 (λ_=>rfl) l k h
theorem yl{l:List Itm}(h:i<l.length):itsC (l.take i)++itC l[i]=itsC (l.take (i+1)):=by
 rw[AI h];simp only[itsC,Us,T0,Wc,Uh]
theorem O2{l:List Itm}(h:k<l.length):itsC l≠[]:=λe=>by have:=tG l;rw[e]at this;simp at this;omega
theorem QC{l:List Prt}(h:k<l.length):ptsC l≠[]:=λe=>by have:=uO l;rw[e]at this;simp at this;omega
noncomputable abbrev vwP(E:List En):PV:= .agg [.mp (cC E) (lA E),.mp (cC E) (gvsV E)]
theorem GC(E:List En):rT (E.map (·.t))=(Kh E).map (·.t):=by
 refine(vF ((eE E).map _) ?_).symm;rw[Vx];have:=Wu (le:=λa b:En=>decide (a.t.data.toList<=b.t.data.toList)) (by intro a b c h1 h2;simp only[Tz]at *; exact List.le_trans h1 h2) (by intro a b;simp only[Ub,Tz];exact List.le_total _ _) E;exact this.imp fun{a b} h=>Oc.2 (by simpa using h)
theorem DC(E:List En)(K:List Int)(hE:EnOk E)(hn:E.length<=1000000):FnP prog 136 [vwP E,ar K] (· =ptP (dV K E)):=by
 refine FnP.ofC func136 O ntmps136 Xn λ_ _ _ _=>?_
 have G:=zH (cC E) (lA E);have r:=wc (E.map (·.t)) (lA E) (by simpa using hn);rw[show(E.map (·.t)).map PV.str=cC E by simp,GC]at r;have hd:=N8 hE;obtain⟨L,hL⟩:∃L,L=Kh E:=⟨_,O⟩;have hLl:L.length=E.length:=by rw[hL];exact(eE E).length_eq
 have s:∀e∈L,e∈E:=λe he=>by rw[hL]at he;exact(eE E).mem_iff.1 he
 obtain⟨I,hI⟩:∃I:List Itm,I=L.map λe=>⟨e.v,e.g⟩:=⟨_,O⟩
 have hIl:I.length=L.length:=by rw[hI];simp
 have hv:dV K E=⟨K,I⟩:=by rw[hI,hL];rfl
 obtain⟨ts,hts⟩:∃ts:List ByteArray,ts=L.map (·.t):=⟨_,O⟩;have htl:ts.length=L.length:=by rw[hts];simp
 rw[<-hL,<-hts]at r;refine Z2 O<|Z4 O<|Tj (St.da (T':=181) (cs:=[.pv (ar K),.pv nS]) 2 1 3 7 183 Xk O O)<|Z2 O<|Rs O (aa call207 G O)<|Rs O (aa call206 r O)<|Y2 O<|Gz O (st:=λXr:Nat=>([(2,UG),(4,UG),(5,UG),(13,UG),(14,UG),(15,UF (pIi Xr))],[(0,UG),(1,UG),(2,UF (.mix 181 [.pv (ar K),.gsl 3 7 Xr])),(3,UF (.gro 183 (itsC (I.take Xr))))])) 4
  (I:=λXr=>Xr<=L.length) (μ:=λXr=>L.length-Xr) (x0:=0) (Tk (aS O) (aO Xk) O O) (aJ _) ?_
 rintro i hi;refine Z1 O<|Gp O (λB=>?_) (λB=>?_)
 .have hlt:i<L.length:=Xj;have u:i<ts.length:=Xj;have H:i<I.length:=Xj;have J:ts[i]=L[i].t:=by simp[hts]
  have U:I[i]=⟨L[i].v,L[i].g⟩:=by simp[hI]
  have V:=bL u;have hne:=bN u;rw[J]at V;have W:=vd hE (s _ (aq hlt)) λe=>bh e.v
  have Y:=vd hE (s _ (aq hlt)) λe=>momP e.g.m
  have z:=yl H;rw[U]at z;have htk:(itsC (I.take i)).length=i*7:=by rw[tG,TC,Ul Xj]
  generalize L[i]=e at*;refine Ti<|Z1 O<|A2 O Xm ?_;exact A1 O<|Gr O<|Ar 5 O<|Rs O (n4 (zp:= .sl (UF VA) 0 []) underlying100 underlying9 (.inr (.inl ⟨O,hd⟩)) O O RB O W O)<|Y3 O<|Rs O (n4 (zp:= .agg [.bool VC,.sl (UF VA) 0 [],.bool VC,.sl (UF VA) 0 [],.nilmap,.nilmap]) underlying101 underlying9 (.inr (.inl ⟨O,hd⟩)) O O uh O Y O)<|Ar 5 O<|Z2 O<|⟨(i+1),Tl [0,1,2,5] (aT O) ⟨Xk,Xk,Xk,TX (b:=UF (.gro 183 (itsC (I.take i)++itC ⟨e.v,e.g⟩))) Xk (ah (λc=>UF (Ob.gro 183 c)) z),Xq⟩ O O Xl O,hlt,Xj⟩
 have hie:I.take i=I:=aH Xj;have Z:i=I.length:=Xj;rw[hie,Z];exact Gx O<|Tj (Tn (o:= .gro 183 (itsC I)) 3 Xk O)<|Z2 O<|VF O ⟨⟨ax ⟨_,underlying181,O⟩ LR O O O,Xq⟩,by rw[hv];rfl⟩
abbrev Ss(l:List Bool):PV:= .sl UG l.length (l.map PV.bool)
abbrev chsC(x:Ch):List PV:=[bh x.v,Ss x.s]
abbrev R7(x:Ch):PV:= .agg (chsC x)
theorem RH(h:k<l.length):(l.map PV.bool)[k*1]? =UF (.bool l[k]):=by simp[h]
theorem Sm(h:k<l.length):l.map PV.bool≠[]:=λe=>by rw[VY]at e;subst e;simp at h
theorem wZ(l:List ByteArray)(s:0<l.length)(u:l.length<=1000000):FnO prog 76 0 1 [.pv (bh l)] [] (λv ob'=>v= .osl 0 1 l.length/\ob'=aB [(0,.cells 9 (bW l))]):=by
 refine FnO.of func76 O ntmps76 Xn λ_ _ _ _=>?_
 refine Z1 O<|Z1 O<|RL.call O (iz underlying53 O ?_);intro b hb;refine Gc O (λr=>absurd r (by have:=VY.1 (hb r);subst this;simp at s)) (λr=>?_);refine Ti<|Gr O<|Rs O (dI 0 EA O)<|A1 O<|Rs O (dC 1 EA O O O (.inl ⟨UG,O⟩) Xn (λc hc=>by obtain⟨y,_,rfl⟩:=TG.1 hc;rfl) Xj O) ?_;exact A1 O<|Gt O<|⟨[(2,.osl 0 1 l.length)],[(0,.cells 9 (bW l))],[.osl 0 1 l.length],Tl [1] ⟨TX (b:=V.osl 1 1 (0+l.length)) O (by rw[T8];rfl),Xq⟩ ⟨TX (b:=UF (Ob.cells 9 ([]++bW l))) O (by rw[Uv];rfl),Xq⟩ O O Xl O,O,O,O,O,O⟩
end


















section
open Mk Jn
def wX(S:Sch)(d:List (List Rw))(k:Nat):List (List Rw):=(List.zipWith (λr l=>pK S r.2 l) S.rels d).take k
def fG(S:Sch)(d:List (List Rw)):List (List Rw):=List.zipWith (λr l=>pK S r.2 l) S.rels d
theorem C8{d:List (List Rw)}(r:d.length=S.rels.length)(s:k<S.rels.length):wX S d (k+1)=wX S d k++[pK S S.rels[k].2 (d[k]'Xj)]:=by grind[wX,AI]
theorem JI{d:List (List Rw)}(r:d.length=S.rels.length):wX S d S.rels.length=fG S d:=aH Xo
theorem Gy{d:List (List Rw)}(r:d.length=S.rels.length)(s:k<=S.rels.length):(wX S d k).length=k:=by
 unfold wX;simp;omega
end



section
open Mk Jn
theorem n0:NumOk ⟨#[48]⟩:=⟨Xl,Xk,⟨Xk,by decide+kernel⟩,λh=>absurd h Xu⟩
theorem n1:NumOk ⟨#[49]⟩:=⟨Xl,Xk,⟨Xk,by decide+kernel⟩,λh=>absurd h Xu⟩
theorem n2:NumOk ⟨#[50]⟩:=⟨Xl,Xk,⟨Xk,by decide+kernel⟩,λh=>absurd h Xu⟩
theorem n3:NumOk ⟨#[51]⟩:=⟨Xl,Xk,⟨Xk,by decide+kernel⟩,λh=>absurd h Xu⟩
theorem nm2:NumOk ⟨#[45,50]⟩:=⟨Xl,Xk,⟨Xk,by decide+kernel⟩,λh=>absurd h Xu⟩
theorem nh:NumOk ⟨#[49,47,50]⟩:=⟨Xl,Xk,⟨Xk,by decide+kernel⟩,λ_=>⟨Xk,by decide+kernel,by decide+kernel⟩⟩
theorem n53:NumOk ⟨#[53,47,51]⟩:=⟨Xl,Xk,⟨Xk,by decide+kernel⟩,λ_=>⟨Xk,by decide+kernel,by decide+kernel⟩⟩
theorem DW(nm v:ByteArray)(kd:Int)(s:kd=1\/kd=2\/kd=3)(r:v∈fF kd):FnP prog 126 [.agg [.str nm,.int .i64 kd],.str v] (· = .bool VA):=by
 rcases s with rfl|rfl|rfl
 .refine pU nm v ?_;simp only[fF,uc,BY,UI,V9]at r;rcases r with rfl|r
  .exact .inl O
  right
  simp at r;rcases r with rfl|rfl|rfl<;>exact⟨Xk,by decide+kernel⟩
 .by_cases hne:v=⟨#[]⟩
  .rw[hne];exact Ed nm
  refine F8 nm v ?_ hne;simp only[fF,CJ,BY,UI,V9]at r;have r:=r.resolve_left hne;simp at r;rcases r with rfl|rfl|rfl|rfl|rfl|rfl|rfl|rfl
  .exact n0
  .exact n1
  .exact nm2
  .exact nh
  .exact n3
  .exact n53
  .exact n1
  exact n2
 refine F5 nm v ?_;simp only[fF,Ho,BY,UI,V9]at r;rcases r with rfl|r
 .exact .inl O
 right
 simp at r;rcases r with rfl|rfl|rfl<;>exact⟨Xk,Xl⟩
theorem sE:∀{l:List ByteArray}{us:List Value},RelPL w R (bW l) us->us=l.map Value.string
 |[],us,h=>by simpa[RelPL]using h
 | x::l,us,h=>by
   simp only[cu,RelPL,RelP]at h;obtain⟨u,vs,rfl,rfl,h2⟩:=h;rw[sE h2];rfl
theorem C2(z:∀b,R b->b<w.heap.size){l:List ByteArray}{us:List Value}{ps:List PV}(h:RelPL w R (bh l::ps) us):∃A c vs,us= .slice A l.length c::vs/\Row w R A (PO l)/\RelPL w R ps vs:=by
 simp only[RelPL,RelP]at h;obtain⟨u,vs,rfl,⟨A,c,rfl,_,_,_,_,h5⟩,h6⟩:=h;refine⟨A,c,vs,O,λr=>?_,h6⟩;obtain⟨b,off,us,rfl,h6,h7,h8⟩:=h5 (λe=>r (by rw[VY]at e ⊢; exact e));have s:us=l.map Value.string:=sE h6;subst s;exact⟨b,off,O,h7,z b h7,h8⟩
theorem PT(a b:List ByteArray)(r:a.length<=1000000)(s:b.length<=1000000):FnP prog 39 [bh a,bh b] (· = .int .i64 (uk a b)):=by
 intro w R us hG hR hrel;obtain⟨A,c,vs,rfl,r1,h1⟩:=C2 hR hrel;obtain⟨B,d,vs,rfl,r2,h2⟩:=C2 hR h1;obtain rfl:=(by simpa[RelPL]using h2:vs=[]);exact(BF A B c d a b w r1 r2 r s).mono λe w' ⟨he,hw⟩=>⟨_,_,he,O,by rw[<-hw];exact Below.refl _ _,by simp only[RelP]⟩
theorem RP(a b:List ByteArray):decide (uk a b<0)=bO a b:=by grind[uk,bO]
theorem sF(a b:List ByteArray)(r:a.length<=1000000)(s:b.length<=1000000):FnP prog 127 [bh a,bh b] (· = .bool (bO a b)):=by
 refine FnP.of func127 O ntmps127 Xn λ_ _ _ _=>?_
 have hc:=PT a b r s;exact Z1 O<|Z2 O<|Rs O (aa call39 hc O)<|Y2 O<|VF O<|ah PV.bool (RP a b)
end
section
open Mk Jn
structure RowOk(S:Sch)(A:List Int)(low:Int)(x:Rw):Prop where
 l:x.v.length=A.length
 v:∀i (h:i<x.v.length) (h2:i<A.length),∀nm,FnP prog 126 [.agg [.str nm,.int .i64 (S.attrs.getD A[i].toNat default).2],.str x.v[i]] (· = .bool VA)
 w:x.w≠0/\low<=x.w/\x.w<=100
theorem sW(h:a<S.attrs.length):S.attrs.getD a default=S.attrs[a]:=by simp[List.getD,h]
theorem yC(S:Sch)(hS:SJn S)(nm:ByteArray)(A:List Int)(hA:A.length<=1000)(U:∀a∈A,0<=a/\a<S.attrs.length)(low:Int)(x:Rw)(V:RowOk S A low x):FnP prog 254 [gC S,.agg [.str nm,ar A],rowP x] (· = .bool VA):=by
 refine FnP.of func254 O ntmps254 Xn λ_ _ _ _=>?_
 have W:=V.l;have Y:=hS.a;refine Z4 O<|Z4 O<|Gz O (st:=λXr:Nat=>([(3,UG),(5,UG),(10,UG),(11,UG),(12,UF (pIi Xr))],[(0,UG),(2,UG)])) 3
  (I:=λXr=>Xr<=A.length) (μ:=λXr=>A.length-Xr) (x0:=0) (WA O) (aJ _) ?_
 rintro j hj;refine Z1 O<|Gp O (λB=>?_) (λB=>?_)
 .have hlj:j<A.length:=Xj;obtain⟨a,haa⟩:=Bg (U _ (aq hlj)).1;have r:a<S.attrs.length:=by have:=(U _ (aq hlj)).2;omega
  have E:(aK A)[j*1]? =UF (.int .i64 (a:Int)):=by rw[<-haa];simp[hlj]
  have Z:=aM hlj;have s:j<x.v.length:=Xj;have G:=bL s;have H:=bN s;have ab:=ke r;have J:=gY r;have z:=V.v j s hlj S.attrs[a].1;rw[haa,TU,sW r]at z;refine Ti<|Z2 O<|Rs O (az ⟨_,underlying3,O⟩ O E)<|Y2 O<|UB 12 O<|Dr 3 O<|TR O (λτ h=>ag a underlying26 yF (Ee h 0 O O) (Ee h 1 O O) O r J)<|D3 O O Xm ?_;refine Dr 3 O<|TR O (λτ h=>ag j underlying53 sz9 (Ee h 0 O O) (Ee h 1 O O) O s H)<|TR O (λτ h=>az ⟨_,underlying9,O⟩ (Ee h 0 O O) G)<|TR O (λτ h=>aa call126 z (h.aD O))<|D1 O ?_;refine⟨Xk,?_⟩;refine Gc O (λu=>absurd u Xn) (λu=>?_);exact Ti<|Z2 O<|⟨(j+1),WA O,Xj,Xj⟩
 exact Gx O<|Z1 O<|VF O O
structure TblOk(S:Sch)(A:List Int)(low:Int)(l:List Rw):Prop where
 row:∀x∈l,RowOk S A low x
 asc:NM l
theorem Jz{l:List Rw}(h:NM l)(r:k+1<l.length):bO l[k].v l[k+1].v=VA:=by grind[NM,Uj]
theorem yj(S:Sch)(hB:SB S)(hS:SJn S)(hV:bV S=0)(r:Nat)(hr:r<S.rels.length)(l:List Rw)(most low:Int)(hm:(l.length:Int)<=most)(hl:l.length<=1000)(hT:TblOk S S.rels[r].2 low l):FnP prog 205 [gC S,.int .i64 r,oi l,.int .i64 most,.int .i64 low] (· = .int .i64 0):=by
 refine FnP.of func205 O ntmps205 Xn λ_ _ _ _=>?_
 have B:=uV S hB;rw[hV]at B;have hrow:=fb hr;have hrne:=iD hr;have hrl:=hS.l _ (aq hr);have hrb:=hS.b _ (aq hr);have hSr:=hS.r;have Y:=fun(x:Rw)(hx:RowOk S S.rels[r].2 low x)=>yC S hS S.rels[r].1 S.rels[r].2 hrl hrb low x hx
 have Z:=hT.row;have hTa:=hT.asc;clear hT;generalize S.rels[r]=rr at*;refine Z2 O<|Z1 O<|Rs O (aa call120 B O)<|Y2 O<|Gc O (λE=>absurd E Xn) (λE=>?_);refine Z3 O ?_;apply Tt 6 23 29 [24,25,26,27,28] O Xt
 .intro hb2;exact Ar 6 O<|Tm Xs O O O
 .intro hb2;exact Ar 6 O<|Tm Xs O O O
 refine A1 O<|Gc O (λG=>absurd G (λh=>by simp at h;omega)) (λG=>?_);refine Gr O<|Ar 5 O<|Gp O (λH=>absurd H Xj) (λH=>?_);refine Ti<|Z4 O<|A3 O Xm ?_;refine Y2 O<|Z3 O ?_;refine Gz O (st:=λXr:Nat=>([(2,UG),(4,UG),(5,UG),(11,UG),(40,UG),(41,UG),(42,UF (pIi Xr))],[(0,UG),(1,UG)])) 2
  (I:=λXr=>Xr<=l.length) (μ:=λXr=>l.length-Xr) (x0:=0) (WA O) (aJ _) ?_
 rintro k hk;refine Z1 O<|Gp O (λac=>?_) (λac=>?_)
 .have hlt:k<l.length:=Xj;have hrw:=fo hlt;have hrn:=gR hlt;have z:=Z _ (aq hlt);have hvk:=Y _ z;have hxl:=z.l;obtain⟨hw1,hw2,hw3⟩:=z.w;have W:0<k->∃u:k-1<l.length,bO (l[k-1]'u).v l[k].v=VA:=λh0=>by
   obtain⟨j,rfl⟩:∃j,k=j+1:=⟨k-1,Xj⟩;exact⟨by simp only[Nat.add_sub_cancel];omega,by simpa using Jz hTa hlt⟩
  have hpl:∀u:k-1<l.length,(l[k-1]'u).v.length=rr.2.length:=λu=>(Z _ (aq u)).l
  have hpr:∀u:k-1<l.length,(bt l)[(k-1)*2]? =UF (bh (l[k-1]'u).v):=λu=>HW u
  clear z;generalize l[k]=x at*;refine Ti<|Z2 O<|A3 O Xm ?_;refine Y3 O<|Gr O<|Ar 8 O ?_;refine Gc O (λJ=>absurd J Xo) (λJ=>?_);refine Z3 O<|Rs O (aa call254 hvk O)<|Y2 O<|Gc O (λU=>absurd U Xn) (λU=>?_);refine Z4 O ?_;apply Tt 5 65 70 [66,67,68,69] O Xt
  .intro hb3;exact Ar 5 O<|Tm Xs O O O
  .intro hb3;exact Ar 5 O<|Tm Xs O O O
  refine A1 O ?_;apply Tt 4 71 75 [72,73,74] O Xt
  .intro hb9;exact Ar 4 O<|Tm Xs O O O
  .intro hb9;exact Ar 4 O<|Tm Xs O O O
  refine A1 O<|Gc O (λV=>absurd V (λh=>by simp at h;omega)) (λV=>?_);by_cases hk0:k=0
  .refine UB 15 O<|D1 O<|TR O (λτ h=>fI (Ee h 0 O O) (Ee h 1 O O) O (TL Xj))<|Dr 13 O ?_;refine⟨Xk,?_⟩;refine Gc O (λs=>absurd s Xn) (λs=>?_);exact Ti<|Z2 O<|⟨(k+1),WA O,Xj,Xj⟩
  obtain⟨u,hls⟩:=W Xj;have ab:=sF _ x.v (by rw[hpl u];omega) Xj;rw[hls]at ab;have hpq:=hpr u;refine UB 15 O<|D1 O<|TR O (λτ h=>cU (Ee h 0 O O) (Ee h 1 O O) O (TD Xj))<|Dr 4 O<|Dg [] O (λτ h=>ag (k-1) underlying57 Kl (Ee h 0 O O) (Ee h 1 O O) Xj u hrn) O Xk<|D1 O<|Dg [] O (λτ h=>az ⟨_,underlying53,O⟩ (Ee h 0 O O) hpq) O Xk<|Dr 2 O<|Dg [] O (λτ h=>aa call127 ab (h.aD O)) O Xk<|Dr 3 O ?_;refine⟨Xk,?_⟩;refine Gc O (λs=>absurd s Xn) (λs=>?_);exact Ti<|Z2 O<|⟨(k+1),WA O,Xj,Xj⟩
 exact Gx O<|Z1 O<|VF O O
theorem LU(S:Sch)(hB:SB S)(hS:SJn S)(u:bV S=0)(r:Nat)(s:r<S.rels.length)(l:List Rw)(B:l.length<=60)(z:TblOk S S.rels[r].2 1 l):FnP prog 134 [gC S,.int .i64 r,oi l] (· = .int .i64 0):=by
 refine FnP.of func134 O ntmps134 Xn λ_ _ _ _=>?_
 have s:=yj S hB hS u r s l 60 1 Xj Xj z;exact Z2 O<|Z3 O<|Rs O (aa call205 s O)<|A1 O<|VF O O
theorem B7(S:Sch)(hB:SB S)(hS:SJn S)(U:bV S=0)(d:List (List Rw))(hd:d.length=S.rels.length)(Y:∀l∈d,l.length<=60)(Z:∀r (h:r<d.length) (h2:r<S.rels.length),TblOk S S.rels[r].2 1 d[r]):FnP prog 70 [gC S,dbP d] (· = .int .i64 0):=by
 refine FnP.of func70 O ntmps70 Xn λ_ _ _ _=>?_
 have s:=uV S hB;rw[U]at s;have V:=hS.r;have W:=jR d;refine Z2 O<|Z1 O<|Rs O (aa call120 s O)<|A1 O<|Z2 O<|Gc O (λB=>?_) (λB=>?_)
 .exact Z2 O<|VF O O
 refine Ti<|Gr O<|Ar 6 O ?_;refine Gc O (λu=>absurd u Xo) (λu=>?_);refine Ti<|Z3 O<|Gz O (st:=λXr:Nat=>([(2,UG),(20,UG),(21,UG),(22,UF (pIi Xr))],[(0,UG)])) 1
  (I:=λXr=>Xr<=d.length) (μ:=λXr=>d.length-Xr) (x0:=0) (WA O) (aJ _) ?_
 rintro k hk;refine Z1 O<|Gp O (λE=>?_) (λE=>?_)
 .have hlt:k<d.length:=Xj;have G:=Cf hlt;have H:=uR hlt;have J:=LU S hB hS U k Xj d[k] (Y _ (aq hlt)) (Z k hlt Xj);generalize d[k]=tk at*;refine Ti<|Z1 O<|Rs O (ag k underlying38 sz57 O O O hlt H)<|Rs O (az ⟨_,underlying57,O⟩ O G)<|Y2 O<|Z3 O<|Rs O (aa call134 J O)<|A1 O<|Z2 O<|Gc O (λz=>absurd z Xn) (λz=>?_);exact Ti<|Z2 O<|⟨(k+1),WA O,Xj,Xj⟩
 exact Gx O<|Z1 O<|VF O O
end

section
open Mk Jn
structure DbOk(S:Sch)(d:List (List Rw)):Prop where
 hB:SB S
 hc:bV S=0
 hS:SJn S
 n:d.length=S.rels.length
 l:∀l∈d,l.length<=12
 t:∀r (h:r<d.length) (h2:r<S.rels.length),TblOk S S.rels[r].2 1 d[r]
 zf:∀l∈d,∀x∈l,∀y∈x.v,Zf y/\y.size<=10000



end
section
open Go.RowKit Mk Jn Mm Vw
theorem wj(l:List Bool)(s:0<l.length)(u:l.length<=1000000):FnO prog 143 0 1 [.pv (Ss l)] [] (λv ob'=>v= .osl 0 1 l.length/\ob'=aB [(0,.cells 4 (c7 l))]):=by
 refine FnO.of func143 O ntmps143 Xn λ_ _ _ _=>?_
 refine Z1 O<|Z1 O<|RL.call O (iz underlying174 O ?_);intro b hb;refine Gc O (λr=>absurd r (by have:=VY.1 (hb r);subst this;simp at s)) (λr=>?_);refine Ti<|Gr O<|Rs O (dI 0 RJ O)<|A1 O<|Rs O (dC 1 RJ O O O (.inl ⟨UG,O⟩) Xn (λc hc=>by obtain⟨y,_,rfl⟩:=TG.1 hc;rfl) Xj O) ?_;exact A1 O<|Gt O<|⟨[(2,.osl 0 1 l.length)],[(0,.cells 4 (c7 l))],[.osl 0 1 l.length],Tl [1] ⟨TX (b:=V.osl 1 1 (0+l.length)) O (by rw[T8];rfl),Xq⟩ ⟨TX (b:=UF (Ob.cells 4 ([]++c7 l))) O (by rw[Uv];rfl),Xq⟩ O O Xl O,O,O,O,O,O⟩
theorem nw1{av:Av}(r:av b=VA):(nwO b 1).all av=VA:=by
 show(av (b+0)&&VA)=VA;rw[Vt,r];rfl
theorem Sz{V:List ByteArray}(h:V.length=A.length)(r:j<A.length):(A.zip V)[j]? =UF (A[j],V[j]'Xj):=by
 rw[IS Xo,List.getElem_zip]
theorem CM{V:List ByteArray}(h:V.length=A.length)(r:j<A.length):(A.zip V).take (j+1)=(A.zip V).take j++[(A[j],V[j]'Xj)]:=by
 rw[List.take_add_one,Sz h r];rfl
def Hs(x:Ch)(A:List Int)(V:List ByteArray):PV:=if EP x A V=VA then .tup [R7 (ko x A V),.bool VA]else .tup [.agg [.sl UG 0 [],.sl UG 0 []],.bool VC]
theorem IK(x:Ch)(A:List Int)(V:List ByteArray)(n:Nat)(h0:0<n)(hn:n<=1000000)(hx:x.v.length=n)(hs:x.s.length=n)(hA:A.length<=1000000)(hV:V.length=A.length)(hr:∀a∈A,0<=a/\a<n):FnP prog 83 [R7 x,ar A,bh V] (· =Hs x A V):=by
 refine FnP.fg2 (FnP.ofC func83 O ntmps83 Xn λ_ _ _ _=>?_);have hc1:=wZ x.v Xj Xj;have hc2:=wj x.s Xj Xj;have hzl:(A.zip V).length=A.length:=by simp;omega
 refine Z3 O<|Z3 O<|Gz O (st:=λXr:Nat=>([(1,UG),(2,UG),(3,UG),(6,UG),(13,UG),(14,UG),(15,UF (pIi Xr))],[(0,UG),(1,UG)])) 2
  (I:=λXr=>Xr<=A.length/\((A.zip V).take Xr).all (Sx x)=VA) (μ:=λXr=>A.length-Xr) (x0:=0) (Tk (aS O) (aO Xk) O O) (⟨aJ _,O⟩) ?_
 rintro j ⟨hj,hall⟩;refine Z1 O<|Gp O (λaa=>?_) (λaa=>?_)
 .have hlj:j<A.length:=Xj;have E:=CM hV hlj;obtain⟨a,haa⟩:=Bg (hr _ (aq hlj)).1;have hal:a<n:=by have:=(hr _ (aq hlj)).2;omega
  have J:(aK A)[j*1]? =UF (.int .i64 (a:Int)):=by rw[<-haa];simp[hlj]
  have hpn:=aM hlj;have G:j<V.length:=Xj;have U:=bL G;have hsn:=bN G;have W:a<x.v.length:=Xj;have Y:a<x.s.length:=Xj;have H:=RH Y;have hbn:=Sm Y;have hnv:=bL W;have hnn:=bN W;have z:Sx x (A[j],V[j])=(!x.s[a]||decide (x.v[a]=V[j])):=by simp[Sx,haa,List.getD,W,Y]
  refine Ti<|Z2 O<|Rs O (az ⟨_,underlying3,O⟩ O J)<|Y2 O ?_;by_cases hsg:x.s[a]=VA
  .rw[hsg]at H z;refine UB 17 O<|Dr 4 O<|TR O (λτ h=>az ⟨_,underlying4,O⟩ (Ee h 0 O O) H)<|Dr 5 O<|Dg [] O (λτ h=>az ⟨_,underlying9,O⟩ (Ee h 0 O O) hnv) O Xk<|Dr 3 O<|Dg [] O (λτ h=>az ⟨_,underlying9,O⟩ (Ee h 0 O O) U) O Xk<|Dr 2 O ?_;refine⟨Xk,?_⟩;refine Gc O (λr=>?_) (λr=>?_)
   .have hne:x.v[a]≠V[j]:=λe=>by rw[e]at r;simp at r
    have hf:EP x A V=VC:=by
     unfold EP;rw[<-Ug (j+1) (A.zip V),Wz,E,Wz];simp[z,hne]
    exact Z3 O<|VF O ⟨⟨ax ⟨_,underlying176,O⟩ RA O O O,Xq⟩,by rw[Hs,sh (by rw[hf];decide)];rfl⟩
   have heq:x.v[a]=V[j]:=O1 r;exact Ti<|Z2 O<|⟨(j+1),Tk (aS O) (aO Xk) O O,⟨Xj,by rw[E,Wz,hall];simp[z,heq]⟩,Xj⟩
  rw[VW hsg]at H z;refine UB 17 O<|Dr 4 O<|TR O (λτ h=>az ⟨_,underlying4,O⟩ (Ee h 0 O O) H)<|Dr 12 O ?_;refine⟨Xk,?_⟩;refine Gc O (λr=>?_) (λr=>?_)
  .exact absurd r Xl
   done
  exact Ti<|Z2 O<|⟨(j+1),Tk (aS O) (aO Xk) O O,⟨Xj,by rw[E,Wz,hall];simp[z]⟩,Xj⟩
 have z:EP x A V=VA:=by rw[aH Xj]at hall;exact hall
 refine Gx O<|UB 9 O<|Dr 2 O<|TR O (λτ h=>aF [] 2 call76 hc1 (h.args.trans O) O O O trivial Xl (nw1 (h.n 0 _ O)))<|Dr 2 O<|TR O (λτ h=>aF [] 3 call143 hc2 (h.args.trans O) O O O trivial Xl (nw1 (h.n 0 _ O)))<|Dr 3 O ?_;refine⟨Xk,?_⟩;refine Z3 O<|Gz O (st:=λu:Nat×Ch=>([(2,UG),(6,UG),(10,UG),(46,UG),(47,UG),(48,UF (pIi u.1))],[(1,UG),(2,UF (.cells 9 (bW u.2.v))),(3,UF (.cells 4 (c7 u.2.s))),(4,UG)])) 5
  (I:=λu=>u.1<=A.length/\u.2=((A.zip V).take u.1).foldl vD x) (μ:=λu=>A.length-u.1) (x0:=(0,x)) (Tk (aS O) (aO Xk) O O) (⟨aJ _,O⟩) ?_
 rintro⟨j,y⟩ ⟨hj,hy⟩;try simp only at hj hy ⊢
 have B:=Cu ((A.zip V).take j) x;rw[<-hy]at B;refine Z1 O<|Gp O (λab=>?_) (λab=>?_)
 .have hlj:j<A.length:=Xj;have E:=CM hV hlj;obtain⟨a,haa⟩:=Bg (hr _ (aq hlj)).1;have hal:a<n:=by have:=(hr _ (aq hlj)).2;omega
  have J:(aK A)[j*1]? =UF (.int .i64 (a:Int)):=by rw[<-haa];simp[hlj]
  have hpn:=aM hlj;have G:j<V.length:=Xj;have U:=bL G;have hsn:=bN G;have Z:vD y (A[j],V[j])=⟨y.v.set a V[j],y.s.set a VA⟩:=by simp[vD,haa]
  have e1:(bW y.v).set (a*1) (.str V[j])=bW (y.v.set a V[j]):=by simp[US]
  have e2:(c7 y.s).set (a*1) (.bool VA)=c7 (y.s.set a VA):=by simp[US]
  have hl1:(bW y.v).length=x.v.length:=by simp[B.1]
  have hl2:(c7 y.s).length=x.s.length:=by simp[B.2]
  refine Ti<|Z2 O<|Rs O (az ⟨_,underlying3,O⟩ O J)<|Y2 O<|UB 14 O<|Dr 9 O<|TR O (λτ h=>az ⟨_,underlying9,O⟩ (Ee h 0 O O) U)<|VE [_] O (λτ h=>ak a underlying53 sz9 (Ee h 0 O O) (Eo h 0 O O) (Ee h 1 O O) O Xj)<|DL.step (d:=UG) [_] O O O (λτ h=>dB sz9 (Ee h 0 O O) (Eo h 0 O O) (Ee h 1 O O) O Xj) O Xk<|VE [_] O (λτ h=>ak a underlying174 sz4 (Ee h 0 O O) (Eo h 0 O O) (Ee h 1 O O) O Xj)<|DL.step (d:=UG) [_] O O O (λτ h=>dB sz4 (Ee h 0 O O) (Eo h 0 O O) (Ee h 1 O O) O Xj) O Xk ?_;refine⟨Xk,?_⟩;exact Z2 O<|⟨(j+1,⟨y.v.set a V[j],y.s.set a VA⟩),Tk (aS O) ⟨Xk,ah (λc=>UF (Ob.cells 9 c)) e1,ah (λc=>UF (Ob.cells 4 c)) e2,Xk,Xq⟩ O O,⟨Xp,by simp only;rw[E,VN,<-hy,U0,List.foldl_nil,Z]⟩,Xp⟩
 have hye:y=ko x A V:=by rw[hy,aH Xj];rfl
 rw[hye]at B;rw[hye];exact Gx O<|Tj (Tn (o:= .cells 9 (bW (ko x A V).v)) 2 Xk O)<|Tj (Tn (o:= .cells 4 (c7 (ko x A V).s)) 3 Xk O)<|Z3 O<|VF O ⟨⟨ax ⟨_,underlying176,O⟩ RA O O O,Xq⟩,by rw[Hs,By z,<-B.1,<-B.2];rfl⟩
end
section
open Go.RowKit Mk Jn Mm Vw
noncomputable abbrev vwC:Option (List En)->List PV
 |none=>[.nilmap,.nilmap]
 |some E=>[.mp (cC E) (lA E),.mp (cC E) (gvsV E)]
noncomputable def vwsC(vs:List (Option (List En))):List PV:=vs.flatMap vwC
theorem zb(o:Option (List En)):(vwC o).length=2:=by cases o<;>rfl
theorem o7(vs:List (Option (List En))):(vwsC vs).length=vs.length*2:=bM _ 2 zb vs
theorem Bx{vs:List (Option (List En))}(h:k<vs.length):((vwsC vs).drop (k*2)).take 2=vwC vs[k]:=cZ _ 2 zb vs k h
noncomputable abbrev bldM(S:Sch)(D:VD)(T:List (List Rw))(n:Nat)(left:Int):List V:=[.pv (.sl UG S.attrs.length (aU S.attrs)),.pv (.sl UG S.rels.length (aY S.rels)),.pv (.sl UG S.feats.length (aX S.feats)),pIi S.label,.pv (bC D.chs),.pv (bC D.kes),.pv (bC D.hos),.pv (ar D.wa),.pv (dbP T),.osl 9001 2 n,pIi left]
noncomputable abbrev bldO(S:Sch)(D:VD)(T:List (List Rw))(n:Nat)(left:Int)(vs:List (Option (List En))):List (Nat×Ob):=[(big,.mix 94 (bldM S D T n left)),(9001,.cells 103 (vwsC vs))]
theorem PE{T:List (List Rw)}{r:Nat}(h:r<T.length):(jI T)[r*1]? =UF (oi T[r]):=by simp[jI,h]
def IC(x:Rw):Itm:=⟨x.v,Gv.whole x.w.toNat⟩
theorem yd{l:List Prt}(h:i<l.length):ptsC (l.take i)++ptC l[i]=ptsC (l.take (i+1)):=by
 rw[AI h];simp only[ptsC,Us,T0,Wc,Uh]
theorem CN(a b:List Prt):ptsC (a++b)=ptsC a++ptsC b:=by simp[ptsC]
noncomputable abbrev ptsP(l:List Prt):PV:= .sl UG l.length (ptsC l)
theorem yB(S:Sch)(hSr:S.rels.length<=1000)(D:VD)(T:List (List Rw))(n:Nat)(left:Int)(vs:List (Option (List En)))(hvs:vs.length=n)(hT:T.length=S.rels.length)(a8:∀l∈T,l.length<=1000)(hw:∀l∈T,∀x∈l,0<=x.w/\x.w<=9223372036854775807)
  (v:Nat) (HS CS:List Int) (V:v<D.hos.length) (W:v<D.chs.length) (a9:D.hos[v]=HS) (ba:D.chs[v]=CS) (hHl:HS.length<=1000) (hCl:CS.length<=1000) (hH:∀r∈HS,∃k:Nat,k<S.rels.length/\r=(k:Int))
  (hC:∀c∈CS,∃k:Nat,k<n/\k<D.kes.length/\c=(k:Int)) (f:Int->List En) (K:Int->List Int) (hf:∀(k:Nat)(h:k<vs.length)(h':k<D.kes.length),(k:Int)∈CS->vs[k]=UF (f k)/\D.kes[k]=K k/\EnOk (f k)/\(f k).length<=1000000):
  FnO prog 78 2 0 [.ptr big 0,pIi v] (bldO S D T n left vs) (λr ob'=>r= .pv (ptsP ((HS.map λr=>gF (lj S r) (nv T r))++CS.map λc=>dV (K c) (f c)))/\ob'=aB (bldO S D T n left vs)):=by
 refine FnO.of func78 O ntmps78 Xn λ_ _ _ _=>?_
 have Y:=gI V;have ap:=gO V;have Z:=gI W;have au:=gO W;rw[a9]at Y;rw[ba]at Z;obtain⟨hp,hhp⟩:∃hp:List Prt,hp=HS.map λr=>gF (lj S r) (nv T r):=⟨_,O⟩
 obtain⟨cp,hcp⟩:∃cp:List Prt,cp=CS.map λc=>dV (K c) (f c):=⟨_,O⟩
 have bb:hp.length=HS.length:=by rw[hhp,TB]
 have bc:cp.length=CS.length:=by rw[hcp,TB]
 rw[<-hhp,<-hcp];refine Z1 O<|Z1 O<|Tj (Tp 5 0 2 181 O O)<|Gr O<|Ar 6 O<|Rs O (ag v underlying88 sA O O O V ap)<|Rs O (az ⟨_,underlying22,O⟩ O Y)<|Y2 O<|Gz O (st:=λXr:Nat=>([(0,UG),(1,UG),(5,UF (.gsl 0 2 Xr)),(20,UG),(21,UG),(22,UF (pIi Xr))],[(big,UG),(0,UF (.gro 181 (ptsC (hp.take Xr)))),(9001,UG)])) 1
  (I:=λXr=>Xr<=HS.length) (μ:=λXr=>HS.length-Xr) (x0:=0) (Tk (aS O) (aO Xk) O O) (aJ _) ?_
 rintro k hk;refine Z1 O<|Gp O (λam=>?_) (λam=>?_)
 .have hlt:k<HS.length:=Xj;have ax:k<hp.length:=Xj;obtain⟨r,hr,hre⟩:=hH _ (aq hlt);have B:r<T.length:=Xj;have J:(aK HS)[k*1]? =UF (.int .i64 (r:Int)):=by rw[<-hre];simp[hlt]
  have ay:=aM hlt;have ab:=iD hr;have aA:(aY S.rels)[r*2+1]? =UF (ar S.rels[r].2):=by
   have h2:(((aY S.rels).drop (r*2)).take 2)[1]? =[PV.str S.rels[r].1,ar S.rels[r].2][1]? :=by rw[fb hr]
   simpa[TS,UN]using h2
  have aC:=PE B;have aF:=uR B;have aP:=hw _ (aq B);have hlT:=a8 _ (aq B);have U:hp[k]=⟨S.rels[r].2,T[r].map IC⟩:=by
   simp only[hhp,UP,hre];simp[gF,lj,nv,List.getD,hr,B,IC]
  have G:=yd ax;rw[U]at G;have aQ:(ptsC (hp.take k)).length=k*2:=by rw[uO,TC,Ul Xj]
  generalize S.rels[r].2=A at*;generalize T[r]=l at*;obtain⟨I,hI⟩:∃I:List Itm,I=l.map IC:=⟨_,O⟩;have hIl:I.length=l.length:=by rw[hI,TB]
  rw[<-hI]at G;refine Ti<|Z1 O<|Rs O (az ⟨_,underlying3,O⟩ O J)<|A1 O<|Gr O<|Ar 6 O<|Rs O (ag r underlying27 HM O O O hr ab)<|A1 O<|Rs O (az ⟨_,underlying22,O⟩ O aA)<|Y3 O<|Tj (St.da (T':=181) (cs:=[.pv (ar A),.pv nS]) 1 1 2 7 183 Xk O O)<|Gr O<|Ar 5 O<|Rs O (ag r underlying37 sz57 O O O B aF)<|Rs O (az ⟨_,underlying57,O⟩ O aC)<|Y2 O<|Gz O (st:=λs:Nat=>([(0,UG),(1,UG),(5,UG),(8,UG),(20,UG),(21,UG),(22,UG),(42,UG),(43,UG),(44,UF (pIi s))],[(big,UG),(0,UG),(1,UF (.mix 181 [.pv (ar A),.gsl 2 7 s])),(2,UF (.gro 183 (itsC (I.take s)))),(9001,UG)])) 3
   (I:=λs=>s<=l.length) (μ:=λs=>l.length-s) (x0:=0) (Tk (aS O) (aO Xk) O O) (aJ _) ?_
  rintro i hi;refine Z1 O<|Gp O (λan=>?_) (λan=>?_)
  .have hli:i<l.length:=Xj;have aR:i<I.length:=Xj;have z:=fo hli;have aW:bt l≠[]:=λe=>by have:=cj l;rw[e]at this;simp at this;omega
   obtain⟨hw0,hw1⟩:=aP _ (aq hli);have aZ:I[i]=IC l[i]:=by simp[hI]
   have ac:=yl aR;rw[aZ]at ac;have hik:(itsC (I.take i)).length=i*7:=by rw[tG,TC,Ul Xj]
   generalize l[i]=x at*;have ad:=lV x.w.toNat Xj;have a0:PV.int .i64 ((x.w.toNat:Nat):Int)= .int .i64 x.w:=by rw[Int.toNat_of_nonneg hw0]
   rw[a0]at ad;refine Ti<|Gr O<|Rs O (ag i underlying57 Kl O O O hli aW)<|Rs O (aG ⟨_,underlying59,O⟩ Kl O z O)<|Y2 O<|UB 12 O<|Dr 6 O<|TR O (λτ h=>aa call40 ad (h.aD O))<|Dr 5 O ?_;refine⟨Xk,?_⟩;exact Z2 O<|⟨(i+1),Tl [0,1,5] (aT O) ⟨Xk,Xk,Xk,TX (b:=UF (.gro 183 (itsC (I.take i)++itC (IC x)))) Xk (ah (λc=>UF (Ob.gro 183 c)) ac),Xk,Xq⟩ O O Xl O,hli,Xj⟩
  have hie:I.take i=I:=aH Xj;have a1:i=I.length:=Xj;rw[hie,a1];exact Gx O<|Tj (Tn (o:= .gro 183 (itsC I)) 2 Xk O)<|Gr O<|Ar 5 O<|Z2 O<|⟨(k+1),Tl [4] (aT O) ⟨Xk,TX (b:=UF (.gro 181 (ptsC (hp.take k)++ptC ⟨A,I⟩))) Xk (ah (λc=>UF (Ob.gro 181 c)) G),Xk,Xq⟩ O O Xl O,hlt,Xj⟩
 have hke:hp.take k=hp:=aH Xj;have a2:k=hp.length:=Xj;rw[hke,a2];refine Gx O<|Gr O<|Ar 6 O<|Rs O (ag v underlying88 sA O O O W au)<|Rs O (az ⟨_,underlying22,O⟩ O Z)<|Y2 O<|Gz O (st:=λu:Nat=>([(0,UG),(5,UF (.gsl 0 2 (hp.length+u))),(72,UG),(73,UG),(74,UF (pIi u))],[(big,UG),(0,UF (.gro 181 (ptsC (hp++cp.take u)))),(9001,UG)])) 1
  (I:=λu=>u<=CS.length) (μ:=λu=>CS.length-u) (x0:=0) (Tk (aS O) ⟨Xk,ah (λc=>UF (Ob.gro 181 (ptsC c))) Xn,Xk,Xq⟩ O O) (aJ _) ?_
 rintro j hj;refine Z1 O<|Gp O (λao=>?_) (λao=>?_)
 .have hlj:j<CS.length:=Xj;have a3:j<cp.length:=Xj;obtain⟨c,hcn2,hck,hce⟩:=hC _ (aq hlj);have H:c<vs.length:=Xj;obtain⟨g1,g2,g3,g4⟩:=hf c H hck (by rw[<-hce];exact aq hlj);have J:(aK CS)[j*1]? =UF (.int .i64 (c:Int)):=by rw[<-hce];simp[hlj]
  have ay:=aM hlj;have af:=gI hck;have a4:=gO hck;rw[g2]at af;have z:=Bx H;rw[g1]at z;have U:cp[j]=dV (K c) (f c):=by simp[hcp,hce]
  have G:=yd a3;rw[U]at G;have al:ptsC (hp++cp.take j)++ptC (dV (K c) (f c))=ptsC (hp++cp.take (j+1)):=by rw[CN,CN,VZ,G]
  have aQ:(ptsC (hp++cp.take j)).length=(hp.length+j)*2:=by rw[uO,IN,TC,Ul Xj]
  have a5:=DC (f c) (K c) g3 g4;generalize dV (K c) (f c)=p at*;generalize f c=E at*;refine Ti<|Z1 O<|Rs O (az ⟨_,underlying3,O⟩ O J)<|A1 O<|UB 20 O<|Dr 6 O<|VE [_] O (λτ h=>ak c underlying92 Em (Ee h 0 O O) (Eo h 0 O O) (Ee h 1 O O) O hcn2)<|VE [_] O (λτ h=>mH ⟨_,underlying103,O⟩ Em (Ee h 0 O O) (Eo h 0 O O) z O)<|Dr 6 O<|TR O (λτ h=>ag c underlying88 sA (Ee h 0 O O) (Ee h 1 O O) O hck a4)<|TR O (λτ h=>az ⟨_,underlying22,O⟩ (Ee h 0 O O) af)<|TR O (λτ h=>aa call136 a5 (h.aD O))<|Dr 3 O ?_;refine⟨Xk,?_⟩;exact Z2 O<|⟨(j+1),Tl [2] (aT O) ⟨Xk,TX (b:=UF (.gro 181 (ptsC (hp++cp.take j)++ptC p))) Xk (ah (λc=>UF (Ob.gro 181 c)) al),Xk,Xq⟩ O O Xl O,hlj,Xj⟩
 have hje:cp.take j=cp:=aH Xj;have a6:hp.length+j=(hp++cp).length:=by rw[IN];omega
 rw[hje,a6];exact Gx O<|Tj (Tn (o:= .gro 181 (ptsC (hp++cp))) 0 Xk O)<|Z2 O<|Gt O<|⟨[(4,.pv (ptsP (hp++cp)))],bldO S D T n left vs,[.pv (ptsP (hp++cp))],Tk (aS O) (aO Xk) O O,O,O,O,O,O⟩
end
section
section
variable {C:Ctx}{n:Nat}{σ:St}{x y:Operand}{dst:Option Tmp}{ty:TypeId}{pos:String}{after:Array Edge}{gd:Option (Nat×Bool)}
theorem qi:∀{vs:List PV}{us:List Value},RelPL w R vs us->vs.all PV.leaf=VA->∀v∈us,v.oneCell'=VA
 |[],us,h,_,v,hv=>by simp only[RelPL]at h;subst h;simp at hv
 | c::cs,us,h,hl,v,hv=>by
   simp only[RelPL]at h;obtain⟨u,vs',rfl,h1,h2⟩:=h;simp only[VL,du]at hl;rcases BY.1 hv with rfl|hv
   .exact h1.leaf hl.1
   exact qi h2 hl.2 v hv
theorem DR{T':TypeId}{id off:Nat}{vs:List PV}(J:bT C.P T k)(U:σ.ev n x= .ptr id off)(V:σ.ob id=UF (.cells T' cs))(W:σ.ev n y= .pv (.agg vs))(E:vs.length=k)(H:vs.all PV.leaf=VA)(Y:off+k<=cs.length):
  XJ C n ⟨UG,.store T x y,ty,pos,after,gd⟩ σ ⟨.pv .any,[(id,UF (.cells T' (ik cs off vs)))],[]⟩:=by
 rintro a w Q ⟨m,R,hw⟩;obtain⟨b,N,he,hm,arr,hb,hN,hle',hr⟩:=hw.ptr U V;have r:=hw.pv W;simp only[RelP]at r;obtain⟨us,hu,r⟩:=r;have I:=qi r H;have G:=r.length;have s:(a.eval y).cells=us.toArray:=by rw[hu];rfl
 have B:=ly (P:=C.P) (T:=T) (u:=a.eval y) (off:=off) hb (by rw[s];simp only[T4];rw[G,E];exact J) (by rw[s];simp;omega) (by rw[s];simpa using I);unfold Oper.wp;have z:(execOp a.eval ⟨UG,.store T x y,ty,pos,after,gd⟩).run C.P w= .ok .skip (w.setRow b (ik arr.toList off us).toArray):=by
  simp only[execOp,he,Sem.run_bind,B,Result.andThen_ok,Sem.run_pure,s]
 rw[z];refine⟨_,O,m,R,?_⟩;refine hw.store hm arr _ T' hb (by simp only[T4];rw[bS _ _ _ Xo];simpa using hN) _ ?_;intro w' hR hb';refine⟨_,hb',by simp only[T4];rw[bS _ _ _ Xo];simpa using hN,by rw[bS _ _ _ Xj];exact hle',?_⟩;rw[bS cs off vs Xj];have e:(ik arr.toList off us).toArray.toList.take cs.length=ik (arr.toList.take cs.length) off us:=by grind[ik,lG]
 rw[e];exact(hr.ik off r).mono hR
theorem L8{e:TypeId}{z:Value}{size bytes:Nat}{kl kc:IntKind}{il ic:Int}(id k:Nat)(G:ElemIs C.P T e z size bytes)(W:σ.ev n x= .pv (.int kl il))(Y:σ.ev n y= .pv (.int kc ic))(H:il=0)(I:ic=(k:Int))(Z:k<=1000000000)(J:σ.av id=VA):
  XJ C n ⟨dst,.makeSlice T x y,ty,pos,after,gd⟩ σ ⟨.osl id size 0,[(id,UF (.cells e []))],[id]⟩:=by
 subst H I;rintro a w Q ⟨m,R,hw⟩;obtain⟨i,hi,hz,hsize,hbytes⟩:=info_parts G.info;have B:(i.bytes:Int)*(k:Int)<=281474976710656:=by
  have U:bytes*k<=1000*1000000000:=Uy G.by_ Z;rw[hbytes];have V:((bytes*k:Nat):Int)<=((1000*1000000000:Nat):Int):=Int.ofNat_le.2 U;rw[Vn]at V;omega
 have r:=run_make (P:=C.P) w T e i z G.u hi hz kl kc 0 k Xj Xj B Xj;simp only[TU,hsize]at r;have s:(execOp a.eval ⟨dst,.makeSlice T x y,ty,pos,after,gd⟩).run C.P w= .ok (.value (.slice (UF ⟨w.heap.size,0,UG⟩) 0 k)) (w.alloc (.cells (madeCells z.cells (k*size)) e)):=by
  simp only[execOp,hw.int W,hw.int Y,Sem.run_bind,r,Result.andThen_ok,Sem.run_pure];rfl
 unfold Oper.wp;rw[s];have E:(madeCells z.cells (k*size)).size=k*size:=size_madeCells _ _;refine⟨_,O,upd m id (UF (w.heap.size,(madeCells z.cells (k*size)).size)),R,?_⟩;rw[Ts];refine SW.put (hw.alloc J _ e (.cells e []) ?_) dst ?_
 .intro w' m' av' hR hm ha hb;exact⟨_,hb,O,aJ _,by simp[RelPL]⟩
 simp only[Rel];refine⟨by simp[avL],λb N e=>?_⟩;rw[aC]at e;cases e;exact⟨k,O,aJ _,by simp only[maxLen];omega,E⟩
end
end
section
open Go.RowKit Mk Jn Mm Vw
noncomputable abbrev viF(ps:List Prt)(v:Nat)(a b c:Nat):V:= .fn (.func 79) [] [.pv (.rp [ptsP ps] 0),.ptr a 0,.pv (.rp [.int .i64 v] 0),.ptr b 0,.ptr c 0]
noncomputable abbrev viA(ps:List Prt)(v:Nat)(k:Int)(x:Ch)(g:Gv):List V:=[pIi k,.pv (R7 x),.pv (momP g.m),.pv (.rp [ptsP ps] 0),.ptr big 0,.pv (.rp [.int .i64 v] 0),.ptr 9001 0,.ptr 9002 0]
noncomputable abbrev bldM2(S:Sch)(D:VD)(T:List (List Rw))(n:Nat)(left:Int)(b:Nat):List V:=[.pv (.sl UG S.attrs.length (aU S.attrs)),.pv (.sl UG S.rels.length (aY S.rels)),.pv (.sl UG S.feats.length (aX S.feats)),pIi S.label,.pv (bC D.chs),.pv (bC D.kes),.pv (bC D.hos),.pv (ar D.wa),.pv (dbP T),.osl b 2 n,pIi left]
noncomputable abbrev viO(S:Sch)(D:VD)(T:List (List Rw))(n:Nat)(left:Int)(vs:List (Option (List En)))(ps:List Prt)(v:Nat)(E:List En):List (Nat×Ob):=
 [(big,.mix 87 [.ptr 9003 0]),(9001,.mix 103 [.map 9005,.map 9006]),(9002,.mix 173 [viF ps v big 9001 9002]),
   (9003,.mix 94 (bldM2 S D T n left 9004)),(9004,.cells 103 (vwsC vs)),(9005,.mp (cC E) (lA E)),(9006,.mp (cC E) (gvsV E))]
structure PtY(n:Nat)(Q:List Par)(X:Nat->List ByteArray)(p:Prt):Prop where
 x:PtX Q X p
 w:∀i∈p.is,i.g.w<=10^5
 k:∀i∈p.is,i.g.k<=6
 a:∀a∈p.a,0<=a/\a<n
 al:p.a.length<=1000
 il:p.is.length<=1000000
structure BC(S:Sch)(D:VD)(n:Nat)(v:Nat)(K:List Int)(Q:List Par)(X:Nat->List ByteArray)(lf:Int->ByteArray->Gv)(ps:List Prt):Prop where
 n0:0<n
 n1:n<=1000
 hv:v<n
 kl:v<D.kes.length
 kv:D.kes[v]=K
 K0:K.length<=1000
 K1:∀a∈K,0<=a/\a<n
 X1:∀a,∀t∈X a,t.size<=1000
 lfx:LfX Q X lf
 lift:∀t∈X v,FnP prog 80 [gC S,.int .i64 v,.str t] (· =momP (lf v t).m)
 hps:∀p∈ps,PtY n Q X p
 pl:ps.length<=8
structure EI(Q:List Par)(X:Nat->List ByteArray)(K:List Int)(e:En):Prop where
 x:ItX Q X K e.v e.g
 k:e.g.k<=49
structure CI(n:Nat)(Q:List Par)(X:Nat->List ByteArray)(K:List Int)(d:Nat)(x:Ch)(g:Gv)(E:List En):Prop where
 cx:ChX n X x
 cg:GvOk Q g
 gn:1<=g.n
 gw:g.w<=(10^5)^d
 gk:g.k<=6*d
 E:∀e∈E,EI Q X K e
theorem pw5{d:Nat}(h:d<=8):(10^5)^d<=10^40:=by
 rw[<-Nat.pow_mul];exact UY Xl Xj
theorem Pj:(10:Nat)^45<=10^50:=by decide+kernel
theorem tv:(10:Nat)^40<=10^50:=by decide+kernel
theorem Kq:(10:Nat)^5<=10^50:=by decide+kernel
section
variable {S:Sch}{D:VD}{T:List (List Rw)}{n:Nat}{left:Int}{vs:List (Option (List En))}{ps:List Prt}{v:Nat}{K:List Int}{Q:List Par}{X:Nat->List ByteArray}{lf:Int->ByteArray->Gv}
open Classical in
theorem LF(h:BC S D n v K Q X lf ps)(x:Ch)(g:Gv)(E:List En)(hc:CI n Q X K ps.length x g E)(hl:((stepE (lf v) v K E (x,g)).length:Int)<=left)(hw:jt Gv.w (stepE (lf v) v K E (x,g))<=10^45):
  FnO prog 79 7 0 (viA ps v ps.length x g) (viO S D T n left vs ps v E) (λr ob'=>r= .pv (.bool VA)/\ob'=aB (viO S D T n left vs ps v (stepE (lf v) v K E (x,g)))):=by
 refine FnO.of func79 O ntmps79 Xn λ_ _ _ _=>?_
 have u:v<x.v.length:=by rw[hc.cx.v];exact h.hv
 have am:=bL u;have an:=bN u;have H:x.v[v]∈X v:=by have:=hc.cx.x v;simpa[List.getD,u]using this
 have ao:x.v.getD v ⟨#[]⟩=x.v[v]:=by simp[List.getD,u]
 have ap:=h.lift _ H;have Y:=h.lfx.g v _ (show x.v[v]∈X (v:Int).toNat by simpa using H);have Z:=AS hc.gw (pw5 h.pl);have au:(lf v x.v[v]).w<=10^50:=by rw[h.lfx.w];decide+kernel
 have hlk:(lf v x.v[v]).k=1:=h.lfx.k _ _;have hps8:=h.pl;have hgk:=hc.gk;have ab:=vG hc.cg.s Y.s (AS Z tv) au Xj Xj;have ac:GvOk Q (g.mul (lf v x.v[v])):=hc.cg.mul Y;have ax:=Rp ac.s;have ay:stepE (lf v) v K E (x,g)=if(g.mul (lf v x.v[v])).m=Mm.Sem.zero then E else uj E (ir K x) (g.mul (lf v x.v[v])):=by
  unfold stepE;rw[TU,ao]
 rw[ay]at hl hw ⊢;have aA:(g.mul (lf v x.v[v])).k<=50:=by show g.k+(lf v x.v[v]).k<=50;omega
 have aC:(g.mul (lf v x.v[v])).w<=10^50:=by show g.w*(lf v x.v[v]).w<=_;rw[h.lfx.w,TZ];exact AS Z tv
 change FnP _ _ _ (· =momP (g.mul (lf v x.v[v])).m)at ab
 generalize g.mul (lf v x.v[v])=G at*;have U:=gI h.kl;have ad:=gO h.kl;rw[h.kv]at U;have af:=h.kl;have aG:=h.K0;refine Z3 O<|Z4 O<|Gc O (λJ=>?_) (λJ=>absurd J Xn);refine UB 14 O<|Dr 9 O<|TR O (λτ h=>ag v underlying53 sz9 (Ee h 0 O O) (Ee h 1 O O) O u an)<|TR O (λτ h=>az ⟨_,underlying9,O⟩ (Ee h 0 O O) am)<|TR O (λτ h=>aa call80 ap (h.aD O))<|TR O (λτ h=>aa call42 ab (h.aD O))<|D1 O ?_;refine⟨Xk,?_⟩;refine Z1 O<|Rs O (aa call81 ax O)<|Gc O (λz=>?_) (λz=>?_)
 .have hz:G.m=Mm.Sem.zero:=Vi z;rw[By hz];exact Z1 O<|Gt O<|⟨[(11,.pv (.bool VA))],viO S D T n left vs ps v E,[.pv (.bool VA)],Tk (aS O) (aO Xk) O O,O,O,O,O,O⟩
 have hz:¬G.m=Mm.Sem.zero:=Vk z;rw[sh hz]at hl hw ⊢;refine Ti<|UB 11 O<|Dr 6 O<|TR O (λτ h=>ag v underlying88 sA (Ee h 0 O O) (Ee h 1 O O) O af ad)<|TR O (λτ h=>az ⟨_,underlying22,O⟩ (Ee h 0 O O) U)<|D1 O<|TR O (λτ h=>L8 2 _ EA (Ee h 0 O O) (Ee h 1 O O) O O Xj (h.n 0 _ O))<|D1 O ?_;refine⟨Xk,?_⟩;refine UB 10 O<|Dr 6 O<|TR O (λτ h=>ag v underlying88 sA (Ee h 0 O O) (Ee h 1 O O) O af ad)<|TR O (λτ h=>az ⟨_,underlying22,O⟩ (Ee h 0 O O) U)<|Dr 2 O ?_;refine⟨Xk,?_⟩;refine Gz O (st:=λXr:Nat=>([(4,UG),(6,UG),(9,UG),(10,UG),(12,UF (.osl 2 1 Xr)),(55,UG),(56,UG),(57,UF (pIi Xr))],[(big,UG),(0,UG),(1,UG),(2,UF (.cells 9 (bW ((ir K x).take Xr)))),(9001,UG),(9002,UG),(9003,UG),(9004,UG),(9005,UG),(9006,UG)])) 3
  (I:=λXr=>Xr<=K.length) (μ:=λXr=>K.length-Xr) (x0:=0) (Tk (aS O) (aO Xk) O O) (aJ _) ?_
 rintro j hj;refine Z1 O<|Gp O (λal=>?_) (λal=>?_)
 .have hlt:j<K.length:=Xj;obtain⟨a,haa⟩:=Bg (h.K1 _ (aq hlt)).1;have B:a<x.v.length:=by have:=(h.K1 _ (aq hlt)).2;rw[hc.cx.v];omega
  have aP:(aK K)[j*1]? =UF (.int .i64 (a:Int)):=by rw[<-haa];simp[hlt]
  have hpn:=aM hlt;have aQ:=bL B;have aR:=bN B;have aZ:j<(ir K x).length:=by simpa[ir]using hlt
  have a0:(ir K x)[j]=x.v[a]:=by simp[ir,haa,List.getD,B]
  have a1:(ir K x).take (j+1)=(ir K x).take j++[x.v[a]]:=by rw[AI aZ,a0]
  have hsl:(bW ((ir K x).take j)).length=j*1:=by simp[ir];omega
  exact Ti<|Z1 O<|Rs O (az ⟨_,underlying3,O⟩ O aP)<|A1 O<|Z4 O<|Rs O (ag a underlying53 sz9 O O O B aR)<|Rs O (az ⟨_,underlying9,O⟩ O aQ)<|Y3 O<|Z2 O<|⟨(j+1),Tl [0,1,4] (aT O) ⟨Xk,Xk,Xk,TX (b:=UF (.cells 9 (bW ((ir K x).take j)++[.str x.v[a]]))) Xk (ah (λc=>UF (Ob.cells 9 c)) (by rw[a1];simp)),Xk,Xk,Xk,Xk,Xk,Xk,Xq⟩ O O Xl O,hlt,Xj⟩
 have hje:(ir K x).take j=ir K x:=aH (by simp[ir];omega);have a2:j=(ir K x).length:=by simp[ir];omega
 rw[hje,a2];have W:=Mn (K:=K) hc.cx;have a3:=Vw.Le (ir K x) 1000 λt ht=>by obtain⟨i,hi,rfl⟩:=Ux ht;exact h.X1 _ _ (W.x i hi (by rw[<-W.len];exact hi))
 have ak:(ir K x).length<=1000:=by rw[W.len];exact aG
 have a4:∀e∈E,GvOk Q e.g/\e.g.w<=10^50/\e.g.k<=50:=λe he=>⟨(hc.E e he).x.ok,AS (yM (f:=Gv.w) he) (AS (by rw[vB JY]at hw;omega) Pj),AS (hc.E e he).k Xl⟩
 have a5:=IE E (ir K x) G a4 ac aC aA Xj (AS a3 (AS (UK _ ak) Xl));have a6:decide (((cC (uj E (ir K x) G)).length:Int)<=left)=VA:=TD (by simpa using hl);generalize uj E (ir K x) G=E' at*;generalize ir K x=key at*;refine Gx O<|Tj (Tn (o:= .cells 9 (bW key)) 2 Xk O)<|Tj (St.kV [12])<|Z3 O<|Rs O (aF [9005,9006] 3 call82 a5 O O O O ⟨O,O,Xq⟩ Xl O)<|UB 9 O<|Dr 2 O<|VE [_] O (λτ h=>p6 underlying100 (.inl ⟨9005,(Ee h 0 O O),(Eo h 0 O O)⟩))<|Dr 6 O ?_;refine⟨Xk,?_⟩;exact Gt O<|⟨[(11,.pv (.bool VA))],viO S D T n left vs ps v E',[.pv (.bool VA)],Tk ⟨TX (b:=V.pv (.bool (decide (((cC E').length:Int)<=left)))) Xk (ah (λb=>V.pv (.bool b)) a6),Xq⟩ (aO Xk) O O,O,O,O,O,O⟩
theorem O5(r:LfX Q X lf):∀(ls:List (Ch×Gv)){E:List En},(∀l∈ls,ChX n X l.1/\GvOk Q l.2/\1<=l.2.n/\l.2.k<=48)->(∀e∈E,EI Q X K e)->∀e∈foldE (lf v) v K E ls,EI Q X K e:=λls E hl hE=>by
 refine mF (I:=EI Q X K) (λx y hx hy t=>⟨⟨hx.x.ok.add hy.x.ok,AS hx.x.n (Vf _ _),hx.x.v⟩,Nat.max_le.2 ⟨hx.k,hy.k⟩⟩) ls hE λl h=>?_
 obtain⟨h1,h2,h3,h4⟩:=hl l h;refine⟨⟨h2.mul (r.g _ _ (h1.x _)),?_,Mn h1⟩,?_⟩
 .show 1<=l.2.n*(lf v _).n;rw[r.n];omega
 show l.2.k+(lf v _).k<=49;rw[r.k];omega
theorem lv_ok(h:BC S D n v K Q X lf ps)(B:k<=ps.length){x:Ch}{g:Gv}{E:List En}(hc:CI n Q X K k x g E):∀l∈leaves (ps.drop k) x g,ChX n X l.1/\GvOk Q l.2/\1<=l.2.n/\l.2.k<=48:=λl hl=>by
 have r:∀p∈ps.drop k,PtX Q X p:=λp r=>(h.hps p (Vq r)).x
 obtain⟨h1,h2,h3⟩:=uD r hc.cx hc.cg hc.gn l hl;have z:=AA l hl;have s:((ps.drop k).map Prt.km).sum<=((ps.drop k).map λ_=>6).sum:=yf λp r=>PM (h.hps p (Vq r)).k
 have u:∀q:List Prt,(q.map λ_=>6).sum=6*q.length:=λq=>by
  induction q with
  |nil=>rfl
  |cons a q ih=>rw[cu,Up,ih,IT];omega
 rw[u,UQ]at s;have:=hc.gk;have:=h.pl;exact⟨h1,h2,h3,Xj⟩
def lvI(ps:List Prt)(k:Nat)(hk:k<ps.length)(x:Ch)(g:Gv)(i:Itm):List (Ch×Gv):=if EP x ps[k].a i.v=VA then leaves (ps.drop (k+1)) (ko x ps[k].a i.v) (g.mul i.g)else []
theorem Qy(r:k<ps.length)(x:Ch)(g:Gv):leaves (ps.drop k) x g=ps[k].is.flatMap (lvI ps k r x g):=by
 rw[TN r,leaves];rfl
theorem Ky(h:BC S D n v K Q X lf ps)(k:Nat)(J:k<ps.length)(x:Ch)(g:Gv)(E:List En)(hc:CI n Q X K k x g E)
  (hrec:∀(y:Ch)(g':Gv)(E':List En),CI n Q X K (k+1) y g' E'->((foldE (lf v) v K E' (leaves (ps.drop (k+1)) y g')).length:Int)<=left->jt Gv.w (foldE (lf v) v K E' (leaves (ps.drop (k+1)) y g'))<=10^45->
   FnO prog 79 7 0 (viA ps v ((k:Int)+1) y g') (viO S D T n left vs ps v E') (λr ob'=>r= .pv (.bool VA)/\ob'=aB (viO S D T n left vs ps v (foldE (lf v) v K E' (leaves (ps.drop (k+1)) y g')))))
  (hl:((foldE (lf v) v K E (leaves (ps.drop k) x g)).length:Int)<=left) (hw:jt Gv.w (foldE (lf v) v K E (leaves (ps.drop k) x g))<=10^45):
  FnO prog 79 7 0 (viA ps v k x g) (viO S D T n left vs ps v E) (λr ob'=>r= .pv (.bool VA)/\ob'=aB (viO S D T n left vs ps v (foldE (lf v) v K E (leaves (ps.drop k) x g)))):=by
 have U:=lv_ok h (WG J) hc;have z:=h.hps _ (aq J);have hps8:=h.pl;have hgk:=hc.gk;have Z:=AS hc.gw (pw5 (d:=k) Xj);rw[Qy J]at hl hw U ⊢;obtain⟨F,hF⟩:∃F,F=lvI ps k J x g:=⟨_,O⟩;have hFi:=λi=>show F i=if EP x ps[k].a i.v=VA then leaves (ps.drop (k+1)) (ko x ps[k].a i.v) (g.mul i.g)else [] by rw[hF];rfl
 rw[<-hF]at hl hw U ⊢;have hit:(ptsC ps)[k*2+1]? =UF (.sl UG ps[k].is.length (itsC ps[k].is)):=by
  have h2:(((ptsC ps).drop (k*2)).take 2)[1]? =(ptC ps[k])[1]? :=by rw[Bc J]
  simpa[TS,UN]using h2
 have ab:(ptsC ps)[k*2]? =UF (ar ps[k].a):=by
  have h2:(((ptsC ps).drop (k*2)).take 2)[0]? =(ptC ps[k])[0]? :=by rw[Bc J]
  simpa[TS,UN]using h2
 have G:=QC J;obtain⟨A,hA⟩:∃A,A=ps[k].a:=⟨_,O⟩;obtain⟨I,hI⟩:∃I,I=ps[k].is:=⟨_,O⟩;have hx':=z.x;have hw':=z.w;have hk':=z.k;have ha':=z.a;have hal:=z.al;have hIl:=z.il;rw[<-hA]at hFi ab ha' hal;rw[<-hI]at hit hl hw U hw' hk' hIl ⊢;have hxI:∀i∈I,ItX Q X A i.v i.g:=λi hi=>by rw[hA];exact hx' i (by rw[<-hI];exact hi)
 clear hx' z hA hI;have ac:=call79;refine FnO.of func79 O ntmps79 Xn λm0 w0 F0 R0=>?_
 refine Z3 O<|Z4 O<|Gc O (λY=>absurd Y Xo) (λY=>?_);refine Ti<|Z2 O<|Rs O (ag k underlying171 LR O O O J G)<|A1 O<|Rs O (az ⟨_,underlying179,O⟩ O hit)<|Y2 O<|Gz O (st:=λXr:Nat×List En=>([(0,UG),(3,UG),(7,UG),(9,UG),(10,UG),(86,UG),(87,UG),(88,UF (pIi Xr.1))],[(big,UG),(0,UG),(1,UG),(9001,UG),(9002,UG),(9003,UG),(9004,UG),(9005,UF (.mp (cC Xr.2) (lA Xr.2))),(9006,UF (.mp (cC Xr.2) (gvsV Xr.2)))])) 2
  (I:=λXr=>Xr.1<=I.length/\Xr.2=foldE (lf v) v K E ((I.take Xr.1).flatMap F)) (μ:=λXr=>I.length-Xr.1) (x0:=(0,E)) (Tk (aS O) (aO Xk) O O) (⟨aJ _,O⟩) ?_
 rintro⟨i,E'⟩ ⟨hi,hE'⟩;try simp only at hi hE' ⊢
 refine Z1 O<|Gp O (λhc89=>?_) (λhc89=>?_)
 .have hlt:i<I.length:=Xj;have hrow:=Mh hlt;have hne:=O2 hlt;have ad:=aq hlt;have hsp:I.flatMap F=(I.take (i+1)).flatMap F++(I.drop (i+1)).flatMap F:=by rw[<-Us,Ug]
  have B:foldE (lf v) v K E ((I.take (i+1)).flatMap F)=foldE (lf v) v K E' (F I[i]):=by rw[AI hlt,Us,ru,<-hE'];simp
  have af:((foldE (lf v) v K E' (F I[i])).length:Int)<=left:=by
   rw[hsp,ru,B]at hl;have:=xc (lf:=lf v) (v:=v) (K:=K) ((I.drop (i+1)).flatMap F) (foldE (lf v) v K E' (F I[i]));omega
  have H:jt Gv.w (foldE (lf v) v K E' (F I[i]))<=10^45:=by
   rw[hsp,ru,B]at hw;exact AS (CH JY _ _) hw
  have hEI:∀e∈E',EI Q X K e:=by
   rw[hE'];exact O5 h.lfx _ (λl hl=>U l (by rw[<-Ug i I,Us];exact Wg _ hl)) hc.E
  obtain⟨hig,hin,hiv⟩:=hxI _ ad;have V:=hw' _ ad;have hik:=hk' _ ad;rw[hFi]at B af H;generalize I[i]=it at*;have W:=IK x A it.v n h.n0 (AS h.n1 Xl) hc.cx.v hc.cx.s Xj hiv.len ha';have hmu:=vG hc.cg.s hig.s (AS Z tv) (AS V Kq) Xj Xj;refine Ti<|Gr O<|Rs O (ag i underlying179 Rz O O O hlt hne)<|Rs O (aG ⟨_,underlying183,O⟩ Rz O hrow O)<|Y2 O ?_;by_cases hag:EP x A it.v=VA
  .rw[Hs,By hag]at W;rw[By hag]at B af H;have hgo:=hrec (ko x A it.v) (g.mul it.g) E' ⟨GP hiv hc.cx,hc.cg.mul hig,Uy hc.gn hin,by rw[Um];exact Uy hc.gw V,by show g.k+it.g.k<=_;omega,hEI⟩ af H;generalize ko x A it.v=y at*;generalize foldE (lf v) v K E' (leaves (ps.drop (k+1)) y (g.mul it.g))=E2 at*;clear hw H Z V;refine UB 15 O<|Dr 3 O<|TR O (λτ h=>ag k underlying171 LR (Ee h 0 O O) (Ee h 1 O O) O J G)<|D1 O<|TR O (λτ h=>az ⟨_,underlying22,O⟩ (Ee h 0 O O) ab)<|Dr 2 O<|TR O (λτ h=>aa call83 W (h.aD O))<|Dr 6 O ?_;refine⟨Xk,?_⟩;refine UB 13 O<|Dr 9 O<|Dg [] O (λτ h=>aa call42 hmu (h.aD O)) O Xk<|Dg [big,9001,9002,9003,9004,9005,9006] O (λτ h=>mT (vs:=[pIi ((k:Int)+1),.pv (R7 y),.pv (momP (Mm.Sem.mul g.m it.g.m))]) [big,9001,9002,9003,9004,9005,9006] 4 ac hgo (Ee h 0 O O) (h.Qt.trans O) O O O O ⟨(Eo h 0 O O),(Eo h 1 O O),(Eo h 2 O O),(Eo h 3 O O),(Eo h 4 O O),(Eo h 5 O O),(Eo h 6 O O),Xq⟩ Xl O) O Xk<|Dr 2 O ?_;refine⟨Xk,?_⟩;refine Gc O (λu=>absurd u Xl) (λu=>?_);exact Ti<|Z2 O<|⟨(i+1,E2),Tk (aS O) (aO Xk) O O,⟨Xp,by simp only;exact B.symm⟩,Xp⟩
  rw[Hs,sh hag]at W;rw[sh hag]at B;clear hw H Z V;refine UB 15 O<|Dr 3 O<|TR O (λτ h=>ag k underlying171 LR (Ee h 0 O O) (Ee h 1 O O) O J G)<|D1 O<|TR O (λτ h=>az ⟨_,underlying22,O⟩ (Ee h 0 O O) ab)<|Dr 2 O<|TR O (λτ h=>aa call83 W (h.aD O))<|Dr 6 O ?_;refine⟨Xk,?_⟩;refine UB 13 O<|Dr 13 O ?_;refine⟨Xk,?_⟩;refine Gc O (λu=>absurd u Xl) (λu=>?_);exact Ti<|Z2 O<|⟨(i+1,E'),Tk (aS O) (aO Xk) O O,⟨Xp,by simp only;exact B.symm⟩,Xp⟩
 have hie:I.take i=I:=aH Xj;rw[hie]at hE';rw[<-hE'];exact Gx O<|Z1 O<|Gt O<|⟨[(11,.pv (.bool VA))],viO S D T n left vs ps v E',[.pv (.bool VA)],Tk (aS O) (aO Xk) O O,O,O,O,O,O⟩
theorem A6(h:BC S D n v K Q X lf ps):∀(d k:Nat),k+d=ps.length->∀(x:Ch)(g:Gv)(E:List En),CI n Q X K k x g E->((foldE (lf v) v K E (leaves (ps.drop k) x g)).length:Int)<=left->jt Gv.w (foldE (lf v) v K E (leaves (ps.drop k) x g))<=10^45->
  FnO prog 79 7 0 (viA ps v k x g) (viO S D T n left vs ps v E) (λr ob'=>r= .pv (.bool VA)/\ob'=aB (viO S D T n left vs ps v (foldE (lf v) v K E (leaves (ps.drop k) x g))))
 | 0,k,hk,x,g,E,hc,hl,hw=>by
   obtain rfl:k=ps.length:=Xj;rw[List.drop_length]at hl hw ⊢;exact LF h x g E hc hl hw
 | d+1,k,hk,x,g,E,hc,hl,hw=>Ky h k Xj x g E hc (λy g' E' hc' hl' hw'=>by
   have:=A6 h d (k+1) Xj y g' E' hc' hl' hw';exact this) hl hw
end
end
end Go.Proofs.YtkkenamefaegfaaGreatDoor
