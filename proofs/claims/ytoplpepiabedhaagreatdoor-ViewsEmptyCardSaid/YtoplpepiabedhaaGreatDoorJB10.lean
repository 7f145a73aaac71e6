/- Lemmas. No condition. -/
import Derived.RangeFuncIn
import Derived.RangeFuncCalls
import Derived.RangeFuncLeaves
import Derived.RangeFuncSeq
import Derived.Sort.MapsRangeIn
import Derived.RangeFuncGives
import Derived.RangeFuncKeeps
import Derived.RangeFuncBox
import Derived.Shelf.Abstract
import Derived.OwnWalkIn
import Derived.TacticsInMore
import Derived.LoopNIn
import Derived.LoopIn
import Derived.RegionIn
import Derived.RangeFuncRecord
import Derived.Test.YtoplpepiabedhaaGreatDoorJB9
set_option maxRecDepth 100000
set_option maxHeartbeats 4000000
open Go.RowKit Go.Proofs.Tryz
namespace Go.Proofs.YtoplpepiabedhaaGreatDoor
section
open Go.RowKit Mm
namespace Mm
theorem MOk.msm{W k:Nat}{m:MC}(h:MOk W k m)(hW:W<=10^50)(hk:k<=50):MSm m:=by
 have h1:(10:Nat)^50<=smB:=by decide+kernel
 have h2:3*50*10^50<=smB:=by decide+kernel
 have h3:9*50*50*10^50<=smB:=by decide+kernel
 exact⟨h.ci,h.s,h.p,h.po,h.cb.up (IS hW h1),fun e he=>(h.sb e he).up (IS (Qc (P8 3 hk) hW) h2),
  fun e he=>(h.pb e he).up (IS (Qc (Qc (P8 9 hk) hk) hW) h3)⟩
section
variable {K:Type}[BEq K][LawfulBEq K]
theorem Inc.go{D:Int}{b w:List (K×Rat)}{q:Rat}(hi:∀e∈w,db D (e.2*q)):∀{todo acc:List (K×Rat)},Inc D b w q todo acc->∃acc',Inc D b w q [] acc'
 |[],acc,h=>⟨acc,h⟩
 |e::t,acc,h=>Inc.go hi (todo:=t) (Inc.step (l1:=[]) h (hi e (h.mem Tw)))
end
theorem CrsI.go{b:List (PP×Rat)}{ws dP:List (Par×Rat)}{p:Par}{x:Rat}(hw:LOk 6 ws)(hx:db 6 x):∀{todo:List (Par×Rat)}{acc:List (PP×Rat)},CrsI b ws dP p x todo acc->∃acc',CrsI b ws dP p x [] acc'
 |[],acc,h=>⟨acc,h⟩
 | e::t,acc,h=>by
   have hz:db 36 (x*e.2):=hx.mul (hw.it e (h.mem Tw));have hi:db 36 (ctr p x e).2:=by
    simp only[ctr];split
    ·exact hz.add hz
    ·exact hz
   exact CrsI.go hw hx (todo:=t) (CrsI.step (l1:=[]) h hi)
theorem CrsO.go{b:List (PP×Rat)}{ws vs:List (Par×Rat)}(hw:LOk 6 ws)(hv:LOk 6 vs):∀{todo:List (Par×Rat)}{acc:List (PP×Rat)},CrsO b ws vs todo acc->∃acc',CrsO b ws vs [] acc'
 |[],acc,h=>⟨acc,h⟩
 | e::t,acc,h=>by
   obtain⟨d,h1,h2⟩:=CrsO.into (l1:=[]) h;obtain⟨acc2,h3⟩:=CrsI.go hw (hv.it e (h.mem Tw)) h2;exact CrsO.go hw hv (todo:=t) (CrsI.out (l1:=[]) h1 h3)
theorem SOk.add{W W' k:Nat}{x y:Sem}(hx:SOk W k x)(hy:SOk W' k y):SOk (W+W') k (Sem.add x y):=by
 obtain⟨v,hv,rfl⟩:=hx;obtain⟨w,hw,rfl⟩:=hy;have h1:∀z:Rat,z*(1:Rat)=z:=Rat.mul_one;obtain⟨s,hs⟩:=Inc.go (fun e he=>by rw[h1];exact hw.s.it e he) (Inc.start hv.s w.s 1);obtain⟨p,hp⟩:=Inc.go (fun e he=>by rw[h1];exact hw.p.it e he) (Inc.start hv.p w.p 1);obtain⟨e,h⟩:=MOk.add hv hw (m:=⟨v.c+w.c,s,p⟩) O hs.ok hp.ok (hp.po hv.po hw.po) (fun x=>by rw[hs.end,h1]) (fun x=>by rw[hp.end,h1]);exact⟨_,h,e⟩
theorem SOk.mul{W W' k k':Nat}{x y:Sem}(hx:SOk W k x)(hy:SOk W' k' y):SOk (W*W') (k+k') (Sem.mul x y):=by
 obtain⟨v,hv,rfl⟩:=hx;obtain⟨w,hw,rfl⟩:=hy;obtain⟨s1,hs1⟩:=Inc.go (fun e he=>(hw.s.it e he).F9 hv.ci) (Inc.start (LOk.nil 6) w.s v.c);obtain⟨s,hs⟩:=Inc.go (fun e he=>(hv.s.it e he).F9 hw.ci) (Inc.start hs1.ok v.s w.c);obtain⟨p1,hp1⟩:=Inc.go (fun e he=>(hw.p.it e he).F9 hv.ci) (Inc.start (LOk.nil 36) w.p v.c);have ho1:=hp1.po (fun _ h=>absurd h Tw) hw.po;obtain⟨p2,hp2⟩:=Inc.go (fun e he=>(hv.p.it e he).F9 hw.ci) (Inc.start hp1.ok v.p w.c);have ho2:=hp2.po ho1 hv.po;obtain⟨p,hp⟩:=CrsO.go hw.s hv.s (CrsO.start hp2.ok ho2);obtain⟨e,h⟩:=MOk.mul hv hw (m:=⟨v.c*w.c,s,p⟩) O hs.ok hp.ok hp.po (fun x=>by rw[hs.end,hs1.end];simp only[lk];grind) (fun x y=>by rw[hp.end,hp2.end,hp1.end];simp only[lk];grind);exact⟨_,h,e⟩
def cnt(n:Int):Sem:=⟨(n:Rat),fun _=>0,fun _ _=>0⟩
theorem Db(n:Nat):MOk n 0 ⟨((n:Int):Rat),[],[]⟩:=
 ⟨⟨n,O⟩,LOk.nil 6,LOk.nil 36,fun _ h=>absurd h Tw,⟨by have:(0:Rat)<=(n:Rat):=Rat.natCast_le_natCast.2 (cd n);show-(n:Rat)<=(n:Rat);grind,Rat.le_refl⟩,fun _ h=>absurd h Tw,fun _ h=>absurd h Tw⟩
theorem kU(n:Nat):SOk n 0 (cnt n):=⟨_,Db n,O⟩
theorem xx(n:Nat):cn (cnt n)=⟨((n:Int):Rat),[],[]⟩:=L3 (Db n) List.Pairwise.nil List.Pairwise.nil
open Classical in
noncomputable def lft(p:Par)(x:Rat):Sem:=⟨1,fun q=>if q=p then x else 0,fun a b=>if a=p/\b=p then x*x else 0⟩
open Classical in
noncomputable def mcOne(p:Par)(x:Rat):MC:=⟨((1:Int):Rat),if x=0 then []else [(p,x)],if x=0 then []else [((p,p),x*x)]⟩
theorem J3{x:Rat}(h:x*x=0):x=0:=by
 rcases Rat.mul_eq_zero.1 h with h|h<;>exact h
open Classical in
theorem vq(p:Par)(x:Rat)(hi:db 6 x)(hb:a6 3 x):MOk 1 1 (mcOne p x)/\(mcOne p x).sem=lft p x/\Asc cq (mcOne p x).s/\Asc dz (mcOne p x).p:=by
 have hc:a6 1 ((1:Int):Rat):=⟨by decide+kernel,by decide+kernel⟩;have hpp:cq p p=0:=eP.2 O;by_cases h:x=0
 ·have e:mcOne p x=⟨((1:Int):Rat),[],[]⟩:=by rw[mcOne,AT h,AT h]
  rw[e];refine⟨⟨⟨1,O⟩,LOk.nil 6,LOk.nil 36,fun _ h=>absurd h Tw,hc,fun _ h=>absurd h Tw,fun _ h=>absurd h Tw⟩,Sem.same O (fun q=>?_) (fun a b=>?_),List.Pairwise.nil,List.Pairwise.nil⟩
  ·show(0:Rat)=if q=p then x else 0
   split
   ·exact h.symm
   ·rfl
  ·show(0:Rat)=if a=p/\b=p then x*x else 0
   split
   ·rw[h,Rat.zero_mul]
   ·rfl
 ·have e:mcOne p x=⟨((1:Int):Rat),[(p,x)],[((p,p),x*x)]⟩:=by rw[mcOne,dw h,dw h]
  rw[e];refine⟨⟨⟨1,O⟩,⟨Tw,by simpa using h,by simpa using hi⟩,⟨Tw,?_,?_⟩,?_,hc,?_,?_⟩,Sem.same O (fun q=>?_) (fun a b=>?_),Tw,Tw⟩
  ·intro e he;simp at he;subst he;exact fun h0=>h (J3 h0)
  ·intro e he;simp at he;subst he;exact hi.mul hi
  ·intro e he;simp at he;subst he;simp only;omega
  ·intro e he;simp at he;subst he;exact hb
  ·intro e he;simp at he;subst he;exact hb.mul hb
  ·show(if p==q then x else 0)+(0:Rat)=if q=p then x else 0
   rw[S7];by_cases hq:q=p
   ·subst hq;simp
   ·rw[dw hq,dw (by simpa using Ne.symm hq)]
  ·show(if(p,p)==dO a b then x*x else 0)+(0:Rat)=if a=p/\b=p then x*x else 0
   rw[S7];by_cases hq:a=p/\b=p
   ·obtain⟨rfl,rfl⟩:=hq;rw[eM Ts];simp
   ·rw[dw hq,dw];intro h2;have h3:=eq_of_beq h2;rw[<-eM (show cq p p<=0 by omega)]at h3;rcases y8 h3 with⟨h4,h5⟩|⟨h4,h5⟩
    ·exact hq ⟨h4.symm,h5.symm⟩
    ·exact hq ⟨h5.symm,h4.symm⟩
theorem C9(p:Par)(x:Rat)(hi:db 6 x)(hb:a6 3 x):SOk 1 1 (lft p x):=⟨_,(vq p x hi hb).1,(vq p x hi hb).2.1⟩
theorem Om(p:Par)(x:Rat)(hi:db 6 x)(hb:a6 3 x):cn (lft p x)=mcOne p x:=by
 obtain⟨h1,h2,h3,h4⟩:=vq p x hi hb;rw[<-h2];exact L3 h1 h3 h4
end Mm
theorem Fy{W k:Nat}{m:MC}(h:MOk W k m)(hs:Mm.Asc cq m.s)(hp:Mm.Asc dz m.p):momP m.sem=mcP m:=by
 show mcP (cn m.sem)=mcP m;rw[L3 h hs hp]
theorem Ke{W W' k:Nat}{x y:Mm.Sem}(hx:SOk W k x)(hy:SOk W' k y)(hW:W<=10^50)(hW':W'<=10^50)(hk:k<=50):FnP prog 177 [momP x,momP y] (· =momP (Mm.Sem.add x y)):=by
 obtain⟨mx,ex,_,_⟩:=hx.cn;obtain⟨my,ey,_,_⟩:=hy.cn;refine(Bv (cn x) (cn y) (mx.msm hW hk) (my.msm hW' hk)).mono ?_;rintro r ⟨m,hR,rfl⟩;obtain⟨e,hm⟩:=MOk.add mx my hR.c hR.s hR.p hR.po hR.es hR.ep;rw[ex,ey]at e;rw[<-e];exact(Fy hm hR.sa hR.pa).symm
theorem rf{W W' k k':Nat}{x y:Mm.Sem}(hx:SOk W k x)(hy:SOk W' k' y)(hW:W<=10^50)(hW':W'<=10^50)(hk:k<=50)(hk':k'<=50):FnP prog 56 [momP x,momP y] (· =momP (Mm.Sem.mul x y)):=by
 obtain⟨mx,ex,_,_⟩:=hx.cn;obtain⟨my,ey,_,_⟩:=hy.cn;refine(Ce (cn x) (cn y) (mx.msm hW hk) (my.msm hW' hk')).mono ?_;rintro r ⟨m,hR,rfl⟩;obtain⟨e,hm⟩:=MOk.mul mx my hR.c hR.s hR.p hR.po hR.es hR.ep;rw[ex,ey]at e;rw[<-e];exact(Fy hm hR.sa hR.pa).symm
theorem ka(n:Nat)(h1:n<=9223372036854775807):FnP prog 54 [.int .i64 n] (· =momP (cnt n)):=by
 have h:=we (n:Int) Ts Ts;rw[show mcP (mcW (n:Int))=momP (cnt n) by show mcP ⟨((n:Int):Rat),[],[]⟩=mcP (cn (cnt n));rw[xx]]at h;exact h
theorem Gi(p:Par)(x:Rat)(hx:FOk x):FnP prog 202 [cP p,frP x] (· =mcP (mcOne p x)):=by
 refine FnP.ofC func202 O ntmps202 Tw fun m0 w0 F R0=>?_
 have hwh:=jk 1 Tu Tu;have hs:=eh x;have hm:=fT x x hx hx;have hz:(x.num.sign==0)=decide (x=0):=fV;refine Z3 O O O O<|Gr O<|Rs 6 O O (bo [] 3 call54 hwh O O O O trivial Tu O)<|Y2 O O<|Z1 O O<|Rs 8 O O (aa call203 hs O)<|A1 O ?_;refine Gc O O (fun hc9=>?_) (fun hc9=>?_)
 ·have h0:¬x=0:=by have h1:(x.num.sign !=0)=true:=hc9;rw[bne,hz]at h1;simpa using h1
  have e:mcOne p x=⟨((1:Int):Rat),[(p,x)],[((p,p),x*x)]⟩:=by rw[mcOne,dw h0,dw h0]
  refine Z4 O O O O O<|RL.step (d:=none) O O (bW jT underlying117 O O O O ⟨p,O⟩ (r:=none) O O O)<|Ge O follows [0,1,2,3,4,5,6,7,8] Tt ?_;iterate 7 refine D1 O O ?_
  refine Ds 21 [] O O O (fun τ h=>aa call139 hm (h.aL O)) O Tt<|DL.step (d:=none) [4] O O O (fun τ h=>bW qN underlying118 (Ee h 0 O O) (Eo h 0 O O) (Ee h 1 O O) (Ee h 2 O O) ⟨(p,p),O⟩ (r:=none) O O O) O Tt ?_;refine⟨Tt,?_⟩;exact OT (St.cX (ks:=[cP p]) (vs:=[frP x]) 3 Tt O (PY _))<|OT (St.cX (ks:=[ppP (p,p)]) (vs:=[frP (x*x)]) 4 Tt O (PY _))<|Z2 O O O<|Gt O<|⟨_,_,O,O,⟨az ⟨_,underlying120,O⟩ jD O O O,TB⟩,by rw[e];rfl⟩
 ·have h0:x=0:=by have h1:(x.num.sign !=0)=false:=hc9;rw[bne,hz]at h1;simpa using h1
  have e:mcOne p x=⟨((1:Int):Rat),[],[]⟩:=by rw[mcOne,AT h0,AT h0]
  exact OR<|OT (St.cX (ks:=[]) (vs:=[]) 3 Tt O (PY _))<|OT (St.cX (ks:=[]) (vs:=[]) 4 Tt O (PY _))<|Z2 O O O<|Gt O<|⟨_,_,O,O,⟨az ⟨_,underlying120,O⟩ jD O O O,TB⟩,by rw[e];rfl⟩
theorem BO(p:Par)(x:Rat)(hi:db 6 x)(hb:a6 3 x):FnP prog 202 [cP p,frP x] (· =momP (lft p x)):=by
 have h:=Gi p x (cT hi.MW hb (by decide+kernel));rw[<-Om p x hi hb]at h;exact h
end
section
def Pb(l:List Nat):List PV:=l.map fun(n:Nat)=>PV.int .i64 (n:Int)
theorem Pa(l:List Nat):(Pb l).length=l.length:=by simp[Pb]
theorem limI_snoc(l:List Nat)(n:Nat):Pb l++[.int .i64 (n:Int)]=Pb (l++[n]):=by simp[Pb]
attribute [simp] Pa
theorem Ii(n:Int):sgn (decide (n<0)) n.natAbs=n:=by
 by_cases h:n<0
 ·rw[Pn h];simp[sgn];omega
 ·rw[Pt h];simp[sgn];omega
end
section
def intI(l:List Int):List PV:=l.map fun(n:Int)=>PV.int .i64 n
theorem F8(l:List Int):(intI l).length=l.length:=by simp[intI]
theorem intI_nat(l:List Nat):Pb l=intI (l.map Int.ofNat):=by simp[intI,Pb]
attribute [simp] F8
end

section
def FK(n:Nat):Nat:=(Lib.decDigits n).length
theorem Cv{n:Nat}(h:10<=n):FK n=FK (n/10)+1:=by
 rw[FK,FK,Lib.decDigits,dif_neg Ts];simp
theorem k6{n:Nat}(h:n<10):FK n=1:=by rw[FK,Lib.decDigits,dif_pos h];rfl
theorem Lg{n k:Nat}(hk:0<k)(h:n<10^k):FK n<=k:=by
 induction k generalizing n with
 |zero=>omega
 | succ k ih=>
   by_cases h2:n<10
   ·rw[k6 h2];omega
   ·rw[Cv Ts];have hk0:0<k:=by
     rcases Qj k with e|e
     ·subst e;simp at h;omega
     ·exact e
    have:=ih hk0 (n:=n/10) (by rw[Nat.div_lt_iff_lt_mul Tu];rw[Rq]at h;exact h);omega
end
section
open Mk
def leD:Nat->Nat->List UInt8
 |0,_=>[]
 |k+1,n=>UInt8.ofNat (48+n%10)::leD k (n/10)
theorem leD_len:∀(k n:Nat),(leD k n).length=k
 |0,_=>rfl
 |k+1,n=>by simp[leD,leD_len k]
attribute [simp] leD_len
theorem bytesP_len(l:List UInt8):(aN l).length=l.length:=by simp[aN]
attribute [simp] bytesP_len
theorem im(z:Int):Lib.itoa z=(if z<0 then [45]else [])++Lib.decDigits z.natAbs:=by
 unfold Lib.itoa;split
 ·rfl
 ·rw[show z.toNat=z.natAbs by omega];rfl
theorem sM:Lib.itoa 0=[48]:=by
 rw[im,dw Tu,Int.natAbs_zero,Lib.decDigits,dif_pos Tu];rfl
def MU(n:Nat):Bool:=decide (400<FK n)
end

section
open Mk
theorem C0(l:List UInt8)(c:UInt8):jK (l++[c])=jK l*10+(c.toNat-48):=by simp[jK]
end

section
open Mk
def gv(n:Int):ByteArray:=⟨(Lib.itoa n).toArray⟩
theorem qE(n:Nat):jK (Lib.decDigits n)=n:=by
 induction n using Nat.strongRecOn with
 | ind n ih=>
   by_cases h:n<10
   ·rw[Lib.decDigits,dif_pos h];simp[jK];omega
   ·rw[Lib.decDigits,dif_neg h,C0,ih _ Ts];simp;omega
theorem mJ(n:Nat):∀c∈Lib.decDigits n,l8 c=true:=by
 induction n using Nat.strongRecOn with
 | ind n ih=>
   intro c hc;have key:∀d,d<10->l8 (UInt8.ofNat (48+d))=true:=fun d hd=>by simp[l8];omega
   by_cases h:n<10
   ·rw[Lib.decDigits,dif_pos h,OF]at hc;rw[hc];exact key n h
   ·rw[Lib.decDigits,dif_neg h]at hc;rcases Pq.1 hc with e|e
    ·exact ih _ Ts c e
    ·rw[OF]at e;rw[e];exact key _ (Rb _ Tu)
theorem D8{a b:Nat}(h:Lib.decDigits a=Lib.decDigits b):a=b:=by rw[<-qE a,h,qE]
theorem Jk(n:Nat):Lib.decDigits n≠[]:=by rw[Lib.decDigits];split<;>simp
theorem Ho{a b:Int}(h:Lib.itoa a=Lib.itoa b):a=b:=by
 have key:∀(n:Nat)(l:List UInt8),Lib.decDigits n≠45::l:=fun n l e=>by
  have:=mJ n 45 (by rw[e];simp);cases this
 rw[im,im]at h;by_cases ha:a<0<;>by_cases hb:b<0
 ·rw[AT ha,AT hb]at h;have:=D8 (List.append_cancel_left h);omega
 ·rw[AT ha,dw hb]at h;exact absurd h.symm (key _ _)
 ·rw[dw ha,AT hb]at h;exact absurd h (key _ _)
 ·rw[dw ha,dw hb]at h;have:=D8 (List.append_cancel_left h);omega
def fL(q:Rat):ByteArray:=if q.den=1 then gv q.num else(gv q.num++⟨#[47]⟩)++gv q.den
end
section
open Mk
theorem IG{s:ByteArray}(h:Lib.indexByte s.data.toList 47= -1):oQ s=s/\bY s=false:=by
 have e:Lib.index s.data.toList [47]= -1:=by rw[Lib.index_one];exact h
 have hc:Lib.cut s.data.toList [47]=(s.data.toList,[],false):=by rw[Lib.cut,e,dw Ts]
 exact⟨by rw[oQ,hc],by rw[bY,hc]⟩
theorem Hu{l:List UInt8}{k:Nat}(hk:k<l.length)(h1:∀j,j<k->l.getD j 0≠47)(h2:l.getD k 0=47):Lib.indexByte l 47=(k:Int):=by
 rw[<-Lib.index_one];have occ:∀j,Lib.occAt l [47] j=(decide (j<l.length)&&(l.getD j 0==47)):=fun j=>by
  rw[Lib.occAt];by_cases hj:j<l.length
  ·rw[PC hj];simp[List.isPrefixOf,List.getD,hj,Bool.beq_comm]
  ·rw[RN Ts];simp[List.isPrefixOf,hj]
 refine Lib.index_first Ts ?_ fun j hj=>?_
 ·rw[occ,h2];simp[hk]
 ·rw[occ];simp;intro _ e;exact absurd e (by simpa[List.getD]using h1 j hj)
theorem Iw{l:List UInt8}(h:∀j,j<l.length->l.getD j 0≠47):Lib.indexByte l 47= -1:=by
 rcases Int.lt_or_le (Lib.indexByte l 47) 0 with e|e
 ·have:=Lib.indexByte_ge l 47;omega
 ·obtain⟨i,hi⟩:=Bb e;have h1:=(Lib.indexByte_some hi).1;obtain⟨hlt,h2⟩:=Pf.1 h1;exact absurd (by simp[List.getD,hlt,h2]) (h i hlt)
end
section
open Mk
def gj(l:List Trm):List PV:=l.flatMap trmC
def gm(l:List Prr):List PV:=l.flatMap prrC
theorem nX(l:List Trm):(gj l).length=l.length*3:=bV _ 3 (fun _=>rfl) l
theorem mT(l:List Prr):(gm l).length=l.length*5:=bV _ 5 (fun _=>rfl) l
theorem Lm{l:List Trm}{k:Nat}(h:k<l.length):((gj l).drop (k*3)).take 3=trmC l[k]:=cm _ 3 (fun _=>rfl) l k h
theorem MH{l:List Prr}{k:Nat}(h:k<l.length):((gm l).drop (k*5)).take 5=prrC l[k]:=cm _ 5 (fun _=>rfl) l k h
theorem Ni{l:List Trm}{k:Nat}(h:k<l.length):gj l≠[]:=fun e=>by have:=nX l;rw[e]at this;simp at this;omega
theorem OA{l:List Prr}{k:Nat}(h:k<l.length):gm l≠[]:=fun e=>by have:=mT l;rw[e]at this;simp at this;omega
end
section
open Mk
theorem oD(n:Int):ca (gv n)=Lib.decDigits n.natAbs/\zh (gv n)=decide (n<0):=by
 have e:(gv n).data.toList=(if n<0 then [45]else [])++Lib.decDigits n.natAbs:=im n;by_cases h:n<0
 ·rw[AT h]at e;have hp:Lib.hasPrefix (gv n).data.toList [45]=true:=by rw[e];rfl
  refine⟨by rw[ca,Lib.trimPrefix,AT hp,e];rfl,by rw[zh,hp,Pn h]⟩
 ·rw[dw h,Qa]at e;have hp:Lib.hasPrefix (gv n).data.toList [45]=false:=by
   rw[e,Lib.hasPrefix];cases hd:Lib.decDigits n.natAbs with
   |nil=>rfl
   | cons c l=>
     have:=mJ n.natAbs c (by rw[hd];simp);have hc:((45:UInt8)==c)=false:=by
      rw[Ql];intro e;rw[<-e]at this;cases this
     show((45:UInt8)==c&&List.isPrefixOf [] l)=false;rw[hc];rfl
  refine⟨by rw[ca,Lib.trimPrefix,dw (by rw[hp];decide),e],by rw[zh,hp,Pt h]⟩
theorem qB(n:Int):rdZ (gv n)=n:=by
 rw[rdZ,(oD n).1,(oD n).2,qE];exact Ii n
theorem Dp{n:Nat}(h:n≠0):(Lib.decDigits n).getD 0 0≠48:=by
 induction n using Nat.strongRecOn with
 | ind n ih=>
   by_cases h2:n<10
   ·rw[Lib.decDigits,dif_pos h2];intro e;have:=ag UInt8.toNat e;simp at this;omega
   ·rw[Lib.decDigits,dif_neg h2];have:=ih (n/10) Ts Ts;cases hd:Lib.decDigits (n/10)with
    |nil=>exact absurd hd (Jk _)
    |cons c l=>rw[hd]at this;simpa using this
theorem ox(n:Int):bd (gv n)= !MU n.natAbs:=by
 have hd:=oD n;by_cases h:n=0
 ·subst h;have e:(gv 0).toList=(⟨#[48]⟩:ByteArray).toList:=by rw[Lib.toList_data,Lib.toList_data];exact sM
  rw[bd,e];rw[show MU (0:Int).natAbs=false by rw[MU];simp[k6]];simp
 ·have hz:((gv n).toList==(⟨#[48]⟩:ByteArray).toList)=false:=by
   rw[Lib.toList_data,Lib.toList_data,Ql];intro e;exact h (Ho (e.trans sM.symm))
  have h1:(Lib.decDigits n.natAbs).isEmpty=false:=by
   cases e:Lib.decDigits n.natAbs with
   |nil=>exact absurd e (Jk _)
   |cons a l=>rfl
  have h2:((Lib.decDigits n.natAbs).getD 0 0 !=48)=true:=by
   rw[bne_iff_ne];exact Dp Ts
  have h3:(Lib.decDigits n.natAbs).all l8=true:=IN.2 (mJ _);rw[oM hz,sc,hd.1,h1,h2,h3,MU];rw[PA];simp[FK];exact⟨fun h=>Pt Ts,fun h=>by have:=Rc h;omega⟩
theorem zt(n:Int):∀c∈(gv n).data.toList,c=45\/l8 c=true:=fun c hc=>by
 have e:(gv n).data.toList=(if n<0 then [45]else [])++Lib.decDigits n.natAbs:=im n;rw[e]at hc;rcases Pq.1 hc with h|h
 ·split at h
  ·simp at h;exact .inl h
  ·simp at h
 ·exact .inr (mJ _ c h)
theorem Iv{c:UInt8}(h:c=45\/l8 c=true):c≠47:=by
 rcases h with rfl|h
 ·decide
 ·intro e;subst e;cases h
theorem EO{s:ByteArray}(h:∀c∈s.data.toList,c≠47):oQ s=s/\bY s=false/\lU s=⟨#[]⟩:=by
 have hn:Lib.indexByte s.data.toList 47= -1:=Iw fun j hj e=>h _ (ar hj) (by rw[Pk,By hj]at e;exact e)
 obtain⟨c1,c2⟩:=IG hn;refine⟨c1,c2,?_⟩;have e:Lib.index s.data.toList [47]= -1:=by rw[Lib.index_one];exact hn
 rw[lU,Lib.cut,e];rfl
theorem Cs{a b:ByteArray}(h:∀c∈a.data.toList,c≠47):oQ ((a++⟨#[47]⟩)++b)=a/\bY ((a++⟨#[47]⟩)++b)=true/\lU ((a++⟨#[47]⟩)++b)=b:=by
 have hl:((a++(⟨#[47]⟩:ByteArray))++b).data.toList=a.data.toList++47::b.data.toList:=Tw;have hi:Lib.indexByte ((a++(⟨#[47]⟩:ByteArray))++b).data.toList 47=(a.data.toList.length:Int):=by
  rw[hl];refine Hu Tw (fun j hj e=>?_) (by simp[List.getD]);simp only[List.getD,List.getElem?_append_left hj,By hj,Sc]at e;exact h _ (ar hj) e
 have e:Lib.index ((a++(⟨#[47]⟩:ByteArray))++b).data.toList [47]=(a.data.toList.length:Int):=by rw[Lib.index_one];exact hi
 have hc:Lib.cut ((a++(⟨#[47]⟩:ByteArray))++b).data.toList [47]=(a.data.toList,b.data.toList,true):=by
  rw[Lib.cut,e,AT Ts,hl];simp only[Pz,Prod.mk.injEq,and_true];refine⟨Tw,?_⟩;rw[show([47]:List UInt8).length=1 from O,List.drop_append];simp
 exact⟨by rw[oQ,hc],by rw[bY,hc],by rw[lU,hc]⟩
end
section
open Mk Jn
theorem oG(n:Nat)(h0:n≠0)(hn:n<1000000000)(hl:(Lib.decDigits n).length<=1000):FnP prog 99 [dF (-(n:Int))] (· = .str ⟨(45::Lib.decDigits n).toArray⟩):=by
 refine FnP.of func99 O ntmps99 Tw fun m0 w0 F R0=>?_
 have hz:decide (-(n:Int)<0)=true:=Pn Ts;have hfu:=gF n Ts;have hdp:=C4 n;have hlm:aj n=[n]:=by rw[aj,dw h0,show n/1000000000=0 by omega,bg,SP hn]
 rw[show dF (-(n:Int))= .agg [.bool true,.sl none 1 (bS [n])] by show PV.agg [.bool (decide (-(n:Int)<0)),bF ((-(n:Int)).natAbs)]=_;rw[hz,Int.natAbs_neg,Qo,bF,hlm];rfl];have hg0:(bS [n])[0]? =some (.int .u64 (n:Int)):=rfl;generalize hD:Lib.decDigits n=D at*;have hDn:D≠[]:=fun e=>by rw[e]at hdp;simp at hdp
 have hws:=pz ⟨#[45]⟩ Tu Tu;have hw2:=FA [45] ⟨D.toArray⟩ Tw (show [(45:UInt8)].length+D.length<=1000000000 by simp;omega);have hbs:=tc (45::D) Tw Tx;have hpos:(1:Int)>0:=Tu;refine Z2 O O O<|Z4 O O O O O ?_;refine Gc O O (fun hc=>absurd hc Tw) (fun hc=>?_);refine OR<|Z1 O O<|OT (St.c8 1 1 2 1 5 O O O)<|Z2 O O O ?_;refine Gc O O (fun hc=>?_) (fun hc=>absurd hc Tw);refine Gr O<|Rs 12 O O (bo [1,2] 3 call190 hws O O O O ⟨O,O,TB⟩ Tu O)<|Gr O ?_;iterate 5 refine A1 O ?_
 refine Gl O (st:=fun b:Bool=>bif b then mkS [(1,.ptr 0 0),(3,.ptr 1 0),(4,pIi 0)] [(0,.mix 114 [.pv (.bool true),.pv (.sl none 1 (bS [n]))]),(1,.mix 311 [.ptr 1 0,.gsl 2 1 1]),(2,.gro 5 (aN [45]))] 3 else mkS [(1,.ptr 0 0),(3,.ptr 1 0),(4,pIi (-1))] [(0,.mix 114 [.pv (.bool true),.pv (.sl none 1 (bS [n]))]),(1,.mix 311 [.ptr 1 0,.gsl 2 1 (45::D).length]),(2,.gro 5 (aN (45::D)))] 3)
  (I:=fun _=>True) (μ:=fun b=>bif b then 1 else 0) (x0:=true) (OV [0,1,3] (aT O) (aP Tt) O O Tu O) trivial ?_
 rintro(_|_) _
 ·simp only[PE];refine Z2 O O O ?_;refine Gp O O (fun hc=>absurd hc Tu) (fun hc=>?_);exact Gx O<|Gr O<|Rs 40 O O (bo [1,2] 3 call193 hbs O O O O ⟨O,O,TB⟩ Tu O)<|A1 O<|Gt O<|⟨_,_,O,O,O⟩
 ·simp only[Qd];refine Z2 O O O ?_;refine Gp O O (fun hc=>?_) (fun hc=>absurd hc Tu);refine OR<|Z3 O O O O<|Rs 24 O O (ae 0 underlying112 fN O O O Tu (by simp[bS]))<|Rs 25 O O (au ⟨_,underlying300,O⟩ O hg0)<|Rs 26 O O (aa call191 hfu O)<|A1 O<|Gr O ?_;iterate 6 refine A1 O ?_
  refine Gp O O (fun hc=>absurd hc Tw) (fun hc=>?_);exact OR<|Z1 O O<|Rs 39 O O (bo [1,2] 3 call190 hw2 O O O O ⟨O,O,TB⟩ Tu O)<|Z3 O O O O<|⟨false,OV [0,1,3] (aT O) (aP Tt) O O Tu O,TB,Tu⟩
theorem lJ{n:Nat}(h:n<1000000000):(Lib.decDigits n).length<=9:=Lg Tu Ts
theorem l7(n:Int):(gv n).size<=(Lib.decDigits n.natAbs).length+1:=by
 have h1:(gv n).size=(Lib.itoa n).length:=by simp[gv,ByteArray.size]
 rw[h1,im,Ph];split<;>simp<;>omega
theorem pB(z:Int)(hz:z.natAbs<1000000000):FnP prog 99 [dF z] (· = .str (gv z)):=by
 have hl:=lJ hz;by_cases h:z<0
 ·have hs:=oG z.natAbs Ts hz Ts;have e:gv z=⟨(45::Lib.decDigits z.natAbs).toArray⟩:=by rw[gv,im,AT h];rfl
  rw[show-((z.natAbs:Nat):Int)=z by omega,<-e]at hs;exact hs
 ·have hs:=pd z.natAbs hz Ts;have e:gv z=⟨(Lib.decDigits z.natAbs).toArray⟩:=by rw[gv,im,dw h];rfl
  rw[show((z.natAbs:Nat):Int)=z by omega,<-e]at hs;exact hs
structure F1(q:Rat):Prop where
 n:q.num.natAbs<1000000000
 d:q.den<31622
theorem F1.ok{q:Rat}(h:F1 q):FOk q:=⟨h.d,IS (MZ h.n) Tu⟩
theorem BU(q:Rat)(h:F1 q):FnP prog 207 [frP q] (· = .str (fL q)):=by
 refine FnP.of func207 O ntmps207 Tw fun m0 w0 F R0=>?_
 have hw:=gq q h.ok;have hs1:=pB q.num h.n;have hs2:=pB (q.den:Int) (by rw[Qo];have:=h.d;omega);have hz1:(gv q.num).size<=10:=by have:=l7 q.num;have:=lJ h.n;omega
 have hz2:(gv (q.den:Int)).size<=10:=by have h1:=l7 (q.den:Int);have h2:=lJ (n:=q.den) (by have:=h.d;omega);rw[Qo]at h1;omega
 have hz3:((gv q.num)++⟨#[47]⟩:ByteArray).size=(gv q.num).size+1:=ByteArray.size_append;refine Z2 O O O<|Z1 O O<|Rs 4 O O (aa call229 hw O) ?_;refine Gc O O (fun hc4=>?_) (fun hc4=>?_)
 ·have e:fL q=gv q.num:=AT (by simpa using hc4);exact Z2 O O O<|Rs 7 O O (aa call99 hs1 O)<|A1 O<|Gt O<|⟨_,_,O,O,by rw[e];rfl⟩
 ·have e:fL q=(gv q.num++⟨#[47]⟩)++gv (q.den:Int):=dw (by simpa using hc4);refine OR<|Ge O follows [0,1,2,3,4,5,6,7,8] Tt ?_;iterate 2 refine D1 O O ?_
  refine Ds 10 [] O O O (fun τ h=>aa call99 hs1 (h.aL O)) O Tt<|Ds 11 [] O O O (fun τ h=>y3 (Ee h 0 O O) (Ee h 1 O O) (by show(gv q.num).size+1<=_;omega)) O Tt ?_;iterate 2 refine D1 O O ?_
  refine Ds 14 [] O O O (fun τ h=>aa call99 hs2 (h.aL O)) O Tt<|Ds 15 [] O O O (fun τ h=>y3 (Ee h 0 O O) (Ee h 1 O O) (by rw[show((gv q.num)++⟨#[47]⟩:ByteArray).size=(gv q.num).size+1 from hz3];omega)) O Tt ?_;refine D1 O O ?_;refine⟨Tt,?_⟩;exact Gt O<|⟨_,_,O,O,by rw[e];rfl⟩
theorem lM(z:Int)(hz:z.natAbs<1000000000):FnP prog 206 [dF z] (· = .int .i64 ((Lib.decDigits z.natAbs).length:Nat)):=by
 refine FnP.of func206 O ntmps206 Tw fun m0 w0 F R0=>?_
 have hfu:=gF z.natAbs Ts;have hl:=lJ hz;by_cases h0:z.natAbs=0
 ·have hn:bF z.natAbs= .sl none 0 []:=by rw[h0];exact tL
  have h1:(Lib.decDigits z.natAbs).length=1:=by rw[h0];exact k6 Tu
  rw[show dF z= .agg [.bool (decide (z<0)),.sl none 0 []] by show PV.agg [.bool (decide (z<0)),bF z.natAbs]=_;rw[hn]];refine Z2 O O O<|Z4 O O O O O ?_;refine Gc O O (fun hc7=>?_) (fun hc7=>absurd hc7 Tw);exact Z1 O O<|Gt O<|⟨_,_,O,O,by rw[h1];rfl⟩
 ·have hlm:aj z.natAbs=[z.natAbs]:=eU h0 hz;have hn:bF z.natAbs= .sl none 1 [.int .u64 (z.natAbs:Int)]:=by rw[bF,hlm];rfl
  rw[show dF z= .agg [.bool (decide (z<0)),.sl none 1 [.int .u64 (z.natAbs:Int)]] by show PV.agg [.bool (decide (z<0)),bF z.natAbs]=_;rw[hn]];have hsz:(⟨(Lib.decDigits z.natAbs).toArray⟩:ByteArray).size=(Lib.decDigits z.natAbs).length:=by simp[ByteArray.size]
  generalize (Lib.decDigits z.natAbs)=D at*;refine Z2 O O O<|Z4 O O O O O ?_;refine Gc O O (fun hc7=>absurd hc7 Tw) (fun hc7=>?_);refine OR<|Gr O ?_;iterate 5 refine A1 O ?_
  refine Gr O ?_;iterate 5 refine A1 O ?_
  exact Rs 17 O O (ae 0 underlying112 fN O O O Tu Tw)<|Rs 18 O O (au ⟨_,underlying300,O⟩ O O)<|Rs 19 O O (aa call191 hfu O)<|Y3 O O O<|Gt O<|⟨_,_,O,O,by rw[show(⟨D.toArray⟩:ByteArray).size=D.length from hsz];show PV.int .i64 (0+(D.length:Int))=_;rw[Int.zero_add]⟩
theorem zn(q:Rat)(h:F1 q):FnP prog 126 [frP q] (· = .tup [.str (fL q),.int .i64 0]):=by
 refine FnP.of func126 O ntmps126 Tw fun m0 w0 F R0=>?_
 have hd1:=lM q.num h.n;have hd2:=lM (q.den:Int) (by rw[Qo];have:=h.d;omega);have hl1:=lJ h.n;have hl2:=lJ (n:=(q.den:Int).natAbs) (by rw[Qo];have:=h.d;omega);have hr:=BU q h;have e1:decide (((Lib.decDigits q.num.natAbs).length:Int)>400)=false:=Pt Ts;have e2:decide (((Lib.decDigits (q.den:Int).natAbs).length:Int)>400)=false:=Pt Ts;refine Z3 O O O O<|Z2 O O O<|Rs 6 O O (aa call206 hd1 O)<|Rs 7 O O (XJ.cast (v':= .pv (.bool false)) (aG O O O) (ag (fun b=>V.pv (.bool b)) e1))<|Y3 O O O<|Rg 11 O O O (aa call206 hd2 O)<|Rg 12 O O O (XJ.cast (v':= .pv (.bool false)) (aG O O O) (ag (fun b=>V.pv (.bool b)) e2))<|A1 O ?_;refine Gc O O (fun hc13=>absurd hc13 Tw) (fun hc13=>?_);exact OR<|Z1 O O<|Rs 15 O O (aa call207 hr O)<|Y2 O O<|Gt O<|⟨_,_,O,O,O⟩
structure QOk(s:ByteArray)(q:Rat):Prop where
 sz:s.size<4294967281
 n:bd (oQ s)=true/\rdZ (oQ s)=q.num
 d:if bY s=true then bd (lU s)=true/\rdZ (lU s)=(q.den:Int)else q.den=1
theorem fQ(s:ByteArray)(q:Rat)(h:QOk s q):FnP prog 143 [.str s] (· =frP q):=by
 refine FnP.ofC func143 O ntmps143 Tw fun m0 w0 F R0=>?_
 have hcut:=Br s ⟨#[47]⟩ h.sz;have hn:=ea (oQ s) (bT h.n.1).1 (by have:=(bT h.n.1).2;omega);rw[h.n.2]at hn;have hd:=h.d;refine Z1 O O<|Z1 O O<|Rs 8 O O (aa call232 hcut O) ?_;iterate 7 refine A1 O ?_
 refine Z2 O O O ?_;refine Gc O O (fun hc13=>?_) (fun hc13=>?_)
 ·have hs:bY s=false:=by have h9:(!bY s)=true:=hc13;simpa using h9
  rw[dw (by rw[hs];decide)]at hd;have hr:=ea FR (bT iV).1 (by have:=(bT iV).2;omega);rw[rI,show(1:Int)=((q.den:Nat):Int) by rw[hd];rfl]at hr;exact Z1 O O<|Z1 O O<|Rs 15 O O (aa call233 hn O)<|A1 O<|Rs 17 O O (aa call233 hr O)<|Y2 O O<|Gt O<|⟨_,_,O,O,⟨az ⟨_,underlying116,O⟩ oW O O O,TB⟩,O⟩
 ·have hs:bY s=true:=by have h9:(!bY s)=false:=hc13;simpa using h9
  rw[AT hs]at hd;have hr:=ea (lU s) (bT hd.1).1 (by have:=(bT hd.1).2;omega);rw[hd.2]at hr;exact OR<|Z1 O O<|Rs 15 O O (aa call233 hn O)<|A1 O<|Rs 17 O O (aa call233 hr O)<|Y2 O O<|Gt O<|⟨_,_,O,O,⟨az ⟨_,underlying116,O⟩ oW O O O,TB⟩,O⟩
theorem mq(q:Rat)(h:F1 q):QOk (fL q) q:=by
 have hl1:=lJ h.n;have hl2:=lJ (n:=q.den) (by have:=h.d;omega);have hz1:=l7 q.num;have hz2:=l7 (q.den:Int);rw[Qo]at hz2;have hb:∀n:Nat,(Lib.decDigits n).length<=9->MU n=false:=fun n hn=>by
  have:FK n<=9:=hn;unfold MU;exact Pt Ts
 have hv1:bd (gv q.num)=true:=by rw[ox,hb _ hl1];rfl
 have hv2:bd (gv (q.den:Int))=true:=by rw[ox,Qo,hb _ hl2];rfl
 have hcl:∀z:Int,∀c∈(gv z).data.toList,c≠47:=fun z c hc=>Iv (zt _ c hc)
 by_cases hd:q.den=1
 ·have e:fL q=gv q.num:=AT hd;obtain⟨c1,c2,c3⟩:=EO (hcl q.num);rw[e];refine⟨Ts,by rw[c1];exact⟨hv1,qB _⟩,?_⟩;rw[c2,dw Tu];exact hd
 ·have e:fL q=(gv q.num++⟨#[47]⟩)++gv (q.den:Int):=dw hd;obtain⟨c1,c2,c3⟩:=Cs (a:=gv q.num) (b:=gv (q.den:Int)) (hcl q.num);rw[e];refine⟨?_,by rw[c1];exact⟨hv1,qB _⟩,?_⟩
  ·rw[ByteArray.size_append,ByteArray.size_append];have:(⟨#[47]⟩:ByteArray).size=1:=rfl;omega
  ·rw[c2,AT O,c3];exact⟨hv2,qB _⟩
end
section
open Go.RowKit Mk Jn Mm
theorem yv{K:Type}[BEq K][LawfulBEq K]{f:K->PV}(hf:∀a b,keq (f a) (f b)=some (a==b)){l:List (K×Rat)}(hn:(l.map (·.1)).Nodup):vW (aD f l):=by
 unfold vW aD;rw[Q9];rw[List.Nodup,Q9]at hn;refine hn.imp fun{a b} hne=>?_
 rw[hf];cases h:a.1==b.1 with
 |false=>rfl
 |true=>exact absurd (eq_of_beq h) hne
theorem ui{K:Type}(f:K->PV)(l:List (K×Rat)):(aD f l).length=l.length:=by simp[aD]
def mcZ(m:MC):Bool:=(decide (m.c=0)&&decide (m.s.length=0))&&decide (m.p.length=0)
theorem Gz(m:MC)(hs:(m.s.map (·.1)).Nodup)(hp:(m.p.map (·.1)).Nodup):FnP prog 122 [mcP m] (· = .bool (mcZ m)):=by
 refine FnP.of func122 O ntmps122 Tw fun m0 w0 F R0=>?_
 have hsg:=eh m.c;have hz:(m.c.num.sign==0)=decide (m.c=0):=fV;have hks:=yv cM hs;have hkp:=yv eL hp;have l1:(((aD cP m.s).length:Int)==0)=decide (m.s.length=0):=by rw[ui,PA,Rk,Po];omega
 have l2:(((aD ppP m.p).length:Int)==0)=decide (m.p.length=0):=by rw[ui,PA,Rk,Po];omega
 by_cases hc:m.c=0
 ·rw[Pn hc]at hz;by_cases h1:m.s.length=0
  ·rw[Pn h1]at l1;refine Z2 O O O<|Z2 O O O<|Rs 5 O O (aa call203 hsg O)<|Rs 6 O O (XJ.cast (v':= .pv (.bool true)) (aG O O O) (ag (fun b=>V.pv (.bool b)) hz))<|Y3 O O O<|Rg 10 O O O (nC underlying117 (.inr (.inl ⟨O,hks⟩)))<|Rg 11 O O O (XJ.cast (v':= .pv (.bool true)) (aG O O O) (ag (fun b=>V.pv (.bool b)) l1)) ?_;iterate 4 refine A1 O ?_
   exact Rg 16 O O O (nC underlying118 (.inr (.inl ⟨O,hkp⟩)))<|Y3 O O O<|Gt O<|⟨_,_,O,O,ag PV.bool (by rw[mcZ,Pn hc,Pn h1];exact l2)⟩
  ·rw[Pt h1]at l1;refine Z2 O O O<|Z2 O O O<|Rs 5 O O (aa call203 hsg O)<|Rs 6 O O (XJ.cast (v':= .pv (.bool true)) (aG O O O) (ag (fun b=>V.pv (.bool b)) hz))<|Y3 O O O<|Rg 10 O O O (nC underlying117 (.inr (.inl ⟨O,hks⟩)))<|Rg 11 O O O (XJ.cast (v':= .pv (.bool false)) (aG O O O) (ag (fun b=>V.pv (.bool b)) l1)) ?_;iterate 8 refine A1 O ?_
   exact Gt O<|⟨_,_,O,O,ag PV.bool (by rw[mcZ,Pn hc,Pt h1];rfl)⟩
 ·rw[Pt hc]at hz;refine Z2 O O O<|Z2 O O O<|Rs 5 O O (aa call203 hsg O)<|Rs 6 O O (XJ.cast (v':= .pv (.bool false)) (aG O O O) (ag (fun b=>V.pv (.bool b)) hz)) ?_;iterate 13 refine A1 O ?_
  exact Gt O<|⟨_,_,O,O,ag PV.bool (by rw[mcZ,Pt hc];rfl)⟩
open Classical in
theorem M0{W k:Nat}{x:Mm.Sem}(hx:SOk W k x):FnP prog 122 [momP x] (· = .bool (decide (x=Mm.Sem.zero))):=by
 obtain⟨h1,h2,_,_⟩:=hx.cn;have h:=Gz (cn x) h1.s.nd h1.p.nd;have e:mcZ (cn x)=decide (x=Mm.Sem.zero):=by
  rw[PA,Po];constructor
  ·intro hz;simp only[mcZ,sh,Po]at hz;obtain⟨⟨h3,h4⟩,h5⟩:=hz;rw[<-h2];have e4:=SG.1 h4;have e5:=SG.1 h5;exact Sem.same h3 (fun x=>by show lk _ _=_;rw[e4];rfl) (fun x y=>by show lk _ _=_;rw[e5];rfl)
  ·rintro rfl;have h6:cn Mm.Sem.zero=⟨((0:Nat):Int),[],[]⟩:=xx 0;rw[h6];decide+kernel
 rw[e]at h;exact h
theorem zW(f:Int×Int×Int)(a:Int):FnP prog 201 [.agg (vl f),.rp [.int .i64 a] 0] (· = .bool (f.1==a)):=by
 refine FnP.of func201 O ntmps201 Tw fun m0 w0 F R0=>?_
 refine Z2 O O O<|Z2 O O O ?_;first|refine A1 O ?_|refine A2 O Tv ?_
 exact Y2 O O<|Gt O<|⟨_,_,O,O,O⟩
def He{α:Type}(p:α->Bool)(l:List α):Int:=match l.findIdx? p with|some i=>(i:Int)|none=> -1
theorem findIdx_take{α:Type}{l:List α}{p:α->Bool}{k:Nat}(hk:k<l.length)(h:(l.take k).any p=false)(hp:p l[k]=true):l.findIdx? p=some k:=by
 rw[Rj];refine⟨hk,hp,fun j hj=>?_⟩;have h2:=S9.1 h (l[j]'Ts) (QS.2 ⟨j,Ts,O⟩);simpa using h2
theorem Aw(l:List (Int×Int×Int))(g:FuncId)(caps:List PV)(p:Int×Int×Int->Bool)(hl:l.length<=1000000)(hc:cu prog g)(hg:∀f∈l,FnP prog g ([]++[.agg (vl f)]++caps) (· = .bool (p f))):
  FnP prog 200 [.sl none l.length (aC l),.fn (.func g) [] caps] (· = .int .i64 (He p l)):=by
 refine FnP.of func200 O ntmps200 Tw fun m0 w0 F R0=>?_
 refine Z1 O O<|Z3 O O O O ?_;refine Gl O (st:=fun TC:Nat=>mkS [(0,.pv (.sl none l.length (aC l))),(1,.pv (.fn (.func g) [] caps)),(7,pIi l.length),(8,pIi TC)] [] 0)
  (I:=fun TC=>TC<=l.length/\(l.take TC).any p=false) (μ:=fun TC=>l.length-TC) (x0:=(0)) (OU (aS O) trivial O O) (⟨cd _,O⟩) ?_
 rintro k ⟨hk,hno⟩;refine Z1 O O ?_;refine Gp O O (fun hc9=>?_) (fun hc9=>?_)
 ·have hlt:k<l.length:=Ts;have hrow:=jV hlt;have hne:=nH hlt;have hgk:=hg _ (ar hlt);refine OR<|Z2 O O O<|Z4 O O O O O<|Rs 15 O O (aR ⟨_,underlying164,O⟩ wz O hrow O)<|Rs 16 O O (gE hc O hgk O) ?_;refine Gc O O (fun hc16=>?_) (fun hc16=>?_)
  ·exact Z2 O O O<|Gt O<|⟨_,_,O,O,by rw[He,findIdx_take hlt hno hc16];rfl⟩
  ·exact OR<|Z2 O O O<|⟨(k+1),OU (aS O) trivial O O,⟨Ts,fr hlt hno hc16⟩,Ts⟩
 ·exact Gx O<|Z1 O O<|Gt O<|⟨_,_,O,O,by rw[aX Ts]at hno;rw[He,Sv.2 (fun x hx=>by have:=S9.1 hno x hx;simpa using this)];rfl⟩
open Classical in
noncomputable def liftS(q:ByteArray->Rat)(S:Sch)(a:Int)(v:ByteArray):Mm.Sem:=
 if a=S.label then(if v=⟨#[]⟩then cnt (0:Nat)else lft ⟨-1,⟨#[]⟩⟩ (q v))
 else match S.feats.findIdx? (fun f=>f.1==a)with
  |none=>cnt (1:Nat)
  |some i=>if(S.feats.getD i default).2.1=2 then lft ⟨i,v⟩ 1 else if v=⟨#[]⟩then(if(S.feats.getD i default).2.2=1 then cnt (0:Nat)else cnt (1:Nat))else lft ⟨i,⟨#[]⟩⟩ (q v)
structure VQ(q:ByteArray->Rat)(v:ByteArray):Prop where
 ok:QOk v (q v)
 i:db 6 (q v)
 b:a6 3 (q v)
theorem zx(v:ByteArray):(v.toList==(⟨#[]⟩:ByteArray).toList)=decide (v=⟨#[]⟩):=by
 rw[PA,Po,Rk];exact⟨bytes_inj,fun e=>by rw[e]⟩
theorem tg(q:ByteArray->Rat)(S:Sch)(a:Int)(v:ByteArray)(hl:S.feats.length<=1000000)(hq:v≠⟨#[]⟩->(a=S.label\/∃i,S.feats.findIdx? (fun f=>f.1==a)=some i/\(S.feats.getD i default).2.1≠2)->VQ q v):
  FnP prog 121 [eZ S,.int .i64 a,.str v] (· =momP (liftS q S a v)):=by
 refine FnP.ofC func121 O ntmps121 Tw fun m0 w0 F R0=>?_
 have hidx:=Aw S.feats 201 [.rp [.int .i64 a] 0] (fun f=>f.1==a) hl call201 (fun f _=>zW f a);have hw0:=ka 0 Tu;have hw1:=ka 1 Tu;have hof:=mw 1 Tu Tu;have he:=zx v;refine Z3 O O O O<|OT (St.iB 1 O O)<|Z3 O O O O<|Rs 12 O O (aa call200 hidx O)<|A1 O<|Gr O ?_;iterate 5 refine A1 O ?_
 apply O3 3 18 21 [19,20] O TE
 ·intro hb4;exact Y3 O O O<|OW TD O O O
 ·intro hb4;exact Y3 O O O<|OW TD O O O
 refine A1 O ?_;refine Gc O O (fun hc13=>?_) (fun hc13=>?_)
 ·have h21:a=S.label/\v=⟨#[]⟩:=by rw[he]at hc13;simpa using hc13
  have e:liftS q S a v=cnt (0:Nat):=by rw[liftS,AT h21.1,AT h21.2]
  exact Gr O<|Rs 22 O O (aa call54 hw0 O)<|A1 O<|Gt O<|⟨_,_,O,O,⟨az ⟨_,underlying120,O⟩ jD O O O,TB⟩,by rw[e];rfl⟩
 ·have h21:¬ (a=S.label/\v=⟨#[]⟩):=fun h=>by rw[he]at hc13;simp[h.1,h.2]at hc13
  refine Gr O ?_;iterate 5 refine A1 O ?_
  refine Gc O O (fun hc23=>?_) (fun hc23=>?_)
  ·have h27:a=S.label:=by simpa using hc23
   have hv:v≠⟨#[]⟩:=fun h=>h21 ⟨h27,h⟩
   have hV:=hq hv (.inl h27);have hrd:=fQ v (q v) hV.ok;have hon:=BO ⟨-1,⟨#[]⟩⟩ (q v) hV.i hV.b;have e:liftS q S a v=lft ⟨-1,⟨#[]⟩⟩ (q v):=by rw[liftS,AT h27,dw hv]
   exact Z2 O O O<|Rs 30 O O (aa call143 hrd O)<|Rs 31 O O (aa call202 hon O)<|A1 O<|Gt O<|⟨_,_,O,O,⟨az ⟨_,underlying120,O⟩ jD O O O,TB⟩,by rw[e];rfl⟩
  ·have h27:¬a=S.label:=by simpa using hc23
   refine Z3 O O O O ?_;refine Gp O O (fun hc32=>?_) (fun hc32=>?_)
   ·have h32:He (fun f=>f.1==a) S.feats<0:=by simpa using hc32
    have hf:S.feats.findIdx? (fun f=>f.1==a)=none:=by
     unfold He at h32;cases hx:S.feats.findIdx? (fun f=>f.1==a)with
     |none=>rfl
     |some i=>rw[hx]at h32;simp only at h32;omega
    have e:liftS q S a v=cnt (1:Nat):=by rw[liftS,dw h27,hf]
    exact Gr O<|Rs 35 O O (aa call54 hw1 O)<|A1 O<|Gt O<|⟨_,_,O,O,⟨az ⟨_,underlying120,O⟩ jD O O O,TB⟩,by rw[e];rfl⟩
   ·have h32:¬He (fun f=>f.1==a) S.feats<0:=by simpa using hc32
    obtain⟨i,hf⟩:∃i,S.feats.findIdx? (fun f=>f.1==a)=some i:=by
     unfold He at h32;cases hx:S.feats.findIdx? (fun f=>f.1==a)with
     |none=>rw[hx]at h32;simp only at h32;omega
     |some i=>exact⟨i,O⟩
    have hii:He (fun f=>f.1==a) S.feats=(i:Int):=by rw[He,hf]
    have hilt:i<S.feats.length:=(Rj.1 hf).1;have hrow:=jV hilt;have hne:=nH hilt;have hgd:S.feats.getD i default=S.feats[i]:=by simp[List.getD,hilt]
    have hof1:∀c,FnP prog 202 [cP ⟨(i:Int),c⟩,frP ((1:Int):Rat)] (· =momP (lft ⟨(i:Int),c⟩ 1)):=fun c=>BO ⟨i,c⟩ 1 (db.ofInt 6 1) ⟨by decide+kernel,by decide+kernel⟩
    refine OR ?_;rw[hii];refine Z3 O O O O<|Rs 39 O O (ae i underlying28 wz O O O hilt hne)<|Rs 40 O O (aR ⟨_,underlying164,O⟩ wz O hrow O)<|Y2 O O<|Z4 O O O O O ?_;refine Gc O O (fun hc41=>?_) (fun hc41=>?_)
    ·have h41:S.feats[i].2.1=2:=by simpa using hc41
     have e:liftS q S a v=lft ⟨(i:Int),v⟩ 1:=by rw[liftS,dw h27,hf];simp only;rw[hgd,AT h41]
     exact Z3 O O O O<|Rs 48 O O (aa call136 hof O)<|Rs 49 O O (aa call202 (hof1 v) O)<|A1 O<|Gt O<|⟨_,_,O,O,⟨az ⟨_,underlying120,O⟩ jD O O O,TB⟩,by rw[e];rfl⟩
    ·have h41:¬S.feats[i].2.1=2:=by simpa using hc41
     refine Z3 O O O O ?_;apply O3 4 53 57 [54,55,56] O TE
     ·intro hb2;iterate 4 refine A1 O ?_
      exact OW TD O O O
     ·intro hb2;iterate 4 refine A1 O ?_
      exact OW TD O O O
     refine A1 O ?_;refine Gc O O (fun hc50=>?_) (fun hc50=>?_)
     ·have h50:v=⟨#[]⟩/\S.feats[i].2.2=1:=by rw[he]at hc50;simpa using hc50
      have e:liftS q S a v=cnt (0:Nat):=by rw[liftS,dw h27,hf];simp only;rw[hgd,dw h41,AT h50.1,AT h50.2]
      exact Gr O<|Rs 58 O O (aa call54 hw0 O)<|A1 O<|Gt O<|⟨_,_,O,O,⟨az ⟨_,underlying120,O⟩ jD O O O,TB⟩,by rw[e];rfl⟩
     ·have h50:¬ (v=⟨#[]⟩/\S.feats[i].2.2=1):=fun h=>by rw[he]at hc50;simp[h.1,h.2]at hc50
      refine Z3 O O O O ?_;refine Gc O O (fun hc59=>?_) (fun hc59=>?_)
      ·have h59:v=⟨#[]⟩:=by have h9:(v.toList==(⟨#[]⟩:ByteArray).toList)=true:=hc59;rw[he]at h9;simpa using h9
       have e:liftS q S a v=cnt (1:Nat):=by rw[liftS,dw h27,hf];simp only;rw[hgd,dw h41,AT h59,dw (fun h=>h50 ⟨h59,h⟩)]
       exact Gr O<|Rs 62 O O (aa call54 hw1 O)<|A1 O<|Gt O<|⟨_,_,O,O,⟨az ⟨_,underlying120,O⟩ jD O O O,TB⟩,by rw[e];rfl⟩
      ·have h59:¬v=⟨#[]⟩:=by have h9:(v.toList==(⟨#[]⟩:ByteArray).toList)=false:=hc59;rw[he]at h9;simpa using h9
       have hV:=hq h59 (.inr ⟨i,hf,by rw[hgd];exact h41⟩);have hrd:=fQ v (q v) hV.ok;have hon:=BO ⟨i,⟨#[]⟩⟩ (q v) hV.i hV.b;have e:liftS q S a v=lft ⟨(i:Int),⟨#[]⟩⟩ (q v):=by rw[liftS,dw h27,hf];simp only;rw[hgd,dw h41,dw h59]
       exact OR<|Z3 O O O O<|Rs 66 O O (aa call143 hrd O)<|Rs 67 O O (aa call202 hon O)<|A1 O<|Gt O<|⟨_,_,O,O,⟨az ⟨_,underlying120,O⟩ jD O O O,TB⟩,by rw[e];rfl⟩
end
section
open Go.RowKit Mk Jn Mm
def tmL(l:List (Par×Rat)):List Trm:=l.map fun e=>⟨e.1,fL e.2⟩
def prL(l:List (PP×Rat)):List Prr:=l.map fun e=>⟨e.1.1,e.1.2,fL e.2⟩
theorem nF(l:List (Par×Rat)):(tmL l).length=l.length:=by simp[tmL]
theorem nN(l:List (PP×Rat)):(prL l).length=l.length:=by simp[prL]
theorem NH{l:List (Par×Rat)}{k:Nat}(h:k<l.length):((gj (tmL l)).drop (k*3)).take 3=[.int .i64 l[k].1.f,.str l[k].1.c,.str (fL l[k].2)]:=by
 rw[Lm (l:=tmL l) (by rw[nF];exact h)];simp[tmL]
theorem Oz{l:List (PP×Rat)}{k:Nat}(h:k<l.length):((gm (prL l)).drop (k*5)).take 5=[.int .i64 l[k].1.1.f,.str l[k].1.1.c,.int .i64 l[k].1.2.f,.str l[k].1.2.c,.str (fL l[k].2)]:=by
 rw[MH (l:=prL l) (by rw[nN];exact h)];simp[prL]
theorem tm_ne{l:List (Par×Rat)}{k:Nat}(h:k<l.length):gj (tmL l)≠[]:=Ni (l:=tmL l) (by rw[nF];exact h)
theorem pr_ne{l:List (PP×Rat)}{k:Nat}(h:k<l.length):gm (prL l)≠[]:=OA (l:=prL l) (by rw[nN];exact h)
abbrev Jm(m:MC):List PV:=[.str (fL m.c),.sl none m.s.length (gj (tmL m.s)),.sl none m.p.length (gm (prL m.p))]
abbrev uT(m:MC):PV:= .agg (Jm m)
structure MF1(m:MC):Prop where
 c:F1 m.c
 s:∀e∈m.s,F1 e.2
 p:∀e∈m.p,F1 e.2
 ls:m.s.length<=1000000
 lp:m.p.length<=1000000
section
variable {K:Type}[BEq K][LawfulBEq K]
theorem yw{l:List (K×Rat)}(hn:(l.map (·.1)).Nodup){i:Nat}(hi:i<l.length):th (l.take i) l[i].1 l[i].2=l.take (i+1):=by
 have hf:(l.take i).findIdx? (fun e=>e.1==l[i].1)=none:=by
  rw[Sv];intro e he;obtain⟨j,hj,rfl⟩:=QS.1 he;have h1:=P6.1 hn j i Tx Tx Ts;simp only[Qm]at h1;cases h:(l[j]'Ts).1==l[i].1 with
  |false=>rfl
  |true=>exact absurd (eq_of_beq h) h1
 unfold th;rw[hf];simp only;rw[<-bC hi]
end
theorem Hq(m:MC)(hs:(m.s.map (·.1)).Nodup)(hp:(m.p.map (·.1)).Nodup)(h1:MF1 m):FnP prog 57 [uT m] (· =mcP m):=by
 refine FnP.ofC func57 O ntmps57 Tw fun m0 w0 F R0=>?_
 have hwh:=jk 0 Tu Tu;have hrc:=fQ (fL m.c) m.c (mq m.c h1.c);have hls:=h1.ls;have hlp:=h1.lp;refine Z2 O O O<|Gr O<|Rs 8 O O (bo [] 2 call54 hwh O O O O trivial Tu O)<|Y2 O O<|Z2 O O O<|Rs 11 O O (aa call143 hrc O)<|Y2 O O<|Z4 O O O O O ?_;refine Gl O (st:=fun TC:Nat=>mkS [(1,.ptr 0 0),(2,.ptr 1 0),(3,.ptr 4 0),(14,.pv (.sl none m.s.length (gj (tmL m.s)))),(15,pIi m.s.length),(16,pIi TC)] [(0,.mix 47 [.pv (.str (fL m.c)),.pv (.sl none m.s.length (gj (tmL m.s))),.pv (.sl none m.p.length (gm (prL m.p)))]),(1,.mix 120 [.pv (.bool false),.pv nS,.pv (.bool false),.pv nS,.pv .nilmap,.pv .nilmap]),(2,.mp (aD cP (m.s.take TC)) (aK (m.s.take TC))),(3,.mp [] []),(4,.mix 120 [.pv (.bool (decide (m.c.num<0))),.pv (bF m.c.num.natAbs),.pv (.bool (decide ((m.c.den:Int)<0))),.pv (bF (m.c.den:Int).natAbs),.map 2,.map 3])] 5)
  (I:=fun TC=>TC<=m.s.length) (μ:=fun TC=>m.s.length-TC) (x0:=(0)) (OU (aS O) (aO Tt) O O) (cd _) ?_
 rintro i hi;refine Z1 O O ?_;refine Gp O O (fun hc17=>?_) (fun hc17=>?_)
 ·have hlt:i<m.s.length:=Ts;have hrow:=NH hlt;have hne:=tm_ne hlt;have hrd:=fQ (fL m.s[i].2) m.s[i].2 (mq _ (h1.s _ (ar hlt)));have hpt:=yw hs hlt;have hpk:=iM cM (m.s.take i) m.s[i].1 m.s[i].2;have hpv:=iW cM (m.s.take i) m.s[i].1 m.s[i].2;obtain⟨r,hr⟩:=jQ cM (m.s.take i) m.s[i].1;rw[hpt]at hpk hpv;refine OR<|Gr O<|Rs 18 O O (ae i underlying44 Ot O O O hlt hne)<|Rs 19 O O (aR ⟨_,underlying149,O⟩ Ot O hrow O)<|Y2 O O<|Ge O follows [0,1,2,3,4,5,6,7] Tt ?_;iterate 6 refine D1 O O ?_
  refine Ds 26 [] O O O (fun τ h=>aa call143 hrd (h.aL O)) O Tt<|DL.step (d:=none) [2] O O O (fun τ h=>bW jT underlying117 (Ee h 0 O O) (Eo h 0 O O) (Ee h 1 O O) (Ee h 2 O O) ⟨m.s[i].1,O⟩ hr hpk hpv) O Tt ?_;refine⟨Tt,?_⟩;exact Z2 O O O<|⟨(i+1),OU (aS O) (aO Tt) O O,hlt,Ts⟩
 ·have hie:m.s.take i=m.s:=aX Ts;rw[hie];refine Gx O<|Z4 O O O O O ?_;refine Gl O (st:=fun x_1:Nat=>mkS [(2,.ptr 1 0),(3,.ptr 4 0),(29,.pv (.sl none m.p.length (gm (prL m.p)))),(30,pIi m.p.length),(31,pIi x_1)] [(1,.mix 120 [.pv (.bool false),.pv nS,.pv (.bool false),.pv nS,.pv .nilmap,.pv .nilmap]),(2,.mp (aD cP m.s) (aK m.s)),(3,.mp (aD ppP (m.p.take x_1)) (aK (m.p.take x_1))),(4,.mix 120 [.pv (.bool (decide (m.c.num<0))),.pv (bF m.c.num.natAbs),.pv (.bool (decide ((m.c.den:Int)<0))),.pv (bF (m.c.den:Int).natAbs),.map 2,.map 3])] 5)
   (I:=fun x_1=>x_1<=m.p.length) (μ:=fun x_1=>m.p.length-x_1) (x0:=(0)) (OU (aS O) (aO Tt) O O) (cd _) ?_
  rintro j hj;refine Z1 O O ?_;refine Gp O O (fun hc32=>?_) (fun hc32=>?_)
  ·have hlt:j<m.p.length:=Ts;have hrow:=Oz hlt;have hne:=pr_ne hlt;have hrd:=fQ (fL m.p[j].2) m.p[j].2 (mq _ (h1.p _ (ar hlt)));have hpt:=yw hp hlt;have hpk:=iM eL (m.p.take j) m.p[j].1 m.p[j].2;have hpv:=iW eL (m.p.take j) m.p[j].1 m.p[j].2;obtain⟨r,hr⟩:=jQ eL (m.p.take j) m.p[j].1;rw[hpt]at hpk hpv;refine OR<|Gr O<|Rs 33 O O (ae j underlying45 NI O O O hlt hne)<|Rs 34 O O (aR ⟨_,underlying151,O⟩ NI O hrow O)<|Y2 O O<|Ge O follows [0,1,2,3,4,5,6,7,8,9,10] Tt ?_;iterate 9 refine D1 O O ?_
   refine Ds 44 [] O O O (fun τ h=>aa call143 hrd (h.aL O)) O Tt<|DL.step (d:=none) [3] O O O (fun τ h=>bW qN underlying118 (Ee h 0 O O) (Eo h 0 O O) (Ee h 1 O O) (Ee h 2 O O) ⟨m.p[j].1,O⟩ hr hpk hpv) O Tt ?_;refine⟨Tt,?_⟩;exact Z2 O O O<|⟨(j+1),OU (aS O) (aO Tt) O O,hlt,Ts⟩
  ·have hje:m.p.take j=m.p:=aX Ts;rw[hje];exact Gx O<|Z2 O O O<|OT (St.cX (ks:=aD cP m.s) (vs:=aK m.s) 2 Tt (MO _ _) (PY _))<|OT (St.cX (ks:=aD ppP m.p) (vs:=aK m.p) 3 Tt (MO _ _) (PY _))<|Gt O<|⟨_,_,O,O,⟨az ⟨_,underlying120,O⟩ jD O O O,TB⟩,O⟩
end
section
abbrev rnd(l:Nat):Fence:=Fence.wide.inRound l
theorem ET{l k:Nat}{P:Program}{f:FuncId}{args:Array Value}{w:World}{R:Ending->World->Prop}(h:Calls P f args w R):CallsIn (rnd l) k P f args w R:=
 (callsIn_wide.2 h).inRound l
theorem GH{l k:Nat}{P:Program}{row:String}{args:Array Value}{w:World}{R:Value->World->Prop}(h:Rows P row args w R):RowsIn (rnd l) k P row args w R:=by
 intro c cs _;obtain⟨v,w',r,s⟩:=h c cs;exact⟨v,w',r,stepsIn_wide.2 s⟩
theorem yO{l k:Nat}{P:Program}{o:Oper}{a:Act}{w:World}{K:Act->World->Prop}{Q:Exit->Act->World->Prop}(hd:∀c,o.op≠ .defer c)(h:o.wp P a w K Q):o.wpIn (rnd l) k P a w K Q:=by
 refine⟨fun _ _=>trivial,?_⟩;have e:o.semAt (rnd l).round a.eval=execOp a.eval o:=by
  unfold Oper.semAt;split
  ·rename_i hc;exact absurd hc (hd _)
  ·rfl
 rw[e];unfold Oper.wp Oper.upon at h;unfold Oper.uponIn;cases hr:(execOp a.eval o).run P w with
 | ok x w1=>
   rw[hr]at h;cases x<;>first|exact h|exact⟨fun h0=>absurd (show false=true from h0) Tu,ET h⟩|exact⟨fun h0=>absurd (show false=true from h0) Tu,GH h⟩|exact h.elim
 | halt x w1=>
   rw[hr]at h;cases x<;>first|exact h|exact h.elim
structure AWR(C:Ctx)(n:Nat)(c:Code)(Q:Exit->St->Prop)(σ:St):Prop where
 go:∀l a w,SJ C n σ a w->c.wpIn (rnd l) 0 C.P (fun ex a' w'=>∃σ',Q ex σ'/\SJ C n σ' a' w') a w
section
variable {C:Ctx}{n:Nat}{Q:Exit->St->Prop}{σ τ:St}
theorem AWR.skip(h:Q .normal σ):AWR C n .skip Q σ:=⟨fun _ _ _ hs=>wpIn_skip ⟨σ,h,hs⟩⟩
theorem AWR.seq{x y:Code}(h:AWR C n x (Bn (AWR C n y Q) Q) σ):AWR C n (.seq x y) Q σ:=by
 refine⟨fun l a w hs=>?_⟩;refine wpIn_seq (wpIn_mono (h.go l a w hs) ?_);rintro e a' w' ⟨s,q,r⟩;cases e<;>first|exact AWR.go q l a' w' r|exact⟨s,q,r⟩
theorem AWR.block{id:Nat}{c:Code}(h:AWR C n c (uo id Q) σ):AWR C n (.block id c) Q σ:=by
 refine⟨fun l a w hs=>?_⟩;refine wpIn_block (wpIn_mono (h.go l a w hs) ?_);rintro e a' w' ⟨s,q,r⟩;cases e with
 | exit id'=>
   simp only[uo]at q;simp only[Exit.inBlock];split
   ·rename_i hid;rw[AT hid]at q;exact⟨s,q,r⟩
   ·rename_i hid;rw[dw hid]at q;exact⟨s,q,r⟩
 |_=>exact⟨s,q,r⟩
theorem AWR.cond{c:Operand}{x y:Code}{b:Bool}(hc:σ.ev n c= .pv (.bool b))(ht:b=true->AWR C n x Q σ)(hf:b=false->AWR C n y Q σ):AWR C n (.cond c x y) Q σ:=by
 refine⟨fun l a w hs=>?_⟩;obtain⟨m,R,hw⟩:=hs;have he:=hw.ev c;rw[hc]at he;simp only[Rel,RelP]at he;exact wpIn_cond_split he (fun e=>(ht e).go l a w ⟨m,R,hw⟩) (fun e=>(hf e).go l a w ⟨m,R,hw⟩)
variable {ops:Array Oper}
theorem RL.Nf(hdf:∀o∈ops.toList,∀c,o.op≠ .defer c)(l:Nat)(K:St->Prop):∀(os:List Oper)(k:Nat)(σ:St),ops.toList.drop k=os->RL C n ops os K σ->∀a w,SJ C n σ a w->∀Q:Exit->Act->World->Prop,
  (∀a w,(∃s,K s/\SJ C n s a w)->Q .normal a w)->wpOpsIn (rnd l) 0 C.P ops Q (List.range' k (ops.size-k)) a w:=by
 intro os;induction os with
 | nil=>
   intro k σ hd h a w hs Q hQ;have:ops.size-k=0:=by
    have:=ag List.length hd;simpa using this
   rw[this];simp only[List.range'_zero,wpOpsIn];exact hQ a w ⟨σ,h,hs⟩
 | cons o os ih=>
   intro k σ hd h a w hs Q hQ;have hlt:k<ops.size:=by
    have:=ag List.length hd;simp at this;omega
   have ho:ops[k]? =some o:=by
    have:=ag (·[0]?) hd;simpa using this
   have hmem:o∈ops.toList:=by
    obtain⟨_,e⟩:=Pc.1 ho;rw[<-e];exact Array.getElem_mem_toList _
   have hd':ops.toList.drop (k+1)=os:=by
    have:=ag (List.drop 1) hd;simpa[SN]using this
   have e:ops.size-k=(ops.size-(k+1))+1:=Ts;rw[e,List.range'_succ];have next:∀a' w',(∃s,RL C n ops os K s/\SJ C n s a' w')->wpOpsIn (rnd l) 0 C.P ops Q (List.range' (k+1) (ops.size-(k+1))) a' w':=by
    rintro a' w' ⟨s,hs',hr⟩;exact ih (k+1) s hd' hs' a' w' hr Q hQ
   simp only[wpOpsIn,ho];simp only[RL]at h;cases hg:o.guard with
   | none=>
     rw[hg]at h;simp only[Region.wanted,hg,Te];exact yO (hdf o hmem) (Oper.wp_mono next (h a w Q hs))
   | some jw=>
     obtain⟨j,want⟩:=jw;rw[hg]at h;obtain⟨b,hb,h1,h2⟩:=h;have hy:=hb a w hs;simp only[Region.wanted,hg,hy];by_cases hbw:b=some want
     ·subst hbw;simp only[Qz,Te];exact yO (hdf o hmem) (Oper.wp_mono next (h1 O a w Q hs))
     ·have:(b==some want)=false:=by simpa using hbw
      simp only[this,Qk,SD];exact⟨fun _ _=>trivial,next _ _ (h2 hbw a w hs)⟩
def noDef(ops:Array Oper):Bool:=ops.toList.all fun o=>match o.op with| .defer _=>false|_=>true
theorem AWR.region{id:Nat}(hn:noDef ops=true)(h:RL C n ops ops.toList (Q .normal) σ):AWR C n (.region id ops false) Q σ:=by
 refine⟨fun l a w hs=>?_⟩;refine wpIn_region ?_;have hdf:∀o∈ops.toList,∀c,o.op≠ .defer c:=fun o ho c e=>by
  have:=IN.1 hn o ho;rw[e]at this;cases this
 have:=RL.Nf hdf l (Q .normal) ops.toList 0 σ Tw h a w hs (fun ex a' w'=>∃σ',Q ex σ'/\SJ C n σ' a' w') (fun _ _ x=>x);rw[List.range_eq_range'];simpa using this
end
end
section
def Ob.jv:Ob->Bool
 | .cells .. | .mix .. | .gro .. =>true
 |_=>false
theorem kE.jv{w:World}{m:Gm}{av:Av}{R:Nat->Prop}{b N:Nat}{o:Ob}(h:kE w m av R b N o)(hc:o.jv=true):∃arr ty fz,w.heap[b]? =some (.cells arr ty fz):=by
 cases o with
 |cells ty cs=>obtain⟨arr,h1,_⟩:=h;exact⟨_,_,_,h1⟩
 |mix ty cs=>obtain⟨arr,h1,_⟩:=h;exact⟨_,_,_,h1⟩
 |gro ty cs=>obtain⟨arr,h1,_⟩:=h;exact⟨_,_,_,h1⟩
 |_=>cases hc
structure Btw(P:Program)(w0:World)(R0:Nat->Prop)(bs X:List Nat)(os:List (Nat×Ob))(k:Nat)(W:World):Prop where
 ex:∃(m:Gm)(rt:RT W (dj m)),HR ⟨P,m,W,dj m,rt⟩ m rt.p (ax os) (avK k) W/\(∀j b,bs[j]? =some b->∃N,m (big+j)=some (b,N))/\
  (∀id b N,m id=some (b,N)->w0.heap.size<=b/\b∉X)/\(∀b,R0 b->rt.p b)/\(∀b,rt.p b->(R0 b\/w0.heap.size<=b)/\b∉X)
 bel:Below w0.heap.size w0 W
 xs:∀x∈X,x<W.heap.size/\w0.heap.size<=x
section
variable {P:Program}{w0:World}{R0:Nat->Prop}{bs X X':List Nat}{os os':List (Nat×Ob)}{k k':Nat}{W W':World}
theorem Btw.other(h:Btw P w0 R0 bs X os k W)(hs:W.heap.size<=W'.heap.size)(hb:∀q,q<W.heap.size->q∉X->W'.heap[q]? =W.heap[q]?)(hbel:Below w0.heap.size w0 W')
  (hX:∀x∈X',x∈X\/(W.heap.size<=x/\x<W'.heap.size)):Btw P w0 R0 bs X' os k W':=by
 obtain⟨m,rt,hr,h1,h2,h3,h4⟩:=h.ex;have hRk:∀b,rt.p b->rt.p b/\W'.heap[b]? =W.heap[b]? :=fun b hb'=>⟨hb',hb b (rt.d b hb').1 (h4 b hb').2⟩
 have hX2:∀b,b<W.heap.size->b∉X->b∉X':=fun b hlt hn hm=>by
  rcases hX b hm with e|e
  ·exact hn e
  ·omega
 have hown:=hr.own;refine⟨⟨m,⟨rt.p,rt.g.mono hRk,fun b hb'=>⟨Ps (rt.d b hb').1 hs,(rt.d b hb').2⟩,[]⟩,?_,h1,fun id b N e=>⟨(h2 id b N e).1,hX2 b (hown id b N e).1 (h2 id b N e).2⟩,h3,fun b hb'=>⟨(h4 b hb').1,hX2 b (rt.d b hb').1 (h4 b hb').2⟩⟩,hbel,fun x hx=>?_⟩
 ·exact ⟨hr.dom,hr.free,fun id o b N h5 h6=>kE.mono hRk (fun _ _ _ e=>e) (fun _ e=>e) (hb b (hown id b N h6).1 (h2 id b N h6).2) (hr.obj id o b N h5 h6),hr.inj,
   fun id b N e=>⟨Ps (hown id b N e).1 hs,(hown id b N e).2.1,.inl ⟨id,N,e⟩⟩,fun b hb'=>Ps (hr.rsz b hb') hs,fun b hb'=> .inl hb',fun b hb'=>hb',Fr.refl _ _,fun _ _ _ e=>e,hr.res⟩
 ·rcases hX x hx with e|e
  ·exact⟨Ps (h.xs x e).1 hs,(h.xs x e).2⟩
  ·exact⟨e.2,IS h.bel.size e.1⟩
theorem Btw.round{n l:Nat}{body:Code}{slots:List (Nat×V)}{Q:Exit->St->Prop}{G:Exit->List (Nat×Ob)->Nat->Prop}(hA:∀m0 w0 F R0,AWR ⟨P,m0,w0,F,R0⟩ n body Q (mkS slots os k))
  (hQ:∀ex τ,Q ex τ->∃os' k',τ.le (mkS [] os' k')/\(∀j,j<bs.length->bE (ax os' (big+j))=true)/\G ex os' k')
  (h:Btw P w0 R0 bs X os k W) (a:Act) (hdf:a.defers=[]) (hsz:a.tmps.size=n)
  (hsl:∀(m:Gm)(R:Nat->Prop),(∀j b,bs[j]? =some b->∃N,m (big+j)=some (b,N))->(∀b,R0 b->R b)->∀t,t<n->Rel W m (avK k) R (look slots t) (a.eval (.tmp t))):
  body.wpIn (rnd l) 0 P (fun ex _ W'=>(∃os' k',G ex os' k'/\Btw P w0 R0 bs X os' k' W')/\(∀x∈X,W'.heap[x]? =W.heap[x]?)/\W.heap.size<=W'.heap.size/\(∀b,R0 b->W'.heap[b]? =W.heap[b]?)/\
   ((∀i o,ax os i=some o->o.jv=true)->∀(q:Nat)(o:Obj),W.heap[q]? =some o->o.isWalk=true->W'.heap[q]? =some o)) a W:=by
 obtain⟨m,rt0,hr0,h1,h2,h3,h4⟩:=h.ex;obtain⟨rt,hp,hd0⟩:∃rt:RT W (dj m),rt.p=rt0.p/\rt.df=[]:=⟨⟨rt0.p,rt0.g,rt0.d,[]⟩,O,O⟩;have hr:=hr0.dfs hp;rw[<-hp]at hr h3 h4;refine wpIn_mono ((hA m W (dj m) rt).go l a W ⟨m,rt.p,hr,hdf.trans hd0.symm,hsz,hsl m rt.p h1 h3⟩) ?_;rintro ex a' W' ⟨τ,hq,hsj⟩;obtain⟨os',k',hle,hlive,hG⟩:=hQ ex τ hq;obtain⟨m',R',hw⟩:=hle _ _ _ _ hsj;have hr':HR ⟨P,m,W,dj m,rt⟩ m' R' (ax os') (avK k') W':=hw.hr;have hfr:Fr (dj m) W W':=hr'.frame;have hXm:∀x∈X,¬dj m x:=fun x hx ⟨id,N,e⟩=>(h2 id x N e).2 hx
 have hXR:∀x∈X,¬R' x:=fun x hx hR=>by
  rcases hr'.rfr x hR with e|e|e
  ·exact(h4 x e).2 hx
  ·have:=(h.xs x hx).1;exact absurd e (Nat.not_le.2 this)
  ·exact hXm x hx e
 have hbel:Below w0.heap.size w0 W':=by
  have hb2:Below w0.heap.size W W':=⟨hfr.os,hfr.tape,hfr.output,hfr.size,fun q hq'=>hfr.block q (Ps hq' h.bel.size) fun⟨id,N,e⟩=>by have:=(h2 id q N e).1;omega⟩;exact h.bel.trans hb2
 have hwk:(∀i o,ax os i=some o->o.jv=true)->∀(q:Nat)(o:Obj),W.heap[q]? =some o->o.isWalk=true->W'.heap[q]? =some o:=by
  intro hc q o ho hiw;refine(hfr.block q (Pc.1 ho).1 ?_).trans ho;rintro⟨id,N,e⟩;have hd:=hr.dom id;rw[e]at hd;cases ho2:ax os id with
  |none=>rw[ho2]at hd;cases hd
  | some o2=>
    obtain⟨arr,ty,fz,h5⟩:=(hr.obj id o2 q N ho2 e).jv (hc id o2 ho2);rw[h5]at ho;cases ho;cases hiw
 refine⟨⟨os',k',hG,⟨⟨m',⟨R',hr'.gi,fun b hb=>⟨hr'.rsz b hb,fun⟨id,N,e⟩=>(hr'.own id b N e).2.1 hb⟩,[]⟩,?_,?_,?_,fun b hb=>hr'.r0 b (h3 b hb),?_⟩,hbel,fun x hx=>⟨Ps (h.xs x hx).1 hfr.size,(h.xs x hx).2⟩⟩⟩,fun x hx=>hfr.block x (h.xs x hx).1 (hXm x hx),hfr.size,fun b hb=>hfr.block b (rt.d b (h3 b hb)).1 (rt.d b (h3 b hb)).2,hwk⟩
 ·exact⟨hr'.dom,hr'.free,hr'.obj,hr'.inj,fun id b N e=>⟨(hr'.own id b N e).1,(hr'.own id b N e).2.1,.inl ⟨id,N,e⟩⟩,hr'.rsz,fun b hb=> .inl hb,fun b hb=>hb,Fr.refl _ _,fun _ _ _ e=>e,hr'.res⟩
 ·intro j b hj;obtain⟨N,hN⟩:=h1 j b hj;have hd:=hr'.dom (big+j);rw[hlive j (Pf.1 hj).1]at hd;obtain⟨y,hy⟩:=PB.1 hd;have:=hr'.keep (big+j) y (RD _ _) hy;have e:m (big+j)=some y:=this;rw[hN]at e;exact⟨N,by rw[hy,<-e]⟩
 ·intro id b N e;rcases(hr'.own id b N e).2.2 with⟨id2,N2,e2⟩|e2
  ·exact h2 id2 b N2 e2
  ·have e3:W.heap.size<=b:=e2;exact⟨IS h.bel.size e3,fun hx=>by have:=(h.xs b hx).1;omega⟩
 ·intro b hb;refine⟨?_,fun hx=>hXR b hx hb⟩;rcases hr'.rfr b hb with e|e|⟨id,N,e⟩
  ·exact(h4 b e).1
  ·exact .inr (IS h.bel.size e)
  ·exact .inr (h2 id b N e).1
end
end
section
open Go.RowKit Go.MapKept
open Go.ChangeMaps (setBlock)
section
variable {F:Fence}{n:Nat}{P:Program}(w:World){ops:Array Oper}{rest:List Oper}{o:Oper}{a:Act}{Q:Exit->Act->World->Prop}
theorem ig(hg:o.guard=none)(m:Operand)(t:TypeId)(hop:o.op=Op.range t m)(k e:TypeId)(ht:P.underlying t=some (.map k e))(b:Nat)(es:Array MapEntry)(clock:Nat)(hm:a.eval m= .map (some b))(hb:w.heap[b]? =some (.map es clock))
  (hK:wpListIn F n P ops Q rest (a.put o.dst (.pointer (some ⟨w.heap.size,0,none⟩))) (w.alloc (.mapIter (some b) clock #[] clock))):wpListIn F n P ops Q (o::rest) a w:=by
 refine wpListIn_plain hg fun K' hK'=>?_
 unfold Oper.wpIn;refine⟨by simp[Oper.about,hop],?_⟩;rw[Oper.semAt_plain F _ _ (by rw[hop];intro c hc';cases hc')];simp[execOp,hop,hm,run_range_map w t k e b es clock ht hb,Result.andThen];exact hK' _ _ hK
theorem vC(hg:o.guard=none)(it:Operand)(hop:o.op=Op.next it false)(r b clock:Nat)(seen:Array Nat)(es:Array MapEntry)(hit:a.eval it= .pointer (some ⟨r,0,none⟩))(hr:w.heap[r]? =some (.mapIter (some b) clock seen clock))(hb:w.heap[b]? =some (.map es clock))(hst:cQ es.toList clock)
  (hDone:(leftOf es seen).size=0->wpListIn F n P ops Q rest (a.put o.dst (.tuple #[.bool false])) w)
  (hMore:∀e∈(leftOf es seen).toList,∀w1,(w1=w\/w1=w.drew)->wpListIn F n P ops Q rest (a.put o.dst (.tuple #[.bool true,e.key,e.val])) (setBlock w1 r (.mapIter (some b) clock (seen.push e.born) clock))):wpListIn F n P ops Q (o::rest) a w:=by
 refine wpListIn_plain hg fun K' hK'=>?_
 unfold Oper.wpIn;refine⟨by simp[Oper.about,hop],?_⟩;rw[Oper.semAt_plain F _ _ (by rw[hop];intro c hc';cases hc')];rcases Go.run_next_at (P:=P) w o.type r b clock clock seen es clock hr hb hst.2 (BY _)with⟨h0,hrun⟩|⟨e,he,w1,hal,hrun⟩
 ·simp[execOp,hop,hit,hrun,Result.andThen];exact hK' _ _ (hDone h0)
 ·simp[execOp,hop,hit,hrun,Result.andThen];exact hK' _ _ (hMore e he w1 hal)
theorem gS(hg:o.guard=none)(it:Operand)(hop:o.op=Op.entry it)(r:Nat)(k v:Value)(hit:a.eval it= .pointer (some ⟨r,0,none⟩))(hrun:(Instr.entry (.pointer (some ⟨r,0,none⟩))).run P w= .ok (.tuple #[k,v]) w)
  (hK:wpListIn F n P ops Q rest (a.put o.dst (.tuple #[k,v])) w):wpListIn F n P ops Q (o::rest) a w:=by
 refine wpListIn_plain hg fun K' hK'=>?_
 unfold Oper.wpIn;refine⟨by simp[Oper.about,hop],?_⟩;rw[Oper.semAt_plain F _ _ (by rw[hop];intro c hc';cases hc')];simp[execOp,hop,hit,hrun,Result.andThen];exact hK' _ _ hK
end
def fw(es:Array MapEntry)(seen:Array Nat):List Value:=(es.toList.filter fun e=> !seen.contains e.born).map (·.key)
theorem oi(es:Array MapEntry):fw es #[]=es.toList.map (·.key):=by
 unfold fw;rw[Tg.2 fun e _=>by simp]
theorem cY(es:Array MapEntry)(seen:Array Nat):(leftOf es seen).toList=es.toList.filter fun e=> !seen.contains e.born:=by unfold leftOf;simp
theorem Cz{α:Type}{l:List α}{i:Nat}(h:i<l.length):l.Perm (l[i]::l.eraseIdx i):=by
 have e:l=l.take i++l[i]::l.drop (i+1):=by rw[<-PC h,PK]
 rw[List.eraseIdx_eq_take_drop_succ];exact(List.Perm.of_eq e).trans SU
theorem k8{es:Array MapEntry}{clock:Nat}(hst:cQ es.toList clock){seen:Array Nat}{e:MapEntry}(he:e∈(leftOf es seen).toList):(fw es seen).Perm (e.key::fw es (seen.push e.born)):=by
 rw[cY]at he;obtain⟨i,hi⟩:=Qr he;have hnf:((es.toList.filter fun e=> !seen.contains e.born).map (·.born)).Nodup:=(Ri.map _).nodup hst.1;have h1:(es.toList.filter fun x=> !(seen.push e.born).contains x.born)=(es.toList.filter fun e=> !seen.contains e.born).eraseIdx i:=by
  rw[<-ji hnf hi,List.filter_filter];apply List.filter_congr;intro x _;rw[contains_push];cases seen.contains x.born<;>cases (x.born==e.born)<;>rfl
 unfold fw;rw[h1];obtain⟨hlt,rfl⟩:=Pf.1 hi;have:=(Cz hlt).map (·.key);simpa using this
theorem ly{es:Array MapEntry}{seen:Array Nat}(h:(leftOf es seen).size=0):fw es seen=[]:=by
 have:(leftOf es seen).toList=[]:=SG.1 (by rw[Px];exact h);rw[cY]at this;rw[fw,this];rfl
end
section
section
variable {P:Program}{w0:World}{R0 R1:Nat->Prop}{bs X:List Nat}{os:List (Nat×Ob)}{k:Nat}{W W':World}
theorem Btw.more(h:Btw P w0 R0 bs X os k W){W1:World}(hb:Below W.heap.size W W1):Btw P w0 (fun b=>R0 b\/(W.heap.size<=b/\b<W1.heap.size)) bs X os k W1:=by
 obtain⟨m,rt,hr,h1,h2,h3,h4⟩:=h.ex;have hge:=h.bel.size;have hk:∀b,b<W.heap.size->W1.heap[b]? =W.heap[b]? :=fun b hlt=>hb.block b hlt
 have hRk:∀b,rt.p b->(rt.p b\/(W.heap.size<=b/\b<W1.heap.size))/\W1.heap[b]? =W.heap[b]? :=fun b hb'=>⟨.inl hb',hk b (rt.d b hb').1⟩
 have hown:=hr.own;refine⟨⟨m,⟨fun b=>rt.p b\/(W.heap.size<=b/\b<W1.heap.size),rt.g.mono hRk,?_,[]⟩,?_,h1,h2,?_,?_⟩,h.bel.trans (hb.mono hge),fun x hx=>⟨Ps (h.xs x hx).1 hb.size,(h.xs x hx).2⟩⟩
 ·rintro b (hb'|hb')
  ·exact⟨Ps (rt.d b hb').1 hb.size,(rt.d b hb').2⟩
  ·exact⟨hb'.2,fun⟨id,N,e⟩=>by have:=(hown id b N e).1;omega⟩
 ·refine⟨hr.dom,hr.free,fun id o b N h5 h6=>kE.mono hRk (fun _ _ _ e=>e) (fun _ e=>e) (hk b (hown id b N h6).1) (hr.obj id o b N h5 h6),hr.inj,fun id b N e=>⟨Ps (hown id b N e).1 hb.size,?_,.inl ⟨id,N,e⟩⟩,?_,fun b hb'=> .inl hb',fun b hb'=>hb',Fr.refl _ _,fun _ _ _ e=>e,hr.res⟩
  ·rintro(h|h)
   ·exact(hown id b N e).2.1 h
   ·have:=(hown id b N e).1;omega
  ·rintro b (hb'|hb')
   ·exact Ps (hr.rsz b hb') hb.size
   ·exact hb'.2
 ·rintro b (hb'|hb')
  ·exact .inl (h3 b hb')
  ·exact .inr hb'
 ·rintro b (hb'|hb')
  ·exact⟨(h4 b hb').1.imp .inl id,(h4 b hb').2⟩
  ·exact⟨.inr (IS hge hb'.1),fun hx=>by have:=(h.xs b hx).1;omega⟩
theorem Btw.less(h:Btw P w0 R1 bs X os k W)(hle:∀b,R0 b->R1 b)(hge:∀b,R1 b->R0 b\/w0.heap.size<=b):Btw P w0 R0 bs X os k W:=by
 obtain⟨m,rt,hr,h1,h2,h3,h4⟩:=h.ex;exact⟨⟨m,rt,hr,h1,h2,fun b hb=>h3 b (hle b hb),fun b hb=>⟨(h4 b hb).1.elim (hge b) .inr,(h4 b hb).2⟩⟩,h.bel,h.xs⟩
theorem btwS{x:Nat}(h:Btw P w0 R0 bs X os k W)(hx:x∈X)(o:Obj):Btw P w0 R0 bs X os k (W.putObj x o):=
 h.other Tw (fun q _ hn=>World.putObj_heap_other fun e=>hn (e▸hx)) (h.bel.grown ⟨O,O,O,Tw,fun k _ hk=>World.putObj_heap_other fun e=>hk (by rw[e])⟩ h.bel.size fun k e=>by cases e;exact(h.xs x hx).2) (fun y hy=> .inl hy)
theorem Btw.rlt(h:Btw P w0 R0 bs X os k W){b:Nat}(hb:R0 b):b<W.heap.size/\b∉X:=by
 obtain⟨m,rt,hr,h1,h2,h3,h4⟩:=h.ex;exact⟨(rt.d b (h3 b hb)).1,(h4 b (h3 b hb)).2⟩
end
def Np{α:Type}(it:Bool)(P:Program)(gf:Nat)(lb:Array Value)(encs:α->Array Value)(Kp:World->World->Prop)(Pr:List α->α->Prop)(S:List α->Prop)(w:World):Prop:=
 ∀(l:Nat)(J:List α->World->Prop)(W:World),Below w.heap.size w W->
  (∀pre W1 W2 row,J pre W1->W1.grownBy W2 row->(∀q,row=some q->it=true/\q=W.heap.size)->J pre W2)->
  (∀pre x W1,J pre W1->Pr pre x->YieldAt Fence.wide 0 P l (encs x) W1 fun e W'=>e= .returned (.bool true)/\J (pre++[x]) W'/\Kp W1 W')->
  (∀o,J [] (bif it then W.alloc o else W))->
  CallsIn Fence.wide 1 P gf (#[.func (.yield l) #[] #[]]++lb) W fun e W'=>(∃v,e= .returned v)/\∃xs,S xs/\J xs W'
theorem jU{α:Type}{P:Program}{nt:Nat}{g:Operand}{ps:Array Tmp}{assign body:Code}{Q:Exit->Act->World->Prop}{a:Act}{w0 W0:World}{R0:Nat->Prop}{bs:List Nat}(it:Bool){gf:Nat}{lb:Array Value}{encs:α->Array Value}{Kp:World->World->Prop}
  {Pr:List α->α->Prop} {S:List α->Prop} (hg:a.eval g= .func (.func gf) #[] lb) (eg:∀args w,(callFunc gf args).run P w= .ok (.enter gf args) w) (hseq:Np it P gf lb encs Kp Pr S W0) (hps:∀x,(encs x).size=ps.size)
  (hKp1:it=true->∀A B,KeepsWalks A B->Kp A B) (hKp2:it=false->∀A B:World,(∀b,R0 b->B.heap[b]? =A.heap[b]?)->Kp A B)
  (Inv:List α->List (Nat×Ob)->Nat->Prop) {os0:List (Nat×Ob)} {k0:Nat} (hi0:Inv [] os0 k0) (hbt:Btw P w0 R0 bs [] os0 k0 W0) (hcell:it=true->∀pre os k,Inv pre os k->∀i o,ax os i=some o->o.jv=true)
  (a1:α->World->Act) (nw:α->World->World) (hnw:∀x W,Below W.heap.size W (nw x W)) (ha1:∀x W,(a1 x W).defers=[]/\(a1 x W).tmps.size=nt)
  (hassign:∀(l:Nat)(x:α)(W:World)(K:Act->World->Prop),K (a1 x W) (nw x W)->assign.wpIn (rnd l) 0 P (Exit.then K (fun _ _ _=>False)) { tmps:=(ps.zip (encs x)).foldl (fun t (p,v)=>t.setIfInBounds p v) a.tmps,defers:=[] } W)
  (hbody:∀pre x os k,Inv pre os k->Pr pre x->∃(slots:List (Nat×V))(Qb:Exit->St->Prop),(∀m0 w0 F R0,AWR ⟨P,m0,w0,F,R0⟩ nt body Qb (mkS slots os k))/\
   (∀ex τ,Qb ex τ->∃os' k',τ.le (mkS [] os' k')/\(∀j,j<bs.length->bE (ax os' (big+j))=true)/\ex= .normal/\Inv (pre++[x]) os' k')/\
   (∀(W W2:World)(m:Gm)(R:Nat->Prop),(∀b,W.heap.size<=b->b<(nw x W).heap.size->R b/\W2.heap[b]? =(nw x W).heap[b]?)->(∀j b,bs[j]? =some b->∃N,m (big+j)=some (b,N))->(∀b,R0 b->R b)->∀t,t<nt->Rel W2 m (avK k) R (look slots t) ((a1 x W).eval (.tmp t))))
  (hdone:∀(D:Nat)(X:List Nat)(xs:List α)(os:List (Nat×Ob))(k:Nat)(W:World),w0.heap.size<=D->D<W.heap.size->D∈X->S xs->Inv xs os k->Btw P w0 R0 bs X os k W->W.heap[D]? =some (.deferred (some []))->Q .normal { a with defers:={ target:= .collected D,args:= #[] }::a.defers } W):
  (Code.rangeFunc g ps assign body).wpIn Fence.wide 2 P Q a W0:=by
 refine wpIn_rangeFunc ?_;intro fn hfn;have hge:=hbt.bel.size;obtain⟨rec,hrec⟩:∃rec:LoopState->Option Code->Loop,rec=fun st pe=>{ state:=st,pending:=pe,fn,tmps:=a.tmps,params:=ps,assign,body,defers:=W0.heap.size }:=⟨_,O⟩
 obtain⟨W1,hW1⟩:∃W1,(W0.alloc (.deferred (some []))).alloc (.loop (rec .ready none))=W1:=⟨_,O⟩;obtain⟨D,hD⟩:∃D,D=W0.heap.size:=⟨_,O⟩;have hL1:W1.heap[D+1]? =some (.loop (rec .ready none)):=by
  rw[<-hW1,hD];have:=World.alloc_heap_new (W0.alloc (.deferred (some []))) (.loop (rec .ready none));rwa [World.size_alloc]at this
 have hK1:W1.heap[D]? =some (.deferred (some [])):=by
  rw[<-hW1,hD];exact(Below.heap_alloc _ _ _ Tw).trans (World.alloc_heap_new W0 _)
 have hs1:W1.heap.size=D+2:=by rw[<-hW1];simp[hD]
 have hb01:Below W0.heap.size W0 W1:=by rw[<-hW1];exact((Below.refl _ W0).alloc (BY _) _).alloc Tw _
 have hbt1:Btw P w0 R0 bs [D,D+1] os0 k0 W1:=by
  refine hbt.other Ts (fun q hq _=>hb01.block q hq) (hbt.bel.trans (hb01.mono hge)) (fun x hx=>?_);simp only[AS,P7,R6]at hx;omega
 obtain⟨X,hX⟩:∃X,X=bif it then [D,D+1,D+2]else [D,D+1]:=⟨_,O⟩;have hDX:D∈X:=by rw[hX];cases it<;>simp
 have hlX:D+1∈X:=by rw[hX];cases it<;>simp
 have hXm:∀x,x∈X->x=D\/x=D+1\/(it=true/\x=D+2):=fun x hx=>by
  rw[hX]at hx;cases it<;>simp at hx<;>simp<;>omega
 refine⟨D+1,[{ target:= .collected D,args:= #[] }],W1,{ target:= .fn (.func gf) lb,args:= #[.func (.yield (D+1)) #[] #[]] },W1,gf,
  #[.func (.yield (D+1)) #[] #[]]++lb,W1,?_,?_,fun _ _=>trivial,?_,fun _=>by decide,?_⟩
 ·rw[<-hW1,hrec,hD];exact run_enterLoop_outer _ _ _ _ _
 ·simp only[resolve,hg];simp[go_sem]
 ·simp[invoke,go_sem,eg]
 ·refine(hseq (D+1) (fun pre W=>(∃os k,Inv pre os k/\Btw P w0 R0 bs X os k W)/\W.heap[D+1]? =some (.loop (rec .ready none))/\W.heap[D]? =some (.deferred (some []))) W1 hb01 ?_ ?_ ?_).mono ?_
  ·rintro pre Wa Wb row ⟨⟨os,k,hi,hb⟩,h1,h2⟩ hgr hrow;have hne:∀q,q∉X->some q≠row:=fun q hq e=>by
    obtain⟨e1,e2⟩:=hrow q e.symm;refine hq ?_;rw[hX,e1,e2,hs1];simp
   have hlt:=(Pc.1 h1).1;have hlt2:=(Pc.1 h2).1;refine⟨⟨os,k,hi,hb.other hgr.size (fun q hq hn=>hgr.block q hq (hne q hn)) (hb.bel.grown hgr hb.bel.size fun q e=>by have:=hrow q e;omega) fun y hy=> .inl hy⟩,(hgr.block _ hlt fun e=>?_).trans h1,(hgr.block _ hlt2 fun e=>?_).trans h2⟩
   ·have:=hrow _ e.symm;omega
   ·have:=hrow _ e.symm;omega
  ·rintro pre x W ⟨⟨os,k,hi,hb⟩,h1,h2⟩ hpr;have hlt:D+1<W.heap.size:=(Pc.1 h1).1;have hlt2:D<W.heap.size:=(Pc.1 h2).1;have hy:=run_yield (P:=P) (args:=encs x) h1 (by rw[hrec];first|exact hps x|exact(hps x).symm);rw[hrec]at hy;have hn:=hnw x W;have h1n:(nw x W).heap[D+1]? =some (.loop (rec .ready none)):=(hn.block _ hlt).trans h1;have h2n:(nw x W).heap[D]? =some (.deferred (some [])):=(hn.block _ hlt2).trans h2;refine⟨fn,_,assign,body,hy,roundIn_of_wpIn hfn (hassign _ x W _ ⟨_,run_beginRound h1n (by rw[hrec]),?_⟩)⟩;have hbm:=hb.more hn;have hbb:=btwS hbm hlX (.loop { rec .ready none with state:= .busy });obtain⟨slots,Qb,hA,hQ,hsl⟩:=hbody pre x os k hi hpr;have hlt':D+1<(nw x W).heap.size:=Ps hlt hn.size;have hround:=hbb.round (n:=nt) (l:=D+1) (body:=body) (slots:=slots) (G:=fun ex os' k'=>ex= .normal/\Inv (pre++[x]) os' k') hA hQ (a1 x W) (ha1 x W).1 (ha1 x W).2
    (fun m R hm hR t ht=>hsl W _ m R (fun b hb1 hb2=>⟨hR b (.inr ⟨hb1,hb2⟩),World.putObj_heap_other Ts⟩) hm (fun b hb'=>hR b (.inl hb')) t ht)
   refine wpIn_mono hround ?_;rintro ex a3 W3 ⟨⟨os',k',⟨rfl,hi'⟩,hb3⟩,hX3,hsz3,hRk,hwk⟩;have hl3:W3.heap[D+1]? =some (.loop { rec .ready none with state:= .busy }):=(hX3 (D+1) hlX).trans (World.putObj_heap_same hlt');have hk3:W3.heap[D]? =some (.deferred (some [])):=(hX3 D hDX).trans ((World.putObj_heap_other Ts).trans h2n);have hlt3:D+1<W3.heap.size:=(Pc.1 hl3).1;have hb4:Btw P w0 R0 bs X os' k' W3:=hb3.less (fun b hb'=> .inl hb') fun b hb'=>hb'.imp id fun h=>IS hb.bel.size h.1
   refine⟨_,_,run_endRound none hl3,O,⟨⟨os',k',hi',btwS hb4 hlX _⟩,?_,(World.putObj_heap_other Ts).trans hk3⟩,?_⟩
   ·rw[World.putObj_heap_same hlt3,hrec];rfl
   ·cases hit:it with
    | true=>
      refine hKp1 hit _ _ ?_;have q1:KeepsWalks W (nw x W):=⟨hn.size,fun q o ho _=>(hn.block q (Pc.1 ho).1).trans ho⟩;have q2:KeepsWalks (nw x W) ((nw x W).putObj (D+1) (.loop { rec .ready none with state:= .busy })):=KeepsWalks.putObj _ h1n O;have q3:KeepsWalks ((nw x W).putObj (D+1) (.loop { rec .ready none with state:= .busy })) W3:=⟨hsz3,hwk (hcell hit pre os k hi)⟩;exact((q1.trans q2).trans q3).trans (KeepsWalks.putObj _ hl3 O)
    | false=>
      refine hKp2 hit _ _ fun b hb'=>?_
      obtain⟨g1,g2⟩:=hb.rlt hb';have hne:b≠D+1:=fun e=>g2 (e▸hlX)
      exact(World.putObj_heap_other hne).trans ((hRk b (.inl hb')).trans ((World.putObj_heap_other hne).trans (hn.block b g1)))
  ·intro o;cases hit:it with
   | true=>
     simp only[Qd];have ha:Below W1.heap.size W1 (W1.alloc o):=(Below.refl _ W1).alloc (BY _) o;refine⟨⟨os0,k0,hi0,?_⟩,(ha.block _ Ts).trans hL1,(ha.block _ Ts).trans hK1⟩;refine hbt1.other ha.size (fun q hq _=>ha.block q hq) (hbt1.bel.trans (ha.mono hbt1.bel.size)) fun y hy=>?_
     rcases hXm y hy with rfl|rfl|⟨_,rfl⟩
     ·exact .inl Tw
     ·exact .inl Tw
     ·exact .inr ⟨Ts,Tx⟩
   | false=>
     simp only[PE];rw[hit]at hX;subst hX;exact⟨⟨os0,k0,hi0,hbt1⟩,hL1,hK1⟩
  ·rintro e W2 ⟨⟨v,rfl⟩,xs,hS,⟨os,k,hi,hb⟩,h1,h2⟩;have hlt:=(Pc.1 h2).1;refine⟨none,_,by have:=run_endLoop (P:=P) h1 (by rw[hrec];simp);rw[hrec]at this;exact this,hdone D X xs os k _ Ts (by simpa using hlt) hDX hS hi (btwS hb hlX _) ((World.putObj_heap_other Ts).trans h2)⟩
end
section
open Go.RowKit Go.Shelf Mm
open Go.ChangeMaps (setBlock)
attribute [local go_sem] Oper.semAt_some
theorem BF(es:Array MapEntry)(seen:Array Nat):(leftOf es seen).size=(fw es seen).length:=by
 unfold fw;rw[Pg,<-cY,Px]
theorem kX{w:World}{mb r:Nat}{es:Array MapEntry}{clock c1 c2:Nat}{seen:Array Nat}{x:Option Nat}(hb:w.heap[mb]? =some (.map es clock))(hr:w.heap[r]? =some (.mapIter x c1 seen c2)):w.rangeLeft mb r=(fw es seen).length:=by
 rw[<-BF];simp[World.rangeLeft,hb,hr]
def cf(p:Par):Value:= .agg #[.int .i64 p.f,.string p.c]
theorem iQ{p q:Par}(h:cf p=cf q):p=q:=by
 obtain⟨a,s⟩:=p;obtain⟨b,t⟩:=q;simp only[cf,Value.agg.injEq,Array.mk.injEq,Rr,Value.int.injEq,Value.string.injEq,and_true,true_and]at h;rw[h.1,h.2]
def dR(p:PP):Value:= .agg #[.int .i64 p.1.f,.string p.1.c,.int .i64 p.2.f,.string p.2.c]
theorem jR{p q:PP}(h:dR p=dR q):p=q:=by
 obtain⟨⟨a,s⟩,⟨a2,s2⟩⟩:=p;obtain⟨⟨b,t⟩,⟨b2,t2⟩⟩:=q;simp only[dR,Value.agg.injEq,Array.mk.injEq,Rr,Value.int.injEq,Value.string.injEq,and_true,true_and]at h;obtain⟨h1,h2,h3,h4⟩:=h;rw[h1,h2,h3,h4]
theorem mI{p q:ByteArray}(h:Value.string p=Value.string q):p=q:=by cases h;rfl
theorem yK{α:Type}{enc:α->Value}{es:Array MapEntry}{xs:List α}(hx:es.toList.map (·.key)=xs.map enc){seen:Array Nat}{e:MapEntry}(he:e∈(leftOf es seen).toList):e∈es.toList/\∃x∈xs,enc x=e.key:=by
 rw[cY]at he;have h1:=(Qn.1 he).1;have h2:e.key∈xs.map enc:=by rw[<-hx];exact List.mem_map_of_mem h1
 obtain⟨x,hx1,hx2⟩:=IT.1 h2;exact⟨h1,x,hx1,hx2⟩
theorem cK{α β:Type}{f:α->β}(hf:∀a b,f a=f b->a=b):∀{l m:List α},(l.map f).Perm (m.map f)->l.Perm m:=by
 intro l;induction l with
 |nil=>intro m h;have:=h.length_eq;simp at this;rw[PF this.symm]
 | cons a l ih=>
   intro m h;have h1:f a∈m.map f:=h.subset Tw;obtain⟨b,hb,e⟩:=IT.1 h1;obtain rfl:=hf _ _ e;obtain⟨s,t,rfl⟩:=List.append_of_mem hb;have h2:(l.map f).Perm ((s++t).map f):=by
    have:((s++b::t).map f).Perm (f b::(s++t).map f):=by simp only[PD,bL];exact SU
    exact(h.trans this).cons_inv
   exact((ih h2).cons b).trans SU.symm
theorem qL{α:Type}{enc:α->Value}{es:Array MapEntry}{xs:List α}(hx:es.toList.map (·.key)=xs.map enc)(seen:Array Nat):∃rest:List α,fw es seen=rest.map enc:=by
 have key:∀l:List Value,(∀v∈l,∃x,enc x=v)->∃rest:List α,l=rest.map enc:=by
  intro l;induction l with
  |nil=>intro _;exact⟨[],O⟩
  | cons v l ih=>
    intro h;obtain⟨x,hxe⟩:=h v Tw;obtain⟨r,hr⟩:=ih fun u hu=>h u (by simp[hu])
    exact⟨x::r,by rw[bL,hxe,<-hr]⟩
 refine key _ fun v hv=>?_
 unfold fw at hv;obtain⟨e,he,rfl⟩:=IT.1 hv;obtain⟨_,x,_,hxe⟩:=yK (seen:=seen) (e:=e) hx (by rw[cY];exact he);exact⟨x,hxe⟩
theorem r7{F:Fence}{n:Nat}{P:Program}(w:World){ops:Array Oper}{rest:List Oper}{o:Oper}{a:Act}{Q:Exit->Act->World->Prop}(hg:o.guard=none)(it:Operand)(hop:o.op=Op.next it false)(r b clock:Nat)(seen:Array Nat)(es:Array MapEntry)
  (hit:a.eval it= .pointer (some ⟨r,0,none⟩)) (hr:w.heap[r]? =some (.mapIter (some b) clock seen clock)) (hb:w.heap[b]? =some (.map es clock)) (hne:r≠b) (hst:cQ es.toList clock)
  (hDone:(leftOf es seen).size=0->wpListIn F n P ops Q rest (a.put o.dst (.tuple #[.bool false])) w)
  (hMore:∀e:MapEntry,e∈leftOf es seen->∀W2:World,W2.heap[r]? =some (.mapIter (some b) clock (seen.push e.born) clock)->W2.heap[b]? =some (.map es clock)->w.grownBy W2 (some r)->wpListIn F n P ops Q rest (a.put o.dst (.tuple #[.bool true,e.key,e.val])) W2):wpListIn F n P ops Q (o::rest) a w:=by
 refine vC w hg it hop r b clock seen es hit hr hb hst hDone fun e he w1 hal=>?_
 have hw1:w1.heap=w.heap:=by rcases hal with rfl|rfl<;>rfl
 have hrl:r<w.heap.size:=(Pc.1 hr).1;refine hMore e (by simpa using he) _ ?_ ?_ ⟨by rcases hal with rfl|rfl<;>rfl,by rcases hal with rfl|rfl<;>rfl,by rcases hal with rfl|rfl<;>rfl,by simp[setBlock,hw1],fun k _ hk=>?_⟩
 ·simp only[setBlock];rw[Array.getElem?_setIfInBounds_self,AT (by rw[hw1];exact hrl)]
 ·simp only[setBlock];rw[Q2 hne,hw1];exact hb
 ·simp only[setBlock];rw[Q2 (fun e=>hk (by rw[e])),hw1]
theorem BD(Bm off mb:Nat)(es:Array MapEntry)(clock:Nat)(xs:List Par)(w:World)(hst:cQ es.toList clock)(hx:es.toList.map (·.key)=xs.map cf)(hBm:Bm<w.heap.size)
  (hm0:w.cell? ⟨Bm,off,none⟩=some (.map (some mb))) (hb0:w.heap[mb]? =some (.map es clock)):
  Np true prog 210 #[.pointer (some ⟨Bm,off,none⟩)] (fun x=> #[cf x]) KeepsWalks (fun pre x=>∃rest,(pre++x::rest).Perm xs) (fun ss=>ss.Perm xs) w:=by
 intro l J W hW hJ hY h0;have h0:∀o,J [] (W.alloc o):=h0;have hm:W.cell? ⟨Bm,off,none⟩=some (.map (some mb)):=(hW.cell (p:=⟨Bm,off,none⟩) hBm).trans hm0;have hmb:mb<w.heap.size:=(Pc.1 hb0).1;have hb:W.heap[mb]? =some (.map es clock):=(hW.block mb hmb).trans hb0;have hne:mb≠W.heap.size:=by have:=hW.size;omega
 clear hm0 hb0;have hnd:=hst.1;refine callsIn_of_wp func210 O trivial ?_ O;simp only[ntmps210,Pv,Pd,Rt,Nat.reduceAdd,Nat.reduceSub,RZ,R7,SH,Su,Qa,Qq]
 gi_wp2_with (first
  |(gi_at_range;refine ig _ O _ 117 O 147 116 underlying117 mb es clock O hb ?_)
  |gi_in)
 try go_frame
 gi_loopw [3] (fun _ wr=>∃(seen:Array Nat)(ss:List Par),wr.heap[W.heap.size]? =some (.mapIter (some mb) clock seen clock)/\wr.heap[mb]? =some (.map es clock)/\(ss.map cf++fw es seen).Perm (xs.map cf)/\J ss wr)
  (fun _ wr=>wr.rangeLeft mb W.heap.size)
 case atStart=>
  exact⟨#[],[],World.alloc_heap_new W _,(Below.heap_alloc W _ mb (by have:=hW.size;omega)).trans hb,by rw[oi,hx];exact PY _,h0 _⟩
 case round=>
  obtain⟨seen,ss,hit,hmp,hP,hJs⟩:=hrel
  gi_wp2_with (first
   |(gi_at_next;refine r7 _ rfl _ rfl W.heap.size mb clock seen es rfl hit hmp (fun e=>hne e.symm) hst ?_ ?_)
   |gi_in)
  ·intro h00
   gi_wp2
   go_end0
   rw[ly (by simp[h00]),PZ]at hP;exact⟨⟨_,O⟩,ss,cK (fun _ _=>iQ) hP,hJs⟩
  ·intro e he W2 hit2 hmp2 hg2;have he:e∈(leftOf es seen).toList:=by simpa using he
   obtain⟨hem,x,hxm,hxe⟩:=yK hx he;have hJ2:J ss W2:=hJ ss wr W2 (some W.heap.size) hJs hg2 (fun q e=>by cases e;exact⟨TB,O⟩);have hst1:=k8 hst he;clear hst;obtain⟨ek,ev,eb⟩:=e;obtain rfl:cf x=ek:=hxe;have hen:(Instr.entry (.pointer (some ⟨W.heap.size,0,none⟩))).run prog W2= .ok (.tuple #[cf x,ev]) W2:=run_entry_at W2 W.heap.size mb clock seen es clock ⟨cf x,ev,eb⟩ hit2 hmp2 hem hnd;simp only at hit2;generalize hk0:cf x=kx at hen ⊢;have hk1:kx= .agg #[.int .i64 x.f,.string x.c]:=hk0.symm;subst hk1;have hP2:=((hst1.append_left (ss.map cf)).symm.trans hP);obtain⟨rest,hrest⟩:=qL (enc:=cf) hx (seen.push eb);have hpr:∃rest,(ss++x::rest).Perm xs:=⟨rest,cK (fun _ _=>iQ) (by rw[PD,bL,<-hrest];exact hP2)⟩;obtain⟨W3,hW3⟩:∃W3,W2.alloc (.cells #[.int .i64 x.f,.string x.c] 147)=W3:=⟨_,O⟩;have hal3:Below W2.heap.size W2 W3:=by rw[<-hW3];exact(Below.refl _ W2).alloc (BY _) _
   have hJ3:J ss W3:=hJ ss W2 W3 none hJ2 ⟨hal3.os,hal3.tape,hal3.output,hal3.size,fun k hk _=>hal3.block k hk⟩ (fun q e=>by cases e);have hit3:W3.heap[W.heap.size]? =some (.mapIter (some mb) clock (seen.push eb) clock):=(hal3.block _ (Pc.1 hit2).1).trans hit2;have hmp3:W3.heap[mb]? =some (.map es clock):=(hal3.block _ (Pc.1 hmp2).1).trans hmp2;have hlt:=hst1.length_eq;have hl1:=kX hmp hit;have hnew:(ss++[x]).map cf++fw es (seen.push eb)=ss.map cf++cf x::fw es (seen.push eb):=Tw;obtain⟨fn,tmps,assign,body,hy,hR⟩:=hY ss x W3 hJ3 hpr;rw[hk0]at hy;clear hP hst1 he hem hx hxm hpr hY hJ hg2 hJ2 h0 hW hal3 hJ3;subst hW3
   gi_wp2_with (first
    |(refine gS _ O _ O W.heap.size _ ev O hen ?_)
    |gi_in)
   refine hR.mono ?_;rintro e W4 ⟨rfl,hJ4,hk4⟩
   gi_wp2
   have hit4:=hk4.same _ _ hit3 O;have hmp4:=hk4.same _ _ hmp3 O
   go_roundw
   case rel=>exact⟨_,_,hit4,hmp4,by rw[hnew];exact hP2,hJ4⟩
   case measure=>rw[kX hmp4 hit4,hl1,hlt];simp
theorem Dd(Bm off mb:Nat)(es:Array MapEntry)(clock:Nat)(xs:List PP)(w:World)(hst:cQ es.toList clock)(hx:es.toList.map (·.key)=xs.map dR)(hBm:Bm<w.heap.size)
  (hm0:w.cell? ⟨Bm,off,none⟩=some (.map (some mb))) (hb0:w.heap[mb]? =some (.map es clock)):
  Np true prog 215 #[.pointer (some ⟨Bm,off,none⟩)] (fun x=> #[dR x]) KeepsWalks (fun pre x=>∃rest,(pre++x::rest).Perm xs) (fun ss=>ss.Perm xs) w:=by
 intro l J W hW hJ hY h0;have h0:∀o,J [] (W.alloc o):=h0;have hm:W.cell? ⟨Bm,off,none⟩=some (.map (some mb)):=(hW.cell (p:=⟨Bm,off,none⟩) hBm).trans hm0;have hmb:mb<w.heap.size:=(Pc.1 hb0).1;have hb:W.heap[mb]? =some (.map es clock):=(hW.block mb hmb).trans hb0;have hne:mb≠W.heap.size:=by have:=hW.size;omega
 clear hm0 hb0;have hnd:=hst.1;refine callsIn_of_wp func215 O trivial ?_ O;simp only[ntmps215,Pv,Pd,Rt,Nat.reduceAdd,Nat.reduceSub,RZ,R7,SH,Su,Qa,Qq]
 gi_wp2_with (first
  |(gi_at_range;refine ig _ O _ 118 O 238 116 underlying118 mb es clock O hb ?_)
  |gi_in)
 try go_frame
 gi_loopw [3] (fun _ wr=>∃(seen:Array Nat)(ss:List PP),wr.heap[W.heap.size]? =some (.mapIter (some mb) clock seen clock)/\wr.heap[mb]? =some (.map es clock)/\(ss.map dR++fw es seen).Perm (xs.map dR)/\J ss wr)
  (fun _ wr=>wr.rangeLeft mb W.heap.size)
 case atStart=>
  exact⟨#[],[],World.alloc_heap_new W _,(Below.heap_alloc W _ mb (by have:=hW.size;omega)).trans hb,by rw[oi,hx];exact PY _,h0 _⟩
 case round=>
  obtain⟨seen,ss,hit,hmp,hP,hJs⟩:=hrel
  gi_wp2_with (first
   |(gi_at_next;refine r7 _ rfl _ rfl W.heap.size mb clock seen es rfl hit hmp (fun e=>hne e.symm) hst ?_ ?_)
   |gi_in)
  ·intro h00
   gi_wp2
   go_end0
   rw[ly (by simp[h00]),PZ]at hP;exact⟨⟨_,O⟩,ss,cK (fun _ _=>jR) hP,hJs⟩
  ·intro e he W2 hit2 hmp2 hg2;have he:e∈(leftOf es seen).toList:=by simpa using he
   obtain⟨hem,x,hxm,hxe⟩:=yK hx he;have hJ2:J ss W2:=hJ ss wr W2 (some W.heap.size) hJs hg2 (fun q e=>by cases e;exact⟨TB,O⟩);have hst1:=k8 hst he;clear hst;obtain⟨ek,ev,eb⟩:=e;obtain rfl:dR x=ek:=hxe;have hen:(Instr.entry (.pointer (some ⟨W.heap.size,0,none⟩))).run prog W2= .ok (.tuple #[dR x,ev]) W2:=run_entry_at W2 W.heap.size mb clock seen es clock ⟨dR x,ev,eb⟩ hit2 hmp2 hem hnd;simp only at hit2;generalize hk0:dR x=kx at hen ⊢;have hk1:kx= .agg #[.int .i64 x.1.f,.string x.1.c,.int .i64 x.2.f,.string x.2.c]:=hk0.symm;subst hk1;have hP2:=((hst1.append_left (ss.map dR)).symm.trans hP);obtain⟨rest,hrest⟩:=qL (enc:=dR) hx (seen.push eb);have hpr:∃rest,(ss++x::rest).Perm xs:=⟨rest,cK (fun _ _=>jR) (by rw[PD,bL,<-hrest];exact hP2)⟩;obtain⟨W3,hW3⟩:∃W3,W2.alloc (.cells #[.int .i64 x.1.f,.string x.1.c,.int .i64 x.2.f,.string x.2.c] 238)=W3:=⟨_,O⟩;have hal3:Below W2.heap.size W2 W3:=by rw[<-hW3];exact(Below.refl _ W2).alloc (BY _) _
   have hJ3:J ss W3:=hJ ss W2 W3 none hJ2 ⟨hal3.os,hal3.tape,hal3.output,hal3.size,fun k hk _=>hal3.block k hk⟩ (fun q e=>by cases e);have hit3:W3.heap[W.heap.size]? =some (.mapIter (some mb) clock (seen.push eb) clock):=(hal3.block _ (Pc.1 hit2).1).trans hit2;have hmp3:W3.heap[mb]? =some (.map es clock):=(hal3.block _ (Pc.1 hmp2).1).trans hmp2;have hlt:=hst1.length_eq;have hl1:=kX hmp hit;have hnew:(ss++[x]).map dR++fw es (seen.push eb)=ss.map dR++dR x::fw es (seen.push eb):=Tw;obtain⟨fn,tmps,assign,body,hy,hR⟩:=hY ss x W3 hJ3 hpr;rw[hk0]at hy;clear hP hst1 he hem hx hxm hpr hY hJ hg2 hJ2 h0 hW hal3 hJ3;subst hW3
   gi_wp2_with (first
    |(refine gS _ O _ O W.heap.size _ ev O hen ?_)
    |gi_in)
   refine hR.mono ?_;rintro e W4 ⟨rfl,hJ4,hk4⟩
   gi_wp2
   have hit4:=hk4.same _ _ hit3 O;have hmp4:=hk4.same _ _ hmp3 O
   go_roundw
   case rel=>exact⟨_,_,hit4,hmp4,by rw[hnew];exact hP2,hJ4⟩
   case measure=>rw[kX hmp4 hit4,hl1,hlt];simp
theorem EJ(Bm off mb:Nat)(es:Array MapEntry)(clock:Nat)(xs:List ByteArray)(w:World)(hst:cQ es.toList clock)(hx:es.toList.map (·.key)=xs.map Value.string)(hBm:Bm<w.heap.size)
  (hm0:w.cell? ⟨Bm,off,none⟩=some (.map (some mb))) (hb0:w.heap[mb]? =some (.map es clock)):
  Np true prog 345 #[.pointer (some ⟨Bm,off,none⟩)] (fun x=> #[Value.string x]) KeepsWalks (fun pre x=>∃rest,(pre++x::rest).Perm xs) (fun ss=>ss.Perm xs) w:=by
 intro l J W hW hJ hY h0;have h0:∀o,J [] (W.alloc o):=h0;have hm:W.cell? ⟨Bm,off,none⟩=some (.map (some mb)):=(hW.cell (p:=⟨Bm,off,none⟩) hBm).trans hm0;have hmb:mb<w.heap.size:=(Pc.1 hb0).1;have hb:W.heap[mb]? =some (.map es clock):=(hW.block mb hmb).trans hb0;have hne:mb≠W.heap.size:=by have:=hW.size;omega
 clear hm0 hb0;have hnd:=hst.1;refine callsIn_of_wp func345 O trivial ?_ O;simp only[ntmps345,Pv,Pd,Rt,Nat.reduceAdd,Nat.reduceSub,RZ,R7,SH,Su,Qa,Qq]
 gi_wp2_with (first
  |(gi_at_range;refine ig _ O _ 107 O 9 39 underlying107 mb es clock O hb ?_)
  |gi_in)
 try go_frame
 gi_loopw [3] (fun _ wr=>∃(seen:Array Nat)(ss:List ByteArray),wr.heap[W.heap.size]? =some (.mapIter (some mb) clock seen clock)/\wr.heap[mb]? =some (.map es clock)/\(ss.map Value.string++fw es seen).Perm (xs.map Value.string)/\J ss wr)
  (fun _ wr=>wr.rangeLeft mb W.heap.size)
 case atStart=>
  exact⟨#[],[],World.alloc_heap_new W _,(Below.heap_alloc W _ mb (by have:=hW.size;omega)).trans hb,by rw[oi,hx];exact PY _,h0 _⟩
 case round=>
  obtain⟨seen,ss,hit,hmp,hP,hJs⟩:=hrel
  gi_wp2_with (first
   |(gi_at_next;refine r7 _ rfl _ rfl W.heap.size mb clock seen es rfl hit hmp (fun e=>hne e.symm) hst ?_ ?_)
   |gi_in)
  ·intro h00
   gi_wp2
   go_end0
   rw[ly (by simp[h00]),PZ]at hP;exact⟨⟨_,O⟩,ss,cK (fun _ _=>mI) hP,hJs⟩
  ·intro e he W2 hit2 hmp2 hg2;have he:e∈(leftOf es seen).toList:=by simpa using he
   obtain⟨hem,x,hxm,hxe⟩:=yK hx he;have hJ2:J ss W2:=hJ ss wr W2 (some W.heap.size) hJs hg2 (fun q e=>by cases e;exact⟨TB,O⟩);have hst1:=k8 hst he;clear hst;obtain⟨ek,ev,eb⟩:=e;obtain rfl:Value.string x=ek:=hxe;have hen:(Instr.entry (.pointer (some ⟨W.heap.size,0,none⟩))).run prog W2= .ok (.tuple #[Value.string x,ev]) W2:=run_entry_at W2 W.heap.size mb clock seen es clock ⟨Value.string x,ev,eb⟩ hit2 hmp2 hem hnd;simp only at hit2;generalize hk0:Value.string x=kx at hen ⊢;have hk1:kx= .string x:=hk0.symm;subst hk1;have hP2:=((hst1.append_left (ss.map Value.string)).symm.trans hP);obtain⟨rest,hrest⟩:=qL (enc:=Value.string) hx (seen.push eb);have hpr:∃rest,(ss++x::rest).Perm xs:=⟨rest,cK (fun _ _=>mI) (by rw[PD,bL,<-hrest];exact hP2)⟩;obtain⟨W3,hW3⟩:∃W3,W2=W3:=⟨_,O⟩;have hal3:Below W2.heap.size W2 W3:=by rw[<-hW3];exact Below.refl _ W2
   have hJ3:J ss W3:=hJ ss W2 W3 none hJ2 ⟨hal3.os,hal3.tape,hal3.output,hal3.size,fun k hk _=>hal3.block k hk⟩ (fun q e=>by cases e);have hit3:W3.heap[W.heap.size]? =some (.mapIter (some mb) clock (seen.push eb) clock):=(hal3.block _ (Pc.1 hit2).1).trans hit2;have hmp3:W3.heap[mb]? =some (.map es clock):=(hal3.block _ (Pc.1 hmp2).1).trans hmp2;have hlt:=hst1.length_eq;have hl1:=kX hmp hit;have hnew:(ss++[x]).map Value.string++fw es (seen.push eb)=ss.map Value.string++Value.string x::fw es (seen.push eb):=Tw;obtain⟨fn,tmps,assign,body,hy,hR⟩:=hY ss x W3 hJ3 hpr;rw[hk0]at hy;clear hP hst1 he hem hx hxm hpr hY hJ hg2 hJ2 h0 hW hal3 hJ3;subst hW3
   gi_wp2_with (first
    |(refine gS _ O _ O W.heap.size _ ev O hen ?_)
    |gi_in)
   refine hR.mono ?_;rintro e W4 ⟨rfl,hJ4,hk4⟩
   gi_wp2
   have hit4:=hk4.same _ _ hit3 O;have hmp4:=hk4.same _ _ hmp3 O
   go_roundw
   case rel=>exact⟨_,_,hit4,hmp4,by rw[hnew];exact hP2,hJ4⟩
   case measure=>rw[kX hmp4 hit4,hl1,hlt];simp
end
section
abbrev apO(T E:TypeId)(sz n:Nat)(cs:List PV):List (Nat×Ob):=[(big,.mix T [.gsl 0 sz n]),(0,.gro E cs)]
theorem yC{T E:TypeId}{sz n:Nat}{cs:List PV}{id:Nat}(h1:id≠big)(h2:id≠0):ax (apO T E sz n cs) id=none:=by
 have b1:Nat.beq id big=false:=by cases hb:Nat.beq id big;rfl;exact absurd (aI hb) h1
 have b2:Nat.beq id 0=false:=by cases hb:Nat.beq id 0;rfl;exact absurd (aI hb) h2
 simp only[ax,b1,b2,PE]
theorem ES{id:Nat}(h:avK 1 id=true):id≠big/\id≠0/\id<big:=by
 have h1:Nat.ble 1 id=true/\Nat.blt id big=true:=by simpa[avK]using h
 have g1:=Pp h1.1;have g2:id<big:=Pp h1.2;exact⟨Ts,Ts,g2⟩
theorem vR{P:Program}{w W:World}{R:Nat->Prop}{T E:TypeId}{sz b4:Nat}(hG:nU w R)(hR:∀b,R b->b<w.heap.size)(hb:Below w.heap.size w W)(h4:W.heap[b4]? =some (.cells #[.slice none 0 0] T (0,0)))(g4:w.heap.size<=b4):
  Btw P w R [b4] [] (apO T E sz 0 []) 1 W:=by
 have l4:b4<W.heap.size:=(Pc.1 h4).1;obtain⟨m,hm⟩:∃m:Gm,m=fun id=>if id=big then some (b4,1)else none:=⟨_,O⟩
 have m4:m big=some (b4,1):=by rw[hm];simp
 have mn:∀id,id≠big->m id=none:=fun id h=>by rw[hm];simp[h]
 have mc:∀id b N,m id=some (b,N)->id=big/\b=b4/\N=1:=fun id b N e=>by
  by_cases h:id=big
  ·subst h;rw[m4]at e;cases e;exact⟨O,O,O⟩
  ·rw[mn id h]at e;cases e
 have hRk:∀b,R b->R b/\W.heap[b]? =w.heap[b]? :=fun b h=>⟨h,hb.block b (hR b h)⟩
 have nR:∀b,w.heap.size<=b->¬R b:=fun b h hr=>by have:=hR b hr;omega
 have hgeb:∀id b N,m id=some (b,N)->w.heap.size<=b/\b<W.heap.size:=fun id b N e=>by
  obtain⟨_,rfl,_⟩:=mc id b N e;exact⟨g4,l4⟩
 refine⟨⟨m,⟨R,hG.mono hRk,fun b h=>⟨Ps (hR b h) hb.size,fun⟨id,N,e⟩=>nR b (hgeb id b N e).1 h⟩,[]⟩,?_,?_,?_,fun _ h=>h,?_⟩,hb,fun x hx=>absurd hx Tw⟩
 ·refine⟨fun id=>?_,fun id h=>?_,fun id o b N ho e=>?_,fun i j b N N' e1 e2=>?_,fun id b N e=>⟨(hgeb id b N e).2,nR b (hgeb id b N e).1,.inl ⟨id,N,e⟩⟩,fun b h=>Ps (hR b h) hb.size,fun b h=> .inl h,fun b h=>h,Fr.refl _ _,fun _ _ _ e=>e,fun id h=>?_⟩
  ·by_cases e1:id=big
   ·subst e1;rw[m4];rfl
   ·rw[mn id e1];by_cases e2:id=0
    ·subst e2;rfl
    ·rw[yC e1 e2];rfl
  ·obtain⟨h1,h2,_⟩:=ES h;exact yC h1 h2
  ·obtain⟨rfl,rfl,rfl⟩:=mc id b N e;obtain rfl:o= .mix T [.gsl 0 sz 0]:=by
    have:ax (apO T E sz 0 []) big=some (.mix T [.gsl 0 sz 0]):=rfl;rw[this]at ho;cases ho;rfl
   refine⟨_,h4,O,BY 1,?_⟩;simp only[RelL,Rel];refine⟨_,_,O,⟨O,none,0,O,BY _,Tu,fun _=>⟨O,O,mn 0 Tu⟩,fun h=>absurd h Tu⟩,O⟩
  ·exact(mc i b N e1).1.trans (mc j b N' e2).1.symm
  ·show(Nat.ble 1 id&&Nat.blt id big)=false;have:Nat.blt id big=false:=by cases hb:Nat.blt id big;rfl;have:=Pp hb;omega
   rw[this,Bool.and_false]
 ·intro j b hj;match j with
  |0=>cases hj;exact⟨1,m4⟩
  |j+1=>simp at hj
 ·exact fun id b N e=>⟨(hgeb id b N e).1,Tw⟩
 ·exact fun b h=>⟨.inl h,Tw⟩
theorem vB{P:Program}{w W:World}{m:Gm}{R:RT w (dj m)}{T E:TypeId}{sz n b4:Nat}{cs:List PV}{X:List Nat}(hm0:∀id,m id=none)(h:Btw P w R.p [b4] X (apO T E sz n cs) 1 W):
  ∃u,W.cell? ⟨b4,0,none⟩=some u/\∀W':World,Below w.heap.size w W'->W.heap.size<=W'.heap.size->(∀q,q<W.heap.size->q∉X->W'.heap[q]? =W.heap[q]?)->
   ∃m' R',HR ⟨P,m,w,dj m,R⟩ m' R' (ax [(0,.gro E cs)]) (avK 1) W'/\Rel W' m' (avK 1) R' (.gsl 0 sz n) u:=by
 obtain⟨mB,rt,hr,h1,h2,h3,h4⟩:=h.ex;obtain⟨N4,hN4⟩:=h1 0 b4 O;obtain⟨arr,e1,e2,e3,e4⟩:=hr.obj big (.mix T [.gsl 0 sz n]) b4 N4 O hN4;simp only[RelL]at e4;obtain⟨u,_,ha,hu,rfl⟩:=e4;have c4:W.cell? ⟨b4,0,none⟩=some u:=by
  have:arr[0]? =some u:=by
   have:=ag (·[0]?) ha;simpa using this
  simp[World.cell?,e1,this]
 refine⟨u,c4,fun W' hb hs hq=>?_⟩;have hRk:∀b,rt.p b->rt.p b/\W'.heap[b]? =W.heap[b]? :=fun b hb'=>⟨hb',hq b (rt.d b hb').1 (h4 b hb').2⟩
 have hown:=hr.own;obtain⟨m',hm⟩:∃m':Gm,m'=fun id=>if id=0 then mB 0 else none:=⟨_,O⟩
 have m0:m' 0=mB 0:=by rw[hm];simp
 have mn:∀id,id≠0->m' id=none:=fun id h=>by rw[hm];simp[h]
 have ms:∀id x,m' id=some x->mB id=some x:=fun id x e=>by
  by_cases h:id=0
  ·subst h;rw[m0]at e;exact e
  ·rw[mn id h]at e;cases e
 have hl0:ax [(0,Ob.gro E cs)] 0=some (.gro E cs):=rfl;have hln:∀id,id≠0->ax [(0,Ob.gro E cs)] id=none:=fun id h=>by
  have b2:Nat.beq id 0=false:=by cases hb:Nat.beq id 0;rfl;exact absurd (aI hb) h
  simp only[ax,b2,PE]
 refine⟨m',rt.p,⟨fun id=>?_,fun id h=>?_,fun id o b N ho e=>?_,fun i j b N N' a1 a2=>hr.inj i j b N N' (ms _ _ a1) (ms _ _ a2),fun id b N e=>⟨Ps (hown id b N (ms _ _ e)).1 hs,(hown id b N (ms _ _ e)).2.1,.inr (h2 id b N (ms _ _ e)).1⟩,
  fun b hb'=>Ps (hr.rsz b hb') hs,fun b hb'=>(h4 b hb').1.imp id .inl,h3,Fr.LW hb _,fun id x hid e=>?_,fun id hid=>cA hid⟩,?_⟩
 ·by_cases e:id=0
  ·subst e;rw[m0,hl0];exact hr.dom 0
  ·rw[mn id e,hln id e];rfl
 ·exact hln id (ES h).2.1
 ·have e0:id=0:=by
   by_cases e':id=0
   ·exact e'
   ·rw[mn id e']at e;cases e
  subst e0;rw[hl0]at ho;cases ho;exact kE.mono hRk (fun id x _ e=>ms id x e) (fun _ e=>e) (hq b (hown 0 b N (ms _ _ e)).1 (h2 0 b N (ms _ _ e)).2) (hr.obj 0 _ b N O (ms _ _ e))
 ·rw[mn id (by have:big=9000:=rfl;omega)]at e;cases e
 ·exact hu.mono hRk (fun id x _ e=>ms id x e) fun _ e=>e
theorem vI{P:Program}{m:Gm}{w:World}{R:RT w (dj m)}{R':Nat->Prop}{av:Av}(h:HR ⟨P,m,w,dj m,R⟩ m R' (ax []) av w):∀id,m id=none:=fun id=>by
 have:=h.dom id;cases hm:m id with
 |none=>rfl
 |some x=>rw[hm]at this;cases this
theorem xS{α:Type}{enc:α->Value}:∀{l:List Value},(∀v∈l,∃x,enc x=v)->∃rest:List α,l=rest.map enc
 |[],_=>⟨[],O⟩
 | v::l,h=>by
   obtain⟨x,hxe⟩:=h v Tw;obtain⟨r,hr⟩:=xS (l:=l) fun u hu=>h u (by simp[hu])
   exact⟨x::r,by rw[bL,hxe,<-hr]⟩
theorem Lx{α:Type}{enc:α->Value}{kp:α->PV}(hk:∀(w:World)(R:Nat->Prop)(x:α)(u:Value),RelP w R (kp x) u->u=enc x){w:World}{R:Nat->Prop}{xs:List α}{vs:List PV}{u:Value}(h:RelP w R (.mp (xs.map kp) vs) u):
  ∃(mb:Nat)(es:Array MapEntry)(clock:Nat)(xs':List α),u= .map (some mb)/\R mb/\w.heap[mb]? =some (.map es clock)/\cQ es.toList clock/\es.toList.map (·.key)=xs'.map enc/\(xs'.map enc).Perm (xs.map enc):=by
 simp only[RelP]at h;obtain⟨b,rfl,hb,es,clock,l,h1,h2,h3,h4,h5⟩:=h;have key:∀{ys:List α}{us:List Value},RelPL w R (ys.map kp) us->us=ys.map enc:=by
  intro ys;induction ys with
  |nil=>intro us h;simpa[RelPL]using h
  | cons y ys ih=>
    intro us h;simp only[bL,RelPL]at h;obtain⟨u,vs,rfl,h6,h7⟩:=h;rw[hk _ _ _ _ h6,ih h7];rfl
 have e:=key h2;have hp:(es.toList.map (·.key)).Perm (xs.map enc):=by rw[<-e];exact(h5.map _).symm
 obtain⟨xs',hx⟩:=xS (enc:=enc) (l:=es.toList.map (·.key)) fun v hv=>by
  obtain⟨x,_,hx⟩:=IT.1 (hp.subset hv);exact⟨x,hx⟩
 exact⟨b,es,clock,xs',O,hb,h1,h4,hx,hx▸hp⟩
end
section
open Go.RowKit Go.Shelf Mm
attribute [local go_sem] Oper.semAt_some
abbrev Nn(x:ByteArray):List PV:=[.str x]
theorem KB(w:World)(R:Nat->Prop)(x:Par)(u:Value)(h:RelP w R (cP x) u):u=cf x:=by
 simp only[RelP,RelPL]at h;obtain⟨us,rfl,u1,v1,rfl,rfl,u2,v2,rfl,rfl,rfl⟩:=h;rfl
theorem J9(w:World)(R:Nat->Prop)(x:PP)(u:Value)(h:RelP w R (ppP x) u):u=dR x:=by
 simp only[RelP,RelPL]at h;obtain⟨us,rfl,u1,v1,rfl,rfl,u2,v2,rfl,rfl,u3,v3,rfl,rfl,u4,v4,rfl,rfl,rfl⟩:=h;rfl
theorem K7(w:World)(R:Nat->Prop)(x:ByteArray)(u:Value)(h:RelP w R (PV.str x) u):u=Value.string x:=by
 simpa only[RelP]using h
def r9(l:List Par):List PV:=l.flatMap oR
theorem xR(l:List Par):(r9 l).length=l.length*2:=bV _ 2 (fun _=>rfl) l
theorem Dy(l:List Par)(t:Par):r9 l++oR t=r9 (l++[t]):=by simp[r9]
noncomputable def apBodyP:Code:=match Tryz.f289.body with
 |some (.seq _ (.seq (.seq _ (.block _ (.rangeFunc _ _ _ b))) _))=>b
 |_=> .skip
theorem Ex(ss:List Par)(x:Par)(hs:ss.length<=1000000):∀m0 w0 F R0,AWR ⟨prog,m0,w0,F,R0⟩ Tryz.f289.ntmps apBodyP (fun ex τ=>ex= .normal/\τ.le (mkS [] (apO 171 147 2 (ss++[x]).length (r9 (ss++[x]))) 1)) (mkS [(2,.ptr big 0),(5,.pv (.rp (oR x) 0))] (apO 171 147 2 ss.length (r9 ss)) 1):=by
 intro m0 w0 F R0;have hgl:=xR ss
 repeat refine AWR.seq ?_
 refine AWR.block ?_
 repeat refine AWR.seq ?_
 refine AWR.region O ?_;iterate 5 refine A1 O ?_
 exact⟨O,OY [2] trivial ⟨PG (b:=some (.mix 171 [.gsl 2 2 (ss.length+1)])) Tt (ag (fun n=>some (Ob.mix 171 [.gsl 2 2 n])) Tw),PG (b:=some (.gro 147 (r9 ss++oR x))) Tt (ag (fun c=>some (Ob.gro 147 c)) (Dy ss _)),TB⟩ O O Tu O⟩
def sq(l:List PP):List PV:=l.flatMap ppC
theorem yp(l:List PP):(sq l).length=l.length*4:=bV _ 4 (fun _=>rfl) l
theorem Dw(l:List PP)(t:PP):sq l++ppC t=sq (l++[t]):=by simp[sq]
noncomputable def apBodyQ:Code:=match Tryz.f292.body with
 |some (.seq _ (.seq (.seq _ (.block _ (.rangeFunc _ _ _ b))) _))=>b
 |_=> .skip
theorem Eu(ss:List PP)(x:PP)(hs:ss.length<=1000000):∀m0 w0 F R0,AWR ⟨prog,m0,w0,F,R0⟩ Tryz.f292.ntmps apBodyQ (fun ex τ=>ex= .normal/\τ.le (mkS [] (apO 235 238 4 (ss++[x]).length (sq (ss++[x]))) 1)) (mkS [(2,.ptr big 0),(5,.pv (.rp (ppC x) 0))] (apO 235 238 4 ss.length (sq ss)) 1):=by
 intro m0 w0 F R0;have hgl:=yp ss
 repeat refine AWR.seq ?_
 refine AWR.block ?_
 repeat refine AWR.seq ?_
 refine AWR.region O ?_;iterate 5 refine A1 O ?_
 exact⟨O,OY [2] trivial ⟨PG (b:=some (.mix 235 [.gsl 2 4 (ss.length+1)])) Tt (ag (fun n=>some (Ob.mix 235 [.gsl 2 4 n])) Tw),PG (b:=some (.gro 238 (sq ss++ppC x))) Tt (ag (fun c=>some (Ob.gro 238 c)) (Dw ss _)),TB⟩ O O Tu O⟩
def uW(l:List ByteArray):List PV:=l.flatMap Nn
theorem I3(l:List ByteArray):(uW l).length=l.length*1:=bV _ 1 (fun _=>rfl) l
theorem E1(l:List ByteArray)(t:ByteArray):uW l++Nn t=uW (l++[t]):=by simp[uW]
noncomputable def apBodyS:Code:=match Tryz.f389.body with
 |some (.seq _ (.seq (.seq _ (.block _ (.rangeFunc _ _ _ b))) _))=>b
 |_=> .skip
theorem Ca(ss:List ByteArray)(x:ByteArray)(hs:ss.length<=1000000):∀m0 w0 F R0,AWR ⟨prog,m0,w0,F,R0⟩ Tryz.f389.ntmps apBodyS (fun ex τ=>ex= .normal/\τ.le (mkS [] (apO 39 9 1 (ss++[x]).length (uW (ss++[x]))) 1)) (mkS [(2,.ptr big 0),(5,.pv (.str x))] (apO 39 9 1 ss.length (uW ss)) 1):=by
 intro m0 w0 F R0;have hgl:=I3 ss
 repeat refine AWR.seq ?_
 refine AWR.block ?_
 repeat refine AWR.seq ?_
 refine AWR.region O ?_;iterate 5 refine A1 O ?_
 exact⟨O,OY [2] trivial ⟨PG (b:=some (.mix 39 [.gsl 2 1 (ss.length+1)])) Tt (ag (fun n=>some (Ob.mix 39 [.gsl 2 1 n])) Tw),PG (b:=some (.gro 9 (uW ss++Nn x))) Tt (ag (fun c=>some (Ob.gro 9 c)) (E1 ss _)),TB⟩ O O Tu O⟩
theorem rZ{T E:TypeId}{sz n:Nat}{cs:List PV}(i:Nat)(o:Ob)(h:ax (apO T E sz n cs) i=some o):o.jv=true:=by
 have:=bu h;simp only[AS,P7,R6,Prod.mk.injEq]at this;rcases this with⟨_,rfl⟩|⟨_,rfl⟩<;>rfl
theorem Fz{W2:World}{m:Gm}{av:Av}{R:Nat->Prop}{cs:List PV}{us:List Value}{ty:TypeId}{B:Nat}(hrel:RelPL W2 R cs us)(h1:R B)(h2:W2.heap[B]? =some (.cells us.toArray ty (0,0))):Rel W2 m av R (.pv (.rp cs 0)) (.pointer (some ⟨B,0,none⟩)):=by
 simp only[Rel,RelP];exact⟨B,0,us,O,hrel,h1,fun j _=>by simp[World.cell?,h2]⟩
theorem rT{W:World}{m:Gm}{R:Nat->Prop}{v:V}{b:Nat}{a:Act}(h2:a.eval (.tmp 2)= .pointer (some ⟨b,0,none⟩))(h5:Rel W m (avK 1) R v (a.eval (.tmp 5)))(hm:∃N,m big=some (b,N))(t:Nat):
  Rel W m (avK 1) R (look [(2,.ptr big 0),(5,v)] t) (a.eval (.tmp t)):=by
 by_cases e2:t=2
 ·subst e2;rw[h2];show Rel W m (avK 1) R (.ptr big 0) _;obtain⟨N,hN⟩:=hm;simp only[Rel];exact⟨Tu,fun b' N' e=>by rw[hN]at e;cases e;rfl⟩
 ·by_cases e5:t=5
  ·subst e5;exact h5
  ·have b2':Nat.beq t 2=false:=by cases hb:Nat.beq t 2;rfl;exact absurd (aI hb) e2
   have b5':Nat.beq t 5=false:=by cases hb:Nat.beq t 5;rfl;exact absurd (aI hb) e5
   have e:look [(2,V.ptr big 0),(5,v)] t= .pv .any:=by simp only[look,b2',b5',PE]
   rw[e];simp only[Rel,RelP]
theorem k9{n:Nat}{w W:World}{r:Nat}{o:Obj}(h:Below n w W)(hr:n<=r):Below n w (W.putObj r o):=
 ⟨h.os,h.tape,h.output,by simpa using h.size,fun k hk=>(World.putObj_heap_other Ts).trans (h.block k hk)⟩
theorem vH{α:Type}{enc:α->Value}{kp:α->PV}{f:FuncId}(hk:∀(w:World)(R:Nat->Prop)(x:α)(u:Value),RelP w R (kp x) u->u=enc x){w:World}{R:Nat->Prop}{xs:List α}{vs:List PV}{u:Value}(h:RelP w R (.fn (.func f) [] [.rp [.mp (xs.map kp) vs] 0]) u):
  ∃(b off mb:Nat)(es:Array MapEntry)(clock:Nat)(xs':List α),u= .func (.func f) #[] #[.pointer (some ⟨b,off,none⟩)]/\R b/\w.cell? ⟨b,off,none⟩=some (.map (some mb))/\R mb/\w.heap[mb]? =some (.map es clock)/\cQ es.toList clock/\es.toList.map (·.key)=xs'.map enc/\(xs'.map enc).Perm (xs.map enc):=by
 rw[RelP]at h;obtain⟨us,vs',rfl,h1,h2⟩:=h;simp only[RelPL]at h1 h2;obtain⟨u3,us3,rfl,h3,rfl⟩:=h2;subst h1;rw[RelP]at h3;obtain⟨b,off,us4,rfl,h4,h5⟩:=h3;simp only[RelPL]at h4;obtain⟨um,us5,rfl,h6,rfl⟩:=h4;obtain⟨mb,es,clock,xs',rfl,g1,g2,g3,g4,g5⟩:=Lx hk h6;refine⟨b,off,mb,es,clock,xs',O,h5.1,?_,g1,g2,g3,g4,g5⟩;have:=h5.2 0 Tw;simpa using this
theorem N7(b off mb:Nat)(es:Array MapEntry)(clock:Nat)(xs:List Par)(w:World)(m:Gm)(R:RT w (dj m))(hm0:∀id,m id=none)(hn:xs.length<=1000000)(hst:cQ es.toList clock)(hx:es.toList.map (·.key)=xs.map cf)(hbl:b<w.heap.size)
  (hc:w.cell? ⟨b,off,none⟩=some (.map (some mb))) (hb:w.heap[mb]? =some (.map es clock)):
  CallsIn Fence.wide 2 prog 289 #[.slice none 0 0,.func (.func 210) #[] #[.pointer (some ⟨b,off,none⟩)]] w fun e w'=>∃u ss m' R',e= .returned u/\ss.Perm xs/\HR ⟨prog,m,w,dj m,R⟩ m' R' (ax [(0,.gro 147 (r9 ss))]) (avK 1) w'/\Rel w' m' (avK 1) R' (.gsl 0 2 ss.length) u:=by
 have eg:=enters_of (P:=prog) func210 Tt O;refine callsIn_of_wp_marks func289 O trivial ?_ O;simp only[ntmps289,Pv,Pd,Rt,Nat.reduceAdd,Nat.reduceSub,RZ,R7,SH,Su,Qa,Qq]
 gi_wp2
 obtain⟨W0,hW0⟩:∃W0,w.alloc (Obj.cells #[Value.slice none 0 0] 171)=W0:=⟨_,O⟩;have hb0:Below w.heap.size w W0:=by rw[<-hW0];exact(Below.refl _ w).alloc (BY _) _
 have hB4:W0.heap[w.heap.size]? =some (.cells #[.slice none 0 0] 171 (0,0)):=by rw[<-hW0];exact World.alloc_heap_new w _
 have hmbl:mb<w.heap.size:=(Pc.1 hb).1;rw[hW0];refine jU (nt:=13) (w0:=w) (R0:=R.p) (bs:=[w.heap.size]) true (encs:=fun x=> #[cf x]) O eg (BD b off mb es clock xs W0 hst hx (Ps hbl hb0.size) ((hb0.cell (p:=⟨b,off,none⟩) hbl).trans hc) ((hb0.block mb hmbl).trans hb)) (fun _=>rfl) (fun _ _ _ h=>h) (fun h=>by cases h)
  (fun pre os k=>os=apO 171 147 2 pre.length (r9 pre)/\k=1) ⟨O,O⟩ (vR R.g (fun b h=>(R.d b h).1) hb0 hB4 (BY _)) ?cell
  (fun x W=>{ tmps:= #[.slice none 0 0,.func (.func 210) #[] #[.pointer (some ⟨b,off,none⟩)],.pointer (some ⟨w.heap.size,0,none⟩),undef,.slice none 0 0,.pointer (some ⟨W.heap.size,0,none⟩),.func (.func 210) #[] #[.pointer (some ⟨b,off,none⟩)],cf x,undef,undef,undef,undef,undef],defers:=[] })
  (fun x W=>W.alloc (.cells #[.int .i64 x.f,.string x.c] 147)) (fun x W=>(Below.refl _ W).alloc (BY _) _) (fun _ _=>⟨O,O⟩) ?assign ?body ?done
 case cell=>rintro _ pre os k ⟨rfl,rfl⟩ i o h;exact rZ i o h
 case assign=>
  intro l x W K hK;simp only[cf]at hK ⊢
  gi_wp2
  exact hK
 case body=>
  rintro pre x os k ⟨rfl,rfl⟩ ⟨rest,hpr⟩;have hpl:pre.length<=1000000:=by have:=hpr.length_eq;simp at this;omega
  refine⟨_,_,Ex pre x hpl,?_,?_⟩
  ·rintro ex τ ⟨rfl,h⟩;exact ⟨_,_,h,fun j hj=>by obtain rfl:j=0:=(by simpa using hj);rfl,O,O,O⟩
  ·intro W W2 m2 R2 hnew hm2 hR2 t _;refine rT O ?_ (hm2 0 _ O) t;obtain⟨g1,g2⟩:=hnew W.heap.size (BY _) Tw;exact Fz (us:=(#[.int .i64 x.f,.string x.c]:Array Value).toList) (by simp only[RelPL,RelP];exact⟨_,_,O,O,_,_,O,O,O⟩) g1 (g2.trans (World.alloc_heap_new W _))
 case done=>
  rintro D X ss os k W hD hDl hDX hS ⟨rfl,rfl⟩ hB hdef;obtain⟨u,hcu,hout⟩:=vB hm0 hB;have hbelW:=hB.bel;clear hB hW0
  gi_wp2
  refine⟨Tw,.inl ⟨_,_,O,run_takeDeferred hdef,?_⟩⟩;refine⟨u,by simp[results,Tryz.f289,go_sem],u,ss,?_⟩;refine(hout _ (k9 hbelW hD) Tw (fun q _ hn=>World.putObj_heap_other (fun e=>hn (e▸hDX)))).imp fun m' h=>h.imp fun R' h=>⟨O,hS,h.1,h.2⟩
theorem F3(xs:List Par)(vs:List PV)(hn:xs.length<=1000000):FnO prog 289 0 1 [.pv nS,.pv (.fn (.func 210) [] [.rp [.mp (xs.map cP) vs] 0])] []
  (fun v ob=>∃ss,ss.Perm xs/\v= .gsl 0 2 ss.length/\ob=ax [(0,.gro 147 (r9 ss))]):=by
 intro w m R us hHR hrel;have hm0:=vI hHR;simp only[RelL,Rel]at hrel;obtain⟨u1,us1,rfl,h1,u2,us2,rfl,h2,rfl⟩:=hrel;simp only[RelP]at h1;obtain⟨A,c,rfl,_,_,hnil,hcz,_⟩:=h1;have hA:A=none:=by have:=hnil true O;simpa using this.symm
 obtain rfl:=hcz trivial;subst hA;obtain⟨b,off,mb,es,clock,xs',rfl,hRb,hcell,hRm,hb,hst,hx,hp⟩:=vH KB h2;refine Calls.mono (callsIn_wide.1 (N7 b off mb es clock xs' w m R hm0 (by have:=(cK (fun _ _=>iQ) hp).length_eq;omega) hst hx (R.d b hRb).1 hcell hb)) ?_;rintro e w' ⟨u,ss,m',R',rfl,hS,h3,h4⟩;refine⟨u,_,_,m',R',O,⟨ss,hS.trans (cK (fun _ _=>iQ) hp),O,O⟩,O,?_,h3,h4⟩;intro i o h;by_cases hi:i=0
 ·subst hi;cases h;exact⟨O,O⟩
 ·have b2:Nat.beq i 0=false:=by cases hb:Nat.beq i 0;rfl;exact absurd (aI hb) hi
  simp only[ax,b2,PE]at h;cases h
theorem Ef(xs:List Par)(vs:List PV)(hn:xs.length<=1000000):FnO prog 208 0 1 [.pv (.fn (.func 210) [] [.rp [.mp (xs.map cP) vs] 0])] []
  (fun v ob=>∃ss,ss.Perm xs/\v= .gsl 0 2 ss.length/\ob=ax [(0,.gro 147 (r9 ss))]):=by
 have hap:=F3 xs vs hn;refine FnO.of func208 O O (Pp O) ?_;intro m0 w0 F R0;refine Z1 O O<|Z1 O O ?_;refine RL.call O (bM [] 0 call289 O O O O (by exact trivial) Tu O hap ?_);rintro _ _ ⟨ss,hS,rfl,rfl⟩;exact A1 O<|Gt O<|⟨[(2,.gsl 0 2 ss.length)],[(0,.gro 147 (r9 ss))],_,OU (aS Tt) (aO Tt) O O,O,O,O,⟨ss,hS,O,O⟩⟩
theorem OL(b off mb:Nat)(es:Array MapEntry)(clock:Nat)(xs:List PP)(w:World)(m:Gm)(R:RT w (dj m))(hm0:∀id,m id=none)(hn:xs.length<=1000000)(hst:cQ es.toList clock)(hx:es.toList.map (·.key)=xs.map dR)(hbl:b<w.heap.size)
  (hc:w.cell? ⟨b,off,none⟩=some (.map (some mb))) (hb:w.heap[mb]? =some (.map es clock)):
  CallsIn Fence.wide 2 prog 292 #[.slice none 0 0,.func (.func 215) #[] #[.pointer (some ⟨b,off,none⟩)]] w fun e w'=>∃u ss m' R',e= .returned u/\ss.Perm xs/\HR ⟨prog,m,w,dj m,R⟩ m' R' (ax [(0,.gro 238 (sq ss))]) (avK 1) w'/\Rel w' m' (avK 1) R' (.gsl 0 4 ss.length) u:=by
 have eg:=enters_of (P:=prog) func215 Tt O;refine callsIn_of_wp_marks func292 O trivial ?_ O;simp only[ntmps292,Pv,Pd,Rt,Nat.reduceAdd,Nat.reduceSub,RZ,R7,SH,Su,Qa,Qq]
 gi_wp2
 obtain⟨W0,hW0⟩:∃W0,w.alloc (Obj.cells #[Value.slice none 0 0] 235)=W0:=⟨_,O⟩;have hb0:Below w.heap.size w W0:=by rw[<-hW0];exact(Below.refl _ w).alloc (BY _) _
 have hB4:W0.heap[w.heap.size]? =some (.cells #[.slice none 0 0] 235 (0,0)):=by rw[<-hW0];exact World.alloc_heap_new w _
 have hmbl:mb<w.heap.size:=(Pc.1 hb).1;rw[hW0];refine jU (nt:=13) (w0:=w) (R0:=R.p) (bs:=[w.heap.size]) true (encs:=fun x=> #[dR x]) O eg (Dd b off mb es clock xs W0 hst hx (Ps hbl hb0.size) ((hb0.cell (p:=⟨b,off,none⟩) hbl).trans hc) ((hb0.block mb hmbl).trans hb)) (fun _=>rfl) (fun _ _ _ h=>h) (fun h=>by cases h)
  (fun pre os k=>os=apO 235 238 4 pre.length (sq pre)/\k=1) ⟨O,O⟩ (vR R.g (fun b h=>(R.d b h).1) hb0 hB4 (BY _)) ?cell
  (fun x W=>{ tmps:= #[.slice none 0 0,.func (.func 215) #[] #[.pointer (some ⟨b,off,none⟩)],.pointer (some ⟨w.heap.size,0,none⟩),undef,.slice none 0 0,.pointer (some ⟨W.heap.size,0,none⟩),.func (.func 215) #[] #[.pointer (some ⟨b,off,none⟩)],dR x,undef,undef,undef,undef,undef],defers:=[] })
  (fun x W=>W.alloc (.cells #[.int .i64 x.1.f,.string x.1.c,.int .i64 x.2.f,.string x.2.c] 238)) (fun x W=>(Below.refl _ W).alloc (BY _) _) (fun _ _=>⟨O,O⟩) ?assign ?body ?done
 case cell=>rintro _ pre os k ⟨rfl,rfl⟩ i o h;exact rZ i o h
 case assign=>
  intro l x W K hK;simp only[dR]at hK ⊢
  gi_wp2
  exact hK
 case body=>
  rintro pre x os k ⟨rfl,rfl⟩ ⟨rest,hpr⟩;have hpl:pre.length<=1000000:=by have:=hpr.length_eq;simp at this;omega
  refine⟨_,_,Eu pre x hpl,?_,?_⟩
  ·rintro ex τ ⟨rfl,h⟩;exact ⟨_,_,h,fun j hj=>by obtain rfl:j=0:=(by simpa using hj);rfl,O,O,O⟩
  ·intro W W2 m2 R2 hnew hm2 hR2 t _;refine rT O ?_ (hm2 0 _ O) t;obtain⟨g1,g2⟩:=hnew W.heap.size (BY _) Tw;exact Fz (us:=(#[.int .i64 x.1.f,.string x.1.c,.int .i64 x.2.f,.string x.2.c]:Array Value).toList) (by simp only[RelPL,RelP];exact⟨_,_,O,O,_,_,O,O,_,_,O,O,_,_,O,O,O⟩) g1 (g2.trans (World.alloc_heap_new W _))
 case done=>
  rintro D X ss os k W hD hDl hDX hS ⟨rfl,rfl⟩ hB hdef;obtain⟨u,hcu,hout⟩:=vB hm0 hB;have hbelW:=hB.bel;clear hB hW0
  gi_wp2
  refine⟨Tw,.inl ⟨_,_,O,run_takeDeferred hdef,?_⟩⟩;refine⟨u,by simp[results,Tryz.f292,go_sem],u,ss,?_⟩;refine(hout _ (k9 hbelW hD) Tw (fun q _ hn=>World.putObj_heap_other (fun e=>hn (e▸hDX)))).imp fun m' h=>h.imp fun R' h=>⟨O,hS,h.1,h.2⟩
theorem H9(xs:List PP)(vs:List PV)(hn:xs.length<=1000000):FnO prog 292 0 1 [.pv nS,.pv (.fn (.func 215) [] [.rp [.mp (xs.map ppP) vs] 0])] []
  (fun v ob=>∃ss,ss.Perm xs/\v= .gsl 0 4 ss.length/\ob=ax [(0,.gro 238 (sq ss))]):=by
 intro w m R us hHR hrel;have hm0:=vI hHR;simp only[RelL,Rel]at hrel;obtain⟨u1,us1,rfl,h1,u2,us2,rfl,h2,rfl⟩:=hrel;simp only[RelP]at h1;obtain⟨A,c,rfl,_,_,hnil,hcz,_⟩:=h1;have hA:A=none:=by have:=hnil true O;simpa using this.symm
 obtain rfl:=hcz trivial;subst hA;obtain⟨b,off,mb,es,clock,xs',rfl,hRb,hcell,hRm,hb,hst,hx,hp⟩:=vH J9 h2;refine Calls.mono (callsIn_wide.1 (OL b off mb es clock xs' w m R hm0 (by have:=(cK (fun _ _=>jR) hp).length_eq;omega) hst hx (R.d b hRb).1 hcell hb)) ?_;rintro e w' ⟨u,ss,m',R',rfl,hS,h3,h4⟩;refine⟨u,_,_,m',R',O,⟨ss,hS.trans (cK (fun _ _=>jR) hp),O,O⟩,O,?_,h3,h4⟩;intro i o h;by_cases hi:i=0
 ·subst hi;cases h;exact⟨O,O⟩
 ·have b2:Nat.beq i 0=false:=by cases hb:Nat.beq i 0;rfl;exact absurd (aI hb) hi
  simp only[ax,b2,PE]at h;cases h
theorem Dt(xs:List PP)(vs:List PV)(hn:xs.length<=1000000):FnO prog 213 0 1 [.pv (.fn (.func 215) [] [.rp [.mp (xs.map ppP) vs] 0])] []
  (fun v ob=>∃ss,ss.Perm xs/\v= .gsl 0 4 ss.length/\ob=ax [(0,.gro 238 (sq ss))]):=by
 have hap:=H9 xs vs hn;refine FnO.of func213 O O (Pp O) ?_;intro m0 w0 F R0;refine Z1 O O<|Z1 O O ?_;refine RL.call O (bM [] 0 call292 O O O O (by exact trivial) Tu O hap ?_);rintro _ _ ⟨ss,hS,rfl,rfl⟩;exact A1 O<|Gt O<|⟨[(2,.gsl 0 4 ss.length)],[(0,.gro 238 (sq ss))],_,OU (aS Tt) (aO Tt) O O,O,O,O,⟨ss,hS,O,O⟩⟩
theorem Og(b off mb:Nat)(es:Array MapEntry)(clock:Nat)(xs:List ByteArray)(w:World)(m:Gm)(R:RT w (dj m))(hm0:∀id,m id=none)(hn:xs.length<=1000000)(hst:cQ es.toList clock)(hx:es.toList.map (·.key)=xs.map Value.string)(hbl:b<w.heap.size)
  (hc:w.cell? ⟨b,off,none⟩=some (.map (some mb))) (hb:w.heap[mb]? =some (.map es clock)):
  CallsIn Fence.wide 2 prog 389 #[.slice none 0 0,.func (.func 345) #[] #[.pointer (some ⟨b,off,none⟩)]] w fun e w'=>∃u ss m' R',e= .returned u/\ss.Perm xs/\HR ⟨prog,m,w,dj m,R⟩ m' R' (ax [(0,.gro 9 (uW ss))]) (avK 1) w'/\Rel w' m' (avK 1) R' (.gsl 0 1 ss.length) u:=by
 have eg:=enters_of (P:=prog) func345 Tt O;refine callsIn_of_wp_marks func389 O trivial ?_ O;simp only[ntmps389,Pv,Pd,Rt,Nat.reduceAdd,Nat.reduceSub,RZ,R7,SH,Su,Qa,Qq]
 gi_wp2
 obtain⟨W0,hW0⟩:∃W0,w.alloc (Obj.cells #[Value.slice none 0 0] 39)=W0:=⟨_,O⟩;have hb0:Below w.heap.size w W0:=by rw[<-hW0];exact(Below.refl _ w).alloc (BY _) _
 have hB4:W0.heap[w.heap.size]? =some (.cells #[.slice none 0 0] 39 (0,0)):=by rw[<-hW0];exact World.alloc_heap_new w _
 have hmbl:mb<w.heap.size:=(Pc.1 hb).1;rw[hW0];refine jU (nt:=13) (w0:=w) (R0:=R.p) (bs:=[w.heap.size]) true (encs:=fun x=> #[Value.string x]) O eg (EJ b off mb es clock xs W0 hst hx (Ps hbl hb0.size) ((hb0.cell (p:=⟨b,off,none⟩) hbl).trans hc) ((hb0.block mb hmbl).trans hb)) (fun _=>rfl) (fun _ _ _ h=>h) (fun h=>by cases h)
  (fun pre os k=>os=apO 39 9 1 pre.length (uW pre)/\k=1) ⟨O,O⟩ (vR R.g (fun b h=>(R.d b h).1) hb0 hB4 (BY _)) ?cell
  (fun x W=>{ tmps:= #[.slice none 0 0,.func (.func 345) #[] #[.pointer (some ⟨b,off,none⟩)],.pointer (some ⟨w.heap.size,0,none⟩),undef,.slice none 0 0,.string x,.func (.func 345) #[] #[.pointer (some ⟨b,off,none⟩)],Value.string x,undef,undef,undef,undef,undef],defers:=[] })
  (fun x W=>W) (fun x W=>Below.refl _ W) (fun _ _=>⟨O,O⟩) ?assign ?body ?done
 case cell=>rintro _ pre os k ⟨rfl,rfl⟩ i o h;exact rZ i o h
 case assign=>
  intro l x W K hK
  gi_wp2
  exact hK
 case body=>
  rintro pre x os k ⟨rfl,rfl⟩ ⟨rest,hpr⟩;have hpl:pre.length<=1000000:=by have:=hpr.length_eq;simp at this;omega
  refine⟨_,_,Ca pre x hpl,?_,?_⟩
  ·rintro ex τ ⟨rfl,h⟩;exact ⟨_,_,h,fun j hj=>by obtain rfl:j=0:=(by simpa using hj);rfl,O,O,O⟩
  ·intro W W2 m2 R2 hnew hm2 hR2 t _;refine rT O ?_ (hm2 0 _ O) t;simp only[Rel,RelP,Act.eval];rfl
 case done=>
  rintro D X ss os k W hD hDl hDX hS ⟨rfl,rfl⟩ hB hdef;obtain⟨u,hcu,hout⟩:=vB hm0 hB;have hbelW:=hB.bel;clear hB hW0
  gi_wp2
  refine⟨Tw,.inl ⟨_,_,O,run_takeDeferred hdef,?_⟩⟩;refine⟨u,by simp[results,Tryz.f389,go_sem],u,ss,?_⟩;refine(hout _ (k9 hbelW hD) Tw (fun q _ hn=>World.putObj_heap_other (fun e=>hn (e▸hDX)))).imp fun m' h=>h.imp fun R' h=>⟨O,hS,h.1,h.2⟩
theorem Ga(xs:List ByteArray)(vs:List PV)(hn:xs.length<=1000000):FnO prog 389 0 1 [.pv nS,.pv (.fn (.func 345) [] [.rp [.mp (xs.map PV.str) vs] 0])] []
  (fun v ob=>∃ss,ss.Perm xs/\v= .gsl 0 1 ss.length/\ob=ax [(0,.gro 9 (uW ss))]):=by
 intro w m R us hHR hrel;have hm0:=vI hHR;simp only[RelL,Rel]at hrel;obtain⟨u1,us1,rfl,h1,u2,us2,rfl,h2,rfl⟩:=hrel;simp only[RelP]at h1;obtain⟨A,c,rfl,_,_,hnil,hcz,_⟩:=h1;have hA:A=none:=by have:=hnil true O;simpa using this.symm
 obtain rfl:=hcz trivial;subst hA;obtain⟨b,off,mb,es,clock,xs',rfl,hRb,hcell,hRm,hb,hst,hx,hp⟩:=vH K7 h2;refine Calls.mono (callsIn_wide.1 (Og b off mb es clock xs' w m R hm0 (by have:=(cK (fun _ _=>mI) hp).length_eq;omega) hst hx (R.d b hRb).1 hcell hb)) ?_;rintro e w' ⟨u,ss,m',R',rfl,hS,h3,h4⟩;refine⟨u,_,_,m',R',O,⟨ss,hS.trans (cK (fun _ _=>mI) hp),O,O⟩,O,?_,h3,h4⟩;intro i o h;by_cases hi:i=0
 ·subst hi;cases h;exact⟨O,O⟩
 ·have b2:Nat.beq i 0=false:=by cases hb:Nat.beq i 0;rfl;exact absurd (aI hb) hi
  simp only[ax,b2,PE]at h;cases h
theorem CY(xs:List ByteArray)(vs:List PV)(hn:xs.length<=1000000):FnO prog 343 0 1 [.pv (.fn (.func 345) [] [.rp [.mp (xs.map PV.str) vs] 0])] []
  (fun v ob=>∃ss,ss.Perm xs/\v= .gsl 0 1 ss.length/\ob=ax [(0,.gro 9 (uW ss))]):=by
 have hap:=Ga xs vs hn;refine FnO.of func343 O O (Pp O) ?_;intro m0 w0 F R0;refine Z1 O O<|Z1 O O ?_;refine RL.call O (bM [] 0 call389 O O O O (by exact trivial) Tu O hap ?_);rintro _ _ ⟨ss,hS,rfl,rfl⟩;exact A1 O<|Gt O<|⟨[(2,.gsl 0 1 ss.length)],[(0,.gro 9 (uW ss))],_,OU (aS Tt) (aO Tt) O O,O,O,O,⟨ss,hS,O,O⟩⟩
end
end Go.Proofs.YtoplpepiabedhaaGreatDoor
