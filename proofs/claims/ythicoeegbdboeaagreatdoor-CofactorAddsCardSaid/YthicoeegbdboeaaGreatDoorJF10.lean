/- Lemmas. No condition. -/
import Derived.Test.YthicoeegbdboeaaGreatDoorJF9
set_option maxRecDepth 100000
set_option maxHeartbeats 4000000
open Go.RowKit Go.Proofs.Tryz
open Option renaming some→WB,none→WC
open Bool renaming true→YK,false→YL
namespace Go.Proofs.YthicoeegbdboeaaGreatDoor
variable{l:na}{b δ:Bool}{x y q:Rat}{g:Rat->PV}{K:Type}{B k W v n:Nat}{D a:Int}{P:cP}{J:JD}{f:Int->er}{σ τ:St}{rd:ee}{xs:Array Operand}{ts:Array TypeId}{dst:YX}{ty:TypeId}{after:Y4}{ll:vm}
section
open Go.RowKit Mm
abbrev bu(p:ZM):PV:= .agg (pO p)
abbrev ppC(x:PP):na:=[.int .i64 x.1.f,.str x.1.c,.int .i64 x.2.f,.str x.2.c]
abbrev ppP(x:PP):PV:= .agg (ppC x)
theorem kM(s t:er):(s==t)=(s.toList==t.toList):=by grind[gZ,bytes_inj,iO]
theorem cu(p q:ZM):keq (bu p) (bu q)=WB (p==q):=by show WB ((p.f==q.f)&&((p.c==q.c)&&YK))=WB (p.f==q.f&&p.c.toList==q.c.toList);rw[kM,XV]
theorem dd(x y:PP):keq (ppP x) (ppP y)=WB (x==y):=by show WB ((x.1.f==y.1.f)&&((x.1.c==y.1.c)&&((x.2.f==y.2.f)&&((x.2.c==y.2.c)&&YK))))=WB ((x.1.f==y.1.f&&x.1.c.toList==y.1.c.toList)&&(x.2.f==y.2.f&&x.2.c.toList==y.2.c.toList));rw[kM,kM,XV,Bool.and_assoc]
theorem oq{i:Int}{c:er}{r:na}(h:∃b,bA (.int .i64 i:: .str c::r) l=WB b):∃i' c' l',l= .int .i64 i':: .str c'::l'/\∃b,bA r l'=WB b:=by
 obtain⟨b,h⟩:=h;rcases l with _|⟨a,l⟩
 .simp[bA]at h
 cases a<;>simp only[bA,reduceCtorEq]at h;rename_i k v;cases hk:kEq IntKind.i64 k with
 |false=>rw[hk]at h;cases h
 | true=>
   have:=fB hk;subst this;rw[hk]at h;rcases l with _|⟨d,l⟩
   .simp[bA]at h
   cases d<;>simp only[bA,Option.map_none,reduceCtorEq,Xe]at h;rename_i s;cases hr:bA r l with
   |none=>rw[hr]at h;simp at h
   |some b'=>exact⟨v,s,l,O,b',hr⟩
theorem xo(h:bA [] l=WB b):l=[]:=by
 cases l with
 |nil=>rfl
 |cons a l=>cases a<;>simp[bA]at h
theorem K6{p:ZM}{x:PV}(h:keq (bu p) x=WB b):∃q:ZM,x=bu q:=by cases x<;>simp only[keq,reduceCtorEq]at h;obtain⟨i1,c1,l1,rfl,b1,h1⟩:=oq ⟨b,h⟩;rw[xo h1];exact⟨⟨i1,c1⟩,O⟩
theorem CG{p:PP}{x:PV}(h:keq (ppP p) x=WB b):∃q:PP,x=ppP q:=by cases x<;>simp only[keq,reduceCtorEq]at h;obtain⟨i1,c1,l1,rfl,h1⟩:=oq ⟨b,h⟩;obtain⟨i2,c2,l2,rfl,b2,h2⟩:=oq h1;rw[xo h2];exact⟨(⟨i1,c1⟩,⟨i2,c2⟩),O⟩
theorem uL{w:World}{R:ew}{u:Value}{x:PP}(h:ZH w R (ppP x) u):u= .agg #[.int .i64 x.1.f,.string x.1.c,.int .i64 x.2.f,.string x.2.c]:=by simpa[ZH,ZG]using h
theorem eqPP(k:Nat)(a b a' b':Int)(s t s' t':er)(w:World):(Op.equalIn (k+3) 156 (.agg #[.int .i64 a,.string s,.int .i64 a',.string s']) (.agg #[.int .i64 b,.string t,.int .i64 b',.string t'])).run prog w= .ok ((a==b&&s.toList==t.toList)&&(a'==b'&&s'.toList==t'.toList)) w:=by
 have hS:prog.underlying 156=WB (.struct (prog.fieldsOf 156)):=Zj;rw[run_equalIn_agg w (k+2) 156 _ _ hS Tryz.stoodInHeld156];have j:=λw=>wV k a b s t w
 have r:=λw=>wV k a' b' s' t' w
 simp only[Program.fieldsOf,underlying156]
 go_simp
 by_cases h1:a=b<;>by_cases j:s.toList=t.toList<;>by_cases h4:a'=b'<;>by_cases h5:s'.toList=t'.toList<;>simp[h1,j,h4,h5]
theorem Q1(k:Nat)(e:Bool)(a:Int)(s:er)(w:World):(Instr.checkKey e (k+2) 111 (.agg #[.int .i64 a,.string s])).run prog w= .ok () w:=by
 have j:=aaA;have r:=aan;have t:=aam;have u:∀(v:Value)(w:World),(Instr.checkKey e (k+1) 3 v).run prog w= .ok () w:=λv w=>by unfold Instr.checkKey;simp[run_underlying r,Result.andThen]
 have z:∀(v:Value)(w:World),(Instr.checkKey e (k+1) 9 v).run prog w= .ok () w:=λv w=>by unfold Instr.checkKey;simp[run_underlying t,Result.andThen]
 unfold Instr.checkKey;simp only[Sem.run_bind,run_underlying j,Result.andThen]
 go_simp
theorem ckPP(k:Nat)(e:Bool)(a b:Int)(s t:er)(w:World):(Instr.checkKey e (k+3) 156 (.agg #[.int .i64 a,.string s,.int .i64 b,.string t])).run prog w= .ok () w:=by
 have j:=underlying156;have r:=λa s w=>Q1 k e a s w
 unfold Instr.checkKey;simp only[Sem.run_bind,run_underlying j,Result.andThen]
 go_simp
theorem iI:KeyOk prog 111 (λk=>∃p:ZM,k=bu p) where
 und:=⟨_,aaA,λus y=>by cases y<;>rfl⟩
 check:=by grind[rf,Q1]
 ask:=by
  rintro w R k x u y b ⟨p,rfl⟩ h1 h2 h3;obtain⟨q,rfl⟩:=K6 h3;rw[cu]at h3;cases h3;rw[rf h1,rf h2];exact wV 9998 p.f q.f p.c q.c w
 agg:=by rintro k ⟨p,rfl⟩;exact⟨_,O⟩
theorem yR:KeyOk prog 156 (λk=>∃x:PP,k=ppP x) where
 und:=⟨_,underlying156,λus y=>by cases y<;>rfl⟩
 check:=by
  rintro w R k u e ⟨p,rfl⟩ h;rw[uL h];exact ckPP 9997 e _ _ _ _ w
 ask:=by
  rintro w R k x u y b ⟨p,rfl⟩ h1 h2 h3;obtain⟨q,rfl⟩:=CG h3;rw[dd]at h3;cases h3;rw[uL h1,uL h2];exact eqPP 9997 p.1.f q.1.f p.2.f q.2.f p.1.c q.1.c p.2.c q.2.c w
 agg:=by rintro k ⟨p,rfl⟩;exact⟨_,O⟩
section
variable {K:Type}[BEq K][LawfulBEq K]
def aq(f:K->PV)(l:List (K×Rat)):na:=l.map λe=>f e.1
def jE(g:Rat->PV)(l:List (K×Rat)):na:=l.map λe=>g e.2
abbrev bm(l:List (K×Rat)):na:=jE frP l
theorem gp{f:K->PV}(r:∀a b,keq (f a) (f b)=WB (a==b))(k:K):∀(l:List (K×Rat))(i:Nat),bZ (f k) (aq f l) i=WB ((l.findIdx? (λe=>e.1==k)).map (i+ ·))
 |[],i=>rfl
 | e::l,i=>by
   have hs:(k==e.1)=(e.1==k):=by grind
   show(match keq (f k) (f e.1)with|some YK=>WB (WB i)|some YL=>bZ (f k) (aq f l) (i+1)|none=>WC)=_;rw[r,hs,List.findIdx?_cons];cases e.1==k with
   |true=>simp
   | false=>
     simp only[Wj,Yd];rw[gp r k l (i+1)];cases l.findIdx? (λe=>e.1==k)with
     |none=>rfl
     |some j=>simp;omega
def oV(l:List (K×Rat))(k:K)(y:Rat):List (K×Rat):=match l.findIdx? (λe=>e.1==k)with
 |some j=>l.set j (k,y)
 |none=>l++[(k,y)]
def Bt(l:List (K×Rat))(k:K):List (K×Rat):=match l.findIdx? (λe=>e.1==k)with
 |some j=>l.eraseIdx j
 |none=>l
def tx(l:List (K×Rat))(k:K):Option Rat:=match l.findIdx? (λe=>e.1==k)with
 |some j=>WB (l.getD j (k,0)).2
 |none=>WC
def KF(x:Rat):Option Rat->Rat
 |some o=>x+o
 |none=>x
omit [LawfulBEq K] in
theorem J4(l:List (K×Rat))(k:K)(x:Rat):note YK l k x=if KF x (tx l k)=0 then Bt l k else oV l k (KF x (tx l k)):=by unfold note tx Bt oV;cases l.findIdx? (λe=>e.1==k)<;>simp only[KF,true_and]<;>congr
omit [LawfulBEq K] in
theorem qi{l:List (K×Rat)}{k:K}(ho:KF x (tx l k)=y)(h:y=0):note YK l k x=Bt l k:=by rw[J4,ho,IT h]
omit [LawfulBEq K] in
theorem qq{l:List (K×Rat)}{k:K}(ho:KF x (tx l k)=y)(h:¬y=0):note YK l k x=oV l k y:=by rw[J4,ho,AS h]
theorem qj{l:List (K×Rat)}{k:K}{o:Rat}(h:tx l k=WB o):∃e∈l,e.2=o:=by
 unfold tx at h;cases hf:l.findIdx? (λe=>e.1==k)with
 |none=>rw[hf]at h;cases h
 | some j=>
   rw[hf]at h;simp only[VM]at h;obtain⟨l1,o',l2,rfl,rfl,_⟩:=mR hf;refine⟨(k,o'),Zm,?_⟩;rw[<-h];simp[List.getD]
theorem e6{f:K->PV}(r:∀a b,keq (f a) (f b)=WB (a==b))(l:List (K×Rat))(k:K)(y:Rat):pK (f k) (aq f l)=aq f (oV l k y):=by
 unfold pK oV;rw[gp r];cases l.findIdx? (λe=>e.1==k)with
 |none=>simp[aq]
 |some j=>simp[aq,Wp]
theorem e9{f:K->PV}(r:∀a b,keq (f a) (f b)=WB (a==b))(l:List (K×Rat))(k:K)(y:Rat):pN (f k) (g y) (aq f l) (jE g l)=jE g (oV l k y):=by
 unfold pN oV;rw[gp r];cases l.findIdx? (λe=>e.1==k)with
 |none=>simp[jE]
 |some j=>simp[jE,Wp]
theorem CH{f:K->PV}(r:∀a b,keq (f a) (f b)=WB (a==b))(l:List (K×Rat))(k:K):s9 (f k) (aq f l) (aq f l)=aq f (Bt l k):=by
 unfold s9 Bt;rw[gp r];cases l.findIdx? (λe=>e.1==k)with
 |none=>rfl
 |some j=>simp[aq,Go.ChangeMaps.map_eraseIdx]
theorem CV{f:K->PV}(r:∀a b,keq (f a) (f b)=WB (a==b))(l:List (K×Rat))(k:K):s9 (f k) (aq f l) (bm l)=bm (Bt l k):=by
 unfold s9 Bt;rw[gp r];cases l.findIdx? (λe=>e.1==k)with
 |none=>rfl
 |some j=>simp[jE,Go.ChangeMaps.map_eraseIdx]
theorem kr{f:K->PV}(r:∀a b,keq (f a) (f b)=WB (a==b))(l:List (K×Rat))(k:K):lP (f k) (aq f l) (jE g l)=WB ((tx l k).map g):=by
 unfold lP tx;rw[gp r];cases hfi:l.findIdx? (λe=>e.1==k)with
 |none=>rfl
 | some j=>
   obtain⟨l1,o',l2,rfl,rfl,_⟩:=mR hfi;simp[jE,List.getD]
theorem iF{f:K->PV}(j:∀a b,keq (f a) (f b)=WB (a==b))(l:List (K×Rat))(k:K):∃r,bZ (f k) (aq f l) 0=WB r:=⟨_,gp j k l 0⟩
end
theorem iN:(q.num.sign==0)=decide (q=0):=by rw[V0,Xk,VJ,Int.sign_eq_zero_iff_zero,Rat.num_eq_zero]
abbrev frZ:PV:= .agg [.bool YL,.sl (WB YK) 0 [],.bool YL,.sl (WB YK) 0 []]
theorem F2(l:List (ZM×Rat))(k:ZM)(x:Rat)(U:FOk x)(hl:∀e∈l,FOk e.2):ZS prog 158 1 0 [.map big,.pv (bu k),.pv (frP x)] [(big,.mp (aq bu l) (bm l))] (λv ob'=>v= .bS []/\ob'=au [(big,.mp (aq bu (note YK l k x)) (bm (note YK l k x)))]):=by
 refine ZE func158 O ntmps158 λ_ _ _ _=>?_
 have u:=kr (g:=frP) cu l k;obtain⟨r,hr⟩:=iF cu l k;have G:=CH cu l k;have H:=CV cu l k;cases ho:tx l k with
 | none=>
   rw[ho]at u;simp only[Option.map_none]at u;have I:KF x (tx l k)=x:=by rw[ho];rfl
   have L:(x.num.sign==0)=decide (x=0):=iN;have hs:=fQ x;have z:=e6 cu l k x;have E:=e9 (g:=frP) cu l k x;refine Z2 O<|Z2 O<|Rs O (dI (zp:=frZ) (r:=WC) (b:=YL) iI aax (.inl ⟨big,O,O⟩) O ⟨k,O⟩ uH O u O O)<|Ar 6 O<|Z1 O<|Gc O (λs=>absurd s Zm) (λs=>?_);refine Vl<|Z1 O<|Rs O (aa call102 hs O)<|A1 O<|Gc O (λj=>?_) (λj=>?_)
   .have h0:x=0:=by rw[L]at j;simpa using j
    have t:=qi I h0;exact Z2 O<|RL.step (d:=WC) O O (kB iI aax O O O ⟨k,O⟩ hr G H)<|Gt O<|⟨[],[(big,.mp (aq bu (Bt l k)) (bm (Bt l k)))],[],Vn trivial (aO O) O O,O,O,O,O,by rw[t]⟩
   have h0:¬x=0:=by rw[L]at j;simpa using j
   have t:=qq I h0;exact Vl<|Z3 O<|RL.step (d:=WC) O O (br iI aax O O O O ⟨k,O⟩ hr z E)<|⟨[],[(big,.mp (aq bu (oV l k x)) (bm (oV l k x)))],[],Vn trivial (aO O) O O,O,O,O,O,by rw[t]⟩
 | some o=>
   rw[ho]at u;simp only[Yf]at u;obtain⟨e,he,hoe⟩:=qj ho;have M:FOk o:=hoe▸hl e he;have T:=mO x o U M;have I:KF x (tx l k)=x+o:=by rw[ho];rfl
   have L:((x+o).num.sign==0)=decide (x+o=0):=iN;have hs:=fQ (x+o);have z:=e6 cu l k (x+o);have E:=e9 (g:=frP) cu l k (x+o);refine Z2 O<|Z2 O<|Rs O (dI (zp:=frZ) (r:=WB (frP o)) (b:=YK) iI aax (.inl ⟨big,O,O⟩) O ⟨k,O⟩ uH O u O O)<|Ar 6 O<|Z1 O<|Gc O (λs=>?_) (λs=>absurd s Zm);refine Z2 O<|Rs O (aa call99 T O)<|A1 O<|Z1 O<|Rs O (aa call102 hs O)<|A1 O<|Gc O (λj=>?_) (λj=>?_)
   .have h0:x+o=0:=by rw[L]at j;simpa using j
    have t:=qi I h0;exact Z2 O<|RL.step (d:=WC) O O (kB iI aax O O O ⟨k,O⟩ hr G H)<|Gt O<|⟨[],[(big,.mp (aq bu (Bt l k)) (bm (Bt l k)))],[],Vn trivial (aO O) O O,O,O,O,O,by rw[t]⟩
   have h0:¬x+o=0:=by rw[L]at j;simpa using j
   have t:=qq I h0;exact Vl<|Z3 O<|RL.step (d:=WC) O O (br iI aax O O O O ⟨k,O⟩ hr z E)<|⟨[],[(big,.mp (aq bu (oV l k (x+o))) (bm (oV l k (x+o))))],[],Vn trivial (aO O) O O,O,O,O,O,by rw[t]⟩
theorem nT(l:List (PP×Rat))(k:PP)(x:Rat)(U:FOk x)(hl:∀e∈l,FOk e.2):ZS prog 100 1 0 [.map big,.pv (ppP k),.pv (frP x)] [(big,.mp (aq ppP l) (bm l))] (λv ob'=>v= .bS []/\ob'=au [(big,.mp (aq ppP (note YK l k x)) (bm (note YK l k x)))]):=by
 refine ZE func100 O ntmps100 λ_ _ _ _=>?_
 have u:=kr (g:=frP) dd l k;obtain⟨r,hr⟩:=iF dd l k;have G:=CH dd l k;have H:=CV dd l k;cases ho:tx l k with
 | none=>
   rw[ho]at u;simp only[Option.map_none]at u;have I:KF x (tx l k)=x:=by rw[ho];rfl
   have L:(x.num.sign==0)=decide (x=0):=iN;have hs:=fQ x;have z:=e6 dd l k x;have E:=e9 (g:=frP) dd l k x;refine Z2 O<|Z2 O<|Rs O (dI (zp:=frZ) (r:=WC) (b:=YL) yR aaD (.inl ⟨big,O,O⟩) O ⟨k,O⟩ uH O u O O)<|Ar 6 O<|Z1 O<|Gc O (λs=>absurd s Zm) (λs=>?_);refine Vl<|Z1 O<|Rs O (aa call102 hs O)<|A1 O<|Gc O (λj=>?_) (λj=>?_)
   .have h0:x=0:=by rw[L]at j;simpa using j
    have t:=qi I h0;exact Z2 O<|RL.step (d:=WC) O O (kB yR aaD O O O ⟨k,O⟩ hr G H)<|Gt O<|⟨[],[(big,.mp (aq ppP (Bt l k)) (bm (Bt l k)))],[],Vn trivial (aO O) O O,O,O,O,O,by rw[t]⟩
   have h0:¬x=0:=by rw[L]at j;simpa using j
   have t:=qq I h0;exact Vl<|Z3 O<|RL.step (d:=WC) O O (br yR aaD O O O O ⟨k,O⟩ hr z E)<|⟨[],[(big,.mp (aq ppP (oV l k x)) (bm (oV l k x)))],[],Vn trivial (aO O) O O,O,O,O,O,by rw[t]⟩
 | some o=>
   rw[ho]at u;simp only[Yf]at u;obtain⟨e,he,hoe⟩:=qj ho;have M:FOk o:=hoe▸hl e he;have T:=mO x o U M;have I:KF x (tx l k)=x+o:=by rw[ho];rfl
   have L:((x+o).num.sign==0)=decide (x+o=0):=iN;have hs:=fQ (x+o);have z:=e6 dd l k (x+o);have E:=e9 (g:=frP) dd l k (x+o);refine Z2 O<|Z2 O<|Rs O (dI (zp:=frZ) (r:=WB (frP o)) (b:=YK) yR aaD (.inl ⟨big,O,O⟩) O ⟨k,O⟩ uH O u O O)<|Ar 6 O<|Z1 O<|Gc O (λs=>?_) (λs=>absurd s Zm);refine Z2 O<|Rs O (aa call99 T O)<|A1 O<|Z1 O<|Rs O (aa call102 hs O)<|A1 O<|Gc O (λj=>?_) (λj=>?_)
   .have h0:x+o=0:=by rw[L]at j;simpa using j
    have t:=qi I h0;exact Z2 O<|RL.step (d:=WC) O O (kB yR aaD O O O ⟨k,O⟩ hr G H)<|Gt O<|⟨[],[(big,.mp (aq ppP (Bt l k)) (bm (Bt l k)))],[],Vn trivial (aO O) O O,O,O,O,O,by rw[t]⟩
   have h0:¬x+o=0:=by rw[L]at j;simpa using j
   have t:=qq I h0;exact Vl<|Z3 O<|RL.step (d:=WC) O O (br yR aaD O O O O ⟨k,O⟩ hr z E)<|⟨[],[(big,.mp (aq ppP (oV l k (x+o))) (bm (oV l k (x+o))))],[],Vn trivial (aO O) O O,O,O,O,O,by rw[t]⟩
end
noncomputable section
open Mk Jn Mm
abbrev aaf:List (Nat×Ob):=[(0,.mp [] []),(1,.mp [] [])]
abbrev aaj(a:List (ZM×Rat))(b:List (PP×Rat)):List (Nat×Ob):=[(0,.mp (aq bu a) (bm a)),(1,.mp (aq ppP b) (bm b))]
end
section
open Go.RowKit Mm
abbrev BO(c:Rat)(a b:Nat):nR:=[.pv (.bool (decide (c.num<0))),.pv (bE c.num.natAbs),.pv (.bool (decide ((c.den:Int)<0))),.pv (bE (c.den:Int).natAbs),.map a,.map b]
noncomputable section
open Mk Jn Mm
abbrev aah(a:Rat)(b:List (ZM×Rat))(c:List (PP×Rat)):List (Nat×Ob):=[(big,.mix 88 (BO a 9001 9002)),(9001,.mp (aq bu b) (bm b)),(9002,.mp (aq ppP c) (bm c))]
end
abbrev mcC(m:MC):na:=[.bool (decide (m.c.num<0)),bE m.c.num.natAbs,.bool (decide ((m.c.den:Int)<0)),bE (m.c.den:Int).natAbs,.mp (aq bu m.s) (bm m.s),.mp (aq ppP m.p) (bm m.p)]
abbrev mcP(m:MC):PV:= .agg (mcC m)
noncomputable abbrev momP(x:ZB):PV:=mcP (cn x)
theorem gE.ofE{f:K->PV}{l:List (K×Rat)}{cur:na}{rest cur' ks' vs':na}(h:gE cur (aq f l) (jE g l) b rest cur' ks' vs'):
  (b=YL/\l=[]/\rest=[]/\cur'=cur/\ks'=aq f l/\vs'=jE g l)\/(b=YK/\∃(l1:List (K×Rat))(e:K×Rat)(l2:List (K×Rat)),l=l1++e::l2/\rest=[f e.1,g e.2]/\cur'=[f e.1,g e.2]/\ks'=aq f (l1++l2)/\vs'=jE g (l1++l2)):=
 gE.of (α:=K×Rat) (f:=λe=>f e.1) (g:=λe=>g e.2) h
def smB:Nat:=10^100
def Gg:Nat:=(10^100)^10
theorem DS(t:dR 36 q)(u:bg B q)(hB:B<=Gg):q.den<=36/\(ae q.num.natAbs).length<=200:=by
 have z:=t.PY Zk;refine⟨Zi,aW.2 ?_⟩;have j:=u.num;have r:B*q.den<=Gg*36:=Xa hB Zi;have s:Gg*36<1000000000^200:=by decide+kernel
 exact Yn (OF j r) s
theorem ej(j:dR 36 q)(r:bg B q)(hB:B<=Gg):FOk q:=
 ⟨by have:=(DS j r hB).1;omega,OF (DS j r hB).2 Zk⟩
theorem Mm.dR.Mb(h:dR 6 q):dR 36 q:=h.up 6
theorem Mm.dR.int(D:Int)(h:∃z:Int,q=(z:Rat)):dR D q:=by obtain⟨z,rfl⟩:=h;exact dR.ofInt D z
theorem Mm.dR.C9{k:Rat}(h:dR D q)(j:∃z:Int,k=(z:Rat)):dR D (q*k):=by obtain⟨z,rfl⟩:=j;obtain⟨x,hx⟩:=h;exact⟨x*z,by rw[Ye,<-hx];grind⟩
theorem sm1:smB+smB*smB<=Gg:=by decide+kernel
theorem sm0:smB<=Gg:=by decide+kernel
theorem sm2:smB*smB<=Gg:=by decide+kernel
structure IncR(δ:Bool)(c:Rat)(sb:List (ZM×Rat))(pb:List (PP×Rat))(w:MC)(k c':Rat)(s':List (ZM×Rat))(p':List (PP×Rat)):Prop where
 c:c'=c+w.c*k
 s:LOk δ 6 s'
 p:LOk δ 36 p'
 po:(∀e∈pb,bY e.1.1 e.1.2<=0)->∀e∈p',bY e.1.1 e.1.2<=0
 es:∀x,lk s' x=lk sb x+lk w.s x*k
 ep:∀x,lk p' x=lk pb x+lk w.p x*k
structure MSmB(B:Nat)(m:MC):Prop where
 ci:∃z:Int,m.c=(z:Rat)
 s:LOk YK 6 m.s
 p:LOk YK 36 m.p
 po:∀e∈m.p,bY e.1.1 e.1.2<=0
 cb:bg B m.c
 sb:∀e∈m.s,bg B e.2
 pb:∀e∈m.p,bg B e.2
abbrev MSm(m:MC):Prop:=MSmB smB m
theorem Mm.Inc.po{b w todo acc:List (PP×Rat)}(h:Inc YK 36 b w q todo acc)(r:∀e∈b,bY e.1.1 e.1.2<=0)(s:∀e∈w,bY e.1.1 e.1.2<=0):∀e∈acc,bY e.1.1 e.1.2<=0:=by
 intro e he;obtain⟨d,h1,h2⟩:=h.ex;have j:=fD h.ok.nd he;rw[h2]at j;rcases gh b e.1 with⟨l1,o,l2,rfl,_⟩|hk
 .exact r (e.1,o) Zm
 rcases gh d e.1 with⟨l1,o,l2,rfl,_⟩|hk2
 .exact s (e.1,o) (h1.subset Zm)
 rw[uK hk,uK hk2]at j;exact absurd (show e.2=0 by rw[<-j];grind) (h.ok.nz O e he)
theorem jL(c:Rat)(sb:List (ZM×Rat))(pb:List (PP×Rat))(w:MC)(k:Rat)(hB:B+smB*smB<=Gg)(M:MSmB B ⟨c,sb,pb⟩)(E:MSm w)(X:∃z:Int,k=(z:Rat))(G:bg smB k):
  ZS prog 97 3 0 [.ptr big 0,.pv (mcP w),.pv (frP k)] (aah c sb pb)
   (λv ob'=>∃c' s' p',IncR YK c sb pb w k c' s' p'/\v= .bS []/\ob'=au (aah c' s' p')):=by
 refine ZE func97 O ntmps97 λ_ _ _ _=>?_
 have ab:=dR.int 36 X;have T:=ej ab G sm0;have ac:=iQ w.c k (ej (dR.int 36 E.ci) E.cb sm0) T;have ad:=mO c (w.c*k) (ej (dR.int 36 M.ci) M.cb (OF (Yz _ _) hB)) (ej ((dR.int 36 E.ci).C9 X) (E.cb.mul G) sm2);refine Z2 O<|VC 13 O<|Dr 8 O<|YM O (λτ h=>aa call98 ac (h.aE O))<|YM O (λτ h=>aa call99 ad (h.aE O))<|Dr 3 O ?_;refine⟨Zj,?_⟩;refine Z2 O<|Rs O (fo 2 aax O O)<|Gz O (st:=λZq:List (ZM×Rat)×List (ZM×Rat)×na=>([(0,WC),(4,WC),(5,WC),(24,WC)],[(big,WC),(0,WC),(1,WC),(2,WB (.mi Zq.2.2 (aq bu Zq.1) (bm Zq.1))),(9001,WB (.mp (aq bu Zq.2.1) (bm Zq.2.1))),(9002,WC)])) 3
  (I:=λZq=>Inc YK 6 sb w.s k Zq.1 Zq.2.1) (μ:=λZq=>Zq.1.length) (x0:=(w.s,sb,[])) (Vn (aS O) (aO Zj) O O) (Inc.start M.s w.s k) ?_
 rintro⟨todo,acc,cur⟩ hI;try simp only at hI ⊢
 refine Gr O<|RL.call O (gH O O ?_);rintro b rest cur2 ks2 vs2 hN;refine Rs O (cE O O)<|Gc O (λr=>?_) (λr=>?_)
 .obtain⟨_,l1,e,l2,rfl,rfl,rfl,rfl,rfl⟩:=(gE.ofE hN).resolve_left (by rintro⟨h,_⟩;rw[h]at r;cases r);have H:=hI.mem (e:=e) Zm;have u:=E.s.it e H;have L:=E.sb e H;have U:=iQ e.2 k (ej u.Mb L sm0) T;have V:=F2 acc e.1 (e.2*k) (ej (u.C9 X).Mb (L.mul G) sm2) (λx hx=>ej (hI.ok.it x hx).Mb (hI.abs M.s E.s M.sb E.sb G x hx) hB);refine Vl<|Gr O<|Rs O (fe O O)<|Ar 6 O<|VC 9 O<|Dr 7 O<|YM O (λτ h=>aa call98 U (h.aE O))<|YQ [9001] O (λτ h=>az [9001] 5 call158 V (h.args.trans O) O O O ⟨(Eo h 0 O),Zp⟩ Zk O) ⟨Zj,⟨(l1++l2,note YK acc e.1 (e.2*k),[bu e.1,frP e.2]),Vn (aS O) (aO Zj) O O,hI.step (u.C9 X),Zm⟩⟩
 obtain⟨_,rfl,_⟩:=(gE.ofE hN).resolve_right (by rintro⟨h,_⟩;rw[h]at r;cases r);have af:=hI.end;have Y:=hI.ok;refine Gx O<|Z2 O<|Rs O (fo 3 aaD O O)<|Gz O (st:=λj:List (PP×Rat)×List (PP×Rat)×na=>([(0,WC),(5,WC),(41,WC)],[(big,WC),(1,WC),(3,WB (.mi j.2.2 (aq ppP j.1) (bm j.1))),(9001,WC),(9002,WB (.mp (aq ppP j.2.1) (bm j.2.1)))])) 4
  (I:=λj=>Inc YK 36 pb w.p k j.1 j.2.1) (μ:=λj=>j.1.length) (x0:=(w.p,pb,[])) (Vn (aS O) (aO Zj) O O) (Inc.start M.p w.p k) ?_
 rintro⟨todo2,acc2,cur3⟩ hI2;try simp only at hI2 ⊢
 refine Gr O<|RL.call O (gH O O ?_);rintro b2 rest2 cur4 ks4 vs4 hN2;refine Rs O (cE O O)<|Gc O (λt=>?_) (λt=>?_)
 .obtain⟨_,l1,e,l2,rfl,rfl,rfl,rfl,rfl⟩:=(gE.ofE hN2).resolve_left (by rintro⟨h,_⟩;rw[h]at t;cases t);have H:=hI2.mem (e:=e) Zm;have u:=E.p.it e H;have L:=E.pb e H;have U:=iQ e.2 k (ej u L sm0) T;have V:=nT acc2 e.1 (e.2*k) (ej (u.C9 X) (L.mul G) sm2) (λx hx=>ej (hI2.ok.it x hx) (hI2.abs M.p E.p M.pb E.pb G x hx) hB);refine Vl<|Gr O<|Rs O (fe O O)<|Ar 6 O<|VC 9 O<|Dr 7 O<|YM O (λτ h=>aa call98 U (h.aE O))<|YQ [9002] O (λτ h=>az [9002] 6 call100 V (h.args.trans O) O O O ⟨(Eo h 0 O),Zp⟩ Zk O) ⟨Zj,⟨(l1++l2,note YK acc2 e.1 (e.2*k),[ppP e.1,frP e.2]),Vn (aS O) (aO Zj) O O,hI2.step (u.C9 X),Zm⟩⟩
 obtain⟨_,rfl,_⟩:=(gE.ofE hN2).resolve_right (by rintro⟨h,_⟩;rw[h]at t;cases t);exact Gx O<|⟨[],[(big,.mix 88 (BO (c+w.c*k) 9001 9002)),(9001,.mp (aq bu acc) (bm acc)),(9002,.mp (aq ppP acc2) (bm acc2))],[],Vn trivial (aO Zj) O O,O,O,O,_,_,_,⟨O,Y,hI2.ok,λhb=>hI2.po hb E.po,af,hI2.end⟩,O,O⟩
theorem kK:∀(a b:Zy)(i:Nat)(o:Ob),au a i=WB o->au (a++b) i=WB o
 |[],_,_,_,h=>by simp[au]at h
 | x::a,b,i,o,h=>by
   simp only[au,Wu]at h ⊢;cases hb:Nat.beq i x.1 with
   |true=>rw[hb]at h;exact h
   |false=>rw[hb]at h;exact kK a b i o h
theorem pubE{f:K->PV}{l m:List (K×Rat)}(h:l.Perm m):((aq f l).zip (jE g l)).Perm ((aq f m).zip (jE g m)):=by
 have e:∀l:List (K×Rat),(aq f l).zip (jE g l)=l.map λe=>(f e.1,g e.2):=λl=>by
  induction l with
  |nil=>rfl
  |cons e l ih=>simp only[aq,jE,ed,X2]at *; rw[ih]
 rw[e,e];exact h.map _
theorem PI(f:K->PV)(l:List (K×Rat)):(aq f l).length=(jE g l).length:=by simp[aq,jE]
theorem vS:((0:Int):Rat)=0:=rfl
theorem jn:((1:Int):Rat)=1:=rfl
theorem ry(n:Int)(r: -9223372036854775808<=n)(s:n<=9223372036854775807):ZS prog 46 0 2 [ZI n] [] (λv ob'=>v= .agg (BO (n:Rat) 0 1)/\ob'=au aaf):=by
 refine ZF func46 O ntmps46 λ_ _ _ _=>?_
 have j:=p8 n r s;exact Z1 O<|Z1 O<|Rs O (aa call95 j O)<|Rs O (cY 1 O)<|Rs O (cY 2 O)<|Y2 O<|Gt O<|⟨[(2,.ptr 2 0)],[(0,.mp [] []),(1,.mp [] []),(2,.mix 88 (BO (n:Rat) 0 1))],[.agg (BO (n:Rat) 0 1)],aaf,3,Vo [1,2,0] (aT O) (aP Zj) O O Zk O,O,⟨ar ⟨_,aap,O⟩ s0 O O O,Zp⟩,O,O,λi o h=>kK aaf [(2,.mix 88 (BO (n:Rat) 0 1))] i o h,Zk,O,O⟩
abbrev mcW(n:Int):MC:=⟨(n:Rat),[],[]⟩
theorem z1(n:Int)(r: -9223372036854775808<=n)(s:n<=9223372036854775807):ZK prog 46 [ZU n] (· =mcP (mcW n)):=by
 refine ZD func46 O ntmps46 λ_ _ _ _=>?_
 have j:=p8 n r s;exact Z1 O<|Z1 O<|Rs O (aa call95 j O)<|Rs O (cY 1 O)<|Rs O (cY 2 O)<|Y2 O<|Vm (St.dZ (ks:=[]) (vs:=[]) 1 O O (WH _))<|Vm (St.dZ (ks:=[]) (vs:=[]) 2 O O (WH _))<|YR O ⟨⟨ar ⟨_,aap,O⟩ s0 O O O,Zp⟩,O⟩
theorem M6:MSm ⟨((0:Int):Rat),[],[]⟩:=⟨⟨0,O⟩,LOk.nil 6,LOk.nil 36,λ_ h=>absurd h Zm,bg.zero _,λ_ h=>absurd h Zm,λ_ h=>absurd h Zm⟩
theorem uR(v:MC)(k:Rat)(u:MSm v)(E:∃z:Int,k=(z:Rat))(t:bg smB k):
  ZS prog 96 0 2 [.pv (mcP v),.pv (frP k)] [] (λr ob'=>∃c' s' p',IncR YK ((0:Int):Rat) [] [] v k c' s' p'/\r= .agg (BO c' 0 1)/\ob'=au (aaj s' p')):=by
 refine ZF func96 O ntmps96 λ_ _ _ _=>?_
 have s:=ry 0 Zk Zk;have j:=jL ((0:Int):Rat) [] [] v k sm1 M6 u E t;refine Z3 O<|Gr O<|Rs O (az [] 3 call46 s O O O O trivial Zk O)<|Y2 O<|Z2 O<|RL.call O (cf [5,3,4] 6 call97 O O O O (by exact⟨Zj,Zj,Zj,Zp⟩) Zk O j ?_);rintro _ _ ⟨c',s',p',hR,rfl,rfl⟩;exact Z2 O<|Gt O<|⟨[(4,.ptr 2 0)],[(0,.mp (aq bu s') (bm s')),(1,.mp (aq ppP p') (bm p')),(2,.mix 88 (BO c' 0 1))],[.agg (BO c' 0 1)],(aaj s' p'),3,Vo [3,4,2] (aT O) (aP Zj) O O Zk O,O,⟨ar ⟨_,aap,O⟩ s0 O O O,Zp⟩,O,O,λi o h=>kK (aaj s' p') [(2,.mix 88 (BO c' 0 1))] i o h,Zk,c',s',p',hR,O,O⟩
structure AddR(v w m:MC):Prop where
 c:m.c=v.c+w.c
 s:LOk YK 6 m.s
 p:LOk YK 36 m.p
 po:∀e∈m.p,bY e.1.1 e.1.2<=0
 sa:Mm.Asc bY m.s
 pa:Mm.Asc cy m.p
 es:∀x,lk m.s x=lk v.s x+lk w.s x
 ep:∀x,lk m.p x=lk v.p x+lk w.p x
theorem IncR.msm{v:MC}{k c':Rat}{s':List (ZM×Rat)}{p':List (PP×Rat)}(h:IncR YK ((0:Int):Rat) [] [] v k c' s' p')(j:MSm v)(r:k=((1:Int):Rat)):MSm ⟨c',s',p'⟩:=by
 have hc:c'=v.c:=by rw[h.c,r,vS,jn];grind
 have es:∀x,lk s' x=lk v.s x:=λx=>by rw[h.es,r,jn];simp only[lk];grind
 have t:∀x,lk p' x=lk v.p x:=λx=>by rw[h.ep,r,jn];simp only[lk];grind
 refine⟨hc▸j.ci,h.s,h.p,h.po Zm,hc▸j.cb,λe he=>?_,λe he=>?_⟩
 .have h1:=fD h.s.nd he;rw[es]at h1;rw[<-h1];exact iA j.s.nd j.sb _
 have h1:=fD h.p.nd he;rw[t]at h1;rw[<-h1];exact iA j.p.nd j.pb _
theorem Ko(v w:MC)(I:MSm v)(L:MSm w):ZK prog 47 [mcP v,mcP w] (λr=>∃m,AddR v w m/\r=mcP m):=by
 refine ZD func47 O ntmps47 λ_ _ _ _=>?_
 have j:∃z:Int,((1:Int):Rat)=(z:Rat):=⟨1,O⟩;have t:bg smB ((1:Int):Rat):=by
  have:(1:Nat)<=smB:=by decide+kernel
  exact bg.up (B:=1) ⟨by decide+kernel,by decide+kernel⟩ this
 have u:=p8 1 Zk Zk;have G:=uR v ((1:Int):Rat) I j t;refine Z3 O<|Ge O follows [0,1,3,2,4] Zj<|D1 O O<|YM O (λτ h=>aa call95 u (h.aE O))<|D1 O O<|DL.rel (RO [] 4 2 (λr ob'=>∃c' s' p',IncR YK ((0:Int):Rat) [] [] v ((1:Int):Rat) c' s' p'/\r= .agg (BO c' 0 1)/\ob'=au (aaj s' p'))) [4,5] [4,5] [] O O O (λτ h=>Tu [] 4 call96 G (h.args.trans O) O O O trivial Zk (by show(τ.av 4&&(τ.av 5&&YK))=YK;rw[h.n 0 _ O,h.n 1 _ O];rfl)) O Zj Zj Zj ?_;rintro _ ⟨_,_,⟨c1,s1,p1,hR1,rfl,rfl⟩,rfl⟩ _ _;refine D1 O O ?_;refine⟨Zj,?_⟩;have H:=hR1.msm I O;have E:=jL c1 s1 p1 w ((1:Int):Rat) sm1 H L j t;refine VC 3 O<|D1 O O<|YM O (λτ h=>aa call95 u (h.aE O))<|DL.rel (RO [3,4,5] 6 0 (λv ob'=>∃c' s' p',IncR YK c1 s1 p1 w ((1:Int):Rat) c' s' p'/\v= .bS []/\ob'=au (aah c' s' p'))) [3,4,5] [] [3,4,5] O O O (λτ h=>Tu [3,4,5] 6 call97 E (h.args.trans O) O O O ⟨(h.o 0 _ O).trans Zj,(h.o 1 _ O).trans Zj,(h.o 2 _ O).trans Zj,Zp⟩ Zk O) O Zj Zj Zj ?_;rintro _ ⟨_,_,⟨c2,s2,p2,hR2,rfl,rfl⟩,rfl⟩ _ _;refine⟨Zj,?_⟩;exact Z2 O<|Vm (St.dZ (ks:=aq bu (srt bY s2)) (vs:=bm (srt bY s2)) 4 Zj (PI _ _) (pubE (bl bY s2).symm))<|Vm (St.dZ (ks:=aq ppP (srt cy p2)) (vs:=bm (srt cy p2)) 5 Zj (PI _ _) (pubE (bl cy p2).symm))<|YR O ⟨⟨ar ⟨_,aap,O⟩ s0 O O O,Zp⟩,⟨c2,srt bY s2,srt cy p2⟩,⟨by simp only;rw[hR2.c,hR1.c,vS,jn];grind,hR2.s.srt,hR2.p.srt,λe he=>hR2.po (hR1.po Zm) e ((bl _ _).mem_iff.1 he),fu eM hR2.s.nd,fu cZ hR2.p.nd,λx=>by rw[gy (bl _ _),hR2.es,hR1.es,jn];simp only[lk];grind,λx=>by rw[gy (bl _ _),hR2.ep,hR1.ep,jn];simp only[lk];grind⟩,O⟩
theorem Ih(a b:ZM):ZK prog 101 [bu a,bu b] (· =ppP (dD a b)):=by
 refine ZD func101 O ntmps101 λ_ _ _ _=>?_
 have hc:=yI a b;refine Z3 O<|Z2 O<|Rs O (aa call59 hc O)<|A1 O<|Gp O (λj=>?_) (λj=>?_)
 .have e:dD a b=(b,a):=IT (by simpa using j);exact Z4 O<|Z4 O<|YR O ⟨⟨ar ⟨_,underlying156,O⟩ Nb O O O,Zp⟩,by rw[e];rfl⟩
 have e:dD a b=(a,b):=AS (by simpa using j);exact Vl<|Z4 O<|YR O ⟨⟨ar ⟨_,underlying156,O⟩ Nb O O O,Zp⟩,by rw[e];rfl⟩
structure CrsO(δ:Bool)(b:List (PP×Rat))(ws vs todo:List (ZM×Rat))(acc:List (PP×Rat)):Prop where
 ok:LOk δ 36 acc
 po:∀e∈acc,bY e.1.1 e.1.2<=0
 ex:∃d,(d++todo).Perm vs/\∀u v,lk acc (dD u v)=lk b (dD u v)+(lk d u*lk ws v+lk d v*lk ws u)
structure CrsI(δ:Bool)(b:List (PP×Rat))(ws dP:List (ZM×Rat))(p:ZM)(x:Rat)(todo:List (ZM×Rat))(acc:List (PP×Rat)):Prop where
 ex:∃d,(d++todo).Perm ws/\Crs δ b ws dP d p x acc
theorem CrsO.start{b:List (PP×Rat)}{ws vs:List (ZM×Rat)}(h:LOk δ 36 b)(j:∀e∈b,bY e.1.1 e.1.2<=0):CrsO δ b ws vs vs b:=
 ⟨h,j,[],WH _,λu v=>by simp only[lk];grind⟩
theorem CrsO.into{b:List (PP×Rat)}{ws vs l1 l2:List (ZM×Rat)}{e:ZM×Rat}{acc:List (PP×Rat)}(h:CrsO δ b ws vs (l1++e::l2) acc):∃d,(d++(l1++e::l2)).Perm vs/\CrsI δ b ws d e.1 e.2 ws acc:=by obtain⟨d,h1,h2⟩:=h.ex;exact⟨d,h1,⟨[],WH _,h.ok,h.po,λu v=>by rw[h2];simp only[lk];grind⟩⟩
theorem CrsI.step{δ:Bool}{b:List (PP×Rat)}{ws dP l1 l2:List (ZM×Rat)}{p:ZM}{x:Rat}{e:ZM×Rat}{acc:List (PP×Rat)}(h:CrsI δ b ws dP p x (l1++e::l2) acc)(j:dR 36 (ctr p x e).2):CrsI δ b ws dP p x (l1++l2) (note δ acc (dD p e.1) (ctr p x e).2):=by obtain⟨d,h1,h2⟩:=h.ex;refine⟨d++[e],?_,h2.step e j⟩;refine List.Perm.trans ?_ h1;rw[XO];refine List.Perm.append_left d ?_;show(e::(l1++l2)).Perm (l1++e::l2);exact(List.perm_middle).symm
theorem CrsI.out{b:List (PP×Rat)}{ws vs d l1 l2:List (ZM×Rat)}{e:ZM×Rat}{acc:List (PP×Rat)}(r:(d++(l1++e::l2)).Perm vs)(h:CrsI δ b ws d e.1 e.2 [] acc):CrsO δ b ws vs (l1++l2) acc:=by
 obtain⟨dQ,h1,h2⟩:=h.ex;rw[W7]at h1;have j:=h2.row h1 e.1 e.2;refine⟨j.ok,j.po,d++[e],?_,λu v=>?_⟩
 .grind
 rw[j.eq];simp only[lk];grind
theorem CrsO.end{b:List (PP×Rat)}{ws vs:List (ZM×Rat)}{acc:List (PP×Rat)}(h:CrsO δ b ws vs [] acc)(u v:ZM):lk acc (dD u v)=lk b (dD u v)+(lk vs u*lk ws v+lk vs v*lk ws u):=by obtain⟨d,h1,h2⟩:=h.ex;rw[W7]at h1;rw[h2,gy h1,gy h1]
theorem CrsO.mem{b:List (PP×Rat)}{ws vs todo:List (ZM×Rat)}{acc:List (PP×Rat)}(h:CrsO δ b ws vs todo acc){e:ZM×Rat}(j:e∈todo):e∈vs:=by obtain⟨d,h1,_⟩:=h.ex;exact h1.subset (by simp[j])
theorem CrsI.mem{b:List (PP×Rat)}{ws dP todo:List (ZM×Rat)}{p:ZM}{acc:List (PP×Rat)}(h:CrsI δ b ws dP p x todo acc){e:ZM×Rat}(j:e∈todo):e∈ws:=by obtain⟨d,h1,_⟩:=h.ex;exact h1.subset (by simp[j])
theorem tE{d t l:List (K×Rat)}(h:(d++t).Perm l)(j:(l.map (·.1)).Nodup):(d.map (·.1)).Nodup:=by grind
theorem CrsI.abs{b:List (PP×Rat)}{ws vs dP todo t2:List (ZM×Rat)}{p:ZM}{acc:List (PP×Rat)}{C E:Nat}(h:CrsI δ b ws dP p x todo acc)(j:(dP++t2).Perm vs)(s:LOk YK 6 vs)(r:LOk YK 6 ws)(t:∀u v,bg B (lk b (dD u v)))
  (bv:∀e∈vs,bg C e.2) (bx:bg C x) (bw:∀e∈ws,bg E e.2):∀e∈acc,bg (B+(C*E+C*E)+(C*E+C*E)) e.2:=by
 obtain⟨d,h1,h2⟩:=h.ex;refine h2.abs t (λu=>iA (tE j s.nd) (λe he=>bv e (j.subset (by simp[he]))) u) bx (λu=>iA r.nd bw u) (λu=>iA (tE h1 r.nd) (λe he=>bw e (h1.subset (by simp[he]))) u)
theorem sm3:smB*smB+smB*smB+(smB*smB+smB*smB)+(smB*smB+smB*smB)<=Gg:=by decide+kernel
theorem sm4:smB*smB+smB*smB<=Gg:=by decide+kernel
structure MulR(v w m:MC):Prop where
 c:m.c=v.c*w.c
 s:LOk YK 6 m.s
 p:LOk YK 36 m.p
 po:∀e∈m.p,bY e.1.1 e.1.2<=0
 sa:Mm.Asc bY m.s
 pa:Mm.Asc cy m.p
 es:∀x,lk m.s x=lk w.s x*v.c+lk v.s x*w.c
 ep:∀x y,lk m.p (dD x y)=lk w.p (dD x y)*v.c+lk v.p (dD x y)*w.c+(lk v.s x*lk w.s y+lk v.s y*lk w.s x)
theorem IncR.scaled{v:MC}{k c':Rat}{s':List (ZM×Rat)}{p':List (PP×Rat)}(h:IncR YK ((0:Int):Rat) [] [] v k c' s' p')(r:MSm v)(t:∃z:Int,k=(z:Rat))(j:bg smB k):MSmB (smB*smB) ⟨c',s',p'⟩:=by
 have hc:c'=v.c*k:=by rw[h.c,vS];grind
 refine⟨?_,h.s,h.p,h.po (λ_ h=>absurd h Zm),by simp only;rw[hc];exact r.cb.mul j,λe he=>?_,λe he=>?_⟩
 .obtain⟨a,ha⟩:=r.ci;obtain⟨b,hb⟩:=t;exact⟨a*b,by simp only;rw[hc,ha,hb,Ye]⟩
 .have h1:=fD h.s.nd he;rw[h.es]at h1;rw[<-h1];simp only[lk,Rat.zero_add];exact(iA r.s.nd r.sb _).mul j
 have h1:=fD h.p.nd he;rw[h.ep]at h1;rw[<-h1];simp only[lk,Rat.zero_add];exact(iA r.p.nd r.pb _).mul j
theorem HT(v w:MC)(z:MSm v)(H:MSm w):ZK prog 48 [mcP v,mcP w] (λr=>∃m,MulR v w m/\r=mcP m):=by
 refine ZD func48 O ntmps48 λ_ _ _ _=>?_
 have ao:=uR w v.c H z.ci z.cb;have ap:=iQ v.c w.c (ej (dR.int 36 z.ci) z.cb sm0) (ej (dR.int 36 H.ci) H.cb sm0);refine Z3 O<|Z3 O<|RL.call O (cf [] 3 call96 O O O O (by exact trivial) Zk O ao ?_);rintro _ _ ⟨c1,s1,p1,hR1,rfl,rfl⟩;refine Y2 O ?_;have V:=hR1.scaled H z.ci z.cb;have ac:=jL c1 s1 p1 v w.c sm4 V z H.ci H.cb;refine Z3 O<|RL.call O (cf [5,3,4] 6 call97 O O O O (by exact⟨Zj,Zj,Zj,Zp⟩) Zk O ac ?_);rintro _ _ ⟨c2,s2,p2,hR2,rfl,rfl⟩;have ad:=hR2.po (hR1.po (λ_ h=>absurd h Zm));have af:∀x y,bg (smB*smB+smB*smB) (lk p2 (dD x y)):=λx y=>by
  rw[hR2.ep];exact(iA V.p.nd V.pb _).add ((iA z.p.nd z.pb _).mul H.cb)
 refine Z4 O<|Rs O (aa call98 ap O)<|Y2 O<|Z2 O<|Rs O (fo 6 aax O O)<|Gz O (st:=λZq:List (ZM×Rat)×List (PP×Rat)×na=>([(3,WC),(4,WC),(5,WC),(27,WC)],[(1,WC),(2,WC),(3,WC),(4,WB (.mp (aq ppP Zq.2.1) (bm Zq.2.1))),(5,WC),(6,WB (.mi Zq.2.2 (aq bu Zq.1) (bm Zq.1)))])) 7
  (I:=λZq=>CrsO YK p2 w.s v.s Zq.1 Zq.2.1) (μ:=λZq=>Zq.1.length) (x0:=(v.s,p2,[])) (Vn (aS O) (aO Zj) O O) (CrsO.start hR2.p ad) ?_
 rintro⟨todo,acc,cur⟩ hI;try simp only at hI ⊢
 refine Gr O<|RL.call O (gH O O ?_);rintro b rest cur2 ks2 vs2 hN;refine Rs O (cE O O)<|Gc O (λt=>?_) (λt=>?_)
 .obtain⟨_,l1,e,l2,rfl,rfl,rfl,rfl,rfl⟩:=(gE.ofE hN).resolve_left (by rintro⟨h,_⟩;rw[h]at t;cases t);obtain⟨dP,hdP,hI2⟩:=hI.into;have ag:=hI.mem (e:=e) Zm;have ah:=z.s.it e ag;have E:=z.sb e ag;refine Vl<|Gr O<|Rs O (fe O O)<|Ar 6 O<|Z2 O<|Rs O (fo 9 aax O O)<|Gz O (st:=λj:List (ZM×Rat)×List (PP×Rat)×na=>([(3,WC),(4,WC),(5,WC),(6,WC),(7,WC),(27,WC),(35,WC)],[(1,WC),(2,WC),(3,WC),(4,WB (.mp (aq ppP j.2.1) (bm j.2.1))),(5,WC),(6,WC),(7,WC),(8,WC),(9,WB (.mi j.2.2 (aq bu j.1) (bm j.1)))])) 10
   (I:=λj=>CrsI YK p2 w.s dP e.1 e.2 j.1 j.2.1) (μ:=λj=>j.1.length) (x0:=(w.s,acc,[])) (Vn (aS O) (aO Zj) O O) (hI2) ?_
  rintro⟨todo2,acc2,cur3⟩ hJ;try simp only at hJ ⊢
  refine Gr O<|RL.call O (gH O O ?_);rintro b2 rest2 cur4 ks4 vs4 hN2;refine Rs O (cE O O)<|Gc O (λu=>?_) (λu=>?_)
  .obtain⟨_,l3,g,l4,rfl,rfl,rfl,rfl,rfl⟩:=(gE.ofE hN2).resolve_left (by rintro⟨h,_⟩;rw[h]at u;cases u);have ai:=hJ.mem (e:=g) Zm;have al:=H.s.it g ai;have U:=H.sb g ai;have au:=iQ e.2 g.2 (ej ah.Mb E sm0) (ej al.Mb U sm0);have G:dR 36 (e.2*g.2):=ah.mul al;have X:=ej G (E.mul U) sm2;have ax:=mO (e.2*g.2) (e.2*g.2) X X;have am:=Ih e.1 g.1;refine Vl<|Gr O<|Rs O (fe O O)<|Ar 6 O<|Z2 O<|Rs O (aa call98 au O)<|Y2 O<|Z2 O<|Rs O (jm O O O)<|Gc O (λT=>?_) (λT=>?_)
   .have hq:(e.1==g.1)=YK:=T;have L:(ctr e.1 e.2 g).2=e.2*g.2+e.2*g.2:=by simp only[ctr,hq,Yk]
    have Y:dR 36 (ctr e.1 e.2 g).2:=by rw[L];exact G.add G
    have M:=hJ.step Y;rw[L]at M;have ab:=nT acc2 (dD e.1 g.1) (e.2*g.2+e.2*g.2) (ej (G.add G) ((E.mul U).add (E.mul U)) sm4) (λx hx=>ej (hJ.ex.choose_spec.2.ok.it x hx) (hJ.abs (t2:=l1++e::l2) hdP z.s H.s af z.sb E H.sb x hx) sm3);refine Z2 O<|Rs O (aa call99 ax O)<|A1 O<|VC 7 O<|Dr 4 O<|YM O (λτ h=>aa call101 am (h.aE O))<|D1 O O<|YQ [4] O (λτ h=>az [4] 13 call100 ab (h.args.trans O) O O O ⟨(Eo h 0 O),Zp⟩ Zk O) ⟨Zj,⟨(l3++l4,note YK acc2 (dD e.1 g.1) (e.2*g.2+e.2*g.2),[bu g.1,frP g.2]),Vn (aS O) (aO Zj) O O,M,Zm⟩⟩
   have hq:(e.1==g.1)=YL:=T;have L:(ctr e.1 e.2 g).2=e.2*g.2:=by simp only[ctr,hq,Wj,Yd]
   have Y:dR 36 (ctr e.1 e.2 g).2:=by rw[L];exact G
   have M:=hJ.step Y;rw[L]at M;have ab:=nT acc2 (dD e.1 g.1) (e.2*g.2) X (λx hx=>ej (hJ.ex.choose_spec.2.ok.it x hx) (hJ.abs (t2:=l1++e::l2) hdP z.s H.s af z.sb E H.sb x hx) sm3);refine Vl<|VC 7 O<|Dr 4 O<|YM O (λτ h=>aa call101 am (h.aE O))<|D1 O O<|YQ [4] O (λτ h=>az [4] 13 call100 ab (h.args.trans O) O O O ⟨(Eo h 0 O),Zp⟩ Zk O) ⟨Zj,⟨(l3++l4,note YK acc2 (dD e.1 g.1) (e.2*g.2),[bu g.1,frP g.2]),Vn (aS O) (aO Zj) O O,M,Zm⟩⟩
  obtain⟨_,rfl,_⟩:=(gE.ofE hN2).resolve_right (by rintro⟨h,_⟩;rw[h]at u;cases u);have an:=hJ.out hdP;exact Gx O<|⟨(l1++l2,acc2,[bu e.1,frP e.2]),Vn (aS O) (aO Zj) O O,an,Zm⟩
 obtain⟨_,rfl,_⟩:=(gE.ofE hN).resolve_right (by rintro⟨h,_⟩;rw[h]at t;cases t);have ay:=hI.end;exact Gx O<|Z2 O<|Vm (St.dZ (ks:=aq bu (srt bY s2)) (vs:=bm (srt bY s2)) 3 Zj (PI _ _) (pubE (bl bY s2).symm))<|Vm (St.dZ (ks:=aq ppP (srt cy acc)) (vs:=bm (srt cy acc)) 4 Zj (PI _ _) (pubE (bl cy acc).symm))<|YR O ⟨⟨ar ⟨_,aap,O⟩ s0 O O O,Zp⟩,⟨v.c*w.c,srt bY s2,srt cy acc⟩,⟨O,hR2.s.srt,hI.ok.srt,λe he=>hI.po e ((bl _ _).mem_iff.1 he),fu eM hR2.s.nd,fu cZ hI.ok.nd,λx=>by rw[gy (bl _ _),hR2.es,hR1.es];simp only[lk];grind,λx y=>by rw[gy (bl _ _),ay,hR2.ep,hR1.ep];simp only[lk];grind⟩,O⟩
end
section
open Go.RowKit Mm
namespace Mm
theorem MOk.msm{m:MC}(h:MOk W k m)(j:W<=10^50)(r:k<=50):MSm m:=by
 have t:(10:Nat)^50<=smB:=by decide+kernel
 have u:3*50*10^50<=smB:=by decide+kernel
 have z:9*50*50*10^50<=smB:=by decide+kernel
 exact⟨h.ci,h.s,h.p,h.po,h.cb.up (OF j t),λe he=>(h.sb e he).up (OF (Xa (Wn 3 r) j) u),
  λe he=>(h.pb e he).up (OF (Xa (Xa (Wn 9 r) r) j) z)⟩
section
variable {K:Type}[BEq K][LawfulBEq K]
theorem Inc.go{b w:List (K×Rat)}(j:∀e∈w,dR D (e.2*q)):∀{todo acc:List (K×Rat)},Inc δ D b w q todo acc->∃acc',Inc δ D b w q [] acc'
 |[],acc,h=>⟨acc,h⟩
 |e::t,acc,h=>Inc.go j (todo:=t) (Inc.step (l1:=[]) h (j e (h.mem Zm)))
end
theorem CrsI.go{b:List (PP×Rat)}{ws dP:List (ZM×Rat)}{p:ZM}(j:LOk YK 6 ws)(r:dR 6 x):∀{todo:List (ZM×Rat)}{acc:List (PP×Rat)},CrsI δ b ws dP p x todo acc->∃acc',CrsI δ b ws dP p x [] acc'
 |[],acc,h=>⟨acc,h⟩
 | e::t,acc,h=>by
   have hz:dR 36 (x*e.2):=r.mul (j.it e (h.mem Zm));have s:dR 36 (ctr p x e).2:=by
    simp only[ctr];split
    .exact hz.add hz
    exact hz
   exact CrsI.go j r (todo:=t) (CrsI.step (l1:=[]) h s)
theorem CrsO.go{b:List (PP×Rat)}{ws vs:List (ZM×Rat)}(j:LOk YK 6 ws)(r:LOk YK 6 vs):∀{todo:List (ZM×Rat)}{acc:List (PP×Rat)},CrsO δ b ws vs todo acc->∃acc',CrsO δ b ws vs [] acc'
 |[],acc,h=>⟨acc,h⟩
 | e::t,acc,h=>by
   obtain⟨d,h1,h2⟩:=CrsO.into (l1:=[]) h;obtain⟨acc2,h3⟩:=CrsI.go j (r.it e (h.mem Zm)) h2;exact CrsO.go j r (todo:=t) (CrsI.out (l1:=[]) h1 h3)
theorem SOk.add{W':Nat}{x y:Sem}(r:SOk W k x)(t:SOk W' k y):SOk (W+W') k (Sem.add x y):=by obtain⟨v,hv,rfl⟩:=r;obtain⟨w,hw,rfl⟩:=t;have j:∀z:Rat,z*(1:Rat)=z:=Rat.mul_one;obtain⟨s,hs⟩:=Inc.go (λe he=>by rw[j];exact hw.s.it e he) (Inc.start hv.s w.s 1);obtain⟨p,hp⟩:=Inc.go (λe he=>by rw[j];exact hw.p.it e he) (Inc.start hv.p w.p 1);obtain⟨e,h⟩:=MOk.add hv hw (m:=⟨v.c+w.c,s,p⟩) O hs.ok hp.ok (hp.po hv.po hw.po) (λx=>by rw[hs.end,j]) (λx=>by rw[hp.end,j]);exact⟨_,h,e⟩
theorem SOk.mul{W' k':Nat}{x y:Sem}(t:SOk W k x)(u:SOk W' k' y):SOk (W*W') (k+k') (Sem.mul x y):=by obtain⟨v,hv,rfl⟩:=t;obtain⟨w,hw,rfl⟩:=u;obtain⟨s1,hs1⟩:=Inc.go (λe he=>(hw.s.it e he).C9 hv.ci) (Inc.start (LOk.nil 6) w.s v.c);obtain⟨s,hs⟩:=Inc.go (λe he=>(hv.s.it e he).C9 hw.ci) (Inc.start hs1.ok v.s w.c);obtain⟨p1,hp1⟩:=Inc.go (λe he=>(hw.p.it e he).C9 hv.ci) (Inc.start (LOk.nil 36) w.p v.c);have j:=hp1.po (λ_ h=>absurd h Zm) hw.po;obtain⟨p2,hp2⟩:=Inc.go (λe he=>(hv.p.it e he).C9 hw.ci) (Inc.start hp1.ok v.p w.c);have r:=hp2.po j hv.po;obtain⟨p,hp⟩:=CrsO.go hw.s hv.s (CrsO.start hp2.ok r);obtain⟨e,h⟩:=MOk.mul hv hw (m:=⟨v.c*w.c,s,p⟩) O hs.ok hp.ok hp.po (λx=>by rw[hs.end,hs1.end];simp only[lk];grind) (λx y=>by rw[hp.end,hp2.end,hp1.end];simp only[lk];grind);exact⟨_,h,e⟩
def cnt(n:Int):Sem:=⟨(n:Rat),λ_=>0,λ_ _=>0⟩
theorem vD(n:Nat):MOk n 0 ⟨((n:Int):Rat),[],[]⟩:=
 ⟨⟨n,O⟩,LOk.nil 6,LOk.nil 36,λ_ h=>absurd h Zm,⟨by have:(0:Rat)<=(n:Rat):=Rat.natCast_le_natCast.2 (sh n);show-(n:Rat)<=(n:Rat);grind,Rat.le_refl⟩,λ_ h=>absurd h Zm,λ_ h=>absurd h Zm⟩
theorem bH(n:Nat):SOk n 0 (cnt n):=⟨_,vD n,O⟩
theorem tJ(n:Nat):cn (cnt n)=⟨((n:Int):Rat),[],[]⟩:=Og (vD n) List.Pairwise.nil List.Pairwise.nil
open Classical in
noncomputable def lft(p:ZM)(x:Rat):Sem:=⟨1,λq=>if q=p then x else 0,λa b=>if a=p/\b=p then x*x else 0⟩
open Classical in
noncomputable def mcOne(p:ZM)(x:Rat):MC:=⟨((1:Int):Rat),if x=0 then []else [(p,x)],if x=0 then []else [((p,p),x*x)]⟩
open Classical in
theorem Ad(p:ZM)(x:Rat)(j:dR 6 x)(t:bg 3 x):MOk 1 1 (mcOne p x)/\(mcOne p x).sem=lft p x/\Asc bY (mcOne p x).s/\Asc cy (mcOne p x).p:=by
 have hc:bg 1 ((1:Int):Rat):=⟨by decide+kernel,by decide+kernel⟩;have u:bY p p=0:=fa.2 O;by_cases h:x=0
 .have e:mcOne p x=⟨((1:Int):Rat),[],[]⟩:=by rw[mcOne,IT h,IT h]
  rw[e];refine⟨⟨⟨1,O⟩,LOk.nil 6,LOk.nil 36,λ_ h=>absurd h Zm,hc,λ_ h=>absurd h Zm,λ_ h=>absurd h Zm⟩,Sem.same O (λq=>?_) (λa b=>?_),List.Pairwise.nil,List.Pairwise.nil⟩
  .show(0:Rat)=if q=p then x else 0
   split
   .exact h.symm
   .rfl
  show(0:Rat)=if a=p/\b=p then x*x else 0
  split
  .rw[h,Rat.zero_mul]
  .rfl
 have e:mcOne p x=⟨((1:Int):Rat),[(p,x)],[((p,p),x*x)]⟩:=by rw[mcOne,AS h,AS h]
 rw[e];refine⟨⟨⟨1,O⟩,⟨Zm,by simpa using h,by simpa using j⟩,⟨Zm,?_,?_⟩,?_,hc,?_,?_⟩,Sem.same O (λq=>?_) (λa b=>?_),Zm,Zm⟩
 .grind
 .intro e he;simp at he;subst he;exact j.mul j
 .grind
 .grind
 .intro e he;simp at he;subst he;exact t.mul t
 .show(if p==q then x else 0)+(0:Rat)=if q=p then x else 0
  rw[Rat.add_zero];by_cases hq:q=p
  .subst hq;simp
  grind
 show(if(p,p)==dD a b then x*x else 0)+(0:Rat)=if a=p/\b=p then x*x else 0
 rw[Rat.add_zero];by_cases hq:a=p/\b=p
 .grind[eu]
 rw[AS hq,AS];intro h2;have r:=eq_of_beq h2;rw[<-eu (show bY p p<=0 by omega)]at r;rcases D8 r with⟨h4,h5⟩|⟨h4,h5⟩
 .exact hq ⟨h4.symm,h5.symm⟩
 exact hq ⟨h5.symm,h4.symm⟩
theorem IX(p:ZM)(x:Rat)(j:dR 6 x)(r:bg 3 x):SOk 1 1 (lft p x):=⟨_,(Ad p x j r).1,(Ad p x j r).2.1⟩
theorem T8(p:ZM)(x:Rat)(j:dR 6 x)(r:bg 3 x):cn (lft p x)=mcOne p x:=by obtain⟨h1,h2,h3,h4⟩:=Ad p x j r;rw[<-h2];exact Og h1 h3 h4
end Mm
theorem G1{m:MC}(h:MOk W k m)(hs:Mm.Asc bY m.s)(j:Mm.Asc cy m.p):momP m.sem=mcP m:=by show mcP (cn m.sem)=mcP m;rw[Og h hs j]
theorem S8{W':Nat}{x y:ZB}(u:SOk W k x)(z:SOk W' k y)(E:W<=10^50)(j:W'<=10^50)(t:k<=50):ZK prog 47 [momP x,momP y] (· =momP (Mm.Sem.add x y)):=by obtain⟨mx,ex,_,_⟩:=u.cn;obtain⟨my,ey,_,_⟩:=z.cn;refine(Ko (cn x) (cn y) (mx.msm E t) (my.msm j t)).mono ?_;rintro r ⟨m,hR,rfl⟩;obtain⟨e,hm⟩:=MOk.add mx my hR.c hR.s hR.p hR.po hR.es hR.ep;rw[ex,ey]at e;rw[<-e];exact(G1 hm hR.sa hR.pa).symm
theorem As{W' k':Nat}{x y:ZB}(u:SOk W k x)(z:SOk W' k' y)(E:W<=10^50)(j:W'<=10^50)(G:k<=50)(t:k'<=50):ZK prog 48 [momP x,momP y] (· =momP (Mm.Sem.mul x y)):=by obtain⟨mx,ex,_,_⟩:=u.cn;obtain⟨my,ey,_,_⟩:=z.cn;refine(HT (cn x) (cn y) (mx.msm E G) (my.msm j t)).mono ?_;rintro r ⟨m,hR,rfl⟩;obtain⟨e,hm⟩:=MOk.mul mx my hR.c hR.s hR.p hR.po hR.es hR.ep;rw[ex,ey]at e;rw[<-e];exact(G1 hm hR.sa hR.pa).symm
theorem qk(n:Nat)(j:n<=9223372036854775807):ZK prog 46 [ZU n] (· =momP (cnt n)):=by have h:=z1 (n:Int) Zi Zi;rw[show mcP (mcW (n:Int))=momP (cnt n) by show mcP ⟨((n:Int):Rat),[],[]⟩=mcP (cn (cnt n));rw[tJ]]at h;exact h
theorem OC(p:ZM)(x:Rat)(z:FOk x):ZK prog 107 [bu p,frP x] (· =mcP (mcOne p x)):=by
 refine ZD func107 O ntmps107 λ_ _ _ _=>?_
 have t:=ry 1 Zk Zk;have hs:=fQ x;have E:=iQ x x z z;have u:(x.num.sign==0)=decide (x=0):=iN;refine Z3 O<|Gr O<|Rs O (az [] 3 call46 t O O O O trivial Zk O)<|Y2 O<|Z1 O<|Rs O (aa call102 hs O)<|A1 O<|Gc O (λj=>?_) (λj=>?_)
 .have h0:¬x=0:=by have s:(x.num.sign !=0)=YK:=j;rw[bne,u]at s;simpa using s
  have e:mcOne p x=⟨((1:Int):Rat),[(p,x)],[((p,p),x*x)]⟩:=by rw[mcOne,AS h0,AS h0]
  refine Z4 O<|RL.step (d:=WC) O O (br iI aax O O O O ⟨p,O⟩ (r:=WC) O O O)<|VC 9 O<|Dr 7 O<|YM O (λτ h=>aa call98 E (h.aE O))<|DL.step (d:=WC) [4] O O O (λτ h=>br yR aaD (Ee h 0 O) (Eo h 0 O) (Ee h 1 O) (Ee h 2 O) ⟨(p,p),O⟩ (r:=WC) O O O) O Zj ⟨Zj,Vm (St.dZ (ks:=[bu p]) (vs:=[frP x]) 3 Zj O (WH _))<|Vm (St.dZ (ks:=[ppP (p,p)]) (vs:=[frP (x*x)]) 4 Zj O (WH _))<|Z2 O<|YR O ⟨⟨ar ⟨_,aap,O⟩ s0 O O O,Zp⟩,by rw[e];rfl⟩⟩
 have h0:x=0:=by have s:(x.num.sign !=0)=YL:=j;rw[bne,u]at s;simpa using s
 have e:mcOne p x=⟨((1:Int):Rat),[],[]⟩:=by rw[mcOne,IT h0,IT h0]
 exact Vl<|Vm (St.dZ (ks:=[]) (vs:=[]) 3 Zj O (WH _))<|Vm (St.dZ (ks:=[]) (vs:=[]) 4 Zj O (WH _))<|Z2 O<|YR O ⟨⟨ar ⟨_,aap,O⟩ s0 O O O,Zp⟩,by rw[e];rfl⟩
theorem IY(p:ZM)(x:Rat)(j:dR 6 x)(r:bg 3 x):ZK prog 107 [bu p,frP x] (· =momP (lft p x)):=by have h:=OC p x (ej j.Mb r Zt);rw[<-T8 p x j r]at h;exact h
end
noncomputable section
open Mk Jn Mm
abbrev aab:List Nat:=[big,9001,9002,9003,9004,9005,9006]
abbrev aae:List (Nat×Option Ob):=[(big,WC),(9001,WC),(9002,WC),(9003,WC),(9004,WC),(9005,WC),(9006,WC)]
abbrev Z7:List Nat:=[big,9001,9002,9003,9004,9005]
end
section
open Mk Jn
abbrev o6M(J:JD)(W:WD)(σ:vb)(now:hC)(mk mv:na):Zy:=[(big,oM W 9004 9001 J.S.aj.length 9002 9003),(9001,.cells 9 (bj now)),(9002,.cells 4 (a8 (stL σ J.S.aj.length))),(9003,.mp mk mv),(9004,oX2 J 9005),(9005,.mp J.pk J.pv)]
theorem jP(J:JD)(hJ:JOk J)(W:WD)(σ:vb)(now:hC)(hn:ZR J.S.aj.length σ now)(mk mv:na)(r:Nat)(U:r<J.S.aU.length)(x:Rw)(hx:x.v.length=J.S.aU[r].2.length):
  ZS prog 264 6 0 [.ptr big 0,ZI r,.pv (UI x)] (o6M J W σ now mk mv) (λv ob'=>v= .pv (.bool (agr J.S.aU[r].2 σ x.v))/\ob'=au (o6M J W σ now mk mv)):=by
 refine ZE func264 O ntmps264 λ_ _ _ _=>?_
 have hS:=hJ.s;have H:=iq U;have X:(aZ J.S.aU)[r*2+1]? =WB (al J.S.aU[r].2):=by
  have h2:(((aZ J.S.aU).drop (r*2)).take 2)[1]? =[PV.str J.S.aU[r].1,al J.S.aU[r].2][1]? :=by rw[eT U]
  simpa[V2,WM]using h2
 have hrl:=hS.l _ (ak U);have L:=hS.b _ (ak U);have hSr:=hS.r;have Y:=hn.l;rw[Pv];generalize J.S.aU[r].2=A at*;refine Z2 O<|Gr O<|Ar 9 O<|Rs O (ai r underlying27 O1 O O O U H)<|A1 O<|Rs O (aC ⟨_,aal,O⟩ O X)<|Y2 O<|Gz O (st:=λZq:Nat=>([(0,WC),(5,WC),(20,WC),(21,WC),(22,WB (ZI Zq))],[(big,WC),(0,WC),(9001,WC),(9002,WC),(9003,WC),(9004,WC),(9005,WC)])) 1
  (I:=λZq=>Zq<=A.length/\((A.zip x.v).take Zq).all (agP σ)=YK) (μ:=λZq=>A.length-Zq) (x0:=0) (YS O) (⟨sh _,O⟩) ?_
 rintro j ⟨hj,hall⟩;refine Z1 O<|Gp O (λT=>?_) (λT=>?_)
 .have hlj:j<A.length:=Zi;have E:=mu hx hlj (agP σ);obtain⟨a,haa⟩:=VG (L _ (ak hlj)).1;have aa:a<J.S.aj.length:=by have:=(L _ (ak hlj)).2;omega
  have ab:(aI A)[j*1]? =WB (.int .i64 (a:Int)):=by rw[<-haa];simp[hlj]
  have hpn:=aU hlj;have M:j<x.v.length:=Zi;have ac:=bD M;have hsn:=cz M;have u:=Us (σ:=σ) aa;have G:=bD (l:=now) (k:=a) Zi;have hsl:(a8 (stL σ J.S.aj.length)).length=J.S.aj.length:=by rw[IS,n4]
  have af:(bj now).length=J.S.aj.length:=by rw[IS,Y]
  rw[hall,haa,Yb]at E;refine Vl<|Z2 O<|Rs O (aC ⟨_,aan,O⟩ O ab)<|Y2 O ?_;by_cases hsg:(σ (a:Int)).isSome=YK
  .have hval:=Option.some_get hsg;have ad:now[a]'Zi=(σ (a:Int)).get hsg:=hn.e a Zi _ hval.symm;generalize hgz:(σ (a:Int)).get hsg=z at*;rw[uW hval.symm]at E;rw[hsg]at u;rw[ad]at G;refine VC 22 O<|Dr 6 O<|YQ [_] O (λτ h=>aX ⟨_,underlying4,O⟩ (Ee h 0 O) (Eo h 0 O) u)<|Dr 7 O<|Dg [_] O (λτ h=>aX ⟨_,aam,O⟩ (Ee h 0 O) (Eo h 0 O) G) O Zj<|Dr 4 O<|Dg [] O (λτ h=>aC ⟨_,aam,O⟩ (Ee h 0 O) ac) O Zj<|Dr 2 O ⟨Zj,Gc O (λt=>?_) (λt=>?_)⟩
   .exact Z1 O<|Gt O<|⟨[(6,.pv (.bool YL))],o6M J W σ now mk mv,[.pv (.bool YL)],YS O,O,O,O,ah (λb=>V.pv (.bool b)) (G6 (E.trans (ba_ne t))).symm,O⟩
   exact Vl<|Z2 O<|⟨(j+1),YS O,⟨Zi,E.trans (ba_eq t)⟩,Zi⟩
  have hno:σ (a:Int)=WC:=by cases h:σ (a:Int)with|none=>rfl|some x=>rw[h]at hsg;exact absurd O hsg
  rw[CP hno]at E;rw[XB hsg]at u;refine VC 22 O<|Dr 6 O<|YQ [_] O (λτ h=>aX ⟨_,underlying4,O⟩ (Ee h 0 O) (Eo h 0 O) u)<|Dr 15 O ⟨Zj,Gc O (λt=>absurd t Zm) (λt=>?_)⟩;exact Vl<|Z2 O<|⟨(j+1),YS O,⟨Zi,E⟩,Zi⟩
 rw[aG Zn]at hall;exact Gx O<|Z1 O<|Gt O<|⟨[(6,.pv (.bool YK))],o6M J W σ now mk mv,[.pv (.bool YK)],YS O,O,O,O,ah (λb=>V.pv (.bool b)) hall.symm,O⟩
abbrev o7M(J:JD)(W:WD)(σ:vb)(now:hC)(mk mv:na):Zy:=[(big,.mix 197 [.ptr 9001 0]),(9001,oM W 9005 9002 J.S.aj.length 9003 9004),(9002,.cells 9 (bj now)),(9003,.cells 4 (a8 (stL σ J.S.aj.length))),(9004,.mp mk mv),(9005,oX2 J 9006),(9006,.mp J.pk J.pv)]
theorem A7(J:JD)(s:JOk J)(W:WD)(σ:vb)(now:hC)(t:ZR J.S.aj.length σ now)(mk mv:na)(r:Nat)(u:r<J.S.aU.length)(x:Rw)(z:x.v.length=J.S.aU[r].2.length):
  ZS prog 300 7 0 [.pv (UI x),.ptr big 0,.pv (.rp [.int .i64 r] 0)] (o7M J W σ now mk mv) (λv ob'=>v= .pv (.bool (agr J.S.aU[r].2 σ x.v))/\ob'=au (o7M J W σ now mk mv)):=by
 refine ZE func300 O ntmps300 λ_ _ _ _=>?_
 have j:=jP J s W σ now t mk mv r u x z;generalize agr J.S.aU[r].2 σ x.v=b at*;refine Z2 O<|Gr O ?_;first|refine A1 O ?_|refine A2 O Zl ?_
 first|refine A1 O ?_|refine A2 O Zl ?_
 exact A1 O<|Rs O (az [9001,9002,9003,9004,9005,9006] 1 call264 j O O O O ⟨O,O,O,O,O,O,Zp⟩ Zk O)<|A1 O<|Gt O<|⟨[(4,.pv (.bool b))],o7M J W σ now mk mv,[.pv (.bool b)],Vn (aS O) (aO Zj) O O,O,O,O,O,O⟩
abbrev sm1M(r:Nat):V:= .fn (.func 300) [] [.ptr big 0,.pv (.rp [.int .i64 r] 0)]
theorem xP(J:JD)(H:JOk J)(W:WD)(σ:vb)(now:hC)(L:ZR J.S.aj.length σ now)(mk mv:na)(r:Nat)(V:r<J.S.aU.length)(l:om)(hl:l.length<=1000)(M:∀x∈l,x.v.length=J.S.aU[r].2.length):
  ∃i:Int,decide (i>=0)=l.any (λx=>agr J.S.aU[r].2 σ x.v)/\ZS prog 330 7 0 [.pv (nB l),sm1M r] (o7M J W σ now mk mv) (λv ob'=>v= ZI i/\ob'=au (o7M J W σ now mk mv)):=by
 have u:∀k (h:k<l.length),ZS prog 300 7 0 [.pv (UI l[k]),.ptr big 0,.pv (.rp [.int .i64 r] 0)] (o7M J W σ now mk mv) (λv ob'=>v= .pv (.bool (agr J.S.aU[r].2 σ l[k].v))/\ob'=au (o7M J W σ now mk mv)):=λk h=>A7 J H W σ now L mk mv r V l[k] (M _ (ak h))
 have t:∃i:Int,decide (i>=0)=l.any (λx=>agr J.S.aU[r].2 σ x.v)/\((∀k (h:k<l.length),agr J.S.aU[r].2 σ l[k].v=YK->(∀j (h:j<l.length),j<k->agr J.S.aU[r].2 σ l[j].v=YL)->i=k)/\((∀j (h:j<l.length),agr J.S.aU[r].2 σ l[j].v=YL)->i= -1)):=HQ l λx=>agr J.S.aU[r].2 σ x.v
 obtain⟨i,t,hi1,hi2⟩:=t;refine⟨i,t,?_⟩;refine ZE func330 O ntmps330 λ_ _ _ _=>?_
 clear t H L M;generalize J.S.aU[r].2=A at*;refine Z1 O<|Z3 O<|Gz O (st:=λZq:Nat=>((ZZ Zq),aae)) 0
  (I:=λZq=>Zq<=l.length/\∀j (h:j<l.length),j<Zq->agr A σ l[j].v=YL) (μ:=λZq=>l.length-Zq) (x0:=0) (Vn (aS O) (aO Zj) O O) (⟨sh _,λ_ _ h=>absurd h Zi⟩) ?_
 rintro k ⟨hk,hno⟩;refine Z1 O<|Gp O (λG=>?_) (λG=>?_)
 .have hlt:k<l.length:=Zi;have T:=dy hlt;have U:=dW hlt;have z:=u k hlt;have E:=hi1 k hlt;generalize hbk:agr A σ l[k].v=b at*;refine Vl<|Z2 O<|Z4 O ?_;first|refine A3 O Zl ?_|refine A1 O ?_
  refine Rs O (fi aab 0 call300 z O O O O O O ⟨O,O,O,O,O,O,O,Zp⟩ Zk O)<|Gc O (λs=>?_) (λs=>?_)
  .exact Z2 O<|Gt O<|⟨[(4,ZI k)],o7M J W σ now mk mv,[ZI k],Vn (aS O) (aO Zj) O O,O,O,O,by rw[E s hno];rfl,O⟩
  exact Vl<|Z2 O<|⟨(k+1),Vn (aS O) (aO Zj) O O,⟨Zi,λj h hj=>by rcases V3.1 hj with h1|h1;exact hno j h h1;subst h1;exact hbk.trans s⟩,Zi⟩
 have hm:=hi2 λj h=>hno j h Zi
 exact Gx O<|Z1 O<|Gt O<|⟨[(4,ZI (-1))],o7M J W σ now mk mv,[ZI (-1)],Vn (aS O) (aO Zj) O O,O,O,O,by rw[hm];rfl,O⟩
theorem xF(J:JD)(j:JOk J)(W:WD)(σ:vb)(now:hC)(s:ZR J.S.aj.length σ now)(mk mv:na)(r:Nat)(u:r<J.S.aU.length)(l:om)(hl:l.length<=1000)(t:∀x∈l,x.v.length=J.S.aU[r].2.length):
  ZS prog 299 7 0 [.pv (nB l),sm1M r] (o7M J W σ now mk mv) (λv ob'=>v= .pv (.bool (l.any λx=>agr J.S.aU[r].2 σ x.v))/\ob'=au (o7M J W σ now mk mv)):=by
 obtain⟨i,hi,hgo⟩:=xP J j W σ now s mk mv r u l hl t;refine ZE func299 O ntmps299 λ_ _ _ _=>?_
 rw[<-hi];clear hi j s t;exact Z1 O<|Z2 O<|Rs O (az aab 0 call330 hgo O O O O ⟨O,O,O,O,O,O,O,Zp⟩ Zk O)<|Y2 O<|Gt O<|⟨[(4,.pv (.bool (decide (i>=0))))],o7M J W σ now mk mv,[.pv (.bool (decide (i>=0)))],Vn (aS O) (aO Zj) O O,O,O,O,O,O⟩
theorem Fl(J:JD)(t:JOk J)(W:WD)(σ:vb)(now:hC)(I:ZR J.S.aj.length σ now)(mk mv:na)(r:Nat)(u:r<J.S.aU.length):
  ZS prog 271 6 0 [.ptr big 0,ZI r] (o6M J W σ now mk mv) (λv ob'=>v= .pv (.bool ((bW J r).any λx=>agr (o9 J r) σ x.v))/\ob'=au (o6M J W σ now mk mv)):=by
 refine ZE func271 O ntmps271 λ_ _ _ _=>?_
 have j:r<J.T.length:=by rw[t.n];exact u
 have z:=xF J t W σ now I mk mv r u J.T[r] (t.l _ (ak j)) (t.v r j u);rw[show bW J r=J.T[r] by simp[bW,List.getD,j],show o9 J r=J.S.aU[r].2 by simp[o9,List.getD,u]];have E:=kG j;have G:=nV j;have H:J.T.length<=1000:=by rw[t.n];exact t.s.r
 generalize J.S.aU[r].2=A at*;generalize J.T[r]=l at*;refine Z3 O<|Vm (St.gR 1 O O)<|VC 13 O<|Dr 8 O<|YM O (λτ h=>ai r underlying33 tu (Ee h 0 O) (Ee h 1 O) O j G)<|YM O (λτ h=>aC ⟨_,aas,O⟩ (Ee h 0 O) E)<|D1 O O<|YQ [0,big,9001,9002,9003,9004,9005] O (λτ h=>az [0,big,9001,9002,9003,9004,9005] 2 call299 z (h.args.trans O) O O O ⟨(Eo h 0 O),(Eo h 1 O),(Eo h 2 O),(Eo h 3 O),(Eo h 4 O),(Eo h 5 O),(Eo h 6 O),Zp⟩ Zk O)<|D1 O O ⟨Zj,Gt O<|⟨[(4,.pv (.bool (l.any λx=>agr A σ x.v)))],o6M J W σ now mk mv,[.pv (.bool (l.any λx=>agr A σ x.v))],Vn (aS O) (aO Zj) O O,O,O,O,O,O⟩⟩
theorem B2(J:JD)(s:JOk J)(W:WD)(σ:vb)(now:hC)(t:ZR J.S.aj.length σ now)(mk mv:na)(r:Nat)(u:r<J.S.aU.length):
  ZS prog 270 7 0 [ZI r,.ptr big 0] (o7M J W σ now mk mv) (λv ob'=>v= .pv (.bool !(dG (RJ J) r σ))/\ob'=au (o7M J W σ now mk mv)):=by
 refine ZE func270 O ntmps270 λ_ _ _ _=>?_
 have j:=Fl J s W σ now t mk mv r u;rw[<-R7]at j;generalize dG (RJ J) r σ=b at*;refine Z1 O<|Gr O ?_;first|refine A1 O ?_|refine A2 O Zl ?_
 exact A1 O<|Rs O (az [9001,9002,9003,9004,9005,9006] 0 call271 j O O O O ⟨O,O,O,O,O,O,Zp⟩ Zk O)<|Y2 O<|Gt O<|⟨[(3,.pv (.bool !b))],o7M J W σ now mk mv,[.pv (.bool !b)],Vn (aS O) (aO Zj) O O,O,O,O,O,O⟩
abbrev c11M:V:= .fn (.func 270) [] [.ptr big 0]
abbrev cJ(rs:ee):cP:=rs.map λr:Nat=>(r:Int)
theorem xW(J:JD)(L:JOk J)(W:WD)(σ:vb)(now:hC)(M:ZR J.S.aj.length σ now)(mk mv:na)(rs:ee)(hl:rs.length<=1000)(T:∀r∈rs,r<J.S.aU.length):
  ZS prog 269 7 0 [.pv (al (cJ rs)),c11M] (o7M J W σ now mk mv) (λv ob'=>v= .pv (.bool (rs.any λr=> !(dG (RJ J) r σ)))/\ob'=au (o7M J W σ now mk mv)):=by
 have t:∀k (h:k<rs.length),ZS prog 270 7 0 [.pv (.int .i64 rs[k]),.ptr big 0] (o7M J W σ now mk mv) (λv ob'=>v= .pv (.bool !(dG (RJ J) rs[k] σ))/\ob'=au (o7M J W σ now mk mv)):=λk h=>B2 J L W σ now M mk mv rs[k] (T _ (ak h))
 obtain⟨i,hi,hi1,hi2⟩:=HQ rs λr=> !(dG (RJ J) r σ)
 clear L M T;have u:ZS prog 258 7 0 [.pv (al (cJ rs)),c11M] (o7M J W σ now mk mv) (λv ob'=>v= ZI i/\ob'=au (o7M J W σ now mk mv)):=by
  refine ZE func258 O ntmps258 λm0 w0 F R0=>?_
  clear hi;have U:(cJ rs).length=rs.length:=by simp[cJ]
  refine Z1 O<|Z3 O<|Gz O (st:=λZq:Nat=>((ZZ Zq),aae)) 0
   (I:=λZq=>Zq<=rs.length/\∀j (h:j<rs.length),j<Zq->(!(dG (RJ J) rs[j] σ))=YL) (μ:=λZq=>rs.length-Zq) (x0:=0) (Vn (aS O) (aO Zj) O O) (⟨sh _,λ_ _ h=>absurd h Zi⟩) ?_
  rintro k ⟨hk,hno⟩;refine Z1 O<|Gp O (λH=>?_) (λH=>?_)
  .have hlt:k<rs.length:=Zi;have z:(aI (cJ rs))[k*1]? =WB (.int .i64 ((rs[k]:Nat):Int)):=by simp[hlt]
   have V:=aU (l:=cJ rs) (k:=k) Zi;have E:=t k hlt;have G:=hi1 k hlt;generalize hbk:dG (RJ J) rs[k] σ=b at*;refine Vl<|Z2 O<|Z4 O<|Rs O (aC ⟨_,aan,O⟩ O z)<|Rs O (fi aab 0 call270 E O O O O O O ⟨O,O,O,O,O,O,O,Zp⟩ Zk O)<|Gc O (λs=>?_) (λs=>?_)
   .exact Z2 O<|Gt O<|⟨[(4,ZI k)],o7M J W σ now mk mv,[ZI k],Vn (aS O) (aO Zj) O O,O,O,O,by rw[G s hno];rfl,O⟩
   exact Vl<|Z2 O<|⟨(k+1),Vn (aS O) (aO Zj) O O,⟨Zi,λj h hj=>by rcases V3.1 hj with h1|h1;exact hno j h h1;subst h1;rw[hbk];exact s⟩,Zi⟩
  have hm:=hi2 λj h=>hno j h Zi
  exact Gx O<|Z1 O<|Gt O<|⟨[(4,ZI (-1))],o7M J W σ now mk mv,[ZI (-1)],Vn (aS O) (aO Zj) O O,O,O,O,by rw[hm];rfl,O⟩
 refine ZE func269 O ntmps269 λm0 w0 F R0=>?_
 rw[<-hi];clear hi t hi1 hi2;exact Z1 O<|Z2 O<|Rs O (az aab 0 call258 u O O O O ⟨O,O,O,O,O,O,O,Zp⟩ Zk O)<|Y2 O<|Gt O<|⟨[(4,.pv (.bool (decide (i>=0))))],o7M J W σ now mk mv,[.pv (.bool (decide (i>=0)))],Vn (aS O) (aO Zj) O O,O,O,O,O,O⟩
theorem tG(J:JD)(z:JOk J)(W:WD)(σ:vb)(now:hC)(s:ZR J.S.aj.length σ now)(mk mv:na)(a:Nat)(t:a<J.S.aj.length)(T:σ (a:Int)=WC)(rs:ee)(hl:rs.length<=1000)(E:∀r∈rs,r<J.S.aU.length)(x:er):
  ZS prog 268 7 0 [.pv (.str x),.ptr big 0,.pv (.rp [.int .i64 a] 0),.pv (.rp [al (cJ rs)] 0)] (o7M J W σ now mk mv) (λv ob'=>v= .pv (.bool (rs.any λr=> !(dG (RJ J) r (put σ a x))))/\ob'=au (o7M J W σ (now.set a x) mk mv)):=by
 refine ZE func268 O ntmps268 λ_ _ _ _=>?_
 have j:=xW J z W (put σ a x) (now.set a x) (s.put t x) mk mv rs hl E;generalize (rs.any λr=> !(dG (RJ J) r (put σ a x)))=b at*;have G:(bj now).length=J.S.aj.length:=by rw[IS,s.l]
 have H:(a8 (stL σ J.S.aj.length)).length=J.S.aj.length:=by rw[IS,n4]
 have u:(a8 (stL (put σ a x) J.S.aj.length)).length=J.S.aj.length:=by rw[IS,n4]
 have I:=De (l:=now) (a:=a) x;have L:=Lz (σ:=σ) t x;have M:(a8 (stL (put σ a x) J.S.aj.length)).set (a*1) (.bool YL)=a8 (stL σ J.S.aj.length):=by rw[Pn t,nc T]
 clear z s E;refine Z1 O<|VC 15 O ?_;first|refine D1 O O ?_|refine D2 O O Zl ?_
 refine Dr 3 O ?_;first|refine D1 O O ?_|refine D2 O O Zl ?_
 first|refine D1 O O ?_|refine D2 O O Zl ?_
 refine Dr 3 O ?_;first|refine D1 O O ?_|refine D2 O O Zl ?_
 refine D1 O O<|YQ [_] O (λτ h=>ag a aao sz9 (Ee h 0 O) (Eo h 0 O) (Ee h 1 O) O Zi)<|DL.step (d:=WC) [_] O O O (λτ h=>ba sz9 (Ee h 0 O) (Eo h 0 O) (Ee h 1 O) O Zi) O Zj<|YQ [_] O (λτ h=>ag a aaw sz4 (Ee h 0 O) (Eo h 0 O) (Ee h 1 O) O Zi)<|DL.step (d:=WC) [_] O O O (λτ h=>ba sz4 (Ee h 0 O) (Eo h 0 O) (Ee h 1 O) O Zi) O Zj ⟨Zj,Vm (Vn (l:=[(1,.ptr big 0),(2,.pv (.rp [.int .i64 a] 0)),(3,.pv (.rp [al (cJ rs)] 0))]) (os:=o7M J W (put σ a x) (now.set a x) mk mv) (k:=0) (aS O) ⟨O,O,ah (λc=>WB (Ob.cells 9 c)) I,ah (λc=>WB (Ob.cells 4 c)) L,O,O,O,Zp⟩ O O)<|Gr O ?_⟩;first|refine A1 O ?_|refine A2 O Zl ?_
 refine A1 O<|Rs O (az aab 0 call269 j O O O O ⟨O,O,O,O,O,O,O,Zp⟩ Zk O)<|A1 O<|Vm (Vn (l:=[(1,.ptr big 0),(2,.pv (.rp [.int .i64 a] 0)),(6,.pv (.bool b))]) (os:=o7M J W (put σ a x) (now.set a x) mk mv) (k:=0) (aS O) (aO Zj) O O)<|VC 7 O ?_;first|refine D1 O O ?_|refine D2 O O Zl ?_
 refine Dr 3 O ?_;first|refine D1 O O ?_|refine D2 O O Zl ?_
 refine YQ [_] O (λτ h=>ag a aaw sz4 (Ee h 0 O) (Eo h 0 O) (Ee h 1 O) O Zi)<|DL.step (d:=WC) [_] O O O (λτ h=>ba sz4 (Ee h 0 O) (Eo h 0 O) (Ee h 1 O) O Zi) O Zj ⟨Zj,Z2 O<|Gt O<|⟨[(5,.pv (.bool b))],o7M J W σ (now.set a x) mk mv,[.pv (.bool b)],Vn (aS O) ⟨Zj,Zj,Zj,ah (λc=>WB (Ob.cells 4 c)) M,Zj,Zj,Zj,Zp⟩ O O,O,O,O,O,O⟩⟩
abbrev o8M(J:JD)(W:WD)(q:hC)(σ:vb)(now:hC)(mk mv:na):Zy:=[(big,fS q),(9001,.mix 197 [.ptr 9002 0]),(9002,oM W 9006 9003 J.S.aj.length 9004 9005),(9003,.cells 9 (bj now)),(9004,.cells 4 (a8 (stL σ J.S.aj.length))),(9005,.mp mk mv),(9006,oX2 J 9007),(9007,.mp J.pk J.pv)]
abbrev c1M(a:Nat)(rs:ee):V:= .fn (.func 268) [] [.ptr 9001 0,.pv (.rp [.int .i64 a] 0),.pv (.rp [al (cJ rs)] 0)]
theorem zk(J:JD)(T:JOk J)(W:WD)(σ:vb)(now:hC)(U:ZR J.S.aj.length σ now)(mk mv:na)(a:Nat)(H:a<J.S.aj.length)(L:σ (a:Int)=WC)(rs:ee)(hl:rs.length<=1000)(V:∀r∈rs,r<J.S.aU.length)(l:hC)(n:Nat)(X:l.length=n)(Y:n<=1000)(i:Int)
  (E:∀k (h:k<l.length),sT J rs σ a l[k]=YK->(∀j (h:j<l.length),j<k->sT J rs σ a l[j]=YL)->i=k) (G:(∀j (h:j<l.length),sT J rs σ a l[j]=YL)->i= -1):
  ZS prog 298 8 0 [.bJ big 1 n,c1M a rs] (o8M J W l σ now mk mv) (λv ob'=>v= ZI i/\ob'=au (o8M J W l σ (tst now a (l.take (if i<0 then n else i.toNat+1))) mk mv)):=by
 refine ZE func298 O ntmps298 λ_ _ _ _=>?_
 refine Z1 O<|Z3 O<|Gz O (st:=λZq:Nat=>((ZZ Zq),[(big,WC),(9001,WC),(9002,WC),(9003,WB (.cells 9 (bj (tst now a (l.take Zq))))),(9004,WC),(9005,WC),(9006,WC),(9007,WC)])) 0
  (I:=λZq=>Zq<=n/\∀j (h:j<l.length),j<Zq->sT J rs σ a l[j]=YL) (μ:=λZq=>n-Zq) (x0:=0) (Vn (aS O) (aO Zj) O O) (⟨sh _,λ_ _ h=>absurd h Zi⟩) ?_
 rintro k ⟨hk,hno⟩;refine Z1 O<|Gp O (λz=>?_) (λz=>?_)
 .have hlt:k<l.length:=Zi;have M:=bD hlt;have t:=tG J T W σ (tst now a (l.take k)) (K3 U H L _) mk mv a H L rs hl V l[k];rw[Cn hlt]at t;have u:=E k hlt;rw[show(rs.any λr=> !(dG (RJ J) r (put σ a l[k])))=sT J rs σ a l[k]from O]at t;generalize hbk:sT J rs σ a l[k]=b at*;refine Vl<|Z2 O<|Z3 O<|Rs O (ag k aao sz9 O O O O Zi)<|Rs O (aX ⟨_,aam,O⟩ O O M)<|Rs O (fi [9001,9002,9003,9004,9005,9006,9007] 0 call268 t O O O O O O ⟨O,O,O,O,O,O,O,Zp⟩ Zk O)<|Gc O (λs=>?_) (λs=>?_)
  .exact Z2 O<|Gt O<|⟨[(4,ZI k)],o8M J W l σ (tst now a (l.take (k+1))) mk mv,[ZI k],Vn (aS O) (aO Zj) O O,O,O,O,by rw[u s hno];rfl,by rw[u s hno,AS Zi];rfl⟩
  exact Vl<|Z2 O<|⟨(k+1),Vn (aS O) (aO Zj) O O,⟨Zi,λj h hj=>by rcases V3.1 hj with h1|h1;exact hno j h h1;subst h1;rw[hbk];exact s⟩,Zi⟩
 have hm:=G λj h=>hno j h Zi
 obtain rfl:n=k:=Zi;exact Gx O<|Z1 O<|Gt O<|⟨[(4,ZI (-1))],o8M J W l σ (tst now a (l.take n)) mk mv,[ZI (-1)],Vn (aS O) (aO Zj) O O,O,O,O,by rw[hm];rfl,by rw[hm];rfl⟩
theorem xz(J:JD)(hJ:JOk J)(W:WD)(σ:vb)(now:hC)(hn:ZR J.S.aj.length σ now)(mk mv:na)(a:Nat)(U:a<J.S.aj.length)(V:σ (a:Int)=WC)(rs:ee)(hl:rs.length<=1000)(hr:∀r∈rs,r<J.S.aU.length)(l:hC)(n:Nat)(G:l.length=n)(X:n<=1000):
  ZS prog 267 8 0 [.bJ big 1 n,c1M a rs] (o8M J W l σ now mk mv) (λv ob'=>v= .bJ big 1 (l.filter λx=> !sT J rs σ a x).length/\ob'=au (o8M J W (l.filter λx=> !sT J rs σ a x) σ (tst now a l) mk mv)):=by
 obtain⟨i,hi,hi1,hi2⟩:=HQ l (sT J rs σ a);obtain⟨hia,hib⟩:=Qz hi hi1 hi2;have H:=zk J hJ W σ now hn mk mv a U V rs hl hr l n G X i hi1 hi2;refine ZE func267 O ntmps267 λ_ _ _ _=>?_
 clear hi hi1 hi2;refine Z1 O<|Z2 O<|Rs O (az [big,9001,9002,9003,9004,9005,9006,9007] 0 call298 H O O O O ⟨O,O,O,O,O,O,O,O,Zp⟩ Zk O)<|A1 O<|Z2 O<|Gc O (λs=>?_) (λs=>?_)
 .have hie:i= -1:=by simpa using s
  have Y:(l.filter λx=> !sT J rs σ a x)=l:=Yw.2 λx hx=>by rw[hia hie x hx];rfl
  exact Z2 O<|Gt O<|⟨[(4,.bJ big 1 n)],o8M J W l σ (tst now a l) mk mv,[.bJ big 1 n],Vn (aS O) ⟨Zj,Zj,Zj,VT (b:=WB (Ob.cells 9 (bj (tst now a (l.take (if i<0 then n else i.toNat+1)))))) Zj (by rw[hie,IT Zk,aG Zi]),Zj,Zj,Zj,Zj,Zp⟩ O O,O,O,O,by rw[Y,G];rfl,by rw[Y]⟩
 have hne:¬i= -1:=by intro e;rw[e]at s;simp at s
 obtain⟨i0,rfl,hi0,hft⟩:=hib hne;refine Vl<|Z3 O<|Gz O (st:=λZq:Nat×Nat×hC=>([(0,WC),(1,WC),(5,WB (ZI Zq.2.1)),(6,WB (ZI Zq.1))],[(big,WB (fS Zq.2.2)),(9001,WC),(9002,WC),(9003,WB (.cells 9 (bj (tst now a (l.take Zq.1))))),(9004,WC),(9005,WC),(9006,WC),(9007,WC)])) 0
  (I:=λZq=>((Zq.1<=n/\Zq.2.1<Zq.1)/\Zq.2.2.length=n)/\(Zq.2.2.drop Zq.1=l.drop Zq.1/\Zq.2.2.take Zq.2.1=(l.take Zq.1).filter λx=> !sT J rs σ a x)/\Zq.2.1=((l.take Zq.1).filter λx=> !sT J rs σ a x).length) (μ:=λZq=>n-Zq.1) (x0:=(i0+1,i0,l)) (Vn (aS O) ⟨Zj,Zj,Zj,VT (b:=WB (Ob.cells 9 (bj (tst now a (l.take (if(i0:Int)<0 then n else(i0:Int).toNat+1)))))) Zj (by rw[AS Zi];rfl),Zj,Zj,Zj,Zj,Zp⟩ O O) (⟨⟨⟨Zo,Zo⟩,G⟩,⟨O,by simp only;rw[hft]⟩,by simp only;rw[hft,Vz];omega⟩) ?_
 rintro⟨k,m,q⟩ ⟨⟨⟨hk,hmk⟩,hql⟩,⟨hqd,hqt⟩,hme⟩;try simp only at hk hmk hql hqd hqt hme ⊢
 have aa:(bj q).length=n:=by rw[IS,hql]
 refine Z4 O<|Gp O (λM=>?_) (λM=>?_)
 .have hlt:k<l.length:=Zi;have T:q[k]'Zi=l[k]:=by have:=ah (λz=>z[0]?) hqd;simp only[WM,XG]at this;rw[AT Zi,AT hlt]at this;exact Xl this
  have hv:(bj q)[k*1]? =WB (.str l[k]):=by rw[VY,Xw,AT Zi,T];rfl
  have E:=tG J hJ W σ (tst now a (l.take k)) (K3 hn U V _) mk mv a U V rs hl hr l[k];rw[Cn hlt]at E;rw[show(rs.any λr=> !(dG (RJ J) r (put σ a l[k])))=sT J rs σ a l[k]from O]at E;have t:q.drop (k+1)=l.drop (k+1):=by have:=ah (λz=>z.drop 1) hqd;simpa only[List.drop_drop]using this
  have u:(l.take (k+1)).filter (λx=> !sT J rs σ a x)=(l.take k).filter (λx=> !sT J rs σ a x)++if sT J rs σ a l[k]=YK then []else [l[k]]:=by rw[AI hlt];exact H7 _ _ _
  generalize hbk:sT J rs σ a l[k]=b at*;refine Vl<|Z2 O<|Rs O (ag k aao sz9 O O O O Zi)<|Rs O (aX ⟨_,aam,O⟩ O O hv)<|A1 O<|Z2 O<|Rs O (fi [9001,9002,9003,9004,9005,9006,9007] 0 call268 E O O O O O O ⟨O,O,O,O,O,O,O,Zp⟩ Zk O)<|A1 O<|Gc O (λj=>?_) (λj=>?_)
  .exact Z3 O<|Rs O (ag m aao sz9 O O O O Zi)<|RL.step (d:=WC) O O (ba sz9 O O O O Zi)<|Z3 O<|Z3 O<|⟨(k+1,m+1,q.set m l[k]),Vn (aS O) ⟨VT (b:=WB (Ob.cells 9 ((bj q).set (m*1) (.str l[k])))) Zj (ah (λc=>WB (Ob.cells 9 c)) (vT l[k])),Zj,Zj,Zj,Zj,Zj,Zj,Zj,Zp⟩ O O,⟨⟨⟨Zo,Zo⟩,by simp only[VN];exact hql⟩,⟨by simp only;rw[List.drop_set_of_lt Zi];exact t,by simp only;rw[u,AS (by intro e;rw[e]at j;simp at j),<-hqt];exact mg Zi⟩,by simp only;rw[u,AS (by intro e;rw[e]at j;simp at j),Hb,<-hme];rfl⟩,Zo⟩
  exact Vl<|Z3 O<|⟨(k+1,m,q),Vn (aS O) (aO Zj) O O,⟨⟨⟨Zo,Zo⟩,hql⟩,⟨t,by simp only;rw[u,IT (by simpa using j),W7];exact hqt⟩,by simp only;rw[u,IT (by simpa using j),W7];exact hme⟩,Zo⟩
 have hkn:l.take k=l:=aG Zi;rw[hkn]at hqt hme;have L:(bj q).take (m*1)=bj (l.filter λx=> !sT J rs σ a x):=by rw[VY,<-Zd,hqt]
 exact Gx O<|Z2 O<|Rs O (gw m aao sz9 O O O O Zi)<|RL.step (d:=WC) O O (zD Qu O O O Zi)<|Z2 O<|Rs O (gj m aao sz9 O O O O Zi)<|A1 O<|Gt O<|⟨[(4,.bJ big 1 m)],o8M J W (l.filter λx=> !sT J rs σ a x) σ (tst now a l) mk mv,[.bJ big 1 m],Vn (aS O) ⟨VT (b:=WB (Ob.cells 9 ((bj q).take (m*1)))) Zj (ah (λc=>WB (Ob.cells 9 c)) L),Zj,Zj,VT (b:=WB (Ob.cells 9 (bj (tst now a (l.take k))))) Zj (by rw[hkn]),Zj,Zj,Zj,Zj,Zp⟩ O O,O,O,O,by rw[hme];rfl,O⟩
theorem FL(J:JD)(W:WD)(σ:vb)(now:hC)(mk mv:na)(a:Nat)(rs:ee):
  ZS prog 298 7 0 [.pv (bh []),.fn (.func 268) [] [.ptr big 0,.pv (.rp [.int .i64 a] 0),.pv (.rp [al (cJ rs)] 0)]] (o7M J W σ now mk mv) (λv ob'=>v= ZI (-1)/\ob'=au (o7M J W σ now mk mv)):=by
 refine ZE func298 O ntmps298 λ_ _ _ _=>?_
 refine Z1 O<|Z3 O<|Gz O (st:=λZq:Unit=>([(0,WC),(1,WC),(7,WC),(8,WC)],aae)) 0
  (I:=λZq=>True) (μ:=λZq=>0) (x0:=(())) (YS O) (trivial) ?_
 rintro u hI;refine Z1 O<|Gp O (λj=>absurd j (by simp)) (λj=>?_);exact Gx O<|Z1 O<|Gt O<|⟨[(4,ZI (-1))],o7M J W σ now mk mv,[ZI (-1)],Vn (aS O) (aO Zj) O O,O,O,O,O,O⟩
theorem ET(J:JD)(W:WD)(σ:vb)(now:hC)(mk mv:na)(a:Nat)(rs:ee):
  ZS prog 267 7 0 [.pv (bh []),.fn (.func 268) [] [.ptr big 0,.pv (.rp [.int .i64 a] 0),.pv (.rp [al (cJ rs)] 0)]] (o7M J W σ now mk mv) (λv ob'=>v= .pv (bh [])/\ob'=au (o7M J W σ now mk mv)):=by
 refine ZE func267 O ntmps267 λ_ _ _ _=>?_
 have r:=FL J W σ now mk mv a rs;refine Z1 O<|Z2 O<|Rs O (az aab 0 call298 r O O O O ⟨O,O,O,O,O,O,O,Zp⟩ Zk O)<|A1 O<|Z2 O<|Gc O (λj=>?_) (λj=>absurd j (by simp at j));exact Z2 O<|Gt O<|⟨[(4,.pv (bh []))],o7M J W σ now mk mv,[.pv (bh [])],Vn (aS O) (aO Zj) O O,O,O,O,O,O⟩
theorem Fe(J:JD)(hJ:JOk J)(hJ12:∀l∈J.T,l.length<=12)(W:WD)(σ:vb)(now:hC)(hn:ZR J.S.aj.length σ now)(mk mv:na)(a:Nat)(ha:a<J.S.aj.length)(hσ:σ (a:Int)=WC)(hw:cw (RJ J) a≠[]):
  ZS prog 224 6 0 [.ptr big 0,ZI a] (o6M J W σ now mk mv) (λv ob'=>v= .pv (bh (cA (RJ J) sdS a σ))/\ob'=au (o6M J W σ (tst now a (KZ J a σ)) mk mv)):=by
 refine ZE func224 O ntmps224 λ_ _ _ _=>?_
 have hS:=hJ.s;have hSr:=hS.r;obtain⟨f,rest,hwf⟩:∃f rest,cw (RJ J) a=f::rest:=by cases h:cw (RJ J) a with|nil=>exact absurd h hw|cons f rest=>exact⟨f,rest,rfl⟩
 have hcv:=KV J a σ hσ hwf (L5 hJ f);have hcl:KZ J a σ=sdS (PD J f a σ):=by unfold KZ;rw[hwf]
 have X:=zh J a;have G:=X f (by rw[hwf];simp);have t:=G.1;have M:(cw (RJ J) a).length<=1000:=OF (Wx ..) (by simp[RJ];omega);have hrs:∀r∈cw (RJ J) a,r<J.S.aU.length:=λr hr=>(X r hr).1
 have hq0:(aI (cJ (cw (RJ J) a)))[0]? =WB (.int .i64 (f:Int)):=by rw[hwf];rfl
 have hqn:aI (cJ (cw (RJ J) a))≠[]:=by rw[hwf];simp
 have hql:0<(cJ (cw (RJ J) a)).length:=by rw[hwf];simp
 have hrne:=iq t;have hra:(aZ J.S.aU)[f*2+1]? =WB (al J.S.aU[f].2):=by
  have h2:(((aZ J.S.aU).drop (f*2)).take 2)[1]? =[PV.str J.S.aU[f].1,al J.S.aU[f].2][1]? :=by rw[eT t]
  simpa[V2,WM]using h2
 have hrl:=hS.l _ (ak t);have z:f<J.T.length:=by rw[hJ.n];exact t
 have htr:=kG z;have htn:=nV z;have hTl:J.T[f].length<=12:=hJ12 _ (ak z);have hxv:=hJ.v f z t;have hidx:=Ip J.S.aU[f].2 a Zi (by rw[<-show o9 J f=J.S.aU[f].2 by simp[o9,List.getD,t]];exact G.2);have hat:(J.S.aU[f].2).idxOf (a:Int)<J.S.aU[f].2.length:=XH (by rw[<-show o9 J f=J.S.aU[f].2 by simp[o9,List.getD,t]];exact G.2);have hraw:PD J f a σ=(J.T[f].filter λx=>agr J.S.aU[f].2 σ x.v).map λx=>x.v.getD ((J.S.aU[f].2).idxOf (a:Int)) eb:=by unfold PD;rw[show o9 J f=J.S.aU[f].2 by simp[o9,List.getD,t],show bW J f=J.T[f] by simp[bW,List.getD,z]]
 have hagr:∀k (h:k<J.T[f].length),ZS prog 264 6 0 [.ptr big 0,ZI f,.pv (UI J.T[f][k])] (o6M J W σ now mk mv) (λv ob'=>v= .pv (.bool (agr J.S.aU[f].2 σ J.T[f][k].v))/\ob'=au (o6M J W σ now mk mv)):=λk h=>jP J hJ W σ now hn mk mv f t J.T[f][k] (hxv _ (ak h))
 have hdel:=fun(l:hC)(n:Nat)(h1:l.length=n)(h2:n<=1000)=>xz J hJ W σ now hn mk mv a ha hσ (cw (RJ J) a) M hrs l n h1 h2
 have Y:=ET J W σ now mk mv a (cw (RJ J) a);have hwt:=E2 J a;rw[hcl,hcv];clear hcl hcv X G hrs M hw hn;generalize J.T[f]=tf at*;generalize J.S.aU[f].2=A at*;generalize hrsg:cw (RJ J) (a:Int)=rs at*;refine Z3 O<|Z1 O<|Vm (St.cD 2 0 3 1 3 O O O)<|Gr O<|Ar 10 O<|Gz O (st:=λZq:Nat×ee=>([(2,WC),(3,WC),(5,WC),(22,WC),(23,WC),(24,WB (ZI Zq.1))],[(big,WC),(0,WC),(1,WC),(2,WB (.mix 22 [.bz 3 1 Zq.2.length])),(3,WB (.bD 3 (aI (cJ Zq.2)))),(9001,WC),(9002,WC),(9003,WC),(9004,WC),(9005,WC)])) 4
  (I:=λZq=>(Zq.1<=J.S.aU.length/\Zq.2.length<=Zq.1)/\Zq.2=F6 J a Zq.1) (μ:=λZq=>J.S.aU.length-Zq.1) (x0:=(0,[])) (Vn (aS O) (aO Zj) O O) (⟨⟨sh _,BY _⟩,O⟩) ?_
 rintro⟨k,q⟩ ⟨⟨hk,hqk⟩,hqe⟩;try simp only at hk hqk hqe ⊢
 refine Z1 O<|Gp O (λhc25=>?_) (λhc25=>?_)
 .have hlt:k<J.S.aU.length:=Zi;have hrow:=eT hlt;have hne:=iq hlt;have hkl:=hS.l _ (ak hlt);have hws:=EN J a hlt;generalize J.S.aU[k]=rk at*;refine Vl<|Z2 O ?_;first|refine A3 O Zl ?_|refine A1 O ?_
  refine Y3 O<|Z3 O<|Rs O (aa call205 (mN rk.2 a Zi) O)<|Gc O (λE=>?_) (λE=>?_)
  .exact Gr O<|Ar 5 O<|Z2 O<|⟨(k+1,q++[k]),Vo [0,1,2,6] (aT O) ⟨Zj,Zj,Zj,VT (b:=WB (.mix 22 [.bz 6 1 (q.length+1)])) Zj (ah (λn=>WB (Ob.mix 22 [.bz 6 1 n])) (fv q k)),VT (b:=WB (.bD 3 (aI (cJ q)++[.int .i64 k]))) Zj (ah (λc=>WB (Ob.bD 3 c)) Zm),Zj,Zj,Zj,Zj,Zj,Zp⟩ O O Zk O,⟨⟨Zo,by simp only[Hb,VV];omega⟩,by simp only;rw[hws,IT (Xh E),hqe]⟩,Zo⟩
  exact Vl<|Z2 O<|⟨(k+1,q),Vn (aS O) (aO Zj) O O,⟨⟨Zo,Zo⟩,by simp only;rw[hws,AS (Xx E),W7,hqe]⟩,Zo⟩
 have hqrs:q=rs:=by rw[hqe,show k=J.S.aU.length by omega,hwt]
 subst hqrs;refine Vm (Vq 3 O O)<|Vm (St.gR 2 O O)<|Vm (St.gR 1 O O)<|Vm (Vn (l:=[(2,.ptr 0 0),(3,.pv (.rp [.int .i64 a] 0)),(5,.pv (.rp [al (cJ q)] 0))]) (os:=(0,.mix 197 [.ptr big 0])::o6M J W σ now mk mv) (k:=1) ⟨Zj,Zj,VT (b:= .pv (.rp [.sl WC q.length (aI (cJ q))] 0)) Zj (ah (λn=>V.pv (.rp [.sl WC n (aI (cJ q))] 0)) (show q.length=(cJ q).length by simp)),Zp⟩ (aO Zj) O O) ?_;refine Gx O<|Z1 O<|Rs O (ai 0 aal sz3 O O O hql hqn)<|Rs O (aC ⟨_,aan,O⟩ O hq0)<|A1 O<|VC 15 O<|Dr 9 O<|YM O (λτ h=>ai f underlying27 O1 (Ee h 0 O) (Ee h 1 O) O t hrne)<|D1 O O<|YM O (λτ h=>aC ⟨_,aal,O⟩ (Ee h 0 O) hra)<|D1 O O<|YM O (λτ h=>aa call252 hidx (h.aE O))<|D1 O O ?_;refine⟨Zj,?_⟩;refine Z1 O<|Vm (Vs 10 1 1 9 O O)<|Gr O<|Ar 8 O<|Rs O (ai f underlying33 tu O O O z htn)<|Rs O (aC ⟨_,aas,O⟩ O htr)<|Y2 O<|Gz O (st:=λj:Nat×hC=>([(2,WC),(3,WC),(5,WC),(8,WC),(9,WC),(10,WB (.bz 1 1 j.2.length)),(64,WC),(65,WC),(66,WB (ZI j.1))],[(big,WC),(0,WC),(1,WB (.bD 9 (bj j.2))),(9001,WC),(9002,WC),(9003,WC),(9004,WC),(9005,WC)])) 2
  (I:=λj=>(j.1<=tf.length/\j.2.length<=j.1)/\j.2=((tf.take j.1).filter λx=>agr A σ x.v).map λx=>x.v.getD (A.idxOf (a:Int)) eb) (μ:=λj=>tf.length-j.1) (x0:=(0,[])) (Vn (aS O) (aO Zj) O O) (⟨⟨sh _,BY _⟩,O⟩) ?_
 rintro⟨k2,q2⟩ ⟨⟨hk2,hqk2⟩,hqe2⟩;try simp only at hk2 hqk2 hqe2 ⊢
 refine Z1 O<|Gp O (λhc67=>?_) (λhc67=>?_)
 .have hlt2:k2<tf.length:=Zi;have hrw:=dy hlt2;have hrn:=dW hlt2;have H:=hagr k2 hlt2;have hxl:=hxv _ (ak hlt2);have U:=AI hlt2;generalize tf[k2]=x at*;have ab:A.idxOf (a:Int)<x.v.length:=Zi;have hvx:(bj x.v)[A.idxOf (a:Int)*1]? =WB (.str (x.v.getD (A.idxOf (a:Int)) eb)):=by simp[List.getD,ab]
  have hxn:=cz ab;refine Vl<|Z1 O ?_;first|refine A3 O Zl ?_|refine A1 O ?_
  refine Y2 O<|VC 11 O<|Dr 5 O<|YM O (λτ h=>iy (zp:= .str ByteArray.empty) underlying130 aan (.inr (.inr ⟨(Ee h 0 O),O,O⟩)) (Ee h 1 O) O zero9 O (r:=WC) O O O)<|Dr 5 O ?_;refine⟨Zj,?_⟩;by_cases hag:agr A σ x.v=YK
  .rw[hag]at H;refine Z3 O<|Rs O (az Z7 0 call264 H O O O O ⟨O,O,O,O,O,O,Zp⟩ Zk O)<|Ar 13 O<|Gc O (λu=>?_) (λu=>absurd u Zm);exact Z4 O<|Rs O (ai (A.idxOf (a:Int)) aao sz9 O O O ab hxn)<|Rs O (aC ⟨_,aam,O⟩ O hvx)<|Y3 O<|Z2 O<|⟨(k2+1,q2++[x.v.getD (A.idxOf (a:Int)) eb]),Vo [0,4] ⟨O,O,O,O,O,ah (λn=>V.bz 4 1 n) (fv q2 _),O,O,O,Zp⟩ ⟨Zj,Zj,VT (b:=WB (.bD 9 (bj q2++[.str (x.v.getD (A.idxOf (a:Int)) eb)]))) Zj (ah (λc=>WB (Ob.bD 9 c)) Zm),Zj,Zj,Zj,Zj,Zj,Zp⟩ O O Zk O,⟨⟨Zo,by simp only[Hb,VV];omega⟩,by simp only;rw[U,Xc,Wf,hqe2];simp[WL,hag]⟩,Zo⟩
  rw[XB hag]at H;refine Z3 O<|Rs O (az Z7 0 call264 H O O O O ⟨O,O,O,O,O,O,Zp⟩ Zk O)<|Ar 13 O<|Gc O (λu=>absurd u Zm) (λu=>?_);exact Vl<|Z2 O<|⟨(k2+1,q2),Vn (aS O) (aO Zj) O O,⟨⟨Zo,Zo⟩,by simp only;rw[U,Xc,Wf,hqe2];simp[WL,hag]⟩,Zo⟩
 have hq12:q2.length<=12:=Zi;rw[show tf.take k2=tf from aG Zi]at hqe2;have L:q2=PD J f a σ:=hqe2.trans hraw.symm;refine Gx O ?_;by_cases hq2:q2=[]
 .subst hq2;exact Vm (St.LQ 10 O)<|Z1 O<|Rs O (aa call265 F4 O)<|Z1 O<|Rs O (aa call266 wx O)<|A1 O<|Z2 O<|Rs O (az [0,big,9001,9002,9003,9004,9005] 0 call267 Y O O O O ⟨Zj,Zj,Zj,Zj,Zj,Zj,Zj,Zp⟩ Zk O)<|A1 O<|Gt O<|⟨[(4,.pv (bh []))],o6M J W σ now mk mv,[.pv (bh [])],Vn (aS O) (aO Zj) O O,O,O,O,by rw[<-L,GX];rfl,by rw[<-L,GX];rfl⟩
 refine Vm (St.JT 10 O O (Ww.2 hq2) (by simpa using hq2)) ?_;have ac:=Fj q2 q2.length O hq12;have hcmp:=x9 (jc q2) q2.length (iJ q2).length_eq Zi;have hcl2:=xa (jc q2);have hsl2:=(iJ q2).length_eq;have hdl:=hdel (dB (jc q2)) (dB (jc q2)).length O Zi;exact Z1 O<|Rs O (az [1] 0 call265 ac O O O O ⟨O,Zp⟩ Zk O)<|Z1 O<|Rs O (az [1] 0 call266 hcmp O O O O ⟨O,Zp⟩ Zk O)<|A1 O<|Vm (Vn (l:=[(2,.ptr 0 0),(3,.pv (.rp [.int .i64 a] 0)),(5,.pv (.rp [al (cJ q)] 0)),(10,.bJ 1 1 (dB (jc q2)).length)]) (os:=(1,fS (dB (jc q2)))::(0,.mix 197 [.ptr big 0])::o6M J W σ now mk mv) (k:=2) (aS Zj) (aO Zj) O O)<|Z2 O<|Rs O (az [1,0,big,9001,9002,9003,9004,9005] 0 call267 hdl O O O O ⟨Zj,Zj,Zj,Zj,Zj,Zj,Zj,Zj,Zp⟩ Zk O)<|A1 O<|Vm (Vq 1 O O)<|Vm (St.rE [4])<|Gt O<|⟨[(4,.pv (bh ((dB (jc q2)).filter λx=> !sT J q σ a x)))],o6M J W σ (tst now a (dB (jc q2))) mk mv,[.pv (bh ((dB (jc q2)).filter λx=> !sT J q σ a x))],Vn (aS Zj) (aO Zj) O O,O,O,O,by rw[<-L];rfl,by rw[<-L];rfl⟩
end
section
open Mk Jn
set_option autoImplicit false
section
variable {R:Type}(Z:SR R)
theorem GH{β:Type}{l:List β}(h:k<l.length)(f:β->R):du Z ((l.take (k+1)).map f)=Z.add (du Z ((l.take k).map f)) (f l[k]):=by
 rw[AI h,Wf,lX]
 congr 1
 show Z.add _ (du Z [])=_;rw[du,Z.add_zero]
theorem BV{cd:Int->vb->hC}{g:Int->vb->R}(l m:List Tr)(σ:vb):valL Z cd g (l++m) σ=Z.mul (valL Z cd g l σ) (valL Z cd g m σ):=by
 induction l with
 |nil=>rw[WZ,valL,Z.one_mul]
 |cons t l ih=>rw[Wu,valL,ih,valL,Z.mul_assoc]
structure At(P:cP)(v:Nat)(σ:vb):Prop where
 up:∀a∈bU P v,(σ a).isSome=YK
 no:∀a∈j0 P v,σ a=WC
theorem At.self{σ:vb}(h:At P v σ)(j:v<P.length):σ (v:Int)=WC:=h.no _ (fc.2 ⟨⟨v,j,O⟩,.inl O⟩)
theorem TR(j:UpOk P):∀w,w<P.length->∀v a:Int,v∈(w:Int)::bU P w->a∈(w:Int)::bU P w->a=v\/a∈bU P v\/v∈bU P a:=by
 refine xD j (λw hw h e v a hv ha=>?_) (λw hw p hp h e ih v a hv ha=>?_)
 .rw[e,VH]at hv ha;exact .inl (by rw[hv,ha])
 rcases By.1 hv with rfl|hv
 .rcases By.1 ha with rfl|ha
  .exact .inl O
  exact .inr (.inl ha)
 rcases By.1 ha with rfl|ha
 .exact .inr (.inr hv)
 rw[e]at hv ha;exact ih v a hv ha
theorem At.child(r:UpOk P){c:Nat}{σ:vb}(h:At P v σ)(s:v<P.length)(hc:c<P.length)(t:P.getD c 0=(v:Int))(x:er):At P c (put σ v x):=by
 have e:=dE r hc s t;refine⟨λa ha=>?_,λa ha=>?_⟩
 .rw[e]at ha;rcases By.1 ha with rfl|ha
  .rw[fI];rfl
  have:a≠(v:Int):=λe=>ns r s (e▸ha)
  rw[jZ _ _ this];exact h.up a ha
 obtain⟨⟨b,hb,rfl⟩,h2⟩:=fc.1 ha;have j:(v:Int)∈bU P b:=by
  rcases h2 with h2|h2
  .have:b=c:=Zi;subst this;rw[e];simp
  exact fL r hb (by rw[e];simp) h2
 have:(b:Int)≠(v:Int):=λe=>by
  have:b=v:=Zi;subst this;exact ns r hb j
 rw[jZ _ _ this];exact h.no _ (fc.2 ⟨⟨b,hb,O⟩,.inr j⟩)
theorem Cc{w:Int}(s:a∈dom (RJ J) w):∃r∈J.S.aU,w∈r.2/\a∈r.2:=by
 unfold dom at s;obtain⟨r,hr,s⟩:=V6.1 s;obtain⟨h1,h2⟩:=VU.1 hr;have j:r<J.S.aU.length:=by have:=Wi.1 h1;simpa[RJ]using this
 have e:(RJ J).at r=J.S.aU[r].2:=by rw[tc];simp[o9,List.getD,j]
 rw[e]at s h2;exact⟨_,ak j,by simpa using h2,s⟩
end
def Zf(x:er):Prop:=(0:UInt8)∉x.data.toList
def zR(now:Int->er)(l:cP):List UInt8:=l.flatMap λa=>(now a).data.toList++[0]
def L0(v:Nat)(l:cP)(σ:vb):List UInt8:=UInt8.ofNat v::zR (λa=>(σ a).getD eb) l
theorem tA:∀{a b c d:List UInt8},(0:UInt8)∉a->(0:UInt8)∉b->a++0::c=b++0::d->a=b/\c=d
 |[],[],c,d,_,_,h=>⟨O,by simpa using h⟩
 | [],y::b,c,d,_,hb,h=>by
   simp only[WZ,Wu,Xd]at h;exact absurd (by rw[<-h.1];simp) hb
 | x::a,[],c,d,ha,_,h=>by
   simp only[WZ,Wu,Xd]at h;exact absurd (by rw[h.1];simp) ha
 | x::a,y::b,c,d,ha,hb,h=>by
   simp only[Wu,Xd]at h;have:=tA (λe=>ha (VX _ e)) (λe=>hb (VX _ e)) h.2;exact⟨by rw[h.1,this.1],this.2⟩
theorem Dz{g:Int->er}:∀{l:cP},(∀a∈l,Zf (f a))->(∀a∈l,Zf (g a))->zR f l=zR g l->∀a∈l,f a=g a
 |[],_,_,_,a,ha=>by simp at ha
 | x::l,hf,hg,h,a,ha=>by
   unfold zR at h;rw[Wc,Wc,XO,XO,YE,YE]at h;have hs:=tA (hf x Zm) (hg x Zm) h;rcases By.1 ha with rfl|ha
   .exact ByteArray.ext (Array.ext' hs.1)
   exact Dz (λb hb=>hf b (by simp[hb])) (λb hb=>hg b (by simp[hb])) hs.2 a ha
theorem Bs(f:Int->er)(l m:cP):zR f (l++m)=zR f l++zR f m:=Xn
theorem Iz(f:Int->er){l:cP}(h:k<l.length):zR f (l.take (k+1))=zR f (l.take k)++((f l[k]).data.toList++[0]):=by
 rw[AI h,Bs]
 congr 1
 unfold zR;simp
def ZfA(σ:vb):Prop:=∀a x,σ a=WB x->Zf x
theorem ZfA.put{σ:vb}(h:ZfA σ)(a:Int){x:er}(j:Zf x):ZfA (put σ a x):=λb y e=>by
 unfold Jn.put at e;split at e
 .cases e;exact j
 exact h b y e
theorem ZfA.getD{σ:vb}(h:ZfA σ)(a:Int):Zf ((σ a).getD eb):=by
 cases e:σ a with
 |none=>show(0:UInt8)∉_;simp[eb]
 |some x=>exact h a x e
section
variable {R:Type}(Z:SR R)
def zY(v:Nat)(l:cP)(σ:vb):er:=⟨(L0 v l σ).toArray⟩
theorem qt(c:er)(rep:R->PV):∀(M:List (er×R))(i:Nat),(∃r,bZ (.str c) (M.map λp=> .str p.1) i=WB r)/\(bZ (.str c) (M.map λp=> .str p.1) i=WB WC->∀p∈M,p.1≠c)/\(∀j,bZ (.str c) (M.map λp=> .str p.1) i=WB (WB j)->i<=j/\∃w,M[j-i]? =WB (c,w))
 |[],i=>⟨⟨WC,O⟩,λ_=>by simp,λj h=>by simp[bZ]at h⟩
 | p::M,i=>by
   obtain⟨h1,h2,h3⟩:=qt c rep M (i+1);have s:keq (.str c) (.str p.1)=WB (c==p.1):=rfl;simp only[ed,bZ,s];by_cases e:c=p.1
   .rw[show(c==p.1)=YK by rw[<-e];exact iO c];refine⟨⟨_,O⟩,λh=>by simp at h,λj h=>?_⟩;simp at h;subst h;exact⟨BY _,p.2,by simp[e]⟩
   rw[show(c==p.1)=YL from by cases h:c==p.1 with|true=>exact absurd (gZ h) e|false=>rfl];refine⟨h1,λh q s=>?_,λj h=>?_⟩
   .rcases By.1 s with rfl|s
    .exact λt=>e t.symm
    exact h2 h q s
   obtain⟨h4,w,h5⟩:=h3 j h;exact⟨Zi,w,by rw[show j-i=(j-(i+1))+1 by omega];simpa using h5⟩
end

theorem qN(j:∀l∈J.T,l.length<=12)(v:Int)(σ:vb):(cA (RJ J) sdS v σ).length<=12:=by
 unfold cA;cases cw (RJ J) v with
 |nil=>simp
 | cons f l=>
   refine OF (Wx ..) (OF (xa _) ?_);rw[(iJ _).length_eq];refine OF (List.length_filterMap_le ..) (OF (Wx ..) ?_);rw[eD,IS];unfold bW;by_cases hf:f<J.T.length
   .simp only[List.getD,AT hf,Xg];exact j _ (ak hf)
   simp[List.getD,WT (by omega:J.T.length<=f)]
theorem EW(r:UpOk P)(v:Int)(f:Nat)(s:∀a (j:a<P.length),P[a]=v->P.length+1<=(bU P a).length+f):(lg P f v).Nodup:=by
 rw[List.nodup_iff_count];intro x;by_cases hx:x∈lg P f v
 .obtain⟨a,j,rfl⟩:=qb f v x hx;rw[oN r f v s a j];split<;>omega
 rw[List.count_eq_zero_of_not_mem hx];omega
theorem qK{l:cP}(s:l.Nodup)(h:∀x∈l,∃a:Nat,a<n/\x=(a:Int)):l.length<=n:=by
 have r:((upZ n).filter λa=>decide (a∈l)).Perm l:=by
  refine dK (WY WN (cX _)) s λa=>?_
  rw[VU,Ws,bR];exact⟨λj=>j.2,λj=>⟨h a j,j⟩⟩
 rw[<-r.length_eq];exact OF (Wx ..) (by rw[bt];exact BY _)
end
section
open Mk Jn
theorem Agr.EA{ops:YZ}{s:OS}{y:Operand}{pos:String}{gd:Option (Nat×Bool)}
  (h:Agr n ops ⟨dst,.call { callee:= .value y,args:=xs,argTypes:=ts },ty,pos,after,gd⟩ σ τ s rd) {ps:na} (hp:(V.args (λ_=>WC) (xs.toList.map (σ.ev n))).map PV.fgA=WB ps):
  (V.args (λ_=>WC) (xs.toList.map (τ.ev n))).map PV.fgA=WB ps:=by
 have e:xs.toList.map (τ.ev n)=xs.toList.map (σ.ev n):=by
  apply V9;intro x hx;obtain⟨i,hi⟩:=WO hx;exact h.e (i+1) x (by simpa[Op.operands,Call.operands,XA]using hi)
 rw[e];exact hp
theorem Agr.argsY{ops:YZ}{s:OS}{y:Operand}{pos:String}{gd:Option (Nat×Bool)}
  (h:Agr n ops ⟨dst,.call { callee:= .value y,args:=xs,argTypes:=ts },ty,pos,after,gd⟩ σ τ s rd):xs.toList.map (τ.ev n)=xs.toList.map (σ.ev n):=by
 apply V9;intro x hx;obtain⟨i,hi⟩:=WO hx;exact h.e (i+1) x (by simpa[Op.operands,Call.operands,XA]using hi)
abbrev six:ee:=[big,9001,9002,9003,9004,9005]
def RV(R:V->Ob->Ob->Prop)(s:OS):Prop:=∃p o1 o3,R p o1 o3/\s=⟨p,[(9001,WB o1),(9003,WB o3)],[]⟩
section
variable {C:Ctx}{n:Nat}{σ:St}{dst:YX}{ty:TypeId}{ts:Array TypeId}{pos:String}{after:Y4}{gd:Option (Nat×Bool)}
theorem Tw{i:Nat}(h:¬i=k):Nat.beq i k=YL:=by
 cases hb:Nat.beq i k with
 |false=>rfl
 |true=>exact absurd (bN hb) h
theorem relV{f:FuncId}{args:nR}{O0 o1 O2 o3 O4 O5:Ob}{Q:V->(Nat->va)->Prop}{R:V->Ob->Ob->Prop}(hc:bS C.P f)
  (z:ZS C.P f 6 0 args [(big,O0),(9001,o1),(9002,O2),(9003,o3),(9004,O4),(9005,O5)] Q)
  (E:∀v ob',Q v ob'->∃p a b,R p a b/\p.ren (eI six 0)=p/\a.ren (eI six 0)=a/\b.ren (eI six 0)=b/\v=p/\ob'=au [(big,O0),(9001,a),(9002,O2),(9003,b),(9004,O4),(9005,O5)])
  (r:xs.toList.map (σ.ev n)=V.renL (eI six 0) args) (G:V.allL (okR 6 0) args=YK)
  (u:[(big,O0),(9001,o1),(9002,O2),(9003,o3),(9004,O4),(9005,O5)].all (λp=>p.2.all (okR 6 0))=YK)
  (j:gL σ (eI six 0) [(big,O0),(9001,o1),(9002,O2),(9003,o3),(9004,O4),(9005,O5)]):
  OJ C n ⟨dst,.call { callee:= .value (.func f),args:=xs,argTypes:=ts },ty,pos,after,gd⟩ (λτ'=>∃s,RV R s/\s.wr.map (·.1)=[9001,9003]/\s.nw=[]/\τ'=σ.app dst s) σ:=by
 refine cf six 0 hc r G O u j Zk O z λv ob' h=>?_
 obtain⟨p,a,b,hR,ep,ea,eb,rfl,rfl⟩:=E v ob' h;refine⟨_,⟨v,a,b,hR,O⟩,O,O,?_⟩;obtain⟨h0,h1,h2,h3,h4,h5,_⟩:=j;have t:∀i,obL (wrO six 0 0 (au [(big,O0),(9001,a),(9002,O2),(9003,b),(9004,O4),(9005,O5)])) σ.ob i=obL [(9001,WB a),(9003,WB b)] σ.ob i:=by
  intro i;show obL [(big,WB (O0.ren (eI six 0))),(9001,WB (a.ren (eI six 0))),(9002,WB (O2.ren (eI six 0))),(9003,WB (b.ren (eI six 0))),(9004,WB (O4.ren (eI six 0))),(9005,WB (O5.ren (eI six 0)))] σ.ob i=_;rw[ea,eb];by_cases e0:i=big
  .subst e0;exact h0.symm
  by_cases e1:i=9001
  .subst e1;rfl
  by_cases e2:i=9002
  .subst e2;exact h2.symm
  by_cases e3:i=9003
  .subst e3;rfl
  by_cases e4:i=9004
  .subst e4;exact h4.symm
  by_cases e5:i=9005
  .subst e5;exact h5.symm
  simp only[obL,Tw e0,Tw e1,Tw e2,Tw e3,Tw e4,Tw e5,Wo]
 have e:=funext t;unfold St.app;simp only[ep,e];rfl
end
abbrev cB(ll:vm):PV:= .sl WC ll.length (ll.map al)
theorem kV(h:k<ll.length):(ll.map al)[k*1]? =WB (al ll[k]):=by simp[h]
theorem kP(h:k<ll.length):ll.map al≠[]:=λe=>by have:=ah List.length e;simp at this;rw[this]at h;simp at h
structure VD where
 chs:vm
 kes:vm
 hos:vm
 wa:cP
structure CtxV(J:JD)(P:cP)(D:VD):Prop where
 ok:JOk J
 ord:OrdOk J.S P
 n64:P.length<=64
 ch:D.chs=(upZ P.length).map (aB P)++[aB P (-1)]
 ke:D.kes=(upZ P.length).map (iY J.S P)
 hl:D.hos.length=P.length
 ho:∀h∈D.hos,h.length<=1000/\∀r∈h,0<=r/\r<J.S.aU.length
 zf:∀l∈J.T,∀x∈l,∀y∈x.v,Zf y/\y.size<=10000
 t12:∀l∈J.T,l.length<=12
 wv:∀a:Nat,a<J.S.aj.length->cw (RJ J) (a:Int)≠[]
def SzA(σ:vb):Prop:=∀a x,σ a=WB x->x.size<=10000
theorem SzA.put{σ:vb}(h:SzA σ)(a:Int){x:er}(j:x.size<=10000):SzA (put σ a x):=λb y e=>by
 unfold Jn.put at e;split at e
 .cases e;exact j
 exact h b y e
section
variable {J:JD}{P:cP}{D:VD}(h:CtxV J P D)
include h
theorem CtxV.len:P.length=J.S.aj.length:=h.ord.len
theorem CtxV.chl:D.chs.length=P.length+1:=by rw[h.ch];simp[bt]
theorem CtxV.kel:D.kes.length=P.length:=by rw[h.ke];simp[bt]
theorem CtxV.ch_at(j:v<P.length):D.chs[v]'(by rw[h.chl];omega)=aB P v:=by
 have r:v<(upZ P.length).length:=by rw[bt];exact j
 simp only[h.ch,List.getElem_append,IS,bt,j,dite_true,X4];simp[upZ]
theorem CtxV.QU:D.chs[P.length]'(by rw[h.chl];omega)=aB P (-1):=by simp[h.ch,List.getElem_append,bt]
theorem CtxV.ke_at(j:v<P.length):D.kes[v]'(by rw[h.kel];omega)=iY J.S P v:=by simp only[h.ke,X4];simp[upZ]
theorem CtxV.S6(r:v<P.length)(s:a∈iY J.S P v):∃b:Nat,a=(b:Int)/\b<P.length/\(b:Int)∈bU P v:=by have j:=(sU.1 s).1;obtain⟨b,hb,e⟩:=mC h.ord.jv r (VX _ j);exact⟨b,e,hb,e▸j⟩
omit h in
theorem Qw(S:ZN)(P:cP)(v:Int):(iY S P v).length<=P.length:=by unfold iY TZ;rw[(ou _).length_eq];exact OF (Wx ..) (vW P v)
theorem CtxV.SM(v:Int)(σ:vb):∀x∈cA (RJ J) sdS v σ,Zf x/\x.size<=10000:=by
 intro x hx;unfold cA at hx;cases hw:cw (RJ J) v with
 |nil=>rw[hw]at hx;simp at hx
 | cons f l=>
   rw[hw]at hx;simp only at hx;have r:=(VU.1 hx).1;rw[vn]at r;obtain⟨row,hrow,e⟩:=List.mem_filterMap.1 r;have s:=(VU.1 hrow).1;rw[eD]at s;obtain⟨y,hy,rfl⟩:=VS.1 s;have j:x∈y.v:=W8 e;unfold bW at hy;by_cases hf:f<J.T.length
   .simp only[List.getD,AT hf,Xg]at hy;exact h.zf _ (ak hf) y hy x j
   simp[List.getD,WT (by omega:J.T.length<=f)]at hy
end
theorem CZ:∀{l:cP},(∀a∈l,(f a).size<=10000)->(zR f l).length<=10001*l.length
 |[],_=>by simp[zR]
 | a::l,h=>by
   have h1:=CZ (l:=l) λb hb=>h b (by simp[hb])
   have r:=h a Zm;have j:(f a).data.toList.length=(f a).size:=by rw[Wg];rfl
   unfold zR at h1 ⊢;rw[Wc,Hb,Hb,VI,j];simp only[VI,XS];omega
theorem IK(x:er):(x++(⟨#[0]⟩:er)).data.toList=x.data.toList++[0]:=by rw[ByteArray.data_append];simp
theorem Nd(x:er):(x++(⟨#[0]⟩:er)).size=x.size+1:=by
 have e:(x++(⟨#[0]⟩:er)).data.toList.length=x.data.toList.length+1:=by rw[IK,Hb];rfl
 rw[Wg,Wg]at e;exact e
abbrev fr{R:Type}(M:List (er×R)):na:=M.map λp=> .str p.1
end
end Go.Proofs.YthicoeegbdboeaaGreatDoor
