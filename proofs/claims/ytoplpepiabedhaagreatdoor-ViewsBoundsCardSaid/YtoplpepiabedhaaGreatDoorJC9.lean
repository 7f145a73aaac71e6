/- Lemmas. No condition. -/
import Derived.Maps.RangeRun
import Derived.Test.YtoplpepiabedhaaGreatDoorJC8
set_option maxRecDepth 100000
set_option maxHeartbeats 4000000
open Go.RowKit Go.Proofs.Tryz
open Option renaming some→Sh,none→Sl
open Bool renaming true→Sm,false→S1
namespace Go.Proofs.YtoplpepiabedhaaGreatDoor
variable{b:Bool}{c:ByteArray}{K:Type}{D:Int}{x q y:Rat}{W k B C E j i A id:Nat}{ls:List (List PV)}{TA T:TypeId}{p key zp v:PV}{r:Option Nat}{cs ks cur rest ps qs l:List PV}{w:World}{m:Gm}{R:Nat->Prop}{u zv:Value}{es:List MapEntry}
section
namespace Mm
open Jn
theorem E7(a b:Int):tY b a= -tY a b:=by unfold tY;split<;>split<;>(try split)<;>omega
theorem pD{a b:Int}:tY a b=0↔a=b:=by
 unfold tY;constructor
 .intro h;split at h<;>(try split at h)<;>omega
 .rintro rfl;simp
theorem orI2(a b:Int):orI [a,b]=if a≠0 then a else b:=by
 unfold orI;by_cases h:a=0
 .subst h;by_cases h2:b=0
  .subst h2;rfl
  .simp[h2]
 .simp[h]
theorem nc(s t:ByteArray):tD s t=if s.toList<t.toList then-1 else if s=t then 0 else 1:=by
 unfold tD;rw[mS];by_cases h:s.toList<t.toList
 .simp[h]
 .rw[Rv h,dt Vh,dt h,Bool.false_or];by_cases h2:s=t
  .subst h2;simp
  .rw[dt h2,AT];have:s.toList≠t.toList:=λe=>h2 (bytes_inj e)
   simp[this]
theorem Qr{a b:List UInt8}(d:¬a<b)(s:¬b<a):a=b:=List.le_antisymm (List.not_lt.1 s) (List.not_lt.1 d)
theorem Db{s t:ByteArray}:tD s t=0↔s=t:=by
 rw[nc];constructor
 .intro h;split at h
  .omega
  .split at h
   .assumption
   .omega
 .rintro rfl;rw[dt (List.lt_irrefl _),AT O]
theorem G1(s t:ByteArray):tD t s= -tD s t:=by
 rw[nc,nc];by_cases h1:s.toList<t.toList
 .rw[AT h1,dt (λh=>List.lt_asymm h1 h),dt (λe=>by subst e;exact List.lt_irrefl _ h1)];rfl
 .by_cases h2:t.toList<s.toList
  .rw[dt h1,AT h2,dt (λe=>by subst e;exact List.lt_irrefl _ h2)]
  .have:s=t:=bytes_inj (Qr h1 h2);subst this;rw[dt h1,AT O];rfl
theorem mR(p q:Par):cD p q=if p.f≠q.f then tY p.f q.f else tD p.c q.c:=by
 unfold cD;rw[orI2];by_cases h:p.f=q.f
 .rw[dt (by simp[pD.2 h]),dt (by simp[h])]
 .rw[AT (λe=>h (pD.1 e)),AT h]
theorem iW(p q:Par):cD q p= -cD p q:=by
 rw[mR,mR];by_cases h:p.f=q.f
 .rw[dt (by simp[h]),dt (by simp[h]),G1]
 .rw[AT (Ne.symm h),AT h,E7]
theorem eY{p q:Par}:cD p q=0↔p=q:=by
 rw[mR];by_cases h:p.f=q.f
 .rw[dt (by simp[h]),Db];constructor
  .intro e;obtain⟨a,s⟩:=p;obtain⟨b,t⟩:=q;simp only at h e;subst h e;rfl
  .rintro rfl;rfl
 .rw[AT h,pD];exact⟨λe=>absurd e h,λe=>absurd (ag Par.f e) h⟩
theorem Bl{a b:ByteArray}(s:tD a b<0)(G:tD b c<0):tD a c<0:=by
 have d:∀x y:ByteArray,tD x y<0↔x.toList<y.toList:=λx y=>by
  rw[nc];constructor
  .intro h;split at h
   .assumption
   .split at h<;>omega
  .intro h;rw[AT h];omega
 rw[d]at*;exact List.lt_trans s G
theorem mf{p q r:Par}(s:cD p q<0)(d:cD q r<0):cD p r<0:=by
 rw[mR]at*;have H:∀a b:Int,tY a b<0->a<b:=λa b h=>by unfold tY at h;split at h;assumption;split at h<;>omega
 have G:∀a b:Int,a<b->tY a b<0:=λa b h=>by unfold tY;rw[AT h];omega
 by_cases e1:p.f=q.f
 .rw[dt (by simp[e1])]at s;rw[e1];by_cases e2:q.f=r.f
  .rw[dt (by simp[e2])]at d ⊢;exact Bl s d
  .rw[AT e2]at d ⊢;exact d
 .rw[AT e1]at s;have:=H _ _ s;by_cases e2:q.f=r.f
  .rw[<-e2,AT e1];exact s
  .rw[AT e2]at d;have:=H _ _ d;rw[AT Vf];exact G _ _ Vf
def eH(a b:Par):PP:=if cD a b>0 then(b,a)else(a,b)
theorem Dm(a b:Par):eH a b=eH b a:=by
 unfold eH;have h:=iW a b;by_cases h1:cD a b>0
 .rw[AT h1,dt Vf]
 .by_cases h2:cD a b=0
  .have:=eY.1 h2;subst this;rfl
  .rw[dt h1,AT Vf]
theorem M9(a b:Par):cD (eH a b).1 (eH a b).2<=0:=by
 unfold eH;have h:=iW a b;split
 .simp only;omega
 .simp only;omega
theorem fp{a b:Par}(h:cD a b<=0):eH a b=(a,b):=by unfold eH;rw[dt Vf]
theorem qP(a b:Par):eH a b=(a,b)\/eH a b=(b,a):=by unfold eH;split<;>simp
theorem Ac{a b c d:Par}(h:eH a b=eH c d):(a=c/\b=d)\/(a=d/\b=c):=by
 rcases qP a b with e1|e1<;>rcases qP c d with e2|e2<;>rw[e1,e2,Prod.mk.injEq]at h
 .exact .inl h
 .exact .inr h
 .exact .inr ⟨h.2,h.1⟩
 .exact .inl ⟨h.2,h.1⟩
structure MC where
 c:Rat
 s:List (Par×Rat)
 p:List (PP×Rat)
def MC.sem(m:MC):Sem:=⟨m.c,lk m.s,λa b=>lk m.p (eH a b)⟩
structure LOk{K:Type}(D:Int)(l:List (K×Rat)):Prop where
 nd:(l.map (·.1)).Nodup
 nz:∀e∈l,e.2≠0
 it:∀e∈l,dM D e.2
theorem LOk.nil(D:Int):LOk (K:=K) D []:=⟨Vj,Vj,Vj⟩
theorem LOk.note[BEq K][LawfulBEq K]{l:List (K×Rat)}(h:LOk D l)(k:K)(d:dM D x):LOk D (note l k x):=by
 refine⟨Gs h.nd k x,λe he=>?_,λe he=>?_⟩
 .rcases rP he with h1|⟨_,h2,_⟩
  .exact h.nz e h1
  .exact h2
 .rcases rP he with h1|⟨_,_,h2|⟨o,h3,h4⟩⟩
  .exact h.it e h1
  .rw[h2];exact d
  .rw[h4];exact d.add (h.it _ h3)
theorem LOk.perm[BEq K][LawfulBEq K]{l m:List (K×Rat)}(h:LOk D l)(s:LOk D m)(e:∀k,lk l k=lk m k):l.Perm m:=by
 have H:∀{l:List (K×Rat)},LOk D l->l.Nodup:=fun{l} h=>by
  exact(SM.1 h.nd).imp λhne e=>hne (by rw[e])
 have d:∀{l m:List (K×Rat)},LOk D l->LOk D m->(∀k,lk l k=lk m k)->∀x∈l,x∈m:=fun{l m} h s e x hx=>by
  have G:=fM h.nd hx;rw[e]at G;rcases fl m x.1 with⟨l1,o,l2,rfl,_⟩|hk
  .have h2:=fM s.nd (e:=(x.1,o)) Vj;simp only at h2;rw[G]at h2;have:x=(x.1,o):=by rw[<-h2]
   rw[this];simp
  .rw[qI hk]at G;exact absurd G.symm (h.nz x hx)
 exact(List.perm_ext_iff_of_nodup (H h) (H s)).2 λx=>⟨d h s e x,d s h (λk=>(e k).symm) x⟩
structure MOk(W k:Nat)(m:MC):Prop where
 ci:∃z:Int,m.c=(z:Rat)
 s:LOk 6 m.s
 p:LOk 36 m.p
 po:∀e∈m.p,cD e.1.1 e.1.2<=0
 cb:bl W m.c
 sb:∀e∈m.s,bl (3*k*W) e.2
 pb:∀e∈m.p,bl (9*k*k*W) e.2
theorem MOk.up{W' k':Nat}{m:MC}(h:MOk W k m)(d:W<=W')(G:k<=k'):MOk W' k' m:=
 ⟨h.ci,h.s,h.p,h.po,h.cb.up d,λe he=>(h.sb e he).up (Sw (Ss 3 G) d),λe he=>(h.pb e he).up (Sw (Sw (Ss 9 G) G) d)⟩
theorem MOk.LU{m:MC}(h:MOk W k m)(x:Par):bl (3*k*W) (m.sem.s x):=gC h.s.nd h.sb x
theorem MOk.semP{m:MC}(h:MOk W k m)(x y:Par):bl (9*k*k*W) (m.sem.p x y):=gC h.p.nd h.pb _
theorem MOk.of{m:MC}(ci:∃z:Int,m.c=(z:Rat))(s:LOk 6 m.s)(p:LOk 36 m.p)(po:∀e∈m.p,cD e.1.1 e.1.2<=0)(cb:bl W m.sem.c)(sb:∀x,bl (3*k*W) (m.sem.s x))(pb:∀x y,bl (9*k*k*W) (m.sem.p x y)):MOk W k m:=by
 refine⟨ci,s,p,po,cb,λe he=>?_,λe he=>?_⟩
 .have:=sb e.1;rw[show m.sem.s e.1=lk m.s e.1 from O,fM s.nd he]at this;exact this
 .have:=pb e.1.1 e.1.2;rw[show m.sem.p e.1.1 e.1.2=lk m.p (eH e.1.1 e.1.2)from O,fp (po e he),show(e.1.1,e.1.2)=e.1 from O,fM p.nd he]at this;exact this
theorem MOk.perm{W' k':Nat}{m m':MC}(h:MOk W k m)(G:MOk W' k' m')(e:m.sem=m'.sem):m.c=m'.c/\m.s.Perm m'.s/\m.p.Perm m'.p:=by
 refine⟨ag Sem.c e,h.s.perm G.s λk=>congrFun (ag Sem.s e) k,h.p.perm G.p λk=>?_⟩;have d:∀{m:MC}{W k:Nat},MOk W k m->∀x:PP,lk m.p x=if cD x.1 x.2<=0 then m.sem.p x.1 x.2 else 0:=fun{m W k} h x=>by
  by_cases hx:cD x.1 x.2<=0
  .rw[AT hx];show _=lk m.p (eH x.1 x.2);rw[fp hx]
  .rw[dt hx];exact qI λe he e1=>hx (by rw[<-e1];exact h.po e he)
 rw[d h,d G,e]
end Mm
end
section
namespace Mm
open Jn
section
variable {K:Type}[BEq K][LawfulBEq K]
omit [LawfulBEq K] in
theorem fr{l m:List (K×Rat)}(h:l.Perm m)(k:K):lk l k=lk m k:=by
 induction h with
 |nil=>rfl
 |cons e _ ih=>simp only[lk,ih]
 |swap a b l=>simp only[lk];grind
 |trans _ _ ih1 ih2=>rw[ih1,ih2]
structure Inc(D:Int)(b w:List (K×Rat))(q:Rat)(todo acc:List (K×Rat)):Prop where
 ok:LOk D acc
 ex:∃d,(d++todo).Perm w/\∀k,lk acc k=lk b k+lk d k*q
omit [LawfulBEq K] in
theorem Inc.start{b:List (K×Rat)}(h:LOk D b)(w:List (K×Rat))(q:Rat):Inc D b w q w b:=
 ⟨h,[],RY _,λk=>by simp only[lk];grind⟩
theorem Inc.step{D:Int}{b w:List (K×Rat)}{q:Rat}{l1 l2:List (K×Rat)}{e:K×Rat}{acc:List (K×Rat)}(h:Inc D b w q (l1++e::l2) acc)(s:dM D (e.2*q)):Inc D b w q (l1++l2) (note acc e.1 (e.2*q)):=by
 obtain⟨d,h1,h2⟩:=h.ex;refine⟨h.ok.note _ s,d++[e],?_,λk=>?_⟩
 .refine List.Perm.trans ?_ h1;rw[TC];refine List.Perm.append_left d ?_;show(e::(l1++l2)).Perm (l1++e::l2);exact(Uq).symm
 .rw[GH,h2,ea];simp only[lk];split<;>grind
omit [LawfulBEq K] in
theorem Inc.end{b w:List (K×Rat)}{acc:List (K×Rat)}(h:Inc D b w q [] acc)(k:K):lk acc k=lk b k+lk w k*q:=by
 obtain⟨d,h1,h2⟩:=h.ex;rw[Sk]at h1;rw[h2,fr h1]
omit [LawfulBEq K] in
theorem Inc.mem{b w:List (K×Rat)}{todo acc:List (K×Rat)}(h:Inc D b w q todo acc){e:K×Rat}(s:e∈todo):e∈w:=by
 obtain⟨d,h1,_⟩:=h.ex;exact h1.subset (by simp[s])
theorem Inc.abs{b w:List (K×Rat)}{todo acc:List (K×Rat)}{Q:Nat}(h:Inc D b w q todo acc)(G:LOk D b)(H:LOk D w)(bb:∀e∈b,bl B e.2)(bw:∀e∈w,bl C e.2)(bq:bl Q q):∀e∈acc,bl (B+C*Q) e.2:=by
 intro e he;obtain⟨d,h1,h2⟩:=h.ex;rw[<-fM h.ok.nd he,h2];have s:(d.map (·.1)).Nodup:=by
  have:=(h1.map (·.1)).nodup_iff.2 H.nd;rw[RG]at this;exact(Uk.1 this).1
 exact(gC G.nd bb _).add ((gC s (λx hx=>bw x (h1.subset (by simp[hx]))) _).mul bq)
end
def ctr(p:Par)(x:Rat)(e:Par×Rat):PP×Rat:=(eH p e.1,if p==e.1 then x*e.2+x*e.2 else x*e.2)
theorem Qg(p:Par)(x:Rat)(e:Par×Rat)(a b:Par):(if eH p e.1==eH a b then(if p==e.1 then x*e.2+x*e.2 else x*e.2)else 0)=(if p==a then x else 0)*(if e.1==b then e.2 else 0)+(if p==b then x else 0)*(if e.1==a then e.2 else 0):=by
 obtain⟨q,y⟩:=e
 classical
 simp only;have s:∀u v:Par,(u==v)=decide (u=v):=λu v=>by
  by_cases h:u=v
  .subst h;simp
  .rw[Rv h];cases hh:u==v with
   |false=>rfl
   |true=>exact absurd (eq_of_beq hh) h
 have d:∀u v:PP,(u==v)=decide (u=v):=λu v=>by
  by_cases h:u=v
  .subst h;simp
  .rw[Rv h];cases hh:u==v with
   |false=>rfl
   |true=>exact absurd (eq_of_beq hh) h
 have G:eH p q=eH a b↔(p=a/\q=b)\/(p=b/\q=a):=by
  constructor
  .exact Ac
  .rintro(⟨rfl,rfl⟩|⟨rfl,rfl⟩)
   .rfl
   .exact Dm _ _
 simp only[s,d,Rt,G];by_cases h1:p=a<;>by_cases h2:q=b<;>by_cases h3:p=b<;>by_cases h4:q=a<;>by_cases h5:p=q<;>simp only[h1,h2,h3,h4,h5,true_and,and_true,false_and,and_false,or_true,true_or,T7,false_or,UP,Up]<;>first|grind|(exfalso;grind)|skip
structure Crs(b:List (PP×Rat))(ws dP dQ:List (Par×Rat))(p:Par)(x:Rat)(acc:List (PP×Rat)):Prop where
 ok:LOk 36 acc
 po:∀e∈acc,cD e.1.1 e.1.2<=0
 eq:∀u v,lk acc (eH u v)=lk b (eH u v)+(lk dP u*lk ws v+lk dP v*lk ws u)+((if p==u then x else 0)*lk dQ v+(if p==v then x else 0)*lk dQ u)
theorem OH{l:List (PP×Rat)}(h:∀e∈l,cD e.1.1 e.1.2<=0)(a b:Par)(x:Rat):∀e∈note l (eH a b) x,cD e.1.1 e.1.2<=0:=λe he=>by
 rcases rP he with h1|⟨h1,_⟩
 .exact h e h1
 .rw[h1];exact M9 a b
theorem Crs.step{b:List (PP×Rat)}{ws dP dQ:List (Par×Rat)}{p:Par}{x:Rat}{acc:List (PP×Rat)}(h:Crs b ws dP dQ p x acc)(e:Par×Rat)(d:dM 36 (ctr p x e).2):Crs b ws dP (dQ++[e]) p x (note acc (eH p e.1) (ctr p x e).2):=by
 refine⟨h.ok.note _ d,OH h.po _ _ _,λu v=>?_⟩;rw[GH,h.eq,ea,ea];have:=Qg p x e u v;simp only[ctr]at*;rw[this];simp only[lk]
 grind
theorem Crs.row{b:List (PP×Rat)}{ws dP dQ:List (Par×Rat)}{p:Par}{acc:List (PP×Rat)}(h:Crs b ws dP dQ p x acc)(d:dQ.Perm ws)(p':Par)(x':Rat):Crs b ws (dP++[(p,x)]) [] p' x' acc:=by
 refine⟨h.ok,h.po,λu v=>?_⟩;rw[h.eq,ea,ea,fr d,fr d];simp only[lk]
 grind
theorem Crs.abs{b:List (PP×Rat)}{ws dP dQ:List (Par×Rat)}{p:Par}{acc:List (PP×Rat)}(h:Crs b ws dP dQ p x acc)(M:∀u v,bl B (lk b (eH u v)))(H:∀u,bl C (lk dP u))(U:bl C x)(I:∀u,bl E (lk ws u))(J:∀u,bl E (lk dQ u)):∀e∈acc,bl (B+(C*E+C*E)+(C*E+C*E)) e.2:=by
 intro e he;have L:=fM h.ok.nd he;have s:=h.eq e.1.1 e.1.2;rw[fp (h.po e he)]at s;rw[<-L,show e.1=(e.1.1,e.1.2)from O,s];have d:=M e.1.1 e.1.2;rw[fp (h.po e he)]at d;have G:∀u,bl C (if p==u then x else 0):=λu=>by split;exact U;exact bl.zero C
 exact(d.add (((H _).mul (I _)).add ((H _).mul (I _)))).add (((G _).mul (J _)).add ((G _).mul (J _)))
theorem MOk.mul{W' k':Nat}{v w m:MC}(d:MOk W k v)(G:MOk W' k' w)(hc:m.c=v.c*w.c)(H:LOk 6 m.s)(I:LOk 36 m.p)(po:∀e∈m.p,cD e.1.1 e.1.2<=0)
  (es:∀x,lk m.s x=lk w.s x*v.c+lk v.s x*w.c) (ep:∀x y,lk m.p (eH x y)=lk w.p (eH x y)*v.c+lk v.p (eH x y)*w.c+(lk v.s x*lk w.s y+lk v.s y*lk w.s x)):
  m.sem=Sem.mul v.sem w.sem/\MOk (W*W') (k+k') m:=by
 have e:m.sem=Sem.mul v.sem w.sem:=Sem.same hc (λx=>by show lk m.s x=_;rw[es];simp only[Sem.mul,MC.sem];grind) (λx y=>by show lk m.p (eH x y)=_;rw[ep];simp only[Sem.mul,MC.sem];grind);refine⟨e,MOk.of ?_ H I po ?_ (λx=>?_) λx y=>?_⟩
 .obtain⟨a,ha⟩:=d.ci;obtain⟨b,hb⟩:=G.ci;exact⟨a*b,by rw[hc,ha,hb,T8]⟩
 .show bl _ m.c;rw[hc];exact d.cb.mul G.cb
 .rw[e];refine((d.cb.mul (G.LU x)).add (G.cb.mul (d.LU x))).up (SQ ?_)
  grind
 .rw[e];refine(((d.cb.mul (G.semP x y)).add (G.cb.mul (d.semP x y))).add (((d.LU x).mul (G.LU y)).add ((d.LU y).mul (G.LU x)))).up (SQ ?_)
  grind
theorem MOk.add{W':Nat}{v w m:MC}(d:MOk W k v)(G:MOk W' k w)(hc:m.c=v.c+w.c)(H:LOk 6 m.s)(I:LOk 36 m.p)(po:∀e∈m.p,cD e.1.1 e.1.2<=0)
  (es:∀x,lk m.s x=lk v.s x+lk w.s x) (ep:∀x,lk m.p x=lk v.p x+lk w.p x):m.sem=Sem.add v.sem w.sem/\MOk (W+W') k m:=by
 have e:m.sem=Sem.add v.sem w.sem:=Sem.same hc es (λx y=>ep _);refine⟨e,MOk.of ?_ H I po ?_ (λx=>?_) λx y=>?_⟩
 .obtain⟨a,ha⟩:=d.ci;obtain⟨b,hb⟩:=G.ci;exact⟨a+b,by rw[hc,ha,hb,Rat.intCast_add]⟩
 .show bl _ m.c;rw[hc];exact d.cb.add G.cb
 .rw[e];refine((d.LU x).add (G.LU x)).up (SQ ?_)
  grind
 .rw[e];refine((d.semP x y).add (G.semP x y)).up (SQ ?_)
  grind
end Mm
end
section
namespace Mm
open Jn
structure Cmp{K:Type}(cmp:K->K->Int):Prop where
 swap:∀a b,cmp b a= -cmp a b
 zero:∀{a b},cmp a b=0->a=b
 trans:∀{a b c},cmp a b<0->cmp b c<0->cmp a c<0
theorem fm:Cmp cD:=⟨iW,eY.1,mf⟩
def dU(a b:PP):Int:=orI [cD a.1 b.1,cD a.2 b.2]
theorem du:Cmp dU:=by
 have e:∀a b:PP,dU a b=if cD a.1 b.1≠0 then cD a.1 b.1 else cD a.2 b.2:=λa b=>orI2 _ _
 refine⟨λa b=>?_,fun{a b} h=>?_,fun{a b c} h1 h2=>?_⟩
 .rw[e,e,iW a.1 b.1,iW a.2 b.2];by_cases h:cD a.1 b.1=0
  .rw[dt Vf,dt Vf]
  .rw[AT Vf,AT h]
 .rw[e]at h;split at h
  .rename_i h1;exact absurd h h1
  .rename_i h1;exact Prod.ext (eY.1 Vf) (eY.1 h)
 .rw[e]at*;by_cases e1:cD a.1 b.1=0
  .rw[dt Vf]at h1;rw[eY.1 e1];by_cases e2:cD b.1 c.1=0
   .rw[dt Vf]at h2 ⊢;exact mf h1 h2
   .rw[AT e2]at h2 ⊢;exact h2
  .rw[AT e1]at h1;by_cases e2:cD b.1 c.1=0
   .rw[<-eY.1 e2,AT e1];exact h1
   .rw[AT e2]at h2;have:=mf h1 h2;rw[AT Vf];exact this
section
variable {K:Type}(cmp:K->K->Int)
def Oz(e:K×Rat):List (K×Rat)->List (K×Rat)
 |[]=>[e]
 |x::l=>if cmp x.1 e.1<0 then x::Oz e l else e::x::l
def srt(l:List (K×Rat)):List (K×Rat):=l.foldr (Oz cmp) []
abbrev Asc(l:List (K×Rat)):Prop:=l.Pairwise λa b=>cmp a.1 b.1<0
theorem nL(e:K×Rat):∀l,(Oz cmp e l).Perm (e::l)
 |[]=>RY _
 | x::l=>by
   simp only[Oz];split
   .exact(List.Perm.cons _ (nL e l)).trans (List.Perm.swap _ _ _)
   .exact RY _
theorem bm:∀l,(srt cmp l).Perm l
 |[]=>RY _
 |e::l=>(nL cmp e _).trans (List.Perm.cons _ (bm l))
variable {cmp}
theorem AE(h:Cmp cmp){e:K×Rat}:∀{l},Asc cmp l->(∀x∈l,x.1≠e.1)->Asc cmp (Oz cmp e l)
 |[],_,_=>by simp[Oz,Asc]
 | x::l,ha,hn=>by
   obtain⟨h1,h2⟩:=Sa.1 ha;simp only[Oz];split
   .rename_i hx;refine Sa.2 ⟨λy hy=>?_,AE h h2 λz G=>hn z (by simp[G])⟩;rcases AS.1 ((nL cmp e l).mem_iff.1 hy)with rfl|hy
    .exact hx
    .exact h1 y hy
   .rename_i hx;have s:=hn x Vj;have G:cmp x.1 e.1≠0:=λH=>s (h.zero H)
    have I:=h.swap x.1 e.1;have d:cmp e.1 x.1<0:=Vf;refine Sa.2 ⟨λy hy=>?_,ha⟩;rcases AS.1 hy with rfl|hy
    .exact d
    .exact h.trans d (h1 y hy)
theorem eh(h:Cmp cmp):∀{l:List (K×Rat)},(l.map (·.1)).Nodup->Asc cmp (srt cmp l)
 |[],_=>List.Pairwise.nil
 | e::l,hn=>by
   simp only[bP,Sx]at hn;exact AE h (eh h hn.2) λx hx e1=>hn.1<|By.2 ⟨x,(bm cmp l).mem_iff.1 hx,e1⟩
theorem jm(h:Cmp cmp):∀{l m:List (K×Rat)},Asc cmp l->Asc cmp m->l.Perm m->l=m
 |[],m,_,_,hp=>(List.Perm.nil_eq hp)
 |x::l,[],_,_,hp=>absurd hp.length_eq Vj
 | x::l,y::m,hl,hm,hp=>by
   obtain⟨h1,h2⟩:=Sa.1 hl;obtain⟨h3,h4⟩:=Sa.1 hm;have d:∀k,¬cmp k k<0:=λk e=>by have:=h.swap k k;omega
   have s:x=y:=by
    have G:x∈y::m:=hp.mem_iff.1 Vj;have H:y∈x::l:=hp.mem_iff.2 Vj;rcases AS.1 G with e|G
    .exact e
    .rcases AS.1 H with e|H
     .exact e.symm
     .have a:=h3 x G;have b:=h1 y H;exact absurd (h.trans a b) (d _)
   subst s;rw[jm h h2 h4 (List.Perm.cons_inv hp)]
theorem Kr(h:Cmp cmp){l:List (K×Rat)}(d:Asc cmp l):(l.map (·.1)).Nodup:=by
 rw[List.Nodup,SM];exact d.imp fun{a b} hlt e=>by have:=h.swap a.1 a.1;rw[<-e]at hlt;omega
theorem Lx(h:Cmp cmp){l:List (K×Rat)}(d:Asc cmp l):srt cmp l=l:=jm h (eh h (Kr h d)) d (bm cmp l)
theorem LOk.srt{l:List (K×Rat)}(h:LOk D l):LOk D (srt cmp l):=
 ⟨((bm cmp l).map _).nodup_iff.2 h.nd,λe he=>h.nz e ((bm cmp l).mem_iff.1 he),λe he=>h.it e ((bm cmp l).mem_iff.1 he)⟩
end
def canon(m:MC):MC:=⟨m.c,srt cD m.s,srt dU m.p⟩
theorem E8(m:MC):(canon m).sem=m.sem:=Sem.same O (λx=>fr (bm _ _) x) (λx y=>fr (bm _ _) _)
theorem MOk.canon{m:MC}(h:MOk W k m):MOk W k (canon m):=
 ⟨h.ci,h.s.srt,h.p.srt,λe he=>h.po e ((bm _ _).mem_iff.1 he),h.cb,λe he=>h.sb e ((bm _ _).mem_iff.1 he),λe he=>h.pb e ((bm _ _).mem_iff.1 he)⟩
theorem J2{W' k':Nat}{m m':MC}(h:MOk W k m)(d:MOk W' k' m')(e:m.sem=m'.sem):canon m=canon m':=by
 obtain⟨e1,e2,e3⟩:=h.perm d e;have G:srt cD m.s=srt cD m'.s:=jm fm (eh fm h.s.nd) (eh fm d.s.nd) ((bm _ _).trans (e2.trans (bm _ _).symm));have H:srt dU m.p=srt dU m'.p:=jm du (eh du h.p.nd) (eh du d.p.nd) ((bm _ _).trans (e3.trans (bm _ _).symm));rw[Mm.canon,Mm.canon,e1,G,H]
def SOk(W k:Nat)(x:Sem):Prop:=∃m,MOk W k m/\m.sem=x
theorem SOk.up{W' k':Nat}{x:Sem}(h:SOk W k x)(d:W<=W')(s:k<=k'):SOk W' k' x:=by
 obtain⟨m,h1,h2⟩:=h;exact⟨m,h1.up d s,h2⟩
open Classical in
noncomputable def cn(x:Sem):MC:=if h:∃m,(∃W k,MOk W k m)/\m.sem=x then canon h.choose else⟨0,[],[]⟩
theorem QF{m:MC}(h:MOk W k m):cn m.sem=canon m:=by
 have d:∃m',(∃W k,MOk W k m')/\m'.sem=m.sem:=⟨m,⟨W,k,h⟩,O⟩;obtain⟨⟨W',k',h1⟩,h2⟩:=d.choose_spec;rw[cn,dif_pos d];exact J2 h1 h h2
theorem SOk.cn{x:Sem}(h:SOk W k x):MOk W k (cn x)/\(cn x).sem=x/\Asc cD (cn x).s/\Asc dU (cn x).p:=by
 obtain⟨m,h1,rfl⟩:=h;rw[QF h1];exact⟨h1.canon,E8 m,eh fm h1.s.nd,eh du h1.p.nd⟩
theorem MX{m:MC}(h:MOk W k m)(d:Asc cD m.s)(G:Asc dU m.p):cn m.sem=m:=by
 rw[QF h,Mm.canon,Lx fm d,Lx du G]
end Mm
end
section
theorem St.Qd{σ τ:St}(p:Nat->Bool)(ρ:Nat->Nat)(M:∀t,τ.sl t= .pv .any\/σ.sl t=(τ.sl t).ren ρ)(U:∀t,(τ.sl t).all p=Sm)
  (L:∀i o,τ.ob i=Sh o->σ.ob (ρ i)=Sh (o.ren ρ)/\p i=Sm/\o.all p=Sm) (J:∀i j,p i=Sm->p j=Sm->ρ i=ρ j->i=j)
  (H:∀i,p i=Sm->τ.av i=S1) (s:∀i,big<=i->τ.av i=S1/\ρ i=i):σ.le τ:=by
 rintro C n a w ⟨m,R,hw⟩
 let m2:Gm:=λi=>if(τ.ob i).isSome then m (ρ i)else Sl
 have d:∀i x,m2 i=Sh x->m (ρ i)=Sh x/\p i=Sm:=λi x h=>by
  simp only[m2]at h;split at h
  .rename_i M;obtain⟨o,hoo⟩:=RQ.1 M;exact⟨h,(L i o hoo).2.1⟩
  .cases h
 have V:∀i x,p i=Sm->m2 i=Sh x->m (ρ i)=Sh x:=λi x _ h=>(d i x h).1
 refine⟨m2,R,⟨?_,?_,?_,?_,?_,hw.hr.rsz,hw.hr.rfr,hw.hr.r0,hw.hr.frame,?_,λi hi=>(s i hi).1⟩,hw.df,hw.sz,?_⟩
 .intro i;simp only[m2];cases e:τ.ob i with
  |none=>rfl
  | some o=>
    have:=hw.hr.dom (ρ i);rw[(L i o e).1]at this;simpa[bI,Ob.jo]using this
 .intro i hi;cases e:τ.ob i with
  |none=>rfl
  | some o=>
    have G:=H i (L i o e).2.1;rw[hi]at G;cases G
 .intro i o b N G h4;have X:=L i o G;exact(hw.hr.obj _ _ b N X.1 (d _ _ h4).1).gx ρ p V H X.2.2
 .intro i j b N N' e1 I;exact J i j (d _ _ e1).2 (d _ _ I).2 (hw.hr.inj _ _ b N N' (d _ _ e1).1 (d _ _ I).1)
 .exact λi b N e=>hw.hr.own _ b N (d _ _ e).1
 .intro i x hi e;have I:=(d i x e).1;rw[(s i hi).2]at I;exact hw.hr.keep i x hi I
 .intro t ht;rcases M t with e|e
  .rw[e];simp only[Rel,RelP]
  .have G:=hw.sl t ht;rw[e]at G;exact G.gx ρ p V H _ _ (U t)
def ovl(σ:St)(A:Nat)(TA T:TypeId)(cells:List V)(ls:List (List PV)):St:=
 ⟨σ.sl,λid=>bif Nat.beq id A then Sh (.mix TA cells)else bif (Nat.ble 1000 id&&Nat.blt id (1000+ls.length))then Sh (.gro T (ls.getD (id-1000) []))else σ.ob id,λid=>σ.av id&&Nat.blt id 1000⟩
def chV(ls:List (List PV)):List V:=ls.zipIdx.map λp=> .gsl (p.2+1000) 1 p.1.length
def chP(ls:List (List PV)):List V:=ls.map λc=> .pv (.sl Sl c.length c)
theorem Gg(h:j<ls.length):(chV ls)[j*1]? =Sh (.gsl (j+1000) 1 ls[j].length):=by
 simp[chV,h]
theorem iK(ls:List (List PV)):(chV ls).length=ls.length:=by simp[chV]
theorem beqT(h:i=k):Nat.beq i k=Sm:=by subst h;exact Ug i
theorem Fa(h:i≠k):Nat.beq i k=S1:=by
 cases hb:Nat.beq i k with
 |false=>rfl
 |true=>exact absurd (aJ hb) h
theorem bltT(h:i<k):Nat.blt i k=Sm:=TP h
theorem HE(h:Nat.blt i k=Sm):i<k:=Rz h
theorem cN{σ:St}{cells:List V}(d:A<1000)(h:j<ls.length):(ovl σ A TA T cells ls).ob (j+1000)=Sh (.gro T ls[j]):=by
 show(bif Nat.beq (j+1000) A then _ else _)=_;rw[Fa Vf,RR,show Nat.ble 1000 (j+1000)=Sm from TP Vf,show Nat.blt (j+1000) (1000+ls.length)=Sm from bltT Vf];simp[List.getD,h]
theorem lB{σ:St}{cells:List V}(h:i≠A)(d:i<1000):(ovl σ A TA T cells ls).ob i=σ.ob i:=by
 show(bif Nat.beq i A then _ else _)=_;rw[Fa h,RR];have:Nat.ble 1000 i=S1:=by
  cases hb:Nat.ble 1000 i with
  |false=>rfl
  |true=>have:=Rz hb;omega
 rw[this];rfl
theorem re{σ:St}{cells:List V}(d:A<1000)(h:1000+ls.length<=i):(ovl σ A TA T cells ls).ob i=σ.ob i:=by
 show(bif Nat.beq i A then _ else _)=_;rw[Fa Vf,RR];have:Nat.blt i (1000+ls.length)=S1:=by
  cases hb:Nat.blt i (1000+ls.length)with
  |false=>rfl
  |true=>have:=HE hb;omega
 rw[this,Bool.and_false];rfl
theorem uA{σ:St}{cells:List V}:(ovl σ A TA T cells ls).ob A=Sh (.mix TA cells):=by
 show(bif Nat.beq A A then _ else _)=_;rw[beqT O];rfl
theorem St.GX{σ:St}(T:TypeId)(m:Nat)(X:σ.ob A=Sh (.mix TA (List.replicate m (.pv nS))))(Y:A<1000)(hm:m<=1000)(Z:∀i,1000<=i->i<2000->σ.av i=Sm):σ.le (ovl σ A TA T (chV (List.replicate m [])) (List.replicate m [])):=by
 rintro C n a w ⟨mm,R,hw⟩;have H:∀i,σ.av i=S1->(ovl σ A TA T (chV (List.replicate m [])) (List.replicate m [])).av i=S1:=λi h=>by
  show(σ.av i&&_)=S1;rw[h];rfl
 have d:∀i,1000<=i->i<2000->mm i=Sl:=λi h1 G=>by
  have J:=hw.hr.dom i;rw[hw.hr.free i (Z i h1 G)]at J;simpa[bI]using J
 have I:∀b,R b->R b/\w.heap[b]? =w.heap[b]? :=λb h=>⟨h,O⟩
 refine⟨mm,R,⟨?_,?_,?_,hw.hr.inj,hw.hr.own,hw.hr.rsz,hw.hr.rfr,hw.hr.r0,hw.hr.frame,hw.hr.keep,λi hi=>H i (hw.hr.res i hi)⟩,hw.df,hw.sz,λt ht=>(hw.sl t ht).mono I (λ_ _ _ e=>e) H _ _⟩
 .intro i;by_cases e:i=A
  .subst e;rw[uA,hw.hr.dom,X];rfl
  .by_cases h1:i<1000
   .rw[lB e h1];exact hw.hr.dom i
   .by_cases G:i<1000+m
    .have:=cN (σ:=σ) (TA:=TA) (T:=T) (cells:=chV (List.replicate m [])) (ls:=List.replicate m []) Y (j:=i-1000) Vk;rw[show i-1000+1000=i by omega]at this;rw[this,d i Vf Vf];simp[bI,Ob.real]
    .rw[re Y Vk];exact hw.hr.dom i
 .intro i h;have L:(σ.av i&&Nat.blt i 1000)=Sm:=h;rw[sh]at L;have G:=hw.hr.free i L.1;have M:=HE L.2;have e:i≠A:=λe=>by subst e;rw[X]at G;cases G
  rw[lB e M];exact G
 .intro i o b N h1 G;by_cases e:i=A
  .subst e;rw[uA]at h1;cases h1;obtain⟨arr,q1,q2,q3,q4⟩:=hw.hr.obj i _ b N X G;refine⟨arr,q1,q2,by rw[iK];simpa using q3,?_⟩;rw[iK];simp only[Tp]at q4 ⊢;have U:∀(k s:Nat)(us:List Value),s+k<=m->RelL w mm σ.av R (List.replicate k (.pv nS)) us->RelL w mm (ovl σ i TA T (chV (List.replicate m [])) (List.replicate m [])).av R (((List.replicate k ([]:List PV)).zipIdx s).map λp=> .gsl (p.2+1000) 1 p.1.length) us:=by
    intro k;induction k with
    |zero=>intro s us _ h;simpa[RelL]using h
    | succ k ih=>
      intro s us hk h;simp only[Ul,RelL]at h;obtain⟨u,vs,rfl,hu,hv⟩:=h;simp only[Ul,U1,bP,RelL];refine⟨u,vs,O,?_,ih (s+1) vs Vf hv⟩;simp only[Rel,RelP]at hu ⊢;obtain⟨A',c,rfl,_,hc,hb,hcz,_⟩:=hu;have V:=hb Sm O;refine⟨?_,A',c,O,cd _,hc,λ_=>⟨?_,hcz trivial,d _ Vf Vf⟩,λh=>absurd h Vj⟩
      .show(σ.av (s+1000)&&Nat.blt (s+1000) 1000)=S1;have:Nat.blt (s+1000) 1000=S1:=by
        cases hb:Nat.blt (s+1000) 1000 with
        |false=>rfl
        |true=>have:=HE hb;omega
       rw[this,Bool.and_false]
      .cases A' with
       |none=>rfl
       |some _=>simp at V
   exact U m 0 _ Vf q4
  .by_cases hf:1000<=i/\i<1000+m
   .have:=d i hf.1 Vf;rw[this]at G;cases G
   .have J:σ.ob i=Sh o:=by
     by_cases h1000:i<1000
     .rwa [lB e h1000]at h1
     .rwa [re Y Vk]at h1
    exact(hw.hr.obj i o b N J G).mono I (λ_ _ _ e=>e) H O
mutual
theorem V.all_mono{p q:Nat->Bool}(h:∀i,p i=Sm->q i=Sm):∀v:V,v.all p=Sm->v.all q=Sm
 | .pv _,_=>rfl
 | .ptr i _,hv=>by simp only[V.all]at hv ⊢; exact h i hv
 | .osl i _ _,hv=>by simp only[V.all]at hv ⊢; exact h i hv
 | .tsl i _ _,hv=>by simp only[V.all]at hv ⊢; exact h i hv
 | .gsl i _ _,hv=>by simp only[V.all]at hv ⊢; exact h i hv
 | .map i,hv=>by simp only[V.all]at hv ⊢; exact h i hv
 | .agg cs,hv=>by simp only[V.all]at hv ⊢; exact V.allL_mono h cs hv
 | .tup cs,hv=>by simp only[V.all]at hv ⊢; exact V.allL_mono h cs hv
 | .fn _ a b,hv=>by simp only[V.all,sh]at hv ⊢; exact⟨V.allL_mono h a hv.1,V.allL_mono h b hv.2⟩
theorem V.allL_mono{p q:Nat->Bool}(h:∀i,p i=Sm->q i=Sm):∀vs:List V,V.allL p vs=Sm->V.allL q vs=Sm
 |[],_=>rfl
 |c::cs,hv=>by simp only[V.allL,sh]at hv ⊢; exact⟨V.all_mono h c hv.1,V.allL_mono h cs hv.2⟩
end
mutual
theorem V.sI(id:Nat)(r:Bool)(cs:List PV):∀v:V,v.all (λi=> !(Nat.beq i id))=Sm->V.pubV id r cs v=v
 | .pv _,_=>rfl
 | .ptr _ _,_=>rfl
 | .osl i _ _,h=>by simp only[V.all,TB]at h;simp only[V.pubV,h,RR]
 | .tsl i _ _,h=>by simp only[V.all,TB]at h;simp only[V.pubV,h,RR]
 | .gsl i _ _,h=>by simp only[V.all,TB]at h;simp only[V.pubV,h,RR]
 | .map _,_=>rfl
 | .agg cs',h=>by simp only[V.all]at h;simp only[V.pubV,V.pubL_out id r cs cs' h]
 | .tup cs',h=>by simp only[V.all]at h;simp only[V.pubV,V.pubL_out id r cs cs' h]
 | .fn _ a b,h=>by simp only[V.all,sh]at h;simp only[V.pubV,V.pubL_out id r cs a h.1,V.pubL_out id r cs b h.2]
theorem V.pubL_out(id:Nat)(r:Bool)(cs:List PV):∀vs:List V,V.allL (λi=> !(Nat.beq i id)) vs=Sm->V.pubL id r cs vs=vs
 |[],_=>rfl
 |c::cs',h=>by simp only[V.allL,sh]at h;simp only[V.pubL,V.sI id r cs c h.1,V.pubL_out id r cs cs' h.2]
end
theorem Ob.sI(id:Nat)(r:Bool)(cs:List PV){o:Ob}(h:o.all (λi=> !(Nat.beq i id))=Sm):o.HY id r cs=o:=by
 cases o with
 |mix t vs=>exact ag _ (V.pubL_out id r cs vs h)
 |cells _ _=>rfl
 |gro _ _=>rfl
 |mp _ _=>rfl
 |it _ _=>rfl
 |fro _ _=>rfl
 |mi _ _ _=>rfl
def chM(ls:List (List PV))(j:Nat):List V:=chV (ls.take j)++chP (ls.drop j)
theorem Jb{r:Bool}(vs:List V):V.pubL id r cs vs=vs.map (V.pubV id r cs):=by
 induction vs with
 |nil=>rfl
 |cons v vs ih=>rw[V.pubL,ih,bP]
theorem Mb(ls:List (List PV))(h:j<ls.length):V.pubL (j+1000) S1 ls[j] (chM ls (j+1))=chM ls j:=by
 rw[Jb];unfold chM;have s:chV (ls.take (j+1))=chV (ls.take j)++[.gsl (j+1000) 1 ls[j].length]:=by
  rw[AI h];simp only[chV,List.zipIdx_append,RG,U1,List.zipIdx_nil,bP,SD,Rr];rw[show 0+min j ls.length=j by omega]
 have G:chP (ls.drop j)= .pv (.sl Sl ls[j].length ls[j])::chP (ls.drop (j+1)):=by
  rw[RF h];rfl
 have H:(chV (ls.take j)).map (V.pubV (j+1000) S1 ls[j])=chV (ls.take j):=by
  have:∀v∈chV (ls.take j),V.pubV (j+1000) S1 ls[j] v=v:=λv hv=>by
   unfold chV at hv;obtain⟨q,hq,rfl⟩:=By.1 hv;have:=List.mem_zipIdx hq;have d:=this.2.1;rw[Rr]at d;simp only[V.pubV];rw[Fa Vf,RR]
  rw[Sd this];exact List.map_id' _
 have I:(chP (ls.drop (j+1))).map (V.pubV (j+1000) S1 ls[j])=chP (ls.drop (j+1)):=by
  have:∀v∈chP (ls.drop (j+1)),V.pubV (j+1000) S1 ls[j] v=v:=λv hv=>by
   unfold chP at hv;obtain⟨q,_,rfl⟩:=By.1 hv;rfl
  rw[Sd this];exact List.map_id' _
 have d:V.pubV (j+1000) S1 ls[j] (.gsl (j+1000) 1 ls[j].length)= .pv (.sl Sl ls[j].length ls[j]):=by
  simp only[V.pubV];rw[beqT O,Sy]
 rw[s,G,RG,RG,H,I,bP,SD,d,TC,List.singleton_append]
theorem St.G6{σ:St}(ls:List (List PV))(s:A<1000)(hm:ls.length<=1000)(Z:∀t,(σ.sl t).all (λi=>Nat.blt i 1000)=Sm)(M:∀i o,σ.ob i=Sh o->i<1000/\o.all (λi=>Nat.blt i 1000)=Sm):
  (ovl σ A TA T (chV ls) ls).le (ovl σ A TA T (chP ls) []):=by
 have X:∀(j:Nat)(v:V),v.all (λi=>Nat.blt i 1000)=Sm->v.all (λi=> !(Nat.beq i (j+1000)))=Sm:=λj v h=>V.all_mono (λi hi=>by
  have:=HE hi;rw[Fa Vf];rfl) v h
 have Y:∀(j:Nat)(o:Ob),o.all (λi=>Nat.blt i 1000)=Sm->o.all (λi=> !(Nat.beq i (j+1000)))=Sm:=λj o h=>by
  cases o with
  | mix t vs=>exact V.allL_mono (λi hi=>by
    have:=HE hi;rw[Fa Vf];rfl) vs h
  |cells _ _=>rfl
  |gro _ _=>rfl
  |mp _ _=>rfl
  |it _ _=>rfl
  |fro _ _=>rfl
  |mi _ _ _=>rfl
 have G:∀j,(h:j<ls.length)->(ovl σ A TA T (chM ls (j+1)) (ls.take (j+1))).le (ovl σ A TA T (chM ls j) (ls.take j)):=by
  intro j h;have H:j<(ls.take (j+1)).length:=by rw[Rr];omega
  have d:=cN (σ:=σ) (TA:=TA) (T:=T) (cells:=chM ls (j+1)) s H;rw[List.getElem_take]at d;have U:=Q8 (j+1000) d (r:=S1) (cs:=ls[j]) O;have e:(ovl σ A TA T (chM ls (j+1)) (ls.take (j+1))).O7 (j+1000) S1 ls[j]=ovl σ A TA T (chM ls j) (ls.take j):=by
   have I:(λt=>V.pubV (j+1000) S1 ls[j] (σ.sl t))=σ.sl:=funext λt=>V.sI _ _ _ _ (X j _ (Z t))
   have J:∀i,(bif Nat.beq i (j+1000)then Sl else((ovl σ A TA T (chM ls (j+1)) (ls.take (j+1))).ob i).map (Ob.HY (j+1000) S1 ls[j]))=(ovl σ A TA T (chM ls j) (ls.take j)).ob i:=by
    intro i;by_cases hi:i=j+1000
    .subst hi;rw[beqT O,Sy,re s (by rw[Rr];omega)];cases hq:σ.ob (j+1000)with
     |none=>rfl
     |some o=>have:=(M _ o hq).1;omega
    .rw[Fa hi,RR];by_cases hiA:i=A
     .subst hiA;rw[uA,uA];simp only[Tt,Ob.HY];rw[Mb ls h]
     .by_cases h1:i<1000
      .rw[lB hiA h1,lB hiA h1];cases hq:σ.ob i with
       |none=>rfl
       |some o=>simp only[Tt];rw[Ob.sI _ _ _ (Y j o (M i o hq).2)]
      .by_cases h2:i<j+1000
       .obtain⟨q,rfl⟩:∃q,i=q+1000:=⟨i-1000,Vf⟩;rw[cN s (by rw[Rr];omega),cN s (by rw[Rr];omega)];simp[Ob.HY,List.getElem_take]
       .rw[re s (by rw[Rr];omega),re s (by rw[Rr];omega)];cases hq:σ.ob i with
        |none=>rfl
        |some o=>have:=(M i o hq).1;omega
   unfold St.O7;show St.mk (λt=>V.pubV (j+1000) S1 ls[j] (σ.sl t)) _ _=St.mk σ.sl _ _;rw[I]
   congr 1
   exact funext J
  rw[e]at U;exact U
 have L:∀j,j<=ls.length->(ovl σ A TA T (chM ls j) (ls.take j)).le (ovl σ A TA T (chM ls 0) (ls.take 0)):=by
  intro j;induction j with
  |zero=>exact λ_ C n a w h=>h
  |succ j ih=>exact λh=>(G j h).trans (ih Vf)
 have:=L ls.length (BY _);have I:chM ls ls.length=chV ls:=by unfold chM chP;rw[T3,List.drop_length];simp
 have J:chM ls 0=chP ls:=by unfold chM;rw[UO,List.drop_zero];rfl
 rwa [I,J,T3,UO]at this
def rnF(up nw i:Nat):Nat:=bif Nat.beq i (up+1000)then nw else i
theorem cO{up nw:Nat}(h:i≠up+1000):rnF up nw i=i:=by unfold rnF;rw[Fa h];rfl
theorem zQ(up nw:Nat):rnF up nw (up+1000)=nw:=by unfold rnF;rw[beqT O];rfl
theorem St.fT{σ:St}{l:List (Nat×V)}{os:List (Nat×Ob)}(up nw:Nat)(U:qL σ (rnF up nw) l)(X:fO σ (rnF up nw) os)
  (Y:σ.ob A=Sh (.mix TA (V.renL (rnF up nw) (chV ls)))) (Z:∀j (h:j<ls.length),σ.ob (rnF up nw (j+1000))=Sh (.gro T ls[j])) (h1:l.all (λp=>p.2.okA k)=Sm) (J:os.all (λp=>Nat.blt p.1 k&&p.2.okA k)=Sm)
  (hk:k<=nw) (hn:nw<1000) (H:A<k) (hup:up<=1000) (hm:ls.length<=1000):σ.le (ovl (mkS l os k) A TA T (chV ls) ls):=by
 have L:big=9000:=rfl;have I:∀i,(Nat.blt i k||Nat.ble big i)=Sm->i<k\/big<=i:=λi h=>by
  rcases Bool.or_eq_true_iff.1 h with h|h
  .exact .inl (HE h)
  .exact .inr (Rz h)
 refine St.Qd (λi=>decide (i<k)||decide (big<=i)||(decide (1000<=i)&&decide (i<1000+ls.length))) (rnF up nw) ?_ ?_ ?_ ?_ ?_ ?_
 .exact jF U
 .intro t;exact V.all_mono (λi hi=>by rcases I i hi with h|h<;>simp[h]) _ (V.iH _ _ (look_ok h1 t))
 .intro i o h;by_cases e:i=A
  .subst e;rw[uA]at h;cases h;refine⟨by rw[cO Vf];exact Y,by simp[H],?_⟩;show V.allL _ (chV ls)=Sm;have:∀(vs:List V),(∀v∈vs,V.all (λi=>decide (i<k)||decide (big<=i)||(decide (1000<=i)&&decide (i<1000+ls.length))) v=Sm)->V.allL (λi=>decide (i<k)||decide (big<=i)||(decide (1000<=i)&&decide (i<1000+ls.length))) vs=Sm:=by
    intro vs;induction vs with
    |nil=>intro _;rfl
    |cons v vs ih=>intro h;simp only[V.allL,sh];exact⟨h v Vj,ih λw hw=>h w (by simp[hw])⟩
   refine this _ λv hv=>?_
   unfold chV at hv;obtain⟨q,hq,rfl⟩:=By.1 hv;have:=(List.mem_zipIdx hq).2.1;simp only[V.all];rw[Ru (show 1000<=q.2+1000 by omega),Ru (show q.2+1000<1000+ls.length by omega)];simp
  .by_cases h1000:i<1000
   .rw[lB e h1000]at h;have d:=bG h;have s:=Ri.1 J _ d;simp only[sh]at s;refine⟨eQ X i o d,by simp[HE s.1],?_⟩;have M:=Ob.iH k s.2;cases o with
    |mix t vs=>exact V.allL_mono (λi hi=>by rcases I i hi with h|h<;>simp[h]) vs M
    |cells _ _=>rfl
    |gro _ _=>rfl
    |mp _ _=>rfl
    |it _ _=>rfl
    |fro _ _=>rfl
    |mi _ _ _=>rfl
   .by_cases h2000:i<1000+ls.length
    .obtain⟨j,rfl⟩:∃j,i=j+1000:=⟨i-1000,Vf⟩;have G:j<ls.length:=Vf;rw[cN Vf G]at h;cases h;refine⟨Z j G,?_,O⟩;rw[Ru (show 1000<=j+1000 by omega),Ru (show j+1000<1000+ls.length by omega)];simp
    .rw[re Vf Vf]at h;have d:=bG h;have s:=Ri.1 J _ d;simp only[sh]at s;have:=HE s.1;omega
 .intro i j hi G e;simp only[Sg,sh,Rt]at hi G;by_cases e1:i=up+1000
  .by_cases e2:j=up+1000
   .rw[e1,e2]
   .rw[e1,zQ,cO e2]at e;omega
  .by_cases e2:j=up+1000
   .rw[e2,zQ,cO e1]at e;omega
   .rwa [cO e1,cO e2]at e
 .intro i hi;simp only[Sg,sh,Rt]at hi;show(avK k i&&Nat.blt i 1000)=S1;rcases hi with(h|h)|h
  .have:Nat.ble k i=S1:=by
    cases hb:Nat.ble k i with
    |false=>rfl
    |true=>have:=Rz hb;omega
   unfold avK;rw[this];rfl
  .rw[cR h];rfl
  .have:Nat.blt i 1000=S1:=by
    cases hb:Nat.blt i 1000 with
    |false=>rfl
    |true=>have:=HE hb;omega
   rw[this,Bool.and_false]
 .intro i hi;refine⟨?_,cO Vf⟩;show(avK k i&&Nat.blt i 1000)=S1;rw[cR hi];rfl
theorem oB{up:Nat}(s:up<ls.length)(nw:Nat)(x:PV):V.renL (rnF up nw) (chV (ls.set up (ls[up]++[x])))=(chV ls).set (up*1) (.gsl nw 1 (ls[up].length+1)):=by
 have d:∀vs:List V,V.renL (rnF up nw) vs=vs.map (V.ren (rnF up nw)):=by
  intro vs;induction vs with
  |nil=>rfl
  |cons v vs ih=>rw[V.renL,ih,bP]
 rw[d];apply SO
 .simp[chV]
 .intro i h1 h2;simp only[chV,OF,List.length_zipIdx,SI]at h1;simp only[chV,SE,List.getElem_zipIdx,U4,R6,RV,V.ren];by_cases e:up=i
  .subst e;simp[zQ]
  .rw[dt e,dt e,cO Vf]
def St.mixC(σ:St)(id:Nat)(T:TypeId)(cs:List PV):St:=⟨σ.sl,obL [(id,Sh (.cells T cs))] σ.ob,σ.av⟩
theorem St.CU{σ:St}{vs:List V}(H:σ.ob id=Sh (.mix T vs))(hc:vs=cs.map .pv):σ.le (σ.mixC id T cs):=by
 subst hc;rintro C n a w ⟨m,R,hw⟩;have G:∀i,i≠id->obL [(id,Sh (Ob.cells T cs))] σ.ob i=σ.ob i:=λi s=>fx _ _ _ (by simpa using s)
 have s:obL [(id,Sh (Ob.cells T cs))] σ.ob id=Sh (.cells T cs):=by simp[obL]
 refine⟨m,R,⟨?_,?_,?_,hw.hr.inj,hw.hr.own,hw.hr.rsz,hw.hr.rfr,hw.hr.r0,hw.hr.frame,hw.hr.keep,hw.hr.res⟩,hw.df,hw.sz,hw.sl⟩
 .intro i;by_cases e:i=id
  .subst e;rw[hw.hr.dom,H];show _=bI (obL _ _ _);rw[s];rfl
  .show _=bI (obL _ _ _);rw[G i e];exact hw.hr.dom i
 .intro i h;by_cases e:i=id
  .subst e;have:=hw.hr.free i h;rw[H]at this;cases this
  .show obL _ _ _=Sl;rw[G i e];exact hw.hr.free i h
 .intro i o b N h1 h2;by_cases e:i=id
  .subst e;have d:obL [(i,Sh (Ob.cells T cs))] σ.ob i=Sh o:=h1;rw[s]at d;cases d;obtain⟨arr,q1,q2,q3,q4⟩:=hw.hr.obj i _ b N H h2;rw[OF]at q3 q4;exact⟨arr,q1,q2,q3,RelL.toP q4⟩
  .have d:obL [(id,Sh (Ob.cells T cs))] σ.ob i=Sh o:=h1;rw[G i e]at d;exact hw.hr.obj i o b N d h2
def St.obC(σ:St)(id:Nat)(o:Ob):St:=⟨σ.sl,obL [(id,Sh o)] σ.ob,σ.av⟩
theorem St.LP{σ:St}{o o':Ob}(H:σ.ob id=Sh o)(I:o'.real=o.real)(h:∀w m av R b N,lz w m av R b N o->lz w m av R b N o'):σ.le (σ.obC id o'):=by
 rintro C n a w ⟨m,R,hw⟩;have G:∀i,i≠id->obL [(id,Sh o')] σ.ob i=σ.ob i:=λi s=>fx _ _ _ (by simpa using s)
 have s:obL [(id,Sh o')] σ.ob id=Sh o':=by simp[obL]
 refine⟨m,R,⟨?_,?_,?_,hw.hr.inj,hw.hr.own,hw.hr.rsz,hw.hr.rfr,hw.hr.r0,hw.hr.frame,hw.hr.keep,hw.hr.res⟩,hw.df,hw.sz,hw.sl⟩
 .intro i;by_cases e:i=id
  .subst e;rw[hw.hr.dom,H];show _=bI (obL _ _ _);rw[s];exact I.symm
  .show _=bI (obL _ _ _);rw[G i e];exact hw.hr.dom i
 .intro i h;by_cases e:i=id
  .subst e;have:=hw.hr.free i h;rw[H]at this;cases this
  .show obL _ _ _=Sl;rw[G i e];exact hw.hr.free i h
 .intro i q b N h1 h2;by_cases e:i=id
  .subst e;have d:obL [(i,Sh o')] σ.ob i=Sh q:=h1;rw[s]at d;cases d;exact h _ _ _ _ _ _ (hw.hr.obj i _ b N H h2)
  .have d:obL [(id,Sh o')] σ.ob i=Sh q:=h1;rw[G i e]at d;exact hw.hr.obj i q b N d h2
theorem St.uv{σ:St}(id:Nat)(d:σ.ob id=Sh (.cells T cs)):σ.le (σ.obC id (.mix T (cs.map .pv))):=by
 refine St.LP d O λw m av R b N h=>?_
 obtain⟨arr,q1,q2,q3,q4⟩:=h;exact⟨arr,q1,q2,by rw[OF];exact q3,by rw[OF];exact RelL.ofP q4⟩
def V.fgV:V->V
 | .pv (.sl _ n cs)=> .pv (.sl Sl n cs)
 |v=>v
theorem Rel.fgV{av:Av}:∀{v:V}{u:Value},Rel w m av R v u->Rel w m av R v.fgV u:=by
 intro v u h;cases v with
 | pv p=>
   cases p with
   | sl nl n cs=>
     simp only[V.fgV,Rel,RelP]at h ⊢;obtain⟨A,c,e,h1,h2,_,_,h5⟩:=h;exact⟨A,c,e,h1,h2,λ_ h=>(by cases h),λh=>(by cases h),h5⟩
   |_=>exact h
 |_=>exact h
theorem RelL.fgV{av:Av}:∀{vs:List V}{us:List Value},RelL w m av R vs us->RelL w m av R (vs.map V.fgV) us
 |[],_,h=>h
 | v::vs,us,h=>by
   simp only[RelL]at h;obtain⟨u,us',rfl,h1,h2⟩:=h;simp only[bP,RelL];exact⟨u,us',O,h1.fgV,RelL.fgV h2⟩
theorem St.LZ{σ:St}{vs:List V}(id:Nat)(d:σ.ob id=Sh (.mix T vs)):σ.le (σ.obC id (.mix T (vs.map V.fgV))):=by
 refine St.LP d O λw m av R b N h=>?_
 obtain⟨arr,q1,q2,q3,q4⟩:=h;exact⟨arr,q1,q2,by rw[OF];exact q3,by rw[OF];exact RelL.fgV q4⟩
theorem iq{up:Nat}(nw:Nat)(h:ls.length<=up):V.renL (rnF up nw) (chV ls)=chV ls:=by
 have d:∀vs:List V,V.renL (rnF up nw) vs=vs.map (V.ren (rnF up nw)):=by
  intro vs;induction vs with
  |nil=>rfl
  |cons v vs ih=>rw[V.renL,ih,bP]
 rw[d];have:∀v∈chV ls,V.ren (rnF up nw) v=v:=λv hv=>by
  unfold chV at hv;obtain⟨q,hq,rfl⟩:=By.1 hv;have:=(List.mem_zipIdx hq).2.1;simp only[V.ren];rw[cO Vf]
 rw[Sd this];exact List.map_id' _
theorem Ex(d:k<=1000)(s:1000<=i)(G:i<2000):avK k i=Sm:=by
 unfold avK;rw[TP (show k<=i by omega),bltT (show i<big from by show i<9000;omega)];rfl
end


section
open Go.RowKit Go.MapKept
open Go.ChangeMaps (setBlock)
structure KeyOk(P:Program)(kt:TypeId)(kp:PV->Prop):Prop where
 und:∃d,P.underlying kt=Sh d/\∀us y,Instr.sameNow d (.agg us) y=Sl
 check:∀{w:World}{R:Nat->Prop}{k:PV}{u:Value}(e:Bool),kp k->RelP w R k u->(Instr.checkKey e 10000 kt u).run P w= .ok () w
 ask:∀{w:World}{R:Nat->Prop}{k x:PV}{u y:Value}{b:Bool},kp k->RelP w R k u->RelP w R x y->keq k x=Sh b->(Op.equal kt u y).run P w= .ok b w
 agg:∀{k:PV},kp k->∃cs,k= .agg cs
section
variable {P:Program}{kt:TypeId}{kp:PV->Prop}{w:World}{R:Nat->Prop}
theorem KeyOk.Lt(K:KeyOk P kt kp){k:PV}(d:kp k)(s:RelP w R k u):∀{ks:List PV}{es:List MapEntry}{i:Nat}{r:Option Nat},RelPL w R ks (es.map (·.key))->b8 k ks i=Sh r->
  match r with
  |none=>(Instr.findAsking kt u es i).run P w= .ok Sl w
  |some j=>∃q e,j=i+q/\es[q]? =Sh e/\(Instr.findAsking kt u es i).run P w= .ok (Sh (j,e.val)) w
 |[],[],i,r,_,h=>by simp only[b8,Rq]at h;subst h;simp[Instr.findAsking]
 |[],_::_,_,_,h,_=>by simp[RelPL]at h
 |x::ks,[],_,_,h,_=>by simp[RelPL]at h
 | x::ks,e::es,i,r,h,hf=>by
   simp only[bP,RelPL,Tz]at h;obtain⟨y,ys,⟨rfl,rfl⟩,h1,h2⟩:=h;simp only[b8]at hf;split at hf
   .rename_i hb;cases hf;exact⟨0,e,O,O,by simp[Instr.findAsking,K.ask d s h1 hb,Result.andThen]⟩
   .rename_i hb;have ih:=K.Lt d s h2 hf;cases r with
    |none=>simpa[Instr.findAsking,K.ask d s h1 hb,Result.andThen]using ih
    | some j=>
      obtain⟨q,e',hj,he,hfn⟩:=ih;exact⟨q+1,e',Vf,by simpa using he,by simpa[Instr.findAsking,K.ask d s h1 hb,Result.andThen]using hfn⟩
   .cases hf
theorem KeyOk.find(K:KeyOk P kt kp){k:PV}(L:kp k)(G:RelP w R k u)(h:RelPL w R ks (es.map (·.key)))(H:b8 k ks 0=Sh r):
  match r with
  |none=>(Instr.findKey kt u es).run P w= .ok Sl w
  |some j=>∃e,es[j]? =Sh e/\(Instr.findKey kt u es).run P w= .ok (Sh (j,e.val)) w:=by
 obtain⟨d,hd,hs⟩:=K.und;obtain⟨cs,rfl⟩:=K.agg L;have s:=G;simp only[RelP]at G;obtain⟨us,rfl,_⟩:=G;have I:=K.Lt (i:=0) L s h H;cases es with
 | nil=>
   cases ks with
   |nil=>simp only[b8,Rq]at H;subst H;simp[Instr.findKey,run_underlying hd,Result.andThen,Instr.findNow]
   |cons _ _=>simp[RelPL]at h
 | cons e es=>
   have J:Instr.findNow d (.agg us.toArray) (e::es) 0=Sl:=by simp[Instr.findNow,hs]
   cases r with
   |none=>simpa[Instr.findKey,run_underlying hd,Result.andThen,J]using I
   | some j=>
     obtain⟨q,e',hj,he,hfn⟩:=I;have:j=q:=Vf;subst this;exact⟨e',he,by simpa[Instr.findKey,run_underlying hd,Result.andThen,J]using hfn⟩
end
section
variable {C:Ctx}{n:Nat}{σ:St}{a:Act}{w:World}{m:Gm}{R:Nat->Prop}{x y z:Operand}{dst:Option Tmp}{ty t kt et tk:TypeId}{pos:String}{after:Array Edge}{gd:Option (Nat×Bool)}{ks vs:List PV}{kp:PV->Prop}
theorem vw(X:SW C n σ a w m R)(K:KeyOk C.P kt kp){r:Option PV}(L:C.P.underlying t=Sh (.map kt et))(J:kp key)(Y:kJ n σ x ks vs)(Z:σ.ev n y= .pv key)(M:(C.P.info? et).map (·.zero)=Sh (Sh zv))(U:ofC zv=zp)(V:gy key ks vs=Sh r)(ok:Bool):
  ∃u,RelP w R (r.getD zp) u/\(Instr.lookup t (a.eval x) (a.eval y) ok).run C.P w= .ok (if ok then .tuple #[u,.bool r.isSome]else u) w:=by
 have d:=X.pv Z;have H:(zeroValue et).run C.P w= .ok zv w:=by
  cases hq:C.P.info? et with
  |none=>simp[hq]at M
  |some i=>simp[hq]at M;simp[zeroValue,typeInfo,hq,M]
 have s:RelP w R zp zv:=U▸xV w R zv;have G:=λe=>K.check (w:=w) (R:=R) e J d
 rcases Y.at X with⟨b,es,clock,ps,qs,e,hb,q2,q3,_,hsw⟩|⟨e,rfl,rfl⟩
 .obtain⟨f,I,hr⟩:=qk V;obtain⟨f',hf',hr'⟩:=hsw I hr;cases f' with
  | none=>
    simp only[oS,Rq]at hr';subst hr';have:=K.find J d q2 hf';simp only at this;refine⟨zv,s,?_⟩;simp[Instr.lookup,e,run_underlying L,run_map hb,G,this,H,Result.andThen]
  | some j=>
    obtain⟨e',he,hfn⟩:=K.find J d q2 hf';simp only[oS]at hr';cases hv:qs[j]? with
    |none=>rw[hv]at hr';cases hr'
    | some p=>
      rw[hv]at hr';simp at hr';subst hr';refine⟨e'.val,RelPL.at q3 hv (by simp[he]),?_⟩;simp[Instr.lookup,e,run_underlying L,run_map hb,G,hfn,Result.andThen]
 .simp only[gy,b8,Rq]at V;subst V;refine⟨zv,s,?_⟩;have I:=K.find (es:=[]) (r:=Sl) J d (ks:=[]) (by simp[RelPL]) (by simp only[b8]);simp only at I;simp[Instr.lookup,e,run_underlying L,G,I,H,Result.andThen]
theorem jv{r:Option PV}(K:KeyOk C.P kt kp)(s:C.P.underlying t=Sh (.map kt et))(G:kJ n σ x ks vs)(H:σ.ev n y= .pv key)(I:kp key)(J:(C.P.info? et).map (·.zero)=Sh (Sh zv))(d:ofC zv=zp)(L:gy key ks vs=Sh r)(M:r.getD zp=p)(U:r.isSome=b):
  XJ C n ⟨dst,.lookup t x y Sm,ty,pos,after,gd⟩ σ ⟨.pv (.tup [p,.bool b]),[],[]⟩:=
 .val λa w m R hw=>by
  obtain⟨u,hr,hrun⟩:=vw hw K s I G H J d L Sm;subst M U;refine⟨_,by simp only[execOp,Sem.run_bind,hrun,Result.andThen_ok];rfl,?_⟩;simp only[Rel,RelP];exact⟨[u,.bool r.isSome],O,RelPL.cons hr (RelPL.cons (by simp only[RelP]) RelPL.nil)⟩
theorem oC{r:Option PV}(K:KeyOk C.P kt kp)(s:C.P.underlying t=Sh (.map kt et))(G:kJ n σ x ks vs)(H:σ.ev n y= .pv key)(I:kp key)(J:(C.P.info? et).map (·.zero)=Sh (Sh zv))(d:ofC zv=zp)(L:gy key ks vs=Sh r)(M:r.getD zp=p):
  XJ C n ⟨dst,.lookup t x y S1,ty,pos,after,gd⟩ σ ⟨.pv p,[],[]⟩:=
 .val λa w m R hw=>by
  obtain⟨u,hr,hrun⟩:=vw hw K s I G H J d L S1;subst M;exact⟨u,by simp only[execOp,Sem.run_bind,hrun,Result.andThen_ok];rfl,by simpa only[Rel]using hr⟩
theorem bZ{ks' vs':List PV}(K:KeyOk C.P kt kp)(ht:C.P.underlying t=Sh (.map kt et))(X:σ.ev n x= .map id)(ho:σ.ob id=Sh (.mp ks vs))(hy:σ.ev n y= .pv key)(hz:σ.ev n z= .pv v)(hd:kp key)(V:b8 key ks 0=Sh r)
  (ad:kN key ks=ks') (ae:jS key v ks vs=vs'):XJ C n ⟨Sl,.mapUpdate t x y z,ty,pos,after,gd⟩ σ ⟨.pv .any,[(id,Sh (.mp ks' vs'))],[]⟩:=by
 rintro a w Q ⟨m,R,hw⟩;obtain⟨b,N,hm,es,clock,hb,q2,q3,q4⟩:=hw.live ho;have J:=hw.ev x;rw[X]at J;simp only[Rel]at J;have X:=J.2 b N hm;have d:=hw.pv hy;have I:=hw.pv hz;have Y:=λe=>K.check (w:=w) (R:=R) e hd d
 have af:b<w.heap.size:=(Ro.1 hb).1;have Z:∀(es':Array MapEntry)(clock':Nat),(Instr.mapUpdate t (a.eval x) (a.eval y) (a.eval z)).run C.P w= .ok () { w with heap:=w.heap.setIfInBounds b (.map es' clock') }->
   RelPL w R ks' (es'.toList.map (·.key))->RelPL w R vs' (es'.toList.map (·.val))->db es'.toList clock'->Oper.wp C.P ⟨Sl,.mapUpdate t x y z,ty,pos,after,gd⟩ a w (λa' w'=>∃σ',σ'=σ.app Sl ⟨.pv .any,[(id,Sh (.mp ks' vs'))],[]⟩/\SJ C n σ' a' w') Q:=by
  intro es' clock' hrun h1 h2 h3;unfold Oper.wp;have L:(execOp a.eval ⟨Sl,.mapUpdate t x y z,ty,pos,after,gd⟩).run C.P w= .ok .skip { w with heap:=w.heap.setIfInBounds b (.map es' clock') }:=by
   simp only[execOp,Sem.run_bind,hrun,Result.andThen_ok,Sem.run_pure]
  rw[L];refine⟨_,O,m,R,hw.turn hm { w with heap:=w.heap.setIfInBounds b (.map es' clock') } Vj (λk hk=>by simp only;rw[Th (λe=>hk e.symm)]) O O O (.mp ks' vs') λhR=>?_⟩;exact⟨es',clock',by simp only;rw[TE];simp[af],h1.mono hR,h2.mono hR,h3⟩
 cases r with
 | none=>
   have H:=K.find hd d q2 V;simp only at H;refine Z (es.push ⟨a.eval y,a.eval z,clock⟩) (clock+1) ?_ ?_ ?_ ?_
   .simp[Instr.mapUpdate,X,run_underlying ht,run_map hb,Y,H,eK _ hb,Result.andThen]
   .rw[<-ad];simp only[kN,V,UW,RG,bP,SD];exact q2.append (RelPL.cons d RelPL.nil)
   .rw[<-ae];simp only[jS,V,UW,RG,bP,SD];exact q3.append (RelPL.cons I RelPL.nil)
   .simp only[db,UW,RG,bP,SD];refine⟨Uk.2 ⟨q4.1,Vj,λx X y hy e=>?_⟩,λe he=>?_⟩
    .obtain⟨e',he',rfl⟩:=By.1 X;have:=q4.2 e' he';simp at hy;omega
    .rcases Rx.1 he with h|h
     .exact Nat.lt_succ_of_lt (q4.2 e h)
     .simp at h;subst h;exact Nat.lt_succ_self _
 | some j=>
   obtain⟨e',he,H⟩:=K.find hd d q2 V;obtain⟨q',x',hj',hx',hkq⟩:=mW V;simp only[RV]at hj';subst hj';have aa:=RelPL.at q2 hx' (by simp[he]:(es.toList.map (·.key))[j]? =Sh e'.key);have M:=zO hkq d aa;have U:j<es.size:=(Rp.1 he).1 |> λh=>by simpa using h
   have ab:es[j]? =Sh e':=by simpa using he
   have ac:es[j]=e':=by have:=Array.getElem?_eq_getElem U;rw[ab]at this;exact(TF this).symm
   have s:(es.modify j λe=>{ e with key:=a.eval y,val:=a.eval z }).toList=es.toList.set j ⟨a.eval y,a.eval z,e'.born⟩:=by
    apply UI;intro i;rw[UR,TQ,TU];by_cases e:j=i
    .subst e;simp[U,ac]
    .simp[e]
   refine Z (es.modify j λe=>{ e with key:=a.eval y,val:=a.eval z }) clock ?_ ?_ ?_ ?_
   .simp[Instr.mapUpdate,X,run_underlying ht,run_map hb,Y,H,eK _ hb,Result.andThen,Instr.keyThatStays,ab,M.2]
   .rw[s,<-ad];simp only[kN,V,SH];exact q2.set j d
   .rw[s,<-ae];simp only[jS,V,SH];exact q3.set j I
   .rw[s];have G:(es.toList.set j ⟨a.eval y,a.eval z,e'.born⟩).map (·.born)=es.toList.map (·.born):=by
     rw[SH];apply UI;intro i;rw[TU];by_cases e:j=i
     .subst e;simp[U,ac]
     .simp[e]
    refine⟨by rw[G];exact q4.1,λe hm=>?_⟩;have:e.born∈es.toList.map (·.born):=by rw[<-G];exact By.2 ⟨e,hm,O⟩
    obtain⟨e2,h2,h3⟩:=By.1 this;rw[<-h3];exact q4.2 e2 h2
def qb(k:PV)(ks l:List PV):List PV:=match b8 k ks 0 with
 |some (Sh j)=>l.eraseIdx j
 |_=>l
theorem RelPL.eraseIdx:∀{ps:List PV}{us:List Value}(j:Nat),RelPL w R ps us->RelPL w R (ps.eraseIdx j) (us.eraseIdx j)
 |[],_,_,h=>by simp only[RelPL]at h;subst h;simp[RelPL]
 |p::ps,_,0,h=>by simp only[RelPL]at h;obtain⟨u,vs,rfl,_,h2⟩:=h;simpa using h2
 | p::ps,_,j+1,h=>by
   simp only[RelPL]at h;obtain⟨u,vs,rfl,h1,h2⟩:=h;simpa using RelPL.cons h1 (RelPL.eraseIdx j h2)
theorem jB{ks' vs':List PV}(K:KeyOk C.P kt kp)(ht:C.P.underlying t=Sh (.map kt et))(X:σ.ev n x= .map id)(ho:σ.ob id=Sh (.mp ks vs))(hy:σ.ev n y= .pv key)(hd:kp key)(J:b8 key ks 0=Sh r)
  (U:qb key ks ks=ks') (V:qb key ks vs=vs'):XJ C n ⟨dst,.call { callee:= .builtin .delete,args:= #[x,y],argTypes:= #[t,tk] },ty,pos,after,gd⟩ σ ⟨.pv (.tup []),[(id,Sh (.mp ks' vs'))],[]⟩:=by
 rintro a w Q ⟨m,R,hw⟩;obtain⟨b,N,hm,es,clock,hb,q2,q3,q4⟩:=hw.live ho;have G:=hw.ev x;rw[X]at G;simp only[Rel]at G;have X:=G.2 b N hm;have d:=hw.pv hy;have L:=λe=>K.check (w:=w) (R:=R) e hd d
 have Y:b<w.heap.size:=(Ro.1 hb).1;have M:∀es':Array MapEntry,(Builtin.delete_ #[t,tk] ty #[a.eval x,a.eval y]).run C.P w= .ok (.tuple #[]) { w with heap:=w.heap.setIfInBounds b (.map es' clock) }->
   RelPL w R ks' (es'.toList.map (·.key))->RelPL w R vs' (es'.toList.map (·.val))->db es'.toList clock->Oper.wp C.P ⟨dst,.call { callee:= .builtin .delete,args:= #[x,y],argTypes:= #[t,tk] },ty,pos,after,gd⟩ a w (λa' w'=>∃σ',σ'=σ.app dst ⟨.pv (.tup []),[(id,Sh (.mp ks' vs'))],[]⟩/\SJ C n σ' a' w') Q:=by
  intro es' hrun h1 h2 h3;unfold Oper.wp;have H:(execOp a.eval ⟨dst,.call { callee:= .builtin .delete,args:= #[x,y],argTypes:= #[t,tk] },ty,pos,after,gd⟩).run C.P w= .ok (.value (.tuple #[])) { w with heap:=w.heap.setIfInBounds b (.map es' clock) }:=by
   simp only[execOp,resolve,invoke,builtin,Sem.run_bind,Sem.run_pure,Result.andThen_ok,Ur,bP,SD,hrun]
  rw[H];refine⟨_,O,m,R,?_⟩;rw[Rc];refine SW.put (hw.turn hm { w with heap:=w.heap.setIfInBounds b (.map es' clock) } Vj (λk hk=>by simp only;rw[Th (λe=>hk e.symm)]) O O O (.mp ks' vs') λhR=>?_) dst ?_
  .exact⟨es',clock,by simp only;rw[TE];simp[Y],h1.mono hR,h2.mono hR,h3⟩
  .simp only[Rel,RelP];exact⟨[],O,RelPL.nil⟩
 cases r with
 | none=>
   have s:=K.find hd d q2 J;simp only at s;refine M es ?_ ?_ ?_ q4
   .simp[Builtin.delete_,X,run_underlying ht,run_map hb,L,s,eK _ hb,Result.andThen]
   .rw[<-U];simp only[qb,J];exact q2
   .rw[<-V];simp only[qb,J];exact q3
 | some j=>
   obtain⟨e',he,s⟩:=K.find hd d q2 J;have Z:j<es.size:=(Rp.1 he).1 |> λh=>by simpa using h
   have I:(es.eraseIdxIfInBounds j).toList=es.toList.eraseIdx j:=by
    unfold Array.eraseIdxIfInBounds;rw[dif_pos Z];simp
   refine M (es.eraseIdxIfInBounds j) ?_ ?_ ?_ ?_
   .simp[Builtin.delete_,X,run_underlying ht,run_map hb,L,s,eK _ hb,Result.andThen]
   .rw[<-U,I,Go.ChangeMaps.map_eraseIdx];simp only[qb,J];exact q2.eraseIdx j
   .rw[<-V,I,Go.ChangeMaps.map_eraseIdx];simp only[qb,J];exact q3.eraseIdx j
   .rw[I];exact⟨((List.eraseIdx_sublist _ _).map _).nodup q4.1,λe hm=>q4.2 e ((List.eraseIdx_sublist _ _).subset hm)⟩
def gI(cur ks vs:List PV)(b:Bool)(rest cur' ks' vs':List PV):Prop:=
 (b=S1/\ks=[]/\rest=[]/\cur'=cur/\ks'=ks/\vs'=vs)\/
 (b=Sm/\∃i k v,ks[i]? =Sh k/\vs[i]? =Sh v/\rest=[k,v]/\cur'=[k,v]/\ks'=ks.eraseIdx i/\vs'=vs.eraseIdx i)
theorem gI.of{α:Type}{f g:α->PV}{l:List α}{cur' ks' vs':List PV}(h:gI cur (l.map f) (l.map g) b rest cur' ks' vs'):
  (b=S1/\l=[]/\rest=[]/\cur'=cur/\ks'=l.map f/\vs'=l.map g)\/(b=Sm/\∃l1 x l2,l=l1++x::l2/\rest=[f x,g x]/\cur'=[f x,g x]/\ks'=(l1++l2).map f/\vs'=(l1++l2).map g):=by
 rcases h with⟨h1,h2,h3,h4,h5,h6⟩|⟨h1,i,k,v,h2,h3,h4,h5,h6,h7⟩
 .exact .inl ⟨h1,by simpa using h2,h3,h4,h5,h6⟩
 .refine .inr ⟨h1,?_⟩;rw[TD]at h2 h3;cases hx:l[i]? with
  |none=>rw[hx]at h2;cases h2
  | some x=>
    rw[hx]at h2 h3;simp only[Tt,Rq]at h2 h3;subst h2 h3;obtain⟨hi,rfl⟩:=Rp.1 hx;have d:l.eraseIdx i=l.take i++l.drop (i+1):=List.eraseIdx_eq_take_drop_succ l i;exact⟨l.take i,l[i],l.drop (i+1),by rw[<-RF hi,Sb],h4,h5,by rw[h6,<-Go.ChangeMaps.map_eraseIdx,d],by rw[h7,<-Go.ChangeMaps.map_eraseIdx,d]⟩
theorem fq(id:Nat)(I:C.P.underlying t=Sh (.map kt et))(J:σ.ev n x= .pv (.mp ks vs))(H:σ.av id=Sm):XJ C n ⟨dst,.range t x,ty,pos,after,gd⟩ σ ⟨.ptr id 0,[(id,Sh (.mi [] ks vs))],[id]⟩:=by
 rintro a w Q ⟨m,R,hw⟩;have s:=hw.pv J;simp only[RelP]at s;obtain⟨mb,s,hRm,es,clock,l,hb,q2,q3,q4,q5⟩:=s;unfold Oper.wp;have d:(execOp a.eval ⟨dst,.range t x,ty,pos,after,gd⟩).run C.P w= .ok (.value (.pointer (Sh ⟨w.heap.size,0,Sl⟩))) (w.alloc (.mapIter (Sh mb) clock #[] clock)):=by
  simp only[execOp,s,Sem.run_bind,run_range_map w t kt et mb es clock I hb,Result.andThen_ok];rfl
 rw[d];refine⟨_,O,upd m id (Sh (w.heap.size,0)),R,?_⟩;rw[Rc];refine SW.put (hw.K8 H (.mapIter (Sh mb) clock #[] clock) 0 (.mi [] ks vs) ?_) dst ?_
 .intro w' m' av' hR hb';have G:(es.toList.filter λe=> !(#[]:Array Nat).contains e.born)=es.toList:=U0.2 λe _=>by simp
  exact⟨mb,es,clock, #[],l,hRm,(hR _ hRm).2.trans hb,q4,hb',by rw[G];exact q5,q2.mono hR,q3.mono hR,.inl O⟩
 .simp only[Rel];refine⟨by simp[avL],λb N e=>?_⟩;rw[aA]at e;cases e;rfl
theorem ke{e:MapEntry}:∀{l:List MapEntry}{i:Nat},(l.map (·.born)).Nodup->l[i]? =Sh e->l.filter (λx=> !(x.born==e.born))=l.eraseIdx i
 |[],_,_,h=>by simp at h
 | x::l,0,hn,h=>by
   simp only[List.getElem?_cons_zero,Rq]at h;subst h;simp only[bP,Sx,By,not_exists,not_and]at hn;simp only[TL,S9,Bool.not_true,Sz,Up,List.eraseIdx_cons_zero];exact U0.2 λy hy=>by simpa using hn.1 y hy
 | x::l,i+1,hn,h=>by
   simp only[List.getElem?_cons_succ]at h;simp only[bP,Sx,By,not_exists,not_and]at hn;have hne:x.born≠e.born:=λd=>hn.1 e (SC h) d.symm
   simp only[TL,List.eraseIdx_cons_succ];rw[AT (by simpa using hne),ke hn.2 h]
theorem im{ks vs:List PV}{K:St->Prop}(hx:σ.ev n x= .ptr id 0)(ho:σ.ob id=Sh (.mi cur ks vs))
  (V:∀b rest cur' ks' vs',gI cur ks vs b rest cur' ks' vs'->K (σ.app dst ⟨.pv (.tup (.bool b::rest)),[(id,Sh (.mi cur' ks' vs'))],[]⟩)):
  OJ C n ⟨dst,.next x S1,ty,pos,after,gd⟩ K σ:=by
 rintro a w Q ⟨m,R,hw⟩;obtain⟨r,N,hm,mb,es,clock,seen,l,hRm,hb,hst,hr,q0,q5,q6,q7⟩:=hw.live ho;have G:=hw.ev x;rw[hx]at G;simp only[Rel]at G;have I:=G.2 r N hm;have J:(leftOf es seen).toList=es.toList.filter λe=> !seen.contains e.born:=by unfold leftOf;simp
 unfold Oper.wp;rcases Go.run_next_at (P:=C.P) w ty r mb clock clock seen es clock hr hb hst.2 (BY _)with⟨h0,hrun⟩|⟨e,he,w1,hal,hrun⟩
 .have hrun':(execOp a.eval ⟨dst,.next x S1,ty,pos,after,gd⟩).run C.P w= .ok (.value (.tuple #[.bool S1])) w:=by
   simp only[execOp,I,Sem.run_bind,hrun,Result.andThen_ok];rfl
  rw[hrun'];have X:(es.toList.filter λe=> !seen.contains e.born)=[]:=by
   rw[<-J];exact TV.1 (by rw[RE];exact h0)
  have Y:l=[]:=by rw[X]at q0;exact List.Perm.eq_nil q0
  have Z:ks=[]:=by
   rw[Y]at q5;have:=q5.length;simp only[SD,Tx]at this;exact TV.1 this.symm
  refine⟨_,V S1 [] cur ks vs (.inl ⟨O,Z,O,O,O,O⟩),m,R,?_⟩;rw[Rc];refine SW.put (hw.turn hm w O (λ_ _=>rfl) O O O (.mi cur ks vs) λs=>?_) dst ?_
  .exact⟨mb,es,clock,seen,l,hRm,hb,hst,hr,q0,q5,q6,q7⟩
  .simp only[Rel,RelP];exact⟨[.bool S1],O,by simp[RelPL,RelP]⟩
 .have hrun':(execOp a.eval ⟨dst,.next x S1,ty,pos,after,gd⟩).run C.P w= .ok (.value (.tuple #[.bool Sm,e.key,e.val])) (setBlock w1 r (.mapIter (Sh mb) clock (seen.push e.born) clock)):=by
   simp only[execOp,I,Sem.run_bind,hrun,Result.andThen_ok];rfl
  rw[hrun'];rw[J]at he;have aa:e∈l:=q0.mem_iff.2 he;obtain⟨i,hi⟩:=SU aa;have ab:e∈es.toList:=(Sj.1 he).1;have L:=q5.length;have H:=q6.length;simp only[OF]at L H;have aj:i<l.length:=(Rp.1 hi).1;obtain⟨k,hkk⟩:∃k,ks[i]? =Sh k:=⟨ks[i]'Vf,Hj _⟩;obtain⟨v,hvv⟩:∃v,vs[i]? =Sh v:=⟨vs[i]'Vf,Hj _⟩;have M:=RelPL.at q5 hkk (by rw[TD,hi];rfl);have U:=RelPL.at q6 hvv (by rw[TD,hi];rfl);have ac:((es.toList.filter λe=> !seen.contains e.born).map (·.born)).Nodup:=(SZ.map _).nodup hst.1;have ad:(l.map (·.born)).Nodup:=(q0.map _).nodup_iff.2 ac;have ae:(l.eraseIdx i).Perm (es.toList.filter λx=> !(seen.push e.born).contains x.born):=by
   have d:(es.toList.filter λx=> !(seen.push e.born).contains x.born)=(es.toList.filter λe=> !seen.contains e.born).filter (λx=> !(x.born==e.born)):=by
    rw[List.filter_filter];apply List.filter_congr;intro x _;rw[contains_push];cases seen.contains x.born<;>cases (x.born==e.born)<;>rfl
   rw[d,<-ke ad hi];exact q0.filter _
  have af:r<w.heap.size:=(Ro.1 hr).1;have ak:r≠mb:=λe=>by rw[e,hb]at hr;cases hr
  refine⟨_,V Sm [k,v] [k,v] (ks.eraseIdx i) (vs.eraseIdx i) (.inr ⟨O,i,k,v,hkk,hvv,O,O,O,O⟩),m,R,?_⟩;rw[Rc];have d:w1.heap=w.heap/\w1.os=w.os/\w1.tape=w.tape/\w1.output=w.output:=by rcases hal with rfl|rfl<;>exact⟨O,O,O,O⟩
  refine SW.put (hw.turn hm (setBlock w1 r (.mapIter (Sh mb) clock (seen.push e.born) clock)) (by simp[setBlock,d.1]) (λk V=>by simp only[setBlock,d.1];rw[Th (λe=>V e.symm)]) d.2.1 d.2.2.1 d.2.2.2 (.mi [k,v] (ks.eraseIdx i) (vs.eraseIdx i)) λs=>?_) dst ?_
  .refine⟨mb,es,clock,seen.push e.born,l.eraseIdx i,hRm,(s _ hRm).2.trans hb,hst,?_,ae,?_,?_,.inr ⟨e,ab,Vj,?_⟩⟩
   .show(w1.heap.setIfInBounds r _)[r]? =_;rw[d.1,TE];simp[af]
   .rw[Go.ChangeMaps.map_eraseIdx];exact(q5.eraseIdx i).mono s
   .rw[Go.ChangeMaps.map_eraseIdx];exact(q6.eraseIdx i).mono s
   .exact RelPL.cons (M.mono s) (RelPL.cons (U.mono s) RelPL.nil)
  .have s:∀b,R b->R b/\(setBlock w1 r (.mapIter (Sh mb) clock (seen.push e.born) clock)).heap[b]? =w.heap[b]? :=λb hb'=>⟨hb',by
    have ag:b≠r:=λe=>(hw.hr.own id r N hm).2.1 (e▸hb')
    simp only[setBlock,d.1];rw[Th (λe=>ag e.symm)]⟩
   simp only[Rel,RelP];exact⟨[.bool Sm,e.key,e.val],O,RelPL.cons (by simp only[RelP]) (RelPL.cons (M.mono s) (RelPL.cons (U.mono s) RelPL.nil))⟩
theorem fo{k:PV}(I:σ.ev n x= .ptr id 0)(J:σ.ob id=Sh (.mi [k,v] ks vs)):
  XJ C n ⟨dst,.entry x,ty,pos,after,gd⟩ σ ⟨.pv (.tup [k,v]),[],[]⟩:=
 .val λa w m R hw=>by
  obtain⟨r,N,hm,mb,es,clock,seen,l,hRm,hb,hst,hr,q0,q5,q6,q7⟩:=hw.live J;have d:=hw.ev x;rw[I]at d;simp only[Rel]at d;have G:=d.2 r N hm;obtain⟨e,hem,hback,hrel⟩:=q7.resolve_left Vj;have H:es.find? (·.born==e.born)=Sh e:=by rw[<-Array.find?_toList];exact find_born e es.toList hst.1 hem
  have s:(Instr.entry (.pointer (Sh ⟨r,0,Sl⟩))).run C.P w= .ok (.tuple #[e.key,e.val]) w:=by
   simp only[Instr.entry,getObj,Sem.run_bind,Sem.run,hr,hb,Result.andThen,hback,bne_self_eq_false,Sz,Up,H];rfl
  simp only[RelPL]at hrel;obtain⟨u1,us1,e1,h1,u2,us2,e2,h2,e3⟩:=hrel;subst e2 e3;simp only[Tz,and_true]at e1;obtain⟨rfl,rfl⟩:=e1;refine⟨.tuple #[e.key,e.val],by simp only[execOp,G,Sem.run_bind,s,Result.andThen_ok];rfl,?_⟩;simp only[Rel,RelP];exact⟨[e.key,e.val],O,RelPL.cons h1 (RelPL.cons h2 RelPL.nil)⟩
end
mutual
def V.mpV(id:Nat)(p:PV):V->V
 | .map i=>bif Nat.beq i id then .pv p else .map i
 | .agg vs=> .agg (V.mpL id p vs)
 | .tup vs=> .tup (V.mpL id p vs)
 | .fn f a b=> .fn f (V.mpL id p a) (V.mpL id p b)
 | .pv q=> .pv q
 | .ptr i o=> .ptr i o
 | .osl i s k=> .osl i s k
 | .tsl i s k=> .tsl i s k
 | .gsl i s k=> .gsl i s k
def V.mpL(id:Nat)(p:PV):List V->List V
 |[]=>[]
 |v::vs=>V.mpV id p v::V.mpL id p vs
end
def Ob.mpO(id:Nat)(p:PV):Ob->Ob
 | .mix t vs=> .mix t (V.mpL id p vs)
 | .cells t c=> .cells t c
 | .gro t c=> .gro t c
 | .mp ks vs=> .mp ks vs
 | .it s q=> .it s q
 | .fro s q=> .fro s q
 | .mi c ks vs=> .mi c ks vs
theorem Ob.Jo(id:Nat)(p:PV):∀o:Ob,(o.mpO id p).real=o.real
 | .cells _ _=>rfl
 | .mix _ _=>rfl
 | .gro _ []=>rfl
 | .gro _ (_::_)=>rfl
 | .mp _ _=>rfl
 | .it _ _=>rfl
 | .fro _ _=>rfl
 | .mi _ _ _=>rfl
theorem I1(id:Nat)(p:PV):∀o:Option Ob,bI (o.map (Ob.mpO id p))=bI o
 |none=>rfl
 |some o=>Ob.Jo id p o
def St.pubM(σ:St)(id:Nat)(p:PV):St:=⟨λt=>V.mpV id p (σ.sl t),λi=>bif Nat.beq i id then Sl else(σ.ob i).map (Ob.mpO id p),σ.av⟩
section
variable {w:World}{m m':Gm}{av:Av}{R R':Nat->Prop}
theorem l7(id:Nat)(p:PV):∀vs:List V,(V.mpL id p vs).length=vs.length
 |[]=>rfl
 |_::vs=>by simp[V.mpL,l7 id p vs]
mutual
theorem Rel.mpV(d:∀b,R b->R' b/\w.heap[b]? =w.heap[b]?)(G:∀i x,m' i=Sh x->m i=Sh x)(H:∀u,Rel w m av R (.map id) u->RelP w R' p u):
  ∀(v:V)(u:Value),Rel w m av R v u->Rel w m' av R' (V.mpV id p v) u
 | .map i,u,h=>by
   simp only[V.mpV];cases hb:Nat.beq i id with
   |true=>have:=aJ hb;subst this;simp only[Sy,Rel];exact H u h
   |false=>simp only[RR];exact h.mono d (λi x _ e=>G i x e) (λ_ e=>e)
 | .agg vs,u,h=>by
   simp only[Rel,V.mpV]at h ⊢;obtain⟨us,e,h⟩:=h;exact⟨us,e,RelL.mpL d G H vs us h⟩
 | .tup vs,u,h=>by
   simp only[Rel,V.mpV]at h ⊢;obtain⟨us,e,h⟩:=h;exact⟨us,e,RelL.mpL d G H vs us h⟩
 | .fn f a b,u,h=>by
   simp only[Rel,V.mpV]at h ⊢;obtain⟨us,vs,e,ha,hb⟩:=h;exact⟨us,vs,e,RelL.mpL d G H a us ha,RelL.mpL d G H b vs hb⟩
 | .pv q,u,h=>by simp only[V.mpV];exact h.mono d (λi x _ e=>G i x e) (λ_ e=>e)
 | .ptr i o,u,h=>by simp only[V.mpV];exact h.mono d (λi x _ e=>G i x e) (λ_ e=>e)
 | .osl i s k,u,h=>by simp only[V.mpV];exact h.mono d (λi x _ e=>G i x e) (λ_ e=>e)
 | .tsl i s k,u,h=>by simp only[V.mpV];exact h.mono d (λi x _ e=>G i x e) (λ_ e=>e)
 | .gsl i s k,u,h=>by simp only[V.mpV];exact h.mono d (λi x _ e=>G i x e) (λ_ e=>e)
theorem RelL.mpL(d:∀b,R b->R' b/\w.heap[b]? =w.heap[b]?)(s:∀i x,m' i=Sh x->m i=Sh x)(G:∀u,Rel w m av R (.map id) u->RelP w R' p u):
  ∀(vs:List V)(us:List Value),RelL w m av R vs us->RelL w m' av R' (V.mpL id p vs) us
 |[],_,h=>by simpa only[RelL,V.mpL]using h
 | c::vs,_,h=>by
   simp only[RelL,V.mpL]at h ⊢;obtain⟨u,us,e,ha,hb⟩:=h;exact⟨u,us,e,Rel.mpV d s G c u ha,RelL.mpL d s G vs us hb⟩
end
end
theorem yh{vs:List PV}(L:ks.length=vs.length)(d:RelPL w R ps (es.map (·.key)))(s:RelPL w R qs (es.map (·.val)))(M:(ps.zip qs).Perm (ks.zip vs)):∃l:List MapEntry,l.Perm es/\RelPL w R ks (l.map (·.key))/\RelPL w R vs (l.map (·.val)):=by
 generalize hA:ps.zip qs=A at M;generalize hB:ks.zip vs=B at M;have G:ps=A.map (·.1):=by rw[<-hA,U5];have:=d.length;have:=s.length;simp at *; omega
 have H:qs=A.map (·.2):=by rw[<-hA,List.map_snd_zip];have:=d.length;have:=s.length;simp at *; omega
 have I:ks=B.map (·.1):=by rw[<-hB,U5 (SQ L)]
 have J:vs=B.map (·.2):=by rw[<-hB,List.map_snd_zip (SQ L.symm)]
 rw[I,J];rw[G]at d;rw[H]at s;clear hA hB G H I J L;induction M generalizing es with
 |nil=>exact⟨es,RY _,d,s⟩
 | cons a _ ih=>
   cases es with
   |nil=>simp[RelPL]at d
   | cons e es=>
     simp only[bP,RelPL,Tz]at d s;obtain⟨_,_,⟨rfl,rfl⟩,a1,a2⟩:=d;obtain⟨_,_,⟨rfl,rfl⟩,b1,b2⟩:=s;obtain⟨l,c1,c2,c3⟩:=ih b2 a2;exact⟨e::l,List.Perm.cons _ c1,RelPL.cons a1 c2,RelPL.cons b1 c3⟩
 | swap a b A=>
   cases es with
   |nil=>simp[RelPL]at d
   | cons e es=>
     cases es with
     | nil=>
       simp only[bP,SD,RelPL,Tz]at d;obtain⟨_,_,⟨_,rfl⟩,_,_,_,h,_⟩:=d;cases h
     | cons e' es=>
       simp only[bP,RelPL,Tz]at d s;obtain⟨_,_,⟨rfl,rfl⟩,a1,_,_,⟨rfl,rfl⟩,a2,a3⟩:=d;obtain⟨_,_,⟨rfl,rfl⟩,b1,_,_,⟨rfl,rfl⟩,b2,b3⟩:=s;exact⟨e'::e::es,List.Perm.swap _ _ _,RelPL.cons a2 (RelPL.cons a1 a3),RelPL.cons b2 (RelPL.cons b1 b3)⟩
 | trans _ _ ih1 ih2=>
   obtain⟨l1,c1,c2,c3⟩:=ih1 s d;obtain⟨l2,d1,d2,d3⟩:=ih2 c3 c2;exact⟨l2,d1.trans c1,d2,d3⟩
theorem St.cw{σ:St}{vs:List PV}(id:Nat)(X:σ.ob id=Sh (.mp ps qs))(Y:ks.length=vs.length)(Z:(ps.zip qs).Perm (ks.zip vs)):σ.le (σ.pubM id (.mp ks vs)):=by
 rintro C n a w ⟨m,R,hw⟩;have U:=hw.drop id;have d:∀i x,upd m id Sl i=Sh x->m i=Sh x/\i≠id:=λi x e=>by
  by_cases hi:i=id
  .subst hi;rw[aA]at e;cases e
  .rw[aR _ _ hi]at e;exact⟨e,hi⟩
 let R':Nat->Prop:=λq=>R q\/∃N,m id=Sh (q,N)
 have G:∀b,R b->R' b/\w.heap[b]? =w.heap[b]? :=λb hb=>⟨.inl hb,O⟩
 obtain⟨b0,N0,hm0,es,clock,q1,q2,q3,q4⟩:=hw.live X;have V:∀u,Rel w m σ.av R (.map id) u->RelP w R' (.mp ks vs) u:=by
  intro u h;simp only[Rel]at h;have:=h.2 b0 N0 hm0;simp only[RelP];obtain⟨l,c1,c2,c3⟩:=yh Y q2 q3 Z;exact⟨b0,this,.inr ⟨N0,hm0⟩,es,clock,l,q1,c2.mono G,c3.mono G,q4,c1⟩
 have H:∀i x,upd m id Sl i=Sh x->m i=Sh x:=λi x e=>(d i x e).1
 have L:∀i,(σ.pubM id (.mp ks vs)).ob i=bif Nat.beq i id then Sl else(σ.ob i).map (Ob.mpO id (.mp ks vs)):=λ_=>rfl
 have M:(σ.pubM id (.mp ks vs)).ob id=Sl:=by rw[L];simp
 have I:∀i,i≠id->(σ.pubM id (.mp ks vs)).ob i=(σ.ob i).map (Ob.mpO id (.mp ks vs)):=λi hi=>by
  rw[L];have:Nat.beq i id=S1:=by cases hb:Nat.beq i id;rfl;exact absurd (aJ hb) hi
  rw[this];rfl
 refine⟨upd m id Sl,R',⟨?_,?_,?_,U.hr.inj,?_,?_,?_,λq hq=> .inl (hw.hr.r0 q hq),hw.hr.frame,U.hr.keep,U.hr.res⟩,hw.df,hw.sz,?_⟩
 .intro i;by_cases e:i=id
  .subst e;rw[aA,M];rfl
  .rw[aR _ _ e,I i e,I1];exact hw.hr.dom i
 .intro i hi;by_cases e:i=id
  .subst e;exact M
  .rw[I i e,hw.hr.free i hi];rfl
 .intro i o' b N h1 h2;obtain⟨h2',e⟩:=d i _ h2;rw[I i e]at h1;cases ho':σ.ob i with
  |none=>rw[ho']at h1;cases h1
  | some o2=>
    rw[ho']at h1;simp only[Tt,Rq]at h1;subst h1;have J:=hw.hr.obj i o2 b N ho' h2';cases o2 with
    |cells T c=>obtain⟨arr,q1,q2,q3,q4⟩:=J;exact⟨arr,q1,q2,q3,q4.mono G⟩
    |gro T c=>obtain⟨arr,q1,q2,q3,q4⟩:=J;exact⟨arr,q1,q2,q3,q4.mono G⟩
    |mp ks vs=>obtain⟨es,clock,q1,q2,q3,q4⟩:=J;exact⟨es,clock,q1,q2.mono G,q3.mono G,q4⟩
    |it s p=>exact J
    |fro s p=>exact J
    |mi c ks vs=>exact vP.mono G O J
    | mix T c=>
      obtain⟨arr,q1,q2,q3,q4⟩:=J;refine⟨arr,q1,q2,by rw[l7];exact q3,?_⟩;rw[l7];exact q4.mpL G H V
 .intro i b N h1;obtain⟨h2,h3,h4⟩:=hw.hr.own i b N (d i _ h1).1;refine⟨h2,?_,h4⟩;rintro(h5|⟨N',h5⟩)
  .exact h3 h5
  .exact(d i _ h1).2 (hw.hr.inj i id b N N' (d i _ h1).1 h5)
 .rintro q (hq|⟨N,hq⟩)
  .exact hw.hr.rsz q hq
  .exact(hw.hr.own id q N hq).1
 .rintro q (hq|⟨N,hq⟩)
  .exact hw.hr.rfr q hq
  .rcases(hw.hr.own id q N hq).2.2 with h|h
   .exact .inr (.inr h)
   .exact .inr (.inl h)
 .intro t ht;exact(hw.sl t ht).mpV G H V
end
section
open Go.RowKit Mm
abbrev dr(p:Par):PV:= .agg (pT p)
abbrev ppC(x:PP):List PV:=[.int .i64 x.1.f,.str x.1.c,.int .i64 x.2.f,.str x.2.c]
abbrev ppP(x:PP):PV:= .agg (ppC x)
theorem jl(s t:ByteArray):(s==t)=(s.toList==t.toList):=by
 cases h:s==t with
 |true=>have e:=gZ h;subst e;simp
 | false=>cases h2:s.toList==t.toList with
   |false=>rfl
   |true=>have e:=bytes_inj (a:=s) (b:=t) (by simpa using h2);subst e;rw[gP]at h;cases h
theorem c7(p q:Par):keq (dr p) (dr q)=Sh (p==q):=by
 show Sh ((p.f==q.f)&&((p.c==q.c)&&Sm))=Sh (p.f==q.f&&p.c.toList==q.c.toList);rw[jl,Ue]
theorem ft(x y:PP):keq (ppP x) (ppP y)=Sh (x==y):=by
 show Sh ((x.1.f==y.1.f)&&((x.1.c==y.1.c)&&((x.2.f==y.2.f)&&((x.2.c==y.2.c)&&Sm))))=Sh ((x.1.f==y.1.f&&x.1.c.toList==y.1.c.toList)&&(x.2.f==y.2.f&&x.2.c.toList==y.2.c.toList));rw[jl,jl,Ue,Bool.and_assoc]
theorem lP{i:Int}{r:List PV}(h:∃b,bp (.int .i64 i:: .str c::r) l=Sh b):∃i' c' l',l= .int .i64 i':: .str c'::l'/\∃b,bp r l'=Sh b:=by
 obtain⟨b,h⟩:=h;rcases l with _|⟨a,l⟩
 .simp[bp]at h
 .cases a<;>simp only[bp,reduceCtorEq]at h;rename_i k v;cases hk:kEq IntKind.i64 k with
  |false=>rw[hk]at h;cases h
  | true=>
    have:=eu hk;subst this;rw[hk]at h;rcases l with _|⟨d,l⟩
    .simp[bp]at h
    .cases d<;>simp only[bp,Option.map_none,reduceCtorEq,Sy]at h;rename_i s;cases hr:bp r l with
     |none=>rw[hr]at h;simp at h
     |some b'=>exact⟨v,s,l,O,b',hr⟩
theorem vK(h:bp [] l=Sh b):l=[]:=by
 cases l with
 |nil=>rfl
 |cons a l=>cases a<;>simp[bp]at h
theorem DS{p:Par}{x:PV}(h:keq (dr p) x=Sh b):∃q:Par,x=dr q:=by
 cases x<;>simp only[keq,reduceCtorEq]at h;obtain⟨i1,c1,l1,rfl,b1,h1⟩:=lP ⟨b,h⟩;rw[vK h1];exact⟨⟨i1,c1⟩,O⟩
theorem Je{p:PP}{x:PV}(h:keq (ppP p) x=Sh b):∃q:PP,x=ppP q:=by
 cases x<;>simp only[keq,reduceCtorEq]at h;obtain⟨i1,c1,l1,rfl,h1⟩:=lP ⟨b,h⟩;obtain⟨i2,c2,l2,rfl,b2,h2⟩:=lP h1;rw[vK h2];exact⟨(⟨i1,c1⟩,⟨i2,c2⟩),O⟩
theorem Hg{x:PP}(h:RelP w R (ppP x) u):u= .agg #[.int .i64 x.1.f,.string x.1.c,.int .i64 x.2.f,.string x.2.c]:=by
 simpa[RelP,RelPL]using h
theorem eqPP(k:Nat)(a b a' b':Int)(s t s' t':ByteArray)(w:World):(Op.equalIn (k+3) 238 (.agg #[.int .i64 a,.string s,.int .i64 a',.string s']) (.agg #[.int .i64 b,.string t,.int .i64 b',.string t'])).run prog w= .ok ((a==b&&s.toList==t.toList)&&(a'==b'&&s'.toList==t'.toList)) w:=by
 have hS:prog.underlying 238=Sh (.struct (prog.fieldsOf 238)):=Vg;rw[run_equalIn_agg w (k+2) 238 _ _ hS Tryz.stoodInHeld238];have d:=λw=>J3 k a b s t w
 have G:=λw=>J3 k a' b' s' t' w
 simp only[Program.fieldsOf,underlying238]
 go_simp
 by_cases h1:a=b<;>by_cases d:s.toList=t.toList<;>by_cases h4:a'=b'<;>by_cases h5:s'.toList=t'.toList<;>simp[h1,d,h4,h5]
theorem Qm(k:Nat)(e:Bool)(a:Int)(s:ByteArray)(w:World):(Instr.checkKey e (k+2) 147 (.agg #[.int .i64 a,.string s])).run prog w= .ok () w:=by
 have d:=underlying147;have G:=underlying3;have H:=underlying9;have I:∀(v:Value)(w:World),(Instr.checkKey e (k+1) 3 v).run prog w= .ok () w:=λv w=>by unfold Instr.checkKey;simp[run_underlying G,Result.andThen]
 have J:∀(v:Value)(w:World),(Instr.checkKey e (k+1) 9 v).run prog w= .ok () w:=λv w=>by unfold Instr.checkKey;simp[run_underlying H,Result.andThen]
 unfold Instr.checkKey;simp only[Sem.run_bind,run_underlying d,Result.andThen]
 go_simp
theorem ckPP(k:Nat)(e:Bool)(a b:Int)(s t:ByteArray)(w:World):(Instr.checkKey e (k+3) 238 (.agg #[.int .i64 a,.string s,.int .i64 b,.string t])).run prog w= .ok () w:=by
 have d:=underlying238;have G:=λa s w=>Qm k e a s w
 unfold Instr.checkKey;simp only[Sem.run_bind,run_underlying d,Result.andThen]
 go_simp
theorem kZ:KeyOk prog 147 (λk=>∃p:Par,k=dr p) where
 und:=⟨_,underlying147,λus y=>by cases y<;>rfl⟩
 check:=by
  rintro w R k u e ⟨p,rfl⟩ h;rw[pd h];exact Qm 9998 e _ _ w
 ask:=by
  rintro w R k x u y b ⟨p,rfl⟩ h1 h2 h3;obtain⟨q,rfl⟩:=DS h3;rw[c7]at h3;cases h3;rw[pd h1,pd h2];exact J3 9998 p.f q.f p.c q.c w
 agg:=by rintro k ⟨p,rfl⟩;exact⟨_,O⟩
theorem rZ:KeyOk prog 238 (λk=>∃x:PP,k=ppP x) where
 und:=⟨_,underlying238,λus y=>by cases y<;>rfl⟩
 check:=by
  rintro w R k u e ⟨p,rfl⟩ h;rw[Hg h];exact ckPP 9997 e _ _ _ _ w
 ask:=by
  rintro w R k x u y b ⟨p,rfl⟩ h1 h2 h3;obtain⟨q,rfl⟩:=Je h3;rw[ft]at h3;cases h3;rw[Hg h1,Hg h2];exact eqPP 9997 p.1.f q.1.f p.2.f q.2.f p.1.c q.1.c p.2.c q.2.c w
 agg:=by rintro k ⟨p,rfl⟩;exact⟨_,O⟩
section
variable {K:Type}[BEq K][LawfulBEq K]
def aI(f:K->PV)(l:List (K×Rat)):List PV:=l.map λe=>f e.1
def aN(l:List (K×Rat)):List PV:=l.map λe=>frP e.2
theorem fb{f:K->PV}(d:∀a b,keq (f a) (f b)=Sh (a==b))(k:K):∀(l:List (K×Rat))(i:Nat),b8 (f k) (aI f l) i=Sh ((l.findIdx? (λe=>e.1==k)).map (i+ ·))
 |[],i=>rfl
 | e::l,i=>by
   have hs:(k==e.1)=(e.1==k):=by
    cases h:k==e.1 with
    |true=>rw[eq_of_beq h];simp
    | false=>cases h2:e.1==k with
      |false=>rfl
      |true=>rw[eq_of_beq h2]at h;simp at h
   show(match keq (f k) (f e.1)with|some Sm=>Sh (Sh i)|some S1=>b8 (f k) (aI f l) (i+1)|none=>Sl)=_;rw[d,hs,List.findIdx?_cons];cases e.1==k with
   |true=>simp
   | false=>
     simp only[Sz,Up];rw[fb d k l (i+1)];cases l.findIdx? (λe=>e.1==k)with
     |none=>rfl
     |some j=>simp;omega
def uE(l:List (K×Rat))(k:K)(y:Rat):List (K×Rat):=match l.findIdx? (λe=>e.1==k)with
 |some j=>l.set j (k,y)
 |none=>l++[(k,y)]
def yg(l:List (K×Rat))(k:K):List (K×Rat):=match l.findIdx? (λe=>e.1==k)with
 |some j=>l.eraseIdx j
 |none=>l
def uq(l:List (K×Rat))(k:K):Option Rat:=match l.findIdx? (λe=>e.1==k)with
 |some j=>Sh (l.getD j (k,0)).2
 |none=>Sl
def Ln(x:Rat):Option Rat->Rat
 |some o=>x+o
 |none=>x
omit [LawfulBEq K] in
theorem Dw(l:List (K×Rat))(k:K)(x:Rat):note l k x=if Ln x (uq l k)=0 then yg l k else uE l k (Ln x (uq l k)):=by
 unfold note uq yg uE;cases l.findIdx? (λe=>e.1==k)<;>rfl
omit [LawfulBEq K] in
theorem nj{l:List (K×Rat)}{k:K}(d:Ln x (uq l k)=y)(h:y=0):note l k x=yg l k:=by rw[Dw,d,AT h]
omit [LawfulBEq K] in
theorem nk{l:List (K×Rat)}{k:K}(d:Ln x (uq l k)=y)(h:¬y=0):note l k x=uE l k y:=by rw[Dw,d,dt h]
theorem zE{l:List (K×Rat)}{k:K}{o:Rat}(h:uq l k=Sh o):∃e∈l,e.2=o:=by
 unfold uq at h;cases hf:l.findIdx? (λe=>e.1==k)with
 |none=>rw[hf]at h;cases h
 | some j=>
   rw[hf]at h;simp only[Rq]at h;obtain⟨l1,o',l2,rfl,rfl,_⟩:=fw hf;refine⟨(k,o'),Vj,?_⟩;rw[<-h];simp[List.getD]
theorem jC{f:K->PV}(d:∀a b,keq (f a) (f b)=Sh (a==b))(l:List (K×Rat))(k:K)(y:Rat):kN (f k) (aI f l)=aI f (uE l k y):=by
 unfold kN uE;rw[fb d];cases l.findIdx? (λe=>e.1==k)with
 |none=>simp[aI]
 |some j=>simp[aI,SH]
theorem jh{f:K->PV}(d:∀a b,keq (f a) (f b)=Sh (a==b))(l:List (K×Rat))(k:K)(y:Rat):jS (f k) (frP y) (aI f l) (aN l)=aN (uE l k y):=by
 unfold jS uE;rw[fb d];cases l.findIdx? (λe=>e.1==k)with
 |none=>simp[aN]
 |some j=>simp[aN,SH]
theorem y0{f:K->PV}(d:∀a b,keq (f a) (f b)=Sh (a==b))(l:List (K×Rat))(k:K):qb (f k) (aI f l) (aI f l)=aI f (yg l k):=by
 unfold qb yg;rw[fb d];cases l.findIdx? (λe=>e.1==k)with
 |none=>rfl
 |some j=>simp[aI,Go.ChangeMaps.map_eraseIdx]
theorem AG{f:K->PV}(d:∀a b,keq (f a) (f b)=Sh (a==b))(l:List (K×Rat))(k:K):qb (f k) (aI f l) (aN l)=aN (yg l k):=by
 unfold qb yg;rw[fb d];cases l.findIdx? (λe=>e.1==k)with
 |none=>rfl
 |some j=>simp[aN,Go.ChangeMaps.map_eraseIdx]
theorem ns{f:K->PV}(d:∀a b,keq (f a) (f b)=Sh (a==b))(l:List (K×Rat))(k:K):gy (f k) (aI f l) (aN l)=Sh ((uq l k).map frP):=by
 unfold gy uq;rw[fb d];cases hfi:l.findIdx? (λe=>e.1==k)with
 |none=>rfl
 | some j=>
   obtain⟨l1,o',l2,rfl,rfl,_⟩:=fw hfi;simp[aN,List.getD]
theorem lx{f:K->PV}(d:∀a b,keq (f a) (f b)=Sh (a==b))(l:List (K×Rat))(k:K):∃r,b8 (f k) (aI f l) 0=Sh r:=⟨_,fb d k l 0⟩
end
theorem gD:(q.num.sign==0)=decide (q=0):=by
 rw[RJ,S0,Rt,Int.sign_eq_zero_iff_zero,Rat.num_eq_zero]
abbrev frZ:PV:= .agg [.bool S1,.sl (Sh Sm) 0 [],.bool S1,.sl (Sh Sm) 0 []]
theorem BZ(l:List (Par×Rat))(k:Par)(x:Rat)(hx:FOk x)(hl:∀e∈l,FOk e.2):FnO prog 228 1 0 [.map big,.pv (dr k),.pv (frP x)] [(big,.mp (aI dr l) (aN l))] (λv ob'=>v= .tup []/\ob'=ax [(big,.mp (aI dr (note l k x)) (aN (note l k x)))]):=by
 refine FnO.of func228 O ntmps228 Vj λm0 w0 F R0=>?_
 have I:=ns c7 l k;obtain⟨r,hr⟩:=lx c7 l k;have M:=y0 c7 l k;have U:=AG c7 l k;cases ho:uq l k with
 | none=>
   rw[ho]at I;simp only[Option.map_none]at I;have V:Ln x (uq l k)=x:=by rw[ho];rfl
   have X:(x.num.sign==0)=decide (x=0):=gD;have Y:=eL x;have J:=jC c7 l k x;have L:=jh c7 l k x;refine Z2 O<|Z2 O<|Rs O (jv (zp:=frZ) (r:=Sl) (b:=S1) kZ underlying117 (.inl ⟨big,O,O⟩) O ⟨k,O⟩ l9 O I O O) ?_;iterate 6 refine A1 O ?_
   refine Z1 O<|Gc O (λG=>absurd G Vj) (λG=>?_);refine Q3<|Z1 O<|Rs O (aa call203 Y O)<|A1 O<|Gc O (λs=>?_) (λs=>?_)
   .have h0:x=0:=by rw[X]at s;simpa using s
    have H:=nj V h0;exact Z2 O<|RL.step (d:=Sl) O O (jB kZ underlying117 O O O ⟨k,O⟩ hr M U)<|Gt O<|⟨[],[(big,.mp (aI dr (yg l k)) (aN (yg l k)))],[],Q5 trivial (aO O) O O,O,O,O,O,by rw[H]⟩
   .have h0:¬x=0:=by rw[X]at s;simpa using s
    have H:=nk V h0;exact Q3<|Z3 O<|RL.step (d:=Sl) O O (bZ kZ underlying117 O O O O ⟨k,O⟩ hr J L)<|⟨[],[(big,.mp (aI dr (uE l k x)) (aN (uE l k x)))],[],Q5 trivial (aO O) O O,O,O,O,O,by rw[H]⟩
 | some o=>
   rw[ho]at I;simp only[Tt]at I;obtain⟨e,he,hoe⟩:=zE ho;have Z:FOk o:=hoe▸hl e he;have ab:=kT x o hx Z;have V:Ln x (uq l k)=x+o:=by rw[ho];rfl
   have X:((x+o).num.sign==0)=decide (x+o=0):=gD;have Y:=eL (x+o);have J:=jC c7 l k (x+o);have L:=jh c7 l k (x+o);refine Z2 O<|Z2 O<|Rs O (jv (zp:=frZ) (r:=Sh (frP o)) (b:=Sm) kZ underlying117 (.inl ⟨big,O,O⟩) O ⟨k,O⟩ l9 O I O O) ?_;iterate 6 refine A1 O ?_
   refine Z1 O<|Gc O (λG=>?_) (λG=>absurd G Vj);refine Z2 O<|Rs O (aa call140 ab O)<|A1 O<|Z1 O<|Rs O (aa call203 Y O)<|A1 O<|Gc O (λs=>?_) (λs=>?_)
   .have h0:x+o=0:=by rw[X]at s;simpa using s
    have H:=nj V h0;exact Z2 O<|RL.step (d:=Sl) O O (jB kZ underlying117 O O O ⟨k,O⟩ hr M U)<|Gt O<|⟨[],[(big,.mp (aI dr (yg l k)) (aN (yg l k)))],[],Q5 trivial (aO O) O O,O,O,O,O,by rw[H]⟩
   .have h0:¬x+o=0:=by rw[X]at s;simpa using s
    have H:=nk V h0;exact Q3<|Z3 O<|RL.step (d:=Sl) O O (bZ kZ underlying117 O O O O ⟨k,O⟩ hr J L)<|⟨[],[(big,.mp (aI dr (uE l k (x+o))) (aN (uE l k (x+o))))],[],Q5 trivial (aO O) O O,O,O,O,O,by rw[H]⟩
theorem ml(l:List (PP×Rat))(k:PP)(x:Rat)(hx:FOk x)(hl:∀e∈l,FOk e.2):FnO prog 141 1 0 [.map big,.pv (ppP k),.pv (frP x)] [(big,.mp (aI ppP l) (aN l))] (λv ob'=>v= .tup []/\ob'=ax [(big,.mp (aI ppP (note l k x)) (aN (note l k x)))]):=by
 refine FnO.of func141 O ntmps141 Vj λm0 w0 F R0=>?_
 have I:=ns ft l k;obtain⟨r,hr⟩:=lx ft l k;have M:=y0 ft l k;have U:=AG ft l k;cases ho:uq l k with
 | none=>
   rw[ho]at I;simp only[Option.map_none]at I;have V:Ln x (uq l k)=x:=by rw[ho];rfl
   have X:(x.num.sign==0)=decide (x=0):=gD;have Y:=eL x;have J:=jC ft l k x;have L:=jh ft l k x;refine Z2 O<|Z2 O<|Rs O (jv (zp:=frZ) (r:=Sl) (b:=S1) rZ underlying118 (.inl ⟨big,O,O⟩) O ⟨k,O⟩ l9 O I O O) ?_;iterate 6 refine A1 O ?_
   refine Z1 O<|Gc O (λG=>absurd G Vj) (λG=>?_);refine Q3<|Z1 O<|Rs O (aa call203 Y O)<|A1 O<|Gc O (λs=>?_) (λs=>?_)
   .have h0:x=0:=by rw[X]at s;simpa using s
    have H:=nj V h0;exact Z2 O<|RL.step (d:=Sl) O O (jB rZ underlying118 O O O ⟨k,O⟩ hr M U)<|Gt O<|⟨[],[(big,.mp (aI ppP (yg l k)) (aN (yg l k)))],[],Q5 trivial (aO O) O O,O,O,O,O,by rw[H]⟩
   .have h0:¬x=0:=by rw[X]at s;simpa using s
    have H:=nk V h0;exact Q3<|Z3 O<|RL.step (d:=Sl) O O (bZ rZ underlying118 O O O O ⟨k,O⟩ hr J L)<|⟨[],[(big,.mp (aI ppP (uE l k x)) (aN (uE l k x)))],[],Q5 trivial (aO O) O O,O,O,O,O,by rw[H]⟩
 | some o=>
   rw[ho]at I;simp only[Tt]at I;obtain⟨e,he,hoe⟩:=zE ho;have Z:FOk o:=hoe▸hl e he;have ab:=kT x o hx Z;have V:Ln x (uq l k)=x+o:=by rw[ho];rfl
   have X:((x+o).num.sign==0)=decide (x+o=0):=gD;have Y:=eL (x+o);have J:=jC ft l k (x+o);have L:=jh ft l k (x+o);refine Z2 O<|Z2 O<|Rs O (jv (zp:=frZ) (r:=Sh (frP o)) (b:=Sm) rZ underlying118 (.inl ⟨big,O,O⟩) O ⟨k,O⟩ l9 O I O O) ?_;iterate 6 refine A1 O ?_
   refine Z1 O<|Gc O (λG=>?_) (λG=>absurd G Vj);refine Z2 O<|Rs O (aa call140 ab O)<|A1 O<|Z1 O<|Rs O (aa call203 Y O)<|A1 O<|Gc O (λs=>?_) (λs=>?_)
   .have h0:x+o=0:=by rw[X]at s;simpa using s
    have H:=nj V h0;exact Z2 O<|RL.step (d:=Sl) O O (jB rZ underlying118 O O O ⟨k,O⟩ hr M U)<|Gt O<|⟨[],[(big,.mp (aI ppP (yg l k)) (aN (yg l k)))],[],Q5 trivial (aO O) O O,O,O,O,O,by rw[H]⟩
   .have h0:¬x+o=0:=by rw[X]at s;simpa using s
    have H:=nk V h0;exact Q3<|Z3 O<|RL.step (d:=Sl) O O (bZ rZ underlying118 O O O O ⟨k,O⟩ hr J L)<|⟨[],[(big,.mp (aI ppP (uE l k (x+o))) (aN (uE l k (x+o))))],[],Q5 trivial (aO O) O O,O,O,O,O,by rw[H]⟩
end
section
open Go.RowKit Mm
abbrev xb(c:Rat)(a b:Nat):List V:=[.pv (.bool (decide (c.num<0))),.pv (bF c.num.natAbs),.pv (.bool (decide ((c.den:Int)<0))),.pv (bF (c.den:Int).natAbs),.map a,.map b]
abbrev mcC(m:MC):List PV:=[.bool (decide (m.c.num<0)),bF m.c.num.natAbs,.bool (decide ((m.c.den:Int)<0)),bF (m.c.den:Int).natAbs,.mp (aI dr m.s) (aN m.s),.mp (aI ppP m.p) (aN m.p)]
abbrev mcP(m:MC):PV:= .agg (mcC m)
noncomputable abbrev momP(x:Mm.Sem):PV:=mcP (cn x)
theorem gI.ofE{f:K->PV}{l:List (K×Rat)}{cur' ks' vs':List PV}(h:gI cur (aI f l) (aN l) b rest cur' ks' vs'):
  (b=S1/\l=[]/\rest=[]/\cur'=cur/\ks'=aI f l/\vs'=aN l)\/(b=Sm/\∃(l1:List (K×Rat))(e:K×Rat)(l2:List (K×Rat)),l=l1++e::l2/\rest=[f e.1,frP e.2]/\cur'=[f e.1,frP e.2]/\ks'=aI f (l1++l2)/\vs'=aN (l1++l2)):=
 gI.of (α:=K×Rat) (f:=λe=>f e.1) (g:=λe=>frP e.2) h
def smB:Nat:=10^100
def JL:Nat:=(10^100)^10
theorem dD(H:dM 36 q)(I:bl B q)(hB:B<=JL):FOk q:=by
 have J:=H.LH Vh;refine⟨Vf,IT ((bj (k:=200)).2 ?_) Vh⟩;have d:=I.num;have s:B*q.den<=JL*36:=Sw hB Vf;have G:JL*36<1000000000^200:=by decide+kernel
 exact UN (IT d s) G
theorem Mm.dM.O6(h:dM 6 q):dM 36 q:=h.up 6
theorem Mm.dM.int(D:Int)(h:∃z:Int,q=(z:Rat)):dM D q:=by
 obtain⟨z,rfl⟩:=h;exact dM.ofInt D z
theorem Mm.dM.Jj{k:Rat}(h:dM D q)(d:∃z:Int,k=(z:Rat)):dM D (q*k):=by
 obtain⟨z,rfl⟩:=d;obtain⟨x,hx⟩:=h;exact⟨x*z,by rw[T8,<-hx];grind⟩
theorem sm1:smB+smB*smB<=JL:=by decide+kernel
theorem sm0:smB<=JL:=by decide+kernel
theorem sm2:smB*smB<=JL:=by decide+kernel
structure IncR(c:Rat)(sb:List (Par×Rat))(pb:List (PP×Rat))(w:MC)(k c':Rat)(s':List (Par×Rat))(p':List (PP×Rat)):Prop where
 c:c'=c+w.c*k
 s:LOk 6 s'
 p:LOk 36 p'
 po:(∀e∈pb,cD e.1.1 e.1.2<=0)->∀e∈p',cD e.1.1 e.1.2<=0
 es:∀x,lk s' x=lk sb x+lk w.s x*k
 ep:∀x,lk p' x=lk pb x+lk w.p x*k
structure MSmB(B:Nat)(m:MC):Prop where
 ci:∃z:Int,m.c=(z:Rat)
 s:LOk 6 m.s
 p:LOk 36 m.p
 po:∀e∈m.p,cD e.1.1 e.1.2<=0
 cb:bl B m.c
 sb:∀e∈m.s,bl B e.2
 pb:∀e∈m.p,bl B e.2
abbrev MSm(m:MC):Prop:=MSmB smB m
theorem Mm.Inc.po{b w todo acc:List (PP×Rat)}(h:Inc 36 b w q todo acc)(G:∀e∈b,cD e.1.1 e.1.2<=0)(H:∀e∈w,cD e.1.1 e.1.2<=0):∀e∈acc,cD e.1.1 e.1.2<=0:=by
 intro e he;obtain⟨d,h1,h2⟩:=h.ex;have s:=fM h.ok.nd he;rw[h2]at s;rcases fl b e.1 with⟨l1,o,l2,rfl,_⟩|hk
 .exact G (e.1,o) Vj
 .rcases fl d e.1 with⟨l1,o,l2,rfl,_⟩|hk2
  .exact H (e.1,o) (h1.subset Vj)
  .rw[qI hk,qI hk2]at s;exact absurd (show e.2=0 by rw[<-s];grind) (h.ok.nz e he)
theorem iQ(c:Rat)(sb:List (Par×Rat))(pb:List (PP×Rat))(w:MC)(k:Rat)(hB:B+smB*smB<=JL)(X:MSmB B ⟨c,sb,pb⟩)(L:MSm w)(hk:∃z:Int,k=(z:Rat))(M:bl smB k):
  FnO prog 138 3 0 [.ptr big 0,.pv (mcP w),.pv (frP k)] [(big,.mix 120 (xb c 9001 9002)),(9001,.mp (aI dr sb) (aN sb)),(9002,.mp (aI ppP pb) (aN pb))]
   (λv ob'=>∃c' s' p',IncR c sb pb w k c' s' p'/\v= .tup []/\ob'=ax [(big,.mix 120 (xb c' 9001 9002)),(9001,.mp (aI dr s') (aN s')),(9002,.mp (aI ppP p') (aN p'))]):=by
 refine FnO.of func138 O ntmps138 Vj λm0 w0 F R0=>?_
 have hki:=dM.int 36 hk;have Y:=dD hki M sm0;have hm1:=gH w.c k (dD (dM.int 36 L.ci) L.cb sm0) Y;have ha1:=kT c (w.c*k) (dD (dM.int 36 X.ci) X.cb (IT (TH _ _) hB)) (dD ((dM.int 36 L.ci).Jj hk) (L.cb.mul M) sm2);refine Z2 O<|RW 13 O ?_;iterate 8 refine D1 O ?_
 refine Ds [] O (λτ h=>aa call139 hm1 (h.aK O)) O Vg<|Ds [] O (λτ h=>aa call140 ha1 (h.aK O)) O Vg ?_;iterate 3 refine D1 O ?_
 refine⟨Vg,?_⟩;refine Z2 O<|Rs O (fq 2 underlying117 O O)<|Gl O (st:=λVn:List (Par×Rat)×List (Par×Rat)×List PV=>mkS [(0,.ptr big 0),(4,.ptr 0 0),(5,.ptr 1 0),(24,.ptr 2 0)] [(big,.mix 120 (xb (c+w.c*k) 9001 9002)),(0,.mix 120 [.pv (.bool (decide (w.c.num<0))),.pv (bF w.c.num.natAbs),.pv (.bool (decide ((w.c.den:Int)<0))),.pv (bF (w.c.den:Int).natAbs),.pv (.mp (aI dr w.s) (aN w.s)),.pv (.mp (aI ppP w.p) (aN w.p))]),(1,.mix 116 [.pv (.bool (decide (k.num<0))),.pv (bF k.num.natAbs),.pv (.bool (decide ((k.den:Int)<0))),.pv (bF (k.den:Int).natAbs)]),(2,.mi Vn.2.2 (aI dr Vn.1) (aN Vn.1)),(9001,.mp (aI dr Vn.2.1) (aN Vn.2.1)),(9002,.mp (aI ppP pb) (aN pb))] 3)
  (I:=λVn=>Inc 6 sb w.s k Vn.1 Vn.2.1) (μ:=λVn=>Vn.1.length) (x0:=(w.s,sb,[])) (Q5 (aS O) (aO Vg) O O) (Inc.start X.s w.s k) ?_
 rintro⟨todo,acc,cur⟩ hI;try simp only at hI ⊢
 refine Gr O<|RL.call O (im O O ?_);rintro b rest cur2 ks2 vs2 hN;refine Rs O (cG O O)<|Gc O (λG=>?_) (λG=>?_)
 .obtain⟨_,l1,e,l2,rfl,rfl,rfl,rfl,rfl⟩:=(gI.ofE hN).resolve_left (by rintro⟨h,_⟩;rw[h]at G;cases G);have U:=hI.mem (e:=e) Vj;have J:=L.s.it e U;have V:=L.sb e U;have Z:=gH e.2 k (dD J.O6 V sm0) Y;have ab:=BZ acc e.1 (e.2*k) (dD (J.Jj hk).O6 (V.mul M) sm2) (λx hx=>dD (hI.ok.it x hx).O6 (hI.abs X.s L.s X.sb L.sb M x hx) hB);refine Q3<|Gr O<|Rs O (fo O O) ?_;iterate 6 refine A1 O ?_
  refine RW 9 O ?_;iterate 7 refine D1 O ?_
  refine Ds [] O (λτ h=>aa call139 Z (h.aK O)) O Vg<|Ds [9001] O (λτ h=>bt [9001] 5 call228 ab (h.args.trans O) O O O ⟨(Eo h 0 O O),Vm⟩ Vh O) O Vg ?_;refine⟨Vg,?_⟩;exact⟨(l1++l2,note acc e.1 (e.2*k),[dr e.1,frP e.2]),Q5 (aS O) (aO Vg) O O,hI.step (J.Jj hk),Vj⟩
 .obtain⟨_,rfl,_⟩:=(gI.ofE hN).resolve_right (by rintro⟨h,_⟩;rw[h]at G;cases G);have hIe:=hI.end;have hsok:=hI.ok;refine Gx O<|Z2 O<|Rs O (fq 3 underlying118 O O)<|Gl O (st:=λd:List (PP×Rat)×List (PP×Rat)×List PV=>mkS [(0,.ptr big 0),(5,.ptr 1 0),(41,.ptr 3 0)] [(big,.mix 120 (xb (c+w.c*k) 9001 9002)),(1,.mix 116 [.pv (.bool (decide (k.num<0))),.pv (bF k.num.natAbs),.pv (.bool (decide ((k.den:Int)<0))),.pv (bF (k.den:Int).natAbs)]),(3,.mi d.2.2 (aI ppP d.1) (aN d.1)),(9001,.mp (aI dr acc) (aN acc)),(9002,.mp (aI ppP d.2.1) (aN d.2.1))] 4)
   (I:=λd=>Inc 36 pb w.p k d.1 d.2.1) (μ:=λd=>d.1.length) (x0:=(w.p,pb,[])) (Q5 (aS O) (aO Vg) O O) (Inc.start X.p w.p k) ?_
  rintro⟨todo2,acc2,cur3⟩ hI2;try simp only at hI2 ⊢
  refine Gr O<|RL.call O (im O O ?_);rintro b2 rest2 cur4 ks4 vs4 hN2;refine Rs O (cG O O)<|Gc O (λH=>?_) (λH=>?_)
  .obtain⟨_,l1,e,l2,rfl,rfl,rfl,rfl,rfl⟩:=(gI.ofE hN2).resolve_left (by rintro⟨h,_⟩;rw[h]at H;cases H);have U:=hI2.mem (e:=e) Vj;have J:=L.p.it e U;have V:=L.pb e U;have Z:=gH e.2 k (dD J V sm0) Y;have ab:=ml acc2 e.1 (e.2*k) (dD (J.Jj hk) (V.mul M) sm2) (λx hx=>dD (hI2.ok.it x hx) (hI2.abs X.p L.p X.pb L.pb M x hx) hB);refine Q3<|Gr O<|Rs O (fo O O) ?_;iterate 6 refine A1 O ?_
   refine RW 9 O ?_;iterate 7 refine D1 O ?_
   refine Ds [] O (λτ h=>aa call139 Z (h.aK O)) O Vg<|Ds [9002] O (λτ h=>bt [9002] 6 call141 ab (h.args.trans O) O O O ⟨(Eo h 0 O O),Vm⟩ Vh O) O Vg ?_;refine⟨Vg,?_⟩;exact⟨(l1++l2,note acc2 e.1 (e.2*k),[ppP e.1,frP e.2]),Q5 (aS O) (aO Vg) O O,hI2.step (J.Jj hk),Vj⟩
  .obtain⟨_,rfl,_⟩:=(gI.ofE hN2).resolve_right (by rintro⟨h,_⟩;rw[h]at H;cases H);exact Gx O<|⟨[],[(big,.mix 120 (xb (c+w.c*k) 9001 9002)),(9001,.mp (aI dr acc) (aN acc)),(9002,.mp (aI ppP acc2) (aN acc2))],[],Q5 trivial (aO Vg) O O,O,O,O,_,_,_,⟨O,hsok,hI2.ok,λhb=>hI2.po hb L.po,hIe,hI2.end⟩,O,O⟩
end
section
open Go.RowKit Mm
theorem sS:∀(a b:List (Nat×Ob))(i:Nat)(o:Ob),ax a i=Sh o->ax (a++b) i=Sh o
 |[],_,_,_,h=>by simp[ax]at h
 | x::a,b,i,o,h=>by
   simp only[ax,SN]at h ⊢;cases hb:Nat.beq i x.1 with
   |true=>rw[hb]at h;exact h
   |false=>rw[hb]at h;exact sS a b i o h
theorem pubE{f:K->PV}{l m:List (K×Rat)}(h:l.Perm m):((aI f l).zip (aN l)).Perm ((aI f m).zip (aN m)):=by
 have e:∀l:List (K×Rat),(aI f l).zip (aN l)=l.map λe=>(f e.1,frP e.2):=λl=>by
  induction l with
  |nil=>rfl
  |cons e l ih=>simp only[aI,aN,bP,List.zip_cons_cons]at *; rw[ih]
 rw[e,e];exact h.map _
theorem Pc(f:K->PV)(l:List (K×Rat)):(aI f l).length=(aN l).length:=by simp[aI,aN]
theorem tv:((0:Int):Rat)=0:=rfl
theorem lL:((1:Int):Rat)=1:=rfl
theorem ko(n:Int)(s: -9223372036854775808<=n)(G:n<=9223372036854775807):FnO prog 54 0 2 [pIi n] [] (λv ob'=>v= .agg (xb (n:Rat) 0 1)/\ob'=ax [(0,.mp [] []),(1,.mp [] [])]):=by
 refine FnO.ofC func54 O ntmps54 Vj λm0 w0 F R0=>?_
 have d:=nH n s G;exact Z1 O<|Z1 O<|Rs O (aa call136 d O)<|Rs O (cL 1 O)<|Rs O (cL 2 O)<|Y2 O<|Gt O<|⟨[(2,.ptr 2 0)],[(0,.mp [] []),(1,.mp [] []),(2,.mix 120 (xb (n:Rat) 0 1))],[.agg (xb (n:Rat) 0 1)],[(0,.mp [] []),(1,.mp [] [])],3,Q6 [1,2,0] (aT O) (aP Vg) O O Vh O,O,⟨az ⟨_,underlying120,O⟩ j0 O O O,Vm⟩,O,O,λi o h=>sS [(0,.mp [] []),(1,.mp [] [])] [(2,.mix 120 (xb (n:Rat) 0 1))] i o h,Vh,O,O⟩
abbrev mcW(n:Int):MC:=⟨(n:Rat),[],[]⟩
theorem xj(n:Int)(s: -9223372036854775808<=n)(G:n<=9223372036854775807):FnP prog 54 [.int .i64 n] (· =mcP (mcW n)):=by
 refine FnP.ofC func54 O ntmps54 Vj λm0 w0 F R0=>?_
 have d:=nH n s G;exact Z1 O<|Z1 O<|Rs O (aa call136 d O)<|Rs O (cL 1 O)<|Rs O (cL 2 O)<|Y2 O<|Q4 (St.cw (ks:=[]) (vs:=[]) 1 O O (RY _))<|Q4 (St.cw (ks:=[]) (vs:=[]) 2 O O (RY _))<|Gt O<|⟨_,_,O,O,⟨az ⟨_,underlying120,O⟩ j0 O O O,Vm⟩,O⟩
theorem IG:MSm ⟨((0:Int):Rat),[],[]⟩:=⟨⟨0,O⟩,LOk.nil 6,LOk.nil 36,λ_ h=>absurd h Vj,bl.zero _,λ_ h=>absurd h Vj,λ_ h=>absurd h Vj⟩
theorem ql(v:MC)(k:Rat)(H:MSm v)(I:∃z:Int,k=(z:Rat))(G:bl smB k):
  FnO prog 137 0 2 [.pv (mcP v),.pv (frP k)] [] (λr ob'=>∃c' s' p',IncR ((0:Int):Rat) [] [] v k c' s' p'/\r= .agg (xb c' 0 1)/\ob'=ax [(0,.mp (aI dr s') (aN s')),(1,.mp (aI ppP p') (aN p'))]):=by
 refine FnO.ofC func137 O ntmps137 Vj λm0 w0 F R0=>?_
 have s:=ko 0 Vh Vh;have d:=iQ ((0:Int):Rat) [] [] v k sm1 IG H I G;refine Z3 O<|Gr O<|Rs O (bt [] 3 call54 s O O O O trivial Vh O)<|Y2 O<|Z2 O<|RL.call O (bM [5,3,4] 6 call138 O O O O (by exact⟨Vg,Vg,Vg,Vm⟩) Vh O d ?_);rintro _ _ ⟨c',s',p',hR,rfl,rfl⟩;exact Z2 O<|Gt O<|⟨[(4,.ptr 2 0)],[(0,.mp (aI dr s') (aN s')),(1,.mp (aI ppP p') (aN p')),(2,.mix 120 (xb c' 0 1))],[.agg (xb c' 0 1)],[(0,.mp (aI dr s') (aN s')),(1,.mp (aI ppP p') (aN p'))],3,Q6 [3,4,2] (aT O) (aP Vg) O O Vh O,O,⟨az ⟨_,underlying120,O⟩ j0 O O O,Vm⟩,O,O,λi o h=>sS [(0,.mp (aI dr s') (aN s')),(1,.mp (aI ppP p') (aN p'))] [(2,.mix 120 (xb c' 0 1))] i o h,Vh,c',s',p',hR,O,O⟩
structure AddR(v w m:MC):Prop where
 c:m.c=v.c+w.c
 s:LOk 6 m.s
 p:LOk 36 m.p
 po:∀e∈m.p,cD e.1.1 e.1.2<=0
 sa:Mm.Asc cD m.s
 pa:Mm.Asc dU m.p
 es:∀x,lk m.s x=lk v.s x+lk w.s x
 ep:∀x,lk m.p x=lk v.p x+lk w.p x
theorem IncR.msm{v:MC}{k c':Rat}{s':List (Par×Rat)}{p':List (PP×Rat)}(h:IncR ((0:Int):Rat) [] [] v k c' s' p')(d:MSm v)(G:k=((1:Int):Rat)):MSm ⟨c',s',p'⟩:=by
 have hc:c'=v.c:=by rw[h.c,G,tv,lL];grind
 have es:∀x,lk s' x=lk v.s x:=λx=>by rw[h.es,G,lL];simp only[lk];grind
 have H:∀x,lk p' x=lk v.p x:=λx=>by rw[h.ep,G,lL];simp only[lk];grind
 refine⟨hc▸d.ci,h.s,h.p,h.po Vj,hc▸d.cb,λe he=>?_,λe he=>?_⟩
 .have h1:=fM h.s.nd he;rw[es]at h1;rw[<-h1];exact gC d.s.nd d.sb _
 .have h1:=fM h.p.nd he;rw[H]at h1;rw[<-h1];exact gC d.p.nd d.pb _
theorem FP(v w:MC)(M:MSm v)(U:MSm w):FnP prog 177 [mcP v,mcP w] (λr=>∃m,AddR v w m/\r=mcP m):=by
 refine FnP.ofC func177 O ntmps177 Vj λm0 w0 F R0=>?_
 have d:∃z:Int,((1:Int):Rat)=(z:Rat):=⟨1,O⟩;have G:bl smB ((1:Int):Rat):=by
  have:(1:Nat)<=smB:=by decide+kernel
  exact bl.up (B:=1) ⟨by decide+kernel,by decide+kernel⟩ this
 have H:=nH 1 Vh Vh;have J:=ql v ((1:Int):Rat) M d G;refine Z3 O<|Ge O follows [0,1,3,2,4] Vg<|D1 O<|Ds [] O (λτ h=>aa call136 H (h.aK O)) O Vg<|D1 O<|DL.rel (RO [] 4 2 (λr ob'=>∃c' s' p',IncR ((0:Int):Rat) [] [] v ((1:Int):Rat) c' s' p'/\r= .agg (xb c' 0 1)/\ob'=ax [(0,.mp (aI dr s') (aN s')),(1,.mp (aI ppP p') (aN p'))])) [4,5] [4,5] [] O O O (λτ h=>relO [] 4 call137 J (h.args.trans O) O O O trivial Vh (by show(τ.av 4&&(τ.av 5&&Sm))=Sm;rw[h.n 0 _ O,h.n 1 _ O];rfl)) O Vg Vg Vg ?_;rintro _ ⟨_,_,⟨c1,s1,p1,hR1,rfl,rfl⟩,rfl⟩ _ _;refine D1 O ?_;refine⟨Vg,?_⟩;have L:=hR1.msm M O;have I:=iQ c1 s1 p1 w ((1:Int):Rat) sm1 L U d G;refine RW 3 O<|D1 O<|Ds [] O (λτ h=>aa call136 H (h.aK O)) O Vg<|DL.rel (RO [3,4,5] 6 0 (λv ob'=>∃c' s' p',IncR c1 s1 p1 w ((1:Int):Rat) c' s' p'/\v= .tup []/\ob'=ax [(big,.mix 120 (xb c' 9001 9002)),(9001,.mp (aI dr s') (aN s')),(9002,.mp (aI ppP p') (aN p'))])) [3,4,5] [] [3,4,5] O O O (λτ h=>relO [3,4,5] 6 call138 I (h.args.trans O) O O O ⟨(h.o 0 _ O).trans Vg,(h.o 1 _ O).trans Vg,(h.o 2 _ O).trans Vg,Vm⟩ Vh O) O Vg Vg Vg ?_;rintro _ ⟨_,_,⟨c2,s2,p2,hR2,rfl,rfl⟩,rfl⟩ _ _;refine⟨Vg,?_⟩;exact Z2 O<|Q4 (St.cw (ks:=aI dr (srt cD s2)) (vs:=aN (srt cD s2)) 4 Vg (Pc _ _) (pubE (bm cD s2).symm))<|Q4 (St.cw (ks:=aI ppP (srt dU p2)) (vs:=aN (srt dU p2)) 5 Vg (Pc _ _) (pubE (bm dU p2).symm))<|Gt O<|⟨_,_,O,O,⟨az ⟨_,underlying120,O⟩ j0 O O O,Vm⟩,⟨c2,srt cD s2,srt dU p2⟩,⟨by simp only;rw[hR2.c,hR1.c,tv,lL];grind,hR2.s.srt,hR2.p.srt,λe he=>hR2.po (hR1.po Vj) e ((bm _ _).mem_iff.1 he),eh fm hR2.s.nd,eh du hR2.p.nd,λx=>by rw[fr (bm _ _),hR2.es,hR1.es,lL];simp only[lk];grind,λx=>by rw[fr (bm _ _),hR2.ep,hR1.ep,lL];simp only[lk];grind⟩,O⟩
end
section
open Go.RowKit Mm
theorem FM(a b:Par):FnP prog 142 [dr a,dr b] (· =ppP (eH a b)):=by
 refine FnP.ofC func142 O ntmps142 Vj λm0 w0 F R0=>?_
 have hc:=Fh a b;refine Z3 O<|Z2 O<|Rs O (aa call129 hc O)<|A1 O<|Gp O (λd=>?_) (λd=>?_)
 .have e:eH a b=(b,a):=AT (by simpa using d);exact Z4 O<|Z4 O<|Gt O<|⟨_,_,O,O,⟨az ⟨_,underlying238,O⟩ H9 O O O,Vm⟩,by rw[e];rfl⟩
 .have e:eH a b=(a,b):=dt (by simpa using d);exact Q3<|Z4 O<|Gt O<|⟨_,_,O,O,⟨az ⟨_,underlying238,O⟩ H9 O O O,Vm⟩,by rw[e];rfl⟩
structure CrsO(b:List (PP×Rat))(ws vs todo:List (Par×Rat))(acc:List (PP×Rat)):Prop where
 ok:LOk 36 acc
 po:∀e∈acc,cD e.1.1 e.1.2<=0
 ex:∃d,(d++todo).Perm vs/\∀u v,lk acc (eH u v)=lk b (eH u v)+(lk d u*lk ws v+lk d v*lk ws u)
structure CrsI(b:List (PP×Rat))(ws dP:List (Par×Rat))(p:Par)(x:Rat)(todo:List (Par×Rat))(acc:List (PP×Rat)):Prop where
 ex:∃d,(d++todo).Perm ws/\Crs b ws dP d p x acc
theorem CrsO.start{b:List (PP×Rat)}{ws vs:List (Par×Rat)}(h:LOk 36 b)(d:∀e∈b,cD e.1.1 e.1.2<=0):CrsO b ws vs vs b:=
 ⟨h,d,[],RY _,λu v=>by simp only[lk];grind⟩
theorem CrsO.into{b:List (PP×Rat)}{ws vs l1 l2:List (Par×Rat)}{e:Par×Rat}{acc:List (PP×Rat)}(h:CrsO b ws vs (l1++e::l2) acc):∃d,(d++(l1++e::l2)).Perm vs/\CrsI b ws d e.1 e.2 ws acc:=by
 obtain⟨d,h1,h2⟩:=h.ex;exact⟨d,h1,⟨[],RY _,h.ok,h.po,λu v=>by rw[h2];simp only[lk];grind⟩⟩
theorem CrsI.step{b:List (PP×Rat)}{ws dP l1 l2:List (Par×Rat)}{p:Par}{x:Rat}{e:Par×Rat}{acc:List (PP×Rat)}(h:CrsI b ws dP p x (l1++e::l2) acc)(s:dM 36 (ctr p x e).2):CrsI b ws dP p x (l1++l2) (note acc (eH p e.1) (ctr p x e).2):=by
 obtain⟨d,h1,h2⟩:=h.ex;refine⟨d++[e],?_,h2.step e s⟩;refine List.Perm.trans ?_ h1;rw[TC];refine List.Perm.append_left d ?_;show(e::(l1++l2)).Perm (l1++e::l2);exact(Uq).symm
theorem CrsI.out{b:List (PP×Rat)}{ws vs d l1 l2:List (Par×Rat)}{e:Par×Rat}{acc:List (PP×Rat)}(G:(d++(l1++e::l2)).Perm vs)(h:CrsI b ws d e.1 e.2 [] acc):CrsO b ws vs (l1++l2) acc:=by
 obtain⟨dQ,h1,h2⟩:=h.ex;rw[Sk]at h1;have s:=h2.row h1 e.1 e.2;refine⟨s.ok,s.po,d++[e],?_,λu v=>?_⟩
 .refine List.Perm.trans ?_ G;rw[TC];refine List.Perm.append_left d ?_;show(e::(l1++l2)).Perm (l1++e::l2);exact(Uq).symm
 .rw[s.eq];simp only[lk];grind
theorem CrsO.end{b:List (PP×Rat)}{ws vs:List (Par×Rat)}{acc:List (PP×Rat)}(h:CrsO b ws vs [] acc)(u v:Par):lk acc (eH u v)=lk b (eH u v)+(lk vs u*lk ws v+lk vs v*lk ws u):=by
 obtain⟨d,h1,h2⟩:=h.ex;rw[Sk]at h1;rw[h2,fr h1,fr h1]
theorem CrsO.mem{b:List (PP×Rat)}{ws vs todo:List (Par×Rat)}{acc:List (PP×Rat)}(h:CrsO b ws vs todo acc){e:Par×Rat}(s:e∈todo):e∈vs:=by
 obtain⟨d,h1,_⟩:=h.ex;exact h1.subset (by simp[s])
theorem CrsI.mem{b:List (PP×Rat)}{ws dP todo:List (Par×Rat)}{p:Par}{acc:List (PP×Rat)}(h:CrsI b ws dP p x todo acc){e:Par×Rat}(s:e∈todo):e∈ws:=by
 obtain⟨d,h1,_⟩:=h.ex;exact h1.subset (by simp[s])
theorem qH{d t l:List (K×Rat)}(h:(d++t).Perm l)(s:(l.map (·.1)).Nodup):(d.map (·.1)).Nodup:=by
 have:=(h.map (·.1)).nodup_iff.2 s;rw[RG]at this;exact(Uk.1 this).1
theorem CrsI.abs{b:List (PP×Rat)}{ws vs dP todo t2:List (Par×Rat)}{p:Par}{acc:List (PP×Rat)}(h:CrsI b ws dP p x todo acc)(s:(dP++t2).Perm vs)(H:LOk 6 vs)(G:LOk 6 ws)(I:∀u v,bl B (lk b (eH u v)))
  (bv:∀e∈vs,bl C e.2) (bx:bl C x) (bw:∀e∈ws,bl E e.2):∀e∈acc,bl (B+(C*E+C*E)+(C*E+C*E)) e.2:=by
 obtain⟨d,h1,h2⟩:=h.ex;refine h2.abs I (λu=>gC (qH s H.nd) (λe he=>bv e (s.subset (by simp[he]))) u) bx (λu=>gC G.nd bw u) (λu=>gC (qH h1 G.nd) (λe he=>bw e (h1.subset (by simp[he]))) u)
theorem sm3:smB*smB+smB*smB+(smB*smB+smB*smB)+(smB*smB+smB*smB)<=JL:=by decide+kernel
theorem sm4:smB*smB+smB*smB<=JL:=by decide+kernel
structure MulR(v w m:MC):Prop where
 c:m.c=v.c*w.c
 s:LOk 6 m.s
 p:LOk 36 m.p
 po:∀e∈m.p,cD e.1.1 e.1.2<=0
 sa:Mm.Asc cD m.s
 pa:Mm.Asc dU m.p
 es:∀x,lk m.s x=lk w.s x*v.c+lk v.s x*w.c
 ep:∀x y,lk m.p (eH x y)=lk w.p (eH x y)*v.c+lk v.p (eH x y)*w.c+(lk v.s x*lk w.s y+lk v.s y*lk w.s x)
theorem IncR.scaled{v:MC}{k c':Rat}{s':List (Par×Rat)}{p':List (PP×Rat)}(h:IncR ((0:Int):Rat) [] [] v k c' s' p')(G:MSm v)(H:∃z:Int,k=(z:Rat))(d:bl smB k):MSmB (smB*smB) ⟨c',s',p'⟩:=by
 have hc:c'=v.c*k:=by rw[h.c,tv];grind
 refine⟨?_,h.s,h.p,h.po (λ_ h=>absurd h Vj),by simp only;rw[hc];exact G.cb.mul d,λe he=>?_,λe he=>?_⟩
 .obtain⟨a,ha⟩:=G.ci;obtain⟨b,hb⟩:=H;exact⟨a*b,by simp only;rw[hc,ha,hb,T8]⟩
 .have h1:=fM h.s.nd he;rw[h.es]at h1;rw[<-h1];simp only[lk,Rat.zero_add];exact(gC G.s.nd G.sb _).mul d
 .have h1:=fM h.p.nd he;rw[h.ep]at h1;rw[<-h1];simp only[lk,Rat.zero_add];exact(gC G.p.nd G.pb _).mul d
theorem He(v w:MC)(J:MSm v)(U:MSm w):FnP prog 56 [mcP v,mcP w] (λr=>∃m,MulR v w m/\r=mcP m):=by
 refine FnP.ofC func56 O ntmps56 Vj λm0 w0 F R0=>?_
 have aq:=ql w v.c U J.ci J.cb;have ar:=gH v.c w.c (dD (dM.int 36 J.ci) J.cb sm0) (dD (dM.int 36 U.ci) U.cb sm0);refine Z3 O<|Z3 O<|RL.call O (bM [] 3 call137 O O O O (by exact trivial) Vh O aq ?_);rintro _ _ ⟨c1,s1,p1,hR1,rfl,rfl⟩;refine Y2 O ?_;have ab:=hR1.scaled U J.ci J.cb;have af:=iQ c1 s1 p1 v w.c sm4 ab J U.ci U.cb;refine Z3 O<|RL.call O (bM [5,3,4] 6 call138 O O O O (by exact⟨Vg,Vg,Vg,Vm⟩) Vh O af ?_);rintro _ _ ⟨c2,s2,p2,hR2,rfl,rfl⟩;have ag:=hR2.po (hR1.po (λ_ h=>absurd h Vj));have aj:∀x y,bl (smB*smB+smB*smB) (lk p2 (eH x y)):=λx y=>by
  rw[hR2.ep];exact(gC ab.p.nd ab.pb _).add ((gC J.p.nd J.pb _).mul U.cb)
 refine Z4 O<|Rs O (aa call139 ar O)<|Y2 O<|Z2 O<|Rs O (fq 6 underlying117 O O)<|Gl O (st:=λVn:List (Par×Rat)×List (PP×Rat)×List PV=>mkS [(3,.ptr 1 0),(4,.ptr 2 0),(5,.ptr 5 0),(27,.ptr 6 0)] [(1,.mix 120 [.pv (.bool (decide (w.c.num<0))),.pv (bF w.c.num.natAbs),.pv (.bool (decide ((w.c.den:Int)<0))),.pv (bF (w.c.den:Int).natAbs),.pv (.mp (aI dr w.s) (aN w.s)),.pv (.mp (aI ppP w.p) (aN w.p))]),(2,.mix 120 [.pv (.bool S1),.pv nS,.pv (.bool S1),.pv nS,.pv .nilmap,.pv .nilmap]),(3,.mp (aI dr s2) (aN s2)),(4,.mp (aI ppP Vn.2.1) (aN Vn.2.1)),(5,.mix 120 [.pv (.bool (decide ((v.c*w.c).num<0))),.pv (bF (v.c*w.c).num.natAbs),.pv (.bool (decide (((v.c*w.c).den:Int)<0))),.pv (bF ((v.c*w.c).den:Int).natAbs),.map 3,.map 4]),(6,.mi Vn.2.2 (aI dr Vn.1) (aN Vn.1))] 7)
  (I:=λVn=>CrsO p2 w.s v.s Vn.1 Vn.2.1) (μ:=λVn=>Vn.1.length) (x0:=(v.s,p2,[])) (Q5 (aS O) (aO Vg) O O) (CrsO.start hR2.p ag) ?_
 rintro⟨todo,acc,cur⟩ hI;try simp only at hI ⊢
 refine Gr O<|RL.call O (im O O ?_);rintro b rest cur2 ks2 vs2 hN;refine Rs O (cG O O)<|Gc O (λG=>?_) (λG=>?_)
 .obtain⟨_,l1,e,l2,rfl,rfl,rfl,rfl,rfl⟩:=(gI.ofE hN).resolve_left (by rintro⟨h,_⟩;rw[h]at G;cases G);obtain⟨dP,hdP,hI2⟩:=hI.into;have ak:=hI.mem (e:=e) Vj;have al:=J.s.it e ak;have L:=J.sb e ak;refine Q3<|Gr O<|Rs O (fo O O) ?_;iterate 6 refine A1 O ?_
  refine Z2 O<|Rs O (fq 9 underlying117 O O)<|Gl O (st:=λd:List (Par×Rat)×List (PP×Rat)×List PV=>mkS [(3,.ptr 1 0),(4,.ptr 2 0),(5,.ptr 5 0),(6,.ptr 7 0),(7,.ptr 8 0),(27,.ptr 6 0),(35,.ptr 9 0)] [(1,.mix 120 [.pv (.bool (decide (w.c.num<0))),.pv (bF w.c.num.natAbs),.pv (.bool (decide ((w.c.den:Int)<0))),.pv (bF (w.c.den:Int).natAbs),.pv (.mp (aI dr w.s) (aN w.s)),.pv (.mp (aI ppP w.p) (aN w.p))]),(2,.mix 120 [.pv (.bool S1),.pv nS,.pv (.bool S1),.pv nS,.pv .nilmap,.pv .nilmap]),(3,.mp (aI dr s2) (aN s2)),(4,.mp (aI ppP d.2.1) (aN d.2.1)),(5,.mix 120 [.pv (.bool (decide ((v.c*w.c).num<0))),.pv (bF (v.c*w.c).num.natAbs),.pv (.bool (decide (((v.c*w.c).den:Int)<0))),.pv (bF ((v.c*w.c).den:Int).natAbs),.map 3,.map 4]),(6,.mi [dr e.1,frP e.2] (aI dr (l1++l2)) (aN (l1++l2))),(7,.mix 147 [pIi e.1.f,.pv (.str e.1.c)]),(8,.mix 116 [.pv (.bool (decide (e.2.num<0))),.pv (bF e.2.num.natAbs),.pv (.bool (decide ((e.2.den:Int)<0))),.pv (bF (e.2.den:Int).natAbs)]),(9,.mi d.2.2 (aI dr d.1) (aN d.1))] 10)
   (I:=λd=>CrsI p2 w.s dP e.1 e.2 d.1 d.2.1) (μ:=λd=>d.1.length) (x0:=(w.s,acc,[])) (Q5 (aS O) (aO Vg) O O) (hI2) ?_
  rintro⟨todo2,acc2,cur3⟩ hJ;try simp only at hJ ⊢
  refine Gr O<|RL.call O (im O O ?_);rintro b2 rest2 cur4 ks4 vs4 hN2;refine Rs O (cG O O)<|Gc O (λH=>?_) (λH=>?_)
  .obtain⟨_,l3,g,l4,rfl,rfl,rfl,rfl,rfl⟩:=(gI.ofE hN2).resolve_left (by rintro⟨h,_⟩;rw[h]at H;cases H);have am:=hJ.mem (e:=g) Vj;have an:=U.s.it g am;have Z:=U.sb g am;have au:=gH e.2 g.2 (dD al.O6 L sm0) (dD an.O6 Z sm0);have M:dM 36 (e.2*g.2):=al.mul an;have ac:=dD M (L.mul Z) sm2;have ax:=kT (e.2*g.2) (e.2*g.2) ac ac;have ao:=FM e.1 g.1;refine Q3<|Gr O<|Rs O (fo O O) ?_;iterate 6 refine A1 O ?_
   refine Z2 O<|Rs O (aa call139 au O)<|Y2 O<|Z2 O<|Rs O (JB O O O)<|Gc O (λY=>?_) (λY=>?_)
   .have hq:(e.1==g.1)=Sm:=Y;have V:(ctr e.1 e.2 g).2=e.2*g.2+e.2*g.2:=by simp only[ctr,hq,UP]
    have ad:dM 36 (ctr e.1 e.2 g).2:=by rw[V];exact M.add M
    have X:=hJ.step ad;rw[V]at X;have ae:=ml acc2 (eH e.1 g.1) (e.2*g.2+e.2*g.2) (dD (M.add M) ((L.mul Z).add (L.mul Z)) sm4) (λx hx=>dD (hJ.ex.choose_spec.2.ok.it x hx) (hJ.abs (t2:=l1++e::l2) hdP J.s U.s aj J.sb L U.sb x hx) sm3);refine Z2 O<|Rs O (aa call140 ax O)<|A1 O<|RW 7 O ?_;iterate 4 refine D1 O ?_
    refine Ds [] O (λτ h=>aa call142 ao (h.aK O)) O Vg<|D1 O<|Ds [4] O (λτ h=>bt [4] 13 call141 ae (h.args.trans O) O O O ⟨(Eo h 0 O O),Vm⟩ Vh O) O Vg ?_;refine⟨Vg,?_⟩;exact⟨(l3++l4,note acc2 (eH e.1 g.1) (e.2*g.2+e.2*g.2),[dr g.1,frP g.2]),Q5 (aS O) (aO Vg) O O,X,Vj⟩
   .have hq:(e.1==g.1)=S1:=Y;have V:(ctr e.1 e.2 g).2=e.2*g.2:=by simp only[ctr,hq,Sz,Up]
    have ad:dM 36 (ctr e.1 e.2 g).2:=by rw[V];exact M
    have X:=hJ.step ad;rw[V]at X;have ae:=ml acc2 (eH e.1 g.1) (e.2*g.2) ac (λx hx=>dD (hJ.ex.choose_spec.2.ok.it x hx) (hJ.abs (t2:=l1++e::l2) hdP J.s U.s aj J.sb L U.sb x hx) sm3);refine Q3<|RW 7 O ?_;iterate 4 refine D1 O ?_
    refine Ds [] O (λτ h=>aa call142 ao (h.aK O)) O Vg<|D1 O<|Ds [4] O (λτ h=>bt [4] 13 call141 ae (h.args.trans O) O O O ⟨(Eo h 0 O O),Vm⟩ Vh O) O Vg ?_;refine⟨Vg,?_⟩;exact⟨(l3++l4,note acc2 (eH e.1 g.1) (e.2*g.2),[dr g.1,frP g.2]),Q5 (aS O) (aO Vg) O O,X,Vj⟩
  .obtain⟨_,rfl,_⟩:=(gI.ofE hN2).resolve_right (by rintro⟨h,_⟩;rw[h]at H;cases H);have ap:=hJ.out hdP;exact Gx O<|⟨(l1++l2,acc2,[dr e.1,frP e.2]),Q5 (aS O) (aO Vg) O O,ap,Vj⟩
 .obtain⟨_,rfl,_⟩:=(gI.ofE hN).resolve_right (by rintro⟨h,_⟩;rw[h]at G;cases G);have ay:=hI.end;exact Gx O<|Z2 O<|Q4 (St.cw (ks:=aI dr (srt cD s2)) (vs:=aN (srt cD s2)) 3 Vg (Pc _ _) (pubE (bm cD s2).symm))<|Q4 (St.cw (ks:=aI ppP (srt dU acc)) (vs:=aN (srt dU acc)) 4 Vg (Pc _ _) (pubE (bm dU acc).symm))<|Gt O<|⟨_,_,O,O,⟨az ⟨_,underlying120,O⟩ j0 O O O,Vm⟩,⟨v.c*w.c,srt cD s2,srt dU acc⟩,⟨O,hR2.s.srt,hI.ok.srt,λe he=>hI.po e ((bm _ _).mem_iff.1 he),eh fm hR2.s.nd,eh du hI.ok.nd,λx=>by rw[fr (bm _ _),hR2.es,hR1.es];simp only[lk];grind,λx y=>by rw[fr (bm _ _),ay,hR2.ep,hR1.ep];simp only[lk];grind⟩,O⟩
end
end Go.Proofs.YtoplpepiabedhaaGreatDoor
