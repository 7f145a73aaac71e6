/- Lemmas. No condition. -/
import Derived.Maps.RangeRun
import Derived.Test.YtoplpepiabedhaaGreatDoorJB8
set_option maxRecDepth 100000
set_option maxHeartbeats 4000000
open Go.RowKit Go.Proofs.Tryz
namespace Go.Proofs.YtoplpepiabedhaaGreatDoor
section
namespace Mm
open Jn
theorem ED(a b:Int):tK b a= -tK a b:=by unfold tK;split<;>split<;>(try split)<;>omega
theorem ot{a b:Int}:tK a b=0↔a=b:=by
 unfold tK;constructor
 ·intro h;split at h<;>(try split at h)<;>omega
 ·rintro rfl;simp
theorem orI2(a b:Int):orI [a,b]=if a≠0 then a else b:=by
 unfold orI;by_cases h:a=0
 ·subst h;by_cases h2:b=0
  ·subst h2;rfl
  ·simp[h2]
 ·simp[h]
theorem mE(s t:ByteArray):sr s t=if s.toList<t.toList then-1 else if s=t then 0 else 1:=by
 unfold sr;rw[lZ];by_cases h:s.toList<t.toList
 ·simp[h]
 ·rw[Pt h,dw Tu,dw h,Bool.false_or];by_cases h2:s=t
  ·subst h2;simp
  ·rw[dw h2,AT];have:s.toList≠t.toList:=fun e=>h2 (bytes_inj e)
   simp[this]
theorem OK{a b:List UInt8}(h1:¬a<b)(h2:¬b<a):a=b:=List.le_antisymm (List.not_lt.1 h2) (List.not_lt.1 h1)
theorem AX{s t:ByteArray}:sr s t=0↔s=t:=by
 rw[mE];constructor
 ·intro h;split at h
  ·omega
  ·split at h
   ·assumption
   ·omega
 ·rintro rfl;rw[dw (List.lt_irrefl _),AT O]
theorem DX(s t:ByteArray):sr t s= -sr s t:=by
 rw[mE,mE];by_cases h1:s.toList<t.toList
 ·rw[AT h1,dw (fun h=>List.lt_asymm h1 h),dw (fun e=>by subst e;exact List.lt_irrefl _ h1)];rfl
 ·by_cases h2:t.toList<s.toList
  ·rw[dw h1,AT h2,dw (fun e=>by subst e;exact List.lt_irrefl _ h2)]
  ·have:s=t:=bytes_inj (OK h1 h2);subst this;rw[dw h1,AT O];rfl
theorem mu(p q:Par):cq p q=if p.f≠q.f then tK p.f q.f else sr p.c q.c:=by
 unfold cq;rw[orI2];by_cases h:p.f=q.f
 ·rw[dw (by simp[ot.2 h]),dw (by simp[h])]
 ·rw[AT (fun e=>h (ot.1 e)),AT h]
theorem iu(p q:Par):cq q p= -cq p q:=by
 rw[mu,mu];by_cases h:p.f=q.f
 ·rw[dw (by simp[h]),dw (by simp[h]),DX]
 ·rw[AT (Ne.symm h),AT h,ED]
theorem eP{p q:Par}:cq p q=0↔p=q:=by
 rw[mu];by_cases h:p.f=q.f
 ·rw[dw (by simp[h]),AX];constructor
  ·intro e;obtain⟨a,s⟩:=p;obtain⟨b,t⟩:=q;simp only at h e;subst h e;rfl
  ·rintro rfl;rfl
 ·rw[AT h,ot];exact⟨fun e=>absurd e h,fun e=>absurd (ag Par.f e) h⟩
theorem AM{a b c:ByteArray}(h1:sr a b<0)(h2:sr b c<0):sr a c<0:=by
 have key:∀x y:ByteArray,sr x y<0↔x.toList<y.toList:=fun x y=>by
  rw[mE];constructor
  ·intro h;split at h
   ·assumption
   ·split at h<;>omega
  ·intro h;rw[AT h];omega
 rw[key]at*;exact List.lt_trans h1 h2
theorem kS{p q r:Par}(h1:cq p q<0)(h2:cq q r<0):cq p r<0:=by
 rw[mu]at*;have hI:∀a b:Int,tK a b<0->a<b:=fun a b h=>by unfold tK at h;split at h;assumption;split at h<;>omega
 have hI2:∀a b:Int,a<b->tK a b<0:=fun a b h=>by unfold tK;rw[AT h];omega
 by_cases e1:p.f=q.f
 ·rw[dw (by simp[e1])]at h1;rw[e1];by_cases e2:q.f=r.f
  ·rw[dw (by simp[e2])]at h2 ⊢;exact AM h1 h2
  ·rw[AT e2]at h2 ⊢;exact h2
 ·rw[AT e1]at h1;have:=hI _ _ h1;by_cases e2:q.f=r.f
  ·rw[<-e2,AT e1];exact h1
  ·rw[AT e2]at h2;have:=hI _ _ h2;rw[AT Ts];exact hI2 _ _ Ts
def dO(a b:Par):PP:=if cq a b>0 then(b,a)else(a,b)
theorem D0(a b:Par):dO a b=dO b a:=by
 unfold dO;have h:=iu a b;by_cases h1:cq a b>0
 ·rw[AT h1,dw Ts]
 ·by_cases h2:cq a b=0
  ·have:=eP.1 h2;subst this;rfl
  ·rw[dw h1,AT Ts]
theorem LX(a b:Par):cq (dO a b).1 (dO a b).2<=0:=by
 unfold dO;have h:=iu a b;split
 ·simp only;omega
 ·simp only;omega
theorem eM{a b:Par}(h:cq a b<=0):dO a b=(a,b):=by unfold dO;rw[dw Ts]
theorem ph(a b:Par):dO a b=(a,b)\/dO a b=(b,a):=by unfold dO;split<;>simp
theorem y8{a b c d:Par}(h:dO a b=dO c d):(a=c/\b=d)\/(a=d/\b=c):=by
 rcases ph a b with e1|e1<;>rcases ph c d with e2|e2<;>rw[e1,e2,Prod.mk.injEq]at h
 ·exact .inl h
 ·exact .inr h
 ·exact .inr ⟨h.2,h.1⟩
 ·exact .inl ⟨h.2,h.1⟩
structure MC where
 c:Rat
 s:List (Par×Rat)
 p:List (PP×Rat)
def MC.sem(m:MC):Sem:=⟨m.c,lk m.s,fun a b=>lk m.p (dO a b)⟩
structure LOk{K:Type}(D:Int)(l:List (K×Rat)):Prop where
 nd:(l.map (·.1)).Nodup
 nz:∀e∈l,e.2≠0
 it:∀e∈l,db D e.2
theorem LOk.nil{K:Type}(D:Int):LOk (K:=K) D []:=⟨Tw,Tw,Tw⟩
theorem LOk.note{K:Type}[BEq K][LawfulBEq K]{D:Int}{l:List (K×Rat)}(h:LOk D l)(k:K){x:Rat}(hx:db D x):LOk D (note l k x):=by
 refine⟨DG h.nd k x,fun e he=>?_,fun e he=>?_⟩
 ·rcases qT he with h1|⟨_,h2,_⟩
  ·exact h.nz e h1
  ·exact h2
 ·rcases qT he with h1|⟨_,_,h2|⟨o,h3,h4⟩⟩
  ·exact h.it e h1
  ·rw[h2];exact hx
  ·rw[h4];exact hx.add (h.it _ h3)
theorem LOk.perm{K:Type}[BEq K][LawfulBEq K]{D:Int}{l m:List (K×Rat)}(h:LOk D l)(h':LOk D m)(e:∀k,lk l k=lk m k):l.Perm m:=by
 have nd:∀{l:List (K×Rat)},LOk D l->l.Nodup:=fun{l} h=>by
  exact(Q9.1 h.nd).imp fun hne e=>hne (by rw[e])
 have sub:∀{l m:List (K×Rat)},LOk D l->LOk D m->(∀k,lk l k=lk m k)->∀x∈l,x∈m:=fun{l m} h h' e x hx=>by
  have h1:=fv h.nd hx;rw[e]at h1;rcases eA m x.1 with⟨l1,o,l2,rfl,_⟩|hk
  ·have h2:=fv h'.nd (e:=(x.1,o)) Tw;simp only at h2;rw[h1]at h2;have:x=(x.1,o):=by rw[<-h2]
   rw[this];simp
  ·rw[pC hk]at h1;exact absurd h1.symm (h.nz x hx)
 exact(List.perm_ext_iff_of_nodup (nd h) (nd h')).2 fun x=>⟨sub h h' e x,sub h' h (fun k=>(e k).symm) x⟩
structure MOk(W k:Nat)(m:MC):Prop where
 ci:∃z:Int,m.c=(z:Rat)
 s:LOk 6 m.s
 p:LOk 36 m.p
 po:∀e∈m.p,cq e.1.1 e.1.2<=0
 cb:a6 W m.c
 sb:∀e∈m.s,a6 (3*k*W) e.2
 pb:∀e∈m.p,a6 (9*k*k*W) e.2
theorem MOk.up{W k W' k':Nat}{m:MC}(h:MOk W k m)(hW:W<=W')(hk:k<=k'):MOk W' k' m:=
 ⟨h.ci,h.s,h.p,h.po,h.cb.up hW,fun e he=>(h.sb e he).up (Qc (P8 3 hk) hW),fun e he=>(h.pb e he).up (Qc (Qc (P8 9 hk) hk) hW)⟩
theorem MOk.uV{W k:Nat}{m:MC}(h:MOk W k m)(x:Par):a6 (3*k*W) (m.sem.s x):=fZ h.s.nd h.sb x
theorem MOk.semP{W k:Nat}{m:MC}(h:MOk W k m)(x y:Par):a6 (9*k*k*W) (m.sem.p x y):=fZ h.p.nd h.pb _
theorem MOk.of{W k:Nat}{m:MC}(ci:∃z:Int,m.c=(z:Rat))(s:LOk 6 m.s)(p:LOk 36 m.p)(po:∀e∈m.p,cq e.1.1 e.1.2<=0)(cb:a6 W m.sem.c)(sb:∀x,a6 (3*k*W) (m.sem.s x))(pb:∀x y,a6 (9*k*k*W) (m.sem.p x y)):MOk W k m:=by
 refine⟨ci,s,p,po,cb,fun e he=>?_,fun e he=>?_⟩
 ·have:=sb e.1;rw[show m.sem.s e.1=lk m.s e.1 from O,fv s.nd he]at this;exact this
 ·have:=pb e.1.1 e.1.2;rw[show m.sem.p e.1.1 e.1.2=lk m.p (dO e.1.1 e.1.2)from O,eM (po e he),show(e.1.1,e.1.2)=e.1 from O,fv p.nd he]at this;exact this
theorem MOk.perm{W k W' k':Nat}{m m':MC}(h:MOk W k m)(h':MOk W' k' m')(e:m.sem=m'.sem):m.c=m'.c/\m.s.Perm m'.s/\m.p.Perm m'.p:=by
 refine⟨ag Sem.c e,h.s.perm h'.s fun k=>congrFun (ag Sem.s e) k,h.p.perm h'.p fun k=>?_⟩;have key:∀{m:MC}{W k:Nat},MOk W k m->∀x:PP,lk m.p x=if cq x.1 x.2<=0 then m.sem.p x.1 x.2 else 0:=fun{m W k} h x=>by
  by_cases hx:cq x.1 x.2<=0
  ·rw[AT hx];show _=lk m.p (dO x.1 x.2);rw[eM hx]
  ·rw[dw hx];exact pC fun e he e1=>hx (by rw[<-e1];exact h.po e he)
 rw[key h,key h',e]
end Mm
end
section
namespace Mm
open Jn
section
variable {K:Type}[BEq K][LawfulBEq K]
omit [LawfulBEq K] in
theorem eE{l m:List (K×Rat)}(h:l.Perm m)(k:K):lk l k=lk m k:=by
 induction h with
 |nil=>rfl
 |cons e _ ih=>simp only[lk,ih]
 |swap a b l=>simp only[lk];grind
 |trans _ _ ih1 ih2=>rw[ih1,ih2]
structure Inc(D:Int)(b w:List (K×Rat))(q:Rat)(todo acc:List (K×Rat)):Prop where
 ok:LOk D acc
 ex:∃d,(d++todo).Perm w/\∀k,lk acc k=lk b k+lk d k*q
omit [LawfulBEq K] in
theorem Inc.start{D:Int}{b:List (K×Rat)}(h:LOk D b)(w:List (K×Rat))(q:Rat):Inc D b w q w b:=
 ⟨h,[],PY _,fun k=>by simp only[lk];grind⟩
theorem Inc.step{D:Int}{b w:List (K×Rat)}{q:Rat}{l1 l2:List (K×Rat)}{e:K×Rat}{acc:List (K×Rat)}(h:Inc D b w q (l1++e::l2) acc)(he:db D (e.2*q)):Inc D b w q (l1++l2) (note acc e.1 (e.2*q)):=by
 obtain⟨d,h1,h2⟩:=h.ex;refine⟨h.ok.note _ he,d++[e],?_,fun k=>?_⟩
 ·refine List.Perm.trans ?_ h1;rw[Si];refine List.Perm.append_left d ?_;show(e::(l1++l2)).Perm (l1++e::l2);exact(SU).symm
 ·rw[DJ,h2,dA];simp only[lk];split<;>grind
omit [LawfulBEq K] in
theorem Inc.end{D:Int}{b w:List (K×Rat)}{q:Rat}{acc:List (K×Rat)}(h:Inc D b w q [] acc)(k:K):lk acc k=lk b k+lk w k*q:=by
 obtain⟨d,h1,h2⟩:=h.ex;rw[PZ]at h1;rw[h2,eE h1]
omit [LawfulBEq K] in
theorem Inc.mem{D:Int}{b w:List (K×Rat)}{q:Rat}{todo acc:List (K×Rat)}(h:Inc D b w q todo acc){e:K×Rat}(he:e∈todo):e∈w:=by
 obtain⟨d,h1,_⟩:=h.ex;exact h1.subset (by simp[he])
theorem Inc.abs{D:Int}{b w:List (K×Rat)}{q:Rat}{todo acc:List (K×Rat)}{B C Q:Nat}(h:Inc D b w q todo acc)(hb:LOk D b)(hw:LOk D w)(bb:∀e∈b,a6 B e.2)(bw:∀e∈w,a6 C e.2)(bq:a6 Q q):∀e∈acc,a6 (B+C*Q) e.2:=by
 intro e he;obtain⟨d,h1,h2⟩:=h.ex;rw[<-fv h.ok.nd he,h2];have hd:(d.map (·.1)).Nodup:=by
  have:=(h1.map (·.1)).nodup_iff.2 hw.nd;rw[PD]at this;exact(Sg.1 this).1
 exact(fZ hb.nd bb _).add ((fZ hd (fun x hx=>bw x (h1.subset (by simp[hx]))) _).mul bq)
end
def ctr(p:Par)(x:Rat)(e:Par×Rat):PP×Rat:=(dO p e.1,if p==e.1 then x*e.2+x*e.2 else x*e.2)
theorem Nh(p:Par)(x:Rat)(e:Par×Rat)(a b:Par):(if dO p e.1==dO a b then(if p==e.1 then x*e.2+x*e.2 else x*e.2)else 0)=(if p==a then x else 0)*(if e.1==b then e.2 else 0)+(if p==b then x else 0)*(if e.1==a then e.2 else 0):=by
 obtain⟨q,y⟩:=e
 classical
 simp only;have hb:∀u v:Par,(u==v)=decide (u=v):=fun u v=>by
  by_cases h:u=v
  ·subst h;simp
  ·rw[Pt h];cases hh:u==v with
   |false=>rfl
   |true=>exact absurd (eq_of_beq hh) h
 have hb2:∀u v:PP,(u==v)=decide (u=v):=fun u v=>by
  by_cases h:u=v
  ·subst h;simp
  ·rw[Pt h];cases hh:u==v with
   |false=>rfl
   |true=>exact absurd (eq_of_beq hh) h
 have ho:dO p q=dO a b↔(p=a/\q=b)\/(p=b/\q=a):=by
  constructor
  ·exact y8
  ·rintro(⟨rfl,rfl⟩|⟨rfl,rfl⟩)
   ·rfl
   ·exact D0 _ _
 simp only[hb,hb2,Po,ho];by_cases h1:p=a<;>by_cases h2:q=b<;>by_cases h3:p=b<;>by_cases h4:q=a<;>by_cases h5:p=q<;>simp only[h1,h2,h3,h4,h5,true_and,and_true,false_and,and_false,or_true,true_or,R6,false_or,Te,SD]<;>first|grind|(exfalso;grind)|skip
structure Crs(b:List (PP×Rat))(ws dP dQ:List (Par×Rat))(p:Par)(x:Rat)(acc:List (PP×Rat)):Prop where
 ok:LOk 36 acc
 po:∀e∈acc,cq e.1.1 e.1.2<=0
 eq:∀u v,lk acc (dO u v)=lk b (dO u v)+(lk dP u*lk ws v+lk dP v*lk ws u)+((if p==u then x else 0)*lk dQ v+(if p==v then x else 0)*lk dQ u)
theorem Lr{l:List (PP×Rat)}(h:∀e∈l,cq e.1.1 e.1.2<=0)(a b:Par)(x:Rat):∀e∈note l (dO a b) x,cq e.1.1 e.1.2<=0:=fun e he=>by
 rcases qT he with h1|⟨h1,_⟩
 ·exact h e h1
 ·rw[h1];exact LX a b
theorem Crs.step{b:List (PP×Rat)}{ws dP dQ:List (Par×Rat)}{p:Par}{x:Rat}{acc:List (PP×Rat)}(h:Crs b ws dP dQ p x acc)(e:Par×Rat)(hi:db 36 (ctr p x e).2):Crs b ws dP (dQ++[e]) p x (note acc (dO p e.1) (ctr p x e).2):=by
 refine⟨h.ok.note _ hi,Lr h.po _ _ _,fun u v=>?_⟩;rw[DJ,h.eq,dA,dA];have:=Nh p x e u v;simp only[ctr]at*;rw[this];simp only[lk]
 grind
theorem Crs.row{b:List (PP×Rat)}{ws dP dQ:List (Par×Rat)}{p:Par}{x:Rat}{acc:List (PP×Rat)}(h:Crs b ws dP dQ p x acc)(hq:dQ.Perm ws)(p':Par)(x':Rat):Crs b ws (dP++[(p,x)]) [] p' x' acc:=by
 refine⟨h.ok,h.po,fun u v=>?_⟩;rw[h.eq,dA,dA,eE hq,eE hq];simp only[lk]
 grind
theorem Crs.abs{b:List (PP×Rat)}{ws dP dQ:List (Par×Rat)}{p:Par}{x:Rat}{acc:List (PP×Rat)}{B C E:Nat}(h:Crs b ws dP dQ p x acc)(hb:∀u v,a6 B (lk b (dO u v)))(hp:∀u,a6 C (lk dP u))(hx:a6 C x)(hw:∀u,a6 E (lk ws u))(hq:∀u,a6 E (lk dQ u)):∀e∈acc,a6 (B+(C*E+C*E)+(C*E+C*E)) e.2:=by
 intro e he;have h1:=fv h.ok.nd he;have h2:=h.eq e.1.1 e.1.2;rw[eM (h.po e he)]at h2;rw[<-h1,show e.1=(e.1.1,e.1.2)from O,h2];have hb':=hb e.1.1 e.1.2;rw[eM (h.po e he)]at hb';have hi:∀u,a6 C (if p==u then x else 0):=fun u=>by split;exact hx;exact a6.zero C
 exact(hb'.add (((hp _).mul (hw _)).add ((hp _).mul (hw _)))).add (((hi _).mul (hq _)).add ((hi _).mul (hq _)))
theorem MOk.mul{W k W' k':Nat}{v w m:MC}(hv:MOk W k v)(hw:MOk W' k' w)(hc:m.c=v.c*w.c)(hs:LOk 6 m.s)(hp:LOk 36 m.p)(po:∀e∈m.p,cq e.1.1 e.1.2<=0)
  (es:∀x,lk m.s x=lk w.s x*v.c+lk v.s x*w.c) (ep:∀x y,lk m.p (dO x y)=lk w.p (dO x y)*v.c+lk v.p (dO x y)*w.c+(lk v.s x*lk w.s y+lk v.s y*lk w.s x)):
  m.sem=Sem.mul v.sem w.sem/\MOk (W*W') (k+k') m:=by
 have e:m.sem=Sem.mul v.sem w.sem:=Sem.same hc (fun x=>by show lk m.s x=_;rw[es];simp only[Sem.mul,MC.sem];grind) (fun x y=>by show lk m.p (dO x y)=_;rw[ep];simp only[Sem.mul,MC.sem];grind);refine⟨e,MOk.of ?_ hs hp po ?_ (fun x=>?_) fun x y=>?_⟩
 ·obtain⟨a,ha⟩:=hv.ci;obtain⟨b,hb⟩:=hw.ci;exact⟨a*b,by rw[hc,ha,hb,RY]⟩
 ·show a6 _ m.c;rw[hc];exact hv.cb.mul hw.cb
 ·rw[e];refine((hv.cb.mul (hw.uV x)).add (hw.cb.mul (hv.uV x))).up (Qp ?_)
  grind
 ·rw[e];refine(((hv.cb.mul (hw.semP x y)).add (hw.cb.mul (hv.semP x y))).add (((hv.uV x).mul (hw.uV y)).add ((hv.uV y).mul (hw.uV x)))).up (Qp ?_)
  grind
theorem MOk.add{W W' k:Nat}{v w m:MC}(hv:MOk W k v)(hw:MOk W' k w)(hc:m.c=v.c+w.c)(hs:LOk 6 m.s)(hp:LOk 36 m.p)(po:∀e∈m.p,cq e.1.1 e.1.2<=0)
  (es:∀x,lk m.s x=lk v.s x+lk w.s x) (ep:∀x,lk m.p x=lk v.p x+lk w.p x):m.sem=Sem.add v.sem w.sem/\MOk (W+W') k m:=by
 have e:m.sem=Sem.add v.sem w.sem:=Sem.same hc es (fun x y=>ep _);refine⟨e,MOk.of ?_ hs hp po ?_ (fun x=>?_) fun x y=>?_⟩
 ·obtain⟨a,ha⟩:=hv.ci;obtain⟨b,hb⟩:=hw.ci;exact⟨a+b,by rw[hc,ha,hb,Rat.intCast_add]⟩
 ·show a6 _ m.c;rw[hc];exact hv.cb.add hw.cb
 ·rw[e];refine((hv.uV x).add (hw.uV x)).up (Qp ?_)
  grind
 ·rw[e];refine((hv.semP x y).add (hw.semP x y)).up (Qp ?_)
  grind
end Mm
end
section
namespace Mm
open Jn
structure Cmp{K:Type}(cmp:K->K->Int):Prop where
 swap:∀a b,cmp b a= -cmp a b
 zero:∀{a b},cmp a b=0->a=b
 trans:∀{a b c},cmp a b<0->cmp b c<0->cmp a c<0
theorem eF:Cmp cq:=⟨iu,eP.1,kS⟩
def dz(a b:PP):Int:=orI [cq a.1 b.1,cq a.2 b.2]
theorem cV:Cmp dz:=by
 have e:∀a b:PP,dz a b=if cq a.1 b.1≠0 then cq a.1 b.1 else cq a.2 b.2:=fun a b=>orI2 _ _
 refine⟨fun a b=>?_,fun{a b} h=>?_,fun{a b c} h1 h2=>?_⟩
 ·rw[e,e,iu a.1 b.1,iu a.2 b.2];by_cases h:cq a.1 b.1=0
  ·rw[dw Ts,dw Ts]
  ·rw[AT Ts,AT h]
 ·rw[e]at h;split at h
  ·rename_i h1;exact absurd h h1
  ·rename_i h1;exact Prod.ext (eP.1 Ts) (eP.1 h)
 ·rw[e]at*;by_cases e1:cq a.1 b.1=0
  ·rw[dw Ts]at h1;rw[eP.1 e1];by_cases e2:cq b.1 c.1=0
   ·rw[dw Ts]at h2 ⊢;exact kS h1 h2
   ·rw[AT e2]at h2 ⊢;exact h2
  ·rw[AT e1]at h1;by_cases e2:cq b.1 c.1=0
   ·rw[<-eP.1 e2,AT e1];exact h1
   ·rw[AT e2]at h2;have:=kS h1 h2;rw[AT Ts];exact this
section
variable {K:Type}(cmp:K->K->Int)
def LP(e:K×Rat):List (K×Rat)->List (K×Rat)
 |[]=>[e]
 |x::l=>if cmp x.1 e.1<0 then x::LP e l else e::x::l
def srt(l:List (K×Rat)):List (K×Rat):=l.foldr (LP cmp) []
abbrev Asc(l:List (K×Rat)):Prop:=l.Pairwise fun a b=>cmp a.1 b.1<0
theorem oC(e:K×Rat):∀l,(LP cmp e l).Perm (e::l)
 |[]=>PY _
 | x::l=>by
   simp only[LP];split
   ·exact(List.Perm.cons _ (oC e l)).trans (List.Perm.swap _ _ _)
   ·exact PY _
theorem a8:∀l,(srt cmp l).Perm l
 |[]=>PY _
 |e::l=>(oC cmp e _).trans (List.Perm.cons _ (a8 l))
variable {cmp}
theorem yB(h:Cmp cmp){e:K×Rat}:∀{l},Asc cmp l->(∀x∈l,x.1≠e.1)->Asc cmp (LP cmp e l)
 |[],_,_=>by simp[LP,Asc]
 | x::l,ha,hn=>by
   obtain⟨h1,h2⟩:=PW.1 ha;simp only[LP];split
   ·rename_i hx;refine PW.2 ⟨fun y hy=>?_,yB h h2 fun z hz=>hn z (by simp[hz])⟩;rcases AS.1 ((oC cmp e l).mem_iff.1 hy)with rfl|hy
    ·exact hx
    ·exact h1 y hy
   ·rename_i hx;have hne:=hn x Tw;have hz:cmp x.1 e.1≠0:=fun e0=>hne (h.zero e0)
    have hs:=h.swap x.1 e.1;have hlt:cmp e.1 x.1<0:=Ts;refine PW.2 ⟨fun y hy=>?_,ha⟩;rcases AS.1 hy with rfl|hy
    ·exact hlt
    ·exact h.trans hlt (h1 y hy)
theorem dI(h:Cmp cmp):∀{l:List (K×Rat)},(l.map (·.1)).Nodup->Asc cmp (srt cmp l)
 |[],_=>List.Pairwise.nil
 | e::l,hn=>by
   simp only[bL,Rz]at hn;refine yB h (dI h hn.2) fun x hx e1=>hn.1 ?_
   exact IT.2 ⟨x,(a8 cmp l).mem_iff.1 hx,e1⟩
theorem iY(h:Cmp cmp):∀{l m:List (K×Rat)},Asc cmp l->Asc cmp m->l.Perm m->l=m
 |[],m,_,_,hp=>(List.Perm.nil_eq hp)
 |x::l,[],_,_,hp=>absurd hp.length_eq Tw
 | x::l,y::m,hl,hm,hp=>by
   obtain⟨h1,h2⟩:=PW.1 hl;obtain⟨h3,h4⟩:=PW.1 hm;have irr:∀k,¬cmp k k<0:=fun k e=>by have:=h.swap k k;omega
   have hxy:x=y:=by
    have hx:x∈y::m:=hp.mem_iff.1 Tw;have hy:y∈x::l:=hp.mem_iff.2 Tw;rcases AS.1 hx with e|hx
    ·exact e
    ·rcases AS.1 hy with e|hy
     ·exact e.symm
     ·have a:=h3 x hx;have b:=h1 y hy;exact absurd (h.trans a b) (irr _)
   subst hxy;rw[iY h h2 h4 (List.Perm.cons_inv hp)]
theorem GK(h:Cmp cmp){l:List (K×Rat)}(ha:Asc cmp l):(l.map (·.1)).Nodup:=by
 rw[List.Nodup,Q9];exact ha.imp fun{a b} hlt e=>by have:=h.swap a.1 a.1;rw[<-e]at hlt;omega
theorem JX(h:Cmp cmp){l:List (K×Rat)}(ha:Asc cmp l):srt cmp l=l:=iY h (dI h (GK h ha)) ha (a8 cmp l)
theorem LOk.srt{D:Int}{l:List (K×Rat)}(h:LOk D l):LOk D (srt cmp l):=
 ⟨((a8 cmp l).map _).nodup_iff.2 h.nd,fun e he=>h.nz e ((a8 cmp l).mem_iff.1 he),fun e he=>h.it e ((a8 cmp l).mem_iff.1 he)⟩
end
def canon(m:MC):MC:=⟨m.c,srt cq m.s,srt dz m.p⟩
theorem Bo(m:MC):(canon m).sem=m.sem:=Sem.same O (fun x=>eE (a8 _ _) x) (fun x y=>eE (a8 _ _) _)
theorem MOk.canon{W k:Nat}{m:MC}(h:MOk W k m):MOk W k (canon m):=
 ⟨h.ci,h.s.srt,h.p.srt,fun e he=>h.po e ((a8 _ _).mem_iff.1 he),h.cb,fun e he=>h.sb e ((a8 _ _).mem_iff.1 he),fun e he=>h.pb e ((a8 _ _).mem_iff.1 he)⟩
theorem FV{W k W' k':Nat}{m m':MC}(h:MOk W k m)(h':MOk W' k' m')(e:m.sem=m'.sem):canon m=canon m':=by
 obtain⟨e1,e2,e3⟩:=h.perm h' e;have hs:srt cq m.s=srt cq m'.s:=iY eF (dI eF h.s.nd) (dI eF h'.s.nd) ((a8 _ _).trans (e2.trans (a8 _ _).symm));have hp:srt dz m.p=srt dz m'.p:=iY cV (dI cV h.p.nd) (dI cV h'.p.nd) ((a8 _ _).trans (e3.trans (a8 _ _).symm));rw[Mm.canon,Mm.canon,e1,hs,hp]
def SOk(W k:Nat)(x:Sem):Prop:=∃m,MOk W k m/\m.sem=x
theorem SOk.up{W k W' k':Nat}{x:Sem}(h:SOk W k x)(hW:W<=W')(hk:k<=k'):SOk W' k' x:=by
 obtain⟨m,h1,h2⟩:=h;exact⟨m,h1.up hW hk,h2⟩
open Classical in
noncomputable def cn(x:Sem):MC:=if h:∃m,(∃W k,MOk W k m)/\m.sem=x then canon h.choose else⟨0,[],[]⟩
theorem NF{W k:Nat}{m:MC}(h:MOk W k m):cn m.sem=canon m:=by
 have hex:∃m',(∃W k,MOk W k m')/\m'.sem=m.sem:=⟨m,⟨W,k,h⟩,O⟩;obtain⟨⟨W',k',h1⟩,h2⟩:=hex.choose_spec;rw[cn,dif_pos hex];exact FV h1 h h2
theorem SOk.cn{W k:Nat}{x:Sem}(h:SOk W k x):MOk W k (cn x)/\(cn x).sem=x/\Asc cq (cn x).s/\Asc dz (cn x).p:=by
 obtain⟨m,h1,rfl⟩:=h;rw[NF h1];exact⟨h1.canon,Bo m,dI eF h1.s.nd,dI cV h1.p.nd⟩
theorem L3{W k:Nat}{m:MC}(h:MOk W k m)(hs:Asc cq m.s)(hp:Asc dz m.p):cn m.sem=m:=by
 rw[NF h,Mm.canon,JX eF hs,JX cV hp]
end Mm
end
section
theorem St.Oc{σ τ:St}(p:Nat->Bool)(ρ:Nat->Nat)(hs:∀t,τ.sl t= .pv .any\/σ.sl t=(τ.sl t).ren ρ)(hsp:∀t,(τ.sl t).all p=true)
  (ho:∀i o,τ.ob i=some o->σ.ob (ρ i)=some (o.ren ρ)/\p i=true/\o.all p=true) (hinj:∀i j,p i=true->p j=true->ρ i=ρ j->i=j)
  (hav:∀i,p i=true->τ.av i=false) (hbig:∀i,big<=i->τ.av i=false/\ρ i=i):σ.le τ:=by
 rintro C n a w ⟨m,R,hw⟩
 let m2:Gm:=fun i=>if(τ.ob i).isSome then m (ρ i)else none
 have sub:∀i x,m2 i=some x->m (ρ i)=some x/\p i=true:=fun i x h=>by
  simp only[m2]at h;split at h
  ·rename_i hs;obtain⟨o,hoo⟩:=PB.1 hs;exact⟨h,(ho i o hoo).2.1⟩
  ·cases h
 have um:∀i x,p i=true->m2 i=some x->m (ρ i)=some x:=fun i x _ h=>(sub i x h).1
 refine⟨m2,R,⟨?_,?_,?_,?_,?_,hw.hr.rsz,hw.hr.rfr,hw.hr.r0,hw.hr.frame,?_,fun i hi=>(hbig i hi).1⟩,hw.df,hw.sz,?_⟩
 ·intro i;simp only[m2];cases e:τ.ob i with
  |none=>rfl
  | some o=>
    have:=hw.hr.dom (ρ i);rw[(ho i o e).1]at this;simpa[bE,Ob.iF]using this
 ·intro i hi;cases e:τ.ob i with
  |none=>rfl
  | some o=>
    have h3:=hav i (ho i o e).2.1;rw[hi]at h3;cases h3
 ·intro i o b N h3 h4;have h5:=ho i o h3;exact(hw.hr.obj _ _ b N h5.1 (sub _ _ h4).1).gl ρ p um hav h5.2.2
 ·intro i j b N N' e1 e2;exact hinj i j (sub _ _ e1).2 (sub _ _ e2).2 (hw.hr.inj _ _ b N N' (sub _ _ e1).1 (sub _ _ e2).1)
 ·exact fun i b N e=>hw.hr.own _ b N (sub _ _ e).1
 ·intro i x hi e;have e2:=(sub i x e).1;rw[(hbig i hi).2]at e2;exact hw.hr.keep i x hi e2
 ·intro t ht;rcases hs t with e|e
  ·rw[e];simp only[Rel,RelP]
  ·have h3:=hw.sl t ht;rw[e]at h3;exact h3.gl ρ p um hav _ _ (hsp t)
def ovl(σ:St)(A:Nat)(TA T:TypeId)(cells:List V)(ls:List (List PV)):St:=
 ⟨σ.sl,fun id=>bif Nat.beq id A then some (.mix TA cells)else bif (Nat.ble 1000 id&&Nat.blt id (1000+ls.length))then some (.gro T (ls.getD (id-1000) []))else σ.ob id,fun id=>σ.av id&&Nat.blt id 1000⟩
def chV(ls:List (List PV)):List V:=ls.zipIdx.map fun p=> .gsl (p.2+1000) 1 p.1.length
def chP(ls:List (List PV)):List V:=ls.map fun c=> .pv (.sl none c.length c)
theorem BN{ls:List (List PV)}{j:Nat}(h:j<ls.length):(chV ls)[j*1]? =some (.gsl (j+1000) 1 ls[j].length):=by
 simp[chV,h]
theorem iz(ls:List (List PV)):(chV ls).length=ls.length:=by simp[chV]
theorem beqT{i k:Nat}(h:i=k):Nat.beq i k=true:=by subst h;exact Sn i
theorem Dj{i k:Nat}(h:i≠k):Nat.beq i k=false:=by
 cases hb:Nat.beq i k with
 |false=>rfl
 |true=>exact absurd (aI hb) h
theorem bltT{i k:Nat}(h:i<k):Nat.blt i k=true:=RI h
theorem FH{i k:Nat}(h:Nat.blt i k=true):i<k:=Pp h
theorem cE{σ:St}{A:Nat}{TA T:TypeId}{cells:List V}{ls:List (List PV)}(hA:A<1000){j:Nat}(h:j<ls.length):(ovl σ A TA T cells ls).ob (j+1000)=some (.gro T ls[j]):=by
 show(bif Nat.beq (j+1000) A then _ else _)=_;rw[Dj Ts,PE,show Nat.ble 1000 (j+1000)=true from RI Ts,show Nat.blt (j+1000) (1000+ls.length)=true from bltT Ts];simp[List.getD,h]
theorem kK{σ:St}{A:Nat}{TA T:TypeId}{cells:List V}{ls:List (List PV)}{i:Nat}(h:i≠A)(h2:i<1000):(ovl σ A TA T cells ls).ob i=σ.ob i:=by
 show(bif Nat.beq i A then _ else _)=_;rw[Dj h,PE];have:Nat.ble 1000 i=false:=by
  cases hb:Nat.ble 1000 i with
  |false=>rfl
  |true=>have:=Pp hb;omega
 rw[this];rfl
theorem py{σ:St}{A:Nat}{TA T:TypeId}{cells:List V}{ls:List (List PV)}(hA:A<1000){i:Nat}(h:1000+ls.length<=i):(ovl σ A TA T cells ls).ob i=σ.ob i:=by
 show(bif Nat.beq i A then _ else _)=_;rw[Dj Ts,PE];have:Nat.blt i (1000+ls.length)=false:=by
  cases hb:Nat.blt i (1000+ls.length)with
  |false=>rfl
  |true=>have:=FH hb;omega
 rw[this,Bool.and_false];rfl
theorem tS{σ:St}{A:Nat}{TA T:TypeId}{cells:List V}{ls:List (List PV)}:(ovl σ A TA T cells ls).ob A=some (.mix TA cells):=by
 show(bif Nat.beq A A then _ else _)=_;rw[beqT O];rfl
theorem St.Du{σ:St}{A:Nat}{TA:TypeId}(T:TypeId)(m:Nat)(ho:σ.ob A=some (.mix TA (List.replicate m (.pv nS))))(hA:A<1000)(hm:m<=1000)(hav:∀i,1000<=i->i<2000->σ.av i=true):σ.le (ovl σ A TA T (chV (List.replicate m [])) (List.replicate m [])):=by
 rintro C n a w ⟨mm,R,hw⟩;have hA2:∀i,σ.av i=false->(ovl σ A TA T (chV (List.replicate m [])) (List.replicate m [])).av i=false:=fun i h=>by
  show(σ.av i&&_)=false;rw[h];rfl
 have hnone:∀i,1000<=i->i<2000->mm i=none:=fun i h1 h2=>by
  have h3:=hw.hr.dom i;rw[hw.hr.free i (hav i h1 h2)]at h3;simpa[bE]using h3
 have hRR:∀b,R b->R b/\w.heap[b]? =w.heap[b]? :=fun b h=>⟨h,O⟩
 refine⟨mm,R,⟨?_,?_,?_,hw.hr.inj,hw.hr.own,hw.hr.rsz,hw.hr.rfr,hw.hr.r0,hw.hr.frame,hw.hr.keep,fun i hi=>hA2 i (hw.hr.res i hi)⟩,hw.df,hw.sz,fun t ht=>(hw.sl t ht).mono hRR (fun _ _ _ e=>e) hA2 _ _⟩
 ·intro i;by_cases e:i=A
  ·subst e;rw[tS,hw.hr.dom,ho];rfl
  ·by_cases h1:i<1000
   ·rw[kK e h1];exact hw.hr.dom i
   ·by_cases h2:i<1000+m
    ·have:=cE (σ:=σ) (TA:=TA) (T:=T) (cells:=chV (List.replicate m [])) (ls:=List.replicate m []) hA (j:=i-1000) Tx;rw[show i-1000+1000=i by omega]at this;rw[this,hnone i Ts Ts];simp[bE,Ob.real]
    ·rw[py hA Tx];exact hw.hr.dom i
 ·intro i h;have h':(σ.av i&&Nat.blt i 1000)=true:=h;rw[sh]at h';have h2:=hw.hr.free i h'.1;have hlt:=FH h'.2;have e:i≠A:=fun e=>by subst e;rw[ho]at h2;cases h2
  rw[kK e hlt];exact h2
 ·intro i o b N h1 h2;by_cases e:i=A
  ·subst e;rw[tS]at h1;cases h1;obtain⟨arr,q1,q2,q3,q4⟩:=hw.hr.obj i _ b N ho h2;refine⟨arr,q1,q2,by rw[iz];simpa using q3,?_⟩;rw[iz];simp only[Rf]at q4 ⊢;have key:∀(k s:Nat)(us:List Value),s+k<=m->RelL w mm σ.av R (List.replicate k (.pv nS)) us->RelL w mm (ovl σ i TA T (chV (List.replicate m [])) (List.replicate m [])).av R (((List.replicate k ([]:List PV)).zipIdx s).map fun p=> .gsl (p.2+1000) 1 p.1.length) us:=by
    intro k;induction k with
    |zero=>intro s us _ h;simpa[RelL]using h
    | succ k ih=>
      intro s us hk h;simp only[Ss,RelL]at h;obtain⟨u,vs,rfl,hu,hv⟩:=h;simp only[Ss,Ti,bL,RelL];refine⟨u,vs,O,?_,ih (s+1) vs Ts hv⟩;simp only[Rel,RelP]at hu ⊢;obtain⟨A',c,rfl,_,hc,hb,hcz,_⟩:=hu;have hAn:=hb true O;refine⟨?_,A',c,O,cd _,hc,fun _=>⟨?_,hcz trivial,hnone _ Ts Ts⟩,fun h=>absurd h Tw⟩
      ·show(σ.av (s+1000)&&Nat.blt (s+1000) 1000)=false;have:Nat.blt (s+1000) 1000=false:=by
        cases hb:Nat.blt (s+1000) 1000 with
        |false=>rfl
        |true=>have:=FH hb;omega
       rw[this,Bool.and_false]
      ·cases A' with
       |none=>rfl
       |some _=>simp at hAn
   exact key m 0 _ Ts q4
  ·by_cases hf:1000<=i/\i<1000+m
   ·have:=hnone i hf.1 Ts;rw[this]at h2;cases h2
   ·have h3:σ.ob i=some o:=by
     by_cases h1000:i<1000
     ·rwa [kK e h1000]at h1
     ·rwa [py hA Tx]at h1
    exact(hw.hr.obj i o b N h3 h2).mono hRR (fun _ _ _ e=>e) hA2 O
mutual
theorem V.all_mono{p q:Nat->Bool}(h:∀i,p i=true->q i=true):∀v:V,v.all p=true->v.all q=true
 | .pv _,_=>rfl
 | .ptr i _,hv=>by simp only[V.all]at hv ⊢; exact h i hv
 | .osl i _ _,hv=>by simp only[V.all]at hv ⊢; exact h i hv
 | .tsl i _ _,hv=>by simp only[V.all]at hv ⊢; exact h i hv
 | .gsl i _ _,hv=>by simp only[V.all]at hv ⊢; exact h i hv
 | .map i,hv=>by simp only[V.all]at hv ⊢; exact h i hv
 | .agg cs,hv=>by simp only[V.all]at hv ⊢; exact V.allL_mono h cs hv
 | .tup cs,hv=>by simp only[V.all]at hv ⊢; exact V.allL_mono h cs hv
 | .fn _ a b,hv=>by simp only[V.all,sh]at hv ⊢; exact⟨V.allL_mono h a hv.1,V.allL_mono h b hv.2⟩
theorem V.allL_mono{p q:Nat->Bool}(h:∀i,p i=true->q i=true):∀vs:List V,V.allL p vs=true->V.allL q vs=true
 |[],_=>rfl
 |c::cs,hv=>by simp only[V.allL,sh]at hv ⊢; exact⟨V.all_mono h c hv.1,V.allL_mono h cs hv.2⟩
end
mutual
theorem V.qZ(id:Nat)(r:Bool)(cs:List PV):∀v:V,v.all (fun i=> !(Nat.beq i id))=true->V.pubV id r cs v=v
 | .pv _,_=>rfl
 | .ptr _ _,_=>rfl
 | .osl i _ _,h=>by simp only[V.all,Rm]at h;simp only[V.pubV,h,PE]
 | .tsl i _ _,h=>by simp only[V.all,Rm]at h;simp only[V.pubV,h,PE]
 | .gsl i _ _,h=>by simp only[V.all,Rm]at h;simp only[V.pubV,h,PE]
 | .map _,_=>rfl
 | .agg cs',h=>by simp only[V.all]at h;simp only[V.pubV,V.pubL_out id r cs cs' h]
 | .tup cs',h=>by simp only[V.all]at h;simp only[V.pubV,V.pubL_out id r cs cs' h]
 | .fn _ a b,h=>by simp only[V.all,sh]at h;simp only[V.pubV,V.pubL_out id r cs a h.1,V.pubL_out id r cs b h.2]
theorem V.pubL_out(id:Nat)(r:Bool)(cs:List PV):∀vs:List V,V.allL (fun i=> !(Nat.beq i id)) vs=true->V.pubL id r cs vs=vs
 |[],_=>rfl
 |c::cs',h=>by simp only[V.allL,sh]at h;simp only[V.pubL,V.qZ id r cs c h.1,V.pubL_out id r cs cs' h.2]
end
theorem Ob.qZ(id:Nat)(r:Bool)(cs:List PV){o:Ob}(h:o.all (fun i=> !(Nat.beq i id))=true):o.Gy id r cs=o:=by
 cases o with
 |mix t vs=>exact ag _ (V.pubL_out id r cs vs h)
 |cells _ _=>rfl
 |gro _ _=>rfl
 |mp _ _=>rfl
 |it _ _=>rfl
 |fro _ _=>rfl
 |mi _ _ _=>rfl
def chM(ls:List (List PV))(j:Nat):List V:=chV (ls.take j)++chP (ls.drop j)
theorem Hv{id:Nat}{r:Bool}{cs:List PV}(vs:List V):V.pubL id r cs vs=vs.map (V.pubV id r cs):=by
 induction vs with
 |nil=>rfl
 |cons v vs ih=>rw[V.pubL,ih,bL]
theorem Ln(ls:List (List PV)){j:Nat}(h:j<ls.length):V.pubL (j+1000) false ls[j] (chM ls (j+1))=chM ls j:=by
 rw[Hv];unfold chM;have e1:chV (ls.take (j+1))=chV (ls.take j)++[.gsl (j+1000) 1 ls[j].length]:=by
  rw[AI h];simp only[chV,List.zipIdx_append,PD,Ti,List.zipIdx_nil,bL,Qh,Pj];rw[show 0+min j ls.length=j by omega]
 have e2:chP (ls.drop j)= .pv (.sl none ls[j].length ls[j])::chP (ls.drop (j+1)):=by
  rw[PC h];rfl
 have h1:(chV (ls.take j)).map (V.pubV (j+1000) false ls[j])=chV (ls.take j):=by
  have:∀v∈chV (ls.take j),V.pubV (j+1000) false ls[j] v=v:=fun v hv=>by
   unfold chV at hv;obtain⟨q,hq,rfl⟩:=IT.1 hv;have:=List.mem_zipIdx hq;have h3:=this.2.1;rw[Pj]at h3;simp only[V.pubV];rw[Dj Ts,PE]
  rw[PR this];exact List.map_id' _
 have h2:(chP (ls.drop (j+1))).map (V.pubV (j+1000) false ls[j])=chP (ls.drop (j+1)):=by
  have:∀v∈chP (ls.drop (j+1)),V.pubV (j+1000) false ls[j] v=v:=fun v hv=>by
   unfold chP at hv;obtain⟨q,_,rfl⟩:=IT.1 hv;rfl
  rw[PR this];exact List.map_id' _
 have h3:V.pubV (j+1000) false ls[j] (.gsl (j+1000) 1 ls[j].length)= .pv (.sl none ls[j].length ls[j]):=by
  simp only[V.pubV];rw[beqT O,Qd]
 rw[e1,e2,PD,PD,h1,h2,bL,Qh,h3,Si,List.singleton_append]
theorem St.A6{σ:St}{A:Nat}{TA T:TypeId}(ls:List (List PV))(hA:A<1000)(hm:ls.length<=1000)(hs:∀t,(σ.sl t).all (fun i=>Nat.blt i 1000)=true)(ho:∀i o,σ.ob i=some o->i<1000/\o.all (fun i=>Nat.blt i 1000)=true):
  (ovl σ A TA T (chV ls) ls).le (ovl σ A TA T (chP ls) []):=by
 have vm:∀(j:Nat)(v:V),v.all (fun i=>Nat.blt i 1000)=true->v.all (fun i=> !(Nat.beq i (j+1000)))=true:=fun j v h=>V.all_mono (fun i hi=>by
  have:=FH hi;rw[Dj Ts];rfl) v h
 have om:∀(j:Nat)(o:Ob),o.all (fun i=>Nat.blt i 1000)=true->o.all (fun i=> !(Nat.beq i (j+1000)))=true:=fun j o h=>by
  cases o with
  | mix t vs=>exact V.allL_mono (fun i hi=>by
    have:=FH hi;rw[Dj Ts];rfl) vs h
  |cells _ _=>rfl
  |gro _ _=>rfl
  |mp _ _=>rfl
  |it _ _=>rfl
  |fro _ _=>rfl
  |mi _ _ _=>rfl
 have step:∀j,(h:j<ls.length)->(ovl σ A TA T (chM ls (j+1)) (ls.take (j+1))).le (ovl σ A TA T (chM ls j) (ls.take j)):=by
  intro j h;have hlt:j<(ls.take (j+1)).length:=by rw[Pj];omega
  have hfam:=cE (σ:=σ) (TA:=TA) (T:=T) (cells:=chM ls (j+1)) hA hlt;rw[List.getElem_take]at hfam;have hp:=OX (j+1000) hfam (r:=false) (cs:=ls[j]) O;have e:(ovl σ A TA T (chM ls (j+1)) (ls.take (j+1))).MP (j+1000) false ls[j]=ovl σ A TA T (chM ls j) (ls.take j):=by
   have e1:(fun t=>V.pubV (j+1000) false ls[j] (σ.sl t))=σ.sl:=funext fun t=>V.qZ _ _ _ _ (vm j _ (hs t))
   have e2:∀i,(bif Nat.beq i (j+1000)then none else((ovl σ A TA T (chM ls (j+1)) (ls.take (j+1))).ob i).map (Ob.Gy (j+1000) false ls[j]))=(ovl σ A TA T (chM ls j) (ls.take j)).ob i:=by
    intro i;by_cases hi:i=j+1000
    ·subst hi;rw[beqT O,Qd,py hA (by rw[Pj];omega)];cases hq:σ.ob (j+1000)with
     |none=>rfl
     |some o=>have:=(ho _ o hq).1;omega
    ·rw[Dj hi,PE];by_cases hiA:i=A
     ·subst hiA;rw[tS,tS];simp only[Ra,Ob.Gy];rw[Ln ls h]
     ·by_cases h1:i<1000
      ·rw[kK hiA h1,kK hiA h1];cases hq:σ.ob i with
       |none=>rfl
       |some o=>simp only[Ra];rw[Ob.qZ _ _ _ (om j o (ho i o hq).2)]
      ·by_cases h2:i<j+1000
       ·obtain⟨q,rfl⟩:∃q,i=q+1000:=⟨i-1000,Ts⟩;rw[cE hA (by rw[Pj];omega),cE hA (by rw[Pj];omega)];simp[Ob.Gy,List.getElem_take]
       ·rw[py hA (by rw[Pj];omega),py hA (by rw[Pj];omega)];cases hq:σ.ob i with
        |none=>rfl
        |some o=>have:=(ho i o hq).1;omega
   unfold St.MP;show St.mk (fun t=>V.pubV (j+1000) false ls[j] (σ.sl t)) _ _=St.mk σ.sl _ _;rw[e1]
   congr 1
   exact funext e2
  rw[e]at hp;exact hp
 have all:∀j,j<=ls.length->(ovl σ A TA T (chM ls j) (ls.take j)).le (ovl σ A TA T (chM ls 0) (ls.take 0)):=by
  intro j;induction j with
  |zero=>exact fun _ C n a w h=>h
  |succ j ih=>exact fun h=>(step j h).trans (ih Ts)
 have:=all ls.length (BY _);have e1:chM ls ls.length=chV ls:=by unfold chM chP;rw[SS,List.drop_length];simp
 have e2:chM ls 0=chP ls:=by unfold chM;rw[List.take_zero,List.drop_zero];rfl
 rwa [e1,e2,SS,List.take_zero]at this
def rnF(up nw i:Nat):Nat:=bif Nat.beq i (up+1000)then nw else i
theorem cz{up nw i:Nat}(h:i≠up+1000):rnF up nw i=i:=by unfold rnF;rw[Dj h];rfl
theorem yF(up nw:Nat):rnF up nw (up+1000)=nw:=by unfold rnF;rw[beqT O];rfl
theorem St.fB{σ:St}{l:List (Nat×V)}{os:List (Nat×Ob)}{k A:Nat}{TA T:TypeId}{ls:List (List PV)}(up nw:Nat)(hl:p7 σ (rnF up nw) l)(ho:ff σ (rnF up nw) os)
  (hA:σ.ob A=some (.mix TA (V.renL (rnF up nw) (chV ls)))) (hf:∀j (h:j<ls.length),σ.ob (rnF up nw (j+1000))=some (.gro T ls[j])) (h1:l.all (fun p=>p.2.okA k)=true) (h2:os.all (fun p=>Nat.blt p.1 k&&p.2.okA k)=true)
  (hk:k<=nw) (hn:nw<1000) (hAk:A<k) (hup:up<=1000) (hm:ls.length<=1000):σ.le (ovl (mkS l os k) A TA T (chV ls) ls):=by
 have hbg:big=9000:=rfl;have kb:∀i,(Nat.blt i k||Nat.ble big i)=true->i<k\/big<=i:=fun i h=>by
  rcases Bool.or_eq_true_iff.1 h with h|h
  ·exact .inl (FH h)
  ·exact .inr (Pp h)
 refine St.Oc (fun i=>decide (i<k)||decide (big<=i)||(decide (1000<=i)&&decide (i<1000+ls.length))) (rnF up nw) ?_ ?_ ?_ ?_ ?_ ?_
 ·exact ja hl
 ·intro t;exact V.all_mono (fun i hi=>by rcases kb i hi with h|h<;>simp[h]) _ (V.gT _ _ (look_ok h1 t))
 ·intro i o h;by_cases e:i=A
  ·subst e;rw[tS]at h;cases h;refine⟨by rw[cz Ts];exact hA,by simp[hAk],?_⟩;show V.allL _ (chV ls)=true;have:∀(vs:List V),(∀v∈vs,V.all (fun i=>decide (i<k)||decide (big<=i)||(decide (1000<=i)&&decide (i<1000+ls.length))) v=true)->V.allL (fun i=>decide (i<k)||decide (big<=i)||(decide (1000<=i)&&decide (i<1000+ls.length))) vs=true:=by
    intro vs;induction vs with
    |nil=>intro _;rfl
    |cons v vs ih=>intro h;simp only[V.allL,sh];exact⟨h v Tw,ih fun w hw=>h w (by simp[hw])⟩
   refine this _ fun v hv=>?_
   unfold chV at hv;obtain⟨q,hq,rfl⟩:=IT.1 hv;have:=(List.mem_zipIdx hq).2.1;simp only[V.all];rw[Pn (show 1000<=q.2+1000 by omega),Pn (show q.2+1000<1000+ls.length by omega)];simp
  ·by_cases h1000:i<1000
   ·rw[kK e h1000]at h;have hm':=bu h;have h3:=IN.1 h2 _ hm';simp only[sh]at h3;refine⟨dV ho i o hm',by simp[FH h3.1],?_⟩;have h4:=Ob.gT k h3.2;cases o with
    |mix t vs=>exact V.allL_mono (fun i hi=>by rcases kb i hi with h|h<;>simp[h]) vs h4
    |cells _ _=>rfl
    |gro _ _=>rfl
    |mp _ _=>rfl
    |it _ _=>rfl
    |fro _ _=>rfl
    |mi _ _ _=>rfl
   ·by_cases h2000:i<1000+ls.length
    ·obtain⟨j,rfl⟩:∃j,i=j+1000:=⟨i-1000,Ts⟩;have hj:j<ls.length:=Ts;rw[cE Ts hj]at h;cases h;refine⟨hf j hj,?_,O⟩;rw[Pn (show 1000<=j+1000 by omega),Pn (show j+1000<1000+ls.length by omega)];simp
    ·rw[py Ts Ts]at h;have hm':=bu h;have h3:=IN.1 h2 _ hm';simp only[sh]at h3;have:=FH h3.1;omega
 ·intro i j hi hj e;simp only[PQ,sh,Po]at hi hj;by_cases e1:i=up+1000
  ·by_cases e2:j=up+1000
   ·rw[e1,e2]
   ·rw[e1,yF,cz e2]at e;omega
  ·by_cases e2:j=up+1000
   ·rw[e2,yF,cz e1]at e;omega
   ·rwa [cz e1,cz e2]at e
 ·intro i hi;simp only[PQ,sh,Po]at hi;show(avK k i&&Nat.blt i 1000)=false;rcases hi with(h|h)|h
  ·have:Nat.ble k i=false:=by
    cases hb:Nat.ble k i with
    |false=>rfl
    |true=>have:=Pp hb;omega
   unfold avK;rw[this];rfl
  ·rw[cA h];rfl
  ·have:Nat.blt i 1000=false:=by
    cases hb:Nat.blt i 1000 with
    |false=>rfl
    |true=>have:=FH hb;omega
   rw[this,Bool.and_false]
 ·intro i hi;refine⟨?_,cz Ts⟩;show(avK k i&&Nat.blt i 1000)=false;rw[cA hi];rfl
theorem ns{ls:List (List PV)}{up:Nat}(hup:up<ls.length)(nw:Nat)(x:PV):V.renL (rnF up nw) (chV (ls.set up (ls[up]++[x])))=(chV ls).set (up*1) (.gsl nw 1 (ls[up].length+1)):=by
 have hr:∀vs:List V,V.renL (rnF up nw) vs=vs.map (V.ren (rnF up nw)):=by
  intro vs;induction vs with
  |nil=>rfl
  |cons v vs ih=>rw[V.renL,ih,bL]
 rw[hr];apply Qu
 ·simp[chV]
 ·intro i h1 h2;simp only[chV,Pg,List.length_zipIdx,PO]at h1;simp only[chV,Qm,List.getElem_zipIdx,SQ,PX,PJ,V.ren];by_cases e:up=i
  ·subst e;simp[yF]
  ·rw[dw e,dw e,cz Ts]
def St.mixC(σ:St)(id:Nat)(T:TypeId)(cs:List PV):St:=⟨σ.sl,obL [(id,some (.cells T cs))] σ.ob,σ.av⟩
theorem St.Bi{σ:St}{id:Nat}{T:TypeId}{vs:List V}{cs:List PV}(ho:σ.ob id=some (.mix T vs))(hc:vs=cs.map .pv):σ.le (σ.mixC id T cs):=by
 subst hc;rintro C n a w ⟨m,R,hw⟩;have hs:∀i,i≠id->obL [(id,some (Ob.cells T cs))] σ.ob i=σ.ob i:=fun i hi=>eC _ _ _ (by simpa using hi)
 have hi:obL [(id,some (Ob.cells T cs))] σ.ob id=some (.cells T cs):=by simp[obL]
 refine⟨m,R,⟨?_,?_,?_,hw.hr.inj,hw.hr.own,hw.hr.rsz,hw.hr.rfr,hw.hr.r0,hw.hr.frame,hw.hr.keep,hw.hr.res⟩,hw.df,hw.sz,hw.sl⟩
 ·intro i;by_cases e:i=id
  ·subst e;rw[hw.hr.dom,ho];show _=bE (obL _ _ _);rw[hi];rfl
  ·show _=bE (obL _ _ _);rw[hs i e];exact hw.hr.dom i
 ·intro i h;by_cases e:i=id
  ·subst e;have:=hw.hr.free i h;rw[ho]at this;cases this
  ·show obL _ _ _=none;rw[hs i e];exact hw.hr.free i h
 ·intro i o b N h1 h2;by_cases e:i=id
  ·subst e;have h1':obL [(i,some (Ob.cells T cs))] σ.ob i=some o:=h1;rw[hi]at h1';cases h1';obtain⟨arr,q1,q2,q3,q4⟩:=hw.hr.obj i _ b N ho h2;rw[Pg]at q3 q4;exact⟨arr,q1,q2,q3,RelL.toP q4⟩
  ·have h1':obL [(id,some (Ob.cells T cs))] σ.ob i=some o:=h1;rw[hs i e]at h1';exact hw.hr.obj i o b N h1' h2
def St.obC(σ:St)(id:Nat)(o:Ob):St:=⟨σ.sl,obL [(id,some o)] σ.ob,σ.av⟩
theorem St.Jo{σ:St}{id:Nat}{o o':Ob}(ho:σ.ob id=some o)(hre:o'.real=o.real)(h:∀w m av R b N,kE w m av R b N o->kE w m av R b N o'):σ.le (σ.obC id o'):=by
 rintro C n a w ⟨m,R,hw⟩;have hs:∀i,i≠id->obL [(id,some o')] σ.ob i=σ.ob i:=fun i hi=>eC _ _ _ (by simpa using hi)
 have hi:obL [(id,some o')] σ.ob id=some o':=by simp[obL]
 refine⟨m,R,⟨?_,?_,?_,hw.hr.inj,hw.hr.own,hw.hr.rsz,hw.hr.rfr,hw.hr.r0,hw.hr.frame,hw.hr.keep,hw.hr.res⟩,hw.df,hw.sz,hw.sl⟩
 ·intro i;by_cases e:i=id
  ·subst e;rw[hw.hr.dom,ho];show _=bE (obL _ _ _);rw[hi];exact hre.symm
  ·show _=bE (obL _ _ _);rw[hs i e];exact hw.hr.dom i
 ·intro i h;by_cases e:i=id
  ·subst e;have:=hw.hr.free i h;rw[ho]at this;cases this
  ·show obL _ _ _=none;rw[hs i e];exact hw.hr.free i h
 ·intro i q b N h1 h2;by_cases e:i=id
  ·subst e;have h1':obL [(i,some o')] σ.ob i=some q:=h1;rw[hi]at h1';cases h1';exact h _ _ _ _ _ _ (hw.hr.obj i _ b N ho h2)
  ·have h1':obL [(id,some o')] σ.ob i=some q:=h1;rw[hs i e]at h1';exact hw.hr.obj i q b N h1' h2
theorem St.uy{σ:St}{T:TypeId}{cs:List PV}(id:Nat)(ho:σ.ob id=some (.cells T cs)):σ.le (σ.obC id (.mix T (cs.map .pv))):=by
 refine St.Jo ho O fun w m av R b N h=>?_
 obtain⟨arr,q1,q2,q3,q4⟩:=h;exact⟨arr,q1,q2,by rw[Pg];exact q3,by rw[Pg];exact RelL.ofP q4⟩
def V.fgV:V->V
 | .pv (.sl _ n cs)=> .pv (.sl none n cs)
 |v=>v
theorem Rel.fgV{w:World}{m:Gm}{av:Av}{R:Nat->Prop}:∀{v:V}{u:Value},Rel w m av R v u->Rel w m av R v.fgV u:=by
 intro v u h;cases v with
 | pv p=>
   cases p with
   | sl nl n cs=>
     simp only[V.fgV,Rel,RelP]at h ⊢;obtain⟨A,c,e,h1,h2,_,_,h5⟩:=h;exact⟨A,c,e,h1,h2,fun _ h=>(by cases h),fun h=>(by cases h),h5⟩
   |_=>exact h
 |_=>exact h
theorem RelL.fgV{w:World}{m:Gm}{av:Av}{R:Nat->Prop}:∀{vs:List V}{us:List Value},RelL w m av R vs us->RelL w m av R (vs.map V.fgV) us
 |[],_,h=>h
 | v::vs,us,h=>by
   simp only[RelL]at h;obtain⟨u,us',rfl,h1,h2⟩:=h;simp only[bL,RelL];exact⟨u,us',O,h1.fgV,RelL.fgV h2⟩
theorem St.J1{σ:St}{T:TypeId}{vs:List V}(id:Nat)(ho:σ.ob id=some (.mix T vs)):σ.le (σ.obC id (.mix T (vs.map V.fgV))):=by
 refine St.Jo ho O fun w m av R b N h=>?_
 obtain⟨arr,q1,q2,q3,q4⟩:=h;exact⟨arr,q1,q2,by rw[Pg];exact q3,by rw[Pg];exact RelL.fgV q4⟩
theorem gD{ls:List (List PV)}{up:Nat}(nw:Nat)(h:ls.length<=up):V.renL (rnF up nw) (chV ls)=chV ls:=by
 have hr:∀vs:List V,V.renL (rnF up nw) vs=vs.map (V.ren (rnF up nw)):=by
  intro vs;induction vs with
  |nil=>rfl
  |cons v vs ih=>rw[V.renL,ih,bL]
 rw[hr];have:∀v∈chV ls,V.ren (rnF up nw) v=v:=fun v hv=>by
  unfold chV at hv;obtain⟨q,hq,rfl⟩:=IT.1 hv;have:=(List.mem_zipIdx hq).2.1;simp only[V.ren];rw[cz Ts]
 rw[PR this];exact List.map_id' _
theorem CH{k i:Nat}(hk:k<=1000)(h1:1000<=i)(h2:i<2000):avK k i=true:=by
 unfold avK;rw[RI (show k<=i by omega),bltT (show i<big from by show i<9000;omega)];rfl
end


section
open Go.RowKit Go.MapKept
open Go.ChangeMaps (setBlock)
structure KeyOk(P:Program)(kt:TypeId)(kp:PV->Prop):Prop where
 und:∃d,P.underlying kt=some d/\∀us y,Instr.sameNow d (.agg us) y=none
 check:∀{w:World}{R:Nat->Prop}{k:PV}{u:Value}(e:Bool),kp k->RelP w R k u->(Instr.checkKey e 10000 kt u).run P w= .ok () w
 ask:∀{w:World}{R:Nat->Prop}{k x:PV}{u y:Value}{b:Bool},kp k->RelP w R k u->RelP w R x y->keq k x=some b->(Op.equal kt u y).run P w= .ok b w
 agg:∀{k:PV},kp k->∃cs,k= .agg cs
section
variable {P:Program}{kt:TypeId}{kp:PV->Prop}{w:World}{R:Nat->Prop}
theorem KeyOk.Jl(K:KeyOk P kt kp){k:PV}{u:Value}(hk:kp k)(hr:RelP w R k u):∀{ks:List PV}{es:List MapEntry}{i:Nat}{r:Option Nat},RelPL w R ks (es.map (·.key))->cc k ks i=some r->
  match r with
  |none=>(Instr.findAsking kt u es i).run P w= .ok none w
  |some j=>∃q e,j=i+q/\es[q]? =some e/\(Instr.findAsking kt u es i).run P w= .ok (some (j,e.val)) w
 |[],[],i,r,_,h=>by simp only[cc,Pe]at h;subst h;simp[Instr.findAsking]
 |[],_::_,_,_,h,_=>by simp[RelPL]at h
 |x::ks,[],_,_,h,_=>by simp[RelPL]at h
 | x::ks,e::es,i,r,h,hf=>by
   simp only[bL,RelPL,Rr]at h;obtain⟨y,ys,⟨rfl,rfl⟩,h1,h2⟩:=h;simp only[cc]at hf;split at hf
   ·rename_i hb;cases hf;exact⟨0,e,O,O,by simp[Instr.findAsking,K.ask hk hr h1 hb,Result.andThen]⟩
   ·rename_i hb;have ih:=K.Jl hk hr h2 hf;cases r with
    |none=>simpa[Instr.findAsking,K.ask hk hr h1 hb,Result.andThen]using ih
    | some j=>
      obtain⟨q,e',hj,he,hfn⟩:=ih;exact⟨q+1,e',Ts,by simpa using he,by simpa[Instr.findAsking,K.ask hk hr h1 hb,Result.andThen]using hfn⟩
   ·cases hf
theorem KeyOk.find(K:KeyOk P kt kp){k:PV}{u:Value}(hk:kp k)(hr:RelP w R k u){ks:List PV}{es:List MapEntry}{r:Option Nat}(h:RelPL w R ks (es.map (·.key)))(hf:cc k ks 0=some r):
  match r with
  |none=>(Instr.findKey kt u es).run P w= .ok none w
  |some j=>∃e,es[j]? =some e/\(Instr.findKey kt u es).run P w= .ok (some (j,e.val)) w:=by
 obtain⟨d,hd,hs⟩:=K.und;obtain⟨cs,rfl⟩:=K.agg hk;have hr':=hr;simp only[RelP]at hr;obtain⟨us,rfl,_⟩:=hr;have ha:=K.Jl (i:=0) hk hr' h hf;cases es with
 | nil=>
   cases ks with
   |nil=>simp only[cc,Pe]at hf;subst hf;simp[Instr.findKey,run_underlying hd,Result.andThen,Instr.findNow]
   |cons _ _=>simp[RelPL]at h
 | cons e es=>
   have hn:Instr.findNow d (.agg us.toArray) (e::es) 0=none:=by simp[Instr.findNow,hs]
   cases r with
   |none=>simpa[Instr.findKey,run_underlying hd,Result.andThen,hn]using ha
   | some j=>
     obtain⟨q,e',hj,he,hfn⟩:=ha;have:j=q:=Ts;subst this;exact⟨e',he,by simpa[Instr.findKey,run_underlying hd,Result.andThen,hn]using hfn⟩
end
section
variable {C:Ctx}{n:Nat}{σ:St}{a:Act}{w:World}{m:Gm}{R:Nat->Prop}{x y z:Operand}{dst:Option Tmp}{ty t kt et tk:TypeId}{pos:String}{after:Array Edge}{gd:Option (Nat×Bool)}{ks vs:List PV}{kp:PV->Prop}
theorem tH(hw:SW C n σ a w m R)(K:KeyOk C.P kt kp){key zp:PV}{zv:Value}{r:Option PV}(ht:C.P.underlying t=some (.map kt et))(hd:kp key)(hx:jM n σ x ks vs)(hy:σ.ev n y= .pv key)(hz:(C.P.info? et).map (·.zero)=some (some zv))(hzp:ofC zv=zp)(hl:iC key ks vs=some r)(ok:Bool):
  ∃u,RelP w R (r.getD zp) u/\(Instr.lookup t (a.eval x) (a.eval y) ok).run C.P w= .ok (if ok then .tuple #[u,.bool r.isSome]else u) w:=by
 have hkey:=hw.pv hy;have hzr:(zeroValue et).run C.P w= .ok zv w:=by
  cases hq:C.P.info? et with
  |none=>simp[hq]at hz
  |some i=>simp[hq]at hz;simp[zeroValue,typeInfo,hq,hz]
 have hzrel:RelP w R zp zv:=hzp▸wb w R zv;have hck:=fun e=>K.check (w:=w) (R:=R) e hd hkey
 rcases hx.at hw with⟨b,es,clock,ps,qs,e,hb,q2,q3,_,hsw⟩|⟨e,rfl,rfl⟩
 ·obtain⟨f,hf,hr⟩:=pS hl;obtain⟨f',hf',hr'⟩:=hsw hf hr;cases f' with
  | none=>
    simp only[nI,Pe]at hr';subst hr';have:=K.find hd hkey q2 hf';simp only at this;refine⟨zv,hzrel,?_⟩;simp[Instr.lookup,e,run_underlying ht,run_map hb,hck,this,hzr,Result.andThen]
  | some j=>
    obtain⟨e',he,hfn⟩:=K.find hd hkey q2 hf';simp only[nI]at hr';cases hv:qs[j]? with
    |none=>rw[hv]at hr';cases hr'
    | some p=>
      rw[hv]at hr';simp at hr';subst hr';refine⟨e'.val,RelPL.at q3 hv (by simp[he]),?_⟩;simp[Instr.lookup,e,run_underlying ht,run_map hb,hck,hfn,Result.andThen]
 ·simp only[iC,cc,Pe]at hl;subst hl;refine⟨zv,hzrel,?_⟩;have hf:=K.find (es:=[]) (r:=none) hd hkey (ks:=[]) (by simp[RelPL]) (by simp only[cc]);simp only at hf;simp[Instr.lookup,e,run_underlying ht,hck,hf,hzr,Result.andThen]
theorem iZ{key zp p:PV}{zv:Value}{r:Option PV}{b:Bool}(K:KeyOk C.P kt kp)(ht:C.P.underlying t=some (.map kt et))(hx:jM n σ x ks vs)(hy:σ.ev n y= .pv key)(hd:kp key)(hz:(C.P.info? et).map (·.zero)=some (some zv))(hzp:ofC zv=zp)(hl:iC key ks vs=some r)(hp:r.getD zp=p)(hb:r.isSome=b):
  XJ C n ⟨dst,.lookup t x y true,ty,pos,after,gd⟩ σ ⟨.pv (.tup [p,.bool b]),[],[]⟩:=
 .val fun a w m R hw=>by
  obtain⟨u,hr,hrun⟩:=tH hw K ht hd hx hy hz hzp hl true;subst hp hb;refine⟨_,by simp only[execOp,Sem.run_bind,hrun,Result.andThen_ok];rfl,?_⟩;simp only[Rel,RelP];exact⟨[u,.bool r.isSome],O,RelPL.cons hr (RelPL.cons (by simp only[RelP]) RelPL.nil)⟩
theorem mQ{key zp p:PV}{zv:Value}{r:Option PV}(K:KeyOk C.P kt kp)(ht:C.P.underlying t=some (.map kt et))(hx:jM n σ x ks vs)(hy:σ.ev n y= .pv key)(hd:kp key)(hz:(C.P.info? et).map (·.zero)=some (some zv))(hzp:ofC zv=zp)(hl:iC key ks vs=some r)(hp:r.getD zp=p):
  XJ C n ⟨dst,.lookup t x y false,ty,pos,after,gd⟩ σ ⟨.pv p,[],[]⟩:=
 .val fun a w m R hw=>by
  obtain⟨u,hr,hrun⟩:=tH hw K ht hd hx hy hz hzp hl false;subst hp;exact⟨u,by simp only[execOp,Sem.run_bind,hrun,Result.andThen_ok];rfl,by simpa only[Rel]using hr⟩
theorem bW{key v:PV}{id:Nat}{r:Option Nat}{ks' vs':List PV}(K:KeyOk C.P kt kp)(ht:C.P.underlying t=some (.map kt et))(hx:σ.ev n x= .map id)(ho:σ.ob id=some (.mp ks vs))(hy:σ.ev n y= .pv key)(hz:σ.ev n z= .pv v)(hd:kp key)(hf:cc key ks 0=some r)
  (hks:lV key ks=ks') (hvs:kZ key v ks vs=vs'):XJ C n ⟨none,.mapUpdate t x y z,ty,pos,after,gd⟩ σ ⟨.pv .any,[(id,some (.mp ks' vs'))],[]⟩:=by
 rintro a w Q ⟨m,R,hw⟩;obtain⟨b,N,hm,es,clock,hb,q2,q3,q4⟩:=hw.live ho;have hxv:=hw.ev x;rw[hx]at hxv;simp only[Rel]at hxv;have hx:=hxv.2 b N hm;have hkey:=hw.pv hy;have hval:=hw.pv hz;have hck:=fun e=>K.check (w:=w) (R:=R) e hd hkey
 have hlt:b<w.heap.size:=(Pc.1 hb).1;have fin:∀(es':Array MapEntry)(clock':Nat),(Instr.mapUpdate t (a.eval x) (a.eval y) (a.eval z)).run C.P w= .ok () { w with heap:=w.heap.setIfInBounds b (.map es' clock') }->
   RelPL w R ks' (es'.toList.map (·.key))->RelPL w R vs' (es'.toList.map (·.val))->cQ es'.toList clock'->Oper.wp C.P ⟨none,.mapUpdate t x y z,ty,pos,after,gd⟩ a w (fun a' w'=>∃σ',σ'=σ.app none ⟨.pv .any,[(id,some (.mp ks' vs'))],[]⟩/\SJ C n σ' a' w') Q:=by
  intro es' clock' hrun h1 h2 h3;unfold Oper.wp;have hrun':(execOp a.eval ⟨none,.mapUpdate t x y z,ty,pos,after,gd⟩).run C.P w= .ok .skip { w with heap:=w.heap.setIfInBounds b (.map es' clock') }:=by
   simp only[execOp,Sem.run_bind,hrun,Result.andThen_ok,Sem.run_pure]
  rw[hrun'];refine⟨_,O,m,R,hw.turn hm { w with heap:=w.heap.setIfInBounds b (.map es' clock') } Tw (fun k hk=>by simp only;rw[Q2 (fun e=>hk e.symm)]) O O O (.mp ks' vs') fun hR=>?_⟩;exact⟨es',clock',by simp only;rw[Ry];simp[hlt],h1.mono hR,h2.mono hR,h3⟩
 cases r with
 | none=>
   have hfn:=K.find hd hkey q2 hf;simp only at hfn;refine fin (es.push ⟨a.eval y,a.eval z,clock⟩) (clock+1) ?_ ?_ ?_ ?_
   ·simp[Instr.mapUpdate,hx,run_underlying ht,run_map hb,hck,hfn,dW _ hb,Result.andThen]
   ·rw[<-hks];simp only[lV,hf,S6,PD,bL,Qh];exact q2.append (RelPL.cons hkey RelPL.nil)
   ·rw[<-hvs];simp only[kZ,hf,S6,PD,bL,Qh];exact q3.append (RelPL.cons hval RelPL.nil)
   ·simp only[cQ,S6,PD,bL,Qh];refine⟨Sg.2 ⟨q4.1,Tw,fun x hx y hy e=>?_⟩,fun e he=>?_⟩
    ·obtain⟨e',he',rfl⟩:=IT.1 hx;have:=q4.2 e' he';simp at hy;omega
    ·rcases Pq.1 he with h|h
     ·exact Nat.lt_succ_of_lt (q4.2 e h)
     ·simp at h;subst h;exact Nat.lt_succ_self _
 | some j=>
   obtain⟨e',he,hfn⟩:=K.find hd hkey q2 hf;obtain⟨q',x',hj',hx',hkq⟩:=mj hf;simp only[PJ]at hj';subst hj';have hrel:=RelPL.at q2 hx' (by simp[he]:(es.toList.map (·.key))[j]? =some e'.key);have hsame:=y9 hkq hkey hrel;have hjl:j<es.size:=(Pf.1 he).1 |> fun h=>by simpa using h
   have hek:es[j]? =some e':=by simpa using he
   have hge:es[j]=e':=by have:=Array.getElem?_eq_getElem hjl;rw[hek]at this;exact(Ru this).symm
   have hmod:(es.modify j fun e=>{ e with key:=a.eval y,val:=a.eval z }).toList=es.toList.set j ⟨a.eval y,a.eval z,e'.born⟩:=by
    apply SF;intro i;rw[SY,RG,Sq];by_cases e:j=i
    ·subst e;simp[hjl,hge]
    ·simp[e]
   refine fin (es.modify j fun e=>{ e with key:=a.eval y,val:=a.eval z }) clock ?_ ?_ ?_ ?_
   ·simp[Instr.mapUpdate,hx,run_underlying ht,run_map hb,hck,hfn,dW _ hb,Result.andThen,Instr.keyThatStays,hek,hsame.2]
   ·rw[hmod,<-hks];simp only[lV,hf,Qi];exact q2.set j hkey
   ·rw[hmod,<-hvs];simp only[kZ,hf,Qi];exact q3.set j hval
   ·rw[hmod];have hborn:(es.toList.set j ⟨a.eval y,a.eval z,e'.born⟩).map (·.born)=es.toList.map (·.born):=by
     rw[Qi];apply SF;intro i;rw[Sq];by_cases e:j=i
     ·subst e;simp[hjl,hge]
     ·simp[e]
    refine⟨by rw[hborn];exact q4.1,fun e hm=>?_⟩;have:e.born∈es.toList.map (·.born):=by rw[<-hborn];exact IT.2 ⟨e,hm,O⟩
    obtain⟨e2,h2,h3⟩:=IT.1 this;rw[<-h3];exact q4.2 e2 h2
def oU(k:PV)(ks l:List PV):List PV:=match cc k ks 0 with
 |some (some j)=>l.eraseIdx j
 |_=>l
theorem RelPL.eraseIdx:∀{ps:List PV}{us:List Value}(j:Nat),RelPL w R ps us->RelPL w R (ps.eraseIdx j) (us.eraseIdx j)
 |[],_,_,h=>by simp only[RelPL]at h;subst h;simp[RelPL]
 |p::ps,_,0,h=>by simp only[RelPL]at h;obtain⟨u,vs,rfl,_,h2⟩:=h;simpa using h2
 | p::ps,_,j+1,h=>by
   simp only[RelPL]at h;obtain⟨u,vs,rfl,h1,h2⟩:=h;simpa using RelPL.cons h1 (RelPL.eraseIdx j h2)
theorem iE{key:PV}{id:Nat}{r:Option Nat}{ks' vs':List PV}(K:KeyOk C.P kt kp)(ht:C.P.underlying t=some (.map kt et))(hx:σ.ev n x= .map id)(ho:σ.ob id=some (.mp ks vs))(hy:σ.ev n y= .pv key)(hd:kp key)(hf:cc key ks 0=some r)
  (hks:oU key ks ks=ks') (hvs:oU key ks vs=vs'):XJ C n ⟨dst,.call { callee:= .builtin .delete,args:= #[x,y],argTypes:= #[t,tk] },ty,pos,after,gd⟩ σ ⟨.pv (.tup []),[(id,some (.mp ks' vs'))],[]⟩:=by
 rintro a w Q ⟨m,R,hw⟩;obtain⟨b,N,hm,es,clock,hb,q2,q3,q4⟩:=hw.live ho;have hxv:=hw.ev x;rw[hx]at hxv;simp only[Rel]at hxv;have hx:=hxv.2 b N hm;have hkey:=hw.pv hy;have hck:=fun e=>K.check (w:=w) (R:=R) e hd hkey
 have hlt:b<w.heap.size:=(Pc.1 hb).1;have fin:∀es':Array MapEntry,(Builtin.delete_ #[t,tk] ty #[a.eval x,a.eval y]).run C.P w= .ok (.tuple #[]) { w with heap:=w.heap.setIfInBounds b (.map es' clock) }->
   RelPL w R ks' (es'.toList.map (·.key))->RelPL w R vs' (es'.toList.map (·.val))->cQ es'.toList clock->Oper.wp C.P ⟨dst,.call { callee:= .builtin .delete,args:= #[x,y],argTypes:= #[t,tk] },ty,pos,after,gd⟩ a w (fun a' w'=>∃σ',σ'=σ.app dst ⟨.pv (.tup []),[(id,some (.mp ks' vs'))],[]⟩/\SJ C n σ' a' w') Q:=by
  intro es' hrun h1 h2 h3;unfold Oper.wp;have hrun':(execOp a.eval ⟨dst,.call { callee:= .builtin .delete,args:= #[x,y],argTypes:= #[t,tk] },ty,pos,after,gd⟩).run C.P w= .ok (.value (.tuple #[])) { w with heap:=w.heap.setIfInBounds b (.map es' clock) }:=by
   simp only[execOp,resolve,invoke,builtin,Sem.run_bind,Sem.run_pure,Result.andThen_ok,Sy,bL,Qh,hrun]
  rw[hrun'];refine⟨_,O,m,R,?_⟩;rw[O1];refine SW.put (hw.turn hm { w with heap:=w.heap.setIfInBounds b (.map es' clock) } Tw (fun k hk=>by simp only;rw[Q2 (fun e=>hk e.symm)]) O O O (.mp ks' vs') fun hR=>?_) dst ?_
  ·exact⟨es',clock,by simp only;rw[Ry];simp[hlt],h1.mono hR,h2.mono hR,h3⟩
  ·simp only[Rel,RelP];exact⟨[],O,RelPL.nil⟩
 cases r with
 | none=>
   have hfn:=K.find hd hkey q2 hf;simp only at hfn;refine fin es ?_ ?_ ?_ q4
   ·simp[Builtin.delete_,hx,run_underlying ht,run_map hb,hck,hfn,dW _ hb,Result.andThen]
   ·rw[<-hks];simp only[oU,hf];exact q2
   ·rw[<-hvs];simp only[oU,hf];exact q3
 | some j=>
   obtain⟨e',he,hfn⟩:=K.find hd hkey q2 hf;have hjl:j<es.size:=(Pf.1 he).1 |> fun h=>by simpa using h
   have her:(es.eraseIdxIfInBounds j).toList=es.toList.eraseIdx j:=by
    unfold Array.eraseIdxIfInBounds;rw[dif_pos hjl];simp
   refine fin (es.eraseIdxIfInBounds j) ?_ ?_ ?_ ?_
   ·simp[Builtin.delete_,hx,run_underlying ht,run_map hb,hck,hfn,dW _ hb,Result.andThen]
   ·rw[<-hks,her,Go.ChangeMaps.map_eraseIdx];simp only[oU,hf];exact q2.eraseIdx j
   ·rw[<-hvs,her,Go.ChangeMaps.map_eraseIdx];simp only[oU,hf];exact q3.eraseIdx j
   ·rw[her];exact⟨((List.eraseIdx_sublist _ _).map _).nodup q4.1,fun e hm=>q4.2 e ((List.eraseIdx_sublist _ _).subset hm)⟩
def jc(cur ks vs:List PV)(b:Bool)(rest cur' ks' vs':List PV):Prop:=
 (b=false/\ks=[]/\rest=[]/\cur'=cur/\ks'=ks/\vs'=vs)\/
 (b=true/\∃i k v,ks[i]? =some k/\vs[i]? =some v/\rest=[k,v]/\cur'=[k,v]/\ks'=ks.eraseIdx i/\vs'=vs.eraseIdx i)
theorem jc.of{α:Type}{f g:α->PV}{l:List α}{cur:List PV}{b:Bool}{rest cur' ks' vs':List PV}(h:jc cur (l.map f) (l.map g) b rest cur' ks' vs'):
  (b=false/\l=[]/\rest=[]/\cur'=cur/\ks'=l.map f/\vs'=l.map g)\/(b=true/\∃l1 x l2,l=l1++x::l2/\rest=[f x,g x]/\cur'=[f x,g x]/\ks'=(l1++l2).map f/\vs'=(l1++l2).map g):=by
 rcases h with⟨h1,h2,h3,h4,h5,h6⟩|⟨h1,i,k,v,h2,h3,h4,h5,h6,h7⟩
 ·exact .inl ⟨h1,by simpa using h2,h3,h4,h5,h6⟩
 ·refine .inr ⟨h1,?_⟩;rw[Rv]at h2 h3;cases hx:l[i]? with
  |none=>rw[hx]at h2;cases h2
  | some x=>
    rw[hx]at h2 h3;simp only[Ra,Pe]at h2 h3;subst h2 h3;obtain⟨hi,rfl⟩:=Pf.1 hx;have he:l.eraseIdx i=l.take i++l.drop (i+1):=List.eraseIdx_eq_take_drop_succ l i;exact⟨l.take i,l[i],l.drop (i+1),by rw[<-PC hi,PK],h4,h5,by rw[h6,<-Go.ChangeMaps.map_eraseIdx,he],by rw[h7,<-Go.ChangeMaps.map_eraseIdx,he]⟩
theorem iw(id:Nat)(ht:C.P.underlying t=some (.map kt et))(hx:σ.ev n x= .pv (.mp ks vs))(hid:σ.av id=true):XJ C n ⟨dst,.range t x,ty,pos,after,gd⟩ σ ⟨.ptr id 0,[(id,some (.mi [] ks vs))],[id]⟩:=by
 rintro a w Q ⟨m,R,hw⟩;have he:=hw.pv hx;simp only[RelP]at he;obtain⟨mb,he,hRm,es,clock,l,hb,q2,q3,q4,q5⟩:=he;unfold Oper.wp;have hrun:(execOp a.eval ⟨dst,.range t x,ty,pos,after,gd⟩).run C.P w= .ok (.value (.pointer (some ⟨w.heap.size,0,none⟩))) (w.alloc (.mapIter (some mb) clock #[] clock)):=by
  simp only[execOp,he,Sem.run_bind,run_range_map w t kt et mb es clock ht hb,Result.andThen_ok];rfl
 rw[hrun];refine⟨_,O,upd m id (some (w.heap.size,0)),R,?_⟩;rw[O1];refine SW.put (hw.JO hid (.mapIter (some mb) clock #[] clock) 0 (.mi [] ks vs) ?_) dst ?_
 ·intro w' m' av' hR hb';have hfl:(es.toList.filter fun e=> !(#[]:Array Nat).contains e.born)=es.toList:=Tg.2 fun e _=>by simp
  exact⟨mb,es,clock, #[],l,hRm,(hR _ hRm).2.trans hb,q4,hb',by rw[hfl];exact q5,q2.mono hR,q3.mono hR,.inl O⟩
 ·simp only[Rel];refine⟨by simp[avL],fun b N e=>?_⟩;rw[ay]at e;cases e;rfl
theorem ji{e:MapEntry}:∀{l:List MapEntry}{i:Nat},(l.map (·.born)).Nodup->l[i]? =some e->l.filter (fun x=> !(x.born==e.born))=l.eraseIdx i
 |[],_,_,h=>by simp at h
 | x::l,0,hn,h=>by
   simp only[List.getElem?_cons_zero,Pe]at h;subst h;simp only[bL,Rz,IT,not_exists,not_and]at hn;simp only[RE,Qz,Bool.not_true,Qk,SD,List.eraseIdx_cons_zero];exact Tg.2 fun y hy=>by simpa using hn.1 y hy
 | x::l,i+1,hn,h=>by
   simp only[List.getElem?_cons_succ]at h;simp only[bL,Rz,IT,not_exists,not_and]at hn;have hne:x.born≠e.born:=fun e1=>hn.1 e (Qv h) e1.symm
   simp only[RE,List.eraseIdx_cons_succ];rw[AT (by simpa using hne),ji hn.2 h]
theorem j8{id:Nat}{cur ks vs:List PV}{K:St->Prop}(hx:σ.ev n x= .ptr id 0)(ho:σ.ob id=some (.mi cur ks vs))
  (hk:∀b rest cur' ks' vs',jc cur ks vs b rest cur' ks' vs'->K (σ.app dst ⟨.pv (.tup (.bool b::rest)),[(id,some (.mi cur' ks' vs'))],[]⟩)):
  OJ C n ⟨dst,.next x false,ty,pos,after,gd⟩ K σ:=by
 rintro a w Q ⟨m,R,hw⟩;obtain⟨r,N,hm,mb,es,clock,seen,l,hRm,hb,hst,hr,q0,q5,q6,q7⟩:=hw.live ho;have hxv:=hw.ev x;rw[hx]at hxv;simp only[Rel]at hxv;have hx':=hxv.2 r N hm;have hlf:(leftOf es seen).toList=es.toList.filter fun e=> !seen.contains e.born:=by unfold leftOf;simp
 unfold Oper.wp;rcases Go.run_next_at (P:=C.P) w ty r mb clock clock seen es clock hr hb hst.2 (BY _)with⟨h0,hrun⟩|⟨e,he,w1,hal,hrun⟩
 ·have hrun':(execOp a.eval ⟨dst,.next x false,ty,pos,after,gd⟩).run C.P w= .ok (.value (.tuple #[.bool false])) w:=by
   simp only[execOp,hx',Sem.run_bind,hrun,Result.andThen_ok];rfl
  rw[hrun'];have hfn:(es.toList.filter fun e=> !seen.contains e.born)=[]:=by
   rw[<-hlf];exact SG.1 (by rw[Px];exact h0)
  have hln:l=[]:=by rw[hfn]at q0;exact List.Perm.eq_nil q0
  have hkn:ks=[]:=by
   rw[hln]at q5;have:=q5.length;simp only[Qh,Rt]at this;exact SG.1 this.symm
  refine⟨_,hk false [] cur ks vs (.inl ⟨O,hkn,O,O,O,O⟩),m,R,?_⟩;rw[O1];refine SW.put (hw.turn hm w O (fun _ _=>rfl) O O O (.mi cur ks vs) fun hR=>?_) dst ?_
  ·exact⟨mb,es,clock,seen,l,hRm,hb,hst,hr,q0,q5,q6,q7⟩
  ·simp only[Rel,RelP];exact⟨[.bool false],O,by simp[RelPL,RelP]⟩
 ·have hrun':(execOp a.eval ⟨dst,.next x false,ty,pos,after,gd⟩).run C.P w= .ok (.value (.tuple #[.bool true,e.key,e.val])) (setBlock w1 r (.mapIter (some mb) clock (seen.push e.born) clock)):=by
   simp only[execOp,hx',Sem.run_bind,hrun,Result.andThen_ok];rfl
  rw[hrun'];rw[hlf]at he;have hel:e∈l:=q0.mem_iff.2 he;obtain⟨i,hi⟩:=Qr hel;have hem:e∈es.toList:=(Qn.1 he).1;have hlen:=q5.length;have hlen2:=q6.length;simp only[Pg]at hlen hlen2;have hil:i<l.length:=(Pf.1 hi).1;obtain⟨k,hkk⟩:∃k,ks[i]? =some k:=⟨ks[i]'Ts,By _⟩;obtain⟨v,hvv⟩:∃v,vs[i]? =some v:=⟨vs[i]'Ts,By _⟩;have hrk:=RelPL.at q5 hkk (by rw[Rv,hi];rfl);have hrv:=RelPL.at q6 hvv (by rw[Rv,hi];rfl);have hnf:((es.toList.filter fun e=> !seen.contains e.born).map (·.born)).Nodup:=(Ri.map _).nodup hst.1;have hnd:(l.map (·.born)).Nodup:=(q0.map _).nodup_iff.2 hnf;have hf2:(l.eraseIdx i).Perm (es.toList.filter fun x=> !(seen.push e.born).contains x.born):=by
   have h1:(es.toList.filter fun x=> !(seen.push e.born).contains x.born)=(es.toList.filter fun e=> !seen.contains e.born).filter (fun x=> !(x.born==e.born)):=by
    rw[List.filter_filter];apply List.filter_congr;intro x _;rw[contains_push];cases seen.contains x.born<;>cases (x.born==e.born)<;>rfl
   rw[h1,<-ji hnd hi];exact q0.filter _
  have hlt:r<w.heap.size:=(Pc.1 hr).1;have hrm:r≠mb:=fun e=>by rw[e,hb]at hr;cases hr
  refine⟨_,hk true [k,v] [k,v] (ks.eraseIdx i) (vs.eraseIdx i) (.inr ⟨O,i,k,v,hkk,hvv,O,O,O,O⟩),m,R,?_⟩;rw[O1];have h1:w1.heap=w.heap/\w1.os=w.os/\w1.tape=w.tape/\w1.output=w.output:=by rcases hal with rfl|rfl<;>exact⟨O,O,O,O⟩
  refine SW.put (hw.turn hm (setBlock w1 r (.mapIter (some mb) clock (seen.push e.born) clock)) (by simp[setBlock,h1.1]) (fun k hk=>by simp only[setBlock,h1.1];rw[Q2 (fun e=>hk e.symm)]) h1.2.1 h1.2.2.1 h1.2.2.2 (.mi [k,v] (ks.eraseIdx i) (vs.eraseIdx i)) fun hR=>?_) dst ?_
  ·refine⟨mb,es,clock,seen.push e.born,l.eraseIdx i,hRm,(hR _ hRm).2.trans hb,hst,?_,hf2,?_,?_,.inr ⟨e,hem,Tw,?_⟩⟩
   ·show(w1.heap.setIfInBounds r _)[r]? =_;rw[h1.1,Ry];simp[hlt]
   ·rw[Go.ChangeMaps.map_eraseIdx];exact(q5.eraseIdx i).mono hR
   ·rw[Go.ChangeMaps.map_eraseIdx];exact(q6.eraseIdx i).mono hR
   ·exact RelPL.cons (hrk.mono hR) (RelPL.cons (hrv.mono hR) RelPL.nil)
  ·have hR:∀b,R b->R b/\(setBlock w1 r (.mapIter (some mb) clock (seen.push e.born) clock)).heap[b]? =w.heap[b]? :=fun b hb'=>⟨hb',by
    have hne:b≠r:=fun e=>(hw.hr.own id r N hm).2.1 (e▸hb')
    simp only[setBlock,h1.1];rw[Q2 (fun e=>hne e.symm)]⟩
   simp only[Rel,RelP];exact⟨[.bool true,e.key,e.val],O,RelPL.cons (by simp only[RelP]) (RelPL.cons (hrk.mono hR) (RelPL.cons (hrv.mono hR) RelPL.nil))⟩
theorem iA{id:Nat}{k v:PV}(hx:σ.ev n x= .ptr id 0)(ho:σ.ob id=some (.mi [k,v] ks vs)):
  XJ C n ⟨dst,.entry x,ty,pos,after,gd⟩ σ ⟨.pv (.tup [k,v]),[],[]⟩:=
 .val fun a w m R hw=>by
  obtain⟨r,N,hm,mb,es,clock,seen,l,hRm,hb,hst,hr,q0,q5,q6,q7⟩:=hw.live ho;have hxv:=hw.ev x;rw[hx]at hxv;simp only[Rel]at hxv;have hx':=hxv.2 r N hm;obtain⟨e,hem,hback,hrel⟩:=q7.resolve_left Tw;have hf:es.find? (·.born==e.born)=some e:=by rw[<-Array.find?_toList];exact find_born e es.toList hst.1 hem
  have hrun:(Instr.entry (.pointer (some ⟨r,0,none⟩))).run C.P w= .ok (.tuple #[e.key,e.val]) w:=by
   simp only[Instr.entry,getObj,Sem.run_bind,Sem.run,hr,hb,Result.andThen,hback,bne_self_eq_false,Qk,SD,hf];rfl
  simp only[RelPL]at hrel;obtain⟨u1,us1,e1,h1,u2,us2,e2,h2,e3⟩:=hrel;subst e2 e3;simp only[Rr,and_true]at e1;obtain⟨rfl,rfl⟩:=e1;refine⟨.tuple #[e.key,e.val],by simp only[execOp,hx',Sem.run_bind,hrun,Result.andThen_ok];rfl,?_⟩;simp only[Rel,RelP];exact⟨[e.key,e.val],O,RelPL.cons h1 (RelPL.cons h2 RelPL.nil)⟩
end
mutual
def V.mpV(id:Nat)(p:PV):V->V
 | .map i=>bif Nat.beq i id then .pv p else .map i
 | .agg vs=> .agg (V.mpL id p vs)
 | .tup vs=> .tup (V.mpL id p vs)
 | .fn f a b=> .fn f (V.mpL id p a) (V.mpL id p b)
 | .pv q=> .pv q
 | .ptr i o=> .ptr i o
 | .osl i s k=> .osl i s k
 | .tsl i s k=> .tsl i s k
 | .gsl i s k=> .gsl i s k
def V.mpL(id:Nat)(p:PV):List V->List V
 |[]=>[]
 |v::vs=>V.mpV id p v::V.mpL id p vs
end
def Ob.mpO(id:Nat)(p:PV):Ob->Ob
 | .mix t vs=> .mix t (V.mpL id p vs)
 | .cells t c=> .cells t c
 | .gro t c=> .gro t c
 | .mp ks vs=> .mp ks vs
 | .it s q=> .it s q
 | .fro s q=> .fro s q
 | .mi c ks vs=> .mi c ks vs
theorem Ob.I4(id:Nat)(p:PV):∀o:Ob,(o.mpO id p).real=o.real
 | .cells _ _=>rfl
 | .mix _ _=>rfl
 | .gro _ []=>rfl
 | .gro _ (_::_)=>rfl
 | .mp _ _=>rfl
 | .it _ _=>rfl
 | .fro _ _=>rfl
 | .mi _ _ _=>rfl
theorem Hi(id:Nat)(p:PV):∀o:Option Ob,bE (o.map (Ob.mpO id p))=bE o
 |none=>rfl
 |some o=>Ob.I4 id p o
def St.pubM(σ:St)(id:Nat)(p:PV):St:=⟨fun t=>V.mpV id p (σ.sl t),fun i=>bif Nat.beq i id then none else(σ.ob i).map (Ob.mpO id p),σ.av⟩
section
variable {w:World}{m m':Gm}{av:Av}{R R':Nat->Prop}
theorem kF(id:Nat)(p:PV):∀vs:List V,(V.mpL id p vs).length=vs.length
 |[]=>rfl
 |_::vs=>by simp[V.mpL,kF id p vs]
mutual
theorem Rel.mpV{id:Nat}{p:PV}(hR:∀b,R b->R' b/\w.heap[b]? =w.heap[b]?)(hm:∀i x,m' i=some x->m i=some x)(h1:∀u,Rel w m av R (.map id) u->RelP w R' p u):
  ∀(v:V)(u:Value),Rel w m av R v u->Rel w m' av R' (V.mpV id p v) u
 | .map i,u,h=>by
   simp only[V.mpV];cases hb:Nat.beq i id with
   |true=>have:=aI hb;subst this;simp only[Qd,Rel];exact h1 u h
   |false=>simp only[PE];exact h.mono hR (fun i x _ e=>hm i x e) (fun _ e=>e)
 | .agg vs,u,h=>by
   simp only[Rel,V.mpV]at h ⊢;obtain⟨us,e,h⟩:=h;exact⟨us,e,RelL.mpL hR hm h1 vs us h⟩
 | .tup vs,u,h=>by
   simp only[Rel,V.mpV]at h ⊢;obtain⟨us,e,h⟩:=h;exact⟨us,e,RelL.mpL hR hm h1 vs us h⟩
 | .fn f a b,u,h=>by
   simp only[Rel,V.mpV]at h ⊢;obtain⟨us,vs,e,ha,hb⟩:=h;exact⟨us,vs,e,RelL.mpL hR hm h1 a us ha,RelL.mpL hR hm h1 b vs hb⟩
 | .pv q,u,h=>by simp only[V.mpV];exact h.mono hR (fun i x _ e=>hm i x e) (fun _ e=>e)
 | .ptr i o,u,h=>by simp only[V.mpV];exact h.mono hR (fun i x _ e=>hm i x e) (fun _ e=>e)
 | .osl i s k,u,h=>by simp only[V.mpV];exact h.mono hR (fun i x _ e=>hm i x e) (fun _ e=>e)
 | .tsl i s k,u,h=>by simp only[V.mpV];exact h.mono hR (fun i x _ e=>hm i x e) (fun _ e=>e)
 | .gsl i s k,u,h=>by simp only[V.mpV];exact h.mono hR (fun i x _ e=>hm i x e) (fun _ e=>e)
theorem RelL.mpL{id:Nat}{p:PV}(hR:∀b,R b->R' b/\w.heap[b]? =w.heap[b]?)(hm:∀i x,m' i=some x->m i=some x)(h1:∀u,Rel w m av R (.map id) u->RelP w R' p u):
  ∀(vs:List V)(us:List Value),RelL w m av R vs us->RelL w m' av R' (V.mpL id p vs) us
 |[],_,h=>by simpa only[RelL,V.mpL]using h
 | c::vs,_,h=>by
   simp only[RelL,V.mpL]at h ⊢;obtain⟨u,us,e,ha,hb⟩:=h;exact⟨u,us,e,Rel.mpV hR hm h1 c u ha,RelL.mpL hR hm h1 vs us hb⟩
end
end
theorem wj{w:World}{R:Nat->Prop}{ps qs ks vs:List PV}(hl:ks.length=vs.length){es:List MapEntry}(h1:RelPL w R ps (es.map (·.key)))(h2:RelPL w R qs (es.map (·.val)))(hp:(ps.zip qs).Perm (ks.zip vs)):∃l:List MapEntry,l.Perm es/\RelPL w R ks (l.map (·.key))/\RelPL w R vs (l.map (·.val)):=by
 generalize hA:ps.zip qs=A at hp;generalize hB:ks.zip vs=B at hp;have hps:ps=A.map (·.1):=by rw[<-hA,Th];have:=h1.length;have:=h2.length;simp at *; omega
 have hqs:qs=A.map (·.2):=by rw[<-hA,List.map_snd_zip];have:=h1.length;have:=h2.length;simp at *; omega
 have hks:ks=B.map (·.1):=by rw[<-hB,Th (Qp hl)]
 have hvs:vs=B.map (·.2):=by rw[<-hB,List.map_snd_zip (Qp hl.symm)]
 rw[hks,hvs];rw[hps]at h1;rw[hqs]at h2;clear hA hB hps hqs hks hvs hl;induction hp generalizing es with
 |nil=>exact⟨es,PY _,h1,h2⟩
 | cons a _ ih=>
   cases es with
   |nil=>simp[RelPL]at h1
   | cons e es=>
     simp only[bL,RelPL,Rr]at h1 h2;obtain⟨_,_,⟨rfl,rfl⟩,a1,a2⟩:=h1;obtain⟨_,_,⟨rfl,rfl⟩,b1,b2⟩:=h2;obtain⟨l,c1,c2,c3⟩:=ih b2 a2;exact⟨e::l,List.Perm.cons _ c1,RelPL.cons a1 c2,RelPL.cons b1 c3⟩
 | swap a b A=>
   cases es with
   |nil=>simp[RelPL]at h1
   | cons e es=>
     cases es with
     | nil=>
       simp only[bL,Qh,RelPL,Rr]at h1;obtain⟨_,_,⟨_,rfl⟩,_,_,_,h,_⟩:=h1;cases h
     | cons e' es=>
       simp only[bL,RelPL,Rr]at h1 h2;obtain⟨_,_,⟨rfl,rfl⟩,a1,_,_,⟨rfl,rfl⟩,a2,a3⟩:=h1;obtain⟨_,_,⟨rfl,rfl⟩,b1,_,_,⟨rfl,rfl⟩,b2,b3⟩:=h2;exact⟨e'::e::es,List.Perm.swap _ _ _,RelPL.cons a2 (RelPL.cons a1 a3),RelPL.cons b2 (RelPL.cons b1 b3)⟩
 | trans _ _ ih1 ih2=>
   obtain⟨l1,c1,c2,c3⟩:=ih1 h2 h1;obtain⟨l2,d1,d2,d3⟩:=ih2 c3 c2;exact⟨l2,d1.trans c1,d2,d3⟩
theorem St.cX{σ:St}{ps qs ks vs:List PV}(id:Nat)(ho:σ.ob id=some (.mp ps qs))(hl:ks.length=vs.length)(hp:(ps.zip qs).Perm (ks.zip vs)):σ.le (σ.pubM id (.mp ks vs)):=by
 rintro C n a w ⟨m,R,hw⟩;have hd:=hw.drop id;have sub:∀i x,upd m id none i=some x->m i=some x/\i≠id:=fun i x e=>by
  by_cases hi:i=id
  ·subst hi;rw[ay]at e;cases e
  ·rw[aM _ _ hi]at e;exact⟨e,hi⟩
 let R':Nat->Prop:=fun q=>R q\/∃N,m id=some (q,N)
 have hR:∀b,R b->R' b/\w.heap[b]? =w.heap[b]? :=fun b hb=>⟨.inl hb,O⟩
 obtain⟨b0,N0,hm0,es,clock,q1,q2,q3,q4⟩:=hw.live ho;have p1:∀u,Rel w m σ.av R (.map id) u->RelP w R' (.mp ks vs) u:=by
  intro u h;simp only[Rel]at h;have:=h.2 b0 N0 hm0;simp only[RelP];obtain⟨l,c1,c2,c3⟩:=wj hl q2 q3 hp;exact⟨b0,this,.inr ⟨N0,hm0⟩,es,clock,l,q1,c2.mono hR,c3.mono hR,q4,c1⟩
 have hsub:∀i x,upd m id none i=some x->m i=some x:=fun i x e=>(sub i x e).1
 have obn:∀i,(σ.pubM id (.mp ks vs)).ob i=bif Nat.beq i id then none else(σ.ob i).map (Ob.mpO id (.mp ks vs)):=fun _=>rfl
 have obs:(σ.pubM id (.mp ks vs)).ob id=none:=by rw[obn];simp
 have obe:∀i,i≠id->(σ.pubM id (.mp ks vs)).ob i=(σ.ob i).map (Ob.mpO id (.mp ks vs)):=fun i hi=>by
  rw[obn];have:Nat.beq i id=false:=by cases hb:Nat.beq i id;rfl;exact absurd (aI hb) hi
  rw[this];rfl
 refine⟨upd m id none,R',⟨?_,?_,?_,hd.hr.inj,?_,?_,?_,fun q hq=> .inl (hw.hr.r0 q hq),hw.hr.frame,hd.hr.keep,hd.hr.res⟩,hw.df,hw.sz,?_⟩
 ·intro i;by_cases e:i=id
  ·subst e;rw[ay,obs];rfl
  ·rw[aM _ _ e,obe i e,Hi];exact hw.hr.dom i
 ·intro i hi;by_cases e:i=id
  ·subst e;exact obs
  ·rw[obe i e,hw.hr.free i hi];rfl
 ·intro i o' b N h1 h2;obtain⟨h2',e⟩:=sub i _ h2;rw[obe i e]at h1;cases ho':σ.ob i with
  |none=>rw[ho']at h1;cases h1
  | some o2=>
    rw[ho']at h1;simp only[Ra,Pe]at h1;subst h1;have hO:=hw.hr.obj i o2 b N ho' h2';cases o2 with
    |cells T c=>obtain⟨arr,q1,q2,q3,q4⟩:=hO;exact⟨arr,q1,q2,q3,q4.mono hR⟩
    |gro T c=>obtain⟨arr,q1,q2,q3,q4⟩:=hO;exact⟨arr,q1,q2,q3,q4.mono hR⟩
    |mp ks vs=>obtain⟨es,clock,q1,q2,q3,q4⟩:=hO;exact⟨es,clock,q1,q2.mono hR,q3.mono hR,q4⟩
    |it s p=>exact hO
    |fro s p=>exact hO
    |mi c ks vs=>exact sy.mono hR O hO
    | mix T c=>
      obtain⟨arr,q1,q2,q3,q4⟩:=hO;refine⟨arr,q1,q2,by rw[kF];exact q3,?_⟩;rw[kF];exact q4.mpL hR hsub p1
 ·intro i b N h1;obtain⟨h2,h3,h4⟩:=hw.hr.own i b N (sub i _ h1).1;refine⟨h2,?_,h4⟩;rintro(h5|⟨N',h5⟩)
  ·exact h3 h5
  ·exact(sub i _ h1).2 (hw.hr.inj i id b N N' (sub i _ h1).1 h5)
 ·rintro q (hq|⟨N,hq⟩)
  ·exact hw.hr.rsz q hq
  ·exact(hw.hr.own id q N hq).1
 ·rintro q (hq|⟨N,hq⟩)
  ·exact hw.hr.rfr q hq
  ·rcases(hw.hr.own id q N hq).2.2 with h|h
   ·exact .inr (.inr h)
   ·exact .inr (.inl h)
 ·intro t ht;exact(hw.sl t ht).mpV hR hsub p1
end
section
open Go.RowKit Mm
abbrev cP(p:Par):PV:= .agg (oR p)
abbrev ppC(x:PP):List PV:=[.int .i64 x.1.f,.str x.1.c,.int .i64 x.2.f,.str x.2.c]
abbrev ppP(x:PP):PV:= .agg (ppC x)
theorem iT(s t:ByteArray):(s==t)=(s.toList==t.toList):=by
 cases h:s==t with
 |true=>have e:=gK h;subst e;simp
 | false=>cases h2:s.toList==t.toList with
   |false=>rfl
   |true=>have e:=bytes_inj (a:=s) (b:=t) (by simpa using h2);subst e;rw[fO]at h;cases h
theorem cM(p q:Par):keq (cP p) (cP q)=some (p==q):=by
 show some ((p.f==q.f)&&((p.c==q.c)&&true))=some (p.f==q.f&&p.c.toList==q.c.toList);rw[iT,Sf]
theorem eL(x y:PP):keq (ppP x) (ppP y)=some (x==y):=by
 show some ((x.1.f==y.1.f)&&((x.1.c==y.1.c)&&((x.2.f==y.2.f)&&((x.2.c==y.2.c)&&true))))=some ((x.1.f==y.1.f&&x.1.c.toList==y.1.c.toList)&&(x.2.f==y.2.f&&x.2.c.toList==y.2.c.toList));rw[iT,iT,Sf,Bool.and_assoc]
theorem kQ{i:Int}{c:ByteArray}{r l:List PV}(h:∃b,bj (.int .i64 i:: .str c::r) l=some b):∃i' c' l',l= .int .i64 i':: .str c'::l'/\∃b,bj r l'=some b:=by
 obtain⟨b,h⟩:=h;rcases l with _|⟨a,l⟩
 ·simp[bj]at h
 ·cases a<;>simp only[bj,reduceCtorEq]at h;rename_i k v;cases hk:kEq IntKind.i64 k with
  |false=>rw[hk]at h;cases h
  | true=>
    have:=dL hk;subst this;rw[hk]at h;rcases l with _|⟨d,l⟩
    ·simp[bj]at h
    ·cases d<;>simp only[bj,Option.map_none,reduceCtorEq,Qd]at h;rename_i s;cases hr:bj r l with
     |none=>rw[hr]at h;simp at h
     |some b'=>exact⟨v,s,l,O,b',hr⟩
theorem uJ{l:List PV}{b:Bool}(h:bj [] l=some b):l=[]:=by
 cases l with
 |nil=>rfl
 |cons a l=>cases a<;>simp[bj]at h
theorem Fv{p:Par}{x:PV}{b:Bool}(h:keq (cP p) x=some b):∃q:Par,x=cP q:=by
 cases x<;>simp only[keq,reduceCtorEq]at h;obtain⟨i1,c1,l1,rfl,b1,h1⟩:=kQ ⟨b,h⟩;rw[uJ h1];exact⟨⟨i1,c1⟩,O⟩
theorem GI{p:PP}{x:PV}{b:Bool}(h:keq (ppP p) x=some b):∃q:PP,x=ppP q:=by
 cases x<;>simp only[keq,reduceCtorEq]at h;obtain⟨i1,c1,l1,rfl,h1⟩:=kQ ⟨b,h⟩;obtain⟨i2,c2,l2,rfl,b2,h2⟩:=kQ h1;rw[uJ h2];exact⟨(⟨i1,c1⟩,⟨i2,c2⟩),O⟩
theorem Df{w:World}{R:Nat->Prop}{u:Value}{x:PP}(h:RelP w R (ppP x) u):u= .agg #[.int .i64 x.1.f,.string x.1.c,.int .i64 x.2.f,.string x.2.c]:=by
 simpa[RelP,RelPL]using h
theorem eqPP(k:Nat)(a b a' b':Int)(s t s' t':ByteArray)(w:World):(Op.equalIn (k+3) 238 (.agg #[.int .i64 a,.string s,.int .i64 a',.string s']) (.agg #[.int .i64 b,.string t,.int .i64 b',.string t'])).run prog w= .ok ((a==b&&s.toList==t.toList)&&(a'==b'&&s'.toList==t'.toList)) w:=by
 have hS:prog.underlying 238=some (.struct (prog.fieldsOf 238)):=Tt;rw[run_equalIn_agg w (k+2) 238 _ _ hS Tryz.stoodInHeld238];have h2:=fun w=>H4 k a b s t w
 have h3:=fun w=>H4 k a' b' s' t' w
 simp only[Program.fieldsOf,underlying238]
 go_simp
 by_cases h1:a=b<;>by_cases h2:s.toList=t.toList<;>by_cases h4:a'=b'<;>by_cases h5:s'.toList=t'.toList<;>simp[h1,h2,h4,h5]
theorem M8(k:Nat)(e:Bool)(a:Int)(s:ByteArray)(w:World):(Instr.checkKey e (k+2) 147 (.agg #[.int .i64 a,.string s])).run prog w= .ok () w:=by
 have u1:=underlying147;have u3:=underlying3;have u9:=underlying9;have e1:∀(v:Value)(w:World),(Instr.checkKey e (k+1) 3 v).run prog w= .ok () w:=fun v w=>by unfold Instr.checkKey;simp[run_underlying u3,Result.andThen]
 have e2:∀(v:Value)(w:World),(Instr.checkKey e (k+1) 9 v).run prog w= .ok () w:=fun v w=>by unfold Instr.checkKey;simp[run_underlying u9,Result.andThen]
 unfold Instr.checkKey;simp only[Sem.run_bind,run_underlying u1,Result.andThen]
 go_simp
theorem ckPP(k:Nat)(e:Bool)(a b:Int)(s t:ByteArray)(w:World):(Instr.checkKey e (k+3) 238 (.agg #[.int .i64 a,.string s,.int .i64 b,.string t])).run prog w= .ok () w:=by
 have u1:=underlying238;have e1:=fun a s w=>M8 k e a s w
 unfold Instr.checkKey;simp only[Sem.run_bind,run_underlying u1,Result.andThen]
 go_simp
theorem jT:KeyOk prog 147 (fun k=>∃p:Par,k=cP p) where
 und:=⟨_,underlying147,fun us y=>by cases y<;>rfl⟩
 check:=by
  rintro w R k u e ⟨p,rfl⟩ h;rw[mW h];exact M8 9998 e _ _ w
 ask:=by
  rintro w R k x u y b ⟨p,rfl⟩ h1 h2 h3;obtain⟨q,rfl⟩:=Fv h3;rw[cM]at h3;cases h3;rw[mW h1,mW h2];exact H4 9998 p.f q.f p.c q.c w
 agg:=by rintro k ⟨p,rfl⟩;exact⟨_,O⟩
theorem qN:KeyOk prog 238 (fun k=>∃x:PP,k=ppP x) where
 und:=⟨_,underlying238,fun us y=>by cases y<;>rfl⟩
 check:=by
  rintro w R k u e ⟨p,rfl⟩ h;rw[Df h];exact ckPP 9997 e _ _ _ _ w
 ask:=by
  rintro w R k x u y b ⟨p,rfl⟩ h1 h2 h3;obtain⟨q,rfl⟩:=GI h3;rw[eL]at h3;cases h3;rw[Df h1,Df h2];exact eqPP 9997 p.1.f q.1.f p.2.f q.2.f p.1.c q.1.c p.2.c q.2.c w
 agg:=by rintro k ⟨p,rfl⟩;exact⟨_,O⟩
section
variable {K:Type}[BEq K][LawfulBEq K]
def aD(f:K->PV)(l:List (K×Rat)):List PV:=l.map fun e=>f e.1
def aK(l:List (K×Rat)):List PV:=l.map fun e=>frP e.2
theorem eX{f:K->PV}(hf:∀a b,keq (f a) (f b)=some (a==b))(k:K):∀(l:List (K×Rat))(i:Nat),cc (f k) (aD f l) i=some ((l.findIdx? (fun e=>e.1==k)).map (i+ ·))
 |[],i=>rfl
 | e::l,i=>by
   have hs:(k==e.1)=(e.1==k):=by
    cases h:k==e.1 with
    |true=>rw[eq_of_beq h];simp
    | false=>cases h2:e.1==k with
      |false=>rfl
      |true=>rw[eq_of_beq h2]at h;simp at h
   show(match keq (f k) (f e.1)with|some true=>some (some i)|some false=>cc (f k) (aD f l) (i+1)|none=>none)=_;rw[hf,hs,List.findIdx?_cons];cases e.1==k with
   |true=>simp
   | false=>
     simp only[Qk,SD];rw[eX hf k l (i+1)];cases l.findIdx? (fun e=>e.1==k)with
     |none=>rfl
     |some j=>simp;omega
def th(l:List (K×Rat))(k:K)(y:Rat):List (K×Rat):=match l.findIdx? (fun e=>e.1==k)with
 |some j=>l.set j (k,y)
 |none=>l++[(k,y)]
def vj(l:List (K×Rat))(k:K):List (K×Rat):=match l.findIdx? (fun e=>e.1==k)with
 |some j=>l.eraseIdx j
 |none=>l
def s7(l:List (K×Rat))(k:K):Option Rat:=match l.findIdx? (fun e=>e.1==k)with
 |some j=>some (l.getD j (k,0)).2
 |none=>none
def JK(x:Rat):Option Rat->Rat
 |some o=>x+o
 |none=>x
omit [LawfulBEq K] in
theorem Dl(l:List (K×Rat))(k:K)(x:Rat):note l k x=if JK x (s7 l k)=0 then vj l k else th l k (JK x (s7 l k)):=by
 unfold note s7 vj th;cases l.findIdx? (fun e=>e.1==k)<;>rfl
omit [LawfulBEq K] in
theorem mH{l:List (K×Rat)}{k:K}{x y:Rat}(ho:JK x (s7 l k)=y)(h:y=0):note l k x=vj l k:=by rw[Dl,ho,AT h]
omit [LawfulBEq K] in
theorem mD{l:List (K×Rat)}{k:K}{x y:Rat}(ho:JK x (s7 l k)=y)(h:¬y=0):note l k x=th l k y:=by rw[Dl,ho,dw h]
theorem yh{l:List (K×Rat)}{k:K}{o:Rat}(h:s7 l k=some o):∃e∈l,e.2=o:=by
 unfold s7 at h;cases hf:l.findIdx? (fun e=>e.1==k)with
 |none=>rw[hf]at h;cases h
 | some j=>
   rw[hf]at h;simp only[Pe]at h;obtain⟨l1,o',l2,rfl,rfl,_⟩:=eD hf;refine⟨(k,o'),Tw,?_⟩;rw[<-h];simp[List.getD]
theorem iM{f:K->PV}(hf:∀a b,keq (f a) (f b)=some (a==b))(l:List (K×Rat))(k:K)(y:Rat):lV (f k) (aD f l)=aD f (th l k y):=by
 unfold lV th;rw[eX hf];cases l.findIdx? (fun e=>e.1==k)with
 |none=>simp[aD]
 |some j=>simp[aD,Qi]
theorem iW{f:K->PV}(hf:∀a b,keq (f a) (f b)=some (a==b))(l:List (K×Rat))(k:K)(y:Rat):kZ (f k) (frP y) (aD f l) (aK l)=aK (th l k y):=by
 unfold kZ th;rw[eX hf];cases l.findIdx? (fun e=>e.1==k)with
 |none=>simp[aK]
 |some j=>simp[aK,Qi]
theorem yT{f:K->PV}(hf:∀a b,keq (f a) (f b)=some (a==b))(l:List (K×Rat))(k:K):oU (f k) (aD f l) (aD f l)=aD f (vj l k):=by
 unfold oU vj;rw[eX hf];cases l.findIdx? (fun e=>e.1==k)with
 |none=>rfl
 |some j=>simp[aD,Go.ChangeMaps.map_eraseIdx]
theorem yu{f:K->PV}(hf:∀a b,keq (f a) (f b)=some (a==b))(l:List (K×Rat))(k:K):oU (f k) (aD f l) (aK l)=aK (vj l k):=by
 unfold oU vj;rw[eX hf];cases l.findIdx? (fun e=>e.1==k)with
 |none=>rfl
 |some j=>simp[aK,Go.ChangeMaps.map_eraseIdx]
theorem mC{f:K->PV}(hf:∀a b,keq (f a) (f b)=some (a==b))(l:List (K×Rat))(k:K):iC (f k) (aD f l) (aK l)=some ((s7 l k).map frP):=by
 unfold iC s7;rw[eX hf];cases hfi:l.findIdx? (fun e=>e.1==k)with
 |none=>rfl
 | some j=>
   obtain⟨l1,o',l2,rfl,rfl,_⟩:=eD hfi;simp[aK,List.getD]
theorem jQ{f:K->PV}(hf:∀a b,keq (f a) (f b)=some (a==b))(l:List (K×Rat))(k:K):∃r,cc (f k) (aD f l) 0=some r:=⟨_,eX hf k l 0⟩
end
theorem fV{q:Rat}:(q.num.sign==0)=decide (q=0):=by
 rw[PA,Rk,Po,Int.sign_eq_zero_iff_zero,Rat.num_eq_zero]
abbrev frZ:PV:= .agg [.bool false,.sl (some true) 0 [],.bool false,.sl (some true) 0 []]
theorem Ap(l:List (Par×Rat))(k:Par)(x:Rat)(hx:FOk x)(hl:∀e∈l,FOk e.2):FnO prog 228 1 0 [.map big,.pv (cP k),.pv (frP x)] [(big,.mp (aD cP l) (aK l))] (fun v ob'=>v= .tup []/\ob'=ax [(big,.mp (aD cP (note l k x)) (aK (note l k x)))]):=by
 refine FnO.of func228 O ntmps228 Tw fun m0 w0 F R0=>?_
 have hlk:=mC cM l k;obtain⟨r,hr⟩:=jQ cM l k;have hdk:=yT cM l k;have hdv:=yu cM l k;cases ho:s7 l k with
 | none=>
   rw[ho]at hlk;simp only[Option.map_none]at hlk;have hy:JK x (s7 l k)=x:=by rw[ho];rfl
   have hz:(x.num.sign==0)=decide (x=0):=fV;have hs:=eh x;have hpk:=iM cM l k x;have hpv:=iW cM l k x;refine Z2 O O O<|Z2 O O O<|Rs 11 O O (iZ (zp:=frZ) (r:=none) (b:=false) jT underlying117 (.inl ⟨big,O,O⟩) O ⟨k,O⟩ lA O hlk O O) ?_;iterate 6 refine A1 O ?_
   refine Z1 O O ?_;refine Gc O O (fun hc14=>absurd hc14 Tw) (fun hc14=>?_);refine OR<|Z1 O O<|Rs 19 O O (aa call203 hs O)<|A1 O ?_;refine Gc O O (fun hc20=>?_) (fun hc20=>?_)
   ·have h0:x=0:=by rw[hz]at hc20;simpa using hc20
    have hne:=mH hy h0;exact Z2 O O O<|RL.step (d:=none) O O (iE jT underlying117 O O O ⟨k,O⟩ hr hdk hdv)<|Gt O<|⟨[],[(big,.mp (aD cP (vj l k)) (aK (vj l k)))],[],OU trivial (aO O) O O,O,O,O,O,by rw[hne]⟩
   ·have h0:¬x=0:=by rw[hz]at hc20;simpa using hc20
    have hne:=mD hy h0;exact OR<|Z3 O O O O<|RL.step (d:=none) O O (bW jT underlying117 O O O O ⟨k,O⟩ hr hpk hpv)<|⟨[],[(big,.mp (aD cP (th l k x)) (aK (th l k x)))],[],OU trivial (aO O) O O,O,O,O,O,by rw[hne]⟩
 | some o=>
   rw[ho]at hlk;simp only[Ra]at hlk;obtain⟨e,he,hoe⟩:=yh ho;have hok:FOk o:=hoe▸hl e he;have had:=jN x o hx hok;have hy:JK x (s7 l k)=x+o:=by rw[ho];rfl
   have hz:((x+o).num.sign==0)=decide (x+o=0):=fV;have hs:=eh (x+o);have hpk:=iM cM l k (x+o);have hpv:=iW cM l k (x+o);refine Z2 O O O<|Z2 O O O<|Rs 11 O O (iZ (zp:=frZ) (r:=some (frP o)) (b:=true) jT underlying117 (.inl ⟨big,O,O⟩) O ⟨k,O⟩ lA O hlk O O) ?_;iterate 6 refine A1 O ?_
   refine Z1 O O ?_;refine Gc O O (fun hc14=>?_) (fun hc14=>absurd hc14 Tw);refine Z2 O O O<|Rs 17 O O (aa call140 had O)<|A1 O<|Z1 O O<|Rs 19 O O (aa call203 hs O)<|A1 O ?_;refine Gc O O (fun hc20=>?_) (fun hc20=>?_)
   ·have h0:x+o=0:=by rw[hz]at hc20;simpa using hc20
    have hne:=mH hy h0;exact Z2 O O O<|RL.step (d:=none) O O (iE jT underlying117 O O O ⟨k,O⟩ hr hdk hdv)<|Gt O<|⟨[],[(big,.mp (aD cP (vj l k)) (aK (vj l k)))],[],OU trivial (aO O) O O,O,O,O,O,by rw[hne]⟩
   ·have h0:¬x+o=0:=by rw[hz]at hc20;simpa using hc20
    have hne:=mD hy h0;exact OR<|Z3 O O O O<|RL.step (d:=none) O O (bW jT underlying117 O O O O ⟨k,O⟩ hr hpk hpv)<|⟨[],[(big,.mp (aD cP (th l k (x+o))) (aK (th l k (x+o))))],[],OU trivial (aO O) O O,O,O,O,O,by rw[hne]⟩
theorem kV(l:List (PP×Rat))(k:PP)(x:Rat)(hx:FOk x)(hl:∀e∈l,FOk e.2):FnO prog 141 1 0 [.map big,.pv (ppP k),.pv (frP x)] [(big,.mp (aD ppP l) (aK l))] (fun v ob'=>v= .tup []/\ob'=ax [(big,.mp (aD ppP (note l k x)) (aK (note l k x)))]):=by
 refine FnO.of func141 O ntmps141 Tw fun m0 w0 F R0=>?_
 have hlk:=mC eL l k;obtain⟨r,hr⟩:=jQ eL l k;have hdk:=yT eL l k;have hdv:=yu eL l k;cases ho:s7 l k with
 | none=>
   rw[ho]at hlk;simp only[Option.map_none]at hlk;have hy:JK x (s7 l k)=x:=by rw[ho];rfl
   have hz:(x.num.sign==0)=decide (x=0):=fV;have hs:=eh x;have hpk:=iM eL l k x;have hpv:=iW eL l k x;refine Z2 O O O<|Z2 O O O<|Rs 11 O O (iZ (zp:=frZ) (r:=none) (b:=false) qN underlying118 (.inl ⟨big,O,O⟩) O ⟨k,O⟩ lA O hlk O O) ?_;iterate 6 refine A1 O ?_
   refine Z1 O O ?_;refine Gc O O (fun hc14=>absurd hc14 Tw) (fun hc14=>?_);refine OR<|Z1 O O<|Rs 19 O O (aa call203 hs O)<|A1 O ?_;refine Gc O O (fun hc20=>?_) (fun hc20=>?_)
   ·have h0:x=0:=by rw[hz]at hc20;simpa using hc20
    have hne:=mH hy h0;exact Z2 O O O<|RL.step (d:=none) O O (iE qN underlying118 O O O ⟨k,O⟩ hr hdk hdv)<|Gt O<|⟨[],[(big,.mp (aD ppP (vj l k)) (aK (vj l k)))],[],OU trivial (aO O) O O,O,O,O,O,by rw[hne]⟩
   ·have h0:¬x=0:=by rw[hz]at hc20;simpa using hc20
    have hne:=mD hy h0;exact OR<|Z3 O O O O<|RL.step (d:=none) O O (bW qN underlying118 O O O O ⟨k,O⟩ hr hpk hpv)<|⟨[],[(big,.mp (aD ppP (th l k x)) (aK (th l k x)))],[],OU trivial (aO O) O O,O,O,O,O,by rw[hne]⟩
 | some o=>
   rw[ho]at hlk;simp only[Ra]at hlk;obtain⟨e,he,hoe⟩:=yh ho;have hok:FOk o:=hoe▸hl e he;have had:=jN x o hx hok;have hy:JK x (s7 l k)=x+o:=by rw[ho];rfl
   have hz:((x+o).num.sign==0)=decide (x+o=0):=fV;have hs:=eh (x+o);have hpk:=iM eL l k (x+o);have hpv:=iW eL l k (x+o);refine Z2 O O O<|Z2 O O O<|Rs 11 O O (iZ (zp:=frZ) (r:=some (frP o)) (b:=true) qN underlying118 (.inl ⟨big,O,O⟩) O ⟨k,O⟩ lA O hlk O O) ?_;iterate 6 refine A1 O ?_
   refine Z1 O O ?_;refine Gc O O (fun hc14=>?_) (fun hc14=>absurd hc14 Tw);refine Z2 O O O<|Rs 17 O O (aa call140 had O)<|A1 O<|Z1 O O<|Rs 19 O O (aa call203 hs O)<|A1 O ?_;refine Gc O O (fun hc20=>?_) (fun hc20=>?_)
   ·have h0:x+o=0:=by rw[hz]at hc20;simpa using hc20
    have hne:=mH hy h0;exact Z2 O O O<|RL.step (d:=none) O O (iE qN underlying118 O O O ⟨k,O⟩ hr hdk hdv)<|Gt O<|⟨[],[(big,.mp (aD ppP (vj l k)) (aK (vj l k)))],[],OU trivial (aO O) O O,O,O,O,O,by rw[hne]⟩
   ·have h0:¬x+o=0:=by rw[hz]at hc20;simpa using hc20
    have hne:=mD hy h0;exact OR<|Z3 O O O O<|RL.step (d:=none) O O (bW qN underlying118 O O O O ⟨k,O⟩ hr hpk hpv)<|⟨[],[(big,.mp (aD ppP (th l k (x+o))) (aK (th l k (x+o))))],[],OU trivial (aO O) O O,O,O,O,O,by rw[hne]⟩
end
section
open Go.RowKit Mm
abbrev vE(c:Rat)(a b:Nat):List V:=[.pv (.bool (decide (c.num<0))),.pv (bF c.num.natAbs),.pv (.bool (decide ((c.den:Int)<0))),.pv (bF (c.den:Int).natAbs),.map a,.map b]
abbrev mcC(m:MC):List PV:=[.bool (decide (m.c.num<0)),bF m.c.num.natAbs,.bool (decide ((m.c.den:Int)<0)),bF (m.c.den:Int).natAbs,.mp (aD cP m.s) (aK m.s),.mp (aD ppP m.p) (aK m.p)]
abbrev mcP(m:MC):PV:= .agg (mcC m)
noncomputable abbrev momP(x:Mm.Sem):PV:=mcP (cn x)
theorem jc.ofE{K:Type}{f:K->PV}{l:List (K×Rat)}{cur:List PV}{b:Bool}{rest cur' ks' vs':List PV}(h:jc cur (aD f l) (aK l) b rest cur' ks' vs'):
  (b=false/\l=[]/\rest=[]/\cur'=cur/\ks'=aD f l/\vs'=aK l)\/(b=true/\∃(l1:List (K×Rat))(e:K×Rat)(l2:List (K×Rat)),l=l1++e::l2/\rest=[f e.1,frP e.2]/\cur'=[f e.1,frP e.2]/\ks'=aD f (l1++l2)/\vs'=aK (l1++l2)):=
 jc.of (α:=K×Rat) (f:=fun e=>f e.1) (g:=fun e=>frP e.2) h
def smB:Nat:=10^100
def Gh:Nat:=(10^100)^10
theorem cT{B:Nat}{q:Rat}(hi:db 36 q)(hb:a6 B q)(hB:B<=Gh):FOk q:=by
 have h1:=hi.Jq Tu;refine⟨Ts,IS ((bt (k:=200)).2 ?_) Tu⟩;have h2:=hb.num;have h3:B*q.den<=Gh*36:=Qc hB Ts;have h4:Gh*36<1000000000^200:=by decide+kernel
 exact SV (IS h2 h3) h4
theorem Mm.db.MW{q:Rat}(h:db 6 q):db 36 q:=h.up 6
theorem Mm.db.int(D:Int){q:Rat}(h:∃z:Int,q=(z:Rat)):db D q:=by
 obtain⟨z,rfl⟩:=h;exact db.ofInt D z
theorem Mm.db.F9{D:Int}{q k:Rat}(h:db D q)(hk:∃z:Int,k=(z:Rat)):db D (q*k):=by
 obtain⟨z,rfl⟩:=hk;obtain⟨x,hx⟩:=h;exact⟨x*z,by rw[RY,<-hx];grind⟩
theorem sm1:smB+smB*smB<=Gh:=by decide+kernel
theorem sm0:smB<=Gh:=by decide+kernel
theorem sm2:smB*smB<=Gh:=by decide+kernel
structure IncR(c:Rat)(sb:List (Par×Rat))(pb:List (PP×Rat))(w:MC)(k c':Rat)(s':List (Par×Rat))(p':List (PP×Rat)):Prop where
 c:c'=c+w.c*k
 s:LOk 6 s'
 p:LOk 36 p'
 po:(∀e∈pb,cq e.1.1 e.1.2<=0)->∀e∈p',cq e.1.1 e.1.2<=0
 es:∀x,lk s' x=lk sb x+lk w.s x*k
 ep:∀x,lk p' x=lk pb x+lk w.p x*k
structure MSmB(B:Nat)(m:MC):Prop where
 ci:∃z:Int,m.c=(z:Rat)
 s:LOk 6 m.s
 p:LOk 36 m.p
 po:∀e∈m.p,cq e.1.1 e.1.2<=0
 cb:a6 B m.c
 sb:∀e∈m.s,a6 B e.2
 pb:∀e∈m.p,a6 B e.2
abbrev MSm(m:MC):Prop:=MSmB smB m
theorem Mm.Inc.po{b w todo acc:List (PP×Rat)}{q:Rat}(h:Inc 36 b w q todo acc)(hb:∀e∈b,cq e.1.1 e.1.2<=0)(hw:∀e∈w,cq e.1.1 e.1.2<=0):∀e∈acc,cq e.1.1 e.1.2<=0:=by
 intro e he;obtain⟨d,h1,h2⟩:=h.ex;have h3:=fv h.ok.nd he;rw[h2]at h3;rcases eA b e.1 with⟨l1,o,l2,rfl,_⟩|hk
 ·exact hb (e.1,o) Tw
 ·rcases eA d e.1 with⟨l1,o,l2,rfl,_⟩|hk2
  ·exact hw (e.1,o) (h1.subset Tw)
  ·rw[pC hk,pC hk2]at h3;exact absurd (show e.2=0 by rw[<-h3];grind) (h.ok.nz e he)
theorem gV(c:Rat)(sb:List (Par×Rat))(pb:List (PP×Rat))(w:MC)(k:Rat){B:Nat}(hB:B+smB*smB<=Gh)(hv:MSmB B ⟨c,sb,pb⟩)(hw:MSm w)(hk:∃z:Int,k=(z:Rat))(hkb:a6 smB k):
  FnO prog 138 3 0 [.ptr big 0,.pv (mcP w),.pv (frP k)] [(big,.mix 120 (vE c 9001 9002)),(9001,.mp (aD cP sb) (aK sb)),(9002,.mp (aD ppP pb) (aK pb))]
   (fun v ob'=>∃c' s' p',IncR c sb pb w k c' s' p'/\v= .tup []/\ob'=ax [(big,.mix 120 (vE c' 9001 9002)),(9001,.mp (aD cP s') (aK s')),(9002,.mp (aD ppP p') (aK p'))]):=by
 refine FnO.of func138 O ntmps138 Tw fun m0 w0 F R0=>?_
 have hki:=db.int 36 hk;have hkf:=cT hki hkb sm0;have hm1:=fT w.c k (cT (db.int 36 hw.ci) hw.cb sm0) hkf;have ha1:=jN c (w.c*k) (cT (db.int 36 hv.ci) hv.cb (IS (RD _ _) hB)) (cT ((db.int 36 hw.ci).F9 hk) (hw.cb.mul hkb) sm2);refine Z2 O O O<|Ge O follows [0,1,2,3,4,5,6,7,8,9,10,11,12] Tt ?_;iterate 8 refine D1 O O ?_
 refine Ds 18 [] O O O (fun τ h=>aa call139 hm1 (h.aL O)) O Tt<|Ds 19 [] O O O (fun τ h=>aa call140 ha1 (h.aL O)) O Tt ?_;iterate 3 refine D1 O O ?_
 refine⟨Tt,?_⟩;refine Z2 O O O<|Rs 24 O O (iw 2 underlying117 O O) ?_;refine Gl O (st:=fun TC:List (Par×Rat)×List (Par×Rat)×List PV=>mkS [(0,.ptr big 0),(4,.ptr 0 0),(5,.ptr 1 0),(24,.ptr 2 0)] [(big,.mix 120 (vE (c+w.c*k) 9001 9002)),(0,.mix 120 [.pv (.bool (decide (w.c.num<0))),.pv (bF w.c.num.natAbs),.pv (.bool (decide ((w.c.den:Int)<0))),.pv (bF (w.c.den:Int).natAbs),.pv (.mp (aD cP w.s) (aK w.s)),.pv (.mp (aD ppP w.p) (aK w.p))]),(1,.mix 116 [.pv (.bool (decide (k.num<0))),.pv (bF k.num.natAbs),.pv (.bool (decide ((k.den:Int)<0))),.pv (bF (k.den:Int).natAbs)]),(2,.mi TC.2.2 (aD cP TC.1) (aK TC.1)),(9001,.mp (aD cP TC.2.1) (aK TC.2.1)),(9002,.mp (aD ppP pb) (aK pb))] 3)
  (I:=fun TC=>Inc 6 sb w.s k TC.1 TC.2.1) (μ:=fun TC=>TC.1.length) (x0:=(w.s,sb,[])) (OU (aS O) (aO Tt) O O) (Inc.start hv.s w.s k) ?_
 rintro⟨todo,acc,cur⟩ hI;try simp only at hI ⊢
 refine Gr O ?_;refine RL.call O (j8 O O ?_);rintro b rest cur2 ks2 vs2 hN;refine Rs 26 O O (di O O) ?_;refine Gc O O (fun hc26=>?_) (fun hc26=>?_)
 ·obtain⟨_,l1,e,l2,rfl,rfl,rfl,rfl,rfl⟩:=(jc.ofE hN).resolve_left (by rintro⟨h,_⟩;rw[h]at hc26;cases hc26);have hem:=hI.mem (e:=e) Tw;have hei:=hw.s.it e hem;have heb:=hw.sb e hem;have hmu:=fT e.2 k (cT hei.MW heb sm0) hkf;have hno:=Ap acc e.1 (e.2*k) (cT (hei.F9 hk).MW (heb.mul hkb) sm2) (fun x hx=>cT (hI.ok.it x hx).MW (hI.abs hv.s hw.s hv.sb hw.sb hkb x hx) hB);refine OR<|Gr O<|Rs 27 O O (iA O O) ?_;iterate 6 refine A1 O ?_
  refine Ge O follows [0,1,2,3,4,5,6,7,8] Tt ?_;iterate 7 refine D1 O O ?_
  refine Ds 37 [] O O O (fun τ h=>aa call139 hmu (h.aL O)) O Tt<|Ds 38 [9001] O O O (fun τ h=>bo [9001] 5 call228 hno (h.args.trans O) O O O ⟨(Eo h 0 O O),TB⟩ Tu O) O Tt ?_;refine⟨Tt,?_⟩;exact⟨(l1++l2,note acc e.1 (e.2*k),[cP e.1,frP e.2]),OU (aS O) (aO Tt) O O,hI.step (hei.F9 hk),Tw⟩
 ·obtain⟨_,rfl,_⟩:=(jc.ofE hN).resolve_right (by rintro⟨h,_⟩;rw[h]at hc26;cases hc26);have hIe:=hI.end;have hsok:=hI.ok;refine Gx O<|Z2 O O O<|Rs 41 O O (iw 3 underlying118 O O) ?_;refine Gl O (st:=fun x_1:List (PP×Rat)×List (PP×Rat)×List PV=>mkS [(0,.ptr big 0),(5,.ptr 1 0),(41,.ptr 3 0)] [(big,.mix 120 (vE (c+w.c*k) 9001 9002)),(1,.mix 116 [.pv (.bool (decide (k.num<0))),.pv (bF k.num.natAbs),.pv (.bool (decide ((k.den:Int)<0))),.pv (bF (k.den:Int).natAbs)]),(3,.mi x_1.2.2 (aD ppP x_1.1) (aK x_1.1)),(9001,.mp (aD cP acc) (aK acc)),(9002,.mp (aD ppP x_1.2.1) (aK x_1.2.1))] 4)
   (I:=fun x_1=>Inc 36 pb w.p k x_1.1 x_1.2.1) (μ:=fun x_1=>x_1.1.length) (x0:=(w.p,pb,[])) (OU (aS O) (aO Tt) O O) (Inc.start hv.p w.p k) ?_
  rintro⟨todo2,acc2,cur3⟩ hI2;try simp only at hI2 ⊢
  refine Gr O ?_;refine RL.call O (j8 O O ?_);rintro b2 rest2 cur4 ks4 vs4 hN2;refine Rs 43 O O (di O O) ?_;refine Gc O O (fun hc43=>?_) (fun hc43=>?_)
  ·obtain⟨_,l1,e,l2,rfl,rfl,rfl,rfl,rfl⟩:=(jc.ofE hN2).resolve_left (by rintro⟨h,_⟩;rw[h]at hc43;cases hc43);have hem:=hI2.mem (e:=e) Tw;have hei:=hw.p.it e hem;have heb:=hw.pb e hem;have hmu:=fT e.2 k (cT hei heb sm0) hkf;have hno:=kV acc2 e.1 (e.2*k) (cT (hei.F9 hk) (heb.mul hkb) sm2) (fun x hx=>cT (hI2.ok.it x hx) (hI2.abs hv.p hw.p hv.pb hw.pb hkb x hx) hB);refine OR<|Gr O<|Rs 44 O O (iA O O) ?_;iterate 6 refine A1 O ?_
   refine Ge O follows [0,1,2,3,4,5,6,7,8] Tt ?_;iterate 7 refine D1 O O ?_
   refine Ds 54 [] O O O (fun τ h=>aa call139 hmu (h.aL O)) O Tt<|Ds 55 [9002] O O O (fun τ h=>bo [9002] 6 call141 hno (h.args.trans O) O O O ⟨(Eo h 0 O O),TB⟩ Tu O) O Tt ?_;refine⟨Tt,?_⟩;exact⟨(l1++l2,note acc2 e.1 (e.2*k),[ppP e.1,frP e.2]),OU (aS O) (aO Tt) O O,hI2.step (hei.F9 hk),Tw⟩
  ·obtain⟨_,rfl,_⟩:=(jc.ofE hN2).resolve_right (by rintro⟨h,_⟩;rw[h]at hc43;cases hc43);exact Gx O<|⟨[],[(big,.mix 120 (vE (c+w.c*k) 9001 9002)),(9001,.mp (aD cP acc) (aK acc)),(9002,.mp (aD ppP acc2) (aK acc2))],[],OU trivial (aO Tt) O O,O,O,O,_,_,_,⟨O,hsok,hI2.ok,fun hb=>hI2.po hb hw.po,hIe,hI2.end⟩,O,O⟩
end
section
open Go.RowKit Mm
theorem ry:∀(a b:List (Nat×Ob))(i:Nat)(o:Ob),ax a i=some o->ax (a++b) i=some o
 |[],_,_,_,h=>by simp[ax]at h
 | x::a,b,i,o,h=>by
   simp only[ax,Qq]at h ⊢;cases hb:Nat.beq i x.1 with
   |true=>rw[hb]at h;exact h
   |false=>rw[hb]at h;exact ry a b i o h
theorem pubE{K:Type}{f:K->PV}{l m:List (K×Rat)}(h:l.Perm m):((aD f l).zip (aK l)).Perm ((aD f m).zip (aK m)):=by
 have e:∀l:List (K×Rat),(aD f l).zip (aK l)=l.map fun e=>(f e.1,frP e.2):=fun l=>by
  induction l with
  |nil=>rfl
  |cons e l ih=>simp only[aD,aK,bL,List.zip_cons_cons]at *; rw[ih]
 rw[e,e];exact h.map _
theorem MO{K:Type}(f:K->PV)(l:List (K×Rat)):(aD f l).length=(aK l).length:=by simp[aD,aK]
theorem rh:((0:Int):Rat)=0:=rfl
theorem kI:((1:Int):Rat)=1:=rfl
theorem jk(n:Int)(h0: -9223372036854775808<=n)(h1:n<=9223372036854775807):FnO prog 54 0 2 [pIi n] [] (fun v ob'=>v= .agg (vE (n:Rat) 0 1)/\ob'=ax [(0,.mp [] []),(1,.mp [] [])]):=by
 refine FnO.ofC func54 O ntmps54 Tw fun m0 w0 F R0=>?_
 have hof:=mw n h0 h1;exact Z1 O O<|Z1 O O<|Rs 4 O O (aa call136 hof O)<|Rs 5 O O (dX 1 O)<|Rs 6 O O (dX 2 O)<|Y2 O O<|Gt O<|⟨[(2,.ptr 2 0)],[(0,.mp [] []),(1,.mp [] []),(2,.mix 120 (vE (n:Rat) 0 1))],[.agg (vE (n:Rat) 0 1)],[(0,.mp [] []),(1,.mp [] [])],3,OV [1,2,0] (aT O) (aP Tt) O O Tu O,O,⟨az ⟨_,underlying120,O⟩ jD O O O,TB⟩,O,O,fun i o h=>ry [(0,.mp [] []),(1,.mp [] [])] [(2,.mix 120 (vE (n:Rat) 0 1))] i o h,Tu,O,O⟩
abbrev mcW(n:Int):MC:=⟨(n:Rat),[],[]⟩
theorem we(n:Int)(h0: -9223372036854775808<=n)(h1:n<=9223372036854775807):FnP prog 54 [.int .i64 n] (· =mcP (mcW n)):=by
 refine FnP.ofC func54 O ntmps54 Tw fun m0 w0 F R0=>?_
 have hof:=mw n h0 h1;exact Z1 O O<|Z1 O O<|Rs 4 O O (aa call136 hof O)<|Rs 5 O O (dX 1 O)<|Rs 6 O O (dX 2 O)<|Y2 O O<|OT (St.cX (ks:=[]) (vs:=[]) 1 O O (PY _))<|OT (St.cX (ks:=[]) (vs:=[]) 2 O O (PY _))<|Gt O<|⟨_,_,O,O,⟨az ⟨_,underlying120,O⟩ jD O O O,TB⟩,O⟩
theorem Is:MSm ⟨((0:Int):Rat),[],[]⟩:=⟨⟨0,O⟩,LOk.nil 6,LOk.nil 36,fun _ h=>absurd h Tw,a6.zero _,fun _ h=>absurd h Tw,fun _ h=>absurd h Tw⟩
theorem qg(v:MC)(k:Rat)(hv:MSm v)(hk:∃z:Int,k=(z:Rat))(hkb:a6 smB k):
  FnO prog 137 0 2 [.pv (mcP v),.pv (frP k)] [] (fun r ob'=>∃c' s' p',IncR ((0:Int):Rat) [] [] v k c' s' p'/\r= .agg (vE c' 0 1)/\ob'=ax [(0,.mp (aD cP s') (aK s')),(1,.mp (aD ppP p') (aK p'))]):=by
 refine FnO.ofC func137 O ntmps137 Tw fun m0 w0 F R0=>?_
 have hwh:=jk 0 Tu Tu;have hinc:=gV ((0:Int):Rat) [] [] v k sm1 Is hv hk hkb;refine Z3 O O O O<|Gr O<|Rs 6 O O (bo [] 3 call54 hwh O O O O trivial Tu O)<|Y2 O O<|Z2 O O O ?_;refine RL.call O (bM [5,3,4] 6 call138 O O O O (by exact⟨Tt,Tt,Tt,TB⟩) Tu O hinc ?_);rintro _ _ ⟨c',s',p',hR,rfl,rfl⟩;exact Z2 O O O<|Gt O<|⟨[(4,.ptr 2 0)],[(0,.mp (aD cP s') (aK s')),(1,.mp (aD ppP p') (aK p')),(2,.mix 120 (vE c' 0 1))],[.agg (vE c' 0 1)],[(0,.mp (aD cP s') (aK s')),(1,.mp (aD ppP p') (aK p'))],3,OV [3,4,2] (aT O) (aP Tt) O O Tu O,O,⟨az ⟨_,underlying120,O⟩ jD O O O,TB⟩,O,O,fun i o h=>ry [(0,.mp (aD cP s') (aK s')),(1,.mp (aD ppP p') (aK p'))] [(2,.mix 120 (vE c' 0 1))] i o h,Tu,c',s',p',hR,O,O⟩
structure AddR(v w m:MC):Prop where
 c:m.c=v.c+w.c
 s:LOk 6 m.s
 p:LOk 36 m.p
 po:∀e∈m.p,cq e.1.1 e.1.2<=0
 sa:Mm.Asc cq m.s
 pa:Mm.Asc dz m.p
 es:∀x,lk m.s x=lk v.s x+lk w.s x
 ep:∀x,lk m.p x=lk v.p x+lk w.p x
theorem IncR.msm{v:MC}{k c':Rat}{s':List (Par×Rat)}{p':List (PP×Rat)}(h:IncR ((0:Int):Rat) [] [] v k c' s' p')(hv:MSm v)(hk:k=((1:Int):Rat)):MSm ⟨c',s',p'⟩:=by
 have hc:c'=v.c:=by rw[h.c,hk,rh,kI];grind
 have es:∀x,lk s' x=lk v.s x:=fun x=>by rw[h.es,hk,kI];simp only[lk];grind
 have ep:∀x,lk p' x=lk v.p x:=fun x=>by rw[h.ep,hk,kI];simp only[lk];grind
 refine⟨hc▸hv.ci,h.s,h.p,h.po Tw,hc▸hv.cb,fun e he=>?_,fun e he=>?_⟩
 ·have h1:=fv h.s.nd he;rw[es]at h1;rw[<-h1];exact fZ hv.s.nd hv.sb _
 ·have h1:=fv h.p.nd he;rw[ep]at h1;rw[<-h1];exact fZ hv.p.nd hv.pb _
theorem Bv(v w:MC)(hv:MSm v)(hw:MSm w):FnP prog 177 [mcP v,mcP w] (fun r=>∃m,AddR v w m/\r=mcP m):=by
 refine FnP.ofC func177 O ntmps177 Tw fun m0 w0 F R0=>?_
 have h1i:∃z:Int,((1:Int):Rat)=(z:Rat):=⟨1,O⟩;have h1b:a6 smB ((1:Int):Rat):=by
  have:(1:Nat)<=smB:=by decide+kernel
  exact a6.up (B:=1) ⟨by decide+kernel,by decide+kernel⟩ this
 have hof:=mw 1 Tu Tu;have hsc:=qg v ((1:Int):Rat) hv h1i h1b;refine Z3 O O O O<|Ge O follows [0,1,3,2,4] Tt<|D1 O O<|Ds 7 [] O O O (fun τ h=>aa call136 hof (h.aL O)) O Tt<|D1 O O<|DL.rel (RO [] 4 2 (fun r ob'=>∃c' s' p',IncR ((0:Int):Rat) [] [] v ((1:Int):Rat) c' s' p'/\r= .agg (vE c' 0 1)/\ob'=ax [(0,.mp (aD cP s') (aK s')),(1,.mp (aD ppP p') (aK p'))])) [4,5] [4,5] [] O O O (fun τ h=>relO [] 4 call137 hsc (h.args.trans O) O O O trivial Tu (by show(τ.av 4&&(τ.av 5&&true))=true;rw[h.n 0 _ O,h.n 1 _ O];rfl)) O Tt Tt Tt ?_;rintro _ ⟨_,_,⟨c1,s1,p1,hR1,rfl,rfl⟩,rfl⟩ _ _;refine D1 O O ?_;refine⟨Tt,?_⟩;have hm1:=hR1.msm hv O;have hinc:=gV c1 s1 p1 w ((1:Int):Rat) sm1 hm1 hw h1i h1b;refine Ge O follows [0,1,2] Tt<|D1 O O<|Ds 10 [] O O O (fun τ h=>aa call136 hof (h.aL O)) O Tt<|DL.rel (RO [3,4,5] 6 0 (fun v ob'=>∃c' s' p',IncR c1 s1 p1 w ((1:Int):Rat) c' s' p'/\v= .tup []/\ob'=ax [(big,.mix 120 (vE c' 9001 9002)),(9001,.mp (aD cP s') (aK s')),(9002,.mp (aD ppP p') (aK p'))])) [3,4,5] [] [3,4,5] O O O (fun τ h=>relO [3,4,5] 6 call138 hinc (h.args.trans O) O O O ⟨(h.o 0 _ O).trans Tt,(h.o 1 _ O).trans Tt,(h.o 2 _ O).trans Tt,TB⟩ Tu O) O Tt Tt Tt ?_;rintro _ ⟨_,_,⟨c2,s2,p2,hR2,rfl,rfl⟩,rfl⟩ _ _;refine⟨Tt,?_⟩;exact Z2 O O O<|OT (St.cX (ks:=aD cP (srt cq s2)) (vs:=aK (srt cq s2)) 4 Tt (MO _ _) (pubE (a8 cq s2).symm))<|OT (St.cX (ks:=aD ppP (srt dz p2)) (vs:=aK (srt dz p2)) 5 Tt (MO _ _) (pubE (a8 dz p2).symm))<|Gt O<|⟨_,_,O,O,⟨az ⟨_,underlying120,O⟩ jD O O O,TB⟩,⟨c2,srt cq s2,srt dz p2⟩,⟨by simp only;rw[hR2.c,hR1.c,rh,kI];grind,hR2.s.srt,hR2.p.srt,fun e he=>hR2.po (hR1.po Tw) e ((a8 _ _).mem_iff.1 he),dI eF hR2.s.nd,dI cV hR2.p.nd,fun x=>by rw[eE (a8 _ _),hR2.es,hR1.es,kI];simp only[lk];grind,fun x=>by rw[eE (a8 _ _),hR2.ep,hR1.ep,kI];simp only[lk];grind⟩,O⟩
end
section
open Go.RowKit Mm
theorem Dk(a b:Par):FnP prog 142 [cP a,cP b] (· =ppP (dO a b)):=by
 refine FnP.ofC func142 O ntmps142 Tw fun m0 w0 F R0=>?_
 have hc:=FG a b;refine Z3 O O O O<|Z2 O O O<|Rs 7 O O (aa call129 hc O)<|A1 O ?_;refine Gp O O (fun hc8=>?_) (fun hc8=>?_)
 ·have e:dO a b=(b,a):=AT (by simpa using hc8);exact Z4 O O O O O<|Z4 O O O O O<|Gt O<|⟨_,_,O,O,⟨az ⟨_,underlying238,O⟩ HU O O O,TB⟩,by rw[e];rfl⟩
 ·have e:dO a b=(a,b):=dw (by simpa using hc8);exact OR<|Z4 O O O O O<|Gt O<|⟨_,_,O,O,⟨az ⟨_,underlying238,O⟩ HU O O O,TB⟩,by rw[e];rfl⟩
structure CrsO(b:List (PP×Rat))(ws vs todo:List (Par×Rat))(acc:List (PP×Rat)):Prop where
 ok:LOk 36 acc
 po:∀e∈acc,cq e.1.1 e.1.2<=0
 ex:∃d,(d++todo).Perm vs/\∀u v,lk acc (dO u v)=lk b (dO u v)+(lk d u*lk ws v+lk d v*lk ws u)
structure CrsI(b:List (PP×Rat))(ws dP:List (Par×Rat))(p:Par)(x:Rat)(todo:List (Par×Rat))(acc:List (PP×Rat)):Prop where
 ex:∃d,(d++todo).Perm ws/\Crs b ws dP d p x acc
theorem CrsO.start{b:List (PP×Rat)}{ws vs:List (Par×Rat)}(h:LOk 36 b)(hp:∀e∈b,cq e.1.1 e.1.2<=0):CrsO b ws vs vs b:=
 ⟨h,hp,[],PY _,fun u v=>by simp only[lk];grind⟩
theorem CrsO.into{b:List (PP×Rat)}{ws vs l1 l2:List (Par×Rat)}{e:Par×Rat}{acc:List (PP×Rat)}(h:CrsO b ws vs (l1++e::l2) acc):∃d,(d++(l1++e::l2)).Perm vs/\CrsI b ws d e.1 e.2 ws acc:=by
 obtain⟨d,h1,h2⟩:=h.ex;exact⟨d,h1,⟨[],PY _,h.ok,h.po,fun u v=>by rw[h2];simp only[lk];grind⟩⟩
theorem CrsI.step{b:List (PP×Rat)}{ws dP l1 l2:List (Par×Rat)}{p:Par}{x:Rat}{e:Par×Rat}{acc:List (PP×Rat)}(h:CrsI b ws dP p x (l1++e::l2) acc)(hi:db 36 (ctr p x e).2):CrsI b ws dP p x (l1++l2) (note acc (dO p e.1) (ctr p x e).2):=by
 obtain⟨d,h1,h2⟩:=h.ex;refine⟨d++[e],?_,h2.step e hi⟩;refine List.Perm.trans ?_ h1;rw[Si];refine List.Perm.append_left d ?_;show(e::(l1++l2)).Perm (l1++e::l2);exact(SU).symm
theorem CrsI.out{b:List (PP×Rat)}{ws vs d l1 l2:List (Par×Rat)}{e:Par×Rat}{acc:List (PP×Rat)}(hd:(d++(l1++e::l2)).Perm vs)(h:CrsI b ws d e.1 e.2 [] acc):CrsO b ws vs (l1++l2) acc:=by
 obtain⟨dQ,h1,h2⟩:=h.ex;rw[PZ]at h1;have h3:=h2.row h1 e.1 e.2;refine⟨h3.ok,h3.po,d++[e],?_,fun u v=>?_⟩
 ·refine List.Perm.trans ?_ hd;rw[Si];refine List.Perm.append_left d ?_;show(e::(l1++l2)).Perm (l1++e::l2);exact(SU).symm
 ·rw[h3.eq];simp only[lk];grind
theorem CrsO.end{b:List (PP×Rat)}{ws vs:List (Par×Rat)}{acc:List (PP×Rat)}(h:CrsO b ws vs [] acc)(u v:Par):lk acc (dO u v)=lk b (dO u v)+(lk vs u*lk ws v+lk vs v*lk ws u):=by
 obtain⟨d,h1,h2⟩:=h.ex;rw[PZ]at h1;rw[h2,eE h1,eE h1]
theorem CrsO.mem{b:List (PP×Rat)}{ws vs todo:List (Par×Rat)}{acc:List (PP×Rat)}(h:CrsO b ws vs todo acc){e:Par×Rat}(he:e∈todo):e∈vs:=by
 obtain⟨d,h1,_⟩:=h.ex;exact h1.subset (by simp[he])
theorem CrsI.mem{b:List (PP×Rat)}{ws dP todo:List (Par×Rat)}{p:Par}{x:Rat}{acc:List (PP×Rat)}(h:CrsI b ws dP p x todo acc){e:Par×Rat}(he:e∈todo):e∈ws:=by
 obtain⟨d,h1,_⟩:=h.ex;exact h1.subset (by simp[he])
theorem pj{K:Type}{d t l:List (K×Rat)}(h:(d++t).Perm l)(hn:(l.map (·.1)).Nodup):(d.map (·.1)).Nodup:=by
 have:=(h.map (·.1)).nodup_iff.2 hn;rw[PD]at this;exact(Sg.1 this).1
theorem CrsI.abs{b:List (PP×Rat)}{ws vs dP todo t2:List (Par×Rat)}{p:Par}{x:Rat}{acc:List (PP×Rat)}{B C E:Nat}(h:CrsI b ws dP p x todo acc)(hd:(dP++t2).Perm vs)(hv:LOk 6 vs)(hw:LOk 6 ws)(hb:∀u v,a6 B (lk b (dO u v)))
  (bv:∀e∈vs,a6 C e.2) (bx:a6 C x) (bw:∀e∈ws,a6 E e.2):∀e∈acc,a6 (B+(C*E+C*E)+(C*E+C*E)) e.2:=by
 obtain⟨d,h1,h2⟩:=h.ex;refine h2.abs hb (fun u=>fZ (pj hd hv.nd) (fun e he=>bv e (hd.subset (by simp[he]))) u) bx (fun u=>fZ hw.nd bw u) (fun u=>fZ (pj h1 hw.nd) (fun e he=>bw e (h1.subset (by simp[he]))) u)
theorem sm3:smB*smB+smB*smB+(smB*smB+smB*smB)+(smB*smB+smB*smB)<=Gh:=by decide+kernel
theorem sm4:smB*smB+smB*smB<=Gh:=by decide+kernel
structure MulR(v w m:MC):Prop where
 c:m.c=v.c*w.c
 s:LOk 6 m.s
 p:LOk 36 m.p
 po:∀e∈m.p,cq e.1.1 e.1.2<=0
 sa:Mm.Asc cq m.s
 pa:Mm.Asc dz m.p
 es:∀x,lk m.s x=lk w.s x*v.c+lk v.s x*w.c
 ep:∀x y,lk m.p (dO x y)=lk w.p (dO x y)*v.c+lk v.p (dO x y)*w.c+(lk v.s x*lk w.s y+lk v.s y*lk w.s x)
theorem IncR.scaled{v:MC}{k c':Rat}{s':List (Par×Rat)}{p':List (PP×Rat)}(h:IncR ((0:Int):Rat) [] [] v k c' s' p')(hv:MSm v)(hk:∃z:Int,k=(z:Rat))(hkb:a6 smB k):MSmB (smB*smB) ⟨c',s',p'⟩:=by
 have hc:c'=v.c*k:=by rw[h.c,rh];grind
 refine⟨?_,h.s,h.p,h.po (fun _ h=>absurd h Tw),by simp only;rw[hc];exact hv.cb.mul hkb,fun e he=>?_,fun e he=>?_⟩
 ·obtain⟨a,ha⟩:=hv.ci;obtain⟨b,hb⟩:=hk;exact⟨a*b,by simp only;rw[hc,ha,hb,RY]⟩
 ·have h1:=fv h.s.nd he;rw[h.es]at h1;rw[<-h1];simp only[lk,Rat.zero_add];exact(fZ hv.s.nd hv.sb _).mul hkb
 ·have h1:=fv h.p.nd he;rw[h.ep]at h1;rw[<-h1];simp only[lk,Rat.zero_add];exact(fZ hv.p.nd hv.pb _).mul hkb
theorem Ce(v w:MC)(hv:MSm v)(hw:MSm w):FnP prog 56 [mcP v,mcP w] (fun r=>∃m,MulR v w m/\r=mcP m):=by
 refine FnP.ofC func56 O ntmps56 Tw fun m0 w0 F R0=>?_
 have hsc:=qg w v.c hw hv.ci hv.cb;have hvw:=fT v.c w.c (cT (db.int 36 hv.ci) hv.cb sm0) (cT (db.int 36 hw.ci) hw.cb sm0);refine Z3 O O O O<|Z3 O O O O ?_;refine RL.call O (bM [] 3 call137 O O O O (by exact trivial) Tu O hsc ?_);rintro _ _ ⟨c1,s1,p1,hR1,rfl,rfl⟩;refine Y2 O O ?_;have hm1:=hR1.scaled hw hv.ci hv.cb;have hinc:=gV c1 s1 p1 v w.c sm4 hm1 hv hw.ci hw.cb;refine Z3 O O O O ?_;refine RL.call O (bM [5,3,4] 6 call138 O O O O (by exact⟨Tt,Tt,Tt,TB⟩) Tu O hinc ?_);rintro _ _ ⟨c2,s2,p2,hR2,rfl,rfl⟩;have hpo2:=hR2.po (hR1.po (fun _ h=>absurd h Tw));have hb2:∀x y,a6 (smB*smB+smB*smB) (lk p2 (dO x y)):=fun x y=>by
  rw[hR2.ep];exact(fZ hm1.p.nd hm1.pb _).add ((fZ hv.p.nd hv.pb _).mul hw.cb)
 refine Z4 O O O O O<|Rs 23 O O (aa call139 hvw O)<|Y2 O O<|Z2 O O O<|Rs 27 O O (iw 6 underlying117 O O) ?_;refine Gl O (st:=fun TC:List (Par×Rat)×List (PP×Rat)×List PV=>mkS [(3,.ptr 1 0),(4,.ptr 2 0),(5,.ptr 5 0),(27,.ptr 6 0)] [(1,.mix 120 [.pv (.bool (decide (w.c.num<0))),.pv (bF w.c.num.natAbs),.pv (.bool (decide ((w.c.den:Int)<0))),.pv (bF (w.c.den:Int).natAbs),.pv (.mp (aD cP w.s) (aK w.s)),.pv (.mp (aD ppP w.p) (aK w.p))]),(2,.mix 120 [.pv (.bool false),.pv nS,.pv (.bool false),.pv nS,.pv .nilmap,.pv .nilmap]),(3,.mp (aD cP s2) (aK s2)),(4,.mp (aD ppP TC.2.1) (aK TC.2.1)),(5,.mix 120 [.pv (.bool (decide ((v.c*w.c).num<0))),.pv (bF (v.c*w.c).num.natAbs),.pv (.bool (decide (((v.c*w.c).den:Int)<0))),.pv (bF ((v.c*w.c).den:Int).natAbs),.map 3,.map 4]),(6,.mi TC.2.2 (aD cP TC.1) (aK TC.1))] 7)
  (I:=fun TC=>CrsO p2 w.s v.s TC.1 TC.2.1) (μ:=fun TC=>TC.1.length) (x0:=(v.s,p2,[])) (OU (aS O) (aO Tt) O O) (CrsO.start hR2.p hpo2) ?_
 rintro⟨todo,acc,cur⟩ hI;try simp only at hI ⊢
 refine Gr O ?_;refine RL.call O (j8 O O ?_);rintro b rest cur2 ks2 vs2 hN;refine Rs 29 O O (di O O) ?_;refine Gc O O (fun hc29=>?_) (fun hc29=>?_)
 ·obtain⟨_,l1,e,l2,rfl,rfl,rfl,rfl,rfl⟩:=(jc.ofE hN).resolve_left (by rintro⟨h,_⟩;rw[h]at hc29;cases hc29);obtain⟨dP,hdP,hI2⟩:=hI.into;have hem:=hI.mem (e:=e) Tw;have hei:=hv.s.it e hem;have heb:=hv.sb e hem;refine OR<|Gr O<|Rs 30 O O (iA O O) ?_;iterate 6 refine A1 O ?_
  refine Z2 O O O<|Rs 35 O O (iw 9 underlying117 O O) ?_;refine Gl O (st:=fun x_1:List (Par×Rat)×List (PP×Rat)×List PV=>mkS [(3,.ptr 1 0),(4,.ptr 2 0),(5,.ptr 5 0),(6,.ptr 7 0),(7,.ptr 8 0),(27,.ptr 6 0),(35,.ptr 9 0)] [(1,.mix 120 [.pv (.bool (decide (w.c.num<0))),.pv (bF w.c.num.natAbs),.pv (.bool (decide ((w.c.den:Int)<0))),.pv (bF (w.c.den:Int).natAbs),.pv (.mp (aD cP w.s) (aK w.s)),.pv (.mp (aD ppP w.p) (aK w.p))]),(2,.mix 120 [.pv (.bool false),.pv nS,.pv (.bool false),.pv nS,.pv .nilmap,.pv .nilmap]),(3,.mp (aD cP s2) (aK s2)),(4,.mp (aD ppP x_1.2.1) (aK x_1.2.1)),(5,.mix 120 [.pv (.bool (decide ((v.c*w.c).num<0))),.pv (bF (v.c*w.c).num.natAbs),.pv (.bool (decide (((v.c*w.c).den:Int)<0))),.pv (bF ((v.c*w.c).den:Int).natAbs),.map 3,.map 4]),(6,.mi [cP e.1,frP e.2] (aD cP (l1++l2)) (aK (l1++l2))),(7,.mix 147 [pIi e.1.f,.pv (.str e.1.c)]),(8,.mix 116 [.pv (.bool (decide (e.2.num<0))),.pv (bF e.2.num.natAbs),.pv (.bool (decide ((e.2.den:Int)<0))),.pv (bF (e.2.den:Int).natAbs)]),(9,.mi x_1.2.2 (aD cP x_1.1) (aK x_1.1))] 10)
   (I:=fun x_1=>CrsI p2 w.s dP e.1 e.2 x_1.1 x_1.2.1) (μ:=fun x_1=>x_1.1.length) (x0:=(w.s,acc,[])) (OU (aS O) (aO Tt) O O) (hI2) ?_
  rintro⟨todo2,acc2,cur3⟩ hJ;try simp only at hJ ⊢
  refine Gr O ?_;refine RL.call O (j8 O O ?_);rintro b2 rest2 cur4 ks4 vs4 hN2;refine Rs 37 O O (di O O) ?_;refine Gc O O (fun hc37=>?_) (fun hc37=>?_)
  ·obtain⟨_,l3,g,l4,rfl,rfl,rfl,rfl,rfl⟩:=(jc.ofE hN2).resolve_left (by rintro⟨h,_⟩;rw[h]at hc37;cases hc37);have hgm:=hJ.mem (e:=g) Tw;have hgi:=hw.s.it g hgm;have hgb:=hw.sb g hgm;have hmu:=fT e.2 g.2 (cT hei.MW heb sm0) (cT hgi.MW hgb sm0);have hzi:db 36 (e.2*g.2):=hei.mul hgi;have hzf:=cT hzi (heb.mul hgb) sm2;have hdb:=jN (e.2*g.2) (e.2*g.2) hzf hzf;have hpr:=Dk e.1 g.1;refine OR<|Gr O<|Rs 38 O O (iA O O) ?_;iterate 6 refine A1 O ?_
   refine Z2 O O O<|Rs 43 O O (aa call139 hmu O)<|Y2 O O<|Z2 O O O<|Rs 46 O O (G1 O O O) ?_;refine Gc O O (fun hc46=>?_) (fun hc46=>?_)
   ·have hq:(e.1==g.1)=true:=hc46;have hct:(ctr e.1 e.2 g).2=e.2*g.2+e.2*g.2:=by simp only[ctr,hq,Te]
    have hi2:db 36 (ctr e.1 e.2 g).2:=by rw[hct];exact hzi.add hzi
    have hst:=hJ.step hi2;rw[hct]at hst;have hno:=kV acc2 (dO e.1 g.1) (e.2*g.2+e.2*g.2) (cT (hzi.add hzi) ((heb.mul hgb).add (heb.mul hgb)) sm4) (fun x hx=>cT (hJ.ex.choose_spec.2.ok.it x hx) (hJ.abs (t2:=l1++e::l2) hdP hv.s hw.s hb2 hv.sb heb hw.sb x hx) sm3);refine Z2 O O O<|Rs 49 O O (aa call140 hdb O)<|A1 O<|Ge O follows [0,1,2,3,4,5,6] Tt ?_;iterate 4 refine D1 O O ?_
    refine Ds 54 [] O O O (fun τ h=>aa call142 hpr (h.aL O)) O Tt<|D1 O O<|Ds 56 [4] O O O (fun τ h=>bo [4] 13 call141 hno (h.args.trans O) O O O ⟨(Eo h 0 O O),TB⟩ Tu O) O Tt ?_;refine⟨Tt,?_⟩;exact⟨(l3++l4,note acc2 (dO e.1 g.1) (e.2*g.2+e.2*g.2),[cP g.1,frP g.2]),OU (aS O) (aO Tt) O O,hst,Tw⟩
   ·have hq:(e.1==g.1)=false:=hc46;have hct:(ctr e.1 e.2 g).2=e.2*g.2:=by simp only[ctr,hq,Qk,SD]
    have hi2:db 36 (ctr e.1 e.2 g).2:=by rw[hct];exact hzi
    have hst:=hJ.step hi2;rw[hct]at hst;have hno:=kV acc2 (dO e.1 g.1) (e.2*g.2) hzf (fun x hx=>cT (hJ.ex.choose_spec.2.ok.it x hx) (hJ.abs (t2:=l1++e::l2) hdP hv.s hw.s hb2 hv.sb heb hw.sb x hx) sm3);refine OR<|Ge O follows [0,1,2,3,4,5,6] Tt ?_;iterate 4 refine D1 O O ?_
    refine Ds 54 [] O O O (fun τ h=>aa call142 hpr (h.aL O)) O Tt<|D1 O O<|Ds 56 [4] O O O (fun τ h=>bo [4] 13 call141 hno (h.args.trans O) O O O ⟨(Eo h 0 O O),TB⟩ Tu O) O Tt ?_;refine⟨Tt,?_⟩;exact⟨(l3++l4,note acc2 (dO e.1 g.1) (e.2*g.2),[cP g.1,frP g.2]),OU (aS O) (aO Tt) O O,hst,Tw⟩
  ·obtain⟨_,rfl,_⟩:=(jc.ofE hN2).resolve_right (by rintro⟨h,_⟩;rw[h]at hc37;cases hc37);have hout:=hJ.out hdP;exact Gx O<|⟨(l1++l2,acc2,[cP e.1,frP e.2]),OU (aS O) (aO Tt) O O,hout,Tw⟩
 ·obtain⟨_,rfl,_⟩:=(jc.ofE hN).resolve_right (by rintro⟨h,_⟩;rw[h]at hc29;cases hc29);have hIe:=hI.end;exact Gx O<|Z2 O O O<|OT (St.cX (ks:=aD cP (srt cq s2)) (vs:=aK (srt cq s2)) 3 Tt (MO _ _) (pubE (a8 cq s2).symm))<|OT (St.cX (ks:=aD ppP (srt dz acc)) (vs:=aK (srt dz acc)) 4 Tt (MO _ _) (pubE (a8 dz acc).symm))<|Gt O<|⟨_,_,O,O,⟨az ⟨_,underlying120,O⟩ jD O O O,TB⟩,⟨v.c*w.c,srt cq s2,srt dz acc⟩,⟨O,hR2.s.srt,hI.ok.srt,fun e he=>hI.po e ((a8 _ _).mem_iff.1 he),dI eF hR2.s.nd,dI cV hI.ok.nd,fun x=>by rw[eE (a8 _ _),hR2.es,hR1.es];simp only[lk];grind,fun x y=>by rw[eE (a8 _ _),hIe,hR2.ep,hR1.ep];simp only[lk];grind⟩,O⟩
end
end Go.Proofs.YtoplpepiabedhaaGreatDoor
