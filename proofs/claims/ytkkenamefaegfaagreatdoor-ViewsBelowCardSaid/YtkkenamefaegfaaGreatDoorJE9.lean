/- Lemmas. No condition. -/
import Derived.Maps.RangeRun
import Derived.Test.YtkkenamefaegfaaGreatDoorJE8
set_option maxRecDepth 100000
set_option maxHeartbeats 4000000
open Go.RowKit Go.Proofs.Tryz
open Option renaming some→UF,none→UG
open Bool renaming true→VA,false→VC
namespace Go.Proofs.YtkkenamefaegfaaGreatDoor
variable{l:List Int}{k B C W j i A id:Nat}{d b δ:Bool}{o x a q y:Rat}{D:Int}{K:Type}{c:ByteArray}{ls:List (List PV)}{TA T:TypeId}{p zp v:PV}{r:Option Nat}{cs ks cur rest ps qs:List PV}{w:World}{m:Gm}{R:Nat->Prop}{u zv:Value}{es:List MapEntry}{g:Rat->PV}
section
open Mk
def vp(s t:ByteArray):Int:=if Op.bytesLess s.toList t.toList=VA then-1 else if(!(Op.bytesLess s.toList t.toList||s.toList==t.toList))=VA then 1 else 0
theorem Jj(s t:ByteArray):FnP prog 94 [.str s,.str t] (· = .int .i64 (vp s t)):=by
 refine FnP.of func94 O ntmps94 Xn λ_ _ _ _=>?_
 refine Z1 O<|Z1 O<|Rs O (aa call164 (wP s) O)<|A1 O<|Z1 O<|Rs O (aa call164 (wP t) O)<|A1 O<|Z1 O<|Gc O (λH=>absurd H Xn) (λH=>?_);refine Ti<|Z1 O<|Gc O (λI=>absurd I Xn) (λI=>?_);refine Ti<|Z3 O<|Gc O (λE=>?_) (λE=>?_)
 .exact Z1 O<|VF O<|ah (PV.int .i64) (by rw[vp,By E])
 refine Ti<|Z3 O ?_;refine Gc O (λG=>?_) (λG=>?_)
 .exact Z1 O<|VF O<|ah (PV.int .i64) (by rw[vp,sh (by rw[E];decide),By G])
 exact Ti<|Z1 O<|VF O<|ah (PV.int .i64) (by rw[vp,sh (by rw[E];decide),sh (by rw[G];decide)])
def orI(l:List Int):Int:=(l.find? (· !=0)).getD 0
theorem AX(E:k<l.length)(h:∀i∈l.take k,i=0)(G:l[k]≠0):orI l=l[k]:=by
 have e:l=l.take k++l[k]::l.drop (k+1):=by rw[<-TN E,Ug]
 have s:(l.take k).find? (· !=0)=UG:=List.find?_eq_none.2 λx hx=>by simp[h x hx]
 rw[orI]
 conv=>lhs;rw[e]
 rw[List.find?_append,s,Option.none_or,List.find?_cons_of_pos (by simpa using G)];rfl
theorem Bp(h:∀i∈l,i=0):orI l=0:=by
 rw[orI,List.find?_eq_none.2 λx hx=>by simp[h x hx]];rfl
theorem OX(l:List Int)(L:l.length<=1000000):FnP prog 149 [ar l] (· = .int .i64 (orI l)):=by
 refine FnP.of func149 O ntmps149 Xn λ_ _ _ _=>?_
 refine Z1 O<|Z1 O<|Z3 O<|Gz O (st:=λXr:Nat=>([(3,UG),(6,UG),(7,UG),(8,UF (pIi Xr))],[])) 0
  (I:=λXr=>Xr<=l.length/\∀i∈l.take Xr,i=0) (μ:=λXr=>l.length-Xr) (x0:=0) (Tk (aS O) trivial O O) (⟨aJ _,λi hi=>by simp at hi⟩) ?_
 rintro k ⟨hk,hz⟩;refine Z1 O<|Gp O (λG=>?_) (λG=>?_)
 .have hlt:k<l.length:=Xj;have J:=a6 hlt;have H:=aM hlt;have E:=λh=>AX hlt hz h
  refine Ti<|Z1 O<|A2 O Xm ?_;refine A1 O<|Z3 O ?_;refine Gc O (λs=>?_) (λs=>?_)
  .exact Z2 O<|VF O<|ah (PV.int .i64) (E (by simpa using s)).symm
  exact Ti<|Z2 O<|⟨(k+1),Tk (aS O) trivial O O,⟨Xj,λi hi=>by rw[ct hlt,Uf,TF]at hi;rcases hi with h|rfl;exact hz i h;simpa using s⟩,Xj⟩
 exact Gx O<|Z2 O<|VF O<|ah (PV.int .i64) (Bp λi hi=>hz i (by rwa [aH Xj])).symm
def rL(a b:Int):Int:=if a<b then-1 else if b<a then 1 else 0
def bZ(p q:Par):Int:=orI [rL p.f q.f,vp p.c q.c]
def lF(p q:Par):Bool:=decide (bZ p q<0)
theorem GL(p q:Par):FnP prog 88 [.agg (rG p),.agg (rG q)] (· = .int .i64 (bZ p q)):=by
 refine FnP.of func88 O ntmps88 Xn λ_ _ _ _=>?_
 refine Z3 O<|UB 13 O<|Dr 4 O<|TR O (λτ h=>aa call150 (IA p.f q.f) (h.aD O))<|Dr 4 O<|TR O (λτ h=>aa call94 (Jj p.c q.c) (h.aD O))<|TR O (λτ h=>au UG Xn vY O Xl Xl (h.E0 O O) O)<|TR O (λτ h=>aa call149 (OX [rL p.f q.f,vp p.c q.c] Xn) (h.aD O))<|D1 O ?_;refine⟨Xk,?_⟩;exact VF O O
end
section
namespace Mm
open Jn
theorem xX{p q:Par}:lq p q=VA↔p=q:=by
 obtain⟨a,s⟩:=p;obtain⟨b,t⟩:=q;constructor
 .intro h;simp only[lq,du,U6]at h;have E:a=b:=h.1;have G:s=t:=bytes_inj h.2;rw[E,G]
 .intro h;rw[h];simp[lq]
instance instBEqPar:BEq Par:=⟨lq⟩
instance instLawPar:LawfulBEq Par where
 eq_of_beq h:=xX.1 h
 rfl:=xX.2 O
abbrev PP:=Par×Par
section
variable {K:Type}[BEq K][LawfulBEq K]
def lk:List (K×Rat)->K->Rat
 |[],_=>0
 |e::l,k=>(if e.1==k then e.2 else 0)+lk l k
omit [LawfulBEq K] in
theorem fq(l m:List (K×Rat))(k:K):lk (l++m) k=lk l k+lk m k:=by
 induction l with
 |nil=>simp[lk,Rat.zero_add]
 |cons e l ih=>simp only[Uz,lk,ih];grind
omit [LawfulBEq K] in
theorem Nj(l m:List (K×Rat))(e:K×Rat)(k:K):lk (l++e::m) k=lk (l++m) k+if e.1==k then e.2 else 0:=by
 rw[fq,fq];simp only[lk];grind
theorem sH{l:List (K×Rat)}{k:K}(h:∀e∈l,e.1≠k):lk l k=0:=by
 induction l with
 |nil=>rfl
 | cons e l ih=>
   have s:(e.1==k)=VC:=by grind
   simp only[lk,s,ih (λe' he=>h e' (by simp[he]))];simp[Rat.zero_add]
theorem fB{l:List (K×Rat)}(s:(l.map (·.1)).Nodup){e:K×Rat}(G:e∈l):lk l e.1=e.2:=by
 obtain⟨l1,l2,rfl⟩:=List.append_of_mem G;rw[Nj,sH,Uw,By O,Rat.zero_add];intro e' he' hk;simp only[Uc,cu]at s;have E:=Wj.1 s;have H:=Vh.1 E.2.1;rcases Uf.1 he' with h|h
 .grind
 grind
def note(d:Bool)(l:List (K×Rat))(k:K)(x:Rat):List (K×Rat):=match l.findIdx? (λe=>e.1==k)with
 |some j=>if d=VA/\x+(l.getD j (k,0)).2=0 then l.eraseIdx j else l.set j (k,x+(l.getD j (k,0)).2)
 |none=>if d=VA/\x=0 then l else l++[(k,x)]
theorem gm{k:K}:∀{l:List (K×Rat)}{j:Nat},l.findIdx? (λe=>e.1==k)=UF j->∃l1 o l2,l=l1++(k,o)::l2/\j=l1.length/\∀e∈l1,e.1≠k
 |[],_,h=>by simp at h
 | e::l,j,h=>by
   rw[List.findIdx?_cons]at h;cases hb:e.1==k with
   | true=>
     rw[hb]at h;simp only[WH,TJ]at h;subst h;have:=eq_of_beq hb;exact⟨[],e.2,l,by rw[<-this];rfl,O,Xn⟩
   | false=>
     rw[hb]at h;simp only[UO,WZ,Vz]at h;obtain⟨j',h1,rfl⟩:=h;obtain⟨l1,o,l2,rfl,rfl,h2⟩:=gm h1;refine⟨e::l1,o,l2,O,O,λe' he'=>?_⟩;rcases BY.1 he' with rfl|h3
     .intro e1;rw[e1]at hb;simp at hb
     exact h2 e' h3
theorem l7{k:K}{l:List (K×Rat)}(h:l.findIdx? (λe=>e.1==k)=UG):∀e∈l,e.1≠k:=by grind
theorem qd{k:K}{l1 l2:List (K×Rat)}(h:∀e∈l1,e.1≠k):note d (l1++(k,o)::l2) k x=if d=VA/\x+o=0 then l1++l2 else l1++(k,x+o)::l2:=by
 have s:(l1++(k,o)::l2).findIdx? (λe=>e.1==k)=UF l1.length:=by grind
 unfold note;rw[s];simp only;have E:(l1++(k,o)::l2).getD l1.length (k,0)=(k,o):=by simp[List.getD]
 rw[E];simp only;split
 .grind
 grind
theorem ry{k:K}{l:List (K×Rat)}(h:∀e∈l,e.1≠k):note d l k x=if d=VA/\x=0 then l else l++[(k,x)]:=by grind[List.findIdx,note]
theorem fU(l:List (K×Rat))(k:K):(∃l1 o l2,l=l1++(k,o)::l2/\∀e∈l1,e.1≠k)\/∀e∈l,e.1≠k:=by
 cases h:l.findIdx? (λe=>e.1==k)with
 |none=>exact .inr (l7 h)
 |some j=>obtain⟨l1,o,l2,h1,_,h2⟩:=gm h;exact .inl ⟨l1,o,l2,h1,h2⟩
theorem F2(l:List (K×Rat))(k:K)(x:Rat)(k':K):lk (note d l k x) k'=lk l k'+if k==k' then x else 0:=by
 rcases fU l k with⟨l1,o,l2,rfl,h⟩|h
 .grind[qd,Nj]
 rw[ry h];split
 .grind
 rw[fq];simp only[lk];grind
theorem Ka{l:List (K×Rat)}(s:(l.map (·.1)).Nodup)(k:K)(x:Rat):((note d l k x).map (·.1)).Nodup:=by
 rcases fU l k with⟨l1,o,l2,rfl,h⟩|h
 .grind[qd,List.sublist_cons_self]
 grind[ry,Wj,TG.1]
theorem vH{l:List (K×Rat)}{k:K}{e:K×Rat}(h:e∈note d l k x):e∈l\/(e.1=k/\(d=VA->e.2≠0)/\(e.2=x\/∃o,(k,o)∈l/\e.2=x+o)):=by
 rcases fU l k with⟨l1,o,l2,rfl,hk⟩|hk
 .rw[qd hk]at h;split at h
  .grind
  grind
 rw[ry hk]at h;split at h
 .exact .inl h
 grind
end
structure Sem where
 c:Rat
 s:Par->Rat
 p:Par->Par->Rat
theorem Sem.same{a b:Sem}(E:a.c=b.c)(G:∀x,a.s x=b.s x)(H:∀x y,a.p x y=b.p x y):a=b:=by
 obtain⟨c,s,p⟩:=a;obtain⟨c',s',p'⟩:=b;simp only at E G H;rw[E,funext G,funext λx=>funext (H x)]
def Sem.zero:Sem:=⟨0,λ_=>0,λ_ _=>0⟩
def Sem.one:Sem:=⟨1,λ_=>0,λ_ _=>0⟩
def Sem.add(a b:Sem):Sem:=⟨a.c+b.c,λx=>a.s x+b.s x,λx y=>a.p x y+b.p x y⟩
def Sem.mul(a b:Sem):Sem:=⟨a.c*b.c,λx=>a.c*b.s x+b.c*a.s x,λx y=>a.c*b.p x y+b.c*a.p x y+(a.s x*b.s y+a.s y*b.s x)⟩
def rI:SR Sem where
 zero:=Sem.zero
 one:=Sem.one
 add:=Sem.add
 mul:=Sem.mul
 add_assoc a b c:=Sem.same (by simp only[Sem.add];grind) (λx=>by simp only[Sem.add];grind) (λx y=>by simp only[Sem.add];grind)
 zero_add a:=Sem.same (by simp only[Sem.add,Sem.zero];grind) (λx=>by simp only[Sem.add,Sem.zero];grind) (λx y=>by simp only[Sem.add,Sem.zero];grind)
 add_zero a:=Sem.same (by simp only[Sem.add,Sem.zero];grind) (λx=>by simp only[Sem.add,Sem.zero];grind) (λx y=>by simp only[Sem.add,Sem.zero];grind)
 mul_assoc a b c:=Sem.same (by simp only[Sem.mul];grind) (λx=>by simp only[Sem.mul];grind) (λx y=>by simp only[Sem.mul];grind)
 mul_comm a b:=Sem.same (by simp only[Sem.mul];grind) (λx=>by simp only[Sem.mul];grind) (λx y=>by simp only[Sem.mul];grind)
 one_mul a:=Sem.same (by simp only[Sem.mul,Sem.one];grind) (λx=>by simp only[Sem.mul,Sem.one];grind) (λx y=>by simp only[Sem.mul,Sem.one];grind)
 zero_mul a:=Sem.same (by simp only[Sem.mul,Sem.zero];grind) (λx=>by simp only[Sem.mul,Sem.zero];grind) (λx y=>by simp only[Sem.mul,Sem.zero];grind)
 add_mul a b c:=Sem.same (by simp only[Sem.mul,Sem.add];grind) (λx=>by simp only[Sem.mul,Sem.add];grind) (λx y=>by simp only[Sem.mul,Sem.add];grind)
def dw(D:Int)(q:Rat):Prop:=∃z:Int,q*(D:Rat)=(z:Rat)
theorem dw.add{b:Rat}(s:dw D a)(E:dw D b):dw D (a+b):=by
 obtain⟨x,hx⟩:=s;obtain⟨y,hy⟩:=E;exact⟨x+y,by rw[Rat.add_mul,hx,hy,Rat.intCast_add]⟩
theorem dw.mul{E:Int}{b:Rat}(s:dw D a)(G:dw E b):dw (D*E) (a*b):=by
 obtain⟨x,hx⟩:=s;obtain⟨y,hy⟩:=G;exact⟨x*y,by rw[V5,V5,<-hx,<-hy];grind⟩
theorem dw.ofInt(D z:Int):dw D (z:Rat):=⟨z*D,by rw[V5]⟩
theorem dw.up(E:Int)(s:dw D a):dw (D*E) a:=by
 obtain⟨x,hx⟩:=s;exact⟨x*E,by rw[V5,V5,<-hx];grind⟩
theorem dw.den(h:dw D q):(q.den:Int)∣D:=by
 obtain⟨z,hz⟩:=h;have s:q.num*D*((1:Nat):Int)=z*((q.den*1:Nat):Int):=by
  have E:q*(D:Rat)=mkRat (q.num*D) (q.den*1):=Rat.mul_def' q (D:Rat);have G:(z:Rat)=mkRat z 1:=(Rat.mkRat_self (z:Rat)).symm;rw[E,G]at hz;exact(Rat.mkRat_eq_iff (by have:=q.den_pos;omega) Xl).1 hz
 simp only[TZ,Int.natCast_one,Int.mul_one]at s;have H:q.den∣q.num.natAbs*D.natAbs:=by
  rw[<-WL,s,WL,TW];exact Nat.dvd_mul_left _ _
 exact Int.ofNat_dvd_left.2 (Nat.Coprime.dvd_of_dvd_mul_left q.reduced.symm H)
theorem dw.N7(s:0<D)(h:dw D q):(q.den:Int)<=D:=Int.le_of_dvd s h.den
def bj(B:Nat)(q:Rat):Prop:= -(B:Rat)<=q/\q<=(B:Rat)
theorem bj.zero(B:Nat):bj B 0:=by
 have h:(0:Rat)<=(B:Rat):=by grind
 constructor
 .grind
 exact h
theorem bj.up(h:bj B q)(s:B<=C):bj C q:=by
 have E:(B:Rat)<=(C:Rat):=Rat.natCast_le_natCast.2 s;obtain⟨h2,h3⟩:=h;constructor<;>grind
theorem bj.add{b:Rat}(E:bj B a)(G:bj C b):bj (B+C) (a+b):=by
 obtain⟨h1,h2⟩:=E;obtain⟨h3,h4⟩:=G;have s:((B+C:Nat):Rat)=(B:Rat)+(C:Rat):=Rat.natCast_add B C;constructor
 .rw[s];grind
 rw[s];grind
theorem bj.num(h:bj B q):q.num.natAbs<=B*q.den:=by
 obtain⟨h1,h2⟩:=h;rw[Rat.le_iff]at h1 h2;have s:((B:Nat):Rat).num=(B:Int):=rfl;have E:((B:Nat):Rat).den=1:=rfl;have G:(-((B:Nat):Rat)).num= -(B:Int):=rfl;have H:(-((B:Nat):Rat)).den=1:=rfl;rw[s,E]at h2;rw[G,H]at h1;have I:((B*q.den:Nat):Int)=(B:Int)*(q.den:Int):=Xn;rw[Int.neg_mul]at h1;omega
theorem bj.mul{b:Rat}(J:bj B a)(L:bj C b):bj (B*C) (a*b):=by
 have s:∀x y B C:Rat, -B<=x->x<=B-> -C<=y->y<=C->x*y<=B*C:=by
  intro x y B C h1 h2 h3 h4;have hB:0<=B:=by grind
  have E:0<=C:=by grind
  by_cases hx:0<=x
  .have H:x*y<=x*C:=Rat.mul_le_mul_of_nonneg_left h4 hx;have G:x*C<=B*C:=Rat.mul_le_mul_of_nonneg_right h2 E;exact Rat.le_trans H G
  have hx':0<= -x:=by grind
  have H:(-x)*(-y)<=(-x)*C:=Rat.mul_le_mul_of_nonneg_left (by grind) hx';have G:(-x)*C<=B*C:=Rat.mul_le_mul_of_nonneg_right (by grind) E
  grind
 obtain⟨h1,h2⟩:=J;obtain⟨h3,h4⟩:=L;have I:((B*C:Nat):Rat)=(B:Rat)*(C:Rat):=Rat.natCast_mul B C;constructor
 .rw[I];have:=s (-a) b (B:Rat) (C:Rat) (by grind) (by grind) h3 h4
  grind
 grind
theorem gK[BEq K][LawfulBEq K]{l:List (K×Rat)}(s:(l.map (·.1)).Nodup)(h:∀e∈l,bj B e.2)(k:K):bj B (lk l k):=by
 rcases fU l k with⟨l1,o,l2,rfl,_⟩|hk
 .have:=fB s (e:=(k,o)) Xn;simp only at this;rw[this];exact h (k,o) Xn
 rw[sH hk];exact bj.zero B
end Mm
end
section
namespace Mm
open Jn
theorem G3(a b:Int):rL b a= -rL a b:=by unfold rL;split<;>split<;>(try split)<;>omega
theorem pP{a b:Int}:rL a b=0↔a=b:=by grind[rL]
theorem Sn(a b:Int):orI [a,b]=if a≠0 then a else b:=by grind[orI]
theorem vP(s t:ByteArray):vp s t=if s.toList<t.toList then-1 else if s=t then 0 else 1:=by
 unfold vp;rw[pB];by_cases h:s.toList<t.toList
 .simp[h]
 rw[TL h,sh Xl,sh h,Bool.false_or];by_cases h2:s=t
 .subst h2;simp
 grind[bytes_inj]
theorem Rn{a b:List UInt8}(s:¬a<b)(E:¬b<a):a=b:=List.le_antisymm (List.not_lt.1 E) (List.not_lt.1 s)
theorem GI{s t:ByteArray}:vp s t=0↔s=t:=by grind[vP,List.lt_irrefl]
theorem FM(s t:ByteArray):vp t s= -vp s t:=by grind[vP,List.lt_asymm,List.lt_irrefl,bytes_inj,Rn]
theorem vN(p q:Par):bZ p q=if p.f≠q.f then rL p.f q.f else vp p.c q.c:=by
 unfold bZ;rw[Sn];by_cases h:p.f=q.f
 .rw[sh (by simp[pP.2 h]),sh (by simp[h])]
 rw[By (λe=>h (pP.1 e)),By h]
theorem iS(p q:Par):bZ q p= -bZ p q:=by grind[vN,FM,G3]
theorem eJ{p q:Par}:bZ p q=0↔p=q:=by
 rw[vN];by_cases h:p.f=q.f
 .rw[sh (by simp[h]),GI];constructor
  .intro e;obtain⟨a,s⟩:=p;obtain⟨b,t⟩:=q;simp only at h e;subst h e;rfl
  rintro rfl;rfl
 grind[pP]
theorem EG{a b:ByteArray}(s:vp a b<0)(E:vp b c<0):vp a c<0:=by grind[vp,vP,List.lt_trans]
theorem nC{p q r:Par}(E:bZ p q<0)(s:bZ q r<0):bZ p r<0:=by
 rw[vN]at*;have H:∀a b:Int,rL a b<0->a<b:=λa b h=>by unfold rL at h;split at h;assumption;split at h<;>omega
 have G:∀a b:Int,a<b->rL a b<0:=λa b h=>by unfold rL;rw[By h];omega
 by_cases e1:p.f=q.f
 .rw[sh (by simp[e1])]at E;rw[e1];by_cases e2:q.f=r.f
  .rw[sh (by simp[e2])]at s ⊢;exact EG E s
  rw[By e2]at s ⊢;exact s
 grind
def cP(a b:Par):PP:=if bZ a b>0 then(b,a)else(a,b)
theorem Fe(a b:Par):cP a b=cP b a:=by
 unfold cP;have h:=iS a b;by_cases h1:bZ a b>0
 .rw[By h1,sh Xj]
 by_cases h2:bZ a b=0
 .have:=eJ.1 h2;subst this;rfl
 rw[sh h1,By Xj]
theorem Pm(a b:Par):bZ (cP a b).1 (cP a b).2<=0:=by
 unfold cP;have h:=iS a b;split
 .simp only;omega
 simp only;omega
theorem cQ{a b:Par}(h:bZ a b<=0):cP a b=(a,b):=by unfold cP;rw[sh Xj]
theorem EH(a b:Par):cP a b=(a,b)\/cP a b=(b,a):=by unfold cP;split<;>simp
theorem Bn{a b c d:Par}(h:cP a b=cP c d):(a=c/\b=d)\/(a=d/\b=c):=by grind[EH,Prod.mk.injEq]
structure MC where
 c:Rat
 s:List (Par×Rat)
 p:List (PP×Rat)
def MC.sem(m:MC):Sem:=⟨m.c,lk m.s,λa b=>lk m.p (cP a b)⟩
structure LOk{K:Type}(d:Bool)(D:Int)(l:List (K×Rat)):Prop where
 nd:(l.map (·.1)).Nodup
 nz:d=VA->∀e∈l,e.2≠0
 it:∀e∈l,dw D e.2
theorem LOk.nil(D:Int):LOk (K:=K) d D []:=⟨Xn,Xn,Xn⟩
theorem LOk.note[BEq K][LawfulBEq K]{l:List (K×Rat)}(h:LOk d D l)(k:K)(s:dw D x):LOk d D (note d l k x):=by
 refine⟨Ka h.nd k x,λhd e he=>?_,λe he=>?_⟩
 .rcases vH he with h1|⟨_,h2,_⟩
  .exact h.nz hd e h1
  exact h2 hd
 rcases vH he with h1|⟨_,_,h2|⟨o,h3,h4⟩⟩
 .exact h.it e h1
 .rw[h2];exact s
 rw[h4];exact s.add (h.it _ h3)
theorem LOk.perm[BEq K][LawfulBEq K]{l m:List (K×Rat)}(h:LOk VA D l)(E:LOk VA D m)(e:∀k,lk l k=lk m k):l.Perm m:=by
 have H:∀{l:List (K×Rat)},LOk VA D l->l.Nodup:=fun{l} h=>by
  exact(Vx.1 h.nd).imp λhne e=>hne (by rw[e])
 have s:∀{l m:List (K×Rat)},LOk VA D l->LOk VA D m->(∀k,lk l k=lk m k)->∀x∈l,x∈m:=fun{l m} h E e x hx=>by
  have G:=fB h.nd hx;rw[e]at G;rcases fU m x.1 with⟨l1,o,l2,rfl,_⟩|hk
  .have h2:=fB E.nd (e:=(x.1,o)) Xn;simp only at h2;rw[G]at h2;have:x=(x.1,o):=by rw[<-h2]
   rw[this];simp
  rw[sH hk]at G;exact absurd G.symm (h.nz O x hx)
 exact(List.perm_ext_iff_of_nodup (H h) (H E)).2 λx=>⟨s h E e x,s E h (λk=>(e k).symm) x⟩
structure MOk(W k:Nat)(m:MC):Prop where
 ci:∃z:Int,m.c=(z:Rat)
 s:LOk VA 6 m.s
 p:LOk VA 36 m.p
 po:∀e∈m.p,bZ e.1.1 e.1.2<=0
 cb:bj W m.c
 sb:∀e∈m.s,bj (3*k*W) e.2
 pb:∀e∈m.p,bj (9*k*k*W) e.2
theorem MOk.up{W' k':Nat}{m:MC}(h:MOk W k m)(E:W<=W')(G:k<=k'):MOk W' k' m:=
 ⟨h.ci,h.s,h.p,h.po,h.cb.up E,λe he=>(h.sb e he).up (Uy (T9 3 G) E),λe he=>(h.pb e he).up (Uy (Uy (T9 9 G) G) E)⟩
theorem MOk.rI{m:MC}(h:MOk W k m)(x:Par):bj (3*k*W) (m.sem.s x):=gK h.s.nd h.sb x
theorem MOk.semP{m:MC}(h:MOk W k m)(x y:Par):bj (9*k*k*W) (m.sem.p x y):=gK h.p.nd h.pb _
theorem MOk.of{m:MC}(ci:∃z:Int,m.c=(z:Rat))(s:LOk VA 6 m.s)(p:LOk VA 36 m.p)(po:∀e∈m.p,bZ e.1.1 e.1.2<=0)(cb:bj W m.sem.c)(sb:∀x,bj (3*k*W) (m.sem.s x))(pb:∀x y,bj (9*k*k*W) (m.sem.p x y)):MOk W k m:=by
 refine⟨ci,s,p,po,cb,λe he=>?_,λe he=>?_⟩
 .have:=sb e.1;rw[show m.sem.s e.1=lk m.s e.1 from O,fB s.nd he]at this;exact this
 have:=pb e.1.1 e.1.2;rw[show m.sem.p e.1.1 e.1.2=lk m.p (cP e.1.1 e.1.2)from O,cQ (po e he),show(e.1.1,e.1.2)=e.1 from O,fB p.nd he]at this;exact this
theorem MOk.perm{W' k':Nat}{m m':MC}(h:MOk W k m)(G:MOk W' k' m')(e:m.sem=m'.sem):m.c=m'.c/\m.s.Perm m'.s/\m.p.Perm m'.p:=by
 refine⟨ah Sem.c e,h.s.perm G.s λk=>congrFun (ah Sem.s e) k,h.p.perm G.p λk=>?_⟩;have E:∀{m:MC}{W k:Nat},MOk W k m->∀x:PP,lk m.p x=if bZ x.1 x.2<=0 then m.sem.p x.1 x.2 else 0:=fun{m W k} h x=>by
  by_cases hx:bZ x.1 x.2<=0
  .rw[By hx];show _=lk m.p (cP x.1 x.2);rw[cQ hx]
  rw[sh hx];exact sH λe he e1=>hx (by rw[<-e1];exact h.po e he)
 rw[E h,E G,e]
end Mm
end
section
namespace Mm
open Jn
section
variable {K:Type}[BEq K][LawfulBEq K]
omit [LawfulBEq K] in
theorem gu{l m:List (K×Rat)}(h:l.Perm m)(k:K):lk l k=lk m k:=by
 induction h with
 |nil=>rfl
 |cons e _ ih=>simp only[lk,ih]
 |swap a b l=>simp only[lk];grind
 |trans _ _ ih1 ih2=>rw[ih1,ih2]
structure Inc(d:Bool)(D:Int)(b w:List (K×Rat))(q:Rat)(todo acc:List (K×Rat)):Prop where
 ok:LOk d D acc
 ex:∃d,(d++todo).Perm w/\∀k,lk acc k=lk b k+lk d k*q
omit [LawfulBEq K] in
theorem Inc.start{b:List (K×Rat)}(h:LOk d D b)(w:List (K×Rat))(q:Rat):Inc d D b w q w b:=
 ⟨h,[],T3 _,λk=>by simp only[lk];grind⟩
theorem Inc.step{b w:List (K×Rat)}{l1 l2:List (K×Rat)}{e:K×Rat}{acc:List (K×Rat)}(h:Inc δ D b w q (l1++e::l2) acc)(s:dw D (e.2*q)):Inc δ D b w q (l1++l2) (note δ acc e.1 (e.2*q)):=by
 obtain⟨d,h1,h2⟩:=h.ex;refine⟨h.ok.note _ s,d++[e],?_,λk=>?_⟩
 .grind
 rw[F2,h2,fq];simp only[lk];split<;>grind
omit [LawfulBEq K] in
theorem Inc.end{b w:List (K×Rat)}{acc:List (K×Rat)}(h:Inc δ D b w q [] acc)(k:K):lk acc k=lk b k+lk w k*q:=by
 obtain⟨d,h1,h2⟩:=h.ex;rw[Uh]at h1;rw[h2,gu h1]
omit [LawfulBEq K] in
theorem Inc.mem{b w:List (K×Rat)}{todo acc:List (K×Rat)}(h:Inc δ D b w q todo acc){e:K×Rat}(s:e∈todo):e∈w:=by
 obtain⟨d,h1,_⟩:=h.ex;exact h1.subset (by simp[s])
theorem Inc.abs{b w:List (K×Rat)}{todo acc:List (K×Rat)}{Q:Nat}(h:Inc δ D b w q todo acc)(E:LOk δ D b)(G:LOk VA D w)(bb:∀e∈b,bj B e.2)(bw:∀e∈w,bj C e.2)(bq:bj Q q):∀e∈acc,bj (B+C*Q) e.2:=by
 intro e he;obtain⟨d,h1,h2⟩:=h.ex;rw[<-fB h.ok.nd he,h2];have s:(d.map (·.1)).Nodup:=by
  have:=(h1.map (·.1)).nodup_iff.2 G.nd;rw[Uc]at this;exact(Wj.1 this).1
 exact(gK E.nd bb _).add ((gK s (λx hx=>bw x (h1.subset (by simp[hx]))) _).mul bq)
end
def ctr(p:Par)(x:Rat)(e:Par×Rat):PP×Rat:=(cP p e.1,if p==e.1 then x*e.2+x*e.2 else x*e.2)
theorem Sr(p:Par)(x:Rat)(e:Par×Rat)(a b:Par):(if cP p e.1==cP a b then(if p==e.1 then x*e.2+x*e.2 else x*e.2)else 0)=(if p==a then x else 0)*(if e.1==b then e.2 else 0)+(if p==b then x else 0)*(if e.1==a then e.2 else 0):=by
 obtain⟨q,y⟩:=e
 classical
 simp only;have E:∀u v:Par,(u==v)=decide (u=v):=λu v=>by grind
 have s:∀u v:PP,(u==v)=decide (u=v):=λu v=>by grind
 have G:cP p q=cP a b↔(p=a/\q=b)\/(p=b/\q=a):=by grind[Bn,Fe]
 simp only[E,s,Tz,G];by_cases h1:p=a<;>by_cases h2:q=b<;>by_cases h3:p=b<;>by_cases h4:q=a<;>by_cases h5:p=q<;>simp only[h1,h2,h3,h4,h5,true_and,and_true,false_and,and_false,or_true,true_or,V9,false_or,WH,WZ]<;>first|grind|(exfalso;grind)|skip
structure Crs(δ:Bool)(b:List (PP×Rat))(ws dP dQ:List (Par×Rat))(p:Par)(x:Rat)(acc:List (PP×Rat)):Prop where
 ok:LOk δ 36 acc
 po:∀e∈acc,bZ e.1.1 e.1.2<=0
 eq:∀u v,lk acc (cP u v)=lk b (cP u v)+(lk dP u*lk ws v+lk dP v*lk ws u)+((if p==u then x else 0)*lk dQ v+(if p==v then x else 0)*lk dQ u)
theorem uY{l:List (PP×Rat)}(h:∀e∈l,bZ e.1.1 e.1.2<=0)(a b:Par)(x:Rat):∀e∈note δ l (cP a b) x,bZ e.1.1 e.1.2<=0:=λe he=>by
 rcases vH he with h1|⟨h1,_⟩
 .exact h e h1
 rw[h1];exact Pm a b
theorem Crs.step{b:List (PP×Rat)}{ws dP dQ:List (Par×Rat)}{p:Par}{acc:List (PP×Rat)}(h:Crs δ b ws dP dQ p x acc)(e:Par×Rat)(s:dw 36 (ctr p x e).2):Crs δ b ws dP (dQ++[e]) p x (note δ acc (cP p e.1) (ctr p x e).2):=by
 refine⟨h.ok.note _ s,uY h.po _ _ _,λu v=>?_⟩;rw[F2,h.eq,fq,fq];have:=Sr p x e u v;simp only[ctr]at*;rw[this];simp only[lk]
 grind
theorem Crs.row{b:List (PP×Rat)}{ws dP dQ:List (Par×Rat)}{p:Par}{acc:List (PP×Rat)}(h:Crs δ b ws dP dQ p x acc)(s:dQ.Perm ws)(p':Par)(x':Rat):Crs δ b ws (dP++[(p,x)]) [] p' x' acc:=by
 refine⟨h.ok,h.po,λu v=>?_⟩;rw[h.eq,fq,fq,gu s,gu s];simp only[lk]
 grind
theorem Crs.abs{b:List (PP×Rat)}{ws dP dQ:List (Par×Rat)}{p:Par}{acc:List (PP×Rat)}{E:Nat}(h:Crs δ b ws dP dQ p x acc)(U:∀u v,bj B (lk b (cP u v)))(I:∀u,bj C (lk dP u))(V:bj C x)(J:∀u,bj E (lk ws u))(L:∀u,bj E (lk dQ u)):∀e∈acc,bj (B+(C*E+C*E)+(C*E+C*E)) e.2:=by
 intro e he;have M:=fB h.ok.nd he;have G:=h.eq e.1.1 e.1.2;rw[cQ (h.po e he)]at G;rw[<-M,show e.1=(e.1.1,e.1.2)from O,G];have s:=U e.1.1 e.1.2;rw[cQ (h.po e he)]at s;have H:∀u,bj C (if p==u then x else 0):=λu=>by split;exact V;exact bj.zero C
 exact(s.add (((I _).mul (J _)).add ((I _).mul (J _)))).add (((H _).mul (L _)).add ((H _).mul (L _)))
theorem MOk.mul{W' k':Nat}{v w m:MC}(E:MOk W k v)(G:MOk W' k' w)(hc:m.c=v.c*w.c)(H:LOk VA 6 m.s)(I:LOk VA 36 m.p)(po:∀e∈m.p,bZ e.1.1 e.1.2<=0)
  (es:∀x,lk m.s x=lk w.s x*v.c+lk v.s x*w.c) (ep:∀x y,lk m.p (cP x y)=lk w.p (cP x y)*v.c+lk v.p (cP x y)*w.c+(lk v.s x*lk w.s y+lk v.s y*lk w.s x)):
  m.sem=Sem.mul v.sem w.sem/\MOk (W*W') (k+k') m:=by
 have e:m.sem=Sem.mul v.sem w.sem:=Sem.same hc (λx=>by show lk m.s x=_;rw[es];simp only[Sem.mul,MC.sem];grind) (λx y=>by show lk m.p (cP x y)=_;rw[ep];simp only[Sem.mul,MC.sem];grind);refine⟨e,MOk.of ?_ H I po ?_ (λx=>?_) λx y=>?_⟩
 .obtain⟨a,ha⟩:=E.ci;obtain⟨b,hb⟩:=G.ci;exact⟨a*b,by rw[hc,ha,hb,V5]⟩
 .show bj _ m.c;rw[hc];exact E.cb.mul G.cb
 .rw[e];refine((E.cb.mul (G.rI x)).add (G.cb.mul (E.rI x))).up (UM ?_)
  grind
 rw[e];refine(((E.cb.mul (G.semP x y)).add (G.cb.mul (E.semP x y))).add (((E.rI x).mul (G.rI y)).add ((E.rI y).mul (G.rI x)))).up (UM ?_)
 grind
theorem MOk.add{W':Nat}{v w m:MC}(E:MOk W k v)(G:MOk W' k w)(hc:m.c=v.c+w.c)(H:LOk VA 6 m.s)(I:LOk VA 36 m.p)(po:∀e∈m.p,bZ e.1.1 e.1.2<=0)
  (es:∀x,lk m.s x=lk v.s x+lk w.s x) (ep:∀x,lk m.p x=lk v.p x+lk w.p x):m.sem=Sem.add v.sem w.sem/\MOk (W+W') k m:=by
 have e:m.sem=Sem.add v.sem w.sem:=Sem.same hc es (λx y=>ep _);refine⟨e,MOk.of ?_ H I po ?_ (λx=>?_) λx y=>?_⟩
 .obtain⟨a,ha⟩:=E.ci;obtain⟨b,hb⟩:=G.ci;exact⟨a+b,by rw[hc,ha,hb,Rat.intCast_add]⟩
 .show bj _ m.c;rw[hc];exact E.cb.add G.cb
 .rw[e];refine((E.rI x).add (G.rI x)).up (UM ?_)
  grind
 rw[e];refine((E.semP x y).add (G.semP x y)).up (UM ?_)
 grind
end Mm
end
section
namespace Mm
open Jn
structure Cmp{K:Type}(cmp:K->K->Int):Prop where
 swap:∀a b,cmp b a= -cmp a b
 zero:∀{a b},cmp a b=0->a=b
 trans:∀{a b c},cmp a b<0->cmp b c<0->cmp a c<0
theorem eF:Cmp bZ:=⟨iS,eJ.1,nC⟩
def cI(a b:PP):Int:=orI [bZ a.1 b.1,bZ a.2 b.2]
theorem c6:Cmp cI:=by
 have e:∀a b:PP,cI a b=if bZ a.1 b.1≠0 then bZ a.1 b.1 else bZ a.2 b.2:=λa b=>Sn _ _
 refine⟨λa b=>?_,fun{a b} h=>?_,fun{a b c} h1 h2=>?_⟩
 .grind[iS,bZ]
 .rw[e]at h;split at h
  .rename_i h1;exact absurd h h1
  rename_i h1;exact Prod.ext (eJ.1 Xj) (eJ.1 h)
 rw[e]at*;by_cases e1:bZ a.1 b.1=0
 .rw[sh Xj]at h1;rw[eJ.1 e1];by_cases e2:bZ b.1 c.1=0
  .rw[sh Xj]at h2 ⊢;exact nC h1 h2
  rw[By e2]at h2 ⊢;exact h2
 rw[By e1]at h1;by_cases e2:bZ b.1 c.1=0
 .rw[<-eJ.1 e2,By e1];exact h1
 rw[By e2]at h2;have:=nC h1 h2;rw[By Xj];exact this
section
variable {K:Type}(cmp:K->K->Int)
def oV(e:K×Rat):List (K×Rat)->List (K×Rat)
 |[]=>[e]
 |x::l=>if cmp x.1 e.1<0 then x::oV e l else e::x::l
def srt(l:List (K×Rat)):List (K×Rat):=l.foldr (oV cmp) []
abbrev Asc(l:List (K×Rat)):Prop:=l.Pairwise λa b=>cmp a.1 b.1<0
theorem lY(e:K×Rat):∀l,(oV cmp e l).Perm (e::l)
 |[]=>T3 _
 | x::l=>by
   simp only[oV];split
   .exact(List.Perm.cons _ (lY e l)).trans (List.Perm.swap _ _ _)
   exact T3 _
theorem br:∀l,(srt cmp l).Perm l
 |[]=>T3 _
 |e::l=>(lY cmp e _).trans (List.Perm.cons _ (br l))
variable {cmp}
theorem tP(h:Cmp cmp){e:K×Rat}:∀{l},Asc cmp l->(∀x∈l,x.1≠e.1)->Asc cmp (oV cmp e l)
 |[],_,_=>by simp[oV,Asc]
 | x::l,ha,hn=>by
   obtain⟨h1,h2⟩:=Ut.1 ha;simp only[oV];split
   .rename_i hx;refine Ut.2 ⟨λy hy=>?_,tP h h2 λz G=>hn z (by simp[G])⟩;rcases BY.1 ((lY cmp e l).mem_iff.1 hy)with rfl|hy
    .exact hx
    exact h1 y hy
   rename_i hx;have E:=hn x Xn;have G:cmp x.1 e.1≠0:=λH=>E (h.zero H)
   have I:=h.swap x.1 e.1;have s:cmp e.1 x.1<0:=Xj;refine Ut.2 ⟨λy hy=>?_,ha⟩;rcases BY.1 hy with rfl|hy
   .exact s
   exact h.trans s (h1 y hy)
theorem fx(h:Cmp cmp):∀{l:List (K×Rat)},(l.map (·.1)).Nodup->Asc cmp (srt cmp l)
 |[],_=>List.Pairwise.nil
 | e::l,hn=>by
   simp only[cu,Vh]at hn;exact tP h (fx h hn.2) λx hx e1=>hn.1<|TG.2 ⟨x,(br cmp l).mem_iff.1 hx,e1⟩
theorem iQ(h:Cmp cmp):∀{l m:List (K×Rat)},Asc cmp l->Asc cmp m->l.Perm m->l=m
 |[],m,_,_,hp=>(List.Perm.nil_eq hp)
 |x::l,[],_,_,hp=>absurd hp.length_eq Xn
 | x::l,y::m,hl,hm,hp=>by
   obtain⟨h1,h2⟩:=Ut.1 hl;obtain⟨h3,h4⟩:=Ut.1 hm;have s:∀k,¬cmp k k<0:=λk e=>by have:=h.swap k k;omega
   have E:x=y:=by
    have G:x∈y::m:=hp.mem_iff.1 Xn;have H:y∈x::l:=hp.mem_iff.2 Xn;rcases BY.1 G with e|G
    .exact e
    rcases BY.1 H with e|H
    .exact e.symm
    have a:=h3 x G;have b:=h1 y H;exact absurd (h.trans a b) (s _)
   subst E;rw[iQ h h2 h4 (List.Perm.cons_inv hp)]
theorem vO(h:Cmp cmp){l:List (K×Rat)}(s:Asc cmp l):(l.map (·.1)).Nodup:=by
 rw[List.Nodup,Vx];exact s.imp fun{a b} hlt e=>by have:=h.swap a.1 a.1;rw[<-e]at hlt;omega
theorem NZ(h:Cmp cmp){l:List (K×Rat)}(s:Asc cmp l):srt cmp l=l:=iQ h (fx h (vO h s)) s (br cmp l)
theorem LOk.srt{l:List (K×Rat)}(h:LOk d D l):LOk d D (srt cmp l):=
 ⟨((br cmp l).map _).nodup_iff.2 h.nd,λhd e he=>h.nz hd e ((br cmp l).mem_iff.1 he),λe he=>h.it e ((br cmp l).mem_iff.1 he)⟩
end
def canon(m:MC):MC:=⟨m.c,srt bZ m.s,srt cI m.p⟩
theorem Fx(m:MC):(canon m).sem=m.sem:=Sem.same O (λx=>gu (br _ _) x) (λx y=>gu (br _ _) _)
theorem MOk.canon{m:MC}(h:MOk W k m):MOk W k (canon m):=
 ⟨h.ci,h.s.srt,h.p.srt,λe he=>h.po e ((br _ _).mem_iff.1 he),h.cb,λe he=>h.sb e ((br _ _).mem_iff.1 he),λe he=>h.pb e ((br _ _).mem_iff.1 he)⟩
theorem MH{W' k':Nat}{m m':MC}(h:MOk W k m)(E:MOk W' k' m')(e:m.sem=m'.sem):canon m=canon m':=by
 obtain⟨e1,e2,e3⟩:=h.perm E e;have G:srt bZ m.s=srt bZ m'.s:=iQ eF (fx eF h.s.nd) (fx eF E.s.nd) ((br _ _).trans (e2.trans (br _ _).symm));have H:srt cI m.p=srt cI m'.p:=iQ c6 (fx c6 h.p.nd) (fx c6 E.p.nd) ((br _ _).trans (e3.trans (br _ _).symm));rw[Mm.canon,Mm.canon,e1,G,H]
def SOk(W k:Nat)(x:Sem):Prop:=∃m,MOk W k m/\m.sem=x
theorem SOk.up{W' k':Nat}{x:Sem}(h:SOk W k x)(s:W<=W')(E:k<=k'):SOk W' k' x:=by
 obtain⟨m,h1,h2⟩:=h;exact⟨m,h1.up s E,h2⟩
open Classical in
noncomputable def cn(x:Sem):MC:=if h:∃m,(∃W k,MOk W k m)/\m.sem=x then canon h.choose else⟨0,[],[]⟩
theorem QE{m:MC}(h:MOk W k m):cn m.sem=canon m:=by
 have s:∃m',(∃W k,MOk W k m')/\m'.sem=m.sem:=⟨m,⟨W,k,h⟩,O⟩;obtain⟨⟨W',k',h1⟩,h2⟩:=s.choose_spec;rw[cn,dif_pos s];exact MH h1 h h2
theorem SOk.cn{x:Sem}(h:SOk W k x):MOk W k (cn x)/\(cn x).sem=x/\Asc bZ (cn x).s/\Asc cI (cn x).p:=by
 obtain⟨m,h1,rfl⟩:=h;rw[QE h1];exact⟨h1.canon,Fx m,fx eF h1.s.nd,fx c6 h1.p.nd⟩
theorem PN{m:MC}(h:MOk W k m)(E:Asc bZ m.s)(G:Asc cI m.p):cn m.sem=m:=by
 rw[QE h,Mm.canon,NZ eF E,NZ c6 G]
theorem MOk.perms{m:MC}(h:MOk W k m):(cn m.sem).c=m.c/\(cn m.sem).s.Perm m.s/\(cn m.sem).p.Perm m.p:=by
 rw[QE h];exact⟨O,br _ _,br _ _⟩
end Mm
end
section
theorem St.SM{σ τ:St}(p:Nat->Bool)(ρ:Nat->Nat)(M:∀t,τ.sl t= .pv .any\/σ.sl t=(τ.sl t).ren ρ)(U:∀t,(τ.sl t).all p=VA)
  (L:∀i o,τ.ob i=UF o->σ.ob (ρ i)=UF (o.ren ρ)/\p i=VA/\o.all p=VA) (J:∀i j,p i=VA->p j=VA->ρ i=ρ j->i=j)
  (H:∀i,p i=VA->τ.av i=VC) (E:∀i,big<=i->τ.av i=VC/\ρ i=i):σ.le τ:=by
 rintro C n a w ⟨m,R,hw⟩
 let m2:Gm:=λi=>if(τ.ob i).isSome then m (ρ i)else UG
 have s:∀i x,m2 i=UF x->m (ρ i)=UF x/\p i=VA:=λi x h=>by
  simp only[m2]at h;split at h
  .rename_i M;obtain⟨o,hoo⟩:=T7.1 M;exact⟨h,(L i o hoo).2.1⟩
  cases h
 have V:∀i x,p i=VA->m2 i=UF x->m (ρ i)=UF x:=λi x _ h=>(s i x h).1
 refine⟨m2,R,⟨?_,?_,?_,?_,?_,hw.hr.rsz,hw.hr.rfr,hw.hr.r0,hw.hr.frame,?_,λi hi=>(E i hi).1⟩,hw.df,hw.sz,?_⟩
 .intro i;simp only[m2];cases e:τ.ob i with
  |none=>rfl
  | some o=>
    have:=hw.hr.dom (ρ i);rw[(L i o e).1]at this;simpa[cL,Ob.mz]using this
 .intro i hi;cases e:τ.ob i with
  |none=>rfl
  | some o=>
    have G:=H i (L i o e).2.1;rw[hi]at G;cases G
 .intro i o b N G h4;have X:=L i o G;exact(hw.hr.obj _ _ b N X.1 (s _ _ h4).1).jz ρ p V H X.2.2
 .intro i j b N N' e1 I;exact J i j (s _ _ e1).2 (s _ _ I).2 (hw.hr.inj _ _ b N N' (s _ _ e1).1 (s _ _ I).1)
 .exact λi b N e=>hw.hr.own _ b N (s _ _ e).1
 .intro i x hi e;have I:=(s i x e).1;rw[(E i hi).2]at I;exact hw.hr.j4 i x hi I
 .intro t ht;rcases M t with e|e
  .rw[e];simp only[Rel,RelP]
  have G:=hw.sl t ht;rw[e]at G;exact G.jz ρ p V H _ _ (U t)
def ovl(σ:St)(A:Nat)(TA T:TypeId)(cells:List V)(ls:List (List PV)):St:=
 ⟨σ.sl,λid=>bif Nat.beq id A then UF (.mix TA cells)else bif (Nat.ble 1000 id&&Nat.blt id (1000+ls.length))then UF (.gro T (ls.getD (id-1000) []))else σ.ob id,λid=>σ.av id&&Nat.blt id 1000⟩
def chV(ls:List (List PV)):List V:=ls.zipIdx.map λp=> .gsl (p.2+1000) 1 p.1.length
def chP(ls:List (List PV)):List V:=ls.map λc=> .pv (.sl UG c.length c)
theorem G8(h:j<ls.length):(chV ls)[j*1]? =UF (.gsl (j+1000) 1 ls[j].length):=by
 simp[chV,h]
theorem jW(ls:List (List PV)):(chV ls).length=ls.length:=by simp[chV]
theorem beqT(h:i=k):Nat.beq i k=VA:=by subst h;exact Nat.beq_refl i
theorem IW(h:i≠k):Nat.beq i k=VC:=by grind[Nat.beq,cd]
theorem bltT(h:i<k):Nat.blt i k=VA:=V3 h
theorem M6(h:Nat.blt i k=VA):i<k:=TV h
theorem dx{σ:St}{cells:List V}(s:A<1000)(h:j<ls.length):(ovl σ A TA T cells ls).ob (j+1000)=UF (.gro T ls[j]):=by
 show(bif Nat.beq (j+1000) A then _ else _)=_;rw[IW Xj,Ue,show Nat.ble 1000 (j+1000)=VA from V3 Xj,show Nat.blt (j+1000) (1000+ls.length)=VA from bltT Xj];simp[List.getD,h]
theorem nJ{σ:St}{cells:List V}(h:i≠A)(s:i<1000):(ovl σ A TA T cells ls).ob i=σ.ob i:=by
 show(bif Nat.beq i A then _ else _)=_;rw[IW h,Ue];have:Nat.ble 1000 i=VC:=by
  cases hb:Nat.ble 1000 i with
  |false=>rfl
  |true=>have:=TV hb;omega
 rw[this];rfl
theorem ta{σ:St}{cells:List V}(s:A<1000)(h:1000+ls.length<=i):(ovl σ A TA T cells ls).ob i=σ.ob i:=by
 show(bif Nat.beq i A then _ else _)=_;rw[IW Xj,Ue];have:Nat.blt i (1000+ls.length)=VC:=by
  cases hb:Nat.blt i (1000+ls.length)with
  |false=>rfl
  |true=>have:=M6 hb;omega
 rw[this,Bool.and_false];rfl
theorem x9{σ:St}{cells:List V}:(ovl σ A TA T cells ls).ob A=UF (.mix TA cells):=by
 show(bif Nat.beq A A then _ else _)=_;rw[beqT O];rfl
theorem St.FN{σ:St}(T:TypeId)(m:Nat)(V:σ.ob A=UF (.mix TA (List.replicate m (.pv nS))))(Y:A<1000)(hm:m<=1000)(X:∀i,1000<=i->i<2000->σ.av i=VA):σ.le (ovl σ A TA T (chV (List.replicate m [])) (List.replicate m [])):=by
 rintro C n a w ⟨mm,R,hw⟩;have H:∀i,σ.av i=VC->(ovl σ A TA T (chV (List.replicate m [])) (List.replicate m [])).av i=VC:=λi h=>by
  show(σ.av i&&_)=VC;rw[h];rfl
 have E:∀i,1000<=i->i<2000->mm i=UG:=λi h1 G=>by
  have J:=hw.hr.dom i;rw[hw.hr.free i (X i h1 G)]at J;simpa[cL]using J
 have I:∀b,R b->R b/\w.heap[b]? =w.heap[b]? :=λb h=>⟨h,O⟩
 refine⟨mm,R,⟨?_,?_,?_,hw.hr.inj,hw.hr.own,hw.hr.rsz,hw.hr.rfr,hw.hr.r0,hw.hr.frame,hw.hr.j4,λi hi=>H i (hw.hr.res i hi)⟩,hw.df,hw.sz,λt ht=>(hw.sl t ht).mono I (λ_ _ _ e=>e) H _ _⟩
 .intro i;by_cases e:i=A
  .subst e;rw[x9,hw.hr.dom,V];rfl
  by_cases h1:i<1000
  .rw[nJ e h1];exact hw.hr.dom i
  by_cases G:i<1000+m
  .have:=dx (σ:=σ) (TA:=TA) (T:=T) (cells:=chV (List.replicate m [])) (ls:=List.replicate m []) Y (j:=i-1000) Xo;rw[show i-1000+1000=i by omega]at this;rw[this,E i Xj Xj];simp[cL,Ob.real]
  rw[ta Y Xo];exact hw.hr.dom i
 .intro i h;have L:(σ.av i&&Nat.blt i 1000)=VA:=h;rw[du]at L;have G:=hw.hr.free i L.1;have M:=M6 L.2;have e:i≠A:=λe=>by subst e;rw[V]at G;cases G
  rw[nJ e M];exact G
 .intro i o b N h1 G;by_cases e:i=A
  .subst e;rw[x9]at h1;cases h1;obtain⟨arr,q1,q2,q3,q4⟩:=hw.hr.obj i _ b N V G;refine⟨arr,q1,q2,by rw[jW];simpa using q3,?_⟩;rw[jW];simp only[Vl]at q4 ⊢;have U:∀(k s:Nat)(us:List Value),s+k<=m->RelL w mm σ.av R (List.replicate k (.pv nS)) us->RelL w mm (ovl σ i TA T (chV (List.replicate m [])) (List.replicate m [])).av R (((List.replicate k ([]:List PV)).zipIdx s).map λp=> .gsl (p.2+1000) 1 p.1.length) us:=by
    intro k;induction k with
    |zero=>intro s us _ h;simpa[RelL]using h
    | succ k ih=>
      intro s us hk h;simp only[Wm,RelL]at h;obtain⟨u,vs,rfl,hu,hv⟩:=h;simp only[Wm,List.zipIdx_cons,cu,RelL];refine⟨u,vs,O,?_,ih (s+1) vs Xj hv⟩;simp only[Rel,RelP]at hu ⊢;obtain⟨A',c,rfl,_,hc,hb,hcz,_⟩:=hu;have Z:=hb VA O;refine⟨?_,A',c,O,aJ _,hc,λ_=>⟨?_,hcz trivial,E _ Xj Xj⟩,λh=>absurd h Xn⟩
      .show(σ.av (s+1000)&&Nat.blt (s+1000) 1000)=VC;have:Nat.blt (s+1000) 1000=VC:=by
        cases hb:Nat.blt (s+1000) 1000 with
        |false=>rfl
        |true=>have:=M6 hb;omega
       rw[this,Bool.and_false]
      simp_all
   exact U m 0 _ Xj q4
  by_cases hf:1000<=i/\i<1000+m
  .grind
  have J:σ.ob i=UF o:=by grind[nJ,ta]
  exact(hw.hr.obj i o b N J G).mono I (λ_ _ _ e=>e) H O
mutual
theorem V.all_mono{p q:Nat->Bool}(h:∀i,p i=VA->q i=VA):∀v:V,v.all p=VA->v.all q=VA
 | .pv _,_=>rfl
 | .ptr i _,hv=>by simp only[V.all]at hv ⊢; exact h i hv
 | .osl i _ _,hv=>by simp only[V.all]at hv ⊢; exact h i hv
 | .tsl i _ _,hv=>by simp only[V.all]at hv ⊢; exact h i hv
 | .gsl i _ _,hv=>by simp only[V.all]at hv ⊢; exact h i hv
 | .map i,hv=>by simp only[V.all]at hv ⊢; exact h i hv
 | .agg cs,hv=>by simp only[V.all]at hv ⊢; exact V.allL_mono h cs hv
 | .tup cs,hv=>by simp only[V.all]at hv ⊢; exact V.allL_mono h cs hv
 | .fn _ a b,hv=>by simp only[V.all,du]at hv ⊢; exact⟨V.allL_mono h a hv.1,V.allL_mono h b hv.2⟩
theorem V.allL_mono{p q:Nat->Bool}(h:∀i,p i=VA->q i=VA):∀vs:List V,V.allL p vs=VA->V.allL q vs=VA
 |[],_=>rfl
 |c::cs,hv=>by simp only[V.allL,du]at hv ⊢; exact⟨V.all_mono h c hv.1,V.allL_mono h cs hv.2⟩
end
mutual
theorem V.uq(id:Nat)(r:Bool)(cs:List PV):∀v:V,v.all (λi=> !(Nat.beq i id))=VA->V.pubV id r cs v=v
 | .pv _,_=>rfl
 | .ptr _ _,_=>rfl
 | .osl i _ _,h=>by simp only[V.all,Vg]at h;simp only[V.pubV,h,Ue]
 | .tsl i _ _,h=>by simp only[V.all,Vg]at h;simp only[V.pubV,h,Ue]
 | .gsl i _ _,h=>by simp only[V.all,Vg]at h;simp only[V.pubV,h,Ue]
 | .map _,_=>rfl
 | .agg cs',h=>by simp only[V.all]at h;simp only[V.pubV,V.pubL_out id r cs cs' h]
 | .tup cs',h=>by simp only[V.all]at h;simp only[V.pubV,V.pubL_out id r cs cs' h]
 | .fn _ a b,h=>by simp only[V.all,du]at h;simp only[V.pubV,V.pubL_out id r cs a h.1,V.pubL_out id r cs b h.2]
theorem V.pubL_out(id:Nat)(r:Bool)(cs:List PV):∀vs:List V,V.allL (λi=> !(Nat.beq i id)) vs=VA->V.pubL id r cs vs=vs
 |[],_=>rfl
 |c::cs',h=>by simp only[V.allL,du]at h;simp only[V.pubL,V.uq id r cs c h.1,V.pubL_out id r cs cs' h.2]
end
theorem Ob.uq(id:Nat)(r:Bool)(cs:List PV){o:Ob}(h:o.all (λi=> !(Nat.beq i id))=VA):o.LZ id r cs=o:=by
 cases o with
 |mix t vs=>exact ah _ (V.pubL_out id r cs vs h)
 |cells _ _=>rfl
 |gro _ _=>rfl
 |mp _ _=>rfl
 |it _ _=>rfl
 |fro _ _=>rfl
 |mi _ _ _=>rfl
def chM(ls:List (List PV))(j:Nat):List V:=chV (ls.take j)++chP (ls.drop j)
theorem KE{r:Bool}(vs:List V):V.pubL id r cs vs=vs.map (V.pubV id r cs):=by
 induction vs with
 |nil=>rfl
 |cons v vs ih=>rw[V.pubL,ih,cu]
theorem Qx(ls:List (List PV))(h:j<ls.length):V.pubL (j+1000) VC ls[j] (chM ls (j+1))=chM ls j:=by
 rw[KE];unfold chM;have E:chV (ls.take (j+1))=chV (ls.take j)++[.gsl (j+1000) 1 ls[j].length]:=by grind[AI,chV,List.zipIdx_cons,List.zipIdx_nil,TC]
 have G:chP (ls.drop j)= .pv (.sl UG ls[j].length ls[j])::chP (ls.drop (j+1)):=by
  rw[TN h];rfl
 have H:(chV (ls.take j)).map (V.pubV (j+1000) VC ls[j])=chV (ls.take j):=by
  have:∀v∈chV (ls.take j),V.pubV (j+1000) VC ls[j] v=v:=λv hv=>by
   unfold chV at hv;obtain⟨q,hq,rfl⟩:=TG.1 hv;have:=List.mem_zipIdx hq;have s:=this.2.1;rw[TC]at s;simp only[V.pubV];rw[IW Xj,Ue]
  rw[Ud this];exact List.map_id' _
 have I:(chP (ls.drop (j+1))).map (V.pubV (j+1000) VC ls[j])=chP (ls.drop (j+1)):=by
  have:∀v∈chP (ls.drop (j+1)),V.pubV (j+1000) VC ls[j] v=v:=λv hv=>by
   unfold chP at hv;obtain⟨q,_,rfl⟩:=TG.1 hv;rfl
  rw[Ud this];exact List.map_id' _
 have s:V.pubV (j+1000) VC ls[j] (.gsl (j+1000) 1 ls[j].length)= .pv (.sl UG ls[j].length ls[j]):=by
  simp only[V.pubV];rw[beqT O,U3]
 rw[E,G,Uc,Uc,H,I,cu,Un,s,VZ,List.singleton_append]
theorem St.H8{σ:St}(ls:List (List PV))(E:A<1000)(hm:ls.length<=1000)(Z:∀t,(σ.sl t).all (λi=>Nat.blt i 1000)=VA)(M:∀i o,σ.ob i=UF o->i<1000/\o.all (λi=>Nat.blt i 1000)=VA):
  (ovl σ A TA T (chV ls) ls).le (ovl σ A TA T (chP ls) []):=by
 have X:∀(j:Nat)(v:V),v.all (λi=>Nat.blt i 1000)=VA->v.all (λi=> !(Nat.beq i (j+1000)))=VA:=λj v h=>V.all_mono (λi hi=>by
  have:=M6 hi;rw[IW Xj];rfl) v h
 have Y:∀(j:Nat)(o:Ob),o.all (λi=>Nat.blt i 1000)=VA->o.all (λi=> !(Nat.beq i (j+1000)))=VA:=λj o h=>by
  cases o with
  | mix t vs=>exact V.allL_mono (λi hi=>by
    have:=M6 hi;rw[IW Xj];rfl) vs h
  |cells _ _=>rfl
  |gro _ _=>rfl
  |mp _ _=>rfl
  |it _ _=>rfl
  |fro _ _=>rfl
  |mi _ _ _=>rfl
 have G:∀j,(h:j<ls.length)->(ovl σ A TA T (chM ls (j+1)) (ls.take (j+1))).le (ovl σ A TA T (chM ls j) (ls.take j)):=by
  intro j h;have H:j<(ls.take (j+1)).length:=by rw[TC];omega
  have s:=dx (σ:=σ) (TA:=TA) (T:=T) (cells:=chM ls (j+1)) E H;rw[List.getElem_take]at s;have U:=Tn (j+1000) s (r:=VC) (cs:=ls[j]) O;have e:(ovl σ A TA T (chM ls (j+1)) (ls.take (j+1))).Rf (j+1000) VC ls[j]=ovl σ A TA T (chM ls j) (ls.take j):=by
   have I:(λt=>V.pubV (j+1000) VC ls[j] (σ.sl t))=σ.sl:=funext λt=>V.uq _ _ _ _ (X j _ (Z t))
   have J:∀i,(bif Nat.beq i (j+1000)then UG else((ovl σ A TA T (chM ls (j+1)) (ls.take (j+1))).ob i).map (Ob.LZ (j+1000) VC ls[j]))=(ovl σ A TA T (chM ls j) (ls.take j)).ob i:=by
    intro i;by_cases hi:i=j+1000
    .subst hi;rw[beqT O,U3,ta E (by rw[TC];omega)];cases hq:σ.ob (j+1000)with
     |none=>rfl
     |some o=>have:=(M _ o hq).1;omega
    rw[IW hi,Ue];by_cases hiA:i=A
    .subst hiA;rw[x9,x9];simp only[Vu,Ob.LZ];rw[Qx ls h]
    by_cases h1:i<1000
    .rw[nJ hiA h1,nJ hiA h1];cases hq:σ.ob i with
     |none=>rfl
     |some o=>simp only[Vu];rw[Ob.uq _ _ _ (Y j o (M i o hq).2)]
    by_cases h2:i<j+1000
    .obtain⟨q,rfl⟩:∃q,i=q+1000:=⟨i-1000,Xj⟩;rw[dx E (by rw[TC];omega),dx E (by rw[TC];omega)];simp[Ob.LZ,List.getElem_take]
    rw[ta E (by rw[TC];omega),ta E (by rw[TC];omega)];cases hq:σ.ob i with
    |none=>rfl
    |some o=>have:=(M i o hq).1;omega
   unfold St.Rf;show St.mk (λt=>V.pubV (j+1000) VC ls[j] (σ.sl t)) _ _=St.mk σ.sl _ _;rw[I]
   congr 1
   exact funext J
  rw[e]at U;exact U
 have L:∀j,j<=ls.length->(ovl σ A TA T (chM ls j) (ls.take j)).le (ovl σ A TA T (chM ls 0) (ls.take 0)):=by
  intro j;induction j with
  |zero=>exact λ_ C n a w h=>h
  |succ j ih=>exact λh=>(G j h).trans (ih Xj)
 have:=L ls.length (AT _);have I:chM ls ls.length=chV ls:=by unfold chM chP;rw[VM,List.drop_length];simp
 have J:chM ls 0=chP ls:=by unfold chM;rw[WI,List.drop_zero];rfl
 rwa [I,J,VM,WI]at this
def rnF(up nw i:Nat):Nat:=bif Nat.beq i (up+1000)then nw else i
theorem eB{up nw:Nat}(h:i≠up+1000):rnF up nw i=i:=by unfold rnF;rw[IW h];rfl
theorem AH(up nw:Nat):rnF up nw (up+1000)=nw:=by unfold rnF;rw[beqT O];rfl
theorem St.gZ{σ:St}{l:List (Nat×V)}{os:List (Nat×Ob)}(up nw:Nat)(U:rY σ (rnF up nw) l)(X:gU σ (rnF up nw) os)
  (Y:σ.ob A=UF (.mix TA (V.renL (rnF up nw) (chV ls)))) (Z:∀j (h:j<ls.length),σ.ob (rnF up nw (j+1000))=UF (.gro T ls[j])) (h1:l.all (λp=>p.2.okA k)=VA) (J:os.all (λp=>Nat.blt p.1 k&&p.2.okA k)=VA)
  (hk:k<=nw) (hn:nw<1000) (H:A<k) (hup:up<=1000) (hm:ls.length<=1000):σ.le (ovl (mkS l os k) A TA T (chV ls) ls):=by
 have L:big=9000:=rfl;have I:∀i,(Nat.blt i k||Nat.ble big i)=VA->i<k\/big<=i:=λi h=>by simp_all
 refine St.SM (λi=>decide (i<k)||decide (big<=i)||(decide (1000<=i)&&decide (i<1000+ls.length))) (rnF up nw) ?_ ?_ ?_ ?_ ?_ ?_
 .exact nV U
 .intro t;exact V.all_mono (λi hi=>by rcases I i hi with h|h<;>simp[h]) _ (V.oC _ _ (look_ok h1 t))
 .intro i o h;by_cases e:i=A
  .subst e;rw[x9]at h;cases h;refine⟨by rw[eB Xj];exact Y,by simp[H],?_⟩;show V.allL _ (chV ls)=VA;have:∀(vs:List V),(∀v∈vs,V.all (λi=>decide (i<k)||decide (big<=i)||(decide (1000<=i)&&decide (i<1000+ls.length))) v=VA)->V.allL (λi=>decide (i<k)||decide (big<=i)||(decide (1000<=i)&&decide (i<1000+ls.length))) vs=VA:=by
    intro vs;induction vs with
    |nil=>intro _;rfl
    |cons v vs ih=>intro h;simp only[V.allL,du];exact⟨h v Xn,ih λw hw=>h w (by simp[hw])⟩
   refine this _ λv hv=>?_
   unfold chV at hv;obtain⟨q,hq,rfl⟩:=TG.1 hv;have:=(List.mem_zipIdx hq).2.1;simp only[V.all];rw[TD (show 1000<=q.2+1000 by omega),TD (show q.2+1000<1000+ls.length by omega)];simp
  by_cases h1000:i<1000
  .rw[nJ e h1000]at h;have s:=cm h;have E:=OF.1 J _ s;simp only[du]at E;refine⟨iP X i o s,by simp[M6 E.1],?_⟩;have M:=Ob.oC k E.2;cases o with
   |mix t vs=>exact V.allL_mono (λi hi=>by rcases I i hi with h|h<;>simp[h]) vs M
   |cells _ _=>rfl
   |gro _ _=>rfl
   |mp _ _=>rfl
   |it _ _=>rfl
   |fro _ _=>rfl
   |mi _ _ _=>rfl
  by_cases h2000:i<1000+ls.length
  .obtain⟨j,rfl⟩:∃j,i=j+1000:=⟨i-1000,Xj⟩;have G:j<ls.length:=Xj;rw[dx Xj G]at h;cases h;refine⟨Z j G,?_,O⟩;rw[TD (show 1000<=j+1000 by omega),TD (show j+1000<1000+ls.length by omega)];simp
  rw[ta Xj Xj]at h;have s:=cm h;have E:=OF.1 J _ s;simp only[du]at E;have:=M6 E.1;omega
 .intro i j hi G e;simp only[Ub,du,Tz]at hi G;by_cases e1:i=up+1000
  .grind[AH,eB]
  grind[AH,eB]
 .intro i hi;simp only[Ub,du,Tz]at hi;show(avK k i&&Nat.blt i 1000)=VC;rcases hi with(h|h)|h
  .have:Nat.ble k i=VC:=by
    cases hb:Nat.ble k i with
    |false=>rfl
    |true=>have:=TV hb;omega
   unfold avK;rw[this];rfl
  .rw[eA h];rfl
  have:Nat.blt i 1000=VC:=by
   cases hb:Nat.blt i 1000 with
   |false=>rfl
   |true=>have:=M6 hb;omega
  rw[this,Bool.and_false]
 .intro i hi;refine⟨?_,eB Xj⟩;show(avK k i&&Nat.blt i 1000)=VC;rw[eA hi];rfl
theorem rb{up:Nat}(E:up<ls.length)(nw:Nat)(x:PV):V.renL (rnF up nw) (chV (ls.set up (ls[up]++[x])))=(chV ls).set (up*1) (.gsl nw 1 (ls[up].length+1)):=by
 have s:∀vs:List V,V.renL (rnF up nw) vs=vs.map (V.ren (rnF up nw)):=by
  intro vs;induction vs with
  |nil=>rfl
  |cons v vs ih=>rw[V.renL,ih,cu]
 rw[s];apply UL
 .simp[chV]
 .intro i h1 h2;simp only[chV,TB,List.length_zipIdx,TQ]at h1;simp only[chV,UP,List.getElem_zipIdx,List.getElem_set,TZ,T8,V.ren];by_cases e:up=i
  .subst e;simp[AH]
  grind[eB]
def St.mixC(σ:St)(id:Nat)(T:TypeId)(cs:List PV):St:=⟨σ.sl,obL [(id,UF (.cells T cs))] σ.ob,σ.av⟩
theorem St.I3{σ:St}{vs:List V}(E:σ.ob id=UF (.mix T vs))(hc:vs=cs.map .pv):σ.le (σ.mixC id T cs):=by
 subst hc;refine St.uT λs=>⟨s.sl,λp hp=>?_⟩
 obtain rfl:=TF.1 hp;refine⟨_,_,E,O,O,λb N _ ⟨arr,q1,q2,q3,q4⟩=>?_⟩;rw[TB]at q3 q4;exact⟨arr,q1,q2,q3,RelL.toP q4⟩
def St.obC(σ:St)(id:Nat)(o:Ob):St:=⟨σ.sl,obL [(id,UF o)] σ.ob,σ.av⟩
theorem St.Oi{σ:St}{o o':Ob}(G:σ.ob id=UF o)(s:o'.real=o.real)(h:∀w m av R b N,lQ w m av R b N o->lQ w m av R b N o'):σ.le (σ.obC id o'):=
 St.uT λE=>⟨E.sl,λp hp=>by
  obtain rfl:=TF.1 hp;exact⟨_,_,G,O,s,λb N _=>h _ _ _ _ b N⟩⟩
theorem St.yb{σ:St}(id:Nat)(s:σ.ob id=UF (.cells T cs)):σ.le (σ.obC id (.mix T (cs.map .pv))):=by
 refine St.Oi s O λw m av R b N h=>?_
 obtain⟨arr,q1,q2,q3,q4⟩:=h;exact⟨arr,q1,q2,by rw[TB];exact q3,by rw[TB];exact RelL.ofP q4⟩
def V.fgV:V->V
 | .pv (.sl _ n cs)=> .pv (.sl UG n cs)
 |v=>v
theorem Rel.fgV{av:Av}:∀{v:V}{u:Value},Rel w m av R v u->Rel w m av R v.fgV u:=by
 intro v u h;cases v with
 | pv p=>
   cases p with
   | sl nl n cs=>
     simp only[V.fgV,Rel,RelP]at h ⊢;obtain⟨A,c,e,h1,h2,_,_,h5⟩:=h;exact⟨A,c,e,h1,h2,λ_ h=>(by cases h),λh=>(by cases h),h5⟩
   |_=>exact h
 |_=>exact h
theorem RelL.fgV{av:Av}:∀{vs:List V}{us:List Value},RelL w m av R vs us->RelL w m av R (vs.map V.fgV) us
 |[],_,h=>h
 | v::vs,us,h=>by
   simp only[RelL]at h;obtain⟨u,us',rfl,h1,h2⟩:=h;simp only[cu,RelL];exact⟨u,us',O,h1.fgV,RelL.fgV h2⟩
theorem St.Nt{σ:St}{vs:List V}(id:Nat)(s:σ.ob id=UF (.mix T vs)):σ.le (σ.obC id (.mix T (vs.map V.fgV))):=by
 refine St.Oi s O λw m av R b N h=>?_
 obtain⟨arr,q1,q2,q3,q4⟩:=h;exact⟨arr,q1,q2,by rw[TB];exact q3,by rw[TB];exact RelL.fgV q4⟩
theorem jc{up:Nat}(nw:Nat)(h:ls.length<=up):V.renL (rnF up nw) (chV ls)=chV ls:=by
 have s:∀vs:List V,V.renL (rnF up nw) vs=vs.map (V.ren (rnF up nw)):=by
  intro vs;induction vs with
  |nil=>rfl
  |cons v vs ih=>rw[V.renL,ih,cu]
 rw[s];have:∀v∈chV ls,V.ren (rnF up nw) v=v:=λv hv=>by
  unfold chV at hv;obtain⟨q,hq,rfl⟩:=TG.1 hv;have:=(List.mem_zipIdx hq).2.1;simp only[V.ren];rw[eB Xj]
 rw[Ud this];exact List.map_id' _
theorem Fo(s:k<=1000)(E:1000<=i)(G:i<2000):avK k i=VA:=by
 unfold avK;rw[V3 (show k<=i by omega),bltT (show i<big from by show i<9000;omega)];rfl
end


section
open Go.RowKit Go.MapKept
open Go.ChangeMaps (setBlock)
structure KeyOk(P:Program)(kt:TypeId)(kp:PV->Prop):Prop where
 und:∃d,P.underlying kt=UF d/\∀us y,Instr.sameNow d (.agg us) y=UG
 check:∀{w:World}{R:Nat->Prop}{k:PV}{u:Value}(e:Bool),kp k->RelP w R k u->(Instr.checkKey e 10000 kt u).run P w= .ok () w
 ask:∀{w:World}{R:Nat->Prop}{k x:PV}{u y:Value}{b:Bool},kp k->RelP w R k u->RelP w R x y->keq k x=UF b->(Op.equal kt u y).run P w= .ok b w
 agg:∀{k:PV},kp k->∃cs,k= .agg cs
section
variable {P:Program}{kt:TypeId}{kp:PV->Prop}{w:World}{R:Nat->Prop}
theorem KeyOk.NT(K:KeyOk P kt kp){k:PV}(s:kp k)(E:RelP w R k u):∀{ks:List PV}{es:List MapEntry}{i:Nat}{r:Option Nat},RelPL w R ks (es.map (·.key))->cJ k ks i=UF r->
  match r with
  |none=>(Instr.findAsking kt u es i).run P w= .ok UG w
  |some j=>∃q e,j=i+q/\es[q]? =UF e/\(Instr.findAsking kt u es i).run P w= .ok (UF (j,e.val)) w
 |[],[],i,r,_,h=>by simp only[cJ,TJ]at h;subst h;simp[Instr.findAsking]
 |[],_::_,_,_,h,_=>by simp[RelPL]at h
 |x::ks,[],_,_,h,_=>by simp[RelPL]at h
 | x::ks,e::es,i,r,h,hf=>by
   simp only[cu,RelPL,U8]at h;obtain⟨y,ys,⟨rfl,rfl⟩,h1,h2⟩:=h;simp only[cJ]at hf;split at hf
   .rename_i hb;cases hf;exact⟨0,e,O,O,by simp[Instr.findAsking,K.ask s E h1 hb,Result.andThen]⟩
   .rename_i hb;have ih:=K.NT s E h2 hf;cases r with
    |none=>simpa[Instr.findAsking,K.ask s E h1 hb,Result.andThen]using ih
    | some j=>
      obtain⟨q,e',hj,he,hfn⟩:=ih;exact⟨q+1,e',Xj,by simpa using he,by simpa[Instr.findAsking,K.ask s E h1 hb,Result.andThen]using hfn⟩
   cases hf
theorem KeyOk.find(K:KeyOk P kt kp){k:PV}(J:kp k)(E:RelP w R k u)(h:RelPL w R ks (es.map (·.key)))(G:cJ k ks 0=UF r):
  match r with
  |none=>(Instr.findKey kt u es).run P w= .ok UG w
  |some j=>∃e,es[j]? =UF e/\(Instr.findKey kt u es).run P w= .ok (UF (j,e.val)) w:=by
 obtain⟨d,hd,hs⟩:=K.und;obtain⟨cs,rfl⟩:=K.agg J;have s:=E;simp only[RelP]at E;obtain⟨us,rfl,_⟩:=E;have H:=K.NT (i:=0) J s h G;cases es with
 | nil=>
   cases ks with
   |nil=>simp only[cJ,TJ]at G;subst G;simp[Instr.findKey,run_underlying hd,Result.andThen,Instr.findNow]
   |cons _ _=>simp[RelPL]at h
 | cons e es=>
   have I:Instr.findNow d (.agg us.toArray) (e::es) 0=UG:=by simp[Instr.findNow,hs]
   cases r with
   |none=>simpa[Instr.findKey,run_underlying hd,Result.andThen,I]using H
   | some j=>
     obtain⟨q,e',hj,he,hfn⟩:=H;have:j=q:=Xj;subst this;exact⟨e',he,by simpa[Instr.findKey,run_underlying hd,Result.andThen,I]using hfn⟩
end
section
variable {C:Ctx}{n:Nat}{σ:St}{a:Act}{w:World}{m:Gm}{R:Nat->Prop}{x y z:Operand}{dst:Option Tmp}{ty t kt et tk:TypeId}{pos:String}{after:Array Edge}{gd:Option (Nat×Bool)}{ks vs:List PV}{kp:PV->Prop}
theorem xx(X:SW C n σ a w m R)(K:KeyOk C.P kt kp){key:PV}{r:Option PV}(L:C.P.underlying t=UF (.map kt et))(J:kp key)(Y:me n σ x ks vs)(Z:σ.ev n y= .pv key)(M:(C.P.info? et).map (·.zero)=UF (UF zv))(U:ofC zv=zp)(V:jJ key ks vs=UF r)(ok:Bool):
  ∃u,RelP w R (r.getD zp) u/\(Instr.lookup t (a.eval x) (a.eval y) ok).run C.P w= .ok (if ok then .tuple #[u,.bool r.isSome]else u) w:=by
 have s:=X.pv Z;have H:(zeroValue et).run C.P w= .ok zv w:=by
  cases hq:C.P.info? et with
  |none=>simp[hq]at M
  |some i=>simp[hq]at M;simp[zeroValue,typeInfo,hq,M]
 have E:RelP w R zp zv:=U▸zD w R zv;have G:=λe=>K.check (w:=w) (R:=R) e J s
 rcases Y.at X with⟨b,es,clock,ps,qs,e,hb,q2,q3,_,hsw⟩|⟨e,rfl,rfl⟩
 .obtain⟨f,I,hr⟩:=sJ V;obtain⟨f',hf',hr'⟩:=hsw I hr;cases f' with
  | none=>
    simp only[rD,TJ]at hr';subst hr';have:=K.find J s q2 hf';simp only at this;refine⟨zv,E,?_⟩;simp[Instr.lookup,e,run_underlying L,run_map hb,G,this,H,Result.andThen]
  | some j=>
    obtain⟨e',he,hfn⟩:=K.find J s q2 hf';simp only[rD]at hr';cases hv:qs[j]? with
    |none=>rw[hv]at hr';cases hr'
    | some p=>
      rw[hv]at hr';simp at hr';subst hr';refine⟨e'.val,RelPL.at q3 hv (by simp[he]),?_⟩;simp[Instr.lookup,e,run_underlying L,run_map hb,G,hfn,Result.andThen]
 simp only[jJ,cJ,TJ]at V;subst V;refine⟨zv,E,?_⟩;have I:=K.find (es:=[]) (r:=UG) J s (ks:=[]) (by simp[RelPL]) (by simp only[cJ]);simp only at I;simp[Instr.lookup,e,run_underlying L,G,I,H,Result.andThen]
theorem dW{key:PV}{r:Option PV}(K:KeyOk C.P kt kp)(E:C.P.underlying t=UF (.map kt et))(G:me n σ x ks vs)(H:σ.ev n y= .pv key)(I:kp key)(J:(C.P.info? et).map (·.zero)=UF (UF zv))(s:ofC zv=zp)(L:jJ key ks vs=UF r)(M:r.getD zp=p)(U:r.isSome=b):
  XJ C n ⟨dst,.lookup t x y VA,ty,pos,after,gd⟩ σ ⟨.pv (.tup [p,.bool b]),[],[]⟩:=
 .val λa w m R hw=>by
  obtain⟨u,hr,hrun⟩:=xx hw K E I G H J s L VA;subst M U;refine⟨_,by simp only[execOp,Sem.run_bind,hrun,Result.andThen_ok];rfl,?_⟩;simp only[Rel,RelP];exact⟨[u,.bool r.isSome],O,RelPL.cons hr (RelPL.cons (by simp only[RelP]) RelPL.nil)⟩
theorem qh{key:PV}{r:Option PV}(K:KeyOk C.P kt kp)(E:C.P.underlying t=UF (.map kt et))(G:me n σ x ks vs)(H:σ.ev n y= .pv key)(I:kp key)(J:(C.P.info? et).map (·.zero)=UF (UF zv))(s:ofC zv=zp)(L:jJ key ks vs=UF r)(M:r.getD zp=p):
  XJ C n ⟨dst,.lookup t x y VC,ty,pos,after,gd⟩ σ ⟨.pv p,[],[]⟩:=
 .val λa w m R hw=>by
  obtain⟨u,hr,hrun⟩:=xx hw K E I G H J s L VC;subst M;exact⟨u,by simp only[execOp,Sem.run_bind,hrun,Result.andThen_ok];rfl,by simpa only[Rel]using hr⟩
theorem bl{key:PV}{ks' vs':List PV}(K:KeyOk C.P kt kp)(ht:C.P.underlying t=UF (.map kt et))(X:σ.ev n x= .map id)(ho:σ.ob id=UF (.mp ks vs))(hy:σ.ev n y= .pv key)(hz:σ.ev n z= .pv v)(hd:kp key)(V:cJ key ks 0=UF r)
  (ad:oU key ks=ks') (af:nF key v ks vs=vs'):XJ C n ⟨UG,.mapUpdate t x y z,ty,pos,after,gd⟩ σ ⟨.pv .any,[(id,UF (.mp ks' vs'))],[]⟩:=by
 rintro a w Q ⟨m,R,hw⟩;obtain⟨b,N,hm,es,clock,hb,q2,q3,q4⟩:=hw.live ho;have J:=hw.ev x;rw[X]at J;simp only[Rel]at J;have X:=J.2 b N hm;have s:=hw.pv hy;have I:=hw.pv hz;have Y:=λe=>K.check (w:=w) (R:=R) e hd s
 have ag:b<w.heap.size:=(TH.1 hb).1;have Z:∀(es':Array MapEntry)(clock':Nat),(Instr.mapUpdate t (a.eval x) (a.eval y) (a.eval z)).run C.P w= .ok () { w with heap:=w.heap.setIfInBounds b (.map es' clock') }->
   RelPL w R ks' (es'.toList.map (·.key))->RelPL w R vs' (es'.toList.map (·.val))->dH es'.toList clock'->Oper.wp C.P ⟨UG,.mapUpdate t x y z,ty,pos,after,gd⟩ a w (λa' w'=>∃σ',σ'=σ.app UG ⟨.pv .any,[(id,UF (.mp ks' vs'))],[]⟩/\SJ C n σ' a' w') Q:=by
  intro es' clock' hrun h1 h2 h3;unfold Oper.wp;have L:(execOp a.eval ⟨UG,.mapUpdate t x y z,ty,pos,after,gd⟩).run C.P w= .ok .skip { w with heap:=w.heap.setIfInBounds b (.map es' clock') }:=by
   simp only[execOp,Sem.run_bind,hrun,Result.andThen_ok,Sem.run_pure]
  rw[L];refine⟨_,O,m,R,hw.turn hm { w with heap:=w.heap.setIfInBounds b (.map es' clock') } Xn (λk hk=>by simp only;rw[U9 (λe=>hk e.symm)]) O O O (.mp ks' vs') λhR=>?_⟩;exact⟨es',clock',by simp only;rw[VH];simp[ag],h1.mono hR,h2.mono hR,h3⟩
 cases r with
 | none=>
   have H:=K.find hd s q2 V;simp only at H;refine Z (es.push ⟨a.eval y,a.eval z,clock⟩) (clock+1) ?_ ?_ ?_ ?_
   .simp[Instr.mapUpdate,X,run_underlying ht,run_map hb,Y,H,fM _ hb,Result.andThen]
   .rw[<-ad];simp only[oU,V,WQ,Uc,cu,Un];exact q2.append (RelPL.cons s RelPL.nil)
   .rw[<-af];simp only[nF,V,WQ,Uc,cu,Un];exact q3.append (RelPL.cons I RelPL.nil)
   simp only[dH,WQ,Uc,cu,Un];refine⟨Wj.2 ⟨q4.1,Xn,λx X y hy e=>?_⟩,λe he=>?_⟩
   .obtain⟨e',he',rfl⟩:=TG.1 X;have:=q4.2 e' he';simp at hy;omega
   rcases Uf.1 he with h|h
   .exact Nat.lt_succ_of_lt (q4.2 e h)
   grind
 | some j=>
   obtain⟨e',he,H⟩:=K.find hd s q2 V;obtain⟨q',x',hj',hx',hkq⟩:=pd V;simp only[T8]at hj';subst hj';have aa:=RelPL.at q2 hx' (by simp[he]:(es.toList.map (·.key))[j]? =UF e'.key);have M:=BI hkq s aa;have U:j<es.size:=(TE.1 he).1 |> λh=>by simpa using h
   have ab:es[j]? =UF e':=by simpa using he
   have ac:es[j]=e':=by have:=Array.getElem?_eq_getElem U;rw[ab]at this;exact(VJ this).symm
   have E:(es.modify j λe=>{ e with key:=a.eval y,val:=a.eval z }).toList=es.toList.set j ⟨a.eval y,a.eval z,e'.born⟩:=by
    apply Ww;intro i;rw[WO,WN,WT];by_cases e:j=i
    .subst e;simp[U,ac]
    simp[e]
   refine Z (es.modify j λe=>{ e with key:=a.eval y,val:=a.eval z }) clock ?_ ?_ ?_ ?_
   .simp[Instr.mapUpdate,X,run_underlying ht,run_map hb,Y,H,fM _ hb,Result.andThen,Instr.keyThatStays,ab,M.2]
   .rw[E,<-ad];simp only[oU,V,US];exact q2.set j s
   .rw[E,<-af];simp only[nF,V,US];exact q3.set j I
   rw[E];have G:(es.toList.set j ⟨a.eval y,a.eval z,e'.born⟩).map (·.born)=es.toList.map (·.born):=by
    rw[US];apply Ww;intro i;rw[WT];by_cases e:j=i
    .subst e;simp[U,ac]
    simp[e]
   refine⟨by rw[G];exact q4.1,λe hm=>?_⟩;have:e.born∈es.toList.map (·.born):=by rw[<-G];exact TG.2 ⟨e,hm,O⟩
   obtain⟨e2,h2,h3⟩:=TG.1 this;rw[<-h3];exact q4.2 e2 h2
def rP(k:PV)(ks l:List PV):List PV:=match cJ k ks 0 with
 |some (UF j)=>l.eraseIdx j
 |_=>l
theorem RelPL.eraseIdx:∀{ps:List PV}{us:List Value}(j:Nat),RelPL w R ps us->RelPL w R (ps.eraseIdx j) (us.eraseIdx j)
 |[],_,_,h=>by simp only[RelPL]at h;subst h;simp[RelPL]
 |p::ps,_,0,h=>by simp only[RelPL]at h;obtain⟨u,vs,rfl,_,h2⟩:=h;simpa using h2
 | p::ps,_,j+1,h=>by
   simp only[RelPL]at h;obtain⟨u,vs,rfl,h1,h2⟩:=h;simpa using RelPL.cons h1 (RelPL.eraseIdx j h2)
theorem kr{key:PV}{ks' vs':List PV}(K:KeyOk C.P kt kp)(ht:C.P.underlying t=UF (.map kt et))(M:σ.ev n x= .map id)(ho:σ.ob id=UF (.mp ks vs))(hy:σ.ev n y= .pv key)(X:kp key)(U:cJ key ks 0=UF r)
  (Y:rP key ks ks=ks') (Z:rP key ks vs=vs'):XJ C n ⟨dst,.call { callee:= .builtin .delete,args:= #[x,y],argTypes:= #[t,tk] },ty,pos,after,gd⟩ σ ⟨.pv (.tup []),[(id,UF (.mp ks' vs'))],[]⟩:=by
 rintro a w Q ⟨m,R,hw⟩;obtain⟨b,N,hm,es,clock,hb,q2,q3,q4⟩:=hw.live ho;have G:=hw.ev x;rw[M]at G;simp only[Rel]at G;have M:=G.2 b N hm;have s:=hw.pv hy;have J:=λe=>K.check (w:=w) (R:=R) e X s
 have V:b<w.heap.size:=(TH.1 hb).1;have L:∀es':Array MapEntry,(Builtin.delete_ #[t,tk] ty #[a.eval x,a.eval y]).run C.P w= .ok (.tuple #[]) { w with heap:=w.heap.setIfInBounds b (.map es' clock) }->
   RelPL w R ks' (es'.toList.map (·.key))->RelPL w R vs' (es'.toList.map (·.val))->dH es'.toList clock->Oper.wp C.P ⟨dst,.call { callee:= .builtin .delete,args:= #[x,y],argTypes:= #[t,tk] },ty,pos,after,gd⟩ a w (λa' w'=>∃σ',σ'=σ.app dst ⟨.pv (.tup []),[(id,UF (.mp ks' vs'))],[]⟩/\SJ C n σ' a' w') Q:=by
  intro es' hrun h1 h2 h3;unfold Oper.wp;have H:(execOp a.eval ⟨dst,.call { callee:= .builtin .delete,args:= #[x,y],argTypes:= #[t,tk] },ty,pos,after,gd⟩).run C.P w= .ok (.value (.tuple #[])) { w with heap:=w.heap.setIfInBounds b (.map es' clock) }:=by
   simp only[execOp,resolve,invoke,builtin,Sem.run_bind,Sem.run_pure,Result.andThen_ok,Wr,cu,Un,hrun]
  rw[H];refine⟨_,O,m,R,?_⟩;rw[Ts];refine SW.put (hw.turn hm { w with heap:=w.heap.setIfInBounds b (.map es' clock) } Xn (λk hk=>by simp only;rw[U9 (λe=>hk e.symm)]) O O O (.mp ks' vs') λhR=>?_) dst ?_
  .exact⟨es',clock,by simp only;rw[VH];simp[V],h1.mono hR,h2.mono hR,h3⟩
  simp only[Rel,RelP];exact⟨[],O,RelPL.nil⟩
 cases r with
 | none=>
   have E:=K.find X s q2 U;simp only at E;refine L es ?_ ?_ ?_ q4
   .simp[Builtin.delete_,M,run_underlying ht,run_map hb,J,E,fM _ hb,Result.andThen]
   .grind[rP]
   grind[rP]
 | some j=>
   obtain⟨e',he,E⟩:=K.find X s q2 U;have hjl:j<es.size:=(TE.1 he).1 |> λh=>by simpa using h
   have I:(es.eraseIdxIfInBounds j).toList=es.toList.eraseIdx j:=by simp_all
   refine L (es.eraseIdxIfInBounds j) ?_ ?_ ?_ ?_
   .simp[Builtin.delete_,M,run_underlying ht,run_map hb,J,E,fM _ hb,Result.andThen]
   .rw[<-Y,I,Go.ChangeMaps.map_eraseIdx];simp only[rP,U];exact q2.eraseIdx j
   .rw[<-Z,I,Go.ChangeMaps.map_eraseIdx];simp only[rP,U];exact q3.eraseIdx j
   rw[I];exact⟨((List.eraseIdx_sublist _ _).map _).nodup q4.1,λe hm=>q4.2 e ((List.eraseIdx_sublist _ _).subset hm)⟩
def c8(cur ks vs:List PV)(b:Bool)(rest cur' ks' vs':List PV):Prop:=
 (b=VC/\ks=[]/\rest=[]/\cur'=cur/\ks'=ks/\vs'=vs)\/
 (b=VA/\∃i k v,ks[i]? =UF k/\vs[i]? =UF v/\rest=[k,v]/\cur'=[k,v]/\ks'=ks.eraseIdx i/\vs'=vs.eraseIdx i)
theorem c8.of{α:Type}{f g:α->PV}{l:List α}{cur' ks' vs':List PV}(h:c8 cur (l.map f) (l.map g) b rest cur' ks' vs'):
  (b=VC/\l=[]/\rest=[]/\cur'=cur/\ks'=l.map f/\vs'=l.map g)\/(b=VA/\∃l1 x l2,l=l1++x::l2/\rest=[f x,g x]/\cur'=[f x,g x]/\ks'=(l1++l2).map f/\vs'=(l1++l2).map g):=by
 rcases h with⟨h1,h2,h3,h4,h5,h6⟩|⟨h1,i,k,v,h2,h3,h4,h5,h6,h7⟩
 .simp_all
 refine .inr ⟨h1,?_⟩;rw[VO]at h2 h3;cases hx:l[i]? with
 |none=>rw[hx]at h2;cases h2
 | some x=>
   rw[hx]at h2 h3;simp only[Vu,TJ]at h2 h3;subst h2 h3;obtain⟨hi,rfl⟩:=TE.1 hx;have s:l.eraseIdx i=l.take i++l.drop (i+1):=List.eraseIdx_eq_take_drop_succ l i;exact⟨l.take i,l[i],l.drop (i+1),by rw[<-TN hi,Ug],h4,h5,by rw[h6,<-Go.ChangeMaps.map_eraseIdx,s],by rw[h7,<-Go.ChangeMaps.map_eraseIdx,s]⟩
theorem cc(id:Nat)(I:C.P.underlying t=UF (.map kt et))(J:σ.ev n x= .pv (.mp ks vs))(H:σ.av id=VA):XJ C n ⟨dst,.range t x,ty,pos,after,gd⟩ σ ⟨.ptr id 0,[(id,UF (.mi [] ks vs))],[id]⟩:=by
 rintro a w Q ⟨m,R,hw⟩;have E:=hw.pv J;simp only[RelP]at E;obtain⟨mb,E,hRm,es,clock,l,hb,q2,q3,q4,q5⟩:=E;unfold Oper.wp;have s:(execOp a.eval ⟨dst,.range t x,ty,pos,after,gd⟩).run C.P w= .ok (.value (.pointer (UF ⟨w.heap.size,0,UG⟩))) (w.alloc (.mapIter (UF mb) clock #[] clock)):=by
  simp only[execOp,E,Sem.run_bind,run_range_map w t kt et mb es clock I hb,Result.andThen_ok];rfl
 rw[s];refine⟨_,O,upd m id (UF (w.heap.size,0)),R,?_⟩;rw[Ts];refine SW.put (hw.Ny H (.mapIter (UF mb) clock #[] clock) 0 (.mi [] ks vs) ?_) dst ?_
 .intro w' m' av' hR hb';have G:(es.toList.filter λe=> !(#[]:Array Nat).contains e.born)=es.toList:=List.filter_eq_self.2 λe _=>by simp
  exact⟨mb,es,clock, #[],l,hRm,(hR _ hRm).2.trans hb,q4,hb',by rw[G];exact q5,q2.mono hR,q3.mono hR,.inl O⟩
 simp only[Rel];refine⟨by simp[avL],λb N e=>?_⟩;rw[aC]at e;cases e;rfl
theorem k7{e:MapEntry}:∀{l:List MapEntry}{i:Nat},(l.map (·.born)).Nodup->l[i]? =UF e->l.filter (λx=> !(x.born==e.born))=l.eraseIdx i
 |[],_,_,h=>by simp at h
 |x::l,0,hn,h=>by simp_all
 | x::l,i+1,hn,h=>by
   simp only[List.getElem?_cons_succ]at h;simp only[cu,Vh,TG,not_exists,not_and]at hn;have hne:x.born≠e.born:=λs=>hn.1 e (U5 h) s.symm
   simp only[Wp,List.eraseIdx_cons_succ];rw[By (by simpa using hne),k7 hn.2 h]
theorem cO{ks vs:List PV}{K:St->Prop}(hx:σ.ev n x= .ptr id 0)(ho:σ.ob id=UF (.mi cur ks vs))
  (U:∀b rest cur' ks' vs',c8 cur ks vs b rest cur' ks' vs'->K (σ.app dst ⟨.pv (.tup (.bool b::rest)),[(id,UF (.mi cur' ks' vs'))],[]⟩)):
  OJ C n ⟨dst,.next x VC,ty,pos,after,gd⟩ K σ:=by
 rintro a w Q ⟨m,R,hw⟩;obtain⟨r,N,hm,mb,es,clock,seen,l,hRm,hb,hst,hr,q0,q5,q6,q7⟩:=hw.live ho;have G:=hw.ev x;rw[hx]at G;simp only[Rel]at G;have I:=G.2 r N hm;have V:(leftOf es seen).toList=es.toList.filter λe=> !seen.contains e.born:=by unfold leftOf;simp
 unfold Oper.wp;rcases Go.run_next_at (P:=C.P) w ty r mb clock clock seen es clock hr hb hst.2 (AT _)with⟨h0,hrun⟩|⟨e,he,w1,hal,hrun⟩
 .have hrun':(execOp a.eval ⟨dst,.next x VC,ty,pos,after,gd⟩).run C.P w= .ok (.value (.tuple #[.bool VC])) w:=by
   simp only[execOp,I,Sem.run_bind,hrun,Result.andThen_ok];rfl
  rw[hrun'];have X:(es.toList.filter λe=> !seen.contains e.born)=[]:=by grind
  have Y:l=[]:=by rw[X]at q0;exact List.Perm.eq_nil q0
  have Z:ks=[]:=by
   rw[Y]at q5;have:=q5.length;simp only[Un,VI]at this;exact Wv.1 this.symm
  refine⟨_,U VC [] cur ks vs (.inl ⟨O,Z,O,O,O,O⟩),m,R,?_⟩;rw[Ts];refine SW.put (hw.turn hm w O (λ_ _=>rfl) O O O (.mi cur ks vs) λE=>?_) dst ?_
  .exact⟨mb,es,clock,seen,l,hRm,hb,hst,hr,q0,q5,q6,q7⟩
  grind[Rel,RelP,bool,RelPL]
 have hrun':(execOp a.eval ⟨dst,.next x VC,ty,pos,after,gd⟩).run C.P w= .ok (.value (.tuple #[.bool VA,e.key,e.val])) (setBlock w1 r (.mapIter (UF mb) clock (seen.push e.born) clock)):=by
  simp only[execOp,I,Sem.run_bind,hrun,Result.andThen_ok];rfl
 rw[hrun'];rw[V]at he;have aa:e∈l:=q0.mem_iff.2 he;obtain⟨i,hi⟩:=UX aa;have ab:e∈es.toList:=(UW.1 he).1;have J:=q5.length;have H:=q6.length;simp only[TB]at J H;have ak:i<l.length:=(TE.1 hi).1;obtain⟨k,hkk⟩:∃k,ks[i]? =UF k:=⟨ks[i]'Xj,IS _⟩;obtain⟨v,hvv⟩:∃v,vs[i]? =UF v:=⟨vs[i]'Xj,IS _⟩;have L:=RelPL.at q5 hkk (by rw[VO,hi];rfl);have M:=RelPL.at q6 hvv (by rw[VO,hi];rfl);have ac:((es.toList.filter λe=> !seen.contains e.born).map (·.born)).Nodup:=(UT.map _).nodup hst.1;have ad:(l.map (·.born)).Nodup:=(q0.map _).nodup_iff.2 ac;have af:(l.eraseIdx i).Perm (es.toList.filter λx=> !(seen.push e.born).contains x.born):=by
  have s:(es.toList.filter λx=> !(seen.push e.born).contains x.born)=(es.toList.filter λe=> !seen.contains e.born).filter (λx=> !(x.born==e.born)):=by grind[List.filter_filter,List.filter_congr]
  rw[s,<-k7 ad hi];exact q0.filter _
 have ag:r<w.heap.size:=(TH.1 hr).1;have al:r≠mb:=λe=>by rw[e,hb]at hr;cases hr
 refine⟨_,U VA [k,v] [k,v] (ks.eraseIdx i) (vs.eraseIdx i) (.inr ⟨O,i,k,v,hkk,hvv,O,O,O,O⟩),m,R,?_⟩;rw[Ts];have s:w1.heap=w.heap/\w1.os=w.os/\w1.tape=w.tape/\w1.output=w.output:=by rcases hal with rfl|rfl<;>exact⟨O,O,O,O⟩
 refine SW.put (hw.turn hm (setBlock w1 r (.mapIter (UF mb) clock (seen.push e.born) clock)) (by simp[setBlock,s.1]) (λk U=>by simp only[setBlock,s.1];rw[U9 (λe=>U e.symm)]) s.2.1 s.2.2.1 s.2.2.2 (.mi [k,v] (ks.eraseIdx i) (vs.eraseIdx i)) λE=>?_) dst ?_
 .refine⟨mb,es,clock,seen.push e.born,l.eraseIdx i,hRm,(E _ hRm).2.trans hb,hst,?_,af,?_,?_,.inr ⟨e,ab,Xn,?_⟩⟩
  .show(w1.heap.setIfInBounds r _)[r]? =_;rw[s.1,VH];simp[ag]
  .rw[Go.ChangeMaps.map_eraseIdx];exact(q5.eraseIdx i).mono E
  .rw[Go.ChangeMaps.map_eraseIdx];exact(q6.eraseIdx i).mono E
  exact RelPL.cons (L.mono E) (RelPL.cons (M.mono E) RelPL.nil)
 have E:∀b,R b->R b/\(setBlock w1 r (.mapIter (UF mb) clock (seen.push e.born) clock)).heap[b]? =w.heap[b]? :=λb hb'=>⟨hb',by
  have ah:b≠r:=λe=>(hw.hr.own id r N hm).2.1 (e▸hb')
  simp only[setBlock,s.1];rw[U9 (λe=>ah e.symm)]⟩
 simp only[Rel,RelP];exact⟨[.bool VA,e.key,e.val],O,RelPL.cons (by simp only[RelP]) (RelPL.cons (L.mono E) (RelPL.cons (M.mono E) RelPL.nil))⟩
theorem cr{k:PV}(I:σ.ev n x= .ptr id 0)(J:σ.ob id=UF (.mi [k,v] ks vs)):
  XJ C n ⟨dst,.entry x,ty,pos,after,gd⟩ σ ⟨.pv (.tup [k,v]),[],[]⟩:=
 .val λa w m R hw=>by
  obtain⟨r,N,hm,mb,es,clock,seen,l,hRm,hb,hst,hr,q0,q5,q6,q7⟩:=hw.live J;have s:=hw.ev x;rw[I]at s;simp only[Rel]at s;have G:=s.2 r N hm;obtain⟨e,hem,hback,hrel⟩:=q7.resolve_left Xn;have H:es.find? (·.born==e.born)=UF e:=by rw[<-Array.find?_toList];exact find_born e es.toList hst.1 hem
  have E:(Instr.entry (.pointer (UF ⟨r,0,UG⟩))).run C.P w= .ok (.tuple #[e.key,e.val]) w:=by
   simp only[Instr.entry,getObj,Sem.run_bind,Sem.run,hr,hb,Result.andThen,hback,bne_self_eq_false,UO,WZ,H];rfl
  simp only[RelPL]at hrel;obtain⟨u1,us1,e1,h1,u2,us2,e2,h2,e3⟩:=hrel;subst e2 e3;simp only[U8,and_true]at e1;obtain⟨rfl,rfl⟩:=e1;refine⟨.tuple #[e.key,e.val],by simp only[execOp,G,Sem.run_bind,E,Result.andThen_ok];rfl,?_⟩;simp only[Rel,RelP];exact⟨[e.key,e.val],O,RelPL.cons h1 (RelPL.cons h2 RelPL.nil)⟩
end
mutual
def V.mpV(id:Nat)(p:PV):V->V
 | .map i=>bif Nat.beq i id then .pv p else .map i
 | .agg vs=> .agg (V.mpL id p vs)
 | .tup vs=> .tup (V.mpL id p vs)
 | .fn f a b=> .fn f (V.mpL id p a) (V.mpL id p b)
 | .pv q=> .pv q
 | .ptr i o=> .ptr i o
 | .osl i s k=> .osl i s k
 | .tsl i s k=> .tsl i s k
 | .gsl i s k=> .gsl i s k
def V.mpL(id:Nat)(p:PV):List V->List V
 |[]=>[]
 |v::vs=>V.mpV id p v::V.mpL id p vs
end
def Ob.mpO(id:Nat)(p:PV):Ob->Ob
 | .mix t vs=> .mix t (V.mpL id p vs)
 | .cells t c=> .cells t c
 | .gro t c=> .gro t c
 | .mp ks vs=> .mp ks vs
 | .it s q=> .it s q
 | .fro s q=> .fro s q
 | .mi c ks vs=> .mi c ks vs
theorem Ob.Nc(id:Nat)(p:PV):∀o:Ob,(o.mpO id p).real=o.real
 | .cells _ _=>rfl
 | .mix _ _=>rfl
 | .gro _ []=>rfl
 | .gro _ (_::_)=>rfl
 | .mp _ _=>rfl
 | .it _ _=>rfl
 | .fro _ _=>rfl
 | .mi _ _ _=>rfl
theorem LX(id:Nat)(p:PV):∀o:Option Ob,cL (o.map (Ob.mpO id p))=cL o
 |none=>rfl
 |some o=>Ob.Nc id p o
def St.pubM(σ:St)(id:Nat)(p:PV):St:=⟨λt=>V.mpV id p (σ.sl t),λi=>bif Nat.beq i id then UG else(σ.ob i).map (Ob.mpO id p),σ.av⟩
section
variable {w:World}{m m':Gm}{av:Av}{R R':Nat->Prop}
theorem oI(id:Nat)(p:PV):∀vs:List V,(V.mpL id p vs).length=vs.length
 |[]=>rfl
 |_::vs=>by simp[V.mpL,oI id p vs]
mutual
theorem Rel.mpV(E:∀b,R b->R' b/\w.heap[b]? =w.heap[b]?)(G:∀i x,m' i=UF x->m i=UF x)(H:∀u,Rel w m av R (.map id) u->RelP w R' p u):
  ∀(v:V)(u:Value),Rel w m av R v u->Rel w m' av R' (V.mpV id p v) u
 | .map i,u,h=>by
   simp only[V.mpV];cases hb:Nat.beq i id with
   |true=>have:=cd hb;subst this;simp only[U3,Rel];exact H u h
   |false=>simp only[Ue];exact h.mono E (λi x _ e=>G i x e) (λ_ e=>e)
 | .agg vs,u,h=>by
   simp only[Rel,V.mpV]at h ⊢;obtain⟨us,e,h⟩:=h;exact⟨us,e,RelL.mpL E G H vs us h⟩
 | .tup vs,u,h=>by
   simp only[Rel,V.mpV]at h ⊢;obtain⟨us,e,h⟩:=h;exact⟨us,e,RelL.mpL E G H vs us h⟩
 | .fn f a b,u,h=>by
   simp only[Rel,V.mpV]at h ⊢;obtain⟨us,vs,e,ha,hb⟩:=h;exact⟨us,vs,e,RelL.mpL E G H a us ha,RelL.mpL E G H b vs hb⟩
 | .pv q,u,h=>by simp only[V.mpV];exact h.mono E (λi x _ e=>G i x e) (λ_ e=>e)
 | .ptr i o,u,h=>by simp only[V.mpV];exact h.mono E (λi x _ e=>G i x e) (λ_ e=>e)
 | .osl i s k,u,h=>by simp only[V.mpV];exact h.mono E (λi x _ e=>G i x e) (λ_ e=>e)
 | .tsl i s k,u,h=>by simp only[V.mpV];exact h.mono E (λi x _ e=>G i x e) (λ_ e=>e)
 | .gsl i s k,u,h=>by simp only[V.mpV];exact h.mono E (λi x _ e=>G i x e) (λ_ e=>e)
theorem RelL.mpL(s:∀b,R b->R' b/\w.heap[b]? =w.heap[b]?)(E:∀i x,m' i=UF x->m i=UF x)(G:∀u,Rel w m av R (.map id) u->RelP w R' p u):
  ∀(vs:List V)(us:List Value),RelL w m av R vs us->RelL w m' av R' (V.mpL id p vs) us
 |[],_,h=>by simpa only[RelL,V.mpL]using h
 | c::vs,_,h=>by
   simp only[RelL,V.mpL]at h ⊢;obtain⟨u,us,e,ha,hb⟩:=h;exact⟨u,us,e,Rel.mpV s E G c u ha,RelL.mpL s E G vs us hb⟩
end
end
theorem y3{vs:List PV}(L:ks.length=vs.length)(s:RelPL w R ps (es.map (·.key)))(E:RelPL w R qs (es.map (·.val)))(M:(ps.zip qs).Perm (ks.zip vs)):∃l:List MapEntry,l.Perm es/\RelPL w R ks (l.map (·.key))/\RelPL w R vs (l.map (·.val)):=by
 generalize hA:ps.zip qs=A at M;generalize hB:ks.zip vs=B at M;have G:ps=A.map (·.1):=by rw[<-hA,WY];have:=s.length;have:=E.length;simp at *; omega
 have H:qs=A.map (·.2):=by rw[<-hA,List.map_snd_zip];have:=s.length;have:=E.length;simp at *; omega
 have I:ks=B.map (·.1):=by rw[<-hB,WY (UM L)]
 have J:vs=B.map (·.2):=by rw[<-hB,List.map_snd_zip (UM L.symm)]
 rw[I,J];rw[G]at s;rw[H]at E;clear hA hB G H I J L;induction M generalizing es with
 |nil=>exact⟨es,T3 _,s,E⟩
 | cons a _ ih=>
   cases es with
   |nil=>simp[RelPL]at s
   | cons e es=>
     simp only[cu,RelPL,U8]at s E;obtain⟨_,_,⟨rfl,rfl⟩,a1,a2⟩:=s;obtain⟨_,_,⟨rfl,rfl⟩,b1,b2⟩:=E;obtain⟨l,c1,c2,c3⟩:=ih b2 a2;exact⟨e::l,List.Perm.cons _ c1,RelPL.cons a1 c2,RelPL.cons b1 c3⟩
 | swap a b A=>
   cases es with
   |nil=>simp[RelPL]at s
   | cons e es=>
     cases es with
     | nil=>
       simp only[cu,Un,RelPL,U8]at s;obtain⟨_,_,⟨_,rfl⟩,_,_,_,h,_⟩:=s;cases h
     | cons e' es=>
       simp only[cu,RelPL,U8]at s E;obtain⟨_,_,⟨rfl,rfl⟩,a1,_,_,⟨rfl,rfl⟩,a2,a3⟩:=s;obtain⟨_,_,⟨rfl,rfl⟩,b1,_,_,⟨rfl,rfl⟩,b2,b3⟩:=E;exact⟨e'::e::es,List.Perm.swap _ _ _,RelPL.cons a2 (RelPL.cons a1 a3),RelPL.cons b2 (RelPL.cons b1 b3)⟩
 | trans _ _ ih1 ih2=>
   obtain⟨l1,c1,c2,c3⟩:=ih1 E s;obtain⟨l2,d1,d2,d3⟩:=ih2 c3 c2;exact⟨l2,d1.trans c1,d2,d3⟩
theorem St.cB{σ:St}{vs:List PV}(id:Nat)(X:σ.ob id=UF (.mp ps qs))(Y:ks.length=vs.length)(Z:(ps.zip qs).Perm (ks.zip vs)):σ.le (σ.pubM id (.mp ks vs)):=by
 rintro C n a w ⟨m,R,hw⟩;have M:=hw.drop id;have E:∀i x,upd m id UG i=UF x->m i=UF x/\i≠id:=λi x e=>by grind[aC,a8]
 let R':Nat->Prop:=λq=>R q\/∃N,m id=UF (q,N)
 have G:∀b,R b->R' b/\w.heap[b]? =w.heap[b]? :=λb hb=>⟨.inl hb,O⟩
 obtain⟨b0,N0,hm0,es,clock,q1,q2,q3,q4⟩:=hw.live X;have V:∀u,Rel w m σ.av R (.map id) u->RelP w R' (.mp ks vs) u:=by
  intro u h;simp only[Rel]at h;have:=h.2 b0 N0 hm0;simp only[RelP];obtain⟨l,c1,c2,c3⟩:=y3 Y q2 q3 Z;exact⟨b0,this,.inr ⟨N0,hm0⟩,es,clock,l,q1,c2.mono G,c3.mono G,q4,c1⟩
 have H:∀i x,upd m id UG i=UF x->m i=UF x:=λi x e=>(E i x e).1
 have U:∀i,(σ.pubM id (.mp ks vs)).ob i=bif Nat.beq i id then UG else(σ.ob i).map (Ob.mpO id (.mp ks vs)):=λ_=>rfl
 have L:(σ.pubM id (.mp ks vs)).ob id=UG:=by rw[U];simp
 have I:∀i,i≠id->(σ.pubM id (.mp ks vs)).ob i=(σ.ob i).map (Ob.mpO id (.mp ks vs)):=λi hi=>by grind[Nat.beq,cd]
 refine⟨upd m id UG,R',⟨?_,?_,?_,M.hr.inj,?_,?_,?_,λq hq=> .inl (hw.hr.r0 q hq),hw.hr.frame,M.hr.j4,M.hr.res⟩,hw.df,hw.sz,?_⟩
 .intro i;by_cases e:i=id
  .subst e;rw[aC,L];rfl
  rw[a8 _ _ e,I i e,LX];exact hw.hr.dom i
 .intro i hi;by_cases e:i=id
  .subst e;exact L
  rw[I i e,hw.hr.free i hi];rfl
 .intro i o' b N h1 h2;obtain⟨h2',e⟩:=E i _ h2;rw[I i e]at h1;cases ho':σ.ob i with
  |none=>rw[ho']at h1;cases h1
  | some o2=>
    rw[ho']at h1;simp only[Vu,TJ]at h1;subst h1;have J:=hw.hr.obj i o2 b N ho' h2';cases o2 with
    |cells T c=>obtain⟨arr,q1,q2,q3,q4⟩:=J;exact⟨arr,q1,q2,q3,q4.mono G⟩
    |gro T c=>obtain⟨arr,q1,q2,q3,q4⟩:=J;exact⟨arr,q1,q2,q3,q4.mono G⟩
    |mp ks vs=>obtain⟨es,clock,q1,q2,q3,q4⟩:=J;exact⟨es,clock,q1,q2.mono G,q3.mono G,q4⟩
    |it s p=>exact J
    |fro s p=>exact J
    |mi c ks vs=>exact wx.mono G O J
    | mix T c=>
      obtain⟨arr,q1,q2,q3,q4⟩:=J;refine⟨arr,q1,q2,by rw[oI];exact q3,?_⟩;rw[oI];exact q4.mpL G H V
 .intro i b N h1;obtain⟨h2,h3,h4⟩:=hw.hr.own i b N (E i _ h1).1;refine⟨h2,?_,h4⟩;rintro(h5|⟨N',h5⟩)
  .exact h3 h5
  exact(E i _ h1).2 (hw.hr.inj i id b N N' (E i _ h1).1 h5)
 .rintro q (hq|⟨N,hq⟩)
  .exact hw.hr.rsz q hq
  exact(hw.hr.own id q N hq).1
 .rintro q (hq|⟨N,hq⟩)
  .exact hw.hr.rfr q hq
  rcases(hw.hr.own id q N hq).2.2 with h|h
  .exact .inr (.inr h)
  exact .inr (.inl h)
 .intro t ht;exact(hw.sl t ht).mpV G H V
end
section
open Go.RowKit Mm
abbrev aW(p:Par):PV:= .agg (rG p)
abbrev ppC(x:PP):List PV:=[.int .i64 x.1.f,.str x.1.c,.int .i64 x.2.f,.str x.2.c]
abbrev ppP(x:PP):PV:= .agg (ppC x)
theorem iI(s t:ByteArray):(s==t)=(s.toList==t.toList):=by grind[iW,bytes_inj,kJ]
theorem bX(p q:Par):keq (aW p) (aW q)=UF (p==q):=by
 show UF ((p.f==q.f)&&((p.c==q.c)&&VA))=UF (p.f==q.f&&p.c.toList==q.c.toList);rw[iI,Wh]
theorem cS(x y:PP):keq (ppP x) (ppP y)=UF (x==y):=by
 show UF ((x.1.f==y.1.f)&&((x.1.c==y.1.c)&&((x.2.f==y.2.f)&&((x.2.c==y.2.c)&&VA))))=UF ((x.1.f==y.1.f&&x.1.c.toList==y.1.c.toList)&&(x.2.f==y.2.f&&x.2.c.toList==y.2.c.toList));rw[iI,iI,Wh,Bool.and_assoc]
theorem nH{i:Int}{r l:List PV}(h:∃b,bH (.int .i64 i:: .str c::r) l=UF b):∃i' c' l',l= .int .i64 i':: .str c'::l'/\∃b,bH r l'=UF b:=by
 obtain⟨b,h⟩:=h;rcases l with _|⟨a,l⟩
 .simp[bH]at h
 cases a<;>simp only[bH,reduceCtorEq]at h;rename_i k v;cases hk:kEq IntKind.i64 k with
 |false=>rw[hk]at h;cases h
 | true=>
   have:=fC hk;subst this;rw[hk]at h;rcases l with _|⟨d,l⟩
   .simp[bH]at h
   cases d<;>simp only[bH,Option.map_none,reduceCtorEq,U3]at h;rename_i s;cases hr:bH r l with
   |none=>rw[hr]at h;simp at h
   |some b'=>exact⟨v,s,l,O,b',hr⟩
theorem xd{l:List PV}(h:bH [] l=UF b):l=[]:=by
 cases l with
 |nil=>rfl
 |cons a l=>cases a<;>simp[bH]at h
theorem IX{p:Par}{x:PV}(h:keq (aW p) x=UF b):∃q:Par,x=aW q:=by
 cases x<;>simp only[keq,reduceCtorEq]at h;obtain⟨i1,c1,l1,rfl,b1,h1⟩:=nH ⟨b,h⟩;rw[xd h1];exact⟨⟨i1,c1⟩,O⟩
theorem Cv{p:PP}{x:PV}(h:keq (ppP p) x=UF b):∃q:PP,x=ppP q:=by
 cases x<;>simp only[keq,reduceCtorEq]at h;obtain⟨i1,c1,l1,rfl,h1⟩:=nH ⟨b,h⟩;obtain⟨i2,c2,l2,rfl,b2,h2⟩:=nH h1;rw[xd h2];exact⟨(⟨i1,c1⟩,⟨i2,c2⟩),O⟩
theorem s0{x:PP}(h:RelP w R (ppP x) u):u= .agg #[.int .i64 x.1.f,.string x.1.c,.int .i64 x.2.f,.string x.2.c]:=by
 simpa[RelP,RelPL]using h
theorem eqPP(k:Nat)(a b a' b':Int)(s t s' t':ByteArray)(w:World):(Op.equalIn (k+3) 198 (.agg #[.int .i64 a,.string s,.int .i64 a',.string s']) (.agg #[.int .i64 b,.string t,.int .i64 b',.string t'])).run prog w= .ok ((a==b&&s.toList==t.toList)&&(a'==b'&&s'.toList==t'.toList)) w:=by
 have hS:prog.underlying 198=UF (.struct (prog.fieldsOf 198)):=Xk;rw[run_equalIn_agg w (k+2) 198 _ _ hS Tryz.stoodInHeld198];have E:=λw=>uG k a b s t w
 have G:=λw=>uG k a' b' s' t' w
 simp only[Program.fieldsOf,underlying198]
 go_simp
 by_cases h1:a=b<;>by_cases E:s.toList=t.toList<;>by_cases h4:a'=b'<;>by_cases h5:s'.toList=t'.toList<;>simp[h1,E,h4,h5]
theorem QT(k:Nat)(e:Bool)(a:Int)(s:ByteArray)(w:World):(Instr.checkKey e (k+2) 146 (.agg #[.int .i64 a,.string s])).run prog w= .ok () w:=by
 have E:=underlying146;have G:=underlying3;have H:=underlying9;have I:∀(v:Value)(w:World),(Instr.checkKey e (k+1) 3 v).run prog w= .ok () w:=λv w=>by unfold Instr.checkKey;simp[run_underlying G,Result.andThen]
 have J:∀(v:Value)(w:World),(Instr.checkKey e (k+1) 9 v).run prog w= .ok () w:=λv w=>by unfold Instr.checkKey;simp[run_underlying H,Result.andThen]
 unfold Instr.checkKey;simp only[Sem.run_bind,run_underlying E,Result.andThen]
 go_simp
theorem ckPP(k:Nat)(e:Bool)(a b:Int)(s t:ByteArray)(w:World):(Instr.checkKey e (k+3) 198 (.agg #[.int .i64 a,.string s,.int .i64 b,.string t])).run prog w= .ok () w:=by
 have E:=underlying198;have G:=λa s w=>QT k e a s w
 unfold Instr.checkKey;simp only[Sem.run_bind,run_underlying E,Result.andThen]
 go_simp
theorem gQ:KeyOk prog 146 (λk=>∃p:Par,k=aW p) where
 und:=⟨_,underlying146,λus y=>by cases y<;>rfl⟩
 check:=by grind[qO,QT]
 ask:=by
  rintro w R k x u y b ⟨p,rfl⟩ h1 h2 h3;obtain⟨q,rfl⟩:=IX h3;rw[bX]at h3;cases h3;rw[qO h1,qO h2];exact uG 9998 p.f q.f p.c q.c w
 agg:=by rintro k ⟨p,rfl⟩;exact⟨_,O⟩
theorem uf:KeyOk prog 198 (λk=>∃x:PP,k=ppP x) where
 und:=⟨_,underlying198,λus y=>by cases y<;>rfl⟩
 check:=by
  rintro w R k u e ⟨p,rfl⟩ h;rw[s0 h];exact ckPP 9997 e _ _ _ _ w
 ask:=by
  rintro w R k x u y b ⟨p,rfl⟩ h1 h2 h3;obtain⟨q,rfl⟩:=Cv h3;rw[cS]at h3;cases h3;rw[s0 h1,s0 h2];exact eqPP 9997 p.1.f q.1.f p.2.f q.2.f p.1.c q.1.c p.2.c q.2.c w
 agg:=by rintro k ⟨p,rfl⟩;exact⟨_,O⟩
section
variable {K:Type}[BEq K][LawfulBEq K]
def aj(f:K->PV)(l:List (K×Rat)):List PV:=l.map λe=>f e.1
def ju(g:Rat->PV)(l:List (K×Rat)):List PV:=l.map λe=>g e.2
abbrev bg(l:List (K×Rat)):List PV:=ju frP l
theorem ga{f:K->PV}(s:∀a b,keq (f a) (f b)=UF (a==b))(k:K):∀(l:List (K×Rat))(i:Nat),cJ (f k) (aj f l) i=UF ((l.findIdx? (λe=>e.1==k)).map (i+ ·))
 |[],i=>rfl
 | e::l,i=>by
   have hs:(k==e.1)=(e.1==k):=by grind
   show(match keq (f k) (f e.1)with|some VA=>UF (UF i)|some VC=>cJ (f k) (aj f l) (i+1)|none=>UG)=_;rw[s,hs,List.findIdx?_cons];cases e.1==k with
   |true=>simp
   | false=>
     simp only[UO,WZ];rw[ga s k l (i+1)];cases l.findIdx? (λe=>e.1==k)with
     |none=>rfl
     |some j=>simp;omega
def nN(l:List (K×Rat))(k:K)(y:Rat):List (K×Rat):=match l.findIdx? (λe=>e.1==k)with
 |some j=>l.set j (k,y)
 |none=>l++[(k,y)]
def y7(l:List (K×Rat))(k:K):List (K×Rat):=match l.findIdx? (λe=>e.1==k)with
 |some j=>l.eraseIdx j
 |none=>l
def rS(l:List (K×Rat))(k:K):Option Rat:=match l.findIdx? (λe=>e.1==k)with
 |some j=>UF (l.getD j (k,0)).2
 |none=>UG
def IP(x:Rat):Option Rat->Rat
 |some o=>x+o
 |none=>x
omit [LawfulBEq K] in
theorem Fv(l:List (K×Rat))(k:K)(x:Rat):note VA l k x=if IP x (rS l k)=0 then y7 l k else nN l k (IP x (rS l k)):=by
 unfold note rS y7 nN;cases l.findIdx? (λe=>e.1==k)<;>simp only[IP,true_and]<;>congr
omit [LawfulBEq K] in
theorem py{l:List (K×Rat)}{k:K}(s:IP x (rS l k)=y)(h:y=0):note VA l k x=y7 l k:=by rw[Fv,s,By h]
omit [LawfulBEq K] in
theorem pC{l:List (K×Rat)}{k:K}(s:IP x (rS l k)=y)(h:¬y=0):note VA l k x=nN l k y:=by rw[Fv,s,sh h]
theorem pj{l:List (K×Rat)}{k:K}(h:rS l k=UF o):∃e∈l,e.2=o:=by
 unfold rS at h;cases hf:l.findIdx? (λe=>e.1==k)with
 |none=>rw[hf]at h;cases h
 | some j=>
   rw[hf]at h;simp only[TJ]at h;obtain⟨l1,o',l2,rfl,rfl,_⟩:=gm hf;refine⟨(k,o'),Xn,?_⟩;rw[<-h];simp[List.getD]
theorem dO{f:K->PV}(s:∀a b,keq (f a) (f b)=UF (a==b))(l:List (K×Rat))(k:K)(y:Rat):oU (f k) (aj f l)=aj f (nN l k y):=by
 unfold oU nN;rw[ga s];cases l.findIdx? (λe=>e.1==k)with
 |none=>simp[aj]
 |some j=>simp[aj,US]
theorem dL{f:K->PV}(s:∀a b,keq (f a) (f b)=UF (a==b))(l:List (K×Rat))(k:K)(y:Rat):nF (f k) (g y) (aj f l) (ju g l)=ju g (nN l k y):=by
 unfold nF nN;rw[ga s];cases l.findIdx? (λe=>e.1==k)with
 |none=>simp[ju]
 |some j=>simp[ju,US]
theorem BP{f:K->PV}(s:∀a b,keq (f a) (f b)=UF (a==b))(l:List (K×Rat))(k:K):rP (f k) (aj f l) (aj f l)=aj f (y7 l k):=by
 unfold rP y7;rw[ga s];cases l.findIdx? (λe=>e.1==k)with
 |none=>rfl
 |some j=>simp[aj,Go.ChangeMaps.map_eraseIdx]
theorem A7{f:K->PV}(s:∀a b,keq (f a) (f b)=UF (a==b))(l:List (K×Rat))(k:K):rP (f k) (aj f l) (bg l)=bg (y7 l k):=by
 unfold rP y7;rw[ga s];cases l.findIdx? (λe=>e.1==k)with
 |none=>rfl
 |some j=>simp[ju,Go.ChangeMaps.map_eraseIdx]
theorem j1{f:K->PV}(s:∀a b,keq (f a) (f b)=UF (a==b))(l:List (K×Rat))(k:K):jJ (f k) (aj f l) (ju g l)=UF ((rS l k).map g):=by
 unfold jJ rS;rw[ga s];cases hfi:l.findIdx? (λe=>e.1==k)with
 |none=>rfl
 | some j=>
   obtain⟨l1,o',l2,rfl,rfl,_⟩:=gm hfi;simp[ju,List.getD]
theorem fh{f:K->PV}(s:∀a b,keq (f a) (f b)=UF (a==b))(l:List (K×Rat))(k:K):∃r,cJ (f k) (aj f l) 0=UF r:=⟨_,ga s k l 0⟩
end
theorem iv:(q.num.sign==0)=decide (q=0):=by
 rw[TY,U6,Tz,Int.sign_eq_zero_iff_zero,Rat.num_eq_zero]
abbrev frZ:PV:= .agg [.bool VC,.sl (UF VA) 0 [],.bool VC,.sl (UF VA) 0 []]
theorem Eh(l:List (Par×Rat))(k:Par)(x:Rat)(hx:FOk x)(hl:∀e∈l,FOk e.2):FnO prog 167 1 0 [.map big,.pv (aW k),.pv (frP x)] [(big,.mp (aj aW l) (bg l))] (λv ob'=>v= .tup []/\ob'=aB [(big,.mp (aj aW (note VA l k x)) (bg (note VA l k x)))]):=by
 refine FnO.of func167 O ntmps167 Xn λ_ _ _ _=>?_
 have H:=j1 (g:=frP) bX l k;obtain⟨r,hr⟩:=fh bX l k;have L:=BP bX l k;have M:=A7 bX l k;cases ho:rS l k with
 | none=>
   rw[ho]at H;simp only[Option.map_none]at H;have U:IP x (rS l k)=x:=by rw[ho];rfl
   have V:(x.num.sign==0)=decide (x=0):=iv;have X:=fR x;have I:=dO bX l k x;have J:=dL (g:=frP) bX l k x;refine Z2 O<|Z2 O<|Rs O (dW (zp:=frZ) (r:=UG) (b:=VC) gQ underlying110 (.inl ⟨big,O,O⟩) O ⟨k,O⟩ n9 O H O O)<|Ar 6 O<|Z1 O<|Gc O (λE=>absurd E Xn) (λE=>?_);refine Ti<|Z1 O<|Rs O (aa call140 X O)<|A1 O<|Gc O (λs=>?_) (λs=>?_)
   .have h0:x=0:=by rw[V]at s;simpa using s
    have G:=py U h0;exact Z2 O<|RL.step (d:=UG) O O (kr gQ underlying110 O O O ⟨k,O⟩ hr L M)<|Gt O<|⟨[],[(big,.mp (aj aW (y7 l k)) (bg (y7 l k)))],[],Tk trivial (aO O) O O,O,O,O,O,by rw[G]⟩
   have h0:¬x=0:=by rw[V]at s;simpa using s
   have G:=pC U h0;exact Ti<|Z3 O<|RL.step (d:=UG) O O (bl gQ underlying110 O O O O ⟨k,O⟩ hr I J)<|⟨[],[(big,.mp (aj aW (nN l k x)) (bg (nN l k x)))],[],Tk trivial (aO O) O O,O,O,O,O,by rw[G]⟩
 | some o=>
   rw[ho]at H;simp only[Vu]at H;obtain⟨e,he,hoe⟩:=pj ho;have Y:FOk o:=hoe▸hl e he;have Z:=mY x o hx Y;have U:IP x (rS l k)=x+o:=by rw[ho];rfl
   have V:((x+o).num.sign==0)=decide (x+o=0):=iv;have X:=fR (x+o);have I:=dO bX l k (x+o);have J:=dL (g:=frP) bX l k (x+o);refine Z2 O<|Z2 O<|Rs O (dW (zp:=frZ) (r:=UF (frP o)) (b:=VA) gQ underlying110 (.inl ⟨big,O,O⟩) O ⟨k,O⟩ n9 O H O O)<|Ar 6 O<|Z1 O<|Gc O (λE=>?_) (λE=>absurd E Xn);refine Z2 O<|Rs O (aa call99 Z O)<|A1 O<|Z1 O<|Rs O (aa call140 X O)<|A1 O<|Gc O (λs=>?_) (λs=>?_)
   .have h0:x+o=0:=by rw[V]at s;simpa using s
    have G:=py U h0;exact Z2 O<|RL.step (d:=UG) O O (kr gQ underlying110 O O O ⟨k,O⟩ hr L M)<|Gt O<|⟨[],[(big,.mp (aj aW (y7 l k)) (bg (y7 l k)))],[],Tk trivial (aO O) O O,O,O,O,O,by rw[G]⟩
   have h0:¬x+o=0:=by rw[V]at s;simpa using s
   have G:=pC U h0;exact Ti<|Z3 O<|RL.step (d:=UG) O O (bl gQ underlying110 O O O O ⟨k,O⟩ hr I J)<|⟨[],[(big,.mp (aj aW (nN l k (x+o))) (bg (nN l k (x+o))))],[],Tk trivial (aO O) O O,O,O,O,O,by rw[G]⟩
theorem oz(l:List (PP×Rat))(k:PP)(x:Rat)(hx:FOk x)(hl:∀e∈l,FOk e.2):FnO prog 100 1 0 [.map big,.pv (ppP k),.pv (frP x)] [(big,.mp (aj ppP l) (bg l))] (λv ob'=>v= .tup []/\ob'=aB [(big,.mp (aj ppP (note VA l k x)) (bg (note VA l k x)))]):=by
 refine FnO.of func100 O ntmps100 Xn λ_ _ _ _=>?_
 have H:=j1 (g:=frP) cS l k;obtain⟨r,hr⟩:=fh cS l k;have L:=BP cS l k;have M:=A7 cS l k;cases ho:rS l k with
 | none=>
   rw[ho]at H;simp only[Option.map_none]at H;have U:IP x (rS l k)=x:=by rw[ho];rfl
   have V:(x.num.sign==0)=decide (x=0):=iv;have X:=fR x;have I:=dO cS l k x;have J:=dL (g:=frP) cS l k x;refine Z2 O<|Z2 O<|Rs O (dW (zp:=frZ) (r:=UG) (b:=VC) uf underlying111 (.inl ⟨big,O,O⟩) O ⟨k,O⟩ n9 O H O O)<|Ar 6 O<|Z1 O<|Gc O (λE=>absurd E Xn) (λE=>?_);refine Ti<|Z1 O<|Rs O (aa call140 X O)<|A1 O<|Gc O (λs=>?_) (λs=>?_)
   .have h0:x=0:=by rw[V]at s;simpa using s
    have G:=py U h0;exact Z2 O<|RL.step (d:=UG) O O (kr uf underlying111 O O O ⟨k,O⟩ hr L M)<|Gt O<|⟨[],[(big,.mp (aj ppP (y7 l k)) (bg (y7 l k)))],[],Tk trivial (aO O) O O,O,O,O,O,by rw[G]⟩
   have h0:¬x=0:=by rw[V]at s;simpa using s
   have G:=pC U h0;exact Ti<|Z3 O<|RL.step (d:=UG) O O (bl uf underlying111 O O O O ⟨k,O⟩ hr I J)<|⟨[],[(big,.mp (aj ppP (nN l k x)) (bg (nN l k x)))],[],Tk trivial (aO O) O O,O,O,O,O,by rw[G]⟩
 | some o=>
   rw[ho]at H;simp only[Vu]at H;obtain⟨e,he,hoe⟩:=pj ho;have Y:FOk o:=hoe▸hl e he;have Z:=mY x o hx Y;have U:IP x (rS l k)=x+o:=by rw[ho];rfl
   have V:((x+o).num.sign==0)=decide (x+o=0):=iv;have X:=fR (x+o);have I:=dO cS l k (x+o);have J:=dL (g:=frP) cS l k (x+o);refine Z2 O<|Z2 O<|Rs O (dW (zp:=frZ) (r:=UF (frP o)) (b:=VA) uf underlying111 (.inl ⟨big,O,O⟩) O ⟨k,O⟩ n9 O H O O)<|Ar 6 O<|Z1 O<|Gc O (λE=>?_) (λE=>absurd E Xn);refine Z2 O<|Rs O (aa call99 Z O)<|A1 O<|Z1 O<|Rs O (aa call140 X O)<|A1 O<|Gc O (λs=>?_) (λs=>?_)
   .have h0:x+o=0:=by rw[V]at s;simpa using s
    have G:=py U h0;exact Z2 O<|RL.step (d:=UG) O O (kr uf underlying111 O O O ⟨k,O⟩ hr L M)<|Gt O<|⟨[],[(big,.mp (aj ppP (y7 l k)) (bg (y7 l k)))],[],Tk trivial (aO O) O O,O,O,O,O,by rw[G]⟩
   have h0:¬x+o=0:=by rw[V]at s;simpa using s
   have G:=pC U h0;exact Ti<|Z3 O<|RL.step (d:=UG) O O (bl uf underlying111 O O O O ⟨k,O⟩ hr I J)<|⟨[],[(big,.mp (aj ppP (nN l k (x+o))) (bg (nN l k (x+o))))],[],Tk trivial (aO O) O O,O,O,O,O,by rw[G]⟩
end
section
open Go.RowKit Mm
abbrev zN(c:Rat)(a b:Nat):List V:=[.pv (.bool (decide (c.num<0))),.pv (bY c.num.natAbs),.pv (.bool (decide ((c.den:Int)<0))),.pv (bY (c.den:Int).natAbs),.map a,.map b]
abbrev mcC(m:MC):List PV:=[.bool (decide (m.c.num<0)),bY m.c.num.natAbs,.bool (decide ((m.c.den:Int)<0)),bY (m.c.den:Int).natAbs,.mp (aj aW m.s) (bg m.s),.mp (aj ppP m.p) (bg m.p)]
abbrev mcP(m:MC):PV:= .agg (mcC m)
noncomputable abbrev momP(x:Mm.Sem):PV:=mcP (cn x)
theorem c8.ofE{f:K->PV}{l:List (K×Rat)}{cur' ks' vs':List PV}(h:c8 cur (aj f l) (ju g l) b rest cur' ks' vs'):
  (b=VC/\l=[]/\rest=[]/\cur'=cur/\ks'=aj f l/\vs'=ju g l)\/(b=VA/\∃(l1:List (K×Rat))(e:K×Rat)(l2:List (K×Rat)),l=l1++e::l2/\rest=[f e.1,g e.2]/\cur'=[f e.1,g e.2]/\ks'=aj f (l1++l2)/\vs'=ju g (l1++l2)):=
 c8.of (α:=K×Rat) (f:=λe=>f e.1) (g:=λe=>g e.2) h
def smB:Nat:=10^100
def zI:Nat:=(10^100)^10
theorem Cs(H:dw 36 q)(I:bj B q)(hB:B<=zI):q.den<=36/\(ae q.num.natAbs).length<=200:=by
 have J:=H.N7 Xl;refine⟨Xj,aR.2 ?_⟩;have s:=I.num;have E:B*q.den<=zI*36:=Uy hB Xj;have G:zI*36<1000000000^200:=by decide+kernel
 exact Wq (AS s E) G
theorem eD(s:dw 36 q)(E:bj B q)(hB:B<=zI):FOk q:=
 ⟨by have:=(Cs s E hB).1;omega,AS (Cs s E hB).2 Xl⟩
theorem Mm.dw.yq(h:dw 6 q):dw 36 q:=h.up 6
theorem Mm.dw.int(D:Int)(h:∃z:Int,q=(z:Rat)):dw D q:=by
 obtain⟨z,rfl⟩:=h;exact dw.ofInt D z
theorem Mm.dw.rH{k:Rat}(h:dw D q)(s:∃z:Int,k=(z:Rat)):dw D (q*k):=by
 obtain⟨z,rfl⟩:=s;obtain⟨x,hx⟩:=h;exact⟨x*z,by rw[V5,<-hx];grind⟩
theorem sm1:smB+smB*smB<=zI:=by decide+kernel
theorem sm0:smB<=zI:=by decide+kernel
theorem sm2:smB*smB<=zI:=by decide+kernel
structure IncR(δ:Bool)(c:Rat)(sb:List (Par×Rat))(pb:List (PP×Rat))(w:MC)(k c':Rat)(s':List (Par×Rat))(p':List (PP×Rat)):Prop where
 c:c'=c+w.c*k
 s:LOk δ 6 s'
 p:LOk δ 36 p'
 po:(∀e∈pb,bZ e.1.1 e.1.2<=0)->∀e∈p',bZ e.1.1 e.1.2<=0
 es:∀x,lk s' x=lk sb x+lk w.s x*k
 ep:∀x,lk p' x=lk pb x+lk w.p x*k
structure MSmB(B:Nat)(m:MC):Prop where
 ci:∃z:Int,m.c=(z:Rat)
 s:LOk VA 6 m.s
 p:LOk VA 36 m.p
 po:∀e∈m.p,bZ e.1.1 e.1.2<=0
 cb:bj B m.c
 sb:∀e∈m.s,bj B e.2
 pb:∀e∈m.p,bj B e.2
abbrev MSm(m:MC):Prop:=MSmB smB m
theorem Mm.Inc.po{b w todo acc:List (PP×Rat)}(h:Inc VA 36 b w q todo acc)(E:∀e∈b,bZ e.1.1 e.1.2<=0)(G:∀e∈w,bZ e.1.1 e.1.2<=0):∀e∈acc,bZ e.1.1 e.1.2<=0:=by
 intro e he;obtain⟨d,h1,h2⟩:=h.ex;have s:=fB h.ok.nd he;rw[h2]at s;rcases fU b e.1 with⟨l1,o,l2,rfl,_⟩|hk
 .exact E (e.1,o) Xn
 rcases fU d e.1 with⟨l1,o,l2,rfl,_⟩|hk2
 .exact G (e.1,o) (h1.subset Xn)
 rw[sH hk,sH hk2]at s;exact absurd (show e.2=0 by rw[<-s];grind) (h.ok.nz O e he)
theorem jG(c:Rat)(sb:List (Par×Rat))(pb:List (PP×Rat))(w:MC)(k:Rat)(hB:B+smB*smB<=zI)(X:MSmB B ⟨c,sb,pb⟩)(L:MSm w)(hk:∃z:Int,k=(z:Rat))(M:bj smB k):
  FnO prog 97 3 0 [.ptr big 0,.pv (mcP w),.pv (frP k)] [(big,.mix 113 (zN c 9001 9002)),(9001,.mp (aj aW sb) (bg sb)),(9002,.mp (aj ppP pb) (bg pb))]
   (λv ob'=>∃c' s' p',IncR VA c sb pb w k c' s' p'/\v= .tup []/\ob'=aB [(big,.mix 113 (zN c' 9001 9002)),(9001,.mp (aj aW s') (bg s')),(9002,.mp (aj ppP p') (bg p'))]):=by
 refine FnO.of func97 O ntmps97 Xn λ_ _ _ _=>?_
 have hki:=dw.int 36 hk;have Y:=eD hki M sm0;have hm1:=iR w.c k (eD (dw.int 36 L.ci) L.cb sm0) Y;have ha1:=mY c (w.c*k) (eD (dw.int 36 X.ci) X.cb (AS (Vf _ _) hB)) (eD ((dw.int 36 L.ci).rH hk) (L.cb.mul M) sm2);refine Z2 O<|UB 13 O<|Dr 8 O<|TR O (λτ h=>aa call98 hm1 (h.aD O))<|TR O (λτ h=>aa call99 ha1 (h.aD O))<|Dr 3 O ?_;refine⟨Xk,?_⟩;refine Z2 O<|Rs O (cc 2 underlying110 O O)<|Gz O (st:=λXr:List (Par×Rat)×List (Par×Rat)×List PV=>([(0,UG),(4,UG),(5,UG),(24,UG)],[(big,UG),(0,UG),(1,UG),(2,UF (.mi Xr.2.2 (aj aW Xr.1) (bg Xr.1))),(9001,UF (.mp (aj aW Xr.2.1) (bg Xr.2.1))),(9002,UG)])) 3
  (I:=λXr=>Inc VA 6 sb w.s k Xr.1 Xr.2.1) (μ:=λXr=>Xr.1.length) (x0:=(w.s,sb,[])) (Tk (aS O) (aO Xk) O O) (Inc.start X.s w.s k) ?_
 rintro⟨todo,acc,cur⟩ hI;try simp only at hI ⊢
 refine Gr O<|RL.call O (cO O O ?_);rintro b rest cur2 ks2 vs2 hN;refine Rs O (bz O O)<|Gc O (λG=>?_) (λG=>?_)
 .obtain⟨_,l1,e,l2,rfl,rfl,rfl,rfl,rfl⟩:=(c8.ofE hN).resolve_left (by rintro⟨h,_⟩;rw[h]at G;cases G);have U:=hI.mem (e:=e) Xn;have J:=L.s.it e U;have V:=L.sb e U;have Z:=iR e.2 k (eD J.yq V sm0) Y;have ab:=Eh acc e.1 (e.2*k) (eD (J.rH hk).yq (V.mul M) sm2) (λx hx=>eD (hI.ok.it x hx).yq (hI.abs X.s L.s X.sb L.sb M x hx) hB);refine Ti<|Gr O<|Rs O (cr O O)<|Ar 6 O<|UB 9 O<|Dr 7 O<|TR O (λτ h=>aa call98 Z (h.aD O))<|VE [9001] O (λτ h=>aF [9001] 5 call167 ab (h.args.trans O) O O O ⟨(Eo h 0 O O),Xq⟩ Xl O) ?_;refine⟨Xk,?_⟩;exact⟨(l1++l2,note VA acc e.1 (e.2*k),[aW e.1,frP e.2]),Tk (aS O) (aO Xk) O O,hI.step (J.rH hk),Xn⟩
 obtain⟨_,rfl,_⟩:=(c8.ofE hN).resolve_right (by rintro⟨h,_⟩;rw[h]at G;cases G);have hIe:=hI.end;have hsok:=hI.ok;refine Gx O<|Z2 O<|Rs O (cc 3 underlying111 O O)<|Gz O (st:=λE:List (PP×Rat)×List (PP×Rat)×List PV=>([(0,UG),(5,UG),(41,UG)],[(big,UG),(1,UG),(3,UF (.mi E.2.2 (aj ppP E.1) (bg E.1))),(9001,UG),(9002,UF (.mp (aj ppP E.2.1) (bg E.2.1)))])) 4
  (I:=λE=>Inc VA 36 pb w.p k E.1 E.2.1) (μ:=λE=>E.1.length) (x0:=(w.p,pb,[])) (Tk (aS O) (aO Xk) O O) (Inc.start X.p w.p k) ?_
 rintro⟨todo2,acc2,cur3⟩ hI2;try simp only at hI2 ⊢
 refine Gr O<|RL.call O (cO O O ?_);rintro b2 rest2 cur4 ks4 vs4 hN2;refine Rs O (bz O O)<|Gc O (λH=>?_) (λH=>?_)
 .obtain⟨_,l1,e,l2,rfl,rfl,rfl,rfl,rfl⟩:=(c8.ofE hN2).resolve_left (by rintro⟨h,_⟩;rw[h]at H;cases H);have U:=hI2.mem (e:=e) Xn;have J:=L.p.it e U;have V:=L.pb e U;have Z:=iR e.2 k (eD J V sm0) Y;have ab:=oz acc2 e.1 (e.2*k) (eD (J.rH hk) (V.mul M) sm2) (λx hx=>eD (hI2.ok.it x hx) (hI2.abs X.p L.p X.pb L.pb M x hx) hB);refine Ti<|Gr O<|Rs O (cr O O)<|Ar 6 O<|UB 9 O<|Dr 7 O<|TR O (λτ h=>aa call98 Z (h.aD O))<|VE [9002] O (λτ h=>aF [9002] 6 call100 ab (h.args.trans O) O O O ⟨(Eo h 0 O O),Xq⟩ Xl O) ?_;refine⟨Xk,?_⟩;exact⟨(l1++l2,note VA acc2 e.1 (e.2*k),[ppP e.1,frP e.2]),Tk (aS O) (aO Xk) O O,hI2.step (J.rH hk),Xn⟩
 obtain⟨_,rfl,_⟩:=(c8.ofE hN2).resolve_right (by rintro⟨h,_⟩;rw[h]at H;cases H);exact Gx O<|⟨[],[(big,.mix 113 (zN (c+w.c*k) 9001 9002)),(9001,.mp (aj aW acc) (bg acc)),(9002,.mp (aj ppP acc2) (bg acc2))],[],Tk trivial (aO Xk) O O,O,O,O,_,_,_,⟨O,hsok,hI2.ok,λhb=>hI2.po hb L.po,hIe,hI2.end⟩,O,O⟩
end
section
open Go.RowKit Mm
theorem dN:∀(a b:List (Nat×Ob))(i:Nat)(o:Ob),aB a i=UF o->aB (a++b) i=UF o
 |[],_,_,_,h=>by simp[aB]at h
 | x::a,b,i,o,h=>by
   simp only[aB,Uz]at h ⊢;cases hb:Nat.beq i x.1 with
   |true=>rw[hb]at h;exact h
   |false=>rw[hb]at h;exact dN a b i o h
theorem pubE{f:K->PV}{l m:List (K×Rat)}(h:l.Perm m):((aj f l).zip (ju g l)).Perm ((aj f m).zip (ju g m)):=by
 have e:∀l:List (K×Rat),(aj f l).zip (ju g l)=l.map λe=>(f e.1,g e.2):=λl=>by
  induction l with
  |nil=>rfl
  |cons e l ih=>simp only[aj,ju,cu,List.zip_cons_cons]at *; rw[ih]
 rw[e,e];exact h.map _
theorem Co(f:K->PV)(l:List (K×Rat)):(aj f l).length=(ju g l).length:=by simp[aj,ju]
theorem vu:((0:Int):Rat)=0:=rfl
theorem ji:((1:Int):Rat)=1:=rfl
theorem lI(n:Int)(E: -9223372036854775808<=n)(G:n<=9223372036854775807):FnO prog 40 0 2 [pIi n] [] (λv ob'=>v= .agg (zN (n:Rat) 0 1)/\ob'=aB [(0,.mp [] []),(1,.mp [] [])]):=by
 refine FnO.ofC func40 O ntmps40 Xn λ_ _ _ _=>?_
 have s:=o0 n E G;exact Z1 O<|Z1 O<|Rs O (aa call95 s O)<|Rs O (ea 1 O)<|Rs O (ea 2 O)<|Y2 O<|Gt O<|⟨[(2,.ptr 2 0)],[(0,.mp [] []),(1,.mp [] []),(2,.mix 113 (zN (n:Rat) 0 1))],[.agg (zN (n:Rat) 0 1)],[(0,.mp [] []),(1,.mp [] [])],3,Tl [1,2,0] (aT O) (aP Xk) O O Xl O,O,⟨ax ⟨_,underlying113,O⟩ lh O O O,Xq⟩,O,O,λi o h=>dN [(0,.mp [] []),(1,.mp [] [])] [(2,.mix 113 (zN (n:Rat) 0 1))] i o h,Xl,O,O⟩
abbrev mcW(n:Int):MC:=⟨(n:Rat),[],[]⟩
theorem yS(n:Int)(E: -9223372036854775808<=n)(G:n<=9223372036854775807):FnP prog 40 [.int .i64 n] (· =mcP (mcW n)):=by
 refine FnP.ofC func40 O ntmps40 Xn λ_ _ _ _=>?_
 have s:=o0 n E G;exact Z1 O<|Z1 O<|Rs O (aa call95 s O)<|Rs O (ea 1 O)<|Rs O (ea 2 O)<|Y2 O<|Tj (St.cB (ks:=[]) (vs:=[]) 1 O O (T3 _))<|Tj (St.cB (ks:=[]) (vs:=[]) 2 O O (T3 _))<|VF O ⟨⟨ax ⟨_,underlying113,O⟩ lh O O O,Xq⟩,O⟩
theorem M8:MSm ⟨((0:Int):Rat),[],[]⟩:=⟨⟨0,O⟩,LOk.nil 6,LOk.nil 36,λ_ h=>absurd h Xn,bj.zero _,λ_ h=>absurd h Xn,λ_ h=>absurd h Xn⟩
theorem s8(v:MC)(k:Rat)(H:MSm v)(I:∃z:Int,k=(z:Rat))(G:bj smB k):
  FnO prog 96 0 2 [.pv (mcP v),.pv (frP k)] [] (λr ob'=>∃c' s' p',IncR VA ((0:Int):Rat) [] [] v k c' s' p'/\r= .agg (zN c' 0 1)/\ob'=aB [(0,.mp (aj aW s') (bg s')),(1,.mp (aj ppP p') (bg p'))]):=by
 refine FnO.ofC func96 O ntmps96 Xn λ_ _ _ _=>?_
 have E:=lI 0 Xl Xl;have s:=jG ((0:Int):Rat) [] [] v k sm1 M8 H I G;refine Z3 O<|Gr O<|Rs O (aF [] 3 call40 E O O O O trivial Xl O)<|Y2 O<|Z2 O<|RL.call O (cz [5,3,4] 6 call97 O O O O (by exact⟨Xk,Xk,Xk,Xq⟩) Xl O s ?_);rintro _ _ ⟨c',s',p',hR,rfl,rfl⟩;exact Z2 O<|Gt O<|⟨[(4,.ptr 2 0)],[(0,.mp (aj aW s') (bg s')),(1,.mp (aj ppP p') (bg p')),(2,.mix 113 (zN c' 0 1))],[.agg (zN c' 0 1)],[(0,.mp (aj aW s') (bg s')),(1,.mp (aj ppP p') (bg p'))],3,Tl [3,4,2] (aT O) (aP Xk) O O Xl O,O,⟨ax ⟨_,underlying113,O⟩ lh O O O,Xq⟩,O,O,λi o h=>dN [(0,.mp (aj aW s') (bg s')),(1,.mp (aj ppP p') (bg p'))] [(2,.mix 113 (zN c' 0 1))] i o h,Xl,c',s',p',hR,O,O⟩
structure AddR(v w m:MC):Prop where
 c:m.c=v.c+w.c
 s:LOk VA 6 m.s
 p:LOk VA 36 m.p
 po:∀e∈m.p,bZ e.1.1 e.1.2<=0
 sa:Mm.Asc bZ m.s
 pa:Mm.Asc cI m.p
 es:∀x,lk m.s x=lk v.s x+lk w.s x
 ep:∀x,lk m.p x=lk v.p x+lk w.p x
theorem IncR.msm{v:MC}{k c':Rat}{s':List (Par×Rat)}{p':List (PP×Rat)}(h:IncR VA ((0:Int):Rat) [] [] v k c' s' p')(E:MSm v)(G:k=((1:Int):Rat)):MSm ⟨c',s',p'⟩:=by
 have hc:c'=v.c:=by rw[h.c,G,vu,ji];grind
 have es:∀x,lk s' x=lk v.s x:=λx=>by rw[h.es,G,ji];simp only[lk];grind
 have H:∀x,lk p' x=lk v.p x:=λx=>by rw[h.ep,G,ji];simp only[lk];grind
 refine⟨hc▸E.ci,h.s,h.p,h.po Xn,hc▸E.cb,λe he=>?_,λe he=>?_⟩
 .have h1:=fB h.s.nd he;rw[es]at h1;rw[<-h1];exact gK E.s.nd E.sb _
 have h1:=fB h.p.nd he;rw[H]at h1;rw[<-h1];exact gK E.p.nd E.pb _
theorem IB(v w:MC)(M:MSm v)(U:MSm w):FnP prog 142 [mcP v,mcP w] (λr=>∃m,AddR v w m/\r=mcP m):=by
 refine FnP.ofC func142 O ntmps142 Xn λ_ _ _ _=>?_
 have E:∃z:Int,((1:Int):Rat)=(z:Rat):=⟨1,O⟩;have G:bj smB ((1:Int):Rat):=by
  have:(1:Nat)<=smB:=by decide+kernel
  exact bj.up (B:=1) ⟨by decide+kernel,by decide+kernel⟩ this
 have H:=o0 1 Xl Xl;have J:=s8 v ((1:Int):Rat) M E G;refine Z3 O<|Ge O follows [0,1,3,2,4] Xk<|D1 O<|TR O (λτ h=>aa call95 H (h.aD O))<|D1 O<|DL.rel (RO [] 4 2 (λr ob'=>∃c' s' p',IncR VA ((0:Int):Rat) [] [] v ((1:Int):Rat) c' s' p'/\r= .agg (zN c' 0 1)/\ob'=aB [(0,.mp (aj aW s') (bg s')),(1,.mp (aj ppP p') (bg p'))])) [4,5] [4,5] [] O O O (λτ h=>relO [] 4 call96 J (h.args.trans O) O O O trivial Xl (by show(τ.av 4&&(τ.av 5&&VA))=VA;rw[h.n 0 _ O,h.n 1 _ O];rfl)) O Xk Xk Xk ?_;rintro _ ⟨_,_,⟨c1,s1,p1,hR1,rfl,rfl⟩,rfl⟩ _ _;refine D1 O ?_;refine⟨Xk,?_⟩;have L:=hR1.msm M O;have I:=jG c1 s1 p1 w ((1:Int):Rat) sm1 L U E G;refine UB 3 O<|D1 O<|TR O (λτ h=>aa call95 H (h.aD O))<|DL.rel (RO [3,4,5] 6 0 (λv ob'=>∃c' s' p',IncR VA c1 s1 p1 w ((1:Int):Rat) c' s' p'/\v= .tup []/\ob'=aB [(big,.mix 113 (zN c' 9001 9002)),(9001,.mp (aj aW s') (bg s')),(9002,.mp (aj ppP p') (bg p'))])) [3,4,5] [] [3,4,5] O O O (λτ h=>relO [3,4,5] 6 call97 I (h.args.trans O) O O O ⟨(h.o 0 _ O).trans Xk,(h.o 1 _ O).trans Xk,(h.o 2 _ O).trans Xk,Xq⟩ Xl O) O Xk Xk Xk ?_;rintro _ ⟨_,_,⟨c2,s2,p2,hR2,rfl,rfl⟩,rfl⟩ _ _;refine⟨Xk,?_⟩;exact Z2 O<|Tj (St.cB (ks:=aj aW (srt bZ s2)) (vs:=bg (srt bZ s2)) 4 Xk (Co _ _) (pubE (br bZ s2).symm))<|Tj (St.cB (ks:=aj ppP (srt cI p2)) (vs:=bg (srt cI p2)) 5 Xk (Co _ _) (pubE (br cI p2).symm))<|VF O ⟨⟨ax ⟨_,underlying113,O⟩ lh O O O,Xq⟩,⟨c2,srt bZ s2,srt cI p2⟩,⟨by simp only;rw[hR2.c,hR1.c,vu,ji];grind,hR2.s.srt,hR2.p.srt,λe he=>hR2.po (hR1.po Xn) e ((br _ _).mem_iff.1 he),fx eF hR2.s.nd,fx c6 hR2.p.nd,λx=>by rw[gu (br _ _),hR2.es,hR1.es,ji];simp only[lk];grind,λx=>by rw[gu (br _ _),hR2.ep,hR1.ep,ji];simp only[lk];grind⟩,O⟩
end
end Go.Proofs.YtkkenamefaegfaaGreatDoor
