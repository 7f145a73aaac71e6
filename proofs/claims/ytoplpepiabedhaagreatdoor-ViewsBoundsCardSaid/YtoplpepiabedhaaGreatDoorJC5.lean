/- Lemmas. No condition. -/
import Derived.Shelf.Strings.Builder1
import Derived.Shelf.Strings.Builder2
import Derived.Shelf.Strings.OnBuilder
import Derived.Shelf.Small.Bits
import Derived.Shelf.Small.Wraps
import Derived.Shelf.Strings.BuilderF
import Derived.Shelf.Strings.BuilderK
import Derived.Shelf.Strings.Builder2Cap
import Derived.Shelf.Strconv.Itoa0
import Derived.Shelf.Strconv.Itoa1
import Derived.Shelf.LaysM
import Derived.Shelf.Strconv.Itoa2
import Derived.Shelf.Strconv.Itoa3
import Derived.Shelf.Strconv.Clone
import Derived.Shelf.Strconv.SyntaxError
import Derived.Shelf.LaysC
import Derived.Shelf.Strconv.ToError
import Derived.Shelf.Strconv.Lower
import Derived.Shelf.Strconv.ParseUint10
import Derived.Shelf.Strconv.ParseUint10Empty
import Derived.Shelf.Strconv.ParseUint10Any
import Derived.Shelf.Strconv.RangeError
import Derived.Shelf.Strconv.ToErrorRange
import Derived.Shelf.Strconv.ParseUintEmpty
import Derived.Shelf.Strconv.ParseUint10b64
import Derived.Shelf.Strconv.ParseUint10b32
import Derived.Shelf.Strconv.ParseUint10b16
import Derived.Shelf.Strconv.ParseUint10b8
import Derived.Shelf.Strconv.ParseUint10At
import Derived.Ground.MpProg
import Derived.Shelf.Pu.ParseUintPublic10
import Derived.Shelf.Pu.ErrVarParseUint
import Derived.Shelf.Strings.Search1
import Derived.Shelf.Strings.Search2
import Derived.Shelf.Strings.Cut
import Derived.Shelf.Strings.Shaped
import Derived.Shelf.Sort.Plain
import Derived.Shelf.Strings.Prefix
import Derived.Shelf.Bits.Mul64
import Derived.Shelf.Strings.Repeat
import Derived.Shelf.Strings.BuilderCap
import Derived.Shelf.Slices.Turned
import Derived.Shelf.Slices.Equal
import Derived.Ground.Names2Prog
import Derived.Shelf.Slices.Clone
import Derived.Shelf.Slices.CompactS
import Derived.Shelf.Slices.SearchI
import Derived.Shelf.Slices.Cells
import Derived.Shelf.Slices.In.SortNone
import Derived.Shelf.Slices.Empties2
import Derived.Ground.SlgnProg
import Derived.Shelf.SlicesE.Clone
import Derived.Test.YtoplpepiabedhaaGreatDoorProg
import Derived.Test.YtoplpepiabedhaaGreatDoorJC4
set_option maxRecDepth 100000
set_option maxHeartbeats 4000000
open Go.RowKit Go.Proofs.Tryz
open Option renaming some→Sh,none→Sl
open Bool renaming true→Sm,false→S1
namespace Go.Proofs.YtoplpepiabedhaaGreatDoor
variable{n a k x b i c p y d:Nat}{l r:List Nat}{f g:Nat->Nat}
def val:List Nat->Nat
 |[]=>0
 |a::l=>a+1000000000*val l
def ai(n:Nat):List Nat:=if n=0 then []else n%1000000000::ai (n/1000000000)
termination_by n
decreasing_by omega
def Lok(l:List Nat):Prop:=∀a∈l,a<1000000000
theorem ba:ai 0=[]:=by rw[ai];rfl
theorem cV(h:n≠0):ai n=n%1000000000::ai (n/1000000000):=by
 conv=>lhs;rw[ai]
 rw[dt h]
theorem bo(n:Nat):val (ai n)=n:=by
 induction n using Nat.strongRecOn with
 | ind n ih=>
   by_cases h:n=0
   .subst h;rw[ba];rfl
   .rw[cV h,val,ih _ Vf];omega
theorem cJ(n:Nat):Lok (ai n):=by
 induction n using Nat.strongRecOn with
 | ind n ih=>
   by_cases h:n=0
   .subst h;rw[ba];intro a ha;simp at ha
   .rw[cV h];intro a ha;rcases AS.1 ha with rfl|ha
    .exact Ti _ Vh
    .exact ih _ Vf a ha
theorem Lok.cons(h:Lok (a::l)):a<1000000000/\Lok l:=⟨h a Vj,λb hb=>h b (by simp[hb])⟩
theorem Lok.at(h:Lok l)(i:Nat):l.getD i 0<1000000000:=by
 by_cases hi:i<l.length
 .simp only[List.getD,Hj hi,Ub];exact h _ (au hi)
 .simp[List.getD,SF (Nat.le_of_not_lt hi)]
theorem Lok.take(h:Lok l)(k:Nat):Lok (l.take k):=λa ha=>h a (Uy ha)
theorem Lok.set(h:Lok l)(j:x<1000000000):Lok (l.set k x):=λa ha=>by
 rcases List.mem_or_eq_of_mem_set ha with e|e
 .exact h a e
 .rw[e];exact j
theorem Lok.append(h:Lok l)(j:Lok r):Lok (l++r):=λa ha=>(Rx.1 ha).elim (h a) (j a)
theorem Lok.replicate(k:Nat):Lok (List.replicate k 0):=λa ha=>by rw[List.eq_of_mem_replicate ha];decide
theorem dF(l r:List Nat):val (l++r)=val l+1000000000^l.length*val r:=by
 induction l with
 |nil=>simp[val]
 |cons a l ih=>rw[SN,val,val,ih,Rk,Tc,TM,<-Tj,SX (1000000000^l.length) 1000000000,Nat.add_assoc]
theorem oR(l:List Nat)(k:Nat):val l=val (l.take k)+1000000000^(min k l.length)*val (l.drop k):=by
 conv=>lhs;rw[<-Sb k l]
 rw[dF,Rr]
theorem F4(h:Lok l):val l<1000000000^l.length:=by
 induction l with
 |nil=>simp[val]
 | cons a l ih=>
   have j:=h.cons;have q:=ih j.2;rw[val,Rk,Tc];have:val l+1<=1000000000^l.length:=q;have:=Ss 1000000000 this;rw[SX (1000000000^l.length)];omega
theorem val_zero(h:∀i,l.getD i 0=0):val l=0:=by
 induction l with
 |nil=>rfl
 | cons a l ih=>
   have j:=h 0;simp at j;rw[val,ih (λi=>by simpa using h (i+1)),j]
theorem jI(h:Lok l):∀{n:Nat},n<=l.length->(∀i,n<=i->l.getD i 0=0)->(n=0\/l.getD (n-1) 0≠0)->ai (val l)=l.take n:=by
 induction l with
 |nil=>intro n _ _ _;simp[val,ba]
 | cons a l ih=>
   intro n hn hz hl;cases n with
   | zero=>
     have:val (a::l)=0:=val_zero λi=>hz i (cd _)
     rw[this,ba];rfl
   | succ n=>
     have s:=h.cons;have e:=ih s.2 (n:=n) (by simpa using hn) (λi hi=>by simpa using hz (i+1) Vf) (by
      rcases SY n with e|e
      .exact .inl e
      .right
       rcases hl with hl|hl
       .omega
       .rw[Nat.add_sub_cancel]at hl;obtain⟨m,rfl⟩:∃m,n=m+1:=⟨n-1,Vf⟩;simpa using hl)
     have q:val (a::l)≠0:=by
      intro h0;rw[val]at h0;have u:a=0:=Vf;have z:val l=0:=Vf;rw[z,ba]at e;have j:=ag List.length e;simp at j hn;rcases hl with hl|hl
      .omega
      .have hn0:n=0:=Vf;subst hn0;simp at hl;exact hl u
     rw[cV q,val,UK];have A:(a+1000000000*val l)%1000000000=a:=Vf;have B:(a+1000000000*val l)/1000000000=val l:=Vf;rw[A,B,e]
theorem Fi(h:n≠0):(ai n).getD ((ai n).length-1) 0≠0:=by
 induction n using Nat.strongRecOn with
 | ind n ih=>
   rw[cV h];by_cases h2:n/1000000000=0
   .rw[h2,ba];simp;omega
   .have:=ih _ Vf h2;have j:0<(ai (n/1000000000)).length:=by rw[cV h2];simp
    obtain⟨m,hm⟩:∃m,(ai (n/1000000000)).length=m+1:=⟨_,(Nat.succ_pred_eq_of_pos j).symm⟩;rw[Rk,hm];rw[hm]at this;simpa using this
theorem dj:(ai n).length=0↔n=0:=by
 constructor
 .intro h;have:=bo n;rw[RU h]at this;exact this.symm
 .rintro rfl;rw[ba];rfl
theorem kL(n:Nat):n<1000000000^(ai n).length:=by
 have:=F4 (cJ n);rwa [bo]at this
theorem yY(h:n≠0):1000000000^((ai n).length-1)<=n:=by
 have q:(ai n).length≠0:=λe=>h (dj.1 e)
 have s:=Fi h;have e:=oR (ai n) ((ai n).length-1);rw[bo,SG Vf]at e;have j:(ai n).drop ((ai n).length-1)=[(ai n).getD ((ai n).length-1) 0]:=by
  rw[RF Vf,Tv Vf];simp[List.getD,show(ai n).length-1<(ai n).length by omega]
 rw[j]at e;simp only[val,Nat.mul_zero,Uv]at e;have:1000000000^((ai n).length-1)*1<=1000000000^((ai n).length-1)*(ai n).getD ((ai n).length-1) 0:=Ss _ Vf;omega
theorem bj:(ai n).length<=k↔n<1000000000^k:=by
 constructor
 .intro h;exact RA (kL n) (S6 Vh h)
 .intro h;by_cases h0:n=0
  .subst h0;rw[ba];simp
  .apply Nat.le_of_not_lt;intro hk;have j:=yY h0;have q:1000000000^k<=1000000000^((ai n).length-1):=S6 Vh Vf;omega
theorem fN(h:(ai a).length<(ai b).length):a<b:=by
 by_cases h0:b=0
 .subst h0;rw[ba]at h;simp at h
 .have h1:=yY h0;have j:=kL a;have q:1000000000^(ai a).length<=1000000000^((ai b).length-1):=S6 Vh Vf;omega
theorem uf(h:ai a=ai b):a=b:=by rw[<-bo a,h,bo]
theorem fA(j:n≠0)(h:n<1000000000):ai n=[n]:=by
 rw[cV j,Ut h,Nat.div_eq_of_lt h,ba]
theorem nA(D:Lok l)(s:l.length=r.length)(u:i<l.length)(E:l.drop (i+1)=r.drop (i+1))(h:l.getD i 0<r.getD i 0):val l<val r:=by
 have j:=oR l i;have q:=oR r i;rw[SG Vf]at j q;have z:l.drop i=l.getD i 0::l.drop (i+1):=by rw[RF u];simp[List.getD,u]
 have A:r.drop i=r.getD i 0::r.drop (i+1):=by rw[RF Vf];simp[List.getD,show i<r.length by omega]
 rw[z,val]at j;rw[A,val,<-E]at q;have B:=F4 (D.take i);rw[Rr,SG Vf]at B;generalize val (l.drop (i+1))=t at*;generalize l.getD i 0=x at*;generalize r.getD i 0=y at*;generalize 1000000000^i=p at*;have G:p*(x+1000000000*t)+p<=p*(y+1000000000*t):=by rw[<-Nat.mul_succ];exact Ss _ Vf
 omega
def sm(f:Nat->Nat):Nat->Nat
 |0=>0
 |i+1=>sm f i+1000000000^i*f i
abbrev lim(l:List Nat)(i:Nat):Nat:=l.getD i 0
theorem fW(h:i<l.length):lim l i=l[i]:=by simp[lim,List.getD,h]
theorem zo(h:l.length<=i):lim l i=0:=by simp[lim,List.getD,h]
theorem Jf(h:∀i,i<n->f i=g i):sm f n=sm g n:=by
 induction n with
 |zero=>rfl
 |succ n ih=>rw[sm,sm,ih λi hi=>h i Vf,h n Vf]
theorem Oo(l:List Nat)(j:n<=l.length):sm (lim l) n=val (l.take n):=by
 induction n with
 |zero=>rw[UO];rfl
 | succ n ih=>
   rw[sm,ih Vf,AI Vf,dF,Rr,SG Vf,fW Vf];simp[val]
theorem mF(l:List Nat)(j:l.length<=n):sm (lim l) n=val l:=by
 induction n with
 | zero=>
   rw[RU (by omega:l.length=0)];rfl
 | succ n ih=>
   by_cases h:l.length=n+1
   .rw[Oo l Vf,aQ Vf]
   .rw[sm,ih Vf,zo Vf,Nat.mul_zero,Uv]
theorem pG(j:k<l.length):lim (l.set k x) i=if i=k then x else lim l i:=by
 simp only[lim,List.getD,TU];by_cases h:i=k
 .subst h;simp[j]
 .rw[dt (λe=>h e.symm),dt h]
theorem K5(j:k<l.length)(q:n<=k):sm (lim (l.set k x)) n=sm (lim l) n:=Jf λi hi=>by rw[pG j,dt Vf]
theorem C7(j:k<l.length):val (l.set k x)+1000000000^k*l[k]=val l+1000000000^k*x:=by
 have q:=dF (l.take k) (l[k]::l.drop (k+1));have s:=dF (l.take k) (x::l.drop (k+1));rw[<-RF j,Sb,RF j]at q;rw[show l.take k++x::l.drop (k+1)=l.set k x by rw[Ud,AT j]]at s;rw[q,s,val,val,TM,TM];simp only[Rr,SG (Vc j)];omega
theorem k6(h:Lok l)(i:Nat):lim l i<1000000000:=h.at i
theorem I7{out:List Nat}(j:i<out.length)(h:sm (lim out) i+1000000000^i*c=sm f i+sm g i):
  sm (lim (out.set i ((f i+g i+c)%1000000000))) (i+1)+1000000000^(i+1)*((f i+g i+c)/1000000000)=sm f (i+1)+sm g (i+1):=by
 rw[sm,K5 j (BY _),pG j,AT O,sm,sm,Tc];generalize 1000000000^i=p at*;generalize ht:f i+g i+c=t;have e:p*(t%1000000000)+p*1000000000*(t/1000000000)=p*t:=by
  rw[Tj,<-TM,Nat.mod_add_div]
 have q:p*t=p*f i+p*g i+p*c:=by rw[<-ht,TM,TM]
 omega
theorem KN{out:List Nat}{b':Nat}(j:i<out.length)(h:sm (lim out) i+sm g i=sm f i+1000000000^i*b)(q:x+g i+b=f i+1000000000*b'):
  sm (lim (out.set i x)) (i+1)+sm g (i+1)=sm f (i+1)+1000000000^(i+1)*b':=by
 rw[sm,K5 j (BY _),pG j,AT O,sm,sm,Tc];generalize 1000000000^i=p at*;have e:p*x+p*g i+p*b=p*f i+p*1000000000*b':=by
  rw[Tj,<-TM,<-TM,<-TM,q]
 omega
theorem ME{V B:Nat}(h:V+p*B*c=a+b)(s:a<p)(u:b<p)(hB:2<=B):V=a+b:=by
 rcases SY c with h0|h0
 .subst h0;rw[Nat.mul_zero,Uv]at h;exact h
 .exfalso;have j:p*2<=p*B:=Ss _ hB;have q:p*B*1<=p*B*c:=Ss _ h0;generalize p*B*c=z at*;generalize p*B=y at*;omega
theorem MU{V:Nat}(h:V+b=a+p*c)(s:V<p)(j:b<=a):V=a-b:=by
 rcases SY c with h0|h0
 .subst h0;rw[Nat.mul_zero,Uv]at h;omega
 .exfalso;have q:p*1<=p*c:=Ss _ h0;generalize p*c=z at*;omega
theorem MM{out:List Nat}(j:out.length=n+1)(q:a<1000000000^n)(s:b<1000000000^n)(h:sm (lim out) (n+1)+1000000000^(n+1)*c=a+b):val out=a+b:=by
 rw[mF out (SQ j),Tc]at h;exact ME h q s Vh
theorem Nx{out:List Nat}(q:out.length=n)(s:Lok out)(j:b<=a)(h:sm (lim out) n+b=a+1000000000^n*c):val out=a-b:=by
 rw[mF out (SQ q)]at h;have:=F4 s;rw[q]at this;exact MU h this j
theorem JR{out:List Nat}{V:Nat}{S:Nat}(j:i+k<out.length)(h:val out+1000000000^(i+k)*c=V+1000000000^i*(x*S)):
  val (out.set (i+k) ((lim out (i+k)+x*y+c)%1000000000))+1000000000^(i+k+1)*((lim out (i+k)+x*y+c)/1000000000)=V+1000000000^i*(x*(S+1000000000^k*y)):=by
 have e:=C7 (x:=(lim out (i+k)+x*y+c)%1000000000) j;rw[<-fW j]at e;have q:1000000000^i*(x*(S+1000000000^k*y))=1000000000^i*(x*S)+1000000000^(i+k)*(x*y):=by
  rw[TM x,TM,Nat.pow_add]
  congr 1
  rw[Tj]
  congr 1
  rw[<-Tj,SX x,Tj]
 rw[q,Tc 1000000000 (i+k)];generalize 1000000000^(i+k)=p at*;generalize lim out (i+k)=o at*;generalize ht:o+x*y+c=t at*;have s:p*(t%1000000000)+p*1000000000*(t/1000000000)=p*t:=by
  rw[Tj,<-TM,Nat.mod_add_div]
 have u:p*t=p*o+p*(x*y)+p*c:=by rw[<-ht,TM,TM]
 omega
theorem BX{a q:List Nat}{r:Nat}(j:i<a.length)(A:q.length=a.length)(B:0<d)(h:val (a.drop (i+1))=d*val (q.drop (i+1))+r):
  val (a.drop i)=d*val ((q.set i ((r*1000000000+lim a i)/d)).drop i)+(r*1000000000+lim a i)%d:=by
 have s:a.drop i=lim a i::a.drop (i+1):=by rw[RF j,fW j]
 have z:(q.set i ((r*1000000000+lim a i)/d)).drop i=((r*1000000000+lim a i)/d)::q.drop (i+1):=by
  rw[RF (by rw[SI];omega)]
  congr 1
  .simp
  .rw[List.drop_set,AT Vf]
 rw[s,z,val,val,h];generalize lim a i=x;generalize val (q.drop (i+1))=w;have e:=Nat.div_add_mod (r*1000000000+x) d;generalize (r*1000000000+x)/d=u at*;generalize (r*1000000000+x)%d=v at*;rw[TM,TM,SX d (1000000000*w),Tj,SX w d];omega
theorem CW{r:Nat}(j:0<d)(q:r<d)(s:x<1000000000):(r*1000000000+x)/d<1000000000/\(r*1000000000+x)%d<d:=by
 refine⟨?_,Ti _ j⟩;rw[Nat.div_lt_iff_lt_mul j];have:(r+1)*1000000000<=d*1000000000:=SV _ q;rw[SX 1000000000 d];omega
section
def bW(l:List Nat):List PV:=l.map fun(n:Nat)=>PV.int .u64 (n:Int)
abbrev O9(l:List Nat):PV:= .sl Sl l.length (bW l)
abbrev bF(n:Nat):PV:=O9 (ai n)
theorem dE(l:List Nat):(bW l).length=l.length:=by simp[bW]
theorem KB(h:k<l.length):(bW l)[k*1]? =Sh (.int .u64 (l[k]:Int)):=by simp[bW,h]
theorem cX(h:k<l.length):(bW l)[k*1]? =Sh (.int .u64 (lim l k:Int)):=by rw[KB h,fW h]
theorem fI(h:k<l.length):bW l≠[]:=λe=>by have:=dE l;rw[e]at this;simp at this;omega
theorem qi(l:List Nat)(k:Nat):(bW l).take k=bW (l.take k):=by simp[bW,List.map_take]
theorem ja(l:List Nat)(k x:Nat):(bW l).set k (.int .u64 (x:Int))=bW (l.set k x):=by simp[bW,SH]
theorem qX{a b:Int}(h:(a==b)=Sm):a=b:=by simpa using h
theorem lM{a b:Int}(h:(a==b)=S1):a≠b:=by simpa using h
theorem AB{a b:Int}(h:(a !=b)=Sm):a≠b:=by simpa using h
theorem sJ{a b:Int}(h:(a !=b)=S1):a=b:=by simpa using h
theorem BR(i:Int):FnP prog 366 [.int .i64 i] (· = .int .i64 (if i<0 then-1 else if 0<i then 1 else 0)):=by
 refine FnP.of func366 O ntmps366 Vj λm0 w0 F R0=>?_
 refine Z1 O<|Z3 O<|Gp O (λj=>?_) (λj=>?_)
 .exact Z1 O<|Gt O<|⟨_,_,O,O,ag (PV.int .i64) (by rw[AT Vf])⟩
 .refine Z3 O ?_;refine Gp O (λq=>?_) (λq=>?_)
  .exact Z1 O<|Gt O<|⟨_,_,O,O,ag (PV.int .i64) (by rw[dt Vf,AT Vf])⟩
  .exact Q3<|Z1 O<|Gt O<|⟨_,_,O,O,ag (PV.int .i64) (by rw[dt Vf,dt Vf])⟩
theorem lQ(l:List Nat)(i:Nat)(u:l.length<=1000000000):FnP prog 365 [O9 l,.int .i64 i] (· = .int .u64 (lim l i:Int)):=by
 refine FnP.of func365 O ntmps365 Vj λm0 w0 F R0=>?_
 refine Z1 O<|Z4 O<|Gp O (λj=>?_) (λj=>?_)
 .have hil:i<l.length:=Vf;have s:=cX hil;have q:=fI hil;refine Z3 O ?_;first|refine A2 O Vi ?_|refine A1 O ?_
  exact A1 O<|Gt O<|⟨_,_,O,O,O⟩
 .exact Q3<|Z1 O<|Gt O<|⟨_,_,O,O,ag (PV.int .u64) (by rw[zo Vf];rfl)⟩
theorem CP(l:List Nat)(z:l.length<=1000000000)(s:Lok l):FnP prog 183 [O9 l] (· =bF (val l)):=by
 refine FnP.of func183 O ntmps183 Vj λm0 w0 F R0=>?_
 refine Z1 O<|Z3 O<|Gl O (st:=λVn:Nat=>mkS [(0,.pv (O9 l)),(3,pIi Vn)] [] 0)
  (I:=λVn=>Vn<=l.length/\∀i,Vn<=i->l.getD i 0=0) (μ:=λVn=>Vn) (x0:=(l.length)) (Q5 (aS O) trivial O O) (⟨BY _,λi hi=>zo hi⟩) ?_
 rintro n ⟨hn,hz⟩;by_cases hp:0<n
 .have hil:n-1<l.length:=Vf;have u:=cX hil;have q:=fI hil;refine Z1 O<|Rs O (XJ.cast (v':= .pv (.bool Sm)) (aC O O O) Vk) ?_;iterate 4 refine A1 O ?_
  refine Rg O (ae (n-1) underlying112 gJ O O Vf hil q) ?_;first|refine A2 O Vi ?_|refine A1 O ?_
  refine Rg O (aC O O O)<|A1 O<|Gc O (λj=>?_) (λj=>?_)
  .have hz0:lim l (n-1)=0:=by have:=qX j;omega
   exact Q3<|Z3 O<|⟨(n-1),Q5 ⟨O,ag (λi:Int=>V.pv (PV.int .i64 i)) (show(n:Int)-1=((n-1:Nat):Int) by omega),Vm⟩ trivial O O,⟨Vf,λi hi=>by rcases Uw i n with e|e;rw[show i=n-1 by omega];exact hz0;exact hz i e⟩,Vf⟩
  .have hz0:lim l (n-1)≠0:=by have:=lM j;omega
   refine Gx O<|Z2 O<|Rs O ((di n underlying112 gJ O O O hn (by rw[dE];omega)).cast (v':= .pv (.sl Sl n (bW (l.take n)))) (by rw[R6,qi]))<|A1 O<|Gt O ?_;have e:=jI s hn hz (.inr hz0);exact⟨_,_,O,O,by show PV.sl Sl n (bW (l.take n))=bF (val l);rw[bF,e,O9,Rr,SG hn]⟩
 .refine Z1 O<|Rs O (XJ.cast (v':= .pv (.bool S1)) (aC O O O) Vk) ?_;iterate 8 refine A1 O ?_
  refine Gc O (λj=>absurd j Vj) (λj=>?_);refine Gx O<|Z2 O<|Rs O ((di n underlying112 gJ O O O hn (by rw[dE];omega)).cast (v':= .pv (.sl Sl n (bW (l.take n)))) (by rw[R6,qi]))<|A1 O<|Gt O ?_;have e:=jI s hn hz (.inl Vf);exact⟨_,_,O,O,by show PV.sl Sl n (bW (l.take n))=bF (val l);rw[bF,e,O9,Rr,SG hn]⟩
theorem cA{v:Nat}(l:List Nat)(j:l.length=n)(q:n<=1000000000)(s:Lok l)(u:val l=v):FnP prog 183 [.sl Sl n (bW l)] (· =bF v):=by
 subst j u;exact CP l q s
def yr(a b:Nat):Int:=if a<b then-1 else if b<a then 1 else 0
theorem s5(h:a<b):yr a b= -1:=AT h
theorem r4(h:b<a):yr a b=1:=by unfold yr;rw[dt Vf,AT h]
theorem Gf(h:a=b):yr a b=0:=by unfold yr;rw[dt Vf,dt Vf]
theorem mI(a b:Nat)(M:(ai a).length<=1000000000)(T:(ai b).length<=1000000000):FnP prog 302 [bF a,bF b] (· = .int .i64 (yr a b)):=by
 refine FnP.of func302 O ntmps302 Vj λm0 w0 F R0=>?_
 refine Z1 O<|Gr O ?_;iterate 5 refine A1 O ?_
 refine Gc O (λq=>?_) (λq=>?_)
 .refine Gr O ?_;iterate 5 refine A1 O ?_
  refine Rs O (aa call366 (BR _) O)<|A1 O<|Gt O ?_;have G:(ai a).length≠(ai b).length:=by have:=AB q;omega
  refine⟨_,_,O,O,ag (PV.int .i64) ?_⟩;rcases Uw (ai a).length (ai b).length with h|h
  .rw[AT Vf,s5 (fN h)]
  .rw[dt Vf,AT Vf,r4 (fN Vf)]
 .have hlen:(ai a).length=(ai b).length:=by have:=sJ q;omega
  refine Q3<|Z4 O<|Gl O (st:=λVn:Nat=>mkS [(0,.pv (bF a)),(1,.pv (bF b)),(5,pIi ((Vn:Int)-1))] [] 0)
   (I:=λVn=>Vn<=(ai a).length/\(ai a).drop Vn=(ai b).drop Vn) (μ:=λVn=>Vn) (x0:=((ai a).length)) (Q5 (aS O) trivial O O) (⟨BY _,by rw[Tv (BY _),Tv Vf]⟩) ?_
  rintro i ⟨hi,hd⟩;refine Z2 O<|Gp O (λB=>?_) (λB=>?_)
  .have hia:i-1<(ai a).length:=Vf;have j:i-1<(ai b).length:=Vf;have H:=cX hia;have u:=fI hia;have J:=cX j;have z:=fI j;have s:(ai a).drop (i-1+1)=(ai b).drop (i-1+1):=by rw[show i-1+1=i by omega];exact hd
   refine Q3<|RW 9 O ?_;iterate 2 refine D1 O ?_
   refine Ds [] O (λτ h=>ae (i-1) underlying112 gJ (Ee h 0 O O) (Ee h 1 O O) Vf hia u) O Vg ?_;first|refine D2 O O Vi ?_|refine D1 O ?_
   iterate 2 refine D1 O ?_
   refine Ds [] O (λτ h=>ae (i-1) underlying112 gJ (Ee h 0 O O) (Ee h 1 O O) Vf j z) O Vg ?_;first|refine D2 O O Vi ?_|refine D1 O ?_
   refine D1 O ?_;refine⟨Vg,?_⟩;refine Gp O (λD=>?_) (λD=>?_)
   .refine Z1 O<|Gt O ?_;have A:=nA (cJ a) hlen hia s (by show lim _ _<lim _ _;omega);rw[bo,bo]at A;exact⟨_,_,O,O,ag (PV.int .i64) (s5 A).symm⟩
   .refine Q3<|RW 9 O ?_;iterate 2 refine D1 O ?_
    refine Ds [] O (λτ h=>ae (i-1) underlying112 gJ (Ee h 0 O O) (Ee h 1 O O) Vf hia u) O Vg ?_;first|refine D2 O O Vi ?_|refine D1 O ?_
    iterate 2 refine D1 O ?_
    refine Ds [] O (λτ h=>ae (i-1) underlying112 gJ (Ee h 0 O O) (Ee h 1 O O) Vf j z) O Vg ?_;first|refine D2 O O Vi ?_|refine D1 O ?_
    refine D1 O ?_;refine⟨Vg,?_⟩;refine Gp O (λE=>?_) (λE=>?_)
    .refine Z1 O<|Gt O ?_;have A:=nA (cJ b) hlen.symm j s.symm (by show lim _ _<lim _ _;omega);rw[bo,bo]at A;exact⟨_,_,O,O,ag (PV.int .i64) (r4 A).symm⟩
    .exact Q3<|Z3 O<|⟨(i-1),Q5 ⟨O,O,ag (λi:Int=>V.pv (PV.int .i64 i)) (show(i:Int)-1-1=((i-1:Nat):Int)-1 by omega),Vm⟩ trivial O O,⟨Vf,by rw[RF hia,RF j,s,<-fW hia,<-fW j];congr 1;omega⟩,Vf⟩
  .refine Gx O<|Z1 O<|Gt O ?_;have L:i=0:=Vf;subst L;exact⟨_,_,O,O,ag (PV.int .i64) (Gf (uf (by simpa using hd))).symm⟩
theorem Lok.xP(h:Lok l)(k x:Nat):Lok (l.set k (x%1000000000)):=h.set (Ti _ Vh)
theorem E0(j:(ai a).length<=n):a<1000000000^n:=bj.1 j
theorem tQ(a b:Nat)(H:(ai a).length<=1000000)(J:(ai b).length<=1000000):FnP prog 301 [bF a,bF b] (· =bF (a+b)):=by
 refine FnP.of func301 O ntmps301 Vj λm0 w0 F R0=>?_
 obtain⟨n,hn⟩:∃n:Nat,n=max (ai a).length (ai b).length:=⟨_,O⟩;have j:(if((ai b).length:Int)>(ai a).length then((ai b).length:Int)else(ai a).length)=(n:Int):=by split<;>omega
 refine Z1 O<|Gr O ?_;iterate 5 refine A1 O ?_
 refine Rs O (XJ.cast (v':= pIi ((n+1:Nat):Int)) (L4 O O (by rw[j];omega)) (by rw[j];rfl))<|Rs O (lF (zs:=[.int .u64 0]) 0 (n+1) tH O O O O O Vf O)<|A1 O<|Z1 O<|Z3 O ?_;refine Gl O (st:=λVn:Nat×List Nat×Nat=>mkS [(0,.pv (bF a)),(1,.pv (bF b)),(5,.osl 0 1 (n+1)),(6,.pv (.int .u64 (Vn.2.2:Int))),(17,pIi ((n+1:Nat):Int)),(18,pIi Vn.1)] [(0,.cells 300 (bW Vn.2.1))] 1)
  (I:=λVn=>(Vn.1<=n+1/\Vn.2.1.length=n+1)/\(Lok Vn.2.1/\Vn.2.2<=1)/\sm (lim Vn.2.1) Vn.1+1000000000^Vn.1*Vn.2.2=sm (lim (ai a)) Vn.1+sm (lim (ai b)) Vn.1) (μ:=λVn=>n+1-Vn.1) (x0:=(0,List.replicate (n+1) 0,0)) (Q5 (aS O) ⟨ag (λc=>Sh (Ob.cells 300 c)) ((cB (.int .u64 0) ((n+1)*1)).trans (by simp[bW])),Vm⟩ O O) (⟨⟨cd _,Vj⟩,⟨Lok.replicate _,cd _⟩,by simp[sm]⟩) ?_
 rintro⟨i,o,c⟩ ⟨⟨hi,hol⟩,⟨hok,hc⟩,he⟩;try simp only at hi hol hok hc he ⊢
 refine Z1 O<|Gp O (λu=>?_) (λu=>?_)
 .have hil:i<o.length:=Vf;have B:=k6 (cJ a) i;have D:=k6 (cJ b) i;have z:=I7 hil he;have E:=dE o;have q:=lQ (ai a) i Vf;have s:=lQ (ai b) i Vf;generalize lim (ai a) i=x at*;generalize lim (ai b) i=y at*;refine Q3<|Z2 O<|Z2 O<|Rs O (aa call365 q O)<|Y2 O<|Rs O (aa call365 s O) ?_;iterate 4 refine A1 O ?_
  refine Gr O ?_;iterate 6 refine A1 O ?_
  exact Rs O (ak i underlying112 gJ O O O O Vf)<|Y2 O<|Z2 O<|⟨(i+1,o.set i ((x+y+c)%1000000000),(x+y+c)/1000000000),Q5 (aS O) ⟨ag (λc=>Sh (Ob.cells 300 c)) (by rw[R6,ja]),Vm⟩ O O,⟨⟨Vl,by simp only[SI];exact hol⟩,⟨hok.xP _ _,Vl⟩,z⟩,Vl⟩
 .refine Gx O ?_;obtain rfl:i=n+1:=Vf;have G:val o=a+b:=MM hol (E0 Vf) (E0 Vf) (by rw[he,mF _ Vf,mF _ Vf,bo,bo]);have A:=cA o hol Vf hok G;exact Q4 (Q8 0 O O)<|Z1 O<|Rs O (aa call183 A O)<|A1 O<|Gt O<|⟨_,_,O,O,O⟩
theorem oO(a b:Nat)(U:(ai a).length<=1000000)(z:b<=a):FnP prog 303 [bF a,bF b] (· =bF (a-b)):=by
 refine FnP.of func303 O ntmps303 Vj λm0 w0 F R0=>?_
 obtain⟨n,hn⟩:∃n:Nat,n=(ai a).length:=⟨_,O⟩;have G:(ai b).length<=n:=by rw[hn];exact bj.2 (UN z (kL a))
 refine Z1 O<|Z2 O<|Rs O (lF (zs:=[.int .u64 0]) 0 (ai a).length tH O O O O O Vf O)<|A1 O<|Z1 O<|Z3 O<|Gl O (st:=λVn:Nat×List Nat×Nat=>mkS [(0,.pv (bF a)),(1,.pv (bF b)),(5,.osl 0 1 (ai a).length),(6,.pv (.int .u64 (Vn.2.2:Int))),(13,.pv (.int .i64 (ai a).length)),(14,pIi Vn.1)] [(0,.cells 300 (bW Vn.2.1))] 1)
  (I:=λVn=>(Vn.1<=n/\Vn.2.1.length=n)/\(Lok Vn.2.1/\Vn.2.2<=1)/\sm (lim Vn.2.1) Vn.1+sm (lim (ai b)) Vn.1=sm (lim (ai a)) Vn.1+1000000000^Vn.1*Vn.2.2) (μ:=λVn=>n-Vn.1) (x0:=(0,List.replicate (ai a).length 0,0)) (Q5 (aS O) ⟨ag (λc=>Sh (Ob.cells 300 c)) ((cB (.int .u64 0) ((ai a).length*1)).trans (by simp[bW])),Vm⟩ O O) (⟨⟨cd _,by simp[hn]⟩,⟨Lok.replicate _,cd _⟩,by simp[sm]⟩) ?_
 rintro⟨i,o,c⟩ ⟨⟨hi,hol⟩,⟨hok,hc⟩,he⟩;try simp only at hi hol hok hc he ⊢
 refine Z1 O<|Gp O (λu=>?_) (λu=>?_)
 .have hil:i<o.length:=Vf;have j:i<(ai a).length:=Vf;have H:=cX j;have A:=fI j;have J:=k6 (cJ a) i;have L:=k6 (cJ b) i;have q:=lQ (ai b) i Vf;have B:=λx b' hx=>KN (x:=x) (b':=b') hil he hx
  have M:=dE o;generalize lim (ai a) i=x at*;generalize lim (ai b) i=y at*;have s:=B ((x+1000000000-y-c)%1000000000) (1-(x+1000000000-y-c)/1000000000) Vf;refine Q3<|Z2 O<|RW 12 O ?_;iterate 2 refine D1 O ?_
  refine Ds [] O (λτ h=>ae i underlying112 gJ (Ee h 0 O O) (Ee h 1 O O) O j A) O Vg ?_;first|refine D2 O O Vi ?_|refine D1 O ?_
  refine Ds [] O (λτ h=>rT (b:=1000000000) (Ee h 0 O O) (Ee h 1 O O) Vf) O Vg ?_;iterate 2 refine D1 O ?_
  refine Ds [] O (λτ h=>aa call365 q (h.aK O)) O Vg<|Ds [] O (λτ h=>rz (Ee h 0 O O) (Ee h 1 O O) Vf) O Vg<|D1 O<|Ds [] O (λτ h=>rz (Ee h 0 O O) (Ee h 1 O O) Vf) O Vg<|D1 O ?_;refine⟨Vg,?_⟩;exact Z3 O<|Rs O (ox (b:=1000000000) O O Vf)<|A1 O<|Rs O (o7 (b:=1000000000) O O Vf)<|Rs O (rz (a:=1) O O Vf)<|Rs O (ak i underlying112 gJ O O O O Vf)<|Y2 O<|Z2 O<|⟨(i+1,o.set i ((x+1000000000-y-c)%1000000000),1-(x+1000000000-y-c)/1000000000),Q5 (aS O) ⟨ag (λc=>Sh (Ob.cells 300 c)) (by rw[R6,ja]),Vm⟩ O O,⟨⟨Vl,by simp only[SI];exact hol⟩,⟨hok.xP _ _,Vl⟩,s⟩,Vl⟩
 .refine Gx O ?_;obtain rfl:i=n:=Vf;have T:val o=a-b:=Nx hol hok z (by have E:=he;rw[mF (ai a) (SQ hn.symm),mF (ai b) G,bo,bo]at E;exact E);have D:=cA o (hol.trans hn) Vf hok T;exact Q4 (Q8 0 O O)<|Z1 O<|Rs O (aa call183 D O)<|A1 O<|Gt O<|⟨_,_,O,O,O⟩
end
section
theorem P4(j:x<1000000000)(q:y<1000000000):x*y<=999999998000000001:=
 IT (Sw (show x<=999999999 by omega) (show y<=999999999 by omega)) Vh
theorem Na{o:List Nat}{V m:Nat}(j:i+m<o.length)(q:lim o (i+m)=0)(h:val o+1000000000^(i+m)*c=V*b+1000000000^i*(x*b)):val (o.set (i+m) c)=(V+1000000000^i*x)*b:=by
 have e:=C7 (x:=c) j;rw[<-fW j,q,Nat.mul_zero,Uv]at e;rw[e,h,Va,Tj]
theorem ES(a b:Nat)(ha:(ai a).length<=1000000)(hb:(ai b).length<=1000000):FnP prog 184 [bF a,bF b] (· =bF (a*b)):=by
 refine FnP.of func184 O ntmps184 Vj λm0 w0 F R0=>?_
 obtain⟨la,hla⟩:∃n:Nat,n=(ai a).length:=⟨_,O⟩;obtain⟨lb,hlb⟩:∃n:Nat,n=(ai b).length:=⟨_,O⟩;refine Z1 O<|Gr O ?_;iterate 7 refine A1 O ?_
 refine Z3 O<|Gl O (st:=λVn:Nat×List Nat=>mkS [(1,.pv (bF b)),(5,.osl 0 1 ((ai a).length+(ai b).length)),(18,.pv (bF a)),(19,.pv (.int .i64 (ai a).length)),(20,pIi Vn.1)] [(0,.cells 300 (bW Vn.2))] 1)
  (I:=λVn=>(Vn.1<=la/\Vn.2.length=la+lb)/\Lok Vn.2/\val Vn.2=sm (lim (ai a)) Vn.1*b/\∀j,Vn.1+lb<=j->lim Vn.2 j=0) (μ:=λVn=>la-Vn.1) (x0:=(0,List.replicate ((ai a).length+(ai b).length) 0)) (Q5 (aS O) ⟨ag (λc=>Sh (Ob.cells 300 c)) ((cB (.int .u64 0) (((ai a).length+(ai b).length)*1)).trans (by simp[bW])),Vm⟩ O O) (⟨⟨cd _,by simp[hla,hlb]⟩,Lok.replicate _,by rw[val_zero (λi=>by simp only[List.getD,List.getElem?_replicate];split<;>rfl)];simp[sm],λj _=>by simp only[lim,List.getD,List.getElem?_replicate];split<;>rfl⟩) ?_
 rintro⟨i,o⟩ ⟨⟨hi,hol⟩,hok,hv,hz⟩;try simp only at hi hol hok hv hz ⊢
 refine Z1 O<|Gp O (λD=>?_) (λD=>?_)
 .have hia:i<(ai a).length:=Vf;have W:=cX hia;have X:=fI hia;have G:=k6 (cJ a) i;have H:sm (lim (ai a)) (i+1)=sm (lim (ai a)) i+1000000000^i*lim (ai a) i:=rfl;generalize lim (ai a) i=x at*;refine Q3<|Z2 O ?_;first|refine A2 O Vi ?_|refine A1 O ?_
  refine Y2 O<|Z1 O<|Z3 O<|Gl O (st:=λq:Nat×List Nat×Nat=>mkS [(1,.pv (bF b)),(5,.osl 0 1 ((ai a).length+(ai b).length)),(6,pIi i),(7,.pv (.int .u64 (x:Int))),(8,.pv (.int .u64 (q.2.2:Int))),(18,.pv (bF a)),(19,.pv (.int .i64 (ai a).length)),(20,pIi i),(25,.pv (bF b)),(26,.pv (.int .i64 (ai b).length)),(27,pIi q.1)] [(0,.cells 300 (bW q.2.1))] 1)
   (I:=λq=>(q.1<=lb/\q.2.1.length=la+lb)/\(Lok q.2.1/\q.2.2<1000000000)/\val q.2.1+1000000000^(i+q.1)*q.2.2=sm (lim (ai a)) i*b+1000000000^i*(x*sm (lim (ai b)) q.1)/\∀j,i+lb<=j->lim q.2.1 j=0) (μ:=λq=>lb-q.1) (x0:=(0,o,0)) (Q5 (aS O) (aO O) O O) (⟨⟨cd _,hol⟩,⟨hok,Nat.zero_lt_succ 999999999⟩,by rw[hv];simp[sm],hz⟩) ?_
  rintro⟨k,o2,c⟩ ⟨⟨hk,hol2⟩,⟨hok2,hc⟩,he,hz2⟩;try simp only at hk hol2 hok2 hc he hz2 ⊢
  refine Z1 O<|Gp O (λE=>?_) (λE=>?_)
  .have hkb:k<(ai b).length:=Vf;have Y:=cX hkb;have Z:=fI hkb;have J:=k6 (cJ b) k;have s:i+k<o2.length:=Vf;have L:=cX s;have z:=JR (y:=lim (ai b) k) s he;have M:sm (lim (ai b)) (k+1)=sm (lim (ai b)) k+1000000000^k*lim (ai b) k:=rfl;rw[<-M]at z;have ab:=k6 hok2 (i+k);have T:=dE o2;generalize lim (ai b) k=y at*;generalize lim o2 (i+k)=u at*;have ac:=P4 G J;refine Q3<|Z2 O ?_;first|refine A2 O Vi ?_|refine A1 O ?_
   refine Y2 O<|Z4 O<|Rs O (ak (i+k) underlying112 gJ O O O O Vf) ?_;first|refine A2 O Vi ?_|refine A1 O ?_
   iterate 7 refine A1 O ?_
   refine Gr O ?_;iterate 5 refine A1 O ?_
   exact Rs O (ox (b:=1000000000) O O Vf)<|A1 O<|Rs O (o7 (b:=1000000000) O O Vf)<|Rs O (ak (i+k) underlying112 gJ O O O O Vf)<|Y2 O<|Z2 O<|⟨(k+1,o2.set (i+k) ((u+x*y+c)%1000000000),(u+x*y+c)/1000000000),Q5 (aS O) ⟨ag (λc=>Sh (Ob.cells 300 c)) (by rw[R6,ja]),Vm⟩ O O,⟨⟨Vl,by simp only[SI];exact hol2⟩,⟨hok2.xP _ _,Vl⟩,z,λj hj=>by rw[pG s,dt Vf];exact hz2 j hj⟩,Vl⟩
  .refine Gx O ?_;obtain rfl:k=lb:=Vf;have s:i+k<o2.length:=Vf;have A:=hz2 (i+k) (BY _);have L:(bW o2)[(i+k)*1]? =Sh (.int .u64 ((0:Nat):Int)):=by rw[cX s,A]
   have T:=dE o2;rw[mF (ai b) (SQ hlb.symm),bo]at he;have B:=Na s A he;have ad:(ai b).length=k:=hlb.symm;refine Gr O ?_;iterate 5 refine A1 O ?_
   refine Rs O (ak (i+k) underlying112 gJ O O O Vf Vf) ?_;first|refine A2 O Vi ?_|refine A1 O ?_
   exact A1 O<|Rs O (XJ.cast (v':= .pv (.int .u64 (c:Int))) (rT (a:=0) O O Vf) (by rw[RV]))<|Rs O (ak (i+k) underlying112 gJ O O O Vf Vf)<|A1 O<|Z2 O<|⟨(i+1,o2.set (i+k) c),Q5 (aS O) ⟨ag (λc=>Sh (Ob.cells 300 c)) (by rw[R6,ja]),Vm⟩ O O,⟨⟨Vl,by simp only[SI];exact hol2⟩,hok2.set hc,by rw[H];exact B,λj hj=>by simp only at hj ⊢; rw[pG s,dt Vf];exact hz2 j Vf⟩,Vl⟩
 .refine Gx O ?_;obtain rfl:i=la:=Vf;have U:val o=a*b:=by rw[hv,mF (ai a) (SQ hla.symm),bo]
  have V:=cA o (show o.length=(ai a).length+(ai b).length by omega) Vf hok U;exact Q4 (Q8 0 O O)<|Z1 O<|Rs O (aa call183 V O)<|A1 O<|Gt O<|⟨_,_,O,O,O⟩
theorem wi(a d:Nat)(U:(ai a).length<=1000000)(z:0<d)(T:d<1000000000):FnP prog 397 [bF a,.int .u64 (d:Int)] (· = .tup [bF (a/d),.int .u64 ((a%d:Nat):Int)]):=by
 refine FnP.of func397 O ntmps397 Vj λm0 w0 F R0=>?_
 obtain⟨n,hn⟩:∃n:Nat,n=(ai a).length:=⟨_,O⟩;refine Z2 O<|Z4 O<|Z1 O<|Z4 O<|Gl O (st:=λVn:Nat×List Nat×Nat=>mkS [(0,.pv (bF a)),(1,.pv (.int .u64 (d:Int))),(6,.osl 0 1 (ai a).length),(7,.pv (.int .u64 (Vn.2.2:Int))),(8,pIi ((Vn.1:Int)-1))] [(0,.cells 300 (bW Vn.2.1))] 1)
  (I:=λVn=>(Vn.1<=n/\Vn.2.1.length=n)/\(Lok Vn.2.1/\Vn.2.2<d)/\val ((ai a).drop Vn.1)=d*val (Vn.2.1.drop Vn.1)+Vn.2.2) (μ:=λVn=>Vn.1) (x0:=((ai a).length,List.replicate (ai a).length 0,0)) (Q5 (aS O) ⟨ag (λc=>Sh (Ob.cells 300 c)) ((cB (.int .u64 0) ((ai a).length*1)).trans (by simp[bW])),Vm⟩ O O) (⟨⟨SQ hn.symm,by simp[hn]⟩,⟨Lok.replicate _,z⟩,by simp only;rw[Tv (BY _),Tv Vj];simp[val]⟩) ?_
 rintro⟨i,o,r⟩ ⟨⟨hi,hol⟩,⟨hok,hr⟩,he⟩;try simp only at hi hol hok hr he ⊢
 refine Z2 O<|Gp O (λu=>?_) (λu=>?_)
 .have hia:i-1<(ai a).length:=Vf;have H:=cX hia;have A:=fI hia;have B:=k6 (cJ a) (i-1);have J:i-1<o.length:=Vf;have D:=BX (q:=o) (r:=r) hia Vf z (by rw[show i-1+1=i by omega];exact he);have L:=dE o;generalize lim (ai a) (i-1)=x at*;have j:=CW z hr B;refine Q3<|Z1 O<|Rs O (pg (b:=1000000000) O O Vf)<|Y2 O<|Rs O (ae (i-1) underlying112 gJ O O Vf hia A) ?_;first|refine A2 O Vi ?_|refine A1 O ?_
  refine Y2 O<|RW 11 O ?_;iterate 8 refine D1 O ?_
  refine Ds [_] O (λτ h=>ak (i-1) underlying112 gJ (Ee h 0 O O) (Eo h 0 O O) (Ee h 1 O O) Vf Vf) O Vg ?_;iterate 2 refine D1 O ?_
  refine⟨Vg,?_⟩;exact Z3 O<|⟨(i-1,o.set (i-1) ((r*1000000000+x)/d),(r*1000000000+x)%d),Q5 ⟨O,O,O,O,ag (λi:Int=>V.pv (PV.int .i64 i)) (show(i:Int)-1-1=((i-1:Nat):Int)-1 by omega),Vm⟩ ⟨ag (λc=>Sh (Ob.cells 300 c)) (by rw[R6,ja]),Vm⟩ O O,⟨⟨Vl,by simp only[SI];exact hol⟩,⟨hok.set j.1,j.2⟩,D⟩,Vl⟩
 .refine Gx O ?_;obtain rfl:i=0:=Vf;have s:a=d*val o+r:=by simpa[bo]using he
  have M:val o=a/d:=by rw[s,Nat.mul_add_div z,Nat.div_eq_of_lt hr,Uv]
  have E:r=a%d:=by rw[s,Nat.mul_add_mod,Ut hr]
  have G:=cA o (hol.trans hn) Vf hok M;exact Q4 (Q8 0 O O)<|Z1 O<|Rs O (aa call183 G O)<|Y3 O<|Gt O<|⟨_,_,O,O,by rw[<-E];rfl⟩
theorem kI(n i:Nat):lim (ai n) i=n/1000000000^i%1000000000:=by
 induction i generalizing n with
 | zero=>
   by_cases h:n=0
   .subst h;rw[ba];rfl
   .rw[cV h];simp[lim]
 | succ i ih=>
   by_cases h:n=0
   .subst h;rw[ba];simp[lim]
   .rw[cV h,Tc,SX,<-Nat.div_div_eq_div_mul,<-ih];simp[lim]
theorem fv(a:Nat)(B:a<1000000000000000000):FnP prog 376 [bF a] (· = .int .u64 (a:Int)):=by
 refine FnP.of func376 O ntmps376 Vj λm0 w0 F R0=>?_
 have q:(ai a).length<=2:=bj.2 B;have s:=lQ (ai a) 1 Vf;have u:=lQ (ai a) 0 Vf;have z:=kI a 1;have A:=kI a 0;rw[Nat.pow_one]at z;rw[Nat.pow_zero,Nat.div_one]at A;generalize lim (ai a) 1=x at*;generalize lim (ai a) 0=y at*;have j:x*1000000000+y=a:=Vf;exact Z1 O<|Z1 O<|Rs O (aa call365 s O)<|Rs O (pg (b:=1000000000) O O Vf)<|A1 O<|Rs O (aa call365 u O)<|Y2 O<|Gt O<|⟨_,_,O,O,by rw[<-j];rfl⟩
end
section
def Fj(a b:Nat):Prop:=FnP prog 364 [bF a,bF b] (· = .tup [bF (a/b),bF (a%b)])
theorem vD:bF 0= .sl Sl 0 []:=by rw[bF,ba];rfl
theorem val_one(a:Nat):val [a]=a:=by simp[val]
theorem Lok.one(h:a<1000000000):Lok [a]:=λb hb=>by simp at hb;omega
theorem D5(a b:Nat)(I:(ai a).length<=1000000)(G:0<b)(u:b<1000000000):Fj a b:=by
 unfold Fj;refine FnP.fg2 (FnP.of func364 O ntmps364 Vj λm0 w0 F R0=>?_);have s:ai b=[b]:=fA Vf u;have A:(ai b).length=1:=by rw[s];rfl
 have H:(bW (ai b))[0*1]? =Sh (.int .u64 (b:Int)):=by rw[s];rfl
 have B:bW (ai b)≠[]:=by rw[s];simp[bW]
 have D:a%b<1000000000:=U9 (Ti _ G) u;have E:=cA (n:=1) [a%b] O Vf (Lok.one D) (val_one _);refine Z2 O<|Z2 O<|Rs O (aa call302 (mI a b Vf Vf) O)<|A1 O<|Gp O (λj=>?_) (λj=>?_)
 .refine Z3 O<|Gt O ?_;have z:a<b:=by unfold yr at j;split at j;assumption;split at j<;>omega
  exact⟨_,_,O,O,by rw[Nat.div_eq_of_lt z,Ut z,vD];rfl⟩
 .refine Q3<|Z3 O ?_;refine Gc O (λq=>?_) (λq=>absurd q (by rw[A];simp));refine Z2 O<|Rs O (ae 0 underlying112 gJ O O O Vf B) ?_;first|refine A2 O Vi ?_|refine A1 O ?_
  refine Rs O (aa call397 (wi a b I G u) O) ?_;iterate 5 refine A1 O ?_
  exact Z2 O<|Rs O (ar Sl Vj tH O Vh Vh O O)<|Rs O (aa call183 E O)<|Y2 O<|Gt O<|⟨_,_,O,O,O⟩
theorem len2(h:¬2<(ai n).length):n<1000000000000000000:=bj.1 (show(ai n).length<=2 by omega)
theorem Ni(j:0<y)(h:(ai y).length<=k):(ai (x%y)).length<=k:=bj.2 (U9 (Ti _ j) (bj.1 h))
theorem pz(h:0<(ai n).length):0<n:=by
 rcases SY n with e|e
 .subst e;rw[ba]at h;simp at h
 .exact e
theorem nr(x y:Nat):Nat.gcd y (x%y)=Nat.gcd x y:=by rw[Nat.gcd_comm y,<-Nat.gcd_rec,Nat.gcd_comm]
theorem uT(h:x<1000000000000000000):Lok [x%1000000000,x/1000000000]/\val [x%1000000000,x/1000000000]=x:=by
 refine⟨λa ha=>?_,by simp[val];omega⟩;simp at ha;omega
theorem Hd(I:Nat->Nat->Prop)(T:∀x y,I x y->0<y->(2<(ai y).length\/2<(ai x).length)->(ai x).length<=1000000->(ai y).length<=1000000->Fj x y/\I y (x%y))(a b:Nat)(U:I a b)(V:(ai a).length<=1000000)(W:(ai b).length<=1000000):
  FnP prog 363 [bF a,bF b] (· =bF (Nat.gcd a b)):=by
 refine FnP.of func363 O ntmps363 Vj λm0 w0 F R0=>?_
 refine Z1 O<|Gl O (st:=λVn:Nat×Nat=>mkS [(0,.pv (bF Vn.1)),(1,.pv (bF Vn.2))] [] 0)
  (I:=λVn=>Nat.gcd Vn.1 Vn.2=Nat.gcd a b/\I Vn.1 Vn.2/\(ai Vn.1).length<=1000000/\(ai Vn.2).length<=1000000) (μ:=λVn=>Vn.2) (x0:=(a,b)) (Q5 (aS O) trivial O O) (⟨O,U,V,W⟩) ?_
 rintro⟨x,y⟩ ⟨hg,hxy,hx,hy⟩;try simp only at hg hxy hx hy ⊢
 refine Z3 O<|Gp O (λL=>?_) (λL=>?_)
 .have z:0<y:=pz Vf;have H:=T x y hxy z (.inl Vf) hx hy;refine Q3<|Z2 O<|Rs O (aa call364 H.1 O) ?_;iterate 5 refine A1 O ?_
  exact Z4 O<|⟨(y,x%y),Q5 (aS O) trivial O O,⟨by rw[<-hg];exact nr x y,H.2,hy,Ni z hy⟩,Ti _ z⟩
 .have hy2:=len2 (show ¬2<(ai y).length by omega);refine Gx O<|Z3 O<|Gc O (λD=>?_) (λD=>?_)
  .refine Z2 O<|Gt O ?_;have z:y=0:=dj.1 (by have:=qX D;omega);exact⟨_,_,O,O,ag bF (by rw[<-hg,z,Nat.gcd_zero_right])⟩
  .have z:0<y:=pz (by have:=lM D;omega);refine Q3<|Z3 O<|Gp O (λM=>?_) (λM=>?_)
   .have H:=T x y hxy z (.inr Vf) hx hy;refine Z2 O<|Rs O (aa call364 H.1 O) ?_;iterate 5 refine A1 O ?_
    refine Z4 O ?_;have A:=hy2;have B:x%y<1000000000000000000:=U9 (Ti _ z) hy2;have E:Nat.gcd y (x%y)=Nat.gcd a b:=by rw[<-hg];exact nr x y
    clear hg hxy H;generalize x%y=q at*;obtain⟨p,rfl⟩:∃p,p=y:=⟨y,O⟩;refine Z1 O<|Rs O (aa call376 (fv p A) O)<|A1 O<|Rs O (aa call376 (fv q B) O)<|Y2 O<|Gl O (st:=λj:Nat×Nat=>mkS [(9,.pv (.int .u64 (j.1:Int))),(10,.pv (.int .u64 (j.2:Int)))] [] 0)
     (I:=λj=>Nat.gcd j.1 j.2=Nat.gcd a b/\j.1<1000000000000000000/\j.2<1000000000000000000) (μ:=λj=>j.2) (x0:=(p,q)) (Q5 (aS O) trivial O O) (⟨E,A,B⟩) ?_
    rintro⟨u,v⟩ ⟨hg2,hu,hv⟩;try simp only at hg2 hu hv ⊢
    refine Z2 O<|Gc O (λs=>?_) (λs=>?_)
    .have hv0:0<v:=by have:=AB s;omega
     refine Q3<|RW 6 O ?_;iterate 6 refine D1 O ?_
     refine⟨Vg,?_⟩;exact⟨(v,u%v),Q5 (aS O) trivial O O,⟨by rw[<-hg2];exact nr u v,hv,U9 (Ti _ hv0) hv⟩,Ti _ hv0⟩
    .have hv0:v=0:=by have:=sJ s;omega
     refine Gx O ?_;have J:=uT hu;have G:=cA (n:=2) [u%1000000000,u/1000000000] O Vf J.1 J.2;exact Z1 O<|Rs O (ox (b:=1000000000) O O Vf)<|A1 O<|Rs O (o7 (b:=1000000000) O O Vf)<|Rs O (ar Sl Vj tH O Vh Vh O O)<|Rs O (aa call183 G O)<|A1 O<|Gt O<|⟨_,_,O,O,ag bF (by rw[<-hg2,hv0,Nat.gcd_zero_right])⟩
   .have A:=len2 (show ¬2<(ai x).length by omega);have B:=hy2;have E:=hg;clear hg hxy;obtain⟨p,rfl⟩:∃p,p=x:=⟨x,O⟩;obtain⟨q,rfl⟩:∃q,q=y:=⟨y,O⟩;refine Q3<|Z1 O<|Rs O (aa call376 (fv p A) O)<|A1 O<|Rs O (aa call376 (fv q B) O)<|Y2 O<|Gl O (st:=λj:Nat×Nat=>mkS [(9,.pv (.int .u64 (j.1:Int))),(10,.pv (.int .u64 (j.2:Int)))] [] 0)
     (I:=λj=>Nat.gcd j.1 j.2=Nat.gcd a b/\j.1<1000000000000000000/\j.2<1000000000000000000) (μ:=λj=>j.2) (x0:=(p,q)) (Q5 (aS O) trivial O O) (⟨E,A,B⟩) ?_
    rintro⟨u,v⟩ ⟨hg2,hu,hv⟩;try simp only at hg2 hu hv ⊢
    refine Z2 O<|Gc O (λs=>?_) (λs=>?_)
    .have hv0:0<v:=by have:=AB s;omega
     refine Q3<|RW 6 O ?_;iterate 6 refine D1 O ?_
     refine⟨Vg,?_⟩;exact⟨(v,u%v),Q5 (aS O) trivial O O,⟨by rw[<-hg2];exact nr u v,hv,U9 (Ti _ hv0) hv⟩,Ti _ hv0⟩
    .have hv0:v=0:=by have:=sJ s;omega
     refine Gx O ?_;have J:=uT hu;have G:=cA (n:=2) [u%1000000000,u/1000000000] O Vf J.1 J.2;exact Z1 O<|Rs O (ox (b:=1000000000) O O Vf)<|A1 O<|Rs O (o7 (b:=1000000000) O O Vf)<|Rs O (ar Sl Vj tH O Vh Vh O O)<|Rs O (aa call183 G O)<|A1 O<|Gt O<|⟨_,_,O,O,ag bF (by rw[<-hg2,hv0,Nat.gcd_zero_right])⟩
def Dj(x y:Nat):Prop:=y<1000000000\/(x<1000000000000000000/\y<1000000000000000000)
theorem Qo(h:Dj x y)(s:0<y)(q:2<(ai y).length\/2<(ai x).length)(u:(ai x).length<=1000000):Fj x y/\Dj y (x%y):=by
 have j:∀{n:Nat},2<(ai n).length->¬n<1000000000000000000:=fun{n} h e=>by
  have:=bj.2 (show n<1000000000^2 from e);omega
 rcases h with h|⟨h3,h4⟩
 .exact⟨D5 x y u s h,.inl (U9 (Ti _ s) h)⟩
 .exfalso;rcases q with q|q
  .exact j q h4
  .exact j q h3
end
section
abbrev Pd(z:Int):List PV:=[.bool (decide (z<0)),bF z.natAbs]
abbrev dR(z:Int):PV:= .agg (Pd z)
def sgn(neg:Bool)(n:Nat):Int:=if neg then-(n:Int)else n
theorem EP(neg:Bool)(n:Nat):(neg&&decide (((ai n).length:Int)>0))=decide (sgn neg n<0):=by
 have h:0<(ai n).length↔0<n:=⟨pz,λh=>Nat.pos_of_ne_zero λe=>by have:=dj.1 e;omega⟩;cases neg with
 |false=>simp[sgn]
 | true=>
   simp only[sgn,UP,UM];by_cases hn:0<n
   .have:=h.2 hn;rw[Ru Vf,Ru Vf]
   .have:¬0<(ai n).length:=λe=>hn (h.1 e)
    rw[Rv Vf,Rv Vf]
theorem xx(neg:Bool)(n:Nat):(sgn neg n).natAbs=n:=by cases neg<;>simp[sgn]
theorem bC(neg:Bool)(n:Nat):FnP prog 182 [.bool neg,bF n] (· =dR (sgn neg n)):=by
 refine FnP.ofC func182 O ntmps182 Vj λm0 w0 F R0=>?_
 refine Z1 O<|Z2 O ?_;apply Rf 4 6 10 [7,8,9] O Vp
 .intro hb1;iterate 4 refine A1 O ?_
  exact Q7 Vo O O O
 .intro hb1;iterate 4 refine A1 O ?_
  exact Q7 Vo O O O
 exact Y3 O<|Gt O<|⟨_,_,O,O,⟨az ⟨_,underlying114,O⟩ iV O O O,Vm⟩,by rw[dR,Pd,<-EP,xx];rfl⟩
theorem l6(z:Int):FnP prog 189 [dR z] (· = .int .i64 z.sign):=by
 refine FnP.of func189 O ntmps189 Vj λm0 w0 F R0=>?_
 refine Z2 O<|Z3 O<|Gc O (λj=>?_) (λj=>?_)
 .exact Z1 O<|Gt O<|⟨_,_,O,O,ag (PV.int .i64) (by rw[Int.sign_eq_neg_one_of_neg (by simpa using j)])⟩
 .refine Gr O ?_;iterate 5 refine A1 O ?_
  refine Gp O (λq=>?_) (λq=>?_)
  .exact Z1 O<|Gt O<|⟨_,_,O,O,ag (PV.int .i64) (by have s:=pz (n:=z.natAbs) Vf;have u:¬z<0:=(by simpa using j);exact(Int.sign_eq_one_of_pos (show 0<z by omega)).symm)⟩
  .exact Q3<|Z1 O<|Gt O<|⟨_,_,O,O,ag (PV.int .i64) (by have s:=dj.1 (show(ai z.natAbs).length=0 by omega);rw[show z=0 by omega];rfl)⟩
theorem DG(z:Int):FnP prog 278 [dR z] (· =dR (-z)):=by
 refine FnP.ofC func278 O ntmps278 Vj λm0 w0 F R0=>?_
 have j:sgn (!decide (z<0)) z.natAbs= -z:=by
  by_cases h:z<0
  .rw[Ru h];simp[sgn];omega
  .rw[Rv h];simp[sgn];omega
 refine Z2 O<|Gr O ?_;iterate 5 refine A1 O ?_
 exact Rs O (aa call182 (bC _ _) O)<|A1 O<|Gt O<|⟨_,_,O,O,⟨az ⟨_,underlying114,O⟩ iV O O O,Vm⟩,by rw[<-j];rfl⟩
theorem JN{x y:Int}(h:(decide (x<0)==decide (y<0))=Sm):sgn (decide (x<0)) (x.natAbs+y.natAbs)=x+y:=by
 by_cases hx:x<0<;>by_cases hy:y<0<;>simp[hx,hy]at h<;>simp[sgn,hx]<;>omega
theorem Og{x y:Int}(h:(decide (x<0)==decide (y<0))=S1)(hc:y.natAbs<=x.natAbs):sgn (decide (x<0)) (x.natAbs-y.natAbs)=x+y:=by
 by_cases hx:x<0<;>by_cases hy:y<0<;>simp[hx,hy]at h<;>simp[sgn,hx]<;>omega
theorem Mh{x y:Int}(h:(decide (x<0)==decide (y<0))=S1)(hc:x.natAbs<=y.natAbs):sgn (decide (y<0)) (y.natAbs-x.natAbs)=x+y:=by
 by_cases hx:x<0<;>by_cases hy:y<0<;>simp[hx,hy]at h<;>simp[sgn,hy]<;>omega
theorem GF:yr a b>=0↔b<=a:=by
 unfold yr;split
 .constructor<;>intro h<;>omega
 .split<;>constructor<;>intro h<;>omega
theorem jV(x y:Int)(s:(ai x.natAbs).length<=1000000)(u:(ai y.natAbs).length<=1000000):FnP prog 231 [dR x,dR y] (· =dR (x+y)):=by
 refine FnP.ofC func231 O ntmps231 Vj λm0 w0 F R0=>?_
 refine Z3 O<|Gr O ?_;iterate 6 refine A1 O ?_
 refine Gc O (λq=>?_) (λq=>?_)
 .have e:=JN q;refine RW 9 O ?_;iterate 6 refine D1 O ?_
  refine Ds [] O (λτ h=>aa call301 (tQ x.natAbs y.natAbs s u) (h.aK O)) O Vg<|Ds [] O (λτ h=>aa call182 (bC _ _) (h.aK O)) O Vg<|D1 O ?_;refine⟨Vg,?_⟩;exact Gt O<|⟨_,_,O,O,⟨az ⟨_,underlying114,O⟩ iV O O O,Vm⟩,by rw[<-e];rfl⟩
 .have hd:=q;refine Z4 O<|Rs O (aa call302 (mI x.natAbs y.natAbs Vf Vf) O)<|Y2 O<|Gp O (λj=>?_) (λj=>?_)
  .have hle:=GF.1 j;have e:=Og hd hle;refine RW 9 O ?_;iterate 6 refine D1 O ?_
   refine Ds [] O (λτ h=>aa call303 (oO x.natAbs y.natAbs s hle) (h.aK O)) O Vg<|Ds [] O (λτ h=>aa call182 (bC _ _) (h.aK O)) O Vg<|D1 O ?_;refine⟨Vg,?_⟩;exact Gt O<|⟨_,_,O,O,⟨az ⟨_,underlying114,O⟩ iV O O O,Vm⟩,by rw[<-e];rfl⟩
  .have hle:x.natAbs<=y.natAbs:=Vc (Nat.lt_of_not_le λe=>j (GF.2 e));have e:=Mh hd hle;refine Q3<|RW 9 O ?_;iterate 6 refine D1 O ?_
   refine Ds [] O (λτ h=>aa call303 (oO y.natAbs x.natAbs u hle) (h.aK O)) O Vg<|Ds [] O (λτ h=>aa call182 (bC _ _) (h.aK O)) O Vg<|D1 O ?_;refine⟨Vg,?_⟩;exact Gt O<|⟨_,_,O,O,⟨az ⟨_,underlying114,O⟩ iV O O O,Vm⟩,by rw[<-e];rfl⟩
theorem w9(x y:Int)(j:(ai x.natAbs).length<=1000000)(q:(ai y.natAbs).length<=1000000):FnP prog 188 [dR x,dR y] (· =dR (x-y)):=by
 refine FnP.ofC func188 O ntmps188 Vj λm0 w0 F R0=>?_
 refine Z3 O<|RW 5 O ?_;iterate 2 refine D1 O ?_
 refine Ds [] O (λτ h=>aa call278 (DG y) (h.aK O)) O Vg<|Ds [] O (λτ h=>aa call231 (jV x (-y) j (by rw[Int.natAbs_neg];exact q)) (h.aK O)) O Vg<|D1 O ?_;refine⟨Vg,?_⟩;exact Gt O<|⟨_,_,O,O,⟨az ⟨_,underlying114,O⟩ iV O O O,Vm⟩,by rw[Int.sub_eq_add_neg];rfl⟩
theorem eU(x y:Int)(j:(ai x.natAbs).length<=1000000)(q:(ai y.natAbs).length<=1000000):FnP prog 98 [dR x,dR y] (· = .int .i64 (x-y).sign):=by
 refine FnP.of func98 O ntmps98 Vj λm0 w0 F R0=>?_
 exact Z3 O<|Z2 O<|Rs O (aa call188 (w9 x y j q) O)<|Rs O (aa call189 (l6 (x-y)) O)<|A1 O<|Gt O<|⟨_,_,O,O,O⟩
theorem pQ(I:Nat->Nat->Prop)(j:∀x y,I x y->0<y->(2<(ai y).length\/2<(ai x).length)->(ai x).length<=1000000->(ai y).length<=1000000->Fj x y/\I y (x%y))(x y:Int)(q:I x.natAbs y.natAbs)(s:(ai x.natAbs).length<=1000000)(u:(ai y.natAbs).length<=1000000):
  FnP prog 299 [dR x,dR y] (· =dR (Int.gcd x y:Int)):=by
 refine FnP.ofC func299 O ntmps299 Vj λm0 w0 F R0=>?_
 exact Z3 O<|Z4 O<|Rs O (aa call363 (Hd I j x.natAbs y.natAbs q s u) O)<|Rs O (aa call182 (bC S1 _) O)<|A1 O<|Gt O<|⟨_,_,O,O,⟨az ⟨_,underlying114,O⟩ iV O O O,Vm⟩,O⟩
end
section
theorem OT(i:Int):IntKind.u64.wrap i=i%18446744073709551616:=rfl
theorem KQ{n:Int}(j: -9223372036854775808<=n)(h:n<0):IntKind.u64.wrap (-(IntKind.u64.wrap n))=((n.natAbs:Nat):Int):=by
 rw[OT,OT];omega
theorem Kk{n:Int}(j:n<=9223372036854775807)(h:¬n<0):IntKind.u64.wrap n=((n.natAbs:Nat):Int):=by
 rw[OT];omega
section
variable {C:Ctx}{n:Nat}{σ:St}{dst:Option Tmp}{ty t t':TypeId}{pos:String}{after:Array Edge}{gd:Option (Nat×Bool)}{x y:Operand}
theorem NK{i:Int}(j:σ.ev n x= .pv (.int .u64 i)):XJ C n ⟨dst,.unOp .neg t x,ty,pos,after,gd⟩ σ ⟨.pv (.int .u64 (IntKind.u64.wrap (-i))),[],[]⟩:=
 .val λa w m R hw=>⟨.int .u64 (IntKind.u64.wrap (-i)),by simp[execOp,hw.int j,Op.unary,Op.intArith],by simp only[Rel,RelP]⟩
end
theorem jr(n:Int)(u: -9223372036854775808<=n)(z:n<=9223372036854775807):FnP prog 94 [.int .i64 n] (· =dR n):=by
 refine FnP.ofC func94 O ntmps94 Vj λm0 w0 F R0=>?_
 have q:Lok [n.natAbs%1000000000,n.natAbs/1000000000%1000000000,n.natAbs/1000000000/1000000000]:=λb hb=>by
  simp at hb;omega
 have s:val [n.natAbs%1000000000,n.natAbs/1000000000%1000000000,n.natAbs/1000000000/1000000000]=n.natAbs:=by simp[val];omega
 refine Z1 O<|Z1 O<|Rs O (iM underlying3 underlying300 O)<|A1 O<|Z2 O<|Gp O (λj=>?_) (λj=>?_)
 .have hu:IntKind.u64.wrap (-(IntKind.u64.wrap n))=((n.natAbs:Nat):Int):=KQ u j;refine Z1 O<|Rs O (XJ.cast (v':= .pv (.int .u64 (n.natAbs:Int))) (NK O) (ag (λi=>V.pv (.int .u64 i)) hu))<|A1 O<|Gr O ?_;iterate 10 refine A1 O ?_
  refine Rs O (ar Sl Vj tH O Vh Vh O O)<|Rs O (aa call183 (cA (n:=3) _ O Vh q s) O)<|Rs O (aa call182 (bC _ _) O)<|A1 O<|Gt O ?_;have e:sgn (decide (n<0)) n.natAbs=n:=by cases h:decide (n<0)<;>simp at h<;>simp[sgn]<;>omega
  exact⟨_,_,O,O,⟨az ⟨_,underlying114,O⟩ iV O O O,Vm⟩,ag dR e⟩
 .have hu:IntKind.u64.wrap n=((n.natAbs:Nat):Int):=Kk z j;refine Q3<|Z2 O<|Rs O (XJ.cast (v':= .pv (.int .u64 (n.natAbs:Int))) lH (ag (λi=>V.pv (.int .u64 i)) hu))<|A1 O<|Rs O (XJ.cast (v':= .pv (.int .u64 (n.natAbs:Int))) lH (ag (λi=>V.pv (.int .u64 i)) hu))<|Y2 O<|Rs O (XJ.cast (v':= .pv (.int .u64 (n.natAbs:Int))) lH (ag (λi=>V.pv (.int .u64 i)) hu))<|Y2 O<|Rs O (ar Sl Vj tH O Vh Vh O O)<|Rs O (aa call183 (cA (n:=3) _ O Vh q s) O)<|Rs O (aa call182 (bC _ _) O)<|A1 O<|Gt O ?_;have e:sgn (decide (n<0)) n.natAbs=n:=by cases h:decide (n<0)<;>simp at h<;>simp[sgn]<;>omega
  exact⟨_,_,O,O,⟨az ⟨_,underlying114,O⟩ iV O O O,Vm⟩,ag dR e⟩
theorem Mz(x y:Int):sgn (decide (x<0) !=decide (y<0)) (x.natAbs*y.natAbs)=x*y:=by
 by_cases hx:x<0<;>by_cases hy:y<0<;>simp only[hx,hy,decide_true,decide_false,bne_self_eq_false,Bool.bne_true,Bool.bne_false,Bool.not_false,Bool.not_true,Bool.true_bne,Bool.false_bne,sgn,UP,Sz,Up]
 .rw[TZ,Int.ofNat_natAbs_of_nonpos Vf,Int.ofNat_natAbs_of_nonpos Vf,Int.neg_mul_neg]
 .rw[TZ,Int.ofNat_natAbs_of_nonpos Vf,Int.natAbs_of_nonneg Vf,Int.neg_mul,Int.neg_neg]
 .rw[TZ,Int.natAbs_of_nonneg Vf,Int.ofNat_natAbs_of_nonpos Vf,Int.mul_neg,Int.neg_neg]
 .rw[TZ,Int.natAbs_of_nonneg Vf,Int.natAbs_of_nonneg Vf]
theorem dO(x y:Int)(s:(ai x.natAbs).length<=1000000)(u:(ai y.natAbs).length<=1000000):FnP prog 95 [dR x,dR y] (· =dR (x*y)):=by
 refine FnP.ofC func95 O ntmps95 Vj λm0 w0 F R0=>?_
 have j:=ES x.natAbs y.natAbs s u;have q:=Mz x y;refine Z3 O<|RW 12 O ?_;iterate 9 refine D1 O ?_
 refine Ds [] O (λτ h=>aa call184 j (h.aK O)) O Vg<|Ds [] O (λτ h=>aa call182 (bC _ _) (h.aK O)) O Vg<|D1 O ?_;refine⟨Vg,?_⟩;exact Gt O<|⟨_,_,O,O,⟨az ⟨_,underlying114,O⟩ iV O O O,Vm⟩,ag dR q⟩
end
end Go.Proofs.YtoplpepiabedhaaGreatDoor
namespace Go.Proofs
open Go.Proofs.YtoplpepiabedhaaGreatDoor
open Go.Shelf
def Tryz.pF:Go.Shelf.Ren:=⟨fun|156=>204|165=>283|166=>190|169=>193|240=>279|241=>341|276=>333|277=>388|n=>n,fun|31=>39|9=>9|3=>3|4=>4|0=>0|20=>20|72=>311|76=>314|70=>309|37=>277|75=>313|127=>390|164=>431|5=>5|80=>190|n=>n,fun|n=>n⟩
theorem Tryz.DM:Go.Proofs.Lays.n156 prog Tryz.pF:={
 mixed:=Vg
 f156:=Tryz.func204.trans (ag Sh Vg)
 f165:=Tryz.func283.trans (ag Sh Vg)
 f166:=Tryz.func190.trans (ag Sh Vg)
 f169:=Tryz.func193.trans (ag Sh Vg)
 f240:=Tryz.func279.trans (ag Sh Vg)
 f241:=Tryz.func341.trans (ag Sh Vg)
 f276:=Tryz.func333.trans (ag Sh Vg)
 f277:=Tryz.func388.trans (ag Sh Vg)
 t0:=Tryz.underlying0
 a0:=Tryz.isAgg0
 z0:=Tryz.sizeOf0
 v0:=Tryz.zeroValue0
 t3:=Tryz.underlying3
 a3:=Tryz.isAgg3
 z3:=Tryz.sizeOf3
 v3:=Tryz.zeroValue3
 t4:=Tryz.underlying4
 a4:=Tryz.isAgg4
 z4:=Tryz.sizeOf4
 v4:=Tryz.zeroValue4
 t9:=Tryz.underlying9
 a9:=Tryz.isAgg9
 z9:=Tryz.sizeOf9
 v9:=Tryz.zeroValue9
 t20:=Tryz.underlying20
 a20:=Tryz.isAgg20
 z20:=Tryz.sizeOf20
 v20:=Tryz.zeroValue20
 t31:=Tryz.underlying39
 a31:=Tryz.isAgg39
 z31:=Tryz.sizeOf39
 v31:=Tryz.zeroValue39
 t37:=Tryz.underlying277
 a37:=Tryz.isAgg277
 z37:=Tryz.sizeOf277
 v37:=Tryz.zeroValue277
 t70:=Tryz.underlying309
 a70:=Tryz.isAgg309
 z70:=Tryz.sizeOf309
 v70:=Tryz.zeroValue309
 t72:=Tryz.underlying311
 a72:=Tryz.isAgg311
 z72:=Tryz.sizeOf311
 v72:=Tryz.zeroValue311
 t75:=Tryz.underlying313
 a75:=Tryz.isAgg313
 z75:=Tryz.sizeOf313
 v75:=Tryz.zeroValue313
 t76:=Tryz.underlying314
 a76:=Tryz.isAgg314
 z76:=Tryz.sizeOf314
 v76:=Tryz.zeroValue314
 t127:=Tryz.underlying390
 a127:=Tryz.isAgg390
 z127:=Tryz.sizeOf390
 v127:=Tryz.zeroValue390
 t164:=Tryz.underlying431
 a164:=Tryz.isAgg431
 z164:=Tryz.sizeOf431
 v164:=Tryz.zeroValue431 }
theorem Tryz.gN:Builder.Extra prog Tryz.pF:={
 sizeBuilder:=Vg
 liesBuilder:=Vg
 t5:=Tryz.underlying5
 a5:=Tryz.isAgg5
 z5:=Tryz.sizeOf5
 v5:=Tryz.zeroValue5
 infoByte:=Vg
 cellsByte:=Vg
 sizeByte:=Vg
 neB5:=by decide }
open Go.RowKit in
theorem Tryz.strings_Join_none (a:Option Addr) (c:Nat) (sep:ByteArray) (w:World):
  Calls prog 204 #[.slice a 0 c,.string sep] w λe w'=>e= .returned (.string ⟨#[]⟩)/\w'=w:=Any.strings_Join_none Tryz.DM Tryz.gN a c sep w
open Go.RowKit in
theorem Tryz.strings_Join (bk o c:Nat) (xs:List ByteArray) (sep:ByteArray) (w:World) (q:∀ (j:Nat) x,xs[j]? =Sh x->w.cell? ⟨bk,o+j,Sl⟩=Sh (.string x)) (z:bk<w.heap.size) (A:xs.length<=140737488355328) (s:xs.length<=c) (u:(Lib.join (xs.map (·.data.toList)) sep.data.toList).length<=140737488355328):
  Calls prog 204 #[.slice (Sh ⟨bk,o,Sl⟩) xs.length c,.string sep] w λe w'=>e= .returned (.string ⟨(Lib.join (xs.map (·.data.toList)) sep.data.toList).toArray⟩)/\Below w.heap.size w w':=Any.strings_Join Tryz.DM Tryz.gN bk o c xs sep w q z A s u
def Tryz.w4:Go.Shelf.Ren:=⟨fun|103=>305|210=>368|206=>340|n=>n,fun|9=>9|4=>4|24=>410|3=>3|n=>n,fun|n=>n⟩
theorem Tryz.M7:Go.Proofs.Lays.n103 prog Tryz.w4:={
 mixed:=Vg
 f103:=Tryz.func305.trans (ag Sh Vg)
 f206:=Tryz.func340.trans (ag Sh Vg)
 f210:=Tryz.func368.trans (ag Sh Vg)
 t3:=Tryz.underlying3
 a3:=Tryz.isAgg3
 z3:=Tryz.sizeOf3
 v3:=Tryz.zeroValue3
 t4:=Tryz.underlying4
 a4:=Tryz.isAgg4
 z4:=Tryz.sizeOf4
 v4:=Tryz.zeroValue4
 t9:=Tryz.underlying9
 a9:=Tryz.isAgg9
 z9:=Tryz.sizeOf9
 v9:=Tryz.zeroValue9
 t24:=Tryz.underlying410
 a24:=Tryz.isAgg410
 z24:=Tryz.sizeOf410
 v24:=Tryz.zeroValue410 }
open Go.RowKit in
theorem Tryz.strings_CutPrefix (s p:ByteArray) (w:World):
  Calls prog 305 #[.string s,.string p] w λe w'=>e= .returned (.tuple #[.string ⟨(Lib.trimPrefix s.data.toList p.data.toList).toArray⟩,.bool (Lib.hasPrefix s.data.toList p.data.toList)])/\w'=w:=Any.strings_CutPrefix Tryz.M7 s p w
def Tryz.xG:Go.Shelf.Ren:=⟨fun|122=>212|215=>291|n=>n,fun|3=>3|4=>4|n=>n,fun|n=>n⟩
theorem Tryz.MD:Go.Proofs.Lays.n122 prog Tryz.xG:={
 mixed:=Vg
 f122:=Tryz.func212.trans (ag Sh Vg)
 f215:=Tryz.func291.trans (ag Sh Vg)
 t3:=Tryz.underlying3
 a3:=Tryz.isAgg3
 z3:=Tryz.sizeOf3
 v3:=Tryz.zeroValue3
 t4:=Tryz.underlying4
 a4:=Tryz.isAgg4
 z4:=Tryz.sizeOf4
 v4:=Tryz.zeroValue4 }
open Go.RowKit in
theorem Tryz.cmp_Compare_int (x y:Int) (w:World):
  Calls prog 212 #[.int .i64 x,.int .i64 y] w λe w'=>e= .returned (.int .i64 (Lib.compareInt x y))/\w'=w:=Any.cmp_Compare_int Tryz.MD x y w
def Tryz.xz:Go.Shelf.Ren:=⟨fun|283=>334|n=>n,fun|3=>3|9=>9|4=>4|n=>n,fun|n=>n⟩
theorem Tryz.O5:Go.Proofs.Lays.n283 prog Tryz.xz:={
 mixed:=Vg
 f283:=Tryz.func334.trans (ag Sh Vg)
 t3:=Tryz.underlying3
 a3:=Tryz.isAgg3
 z3:=Tryz.sizeOf3
 v3:=Tryz.zeroValue3
 t4:=Tryz.underlying4
 a4:=Tryz.isAgg4
 z4:=Tryz.sizeOf4
 v4:=Tryz.zeroValue4
 t9:=Tryz.underlying9
 a9:=Tryz.isAgg9
 z9:=Tryz.sizeOf9
 v9:=Tryz.zeroValue9 }
open Go.Lib in
theorem Tryz.internal_strconv_small (i:Nat) (h:i<100) (w:World):
  Calls prog 334 #[.int .i64 i] w λe w'=>e= .returned (.string ⟨(Lib.decDigits i).toArray⟩)/\w'=w:=Any.internal_strconv_small Tryz.O5 i h w
def Tryz.vH:Go.Shelf.Ren:=⟨fun|284=>335|129=>225|317=>384|318=>385|n=>n,fun|53=>300|3=>3|212=>470|0=>0|4=>4|46=>205|5=>5|9=>9|n=>n,fun|17=>0|n=>n⟩
theorem Tryz.Jl:Go.Proofs.LaysM.n284 prog Tryz.vH:={
 mixed:=Vg
 f129:=Tryz.func225.trans (ag Sh Vg)
 f284:=Tryz.func335.trans (ag Sh Vg)
 f317:=Tryz.func384.trans (ag Sh Vg)
 f318:=Tryz.func385.trans (ag Sh Vg)
 t0:=Tryz.underlying0
 a0:=Tryz.isAgg0
 z0:=Tryz.sizeOf0
 v0:=Tryz.zeroValue0
 t3:=Tryz.underlying3
 a3:=Tryz.isAgg3
 z3:=Tryz.sizeOf3
 v3:=Tryz.zeroValue3
 t4:=Tryz.underlying4
 a4:=Tryz.isAgg4
 z4:=Tryz.sizeOf4
 v4:=Tryz.zeroValue4
 t5:=Tryz.underlying5
 a5:=Tryz.isAgg5
 z5:=Tryz.sizeOf5
 v5:=Tryz.zeroValue5
 t9:=Tryz.underlying9
 a9:=Tryz.isAgg9
 z9:=Tryz.sizeOf9
 v9:=Tryz.zeroValue9
 t46:=Tryz.underlying205
 a46:=Tryz.isAgg205
 z46:=Tryz.sizeOf205
 v46:=Tryz.zeroValue205
 t53:=Tryz.underlying300
 a53:=Tryz.isAgg300
 z53:=Tryz.sizeOf300
 v53:=Tryz.zeroValue300
 t212:=Tryz.underlying470
 a212:=Tryz.isAgg470
 z212:=Tryz.sizeOf470
 v212:=Tryz.zeroValue470
 g17:=Vg
 i0:=Vg
 i3:=Vg
 i4:=Vg
 i5:=Vg
 i9:=Vg
 i46:=Vg
 i53:=Vg
 i212:=Vg
 m17:=by kernel_rfl }
open Go.Lib in
theorem Tryz.internal_strconv_numDigits (u:Nat) (q:1<=u) (s:u<18446744073709551616) (w:World) (j:Lib.TabIs prog w "internal/strconv.uint64pow10" .u64 Lib.pow10Tab):
  Calls prog 335 #[.int .u64 u] w λe w'=>e= .returned (.int .i64 (Lib.nDigits u))/\w'=w:=Any.internal_strconv_numDigits Tryz.Jl u q s w j
def Tryz.xJ:Go.Shelf.Ren:=⟨fun|285=>336|n=>n,fun|37=>277|53=>300|3=>3|4=>4|51=>344|9=>9|5=>5|0=>0|n=>n,fun|n=>n⟩
theorem Tryz.Mr:Go.Proofs.Lays.n285 prog Tryz.xJ:={
 mixed:=Vg
 f285:=Tryz.func336.trans (ag Sh Vg)
 t0:=Tryz.underlying0
 a0:=Tryz.isAgg0
 z0:=Tryz.sizeOf0
 v0:=Tryz.zeroValue0
 t3:=Tryz.underlying3
 a3:=Tryz.isAgg3
 z3:=Tryz.sizeOf3
 v3:=Tryz.zeroValue3
 t4:=Tryz.underlying4
 a4:=Tryz.isAgg4
 z4:=Tryz.sizeOf4
 v4:=Tryz.zeroValue4
 t5:=Tryz.underlying5
 a5:=Tryz.isAgg5
 z5:=Tryz.sizeOf5
 v5:=Tryz.zeroValue5
 t9:=Tryz.underlying9
 a9:=Tryz.isAgg9
 z9:=Tryz.sizeOf9
 v9:=Tryz.zeroValue9
 t37:=Tryz.underlying277
 a37:=Tryz.isAgg277
 z37:=Tryz.sizeOf277
 v37:=Tryz.zeroValue277
 t51:=Tryz.underlying344
 a51:=Tryz.isAgg344
 z51:=Tryz.sizeOf344
 v51:=Tryz.zeroValue344
 t53:=Tryz.underlying300
 a53:=Tryz.isAgg300
 z53:=Tryz.sizeOf300
 v53:=Tryz.zeroValue300 }
open Go.RowKit Go.Sort Go.Lib in
theorem Tryz.internal_strconv_formatBase10 (blk off cap:Nat) (u:Nat) (d:Array UInt8) (w:World) (s:Holds (λ(b:UInt8)=>Value.int .u8 (b.toNat:Int)) w blk off d) (z:u<10^d.size) (j:u<18446744073709551616) (q:d.size<4611686018427387904):
  Calls prog 336 #[.slice (Sh ⟨blk,off,Sl⟩) d.size cap,.int .u64 u] w λe w'=>
   e= .returned (.tuple #[])/\∃(n v':Nat)(dk:Array UInt8),w'=(putRow (fun(b:UInt8)=>Value.int .u8 (b.toNat:Int)) w blk off dk).drewN n/\FmtInv d.size u 0 v' dk:=Any.internal_strconv_formatBase10 Tryz.Mr blk off cap u d w s z j q
def Tryz.vG:Go.Shelf.Ren:=⟨fun|14=>306|16=>369|17=>370|19=>403|20=>404|21=>405|22=>406|23=>407|24=>408|25=>433|27=>435|26=>434|28=>442|29=>445|30=>334|31=>335|32=>336|33=>337|35=>225|34=>384|36=>385|37=>386|38=>387|39=>418|40=>419|n=>n,fun|9=>9|3=>3|22=>300|24=>313|25=>412|4=>4|34=>483|5=>5|36=>205|37=>277|0=>0|39=>485|21=>21|44=>502|47=>390|50=>513|48=>511|2=>2|52=>434|55=>436|59=>470|60=>344|20=>20|61=>471|65=>507|66=>508|67=>190|n=>n,fun|0=>2|1=>3|2=>0|3=>4|4=>5|n=>n⟩
theorem Tryz.Ka:Go.Proofs.LaysPu.n14 prog Tryz.vG:={
 mixed:=Vg
 f14:=Tryz.func306.trans (ag Sh Vg)
 f16:=Tryz.func369.trans (ag Sh Vg)
 f17:=Tryz.func370.trans (ag Sh Vg)
 f19:=Tryz.func403.trans (ag Sh Vg)
 f20:=Tryz.func404.trans (ag Sh Vg)
 f21:=Tryz.func405.trans (ag Sh Vg)
 f22:=Tryz.func406.trans (ag Sh Vg)
 f23:=Tryz.func407.trans (ag Sh Vg)
 f24:=Tryz.func408.trans (ag Sh Vg)
 f25:=Tryz.func433.trans (ag Sh Vg)
 f26:=Tryz.func434.trans (ag Sh Vg)
 f27:=Tryz.func435.trans (ag Sh Vg)
 f28:=Tryz.func442.trans (ag Sh Vg)
 f29:=Tryz.func445.trans (ag Sh Vg)
 f30:=Tryz.func334.trans (ag Sh Vg)
 f31:=Tryz.func335.trans (ag Sh Vg)
 f32:=Tryz.func336.trans (ag Sh Vg)
 f33:=Tryz.func337.trans (ag Sh Vg)
 f34:=Tryz.func384.trans (ag Sh Vg)
 f35:=Tryz.func225.trans (ag Sh Vg)
 f36:=Tryz.func385.trans (ag Sh Vg)
 f37:=Tryz.func386.trans (ag Sh Vg)
 f38:=Tryz.func387.trans (ag Sh Vg)
 f39:=Tryz.func418.trans (ag Sh Vg)
 f40:=Tryz.func419.trans (ag Sh Vg)
 t0:=Tryz.underlying0
 a0:=Tryz.isAgg0
 z0:=Tryz.sizeOf0
 v0:=Tryz.zeroValue0
 i0:=Vg
 t2:=Tryz.underlying2
 a2:=Tryz.isAgg2
 z2:=Tryz.sizeOf2
 v2:=Tryz.zeroValue2
 i2:=Vg
 t3:=Tryz.underlying3
 a3:=Tryz.isAgg3
 z3:=Tryz.sizeOf3
 v3:=Tryz.zeroValue3
 i3:=Vg
 t4:=Tryz.underlying4
 a4:=Tryz.isAgg4
 z4:=Tryz.sizeOf4
 v4:=Tryz.zeroValue4
 i4:=Vg
 t5:=Tryz.underlying5
 a5:=Tryz.isAgg5
 z5:=Tryz.sizeOf5
 v5:=Tryz.zeroValue5
 i5:=Vg
 t9:=Tryz.underlying9
 a9:=Tryz.isAgg9
 z9:=Tryz.sizeOf9
 v9:=Tryz.zeroValue9
 i9:=Vg
 t20:=Tryz.underlying20
 a20:=Tryz.isAgg20
 z20:=Tryz.sizeOf20
 v20:=Tryz.zeroValue20
 i20:=Vg
 t21:=Tryz.underlying21
 a21:=Tryz.isAgg21
 z21:=Tryz.sizeOf21
 v21:=Tryz.zeroValue21
 i21:=Vg
 t22:=Tryz.underlying300
 a22:=Tryz.isAgg300
 z22:=Tryz.sizeOf300
 v22:=Tryz.zeroValue300
 i22:=Vg
 t24:=Tryz.underlying313
 a24:=Tryz.isAgg313
 z24:=Tryz.sizeOf313
 v24:=Tryz.zeroValue313
 i24:=Vg
 t25:=Tryz.underlying412
 a25:=Tryz.isAgg412
 z25:=Tryz.sizeOf412
 v25:=Tryz.zeroValue412
 i25:=Vg
 t34:=Tryz.underlying483
 a34:=Tryz.isAgg483
 z34:=Tryz.sizeOf483
 v34:=Tryz.zeroValue483
 i34:=Vg
 c34:=Vg
 t36:=Tryz.underlying205
 a36:=Tryz.isAgg205
 z36:=Tryz.sizeOf205
 v36:=Tryz.zeroValue205
 i36:=Vg
 t37:=Tryz.underlying277
 a37:=Tryz.isAgg277
 z37:=Tryz.sizeOf277
 v37:=Tryz.zeroValue277
 i37:=Vg
 t39:=Tryz.underlying485
 a39:=Tryz.isAgg485
 z39:=Tryz.sizeOf485
 v39:=Tryz.zeroValue485
 i39:=Vg
 t44:=Tryz.underlying502
 a44:=Tryz.isAgg502
 z44:=Tryz.sizeOf502
 v44:=Tryz.zeroValue502
 i44:=Vg
 t47:=Tryz.underlying390
 a47:=Tryz.isAgg390
 z47:=Tryz.sizeOf390
 v47:=Tryz.zeroValue390
 i47:=Vg
 t48:=Tryz.underlying511
 a48:=Tryz.isAgg511
 z48:=Tryz.sizeOf511
 v48:=Tryz.zeroValue511
 i48:=Vg
 t50:=Tryz.underlying513
 a50:=Tryz.isAgg513
 z50:=Tryz.sizeOf513
 v50:=Tryz.zeroValue513
 i50:=Vg
 t52:=Tryz.underlying434
 a52:=Tryz.isAgg434
 z52:=Tryz.sizeOf434
 v52:=Tryz.zeroValue434
 i52:=Vg
 t55:=Tryz.underlying436
 a55:=Tryz.isAgg436
 z55:=Tryz.sizeOf436
 v55:=Tryz.zeroValue436
 i55:=Vg
 t59:=Tryz.underlying470
 a59:=Tryz.isAgg470
 z59:=Tryz.sizeOf470
 v59:=Tryz.zeroValue470
 i59:=Vg
 t60:=Tryz.underlying344
 a60:=Tryz.isAgg344
 z60:=Tryz.sizeOf344
 v60:=Tryz.zeroValue344
 i60:=Vg
 t61:=Tryz.underlying471
 a61:=Tryz.isAgg471
 z61:=Tryz.sizeOf471
 t65:=Tryz.underlying507
 a65:=Tryz.isAgg507
 z65:=Tryz.sizeOf507
 v65:=Tryz.zeroValue507
 i65:=Vg
 t66:=Tryz.underlying508
 a66:=Tryz.isAgg508
 z66:=Tryz.sizeOf508
 v66:=Tryz.zeroValue508
 i66:=Vg
 t67:=Tryz.underlying190
 a67:=Tryz.isAgg190
 z67:=Tryz.sizeOf190
 v67:=Tryz.zeroValue190
 i67:=Vg
 g0:=Vg
 m0:=Vg
 g1:=Vg
 m1:=Vg
 g2:=Vg
 m2:=Vg
 g3:=Vg
 m3:=Vg
 g4:=Vg
 m4:=by kernel_rfl }
open Go.RowKit in
theorem Tryz.strconv_ParseUint_10_at64_ok (s:ByteArray) (j:s.size<=9223372036854775806) (u:Nat) (h:Lib.parseUintB 64 s.data.toList= .ok u) (w:World):
  Calls prog 306 #[.string s,.int .i64 10,.int .i64 64] w λe w'=>e= .returned (.tuple #[.int .u64 u,.nilIface])/\(w'=w\/w'=Lib.bytesWorld w 5 s):=Any.strconv_ParseUint_10_at64_ok Tryz.Ka s j u h w
def Tryz.xD:Go.Shelf.Ren:=⟨fun|145=>232|220=>304|219=>367|217=>399|225=>400|224=>401|267=>402|266=>431|314=>432|n=>n,fun|9=>9|4=>4|59=>351|3=>3|5=>5|46=>205|146=>438|51=>344|n=>n,fun|1=>1|n=>n⟩
theorem Tryz.Om:Go.Proofs.Lays.n145 prog Tryz.xD:={
 mixed:=Vg
 f145:=Tryz.func232.trans (ag Sh Vg)
 f217:=Tryz.func399.trans (ag Sh Vg)
 f219:=Tryz.func367.trans (ag Sh Vg)
 f220:=Tryz.func304.trans (ag Sh Vg)
 f224:=Tryz.func401.trans (ag Sh Vg)
 f225:=Tryz.func400.trans (ag Sh Vg)
 f266:=Tryz.func431.trans (ag Sh Vg)
 f267:=Tryz.func402.trans (ag Sh Vg)
 f314:=Tryz.func432.trans (ag Sh Vg)
 t3:=Tryz.underlying3
 a3:=Tryz.isAgg3
 z3:=Tryz.sizeOf3
 v3:=Tryz.zeroValue3
 t4:=Tryz.underlying4
 a4:=Tryz.isAgg4
 z4:=Tryz.sizeOf4
 v4:=Tryz.zeroValue4
 t5:=Tryz.underlying5
 a5:=Tryz.isAgg5
 z5:=Tryz.sizeOf5
 v5:=Tryz.zeroValue5
 t9:=Tryz.underlying9
 a9:=Tryz.isAgg9
 z9:=Tryz.sizeOf9
 v9:=Tryz.zeroValue9
 t46:=Tryz.underlying205
 a46:=Tryz.isAgg205
 z46:=Tryz.sizeOf205
 v46:=Tryz.zeroValue205
 t51:=Tryz.underlying344
 a51:=Tryz.isAgg344
 z51:=Tryz.sizeOf344
 v51:=Tryz.zeroValue344
 t59:=Tryz.underlying351
 a59:=Tryz.isAgg351
 z59:=Tryz.sizeOf351
 v59:=Tryz.zeroValue351
 t146:=Tryz.underlying438
 a146:=Tryz.isAgg438
 z146:=Tryz.sizeOf438
 v146:=Tryz.zeroValue438
 g1:=by kernel_rfl }
open Go.RowKit Go.Lib in
theorem Tryz.strings_Cut (s sep:ByteArray) (m:Int) (w:World) (j:s.size<4294967281) (q:w.cell? ⟨1,0,Sl⟩=Sh (.int .i64 m)):
  Calls prog 232 #[.string s,.string sep] w λe w'=>e= .returned (.tuple #[.string ⟨(Lib.cut s.data.toList sep.data.toList).1.toArray⟩,.string ⟨(Lib.cut s.data.toList sep.data.toList).2.1.toArray⟩,.bool (Lib.cut s.data.toList sep.data.toList).2.2])/\∃n,w'=w.drewN n:=Any.strings_Cut Tryz.Om s sep m w j q
def Tryz.x8:Go.Shelf.Ren:=⟨fun|190=>344|125=>134|258=>390|128=>224|129=>225|302=>420|303=>421|304=>422|305=>423|306=>424|307=>425|308=>426|309=>427|310=>428|333=>439|329=>295|330=>296|334=>440|335=>441|336=>226|344=>444|n=>n,fun|31=>39|9=>9|3=>3|46=>205|0=>0|51=>344|53=>300|4=>4|183=>338|182=>337|131=>281|5=>5|218=>401|222=>405|228=>454|229=>455|n=>n,fun|n=>n⟩
theorem Tryz.CK:Go.Proofs.Lays.n190 prog Tryz.x8:={
 mixed:=Vg
 f125:=Tryz.func134.trans (ag Sh Vg)
 f128:=Tryz.func224.trans (ag Sh Vg)
 f129:=Tryz.func225.trans (ag Sh Vg)
 f190:=Tryz.func344.trans (ag Sh Vg)
 f258:=Tryz.func390.trans (ag Sh Vg)
 f302:=Tryz.func420.trans (ag Sh Vg)
 f303:=Tryz.func421.trans (ag Sh Vg)
 f304:=Tryz.func422.trans (ag Sh Vg)
 f305:=Tryz.func423.trans (ag Sh Vg)
 f306:=Tryz.func424.trans (ag Sh Vg)
 f307:=Tryz.func425.trans (ag Sh Vg)
 f308:=Tryz.func426.trans (ag Sh Vg)
 f309:=Tryz.func427.trans (ag Sh Vg)
 f310:=Tryz.func428.trans (ag Sh Vg)
 f329:=Tryz.func295.trans (ag Sh Vg)
 f330:=Tryz.func296.trans (ag Sh Vg)
 f333:=Tryz.func439.trans (ag Sh Vg)
 f334:=Tryz.func440.trans (ag Sh Vg)
 f335:=Tryz.func441.trans (ag Sh Vg)
 f336:=Tryz.func226.trans (ag Sh Vg)
 f344:=Tryz.func444.trans (ag Sh Vg)
 t0:=Tryz.underlying0
 a0:=Tryz.isAgg0
 z0:=Tryz.sizeOf0
 v0:=Tryz.zeroValue0
 t3:=Tryz.underlying3
 a3:=Tryz.isAgg3
 z3:=Tryz.sizeOf3
 v3:=Tryz.zeroValue3
 t4:=Tryz.underlying4
 a4:=Tryz.isAgg4
 z4:=Tryz.sizeOf4
 v4:=Tryz.zeroValue4
 t5:=Tryz.underlying5
 a5:=Tryz.isAgg5
 z5:=Tryz.sizeOf5
 v5:=Tryz.zeroValue5
 t9:=Tryz.underlying9
 a9:=Tryz.isAgg9
 z9:=Tryz.sizeOf9
 v9:=Tryz.zeroValue9
 t31:=Tryz.underlying39
 a31:=Tryz.isAgg39
 z31:=Tryz.sizeOf39
 v31:=Tryz.zeroValue39
 t46:=Tryz.underlying205
 a46:=Tryz.isAgg205
 z46:=Tryz.sizeOf205
 v46:=Tryz.zeroValue205
 t51:=Tryz.underlying344
 a51:=Tryz.isAgg344
 z51:=Tryz.sizeOf344
 v51:=Tryz.zeroValue344
 t53:=Tryz.underlying300
 a53:=Tryz.isAgg300
 z53:=Tryz.sizeOf300
 v53:=Tryz.zeroValue300
 t131:=Tryz.underlying281
 a131:=Tryz.isAgg281
 z131:=Tryz.sizeOf281
 v131:=Tryz.zeroValue281
 t182:=Tryz.underlying337
 a182:=Tryz.isAgg337
 z182:=Tryz.sizeOf337
 v182:=Tryz.zeroValue337
 t183:=Tryz.underlying338
 a183:=Tryz.isAgg338
 z183:=Tryz.sizeOf338
 v183:=Tryz.zeroValue338
 t218:=Tryz.underlying401
 a218:=Tryz.isAgg401
 z218:=Tryz.sizeOf401
 v218:=Tryz.zeroValue401
 t222:=Tryz.underlying405
 a222:=Tryz.isAgg405
 z222:=Tryz.sizeOf405
 v222:=Tryz.zeroValue405
 t228:=Tryz.underlying454
 a228:=Tryz.isAgg454
 z228:=Tryz.sizeOf454
 v228:=Tryz.zeroValue454
 t229:=Tryz.underlying455
 a229:=Tryz.isAgg455
 z229:=Tryz.sizeOf455
 v229:=Tryz.zeroValue455 }
open Go.Sort Go.RowKit in
theorem Tryz.slices_Sort_string (blk off cap:Nat) (ss:List (List UInt8)) (w:World) (s:Holds encStr w blk off ss.toArray) (j:blk<w.heap.size) (q:ss.length<4611686018427387904):
  Calls prog 344 #[.slice (Sh ⟨blk,off,Sl⟩) ss.length cap] w λe w'=>
   e= .returned (.tuple #[])/\∃n os,w'=grow (putRow encStr (Sort.ahead w n) blk off (ss.mergeSort λx y=>decide (x<=y)).toArray) os:=Any.slices_Sort_string Tryz.CK blk off cap ss w s j q
def Tryz.wx:Go.Shelf.Ren:=⟨fun|101=>375|208=>410|206=>340|n=>n,fun|9=>9|4=>4|3=>3|n=>n,fun|n=>n⟩
theorem Tryz.OK:Go.Proofs.Lays.n101 prog Tryz.wx:={
 mixed:=Vg
 f101:=Tryz.func375.trans (ag Sh Vg)
 f206:=Tryz.func340.trans (ag Sh Vg)
 f208:=Tryz.func410.trans (ag Sh Vg)
 t3:=Tryz.underlying3
 a3:=Tryz.isAgg3
 z3:=Tryz.sizeOf3
 v3:=Tryz.zeroValue3
 t4:=Tryz.underlying4
 a4:=Tryz.isAgg4
 z4:=Tryz.sizeOf4
 v4:=Tryz.zeroValue4
 t9:=Tryz.underlying9
 a9:=Tryz.isAgg9
 z9:=Tryz.sizeOf9
 v9:=Tryz.zeroValue9 }
open Go.RowKit Go.Lib in
theorem Tryz.strings_TrimPrefix (s p:ByteArray) (w:World):
  Calls prog 375 #[.string s,.string p] w λe w'=>e= .returned (.string ⟨(Lib.trimPrefix s.data.toList p.data.toList).toArray⟩)/\w'=w:=Any.strings_TrimPrefix Tryz.OK s p w
open Go.RowKit Go.Sort in
theorem Tryz.slices_Sort_string_none (p:Option Addr) (cap:Nat) (w:World):
  Calls prog 344 #[.slice p 0 cap] w λe w'=>e= .returned (.tuple #[])/\w'=w:=Any.slices_Sort_string_none Tryz.CK p cap w
end Go.Proofs
namespace Go.Proofs.YtoplpepiabedhaaGreatDoor
section
theorem Cy(w:World)(n:Nat):Below w.heap.size w (w.drewN n):=⟨O,O,O,BY _,λ_ _=>rfl⟩
theorem wg(w:World)(n:Nat)(os:Array Obj):Below w.heap.size w (Go.Sort.grow (w.drewN n) os):=by
 refine⟨O,O,O,?_,λk hk=>?_⟩
 .show w.heap.size<=(w.heap++os).size;simp
 .show(w.heap++os)[k]? =w.heap[k]?;rw[Ui hk]
theorem xQ(w:World)(e:TypeId)(s:ByteArray):Below w.heap.size w (Lib.bytesWorld w e s):=by
 refine⟨O,O,O,?_,λk hk=>Lib.bytesWorld_at_old w e s k hk⟩;rw[Lib.bytesWorld_size];omega
section
variable {P:Program}{f:FuncId}
theorem j8{w:World}{R:Nat->Prop}{s:ByteArray}{us:List Value}{ps:List PV}(h:RelPL w R (.str s::ps) us):∃vs,us= .string s::vs/\RelPL w R ps vs:=by
 simp only[RelPL]at h;obtain⟨u,vs,rfl,h1,h2⟩:=h;simp only[RelP]at h1;exact⟨vs,by rw[h1],h2⟩
theorem lW{w:World}{R:Nat->Prop}{k:IntKind}{n:Int}{us:List Value}{ps:List PV}(h:RelPL w R (.int k n::ps) us):∃vs,us= .int k n::vs/\RelPL w R ps vs:=by
 simp only[RelPL]at h;obtain⟨u,vs,rfl,h1,h2⟩:=h;simp only[RelP]at h1;exact⟨vs,by rw[h1],h2⟩
theorem lN{w:World}{R:Nat->Prop}{us:List Value}(h:RelPL w R [] us):us=[]:=by simpa only[RelPL]using h
end
theorem OU{w:World}{R:Nat->Prop}(h:ow w R):Lib.TabIs prog w "internal/strconv.uint64pow10" .u64 Lib.pow10Tab:=by
 obtain⟨_,o,h1,t,fz,rfl⟩:=h (0,_) (by simp only[glb];exact Su);have j:prog.globalNamed "internal/strconv.uint64pow10" =Sh 0:=Vg;simp only[Lib.TabIs,World.var?,j,Option.bind_some,h1];rfl
theorem Oe{w:World}{R:Nat->Prop}(h:ow w R):∃m:Int,w.cell? ⟨1,0,Sl⟩=Sh (.int .i64 m):=by
 obtain⟨_,o,h1,m,t,fz,rfl⟩:=h (1,_) (by simp only[glb];exact RX _ Su);exact⟨m,by simp[World.cell?,h1]⟩
theorem Fe(s sep:ByteArray)(j:s.size<4294967281):FnP prog 232 [.str s,.str sep] (· = .tup [.str ⟨(Lib.cut s.data.toList sep.data.toList).1.toArray⟩,.str ⟨(Lib.cut s.data.toList sep.data.toList).2.1.toArray⟩,.bool (Lib.cut s.data.toList sep.data.toList).2.2]):=by
 intro w R us hG hR hrel;obtain⟨v11,rfl,h11⟩:=j8 hrel;obtain⟨v12,rfl,h12⟩:=j8 h11;obtain rfl:=lN h12;obtain⟨m,hm⟩:=Oe hG;exact(Tryz.strings_Cut s sep m w j hm).mono λe w' ⟨he,n,hw⟩=>⟨_,_,he,O,by rw[hw];exact Cy w n,by simp[RelP,RelPL]⟩
theorem tK(s p:ByteArray):FnP prog 305 [.str s,.str p] (· = .tup [.str ⟨(Lib.trimPrefix s.data.toList p.data.toList).toArray⟩,.bool (Lib.hasPrefix s.data.toList p.data.toList)]):=by
 intro w R us hG hR hrel;obtain⟨v11,rfl,h11⟩:=j8 hrel;obtain⟨v12,rfl,h12⟩:=j8 h11;obtain rfl:=lN h12;exact(Tryz.strings_CutPrefix s p w).mono λe w' ⟨he,hw⟩=>⟨_,_,he,O,by rw[hw];exact Below.refl _ _,by simp[RelP,RelPL]⟩
theorem rK(s p:ByteArray):FnP prog 375 [.str s,.str p] (· = .str ⟨(Lib.trimPrefix s.data.toList p.data.toList).toArray⟩):=by
 intro w R us hG hR hrel;obtain⟨v11,rfl,h11⟩:=j8 hrel;obtain⟨v12,rfl,h12⟩:=j8 h11;obtain rfl:=lN h12;exact(Tryz.strings_TrimPrefix s p w).mono λe w' ⟨he,hw⟩=>⟨_,_,he,O,by rw[hw];exact Below.refl _ _,by simp only[RelP]⟩
theorem uG(s:ByteArray)(j:s.size<=9223372036854775806)(u:Nat)(q:Lib.parseUintB 64 s.data.toList= .ok u):FnP prog 306 [.str s,.int .i64 10,.int .i64 64] (· = .tup [.int .u64 (u:Int),.niliface]):=by
 intro w R us hG hR hrel;obtain⟨v11,rfl,h11⟩:=j8 hrel;obtain⟨v12,rfl,h12⟩:=lW h11;obtain⟨v13,rfl,h13⟩:=lW h12;obtain rfl:=lN h13;refine(Tryz.strconv_ParseUint_10_at64_ok s j u q w).mono λe w' ⟨he,hw⟩=>⟨_,_,he,O,?_,by simp[RelP,RelPL]⟩
 rcases hw with rfl|rfl
 .exact Below.refl _ _
 .exact xQ w _ s
theorem FF(x y:Int):FnP prog 212 [.int .i64 x,.int .i64 y] (· = .int .i64 (if x<y then-1 else if y<x then 1 else 0)):=by
 intro w R us hG hR hrel;obtain⟨v11,rfl,h11⟩:=lW hrel;obtain⟨v12,rfl,h12⟩:=lW h11;obtain rfl:=lN h12;exact(Tryz.cmp_Compare_int x y w).mono λe w' ⟨he,hw⟩=>⟨_,.int .i64 (if x<y then-1 else if y<x then 1 else 0),he,O,by rw[hw];exact Below.refl _ _,by simp only[RelP];rfl⟩
theorem Ij{w:World}{R:Nat->Prop}(l:List ByteArray):RelPL w R (bD l) (l.map Value.string):=by
 induction l with
 |nil=>exact RelPL.nil
 |cons x l ih=>exact RelPL.cons (by simp only[RelP]) ih
theorem nW{w:World}{R:Nat->Prop}:∀{l:List ByteArray}{us:List Value},RelPL w R (bD l) us->us=l.map Value.string
 |[],us,h=>by simpa[RelPL]using h
 | x::l,us,h=>by
   simp only[bP,RelPL]at h;obtain⟨u,vs,rfl,h1,h2⟩:=h;simp only[RelP]at h1;rw[h1,nW (l:=l) h2];rfl
theorem NN(xs:List ByteArray)(sep:ByteArray)(u:xs.length<=140737488355328)(q:(Lib.join (xs.map (·.data.toList)) sep.data.toList).length<=140737488355328):FnP prog 204 [a7 xs,.str sep] (· = .str ⟨(Lib.join (xs.map (·.data.toList)) sep.data.toList).toArray⟩):=by
 intro w R us hG hR hrel;simp only[RelPL]at hrel;obtain⟨u0,_,rfl,k0,u1,_,rfl,k1,rfl⟩:=hrel;simp only[RelP]at k1;subst k1;simp only[a7,RelP]at k0;obtain⟨A,c,rfl,hc,_,_,_,h5⟩:=k0;by_cases hne:bD xs=[]
 .have hx:xs=[]:=by simpa using hne
  subst hx;exact(Tryz.strings_Join_none A c sep w).mono λe w' ⟨he,hw⟩=>⟨_,_,he,O,by rw[hw];exact Below.refl _ _,by simp only[RelP];rfl⟩
 .obtain ⟨b,off,us,rfl,hr,hs⟩:=h5 hne;have e:us=xs.map Value.string:=nW hr;subst e;exact(Tryz.strings_Join b off c xs sep w (λj x hj=>by
   have s:j<xs.length:=(Rp.1 hj).1;rw[hs.2 j (by simpa using s),TD,hj];rfl) (hR b hs.1) u hc q).mono λe w' ⟨he,hb⟩=>⟨_,_,he,O,hb,by simp only[RelP]⟩
end
def kr(c:UInt8):Bool:=decide (48<=c.toNat)&&decide (c.toNat<=57)
def eI(l:List UInt8):Nat:=l.foldl (λa c=>a*10+(c.toNat-48)) 0
theorem DI(l:List UInt8)(a:Nat):l.foldl (λa c=>a*10+(c.toNat-48)) a=a*10^l.length+eI l:=by
 induction l generalizing a with
 |nil=>simp[eI]
 | cons c l ih=>
   have e:eI (c::l)=(0*10+(c.toNat-48))*10^l.length+eI l:=by rw[eI,Tf,ih]
   rw[Tf,ih,e,Rk,Tc,Va,U8,RV,Tj,SX 10,Nat.add_assoc]
theorem xy(a b:List UInt8):eI (a++b)=eI a*10^b.length+eI b:=by
 rw[eI,Uf,DI];rfl
theorem wY{l:List UInt8}(h:∀c∈l,kr c=Sm):eI l<10^l.length:=by
 suffices ∀a,l.foldl (λa c=>a*10+(c.toNat-48)) a<(a+1)*10^l.length by simpa[eI]using this 0
 induction l with
 |nil=>intro a;simp
 | cons c l ih=>
   intro a;have hc:=h c Vj;simp only[kr,sh,Rt]at hc;have:=ih (λd hd=>h d (by simp[hd])) (a*10+(c.toNat-48));rw[Tf,Rk,Tc,SX (10^l.length),<-Tj];exact RA this (SV _ Vf)
theorem Bt{l:List UInt8}(h:∀c∈l,kr c=Sm)(a:Nat)(j:(a+1)*10^l.length<=1000000000000000000):Lib.parseUintM (2^64-1) a l= .ok (l.foldl (λa c=>a*10+(c.toNat-48)) a):=by
 induction l generalizing a with
 |nil=>rfl
 | cons c l ih=>
   have hc:=h c Vj;simp only[kr,sh,Rt]at hc;rw[Rk,Tc,SX (10^l.length),<-Tj]at j;have q:1<=10^l.length:=Nat.pow_pos Vh;have s:(a+1)*10*1<=(a+1)*10*10^l.length:=Ss _ q;have u:(a+1)*10<=1000000000000000000:=Vf;rw[Lib.parseUintM,AT hc,dt Vf,dt Vf,Tf];exact ih (λd hd=>h d (by simp[hd])) _ (IT (SV _ Vf) j)
theorem I2{l:List UInt8}(h:∀c∈l,kr c=Sm)(j:l≠[])(q:l.length<=9):Lib.parseUintB 64 l= .ok (eI l):=by
 rw[Lib.parseUintB,dt j];refine Bt h 0 ?_;have:10^l.length<=10^9:=S6 Vh q;omega
def ay(s:ByteArray):List UInt8:=Lib.trimPrefix s.data.toList [45]
def j5(s:ByteArray):Bool:=Lib.hasPrefix s.data.toList [45]
def rdZ(s:ByteArray):Int:=sgn (j5 s) (eI (ay s))
theorem read_step{D:List UInt8}{z lo k V:Nat}(s:z<=D.length)(q:lo=z-9)(h:eI D=eI (D.take z)*1000000000^k+V):
  eI D=eI (D.take lo)*1000000000^(k+1)+(V+1000000000^k*eI ((D.drop lo).take (z-lo))):=by
 have e:D.take z=D.take lo++(D.drop lo).take (z-lo):=by
  rw[<-List.take_add,show lo+(z-lo)=z by omega]
 have j:((D.drop lo).take (z-lo)).length=z-lo:=by simp;omega
 rw[e,xy,j]at h;rw[h];generalize eI ((D.drop lo).take (z-lo))=u;by_cases h9:9<=z
 .have:z-lo=9:=Vf;rw[this,show(10:Nat)^9=1000000000 from O,Tc,Va,SX u,Tj,SX 1000000000 (1000000000^k)];omega
 .have:lo=0:=Vf;subst this;rw[UO];simp only[eI,List.foldl_nil,U8,RV];rw[SX u,UL]
attribute [simp] dE
theorem B0(l:List Nat)(n:Nat):bW l++[.int .u64 (n:Int)]=bW (l++[n]):=by simp[bW]
def kU(D:List UInt8)(z:Nat):Nat:=eI ((D.drop (z-9)).take (z-(z-9)))
theorem Jc(D:List UInt8)(a b:Nat):((⟨D.toArray⟩:ByteArray).extract a b).data.toList=(D.drop a).take (b-a):=by
 rw[ByteArray.extract_mk]
theorem GN{D:List UInt8}(j:∀c∈D,kr c=Sm){z:Nat}(q:0<z/\z<=D.length):Lib.parseUintB 64 ((⟨D.toArray⟩:ByteArray).extract (z-9) z).data.toList= .ok (kU D z):=by
 rw[Jc];refine I2 (λc hc=>j c (TX (Uy hc))) (λe=>?_) Vk;have:=ag List.length e;simp at this;omega
theorem oM{D:List UInt8}(q:∀c∈D,kr c=Sm)(z:Nat):kU D z<1000000000:=by
 have:=wY (l:=(D.drop (z-9)).take (z-(z-9))) (λc hc=>q c (TX (Uy hc)));refine RA this ?_;have j:((D.drop (z-9)).take (z-(z-9))).length<=9:=by simp;omega
 exact IT (S6 Vh j) Vh
section
theorem eJ(s:ByteArray)(G:∀c∈ay s,kr c=Sm)(J:(ay s).length<=1000000):FnP prog 233 [.str s] (· =dR (rdZ s)):=by
 refine FnP.ofC func233 O ntmps233 Vj λm0 w0 F R0=>?_
 have q:FnP prog 305 [.str s,.str ⟨#[45]⟩] (· = .tup [.str ⟨(ay s).toArray⟩,.bool (j5 s)]):=tK s ⟨#[45]⟩;have u:(⟨(ay s).toArray⟩:ByteArray).size=(ay s).length:=by simp[ByteArray.size]
 refine Z1 O<|Z1 O<|Rs O (aa call305 q O) ?_;iterate 5 refine A1 O ?_
 refine Z1 O<|Q4 (Ra 5 1 1 300 O O)<|Z1 O<|Rs O (XJ.cast (v':= pIi ((ay s).length:Int)) (Ep underlying9 O) (ag (fun(i:Nat)=>pIi (i:Int)) u))<|A1 O ?_;refine Gl O (st:=λVn:Int×List Nat=>mkS [(2,.ptr 0 0),(3,.pv (.str ⟨(ay s).toArray⟩)),(4,.pv (.bool (j5 s))),(5,.gsl 1 1 Vn.2.length),(6,pIi Vn.1)] [(0,.mix 114 [.pv (.bool S1),.pv nS]),(1,.gro 300 (bW Vn.2))] 2)
  (I:=λVn=>Vn.1<=((ay s).length:Int)/\ -9<Vn.1/\Lok Vn.2/\Vn.2.length+Vn.1.toNat<=(ay s).length/\eI (ay s)=eI ((ay s).take Vn.1.toNat)*1000000000^Vn.2.length+val Vn.2) (μ:=λVn=>Vn.1.toNat) (x0:=(((ay s).length:Int),[])) (Q5 (aS O) (aO O) O O) (⟨Int.le_refl _,Vf,λ_ h=>absurd h Vj,Vj,by simp[val]⟩) ?_
 rintro⟨z,l⟩ ⟨hz,hz9,hok,hll,hv⟩;try simp only at hz hz9 hok hll hv ⊢
 refine Z2 O<|Gp O (λj=>?_) (λj=>?_)
 .refine Q3 ?_
  repeat apply Rh
  refine AW.block ?_;have H:0<z:=j;have A:(if z-9>0 then z-9 else 0)=((z.toNat-9:Nat):Int):=by split<;>omega
  have B:z=((z.toNat:Nat):Int):=Vf;have D:=GN G (z:=z.toNat) ⟨Vf,Vf⟩;refine Z3 O<|Rs O (XJ.cast (v':= pIi ((z.toNat-9:Nat):Int)) (AK O O) (ag (λi=>pIi i) A))<|Rs O (XJ.cast (v':= pIi ((z.toNat:Nat):Int)) lH (ag (λi=>pIi i) B))<|A1 O<|Rs O (aa call306 (uG _ Vk _ D) O) ?_;iterate 5 refine A1 O ?_
  refine Gr O ?_;iterate 5 refine A1 O ?_
  exact Z3 O<|⟨(z-9,l++[kU (ay s) z.toNat]),Q6 [0,3] ⟨O,O,O,by simp only[IS,RD];rfl,O,Vm⟩ ⟨O,ag (λc=>Sh (Ob.gro 300 c)) (B0 _ _),Vm⟩ O O Vh O,⟨Vf,Vf,hok.append (λb hb=>by rw[Rn.1 hb];exact oM G _),by rw[IS,RD];omega,by rw[IS,RD,dF,val_one,show(z-9).toNat=z.toNat-9 by omega];exact read_step Vf O hv⟩,Vf⟩
 .refine Gx O<|Q4 (Q8 1 O O) ?_;have E:z.toNat=0:=Vf;rw[E,UO,show eI []=0 from O,U8,RV]at hv;exact Z2 O<|Rs O (aa call183 (cA l O Vf hok hv.symm) O)<|Rs O (aa call182 (bC _ _) O)<|A1 O<|Gt O<|⟨_,_,O,O,⟨az ⟨_,underlying114,O⟩ iV O O O,Vm⟩,O⟩
end
section
open Mk
theorem gE(s:ByteArray)(k:Nat)(h:k<s.size):s.data.toList.getD k 0=s[k]'h:=by
 rw[Rj,Hj (by simpa using h)];rfl
def pr(c:UInt8):Bool:= !(((decide ((c.toNat:Int)>=97)&&decide ((c.toNat:Int)<=122))||(decide ((c.toNat:Int)>=48)&&decide ((c.toNat:Int)<=57)))||((c.toNat:Int)==45))
theorem vR(k:Nat)(z:0<k)(c:UInt8):pr c= !pW k c.toNat:=by
 unfold pr pW;generalize c.toNat=n;have q:decide (k≠0)=Sm:=Ru Vf;have s:((n:Int)==45)=(n==45):=by
  by_cases h:n=45
  .subst h;rfl
  .have j:(n:Int)≠45:=Vf;rw[SL.2 j,SL.2 h]
 have j:(decide ((n:Int)>=97)&&decide ((n:Int)<=122))=decide (97<=n/\n<=122):=by
  rw[RJ];simp;omega
 have u:(decide ((n:Int)>=48)&&decide ((n:Int)<=57))=decide (48<=n/\n<=57):=by
  rw[RJ];simp;omega
 rw[q,s,j,u];cases decide (97<=n/\n<=122)<;>cases (n==45)<;>cases decide (48<=n/\n<=57)<;>rfl
theorem KR(s:ByteArray)(h:s.size=0\/12<s.size):gL s=S1:=by
 unfold gL;rw[sQ];have:s.data.toList.length=s.size:=RE;rw[this];rcases h with h|h
 .rw[Rv (show ¬1<=s.size by omega)];simp
 .rw[Rv (show ¬s.size<=12 by omega)];simp
theorem Np(n:Nat):pW 0 n=decide (97<=n/\n<=122):=by unfold pW;simp
def zh(s:ByteArray):Bool:=((((s.size:Int)==0)||decide ((s.size:Int)>12))||decide (((s.data.toList.getD 0 0).toNat:Int)<97))||decide (((s.data.toList.getD 0 0).toNat:Int)>122)
theorem OX{s:ByteArray}(h:zh s=Sm):gL s=S1:=by
 unfold zh at h;simp only[Sg,S0,Rt]at h;by_cases hl:s.size=0\/12<s.size
 .exact KR s hl
 .refine xH s 0 Vf ?_;rw[Np];exact Rv Vf
theorem JZ{s:ByteArray}(h:zh s=S1):(1<=s.size/\s.size<=12)/\pW 0 (s.data.toList.getD 0 0).toNat=Sm:=by
 unfold zh at h;simp only[R7,SL,S8]at h;refine⟨Vf,?_⟩;rw[Np];exact Ru Vf
theorem OR{s:ByteArray}(u:pW 0 (s.data.toList.getD 0 0).toNat=Sm){k:Nat}(j:k<s.size)(hc:pr (s[k]'j)=Sm):gL s=S1:=by
 have q:=gE s k j;rcases SY k with e|e
 .exfalso;subst e;rw[q,Np]at u;have:=Tm u;unfold pr at hc;rw[Ru (show((s[0]'j).toNat:Int)>=97 by omega),Ru (show((s[0]'j).toNat:Int)<=122 by omega)]at hc;simp at hc
 .refine xH s k j ?_;rw[q];rw[vR k e]at hc;simpa using hc
theorem IF{s:ByteArray}(q:pW 0 (s.data.toList.getD 0 0).toNat=Sm){k:Nat}(j:k<s.size)(hc:pr (s[k]'j)=S1):pW k (s.data.toList.getD k 0).toNat=Sm:=by
 rcases SY k with e|e
 .subst e;exact q
 .rw[gE s k j];rw[vR k e]at hc;simpa using hc
theorem qJ(s:ByteArray)(H:s.size<=9223372036854775807):FnP prog 172 [.str s] (· = .bool (gL s)):=by
 refine FnP.of func172 O ntmps172 Vj λm0 w0 F R0=>?_
 have E:s.data.toList.length=s.size:=RE;refine Z1 O ?_;have z:((s.size:Int)==0||decide ((s.size:Int)>12))=S1->0<s.size:=λh=>by simp only[R7,SL,S8]at h;omega
 refine Z4 O ?_;apply Re 4 7 11 [8,9,10] O Vp
 .intro hb3;iterate 4 refine A1 O ?_
  exact Q7 Vo O O O
 .intro hb3;iterate 4 refine A1 O ?_
  exact Q7 Vo O O O
 refine A1 O ?_;apply Re 4 12 16 [13,14,15] O Vp
 .intro hb8;iterate 4 refine A1 O ?_
  exact Q7 Vo O O O
 .intro hb8;have B:=z hb8;exact A1 O<|Rg O (bB 0 underlying9 O O O B)<|Rg O ((aC O O O).cast (v':= .pv (.bool (decide (((s.data.toList.getD 0 0).toNat:Int)<97)))) (by rw[gE s 0 B]))<|A1 O<|Q7 Vo O O O
 refine A1 O ?_;apply Re 4 17 21 [18,19,20] O Vp
 .intro hb13;iterate 4 refine A1 O ?_
  exact Q7 Vo O O O
 .intro hb13;have B:=z (by rw[R7]at hb13;exact hb13.1);exact A1 O<|Rg O (bB 0 underlying9 O O O B)<|Rg O ((aC O O O).cast (v':= .pv (.bool (decide (((s.data.toList.getD 0 0).toNat:Int)>122)))) (by rw[gE s 0 B]))<|A1 O<|Q7 Vo O O O
 refine Gc O (λq=>?_) (λq=>?_)
 .exact Z1 O<|Gt O<|⟨_,_,O,O,ag PV.bool (OX q).symm⟩
 .obtain⟨hsz2,hok0⟩:=JZ q;refine Q3<|Z1 O<|Gl O (st:=λVn:Nat=>mkS [(0,.pv (.str s)),(3,pIi Vn)] [] 0)
   (I:=λVn=>Vn<=s.size/\∀j,j<Vn->pW j (s.data.toList.getD j 0).toNat=Sm) (μ:=λVn=>s.size-Vn) (x0:=(0)) (Q5 (aS O) trivial O O) (⟨cd _,λj hj=>absurd hj (Tu _)⟩) ?_
  rintro k ⟨hk,hall⟩;refine Z4 O<|Gp O (λD=>?_) (λD=>?_)
  .have hlt:k<s.size:=Vf;have G:=gE s k hlt;refine Q3<|Z2 O<|Rs O (bB k underlying9 O O O hlt)<|Y2 O ?_;apply Rf 5 32 37 [33,34,35,36] O Vp
   .intro hb4;exact Y2 O<|Rg O (bB k underlying9 O O O hlt)<|Y2 O<|Q7 Vo O O O
   .intro hb4;iterate 5 refine A1 O ?_
    exact Q7 Vo O O O
   refine A1 O ?_;apply Re 11 38 49 [39,40,41,42,43,44,45,46,47,48] O Vp
   .intro hb10;iterate 11 refine A1 O ?_
    exact Q7 Vo O O O
   .intro hb10;refine Y2 O<|Rg O (bB k underlying9 O O O hlt)<|Y2 O ?_;apply Rf 5 43 48 [44,45,46,47] O Vp
    .intro hb15;exact Y2 O<|Rg O (bB k underlying9 O O O hlt)<|Y2 O<|Q7 Vo O O O
    .intro hb15;iterate 5 refine A1 O ?_
     exact Q7 Vo O O O
    exact A1 O<|Q7 Vo O O O
   refine A1 O ?_;apply Re 5 50 55 [51,52,53,54] O Vp
   .intro hb22;iterate 5 refine A1 O ?_
    exact Q7 Vo O O O
   .intro hb22;exact Y2 O<|Rg O (bB k underlying9 O O O hlt)<|Y2 O<|Q7 Vo O O O
   refine A1 O<|Gc O (λu=>?_) (λu=>?_)
   .have hc:pr (s[k]'hlt)=Sm:=u;exact Z1 O<|Gt O<|⟨_,_,O,O,ag PV.bool (OR hok0 hlt hc).symm⟩
   .have hc:pr (s[k]'hlt)=S1:=u;have A:=IF hok0 hlt hc;exact Q3<|Z3 O<|⟨(k+1),Q5 (aS O) trivial O O,⟨Vf,λj hj=>by rcases SP.1 hj with h|rfl;exact hall j h;exact A⟩,Vf⟩
  .exact Gx O<|Z1 O<|Gt O<|⟨_,_,O,O,ag PV.bool (by rw[yD s (λj hj=>hall j Vf),Ru hsz2.1,Ru hsz2.2];rfl)⟩
end
section
open Mk
def qe(D:List UInt8):Bool:= !D.isEmpty&&decide (D.length<=400)&&(D.getD 0 0 !=48)&&D.all kr
def bh(s:ByteArray):Bool:=(s.toList==(⟨#[48]⟩:ByteArray).toList)||qe (ay s)
theorem nQ{s:ByteArray}(h:(s.toList==(⟨#[48]⟩:ByteArray).toList)=Sm):bh s=Sm:=by rw[bh,h];rfl
theorem j9{s:ByteArray}(h:(s.toList==(⟨#[48]⟩:ByteArray).toList)=S1):bh s=qe (ay s):=by rw[bh,h];rfl
def mG(x:ByteArray):Bool:=(((x.toList==(⟨#[]⟩:ByteArray).toList)||decide ((x.size:Int)>400))||((((x.data.toList.getD 0 0).toNat:Nat):Int)==48))
theorem k7(x:ByteArray):(x.toList==(⟨#[]⟩:ByteArray).toList)=x.data.toList.isEmpty:=by
 rw[Lib.toList_data,Lib.toList_data];cases x.data.toList with
 |nil=>rfl
 |cons a l=>rfl
theorem Qq(c:UInt8):(((c.toNat:Nat):Int)==48)=(c==48):=by
 rw[RJ,S0,S0];constructor
 .intro h;exact UInt8.toNat_inj.1 (show c.toNat=(48:UInt8).toNat from Int.ofNat_inj.1 h)
 .intro h;rw[h];rfl
theorem vW(D:List UInt8):mG ⟨D.toArray⟩= !(!D.isEmpty&&decide (D.length<=400)&&(D.getD 0 0 !=48)):=by
 have j:(⟨D.toArray⟩:ByteArray).size=D.length:=by simp[ByteArray.size]
 rw[mG,k7,Qq,j];have q:decide ((D.length:Int)>400)= !decide (D.length<=400):=by
  rw[RJ];simp;omega
 rw[q];show(D.isEmpty|| !decide (D.length<=400)||(D.getD 0 0==48))=_;rw[bne];cases D.isEmpty<;>cases decide (D.length<=400)<;>cases (D.getD 0 0==48)<;>rfl
theorem sR{D:List UInt8}(h:mG ⟨D.toArray⟩=Sm):qe D=S1:=by
 rw[vW]at h;rw[qe];simp only[TB]at h;rw[h];rfl
theorem sM{D:List UInt8}(h:mG ⟨D.toArray⟩=S1):qe D=D.all kr/\0<D.length/\D.length<=400:=by
 rw[vW]at h;simp only[Bool.not_eq_false']at h;rw[qe,h];simp only[sh,Rt]at h;refine⟨O,?_,h.1.2⟩;cases D with
 |nil=>simp at h
 |cons a l=>simp
def Ig(c:UInt8):Bool:=decide ((c.toNat:Int)<48)||decide ((c.toNat:Int)>57)
theorem As(c:UInt8):Ig c= !kr c:=by
 rw[Ig,kr,RJ];simp;omega
theorem Ea{D:List UInt8}{k:Nat}(j:k<D.length)(h:Ig (D[k]'j)=Sm):D.all kr=S1:=by
 rw[As]at h;rw[Uj];exact⟨_,au j,by simpa using h⟩
theorem wU{D:List UInt8}(h:∀j,j<D.length->kr (D.getD j 0)=Sm):D.all kr=Sm:=by
 rw[Ri];intro c hc;obtain⟨j,hj,rfl⟩:=Sp hc;have:=h j hj;rwa [Rj,Hj hj]at this
theorem wR{D:List UInt8}{k:Nat}(j:k<D.length)(h:Ig (D[k]'j)=S1):kr (D.getD k 0)=Sm:=by
 rw[As]at h;rw[Rj,Hj j];simpa using h
theorem vpos{x:ByteArray}(h:((x.toList==(⟨#[]⟩:ByteArray).toList)||decide ((x.size:Int)>400))=S1):0<x.size:=by
 rw[R7,k7]at h;have j:=h.1;rw[Lib.size_eq];cases e:x.data.toList with
 |nil=>rw[e]at j;simp at j
 |cons a l=>simp
theorem dL(s:ByteArray):FnP prog 322 [.str s] (· = .bool (bh s)):=by
 refine FnP.of func322 O ntmps322 Vj λm0 w0 F R0=>?_
 have G:FnP prog 375 [.str s,.str ⟨#[45]⟩] (· = .str ⟨(ay s).toArray⟩):=rK s ⟨#[45]⟩;refine Z1 O<|Z2 O<|Gc O (λz=>?_) (λz=>?_)
 .exact Z1 O<|Gt O<|⟨_,_,O,O,ag PV.bool (nQ z).symm⟩
 .have hs:bh s=qe (ay s):=j9 z;clear z;generalize ay s=D at*;have H:=@sR D;have J:=@sM D;have T:(⟨D.toArray⟩:ByteArray).data.toList=D:=rfl;have U:(⟨D.toArray⟩:ByteArray).size=D.length:=by simp[ByteArray.size]
  refine Q3<|Z1 O<|Rs O (aa call375 G O)<|A1 O<|Z3 O ?_;apply Re 4 12 16 [13,14,15] O Vp
  .intro hb2;iterate 4 refine A1 O ?_
   exact Q7 Vo O O O
  .intro hb2;iterate 4 refine A1 O ?_
   exact Q7 Vo O O O
  refine A1 O ?_;apply Re 4 17 21 [18,19,20] O Vp
  .intro hb7;iterate 4 refine A1 O ?_
   exact Q7 Vo O O O
  .intro hb7;have M:=vpos hb7;exact A1 O<|Rg O (bB 0 underlying9 O O O M)<|Rg O ((aC O O O).cast (v':= .pv (.bool ((((((⟨D.toArray⟩:ByteArray).data.toList.getD 0 0).toNat:Nat):Int)==48)))) (by rw[gE _ 0 M]))<|A1 O<|Q7 Vo O O O
  refine Gc O (λq=>?_) (λq=>?_)
  .have L:mG ⟨D.toArray⟩=Sm:=q;exact Z1 O<|Gt O<|⟨_,_,O,O,ag PV.bool (hs.trans (H L)).symm⟩
  .obtain⟨hg2,hD0,hD4⟩:=J (show mG ⟨D.toArray⟩=S1 from q);refine Q3<|Z4 O<|Gl O (st:=λVn:Nat=>mkS [(23,.pv (.sl (Sh S1) D.length (aF D))),(24,pIi D.length),(25,pIi Vn)] [] 0)
    (I:=λVn=>Vn<=D.length/\∀j,j<Vn->kr (D.getD j 0)=Sm) (μ:=λVn=>D.length-Vn) (x0:=(0)) (Q5 (aS O) trivial O O) (⟨cd _,λj hj=>absurd hj (Tu _)⟩) ?_
   rintro k ⟨hk,hall⟩;refine Z1 O<|Gp O (λE=>?_) (λE=>?_)
   .have hlt:k<D.length:=Vf;have L:=oD hlt;have V:=nK hlt;have A:=Ea hlt;have B:=wR hlt;refine Q3 ?_
    repeat apply Rh
    refine AW.block ?_;generalize D[k]=c at A B L ⊢;refine Z1 O ?_;first|refine A2 O Vi ?_|refine A1 O ?_
    refine A1 O<|Z3 O ?_;apply Re 3 31 34 [32,33] O Vp
    .intro hb2;exact Y3 O<|Q7 Vo O O O
    .intro hb2;exact Y3 O<|Q7 Vo O O O
    refine Gc O (λu=>?_) (λu=>?_)
    .have hc:=A u;exact Z1 O<|Gt O<|⟨_,_,O,O,ag PV.bool (by rw[hs,hg2,hc])⟩
    .have hc:=B u;exact Q3<|Z2 O<|⟨(k+1),Q5 (aS O) trivial O O,⟨Vf,λj hj=>by rcases SP.1 hj with h|rfl;exact hall j h;exact hc⟩,Vf⟩
   .exact Gx O<|Z1 O<|Gt O<|⟨_,_,O,O,ag PV.bool (by rw[hs,hg2,wU λj hj=>hall j Vf])⟩
theorem bH{s:ByteArray}(h:bh s=Sm):(∀c∈ay s,kr c=Sm)/\(ay s).length<=400:=by
 rw[bh,Sg]at h;rcases h with h|h
 .rw[Lib.toList_data,Lib.toList_data,S0]at h;have e:ay s=[48]:=by rw[ay,h];rfl
  rw[e];exact⟨λc hc=>by rw[Rn.1 hc];rfl,Vh⟩
 .simp only[qe,sh,Rt,Ri]at h;exact⟨h.2,h.1.1.2⟩
theorem M5(s:ByteArray):(rdZ s).natAbs=eI (ay s):=xx _ _
theorem Nk{n k:Nat}(h:n<=9*k):10^n<=1000000000^k:=by
 rw[show(1000000000:Nat)=10^9 from O,<-Nat.pow_mul];exact S6 Vh h
theorem mj{a b:Nat}(h:a<=b):(ai a).length<=(ai b).length:=bj.2 (UN h (bj.1 (BY _)))
theorem rL{s:ByteArray}(h:bh s=Sm):(ai (rdZ s).natAbs).length<=400:=by
 obtain⟨h1,h2⟩:=bH h;rw[M5];obtain⟨k,hk⟩:∃k,k=400:=⟨_,O⟩;rw[<-hk]at h2 ⊢;exact bj.2 (RA (wY h1) (Nk Vf))
theorem lR(s:ByteArray)(h:bh s=Sm):FnP prog 326 [.str s] (· =dR (rdZ s)):=by
 refine FnP.ofC func326 O ntmps326 Vj λm0 w0 F R0=>?_
 have j:=bH h;exact Z1 O<|Z1 O<|Rs O (aa call233 (eJ s j.1 Vf) O)<|A1 O<|Gt O<|⟨_,_,O,O,⟨az ⟨_,underlying114,O⟩ iV O O O,Vm⟩,O⟩
theorem Gn(a b:ByteArray)(A:bh a=Sm)(B:bh b=Sm):FnP prog 323 [.str a,.str b] (· = .int .i64 (rdZ a-rdZ b).sign):=by
 refine FnP.of func323 O ntmps323 Vj λm0 w0 F R0=>?_
 have q:=dL a;have s:=dL b;have D:=rL A;have E:=rL B;have u:=lR a A;have z:=lR b B;rw[A]at q;rw[B]at s;refine Z1 O<|Z1 O<|Rs O (aa call322 q O)<|Y2 O ?_;apply Re 4 8 12 [9,10,11] O Vp
 .intro hb3;iterate 4 refine A1 O ?_
  exact Q7 Vo O O O
 .intro hb3;exact A1 O<|Rg O (aa call322 s O)<|Y2 O<|Q7 Vo O O O
 refine Gc O (λj=>absurd j Vj) (λj=>?_);exact Q3<|Z1 O<|Rs O (aa call326 u O)<|A1 O<|Rs O (aa call326 z O)<|Rs O (aa call98 (eU _ _ Vf Vf) O)<|A1 O<|Gt O<|⟨_,_,O,O,O⟩
def Oj(x y:Int):Prop:=FnP prog 299 [dR x,dR y] (· =dR (Int.gcd x y:Int))
def oa(s:ByteArray):ByteArray:=⟨(Lib.cut s.data.toList [47]).1.toArray⟩
def mP(s:ByteArray):ByteArray:=⟨(Lib.cut s.data.toList [47]).2.1.toArray⟩
def cf(s:ByteArray):Bool:=(Lib.cut s.data.toList [47]).2.2
def Ki:ByteArray:=⟨#[49]⟩
def zeroT:ByteArray:=⟨#[48]⟩
def Pe(s:ByteArray):Bool:=((oa s).toList==zeroT.toList)|| !bh (mP s)||decide (rdZ (mP s)<=1)
def oi(s:ByteArray):Bool:=if(!bh (oa s)|| !cf s)=Sm then !cf s&&bh (oa s)else !Pe s&&decide (Int.gcd (rdZ (oa s)) (rdZ (mP s))=1)
theorem sy:rdZ Ki=1:=Vh
theorem jz:bh Ki=Sm:=by rw[bh,Sg];exact .inr Vh
theorem MV(a:Int):decide ((a-1).sign<=0)=decide (a<=1):=by
 rw[RJ,Rt,Rt];rcases Int.lt_trichotomy (a-1) 0 with h|h|h
 .rw[Int.sign_eq_neg_one_of_neg h];omega
 .rw[h];simp;omega
 .rw[Int.sign_eq_one_of_pos h];omega
theorem sign_eq(a:Int):((a-1).sign==0)=decide (a=1):=by
 rw[RJ,Rt,S0,Int.sign_eq_zero_iff_zero];omega
theorem jZ(s:ByteArray)(W:s.size<4294967281)(X:bh (oa s)=Sm->Pe s=S1->Oj (rdZ (oa s)) (rdZ (mP s))):FnP prog 252 [.str s] (· = .bool (oi s)):=by
 refine FnP.of func252 O ntmps252 Vj λm0 w0 F R0=>?_
 have A:FnP prog 232 [.str s,.str ⟨#[47]⟩] (· = .tup [.str (oa s),.str (mP s),.bool (cf s)]):=Fe s ⟨#[47]⟩ W;have B:=oi.eq_1 s;have L:=Pe.eq_1 s;generalize oi s=v at*;generalize Pe s=bad at*;generalize oa s=nu at*;generalize mP s=de at*;generalize cf s=ok at*;have D:=dL nu;have E:=dL de;refine Z1 O<|Z1 O<|Rs O (aa call232 A O) ?_;iterate 7 refine A1 O ?_
 refine Z1 O<|Rs O (aa call322 D O)<|Y2 O ?_;apply Re 3 15 18 [16,17] O Vp
 .intro hb3;exact Y3 O<|Q7 Vo O O O
 .intro hb3;exact Y3 O<|Q7 Vo O O O
 refine Gc O (λq=>?_) (λq=>?_)
 .rw[AT q]at B;refine Z3 O ?_;apply Rf 3 21 24 [22,23] O Vp
  .intro hb2;exact A1 O<|Rg O (aa call322 D O)<|A1 O<|Q7 Vo O O O
  .intro hb2;exact Y3 O<|Q7 Vo O O O
  exact A1 O<|Gt O<|⟨_,_,O,O,ag PV.bool B.symm⟩
 .rw[dt (by simpa using q)]at B;have z:bh nu=Sm:=by simp only[R7]at q;simpa using q.1
  refine Q3<|Z3 O ?_;apply Re 4 27 31 [28,29,30] O Vp
  .intro hb2;iterate 4 refine A1 O ?_
   exact Q7 Vo O O O
  .intro hb2;exact A1 O<|Rg O (aa call322 E O)<|Y2 O<|Q7 Vo O O O
  refine A1 O ?_;apply Re 4 32 36 [33,34,35] O Vp
  .intro hb7;iterate 4 refine A1 O ?_
   exact Q7 Vo O O O
  .intro hb7;have u:bh de=Sm:=by simp only[R7]at hb7;simpa using hb7.2
   exact A1 O<|Rg O (aa call323 (Gn de Ki u jz) O)<|Rg O ((aC O O O).cast (v':= .pv (.bool (decide (rdZ de<=1)))) (ag (λb=>V.pv (.bool b)) (by rw[sy,MV])))<|A1 O<|Q7 Vo O O O
  refine Gc O (λj=>?_) (λj=>?_)
  .have hbt:bad=Sm:=L.trans j;exact Z1 O<|Gt O<|⟨_,_,O,O,ag PV.bool (by rw[B,hbt];rfl)⟩
  .have hbt:bad=S1:=L.trans j;have G:=X z hbt;refine Q3 ?_;have u:bh de=Sm:=by simp only[R7]at j;simpa using j.1.2
   have M:=rL z;have T:=rL u;have H:=eJ nu (bH z).1 (by have:=(bH z).2;omega);have I:=eJ de (bH u).1 (by have:=(bH u).2;omega);have U:1<rdZ de:=by simp only[R7,S8]at j;omega
   have J:(ai (Int.gcd (rdZ nu) (rdZ de):Int).natAbs).length<=1000000:=by rw[R4];exact IT (mj (Nat.le_of_dvd Vf (Nat.gcd_dvd_right _ _))) Vf
   exact Z1 O<|Rs O (aa call233 H O)<|A1 O<|Rs O (aa call233 I O)<|Rs O (aa call299 G O)<|Rs O (aa call94 (jr 1 Vh Vh) O)<|Rs O (aa call98 (eU _ _ J (by rw[fA Vh Vh];decide)) O)<|Y2 O<|Gt O<|⟨_,_,O,O,ag PV.bool (by rw[B,hbt,sign_eq];simp;omega)⟩
end
namespace Jn
structure Rw where
 v:List ByteArray
 w:Int
theorem GA{a b:ByteArray}(h:a.data.toList=b.data.toList):a=b:=ByteArray.ext (Array.ext' h)
def Bz(v:List ByteArray):List (List UInt8):=v.map (·.data.toList)
theorem zA:∀{a b:List ByteArray},Bz a=Bz b->a=b
 |[],[],_=>rfl
 |[],_::_,h=>by simp[Bz]at h
 |_::_,[],h=>by simp[Bz]at h
 | x::a,y::b,h=>by
   rw[Bz,bP,Bz,bP,Tz]at h;rw[GA h.1,zA (a:=a) (b:=b) h.2]
def br(a b:List ByteArray):Bool:=decide (Bz a<Bz b)
theorem mu(a:List ByteArray):br a a=S1:=Rv (List.lt_irrefl _)
theorem eZ{a b c:List ByteArray}(j:br a b=Sm)(q:br b c=Sm):br a c=Sm:=
 Ru (List.lt_trans (Tm j) (Tm q))
theorem kM{a b:List ByteArray}(j:br a b=S1)(q:br b a=S1):a=b:=
 zA (List.le_antisymm (List.not_lt.1 (Tn q)) (List.not_lt.1 (Tn j)))
def eM(x:Rw):List Rw->List Rw
 |[]=>[x]
 |y::l=>if br y.v x.v=Sm then y::eM x l else if y.v=x.v then⟨y.v,y.w+x.w⟩::l else x::y::l
def mQ(l:List Rw):List Rw:=(l.foldl (λout x=>eM x out) []).filter λx=>x.w !=0
def LO(l:List Rw):Prop:=l.Pairwise λa b=>br a.v b.v=Sm
theorem nx{x:Rw}:∀{l:List Rw}{y:Rw},y∈eM x l->y.v=x.v\/∃z∈l,y.v=z.v
 |[],y,h=>by rw[eM,Rn]at h;exact .inl (by rw[h])
 | z::l,y,h=>by
   rw[eM]at h;split at h
   .rcases AS.1 h with rfl|h
    .exact .inr ⟨_,Vj,O⟩
    .rcases nx h with e|⟨z',hz,e⟩
     .exact .inl e
     .exact .inr ⟨z',by simp[hz],e⟩
   .split at h
    .rcases AS.1 h with rfl|h
     .exact .inr ⟨z,Vj,O⟩
     .exact .inr ⟨y,by simp[h],O⟩
    .rcases AS.1 h with rfl|h
     .exact .inl O
     .exact .inr ⟨y,h,O⟩
theorem yl{x:Rw}:∀{l:List Rw},LO l->LO (eM x l)
 |[],_=>by rw[eM];exact List.pairwise_singleton _ _
 | z::l,h=>by
   have h':=Sa.1 h;rw[eM];split
   .rename_i hz;refine Sa.2 ⟨λy hy=>?_,yl h'.2⟩;rcases nx hy with e|⟨y',hy',e⟩
    .rw[e];exact hz
    .rw[e];exact h'.1 y' hy'
   .rename_i hz;split
    .exact Sa.2 ⟨λy hy=>h'.1 y hy,h'.2⟩
    .rename_i hne;have j:br x.v z.v=Sm:=by
      cases e:br x.v z.v with
      |true=>rfl
      |false=>exact absurd (kM (by simpa using hz) e) hne
     refine Sa.2 ⟨λy hy=>?_,h⟩;rcases AS.1 hy with rfl|hy
     .exact j
     .exact eZ j (h'.1 y hy)
def mv(l:List Rw):Int:=(l.map (·.w)).sum
theorem Au(x:Rw):∀l:List Rw,mv (eM x l)=mv l+x.w
 |[]=>by simp[eM,mv]
 | z::l=>by
   rw[eM];split
   .have:=Au x l;simp only[mv,bP,Se]at *; omega
   .split<;>(simp only[mv,bP,Se];omega)
theorem Ae{x:Rw}(j:0<x.w):∀{l:List Rw},(∀y∈l,0<y.w)->∀y∈eM x l,0<y.w
 |[],_,y,hy=>by rw[eM,Rn]at hy;rw[hy];exact j
 | z::l,h,y,hy=>by
   have hz:=h z Vj;have q:∀y∈l,0<y.w:=λy hy=>h y (by simp[hy])
   rw[eM]at hy;split at hy
   .rcases AS.1 hy with rfl|hy
    .exact hz
    .exact Ae j q y hy
   .split at hy
    .rcases AS.1 hy with rfl|hy
     .show 0<z.w+x.w;omega
     .exact q y hy
    .rcases AS.1 hy with rfl|hy
     .exact j
     .exact h y hy
theorem sY(x:Rw):∀l:List Rw,(eM x l).length<=l.length+1
 |[]=>by simp[eM]
 | z::l=>by
   rw[eM];split
   .have:=sY x l;simp only[Rk];omega
   .split<;>simp
structure SortOk(l out:List Rw):Prop where
 asc:LO out
 val:∀y∈out,∃z∈l,y.v=z.v
 tot:mv out=mv l
 pos:(∀z∈l,0<z.w)->∀y∈out,0<y.w
 len:out.length<=l.length
theorem F2:∀(l pre out:List Rw),SortOk pre out->SortOk (pre++l) (l.foldl (λout x=>eM x out) out)
 |[],pre,out,h=>by simpa using h
 | x::l,pre,out,h=>by
   have:=F2 l (pre++[x]) (eM x out) ⟨yl h.asc,λy hy=>by
    rcases nx hy with e|⟨z,hz,e⟩
    .exact⟨x,Vj,e⟩
    .obtain⟨z',hz',e'⟩:=h.val z hz;exact⟨z',by simp[hz'],e.trans e'⟩,by rw[Au,h.tot];simp[mv],λj=>Ae (j x Vj) (h.pos λz hz=>j z (by simp[hz])),by
    have q:=sY x out;have s:=h.len;simp only[IS,RD];omega⟩
   rw[Tf,show pre++x::l=(pre++[x])++l by simp];exact this
theorem jf{l:List Rw}(q:∀z∈l,0<z.w):SortOk l (mQ l):=by
 have h:=F2 l [] [] ⟨List.Pairwise.nil,λy hy=>absurd hy Vj,O,λ_ y hy=>absurd hy Vj,BY _⟩;rw[Sr]at h;have j:=h.pos q;have e:mQ l=l.foldl (λout x=>eM x out) []:=by
  rw[mQ,U0];intro y hy;have:=j y hy;simp only[bne_iff_ne,ne_eq];omega
 rw[e];exact h
theorem FO:∀{l:List Rw},(∀y∈l,0<y.w)->∀y∈l,y.w<=mv l
 | z::l,h,y,hy=>by
   have hl:∀y∈l,0<y.w:=λy hy=>h y (by simp[hy])
   have j:0<=mv l:=by
    clear h hy;induction l with
    |nil=>simp[mv]
    | cons a l ih=>
      have:=ih λy hy=>hl y (by simp[hy])
      have:=hl a Vj;simp only[mv,bP,Se]at *; omega
   have q:=h z Vj;have e:mv (z::l)=z.w+mv l:=by simp[mv]
   rcases AS.1 hy with rfl|hy
   .omega
   .have:=FO hl y hy;omega
end Jn
section
open Mk
theorem qy(l:List ByteArray)(k:Nat)(A:k<l.length)(G:l.length<=1000000)(D:l[k].size<=9223372036854775807):FnP prog 317 [a7 l,.int .i64 k] (· = .int .i64 (eX l k)):=by
 refine FnP.of func317 O ntmps317 Vj λm0 w0 F R0=>?_
 have E:=bE A;have B:=bA A;have s:l.getD k default=l[k]:=by simp[List.getD,A]
 have u:(bD l).take (k*1)=bD (l.take k):=Vj;have z:PV.sl Sl k (bD (l.take k))=a7 (l.take k):=by simp[a7];omega
 refine Z1 O<|Z3 O ?_;first|refine A2 O Vi ?_|refine A1 O ?_
 refine Rs O (aa call267 (vX l[k] D) O)<|Y2 O<|Gc O (λq=>?_) (λq=>?_)
 .exact Z1 O<|Gt O<|⟨_,_,O,O,ag (PV.int .i64) (by unfold eX;rw[s,AT (by simpa using q)])⟩
 .refine RW 9 O ?_;iterate 2 refine D1 O ?_
  refine Ds [] O (λτ h=>XJ.cast (v':= .pv (a7 (l.take k))) (di k underlying39 sz9 (Ee h 0 O O) (Ee h 1 O O) O Vf Vj) (by rw[u,z])) O Vg ?_;iterate 3 refine D1 O ?_
  first|refine D2 O O Vi ?_|refine D1 O ?_
  refine Ds [] O (λτ h=>aa call373 (qa (l.take k) l[k] Vk) (h.aK O)) O Vg<|D1 O ?_;refine⟨Vg,?_⟩;refine Gc O (λj=>?_) (λj=>?_)
  .exact Z1 O<|Gt O<|⟨_,_,O,O,ag (PV.int .i64) (by unfold eX;rw[s,dt (by simpa using q),AT j])⟩
  .exact Q3<|Z1 O<|Gt O<|⟨_,_,O,O,ag (PV.int .i64) (by unfold eX;rw[s,dt (by simpa using q),dt (by simp[j])])⟩
structure SB(S:Sch):Prop where
 a:S.attrs.length<=1000000
 r:S.rels.length<=1000000
 f:S.feats.length<=1000000
 an:∀x∈S.attrs,x.1.size<=9223372036854775807
 rn:∀x∈S.rels,x.1.size<=9223372036854775807
 rl:∀x∈S.rels,x.2.length<=1000000
theorem ln{l:List (ByteArray×Int)}{k:Nat}(h:k<l.length):((aG l).drop (k*2)).take 2=[.str l[k].1,.int .i64 l[k].2]:=cC _ 2 (λ_=>rfl) l k h
theorem iu{l:List (ByteArray×Int)}{k:Nat}(h:k<l.length):aG l≠[]:=λe=>by have:=js l;rw[e]at this;simp at this;omega
theorem vk(L:List ByteArray)(x:ByteArray):bD (L++[x])=bD L++[.str x]:=Vj
theorem qF(L:List ByteArray)(x:ByteArray):a7 (L++[x])= .sl Sl (L.length+1) (bD L++[.str x]):=Vj
theorem qT{l:List ByteArray}{k n:Nat}(h:k<n):eX (l.take n) k=eX l k:=by
 unfold eX;have j:(l.take n).getD k default=l.getD k default:=by simp[List.getD,Ry,h]
 have q:(l.take n).take k=l.take k:=by rw[List.take_take,SG Vf]
 rw[j,q]
theorem bX{α:Type}{l:List α}{k:Nat}(h:k<l.length):l.take (k+1)=l.take k++[l[k]]:=AI h
theorem pP(S:Sch)(hS:SB S):FnP prog 247 [eS S] (· = .int .i64 (bO (fU S) S.attrs.length)):=by
 refine FnP.of func247 O ntmps247 Vj λm0 w0 F R0=>?_
 have J:=hS.a;have E:=js S.attrs;refine Z2 O<|Z1 O<|Q4 (Ra 3 1 1 9 O O)<|Z4 O<|Gl O (st:=λVn:Nat×List ByteArray=>mkS [(3,.gsl 1 1 Vn.2.length),(8,.pv (.sl Sl S.attrs.length (aG S.attrs))),(9,pIi S.attrs.length),(10,pIi Vn.1)] [(1,.gro 9 (bD Vn.2))] 2)
  (I:=λVn=>Vn.1<=S.attrs.length/\Vn.2=(S.attrs.map (·.1)).take Vn.1/\bO (fU S) Vn.1=0) (μ:=λVn=>S.attrs.length-Vn.1) (x0:=(0,[])) (Q5 (aS O) (aO O) O O) (⟨cd _,O,O⟩) ?_
 rintro⟨k,L⟩ ⟨hk,hL,hs⟩;try simp only at hk hL hs ⊢
 refine Z1 O<|Gp O (λB=>?_) (λB=>?_)
 .have hlt:k<S.attrs.length:=Vf;have s:=ln hlt;have G:=iu hlt;have D:L.length=k:=by rw[hL];simp;omega
  have u:L++[S.attrs[k].1]=(S.attrs.map (·.1)).take (k+1):=by rw[bX (by simpa using hlt),hL];simp
  have z:=qy (L++[S.attrs[k].1]) k Vk Vk (by simp only[<-D];simp;exact hS.an _ (au _));rw[qF,u,qT Vf]at z;have A:S.attrs.getD k default=S.attrs[k]:=by simp[List.getD,hlt]
  have H:(bD L).length=L.length*1:=Vj;refine Q3<|Z2 O<|Rs O (aU ⟨_,underlying162,O⟩ lZ O s O)<|Y3 O<|Gr O ?_;iterate 6 refine A1 O ?_
  refine Z2 O<|Rs O (ta call317 z O O)<|A1 O<|Z2 O<|Gc O (λj=>?_) (λj=>?_)
  .exact Z2 O<|Gt O<|⟨_,_,O,O,ag (PV.int .i64) (by rw[fJ hs (by unfold fU;rw[AT (inT j)];exact inT j) hlt];unfold fU;rw[AT (inT j)])⟩
  .refine Q3<|Z4 O ?_;apply Re 4 29 33 [30,31,32] O Vp
   .intro hb3;iterate 4 refine A1 O ?_
    exact Q7 Vo O O O
   .intro hb3;iterate 4 refine A1 O ?_
    exact Q7 Vo O O O
   refine Gc O (λq=>?_) (λq=>?_)
   .exact Z1 O<|Gt O<|⟨_,_,O,O,ag (PV.int .i64) (by have e:fU S k=7:=(by unfold fU;rw[dt (by simp[inF j]),A,AT (by simpa using q)]);rw[fJ hs (by rw[e];decide) hlt,e])⟩
   .exact Q3<|Z2 O<|⟨(k+1,L++[S.attrs[k].1]),Q6 [0,4] ⟨by simp;rfl,O,O,O,Vm⟩ ⟨ag (λc=>Sh (Ob.gro 9 c)) (vk L S.attrs[k].1).symm,Vm⟩ O O Vh O,⟨Vl,u,by simp only;rw[dh hs];unfold fU;rw[dt (by simp[inF j]),A,dt (by simpa using q)]⟩,Vl⟩
 .exact Gx O<|Z1 O<|Gt O<|⟨_,_,O,O,ag (PV.int .i64) (by rw[show S.attrs.length=k by omega,hs])⟩
end
end Go.Proofs.YtoplpepiabedhaaGreatDoor
