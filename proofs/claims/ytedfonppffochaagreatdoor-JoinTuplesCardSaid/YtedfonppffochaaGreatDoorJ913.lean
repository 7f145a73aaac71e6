/- Lemmas. No condition. -/
import Derived.Test.YtedfonppffochaaGreatDoorJ912
set_option maxRecDepth 100000
set_option maxHeartbeats 4000000
open Go.RowKit Go.Proofs.Tryz
namespace Go.Proofs.YtedfonppffochaaGreatDoor
section
def Ew (l:List Nat):List PV:=l.map fun (n:Nat)=>PV.int .i64 (n:Int)
abbrev pli (l:List Nat):PV:= .sl none l.length (Ew l)
abbrev bigC (z:Int):List PV:=[.bool (decide (z<0)),pli (aj z.natAbs)]
abbrev KQ (z:Int):PV:= .agg (bigC z)
theorem Kq (l:List Nat):(Ew l).length=l.length:=by simp [Ew]
theorem BX {l:List Nat} {k:Nat} (h:k<l.length):(Ew l)[k*1]? =some (.int .i64 (lim l k:Int)):=by rw [gj h];simp [Ew,h]
theorem C4 {l:List Nat} {k:Nat} (h:k<l.length):Ew l≠[]:=fun e=>by have:=Kq l;rw [e] at this;simp at this;omega
theorem K6 (l:List Nat) (k:Nat):(Ew l).take k=Ew (l.take k):=by simp [Ew,List.map_take]
theorem Hh (l:List Nat) (k x:Nat):(Ew l).set k (.int .i64 (x:Int))=Ew (l.set k x):=by simp [Ew,NF]
theorem limI_snoc (l:List Nat) (n:Nat):Ew l++[.int .i64 (n:Int)]=Ew (l++[n]):=by simp [Ew]
attribute [simp] Kq
theorem C0 {α:Type} (l:List α) (a:α):l.length+1=(l++[a]).length:=Ps
theorem Lv (neg:Bool) (n:Nat):(neg&&decide (0<(aj n).length))=decide (sgn neg n<0):=by
 rw [<-Fw];congr 1;rw [Mg];simp
theorem LU {neg b:Bool} {l:List Nat} {n:Nat} (hn:n<=l.length) (e:aj (val l)=l.take n) (hb:b=(neg&&decide (0<n))):PV.agg [.bool b,.sl none n (Ew (l.take n))]=KQ (sgn neg (val l)):=by
 have hl:(aj (val l)).length=n:=by rw [e,AI];omega
 have h1:b=decide (sgn neg (val l)<0):=by rw [hb,<-Lv,hl]
 have h2:(sgn neg (val l)).natAbs=val l:=yc _ _;show _=PV.agg [.bool (decide (sgn neg (val l)<0)),.sl none (aj (sgn neg (val l)).natAbs).length (Ew (aj (sgn neg (val l)).natAbs))];rw [h2,h1,hl,e]
theorem KN (neg:Bool) (l:List Nat) (hl:l.length<=1000000000) (ho:Lok l):FnP prog 119 [.agg [.bool neg,pli l]] (· =KQ (sgn neg (val l))):=by
 refine FnP.ofC func119 O ntmps119 Ps fun m0 w0 F R0=>?_
 refine Z2 O O O ?_;refine Gl O (st:=fun ac:Nat=>mkS [(1,.ptr 0 0),(2,.ptr 1 0)] [(0,.mix 100 [.pv (.bool neg),.pv (.sl none ac (Ew (l.take ac)))]),(1,.mix 100 [.pv (.bool false),.pv nS])] 2)
  (I:=fun ac=>ac<=l.length/\∀ i,ac<=i->l.getD i 0=0) (μ:=fun ac=>ac) (x0:=(l.length)) (Io (aS O) ⟨by rw [Mz];rfl,O,Pw⟩ O O) (⟨xV _,fun i hi=>AE hi⟩) ?_
 rintro n ⟨hn,hz⟩;by_cases hp:0<n
 ·have hil:n-1<(l.take n).length:=by simp;omega
  have hv:(Ew (l.take n))[(n-1)*1]? =some (.int .i64 (lim l (n-1):Int)):=by rw [BX hil];simp [lim,List.getD,Ma,show n-1<n by omega]
  have hne:=C4 hil;have hn1:n-1<n:=Po;refine Z3 O O O O<|Rs 6 O O (XJ.cast (v':= .pv (.bool true)) (aQ O O O) Pt) ?_;iterate 7 refine A1 O ?_
  refine Rg 14 O O O (ag (n-1) underlying22 sz3 O O Po hn1 hne) ?_;first | refine A2 O Pr ?_ | refine A1 O ?_
  refine Y2 O O ?_;refine Gc O O (fun hc17=>?_) (fun hc17=>?_)
  ·have hz0:lim l (n-1)=0:=by have:=Be hc17;omega
   refine Il<|Gr O ?_;iterate 5 refine A1 O ?_
   exact Rs 23 O O (XJ.cast (v':= .pv (.int .i64 ((n-1:Nat):Int))) (Hw O O Po) (af (fun i=>V.pv (.int .i64 i)) Po))<|Rs 24 O O ((dz (n-1) underlying22 sz3 O O O Po Pt).cast (v':= .pv (.sl none (n-1) (Ew (l.take (n-1))))) (by rw [Mi,K6,Oa,ND Po]))<|Y2 O O<|⟨(n-1),Io (aS O) (aO O) O O,⟨Po,fun i hi=>by rcases Nx i n with e | e;rw [show i=n-1 by omega];exact hz0;exact hz i e⟩,Po⟩
  ·have hz0:lim l (n-1)≠0:=by have:=sS hc17;omega
   refine Gx O<|Z4 O O O O O ?_;refine Gc O O (fun hc29=>?_) (fun hc29=>?_)
   ·refine Z2 O O O<|Z2 O O O<|Gt O ?_;exfalso;have:=Be hc29;omega
   ·refine Il<|Z2 O O O<|Gt O ?_;have e:=mB ho hn hz (.inr hz0);exact ⟨_,_,O,O,⟨aY ⟨_,underlying100,O⟩ Kc O O O,Pw⟩,LU hn e (by simp [hp])⟩
 ·refine Z3 O O O O<|Rs 6 O O (XJ.cast (v':= .pv (.bool false)) (aQ O O O) Pt) ?_;iterate 11 refine A1 O ?_
  refine Gc O O (fun hc17=>absurd hc17 Ps) (fun hc17=>?_);refine Gx O<|Z4 O O O O O ?_;refine Gc O O (fun hc29=>?_) (fun hc29=>?_)
  ·refine Z2 O O O<|Z2 O O O<|Gt O ?_;have e:=mB ho hn hz (.inl Po);exact ⟨_,_,O,O,⟨aY ⟨_,underlying100,O⟩ Kc O O O,Pw⟩,LU hn e (by simp [hp])⟩
  ·refine Il<|Z2 O O O<|Gt O ?_;exfalso;have:=sS hc29;omega
theorem CG {neg:Bool} {n v:Nat} (l:List Nat) (hn:l.length=n) (hl:n<=1000000000) (ho:Lok l) (hv:val l=v):FnP prog 119 [.agg [.bool neg,.sl none n (Ew l)]] (· =KQ (sgn neg v)):=by
 subst hn hv;exact KN neg l hl ho
theorem Dq (a b:Nat) (ha:(aj a).length<=1000000000) (hb:(aj b).length<=1000000000):FnP prog 173 [pli (aj a),pli (aj b)] (· = .int .i64 (Ep a b)):=by
 refine FnP.of func173 O ntmps173 Ps fun m0 w0 F R0=>?_
 refine Z1 O O<|Gr O ?_;iterate 5 refine A1 O ?_
 refine Gc O O (fun hc10=>?_) (fun hc10=>?_)
 ·refine Gr O ?_;iterate 5 refine A1 O ?_
  refine Gp O O (fun hc15=>?_) (fun hc15=>?_)
  ·exact Z1 O O<|Gt O<|⟨_,_,O,O,af (PV.int .i64) (yd (jo Po)).symm⟩
  ·refine Il<|Z1 O O<|Gt O ?_;have hne:=xn hc10;exact ⟨_,_,O,O,af (PV.int .i64) (yT (jo Po)).symm⟩
 ·have hlen:(aj a).length=(aj b).length:=by have:=sL hc10;omega
  refine Il<|Z4 O O O O O ?_;refine Gl O (st:=fun ac:Nat=>mkS [(0,.pv (pli (aj a))),(1,.pv (pli (aj b))),(5,.pv (.int .i64 ((ac:Int)-1)))] [] 0)
   (I:=fun ac=>ac<=(aj a).length/\(aj a).drop ac=(aj b).drop ac) (μ:=fun ac=>ac) (x0:=((aj a).length)) (Io (aS O) trivial O O) (⟨xV _,by rw [MI (xV _),MI Po]⟩) ?_
  rintro i ⟨hi,hd⟩;refine Z2 O O O ?_;refine Gp O O (fun hc20=>?_) (fun hc20=>?_)
  ·have hia:i-1<(aj a).length:=Po;have hib:i-1<(aj b).length:=Po;have hva:=BX hia;have hna:=C4 hia;have hvb:=BX hib;have hnb:=C4 hib;have hdi:(aj a).drop (i-1+1)=(aj b).drop (i-1+1):=by rw [show i-1+1=i by omega];exact hd
   refine Il<|Ge O follows [0,1,2,3,4,5,6,7,8] Pp ?_;iterate 2 refine D1 O O ?_
   refine Ds 25 [] O O O (fun τ h=>ag (i-1) underlying22 sz3 (Ee h 0 O O) (Ee h 1 O O) Po hia hna) O Pp ?_;first | refine D2 O O Pr ?_ | refine D1 O O ?_
   iterate 2 refine D1 O O ?_
   refine Ds 29 [] O O O (fun τ h=>ag (i-1) underlying22 sz3 (Ee h 0 O O) (Ee h 1 O O) Po hib hnb) O Pp ?_;first | refine D2 O O Pr ?_ | refine D1 O O ?_
   refine D1 O O ?_;refine ⟨Pp,?_⟩;refine Gp O O (fun hc31=>?_) (fun hc31=>?_)
   ·refine Z1 O O<|Gt O ?_;have hl:=tv (c7 a) hlen hia hdi (by show lim _ _<lim _ _;omega);rw [bh,bh] at hl;exact ⟨_,_,O,O,af (PV.int .i64) (yd hl).symm⟩
   ·refine Il<|Ge O follows [0,1,2,3,4,5,6,7,8] Pp ?_;iterate 2 refine D1 O O ?_
    refine Ds 34 [] O O O (fun τ h=>ag (i-1) underlying22 sz3 (Ee h 0 O O) (Ee h 1 O O) Po hia hna) O Pp ?_;first | refine D2 O O Pr ?_ | refine D1 O O ?_
    iterate 2 refine D1 O O ?_
    refine Ds 38 [] O O O (fun τ h=>ag (i-1) underlying22 sz3 (Ee h 0 O O) (Ee h 1 O O) Po hib hnb) O Pp ?_;first | refine D2 O O Pr ?_ | refine D1 O O ?_
    refine D1 O O ?_;refine ⟨Pp,?_⟩;refine Gp O O (fun hc40=>?_) (fun hc40=>?_)
    ·refine Z1 O O<|Gt O ?_;have hl:=tv (c7 b) hlen.symm hib hdi.symm (by show lim _ _<lim _ _;omega);rw [bh,bh] at hl;exact ⟨_,_,O,O,af (PV.int .i64) (yT hl).symm⟩
    ·exact Il<|Z3 O O O O<|⟨(i-1),Io ⟨O,O,af (fun i:Int=>V.pv (PV.int .i64 i)) (show (i:Int)-1-1=((i-1:Nat):Int)-1 by omega),Pw⟩ trivial O O,⟨Po,by rw [Mf hia,Mf hib,hdi,<-gj hia,<-gj hib];congr 1;omega⟩,Po⟩
  ·refine Gx O<|Z1 O O<|Gt O ?_;have h0:i=0:=Po;subst h0;exact ⟨_,_,O,O,af (PV.int .i64) (Gs (Ar (by simpa using hd))).symm⟩
theorem LL (neg:Bool) (a:Nat):(sgn neg a).tmod 1000000000=sgn neg (a%1000000000):=by
 cases neg
 ·rfl
 ·show (-(a:Int)).tmod 1000000000= -((a%1000000000:Nat):Int);rw [Int.neg_tmod];rfl
theorem Kx (neg:Bool) (a:Nat):(sgn neg a).tdiv 1000000000=sgn neg (a/1000000000):=by
 cases neg
 ·rfl
 ·show (-(a:Int)).tdiv 1000000000= -((a/1000000000:Nat):Int);rw [Int.neg_tdiv];rfl
theorem Lq (n:Int):sgn (decide (n<0)) n.natAbs=n:=by
 by_cases h:n<0
 ·rw [IS h];simp [sgn];omega
 ·rw [Mu h];simp [sgn];omega
theorem Kv (n:Int) (h0: -9223372036854775808<=n) (h1:n<=9223372036854775807):FnP prog 56 [.int .i64 n] (· =KQ n):=by
 refine FnP.ofC func56 O ntmps56 Ps fun m0 w0 F R0=>?_
 obtain ⟨neg,hneg⟩:∃ b,b=decide (n<0):=⟨_,O⟩;have hsn:sgn neg n.natAbs=n:=by rw [hneg];exact Lq n
 refine Z1 O O<|Z1 O O<|Rs 6 O O (XJ.cast (v':= .pv (.bool neg)) (aQ O O O) (af (fun b=>V.pv (.bool b)) hneg.symm))<|Y3 O O O<|Im (St.er 1 1 2 1 3 O O O) ?_;refine Gl O (st:=fun ac:Nat×List Nat=>mkS [(0,.pv (.int .i64 (sgn neg ac.1))),(2,.ptr 0 0),(3,.ptr 1 0)] [(0,.mix 100 [.pv (.bool false),.pv nS]),(1,.mix 100 [.pv (.bool neg),.gsl 2 1 ac.2.length]),(2,.gro 3 (Ew ac.2))] 3)
  (I:=fun ac=>ac.2++aj ac.1=aj n.natAbs/\ac.1<=n.natAbs) (μ:=fun ac=>ac.1) (x0:=(n.natAbs,[])) (Io ⟨af (fun i=>V.pv (.int .i64 i)) hsn.symm,O,O,Pw⟩ (aO O) O O) (⟨O,xV _⟩) ?_
 rintro ⟨a,l⟩ ⟨hla,hle⟩;try simp only at hla hle ⊢
 refine Z2 O O O ?_;refine Gc O O (fun hc9=>?_) (fun hc9=>?_)
 ·refine Il ?_
  repeat apply Iz
  refine AW.block ?_;have ha0:a≠0:=fun e=>by rw [e] at hc9;cases neg<;>simp [sgn] at hc9
  refine Z1 O O<|Rs 11 O O (XJ.cast (v':= .pv (.int .i64 (sgn neg (a%1000000000)))) (l8 O O Pq) (af (fun i=>V.pv (.int .i64 i)) (LL neg a)))<|A1 O<|Z2 O O O ?_;refine Gp O O (fun hc13=>?_) (fun hc13=>?_)
  ·refine Z1 O O<|Rs 15 O O (XJ.cast (v':= .pv (.int .i64 ((a%1000000000:Nat):Int))) (EA O (by cases neg<;>simp [sgn]<;>omega) (by cases neg<;>simp [sgn]<;>omega)) (af (fun i=>V.pv (.int .i64 i)) (by cases neg<;>simp [sgn] at hc13 ⊢ ;omega)))<|A1 O ?_;have hll:l.length<=1000000:=by
    have e1:=af List.length hla;rw [kQ] at e1;have e2:(aj n.natAbs).length<=3:=bF.2 Po;omega
   refine Gr O ?_;iterate 7 refine A1 O ?_
   refine Z1 O O<|Rs 23 O O (XJ.cast (v':= .pv (.int .i64 (sgn neg (a/1000000000)))) (qe O O Pq) (af (fun i=>V.pv (.int .i64 i)) (by rw [Kx,eT];cases neg<;>simp [sgn]<;>omega))) ?_;exact A1 O<|⟨(a/1000000000,l++[a%1000000000]),Ip [0,1,4] (aT O) ⟨O,IN (b:=some (.mix 100 [.pv (.bool neg),.gsl 4 1 (l.length+1)])) Pp (af (fun n=>some (Ob.mix 100 [.pv (.bool neg),.gsl 4 1 n])) (C0 l _)),af (fun c=>some (Ob.gro 3 c)) (limI_snoc _ _),Pw⟩ O O Pq O,⟨by rw [<-hla,cj ha0];simp,Po⟩,Po⟩
  ·have hd:sgn neg (a%1000000000)=((a%1000000000:Nat):Int):=by cases neg<;>simp [sgn] at hc13 ⊢ ;omega
   refine Il ?_;have hll:l.length<=1000000:=by
    have e1:=af List.length hla;rw [kQ] at e1;have e2:(aj n.natAbs).length<=3:=bF.2 Po;omega
   refine Z2 O O O<|Rs 18 O O (XJ.cast (v':= .pv (.int .i64 ((a%1000000000:Nat):Int))) iZ (af (fun i=>V.pv (.int .i64 i)) hd)) ?_;iterate 4 refine A1 O ?_
   refine Z1 O O<|Rs 23 O O (XJ.cast (v':= .pv (.int .i64 (sgn neg (a/1000000000)))) (qe O O Pq) (af (fun i=>V.pv (.int .i64 i)) (by rw [Kx,eT];cases neg<;>simp [sgn]<;>omega))) ?_;exact A1 O<|⟨(a/1000000000,l++[a%1000000000]),Ip [0,1,4] (aT O) ⟨O,IN (b:=some (.mix 100 [.pv (.bool neg),.gsl 4 1 (l.length+1)])) Pp (af (fun n=>some (Ob.mix 100 [.pv (.bool neg),.gsl 4 1 n])) (C0 l _)),af (fun c=>some (Ob.gro 3 c)) (limI_snoc _ _),Pw⟩ O O Pq O,⟨by rw [<-hla,cj ha0];simp,Po⟩,Po⟩
 ·refine Gx O ?_;have ha0:a=0:=by cases neg<;>simp [sgn] at hc9<;>omega
  rw [ha0,aV,MN] at hla;exact Im (Ir 2 O O)<|Z2 O O O<|Gt O<|⟨_,_,O,O,⟨aY ⟨_,underlying100,O⟩ Kc O O O,Pw⟩,by rw [hla,hneg];rfl⟩
end
section
theorem L0 {a:Nat} (h:a<=9223372036854775807):IntKind.i64.wrap ((a:Int).tdiv 1000000000)=((a/1000000000:Nat):Int):=by
 have e:(a:Int).tdiv 1000000000=((a/1000000000:Nat):Int):=rfl;rw [e,eT Po]
theorem LF {x y:Nat} (hx:x<1000000000) (hy:y<1000000000):x*y<=999999998000000001:=Nat.mul_le_mul (show x<=999999999 by omega) (show y<=999999999 by omega)
theorem KK {o:List Nat} {i c x n S:Nat} (hi:o.length=i) (h:val o+1000000000^i*c=S*n):
  val (o++[(c+x*n)%1000000000])+1000000000^(i+1)*((c+x*n)/1000000000)=(S+1000000000^i*x)*n:=by
 rw [ez,hi,val_one,MS,Nat.add_mul,<-h,Nu (1000000000^i) x n];generalize 1000000000^i=p;generalize ht:c+x*n=t;have e4:p*(t%1000000000)+p*1000000000*(t/1000000000)=p*t:=by rw [Nu,<-NB,Nat.mod_add_div]
 have e2:p*t=p*c+p*(x*n):=by rw [<-ht,NB]
 omega
theorem LI {c x n:Nat} (hx:x<1000000000) (hc:c<n\/c=0) (hn:n<1000000000):(c+x*n)/1000000000<n\/(c+x*n)/1000000000=0:=by
 rcases Mv n with e | e
 ·subst e;right;rw [Pj];have:c=0:=Po
  subst this;rfl
 ·left
  rw [Ov Pq];have:x*n<=999999999*n:=ML _ Po;omega
theorem Cz (a n:Nat) (ha:(aj a).length<=1000000) (hn:n<1000000000):FnP prog 271 [pli (aj a),.int .i64 n] (· =pli (aj (a*n))):=by
 refine FnP.of func271 O ntmps271 Ps fun m0 w0 F R0=>?_
 obtain ⟨la,hla⟩:∃ n:Nat,n=(aj a).length:=⟨_,O⟩;refine Z1 O O<|Z1 O O<|Im (Iu 5 0 1 3 O O)<|Z1 O O<|Z1 O O ?_;refine Gl O (st:=fun ac:Nat×Nat×List Nat=>mkS [(0,.pv (pli (aj a))),(1,.pv (.int .i64 n)),(5,.gsl 0 1 ac.2.2.length),(6,.pv (.int .i64 ac.2.1)),(7,.pv (.int .i64 ac.1))] [(0,.gro 3 (Ew ac.2.2))] 1)
  (I:=fun ac=>(ac.2.2.length=ac.1/\ac.1<=la+1/\(ac.1=la+1->ac.2.1=0))/\(Lok ac.2.2/\(ac.2.1<n\/ac.2.1=0))/\val ac.2.2+1000000000^ac.1*ac.2.1=sm (lim (aj a)) ac.1*n) (μ:=fun ac=>la+1-ac.1) (x0:=(0,0,[])) (Io (aS O) (aO O) O O) (⟨⟨O,bk _,fun _=>rfl⟩,⟨fun _ h=>absurd h Ps,.inr O⟩,by simp [val,sm]⟩) ?_
 rintro ⟨i,c,o⟩ ⟨⟨hol,hil,hic⟩,⟨hok,hc⟩,he⟩;try simp only at hol hil hic hok hc he ⊢
 refine Gr O ?_;iterate 5 refine A1 O ?_
 apply Ix 3 12 15 [13,14] O Py
 ·intro hb4;exact Y3 O O O<|Iq Px O O O
 ·intro hb4;exact Y3 O O O<|Iq Px O O O
 refine Gc O O (fun hc15=>?_) (fun hc15=>?_)
 ·have hst:=KK (x:=lim (aj a) i) hol he;have hlx:=jc (c7 a) i;have hbd:=LF hlx hn;have hnl:=LI hlx hc hn;have hsm:sm (lim (aj a)) (i+1)=sm (lim (aj a)) i+1000000000^i*lim (aj a) i:=rfl;rw [<-hsm] at hst;have hok2:=hok.append (r:=[(c+lim (aj a) i*n)%1000000000]) (Lok.one (Ni _ Pq));have hi1:i<=la:=by
   simp only [MF,L6] at hc15;rcases hc15 with e | e<;>omega
  refine Il<|Z4 O O O O O ?_;refine Gp O O (fun hc21=>?_) (fun hc21=>?_)
  ·have hia:i<(aj a).length:=Po;have hva:=BX hia;have hna:=C4 hia;generalize lim (aj a) i=x at*;refine Z3 O O O O<|Rs 25 O O (ag i underlying22 sz3 O O O hia hna) ?_;first | refine A2 O Pr ?_ | refine A1 O ?_
   exact A1 O<|Rs 28 O O (qa O O (by rw [<-Oo];omega))<|Rs 29 O O (XJ.cast (v':= .pv (.int .i64 ((c+x*n:Nat):Int))) (zl O O (by rw [<-Oo];omega)) O)<|A1 O<|Z2 O O O<|Rs 32 O O (XJ.cast (v':= .pv (.int .i64 (((c+x*n)%1000000000:Nat):Int))) (l8 O O Pq) O)<|Y3 O O O<|Z1 O O<|Rs 36 O O (XJ.cast (v':= .pv (.int .i64 (((c+x*n)/1000000000:Nat):Int))) (qe O O Pq) (af (fun i=>V.pv (.int .i64 i)) (L0 Po)))<|A1 O<|Z3 O O O O<|⟨(i+1,(c+x*n)/1000000000,o++[(c+x*n)%1000000000]),Ip [2] ⟨O,O,IN (b:= .gsl 2 1 (o.length+1)) O (af (V.gsl 2 1) (C0 o _)),O,O,Pw⟩ ⟨af (fun c=>some (Ob.gro 3 c)) (limI_snoc _ _),Pw⟩ O O Pq O,⟨⟨by simp only [kQ,L8];omega,Po,fun h=>by omega⟩,⟨hok2,hnl⟩,hst⟩,Po⟩
  ·have hx0:lim (aj a) i=0:=AE Po;rw [hx0,OP,Ny] at hst hok2 hnl;exact Il<|Z2 O O O<|Rs 32 O O (XJ.cast (v':= .pv (.int .i64 ((c%1000000000:Nat):Int))) (l8 O O Pq) O)<|Y3 O O O<|Z1 O O<|Rs 36 O O (XJ.cast (v':= .pv (.int .i64 ((c/1000000000:Nat):Int))) (qe O O Pq) (af (fun i=>V.pv (.int .i64 i)) (L0 Po)))<|A1 O<|Z3 O O O O<|⟨(i+1,c/1000000000,o++[c%1000000000]),Ip [2] ⟨O,O,IN (b:= .gsl 2 1 (o.length+1)) O (af (V.gsl 2 1) (C0 o _)),O,O,Pw⟩ ⟨af (fun c=>some (Ob.gro 3 c)) (limI_snoc _ _),Pw⟩ O O Pq O,⟨⟨by simp only [kQ,L8];omega,Po,fun h=>by show c/1000000000=0;omega⟩,⟨hok2,hnl⟩,hst⟩,Po⟩
 ·refine Gx O ?_;have hc2:c=0/\la<=i:=by
   simp only [Mo,NT] at hc15;omega
  have hvo:val o=a*n:=by rw [hc2.1,Pj,Ny,ji _ Po,bh] at he;exact he
  have htr:=CG (neg:=false) o O Po hok hvo;exact Im (Ir 0 O O)<|Z2 O O O<|Rs 39 O O (ae call119 htr O)<|Rs 40 O O (FE underlying100 O O ⟨_,underlying22,O⟩ O O)<|A1 O<|Gt O<|⟨_,_,O,O,by show pli (aj (sgn false (a*n)).natAbs)=_;rw [yc]⟩
def JN (l:List Int):List PV:=l.map fun (n:Int)=>PV.int .i64 n
theorem LQ (l:List Int):(JN l).length=l.length:=by simp [JN]
theorem I9 {l:List Int} {k:Nat} (h:k<l.length):(JN l)[k*1]? =some (.int .i64 (l.getD k 0)):=by simp [JN,List.getD,h]
theorem ID (l:List Int) (k:Nat) (x:Int):(JN l).set k (.int .i64 x)=JN (l.set k x):=by simp [JN,NF]
theorem intI_nat (l:List Nat):Ew l=JN (l.map Int.ofNat):=by simp [JN,Ew]
attribute [simp] LQ
theorem bR {l:List Int} {k i:Nat} {x:Int} (hk:k<l.length):(l.set k x).getD i 0=if i=k then x else l.getD i 0:=by
 simp only [List.getD,OH];by_cases h:i=k
 ·subst h;simp [hk]
 ·rw [kH (fun e=>h e.symm),kH h]
theorem Ku (l:List Nat) (i:Nat):(l.map Int.ofNat).getD i 0=(lim l i:Int):=by
 simp only [List.getD,lim,Nf];cases l[i]? <;>rfl
structure MinI (a b n i c:Nat) (L:List Int):Prop where
 len:L.length=n
 ile:i<=n
 cle:c<=1
 lo:∀ j,j<i->0<=L.getD j 0/\L.getD j 0<1000000000
 mid:i<n->L.getD i 0=(lim (aj a) i:Int)-c
 hi:∀ j,i<j->L.getD j 0=(lim (aj a) j:Int)
 sum:sm (fun j=>(L.getD j 0).toNat) i+sm (lim (aj b)) i=sm (lim (aj a)) i+1000000000^i*c
theorem FJ {a b n i c:Nat} {L M:List Int} (h:MinI a b n i c L) (hi:i<n) {x:Int} {c':Nat} (hc':c'<=1) (hx:0<=x/\x<1000000000)
  (he:x=(lim (aj a) i:Int)-c-lim (aj b) i+1000000000*c') (hM:M.length=n) (h1:∀ j,j<i->M.getD j 0=L.getD j 0) (h2:M.getD i 0=x)
  (h3:i+1<n->M.getD (i+1) 0=(lim (aj a) (i+1):Int)-c') (h4:∀ j,i+1<j->M.getD j 0=L.getD j 0):MinI a b n (i+1) c' M:=by
 refine ⟨hM,hi,hc',fun j hj=>?_,h3,fun j hj=>by rw [h4 j hj,h.hi j Po],?_⟩
 ·rcases Me.1 hj with e | e
  ·rw [h1 j e];exact h.lo j e
  ·rw [e,h2];exact hx
 ·have hs:=h.sum;have e1:sm (fun j=>(M.getD j 0).toNat) i=sm (fun j=>(L.getD j 0).toNat) i:=Dl fun j hj=>by simp only [h1 j hj]
  rw [sm,sm,sm,e1,MS];simp only [h2];obtain ⟨y,rfl⟩:=so hx.1;rw [Mb];have e3:y+lim (aj b) i+c=lim (aj a) i+1000000000*c':=Po;generalize 1000000000^i=p at*;have e4:p*(y+lim (aj b) i+c)=p*(lim (aj a) i+1000000000*c'):=by rw [e3]
  rw [NB,NB,NB] at e4;rw [Nu p];omega
theorem KJ {a b n c:Nat} {L:List Int} (h:MinI a b n n c L) (hn:n=(aj a).length) (hab:b<=a):Lok (L.map Int.toNat)/\val (L.map Int.toNat)=a-b/\c=0/\JN L=Ew (L.map Int.toNat):=by
 have hb:(aj b).length<=n:=by rw [hn];exact bF.2 (Nat.lt_of_le_of_lt hab (gM a))
 have hlen:=h.len;have hLi:∀ j,lim (L.map Int.toNat) j=(L.getD j 0).toNat:=fun j=>by
  simp only [lim,List.getD,Nf];cases L[j]? <;>rfl
 have hok:Lok (L.map Int.toNat):=fun x hx=>by
  obtain ⟨y,hy,rfl⟩:=IT.1 hx;obtain ⟨j,hj,rfl⟩:=MK hy;have:=h.lo j Po;simp only [List.getD,kJ hj,NJ] at this;omega
 have hs:=h.sum;have e1:sm (fun j=>(L.getD j 0).toNat) n=val (L.map Int.toNat):=by
  rw [<-ji (L.map Int.toNat) (n:=n) Pt];exact Dl fun j _=>(hLi j).symm
 rw [e1,ji _ hb,ji _ (Ph hn.symm),bh,bh] at hs;have hlt:=zM hok;rw [xT,hlen] at hlt;have hc0:c=0:=by
  rcases Mv c with e | e
  ·exact e
  ·have:=h.cle;have:c=1:=Po;subst this;omega
 refine ⟨hok,by subst hc0;omega,hc0,?_⟩;have:∀ y∈L,(y.toNat:Int)=y:=fun y hy=>by
  obtain ⟨j,hj,rfl⟩:=MK hy;have:=h.lo j Po;simp only [List.getD,kJ hj,NJ] at this;omega
 simp only [JN,Ew,OM];refine Mr fun y hy=>?_
 show PV.int .i64 y=PV.int .i64 (y.toNat:Int);rw [this y hy]
theorem KW {a b n i c:Nat} {L:List Int} (h:MinI a b n i c L) (hn:n=(aj a).length) (hab:b<=a) (hi:i<n) (hneg:(lim (aj a) i:Int)-c-lim (aj b) i<0):i+1<n:=by
 apply Decidable.byContradiction;intro hlast;have hin:i+1=n:=Po;have hb1:=jc (c7 b) i;have hc:=h.cle;have h2:MinI a b n (i+1) 1 (L.set i ((lim (aj a) i:Int)-c-lim (aj b) i+1000000000)):=by
  have hlen:=h.len;refine FJ h hi (x:=(lim (aj a) i:Int)-c-lim (aj b) i+1000000000) (c':=1) Pq ⟨Po,Po⟩ O (by simp [hlen]) (fun j hj=>?_) ?_ (fun h=>by omega) (fun j hj=>?_)
  ·rw [bR Po,kH Po]
  ·rw [bR Po,qY O]
  ·rw [bR Po,kH Po]
 rw [hin] at h2;have:=(KJ h2 hn hab).2.2.1;cases this
theorem KR (a b n:Nat) (hn:n=(aj a).length):MinI a b n 0 0 ((aj a).map Int.ofNat):=by
 refine ⟨by simp [hn],bk _,bk _,fun j hj=>absurd hj (NW _),fun _=>?_,fun j _=>Ku _ _,by simp [sm]⟩;rw [Ku];simp
theorem J2 (l:List Nat):∀ c∈Ew l,c.leaf=true:=fun c hc=>by obtain ⟨x,_,rfl⟩:=IT.1 hc;rfl
theorem IA (a b:Nat) (ha:(aj a).length<=1000000) (hab:b<=a) (ha0:0<a):FnP prog 272 [pli (aj a),pli (aj b)] (fun v=>∃ o,Lok o/\o.length=(aj a).length/\val o=a-b/\v=pli o):=by
 refine FnP.fg2 (FnP.of func272 O ntmps272 Ps fun m0 w0 F R0=>?_);obtain ⟨n,hn⟩:∃ n:Nat,n=(aj a).length:=⟨_,O⟩;have hn0:0<(aj a).length:=Nat.pos_of_ne_zero fun e=>by have:=cU.1 e;omega
 refine Z1 O O<|Z1 O O<|Rs 8 O O (wh 0 xj O (.inl ⟨none,O⟩) Ps (J2 _) Po hn0 O)<|A1 O<|Z1 O O ?_;refine Gl O (st:=fun ac:Nat×Nat×List Int=>mkS [(1,.pv (pli (aj b))),(5,.osl 0 1 (aj a).length),(6,.pv (.int .i64 ac.1))] [(0,.cells 3 (JN ac.2.2))] 1)
  (I:=fun ac=>MinI a b n ac.1 ac.2.1 ac.2.2) (μ:=fun ac=>n-ac.1) (x0:=(0,0,(aj a).map Int.ofNat)) (Io (aS O) ⟨af (fun c=>some (Ob.cells 3 c)) (intI_nat _),Pw⟩ O O) (KR a b n hn) ?_
 rintro ⟨i,c,L⟩ hM;try simp only at hM ⊢
 refine Z4 O O O O O ?_;refine Gp O O (fun hc12=>?_) (fun hc12=>?_)
 ·have hin:i<n:=Po;have hlen:=hM.len;have hil:i<L.length:=Po;have hLi:=hM.mid hin;have hc1:=hM.cle;have hxa:=jc (c7 a) i;have hxb:=jc (c7 b) i;have hlast:=KW hM hn hab hin;have hat:=I9 hil;rw [hLi] at hat
  refine Il<|Z4 O O O O O ?_;refine Gp O O (fun hc18=>?_) (fun hc18=>?_)
  ·have hib:i<(aj b).length:=Po;have hvb:=BX hib;have hnb:=C4 hib;refine Ge O follows [0,1,2,3,4,5,6,7,8,9,10] Pp ?_;iterate 2 refine D1 O O ?_
   refine Ds 21 [_] O O O (fun τ h=>aa i underlying22 sz3 (Ee h 0 O O) (Eo h 0 O O) (Ee h 1 O O) O Po) O Pp ?_;first | refine D2 O O Pr ?_ | refine D1 O O ?_
   iterate 2 refine D1 O O ?_
   refine Ds 25 [] O O O (fun τ h=>ag i underlying22 sz3 (Ee h 0 O O) (Ee h 1 O O) O hib hnb) O Pp ?_;first | refine D2 O O Pr ?_ | refine D1 O O ?_
   refine D1 O O<|Ds 28 [_] O O O (fun τ h=>aa i underlying22 sz3 (Ee h 0 O O) (Eo h 0 O O) (Ee h 1 O O) O Po) O Pp<|D1 O O ?_;refine ⟨Pp,?_⟩;rw [show (JN L).set (i*1) (.int .i64 ((lim (aj a) i:Int)-c-(lim (aj b) i:Int)))=JN (L.set i ((lim (aj a) i:Int)-c-lim (aj b) i)) by rw [Mi,ID]];have hx0:∃ x0,x0=(lim (aj a) i:Int)-c-lim (aj b) i:=⟨_,O⟩;obtain ⟨x0,hx0⟩:=hx0;rw [<-hx0];have m1:(L.set i x0).length=n:=by rw [Md];exact hlen
   have m2:(L.set i x0).getD i 0=x0:=by rw [bR hil,qY O]
   have m3:∀ j,j≠i->(L.set i x0).getD j 0=L.getD j 0:=fun j hj=>by rw [bR hil,kH hj]
   generalize L.set i x0=M at*;have hiM:i<M.length:=Po;have hatM:=I9 hiM;rw [m2] at hatM;clear hat
   refine Z2 O O O<|Rs 31 O O (aa i underlying22 sz3 O O O O Po) ?_;first | refine A2 O Pr ?_ | refine A1 O ?_
   refine A1 O ?_;refine Gp O O (fun hc33=>?_) (fun hc33=>?_)
   ·have hi1:=hlast Po;have q1:(M.set i (x0+1000000000)).length=n:=by rw [Md];exact m1
    have q2:(M.set i (x0+1000000000)).getD i 0=x0+1000000000:=by rw [bR hiM,qY O]
    have q3:∀ j,j≠i->(M.set i (x0+1000000000)).getD j 0=L.getD j 0:=fun j hj=>by rw [bR hiM,kH hj,m3 j hj]
    refine Z2 O O O<|Rs 36 O O (aa i underlying22 sz3 O O O O Po) ?_;first | refine A2 O Pr ?_ | refine A1 O ?_
    refine A1 O<|Rs 39 O O (aa i underlying22 sz3 O O O O Po)<|A1 O ?_;rw [show (JN M).set (i*1) (.int .i64 (x0+1000000000))=JN (M.set i (x0+1000000000)) by rw [Mi,ID]];generalize M.set i (x0+1000000000)=M2 at*;have hi2:i+1<M2.length:=Po;have hat2:=I9 hi2;have hxa2:=jc (c7 a) (i+1);rw [q3 (i+1) Po,hM.hi (i+1) Po] at hat2;refine Z3 O O O O<|Rs 43 O O (aa (i+1) underlying22 sz3 O O O O Po) ?_;first | refine A2 O Pr ?_ | refine A1 O ?_
    exact A1 O<|Rs 46 O O (aa (i+1) underlying22 sz3 O O O O Po)<|A1 O<|Z3 O O O O<|⟨(i+1,1,M2.set (i+1) ((lim (aj a) (i+1):Int)-1)),Io (aS O) ⟨af (fun c=>some (Ob.cells 3 c)) (by rw [Mi,ID]),Pw⟩ O O,FJ hM hin (x:=x0+1000000000) (c':=1) Pq ⟨Po,Po⟩ Po (by rw [Md];exact q1) (fun j hj=>by rw [bR hi2,kH Po,q3 j Po]) (by rw [bR hi2,kH Po,q2]) (fun _=>by rw [bR hi2,qY O];rfl) (fun j hj=>by rw [bR hi2,kH Po,q3 j Po]),Po⟩
   ·exact Il<|Z3 O O O O<|⟨(i+1,0,M),Io (aS O) (aO O) O O,FJ hM hin (x:=x0) (c':=0) Pq ⟨Po,Po⟩ Po m1 (fun j hj=>m3 j Po) m2 (fun _=>by rw [m3 _ Po,hM.hi _ Po];simp) (fun j hj=>m3 j Po),Po⟩
  ·have hb0:lim (aj b) i=0:=AE Po;have hx0:∃ x0,x0=(lim (aj a) i:Int)-c-lim (aj b) i:=⟨_,O⟩;obtain ⟨x0,hx0⟩:=hx0;obtain ⟨M,hMd⟩:∃ M,M=L:=⟨_,O⟩;have m1:M.length=n:=by rw [hMd];exact hlen
   have m2:M.getD i 0=x0:=by rw [hMd,hLi,hx0,hb0];simp
   have m3:∀ j,j≠i->M.getD j 0=L.getD j 0:=fun j _=>by rw [hMd]
   rw [<-hMd];refine Il ?_;have hiM:i<M.length:=Po;have hatM:=I9 hiM;rw [m2] at hatM;clear hat
   refine Z2 O O O<|Rs 31 O O (aa i underlying22 sz3 O O O O Po) ?_;first | refine A2 O Pr ?_ | refine A1 O ?_
   refine A1 O ?_;refine Gp O O (fun hc33=>?_) (fun hc33=>?_)
   ·have hi1:=hlast Po;have q1:(M.set i (x0+1000000000)).length=n:=by rw [Md];exact m1
    have q2:(M.set i (x0+1000000000)).getD i 0=x0+1000000000:=by rw [bR hiM,qY O]
    have q3:∀ j,j≠i->(M.set i (x0+1000000000)).getD j 0=L.getD j 0:=fun j hj=>by rw [bR hiM,kH hj,m3 j hj]
    refine Z2 O O O<|Rs 36 O O (aa i underlying22 sz3 O O O O Po) ?_;first | refine A2 O Pr ?_ | refine A1 O ?_
    refine A1 O<|Rs 39 O O (aa i underlying22 sz3 O O O O Po)<|A1 O ?_;rw [show (JN M).set (i*1) (.int .i64 (x0+1000000000))=JN (M.set i (x0+1000000000)) by rw [Mi,ID]];generalize M.set i (x0+1000000000)=M2 at*;have hi2:i+1<M2.length:=Po;have hat2:=I9 hi2;have hxa2:=jc (c7 a) (i+1);rw [q3 (i+1) Po,hM.hi (i+1) Po] at hat2;refine Z3 O O O O<|Rs 43 O O (aa (i+1) underlying22 sz3 O O O O Po) ?_;first | refine A2 O Pr ?_ | refine A1 O ?_
    exact A1 O<|Rs 46 O O (aa (i+1) underlying22 sz3 O O O O Po)<|A1 O<|Z3 O O O O<|⟨(i+1,1,M2.set (i+1) ((lim (aj a) (i+1):Int)-1)),Io (aS O) ⟨af (fun c=>some (Ob.cells 3 c)) (by rw [Mi,ID]),Pw⟩ O O,FJ hM hin (x:=x0+1000000000) (c':=1) Pq ⟨Po,Po⟩ Po (by rw [Md];exact q1) (fun j hj=>by rw [bR hi2,kH Po,q3 j Po]) (by rw [bR hi2,kH Po,q2]) (fun _=>by rw [bR hi2,qY O];rfl) (fun j hj=>by rw [bR hi2,kH Po,q3 j Po]),Po⟩
   ·exact Il<|Z3 O O O O<|⟨(i+1,0,M),Io (aS O) (aO O) O O,FJ hM hin (x:=x0) (c':=0) Pq ⟨Po,Po⟩ Po m1 (fun j hj=>m3 j Po) m2 (fun _=>by rw [m3 _ Po,hM.hi _ Po];simp) (fun j hj=>m3 j Po),Po⟩
 ·refine Gx O ?_;obtain rfl:i=n:=by have:=hM.ile;omega
  obtain ⟨e1,e2,_,e4⟩:=KJ hM hn hab;have hlen:=hM.len;exact Im (Ir 0 O O)<|Z2 O O O<|Gt O<|⟨_,_,O,O,L.map Int.toNat,e1,by rw [xT,hlen,hn],e2,by rw [e4,pli,xT,hlen,hn];rfl⟩
end
section
theorem Hq (n k:Nat):val ((aj n).drop k)=n/1000000000^k:=by
 by_cases hk:k<=(aj n).length
 ·have e:=kP (aj n) k;rw [bh,ND hk] at e;have hl:=zM ((c7 n).take k);rw [AI,ND hk] at hl;have:=Jy k
  conv=>rhs;rw [e]
  rw [Nat.add_mul_div_left _ _ this,OR hl,Mt]
 ·rw [MI Po];have:=gM n;have h2:1000000000^(aj n).length<=1000000000^k:=MM Pq Po;rw [OR Po];rfl
theorem L4 {r y p t u:Nat} (hp:0<p) (ht:t=r/p) (hu:u=y/p) (hu0:0<u) (hy:0<y):r/y<=t/u:=by
 rw [Ow hu0,ht,Ow hp,hu];have h1:y/p*p<=y:=Nat.div_mul_le_self y p;have h2:r/y*y<=r:=Nat.div_mul_le_self r y;rw [Nu];exact AT (MO _ h1) h2
theorem L1 {r y p t u:Nat} (hp:0<p) (ht:t=r/p) (hu:u=y/p) (hy:0<y):t/(u+1)<=r/y:=by
 rw [Ow hy];have h1:y<(u+1)*p:=by rw [hu,MU];exact Nat.lt_mul_div_succ y hp
 have h2:t/(u+1)*(u+1)<=t:=Nat.div_mul_le_self t (u+1);have h3:t*p<=r:=by rw [ht];exact Nat.div_mul_le_self r p
 calc t/(u+1)*y<=t/(u+1)*((u+1)*p):=MO _ (Pb h1)
  _=t/(u+1)*(u+1)*p:=(Nu _ _ _).symm
  _<=t*p:=ML _ h2
  _<=r:=h3
theorem LB {y:Nat} (hy:0<y):lim (aj y) ((aj y).length-1)=y/1000000000^((aj y).length-1)/\0<lim (aj y) ((aj y).length-1):=by
 have hl:0<(aj y).length:=Nat.pos_of_ne_zero fun e=>by have:=cU.1 e;omega
 refine ⟨?_,Nat.pos_of_ne_zero (zV Po)⟩;rw [<-Hq,Mf Po,MI Po,gj Po];simp [val]
theorem Ln {r n:Nat} (hn:0<n) (h1:n<=(aj r).length) (h2:(aj r).length<=n+1):r/1000000000^(n-1)=lim (aj r) (n-1)+lim (aj r) n*1000000000:=by
 rw [<-Hq,Mf Po,val,gj Po,show n-1+1=n by omega,MU]
 congr 2
 by_cases h:(aj r).length=n+1
 ·rw [Mf Po,MI Po,gj Po];simp [val]
 ·rw [MI Po,AE Po];rfl
theorem LN {x:List Nat} {q:List Nat} {i y r d:Nat} (hi:i<x.length) (hq:q.length=x.length) (h:val (x.drop (i+1))=y*val (q.drop (i+1))+r) (hd:d=(lim x i+1000000000*r)/y) (hy:0<y):
  val (x.drop i)=y*val ((q.set i d).drop i)+(lim x i+1000000000*r)%y:=by
 have e1:x.drop i=lim x i::x.drop (i+1):=by rw [Mf hi,gj hi]
 have e2:(q.set i d).drop i=d::q.drop (i+1):=by
  rw [Mf (by rw [Md];omega)]
  congr 1
  ·simp
  ·rw [List.drop_set,qY Po]
 rw [e1,e2,val,val,h];have e:=Nat.div_add_mod (lim x i+1000000000*r) y;rw [<-hd] at e;generalize (lim x i+1000000000*r)%y=m at*;generalize lim x i=a at*;generalize val (q.drop (i+1))=w;rw [NB,NB,Nat.mul_left_comm y];generalize y*w=u;generalize y*d=z at*;omega
theorem LD (a r:Nat):val (a::aj r)=a+1000000000*r:=by rw [val,bh]
theorem LG {a r y:Nat} (ha:a<1000000000) (hr:r<y):(a+1000000000*r)/y<1000000000:=by
 rw [Ov Po];have:1000000000*(r+1)<=1000000000*y:=MO _ hr;omega
structure QuoI (x y i r:Nat) (q:List Nat):Prop where
 ile:i<=(aj x).length
 len:q.length=(aj x).length
 ok:Lok q
 rlt:r<y
 e:val ((aj x).drop i)=y*val (q.drop i)+r
theorem Lb {x y:Nat} (hy:0<y):QuoI x y (aj x).length 0 (List.replicate (aj x).length 0):=
 ⟨xV _,Ps,Lok.replicate _,hy,by rw [MI (xV _),MI Ps];simp [val]⟩
theorem Lz {x y r:Nat} {q:List Nat} (h:QuoI x y 0 r q):val q=x/y/\r=x%y:=by
 have e:=h.e;rw [List.drop_zero,List.drop_zero,bh] at e;have hr:=h.rlt;rw [e];constructor
 ·rw [Nat.mul_add_div Po,OR hr,Ny]
 ·rw [Nat.mul_add_mod,OT hr]
theorem J4 {a b:Nat} (h:a<=9223372036854775807):IntKind.i64.wrap ((a:Int).tdiv (b:Int))=((a/b:Nat):Int):=by
 have e:(a:Int).tdiv (b:Int)=((a/b:Nat):Int):=rfl;have h2:=Nat.div_le_self a b;rw [e];generalize a/b=c at*;rw [eT Po]
theorem KH {n v:Nat} (l:List Nat) (hn:l.length=n) (hl:n<=1000000000) (ho:Lok l) (hv:val l=v):FnP prog 119 [.agg [.bool false,.sl none n (Ew l)]] (· = .agg [.bool false,pli (aj v)]):=
 (CG (neg:=false) l hn hl ho hv).mono fun r h=>by
  rw [h];have e:sgn false v=(v:Int):=rfl;show PV.agg [.bool (decide (sgn false v<0)),pli (aj (sgn false v).natAbs)]=_;rw [e,Mu Po,Int.natAbs_natCast]
theorem Lu (nx ny:Bool) (a b:Nat) (hx:(aj a).length<=1000000) (hyl:(aj b).length<=100000) (hy:0<b):FnP prog 251 [.agg [.bool nx,pli (aj a)],.agg [.bool ny,pli (aj b)]] (· = .tup [KQ (sgn (nx !=ny) (a/b)),KQ (sgn nx (a%b))]):=by
 refine FnP.ofC func251 O ntmps251 Ps fun m0 w0 F R0=>?_
 obtain ⟨dv,hdv⟩:∃ z,sgn (nx !=ny) (a/b)=z:=⟨_,O⟩;obtain ⟨mo,hmo⟩:∃ z,sgn nx (a%b)=z:=⟨_,O⟩;rw [hdv,hmo];have hl:0<(aj b).length:=Nat.pos_of_ne_zero fun e=>by have:=cU.1 e;omega
 obtain ⟨u,hu⟩:∃ u,u=lim (aj b) ((aj b).length-1):=⟨_,O⟩;have htop:=LB hy;have hva:=BX (l:=aj b) (k:=(aj b).length-1) Po;have hna:=C4 (l:=aj b) (k:=(aj b).length-1) Po;have hub:=jc (c7 b) ((aj b).length-1);rw [<-hu] at htop hva hub;refine Z4 O O O O O<|Z1 O O<|Im (St.uQ [6])<|Z3 O O O O<|Rs 17 O O (r8 (zs:=[.int .i64 0]) 4 (aj a).length xj O O O O O Po O)<|A1 O<|Gr O ?_;iterate 5 refine A1 O ?_
 refine Gl O (st:=fun ac:Nat×Nat×List Nat=>mkS [(2,.ptr 0 0),(3,.ptr 1 0),(4,.ptr 2 0),(5,.ptr 3 0),(6,.pv (pli (aj ac.2.1))),(7,.osl 4 1 (aj a).length),(8,.pv (.int .i64 ((ac.1:Int)-1)))] [(0,.mix 100 [.pv (.bool nx),.pv (pli (aj a))]),(1,.mix 100 [.pv (.bool ny),.pv (pli (aj b))]),(2,.mix 100 [.pv (.bool false),.pv nS]),(3,.mix 100 [.pv (.bool false),.pv nS]),(4,.cells 3 (Ew ac.2.2))] 5)
  (I:=fun ac=>QuoI a b ac.1 ac.2.1 ac.2.2) (μ:=fun ac=>ac.1) (x0:=((aj a).length,0,List.replicate (aj a).length 0)) (Io ⟨O,O,O,O,by rw [aV];rfl,O,O,Pw⟩ ⟨O,O,O,O,af (fun c=>some (Ob.cells 3 c)) ((ct (.int .i64 0) ((aj a).length*1)).trans (by simp [Ew])),Pw⟩ O O) (Lb hy) ?_
 rintro ⟨i,r,q⟩ hQ;try simp only at hQ ⊢
 refine Z2 O O O ?_;refine Gp O O (fun hc23=>?_) (fun hc23=>?_)
 ·have hi0:0<i:=Po;have hile:=hQ.ile;have hql:=hQ.len;have hia:i-1<(aj a).length:=Po;have hvi:=BX hia;have hni:=C4 hia;have hxl:=jc (c7 a) (i-1);have hrl:=hQ.rlt;have hst:=LN (x:=aj a) (q:=q) (i:=i-1) (y:=b) (r:=r) hia hql (by rw [show i-1+1=i by omega];exact hQ.e) O hy;have hdl:=LG hxl hrl;have hlr:(aj r).length<=(aj b).length:=vY (Pb hrl);have hcv:=LD (lim (aj a) (i-1)) r;have hok1:Lok (lim (aj a) (i-1)::aj r):=fun z hz=>(sh.1 hz).elim (fun e=>e▸hxl) (c7 r z)
  have htr:=KH (lim (aj a) (i-1)::aj r) (n:=1+(aj r).length) Pt Po hok1 hcv;have hr2l:(aj (lim (aj a) (i-1)+1000000000*r)).length<=(aj b).length+1:=by
   refine bF.2 ?_;have h1:=gM b;rw [MS];omega
  generalize lim (aj a) (i-1)=xi at*;refine Il<|Z3 O O O O<|Rs 29 O O (ag (i-1) underlying22 sz3 O O Po hia hni) ?_;first | refine A2 O Pr ?_ | refine A1 O ?_
  refine Y2 O O<|Rs 33 O O (fc (6) xj O O Ps (.inl ⟨none,O⟩) Ps (J2 _) Po O)<|RL.weaken (by first | exact ax.aw | exact ax.le | exact Iv) (Ir (6) O O)<|A1 O<|Rs 35 O O (ae call119 htr O)<|Rs 36 O O (FE underlying100 O O ⟨_,underlying22,O⟩ O O)<|A1 O ?_;have hr2:∃ r2,r2=xi+1000000000*r:=⟨_,O⟩;obtain ⟨r2,hr2⟩:=hr2;rw [<-hr2] at hst hdl hr2l ⊢;have hsz:=Dq r2 b Po Po;refine Ge O follows [0,1,2,3,4,5] Pp ?_;iterate 6 refine D1 O O ?_
  refine ⟨Pp,?_⟩;refine Z3 O O O O<|Rs 43 O O (ae call173 hsz O)<|A1 O ?_;refine Gp O O (fun hc44=>?_) (fun hc44=>?_)
  ·have hrb:b<=r2:=yB.1 hc44;have hlb:(aj b).length<=(aj r2).length:=vY hrb;have hi1:(aj b).length-1<(aj r2).length:=Po;have hv1:=BX hi1;have hn1:=C4 hi1;have ht1:=jc (c7 r2) ((aj b).length-1);have ht2:=jc (c7 r2) (aj b).length;have htt:=Ln hl hlb hr2l;have hhi:=L4 (Jy ((aj b).length-1)) htt.symm htop.1 htop.2 hy;have hlo:=L1 (Jy ((aj b).length-1)) htt.symm htop.1 hy;have hv2:=fun h=>BX (l:=aj r2) (k:=(aj b).length) h
   have hz2:=fun h=>AE (l:=aj r2) (i:=(aj b).length) h
   clear htt;generalize lim (aj r2) ((aj b).length-1)=w1 at*;generalize lim (aj r2) (aj b).length=w2 at*;have hT:∃ T,T=w1+w2*1000000000:=⟨_,O⟩;obtain ⟨T,hT⟩:=hT;rw [<-hT] at hhi hlo;have hq1:=Nat.div_le_self T u;have hq2:=Nat.div_le_self T (u+1);refine Z3 O O O O<|Rs 48 O O (ag ((aj b).length-1) underlying22 sz3 O O Po hi1 hn1) ?_;first | refine A2 O Pr ?_ | refine A1 O ?_
   refine A1 O<|Z4 O O O O O ?_;refine Gp O O (fun hc53=>?_) (fun hc53=>?_)
   ·have hi2:(aj b).length<(aj r2).length:=Po;have hv2:=hv2 hi2;refine Z3 O O O O<|Rs 57 O O (ag (aj b).length underlying22 sz3 O O O hi2 hn1) ?_;first | refine A2 O Pr ?_ | refine A1 O ?_
    refine A1 O<|Rs 60 O O (XJ.cast (v':= .pv (.int .i64 (T:Int))) (zl O O Po) (af (fun i=>V.pv (.int .i64 i)) (by rw [hT];simp)))<|A1 O<|Gr O ?_;iterate 5 refine A1 O ?_
    refine Rs 66 O O (ag ((aj b).length-1) underlying22 sz3 O O Po Po hna) ?_;first | refine A2 O Pr ?_ | refine A1 O ?_
    refine Rs 68 O O (XJ.cast (v':= .pv (.int .i64 ((T/u:Nat):Int))) (qe O O Po) (af (fun i=>V.pv (.int .i64 i)) (J4 Po)))<|Rs 69 O O (XJ.cast (v':= .pv (.int .i64 ((min 999999999 (T/u):Nat):Int))) (Es O O) (af (fun i=>V.pv (.int .i64 i)) (by split<;>omega)))<|A1 O<|Gr O ?_;iterate 6 refine A1 O ?_
    refine Rs 76 O O (ag ((aj b).length-1) underlying22 sz3 O O Po Po hna) ?_;first | refine A2 O Pr ?_ | refine A1 O ?_
    refine A1 O<|Rs 79 O O (XJ.cast (v':= .pv (.int .i64 ((T/(u+1):Nat):Int))) (qe O O Po) (af (fun i=>V.pv (.int .i64 i)) (J4 Po)))<|Rs 80 O O (XJ.cast (v':= .pv (.int .i64 ((min (min 999999999 (T/u)) (T/(u+1)):Nat):Int))) (Es O O) (af (fun i=>V.pv (.int .i64 i)) (by split<;>omega)))<|A1 O ?_;have g1:min (min 999999999 (T/u)) (T/(u+1))<=r2/b:=AT (Nat.min_le_right _ _) hlo;have g2:r2/b<=min 999999999 (T/u):=Nat.le_min.2 ⟨Po,hhi⟩;have g3:min 999999999 (T/u)<=999999999:=Nat.min_le_left _ _;generalize min (min 999999999 (T/u)) (T/(u+1))=lo0 at*;generalize min 999999999 (T/u)=hi0 at*;refine Gl O (st:=fun x_1:Nat×Nat=>mkS [(2,.ptr 0 0),(3,.ptr 1 0),(4,.ptr 2 0),(5,.ptr 3 0),(6,.pv (pli (aj r2))),(7,.osl 4 1 (aj a).length),(8,.pv (.int .i64 ((i:Int)-1))),(9,.pv (.int .i64 (x_1.1:Int))),(10,.pv (.int .i64 (x_1.2:Int)))] [(0,.mix 100 [.pv (.bool nx),.pv (pli (aj a))]),(1,.mix 100 [.pv (.bool ny),.pv (pli (aj b))]),(2,.mix 100 [.pv (.bool false),.pv nS]),(3,.mix 100 [.pv (.bool false),.pv nS]),(4,.cells 3 (Ew q))] 7)
     (I:=fun x_1=>x_1.1<=r2/b/\r2/b<=x_1.2/\x_1.2<=999999999) (μ:=fun x_1=>x_1.2-x_1.1) (x0:=(lo0,hi0)) (Io ⟨O,O,O,O,O,O,O,by first | rfl | (rw [hlo0];rfl),by first | rfl | (rw [hhi0];rfl),Pw⟩ (aO O) O O) (⟨g1,g2,g3⟩) ?_
    rintro ⟨lo,hi⟩ ⟨k1,k2,k3⟩;try simp only
    refine Z3 O O O O ?_;refine Gp O O (fun hc83=>?_) (fun hc83=>?_)
    ·have hmd:∃ md,md=(lo+hi+1)/2:=⟨_,O⟩;obtain ⟨md,hmd⟩:=hmd;have htm:=Cz b md Po Po;have hml:(aj (b*md)).length<=1000000:=by
      have h2:(aj (b*md)).length<=(aj b).length+1:=by
       refine bF.2 ?_;have h1:=gM b;rw [MS];exact ME ((Nat.mul_lt_mul_right Po).2 h1) (MO _ Po)
      omega
     have hsm:=Dq (b*md) r2 Po Po;refine Il<|Z4 O O O O O<|Rs 88 O O (XJ.cast (v':= .pv (.int .i64 (md:Int))) (qe O O Pq) (af (fun i=>V.pv (.int .i64 i)) (by rw [hmd,show (lo:Int)+hi+1=((lo+hi+1:Nat):Int) by omega];exact J4 (b:=2) Po))) ?_;refine A1 O<|Z3 O O O O<|Rs 92 O O (ae call271 htm O)<|A1 O<|Rs 94 O O (ae call173 hsm O)<|A1 O ?_;refine Gp O O (fun hc95=>?_) (fun hc95=>?_)
     ·have hle:b*md<=r2:=by rcases Nx r2 (b*md) with e | e;exact absurd hc95 (by rw [yT e];decide);exact e
      have hle2:md<=r2/b:=(Ow hy).2 (by rw [MU];exact hle);exact Z2 O O O<|⟨(md,hi),Io (aS O) (aO O) O O,⟨hle2,k2,k3⟩,Po⟩
     ·have hgt:r2<b*md:=by rcases Nx r2 (b*md) with e | e;exact e;exact absurd (show Ep (b*md) r2<=0 by unfold Ep;split;decide;split;omega;decide) hc95
      have hgt2:r2/b<md:=(Ov hy).2 (by rw [MU];exact hgt);exact Z3 O O O O<|⟨(lo,md-1),Io ⟨O,O,O,O,O,O,O,O,af (fun i:Int=>V.pv (PV.int .i64 i)) (show (md:Int)-1=((md-1:Nat):Int) by omega),Pw⟩ (aO O) O O,⟨k1,Po,Po⟩,Po⟩
    ·refine Gx O ?_;have hlod:lo=r2/b:=Po;rw [<-hlod] at hst hdl;have hmo2:r2%b=r2-b*lo:=by rw [hlod];have:=Nat.div_add_mod r2 b;omega
     have hok2:=hQ.ok.set (k:=i-1) hdl;refine Z3 O O O O<|Rs 102 O O (aa (i-1) underlying22 sz3 O O O Po hia)<|A1 O<|Z2 O O O ?_;refine Gp O O (fun hc104=>?_) (fun hc104=>?_)
     ·have htm:=Cz b lo Po Po;have hble:b*lo<=r2:=by rw [hlod];exact Nat.mul_div_le r2 b
      have hr20:0<r2:=by rcases Mv r2 with e | e;rw [e,Nat.zero_div] at hlod;omega;exact e
      have hmi:=IA r2 (b*lo) Po hble hr20;refine Z4 O O O O O<|Rs 109 O O (ae call271 htm O) ?_;refine RL.call O (dE call272 hmi O ?_);rintro _ ⟨ov,v1,v2,v3,rfl⟩;exact A1 O<|Rs 112 O O (ae call119 (KH (v:=r2%b) ov O Po v1 (by rw [v3,hmo2])) O)<|Rs 113 O O (FE underlying100 O O ⟨_,underlying22,O⟩ O O)<|A1 O<|Z3 O O O O<|⟨(i-1,r2%b,q.set (i-1) lo),Io ⟨O,O,O,O,O,O,af (fun i:Int=>V.pv (PV.int .i64 i)) (show (i:Int)-1-1=((i-1:Nat):Int)-1 by omega),Pw⟩ ⟨O,O,O,O,af (fun c=>some (Ob.cells 3 c)) (by rw [Mi,Hh]),Pw⟩ O O,⟨Po,by rw [Md];exact hql,hok2,Ni _ hy,hst⟩,Po⟩
     ·have hl0:lo=0:=Po;have hr2m:r2=r2%b:=by rw [hmo2,hl0];simp
      exact Il<|Z3 O O O O<|⟨(i-1,r2%b,q.set (i-1) lo),Io ⟨O,O,O,O,af (fun n:Nat=>V.pv (pli (aj n))) hr2m,O,af (fun i:Int=>V.pv (PV.int .i64 i)) (show (i:Int)-1-1=((i-1:Nat):Int)-1 by omega),Pw⟩ ⟨O,O,O,O,af (fun c=>some (Ob.cells 3 c)) (by rw [Mi,Hh]),Pw⟩ O O,⟨Po,by rw [Md];exact hql,hok2,Ni _ hy,hst⟩,Po⟩
   ·have hw2:w2=0:=hz2 Po;have hTw:T=w1:=by rw [hT,hw2];omega
    rw [<-hTw];refine Il<|Gr O ?_;iterate 5 refine A1 O ?_
    refine Rs 66 O O (ag ((aj b).length-1) underlying22 sz3 O O Po Po hna) ?_;first | refine A2 O Pr ?_ | refine A1 O ?_
    refine Rs 68 O O (XJ.cast (v':= .pv (.int .i64 ((T/u:Nat):Int))) (qe O O Po) (af (fun i=>V.pv (.int .i64 i)) (J4 Po)))<|Rs 69 O O (XJ.cast (v':= .pv (.int .i64 ((min 999999999 (T/u):Nat):Int))) (Es O O) (af (fun i=>V.pv (.int .i64 i)) (by split<;>omega)))<|A1 O<|Gr O ?_;iterate 6 refine A1 O ?_
    refine Rs 76 O O (ag ((aj b).length-1) underlying22 sz3 O O Po Po hna) ?_;first | refine A2 O Pr ?_ | refine A1 O ?_
    refine A1 O<|Rs 79 O O (XJ.cast (v':= .pv (.int .i64 ((T/(u+1):Nat):Int))) (qe O O Po) (af (fun i=>V.pv (.int .i64 i)) (J4 Po)))<|Rs 80 O O (XJ.cast (v':= .pv (.int .i64 ((min (min 999999999 (T/u)) (T/(u+1)):Nat):Int))) (Es O O) (af (fun i=>V.pv (.int .i64 i)) (by split<;>omega)))<|A1 O ?_;have g1:min (min 999999999 (T/u)) (T/(u+1))<=r2/b:=AT (Nat.min_le_right _ _) hlo;have g2:r2/b<=min 999999999 (T/u):=Nat.le_min.2 ⟨Po,hhi⟩;have g3:min 999999999 (T/u)<=999999999:=Nat.min_le_left _ _;generalize min (min 999999999 (T/u)) (T/(u+1))=lo0 at*;generalize min 999999999 (T/u)=hi0 at*;refine Gl O (st:=fun x_1:Nat×Nat=>mkS [(2,.ptr 0 0),(3,.ptr 1 0),(4,.ptr 2 0),(5,.ptr 3 0),(6,.pv (pli (aj r2))),(7,.osl 4 1 (aj a).length),(8,.pv (.int .i64 ((i:Int)-1))),(9,.pv (.int .i64 (x_1.1:Int))),(10,.pv (.int .i64 (x_1.2:Int)))] [(0,.mix 100 [.pv (.bool nx),.pv (pli (aj a))]),(1,.mix 100 [.pv (.bool ny),.pv (pli (aj b))]),(2,.mix 100 [.pv (.bool false),.pv nS]),(3,.mix 100 [.pv (.bool false),.pv nS]),(4,.cells 3 (Ew q))] 7)
     (I:=fun x_1=>x_1.1<=r2/b/\r2/b<=x_1.2/\x_1.2<=999999999) (μ:=fun x_1=>x_1.2-x_1.1) (x0:=(lo0,hi0)) (Io ⟨O,O,O,O,O,O,O,by first | rfl | (rw [hlo0];rfl),by first | rfl | (rw [hhi0];rfl),Pw⟩ (aO O) O O) (⟨g1,g2,g3⟩) ?_
    rintro ⟨lo,hi⟩ ⟨k1,k2,k3⟩;try simp only
    refine Z3 O O O O ?_;refine Gp O O (fun hc83=>?_) (fun hc83=>?_)
    ·have hmd:∃ md,md=(lo+hi+1)/2:=⟨_,O⟩;obtain ⟨md,hmd⟩:=hmd;have htm:=Cz b md Po Po;have hml:(aj (b*md)).length<=1000000:=by
      have h2:(aj (b*md)).length<=(aj b).length+1:=by
       refine bF.2 ?_;have h1:=gM b;rw [MS];exact ME ((Nat.mul_lt_mul_right Po).2 h1) (MO _ Po)
      omega
     have hsm:=Dq (b*md) r2 Po Po;refine Il<|Z4 O O O O O<|Rs 88 O O (XJ.cast (v':= .pv (.int .i64 (md:Int))) (qe O O Pq) (af (fun i=>V.pv (.int .i64 i)) (by rw [hmd,show (lo:Int)+hi+1=((lo+hi+1:Nat):Int) by omega];exact J4 (b:=2) Po))) ?_;refine A1 O<|Z3 O O O O<|Rs 92 O O (ae call271 htm O)<|A1 O<|Rs 94 O O (ae call173 hsm O)<|A1 O ?_;refine Gp O O (fun hc95=>?_) (fun hc95=>?_)
     ·have hle:b*md<=r2:=by rcases Nx r2 (b*md) with e | e;exact absurd hc95 (by rw [yT e];decide);exact e
      have hle2:md<=r2/b:=(Ow hy).2 (by rw [MU];exact hle);exact Z2 O O O<|⟨(md,hi),Io (aS O) (aO O) O O,⟨hle2,k2,k3⟩,Po⟩
     ·have hgt:r2<b*md:=by rcases Nx r2 (b*md) with e | e;exact e;exact absurd (show Ep (b*md) r2<=0 by unfold Ep;split;decide;split;omega;decide) hc95
      have hgt2:r2/b<md:=(Ov hy).2 (by rw [MU];exact hgt);exact Z3 O O O O<|⟨(lo,md-1),Io ⟨O,O,O,O,O,O,O,O,af (fun i:Int=>V.pv (PV.int .i64 i)) (show (md:Int)-1=((md-1:Nat):Int) by omega),Pw⟩ (aO O) O O,⟨k1,Po,Po⟩,Po⟩
    ·refine Gx O ?_;have hlod:lo=r2/b:=Po;rw [<-hlod] at hst hdl;have hmo2:r2%b=r2-b*lo:=by rw [hlod];have:=Nat.div_add_mod r2 b;omega
     have hok2:=hQ.ok.set (k:=i-1) hdl;refine Z3 O O O O<|Rs 102 O O (aa (i-1) underlying22 sz3 O O O Po hia)<|A1 O<|Z2 O O O ?_;refine Gp O O (fun hc104=>?_) (fun hc104=>?_)
     ·have htm:=Cz b lo Po Po;have hble:b*lo<=r2:=by rw [hlod];exact Nat.mul_div_le r2 b
      have hr20:0<r2:=by rcases Mv r2 with e | e;rw [e,Nat.zero_div] at hlod;omega;exact e
      have hmi:=IA r2 (b*lo) Po hble hr20;refine Z4 O O O O O<|Rs 109 O O (ae call271 htm O) ?_;refine RL.call O (dE call272 hmi O ?_);rintro _ ⟨ov,v1,v2,v3,rfl⟩;exact A1 O<|Rs 112 O O (ae call119 (KH (v:=r2%b) ov O Po v1 (by rw [v3,hmo2])) O)<|Rs 113 O O (FE underlying100 O O ⟨_,underlying22,O⟩ O O)<|A1 O<|Z3 O O O O<|⟨(i-1,r2%b,q.set (i-1) lo),Io ⟨O,O,O,O,O,O,af (fun i:Int=>V.pv (PV.int .i64 i)) (show (i:Int)-1-1=((i-1:Nat):Int)-1 by omega),Pw⟩ ⟨O,O,O,O,af (fun c=>some (Ob.cells 3 c)) (by rw [Mi,Hh]),Pw⟩ O O,⟨Po,by rw [Md];exact hql,hok2,Ni _ hy,hst⟩,Po⟩
     ·have hl0:lo=0:=Po;have hr2m:r2=r2%b:=by rw [hmo2,hl0];simp
      exact Il<|Z3 O O O O<|⟨(i-1,r2%b,q.set (i-1) lo),Io ⟨O,O,O,O,af (fun n:Nat=>V.pv (pli (aj n))) hr2m,O,af (fun i:Int=>V.pv (PV.int .i64 i)) (show (i:Int)-1-1=((i-1:Nat):Int)-1 by omega),Pw⟩ ⟨O,O,O,O,af (fun c=>some (Ob.cells 3 c)) (by rw [Mi,Hh]),Pw⟩ O O,⟨Po,by rw [Md];exact hql,hok2,Ni _ hy,hst⟩,Po⟩
  ·have hd0:r2/b=0:=OR (by rcases Nx r2 b with e | e;exact e;exact absurd (yB.2 e) Po);obtain ⟨lo0,hlo0⟩:∃ z:Nat,z=0:=⟨_,O⟩;obtain ⟨hi0,hhi0⟩:∃ z:Nat,z=0:=⟨_,O⟩;have g1:lo0<=r2/b:=Po;have g2:r2/b<=hi0:=Po;have g3:hi0<=999999999:=Po;refine Il ?_;refine Gl O (st:=fun x_1:Nat×Nat=>mkS [(2,.ptr 0 0),(3,.ptr 1 0),(4,.ptr 2 0),(5,.ptr 3 0),(6,.pv (pli (aj r2))),(7,.osl 4 1 (aj a).length),(8,.pv (.int .i64 ((i:Int)-1))),(9,.pv (.int .i64 (x_1.1:Int))),(10,.pv (.int .i64 (x_1.2:Int)))] [(0,.mix 100 [.pv (.bool nx),.pv (pli (aj a))]),(1,.mix 100 [.pv (.bool ny),.pv (pli (aj b))]),(2,.mix 100 [.pv (.bool false),.pv nS]),(3,.mix 100 [.pv (.bool false),.pv nS]),(4,.cells 3 (Ew q))] 7)
    (I:=fun x_1=>x_1.1<=r2/b/\r2/b<=x_1.2/\x_1.2<=999999999) (μ:=fun x_1=>x_1.2-x_1.1) (x0:=(lo0,hi0)) (Io ⟨O,O,O,O,O,O,O,by first | rfl | (rw [hlo0];rfl),by first | rfl | (rw [hhi0];rfl),Pw⟩ (aO O) O O) (⟨g1,g2,g3⟩) ?_
   rintro ⟨lo,hi⟩ ⟨k1,k2,k3⟩;try simp only
   refine Z3 O O O O ?_;refine Gp O O (fun hc83=>?_) (fun hc83=>?_)
   ·have hmd:∃ md,md=(lo+hi+1)/2:=⟨_,O⟩;obtain ⟨md,hmd⟩:=hmd;have htm:=Cz b md Po Po;have hml:(aj (b*md)).length<=1000000:=by
     have h2:(aj (b*md)).length<=(aj b).length+1:=by
      refine bF.2 ?_;have h1:=gM b;rw [MS];exact ME ((Nat.mul_lt_mul_right Po).2 h1) (MO _ Po)
     omega
    have hsm:=Dq (b*md) r2 Po Po;refine Il<|Z4 O O O O O<|Rs 88 O O (XJ.cast (v':= .pv (.int .i64 (md:Int))) (qe O O Pq) (af (fun i=>V.pv (.int .i64 i)) (by rw [hmd,show (lo:Int)+hi+1=((lo+hi+1:Nat):Int) by omega];exact J4 (b:=2) Po))) ?_;refine A1 O<|Z3 O O O O<|Rs 92 O O (ae call271 htm O)<|A1 O<|Rs 94 O O (ae call173 hsm O)<|A1 O ?_;refine Gp O O (fun hc95=>?_) (fun hc95=>?_)
    ·have hle:b*md<=r2:=by rcases Nx r2 (b*md) with e | e;exact absurd hc95 (by rw [yT e];decide);exact e
     have hle2:md<=r2/b:=(Ow hy).2 (by rw [MU];exact hle);exact Z2 O O O<|⟨(md,hi),Io (aS O) (aO O) O O,⟨hle2,k2,k3⟩,Po⟩
    ·have hgt:r2<b*md:=by rcases Nx r2 (b*md) with e | e;exact e;exact absurd (show Ep (b*md) r2<=0 by unfold Ep;split;decide;split;omega;decide) hc95
     have hgt2:r2/b<md:=(Ov hy).2 (by rw [MU];exact hgt);exact Z3 O O O O<|⟨(lo,md-1),Io ⟨O,O,O,O,O,O,O,O,af (fun i:Int=>V.pv (PV.int .i64 i)) (show (md:Int)-1=((md-1:Nat):Int) by omega),Pw⟩ (aO O) O O,⟨k1,Po,Po⟩,Po⟩
   ·refine Gx O ?_;have hlod:lo=r2/b:=Po;rw [<-hlod] at hst hdl;have hmo2:r2%b=r2-b*lo:=by rw [hlod];have:=Nat.div_add_mod r2 b;omega
    have hok2:=hQ.ok.set (k:=i-1) hdl;refine Z3 O O O O<|Rs 102 O O (aa (i-1) underlying22 sz3 O O O Po hia)<|A1 O<|Z2 O O O ?_;refine Gp O O (fun hc104=>?_) (fun hc104=>?_)
    ·have htm:=Cz b lo Po Po;have hble:b*lo<=r2:=by rw [hlod];exact Nat.mul_div_le r2 b
     have hr20:0<r2:=by rcases Mv r2 with e | e;rw [e,Nat.zero_div] at hlod;omega;exact e
     have hmi:=IA r2 (b*lo) Po hble hr20;refine Z4 O O O O O<|Rs 109 O O (ae call271 htm O) ?_;refine RL.call O (dE call272 hmi O ?_);rintro _ ⟨ov,v1,v2,v3,rfl⟩;exact A1 O<|Rs 112 O O (ae call119 (KH (v:=r2%b) ov O Po v1 (by rw [v3,hmo2])) O)<|Rs 113 O O (FE underlying100 O O ⟨_,underlying22,O⟩ O O)<|A1 O<|Z3 O O O O<|⟨(i-1,r2%b,q.set (i-1) lo),Io ⟨O,O,O,O,O,O,af (fun i:Int=>V.pv (PV.int .i64 i)) (show (i:Int)-1-1=((i-1:Nat):Int)-1 by omega),Pw⟩ ⟨O,O,O,O,af (fun c=>some (Ob.cells 3 c)) (by rw [Mi,Hh]),Pw⟩ O O,⟨Po,by rw [Md];exact hql,hok2,Ni _ hy,hst⟩,Po⟩
    ·have hl0:lo=0:=Po;have hr2m:r2=r2%b:=by rw [hmo2,hl0];simp
     exact Il<|Z3 O O O O<|⟨(i-1,r2%b,q.set (i-1) lo),Io ⟨O,O,O,O,af (fun n:Nat=>V.pv (pli (aj n))) hr2m,O,af (fun i:Int=>V.pv (PV.int .i64 i)) (show (i:Int)-1-1=((i-1:Nat):Int)-1 by omega),Pw⟩ ⟨O,O,O,O,af (fun c=>some (Ob.cells 3 c)) (by rw [Mi,Hh]),Pw⟩ O O,⟨Po,by rw [Md];exact hql,hok2,Ni _ hy,hst⟩,Po⟩
 ·refine Gx O ?_;obtain rfl:i=0:=Po;obtain ⟨hvq,hvr⟩:=Lz hQ;have hql:=hQ.len;have htq:=CG (neg:=nx !=ny) q hql Po hQ.ok hvq;have hlr:(aj r).length<=(aj b).length:=vY (Pb hQ.rlt);have htr:=CG (neg:=nx) (aj r) O Po (c7 r) ((bh r).trans hvr);rw [hdv] at htq;rw [hmo] at htr;refine Im (Ir 4 O O)<|Ge O follows [0,1,2,3,4,5,6,7,8,9,10,11,12,13,14] Pp ?_;iterate 7 refine D1 O O ?_
  refine Ds 121 [] O O O (fun τ h=>ae call119 htq (h.bt O)) O Pp ?_;iterate 4 refine D1 O O ?_
  refine Ds 126 [] O O O (fun τ h=>ae call119 htr (h.bt O)) O Pp ?_;iterate 2 refine D1 O O ?_
  refine ⟨Pp,?_⟩;exact Gt O<|⟨_,_,O,O,⟨aY ⟨_,underlying100,O⟩ Kc O O O,aY ⟨_,underlying100,O⟩ Kc O O O,Pw⟩,O⟩
end
section
theorem La (a:Nat):KQ (a:Int)= .agg [.bool false,pli (aj a)]:=by
 show PV.agg [.bool (decide ((a:Int)<0)),pli (aj (a:Int).natAbs)]=_;rw [Mu Po,Int.natAbs_natCast]
theorem LO (nx ny:Bool) (a b:Nat) (hx:(aj a).length<=100000) (hyl:(aj b).length<=100000):FnP prog 220 [.agg [.bool nx,pli (aj a)],.agg [.bool ny,pli (aj b)]] (· = .agg [.bool false,pli (aj (Nat.gcd a b))]):=by
 refine FnP.ofC func220 O ntmps220 Ps fun m0 w0 F R0=>?_
 refine Z3 O O O O<|Z4 O O O O O ?_;refine Gl O (st:=fun ac:Nat×Nat=>mkS [(2,.ptr 0 0),(3,.ptr 1 0),(4,.ptr 2 0)] [(0,.mix 100 [.pv (.bool false),.pv (pli (aj ac.1))]),(1,.mix 100 [.pv (.bool false),.pv (pli (aj ac.2))]),(2,.mix 100 [.pv (.bool false),.pv nS])] 3)
  (I:=fun ac=>Nat.gcd ac.1 ac.2=Nat.gcd a b/\(aj ac.1).length<=100000/\(aj ac.2).length<=100000) (μ:=fun ac=>ac.2) (x0:=(a,b)) (Io (aS O) (aO O) O O) (⟨O,hx,hyl⟩) ?_
 rintro ⟨x,y⟩ ⟨hg,hxl,hyl2⟩;try simp only at hg hxl hyl2 ⊢
 refine Z4 O O O O O ?_;refine Gp O O (fun hc12=>?_) (fun hc12=>?_)
 ·have hy0:0<y:=nX Po;have hq:=Lu false false x y Po hyl2 hy0;rw [show sgn (false !=false) (x/y)=((x/y:Nat):Int) from O,show sgn false (x%y)=((x%y:Nat):Int) from O,La,La] at hq;refine Il<|Z2 O O O<|Rs 16 O O (ae call251 hq O) ?_;iterate 7 refine A1 O ?_
  refine Ge O follows [0,1,2,3] Pp ?_;iterate 4 refine D1 O O ?_
  refine ⟨Pp,?_⟩;exact ⟨(y,x%y),Io (aS O) (aO O) O O,⟨by rw [<-hg];exact jH x y,hyl2,Fy hy0 hyl2⟩,Ni _ hy0⟩
 ·refine Gx O<|Z2 O O O<|Gt O ?_;have hy0:y=0:=cU.1 Po;exact ⟨_,_,O,O,⟨aY ⟨_,underlying100,O⟩ Kc O O O,Pw⟩,by rw [<-hg,hy0,Nat.gcd_zero_right];rfl⟩
theorem KV (x y:Int) (hx:(aj x.natAbs).length<=100000) (hyl:(aj y.natAbs).length<=100000):FnP prog 220 [KQ x,KQ y] (· =KQ (Int.gcd x y:Int)):=by
 have h:=LO (decide (x<0)) (decide (y<0)) x.natAbs y.natAbs hx hyl;rw [La];exact h
def JQ (n:Nat):Nat:=(Lib.decDigits n).length
theorem F8 {n:Nat} (h:10<=n):JQ n=JQ (n/10)+1:=by
 rw [JQ,JQ,Lib.decDigits,dif_neg Po];simp
theorem CP {n:Nat} (h:n<10):JQ n=1:=by rw [JQ,Lib.decDigits,Pn h];rfl
theorem K3 {n k:Nat} (hk:0<k) (h:n<10^k):JQ n<=k:=by
 induction k generalizing n with
 | zero=>omega
 | succ k ih=>
   by_cases h2:n<10
   ·rw [CP h2];omega
   ·rw [F8 Po];have hk0:0<k:=by
     rcases Mv k with e | e
     ·subst e;simp at h;omega
     ·exact e
    have:=ih hk0 (n:=n/10) (by rw [Ov Pq];rw [MS] at h;exact h);omega
theorem tdivP {a b:Nat} (h:a<=9223372036854775807):IntKind.i64.wrap ((a:Int).tdiv (b:Int))=((a/b:Nat):Int):=J4 h
end
section
open Mk
def leD:Nat->Nat->List UInt8
 | 0,_=>[]
 | k+1,n=>UInt8.ofNat (48+n%10)::leD k (n/10)
theorem leD_len:∀ (k n:Nat),(leD k n).length=k
 | 0,_=>rfl
 | k+1,n=>by simp [leD,leD_len k]
attribute [simp] leD_len
theorem Kl:∀ (a b n:Nat),leD (a+b) n=leD a n++leD b (n/10^a)
 | 0,b,n=>by simp [leD]
 | a+1,b,n=>by
   rw [show a+1+b=(a+b)+1 by omega,leD,leD,Kl a b,MX,Nat.div_div_eq_div_mul,MS,MU 10]
theorem KY:∀ (k m n:Nat),k<=m->leD k (n%10^m)=leD k n
 | 0,_,_,_=>rfl
 | k+1,0,_,h=>by omega
 | k+1,m+1,n,h=>by
   have e1:n%10^(m+1)%10=n%10:=Nat.mod_mod_of_dvd _ ⟨10^m,by rw [MS,MU]⟩;have e2:n%10^(m+1)/10=n/10%10^m:=by rw [MS,MU];exact Nat.mod_mul_right_div_self n 10 (10^m)
   rw [leD,leD,e1,e2,KY k m _ Po]
theorem KG:∀ k,leD k 0=List.replicate k 48
 | 0=>rfl
 | k+1=>by rw [leD,Nat.zero_mod,Nat.zero_div,KG k];rfl
theorem LX {n k:Nat} (hk:JQ n<=k):leD k n=(Lib.decDigits n).reverse++List.replicate (k-JQ n) 48:=by
 induction n using Nat.strongRecOn generalizing k with
 | ind n ih=>
   by_cases h:n<10
   ·obtain ⟨j,rfl⟩:∃ j,k=j+1:=⟨k-1,by rw [CP h] at hk;omega⟩;rw [CP h,leD,OT h,OR h,KG,Lib.decDigits,Pn h];rfl
   ·rw [F8 Po] at hk;obtain ⟨j,rfl⟩:∃ j,k=j+1:=⟨k-1,Po⟩;have e2:Lib.decDigits n=Lib.decDigits (n/10)++[UInt8.ofNat (48+n%10)]:=by
     conv=>lhs;rw [Lib.decDigits]
     rw [dif_neg h]
    rw [leD,ih (n/10) Po Po,F8 (n:=n) Po,e2,List.reverse_append];simp
theorem LP {n:Nat} (h:n≠0):(Lib.decDigits n).reverse.getD (JQ n-1) 0≠48:=by
 induction n using Nat.strongRecOn with
 | ind n ih=>
   by_cases h2:n<10
   ·rw [CP h2,Lib.decDigits,Pn h2];simp only [Nat.sub_self,List.reverse_singleton,List.getD_cons_zero];intro e;have:=af UInt8.toNat e;simp at this;omega
   ·have:=ih (n/10) Po Po;rw [F8 Po,Lib.decDigits,dif_neg h2,List.reverse_append];have hp:0<JQ (n/10):=by
     by_cases h3:n/10<10
     ·rw [CP h3];decide
     ·rw [F8 Po];omega
    obtain ⟨j,hj⟩:∃ j,JQ (n/10)=j+1:=⟨_,(Nat.succ_pred_eq_of_pos hp).symm⟩;rw [hj] at this ⊢;simpa using this
theorem KP (n:Nat):JQ n<=9*(aj n).length+1:=by
 by_cases h:n=0
 ·subst h;rw [CP Pq];omega
 ·have hl:=gM n;rw [show (1000000000:Nat)=10^9 from O,<-Nat.pow_mul] at hl;by_cases h0:(aj n).length=0
  ·exact absurd (cU.1 h0) h
  ·have:=K3 Po hl;omega
theorem Kg {n:Nat} (h:n≠0):JQ n<=9*(aj n).length:=by
 have hl:=gM n;rw [show (1000000000:Nat)=10^9 from O,<-Nat.pow_mul] at hl;by_cases h0:(aj n).length=0
 ·exact absurd (cU.1 h0) h
 ·exact K3 Po hl
theorem Lj (n i:Nat):leD (9*(i+1)) n=leD (9*i) n++leD 9 (lim (aj n) i):=by
 rw [show 9*(i+1)=9*i+9 by omega,Kl,gA]
 congr 1
 rw [show (1000000000:Nat)=10^9 from O,<-Nat.pow_mul,KY 9 9 _ (xV _)]
theorem LK (k d:Nat):leD (k+1) d=leD k d++[UInt8.ofNat (48+d/10^k%10)]:=by
 rw [Kl k 1];rfl
structure Rev (E e:List UInt8) (i:Nat):Prop where
 len:e.length=E.length
 ile:2*i<=E.length+1
 at_:∀ j,j<E.length->e.getD j 0=if j<i\/E.length-i<=j then E.getD (E.length-1-j) 0 else E.getD j 0
theorem rev_zero (E:List UInt8):Rev E E 0:=⟨O,Po,fun j hj=>by rw [kH Po]⟩
theorem JX {l:List UInt8} {k i:Nat} {x:UInt8} (hk:k<l.length):(l.set k x).getD i 0=if i=k then x else l.getD i 0:=by
 simp only [List.getD,OH];by_cases h:i=k
 ·subst h;simp [hk]
 ·rw [kH (fun e=>h e.symm),kH h]
theorem Kr {E e:List UInt8} {i:Nat} (h:Rev E e i) (hi:i<E.length-1-i):Rev E ((e.set i (e.getD (E.length-1-i) 0)).set (E.length-1-i) (e.getD i 0)) (i+1):=by
 have hl:=h.len;refine ⟨by simp [hl],Po,fun j hj=>?_⟩;have a1:e.getD i 0=E.getD i 0:=by rw [h.at_ i Po,kH Po]
 have a2:e.getD (E.length-1-i) 0=E.getD (E.length-1-i) 0:=by rw [h.at_ _ Po,kH Po]
 rw [JX Pt,JX Po,a1,a2];by_cases h1:j=E.length-1-i
 ·rw [qY h1,qY Po];congr 1;omega
 ·rw [kH h1];by_cases h2:j=i
  ·rw [qY h2,qY Po];congr 1;omega
  ·rw [kH h2,h.at_ j hj];by_cases h3:j<i\/E.length-i<=j
   ·rw [qY h3,qY Po]
   ·rw [kH h3,kH Po]
theorem Lc {E e:List UInt8} {i:Nat} (h:Rev E e i) (hi:E.length<=2*i+1):e=E.reverse:=by
 have hl:=h.len;refine MJ (by simp [hl]) fun j h1 h2=>?_
 have hj:j<E.length:=Po;have e1:=h.at_ j hj;rw [List.getElem_reverse];have e2:e.getD j 0=e[j]:=by simp [List.getD,h1]
 have e3:E.getD (E.length-1-j) 0=E[E.length-1-j]:=by simp [List.getD,show E.length-1-j<E.length by omega]
 rw [<-e2,e1,<-e3];split
 ·rfl
 ·congr 1;omega
theorem Kk (l:List UInt8) (d:Nat) (hd:d<10):az l++[.int .u8 ((48:Int)+(d:Int))]=az (l++[UInt8.ofNat (48+d)]):=by
 simp only [az,Mw,oy,M9]
 congr 3
 have:(UInt8.ofNat (48+d)).toNat=48+d:=by simp;omega
 rw [this];rfl
theorem bytesP_len (l:List UInt8):(az l).length=l.length:=by simp [az]
attribute [simp] bytesP_len
theorem Ke (l:List UInt8) (k:Nat):(az l).take k=az (l.take k):=by simp [az,List.map_take]
theorem Hf (l:List UInt8) (k:Nat) (x:UInt8):(az l).set k (.int .u8 (x.toNat:Int))=az (l.set k x):=by simp [az,NF]
theorem DJ {l:List UInt8} {k:Nat} (h:k<l.length):(az l)[k*1]? =some (.int .u8 ((l.getD k 0).toNat:Int)):=by rw [kp h];simp [List.getD,h]
theorem Jl (z:Int):Lib.itoa z=(if z<0 then [45] else [])++Lib.decDigits z.natAbs:=by
 unfold Lib.itoa;split
 ·rfl
 ·rw [show z.toNat=z.natAbs by omega];rfl
theorem K9:Lib.itoa 0=[48]:=by
 rw [Jl,kH Pq,Int.natAbs_zero,Lib.decDigits,Pn Pq];rfl
theorem u8_48 (x:UInt8):(((x.toNat:Nat):Int)==48)=true↔x=48:=by
 rw [Nt];constructor
 ·intro h;exact OI.1 (show x.toNat=(48:UInt8).toNat from Int.ofNat_inj.1 h)
 ·intro h;rw [h];rfl
theorem Jw (z:Int) (hl:(aj z.natAbs).length<=1000000):FnP prog 57 [KQ z] (· = .str ⟨(Lib.itoa z).toArray⟩):=by
 refine FnP.of func57 O ntmps57 Ps fun m0 w0 F R0=>?_
 obtain ⟨n,hn⟩:∃ n,n=z.natAbs:=⟨_,O⟩;refine Z2 O O O<|Z4 O O O O O ?_;refine Gc O O (fun hc12=>?_) (fun hc12=>?_)
 ·refine Z1 O O<|Gt O ?_;have h0:=cU.1 (show (aj z.natAbs).length=0 by have:=Be hc12;omega);have hz:z=0:=Po;exact ⟨_,_,O,O,by rw [hz,K9];rfl⟩
 ·have hl0:0<(aj z.natAbs).length:=by have:=sS hc12;omega
  have hn0:z.natAbs≠0:=fun e=>by rw [e,aV] at hl0;simp at hl0
  refine Il<|Z1 O O<|Im (Iu 3 1 1 5 O O)<|Z1 O O ?_;refine Gl O (st:=fun ac:Nat×List UInt8=>mkS [(1,.ptr 0 0),(3,.gsl 1 1 ac.2.length),(4,.pv (.int .i64 ac.1))] [(0,.mix 100 [.pv (.bool (decide (z<0))),.pv (pli (aj z.natAbs))]),(1,.gro 5 (az ac.2))] 2)
   (I:=fun ac=>ac.1<=(aj z.natAbs).length/\ac.2=leD (9*ac.1) z.natAbs) (μ:=fun ac=>(aj z.natAbs).length-ac.1) (x0:=(0,[])) (Io (aS O) (aO O) O O) (⟨bk _,O⟩) ?_
  rintro ⟨i,l⟩ ⟨hi,hll⟩;try simp only at hi hll ⊢
  refine Gr O ?_;iterate 5 refine A1 O ?_
  refine Gp O O (fun hc17=>?_) (fun hc17=>?_)
  ·have hil:i<(aj z.natAbs).length:=Po;have hv:=BX hil;have hne:=C4 hil;have hbd:=jc (c7 z.natAbs) i;have hst:=Lj z.natAbs i;have hlen:l.length=9*i:=by rw [hll,leD_len]
   rw [<-hll] at hst;clear hll;refine Il ?_
   repeat apply Iz
   refine AW.block ?_;generalize lim (aj z.natAbs) i=d at*;refine Z4 O O O O O ?_;first | refine A2 O Pr ?_ | refine A1 O ?_
   refine A1 O<|Z1 O O ?_;refine Gl O (st:=fun x_1:Nat×List UInt8=>mkS [(1,.ptr 0 0),(3,.gsl 1 1 x_1.2.length),(4,.pv (.int .i64 i)),(5,.pv (.int .i64 ((d/10^x_1.1:Nat):Int))),(6,.pv (.int .i64 x_1.1))] [(0,.mix 100 [.pv (.bool (decide (z<0))),.pv (pli (aj z.natAbs))]),(1,.gro 5 (az x_1.2))] 2)
    (I:=fun x_1=>x_1.1<=9/\x_1.2=l++leD x_1.1 d) (μ:=fun x_1=>9-x_1.1) (x0:=(0,l)) (Io ⟨O,O,O,af (fun n:Nat=>V.pv (.int .i64 n)) Ps,O,Pw⟩ (aO O) O O) (⟨bk _,by simp [leD]⟩) ?_
   rintro ⟨k,m⟩ ⟨hk,hm⟩;try simp only at hk hm ⊢
   refine Z2 O O O ?_;refine Gp O O (fun hc26=>?_) (fun hc26=>?_)
   ·have hmlen:m.length=9*i+k:=by rw [hm];simp;omega
    have hs2:=LK k d;have hq:d/10^k<=d:=Nat.div_le_self _ _;have hq2:d/10^(k+1)=d/10^k/10:=by rw [MS,Nat.div_div_eq_div_mul]
    have hs3:m++[UInt8.ofNat (48+d/10^k%10)]=l++leD (k+1) d:=by rw [hs2,hm,NG]
    have hmod:d/10^k%10<10:=Ni _ Pq;have hbs:=Kk m (d/10^k%10) hmod;clear hm hs2;refine Il ?_
    repeat apply Iz
    refine AW.block ?_;generalize d/10^k=c at*;refine Z2 O O O<|Rs 31 O O (XJ.cast (v':= .pv (.int .i64 ((c%10:Nat):Int))) (l8 O O Pq) O)<|A1 O<|Rs 33 O O (XJ.cast (v':= .pv (.int .u8 ((48:Int)+((c%10:Nat):Int)))) (en underlying3 underlying5 O) (af (fun i=>V.pv (.int .u8 i)) (by show ((48:Int)+((c%10:Nat):Int))%256=_;omega))) ?_;exact Y3 O O O<|Z1 O O<|Rs 37 O O (XJ.cast (v':= .pv (.int .i64 ((c/10:Nat):Int))) (qe O O Pq) (af (fun i=>V.pv (.int .i64 i)) (tdivP (b:=10) Po)))<|A1 O<|Z3 O O O O<|⟨(k+1,m++[UInt8.ofNat (48+c%10)]),Ip [0,3] ⟨O,IN (b:= .gsl 3 1 (m.length+1)) O (af (V.gsl 3 1) (C0 m _)),O,af (fun n:Nat=>V.pv (.int .i64 n)) hq2.symm,O,Pw⟩ ⟨O,af (fun c=>some (Ob.gro 5 c)) hbs,Pw⟩ O O Pq O,⟨Po,hs3⟩,Po⟩
   ·have hk9:k=9:=Po;rw [hk9,<-hst] at hm;exact Gx O<|Z3 O O O O<|⟨(i+1,m),Io (aS O) (aO O) O O,⟨Po,hm⟩,Po⟩
  ·have hie:i=(aj z.natAbs).length:=Po;rw [hie,LX (Kg hn0)] at hll;have hlast:=LP hn0;have hDl:(Lib.decDigits z.natAbs).reverse.length=JQ z.natAbs:=by simp [JQ]
   have hDp:0<JQ z.natAbs:=by unfold JQ;rw [Lib.decDigits];split<;>simp
   have hit:=Jl z;have hdl:=KP z.natAbs;have hD:∃ D,D=(Lib.decDigits z.natAbs).reverse:=⟨_,O⟩;obtain ⟨D,hD⟩:=hD;rw [<-hD] at hll hlast hDl;have hDr:Lib.decDigits z.natAbs=D.reverse:=by rw [hD,List.reverse_reverse]
   rw [hDr] at hit;clear hD hDr;rw [<-hDl] at hlast hDp;have hlD:l.take D.length=D:=by rw [hll];simp
   have hge:D.length<=l.length:=by rw [hll];simp
   have hlge:∀ j,D.length<=j->j<l.length->l.getD j 0=48:=fun j h1 h2=>by
    rw [hll] at h2 ⊢;simp at h2;simp only [List.getD,List.getElem?_append_right h1,List.getElem?_replicate];rw [qY Po];rfl
   have hlt:l.getD (D.length-1) 0≠48:=by
    rw [hll];simp only [List.getD,List.getElem?_append_left (show D.length-1<D.length by omega)];simpa [List.getD] using hlast
   have hllen:l.length<=9000001:=by
    have:=af List.length hll;simp at this;omega
   clear hll hlast;refine Im (St.ku 3 O O Po (jZ (k:=0) Po))<|Gx O ?_;refine Gl O (st:=fun x_2:Nat=>mkS [(1,.ptr 0 0),(3,.osl 1 1 x_2)] [(0,.mix 100 [.pv (.bool (decide (z<0))),.pv (pli (aj z.natAbs))]),(1,.cells 5 (az l))] 2)
    (I:=fun x_2=>D.length<=x_2/\x_2<=l.length) (μ:=fun x_2=>x_2) (x0:=(l.length)) (Io (aS O) (aO O) O O) (⟨hge,xV _⟩) ?_
   rintro k ⟨hk1,hk2⟩;have hkl:k-1<l.length:=Po;have hvk:=DJ hkl;have h48:=u8_48 (l.getD (k-1) 0);have hgek:=hlge (k-1);have heq:k=D.length->l.getD (k-1) 0≠48:=fun e=>by rw [e];exact hlt
   generalize l.getD (k-1) 0=ck at*;refine Z4 O O O O O<|Rs 42 O O (aa (k-1) underlying163 sz5 O O O Po Po) ?_;first | refine A2 O Pr ?_ | refine A1 O ?_
   refine A1 O ?_;refine Gc O O (fun hc44=>?_) (fun hc44=>?_)
   ·have hk3:D.length<=k-1:=by have h1:=h48.1 hc44;rcases Nx (k-1) D.length with e | e;exact absurd h1 (heq Po);exact e
    exact Il<|Z4 O O O O O<|Rs 49 O O (dC (k-1) underlying163 sz5 O O O Po Po)<|A1 O<|⟨(k-1),Io (aS O) (aO O) O O,⟨hk3,Po⟩,Po⟩
   ·have hk3:k=D.length:=by
     apply Decidable.byContradiction;intro hne;have:=h48.2 (hgek Po hkl);rw [hc44] at this;cases this
    refine Gx O<|Im (St.LZ (vs:=az D) 1 k (by rfl) (by rw [Ke,hk3,hlD])) ?_;rw [hk3];refine Z2 O O O ?_;refine Gc O O (fun hc51=>?_) (fun hc51=>?_)
    ·have hE:∃ E,E=D++[45]:=⟨_,O⟩;obtain ⟨E,hE⟩:=hE;have hEr:Lib.itoa z=E.reverse:=by rw [hit,qY (by simpa using hc51),hE];simp
     have hEl:E.length=D.length+1:=by rw [hE];simp
     refine Z2 O O O<|Rs 54 O O (l7 3 F4 O O Ps O O O O Po O)<|A1 O ?_;rw [show az D++[PV.int .u8 45]=az E by rw [hE];simp [az],<-hEl];refine Gr O ?_;iterate 5 refine A1 O ?_
     refine Gl O (st:=fun x_3:Nat×List UInt8=>mkS [(3,.osl 1 1 x_3.2.length),(7,.pv (.int .i64 x_3.1)),(8,.pv (.int .i64 ((x_3.2.length:Int)-1-x_3.1)))] [(1,.cells 5 (az x_3.2))] 2)
      (I:=fun x_3=>Rev E x_3.2 x_3.1) (μ:=fun x_3=>x_3.2.length-x_3.1) (x0:=(0,E)) (Ip [0,3] ⟨O,O,af (fun i=>V.pv (.int .i64 i)) Ps,Pw⟩ (aP O) O O Pq O) (rev_zero E) ?_
     rintro ⟨i,e⟩ hR;try simp only at hR ⊢
     refine Z3 O O O O ?_;refine Gp O O (fun hc60=>?_) (fun hc60=>?_)
     ·have hel:=hR.len;have hi1:i<e.length:=Po;have hk1:e.length-1-i<e.length:=Po;have hvi:=DJ hi1;have hvk:=DJ hk1;have hst:=Kr hR Po;rw [<-hel] at hst;have hset:((az e).set (i*1) (.int .u8 ((e.getD (e.length-1-i) 0).toNat:Int))).set ((e.length-1-i)*1) (.int .u8 ((e.getD i 0).toNat:Int))=az ((e.set i (e.getD (e.length-1-i) 0)).set (e.length-1-i) (e.getD i 0)):=by rw [Mi,Mi,Hf,Hf]
      have hln:((e.set i (e.getD (e.length-1-i) 0)).set (e.length-1-i) (e.getD i 0)).length=e.length:=Ps;clear hR;refine Il ?_
      repeat apply Iz
      refine AW.block ?_;generalize (e.set i (e.getD (e.length-1-i) 0)).set (e.length-1-i) (e.getD i 0)=e2 at*;generalize e.getD (e.length-1-i) 0=ck at*;generalize e.getD i 0=ci at*;refine Ge O follows [0,1,2,3,4,5,6,7,8,9,10,11,12,13,14,15] Pp ?_;iterate 6 refine D1 O O ?_
      refine Ds 71 [_] O O O (fun τ h=>aa (e.length-1-i) underlying163 sz5 (Ee h 0 O O) (Eo h 0 O O) (Ee h 1 O O) Po hk1) O Pp ?_;first | refine D2 O O Pr ?_ | refine D1 O O ?_
      iterate 2 refine D1 O O ?_
      refine Ds 75 [_] O O O (fun τ h=>aa i underlying163 sz5 (Ee h 0 O O) (Eo h 0 O O) (Ee h 1 O O) O hi1) O Pp ?_;first | refine D2 O O Pr ?_ | refine D1 O O ?_
      refine Ds 77 [_] O O O (fun τ h=>aa i underlying163 sz5 (Ee h 0 O O) (Eo h 0 O O) (Ee h 1 O O) O hi1) O Pp<|D1 O O<|Ds 78 [_] O O O (fun τ h=>aa (e.length-1-i) underlying163 sz5 (Ee h 0 O O) (Eo h 0 O O) (Ee h 1 O O) Po hk1) O Pp<|D1 O O ?_;refine ⟨Pp,?_⟩;refine Gr O ?_;iterate 6 refine A1 O ?_
      exact ⟨(i+1,e2),Io ⟨af (V.osl 1 1) hln.symm,O,af (fun i:Int=>V.pv (PV.int .i64 i)) (show (e.length:Int)-1-i-1=(e2.length:Int)-1-((i+1:Nat):Int) by omega),Pw⟩ ⟨af (fun c=>some (Ob.cells 5 c)) hset,Pw⟩ O O,hst,by show e2.length-(i+1)<e.length-i;omega⟩
     ·have hel:=hR.len;have hev:=Lc hR Po;refine Gx O<|Z1 O O<|Rs 80 O O (EC e underlying163 underlying5 underlying9 (.inr ⟨_,_,_,_,O,O,(by rw [Mi];exact (a6 Ps).symm)⟩)) ?_;exact A1 O<|Gt O<|⟨_,_,O,O,by rw [hEr,<-hev];rfl⟩
    ·have hE:∃ E,E=D:=⟨_,O⟩;obtain ⟨E,hE⟩:=hE;have hEr:Lib.itoa z=E.reverse:=by rw [hit,kH (by simpa using hc51),hE];simp
     have hEl:E.length<=D.length+1:=by rw [hE];omega
     rw [<-hE];refine Il<|Gr O ?_;iterate 5 refine A1 O ?_
     refine Gl O (st:=fun x_3:Nat×List UInt8=>mkS [(3,.osl 1 1 x_3.2.length),(7,.pv (.int .i64 x_3.1)),(8,.pv (.int .i64 ((x_3.2.length:Int)-1-x_3.1)))] [(1,.cells 5 (az x_3.2))] 2)
      (I:=fun x_3=>Rev E x_3.2 x_3.1) (μ:=fun x_3=>x_3.2.length-x_3.1) (x0:=(0,E)) (Io ⟨O,O,af (fun i=>V.pv (.int .i64 i)) Ps,Pw⟩ (aO O) O O) (rev_zero E) ?_
     rintro ⟨i,e⟩ hR;try simp only at hR ⊢
     refine Z3 O O O O ?_;refine Gp O O (fun hc60=>?_) (fun hc60=>?_)
     ·have hel:=hR.len;have hi1:i<e.length:=Po;have hk1:e.length-1-i<e.length:=Po;have hvi:=DJ hi1;have hvk:=DJ hk1;have hst:=Kr hR Po;rw [<-hel] at hst;have hset:((az e).set (i*1) (.int .u8 ((e.getD (e.length-1-i) 0).toNat:Int))).set ((e.length-1-i)*1) (.int .u8 ((e.getD i 0).toNat:Int))=az ((e.set i (e.getD (e.length-1-i) 0)).set (e.length-1-i) (e.getD i 0)):=by rw [Mi,Mi,Hf,Hf]
      have hln:((e.set i (e.getD (e.length-1-i) 0)).set (e.length-1-i) (e.getD i 0)).length=e.length:=Ps;clear hR;refine Il ?_
      repeat apply Iz
      refine AW.block ?_;generalize (e.set i (e.getD (e.length-1-i) 0)).set (e.length-1-i) (e.getD i 0)=e2 at*;generalize e.getD (e.length-1-i) 0=ck at*;generalize e.getD i 0=ci at*;refine Ge O follows [0,1,2,3,4,5,6,7,8,9,10,11,12,13,14,15] Pp ?_;iterate 6 refine D1 O O ?_
      refine Ds 71 [_] O O O (fun τ h=>aa (e.length-1-i) underlying163 sz5 (Ee h 0 O O) (Eo h 0 O O) (Ee h 1 O O) Po hk1) O Pp ?_;first | refine D2 O O Pr ?_ | refine D1 O O ?_
      iterate 2 refine D1 O O ?_
      refine Ds 75 [_] O O O (fun τ h=>aa i underlying163 sz5 (Ee h 0 O O) (Eo h 0 O O) (Ee h 1 O O) O hi1) O Pp ?_;first | refine D2 O O Pr ?_ | refine D1 O O ?_
      refine Ds 77 [_] O O O (fun τ h=>aa i underlying163 sz5 (Ee h 0 O O) (Eo h 0 O O) (Ee h 1 O O) O hi1) O Pp<|D1 O O<|Ds 78 [_] O O O (fun τ h=>aa (e.length-1-i) underlying163 sz5 (Ee h 0 O O) (Eo h 0 O O) (Ee h 1 O O) Po hk1) O Pp<|D1 O O ?_;refine ⟨Pp,?_⟩;refine Gr O ?_;iterate 6 refine A1 O ?_
      exact ⟨(i+1,e2),Io ⟨af (V.osl 1 1) hln.symm,O,af (fun i:Int=>V.pv (PV.int .i64 i)) (show (e.length:Int)-1-i-1=(e2.length:Int)-1-((i+1:Nat):Int) by omega),Pw⟩ ⟨af (fun c=>some (Ob.cells 5 c)) hset,Pw⟩ O O,hst,by show e2.length-(i+1)<e.length-i;omega⟩
     ·have hel:=hR.len;have hev:=Lc hR Po;refine Gx O<|Z1 O O<|Rs 80 O O (EC e underlying163 underlying5 underlying9 (.inr ⟨_,_,_,_,O,O,(by rw [Mi];exact (a6 Ps).symm)⟩)) ?_;exact A1 O<|Gt O<|⟨_,_,O,O,by rw [hEr,<-hev];rfl⟩
end
section
open Mk
theorem IE (s:ByteArray):Fg s=(decide (0<s.size)&&(((s.data.toList.getD 0 0).toNat:Int)==45)):=by
 rw [Fg,Lib.hasPrefix,Lib.size_eq];cases s.data.toList with
 | nil=>rfl
 | cons a l=>
   have h:((a.toNat:Int)==45)=(a==45):=by
    rw [Mg,Nt,Nt];constructor
    ·intro h;exact OI.1 (show a.toNat=(45:UInt8).toNat from Int.ofNat_inj.1 h)
    ·intro h;rw [h];rfl
   simp only [List.getD_cons_zero,AS,h];rw [IS Po,NX];show ((45:UInt8)==a&&List.isPrefixOf [] l)=_;simp [Bool.beq_comm]
theorem Ky {s:ByteArray} (h:Fg s=true):s.extract 1 s.size=⟨(bP s).toArray⟩/\0<s.size:=by
 have h1:=h;rw [IE,cH,L6] at h1;refine ⟨?_,h1.1⟩;have e:bP s=s.data.toList.drop 1:=by rw [bP,Lib.trimPrefix];rw [Fg] at h;rw [qY h];rfl
 have e2:(s.extract 1 s.size).data.toList=s.data.toList.drop 1:=Lib.extract_to_end s 1;rw [e,<-e2]
theorem Kt {s:ByteArray} (h:Fg s=false):s=⟨(bP s).toArray⟩:=by
 have e:bP s=s.data.toList:=by rw [bP,Lib.trimPrefix];rw [Fg] at h;rw [kH (by rw [h];decide)]
 rw [e]
def IP (x:ByteArray):Bool:=(((((x.size:Nat):Int)==0)||decide ((x.size:Int)>400))||((((x.data.toList.getD 0 0).toNat:Nat):Int)==48))
theorem Jm (x:ByteArray):IP x=mb x:=by
 rw [IP,mb,p7,Lib.size_eq]
 congr 2
 cases x.data.toList with
 | nil=>rfl
 | cons a l=>simp;omega
theorem L5 {x:ByteArray} (h:((((x.size:Nat):Int)==0)||decide ((x.size:Int)>400))=false):0<x.size:=by
 rw [Mo] at h;have:=h.1;simp at this;have h2:x.size≠0:=fun e=>by rw [e] at h;simp at h
 omega
theorem Lg (D:List UInt8) (k:Nat) (h:k<(⟨D.toArray⟩:ByteArray).size):(((⟨D.toArray⟩:ByteArray)[k]'h).toNat:Int)=((D.getD k 0).toNat:Int):=by rw [<-HY _ k h]
theorem H2 (s:ByteArray):FnP prog 113 [.str s] (· = .bool (bo s)):=by
 refine FnP.of func113 O ntmps113 Ps fun m0 w0 F R0=>?_
 obtain ⟨v,hv⟩:∃ v,v=bo s:=⟨_,O⟩;rw [<-hv];refine Z1 O O<|Z2 O O O ?_;refine Gc O O (fun hc6=>?_) (fun hc6=>?_)
 ·exact Z1 O O<|Gt O<|⟨_,_,O,O,af PV.bool (hv.trans (r7 hc6)).symm⟩
 ·have hs:v=pW (bP s):=hv.trans (rH hc6);clear hv;clear hc6;have hnf:=IE s;obtain ⟨t,ht⟩:∃ t:ByteArray,t=⟨(bP s).toArray⟩:=⟨_,O⟩;have htd:t.data.toList=bP s:=by rw [ht]
  refine Il<|Z2 O O O<|Z4 O O O O O ?_;apply Iy 4 11 15 [12,13,14] O Py
  ·intro hb3;have hp:0<s.size:=by simpa using hb3
   exact A1 O<|Rg 13 O O O (pz 0 underlying9 O O O hp)<|Rg 14 O O O ((aQ O O O).cast (v':= .pv (.bool ((((s.data.toList.getD 0 0).toNat:Nat):Int)==45))) (by rw [HY _ 0 hp]))<|A1 O<|Iq Px O O O
  ·intro hb3;iterate 4 refine A1 O ?_
   exact Iq Px O O O
  refine Gc O O (fun hc15=>?_) (fun hc15=>?_)
  ·have hng:Fg s=true:=by rw [hnf];simpa using hc15
   obtain ⟨hD,hp⟩:=Ky hng;refine Z1 O O<|Rs 17 O O (XJ.cast (v':= .pv (.str t)) (kC (kl:= .i64) (kh:= .i64) (il:=1) (ih:=0) (some _) none 1 s.size underlying9 O (by rintro _ ⟨⟩;exact ⟨O,O⟩) Ps Ps (fun _=>rfl) Po (xV _)) (af (fun x=>V.pv (.str x)) (hD.trans ht.symm))) ?_;refine A1 O ?_;have hgn:=@Dd (bP s);have hgg:=@DQ (bP s);rw [<-ht,<-Jm] at hgn hgg;clear hng hc15 hnf;have hsz:t.size=(bP s).length:=by rw [Lib.size_eq,htd]
   generalize bP s=D at*;refine Z4 O O O O O ?_;apply Ix 4 21 25 [22,23,24] O Py
   ·intro hb3;iterate 4 refine A1 O ?_
    exact Iq Px O O O
   ·intro hb3;iterate 4 refine A1 O ?_
    exact Iq Px O O O
   refine A1 O ?_;apply Ix 4 26 30 [27,28,29] O Py
   ·intro hb8;iterate 4 refine A1 O ?_
    exact Iq Px O O O
   ·intro hb8;have hp:=L5 hb8;exact A1 O<|Rg 28 O O O (pz 0 underlying9 O O O hp)<|Rg 29 O O O ((aQ O O O).cast (v':= .pv (.bool ((((t.data.toList.getD 0 0).toNat:Nat):Int)==48))) (by rw [HY _ 0 hp]))<|A1 O<|Iq Px O O O
   refine Gc O O (fun hc30=>?_) (fun hc30=>?_)
   ·exact Z1 O O<|Gt O<|⟨_,_,O,O,af PV.bool (hs.trans (hgn (show IP t=true from hc30))).symm⟩
   ·obtain ⟨hg2,hD0,hD4⟩:=hgg (show IP t=false from hc30);refine Il<|Z1 O O ?_;refine Gl O (st:=fun ac:Nat=>mkS [(3,.pv (.str t)),(4,.pv (.int .i64 ac))] [] 0)
     (I:=fun ac=>ac<=D.length/\∀ j,j<ac->oY (D.getD j 0)=true) (μ:=fun ac=>D.length-ac) (x0:=(0)) (Io (aS O) trivial O O) (⟨bk _,fun j hj=>absurd hj (NW _)⟩) ?_
    rintro k ⟨hk,hall⟩;refine Z4 O O O O O ?_;refine Gp O O (fun hc34=>?_) (fun hc34=>?_)
    ·have hlt:k<D.length:=Po;have hkt:k<t.size:=Po;have hgt:=HY t k hkt;have hno:=Hz hlt;have hye:=F2 hlt;have hgt2:t[k]'hkt=D[k]:=by rw [<-hgt,htd];simp [List.getD,hlt]
     refine Il ?_
     repeat apply Iz
     refine AW.block ?_;generalize D[k]=c at hno hye hgt2 ⊢;refine Z2 O O O<|Rs 39 O O (XJ.cast (v':= .pv (.int .u8 c.toNat)) (pz k underlying9 O O O hkt) (by rw [hgt2]))<|Y2 O O ?_;apply Ix 5 41 46 [42,43,44,45] O Py
     ·intro hb4;iterate 5 refine A1 O ?_
      exact Iq Px O O O
     ·intro hb4;exact Y2 O O<|Rg 44 O O O (XJ.cast (v':= .pv (.int .u8 c.toNat)) (pz k underlying9 O O O hkt) (by rw [hgt2]))<|Y2 O O<|Iq Px O O O
     refine Gc O O (fun hc46=>?_) (fun hc46=>?_)
     ·have hc:=hno hc46;exact Z1 O O<|Gt O<|⟨_,_,O,O,af PV.bool (by rw [hs,hg2,hc])⟩
     ·have hc:=hye hc46;exact Il<|Z3 O O O O<|⟨(k+1),Io (aS O) trivial O O,⟨Po,fun j hj=>by rcases Me.1 hj with h | rfl;exact hall j h;exact hc⟩,Po⟩
    ·exact Gx O<|Z1 O O<|Gt O<|⟨_,_,O,O,af PV.bool (by rw [hs,hg2,Fm fun j hj=>hall j Po])⟩
  ·have hng:Fg s=false:=by rw [hnf];simpa using hc15
   have hts:s=t:=(Kt hng).trans ht.symm;rw [hts];refine Il ?_;have hgn:=@Dd (bP s);have hgg:=@DQ (bP s);rw [<-ht,<-Jm] at hgn hgg;clear hng hc15 hnf;have hsz:t.size=(bP s).length:=by rw [Lib.size_eq,htd]
   generalize bP s=D at*;refine Z4 O O O O O ?_;apply Ix 4 21 25 [22,23,24] O Py
   ·intro hb3;iterate 4 refine A1 O ?_
    exact Iq Px O O O
   ·intro hb3;iterate 4 refine A1 O ?_
    exact Iq Px O O O
   refine A1 O ?_;apply Ix 4 26 30 [27,28,29] O Py
   ·intro hb8;iterate 4 refine A1 O ?_
    exact Iq Px O O O
   ·intro hb8;have hp:=L5 hb8;exact A1 O<|Rg 28 O O O (pz 0 underlying9 O O O hp)<|Rg 29 O O O ((aQ O O O).cast (v':= .pv (.bool ((((t.data.toList.getD 0 0).toNat:Nat):Int)==48))) (by rw [HY _ 0 hp]))<|A1 O<|Iq Px O O O
   refine Gc O O (fun hc30=>?_) (fun hc30=>?_)
   ·exact Z1 O O<|Gt O<|⟨_,_,O,O,af PV.bool (hs.trans (hgn (show IP t=true from hc30))).symm⟩
   ·obtain ⟨hg2,hD0,hD4⟩:=hgg (show IP t=false from hc30);refine Il<|Z1 O O ?_;refine Gl O (st:=fun ac:Nat=>mkS [(3,.pv (.str t)),(4,.pv (.int .i64 ac))] [] 0)
     (I:=fun ac=>ac<=D.length/\∀ j,j<ac->oY (D.getD j 0)=true) (μ:=fun ac=>D.length-ac) (x0:=(0)) (Io (aS O) trivial O O) (⟨bk _,fun j hj=>absurd hj (NW _)⟩) ?_
    rintro k ⟨hk,hall⟩;refine Z4 O O O O O ?_;refine Gp O O (fun hc34=>?_) (fun hc34=>?_)
    ·have hlt:k<D.length:=Po;have hkt:k<t.size:=Po;have hgt:=HY t k hkt;have hno:=Hz hlt;have hye:=F2 hlt;have hgt2:t[k]'hkt=D[k]:=by rw [<-hgt,htd];simp [List.getD,hlt]
     refine Il ?_
     repeat apply Iz
     refine AW.block ?_;generalize D[k]=c at hno hye hgt2 ⊢;refine Z2 O O O<|Rs 39 O O (XJ.cast (v':= .pv (.int .u8 c.toNat)) (pz k underlying9 O O O hkt) (by rw [hgt2]))<|Y2 O O ?_;apply Ix 5 41 46 [42,43,44,45] O Py
     ·intro hb4;iterate 5 refine A1 O ?_
      exact Iq Px O O O
     ·intro hb4;exact Y2 O O<|Rg 44 O O O (XJ.cast (v':= .pv (.int .u8 c.toNat)) (pz k underlying9 O O O hkt) (by rw [hgt2]))<|Y2 O O<|Iq Px O O O
     refine Gc O O (fun hc46=>?_) (fun hc46=>?_)
     ·have hc:=hno hc46;exact Z1 O O<|Gt O<|⟨_,_,O,O,af PV.bool (by rw [hs,hg2,hc])⟩
     ·have hc:=hye hc46;exact Il<|Z3 O O O O<|⟨(k+1),Io (aS O) trivial O O,⟨Po,fun j hj=>by rcases Me.1 hj with h | rfl;exact hall j h;exact hc⟩,Po⟩
    ·exact Gx O<|Z1 O O<|Gt O<|⟨_,_,O,O,af PV.bool (by rw [hs,hg2,Fm fun j hj=>hall j Po])⟩
theorem KM (n:Int) (h0: -9223372036854775808<=n) (h1:n<=9223372036854775807):FnP prog 14 [.int .i64 n] (· = .str ⟨(Lib.itoa n).toArray⟩):=by
 refine FnP.of func14 O ntmps14 Ps fun m0 w0 F R0=>?_
 have hl:(aj n.natAbs).length<=3:=bF.2 Po;exact Z1 O O<|Z1 O O<|Rs 4 O O (ae call56 (Kv n h0 h1) O)<|Rs 5 O O (ae call57 (Jw n Po) O)<|A1 O<|Gt O<|⟨_,_,O,O,O⟩
end
section
open Mk
theorem JS (l:List UInt8) (c:UInt8):jy (l++[c])=jy l*10+(c.toNat-48):=by simp [jy]
theorem JZ {D:List UInt8} {lo j:Nat} (hj:j<D.length) (hlo:lo<=j):jy ((D.drop lo).take (j+1-lo))=jy ((D.drop lo).take (j-lo))*10+((D.getD j 0).toNat-48):=by
 have e:(D.drop lo).take (j+1-lo)=(D.drop lo).take (j-lo)++[D.getD j 0]:=by
  rw [show j+1-lo=(j-lo)+1 by omega,aR Pt]
  congr 2
  simp [List.getD,hj,show lo+(j-lo)=j by omega]
 rw [e,JS]
theorem KI {D:List UInt8} {z k:Nat} (h:k<=z):(⟨(D.take z).toArray⟩:ByteArray).extract 0 k=⟨(D.take k).toArray⟩:=by
 rw [ByteArray.extract_mk]
 congr 1
 apply Array.ext';simp [List.extract_eq_take_drop,Oa,ND h]
theorem K5 {D:List UInt8} (hd:∀ c∈D,oY c=true) {lo j:Nat} (h:j-lo<=9):jy ((D.drop lo).take (j-lo))<1000000000:=by
 have h1:=yA (l:=(D.drop lo).take (j-lo)) (fun c hc=>hd c (OE (Nl hc)));have h2:10^((D.drop lo).take (j-lo)).length<=10^9:=MM Pq Pt;omega
theorem IF (s:ByteArray) (hd:∀ c∈bP s,oY c=true) (hl:(bP s).length<=1000000):FnP prog 114 [.str s] (· =KQ (rdZ s)):=by
 refine FnP.ofC func114 O ntmps114 Ps fun m0 w0 F R0=>?_
 obtain ⟨v,hv⟩:∃ v,v=rdZ s:=⟨_,O⟩;rw [<-hv];obtain ⟨ng,hng⟩:∃ v,v=Fg s:=⟨_,O⟩;have hnf:=IE s;rw [rdZ] at hv;rw [<-hng] at hv hnf;obtain ⟨t,ht⟩:∃ t:ByteArray,t=⟨(bP s).toArray⟩:=⟨_,O⟩;have htd:t.data.toList=bP s:=by rw [ht]
 have hne:(s.toList !=(⟨#[]⟩:ByteArray).toList)=decide (0<s.size):=by
  rw [bne,p7,Lib.size_eq];cases s.data.toList<;>simp
 refine Z1 O O<|Z2 O O O<|Z3 O O O O<|Im (St.er 1 1 2 1 3 O O O)<|Z1 O O<|Rs 11 O O (XJ.cast (v':= .pv (.bool (decide (0<s.size)))) (cF O O O) (af (fun b=>V.pv (.bool b)) hne))<|A1 O ?_;apply Iy 4 12 16 [13,14,15] O Py
 ·intro hb2;have hp:0<s.size:=by simpa using hb2
  exact A1 O<|Rg 14 O O O (pz 0 underlying9 O O O hp)<|Rg 15 O O O ((aQ O O O).cast (v':= .pv (.bool ((((s.data.toList.getD 0 0).toNat:Nat):Int)==45))) (by rw [HY _ 0 hp]))<|A1 O<|Iq Px O O O
 ·intro hb2;iterate 4 refine A1 O ?_
  exact Iq Px O O O
 refine Gc O O (fun hc16=>?_) (fun hc16=>?_)
 ·have hn2:ng=true:=by rw [hnf];exact hc16
  obtain ⟨hD,hp⟩:=Ky (hng.symm.trans hn2);refine Ge O follows [0,1,2,3,4] Pp<|D1 O O<|Ds 18 [] O O O (fun τ h=>XJ.cast (v':= .pv (.str t)) (kC (kl:= .i64) (kh:= .i64) (il:=1) (ih:=0) (some _) none 1 s.size underlying9 (Ee h 0 O O) (by rintro _ ⟨⟩;exact ⟨O,O⟩) Ps Ps (fun _=>rfl) Po (xV _)) (af (fun x=>V.pv (.str x)) (hD.trans ht.symm))) O Pp ?_;iterate 3 refine D1 O O ?_
  refine ⟨Pp,?_⟩;refine Gl O (st:=fun ac:Nat×List Nat=>mkS [(2,.ptr 0 0),(3,.pv (.str ⟨((bP s).take ac.1).toArray⟩)),(4,.ptr 1 0)] [(0,.mix 100 [.pv (.bool false),.pv nS]),(1,.mix 100 [.pv (.bool ng),.gsl 2 1 ac.2.length]),(2,.gro 3 (Ew ac.2))] 3)
   (I:=fun ac=>ac.1<=(bP s).length/\Lok ac.2/\ac.2.length+ac.1<=(bP s).length/\jy (bP s)=jy ((bP s).take ac.1)*1000000000^ac.2.length+val ac.2) (μ:=fun ac=>ac.1) (x0:=((bP s).length,[])) (Io ⟨O,af (fun x=>V.pv (.str x)) (by rw [ht,Mz]),O,Pw⟩ ⟨O,by rw [hn2];rfl,O,Pw⟩ O O) (⟨xV _,fun _ h=>absurd h Ps,Ps,by simp [val]⟩) ?_
  rintro ⟨z,l⟩ ⟨hz,hok,hll,hvl⟩;try simp only at hz hok hll hvl ⊢
  refine Z3 O O O O ?_;refine Gp O O (fun hc22=>?_) (fun hc22=>?_)
  ·refine Il ?_
   repeat apply Iz
   refine AW.block ?_;have hz0:0<z:=by
    have h1:(⟨((bP s).take z).toArray⟩:ByteArray).size=z:=by simp [ByteArray.size];omega
    rw [h1] at hc22;omega
   have hsz:(⟨((bP s).take z).toArray⟩:ByteArray).size=z:=by simp [ByteArray.size];omega
   have hst:=read_step hz O hvl;rw [show jy (List.take (z-(z-9)) (List.drop (z-9) (bP s)))=zO (bP s) z from O] at hst;have hlt:=yq hd z;refine Z3 O O O O<|Rs 26 O O (XJ.cast (v':= .pv (.int .i64 ((z-9:Nat):Int))) (yX O O) (af (fun i=>V.pv (.int .i64 i)) (by rw [hsz];split<;>omega)))<|A1 O<|Z1 O O<|Z2 O O O ?_;refine Gl O (st:=fun x_1:Nat=>mkS [(2,.ptr 0 0),(3,.pv (.str ⟨((bP s).take z).toArray⟩)),(4,.ptr 1 0),(5,.pv (.int .i64 ((z-9:Nat):Int))),(6,.pv (.int .i64 ((jy (((bP s).drop (z-9)).take (x_1-(z-9))):Nat):Int))),(7,.pv (.int .i64 (x_1:Int)))] [(0,.mix 100 [.pv (.bool false),.pv nS]),(1,.mix 100 [.pv (.bool ng),.gsl 2 1 l.length]),(2,.gro 3 (Ew l))] 3)
    (I:=fun x_1=>z-9<=x_1/\x_1<=z) (μ:=fun x_1=>z-x_1) (x0:=(z-9)) (Io ⟨O,O,O,O,af (fun n:Nat=>V.pv (.int .i64 n)) (by simp [jy]),O,Pw⟩ (aO O) O O) (⟨xV _,Po⟩) ?_
   rintro j ⟨hj1,hj2⟩;refine Z4 O O O O O ?_;refine Gp O O (fun hc31=>?_) (fun hc31=>?_)
   ·refine Il ?_
    repeat apply Iz
    refine AW.block ?_;have hjz:j<z:=by rw [hsz] at hc31;omega
    have hjd:j<(bP s).length:=Po;have hjs:j<(⟨((bP s).take z).toArray⟩:ByteArray).size:=Po;have hcj:=Lg ((bP s).take z) j hjs;rw [show ((bP s).take z).getD j 0=(bP s).getD j 0 by simp [List.getD,Ma,hjz]] at hcj;have hdg:=hd ((bP s).getD j 0) (by simp [List.getD,hjd]);have hs2:=JZ hjd hj1;have hb2:=K5 hd (lo:=z-9) (j:=j) Po;simp only [oY,cH,L6] at hdg;generalize (bP s).getD j 0=c at*;generalize jy (((bP s).drop (z-9)).take (j-(z-9)))=u at*;refine Z4 O O O O O<|Rs 38 O O (XJ.cast (v':= .pv (.int .u8 (c.toNat:Int))) (pz j underlying9 O O O hjs) (af (fun i=>V.pv (.int .u8 i)) hcj))<|Rs 39 O O (XJ.cast (v':= .pv (.int .u8 ((c.toNat-48:Nat):Int))) (aQ O O O) (af (fun i=>V.pv (.int .u8 i)) (by show ((c.toNat:Int)-48)%256=_;omega))) ?_;exact Rs 40 O O (XJ.cast (v':= .pv (.int .i64 ((c.toNat-48:Nat):Int))) (en underlying5 underlying3 O) (af (fun i=>V.pv (.int .i64 i)) (eT Po)))<|Y2 O O<|Z3 O O O O<|⟨(j+1),Io ⟨O,O,O,O,af (fun i:Int=>V.pv (.int .i64 i)) (by rw [hs2];omega),O,Pw⟩ (aO O) O O,⟨Po,Po⟩,Po⟩
   ·refine Gx O ?_;have hjz:j=z:=by rw [hsz] at hc31;omega
    rw [hjz,show jy (List.take (z-(z-9)) (List.drop (z-9) (bP s)))=zO (bP s) z from O];generalize zO (bP s) z=u at*;refine Gr O ?_;iterate 7 refine A1 O ?_
    refine Z2 O O O<|Rs 50 O O (XJ.cast (v':= .pv (.str ⟨((bP s).take (z-9)).toArray⟩)) (kC (kl:= .i64) (kh:= .i64) (il:=0) (ih:=((z-9:Nat):Int)) none (some _) 0 (z-9) underlying9 O Ps (fun _=>rfl) (by rintro _ ⟨⟩;exact ⟨O,O⟩) Ps (bk _) (by rw [hsz];omega)) (af (fun x=>V.pv (.str x)) (KI Po))) ?_;exact A1 O<|⟨(z-9,l++[u]),Ip [0,1,4] (aT O) ⟨O,IN (b:=some (.mix 100 [.pv (.bool ng),.gsl 4 1 (l.length+1)])) Pp (af (fun n=>some (Ob.mix 100 [.pv (.bool ng),.gsl 4 1 n])) (C0 l _)),af (fun c=>some (Ob.gro 3 c)) (limI_snoc _ _),Pw⟩ O O Pq O,⟨Po,hok.append (Lok.one hlt),by rw [kQ,L8];omega,by rw [kQ,L8,ez,val_one];exact hst⟩,Po⟩
  ·refine Gx O ?_;have hz0:z=0:=by
    have h1:(⟨((bP s).take z).toArray⟩:ByteArray).size=z:=by simp [ByteArray.size];omega
    rw [h1] at hc22;omega
   rw [hz0,OU,show jy []=0 from O,OP,Mt] at hvl;have htr:=CG (neg:=ng) l O Po hok hvl.symm;rw [<-hv] at htr;exact Im (Ir 2 O O)<|Z1 O O<|Rs 52 O O (ae call119 htr O)<|A1 O<|Gt O<|⟨_,_,O,O,⟨aY ⟨_,underlying100,O⟩ Kc O O O,Pw⟩,O⟩
 ·have hn2:ng=false:=by rw [hnf];exact hc16
  have hts:s=t:=(Kt (hng.symm.trans hn2)).trans ht.symm;rw [hts];refine Il ?_;refine Gl O (st:=fun ac:Nat×List Nat=>mkS [(2,.ptr 0 0),(3,.pv (.str ⟨((bP s).take ac.1).toArray⟩)),(4,.ptr 1 0)] [(0,.mix 100 [.pv (.bool false),.pv nS]),(1,.mix 100 [.pv (.bool ng),.gsl 2 1 ac.2.length]),(2,.gro 3 (Ew ac.2))] 3)
   (I:=fun ac=>ac.1<=(bP s).length/\Lok ac.2/\ac.2.length+ac.1<=(bP s).length/\jy (bP s)=jy ((bP s).take ac.1)*1000000000^ac.2.length+val ac.2) (μ:=fun ac=>ac.1) (x0:=((bP s).length,[])) (Io ⟨O,af (fun x=>V.pv (.str x)) (by rw [ht,Mz]),O,Pw⟩ ⟨O,by rw [hn2];rfl,O,Pw⟩ O O) (⟨xV _,fun _ h=>absurd h Ps,Ps,by simp [val]⟩) ?_
  rintro ⟨z,l⟩ ⟨hz,hok,hll,hvl⟩;try simp only at hz hok hll hvl ⊢
  refine Z3 O O O O ?_;refine Gp O O (fun hc22=>?_) (fun hc22=>?_)
  ·refine Il ?_
   repeat apply Iz
   refine AW.block ?_;have hz0:0<z:=by
    have h1:(⟨((bP s).take z).toArray⟩:ByteArray).size=z:=by simp [ByteArray.size];omega
    rw [h1] at hc22;omega
   have hsz:(⟨((bP s).take z).toArray⟩:ByteArray).size=z:=by simp [ByteArray.size];omega
   have hst:=read_step hz O hvl;rw [show jy (List.take (z-(z-9)) (List.drop (z-9) (bP s)))=zO (bP s) z from O] at hst;have hlt:=yq hd z;refine Z3 O O O O<|Rs 26 O O (XJ.cast (v':= .pv (.int .i64 ((z-9:Nat):Int))) (yX O O) (af (fun i=>V.pv (.int .i64 i)) (by rw [hsz];split<;>omega)))<|A1 O<|Z1 O O<|Z2 O O O ?_;refine Gl O (st:=fun x_1:Nat=>mkS [(2,.ptr 0 0),(3,.pv (.str ⟨((bP s).take z).toArray⟩)),(4,.ptr 1 0),(5,.pv (.int .i64 ((z-9:Nat):Int))),(6,.pv (.int .i64 ((jy (((bP s).drop (z-9)).take (x_1-(z-9))):Nat):Int))),(7,.pv (.int .i64 (x_1:Int)))] [(0,.mix 100 [.pv (.bool false),.pv nS]),(1,.mix 100 [.pv (.bool ng),.gsl 2 1 l.length]),(2,.gro 3 (Ew l))] 3)
    (I:=fun x_1=>z-9<=x_1/\x_1<=z) (μ:=fun x_1=>z-x_1) (x0:=(z-9)) (Io ⟨O,O,O,O,af (fun n:Nat=>V.pv (.int .i64 n)) (by simp [jy]),O,Pw⟩ (aO O) O O) (⟨xV _,Po⟩) ?_
   rintro j ⟨hj1,hj2⟩;refine Z4 O O O O O ?_;refine Gp O O (fun hc31=>?_) (fun hc31=>?_)
   ·refine Il ?_
    repeat apply Iz
    refine AW.block ?_;have hjz:j<z:=by rw [hsz] at hc31;omega
    have hjd:j<(bP s).length:=Po;have hjs:j<(⟨((bP s).take z).toArray⟩:ByteArray).size:=Po;have hcj:=Lg ((bP s).take z) j hjs;rw [show ((bP s).take z).getD j 0=(bP s).getD j 0 by simp [List.getD,Ma,hjz]] at hcj;have hdg:=hd ((bP s).getD j 0) (by simp [List.getD,hjd]);have hs2:=JZ hjd hj1;have hb2:=K5 hd (lo:=z-9) (j:=j) Po;simp only [oY,cH,L6] at hdg;generalize (bP s).getD j 0=c at*;generalize jy (((bP s).drop (z-9)).take (j-(z-9)))=u at*;refine Z4 O O O O O<|Rs 38 O O (XJ.cast (v':= .pv (.int .u8 (c.toNat:Int))) (pz j underlying9 O O O hjs) (af (fun i=>V.pv (.int .u8 i)) hcj))<|Rs 39 O O (XJ.cast (v':= .pv (.int .u8 ((c.toNat-48:Nat):Int))) (aQ O O O) (af (fun i=>V.pv (.int .u8 i)) (by show ((c.toNat:Int)-48)%256=_;omega))) ?_;exact Rs 40 O O (XJ.cast (v':= .pv (.int .i64 ((c.toNat-48:Nat):Int))) (en underlying5 underlying3 O) (af (fun i=>V.pv (.int .i64 i)) (eT Po)))<|Y2 O O<|Z3 O O O O<|⟨(j+1),Io ⟨O,O,O,O,af (fun i:Int=>V.pv (.int .i64 i)) (by rw [hs2];omega),O,Pw⟩ (aO O) O O,⟨Po,Po⟩,Po⟩
   ·refine Gx O ?_;have hjz:j=z:=by rw [hsz] at hc31;omega
    rw [hjz,show jy (List.take (z-(z-9)) (List.drop (z-9) (bP s)))=zO (bP s) z from O];generalize zO (bP s) z=u at*;refine Gr O ?_;iterate 7 refine A1 O ?_
    refine Z2 O O O<|Rs 50 O O (XJ.cast (v':= .pv (.str ⟨((bP s).take (z-9)).toArray⟩)) (kC (kl:= .i64) (kh:= .i64) (il:=0) (ih:=((z-9:Nat):Int)) none (some _) 0 (z-9) underlying9 O Ps (fun _=>rfl) (by rintro _ ⟨⟩;exact ⟨O,O⟩) Ps (bk _) (by rw [hsz];omega)) (af (fun x=>V.pv (.str x)) (KI Po))) ?_;exact A1 O<|⟨(z-9,l++[u]),Ip [0,1,4] (aT O) ⟨O,IN (b:=some (.mix 100 [.pv (.bool ng),.gsl 4 1 (l.length+1)])) Pp (af (fun n=>some (Ob.mix 100 [.pv (.bool ng),.gsl 4 1 n])) (C0 l _)),af (fun c=>some (Ob.gro 3 c)) (limI_snoc _ _),Pw⟩ O O Pq O,⟨Po,hok.append (Lok.one hlt),by rw [kQ,L8];omega,by rw [kQ,L8,ez,val_one];exact hst⟩,Po⟩
  ·refine Gx O ?_;have hz0:z=0:=by
    have h1:(⟨((bP s).take z).toArray⟩:ByteArray).size=z:=by simp [ByteArray.size];omega
    rw [h1] at hc22;omega
   rw [hz0,OU,show jy []=0 from O,OP,Mt] at hvl;have htr:=CG (neg:=ng) l O Po hok hvl.symm;rw [<-hv] at htr;exact Im (Ir 2 O O)<|Z1 O O<|Rs 52 O O (ae call119 htr O)<|A1 O<|Gt O<|⟨_,_,O,O,⟨aY ⟨_,underlying100,O⟩ Kc O O O,Pw⟩,O⟩
end
section
open Mk
end
section
open Mk
def itoT (n:Int):ByteArray:=⟨(Lib.itoa n).toArray⟩
theorem KC (n:Nat):jy (Lib.decDigits n)=n:=by
 induction n using Nat.strongRecOn with
 | ind n ih=>
   by_cases h:n<10
   ·rw [Lib.decDigits,Pn h];simp [jy];omega
   ·rw [Lib.decDigits,dif_neg h,JS,ih _ Po];simp;omega
theorem Ly (n:Nat):∀ c∈Lib.decDigits n,oY c=true:=by
 induction n using Nat.strongRecOn with
 | ind n ih=>
   intro c hc;have key:∀ d,d<10->oY (UInt8.ofNat (48+d))=true:=fun d hd=>by simp [oY];omega
   by_cases h:n<10
   ·rw [Lib.decDigits,Pn h,o7] at hc;rw [hc];exact key n h
   ·rw [Lib.decDigits,dif_neg h] at hc;rcases Mc.1 hc with e | e
    ·exact ih _ Po c e
    ·rw [o7] at e;rw [e];exact key _ (Ni _ Pq)
theorem K1 {a b:Nat} (h:Lib.decDigits a=Lib.decDigits b):a=b:=by rw [<-KC a,h,KC]
theorem Lx {a b:Int} (h:Lib.itoa a=Lib.itoa b):a=b:=by
 have key:∀ (n:Nat) (l:List UInt8),Lib.decDigits n≠45::l:=fun n l e=>by
  have:=Ly n 45 (by rw [e];simp);cases this
 rw [Jl,Jl] at h;by_cases ha:a<0<;>by_cases hb:b<0
 ·rw [qY ha,qY hb] at h;have:=K1 (List.append_cancel_left h);omega
 ·rw [qY ha,kH hb] at h;exact absurd h.symm (key _ _)
 ·rw [kH ha,qY hb] at h;exact absurd h (key _ _)
 ·rw [kH ha,kH hb] at h;have:=K1 (List.append_cancel_left h);omega
theorem LM (d:Nat):((itoT d).toList==EE.toList)=decide (d=1):=by
 rw [Lib.toList_data,Lib.toList_data,Mg,Nt,L6];have h1:Lib.itoa ((1:Nat):Int)=[49]:=by rw [Jl,kH Pq,Lib.decDigits,Pn Pq];rfl
 show Lib.itoa d=[49]↔_;rw [<-h1];exact ⟨fun h=>by have:=Lx h;omega,fun h=>by rw [h]⟩
end
section
open Mk
theorem Lf {s:ByteArray} {i:Nat} (h:Lib.indexByte s.data.toList 47=(i:Int)):sO s=s.extract 0 i/\o5 s=s.extract (i+1) s.size/\cS s=true:=by
 have e:Lib.index s.data.toList [47]=(i:Int):=by rw [Lib.index_one];exact h
 have hc:Lib.cut s.data.toList [47]=(s.data.toList.take i,s.data.toList.drop (i+1),true):=by rw [Lib.cut,e,qY Po];rfl
 have e2:(s.extract (i+1) s.size).data.toList=s.data.toList.drop (i+1):=Lib.extract_to_end s (i+1);refine ⟨?_,?_,?_⟩
 ·rw [sO,hc];apply ByteArray.ext;apply Array.ext';simp [List.extract_eq_take_drop]
 ·rw [o5,hc];show (⟨(s.data.toList.drop (i+1)).toArray⟩:ByteArray)=_;rw [<-e2]
 ·rw [cS,hc]
theorem KA {s:ByteArray} (h:Lib.indexByte s.data.toList 47= -1):sO s=s/\cS s=false:=by
 have e:Lib.index s.data.toList [47]= -1:=by rw [Lib.index_one];exact h
 have hc:Lib.cut s.data.toList [47]=(s.data.toList,[],false):=by rw [Lib.cut,e,kH Po]
 exact ⟨by rw [sO,hc],by rw [cS,hc]⟩
theorem Lo {l:List UInt8} {k:Nat} (hk:k<l.length) (h1:∀ j,j<k->l.getD j 0≠47) (h2:l.getD k 0=47):Lib.indexByte l 47=(k:Int):=by
 rw [<-Lib.index_one];have occ:∀ j,Lib.occAt l [47] j=(decide (j<l.length)&&(l.getD j 0==47)):=fun j=>by
  rw [Lib.occAt];by_cases hj:j<l.length
  ·rw [Mf hj];simp [List.isPrefixOf,List.getD,hj,Bool.beq_comm]
  ·rw [MI Po];simp [List.isPrefixOf,hj]
 refine Lib.index_first Po ?_ fun j hj=>?_
 ·rw [occ,h2];simp [hk]
 ·rw [occ];simp;intro _ e;exact absurd e (by simpa [List.getD] using h1 j hj)
theorem Li {l:List UInt8} (h:∀ j,j<l.length->l.getD j 0≠47):Lib.indexByte l 47= -1:=by
 rcases Int.lt_or_le (Lib.indexByte l 47) 0 with e | e
 ·have:=Lib.indexByte_ge l 47;omega
 ·obtain ⟨i,hi⟩:=so e;have h1:=(Lib.indexByte_some hi).1;obtain ⟨hlt,h2⟩:=Mm.1 h1;exact absurd (by simp [List.getD,hlt,h2]) (h i hlt)
def Et (s:ByteArray):ByteArray:=if cS s=true then o5 s else EE
theorem u8_47 (x:UInt8):(((x.toNat:Nat):Int)==47)=true↔x=47:=by
 rw [Nt];constructor
 ·intro h;exact OI.1 (show x.toNat=(47:UInt8).toNat from Int.ofNat_inj.1 h)
 ·intro h;rw [h];rfl
theorem Ki (s:ByteArray) (hs:s.size<=1000000000):FnP prog 219 [.str s] (· = .tup [.str (sO s),.str (Et s),.bool (cS s)]):=by
 refine FnP.of func219 O ntmps219 Ps fun m0 w0 F R0=>?_
 have hz:s.size=s.data.toList.length:=Lib.size_eq s;refine Z3 O O O O<|Z1 O O ?_;refine Gl O (st:=fun ac:Nat=>mkS [(0,.pv (.str s)),(5,.pv (.int .i64 ac))] [] 0)
  (I:=fun ac=>ac<=s.size/\∀ j,j<ac->s.data.toList.getD j 0≠47) (μ:=fun ac=>s.size-ac) (x0:=(0)) (Io (aS O) trivial O O) (⟨bk _,fun j hj=>absurd hj (NW _)⟩) ?_
 rintro k ⟨hk,hall⟩;refine Z4 O O O O O ?_;refine Gp O O (fun hc9=>?_) (fun hc9=>?_)
 ·have hlt:k<s.size:=Po;have hb:=u8_47 (s.data.toList.getD k 0);have hgt:=HY s k hlt;refine Il<|Z2 O O O<|Rs 14 O O (pz k underlying9 O O O hlt)<|Rs 15 O O ((aQ O O O).cast (v':= .pv (.bool ((((s.data.toList.getD k 0).toNat:Nat):Int)==47))) (by rw [hgt])) ?_;refine Gc O O (fun hc15=>?_) (fun hc15=>?_)
  ·have hc:=Lo Po hall (hb.1 hc15);obtain ⟨c1,c2,c3⟩:=Lf hc;refine Ge O follows [0,1,2,3,4,5,6,7,8,9] Pp ?_;iterate 2 refine D1 O O ?_
   refine Ds 18 [] O O O (fun τ h=>XJ.cast (v':= .pv (.str (sO s))) (kC (kl:= .i64) (kh:= .i64) (il:=0) (ih:=(k:Int)) none (some _) 0 k underlying9 (Ee h 0 O O) Ps (fun _=>rfl) (by rintro _ ⟨⟩;exact ⟨(Ee h 1 O O),O⟩) Ps (bk _) Po) (af (fun x=>V.pv (.str x)) c1.symm)) O Pp ?_;iterate 3 refine D1 O O ?_
   refine Ds 22 [] O O O (fun τ h=>XJ.cast (v':= .pv (.str (o5 s))) (kC (kl:= .i64) (kh:= .i64) (il:=((k:Int)+1)) (ih:=0) (some _) none (k+1) s.size underlying9 (Ee h 0 O O) (by rintro _ ⟨⟩;exact ⟨(Ee h 1 O O),Po⟩) Ps Ps (fun _=>rfl) Po (xV _)) (af (fun x=>V.pv (.str x)) c2.symm)) O Pp ?_;iterate 3 refine D1 O O ?_
   refine ⟨Pp,?_⟩;exact Gt O<|⟨_,_,O,O,by rw [Et,c3];rfl⟩
  ·exact Il<|Z3 O O O O<|⟨(k+1),Io (aS O) trivial O O,⟨Po,fun j hj=>by rcases Me.1 hj with h | rfl;exact hall j h;exact fun e=>by have:=hb.2 e;rw [hc15] at this;cases this⟩,Po⟩
 ·refine Gx O<|Z4 O O O O O<|Gt O ?_;have hc:=Li (l:=s.data.toList) (fun j hj=>hall j Po);obtain ⟨c1,c2⟩:=KA hc;exact ⟨_,_,O,O,by rw [Et,c1,c2];rfl⟩
theorem LH {c:UInt8} {l:List UInt8} (hd:∀ x∈c::l,oY x=true) (h0:c≠48):10^l.length<=jy (c::l):=by
 have hc:=hd c Ps;simp only [oY,cH,L6] at hc;have hc1:1<=c.toNat-48:=by
  have:c.toNat≠48:=fun e=>h0 (OI.1 e)
  omega
 have e:jy (c::l)=(c.toNat-48)*10^l.length+jy l:=by
  rw [jy,MG,yN];simp
 rw [e];have:=ML (10^l.length) hc1;omega
theorem Je {d:ByteArray} (h:bo d=true):decide (rdZ d<=1)=(((d.toList==EE.toList)||(d.toList==Kb.toList))||(((d.data.toList.getD 0 0).toNat:Int)==45)):=by
 have e1:∀ x y:ByteArray,(x.toList==y.toList)=(x.data.toList==y.data.toList):=fun x y=>by rw [Lib.toList_data,Lib.toList_data]
 have hneg:=IE d;rw [bo,e1,MF] at h;rw [e1,e1];rcases h with h | h
 ·have h2:d.data.toList=[48]:=by simpa using h
  have e2:rdZ d=0:=by rw [rdZ,bP,Fg,h2];decide
  rw [e2,h2];rfl
 ·simp only [pW,cH,L6,uv,NS,bne_iff_ne] at h;obtain ⟨⟨⟨hne,hle⟩,h0⟩,hd⟩:=h;cases hD:bP d with
  | nil=>rw [hD] at hne;cases hne
  | cons c l=>
    rw [hD] at h0 hd;have hp:=LH hd (by simpa using h0);have hp1:1<=10^l.length:=Nat.pow_pos Pq;by_cases hng:Fg d=true
    ·have hr:rdZ d<=1:=by rw [rdZ,hng,hD];show-((jy (c::l):Nat):Int)<=1;omega
     rw [IS hr];rw [hng] at hneg;have:=(cH _ _▸hneg.symm:_/\_).2;rw [this,Pc]
    ·have hng:Fg d=false:=by simpa using hng
     have hdd:d.data.toList=c::l:=by rw [<-hD,bP,Lib.trimPrefix,kH (by rw [Fg] at hng;rw [hng];decide)]
     have hr:rdZ d=(jy (c::l):Int):=by rw [rdZ,hng,hD];rfl
     have h45:(((d.data.toList.getD 0 0).toNat:Int)==45)=false:=by
      rw [hng] at hneg;have hs:0<d.size:=by rw [Lib.size_eq,hdd];simp
      rw [IS hs,NX] at hneg;exact hneg.symm
     rw [h45,M7,hr,hdd];have hz:((c::l)==Kb.data.toList)=false:=by
      rw [MQ];intro e;have:c=48:=by injection e
      exact absurd this (by simpa using h0)
     rw [hz,M7,Mg,L6,Nt];constructor
     ·intro hle1;have:l.length=0:=by
       rcases Mv l.length with e | e
       ·exact e
       ·have:10^1<=10^l.length:=MM Pq e;omega
      have hl:l=[]:=Mj this;subst hl;have hc:=hd c Ps;simp only [oY,cH,L6] at hc;have e2:jy [c]=c.toNat-48:=by simp [jy]
      have h3:c.toNat≠48:=fun e=>absurd (OI.1 e) (by simpa using h0)
      have:c.toNat=49:=Po;rw [OI.1 (show c.toNat=(49:UInt8).toNat from this)];rfl
     ·intro e;rw [e];decide
theorem IG {d:ByteArray} (h:bo d=true):d.size<=401/\(1<rdZ d->d.size<=400):=by
 have h2:=dA h;have hs:d.size=d.data.toList.length:=Lib.size_eq d;by_cases hng:Fg d=true
 ·have e:bP d=d.data.toList.drop 1:=by rw [bP,Lib.trimPrefix];rw [Fg] at hng;rw [qY hng];rfl
  rw [e] at h2;refine ⟨by have:=h2.2;simp at this;omega,fun hr=>?_⟩;rw [rdZ,hng] at hr;simp [sgn] at hr;omega
 ·have e:bP d=d.data.toList:=by rw [bP,Lib.trimPrefix];rw [Fg] at hng;rw [kH hng]
  rw [e] at h2;have:=h2.2;exact ⟨Po,fun _=>by omega⟩
theorem KS {d:ByteArray} (h:bo d=true):0<d.size:=by
 rcases Mv d.size with e | e
 ·have h0:d.data.toList=[]:=Mj (by have:=Lib.size_eq d;omega);rw [bo,Lib.toList_data,Lib.toList_data,h0,pW,bP,h0] at h;cases h
 ·exact e
theorem I6 (s:ByteArray) (h:bo (sO s)=false\/bo (Et s)=false):mP s=false:=by
 rw [mP];cases hs:cS s with
 | false=>
   have hx:bo (Et s)=true:=by rw [Et,hs,kH Pq];exact nk
   rcases h with h | h
   ·rw [h];rfl
   ·rw [hx] at h;cases h
 | true=>
   have hx:Et s=o5 s:=by rw [Et,hs,qY O]
   rw [hx] at h;rcases h with h | h
   ·rw [h];rfl
   ·rw [HA,h];cases bo (sO s)<;>simp
theorem KL (s:ByteArray) (hs:cS s=false) (h:bo (sO s)=true):mP s=true:=by
 rw [mP,hs,h];rfl
theorem J8 (s:ByteArray) (hs:cS s=true) (h1:bo (sO s)=true) (h2:bo (Et s)=true):
  mP s= !(((((sO s).toList==Kb.toList)||((Et s).toList==EE.toList))||((Et s).toList==Kb.toList))||((((Et s).data.toList.getD 0 0).toNat:Int)==45)|| !decide (Int.gcd (rdZ (sO s)) (rdZ (Et s))=1)):=by
 have hx:Et s=o5 s:=by rw [Et,hs,qY O]
 have hv:=Je h2;rw [hx] at hv h2 ⊢;rw [mP,hs,h1,kH Pq,HA,h2,hv];cases ((sO s).toList==Kb.toList)<;>cases ((o5 s).toList==EE.toList)<;>cases ((o5 s).toList==Kb.toList)<;>cases ((((o5 s).data.toList.getD 0 0).toNat:Int)==45)<;>simp
theorem Ll (s:ByteArray):s.size=(sO s).size+(if cS s=true then 1+(o5 s).size else 0):=by
 rcases Int.lt_or_le (Lib.indexByte s.data.toList 47) 0 with e | e
 ·have:=Lib.indexByte_ge s.data.toList 47;obtain ⟨c1,c2⟩:=KA (s:=s) Po;rw [c1,c2];simp
 ·obtain ⟨i,hi⟩:=so e;have h1:=(Lib.indexByte_some hi).1;have hlt:=(Mm.1 h1).1;have hz:=Lib.size_eq s;obtain ⟨c1,c2,c3⟩:=Lf (s:=s) hi;rw [c1,c2,c3,qY O];simp;omega
theorem J0 (s:ByteArray) (h:mP s=true):s.size<=802:=by
 have hc:=Ll s;cases hs:cS s with
 | false=>
   have hn:bo (sO s)=true:=by
    cases hn:bo (sO s) with
    | true=>rfl
    | false=>rw [I6 s (.inl hn)] at h;cases h
   have:=(IG hn).1;rw [hs,kH Pq] at hc;omega
 | true=>
   have hn:bo (sO s)=true:=by
    cases hn:bo (sO s) with
    | true=>rfl
    | false=>rw [I6 s (.inl hn)] at h;cases h
   have hd:bo (Et s)=true:=by
    cases hn:bo (Et s) with
    | true=>rfl
    | false=>rw [I6 s (.inr hn)] at h;cases h
   have hf:=J8 s hs hn hd;have hv:=Je hd;have hx:Et s=o5 s:=by rw [Et,hs,qY O]
   rw [hs,qY O,<-hx] at hc;have h1:=(IG hn).1;have h2:1<rdZ (Et s):=by
    apply Int.lt_of_not_ge;intro hle;rw [IS hle] at hv;rw [h] at hf;cases e1:((Et s).toList==EE.toList)<;>cases e2:((Et s).toList==Kb.toList)<;>cases e3:((((Et s).data.toList.getD 0 0).toNat:Int)==45)<;>rw [e1,e2,e3] at hv hf<;>simp at hv hf
   have:=(IG hd).2 h2;omega
theorem Kh (s:ByteArray) (hs:s.size<=1000000000):FnP prog 180 [.str s] (· = .tup [.str (if mP s=true then sO s else ⟨#[]⟩),.str (if mP s=true then Et s else ⟨#[]⟩),.bool (mP s)]):=by
 refine FnP.of func180 O ntmps180 Ps fun m0 w0 F R0=>?_
 have hsp:=Ki s hs;have f1:=J0 s;have f2:=I6 s;have f3:=KL s;have f4:=J8 s;have hvn:=H2 (sO s);have hvd:=H2 (Et s);have hdn:=@dA (sO s);have hdd:=@dA (Et s);have hln:=@oq (sO s);have hld:=@oq (Et s);have hpd:=@KS (Et s);generalize mP s=v at*;generalize sO s=nu at*;generalize Et s=de at*;generalize cS s=sb at*;refine Z3 O O O O<|Z3 O O O O ?_;refine Gp O O (fun hc10=>?_) (fun hc10=>?_)
 ·refine Z3 O O O O<|Gt O ?_;have hv:v=false:=by cases hv:v with | false=>rfl | true=>have:=f1 hv;omega
  exact ⟨_,_,O,O,by rw [hv];rfl⟩
 ·refine Il<|Z1 O O<|Rs 13 O O (ae call219 hsp O) ?_;iterate 7 refine A1 O ?_
  refine Z1 O O<|Rs 18 O O (ae call113 hvn O)<|Y2 O O ?_;apply Ix 4 20 24 [21,22,23] O Py
  ·intro hb3;iterate 4 refine A1 O ?_
   exact Iq Px O O O
  ·intro hb3;exact A1 O<|Rg 22 O O O (ae call113 hvd O)<|Y2 O O<|Iq Px O O O
  refine Gc O O (fun hc24=>?_) (fun hc24=>?_)
  ·refine Z3 O O O O<|Gt O ?_;have hv:v=false:=f2 (by cases h1:bo nu with | false=>exact .inl rfl | true=>right;rw [h1] at hc24;simpa using hc24);exact ⟨_,_,O,O,by rw [hv];rfl⟩
  ·have hin:bo nu=true:=by simp only [Mo] at hc24;simpa using hc24.1
   have hid:bo de=true:=by simp only [Mo] at hc24;simpa using hc24.2
   have hp:=hpd hid;have hrn:=IF nu (hdn hin).1 (by have:=(hdn hin).2;omega);have hrd:=IF de (hdd hid).1 (by have:=(hdd hid).2;omega);have hgc:=KV (rdZ nu) (rdZ de) (by have:=hln hin;omega) (by have:=hld hid;omega);have hgl:(aj ((Int.gcd (rdZ nu) (rdZ de):Nat):Int).natAbs).length<=1000000:=by
    rw [Int.natAbs_natCast];have h1:=hln hin;have h2:=hld hid;by_cases h0:rdZ nu=0
    ·rw [h0,Int.gcd_zero_left];omega
    ·exact AT (vY (Nat.le_of_dvd Po (Nat.gcd_dvd_left _ _))) Po
   have htx:=Jw ((Int.gcd (rdZ nu) (rdZ de):Nat):Int) hgl;have h11:((⟨(Lib.itoa ((Int.gcd (rdZ nu) (rdZ de):Nat):Int)).toArray⟩:ByteArray).toList==EE.toList)=decide (Int.gcd (rdZ nu) (rdZ de)=1):=LM _;refine Il ?_;by_cases hS:sb=true
   ·have hf:=f4 hS hin hid;subst hS;refine Gr O ?_;iterate 5 refine A1 O ?_
    apply Ix 3 29 32 [30,31] O Py
    ·intro hb4;exact Y3 O O O<|Iq Px O O O
    ·intro hb4;exact Y3 O O O<|Iq Px O O O
    refine A1 O ?_;apply Ix 3 33 36 [34,35] O Py
    ·intro hb8;exact Y3 O O O<|Iq Px O O O
    ·intro hb8;exact Y3 O O O<|Iq Px O O O
    refine A1 O ?_;apply Ix 4 37 41 [38,39,40] O Py
    ·intro hb12;iterate 4 refine A1 O ?_
     exact Iq Px O O O
    ·intro hb12;exact A1 O<|Rg 39 O O O (pz 0 underlying9 O O O hp)<|Rg 40 O O O ((aQ O O O).cast (v':= .pv (.bool ((((de.data.toList.getD 0 0).toNat:Nat):Int)==45))) (by rw [HY _ 0 hp]))<|A1 O<|Iq Px O O O
    refine A1 O ?_;apply Ix 8 42 50 [43,44,45,46,47,48,49] O Py
    ·intro hb17;iterate 8 refine A1 O ?_
     exact Iq Px O O O
    ·intro hb17;exact A1 O<|Rg 44 O O O (ae call114 hrn O)<|A1 O<|Rg 46 O O O (ae call114 hrd O)<|Rg 47 O O O (ae call220 hgc O)<|Rg 48 O O O (ae call57 htx O)<|Y2 O O<|Iq Px O O O
    refine A1 O ?_;refine Gc O O (fun hc51=>?_) (fun hc51=>?_)
    ·refine Z3 O O O O<|Gt O ?_;have hv:v=false:=by
      rw [hf,<-h11];rw [Bool.not_eq_false'];exact hc51
     exact ⟨_,_,O,O,by rw [hv];rfl⟩
    ·refine Il<|Gr O ?_;iterate 5 refine A1 O ?_
     refine Gt O ?_;have hv:v=true:=by
      rw [hf,<-h11];rw [NS];exact hc51
     exact ⟨_,_,O,O,by rw [hv];rfl⟩
   ·have hf:=f3 (by simpa using hS) hin;obtain rfl:sb=false:=by simpa using hS
    refine Gr O ?_;iterate 27 refine A1 O ?_
    refine Gc O O (fun hc51=>absurd hc51 Ps) (fun hc51=>?_);refine Il<|Gr O ?_;iterate 5 refine A1 O ?_
    exact Gt O<|⟨_,_,O,O,by rw [hf];rfl⟩
end
end Go.Proofs.YtedfonppffochaaGreatDoor
