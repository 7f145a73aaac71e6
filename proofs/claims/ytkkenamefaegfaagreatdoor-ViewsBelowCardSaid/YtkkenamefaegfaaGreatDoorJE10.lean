/- Lemmas. No condition. -/
import Derived.Test.YtkkenamefaegfaaGreatDoorJE9
set_option maxRecDepth 100000
set_option maxHeartbeats 4000000
open Go.RowKit Go.Proofs.Tryz
open Option renaming some→UF,none→UG
open Bool renaming true→VA,false→VC
namespace Go.Proofs.YtkkenamefaegfaaGreatDoor
variable{δ:Bool}{x:Rat}{E D l e:List UInt8}{k W r y p t u n i a b lo j:Nat}{q:List Nat}{s:ByteArray}
section
open Go.RowKit Mm
theorem Ji(a b:Par):FnP prog 101 [aW a,aW b] (· =ppP (cP a b)):=by
 refine FnP.ofC func101 O ntmps101 Xn λ_ _ _ _=>?_
 have hc:=GL a b;refine Z3 O<|Z2 O<|Rs O (aa call88 hc O)<|A1 O<|Gp O (λz=>?_) (λz=>?_)
 .have e:cP a b=(b,a):=By (by simpa using z);exact Z4 O<|Z4 O<|VF O ⟨⟨ax ⟨_,underlying198,O⟩ Mo O O O,Xq⟩,by rw[e];rfl⟩
 have e:cP a b=(a,b):=sh (by simpa using z);exact Ti<|Z4 O<|VF O ⟨⟨ax ⟨_,underlying198,O⟩ Mo O O O,Xq⟩,by rw[e];rfl⟩
structure CrsO(δ:Bool)(b:List (PP×Rat))(ws vs todo:List (Par×Rat))(acc:List (PP×Rat)):Prop where
 ok:LOk δ 36 acc
 po:∀e∈acc,bZ e.1.1 e.1.2<=0
 ex:∃d,(d++todo).Perm vs/\∀u v,lk acc (cP u v)=lk b (cP u v)+(lk d u*lk ws v+lk d v*lk ws u)
structure CrsI(δ:Bool)(b:List (PP×Rat))(ws dP:List (Par×Rat))(p:Par)(x:Rat)(todo:List (Par×Rat))(acc:List (PP×Rat)):Prop where
 ex:∃d,(d++todo).Perm ws/\Crs δ b ws dP d p x acc
theorem CrsO.start{b:List (PP×Rat)}{ws vs:List (Par×Rat)}(h:LOk δ 36 b)(z:∀e∈b,bZ e.1.1 e.1.2<=0):CrsO δ b ws vs vs b:=
 ⟨h,z,[],T3 _,λu v=>by simp only[lk];grind⟩
theorem CrsO.into{b:List (PP×Rat)}{ws vs l1 l2:List (Par×Rat)}{e:Par×Rat}{acc:List (PP×Rat)}(h:CrsO δ b ws vs (l1++e::l2) acc):∃d,(d++(l1++e::l2)).Perm vs/\CrsI δ b ws d e.1 e.2 ws acc:=by
 obtain⟨d,h1,h2⟩:=h.ex;exact⟨d,h1,⟨[],T3 _,h.ok,h.po,λu v=>by rw[h2];simp only[lk];grind⟩⟩
theorem CrsI.step{b:List (PP×Rat)}{ws dP l1 l2:List (Par×Rat)}{p:Par}{e:Par×Rat}{acc:List (PP×Rat)}(h:CrsI δ b ws dP p x (l1++e::l2) acc)(z:dw 36 (ctr p x e).2):CrsI δ b ws dP p x (l1++l2) (note δ acc (cP p e.1) (ctr p x e).2):=by
 obtain⟨d,h1,h2⟩:=h.ex;refine⟨d++[e],?_,h2.step e z⟩;refine List.Perm.trans ?_ h1;rw[VZ];refine List.Perm.append_left d ?_;show(e::(l1++l2)).Perm (l1++e::l2);exact(W6).symm
theorem CrsI.out{b:List (PP×Rat)}{ws vs d l1 l2:List (Par×Rat)}{e:Par×Rat}{acc:List (PP×Rat)}(A:(d++(l1++e::l2)).Perm vs)(h:CrsI δ b ws d e.1 e.2 [] acc):CrsO δ b ws vs (l1++l2) acc:=by
 obtain⟨dQ,h1,h2⟩:=h.ex;rw[Uh]at h1;have z:=h2.row h1 e.1 e.2;refine⟨z.ok,z.po,d++[e],?_,λu v=>?_⟩
 .grind
 rw[z.eq];simp only[lk];grind
theorem CrsO.end{b:List (PP×Rat)}{ws vs:List (Par×Rat)}{acc:List (PP×Rat)}(h:CrsO δ b ws vs [] acc)(u v:Par):lk acc (cP u v)=lk b (cP u v)+(lk vs u*lk ws v+lk vs v*lk ws u):=by
 obtain⟨d,h1,h2⟩:=h.ex;rw[Uh]at h1;rw[h2,gu h1,gu h1]
theorem CrsO.mem{b:List (PP×Rat)}{ws vs todo:List (Par×Rat)}{acc:List (PP×Rat)}(h:CrsO δ b ws vs todo acc){e:Par×Rat}(z:e∈todo):e∈vs:=by
 obtain⟨d,h1,_⟩:=h.ex;exact h1.subset (by simp[z])
theorem CrsI.mem{b:List (PP×Rat)}{ws dP todo:List (Par×Rat)}{p:Par}{acc:List (PP×Rat)}(h:CrsI δ b ws dP p x todo acc){e:Par×Rat}(z:e∈todo):e∈ws:=by
 obtain⟨d,h1,_⟩:=h.ex;exact h1.subset (by simp[z])
theorem sI{K:Type}{d t l:List (K×Rat)}(h:(d++t).Perm l)(z:(l.map (·.1)).Nodup):(d.map (·.1)).Nodup:=by grind
theorem CrsI.abs{b:List (PP×Rat)}{ws vs dP todo t2:List (Par×Rat)}{p:Par}{acc:List (PP×Rat)}{B C E:Nat}(h:CrsI δ b ws dP p x todo acc)(z:(dP++t2).Perm vs)(G:LOk VA 6 vs)(A:LOk VA 6 ws)(H:∀u v,bj B (lk b (cP u v)))
  (bv:∀e∈vs,bj C e.2) (bx:bj C x) (bw:∀e∈ws,bj E e.2):∀e∈acc,bj (B+(C*E+C*E)+(C*E+C*E)) e.2:=by
 obtain⟨d,h1,h2⟩:=h.ex;refine h2.abs H (λu=>gK (sI z G.nd) (λe he=>bv e (z.subset (by simp[he]))) u) bx (λu=>gK A.nd bw u) (λu=>gK (sI h1 A.nd) (λe he=>bw e (h1.subset (by simp[he]))) u)
theorem sm3:smB*smB+smB*smB+(smB*smB+smB*smB)+(smB*smB+smB*smB)<=zI:=by decide+kernel
theorem sm4:smB*smB+smB*smB<=zI:=by decide+kernel
structure MulR(v w m:MC):Prop where
 c:m.c=v.c*w.c
 s:LOk VA 6 m.s
 p:LOk VA 36 m.p
 po:∀e∈m.p,bZ e.1.1 e.1.2<=0
 sa:Mm.Asc bZ m.s
 pa:Mm.Asc cI m.p
 es:∀x,lk m.s x=lk w.s x*v.c+lk v.s x*w.c
 ep:∀x y,lk m.p (cP x y)=lk w.p (cP x y)*v.c+lk v.p (cP x y)*w.c+(lk v.s x*lk w.s y+lk v.s y*lk w.s x)
theorem IncR.scaled{v:MC}{k c':Rat}{s':List (Par×Rat)}{p':List (PP×Rat)}(h:IncR VA ((0:Int):Rat) [] [] v k c' s' p')(B:MSm v)(G:∃z:Int,k=(z:Rat))(A:bj smB k):MSmB (smB*smB) ⟨c',s',p'⟩:=by
 have hc:c'=v.c*k:=by rw[h.c,vu];grind
 refine⟨?_,h.s,h.p,h.po (λ_ h=>absurd h Xn),by simp only;rw[hc];exact B.cb.mul A,λe he=>?_,λe he=>?_⟩
 .obtain⟨a,ha⟩:=B.ci;obtain⟨b,hb⟩:=G;exact⟨a*b,by simp only;rw[hc,ha,hb,V5]⟩
 .have h1:=fB h.s.nd he;rw[h.es]at h1;rw[<-h1];simp only[lk,Rat.zero_add];exact(gK B.s.nd B.sb _).mul A
 have h1:=fB h.p.nd he;rw[h.ep]at h1;rw[<-h1];simp only[lk,Rat.zero_add];exact(gK B.p.nd B.pb _).mul A
theorem FL(v w:MC)(G:MSm v)(L:MSm w):FnP prog 42 [mcP v,mcP w] (λr=>∃m,MulR v w m/\r=mcP m):=by
 refine FnP.ofC func42 O ntmps42 Xn λ_ _ _ _=>?_
 have an:=s8 w v.c L G.ci G.cb;have ao:=iR v.c w.c (eD (dw.int 36 G.ci) G.cb sm0) (eD (dw.int 36 L.ci) L.cb sm0);refine Z3 O<|Z3 O<|RL.call O (cz [] 3 call96 O O O O (by exact trivial) Xl O an ?_);rintro _ _ ⟨c1,s1,p1,hR1,rfl,rfl⟩;refine Y2 O ?_;have V:=hR1.scaled L G.ci G.cb;have ab:=jG c1 s1 p1 v w.c sm4 V G L.ci L.cb;refine Z3 O<|RL.call O (cz [5,3,4] 6 call97 O O O O (by exact⟨Xk,Xk,Xk,Xq⟩) Xl O ab ?_);rintro _ _ ⟨c2,s2,p2,hR2,rfl,rfl⟩;have ac:=hR2.po (hR1.po (λ_ h=>absurd h Xn));have ad:∀x y,bj (smB*smB+smB*smB) (lk p2 (cP x y)):=λx y=>by
  rw[hR2.ep];exact(gK V.p.nd V.pb _).add ((gK G.p.nd G.pb _).mul L.cb)
 refine Z4 O<|Rs O (aa call98 ao O)<|Y2 O<|Z2 O<|Rs O (cc 6 underlying110 O O)<|Gz O (st:=λXr:List (Par×Rat)×List (PP×Rat)×List PV=>([(3,UG),(4,UG),(5,UG),(27,UG)],[(1,UG),(2,UG),(3,UG),(4,UF (.mp (aj ppP Xr.2.1) (bg Xr.2.1))),(5,UG),(6,UF (.mi Xr.2.2 (aj aW Xr.1) (bg Xr.1)))])) 7
  (I:=λXr=>CrsO VA p2 w.s v.s Xr.1 Xr.2.1) (μ:=λXr=>Xr.1.length) (x0:=(v.s,p2,[])) (Tk (aS O) (aO Xk) O O) (CrsO.start hR2.p ac) ?_
 rintro⟨todo,acc,cur⟩ hI;try simp only at hI ⊢
 refine Gr O<|RL.call O (cO O O ?_);rintro b rest cur2 ks2 vs2 hN;refine Rs O (bz O O)<|Gc O (λA=>?_) (λA=>?_)
 .obtain⟨_,l1,e,l2,rfl,rfl,rfl,rfl,rfl⟩:=(c8.ofE hN).resolve_left (by rintro⟨h,_⟩;rw[h]at A;cases A);obtain⟨dP,hdP,hI2⟩:=hI.into;have af:=hI.mem (e:=e) Xn;have ag:=G.s.it e af;have H:=G.sb e af;refine Ti<|Gr O<|Rs O (cr O O)<|Ar 6 O<|Z2 O<|Rs O (cc 9 underlying110 O O)<|Gz O (st:=λz:List (Par×Rat)×List (PP×Rat)×List PV=>([(3,UG),(4,UG),(5,UG),(6,UG),(7,UG),(27,UG),(35,UG)],[(1,UG),(2,UG),(3,UG),(4,UF (.mp (aj ppP z.2.1) (bg z.2.1))),(5,UG),(6,UG),(7,UG),(8,UG),(9,UF (.mi z.2.2 (aj aW z.1) (bg z.1)))])) 10
   (I:=λz=>CrsI VA p2 w.s dP e.1 e.2 z.1 z.2.1) (μ:=λz=>z.1.length) (x0:=(w.s,acc,[])) (Tk (aS O) (aO Xk) O O) (hI2) ?_
  rintro⟨todo2,acc2,cur3⟩ hJ;try simp only at hJ ⊢
  refine Gr O<|RL.call O (cO O O ?_);rintro b2 rest2 cur4 ks4 vs4 hN2;refine Rs O (bz O O)<|Gc O (λB=>?_) (λB=>?_)
  .obtain⟨_,l3,g,l4,rfl,rfl,rfl,rfl,rfl⟩:=(c8.ofE hN2).resolve_left (by rintro⟨h,_⟩;rw[h]at B;cases B);have ah:=hJ.mem (e:=g) Xn;have ak:=L.s.it g ah;have U:=L.sb g ah;have ap:=iR e.2 g.2 (eD ag.yq H sm0) (eD ak.yq U sm0);have J:dw 36 (e.2*g.2):=ag.mul ak;have X:=eD J (H.mul U) sm2;have ar:=mY (e.2*g.2) (e.2*g.2) X X;have al:=Ji e.1 g.1;refine Ti<|Gr O<|Rs O (cr O O)<|Ar 6 O<|Z2 O<|Rs O (aa call98 ap O)<|Y2 O<|Z2 O<|Rs O (vt O O O)<|Gc O (λT=>?_) (λT=>?_)
   .have hq:(e.1==g.1)=VA:=T;have M:(ctr e.1 e.2 g).2=e.2*g.2+e.2*g.2:=by simp only[ctr,hq,WH]
    have Y:dw 36 (ctr e.1 e.2 g).2:=by rw[M];exact J.add J
    have P:=hJ.step Y;rw[M]at P;have Z:=oz acc2 (cP e.1 g.1) (e.2*g.2+e.2*g.2) (eD (J.add J) ((H.mul U).add (H.mul U)) sm4) (λx hx=>eD (hJ.ex.choose_spec.2.ok.it x hx) (hJ.abs (t2:=l1++e::l2) hdP G.s L.s ad G.sb H L.sb x hx) sm3);refine Z2 O<|Rs O (aa call99 ar O)<|A1 O<|UB 7 O<|Dr 4 O<|TR O (λτ h=>aa call101 al (h.aD O))<|D1 O<|VE [4] O (λτ h=>aF [4] 13 call100 Z (h.args.trans O) O O O ⟨(Eo h 0 O O),Xq⟩ Xl O) ?_;refine⟨Xk,?_⟩;exact⟨(l3++l4,note VA acc2 (cP e.1 g.1) (e.2*g.2+e.2*g.2),[aW g.1,frP g.2]),Tk (aS O) (aO Xk) O O,P,Xn⟩
   have hq:(e.1==g.1)=VC:=T;have M:(ctr e.1 e.2 g).2=e.2*g.2:=by simp only[ctr,hq,UO,WZ]
   have Y:dw 36 (ctr e.1 e.2 g).2:=by rw[M];exact J
   have P:=hJ.step Y;rw[M]at P;have Z:=oz acc2 (cP e.1 g.1) (e.2*g.2) X (λx hx=>eD (hJ.ex.choose_spec.2.ok.it x hx) (hJ.abs (t2:=l1++e::l2) hdP G.s L.s ad G.sb H L.sb x hx) sm3);refine Ti<|UB 7 O<|Dr 4 O<|TR O (λτ h=>aa call101 al (h.aD O))<|D1 O<|VE [4] O (λτ h=>aF [4] 13 call100 Z (h.args.trans O) O O O ⟨(Eo h 0 O O),Xq⟩ Xl O) ?_;refine⟨Xk,?_⟩;exact⟨(l3++l4,note VA acc2 (cP e.1 g.1) (e.2*g.2),[aW g.1,frP g.2]),Tk (aS O) (aO Xk) O O,P,Xn⟩
  obtain⟨_,rfl,_⟩:=(c8.ofE hN2).resolve_right (by rintro⟨h,_⟩;rw[h]at B;cases B);have am:=hJ.out hdP;exact Gx O<|⟨(l1++l2,acc2,[aW e.1,frP e.2]),Tk (aS O) (aO Xk) O O,am,Xn⟩
 obtain⟨_,rfl,_⟩:=(c8.ofE hN).resolve_right (by rintro⟨h,_⟩;rw[h]at A;cases A);have au:=hI.end;exact Gx O<|Z2 O<|Tj (St.cB (ks:=aj aW (srt bZ s2)) (vs:=bg (srt bZ s2)) 3 Xk (Co _ _) (pubE (br bZ s2).symm))<|Tj (St.cB (ks:=aj ppP (srt cI acc)) (vs:=bg (srt cI acc)) 4 Xk (Co _ _) (pubE (br cI acc).symm))<|VF O ⟨⟨ax ⟨_,underlying113,O⟩ lh O O O,Xq⟩,⟨v.c*w.c,srt bZ s2,srt cI acc⟩,⟨O,hR2.s.srt,hI.ok.srt,λe he=>hI.po e ((br _ _).mem_iff.1 he),fx eF hR2.s.nd,fx c6 hI.ok.nd,λx=>by rw[gu (br _ _),hR2.es,hR1.es];simp only[lk];grind,λx y=>by rw[gu (br _ _),au,hR2.ep,hR1.ep];simp only[lk];grind⟩,O⟩
end
section
open Go.RowKit Mm
namespace Mm
theorem MOk.msm{m:MC}(h:MOk W k m)(z:W<=10^50)(A:k<=50):MSm m:=by
 have B:(10:Nat)^50<=smB:=by decide+kernel
 have G:3*50*10^50<=smB:=by decide+kernel
 have H:9*50*50*10^50<=smB:=by decide+kernel
 exact⟨h.ci,h.s,h.p,h.po,h.cb.up (AS z B),λe he=>(h.sb e he).up (AS (Uy (T9 3 A) z) G),
  λe he=>(h.pb e he).up (AS (Uy (Uy (T9 9 A) A) z) H)⟩
section
variable {K:Type}[BEq K][LawfulBEq K]
theorem Inc.go{D:Int}{b w:List (K×Rat)}{q:Rat}(z:∀e∈w,dw D (e.2*q)):∀{todo acc:List (K×Rat)},Inc δ D b w q todo acc->∃acc',Inc δ D b w q [] acc'
 |[],acc,h=>⟨acc,h⟩
 |e::t,acc,h=>Inc.go z (todo:=t) (Inc.step (l1:=[]) h (z e (h.mem Xn)))
end
theorem CrsI.go{b:List (PP×Rat)}{ws dP:List (Par×Rat)}{p:Par}(z:LOk VA 6 ws)(A:dw 6 x):∀{todo:List (Par×Rat)}{acc:List (PP×Rat)},CrsI δ b ws dP p x todo acc->∃acc',CrsI δ b ws dP p x [] acc'
 |[],acc,h=>⟨acc,h⟩
 | e::t,acc,h=>by
   have hz:dw 36 (x*e.2):=A.mul (z.it e (h.mem Xn));have B:dw 36 (ctr p x e).2:=by
    simp only[ctr];split
    .exact hz.add hz
    exact hz
   exact CrsI.go z A (todo:=t) (CrsI.step (l1:=[]) h B)
theorem CrsO.go{b:List (PP×Rat)}{ws vs:List (Par×Rat)}(z:LOk VA 6 ws)(A:LOk VA 6 vs):∀{todo:List (Par×Rat)}{acc:List (PP×Rat)},CrsO δ b ws vs todo acc->∃acc',CrsO δ b ws vs [] acc'
 |[],acc,h=>⟨acc,h⟩
 | e::t,acc,h=>by
   obtain⟨d,h1,h2⟩:=CrsO.into (l1:=[]) h;obtain⟨acc2,h3⟩:=CrsI.go z (A.it e (h.mem Xn)) h2;exact CrsO.go z A (todo:=t) (CrsI.out (l1:=[]) h1 h3)
theorem SOk.add{W':Nat}{x y:Sem}(B:SOk W k x)(G:SOk W' k y):SOk (W+W') k (Sem.add x y):=by
 obtain⟨v,hv,rfl⟩:=B;obtain⟨w,hw,rfl⟩:=G;have A:∀z:Rat,z*(1:Rat)=z:=Rat.mul_one;obtain⟨s,hs⟩:=Inc.go (λe he=>by rw[A];exact hw.s.it e he) (Inc.start hv.s w.s 1);obtain⟨p,hp⟩:=Inc.go (λe he=>by rw[A];exact hw.p.it e he) (Inc.start hv.p w.p 1);obtain⟨e,h⟩:=MOk.add hv hw (m:=⟨v.c+w.c,s,p⟩) O hs.ok hp.ok (hp.po hv.po hw.po) (λx=>by rw[hs.end,A]) (λx=>by rw[hp.end,A]);exact⟨_,h,e⟩
theorem SOk.mul{W' k':Nat}{x y:Sem}(B:SOk W k x)(G:SOk W' k' y):SOk (W*W') (k+k') (Sem.mul x y):=by
 obtain⟨v,hv,rfl⟩:=B;obtain⟨w,hw,rfl⟩:=G;obtain⟨s1,hs1⟩:=Inc.go (λe he=>(hw.s.it e he).rH hv.ci) (Inc.start (LOk.nil 6) w.s v.c);obtain⟨s,hs⟩:=Inc.go (λe he=>(hv.s.it e he).rH hw.ci) (Inc.start hs1.ok v.s w.c);obtain⟨p1,hp1⟩:=Inc.go (λe he=>(hw.p.it e he).rH hv.ci) (Inc.start (LOk.nil 36) w.p v.c);have z:=hp1.po (λ_ h=>absurd h Xn) hw.po;obtain⟨p2,hp2⟩:=Inc.go (λe he=>(hv.p.it e he).rH hw.ci) (Inc.start hp1.ok v.p w.c);have A:=hp2.po z hv.po;obtain⟨p,hp⟩:=CrsO.go hw.s hv.s (CrsO.start hp2.ok A);obtain⟨e,h⟩:=MOk.mul hv hw (m:=⟨v.c*w.c,s,p⟩) O hs.ok hp.ok hp.po (λx=>by rw[hs.end,hs1.end];simp only[lk];grind) (λx y=>by rw[hp.end,hp2.end,hp1.end];simp only[lk];grind);exact⟨_,h,e⟩
def cnt(n:Int):Sem:=⟨(n:Rat),λ_=>0,λ_ _=>0⟩
theorem ID(n:Nat):MOk n 0 ⟨((n:Int):Rat),[],[]⟩:=
 ⟨⟨n,O⟩,LOk.nil 6,LOk.nil 36,λ_ h=>absurd h Xn,⟨by have:(0:Rat)<=(n:Rat):=Rat.natCast_le_natCast.2 (aJ n);show-(n:Rat)<=(n:Rat);grind,Rat.le_refl⟩,λ_ h=>absurd h Xn,λ_ h=>absurd h Xn⟩
theorem nW(n:Nat):SOk n 0 (cnt n):=⟨_,ID n,O⟩
theorem sY(n:Nat):cn (cnt n)=⟨((n:Int):Rat),[],[]⟩:=PN (ID n) List.Pairwise.nil List.Pairwise.nil
open Classical in
noncomputable def lft(p:Par)(x:Rat):Sem:=⟨1,λq=>if q=p then x else 0,λa b=>if a=p/\b=p then x*x else 0⟩
open Classical in
noncomputable def mcOne(p:Par)(x:Rat):MC:=⟨((1:Int):Rat),if x=0 then []else [(p,x)],if x=0 then []else [((p,p),x*x)]⟩
theorem Qm(h:x*x=0):x=0:=by
 rcases Rat.mul_eq_zero.1 h with h|h<;>exact h
open Classical in
theorem Af(p:Par)(x:Rat)(z:dw 6 x)(B:bj 3 x):MOk 1 1 (mcOne p x)/\(mcOne p x).sem=lft p x/\Asc bZ (mcOne p x).s/\Asc cI (mcOne p x).p:=by
 have hc:bj 1 ((1:Int):Rat):=⟨by decide+kernel,by decide+kernel⟩;have G:bZ p p=0:=eJ.2 O;by_cases h:x=0
 .have e:mcOne p x=⟨((1:Int):Rat),[],[]⟩:=by rw[mcOne,By h,By h]
  rw[e];refine⟨⟨⟨1,O⟩,LOk.nil 6,LOk.nil 36,λ_ h=>absurd h Xn,hc,λ_ h=>absurd h Xn,λ_ h=>absurd h Xn⟩,Sem.same O (λq=>?_) (λa b=>?_),List.Pairwise.nil,List.Pairwise.nil⟩
  .show(0:Rat)=if q=p then x else 0
   split
   .exact h.symm
   .rfl
  show(0:Rat)=if a=p/\b=p then x*x else 0
  split
  .rw[h,Rat.zero_mul]
  .rfl
 have e:mcOne p x=⟨((1:Int):Rat),[(p,x)],[((p,p),x*x)]⟩:=by rw[mcOne,sh h,sh h]
 rw[e];refine⟨⟨⟨1,O⟩,⟨Xn,by simpa using h,by simpa using z⟩,⟨Xn,?_,?_⟩,?_,hc,?_,?_⟩,Sem.same O (λq=>?_) (λa b=>?_),Xn,Xn⟩
 .grind
 .intro e he;simp at he;subst he;exact z.mul z
 .grind
 .grind
 .intro e he;simp at he;subst he;exact B.mul B
 .show(if p==q then x else 0)+(0:Rat)=if q=p then x else 0
  rw[W9];by_cases hq:q=p
  .subst hq;simp
  grind
 show(if(p,p)==cP a b then x*x else 0)+(0:Rat)=if a=p/\b=p then x*x else 0
 rw[W9];by_cases hq:a=p/\b=p
 .grind[cQ]
 rw[sh hq,sh];intro h2;have A:=eq_of_beq h2;rw[<-cQ (show bZ p p<=0 by omega)]at A;rcases Bn A with⟨h4,h5⟩|⟨h4,h5⟩
 .exact hq ⟨h4.symm,h5.symm⟩
 exact hq ⟨h5.symm,h4.symm⟩
theorem Io(p:Par)(x:Rat)(z:dw 6 x)(A:bj 3 x):SOk 1 1 (lft p x):=⟨_,(Af p x z A).1,(Af p x z A).2.1⟩
theorem NO(p:Par)(x:Rat)(z:dw 6 x)(A:bj 3 x):cn (lft p x)=mcOne p x:=by
 obtain⟨h1,h2,h3,h4⟩:=Af p x z A;rw[<-h2];exact PN h1 h3 h4
end Mm
theorem Ik{m:MC}(h:MOk W k m)(z:Mm.Asc bZ m.s)(A:Mm.Asc cI m.p):momP m.sem=mcP m:=by
 show mcP (cn m.sem)=mcP m;rw[PN h z A]
theorem Q7{W':Nat}{x y:Mm.Sem}(B:SOk W k x)(G:SOk W' k y)(H:W<=10^50)(z:W'<=10^50)(A:k<=50):FnP prog 142 [momP x,momP y] (· =momP (Mm.Sem.add x y)):=by
 obtain⟨mx,ex,_,_⟩:=B.cn;obtain⟨my,ey,_,_⟩:=G.cn;refine(IB (cn x) (cn y) (mx.msm H A) (my.msm z A)).mono ?_;rintro r ⟨m,hR,rfl⟩;obtain⟨e,hm⟩:=MOk.add mx my hR.c hR.s hR.p hR.po hR.es hR.ep;rw[ex,ey]at e;rw[<-e];exact(Ik hm hR.sa hR.pa).symm
theorem vG{W' k':Nat}{x y:Mm.Sem}(B:SOk W k x)(G:SOk W' k' y)(H:W<=10^50)(z:W'<=10^50)(I:k<=50)(A:k'<=50):FnP prog 42 [momP x,momP y] (· =momP (Mm.Sem.mul x y)):=by
 obtain⟨mx,ex,_,_⟩:=B.cn;obtain⟨my,ey,_,_⟩:=G.cn;refine(FL (cn x) (cn y) (mx.msm H I) (my.msm z A)).mono ?_;rintro r ⟨m,hR,rfl⟩;obtain⟨e,hm⟩:=MOk.mul mx my hR.c hR.s hR.p hR.po hR.es hR.ep;rw[ex,ey]at e;rw[<-e];exact(Ik hm hR.sa hR.pa).symm
theorem lV(n:Nat)(z:n<=9223372036854775807):FnP prog 40 [.int .i64 n] (· =momP (cnt n)):=by
 have h:=yS (n:Int) Xj Xj;rw[show mcP (mcW (n:Int))=momP (cnt n) by show mcP ⟨((n:Int):Rat),[],[]⟩=mcP (cn (cnt n));rw[sY]]at h;exact h
theorem Mq(p:Par)(x:Rat)(H:FOk x):FnP prog 139 [aW p,frP x] (· =mcP (mcOne p x)):=by
 refine FnP.ofC func139 O ntmps139 Xn λ_ _ _ _=>?_
 have B:=lI 1 Xl Xl;have I:=fR x;have J:=iR x x H H;have G:(x.num.sign==0)=decide (x=0):=iv;refine Z3 O<|Gr O<|Rs O (aF [] 3 call40 B O O O O trivial Xl O)<|Y2 O<|Z1 O<|Rs O (aa call140 I O)<|A1 O<|Gc O (λz=>?_) (λz=>?_)
 .have h0:¬x=0:=by have A:(x.num.sign !=0)=VA:=z;rw[bne,G]at A;simpa using A
  have e:mcOne p x=⟨((1:Int):Rat),[(p,x)],[((p,p),x*x)]⟩:=by rw[mcOne,sh h0,sh h0]
  refine Z4 O<|RL.step (d:=UG) O O (bl gQ underlying110 O O O O ⟨p,O⟩ (r:=UG) O O O)<|UB 9 O<|Dr 7 O<|TR O (λτ h=>aa call98 J (h.aD O))<|DL.step (d:=UG) [4] O O O (λτ h=>bl uf underlying111 (Ee h 0 O O) (Eo h 0 O O) (Ee h 1 O O) (Ee h 2 O O) ⟨(p,p),O⟩ (r:=UG) O O O) O Xk ?_;refine⟨Xk,?_⟩;exact Tj (St.cB (ks:=[aW p]) (vs:=[frP x]) 3 Xk O (T3 _))<|Tj (St.cB (ks:=[ppP (p,p)]) (vs:=[frP (x*x)]) 4 Xk O (T3 _))<|Z2 O<|VF O ⟨⟨ax ⟨_,underlying113,O⟩ lh O O O,Xq⟩,by rw[e];rfl⟩
 have h0:x=0:=by have A:(x.num.sign !=0)=VC:=z;rw[bne,G]at A;simpa using A
 have e:mcOne p x=⟨((1:Int):Rat),[],[]⟩:=by rw[mcOne,By h0,By h0]
 exact Ti<|Tj (St.cB (ks:=[]) (vs:=[]) 3 Xk O (T3 _))<|Tj (St.cB (ks:=[]) (vs:=[]) 4 Xk O (T3 _))<|Z2 O<|VF O ⟨⟨ax ⟨_,underlying113,O⟩ lh O O O,Xq⟩,by rw[e];rfl⟩
theorem FB(p:Par)(x:Rat)(z:dw 6 x)(A:bj 3 x):FnP prog 139 [aW p,frP x] (· =momP (lft p x)):=by
 have h:=Mq p x (eD z.yq A Xu);rw[<-NO p x z A]at h;exact h
end
section
theorem kR(n k:Nat):val ((ae n).drop k)=n/1000000000^k:=by
 by_cases hk:k<=(ae n).length
 .have e:=jT (ae n) k;rw[aL,Ul hk]at e;have z:=sV ((aZ n).take k);rw[TC,Ul hk]at z;have:=vL k
  conv=>rhs;rw[e]
  rw[Nat.add_mul_div_left _ _ this,VR z,T8]
 rw[Uu Xj];have:=er n;have A:1000000000^(ae n).length<=1000000000^k:=UY Xl Xj;rw[VR Xj];rfl
theorem Ro(G:0<p)(H:t=r/p)(I:u=y/p)(z:0<u)(J:0<y):r/y<=t/u:=by
 rw[V4 z,H,V4 G,I];have A:y/p*p<=y:=Nat.div_mul_le_self y p;have B:r/y*y<=r:=Nat.div_mul_le_self r y;rw[U1];exact AS (T9 _ A) B
theorem SP(G:0<p)(H:t=r/p)(I:u=y/p)(J:0<y):t/(u+1)<=r/y:=by
 rw[V4 J];have z:y<(u+1)*p:=by rw[I,Uo];exact Nat.lt_mul_div_succ y G
 have A:t/(u+1)*(u+1)<=t:=Nat.div_mul_le_self t (u+1);have B:t*p<=r:=by rw[H];exact Nat.div_mul_le_self r p
 calc t/(u+1)*y<=t/(u+1)*((u+1)*p):=T9 _ (WG z)
  _=t/(u+1)*(u+1)*p:=(U1 _ _ _).symm
  _<=t*p:=UK _ A
  _<=r:=B
theorem Km(A:0<y):lim (ae y) ((ae y).length-1)=y/1000000000^((ae y).length-1)/\0<lim (ae y) ((ae y).length-1):=by
 have z:0<(ae y).length:=V6 λe=>by have:=bJ.1 e;omega
 refine⟨?_,V6 (wI Xj)⟩;rw[<-kR,TN Xj,Uu Xj,eL Xj];simp[val]
theorem Kk(z:0<n)(A:n<=(ae r).length)(B:(ae r).length<=n+1):r/1000000000^(n-1)=lim (ae r) (n-1)+lim (ae r) n*1000000000:=by
 rw[<-kR,TN Xj,val,eL Xj,show n-1+1=n by omega,Uo]
 congr 2
 by_cases h:(ae r).length=n+1
 .grind[TN,Uu,eL,val]
 rw[Uu Xj,js Xj];rfl
theorem L1{x:List Nat}{d:Nat}(A:i<x.length)(I:q.length=x.length)(h:val (x.drop (i+1))=y*val (q.drop (i+1))+r)(H:d=(lim x i+1000000000*r)/y)(J:0<y):
  val (x.drop i)=y*val ((q.set i d).drop i)+(lim x i+1000000000*r)%y:=by
 have B:x.drop i=lim x i::x.drop (i+1):=by rw[TN A,eL A]
 have G:(q.set i d).drop i=d::q.drop (i+1):=by grind[TN,TQ,List.drop_set]
 rw[B,G,val,val,h];have e:=Wx (lim x i+1000000000*r) y;rw[<-H]at e;generalize (lim x i+1000000000*r)%y=m at*;generalize lim x i=a at*;generalize val (q.drop (i+1))=w;rw[Vy,Vy,Nat.mul_left_comm y];generalize y*w=u;generalize y*d=z at*;omega
theorem Lk(a r:Nat):val (a::ae r)=a+1000000000*r:=by rw[val,aL]
theorem M3(A:a<1000000000)(z:r<y):(a+1000000000*r)/y<1000000000:=by
 rw[V2 Xj];have:1000000000*(r+1)<=1000000000*y:=T9 _ z;omega
structure QuoI(x y i r:Nat)(q:List Nat):Prop where
 ile:i<=(ae x).length
 len:q.length=(ae x).length
 ok:Lok q
 rlt:r<y
 e:val ((ae x).drop i)=y*val (q.drop i)+r
theorem JF{x:Nat}(z:0<y):QuoI x y (ae x).length 0 (List.replicate (ae x).length 0):=
 ⟨AT _,Xn,Lok.replicate _,z,by rw[Uu (AT _),Uu Xn];simp[val]⟩
theorem KY{x:Nat}(h:QuoI x y 0 r q):val q=x/y/\r=x%y:=by
 have e:=h.e;rw[List.drop_zero,List.drop_zero,aL]at e;have z:=h.rlt;rw[e];constructor
 .rw[Nat.mul_add_div Xj,VR z,Vt]
 rw[Nat.mul_add_mod,VU z]
theorem wW(h:a<=9223372036854775807):IntKind.i64.wrap ((a:Int).tdiv (b:Int))=((a/b:Nat):Int):=by
 have e:(a:Int).tdiv (b:Int)=((a/b:Nat):Int):=rfl;have z:=Xd a b;rw[e];generalize a/b=c at*;rw[fw Xj]
theorem C1{v:Nat}(l:List Nat)(z:l.length=n)(A:n<=1000000000)(B:Lok l)(G:val l=v):FnP prog 237 [.agg [.bool VC,.sl UG n (gD l)]] (· = .agg [.bool VC,pli (ae v)]):=
 (cM (neg:=VC) l z A B G).mono λr h=>by
  rw[h];have e:sgn VC v=(v:Int):=rfl;show PV.agg [.bool (decide (sgn VC v<0)),pli (ae (sgn VC v).natAbs)]=_;rw[e,TL Xj,TW]
theorem OK(x y:Int):sgn (decide (x<0) !=decide (y<0)) (x.natAbs/y.natAbs)=x.tdiv y:=by
 have e:∀a b:Nat,((a:Int).tdiv b)=((a/b:Nat):Int):=λ_ _=>rfl
 by_cases hx:x<0<;>by_cases hy:y<0
 .obtain⟨a,rfl⟩:∃a:Nat,x= -(a:Int):=⟨x.natAbs,Xj⟩;obtain⟨b,rfl⟩:∃b:Nat,y= -(b:Int):=⟨y.natAbs,Xj⟩;rw[TD hx,TD hy,Int.neg_tdiv,Int.tdiv_neg,e];simp[sgn]
 .obtain⟨a,rfl⟩:∃a:Nat,x= -(a:Int):=⟨x.natAbs,Xj⟩;obtain⟨b,rfl⟩:∃b:Nat,y=(b:Int):=⟨y.natAbs,Xj⟩;rw[TD hx,TL hy,Int.neg_tdiv,e];simp[sgn]
 .obtain⟨a,rfl⟩:∃a:Nat,x=(a:Int):=⟨x.natAbs,Xj⟩;obtain⟨b,rfl⟩:∃b:Nat,y= -(b:Int):=⟨y.natAbs,Xj⟩;rw[TL hx,TD hy,Int.tdiv_neg,e];simp[sgn]
 grind[sgn]
theorem Q9(x y:Int):sgn (decide (x<0)) (x.natAbs%y.natAbs)=x.tmod y:=by
 have e:∀a b:Nat,((a:Int).tmod b)=((a%b:Nat):Int):=λ_ _=>rfl
 have z:x.tmod y=x.tmod (y.natAbs:Int):=by grind[Int.natAbs_eq,Int.tmod_neg]
 rw[z];by_cases hx:x<0
 .obtain⟨a,rfl⟩:∃a:Nat,x= -(a:Int):=⟨x.natAbs,Xj⟩;rw[TD hx,Int.neg_tmod,e];simp[sgn]
 grind[sgn]
theorem As(nx ny:Bool)(a b:Nat)(hx:(ae a).length<=1000000)(hyl:(ae b).length<=100000)(hy:0<b):FnP prog 238 [.agg [.bool nx,pli (ae a)],.agg [.bool ny,pli (ae b)]] (· = .tup [lP (sgn (nx !=ny) (a/b)),lP (sgn nx (a%b))]):=by
 refine FnP.ofC func238 O ntmps238 Xn λ_ _ _ _=>?_
 obtain⟨dv,hdv⟩:∃z,sgn (nx !=ny) (a/b)=z:=⟨_,O⟩;obtain⟨mo,hmo⟩:∃z,sgn nx (a%b)=z:=⟨_,O⟩;rw[hdv,hmo];have hl:0<(ae b).length:=V6 λe=>by have:=bJ.1 e;omega
 obtain⟨u,hu⟩:∃u,u=lim (ae b) ((ae b).length-1):=⟨_,O⟩;have htop:=Km hy;have hva:=cw (l:=ae b) (k:=(ae b).length-1) Xj;have hna:=dj (l:=ae b) (k:=(ae b).length-1) Xj;have hub:=cR (aZ b) ((ae b).length-1);rw[<-hu]at htop hva hub;refine Z4 O<|Z1 O<|Tj (St.kV [6])<|Z3 O<|Rs O (qB (zs:=[.int .i64 0]) 4 (ae a).length vY O O O O O Xj O)<|A1 O<|Gr O<|Ar 5 O<|Gz O (st:=λXr:Nat×Nat×List Nat=>([(2,UG),(3,UG),(4,UG),(5,UG),(6,UF (.pv (pli (ae Xr.2.1)))),(7,UG),(8,UF (pIi ((Xr.1:Int)-1)))],[(0,UG),(1,UG),(2,UG),(3,UG),(4,UF (.cells 3 (gD Xr.2.2)))])) 5
  (I:=λXr=>QuoI a b Xr.1 Xr.2.1 Xr.2.2) (μ:=λXr=>Xr.1) (x0:=((ae a).length,0,List.replicate (ae a).length 0)) (Tk ⟨O,O,O,O,by rw[aV];rfl,O,O,Xq⟩ ⟨O,O,O,O,ah (λc=>UF (Ob.cells 3 c)) ((dh (.int .i64 0) ((ae a).length*1)).trans (by simp[gD])),Xq⟩ O O) (JF hy) ?_
 rintro⟨i,r,q⟩ hQ;try simp only at hQ ⊢
 refine Z2 O<|Gp O (λhc23=>?_) (λhc23=>?_)
 .have hi0:0<i:=Xj;have hile:=hQ.ile;have U:=hQ.len;have hia:i-1<(ae a).length:=Xj;have hvi:=cw hia;have hni:=dj hia;have hxl:=cR (aZ a) (i-1);have hrl:=hQ.rlt;have P:=L1 (x:=ae a) (q:=q) (i:=i-1) (y:=b) (r:=r) hia U (by rw[show i-1+1=i by omega];exact hQ.e) O hy;have hdl:=M3 hxl hrl;have hlr:(ae r).length<=(ae b).length:=cD (WG hrl);have hcv:=Lk (lim (ae a) (i-1)) r;have hok1:Lok (lim (ae a) (i-1)::ae r):=λz hz=>(BY.1 hz).elim (λe=>e▸hxl) (aZ r z)
  have htr:=C1 (lim (ae a) (i-1)::ae r) (n:=1+(ae r).length) Xo Xj hok1 hcv;have hr2l:(ae (lim (ae a) (i-1)+1000000000*r)).length<=(ae b).length+1:=by
   refine aR.2 ?_;have h1:=er b;rw[Um];omega
  generalize lim (ae a) (i-1)=xi at*;refine Ti<|Z3 O<|Rs O (ag (i-1) underlying22 sz3 O O Xj hia hni)<|A2 O Xm ?_;refine Y2 O<|Rs O (dC (6) vY O O Xn (.inl ⟨UG,O⟩) Xn (xY _) Xj O)<|RL.weaken (by first|exact ai.aw|exact ai.le|exact Tq) (Tn (6) O O)<|A1 O<|Rs O (aa call237 htr O)<|Rs O (im underlying132 O O ⟨_,underlying22,O⟩ O O)<|A1 O ?_;have hr2:∃r2,r2=xi+1000000000*r:=⟨_,O⟩;obtain⟨r2,hr2⟩:=hr2;rw[<-hr2]at P hdl hr2l ⊢;have hsz:=fO r2 b Xj Xj;refine UB 6 O<|Dr 6 O ?_;refine⟨Xk,?_⟩;refine Z3 O<|Rs O (aa call178 hsz O)<|A1 O<|Gp O (λhc44=>?_) (λhc44=>?_)
  .have hrb:b<=r2:=oE.1 hc44;have hlb:(ae b).length<=(ae r2).length:=cD hrb;have hi1:(ae b).length-1<(ae r2).length:=Xj;have hv1:=cw hi1;have hn1:=dj hi1;have ht1:=cR (aZ r2) ((ae b).length-1);have ht2:=cR (aZ r2) (ae b).length;have htt:=Kk hl hlb hr2l;have hhi:=Ro (vL ((ae b).length-1)) htt.symm htop.1 htop.2 hy;have hlo:=SP (vL ((ae b).length-1)) htt.symm htop.1 hy;have hv2:=λh=>cw (l:=ae r2) (k:=(ae b).length) h
   have hz2:=λh=>js (l:=ae r2) (i:=(ae b).length) h
   clear htt;generalize lim (ae r2) ((ae b).length-1)=w1 at*;generalize lim (ae r2) (ae b).length=w2 at*;have hT:∃T,T=w1+w2*1000000000:=⟨_,O⟩;obtain⟨T,hT⟩:=hT;rw[<-hT]at hhi hlo;have hq1:=Xd T u;have hq2:=Xd T (u+1);refine Z3 O<|Rs O (ag ((ae b).length-1) underlying22 sz3 O O Xj hi1 hn1)<|A2 O Xm ?_;refine A1 O<|Z4 O ?_;refine Gp O (λhc53=>?_) (λhc53=>?_)
   .have hi2:(ae b).length<(ae r2).length:=Xj;have hv2:=hv2 hi2;refine Z3 O<|Rs O (ag (ae b).length underlying22 sz3 O O O hi2 hn1)<|A2 O Xm ?_;refine A1 O<|Rs O (XJ.cast (v':= pIi (T:Int)) (l9 O O Xj) (ah (λi=>pIi i) (by rw[hT];simp)))<|A1 O<|Gr O<|Ar 5 O<|Rs O (ag ((ae b).length-1) underlying22 sz3 O O Xj Xj hna)<|A2 O Xm ?_;refine Rs O (XJ.cast (v':= pIi ((T/u:Nat):Int)) (dJ O O Xj) (ah (λi=>pIi i) (wW Xj)))<|Rs O (XJ.cast (v':= pIi ((min 999999999 (T/u):Nat):Int)) (sG O O) (ah (λi=>pIi i) (by split<;>omega)))<|A1 O<|Gr O<|Ar 6 O<|Rs O (ag ((ae b).length-1) underlying22 sz3 O O Xj Xj hna)<|A2 O Xm ?_;refine A1 O<|Rs O (XJ.cast (v':= pIi ((T/(u+1):Nat):Int)) (dJ O O Xj) (ah (λi=>pIi i) (wW Xj)))<|Rs O (XJ.cast (v':= pIi ((min (min 999999999 (T/u)) (T/(u+1)):Nat):Int)) (sG O O) (ah (λi=>pIi i) (by split<;>omega)))<|A1 O ?_;have g1:min (min 999999999 (T/u)) (T/(u+1))<=r2/b:=AS (Nat.min_le_right _ _) hlo;have g2:r2/b<=min 999999999 (T/u):=Nat.le_min.2 ⟨Xj,hhi⟩;have g3:min 999999999 (T/u)<=999999999:=Nat.min_le_left _ _;generalize min (min 999999999 (T/u)) (T/(u+1))=lo0 at*;generalize min 999999999 (T/u)=hi0 at*;refine Gz O (st:=λA:Nat×Nat=>([(2,UG),(3,UG),(4,UG),(5,UG),(6,UG),(7,UG),(8,UG),(9,UF (pIi (A.1:Int))),(10,UF (pIi (A.2:Int)))],[(0,UG),(1,UG),(2,UG),(3,UG),(4,UG)])) 7
     (I:=λA=>A.1<=r2/b/\r2/b<=A.2/\A.2<=999999999) (μ:=λA=>A.2-A.1) (x0:=(lo0,hi0)) (Tk ⟨O,O,O,O,O,O,O,by first|rfl|(rw[hlo0];rfl),by first|rfl|(rw[hhi0];rfl),Xq⟩ (aO O) O O) (⟨g1,g2,g3⟩) ?_
    rintro⟨lo,hi⟩ ⟨k1,k2,k3⟩;try simp only
    refine Z3 O<|Gp O (λac=>?_) (λac=>?_)
    .have hmd:∃md,md=(lo+hi+1)/2:=⟨_,O⟩;obtain⟨md,hmd⟩:=hmd;have L:=eX b md Xj Xj;have hml:(ae (b*md)).length<=1000000:=by
      have h2:(ae (b*md)).length<=(ae b).length+1:=by
       refine aR.2 ?_;have h1:=er b;rw[Um];exact TM ((Nat.mul_lt_mul_right Xj).2 h1) (T9 _ Xj)
      omega
     have hsm:=fO (b*md) r2 Xj Xj;refine Ti<|Z4 O<|Rs O (XJ.cast (v':= pIi (md:Int)) (dJ O O Xl) (ah (λi=>pIi i) (by rw[hmd,show(lo:Int)+hi+1=((lo+hi+1:Nat):Int) by omega];exact wW (b:=2) Xj))) ?_;refine A1 O<|Z3 O<|Rs O (aa call288 L O)<|A1 O<|Rs O (aa call178 hsm O)<|A1 O<|Gp O (λG=>?_) (λG=>?_)
     .have hle:b*md<=r2:=by rcases Vo r2 (b*md)with e|e;exact absurd G (by rw[lz e];decide);exact e
      have X:md<=r2/b:=(V4 hy).2 (by rw[Uo];exact hle);exact Z2 O<|⟨(md,hi),WA O,⟨X,k2,k3⟩,Xj⟩
     have hgt:r2<b*md:=by rcases Vo r2 (b*md)with e|e;exact e;exact absurd (show vX (b*md) r2<=0 by unfold vX;split;decide;split;omega;decide) G
     have hgt2:r2/b<md:=(V2 hy).2 (by rw[Uo];exact hgt);exact Z3 O<|⟨(lo,md-1),Tk ⟨O,O,O,O,O,O,O,O,ah (λi:Int=>V.pv (PV.int .i64 i)) (show(md:Int)-1=((md-1:Nat):Int) by omega),Xq⟩ (aO O) O O,⟨k1,Xj,Xj⟩,Xj⟩
    refine Gx O ?_;have B:lo=r2/b:=Xj;rw[<-B]at P hdl;have H:r2%b=r2-b*lo:=by rw[B];have:=Wx r2 b;omega
    have J:=hQ.ok.set (k:=i-1) hdl;refine Z3 O<|Rs O (ak (i-1) underlying22 sz3 O O O Xj hia)<|A1 O<|Z2 O<|Gp O (λM=>?_) (λM=>?_)
    .have L:=eX b lo Xj Xj;have Y:b*lo<=r2:=by rw[B];exact Nat.mul_div_le r2 b
     have Z:0<r2:=by rcases UJ r2 with e|e;rw[e,Nat.zero_div]at B;omega;exact e
     have hmi:=jl r2 (b*lo) Xj Y Z;refine Z4 O<|Rs O (aa call288 L O)<|RL.call O (ie call242 hmi O ?_);rintro _ ⟨ov,v1,v2,v3,rfl⟩;exact A1 O<|Rs O (aa call237 (C1 (v:=r2%b) ov O Xj v1 (by rw[v3,H])) O)<|Rs O (im underlying132 O O ⟨_,underlying22,O⟩ O O)<|A1 O<|Z3 O<|⟨(i-1,r2%b,q.set (i-1) lo),Tk ⟨O,O,O,O,O,O,ah (λi:Int=>V.pv (PV.int .i64 i)) (show(i:Int)-1-1=((i-1:Nat):Int)-1 by omega),Xq⟩ ⟨O,O,O,O,ah (λc=>UF (Ob.cells 3 c)) (by rw[TZ,gN]),Xq⟩ O O,⟨Xj,by rw[TQ];exact U,J,UH _ hy,P⟩,Xj⟩
    have hl0:lo=0:=Xj;have ab:r2=r2%b:=by rw[H,hl0];simp
    exact Ti<|Z3 O<|⟨(i-1,r2%b,q.set (i-1) lo),Tk ⟨O,O,O,O,ah (λn:Nat=>V.pv (pli (ae n))) ab,O,ah (λi:Int=>V.pv (PV.int .i64 i)) (show(i:Int)-1-1=((i-1:Nat):Int)-1 by omega),Xq⟩ ⟨O,O,O,O,ah (λc=>UF (Ob.cells 3 c)) (by rw[TZ,gN]),Xq⟩ O O,⟨Xj,by rw[TQ];exact U,J,UH _ hy,P⟩,Xj⟩
   have hw2:w2=0:=hz2 Xj;have hTw:T=w1:=by rw[hT,hw2];omega
   rw[<-hTw];refine Ti<|Gr O<|Ar 5 O<|Rs O (ag ((ae b).length-1) underlying22 sz3 O O Xj Xj hna)<|A2 O Xm ?_;refine Rs O (XJ.cast (v':= pIi ((T/u:Nat):Int)) (dJ O O Xj) (ah (λi=>pIi i) (wW Xj)))<|Rs O (XJ.cast (v':= pIi ((min 999999999 (T/u):Nat):Int)) (sG O O) (ah (λi=>pIi i) (by split<;>omega)))<|A1 O<|Gr O<|Ar 6 O<|Rs O (ag ((ae b).length-1) underlying22 sz3 O O Xj Xj hna)<|A2 O Xm ?_;refine A1 O<|Rs O (XJ.cast (v':= pIi ((T/(u+1):Nat):Int)) (dJ O O Xj) (ah (λi=>pIi i) (wW Xj)))<|Rs O (XJ.cast (v':= pIi ((min (min 999999999 (T/u)) (T/(u+1)):Nat):Int)) (sG O O) (ah (λi=>pIi i) (by split<;>omega)))<|A1 O ?_;have g1:min (min 999999999 (T/u)) (T/(u+1))<=r2/b:=AS (Nat.min_le_right _ _) hlo;have g2:r2/b<=min 999999999 (T/u):=Nat.le_min.2 ⟨Xj,hhi⟩;have g3:min 999999999 (T/u)<=999999999:=Nat.min_le_left _ _;generalize min (min 999999999 (T/u)) (T/(u+1))=lo0 at*;generalize min 999999999 (T/u)=hi0 at*;refine Gz O (st:=λA:Nat×Nat=>([(2,UG),(3,UG),(4,UG),(5,UG),(6,UG),(7,UG),(8,UG),(9,UF (pIi (A.1:Int))),(10,UF (pIi (A.2:Int)))],[(0,UG),(1,UG),(2,UG),(3,UG),(4,UG)])) 7
    (I:=λA=>A.1<=r2/b/\r2/b<=A.2/\A.2<=999999999) (μ:=λA=>A.2-A.1) (x0:=(lo0,hi0)) (Tk ⟨O,O,O,O,O,O,O,by first|rfl|(rw[hlo0];rfl),by first|rfl|(rw[hhi0];rfl),Xq⟩ (aO O) O O) (⟨g1,g2,g3⟩) ?_
   rintro⟨lo,hi⟩ ⟨k1,k2,k3⟩;try simp only
   refine Z3 O<|Gp O (λac=>?_) (λac=>?_)
   .have hmd:∃md,md=(lo+hi+1)/2:=⟨_,O⟩;obtain⟨md,hmd⟩:=hmd;have L:=eX b md Xj Xj;have hml:(ae (b*md)).length<=1000000:=by
     have h2:(ae (b*md)).length<=(ae b).length+1:=by
      refine aR.2 ?_;have h1:=er b;rw[Um];exact TM ((Nat.mul_lt_mul_right Xj).2 h1) (T9 _ Xj)
     omega
    have hsm:=fO (b*md) r2 Xj Xj;refine Ti<|Z4 O<|Rs O (XJ.cast (v':= pIi (md:Int)) (dJ O O Xl) (ah (λi=>pIi i) (by rw[hmd,show(lo:Int)+hi+1=((lo+hi+1:Nat):Int) by omega];exact wW (b:=2) Xj))) ?_;refine A1 O<|Z3 O<|Rs O (aa call288 L O)<|A1 O<|Rs O (aa call178 hsm O)<|A1 O<|Gp O (λG=>?_) (λG=>?_)
    .have hle:b*md<=r2:=by rcases Vo r2 (b*md)with e|e;exact absurd G (by rw[lz e];decide);exact e
     have X:md<=r2/b:=(V4 hy).2 (by rw[Uo];exact hle);exact Z2 O<|⟨(md,hi),WA O,⟨X,k2,k3⟩,Xj⟩
    have hgt:r2<b*md:=by rcases Vo r2 (b*md)with e|e;exact e;exact absurd (show vX (b*md) r2<=0 by unfold vX;split;decide;split;omega;decide) G
    have hgt2:r2/b<md:=(V2 hy).2 (by rw[Uo];exact hgt);exact Z3 O<|⟨(lo,md-1),Tk ⟨O,O,O,O,O,O,O,O,ah (λi:Int=>V.pv (PV.int .i64 i)) (show(md:Int)-1=((md-1:Nat):Int) by omega),Xq⟩ (aO O) O O,⟨k1,Xj,Xj⟩,Xj⟩
   refine Gx O ?_;have B:lo=r2/b:=Xj;rw[<-B]at P hdl;have H:r2%b=r2-b*lo:=by rw[B];have:=Wx r2 b;omega
   have J:=hQ.ok.set (k:=i-1) hdl;refine Z3 O<|Rs O (ak (i-1) underlying22 sz3 O O O Xj hia)<|A1 O<|Z2 O<|Gp O (λM=>?_) (λM=>?_)
   .have L:=eX b lo Xj Xj;have Y:b*lo<=r2:=by rw[B];exact Nat.mul_div_le r2 b
    have Z:0<r2:=by rcases UJ r2 with e|e;rw[e,Nat.zero_div]at B;omega;exact e
    have hmi:=jl r2 (b*lo) Xj Y Z;refine Z4 O<|Rs O (aa call288 L O)<|RL.call O (ie call242 hmi O ?_);rintro _ ⟨ov,v1,v2,v3,rfl⟩;exact A1 O<|Rs O (aa call237 (C1 (v:=r2%b) ov O Xj v1 (by rw[v3,H])) O)<|Rs O (im underlying132 O O ⟨_,underlying22,O⟩ O O)<|A1 O<|Z3 O<|⟨(i-1,r2%b,q.set (i-1) lo),Tk ⟨O,O,O,O,O,O,ah (λi:Int=>V.pv (PV.int .i64 i)) (show(i:Int)-1-1=((i-1:Nat):Int)-1 by omega),Xq⟩ ⟨O,O,O,O,ah (λc=>UF (Ob.cells 3 c)) (by rw[TZ,gN]),Xq⟩ O O,⟨Xj,by rw[TQ];exact U,J,UH _ hy,P⟩,Xj⟩
   have hl0:lo=0:=Xj;have ab:r2=r2%b:=by rw[H,hl0];simp
   exact Ti<|Z3 O<|⟨(i-1,r2%b,q.set (i-1) lo),Tk ⟨O,O,O,O,ah (λn:Nat=>V.pv (pli (ae n))) ab,O,ah (λi:Int=>V.pv (PV.int .i64 i)) (show(i:Int)-1-1=((i-1:Nat):Int)-1 by omega),Xq⟩ ⟨O,O,O,O,ah (λc=>UF (Ob.cells 3 c)) (by rw[TZ,gN]),Xq⟩ O O,⟨Xj,by rw[TQ];exact U,J,UH _ hy,P⟩,Xj⟩
  have hd0:r2/b=0:=VR (by rcases Vo r2 b with e|e;exact e;exact absurd (oE.2 e) Xj);obtain⟨lo0,hlo0⟩:∃z:Nat,z=0:=⟨_,O⟩;obtain⟨hi0,hhi0⟩:∃z:Nat,z=0:=⟨_,O⟩;have g1:lo0<=r2/b:=Xj;have g2:r2/b<=hi0:=Xj;have g3:hi0<=999999999:=Xj;refine Ti<|Gz O (st:=λA:Nat×Nat=>([(2,UG),(3,UG),(4,UG),(5,UG),(6,UG),(7,UG),(8,UG),(9,UF (pIi (A.1:Int))),(10,UF (pIi (A.2:Int)))],[(0,UG),(1,UG),(2,UG),(3,UG),(4,UG)])) 7
   (I:=λA=>A.1<=r2/b/\r2/b<=A.2/\A.2<=999999999) (μ:=λA=>A.2-A.1) (x0:=(lo0,hi0)) (Tk ⟨O,O,O,O,O,O,O,by first|rfl|(rw[hlo0];rfl),by first|rfl|(rw[hhi0];rfl),Xq⟩ (aO O) O O) (⟨g1,g2,g3⟩) ?_
  rintro⟨lo,hi⟩ ⟨k1,k2,k3⟩;try simp only
  refine Z3 O<|Gp O (λac=>?_) (λac=>?_)
  .have hmd:∃md,md=(lo+hi+1)/2:=⟨_,O⟩;obtain⟨md,hmd⟩:=hmd;have L:=eX b md Xj Xj;have hml:(ae (b*md)).length<=1000000:=by
    have h2:(ae (b*md)).length<=(ae b).length+1:=by
     refine aR.2 ?_;have h1:=er b;rw[Um];exact TM ((Nat.mul_lt_mul_right Xj).2 h1) (T9 _ Xj)
    omega
   have hsm:=fO (b*md) r2 Xj Xj;refine Ti<|Z4 O<|Rs O (XJ.cast (v':= pIi (md:Int)) (dJ O O Xl) (ah (λi=>pIi i) (by rw[hmd,show(lo:Int)+hi+1=((lo+hi+1:Nat):Int) by omega];exact wW (b:=2) Xj))) ?_;refine A1 O<|Z3 O<|Rs O (aa call288 L O)<|A1 O<|Rs O (aa call178 hsm O)<|A1 O<|Gp O (λG=>?_) (λG=>?_)
   .have hle:b*md<=r2:=by rcases Vo r2 (b*md)with e|e;exact absurd G (by rw[lz e];decide);exact e
    have X:md<=r2/b:=(V4 hy).2 (by rw[Uo];exact hle);exact Z2 O<|⟨(md,hi),WA O,⟨X,k2,k3⟩,Xj⟩
   have hgt:r2<b*md:=by rcases Vo r2 (b*md)with e|e;exact e;exact absurd (show vX (b*md) r2<=0 by unfold vX;split;decide;split;omega;decide) G
   have hgt2:r2/b<md:=(V2 hy).2 (by rw[Uo];exact hgt);exact Z3 O<|⟨(lo,md-1),Tk ⟨O,O,O,O,O,O,O,O,ah (λi:Int=>V.pv (PV.int .i64 i)) (show(md:Int)-1=((md-1:Nat):Int) by omega),Xq⟩ (aO O) O O,⟨k1,Xj,Xj⟩,Xj⟩
  refine Gx O ?_;have B:lo=r2/b:=Xj;rw[<-B]at P hdl;have H:r2%b=r2-b*lo:=by rw[B];have:=Wx r2 b;omega
  have J:=hQ.ok.set (k:=i-1) hdl;refine Z3 O<|Rs O (ak (i-1) underlying22 sz3 O O O Xj hia)<|A1 O<|Z2 O<|Gp O (λM=>?_) (λM=>?_)
  .have L:=eX b lo Xj Xj;have Y:b*lo<=r2:=by rw[B];exact Nat.mul_div_le r2 b
   have Z:0<r2:=by rcases UJ r2 with e|e;rw[e,Nat.zero_div]at B;omega;exact e
   have hmi:=jl r2 (b*lo) Xj Y Z;refine Z4 O<|Rs O (aa call288 L O)<|RL.call O (ie call242 hmi O ?_);rintro _ ⟨ov,v1,v2,v3,rfl⟩;exact A1 O<|Rs O (aa call237 (C1 (v:=r2%b) ov O Xj v1 (by rw[v3,H])) O)<|Rs O (im underlying132 O O ⟨_,underlying22,O⟩ O O)<|A1 O<|Z3 O<|⟨(i-1,r2%b,q.set (i-1) lo),Tk ⟨O,O,O,O,O,O,ah (λi:Int=>V.pv (PV.int .i64 i)) (show(i:Int)-1-1=((i-1:Nat):Int)-1 by omega),Xq⟩ ⟨O,O,O,O,ah (λc=>UF (Ob.cells 3 c)) (by rw[TZ,gN]),Xq⟩ O O,⟨Xj,by rw[TQ];exact U,J,UH _ hy,P⟩,Xj⟩
  have hl0:lo=0:=Xj;have ab:r2=r2%b:=by rw[H,hl0];simp
  exact Ti<|Z3 O<|⟨(i-1,r2%b,q.set (i-1) lo),Tk ⟨O,O,O,O,ah (λn:Nat=>V.pv (pli (ae n))) ab,O,ah (λi:Int=>V.pv (PV.int .i64 i)) (show(i:Int)-1-1=((i-1:Nat):Int)-1 by omega),Xq⟩ ⟨O,O,O,O,ah (λc=>UF (Ob.cells 3 c)) (by rw[TZ,gN]),Xq⟩ O O,⟨Xj,by rw[TQ];exact U,J,UH _ hy,P⟩,Xj⟩
 refine Gx O ?_;obtain rfl:i=0:=Xj;obtain⟨hvq,hvr⟩:=KY hQ;have U:=hQ.len;have htq:=cM (neg:=nx !=ny) q U Xj hQ.ok hvq;have hlr:(ae r).length<=(ae b).length:=cD (WG hQ.rlt);have htr:=cM (neg:=nx) (ae r) O Xj (aZ r) ((aL r).trans hvr);rw[hdv]at htq;rw[hmo]at htr;refine Tj (Tn 4 O O)<|UB 15 O<|Dr 7 O<|TR O (λτ h=>aa call237 htq (h.aD O))<|Dr 4 O<|TR O (λτ h=>aa call237 htr (h.aD O))<|Dr 2 O ?_;refine⟨Xk,?_⟩;exact Gt O<|⟨_,_,O,O,⟨ax ⟨_,underlying132,O⟩ np O O O,ax ⟨_,underlying132,O⟩ np O O O,Xq⟩,O⟩
theorem wV(x y:Int)(A:(ae x.natAbs).length<=1000000)(z:(ae y.natAbs).length<=100000)(B:y≠0):FnP prog 238 [lP x,lP y] (· = .tup [lP (x.tdiv y),lP (x.tmod y)]):=by grind[As,OK,Q9]
end
section
theorem IM(a:Nat):lP (a:Int)= .agg [.bool VC,pli (ae a)]:=by grind
theorem Lt(nx ny:Bool)(a b:Nat)(H:(ae a).length<=100000)(B:(ae b).length<=100000):FnP prog 177 [.agg [.bool nx,pli (ae a)],.agg [.bool ny,pli (ae b)]] (· = .agg [.bool VC,pli (ae (Nat.gcd a b))]):=by
 refine FnP.ofC func177 O ntmps177 Xn λ_ _ _ _=>?_
 refine Z3 O<|Z4 O<|Gz O (st:=λXr:Nat×Nat=>([(2,UG),(3,UG),(4,UG)],[(0,UF (.mix 132 [.pv (.bool VC),.pv (pli (ae Xr.1))])),(1,UF (.mix 132 [.pv (.bool VC),.pv (pli (ae Xr.2))])),(2,UG)])) 3
  (I:=λXr=>Nat.gcd Xr.1 Xr.2=Nat.gcd a b/\(ae Xr.1).length<=100000/\(ae Xr.2).length<=100000) (μ:=λXr=>Xr.2) (x0:=(a,b)) (WA O) (⟨O,H,B⟩) ?_
 rintro⟨x,y⟩ ⟨hg,hxl,hyl2⟩;try simp only at hg hxl hyl2 ⊢
 refine Z4 O<|Gp O (λA=>?_) (λA=>?_)
 .have z:0<y:=nZ Xj;have G:=As VC VC x y Xj hyl2 z;rw[show sgn (VC !=VC) (x/y)=((x/y:Nat):Int)from O,show sgn VC (x%y)=((x%y:Nat):Int)from O,IM,IM]at G;refine Ti<|Z2 O<|Rs O (aa call238 G O)<|Ar 7 O<|UB 4 O<|Dr 4 O ?_;refine⟨Xk,?_⟩;exact⟨(y,x%y),WA O,⟨by rw[<-hg];exact mq x y,hyl2,HU z hyl2⟩,UH _ z⟩
 refine Gx O<|Z2 O<|Gt O ?_;have z:y=0:=bJ.1 Xj;exact⟨_,_,O,O,⟨ax ⟨_,underlying132,O⟩ np O O O,Xq⟩,by rw[<-hg,z,Nat.gcd_zero_right];rfl⟩
theorem wo(x y:Int)(A:(ae x.natAbs).length<=100000)(z:(ae y.natAbs).length<=100000):FnP prog 177 [lP x,lP y] (· =lP (Int.gcd x y:Int)):=by
 have h:=Lt (decide (x<0)) (decide (y<0)) x.natAbs y.natAbs A z;rw[IM];exact h
theorem O3(z:Int):(!decide (z<0)&&decide (((ae z.natAbs).length:Int)>0))=decide (-z<0):=by
 have h:=yA (!decide (z<0)) z.natAbs;rw[h]
 congr 1
 by_cases hz:z<0
 .grind
 grind[sgn]
theorem wA(z:Int):FnP prog 239 [lP z] (· =lP (-z)):=by
 refine FnP.ofC func239 O ntmps239 Xn λ_ _ _ _=>?_
 have A:=O3 z;have B:(-z).natAbs=z.natAbs:=Int.natAbs_neg z;refine Z2 O<|Z4 O ?_;apply Tu 5 6 11 [7,8,9,10] O Xt
 .intro hb3;exact Ar 5 O<|Tm Xs O O O
 .intro hb3;exact Ar 5 O<|Tm Xs O O O
 exact Y2 O<|Z2 O<|VF O ⟨⟨ax ⟨_,underlying132,O⟩ np O O O,Xq⟩,by show _=PV.agg [.bool (decide (-z<0)),pli (ae (-z).natAbs)];rw[B,<-A];rfl⟩
def lO(n:Nat):Nat:=(Lib.decDigits n).length
theorem fY(h:10<=n):lO n=lO (n/10)+1:=by
 rw[lO,lO,Lib.decDigits,dif_neg Xj];simp
theorem cV(h:n<10):lO n=1:=by rw[lO,Lib.decDigits,dif_pos h];rfl
theorem CL:∀k,10^k<=n->lO n=lO (n/10^k)+k
 |0,_=>by simp
 | k+1,h=>by
   rw[Um]at h;have h1:10^k<=n:=AS (Nat.le_mul_of_pos_right _ Xl) h;have z:10<=n/10^k:=(V4 (Nat.pow_pos Xl)).2 (by rw[Uo];exact h);rw[CL k h1,fY z,Nat.div_div_eq_div_mul,Um];omega
def ndz(m:Nat):Nat:=if m=0 then 0 else lO m
theorem vM(z:0<k)(h:n<10^k):lO n<=k:=by
 induction k generalizing n with
 |zero=>omega
 | succ k ih=>
   by_cases h2:n<10
   .rw[cV h2];omega
   grind[fY,UJ,V2,Um]
theorem Ls{m:Nat}(h:0<m):ndz m=ndz (m/10)+1:=by grind[ndz,cV,fY]
theorem K9(h:n≠0):lO n=9*((ae n).length-1)+ndz (lim (ae n) ((ae n).length-1)):=by
 induction n using Nat.strongRecOn with
 | ind n ih=>
   by_cases h2:n/1000000000=0
   .have:n<1000000000:=Xj;rw[eV h this];simp[ndz,h,lim]
   have e:=ih _ Xj h2;have A:0<(ae (n/1000000000)).length:=V6 λe=>h2 (bJ.1 e)
   have z:10^9<=n:=Xj;rw[CL 9 z,show(10:Nat)^9=1000000000 from O,e,dE h,IT];obtain⟨k,hk⟩:∃k,(ae (n/1000000000)).length=k+1:=⟨_,(Nat.succ_pred_eq_of_pos A).symm⟩;rw[hk];simp only[Nat.add_sub_cancel,lim,List.getD_cons_succ];omega
theorem Se(h:a<=9223372036854775807):IntKind.i64.wrap ((a:Int).tdiv (b:Int))=((a/b:Nat):Int):=wW h
theorem xt(z:Int)(Y:(ae z.natAbs).length<=1000000):FnP prog 240 [lP z] (· = .int .i64 (lO z.natAbs:Int)):=by
 refine FnP.of func240 O ntmps240 Xn λ_ _ _ _=>?_
 obtain⟨n,hn⟩:∃n,n=z.natAbs:=⟨_,O⟩;refine Z2 O<|Z4 O<|Gc O (λG=>?_) (λG=>?_)
 .refine Z1 O<|Gt O ?_;have T:=bJ.1 (show(ae z.natAbs).length=0 by have:=qJ G;omega);exact⟨_,_,O,O,by rw[T,cV Xl];rfl⟩
 have hl0:0<(ae z.natAbs).length:=by have:=k9 G;omega
 have L:z.natAbs≠0:=λe=>by rw[e,aV]at hl0;simp at hl0
 have A:(ae z.natAbs).length-1<(ae z.natAbs).length:=Xj;have X:=cw A;have M:=dj A;have P:=K9 L;have H:=cR (aZ z.natAbs) ((ae z.natAbs).length-1);have U:ndz (lim (ae z.natAbs) ((ae z.natAbs).length-1))<=9:=by
  unfold ndz;split
  .decide
  rcases Vo 9 (lO (lim (ae z.natAbs) ((ae z.natAbs).length-1)))with h|h
  .exact absurd (vM (k:=9) Xl H) Xj
  exact h
 refine Ti<|Gr O<|Ar 6 O ?_;generalize lim (ae z.natAbs) ((ae z.natAbs).length-1)=t at*;refine Gr O<|Ar 6 O<|Rs O (ag ((ae z.natAbs).length-1) underlying22 sz3 O O Xj A M)<|A2 O Xm ?_;refine A1 O ?_;refine Gl O (st:=λXr:Nat×Nat=>mkS [(3,pIi (Xr.1:Int)),(4,pIi (Xr.2:Int))] [] 1)
  (I:=λXr=>Xr.1+ndz Xr.2=lO z.natAbs/\Xr.2<1000000000) (μ:=λXr=>Xr.2) (x0:=(9*((ae z.natAbs).length-1),t)) (Tk ⟨ah (λi=>pIi i) Xj,O,Xq⟩ trivial O O) (⟨P.symm,H⟩) ?_
 rintro⟨c,m⟩ ⟨hc,hm⟩;try simp only at hc hm ⊢
 refine Z2 O<|Gp O (λJ=>?_) (λJ=>?_)
 .refine Ti<|Z3 O ?_;have B:0<m:=Xj;have V:=Ls B;exact Z1 O<|Rs O (XJ.cast (v':= pIi ((m/10:Nat):Int)) (dJ O O Xl) (ah (λi=>pIi i) (Se (b:=10) Xj)))<|A1 O<|⟨(c+1,m/10),Tk (aS O) trivial O O,⟨by show c+1+ndz (m/10)=lO z.natAbs;omega,Xj⟩,Xj⟩
 refine Gx O<|Z2 O<|Gt O ?_;have B:m=0:=Xj;rw[B]at hc;exact⟨_,_,O,O,ah (λn:Nat=>PV.int .i64 n) (by rw[<-hc];rfl)⟩
end
section
open Mk
def leD:Nat->Nat->List UInt8
 |0,_=>[]
 |k+1,n=>UInt8.ofNat (48+n%10)::leD k (n/10)
theorem leD_len:∀(k n:Nat),(leD k n).length=k
 |0,_=>rfl
 |k+1,n=>by simp[leD,leD_len k]
attribute [simp] leD_len
theorem zV:∀(a b n:Nat),leD (a+b) n=leD a n++leD b (n/10^a)
 |0,b,n=>by simp[leD]
 | a+1,b,n=>by
   rw[show a+1+b=(a+b)+1 by omega,leD,leD,zV a b,Uz,Nat.div_div_eq_div_mul,Um,Uo 10]
theorem Ix:∀(k m n:Nat),k<=m->leD k (n%10^m)=leD k n
 |0,_,_,_=>rfl
 |k+1,0,_,h=>by omega
 | k+1,m+1,n,h=>by
   have e1:n%10^(m+1)%10=n%10:=Nat.mod_mod_of_dvd _ ⟨10^m,by rw[Um,Uo]⟩;have z:n%10^(m+1)/10=n/10%10^m:=by rw[Um,Uo];exact Nat.mod_mul_right_div_self n 10 (10^m)
   rw[leD,leD,e1,z,Ix k m _ Xj]
theorem Aw:∀k,leD k 0=List.replicate k 48
 |0=>rfl
 |k+1=>by rw[leD,Nat.zero_mod,Nat.zero_div,Aw k];rfl
theorem Ra(z:lO n<=k):leD k n=(Lib.decDigits n).reverse++List.replicate (k-lO n) 48:=by
 induction n using Nat.strongRecOn generalizing k with
 | ind n ih=>
   by_cases h:n<10
   .obtain⟨j,rfl⟩:∃j,k=j+1:=⟨k-1,by rw[cV h]at z;omega⟩;rw[cV h,leD,VU h,VR h,Aw,Lib.decDigits,dif_pos h];rfl
   rw[fY Xj]at z;obtain⟨j,rfl⟩:∃j,k=j+1:=⟨k-1,Xj⟩;have A:Lib.decDigits n=Lib.decDigits (n/10)++[UInt8.ofNat (48+n%10)]:=by
    conv=>lhs;rw[Lib.decDigits]
    rw[dif_neg h]
   rw[leD,ih (n/10) Xj Xj,fY (n:=n) Xj,A,List.reverse_append];simp
theorem Ma(h:n≠0):(Lib.decDigits n).reverse.getD (lO n-1) 0≠48:=by
 induction n using Nat.strongRecOn with
 | ind n ih=>
   by_cases h2:n<10
   .rw[cV h2,Lib.decDigits,dif_pos h2];simp only[Nat.sub_self,List.reverse_singleton,List.getD_cons_zero];intro e;have:=ah UInt8.toNat e;simp at this;omega
   have:=ih (n/10) Xj Xj;rw[fY Xj,Lib.decDigits,dif_neg h2,List.reverse_append];have z:0<lO (n/10):=by grind[cV,fY]
   obtain⟨j,hj⟩:∃j,lO (n/10)=j+1:=⟨_,(Nat.succ_pred_eq_of_pos z).symm⟩;rw[hj]at this ⊢;simpa using this
theorem Ex(n:Nat):lO n<=9*(ae n).length+1:=by
 by_cases h:n=0
 .grind[cV]
 have hl:=er n;rw[show(1000000000:Nat)=10^9 from O,<-Nat.pow_mul]at hl;by_cases h0:(ae n).length=0
 .exact absurd (bJ.1 h0) h
 have:=vM Xj hl;omega
theorem Ae(h:n≠0):lO n<=9*(ae n).length:=by
 have z:=er n;rw[show(1000000000:Nat)=10^9 from O,<-Nat.pow_mul]at z;by_cases h0:(ae n).length=0
 .exact absurd (bJ.1 h0) h
 exact vM Xj z
theorem Lo(n i:Nat):leD (9*(i+1)) n=leD (9*i) n++leD 9 (lim (ae n) i):=by
 rw[show 9*(i+1)=9*i+9 by omega,zV,mX]
 congr 1
 rw[show(1000000000:Nat)=10^9 from O,<-Nat.pow_mul,Ix 9 9 _ (AT _)]
theorem La(k d:Nat):leD (k+1) d=leD k d++[UInt8.ofNat (48+d/10^k%10)]:=by
 rw[zV k 1];rfl
structure Rev(E e:List UInt8)(i:Nat):Prop where
 len:e.length=E.length
 ile:2*i<=E.length+1
 at_:∀j,j<E.length->e.getD j 0=if j<i\/E.length-i<=j then E.getD (E.length-1-j) 0 else E.getD j 0
theorem rev_zero(E:List UInt8):Rev E E 0:=⟨O,Xj,λj hj=>by rw[sh Xj]⟩
theorem xU{x:UInt8}(z:k<l.length):(l.set k x).getD i 0=if i=k then x else l.getD i 0:=by grind
theorem Cq(h:Rev E e i)(B:i<E.length-1-i):Rev E ((e.set i (e.getD (E.length-1-i) 0)).set (E.length-1-i) (e.getD i 0)) (i+1):=by
 have z:=h.len;refine⟨by simp[z],Xj,λj hj=>?_⟩;have A:e.getD i 0=E.getD i 0:=by rw[h.at_ i Xj,sh Xj]
 have a2:e.getD (E.length-1-i) 0=E.getD (E.length-1-i) 0:=by rw[h.at_ _ Xj,sh Xj]
 rw[xU Xo,xU Xj,A,a2];by_cases h1:j=E.length-1-i
 .grind
 rw[sh h1];by_cases h2:j=i
 .grind
 rw[sh h2,h.at_ j hj];by_cases h3:j<i\/E.length-i<=j
 .rw[By h3,By Xj]
 rw[sh h3,sh Xj]
theorem Jd(h:Rev E e i)(I:E.length<=2*i+1):e=E.reverse:=by
 have z:=h.len;refine UL (by simp[z]) λj h1 h2=>?_
 have A:j<E.length:=Xj;have B:=h.at_ j A;rw[List.getElem_reverse];have G:e.getD j 0=e[j]:=by simp[List.getD,h1]
 have H:E.getD (E.length-1-j) 0=E[E.length-1-j]:=by simp[List.getD,show E.length-1-j<E.length by omega]
 rw[<-G,B,<-H];split
 .rfl
 .congr 1;omega
theorem yU(l:List UInt8)(d:Nat)(z:d<10):aI l++[.int .u8 ((48:Int)+(d:Int))]=aI (l++[UInt8.ofNat (48+d)]):=by
 simp only[aI,Uc,cu,Un]
 congr 3
 have:(UInt8.ofNat (48+d)).toNat=48+d:=by simp;omega
 rw[this];rfl
theorem bytesP_len(l:List UInt8):(aI l).length=l.length:=by simp[aI]
attribute [simp] bytesP_len
theorem z6(l:List UInt8)(k:Nat):(aI l).take k=aI (l.take k):=by simp[aI,List.map_take]
theorem j6(l:List UInt8)(k:Nat)(x:UInt8):(aI l).set k (.int .u8 (x.toNat:Int))=aI (l.set k x):=by simp[aI,US]
theorem iJ(h:k<l.length):(aI l)[k*1]? =UF (.int .u8 ((l.getD k 0).toNat:Int)):=by rw[pL h];simp[List.getD,h]
theorem fX(z:Int):Lib.itoa z=(if z<0 then [45]else [])++Lib.decDigits z.natAbs:=by
 unfold Lib.itoa;split
 .rfl
 grind
theorem mR:Lib.itoa 0=[48]:=by
 rw[fX,sh Xl,Int.natAbs_zero,Lib.decDigits,dif_pos Xl];rfl
theorem u8_48(x:UInt8):(((x.toNat:Nat):Int)==48)=VA↔x=48:=by
 rw[U6];constructor
 .intro h;exact Wy.1 (show x.toNat=(48:UInt8).toNat from Int.ofNat_inj.1 h)
 .intro h;rw[h];rfl
theorem nP(z:Int)(hl:(ae z.natAbs).length<=1000000):FnP prog 104 [lP z] (· = .str ⟨(Lib.itoa z).toArray⟩):=by
 refine FnP.of func104 O ntmps104 Xn λ_ _ _ _=>?_
 obtain⟨n,hn⟩:∃n,n=z.natAbs:=⟨_,O⟩;refine Z2 O<|Z4 O<|Gc O (λT=>?_) (λT=>?_)
 .refine Z1 O<|Gt O ?_;have h0:=bJ.1 (show(ae z.natAbs).length=0 by have:=qJ T;omega);have hz:z=0:=Xj;exact⟨_,_,O,O,by rw[hz,mR];rfl⟩
 have hl0:0<(ae z.natAbs).length:=by have:=k9 T;omega
 have ad:z.natAbs≠0:=λe=>by rw[e,aV]at hl0;simp at hl0
 refine Ti<|Z1 O<|Tj (Tp 3 1 1 5 O O)<|Z1 O<|Gz O (st:=λXr:Nat×List UInt8=>([(1,UG),(3,UF (.gsl 1 1 Xr.2.length)),(4,UF (pIi Xr.1))],[(0,UG),(1,UF (.gro 5 (aI Xr.2)))])) 2
  (I:=λXr=>Xr.1<=(ae z.natAbs).length/\Xr.2=leD (9*Xr.1) z.natAbs) (μ:=λXr=>(ae z.natAbs).length-Xr.1) (x0:=(0,[])) (WA O) (⟨aJ _,O⟩) ?_
 rintro⟨i,l⟩ ⟨hi,hll⟩;try simp only at hi hll ⊢
 refine Gr O<|Ar 5 O<|Gp O (λhc17=>?_) (λhc17=>?_)
 .have hil:i<(ae z.natAbs).length:=Xj;have hv:=cw hil;have hne:=dj hil;have hbd:=cR (aZ z.natAbs) i;have H:=Lo z.natAbs i;have hlen:l.length=9*i:=by rw[hll,leD_len]
  rw[<-hll]at H;clear hll;refine Ti ?_
  repeat apply Tv
  refine AW.block ?_;generalize lim (ae z.natAbs) i=d at*;refine Z4 O<|A2 O Xm ?_;refine A1 O<|Z1 O ?_;refine Gz O (st:=λB:Nat×List UInt8=>([(1,UG),(3,UF (.gsl 1 1 B.2.length)),(4,UG),(5,UF (pIi ((d/10^B.1:Nat):Int))),(6,UF (pIi B.1))],[(0,UG),(1,UF (.gro 5 (aI B.2)))])) 2
   (I:=λB=>B.1<=9/\B.2=l++leD B.1 d) (μ:=λB=>9-B.1) (x0:=(0,l)) (Tk ⟨O,O,O,ah (λn:Nat=>pIi n) Xn,O,Xq⟩ (aO O) O O) (⟨aJ _,by simp[leD]⟩) ?_
  rintro⟨k,m⟩ ⟨hk,hm⟩;try simp only at hk hm ⊢
  refine Z2 O<|Gp O (λhc26=>?_) (λhc26=>?_)
  .have hmlen:m.length=9*i+k:=by rw[hm];simp;omega
   have af:=La k d;have hq:d/10^k<=d:=Xd _ _;have hq2:d/10^(k+1)=d/10^k/10:=by rw[Um,Nat.div_div_eq_div_mul]
   have hs3:m++[UInt8.ofNat (48+d/10^k%10)]=l++leD (k+1) d:=by rw[af,hm,VZ]
   have ag:d/10^k%10<10:=UH _ Xl;have hbs:=yU m (d/10^k%10) ag;clear hm af;refine Ti ?_
   repeat apply Tv
   refine AW.block ?_;generalize d/10^k=c at*;refine Z2 O<|Rs O (XJ.cast (v':= pIi ((c%10:Nat):Int)) (fZ O O Xl) O)<|A1 O<|Rs O (XJ.cast (v':= .pv (.int .u8 ((48:Int)+((c%10:Nat):Int)))) (jC underlying3 underlying5 O) (ah (λi=>V.pv (.int .u8 i)) (by show((48:Int)+((c%10:Nat):Int))%256=_;omega))) ?_;exact Y3 O<|Z1 O<|Rs O (XJ.cast (v':= pIi ((c/10:Nat):Int)) (dJ O O Xl) (ah (λi=>pIi i) (Se (b:=10) Xj)))<|A1 O<|Z3 O<|⟨(k+1,m++[UInt8.ofNat (48+c%10)]),Tl [0,3] ⟨O,TX (b:= .gsl 3 1 (m.length+1)) O (ah (V.gsl 3 1) (di m _)),O,ah (λn:Nat=>pIi n) hq2.symm,O,Xq⟩ ⟨O,ah (λc=>UF (Ob.gro 5 c)) hbs,Xq⟩ O O Xl O,⟨Xj,hs3⟩,Xj⟩
  have hk9:k=9:=Xj;rw[hk9,<-H]at hm;exact Gx O<|Z3 O<|⟨(i+1,m),WA O,⟨Xj,hm⟩,Xj⟩
 have hie:i=(ae z.natAbs).length:=Xj;rw[hie,Ra (Ae ad)]at hll;have G:=Ma ad;have al:(Lib.decDigits z.natAbs).reverse.length=lO z.natAbs:=by simp[lO]
 have hDp:0<lO z.natAbs:=by unfold lO;rw[Lib.decDigits];split<;>simp
 have Z:=fX z;have hdl:=Ex z.natAbs;have hD:∃D,D=(Lib.decDigits z.natAbs).reverse:=⟨_,O⟩;obtain⟨D,hD⟩:=hD;rw[<-hD]at hll G al;have hDr:Lib.decDigits z.natAbs=D.reverse:=by rw[hD,List.reverse_reverse]
 rw[hDr]at Z;clear hD hDr;rw[<-al]at G hDp;have hlD:l.take D.length=D:=by rw[hll];simp
 have hge:D.length<=l.length:=by rw[hll];simp
 have hlge:∀j,D.length<=j->j<l.length->l.getD j 0=48:=λj h1 h2=>by
  rw[hll]at h2 ⊢;simp at h2;simp only[List.getD,List.getElem?_append_right h1,Vv];rw[By Xj];rfl
 have hlt:l.getD (D.length-1) 0≠48:=by
  rw[hll];simp only[List.getD,List.getElem?_append_left (show D.length-1<D.length by omega)];simpa[List.getD]using G
 have hllen:l.length<=9000001:=by
  have:=ah List.length hll;simp at this;omega
 clear hll G;refine Tj (St.J8 3 O O Xj (qa (k:=0) Xj))<|Gx O<|Gz O (st:=λM:Nat=>([(1,UG),(3,UF (.osl 1 1 M))],[(0,UG),(1,UG)])) 2
  (I:=λM=>D.length<=M/\M<=l.length) (μ:=λM=>M) (x0:=(l.length)) (WA O) (⟨hge,AT _⟩) ?_
 rintro k ⟨J,hk2⟩;have hkl:k-1<l.length:=Xj;have hvk:=iJ hkl;have h48:=u8_48 (l.getD (k-1) 0);have hgek:=hlge (k-1);have heq:k=D.length->l.getD (k-1) 0≠48:=λe=>by rw[e];exact hlt
 generalize l.getD (k-1) 0=ck at*;refine Z4 O<|Rs O (ak (k-1) underlying155 sz5 O O O Xj Xj)<|A2 O Xm ?_;refine A1 O ?_;refine Gc O (λU=>?_) (λU=>?_)
 .have hk3:D.length<=k-1:=by have h1:=h48.1 U;rcases Vo (k-1) D.length with e|e;exact absurd h1 (heq Xj);exact e
  exact Ti<|Z4 O<|Rs O (jK (k-1) underlying155 sz5 O O O Xj Xj)<|A1 O<|⟨(k-1),WA O,⟨hk3,Xj⟩,Xj⟩
 have hk3:k=D.length:=by
  apply Decidable.byContradiction;intro hne;have:=h48.2 (hgek Xj hkl);rw[U]at this;cases this
 refine Gx O<|Tj (St.Qp (vs:=aI D) 1 k (by rfl) (by rw[z6,hk3,hlD])) ?_;rw[hk3];refine Z2 O<|Gc O (λX=>?_) (λX=>?_)
 .have hE:∃E,E=D++[45]:=⟨_,O⟩;obtain⟨E,hE⟩:=hE;have aa:Lib.itoa z=E.reverse:=by rw[Z,By (by simpa using X),hE];simp
  have hEl:E.length=D.length+1:=by rw[hE];simp
  refine Z2 O<|Rs O (sM 3 QX O O Xn O O O O Xj O)<|A1 O ?_;rw[show aI D++[PV.int .u8 45]=aI E by rw[hE];simp[aI],<-hEl];refine Gr O<|Ar 5 O<|Gl O (st:=λA:Nat×List UInt8=>mkS [(3,.osl 1 1 A.2.length),(7,pIi A.1),(8,pIi ((A.2.length:Int)-1-A.1))] [(1,.cells 5 (aI A.2))] 2)
   (I:=λA=>Rev E A.2 A.1) (μ:=λA=>A.2.length-A.1) (x0:=(0,E)) (Tl [0,3] ⟨O,O,ah (λi=>pIi i) Xn,Xq⟩ (aP O) O O Xl O) (rev_zero E) ?_
  rintro⟨i,e⟩ hR;try simp only at hR ⊢
  refine Z3 O<|Gp O (λY=>?_) (λY=>?_)
  .have hel:=hR.len;have L:i<e.length:=Xj;have J:e.length-1-i<e.length:=Xj;have hvi:=iJ L;have hvk:=iJ J;have H:=Cq hR Xj;rw[<-hel]at H;have P:((aI e).set (i*1) (.int .u8 ((e.getD (e.length-1-i) 0).toNat:Int))).set ((e.length-1-i)*1) (.int .u8 ((e.getD i 0).toNat:Int))=aI ((e.set i (e.getD (e.length-1-i) 0)).set (e.length-1-i) (e.getD i 0)):=by rw[TZ,TZ,j6,j6]
   have ab:((e.set i (e.getD (e.length-1-i) 0)).set (e.length-1-i) (e.getD i 0)).length=e.length:=Xn;clear hR;refine Ti ?_
   repeat apply Tv
   refine AW.block ?_;generalize (e.set i (e.getD (e.length-1-i) 0)).set (e.length-1-i) (e.getD i 0)=e2 at*;generalize e.getD (e.length-1-i) 0=ck at*;generalize e.getD i 0=ci at*;refine UB 16 O<|Dr 6 O<|VE [_] O (λτ h=>ak (e.length-1-i) underlying155 sz5 (Ee h 0 O O) (Eo h 0 O O) (Ee h 1 O O) Xj J)<|D2 O O Xm ?_;refine Dr 2 O<|VE [_] O (λτ h=>ak i underlying155 sz5 (Ee h 0 O O) (Eo h 0 O O) (Ee h 1 O O) O L)<|D2 O O Xm ?_;refine VE [_] O (λτ h=>ak i underlying155 sz5 (Ee h 0 O O) (Eo h 0 O O) (Ee h 1 O O) O L)<|D1 O<|VE [_] O (λτ h=>ak (e.length-1-i) underlying155 sz5 (Ee h 0 O O) (Eo h 0 O O) (Ee h 1 O O) Xj J)<|D1 O ?_;refine⟨Xk,?_⟩;exact Gr O<|Ar 6 O<|⟨(i+1,e2),Tk ⟨ah (V.osl 1 1) ab.symm,O,ah (λi:Int=>V.pv (PV.int .i64 i)) (show(e.length:Int)-1-i-1=(e2.length:Int)-1-((i+1:Nat):Int) by omega),Xq⟩ ⟨ah (λc=>UF (Ob.cells 5 c)) P,Xq⟩ O O,H,by show e2.length-(i+1)<e.length-i;omega⟩
  have hel:=hR.len;have ac:=Jd hR Xj;refine Gx O<|Z1 O<|Rs O (HQ e underlying155 underlying5 underlying9 (.inr ⟨_,_,_,_,O,O,(by rw[TZ];exact(aH Xn).symm)⟩)) ?_;exact A1 O<|VF O<|by rw[aa,<-ac];rfl
 have hE:∃E,E=D:=⟨_,O⟩;obtain⟨E,hE⟩:=hE;have aa:Lib.itoa z=E.reverse:=by rw[Z,sh (by simpa using X),hE];simp
 have hEl:E.length<=D.length+1:=by rw[hE];omega
 rw[<-hE];refine Ti<|Gr O<|Ar 5 O<|Gl O (st:=λA:Nat×List UInt8=>mkS [(3,.osl 1 1 A.2.length),(7,pIi A.1),(8,pIi ((A.2.length:Int)-1-A.1))] [(1,.cells 5 (aI A.2))] 2)
  (I:=λA=>Rev E A.2 A.1) (μ:=λA=>A.2.length-A.1) (x0:=(0,E)) (Tk ⟨O,O,ah (λi=>pIi i) Xn,Xq⟩ (aO O) O O) (rev_zero E) ?_
 rintro⟨i,e⟩ hR;try simp only at hR ⊢
 refine Z3 O<|Gp O (λY=>?_) (λY=>?_)
 .have hel:=hR.len;have L:i<e.length:=Xj;have J:e.length-1-i<e.length:=Xj;have hvi:=iJ L;have hvk:=iJ J;have H:=Cq hR Xj;rw[<-hel]at H;have P:((aI e).set (i*1) (.int .u8 ((e.getD (e.length-1-i) 0).toNat:Int))).set ((e.length-1-i)*1) (.int .u8 ((e.getD i 0).toNat:Int))=aI ((e.set i (e.getD (e.length-1-i) 0)).set (e.length-1-i) (e.getD i 0)):=by rw[TZ,TZ,j6,j6]
  have ab:((e.set i (e.getD (e.length-1-i) 0)).set (e.length-1-i) (e.getD i 0)).length=e.length:=Xn;clear hR;refine Ti ?_
  repeat apply Tv
  refine AW.block ?_;generalize (e.set i (e.getD (e.length-1-i) 0)).set (e.length-1-i) (e.getD i 0)=e2 at*;generalize e.getD (e.length-1-i) 0=ck at*;generalize e.getD i 0=ci at*;refine UB 16 O<|Dr 6 O<|VE [_] O (λτ h=>ak (e.length-1-i) underlying155 sz5 (Ee h 0 O O) (Eo h 0 O O) (Ee h 1 O O) Xj J)<|D2 O O Xm ?_;refine Dr 2 O<|VE [_] O (λτ h=>ak i underlying155 sz5 (Ee h 0 O O) (Eo h 0 O O) (Ee h 1 O O) O L)<|D2 O O Xm ?_;refine VE [_] O (λτ h=>ak i underlying155 sz5 (Ee h 0 O O) (Eo h 0 O O) (Ee h 1 O O) O L)<|D1 O<|VE [_] O (λτ h=>ak (e.length-1-i) underlying155 sz5 (Ee h 0 O O) (Eo h 0 O O) (Ee h 1 O O) Xj J)<|D1 O ?_;refine⟨Xk,?_⟩;exact Gr O<|Ar 6 O<|⟨(i+1,e2),Tk ⟨ah (V.osl 1 1) ab.symm,O,ah (λi:Int=>V.pv (PV.int .i64 i)) (show(e.length:Int)-1-i-1=(e2.length:Int)-1-((i+1:Nat):Int) by omega),Xq⟩ ⟨ah (λc=>UF (Ob.cells 5 c)) P,Xq⟩ O O,H,by show e2.length-(i+1)<e.length-i;omega⟩
 have hel:=hR.len;have ac:=Jd hR Xj;refine Gx O<|Z1 O<|Rs O (HQ e underlying155 underlying5 underlying9 (.inr ⟨_,_,_,_,O,O,(by rw[TZ];exact(aH Xn).symm)⟩)) ?_;exact A1 O<|VF O<|by rw[aa,<-ac];rfl
def tA(n:Nat):Bool:=decide (400<lO n)
theorem sN(z:Int)(B:(ae z.natAbs).length<=1000000):FnP prog 181 [lP z] (· = .tup [.str (if tA z.natAbs=VA then⟨#[]⟩else⟨(Lib.itoa z).toArray⟩),.int .i64 (if tA z.natAbs=VA then 3 else 0)]):=by
 refine FnP.of func181 O ntmps181 Xn λ_ _ _ _=>?_
 refine Z3 O<|Z1 O<|Rs O (aa call240 (xt z B) O)<|A1 O<|Gp O (λA=>?_) (λA=>?_)
 .exact Z2 O<|VF O<|by rw[By (by rw[tA];simp;omega),By (by rw[tA];simp;omega)];rfl
 exact Ti<|Z1 O<|Rs O (aa call104 (nP z B) O)<|Y2 O<|VF O<|by rw[sh (by rw[tA];simp;omega),sh (by rw[tA];simp;omega)];rfl
end
section
open Mk
theorem l8(s:ByteArray):gA s=(decide (0<s.size)&&(((s.data.toList.getD 0 0).toNat:Int)==45)):=by
 rw[gA,Lib.hasPrefix,Lib.size_eq];cases s.data.toList with
 |nil=>rfl
 | cons a l=>
   have h:((a.toNat:Int)==45)=(a==45):=by
    rw[TY,U6,U6];constructor
    .intro h;exact Wy.1 (show a.toNat=(45:UInt8).toNat from Int.ofNat_inj.1 h)
    .intro h;rw[h];rfl
   simp only[List.getD_cons_zero,IT,h];rw[TD Xj,Ws];show((45:UInt8)==a&&List.isPrefixOf [] l)=_;simp[Bool.beq_comm]
theorem AV(h:gA s=VA):s.extract 1 s.size=⟨(aA s).toArray⟩/\0<s.size:=by
 have z:=h;rw[l8,du,Tz]at z;refine⟨?_,z.1⟩;have e:aA s=s.data.toList.drop 1:=by rw[aA,Lib.trimPrefix];rw[gA]at h;rw[By h];rfl
 have A:(s.extract 1 s.size).data.toList=s.data.toList.drop 1:=Lib.extract_to_end s 1;rw[e,<-A]
theorem Bk(h:gA s=VC):s=⟨(aA s).toArray⟩:=by
 have e:aA s=s.data.toList:=by rw[aA,Lib.trimPrefix];rw[gA]at h;rw[sh (by rw[h];decide)]
 rw[e]
def nT(x:ByteArray):Bool:=(((((x.size:Nat):Int)==0)||decide ((x.size:Int)>400))||((((x.data.toList.getD 0 0).toNat:Nat):Int)==48))
theorem sD(x:ByteArray):nT x=oP x:=by
 rw[nT,oP,mJ,Lib.size_eq]
 congr 2
 cases x.data.toList with
 |nil=>rfl
 |cons a l=>simp;omega
theorem R9{x:ByteArray}(h:((((x.size:Nat):Int)==0)||decide ((x.size:Int)>400))=VC):0<x.size:=by grind
theorem JA(D:List UInt8)(k:Nat)(h:k<(⟨D.toArray⟩:ByteArray).size):(((⟨D.toArray⟩:ByteArray)[k]'h).toNat:Int)=((D.getD k 0).toNat:Int):=by rw[<-gy _ k h]
theorem ln(s:ByteArray):FnP prog 175 [.str s] (· = .bool (aN s)):=by
 refine FnP.of func175 O ntmps175 Xn λ_ _ _ _=>?_
 obtain⟨v,hv⟩:∃v,v=aN s:=⟨_,O⟩;rw[<-hv];refine Z1 O<|Z2 O<|Gc O (λZ=>?_) (λZ=>?_)
 .exact Z1 O<|VF O<|ah PV.bool (hv.trans (pO Z)).symm
 have hs:v=oS (aA s):=hv.trans (lM Z);clear hv;clear Z;have U:=l8 s;obtain⟨t,ht⟩:∃t:ByteArray,t=⟨(aA s).toArray⟩:=⟨_,O⟩;have X:t.data.toList=aA s:=by rw[ht]
 refine Ti<|Z2 O<|Z4 O ?_;apply Tu 4 11 15 [12,13,14] O Xt
 .intro hb3;have Y:0<s.size:=by simpa using hb3
  exact A1 O<|Rg O (bB 0 underlying9 O O O Y)<|Rg O ((ba O O O).cast (v':= .pv (.bool ((((s.data.toList.getD 0 0).toNat:Nat):Int)==45))) (by rw[gy _ 0 Y]))<|A1 O<|Tm Xs O O O
 .intro hb3;exact Ar 4 O<|Tm Xs O O O
 refine Gc O (λH=>?_) (λH=>?_)
 .have hng:gA s=VA:=by rw[U];simpa using H
  obtain⟨hD,Y⟩:=AV hng;refine Z1 O<|Rs O (XJ.cast (v':= .pv (.str t)) (eC (kl:= .i64) (kh:= .i64) (il:=1) (ih:=0) (UF _) UG 1 s.size underlying9 O (by rintro _ ⟨⟩;exact⟨O,O⟩) Xn Xn (λ_=>rfl) Xj (AT _)) (ah (λx=>V.pv (.str x)) (hD.trans ht.symm))) ?_;refine A1 O ?_;have J:=@tV (aA s);have L:=@vg (aA s);rw[<-ht,<-sD]at J L;clear hng H U;have ab:t.size=(aA s).length:=by rw[Lib.size_eq,X]
  generalize aA s=D at*;refine Z4 O ?_;apply Tt 4 21 25 [22,23,24] O Xt
  .intro hb3;exact Ar 4 O<|Tm Xs O O O
  .intro hb3;exact Ar 4 O<|Tm Xs O O O
  refine A1 O ?_;apply Tt 4 26 30 [27,28,29] O Xt
  .intro hb8;exact Ar 4 O<|Tm Xs O O O
  .intro hb8;have Y:=R9 hb8;exact A1 O<|Rg O (bB 0 underlying9 O O O Y)<|Rg O ((ba O O O).cast (v':= .pv (.bool ((((t.data.toList.getD 0 0).toNat:Nat):Int)==48))) (by rw[gy _ 0 Y]))<|A1 O<|Tm Xs O O O
  refine Gc O (λA=>?_) (λA=>?_)
  .exact Z1 O<|VF O<|ah PV.bool (hs.trans (J (show nT t=VA from A))).symm
  obtain⟨hg2,hD0,hD4⟩:=L (show nT t=VC from A);refine Ti<|Z1 O<|Gz O (st:=λXr:Nat=>([(3,UG),(4,UF (pIi Xr))],[])) 0
   (I:=λXr=>Xr<=D.length/\∀j,j<Xr->kF (D.getD j 0)=VA) (μ:=λXr=>D.length-Xr) (x0:=0) (Tk (aS O) trivial O O) (⟨aJ _,λj hj=>absurd hj (VP _)⟩) ?_
  rintro k ⟨hk,hall⟩;refine Z4 O<|Gp O (λT=>?_) (λT=>?_)
  .have hlt:k<D.length:=Xj;have G:k<t.size:=Xj;have aa:=gy t k G;have M:=E5 hlt;have P:=zx hlt;have z:t[k]'G=D[k]:=by rw[<-aa,X];simp[List.getD,hlt]
   refine Ti ?_
   repeat apply Tv
   refine AW.block ?_;generalize D[k]=c at M P z ⊢;refine Z2 O<|Rs O (XJ.cast (v':= .pv (.int .u8 c.toNat)) (bB k underlying9 O O O G) (by rw[z]))<|Y2 O ?_;apply Tt 5 41 46 [42,43,44,45] O Xt
   .intro hb4;exact Ar 5 O<|Tm Xs O O O
   .intro hb4;exact Y2 O<|Rg O (XJ.cast (v':= .pv (.int .u8 c.toNat)) (bB k underlying9 O O O G) (by rw[z]))<|Y2 O<|Tm Xs O O O
   refine Gc O (λB=>?_) (λB=>?_)
   .have hc:=M B;exact Z1 O<|VF O<|ah PV.bool (by rw[hs,hg2,hc])
   have hc:=P B;exact Ti<|Z3 O<|⟨(k+1),Tk (aS O) trivial O O,⟨Xj,λj hj=>by rcases Vd.1 hj with h|rfl;exact hall j h;exact hc⟩,Xj⟩
  exact Gx O<|Z1 O<|VF O<|ah PV.bool (by rw[hs,hg2,zi λj hj=>hall j Xj])
 have hng:gA s=VC:=by rw[U];simpa using H
 have ac:s=t:=(Bk hng).trans ht.symm;rw[ac];refine Ti ?_;have J:=@tV (aA s);have L:=@vg (aA s);rw[<-ht,<-sD]at J L;clear hng H U;have ab:t.size=(aA s).length:=by rw[Lib.size_eq,X]
 generalize aA s=D at*;refine Z4 O ?_;apply Tt 4 21 25 [22,23,24] O Xt
 .intro hb3;exact Ar 4 O<|Tm Xs O O O
 .intro hb3;exact Ar 4 O<|Tm Xs O O O
 refine A1 O ?_;apply Tt 4 26 30 [27,28,29] O Xt
 .intro hb8;exact Ar 4 O<|Tm Xs O O O
 .intro hb8;have Y:=R9 hb8;exact A1 O<|Rg O (bB 0 underlying9 O O O Y)<|Rg O ((ba O O O).cast (v':= .pv (.bool ((((t.data.toList.getD 0 0).toNat:Nat):Int)==48))) (by rw[gy _ 0 Y]))<|A1 O<|Tm Xs O O O
 refine Gc O (λA=>?_) (λA=>?_)
 .exact Z1 O<|VF O<|ah PV.bool (hs.trans (J (show nT t=VA from A))).symm
 obtain⟨hg2,hD0,hD4⟩:=L (show nT t=VC from A);refine Ti<|Z1 O<|Gz O (st:=λXr:Nat=>([(3,UG),(4,UF (pIi Xr))],[])) 0
  (I:=λXr=>Xr<=D.length/\∀j,j<Xr->kF (D.getD j 0)=VA) (μ:=λXr=>D.length-Xr) (x0:=0) (Tk (aS O) trivial O O) (⟨aJ _,λj hj=>absurd hj (VP _)⟩) ?_
 rintro k ⟨hk,hall⟩;refine Z4 O<|Gp O (λT=>?_) (λT=>?_)
 .have hlt:k<D.length:=Xj;have G:k<t.size:=Xj;have aa:=gy t k G;have M:=E5 hlt;have P:=zx hlt;have z:t[k]'G=D[k]:=by rw[<-aa,X];simp[List.getD,hlt]
  refine Ti ?_
  repeat apply Tv
  refine AW.block ?_;generalize D[k]=c at M P z ⊢;refine Z2 O<|Rs O (XJ.cast (v':= .pv (.int .u8 c.toNat)) (bB k underlying9 O O O G) (by rw[z]))<|Y2 O ?_;apply Tt 5 41 46 [42,43,44,45] O Xt
  .intro hb4;exact Ar 5 O<|Tm Xs O O O
  .intro hb4;exact Y2 O<|Rg O (XJ.cast (v':= .pv (.int .u8 c.toNat)) (bB k underlying9 O O O G) (by rw[z]))<|Y2 O<|Tm Xs O O O
  refine Gc O (λB=>?_) (λB=>?_)
  .have hc:=M B;exact Z1 O<|VF O<|ah PV.bool (by rw[hs,hg2,hc])
  have hc:=P B;exact Ti<|Z3 O<|⟨(k+1),Tk (aS O) trivial O O,⟨Xj,λj hj=>by rcases Vd.1 hj with h|rfl;exact hall j h;exact hc⟩,Xj⟩
 exact Gx O<|Z1 O<|VF O<|ah PV.bool (by rw[hs,hg2,zi λj hj=>hall j Xj])
theorem Eg(n:Int)(z: -9223372036854775808<=n)(A:n<=9223372036854775807):FnP prog 48 [.int .i64 n] (· = .str ⟨(Lib.itoa n).toArray⟩):=by
 refine FnP.of func48 O ntmps48 Xn λ_ _ _ _=>?_
 have B:(ae n.natAbs).length<=3:=aR.2 Xj;exact Z1 O<|Z1 O<|Rs O (aa call103 (pE n z A) O)<|Rs O (aa call104 (nP n Xj) O)<|A1 O<|VF O O
theorem zO(n:Int)(z: -9223372036854775808<=n)(A:n<=9223372036854775807):FnP prog 15 [.int .i64 n] (· = .str ⟨(Lib.itoa n).toArray⟩):=by
 refine FnP.of func15 O ntmps15 Xn λ_ _ _ _=>?_
 exact Z1 O<|Z1 O<|Rs O (aa call48 (Eg n z A) O)<|A1 O<|VF O O
end
section
open Mk
theorem xP(l:List UInt8)(c:UInt8):eO (l++[c])=eO l*10+(c.toNat-48):=by simp[eO]
theorem we(z:j<D.length)(A:lo<=j):eO ((D.drop lo).take (j+1-lo))=eO ((D.drop lo).take (j-lo))*10+((D.getD j 0).toNat-48):=by
 have e:(D.drop lo).take (j+1-lo)=(D.drop lo).take (j-lo)++[D.getD j 0]:=by
  rw[show j+1-lo=(j-lo)+1 by omega,AI Xo]
  congr 2
  simp[List.getD,z,show lo+(j-lo)=j by omega]
 rw[e,xP]
theorem Bi{z:Nat}(h:k<=z):(⟨(D.take z).toArray⟩:ByteArray).extract 0 k=⟨(D.take k).toArray⟩:=by
 rw[ByteArray.extract_mk]
 congr 1
 apply Array.ext';simp[List.extract_eq_take_drop,W5,Ul h]
theorem GN(z:∀c∈D,kF c=VA)(h:j-lo<=9):eO ((D.drop lo).take (j-lo))<1000000000:=by
 have A:=Ao (l:=(D.drop lo).take (j-lo)) (λc hc=>z c (Vq (Vp hc)));have B:10^((D.drop lo).take (j-lo)).length<=10^9:=UY Xl Xo;omega
theorem iE(s:ByteArray)(hd:∀c∈aA s,kF c=VA)(hl:(aA s).length<=1000000):FnP prog 176 [.str s] (· =lP (rdZ s)):=by
 refine FnP.ofC func176 O ntmps176 Xn λ_ _ _ _=>?_
 obtain⟨v,hv⟩:∃v,v=rdZ s:=⟨_,O⟩;rw[<-hv];obtain⟨ng,hng⟩:∃v,v=gA s:=⟨_,O⟩;have ab:=l8 s;rw[rdZ]at hv;rw[<-hng]at hv ab;obtain⟨t,ht⟩:∃t:ByteArray,t=⟨(aA s).toArray⟩:=⟨_,O⟩;have htd:t.data.toList=aA s:=by rw[ht]
 have hne:(s.toList !=(⟨#[]⟩:ByteArray).toList)=decide (0<s.size):=by
  rw[bne,mJ,Lib.size_eq];cases s.data.toList<;>simp
 refine Z1 O<|Z2 O<|Z3 O<|Tj (St.da 1 1 2 1 3 O O O)<|Z1 O<|Rs O (XJ.cast (v':= .pv (.bool (decide (0<s.size)))) (jm O O O) (ah (λb=>V.pv (.bool b)) hne))<|A1 O ?_;apply Tu 4 12 16 [13,14,15] O Xt
 .intro Z;have hp:0<s.size:=by simpa using Z
  exact A1 O<|Rg O (bB 0 underlying9 O O O hp)<|Rg O ((ba O O O).cast (v':= .pv (.bool ((((s.data.toList.getD 0 0).toNat:Nat):Int)==45))) (by rw[gy _ 0 hp]))<|A1 O<|Tm Xs O O O
 .intro Z;exact Ar 4 O<|Tm Xs O O O
 refine Gc O (λY=>?_) (λY=>?_)
 .have hn2:ng=VA:=by rw[ab];exact Y
  obtain⟨hD,hp⟩:=AV (hng.symm.trans hn2);refine UB 5 O<|D1 O<|TR O (λτ h=>XJ.cast (v':= .pv (.str t)) (eC (kl:= .i64) (kh:= .i64) (il:=1) (ih:=0) (UF _) UG 1 s.size underlying9 (Ee h 0 O O) (by rintro _ ⟨⟩;exact⟨O,O⟩) Xn Xn (λ_=>rfl) Xj (AT _)) (ah (λx=>V.pv (.str x)) (hD.trans ht.symm))) ?_;refine Dr 3 O ?_;refine⟨Xk,?_⟩;refine Gz O (st:=λXr:Nat×List Nat=>([(2,UG),(3,UF (.pv (.str ⟨((aA s).take Xr.1).toArray⟩))),(4,UG)],[(0,UG),(1,UF (.mix 132 [.pv (.bool ng),.gsl 2 1 Xr.2.length])),(2,UF (.gro 3 (gD Xr.2)))])) 3
   (I:=λXr=>Xr.1<=(aA s).length/\Lok Xr.2/\Xr.2.length+Xr.1<=(aA s).length/\eO (aA s)=eO ((aA s).take Xr.1)*1000000000^Xr.2.length+val Xr.2) (μ:=λXr=>Xr.1) (x0:=((aA s).length,[])) (Tk ⟨O,ah (λx=>V.pv (.str x)) (by rw[ht,VM]),O,Xq⟩ ⟨O,by rw[hn2];rfl,O,Xq⟩ O O) (⟨AT _,λ_ h=>absurd h Xn,Xn,by simp[val]⟩) ?_
  rintro⟨z,l⟩ ⟨hz,hok,hll,hvl⟩;try simp only at hz hok hll hvl ⊢
  refine Z3 O<|Gp O (λB=>?_) (λB=>?_)
  .refine Ti ?_
   repeat apply Tv
   refine AW.block ?_;have L:0<z:=by
    have h1:(⟨((aA s).take z).toArray⟩:ByteArray).size=z:=by simp[ByteArray.size];omega
    rw[h1]at B;omega
   have H:(⟨((aA s).take z).toArray⟩:ByteArray).size=z:=by simp[ByteArray.size];omega
   have M:=read_step hz O hvl;rw[show eO (List.take (z-(z-9)) (List.drop (z-9) (aA s)))=mD (aA s) z from O]at M;have hlt:=qV hd z;refine Z3 O<|Rs O (XJ.cast (v':= pIi ((z-9:Nat):Int)) (BM O O) (ah (λi=>pIi i) (by rw[H];split<;>omega)))<|A1 O<|Z1 O<|Z2 O ?_;refine Gz O (st:=λA:Nat=>([(2,UG),(3,UG),(4,UG),(5,UG),(6,UF (.pv (.int .i64 ((eO (((aA s).drop (z-9)).take (A-(z-9))):Nat):Int)))),(7,UF (pIi (A:Int)))],[(0,UG),(1,UG),(2,UG)])) 3
    (I:=λA=>z-9<=A/\A<=z) (μ:=λA=>z-A) (x0:=(z-9)) (Tk ⟨O,O,O,O,ah (λn:Nat=>pIi n) (by simp[eO]),O,Xq⟩ (aO O) O O) (⟨AT _,Xj⟩) ?_
   rintro j ⟨hj1,hj2⟩;refine Z4 O<|Gp O (λG=>?_) (λG=>?_)
   .refine Ti ?_
    repeat apply Tv
    refine AW.block ?_;have J:j<z:=by rw[H]at G;omega
    have P:j<(aA s).length:=Xj;have T:j<(⟨((aA s).take z).toArray⟩:ByteArray).size:=Xj;have U:=JA ((aA s).take z) j T;rw[show((aA s).take z).getD j 0=(aA s).getD j 0 by simp[List.getD,TS,J]]at U;have hdg:=hd ((aA s).getD j 0) (by simp[List.getD,P]);have hs2:=we P hj1;have Z:=GN hd (lo:=z-9) (j:=j) Xj;simp only[kF,du,Tz]at hdg;generalize (aA s).getD j 0=c at*;generalize eO (((aA s).drop (z-9)).take (j-(z-9)))=u at*;refine Z4 O<|Rs O (XJ.cast (v':= .pv (.int .u8 (c.toNat:Int))) (bB j underlying9 O O O T) (ah (λi=>V.pv (.int .u8 i)) U))<|Rs O (XJ.cast (v':= .pv (.int .u8 ((c.toNat-48:Nat):Int))) (ba O O O) (ah (λi=>V.pv (.int .u8 i)) (by show((c.toNat:Int)-48)%256=_;omega))) ?_;exact Rs O (XJ.cast (v':= pIi ((c.toNat-48:Nat):Int)) (jC underlying5 underlying3 O) (ah (λi=>pIi i) (fw Xj)))<|Y2 O<|Z3 O<|⟨(j+1),Tk ⟨O,O,O,O,ah (λi:Int=>pIi i) (by rw[hs2];omega),O,Xq⟩ (aO O) O O,⟨Xj,Xj⟩,Xj⟩
   refine Gx O ?_;have J:j=z:=by rw[H]at G;omega
   rw[J,show eO (List.take (z-(z-9)) (List.drop (z-9) (aA s)))=mD (aA s) z from O];generalize mD (aA s) z=u at*;refine Gr O<|Ar 7 O<|Z2 O<|Rs O (XJ.cast (v':= .pv (.str ⟨((aA s).take (z-9)).toArray⟩)) (eC (kl:= .i64) (kh:= .i64) (il:=0) (ih:=((z-9:Nat):Int)) UG (UF _) 0 (z-9) underlying9 O Xn (λ_=>rfl) (by rintro _ ⟨⟩;exact⟨O,O⟩) Xn (aJ _) (by rw[H];omega)) (ah (λx=>V.pv (.str x)) (Bi Xj))) ?_;exact A1 O<|⟨(z-9,l++[u]),Tl [0,1,4] (aT O) ⟨O,TX (b:=UF (.mix 132 [.pv (.bool ng),.gsl 4 1 (l.length+1)])) Xk (ah (λn=>UF (Ob.mix 132 [.pv (.bool ng),.gsl 4 1 n])) (di l _)),ah (λc=>UF (Ob.gro 3 c)) (limI_snoc _ _),Xq⟩ O O Xl O,⟨Xj,hok.append (Lok.one hlt),by rw[IN,TP];omega,by rw[IN,TP,dq,val_one];exact M⟩,Xj⟩
  refine Gx O ?_;have L:z=0:=by
   have h1:(⟨((aA s).take z).toArray⟩:ByteArray).size=z:=by simp[ByteArray.size];omega
   rw[h1]at B;omega
  rw[L,WI,show eO []=0 from O,Xi,T8]at hvl;have X:=cM (neg:=ng) l O Xj hok hvl.symm;rw[<-hv]at X;exact Tj (Tn 2 O O)<|Z1 O<|Rs O (aa call237 X O)<|A1 O<|VF O ⟨⟨ax ⟨_,underlying132,O⟩ np O O O,Xq⟩,O⟩
 have hn2:ng=VC:=by rw[ab];exact Y
 have hts:s=t:=(Bk (hng.symm.trans hn2)).trans ht.symm;rw[hts];refine Ti<|Gz O (st:=λXr:Nat×List Nat=>([(2,UG),(3,UF (.pv (.str ⟨((aA s).take Xr.1).toArray⟩))),(4,UG)],[(0,UG),(1,UF (.mix 132 [.pv (.bool ng),.gsl 2 1 Xr.2.length])),(2,UF (.gro 3 (gD Xr.2)))])) 3
  (I:=λXr=>Xr.1<=(aA s).length/\Lok Xr.2/\Xr.2.length+Xr.1<=(aA s).length/\eO (aA s)=eO ((aA s).take Xr.1)*1000000000^Xr.2.length+val Xr.2) (μ:=λXr=>Xr.1) (x0:=((aA s).length,[])) (Tk ⟨O,ah (λx=>V.pv (.str x)) (by rw[ht,VM]),O,Xq⟩ ⟨O,by rw[hn2];rfl,O,Xq⟩ O O) (⟨AT _,λ_ h=>absurd h Xn,Xn,by simp[val]⟩) ?_
 rintro⟨z,l⟩ ⟨hz,hok,hll,hvl⟩;try simp only at hz hok hll hvl ⊢
 refine Z3 O<|Gp O (λB=>?_) (λB=>?_)
 .refine Ti ?_
  repeat apply Tv
  refine AW.block ?_;have L:0<z:=by
   have h1:(⟨((aA s).take z).toArray⟩:ByteArray).size=z:=by simp[ByteArray.size];omega
   rw[h1]at B;omega
  have H:(⟨((aA s).take z).toArray⟩:ByteArray).size=z:=by simp[ByteArray.size];omega
  have M:=read_step hz O hvl;rw[show eO (List.take (z-(z-9)) (List.drop (z-9) (aA s)))=mD (aA s) z from O]at M;have hlt:=qV hd z;refine Z3 O<|Rs O (XJ.cast (v':= pIi ((z-9:Nat):Int)) (BM O O) (ah (λi=>pIi i) (by rw[H];split<;>omega)))<|A1 O<|Z1 O<|Z2 O ?_;refine Gz O (st:=λA:Nat=>([(2,UG),(3,UG),(4,UG),(5,UG),(6,UF (.pv (.int .i64 ((eO (((aA s).drop (z-9)).take (A-(z-9))):Nat):Int)))),(7,UF (pIi (A:Int)))],[(0,UG),(1,UG),(2,UG)])) 3
   (I:=λA=>z-9<=A/\A<=z) (μ:=λA=>z-A) (x0:=(z-9)) (Tk ⟨O,O,O,O,ah (λn:Nat=>pIi n) (by simp[eO]),O,Xq⟩ (aO O) O O) (⟨AT _,Xj⟩) ?_
  rintro j ⟨hj1,hj2⟩;refine Z4 O<|Gp O (λG=>?_) (λG=>?_)
  .refine Ti ?_
   repeat apply Tv
   refine AW.block ?_;have J:j<z:=by rw[H]at G;omega
   have P:j<(aA s).length:=Xj;have T:j<(⟨((aA s).take z).toArray⟩:ByteArray).size:=Xj;have U:=JA ((aA s).take z) j T;rw[show((aA s).take z).getD j 0=(aA s).getD j 0 by simp[List.getD,TS,J]]at U;have hdg:=hd ((aA s).getD j 0) (by simp[List.getD,P]);have hs2:=we P hj1;have Z:=GN hd (lo:=z-9) (j:=j) Xj;simp only[kF,du,Tz]at hdg;generalize (aA s).getD j 0=c at*;generalize eO (((aA s).drop (z-9)).take (j-(z-9)))=u at*;refine Z4 O<|Rs O (XJ.cast (v':= .pv (.int .u8 (c.toNat:Int))) (bB j underlying9 O O O T) (ah (λi=>V.pv (.int .u8 i)) U))<|Rs O (XJ.cast (v':= .pv (.int .u8 ((c.toNat-48:Nat):Int))) (ba O O O) (ah (λi=>V.pv (.int .u8 i)) (by show((c.toNat:Int)-48)%256=_;omega))) ?_;exact Rs O (XJ.cast (v':= pIi ((c.toNat-48:Nat):Int)) (jC underlying5 underlying3 O) (ah (λi=>pIi i) (fw Xj)))<|Y2 O<|Z3 O<|⟨(j+1),Tk ⟨O,O,O,O,ah (λi:Int=>pIi i) (by rw[hs2];omega),O,Xq⟩ (aO O) O O,⟨Xj,Xj⟩,Xj⟩
  refine Gx O ?_;have J:j=z:=by rw[H]at G;omega
  rw[J,show eO (List.take (z-(z-9)) (List.drop (z-9) (aA s)))=mD (aA s) z from O];generalize mD (aA s) z=u at*;refine Gr O<|Ar 7 O<|Z2 O<|Rs O (XJ.cast (v':= .pv (.str ⟨((aA s).take (z-9)).toArray⟩)) (eC (kl:= .i64) (kh:= .i64) (il:=0) (ih:=((z-9:Nat):Int)) UG (UF _) 0 (z-9) underlying9 O Xn (λ_=>rfl) (by rintro _ ⟨⟩;exact⟨O,O⟩) Xn (aJ _) (by rw[H];omega)) (ah (λx=>V.pv (.str x)) (Bi Xj))) ?_;exact A1 O<|⟨(z-9,l++[u]),Tl [0,1,4] (aT O) ⟨O,TX (b:=UF (.mix 132 [.pv (.bool ng),.gsl 4 1 (l.length+1)])) Xk (ah (λn=>UF (Ob.mix 132 [.pv (.bool ng),.gsl 4 1 n])) (di l _)),ah (λc=>UF (Ob.gro 3 c)) (limI_snoc _ _),Xq⟩ O O Xl O,⟨Xj,hok.append (Lok.one hlt),by rw[IN,TP];omega,by rw[IN,TP,dq,val_one];exact M⟩,Xj⟩
 refine Gx O ?_;have L:z=0:=by
  have h1:(⟨((aA s).take z).toArray⟩:ByteArray).size=z:=by simp[ByteArray.size];omega
  rw[h1]at B;omega
 rw[L,WI,show eO []=0 from O,Xi,T8]at hvl;have X:=cM (neg:=ng) l O Xj hok hvl.symm;rw[<-hv]at X;exact Tj (Tn 2 O O)<|Z1 O<|Rs O (aa call237 X O)<|A1 O<|VF O ⟨⟨ax ⟨_,underlying132,O⟩ np O O O,Xq⟩,O⟩
end
section
open Mk
abbrev OP(q:Rat):List PV:=[.bool (decide (q.num<0)),pli (ae q.num.natAbs),.bool (decide ((q.den:Int)<0)),pli (ae (q.den:Int).natAbs)]
abbrev bQ(q:Rat):PV:= .agg (OP q)
theorem mj(n:Int)(z: -9223372036854775808<=n)(A:n<=9223372036854775807):FnP prog 57 [.int .i64 n] (· =bQ (n:Rat)):=by
 refine FnP.ofC func57 O ntmps57 Xn λ_ _ _ _=>?_
 exact Z1 O<|Z1 O<|Rs O (aa call103 (pE n z A) O)<|Rs O (aa call103 (pE 1 Xl Xl) O)<|Y2 O<|VF O ⟨⟨ax ⟨_,underlying134,O⟩ zC O O O,Xq⟩,O⟩
theorem oR(x y:Int)(B:y≠0):
  (Rat.divInt x y).num=(if y<0 then-(x.tdiv (Int.gcd x y))else x.tdiv (Int.gcd x y))/\((Rat.divInt x y).den:Int)=(if y<0 then-(y.tdiv (Int.gcd x y))else y.tdiv (Int.gcd x y)):=by
 have A:(Int.gcd x y:Int)∣x:=Int.gcd_dvd_left x y;have z:(Int.gcd x y:Int)∣y:=Int.gcd_dvd_right x y;rw[Rat.num_divInt,Rat.den_divInt,sh B,Int.gcd_comm y x,Int.tdiv_eq_ediv_of_dvd A,Int.tdiv_eq_ediv_of_dvd z];by_cases h:y<0
 .rw[By h,By h,Int.sign_eq_neg_one_of_neg h];refine⟨by rw[Int.neg_mul,Int.one_mul,Int.neg_ediv_of_dvd A],?_⟩;rw[<-Int.neg_ediv_of_dvd z,Int.natCast_ediv,show((y.natAbs:Nat):Int)= -y by omega]
 grind
theorem Qq{x y:Int}(z:y≠0)(h:(ae y.natAbs).length<=k):(ae ((Int.gcd x y:Nat):Int).natAbs).length<=k:=by
 refine AS (cD ?_) h;rw[TW];exact Nat.le_of_dvd Xj (Nat.gcd_dvd_right _ _)
theorem wN{x y:Int}(z:y≠0):decide (y.tdiv (Int.gcd x y)<0)=decide (y<0):=by
 have A:=(oR x y z).2;have B:0<(Rat.divInt x y).den:=(Rat.divInt x y).den_pos;have:(y.tdiv (Int.gcd x y)<0)↔y<0:=by grind
 rw[TY,Tz,Tz];exact this
theorem xT(x y:Int)(Z:(ae x.natAbs).length<=100000)(L:(ae y.natAbs).length<=100000):FnP prog 179 [lP x,lP y] (· =bQ (Rat.divInt x y)):=by
 refine FnP.ofC func179 O ntmps179 Xn λ_ _ _ _=>?_
 have z:=oR x y;have B:=@wN x y;have J:∃q,q=Rat.divInt x y:=⟨_,O⟩;obtain⟨q,J⟩:=J;have Y:y=0->q=((0:Int):Rat):=λe=>by rw[J,e,Rat.divInt_zero];rfl
 rw[<-J]at z ⊢;clear J;have H:=λX=>Qq (x:=x) (y:=y) X L
 have I:y≠0->((Int.gcd x y:Nat):Int)≠0:=λX h=>X (by have:=Int.gcd_eq_zero_iff.1 (Int.ofNat_inj.1 h);exact this.2)
 have M:=wo x y Z L;generalize ((Int.gcd x y:Nat):Int)=g at*;refine Z3 O<|Z4 O<|Gc O (λG=>?_) (λG=>?_)
 .have hy0:y=0:=by have:=bJ.1 (show(ae y.natAbs).length=0 by have:=qJ G;omega);omega
  exact Gr O<|Rs O (aa call57 (mj 0 Xl Xl) O)<|A1 O<|VF O ⟨⟨ax ⟨_,underlying134,O⟩ zC O O O,Xq⟩,by rw[Y hy0];rfl⟩
 have hy0:y≠0:=λe=>by have:=k9 G;rw[e]at this;simp[aV]at this
 have z:=z hy0;have B:=B hy0;have H:=H hy0;have I:=I hy0;have P:=wV x g Xj H I;have T:=wV y g Xj H I;have U:=wA (x.tdiv g);have V:=wA (y.tdiv g);generalize x.tdiv g=n at*;generalize y.tdiv g=d at*;refine Ti<|Z2 O<|Rs O (aa call177 M O)<|Y2 O<|Z2 O<|Rs O (aa call238 P O)<|Ar 7 O<|Z2 O<|Rs O (aa call238 T O)<|Ar 7 O<|Z2 O<|Gc O (λA=>?_) (λA=>?_)
 .have hneg:y<0:=by rw[B]at A;simpa using A
  refine UB 6 O<|D1 O<|TR O (λτ h=>aa call239 U (h.aD O))<|D1 O<|TR O (λτ h=>aa call239 V (h.aD O))<|Dr 2 O ?_;refine⟨Xk,?_⟩;refine Z4 O<|Gt O ?_;rw[By hneg,By hneg]at z;exact⟨_,_,O,O,⟨ax ⟨_,underlying134,O⟩ zC O O O,Xq⟩,by rw[bQ,OP,z.1,z.2];rfl⟩
 have hneg:¬y<0:=by rw[B]at A;simpa using A
 refine Ti<|Z4 O<|Gt O ?_;rw[sh hneg,sh hneg]at z;exact⟨_,_,O,O,⟨ax ⟨_,underlying134,O⟩ zC O O O,Xq⟩,by rw[bQ,OP,z.1,z.2];rfl⟩
end
section
open Mk
def ed(n:Int):ByteArray:=⟨(Lib.itoa n).toArray⟩
theorem vj(n:Nat):eO (Lib.decDigits n)=n:=by
 induction n using Nat.strongRecOn with
 | ind n ih=>
   by_cases h:n<10
   .rw[Lib.decDigits,dif_pos h];simp[eO];omega
   rw[Lib.decDigits,dif_neg h,xP,ih _ Xj];simp;omega
theorem mC(n:Nat):∀c∈Lib.decDigits n,kF c=VA:=by
 induction n using Nat.strongRecOn with
 | ind n ih=>
   intro c hc;have z:∀d,d<10->kF (UInt8.ofNat (48+d))=VA:=λd hd=>by simp[kF];omega
   by_cases h:n<10
   .rw[Lib.decDigits,dif_pos h,TF]at hc;rw[hc];exact z n h
   rw[Lib.decDigits,dif_neg h]at hc;rcases Uf.1 hc with e|e
   .exact ih _ Xj c e
   grind
theorem Jr(h:Lib.decDigits a=Lib.decDigits b):a=b:=by rw[<-vj a,h,vj]
theorem Nz(n:Nat):Lib.decDigits n≠[]:=by rw[Lib.decDigits];split<;>simp
theorem tL{a b:Int}(h:Lib.itoa a=Lib.itoa b):a=b:=by
 have z:∀(n:Nat)(l:List UInt8),Lib.decDigits n≠45::l:=λn l e=>by
  have:=mC n 45 (by rw[e];simp);cases this
 rw[fX,fX]at h;by_cases ha:a<0<;>by_cases hb:b<0
 .grind[Jr,List.append_cancel_left]
 .grind
 .grind
 grind[Jr,List.append_cancel_left]
theorem tJ(d:Nat):((ed d).toList==yx.toList)=decide (d=1):=by
 rw[Lib.toList_data,Lib.toList_data,TY,U6,Tz];have z:Lib.itoa ((1:Nat):Int)=[49]:=by rw[fX,sh Xl,Lib.decDigits,dif_pos Xl];rfl
 show Lib.itoa d=[49]↔_;rw[<-z];exact⟨λh=>by have:=tL h;omega,λh=>by rw[h]⟩
def On(q:Rat):Bool:=tA q.num.natAbs||tA q.den
def bo(q:Rat):ByteArray:=if q.den=1 then ed q.num else(ed q.num++⟨#[47]⟩)++ed q.den
theorem w7(n:Int)(h:tA n.natAbs=VC):(ed n).size<=401:=by
 rw[tA,U7]at h;have z:(ed n).size=(Lib.itoa n).length:=by simp[ed,ByteArray.size]
 rw[z,fX,IN];have:(Lib.decDigits n.natAbs).length=lO n.natAbs:=rfl;split<;>simp<;>omega
theorem DF(q:Rat)(U:(ae q.num.natAbs).length<=1000000)(X:(ae q.den).length<=1000000):FnP prog 113 [bQ q] (· = .tup [.str (if On q=VA then⟨#[]⟩else bo q),.int .i64 (if On q=VA then 3 else 0)]):=by
 refine FnP.of func113 O ntmps113 Xn λ_ _ _ _=>?_
 have L:=sN q.num U;have J:=sN (q.den:Int) (by rw[TW];exact X);have M:=bo.eq_1 q;have hB:=On.eq_1 q;have P:=tJ q.den;have I:=w7 q.num;have H:=w7 (q.den:Int);rw[TW]at J H;rw[show(⟨(Lib.itoa q.num).toArray⟩:ByteArray)=ed q.num from O]at L;rw[show(⟨(Lib.itoa (q.den:Int)).toArray⟩:ByteArray)=ed q.den from O]at J;generalize bo q=T at*;generalize On q=B at*;generalize ed q.num=tn at*;generalize ed (q.den:Int)=td at*;generalize tA q.num.natAbs=c1 at*;generalize tA q.den=c2 at*;refine Z3 O<|Z2 O<|Rs O (aa call181 L O)<|Ar 5 O<|Z2 O<|Rs O (aa call181 J O)<|Ar 5 O<|Z3 O ?_;apply Tt 3 22 25 [23,24] O Xt
 .intro hb2;exact Y3 O<|Tm Xs O O O
 .intro hb2;exact Y3 O<|Tm Xs O O O
 refine Gc O (λz=>?_) (λz=>?_)
 .have hB1:B=VA:=by rw[hB];cases c1<;>cases c2<;>simp at z ⊢
  exact Z2 O<|VF O<|by rw[By hB1,By hB1];rfl
 have hc:c1=VC/\c2=VC:=by cases c1<;>cases c2<;>simp at z ⊢
 obtain⟨rfl,rfl⟩:=hc;have G:¬B=VA:=by rw[hB];decide
 have I:=I O;have H:=H O;refine Ti<|Z1 O<|Rs O (XJ.cast (v':= .pv (.bool (decide (q.den=1)))) (jm O O O) (ah (λb=>V.pv (.bool b)) P)) ?_;refine Gc O (λA=>?_) (λA=>?_)
 .exact Z3 O<|VF O<|by rw[sh G,sh G,M,By (by simpa using A)];rfl
 refine Ti ?_;have Y:(⟨#[47]⟩:ByteArray).size=1:=rfl;refine Z1 O<|Rs O (tf O O (by show tn.size+_<=_;omega)) ?_;refine A1 O<|Rs O (tf O O (by show(tn++_).size+td.size<=_;rw[V1];omega)) ?_;exact Y2 O<|VF O<|by rw[sh G,sh G,M,sh (by simpa using A)];rfl
end
end Go.Proofs.YtkkenamefaegfaaGreatDoor
