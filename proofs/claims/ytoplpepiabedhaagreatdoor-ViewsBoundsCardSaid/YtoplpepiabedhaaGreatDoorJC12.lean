/- Lemmas. No condition. -/
import Derived.Test.YtoplpepiabedhaaGreatDoorJC11
set_option maxRecDepth 100000
set_option maxHeartbeats 4000000
open Go.RowKit Go.Proofs.Tryz
open Option renaming some→Sh,none→Sl
open Bool renaming true→Sm,false→S1
namespace Go.Proofs.YtoplpepiabedhaaGreatDoor
variable{n a b j i k U M v c k1:Nat}{α:Type}{cs P l H L K D:List Int}{T:TypeId}{ls:List (List PV)}{S:Sch}{p q:Nat->Bool}
section
def pcN(k n:Nat):Nat:=(List.range k).countP λi=>n.testBit i
theorem zw(k n:Nat):pcN (k+1) n=n%2+pcN k (n/2):=by
 unfold pcN;rw[List.range_succ_eq_map,List.countP_cons,List.countP_map];have e:((λi=>n.testBit i)∘Nat.succ)=λi=>(n/2).testBit i:=by
  funext i;simp[Nat.testBit_succ]
 rw[e,UL]
 congr 1
 rw[Nat.testBit_zero];rcases Nat.mod_two_eq_zero_or_one n with h|h<;>simp[h]
theorem vO(h:n≠0):(n&&&(n-1))%2=0/\(n&&&(n-1))/2=if n%2=0 then(n/2)&&&(n/2-1)else n/2:=by
 constructor
 .have:=Nat.and_mod_two_pow (a:=n) (b:=n-1) (n:=1);simp only[Nat.pow_one]at this;rw[this];rcases Nat.mod_two_eq_zero_or_one n with e|e
  .rw[e];simp
  .rw[e,show(n-1)%2=0 by omega];simp
 .have:(n&&&(n-1))/2=n/2&&&(n-1)/2:=by
   apply Nat.eq_of_testBit_eq;intro i;rw[<-Nat.testBit_succ,Nat.testBit_and,Nat.testBit_and,Nat.testBit_succ,Nat.testBit_succ]
  rw[this];split
  .rw[show(n-1)/2=n/2-1 by omega]
  .rw[show(n-1)/2=n/2 by omega,Nat.and_self]
theorem zb:∀k n,n<2^k->n≠0->pcN k (n&&&(n-1))+1=pcN k n
 |0,n,h,h0=>by simp at h;omega
 | k+1,n,h,h0=>by
   rw[zw,zw];obtain⟨h1,h2⟩:=vO h0;rw[h1,h2];split
   .rename_i e;have:=zb k (n/2) (by rw[Tc]at h;omega) Vf;omega
   .omega
theorem KL{x:B64}(h:x≠0#64):ku (x&&&(x-1#64))+1=ku x:=by
 have d:x.toNat≠0:=λe=>h (BitVec.eq_of_toNat_eq (by simpa using e))
 have r:=x.isLt;have e:(x&&&(x-1#64)).toNat=x.toNat&&&(x.toNat-1):=by
  rw[BitVec.toNat_and,BitVec.toNat_sub]
  congr 1
  simp;omega
 have:=zb 64 x.toNat r d;rw[<-e]at this;exact this
noncomputable def widW(p:B64->Nat)(G:List B64)(rest:B64):Nat:=(compsN G rest G.length).1.foldl (λm c=>max m (p c)) 0
noncomputable def minW(w:B64->Nat)(G:List B64)(c:B64)(k:Nat):Nat:=(List.range k).foldl (λm a=>if c.getLsbD a=Sm then min m (w (c&&& ~~~(BitVec.twoPow 64 a)))else m) (G.length+1)
noncomputable def nearB(G:List B64)(c:B64):B64:=bitsOf λi=>(List.range G.length).any λb=>c.getLsbD b&&(G.getD b 0#64).getLsbD i
noncomputable def keyN(G:List B64)(c:B64):Nat:=ku (nearB G c&&& ~~~c)
noncomputable def parF(G:List B64):Nat->B64->Nat
 |0,_=>0
 |f+1,c=>max (minW (widW (parF G f) G) G c G.length) (keyN G c+1)
noncomputable def partV(G:List B64)(c:B64):Nat:=parF G 64 c
noncomputable def widV(G:List B64)(rest:B64):Nat:=widW (partV G) G rest
def InB(n:Nat)(c:B64):Prop:=∀i,c.getLsbD i=Sm->i<n

noncomputable def leastF(G:List B64)(most:Nat):Nat->B64->List Int
 |0,_=>[]
 | f+1,rest=>match (List.range G.length).find? (λa=>rest.getLsbD a&&decide (widV G (compB G rest a&&& ~~~(BitVec.twoPow 64 a))<=most))with
   |some a=>(a:Int)::leastF G most f (rest&&& ~~~(BitVec.twoPow 64 a))
   |none=>[]
noncomputable def leastL(G:List B64):List Int:=leastF G (widV G (HF G.length)) G.length (HF G.length)
end
section
open Mk
theorem Dp(x:B64):FnP prog 114 [fV x] (· = .int .i64 (ku x)):=by
 refine FnP.of func114 O ntmps114 Vj λm0 w0 F R0=>?_
 refine Z1 O<|Z1 O<|Gl O (st:=λVn:B64×Nat=>mkS [(0,.pv (fV Vn.1)),(3,pIi Vn.2)] [] 0)
  (I:=λVn=>Vn.2+ku Vn.1=ku x) (μ:=λVn=>ku Vn.1) (x0:=(x,0)) (Q5 (aS O) trivial O O) Vj ?_
 rintro⟨y,k⟩ hk;try simp only at hk ⊢
 have r:=Ew x;refine Z1 O<|Rs O (DZ (Y:=0#64) O O)<|Gp O (λd=>?_) (λd=>?_)
 .have hp:=KL d;exact Q3<|Z3 O<|Z2 O<|Rs O (NJ (Y:=1#64) O O)<|Rs O (xR O O)<|A1 O<|⟨(y&&&(y-1#64),k+1),Q5 (aS O) trivial O O,Vl,Vl⟩
 .have hz:y=0#64:=RZ d;subst hz;exact Gx O<|Z2 O<|Gt O<|⟨_,_,O,O,by rw[<-hk];rfl⟩
end
section
open Mk Jn
def k9(X:B64)(k:Nat):List Int:=((List.range k).filter λa=>X.getLsbD a).map Int.ofNat
theorem qS(X:B64)(k:Nat):k9 X (k+1)=k9 X k++if X.getLsbD k=Sm then [(k:Int)]else []:=by
 unfold k9;rw[UJ,TY,RG];by_cases h:X.getLsbD k=Sm
 .simp[TL,h]
 .simp[TL,h]
theorem I3{X:B64}(h:X>>>a=0#64):∀b,a<=b->X.getLsbD b=S1:=by
 intro b hb;have:=ag (λz=>z.getLsbD (b-a)) h;simp only[BitVec.getLsbD_ushiftRight,BitVec.getLsbD_zero]at this;rwa [show a+(b-a)=b by omega]at this
theorem OE{X:B64}(h:InB n X):X>>>n=0#64:=by
 apply BitVec.eq_of_getLsbD_eq;intro i hi;simp only[BitVec.getLsbD_ushiftRight,BitVec.getLsbD_zero];cases hb:X.getLsbD (n+i)with
 |false=>rfl
 |true=>have:=h _ hb;omega
theorem FK{X:B64}(h:X>>>a=0#64)(d:a<=n):k9 X n=k9 X a:=by
 induction n with
 |zero=>rw[show a=0 by omega]
 | succ n ih=>
   rcases Uw n a with h1|h1
   .rw[show a=n+1 by omega]
   .rw[qS,I3 h n h1,dt Vj,Sk,ih h1]
theorem Eg(X:B64)(n:Nat)(A:n<=60)(z:InB n X):FnP prog 116 [fV X] (· =aj (k9 X n)):=by
 refine FnP.of func116 O ntmps116 Vj λm0 w0 F R0=>?_
 have t:=OE z;refine Z1 O<|Z1 O<|Q4 (Ra 3 0 1 3 O O)<|Z1 O<|Gl O (st:=λVn:Nat×List Int=>mkS [(0,.pv (fV X)),(3,.gsl 0 1 Vn.2.length),(4,pIi Vn.1)] [(0,.gro 3 (aE Vn.2))] 1)
  (I:=λVn=>(Vn.1<=n/\Vn.2.length<=Vn.1)/\Vn.2=k9 X Vn.1) (μ:=λVn=>n-Vn.1) (x0:=(0,[])) (Q5 (aS O) (aO O) O O) (⟨⟨cd _,BY _⟩,O⟩) ?_
 rintro⟨a,q⟩ ⟨⟨ha,hqa⟩,hq⟩;try simp only at ha hqa hq ⊢
 refine Z2 O<|Rs O (CN a O O O Vf)<|Rs O (DZ (Y:=0#64) O O)<|Gp O (λr=>?_) (λr=>?_)
 .have hlt:a<n:=by rcases Uw a n with h|h;exact h;exact absurd (by rw[show a=n by omega];exact t) r
  have u:(aE q).length=q.length*1:=Vj;have s:=qS X a;refine Q3<|Z2 O<|Rs O (aa call198 (PG X a Vf) O)<|Gc O (λd=>?_) (λd=>?_)
  .refine Gr O ?_;iterate 5 refine A1 O ?_
   exact Z3 O<|⟨(a+1,q++[(a:Int)]),Q6 [2] ⟨O,ag (λn=>V.gsl 2 1 n) (fZ q _),O,Vm⟩ ⟨ag (λc=>Sh (Ob.gro 3 c)) Vj,Vm⟩ O O Vh O,⟨⟨Vl,by simp only[IS,RD];omega⟩,by simp only;rw[s,AT d,<-hq]⟩,Vl⟩
  .exact Q3<|Z3 O<|⟨(a+1,q),Q5 (aS O) (aO O) O O,⟨⟨Vl,Vl⟩,by simp only;rw[s,dt (by rw[d];decide),Sk,<-hq]⟩,Vl⟩
 .have hz:X>>>a=0#64:=RZ r;rw[<-FK hz ha]at hq;exact Q4 (Q8 0 O O)<|Gx O<|Z2 O<|Gt O<|⟨_,_,O,O,by rw[<-hq];rfl⟩
def bR{α:Type}(D:List α)(us:List (Nat×α)):List α:=us.foldl (λD u=>D.set u.1 u.2) D
theorem dm(D:List α)(us:List (Nat×α)):(bR D us).length=D.length:=by
 unfold bR;induction us generalizing D with
 |nil=>rfl
 |cons u us ih=>rw[Tf,ih,SI]
theorem gA(D:List α)(us vs:List (Nat×α)):bR D (us++vs)=bR (bR D us) vs:=Uf
section
variable (P:List Int)(G:List B64)
def iA:Nat->Int->B64
 |0,v=>G.getD v.toNat 0#64
 |k+1,v=>(aB P v).foldl (λz c=>z|||iA k c) (G.getD v.toNat 0#64)
def kj:Nat->Int->List Int
 |0,v=>[v]
 |k+1,v=>v::(aB P v).flatMap (kj k)
def we:Nat->Int->B64->List (Nat×Int)
 |0,v,ab=>[(v.toNat,(ku ab:Int))]
 |k+1,v,ab=>(v.toNat,(ku ab:Int))::(aB P v).flatMap λc=>we k c (ab|||BitVec.twoPow 64 v.toNat)
def jK(n:Nat):Nat->Int->B64->List (Nat×List Int)
 |0,v,ab=>[(v.toNat,k9 (iA P G 0 v&&&ab) n)]
 |k+1,v,ab=>((aB P v).flatMap λc=>jK n k c (ab|||BitVec.twoPow 64 v.toNat))++[(v.toNat,k9 (iA P G (k+1) v&&&ab) n)]
end
abbrev layA(G:List B64)(v:Int)(ab:B64):List V:=[pIi v,.pv (fV ab),.ptr big 0,.ptr 9004 0,.pv (.rp [jJ G] 0),.ptr 9006 0]
abbrev O0(n:Nat)(G:List B64)(chs:List (List Int))(w:Nat)(L:List Int)(D:List Int)(K:List (List Int))(hs:List PV):List (Nat×Ob):=[(big,.mix 97 [.pv (aW chs),.osl 9001 1 n,.osl 9002 1 n,.gsl w 1 L.length]),(9001,.cells 22 (K.map aj)),(9002,.cells 22 hs),(w,.gro 3 (aE L)),(9004,.mix 22 [.osl 9005 1 n]),(9005,.cells 3 (aE D)),(9006,.mix 204 [.fn (.func 113) [] [.ptr big 0,.ptr 9004 0,.pv (.rp [jJ G] 0),.ptr 9006 0]])]
theorem nw2{av:Av}(d:av b=Sm)(r:av (b+1)=Sm):(nwO b 2).all av=Sm:=by
 show(av (b+0)&&(av (b+1)&&Sm))=Sm;rw[Uv,d,r];rfl
theorem sc{NR:Int->B64}:∀(cs:List Int)(g:B64),InB n g->(∀c∈cs,InB n (NR c))->InB n (cs.foldl (λz c=>z|||NR c) g)
 |[],g,hg,_=>hg
 | c::cs,g,hg,h=>by
   rw[Tf];refine sc cs _ (λi hi=>?_) λd hd=>h d (by simp[hd])
   rw[BitVec.getLsbD_or,Sg]at hi;rcases hi with hi|hi
   .exact hg i hi
   .exact h c Vj i hi
theorem gq(h:j<cs.length)(f:Int->List α):(cs.take (j+1)).flatMap f=(cs.take j).flatMap f++f cs[j]:=by
 rw[AI h,Sc];simp
theorem AA(f:Int->List α)(cs:List Int)(j:Nat):((cs.take j).flatMap f).length<=(cs.flatMap f).length:=by
 have e:cs.flatMap f=(cs.take j).flatMap f++(cs.drop j).flatMap f:=by rw[<-Sc,Sb]
 rw[e,IS];omega
theorem qA(n:Nat)(hn:n<=12)(G:List B64)(hGn:G.length=n)(chs:List (List Int))(hcl:chs.length<=64)(v:Nat)(hv:v<n)(B:v<chs.length)(CS:List Int)(ay:chs[v]=CS)(hCl:CS.length<=64)(az:∀c∈CS,∃m:Nat,c=(m:Int))(ab:B64)
  (NR:Int->B64) (WS:Int->List Int) (DU:Int->List (Nat×Int)) (KU:Int->List (Nat×List Int)) (hg:InB n (G[v]'Vf)) (aA:∀c∈CS,InB n (NR c)) (E:List PV)
  (af:∀c∈CS,∀(L D:List Int)(K:List (List Int)),D.length=n->K.length=n->L.length+(WS c).length<=1000->FnO prog 113 7 2 (layA G c (ab|||BitVec.twoPow 64 v)) (O0 n G chs 9003 L D K E) (λr ob'=>r= .pv (fV (NR c))/\ob'=ax (O0 n G chs 1 (L++WS c) (bR D (DU c)) (bR K (KU c)) E)))
  (L D:List Int) (K:List (List Int)) (hD:D.length=n) (hK:K.length=n) (hL:L.length+1+(CS.flatMap WS).length<=1000):
  FnO prog 113 7 2 (layA G v ab) (O0 n G chs 9003 L D K E) (λr ob'=>r= .pv (fV (CS.foldl (λz c=>z|||NR c) (G[v]'Vf)))/\ob'=ax (O0 n G chs 1 (L++(v:Int)::CS.flatMap WS) (bR (D.set v (ku ab)) (CS.flatMap DU)) ((bR K (CS.flatMap KU)).set v (k9 (CS.foldl (λz c=>z|||NR c) (G[v]'Vf)&&&ab) n)) E)):=by
 refine FnO.of func113 O ntmps113 Vj λm0 w0 F R0=>?_
 have t:v<G.length:=Vf;have al:=yU t;have am:=I4 t;have J:=dx B;have an:=dz B;rw[ay]at J;have ao:=sc CS G[v] hg aA;generalize G[v]=g0 at*;have u:=Eg (CS.foldl (λz c=>z|||NR c) g0&&&ab) n Vf (λi hi=>ao i (by rw[Us,sh]at hi;exact hi.1));have hDl:(aE D).length=n:=by rw[OF,hD]
 have hpl:=Ew ab;refine Z1 O ?_;have aB:(aE L).length=L.length*1:=Vj;refine Z1 O ?_;first|refine A1 O ?_|refine A2 O Vi ?_
 iterate 5 refine A1 O ?_
 refine RW 6 O ?_;first|refine D1 O ?_|refine D2 O O Vi ?_
 iterate 2 refine D1 O ?_
 refine Ds [] O (λτ h=>aa call114 (Dp _) (h.aK O)) O Vg<|Ds [_] O (λτ h=>ak v underlying22 sz3 (Ee h 0 O O) (Eo h 0 O O) (Ee h 1 O O) O Vf) O Vg<|DL.step (d:=Sl) [_] O O O (λτ h=>bQ sz3 (Ee h 0 O O) (Eo h 0 O O) (Ee h 1 O O) O Vf) O Vg ?_;refine⟨Vg,?_⟩;refine Gr O ?_;first|refine A1 O ?_|refine A2 O Vi ?_
 refine A1 O<|Rs O (ae v underlying202 ID O O O t am)<|Rs O (aq ⟨_,underlying206,O⟩ O al)<|A1 O<|Z1 O ?_;first|refine A1 O ?_|refine A2 O Vi ?_
 refine A1 O<|Rs O (ae v underlying95 nv O O O B an)<|Rs O (aq ⟨_,underlying22,O⟩ O J)<|Y2 O<|Gl O (st:=λVn:Nat×List Int×List Int×List (List Int)=>mkS [(0,pIi v),(1,.pv (fV ab)),(2,.ptr big 0),(5,.ptr 9006 0),(9,.pv (fV ((CS.take Vn.1).foldl (λz c=>z|||NR c) g0))),(31,.pv (aj CS)),(32,pIi CS.length),(33,pIi Vn.1)] [(big,.mix 97 [.pv (aW chs),.osl 9001 1 n,.osl 9002 1 n,.gsl 1 1 Vn.2.1.length]),(1,.gro 3 (aE Vn.2.1)),(9001,.cells 22 (Vn.2.2.2.map aj)),(9002,.cells 22 E),(9004,.mix 22 [.osl 9005 1 n]),(9005,.cells 3 (aE Vn.2.2.1)),(9006,.mix 204 [.fn (.func 113) [] [.ptr big 0,.ptr 9004 0,.pv (.rp [jJ G] 0),.ptr 9006 0]])] 2)
  (I:=λVn=>(Vn.1<=CS.length/\Vn.2.1=L++(v:Int)::(CS.take Vn.1).flatMap WS)/\Vn.2.2.1=bR (D.set v (ku ab)) ((CS.take Vn.1).flatMap DU)/\Vn.2.2.2=bR K ((CS.take Vn.1).flatMap KU)) (μ:=λVn=>CS.length-Vn.1) (x0:=(0,L++[(v:Int)],D.set v (ku ab),K)) (Q5 (aS O) ⟨RI (b:=Sh (.mix 97 [.pv (aW chs),.osl 9001 1 n,.osl 9002 1 n,.gsl 1 1 (L.length+1)])) Vg (ag (λq=>Sh (Ob.mix 97 [.pv (aW chs),.osl 9001 1 n,.osl 9002 1 n,.gsl 1 1 q])) (fZ L _)),RI (b:=Sh (.gro 3 (aE L++[.int .i64 v]))) Vg (ag (λc=>Sh (Ob.gro 3 c)) Vj),Vg,Vg,Vg,RI (b:=Sh (.cells 3 ((aE D).set (v*1) (.int .i64 (ku ab))))) Vg (ag (λc=>Sh (Ob.cells 3 c)) (by simp[SH])),Vg,Vm⟩ O O) (⟨⟨cd _,O⟩,O,O⟩) ?_
 rintro⟨j,M,D2,K2⟩ ⟨⟨hj,hM⟩,hD2,hK2⟩;try simp only at hj hM hD2 hK2 ⊢
 refine Z1 O<|Gp O (λad=>?_) (λad=>?_)
 .have hlt:j<CS.length:=Vf;have W:=au hlt;obtain⟨c,hc⟩:=az _ W;have ap:(aE CS)[j*1]? =Sh (.int .i64 (c:Int)):=by rw[<-hc];simp[hlt]
  have hpn:=aD hlt;have A:=gq hlt WS;have Y:=gq hlt DU;have Z:=gq hlt KU;have s:(CS.take (j+1)).foldl (λz c=>z|||NR c) g0=(CS.take j).foldl (λz c=>z|||NR c) g0|||NR CS[j]:=by rw[AI hlt,Uf];rfl
  have ar:((CS.take (j+1)).flatMap WS).length<=(CS.flatMap WS).length:=AA WS CS (j+1);have ac:=af _ W M D2 K2 (by rw[hD2,dm,SI,hD]) (by rw[hK2,dm,hK]) (by rw[A,IS]at ar;rw[hM];simp only[IS,Rk];omega);rw[hc]at ac A Y Z s;generalize (CS.take j).foldl (λz c=>z|||NR c) g0=acc at*;refine Q3<|Z1 O<|Rs O (aq ⟨_,underlying3,O⟩ O ap)<|A1 O<|RW 10 O<|D1 O ?_;first|refine D1 O ?_|refine D2 O O Vi ?_
  iterate 3 refine D1 O ?_
  refine Ds [] O (λτ h=>aa call115 (wQ v Vf) (h.aK O)) O Vg<|Ds [] O (λτ h=>zd (Ee h 0 O O) (Ee h 1 O O)) O Vg<|Ds [big,9001,9002,1,9004,9005,9006] O (λτ h=>kX (vs:=[pIi (c:Int),.pv (fV (ab|||BitVec.twoPow 64 v))]) [big,9001,9002,1,9004,9005,9006] 2 call113 ac (Ee h 0 O O) (h.Ou.trans O) O O O O ⟨(Eo h 0 O O),(Eo h 1 O O),(Eo h 2 O O),(Eo h 3 O O),(Eo h 4 O O),(Eo h 5 O O),(Eo h 6 O O),Vm⟩ Vh (nw2 (h.n 0 _ O) (h.n 1 _ O))) O Vg<|Ds [] O (λτ h=>zd (Ee h 0 O O) (Ee h 1 O O)) O Vg<|D1 O ?_;refine⟨Vg,?_⟩;exact Z2 O<|⟨(j+1,M++WS (c:Int),bR D2 (DU (c:Int)),bR K2 (KU (c:Int))),Q6 [0,3] ⟨O,O,O,O,ag (λz=>V.pv (fV z)) s.symm,O,O,O,Vm⟩ (aP Vg) O O Vh O,⟨⟨Vl,by simp only;rw[A,hM];simp⟩,by simp only;rw[Y,gA,<-hD2],by simp only;rw[Z,gA,<-hK2]⟩,Vl⟩
 .rw[show CS.take j=CS from aQ Vf]at hM hD2 hK2 ⊢;have aC:(K2.map aj).length=n:=by rw[OF,hK2,dm,hK]
  generalize CS.foldl (λz c=>z|||NR c) g0=near at*;refine Gx O<|RW 9 O<|D1 O ?_;first|refine D1 O ?_|refine D2 O O Vi ?_
  iterate 3 refine D1 O ?_
  refine Ds [] O (λτ h=>xR (Ee h 0 O O) (Ee h 1 O O)) O Vg<|Ds [] O (λτ h=>aa call116 u (h.aK O)) O Vg<|Ds [_] O (λτ h=>ak v underlying95 nv (Ee h 0 O O) (Eo h 0 O O) (Ee h 1 O O) O Vf) O Vg<|DL.step (d:=Sl) [_] O O O (λτ h=>bQ nv (Ee h 0 O O) (Eo h 0 O O) (Ee h 1 O O) O Vf) O Vg ?_;refine⟨Vg,?_⟩;exact Z2 O<|Gt O<|⟨[(8,.pv (fV near))],O0 n G chs 1 (L++(v:Int)::CS.flatMap WS) (bR (D.set v (ku ab)) (CS.flatMap DU)) ((bR K (CS.flatMap KU)).set v (k9 (near&&&ab) n)) E,[.pv (fV near)],Q5 (aS O) (by rw[<-hM,<-hD2,<-hK2];exact⟨Vg,RI (b:=Sh (.cells 22 ((K2.map aj).set (v*1) (aj (k9 (near&&&ab) n))))) Vg (ag (λc=>Sh (Ob.cells 22 c)) (by simp[SH])),Vg,Vg,Vg,Vg,Vg,Vm⟩) O O,O,O,O,O,O⟩
end
section
open Mk Jn
def mw(P:List Int)(k:Nat)(v:Int):List Int:=((List.range k).filter λa=>P.getD a 0==v).map Int.ofNat
theorem kD(P:List Int)(v:Int):mw P P.length v=aB P v:=by
 unfold mw aB upZ;rw[List.filter_map];rfl
theorem k8(P:List Int)(k:Nat)(v:Int):mw P (k+1) v=mw P k v++if P.getD k 0=v then [(k:Int)]else []:=by
 unfold mw;rw[UJ,TY,RG];by_cases h:P.getD k 0=v
 .rw[AT h,TL,AT (by rw[h];simp)];rfl
 .rw[dt h,TL,dt (by simpa using h)];rfl
theorem jH(P:List Int)(k:Nat)(v:Int):(mw P k v).length<=k:=by
 unfold mw;rw[OF];exact IT (Te ..) Vj
def lsT(P:List Int)(k:Nat):List (List Int):=(upZ P.length).map (mw P k)++[mw P k (-1)]
theorem cP(P:List Int)(k:Nat):(lsT P k).length=P.length+1:=by simp[lsT,a6]
theorem qz(P:List Int)(k:Nat)(h:i<P.length):(lsT P k)[i]'(by rw[cP];omega)=mw P k i:=by
 unfold lsT;rw[T6 (by simp[a6,h])];simp[upZ]
theorem jj(P:List Int)(k:Nat):(lsT P k)[P.length]'(by rw[cP];omega)=mw P k (-1):=by
 unfold lsT;rw[List.getElem_append_right (by simp[a6])];simp[a6]
theorem AZ(P:List Int):lsT P 0=List.replicate (P.length+1) []:=by
 apply SO
 .simp[cP]
 .intro i h1 h2;rw[List.getElem_replicate];by_cases hi:i<P.length
  .rw[qz P 0 hi];rfl
  .have hi':i=P.length:=by rw[cP]at h1;omega
   subst hi';rw[jj P 0];rfl
theorem zX(t:∀p∈P, -1<=p/\p<P.length)(s:k<P.length)(U:Nat)(r:(P[k]= -1/\U=P.length)\/(P[k]=(U:Int)/\U<P.length)):
  lsT P (k+1)=(lsT P k).set U ((lsT P k)[U]'(by rw[cP];rcases r with h|h<;>omega)++[(k:Int)]):=by
 have d:P.getD k 0=P[k]:=by simp[List.getD,s]
 apply SO
 .simp[cP]
 .intro i h1 h2;rw[cP]at h1;rw[U4];by_cases hi:i<P.length
  .rw[qz P (k+1) hi,k8,d];by_cases e:U=i
   .subst e;rw[AT O];rcases r with h|h
    .omega
    .rw[AT h.1,qz P k hi]
   .rw[dt e,qz P k hi];rcases r with h|h
    .rw[dt (by rw[h.1];omega),Sk]
    .rw[dt (by rw[h.1];omega),Sk]
  .have hi':i=P.length:=Vf;subst hi';rw[jj P (k+1),k8,d];by_cases e:U=P.length
   .subst e;rw[AT O];rcases r with h|h
    .rw[AT h.1,jj P k]
    .omega
   .rw[dt e,jj P k];rcases r with h|h
    .omega
    .rw[dt (by rw[h.1];omega),Sk]
def lsP(ls:List (List Int)):List (List PV):=ls.map λl=>l.map λi=> .int .i64 i
theorem dJ(ls:List (List Int)):(lsP ls).length=ls.length:=by simp[lsP]
theorem xZ(ls:List (List Int))(U:Nat)(d:U<ls.length)(x:Int):lsP (ls.set U (ls[U]++[x]))=(lsP ls).set U ((lsP ls)[U]'(by rw[dJ];exact d)++[.int .i64 x]):=by
 unfold lsP;rw[SH];simp
theorem D7(ls:List (List Int)):chP (lsP ls)=ls.map λl=> .pv (aj l):=by
 unfold chP lsP;rw[Ta];apply Sd;intro l _;simp
theorem PC(P:List Int)(k:Nat)(h:U<(lsP (lsT P k)).length):((lsP (lsT P k))[U]).length<=k:=by
 have d:U<(lsT P k).length:=by rwa [dJ]at h
 have e:(lsP (lsT P k))[U]=(lsT P k)[U].map λi=>PV.int .i64 i:=by simp[lsP]
 rw[e,OF];by_cases hU:U<P.length
 .rw[qz P k hU];exact jH P k _
 .have:U=P.length:=by rw[cP]at d;omega
  subst this;rw[jj P k];exact jH P k _
theorem rD(cs:List V)(j:Nat)(v:V)(h:j<cs.length):fX cs j [v]=cs.set j v:=by
 unfold fX;rw[Ud,AT h,TC];rfl
def iC(D:List Int)(l:List Int)(j:Nat):Int:=(l.take j).foldl (λh a=>if D.getD a.toNat 0>D.getD h.toNat 0 then a else h) (l.headD 0)
theorem BE(D l:List Int)(h:j<l.length):iC D l (j+1)=if D.getD l[j].toNat 0>D.getD (iC D l j).toNat 0 then l[j]else iC D l j:=by
 unfold iC;rw[AI h,Uf];rfl
theorem uX(D:List Int)(r:l≠[])(j:Nat):iC D l j∈l:=by
 have d:∀(k:List Int)(h0:Int),(∀a∈k,a∈l)->h0∈l->k.foldl (λh a=>if D.getD a.toNat 0>D.getD h.toNat 0 then a else h) h0∈l:=by
  intro k;induction k with
  |nil=>exact λh0 _ h=>h
  | cons a k ih=>
    intro h0 hk hh;rw[Tf];refine ih _ (λb hb=>hk b (by simp[hb])) ?_;split
    .exact hk a Vj
    .exact hh
 unfold iC;refine d _ _ (λa ha=>Uy ha) ?_;cases l with
 |nil=>exact absurd O r
 |cons x l=>simp
def hpL(D:List Int)(S:Sch):List Int:=S.rels.map λr=>iC D r.2 r.2.length
theorem MB(D:List Int)(S:Sch):(hpL D S).length=S.rels.length:=by simp[hpL]
def hsT(n:Nat)(H:List Int)(k:Nat):List (List Int):=(upZ n).map (mw H k)
theorem dw(n:Nat)(H:List Int)(k:Nat):(hsT n H k).length=n:=by simp[hsT,a6]
theorem uh(n:Nat)(H:List Int)(k:Nat)(h:i<n):(hsT n H k)[i]'(by rw[dw];exact h)=mw H k i:=by simp[hsT,upZ]
theorem AX(n:Nat)(H:List Int):hsT n H 0=List.replicate n []:=by
 apply SO
 .simp[dw]
 .intro i h1 h2;rw[List.getElem_replicate,uh n H 0 (by rwa [dw]at h1)];rfl
theorem HV(r:k<H.length)(s:U<n)(e:H[k]=(U:Int)):hsT n H (k+1)=(hsT n H k).set U ((hsT n H k)[U]'(by rw[dw];exact s)++[(k:Int)]):=by
 have d:H.getD k 0=H[k]:=by simp[List.getD,r]
 apply SO
 .simp[dw]
 .intro i h1 h2;rw[dw]at h1;rw[U4,uh n H (k+1) h1,k8,d,e];by_cases e2:U=i
  .subst e2;rw[AT O,AT O,uh n H k h1]
  .rw[dt e2,dt Vf,Sk,uh n H k h1]
theorem P0(n:Nat)(H:List Int)(k:Nat)(h:U<(lsP (hsT n H k)).length):((lsP (hsT n H k))[U]).length<=k:=by
 have d:U<(hsT n H k).length:=by rwa [dJ]at h
 have e:(lsP (hsT n H k))[U]=(hsT n H k)[U].map λi=>PV.int .i64 i:=by simp[lsP]
 rw[e,OF,uh n H k (by rwa [dw]at d)];exact jH H k _
end
section
open Mk
noncomputable def lstL(S:Sch):List Int:=leastL (gr S)
end
section
open Mk Jn
theorem wv{σ:St}{nw:Nat}(s:U<ls.length)(x:PV)(d:σ.ob nw=Sh (.gro T (ls[U]++[x])))(r:∀j,j<ls.length->j≠U->σ.ob (j+1000)=Sh (.gro T (ls.getD j []))):
  ∀j (h:j<(ls.set U (ls[U]++[x])).length),σ.ob (rnF U nw (j+1000))=Sh (.gro T ((ls.set U (ls[U]++[x]))[j])):=by
 intro j h;rw[SI]at h;by_cases e:j=U
 .subst e;rw[zQ,d];simp
 .rw[cO Vf,r j h e,List.getElem_set_ne Vf];simp[List.getD,h]
theorem s8{σ:St}{A:Nat}{TA:TypeId}{cells:List V}(d:A<1000)(h:j<ls.length):(ovl σ A TA T cells ls).ob (j+1000)=Sh (.gro T (ls.getD j [])):=by
 rw[cN d h];simp[List.getD,h]
theorem zG{G:List B64}(d:Valid S)(s:IsG S G){a:Int}(h:fk S a (i:Int)=Sm):i<G.length:=by
 unfold fk at h;obtain⟨r,hr,h2⟩:=SR.1 h;simp only[sh,Rt]at h2;have:=(d.rng r hr _ h2.2).2;rw[s.len];omega
theorem ry{G:List B64}(r:Valid S)(d:IsG S G)(P:List Int)(s:P.length=G.length):∀(k:Nat)(v:Nat),v<G.length->InB G.length (iA P G k v)
 | 0,v,hv=>λi hi=>by
   unfold iA at hi;rw[RH,d.bit v hv i,sh]at hi;exact zG r d hi.2
 | k+1,v,hv=>by
   unfold iA;refine sc _ _ (λi hi=>?_) λc hc=>?_
   .rw[RH,d.bit v hv i,sh]at hi;exact zG r d hi.2
   .obtain⟨m,hm,rfl,_⟩:=aZ.1 hc;exact ry r d P s k m Vf
theorem Fk(n:Nat)(W:n<=12)(Y:Valid S)(G:List B64)(Z:IsG S G)(s:G.length=n)(P:List Int)(hP:UpOk P)(hPl:P.length=n)(chs:List (List Int))(hcl:chs.length=n+1)(A:∀v (h:v<n),chs[v]'Vf=aB P v)(B:List PV):∀(k v:Nat)(_:v<n)(_:n<=k+(cq P v).length+1)(ab:B64)(L D:List Int)(K:List (List Int)),D.length=n->K.length=n->L.length+(kj P k v).length<=1000->
  FnO prog 113 7 2 (layA G v ab) (O0 n G chs 9003 L D K B) (λr ob'=>r= .pv (fV (iA P G k v))/\ob'=ax (O0 n G chs 1 (L++kj P k v) (bR D (we P k v ab)) (bR K (jK P G n k v ab)) B)):=by
 have u:∀v (h:v<G.length),G.getD v 0#64=G[v]:=λv h=>by simp[List.getD,h]
 have t:∀v (h:v<G.length),InB n G[v]:=λv h=>by
  have:=ry Y Z P Vf 0 v h;rw[iA,RH,u v h,s]at this;exact this
 have E:∀v,(aB P v).length<=64:=λv=>IT (Te ..) (by rw[a6];omega)
 intro k;induction k with
 | zero=>
   intro v hv hf ab L D K hD hK hL;have I:aB P v=[]:=iY hP Vf Vf;have J:=qA n W G s chs Vf v hv Vf [] (by rw[A v hv,I]) Vj Vj ab (λ_=>0#64) (λ_=>[]) (λ_=>[]) (λ_=>[]) (t v Vf) Vj B Vj L D K hD hK (by simp[kj]at hL ⊢; omega);have V:iA P G 0 (v:Int)=G[v]'Vf:=by rw[iA,RH,u v Vf]
   rw[kj,we,jK,V,RH];exact J
 | succ k ih=>
   intro v hv hf ab L D K hD hK hL;have d:∀c∈aB P v,∃m:Nat,m<n/\c=(m:Int)/\P.getD m 0=(v:Int):=λc hc=>by
    obtain⟨m,hm,e,hp⟩:=aZ.1 hc;exact⟨m,Vf,e,hp⟩
   have J:=qA n W G s chs Vf v hv Vf (aB P v) (A v hv) (E v) (λc hc=>by obtain⟨m,_,e,_⟩:=d c hc;exact⟨m,e⟩) ab (iA P G k) (kj P k) (λc=>we P k c (ab|||BitVec.twoPow 64 v)) (λc=>jK P G n k c (ab|||BitVec.twoPow 64 v)) (t v Vf) (λc hc=>by
     obtain⟨m,hm,rfl,_⟩:=d c hc;have:=ry Y Z P Vf k m Vf;rwa [s]at this) B (λc hc L' D' K' hD' hK' hL'=>by
     obtain⟨m,hm,rfl,hp⟩:=d c hc;exact ih m hm (by rw[cK hP Vf Vf hp,Rk];omega) _ L' D' K' hD' hK' hL') L D K hD hK (by unfold kj at hL;simp only[Rk]at hL;omega)
   have V:iA P G (k+1) (v:Int)=(aB P v).foldl (λz c=>z|||iA P G k c) (G[v]'Vf):=by rw[iA,RH,u v Vf]
   rw[kj,we,jK,V,gA,RH];exact J
theorem y3{l:List (Nat×V)}{os:List (Nat×Ob)}(s:l.all (λp=>p.2.all λi=>Nat.blt i 1000)=Sm)(u:os.all (λp=>Nat.blt p.1 1000&&p.2.all λi=>Nat.blt i 1000)=Sm):(∀t,((mkS l os k).sl t).all (λi=>Nat.blt i 1000)=Sm)/\∀i o,(mkS l os k).ob i=Sh o->i<1000/\o.all (λi=>Nat.blt i 1000)=Sm:=by
 constructor
 .intro t;show(look l t).all _=Sm;clear u;induction l with
  |nil=>rfl
  | cons p l ih=>
    simp only[TG,sh]at s;obtain⟨d,v⟩:=p;simp only[look];cases Nat.beq t d with
    |true=>exact s.1
    |false=>exact ih s.2
 .intro i o h;have r:=Ri.1 u _ (bG h);rw[sh]at r;exact⟨HE r.1,r.2⟩
theorem tr(P:List Int):∀(k:Nat)(v:Int),kj P k v=(ct P k v).vs
 |0,v=>by rw[kj,ct,Tr.vs,vsL]
 | k+1,v=>by
   rw[kj,ct,Tr.vs,eD,T0];rw[show kj P k=λc=>(ct P k c).vs from funext (tr P k)]
theorem sB:(aB P (-1)).flatMap (kj P P.length)=aL P:=by
 rw[<-pJ,eD,T0,show kj P P.length=λc=>(ct P P.length c).vs from funext (tr P P.length)]
def lK(S:Sch)(P:List Int)(G:List B64):VD where
 chs:=lsT P P.length
 kes:=bR (List.replicate G.length []) ((aB P (-1)).flatMap λc=>jK P G G.length P.length c 0#64)
 hos:=hsT G.length (hpL (bR (List.replicate G.length 0) ((aB P (-1)).flatMap λc=>we P P.length c 0#64)) S) S.rels.length
 wa:=aL P
abbrev tx(D:VD):PV:= .agg [aW D.chs,aW D.kes,aW D.hos,aj D.wa]
theorem NQ{G:List B64}{M CS D2:List Int}{K2:List (List Int)}(r:k=P.length)(s:i=S.rels.length)(J:hpL D2 S=H)(V:M=CS.flatMap (kj P P.length))(d:aB P (-1)=CS)(t:D2=bR (List.replicate G.length 0) (CS.flatMap λc=>we P P.length c 0#64))
  (u:K2=bR (List.replicate G.length []) (CS.flatMap λc=>jK P G G.length P.length c 0#64)) (z:K2.length=G.length):PV.agg [aW (lsT P k),.sl Sl G.length (K2.map aj),.sl Sl G.length ((hsT G.length H i).map aj),aj M]=tx (lK S P G):=by
 have A:(lK S P G).kes=K2:=by rw[u,<-d];rfl
 have B:(lK S P G).wa=M:=by rw[V,<-d,sB];rfl
 have E:(lK S P G).hos=hsT G.length H i:=by rw[<-J,s,t,<-d];rfl
 have I:(lK S P G).chs=lsT P k:=by rw[r];rfl
 unfold tx;rw[A,B,E,I];unfold aW;rw[z,dw]
theorem Qi(n:Nat):PV.fgL (List.replicate n nS)=(List.replicate n ([]:List Int)).map aj:=by
 induction n with
 |zero=>rfl
 |succ n ih=>rw[Ul,Ul,PV.fgL,ih,bP];rfl
theorem IU(S:Sch)(hS:SB S)(P:List Int)(hO:OrdOk S P):FnP prog 46 [eS S,og P] (λv=>∃G,IsG S G/\v=tx (lK S P G)):=by
 refine FnP.ofC func46 O ntmps46 Vj λm0 w0 F R0=>?_
 have hV:=hO.val;have hP:=hO.iw;have hPl:=hO.len;have hn12:=hV.n2;refine Z3 O<|Z1 O<|RL.call O (eW call112 (B9 S hS hV) O ?_);rintro _ ⟨G,rfl,hG⟩;have hGl:=hG.len;refine Y2 O<|Z3 O<|RW 10 O ?_;iterate 10 refine D1 O ?_
 refine⟨Vg,?_⟩;refine Wk [(2,.ptr 0 0),(3,.ptr 1 0),(4,.ptr 2 0),(5,.ptr 3 0),(6,pIi G.length),(7,.ptr 7 0)] [(0,oZ S),(1,.mix 32 [.pv (aj P)]),(2,.mix 97 [.pv nS,.pv nS,.pv nS,.pv nS]),(3,.mix 202 [.pv (jJ G)]),(4,.cells 22 (List.replicate (G.length+1) nS)),(5,.cells 22 (List.replicate G.length nS)),(6,.cells 22 (List.replicate G.length nS)),(7,.mix 97 [.osl 4 1 (G.length+1),.osl 5 1 G.length,.osl 6 1 G.length,.pv nS])] 8 (aS O) ⟨O,O,O,O,ag (λc=>Sh (Ob.cells 22 c)) ((cB nS ((G.length+1)*1)).trans (by rw[R6])),ag (λc=>Sh (Ob.cells 22 c)) ((cB nS (G.length*1)).trans (by rw[R6])),ag (λc=>Sh (Ob.cells 22 c)) ((cB nS (G.length*1)).trans (by rw[R6])),O,Vm⟩ O O<|Q4 (St.uv 4 O)<|Q4 (St.GX (A:=4) (TA:=22) 3 (G.length+1) (ag (λc=>Sh (Ob.mix 22 c)) Vj) Vh Vf (λi h1 h2=>Ex Vh h1 h2))<|Z4 O ?_;refine Gl O (st:=λVn:Nat=>ovl (mkS [(2,.ptr 0 0),(4,.ptr 2 0),(5,.ptr 3 0),(6,pIi G.length),(7,.ptr 7 0),(32,.pv (aj P)),(33,pIi P.length),(34,pIi Vn)] [(0,oZ S),(2,.mix 97 [.pv nS,.pv nS,.pv nS,.pv nS]),(3,.mix 202 [.pv (jJ G)]),(5,.cells 22 (List.replicate G.length nS)),(6,.cells 22 (List.replicate G.length nS)),(7,.mix 97 [.osl 4 1 (G.length+1),.osl 5 1 G.length,.osl 6 1 G.length,.pv nS])] 8) 4 22 3 (chV (lsP (lsT P Vn))) (lsP (lsT P Vn)))
  (I:=λVn=>Vn<=P.length) (μ:=λVn=>P.length-Vn) (x0:=(0)) (St.fT 1000 999 (aT O) (aP Vg) (ag (λc=>Sh (Ob.mix 22 c)) (by rw[iq 999 (by rw[dJ,cP];omega),AZ,hPl,hGl];unfold lsP;rw[List.map_replicate];rfl)) (λj hj=>by rw[dJ,cP]at hj;rw[cO Vf];refine(cN (A:=4) (TA:=22) (cells:=chV (List.replicate (G.length+1) [])) (ls:=List.replicate (G.length+1) []) Vh (by rw[Tp];omega)).trans ?_;simp[AZ,lsP]) O O Vh Vh Vh Vh (by rw[dJ,cP];omega)) (cd _) ?_
 rintro k hk;refine Z1 O<|Gp O (λhc35=>?_) (λhc35=>?_)
 .have hlt:k<P.length:=Vf;have hpn:=aD hlt;have hpv:=aX hlt;have hpr:=hP.rng _ (au hlt);have B:(lsP (lsT P k)).length=G.length+1:=by rw[dJ,cP];omega
  have hlb:=λU (h:U<(lsP (lsT P k)).length)=>PC P k h
  generalize hls:lsP (lsT P k)=ls at*;refine Q3<|Z2 O ?_;first|refine A2 O Vi ?_|refine A1 O ?_
  refine Y2 O<|Z2 O<|Gp O (λhc40=>?_) (λhc40=>?_)
  .have hm1:P[k]= -1:=Vf;have r:G.length<ls.length:=Vf;have J:lsP (lsT P (k+1))=ls.set (G.length) (ls[G.length]++[.int .i64 k]):=by have h5:G.length<(lsT P k).length:=(by rw[cP];omega);rw[zX hO.rng hlt (G.length) (.inl ⟨hm1,Vf⟩),xZ _ _ h5];subst hls;rfl
   have W:=Gg r;have hlbU:=hlb _ r;have t:(G.length)*1+1<=(chV ls).length:=by rw[iK];omega
   refine Z2 O<|RW 13 O ?_;iterate 6 refine D1 O ?_
   refine Ds [_] O (λτ h=>ak (G.length) underlying95 nv (Ee h 0 O O) (Eo h 0 O O) (Ee h 1 O O) O Vf) O Vg<|Ds [_] O (λτ h=>mU ⟨_,underlying22,O⟩ (Ee h 0 O O) (Eo h 0 O O) W) O Vg ?_;iterate 2 refine D1 O ?_
   refine Ds [(G.length)+1000,8] O (λτ h=>ir 9 tm (Ee h 0 O O) ((h.o 0 _ O).trans (RI (b:=(ovl (mkS [(2,.ptr 0 0),(4,.ptr 2 0),(5,.ptr 3 0),(6,pIi G.length),(7,.ptr 7 0),(32,.pv (aj P)),(33,pIi P.length),(34,pIi k)] [(0,oZ S),(2,.mix 97 [.pv nS,.pv nS,.pv nS,.pv nS]),(3,.mix 202 [.pv (jJ G)]),(5,.cells 22 (List.replicate G.length nS)),(6,.cells 22 (List.replicate G.length nS)),(7,.mix 97 [.osl 4 1 (G.length+1),.osl 5 1 G.length,.osl 6 1 G.length,.pv nS])] 8) 4 22 3 (chV (ls)) (ls)).ob (G.length+1000)) Vg (cN Vh r))) (R6 _).symm (Ee h 1 O O) (Eo h 1 O O) O O Vf (h.n 0 _ O)) O Vg<|Ds [_] O (λτ h=>ak (G.length) underlying95 nv (Ee h 0 O O) (Eo h 0 O O) (Ee h 1 O O) O Vf) O Vg<|DL.step (d:=Sl) [_] O O O (λτ h=>nJ nv (Ee h 0 O O) (Eo h 0 O O) (Ee h 1 O O) O t O O) O Vg ?_;refine⟨Vg,?_⟩;exact Z2 O<|⟨(k+1),(by rw[J];exact St.fT (G.length) 9 (aT O) (aP Vg) (RI (b:=Sh (.mix 22 (fX (chV ls) ((G.length)*1) [.gsl 9 1 (ls[G.length].length+1)]))) Vg (ag (λc=>Sh (Ob.mix 22 c)) ((rD _ _ _ (by rw[iK];omega)).trans (oB r 9 _).symm))) (wv r _ Vg (λj hj hne=>RI (b:=bif Nat.beq (j+1000) (G.length+1000)then(Sl:Option Ob)else(ovl (mkS [(2,.ptr 0 0),(4,.ptr 2 0),(5,.ptr 3 0),(6,pIi G.length),(7,.ptr 7 0),(32,.pv (aj P)),(33,pIi P.length),(34,pIi k)] [(0,oZ S),(2,.mix 97 [.pv nS,.pv nS,.pv nS,.pv nS]),(3,.mix 202 [.pv (jJ G)]),(5,.cells 22 (List.replicate G.length nS)),(6,.cells 22 (List.replicate G.length nS)),(7,.mix 97 [.osl 4 1 (G.length+1),.osl 5 1 G.length,.osl 6 1 G.length,.pv nS])] 8) 4 22 3 (chV (ls)) (ls)).ob (j+1000)) Vg (by rw[Fa Vf,RR];exact s8 Vh hj))) O O Vh Vh Vh Vf (by rw[SI];omega)),Vf,Vf⟩
  .obtain⟨a,ha⟩:=Rm (show 0<=P[k] by omega);have r:a<ls.length:=Vf;have J:lsP (lsT P (k+1))=ls.set (a) (ls[a]++[.int .i64 k]):=by have h5:a<(lsT P k).length:=(by rw[cP];omega);rw[zX hO.rng hlt (a) (.inr ⟨ha,Vf⟩),xZ _ _ h5];subst hls;rfl
   have W:=Gg r;have hlbU:=hlb _ r;have t:(a)*1+1<=(chV ls).length:=by rw[iK];omega
   refine Q3 ?_;rw[ha];refine RW 13 O ?_;iterate 6 refine D1 O ?_
   refine Ds [_] O (λτ h=>ak (a) underlying95 nv (Ee h 0 O O) (Eo h 0 O O) (Ee h 1 O O) O Vf) O Vg<|Ds [_] O (λτ h=>mU ⟨_,underlying22,O⟩ (Ee h 0 O O) (Eo h 0 O O) W) O Vg ?_;iterate 2 refine D1 O ?_
   refine Ds [(a)+1000,8] O (λτ h=>ir 9 tm (Ee h 0 O O) ((h.o 0 _ O).trans (RI (b:=(ovl (mkS [(2,.ptr 0 0),(4,.ptr 2 0),(5,.ptr 3 0),(6,pIi G.length),(7,.ptr 7 0),(32,.pv (aj P)),(33,pIi P.length),(34,pIi k)] [(0,oZ S),(2,.mix 97 [.pv nS,.pv nS,.pv nS,.pv nS]),(3,.mix 202 [.pv (jJ G)]),(5,.cells 22 (List.replicate G.length nS)),(6,.cells 22 (List.replicate G.length nS)),(7,.mix 97 [.osl 4 1 (G.length+1),.osl 5 1 G.length,.osl 6 1 G.length,.pv nS])] 8) 4 22 3 (chV (ls)) (ls)).ob (a+1000)) Vg (cN Vh r))) (R6 _).symm (Ee h 1 O O) (Eo h 1 O O) O O Vf (h.n 0 _ O)) O Vg<|Ds [_] O (λτ h=>ak (a) underlying95 nv (Ee h 0 O O) (Eo h 0 O O) (Ee h 1 O O) O Vf) O Vg<|DL.step (d:=Sl) [_] O O O (λτ h=>nJ nv (Ee h 0 O O) (Eo h 0 O O) (Ee h 1 O O) O t O O) O Vg ?_;refine⟨Vg,?_⟩;exact Z2 O<|⟨(k+1),(by rw[J];exact St.fT (a) 9 (aT O) (aP Vg) (RI (b:=Sh (.mix 22 (fX (chV ls) ((a)*1) [.gsl 9 1 (ls[a].length+1)]))) Vg (ag (λc=>Sh (Ob.mix 22 c)) ((rD _ _ _ (by rw[iK];omega)).trans (oB r 9 _).symm))) (wv r _ Vg (λj hj hne=>RI (b:=bif Nat.beq (j+1000) (a+1000)then(Sl:Option Ob)else(ovl (mkS [(2,.ptr 0 0),(4,.ptr 2 0),(5,.ptr 3 0),(6,pIi G.length),(7,.ptr 7 0),(32,.pv (aj P)),(33,pIi P.length),(34,pIi k)] [(0,oZ S),(2,.mix 97 [.pv nS,.pv nS,.pv nS,.pv nS]),(3,.mix 202 [.pv (jJ G)]),(5,.cells 22 (List.replicate G.length nS)),(6,.cells 22 (List.replicate G.length nS)),(7,.mix 97 [.osl 4 1 (G.length+1),.osl 5 1 G.length,.osl 6 1 G.length,.pv nS])] 8) 4 22 3 (chV (ls)) (ls)).ob (j+1000)) Vg (by rw[Fa Vf,RR];exact s8 Vh hj))) O O Vh Vh Vh Vf (by rw[SI];omega)),Vf,Vf⟩
 .have hkP:k=P.length:=Vf;have B:(lsP (lsT P k)).length=G.length+1:=by rw[dJ,cP];omega
  have hLl:(lsT P k).length=G.length+1:=by rw[cP];omega
  have hcp:chP (lsP (lsT P k))=((lsT P k).map aj).map V.pv:=by rw[D7,Ta];rfl
  generalize hls:lsP (lsT P k)=ls at*;refine Q4 (St.fT (l:=[(2,.ptr 0 0),(4,.ptr 2 0),(5,.ptr 3 0),(6,pIi G.length),(7,.ptr 7 0)]) (os:=[(0,oZ S),(2,.mix 97 [.pv nS,.pv nS,.pv nS,.pv nS]),(3,.mix 202 [.pv (jJ G)]),(5,.cells 22 (List.replicate G.length nS)),(6,.cells 22 (List.replicate G.length nS)),(7,.mix 97 [.osl 4 1 (G.length+1),.osl 5 1 G.length,.osl 6 1 G.length,.pv nS])]) (k:=8) (A:=4) (TA:=22) (T:=3) (ls:=ls) 1000 999 (aT Vg) (aP Vg) (RI (b:=Sh (.mix 22 (chV ls))) Vg (by rw[iq 999 Vf])) (λj hj=>by rw[cO Vf];exact RI (b:=(ovl (mkS [(2,.ptr 0 0),(4,.ptr 2 0),(5,.ptr 3 0),(6,pIi G.length),(7,.ptr 7 0),(32,.pv (aj P)),(33,pIi P.length),(34,pIi k)] [(0,oZ S),(2,.mix 97 [.pv nS,.pv nS,.pv nS,.pv nS]),(3,.mix 202 [.pv (jJ G)]),(5,.cells 22 (List.replicate G.length nS)),(6,.cells 22 (List.replicate G.length nS)),(7,.mix 97 [.osl 4 1 (G.length+1),.osl 5 1 G.length,.osl 6 1 G.length,.pv nS])] 8) 4 22 3 (chV (ls)) (ls)).ob (j+1000)) Vg (cN Vh hj)) O O Vh Vh Vh Vh Vf) ?_;have hsm:=y3 (l:=[(2,.ptr 0 0),(4,.ptr 2 0),(5,.ptr 3 0),(6,pIi G.length),(7,.ptr 7 0)]) (os:=[(0,oZ S),(2,.mix 97 [.pv nS,.pv nS,.pv nS,.pv nS]),(3,.mix 202 [.pv (jJ G)]),(5,.cells 22 (List.replicate G.length nS)),(6,.cells 22 (List.replicate G.length nS)),(7,.mix 97 [.osl 4 1 (G.length+1),.osl 5 1 G.length,.osl 6 1 G.length,.pv nS])]) (k:=8) O O;refine Q4 (St.G6 ls Vh Vf hsm.1 hsm.2)<|Q4 (St.CU (id:=4) (cs:=(lsT P k).map aj) O hcp)<|Q4 (Q5 (l:=[(2,.ptr 0 0),(4,.ptr 2 0),(5,.ptr 3 0),(6,pIi G.length),(7,.ptr 7 0)]) (os:=(4,.cells 22 ((lsT P k).map aj))::[(0,oZ S),(2,.mix 97 [.pv nS,.pv nS,.pv nS,.pv nS]),(3,.mix 202 [.pv (jJ G)]),(5,.cells 22 (List.replicate G.length nS)),(6,.cells 22 (List.replicate G.length nS)),(7,.mix 97 [.osl 4 1 (G.length+1),.osl 5 1 G.length,.osl 6 1 G.length,.pv nS])]) (k:=8) (aS Vg) (aO Vg) O O)<|Q4 (St.da 7 3 8 1 3 O O O)<|Q4 (Q8 4 O O)<|Q4 (St.LZ 7 O)<|Q4 (St.QA (id:=5) O)<|Wk [(2,.ptr 0 0),(4,.ptr 2 0),(5,.ptr 3 0),(6,pIi G.length),(7,.ptr 7 0)] [(0,oZ S),(2,.mix 97 [.pv nS,.pv nS,.pv nS,.pv nS]),(3,.mix 202 [.pv (jJ G)]),(5,.cells 22 ((List.replicate G.length ([]:List Int)).map aj)),(6,.cells 22 (List.replicate G.length nS)),(7,.mix 97 [.pv (aW (lsT P k)),.osl 5 1 G.length,.osl 6 1 G.length,.gsl 8 1 0]),(8,.gro 3 (aE []))] 9 (aS Vg) ⟨Vg,Vg,Vg,RI (b:=Sh (.cells 22 (PV.fgL (List.replicate G.length nS)))) Vg (ag (λc=>Sh (Ob.cells 22 c)) (Qi _)),Vg,RI (b:=Sh (.mix 97 [.pv (.sl Sl (G.length+1) ((lsT P k).map aj)),.osl 5 1 G.length,.osl 6 1 G.length,.gsl 8 1 0])) Vg (ag (λq=>Sh (Ob.mix 97 [.pv (.sl Sl q ((lsT P k).map aj)),.osl 5 1 G.length,.osl 6 1 G.length,.gsl 8 1 0])) hLl.symm),Vg,Vm⟩ O O ?_;clear hls hcp B;have hCl:(aB P (-1)).length<=64:=IT (Te ..) (by rw[a6];omega);have hCm:∀c∈aB P (-1),∃m:Nat,m<G.length/\c=(m:Int)/\P.getD m 0= -1:=λc hc=>by obtain⟨m,hm,e,hp⟩:=aZ.1 hc;exact⟨m,Vf,e,hp⟩
  have hrl:G.length<(lsT P k).length:=Vf;have hrv:=dx hrl;have hrn:=dz hrl;have hroot:(lsT P k)[G.length]=aB P (-1):=by have h5:=jj P k;rw[hkP,kD]at h5;simp only[hkP,hGl,<-hPl];exact h5
  rw[hroot]at hrv;have hch:∀v (h:v<G.length),(lsT P k)[v]'Vf=aB P v:=λv h=>by have h5:=qz P k (i:=v) Vf;rw[h5,hkP,kD]
  have hvis:=fun(m:Nat)(hm:m<G.length)(hr:P.getD m 0= -1)=>Fk G.length Vf hV G hG O P hP Vf (lsT P k) hLl hch (List.replicate G.length nS) P.length m hm Vf 0#64
  have hvl:((aB P (-1)).flatMap (kj P P.length)).length<=12:=by rw[sB,EK hP];omega
  generalize hCS:aB P (-1)=CS at*;refine Gx O<|Z4 O<|Z1 O<|Q4 (St.fG 3 O O)<|Z2 O<|Z3 O<|Rs O (ae G.length underlying95 nv O O O hrl hrn)<|Rs O (aq ⟨_,underlying22,O⟩ O hrv)<|Y2 O<|Gl O (st:=λs:Nat×List Int×List Int×List (List Int)=>mkS [(2,.ptr 0 0),(4,.ptr 2 0),(7,.ptr 7 0),(10,.ptr 10 0),(11,.ptr 11 0),(62,.pv (aj CS)),(63,pIi CS.length),(64,pIi s.1)] [(0,oZ S),(2,.mix 97 [.pv nS,.pv nS,.pv nS,.pv nS]),(5,.cells 22 (s.2.2.2.map aj)),(6,.cells 22 (List.replicate G.length nS)),(7,.mix 97 [.pv (aW ((lsT P k))),.osl 5 1 G.length,.osl 6 1 G.length,.gsl 8 1 s.2.1.length]),(8,.gro 3 (aE s.2.1)),(9,.cells 3 (aE s.2.2.1)),(10,.mix 22 [.osl 9 1 G.length]),(11,.mix 204 [.fn (.func 113) [] [.ptr 7 0,.ptr 10 0,.pv (.rp [jJ G] 0),.ptr 11 0]])] 12)
   (I:=λs=>(s.1<=CS.length/\s.2.1=(CS.take s.1).flatMap (kj P P.length))/\s.2.2.1=bR (List.replicate G.length 0) ((CS.take s.1).flatMap λc=>we P P.length c 0#64)/\s.2.2.2=bR (List.replicate G.length []) ((CS.take s.1).flatMap λc=>jK P G G.length P.length c 0#64)) (μ:=λs=>CS.length-s.1) (x0:=(0,[],List.replicate G.length 0,List.replicate G.length [])) (Q5 (aS O) ⟨Vg,Vg,Vg,Vg,Vg,Vg,RI (b:=Sh (.cells 3 (mkZ [.int .i64 0] (G.length*1)))) Vg (ag (λc=>Sh (Ob.cells 3 c)) ((cB (.int .i64 0) (G.length*1)).trans (by rw[R6];show _=List.map _ (List.replicate _ _);rw[List.map_replicate]))),Vg,Vg,Vm⟩ O O) (⟨⟨cd _,O⟩,O,O⟩) ?_
  rintro⟨j,M,D2,K2⟩ ⟨⟨hj,hM⟩,hD2,hK2⟩;try simp only at hj hM hD2 hK2 ⊢
  refine Z1 O<|Gp O (λhc65=>?_) (λhc65=>?_)
  .have hlt:j<CS.length:=Vf;have hcm:=au hlt;obtain⟨c,hcl,hc,hcr⟩:=hCm _ hcm;have hpv2:(aE CS)[j*1]? =Sh (.int .i64 (c:Int)):=by rw[<-hc];simp[hlt]
   have hpn2:=aD hlt;have htf:=gq hlt (kj P P.length);have htd:=gq hlt (λc=>we P P.length c 0#64);have htk:=gq hlt (λc=>jK P G G.length P.length c 0#64);have hfl:=AA (kj P P.length) CS (j+1);rw[hc]at htf htd htk;have hgo:=hvis c hcl hcr M D2 K2 (by rw[hD2,dm,Tp]) (by rw[hK2,dm,Tp]) (by rw[htf,IS]at hfl;rw[hM];omega);exact Q3<|Z1 O<|Rs O (aq ⟨_,underlying3,O⟩ O hpv2)<|A1 O<|Z2 O<|Rs O (kX (vs:=[pIi (c:Int),.pv (fV 0#64)]) [7,5,6,8,10,9,11] 12 call113 hgo O O O O O O ⟨Vg,Vg,Vg,Vg,Vg,Vg,Vg,Vm⟩ Vh O)<|Z2 O<|⟨(j+1,M++kj P P.length (c:Int),bR D2 (we P P.length (c:Int) 0#64),bR K2 (jK P G G.length P.length (c:Int) 0#64)),Q6 [0,1,2,3,4,5,6,7,13,9,10,11] (aT O) (aP Vg) O O Vh O,⟨⟨Vl,by simp only;rw[htf,<-hM]⟩,by simp only;rw[htd,gA,<-hD2],by simp only;rw[htk,gA,<-hK2]⟩,Vl⟩
  .rw[show CS.take j=CS from aQ Vf]at hM hD2 hK2;have hDl:D2.length=G.length:=by rw[hD2,dm,Tp]
   have hKl:K2.length=G.length:=by rw[hK2,dm,Tp]
   have hIl:(aE D2).length=G.length:=by rw[OF,hDl]
   have hrl5:=hV.r2;have hrln:=hS.rl;have hHl:=MB D2 S;generalize hH:hpL D2 S=H at hHl;have hHr:∀i (h:i<S.rels.length),H[i]'Vf=iC D2 S.rels[i].2 S.rels[i].2.length:=λi h=>by subst hH;simp[hpL]
   refine Wk [(2,.ptr 0 0),(4,.ptr 2 0),(7,.ptr 7 0),(10,.ptr 10 0)] [(0,oZ S),(2,.mix 97 [.pv nS,.pv nS,.pv nS,.pv nS]),(5,.cells 22 (K2.map aj)),(6,.cells 22 (List.replicate G.length nS)),(7,.mix 97 [.pv (aW (lsT P k)),.osl 5 1 G.length,.osl 6 1 G.length,.gsl 8 1 M.length]),(8,.gro 3 (aE M)),(9,.cells 3 (aE D2)),(10,.mix 22 [.osl 9 1 G.length])] 12 (aS Vg) (aO Vg) O O<|Q4 (St.uv 6 O)<|Q4 (St.GX (A:=6) (TA:=22) 3 G.length (ag (λc=>Sh (Ob.mix 22 c)) Vj) Vh Vf (λi h1 h2=>Ex Vh h1 h2))<|Gx O<|Z4 O ?_;refine Gl O (st:=λu:Nat=>ovl (mkS [(4,.ptr 2 0),(7,.ptr 7 0),(10,.ptr 10 0),(73,.pv (.sl Sl S.rels.length (aM S.rels))),(74,pIi S.rels.length),(75,pIi u)] [(2,.mix 97 [.pv nS,.pv nS,.pv nS,.pv nS]),(5,.cells 22 (K2.map aj)),(7,.mix 97 [.pv (aW (lsT P k)),.osl 5 1 G.length,.osl 6 1 G.length,.gsl 8 1 M.length]),(8,.gro 3 (aE M)),(9,.cells 3 (aE D2)),(10,.mix 22 [.osl 9 1 G.length])] 12) 6 22 3 (chV (lsP (hsT G.length H u))) (lsP (hsT G.length H u)))
    (I:=λu=>u<=S.rels.length) (μ:=λu=>S.rels.length-u) (x0:=(0)) (St.fT 1000 999 (aT O) (aP Vg) (ag (λc=>Sh (Ob.mix 22 c)) (by rw[iq 999 (by rw[dJ,dw];omega),AX];unfold lsP;rw[List.map_replicate];rfl)) (λj hj=>by rw[dJ,dw]at hj;rw[cO Vf];refine(cN (A:=6) (TA:=22) (cells:=chV (List.replicate G.length [])) (ls:=List.replicate G.length []) Vh (by rw[Tp];omega)).trans ?_;simp[AX,lsP]) O O Vh Vh Vh Vh (by rw[dJ,dw];omega)) (cd _) ?_
   rintro i hi;refine Z1 O<|Gp O (λhc76=>?_) (λhc76=>?_)
   .have hli:i<S.rels.length:=Vf;have hrow:=dK hli;have hne:=gF hli;have hrk:=hrln _ (au hli);have hrr:=hV.rng _ (au hli);have Y:=hV.ne _ (au hli);have hHi:=hHr i hli;have B:(lsP (hsT G.length H i)).length=G.length:=by rw[dJ,dw]
    have hlb:=λU (h:U<(lsP (hsT G.length H i)).length)=>P0 G.length H i h
    generalize S.rels[i]=rk at*;have hhm:=λj=>uX D2 Y j
    have Z:∀x∈rk.2,∃m:Nat,m<G.length/\x=(m:Int):=λx hx=>by obtain⟨m,e⟩:=Rm (hrr x hx).1;exact⟨m,by have:=(hrr x hx).2;omega,e⟩
    obtain⟨U,hUn,hUe⟩:=Z _ (hhm rk.2.length);generalize hls:lsP (hsT G.length H i)=ls at*;have r:U<ls.length:=Vf;have J:lsP (hsT G.length H (i+1))=ls.set U (ls[U]++[.int .i64 i]):=by have h5:U<(hsT G.length H i).length:=(by rw[dw];exact hUn);rw[HV Vf hUn (hHi.trans hUe),xZ _ _ h5];subst hls;rfl
    have W:=Gg r;have hlbU:=hlb _ r;have t:U*1+1<=(chV ls).length:=by rw[iK];omega
    have h0l:0<rk.2.length:=SS.2 Y;have hq0:(aE rk.2)[0*1]? =Sh (.int .i64 (iC D2 rk.2 0)):=by cases hc:rk.2 with|nil=>exact absurd hc Y|cons x l=>simp[iC]
    have hpn0:=aD h0l;refine Q3<|Z2 O ?_;first|refine A3 O Vi ?_|refine A1 O ?_
    refine Y3 O<|Z2 O<|Rs O (ae 0 underlying22 sz3 O O O h0l hpn0)<|Rs O (aq ⟨_,underlying3,O⟩ O hq0)<|A1 O<|Z4 O<|Gl O (st:=λE:Nat=>ovl (mkS [(4,.ptr 2 0),(7,.ptr 7 0),(10,.ptr 10 0),(14,pIi i),(16,pIi (iC D2 rk.2 E)),(73,.pv (.sl Sl S.rels.length (aM S.rels))),(74,pIi S.rels.length),(75,pIi i),(85,.pv (aj rk.2)),(86,pIi rk.2.length),(87,pIi E)] [(2,.mix 97 [.pv nS,.pv nS,.pv nS,.pv nS]),(5,.cells 22 (K2.map aj)),(7,.mix 97 [.pv (aW (lsT P k)),.osl 5 1 G.length,.osl 6 1 G.length,.gsl 8 1 M.length]),(8,.gro 3 (aE M)),(9,.cells 3 (aE D2)),(10,.mix 22 [.osl 9 1 G.length])] 13) 6 22 3 (chV ls) (ls))
     (I:=λE=>E<=rk.2.length) (μ:=λE=>rk.2.length-E) (x0:=(0)) (St.fT 1000 999 (aT O) (aP Vg) (RI (b:=Sh (.mix 22 (chV ls))) Vg (by rw[iq 999 Vf])) (λj2 hj2=>by rw[cO Vf];exact RI (b:=(ovl (mkS [(4,.ptr 2 0),(7,.ptr 7 0),(10,.ptr 10 0),(73,.pv (.sl Sl S.rels.length (aM S.rels))),(74,pIi S.rels.length),(75,pIi i)] [(2,.mix 97 [.pv nS,.pv nS,.pv nS,.pv nS]),(5,.cells 22 (K2.map aj)),(7,.mix 97 [.pv (aW (lsT P k)),.osl 5 1 G.length,.osl 6 1 G.length,.gsl 8 1 M.length]),(8,.gro 3 (aE M)),(9,.cells 3 (aE D2)),(10,.mix 22 [.osl 9 1 G.length])] 12) 6 22 3 (chV (ls)) (ls)).ob (j2+1000)) Vg (cN Vh hj2)) O O Vh Vh Vh Vh Vf) (cd _) ?_
    rintro j3 hj3;refine Z1 O<|Gp O (λhc88=>?_) (λhc88=>?_)
    .have hl3:j3<rk.2.length:=Vf;obtain⟨a,hal,ha⟩:=Z _ (au hl3);obtain⟨mh,hml,hmh⟩:=Z _ (hhm j3);have hpv3:(aE rk.2)[j3*1]? =Sh (.int .i64 (a:Int)):=by rw[<-ha];simp[hl3]
     have hpn3:=aD hl3;have hDa:(aE D2)[a*1]? =Sh (.int .i64 (D2.getD a 0)):=by simp[List.getD,hDl,hal]
     have hDm:(aE D2)[mh*1]? =Sh (.int .i64 (D2.getD mh 0)):=by simp[List.getD,hDl,hml]
     have hhs:=BE D2 rk.2 hl3;rw[ha,hmh,RH,RH]at hhs;refine Q3<|Z1 O<|Rs O (aq ⟨_,underlying3,O⟩ O hpv3)<|A1 O<|RW 9 O ?_;iterate 2 refine D1 O ?_
     refine Ds [_] O (λτ h=>ak a underlying22 sz3 (Ee h 0 O O) (Eo h 0 O O) (Ee h 1 O O) O Vf) O Vg<|Ds [_] O (λτ h=>cm ⟨_,underlying3,O⟩ (Ee h 0 O O) (Eo h 0 O O) hDa) O Vg ?_;iterate 2 refine D1 O ?_
     refine Ds [_] O (λτ h=>ak mh underlying22 sz3 (Ee h 0 O O) (Eo h 0 O O) (Ee h 1 O O) hmh Vf) O Vg<|Ds [_] O (λτ h=>cm ⟨_,underlying3,O⟩ (Ee h 0 O O) (Eo h 0 O O) hDm) O Vg<|D1 O ?_;refine⟨Vg,?_⟩;refine Gp O (λaa=>?_) (λaa=>?_)
     .exact Z2 O<|Z2 O<|⟨(j3+1),St.fT 1000 999 ⟨O,O,O,O,ag (λz=>pIi z) (hhs.trans (AT aa)).symm,O,O,O,O,O,O,Vm⟩ (aP Vg) (RI (b:=Sh (.mix 22 (chV ls))) Vg (by rw[iq 999 Vf])) (λj2 hj2=>by rw[cO Vf];exact RI (b:=(ovl (mkS [(4,.ptr 2 0),(7,.ptr 7 0),(10,.ptr 10 0),(14,pIi i),(16,pIi (iC D2 rk.2 j3)),(73,.pv (.sl Sl S.rels.length (aM S.rels))),(74,pIi S.rels.length),(75,pIi i),(85,.pv (aj rk.2)),(86,pIi rk.2.length),(87,pIi j3)] [(2,.mix 97 [.pv nS,.pv nS,.pv nS,.pv nS]),(5,.cells 22 (K2.map aj)),(7,.mix 97 [.pv (aW (lsT P k)),.osl 5 1 G.length,.osl 6 1 G.length,.gsl 8 1 M.length]),(8,.gro 3 (aE M)),(9,.cells 3 (aE D2)),(10,.mix 22 [.osl 9 1 G.length])] 13) 6 22 3 (chV ls) (ls)).ob (j2+1000)) Vg (cN Vh hj2)) O O Vh Vh Vh Vh Vf,Vf,Vf⟩
     .exact Q3<|Z2 O<|⟨(j3+1),St.fT 1000 999 ⟨O,O,O,O,ag (λz=>pIi z) ((hhs.trans (dt aa)).trans hmh.symm).symm,O,O,O,O,O,O,Vm⟩ (aP Vg) (RI (b:=Sh (.mix 22 (chV ls))) Vg (by rw[iq 999 Vf])) (λj2 hj2=>by rw[cO Vf];exact RI (b:=(ovl (mkS [(4,.ptr 2 0),(7,.ptr 7 0),(10,.ptr 10 0),(14,pIi i),(16,pIi (iC D2 rk.2 j3)),(73,.pv (.sl Sl S.rels.length (aM S.rels))),(74,pIi S.rels.length),(75,pIi i),(85,.pv (aj rk.2)),(86,pIi rk.2.length),(87,pIi j3)] [(2,.mix 97 [.pv nS,.pv nS,.pv nS,.pv nS]),(5,.cells 22 (K2.map aj)),(7,.mix 97 [.pv (aW (lsT P k)),.osl 5 1 G.length,.osl 6 1 G.length,.gsl 8 1 M.length]),(8,.gro 3 (aE M)),(9,.cells 3 (aE D2)),(10,.mix 22 [.osl 9 1 G.length])] 13) 6 22 3 (chV ls) (ls)).ob (j2+1000)) Vg (cN Vh hj2)) O O Vh Vh Vh Vh Vf,Vf,Vf⟩
    .have hje:j3=rk.2.length:=Vf;rw[<-hje]at hUe;refine Gx O<|RW 13 O ?_;iterate 6 refine D1 O ?_
     refine Ds [_] O (λτ h=>ak U underlying95 nv (Ee h 0 O O) (Eo h 0 O O) (Ee h 1 O O) hUe Vf) O Vg<|Ds [_] O (λτ h=>mU ⟨_,underlying22,O⟩ (Ee h 0 O O) (Eo h 0 O O) W) O Vg ?_;iterate 2 refine D1 O ?_
     refine Ds [U+1000,13] O (λτ h=>ir 14 tm (Ee h 0 O O) ((h.o 0 _ O).trans (RI (b:=(ovl (mkS [(4,.ptr 2 0),(7,.ptr 7 0),(10,.ptr 10 0),(14,pIi i),(16,pIi (iC D2 rk.2 j3)),(73,.pv (.sl Sl S.rels.length (aM S.rels))),(74,pIi S.rels.length),(75,pIi i),(85,.pv (aj rk.2)),(86,pIi rk.2.length),(87,pIi j3)] [(2,.mix 97 [.pv nS,.pv nS,.pv nS,.pv nS]),(5,.cells 22 (K2.map aj)),(7,.mix 97 [.pv (aW (lsT P k)),.osl 5 1 G.length,.osl 6 1 G.length,.gsl 8 1 M.length]),(8,.gro 3 (aE M)),(9,.cells 3 (aE D2)),(10,.mix 22 [.osl 9 1 G.length])] 13) 6 22 3 (chV ls) (ls)).ob (U+1000)) Vg (cN Vh r))) (R6 _).symm (Ee h 1 O O) (Eo h 1 O O) O O Vf (h.n 0 _ O)) O Vg<|Ds [_] O (λτ h=>ak U underlying95 nv (Ee h 0 O O) (Eo h 0 O O) (Ee h 1 O O) hUe Vf) O Vg<|DL.step (d:=Sl) [_] O O O (λτ h=>nJ nv (Ee h 0 O O) (Eo h 0 O O) (Ee h 1 O O) O t O O) O Vg ?_;refine⟨Vg,?_⟩;exact Z2 O<|⟨(i+1),(by rw[J];exact St.fT U 14 (aT O) (aP Vg) (RI (b:=Sh (.mix 22 (fX (chV ls) (U*1) [.gsl 14 1 (ls[U].length+1)]))) Vg (ag (λc=>Sh (Ob.mix 22 c)) ((rD _ _ _ (by rw[iK];omega)).trans (oB r 14 _).symm))) (wv r _ Vg (λj2 hj2 hne2=>RI (b:=bif Nat.beq (j2+1000) (U+1000)then(Sl:Option Ob)else(ovl (mkS [(4,.ptr 2 0),(7,.ptr 7 0),(10,.ptr 10 0),(14,pIi i),(16,pIi (iC D2 rk.2 j3)),(73,.pv (.sl Sl S.rels.length (aM S.rels))),(74,pIi S.rels.length),(75,pIi i),(85,.pv (aj rk.2)),(86,pIi rk.2.length),(87,pIi j3)] [(2,.mix 97 [.pv nS,.pv nS,.pv nS,.pv nS]),(5,.cells 22 (K2.map aj)),(7,.mix 97 [.pv (aW (lsT P k)),.osl 5 1 G.length,.osl 6 1 G.length,.gsl 8 1 M.length]),(8,.gro 3 (aE M)),(9,.cells 3 (aE D2)),(10,.mix 22 [.osl 9 1 G.length])] 13) 6 22 3 (chV ls) (ls)).ob (j2+1000)) Vg (by rw[Fa Vf,RR];exact s8 Vh hj2))) O O Vh Vh Vh Vf (by rw[SI];omega)),Vf,Vf⟩
   .have hie:i=S.rels.length:=Vf;have B:(lsP (hsT G.length H i)).length=G.length:=by rw[dJ,dw]
    have hcp2:chP (lsP (hsT G.length H i))=((hsT G.length H i).map aj).map V.pv:=by rw[D7,Ta];rfl
    generalize hls:lsP (hsT G.length H i)=ls at*;refine Q4 (St.fT (l:=[(4,.ptr 2 0),(7,.ptr 7 0)]) (os:=[(2,.mix 97 [.pv nS,.pv nS,.pv nS,.pv nS]),(5,.cells 22 (K2.map aj)),(7,.mix 97 [.pv (aW (lsT P k)),.osl 5 1 G.length,.osl 6 1 G.length,.gsl 8 1 M.length]),(8,.gro 3 (aE M))]) (k:=12) (A:=6) (TA:=22) (T:=3) (ls:=ls) 1000 999 (aT Vg) (aP Vg) (RI (b:=Sh (.mix 22 (chV ls))) Vg (by rw[iq 999 Vf])) (λj2 hj2=>by rw[cO Vf];exact RI (b:=(ovl (mkS [(4,.ptr 2 0),(7,.ptr 7 0),(10,.ptr 10 0),(73,.pv (.sl Sl S.rels.length (aM S.rels))),(74,pIi S.rels.length),(75,pIi i)] [(2,.mix 97 [.pv nS,.pv nS,.pv nS,.pv nS]),(5,.cells 22 (K2.map aj)),(7,.mix 97 [.pv (aW (lsT P k)),.osl 5 1 G.length,.osl 6 1 G.length,.gsl 8 1 M.length]),(8,.gro 3 (aE M)),(9,.cells 3 (aE D2)),(10,.mix 22 [.osl 9 1 G.length])] 12) 6 22 3 (chV (ls)) (ls)).ob (j2+1000)) Vg (cN Vh hj2)) O O Vh Vh Vh Vh Vf) ?_;have hsm2:=y3 (l:=[(4,.ptr 2 0),(7,.ptr 7 0)]) (os:=[(2,.mix 97 [.pv nS,.pv nS,.pv nS,.pv nS]),(5,.cells 22 (K2.map aj)),(7,.mix 97 [.pv (aW (lsT P k)),.osl 5 1 G.length,.osl 6 1 G.length,.gsl 8 1 M.length]),(8,.gro 3 (aE M))]) (k:=12) O O;exact Q4 (St.G6 ls Vh Vf hsm2.1 hsm2.2)<|Q4 (St.CU (id:=6) (cs:=(hsT G.length H i).map aj) O hcp2)<|Wk [(4,.ptr 2 0),(7,.ptr 7 0)] [(2,.mix 97 [.pv nS,.pv nS,.pv nS,.pv nS]),(5,.cells 22 (K2.map aj)),(6,.cells 22 ((hsT G.length H i).map aj)),(7,.mix 97 [.pv (aW (lsT P k)),.osl 5 1 G.length,.osl 6 1 G.length,.gsl 8 1 M.length]),(8,.gro 3 (aE M))] 12 (aS Vg) (aO Vg) O O<|Q4 (Q8 6 O O)<|Q4 (Q8 5 O O)<|Q4 (Q8 8 O O)<|Q4 (St.LZ 7 O)<|Gx O<|Z2 O<|Gt O<|⟨_,_,O,O,⟨az ⟨_,underlying97,O⟩ sz97 O O O,Vm⟩,G,hG,NQ hkP hie hH hM hCS hD2 hK2 hKl⟩
end
section
open Mk Jn
noncomputable def planS(S:Sch):VD:=lK S (ordL S (lstL S)) (gr S)
end
section
open Mk
noncomputable def costN(G:List B64)(rest:B64)(a:Nat):Nat:=keyN G (compB G rest a)+1

theorem H0{x:B64}(d:l.Nodup)(r:∀y∈l,0<=y)(s:∀a:Nat,(a:Int)∈l↔x.getLsbD a=Sm):l.length=ku x:=by
 have t:l.Perm (((List.range 64).filter λi=>x.getLsbD i).map Int.ofNat):=gT d (List.Pairwise.map _ (λa b h e=>h (Int.ofNat.inj e)) (TO SZ List.nodup_range)) λy=>by
  rw[By];constructor
  .intro hy;obtain⟨a,rfl⟩:=Rm (r y hy);have:=(s a).1 hy;exact⟨a,Sj.2 ⟨Si.2 (iO this),this⟩,O⟩
  .rintro⟨a,ha,rfl⟩;exact(s a).2 (Sj.1 ha).2
 rw[t.length_eq,OF];unfold ku;rw[List.countP_eq_length_filter]

end
section
open Mk Jn
set_option autoImplicit false
theorem nV(f:Nat->α):∀(us:List (Nat×α))(D:List α),(∀p∈us,p.2=f p.1)->∀i,i<D.length->(bR D us)[i]? =if i∈us.map (·.1)then Sh (f i)else D[i]?
 |[],D,_,i,_=>by simp[bR]
 | u::us,D,h,i,hi=>by
   have e:bR D (u::us)=bR (D.set u.1 u.2) us:=rfl;rw[e,nV f us _ (λp hp=>h p (by simp[hp])) i (by simpa using hi)];by_cases h1:i∈us.map (·.1)
   .rw[AT h1,AT (by rw[bP];exact RX _ h1)]
   .rw[dt h1];by_cases h2:u.1=i
    .rw[AT (by rw[bP,h2];exact Su ..),TU,AT h2,AT Vf,h u Vj,h2]
    .rw[dt (by rw[bP,AS];rintro(e|e);exact h2 e.symm;exact h1 e),TU,dt h2]
theorem Nt{F:Int->B64}(x:Nat):∀g:B64,(cs.foldl (λz c=>z|||F c) g).getLsbD x=(g.getLsbD x||cs.any λc=>(F c).getLsbD x):=by
 induction cs with
 |nil=>intro g;simp
 |cons c cs ih=>intro g;rw[Tf,ih,BitVec.getLsbD_or,List.any_cons,Bool.or_assoc]
theorem w5(r:UpOk P)(s:v<P.length):(upZ P.length).filter (λa=>decide (a∈cq P v)&&(mL P v).any λb=>fk S a b)=cE S P v:=by
 unfold cE;refine rG ?_ (TO SZ ((PE P.length).imp λh=>Int.le_of_lt h));have d:=(Sx.1 (gj r v s)).2;refine gT (TO SZ (dy _)) (by unfold Ks;exact TO SZ d) λa=>?_
 unfold Ks;rw[Sj,Sj,sh,SA];refine⟨λh=>h.2,λh=>⟨?_,h⟩⟩;obtain⟨x,hx,e,_⟩:=ju r v s a h.1;exact bU.2 ⟨x,hx,e⟩
def AbB(P:List Int)(v:Nat)(ab:B64):Prop:=∀x:Nat,ab.getLsbD x=Sm↔(x:Int)∈cq P v
theorem vN(P:List Int)(G:List B64)(x:Nat):∀(k:Nat)(v:Int),(iA P G k v).getLsbD x=(kj P k v).any λm=>(G.getD m.toNat 0#64).getLsbD x
 |0,v=>by rw[iA,kj];simp
 | k+1,v=>by
   rw[iA,kj,Nt,List.any_cons,List.any_flatMap]
   congr 1
   exact ag (aB P v).any (funext λc=>vN P G x k c)
theorem yp(P:List Int):∀(k:Nat)(v:Int)(ab:B64),(we P k v ab).map (·.1)=(kj P k v).map Int.toNat
 |0,v,ab=>rfl
 | k+1,v,ab=>by
   rw[we,kj,bP,bP,T9,T9]
   congr 1
   exact ag (λf=>List.flatMap f (aB P v)) (funext λc=>yp P k c _)
theorem zg(P:List Int)(G:List B64)(n x:Nat):∀(k:Nat)(v:Int)(ab:B64),x∈(kj P k v).map Int.toNat->x∈(jK P G n k v ab).map (·.1)
 |0,v,ab,h=>by rw[jK];simpa[kj]using h
 | k+1,v,ab,h=>by
   rw[jK,RG,T9,Rx,RN];rw[kj,bP,T9]at h;rcases AS.1 h with h|h
   .right;simp[h]
   .obtain⟨c,hc,h⟩:=RN.1 h;exact .inl ⟨c,hc,zg P G n x k c _ h⟩
section
variable {S:Sch}{P:List Int}(h:OrdOk S P)
include h
theorem n12:P.length<=12:=by rw[h.len];exact h.val.n2
theorem AbB.down{ab:B64}(d:AbB P v ab)(r:v<P.length)(hc:c<P.length)(s:P.getD c 0=(v:Int)):AbB P c (ab|||BitVec.twoPow 64 (v:Int).toNat):=by
 intro x;have t:=n12 h;rw[cK h.iw hc r s,BitVec.getLsbD_or,BitVec.getLsbD_twoPow,Sg,d x,AS];simp only[RH,sh,SA];constructor
 .rintro(h1|⟨_,h1⟩)
  .exact .inr h1
  .exact .inl Vf
 .rintro(h1|h1)
  .exact .inr ⟨Vf,Vf⟩
  .exact .inl h1
theorem AbB.pop{ab:B64}(d:AbB P v ab)(r:v<P.length):ku ab=(cq P v).length:=by
 refine(H0 (Sx.1 (gj h.iw v r)).2 (λy hy=>?_) λa=>(d a).symm).symm;obtain⟨a,_,e,_⟩:=ju h.iw v r y hy;omega
theorem L2:∀(k v:Nat)(ab:B64),v<P.length->AbB P v ab->∀p∈we P k v ab,p.2=((cq P (p.1:Nat)).length:Int)
 | 0,v,ab,hv,hab,p,hp=>by
   rw[we,Rn]at hp;subst hp;show(ku ab:Int)=_;rw[hab.pop h hv];rfl
 | k+1,v,ab,hv,hab,p,hp=>by
   rw[we,AS]at hp;rcases hp with hp|hp
   .subst hp;show(ku ab:Int)=_;rw[hab.pop h hv];rfl
   .obtain⟨c,hc,hp⟩:=RN.1 hp;obtain⟨m,hm,rfl,e⟩:=aZ.1 hc;exact L2 k m _ hm (hab.down h hv hm e) p hp
theorem Fq(s:v<P.length)(z:P.length<=k+1+(cq P v).length){x:Nat}(r:x<P.length):(x:Int)∈kj P k v↔(x:Int)∈mL P v:=by
 have t:ct P k v=ct P (k+1) v:=(nU h.iw k v s z).symm;rw[tr,t,tree_vs,dX,AS];have hc:=jq h.iw (k+1) v (λa ha e=>by rw[cK h.iw ha s (by rw[getD_at ha];exact e),Rk];omega) x r;have d:(v:Int)∈cq P x++[-1]↔(v:Int)∈cq P x:=by
  rw[Rx,Rn];exact⟨λe=>e.resolve_right Vf,.inl⟩
 simp only[d]at hc;constructor
 .rintro(h1|h1)
  .exact⟨⟨x,r,O⟩,.inl h1⟩
  .refine⟨⟨x,r,O⟩,.inr ?_⟩;have:=List.count_pos_iff.2 h1;exact RZ λu=>by rw[dt u]at hc;omega
 .rintro⟨_,h1|h1⟩
  .exact .inl h1
  .rw[AT h1]at hc;exact .inr (List.count_pos_iff.1 Vf)
theorem MJ(d:v<P.length):∀x∈kj P k v,∃m:Nat,m<P.length/\x=(m:Int):=λx hx=>by
 rw[tr]at hx;obtain⟨m,hm,e,_⟩:=zY h.iw k v d x hx;exact⟨m,hm,e⟩
theorem L8{ab:B64}(d:v<P.length)(t:P.length<=k+1+(cq P v).length)(r:AbB P v ab):k9 (iA P (gr S) k v&&&ab) P.length=cE S P v:=by
 rw[<-w5 h.iw d];unfold k9 upZ;rw[List.filter_map]
 congr 1
 apply List.filter_congr;intro x s;have s:=Si.1 s;show _=(decide ((x:Int)∈cq P v)&&(mL P v).any λb=>fk S (x:Int) b);rw[Us,vN];by_cases ha:(x:Int)∈cq P v
 .rw[(r x).2 ha,Ue,Ru ha,UM,RJ,SR,SR];constructor
  .rintro⟨m,hm,hb⟩;obtain⟨m',hm',rfl⟩:=MJ h d m hm;refine⟨_,(Fq h d t hm').1 hm,?_⟩;rw[RH,zP h.val (by rw[<-h.len];exact hm'),sh]at hb;exact n4 hb.2
  .rintro⟨m,hm,hb⟩;obtain⟨⟨m',hm',rfl⟩,h2⟩:=dX.1 hm;refine⟨_,(Fq h d t hm').2 hm,?_⟩;rw[RH,zP h.val (by rw[<-h.len];exact hm'),sh,SA];refine⟨?_,n4 hb⟩;rintro rfl;rcases h2 with h2|h2
   .have:m'=v:=Vf;subst this;exact vq h.iw d ha
   .exact vq h.iw d (kS h.iw d h2 ha)
 .rw[Rv ha,Bool.false_and,Bool.and_eq_false_iff];right
  rw[Bool.eq_false_iff];exact λe=>ha ((r x).1 e)
theorem ET:∀(k v:Nat)(ab:B64),v<P.length->P.length<=k+1+(cq P v).length->AbB P v ab->∀p∈jK P (gr S) P.length k v ab,p.2=cE S P (p.1:Nat)
 | 0,v,ab,hv,hf,hab,p,hp=>by
   rw[jK,Rn]at hp;subst hp;exact L8 h hv hf hab
 | k+1,v,ab,hv,hf,hab,p,hp=>by
   rw[jK,Rx,Rn]at hp;rcases hp with hp|hp
   .obtain⟨c,hc,hp⟩:=RN.1 hp;obtain⟨m,hm,rfl,e⟩:=aZ.1 hc;exact ET k m _ hm (by rw[cK h.iw hm hv e,Rk];omega) (hab.down h hv hm e) p hp
   .subst hp;exact L8 h hv hf hab
omit h in
theorem KE(hc:c<P.length)(e:P.getD c 0= -1):cq P c=[]:=kK hc (by rw[<-getD_at hc];exact e)
omit h in
theorem zi(hc:c<P.length)(e:P.getD c 0= -1):AbB P c 0#64:=λx=>by rw[KE hc e];simp
theorem FW(r:i<P.length):∃c:Nat,c<P.length/\P.getD c 0= -1/\(c:Int)∈aB P (-1)/\i∈(kj P P.length c).map Int.toNat:=by
 have d:(i:Int)∈aL P:=(ca h.iw).mem_iff.2 (bU.2 ⟨i,r,O⟩);rw[<-sB,RN]at d;obtain⟨c,hc,d⟩:=d;obtain⟨m,hm,rfl,e⟩:=aZ.1 hc;exact⟨m,hm,e,hc,By.2 ⟨_,d,O⟩⟩
omit h in
theorem Fb(D l:List Int):∀a∈l,D.getD a.toNat 0<=D.getD (iC D l l.length).toNat 0:=by
 have r:∀(k:List Int)(h0:Int),D.getD h0.toNat 0<=D.getD (k.foldl (λh a=>if D.getD a.toNat 0>D.getD h.toNat 0 then a else h) h0).toNat 0/\∀a∈k,D.getD a.toNat 0<=D.getD (k.foldl (λh a=>if D.getD a.toNat 0>D.getD h.toNat 0 then a else h) h0).toNat 0:=by
  intro k;induction k with
  |nil=>intro h0;exact⟨Int.le_refl _,λa ha=>by cases ha⟩
  | cons x k ih=>
    intro h0;rw[Tf];have d:=ih (if D.getD x.toNat 0>D.getD h0.toNat 0 then x else h0);by_cases hx:D.getD x.toNat 0>D.getD h0.toNat 0
    .rw[AT hx]at d ⊢;refine⟨Int.le_trans (Int.le_of_lt hx) d.1,λa ha=>?_⟩;rcases AS.1 ha with rfl|ha
     .exact d.1
     .exact d.2 a ha
    .rw[dt hx]at d ⊢;refine⟨d.1,λa ha=>?_⟩;rcases AS.1 ha with rfl|ha
     .exact Int.le_trans (Int.not_lt.1 hx) d.1
     .exact d.2 a ha
 intro a ha;unfold iC;rw[T3];exact(r l _).2 a ha
theorem Of{r:ByteArray×List Int}(t:r∈S.rels)(D:List Int)(B:∀i:Nat,i<P.length->D.getD i 0=((cq P (i:Nat)).length:Int)):iC D r.2 r.2.length=jL P r.2:=by
 have d:∀a∈r.2,0<=a/\a<P.length:=by rw[h.len];exact h.val.rng r t
 obtain⟨h1,h2⟩:=mY h.iw (h.val.ne r t) d (h.rt r t);have u:=uX D (h.val.ne r t) r.2.length;rcases h2 _ u with e|e
 .exact e
 .exfalso;have z:=Fb D r.2 _ h1;obtain⟨a,ha⟩:=Rm (d _ u).1;obtain⟨b,hb⟩:=Rm (d _ h1).1;have E:=(d _ u).2;have I:=(d _ h1).2;rw[ha]at E e z;rw[hb]at I e z;have A:a<P.length:=Vf;have s:b<P.length:=Vf;have J:=LX h.iw s e;rw[RH,RH,B a A,B b s]at z;omega
def bg(S:Sch)(P:List Int):VD:=⟨(upZ P.length).map (aB P)++[aB P (-1)],(upZ P.length).map (cE S P),(upZ P.length).map (mw (S.rels.map λr=>jL P r.2) S.rels.length),aL P⟩
theorem Jv:lK S P (gr S)=bg S P:=by
 have d:(gr S).length=P.length:=by rw[zN,h.len]
 have E:∀i:Nat,i<P.length->(bR (List.replicate (gr S).length (0:Int)) ((aB P (-1)).flatMap λc=>we P P.length c 0#64)).getD i 0=((cq P (i:Nat)).length:Int):=by
  intro i hi;rw[Rj,nV (λi=>((cq P (i:Nat)).length:Int)) _ _ (λp hp=>?_) i (by rw[Tp,d];exact hi),AT ?_]
  .rfl
  .obtain⟨c,hc,e,hm,hv⟩:=FW h hi;rw[T9,RN];exact⟨c,hm,by rw[yp];exact hv⟩
  .obtain⟨c,hc,hp⟩:=RN.1 hp;obtain⟨m,hm,rfl,e⟩:=aZ.1 hc;exact L2 h P.length m _ hm (zi hm e) p hp
 have s:(lK S P (gr S)).chs=(bg S P).chs:=by
  show lsT P P.length=_;unfold lsT bg;rw[kD]
  congr 1
  exact Sd λv _=>kD P v
 have t:(lK S P (gr S)).kes=(bg S P).kes:=by
  show bR (List.replicate (gr S).length []) _=(upZ P.length).map (cE S P);apply UI;intro i;by_cases hi:i<P.length
  .rw[nV (λi=>cE S P (i:Nat)) _ _ (λp hp=>?_) i (by rw[Tp,d];exact hi),AT ?_]
   .simp[upZ,hi]
   .obtain⟨c,hc,e,hm,hv⟩:=FW h hi;rw[T9,RN];exact⟨c,hm,zg P _ _ _ _ _ _ hv⟩
   .obtain⟨c,hc,hp⟩:=RN.1 hp;obtain⟨m,hm,rfl,e⟩:=aZ.1 hc;rw[d]at hp;exact ET h P.length m _ hm Vf (zi hm e) p hp
  .rw[SF (by rw[dm,Tp,d];omega),SF (by rw[OF,a6];omega)]
 have u:(lK S P (gr S)).hos=(bg S P).hos:=by
  show hsT (gr S).length (hpL _ S) S.rels.length=_;unfold hsT bg hpL;rw[d]
  congr 2
  exact Sd λr hr=>Of h hr _ (by rw[d]at E;exact E)
 have z:(lK S P (gr S)).wa=(bg S P).wa:=rfl;generalize lK S P (gr S)=A at s t u z;generalize bg S P=B at s t u z;cases A;cases B;simp only at s t u z;rw[s,t,u,z]
end
theorem QX(d:Valid S)(s:S.rels.length<=1000)(t:∀r∈S.rels,r.2.length<=1000):SJn S:=⟨by have:=d.n2;omega,s,t,d.rng⟩
end
section
open Mk Jn
set_option autoImplicit false
def hoL(S:Sch)(P:List Int)(v:Int):List Int:=mw (S.rels.map λr=>jL P r.2) S.rels.length v
theorem rU{v r:Int}:r∈hoL S P v↔∃k:Nat,∃h:k<S.rels.length,r=(k:Int)/\jL P S.rels[k].2=v:=by
 unfold hoL mw;rw[By];constructor
 .rintro⟨k,d,rfl⟩;have s:=Sj.1 d;have d:=Si.1 s.1;have t:=S0.1 s.2;rw[Rj,TD,Hj d]at t;exact⟨k,d,O,t⟩
 .rintro⟨k,d,rfl,e⟩;refine⟨k,Sj.2 ⟨Si.2 d,?_⟩,O⟩;rw[Rj,TD,Hj d];exact S0.2 e



end
section
namespace Vw
open Mm Jn Mk
set_option autoImplicit false
def dZ(A:List Int)(l:List Rw):Prt:=⟨A,l.map λx=>⟨x.v,Gv.whole x.w.toNat⟩⟩
def HM(E:List En):List En:=E.mergeSort λa b=>decide (a.t.data.toList<=b.t.data.toList)
def cW(K:List Int)(E:List En):Prt:=⟨K,(HM E).map λe=>⟨e.v,e.g⟩⟩
theorem cT(E:List En):(HM E).Perm E:=UY _ _
theorem rj(f:Gv->Nat)(K:List Int)(E:List En):(cW K E).tot f=iE f E:=by
 unfold Prt.tot cW iE;simp only[Ta];exact((cT E).map λe=>f e.g).sum_nat
section
variable (S:Sch)(P:List Int)(T:List (List Rw))(lf:Int->ByteArray->Gv)
def cY(r:Int):List Int:=(S.rels.getD r.toNat default).2
def gK(r:Int):List Rw:=T.getD r.toNat []
def fi(f:Int->List En)(v:Int):List Prt:=((hoL S P v).map λr=>dZ (cY S r) (gK T r))++(aB P v).map λc=>cW (cE S P c) (f c)
noncomputable def mkV(f:Int->List En)(v:Int):List En:=viewE (lf v) S.attrs.length v (cE S P v) (fi S P T f v)
noncomputable def vwK:Nat->Int->List En
 |0,v=>mkV S P T lf (λ_=>[]) v
 |k+1,v=>mkV S P T lf (vwK k) v
noncomputable def vwS(v:Int):List En:=vwK S P T lf P.length v
def iS:Nat->Int->List Int
 |0,v=>hoL S P v
 |k+1,v=>hoL S P v++(aB P v).flatMap (iS k)
def wJ(f:Gv->Nat)(r:Int):Nat:=(dZ (cY S r) (gK T r)).tot f
end
section
variable {S:Sch}{P:List Int}{T:List (List Rw)}{lf:Int->ByteArray->Gv}
theorem lh{f g:Int->List En}{v:Int}(h:∀c∈aB P v,f c=g c):mkV S P T lf f v=mkV S P T lf g v:=by
 have e:((aB P v).map λc=>cW (cE S P c) (f c))=(aB P v).map λc=>cW (cE S P c) (g c):=Sd λc hc=>by rw[h c hc]
 unfold mkV fi;rw[e]
theorem Am(d:UpOk P):∀(k:Nat)(v:Nat),v<P.length->P.length<=k+1+(cq P v).length->vwK S P T lf (k+1) v=vwK S P T lf k v
 | 0,v,hv,h=>by
   rw[vwK,vwK];exact lh λc hc=>by rw[iY d hv Vf]at hc;simp at hc
 | k+1,v,hv,h=>by
   rw[vwK,vwK];refine lh λc hc=>?_
   obtain⟨m,hm,rfl,hp⟩:=aZ.1 hc;have e:=cK d hm hv hp;exact Am d k m hm (by rw[e,Rk];omega)
theorem rv(d:UpOk P)(r:v<P.length):vwS S P T lf v=mkV S P T lf (vwS S P T lf) v:=by
 unfold vwS;rw[<-Am d P.length v r Vf,vwK]
theorem eC:∀(k:Nat)(v:Int),iS S P k v=(ct P k v).vs.flatMap (hoL S P)
 |0,v=>by rw[iS,ct,Tr.vs,vsL];simp
 | k+1,v=>by
   rw[iS,ct,Tr.vs,eD,RC,T0,List.flatMap_assoc];rw[show iS S P k=λc=>(ct P k c).vs.flatMap (hoL S P)from funext (eC k)]
theorem lE(f:α->List Nat):∀l:List α,bL (l.flatMap f)=bL (l.map λa=>bL (f a))
 |[]=>rfl
 |a::l=>by rw[RC,cF,bP,bL,lE f l]
theorem wO{f:Gv->Nat}(d:Msr f)(r:∀v t,f (lf v t)=1)(s:f (Gv.whole 1)=1):∀(k:Nat)(v:Int),iE f (vwK S P T lf k v)<=bL ((iS S P k v).map (wJ S T f))
 | 0,v=>by
   rw[vwK,iS];refine IT (uD d (r v) s _ _) ?_;unfold fi;rw[RG,cF,Ta,Ta];have h3:bL ((aB P v).map (Prt.tot f∘λc=>cW (cE S P c) []))<=1^(aB P v).length:=by
    refine jx (BY 1) (λa ha=>?_) Vj;obtain⟨c,_,rfl⟩:=By.1 ha;show(cW (cE S P c) []).tot f<=1;rw[rj];exact cd _
   rw[Nat.one_pow]at h3;exact IT (Ss _ h3) (SQ (R6 _))
 | k+1,v=>by
   rw[vwK,iS,RG,cF,T9,lE];refine IT (uD d (r v) s _ _) ?_;unfold fi;rw[RG,cF,Ta,Ta];refine Sw (SQ O) (lV λc _=>?_);show(cW (cE S P c) (vwK S P T lf k c)).tot f<=_;rw[rj];exact wO d r s k c
theorem yc(d:L.Nodup)(H:List Int):∀k,(L.map λv=>(mw H k v).length).sum<=k
 | 0=>by
   have:∀l:List Int,(l.map λv=>(mw H 0 v).length).sum=0:=λl=>by
    induction l with
    |nil=>rfl
    |cons a l ih=>rw[bP,Se,ih];rfl
   rw[this];exact BY _
 | k+1=>by
   have h:=yc d H k;have e:∀l:List Int,(l.map λv=>(mw H (k+1) v).length).sum=(l.map λv=>(mw H k v).length).sum+l.count (H.getD k 0):=λl=>by
    induction l with
    |nil=>rfl
    | cons a l ih=>
      rw[bP,Se,ih,bP,Se,List.count_cons,k8,IS];generalize H.getD k 0=y;by_cases ha:y=a
      .subst ha;rw[AT O,AT Vj,RD];omega
      .rw[dt ha,dt (by simpa using Ne.symm ha),Tx];omega
   rw[e];have:=List.nodup_iff_count.1 d (H.getD k 0);omega
theorem kR{β:Type}(f:α->List β):∀l:List α,(l.flatMap f).length=(l.map λa=>(f a).length).sum
 |[]=>rfl
 |a::l=>by rw[RC,IS,kR f l,bP,Se]
theorem x3(d:L.Nodup):(L.flatMap (hoL S P)).length<=S.rels.length:=by
 rw[kR];exact yc d _ _
theorem D4:∀{L:List Int},L.Nodup->(∀x∈L,∃a:Nat,a<n/\x=(a:Int))->L.length<=n:=by
 intro L hL hr;have h:=yc hL (upZ n) n;have e:∀l:List Int,(∀x∈l,∃a:Nat,a<n/\x=(a:Int))->l.length<=(l.map λv=>(mw (upZ n) n v).length).sum:=λl=>by
  induction l with
  |nil=>intro _;exact cd _
  | cons x l ih=>
    intro hx;obtain⟨a,ha,rfl⟩:=hx x Vj;have d:=ih λy hy=>hx y (by simp[hy])
    have r:1<=(mw (upZ n) n (a:Int)).length:=by
     refine SS.2 λe=>?_
     have:(a:Int)∈mw (upZ n) n (a:Int):=by
      unfold mw;refine By.2 ⟨a,Sj.2 ⟨Si.2 ha,?_⟩,O⟩;simp[upZ,List.getD,ha]
     rw[e]at this;simp at this
    rw[Rk,bP,Se];omega
 exact IT (e L hr) h
theorem mq(r:UpOk P)(d:v<P.length):(ct P P.length v).vs.Nodup/\∀x∈(ct P P.length v).vs,∃a:Nat,a<P.length/\x=(a:Int):=by
 rw[tree_vs];have s:=tj (P:=P) P.length (v:Int);have t:∀a (ha:a<P.length),P[a]=(v:Int)->P.length+1<=(cq P a).length+P.length:=λa ha e=>by
  have:=cK r ha d (by rw[getD_at ha];exact e);rw[this,Rk];omega
 have hc:=λx (hx:x<P.length)=>jq r P.length (v:Int) t x hx
 refine⟨Sx.2 ⟨λh=>?_,List.nodup_iff_count.2 λx=>?_⟩,λx hx=>?_⟩
 .have h1:=List.count_pos_iff.2 h;rw[hc v d,dt]at h1
  .omega
  .intro h2;rcases Rx.1 h2 with h2|h2
   .exact vq r d h2
   .simp at h2
 .by_cases hx:x∈ki P P.length (v:Int)
  .obtain⟨a,ha,rfl⟩:=s x hx;rw[hc a ha];split<;>omega
  .rw[List.count_eq_zero.2 hx];omega
 .rcases AS.1 hx with rfl|hx
  .exact⟨v,d,O⟩
  .exact s x hx
theorem Dq(d:UpOk P){f:Gv->Nat}(s:Msr f)(u:∀v t,f (lf v t)=1)(z:f (Gv.whole 1)=1)(A:1<=M)(B:∀r,wJ S T f r<=M)(E:v<P.length):iE f (vwS S P T lf v)<=M^S.rels.length:=by
 refine IT (wO s u z _ _) (jx A (λa ha=>?_) ?_)
 .obtain⟨r,_,rfl⟩:=By.1 ha;exact B r
 .rw[OF,eC];exact x3 (mq d E).1
theorem Gb(d:UpOk P){f:Gv->Nat}(s:Msr f)(u:∀v t,f (lf v t)=1)(z:f (Gv.whole 1)=1)(A:1<=M)(B:∀r,wJ S T f r<=M):bL ((aB P (-1)).map λr=>iE f (vwS S P T lf r))<=M^S.rels.length:=by
 refine IT (lV λr _=>wO s u z P.length r) ?_;rw[<-lE,<-T9];refine jx A (λa ha=>?_) ?_
 .obtain⟨r,_,rfl⟩:=By.1 ha;exact B r
 .rw[OF];have e:(aB P (-1)).flatMap (iS S P P.length)=(aL P).flatMap (hoL S P):=by
   rw[<-pJ,eD,T0,List.flatMap_assoc];rw[show iS S P P.length=λc=>(ct P P.length c).vs.flatMap (hoL S P)from funext (eC _)]
  rw[e];exact x3 ((ca d).nodup_iff.2 (dy _))
theorem QL(s:∀v t,(lf v t).k<=1):∀(k:Nat)(v:Int),∀e∈vwK S P T lf k v,e.g.k<=(ct P k v).vs.length:=by
 have d:∀(f:Int->List En)(v:Int)(b:Int->Nat),(∀c∈aB P v,∀e∈f c,e.g.k<=b c)->∀e∈mkV S P T lf f v,e.g.k<=((aB P v).map b).sum+1:=by
  intro f v b hb;refine gh (I:=λe=>e.g.k<=((aB P v).map b).sum+1) (λx y hx hy t=>Nat.max_le.2 ⟨hx,hy⟩) _ (λ_ h=>absurd h Vj) λl hl=>?_
  have u:=AU l hl;have z:=s v (l.1.v.getD v.toNat ⟨#[]⟩);have A:((fi S P T f v).map Prt.km).sum<=((aB P v).map b).sum:=by
   unfold fi;rw[RG,List.sum_append,Ta,Ta];have B:((hoL S P v).map (Prt.km∘λr=>dZ (cY S r) (gK T r))).sum<=((hoL S P v).map λ_=>0).sum:=uV λr _=>Mi λi hi=>by
    obtain⟨x,_,rfl⟩:=By.1 hi;exact BY _
   have E:((hoL S P v).map λ_=>0).sum=0:=by
    generalize hoL S P v=l;induction l with
    |nil=>rfl
    |cons a l ih=>rw[bP,Se,ih]
   have J:((aB P v).map (Prt.km∘λc=>cW (cE S P c) (f c))).sum<=((aB P v).map b).sum:=uV λc hc=>Mi λi hi=>by
    obtain⟨x,hx,rfl⟩:=By.1 hi;exact hb c hc x ((cT _).mem_iff.1 hx)
   omega
  have V:(Gv.whole 1).k=0:=rfl;show l.2.k+(lf v _).k<=_;omega
 intro k;induction k with
 | zero=>
   intro v e he;have:=d (λ_=>[]) v (λ_=>0) (λ_ _ _ h=>absurd h Vj) e (by rw[vwK]at he;exact he);have W:((aB P v).map λ_=>0).sum=0:=by
    generalize aB P v=l;induction l with
    |nil=>rfl
    |cons a l ih=>rw[bP,Se,ih]
   rw[ct,Tr.vs,vsL];simp only[RD];omega
 | succ k ih=>
   intro v e he;have:=d (vwK S P T lf k) v (λc=>(ct P k c).vs.length) (λc _ e he=>ih c e he) e (by rw[vwK]at he;exact he);rw[ct,Tr.vs,eD,T0,Rk,kR];exact this
theorem vwS_k(d:UpOk P)(r:∀v t,(lf v t).k<=1)(s:v<P.length):∀e∈vwS S P T lf v,e.g.k<=P.length:=λe he=>by
 obtain⟨h2,h3⟩:=mq d s;exact IT (QL r _ _ e he) (D4 h2 h3)
end
end Vw
end
section
open Go.RowKit Mk Jn Mm Vw
theorem Jm[Inhabited α](enc:α->Value)(w:World)(b n:Nat)(d:Array α)(os:Array Obj)(t:b<w.heap.size):SrtW (λx=>[enc x]) b w (Go.Sort.grow (Go.Sort.putRow enc (Go.Sort.ahead w n) b 0 d) os) d.toList:=by
 have r:(Go.Sort.grow (Go.Sort.putRow enc (Go.Sort.ahead w n) b 0 d) os).heap=(w.heap.modify b (Go.Sort.onCells (Go.Sort.putCells enc 0 d)))++os:=rfl;have s:(d.toList.flatMap λx=>[enc x])=d.toList.map enc:=by rw[UZ]
 refine⟨O,O,O,?_,λj hj hne=>?_,λarr ty fz h hle=>?_⟩
 .rw[r];simp
 .rw[r,Ui (by simpa using hj),TQ,dt (Ne.symm hne)]
 .refine⟨Go.Sort.putCells enc 0 d arr,?_,by simp[Go.Sort.putCells],?_⟩
  .rw[r,Ui (by simpa using t),TQ,AT O,h];rfl
  .rw[s]at hle ⊢;apply SO
   .simp[Go.Sort.putCells]at hle ⊢; omega
   .intro i h1 h2;simp only[OF,RE]at h2 hle;simp only[List.getElem_take,Array.getElem_toList,Go.Sort.putCells,Array.getElem_mapIdx,SE];rw[AT ⟨cd _,Vf⟩,UU,getElem!_pos d i h2]
theorem xX(l:List ByteArray):vZ l=bD l:=(UZ ..).symm
theorem K9{a b:ByteArray}:leS a b↔a.data.toList<=b.data.toList:=by
 unfold leS ltS;exact List.not_lt
theorem Hw{enc:List UInt8->Value}{w:World}{arr:Array Value}{ty:TypeId}{ds:List (List UInt8)}(s:w.heap[b]? =Sh (.cells arr ty (0,0)))(h:arr.toList.take (ds.flatMap λx=>[enc x]).length=ds.flatMap λx=>[enc x]):Go.Sort.Holds enc w b 0 ds.toArray:=by
 have d:(ds.flatMap λx=>[enc x])=ds.map enc:=by rw[UZ]
 rw[d]at h;intro j hj;rw[RB]at hj;have r:(arr.toList.take (ds.map enc).length)[j]? =(ds.map enc)[j]? :=by rw[h]
 rw[Ry,AT (by simpa using hj),UR,TD,Hj hj]at r;constructor
 .simp only[World.cell?,s,RV];rw[r,getElem!_pos ds.toArray j (by simpa using hj)];simp
 .simp[World.frozen?,s]
theorem uQ(l:List ByteArray)(E:l.length<=1000000):FnO prog 344 1 0 [.gsl big 1 l.length] [(big,.gro 9 (vZ l))] (λv ob'=>v= .tup []/\ob'=ax [(big,.gro 9 (vZ (p8 l)))]):=by
 intro w m R us hR hrel;simp only[RelL,Rel]at hrel;obtain⟨u1,us1,rfl,⟨_,A,c,rfl,hnc,hcm,h0,h1⟩,rfl⟩:=hrel;refine(kY (α:=List UInt8) (λx=>[Go.Proofs.encStr x]) (λ_=>rfl) Py (λ_=>rfl) Vh (λx=>⟨x.toArray⟩) (λd=>d.Pairwise λa b=>a<=b) List.Pairwise.nil hR (λh=>(h0 h).1) h1 (λus h=>?_) (λw' _ d=>?_)
  (Tryz.slices_Sort_string_none Sl c w) ?_).mono ?_
 .refine⟨l.map (·.data.toList),by rw[Ta];exact(Sd λx _=>rfl).trans (U7 l),?_⟩;have t:RelPL w R.p (bD l) us:=by
   rw[<-xX];exact h
  rw[nW t,T0,UZ]
 .have e:((d.map λx=>(⟨x.toArray⟩:ByteArray)).flatMap Py)=bD (d.map λx=>(⟨x.toArray⟩:ByteArray)):=xX _;have B:(d.flatMap λx=>[Go.Proofs.encStr x])=(d.map λx=>(⟨x.toArray⟩:ByteArray)).map Value.string:=by rw[Ta,UZ];rfl
  rw[e,B];exact Ij _
 .intro b d arr hds hpos hb ht hbs hbR;have z:d.length=l.length:=by rw[<-hds,OF]
  have s:=Tryz.slices_Sort_string b 0 c d w (Hw hb ht) hbs Vf;rw[z]at s;refine Calls.mono s ?_;rintro e w' ⟨rfl,n,os,rfl⟩;refine⟨O,d.mergeSort λx y=>decide (x<=y),UY _ _,?_,Jm Go.Proofs.encStr w b n _ os hbs⟩;have:=Uz (le:=λa b:List UInt8=>decide (a<=b)) (by intro a b c h1 t;simp only[Rt]at *; exact List.le_trans h1 t) (by intro a b;simp only[Sg,Rt];exact List.le_total a b) d;exact this.imp Vj
 .rintro e w' ⟨u,v,ob',m',R',rfl,⟨l',ds',hp,rfl,hs,rfl,rfl⟩,r⟩;refine⟨u,_,_,m',R',O,⟨O,?_⟩,r⟩;have e:ds'.map (λx=>(⟨x.toArray⟩:ByteArray))=p8 l:=by
   refine tz hp ?_;rw[SM];exact hs.imp fun{a b} h=>K9.2 (by simpa using h)
  rw[e];rfl
theorem wG(ks vs:List PV):FnP prog 288 [.mp ks vs] (· = .fn (.func 345) [] [.rp [.mp ks vs] 0]):=by
 refine FnP.of func288 O ntmps288 Vj λm0 w0 F R0=>?_
 exact Z2 O<|Q4 (St.fG 0 O O)<|Z2 O<|Gt O<|⟨_,_,O,O,O⟩
theorem uz(xs:List ByteArray)(vs:List PV)(z:xs.length<=1000000):
  FnP prog 287 [.fn (.func 345) [] [.rp [.mp (xs.map PV.str) vs] 0]] (· =a7 (p8 xs)):=by
 have d:=Fx xs vs z;refine FnP.of func287 O ntmps287 Vj λm0 w0 F R0=>?_
 refine Z1 O<|Z1 O<|RL.call O (bM [] 0 call343 O O O O (by exact trivial) Vh O d ?_);rintro _ _ ⟨ss,hS,rfl,rfl⟩;refine A1 O ?_;have s:ss.length<=1000000:=by rw[hS.length_eq];exact z
 have t:=uQ ss s;refine Z1 O<|RL.call O (bM [0] 1 call344 O O O O (by exact⟨Vg,Vm⟩) Vh O t ?_);rintro _ _ ⟨rfl,rfl⟩;have r:p8 ss=p8 xs:=tz ((lA ss).trans hS) (mz ss);have u:ss.length=(p8 xs).length:=by rw[<-r,(lA ss).length_eq]
 rw[r,u];exact Z2 O<|Gt O<|⟨_,_,O,O,by show PV.sl Sl _ (vZ _)=_;rw[xX]⟩
end
section
namespace Vw
open Mm Jn Mk
set_option autoImplicit false
section
variable {Q:List Par}{X:Nat->List ByteArray}
structure VX(X:Nat->List ByteArray)(A:List Int)(V:List ByteArray):Prop where
 len:V.length=A.length
 x:∀j (h:j<V.length) (h':j<A.length),V[j]∈X A[j].toNat
structure ChX(n:Nat)(X:Nat->List ByteArray)(x:Ch):Prop where
 v:x.v.length=n
 s:x.s.length=n
 x:∀a,x.v.getD a ⟨#[]⟩∈X a
theorem QT(d:∀a,(⟨#[]⟩:ByteArray)∈X a):ChX n X (ch0 n):=by
 refine⟨by simp[ch0],by simp[ch0],λa=>?_⟩;have:(ch0 n).v.getD a ⟨#[]⟩=⟨#[]⟩:=by
  simp only[ch0,Rj,List.getElem?_replicate];split<;>rfl
 rw[this];exact d a
theorem E3:∀{A:List Int}{V:List ByteArray}{x:Ch},VX X A V->ChX n X x->ChX n X (pR x A V)
 |[],V,x,_,h=>h
 |a::A,[],x,hv,_=>absurd hv.len Vj
 | a::A,t::V,x,hv,h=>by
   show ChX n X (pR (rO x (a,t)) A V);refine E3 ⟨by have:=hv.len;simpa using this,λj h1 h2=>?_⟩ ⟨by simpa[rO]using h.v,by simpa[rO]using h.s,λb=>?_⟩
   .have:=hv.x (j+1) (by simpa using h1) (by simpa using h2);simpa using this
   .have h3:=hv.x 0 Vj Vj;simp only[List.getElem_cons_zero]at h3;simp only[rO,Rj,TU];split
    .rename_i e;subst e;split
     .exact h3
     .have h4:=h.x a.toNat
      rename_i h5;rw[Rj,SF Vf]at h4;exact h4
    .have h4:=h.x b;rw[Rj]at h4;exact h4
structure ItX(Q:List Par)(X:Nat->List ByteArray)(A:List Int)(V:List ByteArray)(g:Gv):Prop where
 ok:GvOk Q g
 n:1<=g.n
 v:VX X A V
abbrev PtX(Q:List Par)(X:Nat->List ByteArray)(p:Prt):Prop:=∀i∈p.is,ItX Q X p.a i.v i.g
theorem Nh{x:Ch}(h:ChX n X x):VX X K (iD K x):=
 ⟨by simp[iD],λj h1 h2=>by simp only[iD,SE];exact h.x _⟩
theorem Az{ps:List Prt}(d:∀p∈ps,PtX Q X p){x:Ch}{g:Gv}(r:ChX n X x)(s:GvOk Q g)(t:1<=g.n):∀l∈leaves ps x g,ChX n X l.1/\GvOk Q l.2/\1<=l.2.n:=
 A7 (I:=λx g=>ChX n X x/\GvOk Q g/\1<=g.n) ⟨r,s,t⟩ λp hpp i hi x g h _=>⟨E3 (d p hpp i hi).v h.1,h.2.1.mul (d p hpp i hi).ok,Sw h.2.2 (d p hpp i hi).n⟩
structure LfX(Q:List Par)(X:Nat->List ByteArray)(lf:Int->ByteArray->Gv):Prop where
 g:∀v t,t∈X v.toNat->GvOk Q (lf v t)
 n:∀v t,(lf v t).n=1
 w:∀v t,(lf v t).w=1
 k:∀v t,(lf v t).k=1
 x0:∀a,(⟨#[]⟩:ByteArray)∈X a
theorem Ez{lf:Int->ByteArray->Gv}(d:LfX Q X lf){v:Int}{ps:List Prt}(r:∀p∈ps,PtX Q X p):∀e∈viewE (lf v) n v K ps,ItX Q X K e.v e.g:=by
 refine gh (I:=λe=>ItX Q X K e.v e.g) (λx y hx hy t=>⟨hx.ok.add hy.ok,IT hx.n (TH _ _),hx.v⟩) _ (λ_ h=>absurd h Vj) λl hll=>?_
 obtain⟨h1,h2,h3⟩:=Az r (QT (n:=n) d.x0) (GvOk.whole Q 1) (BY 1) l hll;refine⟨h2.mul (d.g _ _ (h1.x _)),?_,Nh h1⟩;show 1<=l.2.n*(lf v _).n;rw[d.n];omega
section
variable {S:Sch}{P:List Int}{T:List (List Rw)}{lf:Int->ByteArray->Gv}
def TbX(X:Nat->List ByteArray)(S:Sch)(T:List (List Rw)):Prop:=∀r:Int,∀x∈gK T r,VX X (cY S r) x.v
theorem Pz(d:TbX X S T)(r:Int):PtX Q X (dZ (cY S r) (gK T r)):=λi hi=>by
 obtain⟨x,hx,rfl⟩:=By.1 hi;exact⟨GvOk.whole Q _,BY 1,d r x hx⟩
theorem Qf{E:List En}(h:∀e∈E,ItX Q X K e.v e.g):PtX Q X (cW K E):=λi hi=>by
 obtain⟨e,he,rfl⟩:=By.1 hi;exact h e ((cT E).mem_iff.1 he)
theorem xM(d:TbX X S T){f:Int->List En}{v:Int}(s:∀c∈aB P v,∀e∈f c,ItX Q X (cE S P c) e.v e.g):∀p∈fi S P T f v,PtX Q X p:=λp hp=>by
 rcases Rx.1 hp with hp|hp
 .obtain⟨r,_,rfl⟩:=By.1 hp;exact Pz d r
 .obtain⟨c,hc,rfl⟩:=By.1 hp;exact Qf (s c hc)
theorem PO(hl:LfX Q X lf)(hT:TbX X S T):∀(k:Nat)(v:Int),∀e∈vwK S P T lf k v,ItX Q X (cE S P v) e.v e.g
 |0,v=>by rw[vwK];exact Ez hl (xM hT λ_ _ _ h=>absurd h Vj)
 |k+1,v=>by rw[vwK];exact Ez hl (xM hT λc _=>PO hl hT k c)
theorem M6(d:LfX Q X lf)(r:TbX X S T)(v:Int):∀e∈vwS S P T lf v,ItX Q X (cE S P v) e.v e.g:=PO d r _ v
theorem L1(f:Int->List En)(v:Int):EnOk (mkV S P T lf f v):=yn _ EnOk.nil
theorem QZ:∀(k:Nat)(v:Int),EnOk (vwK S P T lf k v)
 |0,v=>by rw[vwK];exact L1 _ v
 |k+1,v=>by rw[vwK];exact L1 _ v
theorem yR(v:Int):EnOk (vwS S P T lf v):=QZ _ v
def getV(vs:List (Option (List En)))(c:Int):List En:=(vs.getD c.toNat Sl).getD []
noncomputable def bldS(S:Sch)(P:List Int)(T:List (List Rw))(lf:Int->ByteArray->Gv)(vs:List (Option (List En)))(v:Int):List (Option (List En)):=vs.set v.toNat (Sh (mkV S P T lf (getV vs) v))
noncomputable def stV(S:Sch)(P:List Int)(T:List (List Rw))(lf:Int->ByteArray->Gv)(D:List Int):List (Option (List En)):=(List.range P.length).map λa:Nat=>if(a:Int)∈D then Sh (vwS S P T lf a)else Sl
theorem FE(D:List Int):(stV S P T lf D).length=P.length:=by simp[stV]
theorem zk(h:a<(stV S P T lf D).length):(stV S P T lf D)[a]=if(a:Int)∈D then Sh (vwS S P T lf a)else Sl:=by simp[stV]
theorem C3(d:a<P.length)(h:(a:Int)∈D):getV (stV S P T lf D) a=vwS S P T lf a:=by
 unfold getV;rw[Rj,RH,Hj (by rw[FE];exact d),zk,AT h];rfl
theorem zy(u:UpOk P)(E:i<(aL P).length):bldS S P T lf (stV S P T lf ((aL P).drop (i+1))) (aL P)[i]=stV S P T lf ((aL P).drop i)/\∀c∈aB P (aL P)[i],c∈(aL P).drop (i+1):=by
 have I:(aL P).Nodup:=(ca u).nodup_iff.2 (dy _);obtain⟨v,hv,e⟩:∃v:Nat,v<P.length/\(aL P)[i]=(v:Int):=by
  have:=(ca u).mem_iff.1 (au E);exact bU.1 this
 have t:∀c∈aB P (aL P)[i],c∈(aL P).drop (i+1):=by
  intro c hc;rw[e]at hc;obtain⟨m,hm,rfl,hp⟩:=aZ.1 hc;have z:(m:Int)∈aL P:=(ca u).mem_iff.2 (bU.2 ⟨m,hm,O⟩);obtain⟨j,hj,ej⟩:=Sp z;have r:=(Ox u hj).2;rw[ej,RH,hp]at r;rcases r with r|r
  .omega
  .obtain⟨l,hl,el⟩:=Tg.1 r;have:l=i:=by
    have J:(aL P)[l]'Vf=(aL P)[i]:=by rw[el,e]
    exact(List.getElem_inj I).1 J
   rw[List.mem_drop_iff_getElem];obtain⟨d,rfl⟩:∃d,j=i+1+d:=⟨j-(i+1),Vf⟩;exact⟨d,Vf,ej⟩
 refine⟨?_,t⟩;have s:(aL P).drop i=(aL P)[i]::(aL P).drop (i+1):=RF E;have A:mkV S P T lf (getV (stV S P T lf ((aL P).drop (i+1)))) (v:Int)=vwS S P T lf v:=by
  rw[rv u hv];refine lh λc hc=>?_
  have B:=t c (by rw[e];exact hc);obtain⟨m,hm,rfl,_⟩:=aZ.1 hc;exact C3 hm B
 unfold bldS;rw[e,A,s,e,RH];apply SO
 .simp[stV]
 .intro a B r;rw[zk r,U4];by_cases hav:v=a
  .subst hav;simp
  .rw[dt hav,zk (by simpa[stV]using B)];have:((a:Int)∈(v:Int)::(aL P).drop (i+1))↔(a:Int)∈(aL P).drop (i+1):=by
    simp only[AS];exact⟨λh=>h.elim (λh=>absurd h Vf) id,.inr⟩
   simp only[this]
theorem QQ(d:UpOk P)(r:i<(aL P).length)(e:(aL P)[i]=(v:Int)):(stV S P T lf ((aL P).drop (i+1))).set v (Sh (vwS S P T lf v))=stV S P T lf ((aL P).drop i):=by
 obtain⟨h1,h2⟩:=zy (S:=S) (T:=T) (lf:=lf) d r;rw[<-h1];have s:v<P.length:=by
  have:=(ca d).mem_iff.1 (au r);obtain⟨w,hw,e2⟩:=bU.1 this;omega
 unfold bldS;rw[e,RH,rv d s]
 congr 2
 refine lh λc hc=>?_
 have t:=h2 c (by rw[e];exact hc);obtain⟨m,hm,rfl,_⟩:=aZ.1 hc;exact(C3 hm t).symm
theorem MG(d:UpOk P):stV S P T lf (aL P)=(List.range P.length).map λa:Nat=>Sh (vwS S P T lf a):=by
 unfold stV;refine Sd λa ha=>AT ?_
 exact(ca d).mem_iff.2 (bU.2 ⟨a,Si.1 ha,O⟩)
def iy(E:List En):List En:=E.mergeSort λa b=> !br b.v a.v
theorem fa(E:List En):(iy E).Perm E:=UY _ _
theorem BG{a b:List ByteArray}(h:br a b=Sm):br b a=S1:=by
 cases h2:br b a with
 |false=>rfl
 |true=>have:=eZ h h2;rw[mu]at this;cases this
theorem NV(E:List En):(iy E).Pairwise λa b=>br b.v a.v=S1:=by
 have h:=Uz (le:=λa b:En=> !br b.v a.v) (λa b c h1 h2=>?_) (λa b=>?_) E
 .exact h.imp fun{a b} h=>by simpa using h
 .simp only[TB]at*;cases h3:br c.v a.v with
  |false=>rfl
  | true=>
    cases h4:br b.v c.v with
    |true=>rw[eZ h4 h3]at h1;cases h1
    |false=>rw[kM h2 h4]at h3;rw[h3]at h1;cases h1
 .cases h1:br b.v a.v with
  |false=>rfl
  |true=>rw[BG h1];rfl
theorem EnOk.vnd{E:List En}(h:EnOk E):E.Pairwise λa b=>a.v≠b.v:=by
 have:=h.nd;rw[List.Nodup,SM]at this;refine List.Pairwise.imp_of_mem (fun{a b} ha hb hne e=>hne ?_) this;rw[h.t a ha,h.t b hb,e]
theorem qw:∀{l m:List En},(l.Pairwise λa b=>br b.v a.v=S1)->(m.Pairwise λa b=>br b.v a.v=S1)->(l.Pairwise λa b=>a.v≠b.v)->l.Perm m->l=m
 |[],m,_,_,_,hp=>List.Perm.nil_eq hp
 |x::l,[],_,_,_,hp=>absurd hp.length_eq Vj
 | x::l,y::m,h1,h2,h3,hp=>by
   obtain⟨a1,a2⟩:=Sa.1 h1;obtain⟨b1,b2⟩:=Sa.1 h2;obtain⟨c1,c2⟩:=Sa.1 h3;have d:x=y:=by
    rcases AS.1 (hp.mem_iff.1 (Su))with e|hx
    .exact e
    .rcases AS.1 (hp.mem_iff.2 (Su))with e|hy
     .exact e.symm
     .exact absurd (kM (b1 x hx) (a1 y hy)) (c1 y hy)
   subst d;rw[qw a2 b2 c2 (List.Perm.cons_inv hp)]
theorem MN{E l:List En}(h:EnOk E)(d:l.Perm E)(r:l.Pairwise λa b=>br b.v a.v=S1):l=iy E:=
 qw r (NV E) (d.symm.pairwise h.vnd λh e=>h e.symm) (d.trans (fa E).symm)
def gz:Gv:=⟨Mm.Sem.zero,0,0,0⟩
theorem PI(Q:List Par):GvOk Q gz:=by
 have h:Mm.Sem.zero=cnt (0:Nat):=Mm.Sem.same (by show(0:Rat)=(((0:Nat):Int):Rat);rfl) (λ_=>rfl) (λ_ _=>rfl);refine⟨?_,?_⟩
 .show SOk 0 0 Mm.Sem.zero;rw[h];exact lY 0
 .show Sup Q Mm.Sem.zero;rw[h];exact Sup.cnt Q _
def atV(E:List En)(key:List ByteArray):Gv:=((E.find? λe=>decide (e.v=key)).map (·.g)).getD gz
theorem Qn{E:List En}{Q:List Par}(h:∀e∈E,GvOk Q e.g)(key:List ByteArray):GvOk Q (atV E key):=by
 unfold atV;cases he:E.find? λe=>decide (e.v=key)with
 |none=>exact PI Q
 |some e=>exact h e (T5 he)
theorem Mv{f:Gv->Nat}(d:f gz=0)(E:List En)(key:List ByteArray):f (atV E key)<=iE f E:=by
 unfold atV;cases he:E.find? λe=>decide (e.v=key)with
 |none=>show f gz<=_;rw[d];exact cd _
 |some e=>exact w6 (T5 he)
noncomputable def totF(S:Sch)(P:List Int)(T:List (List Rw))(lf:Int->ByteArray->Gv)(rs:List Int)(z:Gv):Gv:=rs.foldl (λz r=>z.mul (atV (iy (vwS S P T lf r)) [])) z
noncomputable def totV(S:Sch)(P:List Int)(T:List (List Rw))(lf:Int->ByteArray->Gv):Gv:=totF S P T lf (aB P (-1)) (Gv.whole 1)
theorem yI{f:Gv->Nat}(d:Msr f)(s:f gz=0):∀{rs:List Int}{z:Gv},f (totF S P T lf rs z)<=f z*bL (rs.map λr=>iE f (vwS S P T lf r))
 |[],z=>by show f z<=f z*1;omega
 | r::rs,z=>by
   show f (totF S P T lf rs (z.mul (atV (iy (vwS S P T lf r)) [])))<=_;refine IT (yI d s (rs:=rs)) ?_;rw[d.mul,bP,bL,<-Tj];refine SV _ (Ss _ ?_);refine IT (Mv s _ _) (SQ ?_);exact((fa _).map λe=>f e.g).sum_nat
theorem Lg:∀{rs:List Int}{z:Gv}(b:Int->Nat),(∀r∈rs,∀e∈vwS S P T lf r,e.g.k<=b r)->(totF S P T lf rs z).k<=z.k+(rs.map b).sum
 |[],z,b,_=>by show z.k<=z.k+0;omega
 | r::rs,z,b,h=>by
   show(totF S P T lf rs (z.mul (atV (iy (vwS S P T lf r)) []))).k<=_;refine IT (Lg (rs:=rs) b λq hq=>h q (by simp[hq])) ?_;have d:(atV (iy (vwS S P T lf r)) []).k<=b r:=by
    unfold atV;cases he:(iy (vwS S P T lf r)).find? λe=>decide (e.v=[])with
    |none=>exact cd _
    |some e=>exact h r Vj e ((fa _).mem_iff.1 (T5 he))
   show z.k+(atV _ []).k+_<=_;rw[bP,Se];omega
theorem Pq(d:UpOk P)(s:∀v t,(lf v t).k<=1):(totV S P T lf).k<=P.length:=by
 have h:=Lg (S:=S) (P:=P) (T:=T) (lf:=lf) (rs:=aB P (-1)) (z:=Gv.whole 1) (λr=>(ct P P.length r).vs.length) (λr _ e he=>QL s _ r e he);have e:((aB P (-1)).map λr=>(ct P P.length r).vs.length).sum=(aL P).length:=by
  rw[<-pJ,eD,T0,kR]
 rw[e,(ca d).length_eq,a6]at h;have u:(Gv.whole 1).k=0:=rfl;unfold totV;omega
end
end
end Vw
end
section
section
variable {w:World}{m:Gm}{av:Av}{R:Nat->Prop}
theorem AD:∀(ps:List V)(vs:List Value)(k t:Nat),RelL w m av R ps vs->k<=t->∀z:Value,Rel w m av R (look (cU k ps) t) (vs[t-k]?.getD z)
 |[],vs,k,t,_,_,z=>by simp only[cU,look,Rel,RelP]
 | p::ps,vs,k,t,hr,hk,z=>by
   simp only[RelL]at hr;obtain⟨u,vs',rfl,h1,h2⟩:=hr;simp only[cU,look];by_cases e:t=k
   .subst e;simp only[Ug,Sy,Ux];simpa using h1
   .have hb:Nat.beq t k=S1:=by cases hb:Nat.beq t k;rfl;exact absurd (aJ hb) e
    rw[hb];have:=AD ps vs' (k+1) t h2 Vf z;have d:t-k=(t-(k+1))+1:=Vf;rw[d];simpa using this
theorem zH:∀(ps:List V)(vs:List Value)(k:Nat),ps.length=vs.length->(∀t,k<=t->t<k+vs.length->∀z:Value,Rel w m av R (look (cU k ps) t) (vs[t-k]?.getD z))->RelL w m av R ps vs
 |[],[],_,_,_=>by simp only[RelL]
 |[],v::vs,_,h,_=>by simp at h
 |p::ps,[],_,h,_=>by simp at h
 | p::ps,v::vs,k,h,hs=>by
   refine RelL.cons ?_ (zH ps vs (k+1) (by simpa using h) λt h1 h2 z=>?_)
   .have:=hs k (BY _) Vj v;simpa[cU,look]using this
   .have:=hs t Vf Vk z;have d:Nat.beq t k=S1:=by cases d:Nat.beq t k;rfl;have:=aJ d;omega
    simp only[cU,look,d,RR]at this;have r:t-k=(t-(k+1))+1:=Vf;rw[r]at this;simpa using this
end
theorem DT{k':Nat}(d:k<=k1)(h:okR k k' i=Sm):okR k1 k' i=Sm:=by
 unfold okR at*;simp only[Sg,sh]at h ⊢;rcases h with h|⟨h1,h2⟩
 .exact .inl h
 .refine .inr ⟨h1,?_⟩;have:i<big+k:=Rz h2;exact TP (by omega:i+1<=big+k1)
mutual
theorem V.yz(h:∀i,p i=Sm->q i=Sm):∀v:V,v.all p=Sm->v.all q=Sm
 | .pv _,_=>rfl
 | .ptr i _,hv=>h i hv
 | .osl i _ _,hv=>h i hv
 | .tsl i _ _,hv=>h i hv
 | .gsl i _ _,hv=>h i hv
 | .map i,hv=>h i hv
 | .agg vs,hv=>V.allL_up h vs hv
 | .tup vs,hv=>V.allL_up h vs hv
 | .fn _ a b,hv=>by
   simp only[V.all,sh]at hv ⊢;exact⟨V.allL_up h a hv.1,V.allL_up h b hv.2⟩
theorem V.allL_up(h:∀i,p i=Sm->q i=Sm):∀vs:List V,V.allL p vs=Sm->V.allL q vs=Sm
 |[],_=>rfl
 | v::vs,hv=>by
   simp only[V.allL,sh]at hv ⊢;exact⟨V.yz h v hv.1,V.allL_up h vs hv.2⟩
end
theorem Ob.yz(h:∀i,p i=Sm->q i=Sm):∀o:Ob,o.all p=Sm->o.all q=Sm
 | .mix _ vs,hv=>V.allL_up h vs hv
 | .cells _ _,_=>rfl
 | .gro _ _,_=>rfl
 | .mp _ _,_=>rfl
 | .it _ _,_=>rfl
 | .fro _ _,_=>rfl
 | .mi _ _ _,_=>rfl
theorem St.AF{σ τ:St}(r:σ.ob=τ.ob)(d:σ.av=τ.av)(s:∀t w m R u,Rel w m σ.av R (σ.sl t) u->Rel w m σ.av R (τ.sl t) u):σ.le τ:=by
 rintro C n a w ⟨m,R,hw⟩;refine⟨m,R,⟨?_,hw.df,hw.sz,λt ht=>?_⟩⟩
 .have:=hw.hr;rw[r,d]at this;exact this
 .rw[<-d];exact s t w m R _ (hw.sl t ht)
def St.setSl(σ:St)(t:Nat)(v:V):St:=⟨λi=>bif Nat.beq i t then v else σ.sl i,σ.ob,σ.av⟩
theorem St.P2{σ:St}{f:Fn}{fs cs:List PV}(t:Nat)(h:σ.sl t= .fn f (fs.map V.pv) (cs.map V.pv)):σ.le (σ.setSl t (.pv (.fn f fs cs))):=by
 refine St.AF O O λi w m R u hu=>?_
 show Rel w m σ.av R (bif Nat.beq i t then _ else σ.sl i) u;cases hb:Nat.beq i t with
 |false=>exact hu
 | true=>
   obtain rfl:=aJ hb;rw[h]at hu;simp only[Sy,Rel,RelP]at hu ⊢;obtain⟨us,vs,rfl,h1,h2⟩:=hu;exact⟨us,vs,O,h1.toP,h2.toP⟩
theorem FnO.weak{P:Program}{f:FuncId}{k':Nat}{args args1:List V}{os os1:List (Nat×Ob)}{Q:V->(Nat->Option Ob)->Prop}(h:FnO P f k k' args os Q)(I:k<=k1)(ab:args.length=args1.length)(aa:(mkS (cU 0 args1) os1 0).le (mkS (cU 0 args) os 0)):
  FnO P f k1 k' args1 os1 Q:=by
 intro w m R us hHR hrel;have hl:=hrel.length;obtain⟨R1,hp1,hd1⟩:∃R1:RT w (dG m),R1.p=R.p/\R1.df=[]:=⟨⟨R.p,R.g,R.d,[]⟩,O,O⟩;have B:SJ ⟨P,m,w,dG m,R1⟩ us.length (mkS (cU 0 args1) os1 0) { tmps:=us.toArray,defers:=[] } w:=by
  refine⟨m,R.p,⟨hHR.dfs hp1,hd1.symm,Vj,λt ht=>?_⟩⟩;show Rel w m (avK 0) R.p (look (cU 0 args1) t) (us.toArray.getD t undef);have:=AD args1 us 0 t hrel (cd _) undef;rw[Sf];simpa using this
 obtain⟨m2,R2,hw⟩:=aa _ _ _ _ B;have r:=hw.hr;have J:∀b,dG m2 b->dG m b:=λb ⟨id,N,e⟩=>by
  obtain⟨h1,_,h3⟩:=r.own id b N e;rcases h3 with h3|h3
  .exact h3
  .have:w.heap.size<=b:=h3;omega
 have E:∀b,R.p b->R2 b:=λb hb=>r.r0 b (by show R1.p b;rw[hp1];exact hb)
 have W:∃R3:RT w (dG m2),R3.p=R2:=⟨⟨R2,R.g.mono λb hb=>⟨E b hb,O⟩,λb hb=>⟨r.rsz b hb,fun⟨id,N,e⟩=>(r.own id b N e).2.1 hb⟩,[]⟩,O⟩;obtain⟨R3,hR3⟩:=W;have Y:HR ⟨P,m2,w,dG m2,R3⟩ m2 R3.p (ax os) (avK 0) w:=by
  rw[hR3];exact⟨r.dom,r.free,r.obj,r.inj,λid b N e=>⟨(r.own id b N e).1,(r.own id b N e).2.1,.inl ⟨id,N,e⟩⟩,r.rsz,λb hb=> .inl (by show R3.p b;rw[hR3];exact hb),λb hb=>by have:R3.p b:=hb;rw[hR3]at this;exact this,Fr.refl _ _,λ_ _ _ e=>e,r.res⟩
 have A:RelL w m2 (avK 0) R3.p args us:=by
  rw[hR3];refine zH args us 0 Vf λt _ ht z=>?_
  have:=hw.sl t Vf;have e:us[t-0]?.getD z=us.toArray.getD t undef:=by
   rw[Sf];have Z:t<us.length:=Vf;simp[Z]
  rw[e];exact this
 refine(h w m2 R3 us Y A).mono ?_;rintro e w' ⟨u,v,ob',m',R',rfl,hq,hv,hall,hH,hrv⟩;refine⟨u,v,ob',m',R',O,hq,V.yz (λi=>DT I) v hv,λi o ho=>⟨DT I (hall i o ho).1,Ob.yz (λi=>DT I) o (hall i o ho).2⟩,?_,hrv⟩;have s:=hH.frame;refine⟨hH.dom,hH.free,hH.obj,hH.inj,λid b N e=>⟨(hH.own id b N e).1,(hH.own id b N e).2.1,(hH.own id b N e).2.2.imp (J b) λh=>h⟩,hH.rsz,λb hb=>?_,λb hb=>hH.r0 b (by show R3.p b;rw[hR3];exact E b hb),⟨s.os,s.tape,s.output,s.size,λk I hn=>s.block k I λh=>hn (J k h)⟩,λid x hid e=>r.keep id x hid (hH.keep id x hid e),hH.res⟩;rcases hH.rfr b hb with h1|h1|h1
 .have h2:R2 b:=by have:R3.p b:=h1;rw[hR3]at this;exact this
  rcases r.rfr b h2 with h3|h3|h3
  .exact .inl (by have:R1.p b:=h3;rw[hp1]at this;exact this)
  .exact .inr (.inl h3)
  .exact .inr (.inr h3)
 .exact .inr (.inl h1)
 .exact .inr (.inr (J b h1))
end
section
open Go.RowKit Mk Jn Mm
theorem oQ(q:Rat)(h:F1 q):FnP prog 125 [frP q,.rp [.int .i64 0] 0] (· = .str (gb q)):=by
 refine FnP.of func125 O ntmps125 Vj λm0 w0 F R0=>?_
 have r:=BB q h;refine Z2 O<|Z1 O<|Rs O (aa call126 r O) ?_;iterate 5 refine A1 O ?_
 refine Z2 O<|Gc O (λd=>absurd d Vj) (λd=>?_);exact Q3<|Z2 O<|Gt O<|⟨_,_,O,O,O⟩
theorem LD{K:Type}[BEq K][LawfulBEq K]{l:List (K×Rat)}(t:(l.map (·.1)).Nodup)(r:i<l.length):uq l l[i].1=Sh l[i].2:=by
 have s:l.findIdx? (λe=>e.1==l[i].1)=Sh i:=by
  rw[Ts];refine⟨r,Vj,λj hj=>?_⟩;have d:=Sv.1 t j i Vk Vk hj;simp only[SE]at d;simpa using d
 unfold uq;rw[s];simp[r]
theorem yV{K:Type}{cmp:K->K->Int}(h:Mm.Cmp cmp){l:List (K×Rat)}(d:l.Pairwise λa b=>cmp a.1 b.1<0):(l.map (·.1)).Nodup:=by
 rw[List.Nodup,SM];refine d.imp fun{a b} h1 e=>?_
 rw[e]at h1;have:=h.swap b.1 b.1;omega
theorem Kj{l:List (Par×Rat)}(h:k<l.length):((sN (l.map (·.1))).drop (k*2)).take 2=[.int .i64 l[k].1.f,.str l[k].1.c]:=by
 have:=cC pT 2 (λ_=>rfl) (l.map (·.1)) k (by simpa using h);simpa[sN]using this
theorem NY{l:List (PP×Rat)}(h:k<l.length):((s6 (l.map (·.1))).drop (k*4)).take 4=[.int .i64 l[k].1.1.f,.str l[k].1.1.c,.int .i64 l[k].1.2.f,.str l[k].1.2.c]:=by
 have:=cC ppC 4 (λ_=>rfl) (l.map (·.1)) k (by simpa using h);simpa[s6]using this
theorem Nw{l:List (Par×Rat)}(h:k<l.length):sN (l.map (·.1))≠[]:=λe=>by have:=Ar (l.map (·.1));rw[e]at this;simp at this;omega
theorem QD{l:List (PP×Rat)}(h:k<l.length):s6 (l.map (·.1))≠[]:=λe=>by have:=yq (l.map (·.1));rw[e]at this;simp at this;omega
theorem Mu{l:List (Par×Rat)}(d:i<l.length):fD (tmL (l.take i))++[.int .i64 l[i].1.f,.str l[i].1.c,.str (gb l[i].2)]=fD (tmL (l.take (i+1))):=by
 rw[bX d];simp only[tmL,fD,RG,Sc,bP,SD,RC,Uu,Sk]
theorem Nb{l:List (PP×Rat)}(d:i<l.length):fE (prL (l.take i))++[.int .i64 l[i].1.1.f,.str l[i].1.1.c,.int .i64 l[i].1.2.f,.str l[i].1.2.c,.str (gb l[i].2)]=fE (prL (l.take (i+1))):=by
 rw[bX d];simp only[prL,fE,RG,Sc,bP,SD,RC,Uu,Sk]
theorem Gj(m:MC)(hs:m.s.Pairwise λa b=>cD a.1 b.1<0)(hp:m.p.Pairwise λa b=>dU a.1 b.1<0)(h1:MF1 m):FnP prog 50 [mcP m] (· = .tup [wc m,.int .i64 0]):=by
 refine FnP.ofC func50 O ntmps50 Vj λm0 w0 F R0=>?_
 have hct:=oQ m.c h1.c;have hls:=h1.ls;have hlp:=h1.lp;have hk1:=ye (aI dr m.s) (aN m.s);have hk2:=xq (aI ppP m.p) (aN m.p);have hm1:(m.s.map (·.1)).map dr=aI dr m.s:=by simp[aI]
 have hm2:(m.p.map (·.1)).map ppP=aI ppP m.p:=by simp[aI]
 have u:=vu (m.s.map (·.1)) (aN m.s) (by simpa using hls) (by rw[SM];exact hs);have z:=tW (m.p.map (·.1)) (aN m.p) (by simpa using hlp) (by rw[SM];exact hp);rw[hm1,OF]at u;rw[hm2,OF]at z;have W:=yV fm hs;have Y:=yV du hp;have hd1:=y9 c7 W;have hd2:=y9 ft Y;refine Z3 O<|Z2 O<|Q4 (St.fG 2 O O)<|Z2 O<|Q4 (St.P2 (fs:=[]) (cs:=[.rp [.int .i64 0] 0]) 5 O)<|Z3 O<|Rs O (fH (fs:=[]) (ps:=[frP m.c]) (cs:=[.rp [.int .i64 0] 0]) call125 O hct O)<|Y3 O<|Q4 (St.da (T':=47) (cs:=[.pv (.str (gb m.c)),.pv nS,.pv nS]) 3 1 4 3 149 Vg O O)<|Q4 (St.da (T':=47) (cs:=[.pv (.str (gb m.c)),.gsl 4 3 0,.pv nS]) 3 2 5 5 151 Vg O O)<|Z2 O<|Rs O (aa call128 hk1 O)<|Rs O (aa call127 u O)<|Y2 O<|Gl O (st:=λVn:Nat=>mkS [(1,.ptr 0 0),(2,.ptr 1 0),(4,.pv (.rp [.int .i64 0] 0)),(5,.pv (.fn (.func 125) [] [.rp [.int .i64 0] 0])),(6,.ptr 3 0),(20,.pv (.sl Sl m.s.length (sN (m.s.map (·.1))))),(21,pIi m.s.length),(22,pIi Vn)] [(0,.mix 120 [.pv (.bool (decide (m.c.num<0))),.pv (bF m.c.num.natAbs),.pv (.bool (decide ((m.c.den:Int)<0))),.pv (bF (m.c.den:Int).natAbs),.pv (.mp (aI dr m.s) (aN m.s)),.pv (.mp (aI ppP m.p) (aN m.p))]),(1,.mix 47 [.pv (.str ⟨#[]⟩),.pv nS,.pv nS]),(3,.mix 47 [.pv (.str (gb m.c)),.gsl 4 3 Vn,.gsl 5 5 0]),(4,.gro 149 (fD (tmL (m.s.take Vn)))),(5,.gro 151 (fE []))] 6)
  (I:=λVn=>Vn<=m.s.length) (μ:=λVn=>m.s.length-Vn) (x0:=(0)) (Q5 (aS O) (aO Vg) O O) (cd _) ?_
 rintro i hi;refine Z1 O<|Gp O (λZ=>?_) (λZ=>?_)
 .have hlt:i<m.s.length:=Vf;have r:=Kj hlt;have B:=Nw hlt;have E:=oQ m.s[i].2 (h1.s _ (au hlt));have t:=ns c7 m.s m.s[i].1;rw[LD W hlt]at t;have J:=n9 (tmL (m.s.take i));rw[oN,Rr,SG hi]at J;refine Q3<|Gr O<|Rs O (ae i underlying171 Bg O O O hlt B)<|Rs O (aU ⟨_,underlying147,O⟩ Bg O r O)<|Y2 O<|RW 14 O ?_;iterate 7 refine D1 O ?_
  refine Ds [] O (λτ h=>oC kZ underlying117 (.inr (.inl ⟨(Ee h 0 O O),hd1⟩)) (Ee h 1 O O) ⟨m.s[i].1,O⟩ l9 O t O) O Vg<|Ds [] O (λτ h=>fH (fs:=[]) (ps:=[frP m.s[i].2]) (cs:=[.rp [.int .i64 0] 0]) call125 (Ee h 0 O O) E ((ag (λl=>(V.args (λ_=>Sl) l).map PV.fgA) h.cU).trans O)) O Vg ?_;iterate 5 refine D1 O ?_
  refine⟨Vg,?_⟩;exact Z2 O<|⟨(i+1),Q6 [0,1,2,3,8,5] (aT O) ⟨Vg,Vg,Vg,RI (b:=Sh (.gro 149 (fD (tmL (m.s.take i))++[.int .i64 m.s[i].1.f,.str m.s[i].1.c,.str (gb m.s[i].2)]))) Vg (ag (λc=>Sh (Ob.gro 149 c)) (Mu hlt)),Vg,Vm⟩ O O Vh O,hlt,Vf⟩
 .have hie:m.s.take i=m.s:=aQ Vf;have hil:i=m.s.length:=Vf;rw[hie,hil];refine Gx O<|Z2 O<|Rs O (aa call131 hk2 O)<|Rs O (aa call130 z O)<|Y2 O<|Gl O (st:=λd:Nat=>mkS [(1,.ptr 0 0),(2,.ptr 1 0),(4,.pv (.rp [.int .i64 0] 0)),(5,.pv (.fn (.func 125) [] [.rp [.int .i64 0] 0])),(6,.ptr 3 0),(43,.pv (.sl Sl m.p.length (s6 (m.p.map (·.1))))),(44,pIi m.p.length),(45,pIi d)] [(0,.mix 120 [.pv (.bool (decide (m.c.num<0))),.pv (bF m.c.num.natAbs),.pv (.bool (decide ((m.c.den:Int)<0))),.pv (bF (m.c.den:Int).natAbs),.pv (.mp (aI dr m.s) (aN m.s)),.pv (.mp (aI ppP m.p) (aN m.p))]),(1,.mix 47 [.pv (.str ⟨#[]⟩),.pv nS,.pv nS]),(3,.mix 47 [.pv (.str (gb m.c)),.gsl 4 3 m.s.length,.gsl 5 5 d]),(4,.gro 149 (fD (tmL m.s))),(5,.gro 151 (fE (prL (m.p.take d))))] 6)
   (I:=λd=>d<=m.p.length) (μ:=λd=>m.p.length-d) (x0:=(0)) (Q5 (aS O) (aO Vg) O O) (cd _) ?_
  rintro j hj;refine Z1 O<|Gp O (λab=>?_) (λab=>?_)
  .have hlt:j<m.p.length:=Vf;have r:=NY hlt;have B:=QD hlt;have E:=oQ m.p[j].2 (h1.p _ (au hlt));have t:=ns ft m.p m.p[j].1;rw[LD Y hlt]at t;have J:=oA (prL (m.p.take j));rw[pj,Rr,SG hj]at J;refine Q3<|Gr O<|Rs O (ae j underlying235 H9 O O O hlt B)<|Rs O (aU ⟨_,underlying238,O⟩ H9 O r O)<|Y2 O<|RW 17 O ?_;iterate 10 refine D1 O ?_
   refine Ds [] O (λτ h=>oC rZ underlying118 (.inr (.inl ⟨(Ee h 0 O O),hd2⟩)) (Ee h 1 O O) ⟨m.p[j].1,O⟩ l9 O t O) O Vg<|Ds [] O (λτ h=>fH (fs:=[]) (ps:=[frP m.p[j].2]) (cs:=[.rp [.int .i64 0] 0]) call125 (Ee h 0 O O) E ((ag (λl=>(V.args (λ_=>Sl) l).map PV.fgA) h.cU).trans O)) O Vg ?_;iterate 5 refine D1 O ?_
   refine⟨Vg,?_⟩;exact Z2 O<|⟨(j+1),Q6 [0,1,2,3,4,8] (aT O) ⟨Vg,Vg,Vg,Vg,RI (b:=Sh (.gro 151 (fE (prL (m.p.take j))++[.int .i64 m.p[j].1.1.f,.str m.p[j].1.1.c,.int .i64 m.p[j].1.2.f,.str m.p[j].1.2.c,.str (gb m.p[j].2)]))) Vg (ag (λc=>Sh (Ob.gro 151 c)) (Nb hlt)),Vm⟩ O O Vh O,hlt,Vf⟩
  .have hje:m.p.take j=m.p:=aQ Vf;have hjl:j=m.p.length:=Vf;rw[hje,hjl];refine Gx O<|Z2 O<|Gc O (λA=>absurd A Vj) (λA=>?_);exact Q3<|Q4 (Q8 (o:= .gro 149 (fD (tmL m.s))) 4 Vg O)<|Q4 (Q8 (o:= .gro 151 (fE (prL m.p))) 5 Vg O)<|Z3 O<|Gt O<|⟨_,_,O,O,⟨az ⟨_,underlying47,O⟩ L5 O O O,Vm⟩,O⟩
end
end Go.Proofs.YtoplpepiabedhaaGreatDoor
