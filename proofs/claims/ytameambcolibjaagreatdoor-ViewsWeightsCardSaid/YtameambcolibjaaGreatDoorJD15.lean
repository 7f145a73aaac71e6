/- Lemmas. No condition. -/
import Derived.Test.YtameambcolibjaaGreatDoorJD14
set_option maxRecDepth 100000
set_option maxHeartbeats 4000000
open Go.RowKit Go.Proofs.Tryz
open Option renaming some→UF,none→UG
open Bool renaming true→VA,false→WA
namespace Go.Proofs.YtameambcolibjaaGreatDoor
variable{k n i v most:Nat}{w w0 W:World}{R:Nat->Prop}{u:Value}{m:Gm}{x y z c:Code}{P:Program}{f:FuncId}{Q:PV->Prop}{σ:St}{a:Act}{D:VD}{S:Sch}{kd:Int}
section
open Go.RowKit Mk Jn Mm Vw
noncomputable abbrev viF(ps:List Prt)(v:Nat)(a b c:Nat):V:=.fn (.func 74) [] [.pv (.rp [ptsP ps] 0),.ptr a 0,.pv (.rp [.int .i64 v] 0),.ptr b 0,.ptr c 0]
noncomputable abbrev viA(ps:List Prt)(v:Nat)(k:Int)(x:Ch)(g:Gv):List V:=[pIi k,.pv (SZ x),.pv (momP g.m),.pv (.rp [ptsP ps] 0),.ptr big 0,.pv (.rp [.int .i64 v] 0),.ptr 9001 0,.ptr 9002 0]
noncomputable abbrev bldM2(S:Sch)(D:VD)(T:List (List Rw))(n:Nat)(left:Int)(b:Nat):List V:=[.pv (.sl UG S.attrs.length (aK S.attrs)),.pv (.sl UG S.rels.length (aU S.rels)),.pv (.sl UG S.feats.length (aL S.feats)),pIi S.label,.pv (bA D.chs),.pv (bA D.kes),.pv (bA D.hos),.pv (aq D.wa),.pv (dbP T),.osl b 2 n,pIi left]
noncomputable abbrev viO(S:Sch)(D:VD)(T:List (List Rw))(n:Nat)(left:Int)(vs:List (Option (List En)))(ps:List Prt)(v:Nat)(E:List En):List (Nat×Ob):=
 [(big,.mix 79 [.ptr 9003 0]),(9001,.mix 95 [.map 9005,.map 9006]),(9002,.mix 170 [viF ps v big 9001 9002]),
   (9003,.mix 86 (bldM2 S D T n left 9004)),(9004,.cells 95 (vwsC vs)),(9005,.mp (cu E) (kY E)),(9006,.mp (cu E) (gvsV E))]
structure PtY(n:Nat)(Q:List Par)(X:Nat->List ByteArray)(p:Prt):Prop where
 x:PtX Q X p
 w:∀i∈p.is,i.g.w<=10^5
 k:∀i∈p.is,i.g.k<=6
 a:∀a∈p.a,0<=a/\a<n
 al:p.a.length<=1000
 il:p.is.length<=1000000
structure BC(S:Sch)(D:VD)(n:Nat)(v:Nat)(K:List Int)(Q:List Par)(X:Nat->List ByteArray)(lf:Int->ByteArray->Gv)(ps:List Prt):Prop where
 n0:0<n
 n1:n<=1000
 hv:v<n
 kl:v<D.kes.length
 kv:D.kes[v]=K
 K0:K.length<=1000
 K1:∀a∈K,0<=a/\a<n
 X1:∀a,∀t∈X a,t.size<=1000
 lfx:LfX Q X lf
 lift:∀t∈X v,FnP prog 75 [gg S,.int .i64 v,.str t] (· =momP (lf v t).m)
 hps:∀p∈ps,PtY n Q X p
 pl:ps.length<=8
structure EI(Q:List Par)(X:Nat->List ByteArray)(K:List Int)(e:En):Prop where
 x:ItX Q X K e.v e.g
 k:e.g.k<=49
structure CI(n:Nat)(Q:List Par)(X:Nat->List ByteArray)(K:List Int)(d:Nat)(x:Ch)(g:Gv)(E:List En):Prop where
 cx:ChX n X x
 cg:GvOk Q g
 gn:1<=g.n
 gw:g.w<=(10^5)^d
 gk:g.k<=6*d
 E:∀e∈E,EI Q X K e
theorem pw5{d:Nat}(h:d<=8):(10^5)^d<=10^40:=by
 rw[<-Nat.pow_mul];exact Vr XZ XX
theorem OT:(10:Nat)^45<=10^50:=by decide+kernel
theorem ue:(10:Nat)^40<=10^50:=by decide+kernel
theorem K6:(10:Nat)^5<=10^50:=by decide+kernel
section
variable {S:Sch}{D:VD}{T:List (List Rw)}{n:Nat}{left:Int}{vs:List (Option (List En))}{ps:List Prt}{v:Nat}{K:List Int}{Q:List Par}{X:Nat->List ByteArray}{lf:Int->ByteArray->Gv}
open Classical in
theorem Kr(h:BC S D n v K Q X lf ps)(x:Ch)(g:Gv)(E:List En)(hc:CI n Q X K ps.length x g E)(hl:((stepE (lf v) v K E (x,g)).length:Int)<=left)(hw:gP Gv.w (stepE (lf v) v K E (x,g))<=10^45):
  FnO prog 74 7 0 (viA ps v ps.length x g) (viO S D T n left vs ps v E) (λr ob'=>r= .pv (.bool VA)/\ob'=aA (viO S D T n left vs ps v (stepE (lf v) v K E (x,g)))):=by
 refine FnO.of func74 O ntmps74 X2 λ_ _ _ _=>?_
 have d:v<x.v.length:=by rw[hc.cx.v];exact h.hv
 have aj:=bP d;have al:=bO d;have B:x.v[v]∈X v:=by have:=hc.cx.x v;simpa[List.getD,d]using this
 have am:x.v.getD v ⟨#[]⟩=x.v[v]:=by simp[List.getD,d]
 have an:=h.lift _ B;have M:=h.lfx.g v _ (show x.v[v]∈X (v:Int).toNat by simpa using B);have U:=AI hc.gw (pw5 h.pl);have ao:(lf v x.v[v]).w<=10^50:=by rw[h.lfx.w];decide+kernel
 have hlk:(lf v x.v[v]).k=1:=h.lfx.k _ _;have hps8:=h.pl;have hgk:=hc.gk;have Y:=uy hc.cg.s M.s (AI U ue) ao XX XX;have Z:GvOk Q (g.mul (lf v x.v[v])):=hc.cg.mul M;have ap:=R7 Z.s;have au:stepE (lf v) v K E (x,g)=if(g.mul (lf v x.v[v])).m=Mm.Sem.zero then E else sw E (lG K x) (g.mul (lf v x.v[v])):=by
  unfold stepE;rw[Ux,am]
 rw[au]at hl hw ⊢;have ax:(g.mul (lf v x.v[v])).k<=50:=by show g.k+(lf v x.v[v]).k<=50;omega
 have az:(g.mul (lf v x.v[v])).w<=10^50:=by show g.w*(lf v x.v[v]).w<=_;rw[h.lfx.w,Uv];exact AI U ue
 change FnP _ _ _ (· =momP (g.mul (lf v x.v[v])).m)at Y
 generalize g.mul (lf v x.v[v])=G at*;have J:=gM h.kl;have ab:=gv h.kl;rw[h.kv]at J;have ac:=h.kl;have aB:=h.K0;refine Z3 O<|Z1 O ?_;first|refine A1 O ?_|refine A2 O X0 ?_
 refine Y2 O<|Gc O (λH=>?_) (λH=>absurd H X2);refine UB 14 O<|D1 O ?_;first|refine D1 O ?_|refine D2 O O X0 ?_
 refine Dr 3 O ?_;first|refine D1 O ?_|refine D2 O O X0 ?_
 refine Dr 2 O ?_;first|refine D1 O ?_|refine D2 O O X0 ?_
 refine Ds [] O (λτ h=>ag v underlying39 sz9 (Ee h 0 O O) (Ee h 1 O O) O d al) O XY<|Ds [] O (λτ h=>ar ⟨_,underlying9,O⟩ (Ee h 0 O O) aj) O XY<|Ds [] O (λτ h=>aa call75 an (h.aE O)) O XY<|Ds [] O (λτ h=>aa call37 Y (h.aE O)) O XY<|D1 O ?_;refine⟨XY,?_⟩;refine Z1 O<|Rs O (aa call76 ap O)<|Gc O (λq=>?_) (λq=>?_)
 .have hz:G.m=Mm.Sem.zero:=V9 q;rw[AT hz];exact Z1 O<|Gt O<|⟨[(11,.pv (.bool VA))],viO S D T n left vs ps v E,[.pv (.bool VA)],TO (aS O) (aO XY) O O,O,O,O,O,O⟩
 have hz:¬G.m=Mm.Sem.zero:=VY q;rw[pF hz]at hl hw ⊢;refine TM<|UB 11 O ?_;first|refine D1 O ?_|refine D2 O O X0 ?_
 refine Dr 4 O ?_;first|refine D1 O ?_|refine D2 O O X0 ?_
 refine Ds [] O (λτ h=>ag v underlying80 sT (Ee h 0 O O) (Ee h 1 O O) O ac ab) O XY<|Ds [] O (λτ h=>ar ⟨_,underlying22,O⟩ (Ee h 0 O O) J) O XY<|D1 O<|Ds [] O (λτ h=>Ks 2 _ De (Ee h 0 O O) (Ee h 1 O O) O O XX (h.n 0 _ O)) O XY<|D1 O ?_;refine⟨XY,?_⟩;refine UB 10 O ?_;first|refine D1 O ?_|refine D2 O O X0 ?_
 refine Dr 4 O ?_;first|refine D1 O ?_|refine D2 O O X0 ?_
 refine Ds [] O (λτ h=>ag v underlying80 sT (Ee h 0 O O) (Ee h 1 O O) O ac ab) O XY<|Ds [] O (λτ h=>ar ⟨_,underlying22,O⟩ (Ee h 0 O O) J) O XY<|Dr 2 O ?_;refine⟨XY,?_⟩;refine Gz O (st:=λX6:Nat=>([(4,UG),(6,UG),(9,UG),(10,UG),(12,UF (.osl 2 1 X6)),(55,UG),(56,UG),(57,UF (pIi X6))],[(big,UG),(0,UG),(1,UG),(2,UF (.cells 9 (ct ((lG K x).take X6)))),(9001,UG),(9002,UG),(9003,UG),(9004,UG),(9005,UG),(9006,UG)])) 3
  (I:=λX6=>X6<=K.length) (μ:=λX6=>K.length-X6) (x0:=(0)) (TO (aS O) (aO XY) O O) (aJ _) ?_
 rintro j hj;refine Z1 O<|Gp O (λaf=>?_) (λaf=>?_)
 .have hlt:j<K.length:=XX;obtain⟨a,haa⟩:=tI (h.K1 _ (ak hlt)).1;have A:a<x.v.length:=by have:=(h.K1 _ (ak hlt)).2;rw[hc.cx.v];omega
  have aD:(aN K)[j*1]? =UF (.int .i64 (a:Int)):=by rw[<-haa];simp[hlt]
  have hpn:=aM hlt;have aF:=bP A;have aP:=bO A;have aR:j<(lG K x).length:=by simpa[lG]using hlt
  have aW:(lG K x)[j]=x.v[a]:=by simp[lG,haa,List.getD,A]
  have aY:(lG K x).take (j+1)=(lG K x).take j++[x.v[a]]:=by rw[sh aR,aW]
  have hsl:(ct ((lG K x).take j)).length=j*1:=by simp[lG];omega
  exact TM<|Z1 O<|Rs O (ar ⟨_,underlying3,O⟩ O aD)<|A1 O<|Z4 O<|Rs O (ag a underlying39 sz9 O O O A aP)<|Rs O (ar ⟨_,underlying9,O⟩ O aF)<|Y3 O<|Z2 O<|⟨(j+1),TP [0,1,4] (aT O) ⟨XY,XY,XY,UI (b:=UF (.cells 9 (ct ((lG K x).take j)++[.str x.v[a]]))) XY (ah (λc=>UF (Ob.cells 9 c)) (by rw[aY];simp)),XY,XY,XY,XY,XY,XY,X5⟩ O O XZ O,hlt,XX⟩
 have hje:(lG K x).take j=lG K x:=aG (by simp[lG];omega);have aZ:j=(lG K x).length:=by simp[lG];omega
 rw[hje,aZ];have L:=PU (K:=K) hc.cx;have a0:=Vw.Na (lG K x) 1000 λt ht=>by obtain⟨i,hi,rfl⟩:=Vz ht;exact h.X1 _ _ (L.x i hi (by rw[<-L.len];exact hi))
 have ad:(lG K x).length<=1000:=by rw[L.len];exact aB
 have a1:∀e∈E,GvOk Q e.g/\e.g.w<=10^50/\e.g.k<=50:=λe he=>⟨(hc.E e he).x.ok,AI (zN (f:=Gv.w) he) (AI (by rw[uc ya]at hw;omega) OT),AI (hc.E e he).k XZ⟩
 have a2:=Ih E (lG K x) G a1 Z az ax XX (AI a0 (AI (Vk _ ad) XZ));have a3:decide (((cu (sw E (lG K x) G)).length:Int)<=left)=VA:=SR (by simpa using hl);generalize sw E (lG K x) G=E' at*;generalize lG K x=key at*;refine Gx O<|TN (TR (o:=.cells 9 (ct key)) 2 XY O)<|TN (St.lT [12])<|Gr O ?_;first|refine A1 O ?_|refine A3 O X0 ?_
 refine Y2 O<|Rs O (bl [9005,9006] 3 call77 a2 O O O O ⟨O,O,X5⟩ XZ O)<|UB 9 O<|D1 O ?_;first|refine D1 O ?_|refine D2 O O X0 ?_
 refine Ds [_] O (λτ h=>rB underlying92 (.inl ⟨9005,(Ee h 0 O O),(Eo h 0 O O)⟩)) O XY ?_;first|refine D1 O ?_|refine D2 O O X0 ?_
 refine Dr 5 O ?_;refine⟨XY,?_⟩;exact Gt O<|⟨[(11,.pv (.bool VA))],viO S D T n left vs ps v E',[.pv (.bool VA)],TO ⟨UI (b:=V.pv (.bool (decide (((cu E').length:Int)<=left)))) XY (ah (λb=>V.pv (.bool b)) a3),X5⟩ (aO XY) O O,O,O,O,O,O⟩
theorem OY(d:LfX Q X lf):∀(ls:List (Ch×Gv)){E:List En},(∀l∈ls,ChX n X l.1/\GvOk Q l.2/\1<=l.2.n/\l.2.k<=48)->(∀e∈E,EI Q X K e)->∀e∈foldE (lf v) v K E ls,EI Q X K e:=λls E hl hE=>by
 refine mA (I:=EI Q X K) (λx y hx hy t=>⟨⟨hx.x.ok.add hy.x.ok,AI hx.x.n (Wq _ _),hx.x.v⟩,Nat.max_le.2 ⟨hx.k,hy.k⟩⟩) ls hE λl h=>?_
 obtain⟨h1,h2,h3,h4⟩:=hl l h;refine⟨⟨h2.mul (d.g _ _ (h1.x _)),?_,PU h1⟩,?_⟩
 .show 1<=l.2.n*(lf v _).n;rw[d.n];omega
 show l.2.k+(lf v _).k<=49;rw[d.k];omega
theorem lv_ok(h:BC S D n v K Q X lf ps)(t:k<=ps.length){x:Ch}{g:Gv}{E:List En}(hc:CI n Q X K k x g E):∀l∈leaves (ps.drop k) x g,ChX n X l.1/\GvOk Q l.2/\1<=l.2.n/\l.2.k<=48:=λl hl=>by
 have d:∀p∈ps.drop k,PtX Q X p:=λp d=>(h.hps p (V8 d)).x
 obtain⟨h1,h2,h3⟩:=CV d hc.cx hc.cg hc.gn l hl;have s:=BD l hl;have j:((ps.drop k).map Prt.km).sum<=((ps.drop k).map λ_=>6).sum:=ye λp d=>Rk (h.hps p (V8 d)).k
 have r:∀q:List Prt,(q.map λ_=>6).sum=6*q.length:=λq=>by
  induction q with
  |nil=>rfl
  |cons a q ih=>rw[cd,U4,ih,IN];omega
 rw[r,Vs]at j;have:=hc.gk;have:=h.pl;exact⟨h1,h2,h3,XX⟩
def lvI(ps:List Prt)(k:Nat)(hk:k<ps.length)(x:Ch)(g:Gv)(i:Itm):List (Ch×Gv):=if ER x ps[k].a i.v=VA then leaves (ps.drop (k+1)) (yz x ps[k].a i.v) (g.mul i.g)else []
theorem P1(d:k<ps.length)(x:Ch)(g:Gv):leaves (ps.drop k) x g=ps[k].is.flatMap (lvI ps k d x g):=by
 rw[Us d,leaves];rfl
theorem MJ(h:BC S D n v K Q X lf ps)(k:Nat)(H:k<ps.length)(x:Ch)(g:Gv)(E:List En)(hc:CI n Q X K k x g E)
  (hrec:∀(y:Ch)(g':Gv)(E':List En),CI n Q X K (k+1) y g' E'->((foldE (lf v) v K E' (leaves (ps.drop (k+1)) y g')).length:Int)<=left->gP Gv.w (foldE (lf v) v K E' (leaves (ps.drop (k+1)) y g'))<=10^45->
   FnO prog 74 7 0 (viA ps v ((k:Int)+1) y g') (viO S D T n left vs ps v E') (λr ob'=>r= .pv (.bool VA)/\ob'=aA (viO S D T n left vs ps v (foldE (lf v) v K E' (leaves (ps.drop (k+1)) y g')))))
  (hl:((foldE (lf v) v K E (leaves (ps.drop k) x g)).length:Int)<=left) (hw:gP Gv.w (foldE (lf v) v K E (leaves (ps.drop k) x g))<=10^45):
  FnO prog 74 7 0 (viA ps v k x g) (viO S D T n left vs ps v E) (λr ob'=>r= .pv (.bool VA)/\ob'=aA (viO S D T n left vs ps v (foldE (lf v) v K E (leaves (ps.drop k) x g)))):=by
 have J:=lv_ok h (Xc H) hc;have q:=h.hps _ (ak H);have hps8:=h.pl;have hgk:=hc.gk;have V:=AI hc.gw (pw5 (d:=k) XX);rw[P1 H]at hl hw J ⊢;obtain⟨F,hF⟩:∃F,F=lvI ps k H x g:=⟨_,O⟩;have hFi:=λi=>show F i=if ER x ps[k].a i.v=VA then leaves (ps.drop (k+1)) (yz x ps[k].a i.v) (g.mul i.g)else [] by rw[hF];rfl
 rw[<-hF]at hl hw J ⊢;have hit:(ptsC ps)[k*2+1]? =UF (.sl UG ps[k].is.length (itsC ps[k].is)):=by
  have h2:(((ptsC ps).drop (k*2)).take 2)[1]? =(ptC ps[k])[1]? :=by rw[CT H]
  simpa[Uw,Vp]using h2
 have Y:(ptsC ps)[k*2]? =UF (aq ps[k].a):=by
  have h2:(((ptsC ps).drop (k*2)).take 2)[0]? =(ptC ps[k])[0]? :=by rw[CT H]
  simpa[Uw,Vp]using h2
 have B:=OO H;obtain⟨A,hA⟩:∃A,A=ps[k].a:=⟨_,O⟩;obtain⟨I,hI⟩:∃I,I=ps[k].is:=⟨_,O⟩;have hx':=q.x;have hw':=q.w;have hk':=q.k;have ha':=q.a;have hal:=q.al;have hIl:=q.il;rw[<-hA]at hFi Y ha' hal;rw[<-hI]at hit hl hw J hw' hk' hIl ⊢;have hxI:∀i∈I,ItX Q X A i.v i.g:=λi hi=>by rw[hA];exact hx' i (by rw[<-hI];exact hi)
 clear hx' q hA hI;have Z:=call74;refine FnO.of func74 O ntmps74 X2 λm0 w0 F0 R0=>?_
 refine Z3 O<|Z1 O ?_;first|refine A1 O ?_|refine A2 O X0 ?_
 refine Y2 O<|Gc O (λU=>absurd U X3) (λU=>?_);refine TM<|Gr O ?_;first|refine A1 O ?_|refine A2 O X0 ?_
 refine A1 O<|Rs O (ag k underlying168 Lp O O O H B)<|A1 O<|Rs O (ar ⟨_,underlying176,O⟩ O hit)<|Y2 O<|Gz O (st:=λX6:Nat×List En=>([(0,UG),(3,UG),(7,UG),(9,UG),(10,UG),(86,UG),(87,UG),(88,UF (pIi X6.1))],[(big,UG),(0,UG),(1,UG),(9001,UG),(9002,UG),(9003,UG),(9004,UG),(9005,UF (.mp (cu X6.2) (kY X6.2))),(9006,UF (.mp (cu X6.2) (gvsV X6.2)))])) 2
  (I:=λX6=>X6.1<=I.length/\X6.2=foldE (lf v) v K E ((I.take X6.1).flatMap F)) (μ:=λX6=>I.length-X6.1) (x0:=(0,E)) (TO (aS O) (aO XY) O O) (⟨aJ _,O⟩) ?_
 rintro⟨i,E'⟩ ⟨hi,hE'⟩;try simp only at hi hE' ⊢
 refine Z1 O<|Gp O (λhc89=>?_) (λhc89=>?_)
 .have hlt:i<I.length:=XX;have hrow:=LW hlt;have hne:=QE hlt;have ab:=ak hlt;have hsp:I.flatMap F=(I.take (i+1)).flatMap F++(I.drop (i+1)).flatMap F:=by rw[<-U6,U3]
  have t:foldE (lf v) v K E ((I.take (i+1)).flatMap F)=foldE (lf v) v K E' (F I[i]):=by rw[sh hlt,U6,qe,<-hE'];simp
  have ac:((foldE (lf v) v K E' (F I[i])).length:Int)<=left:=by
   rw[hsp,qe,t]at hl;have:=vP (lf:=lf v) (v:=v) (K:=K) ((I.drop (i+1)).flatMap F) (foldE (lf v) v K E' (F I[i]));omega
  have G:gP Gv.w (foldE (lf v) v K E' (F I[i]))<=10^45:=by
   rw[hsp,qe,t]at hw;exact AI (Bp ya _ _) hw
  have hEI:∀e∈E',EI Q X K e:=by
   rw[hE'];exact OY h.lfx _ (λl hl=>J l (by rw[<-U3 i I,U6];exact Ws _ hl)) hc.E
  obtain⟨hig,hin,hiv⟩:=hxI _ ab;have L:=hw' _ ab;have hik:=hk' _ ab;rw[hFi]at t ac G;generalize I[i]=it at*;have M:=IA x A it.v n h.n0 (AI h.n1 XZ) hc.cx.v hc.cx.s XX hiv.len ha';have hmu:=uy hc.cg.s hig.s (AI V ue) (AI L K6) XX XX;refine TM<|Gr O<|Rs O (ag i underlying176 SS O O O hlt hne)<|Rs O (aF ⟨_,underlying180,O⟩ SS O hrow O)<|Y2 O ?_;by_cases hag:ER x A it.v=VA
  .rw[JO,AT hag]at M;rw[AT hag]at t ac G;have hgo:=hrec (yz x A it.v) (g.mul it.g) E' ⟨I8 hiv hc.cx,hc.cg.mul hig,Va hc.gn hin,by rw[Vc];exact Va hc.gw L,by show g.k+it.g.k<=_;omega,hEI⟩ ac G;generalize yz x A it.v=y at*;generalize foldE (lf v) v K E' (leaves (ps.drop (k+1)) y (g.mul it.g))=E2 at*;clear hw G V L;refine UB 15 O<|D1 O ?_;first|refine D1 O ?_|refine D2 O O X0 ?_
   refine D1 O<|Ds [] O (λτ h=>ag k underlying168 Lp (Ee h 0 O O) (Ee h 1 O O) O H B) O XY<|D1 O<|Ds [] O (λτ h=>ar ⟨_,underlying22,O⟩ (Ee h 0 O O) Y) O XY<|Dr 2 O<|Ds [] O (λτ h=>aa call78 M (h.aE O)) O XY<|Dr 6 O ?_;refine⟨XY,?_⟩;refine UB 13 O<|Dr 2 O ?_;first|refine D1 O ?_|refine D2 O O X0 ?_
   refine Dr 6 O<|Dg [] O (λτ h=>aa call37 hmu (h.aE O)) O XY<|Dg [big,9001,9002,9003,9004,9005,9006] O (λτ h=>mq (vs:=[pIi ((k:Int)+1),.pv (SZ y),.pv (momP (Mm.Sem.mul g.m it.g.m))]) [big,9001,9002,9003,9004,9005,9006] 4 Z hgo (Ee h 0 O O) (h.P5.trans O) O O O O ⟨(Eo h 0 O O),(Eo h 1 O O),(Eo h 2 O O),(Eo h 3 O O),(Eo h 4 O O),(Eo h 5 O O),(Eo h 6 O O),X5⟩ XZ O) O XY<|Dr 2 O ?_;refine⟨XY,?_⟩;refine Gc O (λj=>absurd j XZ) (λj=>?_);exact TM<|Z2 O<|⟨(i+1,E2),TO (aS O) (aO XY) O O,⟨X4,by simp only;exact t.symm⟩,X4⟩
  rw[JO,pF hag]at M;rw[pF hag]at t;clear hw G V L;refine UB 15 O<|D1 O ?_;first|refine D1 O ?_|refine D2 O O X0 ?_
  refine D1 O<|Ds [] O (λτ h=>ag k underlying168 Lp (Ee h 0 O O) (Ee h 1 O O) O H B) O XY<|D1 O<|Ds [] O (λτ h=>ar ⟨_,underlying22,O⟩ (Ee h 0 O O) Y) O XY<|Dr 2 O<|Ds [] O (λτ h=>aa call78 M (h.aE O)) O XY<|Dr 6 O ?_;refine⟨XY,?_⟩;refine UB 13 O<|Dr 13 O ?_;refine⟨XY,?_⟩;refine Gc O (λj=>absurd j XZ) (λj=>?_);exact TM<|Z2 O<|⟨(i+1,E'),TO (aS O) (aO XY) O O,⟨X4,by simp only;exact t.symm⟩,X4⟩
 have hie:I.take i=I:=aG XX;rw[hie]at hE';rw[<-hE'];exact Gx O<|Z1 O<|Gt O<|⟨[(11,.pv (.bool VA))],viO S D T n left vs ps v E',[.pv (.bool VA)],TO (aS O) (aO XY) O O,O,O,O,O,O⟩
theorem AZ(h:BC S D n v K Q X lf ps):∀(d k:Nat),k+d=ps.length->∀(x:Ch)(g:Gv)(E:List En),CI n Q X K k x g E->((foldE (lf v) v K E (leaves (ps.drop k) x g)).length:Int)<=left->gP Gv.w (foldE (lf v) v K E (leaves (ps.drop k) x g))<=10^45->
  FnO prog 74 7 0 (viA ps v k x g) (viO S D T n left vs ps v E) (λr ob'=>r= .pv (.bool VA)/\ob'=aA (viO S D T n left vs ps v (foldE (lf v) v K E (leaves (ps.drop k) x g))))
 | 0,k,hk,x,g,E,hc,hl,hw=>by
   obtain rfl:k=ps.length:=XX;rw[List.drop_length]at hl hw ⊢;exact Kr h x g E hc hl hw
 | d+1,k,hk,x,g,E,hc,hl,hw=>MJ h k XX x g E hc (λy g' E' hc' hl' hw'=>by
   have:=AZ h d (k+1) XX y g' E' hc' hl' hw';exact this) hl hw
end
end
section
open Go.RowKit Mk Jn Mm Vw
theorem J5{b:Option Bool}{cs:List PV}(h:RelP w R (.sl b n cs) u):RelP w R (.sl UG n cs) u:=by grind[RelP]
theorem EC{av:Av}{p q p' q':PV}(d:∀u,RelP w R p u->RelP w R p' u)(j:∀u,RelP w R q u->RelP w R q' u)(h:Rel w m av R (.agg [.pv p,.pv q]) u):Rel w m av R (.pv (.agg [p',q'])) u:=by grind[Rel,RelL,RelP,RelPL]
section
variable {S:Sch}{D:VD}{T:List (List Rw)}{n:Nat}{left:Int}{vs:List (Option (List En))}{ps:List Prt}{v:Nat}{K:List Int}{Q:List Par}{X:Nat->List ByteArray}{lf:Int->ByteArray->Gv}
theorem LG(h:BC S D n v K Q X lf ps)(H:((viewE (lf v) n v K ps).length:Int)<=left)(I:gP Gv.w (viewE (lf v) n v K ps)<=10^45):
  FnO prog 74 9 0 [pIi 0,.agg [.osl 9007 1 n,.osl 9008 1 n],.pv (momP (Gv.whole 1).m),.pv (.rp [ptsP ps] 0),.ptr big 0,.pv (.rp [.int .i64 v] 0),.ptr 9001 0,.ptr 9002 0]
   [(big,.mix 79 [.ptr 9003 0]),(9001,.mix 95 [.map 9005,.map 9006]),(9002,.mix 170 [viF ps v big 9001 9002]),
     (9003,.mix 86 (bldM2 S D T n left 9004)),(9004,.cells 95 (vwsC vs)),(9005,.mp [] []),(9006,.mp [] []),(9007,.cells 9 (List.replicate n (.str ⟨#[]⟩))),(9008,.cells 4 (List.replicate n (.bool WA)))]
   (λr ob'=>r= .pv (.bool VA)/\ob'=aA (viO S D T n left vs ps v (viewE (lf v) n v K ps))):=by
 have hc:CI n Q X K 0 (ch0 n) (Gv.whole 1) []:=⟨SY h.lfx.x0,GvOk.whole Q 1,tJ 1,tJ 1,aJ _,λe he=>absurd he X2⟩;have q:=AZ (left:=left) (vs:=vs) (T:=T) h ps.length 0 XX (ch0 n) (Gv.whole 1) [] hc H I;refine FnO.weak q XZ O<|St.le.trans (TR (o:=.cells 9 (List.replicate n (.str ⟨#[]⟩))) 9007 XY O)<|St.le.trans (TR (o:=.cells 4 (List.replicate n (.bool WA))) 9008 XY O)<|St.le.trans (TO (l:=dD 0 [pIi 0,.agg [.pv (.sl (UF WA) n (List.replicate n (.str ⟨#[]⟩))),.pv (.sl (UF WA) n (List.replicate n (.bool WA)))],.pv (momP (Gv.whole 1).m),.pv (.rp [ptsP ps] 0),.ptr big 0,.pv (.rp [.int .i64 v] 0),.ptr 9001 0,.ptr 9002 0])
  (os:=viO S D T n left vs ps v []) (k:=0) ⟨O,O,O,O,O,O,O,O,X5⟩ ⟨XY,XY,XY,XY,XY,XY,XY,X5⟩ O O) ?_
 refine St.Bl O O λt w m R u hu=>?_
 by_cases h1:t=1
 .subst h1;have A:ct (ch0 n).v=List.replicate n (PV.str ⟨#[]⟩):=by simp[ch0,ct]
  have B:(ch0 n).s.map PV.bool=List.replicate n (PV.bool WA):=by simp[ch0]
  have E:(ch0 n).v.length=n:=by simp[ch0]
  have G:(ch0 n).s.length=n:=by simp[ch0]
  have d:Rel w m (avK 0) R (.agg [.pv (.sl (UF WA) n (List.replicate n (.str ⟨#[]⟩))),.pv (.sl (UF WA) n (List.replicate n (.bool WA)))]) u:=hu;show Rel w m (avK 0) R (.pv (SZ (ch0 n))) u;have:=EC (p':=.sl UG n (List.replicate n (.str ⟨#[]⟩))) (q':=.sl UG n (List.replicate n (.bool WA))) (λ_=>J5) (λ_=>J5) d;show Rel w m (avK 0) R (.pv (.agg [.sl UG (ch0 n).v.length (ct (ch0 n).v),.sl UG (ch0 n).s.length ((ch0 n).s.map PV.bool)])) u;rw[A,B,E,G];exact this
 have e:(mkS (dD 0 [pIi 0,.agg [.pv (.sl (UF WA) n (List.replicate n (.str ⟨#[]⟩))),.pv (.sl (UF WA) n (List.replicate n (.bool WA)))],.pv (momP (Gv.whole 1).m),.pv (.rp [ptsP ps] 0),.ptr big 0,.pv (.rp [.int .i64 v] 0),.ptr 9001 0,.ptr 9002 0]) (viO S D T n left vs ps v []) 0).sl t=
  (mkS (dD 0 (viA ps v 0 (ch0 n) (Gv.whole 1))) (viO S D T n left vs ps v []) 0).sl t:=by
  have j:Nat.beq t 1=WA:=by cases j:Nat.beq t 1;rfl;exact absurd (bZ j) h1
  simp only[mkS,dD,look,UQ,j,UZ]
 exact e▸hu
theorem Ng{vs:List (Option (List En))}(h:k<vs.length)(o:Option (List En)):gj (vwsC vs) (k*2) (vwC o)=vwsC (vs.set k o):=by
 unfold gj;rw[yQ];have d:(vwsC vs).take (k*2)=vwsC (vs.take k):=by grind[vwsC,U3,XQ,o8,OF,U5]
 have j:(vwsC vs).drop (k*2+2)=vwsC (vs.drop (k+1)):=by
  have:vwsC vs=vwsC (vs.take (k+1))++vwsC (vs.drop (k+1)):=by rw[vwsC,vwsC,vwsC,<-U6,U3]
  rw[this,List.drop_left'];rw[o8,OF,U5 XX];omega
 rw[d,j,V3,AT h];simp[vwsC,U6]
theorem Al(I:S.rels.length<=1000)(J:vs.length=n)(L:S.attrs.length=n)(hT:T.length=S.rels.length)(M:∀l∈T,l.length<=1000)(U:∀l∈T,∀x∈l,0<=x.w/\x.w<=9223372036854775807)
  (HS CS:List Int) (V:v<D.hos.length) (Y:v<D.chs.length) (Z:D.hos[v]=HS) (ab:D.chs[v]=CS) (ac:HS.length<=1000) (ad:CS.length<=1000) (hH:∀r∈HS,∃k:Nat,k<S.rels.length/\r=(k:Int))
  (hC:∀c∈CS,∃k:Nat,k<n/\k<D.kes.length/\c=(k:Int)) (f:Int->List En) (KK:Int->List Int) (hf:∀(k:Nat)(h:k<vs.length)(h':k<D.kes.length),(k:Int)∈CS->vs[k]=UF (f k)/\D.kes[k]=KK k/\EnOk (f k)/\(f k).length<=1000000)
  (af:ps=(HS.map λr=>dd (oU S r) (gT T r))++CS.map λc=>cK (KK c) (f c))
  (h:BC S D n v K Q X lf ps) (hl0:left<=3000) (hl:((viewE (lf v) n v K ps).length:Int)<=left) (hw:gP Gv.w (viewE (lf v) n v K ps)<=10^45):
  FnO prog 30 2 0 [.ptr big 0,pIi v] (bldO S D T n left vs) (λr ob'=>r= .pv (.bool VA)/\ob'=aA (bldO S D T n (left-(viewE (lf v) n v K ps).length) (vs.set v (UF (viewE (lf v) n v K ps))))):=by
 refine FnO.of func30 O ntmps30 X2 λ_ _ _ _=>?_
 have s:=yG S I D T n left vs J hT M U v HS CS V Y Z ab ac ad hH hC f KK hf;rw[<-af]at s;have A:=LG (left:=left) (vs:=vs) (T:=T) h hl hw;have B:=lV 1 XZ;have q:=call74;have ag:=h.n1;have G:=h.hv;have t:=Ng (vs:=vs) (k:=v) XX (UF (viewE (lf v) n v K ps));have al:=o8 vs;generalize viewE (lf v) n v K ps=E at*;have H:(cu E).length=E.length:=AS _;subst L;refine Z3 O<|Gr O<|Rs O (dK 2 O)<|Rs O (dK 3 O)<|Y3 O<|Z2 O<|Rs O (bl [big,9001] 5 call73 s O O O O ⟨O,O,X5⟩ XZ O)<|Y2 O<|Z1 O<|TN (St.jC (o:=.mix 168 [.pv (ptsP ps)]) 5 XY O)<|TN (St.jC (o:=.mix 3 [pIi v]) 1 XY O)<|Z2 O<|Gr O<|Ar 7 O<|UB 9 O<|Dr 6 O<|Ds [] O (λτ h=>aa call35 B (h.aE O)) O XY<|Ds [0,4,6,big,9001,2,3,7,8] O (λτ h=>mq (vs:=[pIi 0,.agg [.osl 7 1 S.attrs.length,.osl 8 1 S.attrs.length],.pv (momP (Gv.whole 1).m)]) [0,4,6,big,9001,2,3,7,8] 9 q A (Ee h 0 O O) (h.P5.trans O) O O O O ⟨(Eo h 0 O O),(Eo h 1 O O),(Eo h 2 O O),(Eo h 3 O O),(Eo h 4 O O),(Eo h 5 O O),(Eo h 6 O O),((h.o 7 _ O).trans (ah (λc=>UF (Ob.cells 9 c)) ((cH (.str ⟨#[]⟩) (S.attrs.length*1)).trans (by rw[Uv])))),((h.o 8 _ O).trans (ah (λc=>UF (Ob.cells 4 c)) ((cH (.bool WA) (S.attrs.length*1)).trans (by rw[Uv])))),X5⟩ XZ O) O XY<|D1 O ?_;refine⟨XY,?_⟩;refine Gc O (λj=>absurd j XZ) (λj=>?_);refine TM<|UB 11 O<|Dr 6 O<|Ds [_] O (λτ h=>rB underlying92 (.inl ⟨2,(Ee h 0 O O),(Eo h 0 O O)⟩)) O XY<|Dr 4 O ?_;refine⟨XY,?_⟩;refine TN (St.cW (ks:=cu E) (vs:=kY E) 2 XY X2 (UX _))<|TN (St.cW (ks:=cu E) (vs:=gvsV E) 3 XY X2 (UX _))<|UB 8 O<|Dr 6 O<|Ds [_] O (λτ h=>aj v underlying84 RH (Ee h 0 O O) (Eo h 0 O O) (Ee h 1 O O) O G) O XY<|DL.step (d:=UG) [_] O O O (λτ h=>D9 RH (Ee h 0 O O) (Eo h 0 O O) (Ee h 1 O O) O O XX) O XY ?_;refine⟨XY,?_⟩;exact Z1 O<|Gt O<|⟨[(4,.pv (.bool VA))],bldO S D T S.attrs.length (left-E.length) (vs.set v (UF E)),[.pv (.bool VA)],TO (aS O) ⟨UI (b:=UF (Ob.mix 86 (bldM S D T S.attrs.length (left-(cu E).length)))) XY (by rw[H]),UI (b:=UF (Ob.cells 95 (gj (vwsC vs) (v*2) (vwC (UF E))))) XY (by rw[t]),X5⟩ O O,O,O,O,O,O⟩
end
end
section
section
variable {C:Ctx}{n:Nat}{σ:St}{Post:Exit->Act->World->Prop}
def AWX(C:Ctx)(n:Nat)(c:Code)(Post:Exit->Act->World->Prop)(σ:St):Prop:=∀a w,SJ C n σ a w->c.wp C.P Post a w
def Th(K:St->Prop)(C:Ctx)(n:Nat)(Post:Exit->Act->World->Prop):Exit->St->Prop
 |.normal,s=>K s
 |ex,s=>∀a w,SJ C n s a w->Post ex a w
theorem AWX.seq(h:AW C n x (Th (AWX C n y Post) C n Post) σ):AWX C n (.seq x y) Post σ:=by
 intro a w hs;refine wp_seq (wp_mono (h.go a w hs) ?_);rintro e a' w' ⟨s,q,r⟩;cases e<;>exact q a' w' r
theorem AWX.seq2(h:AW C n x (Th (AWX C n y (Exit.then (z.wp C.P Post) Post)) C n Post) σ):AWX C n (.seq (.seq x y) z) Post σ:=by
 intro a w hs;refine wp_seq (wp_seq (wp_mono (h.go a w hs) ?_));rintro e a' w' ⟨s,q,r⟩;cases e<;>exact q a' w' r
end
abbrev E0(w0:World)(R0:Nat->Prop)(Q:PV->Prop):Ending->World->Prop:=λe w'=>∃u v,e= .returned u/\Q v/\Below w0.heap.size w0 w'/\RelP w' (λb=>R0 b\/(w0.heap.size<=b/\b<w'.heap.size)) v u
theorem FnP.marks{fn:Func}{args:List PV}(d:P.funcs[f]? =UF fn)(j:fn.body=UF c)(s:fn.ntmps=n)(q:args.length<=n)
  (h:∀(w:World)(R0:RT w (λ_=>False)),R0.df=[]->AWX ⟨P,λ_=>UG,w,λ_=>False,R0⟩ n c (bodyPostM Fence.wide 2 P fn (E0 w R0.p Q)) (mkS (jr 0 args) [] 0)):FnP P f args Q:=by
 intro w R us hG hR hrel;refine callsIn_wide.1 (callsIn_of_wp_marks (n:=2) d j trivial (wpIn_wide.2 ?_) O);have r:=hrel.length;refine h w ⟨R,hG,λb h=>⟨hR b h,id⟩,[]⟩ O _ w ⟨λ_=>UG,R,⟨⟨λ_=>rfl,λ_ _=>rfl,λ_ _ _ _ h=>(by cases h),λ_ _ _ _ _ h=>(by cases h),λ_ _ _ h=>(by cases h),hR,λb h=> .inl h,λb h=>h,Fr.refl _ _,λ_ _ _ h=>(by cases h),λid hi=>di (k:=0) hi⟩,rfl,X3,?_⟩⟩;intro t ht;show Rel w _ (avK 0) R (look (jr 0 args) t) _;rw[Ue];exact Ua (RelL.ofP hrel) _ t
theorem Ro{R0:RT w0 (λ_=>False)}(B:SW ⟨P,λ_=>UG,w0,λ_=>False,R0⟩ n σ a W m R)(ids:List Nat)(os:List (Nat×Ob))
  (hos:os.map (·.1)=(List.range ids.length).map (big+ ·)) (Z:os.all (λp=>p.2.all (okR ids.length 0))=VA) (U:gJ σ (fh ids 0) os) (E:os.all (λp=>p.2.real)=VA) (aa:ids.Nodup):
  ∃bs:List Nat,bs.length=ids.length/\Btw P w0 R bs [] os 0 W/\∀(j id b:Nat),ids[j]? =UF id->bs[j]? =UF b->∃N,m id=UF (b,N):=by
 have ρb:∀j,fh ids 0 (big+j)=ids.getD j 0:=λj=>by
  have:Nat.ble big (big+j)=VA:=WL (Wq _ _);simp only[fh,this,VG,Nat.add_sub_cancel_left]
 have ρj:∀(j id:Nat),ids[j]? =UF id->fh ids 0 (big+j)=id:=λj id h=>by rw[ρb,Ur,h];rfl
 have q:∀i o,aA os i=UF o->∃j id:Nat,i=big+j/\ids[j]? =UF id:=by
  intro i o h;have:i∈os.map (·.1):=IS.2 ⟨(i,o),bN h,O⟩;rw[hos]at this;obtain⟨j,hj,rfl⟩:=IS.1 this;have V:j<ids.length:=by simpa using hj
  exact⟨j,ids[j],O,BY V⟩
 have J:∀(j id:Nat),ids[j]? =UF id->∃o,aA os (big+j)=UF o:=by
  intro j id h;apply oK;rw[hos];exact IS.2 ⟨j,by simpa using(RE.1 h).1,O⟩
 have L:∀i o,aA os i=UF o->σ.ob (fh ids 0 i)=UF (o.ren (fh ids 0)):=λi o h=>fD U i o (bN h)
 have r:∀(j id:Nat),ids[j]? =UF id->(m id).isSome=VA:=by
  intro j id h;obtain⟨o,ho⟩:=J j id h;have d:=L _ _ ho;rw[ρj j id h]at d;rw[B.hr.dom,d];exact(Ob.jX _ o).trans (IX.1 E _ (bN ho))
 have s:∀i,okR ids.length 0 i=VA->∃j id:Nat,i=big+j/\ids[j]? =UF id:=by
  intro i hi;simp only[okR,UW,dO]at hi;rcases hi with h|⟨d,G⟩
  .simp[Nat.blt]at h
  have d:=Uy d;have G:i<big+ids.length:=by simpa[Wl]using G
  exact⟨i-big,ids[i-big]'XX,XX,BY _⟩
 obtain⟨mc,hmc⟩:∃mc:Gm,mc=λi=>if(aA os i).isSome then m (fh ids 0 i)else UG:=⟨_,O⟩
 have t:∀i x,mc i=UF x->∃j id:Nat,i=big+j/\ids[j]? =UF id/\m id=UF x:=by
  intro i x h;rw[hmc]at h;simp only at h;split at h
  .rename_i hs;obtain⟨o,ho⟩:=UP.1 hs;obtain⟨j,id,rfl,hj⟩:=q i o ho;rw[ρj j id hj]at h;exact⟨j,id,O,hj,h⟩
  cases h
 have M:∀(j id:Nat),ids[j]? =UF id->mc (big+j)=m id:=by grind
 have H:∀(i j id:Nat),ids[i]? =UF id->ids[j]? =UF id->i=j:=by
  intro i j id d G;have l1:=(RE.1 d).1;have l2:=(RE.1 G).1;have Y:=UY.1 aa;have e1:=(RE.1 d).2;have I:=(RE.1 G).2;rcases Nat.lt_trichotomy i j with h|h|h
  .grind
  .exact h
  grind
 have hF:∀id b N,m id=UF (b,N)->w0.heap.size<=b:=λid b N e=>(B.hr.own id b N e).2.2.elim False.elim λh=>h
 have A:=B.hr.frame;refine⟨ids.map λid=>((m id).getD (0,0)).1,X2,⟨⟨mc,⟨R,B.hr.gi,λb hb=>⟨B.hr.rsz b hb,fun⟨i,N,e⟩=>?_⟩,[]⟩,?_,?_,?_,λb hb=>hb,?_⟩,⟨A.os,A.tape,A.output,A.size,λk hk=>A.block k hk id⟩,λx hx=>absurd hx X2⟩,?_⟩
 .obtain⟨j,id,_,_,I⟩:=t i _ e;exact(B.hr.own id b N I).2.1 hb
 .refine⟨λi=>?_,λi h=>?_,λi o b N h e=>?_,λi j b N N' d G=>?_,λi b N e=>?_,B.hr.rsz,λb h=> .inl h,λb h=>h,Fr.refl _ _,λi x _ h=>h,λi h=>di h⟩
  .cases ho:aA os i with
   |none=>rw[hmc];simp[ho,bM]
   | some o=>
     obtain⟨j,id,rfl,hj⟩:=q i o ho;rw[M j id hj,r j id hj];exact(IX.1 E _ (bN ho)).symm
  .cases ho:aA os i with
   |none=>rfl
   | some o=>
     obtain⟨j,id,rfl,hj⟩:=q i o ho;rw[di (Wq _ _)]at h;cases h
  .obtain⟨j,id,rfl,hj,I⟩:=t i _ e;have d:=L _ _ h;rw[ρj j id hj]at d;have G:=B.hr.obj id _ b N d I;refine nv.iy (fh ids 0) (okR ids.length 0) (λi x Y hx=>?_) (λi Y=>?_) (IX.1 Z _ (bN h)) G
   .grind
   obtain⟨j',id',rfl,_⟩:=s i Y;exact di (Wq _ _)
  .obtain⟨i1,id1,rfl,g1,e1⟩:=t i _ d;obtain⟨i2,id2,rfl,g2,I⟩:=t j _ G;have:=B.hr.inj id1 id2 b N N' e1 I;subst this;rw[H i1 i2 id1 g1 g2]
  obtain⟨j,id,_,_,I⟩:=t i _ e;exact⟨(B.hr.own id b N I).1,(B.hr.own id b N I).2.1,.inl ⟨i,N,e⟩⟩
 .intro j b hj;rw[Wc]at hj;cases hi:ids[j]? with
  |none=>rw[hi]at hj;cases hj
  | some id=>
    rw[hi]at hj;obtain⟨⟨b',N⟩,hm⟩:=UP.1 (r j id hi);simp only[hm,V5,Ww,Uo]at hj;subst hj;exact⟨N,by rw[M j id hi,hm]⟩
 .grind
 .intro b hb;exact⟨.inl hb,X2⟩
 .intro j id b hi hj;rw[Wc,hi]at hj;obtain⟨⟨b',N⟩,hm⟩:=UP.1 (r j id hi);simp only[hm,V5,Ww,Uo]at hj;subst hj;exact⟨N,hm⟩
def F7(P:Program)(fn:Func)(n:Nat)(σ:St)(vs:List V):Prop:=∀m0 w0 F R0 (a:Act) (w:World) (m:Gm) (R:Nat->Prop),SW ⟨P,m0,w0,F,R0⟩ n σ a w m R->∃us:List Value,(results fn a.tmps).run P w= .ok (if h:us.toArray.size=1 then us.toArray[0]else .tuple us.toArray) w/\RelL w m σ.av R vs us
theorem res2{fn:Func}{x y:Nat}{t1 t2:TypeId}(A:fn.results.toList=[.cell x t1,.cell y t2]){j:Nat}{T1 T2:TypeId}{cs:List V}{v:V}(B:isRow P t1)(E:bR P t1 k)(G:cs.length=k)(e1:σ.ev n (.tmp x)= .ptr i 0)(o1:σ.ob i=UF (.mix T1 cs))
  (H:gN P t2) (e2:σ.ev n (.tmp y)= .ptr j 0) (o2:σ.ob j=UF (.mix T2 [v])):F7 P fn n σ [.agg cs,v]:=by
 intro m0 w0 F R0 a w m R hw;obtain⟨us,hr,hrel⟩:=pK hw (fun|.tmp t=>pure (a.tmps.getD t undef)|.cell ad t=>do loadVar t (← asAddr (a.tmps.getD ad undef))) (λ_=>rfl) (λ_ _=>rfl) (l:=[.cell x t1]) (vs:=[.agg cs]) (by simp only[Cx,e1,o1]) ⟨au B E e1 o1 G,X5⟩;simp only[RelL]at hrel;obtain⟨u1,us',rfl,hr1,rfl⟩:=hrel;obtain⟨b,N,hev,hm,arr,hb,hN,hle,hrl⟩:=hw.ptr e2 o2;obtain⟨u2,hu2,hr2⟩:=hrl.get (show [v][0]? =UF v from O);have hc:w.cell? ⟨b,0,UG⟩=UF u2:=by rw[mZ hb O (show 0<[v].length from Nat.zero_lt_one)];exact hu2
 have d:a.tmps.getD y undef= .pointer (UF ⟨b,0,UG⟩):=hev;refine⟨[u1,u2],?_,RelL.cons hr1 (RelL.cons hr2 RelL.nil)⟩;have s:Sem.run P (loadVar t2 ⟨b,0,UG⟩) w= .ok u2 w:=by simp[loadVar,H.run,load,Sem.run,hc]
 rw[List.mapM_cons,List.mapM_nil]at hr;have r:Sem.run P (do loadVar t1 (← asAddr (a.tmps.getD x undef))) w= .ok u1 w:=by
  revert hr
  simp only[Sem.run_bind];cases hq:Sem.run P (asAddr (a.tmps.getD x undef)) w with
  | ok q wq=>
    simp only[Result.andThen_ok];cases hq2:Sem.run P (loadVar t1 q) wq with
    |ok q2 wq2=>simp
    |_=>simp[Result.andThen]
  |_=>simp[Result.andThen]
 unfold results;rw[Array.mapM_eq_mapM_toList,A];rw[Sem.run_bind]at r;simp only[List.mapM_cons,List.mapM_nil,Sem.run_bind,Sem.run_map];rw[r];simp[d,asAddr,s]
def MD(P:Program)(fn:Func)(n:Nat)(Q:PV->Prop):Exit->St->Prop
 |.ret,σ|.normal,σ=>∃vs ps,F7 P fn n σ vs/\V.args σ.ob vs=UF ps/\Q (fT ps)
 |_,_=>False
theorem Btw.tail{R0:Nat->Prop}{bs X:List Nat}{os:List (Nat×Ob)}{D:Nat}{slots:List (Nat×V)}{fn:Func}
  (hT:∀m0 w0 F R0,AW ⟨P,m0,w0,F,R0⟩ n z (MD P fn n Q) (mkS slots os k)) (hB:Btw P w0 R0 bs X os k W) (hD:D∈X) (U:W.heap[D]? =UF (.deferred (UF []))) (a:Act) (hdf:a.defers=[{ target:=.collected D,args:= #[] }]) (hsz:a.tmps.size=n)
  (hsl:∀(m:Gm)(R:Nat->Prop),(∀j b,bs[j]? =UF b->∃N,m (big+j)=UF (b,N))->(∀b,R0 b->R b)->∀t,t<n->Rel W m (avK k) R (look slots t) (a.eval (.tmp t))):
  z.wp P (bodyPostM Fence.wide 2 P fn (E0 w0 R0 Q)) a W:=by
 obtain⟨m,rt0,hr0,h1,h2,h3,h4⟩:=hB.ex;obtain⟨rt,hp,hd0⟩:∃rt:RT W (eG m),rt.p=rt0.p/\rt.df=a.defers:=⟨⟨rt0.p,rt0.g,rt0.d,a.defers⟩,O,O⟩;have hr:=hr0.dfs hp;rw[<-hp]at hr h3 h4;refine wp_mono ((hT m W (eG m) rt).go a W ⟨m,rt.p,hr,hd0.symm,hsz,hsl m rt.p h1 h3⟩) ?_;rintro ex a2 w2 ⟨σ',hq,m2,R2,hw⟩;have r:Fr (eG m) W w2:=hw.hr.frame;have Y:=(hB.xs D hD);have B:¬eG m D:=fun⟨id,N,e⟩=>(h2 id D N e).2 hD
 have Z:w2.heap[D]? =UF (.deferred (UF [])):=(r.block D Y.1 B).trans U;have aa:¬R2 D:=λh=>by
  rcases hw.hr.rfr D h with e|e|e
  .exact(h4 D e).2 hD
  .have:W.heap.size<=D:=e;omega
  exact B e
 have ab:∀id N,m2 id≠UF (D,N):=λid N e=>by
  rcases(hw.hr.own id D N e).2.2 with h|h
  .exact B h
  have:W.heap.size<=D:=h;omega
 obtain⟨w3,hw3⟩:∃w3,w3=w2.putObj D (.deferred UG):=⟨_,O⟩;have E:∀q,q≠D->w3.heap[q]? =w2.heap[q]? :=λq hq=>by rw[hw3];exact World.putObj_heap_other hq
 have s:w3.heap.size=w2.heap.size:=by rw[hw3];simp
 have G:∀b,R2 b->R2 b/\w3.heap[b]? =w2.heap[b]? :=λb hb=>⟨hb,E b λe=>aa (e▸hb)⟩
 obtain⟨rt3,hp3,hd3⟩:∃rt3:RT w3 (eG m2),rt3.p=R2/\rt3.df=a2.defers:=⟨⟨R2,hw.hr.gi.mono G,λb hb=>⟨by rw[s];exact hw.hr.rsz b hb,fun⟨id,N,e⟩=>(hw.hr.own id b N e).2.1 hb⟩,a2.defers⟩,O,O⟩;have H:SW ⟨P,m2,w3,eG m2,rt3⟩ n σ' a2 w3 m2 R2:=by
  refine⟨⟨hw.hr.dom,hw.hr.free,λid o b N g1 g2=>nv.mono G (λ_ _ _ e=>e) (λ_ e=>e) (E b λe=>ab id N (e▸g2)) (hw.hr.obj id o b N g1 g2),hw.hr.inj,λid b N e=>⟨by rw[s];exact(hw.hr.own id b N e).1,(hw.hr.own id b N e).2.1,.inl ⟨id,N,e⟩⟩,λb hb=>by rw[s];exact hw.hr.rsz b hb,λb hb=> .inl (by show rt3.p b;rw[hp3];exact hb),λb hb=>by have:rt3.p b:=hb;rw[hp3]at this;exact this,Fr.refl _ _,λ_ _ _ e=>e,hw.hr.res⟩,hd3.symm,hw.sz,λt ht=>(hw.sl t ht).mono G (λ_ _ _ e=>e) λ_ e=>e⟩
 have I:a2.defers=[{ target:=.collected D,args:= #[] }]:=hw.df.trans (hd0.trans hdf);have ac:∀id b N,m2 id=UF (b,N)->w0.heap.size<=b:=λid b N e=>by
  rcases(hw.hr.own id b N e).2.2 with⟨id2,N2,e2⟩|h
  .exact(h2 id2 b N2 e2).1
  grind
 have ad:∀b,R2 b->R0 b\/w0.heap.size<=b:=λb hb=>by
  rcases hw.hr.rfr b hb with e|e|⟨id,N,e⟩
  .exact(h4 b e).1
  .grind
  exact .inr (h2 id b N e).1
 have J:Below w0.heap.size w0 w3:=by
  have af:Below w0.heap.size W w3:=⟨by rw[hw3];exact r.os,by rw[hw3];exact r.tape,by rw[hw3];exact r.output,by rw[s];exact r.size,λq hq=>(E q XX).trans (r.block q (Uq hq hB.bel.size) fun⟨id,N,e⟩=>by have:=(h2 id q N e).1;omega)⟩;exact hB.bel.trans af
 have L:∀vs ps,F7 P fn n σ' vs->V.args σ'.ob vs=UF ps->Q (fT ps)->LeavesInM Fence.wide 2 P fn a2.tmps (E0 w0 R0 Q) a2.defers .returning w2:=by
  intro vs ps g1 g2 g3;obtain⟨us',hrun,hrl⟩:=g1 _ _ _ _ _ _ _ _ H;have ag:=H.args hrl g2;have A:RelPL w3 (λb=>R0 b\/(w0.heap.size<=b/\b<w3.heap.size)) ps us':=ag.mono λb hb=>⟨by
   rcases hb with hb|⟨id,N,hb⟩
   .rcases ad b hb with h|h
    .exact .inl h
    exact .inr ⟨h,by rw[s];exact hw.hr.rsz b hb⟩
   exact .inr ⟨ac id b N hb,by rw[s];exact(hw.hr.own id b N hb).1⟩,O⟩
  have M:=A.length;rw[I];refine⟨X2,.inl ⟨D,w3,O,by rw[hw3];exact run_takeDeferred Z,?_⟩⟩;refine⟨_,hrun,_,_,O,g3,J,?_⟩;cases ps with
  | nil=>
    simp only[RelPL]at A;subst A;simp only[fT,RelP];exact⟨[],X2,RelPL.nil⟩
  | cons p ps=>
    cases ps with
    | nil=>
      simp only[RelPL]at A;obtain⟨u,vs',rfl,h5,rfl⟩:=A;simpa[fT]using h5
    | cons p2 ps=>
      simp only[fT,RelP];refine⟨us',?_,A⟩;rw[dif_neg (by simp at M ⊢; omega)]
 cases ex with
 |normal=>obtain⟨vs,ps,g1,g2,g3⟩:=hq;exact L vs ps g1 g2 g3
 |ret=>obtain⟨vs,ps,g1,g2,g3⟩:=hq;exact L vs ps g1 g2 g3
 |_=>exact hq.elim
end
section
open Go.RowKit Go.Shelf
attribute [local go_sem] Oper.semAt_some
theorem Ga(b off bk o:Nat)(L:List Int)(A:Option Addr)(c:Nat)(w:World)(I:b<w.heap.size)(s:L≠[]->A=UF ⟨bk,o,UG⟩/\bk<w.heap.size)(E:w.cell? ⟨b,off,UG⟩=UF (.slice A L.length c))
  (G:∀j (h:j<L.length),w.cell? ⟨bk,o+j,UG⟩=UF (.int .i64 L[j])) (hLl:L.length<=1000000):
  S4 WA prog 72 #[.pointer (UF ⟨b,off,UG⟩)] (λx:Nat×Int=> #[.int .i64 (x.1:Int),.int .i64 x.2]) (λU V=>∀q,q=b\/(L≠[]/\q=bk)->V.heap[q]? =U.heap[q]?)
   (λpre x=>pre.length<L.length/\x=(L.length-1-pre.length,L.getD (L.length-1-pre.length) 0)) (λxs=>xs.length=L.length) w:=by
 intro l J W hW hJ hY H;have H:J [] W:=H (.cells #[] 0 (0,0));have hc:W.cell? ⟨b,off,UG⟩=UF (.slice A L.length c):=(hW.cell (p:=⟨b,off,UG⟩) I).trans E;have M:∀j (h:j<L.length),W.cell? ⟨bk,o+j,UG⟩=UF (.int .i64 L[j]):=λj h=>(hW.cell (p:=⟨bk,o+j,UG⟩) (s (by intro e;subst e;simp at h)).2).trans (G j h)
 have Y:L≠[]->A=UF ⟨bk,o,UG⟩:=λh=>(s h).1
 clear E G hJ hW;refine callsIn_of_wp func72 O trivial ?_ O;simp only[ntmps72,UL,IN,V6,Nat.reduceAdd,Nat.reduceSub,WR,WO,Xg,W7,Vo,VI]
 gi_wp2
 gi_loopw [3] (λi wr=>∃pre:List (Nat×Int),pre.length<=L.length/\i= .int .i64 ((L.length:Int)-1-pre.length)/\J pre wr/\wr.cell? ⟨b,off,UG⟩=UF (.slice A L.length c)/\∀j (h:j<L.length),wr.cell? ⟨bk,o+j,UG⟩=UF (.int .i64 L[j]))
  (λi _=>(intOf i+1).toNat)
 case atStart=>
  exact⟨[],aJ _,X2,H,hc,M⟩
 case round=>
  obtain⟨pre,hpl,rfl,hJp,hcp,hrp⟩:=hrel;by_cases hlt:pre.length<L.length
  .obtain⟨k,hk⟩:∃k:Nat,k=L.length-1-pre.length:=⟨_,O⟩;have d:k<L.length:=XX;have r:(L.length:Int)-1-pre.length=(k:Int):=XX;have t:L≠[]:=λe=>by subst e;simp at d
   obtain rfl:=Y t;have Z:=hrp k d;have aa:decide ((k:Int)>=0)=VA:=SR XX;obtain⟨fn,tmps,assign,body,hy,hR⟩:=hY pre (k,L[k]) wr hJp ⟨hlt,by subst hk;simp[List.getD,d]⟩;simp only at hy;have B:(k:Int)-1=(L.length:Int)-1-((pre.length+1:Nat):Int):=XX;rw[r];have HK:=Lib.hid (And.intro r B);have HC:=Lib.hid hrp;have HP:=Lib.hid hcp;clear hY hc M hrp hk r B Y s
   gi_wp2
   refine hR.mono ?_;rintro e W4 ⟨rfl,hJ4,hk4⟩
   gi_wp2
   go_roundw
   case rel=>
    refine⟨pre++[(k,L[k])],X3,?_,hJ4,?_,λj h=>?_⟩
    .rw[HK.out.2];simp
    .rw[<-HP.out];exact World.cell?_of_block (hk4 b (.inl O))
    rw[<-HC.out j h];exact World.cell?_of_block (hk4 bk (.inr ⟨t,O⟩))
   case measure=>simp[intOf]
  have hpe:pre.length=L.length:=XX
  gi_wp2
  go_end0
  exact⟨⟨_,O⟩,pre,hpe,hJp⟩
end


section
open Mk Jn

theorem zn(a b:List ByteArray)(E:a.length<=1000000)(G:b.length<=1000000):FnP prog 50 [bh a,bh b] (· = .bool (decide (a=b))):=by
 refine FnP.of func50 O ntmps50 X2 λ_ _ _ _=>?_
 refine Z1 O<|Gr O<|Ar 5 O<|Gc O (λd=>?_) (λd=>?_)
 .exact Z1 O<|Gt O<|⟨_,_,O,O,ah PV.bool (Up (λe=>by rw[e]at d;simp at d)).symm⟩
 have hl:a.length=b.length:=by simp at d;omega
 refine TM<|Z3 O<|Gz O (st:=λX6:Nat=>([(0,UG),(1,UG),(12,UG),(13,UF (pIi X6))],[])) 0
  (I:=λX6=>X6<=a.length/\a.take X6=b.take X6) (μ:=λX6=>a.length-X6) (x0:=(0)) (TO (aS O) trivial O O) (⟨aJ _,O⟩) ?_
 rintro i ⟨hi,ht⟩;refine Z1 O<|Gp O (λr=>?_) (λr=>?_)
 .have ha1:i<a.length:=XX;have q:i<b.length:=XX;have s:=bP ha1;have t:=bO ha1;have A:=bP q;have B:=bO q;refine TM<|Z2 O<|UB 9 O<|Dr 3 O ?_;first|refine D2 O O X0 ?_|refine D1 O ?_
  refine Dr 3 O ?_;first|refine D2 O O X0 ?_|refine D1 O ?_
  refine D1 O ?_;refine⟨XY,?_⟩;refine Gc O (λj=>?_) (λj=>?_)
  .exact Z1 O<|Gt O<|⟨_,_,O,O,ah PV.bool (Up (λe=>by subst e;simp at j)).symm⟩
  exact TM<|Z2 O<|⟨(i+1),TO (aS O) trivial O O,⟨XX,by rw[sh ha1,sh q,ht,show a[i]=b[i]from baT (by simpa using j)]⟩,XX⟩
 exact Gx O<|Z1 O<|Gt O<|⟨_,_,O,O,ah PV.bool (SR (by rwa [aG XX,aG XX]at ht)).symm⟩
end
section
open Go.RowKit Mk Jn Mm Vw
theorem My(l:List Int)(t:l.length<=1000000):FnP prog 64 [aq l] (· = .int .i64 (orI l)):=by
 refine FnP.of func64 O ntmps64 X2 λ_ _ _ _=>?_
 refine Z1 O<|Z1 O<|Z3 O<|Gz O (st:=λX6:Nat=>([(3,UG),(6,UG),(7,UG),(8,UF (pIi X6))],[])) 0
  (I:=λX6=>X6<=l.length/\∀i∈l.take X6,i=0) (μ:=λX6=>l.length-X6) (x0:=(0)) (TO (aS O) trivial O O) (⟨aJ _,λi hi=>by simp at hi⟩) ?_
 rintro k ⟨hk,hz⟩;refine Z1 O<|Gp O (λq=>?_) (λq=>?_)
 .have hlt:k<l.length:=XX;have s:=a7 hlt;have r:=aM hlt;have j:=λh=>Co hlt hz h
  refine TM<|Z1 O ?_;first|refine A2 O X0 ?_|refine A1 O ?_
  refine A1 O<|Z3 O<|Gc O (λd=>?_) (λd=>?_)
  .exact Z2 O<|Gt O<|⟨_,_,O,O,ah (PV.int .i64) (j (by simpa using d)).symm⟩
  exact TM<|Z2 O<|⟨(k+1),TO (aS O) trivial O O,⟨XX,λi hi=>by rw[bH hlt,UN,IT]at hi;rcases hi with h|rfl;exact hz i h;simpa using d⟩,XX⟩
 exact Gx O<|Z2 O<|Gt O<|⟨_,_,O,O,ah (PV.int .i64) (AB λi hi=>hz i (by rwa [aG XX])).symm⟩
theorem L4(S:Sch)(hB:SB S)(P:List Int)(r:P.length<=1000000)(s:o6 S P=0)(d:List (List Rw))(hc:FnP prog 65 [gg S,dbP d] (· = .int .i64 0)):FnP prog 26 [gg S,nB P,dbP d] (· = .int .i64 0):=by
 refine FnP.of func26 O ntmps26 X2 λ_ _ _ _=>?_
 have q:=fP S hB P r;rw[s]at q;have j:=My [0,0] XZ;refine Z3 O<|UB 9 O<|Dr 2 O<|Ds [] O (λτ h=>aa call54 q (h.aE O)) O XY<|Dr 2 O<|Ds [] O (λτ h=>aa call65 hc (h.aE O)) O XY<|Ds [] O (λτ h=>ax UG X2 el235 O XZ XZ (h.Fm O O) O) O XY<|Ds [] O (λτ h=>aa call64 j (h.aE O)) O XY<|D1 O ?_;refine⟨XY,?_⟩;exact Gt O<|⟨_,_,O,O,O⟩
theorem NO(S:Sch)(hS:SB S)(P:List Int)(d:OrdOk S P):FnP prog 27 [gg S,nB P] (· =Ea (bC S P)):=
 (Nd S hS P d).mono λv ⟨G,hG,e⟩=>by rw[e,Sn d.val hG,Ky d]
theorem Ta(L:List Int):FnP prog 29 [aq L] (· = .fn (.func 72) [] [.rp [aq L] 0]):=by
 refine FnP.of func29 O ntmps29 X2 λ_ _ _ _=>?_
 exact Z2 O<|TN (St.jC 0 O O)<|Z2 O<|Gt O<|⟨_,_,O,O,O⟩
theorem Fx(D:VD)(n:Nat)(s:D.chs.length=n+1)(q:n<=1000)(L:List Int)(r:D.chs[n]'XX=L):FnP prog 36 [Ea D] (· =aq L):=by
 refine FnP.of func36 O ntmps36 X2 λ_ _ _ _=>?_
 have d:=gM (ll:=D.chs) (k:=n) XX;have j:=gv (ll:=D.chs) (k:=n) XX;rw[r]at d;have e:((D.chs.length:Nat):Int)-1=(n:Int):=XX;exact Z2 O<|Gr O<|Ar 6 O<|Rs O (ag n underlying80 sT O O e XX j)<|Rs O (ar ⟨_,underlying22,O⟩ O d)<|A1 O<|Gt O<|⟨_,_,O,O,O⟩
theorem zO(l:List Trm)(j:l.length<=1000000):FnP prog 51 [.sl UG l.length (bd l)] (· = .sl UG l.length (bd l)):=by
 refine FnP.fg2 (FnP.of func51 O ntmps51 X2 λ_ _ _ _=>?_);have hc:=ni l;refine Z1 O<|Z1 O<|RL.call O (iG underlying44 O ?_);intro b hb;refine Gc O (λd=>?_) (λd=>?_)
 .have hl0:l=[]:=by have h:=hb d;rw[h]at hc;simp at hc;exact UM XX
  exact Z1 O<|Gt O<|⟨_,_,O,O,by rw[hl0];rfl⟩
 refine TM<|Gr O<|Rs O (dz 0 Oj O)<|A1 O<|Rs O (dx 1 Oj O O O (.inl ⟨UG,O⟩) XX (λc hc=>by obtain⟨y,_,hy⟩:=UU.1 hc;simp only[By,Vy,Xd]at hy;rcases hy with rfl|rfl|rfl<;>rfl) XX O) ?_;exact A1 O<|TN (TR 1 O O)<|Gt O<|⟨_,_,O,O,show PV.sl UG (0+l.length) ([]++bd l)=_ by rw[UQ,Vo]⟩
theorem xY(l:List Prr)(j:l.length<=1000000):FnP prog 52 [.sl UG l.length (bj l)] (· = .sl UG l.length (bj l)):=by
 refine FnP.fg2 (FnP.of func52 O ntmps52 X2 λ_ _ _ _=>?_);have hc:=nj l;refine Z1 O<|Z1 O<|RL.call O (iG underlying45 O ?_);intro b hb;refine Gc O (λd=>?_) (λd=>?_)
 .have hl0:l=[]:=by have h:=hb d;rw[h]at hc;simp at hc;exact UM XX
  exact Z1 O<|Gt O<|⟨_,_,O,O,by rw[hl0];rfl⟩
 refine TM<|Gr O<|Rs O (dz 0 NS O)<|A1 O<|Rs O (dx 1 NS O O O (.inl ⟨UG,O⟩) XX (λc hc=>by obtain⟨y,_,hy⟩:=UU.1 hc;simp only[By,Vy,Xd]at hy;rcases hy with rfl|rfl|rfl|rfl|rfl<;>rfl) XX O) ?_;exact A1 O<|TN (TR 1 O O)<|Gt O<|⟨_,_,O,O,show PV.sl UG (0+l.length) ([]++bj l)=_ by rw[UQ,Vo]⟩
noncomputable abbrev entC(e:En):List PV:=bh e.v::Mr (cn e.g.m)
noncomputable def entsC(l:List En):List PV:=l.flatMap entC
theorem wB(l:List En):(entsC l).length=l.length*4:=bL _ 4 (λ_=>rfl) l
theorem fM{l:List En}(h:k<l.length):((entsC l).drop (k*4)).take 4=entC l[k]:=cZ _ 4 (λ_=>rfl) l k h
theorem kB{l:List En}(h:k<l.length):entsC l≠[]:=λe=>by have:=wB l;rw[e]at this;simp at this;omega
theorem Em(l:List En)(e:En):entsC l++entC e=entsC (l++[e]):=by simp only[entsC,U6,UJ,W9,Vg]
noncomputable def lstsC(l:List (List En)):List PV:=l.map λE=> .sl UG E.length (entsC E)
theorem rM{l:List (List En)}(h:k<l.length):(lstsC l)[k*1]? =UF (.sl UG l[k].length (entsC l[k])):=by simp[lstsC,h]
theorem qo{l:List (List En)}(h:k<l.length):lstsC l≠[]:=λe=>by rw[lstsC,Wz]at e;subst e;simp at h
noncomputable abbrev vwsP(l:List (List En))(t:MC):PV:=.agg (.sl UG l.length (lstsC l)::Mr t)
theorem Ay:cn gz.m=⟨((0:Int):Rat),[],[]⟩:=by
 have h:gz.m=cnt ((0:Nat):Int):=Mm.Sem.same (by show(0:Rat)=(((0:Nat):Int):Rat);rfl) (λ_=>rfl) (λ_ _=>rfl);rw[h];exact AY 0
theorem qb:a6 ((0:Int):Rat)=⟨#[48]⟩:=by decide+kernel
theorem AU:FnP prog 53 [] (· =kA (cn gz.m)):=by
 refine FnP.fg2 (FnP.ofC func53 O ntmps53 X2 λ_ _ _ _=>?_);exact Z1 O<|Z2 O<|Gt O<|⟨_,_,O,O,⟨au ⟨_,underlying47,O⟩ EV O O O,X5⟩,by rw[Ay];show _=PV.agg [.str (a6 ((0:Int):Rat)),_,_];rw[qb];rfl⟩
theorem QK{L:List En}{key:List ByteArray}(d:i<L.length)(j:∀e∈L.take i,e.v≠key)(r:L[i].v=key):atV L key=L[i].g:=by
 have q:L.find? (λe=>decide (e.v=key))=UF L[i]:=by
  rw[List.find?_eq_some_iff_append];exact⟨by simpa using r,L.take i,L.drop (i+1),by rw[<-Us d,U3],λe he=>by simpa using j e he⟩
 unfold atV;rw[q];rfl
theorem SF(l:List (List En))(c0:ByteArray)(b1 b2:Option Bool)(k1 k2:Nat)(q1 q2:List PV)(r:Nat)(Z:r<l.length)(key:List ByteArray)(hk:key.length<=1000000)(hl:l[r].length<=1000000)(he:∀e∈l[r],e.v.length<=1000000/\MF1 (cn e.g.m)):FnP prog 19 [.agg [.sl UG l.length (lstsC l),.str c0,.sl b1 k1 q1,.sl b2 k2 q2],.int .i64 r,bh key] (· =kA (cn (atV l[r] key).m)):=by
 refine FnP.ofC func19 O ntmps19 X2 λ_ _ _ _=>?_
 have E:=rM Z;have G:=qo Z;have hz:=AU;generalize l[r]=L at*;refine Z2 O ?_;have H:decide ((r:Int)>=0)=VA:=SR XX;have J:decide ((r:Int)<(l.length:Int))=VA:=SR XX;refine Z1 O<|Rs O (T4 O O O H)<|Ar 5 O<|Rg O (T4 O O O J)<|A1 O<|Gc O (λj=>?_) (λj=>absurd j X2);refine Z3 O<|Rs O (ag r underlying42 Dz O O O Z G)<|Rs O (ar ⟨_,underlying57,O⟩ O E)<|Y2 O<|Gz O (st:=λX6:Nat=>([(2,UG),(6,UG),(22,UG),(23,UG),(24,UF (pIi X6))],[(1,UG)])) 2
  (I:=λX6=>X6<=L.length/\∀e∈L.take X6,e.v≠key) (μ:=λX6=>L.length-X6) (x0:=(0)) (TO (aS O) (aO XY) O O) (⟨aJ _,λe h=>absurd h X2⟩) ?_
 rintro i ⟨hi,hno⟩;refine Z1 O<|Gp O (λB=>?_) (λB=>?_)
 .have hlt:i<L.length:=XX;have q:=fM hlt;have M:=kB hlt;obtain⟨hev,hem⟩:=he _ (ak hlt);have U:=zn L[i].v key hev hk;have t:=zO (tmL (cn L[i].g.m).s) (by rw[gR];exact hem.ls);have A:=xY (prL (cn L[i].g.m).p) (by rw[gQ];exact hem.lp);rw[gR]at t;rw[gQ]at A;have V:L.take (i+1)=L.take i++[L[i]]:=sh hlt;have Y:L[i].v=key->atV L key=L[i].g:=QK hlt hno;generalize L[i]=en at*;refine TM<|Gr O<|Rs O (ag i underlying57 Ef O O O hlt M)<|Rs O (aF ⟨_,underlying59,O⟩ Ef O q O)<|Y2 O<|Z3 O<|Rs O (aa call50 U O)<|Gc O (λd=>?_) (λd=>?_)
  .have hv:=Y (V9 d);refine UB 13 O<|Dr 6 O<|Ds [] O (λτ h=>aa call51 t (h.aE O)) O XY<|Dr 3 O<|Ds [] O (λτ h=>aa call52 A (h.aE O)) O XY<|Dr 2 O ?_;refine⟨XY,?_⟩;exact Gt O<|⟨_,_,O,O,⟨au ⟨_,underlying47,O⟩ EV O O O,X5⟩,by rw[hv];rfl⟩
  have hv:en.v≠key:=VY d;exact TM<|Z2 O<|⟨(i+1),TO (aS O) (aO XY) O O,⟨XX,λe h=>by rw[V,UN,IT]at h;rcases h with h|rfl;exact hno e h;exact hv⟩,XX⟩
 have hmi:atV L key=gz:=by
  have e1:L.find? (λe=>decide (e.v=key))=UG:=List.find?_eq_none.2 (λe h=>by have:=hno e (by rw[aG XX];exact h);simpa using this);unfold atV;rw[e1];rfl
 exact Gx O<|Gr O<|Rs O (aa call53 hz O)<|A1 O<|Gt O<|⟨_,_,O,O,⟨au ⟨_,underlying47,O⟩ EV O O O,X5⟩,by rw[hmi];rfl⟩
end
section
open Go.RowKit Mk Jn Mm Vw
theorem K5(A B:Option Addr)(c d:Nat)(l m:List ByteArray)(s t:ByteArray)(A2 A3 B2 B3:Option Addr)(n2 c2 n3 c3 k2 d2 k3 d3:Nat)(w:World)(h:Row w R A (PC l)){R':Nat->Prop}(q:Row w R' B (PC m))(r:l.length<=1000000)(E:m.length<=1000000):
  Calls prog 33 #[.agg #[.slice A l.length c,.string s,.slice A2 n2 c2,.slice A3 n3 c3],.agg #[.slice B m.length d,.string t,.slice B2 k2 d2,.slice B3 k3 d3]] w λe w'=>e= .returned (.int .i64 (tA l m))/\∃n os',w'=Go.Sort.grow (w.drewN n) os':=by
 have j:=λo1 o2=>BW A B c d l m ((w.alloc o1).alloc o2) ((h.alloc o1).alloc o2) ((q.alloc o1).alloc o2) r E
 clear h q;generalize tA l m=z at j ⊢
 go_enter func33,ntmps33
 go_wp2_with (go_at_call 34;refine(j _ _).mono ?_;rintro e w' ⟨rfl,rfl⟩)
 go_ret
 exact⟨O,0,_,by rw[Go.Sort.alloc_eq_grow,Go.Sort.alloc_eq_grow,Go.Sort.grow_grow];rfl⟩
structure EntV(w:World)(R:Nat->Prop) where
 x:En
 us:List Value
 rel:RelPL w R (entC x) us
 len:x.v.length<=1000000
theorem EntV.cells(q:∀b,R b->b<w.heap.size)(y:EntV w R):∃A c s A2 n2 c2 A3 n3 c3,y.us=[.slice A y.x.v.length c,.string s,.slice A2 n2 c2,.slice A3 n3 c3]/\Row w R A (PC y.x.v):=by
 have h:=y.rel;simp only[RelPL,RelP]at h;obtain⟨u,vs,e,⟨A,c,rfl,_,_,_,_,h5⟩,u2,vs2,rfl,rfl,u3,vs3,rfl,⟨A2,c2,rfl,_⟩,u4,vs4,rfl,⟨A3,c3,rfl,_⟩,rfl⟩:=h;refine⟨A,c,_,A2,_,c2,A3,_,c3,e,λd=>?_⟩;obtain⟨b,off,us,rfl,h6,h7,h8⟩:=h5 (λe=>d (by rw[Wz]at e ⊢; exact e));have j:=sA h6;subst j;exact⟨b,off,O,h7,q b h7,h8⟩
theorem EntV.Tm(y:EntV w R):y.us.length=4:=y.rel.length
theorem EntV.one(y:EntV w R):∀v∈y.us,v.oneCell'=VA:=by
 have h:=y.rel;simp only[RelPL,RelP]at h;obtain⟨u,vs,e,⟨A,c,rfl,_⟩,u2,vs2,rfl,rfl,u3,vs3,rfl,⟨A2,c2,rfl,_⟩,u4,vs4,rfl,⟨A3,c3,rfl,_⟩,rfl⟩:=h;rw[e];intro v hv;simp only[By,Vy,Xd]at hv;rcases hv with rfl|rfl|rfl|rfl<;>rfl
theorem Cd:∀{l:List En}{us:List Value},(∀x∈l,x.v.length<=1000000)->RelPL w R (l.flatMap entC) us->∃ds:List (EntV w R),ds.map (·.x)=l/\ds.flatMap (·.us)=us
 |[],us,_,h=>⟨[],O,by simp[RelPL]at h;simp[h]⟩
 | x::l,us,hl,h=>by
   have h0:RelPL w R (entC x++l.flatMap entC) us:=h;have d:=h0.take 4;have j:=h0.drop 4;rw[show(entC x++l.flatMap entC).take 4=entC x from XQ O]at d;rw[show(entC x++l.flatMap entC).drop 4=l.flatMap entC from List.drop_left' O]at j;obtain⟨ds,e1,e2⟩:=Cd (λy hy=>hl y (by simp[hy])) j;exact⟨⟨x,us.take 4,d,hl x X2⟩::ds,by simp[e1],by simp[e2]⟩
theorem xc{w':World}(d:∀b,R b->w'.heap[b]? =w.heap[b]?):∀(ds:List (EntV w R)),RelPL w' R ((ds.map (·.x)).flatMap entC) (ds.flatMap (·.us))
 |[]=>by simp[RelPL]
 | y::ds=>by
   have h1:RelPL w' R (entC y.x) y.us:=RelPL.mono (λb hb=>⟨hb,d b hb⟩) _ _ y.rel;have j:=h1.append (xc d ds);rw[cd,UJ,UJ];exact j
theorem Ex(l:List En)(H:l.length<=1000000)(G:∀x∈l,x.v.length<=1000000):
  FnO prog 32 1 0 [.gsl big 4 l.length,.pv (.fn (.func 33) [] [])] [(big,.gro 59 (entsC l))] (λv ob'=>∃l',l'.Perm l/\(l'.Pairwise λa b=>bB b.v a.v=WA)/\v= .tup []/\ob'=aA [(big,.gro 59 (entsC l'))]):=by
 intro w m R us hR hrel;simp only[RelL,Rel,RelP]at hrel;obtain⟨u1,us1,rfl,⟨_,A,c,rfl,hnc,hcm,h0,h1⟩,u2,us2,rfl,⟨fs,cs,rfl,hfs,hcs⟩,rfl⟩:=hrel;obtain rfl:=(by simpa[RelPL]using hfs:fs=[]);obtain rfl:=(by simpa[RelPL]using hcs:cs=[]);refine(lO (α:=EntV w R.p) (λy=>y.us) (λy=>y.Tm) entC (λ_=>rfl) XZ (λy=>y.x) (λd=>d.Pairwise λa b=>bB b.x.v a.x.v=WA) List.Pairwise.nil hR (λh=>(h0 h).1) h1 (λus h=>Cd G h) (λw' B d=>xc B d)
  (AnyF.slices_SortFunc_none Tryz.sortEnt UG c _ w) ?_).mono ?_
 .intro b d arr hds hpos hb ht hbs hbR;have j:d.length=l.length:=by rw[<-hds,AS]
  haveI:Inhabited (EntV w R.p):=⟨d[0]'XX⟩
  have s:CmpLays prog 33 #[] (λy:EntV w R.p=>y.us) 4 (λx y=>tA x.x.v y.x.v) b 0 d.toArray.size w:=by
   intro mm os dk _ x y;obtain⟨A1,c1,s1,A2,n2,c2,A3,n3,c3,e1,r1⟩:=x.cells hR.rsz;obtain⟨B1,d1,t1,B2,k2,d2,B3,k3,d3,e2,r2⟩:=y.cells hR.rsz;have q:=vJ XZ (λy:EntV w R.p=>y.us) (λy=>y.Tm) w b mm dk os hbs;have B:∀b',R.p b'->b'<w.heap.size->(sortWorldK (λy:EntV w R.p=>y.us) 4 w b 0 mm dk os).heap[b']? =w.heap[b']? :=λb' h1 h2=>q.block b' h2 λe=>hbR (e▸h1)
   have:=K5 A1 B1 c1 d1 x.x.v y.x.v s1 t1 A2 A3 B2 B3 n2 c2 n3 c3 k2 d2 k3 d3 (sortWorldK (λy:EntV w R.p=>y.us) 4 w b 0 mm dk os) (r1.gY q.size λb' _ _ h1 h2=>B b' h1 h2) (r2.gY q.size λb' _ _ h1 h2=>B b' h1 h2) x.len y.len;show Calls _ _ (#[.agg x.us.toArray,.agg y.us.toArray]++ #[]) _ _;rw[e1,e2,Array.append_empty];exact this
  have t:=AnyQ.slices_SortFunc Tryz.sortEnt 4 isAgg59 sizeOf59 (λy:EntV w R.p=>y.us) (λy=>y.Tm) (λy=>y.one) (λx y=>tA x.x.v y.x.v) (F9 λy:EntV w R.p=>y.x.v) 33 #[] b 0 c d.toArray w call33 s (qz XZ (λy:EntV w R.p=>y.us) (λy=>y.Tm) hb ht) hbs (by rw[UL];omega);rw[UL,j]at t;refine Calls.mono t ?_;rintro e w' ⟨rfl,d',n,os,hp,q,rfl⟩;have E:d'.size=l.length:=hp.1.trans (by rw[UL,j]);refine⟨O,d'.toList,permIn_all (by rw[UL,j]) hp,(jM E q).imp fun{a b} h=>?_,vJ XZ (λy:EntV w R.p=>y.us) (λy=>y.Tm) w b n d' os hbs⟩;rw[IF λy:EntV w R.p=>y.x.v]at h;exact h
 rintro e w' ⟨u,v,ob',m',R',rfl,⟨l',ds',hp,rfl,q,rfl,rfl⟩,r⟩;refine⟨u,_,_,m',R',O,⟨_,hp,?_,O,O⟩,r⟩;rw[VW];exact q
end
section
open Go.RowKit Mk Jn Mm Vw
structure VB(S:Sch)(P:List Int)(T:List (List Rw))(Q:List Par)(X:Nat->List ByteArray)(lf:Int->ByteArray->Gv):Prop where
 sb:SB S
 sj:SJn S
 ord:OrdOk S P
 p5:P.length<=5
 p0:0<P.length
 r3:S.rels.length<=3
 tl:T.length=S.rels.length
 t60:∀l∈T,l.length<=60
 tw:∀l∈T,∀x∈l,0<=x.w/\x.w<=10^5
 q:Q.length<=1000
 x1:∀a,∀t∈X a,t.size<=1000
 lfx:LfX Q X lf
 lift:∀v:Nat,v<P.length->∀t∈X v,FnP prog 75 [gg S,.int .i64 v,.str t] (· =momP (lf v t).m)
 tb:TbX X S T
 en:∀v:Nat,v<P.length->gP Gv.n (vwS S P T lf v)<=216
 ew:∀v:Nat,v<P.length->gP Gv.w (vwS S P T lf v)<=40000
 tot:(totV S P T lf).w<=40000
section
variable {S:Sch}{P:List Int}{T:List (List Rw)}{Q:List Par}{X:Nat->List ByteArray}{lf:Int->ByteArray->Gv}
theorem VB.len(h:VB S P T Q X lf)(d:v<P.length):(vwS S P T lf v).length<=216:=
 AI (Ri λe he=>(OG h.lfx h.tb v e he).n) (h.en v d)
theorem VB.ev(h:VB S P T Q X lf)(j:v<P.length){e:En}(d:e∈vwS S P T lf v):ItX Q X (gh S P v) e.v e.g/\e.g.w<=40000/\e.g.k<=5:=
 ⟨OG h.lfx h.tb v e d,AI (zN d) (h.ew v j),AI (vwS_k h.ord.jE (λv t=>Vl (h.lfx.k v t)) j e d) h.p5⟩
theorem Fp(h:VB S P T Q X lf)(d:v<P.length):∀a∈gh S P v,0<=a/\a<(S.attrs.length:Int):=λa ha=>by
 obtain⟨b,hb,e⟩:=l8 h.ord.jE d (U0 _ (J0.1 ha).1);have:=h.ord.len;omega
theorem HO(d:v<n):(upZ n)[v]'(by rw[bo];exact d)=(v:Int):=by simp[upZ]
theorem pl_ch(d:v<P.length):(bC S P).chs[v]'(by simp[bC,bo];omega)=aC P v:=by grind[bC,AS,bo,HO]
theorem E7(d:v<P.length):(bC S P).kes[v]'(by simp[bC,bo];omega)=gh S P v:=by
 simp only[bC,VC,HO d]
theorem pl_ho(d:v<P.length):(bC S P).hos[v]'(by simp[bC,bo];omega)=hoL S P v:=by
 simp only[bC,VC,HO d];rfl
theorem qQ(P:List Int)(v:Int):(aC P v).length<=P.length:=by rw[<-mH];exact j7 _ _ _
theorem Oy{v:Int}:∀r∈hoL S P v,∃k:Nat,k<S.rels.length/\r=(k:Int):=by grind[hoL,nE,IS.1,Vj.1,Wt.1]
theorem VB.bc(h:VB S P T Q X lf)(q:v<P.length):BC S (bC S P) S.attrs.length v (gh S P v) Q X lf (eE S P T (vwS S P T lf) v):=by
 have s:=h.ord.len;have E:=h.p5;refine⟨by have:=h.p0;omega,XX,XX,by simp[bC,bo];omega,E7 q,by have:=uu S P v;omega,Fp h q,h.x1,h.lfx,h.lift v q,?_,?_⟩
 .intro p hp;have t:=zj (Q:=Q) (S:=S) (P:=P) h.tb (f:=vwS S P T lf) (v:=v) (λc _=>OG h.lfx h.tb c) p hp;rcases UN.1 hp with hp|hp
  .obtain⟨r,hr,rfl⟩:=IS.1 hp;obtain⟨k,hk,rfl⟩:=Oy r hr;have d:k<T.length:=by rw[h.tl];exact hk
   have A:oU S (k:Int)=S.rels[k].2:=by simp[oU,List.getD,hk]
   have B:gT T (k:Int)=T[k]:=by simp[gT,List.getD,d]
   refine⟨t,λi hi=>?_,λi hi=>?_,λa ha=>?_,?_,?_⟩
   .obtain⟨x,hxm,rfl⟩:=IS.1 hi;rw[B]at hxm;have:=h.tw _ (ak d) x hxm;show x.w.toNat<=_;omega
   .obtain⟨x,hxm,rfl⟩:=IS.1 hi;exact aJ _
   .have ha:a∈oU S (k:Int):=ha;rw[A]at ha;exact h.sj.b _ (ak hk) a ha
   .show(oU S (k:Int)).length<=1000;rw[A];exact h.sj.l _ (ak hk)
   show(List.map _ (gT T (k:Int))).length<=_;rw[AS,B];have:=h.t60 _ (ak d);omega
  obtain⟨c,hc,rfl⟩:=IS.1 hp;obtain⟨m,hm,rfl,_⟩:=bg.1 hc;have j:∀i∈(cK (gh S P m) (vwS S P T lf m)).is,∃e∈vwS S P T lf m,i=⟨e.v,e.g⟩:=λi hi=>by
   obtain⟨e,he,rfl⟩:=IS.1 hi;exact⟨e,(eW _).mem_iff.1 he,O⟩
  refine⟨t,λi hi=>?_,λi hi=>?_,λa ha=>?_,?_,?_⟩
  .obtain⟨e,he,rfl⟩:=j i hi;have:=(h.ev hm he).2.1;show e.g.w<=_;omega
  .obtain⟨e,he,rfl⟩:=j i hi;have:=(h.ev hm he).2.2;show e.g.k<=_;omega
  .exact Fp h hm a ha
  .have:=uu S P m;show(gh S P m).length<=_;omega
  show(List.map _ (EW (vwS S P T lf m))).length<=_;rw[AS,(eW _).length_eq];have:=h.len hm;omega
 unfold eE;rw[D8,AS,AS];have G:=j7 (S.rels.map λr=>je P r.2) S.rels.length v;have H:=qQ P v;have I:=h.r3;show(hoL S P v).length+_<=_;unfold hoL;omega
noncomputable def lnV(S:Sch)(P:List Int)(T:List (List Rw))(lf:Int->ByteArray->Gv)(D:List Int):Nat:=(D.map λv=>(vwS S P T lf v).length).sum
theorem Of(h:VB S P T Q X lf):∀{D:List Int},(∀v∈D,∃a:Nat,a<P.length/\v=(a:Int))->lnV S P T lf D<=216*D.length
 |[],_=>tJ _
 | v::D,hD=>by
   obtain⟨a,ha,rfl⟩:=hD v X2;have j:=h.len ha;have d:=Of h (D:=D) λx hx=>hD x (by simp[hx])
   unfold lnV at d ⊢;rw[cd,U4,IN];omega
theorem JV(d:UpOk P)(j:i<(aR P).length):∃a:Nat,a<P.length/\(aR P)[i]=(a:Int):=by
 have:=(b8 d).mem_iff.1 (ak j);exact cf.1 this
theorem Pe(h:VB S P T Q X lf)(I:i<(aR P).length)(e:(aR P)[i]=(v:Int)):
  FnO prog 30 2 0 [.ptr big 0,pIi v] (bldO S (bC S P) T S.attrs.length (3000-(lnV S P T lf ((aR P).drop (i+1)):Int)) (stV S P T lf ((aR P).drop (i+1)))) (λr ob'=>r= .pv (.bool VA)/\ob'=aA (bldO S (bC S P) T S.attrs.length (3000-(lnV S P T lf ((aR P).drop i):Int)) (stV S P T lf ((aR P).drop i)))):=by
 have q:=h.ord.jE;have s:=h.ord.len;have t:v<P.length:=by grind[JV]
 have E:=h.bc t;have G:(aR P).drop i=(v:Int)::(aR P).drop (i+1):=by rw[<-e];exact Us I
 have L:lnV S P T lf ((aR P).drop i)=(vwS S P T lf v).length+lnV S P T lf ((aR P).drop (i+1)):=by grind[lnV]
 have M:lnV S P T lf ((aR P).drop i)<=216*5:=by
  refine AI (Of h λx hx=>?_) (US _ ?_)
  .exact cf.1 ((b8 q).mem_iff.1 (V8 hx))
  rw[Vs,(b8 q).length_eq,bo];have:=h.p5;omega
 have d:viewE (lf v) S.attrs.length v (gh S P v) (eE S P T (vwS S P T lf) v)=vwS S P T lf v:=(oN q t).symm;have H:=TG (S:=S) (T:=T) (lf:=lf) q I e;have A:=HM (S:=S) (P:=P) (T:=T) (lf:=lf) ((aR P).drop (i+1));have J:=(Bx (S:=S) (T:=T) (lf:=lf) q I).2;rw[e]at J;have j:=Al (S:=S) (D:=bC S P) (T:=T) (n:=S.attrs.length) (left:=3000-(lnV S P T lf ((aR P).drop (i+1)):Int)) (vs:=stV S P T lf ((aR P).drop (i+1))) (ps:=eE S P T (vwS S P T lf) v) (v:=v) (K:=gh S P v) (Q:=Q) (X:=X) (lf:=lf)
  (by have:=h.r3;omega) (by rw[A];exact s) O h.tl (λl hl=>by have:=h.t60 l hl;omega) (λl hl x hx=>by have:=h.tw l hl x hx;omega)
  (hoL S P v) (aC P v) (by simp[bC,bo];omega) (by simp[bC,bo];omega) (pl_ho t) (pl_ch t) (by have:=j7 (S.rels.map λr=>je P r.2) S.rels.length v;have:=h.r3;show(nE _ _ _).length<=_;omega) (by have:=qQ P v;have:=h.p5;omega) Oy
  (λc hc=>by
   obtain⟨m,hm,rfl,_⟩:=bg.1 hc;exact⟨m,XX,by simp[bC,bo];omega,O⟩)
  (vwS S P T lf) (gh S P) (λk hk hk' hc=>by
   have B:k<P.length:=by rw[A]at hk;exact hk
   refine⟨?_,E7 B,Oh k,by have:=h.len B;omega⟩;rw[C1 hk,AT (J k hc)])
  rfl E XX (by rw[d];omega) (by rw[d];exact AI (h.ew v t) (by decide+kernel))
 rw[d,H]at j;have U:(3000-(lnV S P T lf ((aR P).drop (i+1)):Int))-((vwS S P T lf v).length:Int)=3000-(lnV S P T lf ((aR P).drop i):Int):=XX;rw[U]at j;exact j
end
noncomputable def vbBody:Code:=match Tryz.f8.body with
 |some (.seq _ (.seq _ (.seq _ (.seq _ (.seq (.seq _ (.block _ (.rangeFunc _ _ _ b))) _)))))=>b
 |_=> .skip
noncomputable def vbTail:Code:=match Tryz.f8.body with
 |some (.seq _ (.seq _ (.seq _ (.seq _ (.seq _ t)))))=>t
 |_=> .skip
noncomputable abbrev vbO(S:Sch)(D:VD)(T:List (List Rw))(n:Nat)(left:Int)(vs:List (Option (List En))):List (Nat×Ob):=[(big,.mix 79 [.ptr 9003 0]),(9001,.mix 49 [.pv nS,.pv (.str ⟨#[]⟩),.pv nS,.pv nS]),(9002,.mix 50 [pIi 0]),(9003,.mix 86 (bldM2 S D T n left 9004)),(9004,.cells 95 (vwsC vs))]
theorem L8{T:List (List Rw)}{l1 l2:Int}{vs1 vs2:List (Option (List En))}(j:FnO prog 30 2 0 [.ptr big 0,pIi v] (bldO S D T n l1 vs1) (λr ob'=>r= .pv (.bool VA)/\ob'=aA (bldO S D T n l2 vs2))):
  ∀m0 w0 F R0,AWR ⟨prog,m0,w0,F,R0⟩ Tryz.f8.ntmps vbBody (λex τ=>ex= .normal/\τ.le (mkS [] (vbO S D T n l2 vs2) 0)) (mkS [(9,.ptr big 0),(12,pIi v)] (vbO S D T n l1 vs1) 0):=by
 intro m0 w0 F R0
 repeat refine AWR.seq ?_
 refine AWR.block ?_
 repeat refine AWR.seq ?_
 refine AWR.region O<|Y2 O<|Rs O (bl [9003,9004] 0 call30 j O O O O ⟨O,O,X5⟩ XZ O)<|A1 O ?_
 repeat refine AWR.seq ?_
 refine AWR.cond O (λd=>absurd d XZ) (λd=>?_);exact AWR.skip<|⟨O,TO trivial (aO XY) O O⟩
end
section
open Go.RowKit Go.Shelf Mk Jn Mm Vw
section
variable {F:Fence}{n:Nat}{P:Program}(w:World){ops:Array Oper}{rest:List Oper}{o:Oper}{a:Act}{Q:Exit->Act->World->Prop}
theorem tV(j:o.guard=UG)(m:Operand)(d:o.op=Op.assign m)(q:wpListIn F n P ops Q rest (a.put o.dst (a.eval m)) w):wpListIn F n P ops Q (o::rest) a w:=by
 refine wpListIn_plain j λK' hK'=>?_
 unfold Oper.wpIn;refine⟨by simp[Oper.about,d],?_⟩;rw[Oper.semAt_plain F _ _ (by rw[d];intro c hc';cases hc')];simp[execOp,d];exact hK' _ _ q
end
theorem tq:∀{l:List Int}{us:List Value},RelPL w R (aN l) us->us=l.map (Value.int .i64)
 |[],us,h=>by simpa[RelPL]using h
 | x::l,us,h=>by
   simp only[cd,RelPL,RelP]at h;obtain⟨u,vs,rfl,rfl,h2⟩:=h;rw[tq h2];rfl
theorem Qc{L:List Int}(h:RelP w R (.fn (.func f) [] [.rp [aq L] 0]) u):
  ∃(b off:Nat)(A:Option Addr)(c:Nat),u= .func (.func f) #[] #[.pointer (UF ⟨b,off,UG⟩)]/\R b/\w.cell? ⟨b,off,UG⟩=UF (.slice A L.length c)/\∃bk o,(L≠[]->A=UF ⟨bk,o,UG⟩/\R bk)/\∀j (h:j<L.length),w.cell? ⟨bk,o+j,UG⟩=UF (.int .i64 L[j]):=by
 rw[RelP]at h;obtain⟨us,vs',rfl,h1,h2⟩:=h;simp only[RelPL]at h1 h2;obtain⟨u3,us3,rfl,h3,rfl⟩:=h2;subst h1;rw[RelP]at h3;obtain⟨b,off,us4,rfl,h4,h5⟩:=h3;simp only[RelPL]at h4;obtain⟨um,us5,rfl,h6,rfl⟩:=h4;have d:=h5.2 0 X2;simp only[RelP]at h6;obtain⟨A,c,rfl,_,_,_,_,h8⟩:=h6;refine⟨b,off,A,c,O,h5.1,by simpa using d,?_⟩;by_cases hL:L=[]
 .grind
 obtain⟨bk,o,us,rfl,g1,g2,g3⟩:=h8 (λe=>hL (by rw[Wz]at e;exact e));refine⟨bk,o,λ_=>⟨O,g2⟩,λj hj=>?_⟩;have q:us=L.map (Value.int .i64):=tq g1;subst q;have:=g3 j (by simpa using hj);simpa[hj]using this
noncomputable abbrev vbA(a:Act)(i v:Value):Act:=(Act.put { tmps:=((#[71,72]:Array Tmp).zip #[i,v]).foldl (λt (p,v)=>t.setIfInBounds p v) a.tmps,defers:=[] } (UF 12) (Act.eval { tmps:=((#[71,72]:Array Tmp).zip #[i,v]).foldl (λt (p,v)=>t.setIfInBounds p v) a.tmps,defers:=[] } (.tmp 72)))
theorem Oe(h:a.tmps.size=143)(i v:Value):(vbA a i v).eval (.tmp 9)=a.eval (.tmp 9)/\(vbA a i v).eval (.tmp 12)=v/\(vbA a i v).tmps.size=143:=by
 refine⟨?_,?_,?_⟩<;>simp[vbA,Act.put,Act.eval,h]
noncomputable def vbLoop:Code:=match Tryz.f8.body with
 |some (.seq _ (.seq _ (.seq _ (.seq _ (.seq (.seq _ b) _)))))=>b
 |_=> .skip
noncomputable abbrev vbS(S:Sch)(D:VD)(T:List (List Rw))(n:Nat)(left:Int)(vs:List (Option (List En))):List (Nat×Ob):=[(2,.mix 49 [.pv nS,.pv (.str ⟨#[]⟩),.pv nS,.pv nS]),(3,.mix 50 [pIi 0]),(4,.cells 95 (vwsC vs)),(5,.mix 86 (bldM2 S D T n left 4)),(6,.mix 79 [.ptr 5 0])]
theorem O9{P:List Int}{T:List (List Rw)}{Q:List Par}{X:Nat->List ByteArray}{lf:Int->ByteArray->Gv}(h:VB S P T Q X lf){G:PV->Prop}
  (hT:∀m0 w0 F R0,AW ⟨prog,m0,w0,F,R0⟩ Tryz.f8.ntmps vbTail (MD prog Tryz.f8 Tryz.f8.ntmps G) (mkS [(6,.ptr 9001 0),(7,.ptr 9002 0),(9,.ptr big 0)] (vbO S (bC S P) T S.attrs.length (3000-(lnV S P T lf (aR P):Int)) (stV S P T lf (aR P))) 0))
  (w:World) (R0:RT w (λ_=>False)) (hdf:R0.df=[]):
  AWX ⟨prog,λ_=>UG,w,λ_=>False,R0⟩ Tryz.f8.ntmps vbLoop (Exit.then (vbTail.wp prog (bodyPostM Fence.wide 2 prog Tryz.f8 (E0 w R0.p G))) (bodyPostM Fence.wide 2 prog Tryz.f8 (E0 w R0.p G)))
   (mkS [(6,.ptr 2 0),(7,.ptr 3 0),(9,.ptr 6 0),(70,.pv (.fn (.func 72) [] [.rp [aq (aR P)] 0]))] (vbS S (bC S P) T S.attrs.length 3000 (stV S P T lf [])) 7):=by
 rintro a W ⟨m,R,hw⟩;have hP:=h.ord.jE;have s:a.defers=[]:=hw.df.trans hdf;have d:a.tmps.size=143:=hw.sz.trans ntmps8;obtain⟨b,off,A,c,hfn,hRb,hcb,bk,o,hbk,hrow⟩:=Qc (show RelP W R (.fn (.func 72) [] [.rp [aq (aR P)] 0]) (a.eval (.tmp 70))from by have:=hw.sl 70 (by rw[ntmps8];decide);have e:(mkS [(6,V.ptr 2 0),(7,.ptr 3 0),(9,.ptr 6 0),(70,.pv (.fn (.func 72) [] [.rp [aq (aR P)] 0]))] (vbS S (bC S P) T S.attrs.length 3000 (stV S P T lf [])) 7).sl 70= .pv (.fn (.func 72) [] [.rp [aq (aR P)] 0]):=rfl;rw[e]at this;simpa only[Rel]using this);obtain⟨bs,hbl,hbt,hids⟩:=Ro hw [6,2,3,5,4] (vbO S (bC S P) T S.attrs.length 3000 (stV S P T lf [])) O O ⟨XY,XY,XY,XY,XY,X5⟩ O XZ;have hwl:(aR P).length=P.length:=by rw[(b8 hP).length_eq,bo]
 have hp5:=h.p5;have eg:=enters_of (P:=prog) func72 XY O;have B:∀b,R b->b<W.heap.size:=hw.hr.rsz;have E:=Ga b off bk o (aR P) A c W (B b hRb) (λM=>⟨(hbk M).1,B bk (hbk M).2⟩) hcb hrow XX;have H:∃N,m 2=UF (bs[1]'(by rw[hbl];decide),N):=hids 1 2 _ O (BY _);have I:∃N,m 3=UF (bs[2]'(by rw[hbl];decide),N):=hids 2 3 _ O (BY _);have J:∃N,m 6=UF (bs[0]'(by rw[hbl];decide),N):=hids 0 6 _ O (BY _);have e6:a.eval (.tmp 6)= .pointer (UF ⟨bs[1]'(by rw[hbl];decide),0,UG⟩):=by
  have:=hw.sl 6 (by rw[ntmps8];decide);obtain⟨N,hN⟩:=H;exact this.2 _ _ hN
 have e7:a.eval (.tmp 7)= .pointer (UF ⟨bs[2]'(by rw[hbl];decide),0,UG⟩):=by
  have:=hw.sl 7 (by rw[ntmps8];decide);obtain⟨N,hN⟩:=I;exact this.2 _ _ hN
 have e9:a.eval (.tmp 9)= .pointer (UF ⟨bs[0]'(by rw[hbl];decide),0,UG⟩):=by
  have:=hw.sl 9 (by rw[ntmps8];decide);obtain⟨N,hN⟩:=J;exact this.2 _ _ hN
 have L:∀q,R q->R0.p q\/w.heap.size<=q:=λq hq=>(hw.hr.rfr q hq).imp id λe=>e.elim id False.elim
 have Y:=hw.hr.r0;have Z:(3000:Int)=3000-(lnV S P T lf ((aR P).drop ((aR P).length-0)):Int):=by
  rw[Nat.sub_zero,List.drop_length];show(3000:Int)=3000-((0:Nat):Int);omega
 have aa:stV S P T lf []=stV S P T lf ((aR P).drop ((aR P).length-0)):=by rw[Nat.sub_zero,List.drop_length]
 clear hw hids H I J;refine wp_block (wpIn_wide (n:=2).1 ?_);refine mT (nt:=Tryz.f8.ntmps) (w0:=w) (R0:=R) (bs:=bs) WA (encs:=λx:Nat×Int=> #[.int .i64 (x.1:Int),.int .i64 x.2]) hfn eg E (λ_=>rfl) (λh=>by cases h) (λ_ U V hk q hq=>hk q (by rcases hq with rfl|⟨h1,rfl⟩;exact hRb;exact(hbk h1).2))
  (λpre os k=>os=vbO S (bC S P) T S.attrs.length (3000-(lnV S P T lf ((aR P).drop ((aR P).length-pre.length)):Int)) (stV S P T lf ((aR P).drop ((aR P).length-pre.length)))/\k=0) ⟨?i0,O⟩ hbt (λh=>by cases h)
  (λx _=>vbA a (.int .i64 (x.1:Int)) (.int .i64 x.2)) (λ_ W=>W) (λx W=>Below.refl _ W) (λx W=>⟨O,(Oe d _ _).2.2.trans ntmps8.symm⟩) ?assign ?body ?done
 case i0=>
  show vbO S (bC S P) T S.attrs.length 3000 (stV S P T lf [])=vbO S (bC S P) T S.attrs.length (3000-(lnV S P T lf ((aR P).drop ((aR P).length-0)):Int)) (stV S P T lf ((aR P).drop ((aR P).length-0)));rw[<-Z,<-aa]
 case assign=>
  intro l x W K hK;exact wpIn_region_lit (tV _ O (.tmp 72) O (wpListIn_nil hK))
 case body=>
  rintro pre x os k ⟨rfl,rfl⟩ ⟨hpl,rfl⟩;obtain⟨i,hi⟩:∃i,i=(aR P).length-1-pre.length:=⟨_,O⟩;have r:i<(aR P).length:=XX;obtain⟨v,hv,e⟩:=JV hP r;have hc:=Pe h r e;have ei:(aR P).length-pre.length=i+1:=XX;rw[ei,<-hi];have ab:(aR P).getD i 0=(v:Int):=by rw[<-e];simp[List.getD,r]
  rw[ab];refine⟨[(9,.ptr big 0),(12,pIi v)],_,L8 hc,?_,?_⟩
  .rintro ex τ ⟨rfl,hle⟩;refine⟨_,_,hle,λj hj=>?_,O,?_,O⟩
   .rw[hbl]at hj;have hj:j<5:=hj;have:j=0\/j=1\/j=2\/j=3\/j=4:=XX;rcases this with rfl|rfl|rfl|rfl|rfl<;>rfl
   have:(aR P).length-(pre++[(i,(v:Int))]).length=i:=by simp;omega
   rw[this]
  .intro W1 W2 m2 R2 _ hm2 _ t _;obtain⟨a9,a12,_⟩:=Oe d (.int .i64 (i:Int)) (.int .i64 (v:Int));by_cases t9:t=9
   .subst t9;show Rel W2 m2 (avK 0) R2 (.ptr big 0) ((vbA a _ _).eval (.tmp 9));rw[a9,e9];obtain⟨N,hN⟩:=hm2 0 _ (BY _);exact⟨XZ,λb' N' e=>by have e:=hN.symm.trans e;cases e;rfl⟩
   by_cases t12:t=12
   .subst t12;show Rel W2 m2 (avK 0) R2 (pIi v) ((vbA a _ _).eval (.tmp 12));rw[a12];simp only[Rel,RelP]
   have b9:Nat.beq t 9=WA:=by cases hb:Nat.beq t 9;rfl;exact absurd (bZ hb) t9
   have b12:Nat.beq t 12=WA:=by cases hb:Nat.beq t 12;rfl;exact absurd (bZ hb) t12
   have e:look [(9,V.ptr big 0),(12,pIi v)] t= .pv .any:=by simp only[look,b9,b12,UZ]
   rw[e];simp only[Rel,RelP]
 case done=>
  rintro D X xs os k W2 hD hDl hDX hS ⟨rfl,rfl⟩ hB hdef;rw[hS,Nat.sub_self,List.drop_zero]at hB;have hB2:=hB.less Y L;refine Btw.tail (n:=Tryz.f8.ntmps) hT hB2 hDX hdef _ (by show _::a.defers=_;rw[s]) (d.trans ntmps8.symm) ?_;intro m2 R2 hm2 _ t _;show Rel W2 m2 (avK 0) R2 _ (a.eval (.tmp t));by_cases t6:t=6
  .subst t6;rw[e6];obtain⟨N,hN⟩:=hm2 1 _ (BY _);exact⟨XZ,λb' N' e=>by have e:=hN.symm.trans e;cases e;rfl⟩
  by_cases t7:t=7
  .subst t7;rw[e7];obtain⟨N,hN⟩:=hm2 2 _ (BY _);exact⟨XZ,λb' N' e=>by have e:=hN.symm.trans e;cases e;rfl⟩
  by_cases t9:t=9
  .subst t9;rw[e9];obtain⟨N,hN⟩:=hm2 0 _ (BY _);exact⟨XZ,λb' N' e=>by have e:=hN.symm.trans e;cases e;rfl⟩
  have b6:Nat.beq t 6=WA:=by cases hb:Nat.beq t 6;rfl;exact absurd (bZ hb) t6
  have b7:Nat.beq t 7=WA:=by cases hb:Nat.beq t 7;rfl;exact absurd (bZ hb) t7
  have b9:Nat.beq t 9=WA:=by cases hb:Nat.beq t 9;rfl;exact absurd (bZ hb) t9
  have e:look [(6,V.ptr 9001 0),(7,V.ptr 9002 0),(9,V.ptr big 0)] t= .pv .any:=by simp only[look,b6,b7,b9,UZ]
  rw[e];simp only[Rel,RelP]
end
section
open Go.RowKit Go.Shelf Mk Jn Mm Vw
theorem FG(l:List (List En))(E:List En):lstsC l++[.sl UG E.length (entsC E)]=lstsC (l++[E]):=by simp[lstsC]
abbrev SM(g:Gv):Prop:=FnP prog 31 [momP g.m] (· = .tup [kA (cn g.m),.int .i64 0])
theorem Kt{T:List (List Rw)}{left:Int}(VS LS:List (List En))(hn:VS.length=n)(aP:n<=1000)(hL:LS=VS.map fR)(hE:∀E∈VS,EnOk E/\E.length<=1000/\∀e∈E,e.v.length<=1000/\SM e.g/\MF1 (cn e.g.m))
  (hD:D.chs.length=n+1) (RS:List Int) (hR:D.chs[n]'XX=RS) (hRl:RS.length<=1000) (Z:Nat->Gv) (h0:Z 0=Gv.whole 1)
  (hZ:∀i (hi:i<RS.length),∃r,∃hr:r<LS.length,RS[i]=(r:Int)/\FnP prog 38 [kA (cn (atV LS[r] []).m)] (· =momP (atV LS[r] []).m)/\FnP prog 37 [momP (Z i).m,momP (atV LS[r] []).m] (· =momP (Z (i+1)).m))
  (hC:SM (Z RS.length)):∀m0 w0 F R0,AW ⟨prog,m0,w0,F,R0⟩ Tryz.f8.ntmps vbTail (MD prog Tryz.f8 Tryz.f8.ntmps (· = .tup [vwsP LS (cn (Z RS.length).m),.int .i64 0])) (mkS [(6,.ptr 9001 0),(7,.ptr 9002 0),(9,.ptr big 0)] (vbO S D T n left (VS.map UF)) 0):=by
 intro m0 w0 F R0;have hLl:LS.length=n:=by rw[hL,AS,hn]
 have J:(vwsC (VS.map UF)).length=n*2:=by rw[o8,AS,hn]
 have ac:FnP prog 35 [.int .i64 1] (· =momP (Z 0).m):=by rw[h0];exact lV 1 XZ
 have ad:=Fx D n hD aP RS hR;refine Z1 O<|TN (TR (o:=.cells 95 (vwsC (VS.map UF))) 9004 XY O)<|TN (St.cV (T':=49) (cs:=[.pv nS,.pv (.str ⟨#[]⟩),.pv nS,.pv nS]) 0 0 1 1 57 XY O O)<|Gr O<|Ar 6 O<|Gz O (st:=λX6:Nat=>([(6,UG),(7,UG),(9,UG),(13,UG),(81,UG),(82,UG),(83,UF (pIi X6))],[(big,UG),(0,UF (.mix 49 [.gsl 1 1 X6,.pv (.str ⟨#[]⟩),.pv nS,.pv nS])),(1,UF (.gro 57 (lstsC (LS.take X6)))),(9001,UG),(9002,UG),(9003,UG)])) 2
  (I:=λX6=>X6<=n) (μ:=λX6=>n-X6) (x0:=(0)) (TO (aS O) (aO XY) O O) (aJ _) ?_
 rintro i hi;refine Z1 O<|Gp O (λab=>?_) (λab=>?_)
 .have hlt:i<n:=XX;have L:i<VS.length:=XX;have af:i<LS.length:=XX;have aj:i<(VS.map UF).length:=by rw[AS];exact L
  have B:=CU aj;rw[VC]at B;have al:vwsC (VS.map UF)≠[]:=λe=>by rw[e]at J;simp at J;omega
  obtain⟨hok,hEl,hEe⟩:=hE _ (ak L);have am:LS[i]=fR VS[i]:=by simp[hL]
  have M:=FG (LS.take i) LS[i];rw[<-sh af,am]at M;have hlt2:(lstsC (LS.take i)).length=i*1:=by simp[lstsC];omega
  have hd:=NQ hok;generalize VS[i]=E at*;refine TM<|Gr O<|Rs O (ag i underlying84 RH O O O hlt al)<|Rs O (aF ⟨_,underlying95,O⟩ RH O B O)<|Y2 O<|Z1 O<|TN (TU 16 3 4 59 O O)<|Z2 O<|Rs O (eu 4 underlying92 O O)<|Gz O (st:=λq:Nat×List En×List En×List PV=>([(6,UG),(7,UG),(9,UG),(13,UG),(15,UG),(16,UF (.gsl 3 4 q.1)),(81,UG),(82,UG),(83,UG),(89,UG)],[(big,UG),(0,UG),(1,UG),(2,UG),(3,UF (.gro 59 (entsC q.2.2.1))),(4,UF (.mi q.2.2.2 (cu q.2.1) (kY q.2.1))),(9001,UG),(9002,UG),(9003,UG)])) 5
   (I:=λq=>q.1=q.2.2.1.length/\(q.2.2.1++q.2.1).Perm E) (μ:=λq=>q.2.1.length) (x0:=(0,E,[],[])) (TO (aS O) (aO XY) O O) (⟨O,UX _⟩) ?_
  rintro⟨k,todo,acc,cur⟩ ⟨hk,hp⟩;try simp only at hk hp ⊢
  refine Gr O<|RL.call O (fq O O ?_);rintro b rest cur2 ks2 vs2 hN;refine Rs O (cF O O)<|Gc O (λA=>?_) (λA=>?_)
  .obtain⟨_,l1,e,l2,rfl,rfl,rfl,rfl,rfl⟩:=(eQ.of hN).resolve_left (by rintro⟨h,_⟩;rw[h]at A;cases A);have U:e∈E:=hp.mem_iff.1 X2;obtain⟨hev,hco,_⟩:=hEe e U;have an:=uN hok U λe=>momP e.g.m
   have V:acc.length<=1000:=by have:=hp.length_eq;simp at this;omega
   have ao:=wB acc;rw[<-hk]at ao V;have ap:=Em acc e;have G:((acc++[e])++(l1++l2)).Perm E:=by
    refine List.Perm.trans ?_ hp;rw[WH];exact List.Perm.append_left _ (show(e::(l1++l2)).Perm (l1++e::l2)from Xq.symm)
   exact TM<|Gr O<|Rs O (er O O)<|Ar 4 O<|Z3 O<|Rs O (oa (zp:=.agg [.bool WA,.sl (UF VA) 0 [],.bool WA,.sl (UF VA) 0 [],.nilmap,.nilmap]) underlying93 underlying9 (.inr (.inl ⟨O,hd⟩)) O O tY O an O)<|Rs O (aa call31 hco O)<|Ar 6 O<|Gr O<|Ar 7 O<|⟨(k+1,l1++l2,acc++[e],[.str e.t,bh e.v]),TP [0,1,2,7,4] (aT O) ⟨XY,XY,XY,XY,UI (b:=UF (.gro 59 (entsC acc++entC e))) XY (ah (λc=>UF (Ob.gro 59 c)) ap),XY,XY,XY,XY,X5⟩ O O XZ O,⟨by simp[hk],G⟩,X2⟩
  obtain⟨_,rfl,_⟩:=(eQ.of hN).resolve_right (by rintro⟨h,_⟩;rw[h]at A;cases A);rw[Vg]at hp;have au:=Ex acc (by have:=hp.length_eq;omega) (λx hx=>by have:=(hEe x (hp.mem_iff.1 hx)).1;omega);subst hk;refine Gx O<|Z1 O<|RL.call O (cj [3] 5 call32 O O O O (by exact⟨XY,X5⟩) XZ O au ?_);rintro _ _ ⟨l',hp2,ho,rfl,rfl⟩;obtain rfl:l'=fR E:=QU hok (hp2.trans hp) ho;have ax:acc.length=(fR E).length:=hp2.length_eq.symm;rw[ax];exact TN (TR (o:=.gro 59 (entsC (fR E))) 3 XY O)<|Gr O<|Ar 7 O<|Z2 O<|⟨(i+1),TP [0,6] (aT O) ⟨XY,XY,UI (b:=UF (.gro 57 (lstsC (LS.take i)++[.sl UG (fR E).length (entsC (fR E))]))) XY (ah (λc=>UF (Ob.gro 57 c)) M),XY,XY,XY,X5⟩ O O XZ O,hlt,XX⟩
 have hie:LS.take i=LS:=aG XX;have az:i=LS.length:=XX;rw[hie,az];refine Gx O<|TN (TR (o:=.gro 57 (lstsC LS)) 1 XY O)<|Gr O<|Rs O (aa call35 ac O)<|Y2 O ?_;show AW _ _ _ _ _;refine Z4 O<|Rs O (aa call36 ad O)<|Y2 O<|Gz O (st:=λd:Nat=>([(6,UG),(7,UG),(13,UG),(21,UG),(123,UG),(124,UG),(125,UF (pIi d))],[(big,UG),(0,UG),(2,UF (.mix 105 [.pv (.bool (decide ((cn (Z d).m).c.num<0))),.pv (bU (cn (Z d).m).c.num.natAbs),.pv (.bool (decide (((cn (Z d).m).c.den:Int)<0))),.pv (bU ((cn (Z d).m).c.den:Int).natAbs),.pv (.mp (ay bT (cn (Z d).m).s) (aV (cn (Z d).m).s)),.pv (.mp (ay ppP (cn (Z d).m).p) (aV (cn (Z d).m).p))])),(9001,UG),(9002,UG),(9003,UG)])) 3
  (I:=λd=>d<=RS.length) (μ:=λd=>RS.length-d) (x0:=(0)) (TO (aS O) (aO XY) O O) (aJ _) ?_
 rintro j hj;refine Z1 O<|Gp O (λH=>?_) (λH=>?_)
 .have hlj:j<RS.length:=XX;obtain⟨r,hr,hre,hof,hmu⟩:=hZ j hlj;have aA:r<VS.length:=XX;have aB:(aN RS)[j*1]? =UF (.int .i64 (r:Int)):=by rw[<-hre];simp[hlj]
  have G:=aM hlj;have Y:LS[r]=fR VS[r]:=by simp[hL]
  obtain⟨_,hrl,hrE⟩:=hE _ (ak aA);have aD:=SF LS ⟨#[]⟩ UG UG 0 0 [] [] r hr [] XZ (by rw[Y,(eV _).length_eq];omega) (λe he=>by rw[Y]at he;have:=hrE e ((eV _).mem_iff.1 he);exact⟨XX,this.2.2⟩);refine TM<|Gr O<|Rs O (ag j underlying22 sz3 O O O hlj G)<|Rs O (ar ⟨_,underlying3,O⟩ O aB)<|A1 O<|UB 7 O<|Dr 3 O<|Ds [] O (λτ h=>aa call19 aD (h.aE O)) O XY<|Ds [] O (λτ h=>aa call38 hof (h.aE O)) O XY<|Ds [] O (λτ h=>aa call37 hmu (h.aE O)) O XY<|D1 O ?_;refine⟨XY,?_⟩;exact Z2 O<|⟨(j+1),TO (aS O) (aO XY) O O,hlj,XX⟩
 have hje:j=RS.length:=XX;subst hje;exact Gx O<|Z1 O<|Rs O (aa call31 hC O)<|Ar 5 O<|Z3 O<|Gt O<|⟨[.agg (.pv (.sl UG LS.length (lstsC LS))::[.pv (.str (a6 (cn (Z RS.length).m).c)),.pv (.sl UG (cn (Z RS.length).m).s.length (bd (tmL (cn (Z RS.length).m).s))),.pv (.sl UG (cn (Z RS.length).m).p.length (bj (prL (cn (Z RS.length).m).p)))]),pIi 0],[vwsP LS (cn (Z RS.length).m),.int .i64 0],res2 (T1:=49) (T2:=50) (i:=9001) (j:=9002) O ⟨_,underlying49,O⟩ sz49 O O XY ⟨_,underlying50,O⟩ O XY,O,O⟩
end
section
open Go.RowKit Go.Shelf Mk Jn Mm Vw
theorem AWX.weaken{C:Ctx}{Post:Exit->Act->World->Prop}{τ:St}(d:σ.le τ)(h:AWX C n c Post τ):AWX C n c Post σ:=λa w hs=>h a w (d C n a w hs)
section
variable {S:Sch}{P:List Int}{T:List (List Rw)}{Q:List Par}{X:Nat->List ByteArray}{lf:Int->ByteArray->Gv}
theorem Ha{g:Gv}(h:GvOk Q g)(d:Q.length<=1000)(j:g.w<=40000)(q:g.k<=8):SM g:=
 Hc (cn g.m) h.s.cn.2.2.1 h.s.cn.2.2.2 (oH h d j q)
theorem Qx{g:Gv}(h:GvOk Q g)(d:Q.length<=1000)(j:g.w<=40000)(q:g.k<=8):FnP prog 38 [kA (cn g.m)] (· =momP g.m):=
 Md (cn g.m) (BU dI h.s.cn.2.2.1) (BU cN h.s.cn.2.2.2) (oH h d j q)
theorem VB.Sh(h:VB S P T Q X lf){r:Nat}(j:r<P.length):GvOk Q (atV (fR (vwS S P T lf r)) [])/\(atV (fR (vwS S P T lf r)) []).w<=40000/\(atV (fR (vwS S P T lf r)) []).k<=5:=by
 have d:∀e∈fR (vwS S P T lf r),e∈vwS S P T lf r:=λe he=>(eV _).mem_iff.1 he
 refine⟨R9 (λe he=>(h.ev j (d e he)).1.ok) [],?_,?_⟩<;>
 .unfold atV;cases he:(fR (vwS S P T lf r)).find? λe=>decide (e.v=[])with
  |none=>exact aJ _
  |some e=>first|exact(h.ev j (d e (Wy he))).2.1|exact(h.ev j (d e (Wy he))).2.2
theorem wT(rs:List Int)(r:Int)(z:Gv):totF S P T lf (rs++[r]) z=(totF S P T lf rs z).mul (atV (fR (vwS S P T lf r)) []):=by
 unfold totF;rw[W5];rfl
theorem VB.part(h:VB S P T Q X lf):∀i,i<=(aC P (-1)).length->GvOk Q (totF S P T lf ((aC P (-1)).take i) (Gv.whole 1))/\(totF S P T lf ((aC P (-1)).take i) (Gv.whole 1)).w<=40000^i/\(totF S P T lf ((aC P (-1)).take i) (Gv.whole 1)).k<=5*i
 |0,_=>⟨GvOk.whole Q 1,tJ 1,aJ _⟩
 | i+1,hi=>by
   have hlt:i<(aC P (-1)).length:=XX;obtain⟨h1,h2,h3⟩:=h.part i XX;obtain⟨r,hr,e,_⟩:=bg.1 (ak hlt);obtain⟨g1,g2,g3⟩:=h.Sh hr;rw[sh hlt,wT,e];refine⟨h1.mul g1,?_,?_⟩
   .show _*_<=_;rw[Vc];exact Va h2 g2
   show _+_<=_;omega
theorem P4(h:VB S P T Q X lf):∀m0 w0 F R0,AW ⟨prog,m0,w0,F,R0⟩ Tryz.f8.ntmps vbTail (MD prog Tryz.f8 Tryz.f8.ntmps (· = .tup [vwsP ((List.range P.length).map λa:Nat=>fR (vwS S P T lf a)) (cn (totV S P T lf).m),.int .i64 0])) (mkS [(6,.ptr 9001 0),(7,.ptr 9002 0),(9,.ptr big 0)] (vbO S (bC S P) T S.attrs.length (3000-(lnV S P T lf (aR P):Int)) (stV S P T lf (aR P))) 0):=by
 have B:=h.ord.jE;have d:=h.ord.len;have H:=h.p5;have I:stV S P T lf (aR P)=((List.range P.length).map λa:Nat=>vwS S P T lf a).map UF:=by rw[PM B,Vb];rfl
 have J:=qQ P (-1);have j:=Kt (S:=S) (D:=bC S P) (T:=T) (n:=S.attrs.length) (left:=3000-(lnV S P T lf (aR P):Int)) ((List.range P.length).map λa:Nat=>vwS S P T lf a) ((List.range P.length).map λa:Nat=>fR (vwS S P T lf a)) (by simp[d]) XX (by rw[Vb];rfl)
  (λE hE=>by
   obtain⟨a,A,rfl⟩:=IS.1 hE;have A:=Vj.1 A;refine⟨Oh a,by have:=h.len A;omega,λe he=>?_⟩;obtain⟨g1,g2,g3⟩:=h.ev A he;refine⟨?_,Ha g1.ok h.q g2 XX,oH g1.ok h.q g2 XX⟩;rw[g1.v.len];have:=uu S P a;omega)
  (by simp[bC,bo,d]) (aC P (-1)) (by simp[bC,List.getElem_append,bo,d]) XX
  (λi=>totF S P T lf ((aC P (-1)).take i) (Gv.whole 1)) O
  (λi hi=>by
   obtain⟨r,hr,e,_⟩:=bg.1 (ak hi);obtain⟨g1,g2,g3⟩:=h.Sh hr;obtain⟨p1,p2,p3⟩:=h.part i XX;refine⟨r,by simpa using hr,e,?_,?_⟩
   .rw[VC,List.getElem_range];exact Qx g1 h.q g2 XX
   rw[VC,List.getElem_range];have L:40000^i<=10^50:=AI (Vr XZ (show i<=5 by omega)) (by decide+kernel);have M:=uy p1.s g1.s (AI p2 L) (AI g2 (by decide+kernel)) XX XX;have U:totF S P T lf ((aC P (-1)).take (i+1)) (Gv.whole 1)=(totF S P T lf ((aC P (-1)).take i) (Gv.whole 1)).mul (atV (fR (vwS S P T lf r)) []):=by
    rw[sh hi,wT,e]
   show FnP _ _ _ (· =momP (totF S P T lf ((aC P (-1)).take (i+1)) (Gv.whole 1)).m);rw[U];exact M)
  (by
   show SM (totF S P T lf ((aC P (-1)).take (aC P (-1)).length) (Gv.whole 1));have G:=(h.part (aC P (-1)).length (tJ _)).1;rw[V7]at G ⊢;exact Ha G h.q h.tot (AI (Nu B λv t=>Vl (h.lfx.k v t)) XX))
 rw[<-I]at j;simp only[V7]at j;exact j
theorem Rh(z:PV)(m:Nat):mkZ [z,z] m=List.replicate m z:=by
 unfold mkZ;apply Vq
 .simp
 grind
theorem PL:vwsC (stV S P T lf [])=List.replicate (P.length*2) .nilmap:=by
 have e:stV S P T lf []=List.replicate P.length UG:=by
  unfold stV;apply Vq
  .simp
  .intro i h1 h2;simp
 rw[e];have:∀n,vwsC (List.replicate n UG)=List.replicate (n*2) PV.nilmap:=λn=>by
  induction n with
  |zero=>rfl
  | succ n ih=>
    rw[W6];show vwC UG++vwsC (List.replicate n UG)=_;rw[ih,show(n+1)*2=n*2+1+1 by omega,W6,W6];rfl
 exact this _
end
section
variable {S:Sch}{P:List Int}{Q:List Par}{X:Nat->List ByteArray}{lf:Int->ByteArray->Gv}
theorem nC(d:List (List Rw))(h:VB S P (cw S d) Q X lf)(G:d.length=S.rels.length)(hl:∀l∈d,l.length<=60)(hv:∀r (h:r<d.length) (h2:r<S.rels.length),∀x∈d[r],x.v.length=S.rels[r].2.length)(h0:bG S=0)(ac:FnP prog 65 [gg S,dbP d] (· = .int .i64 0)):
  FnP prog 8 [gg S,nB P,dbP d] (· = .tup [vwsP ((List.range P.length).map λa:Nat=>fR (vwS S P (cw S d) lf a)) (cn (totV S P (cw S d) lf).m),.int .i64 0]):=by
 have hT:=P4 h;have hp5:=h.p5;have t:=h.ord.len;have H:=L4 S h.sb P XX (jO.2 ⟨h0,h.ord⟩) d ac;have J:=NO S h.sb P h.ord;have L:=Ta (aR P);have hr:=h.sj.r;have A:=FD G;have hdl:=dy d;have hz:mkZ [PV.nilmap,PV.nilmap] (S.attrs.length*2)=vwsC (stV S P (cw S d) lf []):=by rw[Rh,PL,t]
 have hpl:(cw S d).length=S.rels.length:=by unfold cw;simp[G]
 refine FnP.marks func8 O (n:=Tryz.f8.ntmps) O (by rw[ntmps8];show 3<=143;decide) λw R0 hdf=>?_
 have M:=O9 h hT w R0 hdf;have han:S.attrs.length<=1000:=h.sj.a;clear hT
 repeat first|refine TZ ?_|refine AWX.seq ?_
 refine AW.region<|Ar 4 O ?_
 repeat first|refine TZ ?_|refine AWX.seq ?_
 refine AW.region<|Y3 O<|Rs O (aa call26 H O)<|A1 O ?_
 repeat first|refine TZ ?_|refine AWX.seq ?_
 refine AW.region<|Y2 O<|Gc O (λs=>absurd s XZ) (λs=>?_);refine TM ?_
 repeat first|refine TZ ?_|refine AWX.seq ?_
 refine AW.draw follows [[],[],[],[2,1],[],[4],[5,4],[6,5,4],[7,3,0,2,1,6,5,4],[8,7,3,0,2,1,6,5,4],[],[9,10,8,7,3,0,2,1,6,5,4]] [0,1,2,3,4,5,6,7,8,9,10,11] XY XY<|Dr 3 O<|Ds [] O (λτ h=>aa call27 J (h.aE O)) O XY<|Dr 8 O ?_;refine⟨XY,?_⟩;refine AWX.weaken (St.cV (T':=86) (cs:=[.pv (.sl UG S.attrs.length (aK S.attrs)),.pv (.sl UG S.rels.length (aU S.rels)),.pv (.sl UG S.feats.length (aL S.feats)),pIi S.label,.pv (bA (bC S P).chs),.pv (bA (bC S P).kes),.pv (bA (bC S P).hos),.pv (aq (bC S P).wa),.pv nS,.osl 4 2 S.attrs.length,pIi 3000]) 5 8 7 1 38 XY O O) ?_
 repeat first|refine TZ ?_|refine AWX.seq ?_
 refine AW.region<|Ar 4 O<|Gz O (st:=λX6:Nat×List (List Rw)=>([(2,UG),(3,UG),(6,UG),(7,UG),(9,UG),(44,UG),(45,UF (pIi X6.1))],[(0,UG),(2,UG),(3,UG),(4,UG),(5,UF (.mix 86 [.pv (.sl UG S.attrs.length (aK S.attrs)),.pv (.sl UG S.rels.length (aU S.rels)),.pv (.sl UG S.feats.length (aL S.feats)),pIi S.label,.pv (bA (bC S P).chs),.pv (bA (bC S P).kes),.pv (bA (bC S P).hos),.pv (aq (bC S P).wa),.gsl 7 1 X6.2.length,.osl 4 2 S.attrs.length,pIi 3000])),(6,UG),(7,UF (.gro 38 (dj X6.2)))])) 8
  (I:=λX6=>X6.1<=S.rels.length/\X6.2=yr S d X6.1) (μ:=λX6=>S.rels.length-X6.1) (x0:=(0,[])) (TO (aS O) (aO XY) O O) (⟨aJ _,by simp[yr]⟩) ?_
 rintro⟨k,q⟩ ⟨hk,hq⟩;try simp only at hk hq ⊢
 repeat first|refine TZ ?_|refine AWX.seq ?_
 refine AW.region<|A1 O<|Gp O (λE=>?_) (λE=>?_)
 .have hlt:k<S.rels.length:=XX;have j:k<d.length:=XX;have U:=vB j;have V:=vi j;have Y:=I3 S h.sj k hlt d[k] (by have:=hl _ (ak j);omega) (hv k j hlt);have B:=C9 G hlt;have Z:=FK G hk;rw[<-hq]at Z B;have hql:(dj q).length=q.length*1:=dy q;have ab:=AJ q (kX S S.rels[k].2 d[k]);generalize kX S S.rels[k].2 d[k]=lv at*;generalize d[k]=tk at*;refine TM ?_
  repeat apply TZ
  refine AW.block ?_
  repeat first|refine TZ ?_|refine AWX.seq ?_
  refine AW.region<|Y2 O ?_
  repeat first|refine TZ ?_|refine AWX.seq ?_
  refine AW.draw follows [[],[],[1],[2,1],[3,2,1],[],[],[],[],[8,7],[9,8,7],[10,6,5,9,8,7],[11,10,6,5,9,8,7],[12,4,3,2,1,11,10,6,5,9,8,7],[13,12,11,10,9,8,7,6,5,4,3,2,1,0],[14,13,12,11,10,9,8,7,6,5,4,3,2,1,0],[15,14,13,12,11,10,9,8,7,6,5,4,3,2,1,0]] [0,1,2,3,4,5,6,7,8,9,10,11,12,13,14,15,16] XY XY<|Dr 9 O<|Ds [] O (λτ h=>ag k underlying34 NZ (Ee h 0 O O) (Ee h 1 O O) O j V) O XY<|Ds [] O (λτ h=>ar ⟨_,underlying38,O⟩ (Ee h 0 O O) U) O XY<|Ds [] O (λτ h=>aa call28 Y (h.aE O)) O XY<|Dr 5 O ?_;refine⟨XY,?_⟩
  repeat first|refine TZ ?_|refine AWX.seq ?_
  exact AW.region<|Y2 O<|⟨(k+1,q++[lv]),TP [0,1,2,3,4,5,6,9] (aT O) ⟨XY,XY,XY,XY,UI (b:=UF (.mix 86 [.pv (.sl UG S.attrs.length (aK S.attrs)),.pv (.sl UG S.rels.length (aU S.rels)),.pv (.sl UG S.feats.length (aL S.feats)),pIi S.label,.pv (bA (bC S P).chs),.pv (bA (bC S P).kes),.pv (bA (bC S P).hos),.pv (aq (bC S P).wa),.gsl 9 1 (q.length+1),.osl 4 2 S.attrs.length,pIi 3000])) XY (ah (λn=>UF (Ob.mix 86 [.pv (.sl UG S.attrs.length (aK S.attrs)),.pv (.sl UG S.rels.length (aU S.rels)),.pv (.sl UG S.feats.length (aL S.feats)),pIi S.label,.pv (bA (bC S P).chs),.pv (bA (bC S P).kes),.pv (bA (bC S P).hos),.pv (aq (bC S P).wa),.gsl 9 1 n,.osl 4 2 S.attrs.length,pIi 3000])) (lj q lv)),XY,UI (b:=UF (.gro 38 (dj q++[oS lv]))) XY (ah (λc=>UF (Ob.gro 38 c)) ab),X5⟩ O O XZ O,⟨X4,by simp only;rw[B]⟩,X4⟩
 have hqf:q=cw S d:=by rw[hq,show k=S.rels.length by omega,A]
 rw[hqf];refine Gx O<|AWX.weaken (TR 7 O O)<|AWX.seq2<|AW.region<|Ar 5 O<|Rs O (aa call29 L O)<|AWX.weaken (τ:=mkS [(6,.ptr 2 0),(7,.ptr 3 0),(9,.ptr 6 0),(70,.pv (.fn (.func 72) [] [.rp [aq (aR P)] 0]))] (vbS S (bC S P) (cw S d) S.attrs.length 3000 (stV S P (cw S d) lf [])) 7) (TO (aS O) ⟨XY,XY,?_,XY,XY,X5⟩ O O) M;exact UI (b:=UF (Ob.cells 95 (mkZ [PV.nilmap,PV.nilmap] (S.attrs.length*2)))) XY (ah (λc=>UF (Ob.cells 95 c)) hz)
end
end


section
open Mk Jn
abbrev t1:ByteArray:=⟨#[49]⟩
theorem zf_of{y:ByteArray}(h:y.data.toList.all (· !=0)=VA):Zf y:=λd=>by
 have:=IX.1 h _ d;simp at this
end
section
open Mk Jn
theorem O6{v:ByteArray}(h:v∈jl kd):Zf v/\v.size<=10000:=by
 have d:∀l:List ByteArray,(∀y∈l,y.data.toList.all (· !=0)=VA/\y.size<=10000)->v∈l->Zf v/\v.size<=10000:=λl hl hm=>⟨zf_of (hl v hm).1,(hl v hm).2⟩
 unfold jl at h;split at h
 .exact d _ XZ h
 split at h
 .exact d _ XZ h
 exact d _ XZ h
theorem zM{l:List Rw}{B:Int}(h:∀x∈l,x.w<=B):kI l<=B*l.length:=by
 unfold kI;induction l with
 |nil=>simp
 | cons x l ih=>
   have d:=h x X2;have j:=ih λy hy=>h y (by simp[hy])
   simp only[cd,U4,IN];rw[Int.natCast_add,Int.mul_add];have:B*((1:Nat):Int)=B:=X2;omega
theorem uJ{A:List Int}(G:∀a∈S.attrs,a.2=1\/a.2=2\/a.2=3)(H:∀a∈A,0<=a/\a<S.attrs.length)(L:most<=20){l:List Rw}(h:MdT S A most l):TblOk S A 1 l/\l.length<=most/\(∀x∈l,∀y∈x.v,Zf y/\y.size<=10000)/\∀x∈l,x.w<=5*most:=by
 obtain⟨l0,rfl,hl,hx⟩:=h;have B:∀z∈l0,0<z.w:=λz hz=>by have:=(hx z hz).1;omega
 have j:=iY B;have I:kI l0<=5*l0.length:=zM λx hx'=>(hx x hx').1.2
 have d:∀x∈nF l0,MdV S A x.v:=λx hx'=>by
  obtain⟨z,hz,e⟩:=j.val x hx';rw[e];exact(hx z hz).2
 have q:∀x∈nF l0,x.w<=5*most:=λx hx'=>by
  have t:=GG (j.pos B) x hx';rw[j.tot]at t;omega
 refine⟨⟨λx hx'=>⟨(d x hx').1,λi t E nm=>?_,?_⟩,j.asc⟩,AI j.len hl,λx hx' y hy=>?_,q⟩
 .have hv:=(d x hx').2 i t E;have J:=H _ (ak E);refine Dt nm _ _ ?_ hv;have r:A[i].toNat<S.attrs.length:=XX;rw[s6 r];exact G _ (ak r)
 .have t:=j.pos B x hx';have E:=q x hx';omega
 obtain⟨i,hi,rfl⟩:=WT.1 hy;have s:=d x hx';exact O6 (s.2 i hi (by rw[<-s.1];exact hi))
theorem Iv(hB:SB S)(hc:bG S=0)(hS:SJn S)(j:∀a∈S.attrs,a.2=1\/a.2=2\/a.2=3)(B:most<=12){d:List (List Rw)}(A:d.length=S.rels.length)(q:∀i (h:i<d.length) (s:i<S.rels.length),MdT S S.rels[i].2 most d[i]):DbOk S d where
 hB:=hB
 hc:=hc
 hS:=hS
 n:=A
 l:=λl hl=>by
  obtain⟨i,hi,rfl⟩:=WT.1 hl;have:=(uJ j (hS.b _ (ak (show i<S.rels.length by omega))) XX (q i hi XX)).2.1;omega
 t:=λr h s=>(uJ j (hS.b _ (ak s)) XX (q r h s)).1
 zf:=λl hl=>by
  obtain⟨i,hi,rfl⟩:=WT.1 hl;exact(uJ j (hS.b _ (ak (show i<S.rels.length by omega))) XX (q i hi XX)).2.2.1
def v0(x:Rw):ByteArray:=x.v.getD 0 eb
end

section
open Mk Jn
theorem L2(d:List (List Rw)):∀c∈dj d,c.leaf=VA:=λc hc=>by
 simp only[dj,IS]at hc;obtain⟨l,_,rfl⟩:=hc;rfl
theorem Eb(h:Made S most):∀a∈S.attrs,a.2=1\/a.2=2\/a.2=3:=λa ha=>by
 obtain⟨i,hi,rfl⟩:=WT.1 ha;have:=h.at' i hi;omega
theorem pH(h:Made S 5):SJn S:=
 Sy (jd (kg h XZ)) (by have:=h.r2;omega) λx hx=>by
  obtain⟨i,hi,rfl⟩:=Vz hx;have:=qT (h.rs i hi).2.2.1 (h.rs i hi).2.2.2;have:=h.a2;omega
theorem QV{d:List (List Rw)}(j:Made S 5)(q:MdD S 4 S.rels.length d):DbOk S d:=
 Iv (tR j XZ) (kg j XZ) (pH j) (Eb j) (most:=4) XZ q.1 q.2
end
section
open Go.RowKit Mk Jn Mm Vw
namespace Vw
def fc:List (ByteArray×Rat):=[(⟨#[48]⟩,0),(⟨#[49]⟩,1),(⟨#[45,50]⟩, -2),(⟨#[49,47,50]⟩,1/2),(⟨#[51]⟩,3),(⟨#[53,47,51]⟩,5/3),(⟨#[50]⟩,2)]
def qM(v:ByteArray):Rat:=match fc.find? (λp=>decide (p.1=v))with|some p=>p.2|none=>0
theorem MK(v:ByteArray):eC 6 (qM v)/\bp 3 (qM v):=by
 have d:∀p∈fc,eC 6 p.2/\bp 3 p.2:=by
  intro p hp;simp only[fc,By,Vy,Xd]at hp;rcases hp with rfl|rfl|rfl|rfl|rfl|rfl|rfl
  .exact⟨⟨0,by decide+kernel⟩,⟨by decide+kernel,by decide+kernel⟩⟩
  .exact⟨⟨6,by decide+kernel⟩,⟨by decide+kernel,by decide+kernel⟩⟩
  .exact⟨⟨-12,by decide+kernel⟩,⟨by decide+kernel,by decide+kernel⟩⟩
  .exact⟨⟨3,by decide+kernel⟩,⟨by decide+kernel,by decide+kernel⟩⟩
  .exact⟨⟨18,by decide+kernel⟩,⟨by decide+kernel,by decide+kernel⟩⟩
  .exact⟨⟨10,by decide+kernel⟩,⟨by decide+kernel,by decide+kernel⟩⟩
  exact⟨⟨12,by decide+kernel⟩,⟨by decide+kernel,by decide+kernel⟩⟩
 unfold qM;cases h:fc.find? (λp=>decide (p.1=v))with
 |none=>exact⟨⟨0,by decide+kernel⟩,bp.zero 3⟩
 |some p=>exact d p (Wy h)
theorem qM_vq{v:ByteArray}(h:v∈ET):VQ qM v:=by
 have d:∀x:ByteArray,x=a6 (qM x)->F1 (qM x)->VQ qM x:=λx e h1=>by
  refine⟨?_,(MK x).1,(MK x).2⟩;have j:=jg (qM x) h1;rw[<-e]at j;exact j
 simp only[ET,By,Vy,Xd]at h;rcases h with rfl|rfl|rfl|rfl|rfl|rfl|rfl|rfl<;>exact d _ (by decide+kernel) ⟨by decide+kernel,by decide+kernel⟩
def allV:List ByteArray:=⟨#[]⟩::(Kb++(xQ++ET))
theorem I1{v:ByteArray}(h:v∈jl kd):v∈allV:=by grind[jl,allV,By.1,U0,Ws,Xw]
def PR:List ByteArray:=⟨#[]⟩::Kb
def QM(S:Sch):List Par:=⟨-1,⟨#[]⟩⟩::(List.range S.feats.length).flatMap λi:Nat=>PR.map λt=>⟨(i:Int),t⟩
theorem NN(d:i<S.feats.length){t:ByteArray}(j:t∈PR):(⟨(i:Int),t⟩:Par)∈QM S:=
 U0 _ (UU.2 ⟨i,Vj.2 d,IS.2 ⟨t,j,O⟩⟩)
theorem Oq(S:Sch):(QM S).length=S.feats.length*4+1:=by
 unfold QM;rw[IN];have:∀n,((List.range n).flatMap λi:Nat=>PR.map λt=>(⟨(i:Int),t⟩:Par)).length=n*4:=λn=>by
  induction n with
  |zero=>rfl
  | succ n ih=>
    rw[Xn,U6,D8,ih,UJ,W9,Vg,AS,show PR.length=4 from O];omega
 rw[this]
noncomputable def lfM(S:Sch):Int->ByteArray->Gv:=λv t=>⟨liftS qM S v t,1,1,1⟩
def XM(S:Sch)(a:Nat):List ByteArray:=jl (S.attrs.getD a default).2
theorem CF(h:n<=1):SOk 1 1 (cnt n):=(oD n).up h XZ
theorem LI(s:Made S 5):LfX (QM S) (XM S) (lfM S):=by
 refine⟨λv t ht=>?_,λ_ _=>rfl,λ_ _=>rfl,λ_ _=>rfl,λa=>Vx⟩;have d:∀p∈QM S,GvOk (QM S) ⟨lft p (qM t),1,1,1⟩:=λp hp=>⟨Hn p (qM t) (MK t).1 (MK t).2,Sup.lft hp _⟩
 have hc:∀n:Nat,n<=1->GvOk (QM S) ⟨cnt n,1,1,1⟩:=λn hn=>⟨CF hn,Sup.cnt _ _⟩
 show GvOk (QM S) ⟨liftS qM S v t,1,1,1⟩;unfold liftS;split
 .split
  .exact hc 0 XZ
  exact d _ Vx
 cases hf:S.feats.findIdx? (λf=>f.1==v)with
 |none=>exact hc 1 XZ
 | some i=>
   obtain⟨hi,hp,_⟩:=V4.1 hf;simp only;split
   .rename_i h2;have q:t∈PR:=by
     obtain⟨a,h3,_,_,h6⟩:=s.fs.2.1 _ (ak hi);have e:S.feats.getD i default=S.feats[i]:=by simp[List.getD,hi]
     rw[e]at h2;have r:v=(a:Int):=by
      have:S.feats[i].1=v:=by simpa using hp
      omega
     rcases h6 with h6|h6
     .have:=h6.1;omega
     subst r;have j:t∈jl (S.attrs.getD ((a:Int)).toNat default).2:=ht;rw[Ux,h6.2.1]at j;exact j
    exact⟨Hn _ 1 (eC.ofInt 6 1) ⟨by decide+kernel,by decide+kernel⟩,Sup.lft (NN hi q) _⟩
   split
   .split
    .exact hc 0 XZ
    exact hc 1 XZ
   exact d _ (NN hi Vx)
theorem JK(j:Made S 5)(v:Nat)(t:ByteArray)(A:t∈XM S v):FnP prog 75 [gg S,.int .i64 v,.str t] (· =momP (lfM S v t).m):=by
 have q:=eO j.fs;have B:=j.a2;refine xK qM S v t XX λhne hor=>?_
 have d:(S.attrs.getD v default).2=2:=by
  rcases hor with e|⟨i,hi,d⟩
  .rcases j.fs.2.2 with h|⟨a,h1,h2,h3⟩
   .omega
   have:a=v:=XX;subst this;exact h3
  obtain⟨hlt,hp,_⟩:=V4.1 hi;obtain⟨a,h1,h2,h3,h4⟩:=j.fs.2.1 _ (ak hlt);have e:S.feats.getD i default=S.feats[i]:=by simp[List.getD,hlt]
  rw[e]at d;have:a=v:=by
   have r:S.feats[i].1=(v:Int):=by simpa using hp
   omega
  subst this;rcases h4 with h4|h4
  .exact h4.2.1
  exact absurd h4.1 d
 have s:t∈jl 2:=by
  have:=A;unfold XM at this;rw[d]at this;exact this
 rcases By.1 s with h|h
 .exact absurd h hne
 exact qM_vq (by simpa using h)
structure WD(S:Sch)(T:List (List Rw)):Prop where
 len:T.length=S.rels.length
 l:∀l∈T,l.length<=4
 w:∀l∈T,∀x∈l,0<=x.w
 s:∀l∈T,kI l<=20
 v:∀r (h:r<T.length) (h2:r<S.rels.length),∀x∈T[r],MdV S S.rels[r].2 x.v
theorem KR{l m:List Rw}(h:List.Sublist l m)(j:∀x∈m,0<=x.w):kI l<=kI m:=by
 induction h with
 |slnil=>exact Int.le_refl _
 | cons a h ih=>
   have d:=ih λx hx=>j x (by simp[hx])
   have q:=j a X2;simp only[kI,cd,U4]at d ⊢;omega
 | cons_cons a h ih=>
   have d:=ih λx hx=>j x (by simp[hx])
   simp only[kI,cd,U4]at d ⊢;omega
theorem OP{d:List (List Rw)}(B:MdD S 4 S.rels.length d)(k:Nat):WD S (cw S (d.set k [])):=by
 have t:(cw S (d.set k [])).length=S.rels.length:=by unfold cw;simp[B.1]
 have j:∀r (h:r<(cw S (d.set k [])).length),∃(q:r<d.length)(s:r<S.rels.length)(l0:List Rw),d[r]=nF l0/\l0.length<=4/\(∀x∈l0,MdR S S.rels[r].2 x)/\List.Sublist (cw S (d.set k []))[r] (nF l0):=λr h=>by
  have s:r<S.rels.length:=XX;have q:r<d.length:=by have:=B.1;omega
  obtain⟨l0,e,hl,hx⟩:=B.2 r q s;refine⟨q,s,l0,e,hl,hx,?_⟩;have E:(cw S (d.set k []))[r]=kX S S.rels[r].2 ((d.set k [])[r]'(by rw[Ut];exact q)):=by simp[cw]
  rw[E,XI];split
  .have:kX S S.rels[r].2 []=[]:=rfl;rw[this];exact List.nil_sublist _
  rw[e];exact VR
 have pos:∀{A:List Int}{l0:List Rw},(∀x∈l0,MdR S A x)->∀z∈l0,0<z.w:=λh z hz=>by have:=(h z hz).1;omega
 refine⟨t,λl hl=>?_,λl hl x hx=>?_,λl hl=>?_,λr h s x hx=>?_⟩
 .obtain⟨r,hr,rfl⟩:=WT.1 hl;obtain⟨q,s,l0,e,hl0,hx0,hs⟩:=j r hr;exact AI hs.length_le (AI (iY (pos hx0)).len hl0)
 .obtain⟨r,hr,rfl⟩:=WT.1 hl;obtain⟨q,s,l0,e,hl0,hx0,hs⟩:=j r hr;have:=(iY (pos hx0)).pos (pos hx0) x (hs.subset hx);omega
 .obtain⟨r,hr,rfl⟩:=WT.1 hl;obtain⟨q,s,l0,e,hl0,hx0,hs⟩:=j r hr;have G:=KR hs λx hx=>by have:=(iY (pos hx0)).pos (pos hx0) x hx;omega
  rw[(iY (pos hx0)).tot]at G;have H:kI l0<=5*l0.length:=zM λx hx=>(hx0 x hx).1.2
  omega
 obtain⟨q,_,l0,e,hl0,hx0,hs⟩:=j r h;obtain⟨z,hz,ez⟩:=(iY (pos hx0)).val x (hs.subset hx);rw[ez];exact(hx0 z hz).2
theorem qw:∀{l:List Rw},(∀x∈l,0<=x.w)->(((l.map λx=>x.w.toNat).sum:Nat):Int)=kI l
 |[],_=>rfl
 | x::l,h=>by
   have h1:=qw (l:=l) λy hy=>h y (by simp[hy])
   have d:=h x X2;simp only[kI,cd,U4]at h1 ⊢;omega
theorem Tc{T:List (List Rw)}(h:WD S T)(r:Int):z8 S T Gv.n r<=4:=by
 unfold z8 Prt.tot dd;simp only[Vb];have e:∀l:List Rw,(l.map ((λi:Itm=>i.g.n)∘λx:Rw=>(⟨x.v,Gv.whole x.w.toNat⟩:Itm))).sum=l.length:=λl=>by
  induction l with
  |nil=>rfl
  |cons a l ih=>rw[cd,U4,ih,IN];show 1+_=_;omega
 rw[e];unfold gT;rw[Ur];cases hg:T[r.toNat]? with
 |none=>exact aJ _
 |some l=>exact h.l l (VJ hg)
theorem AM{T:List (List Rw)}(h:WD S T)(r:Int):z8 S T Gv.w r<=20:=by
 unfold z8 Prt.tot dd;simp only[Vb];show(List.map (λx:Rw=>x.w.toNat) (gT T r)).sum<=20;unfold gT;rw[Ur];cases hg:T[r.toNat]? with
 |none=>exact aJ _
 | some l=>
   have d:=VJ hg;have j:=qw (h.w l d);have q:=h.s l d;show(List.map (λx:Rw=>x.w.toNat) l).sum<=20;omega
theorem HJ{P:List Int}{T:List (List Rw)}(j:Made S 5)(G:OrdOk S P)(d:WD S T):VB S P T (QM S) (XM S) (lfM S):=by
 have E:=G.jE;have H:=G.len;have I:=j.a1;have J:=j.a2;have q:=j.r2;have L:=eO j.fs;have p4:4^S.rels.length<=64:=AI (Vr XZ q) XZ;have M:20^S.rels.length<=8000:=AI (Vr XZ q) XZ;have U:=fun{v:Nat}(hv:v<P.length)=>T0 (S:=S) (T:=T) (lf:=lfM S) E msr_n (λ_ _=>rfl) O (show 1<=4 by decide) (Tc d) hv
 have V:=fun{v:Nat}(hv:v<P.length)=>T0 (S:=S) (T:=T) (lf:=lfM S) E ya (λ_ _=>rfl) O (show 1<=20 by decide) (AM d) hv
 refine⟨tR j XZ,pH j,G,XX,XX,q,d.len,λl hl=>by have:=d.l l hl;omega,λl hl x hx=>⟨d.w l hl x hx,?_⟩,by rw[Oq];omega,λa t ht=>?_,LI j,λv hv t ht=>JK j v t ht,λr x hx=>?_,λv hv=>by have:=U hv;omega,λv hv=>by have:=V hv;omega,?_⟩
 .have h1:=d.s l hl;have Y:=qw (d.w l hl);have h3:x.w.toNat<=(l.map λx=>x.w.toNat).sum:=by
   have:∀m:List Rw,x∈m->x.w.toNat<=(m.map λx=>x.w.toNat).sum:=λm A=>by
    induction m with
    |nil=>simp at A
    | cons b m ih=>
      rw[cd,U4];rcases By.1 A with rfl|A
      .omega
      have:=ih A;omega
   exact this l hx
  omega
 .have h1:=I1 ht;have:∀x∈allV,x.size<=1000:=by decide+kernel
  exact this t h1
 .unfold gT at hx;rw[Ur]at hx;cases hg:T[r.toNat]? with
  |none=>rw[hg]at hx;simp at hx
  | some l=>
    obtain⟨hr,e⟩:=RE.1 hg;rw[hg]at hx;have B:r.toNat<S.rels.length:=by have:=d.len;omega
    have A:=d.v r.toNat hr B x (by rw[e];exact hx);have Z:oU S r=S.rels[r.toNat].2:=by simp[oU,List.getD,B]
    rw[Z];exact⟨A.1,A.2⟩
 have h1:=uU (S:=S) (P:=P) (T:=T) (lf:=lfM S) ya O (rs:=aC P (-1)) (z:=Gv.whole 1);have Y:=xI (S:=S) (T:=T) (lf:=lfM S) E ya (λ_ _=>rfl) O (show 1<=20 by decide) (AM d);have e:(Gv.whole 1).w=1:=rfl;rw[e,XK]at h1;unfold totV;omega
end Vw
end
end Go.Proofs.YtameambcolibjaaGreatDoor
