/- Lemmas. No condition. -/
import Derived.Lib.Builder
import Derived.Lib.UnsafeStr
import Derived.Lib.AppendStr
import Derived.Laws.Externs
import Derived.Laws.Pointers
import Derived.Test.YtameambcolibjaaGreatDoorJD7
set_option maxRecDepth 100000
set_option maxHeartbeats 4000000
open Go.RowKit Go.Proofs.Tryz
open Option renaming some→UF,none→UG
open Bool renaming true→VA,false→WA
namespace Go.Proofs.YtameambcolibjaaGreatDoor
variable{n i a j most id s k off size sz c r v:Nat}{adj:Nat->Nat->Prop}{pos:Nat->Nat}{P Q q R A ls:List Int}{I rem:List Bool}{S:Sch}{b x:ByteArray}{f:FuncId}{us:List Value}{xs:Array Operand}{T e d:TypeId}{cs news:List PV}{o:Ob}{l:List ByteArray}{w:World}{α:Type}
section
open Mk
def Ly(n:Nat)(adj:Nat->Nat->Prop)(pos:Nat->Nat)(i:Nat)(P:List Int):Prop:=
 ∀b,b<n->(P.getD b 0= -1/\∀a,a<n->pos a<i->¬Anc adj pos a b)\/∃a:Nat,a<n/\P.getD b 0=(a:Int)/\pos a<i/\Anc adj pos a b/\∀a',a'<n->pos a'<i->Anc adj pos a' b->pos a'<=pos a
theorem Ly.last(z:∀a b,adj a b->adj b a)(B:∀a,a<n->pos a<n)(u:∀a b,a<n->pos a=pos b->a=b)(D:P.length=n)(h:Ly n adj pos n P):IsOrd n adj pos P:=by
 refine⟨D,λb hb=>?_⟩;rcases h b hb with⟨h1,h2⟩|⟨a,ha,h1,_,h2,h3⟩
 .grind
 refine .inr ⟨a,ha,h1,h2,λa' ha' h4=>?_⟩;rcases Nat.lt_or_eq_of_le (h3 a' ha' (B a' ha') h4)with h5|h5
 .exact .inr (h4.lin z h2 h5)
 exact .inl (u a' a ha' h5)
theorem Ly.next(B:∀a b,a<n->pos a=pos b->a=b)(J:a<n)(L:pos a=i)(h:Ly n adj pos i P){I:Nat->Prop}
  (H:∀b,b<n->(I b↔Path adj (λc=>pos a<=pos c) a b)) (M:∀b,b<n->(I b/\b≠a->Q.getD b 0=(a:Int))/\(¬ (I b/\b≠a)->Q.getD b 0=P.getD b 0)):Ly n adj pos (i+1) Q:=by
 intro b hb;have z:I b/\b≠a↔Anc adj pos a b:=by
  constructor
  .rintro⟨u,h2⟩;have E:=(H b hb).1 u;have G:pos a<=pos b:=E.fin (ok:=λc=>pos a<=pos c) (tJ _);exact⟨Nat.lt_of_le_of_ne G (λe=>h2 (B a b J e).symm),E⟩
  rintro⟨u,h2⟩;exact⟨(H b hb).2 h2,λe=>by subst e;omega⟩
 have D:∀a',a'<n->pos a'<i+1->a'=a\/pos a'<i:=λa' ha' u=>by grind
 by_cases hA:Anc adj pos a b
 .grind
 rw[(M b hb).2 (λu=>hA (z.1 u))];rcases h b hb with⟨u,h2⟩|⟨d,hd,u,h2,G,h4⟩
 .grind
 grind
theorem pos_at(u:q.Perm (upZ n))(z:i<q.length)(h:q[i]=(a:Int)):ie q a=i:=by grind[cQ,ie]
theorem ints_set(P:List Int)(b:Nat)(x:Int):(aN P).set b (.int .i64 x)=aN (P.set b x):=by simp[U9]
theorem Kx {m:Nat}   (u:R.length=n) (E:∀ b,b<n->(b<j/\I.getD b WA=VA/\b≠a->R.getD b 0=(a:Int))/\(¬ (b<j/\I.getD b WA=VA/\b≠a)->R.getD b 0=Q.getD b 0)) (z:j<m) (B:m=n) (D:I.getD j WA=VA/\j≠a) (b:Nat) (G:b<n):
  (b<j+1/\I.getD b WA=VA/\b≠a->(R.set j (a:Int)).getD b 0=(a:Int))/\(¬ (b<j+1/\I.getD b WA=VA/\b≠a)->(R.set j (a:Int)).getD b 0=Q.getD b 0):=by grind
theorem Hi    (z:∀ b,b<n->(b<j/\I.getD b WA=VA/\b≠a->R.getD b 0=(a:Int))/\(¬ (b<j/\I.getD b WA=VA/\b≠a)->R.getD b 0=Q.getD b 0)) (u:¬ (I.getD j WA=VA/\j≠a)) (b:Nat) (B:b<n):
  (b<j+1/\I.getD b WA=VA/\b≠a->R.getD b 0=(a:Int))/\(¬ (b<j+1/\I.getD b WA=VA/\b≠a)->R.getD b 0=Q.getD b 0):=by grind
theorem KA(G:q.Perm (upZ S.attrs.length))(D:q.length=S.attrs.length){b:Nat}(B:ie q a=i)(u:∀c,c<q.length->(rem.getD c WA=WA↔i<=ie q c))(E:Valid S){X:Prop}(h:X↔Path (vM S) (λc=>rem.getD c WA=WA) a b):
  X↔Path (vM S) (λc=>ie q a<=ie q c) a b:=by
 rw[h];have z:∀(p p':Nat->Prop),(∀c,c<q.length->p c->p' c)->∀b,Path (vM S) p a b->Path (vM S) p' a b:=by
  intro p p' hpp b hb;induction hb with
  |refl=>exact .refl
  | @step x y _ h1 h2 ih=>
    have:=(pR E h1.2).2;exact .step ih h1 (hpp y XX h2)
 rw[B];exact⟨z _ _ (λc hc h=>(u c hc).1 h) b,z _ _ (λc hc h=>(u c hc).2 h) b⟩
theorem MB(D:q.Perm (upZ S.attrs.length))(E:q.length=S.attrs.length)(H:a<S.attrs.length)(G:ie q a=i)(z:rem.length=q.length)(u:∀c,c<q.length->(rem.getD c WA=WA↔i<=ie q c))(c:Nat)(hc:c<q.length):
  (rem.set a VA).getD c WA=WA↔i+1<=ie q c:=by
 by_cases e:c=a
 .subst e;simp[List.getD,z,hc];omega
 have e1:(rem.set a VA).getD c WA=rem.getD c WA:=by simp only[List.getD];rw[WQ (λB=>e B.symm)]
 rw[e1,u c hc];have:ie q c≠ie q a:=λh=>e (lY D XX h)
 omega
theorem Kf(S:Sch)(hS:SB S)(V:Valid S)(q:List Int)(E:q.Perm (upZ S.attrs.length)):FnP prog 127 [gg S,aq q] (· =nB (ordL S q)):=by
 refine FnP.fg2 (FnP.ofC func127 O ntmps127 X2 λ_ _ _ _=>?_);have Y:=V.n2;have G:q.length=S.attrs.length:=by rw[E.length_eq,bo]
 have D:∀a b,a<S.attrs.length->ie q a=ie q b->a=b:=λa b ha h=>lY E ha h
 have Z:∀a,a<S.attrs.length->ie q a<S.attrs.length:=λa ha=>FE E ha
 refine Z2 O<|Z2 O<|Rs O (kU (zs:=[.int .i64 0]) 2 q.length vN O O O O O XX O)<|Y3 O<|Z2 O<|Rs O (kU (zs:=[.bool WA]) 4 q.length Lm O O O O O XX O)<|A1 O<|Z4 O<|Gz O (st:=λX6:Nat×List Int=>([(1,UG),(2,UG),(4,UG),(5,UG),(6,UG),(21,UG),(22,UF (pIi X6.1))],[(0,UG),(1,UG),(2,UF (OX X6.2)),(3,UG),(4,UF (o5 (List.replicate q.length WA)))])) 5
  (I:=λX6=>X6.1<=q.length/\X6.2.length=q.length/\∀b,b<X6.1->X6.2.getD b 0= -1) (μ:=λX6=>q.length-X6.1) (x0:=(0,List.replicate q.length 0)) (TO (aS O) ⟨O,O,ah (λc=>UF (Ob.cells 3 c)) ((cH (.int .i64 0) (q.length*1)).trans X2),O,ah (λc=>UF (Ob.cells 4 c)) ((cH (.bool WA) (q.length*1)).trans X2),X5⟩ O O) (⟨aJ _,X2,λb hb=>absurd hb (VV _)⟩) ?_
 rintro⟨k,P⟩ ⟨hk,hPl,hm⟩;try simp only at hk hPl hm ⊢
 refine Z1 O<|Gp O (λL=>?_) (λL=>?_)
 .have hlt:k<q.length:=XX;exact TM<|Z2 O<|Z3 O<|Rs O (aj k underlying22 sz3 O O O O hlt)<|RL.step (d:=UG) O O (bY sz3 O O O O X3)<|Z2 O<|⟨(k+1,P.set k (-1)),TO (aS O) ⟨O,O,ah (λc=>UF (Ob.cells 3 c)) (by rw[Uv];exact ints_set P k (-1)),O,O,X5⟩ O O,⟨X4,by simp[hPl],λb hb=>by by_cases e:b=k;(subst e;simp[List.getD,hPl,hlt]);(have:=hm b (by simp only at hb;omega);simp only[List.getD]at this ⊢; rw[WQ (λe'=>e e'.symm)];exact this)⟩,X4⟩
 have hinit:Ly S.attrs.length (vM S) (ie q) 0 P:=λb hb=> .inl ⟨hm b XX,λa _ h=>absurd h (VV _)⟩
 refine Gx O<|Z3 O<|Gz O (st:=λu:Nat×List Int×List Bool=>([(2,UG),(4,UG),(5,UG),(6,UG),(30,UG),(31,UG),(32,UF (pIi u.1))],[(0,UG),(1,UG),(2,UF (OX u.2.1)),(3,UG),(4,UF (o5 u.2.2))])) 5
  (I:=λu=>u.1<=q.length/\u.2.1.length=q.length/\u.2.2.length=q.length/\(∀c,c<q.length->(u.2.2.getD c WA=WA↔u.1<=ie q c))/\Ly S.attrs.length (vM S) (ie q) u.1 u.2.1) (μ:=λu=>q.length-u.1) (x0:=(0,P,List.replicate q.length WA)) (TO (aS O) (aO O) O O) (⟨aJ _,hPl,X2,λc hc=>by simp[List.getD,hc],hinit⟩) ?_
 rintro⟨i,Q,rem⟩ ⟨hi,hQl,hrl,hrem,hO⟩;try simp only at hi hQl hrl hrem hO ⊢
 refine Z1 O<|Gp O (λM=>?_) (λM=>?_)
 .have hil:i<q.length:=XX;have hv:=a7 hil;have aa:=aM hil;obtain⟨a,ha,hqa⟩:=cf.1 (E.mem_iff.1 (ak hil));have H:=pos_at E hil hqa;have W:=Dp S hS V q.length G rem hrl a XX;refine TM<|Z1 O ?_;first|refine A2 O X0 ?_|refine A1 O ?_
  refine A1 O<|Z3 O<|RL.call O (xy [4] 5 call200 W (by rw[<-hqa];rfl) O O O ⟨O,X5⟩ XZ O ?_);rintro _ _ ⟨⟨I,rfl,hIl,hI⟩,rfl⟩;refine A1 O<|Z3 O<|Gz O (st:=λz:Nat×List Int=>([(2,UG),(4,UG),(5,UG),(6,UG),(9,UG),(10,UG),(30,UG),(31,UG),(32,UG),(41,UG),(42,UF (pIi z.1))],[(0,UG),(1,UG),(2,UF (OX z.2)),(3,UG),(4,UG)])) 5
   (I:=λz=>z.1<=I.length/\z.2.length=q.length/\∀b,b<q.length->(b<z.1/\I.getD b WA=VA/\b≠a->z.2.getD b 0=(a:Int))/\(¬ (b<z.1/\I.getD b WA=VA/\b≠a)->z.2.getD b 0=Q.getD b 0)) (μ:=λz=>I.length-z.1) (x0:=(0,Q)) (TO (aS O) (aO O) O O) (⟨aJ _,hQl,λb _=>⟨λh=>absurd h.1 (VV _),λ_=>rfl⟩⟩) ?_
  rintro⟨j,R⟩ ⟨hj,hRl,hR⟩;try simp only at hj hRl hR ⊢
  refine Z1 O<|Gp O (λU=>?_) (λU=>?_)
  .have hjl:j<I.length:=XX;have ab:=Kw hjl;have J:=xa hjl;refine TM<|Z2 O<|Z2 O<|Rs O (ag j underlying171 sz4 O O O hjl J) ?_;first|refine A2 O X0 ?_|refine A1 O ?_
   refine A1 O ?_;apply TY 4 49 53 [50,51,52] O X8
   .intro hb4;exact Ar 4 O<|TQ X7 O O O
   .intro hb4;exact Ar 4 O<|TQ X7 O O O
   refine Gc O (λB=>?_) (λB=>?_)
   .have hcc:I.getD j WA=VA/\j≠a:=by rw[hqa]at B;simp only[dO,bne_iff_ne]at B;exact⟨B.1,XX⟩
    exact Z4 O<|Rs O (aj j underlying22 sz3 O O O O XX)<|RL.step (d:=UG) O O (bY sz3 O O O O X3)<|Z2 O<|⟨(j+1,R.set j a),TO (aS O) ⟨O,O,ah (λc=>UF (Ob.cells 3 c)) (by rw[Uv,hqa];exact ints_set R j a),O,O,X5⟩ O O,⟨X4,by simp[hRl],λb hb=>Kx hRl hR hjl hIl hcc b hb⟩,X4⟩
   have hcc:¬ (I.getD j WA=VA/\j≠a):=by rw[hqa]at B;rintro⟨h1,X⟩;rw[h1,WV]at B;exact absurd (inF B) XX
   exact TM<|Z2 O<|⟨(j+1,R),TO (aS O) (aO O) O O,⟨X4,hRl,λb hb=>Hi hR hcc b hb⟩,X4⟩
  have hO2:Ly S.attrs.length (vM S) (ie q) (i+1) R:=hO.next D ha H (I:=λb=>I.getD b WA=VA) (λb hb=>KA E G H hrem V (hI b)) (λb hb=>⟨λh=>(hR b XX).1 ⟨XX,h.1,h.2⟩,λh=>(hR b XX).2 (λX=>h ⟨X.2.1,X.2.2⟩)⟩);exact Gx O<|Z2 O<|Rs O (aj a underlying171 sz4 O O O hqa XX)<|RL.step (d:=UG) O O (bY sz4 O O O O X3)<|Z2 O<|⟨(i+1,R,rem.set a VA),TO (aS O) ⟨O,O,O,O,ah (λc=>UF (Ob.cells 4 c)) (by simp[U9];rfl),X5⟩ O O,⟨X4,hRl,by simp[hrl],λc hc=>MB E G ha H hrl hrem c hc,hO2⟩,X4⟩
 have hord:Q=ordL S q:=(Ly.last (qt S) Z D XX (by rw[show i=S.attrs.length by omega]at hO;exact hO)).unique (BK V E);exact Gx O<|Z2 O<|Gt O<|⟨_,_,O,O,⟨au ⟨_,underlying32,O⟩ Ms O O O,X5⟩,by show PV.agg [.sl UG q.length (aN Q)]=_;rw[<-hord,nB,aq,hQl]⟩
theorem Fb(h:JL q q.length=WA):q.Nodup:=by
 have u:∀n,JL q n=WA->∀k,k<n->¬q.getD k 0∈q.take k:=by
  intro n;induction n with
  |zero=>intro _ k hk;omega
  | succ n ih=>
    intro h k hk;simp only[JL,UK,Vt]at h;by_cases e:k=n
    .subst e;exact h.2
    exact ih h.1 k XX
 unfold List.Nodup;rw[UY];intro i j hi hj hij e;refine u _ h j hj ?_;rw[getD_eq hj,<-e];exact jj hij hi
theorem MU(h:ofE S q=0):bG S=0/\q.Perm (upZ S.attrs.length):=by
 unfold ofE at h;split at h
 .rename_i u;exact absurd h u
 rename_i z;have z:bG S=0:=U1 z;refine⟨z,?_⟩;split at h
 .cases h
 rename_i u;have u:q.length=S.attrs.length:=U1 u;split at h
 .cases h
 rename_i D;split at h
 .cases h
 rename_i h3;have B:=Fb (q:=q) (by simpa using h3);have H:∀a∈q,a∈upZ S.attrs.length:=by
  intro a ha;have D:(q.any λa=>decide (a<0)||decide (a>=(q.length:Int)))=WA:=by simpa using D
  have:=Xy.1 D a ha;simp at this;obtain⟨x,hx⟩:=tI this.1;exact cf.2 ⟨x,XX,hx⟩
 have E:((upZ S.attrs.length).filter λa=>decide (a∈q)).Perm q:=fF (WI VR (cQ _)) B λa=>by grind
 have G:((upZ S.attrs.length).filter λa=>decide (a∈q)).length=(upZ S.attrs.length).length:=by rw[E.length_eq,u,bo]
 rw[List.length_filter_eq_length_iff]at G;rw[List.filter_eq_self.2 G]at E;exact E.symm
theorem Mw(S:Sch)(hS:SB S)(q:List Int)(W:q.length<=1000000):FnP prog 61 [gg S,aq q] (· =ofV S q):=by
 refine FnP.fg2 (FnP.ofC func61 O ntmps61 X2 λ_ _ _ _=>?_);have X:=hS.a;refine Z3 O<|Z1 O<|Rs O (aa call98 (xD S hS) O)<|A1 O<|Z2 O<|Gc O (λu=>?_) (λu=>?_)
 .exact Z4 O<|Gt O<|⟨_,_,O,O,⟨au ⟨_,underlying32,O⟩ Ms O O O,X5⟩,(uT (by unfold ofE;rw[AT (inT u)]) (inT u)).symm⟩
 have h0:bG S=0:=inF u;have V:=jd h0;refine TM<|Z4 O<|Z4 O<|Gc O (λB=>?_) (λB=>?_)
 .have hne0:¬q.length=S.attrs.length:=by have:=inT B;omega
  exact Z3 O<|Gt O<|⟨_,_,O,O,⟨au ⟨_,underlying32,O⟩ Ms O O O,X5⟩,(uT (by unfold ofE;rw[pF (λh=>h h0),AT hne0]) XZ).symm⟩
 have heq:q.length=S.attrs.length:=by have:=inF B;omega
 refine TM<|Z3 O<|Gz O (st:=λX6:Nat=>([(1,UG),(2,UG),(4,UG),(7,UG),(26,UG),(27,UG),(28,UF (pIi X6))],[(0,UG),(1,UG)])) 2
  (I:=λX6=>X6<=q.length/\((q.take X6).any λa=>decide (a<0)||decide (a>=(S.attrs.length:Int)))=WA) (μ:=λX6=>q.length-X6) (x0:=(0)) (TO (aS O) (aO O) O O) (⟨aJ _,O⟩) ?_
 rintro k ⟨hk,hany⟩;refine Z1 O<|Gp O (λH=>?_) (λH=>?_)
 .have hlt:k<q.length:=XX;have L:=a7 hlt;have M:=aM hlt;refine TM<|Z1 O ?_;first|refine A2 O X0 ?_|refine A1 O ?_
  refine A1 O<|Z3 O ?_;apply TX 4 34 38 [35,36,37] O X8
  .intro hb2;exact Ar 4 O<|TQ X7 O O O
  .intro hb2;exact Ar 4 O<|TQ X7 O O O
  refine Gc O (λD=>?_) (λD=>?_)
  .exact Z3 O<|Gt O<|⟨_,_,O,O,⟨au ⟨_,underlying32,O⟩ Ms O O O,X5⟩,(uT (by unfold ofE;rw[pF (λh=>h h0),pF (λh=>h heq),AT (by rw[heq];exact sM (p:=λa=>decide (a<0)||decide (a>=(S.attrs.length:Int))) hlt D)]) XZ).symm⟩
  exact TM<|Z2 O<|⟨(k+1),TO (aS O) (aO O) O O,⟨XX,gA hlt hany D⟩,XX⟩
 rw[aG XX]at hany;refine Gx O<|Z3 O<|Gz O (st:=λz:Nat=>([(1,UG),(2,UG),(4,UG),(41,UG),(42,UG),(43,UF (pIi z))],[(0,UG),(1,UG)])) 2
  (I:=λz=>z<=q.length/\JL q z=WA) (μ:=λz=>q.length-z) (x0:=(0)) (TO (aS O) (aO O) O O) (⟨aJ _,O⟩) ?_
 rintro j ⟨hj,hdup⟩;refine Z1 O<|Gp O (λJ=>?_) (λJ=>?_)
 .have hlt:j<q.length:=XX;have L:=a7 hlt;have M:=aM hlt;have G:=getD_eq hlt (0:Int);have U:PV.sl UG j ((aN q).take (j*1))=aq (q.take j):=by simp[aq,List.map_take];omega
  refine TM<|Z2 O ?_;first|refine A2 O X0 ?_|refine A1 O ?_
  refine Y2 O<|Z2 O<|Rs O (XJ.cast (v':=.pv (aq (q.take j))) (dR j underlying22 sz3 O O O XX X2) (by rw[<-U]))<|A1 O<|Rs O (aa call41 (ln (q.take j) q[j] X3) O)<|Gc O (λE=>?_) (λE=>?_)
  .exact Z3 O<|Gt O<|⟨_,_,O,O,⟨au ⟨_,underlying32,O⟩ Ms O O O,X5⟩,(uT (by unfold ofE;rw[pF (λh=>h h0),pF (λh=>h heq),pF (by rw[heq,hany];decide),AT (RU hlt (by rw[G];exact E))]) XZ).symm⟩
  exact TM<|Z2 O<|⟨(j+1),TO (aS O) (aO O) O O,⟨XX,by simp only[JL,hdup,G,E];rfl⟩,XX⟩
 have he:ofE S q=0:=by unfold ofE;rw[pF (λh=>h h0),pF (λh=>h heq),pF (by rw[heq,hany];decide),pF (by rw[show q.length=j by omega,hdup];decide)]
 exact Gx O<|Z2 O<|Rs O (aa call127 (Kf S hS V q (MU he).2) O)<|Y2 O<|Gt O<|⟨_,_,O,O,⟨au ⟨_,underlying32,O⟩ Ms O O O,X5⟩,by unfold ofV;rw[he,AT O];rfl⟩
end

section
open Mk
theorem Fe(u:UpOk P):(aR P).length=P.length:=by rw[(b8 u).length_eq,bo]
def bm:Sch:=⟨[(⟨#[97]⟩,1),(⟨#[98]⟩,1),(⟨#[99]⟩,1)],[(⟨#[114]⟩,[0,1]),(⟨#[113]⟩,[1,2])],[], -1⟩
theorem oe:SB bm:=⟨XZ,XZ,XZ,XZ,XZ,XZ⟩
theorem FA:bG bm=0:=XZ
abbrev bE:List Int:=[1, -1,1]
theorem uH:o6 bm bE=0:=XZ
theorem CM(a:Int):zK [a]=[a]:=(uW (UX [a]) X2).symm
theorem L5:zK []=[]:=(uW (UX []) X2).symm
theorem Jb:gh bm bE 0=[1]:=by unfold gh;rw[show NU bm bE 0=[1] by decide,CM]
theorem N8:gh bm bE 1=[]:=by unfold gh;rw[show NU bm bE 1=[] by decide,L5]
theorem HX:gh bm bE 2=[1]:=by unfold gh;rw[show NU bm bE 2=[1] by decide,CM]
theorem FX(l:List Int)(u:l.length<=1000000000):FnP prog 17 [aq l,aq l] (· = .bool VA):=by
 have h:=Hm l l u u;rw[SR O]at h;exact h
end
theorem LY{P:Program}{args:List PV}(h:FnP P f args (· = .bool VA))(w:World)(B:rN w (λb=>b<w.heap.size))(z:RelPL w (λb=>b<w.heap.size) args us):
  Calls P f us.toArray w λe w'=>e= .returned (.bool VA)/\Below w.heap.size w w':=
 (h w _ us B (λ_ hb=>hb) z).mono λ_ _ ⟨u,v,e,hv,hb,hr⟩=>by grind[RelP]
section
open Mk
theorem qT:∀{l:List Int},l.Pairwise (· < ·)->(∀a∈l,0<=a/\a<n)->l.length<=n:=by
 intro l hp hr;have u:l.Nodup:=hp.imp (λh e=>by omega);have z:∀a∈l,a∈upZ n:=λa ha=>by
  obtain⟨x,hx⟩:=tI (hr a ha).1;exact cf.2 ⟨x,by have:=(hr a ha).2;omega,hx⟩
 have:(((upZ n).filter λa=>decide (a∈l))).Perm l:=fF (WI VR (cQ _)) u λa=>by grind
 rw[<-this.length_eq];exact AI (VZ _ _) (by rw[bo];exact tJ _)
theorem GB(p:UInt8)(i:Nat):(nm p i).size=2:=by
 unfold nm chr;simp[WM];rfl
theorem tR(h:Made S most)(D:most<=8):SB S:=by
 have u:=h.a2;have z:=h.r2;have B:=eO h.fs;refine⟨XX,XX,XX,λx hx=>?_,λx hx=>?_,λx hx=>?_⟩
 .obtain⟨i,hi,rfl⟩:=Vz hx;rw[(h.at' i hi).1,GB];decide
 .obtain⟨i,hi,rfl⟩:=Vz hx;rw[(h.rs i hi).1,GB];decide
 obtain⟨i,hi,rfl⟩:=Vz hx;have:=qT (h.rs i hi).2.2.1 (h.rs i hi).2.2.2;omega
section
variable {C:Ctx}{n:Nat}{σ:St}{dst:Option Tmp}{ty:TypeId}{ts:Array TypeId}{pos:String}{after:Array Edge}{gd:Option (Nat×Bool)}
def RM(T:TypeId)(id:Nat)(Q:PV->List PV->Prop)(s:OS):Prop:=∃r cs',Q r cs'/\s=⟨.pv r,[(id,UF (.mix T (cs'.map .pv)))],[]⟩
theorem relM{ps:List PV}{Q:PV->List PV->Prop}(hc:db C.P f)(z:FnM C.P f T cs ps Q)(u:xs.toList.map (σ.ev n)= .ptr id 0::ps.map .pv)(B:σ.ob id=UF (.mix T (cs.map .pv))):
  OJ C n ⟨dst,.call { callee:=.value (.func f),args:=xs,argTypes:=ts },ty,pos,after,gd⟩ (λτ'=>∃s,RM T id Q s/\s.wr.map (·.1)=[id]/\s.nw=[]/\τ'=σ.app dst s) σ:=
 mW hc z u B λr cs' h=>⟨_,⟨r,cs',h,O⟩,O,O,O⟩
end
end
section
open Mk
theorem xu(L:List Int)(k:Nat)(J:L.length<=600)(M:k<=L.length)(S:Sch)(hS:SB S)(G:bG S=0):
  FnM prog 23 73 (jh L k) [gg S] (λv c=>(∃q:List Int,q.Perm (upZ S.attrs.length)/\v=nB (ordL S q))/\∃k',k'<=L.length/\c=jh L k'):=by
 refine FnM.ofC (rt:=32) (k:=1) func23 O ntmps23 X2 O X2 ⟨_,underlying32,O⟩ Ms λ_ _ _ _=>?_
 have D:=jd G;have E:=D.n2;have B:=D.n1;refine Z2 O<|Ge O follows [0,1,2,3,4,10,5,6,7,8,9,11,12] XY<|Dr 6 O<|DL.rel (RM 73 big (λv c=>(∃q:List Int,q.Perm (upZ S.attrs.length)/\v=aq q)/\∃k',k'<=L.length/\c=jh L k')) [big] [] [big] O O O (λτ h=>relM call62 (xH L k S.attrs.length J M B XX) (h.args.trans O) (Eo h 0 O O)) O XY XY XY ?_;rintro _ ⟨_,_,⟨⟨q,hq,rfl⟩,k2,hk2,rfl⟩,rfl⟩ _ _;have H:q.length=S.attrs.length:=by rw[hq.length_eq,bo]
 have u:ofV S q= .tup [nB (ordL S q),.int .i64 0]:=by unfold ofV;rw[KO G hq,AT O]
 have z:=Mw S hS q XX;rw[u]at z;refine Ds [] O (λτ h=>aa call61 z (h.aE O)) O XY<|Dr 5 O ?_;refine⟨XY,?_⟩;exact Z2 O<|Gt O<|⟨1,_,[aq (ordL S q)],jh L k2,O,O,O,O,O,⟨q,hq,O⟩,k2,hk2,O⟩
end


section
open Mk Jn
theorem pr:∀(x y:List UInt8),Op.bytesLess x y=decide (x<y)
 |[],[]=>by simp[Op.bytesLess]
 |_::_,[]=>by simp[Op.bytesLess]
 |[],_::_=>by simp[Op.bytesLess]
 | a::x,b::y=>by
   rw[Op.bytesLess,pr x y];simp only[List.cons_lt_cons_iff];by_cases h1:a<b<;>by_cases h2:a=b<;>by_cases h3:x<y<;>simp[h1,h2,h3]
theorem sN(x:ByteArray)(a b:List ByteArray):bB (x::a) (x::b)=bB a b:=by
 unfold bB DP;rw[UH,OC,OC,cd,cd,List.cons_lt_cons_iff];simp[List.lt_irrefl]
theorem Kd{y:ByteArray}(h:x≠y)(a b:List ByteArray):bB (x::a) (y::b)=Op.bytesLess x.toList y.toList:=by
 unfold bB DP;rw[pr,ByteArray.toList_eq,ByteArray.toList_eq,UH,OC,OC,cd,cd,List.cons_lt_cons_iff];exact⟨λk=>k.elim id λe=>absurd (E9 e.1) h,.inl⟩
theorem uo:∀{i:Nat}{a b:List ByteArray}(u:i<a.length)(z:i<b.length),a.take i=b.take i->a[i]≠b[i]->bB a b=Op.bytesLess a[i].toList b[i].toList
 |0,x::a,y::b,_,_,_,h=>Kd h a b
 | i+1,x::a,y::b,u,z,ht,h=>by
   rw[Xo,Xo,Wg]at ht;obtain⟨rfl,ht⟩:=ht;rw[sN];exact uo (by simpa using u) (by simpa using z) ht h
theorem mu:∀{i:Nat}{a b:List ByteArray},i<=a.length->i<=b.length->(i=a.length\/i=b.length)->a.take i=b.take i->bB a b=decide ((a.length:Int)<b.length)
 |_,[],[],_,_,_,_=>by simp[bB,DP]
 |_,[],y::b,_,_,_,_=>by simp[bB,DP]
 |_,x::a,[],_,_,_,_=>by simp[bB,DP];omega
 |0,x::a,y::b,_,_,h,_=>by simp at h
 | i+1,x::a,y::b,ha,hb,h,ht=>by
   rw[Xo,Xo,Wg]at ht;obtain⟨rfl,ht⟩:=ht;rw[sN,mu (i:=i) (by simpa using ha) (by simpa using hb) (by simpa using h) ht];simp
theorem Dk(a b:List ByteArray)(H:a.length<=1000000)(J:b.length<=1000000):FnP prog 201 [bh a,bh b] (· = .bool (bB a b)):=by
 refine FnP.of func201 O ntmps201 X2 λ_ _ _ _=>?_
 refine Z1 O<|Z1 O<|Gz O (st:=λX6:Nat=>([(0,UG),(1,UG),(5,UF (pIi X6))],[])) 0
  (I:=λX6=>(X6<=a.length/\X6<=b.length)/\a.take X6=b.take X6) (μ:=λX6=>a.length-X6) (x0:=(0)) (TO (aS O) trivial O O) (⟨⟨aJ _,aJ _⟩,O⟩) ?_
 rintro i ⟨hi,ht⟩;refine Gr O<|Ar 5 O ?_;apply TY 5 10 15 [11,12,13,14] O X8
 .intro hb4;exact Ar 5 O<|TQ X7 O O O
 .intro hb4;exact Ar 5 O<|TQ X7 O O O
 refine Gc O (λz=>?_) (λz=>?_)
 .have hab:i<a.length/\i<b.length:=by simp at z;omega
  have B:=bP hab.1;have D:=bO hab.1;have E:=bP hab.2;have G:=bO hab.2;refine TM<|UB 9 O<|Dr 3 O ?_;first|refine D2 O O X0 ?_|refine D1 O ?_
  refine Dr 3 O ?_;first|refine D2 O O X0 ?_|refine D1 O ?_
  refine D1 O ?_;refine⟨XY,?_⟩;refine Gc O (λu=>?_) (λu=>?_)
  .refine UB 10 O<|Dr 3 O ?_;first|refine D2 O O X0 ?_|refine D1 O ?_
   refine Dr 3 O ?_;first|refine D2 O O X0 ?_|refine D1 O ?_
   refine Dr 2 O ?_;refine⟨XY,?_⟩;exact Gt O<|⟨_,_,O,O,ah PV.bool (uo hab.1 hab.2 ht (λe=>by rw[e]at u;simp at u)).symm⟩
  exact TM<|Z3 O<|⟨(i+1),TO (aS O) trivial O O,⟨⟨XX,XX⟩,by rw[sh hab.1,sh hab.2,ht,show a[i]=b[i]from baT (by simpa using u)]⟩,XX⟩
 exact Gx O<|Gr O<|Ar 6 O<|Gt O<|⟨_,_,O,O,ah PV.bool (mu (i:=i) hi.1 hi.2 (by simp at z;omega) ht).symm⟩
theorem nL(a b:List ByteArray)(L:a.length<=1000000)(M:b.length<=1000000):FnP prog 14 [bh a,bh b] (· = .bool (decide (a=b))):=by
 refine FnP.of func14 O ntmps14 X2 λ_ _ _ _=>?_
 refine Z1 O<|Gr O<|Ar 5 O<|Gc O (λu=>?_) (λu=>?_)
 .exact Z1 O<|Gt O<|⟨_,_,O,O,ah PV.bool (Up (λe=>by rw[e]at u;simp at u)).symm⟩
 have hl:a.length=b.length:=by simp at u;omega
 refine TM<|Z3 O<|Gz O (st:=λX6:Nat=>([(0,UG),(1,UG),(12,UG),(13,UF (pIi X6))],[])) 0
  (I:=λX6=>X6<=a.length/\a.take X6=b.take X6) (μ:=λX6=>a.length-X6) (x0:=(0)) (TO (aS O) trivial O O) (⟨aJ _,O⟩) ?_
 rintro i ⟨hi,ht⟩;refine Z1 O<|Gp O (λD=>?_) (λD=>?_)
 .have ha1:i<a.length:=XX;have B:i<b.length:=XX;have E:=bP ha1;have G:=bO ha1;have H:=bP B;have J:=bO B;refine TM<|Z2 O<|UB 9 O<|Dr 3 O ?_;first|refine D2 O O X0 ?_|refine D1 O ?_
  refine Dr 3 O ?_;first|refine D2 O O X0 ?_|refine D1 O ?_
  refine D1 O ?_;refine⟨XY,?_⟩;refine Gc O (λz=>?_) (λz=>?_)
  .exact Z1 O<|Gt O<|⟨_,_,O,O,ah PV.bool (Up (λe=>by subst e;simp at z)).symm⟩
  exact TM<|Z2 O<|⟨(i+1),TO (aS O) trivial O O,⟨XX,by rw[sh ha1,sh B,ht,show a[i]=b[i]from baT (by simpa using z)]⟩,XX⟩
 exact Gx O<|Z1 O<|Gt O<|⟨_,_,O,O,ah PV.bool (SR (by rwa [aG XX,aG XX]at ht)).symm⟩
end
section
section
variable {C:Ctx}{n:Nat}{σ:St}{dst:Option Tmp}{ty t:TypeId}{pos:String}{after:Array Edge}{gd:Option (Nat×Bool)}{x y:Operand}
theorem ix{kl:IntKind}{il:Int}(l:Nat)(E:C.P.underlying T=UF (.slice e))(G:bR C.P e s)(H:σ.ev n x= .osl id s k)(B:σ.ob id=UF o)(J:σ.ev n y= .pv (.int kl il))(L:il=(l:Int))(M:l<=k)(z:o.real=VA:=by rfl):
  XJ C n ⟨dst,.slice T x (UF y) UG UG,ty,pos,after,gd⟩ σ ⟨.tsl id (l*s) (k-l),[],[]⟩:=
 .val λa w m R hw=>by
  obtain⟨b,N,c,he,hkc,hcm,hN,hm,hor⟩:=hw.osl H B z;have D:a.eval y= .int kl l:=by rw[hw.int J,L]
  have u:σ.av id=WA:=by
   cases hv:σ.av id with
   |false=>rfl
   |true=>have:=hw.hr.free id hv;rw[B]at this;cases this
  refine⟨.slice (if c=l then UF ⟨b,0,UG⟩else(UF ⟨b,0,UG⟩:Option Addr).map (·.add (l*s))) (k-l) (c-l),?_,?_⟩
  .simp[execOp,he,D,Instr.sliceAt,Instr.slice,Instr.sliceBounds,Instr.sliceBound,asIntOf,run_underlying E,G.run,M]
  simp only[Rel];refine⟨u,_,_,O,λhp b' N' e=>?_⟩;rw[hm]at e;cases e;rw[pF XX];simp[Addr.add_lit]
theorem J8.tsl(D:σ.ev n y= .tsl id off j)(E:σ.ob id=UF (.cells T cs))(z:news=cs.drop off)(G:news.length=j*size):J8 C n σ y j news:=by
 intro a w m R hw;have h:=hw.ev y;rw[D]at h;simp only[Rel]at h;obtain⟨hav,A,c,he,hA⟩:=h;obtain⟨b,N,hm,arr,hb,hsz,hle,hr⟩:=hw.live E;refine⟨A,c,(arr.toList.take cs.length).drop off,he,by rw[z];exact hr.drop off,λu=>?_⟩;have B:0<j:=by
  rcases Ve j with h0|h0
  .exfalso;apply u;rw[h0,XW,z,Vs]at G;rw[List.drop_eq_nil_iff,OF];omega
  exact h0
 refine⟨b,off,hA B b N hm,X5,(hw.hr.own id b N hm).1,λi hi=>?_⟩;simp only[Vs,OF]at hi;rw[cell_of_row w b (off+i) arr T (0,0) hb,Vp,Uw,AT XX];simp
theorem k9.any(h:k9 n σ y j news):J8 C n σ y j news:=λu=>h.row u
end
end
def St.gsO(σ:St)(t id sz n:Nat)(T:TypeId)(cs:List PV):St:=⟨upd σ.sl t (.gsl id sz n),obL [(id,UF (.gro T cs))] σ.ob,σ.av⟩
theorem St.Hb{σ:St}(t:Nat)(z:σ.sl t= .osl id sz n)(u:σ.ob id=UF (.cells T cs))(B:0<n)(hc:cs≠[]):σ.le (σ.gsO t id sz n T cs):=
 St.Uc fun{C nn a w m R} hw=>⟨λq hq=>by
  show Rel w m σ.av R (upd σ.sl t (.gsl id sz n) q) _;by_cases e:q=t
  .subst e;rw[aB];have:=hw.sl q hq;rw[z]at this;simp only[Rel]at this ⊢;obtain⟨b,N,hm,_⟩:=hw.live u;obtain⟨h0,h1⟩:=this;obtain⟨c,he,h2,h3,h4⟩:=h1 b N hm;exact⟨h0,_,c,he,h2,h3,λe=>by omega,λ_ b' N' hm'=>by rw[hm]at hm';cases hm';exact⟨O,h4⟩⟩
  .rw[aW _ _ e];exact hw.sl q hq,λp hp=>by
  obtain rfl:=IT.1 hp;exact⟨_,_,u,O,cY hc,λ_ _ _ h=>h⟩⟩
def St.nilS(σ:St)(t:Nat):St:=⟨upd σ.sl t (.pv nS),σ.ob,σ.av⟩
theorem St.QQ{σ:St}(t:Nat)(u:σ.sl t= .gsl id sz 0):σ.le (σ.nilS t):=by
 rintro C nn a w ⟨m,R,hw⟩;refine⟨m,R,hw.hr,hw.df,hw.sz,λq hq=>?_⟩;show Rel w m σ.av R (upd σ.sl t (.pv nS) q) _;by_cases e:q=t
 .subst e;rw[aB];have:=hw.sl q hq;rw[u]at this;simp only[Rel,RelP]at this ⊢;obtain⟨_,A,c,he,h1,h2,h3,_⟩:=this;obtain⟨rfl,rfl,_⟩:=h3 trivial;exact⟨UG,0,he,h1,h2,(λ_ e=>by cases e;rfl),(λ_=>rfl),λe=>absurd O e⟩
 rw[aW _ _ e];exact hw.sl q hq
section
open Mk Jn
abbrev rh(x:Rw):List PV:=[bh x.v,.int .i64 x.w]
def a8(l:List Rw):List PV:=l.flatMap rh
abbrev oS(l:List Rw):PV:=.sl UG l.length (a8 l)
theorem bS(l:List Rw):(a8 l).length=l.length*2:=bL _ 2 (λ_=>rfl) l
theorem fa{l:List Rw}(h:k<l.length):((a8 l).drop (k*2)).take 2=rh l[k]:=cZ _ 2 (λ_=>rfl) l k h
theorem gL{l:List Rw}(h:k<l.length):a8 l≠[]:=λe=>by have:=bS l;rw[e]at this;simp at this;omega
theorem Io{l:List Rw}(h:k<l.length):(a8 l)[k*2]? =UF (bh l[k].v):=by
 have:=fa h;have u:(((a8 l).drop (k*2)).take 2)[0]? =(rh l[k])[0]? :=by rw[this]
 simpa[Uw,Vp]using u
theorem Qe{l:List Rw}(h:k<l.length):(a8 l)[k*2+1]? =UF (.int .i64 l[k].w):=by
 have:=fa h;have u:(((a8 l).drop (k*2)).take 2)[1]? =(rh l[k])[1]? :=by rw[this]
 simpa[Uw,Vp]using u
theorem rL(l m:List Rw):a8 (l++m)=a8 l++a8 m:=by simp[a8]
theorem vj(l:List Rw)(x:Rw):a8 l++rh x=a8 (l++[x]):=by simp[a8]
theorem iT(l:List Rw):∀c∈a8 l,c.leaf=VA:=λc hc=>by
 obtain⟨t,_,hc⟩:=UU.1 hc;simp only[By,Vy,Xd]at hc;rcases hc with rfl|rfl<;>rfl
theorem wj(l:List Rw)(k:Nat):(a8 l).take (k*2)=a8 (l.take k)/\(a8 l).drop (k*2)=a8 (l.drop k):=by
 have e:a8 l=a8 (l.take k)++a8 (l.drop k):=by rw[<-rL,U3]
 rcases We l.length k with h|h
 .grind[bS,aG,List.drop_eq_nil_of_le]
 have hl:(a8 (l.take k)).length=k*2:=by rw[bS,OF,U5 h]
 constructor
 .grind
 grind
theorem Ik{l:List Rw}(h:k<l.length)(w:Int):(a8 l).set (k*2+1) (.int .i64 w)=a8 (l.set k ⟨l[k].v,w⟩):=by
 induction l generalizing k with
 |nil=>simp at h
 | cons a l ih=>
   cases k with
   |zero=>rfl
   | succ k=>
     have u:k<l.length:=by simpa using h
     have e:=ih u;rw[show(k+1)*2+1=k*2+1+1+1 by omega];show(bh a.v::PV.int .i64 a.w::a8 l).set (k*2+1+1+1) _=bh a.v::PV.int .i64 a.w::a8 (l.set k ⟨l[k].v,w⟩);rw[List.set_cons_succ,List.set_cons_succ,e]
theorem F2{x:Rw}:∀{i:Nat}{out:List Rw}(h:i<out.length),(∀j (u:j<out.length),j<i->bB out[j].v x.v=VA)->bB out[i].v x.v=WA->out[i].v=x.v->fC x out=out.set i ⟨out[i].v,out[i].w+x.w⟩
 |0,y::l,_,_,h2,h3=>by grind[fC]
 | i+1,y::l,h,h1,h2,h3=>by
   rw[fC,AT (show bB y.v x.v=VA from h1 0 X2 XX),F2 (i:=i) (by simpa using h) (λj u hji=>h1 (j+1) (by simpa using u) XX) (by simpa using h2) (by simpa using h3)];rfl
theorem uz{x:Rw}:∀{i:Nat}{out:List Rw},i<=out.length->(∀j (u:j<out.length),j<i->bB out[j].v x.v=VA)->(∀(h:i<out.length),bB out[i].v x.v=WA/\out[i].v≠x.v)->fC x out=out.take i++x::out.drop i
 |0,[],_,_,_=>rfl
 |0,y::l,_,_,h2=>by grind[fC]
 | i+1,y::l,h,h1,h2=>by
   rw[fC,AT (show bB y.v x.v=VA from h1 0 X2 XX),uz (i:=i) (by simpa using h) (λj u hji=>h1 (j+1) (by simpa using u) XX) (λz=>h2 (by simpa using z))];rfl
theorem GJ{x:Rw}{B X:Int}(hB:0<=B)(D: -X<=x.w/\x.w<=X):∀{l:List Rw},(∀y∈l, -B<=y.w/\y.w<=B)->∀y∈fC x l, -(B+X)<=y.w/\y.w<=B+X
 |[],_,y,hy=>by rw[fC,IT]at hy;rw[hy];omega
 | z::l,h,y,hy=>by
   have hz:=h z X2;have u:∀y∈l, -B<=y.w/\y.w<=B:=λy hy=>h y (by simp[hy])
   rw[fC]at hy;split at hy
   .rcases By.1 hy with rfl|hy
    .omega
    exact GJ hB D u y hy
   grind
structure SoF(l:List Rw)(k:Nat)(out:List Rw):Prop where
 e:out=(l.take k).foldl (λout x=>fC x out) []
 v:∀y∈out,y.v.length<=1000
 w:∀y∈out, -((k:Int)*1000000)<=y.w/\y.w<=(k:Int)*1000000
 n:out.length<=k
theorem SoF.zero(l:List Rw):SoF l 0 []:=⟨O,λ_ h=>absurd h X2,λ_ h=>absurd h X2,tJ _⟩
theorem SoF.succ{l out:List Rw}(h:SoF l k out)(u:k<l.length)(D:l[k].v.length<=1000)(E: -1000000<=l[k].w/\l[k].w<=1000000):SoF l (k+1) (fC l[k] out):=by
 refine⟨?_,λy hy=>?_,λy hy=>?_,?_⟩
 .rw[sh u,W5,<-h.e];rfl
 .rcases pI hy with e|⟨z,hz,e⟩
  .rw[e];exact D
  rw[e];exact h.v z hz
 .have:=GJ (B:=(k:Int)*1000000) (X:=1000000) XX E h.w y hy;have e:((k+1:Nat):Int)*1000000=(k:Int)*1000000+1000000:=XX;rw[e];exact this
 have:=uv l[k] out;have:=h.n;omega
theorem D4(l:List Rw)(hl:l.length<=1000)(hv:∀x∈l,x.v.length<=1000)(hw:∀x∈l, -1000000<=x.w/\x.w<=1000000):FnP prog 129 [oS l] (· =oS (nF l)):=by
 refine FnP.of func129 O ntmps129 X2 λ_ _ _ _=>?_
 have az:=bS l;refine Z1 O<|Z1 O<|TN (TU 3 0 2 41 O O)<|Z3 O<|Gz O (st:=λX6:Nat×List Rw=>([(3,UF (.gsl 0 2 X6.2.length)),(10,UG),(11,UG),(12,UF (pIi X6.1))],[(0,UF (.gro 41 (a8 X6.2)))])) 1
  (I:=λX6=>X6.1<=l.length/\SoF l X6.1 X6.2) (μ:=λX6=>l.length-X6.1) (x0:=(0,[])) (TO (aS O) (aO O) O O) (⟨aJ _,SoF.zero l⟩) ?_
 rintro⟨k,out⟩ ⟨hk,hs⟩;try simp only at hk hs ⊢
 refine Z1 O<|Gp O (λag=>?_) (λag=>?_)
 .have hlt:k<l.length:=XX;have ax:=fa hlt;have aA:=gL hlt;have al:=hv _ (ak hlt);have am:=hw _ (ak hlt);have U:=hs.succ hlt al am;have an:=hs.n;have ao:=bS out;have ap:=hs.w;have ac:=hs.v;generalize l[k]=x at*;refine TM<|Z1 O ?_;first|refine A3 O X0 ?_|refine A1 O ?_
  refine Y2 O ?_;by_cases he:out=[]
  .have hl0:out.length=0:=by rw[he];rfl
   refine TN (St.QQ 3 (id:=0) (sz:=2) (ah (λn=>V.gsl 0 2 n) hl0))<|Z1 O<|Gz O (st:=λD:Nat=>([(3,UG),(5,UG),(6,UF (pIi D)),(10,UG),(11,UG),(12,UG)],[(1,UG)])) 2
    (I:=λD=>D<=out.length/\∀j (hj:j<out.length),j<D->bB out[j].v x.v=VA) (μ:=λD=>out.length-D) (x0:=(0)) (TO (aS O) (aO O) O O) (⟨aJ _,λj _ h=>absurd h XX⟩) ?_
   rintro i ⟨hi,hall⟩;refine UB 14 O<|Dr 3 O<|Ds [] O (λτ h=>T6 (Ee h 0 O O) (Ee h 1 O O) O (Up XX)) O XY<|Dr 10 O ?_;refine⟨XY,?_⟩;refine Gc O (λu=>absurd u X2) (λu=>?_);refine Gx O<|UB 14 O<|Dr 3 O<|Ds [] O (λτ h=>T6 (Ee h 0 O O) (Ee h 1 O O) O (Up XX)) O XY<|Dr 10 O ?_;refine⟨XY,?_⟩;refine Gc O (λB=>absurd B X2) (λB=>?_);refine TM ?_;obtain rfl:i=0:=XX;have E:fC x out=[x]:=by rw[he];rfl
   refine UB 11 O<|Dr 8 O<|Ds [_] O (λτ h=>dx 3 Lj (Ee h 0 O O) (Eo h 0 O O) O (.inl ⟨_,(Ee h 1 O O)⟩) O X2 XX (h.n 0 _ O)) O XY<|Ds [_] O (λτ h=>lz 4 Lj (Ee h 0 O O) (.inr ⟨_,_,_,_,(Ee h 1 O O),(Eo h 0 O O),O⟩) O (iT [x]) XX (h.n 0 _ O)) O XY<|D1 O ?_;refine⟨XY,?_⟩;exact Z2 O<|⟨(k+1,fC x out),TP [4] ⟨ah (λn=>V.gsl 4 2 n) (show 1=(fC x out).length by rw[E];rfl),O,O,O,X5⟩ ⟨UI (b:=UF (.gro 41 (rh x))) XY (ah (λc=>UF (Ob.gro 41 c)) (show rh x=a8 (fC x out) by rw[E];rfl)),X5⟩ O O XZ O,⟨XX,U⟩,X4⟩
  have hpos:0<out.length:=U7.2 he;have W:a8 out≠[]:=gL hpos;refine TN (St.HW 3 O O hpos W)<|Z1 O<|Gz O (st:=λD:Nat=>([(3,UG),(5,UG),(6,UF (pIi D)),(10,UG),(11,UG),(12,UG)],[(0,UG),(1,UG)])) 2
   (I:=λD=>D<=out.length/\∀j (hj:j<out.length),j<D->bB out[j].v x.v=VA) (μ:=λD=>out.length-D) (x0:=(0)) (TO (aS O) (aO O) O O) (⟨aJ _,λj _ h=>absurd h XX⟩) ?_
  rintro i ⟨hi,hall⟩;by_cases hi2:i<out.length
  .have hov:(a8 out)[i*2+0]? =UF (bh out[i].v):=Io hi2;have aq:=Qe hi2;have X:=ak hi2;have aB:=ap _ X;have ar:=Dk out[i].v x.v (by have:=ac _ X;omega) XX;have au:=nL out[i].v x.v (by have:=ac _ X;omega) XX;refine UB 14 O<|Dr 3 O<|Ds [] O (λτ h=>T4 (Ee h 0 O O) (Ee h 1 O O) O (SR XX)) O XY<|Dr 5 O<|Dg [_] O (λτ h=>cL ⟨_,underlying39,O⟩ (Ee h 0 O O) (Eo h 0 O O) hov) O XY<|Dr 2 O<|Dg [] O (λτ h=>aa call201 ar (h.aE O)) O XY<|D1 O ?_;refine⟨XY,?_⟩;refine Gc O (λu=>?_) (λu=>?_)
   .exact TM<|Z3 O<|⟨(i+1),TO (aS O) (aO O) O O,⟨XX,λj hj hji=>if h:j<i then hall j hj h else(by obtain rfl:j=i:=XX;exact u)⟩,XX⟩
   refine Gx O<|UB 14 O<|Dr 3 O<|Ds [] O (λτ h=>T4 (Ee h 0 O O) (Ee h 1 O O) O (SR XX)) O XY<|Dr 5 O<|Dg [_] O (λτ h=>cL ⟨_,underlying39,O⟩ (Ee h 0 O O) (Eo h 0 O O) hov) O XY<|Dr 2 O<|Dg [] O (λτ h=>aa call14 au (h.aE O)) O XY<|D1 O ?_;refine⟨XY,?_⟩;refine Gc O (λB=>?_) (λB=>?_)
   .have hins:fC x out=out.set i ⟨out[i].v,out[i].w+x.w⟩:=F2 hi2 hall (by simpa using u) (V9 B);refine UB 11 O<|Dr 4 O<|Ds [_] O (λτ h=>cL ⟨_,underlying3,O⟩ (Ee h 0 O O) (Eo h 0 O O) aq) O XY<|Dr 5 O<|DL.step (d:=UG) [_] O O O (λτ h=>bY sz3 (Ee h 0 O O) (Eo h 0 O O) (Ee h 1 O O) O (by first|omega|(simp;omega))) O XY ?_;refine⟨XY,?_⟩;refine TN (St.Hb 3 O O hpos (by intro e;have h:=ah List.length e;rw[Ut]at h;exact W (UM h))) ?_;exact Gx O<|Z2 O<|⟨(k+1,fC x out),TO ⟨ah (λn=>V.gsl 0 2 n) (show out.length=(fC x out).length by rw[hins,Ut]),O,O,O,X5⟩ ⟨UI (b:=UF (.gro 41 ((a8 out).set (i*2+1) (.int .i64 (out[i].w+x.w))))) XY (ah (λc=>UF (Ob.gro 41 c)) (by rw[hins];exact Ik hi2 _)),X5⟩ O O,⟨XX,U⟩,X4⟩
   refine TM ?_;have E:fC x out=out.take i++x::out.drop i:=uz hi hall (λh=>⟨by simpa using u,VY B⟩);have H:=wj out i;have J:((a8 out).drop (i*2)).length=(out.length-i)*2:=by rw[Vs];omega
   have z:((rh x).take (1*2)++(a8 out).drop (i*2)).take ((1+(out.length-i))*2)=a8 (x::out.drop i):=by
    rw[H.2,show(rh x).take (1*2)++a8 (out.drop i)=a8 (x::out.drop i)from O,aG];rw[bS,IN,Vs];omega
   have Y:(((rh x).take (1*2)++(a8 out).drop (i*2)).take ((1+(out.length-i))*2)).length=(1+(out.length-i))*2:=by rw[z,bS,IN,Vs];omega
   have Z:∀c∈((rh x).take (1*2)++(a8 out).drop (i*2)).take ((1+(out.length-i))*2),c.leaf=VA:=by rw[z];exact iT _
   have L:(a8 out).take (i*2)++((rh x).take (1*2)++(a8 out).drop (i*2)).take ((1+(out.length-i))*2)=a8 (fC x out):=by rw[z,H.1,E,rL]
   have ab:i+(1+(out.length-i))=(fC x out).length:=by rw[E,D8,IN,OF,Vs];omega
   refine UB 11 O<|Dr 2 O<|Ds [_] O (λτ h=>fG i underlying38 Ko (Ee h 0 O O) (Eo h 0 O O) (Ee h 1 O O) O hi) O XY<|Dr 4 O<|Ds [_] O (λτ h=>ix i underlying38 Ko (Ee h 0 O O) (Eo h 0 O O) (Ee h 1 O O) O hi) O XY<|Ds [_,_] O (λτ h=>bW 3 Lj (Ee h 0 O O) (Eo h 0 O O) (tJ _) (J8.tsl (Ee h 1 O O) (Eo h 1 O O) O J) J (λc hc=>iT out c (V8 hc)) XX (h.n 0 _ O)) O XY<|Ds [_,_] O (λτ h=>bW 4 Lj (Ee h 0 O O) (Eo h 0 O O) XX (k9.any (.inr ⟨_,_,_,_,(Ee h 1 O O),(Eo h 1 O O),O⟩)) Y Z XX (h.n 0 _ O)) O XY<|D1 O ?_;refine⟨XY,?_⟩;exact TN (St.Hb 3 O O XX (λe=>gL (l:=fC x out) (k:=0) XX (L.symm.trans e)))<|Z2 O<|⟨(k+1,fC x out),TP [4] ⟨ah (λn=>V.gsl 4 2 n) ab,O,O,O,X5⟩ ⟨UI (b:=UF (.gro 41 ((a8 out).take (i*2)++((rh x).take (1*2)++(a8 out).drop (i*2)).take ((1+(out.length-i))*2)))) XY (ah (λc=>UF (Ob.gro 41 c)) L),X5⟩ O O XZ O,⟨XX,U⟩,X4⟩
  refine UB 14 O<|Dr 3 O<|Ds [] O (λτ h=>T6 (Ee h 0 O O) (Ee h 1 O O) O (Up XX)) O XY<|Dr 10 O ?_;refine⟨XY,?_⟩;refine Gc O (λu=>absurd u X2) (λu=>?_);refine Gx O<|UB 14 O<|Dr 3 O<|Ds [] O (λτ h=>T6 (Ee h 0 O O) (Ee h 1 O O) O (Up XX)) O XY<|Dr 10 O ?_;refine⟨XY,?_⟩;refine Gc O (λB=>absurd B X2) (λB=>?_);refine TM ?_;have E:fC x out=out.take i++x::out.drop i:=uz hi hall (λh=>absurd h hi2);have H:=wj out i;have J:((a8 out).drop (i*2)).length=(out.length-i)*2:=by rw[Vs];omega
  have z:((rh x).take (1*2)++(a8 out).drop (i*2)).take ((1+(out.length-i))*2)=a8 (x::out.drop i):=by
   rw[H.2,show(rh x).take (1*2)++a8 (out.drop i)=a8 (x::out.drop i)from O,aG];rw[bS,IN,Vs];omega
  have Y:(((rh x).take (1*2)++(a8 out).drop (i*2)).take ((1+(out.length-i))*2)).length=(1+(out.length-i))*2:=by rw[z,bS,IN,Vs];omega
  have Z:∀c∈((rh x).take (1*2)++(a8 out).drop (i*2)).take ((1+(out.length-i))*2),c.leaf=VA:=by rw[z];exact iT _
  have L:(a8 out).take (i*2)++((rh x).take (1*2)++(a8 out).drop (i*2)).take ((1+(out.length-i))*2)=a8 (fC x out):=by rw[z,H.1,E,rL]
  have ab:i+(1+(out.length-i))=(fC x out).length:=by rw[E,D8,IN,OF,Vs];omega
  refine UB 11 O<|Dr 2 O<|Ds [_] O (λτ h=>fG i underlying38 Ko (Ee h 0 O O) (Eo h 0 O O) (Ee h 1 O O) O hi) O XY<|Dr 4 O<|Ds [_] O (λτ h=>ix i underlying38 Ko (Ee h 0 O O) (Eo h 0 O O) (Ee h 1 O O) O hi) O XY<|Ds [_,_] O (λτ h=>bW 3 Lj (Ee h 0 O O) (Eo h 0 O O) (tJ _) (J8.tsl (Ee h 1 O O) (Eo h 1 O O) O J) J (λc hc=>iT out c (V8 hc)) XX (h.n 0 _ O)) O XY<|Ds [_,_] O (λτ h=>bW 4 Lj (Ee h 0 O O) (Eo h 0 O O) XX (k9.any (.inr ⟨_,_,_,_,(Ee h 1 O O),(Eo h 1 O O),O⟩)) Y Z XX (h.n 0 _ O)) O XY<|D1 O ?_;refine⟨XY,?_⟩;exact TN (St.Hb 3 O O XX (λe=>gL (l:=fC x out) (k:=0) XX (L.symm.trans e)))<|Z2 O<|⟨(k+1,fC x out),TP [4] ⟨ah (λn=>V.gsl 4 2 n) ab,O,O,O,X5⟩ ⟨UI (b:=UF (.gro 41 ((a8 out).take (i*2)++((rh x).take (1*2)++(a8 out).drop (i*2)).take ((1+(out.length-i))*2)))) XY (ah (λc=>UF (Ob.gro 41 c)) L),X5⟩ O O XZ O,⟨XX,U⟩,X4⟩
 refine TN (TR 0 O O) ?_;have an:=hs.n;have ao:=bS out;have ad:nF l=out.filter λy=>y.w !=0:=by rw[nF,hs.e,show k=l.length by omega,V7]
 refine Gx O<|Z1 O<|TN (TU 7 1 2 41 O O)<|Z3 O<|Gz O (st:=λG:Nat×List Rw=>([(7,UF (.gsl 1 2 G.2.length)),(67,UG),(68,UG),(69,UF (pIi G.1))],[(1,UF (.gro 41 (a8 G.2)))])) 2
  (I:=λG=>(G.1<=out.length/\G.2.length<=G.1)/\G.2=(out.take G.1).filter λy=>y.w !=0) (μ:=λG=>out.length-G.1) (x0:=(0,[])) (TO (aS O) (aO O) O O) (⟨⟨aJ _,tJ _⟩,O⟩) ?_
 rintro⟨j,q⟩ ⟨hj,hq⟩;try simp only at hj hq ⊢
 refine Z1 O<|Gp O (λaj=>?_) (λaj=>?_)
 .have hlj:j<out.length:=XX;have aD:=fa hlj;have aF:=gL hlj;have aM:=bS q;have af:out.take (j+1)=out.take j++[out[j]]:=sh hlj;generalize out[j]=y at*;refine TM<|Z1 O ?_;first|refine A3 O X0 ?_|refine A1 O ?_
  refine Y2 O<|Z3 O<|Gc O (λM=>?_) (λM=>?_)
  .exact Gr O<|Ar 5 O<|Z2 O<|⟨(j+1,q++[y]),TP [0,4] ⟨ah (λn=>V.gsl 4 2 n) (show q.length+1=(q++[y]).length by simp),O,O,O,X5⟩ ⟨UI (b:=UF (.gro 41 (a8 q++rh y))) XY (ah (λc=>UF (Ob.gro 41 c)) (vj q y)),X5⟩ O O XZ O,⟨⟨XX,by simp only[D8,Uu];omega⟩,by rw[af,List.filter_append,<-hq];simp only[List.filter_cons,List.filter_nil];rw[AT M]⟩,X4⟩
  exact TM<|Z2 O<|⟨(j+1,q),TO (aS O) (aO O) O O,⟨⟨XX,X4⟩,by rw[af,List.filter_append,<-hq];simp only[List.filter_cons,List.filter_nil];rw[pF (by rw[M];decide),Vg]⟩,X4⟩
 exact TN (TR 1 O O)<|Gx O<|Z2 O<|Gt O<|⟨_,_,O,O,by rw[ad,show out.filter (λy=>y.w !=0)=q by rw[hq,aG XX]];rfl⟩
end
section
open Mk Jn
def Kb:List ByteArray:=[⟨#[114,101,100]⟩,⟨#[103,114,101,101,110]⟩,⟨#[98,108,117,101]⟩]
def xQ:List ByteArray:=[⟨#[49]⟩,⟨#[50]⟩,⟨#[49,48]⟩]
def ET:List ByteArray:=[⟨#[48]⟩,⟨#[49]⟩,⟨#[45,50]⟩,⟨#[49,47,50]⟩,⟨#[51]⟩,⟨#[53,47,51]⟩,⟨#[49]⟩,⟨#[50]⟩]
def jl(kd:Int):List ByteArray:=⟨#[]⟩::(if kd=3 then Kb else if kd=1 then xQ else ET)
def RA(c:Nat)(kd:Int):ByteArray:=if c=8 then⟨#[]⟩else if kd=3 then Kb.getD (c%3) ⟨#[]⟩else if kd=1 then xQ.getD (c%3) ⟨#[]⟩else ET.getD c ⟨#[]⟩
theorem ki(h:j<l.length):l.getD j ⟨#[]⟩=l[j]/\l[j]∈l:=⟨by simp[List.getD,h],ak h⟩
theorem L0(kd:Int)(h:c<9):RA c kd∈jl kd:=by grind[RA,jl,U0,ki,Kb,Vi,xQ,ET]
theorem Dy(L:List Int)(k:Nat)(U:L.length<=600)(V:k<=L.length)(nm:ByteArray)(kd:Int):
  FnM prog 128 73 (jh L k) [.agg [.str nm,.int .i64 kd]] (λv c=>v= .str (RA (sNv L k 9).toNat kd)/\c=jh L (sNk L k)):=by
 refine FnM.of func128 O ntmps128 X2 O X2 λ_ _ _ _=>?_
 have H:=gB L k 9 U V XZ XZ;have J:=jL L k 9 XZ;obtain⟨c,hc⟩:=tI J.1;have M:c<9:=XX;rw[hc]at H;rw[hc,Ux];refine Z2 O<|Z1 O<|Rs O (cq call7 H O O)<|A1 O<|Z3 O<|Gc O (λE=>?_) (λE=>?_)
 .have h8:c=8:=by have h:(c:Int)=8:=(by simpa using E);omega
  exact Z1 O<|Gt O<|⟨_,jh L (sNk L k),O,O,ah PV.str (by rw[RA,AT h8]),O⟩
 have h8:¬c=8:=by have h:¬ (c:Int)=8:=(by simpa using E);omega
 refine Z4 O<|Gc O (λB=>?_) (λB=>?_)
 .have h3:kd=3:=by simpa using B
  have u:c%3<Kb.length:=Vi _ XZ;have G:=bP u;have z:=bO u;exact Gr O<|Rs O (ax (vs:=Kb.map λx=> .pv (.str x)) (cs:=ct Kb) UG X2 De O XZ XZ XY XY)<|A1 O<|Rs O (XJ.cast (v':= pIi ((c%3:Nat):Int)) (fp O O XZ) O)<|Rs O (ag (c%3) underlying39 sz9 O O O u z)<|Rs O (ar ⟨_,underlying9,O⟩ O G)<|A1 O<|Gt O<|⟨_,jh L (sNk L k),O,O,ah PV.str (by rw[RA,pF h8,AT h3,(ki u).1]),O⟩
 have h3:¬kd=3:=by simpa using B
 refine Z4 O<|Gc O (λD=>?_) (λD=>?_)
 .have h1:kd=1:=by simpa using D
  have u:c%3<xQ.length:=Vi _ XZ;have G:=bP u;have z:=bO u;exact Gr O<|Rs O (ax (vs:=xQ.map λx=> .pv (.str x)) (cs:=ct xQ) UG X2 De O XZ XZ XY XY)<|A1 O<|Rs O (XJ.cast (v':= pIi ((c%3:Nat):Int)) (fp O O XZ) O)<|Rs O (ag (c%3) underlying39 sz9 O O O u z)<|Rs O (ar ⟨_,underlying9,O⟩ O G)<|A1 O<|Gt O<|⟨_,jh L (sNk L k),O,O,ah PV.str (by rw[RA,pF h8,pF h3,AT h1,(ki u).1]),O⟩
 have h1:¬kd=1:=by simpa using D
 have u:c<ET.length:=by have e:ET.length=8:=rfl;omega
 have G:=bP u;have z:=bO u;exact TM<|Gr O<|Rs O (ax (vs:=ET.map λx=> .pv (.str x)) (cs:=ct ET) UG X2 De O XZ XZ XY XY)<|A1 O<|Rs O (ag c underlying39 sz9 O O O u z)<|Rs O (ar ⟨_,underlying9,O⟩ O G)<|A1 O<|Gt O<|⟨_,jh L (sNk L k),O,O,ah PV.str (by rw[RA,pF h8,pF h3,pF h1,(ki u).1]),O⟩
theorem zS(L:List Int)(k:Nat)(u:L.length<=600)(z:k<=L.length)(nm:ByteArray)(kd:Int):
  ∃x∈jl kd,FnM prog 128 73 (jh L k) [.agg [.str nm,.int .i64 kd]] (λv c=>v= .str x/\c=jh L (sNk L k)):=
 ⟨_,L0 kd (by have:=jL L k 9 XZ;omega),Dy L k u z nm kd⟩
end
section
open Mk Jn
theorem GU(x y:Int)(z:x.natAbs<1000000000)(B:y.natAbs<1000000000):PO x y:=by
 have u:∀n:Nat,n<1000000000->(ae n).length<=1:=λn h=>aY.2 XX
 exact qA (λa b=>a<1000000000/\b<1000000000) (λa b h h0 h1 _ _=>by grind) x y ⟨z,B⟩ (by have:=u _ z;omega) (by have:=u _ B;omega)
theorem Kn{s:ByteArray}(h:bF s=WA):jv s=⟨#[]⟩:=by
 unfold bF at h;unfold jv;have:∀l m:List UInt8,(Lib.cut l m).2.2=WA->(Lib.cut l m).2.1=[]:=λl m h=>by
  unfold Lib.cut at h ⊢;split at h
  .simp at h
  split
  .contradiction
  .rfl
 rw[this _ _ h]
theorem GC(z:Int)(U:z.natAbs<1000000000):FnP prog 250 [fc z] (· = .tup [.int .i64 z,.bool VA]):=by
 refine FnP.of func250 O ntmps250 X2 λ_ _ _ _=>?_
 have J:(ae z.natAbs).length<=1:=aY.2 XX;have E:=od (ae z.natAbs) 2 XX;have M:lim (ae z.natAbs) 2=0:=by rw[ml];omega
 generalize lim (ae z.natAbs) 2=L at*;have H:=fH z.natAbs XX;have G:IntKind.i64.wrap ((z.natAbs:Nat):Int)=(z.natAbs:Int):=eF XX;refine Z3 O<|Gr O<|Ar 5 O ?_;apply TX 5 9 14 [10,11,12,13] O X8
 .intro hb4;exact Ar 5 O<|TQ X7 O O O
 .intro hb4;exact Y2 O<|Rg O (aa call280 E O)<|Y2 O<|TQ X7 O O O
 refine Gc O (λB=>absurd B (λh=>by simp at h;omega)) (λB=>?_);refine TM<|UB 10 O<|Dr 2 O<|Ds [] O (λτ h=>aa call280 E (h.aE O)) O XY<|Ds [] O (λτ h=>rH (b:=1000000000) (Ee h 0 O O) (Ee h 1 O O) XX) O XY<|Ds [] O (λτ h=>rH (b:=1000000000) (Ee h 0 O O) (Ee h 1 O O) XX) O XY<|Dr 2 O<|Ds [] O (λτ h=>aa call291 H (h.aE O)) O XY<|Ds [] O (λτ h=>XJ.cast (v':=.pv (.int .u64 (z.natAbs:Int))) (tM (b:=z.natAbs) (Ee h 0 O O) (Ee h 1 O O) XX) (ah (λn:Nat=>V.pv (.int .u64 (n:Int))) XX)) O XY<|D1 O ?_;refine⟨XY,?_⟩;refine Z2 O<|Gp O (λD=>absurd D XX) (λD=>?_);refine TM<|Z2 O<|Gc O (λu=>?_) (λu=>?_)
 .have hz0:z<0:=V9 u;exact Z1 O<|Rs O ((jk underlying262 underlying3 O).cast (v':= pIi (z.natAbs:Int)) (ah (λz=>pIi z) G))<|Y3 O<|Gt O<|⟨_,_,O,O,ah (λq=>PV.tup [PV.int IntKind.i64 q,PV.bool VA]) (show-(z.natAbs:Int)=z by omega)⟩
 have hz0:¬z<0:=VY u;exact TM<|Z1 O<|Rs O ((jk underlying262 underlying3 O).cast (v':= pIi (z.natAbs:Int)) (ah (λz=>pIi z) G))<|Y2 O<|Gt O<|⟨_,_,O,O,ah (λq=>PV.tup [PV.int IntKind.i64 q,PV.bool VA]) (show(z.natAbs:Int)=z by omega)⟩
theorem wR(s:ByteArray)(h:aQ s=VA)(B:(rdZ s).natAbs<1000000000):FnP prog 197 [.str s] (· = .tup [.int .i64 (rdZ s),.bool VA]):=by
 refine FnP.of func197 O ntmps197 X2 λ_ _ _ _=>?_
 have z:=eP s;rw[h]at z;refine Z2 O<|Z1 O<|Rs O (aa call245 z O)<|A1 O<|Gc O (λu=>absurd u X2) (λu=>?_);exact TM<|Z1 O<|Rs O (aa call249 (oC s h) O)<|Rs O (aa call250 (GC _ B) O)<|Ar 4 O<|Gt O<|⟨_,_,O,O,O⟩
theorem oR(s:ByteArray)(h:aQ s=VA)(B:(rdZ s).natAbs<1000000000):FnP prog 195 [.str s] (· = .bool VA):=by
 refine FnP.of func195 O ntmps195 X2 λ_ _ _ _=>?_
 have u:decide (rdZ s>= -1000000000)=VA:=SR XX;have z:decide (rdZ s<=1000000000)=VA:=SR XX;exact Z1 O<|Z1 O<|Rs O (aa call197 (wR s h B) O)<|Ar 5 O<|Z3 O<|Rg O (T4 O O O u)<|Y3 O<|Rg O (T4 O O O z)<|Y2 O<|Gt O<|⟨_,_,O,O,O⟩
theorem Pt:aQ ⟨#[]⟩=WA:=XY
theorem Hq:FnP prog 197 [.str ⟨#[]⟩] (· = .tup [.int .i64 0,.bool WA]):=by
 refine FnP.of func197 O ntmps197 X2 λ_ _ _ _=>?_
 have z:=eP ⟨#[]⟩;rw[Pt]at z;refine Z2 O<|Z1 O<|Rs O (aa call245 z O)<|A1 O<|Gc O (λu=>?_) (λu=>absurd u X2);exact Z2 O<|Gt O<|⟨_,_,O,O,O⟩
theorem Rp:dA ⟨#[]⟩=WA:=XY
theorem OV:aQ (gq ⟨#[]⟩)=WA:=XY
theorem DR:FnP prog 196 [.str ⟨#[]⟩] (· = .tup [.str ⟨#[]⟩,.str ⟨#[]⟩,.bool WA]):=by
 refine FnP.of func196 O ntmps196 X2 λ_ _ _ _=>?_
 have z:=lF ⟨#[]⟩ XZ (λh=>by rw[OV]at h;cases h);rw[Rp]at z;refine Z3 O<|Z1 O<|Rs O (aa call183 z O)<|A1 O<|Gc O (λu=>?_) (λu=>absurd u X2);exact Z3 O<|Gt O<|⟨_,_,O,O,O⟩
structure NumOk(v:ByteArray):Prop where
 s:v.size<4294967281
 r:dA v=VA
 n:aQ (gq v)=VA/\(rdZ (gq v)).natAbs<1000000000
 d:bF v=VA->aQ (jv v)=VA/\1<=rdZ (jv v)/\rdZ (jv v)<=12
theorem Eu(v:ByteArray)(h:NumOk v):FnP prog 196 [.str v] (· = .tup [.str (gq v),.str (if bF v=VA then jv v else yv),.bool VA]):=by
 refine FnP.of func196 O ntmps196 X2 λ_ _ _ _=>?_
 have G:aQ (gq v)=VA->Mg v=WA->PO (rdZ (gq v)) (rdZ (jv v)):=λ_ hb=>by
  refine GU _ _ h.n.2 ?_;have D:=h.r;unfold dA at D;by_cases hs:bF v=VA
  .have:=h.d hs;omega
  rw[AT (by rw[h.n.1,WE hs];rfl)]at D;have e:jv v=⟨#[]⟩:=Kn (WE hs);rw[e];decide
 have E:=lF v h.s G;rw[h.r]at E;have hc:=JW v ⟨#[47]⟩ h.s;refine Z3 O<|Z1 O<|Rs O (aa call183 E O)<|A1 O<|Gc O (λz=>absurd z X2) (λz=>?_);refine TM<|Z1 O<|Rs O (aa call168 hc O)<|Ar 7 O<|Z2 O<|Gc O (λu=>?_) (λu=>?_)
 .have hs:bF v=WA:=by have B:(!bF v)=VA:=u;simpa using B
  rw[hs,pF XZ];exact Z1 O<|Gr O<|Ar 5 O<|Gt O<|⟨_,_,O,O,O⟩
 have hs:bF v=VA:=by have B:(!bF v)=WA:=u;simpa using B
 rw[hs,AT O];exact TM<|Gr O<|Ar 5 O<|Gt O<|⟨_,_,O,O,O⟩
theorem qW(nm v:ByteArray)(h:v=⟨#[]⟩\/aQ v=VA/\(rdZ v).natAbs<1000000000):FnP prog 120 [.agg [.str nm,.int .i64 1],.str v] (· = .bool VA):=by
 refine FnP.of func120 O ntmps120 X2 λ_ _ _ _=>?_
 refine Z2 O<|Z2 O<|Z2 O<|Gc O (λu=>?_) (λu=>absurd u X2);by_cases he:v=⟨#[]⟩
 .subst he;exact Z1 O<|Rs O (Ub O O O (Vh _))<|Ar 5 O<|Gt O<|⟨_,_,O,O,O⟩
 have hne:(v.toList==(⟨#[]⟩:ByteArray).toList)=WA:=by rw[VP];exact λe=>he (bytes_inj e)
 obtain⟨hv1,hv2⟩:=h.resolve_left he;exact Z1 O<|Rs O (T9 O O O hne)<|Y2 O<|Rg O (aa call195 (oR v hv1 hv2) O)<|Y2 O<|Gt O<|⟨_,_,O,O,O⟩
theorem HB(nm v:ByteArray)(h:v=⟨#[]⟩\/fI v=VA/\v.size<=1000):FnP prog 120 [.agg [.str nm,.int .i64 3],.str v] (· = .bool VA):=by
 refine FnP.of func120 O ntmps120 X2 λ_ _ _ _=>?_
 refine Z2 O<|Z2 O<|Z2 O<|Gc O (λu=>absurd u X2) (λu=>?_);refine Z2 O<|Gc O (λz=>absurd z X2) (λz=>?_);refine Z2 O<|Gc O (λB=>?_) (λB=>absurd B X2);by_cases he:v=⟨#[]⟩
 .subst he;exact Z1 O<|Rs O (Ub O O O (Vh _))<|Ar 5 O<|Gt O<|⟨_,_,O,O,O⟩
 have hne:(v.toList==(⟨#[]⟩:ByteArray).toList)=WA:=by rw[VP];exact λe=>he (bytes_inj e)
 obtain⟨hv1,hv2⟩:=h.resolve_left he;have D:=wW v XX;rw[hv1]at D;exact Z1 O<|Rs O (T9 O O O hne)<|Y2 O<|Rg O (aa call198 D O)<|Y2 O<|Gt O<|⟨_,_,O,O,O⟩
theorem Ju(nm v:ByteArray)(h:NumOk v)(D:v≠⟨#[]⟩):FnP prog 120 [.agg [.str nm,.int .i64 2],.str v] (· = .bool VA):=by
 refine FnP.of func120 O ntmps120 X2 λ_ _ _ _=>?_
 have E:=Eu v h;have u:aQ (if bF v=VA then jv v else yv)=VA/\1<=rdZ (if bF v=VA then jv v else yv)/\rdZ (if bF v=VA then jv v else yv)<=12:=by
  by_cases hs:bF v=VA
  .rw[AT hs];exact h.d hs
  rw[pF hs];exact⟨iz,by rw[vu];decide,by rw[vu];decide⟩
 generalize (if bF v=VA then jv v else yv)=dn at*;have G:=wR dn u.1 XX;have H:=oR (gq v) h.n.1 h.n.2;have J:(v.toList==(⟨#[]⟩:ByteArray).toList)=WA:=by rw[VP];exact λe=>D (bytes_inj e)
 have L:decide (rdZ dn>=1)=VA:=SR u.2.1;have M:decide (rdZ dn<=12)=VA:=SR u.2.2;refine Z2 O<|Z2 O<|Z2 O<|Gc O (λz=>absurd z X2) (λz=>?_);refine Z2 O<|Gc O (λB=>?_) (λB=>absurd B X2);exact Z1 O<|Rs O (aa call196 E O)<|Ar 7 O<|Z1 O<|Rs O (aa call197 G O)<|Ar 5 O<|Z1 O<|Rs O (T9 O O O J)<|Ar 4 O<|Rg O (aa call195 H O)<|Y3 O<|Rg O (T4 O O O L)<|Y3 O<|Rg O (T4 O O O M)<|Y3 O<|Gt O<|⟨_,_,O,O,O⟩
theorem DW(nm:ByteArray):FnP prog 120 [.agg [.str nm,.int .i64 2],.str ⟨#[]⟩] (· = .bool VA):=by
 refine FnP.of func120 O ntmps120 X2 λ_ _ _ _=>?_
 have B:=DR;have D:=Hq;refine Z2 O<|Z2 O<|Z2 O<|Gc O (λu=>absurd u X2) (λu=>?_);refine Z2 O<|Gc O (λz=>?_) (λz=>absurd z X2);exact Z1 O<|Rs O (aa call196 B O)<|Ar 7 O<|Z1 O<|Rs O (aa call197 D O)<|Ar 5 O<|Z1 O<|Rs O (Ub O O O (Vh _))<|Ar 16 O<|Gt O<|⟨_,_,O,O,O⟩
end
section
section
variable {C:Ctx}{n:Nat}{σ:St}{dst:Option Tmp}{ty:TypeId}{ts:Array TypeId}{pos:String}{after:Array Edge}{gd:Option (Nat×Bool)}
theorem bl{args:List V}{os:List (Nat×Ob)}{k':Nat}{r:V}{X:Nat->Option Ob}(ids:List Nat)(base:Nat)(hc:db C.P f)(G:FnO C.P f ids.length k' args os (λv ob'=>v=r/\ob'=X))(z:xs.toList.map (σ.ev n)=V.renL (fh ids base) args)
  (H:V.allL (okR ids.length 0) args=VA) (hos:os.map (·.1)=(List.range ids.length).map (big+ ·)) (B:os.all (λp=>p.2.all (okR ids.length 0))=VA) (u:gJ σ (fh ids base) os)
  (D:ids.Nodup) (E:(nwO base k').all σ.av=VA):
  XJ C n ⟨dst,.call { callee:=.value (.func f),args:=xs,argTypes:=ts },ty,pos,after,gd⟩ σ ⟨r.ren (fh ids base),wrO ids base k' X,nwO base k'⟩:=
 cj ids base hc z H hos B u D E G (by rintro _ _ ⟨rfl,rfl⟩;rfl)
end
end

section
section
variable {C:Ctx}{n:Nat}{σ:St}{dst:Option Tmp}{ty t t':TypeId}{ts:Array TypeId}{pos:String}{after:Array Edge}{gd:Option (Nat×Bool)}{x y:Operand}
theorem D5(z:C.P.underlying t=UF (.pointer e))(B:σ.ev n x= .pv .nilptr):
  XJ C n ⟨dst,.binOp .eql t x (.const (.pointer UG)) t',ty,pos,after,gd⟩ σ ⟨.pv (.bool VA),[],[]⟩:=
 .val λa w m R hw=>by
  have h:=hw.pv B;simp only[RelP]at h;have hc:a.eval (.const (.pointer UG))= .pointer UG:=rfl;have u:C.P.underlying t=UF (.pointer (C.P.pointee t)):=by simp[Program.pointee,z]
  exact⟨.bool VA,by simp[execOp,h,eqGuard,hc,run_eql_pointer_nil _ _ _ u],by simp only[Rel,RelP]⟩
theorem Dv(B:C.P.underlying t=UF (.pointer e))(D:σ.ev n x= .ptr id off)(E:σ.ob id=UF o)(z:o.real=VA:=by rfl):
  XJ C n ⟨dst,.binOp .eql t x (.const (.pointer UG)) t',ty,pos,after,gd⟩ σ ⟨.pv (.bool WA),[],[]⟩:=
 .val λa w m R hw=>by
  obtain⟨b,N,h,_⟩:=hw.ptr D E z;have hc:a.eval (.const (.pointer UG))= .pointer UG:=rfl;have u:C.P.underlying t=UF (.pointer (C.P.pointee t)):=by simp[Program.pointee,B]
  exact⟨.bool WA,by simp[execOp,h,eqGuard,hc,run_eql_pointer_nil _ _ _ u],by simp only[Rel,RelP]⟩
theorem DY{j:TypeInfo}(B:C.P.underlying t=UF (.pointer e))(D:C.P.info? e=UF j)(E:σ.ev n x= .ptr id off)(G:σ.ev n y= .ptr id off)(z:σ.ob id=UF o)(u:o.real=VA:=by rfl):
  XJ C n ⟨dst,.binOp .neq t x y t',ty,pos,after,gd⟩ σ ⟨.pv (.bool WA),[],[]⟩:=
 .val λa w m R hw=>by
  obtain⟨b,N,h,hm,_⟩:=hw.ptr E z u;obtain⟨b2,N2,h2,hm2,_⟩:=hw.ptr G z u;rw[hm]at hm2;cases hm2;exact⟨.bool WA,by simp[execOp,h,h2,eqGuard,Lib.run_neq_ptr_same _ _ B D],by simp only[Rel,RelP]⟩
theorem Fs{P:Program}{N d:Nat}(B:P.depth=d+1)(G:P.cellsOf T=s)(H:s≠0)(J:s<=N):liesAt P P.depth T (N/P.cellsOf T) 0 T 1=VA:=by
 have E:0<N/s:=Nat.div_pos J XX;have u:sameLayout P P.depth T T=VA:=by rw[B];unfold sameLayout;simp
 have z:rowAt P (sameLayout P P.depth · T) P.depth T (N/P.cellsOf T) 0 1=VA:=by
  rw[show P.depth=d+1 from B];unfold rowAt;rw[G,pF H];have D:sameLayout P (d+1) T T=VA:=by rw[<-B];exact u
  simp only[Nat.zero_div,Nat.zero_mod,UQ,D,Wu,Vh,WV];rw[SR (show 1<=N/s from E)];rfl
 rw[B];unfold liesAt;rw[z];rfl
theorem Kg{j:TypeInfo}{s:TypeId}{cs:List V}(G:C.P.underlying s=UF (.pointer e))(H:C.P.underlying d=UF .unsafePointer)(J:C.P.info? e=UF j)(B:j.size≠0)(E:σ.ev n x= .ptr id 0)(L:σ.ob id=UF (.mix T cs))(M:cs≠[]):
  XJ C n ⟨dst,.convert s d x,ty,pos,after,gd⟩ σ ⟨.ptr id 0,[],[]⟩:=
 .val λa w m R hw=>by
  obtain⟨b,N,h,hm,arr,hb,hsz,hle,_⟩:=hw.ptr E L;have u:=hw.ev x;rw[E]at u;have D:0<cs.length:=U7.2 M;have z:w.shape? b=UF (T,arr.size):=by simp[World.shape?,hb]
  refine⟨a.eval x,?_,u⟩;simp only[execOp,h,Sem.run_bind,Lib.run_to_unsafe w ⟨b,0,UG⟩ G H J B z (show 0<arr.size by omega),Result.andThen_ok];rfl
theorem Nr{j:TypeInfo}{s:TypeId}{dp:Nat}{cs:List V}(G:C.P.underlying s=UF .unsafePointer)(H:C.P.underlying d=UF (.pointer T))(J:C.P.info? T=UF j)(B:C.P.depth=dp+1)(hc:C.P.cellsOf T=cs.length)(E:σ.ev n x= .ptr id 0)(L:σ.ob id=UF (.mix T cs))(M:cs≠[]):
  XJ C n ⟨dst,.convert s d x,ty,pos,after,gd⟩ σ ⟨.ptr id 0,[],[]⟩:=
 .val λa w m R hw=>by
  obtain⟨b,N,h,hm,arr,hb,hsz,hle,_⟩:=hw.ptr E L;have u:=hw.ev x;rw[E]at u;have D:0<cs.length:=U7.2 M;have z:w.shape? b=UF (T,arr.size):=by simp[World.shape?,hb]
  refine⟨a.eval x,?_,u⟩;simp only[execOp,h,Sem.run_bind,Lib.run_from_unsafe w ⟨b,0,UG⟩ G H J z (Fs B hc XX XX),Result.andThen_ok];rfl
theorem MN{fn:Func}{v:V}(D:C.P.funcs[f]? =UF fn)(u:(fn.name== "runtime.NumGoroutine")=WA)(E:fn.body.isNone=VA)(G:Extern.findNext fn=UG)(H:Extern.find fn=UF Extern.AbiNoEscape.same)(J:σ.ev n x=v):
  XJ C n ⟨dst,.call { callee:=.value (.func f),args:= #[x],argTypes:=ts },ty,pos,after,gd⟩ σ ⟨v,[],[]⟩:=
 .val λa w m R hw=>by
  have z:=hw.ev x;rw[J]at z;refine⟨a.eval x,?_,z⟩;have B:=run_callFunc_extern D u E G H #[a.eval x] w;rw[Lib.run_noEscape]at B;simp only[Result.andThen_ok]at B;have hc:a.eval (.func f)= .func (.func f) #[] #[]:=rfl;simp[execOp,resolve,Deferred.ofValue,invoke,hc,B]
theorem PS{P:Program}(w:World)(t u ty e:TypeId)(i:TypeInfo)(L:P.underlying t=UF (.slice e))(M:P.underlying u=UF .string)(U:P.info? e=UF i)(V:i.zero=UF (.int .u8 0))(z:i.size=1)(G:i.bytes=1)
  (g cap k:Nat) (cur:Array Value) (H:w.heap[g]? =UF (.cells cur e (0,0))) (W:k<=cap) (J:cap<=maxLen) (X:cur.size=cap) (s:ByteArray) (Z:k+s.size<=1000000000):
  ∃g' c' w',(Builtin.append_ #[t,u] ty #[.slice (UF ⟨g,0,UG⟩) k cap,.string s]).run P w= .ok (.slice (UF ⟨g',0,UG⟩) (k+s.size) c') w'/\w.grownBy w' (UF g)/\(g'=g\/g'=w.heap.size)/\
   k+s.size<=c'/\c'<=maxLen/\∃cur',w'.heap[g']? =UF (.cells cur' e (0,0))/\cur'.size=c'/\cur'.toList.take (k+s.size)=cur.toList.take k++Lib.strCells s:=by
 have Y:(cur.toList.take k++Lib.strCells s).length=k+s.size:=by
  rw[D8,Lib.strCells_length,OF,UR];omega
 by_cases hroom:k+s.size<=cap
 .refine⟨g,cap,_,Lib.run_append_room_string (P:=P) w t u ty e i L M U z g k cap cur H s hroom XX,⟨O,O,O,X2,λq _ hq=>setRow_other w g q _ (λe=>hq (by rw[e]))⟩,.inl O,hroom,J,_,setRow_heap w g cur _ e _ H,?_,?_⟩
  .grind
  grind
 have holds:∀j u,(cur.toList.take k)[j]? =UF u->w.cell? ((⟨g,0,UG⟩:Addr).add j)=UF u:=λj u hj=>by
  rw[Addr.add_lit];simp only[UQ];rw[cell_of_row w g j cur e (0,0) H,<-hj,Uw];have B:j<(cur.toList.take k).length:=by grind
  rw[OF]at B;rw[AT XX];simp
 have D:k+s.size<=maxLen:=by simp only[maxLen];omega
 refine⟨w.heap.size,_,_,Lib.run_append_grow_string (P:=P) w t u ty e i (.int .u8 0) L M U V ⟨g,0,UG⟩ k cap (cur.toList.take k) (by rw[z,OF,UR];omega) holds s XX XX (by rw[G];exact growslice_fits XX XX),
  ⟨O,O,O,X2,λq hq _=>heap_alloc_old w.drew _ hq⟩,.inr O,grownCap_ge w (k+s.size) cap e,grownCap_le_maxLen w (k+s.size) cap e D,_,heap_alloc_new w.drew _,?_,?_⟩
 .have hge:=grownCap_ge w (k+s.size) cap e;have E:(Value.int IntKind.u8 0).cells.size=1:=rfl;simp only[Array.size_append,UL,size_zeroCells,E,Lib.strCells_length,OF,UR];omega
 grind
theorem oX{R:Nat->Prop}(s:ByteArray):RelPL w R (aH s.data.toList) (Lib.strCells s):=by
 unfold aH Lib.strCells;induction s.data.toList with
 |nil=>simp[RelPL]
 |cons a l ih=>exact RelPL.cons (by simp only[RelP]) ih
theorem zz{s:ByteArray}(id':Nat)(Z:ElemIs C.P t e (.int .u8 0) 1 1)(hu:C.P.underlying t'=UF .string)(hs:σ.ev n x= .gsl id 1 k)(ho:σ.ob id=UF (.gro e cs))(L:cs.length=k)
  (hy:σ.ev n y= .pv (.str s)) (hb:k+s.size<=1000000000) (X:0<k) (Y:σ.av id'=VA):
  XJ C n ⟨dst,.call { callee:=.builtin .append,args:= #[x,y],argTypes:= #[t,t'] },ty,pos,after,gd⟩ σ ⟨.gsl id' 1 (k+s.size),[(id',UF (.gro e (cs++aH s.data.toList))),(id,UG)],[id']⟩:=by
 rintro a w Q ⟨m,R,hw⟩;obtain⟨A0,c,hev,hkc,hcm,hz,hp⟩:=hw.gsl hs;have E:cs≠[]:=λe=>by rw[e]at L;simp at L;omega
 have U:cs++aH s.data.toList≠[]:=λe=>E (List.append_eq_nil_iff.1 e).1
 have B:∀i x,upd m id UG i=UF x->m i=UF x/\i≠id:=λi x e=>by grind[aB,aW]
 obtain⟨b,N,hm,arr,hbk,hsz,hle,hr⟩:=hw.live ho (cY E);obtain⟨rfl,hN⟩:=hp X b N hm;obtain⟨i,hi,hzz,hsize,hbytes⟩:=info_parts Z.info;have D:=hw.hr.own id b N hm;have V:a.eval y= .string s:=hw.str hy;obtain⟨g,c',w',hrun,hgr,hat,hkc',hcm',cur',hg,hcs',htk⟩:=PS (P:=C.P) w t t' ty e i Z.u hu hi hzz hsize hbytes b c k arr hbk hkc hcm XX s hb;have G:RelPL w R (cs++aH s.data.toList) (arr.toList.take k++Lib.strCells s):=by
  rw[L]at hr;exact hr.append (oX s)
 have z:¬R g/\(∀i b' N',upd m id UG i=UF (b',N')->b'≠g)/\(C.F g\/C.w0.heap.size<=g):=by
  rcases hat with h|h
  .rw[h];exact⟨D.2.1,λi b' N' hi e=>(B i _ hi).2 (Im hw (B i _ hi).1 hm e),D.2.2⟩
  refine⟨λhh=>?_,λi b' N' hi e=>?_,.inr ?_⟩
  .have:=hw.hr.rsz _ hh;omega
  .have:=(hw.hr.own i b' N' (B i _ hi).1).1;omega
  have:=hw.hr.frame.size;omega
 have H:¬R b/\(∀i b' N',upd m id UG i=UF (b',N')->b'≠b)/\(C.F b\/C.w0.heap.size<=b):=
  ⟨D.2.1,λi b' N' hi e=>(B i _ hi).2 (Im hw (B i _ hi).1 hm e),D.2.2⟩
 unfold Oper.wp;have J:(execOp a.eval ⟨dst,.call { callee:=.builtin .append,args:= #[x,y],argTypes:= #[t,t'] },ty,pos,after,gd⟩).run C.P w= .ok (.value (.slice (UF ⟨g,0,UG⟩) (k+s.size) c')) w':=by
  unfold execOp;simp only[resolve,invoke,builtin,Sem.run_bind,Sem.run_pure,Result.andThen_ok,Xb,cd,Vn,hev,V,hrun]
 rw[J];have W:(arr.toList.take k++Lib.strCells s).length=k+s.size:=by grind
 have M:(cs++aH s.data.toList).length=k+s.size:=by rw[<-G.length,W]
 refine⟨_,O,upd (upd m id UG) id' (UF (g,cur'.size)),R,?_⟩;rw[TW];refine SW.put ((hw.drop id).fresh Y hg hgr (λq hq=>by simp at hq;subst hq;exact H) z.1 z.2.1 z.2.2 (.gro e (cs++aH s.data.toList)) ?_ (cY U)) dst ?_
 .intro m' av' hR _ _;refine⟨cur',hg,O,by rw[M,hcs'];exact hkc',?_⟩;rw[M,htk];exact G.mono hR
 simp only[Rel];refine⟨by simp[avL],_,c',O,hkc',hcm',λh=>by omega,λ_ b' N' e'=>?_⟩;rw[aB]at e';cases e';exact⟨O,by rw[hcs',Uv]⟩
theorem RY(B:σ.ev n x= .gsl id sz k)(D:σ.ob id=UF o)(E:0<k)(z:o.real=VA):
  XJ C n ⟨dst,.call { callee:=.builtin .unsafeSliceData,args:= #[x],argTypes:=ts },ty,pos,after,gd⟩ σ ⟨.ptr id 0,[],[]⟩:=
 .val λa w m R hw=>by
  obtain⟨A,c,he,hkc,_,_,hp⟩:=hw.gsl B;obtain⟨b,N,hm,_⟩:=hw.live D z;obtain⟨rfl,_⟩:=hp E b N hm;have u:=hw.ev x;rw[B]at u;simp only[Rel]at u;refine⟨.pointer (UF ⟨b,0,UG⟩),?_,?_⟩
  .simp only[execOp,resolve,invoke,builtin,Sem.run_bind,Sem.run_pure,Result.andThen_ok,Xb,cd,Vn,he,Lib.run_unsafeSliceData_row w ts ty ⟨b,0,UG⟩ k c XX]
  grind[Rel]
theorem M8{b:Nat}{arr:Array Value}(u:w.heap[b]? =UF (.cells arr e (0,0)))(z:k≠0):(w.freeze ⟨b,0,UG⟩ k).heap[b]? =UF (.cells arr e (0,k)):=by
 unfold World.freeze;rw[pF z];simp only[];rw[Xu,AT O,u];simp
theorem GO{b q:Nat}(h:q≠b):(w.freeze ⟨b,0,UG⟩ k).heap[q]? =w.heap[q]? :=by
 unfold World.freeze;split
 .rfl
 grind
theorem Nq(w:World)(a:Addr)(k:Nat):(w.freeze a k).heap.size=w.heap.size/\(w.freeze a k).os=w.os/\(w.freeze a k).tape=w.tape/\(w.freeze a k).output=w.output:=by
 unfold World.freeze;split
 .exact⟨O,O,O,O⟩
 exact⟨X2,O,O,O⟩
theorem Et{R:Nat->Prop}{l:List UInt8}(h:RelPL w R (aH l) us):us=l.map λc=> .int .u8 c.toNat:=by
 induction l generalizing us with
 |nil=>simp[aH,RelPL]at h;simp[h]
 | cons c l ih=>
   simp only[aH,cd,RelPL,RelP]at h;obtain⟨u,vs,rfl,rfl,h2⟩:=h;rw[cd,<-ih h2]
theorem Ki{it:TypeId}{l:List UInt8}(W:C.P.underlying t=UF (.pointer e))(hc:C.P.cellsOf e=1)(X:σ.ev n x= .ptr id 0)(Y:σ.ob id=UF (.gro e (aH l)))(Z:σ.ev n y= pIi l.length)(U:l≠[])(hb:l.length<=1000000000):
  XJ C n ⟨dst,.call { callee:=.builtin .unsafeString,args:= #[x,y],argTypes:= #[t,it] },ty,pos,after,gd⟩ σ ⟨.pv (.str ⟨l.toArray⟩),[(id,UF (.fro e ⟨l.toArray⟩))],[]⟩:=by
 rintro a w Q ⟨m,R,hw⟩;have E:aH l≠[]:=by simpa[aH]using U
 obtain⟨b,N,he,hm,arr,hbk,hsz,hle,hr⟩:=hw.ptr X Y (cY E);have G:(aH l).length=l.length:=by simp[aH]
 rw[G]at hle hr;have D:=Et hr;have H:a.eval y= .int .i64 l.length:=hw.int Z;have J:l.length≠0:=by simpa using U
 have u:∀j z,l[j]? =UF z->w.cell? ((⟨b,0,UG⟩:Addr).add j)=UF (.int .u8 z.toNat):=λj z hj=>by
  rw[Addr.add_lit];simp only[UQ];have V:(arr.toList.take l.length)[j]? =UF (.int .u8 z.toNat):=by rw[D,Wc,hj];rfl
  have L:j<l.length:=(RE.1 hj).1;rw[cell_of_row w b j arr e (0,0) hbk,<-V,Uw,AT L];simp
 have M:=Lib.run_unsafeString_row (P:=C.P) w t it ty e W hc b arr.size (by simp[World.shape?,hbk]) l U XX XX u;unfold Oper.wp;have B:(execOp a.eval ⟨dst,.call { callee:=.builtin .unsafeString,args:= #[x,y],argTypes:= #[t,it] },ty,pos,after,gd⟩).run C.P w= .ok (.value (.string ⟨l.toArray⟩)) (w.freeze ⟨b,0,UG⟩ l.length):=by
  unfold execOp;simp only[resolve,invoke,builtin,Sem.run_bind,Sem.run_pure,Result.andThen_ok,Xb,cd,Vn,he,H,M]
 rw[B];obtain⟨q1,q2,q3,q4⟩:=Nq w ⟨b,0,UG⟩ l.length;refine⟨_,O,m,R,?_⟩;rw[TW];refine SW.put (hw.turn hm (w.freeze ⟨b,0,UG⟩ l.length) q1 (λk hk=>GO hk) q2 q3 q4 (.fro e ⟨l.toArray⟩) λhR=>?_) dst ?_
 .refine⟨arr,?_,hsz,?_,?_⟩
  .rw[M8 hbk J];rfl
  .show l.toArray.size<=N;simp;omega
  show arr.toList.take l.toArray.size=_;simp[D]
 simp only[Rel,RelP]
end
end
section
open Mk Jn
def MdV(S:Sch)(A:List Int)(v:List ByteArray):Prop:=v.length=A.length/\∀i (h:i<v.length) (h2:i<A.length),v[i]∈jl (S.attrs.getD A[i].toNat default).2
def MdR(S:Sch)(A:List Int)(x:Rw):Prop:=(1<=x.w/\x.w<=5)/\MdV S A x.v
def MdT(S:Sch)(A:List Int)(most:Nat)(l:List Rw):Prop:=∃l0,l=nF l0/\l0.length<=most/\∀x∈l0,MdR S A x
theorem Pn(v:List ByteArray)(x:ByteArray):ct v++[PV.str x]=ct (v++[x]):=X2
theorem MdV.snoc   {v:List ByteArray}  (z:j<A.length) (h:v.length=j/\∀ i (h:i<v.length) (u:i<A.length),v[i]∈jl (S.attrs.getD A[i].toNat default).2)  (B:x∈jl (S.attrs.getD A[j].toNat default).2):
  (v++[x]).length=j+1/\∀i (h:i<(v++[x]).length) (u:i<A.length),(v++[x])[i]∈jl (S.attrs.getD A[i].toNat default).2:=by grind
theorem lj(l:List α)(a:α):l.length+1=(l++[a]).length:=X2
theorem IY(L:List Int)(k:Nat)(hL:L.length<=600)(hk:k<=L.length)(S:Sch)(r most:Nat)(hm:most<=100)(hr:r<S.rels.length)(hA:S.rels[r].2.length<=1000)(hb:∀a∈S.rels[r].2,0<=a/\a<S.attrs.length):
  FnM prog 63 73 (jh L k) [gg S,.int .i64 r,.int .i64 most] (λv c=>(∃l,MdT S S.rels[r].2 most l/\v=oS l)/\∃k',k'<=L.length/\c=jh L k'):=by
 refine FnM.of func63 O ntmps63 X2 O X2 λ_ _ _ _=>?_
 have B:∀k,k<=L.length->sNk L k<=L.length:=λk hk=>by unfold sNk;split<;>omega
 have M:=B _ hk;have U:=gB L k ((most:Int)+1) hL hk XX XX;have hb1:=jL L k ((most:Int)+1) XX;generalize sNv L k ((most:Int)+1)=nb at*;have D:=ij hr;have W:(aU S.rels)[r*2+1]? =UF (aq S.rels[r].2):=by
  have h2:(((aU S.rels).drop (r*2)).take 2)[1]? =[PV.str S.rels[r].1,aq S.rels[r].2][1]? :=by rw[fi hr]
  simpa[Uw,Vp]using h2
 generalize S.rels[r].2=A at*;refine Z2 O<|Z1 O<|TN (TU 9 1 2 41 O O)<|Z3 O<|Rs O (cq call7 U O O)<|A1 O<|Gz O (st:=λX6:Int×Nat×List Rw=>([(0,UG),(2,UG),(5,UG),(9,UF (.gsl 1 2 X6.2.2.length)),(10,UF (pIi X6.1))],[(big,UF (yq L X6.2.1)),(0,UG),(1,UF (.gro 41 (a8 X6.2.2)))])) 2
  (I:=λX6=>(((0<=X6.1/\X6.1<=most)/\(X6.2.2.length:Int)+X6.1<=most)/\X6.2.1<=L.length)/\∀x∈X6.2.2,MdR S A x) (μ:=λX6=>X6.1.toNat) (x0:=(nb,sNk L k,[])) (TO (aS O) (aO O) O O) (⟨⟨⟨⟨X4,X4⟩,by simp only[V6];omega⟩,M⟩,λ_ h=>absurd h X2⟩) ?_
 rintro⟨i,k2,l⟩ ⟨⟨⟨hi,hli⟩,hk2⟩,hl⟩;try simp only at hi hli hk2 hl ⊢
 refine Z2 O<|Gp O (λH=>?_) (λH=>?_)
 .obtain⟨pk,hpk1,hpk⟩:=sV L k2 [1,1,2,5] hL hk2 X2 X2;have E:1<=pk/\pk<=5:=by simp at hpk1;omega
  have X:=B _ hk2;have hll:=bS l;refine TM<|Z1 O<|Rs O (ax UG X2 vN O XZ XZ O O)<|Rs O (cq call60 hpk O O)<|Y3 O<|TN (St.cV (T':=41) (cs:=[.pv nS,pIi pk]) 2 0 3 1 9 XY O XY)<|Z3 O<|Rs O (ag r underlying27 xS O O O hr D)<|A1 O<|Rs O (ar ⟨_,underlying22,O⟩ O W)<|Y2 O<|Gz O (st:=λu:Nat×Nat×List ByteArray=>([(0,UG),(2,UG),(5,UG),(9,UG),(10,UG),(11,UG),(31,UG),(32,UG),(33,UF (pIi u.1))],[(big,UF (yq L u.2.1)),(0,UG),(1,UG),(2,UF (.mix 41 [.gsl 3 1 u.2.2.length,pIi pk])),(3,UF (.gro 9 (ct u.2.2)))])) 4
   (I:=λu=>(u.1<=A.length/\u.2.1<=L.length)/\(u.2.2.length=u.1/\∀i (h:i<u.2.2.length) (h2:i<A.length),u.2.2[i]∈jl (S.attrs.getD A[i].toNat default).2)) (μ:=λu=>A.length-u.1) (x0:=(0,sNk L k2,[])) (TO (aS O) (aO O) O O) (⟨⟨aJ _,X⟩,O,λi h=>absurd h X2⟩) ?_
  rintro⟨j,k3,v⟩ ⟨⟨hj,hk4⟩,hmd⟩;try simp only at hj hk4 hmd ⊢
  refine Z1 O<|Gp O (λJ=>?_) (λJ=>?_)
  .have hlj:j<A.length:=XX;obtain⟨a,haa⟩:=tI (hb _ (ak hlj)).1;have z:a<S.attrs.length:=by have:=(hb _ (ak hlj)).2;omega
   have Y:(aN A)[j*1]? =UF (.int .i64 (a:Int)):=by rw[<-haa];simp[hlj]
   have Z:=aM hlj;have ab:=mj z;have ac:=iZ z;obtain⟨x,hxm,hxs⟩:=zS L k3 hL hk4 S.attrs[a].1 S.attrs[a].2;have G:=MdV.snoc hlj hmd (x:=x) (by rw[haa,Ux];simpa[List.getD,z]using hxm);have ad:=B _ hk4;have hvl:=hmd.1;refine TM<|Gr O<|Rs O (ag j underlying22 sz3 O O O hlj Z)<|Rs O (ar ⟨_,underlying3,O⟩ O Y)<|A1 O<|UB 13 O<|Dr 6 O<|Ds [] O (λτ h=>ag a underlying26 nM (Ee h 0 O O) (Ee h 1 O O) O z ac) O XY<|Ds [] O (λτ h=>aF ⟨_,underlying142,O⟩ nM (Ee h 0 O O) ab O) O XY<|Ds [_] O (λτ h=>cq call128 hxs (h.args.trans O) (Eo h 0 O O)) O XY<|Dr 4 O ?_;refine⟨XY,?_⟩;exact Z2 O<|⟨(j+1,sNk L k3,v++[x]),TP [0,1,2,5] (aT O) ⟨O,O,O,UI (b:=UF (.mix 41 [.gsl 5 1 (v.length+1),pIi pk])) XY (ah (λn=>UF (Ob.mix 41 [.gsl 5 1 n,pIi pk])) (lj v x)),UI (b:=UF (.gro 9 (ct v++[.str x]))) XY (ah (λc=>UF (Ob.gro 9 c)) (Pn v x)),X5⟩ O O XZ O,⟨⟨XX,ad⟩,G⟩,X4⟩
  refine TN (TR 3 O O) ?_;have af:MdR S A ⟨v,pk⟩:=⟨E,(by have:=hmd.1;omega:v.length=A.length),hmd.2⟩;exact Gx O<|Gr O<|Ar 5 O<|Z3 O<|⟨(i-1,k3,l++[⟨v,pk⟩]),TP [0,5] ⟨O,O,O,ah (λn=>V.gsl 5 2 n) (lj l ⟨v,pk⟩),O,X5⟩ ⟨O,O,UI (b:=UF (.gro 41 (a8 l++rh ⟨v,pk⟩))) XY (ah (λc=>UF (Ob.gro 41 c)) (vj l ⟨v,pk⟩)),X5⟩ O O XZ O,⟨⟨⟨X4,by simp only[D8,Uu];omega⟩,hk4⟩,λy hy=>by rcases UN.1 hy with h|h;exact hl y h;rw[IT.1 h];exact af⟩,X4⟩
 refine TN (TR 1 O O) ?_;have aj:=D4 l XX (λx hx=>by have:=(hl x hx).2.1;omega) (λx hx=>by have:=(hl x hx).1;omega);exact Gx O<|Z1 O<|Rs O (aa call129 aj O)<|A1 O<|Gt O<|⟨_,jh L k2,O,O,⟨nF l,⟨l,O,XX,hl⟩,O⟩,k2,hk2,O⟩
def dj(d:List (List Rw)):List PV:=d.map oS
abbrev dbP(d:List (List Rw)):PV:=.sl UG d.length (dj d)
theorem AJ(d:List (List Rw))(l:List Rw):dj d++[oS l]=dj (d++[l]):=by simp[dj]
theorem dy(d:List (List Rw)):(dj d).length=d.length*1:=by simp[dj]
def MdD(S:Sch)(most n:Nat)(d:List (List Rw)):Prop:=d.length=n/\∀i (h:i<d.length) (h2:i<S.rels.length),MdT S S.rels[i].2 most d[i]
theorem MdD.snoc{d:List (List Rw)}(h:MdD S most n d)(u:n<S.rels.length){l:List Rw}(z:MdT S S.rels[n].2 most l):MdD S most (n+1) (d++[l]):=by
 obtain⟨rfl,hd⟩:=h;refine⟨X2,λi h h2=>?_⟩;rcases We i d.length with h3|h3
 .grind
 grind
theorem tC(L:List Int)(k:Nat)(H:L.length<=600)(J:k<=L.length)(S:Sch)(most:Nat)(M:most<=100)(hS:S.rels.length<=1000)(U:∀r∈S.rels,r.2.length<=1000/\∀a∈r.2,0<=a/\a<S.attrs.length):
  FnM prog 24 73 (jh L k) [gg S,.int .i64 most] (λv c=>(∃d,MdD S most S.rels.length d/\v=dbP d)/\∃k',k'<=L.length/\c=jh L k'):=by
 refine FnM.of func24 O ntmps24 X2 O X2 λ_ _ _ _=>?_
 refine Z2 O<|Z1 O<|TN (TU 7 1 1 38 O O)<|Z4 O<|Gz O (st:=λX6:Nat×Nat×List (List Rw)=>([(0,UG),(2,UG),(4,UG),(7,UF (.gsl 1 1 X6.2.2.length)),(11,UG),(12,UF (pIi X6.1))],[(big,UF (yq L X6.2.1)),(0,UG),(1,UF (.gro 38 (dj X6.2.2)))])) 2
  (I:=λX6=>(X6.1<=S.rels.length/\X6.2.1<=L.length)/\MdD S most X6.1 X6.2.2) (μ:=λX6=>S.rels.length-X6.1) (x0:=(0,k,[])) (TO (aS O) (aO O) O O) (⟨⟨aJ _,J⟩,O,λi h=>absurd h X2⟩) ?_
 rintro⟨i,k2,d⟩ ⟨⟨hi,hk2⟩,hd⟩;try simp only at hi hk2 hd ⊢
 refine Z1 O<|Gp O (λz=>?_) (λz=>?_)
 .have hlt:i<S.rels.length:=XX;have u:=U _ (ak hlt);have E:=hd.1;have G:=dy d;refine TM<|Z2 O<|Gr O<|Ar 5 O<|RL.call O (mW call63 (IY L k2 H hk2 S i most M hlt u.1 u.2) O O ?_);rintro _ _ ⟨⟨l,hml,rfl⟩,k3,hk3,rfl⟩;have B:=hd.snoc hlt hml;exact Y3 O<|Z2 O<|⟨(i+1,k3,d++[l]),TP [0,3] ⟨O,O,O,ah (λn=>V.gsl 3 1 n) (lj d l),O,O,X5⟩ ⟨O,O,UI (b:=UF (.gro 38 (dj d++[oS l]))) XY (ah (λc=>UF (Ob.gro 38 c)) (AJ d l)),X5⟩ O O XZ O,⟨⟨XX,hk3⟩,B⟩,X4⟩
 refine TN (TR 1 O O) ?_;have D:i=S.rels.length:=XX;subst D;exact Gx O<|Z2 O<|Gt O<|⟨_,jh L k2,O,O,⟨d,hd,O⟩,k2,hk2,O⟩
end
section
open Mk Jn
section
variable {C:Ctx}{n:Nat}{σ:St}{dst:Option Tmp}{ty t t':TypeId}{pos:String}{after:Array Edge}{gd:Option (Nat×Bool)}{x:Operand}
theorem iG{K:St->Prop}(B:C.P.underlying t=UF (.slice e))(D:σ.ev n x= .pv (.sl UG k cs))(E:∀b:Bool,(b=VA->cs=[])->K (σ.app dst ⟨.pv (.bool b),[],[]⟩)):
  OJ C n ⟨dst,.binOp .eql t x (.const (.slice UG 0 0)) t',ty,pos,after,gd⟩ K σ:=by
 rintro a w Q ⟨m,R,hw⟩;have:=hw.pv D;simp only[RelP]at this;obtain⟨A,c,e1,_,_,_,_,h5⟩:=this;have hc:a.eval (.const (.slice UG 0 0))= .slice UG 0 0:=rfl;have z:A.isNone=VA->cs=[]:=λh=>by grind
 have u:(execOp a.eval ⟨dst,.binOp .eql t x (.const (.slice UG 0 0)) t',ty,pos,after,gd⟩).run C.P w= .ok (.value (.bool A.isNone)) w:=by
  simp[execOp,e1,eqGuard,binOp,hc,run_equal_slice_nil _ _ _ _ _ _ B]
 unfold Oper.wp;rw[u];exact⟨_,E A.isNone z,m,R,St.jc σ dst _▸hw.put dst (by simp only[Rel,RelP])⟩
theorem dz{z:Value}{bytes:Nat}(id:Nat)(H:ElemIs C.P T e z size bytes)(E:σ.av id=VA):
  XJ C n ⟨dst,.buildSlice T 0 #[],ty,pos,after,gd⟩ σ ⟨.osl id size 0,[(id,UF (.cells e []))],[id]⟩:=by
 rintro a w Q ⟨m,R,hw⟩;obtain⟨i,hi,hz,hsize,hbytes⟩:=info_parts H.info;have B:(execOp a.eval ⟨dst,.buildSlice T 0 #[],ty,pos,after,gd⟩).run C.P w= .ok (.value (.slice (UF ⟨w.heap.size,0,UG⟩) 0 0)) (w.alloc (.cells #[] e)):=by
  have D:(Instr.buildSlice T 0 #[]).run C.P w= .ok (.slice (UF ⟨w.heap.size,0,UG⟩) 0 0) (w.alloc (.cells #[] e)):=by
   simp[Instr.buildSlice,run_underlying H.u,sizeOf,typeInfo,hi,Instr.fill,newRow]
   congr 2
   exact Array.eq_empty_of_size_eq_zero X2
  have G:(#[]:Array (Nat×Operand)).map (λx=>(x.1,a.eval x.2))= #[]:=X2;simp only[execOp,G,Sem.run_bind,D,Result.andThen_ok,Sem.run_pure]
 unfold Oper.wp;rw[B];refine⟨_,O,upd m id (UF (w.heap.size,0)),R,?_⟩;rw[TW];refine SW.put (hw.alloc E #[] e (.cells e []) ?_) dst ?_
 .intro w' m' av' hR G ha D;exact⟨_,D,O,tJ _,RelPL.nil⟩
 simp only[Rel];refine⟨by simp[avL],λb N h=>?_⟩;rw[aB]at h;cases h;exact⟨0,O,tJ _,by simp[maxLen],X2⟩
end
theorem z7(l:List ByteArray)(z:l.length<=1000000):FnP prog 71 [bh l] (· =bh l):=by
 refine FnP.fg2 (FnP.of func71 O ntmps71 X2 λ_ _ _ _=>?_);refine Z1 O<|Z1 O<|RL.call O (iG underlying39 O ?_);intro b hb;refine Gc O (λu=>?_) (λu=>?_)
 .have hl0:l=[]:=Wz.1 (hb u);exact Z1 O<|Gt O<|⟨_,_,O,O,by rw[hl0];rfl⟩
 refine TM<|Gr O<|Rs O (dz 0 De O)<|A1 O<|Rs O (dx 1 De O O O (.inl ⟨UG,O⟩) X2 (λc hc=>by obtain⟨y,_,rfl⟩:=IS.1 hc;rfl) XX O) ?_;exact A1 O<|TN (TR 1 O O)<|Gt O<|⟨_,_,O,O,show PV.sl UG (0+l.length) ([]++ct l)=_ by rw[UQ,Vo]⟩
def iA(ls:List Int)(n:Nat):List Int:=(List.range n).map λa:Nat=>((ls.count (a:Int):Nat):Int)
theorem xh(ls:List Int)(n:Nat):(iA ls n).length=n:=by simp[iA]
theorem CN(h:a<n):(aN (iA ls n))[a*1]? =UF (.int .i64 ((ls.count (a:Int):Nat):Int)):=by simp[iA,h]
theorem H6(h:a<n):(aN (iA ls n)).set (a*1) (.int .i64 (((ls.count (a:Int):Nat):Int)+1))=aN (iA (ls++[(a:Int)]) n):=by
 apply Vq
 .simp[iA]
 .intro i h1 h2;simp only[iA,XI,VC,List.getElem_range,List.count_append,Uv];by_cases e:a=i
  .subst e;rw[AT O];simp
  grind
theorem DA(n:Nat):List.replicate n (PV.int .i64 0)=aN (iA [] n):=by
 apply Vq
 .simp[iA]
 .intro i h1 h2;simp[iA]
def cE(ls:List Int)(A:List Int)(x:Rw):Bool:=(A.zip x.v).all λp=> !(p.2.toList==(⟨#[]⟩:ByteArray).toList)||((ls.count p.1:Nat):Int)==1
def kX(S:Sch)(A:List Int)(l:List Rw):List Rw:=l.filter (cE (S.rels.flatMap (·.2)) A)
end
section
open Mk Jn
structure SJn(S:Sch):Prop where
 a:S.attrs.length<=1000
 r:S.rels.length<=1000
 l:∀r∈S.rels,r.2.length<=1000
 b:∀r∈S.rels,∀a∈r.2,0<=a/\a<S.attrs.length
theorem JJ{l:List (ByteArray×List Int)}(h:k<l.length):(l.take (k+1)).flatMap (·.2)=(l.take k).flatMap (·.2)++l[k].2:=by
 rw[sh h,U6];simp
theorem vf{v:List ByteArray}(u:v.length=A.length)(z:j<A.length)(f:Int×ByteArray->Bool):((A.zip v).take (j+1)).all f=(((A.zip v).take j).all f&&f (A[j],v[j]'XX)):=by
 have h:j<(A.zip v).length:=by simp;omega
 rw[sh h,Xk];simp
theorem Jo{l:List (ByteArray×List Int)}(h:∀r∈l,r.2.length<=1000):(l.flatMap (·.2)).length<=l.length*1000:=by induction l<;>grind
theorem I3(S:Sch)(hS:SJn S)(r:Nat)(H:r<S.rels.length)(l:List Rw)(hl:l.length<=1000)(hv:∀x∈l,x.v.length=S.rels[r].2.length):
  FnP prog 28 [gg S,.int .i64 r,oS l] (· =oS (kX S S.rels[r].2 l)):=by
 refine FnP.of func28 O ntmps28 X2 λ_ _ _ _=>?_
 have aA:=bS l;have aB:=hS.a;have aD:=hS.r;have U:=ij H;have al:(aU S.rels)[r*2+1]? =UF (aq S.rels[r].2):=by
  have h2:(((aU S.rels).drop (r*2)).take 2)[1]? =[PV.str S.rels[r].1,aq S.rels[r].2][1]? :=by rw[fi H]
  simpa[Uw,Vp]using h2
 have hrl:=hS.l _ (ak H);have W:=hS.b _ (ak H);unfold kX;generalize S.rels[r].2=A at*;refine Z2 O<|Gr O<|Ar 5 O<|Z4 O<|Gz O (st:=λX6:Nat=>([(1,UG),(2,UG),(3,UG),(7,UG),(23,UG),(24,UG),(25,UF (pIi X6))],[(0,UG),(1,UF (.cells 3 (aN (iA ((S.rels.take X6).flatMap (·.2)) S.attrs.length))))])) 2
  (I:=λX6=>X6<=S.rels.length) (μ:=λX6=>S.rels.length-X6) (x0:=(0)) (TO (aS O) ⟨O,ah (λc=>UF (Ob.cells 3 c)) ((cH (.int .i64 0) (S.attrs.length*1)).trans (by rw[Uv,DA];rfl)),X5⟩ O O) (aJ _) ?_
 rintro k hk;refine Z1 O<|Gp O (λac=>?_) (λac=>?_)
 .have hlt:k<S.rels.length:=XX;have az:=fi hlt;have hne:=ij hlt;have hkl:=hS.l _ (ak hlt);have X:=hS.b _ (ak hlt);have am:=JJ hlt;generalize S.rels[k]=rk at*;refine TM<|Z1 O ?_;first|refine A3 O X0 ?_|refine A1 O ?_
  refine Y2 O<|Z4 O<|Gz O (st:=λB:Nat=>([(1,UG),(2,UG),(3,UG),(7,UG),(23,UG),(24,UG),(25,UG),(30,UG),(31,UG),(32,UF (pIi B))],[(0,UG),(1,UF (.cells 3 (aN (iA ((S.rels.take k).flatMap (·.2)++rk.2.take B) S.attrs.length))))])) 3
   (I:=λB=>B<=rk.2.length) (μ:=λB=>rk.2.length-B) (x0:=(0)) (TO (aS O) ⟨O,ah (λc=>UF (Ob.cells 3 (aN (iA c S.attrs.length)))) X2,X5⟩ O O) (aJ _) ?_
  rintro j hj;refine Z1 O<|Gp O (λad=>?_) (λad=>?_)
  .have hlj:j<rk.2.length:=XX;obtain⟨a,haa⟩:=tI (X _ (ak hlj)).1;have G:a<S.attrs.length:=by have:=(X _ (ak hlj)).2;omega
   have L:(aN rk.2)[j*1]? =UF (.int .i64 (a:Int)):=by rw[<-haa];simp[hlj]
   have an:=aM hlj;have ao:rk.2.take (j+1)=rk.2.take j++[(a:Int)]:=by rw[sh hlj,haa]
   have hfl:=Jo (l:=S.rels.take k) λr H=>hS.l r (Xe H)
   have htl:(S.rels.take k).length<=1000:=by rw[OF];omega
   have Y:((S.rels.take k).flatMap (·.2)++rk.2.take j).length<=2000000:=by rw[D8,OF];omega
   generalize hLS:(S.rels.take k).flatMap (·.2)++rk.2.take j=LS at*;have M:=CN (ls:=LS) G;have ap:=H6 (ls:=LS) G;have au:(aN (iA LS S.attrs.length)).length=S.attrs.length:=by rw[AS,xh]
   have hcb:LS.count (a:Int)<=2000000:=AI List.count_le_length Y;exact TM<|Z1 O<|Rs O (ar ⟨_,underlying3,O⟩ O L)<|A1 O<|Z3 O<|Rs O (cL ⟨_,underlying3,O⟩ O O M)<|Y2 O<|RL.step (d:=UG) O O (bY sz3 O O O O XX)<|Z2 O<|⟨(j+1),TO (aS O) ⟨O,UI (b:=UF (.cells 3 ((aN (iA LS S.attrs.length)).set (a*1) (.int .i64 (((LS.count (a:Int):Nat):Int)+1))))) XY (ah (λc=>UF (Ob.cells 3 c)) (ap.trans (by rw[ao,<-WH,hLS]))),X5⟩ O O,XX,XX⟩
  exact Gx O<|Z2 O<|⟨(k+1),TO (aS O) ⟨O,ah (λc=>UF (Ob.cells 3 (aN (iA c S.attrs.length)))) (by rw[am,show rk.2.take j=rk.2 from aG XX]),X5⟩ O O,XX,XX⟩
 have Y:=Jo (l:=S.rels) λr H=>hS.l r H
 rw[show S.rels.take k=S.rels from aG XX];generalize S.rels.flatMap (·.2)=LS at*;have au:(aN (iA LS S.attrs.length)).length=S.attrs.length:=by rw[AS,xh]
 refine Gx O<|Z1 O<|TN (TU 12 2 2 41 O O)<|Z3 O<|Gz O (st:=λu:Nat×List Rw=>([(1,UG),(3,UG),(7,UG),(12,UF (.gsl 2 2 u.2.length)),(44,UG),(45,UG),(46,UF (pIi u.1))],[(0,UG),(1,UG),(2,UF (.gro 41 (a8 u.2)))])) 3
  (I:=λu=>(u.1<=l.length/\u.2.length<=u.1)/\u.2=(l.take u.1).filter (cE LS A)) (μ:=λu=>l.length-u.1) (x0:=(0,[])) (TO (aS O) (aO O) O O) (⟨⟨aJ _,tJ _⟩,O⟩) ?_
 rintro⟨i,q⟩ ⟨hi,hq⟩;try simp only at hi hq ⊢
 refine Z1 O<|Gp O (λaf=>?_) (λaf=>?_)
 .have hil:i<l.length:=XX;have hrw:=fa hil;have hrn:=gL hil;have ax:=hv _ (ak hil);have hql:=bS q;have J:l.take (i+1)=l.take i++[l[i]]:=sh hil;generalize l[i]=x at*;refine TM<|Z1 O ?_;first|refine A3 O X0 ?_|refine A1 O ?_
  refine Y2 O<|Z1 O<|Z3 O<|Rs O (ag r underlying27 xS O O O H U)<|A1 O<|Rs O (ar ⟨_,underlying22,O⟩ O al)<|Y2 O<|Gz O (st:=λz:Nat×Bool=>([(1,UG),(3,UG),(7,UG),(12,UG),(14,UG),(15,UF (.pv (.bool z.2))),(44,UG),(45,UG),(46,UG),(55,UG),(56,UG),(57,UF (pIi z.1))],[(0,UG),(1,UG),(2,UG),(3,UG)])) 4
   (I:=λz=>z.1<=A.length/\z.2=((A.zip x.v).take z.1).all λp=> !(p.2.toList==(⟨#[]⟩:ByteArray).toList)||((LS.count p.1:Nat):Int)==1) (μ:=λz=>A.length-z.1) (x0:=(0,VA)) (TO (aS O) (aO O) O O) (⟨aJ _,O⟩) ?_
  rintro⟨j,b⟩ ⟨hj,hb⟩;try simp only at hj hb ⊢
  refine Z1 O<|Gp O (λaj=>?_) (λaj=>?_)
  .have hlj:j<A.length:=XX;have D:=vf ax hlj λp=> !(p.2.toList==(⟨#[]⟩:ByteArray).toList)||((LS.count p.1:Nat):Int)==1
   obtain⟨a,haa⟩:=tI (W _ (ak hlj)).1;have G:a<S.attrs.length:=by have:=(W _ (ak hlj)).2;omega
   have L:(aN A)[j*1]? =UF (.int .i64 (a:Int)):=by rw[<-haa];simp[hlj]
   have an:=aM hlj;have Z:j<x.v.length:=XX;have ab:=bP Z;have hsn:=bO Z;have M:=CN (ls:=LS) G;rw[<-hb,haa]at D;simp only at D;refine TM<|Z2 O<|Rs O (ar ⟨_,underlying3,O⟩ O L)<|Y2 O ?_;by_cases hbt:b=VA
   .by_cases hve:(x.v[j].toList==(⟨#[]⟩:ByteArray).toList)=VA
    .exact Gr O<|Rs O (XJ.cast (v':=.pv (.bool VA)) (pN O) (ah (λb=>V.pv (.bool b)) hbt))<|Ar 5 O<|Rg O (ar ⟨_,underlying9,O⟩ O ab)<|Rg O (XJ.cast (v':=.pv (.bool WA)) (cJ O O O) (ah (λb=>V.pv (.bool !b)) hve))<|Ar 4 O<|Rg O (cL ⟨_,underlying3,O⟩ O O M)<|Ar 4 O<|Z2 O<|⟨(j+1,(((LS.count (a:Int):Nat):Int)==1)),TO (aS O) (aO O) O O,⟨XX,by simp only;rw[D,hbt,hve];rfl⟩,X4⟩
    exact Gr O<|Rs O (XJ.cast (v':=.pv (.bool VA)) (pN O) (ah (λb=>V.pv (.bool b)) hbt))<|Ar 5 O<|Rg O (ar ⟨_,underlying9,O⟩ O ab)<|Rg O (XJ.cast (v':=.pv (.bool VA)) (cJ O O O) (ah (λb=>V.pv (.bool !b)) (WE hve)))<|Ar 9 O<|Z2 O<|⟨(j+1,VA),TO (aS O) (aO O) O O,⟨XX,by simp only;rw[D,hbt,WE hve];rfl⟩,X4⟩
   exact Gr O<|Rs O (XJ.cast (v':=.pv (.bool WA)) (pN O) (ah (λb=>V.pv (.bool b)) (WE hbt)))<|Ar 16 O<|Z2 O<|⟨(j+1,WA),TO (aS O) (aO O) O O,⟨XX,by simp only;rw[D,WE hbt,Bool.false_and]⟩,X4⟩
  have hbl:cE LS A x=b:=by unfold cE;rw[hb,aG X3]
  refine Gx O<|Z1 O<|Gc O (λE=>?_) (λE=>?_)
  .refine UB 10 O<|Dr 3 O<|Ds [] O (λτ h=>aa call71 (z7 x.v XX) (h.aE O)) O XY<|Dr 6 O ?_;refine⟨XY,?_⟩;exact Z2 O<|⟨(i+1,q++[x]),TP [0,1,5] ⟨O,O,O,ah (λn=>V.gsl 5 2 n) (lj q x),O,O,O,X5⟩ ⟨O,O,UI (b:=UF (.gro 41 (a8 q++rh x))) XY (ah (λc=>UF (Ob.gro 41 c)) (vj q x)),X5⟩ O O XZ O,⟨⟨XX,by simp only[D8,Uu];omega⟩,by rw[J,List.filter_append,<-hq];simp only[List.filter_cons,List.filter_nil];rw[AT (hbl.trans E)]⟩,X4⟩
  exact TM<|Z2 O<|⟨(i+1,q),TO (aS O) (aO O) O O,⟨⟨XX,X4⟩,by rw[J,List.filter_append,<-hq];simp only[List.filter_cons,List.filter_nil];rw[pF (by rw[hbl,E];decide),Vg]⟩,X4⟩
 exact TN (TR 2 O O)<|Gx O<|Z2 O<|Gt O<|⟨_,_,O,O,by rw[show l.filter (cE LS A)=q by rw[hq,aG XX]];rfl⟩
end
namespace Jn
set_option autoImplicit false


inductive Tr where
 |node (v:Int) (ts:List Tr)
mutual
def Tr.vs:Tr->List Int
 |.node v ts=>v::vsL ts
def vsL:List Tr->List Int
 |[]=>[]
 |t::ts=>t.vs++vsL ts
end

end Jn
namespace Jn
set_option autoImplicit false


end Jn
namespace Jn
open Mk
def cM(P:List Int):Nat->Int->Tr
 |0,v=> .node v []
 |k+1,v=> .node v ((aC P v).map (cM P k))
theorem bg{v c:Int}:c∈aC P v↔∃n:Nat,n<P.length/\c=(n:Int)/\P.getD n 0=v:=by grind[aC,cf]
theorem qZ(P:List Int)(v:Int):(aC P v).Nodup:=(cQ _).filter _
theorem eT(ts:List Tr):vsL ts=ts.flatMap Tr.vs:=by
 induction ts with
 |nil=>rfl
 |cons t ts ih=>rw[vsL,ih,UJ]
theorem zC{β:Type}(p:α->Bool)(f:α->List β)(l:List α):(l.filter p).flatMap f=l.flatMap λa=>if p a=VA then f a else []:=by induction l<;>grind
mutual
theorem tree_vs(P:List Int):∀(k:Nat)(v:Int),(cM P k v).vs=v::kV P k v
 |0,v=>by rw[cM,Tr.vs,vsL,kV]
 |k+1,v=>by rw[cM,Tr.vs,kids_vs P k v]
theorem kids_vs(P:List Int):∀(k:Nat)(v:Int),vsL ((aC P v).map (cM P k))=kV P (k+1) v
 | k,v=>by
   rw[eT,Wh,kV];unfold aC;rw[zC]
   congr 1
   funext a;rw[tree_vs P k a];simp only[VK]
end
theorem mf(P:List Int):vsL ((aC P (-1)).map (cM P P.length))=aR P:=kids_vs P P.length (-1)
theorem getD_at(u:n<P.length):P.getD n 0=P[n]:=by simp[List.getD,u]
section
variable {P:List Int}(hP:UpOk P)
include hP
theorem dF(hc:c<P.length)(u:v<P.length)(h:P.getD c 0=(v:Int)):cm P c=(v:Int)::cm P v:=
 mD hP hc u (by rw[<-getD_at hc];exact h)
theorem CO:∀(k:Nat)(v:Nat),v<P.length->∀x∈(cM P k v).vs,∃m:Nat,m<P.length/\x=(m:Int)/\(v:Int)∈(m:Int)::cm P m
 | 0,v,hv,x,hx=>by
   rw[cM,Tr.vs,vsL,IT]at hx;exact⟨v,hv,hx,X2⟩
 | k+1,v,hv,x,hx=>by
   rw[cM,Tr.vs,eT,Wh]at hx;rcases By.1 hx with rfl|hx
   .exact⟨v,hv,O,X2⟩
   obtain⟨c,hc,hx⟩:=UU.1 hx;obtain⟨n,hn,rfl,hp⟩:=bg.1 hc;obtain⟨m,hm,rfl,hu⟩:=CO k n hn x hx;have e:=dF hP hn hv hp;refine⟨m,hm,O,U0 _ ?_⟩;rcases By.1 hu with h|h
   .grind
   exact pA hP hm (by rw[e];simp) h
theorem FB(B:v<P.length):(cm P v).length+1<=P.length:=by
 have z:=(oO hP B).length_eq;have u:=VZ (λa=>decide (a∈(v:Int)::cm P v)) (upZ P.length);rw[z,bo,IN]at u;exact u
theorem mv(z:v<P.length)(h:P.length<=1+(cm P v).length):aC P v=[]:=by
 rw[List.eq_nil_iff_forall_not_mem];intro c hc;obtain⟨n,hn,rfl,hp⟩:=bg.1 hc;have u:=FB hP hn;rw[dF hP hn z hp,IN]at u;omega
theorem qI:∀(k:Nat)(v:Nat),v<P.length->P.length<=k+1+(cm P v).length->cM P (k+1) v=cM P k v
 |0,v,hv,h=>by rw[cM,cM,mv hP hv XX];rfl
 | k+1,v,hv,h=>by
   rw[cM,cM]
   congr 1
   refine UT λc hc=>?_
   obtain⟨n,hn,rfl,hp⟩:=bg.1 hc;have e:=dF hP hn hv hp;exact qI k n hn (by rw[e,IN];omega)
theorem O8(u:v<P.length):cM P P.length v= .node v ((aC P v).map (cM P P.length)):=by
 rw[<-qI hP P.length v u XX,cM]
end

end Jn
section
open Mk Jn
abbrev rowP(x:Rw):PV:=.agg (rh x)
theorem vB{d:List (List Rw)}(h:r<d.length):(dj d)[r*1]? =UF (oS d[r]):=by simp[dj,h]
theorem vi{d:List (List Rw)}(h:r<d.length):dj d≠[]:=λe=>by have:=dy d;rw[e]at this;simp at this;omega
end
section
open Mk Jn
abbrev oZ(S:Sch):Ob:=.mix 30 (sCc S)
end
section
open Mk Jn
def ltS(a b:ByteArray):Prop:=a.data.toList<b.data.toList
instance (a b:ByteArray):Decidable (ltS a b):=inferInstanceAs (Decidable (_<_))
theorem El(a:ByteArray):¬ltS a a:=List.lt_irrefl _
theorem wP{a c:ByteArray}(u:ltS a b)(z:ltS b c):ltS a c:=List.lt_trans u z
theorem GP{a:ByteArray}(u:¬ltS a b)(z:¬ltS b a):a=b:=E9 (List.le_antisymm z u)
def leS(a b:ByteArray):Prop:=¬ltS b a
instance (a b:ByteArray):Decidable (leS a b):=inferInstanceAs (Decidable (¬_))
theorem JF{a c:ByteArray}(z:leS a b)(u:leS b c):leS a c:=λh=>by
 by_cases e:a=b
 .subst e;exact u h
 have hab:ltS a b:=U1 λk=>e (GP k z)
 exact u (wP h hab)
theorem G9(a b:ByteArray):leS a b\/leS b a:=by
 by_cases h:ltS b a
 .exact .inr λk=>El a (wP k h)
 exact .inl h
theorem LC{a:ByteArray}(u:leS a b)(z:leS b a):a=b:=GP z u
def rX(l:List ByteArray):List ByteArray:=l.mergeSort λa b=>decide (leS a b)
theorem nD(l:List ByteArray):(rX l).Perm l:=XF l _
theorem oT(l:List ByteArray):(rX l).Pairwise leS:=by
 have:=Xj (le:=λa b:ByteArray=>decide (leS a b)) (by intro a b c h1 h2;simp only[OC]at *; exact JF h1 h2) (by intro a b;simp only[UW,OC];exact G9 a b) l;exact this.imp X2
theorem vn{r:List ByteArray}(u:l.Perm r)(z:l.Pairwise leS):l=rX r:=
 (u.trans (nD r).symm).eq_of_pairwise (λa b _ _ h1 h2=>LC h1 h2) z (oT r)
abbrev eb:ByteArray:=⟨#[]⟩
theorem vX(a:ByteArray):FnP prog 160 [.str a] (· = .bool WA):=by
 refine FnP.of func160 O ntmps160 X2 λ_ _ _ _=>?_
 exact Z1 O<|Z4 O<|Gt O<|⟨_,_,O,O,ah PV.bool X2⟩
theorem O7{a:ByteArray}(h:(a.toList !=b.toList)=WA):a=b:=bytes_inj (by simpa using h)
end


section
theorem Bq:∃j,prog.info? 301=UF j/\j.size≠0:=by
 obtain⟨j,hj,hs⟩:=Wj.1 (show(prog.info? 301).map (·.size)=UF 2 by kernel_rfl);exact⟨j,hj,by rw[hs];decide⟩
theorem KL(k:Nat)(cs:List PV):FnO prog 256 2 0 [.ptr big 0] [(big,.mix 301 [.pv .nilptr,.gsl 9001 1 k]),(9001,.gro 5 cs)] (λv ob'=>v= .tup []/\ob'=aA [(big,.mix 301 [.ptr big 0,.gsl 9001 1 k]),(9001,.gro 5 cs)]):=by
 refine FnO.of func256 O ntmps256 X2 λ_ _ _ _=>?_
 obtain⟨j,hj,hj0⟩:=Bq;refine Z4 O<|Rs O (D5 underlying299 O)<|Gc O (λu=>?_) (λu=>absurd u X2);exact Z2 O<|Rs O (Kg underlying299 underlying370 hj hj0 O O X2)<|Rs O (MN func294 XY XY XY XY O)<|Rs O (Nr (dp:=_) underlying370 underlying299 hj O XY O O X2)<|Y3 O<|⟨[],[(big,.mix 301 [.ptr big 0,.gsl 9001 1 k]),(9001,.gro 5 cs)],[],TO trivial (aO O) O O,O,O,O,O,O⟩
theorem MM(k:Nat)(cs:List PV):FnO prog 256 2 0 [.ptr big 0] [(big,.mix 301 [.ptr big 0,.gsl 9001 1 k]),(9001,.gro 5 cs)] (λv ob'=>v= .tup []/\ob'=aA [(big,.mix 301 [.ptr big 0,.gsl 9001 1 k]),(9001,.gro 5 cs)]):=by
 refine FnO.of func256 O ntmps256 X2 λ_ _ _ _=>?_
 obtain⟨j,hj,hj0⟩:=Bq;refine Z4 O<|Rs O (Dv underlying299 O O)<|Gc O (λz=>absurd z X2) (λz=>?_);refine Gr O<|Ar 5 O<|Rs O (DY underlying299 hj O O O)<|Gc O (λu=>absurd u X2) (λu=>?_);exact TM<|⟨[],[(big,.mix 301 [.ptr big 0,.gsl 9001 1 k]),(9001,.gro 5 cs)],[],TO trivial (aO O) O O,O,O,O,O,O⟩
theorem Gy(l:List UInt8)(s:ByteArray)(G:l≠[])(H:l.length+s.size<=1000000000):FnO prog 207 2 1 [.ptr big 0,.pv (.str s)] [(big,.mix 301 [.ptr big 0,.gsl 9001 1 l.length]),(9001,.gro 5 (aH l))] (λv ob'=>v= .tup [pIi s.size,.pv .niliface]/\ob'=aA [(big,.mix 301 [.ptr big 0,.gsl 0 1 (l++s.data.toList).length]),(0,.gro 5 (aH (l++s.data.toList)))]):=by
 refine FnO.of func207 O ntmps207 X2 λ_ _ _ _=>?_
 have u:=MM l.length (aH l);have z:(aH l).length=l.length:=by simp[aH]
 have B:=U7.2 G;have D:(l++s.data.toList).length=l.length+s.size:=by rw[D8,UR];rfl
 have E:aH (l++s.data.toList)=aH l++aH s.data.toList:=by simp[aH]
 exact Z2 O<|Z1 O<|Rs O (bl [big,9001] 0 call256 u O O O O ⟨O,O,X5⟩ XZ O)<|Gr O<|Ar 6 O<|Rs O (zz 0 Rj underlying9 O O z O H B O)<|Y3 O<|Z4 O<|Gt O<|⟨[(4,pIi s.size),(5,.pv .niliface)],[(big,.mix 301 [.ptr big 0,.gsl 0 1 (l.length+s.size)]),(0,.gro 5 (aH l++aH s.data.toList))],[pIi s.size,.pv .niliface],TO (aS O) (aO XY) O O,O,O,O,O,by rw[D,E]⟩
theorem yl(l:List UInt8)(B:l≠[])(D:l.length<=1000000000):FnO prog 208 2 0 [.ptr big 0] [(big,.mix 301 [.ptr big 0,.gsl 9001 1 l.length]),(9001,.gro 5 (aH l))] (λv ob'=>v= .pv (.str ⟨l.toArray⟩)/\ob'=aA [(big,.mix 301 [.ptr big 0,.gsl 9001 1 l.length]),(9001,.fro 5 ⟨l.toArray⟩)]):=by
 refine FnO.of func208 O ntmps208 X2 λ_ _ _ _=>?_
 have u:=U7.2 B;have z:(Ob.gro 5 (aH l)).real=VA:=cY (by simpa[aH]using B);refine Z1 O<|UB 12 O<|Dr 4 O<|Ds [_] O (λτ h=>RY (Ee h 0 O O) (Eo h 0 O O) u z) O XY<|Dr 5 O<|Ds [_] O (λτ h=>Ki underlying345 XY (Ee h 0 O O) (Eo h 0 O O) (Ee h 1 O O) B D) O XY<|D1 O ?_;refine⟨XY,?_⟩;exact Gt O<|⟨[(2,.pv (.str ⟨l.toArray⟩))],[(big,.mix 301 [.ptr big 0,.gsl 9001 1 l.length]),(9001,.fro 5 ⟨l.toArray⟩)],[.pv (.str ⟨l.toArray⟩)],TO (aS O) (aO XY) O O,O,O,O,O,O⟩
end
end Go.Proofs.YtameambcolibjaaGreatDoor
