/- Lemmas. No condition. -/
import Derived.Test.YtameambcolibjaaGreatDoorJD9
set_option maxRecDepth 100000
set_option maxHeartbeats 4000000
open Go.RowKit Go.Proofs.Tryz
open Option renaming some→UF,none→UG
open Bool renaming true→VA,false→WA
namespace Go.Proofs.YtameambcolibjaaGreatDoor
variable{i r u y B k W p t n a:Nat}{l:List PV}{b:Bool}{x q:Rat}{K:Type}{D:Int}{E e:List UInt8}{s:ByteArray}
section
open Go.RowKit Mm
abbrev bT(p:Par):PV:=.agg (rR p)
abbrev ppC(x:PP):List PV:=[.int .i64 x.1.f,.str x.1.c,.int .i64 x.2.f,.str x.2.c]
abbrev ppP(x:PP):PV:=.agg (ppC x)
theorem ig(s t:ByteArray):(s==t)=(s.toList==t.toList):=by grind[gG,bytes_inj,iL]
theorem cy(p q:Par):keq (bT p) (bT q)=UF (p==q):=by
 show UF ((p.f==q.f)&&((p.c==q.c)&&VA))=UF (p.f==q.f&&p.c.toList==q.c.toList);rw[ig,Wu]
theorem c6(x y:PP):keq (ppP x) (ppP y)=UF (x==y):=by
 show UF ((x.1.f==y.1.f)&&((x.1.c==y.1.c)&&((x.2.f==y.2.f)&&((x.2.c==y.2.c)&&VA))))=UF ((x.1.f==y.1.f&&x.1.c.toList==y.1.c.toList)&&(x.2.f==y.2.f&&x.2.c.toList==y.2.c.toList));rw[ig,ig,Wu,Bool.and_assoc]
theorem ou{i:Int}{c:ByteArray}{r:List PV}(h:∃b,bD (.int .i64 i:: .str c::r) l=UF b):∃i' c' l',l= .int .i64 i':: .str c'::l'/\∃b,bD r l'=UF b:=by
 obtain⟨b,h⟩:=h;rcases l with _|⟨a,l⟩
 .simp[bD]at h
 cases a<;>simp only[bD,reduceCtorEq]at h;rename_i k v;cases hk:kEq IntKind.i64 k with
 |false=>rw[hk]at h;cases h
 | true=>
   have:=fm hk;subst this;rw[hk]at h;rcases l with _|⟨d,l⟩
   .simp[bD]at h
   cases d<;>simp only[bD,Option.map_none,reduceCtorEq,VG]at h;rename_i s;cases hr:bD r l with
   |none=>rw[hr]at h;simp at h
   |some b'=>exact⟨v,s,l,O,b',hr⟩
theorem xG(h:bD [] l=UF b):l=[]:=by
 cases l with
 |nil=>rfl
 |cons a l=>cases a<;>simp[bD]at h
theorem F8{p:Par}{x:PV}(h:keq (bT p) x=UF b):∃q:Par,x=bT q:=by
 cases x<;>simp only[keq,reduceCtorEq]at h;obtain⟨i1,c1,l1,rfl,b1,h1⟩:=ou ⟨b,h⟩;rw[xG h1];exact⟨⟨i1,c1⟩,O⟩
theorem B7{p:PP}{x:PV}(h:keq (ppP p) x=UF b):∃q:PP,x=ppP q:=by
 cases x<;>simp only[keq,reduceCtorEq]at h;obtain⟨i1,c1,l1,rfl,h1⟩:=ou ⟨b,h⟩;obtain⟨i2,c2,l2,rfl,b2,h2⟩:=ou h1;rw[xG h2];exact⟨(⟨i1,c1⟩,⟨i2,c2⟩),O⟩
theorem th{w:World}{R:Nat->Prop}{u:Value}{x:PP}(h:RelP w R (ppP x) u):u= .agg #[.int .i64 x.1.f,.string x.1.c,.int .i64 x.2.f,.string x.2.c]:=by
 simpa[RelP,RelPL]using h
theorem eqPP(k:Nat)(a b a' b':Int)(s t s' t':ByteArray)(w:World):(Op.equalIn (k+3) 195 (.agg #[.int .i64 a,.string s,.int .i64 a',.string s']) (.agg #[.int .i64 b,.string t,.int .i64 b',.string t'])).run prog w= .ok ((a==b&&s.toList==t.toList)&&(a'==b'&&s'.toList==t'.toList)) w:=by
 have hS:prog.underlying 195=UF (.struct (prog.fieldsOf 195)):=XY;rw[run_equalIn_agg w (k+2) 195 _ _ hS Tryz.stoodInHeld195];have d:=λw=>vF k a b s t w
 have j:=λw=>vF k a' b' s' t' w
 simp only[Program.fieldsOf,underlying195]
 go_simp
 by_cases h1:a=b<;>by_cases d:s.toList=t.toList<;>by_cases h4:a'=b'<;>by_cases h5:s'.toList=t'.toList<;>simp[h1,d,h4,h5]
theorem OE(k:Nat)(e:Bool)(a:Int)(s:ByteArray)(w:World):(Instr.checkKey e (k+2) 136 (.agg #[.int .i64 a,.string s])).run prog w= .ok () w:=by
 have d:=underlying136;have j:=underlying3;have z:=underlying9;have A:∀(v:Value)(w:World),(Instr.checkKey e (k+1) 3 v).run prog w= .ok () w:=λv w=>by unfold Instr.checkKey;simp[run_underlying j,Result.andThen]
 have G:∀(v:Value)(w:World),(Instr.checkKey e (k+1) 9 v).run prog w= .ok () w:=λv w=>by unfold Instr.checkKey;simp[run_underlying z,Result.andThen]
 unfold Instr.checkKey;simp only[Sem.run_bind,run_underlying d,Result.andThen]
 go_simp
theorem ckPP(k:Nat)(e:Bool)(a b:Int)(s t:ByteArray)(w:World):(Instr.checkKey e (k+3) 195 (.agg #[.int .i64 a,.string s,.int .i64 b,.string t])).run prog w= .ok () w:=by
 have d:=underlying195;have j:=λa s w=>OE k e a s w
 unfold Instr.checkKey;simp only[Sem.run_bind,run_underlying d,Result.andThen]
 go_simp
theorem jq:KeyOk prog 136 (λk=>∃p:Par,k=bT p) where
 und:=⟨_,underlying136,λus y=>by cases y<;>rfl⟩
 check:=by grind[q8,OE]
 ask:=by
  rintro w R k x u y b ⟨p,rfl⟩ h1 h2 h3;obtain⟨q,rfl⟩:=F8 h3;rw[cy]at h3;cases h3;rw[q8 h1,q8 h2];exact vF 9998 p.f q.f p.c q.c w
 agg:=by rintro k ⟨p,rfl⟩;exact⟨_,O⟩
theorem tQ:KeyOk prog 195 (λk=>∃x:PP,k=ppP x) where
 und:=⟨_,underlying195,λus y=>by cases y<;>rfl⟩
 check:=by
  rintro w R k u e ⟨p,rfl⟩ h;rw[th h];exact ckPP 9997 e _ _ _ _ w
 ask:=by
  rintro w R k x u y b ⟨p,rfl⟩ h1 h2 h3;obtain⟨q,rfl⟩:=B7 h3;rw[c6]at h3;cases h3;rw[th h1,th h2];exact eqPP 9997 p.1.f q.1.f p.2.f q.2.f p.1.c q.1.c p.2.c q.2.c w
 agg:=by rintro k ⟨p,rfl⟩;exact⟨_,O⟩
section
variable {K:Type}[BEq K][LawfulBEq K]
def ay(f:K->PV)(l:List (K×Rat)):List PV:=l.map λe=>f e.1
def aV(l:List (K×Rat)):List PV:=l.map λe=>frP e.2
theorem fb{f:K->PV}(d:∀a b,keq (f a) (f b)=UF (a==b))(k:K):∀(l:List (K×Rat))(i:Nat),cG (f k) (ay f l) i=UF ((l.findIdx? (λe=>e.1==k)).map (i+ ·))
 |[],i=>rfl
 | e::l,i=>by
   have hs:(k==e.1)=(e.1==k):=by grind
   show(match keq (f k) (f e.1)with|some VA=>UF (UF i)|some WA=>cG (f k) (ay f l) (i+1)|none=>UG)=_;rw[d,hs,List.findIdx?_cons];cases e.1==k with
   |true=>simp
   | false=>
     simp only[Vv,XR];rw[fb d k l (i+1)];cases l.findIdx? (λe=>e.1==k)with
     |none=>rfl
     |some j=>simp;omega
def wg(l:List (K×Rat))(k:K)(y:Rat):List (K×Rat):=match l.findIdx? (λe=>e.1==k)with
 |some j=>l.set j (k,y)
 |none=>l++[(k,y)]
def Ah(l:List (K×Rat))(k:K):List (K×Rat):=match l.findIdx? (λe=>e.1==k)with
 |some j=>l.eraseIdx j
 |none=>l
def wY(l:List (K×Rat))(k:K):Option Rat:=match l.findIdx? (λe=>e.1==k)with
 |some j=>UF (l.getD j (k,0)).2
 |none=>UG
def Om(x:Rat):Option Rat->Rat
 |some o=>x+o
 |none=>x
omit [LawfulBEq K] in
theorem FP(l:List (K×Rat))(k:K)(x:Rat):note l k x=if Om x (wY l k)=0 then Ah l k else wg l k (Om x (wY l k)):=by
 unfold note wY Ah wg;cases l.findIdx? (λe=>e.1==k)<;>rfl
omit [LawfulBEq K] in
theorem pM{l:List (K×Rat)}{k:K}{y:Rat}(d:Om x (wY l k)=y)(h:y=0):note l k x=Ah l k:=by rw[FP,d,AT h]
omit [LawfulBEq K] in
theorem pD{l:List (K×Rat)}{k:K}{y:Rat}(d:Om x (wY l k)=y)(h:¬y=0):note l k x=wg l k y:=by rw[FP,d,pF h]
theorem C0{l:List (K×Rat)}{k:K}{o:Rat}(h:wY l k=UF o):∃e∈l,e.2=o:=by
 unfold wY at h;cases hf:l.findIdx? (λe=>e.1==k)with
 |none=>rw[hf]at h;cases h
 | some j=>
   rw[hf]at h;simp only[Uo]at h;obtain⟨l1,o',l2,rfl,rfl,_⟩:=fe hf;refine⟨(k,o'),X2,?_⟩;rw[<-h];simp[List.getD]
theorem jZ{f:K->PV}(d:∀a b,keq (f a) (f b)=UF (a==b))(l:List (K×Rat))(k:K)(y:Rat):mS (f k) (ay f l)=ay f (wg l k y):=by
 unfold mS wg;rw[fb d];cases l.findIdx? (λe=>e.1==k)with
 |none=>simp[ay]
 |some j=>simp[ay,U9]
theorem j8{f:K->PV}(d:∀a b,keq (f a) (f b)=UF (a==b))(l:List (K×Rat))(k:K)(y:Rat):T8 (f k) (frP y) (ay f l) (aV l)=aV (wg l k y):=by
 unfold T8 wg;rw[fb d];cases l.findIdx? (λe=>e.1==k)with
 |none=>simp[aV]
 |some j=>simp[aV,U9]
theorem Cr{f:K->PV}(d:∀a b,keq (f a) (f b)=UF (a==b))(l:List (K×Rat))(k:K):rV (f k) (ay f l) (ay f l)=ay f (Ah l k):=by
 unfold rV Ah;rw[fb d];cases l.findIdx? (λe=>e.1==k)with
 |none=>rfl
 |some j=>simp[ay,Go.ChangeMaps.map_eraseIdx]
theorem BZ{f:K->PV}(d:∀a b,keq (f a) (f b)=UF (a==b))(l:List (K×Rat))(k:K):rV (f k) (ay f l) (aV l)=aV (Ah l k):=by
 unfold rV Ah;rw[fb d];cases l.findIdx? (λe=>e.1==k)with
 |none=>rfl
 |some j=>simp[aV,Go.ChangeMaps.map_eraseIdx]
theorem pG{f:K->PV}(d:∀a b,keq (f a) (f b)=UF (a==b))(l:List (K×Rat))(k:K):jf (f k) (ay f l) (aV l)=UF ((wY l k).map frP):=by
 unfold jf wY;rw[fb d];cases hfi:l.findIdx? (λe=>e.1==k)with
 |none=>rfl
 | some j=>
   obtain⟨l1,o',l2,rfl,rfl,_⟩:=fe hfi;simp[aV,List.getD]
theorem nc{f:K->PV}(d:∀a b,keq (f a) (f b)=UF (a==b))(l:List (K×Rat))(k:K):∃r,cG (f k) (ay f l) 0=UF r:=⟨_,fb d k l 0⟩
end
theorem iI:(q.num.sign==0)=decide (q=0):=by
 rw[UH,VK,OC,Int.sign_eq_zero_iff_zero,Rat.num_eq_zero]
abbrev frZ:PV:=.agg [.bool WA,.sl (UF VA) 0 [],.bool WA,.sl (UF VA) 0 []]
theorem Du(l:List (Par×Rat))(k:Par)(x:Rat)(X:FOk x)(Y:∀e∈l,FOk e.2):FnO prog 163 1 0 [.map big,.pv (bT k),.pv (frP x)] [(big,.mp (ay bT l) (aV l))] (λv ob'=>v= .tup []/\ob'=aA [(big,.mp (ay bT (note l k x)) (aV (note l k x)))]):=by
 refine FnO.of func163 O ntmps163 X2 λ_ _ _ _=>?_
 have G:=pG cy l k;obtain⟨r,hr⟩:=nc cy l k;have J:=Cr cy l k;have L:=BZ cy l k;cases ho:wY l k with
 | none=>
   rw[ho]at G;simp only[Option.map_none]at G;have M:Om x (wY l k)=x:=by rw[ho];rfl
   have P:(x.num.sign==0)=decide (x=0):=iI;have T:=fw x;have H:=jZ cy l k x;have I:=j8 cy l k x;refine Z2 O<|Z2 O<|Rs O (fE (zp:=frZ) (r:=UG) (b:=WA) jq underlying102 (.inl ⟨big,O,O⟩) O ⟨k,O⟩ oz O G O O)<|Ar 6 O<|Z1 O<|Gc O (λz=>absurd z X2) (λz=>?_);refine TM<|Z1 O<|Rs O (aa call136 T O)<|A1 O<|Gc O (λj=>?_) (λj=>?_)
   .have h0:x=0:=by rw[P]at j;simpa using j
    have A:=pM M h0;exact Z2 O<|RL.step (d:=UG) O O (jY jq underlying102 O O O ⟨k,O⟩ hr J L)<|Gt O<|⟨[],[(big,.mp (ay bT (Ah l k)) (aV (Ah l k)))],[],TO trivial (aO O) O O,O,O,O,O,by rw[A]⟩
   have h0:¬x=0:=by rw[P]at j;simpa using j
   have A:=pD M h0;exact TM<|Z3 O<|RL.step (d:=UG) O O (bu jq underlying102 O O O O ⟨k,O⟩ hr H I)<|⟨[],[(big,.mp (ay bT (wg l k x)) (aV (wg l k x)))],[],TO trivial (aO O) O O,O,O,O,O,by rw[A]⟩
 | some o=>
   rw[ho]at G;simp only[V5]at G;obtain⟨e,he,hoe⟩:=C0 ho;have U:FOk o:=hoe▸Y e he;have V:=np x o X U;have M:Om x (wY l k)=x+o:=by rw[ho];rfl
   have P:((x+o).num.sign==0)=decide (x+o=0):=iI;have T:=fw (x+o);have H:=jZ cy l k (x+o);have I:=j8 cy l k (x+o);refine Z2 O<|Z2 O<|Rs O (fE (zp:=frZ) (r:=UF (frP o)) (b:=VA) jq underlying102 (.inl ⟨big,O,O⟩) O ⟨k,O⟩ oz O G O O)<|Ar 6 O<|Z1 O<|Gc O (λz=>?_) (λz=>absurd z X2);refine Z2 O<|Rs O (aa call94 V O)<|A1 O<|Z1 O<|Rs O (aa call136 T O)<|A1 O<|Gc O (λj=>?_) (λj=>?_)
   .have h0:x+o=0:=by rw[P]at j;simpa using j
    have A:=pM M h0;exact Z2 O<|RL.step (d:=UG) O O (jY jq underlying102 O O O ⟨k,O⟩ hr J L)<|Gt O<|⟨[],[(big,.mp (ay bT (Ah l k)) (aV (Ah l k)))],[],TO trivial (aO O) O O,O,O,O,O,by rw[A]⟩
   have h0:¬x+o=0:=by rw[P]at j;simpa using j
   have A:=pD M h0;exact TM<|Z3 O<|RL.step (d:=UG) O O (bu jq underlying102 O O O O ⟨k,O⟩ hr H I)<|⟨[],[(big,.mp (ay bT (wg l k (x+o))) (aV (wg l k (x+o))))],[],TO trivial (aO O) O O,O,O,O,O,by rw[A]⟩
theorem nP(l:List (PP×Rat))(k:PP)(x:Rat)(X:FOk x)(Y:∀e∈l,FOk e.2):FnO prog 95 1 0 [.map big,.pv (ppP k),.pv (frP x)] [(big,.mp (ay ppP l) (aV l))] (λv ob'=>v= .tup []/\ob'=aA [(big,.mp (ay ppP (note l k x)) (aV (note l k x)))]):=by
 refine FnO.of func95 O ntmps95 X2 λ_ _ _ _=>?_
 have G:=pG c6 l k;obtain⟨r,hr⟩:=nc c6 l k;have J:=Cr c6 l k;have L:=BZ c6 l k;cases ho:wY l k with
 | none=>
   rw[ho]at G;simp only[Option.map_none]at G;have M:Om x (wY l k)=x:=by rw[ho];rfl
   have P:(x.num.sign==0)=decide (x=0):=iI;have T:=fw x;have H:=jZ c6 l k x;have I:=j8 c6 l k x;refine Z2 O<|Z2 O<|Rs O (fE (zp:=frZ) (r:=UG) (b:=WA) tQ underlying103 (.inl ⟨big,O,O⟩) O ⟨k,O⟩ oz O G O O)<|Ar 6 O<|Z1 O<|Gc O (λz=>absurd z X2) (λz=>?_);refine TM<|Z1 O<|Rs O (aa call136 T O)<|A1 O<|Gc O (λj=>?_) (λj=>?_)
   .have h0:x=0:=by rw[P]at j;simpa using j
    have A:=pM M h0;exact Z2 O<|RL.step (d:=UG) O O (jY tQ underlying103 O O O ⟨k,O⟩ hr J L)<|Gt O<|⟨[],[(big,.mp (ay ppP (Ah l k)) (aV (Ah l k)))],[],TO trivial (aO O) O O,O,O,O,O,by rw[A]⟩
   have h0:¬x=0:=by rw[P]at j;simpa using j
   have A:=pD M h0;exact TM<|Z3 O<|RL.step (d:=UG) O O (bu tQ underlying103 O O O O ⟨k,O⟩ hr H I)<|⟨[],[(big,.mp (ay ppP (wg l k x)) (aV (wg l k x)))],[],TO trivial (aO O) O O,O,O,O,O,by rw[A]⟩
 | some o=>
   rw[ho]at G;simp only[V5]at G;obtain⟨e,he,hoe⟩:=C0 ho;have U:FOk o:=hoe▸Y e he;have V:=np x o X U;have M:Om x (wY l k)=x+o:=by rw[ho];rfl
   have P:((x+o).num.sign==0)=decide (x+o=0):=iI;have T:=fw (x+o);have H:=jZ c6 l k (x+o);have I:=j8 c6 l k (x+o);refine Z2 O<|Z2 O<|Rs O (fE (zp:=frZ) (r:=UF (frP o)) (b:=VA) tQ underlying103 (.inl ⟨big,O,O⟩) O ⟨k,O⟩ oz O G O O)<|Ar 6 O<|Z1 O<|Gc O (λz=>?_) (λz=>absurd z X2);refine Z2 O<|Rs O (aa call94 V O)<|A1 O<|Z1 O<|Rs O (aa call136 T O)<|A1 O<|Gc O (λj=>?_) (λj=>?_)
   .have h0:x+o=0:=by rw[P]at j;simpa using j
    have A:=pM M h0;exact Z2 O<|RL.step (d:=UG) O O (jY tQ underlying103 O O O ⟨k,O⟩ hr J L)<|Gt O<|⟨[],[(big,.mp (ay ppP (Ah l k)) (aV (Ah l k)))],[],TO trivial (aO O) O O,O,O,O,O,by rw[A]⟩
   have h0:¬x+o=0:=by rw[P]at j;simpa using j
   have A:=pD M h0;exact TM<|Z3 O<|RL.step (d:=UG) O O (bu tQ underlying103 O O O O ⟨k,O⟩ hr H I)<|⟨[],[(big,.mp (ay ppP (wg l k (x+o))) (aV (wg l k (x+o))))],[],TO trivial (aO O) O O,O,O,O,O,by rw[A]⟩
end
section
open Go.RowKit Mm
abbrev yF(c:Rat)(a b:Nat):List V:=[.pv (.bool (decide (c.num<0))),.pv (bU c.num.natAbs),.pv (.bool (decide ((c.den:Int)<0))),.pv (bU (c.den:Int).natAbs),.map a,.map b]
abbrev mcC(m:MC):List PV:=[.bool (decide (m.c.num<0)),bU m.c.num.natAbs,.bool (decide ((m.c.den:Int)<0)),bU (m.c.den:Int).natAbs,.mp (ay bT m.s) (aV m.s),.mp (ay ppP m.p) (aV m.p)]
abbrev mcP(m:MC):PV:=.agg (mcC m)
noncomputable abbrev momP(x:Mm.Sem):PV:=mcP (cn x)
theorem eQ.ofE{f:K->PV}{l:List (K×Rat)}{cur:List PV}{rest cur' ks' vs':List PV}(h:eQ cur (ay f l) (aV l) b rest cur' ks' vs'):
  (b=WA/\l=[]/\rest=[]/\cur'=cur/\ks'=ay f l/\vs'=aV l)\/(b=VA/\∃(l1:List (K×Rat))(e:K×Rat)(l2:List (K×Rat)),l=l1++e::l2/\rest=[f e.1,frP e.2]/\cur'=[f e.1,frP e.2]/\ks'=ay f (l1++l2)/\vs'=aV (l1++l2)):=
 eQ.of (α:=K×Rat) (f:=λe=>f e.1) (g:=λe=>frP e.2) h
def smB:Nat:=10^100
def KJ:Nat:=(10^100)^10
theorem eA(A:eC 36 q)(G:bp B q)(hB:B<=KJ):FOk q:=by
 have H:=A.NG XZ;refine⟨XX,AI ((aY (k:=200)).2 ?_) XZ⟩;have d:=G.num;have j:B*q.den<=KJ*36:=Va hB XX;have z:KJ*36<1000000000^200:=by decide+kernel
 exact Xa (AI d j) z
theorem Mm.eC.RC(h:eC 6 q):eC 36 q:=h.up 6
theorem Mm.eC.int(D:Int)(h:∃z:Int,q=(z:Rat)):eC D q:=by
 obtain⟨z,rfl⟩:=h;exact eC.ofInt D z
theorem Mm.eC.L1{k:Rat}(h:eC D q)(d:∃z:Int,k=(z:Rat)):eC D (q*k):=by
 obtain⟨z,rfl⟩:=d;obtain⟨x,hx⟩:=h;exact⟨x*z,by rw[Wp,<-hx];grind⟩
theorem sm1:smB+smB*smB<=KJ:=by decide+kernel
theorem sm0:smB<=KJ:=by decide+kernel
theorem sm2:smB*smB<=KJ:=by decide+kernel
structure IncR(c:Rat)(sb:List (Par×Rat))(pb:List (PP×Rat))(w:MC)(k c':Rat)(s':List (Par×Rat))(p':List (PP×Rat)):Prop where
 c:c'=c+w.c*k
 s:LOk 6 s'
 p:LOk 36 p'
 po:(∀e∈pb,bX e.1.1 e.1.2<=0)->∀e∈p',bX e.1.1 e.1.2<=0
 es:∀x,lk s' x=lk sb x+lk w.s x*k
 ep:∀x,lk p' x=lk pb x+lk w.p x*k
structure MSmB(B:Nat)(m:MC):Prop where
 ci:∃z:Int,m.c=(z:Rat)
 s:LOk 6 m.s
 p:LOk 36 m.p
 po:∀e∈m.p,bX e.1.1 e.1.2<=0
 cb:bp B m.c
 sb:∀e∈m.s,bp B e.2
 pb:∀e∈m.p,bp B e.2
abbrev MSm(m:MC):Prop:=MSmB smB m
theorem Mm.Inc.po{b w todo acc:List (PP×Rat)}(h:Inc 36 b w q todo acc)(z:∀e∈b,bX e.1.1 e.1.2<=0)(A:∀e∈w,bX e.1.1 e.1.2<=0):∀e∈acc,bX e.1.1 e.1.2<=0:=by
 intro e he;obtain⟨d,h1,h2⟩:=h.ex;have j:=fo h.ok.nd he;rw[h2]at j;rcases fX b e.1 with⟨l1,o,l2,rfl,_⟩|hk
 .exact z (e.1,o) X2
 rcases fX d e.1 with⟨l1,o,l2,rfl,_⟩|hk2
 .exact A (e.1,o) (h1.subset X2)
 rw[tf hk,tf hk2]at j;exact absurd (show e.2=0 by rw[<-j];grind) (h.ok.nz e he)
theorem jV(c:Rat)(sb:List (Par×Rat))(pb:List (PP×Rat))(w:MC)(k:Rat)(hB:B+smB*smB<=KJ)(P:MSmB B ⟨c,sb,pb⟩)(H:MSm w)(X:∃z:Int,k=(z:Rat))(J:bp smB k):
  FnO prog 92 3 0 [.ptr big 0,.pv (mcP w),.pv (frP k)] [(big,.mix 105 (yF c 9001 9002)),(9001,.mp (ay bT sb) (aV sb)),(9002,.mp (ay ppP pb) (aV pb))]
   (λv ob'=>∃c' s' p',IncR c sb pb w k c' s' p'/\v= .tup []/\ob'=aA [(big,.mix 105 (yF c' 9001 9002)),(9001,.mp (ay bT s') (aV s')),(9002,.mp (ay ppP p') (aV p'))]):=by
 refine FnO.of func92 O ntmps92 X2 λ_ _ _ _=>?_
 have Z:=eC.int 36 X;have T:=eA Z J sm0;have ab:=iJ w.c k (eA (eC.int 36 H.ci) H.cb sm0) T;have ac:=np c (w.c*k) (eA (eC.int 36 P.ci) P.cb (AI (Wq _ _) hB)) (eA ((eC.int 36 H.ci).L1 X) (H.cb.mul J) sm2);refine Z2 O<|UB 13 O<|Dr 8 O<|Ds [] O (λτ h=>aa call93 ab (h.aE O)) O XY<|Ds [] O (λτ h=>aa call94 ac (h.aE O)) O XY<|Dr 3 O ?_;refine⟨XY,?_⟩;refine Z2 O<|Rs O (eu 2 underlying102 O O)<|Gz O (st:=λX6:List (Par×Rat)×List (Par×Rat)×List PV=>([(0,UG),(4,UG),(5,UG),(24,UG)],[(big,UG),(0,UG),(1,UG),(2,UF (.mi X6.2.2 (ay bT X6.1) (aV X6.1))),(9001,UF (.mp (ay bT X6.2.1) (aV X6.2.1))),(9002,UG)])) 3
  (I:=λX6=>Inc 6 sb w.s k X6.1 X6.2.1) (μ:=λX6=>X6.1.length) (x0:=(w.s,sb,[])) (TO (aS O) (aO XY) O O) (Inc.start P.s w.s k) ?_
 rintro⟨todo,acc,cur⟩ hI;try simp only at hI ⊢
 refine Gr O<|RL.call O (fq O O ?_);rintro b rest cur2 ks2 vs2 hN;refine Rs O (cF O O)<|Gc O (λj=>?_) (λj=>?_)
 .obtain⟨_,l1,e,l2,rfl,rfl,rfl,rfl,rfl⟩:=(eQ.ofE hN).resolve_left (by rintro⟨h,_⟩;rw[h]at j;cases j);have L:=hI.mem (e:=e) X2;have G:=H.s.it e L;have M:=H.sb e L;have U:=iJ e.2 k (eA G.RC M sm0) T;have V:=Du acc e.1 (e.2*k) (eA (G.L1 X).RC (M.mul J) sm2) (λx hx=>eA (hI.ok.it x hx).RC (hI.abs P.s H.s P.sb H.sb J x hx) hB);refine TM<|Gr O<|Rs O (er O O)<|Ar 6 O<|UB 9 O<|Dr 7 O<|Ds [] O (λτ h=>aa call93 U (h.aE O)) O XY<|Ds [9001] O (λτ h=>bl [9001] 5 call163 V (h.args.trans O) O O O ⟨(Eo h 0 O O),X5⟩ XZ O) O XY ?_;refine⟨XY,?_⟩;exact⟨(l1++l2,note acc e.1 (e.2*k),[bT e.1,frP e.2]),TO (aS O) (aO XY) O O,hI.step (G.L1 X),X2⟩
 obtain⟨_,rfl,_⟩:=(eQ.ofE hN).resolve_right (by rintro⟨h,_⟩;rw[h]at j;cases j);have ad:=hI.end;have Y:=hI.ok;refine Gx O<|Z2 O<|Rs O (eu 3 underlying103 O O)<|Gz O (st:=λd:List (PP×Rat)×List (PP×Rat)×List PV=>([(0,UG),(5,UG),(41,UG)],[(big,UG),(1,UG),(3,UF (.mi d.2.2 (ay ppP d.1) (aV d.1))),(9001,UG),(9002,UF (.mp (ay ppP d.2.1) (aV d.2.1)))])) 4
  (I:=λd=>Inc 36 pb w.p k d.1 d.2.1) (μ:=λd=>d.1.length) (x0:=(w.p,pb,[])) (TO (aS O) (aO XY) O O) (Inc.start P.p w.p k) ?_
 rintro⟨todo2,acc2,cur3⟩ hI2;try simp only at hI2 ⊢
 refine Gr O<|RL.call O (fq O O ?_);rintro b2 rest2 cur4 ks4 vs4 hN2;refine Rs O (cF O O)<|Gc O (λA=>?_) (λA=>?_)
 .obtain⟨_,l1,e,l2,rfl,rfl,rfl,rfl,rfl⟩:=(eQ.ofE hN2).resolve_left (by rintro⟨h,_⟩;rw[h]at A;cases A);have L:=hI2.mem (e:=e) X2;have G:=H.p.it e L;have M:=H.pb e L;have U:=iJ e.2 k (eA G M sm0) T;have V:=nP acc2 e.1 (e.2*k) (eA (G.L1 X) (M.mul J) sm2) (λx hx=>eA (hI2.ok.it x hx) (hI2.abs P.p H.p P.pb H.pb J x hx) hB);refine TM<|Gr O<|Rs O (er O O)<|Ar 6 O<|UB 9 O<|Dr 7 O<|Ds [] O (λτ h=>aa call93 U (h.aE O)) O XY<|Ds [9002] O (λτ h=>bl [9002] 6 call95 V (h.args.trans O) O O O ⟨(Eo h 0 O O),X5⟩ XZ O) O XY ?_;refine⟨XY,?_⟩;exact⟨(l1++l2,note acc2 e.1 (e.2*k),[ppP e.1,frP e.2]),TO (aS O) (aO XY) O O,hI2.step (G.L1 X),X2⟩
 obtain⟨_,rfl,_⟩:=(eQ.ofE hN2).resolve_right (by rintro⟨h,_⟩;rw[h]at A;cases A);exact Gx O<|⟨[],[(big,.mix 105 (yF (c+w.c*k) 9001 9002)),(9001,.mp (ay bT acc) (aV acc)),(9002,.mp (ay ppP acc2) (aV acc2))],[],TO trivial (aO XY) O O,O,O,O,_,_,_,⟨O,Y,hI2.ok,λhb=>hI2.po hb H.po,ad,hI2.end⟩,O,O⟩
end
section
open Go.RowKit Mm
theorem mM:∀(a b:List (Nat×Ob))(i:Nat)(o:Ob),aA a i=UF o->aA (a++b) i=UF o
 |[],_,_,_,h=>by simp[aA]at h
 | x::a,b,i,o,h=>by
   simp only[aA,VI]at h ⊢;cases hb:Nat.beq i x.1 with
   |true=>rw[hb]at h;exact h
   |false=>rw[hb]at h;exact mM a b i o h
theorem pubE{f:K->PV}{l m:List (K×Rat)}(h:l.Perm m):((ay f l).zip (aV l)).Perm ((ay f m).zip (aV m)):=by
 have e:∀l:List (K×Rat),(ay f l).zip (aV l)=l.map λe=>(f e.1,frP e.2):=λl=>by
  induction l with
  |nil=>rfl
  |cons e l ih=>simp only[ay,aV,cd,List.zip_cons_cons]at *; rw[ih]
 rw[e,e];exact h.map _
theorem RF(f:K->PV)(l:List (K×Rat)):(ay f l).length=(aV l).length:=by simp[ay,aV]
theorem mr:((0:Int):Rat)=0:=rfl
theorem nU:((1:Int):Rat)=1:=rfl
theorem kW(n:Int)(j: -9223372036854775808<=n)(z:n<=9223372036854775807):FnO prog 35 0 2 [pIi n] [] (λv ob'=>v= .agg (yF (n:Rat) 0 1)/\ob'=aA [(0,.mp [] []),(1,.mp [] [])]):=by
 refine FnO.ofC func35 O ntmps35 X2 λ_ _ _ _=>?_
 have d:=pd n j z;exact Z1 O<|Z1 O<|Rs O (aa call90 d O)<|Rs O (dK 1 O)<|Rs O (dK 2 O)<|Y2 O<|Gt O<|⟨[(2,.ptr 2 0)],[(0,.mp [] []),(1,.mp [] []),(2,.mix 105 (yF (n:Rat) 0 1))],[.agg (yF (n:Rat) 0 1)],[(0,.mp [] []),(1,.mp [] [])],3,TP [1,2,0] (aT O) (aP XY) O O XZ O,O,⟨au ⟨_,underlying105,O⟩ kT O O O,X5⟩,O,O,λi o h=>mM [(0,.mp [] []),(1,.mp [] [])] [(2,.mix 105 (yF (n:Rat) 0 1))] i o h,XZ,O,O⟩
abbrev mcW(n:Int):MC:=⟨(n:Rat),[],[]⟩
theorem yH(n:Int)(j: -9223372036854775808<=n)(z:n<=9223372036854775807):FnP prog 35 [.int .i64 n] (· =mcP (mcW n)):=by
 refine FnP.ofC func35 O ntmps35 X2 λ_ _ _ _=>?_
 have d:=pd n j z;exact Z1 O<|Z1 O<|Rs O (aa call90 d O)<|Rs O (dK 1 O)<|Rs O (dK 2 O)<|Y2 O<|TN (St.cW (ks:=[]) (vs:=[]) 1 O O (UX _))<|TN (St.cW (ks:=[]) (vs:=[]) 2 O O (UX _))<|Gt O<|⟨_,_,O,O,⟨au ⟨_,underlying105,O⟩ kT O O O,X5⟩,O⟩
theorem LR:MSm ⟨((0:Int):Rat),[],[]⟩:=⟨⟨0,O⟩,LOk.nil 6,LOk.nil 36,λ_ h=>absurd h X2,bp.zero _,λ_ h=>absurd h X2,λ_ h=>absurd h X2⟩
theorem si(v:MC)(k:Rat)(G:MSm v)(H:∃z:Int,k=(z:Rat))(A:bp smB k):
  FnO prog 91 0 2 [.pv (mcP v),.pv (frP k)] [] (λr ob'=>∃c' s' p',IncR ((0:Int):Rat) [] [] v k c' s' p'/\r= .agg (yF c' 0 1)/\ob'=aA [(0,.mp (ay bT s') (aV s')),(1,.mp (ay ppP p') (aV p'))]):=by
 refine FnO.ofC func91 O ntmps91 X2 λ_ _ _ _=>?_
 have j:=kW 0 XZ XZ;have d:=jV ((0:Int):Rat) [] [] v k sm1 LR G H A;refine Z3 O<|Gr O<|Rs O (bl [] 3 call35 j O O O O trivial XZ O)<|Y2 O<|Z2 O<|RL.call O (cj [5,3,4] 6 call92 O O O O (by exact⟨XY,XY,XY,X5⟩) XZ O d ?_);rintro _ _ ⟨c',s',p',hR,rfl,rfl⟩;exact Z2 O<|Gt O<|⟨[(4,.ptr 2 0)],[(0,.mp (ay bT s') (aV s')),(1,.mp (ay ppP p') (aV p')),(2,.mix 105 (yF c' 0 1))],[.agg (yF c' 0 1)],[(0,.mp (ay bT s') (aV s')),(1,.mp (ay ppP p') (aV p'))],3,TP [3,4,2] (aT O) (aP XY) O O XZ O,O,⟨au ⟨_,underlying105,O⟩ kT O O O,X5⟩,O,O,λi o h=>mM [(0,.mp (ay bT s') (aV s')),(1,.mp (ay ppP p') (aV p'))] [(2,.mix 105 (yF c' 0 1))] i o h,XZ,c',s',p',hR,O,O⟩
structure AddR(v w m:MC):Prop where
 c:m.c=v.c+w.c
 s:LOk 6 m.s
 p:LOk 36 m.p
 po:∀e∈m.p,bX e.1.1 e.1.2<=0
 sa:Mm.Asc bX m.s
 pa:Mm.Asc ca m.p
 es:∀x,lk m.s x=lk v.s x+lk w.s x
 ep:∀x,lk m.p x=lk v.p x+lk w.p x
theorem IncR.msm{v:MC}{k c':Rat}{s':List (Par×Rat)}{p':List (PP×Rat)}(h:IncR ((0:Int):Rat) [] [] v k c' s' p')(d:MSm v)(j:k=((1:Int):Rat)):MSm ⟨c',s',p'⟩:=by
 have hc:c'=v.c:=by rw[h.c,j,mr,nU];grind
 have es:∀x,lk s' x=lk v.s x:=λx=>by rw[h.es,j,nU];simp only[lk];grind
 have z:∀x,lk p' x=lk v.p x:=λx=>by rw[h.ep,j,nU];simp only[lk];grind
 refine⟨hc▸d.ci,h.s,h.p,h.po X2,hc▸d.cb,λe he=>?_,λe he=>?_⟩
 .have h1:=fo h.s.nd he;rw[es]at h1;rw[<-h1];exact iC d.s.nd d.sb _
 have h1:=fo h.p.nd he;rw[z]at h1;rw[<-h1];exact iC d.p.nd d.pb _
theorem IK(v w:MC)(J:MSm v)(L:MSm w):FnP prog 138 [mcP v,mcP w] (λr=>∃m,AddR v w m/\r=mcP m):=by
 refine FnP.ofC func138 O ntmps138 X2 λ_ _ _ _=>?_
 have d:∃z:Int,((1:Int):Rat)=(z:Rat):=⟨1,O⟩;have j:bp smB ((1:Int):Rat):=by
  have:(1:Nat)<=smB:=by decide+kernel
  exact bp.up (B:=1) ⟨by decide+kernel,by decide+kernel⟩ this
 have A:=pd 1 XZ XZ;have H:=si v ((1:Int):Rat) J d j;refine Z3 O<|Ge O follows [0,1,3,2,4] XY<|D1 O<|Ds [] O (λτ h=>aa call90 A (h.aE O)) O XY<|D1 O<|DL.rel (RO [] 4 2 (λr ob'=>∃c' s' p',IncR ((0:Int):Rat) [] [] v ((1:Int):Rat) c' s' p'/\r= .agg (yF c' 0 1)/\ob'=aA [(0,.mp (ay bT s') (aV s')),(1,.mp (ay ppP p') (aV p'))])) [4,5] [4,5] [] O O O (λτ h=>relO [] 4 call91 H (h.args.trans O) O O O trivial XZ (by show(τ.av 4&&(τ.av 5&&VA))=VA;rw[h.n 0 _ O,h.n 1 _ O];rfl)) O XY XY XY ?_;rintro _ ⟨_,_,⟨c1,s1,p1,hR1,rfl,rfl⟩,rfl⟩ _ _;refine D1 O ?_;refine⟨XY,?_⟩;have I:=hR1.msm J O;have G:=jV c1 s1 p1 w ((1:Int):Rat) sm1 I L d j;refine UB 3 O<|D1 O<|Ds [] O (λτ h=>aa call90 A (h.aE O)) O XY<|DL.rel (RO [3,4,5] 6 0 (λv ob'=>∃c' s' p',IncR c1 s1 p1 w ((1:Int):Rat) c' s' p'/\v= .tup []/\ob'=aA [(big,.mix 105 (yF c' 9001 9002)),(9001,.mp (ay bT s') (aV s')),(9002,.mp (ay ppP p') (aV p'))])) [3,4,5] [] [3,4,5] O O O (λτ h=>relO [3,4,5] 6 call92 G (h.args.trans O) O O O ⟨(h.o 0 _ O).trans XY,(h.o 1 _ O).trans XY,(h.o 2 _ O).trans XY,X5⟩ XZ O) O XY XY XY ?_;rintro _ ⟨_,_,⟨c2,s2,p2,hR2,rfl,rfl⟩,rfl⟩ _ _;refine⟨XY,?_⟩;exact Z2 O<|TN (St.cW (ks:=ay bT (srt bX s2)) (vs:=aV (srt bX s2)) 4 XY (RF _ _) (pubE (bt bX s2).symm))<|TN (St.cW (ks:=ay ppP (srt ca p2)) (vs:=aV (srt ca p2)) 5 XY (RF _ _) (pubE (bt ca p2).symm))<|Gt O<|⟨_,_,O,O,⟨au ⟨_,underlying105,O⟩ kT O O O,X5⟩,⟨c2,srt bX s2,srt ca p2⟩,⟨by simp only;rw[hR2.c,hR1.c,mr,nU];grind,hR2.s.srt,hR2.p.srt,λe he=>hR2.po (hR1.po X2) e ((bt _ _).mem_iff.1 he),fk dI hR2.s.nd,fk cN hR2.p.nd,λx=>by rw[fY (bt _ _),hR2.es,hR1.es,nU];simp only[lk];grind,λx=>by rw[fY (bt _ _),hR2.ep,hR1.ep,nU];simp only[lk];grind⟩,O⟩
end
section
open Go.RowKit Mm
theorem Fv(a b:Par):FnP prog 96 [bT a,bT b] (· =ppP (fl a b)):=by
 refine FnP.ofC func96 O ntmps96 X2 λ_ _ _ _=>?_
 have hc:=IG a b;refine Z3 O<|Z2 O<|Rs O (aa call83 hc O)<|A1 O<|Gp O (λd=>?_) (λd=>?_)
 .have e:fl a b=(b,a):=AT (by simpa using d);exact Z4 O<|Z4 O<|Gt O<|⟨_,_,O,O,⟨au ⟨_,underlying195,O⟩ KY O O O,X5⟩,by rw[e];rfl⟩
 have e:fl a b=(a,b):=pF (by simpa using d);exact TM<|Z4 O<|Gt O<|⟨_,_,O,O,⟨au ⟨_,underlying195,O⟩ KY O O O,X5⟩,by rw[e];rfl⟩
structure CrsO(b:List (PP×Rat))(ws vs todo:List (Par×Rat))(acc:List (PP×Rat)):Prop where
 ok:LOk 36 acc
 po:∀e∈acc,bX e.1.1 e.1.2<=0
 ex:∃d,(d++todo).Perm vs/\∀u v,lk acc (fl u v)=lk b (fl u v)+(lk d u*lk ws v+lk d v*lk ws u)
structure CrsI(b:List (PP×Rat))(ws dP:List (Par×Rat))(p:Par)(x:Rat)(todo:List (Par×Rat))(acc:List (PP×Rat)):Prop where
 ex:∃d,(d++todo).Perm ws/\Crs b ws dP d p x acc
theorem CrsO.start{b:List (PP×Rat)}{ws vs:List (Par×Rat)}(h:LOk 36 b)(d:∀e∈b,bX e.1.1 e.1.2<=0):CrsO b ws vs vs b:=
 ⟨h,d,[],UX _,λu v=>by simp only[lk];grind⟩
theorem CrsO.into{b:List (PP×Rat)}{ws vs l1 l2:List (Par×Rat)}{e:Par×Rat}{acc:List (PP×Rat)}(h:CrsO b ws vs (l1++e::l2) acc):∃d,(d++(l1++e::l2)).Perm vs/\CrsI b ws d e.1 e.2 ws acc:=by
 obtain⟨d,h1,h2⟩:=h.ex;exact⟨d,h1,⟨[],UX _,h.ok,h.po,λu v=>by rw[h2];simp only[lk];grind⟩⟩
theorem CrsI.step{b:List (PP×Rat)}{ws dP l1 l2:List (Par×Rat)}{p:Par}{x:Rat}{e:Par×Rat}{acc:List (PP×Rat)}(h:CrsI b ws dP p x (l1++e::l2) acc)(j:eC 36 (ctr p x e).2):CrsI b ws dP p x (l1++l2) (note acc (fl p e.1) (ctr p x e).2):=by
 obtain⟨d,h1,h2⟩:=h.ex;refine⟨d++[e],?_,h2.step e j⟩;refine List.Perm.trans ?_ h1;rw[WH];refine List.Perm.append_left d ?_;show(e::(l1++l2)).Perm (l1++e::l2);exact(Xq).symm
theorem CrsI.out{b:List (PP×Rat)}{ws vs d l1 l2:List (Par×Rat)}{e:Par×Rat}{acc:List (PP×Rat)}(z:(d++(l1++e::l2)).Perm vs)(h:CrsI b ws d e.1 e.2 [] acc):CrsO b ws vs (l1++l2) acc:=by
 obtain⟨dQ,h1,h2⟩:=h.ex;rw[Vg]at h1;have j:=h2.row h1 e.1 e.2;refine⟨j.ok,j.po,d++[e],?_,λu v=>?_⟩
 .grind
 rw[j.eq];simp only[lk];grind
theorem CrsO.end{b:List (PP×Rat)}{ws vs:List (Par×Rat)}{acc:List (PP×Rat)}(h:CrsO b ws vs [] acc)(u v:Par):lk acc (fl u v)=lk b (fl u v)+(lk vs u*lk ws v+lk vs v*lk ws u):=by
 obtain⟨d,h1,h2⟩:=h.ex;rw[Vg]at h1;rw[h2,fY h1,fY h1]
theorem CrsO.mem{b:List (PP×Rat)}{ws vs todo:List (Par×Rat)}{acc:List (PP×Rat)}(h:CrsO b ws vs todo acc){e:Par×Rat}(j:e∈todo):e∈vs:=by
 obtain⟨d,h1,_⟩:=h.ex;exact h1.subset (by simp[j])
theorem CrsI.mem{b:List (PP×Rat)}{ws dP todo:List (Par×Rat)}{p:Par}{acc:List (PP×Rat)}(h:CrsI b ws dP p x todo acc){e:Par×Rat}(j:e∈todo):e∈ws:=by
 obtain⟨d,h1,_⟩:=h.ex;exact h1.subset (by simp[j])
theorem sC{d t l:List (K×Rat)}(h:(d++t).Perm l)(j:(l.map (·.1)).Nodup):(d.map (·.1)).Nodup:=by grind
theorem CrsI.abs{b:List (PP×Rat)}{ws vs dP todo t2:List (Par×Rat)}{p:Par}{acc:List (PP×Rat)}{C E:Nat}(h:CrsI b ws dP p x todo acc)(j:(dP++t2).Perm vs)(A:LOk 6 vs)(z:LOk 6 ws)(G:∀u v,bp B (lk b (fl u v)))
  (bv:∀e∈vs,bp C e.2) (bx:bp C x) (bw:∀e∈ws,bp E e.2):∀e∈acc,bp (B+(C*E+C*E)+(C*E+C*E)) e.2:=by
 obtain⟨d,h1,h2⟩:=h.ex;refine h2.abs G (λu=>iC (sC j A.nd) (λe he=>bv e (j.subset (by simp[he]))) u) bx (λu=>iC z.nd bw u) (λu=>iC (sC h1 z.nd) (λe he=>bw e (h1.subset (by simp[he]))) u)
theorem sm3:smB*smB+smB*smB+(smB*smB+smB*smB)+(smB*smB+smB*smB)<=KJ:=by decide+kernel
theorem sm4:smB*smB+smB*smB<=KJ:=by decide+kernel
structure MulR(v w m:MC):Prop where
 c:m.c=v.c*w.c
 s:LOk 6 m.s
 p:LOk 36 m.p
 po:∀e∈m.p,bX e.1.1 e.1.2<=0
 sa:Mm.Asc bX m.s
 pa:Mm.Asc ca m.p
 es:∀x,lk m.s x=lk w.s x*v.c+lk v.s x*w.c
 ep:∀x y,lk m.p (fl x y)=lk w.p (fl x y)*v.c+lk v.p (fl x y)*w.c+(lk v.s x*lk w.s y+lk v.s y*lk w.s x)
theorem IncR.scaled{v:MC}{k c':Rat}{s':List (Par×Rat)}{p':List (PP×Rat)}(h:IncR ((0:Int):Rat) [] [] v k c' s' p')(j:MSm v)(A:∃z:Int,k=(z:Rat))(d:bp smB k):MSmB (smB*smB) ⟨c',s',p'⟩:=by
 have hc:c'=v.c*k:=by rw[h.c,mr];grind
 refine⟨?_,h.s,h.p,h.po (λ_ h=>absurd h X2),by simp only;rw[hc];exact j.cb.mul d,λe he=>?_,λe he=>?_⟩
 .obtain⟨a,ha⟩:=j.ci;obtain⟨b,hb⟩:=A;exact⟨a*b,by simp only;rw[hc,ha,hb,Wp]⟩
 .have h1:=fo h.s.nd he;rw[h.es]at h1;rw[<-h1];simp only[lk,Rat.zero_add];exact(iC j.s.nd j.sb _).mul d
 have h1:=fo h.p.nd he;rw[h.ep]at h1;rw[<-h1];simp only[lk,Rat.zero_add];exact(iC j.p.nd j.pb _).mul d
theorem F3(v w:MC)(A:MSm v)(J:MSm w):FnP prog 37 [mcP v,mcP w] (λr=>∃m,MulR v w m/\r=mcP m):=by
 refine FnP.ofC func37 O ntmps37 X2 λ_ _ _ _=>?_
 have am:=si w v.c J A.ci A.cb;have an:=iJ v.c w.c (eA (eC.int 36 A.ci) A.cb sm0) (eA (eC.int 36 J.ci) J.cb sm0);refine Z3 O<|Z3 O<|RL.call O (cj [] 3 call91 O O O O (by exact trivial) XZ O am ?_);rintro _ _ ⟨c1,s1,p1,hR1,rfl,rfl⟩;refine Y2 O ?_;have U:=hR1.scaled J A.ci A.cb;have Z:=jV c1 s1 p1 v w.c sm4 U A J.ci J.cb;refine Z3 O<|RL.call O (cj [5,3,4] 6 call92 O O O O (by exact⟨XY,XY,XY,X5⟩) XZ O Z ?_);rintro _ _ ⟨c2,s2,p2,hR2,rfl,rfl⟩;have ab:=hR2.po (hR1.po (λ_ h=>absurd h X2));have ac:∀x y,bp (smB*smB+smB*smB) (lk p2 (fl x y)):=λx y=>by
  rw[hR2.ep];exact(iC U.p.nd U.pb _).add ((iC A.p.nd A.pb _).mul J.cb)
 refine Z4 O<|Rs O (aa call93 an O)<|Y2 O<|Z2 O<|Rs O (eu 6 underlying102 O O)<|Gz O (st:=λX6:List (Par×Rat)×List (PP×Rat)×List PV=>([(3,UG),(4,UG),(5,UG),(27,UG)],[(1,UG),(2,UG),(3,UG),(4,UF (.mp (ay ppP X6.2.1) (aV X6.2.1))),(5,UG),(6,UF (.mi X6.2.2 (ay bT X6.1) (aV X6.1)))])) 7
  (I:=λX6=>CrsO p2 w.s v.s X6.1 X6.2.1) (μ:=λX6=>X6.1.length) (x0:=(v.s,p2,[])) (TO (aS O) (aO XY) O O) (CrsO.start hR2.p ab) ?_
 rintro⟨todo,acc,cur⟩ hI;try simp only at hI ⊢
 refine Gr O<|RL.call O (fq O O ?_);rintro b rest cur2 ks2 vs2 hN;refine Rs O (cF O O)<|Gc O (λj=>?_) (λj=>?_)
 .obtain⟨_,l1,e,l2,rfl,rfl,rfl,rfl,rfl⟩:=(eQ.ofE hN).resolve_left (by rintro⟨h,_⟩;rw[h]at j;cases j);obtain⟨dP,hdP,hI2⟩:=hI.into;have ad:=hI.mem (e:=e) X2;have af:=A.s.it e ad;have G:=A.sb e ad;refine TM<|Gr O<|Rs O (er O O)<|Ar 6 O<|Z2 O<|Rs O (eu 9 underlying102 O O)<|Gz O (st:=λd:List (Par×Rat)×List (PP×Rat)×List PV=>([(3,UG),(4,UG),(5,UG),(6,UG),(7,UG),(27,UG),(35,UG)],[(1,UG),(2,UG),(3,UG),(4,UF (.mp (ay ppP d.2.1) (aV d.2.1))),(5,UG),(6,UG),(7,UG),(8,UG),(9,UF (.mi d.2.2 (ay bT d.1) (aV d.1)))])) 10
   (I:=λd=>CrsI p2 w.s dP e.1 e.2 d.1 d.2.1) (μ:=λd=>d.1.length) (x0:=(w.s,acc,[])) (TO (aS O) (aO XY) O O) (hI2) ?_
  rintro⟨todo2,acc2,cur3⟩ hJ;try simp only at hJ ⊢
  refine Gr O<|RL.call O (fq O O ?_);rintro b2 rest2 cur4 ks4 vs4 hN2;refine Rs O (cF O O)<|Gc O (λz=>?_) (λz=>?_)
  .obtain⟨_,l3,g,l4,rfl,rfl,rfl,rfl,rfl⟩:=(eQ.ofE hN2).resolve_left (by rintro⟨h,_⟩;rw[h]at z;cases z);have ag:=hJ.mem (e:=g) X2;have ah:=J.s.it g ag;have T:=J.sb g ag;have ao:=iJ e.2 g.2 (eA af.RC G sm0) (eA ah.RC T sm0);have H:eC 36 (e.2*g.2):=af.mul ah;have V:=eA H (G.mul T) sm2;have ap:=np (e.2*g.2) (e.2*g.2) V V;have aj:=Fv e.1 g.1;refine TM<|Gr O<|Rs O (er O O)<|Ar 6 O<|Z2 O<|Rs O (aa call93 ao O)<|Y2 O<|Z2 O<|Rs O (Ct O O O)<|Gc O (λP=>?_) (λP=>?_)
   .have hq:(e.1==g.1)=VA:=P;have L:(ctr e.1 e.2 g).2=e.2*g.2+e.2*g.2:=by simp only[ctr,hq,XO]
    have X:eC 36 (ctr e.1 e.2 g).2:=by rw[L];exact H.add H
    have M:=hJ.step X;rw[L]at M;have Y:=nP acc2 (fl e.1 g.1) (e.2*g.2+e.2*g.2) (eA (H.add H) ((G.mul T).add (G.mul T)) sm4) (λx hx=>eA (hJ.ex.choose_spec.2.ok.it x hx) (hJ.abs (t2:=l1++e::l2) hdP A.s J.s ac A.sb G J.sb x hx) sm3);refine Z2 O<|Rs O (aa call94 ap O)<|A1 O<|UB 7 O<|Dr 4 O<|Ds [] O (λτ h=>aa call96 aj (h.aE O)) O XY<|D1 O<|Ds [4] O (λτ h=>bl [4] 13 call95 Y (h.args.trans O) O O O ⟨(Eo h 0 O O),X5⟩ XZ O) O XY ?_;refine⟨XY,?_⟩;exact⟨(l3++l4,note acc2 (fl e.1 g.1) (e.2*g.2+e.2*g.2),[bT g.1,frP g.2]),TO (aS O) (aO XY) O O,M,X2⟩
   have hq:(e.1==g.1)=WA:=P;have L:(ctr e.1 e.2 g).2=e.2*g.2:=by simp only[ctr,hq,Vv,XR]
   have X:eC 36 (ctr e.1 e.2 g).2:=by rw[L];exact H
   have M:=hJ.step X;rw[L]at M;have Y:=nP acc2 (fl e.1 g.1) (e.2*g.2) V (λx hx=>eA (hJ.ex.choose_spec.2.ok.it x hx) (hJ.abs (t2:=l1++e::l2) hdP A.s J.s ac A.sb G J.sb x hx) sm3);refine TM<|UB 7 O<|Dr 4 O<|Ds [] O (λτ h=>aa call96 aj (h.aE O)) O XY<|D1 O<|Ds [4] O (λτ h=>bl [4] 13 call95 Y (h.args.trans O) O O O ⟨(Eo h 0 O O),X5⟩ XZ O) O XY ?_;refine⟨XY,?_⟩;exact⟨(l3++l4,note acc2 (fl e.1 g.1) (e.2*g.2),[bT g.1,frP g.2]),TO (aS O) (aO XY) O O,M,X2⟩
  obtain⟨_,rfl,_⟩:=(eQ.ofE hN2).resolve_right (by rintro⟨h,_⟩;rw[h]at z;cases z);have al:=hJ.out hdP;exact Gx O<|⟨(l1++l2,acc2,[bT e.1,frP e.2]),TO (aS O) (aO XY) O O,al,X2⟩
 obtain⟨_,rfl,_⟩:=(eQ.ofE hN).resolve_right (by rintro⟨h,_⟩;rw[h]at j;cases j);have aq:=hI.end;exact Gx O<|Z2 O<|TN (St.cW (ks:=ay bT (srt bX s2)) (vs:=aV (srt bX s2)) 3 XY (RF _ _) (pubE (bt bX s2).symm))<|TN (St.cW (ks:=ay ppP (srt ca acc)) (vs:=aV (srt ca acc)) 4 XY (RF _ _) (pubE (bt ca acc).symm))<|Gt O<|⟨_,_,O,O,⟨au ⟨_,underlying105,O⟩ kT O O O,X5⟩,⟨v.c*w.c,srt bX s2,srt ca acc⟩,⟨O,hR2.s.srt,hI.ok.srt,λe he=>hI.po e ((bt _ _).mem_iff.1 he),fk dI hR2.s.nd,fk cN hI.ok.nd,λx=>by rw[fY (bt _ _),hR2.es,hR1.es];simp only[lk];grind,λx y=>by rw[fY (bt _ _),aq,hR2.ep,hR1.ep];simp only[lk];grind⟩,O⟩
end
section
open Go.RowKit Mm
namespace Mm
theorem MOk.msm{m:MC}(h:MOk W k m)(d:W<=10^50)(j:k<=50):MSm m:=by
 have z:(10:Nat)^50<=smB:=by decide+kernel
 have A:3*50*10^50<=smB:=by decide+kernel
 have G:9*50*50*10^50<=smB:=by decide+kernel
 exact⟨h.ci,h.s,h.p,h.po,h.cb.up (AI d z),λe he=>(h.sb e he).up (AI (Va (US 3 j) d) A),
  λe he=>(h.pb e he).up (AI (Va (Va (US 9 j) j) d) G)⟩
section
variable {K:Type}[BEq K][LawfulBEq K]
theorem Inc.go{b w:List (K×Rat)}(d:∀e∈w,eC D (e.2*q)):∀{todo acc:List (K×Rat)},Inc D b w q todo acc->∃acc',Inc D b w q [] acc'
 |[],acc,h=>⟨acc,h⟩
 |e::t,acc,h=>Inc.go d (todo:=t) (Inc.step (l1:=[]) h (d e (h.mem X2)))
end
theorem CrsI.go{b:List (PP×Rat)}{ws dP:List (Par×Rat)}{p:Par}(d:LOk 6 ws)(j:eC 6 x):∀{todo:List (Par×Rat)}{acc:List (PP×Rat)},CrsI b ws dP p x todo acc->∃acc',CrsI b ws dP p x [] acc'
 |[],acc,h=>⟨acc,h⟩
 | e::t,acc,h=>by
   have hz:eC 36 (x*e.2):=j.mul (d.it e (h.mem X2));have z:eC 36 (ctr p x e).2:=by
    simp only[ctr];split
    .exact hz.add hz
    exact hz
   exact CrsI.go d j (todo:=t) (CrsI.step (l1:=[]) h z)
theorem CrsO.go{b:List (PP×Rat)}{ws vs:List (Par×Rat)}(j:LOk 6 ws)(z:LOk 6 vs):∀{todo:List (Par×Rat)}{acc:List (PP×Rat)},CrsO b ws vs todo acc->∃acc',CrsO b ws vs [] acc'
 |[],acc,h=>⟨acc,h⟩
 | e::t,acc,h=>by
   obtain⟨d,h1,h2⟩:=CrsO.into (l1:=[]) h;obtain⟨acc2,h3⟩:=CrsI.go j (z.it e (h.mem X2)) h2;exact CrsO.go j z (todo:=t) (CrsI.out (l1:=[]) h1 h3)
theorem SOk.add{W':Nat}{x y:Sem}(j:SOk W k x)(A:SOk W' k y):SOk (W+W') k (Sem.add x y):=by
 obtain⟨v,hv,rfl⟩:=j;obtain⟨w,hw,rfl⟩:=A;have d:∀z:Rat,z*(1:Rat)=z:=Rat.mul_one;obtain⟨s,hs⟩:=Inc.go (λe he=>by rw[d];exact hw.s.it e he) (Inc.start hv.s w.s 1);obtain⟨p,hp⟩:=Inc.go (λe he=>by rw[d];exact hw.p.it e he) (Inc.start hv.p w.p 1);obtain⟨e,h⟩:=MOk.add hv hw (m:=⟨v.c+w.c,s,p⟩) O hs.ok hp.ok (hp.po hv.po hw.po) (λx=>by rw[hs.end,d]) (λx=>by rw[hp.end,d]);exact⟨_,h,e⟩
theorem SOk.mul{W' k':Nat}{x y:Sem}(z:SOk W k x)(A:SOk W' k' y):SOk (W*W') (k+k') (Sem.mul x y):=by
 obtain⟨v,hv,rfl⟩:=z;obtain⟨w,hw,rfl⟩:=A;obtain⟨s1,hs1⟩:=Inc.go (λe he=>(hw.s.it e he).L1 hv.ci) (Inc.start (LOk.nil 6) w.s v.c);obtain⟨s,hs⟩:=Inc.go (λe he=>(hv.s.it e he).L1 hw.ci) (Inc.start hs1.ok v.s w.c);obtain⟨p1,hp1⟩:=Inc.go (λe he=>(hw.p.it e he).L1 hv.ci) (Inc.start (LOk.nil 36) w.p v.c);have d:=hp1.po (λ_ h=>absurd h X2) hw.po;obtain⟨p2,hp2⟩:=Inc.go (λe he=>(hv.p.it e he).L1 hw.ci) (Inc.start hp1.ok v.p w.c);have j:=hp2.po d hv.po;obtain⟨p,hp⟩:=CrsO.go hw.s hv.s (CrsO.start hp2.ok j);obtain⟨e,h⟩:=MOk.mul hv hw (m:=⟨v.c*w.c,s,p⟩) O hs.ok hp.ok hp.po (λx=>by rw[hs.end,hs1.end];simp only[lk];grind) (λx y=>by rw[hp.end,hp2.end,hp1.end];simp only[lk];grind);exact⟨_,h,e⟩
def cnt(n:Int):Sem:=⟨(n:Rat),λ_=>0,λ_ _=>0⟩
theorem Hl(n:Nat):MOk n 0 ⟨((n:Int):Rat),[],[]⟩:=
 ⟨⟨n,O⟩,LOk.nil 6,LOk.nil 36,λ_ h=>absurd h X2,⟨by have:(0:Rat)<=(n:Rat):=Rat.natCast_le_natCast.2 (aJ n);show-(n:Rat)<=(n:Rat);grind,Rat.le_refl⟩,λ_ h=>absurd h X2,λ_ h=>absurd h X2⟩
theorem oD(n:Nat):SOk n 0 (cnt n):=⟨_,Hl n,O⟩
theorem AY(n:Nat):cn (cnt n)=⟨((n:Int):Rat),[],[]⟩:=K4 (Hl n) List.Pairwise.nil List.Pairwise.nil
open Classical in
noncomputable def lft(p:Par)(x:Rat):Sem:=⟨1,λq=>if q=p then x else 0,λa b=>if a=p/\b=p then x*x else 0⟩
open Classical in
noncomputable def mcOne(p:Par)(x:Rat):MC:=⟨((1:Int):Rat),if x=0 then []else [(p,x)],if x=0 then []else [((p,p),x*x)]⟩
open Classical in
theorem yX(p:Par)(x:Rat)(d:eC 6 x)(z:bp 3 x):MOk 1 1 (mcOne p x)/\(mcOne p x).sem=lft p x/\Asc bX (mcOne p x).s/\Asc ca (mcOne p x).p:=by
 have hc:bp 1 ((1:Int):Rat):=⟨by decide+kernel,by decide+kernel⟩;have A:bX p p=0:=eU.2 O;by_cases h:x=0
 .have e:mcOne p x=⟨((1:Int):Rat),[],[]⟩:=by rw[mcOne,AT h,AT h]
  rw[e];refine⟨⟨⟨1,O⟩,LOk.nil 6,LOk.nil 36,λ_ h=>absurd h X2,hc,λ_ h=>absurd h X2,λ_ h=>absurd h X2⟩,Sem.same O (λq=>?_) (λa b=>?_),List.Pairwise.nil,List.Pairwise.nil⟩
  .show(0:Rat)=if q=p then x else 0
   split
   .exact h.symm
   .rfl
  show(0:Rat)=if a=p/\b=p then x*x else 0
  split
  .rw[h,Rat.zero_mul]
  .rfl
 have e:mcOne p x=⟨((1:Int):Rat),[(p,x)],[((p,p),x*x)]⟩:=by rw[mcOne,pF h,pF h]
 rw[e];refine⟨⟨⟨1,O⟩,⟨X2,by simpa using h,by simpa using d⟩,⟨X2,?_,?_⟩,?_,hc,?_,?_⟩,Sem.same O (λq=>?_) (λa b=>?_),X2,X2⟩
 .grind
 .intro e he;simp at he;subst he;exact d.mul d
 .grind
 .grind
 .intro e he;simp at he;subst he;exact z.mul z
 .show(if p==q then x else 0)+(0:Rat)=if q=p then x else 0
  rw[XN];by_cases hq:q=p
  .subst hq;simp
  grind
 show(if(p,p)==fl a b then x*x else 0)+(0:Rat)=if a=p/\b=p then x*x else 0
 rw[XN];by_cases hq:a=p/\b=p
 .grind[eZ]
 rw[pF hq,pF];intro h2;have j:=eq_of_beq h2;rw[<-eZ (show bX p p<=0 by omega)]at j;rcases CR j with⟨h4,h5⟩|⟨h4,h5⟩
 .exact hq ⟨h4.symm,h5.symm⟩
 exact hq ⟨h5.symm,h4.symm⟩
theorem Hn(p:Par)(x:Rat)(d:eC 6 x)(j:bp 3 x):SOk 1 1 (lft p x):=⟨_,(yX p x d j).1,(yX p x d j).2.1⟩
theorem Tk(p:Par)(x:Rat)(d:eC 6 x)(j:bp 3 x):cn (lft p x)=mcOne p x:=by
 obtain⟨h1,h2,h3,h4⟩:=yX p x d j;rw[<-h2];exact K4 h1 h3 h4
end Mm
theorem GD{m:MC}(h:MOk W k m)(d:Mm.Asc bX m.s)(j:Mm.Asc ca m.p):momP m.sem=mcP m:=by
 show mcP (cn m.sem)=mcP m;rw[K4 h d j]
theorem QN{W':Nat}{x y:Mm.Sem}(z:SOk W k x)(A:SOk W' k y)(G:W<=10^50)(d:W'<=10^50)(j:k<=50):FnP prog 138 [momP x,momP y] (· =momP (Mm.Sem.add x y)):=by
 obtain⟨mx,ex,_,_⟩:=z.cn;obtain⟨my,ey,_,_⟩:=A.cn;refine(IK (cn x) (cn y) (mx.msm G j) (my.msm d j)).mono ?_;rintro r ⟨m,hR,rfl⟩;obtain⟨e,hm⟩:=MOk.add mx my hR.c hR.s hR.p hR.po hR.es hR.ep;rw[ex,ey]at e;rw[<-e];exact(GD hm hR.sa hR.pa).symm
theorem uy{W' k':Nat}{x y:Mm.Sem}(z:SOk W k x)(A:SOk W' k' y)(G:W<=10^50)(d:W'<=10^50)(H:k<=50)(j:k'<=50):FnP prog 37 [momP x,momP y] (· =momP (Mm.Sem.mul x y)):=by
 obtain⟨mx,ex,_,_⟩:=z.cn;obtain⟨my,ey,_,_⟩:=A.cn;refine(F3 (cn x) (cn y) (mx.msm G H) (my.msm d j)).mono ?_;rintro r ⟨m,hR,rfl⟩;obtain⟨e,hm⟩:=MOk.mul mx my hR.c hR.s hR.p hR.po hR.es hR.ep;rw[ex,ey]at e;rw[<-e];exact(GD hm hR.sa hR.pa).symm
theorem lV(n:Nat)(d:n<=9223372036854775807):FnP prog 35 [.int .i64 n] (· =momP (cnt n)):=by
 have h:=yH (n:Int) XX XX;rw[show mcP (mcW (n:Int))=momP (cnt n) by show mcP ⟨((n:Int):Rat),[],[]⟩=mcP (cn (cnt n));rw[AY]]at h;exact h
theorem M9(p:Par)(x:Rat)(H:FOk x):FnP prog 135 [bT p,frP x] (· =mcP (mcOne p x)):=by
 refine FnP.ofC func135 O ntmps135 X2 λ_ _ _ _=>?_
 have A:=kW 1 XZ XZ;have I:=fw x;have J:=iJ x x H H;have G:(x.num.sign==0)=decide (x=0):=iI;refine Z3 O<|Gr O<|Rs O (bl [] 3 call35 A O O O O trivial XZ O)<|Y2 O<|Z1 O<|Rs O (aa call136 I O)<|A1 O<|Gc O (λj=>?_) (λj=>?_)
 .have h0:¬x=0:=by have z:(x.num.sign !=0)=VA:=j;rw[bne,G]at z;simpa using z
  have e:mcOne p x=⟨((1:Int):Rat),[(p,x)],[((p,p),x*x)]⟩:=by rw[mcOne,pF h0,pF h0]
  refine Z4 O<|RL.step (d:=UG) O O (bu jq underlying102 O O O O ⟨p,O⟩ (r:=UG) O O O)<|UB 9 O<|Dr 7 O<|Ds [] O (λτ h=>aa call93 J (h.aE O)) O XY<|DL.step (d:=UG) [4] O O O (λτ h=>bu tQ underlying103 (Ee h 0 O O) (Eo h 0 O O) (Ee h 1 O O) (Ee h 2 O O) ⟨(p,p),O⟩ (r:=UG) O O O) O XY ?_;refine⟨XY,?_⟩;exact TN (St.cW (ks:=[bT p]) (vs:=[frP x]) 3 XY O (UX _))<|TN (St.cW (ks:=[ppP (p,p)]) (vs:=[frP (x*x)]) 4 XY O (UX _))<|Z2 O<|Gt O<|⟨_,_,O,O,⟨au ⟨_,underlying105,O⟩ kT O O O,X5⟩,by rw[e];rfl⟩
 have h0:x=0:=by have z:(x.num.sign !=0)=WA:=j;rw[bne,G]at z;simpa using z
 have e:mcOne p x=⟨((1:Int):Rat),[],[]⟩:=by rw[mcOne,AT h0,AT h0]
 exact TM<|TN (St.cW (ks:=[]) (vs:=[]) 3 XY O (UX _))<|TN (St.cW (ks:=[]) (vs:=[]) 4 XY O (UX _))<|Z2 O<|Gt O<|⟨_,_,O,O,⟨au ⟨_,underlying105,O⟩ kT O O O,X5⟩,by rw[e];rfl⟩
theorem Ho(p:Par)(x:Rat)(d:eC 6 x)(j:bp 3 x):FnP prog 135 [bT p,frP x] (· =momP (lft p x)):=by
 have h:=M9 p x (eA d.RC j (by decide+kernel));rw[<-Tk p x d j]at h;exact h
end
section
theorem kL(n k:Nat):val ((ae n).drop k)=n/1000000000^k:=by
 by_cases hk:k<=(ae n).length
 .have e:=jQ (ae n) k;rw[aI,U5 hk]at e;have d:=sy ((aZ n).take k);rw[OF,U5 hk]at d;have:=vw k
  conv=>rhs;rw[e]
  rw[Nat.add_mul_div_left _ _ this,WU d,UQ]
 rw[Vf XX];have:=dV n;have j:1000000000^(ae n).length<=1000000000^k:=Vr XZ XX;rw[WU XX];rfl
theorem Sz(A:0<p)(G:t=r/p)(H:u=y/p)(d:0<u)(I:0<y):r/y<=t/u:=by
 rw[WK d,G,WK A,H];have j:y/p*p<=y:=Nat.div_mul_le_self y p;have z:r/y*y<=r:=Nat.div_mul_le_self r y;rw[Vm];exact AI (US _ j) z
theorem Ti(A:0<p)(G:t=r/p)(H:u=y/p)(I:0<y):t/(u+1)<=r/y:=by
 rw[WK I];have d:y<(u+1)*p:=by rw[H,U8];exact Nat.lt_mul_div_succ y A
 have j:t/(u+1)*(u+1)<=t:=Nat.div_mul_le_self t (u+1);have z:t*p<=r:=by rw[G];exact Nat.div_mul_le_self r p
 calc t/(u+1)*y<=t/(u+1)*((u+1)*p):=US _ (Xc d)
  _=t/(u+1)*(u+1)*p:=(Vm _ _ _).symm
  _<=t*p:=Vk _ j
  _<=r:=z
theorem Lv(j:0<y):lim (ae y) ((ae y).length-1)=y/1000000000^((ae y).length-1)/\0<lim (ae y) ((ae y).length-1):=by
 have d:0<(ae y).length:=WN λe=>by have:=bI.1 e;omega
 refine⟨?_,WN (xZ XX)⟩;rw[<-kL,Us XX,Vf XX,dZ XX];simp[val]
theorem KD(d:0<n)(j:n<=(ae r).length)(z:(ae r).length<=n+1):r/1000000000^(n-1)=lim (ae r) (n-1)+lim (ae r) n*1000000000:=by
 rw[<-kL,Us XX,val,dZ XX,show n-1+1=n by omega,U8]
 congr 2
 by_cases h:(ae r).length=n+1
 .grind[Us,Vf,dZ,val]
 rw[Vf XX,jn XX];rfl
theorem LQ{x:List Nat}{q:List Nat}{d:Nat}(j:i<x.length)(I:q.length=x.length)(h:val (x.drop (i+1))=y*val (q.drop (i+1))+r)(H:d=(lim x i+1000000000*r)/y)(J:0<y):
  val (x.drop i)=y*val ((q.set i d).drop i)+(lim x i+1000000000*r)%y:=by
 have A:x.drop i=lim x i::x.drop (i+1):=by rw[Us j,dZ j]
 have G:(q.set i d).drop i=d::q.drop (i+1):=by grind[Us,Ut,List.drop_set]
 rw[A,G,val,val,h];have e:=Xl (lim x i+1000000000*r) y;rw[<-H]at e;generalize (lim x i+1000000000*r)%y=m at*;generalize lim x i=a at*;generalize val (q.drop (i+1))=w;rw[Wd,Wd,Nat.mul_left_comm y];generalize y*w=u;generalize y*d=z at*;omega
theorem Kj(a r:Nat):val (a::ae r)=a+1000000000*r:=by rw[val,aI]
theorem MH(j:a<1000000000)(d:r<y):(a+1000000000*r)/y<1000000000:=by
 rw[WJ XX];have:1000000000*(r+1)<=1000000000*y:=US _ d;omega
structure QuoI(x y i r:Nat)(q:List Nat):Prop where
 ile:i<=(ae x).length
 len:q.length=(ae x).length
 ok:Lok q
 rlt:r<y
 e:val ((ae x).drop i)=y*val (q.drop i)+r
theorem HG{x:Nat}(d:0<y):QuoI x y (ae x).length 0 (List.replicate (ae x).length 0):=
 ⟨tJ _,X2,Lok.replicate _,d,by rw[Vf (tJ _),Vf X2];simp[val]⟩
theorem Lx{x:Nat}{q:List Nat}(h:QuoI x y 0 r q):val q=x/y/\r=x%y:=by
 have e:=h.e;rw[List.drop_zero,List.drop_zero,aI]at e;have d:=h.rlt;rw[e];constructor
 .rw[Nat.mul_add_div XX,WU d,Wf]
 rw[Nat.mul_add_mod,Wx d]
theorem xz{b:Nat}(h:a<=9223372036854775807):IntKind.i64.wrap ((a:Int).tdiv (b:Int))=((a/b:Nat):Int):=by
 have e:(a:Int).tdiv (b:Int)=((a/b:Nat):Int):=rfl;have d:=XS a b;rw[e];generalize a/b=c at*;rw[eF XX]
theorem CC{v:Nat}(l:List Nat)(d:l.length=n)(j:n<=1000000000)(z:Lok l)(A:val l=v):FnP prog 176 [.agg [.bool WA,.sl UG n (gF l)]] (· = .agg [.bool WA,pli (ae v)]):=
 (cO (neg:=WA) l d j z A).mono λr h=>by
  rw[h];have e:sgn WA v=(v:Int):=rfl;show PV.agg [.bool (decide (sgn WA v<0)),pli (ae (sgn WA v).natAbs)]=_;rw[e,Up XX,Uz]
theorem Q8(x y:Int):sgn (decide (x<0) !=decide (y<0)) (x.natAbs/y.natAbs)=x.tdiv y:=by
 have e:∀a b:Nat,((a:Int).tdiv b)=((a/b:Nat):Int):=λ_ _=>rfl
 by_cases hx:x<0<;>by_cases hy:y<0
 .obtain⟨a,rfl⟩:∃a:Nat,x= -(a:Int):=⟨x.natAbs,XX⟩;obtain⟨b,rfl⟩:∃b:Nat,y= -(b:Int):=⟨y.natAbs,XX⟩;rw[SR hx,SR hy,Int.neg_tdiv,Int.tdiv_neg,e];simp[sgn]
 .obtain⟨a,rfl⟩:∃a:Nat,x= -(a:Int):=⟨x.natAbs,XX⟩;obtain⟨b,rfl⟩:∃b:Nat,y=(b:Int):=⟨y.natAbs,XX⟩;rw[SR hx,Up hy,Int.neg_tdiv,e];simp[sgn]
 .obtain⟨a,rfl⟩:∃a:Nat,x=(a:Int):=⟨x.natAbs,XX⟩;obtain⟨b,rfl⟩:∃b:Nat,y= -(b:Int):=⟨y.natAbs,XX⟩;rw[Up hx,SR hy,Int.tdiv_neg,e];simp[sgn]
 grind[sgn]
theorem Pj(x y:Int):sgn (decide (x<0)) (x.natAbs%y.natAbs)=x.tmod y:=by
 have e:∀a b:Nat,((a:Int).tmod b)=((a%b:Nat):Int):=λ_ _=>rfl
 have d:x.tmod y=x.tmod (y.natAbs:Int):=by grind[Int.natAbs_eq,Int.tmod_neg]
 rw[d];by_cases hx:x<0
 .obtain⟨a,rfl⟩:∃a:Nat,x= -(a:Int):=⟨x.natAbs,XX⟩;rw[SR hx,Int.neg_tmod,e];simp[sgn]
 grind[sgn]
theorem AF(nx ny:Bool)(a b:Nat)(hx:(ae a).length<=1000000)(hyl:(ae b).length<=100000)(hy:0<b):FnP prog 234 [.agg [.bool nx,pli (ae a)],.agg [.bool ny,pli (ae b)]] (· = .tup [lJ (sgn (nx !=ny) (a/b)),lJ (sgn nx (a%b))]):=by
 refine FnP.ofC func234 O ntmps234 X2 λ_ _ _ _=>?_
 obtain⟨dv,hdv⟩:∃z,sgn (nx !=ny) (a/b)=z:=⟨_,O⟩;obtain⟨mo,hmo⟩:∃z,sgn nx (a%b)=z:=⟨_,O⟩;rw[hdv,hmo];have hl:0<(ae b).length:=WN λe=>by have:=bI.1 e;omega
 obtain⟨u,hu⟩:∃u,u=lim (ae b) ((ae b).length-1):=⟨_,O⟩;have htop:=Lv hy;have hva:=cC (l:=ae b) (k:=(ae b).length-1) XX;have hna:=dh (l:=ae b) (k:=(ae b).length-1) XX;have hub:=cR (aZ b) ((ae b).length-1);rw[<-hu]at htop hva hub;refine Z4 O<|Z1 O<|TN (St.lT [6])<|Z3 O<|Rs O (kU (zs:=[.int .i64 0]) 4 (ae a).length vN O O O O O XX O)<|A1 O<|Gr O<|Ar 5 O<|Gz O (st:=λX6:Nat×Nat×List Nat=>([(2,UG),(3,UG),(4,UG),(5,UG),(6,UF (.pv (pli (ae X6.2.1)))),(7,UG),(8,UF (pIi ((X6.1:Int)-1)))],[(0,UG),(1,UG),(2,UG),(3,UG),(4,UF (.cells 3 (gF X6.2.2)))])) 5
  (I:=λX6=>QuoI a b X6.1 X6.2.1 X6.2.2) (μ:=λX6=>X6.1) (x0:=((ae a).length,0,List.replicate (ae a).length 0)) (TO ⟨O,O,O,O,by rw[aX];rfl,O,O,X5⟩ ⟨O,O,O,O,ah (λc=>UF (Ob.cells 3 c)) ((cH (.int .i64 0) ((ae a).length*1)).trans (by simp[gF])),X5⟩ O O) (HG hy) ?_
 rintro⟨i,r,q⟩ hQ;try simp only at hQ ⊢
 refine Z2 O<|Gp O (λhc23=>?_) (λhc23=>?_)
 .have hi0:0<i:=XX;have hile:=hQ.ile;have P:=hQ.len;have hia:i-1<(ae a).length:=XX;have hvi:=cC hia;have hni:=dh hia;have hxl:=cR (aZ a) (i-1);have hrl:=hQ.rlt;have M:=LQ (x:=ae a) (q:=q) (i:=i-1) (y:=b) (r:=r) hia P (by rw[show i-1+1=i by omega];exact hQ.e) O hy;have hdl:=MH hxl hrl;have hlr:(ae r).length<=(ae b).length:=cA (Xc hrl);have hcv:=Kj (lim (ae a) (i-1)) r;have hok1:Lok (lim (ae a) (i-1)::ae r):=λz hz=>(By.1 hz).elim (λe=>e▸hxl) (aZ r z)
  have htr:=CC (lim (ae a) (i-1)::ae r) (n:=1+(ae r).length) X3 XX hok1 hcv;have hr2l:(ae (lim (ae a) (i-1)+1000000000*r)).length<=(ae b).length+1:=by
   refine aY.2 ?_;have h1:=dV b;rw[Vc];omega
  generalize lim (ae a) (i-1)=xi at*;refine TM<|Z3 O<|Rs O (ag (i-1) underlying22 sz3 O O XX hia hni) ?_;first|refine A2 O X0 ?_|refine A1 O ?_
  refine Y2 O<|Rs O (dx (6) vN O O X2 (.inl ⟨UG,O⟩) X2 (xk _) XX O)<|RL.weaken (by first|exact ai.aw|exact ai.le|exact TV) (TR (6) O O)<|A1 O<|Rs O (aa call176 htr O)<|Rs O (iR underlying124 O O ⟨_,underlying22,O⟩ O O)<|A1 O ?_;have hr2:∃r2,r2=xi+1000000000*r:=⟨_,O⟩;obtain⟨r2,hr2⟩:=hr2;rw[<-hr2]at M hdl hr2l ⊢;have hsz:=iv r2 b XX XX;refine UB 6 O<|Dr 6 O ?_;refine⟨XY,?_⟩;refine Z3 O<|Rs O (aa call237 hsz O)<|A1 O<|Gp O (λhc44=>?_) (λhc44=>?_)
  .have hrb:b<=r2:=nY.1 hc44;have hlb:(ae b).length<=(ae r2).length:=cA hrb;have hi1:(ae b).length-1<(ae r2).length:=XX;have hv1:=cC hi1;have hn1:=dh hi1;have ht1:=cR (aZ r2) ((ae b).length-1);have ht2:=cR (aZ r2) (ae b).length;have htt:=KD hl hlb hr2l;have hhi:=Sz (vw ((ae b).length-1)) htt.symm htop.1 htop.2 hy;have hlo:=Ti (vw ((ae b).length-1)) htt.symm htop.1 hy;have hv2:=λh=>cC (l:=ae r2) (k:=(ae b).length) h
   have hz2:=λh=>jn (l:=ae r2) (i:=(ae b).length) h
   clear htt;generalize lim (ae r2) ((ae b).length-1)=w1 at*;generalize lim (ae r2) (ae b).length=w2 at*;have hT:∃T,T=w1+w2*1000000000:=⟨_,O⟩;obtain⟨T,hT⟩:=hT;rw[<-hT]at hhi hlo;have hq1:=XS T u;have hq2:=XS T (u+1);refine Z3 O<|Rs O (ag ((ae b).length-1) underlying22 sz3 O O XX hi1 hn1) ?_;first|refine A2 O X0 ?_|refine A1 O ?_
   refine A1 O<|Z4 O<|Gp O (λhc53=>?_) (λhc53=>?_)
   .have hi2:(ae b).length<(ae r2).length:=XX;have hv2:=hv2 hi2;refine Z3 O<|Rs O (ag (ae b).length underlying22 sz3 O O O hi2 hn1) ?_;first|refine A2 O X0 ?_|refine A1 O ?_
    refine A1 O<|Rs O (XJ.cast (v':= pIi (T:Int)) (kM O O XX) (ah (λi=>pIi i) (by rw[hT];simp)))<|A1 O<|Gr O<|Ar 5 O<|Rs O (ag ((ae b).length-1) underlying22 sz3 O O XX XX hna) ?_;first|refine A2 O X0 ?_|refine A1 O ?_
    refine Rs O (XJ.cast (v':= pIi ((T/u:Nat):Int)) (dw O O XX) (ah (λi=>pIi i) (xz XX)))<|Rs O (XJ.cast (v':= pIi ((min 999999999 (T/u):Nat):Int)) (tv O O) (ah (λi=>pIi i) (by split<;>omega)))<|A1 O<|Gr O<|Ar 6 O<|Rs O (ag ((ae b).length-1) underlying22 sz3 O O XX XX hna) ?_;first|refine A2 O X0 ?_|refine A1 O ?_
    refine A1 O<|Rs O (XJ.cast (v':= pIi ((T/(u+1):Nat):Int)) (dw O O XX) (ah (λi=>pIi i) (xz XX)))<|Rs O (XJ.cast (v':= pIi ((min (min 999999999 (T/u)) (T/(u+1)):Nat):Int)) (tv O O) (ah (λi=>pIi i) (by split<;>omega)))<|A1 O ?_;have g1:min (min 999999999 (T/u)) (T/(u+1))<=r2/b:=AI (Nat.min_le_right _ _) hlo;have g2:r2/b<=min 999999999 (T/u):=Nat.le_min.2 ⟨XX,hhi⟩;have g3:min 999999999 (T/u)<=999999999:=Nat.min_le_left _ _;generalize min (min 999999999 (T/u)) (T/(u+1))=lo0 at*;generalize min 999999999 (T/u)=hi0 at*;refine Gz O (st:=λd:Nat×Nat=>([(2,UG),(3,UG),(4,UG),(5,UG),(6,UG),(7,UG),(8,UG),(9,UF (pIi (d.1:Int))),(10,UF (pIi (d.2:Int)))],[(0,UG),(1,UG),(2,UG),(3,UG),(4,UG)])) 7
     (I:=λd=>d.1<=r2/b/\r2/b<=d.2/\d.2<=999999999) (μ:=λd=>d.2-d.1) (x0:=(lo0,hi0)) (TO ⟨O,O,O,O,O,O,O,by first|rfl|(rw[hlo0];rfl),by first|rfl|(rw[hhi0];rfl),X5⟩ (aO O) O O) (⟨g1,g2,g3⟩) ?_
    rintro⟨lo,hi⟩ ⟨k1,k2,k3⟩;try simp only
    refine Z3 O<|Gp O (λab=>?_) (λab=>?_)
    .have hmd:∃md,md=(lo+hi+1)/2:=⟨_,O⟩;obtain⟨md,hmd⟩:=hmd;have J:=eI b md XX XX;have hml:(ae (b*md)).length<=1000000:=by
      have h2:(ae (b*md)).length<=(ae b).length+1:=by
       refine aY.2 ?_;have h1:=dV b;rw[Vc];exact Uq ((Nat.mul_lt_mul_right XX).2 h1) (US _ XX)
      omega
     have hsm:=iv (b*md) r2 XX XX;refine TM<|Z4 O<|Rs O (XJ.cast (v':= pIi (md:Int)) (dw O O XZ) (ah (λi=>pIi i) (by rw[hmd,show(lo:Int)+hi+1=((lo+hi+1:Nat):Int) by omega];exact xz (b:=2) XX))) ?_;refine A1 O<|Z3 O<|Rs O (aa call286 J O)<|A1 O<|Rs O (aa call237 hsm O)<|A1 O<|Gp O (λA=>?_) (λA=>?_)
     .have hle:b*md<=r2:=by rcases We r2 (b*md)with e|e;exact absurd A (by rw[lx e];decide);exact e
      have U:md<=r2/b:=(WK hy).2 (by rw[U8];exact hle);exact Z2 O<|⟨(md,hi),TO (aS O) (aO O) O O,⟨U,k2,k3⟩,XX⟩
     have hgt:r2<b*md:=by rcases We r2 (b*md)with e|e;exact e;exact absurd (show yw (b*md) r2<=0 by unfold yw;split;decide;split;omega;decide) A
     have hgt2:r2/b<md:=(WJ hy).2 (by rw[U8];exact hgt);exact Z3 O<|⟨(lo,md-1),TO ⟨O,O,O,O,O,O,O,O,ah (λi:Int=>V.pv (PV.int .i64 i)) (show(md:Int)-1=((md-1:Nat):Int) by omega),X5⟩ (aO O) O O,⟨k1,XX,XX⟩,XX⟩
    refine Gx O ?_;have j:lo=r2/b:=XX;rw[<-j]at M hdl;have G:r2%b=r2-b*lo:=by rw[j];have:=Xl r2 b;omega
    have H:=hQ.ok.set (k:=i-1) hdl;refine Z3 O<|Rs O (aj (i-1) underlying22 sz3 O O O XX hia)<|A1 O<|Z2 O<|Gp O (λL=>?_) (λL=>?_)
    .have J:=eI b lo XX XX;have X:b*lo<=r2:=by rw[j];exact Nat.mul_div_le r2 b
     have Y:0<r2:=by rcases Ve r2 with e|e;rw[e,Nat.zero_div]at j;omega;exact e
     have hmi:=ji r2 (b*lo) XX X Y;refine Z4 O<|Rs O (aa call286 J O)<|RL.call O (gZ call238 hmi O ?_);rintro _ ⟨ov,v1,v2,v3,rfl⟩;exact A1 O<|Rs O (aa call176 (CC (v:=r2%b) ov O XX v1 (by rw[v3,G])) O)<|Rs O (iR underlying124 O O ⟨_,underlying22,O⟩ O O)<|A1 O<|Z3 O<|⟨(i-1,r2%b,q.set (i-1) lo),TO ⟨O,O,O,O,O,O,ah (λi:Int=>V.pv (PV.int .i64 i)) (show(i:Int)-1-1=((i-1:Nat):Int)-1 by omega),X5⟩ ⟨O,O,O,O,ah (λc=>UF (Ob.cells 3 c)) (by rw[Uv,gK]),X5⟩ O O,⟨XX,by rw[Ut];exact P,H,Vi _ hy,M⟩,XX⟩
    have hl0:lo=0:=XX;have Z:r2=r2%b:=by rw[G,hl0];simp
    exact TM<|Z3 O<|⟨(i-1,r2%b,q.set (i-1) lo),TO ⟨O,O,O,O,ah (λn:Nat=>V.pv (pli (ae n))) Z,O,ah (λi:Int=>V.pv (PV.int .i64 i)) (show(i:Int)-1-1=((i-1:Nat):Int)-1 by omega),X5⟩ ⟨O,O,O,O,ah (λc=>UF (Ob.cells 3 c)) (by rw[Uv,gK]),X5⟩ O O,⟨XX,by rw[Ut];exact P,H,Vi _ hy,M⟩,XX⟩
   have hw2:w2=0:=hz2 XX;have hTw:T=w1:=by rw[hT,hw2];omega
   rw[<-hTw];refine TM<|Gr O<|Ar 5 O<|Rs O (ag ((ae b).length-1) underlying22 sz3 O O XX XX hna) ?_;first|refine A2 O X0 ?_|refine A1 O ?_
   refine Rs O (XJ.cast (v':= pIi ((T/u:Nat):Int)) (dw O O XX) (ah (λi=>pIi i) (xz XX)))<|Rs O (XJ.cast (v':= pIi ((min 999999999 (T/u):Nat):Int)) (tv O O) (ah (λi=>pIi i) (by split<;>omega)))<|A1 O<|Gr O<|Ar 6 O<|Rs O (ag ((ae b).length-1) underlying22 sz3 O O XX XX hna) ?_;first|refine A2 O X0 ?_|refine A1 O ?_
   refine A1 O<|Rs O (XJ.cast (v':= pIi ((T/(u+1):Nat):Int)) (dw O O XX) (ah (λi=>pIi i) (xz XX)))<|Rs O (XJ.cast (v':= pIi ((min (min 999999999 (T/u)) (T/(u+1)):Nat):Int)) (tv O O) (ah (λi=>pIi i) (by split<;>omega)))<|A1 O ?_;have g1:min (min 999999999 (T/u)) (T/(u+1))<=r2/b:=AI (Nat.min_le_right _ _) hlo;have g2:r2/b<=min 999999999 (T/u):=Nat.le_min.2 ⟨XX,hhi⟩;have g3:min 999999999 (T/u)<=999999999:=Nat.min_le_left _ _;generalize min (min 999999999 (T/u)) (T/(u+1))=lo0 at*;generalize min 999999999 (T/u)=hi0 at*;refine Gz O (st:=λd:Nat×Nat=>([(2,UG),(3,UG),(4,UG),(5,UG),(6,UG),(7,UG),(8,UG),(9,UF (pIi (d.1:Int))),(10,UF (pIi (d.2:Int)))],[(0,UG),(1,UG),(2,UG),(3,UG),(4,UG)])) 7
    (I:=λd=>d.1<=r2/b/\r2/b<=d.2/\d.2<=999999999) (μ:=λd=>d.2-d.1) (x0:=(lo0,hi0)) (TO ⟨O,O,O,O,O,O,O,by first|rfl|(rw[hlo0];rfl),by first|rfl|(rw[hhi0];rfl),X5⟩ (aO O) O O) (⟨g1,g2,g3⟩) ?_
   rintro⟨lo,hi⟩ ⟨k1,k2,k3⟩;try simp only
   refine Z3 O<|Gp O (λab=>?_) (λab=>?_)
   .have hmd:∃md,md=(lo+hi+1)/2:=⟨_,O⟩;obtain⟨md,hmd⟩:=hmd;have J:=eI b md XX XX;have hml:(ae (b*md)).length<=1000000:=by
     have h2:(ae (b*md)).length<=(ae b).length+1:=by
      refine aY.2 ?_;have h1:=dV b;rw[Vc];exact Uq ((Nat.mul_lt_mul_right XX).2 h1) (US _ XX)
     omega
    have hsm:=iv (b*md) r2 XX XX;refine TM<|Z4 O<|Rs O (XJ.cast (v':= pIi (md:Int)) (dw O O XZ) (ah (λi=>pIi i) (by rw[hmd,show(lo:Int)+hi+1=((lo+hi+1:Nat):Int) by omega];exact xz (b:=2) XX))) ?_;refine A1 O<|Z3 O<|Rs O (aa call286 J O)<|A1 O<|Rs O (aa call237 hsm O)<|A1 O<|Gp O (λA=>?_) (λA=>?_)
    .have hle:b*md<=r2:=by rcases We r2 (b*md)with e|e;exact absurd A (by rw[lx e];decide);exact e
     have U:md<=r2/b:=(WK hy).2 (by rw[U8];exact hle);exact Z2 O<|⟨(md,hi),TO (aS O) (aO O) O O,⟨U,k2,k3⟩,XX⟩
    have hgt:r2<b*md:=by rcases We r2 (b*md)with e|e;exact e;exact absurd (show yw (b*md) r2<=0 by unfold yw;split;decide;split;omega;decide) A
    have hgt2:r2/b<md:=(WJ hy).2 (by rw[U8];exact hgt);exact Z3 O<|⟨(lo,md-1),TO ⟨O,O,O,O,O,O,O,O,ah (λi:Int=>V.pv (PV.int .i64 i)) (show(md:Int)-1=((md-1:Nat):Int) by omega),X5⟩ (aO O) O O,⟨k1,XX,XX⟩,XX⟩
   refine Gx O ?_;have j:lo=r2/b:=XX;rw[<-j]at M hdl;have G:r2%b=r2-b*lo:=by rw[j];have:=Xl r2 b;omega
   have H:=hQ.ok.set (k:=i-1) hdl;refine Z3 O<|Rs O (aj (i-1) underlying22 sz3 O O O XX hia)<|A1 O<|Z2 O<|Gp O (λL=>?_) (λL=>?_)
   .have J:=eI b lo XX XX;have X:b*lo<=r2:=by rw[j];exact Nat.mul_div_le r2 b
    have Y:0<r2:=by rcases Ve r2 with e|e;rw[e,Nat.zero_div]at j;omega;exact e
    have hmi:=ji r2 (b*lo) XX X Y;refine Z4 O<|Rs O (aa call286 J O)<|RL.call O (gZ call238 hmi O ?_);rintro _ ⟨ov,v1,v2,v3,rfl⟩;exact A1 O<|Rs O (aa call176 (CC (v:=r2%b) ov O XX v1 (by rw[v3,G])) O)<|Rs O (iR underlying124 O O ⟨_,underlying22,O⟩ O O)<|A1 O<|Z3 O<|⟨(i-1,r2%b,q.set (i-1) lo),TO ⟨O,O,O,O,O,O,ah (λi:Int=>V.pv (PV.int .i64 i)) (show(i:Int)-1-1=((i-1:Nat):Int)-1 by omega),X5⟩ ⟨O,O,O,O,ah (λc=>UF (Ob.cells 3 c)) (by rw[Uv,gK]),X5⟩ O O,⟨XX,by rw[Ut];exact P,H,Vi _ hy,M⟩,XX⟩
   have hl0:lo=0:=XX;have Z:r2=r2%b:=by rw[G,hl0];simp
   exact TM<|Z3 O<|⟨(i-1,r2%b,q.set (i-1) lo),TO ⟨O,O,O,O,ah (λn:Nat=>V.pv (pli (ae n))) Z,O,ah (λi:Int=>V.pv (PV.int .i64 i)) (show(i:Int)-1-1=((i-1:Nat):Int)-1 by omega),X5⟩ ⟨O,O,O,O,ah (λc=>UF (Ob.cells 3 c)) (by rw[Uv,gK]),X5⟩ O O,⟨XX,by rw[Ut];exact P,H,Vi _ hy,M⟩,XX⟩
  have hd0:r2/b=0:=WU (by rcases We r2 b with e|e;exact e;exact absurd (nY.2 e) XX);obtain⟨lo0,hlo0⟩:∃z:Nat,z=0:=⟨_,O⟩;obtain⟨hi0,hhi0⟩:∃z:Nat,z=0:=⟨_,O⟩;have g1:lo0<=r2/b:=XX;have g2:r2/b<=hi0:=XX;have g3:hi0<=999999999:=XX;refine TM<|Gz O (st:=λd:Nat×Nat=>([(2,UG),(3,UG),(4,UG),(5,UG),(6,UG),(7,UG),(8,UG),(9,UF (pIi (d.1:Int))),(10,UF (pIi (d.2:Int)))],[(0,UG),(1,UG),(2,UG),(3,UG),(4,UG)])) 7
   (I:=λd=>d.1<=r2/b/\r2/b<=d.2/\d.2<=999999999) (μ:=λd=>d.2-d.1) (x0:=(lo0,hi0)) (TO ⟨O,O,O,O,O,O,O,by first|rfl|(rw[hlo0];rfl),by first|rfl|(rw[hhi0];rfl),X5⟩ (aO O) O O) (⟨g1,g2,g3⟩) ?_
  rintro⟨lo,hi⟩ ⟨k1,k2,k3⟩;try simp only
  refine Z3 O<|Gp O (λab=>?_) (λab=>?_)
  .have hmd:∃md,md=(lo+hi+1)/2:=⟨_,O⟩;obtain⟨md,hmd⟩:=hmd;have J:=eI b md XX XX;have hml:(ae (b*md)).length<=1000000:=by
    have h2:(ae (b*md)).length<=(ae b).length+1:=by
     refine aY.2 ?_;have h1:=dV b;rw[Vc];exact Uq ((Nat.mul_lt_mul_right XX).2 h1) (US _ XX)
    omega
   have hsm:=iv (b*md) r2 XX XX;refine TM<|Z4 O<|Rs O (XJ.cast (v':= pIi (md:Int)) (dw O O XZ) (ah (λi=>pIi i) (by rw[hmd,show(lo:Int)+hi+1=((lo+hi+1:Nat):Int) by omega];exact xz (b:=2) XX))) ?_;refine A1 O<|Z3 O<|Rs O (aa call286 J O)<|A1 O<|Rs O (aa call237 hsm O)<|A1 O<|Gp O (λA=>?_) (λA=>?_)
   .have hle:b*md<=r2:=by rcases We r2 (b*md)with e|e;exact absurd A (by rw[lx e];decide);exact e
    have U:md<=r2/b:=(WK hy).2 (by rw[U8];exact hle);exact Z2 O<|⟨(md,hi),TO (aS O) (aO O) O O,⟨U,k2,k3⟩,XX⟩
   have hgt:r2<b*md:=by rcases We r2 (b*md)with e|e;exact e;exact absurd (show yw (b*md) r2<=0 by unfold yw;split;decide;split;omega;decide) A
   have hgt2:r2/b<md:=(WJ hy).2 (by rw[U8];exact hgt);exact Z3 O<|⟨(lo,md-1),TO ⟨O,O,O,O,O,O,O,O,ah (λi:Int=>V.pv (PV.int .i64 i)) (show(md:Int)-1=((md-1:Nat):Int) by omega),X5⟩ (aO O) O O,⟨k1,XX,XX⟩,XX⟩
  refine Gx O ?_;have j:lo=r2/b:=XX;rw[<-j]at M hdl;have G:r2%b=r2-b*lo:=by rw[j];have:=Xl r2 b;omega
  have H:=hQ.ok.set (k:=i-1) hdl;refine Z3 O<|Rs O (aj (i-1) underlying22 sz3 O O O XX hia)<|A1 O<|Z2 O<|Gp O (λL=>?_) (λL=>?_)
  .have J:=eI b lo XX XX;have X:b*lo<=r2:=by rw[j];exact Nat.mul_div_le r2 b
   have Y:0<r2:=by rcases Ve r2 with e|e;rw[e,Nat.zero_div]at j;omega;exact e
   have hmi:=ji r2 (b*lo) XX X Y;refine Z4 O<|Rs O (aa call286 J O)<|RL.call O (gZ call238 hmi O ?_);rintro _ ⟨ov,v1,v2,v3,rfl⟩;exact A1 O<|Rs O (aa call176 (CC (v:=r2%b) ov O XX v1 (by rw[v3,G])) O)<|Rs O (iR underlying124 O O ⟨_,underlying22,O⟩ O O)<|A1 O<|Z3 O<|⟨(i-1,r2%b,q.set (i-1) lo),TO ⟨O,O,O,O,O,O,ah (λi:Int=>V.pv (PV.int .i64 i)) (show(i:Int)-1-1=((i-1:Nat):Int)-1 by omega),X5⟩ ⟨O,O,O,O,ah (λc=>UF (Ob.cells 3 c)) (by rw[Uv,gK]),X5⟩ O O,⟨XX,by rw[Ut];exact P,H,Vi _ hy,M⟩,XX⟩
  have hl0:lo=0:=XX;have Z:r2=r2%b:=by rw[G,hl0];simp
  exact TM<|Z3 O<|⟨(i-1,r2%b,q.set (i-1) lo),TO ⟨O,O,O,O,ah (λn:Nat=>V.pv (pli (ae n))) Z,O,ah (λi:Int=>V.pv (PV.int .i64 i)) (show(i:Int)-1-1=((i-1:Nat):Int)-1 by omega),X5⟩ ⟨O,O,O,O,ah (λc=>UF (Ob.cells 3 c)) (by rw[Uv,gK]),X5⟩ O O,⟨XX,by rw[Ut];exact P,H,Vi _ hy,M⟩,XX⟩
 refine Gx O ?_;obtain rfl:i=0:=XX;obtain⟨hvq,hvr⟩:=Lx hQ;have P:=hQ.len;have htq:=cO (neg:=nx !=ny) q P XX hQ.ok hvq;have hlr:(ae r).length<=(ae b).length:=cA (Xc hQ.rlt);have htr:=cO (neg:=nx) (ae r) O XX (aZ r) ((aI r).trans hvr);rw[hdv]at htq;rw[hmo]at htr;refine TN (TR 4 O O)<|UB 15 O<|Dr 7 O<|Ds [] O (λτ h=>aa call176 htq (h.aE O)) O XY<|Dr 4 O<|Ds [] O (λτ h=>aa call176 htr (h.aE O)) O XY<|Dr 2 O ?_;refine⟨XY,?_⟩;exact Gt O<|⟨_,_,O,O,⟨au ⟨_,underlying124,O⟩ nJ O O O,au ⟨_,underlying124,O⟩ nJ O O O,X5⟩,O⟩
theorem xx(x y:Int)(j:(ae x.natAbs).length<=1000000)(d:(ae y.natAbs).length<=100000)(z:y≠0):FnP prog 234 [lJ x,lJ y] (· = .tup [lJ (x.tdiv y),lJ (x.tmod y)]):=by grind[AF,Q8,Pj]
end
section
theorem JS(a:Nat):lJ (a:Int)= .agg [.bool WA,pli (ae a)]:=by grind
theorem Mh(nx ny:Bool)(a b:Nat)(G:(ae a).length<=100000)(z:(ae b).length<=100000):FnP prog 172 [.agg [.bool nx,pli (ae a)],.agg [.bool ny,pli (ae b)]] (· = .agg [.bool WA,pli (ae (Nat.gcd a b))]):=by
 refine FnP.ofC func172 O ntmps172 X2 λ_ _ _ _=>?_
 refine Z3 O<|Z4 O<|Gz O (st:=λX6:Nat×Nat=>([(2,UG),(3,UG),(4,UG)],[(0,UF (.mix 124 [.pv (.bool WA),.pv (pli (ae X6.1))])),(1,UF (.mix 124 [.pv (.bool WA),.pv (pli (ae X6.2))])),(2,UG)])) 3
  (I:=λX6=>Nat.gcd X6.1 X6.2=Nat.gcd a b/\(ae X6.1).length<=100000/\(ae X6.2).length<=100000) (μ:=λX6=>X6.2) (x0:=(a,b)) (TO (aS O) (aO O) O O) (⟨O,G,z⟩) ?_
 rintro⟨x,y⟩ ⟨hg,hxl,hyl2⟩;try simp only at hg hxl hyl2 ⊢
 refine Z4 O<|Gp O (λj=>?_) (λj=>?_)
 .have d:0<y:=nN XX;have A:=AF WA WA x y XX hyl2 d;rw[show sgn (WA !=WA) (x/y)=((x/y:Nat):Int)from O,show sgn WA (x%y)=((x%y:Nat):Int)from O,JS,JS]at A;refine TM<|Z2 O<|Rs O (aa call234 A O)<|Ar 7 O<|UB 4 O<|Dr 4 O ?_;refine⟨XY,?_⟩;exact⟨(y,x%y),TO (aS O) (aO O) O O,⟨by rw[<-hg];exact mP x y,hyl2,Hy d hyl2⟩,Vi _ d⟩
 refine Gx O<|Z2 O<|Gt O ?_;have d:y=0:=bI.1 XX;exact⟨_,_,O,O,⟨au ⟨_,underlying124,O⟩ nJ O O O,X5⟩,by rw[<-hg,d,Nat.gcd_zero_right];rfl⟩
theorem xO(x y:Int)(j:(ae x.natAbs).length<=100000)(d:(ae y.natAbs).length<=100000):FnP prog 172 [lJ x,lJ y] (· =lJ (Int.gcd x y:Int)):=by
 have h:=Mh (decide (x<0)) (decide (y<0)) x.natAbs y.natAbs j d;rw[JS];exact h
theorem Qz(z:Int):(!decide (z<0)&&decide (((ae z.natAbs).length:Int)>0))=decide (-z<0):=by
 have h:=zd (!decide (z<0)) z.natAbs;rw[h]
 congr 1
 by_cases hz:z<0
 .grind
 grind[sgn]
theorem wD(z:Int):FnP prog 235 [lJ z] (· =lJ (-z)):=by
 refine FnP.ofC func235 O ntmps235 X2 λ_ _ _ _=>?_
 have d:=Qz z;have j:(-z).natAbs=z.natAbs:=Int.natAbs_neg z;refine Z2 O<|Z4 O ?_;apply TY 5 6 11 [7,8,9,10] O X8
 .intro hb3;exact Ar 5 O<|TQ X7 O O O
 .intro hb3;exact Ar 5 O<|TQ X7 O O O
 exact Y2 O<|Z2 O<|Gt O<|⟨_,_,O,O,⟨au ⟨_,underlying124,O⟩ nJ O O O,X5⟩,by show _=PV.agg [.bool (decide (-z<0)),pli (ae (-z).natAbs)];rw[j,<-d];rfl⟩
def lK(n:Nat):Nat:=(Lib.decDigits n).length
theorem ga(h:10<=n):lK n=lK (n/10)+1:=by
 rw[lK,lK,Lib.decDigits,dif_neg XX];simp
theorem cS(h:n<10):lK n=1:=by rw[lK,Lib.decDigits,dif_pos h];rfl
theorem Bt:∀k,10^k<=n->lK n=lK (n/10^k)+k
 |0,_=>by simp
 | k+1,h=>by
   rw[Vc]at h;have h1:10^k<=n:=AI (Nat.le_mul_of_pos_right _ XZ) h;have d:10<=n/10^k:=(WK (Nat.pow_pos XZ)).2 (by rw[U8];exact h);rw[Bt k h1,ga d,Nat.div_div_eq_div_mul,Vc];omega
def ndz(m:Nat):Nat:=if m=0 then 0 else lK m
theorem uK(d:0<k)(h:n<10^k):lK n<=k:=by
 induction k generalizing n with
 |zero=>omega
 | succ k ih=>
   by_cases h2:n<10
   .rw[cS h2];omega
   grind[ga,Ve,WJ,Vc]
theorem MT{m:Nat}(h:0<m):ndz m=ndz (m/10)+1:=by grind[ndz,cS,ga]
theorem Ld(h:n≠0):lK n=9*((ae n).length-1)+ndz (lim (ae n) ((ae n).length-1)):=by
 induction n using Nat.strongRecOn with
 | ind n ih=>
   by_cases h2:n/1000000000=0
   .have:n<1000000000:=XX;rw[eJ h this];simp[ndz,h,lim]
   have e:=ih _ XX h2;have j:0<(ae (n/1000000000)).length:=WN λe=>h2 (bI.1 e)
   have d:10^9<=n:=XX;rw[Bt 9 d,show(10:Nat)^9=1000000000 from O,e,c8 h,IN];obtain⟨k,hk⟩:∃k,(ae (n/1000000000)).length=k+1:=⟨_,(Nat.succ_pred_eq_of_pos j).symm⟩;rw[hk];simp only[Nat.add_sub_cancel,lim,List.getD_cons_succ];omega
theorem SV{b:Nat}(h:a<=9223372036854775807):IntKind.i64.wrap ((a:Int).tdiv (b:Int))=((a/b:Nat):Int):=xz h
theorem vS(z:Int)(X:(ae z.natAbs).length<=1000000):FnP prog 239 [lJ z] (· = .int .i64 (lK z.natAbs:Int)):=by
 refine FnP.of func239 O ntmps239 X2 λ_ _ _ _=>?_
 obtain⟨n,hn⟩:∃n,n=z.natAbs:=⟨_,O⟩;refine Z2 O<|Z4 O<|Gc O (λA=>?_) (λA=>?_)
 .refine Z1 O<|Gt O ?_;have P:=bI.1 (show(ae z.natAbs).length=0 by have:=rD A;omega);exact⟨_,_,O,O,by rw[P,cS XZ];rfl⟩
 have hl0:0<(ae z.natAbs).length:=by have:=lq A;omega
 have J:z.natAbs≠0:=λe=>by rw[e,aX]at hl0;simp at hl0
 have d:(ae z.natAbs).length-1<(ae z.natAbs).length:=XX;have V:=cC d;have L:=dh d;have M:=Ld J;have G:=cR (aZ z.natAbs) ((ae z.natAbs).length-1);have T:ndz (lim (ae z.natAbs) ((ae z.natAbs).length-1))<=9:=by
  unfold ndz;split
  .decide
  rcases We 9 (lK (lim (ae z.natAbs) ((ae z.natAbs).length-1)))with h|h
  .exact absurd (uK (k:=9) XZ G) XX
  exact h
 refine TM<|Gr O<|Ar 6 O ?_;generalize lim (ae z.natAbs) ((ae z.natAbs).length-1)=t at*;refine Gr O<|Ar 6 O<|Rs O (ag ((ae z.natAbs).length-1) underlying22 sz3 O O XX d L) ?_;first|refine A2 O X0 ?_|refine A1 O ?_
 refine A1 O<|Gl O (st:=λX6:Nat×Nat=>mkS [(3,pIi (X6.1:Int)),(4,pIi (X6.2:Int))] [] 1)
  (I:=λX6=>X6.1+ndz X6.2=lK z.natAbs/\X6.2<1000000000) (μ:=λX6=>X6.2) (x0:=(9*((ae z.natAbs).length-1),t)) (TO ⟨ah (λi=>pIi i) XX,O,X5⟩ trivial O O) (⟨M.symm,G⟩) ?_
 rintro⟨c,m⟩ ⟨hc,hm⟩;try simp only at hc hm ⊢
 refine Z2 O<|Gp O (λH=>?_) (λH=>?_)
 .refine TM<|Z3 O ?_;have j:0<m:=XX;have U:=MT j;exact Z1 O<|Rs O (XJ.cast (v':= pIi ((m/10:Nat):Int)) (dw O O XZ) (ah (λi=>pIi i) (SV (b:=10) XX)))<|A1 O<|⟨(c+1,m/10),TO (aS O) trivial O O,⟨by show c+1+ndz (m/10)=lK z.natAbs;omega,XX⟩,XX⟩
 refine Gx O<|Z2 O<|Gt O ?_;have j:m=0:=XX;rw[j]at hc;exact⟨_,_,O,O,ah (λn:Nat=>PV.int .i64 n) (by rw[<-hc];rfl)⟩
end
section
open Mk
def leD:Nat->Nat->List UInt8
 |0,_=>[]
 |k+1,n=>UInt8.ofNat (48+n%10)::leD k (n/10)
theorem leD_len:∀(k n:Nat),(leD k n).length=k
 |0,_=>rfl
 |k+1,n=>by simp[leD,leD_len k]
attribute [simp] leD_len
theorem Ao:∀(a b n:Nat),leD (a+b) n=leD a n++leD b (n/10^a)
 |0,b,n=>by simp[leD]
 | a+1,b,n=>by
   rw[show a+1+b=(a+b)+1 by omega,leD,leD,Ao a b,VI,Nat.div_div_eq_div_mul,Vc,U8 10]
theorem JZ:∀(k m n:Nat),k<=m->leD k (n%10^m)=leD k n
 |0,_,_,_=>rfl
 |k+1,0,_,h=>by omega
 | k+1,m+1,n,h=>by
   have e1:n%10^(m+1)%10=n%10:=Nat.mod_mod_of_dvd _ ⟨10^m,by rw[Vc,U8]⟩;have d:n%10^(m+1)/10=n/10%10^m:=by rw[Vc,U8];exact Nat.mod_mul_right_div_self n 10 (10^m)
   rw[leD,leD,e1,d,JZ k m _ XX]
theorem BP:∀k,leD k 0=List.replicate k 48
 |0=>rfl
 |k+1=>by rw[leD,Nat.zero_mod,Nat.zero_div,BP k];rfl
theorem Po(d:lK n<=k):leD k n=(Lib.decDigits n).reverse++List.replicate (k-lK n) 48:=by
 induction n using Nat.strongRecOn generalizing k with
 | ind n ih=>
   by_cases h:n<10
   .obtain⟨j,rfl⟩:∃j,k=j+1:=⟨k-1,by rw[cS h]at d;omega⟩;rw[cS h,leD,Wx h,WU h,BP,Lib.decDigits,dif_pos h];rfl
   rw[ga XX]at d;obtain⟨j,rfl⟩:∃j,k=j+1:=⟨k-1,XX⟩;have z:Lib.decDigits n=Lib.decDigits (n/10)++[UInt8.ofNat (48+n%10)]:=by
    conv=>lhs;rw[Lib.decDigits]
    rw[dif_neg h]
   rw[leD,ih (n/10) XX XX,ga (n:=n) XX,z,List.reverse_append];simp
theorem Lh(h:n≠0):(Lib.decDigits n).reverse.getD (lK n-1) 0≠48:=by
 induction n using Nat.strongRecOn with
 | ind n ih=>
   by_cases h2:n<10
   .rw[cS h2,Lib.decDigits,dif_pos h2];simp only[Nat.sub_self,List.reverse_singleton,List.getD_cons_zero];intro e;have:=ah UInt8.toNat e;simp at this;omega
   have:=ih (n/10) XX XX;rw[ga XX,Lib.decDigits,dif_neg h2,List.reverse_append];have d:0<lK (n/10):=by grind[cS,ga]
   obtain⟨j,hj⟩:∃j,lK (n/10)=j+1:=⟨_,(Nat.succ_pred_eq_of_pos d).symm⟩;rw[hj]at this ⊢;simpa using this
theorem EG(n:Nat):lK n<=9*(ae n).length+1:=by
 by_cases h:n=0
 .grind[cS]
 have hl:=dV n;rw[show(1000000000:Nat)=10^9 from O,<-Nat.pow_mul]at hl;by_cases h0:(ae n).length=0
 .exact absurd (bI.1 h0) h
 have:=uK XX hl;omega
theorem yM(h:n≠0):lK n<=9*(ae n).length:=by
 have d:=dV n;rw[show(1000000000:Nat)=10^9 from O,<-Nat.pow_mul]at d;by_cases h0:(ae n).length=0
 .exact absurd (bI.1 h0) h
 exact uK XX d
theorem LL(n i:Nat):leD (9*(i+1)) n=leD (9*i) n++leD 9 (lim (ae n) i):=by
 rw[show 9*(i+1)=9*i+9 by omega,Ao,ml]
 congr 1
 rw[show(1000000000:Nat)=10^9 from O,<-Nat.pow_mul,JZ 9 9 _ (tJ _)]
theorem LU(k d:Nat):leD (k+1) d=leD k d++[UInt8.ofNat (48+d/10^k%10)]:=by
 rw[Ao k 1];rfl
structure Rev(E e:List UInt8)(i:Nat):Prop where
 len:e.length=E.length
 ile:2*i<=E.length+1
 at_:∀j,j<E.length->e.getD j 0=if j<i\/E.length-i<=j then E.getD (E.length-1-j) 0 else E.getD j 0
theorem rev_zero(E:List UInt8):Rev E E 0:=⟨O,XX,λj hj=>by rw[pF XX]⟩
theorem wx{l:List UInt8}{x:UInt8}(d:k<l.length):(l.set k x).getD i 0=if i=k then x else l.getD i 0:=by grind
theorem Cz(h:Rev E e i)(A:i<E.length-1-i):Rev E ((e.set i (e.getD (E.length-1-i) 0)).set (E.length-1-i) (e.getD i 0)) (i+1):=by
 have d:=h.len;refine⟨by simp[d],XX,λj hj=>?_⟩;have z:e.getD i 0=E.getD i 0:=by rw[h.at_ i XX,pF XX]
 have a2:e.getD (E.length-1-i) 0=E.getD (E.length-1-i) 0:=by rw[h.at_ _ XX,pF XX]
 rw[wx X3,wx XX,z,a2];by_cases h1:j=E.length-1-i
 .grind
 rw[pF h1];by_cases h2:j=i
 .grind
 rw[pF h2,h.at_ j hj];by_cases h3:j<i\/E.length-i<=j
 .rw[AT h3,AT XX]
 rw[pF h3,pF XX]
theorem Iu(h:Rev E e i)(I:E.length<=2*i+1):e=E.reverse:=by
 have d:=h.len;refine Vq (by simp[d]) λj h1 h2=>?_
 have z:j<E.length:=XX;have A:=h.at_ j z;rw[List.getElem_reverse];have G:e.getD j 0=e[j]:=by simp[List.getD,h1]
 have H:E.getD (E.length-1-j) 0=E[E.length-1-j]:=by simp[List.getD,show E.length-1-j<E.length by omega]
 rw[<-G,A,<-H];split
 .rfl
 .congr 1;omega
theorem Ad(l:List UInt8)(d:Nat)(j:d<10):aH l++[.int .u8 ((48:Int)+(d:Int))]=aH (l++[UInt8.ofNat (48+d)]):=by
 simp only[aH,UO,cd,Vn]
 congr 3
 have:(UInt8.ofNat (48+d)).toNat=48+d:=by simp;omega
 rw[this];rfl
theorem bytesP_len(l:List UInt8):(aH l).length=l.length:=by simp[aH]
attribute [simp] bytesP_len
theorem zy(l:List UInt8)(k:Nat):(aH l).take k=aH (l.take k):=by simp[aH,List.map_take]
theorem j1(l:List UInt8)(k:Nat)(x:UInt8):(aH l).set k (.int .u8 (x.toNat:Int))=aH (l.set k x):=by simp[aH,U9]
theorem iu{l:List UInt8}(h:k<l.length):(aH l)[k*1]? =UF (.int .u8 ((l.getD k 0).toNat:Int)):=by rw[qK h];simp[List.getD,h]
theorem T7(z:Int):Lib.itoa z=(if z<0 then [45]else [])++Lib.decDigits z.natAbs:=by
 unfold Lib.itoa;split
 .rfl
 grind
theorem mU:Lib.itoa 0=[48]:=by
 rw[T7,pF XZ,Int.natAbs_zero,Lib.decDigits,dif_pos XZ];rfl
theorem u8_48(x:UInt8):(((x.toNat:Nat):Int)==48)=VA↔x=48:=by
 rw[VK];constructor
 .intro h;exact Xm.1 (show x.toNat=(48:UInt8).toNat from Int.ofNat_inj.1 h)
 .intro h;rw[h];rfl
theorem oi(z:Int)(hl:(ae z.natAbs).length<=1000000):FnP prog 100 [lJ z] (· = .str ⟨(Lib.itoa z).toArray⟩):=by
 refine FnP.of func100 O ntmps100 X2 λ_ _ _ _=>?_
 obtain⟨n,hn⟩:∃n,n=z.natAbs:=⟨_,O⟩;refine Z2 O<|Z4 O<|Gc O (λU=>?_) (λU=>?_)
 .refine Z1 O<|Gt O ?_;have h0:=bI.1 (show(ae z.natAbs).length=0 by have:=rD U;omega);have hz:z=0:=XX;exact⟨_,_,O,O,by rw[hz,mU];rfl⟩
 have hl0:0<(ae z.natAbs).length:=by have:=lq U;omega
 have af:z.natAbs≠0:=λe=>by rw[e,aX]at hl0;simp at hl0
 refine TM<|Z1 O<|TN (TU 3 1 1 5 O O)<|Z1 O<|Gz O (st:=λX6:Nat×List UInt8=>([(1,UG),(3,UF (.gsl 1 1 X6.2.length)),(4,UF (pIi X6.1))],[(0,UG),(1,UF (.gro 5 (aH X6.2)))])) 2
  (I:=λX6=>X6.1<=(ae z.natAbs).length/\X6.2=leD (9*X6.1) z.natAbs) (μ:=λX6=>(ae z.natAbs).length-X6.1) (x0:=(0,[])) (TO (aS O) (aO O) O O) (⟨aJ _,O⟩) ?_
 rintro⟨i,l⟩ ⟨hi,hll⟩;try simp only at hi hll ⊢
 refine Gr O<|Ar 5 O<|Gp O (λhc17=>?_) (λhc17=>?_)
 .have hil:i<(ae z.natAbs).length:=XX;have hv:=cC hil;have hne:=dh hil;have hbd:=cR (aZ z.natAbs) i;have J:=LL z.natAbs i;have hlen:l.length=9*i:=by rw[hll,leD_len]
  rw[<-hll]at J;clear hll;refine TM ?_
  repeat apply TZ
  refine AW.block ?_;generalize lim (ae z.natAbs) i=d at*;refine Z4 O ?_;first|refine A2 O X0 ?_|refine A1 O ?_
  refine A1 O<|Z1 O<|Gz O (st:=λG:Nat×List UInt8=>([(1,UG),(3,UF (.gsl 1 1 G.2.length)),(4,UG),(5,UF (pIi ((d/10^G.1:Nat):Int))),(6,UF (pIi G.1))],[(0,UG),(1,UF (.gro 5 (aH G.2)))])) 2
   (I:=λG=>G.1<=9/\G.2=l++leD G.1 d) (μ:=λG=>9-G.1) (x0:=(0,l)) (TO ⟨O,O,O,ah (λn:Nat=>pIi n) X2,O,X5⟩ (aO O) O O) (⟨aJ _,by simp[leD]⟩) ?_
  rintro⟨k,m⟩ ⟨hk,hm⟩;try simp only at hk hm ⊢
  refine Z2 O<|Gp O (λhc26=>?_) (λhc26=>?_)
  .have hmlen:m.length=9*i+k:=by rw[hm];simp;omega
   have ag:=LU k d;have hq:d/10^k<=d:=XS _ _;have hq2:d/10^(k+1)=d/10^k/10:=by rw[Vc,Nat.div_div_eq_div_mul]
   have hs3:m++[UInt8.ofNat (48+d/10^k%10)]=l++leD (k+1) d:=by rw[ag,hm,WH]
   have al:d/10^k%10<10:=Vi _ XZ;have hbs:=Ad m (d/10^k%10) al;clear hm ag;refine TM ?_
   repeat apply TZ
   refine AW.block ?_;generalize d/10^k=c at*;refine Z2 O<|Rs O (XJ.cast (v':= pIi ((c%10:Nat):Int)) (fp O O XZ) O)<|A1 O<|Rs O (XJ.cast (v':=.pv (.int .u8 ((48:Int)+((c%10:Nat):Int)))) (jk underlying3 underlying5 O) (ah (λi=>V.pv (.int .u8 i)) (by show((48:Int)+((c%10:Nat):Int))%256=_;omega))) ?_;exact Y3 O<|Z1 O<|Rs O (XJ.cast (v':= pIi ((c/10:Nat):Int)) (dw O O XZ) (ah (λi=>pIi i) (SV (b:=10) XX)))<|A1 O<|Z3 O<|⟨(k+1,m++[UInt8.ofNat (48+c%10)]),TP [0,3] ⟨O,UI (b:=.gsl 3 1 (m.length+1)) O (ah (V.gsl 3 1) (c7 m _)),O,ah (λn:Nat=>pIi n) hq2.symm,O,X5⟩ ⟨O,ah (λc=>UF (Ob.gro 5 c)) hbs,X5⟩ O O XZ O,⟨XX,hs3⟩,XX⟩
  have hk9:k=9:=XX;rw[hk9,<-J]at hm;exact Gx O<|Z3 O<|⟨(i+1,m),TO (aS O) (aO O) O O,⟨XX,hm⟩,XX⟩
 have hie:i=(ae z.natAbs).length:=XX;rw[hie,Po (yM af)]at hll;have H:=Lh af;have am:(Lib.decDigits z.natAbs).reverse.length=lK z.natAbs:=by simp[lK]
 have hDp:0<lK z.natAbs:=by unfold lK;rw[Lib.decDigits];split<;>simp
 have aa:=T7 z;have hdl:=EG z.natAbs;have hD:∃D,D=(Lib.decDigits z.natAbs).reverse:=⟨_,O⟩;obtain⟨D,hD⟩:=hD;rw[<-hD]at hll H am;have hDr:Lib.decDigits z.natAbs=D.reverse:=by rw[hD,List.reverse_reverse]
 rw[hDr]at aa;clear hD hDr;rw[<-am]at H hDp;have hlD:l.take D.length=D:=by rw[hll];simp
 have hge:D.length<=l.length:=by rw[hll];simp
 have hlge:∀j,D.length<=j->j<l.length->l.getD j 0=48:=λj h1 h2=>by
  rw[hll]at h2 ⊢;simp at h2;simp only[List.getD,List.getElem?_append_right h1,Wr];rw[AT XX];rfl
 have hlt:l.getD (D.length-1) 0≠48:=by
  rw[hll];simp only[List.getD,List.getElem?_append_left (show D.length-1<D.length by omega)];simpa[List.getD]using H
 have hllen:l.length<=9000001:=by
  have:=ah List.length hll;simp at this;omega
 clear hll H;refine TN (St.HW 3 O O XX (pP (k:=0) XX))<|Gx O<|Gz O (st:=λP:Nat=>([(1,UG),(3,UF (.osl 1 1 P))],[(0,UG),(1,UG)])) 2
  (I:=λP=>D.length<=P/\P<=l.length) (μ:=λP=>P) (x0:=(l.length)) (TO (aS O) (aO O) O O) (⟨hge,tJ _⟩) ?_
 rintro k ⟨L,hk2⟩;have hkl:k-1<l.length:=XX;have hvk:=iu hkl;have h48:=u8_48 (l.getD (k-1) 0);have hgek:=hlge (k-1);have heq:k=D.length->l.getD (k-1) 0≠48:=λe=>by rw[e];exact hlt
 generalize l.getD (k-1) 0=ck at*;refine Z4 O<|Rs O (aj (k-1) underlying231 sz5 O O O XX XX) ?_;first|refine A2 O X0 ?_|refine A1 O ?_
 refine A1 O<|Gc O (λX=>?_) (λX=>?_)
 .have hk3:D.length<=k-1:=by have h1:=h48.1 X;rcases We (k-1) D.length with e|e;exact absurd h1 (heq XX);exact e
  exact TM<|Z4 O<|Rs O (fG (k-1) underlying231 sz5 O O O XX XX)<|A1 O<|⟨(k-1),TO (aS O) (aO O) O O,⟨hk3,XX⟩,XX⟩
 have hk3:k=D.length:=by
  apply Decidable.byContradiction;intro hne;have:=h48.2 (hgek XX hkl);rw[X]at this;cases this
 refine Gx O<|TN (St.QT (vs:=aH D) 1 k (by rfl) (by rw[zy,hk3,hlD])) ?_;rw[hk3];refine Z2 O<|Gc O (λY=>?_) (λY=>?_)
 .have hE:∃E,E=D++[45]:=⟨_,O⟩;obtain⟨E,hE⟩:=hE;have ab:Lib.itoa z=E.reverse:=by rw[aa,AT (by simpa using Y),hE];simp
  have hEl:E.length=D.length+1:=by rw[hE];simp
  refine Z2 O<|Rs O (sF 3 Rj O O X2 O O O O XX O)<|A1 O ?_;rw[show aH D++[PV.int .u8 45]=aH E by rw[hE];simp[aH],<-hEl];refine Gr O<|Ar 5 O<|Gl O (st:=λA:Nat×List UInt8=>mkS [(3,.osl 1 1 A.2.length),(7,pIi A.1),(8,pIi ((A.2.length:Int)-1-A.1))] [(1,.cells 5 (aH A.2))] 2)
   (I:=λA=>Rev E A.2 A.1) (μ:=λA=>A.2.length-A.1) (x0:=(0,E)) (TP [0,3] ⟨O,O,ah (λi=>pIi i) X2,X5⟩ (aP O) O O XZ O) (rev_zero E) ?_
  rintro⟨i,e⟩ hR;try simp only at hR ⊢
  refine Z3 O<|Gp O (λZ=>?_) (λZ=>?_)
  .have hel:=hR.len;have M:i<e.length:=XX;have L:e.length-1-i<e.length:=XX;have hvi:=iu M;have hvk:=iu L;have J:=Cz hR XX;rw[<-hel]at J;have T:((aH e).set (i*1) (.int .u8 ((e.getD (e.length-1-i) 0).toNat:Int))).set ((e.length-1-i)*1) (.int .u8 ((e.getD i 0).toNat:Int))=aH ((e.set i (e.getD (e.length-1-i) 0)).set (e.length-1-i) (e.getD i 0)):=by rw[Uv,Uv,j1,j1]
   have ac:((e.set i (e.getD (e.length-1-i) 0)).set (e.length-1-i) (e.getD i 0)).length=e.length:=X2;clear hR;refine TM ?_
   repeat apply TZ
   refine AW.block ?_;generalize (e.set i (e.getD (e.length-1-i) 0)).set (e.length-1-i) (e.getD i 0)=e2 at*;generalize e.getD (e.length-1-i) 0=ck at*;generalize e.getD i 0=ci at*;refine UB 16 O<|Dr 6 O<|Ds [_] O (λτ h=>aj (e.length-1-i) underlying231 sz5 (Ee h 0 O O) (Eo h 0 O O) (Ee h 1 O O) XX L) O XY ?_;first|refine D2 O O X0 ?_|refine D1 O ?_
   refine Dr 2 O<|Ds [_] O (λτ h=>aj i underlying231 sz5 (Ee h 0 O O) (Eo h 0 O O) (Ee h 1 O O) O M) O XY ?_;first|refine D2 O O X0 ?_|refine D1 O ?_
   refine Ds [_] O (λτ h=>aj i underlying231 sz5 (Ee h 0 O O) (Eo h 0 O O) (Ee h 1 O O) O M) O XY<|D1 O<|Ds [_] O (λτ h=>aj (e.length-1-i) underlying231 sz5 (Ee h 0 O O) (Eo h 0 O O) (Ee h 1 O O) XX L) O XY<|D1 O ?_;refine⟨XY,?_⟩;exact Gr O<|Ar 6 O<|⟨(i+1,e2),TO ⟨ah (V.osl 1 1) ac.symm,O,ah (λi:Int=>V.pv (PV.int .i64 i)) (show(e.length:Int)-1-i-1=(e2.length:Int)-1-((i+1:Nat):Int) by omega),X5⟩ ⟨ah (λc=>UF (Ob.cells 5 c)) T,X5⟩ O O,J,by show e2.length-(i+1)<e.length-i;omega⟩
  have hel:=hR.len;have ad:=Iu hR XX;refine Gx O<|Z1 O<|Rs O (HV e underlying231 underlying5 underlying9 (.inr ⟨_,_,_,_,O,O,(by rw[Uv];exact(aG X2).symm)⟩)) ?_;exact A1 O<|Gt O<|⟨_,_,O,O,by rw[ab,<-ad];rfl⟩
 have hE:∃E,E=D:=⟨_,O⟩;obtain⟨E,hE⟩:=hE;have ab:Lib.itoa z=E.reverse:=by rw[aa,pF (by simpa using Y),hE];simp
 have hEl:E.length<=D.length+1:=by rw[hE];omega
 rw[<-hE];refine TM<|Gr O<|Ar 5 O<|Gl O (st:=λA:Nat×List UInt8=>mkS [(3,.osl 1 1 A.2.length),(7,pIi A.1),(8,pIi ((A.2.length:Int)-1-A.1))] [(1,.cells 5 (aH A.2))] 2)
  (I:=λA=>Rev E A.2 A.1) (μ:=λA=>A.2.length-A.1) (x0:=(0,E)) (TO ⟨O,O,ah (λi=>pIi i) X2,X5⟩ (aO O) O O) (rev_zero E) ?_
 rintro⟨i,e⟩ hR;try simp only at hR ⊢
 refine Z3 O<|Gp O (λZ=>?_) (λZ=>?_)
 .have hel:=hR.len;have M:i<e.length:=XX;have L:e.length-1-i<e.length:=XX;have hvi:=iu M;have hvk:=iu L;have J:=Cz hR XX;rw[<-hel]at J;have T:((aH e).set (i*1) (.int .u8 ((e.getD (e.length-1-i) 0).toNat:Int))).set ((e.length-1-i)*1) (.int .u8 ((e.getD i 0).toNat:Int))=aH ((e.set i (e.getD (e.length-1-i) 0)).set (e.length-1-i) (e.getD i 0)):=by rw[Uv,Uv,j1,j1]
  have ac:((e.set i (e.getD (e.length-1-i) 0)).set (e.length-1-i) (e.getD i 0)).length=e.length:=X2;clear hR;refine TM ?_
  repeat apply TZ
  refine AW.block ?_;generalize (e.set i (e.getD (e.length-1-i) 0)).set (e.length-1-i) (e.getD i 0)=e2 at*;generalize e.getD (e.length-1-i) 0=ck at*;generalize e.getD i 0=ci at*;refine UB 16 O<|Dr 6 O<|Ds [_] O (λτ h=>aj (e.length-1-i) underlying231 sz5 (Ee h 0 O O) (Eo h 0 O O) (Ee h 1 O O) XX L) O XY ?_;first|refine D2 O O X0 ?_|refine D1 O ?_
  refine Dr 2 O<|Ds [_] O (λτ h=>aj i underlying231 sz5 (Ee h 0 O O) (Eo h 0 O O) (Ee h 1 O O) O M) O XY ?_;first|refine D2 O O X0 ?_|refine D1 O ?_
  refine Ds [_] O (λτ h=>aj i underlying231 sz5 (Ee h 0 O O) (Eo h 0 O O) (Ee h 1 O O) O M) O XY<|D1 O<|Ds [_] O (λτ h=>aj (e.length-1-i) underlying231 sz5 (Ee h 0 O O) (Eo h 0 O O) (Ee h 1 O O) XX L) O XY<|D1 O ?_;refine⟨XY,?_⟩;exact Gr O<|Ar 6 O<|⟨(i+1,e2),TO ⟨ah (V.osl 1 1) ac.symm,O,ah (λi:Int=>V.pv (PV.int .i64 i)) (show(e.length:Int)-1-i-1=(e2.length:Int)-1-((i+1:Nat):Int) by omega),X5⟩ ⟨ah (λc=>UF (Ob.cells 5 c)) T,X5⟩ O O,J,by show e2.length-(i+1)<e.length-i;omega⟩
 have hel:=hR.len;have ad:=Iu hR XX;refine Gx O<|Z1 O<|Rs O (HV e underlying231 underlying5 underlying9 (.inr ⟨_,_,_,_,O,O,(by rw[Uv];exact(aG X2).symm)⟩)) ?_;exact A1 O<|Gt O<|⟨_,_,O,O,by rw[ab,<-ad];rfl⟩
def sk(n:Nat):Bool:=decide (400<lK n)
theorem sv(z:Int)(j:(ae z.natAbs).length<=1000000):FnP prog 177 [lJ z] (· = .tup [.str (if sk z.natAbs=VA then⟨#[]⟩else⟨(Lib.itoa z).toArray⟩),.int .i64 (if sk z.natAbs=VA then 3 else 0)]):=by
 refine FnP.of func177 O ntmps177 X2 λ_ _ _ _=>?_
 refine Z3 O<|Z1 O<|Rs O (aa call239 (vS z j) O)<|A1 O<|Gp O (λd=>?_) (λd=>?_)
 .exact Z2 O<|Gt O<|⟨_,_,O,O,by rw[AT (by rw[sk];simp;omega),AT (by rw[sk];simp;omega)];rfl⟩
 exact TM<|Z1 O<|Rs O (aa call100 (oi z j) O)<|Y2 O<|Gt O<|⟨_,_,O,O,by rw[pF (by rw[sk];simp;omega),pF (by rw[sk];simp;omega)];rfl⟩
end
section
open Mk
theorem me(s:ByteArray):gp s=(decide (0<s.size)&&(((s.data.toList.getD 0 0).toNat:Int)==45)):=by
 rw[gp,Lib.hasPrefix,Lib.size_eq];cases s.data.toList with
 |nil=>rfl
 | cons a l=>
   have h:((a.toNat:Int)==45)=(a==45):=by
    rw[UH,VK,VK];constructor
    .intro h;exact Xm.1 (show a.toNat=(45:UInt8).toNat from Int.ofNat_inj.1 h)
    .intro h;rw[h];rfl
   simp only[List.getD_cons_zero,IN,h];rw[SR XX,WV];show((45:UInt8)==a&&List.isPrefixOf [] l)=_;simp[Bool.beq_comm]
theorem Ci(h:gp s=VA):s.extract 1 s.size=⟨(az s).toArray⟩/\0<s.size:=by
 have d:=h;rw[me,dO,OC]at d;refine⟨?_,d.1⟩;have e:az s=s.data.toList.drop 1:=by rw[az,Lib.trimPrefix];rw[gp]at h;rw[AT h];rfl
 have j:(s.extract 1 s.size).data.toList=s.data.toList.drop 1:=Lib.extract_to_end s 1;rw[e,<-j]
theorem C5(h:gp s=WA):s=⟨(az s).toArray⟩:=by
 have e:az s=s.data.toList:=by rw[az,Lib.trimPrefix];rw[gp]at h;rw[pF (by rw[h];decide)]
 rw[e]
def oI(x:ByteArray):Bool:=(((((x.size:Nat):Int)==0)||decide ((x.size:Int)>400))||((((x.data.toList.getD 0 0).toNat:Nat):Int)==48))
theorem sx(x:ByteArray):oI x=oP x:=by
 rw[oI,oP,mJ,Lib.size_eq]
 congr 2
 cases x.data.toList with
 |nil=>rfl
 |cons a l=>simp;omega
theorem SI{x:ByteArray}(h:((((x.size:Nat):Int)==0)||decide ((x.size:Int)>400))=WA):0<x.size:=by grind
theorem IM(D:List UInt8)(k:Nat)(h:k<(⟨D.toArray⟩:ByteArray).size):(((⟨D.toArray⟩:ByteArray)[k]'h).toNat:Int)=((D.getD k 0).toNat:Int):=by rw[<-fS _ k h]
theorem qY(s:ByteArray):FnP prog 171 [.str s] (· = .bool (aQ s)):=by
 refine FnP.of func171 O ntmps171 X2 λ_ _ _ _=>?_
 obtain⟨v,hv⟩:∃v,v=aQ s:=⟨_,O⟩;rw[<-hv];refine Z1 O<|Z2 O<|Gc O (λZ=>?_) (λZ=>?_)
 .exact Z1 O<|Gt O<|⟨_,_,O,O,ah PV.bool (hv.trans (qq Z)).symm⟩
 have hs:v=o0 (az s):=hv.trans (lr Z);clear hv;clear Z;have U:=me s;obtain⟨t,ht⟩:∃t:ByteArray,t=⟨(az s).toArray⟩:=⟨_,O⟩;have X:t.data.toList=az s:=by rw[ht]
 refine TM<|Z2 O<|Z4 O ?_;apply TY 4 11 15 [12,13,14] O X8
 .intro hb3;have Y:0<s.size:=by simpa using hb3
  exact A1 O<|Rg O (bz 0 underlying9 O O O Y)<|Rg O ((aD O O O).cast (v':=.pv (.bool ((((s.data.toList.getD 0 0).toNat:Nat):Int)==45))) (by rw[fS _ 0 Y]))<|A1 O<|TQ X7 O O O
 .intro hb3;exact Ar 4 O<|TQ X7 O O O
 refine Gc O (λH=>?_) (λH=>?_)
 .have hng:gp s=VA:=by rw[U];simpa using H
  obtain⟨hD,Y⟩:=Ci hng;refine Z1 O<|Rs O (XJ.cast (v':=.pv (.str t)) (dY (kl:=.i64) (kh:=.i64) (il:=1) (ih:=0) (UF _) UG 1 s.size underlying9 O (by rintro _ ⟨⟩;exact⟨O,O⟩) X2 X2 (λ_=>rfl) XX (tJ _)) (ah (λx=>V.pv (.str x)) (hD.trans ht.symm))) ?_;refine A1 O ?_;have J:=@uL (az s);have L:=@tT (az s);rw[<-ht,<-sx]at J L;clear hng H U;have ab:t.size=(az s).length:=by rw[Lib.size_eq,X]
  generalize az s=D at*;refine Z4 O ?_;apply TX 4 21 25 [22,23,24] O X8
  .intro hb3;exact Ar 4 O<|TQ X7 O O O
  .intro hb3;exact Ar 4 O<|TQ X7 O O O
  refine A1 O ?_;apply TX 4 26 30 [27,28,29] O X8
  .intro hb8;exact Ar 4 O<|TQ X7 O O O
  .intro hb8;have Y:=SI hb8;exact A1 O<|Rg O (bz 0 underlying9 O O O Y)<|Rg O ((aD O O O).cast (v':=.pv (.bool ((((t.data.toList.getD 0 0).toNat:Nat):Int)==48))) (by rw[fS _ 0 Y]))<|A1 O<|TQ X7 O O O
  refine Gc O (λz=>?_) (λz=>?_)
  .exact Z1 O<|Gt O<|⟨_,_,O,O,ah PV.bool (hs.trans (J (show oI t=VA from z))).symm⟩
  obtain⟨hg2,hD0,hD4⟩:=L (show oI t=WA from z);refine TM<|Z1 O<|Gz O (st:=λX6:Nat=>([(3,UG),(4,UF (pIi X6))],[])) 0
   (I:=λX6=>X6<=D.length/\∀j,j<X6->kj (D.getD j 0)=VA) (μ:=λX6=>D.length-X6) (x0:=(0)) (TO (aS O) trivial O O) (⟨aJ _,λj hj=>absurd hj (VV _)⟩) ?_
  rintro k ⟨hk,hall⟩;refine Z4 O<|Gp O (λT=>?_) (λT=>?_)
  .have hlt:k<D.length:=XX;have G:k<t.size:=XX;have aa:=fS t k G;have M:=FT hlt;have P:=Am hlt;have d:t[k]'G=D[k]:=by rw[<-aa,X];simp[List.getD,hlt]
   refine TM ?_
   repeat apply TZ
   refine AW.block ?_;generalize D[k]=c at M P d ⊢;refine Z2 O<|Rs O (XJ.cast (v':=.pv (.int .u8 c.toNat)) (bz k underlying9 O O O G) (by rw[d]))<|Y2 O ?_;apply TX 5 41 46 [42,43,44,45] O X8
   .intro hb4;exact Ar 5 O<|TQ X7 O O O
   .intro hb4;exact Y2 O<|Rg O (XJ.cast (v':=.pv (.int .u8 c.toNat)) (bz k underlying9 O O O G) (by rw[d]))<|Y2 O<|TQ X7 O O O
   refine Gc O (λA=>?_) (λA=>?_)
   .have hc:=M A;exact Z1 O<|Gt O<|⟨_,_,O,O,ah PV.bool (by rw[hs,hg2,hc])⟩
   have hc:=P A;exact TM<|Z3 O<|⟨(k+1),TO (aS O) trivial O O,⟨XX,λj hj=>by rcases Vu.1 hj with h|rfl;exact hall j h;exact hc⟩,XX⟩
  exact Gx O<|Z1 O<|Gt O<|⟨_,_,O,O,ah PV.bool (by rw[hs,hg2,Aj λj hj=>hall j XX])⟩
 have hng:gp s=WA:=by rw[U];simpa using H
 have ac:s=t:=(C5 hng).trans ht.symm;rw[ac];refine TM ?_;have J:=@uL (az s);have L:=@tT (az s);rw[<-ht,<-sx]at J L;clear hng H U;have ab:t.size=(az s).length:=by rw[Lib.size_eq,X]
 generalize az s=D at*;refine Z4 O ?_;apply TX 4 21 25 [22,23,24] O X8
 .intro hb3;exact Ar 4 O<|TQ X7 O O O
 .intro hb3;exact Ar 4 O<|TQ X7 O O O
 refine A1 O ?_;apply TX 4 26 30 [27,28,29] O X8
 .intro hb8;exact Ar 4 O<|TQ X7 O O O
 .intro hb8;have Y:=SI hb8;exact A1 O<|Rg O (bz 0 underlying9 O O O Y)<|Rg O ((aD O O O).cast (v':=.pv (.bool ((((t.data.toList.getD 0 0).toNat:Nat):Int)==48))) (by rw[fS _ 0 Y]))<|A1 O<|TQ X7 O O O
 refine Gc O (λz=>?_) (λz=>?_)
 .exact Z1 O<|Gt O<|⟨_,_,O,O,ah PV.bool (hs.trans (J (show oI t=VA from z))).symm⟩
 obtain⟨hg2,hD0,hD4⟩:=L (show oI t=WA from z);refine TM<|Z1 O<|Gz O (st:=λX6:Nat=>([(3,UG),(4,UF (pIi X6))],[])) 0
  (I:=λX6=>X6<=D.length/\∀j,j<X6->kj (D.getD j 0)=VA) (μ:=λX6=>D.length-X6) (x0:=(0)) (TO (aS O) trivial O O) (⟨aJ _,λj hj=>absurd hj (VV _)⟩) ?_
 rintro k ⟨hk,hall⟩;refine Z4 O<|Gp O (λT=>?_) (λT=>?_)
 .have hlt:k<D.length:=XX;have G:k<t.size:=XX;have aa:=fS t k G;have M:=FT hlt;have P:=Am hlt;have d:t[k]'G=D[k]:=by rw[<-aa,X];simp[List.getD,hlt]
  refine TM ?_
  repeat apply TZ
  refine AW.block ?_;generalize D[k]=c at M P d ⊢;refine Z2 O<|Rs O (XJ.cast (v':=.pv (.int .u8 c.toNat)) (bz k underlying9 O O O G) (by rw[d]))<|Y2 O ?_;apply TX 5 41 46 [42,43,44,45] O X8
  .intro hb4;exact Ar 5 O<|TQ X7 O O O
  .intro hb4;exact Y2 O<|Rg O (XJ.cast (v':=.pv (.int .u8 c.toNat)) (bz k underlying9 O O O G) (by rw[d]))<|Y2 O<|TQ X7 O O O
  refine Gc O (λA=>?_) (λA=>?_)
  .have hc:=M A;exact Z1 O<|Gt O<|⟨_,_,O,O,ah PV.bool (by rw[hs,hg2,hc])⟩
  have hc:=P A;exact TM<|Z3 O<|⟨(k+1),TO (aS O) trivial O O,⟨XX,λj hj=>by rcases Vu.1 hj with h|rfl;exact hall j h;exact hc⟩,XX⟩
 exact Gx O<|Z1 O<|Gt O<|⟨_,_,O,O,ah PV.bool (by rw[hs,hg2,Aj λj hj=>hall j XX])⟩
theorem EF(n:Int)(d: -9223372036854775808<=n)(j:n<=9223372036854775807):FnP prog 42 [.int .i64 n] (· = .str ⟨(Lib.itoa n).toArray⟩):=by
 refine FnP.of func42 O ntmps42 X2 λ_ _ _ _=>?_
 have z:(ae n.natAbs).length<=3:=aY.2 XX;exact Z1 O<|Z1 O<|Rs O (aa call99 (ve n d j) O)<|Rs O (aa call100 (oi n XX) O)<|A1 O<|Gt O<|⟨_,_,O,O,O⟩
theorem zE(n:Int)(d: -9223372036854775808<=n)(j:n<=9223372036854775807):FnP prog 12 [.int .i64 n] (· = .str ⟨(Lib.itoa n).toArray⟩):=by
 refine FnP.of func12 O ntmps12 X2 λ_ _ _ _=>?_
 exact Z1 O<|Z1 O<|Rs O (aa call42 (EF n d j) O)<|A1 O<|Gt O<|⟨_,_,O,O,O⟩
end
end Go.Proofs.YtameambcolibjaaGreatDoor
