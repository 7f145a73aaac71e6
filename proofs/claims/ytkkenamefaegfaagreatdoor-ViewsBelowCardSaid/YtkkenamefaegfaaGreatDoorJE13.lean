/- Lemmas. No condition. -/
import Derived.Lib.Join
import Derived.Test.YtkkenamefaegfaaGreatDoorJE12
set_option maxRecDepth 100000
set_option maxHeartbeats 4000000
open Go.RowKit Go.Proofs.Tryz
open Option renaming some→UF,none→UG
open Bool renaming true→VA,false→VC
namespace Go.Proofs.YtkkenamefaegfaaGreatDoor
variable{P:Program}{f:FuncId}{w:World}{n off b k:Nat}{ty:TypeId}{α:Type}
section
open Go.RowKit Mm Jn Go.Sort
theorem De(a:Int)(w:World):Calls prog 216 #[.int .i64 a] w λe w'=>e= .returned (.bool VC)/\w=w':=by
 have j:(a !=a)=VC:=Xn
 go_enter func216,ntmps216
 go_wp2
 go_ret
 exact⟨O,O⟩
theorem Gi(a b:Int)(w:World):Calls prog 150 #[.int .i64 a,.int .i64 b] w λe w'=>e= .returned (.int .i64 (rL a b))/\w=w':=by
 have q:=De
 go_enter func150,ntmps150
 go_wp2_with (go_at_call 216;refine(q _ _).mono ?_;rintro e w' ⟨rfl,rfl⟩)
 .have h1:a<b:=Xm
  go_ret
  exact⟨eW (by unfold rL;rw[By h1]),O⟩
 .have h1:¬a<b:=Xj;have j:b<a:=Xj
  go_ret
  exact⟨eW (by unfold rL;rw[sh h1,By j]),O⟩
 have h1:¬a<b:=Xj;have j:¬b<a:=Xj
 go_ret
 exact⟨eW (by unfold rL;rw[sh h1,sh j]),O⟩
theorem SY(s t:ByteArray):AB s t=vp s t:=by grind[AB,vp]
theorem J7(x y:Int)(b c:Nat)(w:World)(j:w.cell? ⟨b,0,UG⟩=UF (.int .i64 x))(q:w.cell? ⟨b,1,UG⟩=UF (.int .i64 y)):
  Calls prog 149 #[.slice (UF ⟨b,0,UG⟩) 2 c] w λe w'=>e= .returned (.int .i64 (orI [x,y]))/\w=w':=by
 go_enter func149,ntmps149
 go_wp2
 go_loop [8] (λi=>i= .int .i64 0\/(i= .int .i64 1/\x=0)\/(i= .int .i64 2/\x=0/\y=0)) (λi=>2-(intOf i).toNat)
 case atStart=>exact .inl O
 case round=>
  rcases hrel with rfl|⟨rfl,hx⟩|⟨rfl,hx,hy⟩
  .go_wp2
   .have h2:(x !=0)=VA:=Xm
    go_ret
    refine⟨eW ?_,O⟩;rw[Sn,By (by simpa using h2)]
   have h2:(x !=0)=VC:=Xm;refine⟨.inr (.inl ⟨by go_num,by simpa using h2⟩),by simp[intOf]⟩
  .go_wp2
   .have h2:(y !=0)=VA:=Xm
    go_ret
    refine⟨eW ?_,O⟩;rw[Sn,sh (by simp[hx])]
   have h2:(y !=0)=VC:=Xm;refine⟨.inr (.inr ⟨by go_num,hx,by simpa using h2⟩),by simp[intOf]⟩
  go_wp2
  go_ret
  refine⟨eW ?_,O⟩;subst hx hy;rfl
theorem sP{args:Array Value}{os:Array Obj}{v:Value}(h:Calls P f args (grow (w.drewN n) os) λe w'=>e= .returned v/\grow (w.drewN n) os=w'):
  Calls P f args (grow (w.drewN n) os) λe w''=>e= .returned v/\∃p:GrownBy,w''=grow (w.drewN p.n) p.os:=
 h.mono λ_ _ ⟨he,hq⟩=>⟨he,⟨n,os⟩,hq.symm⟩
theorem mP(w:World)(a1:Array Value)(ty:TypeId)(o2:Obj)(k:Nat)(n:Nat)(os:Array Obj):(grow (((w.alloc (.cells a1 ty)).alloc o2).drewN n) os).cell? ⟨w.heap.size,k,UG⟩=a1[k]? :=by
 rw[cell?_grow _ _ _ (by show w.heap.size<((w.alloc _).alloc _).heap.size;simp;omega)];have e:(((w.alloc (.cells a1 ty)).alloc o2).drewN n).heap[w.heap.size]? =UF (.cells a1 ty):=(Below.heap_alloc (w.alloc (.cells a1 ty)) o2 _ Xn).trans (World.alloc_heap_new w _);simp only[World.cell?,e];rfl
theorem j7(w:World)(o1:Obj)(a2:Array Value)(ty:TypeId)(k:Nat)(n:Nat)(os:Array Obj):(grow (((w.alloc o1).alloc (.cells a2 ty)).drewN n) os).cell? ⟨w.heap.size+1,k,UG⟩=a2[k]? :=by
 rw[cell?_grow _ _ _ (by show w.heap.size+1<((w.alloc _).alloc _).heap.size;simp)];have e:(((w.alloc o1).alloc (.cells a2 ty)).drewN n).heap[w.heap.size+1]? =UF (.cells a2 ty):=by
  have:=World.alloc_heap_new (w.alloc o1) (.cells a2 ty);rwa [World.size_alloc]at this
 simp only[World.cell?,e];rfl
theorem BD(w:World)(o1 o2:Obj)(n:Nat)(os:Array Obj):∃q os',grow (((w.alloc o1).alloc o2).drewN n) os=grow (w.drewN q) os':=
 ⟨n, #[o1]++(#[o2]++os),by
  rw[alloc_eq_grow,alloc_eq_grow];show grow (grow (grow (w.drewN n) #[o1]) #[o2]) os=_;rw[grow_grow,grow_grow]⟩
theorem Ij(W:World){N:Nat}(q:W.heap.size=N)(n:Nat)(os:Array Obj)(x y:Int)(c:Nat):Calls prog 149 #[.slice (UF ⟨N+os.size,0,UG⟩) 2 c] ((grow (W.drewN n) os).alloc (.cells #[.int .i64 x,.int .i64 y] 3)) λe w'=>
  e= .returned (.int .i64 (orI [x,y]))/\(grow (W.drewN n) os).alloc (.cells #[.int .i64 x,.int .i64 y] 3)=w':=by
 have j:(grow (W.drewN n) os).heap.size=N+os.size:=by simp[grow,World.drewN,q]
 have e:=World.alloc_heap_new (grow (W.drewN n) os) (.cells #[.int .i64 x,.int .i64 y] 3);rw[j]at e;refine J7 x y _ c _ ?_ ?_<;>simp only[World.cell?,e]<;>rfl
theorem Ci(p q:Par)(w:World):Calls prog 88 #[cT p,cT q] w λe w'=>e= .returned (.int .i64 (bZ p q))/\∃n os',w'=grow (w.drewN n) os':=by
 obtain⟨pf,pc⟩:=p;obtain⟨qf,qc⟩:=q;have u:=Gi;have hS:=C3;have z:=J7;have t:bZ ⟨pf,pc⟩ ⟨qf,qc⟩=orI [rL pf qf,AB pc qc]:=by rw[SY];rfl
 rw[t];clear t;simp only[cT]
 go_enter func88,ntmps88
 go_wp2
 have A:∀n os,_=UF _:=λn os=>(mP w #[.int .i64 pf,.string pc] 146 (.cells #[.int .i64 qf,.string qc] 146) 0 n os).trans O
 have B:∀n os,_=UF _:=λn os=>(mP w #[.int .i64 pf,.string pc] 146 (.cells #[.int .i64 qf,.string qc] 146) 1 n os).trans O
 have D:∀n os,_=UF _:=λn os=>(j7 w (.cells #[.int .i64 pf,.string pc] 146) #[.int .i64 qf,.string qc] 146 0 n os).trans O
 have E:∀n os,_=UF _:=λn os=>(j7 w (.cells #[.int .i64 pf,.string pc] 146) #[.int .i64 qf,.string qc] 146 1 n os).trans O
 have j:=BD w (.cells #[.int .i64 pf,.string pc] 146) (.cells #[.int .i64 qf,.string qc] 146);have r:((w.alloc (.cells #[.int .i64 pf,.string pc] 146)).alloc (.cells #[.int .i64 qf,.string qc] 146)).heap.size=w.heap.size+2:=Xn;generalize hW:(w.alloc (.cells #[.int .i64 pf,.string pc] 146)).alloc (.cells #[.int .i64 qf,.string qc] 146)=W at*;clear hW;have s:=Ij W r;refine iw (C:=λw'=>∃p:GrownBy,w'=grow (W.drewN p.n) p.os) 10 _ _ O O Xk Xk ⟨⟨1, #[]⟩,by rw[grow_empty];rfl⟩ ?_
 repeat (quiet_step (first|(go_at_call 150;exact sP (u _ _ _))|(go_at_call 94;exact sP (hS _ _ _))))
 refine wpQuiet_nil ?_;intro _ hw';obtain⟨⟨nq,osq⟩,hw''⟩:=hw';subst hw'';simp only[List.drop_succ_cons,List.drop_zero]
 go_wp2_with (go_at_call 149;refine(s _ _ _ _ _).mono ?_;rintro e w' ⟨rfl,rfl⟩)
 go_ret
 obtain⟨q,os',hq⟩:=j nq osq;exact⟨O,q,_,by rw[hq,alloc_eq_grow,grow_grow]⟩
theorem AQ{W:World}{B:Nat}{arr:Array Value}{cs:List Value}(h:∀j,W.cell? ⟨B,off+j,UG⟩=arr[off+j]?)(hc:cs=(arr.toList.drop off).take cs.length):∀j v,cs[j]? =UF v->W.cell? ⟨B,off+j,UG⟩=UF v:=by grind
theorem kH{ops:Array Oper}{C:World->Prop}{Q:Act->Prop}{rest:List Oper}{a:Act}{dst:Option Tmp}{T:TypeId}{x:Operand}{pos:String}{after:Array Edge}{us:List Value}(q:isRow P T)(r:bT P T us.length)
  (s:a.eval x= .pointer (UF ⟨b,off,UG⟩)) (hc:∀w,C w->∀j u,us[j]? =UF u->w.cell? ⟨b,off+j,UG⟩=UF u) (h:wpQuiet P ops C Q rest (a.put dst (.agg us.toArray))):wpQuiet P ops C Q (⟨dst,.load T x,ty,pos,after,UG⟩::rest) a:=by
 refine wpQuiet_step λK hK=>?_
 simp only[Region.wanted,WH];refine⟨_,λw hw=>?_,hK _ h⟩;obtain⟨d,hu,hd⟩:=q;have:=run_loadAt_mid (P:=P) w b off T us d (hc w hw) hu hd r;unfold Oper.quietAt;simp only[execOp,s,Sem.run_bind,this,Result.andThen_ok];exact⟨O,O⟩
theorem Gj(p q:PP)(w:World):Calls prog 91 #[fD p,fD q] w λe w'=>e= .returned (.int .i64 (cI p q))/\∃n os',w'=grow (w.drewN n) os':=by
 obtain⟨⟨af,ac⟩,⟨bf,bc⟩⟩:=p;obtain⟨⟨df,dc⟩,⟨ef,ec⟩⟩:=q;have z:=Ci;simp only[cT]at z;have s:=λw=>z ⟨af,ac⟩ ⟨df,dc⟩ w
 have t:=λw=>z ⟨bf,bc⟩ ⟨ef,ec⟩ w
 simp only at s t;clear z;have D:cI (⟨af,ac⟩,⟨bf,bc⟩) (⟨df,dc⟩,⟨ef,ec⟩)=orI [bZ ⟨af,ac⟩ ⟨df,dc⟩,bZ ⟨bf,bc⟩ ⟨ef,ec⟩]:=rfl;rw[D];clear D;generalize bZ ⟨af,ac⟩ ⟨df,dc⟩=u1 at*;generalize bZ ⟨bf,bc⟩ ⟨ef,ec⟩=u2 at*;simp only[fD]
 go_enter func91,ntmps91
 go_wp2
 have E:∀n os j u,[.int .i64 af,.string ac][j]? =UF u->(grow (((w.alloc (.cells #[.int .i64 af,.string ac,.int .i64 bf,.string bc] 198)).alloc (.cells #[.int .i64 df,.string dc,.int .i64 ef,.string ec] 198)).drewN n) os).cell? ⟨w.heap.size,0+j,UG⟩=UF u:=λn os=>AQ (λj=>mP w #[.int .i64 af,.string ac,.int .i64 bf,.string bc] 198 (.cells #[.int .i64 df,.string dc,.int .i64 ef,.string ec] 198) (0+j) n os) O
 have l1:∀n os j u,[.int .i64 bf,.string bc][j]? =UF u->(grow (((w.alloc (.cells #[.int .i64 af,.string ac,.int .i64 bf,.string bc] 198)).alloc (.cells #[.int .i64 df,.string dc,.int .i64 ef,.string ec] 198)).drewN n) os).cell? ⟨w.heap.size,2+j,UG⟩=UF u:=λn os=>AQ (λj=>mP w #[.int .i64 af,.string ac,.int .i64 bf,.string bc] 198 (.cells #[.int .i64 df,.string dc,.int .i64 ef,.string ec] 198) (2+j) n os) O
 have l2:∀n os j u,[.int .i64 df,.string dc][j]? =UF u->(grow (((w.alloc (.cells #[.int .i64 af,.string ac,.int .i64 bf,.string bc] 198)).alloc (.cells #[.int .i64 df,.string dc,.int .i64 ef,.string ec] 198)).drewN n) os).cell? ⟨w.heap.size+1,0+j,UG⟩=UF u:=λn os=>AQ (λj=>j7 w (.cells #[.int .i64 af,.string ac,.int .i64 bf,.string bc] 198) #[.int .i64 df,.string dc,.int .i64 ef,.string ec] 198 (0+j) n os) O
 have H:∀n os j u,[.int .i64 ef,.string ec][j]? =UF u->(grow (((w.alloc (.cells #[.int .i64 af,.string ac,.int .i64 bf,.string bc] 198)).alloc (.cells #[.int .i64 df,.string dc,.int .i64 ef,.string ec] 198)).drewN n) os).cell? ⟨w.heap.size+1,2+j,UG⟩=UF u:=λn os=>AQ (λj=>j7 w (.cells #[.int .i64 af,.string ac,.int .i64 bf,.string bc] 198) #[.int .i64 df,.string dc,.int .i64 ef,.string ec] 198 (2+j) n os) O
 have r:=BD w (.cells #[.int .i64 af,.string ac,.int .i64 bf,.string bc] 198) (.cells #[.int .i64 df,.string dc,.int .i64 ef,.string ec] 198);have A:((w.alloc (.cells #[.int .i64 af,.string ac,.int .i64 bf,.string bc] 198)).alloc (.cells #[.int .i64 df,.string dc,.int .i64 ef,.string ec] 198)).heap.size=w.heap.size+2:=Xn;generalize hW:(w.alloc (.cells #[.int .i64 af,.string ac,.int .i64 bf,.string bc] 198)).alloc (.cells #[.int .i64 df,.string dc,.int .i64 ef,.string ec] 198)=W at*;clear hW;have B:=Ij W A;refine iw (C:=λw'=>∃p:GrownBy,w'=grow (W.drewN p.n) p.os) 10 _ _ O O Xk Xk ⟨⟨1, #[]⟩,by rw[grow_empty];rfl⟩ ?_;simp only[WE,WI]
 quiet_step (fail)
 refine kH (us:=[.int .i64 af,.string ac]) ⟨_,underlying146,O⟩ kN (b:=w.heap.size) (off:=0) O (λw' hw j u hj=>by obtain⟨p,rfl⟩:=hw;exact E p.n p.os j u hj) ?_
 quiet_step (fail)
 refine kH (us:=[.int .i64 df,.string dc]) ⟨_,underlying146,O⟩ kN (b:=w.heap.size+1) (off:=0) O (λw' hw j u hj=>by obtain⟨p,rfl⟩:=hw;exact l2 p.n p.os j u hj) ?_
 quiet_step (first|(go_at_call 88;exact Calls.grown_of (s _)))
 quiet_step (fail)
 refine kH (us:=[.int .i64 bf,.string bc]) ⟨_,underlying146,O⟩ kN (b:=w.heap.size) (off:=2) O (λw' hw j u hj=>by obtain⟨p,rfl⟩:=hw;exact l1 p.n p.os j u hj) ?_
 quiet_step (fail)
 refine kH (us:=[.int .i64 ef,.string ec]) ⟨_,underlying146,O⟩ kN (b:=w.heap.size+1) (off:=2) O (λw' hw j u hj=>by obtain⟨p,rfl⟩:=hw;exact H p.n p.os j u hj) ?_
 quiet_step (first|(go_at_call 88;exact Calls.grown_of (t _)))
 refine wpQuiet_nil ?_;intro _ hw';obtain⟨⟨nq,osq⟩,hw''⟩:=hw';subst hw'';simp only[List.drop_succ_cons,List.drop_zero]
 go_wp2_with (go_at_call 149;refine(B _ _ _ _ _).mono ?_;rintro e w' ⟨rfl,rfl⟩)
 go_ret
 obtain⟨q,os',hq⟩:=r nq osq;exact⟨O,q,_,by rw[hq,alloc_eq_grow,grow_grow]⟩
end
section
open Mk Jn
theorem rW{R:Nat->Prop}:∀{l:List ByteArray}{us:List Value},RelPL w R (bW l) us->us=l.map Value.string
 |[],us,h=>by simpa[RelPL]using h
 | x::l,us,h=>by
   simp only[cu,RelPL,RelP]at h;obtain⟨u,vs,rfl,rfl,h2⟩:=h;rw[rW h2];rfl

theorem Oj(a b:List ByteArray):decide (uk a b<0)=bO a b:=by grind[uk,bO]
theorem nbeqJ{i:Nat}(h:¬i=k):Nat.beq i k=VC:=by grind[Nat.beq,cd]
theorem JV(f:α->List ByteArray):Go.Sort.SWO (Go.Proofs.ltOf λx y:α=>uk (f x) (f y)):=by
 have e:∀x y:α,Go.Proofs.ltOf (λx y:α=>uk (f x) (f y)) x y=bO (f x) (f y):=λx y=>by
  exact Oj (f x) (f y)
 refine⟨λx=>by rw[e];exact wU _,λx y z h1 h2=>?_,λx y z h1 h2=>?_⟩
 .rw[e]at *; exact jo h1 h2
 grind[bO,jo,mN]
theorem HB(f:α->List ByteArray)(x y:α):Go.Proofs.ltOf (λx y:α=>uk (f x) (f y)) x y=bO (f x) (f y):=by
 exact Oj (f x) (f y)
theorem tX(F arr:Array Value)(h:F.size<=arr.size):((Go.Sort.putCells id 0 F arr).toList.take F.size)=F.toList:=by
 apply UL
 .simp[Go.Sort.putCells];omega
 .intro i h1 h2;rw[Ua]at h2;simp only[List.getElem_take,Array.getElem_toList,Go.Sort.putCells,Array.getElem_mapIdx];rw[By ⟨aJ _,Xj⟩,Nat.sub_zero,getElem!_pos F i h2];rfl
end
section
section
variable {α:Type}
structure SrtW(enc:α->List Value)(b:Nat)(w w':World)(ds:List α):Prop where
 os:w'.os=w.os
 tape:w'.tape=w.tape
 output:w'.output=w.output
 size:w.heap.size<=w'.heap.size
 block:∀k,k<w.heap.size->k≠b->w'.heap[k]? =w.heap[k]?
 cells:∀(arr:Array Value)(ty:TypeId)(fz:Nat×Nat),w.heap[b]? =UF (.cells arr ty fz)->(ds.flatMap enc).length<=arr.size->∃arr':Array Value,w'.heap[b]? =UF (.cells arr' ty fz)/\arr'.size=arr.size/\arr'.toList.take (ds.flatMap enc).length=ds.flatMap enc
theorem yo[Inhabited α](q:0<k)(enc:α->List Value)(r:∀x,(enc x).length=k)(d:Array α):(Go.Sort.flatK enc k d).toList=d.toList.flatMap enc:=by
 have A:(d.toList.flatMap enc).length=d.toList.length*k:=bM enc k r d.toList;apply UL
 .simp_all
 .intro i h1 h2;rw[Ua,Go.Sort.size_flatK]at h1;have s:i/k<d.size:=Nat.div_lt_of_lt_mul (by rwa [Uo]);have t:i%k<k:=UH _ q;have u:=Go.Sort.get_flatK enc k d i h1;rw[getElem!_pos _ i (by rw[Go.Sort.size_flatK];exact h1)]at u;have j:=ib enc k r d.toList (i/k) (i%k) (by rw[Ua];exact s) t;rw[show i/k*k+i%k=i by rw[Uo];exact Wx i k,IS h2]at j;rw[Array.getElem_toList,u,getElem!_pos d (i/k) s];have z:i%k<(enc d[i/k]).length:=by rw[r];exact t
  change _=(enc d[i/k])[i%k]? at j
  rw[IS z]at j;rw[getElem!_pos (enc d[i/k]) (i%k) z];exact(VJ j).symm
theorem uv[Inhabited α](q:0<k)(enc:α->List Value)(t:∀x,(enc x).length=k)(w:World)(b n:Nat)(d:Array α)(os:Array Obj)(u:b<w.heap.size):SrtW enc b w (sortWorldK enc k w b 0 n d os) d.toList:=by
 have r:(sortWorldK enc k w b 0 n d os).heap=(w.heap.modify b (Go.Sort.onCells (Go.Sort.putCells id 0 (Go.Sort.flatK enc k d))))++os:=rfl;have s:=yo q enc t d;have z:(d.toList.flatMap enc).length=(Go.Sort.flatK enc k d).size:=by rw[<-s,Ua]
 refine⟨O,O,O,?_,λj hj hne=>?_,λarr ty fz h hle=>?_⟩
 .rw[r];simp
 .grind
 refine⟨Go.Sort.putCells id 0 (Go.Sort.flatK enc k d) arr,?_,by simp[Go.Sort.putCells],?_⟩
 .rw[r,Array.getElem?_append_left (by simpa using u),WN,By O,h];rfl
 grind[tX]
theorem qF[Inhabited α](q:0<k)(enc:α->List Value)(u:∀x,(enc x).length=k){arr:Array Value}{ds:List α}(s:w.heap[b]? =UF (.cells arr ty (0,0)))(h:arr.toList.take (ds.flatMap enc).length=ds.flatMap enc):Go.Sort.HoldsK enc k w b 0 ds.toArray:=by
 intro j hj;have t:=yo q enc u ds.toArray;have z:(ds.flatMap enc).length=(Go.Sort.flatK enc k ds.toArray).size:=by grind
 have r:(arr.toList.take (ds.flatMap enc).length)[j]? =(Go.Sort.flatK enc k ds.toArray).toList[j]? :=by rw[h,t]
 rw[TS,By Xj,WO,WO]at r;constructor
 .simp only[World.cell?,s,T8];rw[r,getElem!_pos _ j hj];exact Array.getElem?_eq_getElem _
 simp[World.frozen?,s]
theorem permIn_all{d d':Array α}[Inhabited α](j:d.size=n)(h:Go.Sort.PermIn 0 n d d'):d'.toList.Perm d.toList:=by
 obtain⟨h1,_,h2⟩:=h;have q:d'.extract 0 n=d':=by rw[<-j,<-h1];simp
 have r:d.extract 0 n=d:=by rw[<-j];simp
 rwa [q,r]at h2
theorem jP{d:Array α}[Inhabited α]{lt:α->α->Bool}(q:d.size=n)(h:Go.Sort.SortedIn lt 0 n d):d.toList.Pairwise λa b=>lt b a=VC:=by
 rw[Uj];intro i j h1 h2 hij;rw[Ua]at h1 h2;have:=h i j (aJ _) hij Xj;rwa [getElem!_pos d j h2,getElem!_pos d i h1]at this
theorem mK{β:Type}(enc:α->List Value)(V:∀x,(enc x).length=k)(kc:β->List PV)(W:∀x,(kc x).length=k)(X:0<k)(xf:α->β)(Srt:List α->Prop)(Y:Srt []){rest:List Value}{m:Gm}{R:RT w (fp m)}{l:List β}{A:Option Addr}{c:Nat}
  (j:HR ⟨P,m,w,fp m,R⟩ m R.p (aB [(big,.gro ty (l.flatMap kc))]) (avK 0) w) (h0:l.length=0->A=UG) (h1:0<l.length->∀b N,m big=UF (b,N)->A=UF ⟨b,0,UG⟩/\N=c*k)
  (Z:∀us,RelPL w R.p (l.flatMap kc) us->∃ds:List α,ds.map xf=l/\ds.flatMap enc=us)
  (J:∀w':World,(∀b,R.p b->w'.heap[b]? =w.heap[b]?)->∀ds:List α,RelPL w' R.p ((ds.map xf).flatMap kc) (ds.flatMap enc))
  (L:Calls P f (Value.slice UG 0 c::rest).toArray w λe w'=>e= .returned (.tuple #[])/\w'=w)
  (M:∀(b:Nat)(ds:List α)(arr:Array Value),ds.map xf=l->0<l.length->w.heap[b]? =UF (.cells arr ty (0,0))->arr.toList.take (ds.flatMap enc).length=ds.flatMap enc->b<w.heap.size->¬R.p b->
   Calls P f (Value.slice (UF ⟨b,0,UG⟩) l.length c::rest).toArray w λe w'=>e= .returned (.tuple #[])/\∃ds':List α,ds'.Perm ds/\Srt ds'/\SrtW enc b w w' ds'):
  Calls P f (Value.slice A l.length c::rest).toArray w λe w'=>∃u v ob' m' R',e= .returned u/\(∃(l':List β)(ds':List α),l'.Perm l/\ds'.map xf=l'/\Srt ds'/\v= .tup []/\ob'=aB [(big,.gro ty (l'.flatMap kc))])/\
   v.all (okR 1 0)=VA/\(∀i o,ob' i=UF o->okR 1 0 i=VA/\o.all (okR 1 0)=VA)/\HR ⟨P,m,w,fp m,R⟩ m' R' ob' (avK 0) w'/\Rel w' m' (avK 0) R' v u:=by
 have r:∀l:List β,aB [(big,Ob.gro ty (l.flatMap kc))] big=UF (.gro ty (l.flatMap kc)):=λ_=>rfl
 have t:∀{l:List β}{i:Nat},i≠big->aB [(big,Ob.gro ty (l.flatMap kc))] i=UG:=fun{l i} hi=>by simp only[aB];rw[nbeqJ hi];rfl
 have D:∀(l:List β) i o,aB [(big,Ob.gro ty (l.flatMap kc))] i=UF o->okR 1 0 i=VA/\o.all (okR 1 0)=VA:=λl i o h=>by
  by_cases hi:i=big
  .subst hi;rw[r]at h;cases h;exact⟨O,O⟩
  rw[t hi]at h;cases h
 by_cases hn:l=[]
 .subst hn;obtain rfl:=h0 O;refine L.mono ?_;rintro e w' ⟨rfl,rfl⟩;exact⟨.tuple #[],.tup [],_,m,R.p,O,⟨[],[],T3 _,O,Y,O,O⟩,O,D [],j,by simp only[Rel];exact⟨[],O,by simp only[RelL]⟩⟩
 have hpos:0<l.length:=Uq.2 hn;have s:∀l:List β,(l.flatMap kc).length=l.length*k:=bM kc k W;have aa:0<l.length*k:=W8 hpos X;have z:∀l':List β,l'.length=l.length->(Ob.gro ty (l'.flatMap kc)).real=VA:=λl' e=>cY (by intro h;have:=s l';rw[h,e]at this;simp at this;omega)
 have E:=j.dom big;rw[r]at E;obtain⟨⟨b,N⟩,hm⟩:∃x,m big=UF x:=T7.1 (E.trans (z l O));obtain⟨rfl,hN⟩:=h1 hpos b N hm;obtain⟨arr,hb,harr,hle,hrl⟩:=j.obj big _ b N (r l) hm;obtain⟨hbs,hbR,_⟩:=j.own big b N hm;obtain⟨ds,hds,hdu⟩:=Z _ hrl;have I:∀d:List α,(d.flatMap enc).length=d.length*k:=bM enc k V;have U:ds.length=l.length:=by rw[<-hds,TB]
 refine(M b ds arr hds hpos hb (by rw[show(ds.flatMap enc).length=(l.flatMap kc).length by rw[I,U,s]];exact hdu.symm) hbs hbR).mono ?_;rintro e w' ⟨rfl,ds',hp,hs,q⟩;have T:(ds'.map xf).Perm l:=hds▸hp.map xf;have B:(ds'.map xf).length=l.length:=T.length_eq;have H:ds'.length=l.length:=by rw[<-B,TB]
 obtain⟨arr',hb',hs',ht'⟩:=q.cells arr _ _ hb (by rw[I,H,<-s,harr];exact hle);refine⟨.tuple #[],.tup [],_,m,R.p,O,⟨ds'.map xf,ds',T,O,hs,O,O⟩,O,D _,?_,by simp only[Rel];exact⟨[],O,by simp only[RelL]⟩⟩;refine⟨λi=>?_,λi h=>?_,λi o b' N' h h'=>?_,j.inj,λi b' N' h=>?_,λb' h=>TM (j.rsz b' h) q.size,λb' h=>j.rfr b' h,j.r0,⟨q.os,q.tape,q.output,q.size,λk V hF=>q.block k V λe=>hF (e▸⟨big,N,hm⟩)⟩,j.j4,j.res⟩
 .by_cases hi:i=big
  .subst hi;rw[r,hm];exact(z _ B).symm
  rw[t hi];have:=j.dom i;rw[t hi]at this;exact this
 .by_cases hi:i=big
  .subst hi;have:=j.free _ h;rw[r]at this;cases this
  exact t hi
 .by_cases hi:i=big
  .subst hi;rw[r]at h;cases h;rw[hm]at h';cases h';refine⟨arr',hb',hs'.trans harr,by rw[s,B,<-s];exact hle,?_⟩;have e:((ds'.map xf).flatMap kc).length=(ds'.flatMap enc).length:=by rw[s,I,B,H]
   rw[e,ht'];exact J w' (λb2 h2=>q.block b2 (j.rsz b2 h2) λe=>hbR (e▸h2)) ds'
  rw[t hi]at h;cases h
 have:=j.own i b' N' h;exact⟨TM this.1 q.size,this.2⟩
end
end
end Go.Proofs.YtkkenamefaegfaaGreatDoor
namespace Go.Proofs
open Go.Proofs.YtkkenamefaegfaaGreatDoor
open Go.Shelf
def Tryz.sortPar_ren:Go.Shelf.Ren:=⟨fun|6=>147|15=>93|14=>215|28=>162|29=>163|20=>262|21=>263|22=>264|23=>265|24=>266|25=>267|26=>268|27=>269|46=>305|47=>220|48=>221|49=>306|50=>307|57=>341|n=>n,fun|22=>189|24=>146|25=>194|3=>3|39=>164|0=>0|53=>259|55=>261|4=>4|46=>253|45=>252|50=>218|5=>5|9=>9|66=>309|70=>313|76=>352|77=>353|n=>n,fun|n=>n⟩
theorem Tryz.sortPar:Go.Proofs.SlLaysF0.n6 prog Tryz.sortPar_ren:={
 mixed:=Xk
 f6:=⟨Tryz.f147.name,Xl,func147.trans (ah UF Xk)⟩
 f14:=⟨Tryz.f215.name,Xl,func215.trans (ah UF Xk)⟩
 f15:=func93.trans (ah UF Xk)
 f20:=⟨Tryz.f262.name,Xl,func262.trans (ah UF Xk)⟩
 f21:=⟨Tryz.f263.name,Xl,func263.trans (ah UF Xk)⟩
 f22:=⟨Tryz.f264.name,Xl,func264.trans (ah UF Xk)⟩
 f23:=⟨Tryz.f265.name,Xl,func265.trans (ah UF Xk)⟩
 f24:=⟨Tryz.f266.name,Xl,func266.trans (ah UF Xk)⟩
 f25:=⟨Tryz.f267.name,Xl,func267.trans (ah UF Xk)⟩
 f26:=⟨Tryz.f268.name,Xl,func268.trans (ah UF Xk)⟩
 f27:=⟨Tryz.f269.name,Xl,func269.trans (ah UF Xk)⟩
 f28:=func162.trans (ah UF Xk)
 f29:=func163.trans (ah UF Xk)
 f46:=⟨Tryz.f305.name,Xl,func305.trans (ah UF Xk)⟩
 f47:=func220.trans (ah UF Xk)
 f48:=func221.trans (ah UF Xk)
 f49:=⟨Tryz.f306.name,Xl,func306.trans (ah UF Xk)⟩
 f50:=⟨Tryz.f307.name,Xl,func307.trans (ah UF Xk)⟩
 f57:=⟨Tryz.f341.name,Xl,func341.trans (ah UF Xk)⟩
 t0:=underlying0
 a0:=isAgg0
 z0:=sizeOf0
 v0:=zeroValue0
 t3:=underlying3
 a3:=isAgg3
 z3:=sizeOf3
 v3:=zeroValue3
 t4:=underlying4
 a4:=isAgg4
 z4:=sizeOf4
 v4:=zeroValue4
 t5:=underlying5
 a5:=isAgg5
 z5:=sizeOf5
 v5:=zeroValue5
 t9:=underlying9
 a9:=isAgg9
 z9:=sizeOf9
 v9:=zeroValue9
 t22:=underlying189
 a22:=isAgg189
 z22:=sizeOf189
 v22:=zeroValue189
 t25:=underlying194
 a25:=isAgg194
 z25:=sizeOf194
 v25:=zeroValue194
 t39:=underlying164
 a39:=isAgg164
 z39:=sizeOf164
 v39:=zeroValue164
 t45:=underlying252
 a45:=isAgg252
 z45:=sizeOf252
 v45:=zeroValue252
 t46:=underlying253
 a46:=isAgg253
 z46:=sizeOf253
 v46:=zeroValue253
 t50:=underlying218
 a50:=isAgg218
 z50:=sizeOf218
 v50:=zeroValue218
 t53:=underlying259
 a53:=isAgg259
 z53:=sizeOf259
 v53:=zeroValue259
 t55:=underlying261
 a55:=isAgg261
 z55:=sizeOf261
 v55:=zeroValue261
 t66:=underlying309
 a66:=isAgg309
 z66:=sizeOf309
 v66:=zeroValue309
 t70:=underlying313
 a70:=isAgg313
 z70:=sizeOf313
 v70:=zeroValue313
 t76:=underlying352
 a76:=isAgg352
 z76:=sizeOf352
 v76:=zeroValue352
 t77:=underlying353
 a77:=isAgg353
 z77:=sizeOf353
 v77:=zeroValue353 }
def Tryz.sortPP_ren:Go.Shelf.Ren:=⟨fun|6=>152|15=>93|14=>218|28=>162|29=>163|20=>270|21=>271|22=>272|23=>273|24=>274|25=>275|26=>276|27=>277|46=>308|47=>220|48=>221|49=>309|50=>310|57=>342|n=>n,fun|22=>195|24=>198|25=>202|3=>3|39=>164|0=>0|53=>259|55=>261|4=>4|46=>253|45=>252|50=>218|5=>5|9=>9|66=>309|70=>313|76=>352|77=>353|n=>n,fun|n=>n⟩
theorem Tryz.sortPP:Go.Proofs.SlLaysF0.n6 prog Tryz.sortPP_ren:={
 mixed:=Xk
 f6:=⟨Tryz.f152.name,Xl,func152.trans (ah UF Xk)⟩
 f14:=⟨Tryz.f218.name,Xl,func218.trans (ah UF Xk)⟩
 f15:=func93.trans (ah UF Xk)
 f20:=⟨Tryz.f270.name,Xl,func270.trans (ah UF Xk)⟩
 f21:=⟨Tryz.f271.name,Xl,func271.trans (ah UF Xk)⟩
 f22:=⟨Tryz.f272.name,Xl,func272.trans (ah UF Xk)⟩
 f23:=⟨Tryz.f273.name,Xl,func273.trans (ah UF Xk)⟩
 f24:=⟨Tryz.f274.name,Xl,func274.trans (ah UF Xk)⟩
 f25:=⟨Tryz.f275.name,Xl,func275.trans (ah UF Xk)⟩
 f26:=⟨Tryz.f276.name,Xl,func276.trans (ah UF Xk)⟩
 f27:=⟨Tryz.f277.name,Xl,func277.trans (ah UF Xk)⟩
 f28:=func162.trans (ah UF Xk)
 f29:=func163.trans (ah UF Xk)
 f46:=⟨Tryz.f308.name,Xl,func308.trans (ah UF Xk)⟩
 f47:=func220.trans (ah UF Xk)
 f48:=func221.trans (ah UF Xk)
 f49:=⟨Tryz.f309.name,Xl,func309.trans (ah UF Xk)⟩
 f50:=⟨Tryz.f310.name,Xl,func310.trans (ah UF Xk)⟩
 f57:=⟨Tryz.f342.name,Xl,func342.trans (ah UF Xk)⟩
 t0:=underlying0
 a0:=isAgg0
 z0:=sizeOf0
 v0:=zeroValue0
 t3:=underlying3
 a3:=isAgg3
 z3:=sizeOf3
 v3:=zeroValue3
 t4:=underlying4
 a4:=isAgg4
 z4:=sizeOf4
 v4:=zeroValue4
 t5:=underlying5
 a5:=isAgg5
 z5:=sizeOf5
 v5:=zeroValue5
 t9:=underlying9
 a9:=isAgg9
 z9:=sizeOf9
 v9:=zeroValue9
 t22:=underlying195
 a22:=isAgg195
 z22:=sizeOf195
 v22:=zeroValue195
 t25:=underlying202
 a25:=isAgg202
 z25:=sizeOf202
 v25:=zeroValue202
 t39:=underlying164
 a39:=isAgg164
 z39:=sizeOf164
 v39:=zeroValue164
 t45:=underlying252
 a45:=isAgg252
 z45:=sizeOf252
 v45:=zeroValue252
 t46:=underlying253
 a46:=isAgg253
 z46:=sizeOf253
 v46:=zeroValue253
 t50:=underlying218
 a50:=isAgg218
 z50:=sizeOf218
 v50:=zeroValue218
 t53:=underlying259
 a53:=isAgg259
 z53:=sizeOf259
 v53:=zeroValue259
 t55:=underlying261
 a55:=isAgg261
 z55:=sizeOf261
 v55:=zeroValue261
 t66:=underlying309
 a66:=isAgg309
 z66:=sizeOf309
 v66:=zeroValue309
 t70:=underlying313
 a70:=isAgg313
 z70:=sizeOf313
 v70:=zeroValue313
 t76:=underlying352
 a76:=isAgg352
 z76:=sizeOf352
 v76:=zeroValue352
 t77:=underlying353
 a77:=isAgg353
 z77:=sizeOf353
 v77:=zeroValue353 }
def Tryz.sortEnt_ren:Go.Shelf.Ren:=⟨fun|6=>37|15=>93|14=>92|28=>162|29=>163|20=>154|21=>155|22=>156|23=>157|24=>158|25=>159|26=>160|27=>161|46=>219|47=>220|48=>221|49=>222|50=>223|57=>278|n=>n,fun|22=>52|24=>55|25=>117|3=>3|39=>164|0=>0|53=>259|55=>261|4=>4|46=>253|45=>252|50=>218|5=>5|9=>9|66=>309|70=>313|76=>352|77=>353|n=>n,fun|n=>n⟩
theorem Tryz.sortEnt:Go.Proofs.SlLaysF0.n6 prog Tryz.sortEnt_ren:={
 mixed:=Xk
 f6:=⟨Tryz.f37.name,Xl,func37.trans (ah UF Xk)⟩
 f14:=⟨Tryz.f92.name,Xl,func92.trans (ah UF Xk)⟩
 f15:=func93.trans (ah UF Xk)
 f20:=⟨Tryz.f154.name,Xl,func154.trans (ah UF Xk)⟩
 f21:=⟨Tryz.f155.name,Xl,func155.trans (ah UF Xk)⟩
 f22:=⟨Tryz.f156.name,Xl,func156.trans (ah UF Xk)⟩
 f23:=⟨Tryz.f157.name,Xl,func157.trans (ah UF Xk)⟩
 f24:=⟨Tryz.f158.name,Xl,func158.trans (ah UF Xk)⟩
 f25:=⟨Tryz.f159.name,Xl,func159.trans (ah UF Xk)⟩
 f26:=⟨Tryz.f160.name,Xl,func160.trans (ah UF Xk)⟩
 f27:=⟨Tryz.f161.name,Xl,func161.trans (ah UF Xk)⟩
 f28:=func162.trans (ah UF Xk)
 f29:=func163.trans (ah UF Xk)
 f46:=⟨Tryz.f219.name,Xl,func219.trans (ah UF Xk)⟩
 f47:=func220.trans (ah UF Xk)
 f48:=func221.trans (ah UF Xk)
 f49:=⟨Tryz.f222.name,Xl,func222.trans (ah UF Xk)⟩
 f50:=⟨Tryz.f223.name,Xl,func223.trans (ah UF Xk)⟩
 f57:=⟨Tryz.f278.name,Xl,func278.trans (ah UF Xk)⟩
 t0:=underlying0
 a0:=isAgg0
 z0:=sizeOf0
 v0:=zeroValue0
 t3:=underlying3
 a3:=isAgg3
 z3:=sizeOf3
 v3:=zeroValue3
 t4:=underlying4
 a4:=isAgg4
 z4:=sizeOf4
 v4:=zeroValue4
 t5:=underlying5
 a5:=isAgg5
 z5:=sizeOf5
 v5:=zeroValue5
 t9:=underlying9
 a9:=isAgg9
 z9:=sizeOf9
 v9:=zeroValue9
 t22:=underlying52
 a22:=isAgg52
 z22:=sizeOf52
 v22:=zeroValue52
 t25:=underlying117
 a25:=isAgg117
 z25:=sizeOf117
 v25:=zeroValue117
 t39:=underlying164
 a39:=isAgg164
 z39:=sizeOf164
 v39:=zeroValue164
 t45:=underlying252
 a45:=isAgg252
 z45:=sizeOf252
 v45:=zeroValue252
 t46:=underlying253
 a46:=isAgg253
 z46:=sizeOf253
 v46:=zeroValue253
 t50:=underlying218
 a50:=isAgg218
 z50:=sizeOf218
 v50:=zeroValue218
 t53:=underlying259
 a53:=isAgg259
 z53:=sizeOf259
 v53:=zeroValue259
 t55:=underlying261
 a55:=isAgg261
 z55:=sizeOf261
 v55:=zeroValue261
 t66:=underlying309
 a66:=isAgg309
 z66:=sizeOf309
 v66:=zeroValue309
 t70:=underlying313
 a70:=isAgg313
 z70:=sizeOf313
 v70:=zeroValue313
 t76:=underlying352
 a76:=isAgg352
 z76:=sizeOf352
 v76:=zeroValue352
 t77:=underlying353
 a77:=isAgg353
 z77:=sizeOf353
 v77:=zeroValue353 }
end Go.Proofs
namespace Go.Proofs.YtkkenamefaegfaaGreatDoor
section
open Go.RowKit Mm Jn
theorem NG{K:Type}{cmp:K->K->Int}(h:Mm.Cmp cmp):Go.Sort.SWO (Go.Proofs.ltOf cmp):=by
 have e:∀x y,Go.Proofs.ltOf cmp x y=decide (cmp x y<0):=λ_ _=>rfl
 refine⟨λx=>?_,λx y z q j=>?_,λx y z q j=>?_⟩
 .rw[e];have:=h.swap x x;exact TL Xj
 .rw[e]at*;exact TD (h.trans (Vi q) (Vi j))
 rw[e]at*;have q:=Vk q;have j:=Vk j;refine TL λr=>?_
 by_cases h0:cmp x y=0
 .rw[h.zero h0]at r;exact j r
 exact j (h.trans (by have:=h.swap x y;omega:cmp y x<0) r)
theorem uH{K:Type}{cmp:K->K->Int}(h:Mm.Cmp cmp):∀{xs l:List K},l.Perm xs->xs.Pairwise (λa b=>cmp a b<0)->l.Pairwise (λa b=>¬cmp b a<0)->l=xs
 |[],l,hp,_,_=>List.Perm.eq_nil hp
 |x::xs,[],hp,_,_=>absurd hp.length_eq Xn
 | x::xs,y::t,hp,ha,hb=>by
   obtain⟨a1,a2⟩:=Ut.1 ha;obtain⟨b1,b2⟩:=Ut.1 hb;have j:y=x:=by grind[BY.1,Vr]
   subst j;rw[uH h hp.cons_inv a2 b2]
def xa(x:Par):List Value:=[.int .i64 x.f,.string x.c]
instance :Inhabited Par:=⟨⟨0,⟨#[]⟩⟩⟩
theorem Nw:∀{l:List Par}{w:World}{R:Nat->Prop}{us:List Value},RelPL w R (l.flatMap rG) us->l.flatMap xa=us
 |[],_,_,us,h=>by simp only[Wc,RelPL]at h;rw[h];rfl
 | x::l,w,R,us,h=>by
   rw[T0]at h;have h1:RelPL w R (rG x) (us.take 2):=by have:=h.take 2;rwa [show(rG x++l.flatMap rG).take 2=rG x from List.take_left' O]at this
   have j:RelPL w R (l.flatMap rG) (us.drop 2):=by have:=h.drop 2;rwa [show(rG x++l.flatMap rG).drop 2=l.flatMap rG from List.drop_left' O]at this
   rw[T0,Nw j];have e:us.take 2=xa x:=by
    simp only[RelPL,RelP]at h1;obtain⟨_,_,e,rfl,_,_,rfl,rfl,rfl⟩:=h1;exact e
   rw[<-e,Ug]
theorem S1(w:World)(R:Nat->Prop):∀(l:List Par),RelPL w R (l.flatMap rG) (l.flatMap xa)
 |[]=>by simp[RelPL]
 | x::l=>by
   rw[T0,T0];exact RelPL.append (RelPL.cons (by simp only[RelP]) (RelPL.cons (by simp only[RelP]) RelPL.nil)) (S1 w R l)
theorem C9(l:List Par)(t:l.length<=1000000):
  FnO prog 147 1 0 [.gsl big 2 l.length,.pv (.fn (.func 88) [] [])] [(big,.gro 146 (vo l))] (λv ob'=>∃l',l'.Perm l/\(l'.Pairwise λa b=>¬bZ b a<0)/\v= .tup []/\ob'=aB [(big,.gro 146 (vo l'))]):=by
 intro w m R us hR hrel;simp only[RelL,Rel,RelP]at hrel;obtain⟨u1,us1,rfl,⟨_,A,c,rfl,hnc,hcm,h0,h1⟩,u2,us2,rfl,⟨fs,cs,rfl,hfs,hcs⟩,rfl⟩:=hrel;obtain rfl:=(by simpa[RelPL]using hfs:fs=[]);obtain rfl:=(by simpa[RelPL]using hcs:cs=[]);refine(mK (α:=Par) xa (λ_=>rfl) rG (λ_=>rfl) Xl id (λj=>j.Pairwise λa b=>Go.Proofs.ltOf bZ b a=VC) List.Pairwise.nil hR (λh=>(h0 h).1) h1 (λus h=>⟨l,W7 _,Nw h⟩) (λw' _ j=>by rw[W7];exact S1 w' R.p j)
  (AnyF.slices_SortFunc_none Tryz.sortPar UG c _ w) ?_).mono ?_
 .intro b j arr hds hpos hb ht hbs hbR;rw[W7]at hds;subst hds;have q:=AnyQ.slices_SortFunc Tryz.sortPar 2 isAgg146 sizeOf146 xa (λ_=>rfl) (λx v hv=>by simp only[xa,BY,UI,V9]at hv;rcases hv with hv|hv<;>(rw[hv];rfl)) bZ (NG eF) 88 #[] b 0 c j.toArray w call88
   (λmm os dk _ x y=>Ci x y _) (qF Xl xa (λ_=>rfl) hb ht) hbs (by rw[T4];omega)
  rw[T4]at q;refine Calls.mono q ?_;rintro e w' ⟨rfl,d',n,os,hp,hs,rfl⟩;have s:d'.size=j.length:=hp.1.trans T4;exact⟨O,d'.toList,permIn_all T4 hp,jP s hs,uv Xl xa (λ_=>rfl) w b n d' os hbs⟩
 rintro e w' ⟨u,v,ob',m',R',rfl,⟨l',ds',hp,rfl,hs,rfl,rfl⟩,r⟩;refine⟨u,_,_,m',R',O,⟨_,hp,?_,O,O⟩,r⟩;rw[W7];exact hs.imp λh=>Vk h
theorem yN(ks vs:List PV):FnP prog 87 [.mp ks vs] (· = .fn (.func 148) [] [.rp [.mp ks vs] 0]):=by
 refine FnP.of func87 O ntmps87 Xn λ_ _ _ _=>?_
 exact Z2 O<|Tj (St.jZ 0 O O)<|Z2 O<|VF O O
theorem wL(xs:List Par)(vs:List PV)(t:xs.length<=1000000)(u:xs.Pairwise λa b=>bZ a b<0):
  FnP prog 86 [.fn (.func 148) [] [.rp [.mp (xs.map aW) vs] 0],.fn (.func 88) [] []] (· = .sl UG xs.length (vo xs)):=by
 have j:=HY xs vs t;refine FnP.of func86 O ntmps86 Xn λ_ _ _ _=>?_
 refine Z1 O<|Z1 O<|RL.call O (cz [] 0 call146 O O O O (by exact trivial) Xl O j ?_);rintro _ _ ⟨ss,hS,rfl,rfl⟩;refine A1 O ?_;have q:ss.length<=1000000:=by rw[hS.length_eq];exact t
 have r:=C9 ss q;refine Z2 O<|RL.call O (cz [0] 1 call147 O O O O (by exact⟨Xk,Xq⟩) Xl O r ?_);rintro _ _ ⟨l',hp,ho,rfl,rfl⟩;obtain rfl:l'=xs:=uH eF (hp.trans hS) u ho;have s:ss.length=l'.length:=hS.length_eq;rw[s]at*;exact Z2 O<|VF O O
def xq(x:PP):List Value:=[.int .i64 x.1.f,.string x.1.c,.int .i64 x.2.f,.string x.2.c]
instance :Inhabited PP:=⟨(⟨0,⟨#[]⟩⟩,⟨0,⟨#[]⟩⟩)⟩
theorem NL:∀{l:List PP}{w:World}{R:Nat->Prop}{us:List Value},RelPL w R (l.flatMap ppC) us->l.flatMap xq=us
 |[],_,_,us,h=>by simp only[Wc,RelPL]at h;rw[h];rfl
 | x::l,w,R,us,h=>by
   rw[T0]at h;have h1:RelPL w R (ppC x) (us.take 4):=by have:=h.take 4;rwa [show(ppC x++l.flatMap ppC).take 4=ppC x from List.take_left' O]at this
   have j:RelPL w R (l.flatMap ppC) (us.drop 4):=by have:=h.drop 4;rwa [show(ppC x++l.flatMap ppC).drop 4=l.flatMap ppC from List.drop_left' O]at this
   rw[T0,NL j];have e:us.take 4=xq x:=by
    simp only[RelPL,RelP]at h1;obtain⟨_,_,e,rfl,_,_,rfl,rfl,_,_,rfl,rfl,_,_,rfl,rfl,rfl⟩:=h1;exact e
   rw[<-e,Ug]
theorem RD(w:World)(R:Nat->Prop):∀(l:List PP),RelPL w R (l.flatMap ppC) (l.flatMap xq)
 |[]=>by simp[RelPL]
 | x::l=>by
   rw[T0,T0];exact RelPL.append (RelPL.cons (by simp only[RelP]) (RelPL.cons (by simp only[RelP]) (RelPL.cons (by simp only[RelP]) (RelPL.cons (by simp only[RelP]) RelPL.nil)))) (RD w R l)
theorem Ep(l:List PP)(t:l.length<=1000000):
  FnO prog 152 1 0 [.gsl big 4 l.length,.pv (.fn (.func 91) [] [])] [(big,.gro 198 (uE l))] (λv ob'=>∃l',l'.Perm l/\(l'.Pairwise λa b=>¬cI b a<0)/\v= .tup []/\ob'=aB [(big,.gro 198 (uE l'))]):=by
 intro w m R us hR hrel;simp only[RelL,Rel,RelP]at hrel;obtain⟨u1,us1,rfl,⟨_,A,c,rfl,hnc,hcm,h0,h1⟩,u2,us2,rfl,⟨fs,cs,rfl,hfs,hcs⟩,rfl⟩:=hrel;obtain rfl:=(by simpa[RelPL]using hfs:fs=[]);obtain rfl:=(by simpa[RelPL]using hcs:cs=[]);refine(mK (α:=PP) xq (λ_=>rfl) ppC (λ_=>rfl) Xl id (λj=>j.Pairwise λa b=>Go.Proofs.ltOf cI b a=VC) List.Pairwise.nil hR (λh=>(h0 h).1) h1 (λus h=>⟨l,W7 _,NL h⟩) (λw' _ j=>by rw[W7];exact RD w' R.p j)
  (AnyF.slices_SortFunc_none Tryz.sortPP UG c _ w) ?_).mono ?_
 .intro b j arr hds hpos hb ht hbs hbR;rw[W7]at hds;subst hds;have q:=AnyQ.slices_SortFunc Tryz.sortPP 4 isAgg198 sizeOf198 xq (λ_=>rfl) (λx v hv=>by simp only[xq,BY,UI,V9]at hv;rcases hv with hv|hv|hv|hv<;>(rw[hv];rfl)) cI (NG c6) 91 #[] b 0 c j.toArray w call91
   (λmm os dk _ x y=>Gj x y _) (qF Xl xq (λ_=>rfl) hb ht) hbs (by rw[T4];omega)
  rw[T4]at q;refine Calls.mono q ?_;rintro e w' ⟨rfl,d',n,os,hp,hs,rfl⟩;have s:d'.size=j.length:=hp.1.trans T4;exact⟨O,d'.toList,permIn_all T4 hp,jP s hs,uv Xl xq (λ_=>rfl) w b n d' os hbs⟩
 rintro e w' ⟨u,v,ob',m',R',rfl,⟨l',ds',hp,rfl,hs,rfl,rfl⟩,r⟩;refine⟨u,_,_,m',R',O,⟨_,hp,?_,O,O⟩,r⟩;rw[W7];exact hs.imp λh=>Vk h
theorem Ah(ks vs:List PV):FnP prog 90 [.mp ks vs] (· = .fn (.func 153) [] [.rp [.mp ks vs] 0]):=by
 refine FnP.of func90 O ntmps90 Xn λ_ _ _ _=>?_
 exact Z2 O<|Tj (St.jZ 0 O O)<|Z2 O<|VF O O
theorem xK(xs:List PP)(vs:List PV)(t:xs.length<=1000000)(u:xs.Pairwise λa b=>cI a b<0):
  FnP prog 89 [.fn (.func 153) [] [.rp [.mp (xs.map ppP) vs] 0],.fn (.func 91) [] []] (· = .sl UG xs.length (uE xs)):=by
 have j:=E3 xs vs t;refine FnP.of func89 O ntmps89 Xn λ_ _ _ _=>?_
 refine Z1 O<|Z1 O<|RL.call O (cz [] 0 call151 O O O O (by exact trivial) Xl O j ?_);rintro _ _ ⟨ss,hS,rfl,rfl⟩;refine A1 O ?_;have q:ss.length<=1000000:=by rw[hS.length_eq];exact t
 have r:=Ep ss q;refine Z2 O<|RL.call O (cz [0] 1 call152 O O O O (by exact⟨Xk,Xq⟩) Xl O r ?_);rintro _ _ ⟨l',hp,ho,rfl,rfl⟩;obtain rfl:l'=xs:=uH c6 (hp.trans hS) u ho;have s:ss.length=l'.length:=hS.length_eq;rw[s]at*;exact Z2 O<|VF O O
end
section
namespace Vw
open Mm Jn
set_option autoImplicit false
structure Sup(Q:List Par)(x:Mm.Sem):Prop where
 s:∀p,p∉Q->x.s p=0
 p:∀a b,a∉Q\/b∉Q->x.p a b=0
theorem Sup.add{Q:List Par}{x y:Mm.Sem}(j:Sup Q x)(q:Sup Q y):Sup Q (Mm.Sem.add x y):=
 ⟨λp h=>by show x.s p+y.s p=0;rw[j.s p h,q.s p h,W9],λa b h=>by show x.p a b+y.p a b=0;rw[j.p a b h,q.p a b h,W9]⟩
theorem Sup.mul{Q:List Par}{x y:Mm.Sem}(j:Sup Q x)(q:Sup Q y):Sup Q (Mm.Sem.mul x y):=by
 refine⟨λp h=>?_,λa b h=>?_⟩
 .show x.c*y.s p+y.c*x.s p=0;rw[j.s p h,q.s p h,Xf,Xf,W9]
 show x.c*y.p a b+y.c*x.p a b+(x.s a*y.s b+x.s b*y.s a)=0;rw[j.p a b h,q.p a b h];rcases h with h|h
 .rw[j.s a h,q.s a h];grind
 rw[j.s b h,q.s b h];grind
theorem Sup.cnt(Q:List Par)(n:Int):Sup Q (cnt n):=⟨λ_ _=>rfl,λ_ _ _=>rfl⟩
theorem Sup.lft{Q:List Par}{p:Par}(h:p∈Q)(x:Rat):Sup Q (lft p x):=by
 refine⟨λq hq=>?_,λa b hq=>?_⟩
 .unfold Mm.lft;refine sh ?_;intro e;exact hq (e▸h)
 unfold Mm.lft;refine sh ?_;rintro⟨rfl,rfl⟩;rcases hq with hq|hq<;>exact hq h
structure Gv where
 m:Mm.Sem
 n:Nat
 w:Nat
 k:Nat
def Gv.mul(a b:Gv):Gv:=⟨Mm.Sem.mul a.m b.m,a.n*b.n,a.w*b.w,a.k+b.k⟩
def Gv.add(a b:Gv):Gv:=⟨Mm.Sem.add a.m b.m,a.n+b.n,a.w+b.w,max a.k b.k⟩
def Gv.whole(w:Nat):Gv:=⟨cnt w,1,w,0⟩
structure GvOk(Q:List Par)(g:Gv):Prop where
 s:SOk g.w g.k g.m
 q:Sup Q g.m
theorem GvOk.mul{Q:List Par}{a b:Gv}(j:GvOk Q a)(r:GvOk Q b):GvOk Q (a.mul b):=⟨j.s.mul r.s,j.q.mul r.q⟩
theorem GvOk.add{Q:List Par}{a b:Gv}(j:GvOk Q a)(r:GvOk Q b):GvOk Q (a.add b):=
 ⟨(j.s.up (AT _) (Xc _ _)).add (r.s.up (AT _) (Nat.le_max_right _ _)),j.q.add r.q⟩
theorem GvOk.whole(Q:List Par)(w:Nat):GvOk Q (Gv.whole w):=⟨nW w,Sup.cnt Q w⟩
structure Msr(f:Gv->Nat):Prop where
 mul:∀a b,f (a.mul b)=f a*f b
 add:∀a b,f (a.add b)=f a+f b
theorem msr_n:Msr Gv.n:=⟨λ_ _=>rfl,λ_ _=>rfl⟩
theorem JY:Msr Gv.w:=⟨λ_ _=>rfl,λ_ _=>rfl⟩
structure Itm where
 v:List ByteArray
 g:Gv
structure Prt where
 a:List Int
 is:List Itm
structure Ch where
 v:List ByteArray
 s:List Bool
def Sx(x:Ch)(p:Int×ByteArray):Bool:= !x.s.getD p.1.toNat VC||decide (x.v.getD p.1.toNat ⟨#[]⟩=p.2)
def EP(x:Ch)(A:List Int)(V:List ByteArray):Bool:=(A.zip V).all (Sx x)
def vD(x:Ch)(p:Int×ByteArray):Ch:=⟨x.v.set p.1.toNat p.2,x.s.set p.1.toNat VA⟩
def ko(x:Ch)(A:List Int)(V:List ByteArray):Ch:=(A.zip V).foldl vD x
def leaves:List Prt->Ch->Gv->List (Ch×Gv)
 |[],x,g=>[(x,g)]
 |p::ps,x,g=>p.is.flatMap λi=>if EP x p.a i.v=VA then leaves ps (ko x p.a i.v) (g.mul i.g)else []
theorem Cu:∀(Z:List (Int×ByteArray))(x:Ch),(Z.foldl vD x).v.length=x.v.length/\(Z.foldl vD x).s.length=x.s.length
 |[],x=>⟨O,O⟩
 | p::Z,x=>by
   have h:=Cu Z (vD x p);simp only[vD,TQ]at h;exact h
theorem DM{I:Ch->Gv->Prop}{ps:List Prt}:∀{x:Ch}{g:Gv},I x g->(∀p∈ps,∀i∈p.is,∀x g,I x g->EP x p.a i.v=VA->I (ko x p.a i.v) (g.mul i.g))->∀l∈leaves ps x g,I l.1 l.2:=by
 induction ps with
 |nil=>intro x g h _ l hl;simp only[leaves,TF]at hl;subst hl;exact h
 | cons p ps ih=>
   intro x g h hs l hl;rw[leaves,Uk]at hl;obtain⟨i,hi,hl⟩:=hl;split at hl
   .grind
   simp at hl
def eQ:List Nat->Nat
 |[]=>1
 |a::l=>a*eQ l
theorem fj:∀l m:List Nat,eQ (l++m)=eQ l*eQ m
 |[],m=>by simp[eQ]
 |a::l,m=>by simp only[Uz,eQ,fj l m,U1]
theorem pF{M:Nat}(hM:1<=M):∀{l:List Nat}{j:Nat},(∀a∈l,a<=M)->l.length<=j->eQ l<=M^j
 |[],j,_,_=>Nat.one_le_pow _ _ hM
 |a::l,0,_,h=>by simp at h
 | a::l,j+1,ha,h=>by
   rw[eQ,Um,Uo];exact Uy (pF hM (λb hb=>ha b (by simp[hb])) (by simpa using h)) (ha a Xn)
theorem nj{α:Type}{f g:α->Nat}:∀{l:List α},(∀a∈l,f a<=g a)->eQ (l.map f)<=eQ (l.map g)
 |[],_=>AT _
 |a::l,h=>Uy (h a Xn) (nj λb hb=>h b (by simp[hb]))
def Prt.tot(f:Gv->Nat)(p:Prt):Nat:=(p.is.map λi=>f i.g).sum
theorem Cb{α:Type}(f:α->List Nat):∀l:List α,(l.flatMap f).sum=(l.map λa=>(f a).sum).sum
 |[]=>rfl
 |a::l=>by rw[T0,List.sum_append,cu,Up,Cb f l]
theorem yf{α:Type}{f g:α->Nat}:∀{l:List α},(∀a∈l,f a<=g a)->(l.map f).sum<=(l.map g).sum
 |[],_=>AT _
 |a::l,h=>by simp only[cu,Up];exact Nat.add_le_add (h a Xn) (yf λb hb=>h b (by simp[hb]))
theorem AU(c:Nat):∀l:List Nat,(l.map λa=>c*a).sum=c*l.sum
 |[]=>by simp
 |a::l=>by simp only[cu,Up,AU c l,Vy]
theorem Dk{f:Gv->Nat}(r:Msr f){ps:List Prt}:∀{x:Ch}{g:Gv},((leaves ps x g).map λl=>f l.2).sum<=f g*eQ (ps.map (Prt.tot f)):=by
 induction ps with
 |nil=>intro x g;simp[leaves,eQ]
 | cons p ps ih=>
   intro x g;rw[leaves,Wf,Cb,cu,eQ];have q:(p.is.map λi=>((if EP x p.a i.v=VA then leaves ps (ko x p.a i.v) (g.mul i.g)else []).map λl=>f l.2).sum).sum<=(p.is.map λi=>f g*eQ (ps.map (Prt.tot f))*f i.g).sum:=by
    refine yf λi _=>?_
    split
    .have:=ih (x:=ko x p.a i.v) (g:=g.mul i.g);rw[r.mul]at this;refine AS this (UM ?_);rw[U1,Uo (f i.g),<-U1]
    simp
   refine AS q (UM ?_);have j:=AU (f g*eQ (ps.map (Prt.tot f))) (p.is.map λi=>f i.g);rw[Va]at j;refine TX j ?_;show f g*eQ _*Prt.tot f p=f g*(Prt.tot f p*eQ _);rw[U1,Uo (eQ _)]
def Prt.km(p:Prt):Nat:=p.is.foldr (λi z=>max i.g.k z) 0
theorem mk_le{p:Prt}{i:Itm}(h:i∈p.is):i.g.k<=p.km:=by
 unfold Prt.km
 revert h
 induction p.is with
 |nil=>intro h;simp at h
 | cons j l ih=>
   intro h;simp only[List.foldr_cons];rcases BY.1 h with rfl|h
   .exact Xc _ _
   grind
theorem PM{p:Prt}{K:Nat}(h:∀i∈p.is,i.g.k<=K):p.km<=K:=by
 unfold Prt.km
 revert h
 induction p.is with
 |nil=>intro _;exact aJ _
 |cons j l ih=>intro h;exact Nat.max_le.2 ⟨h j Xn,ih λi hi=>h i (by simp[hi])⟩
theorem AA{ps:List Prt}:∀{x:Ch}{g:Gv},∀l∈leaves ps x g,l.2.k<=g.k+(ps.map Prt.km).sum:=by
 induction ps with
 |nil=>intro x g l hl;simp only[leaves,TF]at hl;subst hl;simp
 | cons p ps ih=>
   intro x g l hl;rw[leaves,Uk]at hl;obtain⟨i,hi,hl⟩:=hl;split at hl
   .have:=ih l hl;have j:=mk_le hi;simp only[cu,Up];have e:(g.mul i.g).k=g.k+i.g.k:=rfl;omega
   simp at hl
structure En where
 t:ByteArray
 v:List ByteArray
 g:Gv
def jnt(v:List ByteArray):ByteArray:=⟨(Lib.join (v.map (·.data.toList)) [0]).toArray⟩
def yu(E:List En)(t:ByteArray):Option Nat:=E.findIdx? λe=>decide (e.t=t)
def uj(E:List En)(v:List ByteArray)(g:Gv):List En:=match yu E (jnt v)with
 |some i=>E.set i ⟨jnt v,v,g.add (E.getD i ⟨jnt v,v,g⟩).g⟩
 |none=>E++[⟨jnt v,v,g⟩]
theorem gm{E:List En}{t:ByteArray}{i:Nat}(h:yu E t=UF i):∃hi:i<E.length,E[i].t=t/\∀j (q:j<i),(E[j]'Xj).t≠t:=by
 obtain⟨hi,h1,h2⟩:=U4.1 h;exact⟨hi,by simpa using h1,λj q=>by have:=h2 j q;simpa using this⟩
theorem l7{E:List En}{t:ByteArray}(h:yu E t=UG):∀e∈E,e.t≠t:=by
 intro e he;have:=List.findIdx?_eq_none_iff.1 h e he;simpa using this
theorem eY(E:List En)(v:List ByteArray)(g:Gv):(∃i,∃hi:i<E.length,yu E (jnt v)=UF i/\uj E v g=E.set i ⟨jnt v,v,g.add E[i].g⟩/\E[i].t=jnt v)\/(yu E (jnt v)=UG/\uj E v g=E++[⟨jnt v,v,g⟩]/\∀e∈E,e.t≠jnt v):=by grind[uj,yu,jnt,gm,List.getD,l7]
theorem L2(E:List En)(v:List ByteArray)(g:Gv):E.length<=(uj E v g).length:=by
 rcases eY E v g with⟨i,hi,_,e,_⟩|⟨_,e,_⟩<;>rw[e]<;>simp
structure EnOk(E:List En):Prop where
 nd:(E.map (·.t)).Nodup
 t:∀e∈E,e.t=jnt e.v
theorem EnOk.nil:EnOk []:=⟨List.nodup_nil,λ_ h=>absurd h Xn⟩
theorem Qa{E:List En}(h:EnOk E)(v:List ByteArray)(g:Gv):EnOk (uj E v g):=by
 rcases eY E v g with⟨i,hi,_,e,ht⟩|⟨_,e,hn⟩<;>rw[e]
 .refine⟨?_,λx hx=>?_⟩
  .rw[US];have j:(E.map (·.t)).set i ((E.map (·.t))[i]'(by simpa using hi))=E.map (·.t):=List.set_getElem_self _;simp only[UP,ht]at j;show((E.map (·.t)).set i (jnt v)).Nodup;rw[j];exact h.nd
  rcases List.mem_or_eq_of_mem_set hx with hx|rfl
  .exact h.t x hx
  .rfl
 refine⟨?_,λx hx=>?_⟩
 .rw[Uc,Wj];refine⟨h.nd,Xn,λa ha b hb e2=>?_⟩;obtain⟨x,hx,rfl⟩:=TG.1 ha;simp at hb;exact hn x hx (e2.trans hb)
 rcases Uf.1 hx with hx|hx
 .exact h.t x hx
 simp at hx;subst hx;rfl
theorem K7{E:List En}{v:List ByteArray}{g:Gv}{x:En}(h:x∈uj E v g):x∈E\/(x.v=v/\(x.g=g\/∃y∈E,y.t=jnt v/\x.g=g.add y.g)):=by
 rcases eY E v g with⟨i,hi,_,e,ht⟩|⟨_,e,hn⟩<;>rw[e]at h
 .grind
 grind
def jt(f:Gv->Nat)(E:List En):Nat:=(E.map λe=>f e.g).sum
theorem G6{f:Gv->Nat}:∀{E:List En}{i:Nat}(j:i<E.length)(e:En),jt f (E.set i e)+f E[i].g=jt f E+f e.g
 |x::E,0,_,e=>by simp only[jt,List.set_cons_zero,cu,Up,List.getElem_cons_zero];omega
 | x::E,i+1,j,e=>by
   have:=G6 (f:=f) (E:=E) (i:=i) (by simpa using j) e;simp only[jt,List.set_cons_succ,cu,Up,List.getElem_cons_succ]at this ⊢;omega
theorem vB{f:Gv->Nat}(j:Msr f)(E:List En)(v:List ByteArray)(g:Gv):jt f (uj E v g)=jt f E+f g:=by
 rcases eY E v g with⟨i,hi,_,e,ht⟩|⟨_,e,hn⟩<;>rw[e]
 .have:=G6 (f:=f) hi ⟨jnt v,v,g.add E[i].g⟩;simp only[j.add]at this;omega
 simp[jt]
def ir(K:List Int)(x:Ch):List ByteArray:=K.map λa=>x.v.getD a.toNat ⟨#[]⟩
open Classical in
noncomputable def stepE(lf:ByteArray->Gv)(v:Int)(K:List Int)(E:List En)(l:Ch×Gv):List En:=
 if(l.2.mul (lf (l.1.v.getD v.toNat ⟨#[]⟩))).m=Mm.Sem.zero then E else uj E (ir K l.1) (l.2.mul (lf (l.1.v.getD v.toNat ⟨#[]⟩)))
noncomputable def foldE(lf:ByteArray->Gv)(v:Int)(K:List Int)(E:List En)(ls:List (Ch×Gv)):List En:=ls.foldl (stepE lf v K) E
def ch0(n:Nat):Ch:=⟨List.replicate n ⟨#[]⟩,List.replicate n VC⟩
noncomputable def viewE(lf:ByteArray->Gv)(n:Nat)(v:Int)(K:List Int)(ps:List Prt):List En:=foldE lf v K [] (leaves ps (ch0 n) (Gv.whole 1))
section
variable {lf:ByteArray->Gv}{v:Int}{K:List Int}
theorem gx(E:List En)(l:Ch×Gv):stepE lf v K E l=E\/stepE lf v K E l=uj E (ir K l.1) (l.2.mul (lf (l.1.v.getD v.toNat ⟨#[]⟩))):=by
 unfold stepE;split
 .exact .inl O
 exact .inr O
theorem F4(E:List En)(l:Ch×Gv):E.length<=(stepE lf v K E l).length:=by
 rcases gx (lf:=lf) (v:=v) (K:=K) E l with e|e<;>rw[e]
 .exact AT _
 exact L2 _ _ _
theorem xc:∀(ls:List (Ch×Gv))(E:List En),E.length<=(foldE lf v K E ls).length
 |[],_=>AT _
 |l::ls,E=>AS (F4 E l) (xc ls _)
theorem ru(E:List En)(a b:List (Ch×Gv)):foldE lf v K E (a++b)=foldE lf v K (foldE lf v K E a) b:=VN
theorem AF:∀(ls:List (Ch×Gv)){E:List En},EnOk E->EnOk (foldE lf v K E ls)
 |[],_,h=>h
 | l::ls,E,h=>by
   refine AF ls ?_;rcases gx (lf:=lf) (v:=v) (K:=K) E l with e|e<;>rw[e]
   .exact h
   exact Qa h _ _
theorem mF{I:En->Prop}(j:∀x y:En,I x->I y->∀t,I ⟨t,x.v,x.g.add y.g⟩):∀(ls:List (Ch×Gv)){E:List En},(∀e∈E,I e)->(∀l∈ls,I ⟨jnt (ir K l.1),ir K l.1,l.2.mul (lf (l.1.v.getD v.toNat ⟨#[]⟩))⟩)->∀e∈foldE lf v K E ls,I e
 |[],_,h,_=>h
 | l::ls,E,h,hl=>by
   refine mF j ls ?_ λx hx=>hl x (by simp[hx])
   rcases gx (lf:=lf) (v:=v) (K:=K) E l with e|e<;>rw[e]
   .exact h
   .intro x hx;have q:=hl l Xn;obtain⟨t,xv,xg⟩:=x;have r:t=jnt xv\/⟨t,xv,xg⟩∈E:=by
     rcases eY E (ir K l.1) (l.2.mul (lf (l.1.v.getD v.toNat ⟨#[]⟩)))with⟨i,hi,_,e2,_⟩|⟨_,e2,_⟩<;>rw[e2]at hx
     .grind
     grind
    rcases K7 hx with hx|⟨rfl,rfl|⟨y,hy,_,rfl⟩⟩
    .exact h _ hx
    .grind
    exact j _ y q (h y hy) t
theorem vZ{f:Gv->Nat}(j:Msr f)(q:∀t,f (lf t)=1):∀(ls:List (Ch×Gv))(E:List En),jt f (foldE lf v K E ls)<=jt f E+(ls.map λl=>f l.2).sum
 |[],E=>by simp[foldE]
 | l::ls,E=>by
   have:=vZ j q ls (stepE lf v K E l);have e:jt f (stepE lf v K E l)<=jt f E+f l.2:=by
    rcases gx (lf:=lf) (v:=v) (K:=K) E l with e|e<;>rw[e]
    .omega
    rw[vB j,j.mul,q,TZ];exact AT _
   simp only[cu,Up];show jt f (foldE lf v K (stepE lf v K E l) ls)<=_;omega
theorem CH{f:Gv->Nat}(j:Msr f):∀(ls:List (Ch×Gv))(E:List En),jt f E<=jt f (foldE lf v K E ls)
 |[],E=>AT _
 | l::ls,E=>by
   refine AS ?_ (CH j ls (stepE lf v K E l));rcases gx (lf:=lf) (v:=v) (K:=K) E l with e|e<;>rw[e]
   .exact AT _
   rw[vB j];omega
theorem xQ{f:Gv->Nat}(j:Msr f)(r:∀t,f (lf t)=1)(s:f (Gv.whole 1)=1)(n:Nat)(ps:List Prt):jt f (viewE lf n v K ps)<=eQ (ps.map (Prt.tot f)):=by
 have u:=vZ (lf:=lf) (v:=v) (K:=K) j r (leaves ps (ch0 n) (Gv.whole 1)) [];have q:=Dk j (ps:=ps) (x:=ch0 n) (g:=Gv.whole 1);rw[s,Nat.one_mul]at q;have z:jt f []=0:=rfl;unfold viewE;omega
end
theorem Le:∀(v:List ByteArray)(M:Nat),(∀t∈v,t.size<=M)->(Lib.join (v.map (·.data.toList)) [0]).length<=v.length*(M+1)
 |[],M,_=>by simp[Lib.join]
 | x::r,M,h=>by
   rw[cu,Lib.join_cons,IN];have h1:x.data.toList.length<=M:=by rw[Ua];exact h x Xn
   have q:∀r:List ByteArray,(∀t∈r,t.size<=M)->(Lib.joinTail [0] (r.map (·.data.toList))).length<=r.length*(M+1):=λr=>by
    induction r with
    |nil=>intro _;simp[Lib.joinTail]
    | cons y r ih=>
      intro hy;have j:=ih λt ht=>hy t (by simp[ht])
      have s:y.data.toList.length<=M:=by rw[Ua];exact hy y Xn
      simp only[Lib.joinTail,cu,List.flatten_cons,IN,TP,IT,VI]at j ⊢;rw[Xe];omega
   have j:=q r λt ht=>h t (by simp[ht])
   rw[IT,Xe];omega
theorem OI{E:List En}(h:∀e∈E,1<=e.g.n):E.length<=jt Gv.n E:=by
 induction E with
 |nil=>exact aJ _
 | cons e E ih=>
   have q:=h e Xn;have j:=ih λx hx=>h x (by simp[hx])
   simp only[jt,cu,Up,IT]at j ⊢;omega
theorem yM{f:Gv->Nat}{E:List En}{e:En}(h:e∈E):f e.g<=jt f E:=by
 induction E with
 |nil=>simp at h
 | cons x E ih=>
   simp only[jt,cu,Up];rcases BY.1 h with rfl|h
   .omega
   grind[jt]
end Vw
end
section
open Mk Jn
set_option autoImplicit false

def Zf(x:ByteArray):Prop:=(0:UInt8)∉x.data.toList


end
section
open Mk Jn
theorem Agr.Qt{n:Nat}{ops:Array Oper}{σ τ:St}{s:OS}{rd:List Nat}{y:Operand}{xs:Array Operand}{ts:Array TypeId}{dst:Option Tmp}{ty:TypeId}{pos:String}{after:Array Edge}{gd:Option (Nat×Bool)}
  (h:Agr n ops ⟨dst,.call { callee:= .value y,args:=xs,argTypes:=ts },ty,pos,after,gd⟩ σ τ s rd):xs.toList.map (τ.ev n)=xs.toList.map (σ.ev n):=by
 apply Ud;intro x hx;obtain⟨i,hi⟩:=UX hx;exact h.e (i+1) x (by simpa[Op.operands,Call.operands,Wi]using hi)

abbrev bC(ll:List (List Int)):PV:= .sl UG ll.length (ll.map ar)
theorem gI{ll:List (List Int)}{k:Nat}(h:k<ll.length):(ll.map ar)[k*1]? =UF (ar ll[k]):=by simp[h]
theorem gO{ll:List (List Int)}{k:Nat}(h:k<ll.length):ll.map ar≠[]:=λe=>by have:=ah List.length e;simp at this;rw[this]at h;simp at h
structure VD where
 chs:List (List Int)
 kes:List (List Int)
 hos:List (List Int)
 wa:List Int
section
theorem rC(S:Sch)(P:List Int)(v:Int):(cK S P v).length<=P.length:=by
 unfold cK Ke;rw[(kj _).length_eq];exact AS (UZ ..) (jg P v)
end
end
section
def pcN(k n:Nat):Nat:=(List.range k).countP λi=>n.testBit i
theorem CD(k n:Nat):pcN (k+1) n=n%2+pcN k (n/2):=by
 unfold pcN;rw[List.range_succ_eq_map,List.countP_cons,List.countP_map];have e:((λi=>n.testBit i)∘Nat.succ)=λi=>(n/2).testBit i:=by
  funext i;simp[Nat.testBit_succ]
 rw[e,Wi]
 congr 1
 rw[Nat.testBit_zero];rcases Nat.mod_two_eq_zero_or_one n with h|h<;>simp[h]
theorem x3{n:Nat}(h:n≠0):(n&&&(n-1))%2=0/\(n&&&(n-1))/2=if n%2=0 then(n/2)&&&(n/2-1)else n/2:=by
 constructor
 .have:=Nat.and_mod_two_pow (a:=n) (b:=n-1) (n:=1);simp only[Nat.pow_one]at this;rw[this];rcases Nat.mod_two_eq_zero_or_one n with e|e
  .rw[e];simp
  grind
 have:(n&&&(n-1))/2=n/2&&&(n-1)/2:=by
  apply Nat.eq_of_testBit_eq;intro i;rw[<-Nat.testBit_succ,Nat.testBit_and,Nat.testBit_and,Nat.testBit_succ,Nat.testBit_succ]
 rw[this];split
 .grind
 grind
theorem Ax:∀k n,n<2^k->n≠0->pcN k (n&&&(n-1))+1=pcN k n
 |0,n,h,h0=>by simp at h;omega
 | k+1,n,h,h0=>by
   rw[CD,CD];obtain⟨h1,h2⟩:=x3 h0;rw[h1,h2];split
   .rename_i e;have:=Ax k (n/2) (by rw[Um]at h;omega) Xj;omega
   omega
theorem MA{x:B64}(h:x≠0#64):tm (x&&&(x-1#64))+1=tm x:=by
 have j:x.toNat≠0:=λe=>h (BitVec.eq_of_toNat_eq (by simpa using e))
 have q:=x.isLt;have e:(x&&&(x-1#64)).toNat=x.toNat&&&(x.toNat-1):=by grind
 have:=Ax 64 x.toNat q j;rw[<-e]at this;exact this
def InB(n:Nat)(c:B64):Prop:=∀i,c.getLsbD i=VA->i<n

end
section
open Mk
theorem Ie(x:B64):FnP prog 73 [ig x] (· = .int .i64 (tm x)):=by
 refine FnP.of func73 O ntmps73 Xn λ_ _ _ _=>?_
 refine Z1 O<|Z1 O<|Gl O (st:=λXr:B64×Nat=>mkS [(0,.pv (ig Xr.1)),(3,pIi Xr.2)] [] 0)
  (I:=λXr=>Xr.2+tm Xr.1=tm x) (μ:=λXr=>tm Xr.1) (x0:=(x,0)) (Tk (aS O) trivial O O) Xn ?_
 rintro⟨y,k⟩ hk;try simp only at hk ⊢
 have q:=Oh x;refine Z1 O<|Rs O (HZ (Y:=0#64) O O)<|Gp O (λj=>?_) (λj=>?_)
 .have hp:=MA j;exact Ti<|Z3 O<|Z2 O<|Rs O (QI (Y:=1#64) O O)<|Rs O (zu O O)<|A1 O<|⟨(y&&&(y-1#64),k+1),Tk (aS O) trivial O O,Xp,Xp⟩
 have hz:y=0#64:=Ui j;subst hz;exact Gx O<|Z2 O<|VF O<|by rw[<-hk];rfl
end
section
open Mk Jn
def mQ(X:B64)(k:Nat):List Int:=((List.range k).filter λa=>X.getLsbD a).map Int.ofNat
theorem rZ(X:B64)(k:Nat):mQ X (k+1)=mQ X k++if X.getLsbD k=VA then [(k:Int)]else []:=by grind[mQ,Wo]
theorem MI{X:B64}{a:Nat}(h:X>>>a=0#64):∀b,a<=b->X.getLsbD b=VC:=by
 intro b hb;have:=ah (λz=>z.getLsbD (b-a)) h;simp only[BitVec.getLsbD_ushiftRight,BitVec.getLsbD_zero]at this;rwa [show a+(b-a)=b by omega]at this
theorem Q0{n:Nat}{X:B64}(h:InB n X):X>>>n=0#64:=by
 apply BitVec.eq_of_getLsbD_eq;intro i hi;simp only[BitVec.getLsbD_ushiftRight,BitVec.getLsbD_zero];cases hb:X.getLsbD (n+i)with
 |false=>rfl
 |true=>have:=h _ hb;omega
theorem Hq{X:B64}{a n:Nat}(h:X>>>a=0#64)(j:a<=n):mQ X n=mQ X a:=by
 induction n with
 |zero=>rw[show a=0 by omega]
 | succ n ih=>
   rcases Vo n a with h1|h1
   .rw[show a=n+1 by omega]
   grind[rZ,MI]
theorem JZ(X:B64)(n:Nat)(A:n<=60)(z:InB n X):FnP prog 75 [ig X] (· =ar (mQ X n)):=by
 refine FnP.of func75 O ntmps75 Xn λ_ _ _ _=>?_
 have t:=Q0 z;refine Z1 O<|Z1 O<|Tj (Tp 3 0 1 3 O O)<|Z1 O<|Gl O (st:=λXr:Nat×List Int=>mkS [(0,.pv (ig X)),(3,.gsl 0 1 Xr.2.length),(4,pIi Xr.1)] [(0,.gro 3 (aK Xr.2))] 1)
  (I:=λXr=>(Xr.1<=n/\Xr.2.length<=Xr.1)/\Xr.2=mQ X Xr.1) (μ:=λXr=>n-Xr.1) (x0:=(0,[])) (WA O) (⟨⟨aJ _,AT _⟩,O⟩) ?_
 rintro⟨a,q⟩ ⟨⟨ha,hqa⟩,hq⟩;try simp only at ha hqa hq ⊢
 refine Z2 O<|Rs O (Fc a O O O Xj)<|Rs O (HZ (Y:=0#64) O O)<|Gp O (λr=>?_) (λr=>?_)
 .have hlt:a<n:=by rcases Vo a n with h|h;exact h;exact absurd (by rw[show a=n by omega];exact t) r
  have u:(aK q).length=q.length*1:=Xn;have s:=rZ X a;refine Ti<|Z2 O<|Rs O (aa call135 (Ru X a Xj) O)<|Gc O (λj=>?_) (λj=>?_)
  .exact Gr O<|Ar 5 O<|Z3 O<|⟨(a+1,q++[(a:Int)]),Tl [2] ⟨O,ah (λn=>V.gsl 2 1 n) (kX q _),O,Xq⟩ ⟨ah (λc=>UF (Ob.gro 3 c)) Xn,Xq⟩ O O Xl O,⟨⟨Xp,by simp only[IN,TP];omega⟩,by simp only;rw[s,By j,<-hq]⟩,Xp⟩
  exact Ti<|Z3 O<|⟨(a+1,q),WA O,⟨⟨Xp,Xp⟩,by simp only;rw[s,sh (by rw[j];decide),Uh,<-hq]⟩,Xp⟩
 have hz:X>>>a=0#64:=Ui r;rw[<-Hq hz ha]at hq;exact Tj (Tn 0 O O)<|Gx O<|Z2 O<|VF O<|by rw[<-hq];rfl
def cf{α:Type}(D:List α)(us:List (Nat×α)):List α:=us.foldl (λD u=>D.set u.1 u.2) D
theorem dZ{α:Type}(D:List α)(us:List (Nat×α)):(cf D us).length=D.length:=by
 unfold cf;induction us generalizing D with
 |nil=>rfl
 |cons u us ih=>rw[U0,ih,TQ]
theorem iG{α:Type}(D:List α)(us vs:List (Nat×α)):cf D (us++vs)=cf (cf D us) vs:=VN
section
variable (P:List Int)(G:List B64)
def jy:Nat->Int->B64
 |0,v=>G.getD v.toNat 0#64
 |k+1,v=>(aE P v).foldl (λz c=>z|||jy k c) (G.getD v.toNat 0#64)
def lL:Nat->Int->List Int
 |0,v=>[v]
 |k+1,v=>v::(aE P v).flatMap (lL k)
def yv:Nat->Int->B64->List (Nat×Int)
 |0,v,ab=>[(v.toNat,(tm ab:Int))]
 |k+1,v,ab=>(v.toNat,(tm ab:Int))::(aE P v).flatMap λc=>yv k c (ab|||BitVec.twoPow 64 v.toNat)
def kL(n:Nat):Nat->Int->B64->List (Nat×List Int)
 |0,v,ab=>[(v.toNat,mQ (jy P G 0 v&&&ab) n)]
 |k+1,v,ab=>((aE P v).flatMap λc=>kL n k c (ab|||BitVec.twoPow 64 v.toNat))++[(v.toNat,mQ (jy P G (k+1) v&&&ab) n)]
end
abbrev layA(G:List B64)(v:Int)(ab:B64):List V:=[pIi v,.pv (ig ab),.ptr big 0,.ptr 9004 0,.pv (.rp [kK G] 0),.ptr 9006 0]
abbrev Pk(n:Nat)(G:List B64)(chs:List (List Int))(w:Nat)(L:List Int)(D:List Int)(K:List (List Int))(hs:List PV):List (Nat×Ob):=[(big,.mix 90 [.pv (bC chs),.osl 9001 1 n,.osl 9002 1 n,.gsl w 1 L.length]),(9001,.cells 22 (K.map ar)),(9002,.cells 22 hs),(w,.gro 3 (aK L)),(9004,.mix 22 [.osl 9005 1 n]),(9005,.cells 3 (aK D)),(9006,.mix 163 [.fn (.func 72) [] [.ptr big 0,.ptr 9004 0,.pv (.rp [kK G] 0),.ptr 9006 0]])]
theorem nw2{av:Av}{b:Nat}(j:av b=VA)(q:av (b+1)=VA):(nwO b 2).all av=VA:=by
 show(av (b+0)&&(av (b+1)&&VA))=VA;rw[Vt,j,q];rfl
theorem vi{n:Nat}{NR:Int->B64}:∀(cs:List Int)(g:B64),InB n g->(∀c∈cs,InB n (NR c))->InB n (cs.foldl (λz c=>z|||NR c) g)
 |[],g,hg,_=>hg
 | c::cs,g,hg,h=>by
   rw[U0];refine vi cs _ (λi hi=>?_) λd hd=>h d (by simp[hd])
   rw[BitVec.getLsbD_or,Ub]at hi;rcases hi with hi|hi
   .exact hg i hi
   exact h c Xn i hi
theorem iy{α:Type}{cs:List Int}{j:Nat}(h:j<cs.length)(f:Int->List α):(cs.take (j+1)).flatMap f=(cs.take j).flatMap f++f cs[j]:=by
 rw[AI h,Us];simp
theorem AL{α:Type}(f:Int->List α)(cs:List Int)(j:Nat):((cs.take j).flatMap f).length<=(cs.flatMap f).length:=by grind[Ug,IN]
theorem sq(n:Nat)(hn:n<=12)(G:List B64)(hGn:G.length=n)(chs:List (List Int))(hcl:chs.length<=64)(v:Nat)(hv:v<n)(B:v<chs.length)(CS:List Int)(an:chs[v]=CS)(hCl:CS.length<=64)(ao:∀c∈CS,∃m:Nat,c=(m:Int))(ab:B64)
  (NR:Int->B64) (WS:Int->List Int) (DU:Int->List (Nat×Int)) (KU:Int->List (Nat×List Int)) (hg:InB n (G[v]'Xj)) (ap:∀c∈CS,InB n (NR c)) (E:List PV)
  (Y:∀c∈CS,∀(L D:List Int)(K:List (List Int)),D.length=n->K.length=n->L.length+(WS c).length<=1000->FnO prog 72 7 2 (layA G c (ab|||BitVec.twoPow 64 v)) (Pk n G chs 9003 L D K E) (λr ob'=>r= .pv (ig (NR c))/\ob'=aB (Pk n G chs 1 (L++WS c) (cf D (DU c)) (cf K (KU c)) E)))
  (L D:List Int) (K:List (List Int)) (hD:D.length=n) (hK:K.length=n) (hL:L.length+1+(CS.flatMap WS).length<=1000):
  FnO prog 72 7 2 (layA G v ab) (Pk n G chs 9003 L D K E) (λr ob'=>r= .pv (ig (CS.foldl (λz c=>z|||NR c) (G[v]'Xj)))/\ob'=aB (Pk n G chs 1 (L++(v:Int)::CS.flatMap WS) (cf (D.set v (tm ab)) (CS.flatMap DU)) ((cf K (CS.flatMap KU)).set v (mQ (CS.foldl (λz c=>z|||NR c) (G[v]'Xj)&&&ab) n)) E)):=by
 refine FnO.of func72 O ntmps72 Xn λ_ _ _ _=>?_
 have t:v<G.length:=Xj;have Z:=C6 t;have ac:=K5 t;have H:=gI B;have ad:=gO B;rw[an]at H;have af:=vi CS G[v] hg ap;generalize G[v]=g0 at*;have u:=JZ (CS.foldl (λz c=>z|||NR c) g0&&&ab) n Xj (λi hi=>af i (by rw[BitVec.getLsbD_and,du]at hi;exact hi.1));have hDl:(aK D).length=n:=by rw[TB,hD]
 have hpl:=Oh ab;refine Z1 O ?_;have au:(aK L).length=L.length*1:=Xn;refine Gr O<|Ar 7 O<|UB 6 O<|Dr 3 O<|TR O (λτ h=>aa call73 (Ie _) (h.aD O))<|VE [_] O (λτ h=>ak v underlying22 sz3 (Ee h 0 O O) (Eo h 0 O O) (Ee h 1 O O) O Xj)<|DL.step (d:=UG) [_] O O O (λτ h=>dB sz3 (Ee h 0 O O) (Eo h 0 O O) (Ee h 1 O O) O Xj) O Xk ?_;refine⟨Xk,?_⟩;refine Z2 O<|Rs O (ag v underlying161 MU O O O t ac)<|Rs O (az ⟨_,underlying165,O⟩ O Z)<|A1 O<|Z3 O<|Rs O (ag v underlying88 sA O O O B ad)<|Rs O (az ⟨_,underlying22,O⟩ O H)<|Y2 O<|Gz O (st:=λXr:Nat×List Int×List Int×List (List Int)=>([(0,UG),(1,UG),(2,UG),(5,UG),(9,UF (.pv (ig ((CS.take Xr.1).foldl (λz c=>z|||NR c) g0)))),(31,UG),(32,UG),(33,UF (pIi Xr.1))],[(big,UF (.mix 90 [.pv (bC chs),.osl 9001 1 n,.osl 9002 1 n,.gsl 1 1 Xr.2.1.length])),(1,UF (.gro 3 (aK Xr.2.1))),(9001,UF (.cells 22 (Xr.2.2.2.map ar))),(9002,UG),(9004,UG),(9005,UF (.cells 3 (aK Xr.2.2.1))),(9006,UG)])) 2
  (I:=λXr=>(Xr.1<=CS.length/\Xr.2.1=L++(v:Int)::(CS.take Xr.1).flatMap WS)/\Xr.2.2.1=cf (D.set v (tm ab)) ((CS.take Xr.1).flatMap DU)/\Xr.2.2.2=cf K ((CS.take Xr.1).flatMap KU)) (μ:=λXr=>CS.length-Xr.1) (x0:=(0,L++[(v:Int)],D.set v (tm ab),K)) (Tk (aS O) ⟨TX (b:=UF (.mix 90 [.pv (bC chs),.osl 9001 1 n,.osl 9002 1 n,.gsl 1 1 (L.length+1)])) Xk (ah (λq=>UF (Ob.mix 90 [.pv (bC chs),.osl 9001 1 n,.osl 9002 1 n,.gsl 1 1 q])) (kX L _)),TX (b:=UF (.gro 3 (aK L++[.int .i64 v]))) Xk (ah (λc=>UF (Ob.gro 3 c)) Xn),Xk,Xk,Xk,TX (b:=UF (.cells 3 ((aK D).set (v*1) (.int .i64 (tm ab))))) Xk (ah (λc=>UF (Ob.cells 3 c)) (by simp[US])),Xk,Xq⟩ O O) (⟨⟨aJ _,O⟩,O,O⟩) ?_
 rintro⟨j,M,D2,K2⟩ ⟨⟨hj,hM⟩,hD2,hK2⟩;try simp only at hj hM hD2 hK2 ⊢
 refine Z1 O<|Gp O (λX=>?_) (λX=>?_)
 .have hlt:j<CS.length:=Xj;have J:=aq hlt;obtain⟨c,hc⟩:=ao _ J;have al:(aK CS)[j*1]? =UF (.int .i64 (c:Int)):=by rw[<-hc];simp[hlt]
  have hpn:=aM hlt;have A:=iy hlt WS;have T:=iy hlt DU;have U:=iy hlt KU;have s:(CS.take (j+1)).foldl (λz c=>z|||NR c) g0=(CS.take j).foldl (λz c=>z|||NR c) g0|||NR CS[j]:=by rw[AI hlt,VN];rfl
  have am:((CS.take (j+1)).flatMap WS).length<=(CS.flatMap WS).length:=AL WS CS (j+1);have W:=Y _ J M D2 K2 (by rw[hD2,dZ,TQ,hD]) (by rw[hK2,dZ,hK]) (by rw[A,IN]at am;rw[hM];simp only[IN,IT];omega);rw[hc]at W A T U s;generalize (CS.take j).foldl (λz c=>z|||NR c) g0=acc at*;refine Ti<|Z1 O<|Rs O (az ⟨_,underlying3,O⟩ O al)<|A1 O<|UB 10 O<|Dr 5 O<|TR O (λτ h=>aa call74 (zW v Xj) (h.aD O))<|TR O (λτ h=>Cx (Ee h 0 O O) (Ee h 1 O O))<|VE [big,9001,9002,1,9004,9005,9006] O (λτ h=>mT (vs:=[pIi (c:Int),.pv (ig (ab|||BitVec.twoPow 64 v))]) [big,9001,9002,1,9004,9005,9006] 2 call72 W (Ee h 0 O O) (h.Qt.trans O) O O O O ⟨(Eo h 0 O O),(Eo h 1 O O),(Eo h 2 O O),(Eo h 3 O O),(Eo h 4 O O),(Eo h 5 O O),(Eo h 6 O O),Xq⟩ Xl (nw2 (h.n 0 _ O) (h.n 1 _ O)))<|TR O (λτ h=>Cx (Ee h 0 O O) (Ee h 1 O O))<|D1 O ?_;refine⟨Xk,?_⟩;exact Z2 O<|⟨(j+1,M++WS (c:Int),cf D2 (DU (c:Int)),cf K2 (KU (c:Int))),Tl [0,3] ⟨O,O,O,O,ah (λz=>V.pv (ig z)) s.symm,O,O,O,Xq⟩ (aP Xk) O O Xl O,⟨⟨Xp,by simp only;rw[A,hM];simp⟩,by simp only;rw[T,iG,<-hD2],by simp only;rw[U,iG,<-hK2]⟩,Xp⟩
 rw[show CS.take j=CS from aH Xj]at hM hD2 hK2 ⊢;have ax:(K2.map ar).length=n:=by rw[TB,hK2,dZ,hK]
 generalize CS.foldl (λz c=>z|||NR c) g0=near at*;refine Gx O<|UB 9 O<|Dr 5 O<|TR O (λτ h=>zu (Ee h 0 O O) (Ee h 1 O O))<|TR O (λτ h=>aa call75 u (h.aD O))<|VE [_] O (λτ h=>ak v underlying88 sA (Ee h 0 O O) (Eo h 0 O O) (Ee h 1 O O) O Xj)<|DL.step (d:=UG) [_] O O O (λτ h=>dB sA (Ee h 0 O O) (Eo h 0 O O) (Ee h 1 O O) O Xj) O Xk ?_;refine⟨Xk,?_⟩;exact Z2 O<|Gt O<|⟨[(8,.pv (ig near))],Pk n G chs 1 (L++(v:Int)::CS.flatMap WS) (cf (D.set v (tm ab)) (CS.flatMap DU)) ((cf K (CS.flatMap KU)).set v (mQ (near&&&ab) n)) E,[.pv (ig near)],Tk (aS O) (by rw[<-hM,<-hD2,<-hK2];exact⟨Xk,TX (b:=UF (.cells 22 ((K2.map ar).set (v*1) (ar (mQ (near&&&ab) n))))) Xk (ah (λc=>UF (Ob.cells 22 c)) (by simp[US])),Xk,Xk,Xk,Xk,Xk,Xq⟩) O O,O,O,O,O,O⟩
end
section
open Mk Jn
def nA(P:List Int)(k:Nat)(v:Int):List Int:=((List.range k).filter λa=>P.getD a 0==v).map Int.ofNat
theorem l6(P:List Int)(v:Int):nA P P.length v=aE P v:=by
 unfold nA aE upZ;rw[List.filter_map];rfl
theorem qy(P:List Int)(k:Nat)(v:Int):nA P (k+1) v=nA P k v++if P.getD k 0=v then [(k:Int)]else []:=by grind[nA,Wo]
theorem ki(P:List Int)(k:Nat)(v:Int):(nA P k v).length<=k:=by grind[nA,TB,AS,UZ]
def lsT(P:List Int)(k:Nat):List (List Int):=(upZ P.length).map (nA P k)++[nA P k (-1)]
theorem dz(P:List Int)(k:Nat):(lsT P k).length=P.length+1:=by simp[lsT,a7]
theorem Bs(P:List Int)(k:Nat){i:Nat}(h:i<P.length):(lsT P k)[i]'(by rw[dz];omega)=nA P k i:=by
 unfold lsT;rw[List.getElem_append_left (by simp[a7,h])];simp[upZ]
theorem pD(P:List Int)(k:Nat):(lsT P k)[P.length]'(by rw[dz];omega)=nA P k (-1):=by
 unfold lsT;rw[List.getElem_append_right (by simp[a7])];simp[a7]
theorem A9(P:List Int):lsT P 0=List.replicate (P.length+1) []:=by
 apply UL
 .simp[dz]
 .intro i h1 h2;rw[List.getElem_replicate];by_cases hi:i<P.length
  .rw[Bs P 0 hi];rfl
  have hi':i=P.length:=by rw[dz]at h1;omega
  subst hi';rw[pD P 0];rfl
theorem Cm{P:List Int}(s:∀p∈P, -1<=p/\p<P.length){k:Nat}(q:k<P.length)(U:Nat)(r:(P[k]= -1/\U=P.length)\/(P[k]=(U:Int)/\U<P.length)):
  lsT P (k+1)=(lsT P k).set U ((lsT P k)[U]'(by rw[dz];rcases r with h|h<;>omega)++[(k:Int)]):=by
 have j:P.getD k 0=P[k]:=by simp[List.getD,q]
 apply UL
 .simp[dz]
 grind[dz,Bs,qy,pD]
def lsP(ls:List (List Int)):List (List PV):=ls.map λl=>l.map λi=> .int .i64 i
theorem eT(ls:List (List Int)):(lsP ls).length=ls.length:=by simp[lsP]
theorem yW(ls:List (List Int))(U:Nat)(j:U<ls.length)(x:Int):lsP (ls.set U (ls[U]++[x]))=(lsP ls).set U ((lsP ls)[U]'(by rw[eT];exact j)++[.int .i64 x]):=by
 unfold lsP;rw[US];simp
theorem FT(ls:List (List Int)):chP (lsP ls)=ls.map λl=> .pv (ar l):=by
 unfold chP lsP;rw[Va];apply Ud;intro l _;simp
theorem Tb(P:List Int)(k:Nat){U:Nat}(h:U<(lsP (lsT P k)).length):((lsP (lsT P k))[U]).length<=k:=by
 have j:U<(lsT P k).length:=by rwa [eT]at h
 have e:(lsP (lsT P k))[U]=(lsT P k)[U].map λi=>PV.int .i64 i:=by simp[lsP]
 rw[e,TB];by_cases hU:U<P.length
 .rw[Bs P k hU];exact ki P k _
 grind[dz,pD,ki]
theorem tE(cs:List V)(j:Nat)(v:V)(h:j<cs.length):ik cs j [v]=cs.set j v:=by
 unfold ik;rw[VK,By h,VZ];rfl
def jv(D:List Int)(l:List Int)(j:Nat):Int:=(l.take j).foldl (λh a=>if D.getD a.toNat 0>D.getD h.toNat 0 then a else h) (l.headD 0)
theorem EF(D l:List Int){j:Nat}(h:j<l.length):jv D l (j+1)=if D.getD l[j].toNat 0>D.getD (jv D l j).toNat 0 then l[j]else jv D l j:=by
 unfold jv;rw[AI h,VN];rfl
theorem xe(D:List Int){l:List Int}(r:l≠[])(j:Nat):jv D l j∈l:=by
 have q:∀(k:List Int)(h0:Int),(∀a∈k,a∈l)->h0∈l->k.foldl (λh a=>if D.getD a.toNat 0>D.getD h.toNat 0 then a else h) h0∈l:=by
  intro k;induction k with
  |nil=>exact λh0 _ h=>h
  | cons a k ih=>
    intro h0 hk hh;rw[U0];refine ih _ (λb hb=>hk b (by simp[hb])) ?_;split
    .exact hk a Xn
    exact hh
 unfold jv;refine q _ _ (λa ha=>Vp ha) ?_;cases l with
 |nil=>exact absurd O r
 |cons x l=>simp
def hpL(D:List Int)(S:Sch):List Int:=S.rels.map λr=>jv D r.2 r.2.length
theorem OD(D:List Int)(S:Sch):(hpL D S).length=S.rels.length:=by simp[hpL]
def hsT(n:Nat)(H:List Int)(k:Nat):List (List Int):=(upZ n).map (nA H k)
theorem eI(n:Nat)(H:List Int)(k:Nat):(hsT n H k).length=n:=by simp[hsT,a7]
theorem Fl(n:Nat)(H:List Int)(k:Nat){i:Nat}(h:i<n):(hsT n H k)[i]'(by rw[eI];exact h)=nA H k i:=by simp[hsT,upZ]
theorem AG(n:Nat)(H:List Int):hsT n H 0=List.replicate n []:=by
 apply UL
 .simp[eI]
 .intro i h1 h2;rw[List.getElem_replicate,Fl n H 0 (by rwa [eI]at h1)];rfl
theorem Kw{n:Nat}{H:List Int}{k U:Nat}(q:k<H.length)(r:U<n)(e:H[k]=(U:Int)):hsT n H (k+1)=(hsT n H k).set U ((hsT n H k)[U]'(by rw[eI];exact r)++[(k:Int)]):=by
 have j:H.getD k 0=H[k]:=by simp[List.getD,q]
 apply UL
 .simp[eI]
 grind[eI,Fl,qy]
theorem SV(n:Nat)(H:List Int)(k:Nat){U:Nat}(h:U<(lsP (hsT n H k)).length):((lsP (hsT n H k))[U]).length<=k:=by
 have j:U<(hsT n H k).length:=by rwa [eT]at h
 have e:(lsP (hsT n H k))[U]=(hsT n H k)[U].map λi=>PV.int .i64 i:=by simp[lsP]
 rw[e,TB,Fl n H k (by rwa [eI]at j)];exact ki H k _
end
section
open Mk
end
section
open Mk Jn
theorem yT {σ:St} {T:TypeId} {ls:List (List PV)} {U nw:Nat} (q:U<ls.length) (x:PV) (r:σ.ob nw=UF (.gro T (ls[U]++[x]))) (s:∀ j,j<ls.length->j≠U->σ.ob (j+1000)=UF (.gro T (ls.getD j []))):
  ∀j (h:j<(ls.set U (ls[U]++[x])).length),σ.ob (rnF U nw (j+1000))=UF (.gro T ((ls.set U (ls[U]++[x]))[j])):=by grind[TQ,AH,eB,List.getElem_set_ne,List.getD]
theorem vE{σ:St}{A:Nat}{TA T:TypeId}{cells:List V}{ls:List (List PV)}(q:A<1000){j:Nat}(h:j<ls.length):(ovl σ A TA T cells ls).ob (j+1000)=UF (.gro T (ls.getD j [])):=by
 rw[dx q h];simp[List.getD,h]
theorem CG{S:Sch}{G:List B64}(j:Valid S)(q:IsG S G){a:Int}{i:Nat}(h:fa S a (i:Int)=VA):i<G.length:=by
 unfold fa at h;obtain⟨r,hr,h2⟩:=Ve.1 h;simp only[du,Tz]at h2;have:=(j.rng r hr _ h2.2).2;rw[q.len];omega
theorem tM{S:Sch}{G:List B64}(q:Valid S)(j:IsG S G)(P:List Int)(r:P.length=G.length):∀(k:Nat)(v:Nat),v<G.length->InB G.length (jy P G k v)
 | 0,v,hv=>λi hi=>by
   unfold jy at hi;rw[TU,j.bit v hv i,du]at hi;exact CG q j hi.2
 | k+1,v,hv=>by
   unfold jy;refine vi _ _ (λi hi=>?_) λc hc=>?_
   .rw[TU,j.bit v hv i,du]at hi;exact CG q j hi.2
   obtain⟨m,hm,rfl,_⟩:=bu.1 hc;exact tM q j P r k m Xj
theorem Hz(n:Nat)(J:n<=12){S:Sch}(M:Valid S)(G:List B64)(T:IsG S G)(q:G.length=n)(P:List Int)(U:UpOk P)(V:P.length=n)(chs:List (List Int))(W:chs.length=n+1)(u:∀v (h:v<n),chs[v]'Xj=aE P v)(A:List PV):∀(k v:Nat)(_:v<n)(_:n<=k+(bU P v).length+1)(ab:B64)(L D:List Int)(K:List (List Int)),D.length=n->K.length=n->L.length+(lL P k v).length<=1000->
  FnO prog 72 7 2 (layA G v ab) (Pk n G chs 9003 L D K A) (λr ob'=>r= .pv (ig (jy P G k v))/\ob'=aB (Pk n G chs 1 (L++lL P k v) (cf D (yv P k v ab)) (cf K (kL P G n k v ab)) A)):=by
 have t:∀v (h:v<G.length),G.getD v 0#64=G[v]:=λv h=>by simp[List.getD,h]
 have s:∀v (h:v<G.length),InB n G[v]:=λv h=>by
  have:=tM M T P Xj 0 v h;rw[jy,TU,t v h,q]at this;exact this
 have B:∀v,(aE P v).length<=64:=λv=>AS (UZ ..) (by rw[a7];omega)
 intro k;induction k with
 | zero=>
   intro v hv hf ab L D K hD hK hL;have E:aE P v=[]:=mg U Xj Xj;have H:=sq n J G q chs Xj v hv Xj [] (by rw[u v hv,E]) Xn Xn ab (λ_=>0#64) (λ_=>[]) (λ_=>[]) (λ_=>[]) (s v Xj) Xn A Xn L D K hD hK (by simp[lL]at hL ⊢; omega);have I:jy P G 0 (v:Int)=G[v]'Xj:=by rw[jy,TU,t v Xj]
   rw[lL,yv,kL,I,TU];exact H
 | succ k ih=>
   intro v hv hf ab L D K hD hK hL;have j:∀c∈aE P v,∃m:Nat,m<n/\c=(m:Int)/\P.getD m 0=(v:Int):=λc hc=>by
    obtain⟨m,hm,e,hp⟩:=bu.1 hc;exact⟨m,Xj,e,hp⟩
   have H:=sq n J G q chs Xj v hv Xj (aE P v) (u v hv) (B v) (λc hc=>by obtain⟨m,_,e,_⟩:=j c hc;exact⟨m,e⟩) ab (jy P G k) (lL P k) (λc=>yv P k c (ab|||BitVec.twoPow 64 v)) (λc=>kL P G n k c (ab|||BitVec.twoPow 64 v)) (s v Xj) (λc hc=>by
     obtain⟨m,hm,rfl,_⟩:=j c hc;have:=tM M T P Xj k m Xj;rwa [q]at this) A (λc hc L' D' K' hD' hK' hL'=>by
     obtain⟨m,hm,rfl,hp⟩:=j c hc;exact ih m hm (by rw[dM U Xj Xj hp,IT];omega) _ L' D' K' hD' hK' hL') L D K hD hK (by unfold lL at hL;simp only[IT]at hL;omega)
   have I:jy P G (k+1) (v:Int)=(aE P v).foldl (λz c=>z|||jy P G k c) (G[v]'Xj):=by rw[jy,TU,t v Xj]
   rw[lL,yv,kL,I,iG,TU];exact H
theorem CX{l:List (Nat×V)}{os:List (Nat×Ob)}{k:Nat}(q:l.all (λp=>p.2.all λi=>Nat.blt i 1000)=VA)(r:os.all (λp=>Nat.blt p.1 1000&&p.2.all λi=>Nat.blt i 1000)=VA):(∀t,((mkS l os k).sl t).all (λi=>Nat.blt i 1000)=VA)/\∀i o,(mkS l os k).ob i=UF o->i<1000/\o.all (λi=>Nat.blt i 1000)=VA:=by
 constructor
 .intro t;show(look l t).all _=VA;clear r;induction l with
  |nil=>rfl
  | cons p l ih=>
    simp only[VL,du]at q;obtain⟨d,v⟩:=p;simp only[look];cases Nat.beq t d with
    |true=>exact q.1
    |false=>exact ih q.2
 .intro i o h;have j:=OF.1 r _ (cm h);rw[du]at j;exact⟨M6 j.1,j.2⟩
theorem uw(P:List Int):∀(k:Nat)(v:Int),lL P k v=(cH P k v).vs
 |0,v=>by rw[lL,cH,Tr.vs,vsL]
 | k+1,v=>by
   rw[lL,cH,Tr.vs,fe,VT];rw[show lL P k=λc=>(cH P k c).vs from funext (uw P k)]
theorem uB{P:List Int}:(aE P (-1)).flatMap (lL P P.length)=aQ P:=by
 rw[<-pJ,fe,VT,show lL P P.length=λc=>(cH P P.length c).vs from funext (uw P P.length)]
def ow(S:Sch)(P:List Int)(G:List B64):VD where
 chs:=lsT P P.length
 kes:=cf (List.replicate G.length []) ((aE P (-1)).flatMap λc=>kL P G G.length P.length c 0#64)
 hos:=hsT G.length (hpL (cf (List.replicate G.length 0) ((aE P (-1)).flatMap λc=>yv P P.length c 0#64)) S) S.rels.length
 wa:=aQ P
abbrev EJ(D:VD):PV:= .agg [bC D.chs,bC D.kes,bC D.hos,ar D.wa]
theorem OB{S:Sch}{P:List Int}{G:List B64}{k i:Nat}{H M CS D2:List Int}{K2:List (List Int)}(q:k=P.length)(r:i=S.rels.length)(E:hpL D2 S=H)(I:M=CS.flatMap (lL P P.length))(j:aE P (-1)=CS)(s:D2=cf (List.replicate G.length 0) (CS.flatMap λc=>yv P P.length c 0#64))
  (t:K2=cf (List.replicate G.length []) (CS.flatMap λc=>kL P G G.length P.length c 0#64)) (u:K2.length=G.length):PV.agg [bC (lsT P k),.sl UG G.length (K2.map ar),.sl UG G.length ((hsT G.length H i).map ar),ar M]=EJ (ow S P G):=by
 have z:(ow S P G).kes=K2:=by rw[t,<-j];rfl
 have A:(ow S P G).wa=M:=by rw[I,<-j,uB];rfl
 have B:(ow S P G).hos=hsT G.length H i:=by rw[<-E,r,s,<-j];rfl
 have D:(ow S P G).chs=lsT P k:=by rw[q];rfl
 unfold EJ;rw[z,A,B,D];unfold bC;rw[u,eI]
theorem Rq(n:Nat):PV.fgL (List.replicate n nS)=(List.replicate n ([]:List Int)).map ar:=by
 induction n with
 |zero=>rfl
 |succ n ih=>rw[Wm,Wm,PV.fgL,ih,cu];rfl
theorem MG(S:Sch)(hS:SB S)(P:List Int)(hO:OrdOk S P):FnP prog 32 [gC S,pY P] (λv=>∃G,IsG S G/\v=EJ (ow S P G)):=by
 refine FnP.ofC func32 O ntmps32 Xn λ_ _ _ _=>?_
 have hV:=hO.val;have hP:=hO.jL;have hPl:=hO.len;have hn12:=hV.n2;refine Z3 O<|Z1 O<|RL.call O (ie call71 (Dv S hS hV) O ?_);rintro _ ⟨G,rfl,hG⟩;have hGl:=hG.len;refine Y2 O<|Z3 O<|UB 10 O<|Dr 10 O ?_;refine⟨Xk,?_⟩;refine Wk [(2,.ptr 0 0),(3,.ptr 1 0),(4,.ptr 2 0),(5,.ptr 3 0),(6,pIi G.length),(7,.ptr 7 0)] [(0,oZ S),(1,.mix 35 [.pv (ar P)]),(2,.mix 90 [.pv nS,.pv nS,.pv nS,.pv nS]),(3,.mix 161 [.pv (kK G)]),(4,.cells 22 (List.replicate (G.length+1) nS)),(5,.cells 22 (List.replicate G.length nS)),(6,.cells 22 (List.replicate G.length nS)),(7,.mix 90 [.osl 4 1 (G.length+1),.osl 5 1 G.length,.osl 6 1 G.length,.pv nS])] 8 (aS O) ⟨O,O,O,O,ah (λc=>UF (Ob.cells 22 c)) ((dh nS ((G.length+1)*1)).trans (by rw[TZ])),ah (λc=>UF (Ob.cells 22 c)) ((dh nS (G.length*1)).trans (by rw[TZ])),ah (λc=>UF (Ob.cells 22 c)) ((dh nS (G.length*1)).trans (by rw[TZ])),O,Xq⟩ O O<|Tj (St.yb 4 O)<|Tj (St.FN (A:=4) (TA:=22) 3 (G.length+1) (ah (λc=>UF (Ob.mix 22 c)) Xn) Xl Xj (λi h1 h2=>Fo Xl h1 h2))<|Z4 O ?_;refine Gl O (st:=λXr:Nat=>ovl (mkS [(2,.ptr 0 0),(4,.ptr 2 0),(5,.ptr 3 0),(6,pIi G.length),(7,.ptr 7 0),(32,.pv (ar P)),(33,pIi P.length),(34,pIi Xr)] [(0,oZ S),(2,.mix 90 [.pv nS,.pv nS,.pv nS,.pv nS]),(3,.mix 161 [.pv (kK G)]),(5,.cells 22 (List.replicate G.length nS)),(6,.cells 22 (List.replicate G.length nS)),(7,.mix 90 [.osl 4 1 (G.length+1),.osl 5 1 G.length,.osl 6 1 G.length,.pv nS])] 8) 4 22 3 (chV (lsP (lsT P Xr))) (lsP (lsT P Xr)))
  (I:=λXr=>Xr<=P.length) (μ:=λXr=>P.length-Xr) (x0:=0) (St.gZ 1000 999 (aT O) (aP Xk) (ah (λc=>UF (Ob.mix 22 c)) (by rw[jc 999 (by rw[eT,dz];omega),A9,hPl,hGl];unfold lsP;rw[List.map_replicate];rfl)) (λj hj=>by rw[eT,dz]at hj;rw[eB Xj];refine(dx (A:=4) (TA:=22) (cells:=chV (List.replicate (G.length+1) [])) (ls:=List.replicate (G.length+1) []) Xl (by rw[Vl];omega)).trans ?_;simp[A9,lsP]) O O Xl Xl Xl Xl (by rw[eT,dz];omega)) (aJ _) ?_
 rintro k hk;refine Z1 O<|Gp O (λhc35=>?_) (λhc35=>?_)
 .have hlt:k<P.length:=Xj;have hpn:=aM hlt;have hpv:=a6 hlt;have hpr:=hP.rng _ (aq hlt);have B:(lsP (lsT P k)).length=G.length+1:=by rw[eT,dz];omega
  have Z:=λU (h:U<(lsP (lsT P k)).length)=>Tb P k h
  generalize hls:lsP (lsT P k)=ls at*;refine Ti<|Z2 O<|A2 O Xm ?_;refine Y2 O<|Z2 O ?_;refine Gp O (λhc40=>?_) (λhc40=>?_)
  .have hm1:P[k]= -1:=Xj;have r:G.length<ls.length:=Xj;have E:lsP (lsT P (k+1))=ls.set (G.length) (ls[G.length]++[.int .i64 k]):=by have Y:G.length<(lsT P k).length:=(by rw[dz];omega);rw[Cm hO.rng hlt (G.length) (.inl ⟨hm1,Xj⟩),yW _ _ Y];subst hls;rfl
   have J:=G8 r;have aa:=Z _ r;have t:(G.length)*1+1<=(chV ls).length:=by rw[jW];omega
   refine Z2 O<|UB 13 O<|Dr 6 O<|VE [_] O (λτ h=>ak (G.length) underlying88 sA (Ee h 0 O O) (Eo h 0 O O) (Ee h 1 O O) O Xj)<|VE [_] O (λτ h=>o6 ⟨_,underlying22,O⟩ (Ee h 0 O O) (Eo h 0 O O) J)<|Dr 2 O<|VE [(G.length)+1000,8] O (λτ h=>iY 9 vY (Ee h 0 O O) ((h.o 0 _ O).trans (TX (b:=(ovl (mkS [(2,.ptr 0 0),(4,.ptr 2 0),(5,.ptr 3 0),(6,pIi G.length),(7,.ptr 7 0),(32,.pv (ar P)),(33,pIi P.length),(34,pIi k)] [(0,oZ S),(2,.mix 90 [.pv nS,.pv nS,.pv nS,.pv nS]),(3,.mix 161 [.pv (kK G)]),(5,.cells 22 (List.replicate G.length nS)),(6,.cells 22 (List.replicate G.length nS)),(7,.mix 90 [.osl 4 1 (G.length+1),.osl 5 1 G.length,.osl 6 1 G.length,.pv nS])] 8) 4 22 3 (chV (ls)) (ls)).ob (G.length+1000)) Xk (dx Xl r))) (TZ _).symm (Ee h 1 O O) (Eo h 1 O O) O O Xj (h.n 0 _ O))<|VE [_] O (λτ h=>ak (G.length) underlying88 sA (Ee h 0 O O) (Eo h 0 O O) (Ee h 1 O O) O Xj)<|DL.step (d:=UG) [_] O O O (λτ h=>o8 sA (Ee h 0 O O) (Eo h 0 O O) (Ee h 1 O O) O t O O) O Xk ?_;refine⟨Xk,?_⟩;exact Z2 O<|⟨(k+1),(by rw[E];exact St.gZ (G.length) 9 (aT O) (aP Xk) (TX (b:=UF (.mix 22 (ik (chV ls) ((G.length)*1) [.gsl 9 1 (ls[G.length].length+1)]))) Xk (ah (λc=>UF (Ob.mix 22 c)) ((tE _ _ _ (by rw[jW];omega)).trans (rb r 9 _).symm))) (yT r _ Xk (λj hj hne=>TX (b:=bif Nat.beq (j+1000) (G.length+1000)then(UG:Option Ob)else(ovl (mkS [(2,.ptr 0 0),(4,.ptr 2 0),(5,.ptr 3 0),(6,pIi G.length),(7,.ptr 7 0),(32,.pv (ar P)),(33,pIi P.length),(34,pIi k)] [(0,oZ S),(2,.mix 90 [.pv nS,.pv nS,.pv nS,.pv nS]),(3,.mix 161 [.pv (kK G)]),(5,.cells 22 (List.replicate G.length nS)),(6,.cells 22 (List.replicate G.length nS)),(7,.mix 90 [.osl 4 1 (G.length+1),.osl 5 1 G.length,.osl 6 1 G.length,.pv nS])] 8) 4 22 3 (chV (ls)) (ls)).ob (j+1000)) Xk (by rw[IW Xj,Ue];exact vE Xl hj))) O O Xl Xl Xl Xj (by rw[TQ];omega)),Xj,Xj⟩
  obtain⟨a,ha⟩:=Bg (show 0<=P[k] by omega);have r:a<ls.length:=Xj;have E:lsP (lsT P (k+1))=ls.set (a) (ls[a]++[.int .i64 k]):=by have Y:a<(lsT P k).length:=(by rw[dz];omega);rw[Cm hO.rng hlt (a) (.inr ⟨ha,Xj⟩),yW _ _ Y];subst hls;rfl
  have J:=G8 r;have aa:=Z _ r;have t:(a)*1+1<=(chV ls).length:=by rw[jW];omega
  refine Ti ?_;rw[ha];refine UB 13 O<|Dr 6 O<|VE [_] O (λτ h=>ak (a) underlying88 sA (Ee h 0 O O) (Eo h 0 O O) (Ee h 1 O O) O Xj)<|VE [_] O (λτ h=>o6 ⟨_,underlying22,O⟩ (Ee h 0 O O) (Eo h 0 O O) J)<|Dr 2 O<|VE [(a)+1000,8] O (λτ h=>iY 9 vY (Ee h 0 O O) ((h.o 0 _ O).trans (TX (b:=(ovl (mkS [(2,.ptr 0 0),(4,.ptr 2 0),(5,.ptr 3 0),(6,pIi G.length),(7,.ptr 7 0),(32,.pv (ar P)),(33,pIi P.length),(34,pIi k)] [(0,oZ S),(2,.mix 90 [.pv nS,.pv nS,.pv nS,.pv nS]),(3,.mix 161 [.pv (kK G)]),(5,.cells 22 (List.replicate G.length nS)),(6,.cells 22 (List.replicate G.length nS)),(7,.mix 90 [.osl 4 1 (G.length+1),.osl 5 1 G.length,.osl 6 1 G.length,.pv nS])] 8) 4 22 3 (chV (ls)) (ls)).ob (a+1000)) Xk (dx Xl r))) (TZ _).symm (Ee h 1 O O) (Eo h 1 O O) O O Xj (h.n 0 _ O))<|VE [_] O (λτ h=>ak (a) underlying88 sA (Ee h 0 O O) (Eo h 0 O O) (Ee h 1 O O) O Xj)<|DL.step (d:=UG) [_] O O O (λτ h=>o8 sA (Ee h 0 O O) (Eo h 0 O O) (Ee h 1 O O) O t O O) O Xk ?_;refine⟨Xk,?_⟩;exact Z2 O<|⟨(k+1),(by rw[E];exact St.gZ (a) 9 (aT O) (aP Xk) (TX (b:=UF (.mix 22 (ik (chV ls) ((a)*1) [.gsl 9 1 (ls[a].length+1)]))) Xk (ah (λc=>UF (Ob.mix 22 c)) ((tE _ _ _ (by rw[jW];omega)).trans (rb r 9 _).symm))) (yT r _ Xk (λj hj hne=>TX (b:=bif Nat.beq (j+1000) (a+1000)then(UG:Option Ob)else(ovl (mkS [(2,.ptr 0 0),(4,.ptr 2 0),(5,.ptr 3 0),(6,pIi G.length),(7,.ptr 7 0),(32,.pv (ar P)),(33,pIi P.length),(34,pIi k)] [(0,oZ S),(2,.mix 90 [.pv nS,.pv nS,.pv nS,.pv nS]),(3,.mix 161 [.pv (kK G)]),(5,.cells 22 (List.replicate G.length nS)),(6,.cells 22 (List.replicate G.length nS)),(7,.mix 90 [.osl 4 1 (G.length+1),.osl 5 1 G.length,.osl 6 1 G.length,.pv nS])] 8) 4 22 3 (chV (ls)) (ls)).ob (j+1000)) Xk (by rw[IW Xj,Ue];exact vE Xl hj))) O O Xl Xl Xl Xj (by rw[TQ];omega)),Xj,Xj⟩
 have hkP:k=P.length:=Xj;have B:(lsP (lsT P k)).length=G.length+1:=by rw[eT,dz];omega
 have hLl:(lsT P k).length=G.length+1:=by rw[dz];omega
 have hcp:chP (lsP (lsT P k))=((lsT P k).map ar).map V.pv:=by rw[FT,Va];rfl
 generalize hls:lsP (lsT P k)=ls at*;refine Tj (St.gZ (l:=[(2,.ptr 0 0),(4,.ptr 2 0),(5,.ptr 3 0),(6,pIi G.length),(7,.ptr 7 0)]) (os:=[(0,oZ S),(2,.mix 90 [.pv nS,.pv nS,.pv nS,.pv nS]),(3,.mix 161 [.pv (kK G)]),(5,.cells 22 (List.replicate G.length nS)),(6,.cells 22 (List.replicate G.length nS)),(7,.mix 90 [.osl 4 1 (G.length+1),.osl 5 1 G.length,.osl 6 1 G.length,.pv nS])]) (k:=8) (A:=4) (TA:=22) (T:=3) (ls:=ls) 1000 999 (aT Xk) (aP Xk) (TX (b:=UF (.mix 22 (chV ls))) Xk (by rw[jc 999 Xj])) (λj hj=>by rw[eB Xj];exact TX (b:=(ovl (mkS [(2,.ptr 0 0),(4,.ptr 2 0),(5,.ptr 3 0),(6,pIi G.length),(7,.ptr 7 0),(32,.pv (ar P)),(33,pIi P.length),(34,pIi k)] [(0,oZ S),(2,.mix 90 [.pv nS,.pv nS,.pv nS,.pv nS]),(3,.mix 161 [.pv (kK G)]),(5,.cells 22 (List.replicate G.length nS)),(6,.cells 22 (List.replicate G.length nS)),(7,.mix 90 [.osl 4 1 (G.length+1),.osl 5 1 G.length,.osl 6 1 G.length,.pv nS])] 8) 4 22 3 (chV (ls)) (ls)).ob (j+1000)) Xk (dx Xl hj)) O O Xl Xl Xl Xl Xj) ?_;have hsm:=CX (l:=[(2,.ptr 0 0),(4,.ptr 2 0),(5,.ptr 3 0),(6,pIi G.length),(7,.ptr 7 0)]) (os:=[(0,oZ S),(2,.mix 90 [.pv nS,.pv nS,.pv nS,.pv nS]),(3,.mix 161 [.pv (kK G)]),(5,.cells 22 (List.replicate G.length nS)),(6,.cells 22 (List.replicate G.length nS)),(7,.mix 90 [.osl 4 1 (G.length+1),.osl 5 1 G.length,.osl 6 1 G.length,.pv nS])]) (k:=8) O O;refine Tj (St.H8 ls Xl Xj hsm.1 hsm.2)<|Tj (St.I3 (id:=4) (cs:=(lsT P k).map ar) O hcp)<|Tj (Tk (l:=[(2,.ptr 0 0),(4,.ptr 2 0),(5,.ptr 3 0),(6,pIi G.length),(7,.ptr 7 0)]) (os:=(4,.cells 22 ((lsT P k).map ar))::[(0,oZ S),(2,.mix 90 [.pv nS,.pv nS,.pv nS,.pv nS]),(3,.mix 161 [.pv (kK G)]),(5,.cells 22 (List.replicate G.length nS)),(6,.cells 22 (List.replicate G.length nS)),(7,.mix 90 [.osl 4 1 (G.length+1),.osl 5 1 G.length,.osl 6 1 G.length,.pv nS])]) (k:=8) (aS Xk) (aO Xk) O O)<|Tj (St.da 7 3 8 1 3 O O O)<|Tj (Tn 4 O O)<|Tj (St.Nt 7 O)<|Tj (St.SD (id:=5) O)<|Wk [(2,.ptr 0 0),(4,.ptr 2 0),(5,.ptr 3 0),(6,pIi G.length),(7,.ptr 7 0)] [(0,oZ S),(2,.mix 90 [.pv nS,.pv nS,.pv nS,.pv nS]),(3,.mix 161 [.pv (kK G)]),(5,.cells 22 ((List.replicate G.length ([]:List Int)).map ar)),(6,.cells 22 (List.replicate G.length nS)),(7,.mix 90 [.pv (bC (lsT P k)),.osl 5 1 G.length,.osl 6 1 G.length,.gsl 8 1 0]),(8,.gro 3 (aK []))] 9 (aS Xk) ⟨Xk,Xk,Xk,TX (b:=UF (.cells 22 (PV.fgL (List.replicate G.length nS)))) Xk (ah (λc=>UF (Ob.cells 22 c)) (Rq _)),Xk,TX (b:=UF (.mix 90 [.pv (.sl UG (G.length+1) ((lsT P k).map ar)),.osl 5 1 G.length,.osl 6 1 G.length,.gsl 8 1 0])) Xk (ah (λq=>UF (Ob.mix 90 [.pv (.sl UG q ((lsT P k).map ar)),.osl 5 1 G.length,.osl 6 1 G.length,.gsl 8 1 0])) hLl.symm),Xk,Xq⟩ O O ?_;clear hls hcp B;have hCl:(aE P (-1)).length<=64:=AS (UZ ..) (by rw[a7];omega);have hCm:∀c∈aE P (-1),∃m:Nat,m<G.length/\c=(m:Int)/\P.getD m 0= -1:=λc hc=>by obtain⟨m,hm,e,hp⟩:=bu.1 hc;exact⟨m,Xj,e,hp⟩
 have ac:G.length<(lsT P k).length:=Xj;have hrv:=gI ac;have hrn:=gO ac;have ad:(lsT P k)[G.length]=aE P (-1):=by have Y:=pD P k;rw[hkP,l6]at Y;simp only[hkP,hGl,<-hPl];exact Y
 rw[ad]at hrv;have hch:∀v (h:v<G.length),(lsT P k)[v]'Xj=aE P v:=λv h=>by have Y:=Bs P k (i:=v) Xj;rw[Y,hkP,l6]
 have hvis:=fun(m:Nat)(hm:m<G.length)(hr:P.getD m 0= -1)=>Hz G.length Xj hV G hG O P hP Xj (lsT P k) hLl hch (List.replicate G.length nS) P.length m hm Xj 0#64
 have hvl:((aE P (-1)).flatMap (lL P P.length)).length<=12:=by rw[uB,J5 hP];omega
 generalize hCS:aE P (-1)=CS at*;refine Gx O<|Z4 O<|Z1 O<|Tj (St.jZ 3 O O)<|Z2 O<|Z3 O<|Rs O (ag G.length underlying88 sA O O O ac hrn)<|Rs O (az ⟨_,underlying22,O⟩ O hrv)<|Y2 O<|Gz O (st:=λs:Nat×List Int×List Int×List (List Int)=>([(2,UG),(4,UG),(7,UG),(10,UG),(11,UG),(62,UG),(63,UG),(64,UF (pIi s.1))],[(0,UG),(2,UG),(5,UF (.cells 22 (s.2.2.2.map ar))),(6,UG),(7,UF (.mix 90 [.pv (bC ((lsT P k))),.osl 5 1 G.length,.osl 6 1 G.length,.gsl 8 1 s.2.1.length])),(8,UF (.gro 3 (aK s.2.1))),(9,UF (.cells 3 (aK s.2.2.1))),(10,UG),(11,UG)])) 12
  (I:=λs=>(s.1<=CS.length/\s.2.1=(CS.take s.1).flatMap (lL P P.length))/\s.2.2.1=cf (List.replicate G.length 0) ((CS.take s.1).flatMap λc=>yv P P.length c 0#64)/\s.2.2.2=cf (List.replicate G.length []) ((CS.take s.1).flatMap λc=>kL P G G.length P.length c 0#64)) (μ:=λs=>CS.length-s.1) (x0:=(0,[],List.replicate G.length 0,List.replicate G.length [])) (Tk (aS O) ⟨Xk,Xk,Xk,Xk,Xk,Xk,TX (b:=UF (.cells 3 (mkZ [.int .i64 0] (G.length*1)))) Xk (ah (λc=>UF (Ob.cells 3 c)) ((dh (.int .i64 0) (G.length*1)).trans (by rw[TZ];show _=List.map _ (List.replicate _ _);rw[List.map_replicate]))),Xk,Xk,Xq⟩ O O) (⟨⟨aJ _,O⟩,O,O⟩) ?_
 rintro⟨j,M,D2,K2⟩ ⟨⟨hj,hM⟩,hD2,hK2⟩;try simp only at hj hM hD2 hK2 ⊢
 refine Z1 O<|Gp O (λhc65=>?_) (λhc65=>?_)
 .have hlt:j<CS.length:=Xj;have hcm:=aq hlt;obtain⟨c,hcl,hc,hcr⟩:=hCm _ hcm;have hpv2:(aK CS)[j*1]? =UF (.int .i64 (c:Int)):=by rw[<-hc];simp[hlt]
  have hpn2:=aM hlt;have af:=iy hlt (lL P P.length);have htd:=iy hlt (λc=>yv P P.length c 0#64);have htk:=iy hlt (λc=>kL P G G.length P.length c 0#64);have hfl:=AL (lL P P.length) CS (j+1);rw[hc]at af htd htk;have hgo:=hvis c hcl hcr M D2 K2 (by rw[hD2,dZ,Vl]) (by rw[hK2,dZ,Vl]) (by rw[af,IN]at hfl;rw[hM];omega);exact Ti<|Z1 O<|Rs O (az ⟨_,underlying3,O⟩ O hpv2)<|A1 O<|Z2 O<|Rs O (mT (vs:=[pIi (c:Int),.pv (ig 0#64)]) [7,5,6,8,10,9,11] 12 call72 hgo O O O O O O ⟨Xk,Xk,Xk,Xk,Xk,Xk,Xk,Xq⟩ Xl O)<|Z2 O<|⟨(j+1,M++lL P P.length (c:Int),cf D2 (yv P P.length (c:Int) 0#64),cf K2 (kL P G G.length P.length (c:Int) 0#64)),Tl [0,1,2,3,4,5,6,7,13,9,10,11] (aT O) (aP Xk) O O Xl O,⟨⟨Xp,by simp only;rw[af,<-hM]⟩,by simp only;rw[htd,iG,<-hD2],by simp only;rw[htk,iG,<-hK2]⟩,Xp⟩
 rw[show CS.take j=CS from aH Xj]at hM hD2 hK2;have al:D2.length=G.length:=by rw[hD2,dZ,Vl]
 have hKl:K2.length=G.length:=by rw[hK2,dZ,Vl]
 have hIl:(aK D2).length=G.length:=by rw[TB,al]
 have hrl5:=hV.r2;have hrln:=hS.rl;have hHl:=OD D2 S;generalize hH:hpL D2 S=H at hHl;have hHr:∀i (h:i<S.rels.length),H[i]'Xj=jv D2 S.rels[i].2 S.rels[i].2.length:=λi h=>by subst hH;simp[hpL]
 refine Wk [(2,.ptr 0 0),(4,.ptr 2 0),(7,.ptr 7 0),(10,.ptr 10 0)] [(0,oZ S),(2,.mix 90 [.pv nS,.pv nS,.pv nS,.pv nS]),(5,.cells 22 (K2.map ar)),(6,.cells 22 (List.replicate G.length nS)),(7,.mix 90 [.pv (bC (lsT P k)),.osl 5 1 G.length,.osl 6 1 G.length,.gsl 8 1 M.length]),(8,.gro 3 (aK M)),(9,.cells 3 (aK D2)),(10,.mix 22 [.osl 9 1 G.length])] 12 (aS Xk) (aO Xk) O O<|Tj (St.yb 6 O)<|Tj (St.FN (A:=6) (TA:=22) 3 G.length (ah (λc=>UF (Ob.mix 22 c)) Xn) Xl Xj (λi h1 h2=>Fo Xl h1 h2))<|Gx O<|Z4 O ?_;refine Gl O (st:=λu:Nat=>ovl (mkS [(4,.ptr 2 0),(7,.ptr 7 0),(10,.ptr 10 0),(73,.pv (.sl UG S.rels.length (aY S.rels))),(74,pIi S.rels.length),(75,pIi u)] [(2,.mix 90 [.pv nS,.pv nS,.pv nS,.pv nS]),(5,.cells 22 (K2.map ar)),(7,.mix 90 [.pv (bC (lsT P k)),.osl 5 1 G.length,.osl 6 1 G.length,.gsl 8 1 M.length]),(8,.gro 3 (aK M)),(9,.cells 3 (aK D2)),(10,.mix 22 [.osl 9 1 G.length])] 12) 6 22 3 (chV (lsP (hsT G.length H u))) (lsP (hsT G.length H u)))
  (I:=λu=>u<=S.rels.length) (μ:=λu=>S.rels.length-u) (x0:=0) (St.gZ 1000 999 (aT O) (aP Xk) (ah (λc=>UF (Ob.mix 22 c)) (by rw[jc 999 (by rw[eT,eI];omega),AG];unfold lsP;rw[List.map_replicate];rfl)) (λj hj=>by rw[eT,eI]at hj;rw[eB Xj];refine(dx (A:=6) (TA:=22) (cells:=chV (List.replicate G.length [])) (ls:=List.replicate G.length []) Xl (by rw[Vl];omega)).trans ?_;simp[AG,lsP]) O O Xl Xl Xl Xl (by rw[eT,eI];omega)) (aJ _) ?_
 rintro i hi;refine Z1 O<|Gp O (λhc76=>?_) (λhc76=>?_)
 .have hli:i<S.rels.length:=Xj;have hrow:=fb hli;have hne:=iD hli;have hrk:=hrln _ (aq hli);have hrr:=hV.rng _ (aq hli);have L:=hV.ne _ (aq hli);have hHi:=hHr i hli;have B:(lsP (hsT G.length H i)).length=G.length:=by rw[eT,eI]
  have Z:=λU (h:U<(lsP (hsT G.length H i)).length)=>SV G.length H i h
  generalize S.rels[i]=rk at*;have hhm:=λj=>xe D2 L j
  have W:∀x∈rk.2,∃m:Nat,m<G.length/\x=(m:Int):=λx hx=>by obtain⟨m,e⟩:=Bg (hrr x hx).1;exact⟨m,by have:=(hrr x hx).2;omega,e⟩
  obtain⟨U,hUn,hUe⟩:=W _ (hhm rk.2.length);generalize hls:lsP (hsT G.length H i)=ls at*;have r:U<ls.length:=Xj;have E:lsP (hsT G.length H (i+1))=ls.set U (ls[U]++[.int .i64 i]):=by have Y:U<(hsT G.length H i).length:=(by rw[eI];exact hUn);rw[Kw Xj hUn (hHi.trans hUe),yW _ _ Y];subst hls;rfl
  have J:=G8 r;have aa:=Z _ r;have t:U*1+1<=(chV ls).length:=by rw[jW];omega
  have h0l:0<rk.2.length:=Uq.2 L;have hq0:(aK rk.2)[0*1]? =UF (.int .i64 (jv D2 rk.2 0)):=by cases hc:rk.2 with|nil=>exact absurd hc L|cons x l=>simp[jv]
  have hpn0:=aM h0l;refine Ti<|Z2 O<|A3 O Xm ?_;refine Y3 O<|Z2 O<|Rs O (ag 0 underlying22 sz3 O O O h0l hpn0)<|Rs O (az ⟨_,underlying3,O⟩ O hq0)<|A1 O<|Z4 O ?_;refine Gl O (st:=λD:Nat=>ovl (mkS [(4,.ptr 2 0),(7,.ptr 7 0),(10,.ptr 10 0),(14,pIi i),(16,pIi (jv D2 rk.2 D)),(73,.pv (.sl UG S.rels.length (aY S.rels))),(74,pIi S.rels.length),(75,pIi i),(85,.pv (ar rk.2)),(86,pIi rk.2.length),(87,pIi D)] [(2,.mix 90 [.pv nS,.pv nS,.pv nS,.pv nS]),(5,.cells 22 (K2.map ar)),(7,.mix 90 [.pv (bC (lsT P k)),.osl 5 1 G.length,.osl 6 1 G.length,.gsl 8 1 M.length]),(8,.gro 3 (aK M)),(9,.cells 3 (aK D2)),(10,.mix 22 [.osl 9 1 G.length])] 13) 6 22 3 (chV ls) (ls))
   (I:=λD=>D<=rk.2.length) (μ:=λD=>rk.2.length-D) (x0:=0) (St.gZ 1000 999 (aT O) (aP Xk) (TX (b:=UF (.mix 22 (chV ls))) Xk (by rw[jc 999 Xj])) (λj2 hj2=>by rw[eB Xj];exact TX (b:=(ovl (mkS [(4,.ptr 2 0),(7,.ptr 7 0),(10,.ptr 10 0),(73,.pv (.sl UG S.rels.length (aY S.rels))),(74,pIi S.rels.length),(75,pIi i)] [(2,.mix 90 [.pv nS,.pv nS,.pv nS,.pv nS]),(5,.cells 22 (K2.map ar)),(7,.mix 90 [.pv (bC (lsT P k)),.osl 5 1 G.length,.osl 6 1 G.length,.gsl 8 1 M.length]),(8,.gro 3 (aK M)),(9,.cells 3 (aK D2)),(10,.mix 22 [.osl 9 1 G.length])] 12) 6 22 3 (chV (ls)) (ls)).ob (j2+1000)) Xk (dx Xl hj2)) O O Xl Xl Xl Xl Xj) (aJ _) ?_
  rintro j3 hj3;refine Z1 O<|Gp O (λhc88=>?_) (λhc88=>?_)
  .have hl3:j3<rk.2.length:=Xj;obtain⟨a,hal,ha⟩:=W _ (aq hl3);obtain⟨mh,hml,hmh⟩:=W _ (hhm j3);have hpv3:(aK rk.2)[j3*1]? =UF (.int .i64 (a:Int)):=by rw[<-ha];simp[hl3]
   have hpn3:=aM hl3;have hDa:(aK D2)[a*1]? =UF (.int .i64 (D2.getD a 0)):=by simp[List.getD,al,hal]
   have hDm:(aK D2)[mh*1]? =UF (.int .i64 (D2.getD mh 0)):=by simp[List.getD,al,hml]
   have am:=EF D2 rk.2 hl3;rw[ha,hmh,TU,TU]at am;refine Ti<|Z1 O<|Rs O (az ⟨_,underlying3,O⟩ O hpv3)<|A1 O<|UB 9 O<|Dr 2 O<|VE [_] O (λτ h=>ak a underlying22 sz3 (Ee h 0 O O) (Eo h 0 O O) (Ee h 1 O O) O Xj)<|VE [_] O (λτ h=>dA ⟨_,underlying3,O⟩ (Ee h 0 O O) (Eo h 0 O O) hDa)<|Dr 2 O<|VE [_] O (λτ h=>ak mh underlying22 sz3 (Ee h 0 O O) (Eo h 0 O O) (Ee h 1 O O) hmh Xj)<|VE [_] O (λτ h=>dA ⟨_,underlying3,O⟩ (Ee h 0 O O) (Eo h 0 O O) hDm)<|D1 O ?_;refine⟨Xk,?_⟩;refine Gp O (λX=>?_) (λX=>?_)
   .exact Z2 O<|Z2 O<|⟨(j3+1),St.gZ 1000 999 ⟨O,O,O,O,ah (λz=>pIi z) (am.trans (By X)).symm,O,O,O,O,O,O,Xq⟩ (aP Xk) (TX (b:=UF (.mix 22 (chV ls))) Xk (by rw[jc 999 Xj])) (λj2 hj2=>by rw[eB Xj];exact TX (b:=(ovl (mkS [(4,.ptr 2 0),(7,.ptr 7 0),(10,.ptr 10 0),(14,pIi i),(16,pIi (jv D2 rk.2 j3)),(73,.pv (.sl UG S.rels.length (aY S.rels))),(74,pIi S.rels.length),(75,pIi i),(85,.pv (ar rk.2)),(86,pIi rk.2.length),(87,pIi j3)] [(2,.mix 90 [.pv nS,.pv nS,.pv nS,.pv nS]),(5,.cells 22 (K2.map ar)),(7,.mix 90 [.pv (bC (lsT P k)),.osl 5 1 G.length,.osl 6 1 G.length,.gsl 8 1 M.length]),(8,.gro 3 (aK M)),(9,.cells 3 (aK D2)),(10,.mix 22 [.osl 9 1 G.length])] 13) 6 22 3 (chV ls) (ls)).ob (j2+1000)) Xk (dx Xl hj2)) O O Xl Xl Xl Xl Xj,Xj,Xj⟩
   exact Ti<|Z2 O<|⟨(j3+1),St.gZ 1000 999 ⟨O,O,O,O,ah (λz=>pIi z) ((am.trans (sh X)).trans hmh.symm).symm,O,O,O,O,O,O,Xq⟩ (aP Xk) (TX (b:=UF (.mix 22 (chV ls))) Xk (by rw[jc 999 Xj])) (λj2 hj2=>by rw[eB Xj];exact TX (b:=(ovl (mkS [(4,.ptr 2 0),(7,.ptr 7 0),(10,.ptr 10 0),(14,pIi i),(16,pIi (jv D2 rk.2 j3)),(73,.pv (.sl UG S.rels.length (aY S.rels))),(74,pIi S.rels.length),(75,pIi i),(85,.pv (ar rk.2)),(86,pIi rk.2.length),(87,pIi j3)] [(2,.mix 90 [.pv nS,.pv nS,.pv nS,.pv nS]),(5,.cells 22 (K2.map ar)),(7,.mix 90 [.pv (bC (lsT P k)),.osl 5 1 G.length,.osl 6 1 G.length,.gsl 8 1 M.length]),(8,.gro 3 (aK M)),(9,.cells 3 (aK D2)),(10,.mix 22 [.osl 9 1 G.length])] 13) 6 22 3 (chV ls) (ls)).ob (j2+1000)) Xk (dx Xl hj2)) O O Xl Xl Xl Xl Xj,Xj,Xj⟩
  have hje:j3=rk.2.length:=Xj;rw[<-hje]at hUe;refine Gx O<|UB 13 O<|Dr 6 O<|VE [_] O (λτ h=>ak U underlying88 sA (Ee h 0 O O) (Eo h 0 O O) (Ee h 1 O O) hUe Xj)<|VE [_] O (λτ h=>o6 ⟨_,underlying22,O⟩ (Ee h 0 O O) (Eo h 0 O O) J)<|Dr 2 O<|VE [U+1000,13] O (λτ h=>iY 14 vY (Ee h 0 O O) ((h.o 0 _ O).trans (TX (b:=(ovl (mkS [(4,.ptr 2 0),(7,.ptr 7 0),(10,.ptr 10 0),(14,pIi i),(16,pIi (jv D2 rk.2 j3)),(73,.pv (.sl UG S.rels.length (aY S.rels))),(74,pIi S.rels.length),(75,pIi i),(85,.pv (ar rk.2)),(86,pIi rk.2.length),(87,pIi j3)] [(2,.mix 90 [.pv nS,.pv nS,.pv nS,.pv nS]),(5,.cells 22 (K2.map ar)),(7,.mix 90 [.pv (bC (lsT P k)),.osl 5 1 G.length,.osl 6 1 G.length,.gsl 8 1 M.length]),(8,.gro 3 (aK M)),(9,.cells 3 (aK D2)),(10,.mix 22 [.osl 9 1 G.length])] 13) 6 22 3 (chV ls) (ls)).ob (U+1000)) Xk (dx Xl r))) (TZ _).symm (Ee h 1 O O) (Eo h 1 O O) O O Xj (h.n 0 _ O))<|VE [_] O (λτ h=>ak U underlying88 sA (Ee h 0 O O) (Eo h 0 O O) (Ee h 1 O O) hUe Xj)<|DL.step (d:=UG) [_] O O O (λτ h=>o8 sA (Ee h 0 O O) (Eo h 0 O O) (Ee h 1 O O) O t O O) O Xk ?_;refine⟨Xk,?_⟩;exact Z2 O<|⟨(i+1),(by rw[E];exact St.gZ U 14 (aT O) (aP Xk) (TX (b:=UF (.mix 22 (ik (chV ls) (U*1) [.gsl 14 1 (ls[U].length+1)]))) Xk (ah (λc=>UF (Ob.mix 22 c)) ((tE _ _ _ (by rw[jW];omega)).trans (rb r 14 _).symm))) (yT r _ Xk (λj2 hj2 hne2=>TX (b:=bif Nat.beq (j2+1000) (U+1000)then(UG:Option Ob)else(ovl (mkS [(4,.ptr 2 0),(7,.ptr 7 0),(10,.ptr 10 0),(14,pIi i),(16,pIi (jv D2 rk.2 j3)),(73,.pv (.sl UG S.rels.length (aY S.rels))),(74,pIi S.rels.length),(75,pIi i),(85,.pv (ar rk.2)),(86,pIi rk.2.length),(87,pIi j3)] [(2,.mix 90 [.pv nS,.pv nS,.pv nS,.pv nS]),(5,.cells 22 (K2.map ar)),(7,.mix 90 [.pv (bC (lsT P k)),.osl 5 1 G.length,.osl 6 1 G.length,.gsl 8 1 M.length]),(8,.gro 3 (aK M)),(9,.cells 3 (aK D2)),(10,.mix 22 [.osl 9 1 G.length])] 13) 6 22 3 (chV ls) (ls)).ob (j2+1000)) Xk (by rw[IW Xj,Ue];exact vE Xl hj2))) O O Xl Xl Xl Xj (by rw[TQ];omega)),Xj,Xj⟩
 have hie:i=S.rels.length:=Xj;have B:(lsP (hsT G.length H i)).length=G.length:=by rw[eT,eI]
 have hcp2:chP (lsP (hsT G.length H i))=((hsT G.length H i).map ar).map V.pv:=by rw[FT,Va];rfl
 generalize hls:lsP (hsT G.length H i)=ls at*;refine Tj (St.gZ (l:=[(4,.ptr 2 0),(7,.ptr 7 0)]) (os:=[(2,.mix 90 [.pv nS,.pv nS,.pv nS,.pv nS]),(5,.cells 22 (K2.map ar)),(7,.mix 90 [.pv (bC (lsT P k)),.osl 5 1 G.length,.osl 6 1 G.length,.gsl 8 1 M.length]),(8,.gro 3 (aK M))]) (k:=12) (A:=6) (TA:=22) (T:=3) (ls:=ls) 1000 999 (aT Xk) (aP Xk) (TX (b:=UF (.mix 22 (chV ls))) Xk (by rw[jc 999 Xj])) (λj2 hj2=>by rw[eB Xj];exact TX (b:=(ovl (mkS [(4,.ptr 2 0),(7,.ptr 7 0),(10,.ptr 10 0),(73,.pv (.sl UG S.rels.length (aY S.rels))),(74,pIi S.rels.length),(75,pIi i)] [(2,.mix 90 [.pv nS,.pv nS,.pv nS,.pv nS]),(5,.cells 22 (K2.map ar)),(7,.mix 90 [.pv (bC (lsT P k)),.osl 5 1 G.length,.osl 6 1 G.length,.gsl 8 1 M.length]),(8,.gro 3 (aK M)),(9,.cells 3 (aK D2)),(10,.mix 22 [.osl 9 1 G.length])] 12) 6 22 3 (chV (ls)) (ls)).ob (j2+1000)) Xk (dx Xl hj2)) O O Xl Xl Xl Xl Xj) ?_;have ab:=CX (l:=[(4,.ptr 2 0),(7,.ptr 7 0)]) (os:=[(2,.mix 90 [.pv nS,.pv nS,.pv nS,.pv nS]),(5,.cells 22 (K2.map ar)),(7,.mix 90 [.pv (bC (lsT P k)),.osl 5 1 G.length,.osl 6 1 G.length,.gsl 8 1 M.length]),(8,.gro 3 (aK M))]) (k:=12) O O;exact Tj (St.H8 ls Xl Xj ab.1 ab.2)<|Tj (St.I3 (id:=6) (cs:=(hsT G.length H i).map ar) O hcp2)<|Wk [(4,.ptr 2 0),(7,.ptr 7 0)] [(2,.mix 90 [.pv nS,.pv nS,.pv nS,.pv nS]),(5,.cells 22 (K2.map ar)),(6,.cells 22 ((hsT G.length H i).map ar)),(7,.mix 90 [.pv (bC (lsT P k)),.osl 5 1 G.length,.osl 6 1 G.length,.gsl 8 1 M.length]),(8,.gro 3 (aK M))] 12 (aS Xk) (aO Xk) O O<|Tj (Tn 6 O O)<|Tj (Tn 5 O O)<|Tj (Tn 8 O O)<|Tj (St.Nt 7 O)<|Gx O<|Z2 O<|VF O ⟨⟨ax ⟨_,underlying90,O⟩ sz90 O O O,Xq⟩,G,hG,OB hkP hie hH hM hCS hD2 hK2 hKl⟩
end
section
open Mk Jn
end
section
open Mk
theorem Ml{l:List Int}{x:B64}(j:l.Nodup)(r:∀y∈l,0<=y)(s:∀a:Nat,(a:Int)∈l↔x.getLsbD a=VA):l.length=tm x:=by
 have q:l.Perm (((List.range 64).filter λi=>x.getLsbD i).map Int.ofNat):=dT j (List.Pairwise.map _ (λa b h e=>h (Int.ofNat.inj e)) (Vs UT List.nodup_range)) λy=>by grind[Bg,UW.2,UR.2,UW.1]
 rw[q.length_eq,TB];unfold tm;rw[List.countP_eq_length_filter]

end
section
open Mk Jn
set_option autoImplicit false
theorem qI{α:Type}(f:Nat->α):∀(us:List (Nat×α))(D:List α),(∀p∈us,p.2=f p.1)->∀i,i<D.length->(cf D us)[i]? =if i∈us.map (·.1)then UF (f i)else D[i]?
 |[],D,_,i,_=>by simp[cf]
 | u::us,D,h,i,hi=>by
   have e:cf D (u::us)=cf (D.set u.1 u.2) us:=rfl;rw[e,qI f us _ (λp hp=>h p (by simp[hp])) i (by simpa using hi)];by_cases h1:i∈us.map (·.1)
   .grind
   grind
theorem PR{cs:List Int}{F:Int->B64}(x:Nat):∀g:B64,(cs.foldl (λz c=>z|||F c) g).getLsbD x=(g.getLsbD x||cs.any λc=>(F c).getLsbD x):=by induction cs<;>grind
theorem yX{S:Sch}{P:List Int}(q:UpOk P){v:Nat}(r:v<P.length):(upZ P.length).filter (λa=>decide (a∈bU P v)&&(bA P v).any λb=>fa S a b)=cK S P v:=by
 unfold cK;refine o5 ?_ (Vs UT ((Iq P.length).imp λh=>Int.le_of_lt h));have j:=(Vh.1 (fN q v r)).2;refine dT (Vs UT (cq _)) (by unfold Ke;exact Vs UT j) λa=>?_
 unfold Ke;rw[UW,UW,du,Vj];refine⟨λh=>h.2,λh=>⟨?_,h⟩⟩;obtain⟨x,hx,e,_⟩:=gL q v r a h.1;exact bp.2 ⟨x,hx,e⟩
def AbB(P:List Int)(v:Nat)(ab:B64):Prop:=∀x:Nat,ab.getLsbD x=VA↔(x:Int)∈bU P v
theorem xz(P:List Int)(G:List B64)(x:Nat):∀(k:Nat)(v:Int),(jy P G k v).getLsbD x=(lL P k v).any λm=>(G.getD m.toNat 0#64).getLsbD x
 |0,v=>by rw[jy,lL];simp
 | k+1,v=>by
   rw[jy,lL,PR,List.any_cons,List.any_flatMap]
   congr 1
   exact ah (aE P v).any (funext λc=>xz P G x k c)
theorem AE(P:List Int):∀(k:Nat)(v:Int)(ab:B64),(yv P k v ab).map (·.1)=(lL P k v).map Int.toNat
 |0,v,ab=>rfl
 | k+1,v,ab=>by
   rw[yv,lL,cu,cu,Wf,Wf]
   congr 1
   exact ah (λf=>List.flatMap f (aE P v)) (funext λc=>AE P k c _)
theorem CR(P:List Int)(G:List B64)(n x:Nat):∀(k:Nat)(v:Int)(ab:B64),x∈(lL P k v).map Int.toNat->x∈(kL P G n k v ab).map (·.1)
 |0,v,ab,h=>by rw[kL];simpa[lL]using h
 | k+1,v,ab,h=>by
   rw[kL,Uc,Wf,Uf,Uk];rw[lL,cu,Wf]at h;rcases BY.1 h with h|h
   .right;simp[h]
   obtain⟨c,hc,h⟩:=Uk.1 h;exact .inl ⟨c,hc,CR P G n x k c _ h⟩
section
variable {S:Sch}{P:List Int}(h:OrdOk S P)
include h
theorem n12:P.length<=12:=by rw[h.len];exact h.val.n2
theorem AbB.down{v c:Nat}{ab:B64}(j:AbB P v ab)(q:v<P.length)(hc:c<P.length)(r:P.getD c 0=(v:Int)):AbB P c (ab|||BitVec.twoPow 64 (v:Int).toNat):=by
 intro x;have s:=n12 h;rw[dM h.jL hc q r,BitVec.getLsbD_or,BitVec.getLsbD_twoPow,Ub,j x,BY];simp only[TU,du,Vj];constructor
 .grind
 grind
theorem AbB.pop{v:Nat}{ab:B64}(j:AbB P v ab)(q:v<P.length):tm ab=(bU P v).length:=by
 refine(Ml (Vh.1 (fN h.jL v q)).2 (λy hy=>?_) λa=>(j a).symm).symm;obtain⟨a,_,e,_⟩:=gL h.jL v q y hy;omega
theorem Nx:∀(k v:Nat)(ab:B64),v<P.length->AbB P v ab->∀p∈yv P k v ab,p.2=((bU P (p.1:Nat)).length:Int)
 | 0,v,ab,hv,hab,p,hp=>by
   rw[yv,TF]at hp;subst hp;show(tm ab:Int)=_;rw[hab.pop h hv];rfl
 | k+1,v,ab,hv,hab,p,hp=>by
   rw[yv,BY]at hp;rcases hp with hp|hp
   .subst hp;show(tm ab:Int)=_;rw[hab.pop h hv];rfl
   obtain⟨c,hc,hp⟩:=Uk.1 hp;obtain⟨m,hm,rfl,e⟩:=bu.1 hc;exact Nx k m _ hm (hab.down h hv hm e) p hp
theorem J1{k v:Nat}(q:v<P.length)(s:P.length<=k+1+(bU P v).length){x:Nat}(t:x<P.length):(x:Int)∈lL P k v↔(x:Int)∈bA P v:=by
 have r:cH P k v=cH P (k+1) v:=(qQ h.jL k v q s).symm;rw[uw,r,tree_vs,iF,BY];have hc:=j8 h.jL (k+1) v (λa ha e=>by rw[dM h.jL ha q (by rw[getD_at ha];exact e),IT];omega) x t;have j:(v:Int)∈bU P x++[-1]↔(v:Int)∈bU P x:=by grind
 simp only[j]at hc;constructor
 .grind
 grind
theorem OA{k v:Nat}(j:v<P.length):∀x∈lL P k v,∃m:Nat,m<P.length/\x=(m:Int):=λx hx=>by
 rw[uw]at hx;obtain⟨m,hm,e,_⟩:=uQ h.jL k v j x hx;exact⟨m,hm,e⟩
theorem NI{k v:Nat}{ab:B64}(j:v<P.length)(s:P.length<=k+1+(bU P v).length)(q:AbB P v ab):mQ (jy P (gr S) k v&&&ab) P.length=cK S P v:=by
 rw[<-yX h.jL j];unfold mQ upZ;rw[List.filter_map]
 congr 1
 apply List.filter_congr;intro x r;have r:=UR.1 r;show _=(decide ((x:Int)∈bU P v)&&(bA P v).any λb=>fa S (x:Int) b);rw[BitVec.getLsbD_and,xz];by_cases ha:(x:Int)∈bU P v
 .rw[(q x).2 ha,Wh,TD ha,Ws,TY,Ve,Ve];constructor
  .rintro⟨m,hm,hb⟩;obtain⟨m',hm',rfl⟩:=OA h j m hm;refine⟨_,(J1 h j s hm').1 hm,?_⟩;rw[TU,Fj h.val (by rw[<-h.len];exact hm'),du]at hb;exact xM hb.2
  rintro⟨m,hm,hb⟩;obtain⟨⟨m',hm',rfl⟩,h2⟩:=iF.1 hm;refine⟨_,(J1 h j s hm').2 hm,?_⟩;rw[TU,Fj h.val (by rw[<-h.len];exact hm'),du,Vj];refine⟨?_,xM hb⟩;rintro rfl;rcases h2 with h2|h2
  .have:m'=v:=Xj;subst this;exact xA h.jL j ha
  exact xA h.jL j (uX h.jL j h2 ha)
 rw[TL ha,Bool.false_and,Bool.and_eq_false_iff];right
 rw[Bool.eq_false_iff];exact λe=>ha ((q x).1 e)
theorem FF:∀(k v:Nat)(ab:B64),v<P.length->P.length<=k+1+(bU P v).length->AbB P v ab->∀p∈kL P (gr S) P.length k v ab,p.2=cK S P (p.1:Nat)
 |0,v,ab,hv,hf,hab,p,hp=>by grind[kL,TF,NI]
 | k+1,v,ab,hv,hf,hab,p,hp=>by
   rw[kL,Uf,TF]at hp;rcases hp with hp|hp
   .obtain⟨c,hc,hp⟩:=Uk.1 hp;obtain⟨m,hm,rfl,e⟩:=bu.1 hc;exact FF k m _ hm (by rw[dM h.jL hm hv e,IT];omega) (hab.down h hv hm e) p hp
   subst hp;exact NI h hv hf hab
omit h in
theorem Lg{c:Nat}(hc:c<P.length)(e:P.getD c 0= -1):bU P c=[]:=qT hc (by rw[<-getD_at hc];exact e)
omit h in
theorem BH{c:Nat}(hc:c<P.length)(e:P.getD c 0= -1):AbB P c 0#64:=λx=>by rw[Lg hc e];simp
theorem H9{i:Nat}(q:i<P.length):∃c:Nat,c<P.length/\P.getD c 0= -1/\(c:Int)∈aE P (-1)/\i∈(lL P P.length c).map Int.toNat:=by
 have j:(i:Int)∈aQ P:=(cE h.jL).mem_iff.2 (bp.2 ⟨i,q,O⟩);rw[<-uB,Uk]at j;obtain⟨c,hc,j⟩:=j;obtain⟨m,hm,rfl,e⟩:=bu.1 hc;exact⟨m,hm,e,hc,TG.2 ⟨_,j,O⟩⟩
omit h in
theorem E1(D l:List Int):∀a∈l,D.getD a.toNat 0<=D.getD (jv D l l.length).toNat 0:=by
 have j:∀(k:List Int)(h0:Int),D.getD h0.toNat 0<=D.getD (k.foldl (λh a=>if D.getD a.toNat 0>D.getD h.toNat 0 then a else h) h0).toNat 0/\∀a∈k,D.getD a.toNat 0<=D.getD (k.foldl (λh a=>if D.getD a.toNat 0>D.getD h.toNat 0 then a else h) h0).toNat 0:=by
  intro k;induction k with
  |nil=>intro h0;exact⟨Int.le_refl _,λa ha=>by cases ha⟩
  | cons x k ih=>
    intro h0;rw[U0];have q:=ih (if D.getD x.toNat 0>D.getD h0.toNat 0 then x else h0);by_cases hx:D.getD x.toNat 0>D.getD h0.toNat 0
    .grind
    grind
 intro a ha;unfold jv;rw[VM];exact(j l _).2 a ha
theorem PY{r:ByteArray×List Int}(s:r∈S.rels)(D:List Int)(A:∀i:Nat,i<P.length->D.getD i 0=((bU P (i:Nat)).length:Int)):jv D r.2 r.2.length=qm P r.2:=by
 have j:∀a∈r.2,0<=a/\a<P.length:=by rw[h.len];exact h.val.rng r s
 obtain⟨h1,h2⟩:=Bt h.jL (h.val.ne r s) j (h.rt r s);have t:=xe D (h.val.ne r s) r.2.length;rcases h2 _ t with e|e
 .exact e
 exfalso;have u:=E1 D r.2 _ h1;obtain⟨a,ha⟩:=Bg (j _ t).1;obtain⟨b,hb⟩:=Bg (j _ h1).1;have B:=(j _ t).2;have E:=(j _ h1).2;rw[ha]at B e u;rw[hb]at E e u;have z:a<P.length:=Xj;have q:b<P.length:=Xj;have H:=sB h.jL q e;rw[TU,TU,A a z,A b q]at u;omega
def bF(S:Sch)(P:List Int):VD:=⟨(upZ P.length).map (aE P)++[aE P (-1)],(upZ P.length).map (cK S P),(upZ P.length).map (nA (S.rels.map λr=>qm P r.2) S.rels.length),aQ P⟩
theorem Ku:ow S P (gr S)=bF S P:=by
 have j:(gr S).length=P.length:=by rw[NK,h.len]
 have z:∀i:Nat,i<P.length->(cf (List.replicate (gr S).length (0:Int)) ((aE P (-1)).flatMap λc=>yv P P.length c 0#64)).getD i 0=((bU P (i:Nat)).length:Int):=by
  intro i hi;rw[TO,qI (λi=>((bU P (i:Nat)).length:Int)) _ _ (λp hp=>?_) i (by rw[Vl,j];exact hi),By ?_]
  .rfl
  .grind[H9,Wf,AE]
  obtain⟨c,hc,hp⟩:=Uk.1 hp;obtain⟨m,hm,rfl,e⟩:=bu.1 hc;exact Nx h P.length m _ hm (BH hm e) p hp
 have q:(ow S P (gr S)).chs=(bF S P).chs:=by
  show lsT P P.length=_;unfold lsT bF;rw[l6]
  congr 1
  exact Ud λv _=>l6 P v
 have s:(ow S P (gr S)).kes=(bF S P).kes:=by
  show cf (List.replicate (gr S).length []) _=(upZ P.length).map (cK S P);apply Ww;intro i;by_cases hi:i<P.length
  .rw[qI (λi=>cK S P (i:Nat)) _ _ (λp hp=>?_) i (by rw[Vl,j];exact hi),By ?_]
   .simp[upZ,hi]
   .grind[H9,Wf,CR]
   obtain⟨c,hc,hp⟩:=Uk.1 hp;obtain⟨m,hm,rfl,e⟩:=bu.1 hc;rw[j]at hp;exact FF h P.length m _ hm Xj (BH hm e) p hp
  rw[List.getElem?_eq_none (by rw[dZ,Vl,j];omega),List.getElem?_eq_none (by rw[TB,a7];omega)]
 have t:(ow S P (gr S)).hos=(bF S P).hos:=by
  show hsT (gr S).length (hpL _ S) S.rels.length=_;unfold hsT bF hpL;rw[j]
  congr 2
  exact Ud λr hr=>PY h hr _ (by rw[j]at z;exact z)
 have u:(ow S P (gr S)).wa=(bF S P).wa:=rfl;generalize ow S P (gr S)=A at q s t u;generalize bF S P=B at q s t u;cases A;cases B;simp only at q s t u;rw[q,s,t,u]
end
theorem S5{S:Sch}(j:Valid S)(q:S.rels.length<=1000)(s:∀r∈S.rels,r.2.length<=1000):SJn S:=⟨by have:=j.n2;omega,q,s,j.rng⟩
end
section
open Mk Jn
set_option autoImplicit false
def hoL(S:Sch)(P:List Int)(v:Int):List Int:=nA (S.rels.map λr=>qm P r.2) S.rels.length v



end
end Go.Proofs.YtkkenamefaegfaaGreatDoor
