/- Lemmas. No condition. -/
import Derived.Lib.Walk
import Derived.Lib.ItoaMem
import Derived.BigCall
import Derived.BigGuard
import Derived.Laws.StructEq
import Derived.Tactics
import Derived.Tactics2
import Derived.Maps.RangeRun
import Derived.Test.YtameambcolibjaaGreatDoorJD8
set_option maxRecDepth 100000
set_option maxHeartbeats 4000000
open Go.RowKit Go.Proofs.Tryz
open Option renaming some→UF,none→UG
open Bool renaming true→VA,false→WA
namespace Go.Proofs.YtameambcolibjaaGreatDoor
variable{id j k B C W i A:Nat}{s:ByteArray}{q a b x:Rat}{w:World}{R:Nat->Prop}{u zv:Value}{l:List Int}{D:Int}{K:Type}{ls:List (List PV)}{TA T:TypeId}{p key zp v:PV}{r:Option Nat}{cs ks cur ps qs:List PV}{m:Gm}{es:List MapEntry}
section
open Go.RowKit Go.Sort Go.Lib
theorem Sd(w:World)(T:TypeId)(nd:Nat)(E:nd<=24):Holds (fun(b:UInt8)=>Value.int .u8 (b.toNat:Int)) (w.alloc (.cells zeros24 T)) w.heap.size 0 (Array.replicate nd (0:UInt8)):=λj hj=>by
 have d:j<nd:=by simpa using hj
 refine⟨?_,World.frozen?_alloc_new _ _ _ _⟩;rw[World.cell?_alloc_new,zeros24_at _ XX,getElem!_pos _ j hj];simp
theorem fin0(w:World)(o:Obj)(dk:Array UInt8)(k:Nat):∃os,(putRow (fun(b:UInt8)=>Value.int .u8 (b.toNat:Int)) (w.alloc o) w.heap.size 0 dk).drewN k=grow (w.drewN k) os:=by
 rw[alloc_eq_grow];obtain⟨os',_,e⟩:=putRow_grow_new (fun(b:UInt8)=>Value.int .u8 (b.toNat:Int)) w #[o] w.heap.size 0 dk (tJ _);exact⟨os',by rw[e];rfl⟩
set_option maxHeartbeats 6400000
theorem xX(u:Nat)(d:u<18446744073709551616)(w:World)(I:Lib.TabIs prog w "internal/strconv.uint64pow10" .u64 Lib.pow10Tab):
  Calls prog 258 #[.int .u64 u,.int .i64 10] w λe w'=>e= .returned (.string ⟨(Lib.decDigits u).toArray⟩)/\∃k os,w'=grow (w.drewN k) os:=by
 by_cases hs:u<100
 .have hwr:IntKind.i64.wrap (u:Int)=(u:Int):=eF XX;have M:((u:Int)<100):=XX
  go_enter func258,ntmps258
  go_wp2_with (fail)
  refine(Tryz.internal_strconv_small u hs _).mono ?_;rintro e w' ⟨rfl,rfl⟩
  go_wp2
  go_ret
  exact⟨O,0, #[],by simp[World.drewN_zero]⟩
 have hu1:1<=u:=XX;have U:¬ ((u:Int)<100):=XX;have J:Lib.nDigits u<=20:=by have:=Lib.numDigits_eq u hu1 d;split at this<;>omega
 have V:Lib.nDigits u<=23:=XX;have H:prog.arrayLen 374=24:=by simp[Program.arrayLen,underlying374]
 have L:∀W,(Instr.sliceAt 374 (.pointer (UF ⟨w.heap.size,0,UG⟩)) UG (UF (.int .i64 (Lib.nDigits u:Int))) UG).run prog W= .ok (.slice (UF ⟨w.heap.size,0,UG⟩) (Lib.nDigits u) 24) W:=λW=>by
  rw[run_sliceAt_array_h W 374 ⟨w.heap.size,0,UG⟩ (by simp[Program.arrayLen,Program.elem,underlying374]) .i64 (Lib.nDigits u:Int) XX (by rw[H];omega)]
  go_simp
 have G:=Sd w 374 (Lib.nDigits u) XX;have E:=Tryz.internal_strconv_formatBase10 w.heap.size 0 24 u (Array.replicate (Lib.nDigits u) 0) (w.alloc (.cells Lib.zeros24 374)) G (by rw[Array.size_replicate];exact Lib.lt_pow_nDigits u) d (by rw[Array.size_replicate];omega);rw[Array.size_replicate]at E;have HH0:=Lib.hid G;clear G H
 go_enter func258,ntmps258
 go_wp2_with (fail)
 refine(Tryz.internal_strconv_numDigits u hu1 d _ (Lib.tabIs_alloc I _)).mono ?_;rintro e w' ⟨rfl,rfl⟩
 go_wp2_with (fail)
 refine E.mono ?_;rintro e w' ⟨rfl,k,v',dk,rfl,hF⟩;have X:(convert 231 9 (.slice (UF ⟨w.heap.size,0,UG⟩) (Lib.nDigits u) 24)).run prog ((putRow (fun(b:UInt8)=>Value.int .u8 (b.toNat:Int)) (w.alloc (.cells Lib.zeros24 374)) w.heap.size 0 dk).drewN k)= .ok (.string ⟨(Lib.decDigits u).toArray⟩) ((putRow (fun(b:UInt8)=>Value.int .u8 (b.toNat:Int)) (w.alloc (.cells Lib.zeros24 374)) w.heap.size 0 dk).drewN k):=by
  have h:=run_convert_bytes_back (P:=prog) ((putRow (fun(b:UInt8)=>Value.int .u8 (b.toNat:Int)) (w.alloc (.cells Lib.zeros24 374)) w.heap.size 0 dk).drewN k) 231 9 5 ⟨w.heap.size,0,UG⟩ 24 (Lib.decDigits u) underlying231 underlying5 underlying9 (λj hj=>by
   rw[Lib.row_is_numeral hF j hj,Lib.add_plain,World.cell?_drewN];exact cell?_putRow (fun(b:UInt8)=>Value.int .u8 (b.toNat:Int)) _ w.heap.size 0 _ dk HH0.out (by rw[hF.size,Array.size_replicate]) j (by rw[hF.size];rw[Lib.decDigits_length]at hj;exact hj))
  rw[Lib.decDigits_length]at h;exact h
 go_wp2
 go_ret
 obtain⟨os,eo⟩:=fin0 w (.cells Lib.zeros24 374) dk k;exact⟨O,k,os,eo⟩
theorem iX(u:Nat)(d:u<18446744073709551616):FnP prog 209 [.int .u64 u,.int .i64 10] (· = .str ⟨(Lib.decDigits u).toArray⟩):=by
 have E:FnP prog 258 [.int .u64 u,.int .i64 10] (· = .str ⟨(Lib.decDigits u).toArray⟩):=by
  intro w R us hG hR hrel;obtain⟨v11,rfl,h11⟩:=oF hrel;obtain⟨v12,rfl,h12⟩:=oF h11;obtain rfl:=n5 h12;exact(xX u d w (Q6 hG)).mono λe w' ⟨he,k,os,hw⟩=>⟨_,_,he,O,by rw[hw];exact y6 w k os,by simp only[RelP]⟩
 refine FnP.of func209 O ntmps209 X2 λ_ _ _ _=>?_
 exact Z1 O<|Z2 O<|Rs O (aa call258 E O)<|A1 O<|Gt O<|⟨_,_,O,O,O⟩
end
section
open Mk Jn
section
variable {C:Ctx}{n:Nat}{σ:St}{dst:Option Tmp}{ty t t':TypeId}{pos:String}{after:Array Edge}{gd:Option (Nat×Bool)}{x y:Operand}
theorem xR{e:TypeId}(id':Nat)(he:ElemIs C.P t e (.int .u8 0) 1 1)(hu:C.P.underlying t'=UF .string)(hs:σ.ev n x= .gsl id 1 0)(ho:σ.ob id=UF (.gro e []))
  (hy:σ.ev n y= .pv (.str s)) (hb:s.size<=1000000000) (h0:0<s.size) (ac:σ.av id'=VA):
  XJ C n ⟨dst,.call { callee:=.builtin .append,args:= #[x,y],argTypes:= #[t,t'] },ty,pos,after,gd⟩ σ ⟨.gsl id' 1 s.size,[(id',UF (.gro e (aH s.data.toList))),(id,UG)],[id']⟩:=by
 rintro a w Q ⟨m,R,hw⟩;obtain⟨A0,c,hev,hkc,hcm,hz,hp⟩:=hw.gsl hs;obtain⟨rfl,rfl,hmn⟩:=hz O;obtain⟨i,hi,hzz,hsize,hbytes⟩:=info_parts he.info;have L:a.eval y= .string s:=hw.str hy;have M:s.size<=maxLen:=by simp only[maxLen];omega
 have U:s.data.toList.length=s.size:=by rw[UR];rfl
 have V:aH s.data.toList≠[]:=λe=>by grind[List.length,aH,AS,V6]
 have G:=Go.run_append_nil_string (P:=C.P) w t t' ty e i (.int .u8 0) he.u hu hi hzz s XX XX (by rw[hbytes];omega);have X:w.grownBy (w.drew.alloc (.cells (s.data.map (λb=>Value.int .u8 b.toNat)++Builtin.zeroCells (Value.int .u8 0).cells (grownCap w s.size 0 e-s.size)) e)) UG:=⟨O,O,O,X2,λq hq _=>heap_alloc_old w.drew _ hq⟩;have H:=grownCap_ge w s.size 0 e;have Y:=grownCap_le_maxLen w s.size 0 e M;have Z:(Value.int IntKind.u8 0).cells.size=1:=rfl;have hg:=heap_alloc_new w.drew (.cells (s.data.map (λb=>Value.int .u8 b.toNat)++Builtin.zeroCells (Value.int .u8 0).cells (grownCap w s.size 0 e-s.size)) e);have d:(s.data.map (λb=>Value.int .u8 b.toNat)++Builtin.zeroCells (Value.int .u8 0).cells (grownCap w s.size 0 e-s.size)).size=grownCap w s.size 0 e:=by
  have:s.data.size=s.size:=rfl;simp only[Array.size_append,Array.size_map,size_zeroCells,Z];omega
 have aa:(s.data.map (λb=>Value.int .u8 b.toNat)++Builtin.zeroCells (Value.int .u8 0).cells (grownCap w s.size 0 e-s.size)).toList.take s.size=Lib.strCells s:=by
  rw[Array.toList_append,XQ (by rw[UR,Array.size_map];rfl),Array.toList_map];rfl
 generalize (s.data.map (λb=>Value.int .u8 b.toNat)++Builtin.zeroCells (Value.int .u8 0).cells (grownCap w s.size 0 e-s.size))=cur' at*;generalize grownCap w s.size 0 e=c' at*;generalize hw':w.drew.alloc (.cells cur' e)=w' at*;have I:w'.heap[w.heap.size]? =UF (.cells cur' e (0,0)):=hg;unfold Oper.wp;have E:(execOp a.eval ⟨dst,.call { callee:=.builtin .append,args:= #[x,y],argTypes:= #[t,t'] },ty,pos,after,gd⟩).run C.P w= .ok (.value (.slice (UF ⟨w.heap.size,0,UG⟩) s.size c')) w':=by
  unfold execOp;simp only[resolve,invoke,builtin,Sem.run_bind,Sem.run_pure,Result.andThen_ok,Xb,cd,Vn,hev,L,G]
 rw[E];have J:(aH s.data.toList).length=s.size:=by simp only[aH,AS,U]
 refine⟨_,O,upd (upd m id UG) id' (UF (w.heap.size,cur'.size)),R,?_⟩;rw[TW];have ab:∀i x,upd m id UG i=UF x->m i=UF x/\i≠id:=λi x e=>by grind[aB,aW]
 refine SW.put ((hw.drop id).fresh ac I X (λq hq=>by cases hq) (λhh=>?_) (λi b' N' hi e=>?_) (.inr ?_) (.gro e (aH s.data.toList)) ?_ (cY V)) dst ?_
 .have:=hw.hr.rsz _ hh;omega
 .have:=(hw.hr.own i b' N' (ab i _ hi).1).1;omega
 .have:=hw.hr.frame.size;omega
 .intro m' av' hR _ _;refine⟨cur',I,O,by rw[J,d];exact H,?_⟩;rw[J,aa];exact(oX s).mono hR
 simp only[Rel];refine⟨by simp[avL],_,c',O,H,Y,λh=>by omega,λ_ b' N' e'=>?_⟩;rw[aB]at e';cases e';exact⟨O,by rw[d,Uv]⟩
end
theorem se(s:ByteArray)(E:0<s.size)(G:s.size<=1000000000):FnO prog 207 2 1 [.ptr big 0,.pv (.str s)] [(big,.mix 301 [.pv .nilptr,.gsl 9001 1 0]),(9001,.gro 5 [])] (λv ob'=>v= .tup [pIi s.size,.pv .niliface]/\ob'=aA [(big,.mix 301 [.ptr big 0,.gsl 0 1 s.size]),(0,.gro 5 (aH s.data.toList))]):=by
 refine FnO.of func207 O ntmps207 X2 λ_ _ _ _=>?_
 have d:=KL 0 [];exact Z2 O<|Z1 O<|Rs O (bl [big,9001] 0 call256 d O O O O ⟨O,O,X5⟩ XZ O)<|Gr O<|Ar 6 O<|Rs O (xR 0 Rj underlying9 O O O G E O)<|Y3 O<|Z4 O<|Gt O<|⟨[(4,pIi s.size),(5,.pv .niliface)],[(big,.mix 301 [.ptr big 0,.gsl 0 1 s.size]),(0,.gro 5 (aH s.data.toList))],[pIi s.size,.pv .niliface],TO (aS O) (aO XY) O O,O,O,O,O,O⟩
theorem Jd(n:Nat):0<(Lib.decDigits n).length:=by
 cases h:Lib.decDigits n with
 | nil=>
   exfalso;rw[Lib.decDigits]at h;split at h<;>simp at h
 |cons a l=>simp
theorem rW(n:Nat)(V:n<1000000000)(X:(Lib.decDigits n).length<=1000):FnP prog 210 [fc (n:Int)] (· = .str ⟨(Lib.decDigits n).toArray⟩):=by
 refine FnP.of func210 O ntmps210 X2 λ_ _ _ _=>?_
 have U:decide ((n:Int)<0)=WA:=Up XX;have G:=iX n XX;have d:=Jd n;rw[show fc (n:Int)= .agg [.bool WA,.sl UG (ae n).length (cz (ae n))] by show PV.agg [.bool (decide ((n:Int)<0)),bU ((n:Int).natAbs)]=_;rw[U];rfl];by_cases h0:n=0
 .subst h0;rw[aX];refine Z2 O<|Z4 O<|Gc O (λE=>?_) (λE=>absurd E X2);exact Z1 O<|Gt O<|⟨_,_,O,O,by show PV.str ⟨#[48]⟩=_;rw[Lib.decDigits,dif_pos XZ];rfl⟩
 have hlm:ae n=[n]:=by
  rw[ae,pF h0,show n/1000000000=0 by omega,aX,Wx V]
 rw[hlm];have H:(cz [n])[0]? =UF (.int .u64 (n:Int)):=rfl;generalize hD:Lib.decDigits n=D at*;have J:D≠[]:=λe=>by rw[e]at d;simp at d
 have L:=se ⟨D.toArray⟩ (show 0<D.length from d) (show D.length<=1000000000 by omega);have M:=yl D J XX;refine Z2 O<|Z4 O<|Gc O (λhc=>absurd hc X2) (λhc=>?_);refine TM<|Z1 O<|TN (St.cV 1 1 2 1 5 O O O)<|Z2 O<|Gc O (λhc=>absurd hc X2) (λhc=>?_);refine TM<|Gr O<|Ar 5 O<|Gl O (st:=λb:Bool=>bif b then mkS [(1,.ptr 0 0),(3,.ptr 1 0),(4,pIi 0)] [(0,.mix 99 [.pv (.bool WA),.pv (.sl UG 1 (cz [n]))]),(1,.mix 301 [.pv .nilptr,.gsl 2 1 0]),(2,.gro 5 [])] 3 else mkS [(1,.ptr 0 0),(3,.ptr 1 0),(4,pIi (-1))] [(0,.mix 99 [.pv (.bool WA),.pv (.sl UG 1 (cz [n]))]),(1,.mix 301 [.ptr 1 0,.gsl 2 1 D.length]),(2,.gro 5 (aH D))] 3)
  (I:=λ_=>True) (μ:=λb=>bif b then 1 else 0) (x0:=VA) (TO (aS O) (aO O) O O) trivial ?_
 rintro(_|_) _
 .simp only[UZ];refine Z2 O<|Gp O (λhc=>absurd hc XZ) (λhc=>?_);exact Gx O<|Gr O<|Rs O (bl [1,2] 3 call208 M O O O O ⟨O,O,X5⟩ XZ O)<|A1 O<|Gt O<|⟨_,_,O,O,O⟩
 simp only[VG];refine Z2 O<|Gp O (λhc=>?_) (λhc=>absurd hc XZ);refine TM<|Z3 O<|Rs O (ag 0 underlying97 iH O O O XZ (by simp[cz]))<|Rs O (ar ⟨_,underlying262,O⟩ O H)<|Rs O (aa call209 G O)<|A1 O<|Gr O<|Ar 6 O<|Gp O (λhc=>absurd hc X2) (λhc=>?_);exact TM<|Z1 O<|Rs O (bl [1,2] 3 call207 L O O O O ⟨O,O,X5⟩ XZ O)<|Z3 O<|⟨WA,TP [0,1,3] (aT O) (aP XY) O O XZ O,X5,XZ⟩
end
section
theorem Ns(g:Nat):fc (g:Int)= .agg [.bool WA,bU g]:=by grind
theorem K3:bU 1= .sl UG 1 [.int .u64 1]:=by rw[bU,eJ XX XX];rfl
theorem Hp(x:Int)(g:Nat)(E:0<g):(x<0/\0<x.natAbs%g->x/(g:Int)= -((x.natAbs/g+1:Nat):Int)/\x%(g:Int)=((g-x.natAbs%g:Nat):Int))/\
  (¬ (x<0/\0<x.natAbs%g)->x/(g:Int)=sgn (decide (x<0)) (x.natAbs/g)/\x%(g:Int)=((x.natAbs%g:Nat):Int)):=by
 have G:=Xl x.natAbs g;have H:=Vi x.natAbs E;generalize x.natAbs/g=q at*;generalize x.natAbs%g=r at*;have I:((g*q:Nat):Int)=(g:Int)*(q:Int):=VN g q;have d:(g:Int)* -((q+1:Nat):Int)= -((g:Int)*(q:Int))-(g:Int):=by grind
 constructor
 .rintro⟨h1,h2⟩;refine(Int.ediv_emod_unique XX).2 ⟨?_,XX,XX⟩;rw[d];omega
 .intro h;by_cases h1:x<0
  .have hr:r=0:=by grind
   subst hr;rw[SR h1];refine(Int.ediv_emod_unique XX).2 ⟨?_,XX,XX⟩;simp only[sgn,XO,Int.mul_neg];omega
  rw[Up h1];refine(Int.ediv_emod_unique XX).2 ⟨?_,XX,XX⟩;simp only[sgn,Vv,XR];omega
theorem qE(x:Int)(g:Nat)(hx:(ae x.natAbs).length<=900000)(M:0<g)(U:g<1000000000):FnP prog 227 [fc x,fc (g:Int)] (· = .tup [fc (x/g),fc (x%g)]):=by
 refine FnP.ofC func227 O ntmps227 X2 λ_ _ _ _=>?_
 have X:FnP prog 279 [bU x.natAbs,bU g] (· = .tup [bU (x.natAbs/g),bU (x.natAbs%g)]):=Hj x.natAbs g XX M U;obtain⟨hp1,hp2⟩:=Hp x g M;have Y:(ae (x.natAbs/g)).length<=900000:=AI (cA (XS _ _)) hx;have Z:=Vi x.natAbs M;have ab:(ae g).length<=1:=aY.2 XX;have H:=bJ WA (x.natAbs%g);have I:=bJ (decide (x<0)) (x.natAbs/g);rw[Ns g];generalize hQ:x.natAbs/g=q at*;generalize hR:x.natAbs%g=r at*;have E:decide (((ae r).length:Int)>0)=decide (0<r):=by
  rw[XH];constructor
  .intro h;exact nN XX
  .intro h;have:(ae r).length≠0:=λe=>by have:=bI.1 e;omega
   omega
 have G:(decide (x<0) !=WA)=decide (x<0):=X2;refine Z4 O<|Z4 O<|Rs O (aa call279 X O)<|Ar 5 O<|Z3 O ?_;apply TY 4 18 22 [19,20,21] O X8
 .intro hb2;exact Ar 4 O<|TQ X7 O O O
 .intro hb2;exact Ar 4 O<|TQ X7 O O O
 refine Gc O (λd=>?_) (λd=>?_)
 .have hc:x<0/\0<r:=by rw[E]at d;simpa using d
  obtain⟨e1,e2⟩:=hp1 hc;have V:=wO q 1 XX (by rw[eJ XX XX];decide);have hs:=qF g r XX XX;rw[K3]at V;have J:=bJ (decide (x<0)) (q+1);have L:=bJ WA (g-r);refine UB 9 O<|D1 O<|Ds [] O (λτ h=>ax UG X2 ND O XZ XZ (h.Fm O O) O) O XY<|Ds [] O (λτ h=>aa call228 V (h.aE O)) O XY<|Dr 3 O<|Ds [] O (λτ h=>aa call230 hs (h.aE O)) O XY<|Dr 2 O ?_;refine⟨XY,?_⟩;exact Gr O<|Ar 6 O<|Rs O (aa call221 (by rw[G];exact J) O)<|A1 O<|Rs O (aa call221 L O)<|Y2 O<|Gt O<|⟨_,_,O,O,⟨au ⟨_,underlying99,O⟩ yA O O O,au ⟨_,underlying99,O⟩ yA O O O,X5⟩,by rw[e1,e2,SR hc.1];rfl⟩
 have hc:¬ (x<0/\0<r):=by rw[E]at d;intro h;simp[h.1,h.2]at d
 obtain⟨e1,e2⟩:=hp2 hc;exact TM<|Gr O<|Ar 6 O<|Rs O (aa call221 (by rw[G];exact I) O)<|A1 O<|Rs O (aa call221 H O)<|Y2 O<|Gt O<|⟨_,_,O,O,⟨au ⟨_,underlying99,O⟩ yA O O O,au ⟨_,underlying99,O⟩ yA O O O,X5⟩,by rw[e1,e2];rfl⟩
abbrev frC(q:Rat):List PV:=RG q.num++RG (q.den:Int)
abbrev frP(q:Rat):PV:=.agg (frC q)
structure FOk(q:Rat):Prop where
 d:q.den<31622
 n:(ae q.num.natAbs).length<=100000
theorem Nc{n:Nat}(h:n<1000000000):(ae n).length<=1:=aY.2 XX
theorem FOk.dl(h:FOk q):(ae (q.den:Int).natAbs).length<=1:=Nc (by rw[Uz];have:=h.d;omega)
theorem B6(a:Int):((a-1).sign==0)=decide (a=1):=sign_eq a
theorem iK(q:Rat)(h:FOk q):FnP prog 164 [frP q] (· = .bool (decide (q.den=1))):=by
 refine FnP.of func164 O ntmps164 X2 λ_ _ _ _=>?_
 have d:=lZ 1 XX XX;have E:=iW (q.den:Int) 1 (by have:=h.dl;omega) (by decide+kernel);have e:(((q.den:Int)-1).sign==0)=decide (q.den=1):=by rw[B6,XH];omega
 refine Z2 O<|UB 6 O<|Dr 2 O<|Ds [] O (λτ h=>aa call162 d O) O XY<|Ds [] O (λτ h=>aa call223 E (h.aE O)) O XY<|Dr 2 O ?_;refine⟨XY,?_⟩;exact Gt O<|⟨_,_,O,O,ah PV.bool e⟩
theorem ly(z:Int):FnP prog 161 [fc z] (· =frP (z:Rat)):=by
 refine FnP.ofC func161 O ntmps161 X2 λ_ _ _ _=>?_
 have d:=lZ 1 XX XX;refine Z2 O<|UB 4 O<|D1 O<|Ds [] O (λτ h=>aa call162 d O) O XY<|Dr 2 O ?_;refine⟨XY,?_⟩;exact Gt O<|⟨_,_,O,O,⟨au ⟨_,underlying101,O⟩ rU O O O,X5⟩,O⟩
theorem pd(n:Int)(d: -9223372036854775808<=n)(E:n<=9223372036854775807):FnP prog 90 [.int .i64 n] (· =frP (n:Rat)):=by
 refine FnP.ofC func90 O ntmps90 X2 λ_ _ _ _=>?_
 exact Z1 O<|Z1 O<|Rs O (aa call162 (lZ n d E) O)<|Rs O (aa call161 (ly n) O)<|A1 O<|Gt O<|⟨_,_,O,O,⟨au ⟨_,underlying101,O⟩ rU O O O,X5⟩,O⟩
theorem fw(q:Rat):FnP prog 136 [frP q] (· = .int .i64 q.num.sign):=by
 refine FnP.of func136 O ntmps136 X2 λ_ _ _ _=>?_
 exact Z2 O<|Z2 O<|Rs O (aa call205 (n4 q.num) O)<|A1 O<|Gt O<|⟨_,_,O,O,O⟩
theorem Re(x:Int)(y:Nat)(E:(ae x.natAbs).length<=900000)(d:y<1000000000):FnP prog 226 [fc x,fc (y:Int)] (· =fc (Int.gcd x y:Int)):=
 qA JB (λx y h h0 h2 E d=>Sj h h0 h2 E) x (y:Int) (.inl (by rw[Uz];exact d)) XX (by have:=Nc d;rw[Uz];omega)
theorem Dx(x:Int)(y:Nat)(d:0<y):(Rat.divInt x y).num=x/(Int.gcd x y:Int)/\((Rat.divInt x y).den:Int)=(y:Int)/(Int.gcd x y:Int):=by
 rw[Rat.num_divInt,Rat.den_divInt,pF XX,Int.gcd_comm (y:Int) x,Int.sign_eq_one_of_pos XX,Int.one_mul];refine⟨O,?_⟩;rw[Int.natCast_ediv,show(((y:Int).natAbs:Nat):Int)=(y:Int) by omega]
theorem wM(x:Int)(y:Nat)(V:(ae x.natAbs).length<=900000)(h0:0<y)(X:y<1000000000):FnP prog 166 [fc x,fc (y:Int)] (· =frP (Rat.divInt x y)):=by
 refine FnP.ofC func166 O ntmps166 X2 λ_ _ _ _=>?_
 have U:=n4 (y:Int);rw[Int.sign_eq_one_of_pos XX]at U;have Y:=Re x y V X;have E:0<Int.gcd x y:=Int.gcd_pos_of_ne_zero_right x XX;have Z:Int.gcd x y<=y:=by
  have:=Int.le_of_dvd (show(0:Int)<(y:Int) by omega) (Int.gcd_dvd_right x (y:Int));omega
 obtain⟨e1,e2⟩:=Dx x y h0;have I:=lZ 1 XX XX;generalize hG:Int.gcd x y=g at*;have G:=iW (g:Int) 1 (by have:=Nc (n:=g) XX;rw[Uz];omega) (by decide+kernel);have J:=qE x g V E XX;have L:=qE (y:Int) g (by have:=Nc X;rw[Uz];omega) E XX;have M:(((g:Int)-1).sign !=0)=decide (g≠1):=by
  have:=B6 (g:Int);rw[bne,this,<-decide_not,XH];omega
 refine Z3 O<|Z1 O<|Rs O (aa call205 U O)<|A1 O<|Gp O (λH=>absurd H X2) (λH=>?_);refine TM<|Z2 O<|Rs O (aa call226 Y O)<|Y2 O<|UB 4 O<|D1 O<|Ds [] O (λτ h=>aa call162 I O) O XY<|Ds [] O (λτ h=>aa call223 G (h.aE O)) O XY<|D1 O ?_;refine⟨XY,?_⟩;refine Gc O (λd=>?_) (λd=>?_)
 .exact Z2 O<|Rs O (aa call227 J O)<|Ar 4 O<|Z2 O<|Rs O (aa call227 L O)<|Ar 4 O<|Z4 O<|Gt O<|⟨_,_,O,O,⟨au ⟨_,underlying101,O⟩ rU O O O,X5⟩,by rw[frP,frC,e1,e2];rfl⟩
 have hg1:g=1:=by rw[M]at d;simpa using d
 have hq:frP (Rat.divInt x y)= .agg (RG x++RG (y:Int)):=by rw[frP,frC,e1,e2,hg1,Int.natCast_one,Int.ediv_one,Int.ediv_one]
 exact TM<|Z4 O<|Gt O<|⟨_,_,O,O,⟨au ⟨_,underlying101,O⟩ rU O O O,X5⟩,by rw[hq];rfl⟩
theorem mg(h:q.den=1):(q.num:Rat)=q:=Rat.ext O h.symm
theorem jF{a b:Nat}(d:(ae a).length<=j)(E:(ae b).length<=k):(ae (a*b)).length<=j+k:=by
 refine aY.2 ?_;rw[Nat.pow_add];exact Nat.mul_lt_mul'' (aY.1 d) (aY.1 E)
theorem Qq{a b:Nat}(d:(ae a).length<=k)(E:(ae b).length<=k):(ae (a+b)).length<=k+1:=by
 refine aY.2 ?_;have G:=aY.1 d;have H:=aY.1 E;rw[Vc];omega
theorem den_mul{a b:Nat}(d:a<31622)(E:b<31622):a*b<1000000000:=
 Xa (Va (show a<=31621 by omega) (show b<=31621 by omega)) XZ
theorem IV(a b:Rat):Rat.divInt (a.num*b.num) ((a.den*b.den:Nat):Int)=a*b:=by
 rw[Rat.mul_def,Rat.normalize_eq_mkRat,<-Rat.divInt_ofNat]
theorem GF(a b:Rat):Rat.divInt (a.num*(b.den:Int)+b.num*(a.den:Int)) ((a.den*b.den:Nat):Int)=a+b:=by
 rw[Rat.add_def,Rat.normalize_eq_mkRat,<-Rat.divInt_ofNat]
theorem iJ(a b:Rat)(I:FOk a)(J:FOk b):FnP prog 93 [frP a,frP b] (· =frP (a*b)):=by
 refine FnP.ofC func93 O ntmps93 X2 λ_ _ _ _=>?_
 have V:=iK a I;have X:=iK b J;have Y:=I.dl;have Z:=J.dl;have L:=I.n;have M:=J.n;have H:=fJ a.num b.num XX XX;have U:=fJ (a.den:Int) (b.den:Int) XX XX;have hw:=ly (a.num*b.num);have E:=wM (a.num*b.num) (a.den*b.den) (by rw[Xs];have:=jF L M;omega) (XL a.den_pos b.den_pos) (den_mul I.d J.d);rw[IV,show((a.den*b.den:Nat):Int)=(a.den:Int)*(b.den:Int)from VN _ _]at E;refine Z3 O<|Z1 O<|Rs O (aa call164 V O)<|A1 O ?_;apply TY 3 7 10 [8,9] O X8
 .intro hb2;exact A1 O<|Rg O (aa call164 X O)<|A1 O<|TQ X7 O O O
 .intro hb2;exact Y3 O<|TQ X7 O O O
 refine Gc O (λG=>?_) (λG=>?_)
 .have hab:a.den=1/\b.den=1:=by simpa using G
  have e:((a.num*b.num:Int):Rat)=a*b:=by rw[Wp,mg hab.1,mg hab.2]
  exact Z4 O<|Rs O (aa call165 H O)<|Rs O (aa call161 hw O)<|A1 O<|Gt O<|⟨_,_,O,O,⟨au ⟨_,underlying101,O⟩ rU O O O,X5⟩,by rw[<-e];rfl⟩
 refine TM<|UB 12 O<|Dr 4 O<|Ds [] O (λτ h=>aa call165 H (h.aE O)) O XY<|Dr 4 O<|Ds [] O (λτ h=>aa call165 U (h.aE O)) O XY<|Ds [] O (λτ h=>aa call166 E (h.aE O)) O XY<|D1 O ?_;refine⟨XY,?_⟩;exact Gt O<|⟨_,_,O,O,⟨au ⟨_,underlying101,O⟩ rU O O O,X5⟩,O⟩
theorem np(a b:Rat)(H:FOk a)(I:FOk b):FnP prog 94 [frP a,frP b] (· =frP (a+b)):=by
 refine FnP.ofC func94 O ntmps94 X2 λ_ _ _ _=>?_
 have h1:=iK a H;have h2:=iK b I;have J:=H.dl;have L:=I.dl;have M:=H.n;have U:=I.n;have V:(ae (a.num*(b.den:Int)).natAbs).length<=100001:=by rw[Xs];exact jF M L
 have X:(ae (b.num*(a.den:Int)).natAbs).length<=100001:=by rw[Xs];exact jF U J
 have Y:=lH a.num b.num XX XX;have Z:=fJ a.num (b.den:Int) XX XX;have ab:=fJ b.num (a.den:Int) XX XX;have ac:=fJ (a.den:Int) (b.den:Int) XX XX;have hs:=lH (a.num*(b.den:Int)) (b.num*(a.den:Int)) XX XX;have hw:=ly (a.num+b.num);have E:=wM (a.num*(b.den:Int)+b.num*(a.den:Int)) (a.den*b.den) (AI (cA (Int.natAbs_add_le _ _)) (by have:=Qq V X;omega)) (XL a.den_pos b.den_pos) (den_mul H.d I.d);rw[GF,show((a.den*b.den:Nat):Int)=(a.den:Int)*(b.den:Int)from VN _ _]at E;refine Z3 O<|Z1 O<|Rs O (aa call164 h1 O)<|A1 O ?_;apply TY 3 7 10 [8,9] O X8
 .intro hb2;exact A1 O<|Rg O (aa call164 h2 O)<|A1 O<|TQ X7 O O O
 .intro hb2;exact Y3 O<|TQ X7 O O O
 refine Gc O (λG=>?_) (λG=>?_)
 .have hab:a.den=1/\b.den=1:=by simpa using G
  have e:((a.num+b.num:Int):Rat)=a+b:=by rw[Rat.intCast_add,mg hab.1,mg hab.2]
  exact Z4 O<|Rs O (aa call167 Y O)<|Rs O (aa call161 hw O)<|A1 O<|Gt O<|⟨_,_,O,O,⟨au ⟨_,underlying101,O⟩ rU O O O,X5⟩,by rw[<-e];rfl⟩
 refine TM<|UB 18 O<|Dr 4 O<|Ds [] O (λτ h=>aa call165 Z (h.aE O)) O XY<|Dr 4 O<|Ds [] O (λτ h=>aa call165 ab (h.aE O)) O XY<|Ds [] O (λτ h=>aa call167 hs (h.aE O)) O XY<|Dr 4 O<|Ds [] O (λτ h=>aa call165 ac (h.aE O)) O XY<|Ds [] O (λτ h=>aa call166 E (h.aE O)) O XY<|D1 O ?_;refine⟨XY,?_⟩;exact Gt O<|⟨_,_,O,O,⟨au ⟨_,underlying101,O⟩ rU O O O,X5⟩,O⟩
end
section
theorem vF(k:Nat)(a b:Int)(s t:ByteArray)(w:World):(Op.equalIn (k+2) 136 (.agg #[.int .i64 a,.string s]) (.agg #[.int .i64 b,.string t])).run prog w= .ok (a==b&&s.toList==t.toList) w:=by
 have d:=underlying3;have E:=underlying9;have hS:prog.underlying 136=UF (.struct (prog.fieldsOf 136)):=XY;rw[run_equalIn_agg w (k+1) 136 _ _ hS Tryz.stoodInHeld136];simp only[Program.fieldsOf,underlying136]
 go_simp
 by_cases h1:a=b<;>by_cases h2:s.toList=t.toList<;>simp[h1,h2]
theorem eqTrm(k:Nat)(a b:Int)(s t u v:ByteArray)(w:World):(Op.equalIn (k+3) 138 (.agg #[.int .i64 a,.string s,.string u]) (.agg #[.int .i64 b,.string t,.string v])).run prog w= .ok ((a==b&&s.toList==t.toList)&&u.toList==v.toList) w:=by
 have E:=underlying43;have hS:prog.underlying 138=UF (.struct (prog.fieldsOf 138)):=XY;rw[run_equalIn_agg w (k+2) 138 _ _ hS Tryz.stoodInHeld138];have d:=λw=>vF k a b s t w
 simp only[Program.fieldsOf,underlying138]
 go_simp
 by_cases h1:a=b<;>by_cases d:s.toList=t.toList<;>by_cases h3:u.toList=v.toList<;>simp[h1,d,h3]
theorem eqPrr(k:Nat)(a b a' b':Int)(s t s' t' u v:ByteArray)(w:World):(Op.equalIn (k+3) 140 (.agg #[.int .i64 a,.string s,.int .i64 a',.string s',.string u]) (.agg #[.int .i64 b,.string t,.int .i64 b',.string t',.string v])).run prog w= .ok (((a==b&&s.toList==t.toList)&&(a'==b'&&s'.toList==t'.toList))&&u.toList==v.toList) w:=by
 have G:=underlying43;have hS:prog.underlying 140=UF (.struct (prog.fieldsOf 140)):=XY;rw[run_equalIn_agg w (k+2) 140 _ _ hS Tryz.stoodInHeld140];have d:=λw=>vF k a b s t w
 have E:=λw=>vF k a' b' s' t' w
 simp only[Program.fieldsOf,underlying140]
 go_simp
 by_cases h1:a=b<;>by_cases d:s.toList=t.toList<;>by_cases E:u.toList=v.toList<;>by_cases h4:a'=b'<;>by_cases h5:s'.toList=t'.toList<;>simp[h1,d,E,h4,h5]
structure Par where
 f:Int
 c:ByteArray
structure Trm where
 p:Par
 v:ByteArray
structure Prr where
 a:Par
 b:Par
 v:ByteArray
abbrev rR(p:Par):List PV:=[.int .i64 p.f,.str p.c]
abbrev uB(t:Trm):List PV:=[.int .i64 t.p.f,.str t.p.c,.str t.v]
abbrev r7(t:Prr):List PV:=[.int .i64 t.a.f,.str t.a.c,.int .i64 t.b.f,.str t.b.c,.str t.v]
def lB(p q:Par):Bool:=p.f==q.f&&p.c.toList==q.c.toList
def DM(p q:Trm):Bool:=lB p.p q.p&&p.v.toList==q.v.toList
def Eh(p q:Prr):Bool:=(lB p.a q.a&&lB p.b q.b)&&p.v.toList==q.v.toList
theorem q8{p:Par}(h:RelP w R (.agg (rR p)) u):u= .agg #[.int .i64 p.f,.string p.c]:=by
 simpa[RelP,RelPL]using h
theorem Hv{p:Trm}(h:RelP w R (.agg (uB p)) u):u= .agg #[.int .i64 p.p.f,.string p.p.c,.string p.v]:=by
 simpa[RelP,RelPL]using h
theorem Jv{p:Prr}(h:RelP w R (.agg (r7 p)) u):u= .agg #[.int .i64 p.a.f,.string p.a.c,.int .i64 p.b.f,.string p.b.c,.string p.v]:=by
 simpa[RelP,RelPL]using h
section
variable {C:Ctx}{n:Nat}{σ:St}{dst:Option Tmp}{ty t':TypeId}{pos:String}{after:Array Edge}{gd:Option (Nat×Bool)}{x y:Operand}
theorem Ct{p q:Par}(G:C.P=prog)(H:σ.ev n x= .pv (.agg (rR p)))(I:σ.ev n y= .pv (.agg (rR q))):
  XJ C n ⟨dst,.binOp .eql 136 x y t',ty,pos,after,gd⟩ σ ⟨.pv (.bool (lB p q)),[],[]⟩:=
 .lit O λa w m R hw=>by
  have d:=q8 (hw.pv H);have E:=q8 (hw.pv I);have e:(Op.equalIn 10000 136 _ _).run _ w=_:=vF 9998 p.f q.f p.c q.c w;rw[G];simp[execOp,d,E,run_eqGuard_agg w _ _ _ _ _ _ Tryz.eqGuardType136,run_eql_struct,e,yf,lB,DM,Eh]
theorem Le{p q:Trm}(G:C.P=prog)(H:σ.ev n x= .pv (.agg (uB p)))(I:σ.ev n y= .pv (.agg (uB q))):
  XJ C n ⟨dst,.binOp .neq 138 x y t',ty,pos,after,gd⟩ σ ⟨.pv (.bool (!DM p q)),[],[]⟩:=
 .lit O λa w m R hw=>by
  have d:=Hv (hw.pv H);have E:=Hv (hw.pv I);have e:(Op.equalIn 10000 138 _ _).run _ w=_:=eqTrm 9997 p.p.f q.p.f p.p.c q.p.c p.v q.v w;rw[G];simp[execOp,d,E,run_eqGuard_agg w _ _ _ _ _ _ Tryz.eqGuardType138,run_neq_struct,e,yf,lB,DM,Eh]
theorem KV{p q:Prr}(G:C.P=prog)(H:σ.ev n x= .pv (.agg (r7 p)))(I:σ.ev n y= .pv (.agg (r7 q))):
  XJ C n ⟨dst,.binOp .neq 140 x y t',ty,pos,after,gd⟩ σ ⟨.pv (.bool (!Eh p q)),[],[]⟩:=
 .lit O λa w m R hw=>by
  have d:=Jv (hw.pv H);have E:=Jv (hw.pv I);have e:(Op.equalIn 10000 140 _ _).run _ w=_:=eqPrr 9997 p.a.f q.a.f p.b.f q.b.f p.a.c q.a.c p.b.c q.b.c p.v q.v w;rw[G];simp[execOp,d,E,run_eqGuard_agg w _ _ _ _ _ _ Tryz.eqGuardType140,run_neq_struct,e,yf,lB,DM,Eh]
end
end
section
open Mk
def uG(s t:ByteArray):Int:=if Op.bytesLess s.toList t.toList=VA then-1 else if(!(Op.bytesLess s.toList t.toList||s.toList==t.toList))=VA then 1 else 0
theorem Gh(s t:ByteArray):FnP prog 89 [.str s,.str t] (· = .int .i64 (uG s t)):=by
 refine FnP.of func89 O ntmps89 X2 λ_ _ _ _=>?_
 refine Z1 O<|Z1 O<|Rs O (aa call160 (vX s) O)<|A1 O<|Z1 O<|Rs O (aa call160 (vX t) O)<|A1 O<|Z1 O<|Gc O (λG=>absurd G X2) (λG=>?_);refine TM<|Z1 O<|Gc O (λH=>absurd H X2) (λH=>?_);refine TM<|Z3 O<|Gc O (λd=>?_) (λd=>?_)
 .exact Z1 O<|Gt O<|⟨_,_,O,O,ah (PV.int .i64) (by rw[uG,AT d])⟩
 refine TM<|Z3 O ?_;refine Gc O (λE=>?_) (λE=>?_)
 .exact Z1 O<|Gt O<|⟨_,_,O,O,ah (PV.int .i64) (by rw[uG,pF (by rw[d];decide),AT E])⟩
 exact TM<|Z1 O<|Gt O<|⟨_,_,O,O,ah (PV.int .i64) (by rw[uG,pF (by rw[d];decide),pF (by rw[E];decide)])⟩
def orI(l:List Int):Int:=(l.find? (· !=0)).getD 0
theorem Co(E:k<l.length)(h:∀i∈l.take k,i=0)(G:l[k]≠0):orI l=l[k]:=by
 have e:l=l.take k++l[k]::l.drop (k+1):=by rw[<-Us E,U3]
 have d:(l.take k).find? (· !=0)=UG:=List.find?_eq_none.2 λx hx=>by simp[h x hx]
 rw[orI]
 conv=>lhs;rw[e]
 rw[List.find?_append,d,Option.none_or,List.find?_cons_of_pos (by simpa using G)];rfl
theorem AB(h:∀i∈l,i=0):orI l=0:=by
 rw[orI,List.find?_eq_none.2 λx hx=>by simp[h x hx]];rfl
theorem Pp(l:List Int)(L:l.length<=1000000):FnP prog 145 [aq l] (· = .int .i64 (orI l)):=by
 refine FnP.of func145 O ntmps145 X2 λ_ _ _ _=>?_
 refine Z1 O<|Z1 O<|Z3 O<|Gz O (st:=λX6:Nat=>([(3,UG),(6,UG),(7,UG),(8,UF (pIi X6))],[])) 0
  (I:=λX6=>X6<=l.length/\∀i∈l.take X6,i=0) (μ:=λX6=>l.length-X6) (x0:=(0)) (TO (aS O) trivial O O) (⟨aJ _,λi hi=>by simp at hi⟩) ?_
 rintro k ⟨hk,hz⟩;refine Z1 O<|Gp O (λG=>?_) (λG=>?_)
 .have hlt:k<l.length:=XX;have J:=a7 hlt;have H:=aM hlt;have E:=λh=>Co hlt hz h
  refine TM<|Z1 O ?_;first|refine A2 O X0 ?_|refine A1 O ?_
  refine A1 O<|Z3 O<|Gc O (λd=>?_) (λd=>?_)
  .exact Z2 O<|Gt O<|⟨_,_,O,O,ah (PV.int .i64) (E (by simpa using d)).symm⟩
  exact TM<|Z2 O<|⟨(k+1),TO (aS O) trivial O O,⟨XX,λi hi=>by rw[bH hlt,UN,IT]at hi;rcases hi with h|rfl;exact hz i h;simpa using d⟩,XX⟩
 exact Gx O<|Z2 O<|Gt O<|⟨_,_,O,O,ah (PV.int .i64) (AB λi hi=>hz i (by rwa [aG XX])).symm⟩
def qi(a b:Int):Int:=if a<b then-1 else if b<a then 1 else 0
def bX(p q:Par):Int:=orI [qi p.f q.f,uG p.c q.c]
def mO(p q:Par):Bool:=decide (bX p q<0)
theorem IG(p q:Par):FnP prog 83 [.agg (rR p),.agg (rR q)] (· = .int .i64 (bX p q)):=by
 refine FnP.of func83 O ntmps83 X2 λ_ _ _ _=>?_
 refine Z3 O<|UB 13 O<|Dr 4 O<|Ds [] O (λτ h=>aa call146 (IZ p.f q.f) (h.aE O)) O XY<|Dr 4 O<|Ds [] O (λτ h=>aa call89 (Gh p.c q.c) (h.aE O)) O XY<|Ds [] O (λτ h=>ax UG X2 vN O XZ XZ (h.Fm O O) O) O XY<|Ds [] O (λτ h=>aa call145 (Pp [qi p.f q.f,uG p.c q.c] X2) (h.aE O)) O XY<|D1 O ?_;refine⟨XY,?_⟩;exact Gt O<|⟨_,_,O,O,O⟩
end
section
namespace Mm
open Jn
theorem w9{p q:Par}:lB p q=VA↔p=q:=by
 obtain⟨a,s⟩:=p;obtain⟨b,t⟩:=q;constructor
 .intro h;simp only[lB,dO,VK]at h;have d:a=b:=h.1;have E:s=t:=bytes_inj h.2;rw[d,E]
 .intro h;rw[h];simp[lB]
instance instBEqPar:BEq Par:=⟨lB⟩
instance instLawPar:LawfulBEq Par where
 eq_of_beq h:=w9.1 h
 rfl:=w9.2 O
abbrev PP:=Par×Par
section
variable {K:Type}[BEq K][LawfulBEq K]
def lk:List (K×Rat)->K->Rat
 |[],_=>0
 |e::l,k=>(if e.1==k then e.2 else 0)+lk l k
omit [LawfulBEq K] in
theorem eY(l m:List (K×Rat))(k:K):lk (l++m) k=lk l k+lk m k:=by
 induction l with
 |nil=>simp[lk,Rat.zero_add]
 |cons e l ih=>simp only[VI,lk,ih];grind
omit [LawfulBEq K] in
theorem Bu(l m:List (K×Rat))(e:K×Rat)(k:K):lk (l++e::m) k=lk (l++m) k+if e.1==k then e.2 else 0:=by
 rw[eY,eY];simp only[lk];grind
theorem tf{l:List (K×Rat)}{k:K}(h:∀e∈l,e.1≠k):lk l k=0:=by
 induction l with
 |nil=>rfl
 | cons e l ih=>
   have d:(e.1==k)=WA:=by grind
   simp only[lk,d,ih (λe' he=>h e' (by simp[he]))];simp[Rat.zero_add]
theorem fo{l:List (K×Rat)}(d:(l.map (·.1)).Nodup){e:K×Rat}(G:e∈l):lk l e.1=e.2:=by
 obtain⟨l1,l2,rfl⟩:=List.append_of_mem G;rw[Bu,tf,Vh,AT O,Rat.zero_add];intro e' he' hk;simp only[UO,cd]at d;have E:=Wi.1 d;have H:=Wm.1 E.2.1;rcases UN.1 he' with h|h
 .grind
 grind
def note(l:List (K×Rat))(k:K)(x:Rat):List (K×Rat):=match l.findIdx? (λe=>e.1==k)with
 |some j=>if x+(l.getD j (k,0)).2=0 then l.eraseIdx j else l.set j (k,x+(l.getD j (k,0)).2)
 |none=>if x=0 then l else l++[(k,x)]
theorem fe{k:K}:∀{l:List (K×Rat)}{j:Nat},l.findIdx? (λe=>e.1==k)=UF j->∃l1 o l2,l=l1++(k,o)::l2/\j=l1.length/\∀e∈l1,e.1≠k
 |[],_,h=>by simp at h
 | e::l,j,h=>by
   rw[List.findIdx?_cons]at h;cases hb:e.1==k with
   | true=>
     rw[hb]at h;simp only[XO,Uo]at h;subst h;have:=eq_of_beq hb;exact⟨[],e.2,l,by rw[<-this];rfl,O,X2⟩
   | false=>
     rw[hb]at h;simp only[Vv,XR,Wj]at h;obtain⟨j',h1,rfl⟩:=h;obtain⟨l1,o,l2,rfl,rfl,h2⟩:=fe h1;refine⟨e::l1,o,l2,O,O,λe' he'=>?_⟩;rcases By.1 he' with rfl|h3
     .intro e1;rw[e1]at hb;simp at hb
     exact h2 e' h3
theorem mz{k:K}{l:List (K×Rat)}(h:l.findIdx? (λe=>e.1==k)=UG):∀e∈l,e.1≠k:=by grind
theorem qP{k:K}{l1 l2:List (K×Rat)}{o:Rat}(h:∀e∈l1,e.1≠k):note (l1++(k,o)::l2) k x=if x+o=0 then l1++l2 else l1++(k,x+o)::l2:=by
 have d:(l1++(k,o)::l2).findIdx? (λe=>e.1==k)=UF l1.length:=by grind
 unfold note;rw[d];simp only;have E:(l1++(k,o)::l2).getD l1.length (k,0)=(k,o):=by simp[List.getD]
 rw[E];simp only;split
 .grind
 grind
theorem rE{k:K}{l:List (K×Rat)}(h:∀e∈l,e.1≠k):note l k x=if x=0 then l else l++[(k,x)]:=by grind[List.findIdx,note]
theorem fX(l:List (K×Rat))(k:K):(∃l1 o l2,l=l1++(k,o)::l2/\∀e∈l1,e.1≠k)\/∀e∈l,e.1≠k:=by
 cases h:l.findIdx? (λe=>e.1==k)with
 |none=>exact .inr (mz h)
 |some j=>obtain⟨l1,o,l2,h1,_,h2⟩:=fe h;exact .inl ⟨l1,o,l2,h1,h2⟩
theorem Jz(l:List (K×Rat))(k:K)(x:Rat)(k':K):lk (note l k x) k'=lk l k'+if k==k' then x else 0:=by
 rcases fX l k with⟨l1,o,l2,rfl,h⟩|h
 .grind[qP,Bu]
 rw[rE h];split
 .grind
 rw[eY];simp only[lk];grind
theorem Hw{l:List (K×Rat)}(d:(l.map (·.1)).Nodup)(k:K)(x:Rat):((note l k x).map (·.1)).Nodup:=by
 rcases fX l k with⟨l1,o,l2,rfl,h⟩|h
 .grind[qP,List.sublist_cons_self]
 grind[rE,Wi,IS.1]
theorem vG{l:List (K×Rat)}{k:K}{e:K×Rat}(h:e∈note l k x):e∈l\/(e.1=k/\e.2≠0/\(e.2=x\/∃o,(k,o)∈l/\e.2=x+o)):=by
 rcases fX l k with⟨l1,o,l2,rfl,hk⟩|hk
 .rw[qP hk]at h;split at h
  .grind
  grind
 rw[rE hk]at h;split at h
 .exact .inl h
 grind
end
structure Sem where
 c:Rat
 s:Par->Rat
 p:Par->Par->Rat
theorem Sem.same{a b:Sem}(d:a.c=b.c)(E:∀x,a.s x=b.s x)(G:∀x y,a.p x y=b.p x y):a=b:=by
 obtain⟨c,s,p⟩:=a;obtain⟨c',s',p'⟩:=b;simp only at d E G;rw[d,funext E,funext λx=>funext (G x)]
def Sem.zero:Sem:=⟨0,λ_=>0,λ_ _=>0⟩
def Sem.add(a b:Sem):Sem:=⟨a.c+b.c,λx=>a.s x+b.s x,λx y=>a.p x y+b.p x y⟩
def Sem.mul(a b:Sem):Sem:=⟨a.c*b.c,λx=>a.c*b.s x+b.c*a.s x,λx y=>a.c*b.p x y+b.c*a.p x y+(a.s x*b.s y+a.s y*b.s x)⟩
def eC(D:Int)(q:Rat):Prop:=∃z:Int,q*(D:Rat)=(z:Rat)
theorem eC.add(d:eC D a)(E:eC D b):eC D (a+b):=by
 obtain⟨x,hx⟩:=d;obtain⟨y,hy⟩:=E;exact⟨x+y,by rw[Rat.add_mul,hx,hy,Rat.intCast_add]⟩
theorem eC.mul{E:Int}(d:eC D a)(G:eC E b):eC (D*E) (a*b):=by
 obtain⟨x,hx⟩:=d;obtain⟨y,hy⟩:=G;exact⟨x*y,by rw[Wp,Wp,<-hx,<-hy];grind⟩
theorem eC.ofInt(D z:Int):eC D (z:Rat):=⟨z*D,by rw[Wp]⟩
theorem eC.up(E:Int)(d:eC D a):eC (D*E) a:=by
 obtain⟨x,hx⟩:=d;exact⟨x*E,by rw[Wp,Wp,<-hx];grind⟩
theorem eC.den(h:eC D q):(q.den:Int)∣D:=by
 obtain⟨z,hz⟩:=h;have d:q.num*D*((1:Nat):Int)=z*((q.den*1:Nat):Int):=by
  have E:q*(D:Rat)=mkRat (q.num*D) (q.den*1):=Rat.mul_def' q (D:Rat);have G:(z:Rat)=mkRat z 1:=(Rat.mkRat_self (z:Rat)).symm;rw[E,G]at hz;exact(Rat.mkRat_eq_iff (by have:=q.den_pos;omega) XZ).1 hz
 simp only[Uv,Int.natCast_one,Int.mul_one]at d;have H:q.den∣q.num.natAbs*D.natAbs:=by
  rw[<-Xs,d,Xs,Uz];exact Nat.dvd_mul_left _ _
 exact Int.ofNat_dvd_left.2 (Nat.Coprime.dvd_of_dvd_mul_left q.reduced.symm H)
theorem eC.NG(d:0<D)(h:eC D q):(q.den:Int)<=D:=Int.le_of_dvd d h.den
def bp(B:Nat)(q:Rat):Prop:= -(B:Rat)<=q/\q<=(B:Rat)
theorem bp.zero(B:Nat):bp B 0:=by
 have h:(0:Rat)<=(B:Rat):=by grind
 constructor
 .grind
 exact h
theorem bp.up(h:bp B q)(d:B<=C):bp C q:=by
 have E:(B:Rat)<=(C:Rat):=Rat.natCast_le_natCast.2 d;obtain⟨h2,h3⟩:=h;constructor<;>grind
theorem bp.add(E:bp B a)(G:bp C b):bp (B+C) (a+b):=by
 obtain⟨h1,h2⟩:=E;obtain⟨h3,h4⟩:=G;have d:((B+C:Nat):Rat)=(B:Rat)+(C:Rat):=Rat.natCast_add B C;constructor
 .rw[d];grind
 rw[d];grind
theorem bp.num(h:bp B q):q.num.natAbs<=B*q.den:=by
 obtain⟨h1,h2⟩:=h;rw[Rat.le_iff]at h1 h2;have d:((B:Nat):Rat).num=(B:Int):=rfl;have E:((B:Nat):Rat).den=1:=rfl;have G:(-((B:Nat):Rat)).num= -(B:Int):=rfl;have H:(-((B:Nat):Rat)).den=1:=rfl;rw[d,E]at h2;rw[G,H]at h1;have I:((B*q.den:Nat):Int)=(B:Int)*(q.den:Int):=X2;rw[Int.neg_mul]at h1;omega
theorem bp.mul(J:bp B a)(L:bp C b):bp (B*C) (a*b):=by
 have d:∀x y B C:Rat, -B<=x->x<=B-> -C<=y->y<=C->x*y<=B*C:=by
  intro x y B C h1 h2 h3 h4;have hB:0<=B:=by grind
  have E:0<=C:=by grind
  by_cases hx:0<=x
  .have H:x*y<=x*C:=Rat.mul_le_mul_of_nonneg_left h4 hx;have G:x*C<=B*C:=Rat.mul_le_mul_of_nonneg_right h2 E;exact Rat.le_trans H G
  have hx':0<= -x:=by grind
  have H:(-x)*(-y)<=(-x)*C:=Rat.mul_le_mul_of_nonneg_left (by grind) hx';have G:(-x)*C<=B*C:=Rat.mul_le_mul_of_nonneg_right (by grind) E
  grind
 obtain⟨h1,h2⟩:=J;obtain⟨h3,h4⟩:=L;have I:((B*C:Nat):Rat)=(B:Rat)*(C:Rat):=Rat.natCast_mul B C;constructor
 .rw[I];have:=d (-a) b (B:Rat) (C:Rat) (by grind) (by grind) h3 h4
  grind
 grind
theorem iC[BEq K][LawfulBEq K]{l:List (K×Rat)}(d:(l.map (·.1)).Nodup)(h:∀e∈l,bp B e.2)(k:K):bp B (lk l k):=by
 rcases fX l k with⟨l1,o,l2,rfl,_⟩|hk
 .have:=fo d (e:=(k,o)) X2;simp only at this;rw[this];exact h (k,o) X2
 rw[tf hk];exact bp.zero B
end Mm
end
section
namespace Mm
open Jn
theorem Jt(a b:Int):qi b a= -qi a b:=by unfold qi;split<;>split<;>(try split)<;>omega
theorem rJ{a b:Int}:qi a b=0↔a=b:=by grind[qi]
theorem Sl(a b:Int):orI [a,b]=if a≠0 then a else b:=by grind[orI]
theorem pO(s t:ByteArray):uG s t=if s.toList<t.toList then-1 else if s=t then 0 else 1:=by
 unfold uG;rw[pr];by_cases h:s.toList<t.toList
 .simp[h]
 rw[Up h,pF XZ,pF h,Bool.false_or];by_cases h2:s=t
 .subst h2;simp
 grind[bytes_inj]
theorem RQ{a b:List UInt8}(d:¬a<b)(E:¬b<a):a=b:=List.le_antisymm (List.not_lt.1 E) (List.not_lt.1 d)
theorem FM{t:ByteArray}:uG s t=0↔s=t:=by grind[pO,List.lt_irrefl]
theorem E3(s t:ByteArray):uG t s= -uG s t:=by grind[pO,List.lt_asymm,List.lt_irrefl,bytes_inj,RQ]
theorem pj(p q:Par):bX p q=if p.f≠q.f then qi p.f q.f else uG p.c q.c:=by
 unfold bX;rw[Sl];by_cases h:p.f=q.f
 .rw[pF (by simp[rJ.2 h]),pF (by simp[h])]
 rw[AT (λe=>h (rJ.1 e)),AT h]
theorem im(p q:Par):bX q p= -bX p q:=by grind[pj,E3,Jt]
theorem eU{p q:Par}:bX p q=0↔p=q:=by
 rw[pj];by_cases h:p.f=q.f
 .rw[pF (by simp[h]),FM];constructor
  .intro e;obtain⟨a,s⟩:=p;obtain⟨b,t⟩:=q;simp only at h e;subst h e;rfl
  rintro rfl;rfl
 grind[rJ]
theorem DB{a b c:ByteArray}(d:uG a b<0)(E:uG b c<0):uG a c<0:=by grind[uG,pO,List.lt_trans]
theorem ox{p q r:Par}(E:bX p q<0)(d:bX q r<0):bX p r<0:=by
 rw[pj]at*;have H:∀a b:Int,qi a b<0->a<b:=λa b h=>by unfold qi at h;split at h;assumption;split at h<;>omega
 have G:∀a b:Int,a<b->qi a b<0:=λa b h=>by unfold qi;rw[AT h];omega
 by_cases e1:p.f=q.f
 .rw[pF (by simp[e1])]at E;rw[e1];by_cases e2:q.f=r.f
  .rw[pF (by simp[e2])]at d ⊢;exact DB E d
  rw[AT e2]at d ⊢;exact d
 grind
def fl(a b:Par):PP:=if bX a b>0 then(b,a)else(a,b)
theorem F6(a b:Par):fl a b=fl b a:=by
 unfold fl;have h:=im a b;by_cases h1:bX a b>0
 .rw[AT h1,pF XX]
 by_cases h2:bX a b=0
 .have:=eU.1 h2;subst this;rfl
 rw[pF h1,AT XX]
theorem Qw(a b:Par):bX (fl a b).1 (fl a b).2<=0:=by
 unfold fl;have h:=im a b;split
 .simp only;omega
 simp only;omega
theorem eZ{a b:Par}(h:bX a b<=0):fl a b=(a,b):=by unfold fl;rw[pF XX]
theorem sZ(a b:Par):fl a b=(a,b)\/fl a b=(b,a):=by unfold fl;split<;>simp
theorem CR{a b c d:Par}(h:fl a b=fl c d):(a=c/\b=d)\/(a=d/\b=c):=by grind[sZ,Prod.mk.injEq]
structure MC where
 c:Rat
 s:List (Par×Rat)
 p:List (PP×Rat)
def MC.sem(m:MC):Sem:=⟨m.c,lk m.s,λa b=>lk m.p (fl a b)⟩
structure LOk{K:Type}(D:Int)(l:List (K×Rat)):Prop where
 nd:(l.map (·.1)).Nodup
 nz:∀e∈l,e.2≠0
 it:∀e∈l,eC D e.2
theorem LOk.nil(D:Int):LOk (K:=K) D []:=⟨X2,X2,X2⟩
theorem LOk.note[BEq K][LawfulBEq K]{l:List (K×Rat)}(h:LOk D l)(k:K)(d:eC D x):LOk D (note l k x):=by
 refine⟨Hw h.nd k x,λe he=>?_,λe he=>?_⟩
 .rcases vG he with h1|⟨_,h2,_⟩
  .exact h.nz e h1
  exact h2
 rcases vG he with h1|⟨_,_,h2|⟨o,h3,h4⟩⟩
 .exact h.it e h1
 .rw[h2];exact d
 rw[h4];exact d.add (h.it _ h3)
theorem LOk.perm[BEq K][LawfulBEq K]{l m:List (K×Rat)}(h:LOk D l)(E:LOk D m)(e:∀k,lk l k=lk m k):l.Perm m:=by
 have H:∀{l:List (K×Rat)},LOk D l->l.Nodup:=fun{l} h=>by
  exact(VW.1 h.nd).imp λhne e=>hne (by rw[e])
 have d:∀{l m:List (K×Rat)},LOk D l->LOk D m->(∀k,lk l k=lk m k)->∀x∈l,x∈m:=fun{l m} h E e x hx=>by
  have G:=fo h.nd hx;rw[e]at G;rcases fX m x.1 with⟨l1,o,l2,rfl,_⟩|hk
  .have h2:=fo E.nd (e:=(x.1,o)) X2;simp only at h2;rw[G]at h2;have:x=(x.1,o):=by rw[<-h2]
   rw[this];simp
  rw[tf hk]at G;exact absurd G.symm (h.nz x hx)
 exact(List.perm_ext_iff_of_nodup (H h) (H E)).2 λx=>⟨d h E e x,d E h (λk=>(e k).symm) x⟩
structure MOk(W k:Nat)(m:MC):Prop where
 ci:∃z:Int,m.c=(z:Rat)
 s:LOk 6 m.s
 p:LOk 36 m.p
 po:∀e∈m.p,bX e.1.1 e.1.2<=0
 cb:bp W m.c
 sb:∀e∈m.s,bp (3*k*W) e.2
 pb:∀e∈m.p,bp (9*k*k*W) e.2
theorem MOk.up{W' k':Nat}{m:MC}(h:MOk W k m)(d:W<=W')(E:k<=k'):MOk W' k' m:=
 ⟨h.ci,h.s,h.p,h.po,h.cb.up d,λe he=>(h.sb e he).up (Va (US 3 E) d),λe he=>(h.pb e he).up (Va (Va (US 9 E) E) d)⟩
theorem MOk.OA{m:MC}(h:MOk W k m)(x:Par):bp (3*k*W) (m.sem.s x):=iC h.s.nd h.sb x
theorem MOk.semP{m:MC}(h:MOk W k m)(x y:Par):bp (9*k*k*W) (m.sem.p x y):=iC h.p.nd h.pb _
theorem MOk.of{m:MC}(ci:∃z:Int,m.c=(z:Rat))(s:LOk 6 m.s)(p:LOk 36 m.p)(po:∀e∈m.p,bX e.1.1 e.1.2<=0)(cb:bp W m.sem.c)(sb:∀x,bp (3*k*W) (m.sem.s x))(pb:∀x y,bp (9*k*k*W) (m.sem.p x y)):MOk W k m:=by
 refine⟨ci,s,p,po,cb,λe he=>?_,λe he=>?_⟩
 .have:=sb e.1;rw[show m.sem.s e.1=lk m.s e.1 from O,fo s.nd he]at this;exact this
 have:=pb e.1.1 e.1.2;rw[show m.sem.p e.1.1 e.1.2=lk m.p (fl e.1.1 e.1.2)from O,eZ (po e he),show(e.1.1,e.1.2)=e.1 from O,fo p.nd he]at this;exact this
theorem MOk.perm{W' k':Nat}{m m':MC}(h:MOk W k m)(E:MOk W' k' m')(e:m.sem=m'.sem):m.c=m'.c/\m.s.Perm m'.s/\m.p.Perm m'.p:=by
 refine⟨ah Sem.c e,h.s.perm E.s λk=>congrFun (ah Sem.s e) k,h.p.perm E.p λk=>?_⟩;have d:∀{m:MC}{W k:Nat},MOk W k m->∀x:PP,lk m.p x=if bX x.1 x.2<=0 then m.sem.p x.1 x.2 else 0:=fun{m W k} h x=>by
  by_cases hx:bX x.1 x.2<=0
  .rw[AT hx];show _=lk m.p (fl x.1 x.2);rw[eZ hx]
  rw[pF hx];exact tf λe he e1=>hx (by rw[<-e1];exact h.po e he)
 rw[d h,d E,e]
end Mm
end
section
namespace Mm
open Jn
section
variable {K:Type}[BEq K][LawfulBEq K]
omit [LawfulBEq K] in
theorem fY{l m:List (K×Rat)}(h:l.Perm m)(k:K):lk l k=lk m k:=by
 induction h with
 |nil=>rfl
 |cons e _ ih=>simp only[lk,ih]
 |swap a b l=>simp only[lk];grind
 |trans _ _ ih1 ih2=>rw[ih1,ih2]
structure Inc(D:Int)(b w:List (K×Rat))(q:Rat)(todo acc:List (K×Rat)):Prop where
 ok:LOk D acc
 ex:∃d,(d++todo).Perm w/\∀k,lk acc k=lk b k+lk d k*q
omit [LawfulBEq K] in
theorem Inc.start{b:List (K×Rat)}(h:LOk D b)(w:List (K×Rat))(q:Rat):Inc D b w q w b:=
 ⟨h,[],UX _,λk=>by simp only[lk];grind⟩
theorem Inc.step{D:Int}{b w:List (K×Rat)}{q:Rat}{l1 l2:List (K×Rat)}{e:K×Rat}{acc:List (K×Rat)}(h:Inc D b w q (l1++e::l2) acc)(E:eC D (e.2*q)):Inc D b w q (l1++l2) (note acc e.1 (e.2*q)):=by
 obtain⟨d,h1,h2⟩:=h.ex;refine⟨h.ok.note _ E,d++[e],?_,λk=>?_⟩
 .grind
 rw[Jz,h2,eY];simp only[lk];split<;>grind
omit [LawfulBEq K] in
theorem Inc.end{b w:List (K×Rat)}{acc:List (K×Rat)}(h:Inc D b w q [] acc)(k:K):lk acc k=lk b k+lk w k*q:=by
 obtain⟨d,h1,h2⟩:=h.ex;rw[Vg]at h1;rw[h2,fY h1]
omit [LawfulBEq K] in
theorem Inc.mem{b w:List (K×Rat)}{todo acc:List (K×Rat)}(h:Inc D b w q todo acc){e:K×Rat}(E:e∈todo):e∈w:=by
 obtain⟨d,h1,_⟩:=h.ex;exact h1.subset (by simp[E])
theorem Inc.abs{b w:List (K×Rat)}{todo acc:List (K×Rat)}{Q:Nat}(h:Inc D b w q todo acc)(G:LOk D b)(H:LOk D w)(bb:∀e∈b,bp B e.2)(bw:∀e∈w,bp C e.2)(bq:bp Q q):∀e∈acc,bp (B+C*Q) e.2:=by
 intro e he;obtain⟨d,h1,h2⟩:=h.ex;rw[<-fo h.ok.nd he,h2];have E:(d.map (·.1)).Nodup:=by
  have:=(h1.map (·.1)).nodup_iff.2 H.nd;rw[UO]at this;exact(Wi.1 this).1
 exact(iC G.nd bb _).add ((iC E (λx hx=>bw x (h1.subset (by simp[hx]))) _).mul bq)
end
def ctr(p:Par)(x:Rat)(e:Par×Rat):PP×Rat:=(fl p e.1,if p==e.1 then x*e.2+x*e.2 else x*e.2)
theorem Sw(p:Par)(x:Rat)(e:Par×Rat)(a b:Par):(if fl p e.1==fl a b then(if p==e.1 then x*e.2+x*e.2 else x*e.2)else 0)=(if p==a then x else 0)*(if e.1==b then e.2 else 0)+(if p==b then x else 0)*(if e.1==a then e.2 else 0):=by
 obtain⟨q,y⟩:=e
 classical
 simp only;have E:∀u v:Par,(u==v)=decide (u=v):=λu v=>by grind
 have d:∀u v:PP,(u==v)=decide (u=v):=λu v=>by grind
 have G:fl p q=fl a b↔(p=a/\q=b)\/(p=b/\q=a):=by grind[CR,F6]
 simp only[E,d,OC,G];by_cases h1:p=a<;>by_cases h2:q=b<;>by_cases h3:p=b<;>by_cases h4:q=a<;>by_cases h5:p=q<;>simp only[h1,h2,h3,h4,h5,true_and,and_true,false_and,and_false,or_true,true_or,Xd,false_or,XO,XR]<;>first|grind|(exfalso;grind)|skip
structure Crs(b:List (PP×Rat))(ws dP dQ:List (Par×Rat))(p:Par)(x:Rat)(acc:List (PP×Rat)):Prop where
 ok:LOk 36 acc
 po:∀e∈acc,bX e.1.1 e.1.2<=0
 eq:∀u v,lk acc (fl u v)=lk b (fl u v)+(lk dP u*lk ws v+lk dP v*lk ws u)+((if p==u then x else 0)*lk dQ v+(if p==v then x else 0)*lk dQ u)
theorem QY{l:List (PP×Rat)}(h:∀e∈l,bX e.1.1 e.1.2<=0)(a b:Par)(x:Rat):∀e∈note l (fl a b) x,bX e.1.1 e.1.2<=0:=λe he=>by
 rcases vG he with h1|⟨h1,_⟩
 .exact h e h1
 rw[h1];exact Qw a b
theorem Crs.step{b:List (PP×Rat)}{ws dP dQ:List (Par×Rat)}{p:Par}{x:Rat}{acc:List (PP×Rat)}(h:Crs b ws dP dQ p x acc)(e:Par×Rat)(d:eC 36 (ctr p x e).2):Crs b ws dP (dQ++[e]) p x (note acc (fl p e.1) (ctr p x e).2):=by
 refine⟨h.ok.note _ d,QY h.po _ _ _,λu v=>?_⟩;rw[Jz,h.eq,eY,eY];have:=Sw p x e u v;simp only[ctr]at*;rw[this];simp only[lk]
 grind
theorem Crs.row{b:List (PP×Rat)}{ws dP dQ:List (Par×Rat)}{p:Par}{acc:List (PP×Rat)}(h:Crs b ws dP dQ p x acc)(d:dQ.Perm ws)(p':Par)(x':Rat):Crs b ws (dP++[(p,x)]) [] p' x' acc:=by
 refine⟨h.ok,h.po,λu v=>?_⟩;rw[h.eq,eY,eY,fY d,fY d];simp only[lk]
 grind
theorem Crs.abs{b:List (PP×Rat)}{ws dP dQ:List (Par×Rat)}{p:Par}{acc:List (PP×Rat)}{E:Nat}(h:Crs b ws dP dQ p x acc)(U:∀u v,bp B (lk b (fl u v)))(I:∀u,bp C (lk dP u))(V:bp C x)(J:∀u,bp E (lk ws u))(L:∀u,bp E (lk dQ u)):∀e∈acc,bp (B+(C*E+C*E)+(C*E+C*E)) e.2:=by
 intro e he;have M:=fo h.ok.nd he;have G:=h.eq e.1.1 e.1.2;rw[eZ (h.po e he)]at G;rw[<-M,show e.1=(e.1.1,e.1.2)from O,G];have d:=U e.1.1 e.1.2;rw[eZ (h.po e he)]at d;have H:∀u,bp C (if p==u then x else 0):=λu=>by split;exact V;exact bp.zero C
 exact(d.add (((I _).mul (J _)).add ((I _).mul (J _)))).add (((H _).mul (L _)).add ((H _).mul (L _)))
theorem MOk.mul{W' k':Nat}{v w m:MC}(d:MOk W k v)(E:MOk W' k' w)(hc:m.c=v.c*w.c)(G:LOk 6 m.s)(H:LOk 36 m.p)(po:∀e∈m.p,bX e.1.1 e.1.2<=0)
  (es:∀x,lk m.s x=lk w.s x*v.c+lk v.s x*w.c) (ep:∀x y,lk m.p (fl x y)=lk w.p (fl x y)*v.c+lk v.p (fl x y)*w.c+(lk v.s x*lk w.s y+lk v.s y*lk w.s x)):
  m.sem=Sem.mul v.sem w.sem/\MOk (W*W') (k+k') m:=by
 have e:m.sem=Sem.mul v.sem w.sem:=Sem.same hc (λx=>by show lk m.s x=_;rw[es];simp only[Sem.mul,MC.sem];grind) (λx y=>by show lk m.p (fl x y)=_;rw[ep];simp only[Sem.mul,MC.sem];grind);refine⟨e,MOk.of ?_ G H po ?_ (λx=>?_) λx y=>?_⟩
 .obtain⟨a,ha⟩:=d.ci;obtain⟨b,hb⟩:=E.ci;exact⟨a*b,by rw[hc,ha,hb,Wp]⟩
 .show bp _ m.c;rw[hc];exact d.cb.mul E.cb
 .rw[e];refine((d.cb.mul (E.OA x)).add (E.cb.mul (d.OA x))).up (Vl ?_)
  grind
 rw[e];refine(((d.cb.mul (E.semP x y)).add (E.cb.mul (d.semP x y))).add (((d.OA x).mul (E.OA y)).add ((d.OA y).mul (E.OA x)))).up (Vl ?_)
 grind
theorem MOk.add{W':Nat}{v w m:MC}(d:MOk W k v)(E:MOk W' k w)(hc:m.c=v.c+w.c)(G:LOk 6 m.s)(H:LOk 36 m.p)(po:∀e∈m.p,bX e.1.1 e.1.2<=0)
  (es:∀x,lk m.s x=lk v.s x+lk w.s x) (ep:∀x,lk m.p x=lk v.p x+lk w.p x):m.sem=Sem.add v.sem w.sem/\MOk (W+W') k m:=by
 have e:m.sem=Sem.add v.sem w.sem:=Sem.same hc es (λx y=>ep _);refine⟨e,MOk.of ?_ G H po ?_ (λx=>?_) λx y=>?_⟩
 .obtain⟨a,ha⟩:=d.ci;obtain⟨b,hb⟩:=E.ci;exact⟨a+b,by rw[hc,ha,hb,Rat.intCast_add]⟩
 .show bp _ m.c;rw[hc];exact d.cb.add E.cb
 .rw[e];refine((d.OA x).add (E.OA x)).up (Vl ?_)
  grind
 rw[e];refine((d.semP x y).add (E.semP x y)).up (Vl ?_)
 grind
end Mm
end
section
namespace Mm
open Jn
structure Cmp{K:Type}(cmp:K->K->Int):Prop where
 swap:∀a b,cmp b a= -cmp a b
 zero:∀{a b},cmp a b=0->a=b
 trans:∀{a b c},cmp a b<0->cmp b c<0->cmp a c<0
theorem dI:Cmp bX:=⟨im,eU.1,ox⟩
def ca(a b:PP):Int:=orI [bX a.1 b.1,bX a.2 b.2]
theorem cN:Cmp ca:=by
 have e:∀a b:PP,ca a b=if bX a.1 b.1≠0 then bX a.1 b.1 else bX a.2 b.2:=λa b=>Sl _ _
 refine⟨λa b=>?_,fun{a b} h=>?_,fun{a b c} h1 h2=>?_⟩
 .grind[im,bX]
 .rw[e]at h;split at h
  .rename_i h1;exact absurd h h1
  rename_i h1;exact Prod.ext (eU.1 XX) (eU.1 h)
 rw[e]at*;by_cases e1:bX a.1 b.1=0
 .rw[pF XX]at h1;rw[eU.1 e1];by_cases e2:bX b.1 c.1=0
  .rw[pF XX]at h2 ⊢;exact ox h1 h2
  rw[AT e2]at h2 ⊢;exact h2
 rw[AT e1]at h1;by_cases e2:bX b.1 c.1=0
 .rw[<-eU.1 e2,AT e1];exact h1
 rw[AT e2]at h2;have:=ox h1 h2;rw[AT XX];exact this
section
variable {K:Type}(cmp:K->K->Int)
def jD(e:K×Rat):List (K×Rat)->List (K×Rat)
 |[]=>[e]
 |x::l=>if cmp x.1 e.1<0 then x::jD e l else e::x::l
def srt(l:List (K×Rat)):List (K×Rat):=l.foldr (jD cmp) []
abbrev Asc(l:List (K×Rat)):Prop:=l.Pairwise λa b=>cmp a.1 b.1<0
theorem lR(e:K×Rat):∀l,(jD cmp e l).Perm (e::l)
 |[]=>UX _
 | x::l=>by
   simp only[jD];split
   .exact(List.Perm.cons _ (lR e l)).trans (List.Perm.swap _ _ _)
   exact UX _
theorem bt:∀l,(srt cmp l).Perm l
 |[]=>UX _
 |e::l=>(lR cmp e _).trans (List.Perm.cons _ (bt l))
variable {cmp}
theorem uf(h:Cmp cmp){e:K×Rat}:∀{l},Asc cmp l->(∀x∈l,x.1≠e.1)->Asc cmp (jD cmp e l)
 |[],_,_=>by simp[jD,Asc]
 | x::l,ha,hn=>by
   obtain⟨h1,h2⟩:=Vd.1 ha;simp only[jD];split
   .rename_i hx;refine Vd.2 ⟨λy hy=>?_,uf h h2 λz G=>hn z (by simp[G])⟩;rcases By.1 ((lR cmp e l).mem_iff.1 hy)with rfl|hy
    .exact hx
    exact h1 y hy
   rename_i hx;have E:=hn x X2;have G:cmp x.1 e.1≠0:=λH=>E (h.zero H)
   have I:=h.swap x.1 e.1;have d:cmp e.1 x.1<0:=XX;refine Vd.2 ⟨λy hy=>?_,ha⟩;rcases By.1 hy with rfl|hy
   .exact d
   exact h.trans d (h1 y hy)
theorem fk(h:Cmp cmp):∀{l:List (K×Rat)},(l.map (·.1)).Nodup->Asc cmp (srt cmp l)
 |[],_=>List.Pairwise.nil
 | e::l,hn=>by
   simp only[cd,Wm]at hn;exact uf h (fk h hn.2) λx hx e1=>hn.1<|IS.2 ⟨x,(bt cmp l).mem_iff.1 hx,e1⟩
theorem iD(h:Cmp cmp):∀{l m:List (K×Rat)},Asc cmp l->Asc cmp m->l.Perm m->l=m
 |[],m,_,_,hp=>(List.Perm.nil_eq hp)
 |x::l,[],_,_,hp=>absurd hp.length_eq X2
 | x::l,y::m,hl,hm,hp=>by
   obtain⟨h1,h2⟩:=Vd.1 hl;obtain⟨h3,h4⟩:=Vd.1 hm;have d:∀k,¬cmp k k<0:=λk e=>by have:=h.swap k k;omega
   have E:x=y:=by
    have G:x∈y::m:=hp.mem_iff.1 X2;have H:y∈x::l:=hp.mem_iff.2 X2;rcases By.1 G with e|G
    .exact e
    rcases By.1 H with e|H
    .exact e.symm
    have a:=h3 x G;have b:=h1 y H;exact absurd (h.trans a b) (d _)
   subst E;rw[iD h h2 h4 (List.Perm.cons_inv hp)]
theorem mF(h:Cmp cmp){l:List (K×Rat)}(d:Asc cmp l):(l.map (·.1)).Nodup:=by
 rw[List.Nodup,VW];exact d.imp fun{a b} hlt e=>by have:=h.swap a.1 a.1;rw[<-e]at hlt;omega
theorem N6(h:Cmp cmp){l:List (K×Rat)}(d:Asc cmp l):srt cmp l=l:=iD h (fk h (mF h d)) d (bt cmp l)
theorem LOk.srt{l:List (K×Rat)}(h:LOk D l):LOk D (srt cmp l):=
 ⟨((bt cmp l).map _).nodup_iff.2 h.nd,λe he=>h.nz e ((bt cmp l).mem_iff.1 he),λe he=>h.it e ((bt cmp l).mem_iff.1 he)⟩
end
def canon(m:MC):MC:=⟨m.c,srt bX m.s,srt ca m.p⟩
theorem Hh(m:MC):(canon m).sem=m.sem:=Sem.same O (λx=>fY (bt _ _) x) (λx y=>fY (bt _ _) _)
theorem MOk.canon{m:MC}(h:MOk W k m):MOk W k (canon m):=
 ⟨h.ci,h.s.srt,h.p.srt,λe he=>h.po e ((bt _ _).mem_iff.1 he),h.cb,λe he=>h.sb e ((bt _ _).mem_iff.1 he),λe he=>h.pb e ((bt _ _).mem_iff.1 he)⟩
theorem Nf{W' k':Nat}{m m':MC}(h:MOk W k m)(d:MOk W' k' m')(e:m.sem=m'.sem):canon m=canon m':=by
 obtain⟨e1,e2,e3⟩:=h.perm d e;have E:srt bX m.s=srt bX m'.s:=iD dI (fk dI h.s.nd) (fk dI d.s.nd) ((bt _ _).trans (e2.trans (bt _ _).symm));have G:srt ca m.p=srt ca m'.p:=iD cN (fk cN h.p.nd) (fk cN d.p.nd) ((bt _ _).trans (e3.trans (bt _ _).symm));rw[Mm.canon,Mm.canon,e1,E,G]
def SOk(W k:Nat)(x:Sem):Prop:=∃m,MOk W k m/\m.sem=x
theorem SOk.up{W' k':Nat}{x:Sem}(h:SOk W k x)(d:W<=W')(E:k<=k'):SOk W' k' x:=by
 obtain⟨m,h1,h2⟩:=h;exact⟨m,h1.up d E,h2⟩
open Classical in
noncomputable def cn(x:Sem):MC:=if h:∃m,(∃W k,MOk W k m)/\m.sem=x then canon h.choose else⟨0,[],[]⟩
theorem SX{m:MC}(h:MOk W k m):cn m.sem=canon m:=by
 have d:∃m',(∃W k,MOk W k m')/\m'.sem=m.sem:=⟨m,⟨W,k,h⟩,O⟩;obtain⟨⟨W',k',h1⟩,h2⟩:=d.choose_spec;rw[cn,dif_pos d];exact Nf h1 h h2
theorem SOk.cn{x:Sem}(h:SOk W k x):MOk W k (cn x)/\(cn x).sem=x/\Asc bX (cn x).s/\Asc ca (cn x).p:=by
 obtain⟨m,h1,rfl⟩:=h;rw[SX h1];exact⟨h1.canon,Hh m,fk dI h1.s.nd,fk cN h1.p.nd⟩
theorem K4{m:MC}(h:MOk W k m)(d:Asc bX m.s)(E:Asc ca m.p):cn m.sem=m:=by
 rw[SX h,Mm.canon,N6 dI d,N6 cN E]
end Mm
end
section
theorem St.R6{σ τ:St}(p:Nat->Bool)(ρ:Nat->Nat)(M:∀t,τ.sl t= .pv .any\/σ.sl t=(τ.sl t).ren ρ)(U:∀t,(τ.sl t).all p=VA)
  (L:∀i o,τ.ob i=UF o->σ.ob (ρ i)=UF (o.ren ρ)/\p i=VA/\o.all p=VA) (J:∀i j,p i=VA->p j=VA->ρ i=ρ j->i=j)
  (H:∀i,p i=VA->τ.av i=WA) (E:∀i,big<=i->τ.av i=WA/\ρ i=i):σ.le τ:=by
 rintro C n a w ⟨m,R,hw⟩
 let m2:Gm:=λi=>if(τ.ob i).isSome then m (ρ i)else UG
 have d:∀i x,m2 i=UF x->m (ρ i)=UF x/\p i=VA:=λi x h=>by
  simp only[m2]at h;split at h
  .rename_i M;obtain⟨o,hoo⟩:=UP.1 M;exact⟨h,(L i o hoo).2.1⟩
  cases h
 have V:∀i x,p i=VA->m2 i=UF x->m (ρ i)=UF x:=λi x _ h=>(d i x h).1
 refine⟨m2,R,⟨?_,?_,?_,?_,?_,hw.hr.rsz,hw.hr.rfr,hw.hr.r0,hw.hr.frame,?_,λi hi=>(E i hi).1⟩,hw.df,hw.sz,?_⟩
 .intro i;simp only[m2];cases e:τ.ob i with
  |none=>rfl
  | some o=>
    have:=hw.hr.dom (ρ i);rw[(L i o e).1]at this;simpa[bM,Ob.jX]using this
 .intro i hi;cases e:τ.ob i with
  |none=>rfl
  | some o=>
    have G:=H i (L i o e).2.1;rw[hi]at G;cases G
 .intro i o b N G h4;have X:=L i o G;exact(hw.hr.obj _ _ b N X.1 (d _ _ h4).1).iy ρ p V H X.2.2
 .intro i j b N N' e1 I;exact J i j (d _ _ e1).2 (d _ _ I).2 (hw.hr.inj _ _ b N N' (d _ _ e1).1 (d _ _ I).1)
 .exact λi b N e=>hw.hr.own _ b N (d _ _ e).1
 .intro i x hi e;have I:=(d i x e).1;rw[(E i hi).2]at I;exact hw.hr.gY i x hi I
 .intro t ht;rcases M t with e|e
  .rw[e];simp only[Rel,RelP]
  have G:=hw.sl t ht;rw[e]at G;exact G.iy ρ p V H _ _ (U t)
def ovl(σ:St)(A:Nat)(TA T:TypeId)(cells:List V)(ls:List (List PV)):St:=
 ⟨σ.sl,λid=>bif Nat.beq id A then UF (.mix TA cells)else bif (Nat.ble 1000 id&&Nat.blt id (1000+ls.length))then UF (.gro T (ls.getD (id-1000) []))else σ.ob id,λid=>σ.av id&&Nat.blt id 1000⟩
def chV(ls:List (List PV)):List V:=ls.zipIdx.map λp=> .gsl (p.2+1000) 1 p.1.length
def chP(ls:List (List PV)):List V:=ls.map λc=> .pv (.sl UG c.length c)
theorem Jl(h:j<ls.length):(chV ls)[j*1]? =UF (.gsl (j+1000) 1 ls[j].length):=by
 simp[chV,h]
theorem jR(ls:List (List PV)):(chV ls).length=ls.length:=by simp[chV]
theorem beqT(h:i=k):Nat.beq i k=VA:=by subst h;exact XU i
theorem IQ(h:i≠k):Nat.beq i k=WA:=by grind[Nat.beq,bZ]
theorem bltT(h:i<k):Nat.blt i k=VA:=WL h
theorem J9(h:Nat.blt i k=VA):i<k:=Uy h
theorem dr{σ:St}{cells:List V}(d:A<1000)(h:j<ls.length):(ovl σ A TA T cells ls).ob (j+1000)=UF (.gro T ls[j]):=by
 show(bif Nat.beq (j+1000) A then _ else _)=_;rw[IQ XX,UZ,show Nat.ble 1000 (j+1000)=VA from WL XX,show Nat.blt (j+1000) (1000+ls.length)=VA from bltT XX];simp[List.getD,h]
theorem oA{σ:St}{cells:List V}(h:i≠A)(d:i<1000):(ovl σ A TA T cells ls).ob i=σ.ob i:=by
 show(bif Nat.beq i A then _ else _)=_;rw[IQ h,UZ];have:Nat.ble 1000 i=WA:=by
  cases hb:Nat.ble 1000 i with
  |false=>rfl
  |true=>have:=Uy hb;omega
 rw[this];rfl
theorem r9{σ:St}{cells:List V}(d:A<1000)(h:1000+ls.length<=i):(ovl σ A TA T cells ls).ob i=σ.ob i:=by
 show(bif Nat.beq i A then _ else _)=_;rw[IQ XX,UZ];have:Nat.blt i (1000+ls.length)=WA:=by
  cases hb:Nat.blt i (1000+ls.length)with
  |false=>rfl
  |true=>have:=J9 hb;omega
 rw[this,Bool.and_false];rfl
theorem xW{σ:St}{cells:List V}:(ovl σ A TA T cells ls).ob A=UF (.mix TA cells):=by
 show(bif Nat.beq A A then _ else _)=_;rw[beqT O];rfl
theorem St.GV{σ:St}(T:TypeId)(m:Nat)(U:σ.ob A=UF (.mix TA (List.replicate m (.pv nS))))(X:A<1000)(Z:m<=1000)(V:∀i,1000<=i->i<2000->σ.av i=VA):σ.le (ovl σ A TA T (chV (List.replicate m [])) (List.replicate m [])):=by
 rintro C n a w ⟨mm,R,hw⟩;have G:∀i,σ.av i=WA->(ovl σ A TA T (chV (List.replicate m [])) (List.replicate m [])).av i=WA:=λi h=>by
  show(σ.av i&&_)=WA;rw[h];rfl
 have d:∀i,1000<=i->i<2000->mm i=UG:=λi h1 E=>by
  have I:=hw.hr.dom i;rw[hw.hr.free i (V i h1 E)]at I;simpa[bM]using I
 have H:∀b,R b->R b/\w.heap[b]? =w.heap[b]? :=λb h=>⟨h,O⟩
 refine⟨mm,R,⟨?_,?_,?_,hw.hr.inj,hw.hr.own,hw.hr.rsz,hw.hr.rfr,hw.hr.r0,hw.hr.frame,hw.hr.gY,λi hi=>G i (hw.hr.res i hi)⟩,hw.df,hw.sz,λt ht=>(hw.sl t ht).mono H (λ_ _ _ e=>e) G _ _⟩
 .intro i;by_cases e:i=A
  .subst e;rw[xW,hw.hr.dom,U];rfl
  by_cases h1:i<1000
  .rw[oA e h1];exact hw.hr.dom i
  by_cases E:i<1000+m
  .have:=dr (σ:=σ) (TA:=TA) (T:=T) (cells:=chV (List.replicate m [])) (ls:=List.replicate m []) X (j:=i-1000) X3;rw[show i-1000+1000=i by omega]at this;rw[this,d i XX XX];simp[bM,Ob.real]
  rw[r9 X X3];exact hw.hr.dom i
 .intro i h;have J:(σ.av i&&Nat.blt i 1000)=VA:=h;rw[dO]at J;have E:=hw.hr.free i J.1;have L:=J9 J.2;have e:i≠A:=λe=>by subst e;rw[U]at E;cases E
  rw[oA e L];exact E
 .intro i o b N h1 E;by_cases e:i=A
  .subst e;rw[xW]at h1;cases h1;obtain⟨arr,q1,q2,q3,q4⟩:=hw.hr.obj i _ b N U E;refine⟨arr,q1,q2,by rw[jR];simpa using q3,?_⟩;rw[jR];simp only[V0]at q4 ⊢;have M:∀(k s:Nat)(us:List Value),s+k<=m->RelL w mm σ.av R (List.replicate k (.pv nS)) us->RelL w mm (ovl σ i TA T (chV (List.replicate m [])) (List.replicate m [])).av R (((List.replicate k ([]:List PV)).zipIdx s).map λp=> .gsl (p.2+1000) 1 p.1.length) us:=by
    intro k;induction k with
    |zero=>intro s us _ h;simpa[RelL]using h
    | succ k ih=>
      intro s us hk h;simp only[W6,RelL]at h;obtain⟨u,vs,rfl,hu,hv⟩:=h;simp only[W6,List.zipIdx_cons,cd,RelL];refine⟨u,vs,O,?_,ih (s+1) vs XX hv⟩;simp only[Rel,RelP]at hu ⊢;obtain⟨A',c,rfl,_,hc,hb,hcz,_⟩:=hu;have Y:=hb VA O;refine⟨?_,A',c,O,aJ _,hc,λ_=>⟨?_,hcz trivial,d _ XX XX⟩,λh=>absurd h X2⟩
      .show(σ.av (s+1000)&&Nat.blt (s+1000) 1000)=WA;have:Nat.blt (s+1000) 1000=WA:=by
        cases hb:Nat.blt (s+1000) 1000 with
        |false=>rfl
        |true=>have:=J9 hb;omega
       rw[this,Bool.and_false]
      simp_all
   exact M m 0 _ XX q4
  by_cases hf:1000<=i/\i<1000+m
  .grind
  have I:σ.ob i=UF o:=by grind[oA,r9]
  exact(hw.hr.obj i o b N I E).mono H (λ_ _ _ e=>e) G O
mutual
theorem V.all_mono{p q:Nat->Bool}(h:∀i,p i=VA->q i=VA):∀v:V,v.all p=VA->v.all q=VA
 |.pv _,_=>rfl
 |.ptr i _,hv=>by simp only[V.all]at hv ⊢; exact h i hv
 |.osl i _ _,hv=>by simp only[V.all]at hv ⊢; exact h i hv
 |.tsl i _ _,hv=>by simp only[V.all]at hv ⊢; exact h i hv
 |.gsl i _ _,hv=>by simp only[V.all]at hv ⊢; exact h i hv
 |.map i,hv=>by simp only[V.all]at hv ⊢; exact h i hv
 |.agg cs,hv=>by simp only[V.all]at hv ⊢; exact V.allL_mono h cs hv
 |.tup cs,hv=>by simp only[V.all]at hv ⊢; exact V.allL_mono h cs hv
 |.fn _ a b,hv=>by simp only[V.all,dO]at hv ⊢; exact⟨V.allL_mono h a hv.1,V.allL_mono h b hv.2⟩
theorem V.allL_mono{p q:Nat->Bool}(h:∀i,p i=VA->q i=VA):∀vs:List V,V.allL p vs=VA->V.allL q vs=VA
 |[],_=>rfl
 |c::cs,hv=>by simp only[V.allL,dO]at hv ⊢; exact⟨V.all_mono h c hv.1,V.allL_mono h cs hv.2⟩
end
mutual
theorem V.vd(id:Nat)(r:Bool)(cs:List PV):∀v:V,v.all (λi=> !(Nat.beq i id))=VA->V.pubV id r cs v=v
 |.pv _,_=>rfl
 |.ptr _ _,_=>rfl
 |.osl i _ _,h=>by simp only[V.all,VM]at h;simp only[V.pubV,h,UZ]
 |.tsl i _ _,h=>by simp only[V.all,VM]at h;simp only[V.pubV,h,UZ]
 |.gsl i _ _,h=>by simp only[V.all,VM]at h;simp only[V.pubV,h,UZ]
 |.map _,_=>rfl
 |.agg cs',h=>by simp only[V.all]at h;simp only[V.pubV,V.pubL_out id r cs cs' h]
 |.tup cs',h=>by simp only[V.all]at h;simp only[V.pubV,V.pubL_out id r cs cs' h]
 |.fn _ a b,h=>by simp only[V.all,dO]at h;simp only[V.pubV,V.pubL_out id r cs a h.1,V.pubL_out id r cs b h.2]
theorem V.pubL_out(id:Nat)(r:Bool)(cs:List PV):∀vs:List V,V.allL (λi=> !(Nat.beq i id)) vs=VA->V.pubL id r cs vs=vs
 |[],_=>rfl
 |c::cs',h=>by simp only[V.allL,dO]at h;simp only[V.pubL,V.vd id r cs c h.1,V.pubL_out id r cs cs' h.2]
end
theorem Ob.vd(id:Nat)(r:Bool)(cs:List PV){o:Ob}(h:o.all (λi=> !(Nat.beq i id))=VA):o.Ll id r cs=o:=by
 cases o with
 |mix t vs=>exact ah _ (V.pubL_out id r cs vs h)
 |cells _ _=>rfl
 |gro _ _=>rfl
 |mp _ _=>rfl
 |it _ _=>rfl
 |fro _ _=>rfl
 |mi _ _ _=>rfl
def chM(ls:List (List PV))(j:Nat):List V:=chV (ls.take j)++chP (ls.drop j)
theorem Bn{r:Bool}(vs:List V):V.pubL id r cs vs=vs.map (V.pubV id r cs):=by
 induction vs with
 |nil=>rfl
 |cons v vs ih=>rw[V.pubL,ih,cd]
theorem OU(ls:List (List PV))(h:j<ls.length):V.pubL (j+1000) WA ls[j] (chM ls (j+1))=chM ls j:=by
 rw[Bn];unfold chM;have E:chV (ls.take (j+1))=chV (ls.take j)++[.gsl (j+1000) 1 ls[j].length]:=by grind[sh,chV,List.zipIdx_cons,List.zipIdx_nil,OF]
 have G:chP (ls.drop j)= .pv (.sl UG ls[j].length ls[j])::chP (ls.drop (j+1)):=by
  rw[Us h];rfl
 have H:(chV (ls.take j)).map (V.pubV (j+1000) WA ls[j])=chV (ls.take j):=by
  have:∀v∈chV (ls.take j),V.pubV (j+1000) WA ls[j] v=v:=λv hv=>by
   unfold chV at hv;obtain⟨q,hq,rfl⟩:=IS.1 hv;have:=List.mem_zipIdx hq;have d:=this.2.1;rw[OF]at d;simp only[V.pubV];rw[IQ XX,UZ]
  rw[UT this];exact List.map_id' _
 have I:(chP (ls.drop (j+1))).map (V.pubV (j+1000) WA ls[j])=chP (ls.drop (j+1)):=by
  have:∀v∈chP (ls.drop (j+1)),V.pubV (j+1000) WA ls[j] v=v:=λv hv=>by
   unfold chP at hv;obtain⟨q,_,rfl⟩:=IS.1 hv;rfl
  rw[UT this];exact List.map_id' _
 have d:V.pubV (j+1000) WA ls[j] (.gsl (j+1000) 1 ls[j].length)= .pv (.sl UG ls[j].length ls[j]):=by
  simp only[V.pubV];rw[beqT O,VG]
 rw[E,G,UO,UO,H,I,cd,Vn,d,WH,List.singleton_append]
theorem St.FZ{σ:St}(ls:List (List PV))(E:A<1000)(hm:ls.length<=1000)(Z:∀t,(σ.sl t).all (λi=>Nat.blt i 1000)=VA)(M:∀i o,σ.ob i=UF o->i<1000/\o.all (λi=>Nat.blt i 1000)=VA):
  (ovl σ A TA T (chV ls) ls).le (ovl σ A TA T (chP ls) []):=by
 have X:∀(j:Nat)(v:V),v.all (λi=>Nat.blt i 1000)=VA->v.all (λi=> !(Nat.beq i (j+1000)))=VA:=λj v h=>V.all_mono (λi hi=>by
  have:=J9 hi;rw[IQ XX];rfl) v h
 have Y:∀(j:Nat)(o:Ob),o.all (λi=>Nat.blt i 1000)=VA->o.all (λi=> !(Nat.beq i (j+1000)))=VA:=λj o h=>by
  cases o with
  | mix t vs=>exact V.allL_mono (λi hi=>by
    have:=J9 hi;rw[IQ XX];rfl) vs h
  |cells _ _=>rfl
  |gro _ _=>rfl
  |mp _ _=>rfl
  |it _ _=>rfl
  |fro _ _=>rfl
  |mi _ _ _=>rfl
 have G:∀j,(h:j<ls.length)->(ovl σ A TA T (chM ls (j+1)) (ls.take (j+1))).le (ovl σ A TA T (chM ls j) (ls.take j)):=by
  intro j h;have H:j<(ls.take (j+1)).length:=by rw[OF];omega
  have d:=dr (σ:=σ) (TA:=TA) (T:=T) (cells:=chM ls (j+1)) E H;rw[List.getElem_take]at d;have U:=TR (j+1000) d (r:=WA) (cs:=ls[j]) O;have e:(ovl σ A TA T (chM ls (j+1)) (ls.take (j+1))).RI (j+1000) WA ls[j]=ovl σ A TA T (chM ls j) (ls.take j):=by
   have I:(λt=>V.pubV (j+1000) WA ls[j] (σ.sl t))=σ.sl:=funext λt=>V.vd _ _ _ _ (X j _ (Z t))
   have J:∀i,(bif Nat.beq i (j+1000)then UG else((ovl σ A TA T (chM ls (j+1)) (ls.take (j+1))).ob i).map (Ob.Ll (j+1000) WA ls[j]))=(ovl σ A TA T (chM ls j) (ls.take j)).ob i:=by
    intro i;by_cases hi:i=j+1000
    .subst hi;rw[beqT O,VG,r9 E (by rw[OF];omega)];cases hq:σ.ob (j+1000)with
     |none=>rfl
     |some o=>have:=(M _ o hq).1;omega
    rw[IQ hi,UZ];by_cases hiA:i=A
    .subst hiA;rw[xW,xW];simp only[V5,Ob.Ll];rw[OU ls h]
    by_cases h1:i<1000
    .rw[oA hiA h1,oA hiA h1];cases hq:σ.ob i with
     |none=>rfl
     |some o=>simp only[V5];rw[Ob.vd _ _ _ (Y j o (M i o hq).2)]
    by_cases h2:i<j+1000
    .obtain⟨q,rfl⟩:∃q,i=q+1000:=⟨i-1000,XX⟩;rw[dr E (by rw[OF];omega),dr E (by rw[OF];omega)];simp[Ob.Ll,List.getElem_take]
    rw[r9 E (by rw[OF];omega),r9 E (by rw[OF];omega)];cases hq:σ.ob i with
    |none=>rfl
    |some o=>have:=(M i o hq).1;omega
   unfold St.RI;show St.mk (λt=>V.pubV (j+1000) WA ls[j] (σ.sl t)) _ _=St.mk σ.sl _ _;rw[I]
   congr 1
   exact funext J
  rw[e]at U;exact U
 have L:∀j,j<=ls.length->(ovl σ A TA T (chM ls j) (ls.take j)).le (ovl σ A TA T (chM ls 0) (ls.take 0)):=by
  intro j;induction j with
  |zero=>exact λ_ C n a w h=>h
  |succ j ih=>exact λh=>(G j h).trans (ih XX)
 have:=L ls.length (tJ _);have I:chM ls ls.length=chV ls:=by unfold chM chP;rw[V7,List.drop_length];simp
 have J:chM ls 0=chP ls:=by unfold chM;rw[Xt,List.drop_zero];rfl
 rwa [I,J,V7,Xt]at this
def rnF(up nw i:Nat):Nat:=bif Nat.beq i (up+1000)then nw else i
theorem dt{up nw:Nat}(h:i≠up+1000):rnF up nw i=i:=by unfold rnF;rw[IQ h];rfl
theorem Bv(up nw:Nat):rnF up nw (up+1000)=nw:=by unfold rnF;rw[beqT O];rfl
theorem St.gS{σ:St}{l:List (Nat×V)}{os:List (Nat×Ob)}(up nw:Nat)(U:sL σ (rnF up nw) l)(X:gJ σ (rnF up nw) os)
  (Y:σ.ob A=UF (.mix TA (V.renL (rnF up nw) (chV ls)))) (Z:∀j (h:j<ls.length),σ.ob (rnF up nw (j+1000))=UF (.gro T ls[j])) (h1:l.all (λp=>p.2.okA k)=VA) (J:os.all (λp=>Nat.blt p.1 k&&p.2.okA k)=VA)
  (hk:k<=nw) (hn:nw<1000) (H:A<k) (hup:up<=1000) (hm:ls.length<=1000):σ.le (ovl (mkS l os k) A TA T (chV ls) ls):=by
 have L:big=9000:=rfl;have I:∀i,(Nat.blt i k||Nat.ble big i)=VA->i<k\/big<=i:=λi h=>by simp_all
 refine St.R6 (λi=>decide (i<k)||decide (big<=i)||(decide (1000<=i)&&decide (i<1000+ls.length))) (rnF up nw) ?_ ?_ ?_ ?_ ?_ ?_
 .exact jW U
 .intro t;exact V.all_mono (λi hi=>by rcases I i hi with h|h<;>simp[h]) _ (V.jI _ _ (look_ok h1 t))
 .intro i o h;by_cases e:i=A
  .subst e;rw[xW]at h;cases h;refine⟨by rw[dt XX];exact Y,by simp[H],?_⟩;show V.allL _ (chV ls)=VA;have:∀(vs:List V),(∀v∈vs,V.all (λi=>decide (i<k)||decide (big<=i)||(decide (1000<=i)&&decide (i<1000+ls.length))) v=VA)->V.allL (λi=>decide (i<k)||decide (big<=i)||(decide (1000<=i)&&decide (i<1000+ls.length))) vs=VA:=by
    intro vs;induction vs with
    |nil=>intro _;rfl
    |cons v vs ih=>intro h;simp only[V.allL,dO];exact⟨h v X2,ih λw hw=>h w (by simp[hw])⟩
   refine this _ λv hv=>?_
   unfold chV at hv;obtain⟨q,hq,rfl⟩:=IS.1 hv;have:=(List.mem_zipIdx hq).2.1;simp only[V.all];rw[SR (show 1000<=q.2+1000 by omega),SR (show q.2+1000<1000+ls.length by omega)];simp
  by_cases h1000:i<1000
  .rw[oA e h1000]at h;have d:=bN h;have E:=IX.1 J _ d;simp only[dO]at E;refine⟨fD X i o d,by simp[J9 E.1],?_⟩;have M:=Ob.jI k E.2;cases o with
   |mix t vs=>exact V.allL_mono (λi hi=>by rcases I i hi with h|h<;>simp[h]) vs M
   |cells _ _=>rfl
   |gro _ _=>rfl
   |mp _ _=>rfl
   |it _ _=>rfl
   |fro _ _=>rfl
   |mi _ _ _=>rfl
  by_cases h2000:i<1000+ls.length
  .obtain⟨j,rfl⟩:∃j,i=j+1000:=⟨i-1000,XX⟩;have G:j<ls.length:=XX;rw[dr XX G]at h;cases h;refine⟨Z j G,?_,O⟩;rw[SR (show 1000<=j+1000 by omega),SR (show j+1000<1000+ls.length by omega)];simp
  rw[r9 XX XX]at h;have d:=bN h;have E:=IX.1 J _ d;simp only[dO]at E;have:=J9 E.1;omega
 .intro i j hi G e;simp only[UW,dO,OC]at hi G;by_cases e1:i=up+1000
  .grind[Bv,dt]
  grind[Bv,dt]
 .intro i hi;simp only[UW,dO,OC]at hi;show(avK k i&&Nat.blt i 1000)=WA;rcases hi with(h|h)|h
  .have:Nat.ble k i=WA:=by
    cases hb:Nat.ble k i with
    |false=>rfl
    |true=>have:=Uy hb;omega
   unfold avK;rw[this];rfl
  .rw[di h];rfl
  have:Nat.blt i 1000=WA:=by
   cases hb:Nat.blt i 1000 with
   |false=>rfl
   |true=>have:=J9 hb;omega
  rw[this,Bool.and_false]
 .intro i hi;refine⟨?_,dt XX⟩;show(avK k i&&Nat.blt i 1000)=WA;rw[di hi];rfl
theorem qH{up:Nat}(E:up<ls.length)(nw:Nat)(x:PV):V.renL (rnF up nw) (chV (ls.set up (ls[up]++[x])))=(chV ls).set (up*1) (.gsl nw 1 (ls[up].length+1)):=by
 have d:∀vs:List V,V.renL (rnF up nw) vs=vs.map (V.ren (rnF up nw)):=by
  intro vs;induction vs with
  |nil=>rfl
  |cons v vs ih=>rw[V.renL,ih,cd]
 rw[d];apply Vq
 .simp[chV]
 .intro i h1 h2;simp only[chV,AS,List.length_zipIdx,Ut]at h1;simp only[chV,VC,List.getElem_zipIdx,XI,Uv,UQ,V.ren];by_cases e:up=i
  .subst e;simp[Bv]
  grind[dt]
def St.mixC(σ:St)(id:Nat)(T:TypeId)(cs:List PV):St:=⟨σ.sl,obL [(id,UF (.cells T cs))] σ.ob,σ.av⟩
theorem St.yV{σ:St}{vs:List V}(E:σ.ob id=UF (.mix T vs))(hc:vs=cs.map .pv):σ.le (σ.mixC id T cs):=by
 subst hc;refine St.Uc λd=>⟨d.sl,λp hp=>?_⟩
 obtain rfl:=IT.1 hp;refine⟨_,_,E,O,O,λb N _ ⟨arr,q1,q2,q3,q4⟩=>?_⟩;rw[AS]at q3 q4;exact⟨arr,q1,q2,q3,RelL.toP q4⟩
def St.obC(σ:St)(id:Nat)(o:Ob):St:=⟨σ.sl,obL [(id,UF o)] σ.ob,σ.av⟩
theorem St.NC{σ:St}{o o':Ob}(G:σ.ob id=UF o)(d:o'.real=o.real)(h:∀w m av R b N,nv w m av R b N o->nv w m av R b N o'):σ.le (σ.obC id o'):=
 St.Uc λE=>⟨E.sl,λp hp=>by
  obtain rfl:=IT.1 hp;exact⟨_,_,G,O,d,λb N _=>h _ _ _ _ b N⟩⟩
theorem St.qJ{σ:St}(id:Nat)(d:σ.ob id=UF (.cells T cs)):σ.le (σ.obC id (.mix T (cs.map .pv))):=by
 refine St.NC d O λw m av R b N h=>?_
 obtain⟨arr,q1,q2,q3,q4⟩:=h;exact⟨arr,q1,q2,by rw[AS];exact q3,by rw[AS];exact RelL.ofP q4⟩
def V.fgV:V->V
 |.pv (.sl _ n cs)=> .pv (.sl UG n cs)
 |v=>v
theorem Rel.fgV{av:Av}:∀{v:V}{u:Value},Rel w m av R v u->Rel w m av R v.fgV u:=by
 intro v u h;cases v with
 | pv p=>
   cases p with
   | sl nl n cs=>
     simp only[V.fgV,Rel,RelP]at h ⊢;obtain⟨A,c,e,h1,h2,_,_,h5⟩:=h;exact⟨A,c,e,h1,h2,λ_ h=>(by cases h),λh=>(by cases h),h5⟩
   |_=>exact h
 |_=>exact h
theorem RelL.fgV{av:Av}:∀{vs:List V}{us:List Value},RelL w m av R vs us->RelL w m av R (vs.map V.fgV) us
 |[],_,h=>h
 | v::vs,us,h=>by
   simp only[RelL]at h;obtain⟨u,us',rfl,h1,h2⟩:=h;simp only[cd,RelL];exact⟨u,us',O,h1.fgV,RelL.fgV h2⟩
theorem St.Ov{σ:St}{vs:List V}(id:Nat)(d:σ.ob id=UF (.mix T vs)):σ.le (σ.obC id (.mix T (vs.map V.fgV))):=by
 refine St.NC d O λw m av R b N h=>?_
 obtain⟨arr,q1,q2,q3,q4⟩:=h;exact⟨arr,q1,q2,by rw[AS];exact q3,by rw[AS];exact RelL.fgV q4⟩
theorem iV{up:Nat}(nw:Nat)(h:ls.length<=up):V.renL (rnF up nw) (chV ls)=chV ls:=by
 have d:∀vs:List V,V.renL (rnF up nw) vs=vs.map (V.ren (rnF up nw)):=by
  intro vs;induction vs with
  |nil=>rfl
  |cons v vs ih=>rw[V.renL,ih,cd]
 rw[d];have:∀v∈chV ls,V.ren (rnF up nw) v=v:=λv hv=>by
  unfold chV at hv;obtain⟨q,hq,rfl⟩:=IS.1 hv;have:=(List.mem_zipIdx hq).2.1;simp only[V.ren];rw[dt XX]
 rw[UT this];exact List.map_id' _
theorem Gb(d:k<=1000)(E:1000<=i)(G:i<2000):avK k i=VA:=by
 unfold avK;rw[WL (show k<=i by omega),bltT (show i<big from by show i<9000;omega)];rfl
end


section
open Go.RowKit Go.MapKept
open Go.ChangeMaps (setBlock)
structure KeyOk(P:Program)(kt:TypeId)(kp:PV->Prop):Prop where
 und:∃d,P.underlying kt=UF d/\∀us y,Instr.sameNow d (.agg us) y=UG
 check:∀{w:World}{R:Nat->Prop}{k:PV}{u:Value}(e:Bool),kp k->RelP w R k u->(Instr.checkKey e 10000 kt u).run P w= .ok () w
 ask:∀{w:World}{R:Nat->Prop}{k x:PV}{u y:Value}{b:Bool},kp k->RelP w R k u->RelP w R x y->keq k x=UF b->(Op.equal kt u y).run P w= .ok b w
 agg:∀{k:PV},kp k->∃cs,k= .agg cs
section
variable {P:Program}{kt:TypeId}{kp:PV->Prop}{w:World}{R:Nat->Prop}
theorem KeyOk.N9(K:KeyOk P kt kp){k:PV}(d:kp k)(E:RelP w R k u):∀{ks:List PV}{es:List MapEntry}{i:Nat}{r:Option Nat},RelPL w R ks (es.map (·.key))->cG k ks i=UF r->
  match r with
  |none=>(Instr.findAsking kt u es i).run P w= .ok UG w
  |some j=>∃q e,j=i+q/\es[q]? =UF e/\(Instr.findAsking kt u es i).run P w= .ok (UF (j,e.val)) w
 |[],[],i,r,_,h=>by simp only[cG,Uo]at h;subst h;simp[Instr.findAsking]
 |[],_::_,_,_,h,_=>by simp[RelPL]at h
 |x::ks,[],_,_,h,_=>by simp[RelPL]at h
 | x::ks,e::es,i,r,h,hf=>by
   simp only[cd,RelPL,Wg]at h;obtain⟨y,ys,⟨rfl,rfl⟩,h1,h2⟩:=h;simp only[cG]at hf;split at hf
   .rename_i hb;cases hf;exact⟨0,e,O,O,by simp[Instr.findAsking,K.ask d E h1 hb,Result.andThen]⟩
   .rename_i hb;have ih:=K.N9 d E h2 hf;cases r with
    |none=>simpa[Instr.findAsking,K.ask d E h1 hb,Result.andThen]using ih
    | some j=>
      obtain⟨q,e',hj,he,hfn⟩:=ih;exact⟨q+1,e',XX,by simpa using he,by simpa[Instr.findAsking,K.ask d E h1 hb,Result.andThen]using hfn⟩
   cases hf
theorem KeyOk.find(K:KeyOk P kt kp){k:PV}(L:kp k)(G:RelP w R k u)(h:RelPL w R ks (es.map (·.key)))(H:cG k ks 0=UF r):
  match r with
  |none=>(Instr.findKey kt u es).run P w= .ok UG w
  |some j=>∃e,es[j]? =UF e/\(Instr.findKey kt u es).run P w= .ok (UF (j,e.val)) w:=by
 obtain⟨d,hd,hs⟩:=K.und;obtain⟨cs,rfl⟩:=K.agg L;have E:=G;simp only[RelP]at G;obtain⟨us,rfl,_⟩:=G;have I:=K.N9 (i:=0) L E h H;cases es with
 | nil=>
   cases ks with
   |nil=>simp only[cG,Uo]at H;subst H;simp[Instr.findKey,run_underlying hd,Result.andThen,Instr.findNow]
   |cons _ _=>simp[RelPL]at h
 | cons e es=>
   have J:Instr.findNow d (.agg us.toArray) (e::es) 0=UG:=by simp[Instr.findNow,hs]
   cases r with
   |none=>simpa[Instr.findKey,run_underlying hd,Result.andThen,J]using I
   | some j=>
     obtain⟨q,e',hj,he,hfn⟩:=I;have:j=q:=XX;subst this;exact⟨e',he,by simpa[Instr.findKey,run_underlying hd,Result.andThen,J]using hfn⟩
end
section
variable {C:Ctx}{n:Nat}{σ:St}{a:Act}{w:World}{m:Gm}{R:Nat->Prop}{x y z:Operand}{dst:Option Tmp}{ty t kt et tk:TypeId}{pos:String}{after:Array Edge}{gd:Option (Nat×Bool)}{ks vs:List PV}{kp:PV->Prop}
theorem xA(X:SW C n σ a w m R)(K:KeyOk C.P kt kp){r:Option PV}(L:C.P.underlying t=UF (.map kt et))(J:kp key)(Y:l9 n σ x ks vs)(Z:σ.ev n y= .pv key)(M:(C.P.info? et).map (·.zero)=UF (UF zv))(U:ofC zv=zp)(V:jf key ks vs=UF r)(ok:Bool):
  ∃u,RelP w R (r.getD zp) u/\(Instr.lookup t (a.eval x) (a.eval y) ok).run C.P w= .ok (if ok then .tuple #[u,.bool r.isSome]else u) w:=by
 have d:=X.pv Z;have H:(zeroValue et).run C.P w= .ok zv w:=by
  cases hq:C.P.info? et with
  |none=>simp[hq]at M
  |some i=>simp[hq]at M;simp[zeroValue,typeInfo,hq,M]
 have E:RelP w R zp zv:=U▸zm w R zv;have G:=λe=>K.check (w:=w) (R:=R) e J d
 rcases Y.at X with⟨b,es,clock,ps,qs,e,hb,q2,q3,_,hsw⟩|⟨e,rfl,rfl⟩
 .obtain⟨f,I,hr⟩:=tr V;obtain⟨f',hf',hr'⟩:=hsw I hr;cases f' with
  | none=>
    simp only[qX,Uo]at hr';subst hr';have:=K.find J d q2 hf';simp only at this;refine⟨zv,E,?_⟩;simp[Instr.lookup,e,run_underlying L,run_map hb,G,this,H,Result.andThen]
  | some j=>
    obtain⟨e',he,hfn⟩:=K.find J d q2 hf';simp only[qX]at hr';cases hv:qs[j]? with
    |none=>rw[hv]at hr';cases hr'
    | some p=>
      rw[hv]at hr';simp at hr';subst hr';refine⟨e'.val,RelPL.at q3 hv (by simp[he]),?_⟩;simp[Instr.lookup,e,run_underlying L,run_map hb,G,hfn,Result.andThen]
 simp only[jf,cG,Uo]at V;subst V;refine⟨zv,E,?_⟩;have I:=K.find (es:=[]) (r:=UG) J d (ks:=[]) (by simp[RelPL]) (by simp only[cG]);simp only at I;simp[Instr.lookup,e,run_underlying L,G,I,H,Result.andThen]
theorem fE{r:Option PV}{b:Bool}(K:KeyOk C.P kt kp)(E:C.P.underlying t=UF (.map kt et))(G:l9 n σ x ks vs)(H:σ.ev n y= .pv key)(I:kp key)(J:(C.P.info? et).map (·.zero)=UF (UF zv))(d:ofC zv=zp)(L:jf key ks vs=UF r)(M:r.getD zp=p)(U:r.isSome=b):
  XJ C n ⟨dst,.lookup t x y VA,ty,pos,after,gd⟩ σ ⟨.pv (.tup [p,.bool b]),[],[]⟩:=
 .val λa w m R hw=>by
  obtain⟨u,hr,hrun⟩:=xA hw K E I G H J d L VA;subst M U;refine⟨_,by simp only[execOp,Sem.run_bind,hrun,Result.andThen_ok];rfl,?_⟩;simp only[Rel,RelP];exact⟨[u,.bool r.isSome],O,RelPL.cons hr (RelPL.cons (by simp only[RelP]) RelPL.nil)⟩
theorem p8{r:Option PV}(K:KeyOk C.P kt kp)(E:C.P.underlying t=UF (.map kt et))(G:l9 n σ x ks vs)(H:σ.ev n y= .pv key)(I:kp key)(J:(C.P.info? et).map (·.zero)=UF (UF zv))(d:ofC zv=zp)(L:jf key ks vs=UF r)(M:r.getD zp=p):
  XJ C n ⟨dst,.lookup t x y WA,ty,pos,after,gd⟩ σ ⟨.pv p,[],[]⟩:=
 .val λa w m R hw=>by
  obtain⟨u,hr,hrun⟩:=xA hw K E I G H J d L WA;subst M;exact⟨u,by simp only[execOp,Sem.run_bind,hrun,Result.andThen_ok];rfl,by simpa only[Rel]using hr⟩
theorem bu{ks' vs':List PV}(K:KeyOk C.P kt kp)(ht:C.P.underlying t=UF (.map kt et))(X:σ.ev n x= .map id)(ho:σ.ob id=UF (.mp ks vs))(hy:σ.ev n y= .pv key)(hz:σ.ev n z= .pv v)(hd:kp key)(V:cG key ks 0=UF r)
  (ad:mS key ks=ks') (af:T8 key v ks vs=vs'):XJ C n ⟨UG,.mapUpdate t x y z,ty,pos,after,gd⟩ σ ⟨.pv .any,[(id,UF (.mp ks' vs'))],[]⟩:=by
 rintro a w Q ⟨m,R,hw⟩;obtain⟨b,N,hm,es,clock,hb,q2,q3,q4⟩:=hw.live ho;have J:=hw.ev x;rw[X]at J;simp only[Rel]at J;have X:=J.2 b N hm;have d:=hw.pv hy;have I:=hw.pv hz;have Y:=λe=>K.check (w:=w) (R:=R) e hd d
 have ag:b<w.heap.size:=(S8.1 hb).1;have Z:∀(es':Array MapEntry)(clock':Nat),(Instr.mapUpdate t (a.eval x) (a.eval y) (a.eval z)).run C.P w= .ok () { w with heap:=w.heap.setIfInBounds b (.map es' clock') }->
   RelPL w R ks' (es'.toList.map (·.key))->RelPL w R vs' (es'.toList.map (·.val))->dT es'.toList clock'->Oper.wp C.P ⟨UG,.mapUpdate t x y z,ty,pos,after,gd⟩ a w (λa' w'=>∃σ',σ'=σ.app UG ⟨.pv .any,[(id,UF (.mp ks' vs'))],[]⟩/\SJ C n σ' a' w') Q:=by
  intro es' clock' hrun h1 h2 h3;unfold Oper.wp;have L:(execOp a.eval ⟨UG,.mapUpdate t x y z,ty,pos,after,gd⟩).run C.P w= .ok .skip { w with heap:=w.heap.setIfInBounds b (.map es' clock') }:=by
   simp only[execOp,Sem.run_bind,hrun,Result.andThen_ok,Sem.run_pure]
  rw[L];refine⟨_,O,m,R,hw.turn hm { w with heap:=w.heap.setIfInBounds b (.map es' clock') } X2 (λk hk=>by simp only;rw[VT (λe=>hk e.symm)]) O O O (.mp ks' vs') λhR=>?_⟩;exact⟨es',clock',by simp only;rw[Wo];simp[ag],h1.mono hR,h2.mono hR,h3⟩
 cases r with
 | none=>
   have H:=K.find hd d q2 V;simp only at H;refine Z (es.push ⟨a.eval y,a.eval z,clock⟩) (clock+1) ?_ ?_ ?_ ?_
   .simp[Instr.mapUpdate,X,run_underlying ht,run_map hb,Y,H,fB _ hb,Result.andThen]
   .rw[<-ad];simp only[mS,V,XA,UO,cd,Vn];exact q2.append (RelPL.cons d RelPL.nil)
   .rw[<-af];simp only[T8,V,XA,UO,cd,Vn];exact q3.append (RelPL.cons I RelPL.nil)
   simp only[dT,XA,UO,cd,Vn];refine⟨Wi.2 ⟨q4.1,X2,λx X y hy e=>?_⟩,λe he=>?_⟩
   .obtain⟨e',he',rfl⟩:=IS.1 X;have:=q4.2 e' he';simp at hy;omega
   rcases UN.1 he with h|h
   .exact Nat.lt_succ_of_lt (q4.2 e h)
   grind
 | some j=>
   obtain⟨e',he,H⟩:=K.find hd d q2 V;obtain⟨q',x',hj',hx',hkq⟩:=o9 V;simp only[UQ]at hj';subst hj';have aa:=RelPL.at q2 hx' (by simp[he]:(es.toList.map (·.key))[j]? =UF e'.key);have M:=AR hkq d aa;have U:j<es.size:=(RE.1 he).1 |> λh=>by simpa using h
   have ab:es[j]? =UF e':=by simpa using he
   have ac:es[j]=e':=by have:=Array.getElem?_eq_getElem U;rw[ab]at this;exact(Wn this).symm
   have E:(es.modify j λe=>{ e with key:=a.eval y,val:=a.eval z }).toList=es.toList.set j ⟨a.eval y,a.eval z,e'.born⟩:=by
    apply Xh;intro i;rw[Xv,Xu,WX];by_cases e:j=i
    .subst e;simp[U,ac]
    simp[e]
   refine Z (es.modify j λe=>{ e with key:=a.eval y,val:=a.eval z }) clock ?_ ?_ ?_ ?_
   .simp[Instr.mapUpdate,X,run_underlying ht,run_map hb,Y,H,fB _ hb,Result.andThen,Instr.keyThatStays,ab,M.2]
   .rw[E,<-ad];simp only[mS,V,U9];exact q2.set j d
   .rw[E,<-af];simp only[T8,V,U9];exact q3.set j I
   rw[E];have G:(es.toList.set j ⟨a.eval y,a.eval z,e'.born⟩).map (·.born)=es.toList.map (·.born):=by
    rw[U9];apply Xh;intro i;rw[WX];by_cases e:j=i
    .subst e;simp[U,ac]
    simp[e]
   refine⟨by rw[G];exact q4.1,λe hm=>?_⟩;have:e.born∈es.toList.map (·.born):=by rw[<-G];exact IS.2 ⟨e,hm,O⟩
   obtain⟨e2,h2,h3⟩:=IS.1 this;rw[<-h3];exact q4.2 e2 h2
def rV(k:PV)(ks l:List PV):List PV:=match cG k ks 0 with
 |some (UF j)=>l.eraseIdx j
 |_=>l
theorem RelPL.eraseIdx:∀{ps:List PV}{us:List Value}(j:Nat),RelPL w R ps us->RelPL w R (ps.eraseIdx j) (us.eraseIdx j)
 |[],_,_,h=>by simp only[RelPL]at h;subst h;simp[RelPL]
 |p::ps,_,0,h=>by simp only[RelPL]at h;obtain⟨u,vs,rfl,_,h2⟩:=h;simpa using h2
 | p::ps,_,j+1,h=>by
   simp only[RelPL]at h;obtain⟨u,vs,rfl,h1,h2⟩:=h;simpa using RelPL.cons h1 (RelPL.eraseIdx j h2)
theorem jY{ks' vs':List PV}(K:KeyOk C.P kt kp)(ht:C.P.underlying t=UF (.map kt et))(M:σ.ev n x= .map id)(ho:σ.ob id=UF (.mp ks vs))(hy:σ.ev n y= .pv key)(X:kp key)(U:cG key ks 0=UF r)
  (Y:rV key ks ks=ks') (Z:rV key ks vs=vs'):XJ C n ⟨dst,.call { callee:=.builtin .delete,args:= #[x,y],argTypes:= #[t,tk] },ty,pos,after,gd⟩ σ ⟨.pv (.tup []),[(id,UF (.mp ks' vs'))],[]⟩:=by
 rintro a w Q ⟨m,R,hw⟩;obtain⟨b,N,hm,es,clock,hb,q2,q3,q4⟩:=hw.live ho;have G:=hw.ev x;rw[M]at G;simp only[Rel]at G;have M:=G.2 b N hm;have d:=hw.pv hy;have J:=λe=>K.check (w:=w) (R:=R) e X d
 have V:b<w.heap.size:=(S8.1 hb).1;have L:∀es':Array MapEntry,(Builtin.delete_ #[t,tk] ty #[a.eval x,a.eval y]).run C.P w= .ok (.tuple #[]) { w with heap:=w.heap.setIfInBounds b (.map es' clock) }->
   RelPL w R ks' (es'.toList.map (·.key))->RelPL w R vs' (es'.toList.map (·.val))->dT es'.toList clock->Oper.wp C.P ⟨dst,.call { callee:=.builtin .delete,args:= #[x,y],argTypes:= #[t,tk] },ty,pos,after,gd⟩ a w (λa' w'=>∃σ',σ'=σ.app dst ⟨.pv (.tup []),[(id,UF (.mp ks' vs'))],[]⟩/\SJ C n σ' a' w') Q:=by
  intro es' hrun h1 h2 h3;unfold Oper.wp;have H:(execOp a.eval ⟨dst,.call { callee:=.builtin .delete,args:= #[x,y],argTypes:= #[t,tk] },ty,pos,after,gd⟩).run C.P w= .ok (.value (.tuple #[])) { w with heap:=w.heap.setIfInBounds b (.map es' clock) }:=by
   simp only[execOp,resolve,invoke,builtin,Sem.run_bind,Sem.run_pure,Result.andThen_ok,Xb,cd,Vn,hrun]
  rw[H];refine⟨_,O,m,R,?_⟩;rw[TW];refine SW.put (hw.turn hm { w with heap:=w.heap.setIfInBounds b (.map es' clock) } X2 (λk hk=>by simp only;rw[VT (λe=>hk e.symm)]) O O O (.mp ks' vs') λhR=>?_) dst ?_
  .exact⟨es',clock,by simp only;rw[Wo];simp[V],h1.mono hR,h2.mono hR,h3⟩
  simp only[Rel,RelP];exact⟨[],O,RelPL.nil⟩
 cases r with
 | none=>
   have E:=K.find X d q2 U;simp only at E;refine L es ?_ ?_ ?_ q4
   .simp[Builtin.delete_,M,run_underlying ht,run_map hb,J,E,fB _ hb,Result.andThen]
   .grind[rV]
   grind[rV]
 | some j=>
   obtain⟨e',he,E⟩:=K.find X d q2 U;have hjl:j<es.size:=(RE.1 he).1 |> λh=>by simpa using h
   have I:(es.eraseIdxIfInBounds j).toList=es.toList.eraseIdx j:=by simp_all
   refine L (es.eraseIdxIfInBounds j) ?_ ?_ ?_ ?_
   .simp[Builtin.delete_,M,run_underlying ht,run_map hb,J,E,fB _ hb,Result.andThen]
   .rw[<-Y,I,Go.ChangeMaps.map_eraseIdx];simp only[rV,U];exact q2.eraseIdx j
   .rw[<-Z,I,Go.ChangeMaps.map_eraseIdx];simp only[rV,U];exact q3.eraseIdx j
   rw[I];exact⟨((List.eraseIdx_sublist _ _).map _).nodup q4.1,λe hm=>q4.2 e ((List.eraseIdx_sublist _ _).subset hm)⟩
def eQ(cur ks vs:List PV)(b:Bool)(rest cur' ks' vs':List PV):Prop:=
 (b=WA/\ks=[]/\rest=[]/\cur'=cur/\ks'=ks/\vs'=vs)\/
 (b=VA/\∃i k v,ks[i]? =UF k/\vs[i]? =UF v/\rest=[k,v]/\cur'=[k,v]/\ks'=ks.eraseIdx i/\vs'=vs.eraseIdx i)
theorem eQ.of{α:Type}{f g:α->PV}{l:List α}{b:Bool}{rest cur' ks' vs':List PV}(h:eQ cur (l.map f) (l.map g) b rest cur' ks' vs'):
  (b=WA/\l=[]/\rest=[]/\cur'=cur/\ks'=l.map f/\vs'=l.map g)\/(b=VA/\∃l1 x l2,l=l1++x::l2/\rest=[f x,g x]/\cur'=[f x,g x]/\ks'=(l1++l2).map f/\vs'=(l1++l2).map g):=by
 rcases h with⟨h1,h2,h3,h4,h5,h6⟩|⟨h1,i,k,v,h2,h3,h4,h5,h6,h7⟩
 .simp_all
 refine .inr ⟨h1,?_⟩;rw[Wc]at h2 h3;cases hx:l[i]? with
 |none=>rw[hx]at h2;cases h2
 | some x=>
   rw[hx]at h2 h3;simp only[V5,Uo]at h2 h3;subst h2 h3;obtain⟨hi,rfl⟩:=RE.1 hx;have d:l.eraseIdx i=l.take i++l.drop (i+1):=List.eraseIdx_eq_take_drop_succ l i;exact⟨l.take i,l[i],l.drop (i+1),by rw[<-Us hi,U3],h4,h5,by rw[h6,<-Go.ChangeMaps.map_eraseIdx,d],by rw[h7,<-Go.ChangeMaps.map_eraseIdx,d]⟩
theorem eu(id:Nat)(I:C.P.underlying t=UF (.map kt et))(J:σ.ev n x= .pv (.mp ks vs))(H:σ.av id=VA):XJ C n ⟨dst,.range t x,ty,pos,after,gd⟩ σ ⟨.ptr id 0,[(id,UF (.mi [] ks vs))],[id]⟩:=by
 rintro a w Q ⟨m,R,hw⟩;have E:=hw.pv J;simp only[RelP]at E;obtain⟨mb,E,hRm,es,clock,l,hb,q2,q3,q4,q5⟩:=E;unfold Oper.wp;have d:(execOp a.eval ⟨dst,.range t x,ty,pos,after,gd⟩).run C.P w= .ok (.value (.pointer (UF ⟨w.heap.size,0,UG⟩))) (w.alloc (.mapIter (UF mb) clock #[] clock)):=by
  simp only[execOp,E,Sem.run_bind,run_range_map w t kt et mb es clock I hb,Result.andThen_ok];rfl
 rw[d];refine⟨_,O,upd m id (UF (w.heap.size,0)),R,?_⟩;rw[TW];refine SW.put (hw.NL H (.mapIter (UF mb) clock #[] clock) 0 (.mi [] ks vs) ?_) dst ?_
 .intro w' m' av' hR hb';have G:(es.toList.filter λe=> !(#[]:Array Nat).contains e.born)=es.toList:=List.filter_eq_self.2 λe _=>by simp
  exact⟨mb,es,clock, #[],l,hRm,(hR _ hRm).2.trans hb,q4,hb',by rw[G];exact q5,q2.mono hR,q3.mono hR,.inl O⟩
 simp only[Rel];refine⟨by simp[avL],λb N e=>?_⟩;rw[aB]at e;cases e;rfl
theorem k8{e:MapEntry}:∀{l:List MapEntry}{i:Nat},(l.map (·.born)).Nodup->l[i]? =UF e->l.filter (λx=> !(x.born==e.born))=l.eraseIdx i
 |[],_,_,h=>by simp at h
 |x::l,0,hn,h=>by simp_all
 | x::l,i+1,hn,h=>by
   simp only[List.getElem?_cons_succ]at h;simp only[cd,Wm,IS,not_exists,not_and]at hn;have hne:x.born≠e.born:=λd=>hn.1 e (VJ h) d.symm
   simp only[List.filter_cons,List.eraseIdx_cons_succ];rw[AT (by simpa using hne),k8 hn.2 h]
theorem fq{ks vs:List PV}{K:St->Prop}(hx:σ.ev n x= .ptr id 0)(ho:σ.ob id=UF (.mi cur ks vs))
  (U:∀b rest cur' ks' vs',eQ cur ks vs b rest cur' ks' vs'->K (σ.app dst ⟨.pv (.tup (.bool b::rest)),[(id,UF (.mi cur' ks' vs'))],[]⟩)):
  OJ C n ⟨dst,.next x WA,ty,pos,after,gd⟩ K σ:=by
 rintro a w Q ⟨m,R,hw⟩;obtain⟨r,N,hm,mb,es,clock,seen,l,hRm,hb,hst,hr,q0,q5,q6,q7⟩:=hw.live ho;have G:=hw.ev x;rw[hx]at G;simp only[Rel]at G;have I:=G.2 r N hm;have V:(leftOf es seen).toList=es.toList.filter λe=> !seen.contains e.born:=by unfold leftOf;simp
 unfold Oper.wp;rcases Go.run_next_at (P:=C.P) w ty r mb clock clock seen es clock hr hb hst.2 (tJ _)with⟨h0,hrun⟩|⟨e,he,w1,hal,hrun⟩
 .have hrun':(execOp a.eval ⟨dst,.next x WA,ty,pos,after,gd⟩).run C.P w= .ok (.value (.tuple #[.bool WA])) w:=by
   simp only[execOp,I,Sem.run_bind,hrun,Result.andThen_ok];rfl
  rw[hrun'];have X:(es.toList.filter λe=> !seen.contains e.born)=[]:=by grind
  have Y:l=[]:=by rw[X]at q0;exact List.Perm.eq_nil q0
  have Z:ks=[]:=by
   rw[Y]at q5;have:=q5.length;simp only[Vn,V6]at this;exact Xi.1 this.symm
  refine⟨_,U WA [] cur ks vs (.inl ⟨O,Z,O,O,O,O⟩),m,R,?_⟩;rw[TW];refine SW.put (hw.turn hm w O (λ_ _=>rfl) O O O (.mi cur ks vs) λE=>?_) dst ?_
  .exact⟨mb,es,clock,seen,l,hRm,hb,hst,hr,q0,q5,q6,q7⟩
  grind[Rel,RelP,bool,RelPL]
 have hrun':(execOp a.eval ⟨dst,.next x WA,ty,pos,after,gd⟩).run C.P w= .ok (.value (.tuple #[.bool VA,e.key,e.val])) (setBlock w1 r (.mapIter (UF mb) clock (seen.push e.born) clock)):=by
  simp only[execOp,I,Sem.run_bind,hrun,Result.andThen_ok];rfl
 rw[hrun'];rw[V]at he;have aa:e∈l:=q0.mem_iff.2 he;obtain⟨i,hi⟩:=VE aa;have ab:e∈es.toList:=(Wt.1 he).1;have J:=q5.length;have H:=q6.length;simp only[AS]at J H;have aj:i<l.length:=(RE.1 hi).1;obtain⟨k,hkk⟩:∃k,ks[i]? =UF k:=⟨ks[i]'XX,BY _⟩;obtain⟨v,hvv⟩:∃v,vs[i]? =UF v:=⟨vs[i]'XX,BY _⟩;have L:=RelPL.at q5 hkk (by rw[Wc,hi];rfl);have M:=RelPL.at q6 hvv (by rw[Wc,hi];rfl);have ac:((es.toList.filter λe=> !seen.contains e.born).map (·.born)).Nodup:=(VR.map _).nodup hst.1;have ad:(l.map (·.born)).Nodup:=(q0.map _).nodup_iff.2 ac;have af:(l.eraseIdx i).Perm (es.toList.filter λx=> !(seen.push e.born).contains x.born):=by
  have d:(es.toList.filter λx=> !(seen.push e.born).contains x.born)=(es.toList.filter λe=> !seen.contains e.born).filter (λx=> !(x.born==e.born)):=by grind[List.filter_filter,List.filter_congr]
  rw[d,<-k8 ad hi];exact q0.filter _
 have ag:r<w.heap.size:=(S8.1 hr).1;have al:r≠mb:=λe=>by rw[e,hb]at hr;cases hr
 refine⟨_,U VA [k,v] [k,v] (ks.eraseIdx i) (vs.eraseIdx i) (.inr ⟨O,i,k,v,hkk,hvv,O,O,O,O⟩),m,R,?_⟩;rw[TW];have d:w1.heap=w.heap/\w1.os=w.os/\w1.tape=w.tape/\w1.output=w.output:=by rcases hal with rfl|rfl<;>exact⟨O,O,O,O⟩
 refine SW.put (hw.turn hm (setBlock w1 r (.mapIter (UF mb) clock (seen.push e.born) clock)) (by simp[setBlock,d.1]) (λk U=>by simp only[setBlock,d.1];rw[VT (λe=>U e.symm)]) d.2.1 d.2.2.1 d.2.2.2 (.mi [k,v] (ks.eraseIdx i) (vs.eraseIdx i)) λE=>?_) dst ?_
 .refine⟨mb,es,clock,seen.push e.born,l.eraseIdx i,hRm,(E _ hRm).2.trans hb,hst,?_,af,?_,?_,.inr ⟨e,ab,X2,?_⟩⟩
  .show(w1.heap.setIfInBounds r _)[r]? =_;rw[d.1,Wo];simp[ag]
  .rw[Go.ChangeMaps.map_eraseIdx];exact(q5.eraseIdx i).mono E
  .rw[Go.ChangeMaps.map_eraseIdx];exact(q6.eraseIdx i).mono E
  exact RelPL.cons (L.mono E) (RelPL.cons (M.mono E) RelPL.nil)
 have E:∀b,R b->R b/\(setBlock w1 r (.mapIter (UF mb) clock (seen.push e.born) clock)).heap[b]? =w.heap[b]? :=λb hb'=>⟨hb',by
  have ah:b≠r:=λe=>(hw.hr.own id r N hm).2.1 (e▸hb')
  simp only[setBlock,d.1];rw[VT (λe=>ah e.symm)]⟩
 simp only[Rel,RelP];exact⟨[.bool VA,e.key,e.val],O,RelPL.cons (by simp only[RelP]) (RelPL.cons (L.mono E) (RelPL.cons (M.mono E) RelPL.nil))⟩
theorem er{k:PV}(I:σ.ev n x= .ptr id 0)(J:σ.ob id=UF (.mi [k,v] ks vs)):
  XJ C n ⟨dst,.entry x,ty,pos,after,gd⟩ σ ⟨.pv (.tup [k,v]),[],[]⟩:=
 .val λa w m R hw=>by
  obtain⟨r,N,hm,mb,es,clock,seen,l,hRm,hb,hst,hr,q0,q5,q6,q7⟩:=hw.live J;have d:=hw.ev x;rw[I]at d;simp only[Rel]at d;have G:=d.2 r N hm;obtain⟨e,hem,hback,hrel⟩:=q7.resolve_left X2;have H:es.find? (·.born==e.born)=UF e:=by rw[<-Array.find?_toList];exact find_born e es.toList hst.1 hem
  have E:(Instr.entry (.pointer (UF ⟨r,0,UG⟩))).run C.P w= .ok (.tuple #[e.key,e.val]) w:=by
   simp only[Instr.entry,getObj,Sem.run_bind,Sem.run,hr,hb,Result.andThen,hback,Xf,Vv,XR,H];rfl
  simp only[RelPL]at hrel;obtain⟨u1,us1,e1,h1,u2,us2,e2,h2,e3⟩:=hrel;subst e2 e3;simp only[Wg,and_true]at e1;obtain⟨rfl,rfl⟩:=e1;refine⟨.tuple #[e.key,e.val],by simp only[execOp,G,Sem.run_bind,E,Result.andThen_ok];rfl,?_⟩;simp only[Rel,RelP];exact⟨[e.key,e.val],O,RelPL.cons h1 (RelPL.cons h2 RelPL.nil)⟩
end
mutual
def V.mpV(id:Nat)(p:PV):V->V
 |.map i=>bif Nat.beq i id then .pv p else .map i
 |.agg vs=> .agg (V.mpL id p vs)
 |.tup vs=> .tup (V.mpL id p vs)
 |.fn f a b=> .fn f (V.mpL id p a) (V.mpL id p b)
 |.pv q=> .pv q
 |.ptr i o=> .ptr i o
 |.osl i s k=> .osl i s k
 |.tsl i s k=> .tsl i s k
 |.gsl i s k=> .gsl i s k
def V.mpL(id:Nat)(p:PV):List V->List V
 |[]=>[]
 |v::vs=>V.mpV id p v::V.mpL id p vs
end
def Ob.mpO(id:Nat)(p:PV):Ob->Ob
 |.mix t vs=> .mix t (V.mpL id p vs)
 |.cells t c=> .cells t c
 |.gro t c=> .gro t c
 |.mp ks vs=> .mp ks vs
 |.it s q=> .it s q
 |.fro s q=> .fro s q
 |.mi c ks vs=> .mi c ks vs
theorem Ob.LN(id:Nat)(p:PV):∀o:Ob,(o.mpO id p).real=o.real
 |.cells _ _=>rfl
 |.mix _ _=>rfl
 |.gro _ []=>rfl
 |.gro _ (_::_)=>rfl
 |.mp _ _=>rfl
 |.it _ _=>rfl
 |.fro _ _=>rfl
 |.mi _ _ _=>rfl
theorem Ls(id:Nat)(p:PV):∀o:Option Ob,bM (o.map (Ob.mpO id p))=bM o
 |none=>rfl
 |some o=>Ob.LN id p o
def St.pubM(σ:St)(id:Nat)(p:PV):St:=⟨λt=>V.mpV id p (σ.sl t),λi=>bif Nat.beq i id then UG else(σ.ob i).map (Ob.mpO id p),σ.av⟩
section
variable {w:World}{m m':Gm}{av:Av}{R R':Nat->Prop}
theorem nI(id:Nat)(p:PV):∀vs:List V,(V.mpL id p vs).length=vs.length
 |[]=>rfl
 |_::vs=>by simp[V.mpL,nI id p vs]
mutual
theorem Rel.mpV(d:∀b,R b->R' b/\w.heap[b]? =w.heap[b]?)(E:∀i x,m' i=UF x->m i=UF x)(G:∀u,Rel w m av R (.map id) u->RelP w R' p u):
  ∀(v:V)(u:Value),Rel w m av R v u->Rel w m' av R' (V.mpV id p v) u
 |.map i,u,h=>by
   simp only[V.mpV];cases hb:Nat.beq i id with
   |true=>have:=bZ hb;subst this;simp only[VG,Rel];exact G u h
   |false=>simp only[UZ];exact h.mono d (λi x _ e=>E i x e) (λ_ e=>e)
 |.agg vs,u,h=>by
   simp only[Rel,V.mpV]at h ⊢;obtain⟨us,e,h⟩:=h;exact⟨us,e,RelL.mpL d E G vs us h⟩
 |.tup vs,u,h=>by
   simp only[Rel,V.mpV]at h ⊢;obtain⟨us,e,h⟩:=h;exact⟨us,e,RelL.mpL d E G vs us h⟩
 |.fn f a b,u,h=>by
   simp only[Rel,V.mpV]at h ⊢;obtain⟨us,vs,e,ha,hb⟩:=h;exact⟨us,vs,e,RelL.mpL d E G a us ha,RelL.mpL d E G b vs hb⟩
 |.pv q,u,h=>by simp only[V.mpV];exact h.mono d (λi x _ e=>E i x e) (λ_ e=>e)
 |.ptr i o,u,h=>by simp only[V.mpV];exact h.mono d (λi x _ e=>E i x e) (λ_ e=>e)
 |.osl i s k,u,h=>by simp only[V.mpV];exact h.mono d (λi x _ e=>E i x e) (λ_ e=>e)
 |.tsl i s k,u,h=>by simp only[V.mpV];exact h.mono d (λi x _ e=>E i x e) (λ_ e=>e)
 |.gsl i s k,u,h=>by simp only[V.mpV];exact h.mono d (λi x _ e=>E i x e) (λ_ e=>e)
theorem RelL.mpL(d:∀b,R b->R' b/\w.heap[b]? =w.heap[b]?)(E:∀i x,m' i=UF x->m i=UF x)(G:∀u,Rel w m av R (.map id) u->RelP w R' p u):
  ∀(vs:List V)(us:List Value),RelL w m av R vs us->RelL w m' av R' (V.mpL id p vs) us
 |[],_,h=>by simpa only[RelL,V.mpL]using h
 | c::vs,_,h=>by
   simp only[RelL,V.mpL]at h ⊢;obtain⟨u,us,e,ha,hb⟩:=h;exact⟨u,us,e,Rel.mpV d E G c u ha,RelL.mpL d E G vs us hb⟩
end
end
theorem y8{vs:List PV}(L:ks.length=vs.length)(d:RelPL w R ps (es.map (·.key)))(E:RelPL w R qs (es.map (·.val)))(M:(ps.zip qs).Perm (ks.zip vs)):∃l:List MapEntry,l.Perm es/\RelPL w R ks (l.map (·.key))/\RelPL w R vs (l.map (·.val)):=by
 generalize hA:ps.zip qs=A at M;generalize hB:ks.zip vs=B at M;have G:ps=A.map (·.1):=by rw[<-hA,XG];have:=d.length;have:=E.length;simp at *; omega
 have H:qs=A.map (·.2):=by rw[<-hA,List.map_snd_zip];have:=d.length;have:=E.length;simp at *; omega
 have I:ks=B.map (·.1):=by rw[<-hB,XG (Vl L)]
 have J:vs=B.map (·.2):=by rw[<-hB,List.map_snd_zip (Vl L.symm)]
 rw[I,J];rw[G]at d;rw[H]at E;clear hA hB G H I J L;induction M generalizing es with
 |nil=>exact⟨es,UX _,d,E⟩
 | cons a _ ih=>
   cases es with
   |nil=>simp[RelPL]at d
   | cons e es=>
     simp only[cd,RelPL,Wg]at d E;obtain⟨_,_,⟨rfl,rfl⟩,a1,a2⟩:=d;obtain⟨_,_,⟨rfl,rfl⟩,b1,b2⟩:=E;obtain⟨l,c1,c2,c3⟩:=ih b2 a2;exact⟨e::l,List.Perm.cons _ c1,RelPL.cons a1 c2,RelPL.cons b1 c3⟩
 | swap a b A=>
   cases es with
   |nil=>simp[RelPL]at d
   | cons e es=>
     cases es with
     | nil=>
       simp only[cd,Vn,RelPL,Wg]at d;obtain⟨_,_,⟨_,rfl⟩,_,_,_,h,_⟩:=d;cases h
     | cons e' es=>
       simp only[cd,RelPL,Wg]at d E;obtain⟨_,_,⟨rfl,rfl⟩,a1,_,_,⟨rfl,rfl⟩,a2,a3⟩:=d;obtain⟨_,_,⟨rfl,rfl⟩,b1,_,_,⟨rfl,rfl⟩,b2,b3⟩:=E;exact⟨e'::e::es,List.Perm.swap _ _ _,RelPL.cons a2 (RelPL.cons a1 a3),RelPL.cons b2 (RelPL.cons b1 b3)⟩
 | trans _ _ ih1 ih2=>
   obtain⟨l1,c1,c2,c3⟩:=ih1 E d;obtain⟨l2,d1,d2,d3⟩:=ih2 c3 c2;exact⟨l2,d1.trans c1,d2,d3⟩
theorem St.cW{σ:St}{vs:List PV}(id:Nat)(V:σ.ob id=UF (.mp ps qs))(X:ks.length=vs.length)(Y:(ps.zip qs).Perm (ks.zip vs)):σ.le (σ.pubM id (.mp ks vs)):=by
 rintro C n a w ⟨m,R,hw⟩;have L:=hw.drop id;have d:∀i x,upd m id UG i=UF x->m i=UF x/\i≠id:=λi x e=>by grind[aB,aW]
 let R':Nat->Prop:=λq=>R q\/∃N,m id=UF (q,N)
 have E:∀b,R b->R' b/\w.heap[b]? =w.heap[b]? :=λb hb=>⟨.inl hb,O⟩
 obtain⟨b0,N0,hm0,es,clock,q1,q2,q3,q4⟩:=hw.live V;have U:∀u,Rel w m σ.av R (.map id) u->RelP w R' (.mp ks vs) u:=by
  intro u h;simp only[Rel]at h;have:=h.2 b0 N0 hm0;simp only[RelP];obtain⟨l,c1,c2,c3⟩:=y8 X q2 q3 Y;exact⟨b0,this,.inr ⟨N0,hm0⟩,es,clock,l,q1,c2.mono E,c3.mono E,q4,c1⟩
 have G:∀i x,upd m id UG i=UF x->m i=UF x:=λi x e=>(d i x e).1
 have M:∀i,(σ.pubM id (.mp ks vs)).ob i=bif Nat.beq i id then UG else(σ.ob i).map (Ob.mpO id (.mp ks vs)):=λ_=>rfl
 have J:(σ.pubM id (.mp ks vs)).ob id=UG:=by rw[M];simp
 have H:∀i,i≠id->(σ.pubM id (.mp ks vs)).ob i=(σ.ob i).map (Ob.mpO id (.mp ks vs)):=λi hi=>by grind[Nat.beq,bZ]
 refine⟨upd m id UG,R',⟨?_,?_,?_,L.hr.inj,?_,?_,?_,λq hq=> .inl (hw.hr.r0 q hq),hw.hr.frame,L.hr.gY,L.hr.res⟩,hw.df,hw.sz,?_⟩
 .intro i;by_cases e:i=id
  .subst e;rw[aB,J];rfl
  rw[aW _ _ e,H i e,Ls];exact hw.hr.dom i
 .intro i hi;by_cases e:i=id
  .subst e;exact J
  rw[H i e,hw.hr.free i hi];rfl
 .intro i o' b N h1 h2;obtain⟨h2',e⟩:=d i _ h2;rw[H i e]at h1;cases ho':σ.ob i with
  |none=>rw[ho']at h1;cases h1
  | some o2=>
    rw[ho']at h1;simp only[V5,Uo]at h1;subst h1;have I:=hw.hr.obj i o2 b N ho' h2';cases o2 with
    |cells T c=>obtain⟨arr,q1,q2,q3,q4⟩:=I;exact⟨arr,q1,q2,q3,q4.mono E⟩
    |gro T c=>obtain⟨arr,q1,q2,q3,q4⟩:=I;exact⟨arr,q1,q2,q3,q4.mono E⟩
    |mp ks vs=>obtain⟨es,clock,q1,q2,q3,q4⟩:=I;exact⟨es,clock,q1,q2.mono E,q3.mono E,q4⟩
    |it s p=>exact I
    |fro s p=>exact I
    |mi c ks vs=>exact w8.mono E O I
    | mix T c=>
      obtain⟨arr,q1,q2,q3,q4⟩:=I;refine⟨arr,q1,q2,by rw[nI];exact q3,?_⟩;rw[nI];exact q4.mpL E G U
 .intro i b N h1;obtain⟨h2,h3,h4⟩:=hw.hr.own i b N (d i _ h1).1;refine⟨h2,?_,h4⟩;rintro(h5|⟨N',h5⟩)
  .exact h3 h5
  exact(d i _ h1).2 (hw.hr.inj i id b N N' (d i _ h1).1 h5)
 .rintro q (hq|⟨N,hq⟩)
  .exact hw.hr.rsz q hq
  exact(hw.hr.own id q N hq).1
 .rintro q (hq|⟨N,hq⟩)
  .exact hw.hr.rfr q hq
  rcases(hw.hr.own id q N hq).2.2 with h|h
  .exact .inr (.inr h)
  exact .inr (.inl h)
 .intro t ht;exact(hw.sl t ht).mpV E G U
end
end Go.Proofs.YtameambcolibjaaGreatDoor
