/- Lemmas. No condition. -/
import Derived.Lib.Walk
import Derived.Lib.ItoaMem
import Derived.BigCall
import Derived.BigGuard
import Derived.Laws.StructEq
import Derived.Tactics
import Derived.Tactics2
import Derived.Maps.RangeRun
import Derived.Test.YthicoeegbdboeaaGreatDoorJF8
set_option maxRecDepth 100000
set_option maxHeartbeats 4000000
open Go.RowKit Go.Proofs.Tryz
open Option renaming some→WB,none→WC
open Bool renaming true→YK,false→YL
namespace Go.Proofs.YthicoeegbdboeaaGreatDoor
variable{id j k B C W i A:Nat}{s:er}{q a b x:Rat}{p key zp v:PV}{w:World}{R:ew}{u zv:Value}{l:cP}{d δ:Bool}{D:Int}{K:Type}{ls:List na}{TA T:TypeId}{r:Option Nat}{cs ks cur ps qs:na}{m:Gm}{es:List MapEntry}
section
open Go.RowKit Go.Sort Go.Lib
theorem Uq(w:World)(T:TypeId)(nd:Nat)(hs:nd<=24):Holds (fun(b:UInt8)=>Value.int .u8 (b.toNat:Int)) (w.alloc (.cells zeros24 T)) w.heap.size 0 (Array.replicate nd (0:UInt8)):=λj hj=>by
 have E:j<nd:=by simpa using hj
 refine⟨?_,World.frozen?_alloc_new _ _ _ _⟩;rw[World.cell?_alloc_new,zeros24_at _ Zi,getElem!_pos _ j hj];simp
theorem fin0(w:World)(o:Obj)(dk:Array UInt8)(k:Nat):∃os,(putRow (fun(b:UInt8)=>Value.int .u8 (b.toNat:Int)) (w.alloc o) w.heap.size 0 dk).drewN k=grow (w.drewN k) os:=by rw[alloc_eq_grow];obtain⟨os',_,e⟩:=putRow_grow_new (fun(b:UInt8)=>Value.int .u8 (b.toNat:Int)) w #[o] w.heap.size 0 dk (BY _);exact⟨os',by rw[e];rfl⟩
set_option maxHeartbeats 6400000
theorem zy(u:Nat)(E:u<18446744073709551616)(w:World)(L:Lib.TabIs prog w "internal/strconv.uint64pow10" .u64 Lib.pow10Tab):
  Calls prog 230 #[.int .u64 u,.int .i64 10] w λe w'=>e= .returned (.string ⟨(Lib.decDigits u).toArray⟩)/\∃k os,w'=grow (w.drewN k) os:=by
 by_cases hs:u<100
 .have hwr:IntKind.i64.wrap (u:Int)=(u:Int):=eS Zi;have V:((u:Int)<100):=Zi
  go_enter func230,ntmps230
  go_wp2_with (fail)
  refine(Tryz.internal_strconv_small u hs _).mono ?_;rintro e w' ⟨rfl,rfl⟩
  go_wp2
  go_ret
  exact⟨O,0, #[],by simp[World.drewN_zero]⟩
 have hu1:1<=u:=Zi;have X:¬ ((u:Int)<100):=Zi;have M:Lib.nDigits u<=20:=by have:=Lib.numDigits_eq u hu1 E;split at this<;>omega
 have Y:Lib.nDigits u<=23:=Zi;have I:prog.arrayLen 352=24:=by simp[Program.arrayLen,underlying352]
 have U:∀W,(Instr.sliceAt 352 (.pointer (WB ⟨w.heap.size,0,WC⟩)) WC (WB (.int .i64 (Lib.nDigits u:Int))) WC).run prog W= .ok (.slice (WB ⟨w.heap.size,0,WC⟩) (Lib.nDigits u) 24) W:=λW=>by
  rw[run_sliceAt_array_h W 352 ⟨w.heap.size,0,WC⟩ (by simp[Program.arrayLen,Program.elem,underlying352]) .i64 (Lib.nDigits u:Int) Zi (by rw[I];omega)]
  go_simp
 have H:=Uq w 352 (Lib.nDigits u) Zi;have G:=Tryz.internal_strconv_formatBase10 w.heap.size 0 24 u (Array.replicate (Lib.nDigits u) 0) (w.alloc (.cells Lib.zeros24 352)) H (by rw[Array.size_replicate];exact Lib.lt_pow_nDigits u) E (by rw[Array.size_replicate];omega);rw[Array.size_replicate]at G;have HH0:=Lib.hid H;clear H I
 go_enter func230,ntmps230
 go_wp2_with (fail)
 refine(Tryz.internal_strconv_numDigits u hu1 E _ (Lib.tabIs_alloc L _)).mono ?_;rintro e w' ⟨rfl,rfl⟩
 go_wp2_with (fail)
 refine G.mono ?_;rintro e w' ⟨rfl,k,v',dk,rfl,hF⟩;have Z:(convert 178 9 (.slice (WB ⟨w.heap.size,0,WC⟩) (Lib.nDigits u) 24)).run prog ((putRow (fun(b:UInt8)=>Value.int .u8 (b.toNat:Int)) (w.alloc (.cells Lib.zeros24 352)) w.heap.size 0 dk).drewN k)= .ok (.string ⟨(Lib.decDigits u).toArray⟩) ((putRow (fun(b:UInt8)=>Value.int .u8 (b.toNat:Int)) (w.alloc (.cells Lib.zeros24 352)) w.heap.size 0 dk).drewN k):=by
  have h:=run_convert_bytes_back (P:=prog) ((putRow (fun(b:UInt8)=>Value.int .u8 (b.toNat:Int)) (w.alloc (.cells Lib.zeros24 352)) w.heap.size 0 dk).drewN k) 178 9 5 ⟨w.heap.size,0,WC⟩ 24 (Lib.decDigits u) aav aau aam (λj hj=>by
   rw[Lib.row_is_numeral hF j hj,Lib.add_plain,World.cell?_drewN];exact cell?_putRow (fun(b:UInt8)=>Value.int .u8 (b.toNat:Int)) _ w.heap.size 0 _ dk HH0.out (by rw[hF.size,Array.size_replicate]) j (by rw[hF.size];rw[Lib.decDigits_length]at hj;exact hj))
  rw[Lib.decDigits_length]at h;exact h
 go_wp2
 go_ret
 obtain⟨os,eo⟩:=fin0 w (.cells Lib.zeros24 352) dk k;exact⟨O,k,os,eo⟩
theorem js(u:Nat)(E:u<18446744073709551616):ZK prog 171 [.int .u64 u,ZU 10] (· = .str ⟨(Lib.decDigits u).toArray⟩):=by
 have G:ZK prog 230 [.int .u64 u,ZU 10] (· = .str ⟨(Lib.decDigits u).toArray⟩):=by
  intro w R us hG hR hrel;obtain⟨v11,rfl,h11⟩:=nW hrel;obtain⟨v12,rfl,h12⟩:=nW h11;obtain rfl:=oi h12;exact(zy u E w (Sv hG)).mono λe w' ⟨he,k,os,hw⟩=>⟨_,_,he,O,by rw[hw];exact Am w k os,by simp only[ZH]⟩
 refine ZC func171 O ntmps171 λ_ _ _ _=>?_
 exact Z1 O<|Z2 O<|Rs O (aa call230 G O)<|A1 O<|YR O O
end
section
open Mk Jn
section
variable {C:Ctx}{n:Nat}{σ:St}{dst:YX}{ty t t':TypeId}{pos:String}{after:Y4}{gd:Option (Nat×Bool)}{x y:Operand}
theorem xI{e:TypeId}(id':Nat)(he:ZP C.P t e (.int .u8 0) 1 1)(hu:C.P.underlying t'=WB .string)(hs:σ.ev n x= .bz id 1 0)(ho:σ.ob id=WB (.bD e []))
  (hy:σ.ev n y= .pv (.str s)) (hb:s.size<=1000000000) (h0:0<s.size) (af:σ.av id'=YK):
  XJ C n ⟨dst,.call { callee:= .builtin .append,args:= #[x,y],argTypes:= #[t,t'] },ty,pos,after,gd⟩ σ ⟨.bz id' 1 s.size,[(id',WB (.bD e (aF s.data.toList))),(id,WC)],[id']⟩:=by
 rintro a w Q ⟨m,R,hw⟩;obtain⟨A0,c,hev,hkc,hcm,hz,hp⟩:=hw.bz hs;obtain⟨rfl,rfl,hmn⟩:=hz O;obtain⟨i,hi,hzz,hsize,hbytes⟩:=info_parts he.info;have U:a.eval y= .string s:=hw.str hy;have V:s.size<=maxLen:=by simp only[maxLen];omega
 have X:s.data.toList.length=s.size:=by rw[Wg];rfl
 have Y:aF s.data.toList≠[]:=λe=>by grind[List.length,aF,IS,XS]
 have H:=Go.run_append_nil_string (P:=C.P) w t t' ty e i (.int .u8 0) he.u hu hi hzz s Zi Zi (by rw[hbytes];omega);have Z:w.grownBy (w.drew.alloc (.cells (s.data.map (λb=>Value.int .u8 b.toNat)++Builtin.zeroCells (Value.int .u8 0).cells (grownCap w s.size 0 e-s.size)) e)) WC:=⟨O,O,O,Zm,λq hq _=>heap_alloc_old w.drew _ hq⟩;have I:=grownCap_ge w s.size 0 e;have aa:=grownCap_le_maxLen w s.size 0 e V;have ab:(Value.int IntKind.u8 0).cells.size=1:=rfl;have hg:=heap_alloc_new w.drew (.cells (s.data.map (λb=>Value.int .u8 b.toNat)++Builtin.zeroCells (Value.int .u8 0).cells (grownCap w s.size 0 e-s.size)) e);have E:(s.data.map (λb=>Value.int .u8 b.toNat)++Builtin.zeroCells (Value.int .u8 0).cells (grownCap w s.size 0 e-s.size)).size=grownCap w s.size 0 e:=by
  have:s.data.size=s.size:=rfl;simp only[Array.size_append,Array.size_map,size_zeroCells,ab];omega
 have ac:(s.data.map (λb=>Value.int .u8 b.toNat)++Builtin.zeroCells (Value.int .u8 0).cells (grownCap w s.size 0 e-s.size)).toList.take s.size=Lib.strCells s:=by
  rw[Array.toList_append,List.take_left' (by rw[Wg,Array.size_map];rfl),Y9];rfl
 generalize (s.data.map (λb=>Value.int .u8 b.toNat)++Builtin.zeroCells (Value.int .u8 0).cells (grownCap w s.size 0 e-s.size))=cur' at*;generalize grownCap w s.size 0 e=c' at*;generalize hw':w.drew.alloc (.cells cur' e)=w' at*;have L:w'.heap[w.heap.size]? =WB (.cells cur' e (0,0)):=hg;unfold Oper.wp;have G:(execOp a.eval ⟨dst,.call { callee:= .builtin .append,args:= #[x,y],argTypes:= #[t,t'] },ty,pos,after,gd⟩).run C.P w= .ok (.value (.slice (WB ⟨w.heap.size,0,WC⟩) s.size c')) w':=by
  unfold execOp;simp only[resolve,invoke,builtin,Sem.run_bind,Sem.run_pure,Result.andThen_ok,Yj,ed,Wd,hev,U,H]
 rw[G];have M:(aF s.data.toList).length=s.size:=by simp only[aF,IS,X]
 refine⟨_,O,upd (upd m id WC) id' (WB (w.heap.size,cur'.size)),R,?_⟩;rw[Vu];have ad:∀i x,upd m id WC i=WB x->m i=WB x/\i≠id:=λi x e=>by grind[aA,a7]
 refine SW.put ((hw.drop id).fresh af L Z (λq hq=>by cases hq) (λhh=>?_) (λi b' N' hi e=>?_) (.inr ?_) (.bD e (aF s.data.toList)) ?_ (cQ Y)) dst ?_
 .have:=hw.hr.rsz _ hh;omega
 .have:=(hw.hr.own i b' N' (ad i _ hi).1).1;omega
 .have:=hw.hr.frame.size;omega
 .intro m' av' hR _ _;refine⟨cur',L,O,by rw[M,E];exact I,?_⟩;rw[M,ac];exact(pB s).mono hR
 simp only[Rel];refine⟨by simp[avL],_,c',O,I,aa,λh=>by omega,λ_ b' N' e'=>?_⟩;rw[aA]at e';cases e';exact⟨O,by rw[E,VY]⟩
end
theorem ub(s:er)(G:0<s.size)(H:s.size<=1000000000):ZS prog 222 2 1 [.ptr big 0,.pv (.str s)] [(big,.mix 308 [.pv .nilptr,.bz 9001 1 0]),(9001,.bD 5 [])] (λv ob'=>v= .bS [ZI s.size,.pv .niliface]/\ob'=au [(big,.mix 308 [.ptr big 0,.bz 0 1 s.size]),(0,.bD 5 (aF s.data.toList))]):=by
 refine ZE func222 O ntmps222 λ_ _ _ _=>?_
 have E:=DW 0 [];exact Z2 O<|Z1 O<|Rs O (az [big,9001] 0 call263 E O O O O ⟨O,O,Zp⟩ Zk O)<|Gr O<|Ar 6 O<|Rs O (xI 0 Sh aam O O O H G O)<|Y3 O<|Z4 O<|Gt O<|⟨[(4,ZI s.size),(5,.pv .niliface)],[(big,.mix 308 [.ptr big 0,.bz 0 1 s.size]),(0,.bD 5 (aF s.data.toList))],[ZI s.size,.pv .niliface],Vn (aS O) (aO Zj) O O,O,O,O,O,O⟩
theorem G0(n:Nat):0<(Lib.decDigits n).length:=by
 cases h:Lib.decDigits n with
 | nil=>
   exfalso;rw[Lib.decDigits]at h;split at h<;>simp at h
 |cons a l=>simp
theorem tq(n:Nat)(Y:n<1000000000)(hl:(Lib.decDigits n).length<=1000):ZK prog 172 [fb (n:Int)] (· = .str ⟨(Lib.decDigits n).toArray⟩):=by
 refine ZC func172 O ntmps172 λ_ _ _ _=>?_
 have X:decide ((n:Int)<0)=YL:=VL Zi;have H:=js n Zi;have E:=G0 n;rw[show fb (n:Int)= .agg [.bool YL,.sl WC (ae n).length (b7 (ae n))] by show PV.agg [.bool (decide ((n:Int)<0)),bE ((n:Int).natAbs)]=_;rw[X];rfl];by_cases h0:n=0
 .subst h0;rw[aV];refine Z2 O<|Z4 O<|Gc O (λG=>?_) (λG=>absurd G Zm);exact Z1 O<|YR O<|by show PV.str ⟨#[48]⟩=_;rw[Lib.decDigits,dif_pos Zk];rfl
 have hlm:ae n=[n]:=by
  rw[ae,AS h0,show n/1000000000=0 by omega,aV,X5 Y]
 rw[hlm];have L:(b7 [n])[0]? =WB (.int .u64 (n:Int)):=rfl;generalize hD:Lib.decDigits n=D at*;have M:D≠[]:=λe=>by rw[e]at E;simp at E
 have U:=ub ⟨D.toArray⟩ (show 0<D.length from E) (show D.length<=1000000000 by omega);have V:=qH D M Zi;refine Z2 O<|Z4 O<|Gc O (λhc=>absurd hc Zm) (λhc=>?_);refine Vl<|Z1 O<|Vm (St.cD 1 1 2 1 5 O O O)<|Z2 O<|Gc O (λhc=>absurd hc Zm) (λhc=>?_);refine Vl<|Gr O<|Ar 5 O<|Gl O (st:=λb:Bool=>bif b then ZT [(1,.ptr 0 0),(3,.ptr 1 0),(4,ZI 0)] [(0,.mix 82 [.pv (.bool YL),.pv (.sl WC 1 (b7 [n]))]),(1,.mix 308 [.pv .nilptr,.bz 2 1 0]),(2,.bD 5 [])] 3 else ZT [(1,.ptr 0 0),(3,.ptr 1 0),(4,ZI (-1))] [(0,.mix 82 [.pv (.bool YL),.pv (.sl WC 1 (b7 [n]))]),(1,.mix 308 [.ptr 1 0,.bz 2 1 D.length]),(2,.bD 5 (aF D))] 3)
  (I:=λ_=>True) (μ:=λb=>bif b then 1 else 0) (x0:=YK) (YS O) trivial ?_
 rintro(_|_) _
 .simp only[Wo];refine Z2 O<|Gp O (λhc=>absurd hc Zk) (λhc=>?_);exact Gx O<|Gr O<|Rs O (az [1,2] 3 call223 V O O O O ⟨O,O,Zp⟩ Zk O)<|A1 O<|YR O O
 simp only[Xe];refine Z2 O<|Gp O (λhc=>?_) (λhc=>absurd hc Zk);refine Vl<|Z3 O<|Rs O (ai 0 aaq iK O O O Zk (by simp[b7]))<|Rs O (aC ⟨_,aaE,O⟩ O L)<|Rs O (aa call171 H O)<|A1 O<|Gr O<|Ar 6 O<|Gp O (λhc=>absurd hc Zm) (λhc=>?_);exact Vl<|Z1 O<|Rs O (az [1,2] 3 call222 U O O O O ⟨O,O,Zp⟩ Zk O)<|Z3 O<|⟨YL,Vo [0,1,3] (aT O) (aP Zj) O O Zk O,Zp,Zk⟩
end
section
theorem N6(g:Nat):fb (g:Int)= .agg [.bool YL,bE g]:=by grind
theorem MW:bE 1= .sl WC 1 [.int .u64 1]:=by rw[bE,eY Zi Zi];rfl
theorem GZ(x:Int)(g:Nat)(G:0<g):(x<0/\0<x.natAbs%g->x/(g:Int)= -((x.natAbs/g+1:Nat):Int)/\x%(g:Int)=((g-x.natAbs%g:Nat):Int))/\
  (¬ (x<0/\0<x.natAbs%g)->x/(g:Int)=sgn (decide (x<0)) (x.natAbs/g)/\x%(g:Int)=((x.natAbs%g:Nat):Int)):=by
 have H:=Yv x.natAbs g;have I:=WI x.natAbs G;generalize x.natAbs/g=q at*;generalize x.natAbs%g=r at*;have L:((g*q:Nat):Int)=(g:Int)*(q:Int):=XK g q;have E:(g:Int)* -((q+1:Nat):Int)= -((g:Int)*(q:Int))-(g:Int):=by grind
 constructor
 .rintro⟨h1,h2⟩;refine(Int.ediv_emod_unique Zi).2 ⟨?_,Zi,Zi⟩;rw[E];omega
 .intro h;by_cases h1:x<0
  .have hr:r=0:=by grind
   subst hr;rw[VK h1];refine(Int.ediv_emod_unique Zi).2 ⟨?_,Zi,Zi⟩;simp only[sgn,Yk,Int.mul_neg];omega
  rw[VL h1];refine(Int.ediv_emod_unique Zi).2 ⟨?_,Zi,Zi⟩;simp only[sgn,Wj,Yd];omega
theorem sA(x:Int)(g:Nat)(hx:(ae x.natAbs).length<=900000)(V:0<g)(X:g<1000000000):ZK prog 212 [fb x,fb (g:Int)] (· = .bS [fb (x/g),fb (x%g)]):=by
 refine ZD func212 O ntmps212 λ_ _ _ _=>?_
 have Z:ZK prog 255 [bE x.natAbs,bE g] (· = .bS [bE (x.natAbs/g),bE (x.natAbs%g)]):=JR x.natAbs g Zi V X;obtain⟨hp1,hp2⟩:=GZ x g V;have ab:(ae (x.natAbs/g)).length<=900000:=OF (b9 (Zc _ _)) hx;have ac:=WI x.natAbs V;have ad:(ae g).length<=1:=aW.2 Zi;have I:=bK YL (x.natAbs%g);have L:=bK (decide (x<0)) (x.natAbs/g);rw[N6 g];generalize hQ:x.natAbs/g=q at*;generalize hR:x.natAbs%g=r at*;have G:decide (((ae r).length:Int)>0)=decide (0<r):=by
  rw[Y7];constructor
  .intro h;exact oI Zi
  .intro h;have:(ae r).length≠0:=λe=>by have:=bJ.1 e;omega
   omega
 have H:(decide (x<0) !=YL)=decide (x<0):=Zm;refine Z4 O<|Z4 O<|Rs O (aa call255 Z O)<|Ar 5 O<|Z3 O ?_;apply Vx 4 18 22 [19,20,21] O Zs
 .intro hb2;exact Ar 4 O<|Vp Zr O O O
 .intro hb2;exact Ar 4 O<|Vp Zr O O O
 refine Gc O (λE=>?_) (λE=>?_)
 .have hc:x<0/\0<r:=by rw[G]at E;simpa using E
  obtain⟨e1,e2⟩:=hp1 hc;have Y:=yi q 1 Zi (by rw[eY Zi Zi];decide);have hs:=qP g r Zi Zi;rw[MW]at Y;have M:=bK (decide (x<0)) (q+1);have U:=bK YL (g-r);refine VC 9 O<|D1 O O<|YM O (λτ h=>ax WC Zm Qm O Zk Zk (h.uU O O) O)<|YM O (λτ h=>aa call213 Y (h.aE O))<|Dr 3 O<|YM O (λτ h=>aa call215 hs (h.aE O))<|Dr 2 O ⟨Zj,Gr O<|Ar 6 O<|Rs O (aa call208 (by rw[H];exact M) O)<|A1 O<|Rs O (aa call208 U O)<|Y2 O<|Gt O<|⟨_,_,O,O,⟨ar ⟨_,aat,O⟩ zX O O O,ar ⟨_,aat,O⟩ zX O O O,Zp⟩,by rw[e1,e2,VK hc.1];rfl⟩⟩
 have hc:¬ (x<0/\0<r):=by rw[G]at E;intro h;simp[h.1,h.2]at E
 obtain⟨e1,e2⟩:=hp2 hc;exact Vl<|Gr O<|Ar 6 O<|Rs O (aa call208 (by rw[H];exact L) O)<|A1 O<|Rs O (aa call208 I O)<|Y2 O<|Gt O<|⟨_,_,O,O,⟨ar ⟨_,aat,O⟩ zX O O O,ar ⟨_,aat,O⟩ zX O O O,Zp⟩,by rw[e1,e2];rfl⟩
abbrev frC(q:Rat):na:=TC q.num++TC (q.den:Int)
abbrev frP(q:Rat):PV:= .agg (frC q)
structure FOk(q:Rat):Prop where
 d:q.den<31622
 n:(ae q.num.natAbs).length<=100000
theorem PC{n:Nat}(h:n<1000000000):(ae n).length<=1:=aW.2 Zi
theorem FOk.dl(h:FOk q):(ae (q.den:Int).natAbs).length<=1:=PC (by rw[VZ];have:=h.d;omega)
theorem CB(a:Int):((a-1).sign==0)=decide (a=1):=sign_eq a
theorem Zt{p:Prop}(h:p:=by decide+kernel):p:=h
theorem im(q:Rat)(h:FOk q):ZK prog 159 [frP q] (· = .bool (decide (q.den=1))):=by
 refine ZC func159 O ntmps159 λ_ _ _ _=>?_
 have E:=mU 1 Zi Zi;have G:=jr (q.den:Int) 1 (by have:=h.dl;omega) Zt;have e:(((q.den:Int)-1).sign==0)=decide (q.den=1):=by rw[CB,Y7];omega
 refine Z2 O<|VC 6 O<|Dr 2 O<|YM O (λτ h=>aa call157 E O)<|YM O (λτ h=>aa call191 G (h.aE O))<|Dr 2 O ⟨Zj,YR O<|ah PV.bool e⟩
theorem lV(z:Int):ZK prog 156 [fb z] (· =frP (z:Rat)):=by
 refine ZD func156 O ntmps156 λ_ _ _ _=>?_
 have E:=mU 1 Zi Zi;refine Z2 O<|VC 4 O<|D1 O O<|YM O (λτ h=>aa call157 E O)<|Dr 2 O ⟨Zj,YR O ⟨⟨ar ⟨_,aaF,O⟩ L2 O O O,Zp⟩,O⟩⟩
theorem p8(n:Int)(E: -9223372036854775808<=n)(G:n<=9223372036854775807):ZK prog 95 [ZU n] (· =frP (n:Rat)):=by
 refine ZD func95 O ntmps95 λ_ _ _ _=>?_
 exact Z1 O<|Z1 O<|Rs O (aa call157 (mU n E G) O)<|Rs O (aa call156 (lV n) O)<|A1 O<|YR O ⟨⟨ar ⟨_,aaF,O⟩ L2 O O O,Zp⟩,O⟩
theorem fQ(q:Rat):ZK prog 102 [frP q] (· = ZU q.num.sign):=by
 refine ZC func102 O ntmps102 λ_ _ _ _=>?_
 exact Z2 O<|Z2 O<|Rs O (aa call163 (o0 q.num) O)<|A1 O<|YR O O
theorem QO(x:Int)(y:Nat)(G:(ae x.natAbs).length<=900000)(E:y<1000000000):ZK prog 190 [fb x,fb (y:Int)] (· =fb (Int.gcd x y:Int)):=
 qY Hk (λx y h h0 h2 G E=>TG h h0 h2 G) x (y:Int) (.inl (by rw[VZ];exact E)) Zi (by have:=PC E;rw[VZ];omega)
theorem Fq(x:Int)(y:Nat)(E:0<y):(Rat.divInt x y).num=x/(Int.gcd x y:Int)/\((Rat.divInt x y).den:Int)=(y:Int)/(Int.gcd x y:Int):=by rw[Rat.num_divInt,Rat.den_divInt,AS Zi,Int.gcd_comm (y:Int) x,Int.sign_eq_one_of_pos Zi,Int.one_mul];refine⟨O,?_⟩;rw[Int.natCast_ediv,show(((y:Int).natAbs:Nat):Int)=(y:Int) by omega]
theorem xp(x:Int)(y:Nat)(X:(ae x.natAbs).length<=900000)(h0:0<y)(Y:y<1000000000):ZK prog 161 [fb x,fb (y:Int)] (· =frP (Rat.divInt x y)):=by
 refine ZD func161 O ntmps161 λ_ _ _ _=>?_
 have hs:=o0 (y:Int);rw[Int.sign_eq_one_of_pos Zi]at hs;have Z:=QO x y X Y;have G:0<Int.gcd x y:=Int.gcd_pos_of_ne_zero_right x Zi;have ab:Int.gcd x y<=y:=by
  have:=Int.le_of_dvd (show(0:Int)<(y:Int) by omega) (Int.gcd_dvd_right x (y:Int));omega
 obtain⟨e1,e2⟩:=Fq x y h0;have L:=mU 1 Zi Zi;generalize hG:Int.gcd x y=g at*;have H:=jr (g:Int) 1 (by have:=PC (n:=g) Zi;rw[VZ];omega) Zt;have M:=sA x g X G Zi;have U:=sA (y:Int) g (by have:=PC Y;rw[VZ];omega) G Zi;have V:(((g:Int)-1).sign !=0)=decide (g≠1):=by
  have:=CB (g:Int);rw[bne,this,<-decide_not,Y7];omega
 refine Z3 O<|Z1 O<|Rs O (aa call163 hs O)<|A1 O<|Gp O (λI=>absurd I Zm) (λI=>?_);refine Vl<|Z2 O<|Rs O (aa call190 Z O)<|Y2 O<|VC 4 O<|D1 O O<|YM O (λτ h=>aa call157 L O)<|YM O (λτ h=>aa call191 H (h.aE O))<|D1 O O ⟨Zj,Gc O (λE=>?_) (λE=>?_)⟩
 .exact Z2 O<|Rs O (aa call212 M O)<|Ar 4 O<|Z2 O<|Rs O (aa call212 U O)<|Ar 4 O<|Z4 O<|YR O ⟨⟨ar ⟨_,aaF,O⟩ L2 O O O,Zp⟩,by rw[frP,frC,e1,e2];rfl⟩
 have hg1:g=1:=by rw[V]at E;simpa using E
 have hq:frP (Rat.divInt x y)= .agg (TC x++TC (y:Int)):=by rw[frP,frC,e1,e2,hg1,Int.natCast_one,Int.ediv_one,Int.ediv_one]
 exact Vl<|Z4 O<|YR O ⟨⟨ar ⟨_,aaF,O⟩ L2 O O O,Zp⟩,by rw[hq];rfl⟩
theorem mS(h:q.den=1):(q.num:Rat)=q:=Rat.ext O h.symm
theorem jR{a b:Nat}(E:(ae a).length<=j)(G:(ae b).length<=k):(ae (a*b)).length<=j+k:=by refine aW.2 ?_;rw[Nat.pow_add];exact Nat.mul_lt_mul'' (aW.1 E) (aW.1 G)
theorem Q2{a b:Nat}(E:(ae a).length<=k)(G:(ae b).length<=k):(ae (a+b)).length<=k+1:=by refine aW.2 ?_;have H:=aW.1 E;have I:=aW.1 G;rw[Wt];omega
theorem den_mul{a b:Nat}(E:a<31622)(G:b<31622):a*b<1000000000:=
 Yn (Xa (show a<=31621 by omega) (show b<=31621 by omega)) Zk
theorem Lv(a b:Rat):Rat.divInt (a.num*b.num) ((a.den*b.den:Nat):Int)=a*b:=by rw[Rat.mul_def,Rat.normalize_eq_mkRat,<-Rat.divInt_ofNat]
theorem HM(a b:Rat):Rat.divInt (a.num*(b.den:Int)+b.num*(a.den:Int)) ((a.den*b.den:Nat):Int)=a+b:=by rw[Rat.add_def,Rat.normalize_eq_mkRat,<-Rat.divInt_ofNat]
theorem iQ(a b:Rat)(I:FOk a)(L:FOk b):ZK prog 98 [frP a,frP b] (· =frP (a*b)):=by
 refine ZD func98 O ntmps98 λ_ _ _ _=>?_
 have X:=im a I;have Y:=im b L;have Z:=I.dl;have ab:=L.dl;have M:=I.n;have U:=L.n;have H:=gx a.num b.num Zi Zi;have V:=gx (a.den:Int) (b.den:Int) Zi Zi;have hw:=lV (a.num*b.num);have E:=xp (a.num*b.num) (a.den*b.den) (by rw[YD];have:=jR M U;omega) (Y1 a.den_pos b.den_pos) (den_mul I.d L.d);rw[Lv,show((a.den*b.den:Nat):Int)=(a.den:Int)*(b.den:Int)from XK _ _]at E;refine Z3 O<|Z1 O<|Rs O (aa call159 X O)<|A1 O ?_;apply Vx 3 7 10 [8,9] O Zs
 .intro hb2;exact A1 O<|Rg O (aa call159 Y O)<|A1 O<|Vp Zr O O O
 .intro hb2;exact Y3 O<|Vp Zr O O O
 refine Gc O (λG=>?_) (λG=>?_)
 .have hab:a.den=1/\b.den=1:=by simpa using G
  have e:((a.num*b.num:Int):Rat)=a*b:=by rw[Ye,mS hab.1,mS hab.2]
  exact Z4 O<|Rs O (aa call160 H O)<|Rs O (aa call156 hw O)<|A1 O<|YR O ⟨⟨ar ⟨_,aaF,O⟩ L2 O O O,Zp⟩,by rw[<-e];rfl⟩
 refine Vl<|VC 12 O<|Dr 4 O<|YM O (λτ h=>aa call160 H (h.aE O))<|Dr 4 O<|YM O (λτ h=>aa call160 V (h.aE O))<|YM O (λτ h=>aa call161 E (h.aE O))<|D1 O O ⟨Zj,YR O ⟨⟨ar ⟨_,aaF,O⟩ L2 O O O,Zp⟩,O⟩⟩
theorem mO(a b:Rat)(H:FOk a)(I:FOk b):ZK prog 99 [frP a,frP b] (· =frP (a+b)):=by
 refine ZD func99 O ntmps99 λ_ _ _ _=>?_
 have h1:=im a H;have h2:=im b I;have L:=H.dl;have M:=I.dl;have U:=H.n;have V:=I.n;have X:(ae (a.num*(b.den:Int)).natAbs).length<=100001:=by rw[YD];exact jR U M
 have Y:(ae (b.num*(a.den:Int)).natAbs).length<=100001:=by rw[YD];exact jR V L
 have Z:=lO a.num b.num Zi Zi;have ab:=gx a.num (b.den:Int) Zi Zi;have ac:=gx b.num (a.den:Int) Zi Zi;have ad:=gx (a.den:Int) (b.den:Int) Zi Zi;have hs:=lO (a.num*(b.den:Int)) (b.num*(a.den:Int)) Zi Zi;have hw:=lV (a.num+b.num);have E:=xp (a.num*(b.den:Int)+b.num*(a.den:Int)) (a.den*b.den) (OF (b9 (Int.natAbs_add_le _ _)) (by have:=Q2 X Y;omega)) (Y1 a.den_pos b.den_pos) (den_mul H.d I.d);rw[HM,show((a.den*b.den:Nat):Int)=(a.den:Int)*(b.den:Int)from XK _ _]at E;refine Z3 O<|Z1 O<|Rs O (aa call159 h1 O)<|A1 O ?_;apply Vx 3 7 10 [8,9] O Zs
 .intro hb2;exact A1 O<|Rg O (aa call159 h2 O)<|A1 O<|Vp Zr O O O
 .intro hb2;exact Y3 O<|Vp Zr O O O
 refine Gc O (λG=>?_) (λG=>?_)
 .have hab:a.den=1/\b.den=1:=by simpa using G
  have e:((a.num+b.num:Int):Rat)=a+b:=by rw[Rat.intCast_add,mS hab.1,mS hab.2]
  exact Z4 O<|Rs O (aa call162 Z O)<|Rs O (aa call156 hw O)<|A1 O<|YR O ⟨⟨ar ⟨_,aaF,O⟩ L2 O O O,Zp⟩,by rw[<-e];rfl⟩
 refine Vl<|VC 18 O<|Dr 4 O<|YM O (λτ h=>aa call160 ab (h.aE O))<|Dr 4 O<|YM O (λτ h=>aa call160 ac (h.aE O))<|YM O (λτ h=>aa call162 hs (h.aE O))<|Dr 4 O<|YM O (λτ h=>aa call160 ad (h.aE O))<|YM O (λτ h=>aa call161 E (h.aE O))<|D1 O O ⟨Zj,YR O ⟨⟨ar ⟨_,aaF,O⟩ L2 O O O,Zp⟩,O⟩⟩
end
section
theorem wV(k:Nat)(a b:Int)(s t:er)(w:World):(Op.equalIn (k+2) 111 (.agg #[.int .i64 a,.string s]) (.agg #[.int .i64 b,.string t])).run prog w= .ok (a==b&&s.toList==t.toList) w:=by
 have E:=aan;have G:=aam;have hS:prog.underlying 111=WB (.struct (prog.fieldsOf 111)):=Zj;rw[run_equalIn_agg w (k+1) 111 _ _ hS Tryz.stoodInHeld111];simp only[Program.fieldsOf,aaA]
 go_simp
 by_cases h1:a=b<;>by_cases h2:s.toList=t.toList<;>simp[h1,h2]
theorem eqTrm(k:Nat)(a b:Int)(s t u v:er)(w:World):(Op.equalIn (k+3) 113 (.agg #[.int .i64 a,.string s,.string u]) (.agg #[.int .i64 b,.string t,.string v])).run prog w= .ok ((a==b&&s.toList==t.toList)&&u.toList==v.toList) w:=by
 have G:=underlying42;have hS:prog.underlying 113=WB (.struct (prog.fieldsOf 113)):=Zj;rw[run_equalIn_agg w (k+2) 113 _ _ hS Tryz.stoodInHeld113];have E:=λw=>wV k a b s t w
 simp only[Program.fieldsOf,aaB]
 go_simp
 by_cases h1:a=b<;>by_cases E:s.toList=t.toList<;>by_cases h3:u.toList=v.toList<;>simp[h1,E,h3]
theorem eqPrr(k:Nat)(a b a' b':Int)(s t s' t' u v:er)(w:World):(Op.equalIn (k+3) 115 (.agg #[.int .i64 a,.string s,.int .i64 a',.string s',.string u]) (.agg #[.int .i64 b,.string t,.int .i64 b',.string t',.string v])).run prog w= .ok (((a==b&&s.toList==t.toList)&&(a'==b'&&s'.toList==t'.toList))&&u.toList==v.toList) w:=by
 have H:=underlying42;have hS:prog.underlying 115=WB (.struct (prog.fieldsOf 115)):=Zj;rw[run_equalIn_agg w (k+2) 115 _ _ hS Tryz.stoodInHeld115];have E:=λw=>wV k a b s t w
 have G:=λw=>wV k a' b' s' t' w
 simp only[Program.fieldsOf,aaC]
 go_simp
 by_cases h1:a=b<;>by_cases E:s.toList=t.toList<;>by_cases G:u.toList=v.toList<;>by_cases h4:a'=b'<;>by_cases h5:s'.toList=t'.toList<;>simp[h1,E,G,h4,h5]
structure ZM where
 f:Int
 c:er
abbrev u9:=List ZM
structure Trm where
 p:ZM
 v:er
structure Prr where
 a:ZM
 b:ZM
 v:er
abbrev pO(p:ZM):na:=[.int .i64 p.f,.str p.c]
abbrev ui(t:Trm):na:=[.int .i64 t.p.f,.str t.p.c,.str t.v]
abbrev tX(t:Prr):na:=[.int .i64 t.a.f,.str t.a.c,.int .i64 t.b.f,.str t.b.c,.str t.v]
def jF(p q:ZM):Bool:=p.f==q.f&&p.c.toList==q.c.toList
def FT(p q:Trm):Bool:=jF p.p q.p&&p.v.toList==q.v.toList
def E3(p q:Prr):Bool:=(jF p.a q.a&&jF p.b q.b)&&p.v.toList==q.v.toList
theorem rf{p:ZM}(h:ZH w R (.agg (pO p)) u):u= .agg #[.int .i64 p.f,.string p.c]:=by simpa[ZH,ZG]using h
theorem Gq{p:Trm}(h:ZH w R (.agg (ui p)) u):u= .agg #[.int .i64 p.p.f,.string p.p.c,.string p.v]:=by simpa[ZH,ZG]using h
theorem Lu{p:Prr}(h:ZH w R (.agg (tX p)) u):u= .agg #[.int .i64 p.a.f,.string p.a.c,.int .i64 p.b.f,.string p.b.c,.string p.v]:=by simpa[ZH,ZG]using h
section
variable {C:Ctx}{n:Nat}{σ:St}{dst:YX}{ty t':TypeId}{pos:String}{after:Y4}{gd:Option (Nat×Bool)}{x y:Operand}
theorem jm{p q:ZM}(H:C.P=prog)(I:σ.ev n x= .pv (.agg (pO p)))(L:σ.ev n y= .pv (.agg (pO q))):
  XJ C n ⟨dst,.binOp .eql 111 x y t',ty,pos,after,gd⟩ σ ⟨.pv (.bool (jF p q)),[],[]⟩:=
 .lit O λa w m R hw=>by
  have E:=rf (hw.pv I);have G:=rf (hw.pv L);have e:(Op.equalIn 10000 111 _ _).run _ w=_:=wV 9998 p.f q.f p.c q.c w;rw[H];simp[execOp,E,G,run_eqGuard_agg w _ _ _ _ _ _ Tryz.eqGuardType111,run_eql_struct,e,zc,jF,FT,E3]
theorem Ph{p q:Trm}(H:C.P=prog)(I:σ.ev n x= .pv (.agg (ui p)))(L:σ.ev n y= .pv (.agg (ui q))):
  XJ C n ⟨dst,.binOp .neq 113 x y t',ty,pos,after,gd⟩ σ ⟨.pv (.bool (!FT p q)),[],[]⟩:=
 .lit O λa w m R hw=>by
  have E:=Gq (hw.pv I);have G:=Gq (hw.pv L);have e:(Op.equalIn 10000 113 _ _).run _ w=_:=eqTrm 9997 p.p.f q.p.f p.p.c q.p.c p.v q.v w;rw[H];simp[execOp,E,G,run_eqGuard_agg w _ _ _ _ _ _ Tryz.eqGuardType113,run_neq_struct,e,zc,jF,FT,E3]
theorem OY{p q:Prr}(H:C.P=prog)(I:σ.ev n x= .pv (.agg (tX p)))(L:σ.ev n y= .pv (.agg (tX q))):
  XJ C n ⟨dst,.binOp .neq 115 x y t',ty,pos,after,gd⟩ σ ⟨.pv (.bool (!E3 p q)),[],[]⟩:=
 .lit O λa w m R hw=>by
  have E:=Lu (hw.pv I);have G:=Lu (hw.pv L);have e:(Op.equalIn 10000 115 _ _).run _ w=_:=eqPrr 9997 p.a.f q.a.f p.b.f q.b.f p.a.c q.a.c p.b.c q.b.c p.v q.v w;rw[H];simp[execOp,E,G,run_eqGuard_agg w _ _ _ _ _ _ Tryz.eqGuardType115,run_neq_struct,e,zc,jF,FT,E3]
end
end
section
open Mk
def w4(s t:er):Int:=if Op.bytesLess s.toList t.toList=YK then-1 else if(!(Op.bytesLess s.toList t.toList||s.toList==t.toList))=YK then 1 else 0
theorem KI(s t:er):ZK prog 122 [.str s,.str t] (· = ZU (w4 s t)):=by
 refine ZC func122 O ntmps122 λ_ _ _ _=>?_
 refine Z1 O<|Z1 O<|Rs O (aa call175 (l8 s) O)<|A1 O<|Z1 O<|Rs O (aa call175 (l8 t) O)<|A1 O<|Z1 O<|Gc O (λH=>absurd H Zm) (λH=>?_);refine Vl<|Z1 O<|Gc O (λI=>absurd I Zm) (λI=>?_);refine Vl<|Z3 O<|Gc O (λE=>?_) (λE=>?_)
 .exact Z1 O<|YR O<|ah (PV.int .i64) (by rw[w4,IT E])
 refine Vl<|Z3 O ?_;refine Gc O (λG=>?_) (λG=>?_)
 .exact Z1 O<|YR O<|ah (PV.int .i64) (by rw[w4,AS (by rw[E];decide),IT G])
 exact Vl<|Z1 O<|YR O<|ah (PV.int .i64) (by rw[w4,AS (by rw[E];decide),AS (by rw[G];decide)])
def orI(l:cP):Int:=(l.find? (· !=0)).getD 0
theorem DN(G:k<l.length)(h:∀i∈l.take k,i=0)(H:l[k]≠0):orI l=l[k]:=by
 have e:l=l.take k++l[k]::l.drop (k+1):=by rw[<-V1 G,WV]
 have E:(l.take k).find? (· !=0)=WC:=List.find?_eq_none.2 λx hx=>by simp[h x hx]
 rw[orI]
 conv=>lhs;rw[e]
 rw[List.find?_append,E,Option.none_or,List.find?_cons_of_pos (by simpa using H)];rfl
theorem Cm(h:∀i∈l,i=0):orI l=0:=by rw[orI,List.find?_eq_none.2 λx hx=>by simp[h x hx]];rfl
theorem SY(l:cP)(hl:l.length<=1000000):ZK prog 120 [al l] (· = ZU (orI l)):=by
 refine ZC func120 O ntmps120 λ_ _ _ _=>?_
 refine Z1 O<|Z1 O<|Z3 O<|Gz O (st:=λZq:Nat=>([(3,WC),(6,WC),(7,WC),(8,WB (ZI Zq))],[])) 0
  (I:=λZq=>Zq<=l.length/\∀i∈l.take Zq,i=0) (μ:=λZq=>l.length-Zq) (x0:=0) (Vn (aS O) trivial O O) (⟨sh _,λi hi=>by simp at hi⟩) ?_
 rintro k ⟨hk,hz⟩;refine Z1 O<|Gp O (λH=>?_) (λH=>?_)
 .have hlt:k<l.length:=Zi;have M:=bo hlt;have L:=aU hlt;have G:=λh=>DN hlt hz h
  refine Vl<|Z1 O<|A2 O Zl ?_;refine A1 O<|Z3 O ?_;refine Gc O (λE=>?_) (λE=>?_)
  .exact Z2 O<|YR O<|ah (PV.int .i64) (G (by simpa using E)).symm
  exact Vl<|Z2 O<|⟨(k+1),Vn (aS O) trivial O O,⟨Zi,λi hi=>by rw[bP hlt,We,VH]at hi;rcases hi with h|rfl;exact hz i h;simpa using E⟩,Zi⟩
 exact Gx O<|Z2 O<|YR O<|ah (PV.int .i64) (Cm λi hi=>hz i (by rwa [aG Zi])).symm
def s7(a b:Int):Int:=if a<b then-1 else if b<a then 1 else 0
def bY(p q:ZM):Int:=orI [s7 p.f q.f,w4 p.c q.c]
def gG(p q:ZM):Bool:=decide (bY p q<0)
theorem yI(p q:ZM):ZK prog 59 [.agg (pO p),.agg (pO q)] (· = ZU (bY p q)):=by
 refine ZC func59 O ntmps59 λ_ _ _ _=>?_
 refine Z3 O<|VC 13 O<|Dr 4 O<|YM O (λτ h=>aa call121 (LK p.f q.f) (h.aE O))<|Dr 4 O<|YM O (λτ h=>aa call122 (KI p.c q.c) (h.aE O))<|YM O (λτ h=>ax WC Zm xg O Zk Zk (h.uU O O) O)<|YM O (λτ h=>aa call120 (SY [s7 p.f q.f,w4 p.c q.c] Zm) (h.aE O))<|D1 O O ⟨Zj,YR O O⟩
theorem jJ(p q:ZM):ZK prog 84 [.agg (pO p),.agg (pO q)] (· = .bool (gG p q)):=by
 refine ZC func84 O ntmps84 λ_ _ _ _=>?_
 exact Z3 O<|Z2 O<|Rs O (aa call59 (yI p q) O)<|Y2 O<|YR O O
end
section
namespace Mm
open Jn
theorem yH{p q:ZM}:jF p q=YK↔p=q:=by
 obtain⟨a,s⟩:=p;obtain⟨b,t⟩:=q;constructor
 .intro h;simp only[jF,aJ,Xk]at h;have E:a=b:=h.1;have G:s=t:=bytes_inj h.2;rw[E,G]
 .intro h;rw[h];simp[jF]
instance instBEqPar:BEq ZM:=⟨jF⟩
instance instLawPar:LawfulBEq ZM where
 eq_of_beq h:=yH.1 h
 rfl:=yH.2 O
abbrev PP:=ZM×ZM
section
variable {K:Type}[BEq K][LawfulBEq K]
def lk:List (K×Rat)->K->Rat
 |[],_=>0
 |e::l,k=>(if e.1==k then e.2 else 0)+lk l k
omit [LawfulBEq K] in
theorem fh(l m:List (K×Rat))(k:K):lk (l++m) k=lk l k+lk m k:=by
 induction l with
 |nil=>simp[lk,Rat.zero_add]
 |cons e l ih=>simp only[Wu,lk,ih];grind
omit [LawfulBEq K] in
theorem P5(l m:List (K×Rat))(e:K×Rat)(k:K):lk (l++e::m) k=lk (l++m) k+if e.1==k then e.2 else 0:=by rw[fh,fh];simp only[lk];grind
theorem uK{l:List (K×Rat)}{k:K}(h:∀e∈l,e.1≠k):lk l k=0:=by
 induction l with
 |nil=>rfl
 | cons e l ih=>
   have E:(e.1==k)=YL:=by grind
   simp only[lk,E,ih (λe' he=>h e' (by simp[he]))];simp[Rat.zero_add]
theorem fD{l:List (K×Rat)}(E:(l.map (·.1)).Nodup){e:K×Rat}(H:e∈l):lk l e.1=e.2:=by
 obtain⟨l1,l2,rfl⟩:=List.append_of_mem H;rw[P5,uK,WE,IT O,Rat.zero_add];intro e' he' hk;simp only[Wf,ed]at E;have G:=XL.1 E;have I:=WW.1 G.2.1;rcases We.1 he' with h|h
 .grind
 grind
def note(d:Bool)(l:List (K×Rat))(k:K)(x:Rat):List (K×Rat):=match l.findIdx? (λe=>e.1==k)with
 |some j=>if d=YK/\x+(l.getD j (k,0)).2=0 then l.eraseIdx j else l.set j (k,x+(l.getD j (k,0)).2)
 |none=>if d=YK/\x=0 then l else l++[(k,x)]
theorem mR{k:K}:∀{l:List (K×Rat)}{j:Nat},l.findIdx? (λe=>e.1==k)=WB j->∃l1 o l2,l=l1++(k,o)::l2/\j=l1.length/\∀e∈l1,e.1≠k
 |[],_,h=>by simp at h
 | e::l,j,h=>by
   rw[List.findIdx?_cons]at h;cases hb:e.1==k with
   | true=>
     rw[hb]at h;simp only[Yk,VM]at h;subst h;have:=eq_of_beq hb;exact⟨[],e.2,l,by rw[<-this];rfl,O,Zm⟩
   | false=>
     rw[hb]at h;simp only[Wj,Yd,X3]at h;obtain⟨j',h1,rfl⟩:=h;obtain⟨l1,o,l2,rfl,rfl,h2⟩:=mR h1;refine⟨e::l1,o,l2,O,O,λe' he'=>?_⟩;rcases By.1 he' with rfl|h3
     .intro e1;rw[e1]at hb;simp at hb
     exact h2 e' h3
theorem HG{k:K}{l:List (K×Rat)}(h:l.findIdx? (λe=>e.1==k)=WC):∀e∈l,e.1≠k:=by grind
theorem rX{k:K}{l1 l2:List (K×Rat)}{o:Rat}(h:∀e∈l1,e.1≠k):note d (l1++(k,o)::l2) k x=if d=YK/\x+o=0 then l1++l2 else l1++(k,x+o)::l2:=by
 have E:(l1++(k,o)::l2).findIdx? (λe=>e.1==k)=WB l1.length:=by grind
 unfold note;rw[E];simp only;have G:(l1++(k,o)::l2).getD l1.length (k,0)=(k,o):=by simp[List.getD]
 rw[G];simp only;split
 .grind
 grind
theorem qW{k:K}{l:List (K×Rat)}(h:∀e∈l,e.1≠k):note d l k x=if d=YK/\x=0 then l else l++[(k,x)]:=by grind[List.findIdx,note]
theorem gh(l:List (K×Rat))(k:K):(∃l1 o l2,l=l1++(k,o)::l2/\∀e∈l1,e.1≠k)\/∀e∈l,e.1≠k:=by
 cases h:l.findIdx? (λe=>e.1==k)with
 |none=>exact .inr (HG h)
 |some j=>obtain⟨l1,o,l2,h1,_,h2⟩:=mR h;exact .inl ⟨l1,o,l2,h1,h2⟩
theorem H0(l:List (K×Rat))(k:K)(x:Rat)(k':K):lk (note d l k x) k'=lk l k'+if k==k' then x else 0:=by
 rcases gh l k with⟨l1,o,l2,rfl,h⟩|h
 .grind[rX,P5]
 rw[qW h];split
 .grind
 rw[fh];simp only[lk];grind
theorem Kw{l:List (K×Rat)}(E:(l.map (·.1)).Nodup)(k:K)(x:Rat):((note d l k x).map (·.1)).Nodup:=by
 rcases gh l k with⟨l1,o,l2,rfl,h⟩|h
 .grind[rX,List.sublist_cons_self]
 grind[qW,XL,VS.1]
theorem vY{l:List (K×Rat)}{k:K}{e:K×Rat}(h:e∈note d l k x):e∈l\/(e.1=k/\(d=YK->e.2≠0)/\(e.2=x\/∃o,(k,o)∈l/\e.2=x+o)):=by
 rcases gh l k with⟨l1,o,l2,rfl,hk⟩|hk
 .rw[rX hk]at h;split at h
  .grind
  grind
 rw[qW hk]at h;split at h
 .exact .inl h
 grind
end
structure Sem where
 c:Rat
 s:ZM->Rat
 p:ZM->ZM->Rat
abbrev ZB:=Mm.Sem
theorem Sem.same{a b:Sem}(E:a.c=b.c)(G:∀x,a.s x=b.s x)(H:∀x y,a.p x y=b.p x y):a=b:=by obtain⟨c,s,p⟩:=a;obtain⟨c',s',p'⟩:=b;simp only at E G H;rw[E,funext G,funext λx=>funext (H x)]
def Sem.zero:Sem:=⟨0,λ_=>0,λ_ _=>0⟩
def Sem.one:Sem:=⟨1,λ_=>0,λ_ _=>0⟩
def Sem.add(a b:Sem):Sem:=⟨a.c+b.c,λx=>a.s x+b.s x,λx y=>a.p x y+b.p x y⟩
def Sem.mul(a b:Sem):Sem:=⟨a.c*b.c,λx=>a.c*b.s x+b.c*a.s x,λx y=>a.c*b.p x y+b.c*a.p x y+(a.s x*b.s y+a.s y*b.s x)⟩
def aM:SR Sem where
 zero:=Sem.zero
 one:=Sem.one
 add:=Sem.add
 mul:=Sem.mul
 add_assoc a b c:=Sem.same (by simp only[Sem.add];grind) (λx=>by simp only[Sem.add];grind) (λx y=>by simp only[Sem.add];grind)
 zero_add a:=Sem.same (by simp only[Sem.add,Sem.zero];grind) (λx=>by simp only[Sem.add,Sem.zero];grind) (λx y=>by simp only[Sem.add,Sem.zero];grind)
 add_zero a:=Sem.same (by simp only[Sem.add,Sem.zero];grind) (λx=>by simp only[Sem.add,Sem.zero];grind) (λx y=>by simp only[Sem.add,Sem.zero];grind)
 mul_assoc a b c:=Sem.same (by simp only[Sem.mul];grind) (λx=>by simp only[Sem.mul];grind) (λx y=>by simp only[Sem.mul];grind)
 mul_comm a b:=Sem.same (by simp only[Sem.mul];grind) (λx=>by simp only[Sem.mul];grind) (λx y=>by simp only[Sem.mul];grind)
 one_mul a:=Sem.same (by simp only[Sem.mul,Sem.one];grind) (λx=>by simp only[Sem.mul,Sem.one];grind) (λx y=>by simp only[Sem.mul,Sem.one];grind)
 zero_mul a:=Sem.same (by simp only[Sem.mul,Sem.zero];grind) (λx=>by simp only[Sem.mul,Sem.zero];grind) (λx y=>by simp only[Sem.mul,Sem.zero];grind)
 add_mul a b c:=Sem.same (by simp only[Sem.mul,Sem.add];grind) (λx=>by simp only[Sem.mul,Sem.add];grind) (λx y=>by simp only[Sem.mul,Sem.add];grind)
def dR(D:Int)(q:Rat):Prop:=∃z:Int,q*(D:Rat)=(z:Rat)
theorem dR.add(E:dR D a)(G:dR D b):dR D (a+b):=by obtain⟨x,hx⟩:=E;obtain⟨y,hy⟩:=G;exact⟨x+y,by rw[Rat.add_mul,hx,hy,Rat.intCast_add]⟩
theorem dR.mul{E:Int}(G:dR D a)(H:dR E b):dR (D*E) (a*b):=by obtain⟨x,hx⟩:=G;obtain⟨y,hy⟩:=H;exact⟨x*y,by rw[Ye,Ye,<-hx,<-hy];grind⟩
theorem dR.ofInt(D z:Int):dR D (z:Rat):=⟨z*D,by rw[Ye]⟩
theorem dR.up(E:Int)(G:dR D a):dR (D*E) a:=by obtain⟨x,hx⟩:=G;exact⟨x*E,by rw[Ye,Ye,<-hx];grind⟩
theorem dR.den(h:dR D q):(q.den:Int)∣D:=by
 obtain⟨z,hz⟩:=h;have E:q.num*D*((1:Nat):Int)=z*((q.den*1:Nat):Int):=by
  have G:q*(D:Rat)=mkRat (q.num*D) (q.den*1):=Rat.mul_def' q (D:Rat);have H:(z:Rat)=mkRat z 1:=(Rat.mkRat_self (z:Rat)).symm;rw[G,H]at hz;exact(Rat.mkRat_eq_iff (by have:=q.den_pos;omega) Zk).1 hz
 simp only[VY,Int.natCast_one,Int.mul_one]at E;have I:q.den∣q.num.natAbs*D.natAbs:=by
  rw[<-YD,E,YD,VZ];exact Nat.dvd_mul_left _ _
 exact Int.ofNat_dvd_left.2 (Nat.Coprime.dvd_of_dvd_mul_left q.reduced.symm I)
theorem dR.PY(E:0<D)(h:dR D q):(q.den:Int)<=D:=Int.le_of_dvd E h.den
def bg(B:Nat)(q:Rat):Prop:= -(B:Rat)<=q/\q<=(B:Rat)
theorem bg.zero(B:Nat):bg B 0:=by
 have h:(0:Rat)<=(B:Rat):=by grind
 constructor
 .grind
 exact h
theorem bg.up(h:bg B q)(E:B<=C):bg C q:=by have G:(B:Rat)<=(C:Rat):=Rat.natCast_le_natCast.2 E;obtain⟨h2,h3⟩:=h;constructor<;>grind
theorem bg.add(G:bg B a)(H:bg C b):bg (B+C) (a+b):=by
 obtain⟨h1,h2⟩:=G;obtain⟨h3,h4⟩:=H;have E:((B+C:Nat):Rat)=(B:Rat)+(C:Rat):=Rat.natCast_add B C;constructor
 .rw[E];grind
 rw[E];grind
theorem bg.num(h:bg B q):q.num.natAbs<=B*q.den:=by obtain⟨h1,h2⟩:=h;rw[Rat.le_iff]at h1 h2;have E:((B:Nat):Rat).num=(B:Int):=rfl;have G:((B:Nat):Rat).den=1:=rfl;have H:(-((B:Nat):Rat)).num= -(B:Int):=rfl;have I:(-((B:Nat):Rat)).den=1:=rfl;rw[E,G]at h2;rw[H,I]at h1;have L:((B*q.den:Nat):Int)=(B:Int)*(q.den:Int):=Zm;rw[Int.neg_mul]at h1;omega
theorem bg.mul(M:bg B a)(U:bg C b):bg (B*C) (a*b):=by
 have E:∀x y B C:Rat, -B<=x->x<=B-> -C<=y->y<=C->x*y<=B*C:=by
  intro x y B C h1 h2 h3 h4;have hB:0<=B:=by grind
  have G:0<=C:=by grind
  by_cases hx:0<=x
  .have I:x*y<=x*C:=Rat.mul_le_mul_of_nonneg_left h4 hx;have H:x*C<=B*C:=Rat.mul_le_mul_of_nonneg_right h2 G;exact Rat.le_trans I H
  have hx':0<= -x:=by grind
  have I:(-x)*(-y)<=(-x)*C:=Rat.mul_le_mul_of_nonneg_left (by grind) hx';have H:(-x)*C<=B*C:=Rat.mul_le_mul_of_nonneg_right (by grind) G
  grind
 obtain⟨h1,h2⟩:=M;obtain⟨h3,h4⟩:=U;have L:((B*C:Nat):Rat)=(B:Rat)*(C:Rat):=Rat.natCast_mul B C;constructor
 .rw[L];have:=E (-a) b (B:Rat) (C:Rat) (by grind) (by grind) h3 h4
  grind
 grind
theorem iA[BEq K][LawfulBEq K]{l:List (K×Rat)}(E:(l.map (·.1)).Nodup)(h:∀e∈l,bg B e.2)(k:K):bg B (lk l k):=by
 rcases gh l k with⟨l1,o,l2,rfl,_⟩|hk
 .have:=fD E (e:=(k,o)) Zm;simp only at this;rw[this];exact h (k,o) Zm
 rw[uK hk];exact bg.zero B
end Mm
end
section
namespace Mm
open Jn
theorem Lf(a b:Int):s7 b a= -s7 a b:=by unfold s7;split<;>split<;>(try split)<;>omega
theorem rO{a b:Int}:s7 a b=0↔a=b:=by grind[s7]
theorem UP(a b:Int):orI [a,b]=if a≠0 then a else b:=by grind[orI]
theorem vy(s t:er):w4 s t=if s.toList<t.toList then-1 else if s=t then 0 else 1:=by
 unfold w4;rw[nj];by_cases h:s.toList<t.toList
 .simp[h]
 rw[VL h,AS Zk,AS h,Bool.false_or];by_cases h2:s=t
 .subst h2;simp
 grind[bytes_inj]
theorem TE{a b:List UInt8}(E:¬a<b)(G:¬b<a):a=b:=List.le_antisymm (List.not_lt.1 G) (List.not_lt.1 E)
theorem Hj{t:er}:w4 s t=0↔s=t:=by grind[vy,List.lt_irrefl]
theorem KP(s t:er):w4 t s= -w4 s t:=by grind[vy,List.lt_asymm,List.lt_irrefl,bytes_inj,TE]
theorem xb(p q:ZM):bY p q=if p.f≠q.f then s7 p.f q.f else w4 p.c q.c:=by
 unfold bY;rw[UP];by_cases h:p.f=q.f
 .rw[AS (by simp[rO.2 h]),AS (by simp[h])]
 rw[IT (λe=>h (rO.1 e)),IT h]
theorem iW(p q:ZM):bY q p= -bY p q:=by grind[xb,KP,Lf]
theorem fa{p q:ZM}:bY p q=0↔p=q:=by
 rw[xb];by_cases h:p.f=q.f
 .rw[AS (by simp[h]),Hj];constructor
  .intro e;obtain⟨a,s⟩:=p;obtain⟨b,t⟩:=q;simp only at h e;subst h e;rfl
  rintro rfl;rfl
 grind[rO]
theorem Fh{a b c:er}(E:w4 a b<0)(G:w4 b c<0):w4 a c<0:=by grind[w4,vy,List.lt_trans]
theorem oT{p q r:ZM}(G:bY p q<0)(E:bY q r<0):bY p r<0:=by
 rw[xb]at*;have I:∀a b:Int,s7 a b<0->a<b:=λa b h=>by unfold s7 at h;split at h;assumption;split at h<;>omega
 have H:∀a b:Int,a<b->s7 a b<0:=λa b h=>by unfold s7;rw[IT h];omega
 by_cases e1:p.f=q.f
 .rw[AS (by simp[e1])]at G;rw[e1];by_cases e2:q.f=r.f
  .rw[AS (by simp[e2])]at E ⊢;exact Fh G E
  rw[IT e2]at E ⊢;exact E
 grind
def dD(a b:ZM):PP:=if bY a b>0 then(b,a)else(a,b)
theorem Ii(a b:ZM):dD a b=dD b a:=by
 unfold dD;have h:=iW a b;by_cases h1:bY a b>0
 .rw[IT h1,AS Zi]
 by_cases h2:bY a b=0
 .have:=fa.1 h2;subst this;rfl
 rw[AS h1,IT Zi]
theorem Rk(a b:ZM):bY (dD a b).1 (dD a b).2<=0:=by
 unfold dD;have h:=iW a b;split
 .simp only;omega
 simp only;omega
theorem eu{a b:ZM}(h:bY a b<=0):dD a b=(a,b):=by unfold dD;rw[AS Zi]
theorem E7(a b:ZM):dD a b=(a,b)\/dD a b=(b,a):=by unfold dD;split<;>simp
theorem D8{a b c d:ZM}(h:dD a b=dD c d):(a=c/\b=d)\/(a=d/\b=c):=by grind[E7,Prod.mk.injEq]
structure MC where
 c:Rat
 s:List (ZM×Rat)
 p:List (PP×Rat)
def MC.sem(m:MC):Sem:=⟨m.c,lk m.s,λa b=>lk m.p (dD a b)⟩
structure LOk{K:Type}(d:Bool)(D:Int)(l:List (K×Rat)):Prop where
 nd:(l.map (·.1)).Nodup
 nz:d=YK->∀e∈l,e.2≠0
 it:∀e∈l,dR D e.2
theorem LOk.nil(D:Int):LOk (K:=K) d D []:=⟨Zm,Zm,Zm⟩
theorem LOk.note[BEq K][LawfulBEq K]{l:List (K×Rat)}(h:LOk d D l)(k:K)(E:dR D x):LOk d D (note d l k x):=by
 refine⟨Kw h.nd k x,λhd e he=>?_,λe he=>?_⟩
 .rcases vY he with h1|⟨_,h2,_⟩
  .exact h.nz hd e h1
  exact h2 hd
 rcases vY he with h1|⟨_,_,h2|⟨o,h3,h4⟩⟩
 .exact h.it e h1
 .rw[h2];exact E
 rw[h4];exact E.add (h.it _ h3)
theorem LOk.perm[BEq K][LawfulBEq K]{l m:List (K×Rat)}(h:LOk YK D l)(G:LOk YK D m)(e:∀k,lk l k=lk m k):l.Perm m:=by
 have I:∀{l:List (K×Rat)},LOk YK D l->l.Nodup:=fun{l} h=>by
  exact(YV.1 h.nd).imp λhne e=>hne (by rw[e])
 have E:∀{l m:List (K×Rat)},LOk YK D l->LOk YK D m->(∀k,lk l k=lk m k)->∀x∈l,x∈m:=fun{l m} h G e x hx=>by
  have H:=fD h.nd hx;rw[e]at H;rcases gh m x.1 with⟨l1,o,l2,rfl,_⟩|hk
  .have h2:=fD G.nd (e:=(x.1,o)) Zm;simp only at h2;rw[H]at h2;have:x=(x.1,o):=by rw[<-h2]
   rw[this];simp
  rw[uK hk]at H;exact absurd H.symm (h.nz O x hx)
 exact(List.perm_ext_iff_of_nodup (I h) (I G)).2 λx=>⟨E h G e x,E G h (λk=>(e k).symm) x⟩
structure MOk(W k:Nat)(m:MC):Prop where
 ci:∃z:Int,m.c=(z:Rat)
 s:LOk YK 6 m.s
 p:LOk YK 36 m.p
 po:∀e∈m.p,bY e.1.1 e.1.2<=0
 cb:bg W m.c
 sb:∀e∈m.s,bg (3*k*W) e.2
 pb:∀e∈m.p,bg (9*k*k*W) e.2
theorem MOk.up{W' k':Nat}{m:MC}(h:MOk W k m)(E:W<=W')(G:k<=k'):MOk W' k' m:=
 ⟨h.ci,h.s,h.p,h.po,h.cb.up E,λe he=>(h.sb e he).up (Xa (Wn 3 G) E),λe he=>(h.pb e he).up (Xa (Xa (Wn 9 G) G) E)⟩
theorem MOk.aM{m:MC}(h:MOk W k m)(x:ZM):bg (3*k*W) (m.sem.s x):=iA h.s.nd h.sb x
theorem MOk.semP{m:MC}(h:MOk W k m)(x y:ZM):bg (9*k*k*W) (m.sem.p x y):=iA h.p.nd h.pb _
theorem MOk.of{m:MC}(ci:∃z:Int,m.c=(z:Rat))(s:LOk YK 6 m.s)(p:LOk YK 36 m.p)(po:∀e∈m.p,bY e.1.1 e.1.2<=0)(cb:bg W m.sem.c)(sb:∀x,bg (3*k*W) (m.sem.s x))(pb:∀x y,bg (9*k*k*W) (m.sem.p x y)):MOk W k m:=by
 refine⟨ci,s,p,po,cb,λe he=>?_,λe he=>?_⟩
 .have:=sb e.1;rw[show m.sem.s e.1=lk m.s e.1 from O,fD s.nd he]at this;exact this
 have:=pb e.1.1 e.1.2;rw[show m.sem.p e.1.1 e.1.2=lk m.p (dD e.1.1 e.1.2)from O,eu (po e he),show(e.1.1,e.1.2)=e.1 from O,fD p.nd he]at this;exact this
theorem MOk.perm{W' k':Nat}{m m':MC}(h:MOk W k m)(G:MOk W' k' m')(e:m.sem=m'.sem):m.c=m'.c/\m.s.Perm m'.s/\m.p.Perm m'.p:=by
 refine⟨ah Sem.c e,h.s.perm G.s λk=>congrFun (ah Sem.s e) k,h.p.perm G.p λk=>?_⟩;have E:∀{m:MC}{W k:Nat},MOk W k m->∀x:PP,lk m.p x=if bY x.1 x.2<=0 then m.sem.p x.1 x.2 else 0:=fun{m W k} h x=>by
  by_cases hx:bY x.1 x.2<=0
  .rw[IT hx];show _=lk m.p (dD x.1 x.2);rw[eu hx]
  rw[AS hx];exact uK λe he e1=>hx (by rw[<-e1];exact h.po e he)
 rw[E h,E G,e]
end Mm
end
section
namespace Mm
open Jn
section
variable {K:Type}[BEq K][LawfulBEq K]
omit [LawfulBEq K] in
theorem gy{l m:List (K×Rat)}(h:l.Perm m)(k:K):lk l k=lk m k:=by
 induction h with
 |nil=>rfl
 |cons e _ ih=>simp only[lk,ih]
 |swap a b l=>simp only[lk];grind
 |trans _ _ ih1 ih2=>rw[ih1,ih2]
structure Inc(d:Bool)(D:Int)(b w:List (K×Rat))(q:Rat)(todo acc:List (K×Rat)):Prop where
 ok:LOk d D acc
 ex:∃d,(d++todo).Perm w/\∀k,lk acc k=lk b k+lk d k*q
omit [LawfulBEq K] in
theorem Inc.start{b:List (K×Rat)}(h:LOk d D b)(w:List (K×Rat))(q:Rat):Inc d D b w q w b:=
 ⟨h,[],WH _,λk=>by simp only[lk];grind⟩
theorem Inc.step{δ:Bool}{D:Int}{b w:List (K×Rat)}{q:Rat}{l1 l2:List (K×Rat)}{e:K×Rat}{acc:List (K×Rat)}(h:Inc δ D b w q (l1++e::l2) acc)(E:dR D (e.2*q)):Inc δ D b w q (l1++l2) (note δ acc e.1 (e.2*q)):=by
 obtain⟨d,h1,h2⟩:=h.ex;refine⟨h.ok.note _ E,d++[e],?_,λk=>?_⟩
 .grind
 rw[H0,h2,fh];simp only[lk];split<;>grind
omit [LawfulBEq K] in
theorem Inc.end{b w:List (K×Rat)}{acc:List (K×Rat)}(h:Inc δ D b w q [] acc)(k:K):lk acc k=lk b k+lk w k*q:=by obtain⟨d,h1,h2⟩:=h.ex;rw[W7]at h1;rw[h2,gy h1]
omit [LawfulBEq K] in
theorem Inc.mem{b w:List (K×Rat)}{todo acc:List (K×Rat)}(h:Inc δ D b w q todo acc){e:K×Rat}(E:e∈todo):e∈w:=by obtain⟨d,h1,_⟩:=h.ex;exact h1.subset (by simp[E])
theorem Inc.abs{b w:List (K×Rat)}{todo acc:List (K×Rat)}{Q:Nat}(h:Inc δ D b w q todo acc)(G:LOk δ D b)(H:LOk YK D w)(bb:∀e∈b,bg B e.2)(bw:∀e∈w,bg C e.2)(bq:bg Q q):∀e∈acc,bg (B+C*Q) e.2:=by
 intro e he;obtain⟨d,h1,h2⟩:=h.ex;rw[<-fD h.ok.nd he,h2];have E:(d.map (·.1)).Nodup:=by
  have:=(h1.map (·.1)).nodup_iff.2 H.nd;rw[Wf]at this;exact(XL.1 this).1
 exact(iA G.nd bb _).add ((iA E (λx hx=>bw x (h1.subset (by simp[hx]))) _).mul bq)
end
def ctr(p:ZM)(x:Rat)(e:ZM×Rat):PP×Rat:=(dD p e.1,if p==e.1 then x*e.2+x*e.2 else x*e.2)
theorem TD(p:ZM)(x:Rat)(e:ZM×Rat)(a b:ZM):(if dD p e.1==dD a b then(if p==e.1 then x*e.2+x*e.2 else x*e.2)else 0)=(if p==a then x else 0)*(if e.1==b then e.2 else 0)+(if p==b then x else 0)*(if e.1==a then e.2 else 0):=by
 obtain⟨q,y⟩:=e
 classical
 simp only;have G:∀u v:ZM,(u==v)=decide (u=v):=λu v=>by grind
 have E:∀u v:PP,(u==v)=decide (u=v):=λu v=>by grind
 have ho:dD p q=dD a b↔(p=a/\q=b)\/(p=b/\q=a):=by grind[D8,Ii]
 simp only[G,E,VJ,ho];by_cases h1:p=a<;>by_cases h2:q=b<;>by_cases h3:p=b<;>by_cases h4:q=a<;>by_cases h5:p=q<;>simp only[h1,h2,h3,h4,h5,true_and,and_true,false_and,and_false,or_true,true_or,Y0,false_or,Yk,Yd]<;>first|grind|(exfalso;grind)|skip
structure Crs(δ:Bool)(b:List (PP×Rat))(ws dP dQ:List (ZM×Rat))(p:ZM)(x:Rat)(acc:List (PP×Rat)):Prop where
 ok:LOk δ 36 acc
 po:∀e∈acc,bY e.1.1 e.1.2<=0
 eq:∀u v,lk acc (dD u v)=lk b (dD u v)+(lk dP u*lk ws v+lk dP v*lk ws u)+((if p==u then x else 0)*lk dQ v+(if p==v then x else 0)*lk dQ u)
theorem JE{l:List (PP×Rat)}(h:∀e∈l,bY e.1.1 e.1.2<=0)(a b:ZM)(x:Rat):∀e∈note δ l (dD a b) x,bY e.1.1 e.1.2<=0:=λe he=>by
 rcases vY he with h1|⟨h1,_⟩
 .exact h e h1
 rw[h1];exact Rk a b
theorem Crs.step{δ:Bool}{b:List (PP×Rat)}{ws dP dQ:List (ZM×Rat)}{p:ZM}{x:Rat}{acc:List (PP×Rat)}(h:Crs δ b ws dP dQ p x acc)(e:ZM×Rat)(E:dR 36 (ctr p x e).2):Crs δ b ws dP (dQ++[e]) p x (note δ acc (dD p e.1) (ctr p x e).2):=by
 refine⟨h.ok.note _ E,JE h.po _ _ _,λu v=>?_⟩;rw[H0,h.eq,fh,fh];have:=TD p x e u v;simp only[ctr]at*;rw[this];simp only[lk]
 grind
theorem Crs.row{b:List (PP×Rat)}{ws dP dQ:List (ZM×Rat)}{p:ZM}{acc:List (PP×Rat)}(h:Crs δ b ws dP dQ p x acc)(E:dQ.Perm ws)(p':ZM)(x':Rat):Crs δ b ws (dP++[(p,x)]) [] p' x' acc:=by
 refine⟨h.ok,h.po,λu v=>?_⟩;rw[h.eq,fh,fh,gy E,gy E];simp only[lk]
 grind
theorem Crs.abs{b:List (PP×Rat)}{ws dP dQ:List (ZM×Rat)}{p:ZM}{acc:List (PP×Rat)}{E:Nat}(h:Crs δ b ws dP dQ p x acc)(X:∀u v,bg B (lk b (dD u v)))(L:∀u,bg C (lk dP u))(Y:bg C x)(M:∀u,bg E (lk ws u))(U:∀u,bg E (lk dQ u)):∀e∈acc,bg (B+(C*E+C*E)+(C*E+C*E)) e.2:=by
 intro e he;have V:=fD h.ok.nd he;have H:=h.eq e.1.1 e.1.2;rw[eu (h.po e he)]at H;rw[<-V,show e.1=(e.1.1,e.1.2)from O,H];have G:=X e.1.1 e.1.2;rw[eu (h.po e he)]at G;have I:∀u,bg C (if p==u then x else 0):=λu=>by split;exact Y;exact bg.zero C
 exact(G.add (((L _).mul (M _)).add ((L _).mul (M _)))).add (((I _).mul (U _)).add ((I _).mul (U _)))
theorem MOk.mul{W' k':Nat}{v w m:MC}(E:MOk W k v)(G:MOk W' k' w)(hc:m.c=v.c*w.c)(hs:LOk YK 6 m.s)(H:LOk YK 36 m.p)(po:∀e∈m.p,bY e.1.1 e.1.2<=0)
  (es:∀x,lk m.s x=lk w.s x*v.c+lk v.s x*w.c) (ep:∀x y,lk m.p (dD x y)=lk w.p (dD x y)*v.c+lk v.p (dD x y)*w.c+(lk v.s x*lk w.s y+lk v.s y*lk w.s x)):
  m.sem=Sem.mul v.sem w.sem/\MOk (W*W') (k+k') m:=by
 have e:m.sem=Sem.mul v.sem w.sem:=Sem.same hc (λx=>by show lk m.s x=_;rw[es];simp only[Sem.mul,MC.sem];grind) (λx y=>by show lk m.p (dD x y)=_;rw[ep];simp only[Sem.mul,MC.sem];grind);refine⟨e,MOk.of ?_ hs H po ?_ (λx=>?_) λx y=>?_⟩
 .obtain⟨a,ha⟩:=E.ci;obtain⟨b,hb⟩:=G.ci;exact⟨a*b,by rw[hc,ha,hb,Ye]⟩
 .show bg _ m.c;rw[hc];exact E.cb.mul G.cb
 .rw[e];refine((E.cb.mul (G.aM x)).add (G.cb.mul (E.aM x))).up (Xz ?_)
  grind
 rw[e];refine(((E.cb.mul (G.semP x y)).add (G.cb.mul (E.semP x y))).add (((E.aM x).mul (G.aM y)).add ((E.aM y).mul (G.aM x)))).up (Xz ?_)
 grind
theorem MOk.add{W':Nat}{v w m:MC}(E:MOk W k v)(G:MOk W' k w)(hc:m.c=v.c+w.c)(hs:LOk YK 6 m.s)(H:LOk YK 36 m.p)(po:∀e∈m.p,bY e.1.1 e.1.2<=0)
  (es:∀x,lk m.s x=lk v.s x+lk w.s x) (ep:∀x,lk m.p x=lk v.p x+lk w.p x):m.sem=Sem.add v.sem w.sem/\MOk (W+W') k m:=by
 have e:m.sem=Sem.add v.sem w.sem:=Sem.same hc es (λx y=>ep _);refine⟨e,MOk.of ?_ hs H po ?_ (λx=>?_) λx y=>?_⟩
 .obtain⟨a,ha⟩:=E.ci;obtain⟨b,hb⟩:=G.ci;exact⟨a+b,by rw[hc,ha,hb,Rat.intCast_add]⟩
 .show bg _ m.c;rw[hc];exact E.cb.add G.cb
 .rw[e];refine((E.aM x).add (G.aM x)).up (Xz ?_)
  grind
 rw[e];refine((E.semP x y).add (G.semP x y)).up (Xz ?_)
 grind
end Mm
end
section
namespace Mm
open Jn
structure Cmp{K:Type}(cmp:K->K->Int):Prop where
 swap:∀a b,cmp b a= -cmp a b
 zero:∀{a b},cmp a b=0->a=b
 trans:∀{a b c},cmp a b<0->cmp b c<0->cmp a c<0
theorem eM:Cmp bY:=⟨iW,fa.1,oT⟩
def cy(a b:PP):Int:=orI [bY a.1 b.1,bY a.2 b.2]
theorem cZ:Cmp cy:=by
 have e:∀a b:PP,cy a b=if bY a.1 b.1≠0 then bY a.1 b.1 else bY a.2 b.2:=λa b=>UP _ _
 refine⟨λa b=>?_,fun{a b} h=>?_,fun{a b c} h1 h2=>?_⟩
 .grind[iW,bY]
 .rw[e]at h;split at h
  .rename_i h1;exact absurd h h1
  rename_i h1;exact Prod.ext (fa.1 Zi) (fa.1 h)
 rw[e]at*;by_cases e1:bY a.1 b.1=0
 .rw[AS Zi]at h1;rw[fa.1 e1];by_cases e2:bY b.1 c.1=0
  .rw[AS Zi]at h2 ⊢;exact oT h1 h2
  rw[IT e2]at h2 ⊢;exact h2
 rw[IT e1]at h1;by_cases e2:bY b.1 c.1=0
 .rw[<-fa.1 e2,IT e1];exact h1
 rw[IT e2]at h2;have:=oT h1 h2;rw[IT Zi];exact this
section
variable {K:Type}(cmp:K->K->Int)
def pT(e:K×Rat):List (K×Rat)->List (K×Rat)
 |[]=>[e]
 |x::l=>if cmp x.1 e.1<0 then x::pT e l else e::x::l
def srt(l:List (K×Rat)):List (K×Rat):=l.foldr (pT cmp) []
abbrev Asc(l:List (K×Rat)):Prop:=l.Pairwise λa b=>cmp a.1 b.1<0
theorem l9(e:K×Rat):∀l,(pT cmp e l).Perm (e::l)
 |[]=>WH _
 | x::l=>by
   simp only[pT];split
   .exact(List.Perm.cons _ (l9 e l)).trans (List.Perm.swap _ _ _)
   exact WH _
theorem bl:∀l,(srt cmp l).Perm l
 |[]=>WH _
 |e::l=>(l9 cmp e _).trans (List.Perm.cons _ (bl l))
variable {cmp}
theorem wu(h:Cmp cmp){e:K×Rat}:∀{l},Asc cmp l->(∀x∈l,x.1≠e.1)->Asc cmp (pT cmp e l)
 |[],_,_=>by simp[pT,Asc]
 | x::l,ha,hn=>by
   obtain⟨h1,h2⟩:=WX.1 ha;simp only[pT];split
   .rename_i hx;refine WX.2 ⟨λy hy=>?_,wu h h2 λz H=>hn z (by simp[H])⟩;rcases By.1 ((l9 cmp e l).mem_iff.1 hy)with rfl|hy
    .exact hx
    exact h1 y hy
   rename_i hx;have G:=hn x Zm;have H:cmp x.1 e.1≠0:=λI=>G (h.zero I)
   have hs:=h.swap x.1 e.1;have E:cmp e.1 x.1<0:=Zi;refine WX.2 ⟨λy hy=>?_,ha⟩;rcases By.1 hy with rfl|hy
   .exact E
   exact h.trans E (h1 y hy)
theorem fu(h:Cmp cmp):∀{l:List (K×Rat)},(l.map (·.1)).Nodup->Asc cmp (srt cmp l)
 |[],_=>List.Pairwise.nil
 | e::l,hn=>by
   simp only[ed,WW]at hn;exact wu h (fu h hn.2) λx hx e1=>hn.1<|VS.2 ⟨x,(bl cmp l).mem_iff.1 hx,e1⟩
theorem iL(h:Cmp cmp):∀{l m:List (K×Rat)},Asc cmp l->Asc cmp m->l.Perm m->l=m
 |[],m,_,_,hp=>(List.Perm.nil_eq hp)
 |x::l,[],_,_,hp=>absurd hp.length_eq Zm
 | x::l,y::m,hl,hm,hp=>by
   obtain⟨h1,h2⟩:=WX.1 hl;obtain⟨h3,h4⟩:=WX.1 hm;have E:∀k,¬cmp k k<0:=λk e=>by have:=h.swap k k;omega
   have G:x=y:=by
    have H:x∈y::m:=hp.mem_iff.1 Zm;have I:y∈x::l:=hp.mem_iff.2 Zm;rcases By.1 H with e|H
    .exact e
    rcases By.1 I with e|I
    .exact e.symm
    have a:=h3 x H;have b:=h1 y I;exact absurd (h.trans a b) (E _)
   subst G;rw[iL h h2 h4 (List.Perm.cons_inv hp)]
theorem vA(h:Cmp cmp){l:List (K×Rat)}(E:Asc cmp l):(l.map (·.1)).Nodup:=by rw[List.Nodup,YV];exact E.imp fun{a b} hlt e=>by have:=h.swap a.1 a.1;rw[<-e]at hlt;omega
theorem Qp(h:Cmp cmp){l:List (K×Rat)}(E:Asc cmp l):srt cmp l=l:=iL h (fu h (vA h E)) E (bl cmp l)
theorem LOk.srt{l:List (K×Rat)}(h:LOk d D l):LOk d D (srt cmp l):=
 ⟨((bl cmp l).map _).nodup_iff.2 h.nd,λhd e he=>h.nz hd e ((bl cmp l).mem_iff.1 he),λe he=>h.it e ((bl cmp l).mem_iff.1 he)⟩
end
def canon(m:MC):MC:=⟨m.c,srt bY m.s,srt cy m.p⟩
theorem HB(m:MC):(canon m).sem=m.sem:=Sem.same O (λx=>gy (bl _ _) x) (λx y=>gy (bl _ _) _)
theorem MOk.canon{m:MC}(h:MOk W k m):MOk W k (canon m):=
 ⟨h.ci,h.s.srt,h.p.srt,λe he=>h.po e ((bl _ _).mem_iff.1 he),h.cb,λe he=>h.sb e ((bl _ _).mem_iff.1 he),λe he=>h.pb e ((bl _ _).mem_iff.1 he)⟩
theorem MV{W' k':Nat}{m m':MC}(h:MOk W k m)(E:MOk W' k' m')(e:m.sem=m'.sem):canon m=canon m':=by obtain⟨e1,e2,e3⟩:=h.perm E e;have hs:srt bY m.s=srt bY m'.s:=iL eM (fu eM h.s.nd) (fu eM E.s.nd) ((bl _ _).trans (e2.trans (bl _ _).symm));have G:srt cy m.p=srt cy m'.p:=iL cZ (fu cZ h.p.nd) (fu cZ E.p.nd) ((bl _ _).trans (e3.trans (bl _ _).symm));rw[Mm.canon,Mm.canon,e1,hs,G]
def SOk(W k:Nat)(x:Sem):Prop:=∃m,MOk W k m/\m.sem=x
theorem SOk.up{W' k':Nat}{x:Sem}(h:SOk W k x)(E:W<=W')(G:k<=k'):SOk W' k' x:=by obtain⟨m,h1,h2⟩:=h;exact⟨m,h1.up E G,h2⟩
open Classical in
noncomputable def cn(x:Sem):MC:=if h:∃m,(∃W k,MOk W k m)/\m.sem=x then canon h.choose else⟨0,[],[]⟩
theorem Sk{m:MC}(h:MOk W k m):cn m.sem=canon m:=by have E:∃m',(∃W k,MOk W k m')/\m'.sem=m.sem:=⟨m,⟨W,k,h⟩,O⟩;obtain⟨⟨W',k',h1⟩,h2⟩:=E.choose_spec;rw[cn,dif_pos E];exact MV h1 h h2
theorem SOk.cn{x:Sem}(h:SOk W k x):MOk W k (cn x)/\(cn x).sem=x/\Asc bY (cn x).s/\Asc cy (cn x).p:=by obtain⟨m,h1,rfl⟩:=h;rw[Sk h1];exact⟨h1.canon,HB m,fu eM h1.s.nd,fu cZ h1.p.nd⟩
theorem Og{m:MC}(h:MOk W k m)(hs:Asc bY m.s)(E:Asc cy m.p):cn m.sem=m:=by rw[Sk h,Mm.canon,Qp eM hs,Qp cZ E]
theorem MOk.sok{m:MC}(h:MOk W k m):SOk W k m.sem:=⟨m,h,O⟩
theorem MOk.perms{m:MC}(h:MOk W k m):(cn m.sem).c=m.c/\(cn m.sem).s.Perm m.s/\(cn m.sem).p.Perm m.p:=by rw[Sk h];exact⟨O,bl _ _,bl _ _⟩
end Mm
end
section
theorem St.T7{σ τ:St}(p:Nat->Bool)(ρ:Nat->Nat)(hs:∀t,τ.sl t= .pv .any\/σ.sl t=(τ.sl t).ren ρ)(U:∀t,(τ.sl t).all p=YK)
  (ho:∀i o,τ.ob i=WB o->σ.ob (ρ i)=WB (o.ren ρ)/\p i=YK/\o.all p=YK) (M:∀i j,p i=YK->p j=YK->ρ i=ρ j->i=j)
  (I:∀i,p i=YK->τ.av i=YL) (G:∀i,big<=i->τ.av i=YL/\ρ i=i):σ.le τ:=by
 rintro C n a w ⟨m,R,hw⟩
 let m2:Gm:=λi=>if(τ.ob i).isSome then m (ρ i)else WC
 have E:∀i x,m2 i=WB x->m (ρ i)=WB x/\p i=YK:=λi x h=>by
  simp only[m2]at h;split at h
  .rename_i hs;obtain⟨o,hoo⟩:=V4.1 hs;exact⟨h,(ho i o hoo).2.1⟩
  cases h
 have V:∀i x,p i=YK->m2 i=WB x->m (ρ i)=WB x:=λi x _ h=>(E i x h).1
 refine⟨m2,R,⟨?_,?_,?_,?_,?_,hw.hr.rsz,hw.hr.rfr,hw.hr.r0,hw.hr.frame,?_,λi hi=>(G i hi).1⟩,hw.df,hw.sz,?_⟩
 .intro i;simp only[m2];cases e:τ.ob i with
  |none=>rfl
  | some o=>
    have:=hw.hr.dom (ρ i);rw[(ho i o e).1]at this;simpa[cC,Ob.pV]using this
 .intro i hi;cases e:τ.ob i with
  |none=>rfl
  | some o=>
    have H:=I i (ho i o e).2.1;rw[hi]at H;cases H
 .intro i o b N H h4;have X:=ho i o H;exact(hw.hr.obj _ _ b N X.1 (E _ _ h4).1).j8 ρ p V I X.2.2
 .intro i j b N N' e1 L;exact M i j (E _ _ e1).2 (E _ _ L).2 (hw.hr.inj _ _ b N N' (E _ _ e1).1 (E _ _ L).1)
 .exact λi b N e=>hw.hr.own _ b N (E _ _ e).1
 .intro i x hi e;have L:=(E i x e).1;rw[(G i hi).2]at L;exact hw.hr.keep i x hi L
 .intro t ht;rcases hs t with e|e
  .rw[e];simp only[Rel,ZH]
  have H:=hw.sl t ht;rw[e]at H;exact H.j8 ρ p V I _ _ (U t)
def ovl(σ:St)(A:Nat)(TA T:TypeId)(cells:nR)(ls:List na):St:=
 ⟨σ.sl,λid=>bif Nat.beq id A then WB (.mix TA cells)else bif (Nat.ble 1000 id&&Nat.blt id (1000+ls.length))then WB (.bD T (ls.getD (id-1000) []))else σ.ob id,λid=>σ.av id&&Nat.blt id 1000⟩
def chV(ls:List na):nR:=ls.zipIdx.map λp=> .bz (p.2+1000) 1 p.1.length
def chP(ls:List na):nR:=ls.map λc=> .pv (.sl WC c.length c)
theorem HI(h:j<ls.length):(chV ls)[j*1]? =WB (.bz (j+1000) 1 ls[j].length):=by simp[chV,h]
theorem j7(ls:List na):(chV ls).length=ls.length:=by simp[chV]
theorem beqT(h:i=k):Nat.beq i k=YK:=by subst h;exact Zh i
theorem IC(h:i≠k):Nat.beq i k=YL:=by grind[Nat.beq,bN]
theorem bltT(h:i<k):Nat.blt i k=YK:=YH h
theorem MZ(h:Nat.blt i k=YK):i<k:=V7 h
theorem dr{σ:St}{cells:nR}(E:A<1000)(h:j<ls.length):(ovl σ A TA T cells ls).ob (j+1000)=WB (.bD T ls[j]):=by show(bif Nat.beq (j+1000) A then _ else _)=_;rw[IC Zi,Wo,show Nat.ble 1000 (j+1000)=YK from YH Zi,show Nat.blt (j+1000) (1000+ls.length)=YK from bltT Zi];simp[List.getD,h]
theorem oh{σ:St}{cells:nR}(h:i≠A)(E:i<1000):(ovl σ A TA T cells ls).ob i=σ.ob i:=by
 show(bif Nat.beq i A then _ else _)=_;rw[IC h,Wo];have:Nat.ble 1000 i=YL:=by
  cases hb:Nat.ble 1000 i with
  |false=>rfl
  |true=>have:=V7 hb;omega
 rw[this];rfl
theorem uM{σ:St}{cells:nR}(E:A<1000)(h:1000+ls.length<=i):(ovl σ A TA T cells ls).ob i=σ.ob i:=by
 show(bif Nat.beq i A then _ else _)=_;rw[IC Zi,Wo];have:Nat.blt i (1000+ls.length)=YL:=by
  cases hb:Nat.blt i (1000+ls.length)with
  |false=>rfl
  |true=>have:=MZ hb;omega
 rw[this,Ya];rfl
theorem zg{σ:St}{cells:nR}:(ovl σ A TA T cells ls).ob A=WB (.mix TA cells):=by show(bif Nat.beq A A then _ else _)=_;rw[beqT O];rfl
theorem St.H2{σ:St}(T:TypeId)(m:Nat)(ho:σ.ob A=WB (.mix TA (List.replicate m (.pv nS))))(Y:A<1000)(hm:m<=1000)(X:∀i,1000<=i->i<2000->σ.av i=YK):σ.le (ovl σ A TA T (chV (List.replicate m [])) (List.replicate m [])):=by
 rintro C n a w ⟨mm,R,hw⟩;have H:∀i,σ.av i=YL->(ovl σ A TA T (chV (List.replicate m [])) (List.replicate m [])).av i=YL:=λi h=>by
  show(σ.av i&&_)=YL;rw[h];rfl
 have E:∀i,1000<=i->i<2000->mm i=WC:=λi h1 G=>by
  have L:=hw.hr.dom i;rw[hw.hr.free i (X i h1 G)]at L;simpa[cC]using L
 have I:∀b,R b->R b/\w.heap[b]? =w.heap[b]? :=λb h=>⟨h,O⟩
 refine⟨mm,R,⟨?_,?_,?_,hw.hr.inj,hw.hr.own,hw.hr.rsz,hw.hr.rfr,hw.hr.r0,hw.hr.frame,hw.hr.keep,λi hi=>H i (hw.hr.res i hi)⟩,hw.df,hw.sz,λt ht=>(hw.sl t ht).mono I (λ_ _ _ e=>e) H _ _⟩
 .intro i;by_cases e:i=A
  .subst e;rw[zg,hw.hr.dom,ho];rfl
  by_cases h1:i<1000
  .rw[oh e h1];exact hw.hr.dom i
  by_cases G:i<1000+m
  .have:=dr (σ:=σ) (TA:=TA) (T:=T) (cells:=chV (List.replicate m [])) (ls:=List.replicate m []) Y (j:=i-1000) Zn;rw[show i-1000+1000=i by omega]at this;rw[this,E i Zi Zi];simp[cC,Ob.real]
  rw[uM Y Zn];exact hw.hr.dom i
 .intro i h;have M:(σ.av i&&Nat.blt i 1000)=YK:=h;rw[aJ]at M;have G:=hw.hr.free i M.1;have U:=MZ M.2;have e:i≠A:=λe=>by subst e;rw[ho]at G;cases G
  rw[oh e U];exact G
 .intro i o b N h1 G;by_cases e:i=A
  .subst e;rw[zg]at h1;cases h1;obtain⟨arr,q1,q2,q3,q4⟩:=hw.hr.obj i _ b N ho G;refine⟨arr,q1,q2,by rw[j7];simpa using q3,?_⟩;rw[j7];simp only[Xy]at q4 ⊢;have V:∀(k s:Nat)(us:e7),s+k<=m->ZJ w mm σ.av R (List.replicate k (.pv nS)) us->ZJ w mm (ovl σ i TA T (chV (List.replicate m [])) (List.replicate m [])).av R (((List.replicate k ([]:na)).zipIdx s).map λp=> .bz (p.2+1000) 1 p.1.length) us:=by
    intro k;induction k with
    |zero=>intro s us _ h;simpa[ZJ]using h
    | succ k ih=>
      intro s us hk h;simp only[List.replicate_succ,ZJ]at h;obtain⟨u,vs,rfl,hu,hv⟩:=h;simp only[List.replicate_succ,List.zipIdx_cons,ed,ZJ];refine⟨u,vs,O,?_,ih (s+1) vs Zi hv⟩;simp only[Rel,ZH]at hu ⊢;obtain⟨A',c,rfl,_,hc,hb,hcz,_⟩:=hu;have Z:=hb YK O;refine⟨?_,A',c,O,sh _,hc,λ_=>⟨?_,hcz trivial,E _ Zi Zi⟩,λh=>absurd h Zm⟩
      .show(σ.av (s+1000)&&Nat.blt (s+1000) 1000)=YL;have:Nat.blt (s+1000) 1000=YL:=by
        cases hb:Nat.blt (s+1000) 1000 with
        |false=>rfl
        |true=>have:=MZ hb;omega
       rw[this,Ya]
      simp_all
   exact V m 0 _ Zi q4
  by_cases hf:1000<=i/\i<1000+m
  .grind
  have L:σ.ob i=WB o:=by grind[oh,uM]
  exact(hw.hr.obj i o b N L G).mono I (λ_ _ _ e=>e) H O
mutual
theorem V.all_mono{p q:Nat->Bool}(h:∀i,p i=YK->q i=YK):∀v:V,v.all p=YK->v.all q=YK
 | .pv _,_=>rfl
 | .ptr i _,hv=>by simp only[V.all]at hv ⊢; exact h i hv
 | .bJ i _ _,hv=>by simp only[V.all]at hv ⊢; exact h i hv
 | .tsl i _ _,hv=>by simp only[V.all]at hv ⊢; exact h i hv
 | .bz i _ _,hv=>by simp only[V.all]at hv ⊢; exact h i hv
 | .map i,hv=>by simp only[V.all]at hv ⊢; exact h i hv
 | .agg cs,hv=>by simp only[V.all]at hv ⊢; exact V.allL_mono h cs hv
 | .bS cs,hv=>by simp only[V.all]at hv ⊢; exact V.allL_mono h cs hv
 | .fn _ a b,hv=>by simp only[V.all,aJ]at hv ⊢; exact⟨V.allL_mono h a hv.1,V.allL_mono h b hv.2⟩
theorem V.allL_mono{p q:Nat->Bool}(h:∀i,p i=YK->q i=YK):∀vs:nR,V.allL p vs=YK->V.allL q vs=YK
 |[],_=>rfl
 |c::cs,hv=>by simp only[V.allL,aJ]at hv ⊢; exact⟨V.all_mono h c hv.1,V.allL_mono h cs hv.2⟩
end
mutual
theorem V.wS(id:Nat)(r:Bool)(cs:na):∀v:V,v.all (λi=> !(Nat.beq i id))=YK->V.pubV id r cs v=v
 | .pv _,_=>rfl
 | .ptr _ _,_=>rfl
 | .bJ i _ _,h=>by simp only[V.all,XF]at h;simp only[V.pubV,h,Wo]
 | .tsl i _ _,h=>by simp only[V.all,XF]at h;simp only[V.pubV,h,Wo]
 | .bz i _ _,h=>by simp only[V.all,XF]at h;simp only[V.pubV,h,Wo]
 | .map _,_=>rfl
 | .agg cs',h=>by simp only[V.all]at h;simp only[V.pubV,V.pubL_out id r cs cs' h]
 | .bS cs',h=>by simp only[V.all]at h;simp only[V.pubV,V.pubL_out id r cs cs' h]
 | .fn _ a b,h=>by simp only[V.all,aJ]at h;simp only[V.pubV,V.pubL_out id r cs a h.1,V.pubL_out id r cs b h.2]
theorem V.pubL_out(id:Nat)(r:Bool)(cs:na):∀vs:nR,V.allL (λi=> !(Nat.beq i id)) vs=YK->V.pubL id r cs vs=vs
 |[],_=>rfl
 |c::cs',h=>by simp only[V.allL,aJ]at h;simp only[V.pubL,V.wS id r cs c h.1,V.pubL_out id r cs cs' h.2]
end
theorem Ob.wS(id:Nat)(r:Bool)(cs:na){o:Ob}(h:o.all (λi=> !(Nat.beq i id))=YK):o.OL id r cs=o:=by
 cases o with
 |mix t vs=>exact ah _ (V.pubL_out id r cs vs h)
 |cells _ _=>rfl
 |bD _ _=>rfl
 |mp _ _=>rfl
 |it _ _=>rfl
 |fro _ _=>rfl
 |mi _ _ _=>rfl
def chM(ls:List na)(j:Nat):nR:=chV (ls.take j)++chP (ls.drop j)
theorem p6{r:Bool}(vs:nR):V.pubL id r cs vs=vs.map (V.pubV id r cs):=by
 induction vs with
 |nil=>rfl
 |cons v vs ih=>rw[V.pubL,ih,ed]
theorem RD(ls:List na)(h:j<ls.length):V.pubL (j+1000) YL ls[j] (chM ls (j+1))=chM ls j:=by
 rw[p6];unfold chM;have G:chV (ls.take (j+1))=chV (ls.take j)++[.bz (j+1000) 1 ls[j].length]:=by grind[AI,chV,List.zipIdx_cons,List.zipIdx_nil,Vz]
 have H:chP (ls.drop j)= .pv (.sl WC ls[j].length ls[j])::chP (ls.drop (j+1)):=by
  rw[V1 h];rfl
 have I:(chV (ls.take j)).map (V.pubV (j+1000) YL ls[j])=chV (ls.take j):=by
  have:∀v∈chV (ls.take j),V.pubV (j+1000) YL ls[j] v=v:=λv hv=>by
   unfold chV at hv;obtain⟨q,hq,rfl⟩:=VS.1 hv;have:=List.mem_zipIdx hq;have E:=this.2.1;rw[Vz]at E;simp only[V.pubV];rw[IC Zi,Wo]
  rw[V9 this];exact List.map_id' _
 have L:(chP (ls.drop (j+1))).map (V.pubV (j+1000) YL ls[j])=chP (ls.drop (j+1)):=by
  have:∀v∈chP (ls.drop (j+1)),V.pubV (j+1000) YL ls[j] v=v:=λv hv=>by
   unfold chP at hv;obtain⟨q,_,rfl⟩:=VS.1 hv;rfl
  rw[V9 this];exact List.map_id' _
 have E:V.pubV (j+1000) YL ls[j] (.bz (j+1000) 1 ls[j].length)= .pv (.sl WC ls[j].length ls[j]):=by
  simp only[V.pubV];rw[beqT O,Xe]
 rw[G,H,Wf,Wf,I,L,ed,Wd,E,XO,YE]
theorem St.Io{σ:St}(ls:List na)(G:A<1000)(hm:ls.length<=1000)(hs:∀t,(σ.sl t).all (λi=>Nat.blt i 1000)=YK)(ho:∀i o,σ.ob i=WB o->i<1000/\o.all (λi=>Nat.blt i 1000)=YK):
  (ovl σ A TA T (chV ls) ls).le (ovl σ A TA T (chP ls) []):=by
 have Y:∀(j:Nat)(v:V),v.all (λi=>Nat.blt i 1000)=YK->v.all (λi=> !(Nat.beq i (j+1000)))=YK:=λj v h=>V.all_mono (λi hi=>by
  have:=MZ hi;rw[IC Zi];rfl) v h
 have Z:∀(j:Nat)(o:Ob),o.all (λi=>Nat.blt i 1000)=YK->o.all (λi=> !(Nat.beq i (j+1000)))=YK:=λj o h=>by
  cases o with
  | mix t vs=>exact V.allL_mono (λi hi=>by
    have:=MZ hi;rw[IC Zi];rfl) vs h
  |cells _ _=>rfl
  |bD _ _=>rfl
  |mp _ _=>rfl
  |it _ _=>rfl
  |fro _ _=>rfl
  |mi _ _ _=>rfl
 have H:∀j,(h:j<ls.length)->(ovl σ A TA T (chM ls (j+1)) (ls.take (j+1))).le (ovl σ A TA T (chM ls j) (ls.take j)):=by
  intro j h;have I:j<(ls.take (j+1)).length:=by rw[Vz];omega
  have E:=dr (σ:=σ) (TA:=TA) (T:=T) (cells:=chM ls (j+1)) G I;rw[List.getElem_take]at E;have X:=Vq (j+1000) E (r:=YL) (cs:=ls[j]) O;have e:(ovl σ A TA T (chM ls (j+1)) (ls.take (j+1))).Tz (j+1000) YL ls[j]=ovl σ A TA T (chM ls j) (ls.take j):=by
   have L:(λt=>V.pubV (j+1000) YL ls[j] (σ.sl t))=σ.sl:=funext λt=>V.wS _ _ _ _ (Y j _ (hs t))
   have M:∀i,(bif Nat.beq i (j+1000)then WC else((ovl σ A TA T (chM ls (j+1)) (ls.take (j+1))).ob i).map (Ob.OL (j+1000) YL ls[j]))=(ovl σ A TA T (chM ls j) (ls.take j)).ob i:=by
    intro i;by_cases hi:i=j+1000
    .subst hi;rw[beqT O,Xe,uM G (by rw[Vz];omega)];cases hq:σ.ob (j+1000)with
     |none=>rfl
     |some o=>have:=(ho _ o hq).1;omega
    rw[IC hi,Wo];by_cases hiA:i=A
    .subst hiA;rw[zg,zg];simp only[Yf,Ob.OL];rw[RD ls h]
    by_cases h1:i<1000
    .rw[oh hiA h1,oh hiA h1];cases hq:σ.ob i with
     |none=>rfl
     |some o=>simp only[Yf];rw[Ob.wS _ _ _ (Z j o (ho i o hq).2)]
    by_cases h2:i<j+1000
    .obtain⟨q,rfl⟩:∃q,i=q+1000:=⟨i-1000,Zi⟩;rw[dr G (by rw[Vz];omega),dr G (by rw[Vz];omega)];simp[Ob.OL,List.getElem_take]
    rw[uM G (by rw[Vz];omega),uM G (by rw[Vz];omega)];cases hq:σ.ob i with
    |none=>rfl
    |some o=>have:=(ho i o hq).1;omega
   unfold St.Tz;show St.mk (λt=>V.pubV (j+1000) YL ls[j] (σ.sl t)) _ _=St.mk σ.sl _ _;rw[L]
   congr 1
   exact funext M
  rw[e]at X;exact X
 have U:∀j,j<=ls.length->(ovl σ A TA T (chM ls j) (ls.take j)).le (ovl σ A TA T (chM ls 0) (ls.take 0)):=by
  intro j;induction j with
  |zero=>exact λ_ C n a w h=>h
  |succ j ih=>exact λh=>(H j h).trans (ih Zi)
 have:=U ls.length (BY _);have L:chM ls ls.length=chV ls:=by unfold chM chP;rw[XD,List.drop_length];simp
 have M:chM ls 0=chP ls:=by unfold chM;rw[Yc,List.drop_zero];rfl
 rwa [L,M,XD,Yc]at this
def rnF(up nw i:Nat):Nat:=bif Nat.beq i (up+1000)then nw else i
theorem en{up nw:Nat}(h:i≠up+1000):rnF up nw i=i:=by unfold rnF;rw[IC h];rfl
theorem Cq(up nw:Nat):rnF up nw (up+1000)=nw:=by unfold rnF;rw[beqT O];rfl
theorem St.ia{σ:St}{l:Zx}{os:Zy}(up nw:Nat)(hl:uF σ (rnF up nw) l)(ho:gL σ (rnF up nw) os)
  (Y:σ.ob A=WB (.mix TA (V.renL (rnF up nw) (chV ls)))) (Z:∀j (h:j<ls.length),σ.ob (rnF up nw (j+1000))=WB (.bD T ls[j])) (h1:l.all (λp=>p.2.okA k)=YK) (M:os.all (λp=>Nat.blt p.1 k&&p.2.okA k)=YK)
  (hk:k<=nw) (hn:nw<1000) (I:A<k) (hup:up<=1000) (hm:ls.length<=1000):σ.le (ovl (ZT l os k) A TA T (chV ls) ls):=by
 have U:big=9000:=rfl;have L:∀i,(Nat.blt i k||Nat.ble big i)=YK->i<k\/big<=i:=λi h=>by simp_all
 refine St.T7 (λi=>decide (i<k)||decide (big<=i)||(decide (1000<=i)&&decide (i<1000+ls.length))) (rnF up nw) ?_ ?_ ?_ ?_ ?_ ?_
 .exact og hl
 .intro t;exact V.all_mono (λi hi=>by rcases L i hi with h|h<;>simp[h]) _ (V.ot _ _ (look_ok h1 t))
 .intro i o h;by_cases e:i=A
  .subst e;rw[zg]at h;cases h;refine⟨by rw[en Zi];exact Y,by simp[I],?_⟩;show V.allL _ (chV ls)=YK;have:∀(vs:nR),(∀v∈vs,V.all (λi=>decide (i<k)||decide (big<=i)||(decide (1000<=i)&&decide (i<1000+ls.length))) v=YK)->V.allL (λi=>decide (i<k)||decide (big<=i)||(decide (1000<=i)&&decide (i<1000+ls.length))) vs=YK:=by
    intro vs;induction vs with
    |nil=>intro _;rfl
    |cons v vs ih=>intro h;simp only[V.allL,aJ];exact⟨h v Zm,ih λw hw=>h w (by simp[hw])⟩
   refine this _ λv hv=>?_
   unfold chV at hv;obtain⟨q,hq,rfl⟩:=VS.1 hv;have:=(List.mem_zipIdx hq).2.1;simp only[V.all];rw[VK (show 1000<=q.2+1000 by omega),VK (show q.2+1000<1000+ls.length by omega)];simp
  by_cases h1000:i<1000
  .rw[oh e h1000]at h;have E:=dx h;have G:=IN.1 M _ E;simp only[aJ]at G;refine⟨kC ho i o E,by simp[MZ G.1],?_⟩;have X:=Ob.ot k G.2;cases o with
   |mix t vs=>exact V.allL_mono (λi hi=>by rcases L i hi with h|h<;>simp[h]) vs X
   |cells _ _=>rfl
   |bD _ _=>rfl
   |mp _ _=>rfl
   |it _ _=>rfl
   |fro _ _=>rfl
   |mi _ _ _=>rfl
  by_cases h2000:i<1000+ls.length
  .obtain⟨j,rfl⟩:∃j,i=j+1000:=⟨i-1000,Zi⟩;have H:j<ls.length:=Zi;rw[dr Zi H]at h;cases h;refine⟨Z j H,?_,O⟩;rw[VK (show 1000<=j+1000 by omega),VK (show j+1000<1000+ls.length by omega)];simp
  rw[uM Zi Zi]at h;have E:=dx h;have G:=IN.1 M _ E;simp only[aJ]at G;have:=MZ G.1;omega
 .intro i j hi H e;simp only[Wr,aJ,VJ]at hi H;by_cases e1:i=up+1000
  .grind[Cq,en]
  grind[Cq,en]
 .intro i hi;simp only[Wr,aJ,VJ]at hi;show(avK k i&&Nat.blt i 1000)=YL;rcases hi with(h|h)|h
  .have:Nat.ble k i=YL:=by
    cases hb:Nat.ble k i with
    |false=>rfl
    |true=>have:=V7 hb;omega
   unfold avK;rw[this];rfl
  .rw[ie h];rfl
  have:Nat.blt i 1000=YL:=by
   cases hb:Nat.blt i 1000 with
   |false=>rfl
   |true=>have:=MZ hb;omega
  rw[this,Ya]
 .intro i hi;refine⟨?_,en Zi⟩;show(avK k i&&Nat.blt i 1000)=YL;rw[ie hi];rfl
theorem rQ{up:Nat}(G:up<ls.length)(nw:Nat)(x:PV):V.renL (rnF up nw) (chV (ls.set up (ls[up]++[x])))=(chV ls).set (up*1) (.bz nw 1 (ls[up].length+1)):=by
 have E:∀vs:nR,V.renL (rnF up nw) vs=vs.map (V.ren (rnF up nw)):=by
  intro vs;induction vs with
  |nil=>rfl
  |cons v vs ih=>rw[V.renL,ih,ed]
 rw[E];apply WU
 .simp[chV]
 .intro i h1 h2;simp only[chV,IS,List.length_zipIdx,VN]at h1;simp only[chV,X4,List.getElem_zipIdx,YB,VY,Wm,V.ren];by_cases e:up=i
  .subst e;simp[Cq]
  grind[en]
def St.mixC(σ:St)(id:Nat)(T:TypeId)(cs:na):St:=⟨σ.sl,obL [(id,WB (.cells T cs))] σ.ob,σ.av⟩
theorem St.oP{σ:St}{vs:nR}(ho:σ.ob id=WB (.mix T vs))(hc:vs=cs.map .pv):σ.le (σ.mixC id T cs):=by
 subst hc;refine St.vO λE=>⟨E.sl,λp hp=>?_⟩
 obtain rfl:=VH.1 hp;refine⟨_,_,ho,O,O,λb N _ ⟨arr,q1,q2,q3,q4⟩=>?_⟩;rw[IS]at q3 q4;exact⟨arr,q1,q2,q3,ZJ.toP q4⟩
def St.obC(σ:St)(id:Nat)(o:Ob):St:=⟨σ.sl,obL [(id,WB o)] σ.ob,σ.av⟩
theorem St.Qj{σ:St}{o o':Ob}(ho:σ.ob id=WB o)(E:o'.real=o.real)(h:∀w m av R b N,nJ w m av R b N o->nJ w m av R b N o'):σ.le (σ.obC id o'):=
 St.vO λG=>⟨G.sl,λp hp=>by
  obtain rfl:=VH.1 hp;exact⟨_,_,ho,O,E,λb N _=>h _ _ _ _ b N⟩⟩
theorem St.jN{σ:St}(id:Nat)(ho:σ.ob id=WB (.cells T cs)):σ.le (σ.obC id (.mix T (cs.map .pv))):=by
 refine St.Qj ho O λw m av R b N h=>?_
 obtain⟨arr,q1,q2,q3,q4⟩:=h;exact⟨arr,q1,q2,by rw[IS];exact q3,by rw[IS];exact ZJ.ofP q4⟩
def V.fgV:V->V
 | .pv (.sl _ n cs)=> .pv (.sl WC n cs)
 |v=>v
theorem Rel.fgV{av:Av}:∀{v:V}{u:Value},Rel w m av R v u->Rel w m av R v.fgV u:=by
 intro v u h;cases v with
 | pv p=>
   cases p with
   | sl nl n cs=>
     simp only[V.fgV,Rel,ZH]at h ⊢;obtain⟨A,c,e,h1,h2,_,_,h5⟩:=h;exact⟨A,c,e,h1,h2,λ_ h=>(by cases h),λh=>(by cases h),h5⟩
   |_=>exact h
 |_=>exact h
theorem ZJ.fgV{av:Av}:∀{vs:nR}{us:e7},ZJ w m av R vs us->ZJ w m av R (vs.map V.fgV) us
 |[],_,h=>h
 | v::vs,us,h=>by
   simp only[ZJ]at h;obtain⟨u,us',rfl,h1,h2⟩:=h;simp only[ed,ZJ];exact⟨u,us',O,h1.fgV,ZJ.fgV h2⟩
theorem St.PZ{σ:St}{vs:nR}(id:Nat)(ho:σ.ob id=WB (.mix T vs)):σ.le (σ.obC id (.mix T (vs.map V.fgV))):=by
 refine St.Qj ho O λw m av R b N h=>?_
 obtain⟨arr,q1,q2,q3,q4⟩:=h;exact⟨arr,q1,q2,by rw[IS];exact q3,by rw[IS];exact ZJ.fgV q4⟩
theorem jq{up:Nat}(nw:Nat)(h:ls.length<=up):V.renL (rnF up nw) (chV ls)=chV ls:=by
 have E:∀vs:nR,V.renL (rnF up nw) vs=vs.map (V.ren (rnF up nw)):=by
  intro vs;induction vs with
  |nil=>rfl
  |cons v vs ih=>rw[V.renL,ih,ed]
 rw[E];have:∀v∈chV ls,V.ren (rnF up nw) v=v:=λv hv=>by
  unfold chV at hv;obtain⟨q,hq,rfl⟩:=VS.1 hv;have:=(List.mem_zipIdx hq).2.1;simp only[V.ren];rw[en Zi]
 rw[V9 this];exact List.map_id' _
theorem KT(E:k<=1000)(G:1000<=i)(H:i<2000):avK k i=YK:=by unfold avK;rw[YH (show k<=i by omega),bltT (show i<big from by show i<9000;omega)];rfl
end


section
open Go.RowKit Go.MapKept
open Go.ChangeMaps (setBlock)
structure KeyOk(P:Program)(kt:TypeId)(kp:PV->Prop):Prop where
 und:∃d,P.underlying kt=WB d/\∀us y,Instr.sameNow d (.agg us) y=WC
 check:∀{w:World}{R:ew}{k:PV}{u:Value}(e:Bool),kp k->ZH w R k u->(Instr.checkKey e 10000 kt u).run P w= .ok () w
 ask:∀{w:World}{R:ew}{k x:PV}{u y:Value}{b:Bool},kp k->ZH w R k u->ZH w R x y->keq k x=WB b->(Op.equal kt u y).run P w= .ok b w
 agg:∀{k:PV},kp k->∃cs,k= .agg cs
section
variable {P:Program}{kt:TypeId}{kp:PV->Prop}{w:World}{R:ew}
theorem KeyOk.Qi(K:KeyOk P kt kp){k:PV}(E:kp k)(G:ZH w R k u):∀{ks:na}{es:List MapEntry}{i:Nat}{r:Option Nat},ZG w R ks (es.map (·.key))->bZ k ks i=WB r->
  match r with
  |none=>(Instr.findAsking kt u es i).run P w= .ok WC w
  |some j=>∃q e,j=i+q/\es[q]? =WB e/\(Instr.findAsking kt u es i).run P w= .ok (WB (j,e.val)) w
 |[],[],i,r,_,h=>by simp only[bZ,VM]at h;subst h;simp[Instr.findAsking]
 |[],_::_,_,_,h,_=>by simp[ZG]at h
 |x::ks,[],_,_,h,_=>by simp[ZG]at h
 | x::ks,e::es,i,r,h,hf=>by
   simp only[ed,ZG,Xd]at h;obtain⟨y,ys,⟨rfl,rfl⟩,h1,h2⟩:=h;simp only[bZ]at hf;split at hf
   .rename_i hb;cases hf;exact⟨0,e,O,O,by simp[Instr.findAsking,K.ask E G h1 hb,Result.andThen]⟩
   .rename_i hb;have ih:=K.Qi E G h2 hf;cases r with
    |none=>simpa[Instr.findAsking,K.ask E G h1 hb,Result.andThen]using ih
    | some j=>
      obtain⟨q,e',hj,he,hfn⟩:=ih;exact⟨q+1,e',Zi,by simpa using he,by simpa[Instr.findAsking,K.ask E G h1 hb,Result.andThen]using hfn⟩
   cases hf
theorem KeyOk.find(K:KeyOk P kt kp){k:PV}(M:kp k)(G:ZH w R k u)(h:ZG w R ks (es.map (·.key)))(H:bZ k ks 0=WB r):
  match r with
  |none=>(Instr.findKey kt u es).run P w= .ok WC w
  |some j=>∃e,es[j]? =WB e/\(Instr.findKey kt u es).run P w= .ok (WB (j,e.val)) w:=by
 obtain⟨d,hd,hs⟩:=K.und;obtain⟨cs,rfl⟩:=K.agg M;have E:=G;simp only[ZH]at G;obtain⟨us,rfl,_⟩:=G;have I:=K.Qi (i:=0) M E h H;cases es with
 | nil=>
   cases ks with
   |nil=>simp only[bZ,VM]at H;subst H;simp[Instr.findKey,run_underlying hd,Result.andThen,Instr.findNow]
   |cons _ _=>simp[ZG]at h
 | cons e es=>
   have L:Instr.findNow d (.agg us.toArray) (e::es) 0=WC:=by simp[Instr.findNow,hs]
   cases r with
   |none=>simpa[Instr.findKey,run_underlying hd,Result.andThen,L]using I
   | some j=>
     obtain⟨q,e',hj,he,hfn⟩:=I;have:j=q:=Zi;subst this;exact⟨e',he,by simpa[Instr.findKey,run_underlying hd,Result.andThen,L]using hfn⟩
end
section
variable {C:Ctx}{n:Nat}{σ:St}{a:Act}{w:World}{m:Gm}{R:ew}{x y z:Operand}{dst:YX}{ty t kt et tk:TypeId}{pos:String}{after:Y4}{gd:Option (Nat×Bool)}{ks vs:na}{kp:PV->Prop}
theorem za(Y:SW C n σ a w m R)(K:KeyOk C.P kt kp){r:Option PV}(U:C.P.underlying t=WB (.map kt et))(M:kp key)(Z:pE n σ x ks vs)(hy:σ.ev n y= .pv key)(V:(C.P.info? et).map (·.zero)=WB (WB zv))(X:ofC zv=zp)(hl:lP key ks vs=WB r)(ok:Bool):
  ∃u,ZH w R (r.getD zp) u/\(Instr.lookup t (a.eval x) (a.eval y) ok).run C.P w= .ok (if ok then .tuple #[u,.bool r.isSome]else u) w:=by
 have E:=Y.pv hy;have I:(zeroValue et).run C.P w= .ok zv w:=by
  cases hq:C.P.info? et with
  |none=>simp[hq]at V
  |some i=>simp[hq]at V;simp[zeroValue,typeInfo,hq,V]
 have G:ZH w R zp zv:=X▸Br w R zv;have H:=λe=>K.check (w:=w) (R:=R) e M E
 rcases Z.at Y with⟨b,es,clock,ps,qs,e,hb,q2,q3,_,hsw⟩|⟨e,rfl,rfl⟩
 .obtain⟨f,L,hr⟩:=uN hl;obtain⟨f',hf',hr'⟩:=hsw L hr;cases f' with
  | none=>
    simp only[re,VM]at hr';subst hr';have:=K.find M E q2 hf';simp only at this;refine⟨zv,G,?_⟩;simp[Instr.lookup,e,run_underlying U,run_map hb,H,this,I,Result.andThen]
  | some j=>
    obtain⟨e',he,hfn⟩:=K.find M E q2 hf';simp only[re]at hr';cases hv:qs[j]? with
    |none=>rw[hv]at hr';cases hr'
    | some p=>
      rw[hv]at hr';simp at hr';subst hr';refine⟨e'.val,ZG.at q3 hv (by simp[he]),?_⟩;simp[Instr.lookup,e,run_underlying U,run_map hb,H,hfn,Result.andThen]
 simp only[lP,bZ,VM]at hl;subst hl;refine⟨zv,G,?_⟩;have L:=K.find (es:=[]) (r:=WC) M E (ks:=[]) (by simp[ZG]) (by simp only[bZ]);simp only at L;simp[Instr.lookup,e,run_underlying U,H,L,I,Result.andThen]
theorem dI{r:Option PV}{b:Bool}(K:KeyOk C.P kt kp)(G:C.P.underlying t=WB (.map kt et))(H:pE n σ x ks vs)(I:σ.ev n y= .pv key)(L:kp key)(M:(C.P.info? et).map (·.zero)=WB (WB zv))(E:ofC zv=zp)(hl:lP key ks vs=WB r)(U:r.getD zp=p)(V:r.isSome=b):
  XJ C n ⟨dst,.lookup t x y YK,ty,pos,after,gd⟩ σ ⟨.pv (.bS [p,.bool b]),[],[]⟩:=
 .val λa w m R hw=>by
  obtain⟨u,hr,hrun⟩:=za hw K G L H I M E hl YK;subst U V;refine⟨_,by simp only[execOp,Sem.run_bind,hrun,Result.andThen_ok];rfl,?_⟩;simp only[Rel,ZH];exact⟨[u,.bool r.isSome],O,ZG.cons hr (ZG.cons (by simp only[ZH]) ZG.nil)⟩
theorem rW{r:Option PV}(K:KeyOk C.P kt kp)(G:C.P.underlying t=WB (.map kt et))(H:pE n σ x ks vs)(I:σ.ev n y= .pv key)(L:kp key)(M:(C.P.info? et).map (·.zero)=WB (WB zv))(E:ofC zv=zp)(hl:lP key ks vs=WB r)(U:r.getD zp=p):
  XJ C n ⟨dst,.lookup t x y YL,ty,pos,after,gd⟩ σ ⟨.pv p,[],[]⟩:=
 .val λa w m R hw=>by
  obtain⟨u,hr,hrun⟩:=za hw K G L H I M E hl YL;subst U;exact⟨u,by simp only[execOp,Sem.run_bind,hrun,Result.andThen_ok];rfl,by simpa only[Rel]using hr⟩
theorem br{ks' vs':na}(K:KeyOk C.P kt kp)(ht:C.P.underlying t=WB (.map kt et))(Z:σ.ev n x= .map id)(ho:σ.ob id=WB (.mp ks vs))(hy:σ.ev n y= .pv key)(hz:σ.ev n z= .pv v)(hd:kp key)(Y:bZ key ks 0=WB r)
  (ag:pK key ks=ks') (ah:pN key v ks vs=vs'):XJ C n ⟨WC,.mapUpdate t x y z,ty,pos,after,gd⟩ σ ⟨.pv .any,[(id,WB (.mp ks' vs'))],[]⟩:=by
 rintro a w Q ⟨m,R,hw⟩;obtain⟨b,N,hm,es,clock,hb,q2,q3,q4⟩:=hw.live ho;have M:=hw.ev x;rw[Z]at M;simp only[Rel]at M;have Z:=M.2 b N hm;have E:=hw.pv hy;have L:=hw.pv hz;have aa:=λe=>K.check (w:=w) (R:=R) e hd E
 have ai:b<w.heap.size:=(VP.1 hb).1;have ab:∀(es':Array MapEntry)(clock':Nat),(Instr.mapUpdate t (a.eval x) (a.eval y) (a.eval z)).run C.P w= .ok () { w with heap:=w.heap.setIfInBounds b (.map es' clock') }->
   ZG w R ks' (es'.toList.map (·.key))->ZG w R vs' (es'.toList.map (·.val))->dY es'.toList clock'->Oper.wp C.P ⟨WC,.mapUpdate t x y z,ty,pos,after,gd⟩ a w (λa' w'=>∃σ',σ'=σ.app WC ⟨.pv .any,[(id,WB (.mp ks' vs'))],[]⟩/\SJ C n σ' a' w') Q:=by
  intro es' clock' hrun h1 h2 h3;unfold Oper.wp;have U:(execOp a.eval ⟨WC,.mapUpdate t x y z,ty,pos,after,gd⟩).run C.P w= .ok .skip { w with heap:=w.heap.setIfInBounds b (.map es' clock') }:=by
   simp only[execOp,Sem.run_bind,hrun,Result.andThen_ok,Sem.run_pure]
  rw[U];refine⟨_,O,m,R,hw.turn hm { w with heap:=w.heap.setIfInBounds b (.map es' clock') } Zm (λk hk=>by simp only;rw[Xq (λe=>hk e.symm)]) O O O (.mp ks' vs') λhR=>?_⟩;exact⟨es',clock',by simp only;rw[XR];simp[ai],h1.mono hR,h2.mono hR,h3⟩
 cases r with
 | none=>
   have I:=K.find hd E q2 Y;simp only at I;refine ab (es.push ⟨a.eval y,a.eval z,clock⟩) (clock+1) ?_ ?_ ?_ ?_
   .simp[Instr.mapUpdate,Z,run_underlying ht,run_map hb,aa,I,fP _ hb,Result.andThen]
   .rw[<-ag];simp only[pK,Y,YN,Wf,ed,Wd];exact q2.append (ZG.cons E ZG.nil)
   .rw[<-ah];simp only[pN,Y,YN,Wf,ed,Wd];exact q3.append (ZG.cons L ZG.nil)
   simp only[dY,YN,Wf,ed,Wd];refine⟨XL.2 ⟨q4.1,Zm,λx Z y hy e=>?_⟩,λe he=>?_⟩
   .obtain⟨e',he',rfl⟩:=VS.1 Z;have:=q4.2 e' he';simp at hy;omega
   rcases We.1 he with h|h
   .exact Nat.lt_succ_of_lt (q4.2 e h)
   grind
 | some j=>
   obtain⟨e',he,I⟩:=K.find hd E q2 Y;obtain⟨q',x',hj',hx',hkq⟩:=qd Y;simp only[Wm]at hj';subst hj';have ac:=ZG.at q2 hx' (by simp[he]:(es.toList.map (·.key))[j]? =WB e'.key);have V:=Cx hkq E ac;have X:j<es.size:=(VR.1 he).1 |> λh=>by simpa using h
   have ad:es[j]? =WB e':=by simpa using he
   have af:es[j]=e':=by have:=Array.getElem?_eq_getElem X;rw[ad]at this;exact(Xl this).symm
   have G:(es.modify j λe=>{ e with key:=a.eval y,val:=a.eval z }).toList=es.toList.set j ⟨a.eval y,a.eval z,e'.born⟩:=by
    apply Ys;intro i;rw[Array.getElem?_toList,YG,YI];by_cases e:j=i
    .subst e;simp[X,af]
    simp[e]
   refine ab (es.modify j λe=>{ e with key:=a.eval y,val:=a.eval z }) clock ?_ ?_ ?_ ?_
   .simp[Instr.mapUpdate,Z,run_underlying ht,run_map hb,aa,I,fP _ hb,Result.andThen,Instr.keyThatStays,ad,V.2]
   .rw[G,<-ag];simp only[pK,Y,Wp];exact q2.set j E
   .rw[G,<-ah];simp only[pN,Y,Wp];exact q3.set j L
   rw[G];have H:(es.toList.set j ⟨a.eval y,a.eval z,e'.born⟩).map (·.born)=es.toList.map (·.born):=by
    rw[Wp];apply Ys;intro i;rw[YI];by_cases e:j=i
    .subst e;simp[X,af]
    simp[e]
   refine⟨by rw[H];exact q4.1,λe hm=>?_⟩;have:e.born∈es.toList.map (·.born):=by rw[<-H];exact VS.2 ⟨e,hm,O⟩
   obtain⟨e2,h2,h3⟩:=VS.1 this;rw[<-h3];exact q4.2 e2 h2
def s9(k:PV)(ks l:na):na:=match bZ k ks 0 with
 |some (WB j)=>l.eraseIdx j
 |_=>l
theorem ZG.eraseIdx:∀{ps:na}{us:e7}(j:Nat),ZG w R ps us->ZG w R (ps.eraseIdx j) (us.eraseIdx j)
 |[],_,_,h=>by simp only[ZG]at h;subst h;simp[ZG]
 |p::ps,_,0,h=>by simp only[ZG]at h;obtain⟨u,vs,rfl,_,h2⟩:=h;simpa using h2
 | p::ps,_,j+1,h=>by
   simp only[ZG]at h;obtain⟨u,vs,rfl,h1,h2⟩:=h;simpa using ZG.cons h1 (ZG.eraseIdx j h2)
theorem kB{ks' vs':na}(K:KeyOk C.P kt kp)(ht:C.P.underlying t=WB (.map kt et))(V:σ.ev n x= .map id)(ho:σ.ob id=WB (.mp ks vs))(hy:σ.ev n y= .pv key)(Z:kp key)(X:bZ key ks 0=WB r)
  (aa:s9 key ks ks=ks') (ab:s9 key ks vs=vs'):XJ C n ⟨dst,.call { callee:= .builtin .delete,args:= #[x,y],argTypes:= #[t,tk] },ty,pos,after,gd⟩ σ ⟨.pv (.bS []),[(id,WB (.mp ks' vs'))],[]⟩:=by
 rintro a w Q ⟨m,R,hw⟩;obtain⟨b,N,hm,es,clock,hb,q2,q3,q4⟩:=hw.live ho;have H:=hw.ev x;rw[V]at H;simp only[Rel]at H;have V:=H.2 b N hm;have E:=hw.pv hy;have M:=λe=>K.check (w:=w) (R:=R) e Z E
 have Y:b<w.heap.size:=(VP.1 hb).1;have U:∀es':Array MapEntry,(Builtin.delete_ #[t,tk] ty #[a.eval x,a.eval y]).run C.P w= .ok (.tuple #[]) { w with heap:=w.heap.setIfInBounds b (.map es' clock) }->
   ZG w R ks' (es'.toList.map (·.key))->ZG w R vs' (es'.toList.map (·.val))->dY es'.toList clock->Oper.wp C.P ⟨dst,.call { callee:= .builtin .delete,args:= #[x,y],argTypes:= #[t,tk] },ty,pos,after,gd⟩ a w (λa' w'=>∃σ',σ'=σ.app dst ⟨.pv (.bS []),[(id,WB (.mp ks' vs'))],[]⟩/\SJ C n σ' a' w') Q:=by
  intro es' hrun h1 h2 h3;unfold Oper.wp;have I:(execOp a.eval ⟨dst,.call { callee:= .builtin .delete,args:= #[x,y],argTypes:= #[t,tk] },ty,pos,after,gd⟩).run C.P w= .ok (.value (.tuple #[])) { w with heap:=w.heap.setIfInBounds b (.map es' clock) }:=by
   simp only[execOp,resolve,invoke,builtin,Sem.run_bind,Sem.run_pure,Result.andThen_ok,Yj,ed,Wd,hrun]
  rw[I];refine⟨_,O,m,R,?_⟩;rw[Vu];refine SW.put (hw.turn hm { w with heap:=w.heap.setIfInBounds b (.map es' clock) } Zm (λk hk=>by simp only;rw[Xq (λe=>hk e.symm)]) O O O (.mp ks' vs') λhR=>?_) dst ?_
  .exact⟨es',clock,by simp only;rw[XR];simp[Y],h1.mono hR,h2.mono hR,h3⟩
  simp only[Rel,ZH];exact⟨[],O,ZG.nil⟩
 cases r with
 | none=>
   have G:=K.find Z E q2 X;simp only at G;refine U es ?_ ?_ ?_ q4
   .simp[Builtin.delete_,V,run_underlying ht,run_map hb,M,G,fP _ hb,Result.andThen]
   .grind[s9]
   grind[s9]
 | some j=>
   obtain⟨e',he,G⟩:=K.find Z E q2 X;have hjl:j<es.size:=(VR.1 he).1 |> λh=>by simpa using h
   have L:(es.eraseIdxIfInBounds j).toList=es.toList.eraseIdx j:=by simp_all
   refine U (es.eraseIdxIfInBounds j) ?_ ?_ ?_ ?_
   .simp[Builtin.delete_,V,run_underlying ht,run_map hb,M,G,fP _ hb,Result.andThen]
   .rw[<-aa,L,Go.ChangeMaps.map_eraseIdx];simp only[s9,X];exact q2.eraseIdx j
   .rw[<-ab,L,Go.ChangeMaps.map_eraseIdx];simp only[s9,X];exact q3.eraseIdx j
   rw[L];exact⟨((List.eraseIdx_sublist _ _).map _).nodup q4.1,λe hm=>q4.2 e ((List.eraseIdx_sublist _ _).subset hm)⟩
def gE(cur ks vs:na)(b:Bool)(rest cur' ks' vs':na):Prop:=
 (b=YL/\ks=[]/\rest=[]/\cur'=cur/\ks'=ks/\vs'=vs)\/
 (b=YK/\∃i k v,ks[i]? =WB k/\vs[i]? =WB v/\rest=[k,v]/\cur'=[k,v]/\ks'=ks.eraseIdx i/\vs'=vs.eraseIdx i)
theorem gE.of{α:Type}{f g:α->PV}{l:List α}{b:Bool}{rest cur' ks' vs':na}(h:gE cur (l.map f) (l.map g) b rest cur' ks' vs'):
  (b=YL/\l=[]/\rest=[]/\cur'=cur/\ks'=l.map f/\vs'=l.map g)\/(b=YK/\∃l1 x l2,l=l1++x::l2/\rest=[f x,g x]/\cur'=[f x,g x]/\ks'=(l1++l2).map f/\vs'=(l1++l2).map g):=by
 rcases h with⟨h1,h2,h3,h4,h5,h6⟩|⟨h1,i,k,v,h2,h3,h4,h5,h6,h7⟩
 .simp_all
 refine .inr ⟨h1,?_⟩;rw[Xw]at h2 h3;cases hx:l[i]? with
 |none=>rw[hx]at h2;cases h2
 | some x=>
   rw[hx]at h2 h3;simp only[Yf,VM]at h2 h3;subst h2 h3;obtain⟨hi,rfl⟩:=VR.1 hx;have E:l.eraseIdx i=l.take i++l.drop (i+1):=List.eraseIdx_eq_take_drop_succ l i;exact⟨l.take i,l[i],l.drop (i+1),by rw[<-V1 hi,WV],h4,h5,by rw[h6,<-Go.ChangeMaps.map_eraseIdx,E],by rw[h7,<-Go.ChangeMaps.map_eraseIdx,E]⟩
theorem fo(id:Nat)(L:C.P.underlying t=WB (.map kt et))(M:σ.ev n x= .pv (.mp ks vs))(I:σ.av id=YK):XJ C n ⟨dst,.range t x,ty,pos,after,gd⟩ σ ⟨.ptr id 0,[(id,WB (.mi [] ks vs))],[id]⟩:=by
 rintro a w Q ⟨m,R,hw⟩;have G:=hw.pv M;simp only[ZH]at G;obtain⟨mb,G,hRm,es,clock,l,hb,q2,q3,q4,q5⟩:=G;unfold Oper.wp;have E:(execOp a.eval ⟨dst,.range t x,ty,pos,after,gd⟩).run C.P w= .ok (.value (.pointer (WB ⟨w.heap.size,0,WC⟩))) (w.alloc (.mapIter (WB mb) clock #[] clock)):=by
  simp only[execOp,G,Sem.run_bind,run_range_map w t kt et mb es clock L hb,Result.andThen_ok];rfl
 rw[E];refine⟨_,O,upd m id (WB (w.heap.size,0)),R,?_⟩;rw[Vu];refine SW.put (hw.PM I (.mapIter (WB mb) clock #[] clock) 0 (.mi [] ks vs) ?_) dst ?_
 .intro w' m' av' hR hb';have H:(es.toList.filter λe=> !(#[]:Array Nat).contains e.born)=es.toList:=Yw.2 λe _=>by simp
  exact⟨mb,es,clock, #[],l,hRm,(hR _ hRm).2.trans hb,q4,hb',by rw[H];exact q5,q2.mono hR,q3.mono hR,.inl O⟩
 simp only[Rel];refine⟨by simp[avL],λb N e=>?_⟩;rw[aA]at e;cases e;rfl
theorem lF{e:MapEntry}:∀{l:List MapEntry}{i:Nat},(l.map (·.born)).Nodup->l[i]? =WB e->l.filter (λx=> !(x.born==e.born))=l.eraseIdx i
 |[],_,_,h=>by simp at h
 |x::l,0,hn,h=>by simp_all
 | x::l,i+1,hn,h=>by
   simp only[List.getElem?_cons_succ]at h;simp only[ed,WW,VS,not_exists,not_and]at hn;have hne:x.born≠e.born:=λE=>hn.1 e (W8 h) E.symm
   simp only[WL,List.eraseIdx_cons_succ];rw[IT (by simpa using hne),lF hn.2 h]
theorem gH{ks vs:na}{K:ZA}(hx:σ.ev n x= .ptr id 0)(ho:σ.ob id=WB (.mi cur ks vs))
  (X:∀b rest cur' ks' vs',gE cur ks vs b rest cur' ks' vs'->K (σ.app dst ⟨.pv (.bS (.bool b::rest)),[(id,WB (.mi cur' ks' vs'))],[]⟩)):
  OJ C n ⟨dst,.next x YL,ty,pos,after,gd⟩ K σ:=by
 rintro a w Q ⟨m,R,hw⟩;obtain⟨r,N,hm,mb,es,clock,seen,l,hRm,hb,hst,hr,q0,q5,q6,q7⟩:=hw.live ho;have H:=hw.ev x;rw[hx]at H;simp only[Rel]at H;have L:=H.2 r N hm;have Y:(leftOf es seen).toList=es.toList.filter λe=> !seen.contains e.born:=by unfold leftOf;simp
 unfold Oper.wp;rcases Go.run_next_at (P:=C.P) w ty r mb clock clock seen es clock hr hb hst.2 (BY _)with⟨h0,hrun⟩|⟨e,he,w1,hal,hrun⟩
 .have hrun':(execOp a.eval ⟨dst,.next x YL,ty,pos,after,gd⟩).run C.P w= .ok (.value (.tuple #[.bool YL])) w:=by
   simp only[execOp,L,Sem.run_bind,hrun,Result.andThen_ok];rfl
  rw[hrun'];have Z:(es.toList.filter λe=> !seen.contains e.born)=[]:=by grind
  have aa:l=[]:=by rw[Z]at q0;exact List.Perm.eq_nil q0
  have ab:ks=[]:=by
   rw[aa]at q5;have:=q5.length;simp only[Wd,XS]at this;exact XY.1 this.symm
  refine⟨_,X YL [] cur ks vs (.inl ⟨O,ab,O,O,O,O⟩),m,R,?_⟩;rw[Vu];refine SW.put (hw.turn hm w O (λ_ _=>rfl) O O O (.mi cur ks vs) λG=>?_) dst ?_
  .exact⟨mb,es,clock,seen,l,hRm,hb,hst,hr,q0,q5,q6,q7⟩
  grind[Rel,ZH,bool,ZG]
 have hrun':(execOp a.eval ⟨dst,.next x YL,ty,pos,after,gd⟩).run C.P w= .ok (.value (.tuple #[.bool YK,e.key,e.val])) (setBlock w1 r (.mapIter (WB mb) clock (seen.push e.born) clock)):=by
  simp only[execOp,L,Sem.run_bind,hrun,Result.andThen_ok];rfl
 rw[hrun'];rw[Y]at he;have ac:e∈l:=q0.mem_iff.2 he;obtain⟨i,hi⟩:=WO ac;have ad:e∈es.toList:=(VU.1 he).1;have M:=q5.length;have I:=q6.length;simp only[IS]at M I;have am:i<l.length:=(VR.1 hi).1;obtain⟨k,hkk⟩:∃k,ks[i]? =WB k:=⟨ks[i]'Zi,AT _⟩;obtain⟨v,hvv⟩:∃v,vs[i]? =WB v:=⟨vs[i]'Zi,AT _⟩;have U:=ZG.at q5 hkk (by rw[Xw,hi];rfl);have V:=ZG.at q6 hvv (by rw[Xw,hi];rfl);have af:((es.toList.filter λe=> !seen.contains e.born).map (·.born)).Nodup:=(WN.map _).nodup hst.1;have ag:(l.map (·.born)).Nodup:=(q0.map _).nodup_iff.2 af;have ah:(l.eraseIdx i).Perm (es.toList.filter λx=> !(seen.push e.born).contains x.born):=by
  have E:(es.toList.filter λx=> !(seen.push e.born).contains x.born)=(es.toList.filter λe=> !seen.contains e.born).filter (λx=> !(x.born==e.born)):=by grind[List.filter_filter,YW]
  rw[E,<-lF ag hi];exact q0.filter _
 have ai:r<w.heap.size:=(VP.1 hr).1;have an:r≠mb:=λe=>by rw[e,hb]at hr;cases hr
 refine⟨_,X YK [k,v] [k,v] (ks.eraseIdx i) (vs.eraseIdx i) (.inr ⟨O,i,k,v,hkk,hvv,O,O,O,O⟩),m,R,?_⟩;rw[Vu];have E:w1.heap=w.heap/\w1.os=w.os/\w1.tape=w.tape/\w1.output=w.output:=by rcases hal with rfl|rfl<;>exact⟨O,O,O,O⟩
 refine SW.put (hw.turn hm (setBlock w1 r (.mapIter (WB mb) clock (seen.push e.born) clock)) (by simp[setBlock,E.1]) (λk X=>by simp only[setBlock,E.1];rw[Xq (λe=>X e.symm)]) E.2.1 E.2.2.1 E.2.2.2 (.mi [k,v] (ks.eraseIdx i) (vs.eraseIdx i)) λG=>?_) dst ?_
 .refine⟨mb,es,clock,seen.push e.born,l.eraseIdx i,hRm,(G _ hRm).2.trans hb,hst,?_,ah,?_,?_,.inr ⟨e,ad,Zm,?_⟩⟩
  .show(w1.heap.setIfInBounds r _)[r]? =_;rw[E.1,XR];simp[ai]
  .rw[Go.ChangeMaps.map_eraseIdx];exact(q5.eraseIdx i).mono G
  .rw[Go.ChangeMaps.map_eraseIdx];exact(q6.eraseIdx i).mono G
  exact ZG.cons (U.mono G) (ZG.cons (V.mono G) ZG.nil)
 have G:∀b,R b->R b/\(setBlock w1 r (.mapIter (WB mb) clock (seen.push e.born) clock)).heap[b]? =w.heap[b]? :=λb hb'=>⟨hb',by
  have al:b≠r:=λe=>(hw.hr.own id r N hm).2.1 (e▸hb')
  simp only[setBlock,E.1];rw[Xq (λe=>al e.symm)]⟩
 simp only[Rel,ZH];exact⟨[.bool YK,e.key,e.val],O,ZG.cons (by simp only[ZH]) (ZG.cons (U.mono G) (ZG.cons (V.mono G) ZG.nil))⟩
theorem fe{k:PV}(L:σ.ev n x= .ptr id 0)(ho:σ.ob id=WB (.mi [k,v] ks vs)):
  XJ C n ⟨dst,.entry x,ty,pos,after,gd⟩ σ ⟨.pv (.bS [k,v]),[],[]⟩:=
 .val λa w m R hw=>by
  obtain⟨r,N,hm,mb,es,clock,seen,l,hRm,hb,hst,hr,q0,q5,q6,q7⟩:=hw.live ho;have E:=hw.ev x;rw[L]at E;simp only[Rel]at E;have H:=E.2 r N hm;obtain⟨e,hem,hback,hrel⟩:=q7.resolve_left Zm;have I:es.find? (·.born==e.born)=WB e:=by rw[<-Array.find?_toList];exact find_born e es.toList hst.1 hem
  have G:(Instr.entry (.pointer (WB ⟨r,0,WC⟩))).run C.P w= .ok (.tuple #[e.key,e.val]) w:=by
   simp only[Instr.entry,getObj,Sem.run_bind,Sem.run,hr,hb,Result.andThen,hback,bne_self_eq_false,Wj,Yd,I];rfl
  simp only[ZG]at hrel;obtain⟨u1,us1,e1,h1,u2,us2,e2,h2,e3⟩:=hrel;subst e2 e3;simp only[Xd,and_true]at e1;obtain⟨rfl,rfl⟩:=e1;refine⟨.tuple #[e.key,e.val],by simp only[execOp,H,Sem.run_bind,G,Result.andThen_ok];rfl,?_⟩;simp only[Rel,ZH];exact⟨[e.key,e.val],O,ZG.cons h1 (ZG.cons h2 ZG.nil)⟩
end
mutual
def V.mpV(id:Nat)(p:PV):V->V
 | .map i=>bif Nat.beq i id then .pv p else .map i
 | .agg vs=> .agg (V.mpL id p vs)
 | .bS vs=> .bS (V.mpL id p vs)
 | .fn f a b=> .fn f (V.mpL id p a) (V.mpL id p b)
 | .pv q=> .pv q
 | .ptr i o=> .ptr i o
 | .bJ i s k=> .bJ i s k
 | .tsl i s k=> .tsl i s k
 | .bz i s k=> .bz i s k
def V.mpL(id:Nat)(p:PV):nR->nR
 |[]=>[]
 |v::vs=>V.mpV id p v::V.mpL id p vs
end
def Ob.mpO(id:Nat)(p:PV):Ob->Ob
 | .mix t vs=> .mix t (V.mpL id p vs)
 | .cells t c=> .cells t c
 | .bD t c=> .bD t c
 | .mp ks vs=> .mp ks vs
 | .it s q=> .it s q
 | .fro s q=> .fro s q
 | .mi c ks vs=> .mi c ks vs
theorem Ob.OO(id:Nat)(p:PV):∀o:Ob,(o.mpO id p).real=o.real
 | .cells _ _=>rfl
 | .mix _ _=>rfl
 | .bD _ []=>rfl
 | .bD _ (_::_)=>rfl
 | .mp _ _=>rfl
 | .it _ _=>rfl
 | .fro _ _=>rfl
 | .mi _ _ _=>rfl
theorem NA(id:Nat)(p:PV):∀o:va,cC (o.map (Ob.mpO id p))=cC o
 |none=>rfl
 |some o=>Ob.OO id p o
def St.pubM(σ:St)(id:Nat)(p:PV):St:=⟨λt=>V.mpV id p (σ.sl t),λi=>bif Nat.beq i id then WC else(σ.ob i).map (Ob.mpO id p),σ.av⟩
section
variable {w:World}{m m':Gm}{av:Av}{R R':ew}
theorem nM(id:Nat)(p:PV):∀vs:nR,(V.mpL id p vs).length=vs.length
 |[]=>rfl
 |_::vs=>by simp[V.mpL,nM id p vs]
mutual
theorem Rel.mpV(E:∀b,R b->R' b/\w.heap[b]? =w.heap[b]?)(G:∀i x,m' i=WB x->m i=WB x)(H:∀u,Rel w m av R (.map id) u->ZH w R' p u):
  ∀(v:V)(u:Value),Rel w m av R v u->Rel w m' av R' (V.mpV id p v) u
 | .map i,u,h=>by
   simp only[V.mpV];cases hb:Nat.beq i id with
   |true=>have:=bN hb;subst this;simp only[Xe,Rel];exact H u h
   |false=>simp only[Wo];exact h.mono E (λi x _ e=>G i x e) (λ_ e=>e)
 | .agg vs,u,h=>by
   simp only[Rel,V.mpV]at h ⊢;obtain⟨us,e,h⟩:=h;exact⟨us,e,ZJ.mpL E G H vs us h⟩
 | .bS vs,u,h=>by
   simp only[Rel,V.mpV]at h ⊢;obtain⟨us,e,h⟩:=h;exact⟨us,e,ZJ.mpL E G H vs us h⟩
 | .fn f a b,u,h=>by
   simp only[Rel,V.mpV]at h ⊢;obtain⟨us,vs,e,ha,hb⟩:=h;exact⟨us,vs,e,ZJ.mpL E G H a us ha,ZJ.mpL E G H b vs hb⟩
 | .pv q,u,h=>by simp only[V.mpV];exact h.mono E (λi x _ e=>G i x e) (λ_ e=>e)
 | .ptr i o,u,h=>by simp only[V.mpV];exact h.mono E (λi x _ e=>G i x e) (λ_ e=>e)
 | .bJ i s k,u,h=>by simp only[V.mpV];exact h.mono E (λi x _ e=>G i x e) (λ_ e=>e)
 | .tsl i s k,u,h=>by simp only[V.mpV];exact h.mono E (λi x _ e=>G i x e) (λ_ e=>e)
 | .bz i s k,u,h=>by simp only[V.mpV];exact h.mono E (λi x _ e=>G i x e) (λ_ e=>e)
theorem ZJ.mpL(E:∀b,R b->R' b/\w.heap[b]? =w.heap[b]?)(G:∀i x,m' i=WB x->m i=WB x)(H:∀u,Rel w m av R (.map id) u->ZH w R' p u):
  ∀(vs:nR)(us:e7),ZJ w m av R vs us->ZJ w m' av R' (V.mpL id p vs) us
 |[],_,h=>by simpa only[ZJ,V.mpL]using h
 | c::vs,_,h=>by
   simp only[ZJ,V.mpL]at h ⊢;obtain⟨u,us,e,ha,hb⟩:=h;exact⟨u,us,e,Rel.mpV E G H c u ha,ZJ.mpL E G H vs us hb⟩
end
end
theorem Bl{vs:na}(hl:ks.length=vs.length)(E:ZG w R ps (es.map (·.key)))(G:ZG w R qs (es.map (·.val)))(U:(ps.zip qs).Perm (ks.zip vs)):∃l:List MapEntry,l.Perm es/\ZG w R ks (l.map (·.key))/\ZG w R vs (l.map (·.val)):=by
 generalize hA:ps.zip qs=A at U;generalize hB:ks.zip vs=B at U;have H:ps=A.map (·.1):=by rw[<-hA,Y8];have:=E.length;have:=G.length;simp at *; omega
 have I:qs=A.map (·.2):=by rw[<-hA,List.map_snd_zip];have:=E.length;have:=G.length;simp at *; omega
 have L:ks=B.map (·.1):=by rw[<-hB,Y8 (Xz hl)]
 have M:vs=B.map (·.2):=by rw[<-hB,List.map_snd_zip (Xz hl.symm)]
 rw[L,M];rw[H]at E;rw[I]at G;clear hA hB H I L M hl;induction U generalizing es with
 |nil=>exact⟨es,WH _,E,G⟩
 | cons a _ ih=>
   cases es with
   |nil=>simp[ZG]at E
   | cons e es=>
     simp only[ed,ZG,Xd]at E G;obtain⟨_,_,⟨rfl,rfl⟩,a1,a2⟩:=E;obtain⟨_,_,⟨rfl,rfl⟩,b1,b2⟩:=G;obtain⟨l,c1,c2,c3⟩:=ih b2 a2;exact⟨e::l,List.Perm.cons _ c1,ZG.cons a1 c2,ZG.cons b1 c3⟩
 | swap a b A=>
   cases es with
   |nil=>simp[ZG]at E
   | cons e es=>
     cases es with
     | nil=>
       simp only[ed,Wd,ZG,Xd]at E;obtain⟨_,_,⟨_,rfl⟩,_,_,_,h,_⟩:=E;cases h
     | cons e' es=>
       simp only[ed,ZG,Xd]at E G;obtain⟨_,_,⟨rfl,rfl⟩,a1,_,_,⟨rfl,rfl⟩,a2,a3⟩:=E;obtain⟨_,_,⟨rfl,rfl⟩,b1,_,_,⟨rfl,rfl⟩,b2,b3⟩:=G;exact⟨e'::e::es,List.Perm.swap _ _ _,ZG.cons a2 (ZG.cons a1 a3),ZG.cons b2 (ZG.cons b1 b3)⟩
 | trans _ _ ih1 ih2=>
   obtain⟨l1,c1,c2,c3⟩:=ih1 G E;obtain⟨l2,d1,d2,d3⟩:=ih2 c3 c2;exact⟨l2,d1.trans c1,d2,d3⟩
theorem St.dZ{σ:St}{vs:na}(id:Nat)(ho:σ.ob id=WB (.mp ps qs))(hl:ks.length=vs.length)(Y:(ps.zip qs).Perm (ks.zip vs)):σ.le (σ.pubM id (.mp ks vs)):=by
 rintro C n a w ⟨m,R,hw⟩;have U:=hw.drop id;have E:∀i x,upd m id WC i=WB x->m i=WB x/\i≠id:=λi x e=>by grind[aA,a7]
 let R':ew:=λq=>R q\/∃N,m id=WB (q,N)
 have G:∀b,R b->R' b/\w.heap[b]? =w.heap[b]? :=λb hb=>⟨.inl hb,O⟩
 obtain⟨b0,N0,hm0,es,clock,q1,q2,q3,q4⟩:=hw.live ho;have X:∀u,Rel w m σ.av R (.map id) u->ZH w R' (.mp ks vs) u:=by
  intro u h;simp only[Rel]at h;have:=h.2 b0 N0 hm0;simp only[ZH];obtain⟨l,c1,c2,c3⟩:=Bl hl q2 q3 Y;exact⟨b0,this,.inr ⟨N0,hm0⟩,es,clock,l,q1,c2.mono G,c3.mono G,q4,c1⟩
 have H:∀i x,upd m id WC i=WB x->m i=WB x:=λi x e=>(E i x e).1
 have V:∀i,(σ.pubM id (.mp ks vs)).ob i=bif Nat.beq i id then WC else(σ.ob i).map (Ob.mpO id (.mp ks vs)):=λ_=>rfl
 have M:(σ.pubM id (.mp ks vs)).ob id=WC:=by rw[V];simp
 have I:∀i,i≠id->(σ.pubM id (.mp ks vs)).ob i=(σ.ob i).map (Ob.mpO id (.mp ks vs)):=λi hi=>by grind[Nat.beq,bN]
 refine⟨upd m id WC,R',⟨?_,?_,?_,U.hr.inj,?_,?_,?_,λq hq=> .inl (hw.hr.r0 q hq),hw.hr.frame,U.hr.keep,U.hr.res⟩,hw.df,hw.sz,?_⟩
 .intro i;by_cases e:i=id
  .subst e;rw[aA,M];rfl
  rw[a7 _ _ e,I i e,NA];exact hw.hr.dom i
 .intro i hi;by_cases e:i=id
  .subst e;exact M
  rw[I i e,hw.hr.free i hi];rfl
 .intro i o' b N h1 h2;obtain⟨h2',e⟩:=E i _ h2;rw[I i e]at h1;cases ho':σ.ob i with
  |none=>rw[ho']at h1;cases h1
  | some o2=>
    rw[ho']at h1;simp only[Yf,VM]at h1;subst h1;have L:=hw.hr.obj i o2 b N ho' h2';cases o2 with
    |cells T c=>obtain⟨arr,q1,q2,q3,q4⟩:=L;exact⟨arr,q1,q2,q3,q4.mono G⟩
    |bD T c=>obtain⟨arr,q1,q2,q3,q4⟩:=L;exact⟨arr,q1,q2,q3,q4.mono G⟩
    |mp ks vs=>obtain⟨es,clock,q1,q2,q3,q4⟩:=L;exact⟨es,clock,q1,q2.mono G,q3.mono G,q4⟩
    |it s p=>exact L
    |fro s p=>exact L
    |mi c ks vs=>exact yx.mono G O L
    | mix T c=>
      obtain⟨arr,q1,q2,q3,q4⟩:=L;refine⟨arr,q1,q2,by rw[nM];exact q3,?_⟩;rw[nM];exact q4.mpL G H X
 .intro i b N h1;obtain⟨h2,h3,h4⟩:=hw.hr.own i b N (E i _ h1).1;refine⟨h2,?_,h4⟩;rintro(h5|⟨N',h5⟩)
  .exact h3 h5
  exact(E i _ h1).2 (hw.hr.inj i id b N N' (E i _ h1).1 h5)
 .rintro q (hq|⟨N,hq⟩)
  .exact hw.hr.rsz q hq
  exact(hw.hr.own id q N hq).1
 .rintro q (hq|⟨N,hq⟩)
  .exact hw.hr.rfr q hq
  rcases(hw.hr.own id q N hq).2.2 with h|h
  .exact .inr (.inr h)
  exact .inr (.inl h)
 .intro t ht;exact(hw.sl t ht).mpV G H X
end
end Go.Proofs.YthicoeegbdboeaaGreatDoor
