/- Lemmas. No condition. -/
import Derived.StillTail
import Derived.Deep.Quiet
import Derived.Shelf.SlSortCmp.QuietGrown
import Derived.Test.YthicoeegbdboeaaGreatDoorJF14
set_option maxRecDepth 100000
set_option maxHeartbeats 4000000
open Go.RowKit Go.Proofs.Tryz
open Option renaming some→WB,none→WC
open Bool renaming true→YK,false→YL
namespace Go.Proofs.YthicoeegbdboeaaGreatDoor
variable{T E ty:TypeId}{sz n B b g off k:Nat}{cs:na}{m:Gm}{R:ew}{us:e7}{W w:World}{v:Value}{a:Act}{α:Type}{f:FuncId}{L:Array Bool->Act->Prop}{P:Program}
section
open Go.RowKit Go.Shelf Mm
attribute [local go_sem] Oper.semAt_some
theorem Td(w:World)(R:ew)(x:ZM)(u:Value)(h:ZH w R (bu x) u):u=cI x:=by simp only[ZH,ZG]at h;obtain⟨us,rfl,u1,v1,rfl,rfl,u2,v2,rfl,rfl,rfl⟩:=h;rfl
theorem Sg(w:World)(R:ew)(x:PP)(u:Value)(h:ZH w R (ppP x) u):u=fH x:=by simp only[ZH,ZG]at h;obtain⟨us,rfl,u1,v1,rfl,rfl,u2,v2,rfl,rfl,u3,v3,rfl,rfl,u4,v4,rfl,rfl,rfl⟩:=h;rfl
def p7(l:u9):na:=l.flatMap pO
theorem Cr(l:u9):(p7 l).length=l.length*2:=cg _ 2 (λ_=>rfl) l
theorem KO(l:u9)(t:ZM):p7 l++pO t=p7 (l++[t]):=by simp[p7]
noncomputable def apBodyP:Code:=match Tryz.f173.body with
 |some (.seq _ (.seq (.seq _ (.block _ (.rangeFunc _ _ _ b))) _))=>b
 |_=> .skip
theorem Ig(ss:u9)(x:ZM)(hs:ss.length<=1000000):∀m0 w0 F R0,AWR ⟨prog,m0,w0,F,R0⟩ Tryz.f173.ntmps apBodyP (λex τ=>ex= .normal/\τ.le (ZT [] (apO 61 111 2 (ss++[x]).length (p7 (ss++[x]))) 1)) (ZT [(2,.ptr big 0),(5,.pv (.rp (pO x) 0))] (apO 61 111 2 ss.length (p7 ss)) 1):=by
 intro m0 w0 F R0;have j:=Cr ss
 repeat refine AWR.seq ?_
 refine AWR.block ?_
 repeat refine AWR.seq ?_
 exact AWR.region O<|Ar 5 O<|⟨O,Vr [2] trivial ⟨VT (b:=WB (.mix 61 [.bz 2 2 (ss.length+1)])) Zj (ah (λn=>WB (Ob.mix 61 [.bz 2 2 n])) Zm),VT (b:=WB (.bD 111 (p7 ss++pO x))) Zj (ah (λc=>WB (Ob.bD 111 c)) (KO ss _)),Zp⟩ O O Zk O⟩
def vr(l:List PP):na:=l.flatMap ppC
theorem DC(l:List PP):(vr l).length=l.length*4:=cg _ 4 (λ_=>rfl) l
theorem HP(l:List PP)(t:PP):vr l++ppC t=vr (l++[t]):=by simp[vr]
noncomputable def apBodyQ:Code:=match Tryz.f176.body with
 |some (.seq _ (.seq (.seq _ (.block _ (.rangeFunc _ _ _ b))) _))=>b
 |_=> .skip
theorem Kz(ss:List PP)(x:PP)(hs:ss.length<=1000000):∀m0 w0 F R0,AWR ⟨prog,m0,w0,F,R0⟩ Tryz.f176.ntmps apBodyQ (λex τ=>ex= .normal/\τ.le (ZT [] (apO 153 156 4 (ss++[x]).length (vr (ss++[x]))) 1)) (ZT [(2,.ptr big 0),(5,.pv (.rp (ppC x) 0))] (apO 153 156 4 ss.length (vr ss)) 1):=by
 intro m0 w0 F R0;have j:=DC ss
 repeat refine AWR.seq ?_
 refine AWR.block ?_
 repeat refine AWR.seq ?_
 exact AWR.region O<|Ar 5 O<|⟨O,Vr [2] trivial ⟨VT (b:=WB (.mix 153 [.bz 2 4 (ss.length+1)])) Zj (ah (λn=>WB (Ob.mix 153 [.bz 2 4 n])) Zm),VT (b:=WB (.bD 156 (vr ss++ppC x))) Zj (ah (λc=>WB (Ob.bD 156 c)) (HP ss _)),Zp⟩ O O Zk O⟩
theorem Ej(i:Nat)(o:Ob)(h:au (apO T E sz n cs) i=WB o):o.lU=YK:=by have:=dx h;simp only[By,Xv,Y0,Prod.mk.injEq]at this;rcases this with⟨_,rfl⟩|⟨_,rfl⟩<;>rfl
theorem JQ{W2:World}{av:Av}(q:ZG W2 R cs us)(s:R B)(t:W2.heap[B]? =WB (.cells us.toArray ty (0,0))):Rel W2 m av R (.pv (.rp cs 0)) (.pointer (WB ⟨B,0,WC⟩)):=by simp only[Rel,ZH];exact⟨B,0,us,O,q,s,λj _=>by simp[World.cell?,t]⟩
theorem Cy{v:V}(q:a.eval (.tmp 2)= .pointer (WB ⟨b,0,WC⟩))(s:Rel W m (avK 1) R v (a.eval (.tmp 5)))(u:∃N,m big=WB (b,N))(t:Nat):
  Rel W m (avK 1) R (look [(2,.ptr big 0),(5,v)] t) (a.eval (.tmp t)):=by
 by_cases e2:t=2
 .subst e2;rw[q];show Rel W m (avK 1) R (.ptr big 0) _;obtain⟨N,hN⟩:=u;simp only[Rel];exact⟨Zk,λb' N' e=>by rw[hN]at e;cases e;rfl⟩
 by_cases e5:t=5
 .subst e5;exact s
 have b2':Nat.beq t 2=YL:=by cases hb:Nat.beq t 2;rfl;exact absurd (bN hb) e2
 have j:Nat.beq t 5=YL:=by cases hb:Nat.beq t 5;rfl;exact absurd (bN hb) e5
 have e:look [(2,V.ptr big 0),(5,v)] t= .pv .any:=by simp only[look,b2',j,Wo]
 rw[e];simp only[Rel,ZH]
theorem ux{r:Nat}{o:Obj}(h:Below n w W)(j:n<=r):Below n w (W.putObj r o):=
 ⟨h.os,h.tape,h.output,by simpa using h.size,λk hk=>(World.putObj_heap_other Zi).trans (h.block k hk)⟩
theorem S7{enc:α->Value}{kp:α->PV}(j:∀(w:World)(R:ew)(x:α)(u:Value),ZH w R (kp x) u->u=enc x){xs:List α}{vs:na}{u:Value}(h:ZH w R (.fn (.func f) [] [.rp [.mp (xs.map kp) vs] 0]) u):
  ∃(b off mb:Nat)(es:Array MapEntry)(clock:Nat)(xs':List α),u= .func (.func f) #[] #[.pointer (WB ⟨b,off,WC⟩)]/\R b/\w.cell? ⟨b,off,WC⟩=WB (.map (WB mb))/\R mb/\w.heap[mb]? =WB (.map es clock)/\dY es.toList clock/\es.toList.map (·.key)=xs'.map enc/\(xs'.map enc).Perm (xs.map enc):=by
 rw[ZH]at h;obtain⟨us,vs',rfl,h1,h2⟩:=h;simp only[ZG]at h1 h2;obtain⟨u3,us3,rfl,h3,rfl⟩:=h2;subst h1;rw[ZH]at h3;obtain⟨b,off,us4,rfl,h4,h5⟩:=h3;simp only[ZG]at h4;obtain⟨um,us5,rfl,h6,rfl⟩:=h4;obtain⟨mb,es,clock,xs',rfl,g1,g2,g3,g4,g5⟩:=S2 j h6;refine⟨b,off,mb,es,clock,xs',O,h5.1,?_,g1,g2,g3,g4,g5⟩;have:=h5.2 0 Zm;simpa using this
theorem HY{enc:α->Value}{kp:α->PV}{fA fK:FuncId}{kcs:List α->na}(z:∀(w:World)(R:ew)(x:α)(u:Value),ZH w R (kp x) u->u=enc x)(s:∀x y,enc x=enc y->x=y)
  (q:∀(b off mb:Nat)(es:Array MapEntry)(clock:Nat)(xs:List α)(w:World)(m:Gm)(R:RT w (jg m)),(∀id,m id=WC)->xs.length<=1000000->dY es.toList clock->es.toList.map (·.key)=xs.map enc->b<w.heap.size->w.cell? ⟨b,off,WC⟩=WB (.map (WB mb))->w.heap[mb]? =WB (.map es clock)->
   CallsIn Fence.wide 2 prog fA #[.slice WC 0 0,.func (.func fK) #[] #[.pointer (WB ⟨b,off,WC⟩)]] w λe w'=>∃u ss m' R',e= .returned u/\ss.Perm xs/\HR ⟨prog,m,w,jg m,R⟩ m' R' (au [(0,.bD E (kcs ss))]) (avK 1) w'/\Rel w' m' (avK 1) R' (.bz 0 sz ss.length) u)
  (xs:List α) (vs:na) (G:xs.length<=1000000):ZS prog fA 0 1 [.pv nS,.pv (.fn (.func fK) [] [.rp [.mp (xs.map kp) vs] 0])] []
  (λv ob=>∃ss,ss.Perm xs/\v= .bz 0 sz ss.length/\ob=au [(0,.bD E (kcs ss))]):=by
 intro w m R us hHR hrel;have j:=Tp hHR;simp only[ZJ,Rel]at hrel;obtain⟨u1,us1,rfl,h1,u2,us2,rfl,h2,rfl⟩:=hrel;simp only[ZH]at h1;obtain⟨A,c,rfl,_,_,hnil,hcz,_⟩:=h1;have t:A=WC:=by have:=hnil YK O;simpa using this.symm
 obtain rfl:=hcz trivial;subst t;obtain⟨b,off,mb,es,clock,xs',rfl,hRb,hcell,hRm,hb,hst,hx,hp⟩:=S7 z h2;refine Calls.mono (callsIn_wide.1 (q b off mb es clock xs' w m R j (by have:=(kU s hp).length_eq;omega) hst hx (R.d b hRb).1 hcell hb)) ?_;rintro e w' ⟨u,ss,m',R',rfl,hS,h3,h4⟩;refine⟨u,_,_,m',R',O,⟨ss,hS.trans (kU s hp),O,O⟩,O,?_,h3,h4⟩;intro i o h;by_cases h0:i=0
 .subst h0;cases h;exact⟨O,O⟩
 have b2:Nat.beq i 0=YL:=by cases hb:Nat.beq i 0;rfl;exact absurd (bN hb) h0
 simp only[au,b2,Wo]at h;cases h
theorem UK(b off mb:Nat)(es:Array MapEntry)(clock:Nat)(xs:u9)(w:World)(m:Gm)(R:RT w (jg m))(U:∀id,m id=WC)(Y:xs.length<=1000000)(V:dY es.toList clock)(hx:es.toList.map (·.key)=xs.map cI)(H:b<w.heap.size)
  (hc:w.cell? ⟨b,off,WC⟩=WB (.map (WB mb))) (Z:w.heap[mb]? =WB (.map es clock)):
  CallsIn Fence.wide 2 prog 173 #[.slice WC 0 0,.func (.func 119) #[] #[.pointer (WB ⟨b,off,WC⟩)]] w λe w'=>∃u ss m' R',e= .returned u/\ss.Perm xs/\HR ⟨prog,m,w,jg m,R⟩ m' R' (au [(0,.bD 111 (p7 ss))]) (avK 1) w'/\Rel w' m' (avK 1) R' (.bz 0 2 ss.length) u:=by
 have eg:=enters_of (P:=prog) func119 Zj O;refine callsIn_of_wp_marks func173 O trivial ?_ O;simp only[ntmps173,WQ,VI,XS,Nat.reduceAdd,Nat.reduceSub,Array.replicate_succ,Array.replicate_zero,List.push_toArray,List.append_toArray,WZ,Wu]
 gi_wp2
 obtain⟨W0,hW0⟩:∃W0,w.alloc (Obj.cells #[Value.slice WC 0 0] 61)=W0:=⟨_,O⟩;have s:Below w.heap.size w W0:=by rw[<-hW0];exact(Below.refl _ w).alloc (BY _) _
 have I:W0.heap[w.heap.size]? =WB (.cells #[.slice WC 0 0] 61 (0,0)):=by rw[<-hW0];exact World.alloc_heap_new w _
 have G:mb<w.heap.size:=(VP.1 Z).1;rw[hW0];refine zN (nt:=13) (w0:=w) (R0:=R.p) (bs:=[w.heap.size]) YK (encs:=λx=> #[cI x]) O eg (Hi b off mb es clock xs W0 V hx (VW H s.size) ((s.cell (p:=⟨b,off,WC⟩) H).trans hc) ((s.block mb G).trans Z)) (λ_=>rfl) (λ_ _ _ h=>h) (λh=>by cases h)
  (λpre os k=>os=apO 61 111 2 pre.length (p7 pre)/\k=1) ⟨O,O⟩ (K5 R.g (λb h=>(R.d b h).1) s I (BY _)) ?cell
  (λx W=>{ tmps:= #[.slice WC 0 0,.func (.func 119) #[] #[.pointer (WB ⟨b,off,WC⟩)],.pointer (WB ⟨w.heap.size,0,WC⟩),undef,.slice WC 0 0,.pointer (WB ⟨W.heap.size,0,WC⟩),.func (.func 119) #[] #[.pointer (WB ⟨b,off,WC⟩)],cI x,undef,undef,undef,undef,undef],defers:=[] })
  (λx W=>W.alloc (.cells #[.int .i64 x.f,.string x.c] 111)) (λx W=>(Below.refl _ W).alloc (BY _) _) (λ_ _=>⟨O,O⟩) ?assign ?body ?done
 case cell=>rintro _ pre os k ⟨rfl,rfl⟩ i o h;exact Ej i o h
 case assign=>
  intro l x W K hK;simp only[cI]at hK ⊢
  gi_wp2
  exact hK
 case body=>
  rintro pre x os k ⟨rfl,rfl⟩ ⟨rest,hpr⟩;have M:pre.length<=1000000:=by have:=hpr.length_eq;simp at this;omega
  refine⟨_,_,Ig pre x M,?_,?_⟩
  .rintro ex τ ⟨rfl,h⟩;exact ⟨_,_,h,λj hj=>by obtain rfl:j=0:=(by simpa using hj);rfl,O,O,O⟩
  .intro W W2 m2 R2 hnew hm2 hR2 t _;refine Cy O ?_ (hm2 0 _ O) t;obtain⟨g1,g2⟩:=hnew W.heap.size (BY _) Zm;exact JQ (us:=(#[.int .i64 x.f,.string x.c]:YT).toList) (by simp only[ZG,ZH];exact⟨_,_,O,O,_,_,O,O,O⟩) g1 (g2.trans (World.alloc_heap_new W _))
 case done=>
  rintro D X ss os k W hD hDl hDX hS ⟨rfl,rfl⟩ hB hdef;obtain⟨u,hcu,hout⟩:=LI U hB;have z:=hB.bel;clear hB hW0
  gi_wp2
  refine⟨Zm,.inl ⟨_,_,O,run_takeDeferred hdef,?_⟩⟩;refine⟨u,by simp[results,Tryz.f173,go_sem],u,ss,?_⟩;refine(hout _ (ux z hD) Zm (λq _ Y=>World.putObj_heap_other (λe=>Y (e▸hDX)))).imp λm' h=>h.imp λR' h=>⟨O,hS,h.1,h.2⟩
theorem NI(xs:u9)(vs:na)(j:xs.length<=1000000):ZS prog 173 0 1 [.pv nS,.pv (.fn (.func 119) [] [.rp [.mp (xs.map bu) vs] 0])] []
  (λv ob=>∃ss,ss.Perm xs/\v= .bz 0 2 ss.length/\ob=au [(0,.bD 111 (p7 ss))]):=
 HY Td (λ_ _=>oc) (λb off mb es clock xs w m R h1 h2 h3 h4 h5 h6 h7=>UK b off mb es clock xs w m R h1 h2 h3 h4 h5 h6 h7) xs vs j
theorem K8(xs:u9)(vs:na)(q:xs.length<=1000000):ZS prog 118 0 1 [.pv (.fn (.func 119) [] [.rp [.mp (xs.map bu) vs] 0])] []
  (λv ob=>∃ss,ss.Perm xs/\v= .bz 0 2 ss.length/\ob=au [(0,.bD 111 (p7 ss))]):=by
 have j:=NI xs vs q;refine ZS.of func118 O O (V7 O) ?_;intro m0 w0 F R0;refine Z1 O<|Z1 O<|RL.call O (cf [] 0 call173 O O O O (by exact trivial) Zk O j ?_);rintro _ _ ⟨ss,hS,rfl,rfl⟩;exact A1 O<|Gt O<|⟨[(2,.bz 0 2 ss.length)],[(0,.bD 111 (p7 ss))],_,Vn (aS Zj) (aO Zj) O O,O,O,O,⟨ss,hS,O,O⟩⟩
theorem US(b off mb:Nat)(es:Array MapEntry)(clock:Nat)(xs:List PP)(w:World)(m:Gm)(R:RT w (jg m))(U:∀id,m id=WC)(Y:xs.length<=1000000)(V:dY es.toList clock)(hx:es.toList.map (·.key)=xs.map fH)(H:b<w.heap.size)
  (hc:w.cell? ⟨b,off,WC⟩=WB (.map (WB mb))) (Z:w.heap[mb]? =WB (.map es clock)):
  CallsIn Fence.wide 2 prog 176 #[.slice WC 0 0,.func (.func 125) #[] #[.pointer (WB ⟨b,off,WC⟩)]] w λe w'=>∃u ss m' R',e= .returned u/\ss.Perm xs/\HR ⟨prog,m,w,jg m,R⟩ m' R' (au [(0,.bD 156 (vr ss))]) (avK 1) w'/\Rel w' m' (avK 1) R' (.bz 0 4 ss.length) u:=by
 have eg:=enters_of (P:=prog) func125 Zj O;refine callsIn_of_wp_marks func176 O trivial ?_ O;simp only[ntmps176,WQ,VI,XS,Nat.reduceAdd,Nat.reduceSub,Array.replicate_succ,Array.replicate_zero,List.push_toArray,List.append_toArray,WZ,Wu]
 gi_wp2
 obtain⟨W0,hW0⟩:∃W0,w.alloc (Obj.cells #[Value.slice WC 0 0] 153)=W0:=⟨_,O⟩;have s:Below w.heap.size w W0:=by rw[<-hW0];exact(Below.refl _ w).alloc (BY _) _
 have I:W0.heap[w.heap.size]? =WB (.cells #[.slice WC 0 0] 153 (0,0)):=by rw[<-hW0];exact World.alloc_heap_new w _
 have G:mb<w.heap.size:=(VP.1 Z).1;rw[hW0];refine zN (nt:=13) (w0:=w) (R0:=R.p) (bs:=[w.heap.size]) YK (encs:=λx=> #[fH x]) O eg (GJ b off mb es clock xs W0 V hx (VW H s.size) ((s.cell (p:=⟨b,off,WC⟩) H).trans hc) ((s.block mb G).trans Z)) (λ_=>rfl) (λ_ _ _ h=>h) (λh=>by cases h)
  (λpre os k=>os=apO 153 156 4 pre.length (vr pre)/\k=1) ⟨O,O⟩ (K5 R.g (λb h=>(R.d b h).1) s I (BY _)) ?cell
  (λx W=>{ tmps:= #[.slice WC 0 0,.func (.func 125) #[] #[.pointer (WB ⟨b,off,WC⟩)],.pointer (WB ⟨w.heap.size,0,WC⟩),undef,.slice WC 0 0,.pointer (WB ⟨W.heap.size,0,WC⟩),.func (.func 125) #[] #[.pointer (WB ⟨b,off,WC⟩)],fH x,undef,undef,undef,undef,undef],defers:=[] })
  (λx W=>W.alloc (.cells #[.int .i64 x.1.f,.string x.1.c,.int .i64 x.2.f,.string x.2.c] 156)) (λx W=>(Below.refl _ W).alloc (BY _) _) (λ_ _=>⟨O,O⟩) ?assign ?body ?done
 case cell=>rintro _ pre os k ⟨rfl,rfl⟩ i o h;exact Ej i o h
 case assign=>
  intro l x W K hK;simp only[fH]at hK ⊢
  gi_wp2
  exact hK
 case body=>
  rintro pre x os k ⟨rfl,rfl⟩ ⟨rest,hpr⟩;have M:pre.length<=1000000:=by have:=hpr.length_eq;simp at this;omega
  refine⟨_,_,Kz pre x M,?_,?_⟩
  .rintro ex τ ⟨rfl,h⟩;exact ⟨_,_,h,λj hj=>by obtain rfl:j=0:=(by simpa using hj);rfl,O,O,O⟩
  .intro W W2 m2 R2 hnew hm2 hR2 t _;refine Cy O ?_ (hm2 0 _ O) t;obtain⟨g1,g2⟩:=hnew W.heap.size (BY _) Zm;exact JQ (us:=(#[.int .i64 x.1.f,.string x.1.c,.int .i64 x.2.f,.string x.2.c]:YT).toList) (by simp only[ZG,ZH];exact⟨_,_,O,O,_,_,O,O,_,_,O,O,_,_,O,O,O⟩) g1 (g2.trans (World.alloc_heap_new W _))
 case done=>
  rintro D X ss os k W hD hDl hDX hS ⟨rfl,rfl⟩ hB hdef;obtain⟨u,hcu,hout⟩:=LI U hB;have z:=hB.bel;clear hB hW0
  gi_wp2
  refine⟨Zm,.inl ⟨_,_,O,run_takeDeferred hdef,?_⟩⟩;refine⟨u,by simp[results,Tryz.f176,go_sem],u,ss,?_⟩;refine(hout _ (ux z hD) Zm (λq _ Y=>World.putObj_heap_other (λe=>Y (e▸hDX)))).imp λm' h=>h.imp λR' h=>⟨O,hS,h.1,h.2⟩
theorem Nw(xs:List PP)(vs:na)(j:xs.length<=1000000):ZS prog 176 0 1 [.pv nS,.pv (.fn (.func 125) [] [.rp [.mp (xs.map ppP) vs] 0])] []
  (λv ob=>∃ss,ss.Perm xs/\v= .bz 0 4 ss.length/\ob=au [(0,.bD 156 (vr ss))]):=
 HY Sg (λ_ _=>qL) (λb off mb es clock xs w m R h1 h2 h3 h4 h5 h6 h7=>US b off mb es clock xs w m R h1 h2 h3 h4 h5 h6 h7) xs vs j
theorem Je(xs:List PP)(vs:na)(q:xs.length<=1000000):ZS prog 123 0 1 [.pv (.fn (.func 125) [] [.rp [.mp (xs.map ppP) vs] 0])] []
  (λv ob=>∃ss,ss.Perm xs/\v= .bz 0 4 ss.length/\ob=au [(0,.bD 156 (vr ss))]):=by
 have j:=Nw xs vs q;refine ZS.of func123 O O (V7 O) ?_;intro m0 w0 F R0;refine Z1 O<|Z1 O<|RL.call O (cf [] 0 call176 O O O O (by exact trivial) Zk O j ?_);rintro _ _ ⟨ss,hS,rfl,rfl⟩;exact A1 O<|Gt O<|⟨[(2,.bz 0 4 ss.length)],[(0,.bD 156 (vr ss))],_,Vn (aS Zj) (aO Zj) O O,O,O,O,⟨ss,hS,O,O⟩⟩
end
section
open Go Go.RowKit
section
variable {P:Program}{ops:YZ}{C:World->Prop}
def rZ(P:Program)(ops:YZ)(C:World->Prop)(n:Nat)(L:Array Bool->Act->Prop):Nat->Array Bool->Act->Prop
 |0,listed,a=>L listed a
 |f+1,listed,a=>Region.ready .any ops listed≠[]/\∀i∈Region.ready .any ops listed,i<n/\qOp P ops C i (rZ P ops C n L f (listed.setIfInBounds i YK)) a
theorem rZ.any{Q':Exit->Act->World->Prop}(j:∀listed a w,C w->L listed a->wpAny P .any ops Q' g listed a w)(f:Nat):
  ∀(listed:Array Bool)(a:Act)(w:World),C w->rZ P ops C n L f listed a->wpAny P .any ops Q' (f+g) listed a w:=by
 induction f with
 |zero=>intro listed a w hw h;rw[Wm];exact j _ _ _ hw h
 | succ f ih=>
   intro listed a w hw h;rw[Nat.add_right_comm];exact⟨λe=>absurd e h.1,λi hi=>wpOp_of_qOp hw (λa' w' hw' h'=>ih _ a' w' hw' h') (h.2 i hi).2⟩
theorem rZ.take{i:Nat}{o:Oper}(ho:ops[i]? =WB o)(s:∀(j:Nat)(o:Oper) cs b,ops[j]? =WB o->o.op≠ .select cs b)
  (hs:Region.sinkB .any ops n=YK) (hc:Region.chainB .any ops n=YK) (G:n<ops.size) (t:i<n) (M:∀listed a,L listed a->∀j∈Region.ready .any ops listed,n<=j) (f:Nat):
  ∀(listed:Array Bool)(a:Act),HeadInv .any ops n listed->(∀j oj,ops[j]? =WB oj->j≠i->listed.getD j YK=YL->(∀e∈oj.after,Region.binds .any e=YK->e.on≠i)->o.apart ops oj=YK)->
   i∈Region.ready .any ops listed->YieldsIn P ops C o v a->rZ P ops C n L f (listed.setIfInBounds i YK) (a.put o.dst v)->rZ P ops C n L (f+1) listed a:=by
 induction f with
 | zero=>
   intro listed a inv _ hr hy H;refine⟨List.ne_nil_of_mem hr,λj hj=>?_⟩;have q:j<n:=Nat.lt_of_not_le λh=>tail_waits hs hc G inv _ i O t (mem_ready.1 hr).1 j h hj
   refine⟨q,?_⟩;by_cases e:j=i
   .subst e;exact hy.qOp ho H
   exact absurd (M _ _ H j (ready_mono hj e)) Zi
 | succ f ih=>
   intro listed a inv hap hr hy H;refine⟨List.ne_nil_of_mem hr,λj hj=>?_⟩;have q:j<n:=Nat.lt_of_not_le λh=>tail_waits hs hc G inv _ i O t (mem_ready.1 hr).1 j h hj
   refine⟨q,?_⟩;by_cases e:j=i
   .subst e;exact hy.qOp ho H
   obtain⟨hj0,oj,hoj,hw⟩:=mem_ready.1 hj;have u:∀x∈oj.after,Region.binds .any x=YK->x.on≠i:=λx hx hb he=>by
    have z:=hw x hx hb;rw[he,getD_both (mem_ready.1 hr).1]at z;cases z
   have I:=qOp_put hoj (hap j oj hoj e hj0 u) (λcs b=>s i o cs b ho) (λcs b=>s j oj cs b hoj) hy (H.2 j (ready_mono hj e)).2;refine qOp_mono (λa' h=>ih _ a' (inv.set hj q) (λk ok hk hki hun=>hap k ok hk hki ?_) (ready_mono hr (Ne.symm e)) h.1 (by rw[Array.setIfInBounds_comm _ _ e];exact h.2)) I;by_cases ek:j=k
   .subst ek;exact hj0
   rwa [getD_set_ne YK ek]at hun
theorem rZ.lex{Lq:Act->Prop}(q:Region.noSelect ops=YK)(hs:Region.sinkB .any ops n=YK)(hc:Region.chainB .any ops n=YK)(t:n<ops.size):
  ∀(l:Zw)(k:Nat)(listed:Array Bool)(a:Act),(∀j,j<l.length->l[j]? =ops[k+j]?)->k+l.length=n->HeadInv .any ops n listed->
  Region.lexHead .any ops g l.length k listed=YK->wpQuiet P ops C Lq l a->rZ P ops C n (λlisted' a'=>Region.seqB .any ops g n listed'=YK/\Lq a') l.length listed a:=by
 intro l;induction l with
 | nil=>
   intro k listed a _ hk _ hB h;obtain rfl:k=n:=by simpa using hk
   exact⟨by simpa[Region.lexHead]using hB,h⟩
 | cons o l ih=>
   intro k listed a hl hk inv hB h;have ho:ops[k]? =WB o:=by simpa using(hl 0 Zm).symm
   simp only[VI,Region.lexHead,aJ]at hB hk;have s:k∈Region.ready .any ops listed:=by simpa using hB.1.1
   obtain⟨v,hy,hK⟩:=yieldsIn_of_qOp (K:=wpQuiet P ops C Lq l) ho (by unfold qOp;simp only[ho];exact h);refine rZ.take ho (Region.noSelect_spec q) hs hc t Zi (λlisted' a' hL=>seqB_ready hL.1) l.length listed a inv (Region.free_spec ho hB.1.2) s hy (ih (k+1) _ _ (λj hj=>?_) Zi (inv.set s Zi) hB.2 hK);have:=hl (j+1) Zn;simpa[Nat.add_assoc,XA 1 j]using this
theorem iu{id:Nat}{Q:Exit->Act->World->Prop}{l:Zw}(n:Nat)(hd tl:Zw)(I:l.take n=hd)(M:l.drop n=tl)(U:P.follows .mixedOrders=YK)(hB:Region.lexTailB .any l.toArray n=YK)(V:C { w with drawn:=w.drawn+1 })
  (h:wpQuiet P l.toArray C (λz=>∀w',C w'->wpList P l.toArray Q tl z w') hd a):(Code.region id l.toArray YK).wp P Q a w:=by
 subst I M;simp only[Region.lexTailB,aJ,VJ]at hB;obtain⟨⟨⟨⟨hsel,hn⟩,hs⟩,hc⟩,hlex⟩:=hB;have G:n<l.length:=by simpa using hn
 have q:(l.take n).length=n:=by simp;omega
 have s:HeadInv .any l.toArray n (Array.replicate l.toArray.size YL):=
  ⟨Zm,λj oj _ hl=>(by rw[getD_replicate_false]at hl;cases hl),λt _ ht=>getD_in (by simpa using ht) (getD_replicate_false _ _)⟩
 have H:=rZ.lex (C:=C) (g:=l.toArray.size-n) hsel hs hc hn (l.take n) 0 _ a (λj hj=>by rw[q]at hj;simp[hj]) (by simpa using q) s (by rw[q];exact hlex) h;refine wp_region_any U ?_;have u:(l.drop n).length=l.toArray.size-n:=Zm;have:=rZ.any (Q':=Q) (g:=l.toArray.size-n) (λlisted z w' hw hL=>by
  have:=wpAny_of_seq (md:= .any) (Q':=Q) (l.drop n) n listed z w' (λj=>by simp[WM]) (by rw[u];exact hL.1) (hL.2 w' hw);rwa [u]at this) _ _ _ _ V H
 rw[q,show n+(l.toArray.size-n)=l.toArray.size by omega]at this;exact this
end
end
section
open Go.RowKit Mm Jn Go.Sort
theorem EB(a:Int)(w:World):Calls prog 174 #[.int .i64 a] w λe w'=>e= .returned (.bool YL)/\w=w':=by
 have hs:(a !=a)=YL:=Zm
 go_enter func174,ntmps174
 go_wp2
 go_ret
 exact⟨O,O⟩
theorem KW(a b:Int)(w:World):Calls prog 121 #[.int .i64 a,.int .i64 b] w λe w'=>e= .returned (.int .i64 (s7 a b))/\w=w':=by
 have q:=EB
 go_enter func121,ntmps121
 go_wp2_with (go_at_call 174;refine(q _ _).mono ?_;rintro e w' ⟨rfl,rfl⟩)
 .have h1:a<b:=Zl
  go_ret
  exact⟨eQ (by unfold s7;rw[IT h1]),O⟩
 .have h1:¬a<b:=Zi;have j:b<a:=Zi
  go_ret
  exact⟨eQ (by unfold s7;rw[AS h1,IT j]),O⟩
 have h1:¬a<b:=Zi;have j:¬b<a:=Zi
 go_ret
 exact⟨eQ (by unfold s7;rw[AS h1,AS j]),O⟩
theorem Ue(s t:er):Cd s t=w4 s t:=by grind[Cd,w4]
theorem LC(x y:Int)(b c:Nat)(w:World)(j:w.cell? ⟨b,0,WC⟩=WB (.int .i64 x))(q:w.cell? ⟨b,1,WC⟩=WB (.int .i64 y)):
  Calls prog 120 #[.slice (WB ⟨b,0,WC⟩) 2 c] w λe w'=>e= .returned (.int .i64 (orI [x,y]))/\w=w':=by
 go_enter func120,ntmps120
 go_wp2
 go_loop [8] (λi=>i= .int .i64 0\/(i= .int .i64 1/\x=0)\/(i= .int .i64 2/\x=0/\y=0)) (λi=>2-(intOf i).toNat)
 case atStart=>exact .inl O
 case round=>
  rcases hrel with rfl|⟨rfl,hx⟩|⟨rfl,hx,hy⟩
  .go_wp2
   .have h2:(x !=0)=YK:=Zl
    go_ret
    refine⟨eQ ?_,O⟩;rw[UP,IT (by simpa using h2)]
   have h2:(x !=0)=YL:=Zl;refine⟨.inr (.inl ⟨by go_num,by simpa using h2⟩),by simp[intOf]⟩
  .go_wp2
   .have h2:(y !=0)=YK:=Zl
    go_ret
    refine⟨eQ ?_,O⟩;rw[UP,AS (by simp[hx])]
   have h2:(y !=0)=YL:=Zl;refine⟨.inr (.inr ⟨by go_num,hx,by simpa using h2⟩),by simp[intOf]⟩
  go_wp2
  go_ret
  refine⟨eQ ?_,O⟩;subst hx hy;rfl
theorem uI{args:YT}{os:Array Obj}(h:Calls P f args (grow (w.drewN n) os) λe w'=>e= .returned v/\grow (w.drewN n) os=w'):
  Calls P f args (grow (w.drewN n) os) λe w''=>e= .returned v/\∃p:GrownBy,w''=grow (w.drewN p.n) p.os:=
 h.mono λ_ _ ⟨he,hq⟩=>⟨he,⟨n,os⟩,hq.symm⟩
theorem mD(w:World)(a1:YT)(ty:TypeId)(o2:Obj)(k:Nat)(n:Nat)(os:Array Obj):(grow (((w.alloc (.cells a1 ty)).alloc o2).drewN n) os).cell? ⟨w.heap.size,k,WC⟩=a1[k]? :=by rw[cell?_grow _ _ _ (by show w.heap.size<((w.alloc _).alloc _).heap.size;simp;omega)];have e:(((w.alloc (.cells a1 ty)).alloc o2).drewN n).heap[w.heap.size]? =WB (.cells a1 ty):=(Below.heap_alloc (w.alloc (.cells a1 ty)) o2 _ Zm).trans (World.alloc_heap_new w _);simp only[World.cell?,e];rfl
theorem kI(w:World)(o1:Obj)(a2:YT)(ty:TypeId)(k:Nat)(n:Nat)(os:Array Obj):(grow (((w.alloc o1).alloc (.cells a2 ty)).drewN n) os).cell? ⟨w.heap.size+1,k,WC⟩=a2[k]? :=by
 rw[cell?_grow _ _ _ (by show w.heap.size+1<((w.alloc _).alloc _).heap.size;simp)];have e:(((w.alloc o1).alloc (.cells a2 ty)).drewN n).heap[w.heap.size+1]? =WB (.cells a2 ty):=by
  have:=World.alloc_heap_new (w.alloc o1) (.cells a2 ty);rwa [World.size_alloc]at this
 simp only[World.cell?,e];rfl
theorem Dd(w:World)(o1 o2:Obj)(n:Nat)(os:Array Obj):∃q os',grow (((w.alloc o1).alloc o2).drewN n) os=grow (w.drewN q) os':=
 ⟨n, #[o1]++(#[o2]++os),by
  rw[alloc_eq_grow,alloc_eq_grow];show grow (grow (grow (w.drewN n) #[o1]) #[o2]) os=_;rw[grow_grow,grow_grow]⟩
theorem H4(W:World){N:Nat}(j:W.heap.size=N)(n:Nat)(os:Array Obj)(x y:Int)(c:Nat):Calls prog 120 #[.slice (WB ⟨N+os.size,0,WC⟩) 2 c] ((grow (W.drewN n) os).alloc (.cells #[.int .i64 x,.int .i64 y] 3)) λe w'=>
  e= .returned (.int .i64 (orI [x,y]))/\(grow (W.drewN n) os).alloc (.cells #[.int .i64 x,.int .i64 y] 3)=w':=by
 have hs:(grow (W.drewN n) os).heap.size=N+os.size:=by simp[grow,World.drewN,j]
 have e:=World.alloc_heap_new (grow (W.drewN n) os) (.cells #[.int .i64 x,.int .i64 y] 3);rw[hs]at e;refine LC x y _ c _ ?_ ?_<;>simp only[World.cell?,e]<;>rfl
theorem Ca(p q:ZM)(w:World):Calls prog 59 #[cI p,cI q] w λe w'=>e= .returned (.int .i64 (bY p q))/\∃n os',w'=grow (w.drewN n) os':=by
 obtain⟨pf,pc⟩:=p;obtain⟨qf,qc⟩:=q;have z:=KW;have hS:=Dx;have G:=LC;have u:bY ⟨pf,pc⟩ ⟨qf,qc⟩=orI [s7 pf qf,Cd pc qc]:=by rw[Ue];rfl
 rw[u];clear u;simp only[cI]
 go_enter func59,ntmps59
 go_wp2
 have H:∀n os,_=WB _:=λn os=>(mD w #[.int .i64 pf,.string pc] 111 (.cells #[.int .i64 qf,.string qc] 111) 0 n os).trans O
 have I:∀n os,_=WB _:=λn os=>(mD w #[.int .i64 pf,.string pc] 111 (.cells #[.int .i64 qf,.string qc] 111) 1 n os).trans O
 have M:∀n os,_=WB _:=λn os=>(kI w (.cells #[.int .i64 pf,.string pc] 111) #[.int .i64 qf,.string qc] 111 0 n os).trans O
 have U:∀n os,_=WB _:=λn os=>(kI w (.cells #[.int .i64 pf,.string pc] 111) #[.int .i64 qf,.string qc] 111 1 n os).trans O
 have j:=Dd w (.cells #[.int .i64 pf,.string pc] 111) (.cells #[.int .i64 qf,.string qc] 111);have s:((w.alloc (.cells #[.int .i64 pf,.string pc] 111)).alloc (.cells #[.int .i64 qf,.string qc] 111)).heap.size=w.heap.size+2:=Zm;generalize hW:(w.alloc (.cells #[.int .i64 pf,.string pc] 111)).alloc (.cells #[.int .i64 qf,.string qc] 111)=W at*;clear hW;have t:=H4 W s;refine iu (C:=λw'=>∃p:GrownBy,w'=grow (W.drewN p.n) p.os) 10 _ _ O O Zj Zj ⟨⟨1, #[]⟩,by rw[grow_empty];rfl⟩ ?_
 repeat (quiet_step (first|(go_at_call 121;exact uI (z _ _ _))|(go_at_call 122;exact uI (hS _ _ _))))
 refine wpQuiet_nil ?_;intro _ hw';obtain⟨⟨nq,osq⟩,hw''⟩:=hw';subst hw'';simp only[List.drop_succ_cons,List.drop_zero]
 go_wp2_with (go_at_call 120;refine(t _ _ _ _ _).mono ?_;rintro e w' ⟨rfl,rfl⟩)
 go_ret
 obtain⟨q,os',hq⟩:=j nq osq;exact⟨O,q,_,by rw[hq,alloc_eq_grow,grow_grow]⟩
theorem CQ{arr:YT}{cs:e7}(h:∀j,W.cell? ⟨B,off+j,WC⟩=arr[off+j]?)(hc:cs=(arr.toList.drop off).take cs.length):∀j v,cs[j]? =WB v->W.cell? ⟨B,off+j,WC⟩=WB v:=by grind
theorem kD{ops:YZ}{C:World->Prop}{Q:Act->Prop}{rest:Zw}{dst:YX}{x:Operand}{pos:String}{after:Y4}(q:isRow P T)(s:b8 P T us.length)
  (t:a.eval x= .pointer (WB ⟨b,off,WC⟩)) (hc:∀w,C w->∀j u,us[j]? =WB u->w.cell? ⟨b,off+j,WC⟩=WB u) (h:wpQuiet P ops C Q rest (a.put dst (.agg us.toArray))):wpQuiet P ops C Q (⟨dst,.load T x,ty,pos,after,WC⟩::rest) a:=by
 refine wpQuiet_step λK hK=>?_
 simp only[Region.wanted,Yk];refine⟨_,λw hw=>?_,hK _ h⟩;obtain⟨d,hu,hd⟩:=q;have:=run_loadAt_mid (P:=P) w b off T us d (hc w hw) hu hd s;unfold Oper.quietAt;simp only[execOp,t,Sem.run_bind,this,Result.andThen_ok];exact⟨O,O⟩
theorem GL(p q:PP)(w:World):Calls prog 62 #[fH p,fH q] w λe w'=>e= .returned (.int .i64 (cy p q))/\∃n os',w'=grow (w.drewN n) os':=by
 obtain⟨⟨af,ac⟩,⟨bf,bc⟩⟩:=p;obtain⟨⟨df,dc⟩,⟨ef,ec⟩⟩:=q;have G:=Ca;simp only[cI]at G;have t:=λw=>G ⟨af,ac⟩ ⟨df,dc⟩ w
 have z:=λw=>G ⟨bf,bc⟩ ⟨ef,ec⟩ w
 simp only at t z;clear G;have M:cy (⟨af,ac⟩,⟨bf,bc⟩) (⟨df,dc⟩,⟨ef,ec⟩)=orI [bY ⟨af,ac⟩ ⟨df,dc⟩,bY ⟨bf,bc⟩ ⟨ef,ec⟩]:=rfl;rw[M];clear M;generalize bY ⟨af,ac⟩ ⟨df,dc⟩=u1 at*;generalize bY ⟨bf,bc⟩ ⟨ef,ec⟩=u2 at*;simp only[fH]
 go_enter func62,ntmps62
 go_wp2
 have U:∀n os j u,[.int .i64 af,.string ac][j]? =WB u->(grow (((w.alloc (.cells #[.int .i64 af,.string ac,.int .i64 bf,.string bc] 156)).alloc (.cells #[.int .i64 df,.string dc,.int .i64 ef,.string ec] 156)).drewN n) os).cell? ⟨w.heap.size,0+j,WC⟩=WB u:=λn os=>CQ (λj=>mD w #[.int .i64 af,.string ac,.int .i64 bf,.string bc] 156 (.cells #[.int .i64 df,.string dc,.int .i64 ef,.string ec] 156) (0+j) n os) O
 have l1:∀n os j u,[.int .i64 bf,.string bc][j]? =WB u->(grow (((w.alloc (.cells #[.int .i64 af,.string ac,.int .i64 bf,.string bc] 156)).alloc (.cells #[.int .i64 df,.string dc,.int .i64 ef,.string ec] 156)).drewN n) os).cell? ⟨w.heap.size,2+j,WC⟩=WB u:=λn os=>CQ (λj=>mD w #[.int .i64 af,.string ac,.int .i64 bf,.string bc] 156 (.cells #[.int .i64 df,.string dc,.int .i64 ef,.string ec] 156) (2+j) n os) O
 have l2:∀n os j u,[.int .i64 df,.string dc][j]? =WB u->(grow (((w.alloc (.cells #[.int .i64 af,.string ac,.int .i64 bf,.string bc] 156)).alloc (.cells #[.int .i64 df,.string dc,.int .i64 ef,.string ec] 156)).drewN n) os).cell? ⟨w.heap.size+1,0+j,WC⟩=WB u:=λn os=>CQ (λj=>kI w (.cells #[.int .i64 af,.string ac,.int .i64 bf,.string bc] 156) #[.int .i64 df,.string dc,.int .i64 ef,.string ec] 156 (0+j) n os) O
 have V:∀n os j u,[.int .i64 ef,.string ec][j]? =WB u->(grow (((w.alloc (.cells #[.int .i64 af,.string ac,.int .i64 bf,.string bc] 156)).alloc (.cells #[.int .i64 df,.string dc,.int .i64 ef,.string ec] 156)).drewN n) os).cell? ⟨w.heap.size+1,2+j,WC⟩=WB u:=λn os=>CQ (λj=>kI w (.cells #[.int .i64 af,.string ac,.int .i64 bf,.string bc] 156) #[.int .i64 df,.string dc,.int .i64 ef,.string ec] 156 (2+j) n os) O
 have s:=Dd w (.cells #[.int .i64 af,.string ac,.int .i64 bf,.string bc] 156) (.cells #[.int .i64 df,.string dc,.int .i64 ef,.string ec] 156);have H:((w.alloc (.cells #[.int .i64 af,.string ac,.int .i64 bf,.string bc] 156)).alloc (.cells #[.int .i64 df,.string dc,.int .i64 ef,.string ec] 156)).heap.size=w.heap.size+2:=Zm;generalize hW:(w.alloc (.cells #[.int .i64 af,.string ac,.int .i64 bf,.string bc] 156)).alloc (.cells #[.int .i64 df,.string dc,.int .i64 ef,.string ec] 156)=W at*;clear hW;have I:=H4 W H;refine iu (C:=λw'=>∃p:GrownBy,w'=grow (W.drewN p.n) p.os) 10 _ _ O O Zj Zj ⟨⟨1, #[]⟩,by rw[grow_empty];rfl⟩ ?_;simp only[Yx,Yc]
 quiet_step (fail)
 refine kD (us:=[.int .i64 af,.string ac]) ⟨_,aaA,O⟩ k9 (b:=w.heap.size) (off:=0) O (λw' hw j u hj=>by obtain⟨p,rfl⟩:=hw;exact U p.n p.os j u hj) ?_
 quiet_step (fail)
 refine kD (us:=[.int .i64 df,.string dc]) ⟨_,aaA,O⟩ k9 (b:=w.heap.size+1) (off:=0) O (λw' hw j u hj=>by obtain⟨p,rfl⟩:=hw;exact l2 p.n p.os j u hj) ?_
 quiet_step (first|(go_at_call 59;exact Calls.grown_of (t _)))
 quiet_step (fail)
 refine kD (us:=[.int .i64 bf,.string bc]) ⟨_,aaA,O⟩ k9 (b:=w.heap.size) (off:=2) O (λw' hw j u hj=>by obtain⟨p,rfl⟩:=hw;exact l1 p.n p.os j u hj) ?_
 quiet_step (fail)
 refine kD (us:=[.int .i64 ef,.string ec]) ⟨_,aaA,O⟩ k9 (b:=w.heap.size+1) (off:=2) O (λw' hw j u hj=>by obtain⟨p,rfl⟩:=hw;exact V p.n p.os j u hj) ?_
 quiet_step (first|(go_at_call 59;exact Calls.grown_of (z _)))
 refine wpQuiet_nil ?_;intro _ hw';obtain⟨⟨nq,osq⟩,hw''⟩:=hw';subst hw'';simp only[List.drop_succ_cons,List.drop_zero]
 go_wp2_with (go_at_call 120;refine(I _ _ _ _ _).mono ?_;rintro e w' ⟨rfl,rfl⟩)
 go_ret
 obtain⟨q,os',hq⟩:=s nq osq;exact⟨O,q,_,by rw[hq,alloc_eq_grow,grow_grow]⟩
end
section
section
variable {α:Type}
structure SrtW(enc:α->e7)(b:Nat)(w w':World)(ds:List α):Prop where
 os:w'.os=w.os
 tape:w'.tape=w.tape
 output:w'.output=w.output
 size:w.heap.size<=w'.heap.size
 block:∀k,k<w.heap.size->k≠b->w'.heap[k]? =w.heap[k]?
 cells:∀(arr:YT)(ty:TypeId)(fz:Nat×Nat),w.heap[b]? =WB (.cells arr ty fz)->(ds.flatMap enc).length<=arr.size->∃arr':YT,w'.heap[b]? =WB (.cells arr' ty fz)/\arr'.size=arr.size/\arr'.toList.take (ds.flatMap enc).length=ds.flatMap enc
theorem yP[Inhabited α](q:0<k)(enc:α->e7)(s:∀x,(enc x).length=k)(d:Array α):(Go.Sort.flatK enc k d).toList=d.toList.flatMap enc:=by
 have G:(d.toList.flatMap enc).length=d.toList.length*k:=cg enc k s d.toList;apply WU
 .simp_all
 .intro i h1 h2;rw[Wg,Go.Sort.size_flatK]at h1;have t:i/k<d.size:=Nat.div_lt_of_lt_mul (by rwa [Wq]);have u:i%k<k:=WI _ q;have z:=Go.Sort.get_flatK enc k d i h1;rw[getElem!_pos _ i (by rw[Go.Sort.size_flatK];exact h1)]at z;have j:=jk enc k s d.toList (i/k) (i%k) (by rw[Wg];exact t) u;rw[show i/k*k+i%k=i by rw[Wq];exact Yv i k,AT h2]at j;rw[Array.getElem_toList,z,getElem!_pos d (i/k) t];have hl:i%k<(enc d[i/k]).length:=by rw[s];exact u
  change _=(enc d[i/k])[i%k]? at j
  rw[AT hl]at j;rw[getElem!_pos (enc d[i/k]) (i%k) hl];exact(Xl j).symm
theorem IE[Inhabited α](q:0<k)(enc:α->e7)(u:∀x,(enc x).length=k)(w:World)(b n:Nat)(d:Array α)(os:Array Obj)(z:b<w.heap.size):SrtW enc b w (sortWorldK enc k w b 0 n d os) d.toList:=by
 have s:(sortWorldK enc k w b 0 n d os).heap=(w.heap.modify b (Go.Sort.onCells (Go.Sort.putCells id 0 (Go.Sort.flatK enc k d))))++os:=rfl;have t:=yP q enc u d;have hl:(d.toList.flatMap enc).length=(Go.Sort.flatK enc k d).size:=by rw[<-t,Wg]
 refine⟨O,O,O,?_,λj hj hne=>?_,λarr ty fz h hle=>?_⟩
 .rw[s];simp
 .grind
 refine⟨Go.Sort.putCells id 0 (Go.Sort.flatK enc k d) arr,?_,by simp[Go.Sort.putCells],?_⟩
 .rw[s,Array.getElem?_append_left (by simpa using z),YG,IT O,h];rfl
 grind[vz]
theorem xt[Inhabited α](q:0<k)(enc:α->e7)(z:∀x,(enc x).length=k){arr:YT}{ds:List α}(t:w.heap[b]? =WB (.cells arr ty (0,0)))(h:arr.toList.take (ds.flatMap enc).length=ds.flatMap enc):Go.Sort.HoldsK enc k w b 0 ds.toArray:=by
 intro j hj;have u:=yP q enc z ds.toArray;have hl:(ds.flatMap enc).length=(Go.Sort.flatK enc k ds.toArray).size:=by grind
 have s:(arr.toList.take (ds.flatMap enc).length)[j]? =(Go.Sort.flatK enc k ds.toArray).toList[j]? :=by rw[h,u]
 rw[V2,IT Zi,Array.getElem?_toList,Array.getElem?_toList]at s;constructor
 .simp only[World.cell?,t,Wm];rw[s,getElem!_pos _ j hj];exact Array.getElem?_eq_getElem _
 simp[World.frozen?,t]
theorem permIn_all{d d':Array α}[Inhabited α](j:d.size=n)(h:Go.Sort.PermIn 0 n d d'):d'.toList.Perm d.toList:=by
 obtain⟨h1,_,h2⟩:=h;have q:d'.extract 0 n=d':=by rw[<-j,<-h1];simp
 have s:d.extract 0 n=d:=by rw[<-j];simp
 rwa [q,s]at h2
theorem pD{d:Array α}[Inhabited α]{lt:α->α->Bool}(q:d.size=n)(h:Go.Sort.SortedIn lt 0 n d):d.toList.Pairwise λa b=>lt b a=YL:=by rw[Wz];intro i j h1 h2 hij;rw[Wg]at h1 h2;have:=h i j (sh _) hij Zi;rwa [getElem!_pos d j h2,getElem!_pos d i h1]at this
theorem xY{β:Type}(enc:α->e7)(hk:∀x,(enc x).length=k)(kc:β->na)(hkc:∀x,(kc x).length=k)(hk0:0<k)(xf:α->β)(Srt:List α->Prop)(hS0:Srt []){rest:e7}{R:RT w (jg m)}{l:List β}{A:Option Addr}{c:Nat}
  (j:HR ⟨P,m,w,jg m,R⟩ m R.p (au [(big,.bD ty (l.flatMap kc))]) (avK 0) w) (h0:l.length=0->A=WC) (h1:0<l.length->∀b N,m big=WB (b,N)->A=WB ⟨b,0,WC⟩/\N=c*k)
  (hex:∀us,ZG w R.p (l.flatMap kc) us->∃ds:List α,ds.map xf=l/\ds.flatMap enc=us)
  (Y:∀w':World,(∀b,R.p b->w'.heap[b]? =w.heap[b]?)->∀ds:List α,ZG w' R.p ((ds.map xf).flatMap kc) (ds.flatMap enc))
  (Z:Calls P f (Value.slice WC 0 c::rest).toArray w λe w'=>e= .returned (.tuple #[])/\w'=w)
  (aa:∀(b:Nat)(ds:List α)(arr:YT),ds.map xf=l->0<l.length->w.heap[b]? =WB (.cells arr ty (0,0))->arr.toList.take (ds.flatMap enc).length=ds.flatMap enc->b<w.heap.size->¬R.p b->
   Calls P f (Value.slice (WB ⟨b,0,WC⟩) l.length c::rest).toArray w λe w'=>e= .returned (.tuple #[])/\∃ds':List α,ds'.Perm ds/\Srt ds'/\SrtW enc b w w' ds'):
  Calls P f (Value.slice A l.length c::rest).toArray w λe w'=>∃u v ob' m' R',e= .returned u/\(∃(l':List β)(ds':List α),l'.Perm l/\ds'.map xf=l'/\Srt ds'/\v= .bS []/\ob'=au [(big,.bD ty (l'.flatMap kc))])/\
   v.all (okR 1 0)=YK/\(∀i o,ob' i=WB o->okR 1 0 i=YK/\o.all (okR 1 0)=YK)/\HR ⟨P,m,w,jg m,R⟩ m' R' ob' (avK 0) w'/\Rel w' m' (avK 0) R' v u:=by
 have s:∀l:List β,au [(big,Ob.bD ty (l.flatMap kc))] big=WB (.bD ty (l.flatMap kc)):=λ_=>rfl
 have z:∀{l:List β}{i:Nat},i≠big->au [(big,Ob.bD ty (l.flatMap kc))] i=WC:=fun{l i} hi=>by simp only[au];rw[nbeqJ hi];rfl
 have I:∀(l:List β) i o,au [(big,Ob.bD ty (l.flatMap kc))] i=WB o->okR 1 0 i=YK/\o.all (okR 1 0)=YK:=λl i o h=>by
  by_cases hi:i=big
  .subst hi;rw[s]at h;cases h;exact⟨O,O⟩
  rw[z hi]at h;cases h
 by_cases hn:l=[]
 .subst hn;obtain rfl:=h0 O;refine Z.mono ?_;rintro e w' ⟨rfl,rfl⟩;exact⟨.tuple #[],.bS [],_,m,R.p,O,⟨[],[],WH _,O,hS0,O,O⟩,O,I [],j,by simp only[Rel];exact⟨[],O,by simp only[ZJ]⟩⟩
 have hpos:0<l.length:=Ww.2 hn;have t:∀l:List β,(l.flatMap kc).length=l.length*k:=cg kc k hkc;have hpk:0<l.length*k:=Y1 hpos hk0;have G:∀l':List β,l'.length=l.length->(Ob.bD ty (l'.flatMap kc)).real=YK:=λl' e=>cQ (by intro h;have:=t l';rw[h,e]at this;simp at this;omega)
 have M:=j.dom big;rw[s]at M;obtain⟨⟨b,N⟩,hm⟩:∃x,m big=WB x:=V4.1 (M.trans (G l O));obtain⟨rfl,hN⟩:=h1 hpos b N hm;obtain⟨arr,hb,harr,hle,hrl⟩:=j.obj big _ b N (s l) hm;obtain⟨hbs,hbR,_⟩:=j.own big b N hm;obtain⟨ds,hds,hdu⟩:=hex _ hrl;have V:∀d:List α,(d.flatMap enc).length=d.length*k:=cg enc k hk;have ac:ds.length=l.length:=by rw[<-hds,IS]
 refine(aa b ds arr hds hpos hb (by rw[show(ds.flatMap enc).length=(l.flatMap kc).length by rw[V,ac,t]];exact hdu.symm) hbs hbR).mono ?_;rintro e w' ⟨rfl,ds',hp,hs,q⟩;have ab:(ds'.map xf).Perm l:=hds▸hp.map xf;have H:(ds'.map xf).length=l.length:=ab.length_eq;have U:ds'.length=l.length:=by rw[<-H,IS]
 obtain⟨arr',hb',hs',ht'⟩:=q.cells arr _ _ hb (by rw[V,U,<-t,harr];exact hle);refine⟨.tuple #[],.bS [],_,m,R.p,O,⟨ds'.map xf,ds',ab,O,hs,O,O⟩,O,I _,?_,by simp only[Rel];exact⟨[],O,by simp only[ZJ]⟩⟩;refine⟨λi=>?_,λi h=>?_,λi o b' N' h h'=>?_,j.inj,λi b' N' h=>?_,λb' h=>VW (j.rsz b' h) q.size,λb' h=>j.rfr b' h,j.r0,⟨q.os,q.tape,q.output,q.size,λk hk hF=>q.block k hk λe=>hF (e▸⟨big,N,hm⟩)⟩,j.keep,j.res⟩
 .by_cases hi:i=big
  .subst hi;rw[s,hm];exact(G _ H).symm
  rw[z hi];have:=j.dom i;rw[z hi]at this;exact this
 .by_cases hi:i=big
  .subst hi;have:=j.free _ h;rw[s]at this;cases this
  exact z hi
 .by_cases hi:i=big
  .subst hi;rw[s]at h;cases h;rw[hm]at h';cases h';refine⟨arr',hb',hs'.trans harr,by rw[t,H,<-t];exact hle,?_⟩;have e:((ds'.map xf).flatMap kc).length=(ds'.flatMap enc).length:=by rw[t,V,H,U]
   rw[e,ht'];exact Y w' (λb2 h2=>q.block b2 (j.rsz b2 h2) λe=>hbR (e▸h2)) ds'
  rw[z hi]at h;cases h
 have:=j.own i b' N' h;exact⟨VW this.1 q.size,this.2⟩
end
end
end Go.Proofs.YthicoeegbdboeaaGreatDoor
namespace Go.Proofs
open Go.Proofs.YthicoeegbdboeaaGreatDoor
open Go.Shelf
def Tryz.sortPar_ren:Go.Shelf.Ren:=⟨fun|6=>83|15=>149|14=>148|28=>202|29=>203|20=>194|21=>195|22=>196|23=>197|24=>198|25=>199|26=>200|27=>201|46=>247|47=>248|48=>249|49=>250|50=>251|57=>290|n=>n,fun|22=>61|24=>111|25=>152|3=>3|39=>210|0=>0|53=>291|55=>268|4=>4|46=>284|45=>283|50=>288|5=>5|9=>9|66=>330|70=>334|76=>363|77=>364|n=>n,fun|n=>n⟩
theorem Tryz.sortPar:Go.Proofs.SlLaysF0.n6 prog Tryz.sortPar_ren:={
 mixed:=Zj
 f6:=⟨Tryz.f83.name,Zk,func83.trans (ah WB Zj)⟩
 f14:=⟨Tryz.f148.name,Zk,func148.trans (ah WB Zj)⟩
 f15:=func149.trans (ah WB Zj)
 f20:=⟨Tryz.f194.name,Zk,func194.trans (ah WB Zj)⟩
 f21:=⟨Tryz.f195.name,Zk,func195.trans (ah WB Zj)⟩
 f22:=⟨Tryz.f196.name,Zk,func196.trans (ah WB Zj)⟩
 f23:=⟨Tryz.f197.name,Zk,func197.trans (ah WB Zj)⟩
 f24:=⟨Tryz.f198.name,Zk,func198.trans (ah WB Zj)⟩
 f25:=⟨Tryz.f199.name,Zk,func199.trans (ah WB Zj)⟩
 f26:=⟨Tryz.f200.name,Zk,func200.trans (ah WB Zj)⟩
 f27:=⟨Tryz.f201.name,Zk,func201.trans (ah WB Zj)⟩
 f28:=func202.trans (ah WB Zj)
 f29:=func203.trans (ah WB Zj)
 f46:=⟨Tryz.f247.name,Zk,func247.trans (ah WB Zj)⟩
 f47:=func248.trans (ah WB Zj)
 f48:=func249.trans (ah WB Zj)
 f49:=⟨Tryz.f250.name,Zk,func250.trans (ah WB Zj)⟩
 f50:=⟨Tryz.f251.name,Zk,func251.trans (ah WB Zj)⟩
 f57:=⟨Tryz.f290.name,Zk,func290.trans (ah WB Zj)⟩
 t0:=underlying0
 a0:=isAgg0
 z0:=sizeOf0
 v0:=zeroValue0
 t3:=aan
 a3:=isAgg3
 z3:=sizeOf3
 v3:=zeroValue3
 t4:=underlying4
 a4:=isAgg4
 z4:=sizeOf4
 v4:=zeroValue4
 t5:=aau
 a5:=isAgg5
 z5:=sizeOf5
 v5:=zeroValue5
 t9:=aam
 a9:=isAgg9
 z9:=sizeOf9
 v9:=zeroValue9
 t22:=underlying61
 a22:=isAgg61
 z22:=sizeOf61
 v22:=zeroValue61
 t25:=underlying152
 a25:=isAgg152
 z25:=sizeOf152
 v25:=zeroValue152
 t39:=underlying210
 a39:=isAgg210
 z39:=sizeOf210
 v39:=zeroValue210
 t45:=underlying283
 a45:=isAgg283
 z45:=sizeOf283
 v45:=zeroValue283
 t46:=underlying284
 a46:=isAgg284
 z46:=sizeOf284
 v46:=zeroValue284
 t50:=underlying288
 a50:=isAgg288
 z50:=sizeOf288
 v50:=zeroValue288
 t53:=underlying291
 a53:=isAgg291
 z53:=sizeOf291
 v53:=zeroValue291
 t55:=aaE
 a55:=isAgg268
 z55:=sizeOf268
 v55:=zeroValue268
 t66:=underlying330
 a66:=isAgg330
 z66:=sizeOf330
 v66:=zeroValue330
 t70:=underlying334
 a70:=isAgg334
 z70:=sizeOf334
 v70:=zeroValue334
 t76:=underlying363
 a76:=isAgg363
 z76:=sizeOf363
 v76:=zeroValue363
 t77:=underlying364
 a77:=isAgg364
 z77:=sizeOf364
 v77:=zeroValue364 }
def Tryz.sortPP_ren:Go.Shelf.Ren:=⟨fun|6=>124|15=>149|14=>177|28=>202|29=>203|20=>232|21=>233|22=>234|23=>235|24=>236|25=>237|26=>238|27=>239|46=>284|47=>248|48=>249|49=>285|50=>286|57=>319|n=>n,fun|22=>153|24=>156|25=>160|3=>3|39=>210|0=>0|53=>291|55=>268|4=>4|46=>284|45=>283|50=>288|5=>5|9=>9|66=>330|70=>334|76=>363|77=>364|n=>n,fun|n=>n⟩
theorem Tryz.sortPP:Go.Proofs.SlLaysF0.n6 prog Tryz.sortPP_ren:={
 mixed:=Zj
 f6:=⟨Tryz.f124.name,Zk,func124.trans (ah WB Zj)⟩
 f14:=⟨Tryz.f177.name,Zk,func177.trans (ah WB Zj)⟩
 f15:=func149.trans (ah WB Zj)
 f20:=⟨Tryz.f232.name,Zk,func232.trans (ah WB Zj)⟩
 f21:=⟨Tryz.f233.name,Zk,func233.trans (ah WB Zj)⟩
 f22:=⟨Tryz.f234.name,Zk,func234.trans (ah WB Zj)⟩
 f23:=⟨Tryz.f235.name,Zk,func235.trans (ah WB Zj)⟩
 f24:=⟨Tryz.f236.name,Zk,func236.trans (ah WB Zj)⟩
 f25:=⟨Tryz.f237.name,Zk,func237.trans (ah WB Zj)⟩
 f26:=⟨Tryz.f238.name,Zk,func238.trans (ah WB Zj)⟩
 f27:=⟨Tryz.f239.name,Zk,func239.trans (ah WB Zj)⟩
 f28:=func202.trans (ah WB Zj)
 f29:=func203.trans (ah WB Zj)
 f46:=⟨Tryz.f284.name,Zk,func284.trans (ah WB Zj)⟩
 f47:=func248.trans (ah WB Zj)
 f48:=func249.trans (ah WB Zj)
 f49:=⟨Tryz.f285.name,Zk,func285.trans (ah WB Zj)⟩
 f50:=⟨Tryz.f286.name,Zk,func286.trans (ah WB Zj)⟩
 f57:=⟨Tryz.f319.name,Zk,func319.trans (ah WB Zj)⟩
 t0:=underlying0
 a0:=isAgg0
 z0:=sizeOf0
 v0:=zeroValue0
 t3:=aan
 a3:=isAgg3
 z3:=sizeOf3
 v3:=zeroValue3
 t4:=underlying4
 a4:=isAgg4
 z4:=sizeOf4
 v4:=zeroValue4
 t5:=aau
 a5:=isAgg5
 z5:=sizeOf5
 v5:=zeroValue5
 t9:=aam
 a9:=isAgg9
 z9:=sizeOf9
 v9:=zeroValue9
 t22:=underlying153
 a22:=isAgg153
 z22:=sizeOf153
 v22:=zeroValue153
 t25:=underlying160
 a25:=isAgg160
 z25:=sizeOf160
 v25:=zeroValue160
 t39:=underlying210
 a39:=isAgg210
 z39:=sizeOf210
 v39:=zeroValue210
 t45:=underlying283
 a45:=isAgg283
 z45:=sizeOf283
 v45:=zeroValue283
 t46:=underlying284
 a46:=isAgg284
 z46:=sizeOf284
 v46:=zeroValue284
 t50:=underlying288
 a50:=isAgg288
 z50:=sizeOf288
 v50:=zeroValue288
 t53:=underlying291
 a53:=isAgg291
 z53:=sizeOf291
 v53:=zeroValue291
 t55:=aaE
 a55:=isAgg268
 z55:=sizeOf268
 v55:=zeroValue268
 t66:=underlying330
 a66:=isAgg330
 z66:=sizeOf330
 v66:=zeroValue330
 t70:=underlying334
 a70:=isAgg334
 z70:=sizeOf334
 v70:=zeroValue334
 t76:=underlying363
 a76:=isAgg363
 z76:=sizeOf363
 v76:=zeroValue363
 t77:=underlying364
 a77:=isAgg364
 z77:=sizeOf364
 v77:=zeroValue364 }
end Go.Proofs
namespace Go.Proofs.YthicoeegbdboeaaGreatDoor
section
open Go.RowKit Mm Jn
theorem PX{K:Type}{cmp:K->K->Int}(h:Mm.Cmp cmp):Go.Sort.SWO (Go.Proofs.ltOf cmp):=by
 have e:∀x y,Go.Proofs.ltOf cmp x y=decide (cmp x y<0):=λ_ _=>rfl
 refine⟨λx=>?_,λx y z q j=>?_,λx y z q j=>?_⟩
 .rw[e];have:=h.swap x x;exact VL Zi
 .rw[e]at*;exact VK (h.trans (Xh q) (Xh j))
 rw[e]at*;have q:=Xx q;have j:=Xx j;refine VL λs=>?_
 by_cases h0:cmp x y=0
 .rw[h.zero h0]at s;exact j s
 exact j (h.trans (by have:=h.swap x y;omega:cmp y x<0) s)
theorem wL{K:Type}{cmp:K->K->Int}(h:Mm.Cmp cmp):∀{xs l:List K},l.Perm xs->xs.Pairwise (λa b=>cmp a b<0)->l.Pairwise (λa b=>¬cmp b a<0)->l=xs
 |[],l,hp,_,_=>List.Perm.eq_nil hp
 |x::xs,[],hp,_,_=>absurd hp.length_eq Zm
 | x::xs,y::t,hp,ha,hb=>by
   obtain⟨a1,a2⟩:=WX.1 ha;obtain⟨b1,b2⟩:=WX.1 hb;have j:y=x:=by grind[By.1,Xj]
   subst j;rw[wL h hp.cons_inv a2 b2]
def zu(x:ZM):e7:=[.int .i64 x.f,.string x.c]
instance :Inhabited ZM:=⟨⟨0,⟨#[]⟩⟩⟩
theorem Ql:∀{l:u9}{w:World}{R:ew}{us:e7},ZG w R (l.flatMap pO) us->l.flatMap zu=us
 |[],_,_,us,h=>by simp only[List.flatMap_nil,ZG]at h;rw[h];rfl
 | x::l,w,R,us,h=>by
   rw[Wc]at h;have h1:ZG w R (pO x) (us.take 2):=by have:=h.take 2;rwa [show(pO x++l.flatMap pO).take 2=pO x from List.take_left' O]at this
   have j:ZG w R (l.flatMap pO) (us.drop 2):=by have:=h.drop 2;rwa [show(pO x++l.flatMap pO).drop 2=l.flatMap pO from List.drop_left' O]at this
   rw[Wc,Ql j];have e:us.take 2=zu x:=by
    simp only[ZG,ZH]at h1;obtain⟨_,_,e,rfl,_,_,rfl,rfl,rfl⟩:=h1;exact e
   rw[<-e,WV]
theorem U6(w:World)(R:ew):∀(l:u9),ZG w R (l.flatMap pO) (l.flatMap zu)
 |[]=>by simp[ZG]
 | x::l=>by
   rw[Wc,Wc];exact ZG.append (ZG.cons (by simp only[ZH]) (ZG.cons (by simp only[ZH]) ZG.nil)) (U6 w R l)
theorem uC(l:u9)(hl:l.length<=1000000):
  ZS prog 83 1 0 [.bz big 2 l.length,.pv (.fn (.func 59) [] [])] [(big,.bD 111 (p7 l))] (λv ob'=>∃l',l'.Perm l/\(l'.Pairwise λa b=>¬bY b a<0)/\v= .bS []/\ob'=au [(big,.bD 111 (p7 l'))]):=by
 intro w m R us hR hrel;simp only[ZJ,Rel,ZH]at hrel;obtain⟨u1,us1,rfl,⟨_,A,c,rfl,hnc,hcm,h0,h1⟩,u2,us2,rfl,⟨fs,cs,rfl,hfs,hcs⟩,rfl⟩:=hrel;obtain rfl:=(by simpa[ZG]using hfs:fs=[]);obtain rfl:=(by simpa[ZG]using hcs:cs=[]);refine(xY (α:=ZM) zu (λ_=>rfl) pO (λ_=>rfl) Zk id (λj=>j.Pairwise λa b=>Go.Proofs.ltOf bY b a=YL) List.Pairwise.nil hR (λh=>(h0 h).1) h1 (λus h=>⟨l,Ze _,Ql h⟩) (λw' _ j=>by rw[Ze];exact U6 w' R.p j)
  (AnyF.slices_SortFunc_none Tryz.sortPar WC c _ w) ?_).mono ?_
 .intro b j arr hds hpos hb ht hbs hbR;rw[Ze]at hds;subst hds;have q:=AnyQ.slices_SortFunc Tryz.sortPar 2 isAgg111 sizeOf111 zu (λ_=>rfl) (λx v hv=>by simp only[zu,By,Xv,Y0]at hv;rcases hv with hv|hv<;>(rw[hv];rfl)) bY (PX eM) 59 #[] b 0 c j.toArray w call59
   (λmm os dk _ x y=>Ca x y _) (xt Zk zu (λ_=>rfl) hb ht) hbs (by rw[WQ];omega)
  rw[WQ]at q;refine Calls.mono q ?_;rintro e w' ⟨rfl,d',n,os,hp,hs,rfl⟩;have s:d'.size=j.length:=hp.1.trans WQ;exact⟨O,d'.toList,permIn_all WQ hp,pD s hs,IE Zk zu (λ_=>rfl) w b n d' os hbs⟩
 rintro e w' ⟨u,v,ob',m',R',rfl,⟨l',ds',hp,rfl,hs,rfl,rfl⟩,r⟩;refine⟨u,_,_,m',R',O,⟨_,hp,?_,O,O⟩,r⟩;rw[Ze];exact hs.imp λh=>Xx h
theorem Ao(ks vs:na):ZK prog 58 [.mp ks vs] (· = .fn (.func 119) [] [.rp [.mp ks vs] 0]):=by
 refine ZC func58 O ntmps58 λ_ _ _ _=>?_
 exact Z2 O<|Vm (St.gR 0 O O)<|Z2 O<|YR O O
theorem xH(xs:u9)(vs:na)(u:xs.length<=1000000)(z:xs.Pairwise λa b=>bY a b<0):
  ZK prog 57 [.fn (.func 119) [] [.rp [.mp (xs.map bu) vs] 0],.fn (.func 59) [] []] (· = .sl WC xs.length (p7 xs)):=by
 have j:=K8 xs vs u;refine ZC func57 O ntmps57 λ_ _ _ _=>?_
 refine Z1 O<|Z1 O<|RL.call O (cf [] 0 call118 O O O O (by exact trivial) Zk O j ?_);rintro _ _ ⟨ss,hS,rfl,rfl⟩;refine A1 O ?_;have q:ss.length<=1000000:=by rw[hS.length_eq];exact u
 have s:=uC ss q;refine Z2 O<|RL.call O (cf [0] 1 call83 O O O O (by exact⟨Zj,Zp⟩) Zk O s ?_);rintro _ _ ⟨l',hp,ho,rfl,rfl⟩;obtain rfl:l'=xs:=wL eM (hp.trans hS) z ho;have t:ss.length=l'.length:=hS.length_eq;rw[t]at*;exact Z2 O<|YR O O
def yQ(x:PP):e7:=[.int .i64 x.1.f,.string x.1.c,.int .i64 x.2.f,.string x.2.c]
instance :Inhabited PP:=⟨(⟨0,⟨#[]⟩⟩,⟨0,⟨#[]⟩⟩)⟩
theorem PJ:∀{l:List PP}{w:World}{R:ew}{us:e7},ZG w R (l.flatMap ppC) us->l.flatMap yQ=us
 |[],_,_,us,h=>by simp only[List.flatMap_nil,ZG]at h;rw[h];rfl
 | x::l,w,R,us,h=>by
   rw[Wc]at h;have h1:ZG w R (ppC x) (us.take 4):=by have:=h.take 4;rwa [show(ppC x++l.flatMap ppC).take 4=ppC x from List.take_left' O]at this
   have j:ZG w R (l.flatMap ppC) (us.drop 4):=by have:=h.drop 4;rwa [show(ppC x++l.flatMap ppC).drop 4=l.flatMap ppC from List.drop_left' O]at this
   rw[Wc,PJ j];have e:us.take 4=yQ x:=by
    simp only[ZG,ZH]at h1;obtain⟨_,_,e,rfl,_,_,rfl,rfl,_,_,rfl,rfl,_,_,rfl,rfl,rfl⟩:=h1;exact e
   rw[<-e,WV]
theorem UU(w:World)(R:ew):∀(l:List PP),ZG w R (l.flatMap ppC) (l.flatMap yQ)
 |[]=>by simp[ZG]
 | x::l=>by
   rw[Wc,Wc];exact ZG.append (ZG.cons (by simp only[ZH]) (ZG.cons (by simp only[ZH]) (ZG.cons (by simp only[ZH]) (ZG.cons (by simp only[ZH]) ZG.nil)))) (UU w R l)
theorem FY(l:List PP)(hl:l.length<=1000000):
  ZS prog 124 1 0 [.bz big 4 l.length,.pv (.fn (.func 62) [] [])] [(big,.bD 156 (vr l))] (λv ob'=>∃l',l'.Perm l/\(l'.Pairwise λa b=>¬cy b a<0)/\v= .bS []/\ob'=au [(big,.bD 156 (vr l'))]):=by
 intro w m R us hR hrel;simp only[ZJ,Rel,ZH]at hrel;obtain⟨u1,us1,rfl,⟨_,A,c,rfl,hnc,hcm,h0,h1⟩,u2,us2,rfl,⟨fs,cs,rfl,hfs,hcs⟩,rfl⟩:=hrel;obtain rfl:=(by simpa[ZG]using hfs:fs=[]);obtain rfl:=(by simpa[ZG]using hcs:cs=[]);refine(xY (α:=PP) yQ (λ_=>rfl) ppC (λ_=>rfl) Zk id (λj=>j.Pairwise λa b=>Go.Proofs.ltOf cy b a=YL) List.Pairwise.nil hR (λh=>(h0 h).1) h1 (λus h=>⟨l,Ze _,PJ h⟩) (λw' _ j=>by rw[Ze];exact UU w' R.p j)
  (AnyF.slices_SortFunc_none Tryz.sortPP WC c _ w) ?_).mono ?_
 .intro b j arr hds hpos hb ht hbs hbR;rw[Ze]at hds;subst hds;have q:=AnyQ.slices_SortFunc Tryz.sortPP 4 isAgg156 sizeOf156 yQ (λ_=>rfl) (λx v hv=>by simp only[yQ,By,Xv,Y0]at hv;rcases hv with hv|hv|hv|hv<;>(rw[hv];rfl)) cy (PX cZ) 62 #[] b 0 c j.toArray w call62
   (λmm os dk _ x y=>GL x y _) (xt Zk yQ (λ_=>rfl) hb ht) hbs (by rw[WQ];omega)
  rw[WQ]at q;refine Calls.mono q ?_;rintro e w' ⟨rfl,d',n,os,hp,hs,rfl⟩;have s:d'.size=j.length:=hp.1.trans WQ;exact⟨O,d'.toList,permIn_all WQ hp,pD s hs,IE Zk yQ (λ_=>rfl) w b n d' os hbs⟩
 rintro e w' ⟨u,v,ob',m',R',rfl,⟨l',ds',hp,rfl,hs,rfl,rfl⟩,r⟩;refine⟨u,_,_,m',R',O,⟨_,hp,?_,O,O⟩,r⟩;rw[Ze];exact hs.imp λh=>Xx h
theorem AB(ks vs:na):ZK prog 61 [.mp ks vs] (· = .fn (.func 125) [] [.rp [.mp ks vs] 0]):=by
 refine ZC func61 O ntmps61 λ_ _ _ _=>?_
 exact Z2 O<|Vm (St.gR 0 O O)<|Z2 O<|YR O O
theorem yg(xs:List PP)(vs:na)(u:xs.length<=1000000)(z:xs.Pairwise λa b=>cy a b<0):
  ZK prog 60 [.fn (.func 125) [] [.rp [.mp (xs.map ppP) vs] 0],.fn (.func 62) [] []] (· = .sl WC xs.length (vr xs)):=by
 have j:=Je xs vs u;refine ZC func60 O ntmps60 λ_ _ _ _=>?_
 refine Z1 O<|Z1 O<|RL.call O (cf [] 0 call123 O O O O (by exact trivial) Zk O j ?_);rintro _ _ ⟨ss,hS,rfl,rfl⟩;refine A1 O ?_;have q:ss.length<=1000000:=by rw[hS.length_eq];exact u
 have s:=FY ss q;refine Z2 O<|RL.call O (cf [0] 1 call124 O O O O (by exact⟨Zj,Zp⟩) Zk O s ?_);rintro _ _ ⟨l',hp,ho,rfl,rfl⟩;obtain rfl:l'=xs:=wL cZ (hp.trans hS) z ho;have t:ss.length=l'.length:=hS.length_eq;rw[t]at*;exact Z2 O<|YR O O
end
section


theorem St.Pk{σ τ:St}(q:σ.ob=τ.ob)(j:σ.av=τ.av)(hs:∀t w m R u,Rel w m σ.av R (σ.sl t) u->Rel w m σ.av R (τ.sl t) u):σ.le τ:=by
 rintro C n a w ⟨m,R,hw⟩;refine⟨m,R,⟨?_,hw.df,hw.sz,λt ht=>?_⟩⟩
 .have:=hw.hr;rw[q,j]at this;exact this
 rw[<-j];exact hs t w m R _ (hw.sl t ht)
def St.setSl(σ:St)(t:Nat)(v:V):St:=⟨λi=>bif Nat.beq i t then v else σ.sl i,σ.ob,σ.av⟩
theorem St.Ua{σ:St}{f:Fn}{fs cs:na}(t:Nat)(h:σ.sl t= .fn f (fs.map V.pv) (cs.map V.pv)):σ.le (σ.setSl t (.pv (.fn f fs cs))):=by
 refine St.Pk O O λi w m R u hu=>?_
 show Rel w m σ.av R (bif Nat.beq i t then _ else σ.sl i) u;cases hb:Nat.beq i t with
 |false=>exact hu
 | true=>
   obtain rfl:=bN hb;rw[h]at hu;simp only[Xe,Rel,ZH]at hu ⊢;obtain⟨us,vs,rfl,h1,h2⟩:=hu;exact⟨us,vs,O,h1.toP,h2.toP⟩
end
section
open Go.RowKit Mk Jn Mm
theorem rP(q:Rat)(h:F1 q):ZK prog 55 [frP q,.rp [ZU 0] 0] (· = .str (bk q)):=by
 refine ZC func55 O ntmps55 λ_ _ _ _=>?_
 have s:=ES q h;refine Z2 O<|Z1 O<|Rs O (aa call56 s O)<|Ar 5 O<|Z2 O<|Gc O (λj=>absurd j Zm) (λj=>?_);exact Vl<|Z2 O<|YR O O
theorem P4{K:Type}[BEq K][LawfulBEq K]{l:List (K×Rat)}(u:(l.map (·.1)).Nodup){i:Nat}(s:i<l.length):tx l l[i].1=WB l[i].2:=by
 have t:l.findIdx? (λe=>e.1==l[i].1)=WB i:=by
  rw[XT];refine⟨s,Zm,λj hj=>?_⟩;have q:=Wz.1 u j i Zn Zn hj;simp only[X4]at q;simpa using q
 unfold tx;rw[t];simp[s]
theorem PT{K:Type}{cmp:K->K->Int}(h:Mm.Cmp cmp){l:List (K×Rat)}(j:l.Pairwise λa b=>cmp a.1 b.1<0):(l.map (·.1)).Nodup:=by
 rw[List.Nodup,YV];refine j.imp fun{a b} h1 e=>?_
 rw[e]at h1;have:=h.swap b.1 b.1;omega
theorem NQ{l:List (ZM×Rat)}{k:Nat}(h:k<l.length):((p7 (l.map (·.1))).drop (k*2)).take 2=[.int .i64 l[k].1.f,.str l[k].1.c]:=by simp_all[eZ,pO,p7]
theorem SA{l:List (PP×Rat)}{k:Nat}(h:k<l.length):((vr (l.map (·.1))).drop (k*4)).take 4=[.int .i64 l[k].1.1.f,.str l[k].1.1.c,.int .i64 l[k].1.2.f,.str l[k].1.2.c]:=by simp_all[eZ,ppC,vr]
theorem Sm{l:List (ZM×Rat)}{k:Nat}(h:k<l.length):p7 (l.map (·.1))≠[]:=λe=>by have:=Cr (l.map (·.1));rw[e]at this;simp at this;omega
theorem T0{l:List (PP×Rat)}{k:Nat}(h:k<l.length):vr (l.map (·.1))≠[]:=λe=>by have:=DC (l.map (·.1));rw[e]at this;simp at this;omega
theorem Sr{l:List (ZM×Rat)}{i:Nat}(j:i<l.length):bB (tmL (l.take i))++[.int .i64 l[i].1.f,.str l[i].1.c,.str (bk l[i].2)]=bB (tmL (l.take (i+1))):=by rw[bP j];simp only[tmL,bB,Wf,Xn,ed,Wd,Wc,List.flatMap_nil,W7]
theorem Tb{l:List (PP×Rat)}{i:Nat}(j:i<l.length):bM (prL (l.take i))++[.int .i64 l[i].1.1.f,.str l[i].1.1.c,.int .i64 l[i].1.2.f,.str l[i].1.2.c,.str (bk l[i].2)]=bM (prL (l.take (i+1))):=by rw[bP j];simp only[prL,bM,Wf,Xn,ed,Wd,Wc,List.flatMap_nil,W7]
theorem HA(m:MC)(hs:m.s.Pairwise λa b=>bY a.1 b.1<0)(hp:m.p.Pairwise λa b=>cy a.1 b.1<0)(h1:MF1 m):ZK prog 24 [mcP m] (· = .bS [pP m,ZU 0]):=by
 refine ZD func24 O ntmps24 λ_ _ _ _=>?_
 have hct:=rP m.c h1.c;have hls:=h1.ls;have hlp:=h1.lp;have hk1:=Ao (aq bu m.s) (bm m.s);have hk2:=AB (aq ppP m.p) (bm m.p);have hm1:(m.s.map (·.1)).map bu=aq bu m.s:=by simp[aq]
 have hm2:(m.p.map (·.1)).map ppP=aq ppP m.p:=by simp[aq]
 have z:=xH (m.s.map (·.1)) (bm m.s) (by simpa using hls) (by rw[YV];exact hs);have G:=yg (m.p.map (·.1)) (bm m.p) (by simpa using hlp) (by rw[YV];exact hp);rw[hm1,IS]at z;rw[hm2,IS]at G;have Z:=PT eM hs;have ab:=PT cZ hp;have hd1:=C6 cu Z;have hd2:=C6 dd ab;refine Z3 O<|Z2 O<|Vm (St.gR 2 O O)<|Z2 O<|Vm (St.Ua (fs:=[]) (cs:=[.rp [.int .i64 0] 0]) 5 O)<|Z3 O<|Rs O (bX (fs:=[]) (ps:=[frP m.c]) (cs:=[.rp [.int .i64 0] 0]) call55 O hct O)<|Y3 O<|Vm (St.cD (T':=46) (cs:=[.pv (.str (bk m.c)),.pv nS,.pv nS]) 3 1 4 3 113 Zj O O)<|Vm (St.cD (T':=46) (cs:=[.pv (.str (bk m.c)),.bz 4 3 0,.pv nS]) 3 2 5 5 115 Zj O O)<|Z2 O<|Rs O (aa call58 hk1 O)<|Rs O (aa call57 z O)<|Y2 O<|Gz O (st:=λZq:Nat=>([(1,WC),(2,WC),(4,WC),(5,WC),(6,WC),(20,WC),(21,WC),(22,WB (ZI Zq))],[(0,WC),(1,WC),(3,WB (.mix 46 [.pv (.str (bk m.c)),.bz 4 3 Zq,.bz 5 5 0])),(4,WB (.bD 113 (bB (tmL (m.s.take Zq))))),(5,WC)])) 6
  (I:=λZq=>Zq<=m.s.length) (μ:=λZq=>m.s.length-Zq) (x0:=0) (Vn (aS O) (aO Zj) O O) (sh _) ?_
 rintro i hi;refine Z1 O<|Gp O (λac=>?_) (λac=>?_)
 .have hlt:i<m.s.length:=Zi;have t:=NQ hlt;have M:=Sm hlt;have U:=rP m.s[i].2 (h1.s _ (ak hlt));have u:=kr (g:=frP) cu m.s m.s[i].1;rw[P4 Z hlt]at u;have Y:=rz (tmL (m.s.take i));rw[wb,Vz,W6 hi]at Y;refine Vl<|Gr O<|Rs O (ai i underlying61 k9 O O O hlt M)<|Rs O (aD ⟨_,aaA,O⟩ k9 O t O)<|Y2 O<|VC 14 O<|Dr 7 O<|YM O (λτ h=>rW iI aax (.inr (.inl ⟨(Ee h 0 O),hd1⟩)) (Ee h 1 O) ⟨m.s[i].1,O⟩ uH O u O)<|YM O (λτ h=>bX (fs:=[]) (ps:=[frP m.s[i].2]) (cs:=[.rp [.int .i64 0] 0]) call55 (Ee h 0 O) U ((ah (λl=>(V.args (λ_=>WC) l).map PV.fgA) h.jX).trans O))<|Dr 5 O ⟨Zj,Z2 O<|⟨(i+1),Vo [0,1,2,3,8,5] (aT O) ⟨Zj,Zj,Zj,VT (b:=WB (.bD 113 (bB (tmL (m.s.take i))++[.int .i64 m.s[i].1.f,.str m.s[i].1.c,.str (bk m.s[i].2)]))) Zj (ah (λc=>WB (Ob.bD 113 c)) (Sr hlt)),Zj,Zp⟩ O O Zk O,hlt,Zi⟩⟩
 have hie:m.s.take i=m.s:=aG Zi;have hil:i=m.s.length:=Zi;rw[hie,hil];refine Gx O<|Z2 O<|Rs O (aa call61 hk2 O)<|Rs O (aa call60 G O)<|Y2 O<|Gz O (st:=λq:Nat=>([(1,WC),(2,WC),(4,WC),(5,WC),(6,WC),(43,WC),(44,WC),(45,WB (ZI q))],[(0,WC),(1,WC),(3,WB (.mix 46 [.pv (.str (bk m.c)),.bz 4 3 m.s.length,.bz 5 5 q])),(4,WC),(5,WB (.bD 115 (bM (prL (m.p.take q)))))])) 6
  (I:=λq=>q<=m.p.length) (μ:=λq=>m.p.length-q) (x0:=0) (Vn (aS O) (aO Zj) O O) (sh _) ?_
 rintro j hj;refine Z1 O<|Gp O (λad=>?_) (λad=>?_)
 .have hlt:j<m.p.length:=Zi;have t:=SA hlt;have M:=T0 hlt;have U:=rP m.p[j].2 (h1.p _ (ak hlt));have u:=kr (g:=frP) dd m.p m.p[j].1;rw[P4 ab hlt]at u;have Y:=rb (prL (m.p.take j));rw[vU,Vz,W6 hj]at Y;refine Vl<|Gr O<|Rs O (ai j underlying153 Nb O O O hlt M)<|Rs O (aD ⟨_,underlying156,O⟩ Nb O t O)<|Y2 O<|VC 17 O<|Dr 10 O<|YM O (λτ h=>rW yR aaD (.inr (.inl ⟨(Ee h 0 O),hd2⟩)) (Ee h 1 O) ⟨m.p[j].1,O⟩ uH O u O)<|YM O (λτ h=>bX (fs:=[]) (ps:=[frP m.p[j].2]) (cs:=[.rp [.int .i64 0] 0]) call55 (Ee h 0 O) U ((ah (λl=>(V.args (λ_=>WC) l).map PV.fgA) h.jX).trans O))<|Dr 5 O ⟨Zj,Z2 O<|⟨(j+1),Vo [0,1,2,3,4,8] (aT O) ⟨Zj,Zj,Zj,Zj,VT (b:=WB (.bD 115 (bM (prL (m.p.take j))++[.int .i64 m.p[j].1.1.f,.str m.p[j].1.1.c,.int .i64 m.p[j].1.2.f,.str m.p[j].1.2.c,.str (bk m.p[j].2)]))) Zj (ah (λc=>WB (Ob.bD 115 c)) (Tb hlt)),Zp⟩ O O Zk O,hlt,Zi⟩⟩
 have hje:m.p.take j=m.p:=aG Zi;have hjl:j=m.p.length:=Zi;rw[hje,hjl];refine Gx O<|Z2 O<|Gc O (λH=>absurd H Zm) (λH=>?_);exact Vl<|Vm (Vq (o:= .bD 113 (bB (tmL m.s))) 4 Zj O)<|Vm (Vq (o:= .bD 115 (bM (prL m.p))) 5 Zj O)<|Z3 O<|YR O ⟨⟨ar ⟨_,underlying46,O⟩ Tv O O O,Zp⟩,O⟩
end
section
namespace Vw
open Mm Jn Mk
set_option autoImplicit false
section
variable {Q:u9}{X:Nat->hC}
structure LfX(Q:u9)(X:Nat->hC)(lf:Int->er->Gv):Prop where
 g:∀v t,t∈X v.toNat->GvOk Q (lf v t)
 n:∀v t,(lf v t).n=1
 w:∀v t,(lf v t).w=1
 k:∀v t,(lf v t).k=1
 x0:∀a,(⟨#[]⟩:er)∈X a
end
end Vw
end
section
namespace Vw
open Mm Jn Mk
set_option autoImplicit false
theorem sv{α:Type}[BEq α][LawfulBEq α]:∀{l Q:List α},l.Nodup->(∀a∈l,a∈Q)->l.length<=Q.length
 |[],_,_,_=>sh _
 | a::l,Q,hn,hs=>by
   obtain⟨h1,h2⟩:=WW.1 hn;have j:=hs a Zm;have:=sv (l:=l) (Q:=Q.erase a) h2 λb hb=>(List.mem_erase_of_ne (λe=>h1 (by rw[<-e];exact hb))).2 (hs b (by simp[hb]))
   rw[List.length_erase_of_mem j]at this;have:=List.length_pos_of_mem j;rw[VI];omega
def sqL(Q:u9):List PP:=Q.flatMap λa=>Q.map λb=>(a,b)
theorem Sn(Q:u9):(sqL Q).length=Q.length*Q.length:=by
 unfold sqL;have:∀l:u9,(l.flatMap λa=>Q.map λb=>(a,b)).length=l.length*Q.length:=λl=>by
  induction l with
  |nil=>simp
  |cons a l ih=>rw[Wc,Hb,ih,IS,VI,Nat.add_mul];omega
 exact this Q
theorem Sz{Q:u9}{a b:ZM}(j:a∈Q)(q:b∈Q):(a,b)∈sqL Q:=V6.2 ⟨a,j,VS.2 ⟨b,q,O⟩⟩
theorem Ur{D:Int}{B:Nat}{q:Rat}(s:0<D)(t:D<=36)(u:dR D q)(z:bg B q)(h:B*36<1000000000):F1 q:=by have G:=u.PY s;have j:q.den<=36:=Zi;exact⟨Yn (OF z.num (Wn _ j)) h,Zi⟩
theorem PB{Q:u9}{W k:Nat}{x:ZB}(hs:SOk W k x)(u:Sup Q x)(V:Q.length<=1000)(q:9*k*k*W*36<1000000000)(aa:W*36<1000000000)(G:3*k*W*36<1000000000):MF1 (cn x):=by
 obtain⟨h,hx,_,_⟩:=hs.cn;refine⟨?_,λe he=>Ur Zk Zk (h.s.it e he) (h.sb e he) G,λe he=>Ur Zk Zk (h.p.it e he) (h.pb e he) q,?_,?_⟩
 .obtain⟨z,hz⟩:=h.ci;have q:=h.cb;rw[hz]at q ⊢;have Y:=q.num;have H:((z:Int):Rat).den=1:=rfl;rw[H,VY]at Y;exact⟨Zi,by rw[H];decide⟩
 .have h2:((cn x).s.map (·.1)).length<=Q.length:=sv h.s.nd λa ha=>by
   obtain⟨e,he,rfl⟩:=VS.1 ha;refine V5 λj=>?_
   have I:=u.s _ j;rw[<-hx]at I;have t:lk (cn x).s e.1=e.2:=fD h.s.nd he;exact h.s.nz O e he (t.symm.trans I)
  rw[IS]at h2;omega
 have h2:((cn x).p.map (·.1)).length<=(sqL Q).length:=sv h.p.nd λa ha=>by
  obtain⟨e,he,rfl⟩:=VS.1 ha;have t:lk (cn x).p e.1=e.2:=fD h.p.nd he;have Z:(cn x).sem.p e.1.1 e.1.2=e.2:=by
   rw[<-t];show lk (cn x).p (dD e.1.1 e.1.2)=_;rw[eu (h.po e he)]
  have M:x.p e.1.1 e.1.2≠0:=by rw[<-hx,Z];exact h.p.nz O e he
  have U:e.1.1∈Q/\e.1.2∈Q:=by
   refine⟨V5 λj=>M (u.p _ _ (.inl j)),V5 λj=>M (u.p _ _ (.inr j))⟩
  exact Sz U.1 U.2
 rw[IS,Sn]at h2;exact OF h2 (OF (Xa V V) Zk)
theorem Tm{Q:u9}{g:Gv}(h:GvOk Q g)(u:Q.length<=1000)(t:g.w<=40000)(j:g.k<=8):MF1 (cn g.m):=by have z:9*g.k*g.k*g.w<=9*8*8*40000:=Xa (Xa (Wn 9 j) j) t;have G:3*g.k*g.w<=3*8*40000:=Xa (Wn 3 j) t;exact PB h.s h.q u Zi Zi Zi
end Vw
end



section
open Go.RowKit Mk Jn Mm Vw
theorem NS(l:cP)(hl:l.length<=1000000):ZK prog 43 [al l] (· = ZU (orI l)):=by
 refine ZC func43 O ntmps43 λ_ _ _ _=>?_
 refine Z1 O<|Z1 O<|Z3 O<|Gz O (st:=λZq:Nat=>([(3,WC),(6,WC),(7,WC),(8,WB (ZI Zq))],[])) 0
  (I:=λZq=>Zq<=l.length/\∀i∈l.take Zq,i=0) (μ:=λZq=>l.length-Zq) (x0:=0) (Vn (aS O) trivial O O) (⟨sh _,λi hi=>by simp at hi⟩) ?_
 rintro k ⟨hk,hz⟩;refine Z1 O<|Gp O (λs=>?_) (λs=>?_)
 .have hlt:k<l.length:=Zi;have u:=bo hlt;have t:=aU hlt;have q:=λh=>DN hlt hz h
  refine Vl<|Z1 O<|A2 O Zl ?_;refine A1 O<|Z3 O ?_;refine Gc O (λj=>?_) (λj=>?_)
  .exact Z2 O<|YR O<|ah (PV.int .i64) (q (by simpa using j)).symm
  exact Vl<|Z2 O<|⟨(k+1),Vn (aS O) trivial O O,⟨Zi,λi hi=>by rw[bP hlt,We,VH]at hi;rcases hi with h|rfl;exact hz i h;simpa using j⟩,Zi⟩
 exact Gx O<|Z2 O<|YR O<|ah (PV.int .i64) (Cm λi hi=>hz i (by rwa [aG Zi])).symm
end
section
set_option autoImplicit false
theorem AW.Su{C:Ctx}{n:Nat}{Q:Exit->ZA}{σ:St}{c:Code}(τ:St)(j:AW C n c (Be (λs=>s.le τ) Q) σ)(q:AW C n c (Be (λ_=>False) Q) τ):AW C n (.loop c) Q σ:=by
 refine AW.loop (X:=Nat) (λx=>if x=0 then τ else σ) (λ_=>True) id 1 (by rw[AS Zk];exact λ_ _ _ _ h=>h) trivial λx _=>?_
 by_cases e:x=0
 .subst e;exact q.mono λe s h=>by
   cases e with
   |normal=>exact False.elim h
   |_=>exact h
 rw [AS e];exact j.mono λex s h=>by
  cases ex with
  |normal=>exact⟨0,h,Zp,X1 e⟩
  |_=>exact h
section
variable {C:Ctx}{n:Nat}{σ:St}{dst:YX}{ty:TypeId}{pos:String}{after:Y4}{gd:Option (Nat×Bool)}{x y:Operand}
theorem th{T e:TypeId}{z:Value}{size bytes k:Nat}{zs:na}{parts:Array (Nat×Operand)}(id:Nat)(H:ZP C.P T e z size bytes)(M:z.cells.toList.map fq=zs)(hk:0<k)(hk2:k*size<=16777216)(ab:σ.av id=YK)
  {vs:nR} (hf:dT (λi=>WB (i*size,size)) σ.ob ((mkZ zs (k*size)).map .pv) (parts.toList.map λp=>(p.1,σ.ev n p.2))=WB vs):
  XJ C n ⟨dst,.buildSlice T k parts,ty,pos,after,gd⟩ σ ⟨.bJ id size k,[(id,WB (.mix e vs))],[id]⟩:=by
 rintro a w Q ⟨m,R,hw⟩;obtain⟨i,hi,hz,hsize,hbytes⟩:=info_parts H.info;have U:zs.length=z.cells.size:=by rw[<-M];simp
 have Y:∀l:ee,ZG w R (l.map λi=>zs.getD (i%zs.length) .any) (l.map λi=>z.cells[i%z.cells.size]!):=by
  intro l;induction l with
  |nil=>simpa using ZG.nil
  | cons j l ih=>
    simp only[ed];refine ZG.cons ?_ ih;have t:0<z.cells.size:=by rw[H.zs];exact H.pos
    have Z:j%z.cells.size<z.cells.size:=WI _ t;rw[U,<-M];have e1:(z.cells.toList.map fq).getD (j%z.cells.size) .any=fq (z.cells[j%z.cells.size]!):=by
     simp[VO,Z]
    rw[e1];exact fl w R _
 have h0:ZG w R (mkZ zs (k*size)) ((Array.range (k*size)).map (z.cells[· %z.cells.size]!)).toList:=by
  have:=Y (List.range (k*size));simpa[mkZ]using this
 obtain⟨arr',hfill,hr'⟩:=hw.fill (λi=>WB (i*size,size)) parts.toList _ _ _ (ZJ.ofP h0) hf;have s:(parts.map λx=>(x.1,a.eval x.2)).toList=parts.toList.map λp=>(p.1,a.eval p.2):=Zm
 have t:0<k*size:=Y1 hk H.pos;have I:=run_buildSlice (P:=C.P) w T e k (parts.map λx=>(x.1,a.eval x.2)) arr' i z H.u hi hz (by rw[hsize];omega) (by rw[hsize];omega) (by rw[s,hsize];exact hfill);have hcl:vs.length=k*size:=by
  have:∀(l:Zx)(cells cs':nR),dT (λi=>WB (i*size,size)) σ.ob cells l=WB cs'->cs'.length=cells.length:=by
   intro l;induction l with
   |nil=>intro cells cs' h;simp only[dT,VM]at h;rw[h]
   | cons p l ih=>
     obtain⟨q,v⟩:=p;intro cells cs' h;simp only[dT]at h;rw[Bool.cond_eq_ite]at h;split at h
     .rename_i hc;simp only[aJ]at hc;rw[ih _ _ h,cH];have h1:=bN hc.1.1.1;have h2:=V7 hc.1.1.2;omega
     cases h
  have:=this _ _ _ hf;simpa[mkZ]using this
 have G:(execOp a.eval ⟨dst,.buildSlice T k parts,ty,pos,after,gd⟩).run C.P w= .ok (.value (.slice (WB ⟨w.heap.size,0,WC⟩) k k)) (w.alloc (.cells arr' e)):=by
  simp only[execOp,Sem.run_bind,I,Result.andThen_ok,Sem.run_pure]
 unfold Oper.wp;rw[G];have aa:arr'.size=k*size:=by have:=hr'.length;simp at this;omega
 refine⟨_,O,upd m id (WB (w.heap.size,arr'.size)),R,?_⟩;rw[Vu];refine SW.put (hw.alloc ab _ e (.mix e vs) ?_) dst ?_
 .intro w' m' av' hR hm ha hb;refine⟨_,hb,O,Zi,?_⟩;rw[aG Zn];exact hr'.mono hR hm ha
 simp only[Rel];refine⟨by simp[avL],λb N e=>?_⟩;rw[aA]at e;cases e;have:k<=k*size:=Nat.le_mul_of_pos_right k H.pos;exact⟨k,O,BY _,by simp only[maxLen];omega,aa⟩
theorem tr{T e:TypeId}{z:Value}{bytes i j c:Nat}{o:Ob}(id:Nat)(s:ZP C.P T e z 1 bytes)(q:σ.av id=YK)(t:σ.ev n y= .bJ i j c)(ho:σ.ob i=WB o)(u:o.real=YK:=by rfl):
  XJ C n ⟨dst,.buildSlice T 1 #[(0,y)],ty,pos,after,gd⟩ σ ⟨.bJ id 1 1,[(id,WB (.mix e [.bJ i j c]))],[id]⟩:=by
 refine th id s O Zk Zk q ?_;have hl:(V.bJ i j c).cq σ.ob=YK:=by show cC (σ.ob i)=YK;rw[ho];exact u
 show dT _ σ.ob _ [(0,σ.ev n y)]=_;rw[t];simp only[dT,V.cells,Xi,Yp,hl];rfl
theorem xJ{f:Fn}{fs cs:Array Operand}{ps qs:na}(s:fs.toList.map (σ.ev n)=ps.map V.pv)(t:cs.toList.map (σ.ev n)=qs.map V.pv):XJ C n ⟨dst,.makeFunc f fs cs,ty,pos,after,gd⟩ σ ⟨.pv (.fn f ps qs),[],[]⟩:=
 .val λa w m R hw=>by
  refine⟨.func f (fs.map a.eval) (cs.map a.eval),by simp[execOp,Instr.makeFunc],?_⟩;have j:=hw.evs fs.toList;have q:=hw.evs cs.toList;rw[s]at j;rw[t]at q;simp only[Rel,ZH];exact⟨_,_,by simp only[<-Y9,YP],j.toP,q.toP⟩
end
end
section
open Mk Jn
open Mm (SOk cnt bH aM cn ZB)
abbrev ML(S:ZN):PV:= .rp [.sl WC S.aj.length (aR S.aj),.sl WC S.aU.length (aZ S.aU),.sl WC S.bo.length (aK S.bo),.int .i64 S.label] 0
theorem Md(n:Nat):momP (cnt (n:Int))= .agg [.bool YL,bE n,.bool YL,bE 1,.mp [] [],.mp [] []]:=by show mcP _=_;rw[Mm.tJ];have j:(((n:Int):Rat)).num=(n:Int):=rfl;have q:(((n:Int):Rat)).den=1:=rfl;show PV.agg [.bool (decide ((((n:Int):Rat)).num<0)),bE (((n:Int):Rat)).num.natAbs,.bool (decide (((((n:Int):Rat)).den:Int)<0)),bE ((((n:Int):Rat)).den:Int).natAbs,.mp [] [],.mp [] []]=_;simp only[j,q,VZ];rw[show decide ((n:Int)<0)=YL from VL Zi];rfl
theorem KE(n:Nat)(h:n<=9223372036854775807):ZK prog 46 [ZU n] (· = .agg [.bool YL,bE n,.bool YL,bE 1,.mp [] [],.mp [] []]):=(qk n h).mono λv e=>by rw[e];exact Md n
theorem Jl(S:ZN)(T:Gk)(lp:cP)(pk pv:na)(D:VD)(E:MD)(t:Jp S T lp pk pv D)(P:cP)(hc:CtxM (jdM S T lp D) P D E)(u:E.caps=[ML S]):
  ZS prog 22 2 0 [.pv (fp S),.ptr big 0,.pv .nilmap] (jnO S T lp pk pv) (λv ob'=>v=momW (qg aM E.lf cnt (jdM S T lp D) P)/\ob'=au (jnO S T lp [.int .i64 (-1)] [ij D])):=by
 refine ZF func22 O ntmps22 λ_ _ _ _=>?_
 have q:=KE 0 Zk;have s:=KE 1 Zk;have j:ZS prog 50 2 0 [.ptr big 0,.pv .nilmap,.pv SZ,.pv E.L,.pv wtM] (jnO S T lp pk pv) (λv ob'=>v=momW (qg aM E.lf cnt (jdM S T lp D) P)/\ob'=au (jnO S T lp [.int .i64 (-1)] [ij D])):=GW S T lp pk pv D E t P hc;rw[hc.f,u]at j;generalize qg aM E.lf cnt (jdM S T lp D) P=x at*;exact Z2 O<|Gr O<|Rs O (aa call46 q O)<|Rs O (aa call46 s O)<|Y3 O<|Vm (St.gR 0 O O)<|Z3 O<|Rs O (xJ (ps:=[]) (qs:=[ML S]) O O)<|Rs O (az [big,9001] 3 call50 j O O O O ⟨O,O,Zp⟩ Zk O)<|A1 O<|Gt O<|⟨[(6,.ptr 1 0)],[(big,jobM S T lp),(aag D),(1,momO x)],[momW x],[(big,jobM S T lp),(aag D)],2,Vn (aS O) (aO Zj) O O,O,⟨ar ⟨_,aap,O⟩ s0 O O O,Zp⟩,O,O,λi o h=>nF _ [(1,momO x)] i o h,Zk,O,O⟩
theorem Kc(S:ZN)(hB:SB S)(P:cP)(q:P.length<=1000000)(s:FK S P=0)(d:Gk)(hc:ZK prog 45 [fp S,dbP d] (· = ZU 0)):ZK prog 21 [fp S,l7 P,dbP d] (· = ZU 0):=by
 refine ZC func21 O ntmps21 λ_ _ _ _=>?_
 have ho:=AG S hB P q;rw[s]at ho;have j:=NS [0,0] Zk;refine Z3 O<|VC 9 O<|Dr 2 O<|YM O (λτ h=>aa call44 ho (h.aE O))<|Dr 2 O<|YM O (λτ h=>aa call45 hc (h.aE O))<|YM O (λτ h=>ax WC Zm el183 O Zk Zk (h.uU O O) O)<|YM O (λτ h=>aa call43 j (h.aE O))<|D1 O O ⟨Zj,YR O O⟩
noncomputable abbrev jdD(S:ZN)(d:Gk):JD:=jdM S (dA S d) (lstL S) (planS S)
theorem kX{S:ZN}{d:Gk}(h:DbOk S d)(P:cP)(H:P.length<=1000000)(I:FK S P=0)(E:MD)(M:E.caps=[ML S])(hc:CtxM (jdD S d) (ordL S (lstL S)) (planS S) E)(x:ZB)(G:x=qg aM E.lf cnt (jdD S d) (ordL S (lstL S))){W k:Nat}(U:SOk W k x)(V:MF1 (cn x)):
  ZK prog 8 [fp S,l7 P,dbP d] (· = .bS [pP (cn x),ZU 0]):=by
 refine ZD func8 O ntmps8 λ_ _ _ _=>?_
 have z:=Kc S h.hB P H I d h.check;have q:=h.new;have s:=Jl S (dA S d) (lstL S) [] [] (planS S) E h.plan0 _ hc M;obtain⟨_,_,ha,hb⟩:=U.cn;have t:=HA (cn x) ha hb V;rw[<-G]at s;have u:ZK prog 24 [momP x] (· = .bS [pP (cn x),ZU 0]):=t;clear G hc t ha hb;refine Z4 O<|Z3 O<|Rs O (aa call21 z O)<|A1 O<|Z2 O<|Gc O (λj=>absurd j Zk) (λj=>?_);refine Vl<|VC 10 O<|Dr 3 O<|YM O (λτ h=>az [] 3 call23 q (h.args.trans O) O O O trivial Zk (by show(τ.av 3&&(τ.av 4&&YK))=YK;rw[h.n 0 _ O,h.n 1 _ O];rfl)) ?_;refine YQ [3,4] O (λτ h=>az [3,4] 5 call22 s (h.args.trans Zj) O O O ⟨((h.o 0 _ O).trans Zj),((h.o 1 _ O).trans Zj),Zp⟩ Zk O)<|YM O (λτ h=>aa call24 u (h.aE O))<|Dr 4 O ⟨Zj,YR O ⟨⟨ar ⟨_,underlying46,O⟩ Tv O O O,Zp⟩,O⟩⟩
end


section
open Mk Jn
theorem zf_of{y:er}(h:y.data.toList.all (· !=0)=YK):Zf y:=λj=>by
 have:=IN.1 h _ j;simp at this
theorem QL{v:er}{kd:Int}(h:v∈ig kd):Zf v/\v.size<=10000:=by
 have j:∀l:hC,(∀y∈l,y.data.toList.all (· !=0)=YK/\y.size<=10000)->v∈l->Zf v/\v.size<=10000:=λl hl hm=>⟨zf_of (hl v hm).1,(hl v hm).2⟩
 unfold ig at h;split at h
 .exact j _ Zk h
 split at h
 .exact j _ Zk h
 exact j _ Zk h
theorem Lx{l:om}{B:Int}(h:∀x∈l,x.w<=B):k6 l<=B*l.length:=by
 unfold k6;induction l with
 |nil=>simp
 | cons x l ih=>
   have j:=h x Zm;have q:=ih λy hy=>h y (by simp[hy])
   simp only[ed,Xt,VI];rw[Int.natCast_add,Int.mul_add];have:B*((1:Nat):Int)=B:=Zm;omega
theorem wA{S:ZN}{A:cP}(I:∀a∈S.aj,a.2=1\/a.2=2\/a.2=3)(M:∀a∈A,0<=a/\a<S.aj.length){most:Nat}(Y:most<=20){l:om}(h:MdT S A most l):TblOk S A 1 l/\l.length<=most/\(∀x∈l,∀y∈x.v,Zf y/\y.size<=10000)/\∀x∈l,x.w<=5*most:=by
 obtain⟨l0,rfl,hl,hx⟩:=h;have G:∀z∈l0,0<z.w:=λz hz=>by have:=(hx z hz).1;omega
 have hs:=pZ G;have U:k6 l0<=5*l0.length:=Lx λx hx'=>(hx x hx').1.2
 have j:∀x∈qZ l0,MdV S A x.v:=λx hx'=>by
  obtain⟨z,hz,e⟩:=hs.val x hx';rw[e];exact(hx z hz).2
 have q:∀x∈qZ l0,x.w<=5*most:=λx hx'=>by
  have u:=Hc (hs.pos G) x hx';rw[hs.tot]at u;omega
 refine⟨⟨λx hx'=>⟨(j x hx').1,λi u H nm=>?_,?_⟩,hs.asc⟩,OF hs.len hl,λx hx' y hy=>?_,q⟩
 .have hv:=(j x hx').2 i u H;have V:=M _ (ak H);refine FC nm _ _ ?_ hv;have s:A[i].toNat<S.aj.length:=Zi;rw[uk s];exact I _ (ak s)
 .have u:=hs.pos G x hx';have H:=q x hx';omega
 obtain⟨i,hi,rfl⟩:=WR.1 hy;have t:=j x hx';exact QL (t.2 i hi (by rw[<-t.1];exact hi))
theorem qG{S:ZN}(hB:SB S)(hc:bF S=0)(hS:SJn S)(j:∀a∈S.aj,a.2=1\/a.2=2\/a.2=3){most:Nat}(z:most<=12){d:Gk}(u:d.length=S.aU.length)(q:∀i (h:i<d.length) (s:i<S.aU.length),MdT S S.aU[i].2 most d[i]):DbOk S d where
 hB:=hB
 hc:=hc
 hS:=hS
 n:=u
 l:=λl hl=>by
  obtain⟨i,hi,rfl⟩:=WR.1 hl;have:=(wA j (hS.b _ (ak (show i<S.aU.length by omega))) Zi (q i hi Zi)).2.1;omega
 t:=λr h s=>(wA j (hS.b _ (ak s)) Zi (q r h s)).1
 zf:=λl hl=>by
  obtain⟨i,hi,rfl⟩:=WR.1 hl;exact(wA j (hS.b _ (ak (show i<S.aU.length by omega))) Zi (q i hi Zi)).2.2.1
def v0(x:Rw):er:=x.v.getD 0 eb
end

section
open Mk Jn
theorem wM(d:Gk):∀c∈bO d,c.leaf=YK:=λc hc=>by
 simp only[bO,VS]at hc;obtain⟨l,_,rfl⟩:=hc;rfl
theorem Ex{S:ZN}{most o:Nat}(h:Made S most o):∀a∈S.aj,a.2=1\/a.2=2\/a.2=3:=λa ha=>by
 obtain⟨i,hi,rfl⟩:=WR.1 ha;have:=h.at' i hi;omega
theorem DT{S:ZN}{o:Nat}(h:Made S 5 o):SJn S:=
 Va (ji (ko h Zk)) (by have:=h.r2;omega) λx hx=>by
  obtain⟨i,hi,rfl⟩:=Xp hx;have:=sw (h.rs i hi).2.2.1 (h.rs i hi).2.2.2;have:=h.a2;omega
theorem Ro{S:ZN}{o most:Nat}{d:Gk}(j:Made S 5 o)(s:MdD S most S.aU.length d)(q:most<=12:=by decide):DbOk S d:=
 qG (Jz j Zk) (ko j Zk) (DT j) (Ex j) q s.1 s.2
end
section
open Go.RowKit Jn Mk Vw
set_option autoImplicit false
section
open Mm (SOk cnt bH aM ZB)
theorem ze{β:Type}{k:Nat}{f:β->ZB}{W:β->Nat}:∀{l:List β},(∀b∈l,SOk (W b) k (f b))->SOk (l.map W).sum k (du aM (l.map f))
 |[],_=>(bH 0).up (sh _) (sh _)
 | b::l,h=>by
   rw[ed,ed,du,Xt];exact Mm.SOk.add (h b Zm) (ze λx hx=>h x (by simp[hx]))
theorem oS{β:Type}{f:β->ZB}{W:β->Nat}:∀{l:List β},(∀b∈l,SOk (W b) 0 (f b))->SOk (dj (l.map W)) 0 (eP aM (l.map f))
 |[],_=>gI
 | b::l,h=>by
   rw[ed,ed,eP,dj];exact Mm.SOk.mul (h b Zm) (oS λx hx=>h x (by simp[hx]))
def wR(A:cP)(l:om)(τ:vb):Nat:=dj ((l.filter λx=>agr A τ x.v).map λx=>x.w.toNat)
def y8(l:om):Nat:=(l.map λx=>x.w.toNat).sum
theorem MO{l m:om}(h:List.Sublist l m):y8 l<=y8 m:=by
 induction h with
 |slnil=>exact BY _
 |cons a _ ih=>unfold y8 at *; rw[ed,Xt];omega
 |cons_cons a _ ih=>unfold y8 at *; rw[ed,ed,Xt,Xt];omega
theorem vj{β:Type}{c:Nat}{f:β->Nat}:∀l:List β,(l.map λb=>c*f b).sum=c*(l.map f).sum
 |[]=>by simp
 |b::l=>by rw[ed,ed,Xt,Xt,vj l,XP]
theorem yb{β γ:Type}{f:β->List γ}{w:γ->Nat}:∀l:List β,((l.flatMap f).map w).sum=(l.map λb=>((f b).map w).sum).sum
 |[]=>by simp
 |b::l=>by rw[Wc,Wf,List.sum_append,yb l,ed,Xt]
theorem I3{β:Type}{f g:β->Nat}:∀{l:List β},(∀b∈l,f b<=g b)->(l.map f).sum<=(l.map g).sum
 |[],_=>BY _
 | b::l,h=>by
   rw[ed,ed,Xt,Xt];exact Nat.add_le_add (h b Zm) (I3 λx hx=>h x (by simp[hx]))
theorem Ba{τ:vb}{A:cP}{v:hC}(h:In1 τ A v):agr A τ v=YK:=wz.2 λa x hx y hy=>by
 rw[h a x hx]at hy;cases hy;rfl
theorem II{τ:vb}{A:cP}{v:hC}(hl:v.length=A.length)(h:In1 τ A v):∀a∈A,(τ a).isSome=YK:=λa ha=>by
 obtain⟨x,hx⟩:=sx hl ha;rw[h a x hx];rfl
theorem UZ{A:cP}{l:om}(hl:∀x∈l,x.v.length=A.length)(t:l.Pairwise λa b=>a.v≠b.v){x:Rw}(q:x∈l){τ:vb}(h:In1 τ A x.v):wR A l τ=x.w.toNat:=by
 have s:=II (hl x q) h;obtain⟨y,hy,e⟩:=ox (p:=λx=>agr A τ x.v) t (λa ha b hb h1 h2=>mV s (hl a ha) (hl b hb) h1 h2) ⟨x,q,Ba h⟩;have j:x∈l.filter λx=>agr A τ x.v:=VU.2 ⟨q,Ba h⟩
 rw[e,VH]at j;unfold wR;rw[e,j];simp[dj]
theorem B9:∀{L:List (cP×om)}{σ:vb},rI L->((enR L σ).map λτ=>dj (L.map λp=>wR p.1 p.2 τ)).sum<=dj (L.map λp=>y8 p.2)
 |[],σ,_=>by simp[enR,dj]
 | p::L,σ,hR=>by
   obtain⟨⟨hn,hl,hd⟩,hR2⟩:=hR.cons;rw[enR,yb,ed,dj];refine OF (I3 (g:=λx:Rw=>dj (L.map λp=>y8 p.2)*x.w.toNat) λx hx=>?_) ?_
   .have hx:=(VU.1 hx).1;have e:∀τ∈enR L (Ss σ p.1 x.v),dj ((p::L).map λp=>wR p.1 p.2 τ)=x.w.toNat*dj (L.map λp=>wR p.1 p.2 τ):=λτ hτ=>by
     rw[ed,dj,UZ hl hd hx λa z hz=>((o5 hR2).1 hτ).2.1 a z (jU hn hz)]
    rw[V9 e,vj,Wq];exact WK _ (B9 hR2)
   rw[vj,Wq];exact WK _ (MO WN)
theorem Lh(a b:ZB):aM.add a b=aM.add b a:=Mm.Sem.same (by show a.c+b.c=b.c+a.c;grind) (λx=>by show a.s x+b.s x=b.s x+a.s x;grind) λx y=>by show a.p x y+b.p x y=b.p x y+a.p x y;grind
section
variable {J:JD}{P:cP}{D:VD}(h:CtxV J P D)(hN:∀r∈J.S.aU,r.2.Nodup)(hd:∀l∈J.T,l.Pairwise λa b=>a.v≠b.v){lf:Int->er->ZB}(hl:∀v x,SOk 1 1 (lf v x))(hw:∀l∈J.T,∀x∈l,0<=x.w)
include h hN hd
theorem wT:rI (uQ J.S J.T):=λp hp=>by
 obtain⟨r,hr,rfl⟩:=WR.1 hp;have j:r<J.S.aU.length/\r<J.T.length:=by simpa[uQ,Nat.lt_min]using hr
 have e:(uQ J.S J.T)[r]=(J.S.aU[r].2,J.T[r]):=by simp[uQ]
 rw[e];exact⟨hN _ (ak j.1),h.ok.v r j.2 j.1,hd _ (ak j.2)⟩
theorem Tf:(enW (cA (RJ J) sdS) (dS P) λ_=>WC).Perm (enR (uQ J.S J.T) λ_=>WC):=by
 refine(List.perm_ext_iff_of_nodup (jM (wE J) (kj h.ord)) (y7 (wT h hN hd))).2 λτ=>?_
 rw[mz (nH h) (kj h.ord) (λ_ _=>rfl),o5 (wT h hN hd)];have s:∀r (j:r<J.S.aU.length),∃H:r<J.T.length,(J.S.aU[r].2,J.T[r])∈uQ J.S J.T/\bW J r=J.T[r]:=λr j=>by
  have H:r<J.T.length:=by rw[h.ok.n];exact j
  refine⟨H,?_,by unfold bW;rw[VO,AT H];rfl⟩;exact WR.2 ⟨r,by simp[uQ];omega,by simp[uQ]⟩
 have t:∀p∈uQ J.S J.T,∃r,∃j:r<J.S.aU.length,p.1=(RJ J).at r/\p.2=bW J r:=λp hp=>by
  obtain⟨r,j,rfl⟩:=WR.1 hp;have M:r<J.S.aU.length/\r<J.T.length:=by simpa[uQ,Nat.lt_min]using j
  obtain⟨_,_,e⟩:=s r M.1;exact⟨r,M.1,by rw[gS M.1];simp[uQ],by rw[e];simp[uQ]⟩
 have I:(RJ J).A.length=J.S.aU.length:=by simp[RJ]
 constructor
 .rintro⟨M,H,h3⟩;refine⟨λa u=>?_,λa x e=>by simp at e,λp hp=>?_⟩
  .by_cases hm:a∈dS P
   .obtain⟨n,hn,rfl⟩:=xA h.ord hm;obtain⟨r,l,e⟩:=List.exists_cons_of_ne_nil (h.wv n (by rw[<-h.len];exact hn));have j:r∈cw (RJ J) (n:Int):=by rw[e];simp
    have G:r<J.S.aU.length:=by
     have:=Wi.1 (VU.1 j).1;simpa[RJ]using this
    have U:=mq j;obtain⟨_,hp,_⟩:=s r G;rw[gS G]at U;exact absurd U (u _ hp)
   exact M a hm
  obtain⟨r,j,e1,e2⟩:=t p hp;have Y:=rU h j;have:=h3 r (by rw[I];exact j) Y.1;rw[cM (eD J)]at this;obtain⟨x,hx,ex⟩:=this;rw[e1,e2];refine⟨x,hx,λa z hz=>?_⟩;have u:=(List.of_mem_zip hz).1;obtain⟨y,hy⟩:=V4.1 (H a (Y.2 a u));rw[hy,wz.1 ex a z hz y hy]
 rintro⟨M,_,h3⟩;have V:∀a,(∃r,r<J.S.aU.length/\a∈(RJ J).at r)->(τ a).isSome=YK:=λa ⟨r,j,u⟩=>by
  obtain⟨H,hp,e⟩:=s r j;obtain⟨x,hx,hin⟩:=h3 _ hp;rw[gS j]at u;exact II (h.ok.v r H j x hx) hin a u
 refine⟨λa u=>M a λp hp hm=>?_,λa u=>?_,λq hq _=>?_⟩
 .obtain⟨r,j,e1,_⟩:=t p hp;rw[e1]at hm;exact u ((rU h j).2 a hm)
 .obtain⟨n,hn,rfl⟩:=xA h.ord u;obtain⟨r,l,e⟩:=List.exists_cons_of_ne_nil (h.wv n (by rw[<-h.len];exact hn));have j:r∈cw (RJ J) (n:Int):=by rw[e];simp
  have G:r<J.S.aU.length:=by
   have:=Wi.1 (VU.1 j).1;simpa[RJ]using this
  exact V _ ⟨r,G,mq j⟩
 rw[I]at hq;obtain⟨H,hp,e⟩:=s q hq;obtain⟨x,hx,hin⟩:=h3 _ hp;rw[cM (eD J),e,gS hq];exact⟨x,hx,Ba hin⟩
include hw
omit h hN hd in
theorem QN(r:Nat)(A:cP)(τ:vb):SOk (wR A (bW J r) τ) 0 (gW aM cnt A (bW J r) τ):=by
 refine oS λx j=>?_
 have j:=(VU.1 j).1;have q:0<=x.w:=by
  unfold bW at j;by_cases hr:r<J.T.length
  .simp only[List.getD,AT hr,Xg]at j;exact hw _ (ak hr) x j
  simp[List.getD,WT (by omega:J.T.length<=r)]at j
 have:=bH x.w.toNat
 rwa [Int.toNat_of_nonneg q]at this
include hl
omit h hN hd in
theorem CT(τ:vb):∀vs:cP,SOk (dj ((vs.flatMap (hoN J.S P)).map λr=>wR ((RJ J).at r) (bW J r) τ)) vs.length (wts aM (gV aM lf cnt (RJ J).at (hoN J.S P) (bW J)) vs τ)
 |[]=>gI
 | v::vs=>by
   rw[Wc,Wf,pC,wts,VI,XA];refine Mm.SOk.mul ?_ (CT τ vs);unfold gV;rw[<-Nat.one_mul (dj _)];refine Mm.SOk.mul (k:=1) (k':=0) ?_ (oS λr _=>QN hw r _ _);split
   .exact hl _ _
   exact gI.up (BY _) Zk
omit hl hw hN hd h in
theorem Fk{l m:ee}(h:l.Perm m):dj l=dj m:=by
 induction h with
 |nil=>rfl
 |cons x _ ih=>rw[dj,ih,dj]
 |swap x y l=>rw[dj,dj,dj,dj,<-Xr,Wq y x,Xr]
 |trans _ _ a b=>rw[a,b]
include h hN hd
theorem Np:SOk (dj ((uQ J.S J.T).map λp=>y8 p.2)) P.length (qg aM lf cnt J P):=by
 rw[kO h,xn aM Lh ((Tf h hN hd).map _)];refine(ze (k:=P.length) (W:=λτ=>dj ((uQ J.S J.T).map λp=>wR p.1 p.2 τ)) λτ _=>?_).up (B9 (wT h hN hd)) (BY _);have j:=CT (P:=P) hl hw τ (dS P);have s:(dS P).length=P.length:=by rw[(fV h.ord.jv).length_eq,bt]
 have t:((dS P).flatMap (hoN J.S P)).map (λr=>wR ((RJ J).at r) (bW J r) τ)=((dS P).flatMap (hoL J.S P)).map λr:Int=>wR ((RJ J).at r.toNat) (bW J r.toNat) τ:=by
  have:(dS P).flatMap (hoL J.S P)=((dS P).flatMap (hoN J.S P)).map Int.ofNat:=by rw[Ym];rfl
  rw[this,XX];rfl
 rw[s,t,Fk ((Ou h.ord).map _)]at j;have u:(upZ J.S.aU.length).map (λr:Int=>wR ((RJ J).at r.toNat) (bW J r.toNat) τ)=(uQ J.S J.T).map λp=>wR p.1 p.2 τ:=by
  apply WU
  .simp[uQ,bt,h.ok.n]
  .intro i h1 h2;have q:i<J.S.aU.length:=by simpa[bt]using h1
   have z:i<J.T.length:=by rw[h.ok.n];exact q
   have G:bW J i=J.T[i]:=by unfold bW;rw[VO,AT z];rfl
   simp[upZ,uQ,gS q,G]
 rw[u]at j;exact j
end
end
end

section
open Go.RowKit Mk Jn Mm Vw
namespace Vw
def fb:List (er×Rat):=[(⟨#[48]⟩,0),(⟨#[49]⟩,1),(⟨#[45,50]⟩, -2),(⟨#[49,47,50]⟩,1/2),(⟨#[51]⟩,3),(⟨#[53,47,51]⟩,5/3),(⟨#[50]⟩,2)]
def qM(v:er):Rat:=match fb.find? (λp=>decide (p.1=v))with|some p=>p.2|none=>0
theorem Nz(v:er):dR 6 (qM v)/\bg 3 (qM v):=by
 have j:∀p∈fb,dR 6 p.2/\bg 3 p.2:=by
  intro p hp;simp only[fb,By,Xv,Y0]at hp;rcases hp with rfl|rfl|rfl|rfl|rfl|rfl|rfl
  .exact⟨⟨0,by decide+kernel⟩,⟨by decide+kernel,by decide+kernel⟩⟩
  .exact⟨⟨6,by decide+kernel⟩,⟨by decide+kernel,by decide+kernel⟩⟩
  .exact⟨⟨-12,by decide+kernel⟩,⟨by decide+kernel,by decide+kernel⟩⟩
  .exact⟨⟨3,by decide+kernel⟩,⟨by decide+kernel,by decide+kernel⟩⟩
  .exact⟨⟨18,by decide+kernel⟩,⟨by decide+kernel,by decide+kernel⟩⟩
  .exact⟨⟨10,by decide+kernel⟩,⟨by decide+kernel,by decide+kernel⟩⟩
  exact⟨⟨12,by decide+kernel⟩,⟨by decide+kernel,by decide+kernel⟩⟩
 unfold qM;cases h:fb.find? (λp=>decide (p.1=v))with
 |none=>exact⟨⟨0,by decide+kernel⟩,bg.zero 3⟩
 |some p=>exact j p (List.mem_of_find?_eq_some h)
theorem TJ{v:er}(h:v∈DY):v=bk (qM v)/\F1 (qM v):=by
 have j:∀x:er,x=bk (qM x)->F1 (qM x)->x=bk (qM x)/\F1 (qM x):=λx e h1=>⟨e,h1⟩
 simp only[DY,By,Xv,Y0]at h;rcases h with rfl|rfl|rfl|rfl|rfl|rfl|rfl|rfl<;>exact j _ Zt ⟨by decide+kernel,by decide+kernel⟩
theorem qM_vq{v:er}(h:v∈DY):VQ qM v:=by refine⟨?_,(Nz v).1,(Nz v).2⟩;have j:=qn (qM v) (TJ h).2;rw[<-(TJ h).1]at j;exact j
def Q0:hC:=⟨#[]⟩::MF
def QM(S:ZN):u9:=⟨-1,⟨#[]⟩⟩::(List.range S.bo.length).flatMap λi:Nat=>Q0.map λt=>⟨(i:Int),t⟩
theorem Pw{S:ZN}{i:Nat}(j:i<S.bo.length){t:er}(q:t∈Q0):(⟨(i:Int),t⟩:ZM)∈QM S:=
 VX _ (V6.2 ⟨i,Wi.2 j,VS.2 ⟨t,q,O⟩⟩)
theorem Hy(S:ZN):(QM S).length=S.bo.length*4+1:=by
 unfold QM;rw[VI];have:∀n,((List.range n).flatMap λi:Nat=>Q0.map λt=>(⟨(i:Int),t⟩:ZM)).length=n*4:=λn=>by
  induction n with
  |zero=>rfl
  | succ n ih=>
    rw[XC,Xn,Hb,ih,Wc,List.flatMap_nil,W7,IS,show Q0.length=4 from O];omega
 rw[this]
noncomputable def lfM(S:ZN):Int->er->Gv:=λv t=>⟨liftS qM S v t,1,1,1⟩
def XM(S:ZN)(a:Nat):hC:=ig (S.aj.getD a default).2
theorem Pc{n:Nat}(h:n<=1):SOk 1 1 (cnt n):=(bH n).up h Zk
theorem yc{S:ZN}(z:cW S.aj S.bo S.label S.aj.length):LfX (QM S) (XM S) (lfM S):=by
 refine⟨λv t ht=>?_,λ_ _=>rfl,λ_ _=>rfl,λ_ _=>rfl,λa=>Xj⟩;have j:∀p∈QM S,GvOk (QM S) ⟨lft p (qM t),1,1,1⟩:=λp hp=>⟨IX p (qM t) (Nz t).1 (Nz t).2,Sup.lft hp _⟩
 have hc:∀n:Nat,n<=1->GvOk (QM S) ⟨cnt n,1,1,1⟩:=λn hn=>⟨Pc hn,Sup.cnt _ _⟩
 show GvOk (QM S) ⟨liftS qM S v t,1,1,1⟩;unfold liftS;split
 .split
  .exact hc 0 Zk
  exact j _ Xj
 cases hf:S.bo.findIdx? (λf=>f.1==v)with
 |none=>exact hc 1 Zk
 | some i=>
   obtain⟨hi,hp,_⟩:=XT.1 hf;simp only;split
   .rename_i h2;have s:t∈Q0:=by
     obtain⟨a,h3,_,_,h6⟩:=z.2.1 _ (ak hi);have e:S.bo.getD i default=S.bo[i]:=by simp[List.getD,hi]
     rw[e]at h2;have u:v=(a:Int):=by
      have:S.bo[i].1=v:=by simpa using hp
      omega
     rcases h6 with h6|h6
     .have:=h6.1;omega
     subst u;have q:t∈ig (S.aj.getD ((a:Int)).toNat default).2:=ht;rw[Wh,h6.2.1]at q;exact q
    exact⟨IX _ 1 (dR.ofInt 6 1) ⟨by decide+kernel,by decide+kernel⟩,Sup.lft (Pw hi s) _⟩
   split
   .split
    .exact hc 0 Zk
    exact hc 1 Zk
   exact j _ (Pw hi Xj)
theorem OH{S:ZN}(u:cW S.aj S.bo S.label S.aj.length){v:Nat}{t:er}(H:t∈XM S v)(q:t≠⟨#[]⟩)(s:(v:Int)=S.label\/∃i,S.bo.findIdx? (λf=>f.1==(v:Int))=WB i/\(S.bo.getD i default).2.1≠2):t∈DY:=by
 have j:(S.aj.getD v default).2=2:=by
  rcases s with e|⟨i,hi,j⟩
  .rcases u.2.2 with h|⟨a,h1,h2,h3⟩
   .omega
   have:a=v:=Zi;subst this;exact h3
  obtain⟨hlt,hp,_⟩:=XT.1 hi;obtain⟨a,h1,h2,h3,h4⟩:=u.2.1 _ (ak hlt);have e:S.bo.getD i default=S.bo[i]:=by simp[List.getD,hlt]
  rw[e]at j;have:a=v:=by
   have z:S.bo[i].1=(v:Int):=by simpa using hp
   omega
  subst this;rcases h4 with h4|h4
  .exact h4.2.1
  exact absurd h4.1 j
 have G:t∈ig 2:=by
  have:=H;unfold XM at this;rw[j]at this;exact this
 rcases By.1 G with h|h
 .exact absurd h q
 simpa using h
theorem E4{S:ZN}(j:cW S.aj S.bo S.label S.aj.length)(u:S.aj.length<=5)(v:Nat)(t:er)(s:t∈XM S v):ZK prog 52 [fp S,ZU v,.str t] (· =momP (lfM S v t).m):=by have q:=eW j;exact Hr qM S v t Zi λhne hor=>qM_vq (OH j s hne hor)
theorem ym:∀{l:om},(∀x∈l,0<=x.w)->(((l.map λx=>x.w.toNat).sum:Nat):Int)=k6 l
 |[],_=>rfl
 | x::l,h=>by
   have h1:=ym (l:=l) λy hy=>h y (by simp[hy])
   have j:=h x Zm;simp only[k6,ed,Xt]at h1 ⊢;omega
end Vw
end
section
open Go.RowKit Jn Mk Vw
set_option autoImplicit false
section
open Mm (SOk cnt bH aM cn ZB)
theorem rD(Q:u9):Sup Q aM.one:=Sup.cnt Q 1
theorem CM{Q:u9}{β:Type}{f:β->ZB}:∀{l:List β},(∀b∈l,Sup Q (f b))->Sup Q (du aM (l.map f))
 |[],_=>Sup.cnt Q 0
 | b::l,h=>by
   rw[ed,du];exact Sup.add (h b Zm) (CM λx hx=>h x (by simp[hx]))
theorem qT{Q:u9}{β:Type}{f:β->ZB}:∀{l:List β},(∀b∈l,Sup Q (f b))->Sup Q (eP aM (l.map f))
 |[],_=>rD Q
 | b::l,h=>by
   rw[ed,eP];exact Sup.mul (h b Zm) (qT λx hx=>h x (by simp[hx]))
section
variable {Q:u9}{cd:Int->vb->hC}{g:Int->vb->ZB}
mutual
theorem val_sup(hg:∀v σ,Sup Q (g v σ)):∀(t:Tr)(σ:vb),Sup Q (Jn.val aM cd g t σ)
 | .node v ts,σ=>by
   rw[Jn.val];exact CM λx _=>Sup.mul (hg v _) (valL_sup hg ts _)
theorem valL_sup(hg:∀v σ,Sup Q (g v σ)):∀(ts:List Tr)(σ:vb),Sup Q (valL aM cd g ts σ)
 |[],_=>by rw[valL];exact rD Q
 | t::ts,σ=>by
   rw[valL];exact Sup.mul (val_sup hg t σ) (valL_sup hg ts σ)
end
end
theorem T9{Q:u9}{lf:Int->er->ZB}(hl:∀v x,Sup Q (lf v x))(J:JD)(P:cP)(v:Int)(τ:vb):Sup Q (gJ aM lf cnt J P v τ):=by
 unfold gJ;split
 .unfold gV;refine Sup.mul ?_ (qT λr _=>qT λx _=>Sup.cnt Q _);split
  .exact hl _ _
  exact rD Q
 exact rD Q
theorem C1{Q:u9}{lf:Int->er->ZB}(hl:∀v x,Sup Q (lf v x))(J:JD)(P:cP):Sup Q (qg aM lf cnt J P):=valL_sup (T9 hl J P) _ _
open Classical in
noncomputable def lfJ(S:ZN)(v:Int)(t:er):ZB:=if t∈XM S v.toNat then(lfM S v t).m else aM.one
theorem TN{S:ZN}{v:Nat}{t:er}(h:t∈XM S v):lfJ S v t=(lfM S v t).m:=IT (by rw[Wh];exact h)
theorem Gs{S:ZN}(j:cW S.aj S.bo S.label S.aj.length)(v:Int)(t:er):SOk 1 1 (lfJ S v t):=by
 unfold lfJ;split
 .rename_i h;exact((yc j).g v t h).s
 exact gI.up (BY _) Zk
theorem Lo{S:ZN}(j:cW S.aj S.bo S.label S.aj.length)(v:Int)(t:er):Sup (QM S) (lfJ S v t):=by
 unfold lfJ;split
 .rename_i h;exact((yc j).g v t h).q
 exact rD _
theorem OD{J:JD}{v:Int}{σ:vb}{x:er}(h:x∈cA (RJ J) sdS v σ):∃r,v∈(RJ J).at r/\∃y∈bW J r,y.v[((RJ J).at r).idxOf v]? =WB x:=by
 unfold cA at h;cases e:cw (RJ J) v with
 |nil=>rw[e]at h;simp at h
 | cons f l=>
   rw[e]at h;simp only at h;have h:=(vn _ _).1 (VU.1 h).1;obtain⟨row,j,h2⟩:=List.mem_filterMap.1 h;have j:=(VU.1 j).1;rw[eD]at j;obtain⟨y,hy,rfl⟩:=VS.1 j;exact⟨f,mq (by rw[e];simp),y,hy,h2⟩
theorem Lc{J:JD}{v:Nat}{σ:vb}(z:∀r (h:r<J.T.length) (G:r<J.S.aU.length),∀x∈J.T[r],MdV J.S J.S.aU[r].2 x.v)(t:J.T.length=J.S.aU.length){x:er}(h:x∈cA (RJ J) sdS v σ):x∈XM J.S v:=by
 obtain⟨r,h1,y,hy,e⟩:=OD h;have q:r<J.T.length:=by
  unfold bW at hy;by_cases q:r<J.T.length
  .exact q
  simp[List.getD,WT (by omega:J.T.length<=r)]at hy
 have j:r<J.S.aU.length:=Zi;have u:bW J r=J.T[r]:=by unfold bW;rw[VO,AT q];rfl
 rw[u]at hy;rw[gS j]at h1 e;obtain⟨m1,m2⟩:=z r q j y hy;have s:=XH h1;obtain⟨hi2,e5⟩:=VR.1 e;have:=m2 _ hi2 s;rw[e5,List.getElem_idxOf s,Wh]at this;exact this
end
end
section
open Go.RowKit Jn Mk
set_option autoImplicit false
theorem Jn.Spl.snocL{l a b:om}(h:Spl l a b)(x:Rw):Spl (l++[x]) (a++[x]) b:=by
 induction h with
 |nil=>exact .left x .nil
 |left y _ ih=>exact .left y ih
 |right y _ ih=>exact .right y ih
theorem Jn.Spl.snocR{l a b:om}(h:Spl l a b)(x:Rw):Spl (l++[x]) a (b++[x]):=by
 induction h with
 |nil=>exact .right x .nil
 |left y _ ih=>exact .left y ih
 |right y _ ih=>exact .right y ih
theorem Jn.Spl.subL{l a b:om}(h:Spl l a b):List.Sublist a l:=by
 induction h with
 |nil=>exact List.Sublist.refl _
 |left y _ ih=>exact ih.cons_cons y
 |right y _ ih=>exact ih.cons y
theorem Jn.Spl.subR{l a b:om}(h:Spl l a b):List.Sublist b l:=h.symm.subL
theorem JZ(m:Int)(l:om)(x:Rw):iz m (l++[x])=iz m l++[⟨x.v,x.w*m⟩]:=by simp[iz]
theorem GQ(S:ZN)(A:cP)(m:Int)(l:om):jy S A (iz m l)=iz m (jy S A l):=by unfold jy iz;rw[List.filter_map];rfl
theorem MH(S:ZN)(A:cP){l a b:om}(h:Spl l a b):Spl (jy S A l) (jy S A a) (jy S A b):=h.filter _
end
section
theorem Iw {o:ee} {i c x y Sa Sb:Nat} (j:o.length=i) (h:val o+1000000000^i*c=Sa+Sb):
  val (o++[(c+x+y)%1000000000])+1000000000^(i+1)*((c+x+y)/1000000000)=Sa+1000000000^i*x+(Sb+1000000000^i*y):=by grind[c8,val_one,Wt,Xr,XP,Nat.mod_add_div]
theorem KY{o:ee}(h:Lok o)(hl:o.length<=(ae (val o)).length):ae (val o)=o:=by
 by_cases e:o.length=0
 .have:o=[]:=XY.1 e;subst this;exact aV
 have ht:=iE h (n:=o.length) (BY _) (λi hi=>by simp[List.getD,hi]) (.inr λs=>?_)
 .rw[ht,XD]
 have h1:=j9 o (o.length-1);have q:o.drop (o.length-1)=[0]:=by
  rw[V1 Zi,show o.length-1+1=o.length by omega,List.drop_length];have:o[o.length-1]'Zi=0:=by grind
  rw[this]
 have j:=uc (h.take (o.length-1));rw[q,val_one,Zb,XG]at h1;rw[Vz,W6 Zi,<-h1]at j;have:=(aW (k:=o.length-1)).2 j;omega
theorem F8(a b:Nat)(ha:(ae a).length<=1000000)(hb:(ae b).length<=1000000):ZK prog 180 [pli (ae a),pli (ae b)] (· =pli (ae (a+b))):=by
 refine ZK.fg2 (ZC func180 O ntmps180 λ_ _ _ _=>?_);obtain⟨m,hma,hmb,hmm⟩:∃m:Nat,(ae a).length<=m/\(ae b).length<=m/\(m=(ae a).length\/m=(ae b).length):=⟨max (ae a).length (ae b).length,Nat.le_max_left _ _,Nat.le_max_right _ _,Zi⟩;refine Z1 O<|Z1 O<|Vm (Vs 5 0 1 3 O O)<|Z1 O<|Z1 O<|Gz O (st:=λZq:Nat×Nat×ee=>([(0,WC),(1,WC),(5,WB (.bz 0 1 Zq.2.2.length)),(6,WB (ZI Zq.2.1)),(7,WB (ZI Zq.1))],[(0,WB (.bD 3 (gP Zq.2.2)))])) 1
  (I:=λZq=>(Zq.2.2.length=Zq.1/\Zq.1<=m+1/\(Zq.1=m+1->Zq.2.1=0/\1000000000^m<=a+b))/\(Lok Zq.2.2/\Zq.2.1<=1)/\val Zq.2.2+1000000000^Zq.1*Zq.2.1=sm (lim (ae a)) Zq.1+sm (lim (ae b)) Zq.1) (μ:=λZq=>m+1-Zq.1) (x0:=(0,0,[])) (YS O) (⟨⟨O,sh _,λh=>by omega⟩,⟨λ_ h=>absurd h Zm,sh _⟩,by simp[val,sm]⟩) ?_
 rintro⟨i,c,o⟩ ⟨⟨hol,hil,hic⟩,⟨hok,hc⟩,he⟩;try simp only at hol hil hic hok hc he ⊢
 refine Gr O<|Ar 5 O ?_;apply Vv 5 12 17 [13,14,15,16] O Zs
 .intro hb4;exact Ar 5 O<|Vp Zr O O O
 .intro hb4;exact Ar 5 O<|Vp Zr O O O
 refine A1 O ?_;apply Vv 3 18 21 [19,20] O Zs
 .intro hb10;exact Y3 O<|Vp Zr O O O
 .intro hb10;exact Y3 O<|Vp Zr O O O
 refine Gc O (λj=>?_) (λj=>?_)
 .have hst:=Iw (x:=lim (ae a) i) (y:=lim (ae b) i) hol he;have ac:=cK (a6 a) i;have ad:=cK (a6 b) i;have G:sm (lim (ae a)) (i+1)=sm (lim (ae a)) i+1000000000^i*lim (ae a) i:=rfl;have H:sm (lim (ae b)) (i+1)=sm (lim (ae b)) i+1000000000^i*lim (ae b) i:=rfl;rw[<-G,<-H]at hst;have af:i<=m:=by
   simp only[Wr,VJ]at j;rcases j with(e|e)|e<;>omega
  have s:i=m->1000000000^m<=a+b:=λe=>by
   have M:c=1:=by
    simp only[Wr,VJ]at j;rcases j with(e|e)|e<;>omega
   rw[eL _ Zi,eL _ Zi,aH,aH,M,e]at he;omega
  refine Vl<|Z4 O<|Gp O (λz=>?_) (λz=>?_)
  .have hia:i<(ae a).length:=Zi;have ag:=cj hia;have U:=dm hia;refine Z3 O<|Rs O (ai i aal sz3 O O O hia U)<|A2 O Zl ?_;refine Rs O (XJ.cast (v':= ZI ((c+lim (ae a) i:Nat):Int)) (lx O O Zi) O)<|A1 O<|Z4 O ?_;refine Gp O (λq=>?_) (λq=>?_)
   .have hib:i<(ae b).length:=Zi;have Y:=cj hib;have t:=dm hib;refine Z3 O<|Rs O (ai i aal sz3 O O O hib t)<|A2 O Zl ?_;exact Rs O (XJ.cast (v':= ZI ((c+lim (ae a) i+lim (ae b) i:Nat):Int)) (lx O O Zi) O)<|A1 O<|Z2 O<|Rs O (XJ.cast (v':= ZI (((c+lim (ae a) i+lim (ae b) i)%1000000000:Nat):Int)) (fC O O Zk) O)<|Y3 O<|Z1 O<|Rs O (XJ.cast (v':= ZI (((c+lim (ae a) i+lim (ae b) i)/1000000000:Nat):Int)) (dw O O Zk) (ah (λi=>ZI i) (yu Zi)))<|A1 O<|Z3 O<|⟨(i+1,(c+lim (ae a) i+lim (ae b) i)/1000000000,o++[(c+lim (ae a) i+lim (ae b) i)%1000000000]),Vo [2] ⟨O,O,VT (b:= .bz 2 1 (o.length+1)) O (ah (V.bz 2 1) (cV o _)),O,O,Zp⟩ ⟨ah (λc=>WB (Ob.bD 3 c)) (limI_snoc _ _),Zp⟩ O O Zk O,⟨⟨by simp only[Hb,VV];omega,Zi,λh=>⟨Zi,s Zi⟩⟩,⟨hok.append (Lok.one (WI _ Zk)),Zo⟩,hst⟩,Zi⟩
   have hy0:lim (ae b) i=0:=ju Zi;rw[hy0,XG]at hst;exact Vl<|Z2 O<|Rs O (XJ.cast (v':= ZI (((c+lim (ae a) i)%1000000000:Nat):Int)) (fC O O Zk) O)<|Y3 O<|Z1 O<|Rs O (XJ.cast (v':= ZI (((c+lim (ae a) i)/1000000000:Nat):Int)) (dw O O Zk) (ah (λi=>ZI i) (yu Zi)))<|A1 O<|Z3 O<|⟨(i+1,(c+lim (ae a) i)/1000000000,o++[(c+lim (ae a) i)%1000000000]),Vo [2] ⟨O,O,VT (b:= .bz 2 1 (o.length+1)) O (ah (V.bz 2 1) (cV o _)),O,O,Zp⟩ ⟨ah (λc=>WB (Ob.bD 3 c)) (limI_snoc _ _),Zp⟩ O O Zk O,⟨⟨by simp only[Hb,VV];omega,Zi,λh=>⟨Zi,s Zi⟩⟩,⟨hok.append (Lok.one (WI _ Zk)),Zo⟩,hst⟩,Zi⟩
  have hx0:lim (ae a) i=0:=ju Zi;rw[hx0,XG]at hst;refine Vl<|Z4 O<|Gp O (λq=>?_) (λq=>?_)
  .have hib:i<(ae b).length:=Zi;have Y:=cj hib;have t:=dm hib;refine Z3 O<|Rs O (ai i aal sz3 O O O hib t)<|A2 O Zl ?_;exact Rs O (XJ.cast (v':= ZI ((c+lim (ae b) i:Nat):Int)) (lx O O Zi) O)<|A1 O<|Z2 O<|Rs O (XJ.cast (v':= ZI (((c+lim (ae b) i)%1000000000:Nat):Int)) (fC O O Zk) O)<|Y3 O<|Z1 O<|Rs O (XJ.cast (v':= ZI (((c+lim (ae b) i)/1000000000:Nat):Int)) (dw O O Zk) (ah (λi=>ZI i) (yu Zi)))<|A1 O<|Z3 O<|⟨(i+1,(c+lim (ae b) i)/1000000000,o++[(c+lim (ae b) i)%1000000000]),Vo [2] ⟨O,O,VT (b:= .bz 2 1 (o.length+1)) O (ah (V.bz 2 1) (cV o _)),O,O,Zp⟩ ⟨ah (λc=>WB (Ob.bD 3 c)) (limI_snoc _ _),Zp⟩ O O Zk O,⟨⟨by simp only[Hb,VV];omega,Zi,λh=>⟨Zi,s Zi⟩⟩,⟨hok.append (Lok.one (WI _ Zk)),Zo⟩,hst⟩,Zi⟩
  have hy0:lim (ae b) i=0:=ju Zi;rw[hy0,XG]at hst;exact Vl<|Z2 O<|Rs O (XJ.cast (v':= ZI ((c%1000000000:Nat):Int)) (fC O O Zk) O)<|Y3 O<|Z1 O<|Rs O (XJ.cast (v':= ZI ((c/1000000000:Nat):Int)) (dw O O Zk) (ah (λi=>ZI i) (yu Zi)))<|A1 O<|Z3 O<|⟨(i+1,c/1000000000,o++[c%1000000000]),Vo [2] ⟨O,O,VT (b:= .bz 2 1 (o.length+1)) O (ah (V.bz 2 1) (cV o _)),O,O,Zp⟩ ⟨ah (λc=>WB (Ob.bD 3 c)) (limI_snoc _ _),Zp⟩ O O Zk O,⟨⟨by simp only[Hb,VV];omega,Zi,λh=>⟨by show c/1000000000=0;omega,s Zi⟩⟩,⟨hok.append (Lok.one (WI _ Zk)),Zo⟩,hst⟩,Zi⟩
 refine Gx O ?_;have Z:c=0/\m<=i:=by
  simp only[V8,Xf]at j;omega
 have u:val o=a+b:=by rw[Z.1,Zb,XG,eL _ Zi,eL _ Zi,aH,aH]at he;exact he
 have aa:o.length<=(ae (a+b)).length:=by
  by_cases e:i=m+1
  .have h1:=(hic e).2;refine Nat.le_of_not_lt λh2=>?_
   have h3:=(aW (n:=a+b) (k:=m)).1 Zi;omega
  have h1:=b9 (a:=a) (b:=a+b) Zi;have h2:=b9 (a:=b) (b:=a+b) Zi;omega
 have ab:o=ae (a+b):=by have:=KY hok (by rw[u];exact aa);rw[u]at this;exact this.symm
 exact Vm (Vq 0 O O)<|Z2 O<|YR O<|show PV.sl WC o.length (gP o)=_ by rw[ab]
theorem Ck{a b m:Nat}(j:(ae a).length<=m)(q:(ae b).length<=m):(ae (a+b)).length<=m+1:=aW.2 (by
 have s:=aW.1 j;have t:=aW.1 q;rw[Wt];generalize 1000000000^m=p at*;omega)
def Qv:Nat->Nat->ee
 |0,_=>[]
 |n+1,v=>v%1000000000::Qv n (v/1000000000)
theorem Qq:∀{o:ee},Lok o->o=Qv o.length (val o)
 |[],_=>rfl
 | d::o,h=>by
   obtain⟨h1,h2⟩:=h.cons;have e:val (d::o)=d+1000000000*val o:=rfl;rw[VI,Qv,e,Nat.add_mul_mod_self_left,X5 h1,Nat.add_mul_div_left _ _ Zk,Yg h1,Wm,<-Qq h2]
theorem zb(a b:Nat)(G:(ae a).length<=1000000)(t:b<=a)(u:0<a):ZK prog 182 [pli (ae a),pli (ae b)] (· = .sl WC (ae a).length (gP (Qv (ae a).length (a-b))))/\Lok (Qv (ae a).length (a-b))/\val (Qv (ae a).length (a-b))=a-b/\(Qv (ae a).length (a-b)).length=(ae a).length:=by
 have j:∀o,Lok o->o.length=(ae a).length->val o=a-b->o=Qv (ae a).length (a-b):=λo q h2 h3=>by
  have:=Qq q;rwa [h2,h3]at this
 have s:∃o,Lok o/\o.length=(ae a).length/\val o=a-b:=by
  have q:=b9 (show a-b<=a by omega);refine⟨ae (a-b)++List.replicate ((ae a).length-(ae (a-b)).length) 0,(a6 _).append (Lok.replicate _),Zn,?_⟩;rw[c8,aH,val_zero (λi=>by simp only[List.getD,Yi];split<;>rfl)];simp
 obtain⟨o,q,h2,h3⟩:=s;have e:=j o q h2 h3;refine⟨(ja a b G t u).mono λv ⟨o2,g1,g2,g3,g4⟩=>?_,e▸q,e▸h3,e▸h2⟩;have z:=j o2 g1 g2 g3;rw[g4,z];show PV.sl WC _ _=PV.sl WC _ _;rw[<-e,h2]
theorem B5(x y:Int)(M:(ae x.natAbs).length<=1000000)(U:(ae y.natAbs).length<=1000000):ZK prog 129 [lZ x,lZ y] (· =lZ (x+y)):=by
 refine ZD func129 O ntmps129 λ_ _ _ _=>?_
 have z:=F8 x.natAbs y.natAbs M U;have G:=iB x.natAbs y.natAbs Zi Zi;have V:=Ck M U;have u:=uh (decide (x<0)) (ae (x.natAbs+y.natAbs)) Zi (a6 _);rw[aH]at u;refine Z3 O<|Gr O<|Ar 5 O<|Gc O (λt=>?_) (λt=>?_)
 .have e:=Ei t;refine VC 10 O<|Dr 6 O<|YM O (λτ h=>aa call180 z (h.aE O))<|D1 O O<|YM O (λτ h=>aa call133 u (h.aE O))<|D1 O O ⟨Zj,YR O ⟨⟨ar ⟨_,aar,O⟩ Fb O O O,Zp⟩,by rw[<-e];rfl⟩⟩
 have hd:=t;refine Vl<|Z4 O<|Rs O (aa call181 G O)<|A1 O<|Gp O (λq=>?_) (λq=>?_)
 .have hle:=nX.1 q;have e:=KJ hd hle;have j:0<x.natAbs:=by
   refine X1 λZ=>?_
   have Y:y.natAbs=0:=Zi;have H:x=0:=Zi;have I:y=0:=Zi;subst H I;simp at hd
  obtain⟨hmi,g1,g2,g3⟩:=zb x.natAbs y.natAbs M hle j;have s:=cG (neg:=decide (x<0)) _ g3 Zi g1 g2;refine VC 10 O<|Dr 6 O<|YM O (λτ h=>aa call182 hmi (h.aE O))<|D1 O O<|YM O (λτ h=>aa call133 s (h.aE O))<|D1 O O ⟨Zj,YR O ⟨⟨ar ⟨_,aar,O⟩ Fb O O O,Zp⟩,by rw[<-e];rfl⟩⟩
 have hle:x.natAbs<=y.natAbs:=Yy (Nat.lt_of_not_le λe=>q (nX.2 e));have e:=Ic hd hle;have j:0<y.natAbs:=by
  refine X1 λZ=>?_
  have Y:x.natAbs=0:=Zi;have H:x=0:=Zi;have I:y=0:=Zi;subst H I;simp at hd
 obtain⟨hmi,g1,g2,g3⟩:=zb y.natAbs x.natAbs U hle j;have s:=cG (neg:=decide (y<0)) _ g3 Zi g1 g2;refine Vl<|VC 10 O<|Dr 6 O<|YM O (λτ h=>aa call182 hmi (h.aE O))<|D1 O O<|YM O (λτ h=>aa call133 s (h.aE O))<|D1 O O ⟨Zj,YR O ⟨⟨ar ⟨_,aar,O⟩ Fb O O O,Zp⟩,by rw[<-e];rfl⟩⟩
end
end Go.Proofs.YthicoeegbdboeaaGreatDoor
