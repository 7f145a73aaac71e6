/- Lemmas. No condition. -/
import Derived.Test.YtkkenamefaegfaaGreatDoorJE14
set_option maxRecDepth 100000
set_option maxHeartbeats 4000000
open Go.RowKit Go.Proofs.Tryz
open Option renaming some→UF,none→UG
open Bool renaming true→VA,false→VC
namespace Go.Proofs.YtkkenamefaegfaaGreatDoor
variable{w w0 W:World}{R:Nat->Prop}{n k i v most o:Nat}{u:Value}{m:Gm}{x y z c:Code}{P:Program}{f:FuncId}{Q:PV->Prop}{σ:St}{a:Act}{D kd:Int}{S:Sch}{t:ByteArray}{K:Type}
section
open Go.RowKit Mk Jn Mm Vw
theorem GU{b:Option Bool}{cs:List PV}(h:RelP w R (.sl b n cs) u):RelP w R (.sl UG n cs) u:=by grind[RelP]
theorem Dt{av:Av}{p q p' q':PV}(j:∀u,RelP w R p u->RelP w R p' u)(r:∀u,RelP w R q u->RelP w R q' u)(h:Rel w m av R (.agg [.pv p,.pv q]) u):Rel w m av R (.pv (.agg [p',q'])) u:=by grind[Rel,RelL,RelP,RelPL]
section
variable {S:Sch}{D:VD}{T:List (List Rw)}{n:Nat}{left:Int}{vs:List (Option (List En))}{ps:List Prt}{v:Nat}{K:List Int}{Q:List Par}{X:Nat->List ByteArray}{lf:Int->ByteArray->Gv}
theorem ML(h:BC S D n v K Q X lf ps)(I:((viewE (lf v) n v K ps).length:Int)<=left)(J:jt Gv.w (viewE (lf v) n v K ps)<=10^45):
  FnO prog 79 9 0 [pIi 0,.agg [.osl 9007 1 n,.osl 9008 1 n],.pv (momP (Gv.whole 1).m),.pv (.rp [ptsP ps] 0),.ptr big 0,.pv (.rp [.int .i64 v] 0),.ptr 9001 0,.ptr 9002 0]
   [(big,.mix 87 [.ptr 9003 0]),(9001,.mix 103 [.map 9005,.map 9006]),(9002,.mix 173 [viF ps v big 9001 9002]),
     (9003,.mix 94 (bldM2 S D T n left 9004)),(9004,.cells 103 (vwsC vs)),(9005,.mp [] []),(9006,.mp [] []),(9007,.cells 9 (List.replicate n (.str ⟨#[]⟩))),(9008,.cells 4 (List.replicate n (.bool VC)))]
   (λr ob'=>r= .pv (.bool VA)/\ob'=aB (viO S D T n left vs ps v (viewE (lf v) n v K ps))):=by
 have hc:CI n Q X K 0 (ch0 n) (Gv.whole 1) []:=⟨QB h.lfx.x0,GvOk.whole Q 1,AT 1,AT 1,aJ _,λe he=>absurd he Xn⟩;have A:=A6 (left:=left) (vs:=vs) (T:=T) h ps.length 0 Xj (ch0 n) (Gv.whole 1) [] hc I J;refine FnO.weak A Xl O<|St.le.trans (Tn (o:= .cells 9 (List.replicate n (.str ⟨#[]⟩))) 9007 Xk O)<|St.le.trans (Tn (o:= .cells 4 (List.replicate n (.bool VC))) 9008 Xk O)<|St.le.trans (Tk (l:=eG 0 [pIi 0,.agg [.pv (.sl (UF VC) n (List.replicate n (.str ⟨#[]⟩))),.pv (.sl (UF VC) n (List.replicate n (.bool VC)))],.pv (momP (Gv.whole 1).m),.pv (.rp [ptsP ps] 0),.ptr big 0,.pv (.rp [.int .i64 v] 0),.ptr 9001 0,.ptr 9002 0])
  (os:=viO S D T n left vs ps v []) (k:=0) ⟨O,O,O,O,O,O,O,O,Xq⟩ ⟨Xk,Xk,Xk,Xk,Xk,Xk,Xk,Xq⟩ O O) ?_
 refine St.Ca O O λt w m R u hu=>?_
 by_cases h1:t=1
 .subst h1;have B:bW (ch0 n).v=List.replicate n (PV.str ⟨#[]⟩):=by simp[ch0,bW]
  have E:(ch0 n).s.map PV.bool=List.replicate n (PV.bool VC):=by simp[ch0]
  have G:(ch0 n).v.length=n:=by simp[ch0]
  have H:(ch0 n).s.length=n:=by simp[ch0]
  have j:Rel w m (avK 0) R (.agg [.pv (.sl (UF VC) n (List.replicate n (.str ⟨#[]⟩))),.pv (.sl (UF VC) n (List.replicate n (.bool VC)))]) u:=hu;show Rel w m (avK 0) R (.pv (R7 (ch0 n))) u;have:=Dt (p':= .sl UG n (List.replicate n (.str ⟨#[]⟩))) (q':= .sl UG n (List.replicate n (.bool VC))) (λ_=>GU) (λ_=>GU) j;show Rel w m (avK 0) R (.pv (.agg [.sl UG (ch0 n).v.length (bW (ch0 n).v),.sl UG (ch0 n).s.length ((ch0 n).s.map PV.bool)])) u;rw[B,E,G,H];exact this
 have e:(mkS (eG 0 [pIi 0,.agg [.pv (.sl (UF VC) n (List.replicate n (.str ⟨#[]⟩))),.pv (.sl (UF VC) n (List.replicate n (.bool VC)))],.pv (momP (Gv.whole 1).m),.pv (.rp [ptsP ps] 0),.ptr big 0,.pv (.rp [.int .i64 v] 0),.ptr 9001 0,.ptr 9002 0]) (viO S D T n left vs ps v []) 0).sl t=
  (mkS (eG 0 (viA ps v 0 (ch0 n) (Gv.whole 1))) (viO S D T n left vs ps v []) 0).sl t:=by
  have q:Nat.beq t 1=VC:=by cases q:Nat.beq t 1;rfl;exact absurd (cd q) h1
  simp only[mkS,eG,look,T8,q,Ue]
 exact e▸hu
theorem LH{vs:List (Option (List En))}(h:k<vs.length)(o:Option (List En)):ik (vwsC vs) (k*2) (vwC o)=vwsC (vs.set k o):=by
 unfold ik;rw[zb];have j:(vwsC vs).take (k*2)=vwsC (vs.take k):=by grind[vwsC,Ug,List.take_left',o7,TC,Ul]
 have q:(vwsC vs).drop (k*2+2)=vwsC (vs.drop (k+1)):=by
  have:vwsC vs=vwsC (vs.take (k+1))++vwsC (vs.drop (k+1)):=by rw[vwsC,vwsC,vwsC,<-Us,Ug]
  rw[this,List.drop_left'];rw[o7,TC,Ul Xj];omega
 rw[j,q,VK,By h];simp[vwsC,Us]
theorem zo(J:S.rels.length<=1000)(L:vs.length=n)(M:S.attrs.length=n)(hT:T.length=S.rels.length)(U:∀l∈T,l.length<=1000)(V:∀l∈T,∀x∈l,0<=x.w/\x.w<=9223372036854775807)
  (HS CS:List Int) (Y:v<D.hos.length) (Z:v<D.chs.length) (ab:D.hos[v]=HS) (ac:D.chs[v]=CS) (ad:HS.length<=1000) (af:CS.length<=1000) (hH:∀r∈HS,∃k:Nat,k<S.rels.length/\r=(k:Int))
  (hC:∀c∈CS,∃k:Nat,k<n/\k<D.kes.length/\c=(k:Int)) (f:Int->List En) (KK:Int->List Int) (hf:∀(k:Nat)(h:k<vs.length)(h':k<D.kes.length),(k:Int)∈CS->vs[k]=UF (f k)/\D.kes[k]=KK k/\EnOk (f k)/\(f k).length<=1000000)
  (ag:ps=(HS.map λr=>gF (lj S r) (nv T r))++CS.map λc=>dV (KK c) (f c))
  (h:BC S D n v K Q X lf ps) (hl0:left<=3000) (hl:((viewE (lf v) n v K ps).length:Int)<=left) (hw:jt Gv.w (viewE (lf v) n v K ps)<=10^45):
  FnO prog 35 2 0 [.ptr big 0,pIi v] (bldO S D T n left vs) (λr ob'=>r= .pv (.bool VA)/\ob'=aB (bldO S D T n (left-(viewE (lf v) n v K ps).length) (vs.set v (UF (viewE (lf v) n v K ps))))):=by
 refine FnO.of func35 O ntmps35 Xn λ_ _ _ _=>?_
 have s:=yB S J D T n left vs L hT U V v HS CS Y Z ab ac ad af hH hC f KK hf;rw[<-ag]at s;have B:=ML (left:=left) (vs:=vs) (T:=T) h hl hw;have G:=lV 1 Xl;have q:=call79;have al:=h.n1;have H:=h.hv;have A:=LH (vs:=vs) (k:=v) Xj (UF (viewE (lf v) n v K ps));have am:=o7 vs;generalize viewE (lf v) n v K ps=E at*;have I:(cC E).length=E.length:=TB _;subst M;refine Z3 O<|Gr O<|Rs O (ea 2 O)<|Rs O (ea 3 O)<|Y3 O<|Z2 O<|Rs O (aF [big,9001] 5 call78 s O O O O ⟨O,O,Xq⟩ Xl O)<|Y2 O<|Z1 O<|Tj (St.jZ (o:= .mix 171 [.pv (ptsP ps)]) 5 Xk O)<|Tj (St.jZ (o:= .mix 3 [pIi v]) 1 Xk O)<|Z2 O<|Gr O<|Ar 7 O<|UB 9 O<|Dr 6 O<|TR O (λτ h=>aa call40 G (h.aD O))<|VE [0,4,6,big,9001,2,3,7,8] O (λτ h=>mT (vs:=[pIi 0,.agg [.osl 7 1 S.attrs.length,.osl 8 1 S.attrs.length],.pv (momP (Gv.whole 1).m)]) [0,4,6,big,9001,2,3,7,8] 9 q B (Ee h 0 O O) (h.Qt.trans O) O O O O ⟨(Eo h 0 O O),(Eo h 1 O O),(Eo h 2 O O),(Eo h 3 O O),(Eo h 4 O O),(Eo h 5 O O),(Eo h 6 O O),((h.o 7 _ O).trans (ah (λc=>UF (Ob.cells 9 c)) ((dh (.str ⟨#[]⟩) (S.attrs.length*1)).trans (by rw[TZ])))),((h.o 8 _ O).trans (ah (λc=>UF (Ob.cells 4 c)) ((dh (.bool VC) (S.attrs.length*1)).trans (by rw[TZ])))),Xq⟩ Xl O)<|D1 O ?_;refine⟨Xk,?_⟩;refine Gc O (λj=>absurd j Xl) (λj=>?_);refine Ti<|UB 11 O<|Dr 6 O<|VE [_] O (λτ h=>p6 underlying100 (.inl ⟨2,(Ee h 0 O O),(Eo h 0 O O)⟩))<|Dr 4 O ?_;refine⟨Xk,?_⟩;refine Tj (St.cB (ks:=cC E) (vs:=lA E) 2 Xk Xn (T3 _))<|Tj (St.cB (ks:=cC E) (vs:=gvsV E) 3 Xk Xn (T3 _))<|UB 8 O<|Dr 6 O<|VE [_] O (λτ h=>ak v underlying92 Em (Ee h 0 O O) (Eo h 0 O O) (Ee h 1 O O) O H)<|DL.step (d:=UG) [_] O O O (λτ h=>DR Em (Ee h 0 O O) (Eo h 0 O O) (Ee h 1 O O) O O Xj) O Xk ?_;refine⟨Xk,?_⟩;exact Z1 O<|Gt O<|⟨[(4,.pv (.bool VA))],bldO S D T S.attrs.length (left-E.length) (vs.set v (UF E)),[.pv (.bool VA)],Tk (aS O) ⟨TX (b:=UF (Ob.mix 94 (bldM S D T S.attrs.length (left-(cC E).length)))) Xk (by rw[I]),TX (b:=UF (Ob.cells 103 (ik (vwsC vs) (v*2) (vwC (UF E))))) Xk (by rw[A]),Xq⟩ O O,O,O,O,O,O⟩
end
end
section
section
variable {C:Ctx}{n:Nat}{σ:St}{Post:Exit->Act->World->Prop}
def AWX(C:Ctx)(n:Nat)(c:Code)(Post:Exit->Act->World->Prop)(σ:St):Prop:=∀a w,SJ C n σ a w->c.wp C.P Post a w
def Si(K:St->Prop)(C:Ctx)(n:Nat)(Post:Exit->Act->World->Prop):Exit->St->Prop
 | .normal,s=>K s
 |ex,s=>∀a w,SJ C n s a w->Post ex a w
theorem AWX.seq(h:AW C n x (Si (AWX C n y Post) C n Post) σ):AWX C n (.seq x y) Post σ:=by
 intro a w hs;refine wp_seq (wp_mono (h.go a w hs) ?_);rintro e a' w' ⟨s,q,r⟩;cases e<;>exact q a' w' r
theorem AWX.seq2(h:AW C n x (Si (AWX C n y (Exit.then (z.wp C.P Post) Post)) C n Post) σ):AWX C n (.seq (.seq x y) z) Post σ:=by
 intro a w hs;refine wp_seq (wp_seq (wp_mono (h.go a w hs) ?_));rintro e a' w' ⟨s,q,r⟩;cases e<;>exact q a' w' r
end
abbrev Hk(w0:World)(R0:Nat->Prop)(Q:PV->Prop):Ending->World->Prop:=λe w'=>∃u v,e= .returned u/\Q v/\Below w0.heap.size w0 w'/\RelP w' (λb=>R0 b\/(w0.heap.size<=b/\b<w'.heap.size)) v u
theorem FnP.marks{fn:Func}{args:List PV}(j:P.funcs[f]? =UF fn)(q:fn.body=UF c)(A:fn.ntmps=n)(r:args.length<=n)
  (h:∀(w:World)(R0:RT w (λ_=>False)),R0.df=[]->AWX ⟨P,λ_=>UG,w,λ_=>False,R0⟩ n c (bodyPostM Fence.wide 2 P fn (Hk w R0.p Q)) (mkS (vK 0 args) [] 0)):FnP P f args Q:=by
 intro w R us hG hR hrel;refine callsIn_wide.1 (callsIn_of_wp_marks (n:=2) j q trivial (wpIn_wide.2 ?_) O);have s:=hrel.length;refine h w ⟨R,hG,λb h=>⟨hR b h,id⟩,[]⟩ O _ w ⟨λ_=>UG,R,⟨⟨λ_=>rfl,λ_ _=>rfl,λ_ _ _ _ h=>(by cases h),λ_ _ _ _ _ h=>(by cases h),λ_ _ _ h=>(by cases h),hR,λb h=> .inl h,λb h=>h,Fr.refl _ _,λ_ _ _ h=>(by cases h),λid hi=>eA (k:=0) hi⟩,rfl,Xo,?_⟩⟩;intro t ht;show Rel w _ (avK 0) R (look (vK 0 args) t) _;rw[zt];exact pG (RelL.ofP hrel) _ t
theorem Ow{R0:RT w0 (λ_=>False)}(G:SW ⟨P,λ_=>UG,w0,λ_=>False,R0⟩ n σ a W m R)(ids:List Nat)(os:List (Nat×Ob))
  (hos:os.map (·.1)=(List.range ids.length).map (big+ ·)) (hob:os.all (λp=>p.2.all (okR ids.length 0))=VA) (Y:gU σ (fu ids 0) os) (H:os.all (λp=>p.2.real)=VA) (hnd:ids.Nodup):
  ∃bs:List Nat,bs.length=ids.length/\Btw P w0 R bs [] os 0 W/\∀(j id b:Nat),ids[j]? =UF id->bs[j]? =UF b->∃N,m id=UF (b,N):=by
 have ρb:∀j,fu ids 0 (big+j)=ids.getD j 0:=λj=>by
  have:Nat.ble big (big+j)=VA:=V3 (Vf _ _);simp only[fu,this,U3,Nat.add_sub_cancel_left]
 have ρj:∀(j id:Nat),ids[j]? =UF id->fu ids 0 (big+j)=id:=λj id h=>by rw[ρb,TO,h];rfl
 have r:∀i o,aB os i=UF o->∃j id:Nat,i=big+j/\ids[j]? =UF id:=by
  intro i o h;have:i∈os.map (·.1):=TG.2 ⟨(i,o),cm h,O⟩;rw[hos]at this;obtain⟨j,hj,rfl⟩:=TG.1 this;have Z:j<ids.length:=by simpa using hj
  exact⟨j,ids[j],O,IS Z⟩
 have M:∀(j id:Nat),ids[j]? =UF id->∃o,aB os (big+j)=UF o:=by
  intro j id h;apply nI;rw[hos];exact TG.2 ⟨j,by simpa using(TE.1 h).1,O⟩
 have U:∀i o,aB os i=UF o->σ.ob (fu ids 0 i)=UF (o.ren (fu ids 0)):=λi o h=>iP Y i o (cm h)
 have s:∀(j id:Nat),ids[j]? =UF id->(m id).isSome=VA:=by
  intro j id h;obtain⟨o,ho⟩:=M j id h;have q:=U _ _ ho;rw[ρj j id h]at q;rw[G.hr.dom,q];exact(Ob.mz _ o).trans (OF.1 H _ (cm ho))
 have A:∀i,okR ids.length 0 i=VA->∃j id:Nat,i=big+j/\ids[j]? =UF id:=by
  intro i hi;simp only[okR,Ub,du]at hi;rcases hi with h|⟨q,I⟩
  .simp[Nat.blt]at h
  have q:=TV q;have I:i<big+ids.length:=by simpa[VG]using I
  exact⟨i-big,ids[i-big]'Xj,Xj,IS _⟩
 obtain⟨mc,hmc⟩:∃mc:Gm,mc=λi=>if(aB os i).isSome then m (fu ids 0 i)else UG:=⟨_,O⟩
 have B:∀i x,mc i=UF x->∃j id:Nat,i=big+j/\ids[j]? =UF id/\m id=UF x:=by
  intro i x h;rw[hmc]at h;simp only at h;split at h
  .rename_i hs;obtain⟨o,ho⟩:=T7.1 hs;obtain⟨j,id,rfl,hj⟩:=r i o ho;rw[ρj j id hj]at h;exact⟨j,id,O,hj,h⟩
  cases h
 have V:∀(j id:Nat),ids[j]? =UF id->mc (big+j)=m id:=by grind
 have J:∀(i j id:Nat),ids[i]? =UF id->ids[j]? =UF id->i=j:=by
  intro i j id q I;have l1:=(TE.1 q).1;have l2:=(TE.1 I).1;have hp:=Uj.1 hnd;have e1:=(TE.1 q).2;have L:=(TE.1 I).2;rcases Nat.lt_trichotomy i j with h|h|h
  .grind
  .exact h
  grind
 have hF:∀id b N,m id=UF (b,N)->w0.heap.size<=b:=λid b N e=>(G.hr.own id b N e).2.2.elim False.elim λh=>h
 have E:=G.hr.frame;refine⟨ids.map λid=>((m id).getD (0,0)).1,Xn,⟨⟨mc,⟨R,G.hr.gi,λb hb=>⟨G.hr.rsz b hb,fun⟨i,N,e⟩=>?_⟩,[]⟩,?_,?_,?_,λb hb=>hb,?_⟩,⟨E.os,E.tape,E.output,E.size,λk hk=>E.block k hk id⟩,λx hx=>absurd hx Xn⟩,?_⟩
 .obtain⟨j,id,_,_,L⟩:=B i _ e;exact(G.hr.own id b N L).2.1 hb
 .refine⟨λi=>?_,λi h=>?_,λi o b N h e=>?_,λi j b N N' q I=>?_,λi b N e=>?_,G.hr.rsz,λb h=> .inl h,λb h=>h,Fr.refl _ _,λi x _ h=>h,λi h=>eA h⟩
  .cases ho:aB os i with
   |none=>rw[hmc];simp[ho,cL]
   | some o=>
     obtain⟨j,id,rfl,hj⟩:=r i o ho;rw[V j id hj,s j id hj];exact(OF.1 H _ (cm ho)).symm
  .cases ho:aB os i with
   |none=>rfl
   | some o=>
     obtain⟨j,id,rfl,hj⟩:=r i o ho;rw[eA (Vf _ _)]at h;cases h
  .obtain⟨j,id,rfl,hj,L⟩:=B i _ e;have q:=U _ _ h;rw[ρj j id hj]at q;have I:=G.hr.obj id _ b N q L;refine lQ.jz (fu ids 0) (okR ids.length 0) (λi x hp hx=>?_) (λi hp=>?_) (OF.1 hob _ (cm h)) I
   .grind
   obtain⟨j',id',rfl,_⟩:=A i hp;exact eA (Vf _ _)
  .obtain⟨i1,id1,rfl,g1,e1⟩:=B i _ q;obtain⟨i2,id2,rfl,g2,L⟩:=B j _ I;have:=G.hr.inj id1 id2 b N N' e1 L;subst this;rw[J i1 i2 id1 g1 g2]
  obtain⟨j,id,_,_,L⟩:=B i _ e;exact⟨(G.hr.own id b N L).1,(G.hr.own id b N L).2.1,.inl ⟨i,N,e⟩⟩
 .intro j b hj;rw[VO]at hj;cases hi:ids[j]? with
  |none=>rw[hi]at hj;cases hj
  | some id=>
    rw[hi]at hj;obtain⟨⟨b',N⟩,hm⟩:=T7.1 (s j id hi);simp only[hm,Vu,V8,TJ]at hj;subst hj;exact⟨N,by rw[V j id hi,hm]⟩
 .grind
 .intro b hb;exact⟨.inl hb,Xn⟩
 .intro j id b hi hj;rw[VO,hi]at hj;obtain⟨⟨b',N⟩,hm⟩:=T7.1 (s j id hi);simp only[hm,Vu,V8,TJ]at hj;subst hj;exact⟨N,hm⟩
def Gf(P:Program)(fn:Func)(n:Nat)(σ:St)(vs:List V):Prop:=∀m0 w0 F R0 (a:Act) (w:World) (m:Gm) (R:Nat->Prop),SW ⟨P,m0,w0,F,R0⟩ n σ a w m R->∃us:List Value,(results fn a.tmps).run P w= .ok (if h:us.toArray.size=1 then us.toArray[0]else .tuple us.toArray) w/\RelL w m σ.av R vs us
theorem res2{fn:Func}{x y:Nat}{t1 t2:TypeId}(B:fn.results.toList=[.cell x t1,.cell y t2]){j:Nat}{T1 T2:TypeId}{cs:List V}{v:V}(E:isRow P t1)(G:bT P t1 k)(H:cs.length=k)(e1:σ.ev n (.tmp x)= .ptr i 0)(o1:σ.ob i=UF (.mix T1 cs))
  (I:gT P t2) (e2:σ.ev n (.tmp y)= .ptr j 0) (o2:σ.ob j=UF (.mix T2 [v])):Gf P fn n σ [.agg cs,v]:=by
 intro m0 w0 F R0 a w m R hw;obtain⟨us,hr,hrel⟩:=oX hw (fun| .tmp t=>pure (a.tmps.getD t undef)| .cell ad t=>do loadVar t (← asAddr (a.tmps.getD ad undef))) (λ_=>rfl) (λ_ _=>rfl) (l:=[.cell x t1]) (vs:=[.agg cs]) (by simp only[yz,e1,o1]) ⟨ax E G e1 o1 H,Xq⟩;simp only[RelL]at hrel;obtain⟨u1,us',rfl,hr1,rfl⟩:=hrel;obtain⟨b,N,hev,hm,arr,hb,hN,hle,hrl⟩:=hw.ptr e2 o2;obtain⟨u2,hu2,hr2⟩:=hrl.get (show [v][0]? =UF v from O);have hc:w.cell? ⟨b,0,UG⟩=UF u2:=by rw[lS hb O (show 0<[v].length from Nat.zero_lt_one)];exact hu2
 have r:a.tmps.getD y undef= .pointer (UF ⟨b,0,UG⟩):=hev;refine⟨[u1,u2],?_,RelL.cons hr1 (RelL.cons hr2 RelL.nil)⟩;have A:Sem.run P (loadVar t2 ⟨b,0,UG⟩) w= .ok u2 w:=by simp[loadVar,I.run,load,Sem.run,hc]
 rw[List.mapM_cons,List.mapM_nil]at hr;have s:Sem.run P (do loadVar t1 (← asAddr (a.tmps.getD x undef))) w= .ok u1 w:=by
  revert hr
  simp only[Sem.run_bind];cases hq:Sem.run P (asAddr (a.tmps.getD x undef)) w with
  | ok q wq=>
    simp only[Result.andThen_ok];cases hq2:Sem.run P (loadVar t1 q) wq with
    |ok q2 wq2=>simp
    |_=>simp[Result.andThen]
  |_=>simp[Result.andThen]
 unfold results;rw[Array.mapM_eq_mapM_toList,B];rw[Sem.run_bind]at s;simp only[List.mapM_cons,List.mapM_nil,Sem.run_bind,Sem.run_map];rw[s];simp[r,asAddr,A]
def K6(P:Program)(fn:Func)(n:Nat)(Q:PV->Prop):Exit->St->Prop
 | .ret,σ| .normal,σ=>∃vs ps,Gf P fn n σ vs/\V.args σ.ob vs=UF ps/\Q (jB ps)
 |_,_=>False
theorem Btw.tail{R0:Nat->Prop}{bs X:List Nat}{os:List (Nat×Ob)}{D:Nat}{slots:List (Nat×V)}{fn:Func}
  (hT:∀m0 w0 F R0,AW ⟨P,m0,w0,F,R0⟩ n z (K6 P fn n Q) (mkS slots os k)) (hB:Btw P w0 R0 bs X os k W) (hD:D∈X) (U:W.heap[D]? =UF (.deferred (UF []))) (a:Act) (hdf:a.defers=[{ target:= .collected D,args:= #[] }]) (hsz:a.tmps.size=n)
  (hsl:∀(m:Gm)(R:Nat->Prop),(∀j b,bs[j]? =UF b->∃N,m (big+j)=UF (b,N))->(∀b,R0 b->R b)->∀t,t<n->Rel W m (avK k) R (look slots t) (a.eval (.tmp t))):
  z.wp P (bodyPostM Fence.wide 2 P fn (Hk w0 R0 Q)) a W:=by
 obtain⟨m,rt0,hr0,h1,h2,h3,h4⟩:=hB.ex;obtain⟨rt,hp,hd0⟩:∃rt:RT W (fp m),rt.p=rt0.p/\rt.df=a.defers:=⟨⟨rt0.p,rt0.g,rt0.d,a.defers⟩,O,O⟩;have hr:=hr0.dfs hp;rw[<-hp]at hr h3 h4;refine wp_mono ((hT m W (fp m) rt).go a W ⟨m,rt.p,hr,hd0.symm,hsz,hsl m rt.p h1 h3⟩) ?_;rintro ex a2 w2 ⟨σ',hq,m2,R2,hw⟩;have r:Fr (fp m) W w2:=hw.hr.frame;have Y:=(hB.xs D hD);have B:¬fp m D:=fun⟨id,N,e⟩=>(h2 id D N e).2 hD
 have Z:w2.heap[D]? =UF (.deferred (UF [])):=(r.block D Y.1 B).trans U;have aa:¬R2 D:=λh=>by
  rcases hw.hr.rfr D h with e|e|e
  .exact(h4 D e).2 hD
  .have:W.heap.size<=D:=e;omega
  exact B e
 have ab:∀id N,m2 id≠UF (D,N):=λid N e=>by
  rcases(hw.hr.own id D N e).2.2 with h|h
  .exact B h
  have:W.heap.size<=D:=h;omega
 obtain⟨w3,hw3⟩:∃w3,w3=w2.putObj D (.deferred UG):=⟨_,O⟩;have E:∀q,q≠D->w3.heap[q]? =w2.heap[q]? :=λq hq=>by rw[hw3];exact World.putObj_heap_other hq
 have s:w3.heap.size=w2.heap.size:=by rw[hw3];simp
 have G:∀b,R2 b->R2 b/\w3.heap[b]? =w2.heap[b]? :=λb hb=>⟨hb,E b λe=>aa (e▸hb)⟩
 obtain⟨rt3,hp3,hd3⟩:∃rt3:RT w3 (fp m2),rt3.p=R2/\rt3.df=a2.defers:=⟨⟨R2,hw.hr.gi.mono G,λb hb=>⟨by rw[s];exact hw.hr.rsz b hb,fun⟨id,N,e⟩=>(hw.hr.own id b N e).2.1 hb⟩,a2.defers⟩,O,O⟩;have H:SW ⟨P,m2,w3,fp m2,rt3⟩ n σ' a2 w3 m2 R2:=by
  refine⟨⟨hw.hr.dom,hw.hr.free,λid o b N g1 g2=>lQ.mono G (λ_ _ _ e=>e) (λ_ e=>e) (E b λe=>ab id N (e▸g2)) (hw.hr.obj id o b N g1 g2),hw.hr.inj,λid b N e=>⟨by rw[s];exact(hw.hr.own id b N e).1,(hw.hr.own id b N e).2.1,.inl ⟨id,N,e⟩⟩,λb hb=>by rw[s];exact hw.hr.rsz b hb,λb hb=> .inl (by show rt3.p b;rw[hp3];exact hb),λb hb=>by have:rt3.p b:=hb;rw[hp3]at this;exact this,Fr.refl _ _,λ_ _ _ e=>e,hw.hr.res⟩,hd3.symm,hw.sz,λt ht=>(hw.sl t ht).mono G (λ_ _ _ e=>e) λ_ e=>e⟩
 have I:a2.defers=[{ target:= .collected D,args:= #[] }]:=hw.df.trans (hd0.trans hdf);have ac:∀id b N,m2 id=UF (b,N)->w0.heap.size<=b:=λid b N e=>by
  rcases(hw.hr.own id b N e).2.2 with⟨id2,N2,e2⟩|h
  .exact(h2 id2 b N2 e2).1
  grind
 have ad:∀b,R2 b->R0 b\/w0.heap.size<=b:=λb hb=>by
  rcases hw.hr.rfr b hb with e|e|⟨id,N,e⟩
  .exact(h4 b e).1
  .grind
  exact .inr (h2 id b N e).1
 have J:Below w0.heap.size w0 w3:=by
  have af:Below w0.heap.size W w3:=⟨by rw[hw3];exact r.os,by rw[hw3];exact r.tape,by rw[hw3];exact r.output,by rw[s];exact r.size,λq hq=>(E q Xj).trans (r.block q (TM hq hB.bel.size) fun⟨id,N,e⟩=>by have:=(h2 id q N e).1;omega)⟩;exact hB.bel.trans af
 have L:∀vs ps,Gf P fn n σ' vs->V.args σ'.ob vs=UF ps->Q (jB ps)->LeavesInM Fence.wide 2 P fn a2.tmps (Hk w0 R0 Q) a2.defers .returning w2:=by
  intro vs ps g1 g2 g3;obtain⟨us',hrun,hrl⟩:=g1 _ _ _ _ _ _ _ _ H;have ag:=H.args hrl g2;have A:RelPL w3 (λb=>R0 b\/(w0.heap.size<=b/\b<w3.heap.size)) ps us':=ag.mono λb hb=>⟨by
   rcases hb with hb|⟨id,N,hb⟩
   .rcases ad b hb with h|h
    .exact .inl h
    exact .inr ⟨h,by rw[s];exact hw.hr.rsz b hb⟩
   exact .inr ⟨ac id b N hb,by rw[s];exact(hw.hr.own id b N hb).1⟩,O⟩
  have M:=A.length;rw[I];refine⟨Xn,.inl ⟨D,w3,O,by rw[hw3];exact run_takeDeferred Z,?_⟩⟩;refine⟨_,hrun,_,_,O,g3,J,?_⟩;cases ps with
  | nil=>
    simp only[RelPL]at A;subst A;simp only[jB,RelP];exact⟨[],Xn,RelPL.nil⟩
  | cons p ps=>
    cases ps with
    | nil=>
      simp only[RelPL]at A;obtain⟨u,vs',rfl,h5,rfl⟩:=A;simpa[jB]using h5
    | cons p2 ps=>
      simp only[jB,RelP];refine⟨us',?_,A⟩;rw[dif_neg (by simp at M ⊢; omega)]
 cases ex with
 |normal=>obtain⟨vs,ps,g1,g2,g3⟩:=hq;exact L vs ps g1 g2 g3
 |ret=>obtain⟨vs,ps,g1,g2,g3⟩:=hq;exact L vs ps g1 g2 g3
 |_=>exact hq.elim
end
section
open Go.RowKit Go.Shelf
attribute [local go_sem] Oper.semAt_some
theorem I8(b off bk o:Nat)(L:List Int)(A:Option Addr)(c:Nat)(w:World)(Y:b<w.heap.size)(B:L≠[]->A=UF ⟨bk,o,UG⟩/\bk<w.heap.size)(H:w.cell? ⟨b,off,UG⟩=UF (.slice A L.length c))
  (I:∀j (h:j<L.length),w.cell? ⟨bk,o+j,UG⟩=UF (.int .i64 L[j])) (hLl:L.length<=1000000):
  SQ VC prog 77 #[.pointer (UF ⟨b,off,UG⟩)] (λx:Nat×Int=> #[.int .i64 (x.1:Int),.int .i64 x.2]) (λU V=>∀q,q=b\/(L≠[]/\q=bk)->V.heap[q]? =U.heap[q]?)
   (λpre x=>pre.length<L.length/\x=(L.length-1-pre.length,L.getD (L.length-1-pre.length) 0)) (λxs=>xs.length=L.length) w:=by
 intro l J W hW hJ hY M;have M:J [] W:=M (.cells #[] 0 (0,0));have hc:W.cell? ⟨b,off,UG⟩=UF (.slice A L.length c):=(hW.cell (p:=⟨b,off,UG⟩) Y).trans H;have Z:∀j (h:j<L.length),W.cell? ⟨bk,o+j,UG⟩=UF (.int .i64 L[j]):=λj h=>(hW.cell (p:=⟨bk,o+j,UG⟩) (B (by intro e;subst e;simp at h)).2).trans (I j h)
 have hA:L≠[]->A=UF ⟨bk,o,UG⟩:=λh=>(B h).1
 clear H I hJ hW;refine callsIn_of_wp func77 O trivial ?_ O;simp only[ntmps77,T4,IT,VI,Nat.reduceAdd,Nat.reduceSub,Wd,We,Wt,Wn,Uv,Uz]
 gi_wp2
 gi_loopw [3] (λi wr=>∃pre:List (Nat×Int),pre.length<=L.length/\i= .int .i64 ((L.length:Int)-1-pre.length)/\J pre wr/\wr.cell? ⟨b,off,UG⟩=UF (.slice A L.length c)/\∀j (h:j<L.length),wr.cell? ⟨bk,o+j,UG⟩=UF (.int .i64 L[j]))
  (λi _=>(intOf i+1).toNat)
 case atStart=>
  exact⟨[],aJ _,Xn,M,hc,Z⟩
 case round=>
  obtain⟨pre,hpl,rfl,hJp,hcp,hrp⟩:=hrel;by_cases hlt:pre.length<L.length
  .obtain⟨k,hk⟩:∃k:Nat,k=L.length-1-pre.length:=⟨_,O⟩;have r:k<L.length:=Xj;have s:(L.length:Int)-1-pre.length=(k:Int):=Xj;have E:L≠[]:=λe=>by subst e;simp at r
   obtain rfl:=hA E;have hck:=hrp k r;have hge:decide ((k:Int)>=0)=VA:=TD Xj;obtain⟨fn,tmps,assign,body,hy,hR⟩:=hY pre (k,L[k]) wr hJp ⟨hlt,by subst hk;simp[List.getD,r]⟩;simp only at hy;have G:(k:Int)-1=(L.length:Int)-1-((pre.length+1:Nat):Int):=Xj;rw[s];have HK:=Lib.hid (And.intro s G);have HC:=Lib.hid hrp;have HP:=Lib.hid hcp;clear hY hc Z hrp hk s G hA B
   gi_wp2
   refine hR.mono ?_;rintro e W4 ⟨rfl,hJ4,hk4⟩
   gi_wp2
   go_roundw
   case rel=>
    refine⟨pre++[(k,L[k])],Xo,?_,hJ4,?_,λj h=>?_⟩
    .rw[HK.out.2];simp
    .rw[<-HP.out];exact World.cell?_of_block (hk4 b (.inl O))
    rw[<-HC.out j h];exact World.cell?_of_block (hk4 bk (.inr ⟨E,O⟩))
   case measure=>simp[intOf]
  have hpe:pre.length=L.length:=Xj
  gi_wp2
  go_end0
  exact⟨⟨_,O⟩,pre,hpe,hJp⟩
end
section
namespace Vw
open Mm Jn Mk
set_option autoImplicit false
theorem mZ{α:Type}[BEq α][LawfulBEq α]:∀{l Q:List α},l.Nodup->(∀a∈l,a∈Q)->l.length<=Q.length
 |[],_,_,_=>aJ _
 | a::l,Q,hn,hs=>by
   obtain⟨h1,h2⟩:=Vh.1 hn;have j:=hs a Xn;have:=mZ (l:=l) (Q:=Q.erase a) h2 λb hb=>(List.mem_erase_of_ne (λe=>h1 (by rw[<-e];exact hb))).2 (hs b (by simp[hb]))
   rw[List.length_erase_of_mem j]at this;have:=List.length_pos_of_mem j;rw[IT];omega
def sqL(Q:List Par):List PP:=Q.flatMap λa=>Q.map λb=>(a,b)
theorem Oz(Q:List Par):(sqL Q).length=Q.length*Q.length:=by
 unfold sqL;have:∀l:List Par,(l.flatMap λa=>Q.map λb=>(a,b)).length=l.length*Q.length:=λl=>by
  induction l with
  |nil=>simp
  |cons a l ih=>rw[T0,IN,ih,TB,IT,Xe];omega
 exact this Q
theorem Q4{Q:List Par}{a b:Par}(j:a∈Q)(q:b∈Q):(a,b)∈sqL Q:=Uk.2 ⟨a,j,TG.2 ⟨b,q,O⟩⟩
theorem Tg{B:Nat}{q:Rat}(r:0<D)(s:D<=36)(A:dw D q)(E:bj B q)(h:B*36<1000000000):F1 q:=by
 have G:=A.N7 r;have j:q.den<=36:=Xj;exact⟨Wq (AS E.num (T9 _ j)) h,Xj⟩
theorem RC{Q:List Par}{W:Nat}{x:Mm.Sem}(U:SOk W k x)(A:Sup Q x)(J:Q.length<=1000)(q:9*k*k*W*36<1000000000)(V:W*36<1000000000)(B:3*k*W*36<1000000000):MF1 (cn x):=by
 obtain⟨h,hx,_,_⟩:=U.cn;refine⟨?_,λe he=>Tg Xl Xl (h.s.it e he) (h.sb e he) B,λe he=>Tg Xl Xl (h.p.it e he) (h.pb e he) q,?_,?_⟩
 .obtain⟨z,hz⟩:=h.ci;have q:=h.cb;rw[hz]at q ⊢;have L:=q.num;have E:((z:Int):Rat).den=1:=rfl;rw[E,TZ]at L;exact⟨Xj,by rw[E];decide⟩
 .have h2:((cn x).s.map (·.1)).length<=Q.length:=mZ h.s.nd λa ha=>by
   obtain⟨e,he,rfl⟩:=TG.1 ha;refine Ui λj=>?_
   have G:=A.s _ j;rw[<-hx]at G;have r:lk (cn x).s e.1=e.2:=fB h.s.nd he;exact h.s.nz O e he (r.symm.trans G)
  rw[TB]at h2;omega
 have h2:((cn x).p.map (·.1)).length<=(sqL Q).length:=mZ h.p.nd λa ha=>by
  obtain⟨e,he,rfl⟩:=TG.1 ha;have r:lk (cn x).p e.1=e.2:=fB h.p.nd he;have M:(cn x).sem.p e.1.1 e.1.2=e.2:=by
   rw[<-r];show lk (cn x).p (cP e.1.1 e.1.2)=_;rw[cQ (h.po e he)]
  have H:x.p e.1.1 e.1.2≠0:=by rw[<-hx,M];exact h.p.nz O e he
  have I:e.1.1∈Q/\e.1.2∈Q:=by
   refine⟨Ui λj=>H (A.p _ _ (.inl j)),Ui λj=>H (A.p _ _ (.inr j))⟩
  exact Q4 I.1 I.2
 rw[TB,Oz]at h2;exact AS h2 (AS (Uy J J) Xl)
theorem qj{Q:List Par}{g:Gv}(h:GvOk Q g)(A:Q.length<=1000)(r:g.w<=40000)(j:g.k<=8):MF1 (cn g.m):=by
 have B:9*g.k*g.k*g.w<=9*8*8*40000:=Uy (Uy (T9 9 j) j) r;have E:3*g.k*g.w<=3*8*40000:=Uy (T9 3 j) r;exact RC h.s h.q A Xj Xj Xj
end Vw
end


section
open Mk Jn

theorem y9(a b:List ByteArray)(H:a.length<=1000000)(J:b.length<=1000000):FnP prog 58 [bh a,bh b] (· = .bool (decide (a=b))):=by
 refine FnP.of func58 O ntmps58 Xn λ_ _ _ _=>?_
 refine Z1 O<|Gr O<|Ar 5 O<|Gc O (λj=>?_) (λj=>?_)
 .exact Z1 O<|VF O<|ah PV.bool (TL (λe=>by rw[e]at j;simp at j)).symm
 have hl:a.length=b.length:=by simp at j;omega
 refine Ti<|Z3 O<|Gz O (st:=λXr:Nat=>([(0,UG),(1,UG),(12,UG),(13,UF (pIi Xr))],[])) 0
  (I:=λXr=>Xr<=a.length/\a.take Xr=b.take Xr) (μ:=λXr=>a.length-Xr) (x0:=0) (Tk (aS O) trivial O O) (⟨aJ _,O⟩) ?_
 rintro i ⟨hi,ht⟩;refine Z1 O<|Gp O (λs=>?_) (λs=>?_)
 .have ha1:i<a.length:=Xj;have r:i<b.length:=Xj;have A:=bL ha1;have B:=bN ha1;have E:=bL r;have G:=bN r;refine Ti<|Z2 O<|UB 9 O<|Dr 3 O<|D2 O O Xm ?_;refine Dr 3 O<|D2 O O Xm ?_;refine D1 O ?_;refine⟨Xk,?_⟩;refine Gc O (λq=>?_) (λq=>?_)
  .exact Z1 O<|VF O<|ah PV.bool (TL (λe=>by subst e;simp at q)).symm
  exact Ti<|Z2 O<|⟨(i+1),Tk (aS O) trivial O O,⟨Xj,by rw[AI ha1,AI r,ht,show a[i]=b[i]from baT (by simpa using q)]⟩,Xj⟩
 exact Gx O<|Z1 O<|VF O<|ah PV.bool (TD (by rwa [aH Xj,aH Xj]at ht)).symm
end
section
open Go.RowKit Mk Jn Mm Vw
theorem MD(l:List Int)(B:l.length<=1000000):FnP prog 69 [ar l] (· = .int .i64 (orI l)):=by
 refine FnP.of func69 O ntmps69 Xn λ_ _ _ _=>?_
 refine Z1 O<|Z1 O<|Z3 O<|Gz O (st:=λXr:Nat=>([(3,UG),(6,UG),(7,UG),(8,UF (pIi Xr))],[])) 0
  (I:=λXr=>Xr<=l.length/\∀i∈l.take Xr,i=0) (μ:=λXr=>l.length-Xr) (x0:=0) (Tk (aS O) trivial O O) (⟨aJ _,λi hi=>by simp at hi⟩) ?_
 rintro k ⟨hk,hz⟩;refine Z1 O<|Gp O (λr=>?_) (λr=>?_)
 .have hlt:k<l.length:=Xj;have A:=a6 hlt;have s:=aM hlt;have q:=λh=>AX hlt hz h
  refine Ti<|Z1 O<|A2 O Xm ?_;refine A1 O<|Z3 O ?_;refine Gc O (λj=>?_) (λj=>?_)
  .exact Z2 O<|VF O<|ah (PV.int .i64) (q (by simpa using j)).symm
  exact Ti<|Z2 O<|⟨(k+1),Tk (aS O) trivial O O,⟨Xj,λi hi=>by rw[ct hlt,Uf,TF]at hi;rcases hi with h|rfl;exact hz i h;simpa using j⟩,Xj⟩
 exact Gx O<|Z2 O<|VF O<|ah (PV.int .i64) (Bp λi hi=>hz i (by rwa [aH Xj])).symm
theorem LL(S:Sch)(hB:SB S)(P:List Int)(r:P.length<=1000000)(s:qo S P=0)(d:List (List Rw))(hc:FnP prog 70 [gC S,dbP d] (· = .int .i64 0)):FnP prog 31 [gC S,pY P,dbP d] (· = .int .i64 0):=by
 refine FnP.of func31 O ntmps31 Xn λ_ _ _ _=>?_
 have q:=gl S hB P r;rw[s]at q;have j:=MD [0,0] Xl;refine Z3 O<|UB 9 O<|Dr 2 O<|TR O (λτ h=>aa call62 q (h.aD O))<|Dr 2 O<|TR O (λτ h=>aa call70 hc (h.aD O))<|TR O (λτ h=>au UG Xn el235 O Xl Xl (h.E0 O O) O)<|TR O (λτ h=>aa call69 j (h.aD O))<|D1 O ?_;refine⟨Xk,?_⟩;exact VF O O
theorem NB(S:Sch)(hS:SB S)(P:List Int)(j:OrdOk S P):FnP prog 32 [gC S,pY P] (· =EJ (bF S P)):=
 (MG S hS P j).mono λv ⟨G,hG,e⟩=>by rw[e,Sw j.val hG,Ku j]
theorem SH(L:List Int):FnP prog 34 [ar L] (· = .fn (.func 77) [] [.rp [ar L] 0]):=by
 refine FnP.of func34 O ntmps34 Xn λ_ _ _ _=>?_
 exact Z2 O<|Tj (St.jZ 0 O O)<|Z2 O<|VF O O
theorem G4(D:VD)(n:Nat)(A:D.chs.length=n+1)(r:n<=1000)(L:List Int)(s:D.chs[n]'Xj=L):FnP prog 41 [EJ D] (· =ar L):=by
 refine FnP.of func41 O ntmps41 Xn λ_ _ _ _=>?_
 have j:=gI (ll:=D.chs) (k:=n) Xj;have q:=gO (ll:=D.chs) (k:=n) Xj;rw[s]at j;have e:((D.chs.length:Nat):Int)-1=(n:Int):=Xj;exact Z2 O<|Gr O<|Ar 6 O<|Rs O (ag n underlying88 sA O O e Xj q)<|Rs O (az ⟨_,underlying22,O⟩ O j)<|A1 O<|VF O O
theorem Ap(l:List Trm)(q:l.length<=1000000):FnP prog 59 [.sl UG l.length (bG l)] (· = .sl UG l.length (bG l)):=by
 refine FnP.fg2 (FnP.of func59 O ntmps59 Xn λ_ _ _ _=>?_);have hc:=lZ l;refine Z1 O<|Z1 O<|RL.call O (iz underlying42 O ?_);intro b hb;refine Gc O (λj=>?_) (λj=>?_)
 .have hl0:l=[]:=by have h:=hb j;rw[h]at hc;simp at hc;exact T6 Xj
  exact Z1 O<|VF O<|by rw[hl0];rfl
 refine Ti<|Gr O<|Rs O (dI 0 Rk O)<|A1 O<|Rs O (dC 1 Rk O O O (.inl ⟨UG,O⟩) Xj (λc hc=>by obtain⟨y,_,hy⟩:=Uk.1 hc;simp only[BY,UI,V9]at hy;rcases hy with rfl|rfl|rfl<;>rfl) Xj O) ?_;exact A1 O<|Tj (Tn 1 O O)<|VF O<|show PV.sl UG (0+l.length) ([]++bG l)=_ by rw[T8,Uv]
theorem wz(l:List Prr)(q:l.length<=1000000):FnP prog 60 [.sl UG l.length (bK l)] (· = .sl UG l.length (bK l)):=by
 refine FnP.fg2 (FnP.of func60 O ntmps60 Xn λ_ _ _ _=>?_);have hc:=lW l;refine Z1 O<|Z1 O<|RL.call O (iz underlying43 O ?_);intro b hb;refine Gc O (λj=>?_) (λj=>?_)
 .have hl0:l=[]:=by have h:=hb j;rw[h]at hc;simp at hc;exact T6 Xj
  exact Z1 O<|VF O<|by rw[hl0];rfl
 refine Ti<|Gr O<|Rs O (dI 0 Ri O)<|A1 O<|Rs O (dC 1 Ri O O O (.inl ⟨UG,O⟩) Xj (λc hc=>by obtain⟨y,_,hy⟩:=Uk.1 hc;simp only[BY,UI,V9]at hy;rcases hy with rfl|rfl|rfl|rfl|rfl<;>rfl) Xj O) ?_;exact A1 O<|Tj (Tn 1 O O)<|VF O<|show PV.sl UG (0+l.length) ([]++bK l)=_ by rw[T8,Uv]
noncomputable abbrev entC(e:En):List PV:=bh e.v::Oo (cn e.g.m)
noncomputable def entsC(l:List En):List PV:=l.flatMap entC
theorem xr(l:List En):(entsC l).length=l.length*4:=bM _ 4 (λ_=>rfl) l
theorem mf{l:List En}(h:k<l.length):((entsC l).drop (k*4)).take 4=entC l[k]:=cZ _ 4 (λ_=>rfl) l k h
theorem vw{l:List En}(h:k<l.length):entsC l≠[]:=λe=>by have:=xr l;rw[e]at this;simp at this;omega
theorem D0(l:List En)(e:En):entsC l++entC e=entsC (l++[e]):=by simp only[entsC,Us,T0,Wc,Uh]
noncomputable def lstsC(l:List (List En)):List PV:=l.map λE=> .sl UG E.length (entsC E)
theorem tF{l:List (List En)}(h:k<l.length):(lstsC l)[k*1]? =UF (.sl UG l[k].length (entsC l[k])):=by simp[lstsC,h]
theorem uF{l:List (List En)}(h:k<l.length):lstsC l≠[]:=λe=>by rw[lstsC,VY]at e;subst e;simp at h
noncomputable abbrev vwsP(l:List (List En))(t:MC):PV:= .agg (.sl UG l.length (lstsC l)::Oo t)
theorem tW:cn gz.m=⟨((0:Int):Rat),[],[]⟩:=by
 have h:gz.m=cnt ((0:Nat):Int):=Mm.Sem.same (by show(0:Rat)=(((0:Nat):Int):Rat);rfl) (λ_=>rfl) (λ_ _=>rfl);rw[h];exact sY 0
theorem mG:bo ((0:Int):Rat)=⟨#[48]⟩:=by decide+kernel
theorem Aq:FnP prog 61 [] (· =lR (cn gz.m)):=by
 refine FnP.fg2 (FnP.ofC func61 O ntmps61 Xn λ_ _ _ _=>?_);exact Z1 O<|Z2 O<|VF O ⟨⟨ax ⟨_,underlying45,O⟩ ER O O O,Xq⟩,by rw[tW];show _=PV.agg [.str (bo ((0:Int):Rat)),_,_];rw[mG];rfl⟩
theorem Q8{L:List En}{key:List ByteArray}(j:i<L.length)(q:∀e∈L.take i,e.v≠key)(s:L[i].v=key):atV L key=L[i].g:=by
 have r:L.find? (λe=>decide (e.v=key))=UF L[i]:=by
  rw[List.find?_eq_some_iff_append];exact⟨by simpa using s,L.take i,L.drop (i+1),by rw[<-TN j,Ug],λe he=>by simpa using q e he⟩
 unfold atV;rw[r];rfl
theorem RZ(l:List (List En))(c0:ByteArray)(b1 b2:Option Bool)(k1 k2:Nat)(q1 q2:List PV)(r:Nat)(hr:r<l.length)(key:List ByteArray)(hk:key.length<=1000000)(hl:l[r].length<=1000000)(he:∀e∈l[r],e.v.length<=1000000/\MF1 (cn e.g.m)):FnP prog 23 [.agg [.sl UG l.length (lstsC l),.str c0,.sl b1 k1 q1,.sl b2 k2 q2],.int .i64 r,bh key] (· =lR (cn (atV l[r] key).m)):=by
 refine FnP.ofC func23 O ntmps23 Xn λ_ _ _ _=>?_
 have H:=tF hr;have J:=uF hr;have hz:=Aq;generalize l[r]=L at*;refine Z2 O ?_;have M:decide ((r:Int)>=0)=VA:=TD Xj;have U:decide ((r:Int)<(l.length:Int))=VA:=TD Xj;refine Z1 O<|Rs O (cU O O O M)<|Ar 5 O<|Rg O (cU O O O U)<|A1 O<|Gc O (λq=>?_) (λq=>absurd q Xn);refine Z3 O<|Rs O (ag r underlying40 sz52 O O O hr J)<|Rs O (az ⟨_,underlying52,O⟩ O H)<|Y2 O<|Gz O (st:=λXr:Nat=>([(2,UG),(6,UG),(22,UG),(23,UG),(24,UF (pIi Xr))],[(1,UG)])) 2
  (I:=λXr=>Xr<=L.length/\∀e∈L.take Xr,e.v≠key) (μ:=λXr=>L.length-Xr) (x0:=0) (Tk (aS O) (aO Xk) O O) (⟨aJ _,λe h=>absurd h Xn⟩) ?_
 rintro i ⟨hi,hno⟩;refine Z1 O<|Gp O (λG=>?_) (λG=>?_)
 .have hlt:i<L.length:=Xj;have A:=mf hlt;have V:=vw hlt;obtain⟨hev,hem⟩:=he _ (aq hlt);have Y:=y9 L[i].v key hev hk;have B:=Ap (tmL (cn L[i].g.m).s) (by rw[oA];exact hem.ls);have E:=wz (prL (cn L[i].g.m).p) (by rw[oq];exact hem.lp);rw[oA]at B;rw[oq]at E;have Z:L.take (i+1)=L.take i++[L[i]]:=AI hlt;have ab:L[i].v=key->atV L key=L[i].g:=Q8 hlt hno;generalize L[i]=en at*;refine Ti<|Gr O<|Rs O (ag i underlying52 Ou O O O hlt V)<|Rs O (aG ⟨_,underlying55,O⟩ Ou O A O)<|Y2 O<|Z3 O<|Rs O (aa call58 Y O)<|Gc O (λj=>?_) (λj=>?_)
  .have hv:=ab (Vi j);refine UB 13 O<|Dr 6 O<|TR O (λτ h=>aa call59 B (h.aD O))<|Dr 3 O<|TR O (λτ h=>aa call60 E (h.aD O))<|Dr 2 O ?_;refine⟨Xk,?_⟩;exact VF O ⟨⟨ax ⟨_,underlying45,O⟩ ER O O O,Xq⟩,by rw[hv];rfl⟩
  have hv:en.v≠key:=Vk j;exact Ti<|Z2 O<|⟨(i+1),Tk (aS O) (aO Xk) O O,⟨Xj,λe h=>by rw[Z,Uf,TF]at h;rcases h with h|rfl;exact hno e h;exact hv⟩,Xj⟩
 have hmi:atV L key=gz:=by
  have e1:L.find? (λe=>decide (e.v=key))=UG:=List.find?_eq_none.2 (λe h=>by have:=hno e (by rw[aH Xj];exact h);simpa using this);unfold atV;rw[e1];rfl
 exact Gx O<|Gr O<|Rs O (aa call61 hz O)<|A1 O<|VF O ⟨⟨ax ⟨_,underlying45,O⟩ ER O O O,Xq⟩,by rw[hmi];rfl⟩
end
section
open Go.RowKit Mk Jn Mm Vw
theorem LM(A B:Option Addr)(c d:Nat)(l m:List ByteArray)(s t:ByteArray)(A2 A3 B2 B3:Option Addr)(n2 c2 n3 c3 k2 d2 k3 d3:Nat)(w:World)(h:Row w R A (PO l)){R':Nat->Prop}(q:Row w R' B (PO m))(r:l.length<=1000000)(E:m.length<=1000000):
  Calls prog 38 #[.agg #[.slice A l.length c,.string s,.slice A2 n2 c2,.slice A3 n3 c3],.agg #[.slice B m.length d,.string t,.slice B2 k2 d2,.slice B3 k3 d3]] w λe w'=>e= .returned (.int .i64 (uk l m))/\∃n os',w'=Go.Sort.grow (w.drewN n) os':=by
 have j:=λo1 o2=>BF A B c d l m ((w.alloc o1).alloc o2) ((h.alloc o1).alloc o2) ((q.alloc o1).alloc o2) r E
 clear h q;generalize uk l m=z at j ⊢
 go_enter func38,ntmps38
 go_wp2_with (go_at_call 39;refine(j _ _).mono ?_;rintro e w' ⟨rfl,rfl⟩)
 go_ret
 exact⟨O,0,_,by rw[Go.Sort.alloc_eq_grow,Go.Sort.alloc_eq_grow,Go.Sort.grow_grow];rfl⟩
structure EntV(w:World)(R:Nat->Prop) where
 x:En
 us:List Value
 rel:RelPL w R (entC x) us
 len:x.v.length<=1000000
theorem EntV.cells(r:∀b,R b->b<w.heap.size)(y:EntV w R):∃A c s A2 n2 c2 A3 n3 c3,y.us=[.slice A y.x.v.length c,.string s,.slice A2 n2 c2,.slice A3 n3 c3]/\Row w R A (PO y.x.v):=by
 have h:=y.rel;simp only[RelPL,RelP]at h;obtain⟨u,vs,e,⟨A,c,rfl,_,_,_,_,h5⟩,u2,vs2,rfl,rfl,u3,vs3,rfl,⟨A2,c2,rfl,_⟩,u4,vs4,rfl,⟨A3,c3,rfl,_⟩,rfl⟩:=h;refine⟨A,c,_,A2,_,c2,A3,_,c3,e,λj=>?_⟩;obtain⟨b,off,us,rfl,h6,h7,h8⟩:=h5 (λe=>j (by rw[VY]at e ⊢; exact e));have q:=rW h6;subst q;exact⟨b,off,O,h7,r b h7,h8⟩
theorem EntV.S3(y:EntV w R):y.us.length=4:=y.rel.length
theorem EntV.one(y:EntV w R):∀v∈y.us,v.oneCell'=VA:=by
 have h:=y.rel;simp only[RelPL,RelP]at h;obtain⟨u,vs,e,⟨A,c,rfl,_⟩,u2,vs2,rfl,rfl,u3,vs3,rfl,⟨A2,c2,rfl,_⟩,u4,vs4,rfl,⟨A3,c3,rfl,_⟩,rfl⟩:=h;rw[e];intro v hv;simp only[BY,UI,V9]at hv;rcases hv with rfl|rfl|rfl|rfl<;>rfl
theorem Bh:∀{l:List En}{us:List Value},(∀x∈l,x.v.length<=1000000)->RelPL w R (l.flatMap entC) us->∃ds:List (EntV w R),ds.map (·.x)=l/\ds.flatMap (·.us)=us
 |[],us,_,h=>⟨[],O,by simp[RelPL]at h;simp[h]⟩
 | x::l,us,hl,h=>by
   have h0:RelPL w R (entC x++l.flatMap entC) us:=h;have j:=h0.take 4;have q:=h0.drop 4;rw[show(entC x++l.flatMap entC).take 4=entC x from List.take_left' O]at j;rw[show(entC x++l.flatMap entC).drop 4=l.flatMap entC from List.drop_left' O]at q;obtain⟨ds,e1,e2⟩:=Bh (λy hy=>hl y (by simp[hy])) q;exact⟨⟨x,us.take 4,j,hl x Xn⟩::ds,by simp[e1],by simp[e2]⟩
theorem xI{w':World}(j:∀b,R b->w'.heap[b]? =w.heap[b]?):∀(ds:List (EntV w R)),RelPL w' R ((ds.map (·.x)).flatMap entC) (ds.flatMap (·.us))
 |[]=>by simp[RelPL]
 | y::ds=>by
   have h1:RelPL w' R (entC y.x) y.us:=RelPL.mono (λb hb=>⟨hb,j b hb⟩) _ _ y.rel;have q:=h1.append (xI j ds);rw[cu,T0,T0];exact q
theorem Dm(l:List En)(J:l.length<=1000000)(I:∀x∈l,x.v.length<=1000000):
  FnO prog 37 1 0 [.gsl big 4 l.length,.pv (.fn (.func 38) [] [])] [(big,.gro 55 (entsC l))] (λv ob'=>∃l',l'.Perm l/\(l'.Pairwise λa b=>bO b.v a.v=VC)/\v= .tup []/\ob'=aB [(big,.gro 55 (entsC l'))]):=by
 intro w m R us hR hrel;simp only[RelL,Rel,RelP]at hrel;obtain⟨u1,us1,rfl,⟨_,A,c,rfl,hnc,hcm,h0,h1⟩,u2,us2,rfl,⟨fs,cs,rfl,hfs,hcs⟩,rfl⟩:=hrel;obtain rfl:=(by simpa[RelPL]using hfs:fs=[]);obtain rfl:=(by simpa[RelPL]using hcs:cs=[]);refine(mK (α:=EntV w R.p) (λy=>y.us) (λy=>y.S3) entC (λ_=>rfl) Xl (λy=>y.x) (λj=>j.Pairwise λa b=>bO b.x.v a.x.v=VC) List.Pairwise.nil hR (λh=>(h0 h).1) h1 (λus h=>Bh I h) (λw' G j=>xI G j)
  (AnyF.slices_SortFunc_none Tryz.sortEnt UG c _ w) ?_).mono ?_
 .intro b j arr hds hpos hb ht hbs hbR;have q:j.length=l.length:=by rw[<-hds,TB]
  haveI:Inhabited (EntV w R.p):=⟨j[0]'Xj⟩
  have B:CmpLays prog 38 #[] (λy:EntV w R.p=>y.us) 4 (λx y=>uk x.x.v y.x.v) b 0 j.toArray.size w:=by
   intro mm os dk _ x y;obtain⟨A1,c1,s1,A2,n2,c2,A3,n3,c3,e1,r1⟩:=x.cells hR.rsz;obtain⟨B1,d1,t1,B2,k2,d2,B3,k3,d3,e2,r2⟩:=y.cells hR.rsz;have s:=uv Xl (λy:EntV w R.p=>y.us) (λy=>y.S3) w b mm dk os hbs;have G:∀b',R.p b'->b'<w.heap.size->(sortWorldK (λy:EntV w R.p=>y.us) 4 w b 0 mm dk os).heap[b']? =w.heap[b']? :=λb' h1 h2=>s.block b' h2 λe=>hbR (e▸h1)
   have:=LM A1 B1 c1 d1 x.x.v y.x.v s1 t1 A2 A3 B2 B3 n2 c2 n3 c3 k2 d2 k3 d3 (sortWorldK (λy:EntV w R.p=>y.us) 4 w b 0 mm dk os) (r1.j4 s.size λb' _ _ h1 h2=>G b' h1 h2) (r2.j4 s.size λb' _ _ h1 h2=>G b' h1 h2) x.len y.len;show Calls _ _ (#[.agg x.us.toArray,.agg y.us.toArray]++ #[]) _ _;rw[e1,e2,Array.append_empty];exact this
  have E:=AnyQ.slices_SortFunc Tryz.sortEnt 4 isAgg55 sizeOf55 (λy:EntV w R.p=>y.us) (λy=>y.S3) (λy=>y.one) (λx y=>uk x.x.v y.x.v) (JV λy:EntV w R.p=>y.x.v) 38 #[] b 0 c j.toArray w call38 B (qF Xl (λy:EntV w R.p=>y.us) (λy=>y.S3) hb ht) hbs (by rw[T4];omega);rw[T4,q]at E;refine Calls.mono E ?_;rintro e w' ⟨rfl,d',n,os,hp,s,rfl⟩;have H:d'.size=l.length:=hp.1.trans (by rw[T4,q]);refine⟨O,d'.toList,permIn_all (by rw[T4,q]) hp,(jP H s).imp fun{a b} h=>?_,uv Xl (λy:EntV w R.p=>y.us) (λy=>y.S3) w b n d' os hbs⟩;rw[HB λy:EntV w R.p=>y.x.v]at h;exact h
 rintro e w' ⟨u,v,ob',m',R',rfl,⟨l',ds',hp,rfl,s,rfl,rfl⟩,r⟩;refine⟨u,_,_,m',R',O,⟨_,hp,?_,O,O⟩,r⟩;rw[Vx];exact s
end
section
open Go.RowKit Mk Jn Mm Vw
structure VB(S:Sch)(P:List Int)(T:List (List Rw))(Q:List Par)(X:Nat->List ByteArray)(lf:Int->ByteArray->Gv):Prop where
 sb:SB S
 sj:SJn S
 ord:OrdOk S P
 p5:P.length<=5
 p0:0<P.length
 r3:S.rels.length<=3
 tl:T.length=S.rels.length
 t60:∀l∈T,l.length<=60
 tw:∀l∈T,∀x∈l,0<=x.w/\x.w<=10^5
 q:Q.length<=1000
 x1:∀a,∀t∈X a,t.size<=1000
 lfx:LfX Q X lf
 lift:∀v:Nat,v<P.length->∀t∈X v,FnP prog 80 [gC S,.int .i64 v,.str t] (· =momP (lf v t).m)
 tb:TbX X S T
 en:∀v:Nat,v<P.length->jt Gv.n (vwS S P T lf v)<=216
 ew:∀v:Nat,v<P.length->jt Gv.w (vwS S P T lf v)<=40000
 tot:(totV S P T lf).w<=40000
section
variable {S:Sch}{P:List Int}{T:List (List Rw)}{Q:List Par}{X:Nat->List ByteArray}{lf:Int->ByteArray->Gv}
theorem VB.len(h:VB S P T Q X lf)(j:v<P.length):(vwS S P T lf v).length<=216:=
 AS (OI λe he=>(Kt h.lfx h.tb v e he).n) (h.en v j)
theorem VB.ev(h:VB S P T Q X lf)(q:v<P.length){e:En}(j:e∈vwS S P T lf v):ItX Q X (cK S P v) e.v e.g/\e.g.w<=40000/\e.g.k<=5:=
 ⟨Kt h.lfx h.tb v e j,AS (yM j) (h.ew v q),AS (vwS_k h.ord.jL (λv t=>UM (h.lfx.k v t)) q e j) h.p5⟩
theorem Jm(h:VB S P T Q X lf)(j:v<P.length):∀a∈cK S P v,0<=a/\a<(S.attrs.length:Int):=λa ha=>by
 obtain⟨b,hb,e⟩:=jU h.ord.jL j (Ur _ (uM.1 ha).1);have:=h.ord.len;omega
theorem Hx(j:v<n):(upZ n)[v]'(by rw[a7];exact j)=(v:Int):=by simp[upZ]
theorem pl_ch(j:v<P.length):(bF S P).chs[v]'(by simp[bF,a7];omega)=aE P v:=by grind[bF,TB,a7,Hx]
theorem Iu(j:v<P.length):(bF S P).kes[v]'(by simp[bF,a7];omega)=cK S P v:=by
 simp only[bF,UP,Hx j]
theorem pl_ho(j:v<P.length):(bF S P).hos[v]'(by simp[bF,a7];omega)=hoL S P v:=by
 simp only[bF,UP,Hx j];rfl
theorem qC(P:List Int)(v:Int):(aE P v).length<=P.length:=by rw[<-l6];exact ki _ _ _
theorem Nk{v:Int}:∀r∈hoL S P v,∃k:Nat,k<S.rels.length/\r=(k:Int):=by grind[hoL,nA,TG.1,UR.1,UW.1]
theorem VB.bc(h:VB S P T Q X lf)(s:v<P.length):BC S (bF S P) S.attrs.length v (cK S P v) Q X lf (fy S P T (vwS S P T lf) v):=by
 have A:=h.ord.len;have H:=h.p5;refine⟨by have:=h.p0;omega,Xj,Xj,by simp[bF,a7];omega,Iu s,by have:=rC S P v;omega,Jm h s,h.x1,h.lfx,h.lift v s,?_,?_⟩
 .intro p hp;have B:=vC (Q:=Q) (S:=S) (P:=P) h.tb (f:=vwS S P T lf) (v:=v) (λc _=>Kt h.lfx h.tb c) p hp;rcases Uf.1 hp with hp|hp
  .obtain⟨r,hr,rfl⟩:=TG.1 hp;obtain⟨k,hk,rfl⟩:=Nk r hr;have j:k<T.length:=by rw[h.tl];exact hk
   have E:lj S (k:Int)=S.rels[k].2:=by simp[lj,List.getD,hk]
   have G:nv T (k:Int)=T[k]:=by simp[nv,List.getD,j]
   refine⟨B,λi hi=>?_,λi hi=>?_,λa ha=>?_,?_,?_⟩
   .obtain⟨x,hxm,rfl⟩:=TG.1 hi;rw[G]at hxm;have:=h.tw _ (aq j) x hxm;show x.w.toNat<=_;omega
   .obtain⟨x,hxm,rfl⟩:=TG.1 hi;exact aJ _
   .have ha:a∈lj S (k:Int):=ha;rw[E]at ha;exact h.sj.b _ (aq hk) a ha
   .show(lj S (k:Int)).length<=1000;rw[E];exact h.sj.l _ (aq hk)
   show(List.map _ (nv T (k:Int))).length<=_;rw[TB,G];have:=h.t60 _ (aq j);omega
  obtain⟨c,hc,rfl⟩:=TG.1 hp;obtain⟨m,hm,rfl,_⟩:=bu.1 hc;have q:∀i∈(dV (cK S P m) (vwS S P T lf m)).is,∃e∈vwS S P T lf m,i=⟨e.v,e.g⟩:=λi hi=>by
   obtain⟨e,he,rfl⟩:=TG.1 hi;exact⟨e,(eE _).mem_iff.1 he,O⟩
  refine⟨B,λi hi=>?_,λi hi=>?_,λa ha=>?_,?_,?_⟩
  .obtain⟨e,he,rfl⟩:=q i hi;have:=(h.ev hm he).2.1;show e.g.w<=_;omega
  .obtain⟨e,he,rfl⟩:=q i hi;have:=(h.ev hm he).2.2;show e.g.k<=_;omega
  .exact Jm h hm a ha
  .have:=rC S P m;show(cK S P m).length<=_;omega
  show(List.map _ (Kh (vwS S P T lf m))).length<=_;rw[TB,(eE _).length_eq];have:=h.len hm;omega
 unfold fy;rw[IN,TB,TB];have I:=ki (S.rels.map λr=>qm P r.2) S.rels.length v;have J:=qC P v;have L:=h.r3;show(hoL S P v).length+_<=_;unfold hoL;omega
noncomputable def lnV(S:Sch)(P:List Int)(T:List (List Rw))(lf:Int->ByteArray->Gv)(D:List Int):Nat:=(D.map λv=>(vwS S P T lf v).length).sum
theorem Ni(h:VB S P T Q X lf):∀{D:List Int},(∀v∈D,∃a:Nat,a<P.length/\v=(a:Int))->lnV S P T lf D<=216*D.length
 |[],_=>AT _
 | v::D,hD=>by
   obtain⟨a,ha,rfl⟩:=hD v Xn;have q:=h.len ha;have j:=Ni h (D:=D) λx hx=>hD x (by simp[hx])
   unfold lnV at j ⊢;rw[cu,Up,IT];omega
theorem H0(j:UpOk P)(q:i<(aQ P).length):∃a:Nat,a<P.length/\(aQ P)[i]=(a:Int):=by
 have:=(cE j).mem_iff.1 (aq q);exact bp.1 this
theorem OG(h:VB S P T Q X lf)(L:i<(aQ P).length)(e:(aQ P)[i]=(v:Int)):
  FnO prog 35 2 0 [.ptr big 0,pIi v] (bldO S (bF S P) T S.attrs.length (3000-(lnV S P T lf ((aQ P).drop (i+1)):Int)) (stV S P T lf ((aQ P).drop (i+1)))) (λr ob'=>r= .pv (.bool VA)/\ob'=aB (bldO S (bF S P) T S.attrs.length (3000-(lnV S P T lf ((aQ P).drop i):Int)) (stV S P T lf ((aQ P).drop i)))):=by
 have s:=h.ord.jL;have A:=h.ord.len;have B:v<P.length:=by grind[H0]
 have H:=h.bc B;have I:(aQ P).drop i=(v:Int)::(aQ P).drop (i+1):=by rw[<-e];exact TN L
 have U:lnV S P T lf ((aQ P).drop i)=(vwS S P T lf v).length+lnV S P T lf ((aQ P).drop (i+1)):=by grind[lnV]
 have V:lnV S P T lf ((aQ P).drop i)<=216*5:=by
  refine AS (Ni h λx hx=>?_) (T9 _ ?_)
  .exact bp.1 ((cE s).mem_iff.1 (Vq hx))
  rw[UQ,(cE s).length_eq,a7];have:=h.p5;omega
 have j:viewE (lf v) S.attrs.length v (cK S P v) (fy S P T (vwS S P T lf) v)=vwS S P T lf v:=(qx s B).symm;have J:=RY (S:=S) (T:=T) (lf:=lf) s L e;have E:=GO (S:=S) (P:=P) (T:=T) (lf:=lf) ((aQ P).drop (i+1));have M:=(AK (S:=S) (T:=T) (lf:=lf) s L).2;rw[e]at M;have q:=zo (S:=S) (D:=bF S P) (T:=T) (n:=S.attrs.length) (left:=3000-(lnV S P T lf ((aQ P).drop (i+1)):Int)) (vs:=stV S P T lf ((aQ P).drop (i+1))) (ps:=fy S P T (vwS S P T lf) v) (v:=v) (K:=cK S P v) (Q:=Q) (X:=X) (lf:=lf)
  (by have:=h.r3;omega) (by rw[E];exact A) O h.tl (λl hl=>by have:=h.t60 l hl;omega) (λl hl x hx=>by have:=h.tw l hl x hx;omega)
  (hoL S P v) (aE P v) (by simp[bF,a7];omega) (by simp[bF,a7];omega) (pl_ho B) (pl_ch B) (by have:=ki (S.rels.map λr=>qm P r.2) S.rels.length v;have:=h.r3;show(nA _ _ _).length<=_;omega) (by have:=qC P v;have:=h.p5;omega) Nk
  (λc hc=>by
   obtain⟨m,hm,rfl,_⟩:=bu.1 hc;exact⟨m,Xj,by simp[bF,a7];omega,O⟩)
  (vwS S P T lf) (cK S P) (λk hk hk' hc=>by
   have G:k<P.length:=by rw[E]at hk;exact hk
   refine⟨?_,Iu G,II k,by have:=h.len G;omega⟩;rw[BR hk,By (M k hc)])
  rfl H Xj (by rw[j];omega) (by rw[j];exact AS (h.ew v B) Xu)
 rw[j,J]at q;have Y:(3000-(lnV S P T lf ((aQ P).drop (i+1)):Int))-((vwS S P T lf v).length:Int)=3000-(lnV S P T lf ((aQ P).drop i):Int):=Xj;rw[Y]at q;exact q
end
noncomputable def vbBody:Code:=match Tryz.f9.body with
 |some (.seq _ (.seq _ (.seq _ (.seq _ (.seq (.seq _ (.block _ (.rangeFunc _ _ _ b))) _)))))=>b
 |_=> .skip
noncomputable def vbTail:Code:=match Tryz.f9.body with
 |some (.seq _ (.seq _ (.seq _ (.seq _ (.seq _ t)))))=>t
 |_=> .skip
noncomputable abbrev vbO(S:Sch)(D:VD)(T:List (List Rw))(n:Nat)(left:Int)(vs:List (Option (List En))):List (Nat×Ob):=[(big,.mix 87 [.ptr 9003 0]),(9001,.mix 47 [.pv nS,.pv (.str ⟨#[]⟩),.pv nS,.pv nS]),(9002,.mix 48 [pIi 0]),(9003,.mix 94 (bldM2 S D T n left 9004)),(9004,.cells 103 (vwsC vs))]
theorem Nd{D:VD}{T:List (List Rw)}{l1 l2:Int}{vs1 vs2:List (Option (List En))}(q:FnO prog 35 2 0 [.ptr big 0,pIi v] (bldO S D T n l1 vs1) (λr ob'=>r= .pv (.bool VA)/\ob'=aB (bldO S D T n l2 vs2))):
  ∀m0 w0 F R0,AWR ⟨prog,m0,w0,F,R0⟩ Tryz.f9.ntmps vbBody (λex τ=>ex= .normal/\τ.le (mkS [] (vbO S D T n l2 vs2) 0)) (mkS [(9,.ptr big 0),(12,pIi v)] (vbO S D T n l1 vs1) 0):=by
 intro m0 w0 F R0
 repeat refine AWR.seq ?_
 refine AWR.block ?_
 repeat refine AWR.seq ?_
 refine AWR.region O<|Y2 O<|Rs O (aF [9003,9004] 0 call35 q O O O O ⟨O,O,Xq⟩ Xl O)<|A1 O ?_
 repeat refine AWR.seq ?_
 refine AWR.cond O (λj=>absurd j Xl) (λj=>?_);exact AWR.skip<|⟨O,Tk trivial (aO Xk) O O⟩
end
section
open Go.RowKit Go.Shelf Mk Jn Mm Vw
section
variable {F:Fence}{n:Nat}{P:Program}(w:World){ops:Array Oper}{rest:List Oper}{o:Oper}{a:Act}{Q:Exit->Act->World->Prop}
theorem vv(q:o.guard=UG)(m:Operand)(j:o.op=Op.assign m)(r:wpListIn F n P ops Q rest (a.put o.dst (a.eval m)) w):wpListIn F n P ops Q (o::rest) a w:=by
 refine wpListIn_plain q λK' hK'=>?_
 unfold Oper.wpIn;refine⟨by simp[Oper.about,j],?_⟩;rw[Oper.semAt_plain F _ _ (by rw[j];intro c hc';cases hc')];simp[execOp,j];exact hK' _ _ r
end
theorem sZ:∀{l:List Int}{us:List Value},RelPL w R (aK l) us->us=l.map (Value.int .i64)
 |[],us,h=>by simpa[RelPL]using h
 | x::l,us,h=>by
   simp only[cu,RelPL,RelP]at h;obtain⟨u,vs,rfl,rfl,h2⟩:=h;rw[sZ h2];rfl
theorem OC{L:List Int}(h:RelP w R (.fn (.func f) [] [.rp [ar L] 0]) u):
  ∃(b off:Nat)(A:Option Addr)(c:Nat),u= .func (.func f) #[] #[.pointer (UF ⟨b,off,UG⟩)]/\R b/\w.cell? ⟨b,off,UG⟩=UF (.slice A L.length c)/\∃bk o,(L≠[]->A=UF ⟨bk,o,UG⟩/\R bk)/\∀j (h:j<L.length),w.cell? ⟨bk,o+j,UG⟩=UF (.int .i64 L[j]):=by
 rw[RelP]at h;obtain⟨us,vs',rfl,h1,h2⟩:=h;simp only[RelPL]at h1 h2;obtain⟨u3,us3,rfl,h3,rfl⟩:=h2;subst h1;rw[RelP]at h3;obtain⟨b,off,us4,rfl,h4,h5⟩:=h3;simp only[RelPL]at h4;obtain⟨um,us5,rfl,h6,rfl⟩:=h4;have q:=h5.2 0 Xn;simp only[RelP]at h6;obtain⟨A,c,rfl,_,_,_,_,h8⟩:=h6;refine⟨b,off,A,c,O,h5.1,by simpa using q,?_⟩;by_cases hL:L=[]
 .grind
 obtain⟨bk,o,us,rfl,g1,g2,g3⟩:=h8 (λe=>hL (by rw[VY]at e;exact e));refine⟨bk,o,λ_=>⟨O,g2⟩,λj hj=>?_⟩;have r:us=L.map (Value.int .i64):=sZ g1;subst r;have:=g3 j (by simpa using hj);simpa[hj]using this
noncomputable abbrev vbA(a:Act)(i v:Value):Act:=(Act.put { tmps:=((#[71,72]:Array Tmp).zip #[i,v]).foldl (λt (p,v)=>t.setIfInBounds p v) a.tmps,defers:=[] } (UF 12) (Act.eval { tmps:=((#[71,72]:Array Tmp).zip #[i,v]).foldl (λt (p,v)=>t.setIfInBounds p v) a.tmps,defers:=[] } (.tmp 72)))
theorem Of(h:a.tmps.size=143)(i v:Value):(vbA a i v).eval (.tmp 9)=a.eval (.tmp 9)/\(vbA a i v).eval (.tmp 12)=v/\(vbA a i v).tmps.size=143:=by
 refine⟨?_,?_,?_⟩<;>simp[vbA,Act.put,Act.eval,h]
noncomputable def vbLoop:Code:=match Tryz.f9.body with
 |some (.seq _ (.seq _ (.seq _ (.seq _ (.seq (.seq _ b) _)))))=>b
 |_=> .skip
noncomputable abbrev vbS(S:Sch)(D:VD)(T:List (List Rw))(n:Nat)(left:Int)(vs:List (Option (List En))):List (Nat×Ob):=[(2,.mix 47 [.pv nS,.pv (.str ⟨#[]⟩),.pv nS,.pv nS]),(3,.mix 48 [pIi 0]),(4,.cells 103 (vwsC vs)),(5,.mix 94 (bldM2 S D T n left 4)),(6,.mix 87 [.ptr 5 0])]
theorem Ox{P:List Int}{T:List (List Rw)}{Q:List Par}{X:Nat->List ByteArray}{lf:Int->ByteArray->Gv}(h:VB S P T Q X lf){G:PV->Prop}
  (hT:∀m0 w0 F R0,AW ⟨prog,m0,w0,F,R0⟩ Tryz.f9.ntmps vbTail (K6 prog Tryz.f9 Tryz.f9.ntmps G) (mkS [(6,.ptr 9001 0),(7,.ptr 9002 0),(9,.ptr big 0)] (vbO S (bF S P) T S.attrs.length (3000-(lnV S P T lf (aQ P):Int)) (stV S P T lf (aQ P))) 0))
  (w:World) (R0:RT w (λ_=>False)) (hdf:R0.df=[]):
  AWX ⟨prog,λ_=>UG,w,λ_=>False,R0⟩ Tryz.f9.ntmps vbLoop (Exit.then (vbTail.wp prog (bodyPostM Fence.wide 2 prog Tryz.f9 (Hk w R0.p G))) (bodyPostM Fence.wide 2 prog Tryz.f9 (Hk w R0.p G)))
   (mkS [(6,.ptr 2 0),(7,.ptr 3 0),(9,.ptr 6 0),(70,.pv (.fn (.func 77) [] [.rp [ar (aQ P)] 0]))] (vbS S (bF S P) T S.attrs.length 3000 (stV S P T lf [])) 7):=by
 rintro a W ⟨m,R,hw⟩;have hP:=h.ord.jL;have B:a.defers=[]:=hw.df.trans hdf;have r:a.tmps.size=143:=hw.sz.trans ntmps9;obtain⟨b,off,A,c,hfn,hRb,hcb,bk,o,hbk,hrow⟩:=OC (show RelP W R (.fn (.func 77) [] [.rp [ar (aQ P)] 0]) (a.eval (.tmp 70))from by have:=hw.sl 70 (by rw[ntmps9];decide);have e:(mkS [(6,V.ptr 2 0),(7,.ptr 3 0),(9,.ptr 6 0),(70,.pv (.fn (.func 77) [] [.rp [ar (aQ P)] 0]))] (vbS S (bF S P) T S.attrs.length 3000 (stV S P T lf [])) 7).sl 70= .pv (.fn (.func 77) [] [.rp [ar (aQ P)] 0]):=rfl;rw[e]at this;simpa only[Rel]using this);obtain⟨bs,hbl,hbt,hids⟩:=Ow hw [6,2,3,5,4] (vbO S (bF S P) T S.attrs.length 3000 (stV S P T lf [])) O O ⟨Xk,Xk,Xk,Xk,Xk,Xq⟩ O Xl;have hwl:(aQ P).length=P.length:=by rw[(cE hP).length_eq,a7]
 have hp5:=h.p5;have eg:=enters_of (P:=prog) func77 Xk O;have E:∀b,R b->b<W.heap.size:=hw.hr.rsz;have H:=I8 b off bk o (aQ P) A c W (E b hRb) (λY=>⟨(hbk Y).1,E bk (hbk Y).2⟩) hcb hrow Xj;have I:∃N,m 2=UF (bs[1]'(by rw[hbl];decide),N):=hids 1 2 _ O (IS _);have J:∃N,m 3=UF (bs[2]'(by rw[hbl];decide),N):=hids 2 3 _ O (IS _);have L:∃N,m 6=UF (bs[0]'(by rw[hbl];decide),N):=hids 0 6 _ O (IS _);have e6:a.eval (.tmp 6)= .pointer (UF ⟨bs[1]'(by rw[hbl];decide),0,UG⟩):=by
  have:=hw.sl 6 (by rw[ntmps9];decide);obtain⟨N,hN⟩:=I;exact this.2 _ _ hN
 have e7:a.eval (.tmp 7)= .pointer (UF ⟨bs[2]'(by rw[hbl];decide),0,UG⟩):=by
  have:=hw.sl 7 (by rw[ntmps9];decide);obtain⟨N,hN⟩:=J;exact this.2 _ _ hN
 have e9:a.eval (.tmp 9)= .pointer (UF ⟨bs[0]'(by rw[hbl];decide),0,UG⟩):=by
  have:=hw.sl 9 (by rw[ntmps9];decide);obtain⟨N,hN⟩:=L;exact this.2 _ _ hN
 have M:∀q,R q->R0.p q\/w.heap.size<=q:=λq hq=>(hw.hr.rfr q hq).imp id λe=>e.elim id False.elim
 have Z:=hw.hr.r0;have aa:(3000:Int)=3000-(lnV S P T lf ((aQ P).drop ((aQ P).length-0)):Int):=by
  rw[Nat.sub_zero,List.drop_length];show(3000:Int)=3000-((0:Nat):Int);omega
 have ab:stV S P T lf []=stV S P T lf ((aQ P).drop ((aQ P).length-0)):=by rw[Nat.sub_zero,List.drop_length]
 clear hw hids I J L;refine wp_block (wpIn_wide (n:=2).1 ?_);refine mU (nt:=Tryz.f9.ntmps) (w0:=w) (R0:=R) (bs:=bs) VC (encs:=λx:Nat×Int=> #[.int .i64 (x.1:Int),.int .i64 x.2]) hfn eg H (λ_=>rfl) (λh=>by cases h) (λ_ U V hk q hq=>hk q (by rcases hq with rfl|⟨h1,rfl⟩;exact hRb;exact(hbk h1).2))
  (λpre os k=>os=vbO S (bF S P) T S.attrs.length (3000-(lnV S P T lf ((aQ P).drop ((aQ P).length-pre.length)):Int)) (stV S P T lf ((aQ P).drop ((aQ P).length-pre.length)))/\k=0) ⟨?i0,O⟩ hbt (λh=>by cases h)
  (λx _=>vbA a (.int .i64 (x.1:Int)) (.int .i64 x.2)) (λ_ W=>W) (λx W=>Below.refl _ W) (λx W=>⟨O,(Of r _ _).2.2.trans ntmps9.symm⟩) ?assign ?body ?done
 case i0=>
  show vbO S (bF S P) T S.attrs.length 3000 (stV S P T lf [])=vbO S (bF S P) T S.attrs.length (3000-(lnV S P T lf ((aQ P).drop ((aQ P).length-0)):Int)) (stV S P T lf ((aQ P).drop ((aQ P).length-0)));rw[<-aa,<-ab]
 case assign=>
  intro l x W K hK;exact wpIn_region_lit (vv _ O (.tmp 72) O (wpListIn_nil hK))
 case body=>
  rintro pre x os k ⟨rfl,rfl⟩ ⟨hpl,rfl⟩;obtain⟨i,hi⟩:∃i,i=(aQ P).length-1-pre.length:=⟨_,O⟩;have s:i<(aQ P).length:=Xj;obtain⟨v,hv,e⟩:=H0 hP s;have hc:=OG h s e;have ei:(aQ P).length-pre.length=i+1:=Xj;rw[ei,<-hi];have ac:(aQ P).getD i 0=(v:Int):=by rw[<-e];simp[List.getD,s]
  rw[ac];refine⟨[(9,.ptr big 0),(12,pIi v)],_,Nd hc,?_,?_⟩
  .rintro ex τ ⟨rfl,hle⟩;refine⟨_,_,hle,λj hj=>?_,O,?_,O⟩
   .rw[hbl]at hj;have hj:j<5:=hj;have:j=0\/j=1\/j=2\/j=3\/j=4:=Xj;rcases this with rfl|rfl|rfl|rfl|rfl<;>rfl
   have:(aQ P).length-(pre++[(i,(v:Int))]).length=i:=by simp;omega
   rw[this]
  .intro W1 W2 m2 R2 _ hm2 _ t _;obtain⟨a9,a12,_⟩:=Of r (.int .i64 (i:Int)) (.int .i64 (v:Int));by_cases t9:t=9
   .subst t9;show Rel W2 m2 (avK 0) R2 (.ptr big 0) ((vbA a _ _).eval (.tmp 9));rw[a9,e9];obtain⟨N,hN⟩:=hm2 0 _ (IS _);exact⟨Xl,λb' N' e=>by have e:=hN.symm.trans e;cases e;rfl⟩
   by_cases t12:t=12
   .subst t12;show Rel W2 m2 (avK 0) R2 (pIi v) ((vbA a _ _).eval (.tmp 12));rw[a12];simp only[Rel,RelP]
   have b9:Nat.beq t 9=VC:=by cases hb:Nat.beq t 9;rfl;exact absurd (cd hb) t9
   have b12:Nat.beq t 12=VC:=by cases hb:Nat.beq t 12;rfl;exact absurd (cd hb) t12
   have e:look [(9,V.ptr big 0),(12,pIi v)] t= .pv .any:=by simp only[look,b9,b12,Ue]
   rw[e];simp only[Rel,RelP]
 case done=>
  rintro D X xs os k W2 hD hDl hDX hS ⟨rfl,rfl⟩ hB hdef;rw[hS,Nat.sub_self,List.drop_zero]at hB;have hB2:=hB.less Z M;refine Btw.tail (n:=Tryz.f9.ntmps) hT hB2 hDX hdef _ (by show _::a.defers=_;rw[B]) (r.trans ntmps9.symm) ?_;intro m2 R2 hm2 _ t _;show Rel W2 m2 (avK 0) R2 _ (a.eval (.tmp t));by_cases t6:t=6
  .subst t6;rw[e6];obtain⟨N,hN⟩:=hm2 1 _ (IS _);exact⟨Xl,λb' N' e=>by have e:=hN.symm.trans e;cases e;rfl⟩
  by_cases t7:t=7
  .subst t7;rw[e7];obtain⟨N,hN⟩:=hm2 2 _ (IS _);exact⟨Xl,λb' N' e=>by have e:=hN.symm.trans e;cases e;rfl⟩
  by_cases t9:t=9
  .subst t9;rw[e9];obtain⟨N,hN⟩:=hm2 0 _ (IS _);exact⟨Xl,λb' N' e=>by have e:=hN.symm.trans e;cases e;rfl⟩
  have b6:Nat.beq t 6=VC:=by cases hb:Nat.beq t 6;rfl;exact absurd (cd hb) t6
  have b7:Nat.beq t 7=VC:=by cases hb:Nat.beq t 7;rfl;exact absurd (cd hb) t7
  have b9:Nat.beq t 9=VC:=by cases hb:Nat.beq t 9;rfl;exact absurd (cd hb) t9
  have e:look [(6,V.ptr 9001 0),(7,V.ptr 9002 0),(9,V.ptr big 0)] t= .pv .any:=by simp only[look,b6,b7,b9,Ue]
  rw[e];simp only[Rel,RelP]
end
section
open Go.RowKit Go.Shelf Mk Jn Mm Vw
theorem FJ(l:List (List En))(E:List En):lstsC l++[.sl UG E.length (entsC E)]=lstsC (l++[E]):=by simp[lstsC]
abbrev Rv(g:Gv):Prop:=FnP prog 36 [momP g.m] (· = .tup [lR (cn g.m),.int .i64 0])
theorem Me{D:VD}{T:List (List Rw)}{left:Int}(VS LS:List (List En))(hn:VS.length=n)(aP:n<=1000)(hL:LS=VS.map jn)(hE:∀E∈VS,EnOk E/\E.length<=1000/\∀e∈E,e.v.length<=1000/\Rv e.g/\MF1 (cn e.g.m))
  (hD:D.chs.length=n+1) (RS:List Int) (hR:D.chs[n]'Xj=RS) (hRl:RS.length<=1000) (Z:Nat->Gv) (h0:Z 0=Gv.whole 1)
  (hZ:∀i (hi:i<RS.length),∃r,∃hr:r<LS.length,RS[i]=(r:Int)/\FnP prog 43 [lR (cn (atV LS[r] []).m)] (· =momP (atV LS[r] []).m)/\FnP prog 42 [momP (Z i).m,momP (atV LS[r] []).m] (· =momP (Z (i+1)).m))
  (hC:Rv (Z RS.length)):∀m0 w0 F R0,AW ⟨prog,m0,w0,F,R0⟩ Tryz.f9.ntmps vbTail (K6 prog Tryz.f9 Tryz.f9.ntmps (· = .tup [vwsP LS (cn (Z RS.length).m),.int .i64 0])) (mkS [(6,.ptr 9001 0),(7,.ptr 9002 0),(9,.ptr big 0)] (vbO S D T n left (VS.map UF)) 0):=by
 intro m0 w0 F R0;have hLl:LS.length=n:=by rw[hL,TB,hn]
 have L:(vwsC (VS.map UF)).length=n*2:=by rw[o7,TB,hn]
 have ad:FnP prog 40 [.int .i64 1] (· =momP (Z 0).m):=by rw[h0];exact lV 1 Xl
 have af:=G4 D n hD aP RS hR;refine Z1 O<|Tj (Tn (o:= .cells 103 (vwsC (VS.map UF))) 9004 Xk O)<|Tj (St.da (T':=47) (cs:=[.pv nS,.pv (.str ⟨#[]⟩),.pv nS,.pv nS]) 0 0 1 1 52 Xk O O)<|Gr O<|Ar 6 O<|Gz O (st:=λXr:Nat=>([(6,UG),(7,UG),(9,UG),(13,UG),(81,UG),(82,UG),(83,UF (pIi Xr))],[(big,UG),(0,UF (.mix 47 [.gsl 1 1 Xr,.pv (.str ⟨#[]⟩),.pv nS,.pv nS])),(1,UF (.gro 52 (lstsC (LS.take Xr)))),(9001,UG),(9002,UG),(9003,UG)])) 2
  (I:=λXr=>Xr<=n) (μ:=λXr=>n-Xr) (x0:=0) (Tk (aS O) (aO Xk) O O) (aJ _) ?_
 rintro i hi;refine Z1 O<|Gp O (λac=>?_) (λac=>?_)
 .have hlt:i<n:=Xj;have M:i<VS.length:=Xj;have ak:i<LS.length:=Xj;have al:i<(VS.map UF).length:=by rw[TB];exact M
  have G:=Bx al;rw[UP]at G;have am:vwsC (VS.map UF)≠[]:=λe=>by rw[e]at L;simp at L;omega
  obtain⟨hok,hEl,hEe⟩:=hE _ (aq M);have an:LS[i]=jn VS[i]:=by simp[hL]
  have U:=FJ (LS.take i) LS[i];rw[<-AI ak,an]at U;have hlt2:(lstsC (LS.take i)).length=i*1:=by simp[lstsC];omega
  have hd:=N8 hok;generalize VS[i]=E at*;refine Ti<|Gr O<|Rs O (ag i underlying92 Em O O O hlt am)<|Rs O (aG ⟨_,underlying103,O⟩ Em O G O)<|Y2 O<|Z1 O<|Tj (Tp 16 3 4 55 O O)<|Z2 O<|Rs O (cc 4 underlying100 O O)<|Gz O (st:=λA:Nat×List En×List En×List PV=>([(6,UG),(7,UG),(9,UG),(13,UG),(15,UG),(16,UF (.gsl 3 4 A.1)),(81,UG),(82,UG),(83,UG),(89,UG)],[(big,UG),(0,UG),(1,UG),(2,UG),(3,UF (.gro 55 (entsC A.2.2.1))),(4,UF (.mi A.2.2.2 (cC A.2.1) (lA A.2.1))),(9001,UG),(9002,UG),(9003,UG)])) 5
   (I:=λA=>A.1=A.2.2.1.length/\(A.2.2.1++A.2.1).Perm E) (μ:=λA=>A.2.1.length) (x0:=(0,E,[],[])) (Tk (aS O) (aO Xk) O O) (⟨O,T3 _⟩) ?_
  rintro⟨k,todo,acc,cur⟩ ⟨hk,hp⟩;try simp only at hk hp ⊢
  refine Gr O<|RL.call O (cO O O ?_);rintro b rest cur2 ks2 vs2 hN;refine Rs O (bz O O)<|Gc O (λB=>?_) (λB=>?_)
  .obtain⟨_,l1,e,l2,rfl,rfl,rfl,rfl,rfl⟩:=(c8.of hN).resolve_left (by rintro⟨h,_⟩;rw[h]at B;cases B);have V:e∈E:=hp.mem_iff.1 Xn;obtain⟨hev,hco,_⟩:=hEe e V;have ao:=vd hok V λe=>momP e.g.m
   have Y:acc.length<=1000:=by have:=hp.length_eq;simp at this;omega
   have ap:=xr acc;rw[<-hk]at ap Y;have au:=D0 acc e;have H:((acc++[e])++(l1++l2)).Perm E:=by
    refine List.Perm.trans ?_ hp;rw[VZ];exact List.Perm.append_left _ (show(e::(l1++l2)).Perm (l1++e::l2)from W6.symm)
   exact Ti<|Gr O<|Rs O (cr O O)<|Ar 4 O<|Z3 O<|Rs O (n4 (zp:= .agg [.bool VC,.sl (UF VA) 0 [],.bool VC,.sl (UF VA) 0 [],.nilmap,.nilmap]) underlying101 underlying9 (.inr (.inl ⟨O,hd⟩)) O O uh O ao O)<|Rs O (aa call36 hco O)<|Ar 6 O<|Gr O<|Ar 7 O<|⟨(k+1,l1++l2,acc++[e],[.str e.t,bh e.v]),Tl [0,1,2,7,4] (aT O) ⟨Xk,Xk,Xk,Xk,TX (b:=UF (.gro 55 (entsC acc++entC e))) Xk (ah (λc=>UF (Ob.gro 55 c)) au),Xk,Xk,Xk,Xk,Xq⟩ O O Xl O,⟨by simp[hk],H⟩,Xn⟩
  obtain⟨_,rfl,_⟩:=(c8.of hN).resolve_right (by rintro⟨h,_⟩;rw[h]at B;cases B);rw[Uh]at hp;have ax:=Dm acc (by have:=hp.length_eq;omega) (λx hx=>by have:=(hEe x (hp.mem_iff.1 hx)).1;omega);subst hk;refine Gx O<|Z1 O<|RL.call O (cz [3] 5 call37 O O O O (by exact⟨Xk,Xq⟩) Xl O ax ?_);rintro _ _ ⟨l',hp2,ho,rfl,rfl⟩;obtain rfl:l'=jn E:=Ql hok (hp2.trans hp) ho;have ay:acc.length=(jn E).length:=hp2.length_eq.symm;rw[ay];exact Tj (Tn (o:= .gro 55 (entsC (jn E))) 3 Xk O)<|Gr O<|Ar 7 O<|Z2 O<|⟨(i+1),Tl [0,6] (aT O) ⟨Xk,Xk,TX (b:=UF (.gro 52 (lstsC (LS.take i)++[.sl UG (jn E).length (entsC (jn E))]))) Xk (ah (λc=>UF (Ob.gro 52 c)) U),Xk,Xk,Xk,Xq⟩ O O Xl O,hlt,Xj⟩
 have hie:LS.take i=LS:=aH Xj;have aA:i=LS.length:=Xj;rw[hie,aA];refine Gx O<|Tj (Tn (o:= .gro 52 (lstsC LS)) 1 Xk O)<|Gr O<|Rs O (aa call40 ad O)<|Y2 O ?_;show AW _ _ _ _ _;refine Z4 O<|Rs O (aa call41 af O)<|Y2 O<|Gz O (st:=λq:Nat=>([(6,UG),(7,UG),(13,UG),(21,UG),(123,UG),(124,UG),(125,UF (pIi q))],[(big,UG),(0,UG),(2,UF (.mix 113 [.pv (.bool (decide ((cn (Z q).m).c.num<0))),.pv (bY (cn (Z q).m).c.num.natAbs),.pv (.bool (decide (((cn (Z q).m).c.den:Int)<0))),.pv (bY ((cn (Z q).m).c.den:Int).natAbs),.pv (.mp (aj aW (cn (Z q).m).s) (bg (cn (Z q).m).s)),.pv (.mp (aj ppP (cn (Z q).m).p) (bg (cn (Z q).m).p))])),(9001,UG),(9002,UG),(9003,UG)])) 3
  (I:=λq=>q<=RS.length) (μ:=λq=>RS.length-q) (x0:=0) (Tk (aS O) (aO Xk) O O) (aJ _) ?_
 rintro j hj;refine Z1 O<|Gp O (λJ=>?_) (λJ=>?_)
 .have hlj:j<RS.length:=Xj;obtain⟨r,hr,hre,hof,hmu⟩:=hZ j hlj;have aB:r<VS.length:=Xj;have aC:(aK RS)[j*1]? =UF (.int .i64 (r:Int)):=by rw[<-hre];simp[hlj]
  have H:=aM hlj;have ab:LS[r]=jn VS[r]:=by simp[hL]
  obtain⟨_,hrl,hrE⟩:=hE _ (aq aB);have aF:=RZ LS ⟨#[]⟩ UG UG 0 0 [] [] r hr [] Xl (by rw[ab,(fi _).length_eq];omega) (λe he=>by rw[ab]at he;have:=hrE e ((fi _).mem_iff.1 he);exact⟨Xj,this.2.2⟩);refine Ti<|Gr O<|Rs O (ag j underlying22 sz3 O O O hlj H)<|Rs O (az ⟨_,underlying3,O⟩ O aC)<|A1 O<|UB 7 O<|Dr 3 O<|TR O (λτ h=>aa call23 aF (h.aD O))<|TR O (λτ h=>aa call43 hof (h.aD O))<|TR O (λτ h=>aa call42 hmu (h.aD O))<|D1 O ?_;refine⟨Xk,?_⟩;exact Z2 O<|⟨(j+1),Tk (aS O) (aO Xk) O O,hlj,Xj⟩
 have hje:j=RS.length:=Xj;subst hje;exact Gx O<|Z1 O<|Rs O (aa call36 hC O)<|Ar 5 O<|Z3 O<|Gt O<|⟨[.agg (.pv (.sl UG LS.length (lstsC LS))::[.pv (.str (bo (cn (Z RS.length).m).c)),.pv (.sl UG (cn (Z RS.length).m).s.length (bG (tmL (cn (Z RS.length).m).s))),.pv (.sl UG (cn (Z RS.length).m).p.length (bK (prL (cn (Z RS.length).m).p)))]),pIi 0],[vwsP LS (cn (Z RS.length).m),.int .i64 0],res2 (T1:=47) (T2:=48) (i:=9001) (j:=9002) O ⟨_,underlying47,O⟩ sz47 O O Xk ⟨_,underlying48,O⟩ O Xk,O,O⟩
end
section
open Go.RowKit Go.Shelf Mk Jn Mm Vw
theorem AWX.weaken{C:Ctx}{Post:Exit->Act->World->Prop}{τ:St}(j:σ.le τ)(h:AWX C n c Post τ):AWX C n c Post σ:=λa w hs=>h a w (j C n a w hs)
section
variable {S:Sch}{P:List Int}{T:List (List Rw)}{Q:List Par}{X:Nat->List ByteArray}{lf:Int->ByteArray->Gv}
theorem Jo{g:Gv}(h:GvOk Q g)(j:Q.length<=1000)(q:g.w<=40000)(r:g.k<=8):Rv g:=
 Ha (cn g.m) h.s.cn.2.2.1 h.s.cn.2.2.2 (qj h j q r)
theorem Oq{g:Gv}(h:GvOk Q g)(j:Q.length<=1000)(q:g.w<=40000)(r:g.k<=8):FnP prog 43 [lR (cn g.m)] (· =momP g.m):=
 MR (cn g.m) (CY eF h.s.cn.2.2.1) (CY c6 h.s.cn.2.2.2) (qj h j q r)
theorem VB.Ry(h:VB S P T Q X lf){r:Nat}(q:r<P.length):GvOk Q (atV (jn (vwS S P T lf r)) [])/\(atV (jn (vwS S P T lf r)) []).w<=40000/\(atV (jn (vwS S P T lf r)) []).k<=5:=by
 have j:∀e∈jn (vwS S P T lf r),e∈vwS S P T lf r:=λe he=>(fi _).mem_iff.1 he
 refine⟨Te (λe he=>(h.ev q (j e he)).1.ok) [],?_,?_⟩<;>
 .unfold atV;cases he:(jn (vwS S P T lf r)).find? λe=>decide (e.v=[])with
  |none=>exact aJ _
  |some e=>first|exact(h.ev q (j e (VV he))).2.1|exact(h.ev q (j e (VV he))).2.2
theorem wO(rs:List Int)(r:Int)(z:Gv):totF S P T lf (rs++[r]) z=(totF S P T lf rs z).mul (atV (jn (vwS S P T lf r)) []):=by
 unfold totF;rw[VN];rfl
theorem VB.part(h:VB S P T Q X lf):∀i,i<=(aE P (-1)).length->GvOk Q (totF S P T lf ((aE P (-1)).take i) (Gv.whole 1))/\(totF S P T lf ((aE P (-1)).take i) (Gv.whole 1)).w<=40000^i/\(totF S P T lf ((aE P (-1)).take i) (Gv.whole 1)).k<=5*i
 |0,_=>⟨GvOk.whole Q 1,AT 1,aJ _⟩
 | i+1,hi=>by
   have hlt:i<(aE P (-1)).length:=Xj;obtain⟨h1,h2,h3⟩:=h.part i Xj;obtain⟨r,hr,e,_⟩:=bu.1 (aq hlt);obtain⟨g1,g2,g3⟩:=h.Ry hr;rw[AI hlt,wO,e];refine⟨h1.mul g1,?_,?_⟩
   .show _*_<=_;rw[Um];exact Uy h2 g2
   show _+_<=_;omega
theorem PD(h:VB S P T Q X lf):∀m0 w0 F R0,AW ⟨prog,m0,w0,F,R0⟩ Tryz.f9.ntmps vbTail (K6 prog Tryz.f9 Tryz.f9.ntmps (· = .tup [vwsP ((List.range P.length).map λa:Nat=>jn (vwS S P T lf a)) (cn (totV S P T lf).m),.int .i64 0])) (mkS [(6,.ptr 9001 0),(7,.ptr 9002 0),(9,.ptr big 0)] (vbO S (bF S P) T S.attrs.length (3000-(lnV S P T lf (aQ P):Int)) (stV S P T lf (aQ P))) 0):=by
 have G:=h.ord.jL;have j:=h.ord.len;have I:=h.p5;have J:stV S P T lf (aQ P)=((List.range P.length).map λa:Nat=>vwS S P T lf a).map UF:=by rw[P5 G,Va];rfl
 have L:=qC P (-1);have A:=Me (S:=S) (D:=bF S P) (T:=T) (n:=S.attrs.length) (left:=3000-(lnV S P T lf (aQ P):Int)) ((List.range P.length).map λa:Nat=>vwS S P T lf a) ((List.range P.length).map λa:Nat=>jn (vwS S P T lf a)) (by simp[j]) Xj (by rw[Va];rfl)
  (λE hE=>by
   obtain⟨a,B,rfl⟩:=TG.1 hE;have B:=UR.1 B;refine⟨II a,by have:=h.len B;omega,λe he=>?_⟩;obtain⟨g1,g2,g3⟩:=h.ev B he;refine⟨?_,Jo g1.ok h.q g2 Xj,qj g1.ok h.q g2 Xj⟩;rw[g1.v.len];have:=rC S P a;omega)
  (by simp[bF,a7,j]) (aE P (-1)) (by simp[bF,List.getElem_append,a7,j]) Xj
  (λi=>totF S P T lf ((aE P (-1)).take i) (Gv.whole 1)) O
  (λi hi=>by
   obtain⟨r,hr,e,_⟩:=bu.1 (aq hi);obtain⟨g1,g2,g3⟩:=h.Ry hr;obtain⟨p1,p2,p3⟩:=h.part i Xj;refine⟨r,by simpa using hr,e,?_,?_⟩
   .rw[UP,WJ];exact Oq g1 h.q g2 Xj
   rw[UP,WJ];have M:40000^i<=10^50:=AS (UY Xl (show i<=5 by omega)) Xu;have U:=vG p1.s g1.s (AS p2 M) (AS g2 Xu) Xj Xj;have V:totF S P T lf ((aE P (-1)).take (i+1)) (Gv.whole 1)=(totF S P T lf ((aE P (-1)).take i) (Gv.whole 1)).mul (atV (jn (vwS S P T lf r)) []):=by
    rw[AI hi,wO,e]
   show FnP _ _ _ (· =momP (totF S P T lf ((aE P (-1)).take (i+1)) (Gv.whole 1)).m);rw[V];exact U)
  (by
   show Rv (totF S P T lf ((aE P (-1)).take (aE P (-1)).length) (Gv.whole 1));have H:=(h.part (aE P (-1)).length (AT _)).1;rw[VM]at H ⊢;exact Jo H h.q h.tot (AS (RR G λv t=>UM (h.lfx.k v t)) Xj))
 rw[<-J]at A;simp only[VM]at A;exact A
theorem QK(z:PV)(m:Nat):mkZ [z,z] m=List.replicate m z:=by
 unfold mkZ;apply UL
 .simp
 grind
theorem Qe:vwsC (stV S P T lf [])=List.replicate (P.length*2) .nilmap:=by
 have e:stV S P T lf []=List.replicate P.length UG:=by
  unfold stV;apply UL
  .simp
  .intro i h1 h2;simp
 rw[e];have:∀n,vwsC (List.replicate n UG)=List.replicate (n*2) PV.nilmap:=λn=>by
  induction n with
  |zero=>rfl
  | succ n ih=>
    rw[Wm];show vwC UG++vwsC (List.replicate n UG)=_;rw[ih,show(n+1)*2=n*2+1+1 by omega,Wm,Wm];rfl
 exact this _
end
section
variable {S:Sch}{P:List Int}{Q:List Par}{X:Nat->List ByteArray}{lf:Int->ByteArray->Gv}
theorem tj(d:List (List Rw))(h:VB S P (fG S d) Q X lf)(H:d.length=S.rels.length)(hl:∀l∈d,l.length<=60)(hv:∀r (h:r<d.length) (h2:r<S.rels.length),∀x∈d[r],x.v.length=S.rels[r].2.length)(h0:bV S=0)(ad:FnP prog 70 [gC S,dbP d] (· = .int .i64 0)):
  FnP prog 9 [gC S,pY P,dbP d] (· = .tup [vwsP ((List.range P.length).map λa:Nat=>jn (vwS S P (fG S d) lf a)) (cn (totV S P (fG S d) lf).m),.int .i64 0]):=by
 have hT:=PD h;have hp5:=h.p5;have A:=h.ord.len;have J:=LL S h.sb P Xj (jY.2 ⟨h0,h.ord⟩) d ad;have L:=NB S h.sb P h.ord;have M:=SH (aQ P);have hr:=h.sj.r;have B:=JI H;have hdl:=jR d;have hz:mkZ [PV.nilmap,PV.nilmap] (S.attrs.length*2)=vwsC (stV S P (fG S d) lf []):=by rw[QK,Qe,A]
 have hpl:(fG S d).length=S.rels.length:=by unfold fG;simp[H]
 refine FnP.marks func9 O (n:=Tryz.f9.ntmps) O (by rw[ntmps9];show 3<=143;decide) λw R0 hdf=>?_
 have U:=Ox h hT w R0 hdf;have han:S.attrs.length<=1000:=h.sj.a;clear hT
 repeat first|refine Tv ?_|refine AWX.seq ?_
 refine AW.region<|Ar 4 O ?_
 repeat first|refine Tv ?_|refine AWX.seq ?_
 refine AW.region<|Y3 O<|Rs O (aa call31 J O)<|A1 O ?_
 repeat first|refine Tv ?_|refine AWX.seq ?_
 refine AW.region<|Y2 O<|Gc O (λs=>absurd s Xl) (λs=>?_);refine Ti ?_
 repeat first|refine Tv ?_|refine AWX.seq ?_
 refine AW.draw follows [[],[],[],[2,1],[],[4],[5,4],[6,5,4],[7,3,0,2,1,6,5,4],[8,7,3,0,2,1,6,5,4],[],[9,10,8,7,3,0,2,1,6,5,4]] [0,1,2,3,4,5,6,7,8,9,10,11] Xk Xk<|Dr 3 O<|TR O (λτ h=>aa call32 L (h.aD O))<|Dr 8 O ?_;refine⟨Xk,?_⟩;refine AWX.weaken (St.da (T':=94) (cs:=[.pv (.sl UG S.attrs.length (aU S.attrs)),.pv (.sl UG S.rels.length (aY S.rels)),.pv (.sl UG S.feats.length (aX S.feats)),pIi S.label,.pv (bC (bF S P).chs),.pv (bC (bF S P).kes),.pv (bC (bF S P).hos),.pv (ar (bF S P).wa),.pv nS,.osl 4 2 S.attrs.length,pIi 3000]) 5 8 7 1 57 Xk O O) ?_
 repeat first|refine Tv ?_|refine AWX.seq ?_
 refine AW.region<|Ar 4 O<|Gz O (st:=λXr:Nat×List (List Rw)=>([(2,UG),(3,UG),(6,UG),(7,UG),(9,UG),(44,UG),(45,UF (pIi Xr.1))],[(0,UG),(2,UG),(3,UG),(4,UG),(5,UF (.mix 94 [.pv (.sl UG S.attrs.length (aU S.attrs)),.pv (.sl UG S.rels.length (aY S.rels)),.pv (.sl UG S.feats.length (aX S.feats)),pIi S.label,.pv (bC (bF S P).chs),.pv (bC (bF S P).kes),.pv (bC (bF S P).hos),.pv (ar (bF S P).wa),.gsl 7 1 Xr.2.length,.osl 4 2 S.attrs.length,pIi 3000])),(6,UG),(7,UF (.gro 57 (jI Xr.2)))])) 8
  (I:=λXr=>Xr.1<=S.rels.length/\Xr.2=wX S d Xr.1) (μ:=λXr=>S.rels.length-Xr.1) (x0:=(0,[])) (Tk (aS O) (aO Xk) O O) (⟨aJ _,by simp[wX]⟩) ?_
 rintro⟨k,q⟩ ⟨hk,hq⟩;try simp only at hk hq ⊢
 repeat first|refine Tv ?_|refine AWX.seq ?_
 refine AW.region<|A1 O<|Gp O (λG=>?_) (λG=>?_)
 .have hlt:k<S.rels.length:=Xj;have j:k<d.length:=Xj;have V:=Cf j;have Y:=uR j;have Z:=J3 S h.sj k hlt d[k] (by have:=hl _ (aq j);omega) (hv k j hlt);have E:=C8 H hlt;have ab:=Gy H hk;rw[<-hq]at ab E;have hql:(jI q).length=q.length*1:=jR q;have ac:=Cp q (pK S S.rels[k].2 d[k]);generalize pK S S.rels[k].2 d[k]=lv at*;generalize d[k]=tk at*;refine Ti ?_
  repeat apply Tv
  refine AW.block ?_
  repeat first|refine Tv ?_|refine AWX.seq ?_
  refine AW.region<|Y2 O ?_
  repeat first|refine Tv ?_|refine AWX.seq ?_
  refine AW.draw follows [[],[],[1],[2,1],[3,2,1],[],[],[],[],[8,7],[9,8,7],[10,6,5,9,8,7],[11,10,6,5,9,8,7],[12,4,3,2,1,11,10,6,5,9,8,7],[13,12,11,10,9,8,7,6,5,4,3,2,1,0],[14,13,12,11,10,9,8,7,6,5,4,3,2,1,0],[15,14,13,12,11,10,9,8,7,6,5,4,3,2,1,0]] [0,1,2,3,4,5,6,7,8,9,10,11,12,13,14,15,16] Xk Xk<|Dr 9 O<|TR O (λτ h=>ag k underlying38 sz57 (Ee h 0 O O) (Ee h 1 O O) O j Y)<|TR O (λτ h=>az ⟨_,underlying57,O⟩ (Ee h 0 O O) V)<|TR O (λτ h=>aa call33 Z (h.aD O))<|Dr 5 O ?_;refine⟨Xk,?_⟩
  repeat first|refine Tv ?_|refine AWX.seq ?_
  exact AW.region<|Y2 O<|⟨(k+1,q++[lv]),Tl [0,1,2,3,4,5,6,9] (aT O) ⟨Xk,Xk,Xk,Xk,TX (b:=UF (.mix 94 [.pv (.sl UG S.attrs.length (aU S.attrs)),.pv (.sl UG S.rels.length (aY S.rels)),.pv (.sl UG S.feats.length (aX S.feats)),pIi S.label,.pv (bC (bF S P).chs),.pv (bC (bF S P).kes),.pv (bC (bF S P).hos),.pv (ar (bF S P).wa),.gsl 9 1 (q.length+1),.osl 4 2 S.attrs.length,pIi 3000])) Xk (ah (λn=>UF (Ob.mix 94 [.pv (.sl UG S.attrs.length (aU S.attrs)),.pv (.sl UG S.rels.length (aY S.rels)),.pv (.sl UG S.feats.length (aX S.feats)),pIi S.label,.pv (bC (bF S P).chs),.pv (bC (bF S P).kes),.pv (bC (bF S P).hos),.pv (ar (bF S P).wa),.gsl 9 1 n,.osl 4 2 S.attrs.length,pIi 3000])) (kX q lv)),Xk,TX (b:=UF (.gro 57 (jI q++[oi lv]))) Xk (ah (λc=>UF (Ob.gro 57 c)) ac),Xq⟩ O O Xl O,⟨Xp,by simp only;rw[E]⟩,Xp⟩
 have hqf:q=fG S d:=by rw[hq,show k=S.rels.length by omega,B]
 rw[hqf];refine Gx O<|AWX.weaken (Tn 7 O O)<|AWX.seq2<|AW.region<|Ar 5 O<|Rs O (aa call34 M O)<|AWX.weaken (τ:=mkS [(6,.ptr 2 0),(7,.ptr 3 0),(9,.ptr 6 0),(70,.pv (.fn (.func 77) [] [.rp [ar (aQ P)] 0]))] (vbS S (bF S P) (fG S d) S.attrs.length 3000 (stV S P (fG S d) lf [])) 7) (Tk (aS O) ⟨Xk,Xk,?_,Xk,Xk,Xq⟩ O O) U;exact TX (b:=UF (Ob.cells 103 (mkZ [PV.nilmap,PV.nilmap] (S.attrs.length*2)))) Xk (ah (λc=>UF (Ob.cells 103 c)) hz)
end
end


section
open Mk Jn
abbrev t1:ByteArray:=⟨#[49]⟩
theorem zf_of{y:ByteArray}(h:y.data.toList.all (· !=0)=VA):Zf y:=λj=>by
 have:=OF.1 h _ j;simp at this
end
section
open Mk Jn
theorem PQ{v:ByteArray}(h:v∈fF kd):Zf v/\v.size<=10000:=by
 have j:∀l:List ByteArray,(∀y∈l,y.data.toList.all (· !=0)=VA/\y.size<=10000)->v∈l->Zf v/\v.size<=10000:=λl hl hm=>⟨zf_of (hl v hm).1,(hl v hm).2⟩
 unfold fF at h;split at h
 .exact j _ Xl h
 split at h
 .exact j _ Xl h
 exact j _ Xl h
theorem Jc{l:List Rw}{B:Int}(h:∀x∈l,x.w<=B):oK l<=B*l.length:=by
 unfold oK;induction l with
 |nil=>simp
 | cons x l ih=>
   have j:=h x Xn;have q:=ih λy hy=>h y (by simp[hy])
   simp only[cu,Up,IT];rw[Int.natCast_add,Int.mul_add];have:B*((1:Nat):Int)=B:=Xn;omega
theorem ub{A:List Int}(I:∀a∈S.attrs,a.2=1\/a.2=2\/a.2=3)(J:∀a∈A,0<=a/\a<S.attrs.length)(U:most<=20){l:List Rw}(h:MdT S A most l):TblOk S A 1 l/\l.length<=most/\(∀x∈l,∀y∈x.v,Zf y/\y.size<=10000)/\∀x∈l,x.w<=5*most:=by
 obtain⟨l0,rfl,hl,hx⟩:=h;have G:∀z∈l0,0<z.w:=λz hz=>by have:=(hx z hz).1;omega
 have q:=j9 G;have L:oK l0<=5*l0.length:=Jc λx hx'=>(hx x hx').1.2
 have j:∀x∈oT l0,MdV S A x.v:=λx hx'=>by
  obtain⟨z,hz,e⟩:=q.val x hx';rw[e];exact(hx z hz).2
 have r:∀x∈oT l0,x.w<=5*most:=λx hx'=>by
  have E:=H5 (q.pos G) x hx';rw[q.tot]at E;omega
 refine⟨⟨λx hx'=>⟨(j x hx').1,λi E H nm=>?_,?_⟩,q.asc⟩,AS q.len hl,λx hx' y hy=>?_,r⟩
 .have hv:=(j x hx').2 i E H;have M:=J _ (aq H);refine DW nm _ _ ?_ hv;have s:A[i].toNat<S.attrs.length:=Xj;rw[sW s];exact I _ (aq s)
 .have E:=q.pos G x hx';have H:=r x hx';omega
 obtain⟨i,hi,rfl⟩:=V7.1 hy;have B:=j x hx';exact PQ (B.2 i hi (by rw[<-B.1];exact hi))
theorem Jt(hB:SB S)(hc:bV S=0)(hS:SJn S)(j:∀a∈S.attrs,a.2=1\/a.2=2\/a.2=3)(B:most<=12){d:List (List Rw)}(A:d.length=S.rels.length)(q:∀i (h:i<d.length) (s:i<S.rels.length),MdT S S.rels[i].2 most d[i]):DbOk S d where
 hB:=hB
 hc:=hc
 hS:=hS
 n:=A
 l:=λl hl=>by
  obtain⟨i,hi,rfl⟩:=V7.1 hl;have:=(ub j (hS.b _ (aq (show i<S.rels.length by omega))) Xj (q i hi Xj)).2.1;omega
 t:=λr h s=>(ub j (hS.b _ (aq s)) Xj (q r h s)).1
 zf:=λl hl=>by
  obtain⟨i,hi,rfl⟩:=V7.1 hl;exact(ub j (hS.b _ (aq (show i<S.rels.length by omega))) Xj (q i hi Xj)).2.2.1
def v0(x:Rw):ByteArray:=x.v.getD 0 eb
end

section
open Mk Jn
theorem rX(h:Made S most o):∀a∈S.attrs,a.2=1\/a.2=2\/a.2=3:=λa ha=>by
 obtain⟨i,hi,rfl⟩:=V7.1 ha;have:=h.at' i hi;omega
theorem uC(h:Made S 5 o):SJn S:=
 S5 (mW (kg h Xl)) (by have:=h.r2;omega) λx hx=>by
  obtain⟨i,hi,rfl⟩:=Ux hx;have:=qv (h.rs i hi).2.2.1 (h.rs i hi).2.2.2;have:=h.a2;omega
theorem OO{d:List (List Rw)}(j:Made S 5 o)(r:MdD S most S.rels.length d)(q:most<=12:=by decide):DbOk S d:=
 Jt (uP j Xl) (kg j Xl) (uC j) (rX j) q r.1 r.2
end
section
open Go.RowKit Mk Jn Mm Vw
namespace Vw
def fr:List (ByteArray×Rat):=[(⟨#[48]⟩,0),(⟨#[49]⟩,1),(⟨#[45,50]⟩, -2),(⟨#[49,47,50]⟩,1/2),(⟨#[51]⟩,3),(⟨#[53,47,51]⟩,5/3),(⟨#[50]⟩,2)]
def qM(v:ByteArray):Rat:=match fr.find? (λp=>decide (p.1=v))with|some p=>p.2|none=>0
theorem LQ(v:ByteArray):dw 6 (qM v)/\bj 3 (qM v):=by
 have j:∀p∈fr,dw 6 p.2/\bj 3 p.2:=by
  intro p hp;simp only[fr,BY,UI,V9]at hp;rcases hp with rfl|rfl|rfl|rfl|rfl|rfl|rfl
  .exact⟨⟨0,by decide+kernel⟩,⟨by decide+kernel,by decide+kernel⟩⟩
  .exact⟨⟨6,by decide+kernel⟩,⟨by decide+kernel,by decide+kernel⟩⟩
  .exact⟨⟨-12,by decide+kernel⟩,⟨by decide+kernel,by decide+kernel⟩⟩
  .exact⟨⟨3,by decide+kernel⟩,⟨by decide+kernel,by decide+kernel⟩⟩
  .exact⟨⟨18,by decide+kernel⟩,⟨by decide+kernel,by decide+kernel⟩⟩
  .exact⟨⟨10,by decide+kernel⟩,⟨by decide+kernel,by decide+kernel⟩⟩
  exact⟨⟨12,by decide+kernel⟩,⟨by decide+kernel,by decide+kernel⟩⟩
 unfold qM;cases h:fr.find? (λp=>decide (p.1=v))with
 |none=>exact⟨⟨0,by decide+kernel⟩,bj.zero 3⟩
 |some p=>exact j p (VV h)
theorem Pa{v:ByteArray}(h:v∈CJ):v=bo (qM v)/\F1 (qM v):=by
 have j:∀x:ByteArray,x=bo (qM x)->F1 (qM x)->x=bo (qM x)/\F1 (qM x):=λx e h1=>⟨e,h1⟩
 simp only[CJ,BY,UI,V9]at h;rcases h with rfl|rfl|rfl|rfl|rfl|rfl|rfl|rfl<;>exact j _ Xu ⟨by decide+kernel,by decide+kernel⟩
theorem Sc{v:ByteArray}(h:v∈CJ):VQ qM v:=by
 refine⟨?_,(LQ v).1,(LQ v).2⟩;have j:=jk (qM v) (Pa h).2;rw[<-(Pa h).1]at j;exact j
def allV:List ByteArray:=⟨#[]⟩::(Ho++(uc++CJ))
theorem wT{v:ByteArray}(h:v∈fF kd):v∈allV:=by grind[fF,allV,BY.1,Ur,Wg,WM]
def PK:List ByteArray:=⟨#[]⟩::Ho
def QM(S:Sch):List Par:=⟨-1,⟨#[]⟩⟩::(List.range S.feats.length).flatMap λi:Nat=>PK.map λt=>⟨(i:Int),t⟩
theorem Oa(j:i<S.feats.length)(q:t∈PK):(⟨(i:Int),t⟩:Par)∈QM S:=
 Ur _ (Uk.2 ⟨i,UR.2 j,TG.2 ⟨t,q,O⟩⟩)
theorem NC(S:Sch):(QM S).length=S.feats.length*4+1:=by
 unfold QM;rw[IT];have:∀n,((List.range n).flatMap λi:Nat=>PK.map λt=>(⟨(i:Int),t⟩:Par)).length=n*4:=λn=>by
  induction n with
  |zero=>rfl
  | succ n ih=>
    rw[Wo,Us,IN,ih,T0,Wc,Uh,TB,show PK.length=4 from O];omega
 rw[this]
noncomputable def lfM(S:Sch):Int->ByteArray->Gv:=λv t=>⟨liftS qM S v t,1,1,1⟩
def XM(S:Sch)(a:Nat):List ByteArray:=fF (S.attrs.getD a default).2
theorem AD(h:n<=1):SOk 1 1 (cnt n):=(nW n).up h Xl
theorem tz(A:Made S 5 o):LfX (QM S) (XM S) (lfM S):=by
 refine⟨λv t ht=>?_,λ_ _=>rfl,λ_ _=>rfl,λ_ _=>rfl,λa=>Vr⟩;have j:∀p∈QM S,GvOk (QM S) ⟨lft p (qM t),1,1,1⟩:=λp hp=>⟨Io p (qM t) (LQ t).1 (LQ t).2,Sup.lft hp _⟩
 have hc:∀n:Nat,n<=1->GvOk (QM S) ⟨cnt n,1,1,1⟩:=λn hn=>⟨AD hn,Sup.cnt _ _⟩
 show GvOk (QM S) ⟨liftS qM S v t,1,1,1⟩;unfold liftS;split
 .split
  .exact hc 0 Xl
  exact j _ Vr
 cases hf:S.feats.findIdx? (λf=>f.1==v)with
 |none=>exact hc 1 Xl
 | some i=>
   obtain⟨hi,hp,_⟩:=U4.1 hf;simp only;split
   .rename_i h2;have r:t∈PK:=by
     obtain⟨a,h3,_,_,h6⟩:=A.fs.2.1 _ (aq hi);have e:S.feats.getD i default=S.feats[i]:=by simp[List.getD,hi]
     rw[e]at h2;have s:v=(a:Int):=by
      have:S.feats[i].1=v:=by simpa using hp
      omega
     rcases h6 with h6|h6
     .have:=h6.1;omega
     subst s;have q:t∈fF (S.attrs.getD ((a:Int)).toNat default).2:=ht;rw[TU,h6.2.1]at q;exact q
    exact⟨Io _ 1 (dw.ofInt 6 1) ⟨by decide+kernel,by decide+kernel⟩,Sup.lft (Oa hi r) _⟩
   split
   .split
    .exact hc 0 Xl
    exact hc 1 Xl
   exact j _ (Oa hi Vr)
theorem vz(s:Made S 5 o)(E:t∈XM S v)(q:t≠⟨#[]⟩)(r:(v:Int)=S.label\/∃i,S.feats.findIdx? (λf=>f.1==(v:Int))=UF i/\(S.feats.getD i default).2.1≠2):t∈CJ:=by
 have j:(S.attrs.getD v default).2=2:=by
  rcases r with e|⟨i,hi,j⟩
  .rcases s.fs.2.2 with h|⟨a,h1,h2,h3⟩
   .omega
   have:a=v:=Xj;subst this;exact h3
  obtain⟨hlt,hp,_⟩:=U4.1 hi;obtain⟨a,h1,h2,h3,h4⟩:=s.fs.2.1 _ (aq hlt);have e:S.feats.getD i default=S.feats[i]:=by simp[List.getD,hlt]
  rw[e]at j;have:a=v:=by
   have A:S.feats[i].1=(v:Int):=by simpa using hp
   omega
  subst this;rcases h4 with h4|h4
  .exact h4.2.1
  exact absurd h4.1 j
 have B:t∈fF 2:=by
  have:=E;unfold XM at this;rw[j]at this;exact this
 rcases BY.1 B with h|h
 .exact absurd h q
 simpa using h
theorem Ic(j:Made S 5 o)(v:Nat)(t:ByteArray)(r:t∈XM S v):FnP prog 80 [gC S,.int .i64 v,.str t] (· =momP (lfM S v t).m):=by
 have q:=dS j.fs;have s:=j.a2;exact wb qM S v t Xj λhne hor=>Sc (vz j r hne hor)
structure WD(S:Sch)(T:List (List Rw)):Prop where
 len:T.length=S.rels.length
 l:∀l∈T,l.length<=5
 w:∀l∈T,∀x∈l,0<=x.w
 s:∀l∈T,oK l<=25
 v:∀r (h:r<T.length) (h2:r<S.rels.length),∀x∈T[r],MdV S S.rels[r].2 x.v
theorem Kv{l m:List Rw}(h:List.Sublist l m)(q:∀x∈m,0<=x.w):oK l<=oK m:=by
 induction h with
 |slnil=>exact Int.le_refl _
 | cons a h ih=>
   have j:=ih λx hx=>q x (by simp[hx])
   have r:=q a Xn;simp only[oK,cu,Up]at j ⊢;omega
 | cons_cons a h ih=>
   have j:=ih λx hx=>q x (by simp[hx])
   simp only[oK,cu,Up]at j ⊢;omega
theorem Q5{d:List (List Rw)}(I:most<=5)(E:MdD S most S.rels.length d)(k:Nat):WD S (fG S (d.set k [])):=by
 have B:(fG S (d.set k [])).length=S.rels.length:=by unfold fG;simp[E.1]
 have j:∀r (h:r<(fG S (d.set k [])).length),∃(q:r<d.length)(s:r<S.rels.length)(l0:List Rw),d[r]=oT l0/\l0.length<=5/\(∀x∈l0,MdR S S.rels[r].2 x)/\List.Sublist (fG S (d.set k []))[r] (oT l0):=λr h=>by
  have s:r<S.rels.length:=Xj;have q:r<d.length:=by have:=E.1;omega
  obtain⟨l0,e,hl,hx⟩:=E.2 r q s;refine⟨q,s,l0,e,Xj,hx,?_⟩;have G:(fG S (d.set k []))[r]=pK S S.rels[r].2 ((d.set k [])[r]'(by rw[TQ];exact q)):=by simp[fG]
  rw[G,List.getElem_set];split
  .have:pK S S.rels[r].2 []=[]:=rfl;rw[this];exact List.nil_sublist _
  rw[e];exact UT
 have pos:∀{A:List Int}{l0:List Rw},(∀x∈l0,MdR S A x)->∀z∈l0,0<z.w:=λh z hz=>by have:=(h z hz).1;omega
 refine⟨B,λl hl=>?_,λl hl x hx=>?_,λl hl=>?_,λr h s x hx=>?_⟩
 .obtain⟨r,hr,rfl⟩:=V7.1 hl;obtain⟨q,s,l0,e,hl0,hx0,hs⟩:=j r hr;exact AS hs.length_le (AS (j9 (pos hx0)).len hl0)
 .obtain⟨r,hr,rfl⟩:=V7.1 hl;obtain⟨q,s,l0,e,hl0,hx0,hs⟩:=j r hr;have:=(j9 (pos hx0)).pos (pos hx0) x (hs.subset hx);omega
 .obtain⟨r,hr,rfl⟩:=V7.1 hl;obtain⟨q,s,l0,e,hl0,hx0,hs⟩:=j r hr;have H:=Kv hs λx hx=>by have:=(j9 (pos hx0)).pos (pos hx0) x hx;omega
  rw[(j9 (pos hx0)).tot]at H;have J:oK l0<=5*l0.length:=Jc λx hx=>(hx0 x hx).1.2
  omega
 obtain⟨q,_,l0,e,hl0,hx0,hs⟩:=j r h;obtain⟨z,hz,ez⟩:=(j9 (pos hx0)).val x (hs.subset hx);rw[ez];exact(hx0 z hz).2
theorem mM:∀{l:List Rw},(∀x∈l,0<=x.w)->(((l.map λx=>x.w.toNat).sum:Nat):Int)=oK l
 |[],_=>rfl
 | x::l,h=>by
   have h1:=mM (l:=l) λy hy=>h y (by simp[hy])
   have j:=h x Xn;simp only[oK,cu,Up]at h1 ⊢;omega
theorem Hh{a:Nat}:∀{l:List Nat},a∈l->a<=l.sum
 | b::l,h=>by
   rw[Up];rcases BY.1 h with rfl|h
   .omega
   have:=Hh h;omega
theorem S8{T:List (List Rw)}(h:WD S T)(r:Int):zX S T Gv.n r<=5:=by
 unfold zX Prt.tot gF;simp only[Va];have e:∀l:List Rw,(l.map ((λi:Itm=>i.g.n)∘λx:Rw=>(⟨x.v,Gv.whole x.w.toNat⟩:Itm))).sum=l.length:=λl=>by
  induction l with
  |nil=>rfl
  |cons a l ih=>rw[cu,Up,ih,IT];show 1+_=_;omega
 rw[e];unfold nv;rw[TO];cases hg:T[r.toNat]? with
 |none=>exact aJ _
 |some l=>exact h.l l (U5 hg)
theorem NH{T:List (List Rw)}(h:WD S T)(r:Int):zX S T Gv.w r<=25:=by
 unfold zX Prt.tot gF;simp only[Va];show(List.map (λx:Rw=>x.w.toNat) (nv T r)).sum<=25;unfold nv;rw[TO];cases hg:T[r.toNat]? with
 |none=>exact aJ _
 | some l=>
   have j:=U5 hg;have q:=mM (h.w l j);have A:=h.s l j;show(List.map (λx:Rw=>x.w.toNat) l).sum<=25;omega
theorem QQ{P:List Int}{T:List (List Rw)}(q:Made S 5 o)(G:OrdOk S P)(j:WD S T):VB S P T (QM S) (XM S) (lfM S):=by
 have E:=G.jL;have H:=G.len;have J:=q.a1;have L:=q.a2;have A:S.rels.length<=3:=by have:=q.r2;omega
 have M:=dS q.fs;have p4:5^S.rels.length<=125:=AS (UY Xl A) Xl;have U:25^S.rels.length<=15625:=AS (UY Xl A) Xl;have V:=fun{v:Nat}(hv:v<P.length)=>Ja (S:=S) (T:=T) (lf:=lfM S) E msr_n (λ_ _=>rfl) O (show 1<=5 by decide) (S8 j) hv
 have Y:=fun{v:Nat}(hv:v<P.length)=>Ja (S:=S) (T:=T) (lf:=lfM S) E JY (λ_ _=>rfl) O (show 1<=25 by decide) (NH j) hv
 refine⟨uP q Xl,uC q,G,Xj,Xj,A,j.len,λl hl=>by have:=j.l l hl;omega,λl hl x hx=>⟨j.w l hl x hx,?_⟩,by rw[NC];omega,λa t ht=>?_,tz q,λv hv t ht=>Ic q v t ht,λr x hx=>?_,λv hv=>by have:=V hv;omega,λv hv=>by have:=Y hv;omega,?_⟩
 .have h1:=j.s l hl;have Z:=mM (j.w l hl);have h3:x.w.toNat<=(l.map λx=>x.w.toNat).sum:=Hh (TG.2 ⟨x,hx,O⟩);omega
 .have h1:=wT ht;have:∀x∈allV,x.size<=1000:=by decide+kernel
  exact this t h1
 .unfold nv at hx;rw[TO]at hx;cases hg:T[r.toNat]? with
  |none=>rw[hg]at hx;simp at hx
  | some l=>
    obtain⟨hr,e⟩:=TE.1 hg;rw[hg]at hx;have B:r.toNat<S.rels.length:=by have:=j.len;omega
    have I:=j.v r.toNat hr B x (by rw[e];exact hx);have e2:lj S r=S.rels[r.toNat].2:=by simp[lj,List.getD,B]
    rw[e2];exact⟨I.1,I.2⟩
 have h1:=Bj (S:=S) (P:=P) (T:=T) (lf:=lfM S) JY O (rs:=aE P (-1)) (z:=Gv.whole 1);have Z:=F3 (S:=S) (T:=T) (lf:=lfM S) E JY (λ_ _=>rfl) O (show 1<=25 by decide) (NH j);have e:(Gv.whole 1).w=1:=rfl;rw[e,Nat.one_mul]at h1;unfold totV;omega
end Vw
end



section
open Mk Jn
theorem Gq{z:Nat}(q:z≠0)(j:z<1000000000):ae z=[z]:=by
 rw[ae,sh q,VU j,VR j,ae,By O]
theorem xZ(s:ByteArray)(h:aN s=VA)(hz:(rdZ s).natAbs<1000000000):FnP prog 107 [.str s] (· = .tup [.int .i64 (rdZ s),.bool VA]):=by
 refine FnP.of func107 O ntmps107 Xn λ_ _ _ _=>?_
 have hv:=ln s;rw[h]at hv;have G:FnP prog 176 [.str s] (· = .agg [.bool (decide (rdZ s<0)),pli (ae (rdZ s).natAbs)]):=iE s (bE h).1 (by have:=(bE h).2;omega);have H:FnP prog 103 [.int .i64 4611686018427387904] (· = .agg [.bool VC,pli (ae (4611686018427387904:Int).natAbs)]):=pE 4611686018427387904 Xl Xl;have hl1:(ae (rdZ s).natAbs).length<=1:=aR.2 Xj;have hl2:(ae (4611686018427387904:Int).natAbs).length<=3:=aR.2 Xl;have B:=fO (rdZ s).natAbs (4611686018427387904:Int).natAbs Xj Xj;have J:vX (rdZ s).natAbs (4611686018427387904:Int).natAbs= -1:=by unfold vX;rw[By Xj]
 rw[J]at B;have U:∀k,k<(ae (rdZ s).natAbs).length->k=0/\(ae (rdZ s).natAbs).length=1/\lim (ae (rdZ s).natAbs) k=(rdZ s).natAbs:=λk hk=>by
  have h0:(rdZ s).natAbs≠0:=λe=>by rw[e,aV]at hk;simp at hk
  rw[Gq h0 hz]at hk ⊢;have:k=0:=by simpa using hk
  subst this;exact⟨O,O,by simp[lim]⟩
 have V:(ae (rdZ s).natAbs).length=0->(rdZ s).natAbs=0:=λe=>bJ.1 e
 have Y:=λk (hk:k<(ae (rdZ s).natAbs).length)=>cw hk
 have Z:=λk (hk:k<(ae (rdZ s).natAbs).length)=>dj hk
 generalize ae (rdZ s).natAbs=L at*;generalize ae (4611686018427387904:Int).natAbs=M at*;refine Z2 O<|Z1 O<|Rs O (aa call175 hv O)<|A1 O<|Gc O (λr=>absurd r Xn) (λr=>?_);refine Ti<|Z1 O<|Rs O (aa call176 G O)<|Y2 O<|Gr O<|Rs O (aa call103 H O)<|Y2 O<|Z4 O<|Rs O (aa call178 B O)<|A1 O<|Gp O (λA=>absurd A Xn) (λA=>?_);refine Ti<|Z1 O<|Gr O<|Ar 5 O<|Gz O (st:=λXr:Nat×Int=>([(4,UG),(6,UF (pIi Xr.2)),(7,UF (pIi ((Xr.1:Int)-1)))],[(0,UG)])) 2
  (I:=λXr=>Xr.1<=L.length/\Xr.2=if Xr.1=0 then((rdZ s).natAbs:Int)else 0) (μ:=λXr=>Xr.1) (x0:=(L.length,0)) (WA O) (⟨AT _,by split;(have:=V Xm;omega);rfl⟩) ?_
 rintro⟨k,n⟩ ⟨hk,hn⟩;try simp only at hk hn ⊢
 refine Z2 O<|Gp O (λE=>?_) (λE=>?_)
 .have hk0:1<=k:=Xj;obtain⟨hj0,hLl,hlim⟩:=U (k-1) Xj;have ab:k=1:=Xj;subst ab;have ac:n=0:=by rw[hn,sh Xj]
  subst ac;have hf:=Y 0 Xj;have ad:=Z 0 Xj;rw[show lim L 0=(rdZ s).natAbs from hlim]at hf;exact Ti<|Gr O<|Ar 5 O<|Rs O (ag 0 underlying22 sz3 O O Xj Xj ad)<|Rs O (az ⟨_,underlying3,O⟩ O hf)<|Y2 O<|Z3 O<|⟨(0,((rdZ s).natAbs:Int)),Tk ⟨O,ah (λz=>pIi z) Xj,O,Xq⟩ (aO O) O O,⟨aJ _,by rw[By O]⟩,Xp⟩
 have hk0:k=0:=Xj;subst hk0;rw[By O]at hn;subst hn;refine Gx O<|Z2 O<|Gc O (λj=>?_) (λj=>?_)
 .refine Z3 O<|Z3 O<|Gt O ?_;have af:rdZ s<0:=by simpa using j
  exact⟨_,_,O,O,ah (λq=>PV.tup [PV.int IntKind.i64 q,PV.bool VA]) (show-((rdZ s).natAbs:Int)=rdZ s by omega)⟩
 refine Ti<|Z3 O<|Gt O ?_;have af:¬rdZ s<0:=by simpa using j
 exact⟨_,_,O,O,ah (λq=>PV.tup [PV.int IntKind.i64 q,PV.bool VA]) (show((rdZ s).natAbs:Int)=rdZ s by omega)⟩
theorem Cn{v:ByteArray}(h:bD v=VC):kM v=yx:=by unfold kM;rw[h];rfl
theorem Lf{v:ByteArray}(h:NumOk v):aN (kM v)=VA/\1<=rdZ (kM v)/\rdZ (kM v)<=12:=by
 cases hs:bD v with
 | true=>have e:kM v=ky v:=by unfold kM;rw[hs];rfl
         rw[e];exact h.d hs
 |false=>rw[Cn hs];exact⟨fL,by rw[oH];decide,by rw[oH];decide⟩
theorem kq(nm v:ByteArray)(kd:Int)(hk:kd=1\/kd=2)(Z:kd=1->bD v=VC)(h:NumOk v)(I:v≠⟨#[]⟩):FnP prog 50 [.agg [.str nm,.int .i64 kd],.str v] (· = .bool VA):=by
 refine FnP.of func50 O ntmps50 Xn λ_ _ _ _=>?_
 have E:=rF v (by have:=qW v h.r;omega);rw[h.r,By O,By O]at E;have q:=Lf h;have J:kd=1->kM v=yx:=λe=>Cn (Z e)
 generalize kM v=dn at*;have G:=xZ (fT v) h.n.1 h.n.2;have H:=xZ dn q.1 Xj;have Y:=h.n.2;have L:(v.toList==(⟨#[]⟩:ByteArray).toList)=VC:=by rw[UU];exact λe=>I (bytes_inj e)
 have M:decide (rdZ (fT v)>= -1000000000)=VA:=TD Xj;have U:decide (rdZ (fT v)<=1000000000)=VA:=TD Xj;have V:decide (rdZ dn<=12)=VA:=TD q.2.2;refine Z2 O<|Z4 O ?_;apply Tt 4 15 19 [16,17,18] O Xt
 .intro hb3;exact Ar 4 O<|Tm Xs O O O
 .intro hb3;exact Ar 4 O<|Tm Xs O O O
 refine Gc O (λs=>absurd s (λh=>by simp at h;omega)) (λs=>?_);refine Ti<|Z1 O<|Rs O (jE O O O L)<|Gc O (λA=>absurd A Xn) (λA=>?_);refine Ti<|Z3 O<|Gc O (λB=>absurd B Xo) (λB=>?_);refine Ti<|Z1 O<|Rs O (aa call106 E O)<|Ar 7 O ?_;by_cases hk1:kd=1
 .subst hk1;obtain rfl:=J O;refine Gr O<|Ar 8 O<|Rg O (jE O O O Xk)<|Y2 O<|Gc O (λj=>absurd j Xn) (λj=>?_);exact Ti<|Z1 O<|Rs O (aa call107 G O)<|Ar 5 O<|Z1 O<|Rs O (aa call107 H O)<|Ar 5 O<|Gr O<|Ar 6 O<|Rg O (cU O O O M)<|Y3 O<|Rg O (cU O O O U)<|Y3 O<|Rg O (cU O O O V)<|Y2 O<|VF O O
 have hk2:(kd==1)=VC:=by simpa using hk1
 refine Gr O<|Ar 5 O<|Rg O (fI O O O hk2)<|Ar 5 O<|Gc O (λj=>absurd j Xn) (λj=>?_);exact Ti<|Z1 O<|Rs O (aa call107 G O)<|Ar 5 O<|Z1 O<|Rs O (aa call107 H O)<|Ar 5 O<|Gr O<|Ar 6 O<|Rg O (cU O O O M)<|Y3 O<|Rg O (cU O O O U)<|Y3 O<|Rg O (cU O O O V)<|Y2 O<|VF O O
theorem An(nm:ByteArray)(kd:Int)(r:kd=1\/kd=2\/kd=3):FnP prog 50 [.agg [.str nm,.int .i64 kd],.str ⟨#[]⟩] (· = .bool VA):=by
 refine FnP.of func50 O ntmps50 Xn λ_ _ _ _=>?_
 refine Z2 O<|Z4 O ?_;apply Tt 4 15 19 [16,17,18] O Xt
 .intro hb3;exact Ar 4 O<|Tm Xs O O O
 .intro hb3;exact Ar 4 O<|Tm Xs O O O
 refine Gc O (λj=>absurd j (λh=>by simp at h;omega)) (λj=>?_);refine Ti<|Z1 O<|Rs O (nB O O O (Uw _))<|Gc O (λq=>?_) (λq=>absurd q Xn);exact Z1 O<|VF O O
theorem EL(nm v:ByteArray)(E:fE v=VA)(G:v.size<=1000)(A:v≠⟨#[]⟩):FnP prog 50 [.agg [.str nm,.int .i64 3],.str v] (· = .bool VA):=by
 refine FnP.of func50 O ntmps50 Xn λ_ _ _ _=>?_
 have B:(v.toList==(⟨#[]⟩:ByteArray).toList)=VC:=by rw[UU];exact λe=>A (bytes_inj e)
 have s:=kA v Xj;rw[E]at s;refine Z2 O<|Z4 O ?_;apply Tt 4 15 19 [16,17,18] O Xt
 .intro hb3;exact Ar 4 O<|Tm Xs O O O
 .intro hb3;exact Ar 4 O<|Tm Xs O O O
 refine Gc O (λj=>absurd j Xn) (λj=>?_);refine Ti<|Z1 O<|Rs O (jE O O O B)<|Gc O (λq=>absurd q Xn) (λq=>?_);refine Ti<|Z3 O<|Gc O (λr=>?_) (λr=>absurd r Xn);exact Z1 O<|Rs O (aa call105 s O)<|A1 O<|VF O O
theorem n10:NumOk ⟨#[49,48]⟩:=⟨Xl,Xk,⟨Xk,by decide+kernel⟩,λh=>absurd h Xu⟩
theorem z7(nm v:ByteArray)(kd:Int)(q:kd=1\/kd=2\/kd=3)(j:v∈fF kd):FnP prog 50 [.agg [.str nm,.int .i64 kd],.str v] (· = .bool VA):=by
 by_cases hne:v=⟨#[]⟩
 .rw[hne];exact An nm kd q
 rcases q with rfl|rfl|rfl
 .simp only[fF,uc,BY,UI,V9]at j;have j:=j.resolve_left hne;simp at j;rcases j with rfl|rfl|rfl
  .exact kq nm _ 1 (.inl O) (λ_=>by kernel_rfl) n1 hne
  .exact kq nm _ 1 (.inl O) (λ_=>by kernel_rfl) n2 hne
  exact kq nm _ 1 (.inl O) (λ_=>by kernel_rfl) n10 hne
 .refine kq nm v 2 (.inr O) (λh=>absurd h Xl) ?_ hne;simp only[fF,CJ,BY,UI,V9]at j;have j:=j.resolve_left hne;simp at j;rcases j with rfl|rfl|rfl|rfl|rfl|rfl|rfl|rfl
  .exact n0
  .exact n1
  .exact nm2
  .exact nh
  .exact n3
  .exact n53
  .exact n1
  exact n2
 simp only[fF,Ho,BY,UI,V9]at j;have j:=j.resolve_left hne;simp at j;rcases j with rfl|rfl|rfl<;>exact EL nm _ Xk Xl hne
end
section
open Go.RowKit Mk Jn Mm Vw
theorem OR:∀p∈QM S,NmOk p:=by
 have hc:∀t∈PK,(t=⟨#[]⟩\/fE t=VA)/\t.size<=1000:=by
  intro t ht;simp only[PK,Ho,BY,UI,V9]at ht;rcases ht with rfl|rfl|rfl|rfl
  .exact⟨.inl O,Xl⟩
  .exact⟨.inr Xu,Xl⟩
  .exact⟨.inr Xu,Xl⟩
  exact⟨.inr Xu,Xl⟩
 intro p hp;unfold QM at hp;rcases BY.1 hp with rfl|hp
 .exact⟨Xl,.inl O,Xl⟩
 obtain⟨i,_,hp⟩:=Uk.1 hp;obtain⟨t,ht,rfl⟩:=TG.1 hp;exact⟨by show(-1:Int)<=(i:Int);omega,(hc t ht).1,(hc t ht).2⟩
theorem Td{g:Gv}(h:GvOk (QM S) g)(B:MF1 (cn g.m)):V10 (cn g.m):=by
 obtain⟨h1,h2,h3,h4⟩:=h.s.cn;refine⟨B,h3,h4,h1.s.nz O,h1.p.nz O,λe he=>?_,λe he=>?_,λe he=>?_⟩
 .have:=h1.po e he;have j:=iS e.1.1 e.1.2;exact TL Xj
 .refine OR (S:=S) e.1 (Ui λr=>?_);have j:=h.q.s _ r;rw[<-h2]at j;exact h1.s.nz O e he ((fB h1.s.nd he).symm.trans j)
 have j:(cn g.m).sem.p e.1.1 e.1.2=e.2:=by
  show lk (cn g.m).p (cP e.1.1 e.1.2)=_;rw[cQ (h1.po e he)];exact fB h1.p.nd he
 have A:g.m.p e.1.1 e.1.2≠0:=by rw[<-h2,j];exact h1.p.nz O e he
 exact⟨OR (S:=S) _ (Ui λr=>A (h.q.p _ _ (.inl r))),OR (S:=S) _ (Ui λr=>A (h.q.p _ _ (.inr r)))⟩
theorem MW{l:List (K×Rat)}(h:LOk VC D l):LOk VA D (nzL l):=
 ⟨h.nd.sublist (UT.map _),λ_ e he=>Vi (UW.1 he).2,λe he=>h.it e (UW.1 he).1⟩
theorem MV[BEq K](l:List (K×Rat))(k:K):lk (nzL l) k=lk l k:=by
 induction l with
 |nil=>rfl
 | cons e l ih=>
   have h:nzL (e::l)=if e.2=0 then nzL l else e::nzL l:=by
    by_cases h:e.2=0<;>simp[nzL,h]
   rw[h];split
   .rename_i h0;rw[ih,lk,h0];split<;>grind
   rw[lk,lk,ih]
structure FulR(x:Mm.Sem)(c:Rat)(s:List (Par×Rat))(p:List (PP×Rat)):Prop where
 c:c=(cn x).c
 s:(nzL s).Perm (cn x).s
 p:(nzL p).Perm (cn x).p
theorem FulR.of{W:Nat}{x:Mm.Sem}{c:Rat}{s:List (Par×Rat)}{p:List (PP×Rat)}(h:MOk W k ⟨c,nzL s,nzL p⟩)(e:MC.sem ⟨c,nzL s,nzL p⟩=x):FulR x c s p:=by
 obtain⟨h1,h2,h3⟩:=h.perms;rw[e]at h1 h2 h3;exact⟨h1.symm,h2.symm,h3.symm⟩
structure GS(S:Sch)(g:Gv):Prop where
 ok:GvOk (QM S) g
 w:g.w<=40000
 k:g.k<=8
section
variable {S:Sch}{g h:Gv}(hQ:(QM S).length<=1000)
include hQ
theorem GS.mf1(j:GS S g):MF1 (cn g.m):=qj j.ok hQ j.w j.k
theorem GS.v10(j:GS S g):V10 (cn g.m):=Td j.ok (j.mf1 hQ)
omit hQ in
theorem GS.msm(j:GS S g):MSm (cn g.m):=j.ok.s.cn.1.msm (AS j.w Xl) (AS j.k Xl)
theorem GS.give(j:GS S g){c:Rat}{s:List (Par×Rat)}{p:List (PP×Rat)}(h:FulR g.m c s p):FnO prog 52 2 0 [.agg (bR c big 9001)] [(big,.mp (aj aW s) (ay s)),(9001,.mp (aj ppP p) (ay p))] (λv ob'=>v= .tup [.agg [.pv (.str (bo (cn g.m).c)),.pv (.sl UG (cn g.m).s.length (bG (tmL (cn g.m).s))),.pv (.sl UG (cn g.m).p.length (bK (prL (cn g.m).p)))],pIi 0]/\ob'=aB []):=by
 obtain⟨_,_,h3,h4⟩:=j.ok.s.cn;rw[h.c];exact yR (cn g.m) s p h.s h.p h3 h4 (j.mf1 hQ)
theorem GS.read(j:GS S g):FnO prog 54 0 2 [.pv (lR (cn g.m))] [] (λv ob'=>v= .agg (bR (cn g.m).c 0 1)/\ob'=aB [(0,.mp (aj aW (cn g.m).s) (ay (cn g.m).s)),(1,.mp (aj ppP (cn g.m).p) (ay (cn g.m).p))]):=
 xN (cn g.m) j.ok.s.cn.1.s.nd j.ok.s.cn.1.p.nd (j.mf1 hQ)
omit hQ in
theorem Gb(j:GS S g)(q:GS S h):FnO prog 55 4 2 [.agg (bR (cn g.m).c big 9001),.agg (bR (cn h.m).c 9002 9003)] [(big,.mp (aj aW (cn g.m).s) (ay (cn g.m).s)),(9001,.mp (aj ppP (cn g.m).p) (ay (cn g.m).p)),(9002,.mp (aj aW (cn h.m).s) (ay (cn h.m).s)),(9003,.mp (aj ppP (cn h.m).p) (ay (cn h.m).p))]
   (λr ob'=>∃c s p,FulR (g.mul h).m c s p/\r= .agg (bR c 0 1)/\ob'=aB [(0,.mp (aj aW s) (ay s)),(1,.mp (aj ppP p) (ay p))]):=by
 refine(Hb _ _ j.msm q.msm).mono ?_;rintro r ob' ⟨m,hm,rfl,rfl⟩;obtain⟨e,h1⟩:=MOk.mul j.ok.s.cn.1 q.ok.s.cn.1 (m:=⟨m.c,nzL m.s,nzL m.p⟩) hm.c (MW hm.s) (MW hm.p) (λe he=>hm.po e (UW.1 he).1) (λx=>by simp only[MV];exact hm.es x) (λx y=>by simp only[MV];exact hm.ep x y);rw[j.ok.s.cn.2.1,q.ok.s.cn.2.1]at e;exact⟨m.c,m.s,m.p,.of h1 e,O,O⟩
omit hQ in
theorem GQ(q:GS S g)(A:GS S h):FnO prog 56 4 0 [.agg (bR (cn g.m).c big 9001),.agg (bR (cn h.m).c 9002 9003),.pv (bQ ((1:Int):Rat))] [(big,.mp (aj aW (cn g.m).s) (ay (cn g.m).s)),(9001,.mp (aj ppP (cn g.m).p) (ay (cn g.m).p)),(9002,.mp (aj aW (cn h.m).s) (ay (cn h.m).s)),(9003,.mp (aj ppP (cn h.m).p) (ay (cn h.m).p))]
   (λr ob'=>∃c s p,FulR (g.add h).m c s p/\r= .agg (bR c big 9001)/\ob'=aB [(big,.mp (aj aW s) (ay s)),(9001,.mp (aj ppP p) (ay p))]):=by
 have j:bj smB ((1:Int):Rat):=bj.up (B:=1) ⟨by decide+kernel,by decide+kernel⟩ Xu;refine(Hm (cn g.m).c (cn g.m).s (cn g.m).p (cn h.m) ((1:Int):Rat) sm1 q.msm A.msm ⟨1,O⟩ j).mono ?_;rintro r ob' ⟨s,p,hm,rfl,rfl⟩;have m1:=q.ok.s.cn.1.up (AT _) (Xc g.k h.k);have m2:=A.ok.s.cn.1.up (AT _) (Nat.le_max_right g.k h.k);obtain⟨e,h1⟩:=MOk.add m1 m2 (m:=⟨(cn g.m).c+(cn h.m).c*((1:Int):Rat),nzL s,nzL p⟩) (by rw[ji,Rat.mul_one]) (MW hm.s) (MW hm.p) (λe he=>hm.po m1.po e (UW.1 he).1) (λx=>by simp only[MV];rw[hm.es,ji,Rat.mul_one]) (λx=>by simp only[MV];rw[hm.ep,ji,Rat.mul_one]);rw[q.ok.s.cn.2.1,A.ok.s.cn.2.1]at e;exact⟨_,s,p,.of h1 e,O,O⟩
theorem Nh(H:GS S g)(I:GS S h)(L:GS S (g.mul h)):FnP prog 17 [lR (cn g.m),lR (cn h.m)] (· = .tup [lR (cn (g.mul h).m),.int .i64 0]):=by
 refine FnP.ofC func17 O ntmps17 Xn λ_ _ _ _=>?_
 have q:=ka _ (H.v10 hQ);have A:=ka _ (I.v10 hQ);have B:=H.read hQ;have E:=I.read hQ;have J:=Gb H I;have G:=fun{c s p}=>L.give hQ (c:=c) (s:=s) (p:=p)
 generalize hx:cn (g.mul h).m=m3 at*;generalize cn g.m=m1 at*;generalize cn h.m=m2 at*;refine Z4 O<|Z1 O<|Rs O (aa call53 q O)<|Y3 O<|Rg O (aa call53 A O)<|Y2 O<|Gc O (λj=>absurd j Xl) (λj=>?_);refine Ti<|UB 10 O<|D1 O<|TR O (λτ h=>aF [] 3 call54 B (h.args.trans O) O O O trivial Xl (by show(τ.av 3&&(τ.av 4&&VA))=VA;rw[h.n 0 _ O,h.n 1 _ O];rfl)) ?_;refine D1 O<|TR O (λτ h=>aF [] 5 call54 E (h.args.trans O) O O O trivial Xl (by show(τ.av 5&&(τ.av 6&&VA))=VA;rw[h.n 0 _ O,h.n 1 _ O];rfl)) ?_;refine DL.rel (RO [3,4,5,6] 7 2 (λr ob'=>∃c s p,FulR (g.mul h).m c s p/\r= .agg (bR c 0 1)/\ob'=aB [(0,.mp (aj aW s) (ay s)),(1,.mp (aj ppP p) (ay p))])) [3,4,5,6,7,8] [7,8] [3,4,5,6] O O O (λτ h=>relO [3,4,5,6] 7 call55 J (h.args.trans Xk) O O O ⟨(h.o 0 _ O).trans Xk,(h.o 1 _ O).trans Xk,(h.o 2 _ O).trans Xk,(h.o 3 _ O).trans Xk,Xq⟩ Xl (by show(τ.av 7&&(τ.av 8&&VA))=VA;rw[h.n 0 _ O,h.n 1 _ O];rfl)) O Xk Xk Xk ?_;rintro _ ⟨_,_,⟨c3,s3,p3,hF,rfl,rfl⟩,rfl⟩ _ _;refine VE [7,8] O (λτ h=>aF [7,8] 9 call52 (G hF) (h.args.trans Xk) O O O ⟨((h.o 0 _ O).trans Xk),((h.o 1 _ O).trans Xk),Xq⟩ Xl O)<|Dr 4 O ?_;refine⟨Xk,?_⟩;exact VF O ⟨⟨ax ⟨_,underlying45,O⟩ ER O O O,Xq⟩,O⟩
end
end
end Go.Proofs.YtkkenamefaegfaaGreatDoor
