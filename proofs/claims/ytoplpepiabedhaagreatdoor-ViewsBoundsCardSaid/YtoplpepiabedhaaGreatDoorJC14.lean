/- Lemmas. No condition. -/
import Derived.Test.YtoplpepiabedhaaGreatDoorJC13
set_option maxRecDepth 100000
set_option maxHeartbeats 4000000
open Go.RowKit Go.Proofs.Tryz
open Option renaming some→Sh,none→Sl
open Bool renaming true→Sm,false→S1
namespace Go.Proofs.YtoplpepiabedhaaGreatDoor
variable{R P A K Q:List Int}{w:World}{v n i j k b s:Nat}{S:Sch}{D:VD}{f:FuncId}{L:List ByteArray}{a r:Int}{α:Type}
section
open Go.RowKit Mk Jn Mm Vw
theorem JG(A B:Option Addr)(c d:Nat)(l m:List ByteArray)(s t:ByteArray)(A2 A3 B2 B3:Option Addr)(n2 c2 n3 c3 k2 d2 k3 d3:Nat)(w:World){R:Nat->Prop}(h:Row w R A (Oy l)){R':Nat->Prop}(u:Row w R' B (Oy m))(E:l.length<=1000000)(G:m.length<=1000000):
  Calls prog 52 #[.agg #[.slice A l.length c,.string s,.slice A2 n2 c2,.slice A3 n3 c3],.agg #[.slice B m.length d,.string t,.slice B2 k2 d2,.slice B3 k3 d3]] w λe w'=>e= .returned (.int .i64 (tf l m))/\∃n os',w'=Go.Sort.grow (w.drewN n) os':=by
 have q:=λo1 o2=>zV A B c d l m ((w.alloc o1).alloc o2) ((h.alloc o1).alloc o2) ((u.alloc o1).alloc o2) E G
 clear h u;generalize tf l m=z at q ⊢
 go_enter func52,ntmps52
 go_wp2_with (go_at_call 53;refine(q _ _).mono ?_;rintro e w' ⟨rfl,rfl⟩)
 go_ret
 exact⟨O,0,_,by rw[Go.Sort.alloc_eq_grow,Go.Sort.alloc_eq_grow,Go.Sort.grow_grow];rfl⟩
structure EntV(w:World)(R:Nat->Prop) where
 x:En
 us:List Value
 rel:RelPL w R (entC x) us
 len:x.v.length<=1000000
theorem EntV.cells{R:Nat->Prop}(q:∀b,R b->b<w.heap.size)(y:EntV w R):∃A c s A2 n2 c2 A3 n3 c3,y.us=[.slice A y.x.v.length c,.string s,.slice A2 n2 c2,.slice A3 n3 c3]/\Row w R A (Oy y.x.v):=by
 have h:=y.rel;simp only[RelPL,RelP]at h;obtain⟨u,vs,e,⟨A,c,rfl,_,_,_,_,h5⟩,u2,vs2,rfl,rfl,u3,vs3,rfl,⟨A2,c2,rfl,_⟩,u4,vs4,rfl,⟨A3,c3,rfl,_⟩,rfl⟩:=h;refine⟨A,c,_,A2,_,c2,A3,_,c3,e,λd=>?_⟩;obtain⟨b,off,us,rfl,h6,h7,h8⟩:=h5 (λe=>d (by rw[TN]at e ⊢; exact e));have l:=qu h6;subst l;exact⟨b,off,O,h7,q b h7,h8⟩
theorem EntV.Pv{R:Nat->Prop}(y:EntV w R):y.us.length=4:=y.rel.length
theorem EntV.one{R:Nat->Prop}(y:EntV w R):∀v∈y.us,v.oneCell'=Sm:=by
 have h:=y.rel;simp only[RelPL,RelP]at h;obtain⟨u,vs,e,⟨A,c,rfl,_⟩,u2,vs2,rfl,rfl,u3,vs3,rfl,⟨A2,c2,rfl,_⟩,u4,vs4,rfl,⟨A3,c3,rfl,_⟩,rfl⟩:=h;rw[e];intro v hv;simp only[AS,Sn,T7]at hv;rcases hv with rfl|rfl|rfl|rfl<;>rfl
theorem Aw{R:Nat->Prop}:∀{l:List En}{us:List Value},(∀x∈l,x.v.length<=1000000)->RelPL w R (l.flatMap entC) us->∃ds:List (EntV w R),ds.map (·.x)=l/\ds.flatMap (·.us)=us
 |[],us,_,h=>⟨[],O,by simp[RelPL]at h;simp[h]⟩
 | x::l,us,hl,h=>by
   have h0:RelPL w R (entC x++l.flatMap entC) us:=h;have d:=h0.take 4;have q:=h0.drop 4;rw[show(entC x++l.flatMap entC).take 4=entC x from List.take_left' O]at d;rw[show(entC x++l.flatMap entC).drop 4=l.flatMap entC from List.drop_left' O]at q;obtain⟨ds,e1,e2⟩:=Aw (λy hy=>hl y (by simp[hy])) q;exact⟨⟨x,us.take 4,d,hl x Vj⟩::ds,by simp[e1],by simp[e2]⟩
theorem vp{w':World}{R:Nat->Prop}(d:∀b,R b->w'.heap[b]? =w.heap[b]?):∀(ds:List (EntV w R)),RelPL w' R ((ds.map (·.x)).flatMap entC) (ds.flatMap (·.us))
 |[]=>by simp[RelPL]
 | y::ds=>by
   have h1:RelPL w' R (entC y.x) y.us:=RelPL.mono (λb hb=>⟨hb,d b hb⟩) _ _ y.rel;have l:=h1.append (vp d ds);rw[bP,RC,RC];exact l
theorem CA(l:List En)(I:l.length<=1000000)(H:∀x∈l,x.v.length<=1000000):
  FnO prog 51 1 0 [.gsl big 4 l.length,.pv (.fn (.func 52) [] [])] [(big,.gro 59 (entsC l))] (λv ob'=>∃l',l'.Perm l/\(l'.Pairwise λa b=>br b.v a.v=S1)/\v= .tup []/\ob'=ax [(big,.gro 59 (entsC l'))]):=by
 intro w m R us hR hrel;simp only[RelL,Rel,RelP]at hrel;obtain⟨u1,us1,rfl,⟨_,A,c,rfl,hnc,hcm,h0,h1⟩,u2,us2,rfl,⟨fs,cs,rfl,hfs,hcs⟩,rfl⟩:=hrel;obtain rfl:=(by simpa[RelPL]using hfs:fs=[]);obtain rfl:=(by simpa[RelPL]using hcs:cs=[]);refine(kY (α:=EntV w R.p) (λy=>y.us) (λy=>y.Pv) entC (λ_=>rfl) Vh (λy=>y.x) (λd=>d.Pairwise λa b=>br b.x.v a.x.v=S1) List.Pairwise.nil hR (λh=>(h0 h).1) h1 (λus h=>Aw H h) (λw' E d=>vp E d)
  (AnyF.slices_SortFunc_none Tryz.sortEnt Sl c _ w) ?_).mono ?_
 .intro b d arr hds hpos hb ht hbs hbR;have q:d.length=l.length:=by rw[<-hds,OF]
  haveI:Inhabited (EntV w R.p):=⟨d[0]'Vf⟩
  have z:CmpLays prog 52 #[] (λy:EntV w R.p=>y.us) 4 (λx y=>tf x.x.v y.x.v) b 0 d.toArray.size w:=by
   intro mm os dk _ x y;obtain⟨A1,c1,s1,A2,n2,c2,A3,n3,c3,e1,r1⟩:=x.cells hR.rsz;obtain⟨B1,d1,t1,B2,k2,d2,B3,k3,d3,e2,r2⟩:=y.cells hR.rsz;have t:=tu Vh (λy:EntV w R.p=>y.us) (λy=>y.Pv) w b mm dk os hbs;have E:∀b',R.p b'->b'<w.heap.size->(sortWorldK (λy:EntV w R.p=>y.us) 4 w b 0 mm dk os).heap[b']? =w.heap[b']? :=λb' h1 h2=>t.block b' h2 λe=>hbR (e▸h1)
   have:=JG A1 B1 c1 d1 x.x.v y.x.v s1 t1 A2 A3 B2 B3 n2 c2 n3 c3 k2 d2 k3 d3 (sortWorldK (λy:EntV w R.p=>y.us) 4 w b 0 mm dk os) (r1.keep t.size λb' _ _ h1 h2=>E b' h1 h2) (r2.keep t.size λb' _ _ h1 h2=>E b' h1 h2) x.len y.len;show Calls _ _ (#[.agg x.us.toArray,.agg y.us.toArray]++ #[]) _ _;rw[e1,e2,Array.append_empty];exact this
  have B:=AnyQ.slices_SortFunc Tryz.sortEnt 4 isAgg59 sizeOf59 (λy:EntV w R.p=>y.us) (λy=>y.Pv) (λy=>y.one) (λx y=>tf x.x.v y.x.v) (Hu λy:EntV w R.p=>y.x.v) 52 #[] b 0 c d.toArray w call52 z (oJ Vh (λy:EntV w R.p=>y.us) (λy=>y.Pv) hb ht) hbs (by rw[RB];omega);rw[RB,q]at B;refine Calls.mono B ?_;rintro e w' ⟨rfl,d',n,os,hp,t,rfl⟩;have G:d'.size=l.length:=hp.1.trans (by rw[RB,q]);refine⟨O,d'.toList,permIn_all (by rw[RB,q]) hp,(iR G t).imp fun{a b} h=>?_,tu Vh (λy:EntV w R.p=>y.us) (λy=>y.Pv) w b n d' os hbs⟩;rw[EV λy:EntV w R.p=>y.x.v]at h;exact h
 .rintro e w' ⟨u,v,ob',m',R',rfl,⟨l',ds',hp,rfl,t,rfl,rfl⟩,r⟩;refine⟨u,_,_,m',R',O,⟨_,hp,?_,O,O⟩,r⟩;rw[SM];exact t
end
section
open Go.RowKit Mk Jn Mm Vw
structure VB(S:Sch)(P:List Int)(T:List (List Rw))(Q:List Par)(X:Nat->List ByteArray)(lf:Int->ByteArray->Gv):Prop where
 sb:SB S
 sj:SJn S
 ord:OrdOk S P
 p5:P.length<=5
 p0:0<P.length
 r3:S.rels.length<=3
 tl:T.length=S.rels.length
 t60:∀l∈T,l.length<=60
 tw:∀l∈T,∀x∈l,0<=x.w/\x.w<=10^5
 q:Q.length<=1000
 x1:∀a,∀t∈X a,t.size<=1000
 lfx:LfX Q X lf
 lift:∀v:Nat,v<P.length->∀t∈X v,FnP prog 121 [eS S,.int .i64 v,.str t] (· =momP (lf v t).m)
 tb:TbX X S T
 en:∀v:Nat,v<P.length->iE Gv.n (vwS S P T lf v)<=216
 ew:∀v:Nat,v<P.length->iE Gv.w (vwS S P T lf v)<=40000
 tot:(totV S P T lf).w<=40000
section
variable {S:Sch}{P:List Int}{T:List (List Rw)}{Q:List Par}{X:Nat->List ByteArray}{lf:Int->ByteArray->Gv}
theorem VB.len(h:VB S P T Q X lf)(d:v<P.length):(vwS S P T lf v).length<=216:=
 IT (Ny λe he=>(M6 h.lfx h.tb v e he).n) (h.en v d)
theorem VB.ev(h:VB S P T Q X lf)(l:v<P.length){e:En}(d:e∈vwS S P T lf v):ItX Q X (cE S P v) e.v e.g/\e.g.w<=40000/\e.g.k<=5:=
 ⟨M6 h.lfx h.tb v e d,IT (w6 d) (h.ew v l),IT (vwS_k h.ord.iw (λv t=>SQ (h.lfx.k v t)) l e d) h.p5⟩
theorem E4(h:VB S P T Q X lf)(d:v<P.length):∀a∈cE S P v,0<=a/\a<(S.attrs.length:Int):=λa ha=>by
 obtain⟨b,hb,e⟩:=ly h.ord.iw d (RX _ (kq.1 ha).1);have:=h.ord.len;omega
theorem EM(d:v<n):(upZ n)[v]'(by rw[a6];exact d)=(v:Int):=by simp[upZ]
theorem Ms(d:v<P.length):(bg S P).chs[v]'(by simp[bg,a6];omega)=aB P v:=by
 simp only[bg,List.getElem_append,OF,a6,d,dite_true,SE,EM d]
theorem Cw(d:v<P.length):(bg S P).kes[v]'(by simp[bg,a6];omega)=cE S P v:=by
 simp only[bg,SE,EM d]
theorem Nl(d:v<P.length):(bg S P).hos[v]'(by simp[bg,a6];omega)=hoL S P v:=by
 simp only[bg,SE,EM d];rfl
theorem oe(P:List Int)(v:Int):(aB P v).length<=P.length:=by rw[<-kD];exact jH _ _ _
theorem LM{v:Int}:∀r∈hoL S P v,∃k:Nat,k<S.rels.length/\r=(k:Int):=λr hr=>by
 unfold hoL mw at hr;obtain⟨k,hk,rfl⟩:=By.1 hr;exact⟨k,Si.1 (Sj.1 hk).1,O⟩
theorem VB.bc(h:VB S P T Q X lf)(t:v<P.length):BC S (bg S P) S.attrs.length v (cE S P v) Q X lf (fi S P T (vwS S P T lf) v):=by
 have u:=h.ord.len;have G:=h.p5;refine⟨by have:=h.p0;omega,Vf,Vf,by simp[bg,a6];omega,Cw t,by have:=w8 S P v;omega,E4 h t,h.x1,h.lfx,h.lift v t,?_,?_⟩
 .intro p hp;have z:=xM (Q:=Q) (S:=S) (P:=P) h.tb (f:=vwS S P T lf) (v:=v) (λc _=>M6 h.lfx h.tb c) p hp;rcases Rx.1 hp with hp|hp
  .obtain⟨r,hr,rfl⟩:=By.1 hp;obtain⟨k,hk,rfl⟩:=LM r hr;have d:k<T.length:=by rw[h.tl];exact hk
   have B:cY S (k:Int)=S.rels[k].2:=by simp[cY,List.getD,hk]
   have E:gK T (k:Int)=T[k]:=by simp[gK,List.getD,d]
   refine⟨z,λi hi=>?_,λi hi=>?_,λa ha=>?_,?_,?_⟩
   .obtain⟨x,hxm,rfl⟩:=By.1 hi;rw[E]at hxm;have:=h.tw _ (au d) x hxm;show x.w.toNat<=_;omega
   .obtain⟨x,hxm,rfl⟩:=By.1 hi;exact cd _
   .have ha:a∈cY S (k:Int):=ha;rw[B]at ha;exact h.sj.b _ (au hk) a ha
   .show(cY S (k:Int)).length<=1000;rw[B];exact h.sj.l _ (au hk)
   .show(List.map _ (gK T (k:Int))).length<=_;rw[OF,E];have:=h.t60 _ (au d);omega
  .obtain⟨c,hc,rfl⟩:=By.1 hp;obtain⟨m,hm,rfl,_⟩:=aZ.1 hc;have q:∀i∈(cW (cE S P m) (vwS S P T lf m)).is,∃e∈vwS S P T lf m,i=⟨e.v,e.g⟩:=λi hi=>by
    obtain⟨e,he,rfl⟩:=By.1 hi;exact⟨e,(cT _).mem_iff.1 he,O⟩
   refine⟨z,λi hi=>?_,λi hi=>?_,λa ha=>?_,?_,?_⟩
   .obtain⟨e,he,rfl⟩:=q i hi;have:=(h.ev hm he).2.1;show e.g.w<=_;omega
   .obtain⟨e,he,rfl⟩:=q i hi;have:=(h.ev hm he).2.2;show e.g.k<=_;omega
   .exact E4 h hm a ha
   .have:=w8 S P m;show(cE S P m).length<=_;omega
   .show(List.map _ (HM (vwS S P T lf m))).length<=_;rw[OF,(cT _).length_eq];have:=h.len hm;omega
 .unfold fi;rw[IS,OF,OF];have H:=jH (S.rels.map λr=>jL P r.2) S.rels.length v;have I:=oe P v;have J:=h.r3;show(hoL S P v).length+_<=_;unfold hoL;omega
noncomputable def lnV(S:Sch)(P:List Int)(T:List (List Rw))(lf:Int->ByteArray->Gv)(D:List Int):Nat:=(D.map λv=>(vwS S P T lf v).length).sum
theorem LV(h:VB S P T Q X lf):∀{D:List Int},(∀v∈D,∃a:Nat,a<P.length/\v=(a:Int))->lnV S P T lf D<=216*D.length
 |[],_=>BY _
 | v::D,hD=>by
   obtain⟨a,ha,rfl⟩:=hD v Vj;have l:=h.len ha;have d:=LV h (D:=D) λx hx=>hD x (by simp[hx])
   unfold lnV at d ⊢;rw[bP,Se,Rk];omega
theorem DA(d:UpOk P)(l:i<(aL P).length):∃a:Nat,a<P.length/\(aL P)[i]=(a:Int):=by
 have:=(ca d).mem_iff.1 (au l);exact bU.1 this
theorem OW(h:VB S P T Q X lf)(H:i<(aL P).length)(e:(aL P)[i]=(v:Int)):
  FnO prog 49 2 0 [.ptr big 0,pIi v] (bldO S (bg S P) T S.attrs.length (3000-(lnV S P T lf ((aL P).drop (i+1)):Int)) (stV S P T lf ((aL P).drop (i+1)))) (λr ob'=>r= .pv (.bool Sm)/\ob'=ax (bldO S (bg S P) T S.attrs.length (3000-(lnV S P T lf ((aL P).drop i):Int)) (stV S P T lf ((aL P).drop i)))):=by
 have u:=h.ord.iw;have z:=h.ord.len;have B:v<P.length:=by
  obtain⟨a,ha,e2⟩:=DA u H;omega
 have I:=h.bc B;have d:(aL P).drop i=(v:Int)::(aL P).drop (i+1):=by rw[<-e];exact RF H
 have U:lnV S P T lf ((aL P).drop i)=(vwS S P T lf v).length+lnV S P T lf ((aL P).drop (i+1)):=by
  rw[d];unfold lnV;rw[bP,Se]
 have V:lnV S P T lf ((aL P).drop i)<=216*5:=by
  refine IT (LV h λx hx=>?_) (Ss _ ?_)
  .exact bU.1 ((ca u).mem_iff.1 (TX hx))
  .rw[Td,(ca u).length_eq,a6];have:=h.p5;omega
 have q:viewE (lf v) S.attrs.length v (cE S P v) (fi S P T (vwS S P T lf) v)=vwS S P T lf v:=(rv u B).symm;have J:=QQ (S:=S) (T:=T) (lf:=lf) u H e;have E:=FE (S:=S) (P:=P) (T:=T) (lf:=lf) ((aL P).drop (i+1));have M:=(zy (S:=S) (T:=T) (lf:=lf) u H).2;rw[e]at M;have t:=xU (S:=S) (D:=bg S P) (T:=T) (n:=S.attrs.length) (left:=3000-(lnV S P T lf ((aL P).drop (i+1)):Int)) (vs:=stV S P T lf ((aL P).drop (i+1))) (ps:=fi S P T (vwS S P T lf) v) (v:=v) (K:=cE S P v) (Q:=Q) (X:=X) (lf:=lf)
  (by have:=h.r3;omega) (by rw[E];exact z) O h.tl (λl hl=>by have:=h.t60 l hl;omega) (λl hl x hx=>by have:=h.tw l hl x hx;omega)
  (hoL S P v) (aB P v) (by simp[bg,a6];omega) (by simp[bg,a6];omega) (Nl B) (Ms B) (by have:=jH (S.rels.map λr=>jL P r.2) S.rels.length v;have:=h.r3;show(mw _ _ _).length<=_;omega) (by have:=oe P v;have:=h.p5;omega) LM
  (λc hc=>by
   obtain⟨m,hm,rfl,_⟩:=aZ.1 hc;exact⟨m,Vf,by simp[bg,a6];omega,O⟩)
  (vwS S P T lf) (cE S P) (λk hk hk' hc=>by
   have G:k<P.length:=by rw[E]at hk;exact hk
   refine⟨?_,Cw G,yR k,by have:=h.len G;omega⟩;rw[zk hk,AT (M k hc)])
  rfl I Vf (by rw[q];omega) (by rw[q];exact IT (h.ew v B) (by decide+kernel))
 rw[q,J]at t;have W:(3000-(lnV S P T lf ((aL P).drop (i+1)):Int))-((vwS S P T lf v).length:Int)=3000-(lnV S P T lf ((aL P).drop i):Int):=Vf;rw[W]at t;exact t
end
noncomputable def vbBody:Code:=match Tryz.f13.body with
 |some (.seq _ (.seq _ (.seq _ (.seq _ (.seq (.seq _ (.block _ (.rangeFunc _ _ _ b))) _)))))=>b
 |_=> .skip
noncomputable def vbTail:Code:=match Tryz.f13.body with
 |some (.seq _ (.seq _ (.seq _ (.seq _ (.seq _ t)))))=>t
 |_=> .skip
noncomputable abbrev vbO(S:Sch)(D:VD)(T:List (List Rw))(n:Nat)(left:Int)(vs:List (Option (List En))):List (Nat×Ob):=[(big,.mix 94 [.ptr 9003 0]),(9001,.mix 49 [.pv nS,.pv (.str ⟨#[]⟩),.pv nS,.pv nS]),(9002,.mix 50 [pIi 0]),(9003,.mix 101 (bldM2 S D T n left 9004)),(9004,.cells 110 (vwsC vs))]
theorem Ix{T:List (List Rw)}{l1 l2:Int}{vs1 vs2:List (Option (List En))}(l:FnO prog 49 2 0 [.ptr big 0,pIi v] (bldO S D T n l1 vs1) (λr ob'=>r= .pv (.bool Sm)/\ob'=ax (bldO S D T n l2 vs2))):
  ∀m0 w0 F R0,AWR ⟨prog,m0,w0,F,R0⟩ Tryz.f13.ntmps vbBody (λex τ=>ex= .normal/\τ.le (mkS [] (vbO S D T n l2 vs2) 0)) (mkS [(9,.ptr big 0),(12,pIi v)] (vbO S D T n l1 vs1) 0):=by
 intro m0 w0 F R0
 repeat refine AWR.seq ?_
 refine AWR.block ?_
 repeat refine AWR.seq ?_
 refine AWR.region O<|Y2 O<|Rs O (bt [9003,9004] 0 call49 l O O O O ⟨O,O,Vm⟩ Vh O)<|A1 O ?_
 repeat refine AWR.seq ?_
 refine AWR.cond O (λd=>absurd d Vh) (λd=>?_);exact AWR.skip<|⟨O,Q5 trivial (aO Vg) O O⟩
end
section
open Go.RowKit Go.Shelf Mk Jn Mm Vw
section
variable {F:Fence}{n:Nat}{P:Program}(w:World){ops:Array Oper}{rest:List Oper}{o:Oper}{a:Act}{Q:Exit->Act->World->Prop}
theorem sO(l:o.guard=Sl)(m:Operand)(d:o.op=Op.assign m)(q:wpListIn F n P ops Q rest (a.put o.dst (a.eval m)) w):wpListIn F n P ops Q (o::rest) a w:=by
 refine wpListIn_plain l λK' hK'=>?_
 unfold Oper.wpIn;refine⟨by simp[Oper.about,d],?_⟩;rw[Oper.semAt_plain F _ _ (by rw[d];intro c hc';cases hc')];simp[execOp,d];exact hK' _ _ q
end
theorem q8{R:Nat->Prop}:∀{l:List Int}{us:List Value},RelPL w R (aE l) us->us=l.map (Value.int .i64)
 |[],us,h=>by simpa[RelPL]using h
 | x::l,us,h=>by
   simp only[bP,RelPL,RelP]at h;obtain⟨u,vs,rfl,rfl,h2⟩:=h;rw[q8 h2];rfl
theorem NT{L:List Int}{R:Nat->Prop}{u:Value}(h:RelP w R (.fn (.func f) [] [.rp [aj L] 0]) u):
  ∃(b off:Nat)(A:Option Addr)(c:Nat),u= .func (.func f) #[] #[.pointer (Sh ⟨b,off,Sl⟩)]/\R b/\w.cell? ⟨b,off,Sl⟩=Sh (.slice A L.length c)/\∃bk o,(L≠[]->A=Sh ⟨bk,o,Sl⟩/\R bk)/\∀j (h:j<L.length),w.cell? ⟨bk,o+j,Sl⟩=Sh (.int .i64 L[j]):=by
 rw[RelP]at h;obtain⟨us,vs',rfl,h1,h2⟩:=h;simp only[RelPL]at h1 h2;obtain⟨u3,us3,rfl,h3,rfl⟩:=h2;subst h1;rw[RelP]at h3;obtain⟨b,off,us4,rfl,h4,h5⟩:=h3;simp only[RelPL]at h4;obtain⟨um,us5,rfl,h6,rfl⟩:=h4;have d:=h5.2 0 Vj;simp only[RelP]at h6;obtain⟨A,c,rfl,_,_,_,_,h8⟩:=h6;refine⟨b,off,A,c,O,h5.1,by simpa using d,?_⟩;by_cases hL:L=[]
 .subst hL;exact⟨0,0,λh=>absurd O h,λj h=>absurd h Vj⟩
 .obtain⟨bk,o,us,rfl,g1,g2,g3⟩:=h8 (λe=>hL (by rw[TN]at e;exact e));refine⟨bk,o,λ_=>⟨O,g2⟩,λj hj=>?_⟩;have l:us=L.map (Value.int .i64):=q8 g1;subst l;have:=g3 j (by simpa using hj);simpa[hj]using this
noncomputable abbrev vbA(a:Act)(i v:Value):Act:=(Act.put { tmps:=((#[71,72]:Array Tmp).zip #[i,v]).foldl (λt (p,v)=>t.setIfInBounds p v) a.tmps,defers:=[] } (Sh 12) (Act.eval { tmps:=((#[71,72]:Array Tmp).zip #[i,v]).foldl (λt (p,v)=>t.setIfInBounds p v) a.tmps,defers:=[] } (.tmp 72)))
theorem Lc{a:Act}(h:a.tmps.size=143)(i v:Value):(vbA a i v).eval (.tmp 9)=a.eval (.tmp 9)/\(vbA a i v).eval (.tmp 12)=v/\(vbA a i v).tmps.size=143:=by
 refine⟨?_,?_,?_⟩<;>simp[vbA,Act.put,Act.eval,h]
noncomputable def vbLoop:Code:=match Tryz.f13.body with
 |some (.seq _ (.seq _ (.seq _ (.seq _ (.seq (.seq _ b) _)))))=>b
 |_=> .skip
noncomputable abbrev vbS(S:Sch)(D:VD)(T:List (List Rw))(n:Nat)(left:Int)(vs:List (Option (List En))):List (Nat×Ob):=[(2,.mix 49 [.pv nS,.pv (.str ⟨#[]⟩),.pv nS,.pv nS]),(3,.mix 50 [pIi 0]),(4,.cells 110 (vwsC vs)),(5,.mix 101 (bldM2 S D T n left 4)),(6,.mix 94 [.ptr 5 0])]
theorem MF{T:List (List Rw)}{Q:List Par}{X:Nat->List ByteArray}{lf:Int->ByteArray->Gv}(h:VB S P T Q X lf){G:PV->Prop}
  (hT:∀m0 w0 F R0,AW ⟨prog,m0,w0,F,R0⟩ Tryz.f13.ntmps vbTail (Jy prog Tryz.f13 Tryz.f13.ntmps G) (mkS [(6,.ptr 9001 0),(7,.ptr 9002 0),(9,.ptr big 0)] (vbO S (bg S P) T S.attrs.length (3000-(lnV S P T lf (aL P):Int)) (stV S P T lf (aL P))) 0))
  (w:World) (R0:RT w (λ_=>False)) (hdf:R0.df=[]):
  AWX ⟨prog,λ_=>Sl,w,λ_=>False,R0⟩ Tryz.f13.ntmps vbLoop (Exit.then (vbTail.wp prog (bodyPostM Fence.wide 2 prog Tryz.f13 (CM w R0.p G))) (bodyPostM Fence.wide 2 prog Tryz.f13 (CM w R0.p G)))
   (mkS [(6,.ptr 2 0),(7,.ptr 3 0),(9,.ptr 6 0),(70,.pv (.fn (.func 118) [] [.rp [aj (aL P)] 0]))] (vbS S (bg S P) T S.attrs.length 3000 (stV S P T lf [])) 7):=by
 rintro a W ⟨m,R,hw⟩;have hP:=h.ord.iw;have z:a.defers=[]:=hw.df.trans hdf;have d:a.tmps.size=143:=hw.sz.trans ntmps13;obtain⟨b,off,A,c,hfn,hRb,hcb,bk,o,hbk,hrow⟩:=NT (show RelP W R (.fn (.func 118) [] [.rp [aj (aL P)] 0]) (a.eval (.tmp 70))from by have:=hw.sl 70 (by rw[ntmps13];decide);have e:(mkS [(6,V.ptr 2 0),(7,.ptr 3 0),(9,.ptr 6 0),(70,.pv (.fn (.func 118) [] [.rp [aj (aL P)] 0]))] (vbS S (bg S P) T S.attrs.length 3000 (stV S P T lf [])) 7).sl 70= .pv (.fn (.func 118) [] [.rp [aj (aL P)] 0]):=rfl;rw[e]at this;simpa only[Rel]using this);obtain⟨bs,hbl,hbt,hids⟩:=OD hw [6,2,3,5,4] (vbO S (bg S P) T S.attrs.length 3000 (stV S P T lf [])) O O ⟨Vg,Vg,Vg,Vg,Vg,Vm⟩ O Vh;have hwl:(aL P).length=P.length:=by rw[(ca hP).length_eq,a6]
 have hp5:=h.p5;have eg:=enters_of (P:=prog) func118 Vg O;have B:∀b,R b->b<W.heap.size:=hw.hr.rsz;have E:=GI b off bk o (aL P) A c W (B b hRb) (λY=>⟨(hbk Y).1,B bk (hbk Y).2⟩) hcb hrow Vf;have H:∃N,m 2=Sh (bs[1]'(by rw[hbl];decide),N):=hids 1 2 _ O (Hj _);have I:∃N,m 3=Sh (bs[2]'(by rw[hbl];decide),N):=hids 2 3 _ O (Hj _);have J:∃N,m 6=Sh (bs[0]'(by rw[hbl];decide),N):=hids 0 6 _ O (Hj _);have e6:a.eval (.tmp 6)= .pointer (Sh ⟨bs[1]'(by rw[hbl];decide),0,Sl⟩):=by
  have:=hw.sl 6 (by rw[ntmps13];decide);obtain⟨N,hN⟩:=H;exact this.2 _ _ hN
 have e7:a.eval (.tmp 7)= .pointer (Sh ⟨bs[2]'(by rw[hbl];decide),0,Sl⟩):=by
  have:=hw.sl 7 (by rw[ntmps13];decide);obtain⟨N,hN⟩:=I;exact this.2 _ _ hN
 have e9:a.eval (.tmp 9)= .pointer (Sh ⟨bs[0]'(by rw[hbl];decide),0,Sl⟩):=by
  have:=hw.sl 9 (by rw[ntmps13];decide);obtain⟨N,hN⟩:=J;exact this.2 _ _ hN
 have M:∀q,R q->R0.p q\/w.heap.size<=q:=λq hq=>(hw.hr.rfr q hq).imp id λe=>e.elim id False.elim
 have Z:=hw.hr.r0;have aa:(3000:Int)=3000-(lnV S P T lf ((aL P).drop ((aL P).length-0)):Int):=by
  rw[UU,List.drop_length];show(3000:Int)=3000-((0:Nat):Int);omega
 have ab:stV S P T lf []=stV S P T lf ((aL P).drop ((aL P).length-0)):=by rw[UU,List.drop_length]
 clear hw hids H I J;refine wp_block (wpIn_wide (n:=2).1 ?_);refine lr (nt:=Tryz.f13.ntmps) (w0:=w) (R0:=R) (bs:=bs) S1 (encs:=λx:Nat×Int=> #[.int .i64 (x.1:Int),.int .i64 x.2]) hfn eg E (λ_=>rfl) (λh=>by cases h) (λ_ U V hk q hq=>hk q (by rcases hq with rfl|⟨h1,rfl⟩;exact hRb;exact(hbk h1).2))
  (λpre os k=>os=vbO S (bg S P) T S.attrs.length (3000-(lnV S P T lf ((aL P).drop ((aL P).length-pre.length)):Int)) (stV S P T lf ((aL P).drop ((aL P).length-pre.length)))/\k=0) ⟨?i0,O⟩ hbt (λh=>by cases h)
  (λx _=>vbA a (.int .i64 (x.1:Int)) (.int .i64 x.2)) (λ_ W=>W) (λx W=>Below.refl _ W) (λx W=>⟨O,(Lc d _ _).2.2.trans ntmps13.symm⟩) ?assign ?body ?done
 case i0=>
  show vbO S (bg S P) T S.attrs.length 3000 (stV S P T lf [])=vbO S (bg S P) T S.attrs.length (3000-(lnV S P T lf ((aL P).drop ((aL P).length-0)):Int)) (stV S P T lf ((aL P).drop ((aL P).length-0)));rw[<-aa,<-ab]
 case assign=>
  intro l x W K hK;exact wpIn_region_lit (sO _ O (.tmp 72) O (wpListIn_nil hK))
 case body=>
  rintro pre x os k ⟨rfl,rfl⟩ ⟨hpl,rfl⟩;obtain⟨i,hi⟩:∃i,i=(aL P).length-1-pre.length:=⟨_,O⟩;have u:i<(aL P).length:=Vf;obtain⟨v,hv,e⟩:=DA hP u;have hc:=OW h u e;have ei:(aL P).length-pre.length=i+1:=Vf;rw[ei,<-hi];have ac:(aL P).getD i 0=(v:Int):=by rw[<-e];simp[List.getD,u]
  rw[ac];refine⟨[(9,.ptr big 0),(12,pIi v)],_,Ix hc,?_,?_⟩
  .rintro ex τ ⟨rfl,hle⟩;refine⟨_,_,hle,λj hj=>?_,O,?_,O⟩
   .rw[hbl]at hj;have hj:j<5:=hj;have:j=0\/j=1\/j=2\/j=3\/j=4:=Vf;rcases this with rfl|rfl|rfl|rfl|rfl<;>rfl
   .have:(aL P).length-(pre++[(i,(v:Int))]).length=i:=by simp;omega
    rw[this]
  .intro W1 W2 m2 R2 _ hm2 _ t _;obtain⟨a9,a12,_⟩:=Lc d (.int .i64 (i:Int)) (.int .i64 (v:Int));by_cases t9:t=9
   .subst t9;show Rel W2 m2 (avK 0) R2 (.ptr big 0) ((vbA a _ _).eval (.tmp 9));rw[a9,e9];obtain⟨N,hN⟩:=hm2 0 _ (Hj _);exact⟨Vh,λb' N' e=>by have e:=hN.symm.trans e;cases e;rfl⟩
   .by_cases t12:t=12
    .subst t12;show Rel W2 m2 (avK 0) R2 (pIi v) ((vbA a _ _).eval (.tmp 12));rw[a12];simp only[Rel,RelP]
    .have b9:Nat.beq t 9=S1:=by cases hb:Nat.beq t 9;rfl;exact absurd (aJ hb) t9
     have b12:Nat.beq t 12=S1:=by cases hb:Nat.beq t 12;rfl;exact absurd (aJ hb) t12
     have e:look [(9,V.ptr big 0),(12,pIi v)] t= .pv .any:=by simp only[look,b9,b12,RR]
     rw[e];simp only[Rel,RelP]
 case done=>
  rintro D X xs os k W2 hD hDl hDX hS ⟨rfl,rfl⟩ hB hdef;rw[hS,Ux,List.drop_zero]at hB;have hB2:=hB.less Z M;refine Btw.tail (n:=Tryz.f13.ntmps) hT hB2 hDX hdef _ (by show _::a.defers=_;rw[z]) (d.trans ntmps13.symm) ?_;intro m2 R2 hm2 _ t _;show Rel W2 m2 (avK 0) R2 _ (a.eval (.tmp t));by_cases t6:t=6
  .subst t6;rw[e6];obtain⟨N,hN⟩:=hm2 1 _ (Hj _);exact⟨Vh,λb' N' e=>by have e:=hN.symm.trans e;cases e;rfl⟩
  .by_cases t7:t=7
   .subst t7;rw[e7];obtain⟨N,hN⟩:=hm2 2 _ (Hj _);exact⟨Vh,λb' N' e=>by have e:=hN.symm.trans e;cases e;rfl⟩
   .by_cases t9:t=9
    .subst t9;rw[e9];obtain⟨N,hN⟩:=hm2 0 _ (Hj _);exact⟨Vh,λb' N' e=>by have e:=hN.symm.trans e;cases e;rfl⟩
    .have b6:Nat.beq t 6=S1:=by cases hb:Nat.beq t 6;rfl;exact absurd (aJ hb) t6
     have b7:Nat.beq t 7=S1:=by cases hb:Nat.beq t 7;rfl;exact absurd (aJ hb) t7
     have b9:Nat.beq t 9=S1:=by cases hb:Nat.beq t 9;rfl;exact absurd (aJ hb) t9
     have e:look [(6,V.ptr 9001 0),(7,V.ptr 9002 0),(9,V.ptr big 0)] t= .pv .any:=by simp only[look,b6,b7,b9,RR]
     rw[e];simp only[Rel,RelP]
end
section
open Go.RowKit Go.Shelf Mk Jn Mm Vw
theorem Hb(l:List (List En))(E:List En):lstsC l++[.sl Sl E.length (entsC E)]=lstsC (l++[E]):=by simp[lstsC]
abbrev P6(g:Gv):Prop:=FnP prog 50 [momP g.m] (· = .tup [wc (cn g.m),.int .i64 0])
theorem Iw{T:List (List Rw)}{left:Int}(VS LS:List (List En))(hn:VS.length=n)(aA:n<=1000)(hL:LS=VS.map iy)(hE:∀E∈VS,EnOk E/\E.length<=1000/\∀e∈E,e.v.length<=1000/\P6 e.g/\MF1 (cn e.g.m))
  (hD:D.chs.length=n+1) (RS:List Int) (hR:D.chs[n]'Vf=RS) (hRl:RS.length<=1000) (Z:Nat->Gv) (h0:Z 0=Gv.whole 1)
  (hZ:∀i (hi:i<RS.length),∃r,∃hr:r<LS.length,RS[i]=(r:Int)/\FnP prog 57 [wc (cn (atV LS[r] []).m)] (· =momP (atV LS[r] []).m)/\FnP prog 56 [momP (Z i).m,momP (atV LS[r] []).m] (· =momP (Z (i+1)).m))
  (hC:P6 (Z RS.length)):∀m0 w0 F R0,AW ⟨prog,m0,w0,F,R0⟩ Tryz.f13.ntmps vbTail (Jy prog Tryz.f13 Tryz.f13.ntmps (· = .tup [vwsP LS (cn (Z RS.length).m),.int .i64 0])) (mkS [(6,.ptr 9001 0),(7,.ptr 9002 0),(9,.ptr big 0)] (vbO S D T n left (VS.map Sh)) 0):=by
 intro m0 w0 F R0;have hLl:LS.length=n:=by rw[hL,OF,hn]
 have G:(vwsC (VS.map Sh)).length=n*2:=by rw[nE,OF,hn]
 have Y:FnP prog 54 [.int .i64 1] (· =momP (Z 0).m):=by rw[h0];exact kH 1 Vh
 have ab:=EW D n hD aA RS hR;refine Z1 O<|Q4 (Q8 (o:= .cells 110 (vwsC (VS.map Sh))) 9004 Vg O)<|Q4 (St.da (T':=49) (cs:=[.pv nS,.pv (.str ⟨#[]⟩),.pv nS,.pv nS]) 0 0 1 1 57 Vg O O)<|Gr O ?_;iterate 6 refine A1 O ?_
 refine Gl O (st:=λVn:Nat=>mkS [(6,.ptr 9001 0),(7,.ptr 9002 0),(9,.ptr big 0),(13,.ptr 0 0),(81,.pv (.sl (Sh S1) n (vwsC (VS.map Sh)))),(82,pIi n),(83,pIi Vn)] [(big,.mix 94 [.ptr 9003 0]),(0,.mix 49 [.gsl 1 1 Vn,.pv (.str ⟨#[]⟩),.pv nS,.pv nS]),(1,.gro 57 (lstsC (LS.take Vn))),(9001,.mix 49 [.pv nS,.pv (.str ⟨#[]⟩),.pv nS,.pv nS]),(9002,.mix 50 [pIi 0]),(9003,.mix 101 [.pv (.sl Sl S.attrs.length (aG S.attrs)),.pv (.sl Sl S.rels.length (aM S.rels)),.pv (.sl Sl S.feats.length (aH S.feats)),pIi S.label,.pv (aW D.chs),.pv (aW D.kes),.pv (aW D.hos),.pv (aj D.wa),.pv (dbP T),.pv (.sl (Sh S1) n (vwsC (VS.map Sh))),pIi left])] 2)
  (I:=λVn=>Vn<=n) (μ:=λVn=>n-Vn) (x0:=(0)) (Q5 (aS O) (aO Vg) O O) (cd _) ?_
 rintro i hi;refine Z1 O<|Gp O (λW=>?_) (λW=>?_)
 .have hlt:i<n:=Vf;have H:i<VS.length:=Vf;have ac:i<LS.length:=Vf;have ad:i<(VS.map Sh).length:=by rw[OF];exact H
  have u:=AR ad;rw[SE]at u;have af:vwsC (VS.map Sh)≠[]:=λe=>by rw[e]at G;simp at G;omega
  obtain⟨hok,hEl,hEe⟩:=hE _ (au H);have ak:LS[i]=iy VS[i]:=by simp[hL]
  have J:=Hb (LS.take i) LS[i];rw[<-AI ac,ak]at J;have hlt2:(lstsC (LS.take i)).length=i*1:=by simp[lstsC];omega
  have hd:=Lv hok;generalize VS[i]=E at*;refine Q3<|Gr O<|Rs O (ae i underlying99 A8 O O O hlt af)<|Rs O (aU ⟨_,underlying110,O⟩ A8 O u O)<|Y2 O<|Z1 O<|Q4 (Ra 16 3 4 59 O O)<|Z2 O<|Rs O (fq 4 underlying107 O O)<|Gl O (st:=λl:Nat×List En×List En×List PV=>mkS [(6,.ptr 9001 0),(7,.ptr 9002 0),(9,.ptr big 0),(13,.ptr 0 0),(15,.ptr 2 0),(16,.gsl 3 4 l.1),(81,.pv (.sl (Sh S1) n (vwsC (VS.map Sh)))),(82,pIi n),(83,pIi i),(89,.ptr 4 0)] [(big,.mix 94 [.ptr 9003 0]),(0,.mix 49 [.gsl 1 1 i,.pv (.str ⟨#[]⟩),.pv nS,.pv nS]),(1,.gro 57 (lstsC (LS.take i))),(2,.mix 110 [.pv (.mp (bV E) (jU E)),.pv (.mp (bV E) (gvsV E))]),(3,.gro 59 (entsC l.2.2.1)),(4,.mi l.2.2.2 (bV l.2.1) (jU l.2.1)),(9001,.mix 49 [.pv nS,.pv (.str ⟨#[]⟩),.pv nS,.pv nS]),(9002,.mix 50 [pIi 0]),(9003,.mix 101 [.pv (.sl Sl S.attrs.length (aG S.attrs)),.pv (.sl Sl S.rels.length (aM S.rels)),.pv (.sl Sl S.feats.length (aH S.feats)),pIi S.label,.pv (aW D.chs),.pv (aW D.kes),.pv (aW D.hos),.pv (aj D.wa),.pv (dbP T),.pv (.sl (Sh S1) n (vwsC (VS.map Sh))),pIi left])] 5)
   (I:=λl=>l.1=l.2.2.1.length/\(l.2.2.1++l.2.1).Perm E) (μ:=λl=>l.2.1.length) (x0:=(0,E,[],[])) (Q5 (aS O) (aO Vg) O O) (⟨O,RY _⟩) ?_
  rintro⟨k,todo,acc,cur⟩ ⟨hk,hp⟩;try simp only at hk hp ⊢
  refine Gr O<|RL.call O (im O O ?_);rintro b rest cur2 ks2 vs2 hN;refine Rs O (cG O O)<|Gc O (λq=>?_) (λq=>?_)
  .obtain⟨_,l1,e,l2,rfl,rfl,rfl,rfl,rfl⟩:=(gI.of hN).resolve_left (by rintro⟨h,_⟩;rw[h]at q;cases q);have M:e∈E:=hp.mem_iff.1 Vj;obtain⟨hev,hco,_⟩:=hEe e M;have al:=rH hok M λe=>momP e.g.m
   have U:acc.length<=1000:=by have:=hp.length_eq;simp at this;omega
   have am:=vo acc;rw[<-hk]at am U;have an:=Cd acc e;have z:((acc++[e])++(l1++l2)).Perm E:=by
    refine List.Perm.trans ?_ hp;rw[TC];exact List.Perm.append_left _ (show(e::(l1++l2)).Perm (l1++e::l2)from Uq.symm)
   refine Q3<|Gr O<|Rs O (fo O O) ?_;iterate 4 refine A1 O ?_
   refine Z3 O<|Rs O (gM (zp:= .agg [.bool S1,.sl (Sh Sm) 0 [],.bool S1,.sl (Sh Sm) 0 [],.nilmap,.nilmap]) underlying108 underlying9 (.inr (.inl ⟨O,hd⟩)) O O r9 O al O)<|Rs O (aa call50 hco O) ?_;iterate 6 refine A1 O ?_
   refine Gr O ?_;iterate 7 refine A1 O ?_
   exact⟨(k+1,l1++l2,acc++[e],[.str e.t,a7 e.v]),Q6 [0,1,2,7,4] (aT O) ⟨Vg,Vg,Vg,Vg,RI (b:=Sh (.gro 59 (entsC acc++entC e))) Vg (ag (λc=>Sh (Ob.gro 59 c)) an),Vg,Vg,Vg,Vg,Vm⟩ O O Vh O,⟨by simp[hk],z⟩,Vj⟩
  .obtain⟨_,rfl,_⟩:=(gI.of hN).resolve_right (by rintro⟨h,_⟩;rw[h]at q;cases q);rw[Sk]at hp;have ao:=CA acc (by have:=hp.length_eq;omega) (λx hx=>by have:=(hEe x (hp.mem_iff.1 hx)).1;omega);subst hk;refine Gx O<|Z1 O<|RL.call O (bM [3] 5 call51 O O O O (by exact⟨Vg,Vm⟩) Vh O ao ?_);rintro _ _ ⟨l',hp2,ho,rfl,rfl⟩;obtain rfl:l'=iy E:=MN hok (hp2.trans hp) ho;have ap:acc.length=(iy E).length:=hp2.length_eq.symm;rw[ap];refine Q4 (Q8 (o:= .gro 59 (entsC (iy E))) 3 Vg O)<|Gr O ?_;iterate 7 refine A1 O ?_
   exact Z2 O<|⟨(i+1),Q6 [0,6] (aT O) ⟨Vg,Vg,RI (b:=Sh (.gro 57 (lstsC (LS.take i)++[.sl Sl (iy E).length (entsC (iy E))]))) Vg (ag (λc=>Sh (Ob.gro 57 c)) J),Vg,Vg,Vg,Vm⟩ O O Vh O,hlt,Vf⟩
 .have hie:LS.take i=LS:=aQ Vf;have ar:i=LS.length:=Vf;rw[hie,ar];refine Gx O<|Q4 (Q8 (o:= .gro 57 (lstsC LS)) 1 Vg O)<|Gr O<|Rs O (aa call54 Y O)<|Y2 O ?_;show AW _ _ _ _ _;refine Z4 O<|Rs O (aa call55 ab O)<|Y2 O<|Gl O (st:=λd:Nat=>mkS [(6,.ptr 9001 0),(7,.ptr 9002 0),(13,.ptr 0 0),(21,.ptr 2 0),(123,.pv (aj RS)),(124,pIi RS.length),(125,pIi d)] [(big,.mix 94 [.ptr 9003 0]),(0,.mix 49 [.pv (.sl Sl LS.length (lstsC LS)),.pv (.str ⟨#[]⟩),.pv nS,.pv nS]),(2,.mix 120 [.pv (.bool (decide ((cn (Z d).m).c.num<0))),.pv (bF (cn (Z d).m).c.num.natAbs),.pv (.bool (decide (((cn (Z d).m).c.den:Int)<0))),.pv (bF ((cn (Z d).m).c.den:Int).natAbs),.pv (.mp (aI dr (cn (Z d).m).s) (aN (cn (Z d).m).s)),.pv (.mp (aI ppP (cn (Z d).m).p) (aN (cn (Z d).m).p))]),(9001,.mix 49 [.pv nS,.pv (.str ⟨#[]⟩),.pv nS,.pv nS]),(9002,.mix 50 [pIi 0]),(9003,.mix 101 [.pv (.sl Sl S.attrs.length (aG S.attrs)),.pv (.sl Sl S.rels.length (aM S.rels)),.pv (.sl Sl S.feats.length (aH S.feats)),pIi S.label,.pv (aW D.chs),.pv (aW D.kes),.pv (aW D.hos),.pv (aj D.wa),.pv (dbP T),.pv (.sl (Sh S1) n (vwsC (VS.map Sh))),pIi left])] 3)
   (I:=λd=>d<=RS.length) (μ:=λd=>RS.length-d) (x0:=(0)) (Q5 (aS O) (aO Vg) O O) (cd _) ?_
  rintro j hj;refine Z1 O<|Gp O (λB=>?_) (λB=>?_)
  .have hlj:j<RS.length:=Vf;obtain⟨r,hr,hre,hof,hmu⟩:=hZ j hlj;have ax:r<VS.length:=Vf;have ay:(aE RS)[j*1]? =Sh (.int .i64 (r:Int)):=by rw[<-hre];simp[hlj]
   have z:=aD hlj;have V:LS[r]=iy VS[r]:=by simp[hL]
   obtain⟨_,hrl,hrE⟩:=hE _ (au ax);have az:=Px LS ⟨#[]⟩ Sl Sl 0 0 [] [] r hr [] Vh (by rw[V,(fa _).length_eq];omega) (λe he=>by rw[V]at he;have:=hrE e ((fa _).mem_iff.1 he);exact⟨Vf,this.2.2⟩);refine Q3<|Gr O<|Rs O (ae j underlying22 sz3 O O O hlj z)<|Rs O (aq ⟨_,underlying3,O⟩ O ay)<|A1 O<|RW 7 O ?_;iterate 3 refine D1 O ?_
   refine Ds [] O (λτ h=>aa call42 az (h.aK O)) O Vg<|Ds [] O (λτ h=>aa call57 hof (h.aK O)) O Vg<|Ds [] O (λτ h=>aa call56 hmu (h.aK O)) O Vg<|D1 O ?_;refine⟨Vg,?_⟩;exact Z2 O<|⟨(j+1),Q5 (aS O) (aO Vg) O O,hlj,Vf⟩
  .have hje:j=RS.length:=Vf;subst hje;refine Gx O<|Z1 O<|Rs O (aa call50 hC O) ?_;iterate 5 refine A1 O ?_
   exact Z3 O<|Gt O<|⟨[.agg (.pv (.sl Sl LS.length (lstsC LS))::[.pv (.str (gb (cn (Z RS.length).m).c)),.pv (.sl Sl (cn (Z RS.length).m).s.length (fD (tmL (cn (Z RS.length).m).s))),.pv (.sl Sl (cn (Z RS.length).m).p.length (fE (prL (cn (Z RS.length).m).p)))]),pIi 0],[vwsP LS (cn (Z RS.length).m),.int .i64 0],res2 (T1:=49) (T2:=50) (i:=9001) (j:=9002) O ⟨_,underlying49,O⟩ sz49 O O Vg ⟨_,underlying50,O⟩ O Vg,O,O⟩
end
section
open Go.RowKit Go.Shelf Mk Jn Mm Vw
theorem AWX.weaken{C:Ctx}{c:Code}{Post:Exit->Act->World->Prop}{σ τ:St}(d:σ.le τ)(h:AWX C n c Post τ):AWX C n c Post σ:=λa w hs=>h a w (d C n a w hs)
section
variable {S:Sch}{P:List Int}{T:List (List Rw)}{Q:List Par}{X:Nat->List ByteArray}{lf:Int->ByteArray->Gv}
theorem EB{g:Gv}(h:GvOk Q g)(d:Q.length<=1000)(l:g.w<=40000)(q:g.k<=8):P6 g:=
 Gj (cn g.m) h.s.cn.2.2.1 h.s.cn.2.2.2 (r6 h d l q)
theorem MW{g:Gv}(h:GvOk Q g)(d:Q.length<=1000)(l:g.w<=40000)(q:g.k<=8):FnP prog 57 [wc (cn g.m)] (· =momP g.m):=
 HQ (cn g.m) (yV fm h.s.cn.2.2.1) (yV du h.s.cn.2.2.2) (r6 h d l q)
theorem VB.Qj(h:VB S P T Q X lf){r:Nat}(l:r<P.length):GvOk Q (atV (iy (vwS S P T lf r)) [])/\(atV (iy (vwS S P T lf r)) []).w<=40000/\(atV (iy (vwS S P T lf r)) []).k<=5:=by
 have d:∀e∈iy (vwS S P T lf r),e∈vwS S P T lf r:=λe he=>(fa _).mem_iff.1 he
 refine⟨Qn (λe he=>(h.ev l (d e he)).1.ok) [],?_,?_⟩<;>
 .unfold atV;cases he:(iy (vwS S P T lf r)).find? λe=>decide (e.v=[])with
  |none=>exact cd _
  |some e=>first|exact(h.ev l (d e (T5 he))).2.1|exact(h.ev l (d e (T5 he))).2.2
theorem ud(rs:List Int)(r:Int)(z:Gv):totF S P T lf (rs++[r]) z=(totF S P T lf rs z).mul (atV (iy (vwS S P T lf r)) []):=by
 unfold totF;rw[Uf];rfl
theorem VB.part(h:VB S P T Q X lf):∀i,i<=(aB P (-1)).length->GvOk Q (totF S P T lf ((aB P (-1)).take i) (Gv.whole 1))/\(totF S P T lf ((aB P (-1)).take i) (Gv.whole 1)).w<=40000^i/\(totF S P T lf ((aB P (-1)).take i) (Gv.whole 1)).k<=5*i
 |0,_=>⟨GvOk.whole Q 1,BY 1,cd _⟩
 | i+1,hi=>by
   have hlt:i<(aB P (-1)).length:=Vf;obtain⟨h1,h2,h3⟩:=h.part i Vf;obtain⟨r,hr,e,_⟩:=aZ.1 (au hlt);obtain⟨g1,g2,g3⟩:=h.Qj hr;rw[AI hlt,ud,e];refine⟨h1.mul g1,?_,?_⟩
   .show _*_<=_;rw[Tc];exact Sw h2 g2
   .show _+_<=_;omega
theorem NU(h:VB S P T Q X lf):∀m0 w0 F R0,AW ⟨prog,m0,w0,F,R0⟩ Tryz.f13.ntmps vbTail (Jy prog Tryz.f13 Tryz.f13.ntmps (· = .tup [vwsP ((List.range P.length).map λa:Nat=>iy (vwS S P T lf a)) (cn (totV S P T lf).m),.int .i64 0])) (mkS [(6,.ptr 9001 0),(7,.ptr 9002 0),(9,.ptr big 0)] (vbO S (bg S P) T S.attrs.length (3000-(lnV S P T lf (aL P):Int)) (stV S P T lf (aL P))) 0):=by
 have z:=h.ord.iw;have d:=h.ord.len;have G:=h.p5;have H:stV S P T lf (aL P)=((List.range P.length).map λa:Nat=>vwS S P T lf a).map Sh:=by rw[MG z,Ta];rfl
 have I:=oe P (-1);have l:=Iw (S:=S) (D:=bg S P) (T:=T) (n:=S.attrs.length) (left:=3000-(lnV S P T lf (aL P):Int)) ((List.range P.length).map λa:Nat=>vwS S P T lf a) ((List.range P.length).map λa:Nat=>iy (vwS S P T lf a)) (by simp[d]) Vf (by rw[Ta];rfl)
  (λE hE=>by
   obtain⟨a,u,rfl⟩:=By.1 hE;have u:=Si.1 u;refine⟨yR a,by have:=h.len u;omega,λe he=>?_⟩;obtain⟨g1,g2,g3⟩:=h.ev u he;refine⟨?_,EB g1.ok h.q g2 Vf,r6 g1.ok h.q g2 Vf⟩;rw[g1.v.len];have:=w8 S P a;omega)
  (by simp[bg,a6,d]) (aB P (-1)) (by simp[bg,List.getElem_append,a6,d]) Vf
  (λi=>totF S P T lf ((aB P (-1)).take i) (Gv.whole 1)) O
  (λi hi=>by
   obtain⟨r,hr,e,_⟩:=aZ.1 (au hi);obtain⟨g1,g2,g3⟩:=h.Qj hr;obtain⟨p1,p2,p3⟩:=h.part i Vf;refine⟨r,by simpa using hr,e,?_,?_⟩
   .rw[SE,List.getElem_range];exact MW g1 h.q g2 Vf
   .rw[SE,List.getElem_range];have J:40000^i<=10^50:=IT (S6 Vh (show i<=5 by omega)) (by decide+kernel);have M:=sr p1.s g1.s (IT p2 J) (IT g2 (by decide+kernel)) Vf Vf;have U:totF S P T lf ((aB P (-1)).take (i+1)) (Gv.whole 1)=(totF S P T lf ((aB P (-1)).take i) (Gv.whole 1)).mul (atV (iy (vwS S P T lf r)) []):=by
     rw[AI hi,ud,e]
    show FnP _ _ _ (· =momP (totF S P T lf ((aB P (-1)).take (i+1)) (Gv.whole 1)).m);rw[U];exact M)
  (by
   show P6 (totF S P T lf ((aB P (-1)).take (aB P (-1)).length) (Gv.whole 1));have B:=(h.part (aB P (-1)).length (BY _)).1;rw[T3]at B ⊢;exact EB B h.q h.tot (IT (Pq z λv t=>SQ (h.lfx.k v t)) Vf))
 rw[<-H]at l;simp only[T3]at l;exact l
theorem MZ(z:PV)(m:Nat):mkZ [z,z] m=List.replicate m z:=by
 unfold mkZ;apply SO
 .simp
 .intro i h1 h2;simp only[SE,List.getElem_range,List.getElem_replicate,Rk,Tx];have:i%2=0\/i%2=1:=Vf;rcases this with e|e<;>simp[e]
theorem OV:vwsC (stV S P T lf [])=List.replicate (P.length*2) .nilmap:=by
 have e:stV S P T lf []=List.replicate P.length Sl:=by
  unfold stV;apply SO
  .simp
  .intro i h1 h2;simp
 rw[e];have:∀n,vwsC (List.replicate n Sl)=List.replicate (n*2) PV.nilmap:=λn=>by
  induction n with
  |zero=>rfl
  | succ n ih=>
    rw[Ul];show vwC Sl++vwsC (List.replicate n Sl)=_;rw[ih,show(n+1)*2=n*2+1+1 by omega,Ul,Ul];rfl
 exact this _
end
section
variable {S:Sch}{P:List Int}{Q:List Par}{X:Nat->List ByteArray}{lf:Int->ByteArray->Gv}
theorem qx(d:List (List Rw))(h:VB S P (cM S d) Q X lf)(H:d.length=S.rels.length)(hl:∀l∈d,l.length<=60)(hv:∀r (h:r<d.length) (h2:r<S.rels.length),∀x∈d[r],x.v.length=S.rels[r].2.length)(h0:bz S=0)(ad:FnP prog 111 [eS S,dbP d] (· = .int .i64 0)):
  FnP prog 13 [eS S,og P,dbP d] (· = .tup [vwsP ((List.range P.length).map λa:Nat=>iy (vwS S P (cM S d) lf a)) (cn (totV S P (cM S d) lf).m),.int .i64 0]):=by
 have hT:=NU h;have hp5:=h.p5;have z:=h.ord.len;have J:=zn S h.sb P Vf (oL.2 ⟨h0,h.ord⟩) d ad;have M:=CX S h.sb P h.ord;have U:=Qs (aL P);have hr:=h.sj.r;have B:=tO H;have hdl:=gB d;have hz:mkZ [PV.nilmap,PV.nilmap] (S.attrs.length*2)=vwsC (stV S P (cM S d) lf []):=by rw[MZ,OV,z]
 have hpl:(cM S d).length=S.rels.length:=by unfold cM;simp[H]
 refine FnP.marks func13 O (n:=Tryz.f13.ntmps) O (by rw[ntmps13];show 3<=143;decide) λw R0 hdf=>?_
 have V:=MF h hT w R0 hdf;have han:S.attrs.length<=1000:=h.sj.a;clear hT
 repeat first|refine Rh ?_|refine AWX.seq ?_
 refine AW.region ?_;iterate 4 refine A1 O ?_
 repeat first|refine Rh ?_|refine AWX.seq ?_
 refine AW.region<|Y3 O<|Rs O (aa call45 J O)<|A1 O ?_
 repeat first|refine Rh ?_|refine AWX.seq ?_
 refine AW.region<|Y2 O<|Gc O (λu=>absurd u Vh) (λu=>?_);refine Q3 ?_
 repeat first|refine Rh ?_|refine AWX.seq ?_
 refine AW.draw follows [[],[],[],[2,1],[],[4],[5,4],[6,5,4],[7,3,0,2,1,6,5,4],[8,7,3,0,2,1,6,5,4],[],[9,10,8,7,3,0,2,1,6,5,4]] [0,1,2,3,4,5,6,7,8,9,10,11] Vg Vg ?_;iterate 3 refine D1 O ?_
 refine Ds [] O (λτ h=>aa call46 M (h.aK O)) O Vg ?_;iterate 8 refine D1 O ?_
 refine⟨Vg,?_⟩;refine AWX.weaken (St.da (T':=101) (cs:=[.pv (.sl Sl S.attrs.length (aG S.attrs)),.pv (.sl Sl S.rels.length (aM S.rels)),.pv (.sl Sl S.feats.length (aH S.feats)),pIi S.label,.pv (aW (bg S P).chs),.pv (aW (bg S P).kes),.pv (aW (bg S P).hos),.pv (aj (bg S P).wa),.pv nS,.osl 4 2 S.attrs.length,pIi 3000]) 5 8 7 1 38 Vg O O) ?_
 repeat first|refine Rh ?_|refine AWX.seq ?_
 refine AW.region ?_;iterate 4 refine A1 O ?_
 refine Gl O (st:=λVn:Nat×List (List Rw)=>mkS [(2,.pv (dbP d)),(3,.ptr 0 0),(6,.ptr 2 0),(7,.ptr 3 0),(9,.ptr 6 0),(44,pIi S.rels.length),(45,pIi Vn.1)] [(0,oZ S),(2,.mix 49 [.pv nS,.pv (.str ⟨#[]⟩),.pv nS,.pv nS]),(3,.mix 50 [pIi 0]),(4,.cells 110 (mkZ [PV.nilmap,PV.nilmap] (S.attrs.length*2))),(5,.mix 101 [.pv (.sl Sl S.attrs.length (aG S.attrs)),.pv (.sl Sl S.rels.length (aM S.rels)),.pv (.sl Sl S.feats.length (aH S.feats)),pIi S.label,.pv (aW (bg S P).chs),.pv (aW (bg S P).kes),.pv (aW (bg S P).hos),.pv (aj (bg S P).wa),.gsl 7 1 Vn.2.length,.osl 4 2 S.attrs.length,pIi 3000]),(6,.mix 94 [.ptr 5 0]),(7,.gro 38 (gX Vn.2))] 8)
  (I:=λVn=>Vn.1<=S.rels.length/\Vn.2=pZ S d Vn.1) (μ:=λVn=>S.rels.length-Vn.1) (x0:=(0,[])) (Q5 (aS O) (aO Vg) O O) (⟨cd _,by simp[pZ]⟩) ?_
 rintro⟨k,q⟩ ⟨hk,hq⟩;try simp only at hk hq ⊢
 repeat first|refine Rh ?_|refine AWX.seq ?_
 refine AW.region<|A1 O<|Gp O (λG=>?_) (λG=>?_)
 .have hlt:k<S.rels.length:=Vf;have t:k<d.length:=Vf;have W:=r7 t;have Y:=lJ t;have Z:=uM S h.sj k hlt d[k] (by have:=hl _ (au t);omega) (hv k t hlt);have E:=qD H hlt;have ab:=vL H hk;rw[<-hq]at ab E;have hql:(gX q).length=q.length*1:=gB q;have ac:=se q (nT S S.rels[k].2 d[k]);generalize nT S S.rels[k].2 d[k]=lv at*;generalize d[k]=tk at*;refine Q3 ?_
  repeat apply Rh
  refine AW.block ?_
  repeat first|refine Rh ?_|refine AWX.seq ?_
  refine AW.region<|Y2 O ?_
  repeat first|refine Rh ?_|refine AWX.seq ?_
  refine AW.draw follows [[],[],[1],[2,1],[3,2,1],[],[],[],[],[8,7],[9,8,7],[10,6,5,9,8,7],[11,10,6,5,9,8,7],[12,4,3,2,1,11,10,6,5,9,8,7],[13,12,11,10,9,8,7,6,5,4,3,2,1,0],[14,13,12,11,10,9,8,7,6,5,4,3,2,1,0],[15,14,13,12,11,10,9,8,7,6,5,4,3,2,1,0]] [0,1,2,3,4,5,6,7,8,9,10,11,12,13,14,15,16] Vg Vg ?_;iterate 9 refine D1 O ?_
  refine Ds [] O (λτ h=>ae k underlying34 Pf (Ee h 0 O O) (Ee h 1 O O) O t Y) O Vg<|Ds [] O (λτ h=>aq ⟨_,underlying38,O⟩ (Ee h 0 O O) W) O Vg<|Ds [] O (λτ h=>aa call47 Z (h.aK O)) O Vg ?_;iterate 5 refine D1 O ?_
  refine⟨Vg,?_⟩
  repeat first|refine Rh ?_|refine AWX.seq ?_
  exact AW.region<|Y2 O<|⟨(k+1,q++[lv]),Q6 [0,1,2,3,4,5,6,9] (aT O) ⟨Vg,Vg,Vg,Vg,RI (b:=Sh (.mix 101 [.pv (.sl Sl S.attrs.length (aG S.attrs)),.pv (.sl Sl S.rels.length (aM S.rels)),.pv (.sl Sl S.feats.length (aH S.feats)),pIi S.label,.pv (aW (bg S P).chs),.pv (aW (bg S P).kes),.pv (aW (bg S P).hos),.pv (aj (bg S P).wa),.gsl 9 1 (q.length+1),.osl 4 2 S.attrs.length,pIi 3000])) Vg (ag (λn=>Sh (Ob.mix 101 [.pv (.sl Sl S.attrs.length (aG S.attrs)),.pv (.sl Sl S.rels.length (aM S.rels)),.pv (.sl Sl S.feats.length (aH S.feats)),pIi S.label,.pv (aW (bg S P).chs),.pv (aW (bg S P).kes),.pv (aW (bg S P).hos),.pv (aj (bg S P).wa),.gsl 9 1 n,.osl 4 2 S.attrs.length,pIi 3000])) (fZ q lv)),Vg,RI (b:=Sh (.gro 38 (gX q++[mH lv]))) Vg (ag (λc=>Sh (Ob.gro 38 c)) ac),Vm⟩ O O Vh O,⟨Vl,by simp only;rw[E]⟩,Vl⟩
 .have hqf:q=cM S d:=by rw[hq,show k=S.rels.length by omega,B]
  rw[hqf];refine Gx O<|AWX.weaken (Q8 7 O O)<|AWX.seq2<|AW.region ?_;iterate 5 refine A1 O ?_
  refine Rs O (aa call48 U O)<|AWX.weaken (τ:=mkS [(6,.ptr 2 0),(7,.ptr 3 0),(9,.ptr 6 0),(70,.pv (.fn (.func 118) [] [.rp [aj (aL P)] 0]))] (vbS S (bg S P) (cM S d) S.attrs.length 3000 (stV S P (cM S d) lf [])) 7) (Q5 (aS O) ⟨Vg,Vg,?_,Vg,Vg,Vm⟩ O O) V;exact RI (b:=Sh (Ob.cells 110 (mkZ [PV.nilmap,PV.nilmap] (S.attrs.length*2)))) Vg (ag (λc=>Sh (Ob.cells 110 c)) hz)
end
end
section
namespace Vw
open Mm Jn Mk
set_option autoImplicit false
def Has(x:Ch)(A:List Int)(V:List ByteArray):Prop:=∀j (h:j<A.length) (h2:j<V.length),x.s.getD A[j].toNat S1=Sm/\x.v.getD A[j].toNat ⟨#[]⟩=V[j]
structure AOk(n:Nat)(A:List Int):Prop where
 nd:A.Nodup
 rng:∀a∈A,∃b:Nat,b<n/\a=(b:Int)
theorem AOk.tail(h:AOk n (a::A)):AOk n A:=⟨(Sx.1 h.nd).2,λb hb=>h.rng b (by simp[hb])⟩
theorem JW{x:Ch}(d:x.v.length=n)(l:x.s.length=n){a:Nat}(q:a<n)(t:ByteArray)(b:Nat):(rO x ((a:Int),t)).v.getD b ⟨#[]⟩=(if a=b then t else x.v.getD b ⟨#[]⟩)/\(rO x ((a:Int),t)).s.getD b S1=(if a=b then Sm else x.s.getD b S1):=by
 simp only[rO,RH,Rj,TU,d,l,q,UP];by_cases e:a=b<;>simp[e]
theorem sW:∀{A:List Int}{V:List ByteArray}{x:Ch},AOk n A->V.length=A.length->x.v.length=n->x.s.length=n->
  ((pR x A V).v.length=n/\(pR x A V).s.length=n)/\(∀b:Nat,(b:Int)∉A->(pR x A V).v.getD b ⟨#[]⟩=x.v.getD b ⟨#[]⟩/\(pR x A V).s.getD b S1=x.s.getD b S1)/\Has (pR x A V) A V
 |[],V,x,_,_,hv,hs=>⟨⟨hv,hs⟩,λ_ _=>⟨O,O⟩,λj h=>absurd h Vj⟩
 |a::A,[],x,_,hl,_,_=>absurd hl Vj
 | a::A,t::V,x,h,hl,hv,hs=>by
   obtain⟨b,hb,rfl⟩:=h.rng a Vj;have d:=Sx.1 h.nd;have q:=JW hv hs hb t;obtain⟨h1,h2,h3⟩:=sW (x:=rO x ((b:Int),t)) h.tail (by simpa using hl) (by simpa[rO]using hv) (by simpa[rO]using hs);have e:pR x ((b:Int)::A) (t::V)=pR (rO x ((b:Int),t)) A V:=rfl;rw[e];refine⟨h1,λc hc=>?_,λj hj hj2=>?_⟩
   .simp only[AS,not_or]at hc;have l:¬b=c:=λe=>hc.1 (by rw[e])
    rw[(h2 c hc.2).1,(h2 c hc.2).2,(q c).1,(q c).2,dt l,dt l];exact⟨O,O⟩
   .cases j with
    | zero=>
      simp only[List.getElem_cons_zero,RH];rw[(h2 b d.1).1,(h2 b d.1).2,(q b).1,(q b).2,AT O,AT O];exact⟨O,O⟩
    | succ j=>
      simp only[List.getElem_cons_succ];exact h3 j (by simpa using hj) (by simpa using hj2)
theorem OY{x:Ch}{V:List ByteArray}(h:B5 x A V=Sm)(q:j<A.length)(t:j<V.length)(l:x.s.getD A[j].toNat S1=Sm):x.v.getD A[j].toNat ⟨#[]⟩=V[j]:=by
 unfold B5 at h;have d:(A[j],V[j])∈A.zip V:=by
  have:(A.zip V)[j]'Vk=(A[j],V[j]):=Vj;rw[<-this];exact au _
 have:=Ri.1 h _ d;unfold Qx at this;rw[l]at this;simpa using this
theorem Has.keep{x:Ch}{B:List Int}{V W:List ByteArray}(d:AOk n A)(l:V.length=A.length)(q:x.v.length=n)(t:x.s.length=n)(hB:AOk n B)(u:B5 x A V=Sm)(h:Has x B W):Has (pR x A V) B W:=λj h1 h2=>by
 obtain⟨_,p2,p3⟩:=sW (V:=V) d l q t;obtain⟨b,hb,e⟩:=hB.rng B[j] (au h1);obtain⟨q1,q2⟩:=h j h1 h2;by_cases hm:B[j]∈A
 .obtain⟨i,hi,ei⟩:=Sp hm;have:=p3 i hi Vf;rw[ei]at this;refine⟨this.1,this.2.trans ?_⟩;rw[<-q2];have:=OY (j:=i) u hi Vf (by rw[ei];exact q1);rw[ei]at this;exact this.symm
 .rw[e]at hm;rw[e,RH]at q1 q2 ⊢;rw[(p2 b hm).1,(p2 b hm).2];exact⟨q1,q2⟩
theorem qj:∀{ps:List Prt}{x:Ch}{g:Gv},(∀p∈ps,AOk n p.a/\∀i∈p.is,i.v.length=p.a.length)->x.v.length=n->x.s.length=n->∀l∈leaves ps x g,(∀B W,AOk n B->Has x B W->Has l.1 B W)/\∀p∈ps,∃i∈p.is,Has l.1 p.a i.v
 | [],x,g,_,_,_,l,hl=>by
   simp only[leaves,Rn]at hl;subst hl;exact⟨λ_ _ _ h=>h,λp hp=>absurd hp Vj⟩
 | p::ps,x,g,hp,hv,hs,l,hl=>by
   rw[leaves,RN]at hl;obtain⟨i,hi,hl⟩:=hl;split at hl
   .rename_i ha;obtain⟨h1,h2⟩:=hp p Vj;have d:=h2 i hi;obtain⟨q1,_,q3⟩:=sW (V:=i.v) h1 d hv hs;obtain⟨r1,r2⟩:=qj (ps:=ps) (λq hq=>hp q (by simp[hq])) q1.1 q1.2 l hl;refine⟨λB W hB h=>r1 B W hB (h.keep h1 d hv hs hB ha),λq hq=>?_⟩;rcases AS.1 hq with rfl|hq
    .exact⟨i,hi,r1 _ _ h1 q3⟩
    .exact r2 q hq
   .simp at hl
theorem z7{lf:ByteArray->Gv}{v:Int}{ps:List Prt}(d:∀p∈ps,AOk n p.a/\∀i∈p.is,i.v.length=p.a.length):∀e∈viewE lf n v K ps,∃x:Ch,e.v=iD K x/\∀p∈ps,∃i∈p.is,Has x p.a i.v:=by
 refine gh (I:=λe=>∃x:Ch,e.v=iD K x/\∀p∈ps,∃i∈p.is,Has x p.a i.v) (λx y hx _ _=>hx) _ (λ_ h=>absurd h Vj) λl hl=>?_
 exact⟨l.1,O,(qj d (by simp[ch0]) (by simp[ch0]) l hl).2⟩
section
variable {S:Sch}{P:List Int}{T:List (List Rw)}{lf:Int->ByteArray->Gv}
theorem Dy(l:OrdOk S P)(q:k<S.rels.length):AOk S.attrs.length (cY S (k:Int)):=by
 have d:=au q;have e:cY S (k:Int)=S.rels[k].2:=by simp[cY,List.getD,q]
 rw[e];refine⟨(Kx (l.val.asc _ d)).imp λh e=>by omega,λa ha=>?_⟩;have:=l.val.rng _ d a ha;obtain⟨b,hb⟩:=Rm this.1;exact⟨b,Vf,hb⟩
theorem FI(d:OrdOk S P)(l:v<P.length):AOk S.attrs.length (cE S P v):=by
 refine⟨?_,λa ha=>?_⟩
 .unfold cE;rw[(jG _).nodup_iff];unfold Ks;exact TO SZ (Sx.1 (gj d.iw v l)).2
 obtain⟨b,hb,e,_⟩:=ju d.iw v l a (kq.1 ha).1;exact⟨b,by have:=d.len;omega,e⟩
theorem vd(l:UpOk P):∀(k:Nat)(v:Nat),v<P.length->∀r∈iS S P k v,∃u∈mL P v,r∈hoL S P u
 |0,v,hv,r,hr=>⟨v,dX.2 ⟨⟨v,hv,O⟩,.inl O⟩,hr⟩
 | k+1,v,hv,r,hr=>by
   rw[iS]at hr;rcases Rx.1 hr with hr|hr
   .exact⟨v,dX.2 ⟨⟨v,hv,O⟩,.inl O⟩,hr⟩
   .obtain⟨c,hc,hr⟩:=RN.1 hr;obtain⟨m,hm,rfl,hp⟩:=aZ.1 hc;obtain⟨u,hu,h⟩:=vd l k m hm r hr;refine⟨u,?_,h⟩;obtain⟨⟨a,ha,rfl⟩,h2⟩:=dX.1 hu;have e:=cK l hm hv hp;have d:(v:Int)∈cq P m:=by rw[e];simp
    refine dX.2 ⟨⟨a,ha,O⟩,.inr ?_⟩;rcases h2 with h2|h2
    .rw[h2];exact d
    .exact kS l ha d h2
theorem LK{v:Int}(h:r∈hoL S P v):∃(k:Nat)(d:k<S.rels.length),r=(k:Int)/\cY S r=S.rels[k].2/\jL P (cY S r)=v:=by
 obtain⟨k,d,rfl,e⟩:=rU.1 h;have l:cY S (k:Int)=S.rels[k].2:=by simp[cY,List.getD,d]
 exact⟨k,d,O,l,by rw[l];exact e⟩
theorem IW(l:OrdOk S P){m:Nat}(z:v<P.length)(t:m<P.length)(B:P.getD m 0=(v:Int))(E:r∈iS S P k m)(G:a∈cE S P v)(d:a∈cY S r):a∈cE S P m:=by
 obtain⟨u,hu,h⟩:=vd l.iw k m t r E;obtain⟨k,hk,rfl,e,e2⟩:=LK h;have q:=(JV l (au hk)).1;rw[e]at e2 d;rw[e2]at q;refine kq.2 ⟨?_,u,hu,wj (au hk) d q⟩;rw[cK l.iw t z B];exact RX _ (kq.1 G).1
def zR(S:Sch)(T:List (List Rw))(K:List Int)(V:List ByteArray)(r:Int):Prop:=∃x∈gK T r,∀i (_:i<K.length) j (_:j<(cY S r).length),(cY S r)[j]=K[i]->x.v.getD j ⟨#[]⟩=V.getD i ⟨#[]⟩
def Lz(S:Sch)(T:List (List Rw)):Prop:=∀r:Int,∀x∈gK T r,x.v.length=(cY S r).length
theorem K6{f:Int->List En}{v:Int}:∀e∈mkV S P T lf f v,e.v.length=(cE S P v).length:=
 gh (I:=λe=>e.v.length=(cE S P v).length) (λ_ _ hx _ _=>hx) _ (λ_ h=>absurd h Vj) λl _=>by simp[iD]
theorem sZ:∀(k:Nat)(v:Int),∀e∈vwK S P T lf k v,e.v.length=(cE S P v).length
 |0,v=>by rw[vwK];exact K6
 |k+1,v=>by rw[vwK];exact K6
theorem zW(d:OrdOk S P)(l:Lz S T){f:Int->List En}(q:∀c,∀e∈f c,e.v.length=(cE S P c).length){v:Int}:∀p∈fi S P T f v,AOk S.attrs.length p.a/\∀i∈p.is,i.v.length=p.a.length:=λp hp=>by
 rcases Rx.1 hp with hp|hp
 .obtain⟨r,hr,rfl⟩:=By.1 hp;obtain⟨k,hk,rfl,_⟩:=LK hr;refine⟨Dy d hk,λi hi=>?_⟩;obtain⟨x,hx,rfl⟩:=By.1 hi;exact l _ x hx
 .obtain⟨c,hc,rfl⟩:=By.1 hp;obtain⟨m,hm,rfl,_⟩:=aZ.1 hc;refine⟨FI d hm,λi hi=>?_⟩;obtain⟨x,hx,rfl⟩:=By.1 hi;exact q _ x ((cT _).mem_iff.1 hx)
theorem Gy{x:Ch}(h:i<K.length):(iD K x).getD i ⟨#[]⟩=x.v.getD K[i].toNat ⟨#[]⟩:=by
 simp[iD,Rj,h]
theorem yB(l:Lz S T){x:Ch}(h:∃i∈(dZ (cY S r) (gK T r)).is,Has x (cY S r) i.v):zR S T K (iD K x) r:=by
 obtain⟨i,hi,hh⟩:=h;obtain⟨y,hy,rfl⟩:=By.1 hi;have q:=l r y hy;refine⟨y,hy,λi hi j hj e=>?_⟩;have d:=(hh j hj Vl).2;rw[e]at d;rw[Gy hi,d];simp[Rj,show j<y.v.length by omega]
theorem Fs(q:OrdOk S P)(l:Lz S T):∀(k:Nat)(v:Nat),v<P.length->∀e∈vwK S P T lf k v,∀r∈iS S P k v,zR S T (cE S P v) e.v r
 | 0,v,hv,e,he,r,hr=>by
   rw[vwK]at he;obtain⟨x,h1,h2⟩:=z7 (zW q l (f:=λ_=>[]) λ_ _ h=>absurd h Vj) e he;rw[h1];exact yB l (h2 (dZ (cY S r) (gK T r)) (S7 _ (By.2 ⟨r,hr,O⟩)))
 | k+1,v,hv,e,he,r,hr=>by
   rw[vwK]at he;obtain⟨x,h1,h2⟩:=z7 (zW q l (f:=vwK S P T lf k) λc=>sZ k c) e he;rw[h1];rw[iS]at hr;rcases Rx.1 hr with hr|hr
   .exact yB l (h2 (dZ (cY S r) (gK T r)) (S7 _ (By.2 ⟨r,hr,O⟩)))
   .obtain⟨c,hc,hr⟩:=RN.1 hr;obtain⟨m,hm,rfl,hp⟩:=aZ.1 hc;obtain⟨it,hi,hh⟩:=h2 (cW (cE S P m) (vwK S P T lf k m)) (To _ (By.2 ⟨m,hc,O⟩));obtain⟨e',d,rfl⟩:=By.1 hi;have d:=(cT _).mem_iff.1 d;have B:=sZ k _ e' d;obtain⟨y,hy,hyk⟩:=Fs q l k m hm e' d r hr;refine⟨y,hy,λi hi j hj ej=>?_⟩;have u:=IW q hv hm hp hr (au hi) (by rw[<-ej];exact au hj);obtain⟨i',hi',e2⟩:=Sp u;have z:=(hh i' hi' Vl).2;rw[hyk i' hi' j hj (by rw[ej,e2]),Gy hi,<-e2];have t:x.v.getD (cE S P m)[i'].toNat ⟨#[]⟩=e'.v[i']'Vf:=z;rw[t];simp[Rj,show i'<e'.v.length by omega]
theorem C6(d:UpOk P){u:Nat}(q:v<P.length)(t:u<P.length)(h:(u:Int)=(v:Int)\/(v:Int)∈cq P u):(u:Int)∈(ct P P.length v).vs:=by
 rw[tree_vs];rcases h with h|h
 .rw[h];simp
 .refine RX _ (List.count_pos_iff.1 ?_);have l:∀a (ha:a<P.length),P[a]=(v:Int)->P.length+1<=(cq P a).length+P.length:=λa ha e=>by
   have:=cK d ha q (by rw[getD_at ha];exact e);rw[this,Rk];omega
  rw[jq d P.length (v:Int) l u t,AT (S7 _ h)];decide
theorem uR(q:OrdOk S P)(B:v<P.length)(E:a∈cE S P v):∃r∈iS S P P.length v,a∈cY S r:=by
 obtain⟨h1,b,hb,hl⟩:=kq.1 E;have t:=q.iw;unfold fk at hl;obtain⟨r,hr,h2⟩:=SR.1 hl;simp only[sh,List.contains_iff_mem,Rt]at h2;obtain⟨k,hk,e⟩:=Sp hr;obtain⟨⟨c,hc,rfl⟩,hb2⟩:=dX.1 hb;have z:cY S (k:Int)=r.2:=by rw[<-e];simp[cY,List.getD,hk]
 refine⟨(k:Int),?_,by rw[z];exact h2.1⟩;rw[eC,RN];have d:∀a∈r.2,0<=a/\a<P.length:=by rw[q.len];exact q.val.rng r hr
 obtain⟨g1,g2⟩:=mY t (q.val.ne r hr) d (q.rt r hr);have g3:=g2 _ h2.2;obtain⟨u,hu⟩:=Rm (d _ g1).1;have l:u<P.length:=by have:=(d _ g1).2;omega
 rw[hu]at g3;refine⟨(u:Int),?_,rU.2 ⟨k,hk,O,by rw[e];exact hu⟩⟩;refine C6 t B l ?_;rcases g3 with g3|g3
 .rw[<-g3];exact hb2
 .rcases hb2 with hb2|hb2
  .right;rw[<-hb2];exact g3
  .right;exact kS t l hb2 g3
theorem gY[DecidableEq α]{l Q:List α}(d:l.Nodup)(q:∀a∈l,a∈Q):l.length<=Q.length:=@ky α instBEqOfDecidableEq inferInstance l Q d q
def pV{α:Type}:List (List α)->List (List α)
 |[]=>[[]]
 |l::ls=>l.flatMap λx=>(pV ls).map (x:: ·)
theorem nZ:∀ls:List (List α),(pV ls).length=bL (ls.map List.length)
 |[]=>rfl
 | l::ls=>by
   rw[pV,bP,bL,<-nZ ls];induction l with
   |nil=>simp
   |cons x l ih=>rw[RC,IS,ih,OF,Rk,Va];omega
theorem tU:∀{ls:List (List α)}{v:List α},v.length=ls.length->(∀i (h:i<v.length) (d:i<ls.length),v[i]∈ls[i])->v∈pV ls
 |[],v,hl,_=>by have:v=[]:=TV.1 hl;subst this;simp[pV]
 |l::ls,[],hl,_=>by simp at hl
 | l::ls,x::v,hl,h=>by
   rw[pV,RN];have q:=h 0 Vj Vj;refine⟨x,by simpa using q,By.2 ⟨v,tU (by simpa using hl) λi h1 d=>?_,O⟩⟩;have:=h (i+1) (by simpa using h1) (by simpa using d);simpa using this
def wV(S:Sch)(T:List (List Rw))(r a:Int):List ByteArray:=(gK T r).map λx=>x.v.getD ((cY S r).idxOf a) ⟨#[]⟩
structure OccL(S:Sch)(T:List (List Rw))(R:List Int)(a:Int)(L:List ByteArray):Prop where
 nd:L.Nodup
 mem:∀x,x∈L↔(∃r∈R,a∈cY S r)/\∀r∈R,a∈cY S r->x∈wV S T r a
def Bnd(S:Sch)(P:List Int)(T:List (List Rw))(v:Int)(b:Nat):Prop:=
 (∃Ls:List (List ByteArray),Ls.length=(cE S P v).length/\(∀i (h:i<(cE S P v).length) (h2:i<Ls.length),OccL S T (iS S P P.length v) (cE S P v)[i] Ls[i])/\b=bL (Ls.map List.length))\/
 ∃Rs:List Int,(∀r∈Rs,r∈iS S P P.length v)/\(∀a∈cE S P v,∃r∈Rs,a∈cY S r)/\b=bL (Rs.map λr=>(gK T r).length)
theorem Ol{V:List ByteArray}(h:zR S T K V r)(l:i<K.length)(q:K[i]∈cY S r):V.getD i ⟨#[]⟩∈wV S T r K[i]:=by
 obtain⟨x,hx,h⟩:=h;refine By.2 ⟨x,hx,?_⟩;have d:=TS q;exact h i l _ d (List.getElem_idxOf d)
def H4(S:Sch):List Int->List Rw->Int->ByteArray
 |r::Rs,x::xs,a=>if a∈cY S r then x.v.getD ((cY S r).idxOf a) ⟨#[]⟩else H4 S Rs xs a
 |_,_,_=>⟨#[]⟩
theorem Hi{V:List ByteArray}:∀{Rs:List Int},(∀r∈Rs,zR S T K V r)->∃xs∈pV (Rs.map (gK T)),∀i (d:i<K.length),(∃r∈Rs,K[i]∈cY S r)->H4 S Rs xs K[i]=V.getD i ⟨#[]⟩
 |[],_=>⟨[],by simp[pV],λi d ⟨r,hr,_⟩=>absurd hr Vj⟩
 | r::Rs,h=>by
   obtain⟨xs,h1,h2⟩:=Hi (Rs:=Rs) λq hq=>h q (by simp[hq])
   obtain⟨x,hx,h3⟩:=h r Vj;refine⟨x::xs,?_,λi d hc=>?_⟩
   .rw[bP,pV,RN];exact⟨x,hx,By.2 ⟨xs,h1,O⟩⟩
   .rw[H4];split
    .rename_i hm;have l:=TS hm;exact h3 i d _ l (List.getElem_idxOf l)
    .rename_i hm;refine h2 i d ?_;obtain⟨q,hq,hqm⟩:=hc;rcases AS.1 hq with rfl|hq
     .exact absurd hqm hm
     .exact⟨q,hq,hqm⟩
theorem Ie{a b:List ByteArray}(d:a.length=b.length)(h:∀i,i<a.length->a.getD i ⟨#[]⟩=b.getD i ⟨#[]⟩):a=b:=by
 refine SO d λi h1 h2=>?_
 have:=h i h1;simpa[Rj,h1,h2]using this
theorem Kc(z:OrdOk S P)(E:Lz S T)(B:v<P.length)(G:Bnd S P T v b):(vwS S P T lf v).length<=b:=by
 have t:((vwS S P T lf v).map (·.v)).Nodup:=by
  rw[List.Nodup,SM];exact(yR (S:=S) (P:=P) (T:=T) (lf:=lf) (v:Int)).vnd
 have d:=λe he r hr=>Fs (lf:=lf) z E P.length v B e he r hr
 have l:=λe he=>sZ (S:=S) (P:=P) (T:=T) (lf:=lf) P.length (v:Int) e he
 rw[<-OF (f:=λe:En=>e.v)];rcases G with⟨Ls,h1,h2,rfl⟩|⟨Rs,h1,h2,rfl⟩
 .rw[<-nZ];refine gY t λw hw=>?_
  obtain⟨e,he,rfl⟩:=By.1 hw;have u:=l e he;refine tU Vf λi hi hi2=>?_
  have q:i<(cE S P v).length:=Vf;refine((h2 i q hi2).mem _).2 ⟨uR z B (au q),λr hr hm=>?_⟩;have:=Ol (d e he r hr) q hm;rw[Rj,Hj (by simpa using hi)]at this;exact this
 .have e1:bL (Rs.map λr=>(gK T r).length)=((pV (Rs.map (gK T))).map λxs=>(cE S P v).map (H4 S Rs xs)).length:=by
   rw[OF,nZ,Ta];rfl
  rw[e1];refine gY t λw hw=>?_
  obtain⟨e,he,rfl⟩:=By.1 hw;have u:=l e he;obtain⟨xs,hx,h3⟩:=Hi (K:=cE S P v) (V:=e.v) (Rs:=Rs) λr hr=>d e he r (h1 r hr)
  refine By.2 ⟨xs,hx,Ie (by rw[OF];exact u.symm) λi hi=>?_⟩;rw[OF]at hi;rw[<-h3 i hi (h2 _ (au hi))];simp[Rj,hi]
theorem JJ(t:v<P.length)(h:P[v]= -1):(vwS S P T lf v).length<=1:=by
 have d:((vwS S P T lf v).map (·.v)).Nodup:=by
  rw[List.Nodup,SM];exact(yR (S:=S) (P:=P) (T:=T) (lf:=lf) (v:Int)).vnd
 have q:cE S P v=[]:=by
  refine List.eq_nil_iff_forall_not_mem.2 λa ha=>?_
  have:=(kq.1 ha).1;rw[kK t h]at this;simp at this
 have:=gY (Q:=[[]]) d λw hw=>by
  obtain⟨e,he,rfl⟩:=By.1 hw;have l:=sZ (S:=S) (T:=T) (lf:=lf) P.length (v:Int) e he;rw[q]at l;have:e.v=[]:=TV.1 l;simp[this]
 simpa using this
end
end Vw
end
section
open Go.RowKit Mk Jn Mm Vw
namespace Vw
section
variable {K:Type}[DecidableEq K]
def ixM:List (K×Nat)->K->Option Nat
 |[],_=>Sl
 |e::l,k=>if e.1=k then Sh 0 else(ixM l k).map (· +1)
def upM:List (K×Nat)->K->Nat->List (K×Nat)
 |[],k,n=>[(k,n)]
 |e::l,k,n=>if e.1=k then(k,n)::l else e::upM l k n
def lkM:List (K×Nat)->K->Nat
 |[],_=>0
 |e::l,k=>if e.1=k then e.2 else lkM l k
theorem Lb(k:K)(n:Nat):∀l,upM l k n=match ixM l k with|some i=>l.set i (k,n)|none=>l++[(k,n)]
 |[]=>rfl
 | e::l=>by
   rw[upM,ixM];by_cases h:e.1=k
   .rw[AT h,AT h];rfl
   .rw[dt h,dt h,Lb k n l];cases ixM l k<;>rfl
theorem kfM{f:K->PV}(hf:∀a b,keq (f a) (f b)=Sh (decide (b=a)))(k:K):∀(l:List (K×Nat))(i:Nat),b8 (f k) (l.map λe=>f e.1) i=Sh ((ixM l k).map (i+ ·))
 |[],i=>rfl
 | e::l,i=>by
   show(match keq (f k) (f e.1)with|some Sm=>Sh (Sh i)|some S1=>b8 (f k) (l.map λe:K×Nat=>f e.1) (i+1)|none=>Sl)=_;rw[hf,ixM];by_cases h:e.1=k
   .rw[Ru h,AT h];rfl
   .rw[Rv h,dt h];show b8 _ _ (i+1)=_;rw[kfM hf k l (i+1)];cases ixM l k with
    |none=>rfl
    |some j=>simp;omega
theorem PM{f:K->PV}(d:∀a b,keq (f a) (f b)=Sh (decide (b=a)))(k:K)(l:List (K×Nat)):b8 (f k) (l.map λe=>f e.1) 0=Sh (ixM l k):=by
 rw[kfM d];cases ixM l k<;>simp
theorem Ey{k:K}:∀{l:List (K×Nat)},k∉l.map (·.1)->lkM l k=0
 |[],_=>rfl
 | x::l,h=>by
   simp only[bP,AS,not_or]at h;rw[lkM,dt λe=>h.1 e.symm,Ey h.2]
theorem Qy{f:K->PV}(B:∀a b,keq (f a) (f b)=Sh (decide (b=a)))(g:K×Nat->PV)(z:PV)(k:K)(l:List (K×Nat)):∃r,gy (f k) (l.map λe=>f e.1) (l.map g)=Sh r/\(k∈l.map (·.1)->r.getD z=g (k,lkM l k))/\(k∉l.map (·.1)->r.getD z=z):=by
 unfold gy;rw[PM B];have q:∀l:List (K×Nat),(k∈l.map (·.1)->∃i,∃h:i<l.length,ixM l k=Sh i/\l[i]=(k,lkM l k))/\(k∉l.map (·.1)->ixM l k=Sl):=λl=>by
  induction l with
  |nil=>exact⟨λh=>absurd h Vj,λ_=>rfl⟩
  | cons e l ih=>
    rw[ixM,lkM];by_cases h:e.1=k
    .rw[AT h,AT h];exact⟨λ_=>⟨0,Vj,O,by simp[<-h]⟩,λd=>absurd (by simp[h]) d⟩
    .rw[dt h,dt h];constructor
     .intro hm;have t:k∈l.map (·.1):=by
       rw[bP,AS]at hm;exact hm.resolve_left λu=>h u.symm
      obtain⟨i,hi,h1,d⟩:=ih.1 t;exact⟨i+1,by simpa using hi,by rw[h1];rfl,by simpa using d⟩
     .intro hm;rw[ih.2 λd=>hm (by rw[bP,AS];exact .inr d)];rfl
 by_cases hm:k∈l.map (·.1)
 .obtain⟨i,hi,h1,d⟩:=(q l).1 hm;rw[h1];exact⟨Sh (g l[i]),by simp[hi],λ_=>by rw[d];rfl,λh=>absurd hm h⟩
 .rw[(q l).2 hm];exact⟨Sl,O,λh=>absurd h hm,λ_=>rfl⟩
theorem lookN{f:K->PV}(d:∀a b,keq (f a) (f b)=Sh (decide (b=a)))(k:K)(l:List (K×Nat)):∃r,gy (f k) (l.map λe=>f e.1) (l.map λe=>PV.int .i64 (e.2:Int))=Sh r/\r.getD (.int .i64 0)= .int .i64 ((lkM l k:Nat):Int):=by
 obtain⟨r,h1,h2,h3⟩:=Qy d (λe=>PV.int .i64 (e.2:Int)) (.int .i64 0) k l;refine⟨r,h1,?_⟩;by_cases hm:k∈l.map (·.1)
 .exact h2 hm
 .rw[h3 hm,Ey hm];rfl
theorem putM{f:K->PV}(d:∀a b,keq (f a) (f b)=Sh (decide (b=a)))(g:K×Nat->PV)(l:List (K×Nat))(k:K)(n:Nat):kN (f k) (l.map λe=>f e.1)=(upM l k n).map (λe=>f e.1)/\jS (f k) (g (k,n)) (l.map λe=>f e.1) (l.map g)=(upM l k n).map g:=by
 unfold kN jS;rw[PM d,Lb];cases ixM l k with
 |none=>simp
 |some i=>simp[SH]
theorem kG(k k':K)(n:Nat):∀l:List (K×Nat),k'∈(upM l k n).map (·.1)↔k'=k\/k'∈l.map (·.1)
 |[]=>by simp[upM]
 | e::l=>by
   rw[upM];by_cases h:e.1=k
   .rw[AT h];simp[h]
   .rw[dt h,bP,AS,kG k k' n l,bP,AS];constructor
    .rintro(h|h|h)
     .exact .inr (.inl h)
     .exact .inl h
     .exact .inr (.inr h)
    .rintro(h|h|h)
     .exact .inr (.inl h)
     .exact .inl h
     .exact .inr (.inr h)
theorem zK(k:K)(n:Nat):∀{l:List (K×Nat)},(l.map (·.1)).Nodup->((upM l k n).map (·.1)).Nodup
 |[],_=>by simp[upM]
 | e::l,h=>by
   rw[bP,Sx]at h;rw[upM];by_cases hk:e.1=k
   .rw[AT hk,bP,Sx];exact⟨by rw[<-hk];exact h.1,h.2⟩
   .rw[dt hk,bP,Sx];exact⟨λd=>((kG k e.1 n l).1 d).elim hk h.1,zK k n h.2⟩
theorem Ht(k k':K)(n:Nat):∀l:List (K×Nat),lkM (upM l k n) k'=if k'=k then n else lkM l k'
 | []=>by
   show(if k=k' then n else 0)=if k'=k then n else 0
   by_cases h:k'=k
   .rw[AT h,AT h.symm]
   .rw[dt h,dt λe=>h e.symm]
 | e::l=>by
   rw[upM];by_cases h:e.1=k
   .rw[AT h,lkM,lkM];by_cases h2:k'=k
    .rw[AT h2,AT h2.symm]
    .rw[dt h2,dt λe=>h2 e.symm,dt λd=>h2 (d.symm.trans h)]
   .rw[dt h,lkM,lkM,Ht k k' n l];by_cases h2:e.1=k'
    .rw[AT h2,AT h2,dt λd=>h (h2.trans d)]
    .rw[dt h2,dt h2]
theorem wD:∀{l:List (K×Nat)},(l.map (·.1)).Nodup->∀{e:K×Nat},e∈l->lkM l e.1=e.2
 |[],_,_,he=>absurd he Vj
 | x::l,h,e,he=>by
   rw[bP,Sx]at h;rw[lkM];rcases AS.1 he with rfl|he
   .rw[AT O]
   .rw[dt λd=>h.1 (by rw[d];exact By.2 ⟨e,he,O⟩),wD h.2 he]
theorem Qk{f:K->PV}(d:∀a b,keq (f a) (f b)=Sh (decide (b=a))){l:List (K×Nat)}(h:(l.map (·.1)).Nodup):sX (l.map λe=>f e.1):=by
 unfold sX;rw[SM];rw[List.Nodup,SM]at h;exact h.imp fun{a b} h=>by rw[d,Rv λe=>h e.symm]
end
theorem keqI(a b:Int):keq (.int .i64 a) (.int .i64 b)=Sh (decide (b=a)):=by
 show Sh (a==b)=_
 congr 1
 rw[RJ,Rt,S0];exact⟨λh=>h.symm,λh=>h.symm⟩
end Vw
def gvB(b:Bool)(id sz n:Nat):V:=bif b then .gsl id sz n else .osl id sz n
def goB(b:Bool)(T:TypeId)(cs:List PV):Ob:=bif b then .gro T cs else .cells T cs
section
variable {C:Ctx}{n:Nat}{σ:St}{dst:Option Tmp}{ty:TypeId}{pos:String}{after:Array Edge}{gd:Option (Nat×Bool)}{ts:Array TypeId}
theorem JS{xs:Array Operand}{args:List V}{K:St->Prop}{L:Nat}{T:TypeId}{cs:List PV}(base:Nat)(hc:cu C.P f)(q:FnO C.P f 0 1 args [] (λv ob'=>∃b,v=gvB b 0 1 L/\ob'=ax [(0,goB b T cs)]))(d:xs.toList.map (σ.ev n)=V.renL (dV [] base) args)
  (t:V.allL (okR 0 0) args=Sm) (l:(nwO base 1).all σ.av=Sm)
  (u:∀b,K (σ.app dst ⟨gvB b base 1 L,[(base,Sh (goB b T cs))],[base]⟩)):
  OJ C n ⟨dst,.call { callee:= .value (.func f),args:=xs,argTypes:=ts },ty,pos,after,gd⟩ K σ:=
 bM (os:=[]) [] base hc d t O O trivial List.nodup_nil l q (by
  rintro _ _ ⟨b,rfl,rfl⟩;have:=u b;cases b<;>exact this)
end
theorem uY(l:List Int)(q:l.length<=1000000):FnO prog 181 0 1 [.pv (aj l)] [] (λv ob'=>∃b,v=gvB b 0 1 l.length/\ob'=ax [(0,goB b 3 (aE l))]):=by
 refine FnO.of func181 O ntmps181 Vj λm0 w0 F R0=>?_
 refine Z1 O<|Z1 O<|RL.call O (eP underlying22 O ?_);intro b hb;refine Gc O (λd=>?_) (λd=>?_)
 .have hl0:l=[]:=TN.1 (hb d);subst hl0;exact Z1 O<|Q4 (Ra 2 1 1 3 O O)<|Gt O<|⟨[(2,.gsl 0 1 0)],[(0,.gro 3 [])],[.gsl 0 1 0],Q6 [1] (aT O) (aP O) O O Vh O,O,O,O,Sm,O,O⟩
 .refine Q3<|Gr O<|Rs O (cz 0 tm O)<|A1 O<|Rs O (dB 1 tm O O O (.inl ⟨Sl,O⟩) Vj (λc hc=>by obtain⟨y,_,rfl⟩:=By.1 hc;rfl) Vf O) ?_;exact A1 O<|Gt O<|⟨[(2,.osl 0 1 l.length)],[(0,.cells 3 (aE l))],[.osl 0 1 l.length],Q6 [1] ⟨RI (b:=V.osl 1 1 (0+l.length)) O (by rw[RV];rfl),Vm⟩ ⟨RI (b:=Sh (Ob.cells 3 ([]++aE l))) O (by rw[Sr];rfl),Vm⟩ O O Vh O,O,O,O,S1,O,O⟩

theorem zC{f:Int->List Int}{l:List Int}(h:k<l.length):(l.take (k+1)).flatMap f=(l.take k).flatMap f++f l[k]:=by
 rw[AI h,Sc];simp
theorem AJ(a b:List Int):a.length+b.length=(a++b).length:=IS.symm
theorem Aa(a b:List Int):aE a++aE b=aE (a++b):=(RG).symm
theorem qo(D:VD)(v:Nat)(HS CS:List Int)(B:v<D.hos.length)(l:v<D.chs.length)(W:D.hos[v]=HS)(Y:D.chs[v]=CS)(ab:HS.length<=1000)(ac:CS.length<=1000)(f:Int->List Int)(H:∀c∈CS,0<(f c).length/\(f c).length<=1000)
  (Z:∀c∈CS,FnP prog 93 [tx D,.int .i64 c] (· =aj (f c))):FnP prog 93 [tx D,.int .i64 v] (· =aj (HS++CS.flatMap f)):=by
 refine FnP.fg2 (FnP.of func93 O ntmps93 Vj λm0 w0 F R0=>?_);have E:=dx B;have J:=dz B;have q:=dx l;have G:=dz l;rw[W]at E;rw[Y]at q;have M:=uY HS Vf;refine Z2 O<|Z3 O<|Rs O (ae v underlying95 nv O O O B J)<|Rs O (aq ⟨_,underlying22,O⟩ O E)<|RL.call O (JS 1 call181 M O O O ?_);intro b;refine Rs O (qN (v:=gvB b 1 1 HS.length) O) ?_;by_cases hb:b=Sm
 .subst hb;refine Z3 O<|Rs O (ae v underlying95 nv O O O l G)<|Rs O (aq ⟨_,underlying22,O⟩ O q)<|Y2 O<|Gl O (st:=λVn:Nat×List Int=>mkS [(2,.ptr 0 0),(5,.gsl 1 1 Vn.2.length),(18,.pv (aj CS)),(19,pIi CS.length),(20,pIi Vn.1)] [(0,.mix 97 [.pv (aW D.chs),.pv (aW D.kes),.pv (aW D.hos),.pv (aj D.wa)]),(1,.gro 3 (aE Vn.2))] 2)
   (I:=λVn=>(Vn.1<=CS.length/\Vn.2.length<=1000+1000*Vn.1)/\Vn.2=HS++(CS.take Vn.1).flatMap f) (μ:=λVn=>CS.length-Vn.1) (x0:=(0,HS)) (Q5 (aS O) (aO Vg) O O) (⟨⟨cd _,Vl⟩,Vj⟩) ?_
  rintro⟨k,L⟩ ⟨⟨hk,hLl⟩,hL⟩;try simp only at hk hLl hL ⊢
  refine Z1 O<|Gp O (λd=>?_) (λd=>?_)
  .have hlt:k<CS.length:=Vf;have t:=Z _ (au hlt);obtain⟨hf0,hf1⟩:=H _ (au hlt);have u:(aE CS)[k*1]? =Sh (.int .i64 CS[k]):=by simp[hlt]
   have U:=aD hlt;have z:=zC (f:=f) hlt;generalize CS[k]=c at*;refine Q3<|Z1 O<|Rs O (aq ⟨_,underlying3,O⟩ O u)<|A1 O<|Z3 O<|Rs O (aa call93 t O)<|Rs O (rh 2 tm O O Vj (.inl ⟨Sl,O⟩) Vj (λc hc=>by obtain⟨y,_,rfl⟩:=By.1 hc;rfl) Vf hf0 O) ?_;exact A1 O<|Z2 O<|⟨(k+1,L++f c),Q6 [0,2] ⟨O,ag (λn=>V.gsl 2 1 n) (AJ L (f c)),O,O,O,Vm⟩ ⟨Vg,RI (b:=Sh (.gro 3 (aE L++aE (f c)))) Vg (ag (λc=>Sh (Ob.gro 3 c)) (Aa L (f c))),Vm⟩ O O Vh O,⟨⟨Vl,by simp only[IS];omega⟩,by simp only;rw[z,hL,TC]⟩,Vl⟩
  .have hLe:L=HS++CS.flatMap f:=by rw[hL,aQ Vf]
   exact Gx O<|Q4 (Q8 1 O O)<|Z2 O<|Gt O<|⟨_,_,O,O,show PV.sl Sl L.length (aE L)=_ by rw[hLe]⟩
 .have hb:=Tq hb;subst hb;refine Z3 O<|Rs O (ae v underlying95 nv O O O l G)<|Rs O (aq ⟨_,underlying22,O⟩ O q)<|Y2 O<|Gl O (st:=λVn:Nat×List Int=>mkS [(2,.ptr 0 0),(5,.osl 1 1 Vn.2.length),(18,.pv (aj CS)),(19,pIi CS.length),(20,pIi Vn.1)] [(0,.mix 97 [.pv (aW D.chs),.pv (aW D.kes),.pv (aW D.hos),.pv (aj D.wa)]),(1,.cells 3 (aE Vn.2))] 2)
   (I:=λVn=>(Vn.1<=CS.length/\Vn.2.length<=1000+1000*Vn.1)/\Vn.2=HS++(CS.take Vn.1).flatMap f) (μ:=λVn=>CS.length-Vn.1) (x0:=(0,HS)) (Q5 (aS O) (aO Vg) O O) (⟨⟨cd _,Vl⟩,Vj⟩) ?_
  rintro⟨k,L⟩ ⟨⟨hk,hLl⟩,hL⟩;try simp only at hk hLl hL ⊢
  refine Z1 O<|Gp O (λd=>?_) (λd=>?_)
  .have hlt:k<CS.length:=Vf;have t:=Z _ (au hlt);obtain⟨hf0,hf1⟩:=H _ (au hlt);have u:(aE CS)[k*1]? =Sh (.int .i64 CS[k]):=by simp[hlt]
   have U:=aD hlt;have z:=zC (f:=f) hlt;generalize CS[k]=c at*;refine Q3<|Z1 O<|Rs O (aq ⟨_,underlying3,O⟩ O u)<|A1 O<|Z3 O<|Rs O (aa call93 t O)<|Rs O (dB 2 tm O O Vj (.inl ⟨Sl,O⟩) Vj (λc hc=>by obtain⟨y,_,rfl⟩:=By.1 hc;rfl) Vf O) ?_;exact A1 O<|Z2 O<|⟨(k+1,L++f c),Q6 [0,2] ⟨O,ag (λn=>V.osl 2 1 n) (AJ L (f c)),O,O,O,Vm⟩ ⟨Vg,RI (b:=Sh (.cells 3 (aE L++aE (f c)))) Vg (ag (λc=>Sh (Ob.cells 3 c)) (Aa L (f c))),Vm⟩ O O Vh O,⟨⟨Vl,by simp only[IS];omega⟩,by simp only;rw[z,hL,TC]⟩,Vl⟩
  .have hLe:L=HS++CS.flatMap f:=by rw[hL,aQ Vf]
   exact Gx O<|Q4 (Q8 1 O O)<|Z2 O<|Gt O<|⟨_,_,O,O,show PV.sl Sl L.length (aE L)=_ by rw[hLe]⟩
namespace Vw
section
variable {S:Sch}{P:List Int}
theorem Et(d:UpOk P)(l:v<P.length):iS S P P.length v=hoL S P v++(aB P v).flatMap (iS S P P.length):=by
 rw[eC,NP d l,Tr.vs,eD,RC,T0,List.flatMap_assoc];rw[show iS S P P.length=λc=>(ct P P.length c).vs.flatMap (hoL S P)from funext (eC _)]
theorem LI(d:UpOk P)(l:v<P.length):(iS S P P.length v).length<=S.rels.length:=by
 rw[eC];exact x3 (mq d l).1
theorem Mo{v:Int}(h:r∈iS S P k v):∃i:Nat,i<S.rels.length/\r=(i:Int):=by
 rw[eC,RN]at h;obtain⟨u,_,h⟩:=h;obtain⟨i,hi,e,_⟩:=rU.1 h;exact⟨i,hi,e⟩
theorem QV(l:OrdOk S P)(t:v<P.length):0<(iS S P P.length v).length:=by
 obtain⟨r,hr,hm⟩:=l.val.use v (by have:=l.len;omega);obtain⟨k,hk,e⟩:=Sp hr;have d:∀a∈r.2,0<=a/\a<P.length:=by rw[l.len];exact l.val.rng r hr
 obtain⟨g1,g2⟩:=mY l.iw (l.val.ne r hr) d (l.rt r hr);obtain⟨u,hu⟩:=Rm (d _ g1).1;have q:u<P.length:=by have:=(d _ g1).2;omega
 have g3:=g2 _ hm;rw[hu]at g3;refine List.length_pos_of_mem (a:=(k:Int)) ?_;rw[eC,RN];exact⟨(u:Int),C6 l.iw t q (g3.imp Eq.symm id),rU.2 ⟨k,hk,O,by rw[e];exact hu⟩⟩
end
end Vw
theorem Bj(u:OrdOk S P)(B:P.length<=1000)(z:S.rels.length<=1000):∀(k v:Nat),v<P.length->P.length<=k+1+(cq P v).length->FnP prog 93 [tx (bg S P),.int .i64 v] (· =aj (iS S P P.length v)):=by
 have d:=u.iw;have l:∀v:Int,(aB P v).length<=1000:=λv=>by
  have t:=Te (λa=>P.getD a.toNat 0==v) (upZ P.length);rw[a6]at t;show(List.filter _ _).length<=_;omega
 have q:∀v:Int,(hoL S P v).length<=1000:=λv=>by
  have t:=Te (λa=>(S.rels.map λr=>jL P r.2).getD a 0==v) (List.range S.rels.length);rw[List.length_range]at t;show(List.map _ (List.filter _ _)).length<=_;rw[OF];omega
 intro k;induction k with
 | zero=>
   intro v hv h;rw[Et d hv];refine qo (bg S P) v _ _ _ _ (Nl hv) (Ms hv) (q _) (l _) _ (λc hc=>?_) λc hc=>?_
   .rw[iY d hv Vf]at hc;simp at hc
   .rw[iY d hv Vf]at hc;simp at hc
 | succ k ih=>
   intro v hv h;rw[Et d hv];refine qo (bg S P) v _ _ _ _ (Nl hv) (Ms hv) (q _) (l _) _ (λc hc=>?_) λc hc=>?_
   .obtain⟨m,hm,rfl,_⟩:=aZ.1 hc;exact⟨QV u hm,IT (LI d hm) z⟩
   .obtain⟨m,hm,rfl,hp⟩:=aZ.1 hc;have e:=cK d hm hv hp;exact ih m hm (by rw[e,Rk];omega)
end
section
open Go.RowKit Mk Jn Mm Vw Classical
namespace Vw
abbrev BN:=List (ByteArray×Nat)
abbrev kyB(C:BN):List PV:=C.map λe=>PV.str e.1
abbrev nuB(C:BN):List PV:=C.map λe=>PV.int .i64 (e.2:Int)
abbrev trB(C:BN):List PV:=C.map λ_=>PV.bool Sm
def tn(S:Sch)(R:List Int)(a:Int):List Int:=R.filter λr=>decide (a∈cY S r)
structure CntB(S:Sch)(T:List (List Rw))(a:Int)(Q:List Int)(C:BN):Prop where
 nd:(C.map (·.1)).Nodup
 n:∀x,lkM C x=Q.countP λr=>decide (x∈wV S T r a)
 k:∀x,x∈C.map (·.1)↔0<lkM C x
theorem CntB.nil{T:List (List Rw)}:CntB S T a [] []:=⟨List.nodup_nil,λ_=>rfl,λx=>by simp[lkM]⟩
structure SetB(l:List ByteArray)(H:BN):Prop where
 nd:(H.map (·.1)).Nodup
 k:∀x,x∈H.map (·.1)↔x∈l
theorem SetB.nil:SetB [] []:=⟨List.nodup_nil,λ_=>Iff.rfl⟩
theorem SetB.step{l:List ByteArray}{H:BN}(h:SetB l H)(x:ByteArray):SetB (l++[x]) (upM H x 0):=
 ⟨zK x 0 h.nd,λy=>by rw[kG,h.k,Rx,Rn,or_comm]⟩
structure AddB(H C0 todo C:BN):Prop where
 nd:(C.map (·.1)).Nodup
 k:∀x,x∈C.map (·.1)↔0<lkM C x
 td:(todo.map (·.1)).Nodup
 sub:∀x,x∈todo.map (·.1)->x∈H.map (·.1)
 n:∀x,lkM C x=lkM C0 x+(if x∈H.map (·.1)/\x∉todo.map (·.1)then 1 else 0)
theorem AddB.start{T:List (List Rw)}{H C:BN}{l:List ByteArray}(q:SetB l H)(d:CntB S T a Q C):AddB H C H C:=
 ⟨d.nd,d.k,q.nd,λ_ h=>h,λx=>by rw[dt λh=>h.2 h.1];rfl⟩
theorem AddB.step{H C0 l1 l2 C:BN}{e:ByteArray×Nat}(h:AddB H C0 (l1++e::l2) C):AddB H C0 (l1++l2) (upM C e.1 (lkM C e.1+1)):=by
 have l:=h.td;have u:((l1++e::l2).map (·.1)).Perm (e.1::(l1++l2).map (·.1)):=by
  have:(l1++e::l2).Perm (e::(l1++l2)):=Uq;exact this.map _
 have d:=Sx.1 (u.nodup_iff.1 l);have q:∀x,x∈(l1++e::l2).map (·.1)↔x=e.1\/x∈(l1++l2).map (·.1):=λx=>by rw[u.mem_iff,AS]
 refine⟨zK _ _ h.nd,λx=>?_,d.2,λx hx=>h.sub x ((q x).2 (.inr hx)),λx=>?_⟩
 .rw[kG,Ht];by_cases hx:x=e.1
  .rw[AT hx];exact⟨λ_=>Nat.succ_pos _,λ_=> .inl hx⟩
  .rw[dt hx,<-h.k];exact⟨λh=>h.resolve_left hx,.inr⟩
 .rw[Ht];have t:=h.n x;by_cases hx:x=e.1
  .subst hx;have z:e.1∈(l1++e::l2).map (·.1):=(q _).2 (.inl O);rw[dt λh=>h.2 z]at t;rw[AT O,AT ⟨h.sub _ z,d.1⟩,t]
  .rw[dt hx,t]
   congr 1
   simp only[q,hx,false_or]
theorem AddB.end{T:List (List Rw)}{H C0 C:BN}(d:SetB (wV S T r a) H)(l:CntB S T a Q C0)(h:AddB H C0 [] C):CntB S T a (Q++[r]) C:=
 ⟨h.nd,λx=>by
  rw[h.n,l.n,List.countP_append]
  congr 1
  by_cases hx:x∈wV S T r a
  .rw[AT ⟨(d.k x).2 hx,Vj⟩];simp[hx]
  .rw[dt λh=>hx ((d.k x).1 h.1)];simp[hx],h.k⟩
def LB(all:Nat)(C todo:BN)(n:Nat):Prop:=n+todo.countP (λe=>decide (e.2=all))=C.countP λe=>decide (e.2=all)
theorem LB.step{all:Nat}{C l1 l2:BN}{e:ByteArray×Nat}{n:Nat}(h:LB all C (l1++e::l2) n):LB all C (l1++l2) (if e.2=all then n+1 else n):=by
 unfold LB at*;rw[List.countP_append,List.countP_cons]at h;rw[List.countP_append];by_cases he:e.2=all
 .rw[AT he];simp only[he,decide_true,UP]at h;omega
 .rw[dt he];simp only[he,decide_false,Sz,Up]at h;omega
theorem LB.bd{all:Nat}{C todo:BN}(h:LB all C todo n):n<=C.length:=by
 unfold LB at h;have:=List.countP_le_length (p:=λe:ByteArray×Nat=>decide (e.2=all)) (l:=C);omega
theorem CntB.occ{T:List (List Rw)}{C:BN}(h:CntB S T a (tn S R a) C):OccL S T R a ((C.filter λe=>decide (e.2=(tn S R a).length)).map (·.1)):=by
 refine⟨(SZ.map _).nodup h.nd,λx=>?_⟩;have l:x∈(C.filter λe=>decide (e.2=(tn S R a).length)).map (·.1)↔x∈C.map (·.1)/\lkM C x=(tn S R a).length:=by
  rw[By];constructor
  .rintro⟨e,he,rfl⟩;obtain⟨h1,h2⟩:=Sj.1 he;exact⟨By.2 ⟨e,h1,O⟩,by rw[wD h.nd h1];simpa using h2⟩
  .rintro⟨h1,h2⟩;obtain⟨e,he,rfl⟩:=By.1 h1;rw[wD h.nd he]at h2;exact⟨e,Sj.2 ⟨he,by simpa using h2⟩,O⟩
 rw[l,h.k,h.n,List.countP_eq_length];have d:∀r,r∈tn S R a↔r∈R/\a∈cY S r:=λr=>by unfold tn;rw[Sj,Rt]
 constructor
 .rintro⟨h1,h2⟩;rw[List.countP_pos_iff]at h1;obtain⟨r,hr,_⟩:=h1;exact⟨⟨r,(d r).1 hr⟩,λr hr ha=>by simpa using h2 r ((d r).2 ⟨hr,ha⟩)⟩
 .rintro⟨⟨r,hr,ha⟩,h2⟩;refine⟨List.countP_pos_iff.2 ⟨r,(d r).2 ⟨hr,ha⟩,by simpa using h2 r hr ha⟩,λr hr=>?_⟩;have:=(d r).1 hr;simpa using h2 r this.1 this.2
theorem Cm{T:List (List Rw)}{M:List ByteArray}(d:OccL S T R a L)(l:OccL S T R a M):L.length=M.length:=
 Nat.le_antisymm (gY d.nd λx hx=>(l.mem x).2 ((d.mem x).1 hx)) (gY l.nd λx hx=>(d.mem x).2 ((l.mem x).1 hx))
noncomputable def occN(S:Sch)(T:List (List Rw))(R:List Int)(a:Int):Nat:=if h:∃L,OccL S T R a L then h.choose.length else 0
theorem Hx{T:List (List Rw)}(h:OccL S T R a L):occN S T R a=L.length:=by
 unfold occN;rw[dif_pos ⟨L,h⟩];exact Cm (Exists.choose_spec _) h
theorem H7(h:j<R.length):tn S (R.take (j+1)) a=if a∈cY S R[j]then tn S (R.take j) a++[R[j]]else tn S (R.take j) a:=by
 unfold tn;rw[AI h,TY];by_cases hm:a∈cY S R[j]<;>simp[hm]
theorem CntB.len{T:List (List Rw)}{C:BN}(h:CntB S T a Q C)(l:∀r,(gK T r).length<=1000):C.length<=Q.length*1000:=by
 have d:=gY (Q:=Q.flatMap λr=>wV S T r a) h.nd λx hx=>by
  have:=(h.k x).1 hx;rw[h.n,List.countP_pos_iff]at this;obtain⟨r,hr,h2⟩:=this;exact RN.2 ⟨r,hr,by simpa using h2⟩
 rw[OF]at d;refine IT d ?_;clear h d;induction Q with
 |nil=>simp
 | cons r Q ih=>
   rw[RC,IS,Rk,Va];have:=l r;have e:(wV S T r a).length=(gK T r).length:=by simp[wV]
   omega
theorem CntB.le{T:List (List Rw)}{C:BN}(h:CntB S T a Q C)(x:ByteArray):lkM C x<=Q.length:=by rw[h.n];exact List.countP_le_length
theorem AddB.le{T:List (List Rw)}{H C todo D:BN}(d:CntB S T a Q C)(h:AddB H C todo D)(x:ByteArray):lkM D x<=Q.length+1:=by
 rw[h.n];have:=d.le x;split<;>omega
theorem Lu:(tn S R a).length<=R.length:=Te _ _
end Vw
theorem Iz{T:List (List Rw)}(hT:Lz S T)(hTn:T.length=S.rels.length)(am:∀l∈T,l.length<=1000)(hA:∀r∈S.rels,r.2.length<=1000)(R:List Int)(hR:∀r∈R,∃k:Nat,k<S.rels.length/\r=(k:Int))(hRl:R.length<=1000)(a:Int)(hra:S.rels.length<=1000)(haa:S.attrs.length<=1000):
  FnP prog 96 [eS S,dbP T,aj R,.int .i64 a] (λv=>∃C,CntB S T a (tn S R a) C/\v= .int .i64 (C.countP (λe=>decide (e.2=(tn S R a).length)):Nat)):=by
 refine FnP.of func96 O ntmps96 Vj λm0 w0 F R0=>?_
 have an:=fun(x:ByteArray)(l:BN)=>lookN jY x l
 have ao:=fun(x:ByteArray)(l:BN)(n:Nat)=>putM jY (λe:ByteArray×Nat=>PV.int .i64 (e.2:Int)) l x n
 have ap:=fun(x:ByteArray)(l:BN)=>putM jY (λ_:ByteArray×Nat=>PV.bool Sm) l x 0
 refine Z2 O<|Gr O<|Rs O (cL 1 O)<|Y2 O<|Z3 O<|Gl O (st:=λVn:Nat×BN×Nat=>mkS [(1,.pv (dbP T)),(3,pIi a),(4,.ptr 0 0),(9,.map 1),(10,pIi Vn.2.2),(22,.pv (aj R)),(23,pIi R.length),(24,pIi Vn.1)] [(0,oZ S),(1,.mp (kyB Vn.2.1) (nuB Vn.2.1))] 2)
  (I:=λVn=>(Vn.1<=R.length/\Vn.2.2=(tn S (R.take Vn.1) a).length)/\CntB S T a (tn S (R.take Vn.1) a) Vn.2.1) (μ:=λVn=>R.length-Vn.1) (x0:=(0,[],0)) (Q5 (aS O) (aO Vg) O O) (⟨⟨cd _,O⟩,CntB.nil⟩) ?_
 rintro⟨j,C,all⟩ ⟨⟨hj,hall⟩,hC⟩;try simp only at hj hall hC ⊢
 refine Z1 O<|Gp O (λak=>?_) (λak=>?_)
 .have hlt:j<R.length:=Vf;obtain⟨r,hr,hre⟩:=hR _ (au hlt);have M:r<T.length:=Vf;have ar:(aE R)[j*1]? =Sh (.int .i64 (r:Int)):=by rw[<-hre];simp[hlt]
  have hpn:=aD hlt;have Y:=gF hr;have Z:(aM S.rels)[r*2+1]? =Sh (aj S.rels[r].2):=by
   have h2:(((aM S.rels).drop (r*2)).take 2)[1]? =[PV.str S.rels[r].1,aj S.rels[r].2][1]? :=by rw[dK hr]
   simpa[Ry,Sq]using h2
  have hta:=xl M;have htn:=lJ M;have hlT:=am _ (au M);have hAl:=hA _ (au hr);have B:=H7 (S:=S) (a:=a) hlt;rw[hre]at B;have eA:cY S (r:Int)=S.rels[r].2:=by simp[cY,List.getD,hr]
  have eT:gK T (r:Int)=T[r]:=by simp[gK,List.getD,M]
  have ac:=hT (r:Int);obtain⟨col,hcol⟩:∃col,col=wV S T (r:Int) a:=⟨_,O⟩;have t:col=T[r].map λx=>x.v.getD (S.rels[r].2.idxOf a) ⟨#[]⟩:=by rw[hcol];unfold wV;rw[eA,eT]
  have ab:=fun(H C0 D:BN)(h1:SetB (wV S T (r:Int) a) H)(h2:CntB S T a (tn S (R.take j) a) C0)(h3:AddB H C0 [] D)=>AddB.end h1 h2 h3
  rw[<-hcol]at ab;rw[eA]at ac B;rw[eT]at ac;clear hcol;generalize S.rels[r].2=A at*;generalize T[r]=l at*;have hqj:(tn S (R.take j) a).length<=1000:=IT Lu (by rw[Rr];omega);refine Q3<|Z1 O<|Rs O (aq ⟨_,underlying3,O⟩ O ar)<|A1 O ?_;by_cases hm:a∈A
  .have hidx:=FY A a Vf hm;have hix:=TS hm;rw[AT hm]at B;obtain⟨ix,hixe⟩:∃ix,ix=A.idxOf a:=⟨_,O⟩;rw[<-hixe]at hidx hix t;refine Z3 O<|Rs O (ae r underlying27 E6 O O O hr Y)<|A1 O<|Rs O (aq ⟨_,underlying22,O⟩ O Z)<|A1 O<|Rs O (aa call185 hidx O)<|A1 O<|Z2 O<|Gp O (λE=>absurd E Vf) (λE=>?_);refine Q3<|Z3 O<|Gr O<|Rs O (cL 2 O)<|A1 O<|Z2 O<|Rs O (ae r underlying33 Pf O O O M htn)<|Rs O (aq ⟨_,underlying38,O⟩ O hta)<|Y2 O<|Gl O (st:=λu:Nat×BN=>mkS [(1,.pv (dbP T)),(3,pIi a),(4,.ptr 0 0),(9,.map 1),(10,pIi (all+1)),(13,pIi (ix:Int)),(14,.map 2),(22,.pv (aj R)),(23,pIi R.length),(24,pIi j),(44,.pv (mH l)),(45,pIi l.length),(46,pIi u.1)] [(0,oZ S),(1,.mp (kyB C) (nuB C)),(2,.mp (kyB u.2) (trB u.2))] 3)
    (I:=λu=>u.1<=l.length/\SetB (col.take u.1) u.2) (μ:=λu=>l.length-u.1) (x0:=(0,[])) (Q5 (aS O) (aO Vg) O O) (⟨cd _,SetB.nil⟩) ?_
   rintro⟨i,H⟩ ⟨hi,hH⟩;try simp only at hi hH ⊢
   refine Z1 O<|Gp O (λal=>?_) (λal=>?_)
   .have hli:i<l.length:=Vf;have af:=dY hli;have hrn:a8 l≠[]:=λe=>by have:=bK l;rw[e]at this;simp at this;omega
    have hxv:=ac _ (au hli);have ag:col.take (i+1)=col.take i++[l[i].v.getD ix ⟨#[]⟩]:=by rw[AI (by rw[t,OF];exact hli)];simp[t]
    generalize l[i]=x at*;have V:ix<x.v.length:=Vf;have hsv:=bE V;have hse:=bA V;have hge:x.v.getD ix ⟨#[]⟩=x.v[ix]:=by simp[List.getD,V]
    rw[hge]at ag;generalize x.v[ix]=y at*;have ad:=PM jY y H;obtain⟨hpk,hpw⟩:=ap y H;exact Q3<|Gr O<|Rs O (ae i underlying38 Kh O O O hli hrn)<|Rs O (aU ⟨_,underlying41,O⟩ Kh O af O)<|Y2 O<|Z4 O<|Rs O (ae ix underlying39 sz9 O O O V hse)<|Rs O (aq ⟨_,underlying9,O⟩ O hsv)<|RL.step (d:=Sl) O O (cH underlying306 underlying9 O O O O O ad hpk hpw)<|Z2 O<|⟨(i+1,upM H y 0),Q5 (aS O) (aO Vg) O O,⟨hli,by simp only;rw[ag];exact hH.step y⟩,Vl⟩
   .have hHc:SetB col H:=by rw[aQ (by rw[t,OF];omega)]at hH;exact hH
    refine Gx O<|Q4 (St.cw (ks:=kyB H) (vs:=trB H) 2 O Vj (RY _))<|Z1 O<|Rs O (fq 3 underlying306 O O)<|Gl O (st:=λq:BN×BN×List PV=>mkS [(1,.pv (dbP T)),(3,pIi a),(4,.ptr 0 0),(9,.map 1),(10,pIi (all+1)),(22,.pv (aj R)),(23,pIi R.length),(24,pIi j),(58,.ptr 3 0)] [(0,oZ S),(1,.mp (kyB q.2.1) (nuB q.2.1)),(3,.mi q.2.2 (kyB q.1) (trB q.1))] 4)
     (I:=λq=>AddB H C q.1 q.2.1) (μ:=λq=>q.1.length) (x0:=(H,C,[])) (Q5 (aS O) (aO Vg) O O) (AddB.start hHc hC) ?_
    rintro⟨todo,D,cur⟩ hI;try simp only at hI ⊢
    refine Gr O<|RL.call O (im O O ?_);rintro b rest cur2 ks2 vs2 hN;refine Rs O (cG O O)<|Gc O (λG=>?_) (λG=>?_)
    .obtain⟨_,l1,e,l2,rfl,rfl,rfl,rfl,rfl⟩:=(gI.of (f:=λe:ByteArray×Nat=>PV.str e.1) (g:=λ_:ByteArray×Nat=>PV.bool Sm) hN).resolve_left (by rintro⟨h,_⟩;rw[h]at G;cases G);obtain⟨r1,hl1,hl3⟩:=an e.1 D;have hle:=hI.le hC e.1;have ad:=PM jY e.1 D;obtain⟨hpk,hpw⟩:=ao e.1 D (lkM D e.1+1);exact Q3<|Gr O<|Rs O (fo O O)<|Y2 O<|Z2 O<|Rs O (gM underlying304 underlying9 (.inl ⟨1,O,O⟩) O O zero3 O hl1 hl3)<|A1 O<|RL.step (d:=Sl) O O (cH underlying304 underlying9 O O O O O ad hpk hpw)<|⟨(l1++l2,upM D e.1 (lkM D e.1+1),[.str e.1,.bool Sm]),Q5 (aS O) (aO Vg) O O,hI.step,Vj⟩
    .obtain⟨_,rfl,_⟩:=(gI.of (f:=λe:ByteArray×Nat=>PV.str e.1) (g:=λ_:ByteArray×Nat=>PV.bool Sm) hN).resolve_right (by rintro⟨h,_⟩;rw[h]at G;cases G);have hCe:=ab H C D hHc hC hI;exact Gx O<|Z2 O<|⟨(j+1,D,all+1),Q5 (aS O) (aO Vg) O O,⟨⟨Vl,by simp only;rw[B,hall,IS];rfl⟩,by simp only;rw[B];exact hCe⟩,Vl⟩
  .have hidx:FnP prog 185 [aj A,.int .i64 a] (λv=>∃i:Int,v= .int .i64 i/\i<0):=(zS A a Vf).mono λv ⟨i,e,h,_⟩=>⟨i,e,by have:=mt h.1 hm;omega⟩
   rw[dt hm]at B;refine Z3 O<|Rs O (ae r underlying27 E6 O O O hr Y)<|A1 O<|Rs O (aq ⟨_,underlying22,O⟩ O Z)<|A1 O<|RL.call O (eW call185 hidx O ?_);rintro _ ⟨i,rfl,hi0⟩;refine A1 O<|Z2 O<|Gp O (λE=>?_) (λE=>absurd E (λh=>h Vf));exact Gx O<|Z2 O<|⟨(j+1,C,all),Q5 (aS O) (aO Vg) O O,⟨⟨Vl,by simp only;rw[B];exact hall⟩,by simp only;rw[B];exact hC⟩,Vl⟩
 .have hje:R.take j=R:=aQ Vf;rw[hje]at hall hC;have hCl:=hC.len λr=>by unfold gK;rw[Rj];cases hg:T[r.toNat]? with|none=>exact cd _|some l=>exact am l (SC hg)
  have hqj:(tn S R a).length<=1000:=IT Lu hRl;refine Gx O<|Z1 O<|Q4 (St.cw (ks:=kyB C) (vs:=nuB C) 1 O Vj (RY _))<|Z1 O<|Rs O (fq 2 underlying304 O O)<|Gl O (st:=λz:BN×Nat×List PV=>mkS [(10,pIi all),(18,pIi z.2.1),(69,.ptr 2 0)] [(2,.mi z.2.2 (kyB z.1) (nuB z.1))] 3)
   (I:=λz=>LB all C z.1 z.2.1) (μ:=λz=>z.1.length) (x0:=(C,0,[])) (Q5 (aS O) (aO Vg) O O) (RV _) ?_
  rintro⟨todo,nn,cur⟩ hI;try simp only at hI ⊢
  refine Gr O<|RL.call O (im O O ?_);rintro b rest cur2 ks2 vs2 hN;refine Rs O (cG O O)<|Gc O (λJ=>?_) (λJ=>?_)
  .obtain⟨_,l1,e,l2,rfl,rfl,rfl,rfl,rfl⟩:=(gI.of (f:=λe:ByteArray×Nat=>PV.str e.1) (g:=λe:ByteArray×Nat=>PV.int .i64 (e.2:Int)) hN).resolve_left (by rintro⟨h,_⟩;rw[h]at J;cases J);have W:=hI.step;have hnb:=hI.bd;refine Q3<|Gr O<|Rs O (fo O O)<|Y2 O<|Z3 O<|Gc O (λU=>?_) (λU=>?_)
   .have he:e.2=all:=by have:=qX U;omega
    rw[AT he]at W;exact Z3 O<|⟨(l1++l2,nn+1,[.str e.1,.int .i64 e.2]),Q5 (aS O) (aO Vg) O O,W,Vj⟩
   .have he:¬e.2=all:=by have:=lM U;omega
    rw[dt he]at W;exact Q3<|⟨(l1++l2,nn,[.str e.1,.int .i64 e.2]),Q5 (aS O) (aO Vg) O O,W,Vj⟩
  .obtain⟨_,rfl,_⟩:=(gI.of (f:=λe:ByteArray×Nat=>PV.str e.1) (g:=λe:ByteArray×Nat=>PV.int .i64 (e.2:Int)) hN).resolve_right (by rintro⟨h,_⟩;rw[h]at J;cases J);have hnn:nn=C.countP λe=>decide (e.2=(tn S R a).length):=by rw[<-hall];exact hI
   exact Gx O<|Z2 O<|Gt O<|⟨_,_,O,O,C,hC,by rw[<-hnn];rfl⟩
theorem QO{T:List (List Rw)}(B:Lz S T)(d:T.length=S.rels.length)(q:∀l∈T,l.length<=1000)(E:∀r∈S.rels,r.2.length<=1000)(R:List Int)(G:∀r∈R,∃k:Nat,k<S.rels.length/\r=(k:Int))(t:R.length<=1000)(a:Int)(u:S.rels.length<=1000)(z:S.attrs.length<=1000):
  FnP prog 96 [eS S,dbP T,aj R,.int .i64 a] (· = .int .i64 (occN S T R a:Nat)):=
 (Iz B d q E R G t a u z).mono λv ⟨C,hC,e⟩=>by
  rw[e,Hx hC.occ,OF,List.countP_eq_length_filter]
end
section
open Go.RowKit Mk Jn Mm Vw
namespace Vw
abbrev IN:=List (Int×Nat)
abbrev kyI(H:IN):List PV:=H.map λe=>PV.int .i64 e.1
abbrev trI(H:IN):List PV:=H.map λ_=>PV.bool Sm
def tlN(T:List (List Rw))(r:Int):Nat:=(gK T r).length
def xk(R:List Int)(s i:Nat):List Int:=((List.range i).filter λj=>s.testBit j).map λj=>R.getD j 0
theorem ER(h:i<R.length):xk R s (i+1)=if s.testBit i=Sm then xk R s i++[R[i]]else xk R s i:=by
 unfold xk;rw[UJ,TY,RG];by_cases hb:s.testBit i=Sm
 .rw[AT hb];simp[hb,h]
 .rw[dt hb];simp[hb]
theorem IP(h:i<=R.length):∀r∈xk R s i,r∈R:=λr hr=>by
 obtain⟨j,hj,rfl⟩:=By.1 hr;have:=Si.1 (Sj.1 hj).1;have d:j<R.length:=Vf;simp[List.getD,d]
theorem IV:∀r∈R,r∈xk R (2^R.length-1) R.length:=λr hr=>by
 obtain⟨j,hj,rfl⟩:=Sp hr;refine By.2 ⟨j,Sj.2 ⟨Si.2 hj,?_⟩,by simp[List.getD,hj]⟩;rw[Nat.testBit_two_pow_sub_one];exact Ru hj
theorem AH:(xk R s i).length<=i:=by
 unfold xk;rw[OF];have:=Te (λj=>s.testBit j) (List.range i);rwa [List.length_range]at this
def Cov(S:Sch)(K Rs:List Int):Prop:=∀a∈K,∃r∈Rs,a∈cY S r
def CovQ(S:Sch)(T:List (List Rw))(R K:List Int)(s:Nat)(fd:Bool)(q:PV):Prop:=
 (fd=Sm/\∃c,c<=216000/\q=bF c/\∃Rs:List Int,(∀r∈Rs,r∈R)/\Cov S K Rs/\c=bL (Rs.map (tlN T)))\/(fd=S1/\∀s'<s,¬Cov S K (xk R s' R.length))
structure SetI(S:Sch)(Q:List Int)(more:List Int)(H:IN):Prop where
 nd:(H.map (·.1)).Nodup
 k:∀a,a∈H.map (·.1)↔(∃r∈Q,a∈cY S r)\/a∈more
theorem SetI.nil:SetI S [] [] []:=⟨List.nodup_nil,λa=>by simp⟩
theorem SetI.step{S:Sch}{Q m:List Int}{H:IN}(h:SetI S Q m H)(a:Int):SetI S Q (m++[a]) (upM H a 0):=
 ⟨zK a 0 h.nd,λy=>by rw[kG,h.k,Rx,Rn];constructor<;>rintro(h|h|h)<;>simp_all⟩
theorem SetI.rel{H:IN}(h:SetI S Q (cY S r) H):SetI S (Q++[r]) [] H:=
 ⟨h.nd,λa=>by
  rw[h.k];simp only[Rx,Rn,Sn,T7];constructor
  .rintro(⟨q,hq,ha⟩|ha)
   .exact⟨q,.inl hq,ha⟩
   .exact⟨r,.inr O,ha⟩
  .rintro⟨q,hq|rfl,ha⟩
   .exact .inl ⟨q,hq,ha⟩
   .exact .inr ha⟩
theorem SetI.any{H:IN}(h:SetI S Q [] H):(K.any λa=> !decide (a∈H.map (·.1)))=Sm↔¬Cov S K Q:=by
 unfold Cov;rw[SR];have l:∀a,a∈H.map (·.1)↔∃r∈Q,a∈cY S r:=λa=>by rw[h.k];simp
 constructor
 .rintro⟨a,ha,d⟩ hc;have:=(l a).2 (hc a ha);rw[Ru this]at d;cases d
 .intro hc;refine RZ λd=>hc λa ha=>(l a).1 ?_
  refine RZ λq=>d ⟨a,ha,by rw[Rv q];rfl⟩
theorem Nn:∀(s:Fin 8)(i:Fin 3),IntKind.i64.wrap (BitVec.ofInt IntKind.i64.bits (((s.1:Nat):Int).fdiv (2^(min (((i.1:Nat):Int)).toNat IntKind.i64.bits)))&&&BitVec.ofInt IntKind.i64.bits 1).toNat=if s.1.testBit i.1=Sm then 1 else 0:=by decide+kernel
theorem OI:∀n:Fin 4,IntKind.i64.wrap (1*2^(min (((n.1:Nat):Int)).toNat IntKind.i64.bits))=((2^n.1:Nat):Int):=by decide+kernel
theorem Hp{T:List (List Rw)}(d:∀r,tlN T r<=60){Rs:List Int}(h:Rs.length<=3):bL (Rs.map (tlN T))<=216000:=
 IT (jx (M:=60) (j:=3) Vh (λa ha=>by obtain⟨r,_,rfl⟩:=By.1 ha;exact d r) (by rw[OF];exact h)) Vh
end Vw
abbrev nmP(n:Nat):PV:= .agg [.bool S1,bF n]
theorem xp(n:Nat):dR (n:Int)=nmP n:=by
 show PV.agg [.bool (decide ((n:Int)<0)),bF (n:Int).natAbs]=_;rw[Rv Vf,R4]
theorem yt(n:Nat)(h:n<=9223372036854775807):FnP prog 94 [.int .i64 n] (· =nmP n):=by
 rw[<-xp];exact jr n Vf Vf
theorem llen(h:n<1000000000):(ai n).length<=1:=bj.2 Vf
theorem GR{a:Nat}(d:a<1000000000)(l:b<1000000000):FnP prog 95 [nmP a,nmP b] (· =nmP (a*b)):=by
 have h:=dO (a:Int) (b:Int) (by rw[R4];have:=llen d;omega) (by rw[R4];have:=llen l;omega);rw[<-TZ,xp,xp,xp]at h;exact h
theorem Gz{a:Nat}(d:a<1000000000)(l:b<1000000000):FnP prog 98 [nmP a,nmP b] (· = .int .i64 ((a:Int)-b).sign):=by
 have h:=eU (a:Int) (b:Int) (by rw[R4];have:=llen d;omega) (by rw[R4];have:=llen l;omega);rw[xp,xp]at h;exact h
theorem GK(H:IN)(q:(H.map (·.1)).Nodup)(a:Int):FnP prog 187 [.int .i64 a,.rp [.mp (kyI H) (trI H)] 0] (· = .bool (!decide (a∈H.map (·.1)))):=by
 refine FnP.of func187 O ntmps187 Vj λm0 w0 F R0=>?_
 have l:=Qk keqI q;obtain⟨r,hl1,hl2,hl4⟩:=Qy keqI (λ_:Int×Nat=>PV.bool Sm) (.bool S1) a H;have d:r.getD (.bool S1)= .bool (decide (a∈H.map (·.1))):=by
  by_cases h:a∈H.map (·.1)
  .rw[hl2 h,Ru h]
  .rw[hl4 h,Rv h]
 refine Z1 O<|Gr O ?_;first|refine A1 O ?_|refine A2 O Vi ?_
 exact A1 O<|Rs O (gM underlying307 underlying3 (.inr (.inl ⟨O,l⟩)) O O zero4 O hl1 d)<|Y2 O<|Gt O<|⟨_,_,O,O,O⟩
theorem vI{T:List (List Rw)}(hTn:T.length=S.rels.length)(ar:∀l∈T,l.length<=60)(hA:∀r∈S.rels,r.2.length<=1000)(R K:List Int)(hR:∀r∈R,∃k:Nat,k<S.rels.length/\r=(k:Int))(hRl:R.length<=3)(hKl:K.length<=1000)(hra:S.rels.length<=1000)(haa:S.attrs.length<=1000)(ax:Cov S K R):
  FnP prog 97 [eS S,dbP T,aj R,aj K] (λv=>∃c,c<=216000/\v=nmP c/\∃Rs:List Int,(∀r∈Rs,r∈R)/\Cov S K Rs/\c=bL (Rs.map (tlN T))):=by
 refine FnP.ofC func97 O ntmps97 Vj λm0 w0 F R0=>?_
 have ab:=yt 1 Vh;have ay:=fun(x:Int)(l:IN)=>putM keqI (λ_:Int×Nat=>PV.bool Sm) l x 0
 have ac:∀r,tlN T r<=60:=λr=>by
  unfold tlN gK;rw[Rj];cases hg:T[r.toNat]? with
  |none=>exact cd _
  |some l=>exact ar l (SC hg)
 obtain⟨N,hN⟩:∃N,N=2^R.length:=⟨_,O⟩;have hN8:N<=8:=by rw[hN];exact IT (S6 Vh hRl) Vh
 have hN1:1<=N:=by rw[hN];exact Nat.one_le_two_pow
 have ad:=OI ⟨R.length,Vf⟩;rw[<-hN]at ad;refine Z2 O<|Z1 O<|Z1 O<|Z2 O<|Rs O (XJ.cast (v':= pIi (N:Int)) (Lf O O Vf) (ag (λz=>pIi z) ad))<|A1 O<|Gl O (st:=λVn:Nat×Bool×PV=>mkS [(1,.pv (dbP T)),(2,.pv (aj R)),(3,.pv (aj K)),(4,.ptr 0 0),(8,.ptr 1 0),(9,.ptr 2 0),(10,.pv (.bool Vn.2.1)),(20,pIi (N:Int)),(21,pIi Vn.1)] [(0,oZ S),(1,.mix 114 [.pv (.bool S1),.pv nS]),(2,.mix 114 [.pv (.bool S1),.pv Vn.2.2])] 3)
  (I:=λVn=>Vn.1<=N/\CovQ S T R K Vn.1 Vn.2.1 Vn.2.2) (μ:=λVn=>N-Vn.1) (x0:=(0,S1,.sl (Sh Sm) 0 [])) (Q5 (aS O) (aO Vg) O O) (⟨cd _,.inr ⟨O,λs' h=>absurd h (Tu _)⟩⟩) ?_
 rintro⟨s,fd,q⟩ ⟨hs,hQ⟩;try simp only at hs hQ ⊢
 refine Z1 O<|Gp O (λan=>?_) (λan=>?_)
 .have hlt:s<N:=Vf;have aA:s<8:=Vf;refine Q3<|Z2 O<|Gr O<|Rs O (aa call94 ab O)<|Rs O (cL 3 O) ?_;iterate 4 refine A1 O ?_
  refine Z3 O<|Gl O (st:=λt:Nat×Nat×IN=>mkS [(1,.pv (dbP T)),(2,.pv (aj R)),(3,.pv (aj K)),(4,.ptr 0 0),(8,.ptr 1 0),(9,.ptr 2 0),(10,.pv (.bool fd)),(11,pIi s),(12,.ptr 4 0),(13,.ptr 5 0),(20,pIi (N:Int)),(21,pIi s),(26,.pv (aj R)),(27,pIi R.length),(28,pIi t.1)] [(0,oZ S),(1,.mix 114 [.pv (.bool S1),.pv nS]),(2,.mix 114 [.pv (.bool S1),.pv q]),(3,.mp (kyI t.2.2) (trI t.2.2)),(4,.mix 114 [.pv (.bool S1),.pv (bF t.2.1)]),(5,.mix 307 [.map 3])] 6)
   (I:=λt=>(t.1<=R.length/\t.2.1=bL ((xk R s t.1).map (tlN T)))/\SetI S (xk R s t.1) [] t.2.2) (μ:=λt=>R.length-t.1) (x0:=(0,1,[])) (Q5 (aS O) (aO Vg) O O) (⟨⟨cd _,O⟩,SetI.nil⟩) ?_
  rintro⟨i,p,H⟩ ⟨⟨hi,hp⟩,hH⟩;try simp only at hi hp hH ⊢
  refine Z1 O<|Gp O (λao=>?_) (λao=>?_)
  .have hli:i<R.length:=Vf;obtain⟨r,hr,hre⟩:=hR _ (au hli);have U:r<T.length:=Vf;have aB:(aE R)[i*1]? =Sh (.int .i64 (r:Int)):=by rw[<-hre];simp[hli]
   have hpn:=aD hli;have af:=gF hr;have ak:(aM S.rels)[r*2+1]? =Sh (aj S.rels[r].2):=by
    have h2:(((aM S.rels).drop (r*2)).take 2)[1]? =[PV.str S.rels[r].1,aj S.rels[r].2][1]? :=by rw[dK hr]
    simpa[Ry,Sq]using h2
   have hta:=xl U;have htn:=lJ U;have hlT:=ar _ (au U);have hAl:=hA _ (au hr);have J:=ER (s:=s) hli;rw[hre]at J;have Z:p<=216000:=by rw[hp];exact Hp ac (by have:=AH (R:=R) (s:=s) (i:=i);omega)
   have eA:cY S (r:Int)=S.rels[r].2:=by simp[cY,List.getD,hr]
   have eT:tlN T (r:Int)=T[r].length:=by simp[tlN,gK,List.getD,U]
   have al:=fun(Q:List Int)(H2:IN)(h:SetI S Q (cY S (r:Int)) H2)=>SetI.rel h
   rw[eA]at al;have V:=Nn ⟨s,aA⟩ ⟨i,Vf⟩;simp only at V;clear eA;generalize S.rels[r].2=A at*;generalize T[r]=l at*;have hof:=yt l.length Vf;have hmu:=GR (a:=p) (b:=l.length) Vf Vf;refine Q3<|Z2 O<|Rs O (aq ⟨_,underlying3,O⟩ O aB)<|Y2 O ?_;by_cases hb:s.testBit i=Sm
   .rw[AT hb]at V J;refine Z2 O<|Rs O (C1 O O Vf)<|Rs O (XJ.cast (v':= pIi 1) (aC O O O) (ag (λz=>pIi z) V))<|A1 O<|Gc O (λE=>?_) (λE=>absurd E Vj);refine RW 9 O ?_;iterate 3 refine D1 O ?_
    refine Ds [] O (λτ h=>ae r underlying33 Pf (Ee h 0 O O) (Ee h 1 O O) O U htn) O Vg<|Ds [] O (λτ h=>aq ⟨_,underlying38,O⟩ (Ee h 0 O O) hta) O Vg<|D1 O<|Ds [] O (λτ h=>aa call94 hof (h.aK O)) O Vg<|Ds [] O (λτ h=>aa call95 hmu (h.aK O)) O Vg<|D1 O ?_;refine⟨Vg,?_⟩;refine Z3 O<|Rs O (ae r underlying27 E6 O O O hr af)<|A1 O<|Rs O (aq ⟨_,underlying22,O⟩ O ak)<|Y2 O<|Gl O (st:=λB:Nat×IN=>mkS [(1,.pv (dbP T)),(2,.pv (aj R)),(3,.pv (aj K)),(4,.ptr 0 0),(8,.ptr 1 0),(9,.ptr 2 0),(10,.pv (.bool fd)),(11,pIi s),(12,.ptr 4 0),(13,.ptr 5 0),(20,pIi (N:Int)),(21,pIi s),(26,.pv (aj R)),(27,pIi R.length),(28,pIi i),(51,.pv (aj A)),(52,pIi A.length),(53,pIi B.1)] [(0,oZ S),(1,.mix 114 [.pv (.bool S1),.pv nS]),(2,.mix 114 [.pv (.bool S1),.pv q]),(3,.mp (kyI B.2) (trI B.2)),(4,.mix 114 [.pv (.bool S1),.pv (bF (p*l.length))]),(5,.mix 307 [.map 3])] 6)
     (I:=λB=>B.1<=A.length/\SetI S (xk R s i) (A.take B.1) B.2) (μ:=λB=>A.length-B.1) (x0:=(0,H)) (Q5 (aS O) (aO Vg) O O) (⟨cd _,hH⟩) ?_
    rintro⟨k,G⟩ ⟨hk,hG⟩;try simp only at hk hG ⊢
    refine Z1 O<|Gp O (λap=>?_) (λap=>?_)
    .have hlk:k<A.length:=Vf;have hqv:(aE A)[k*1]? =Sh (.int .i64 A[k]):=by simp[hlk]
     have hqn:=aD hlk;have hts:A.take (k+1)=A.take k++[A[k]]:=AI hlk;generalize A[k]=y at*;have hkf:=PM keqI y G;obtain⟨hpk,hpw⟩:=ay y G;exact Q3<|Z1 O<|Rs O (aq ⟨_,underlying3,O⟩ O hqv)<|A1 O<|Z2 O<|RL.step (d:=Sl) O O (cH underlying307 underlying3 O O O O O hkf hpk hpw)<|Z2 O<|⟨(k+1,upM G y 0),Q5 (aS O) (aO Vg) O O,⟨hlk,by simp only;rw[hts];exact hG.step y⟩,Vl⟩
    .have hGe:SetI S (xk R s i++[(r:Int)]) [] G:=al _ _ (by rw[aQ Vf]at hG;exact hG);exact Gx O<|Z2 O<|⟨(i+1,p*l.length,G),Q5 (aS O) (aO Vg) O O,⟨⟨Vl,by simp only;rw[J,RG,cF,<-hp];simp[bL,eT]⟩,by simp only;rw[J];exact hGe⟩,Vl⟩
   .rw[dt hb]at V J;refine Z2 O<|Rs O (C1 O O Vf)<|Rs O (XJ.cast (v':= pIi 0) (aC O O O) (ag (λz=>pIi z) V))<|A1 O<|Gc O (λE=>absurd E Vj) (λE=>?_);exact Q3<|Z2 O<|⟨(i+1,p,H),Q5 (aS O) (aO Vg) O O,⟨⟨Vl,by simp only;rw[J];exact hp⟩,by simp only;rw[J];exact hH⟩,Vl⟩
  .have hie:i=R.length:=Vf;rw[hie]at hp hH;have Z:p<=216000:=by rw[hp];exact Hp ac (by have:=AH (R:=R) (s:=s) (i:=R.length);omega)
   have W:=hH.any (K:=K);have M:=p7 K 187 [.rp [.mp (kyI H) (trI H)] 0] (λa:Int=> !decide (a∈H.map λe:Int×Nat=>e.1)) Vf call187 (λa _=>GK H hH.nd a);have Y:Cov S K (xk R s R.length)->∃Rs:List Int,(∀r∈Rs,r∈R)/\Cov S K Rs/\p=bL (Rs.map (tlN T)):=λh=>⟨_,IP (BY _),h,hp⟩
   refine Gx O ?_;by_cases hcv:Cov S K (xk R s R.length)
   .by_cases hfd:fd=Sm
    .have hce:(K.any λa=> !decide (a∈H.map (·.1)))=S1:=Tq λe=>W.1 e hcv
     rw[hce]at M;subst hfd;obtain⟨c,hc1,rfl,hc3⟩:=(hQ.resolve_right (by rintro⟨h,_⟩;cases h)).2;have hcm:=Gz (a:=p) (b:=c) Vf Vf;refine Q4 (St.cw (ks:=kyI H) (vs:=trI H) 3 O Vj (RY _))<|Q4 (St.fG 5 O O)<|Z2 O<|Rs O (aa call186 M O) ?_;iterate 7 refine A1 O ?_
     refine Rg O (aa call98 hcm O)<|Y3 O<|Gc O (λu=>?_) (λu=>?_)
     .exact Z3 O<|Z2 O<|⟨(s+1,Sm,bF p),Q5 (aS O) (aO Vg) O O,⟨hlt,.inl ⟨O,p,Z,O,Y hcv⟩⟩,Vl⟩
     .exact Q3<|Z2 O<|⟨(s+1,Sm,bF c),Q5 (aS O) (aO Vg) O O,⟨hlt,.inl ⟨O,c,hc1,O,hc3⟩⟩,Vl⟩
    .have hce:(K.any λa=> !decide (a∈H.map (·.1)))=S1:=Tq λe=>W.1 e hcv
     rw[hce]at M;have hf0:=Tq hfd;subst hf0;refine Q4 (St.cw (ks:=kyI H) (vs:=trI H) 3 O Vj (RY _))<|Q4 (St.fG 5 O O)<|Z2 O<|Rs O (aa call186 M O) ?_;iterate 11 refine A1 O ?_
     refine Gc O (λu=>?_) (λu=>absurd u Vj);exact Z3 O<|Z2 O<|⟨(s+1,Sm,bF p),Q5 (aS O) (aO Vg) O O,⟨hlt,.inl ⟨O,p,Z,O,Y hcv⟩⟩,Vl⟩
   .have hce:(K.any λa=> !decide (a∈H.map (·.1)))=Sm:=W.2 hcv;rw[hce]at M;refine Q4 (St.cw (ks:=kyI H) (vs:=trI H) 3 O Vj (RY _))<|Q4 (St.fG 5 O O)<|Z2 O<|Rs O (aa call186 M O) ?_;iterate 11 refine A1 O ?_
    refine Gc O (λu=>absurd u Vj) (λu=>?_);exact Q3<|Z2 O<|⟨(s+1,fd,q),Q5 (aS O) (aO Vg) O O,⟨hlt,hQ.imp id λh=>⟨h.1,λs' hs'=>by rcases SP.1 hs' with h2|rfl;exact h.2 s' h2;exact hcv⟩⟩,Vl⟩
 .have hse:s=N:=Vf;have am:fd=Sm/\∃c,c<=216000/\q=bF c/\∃Rs:List Int,(∀r∈Rs,r∈R)/\Cov S K Rs/\c=bL (Rs.map (tlN T)):=hQ.resolve_right λh=>h.2 (N-1) Vf λa ha=>by obtain⟨r,hr,h⟩:=ax a ha;exact⟨r,by rw[hN];exact IV r hr,h⟩
  obtain⟨_,c,hc1,rfl,hc3⟩:=am;exact Gx O<|Z2 O<|Gt O<|⟨_,_,O,O,⟨az ⟨_,underlying114,O⟩ iV O O O,Vm⟩,c,hc1,O,hc3⟩
end
end Go.Proofs.YtoplpepiabedhaaGreatDoor
