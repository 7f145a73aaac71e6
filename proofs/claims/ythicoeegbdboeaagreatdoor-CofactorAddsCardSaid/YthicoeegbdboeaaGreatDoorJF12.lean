/- Lemmas. No condition. -/
import Derived.Lib.Join
import Derived.Test.YthicoeegbdboeaaGreatDoorJF11
set_option maxRecDepth 100000
set_option maxHeartbeats 4000000
open Go.RowKit Go.Proofs.Tryz
open Option renaming some→WB,none→WC
open Bool renaming true→YK,false→YL
namespace Go.Proofs.YthicoeegbdboeaaGreatDoor
variable{k v r n B x m b a y i c p t u:Nat}{P l L:cP}{J:JD}{E:Int->cP}{β:Type}{Hs q:ee}{neg:Bool}{e:List UInt8}
section
open Mk Jn
set_option autoImplicit false
section
variable {R:Type}(Z:SR R)(g:Int->vb->R)
def fw(J:JD)(P:cP)(v:Int)(σ:vb):R:=Jn.val Z (cA (RJ J) sdS) g (bG P P.length v) σ
def fk(J:JD)(P:cP)(cs:cP)(σ:vb):R:=valL Z (cA (RJ J) sdS) g (cs.map (bG P P.length)) σ
theorem Pt(J:JD)(P:cP)(σ:vb):fk Z g J P [] σ=Z.one:=by unfold fk;rw[Wd,valL]
theorem zt(J:JD)(P cs ds:cP)(σ:vb):fk Z g J P (cs++ds) σ=Z.mul (fk Z g J P cs σ) (fk Z g J P ds σ):=by unfold fk;rw[Wf,BV]
theorem UX(J:JD)(P:cP)(c:Int)(σ:vb):fk Z g J P [c] σ=fw Z g J P c σ:=by unfold fk fw;rw[ed,Wd,valL,valL,Z.mul_comm,Z.one_mul]
theorem Lr(J:JD)(P:cP){cs:cP}(σ:vb)(h:k<cs.length):fk Z g J P (cs.take (k+1)) σ=Z.mul (fk Z g J P (cs.take k) σ) (fw Z g J P cs[k] σ):=by rw[AI h,zt,UX]
theorem Ry(J:JD)(P:cP)(cs:cP)(σ:vb)(z:R)(k:Nat)(h:Z.mul z (fk Z g J P (cs.take k) σ)=Z.zero):Z.mul z (fk Z g J P cs σ)=Z.zero:=by
 have e:fk Z g J P cs σ=Z.mul (fk Z g J P (cs.take k) σ) (fk Z g J P (cs.drop k) σ):=by rw[<-zt,WV]
 rw[e,<-Z.mul_assoc,h,Z.zero_mul]
theorem UM(J:JD)(j:UpOk P)(s:v<P.length)(σ:vb):fw Z g J P v σ=du Z ((cA (RJ J) sdS v σ).map λx=>Z.mul (g v (put σ v x)) (fk Z g J P (aB P v) (put σ v x))):=by unfold fw fk;rw[QX j s,Jn.val]
structure GEx(J:JD)(P:cP)(E:Int->cP):Prop where
 dep:∀w σ τ,(∀a∈E w,σ a=τ a)->g w σ=g w τ
 lk:∀w,∀a∈E w,∃r∈J.S.aU,w∈r.2/\a∈r.2
 up:∀w:Nat,w<P.length->∀a∈E w,a∈(w:Int)::bU P w
variable {g}
theorem UD(T:GEx g J P E)(h:OrdOk J.S P)(V:v<P.length){σ τ:vb}(W:At P v σ)(X:At P v τ)(Y:∀a∈iY J.S P v,σ a=τ a):fw Z g J P v σ=fw Z g J P v τ:=by
 have I:=h.jv;unfold fw;refine val_congr Z (cd:=cA (RJ J) sdS) (g:=g) (D:=dom (RJ J)) (E:=E) ⟨λw a b hab=>sq (RJ J) sdS w a b hab,T.dep⟩ _ _ _ λw hw=>?_
 obtain⟨m,hm,rfl,hvm⟩:=jl I _ v V w hw;have s:(m:Int)∈j0 P v:=fc.2 ⟨⟨m,hm,O⟩,by rcases By.1 hvm with e|e;exact .inl e.symm;exact .inr e⟩;have G:∀a,(∃r∈J.S.aU,(m:Int)∈r.2/\a∈r.2)->σ a=τ a:=by
  intro a ⟨r,hr,h1,h2⟩;have M:a∈j0 P v\/a∈iY J.S P v:=by
   obtain⟨b,hb⟩:=VG (h.val.rng r hr a h2).1;have H:b<P.length:=by have:=(h.val.rng r hr a h2).2;rw[h.len];omega
   subst hb;have j:(v:Int)∈(b:Int)::bU P b->(b:Int)∈j0 P v:=λU=>fc.2 ⟨⟨b,H,O⟩,by rcases By.1 U with e|e;exact .inl e.symm;exact .inr e⟩
   rcases oB (h.rt r hr) h1 h2 with e|e|e
   .have:m=b:=Zi;subst this;exact .inl s
   .refine .inl (j ?_);rcases By.1 hvm with e2|e2
    .have:v=m:=Zi;subst this;exact VX _ e
    exact VX _ (fL I H e2 e)
   rcases TR I m hm v b hvm (VX _ e)with e2|e2|e2
   .exact .inl (j (by rw[e2];simp))
   .exact .inr (sU.2 ⟨e2,m,s,BX hr h2 h1⟩)
   exact .inl (j (VX _ e2))
  rcases M with hk2|hk2
  .rw[W.no a hk2,X.no a hk2]
  exact Y a hk2
 exact⟨λa ha=>G a (Cc ha),λa ha=>G a (T.lk _ a ha)⟩
def BQ(g:Int->vb->R)(J:JD)(P:cP)(M:List (er×R)):Prop:=∀p∈M,∀(v:Nat)(σ:vb),v<P.length->At P v σ->ZfA σ->p.1.data.toList=L0 v (iY J.S P v) σ->p.2=fw Z g J P v σ
theorem N9(V:GEx g J P E)(h:OrdOk J.S P)(hl:P.length<=256){v':Nat}(W:v<P.length)(X:v'<P.length){σ τ:vb}(I:At P v σ)(M:At P v' τ)(Y:ZfA σ)(s:ZfA τ)(e:L0 v (iY J.S P v) σ=L0 v' (iY J.S P v') τ):fw Z g J P v σ=fw Z g J P v' τ:=by
 unfold L0 at e;rw[Xd]at e;have j:v=v':=by
  have:=ah UInt8.toNat e.1;rw[UInt8.toNat_ofNat',UInt8.toNat_ofNat']at this;omega
 subst j;refine UD Z V h W I M λa ha=>?_
 have G:=Dz (λa _=>Y.getD a) (λa _=>s.getD a) e.2 a ha;have H:=(sU.1 ha).1;have T:=I.up a H;have U:=M.up a H;obtain⟨x,hx⟩:=V4.1 T;obtain⟨y,hy⟩:=V4.1 U;rw[hx,hy]at G ⊢;exact ah WB G
theorem BQ.add(j:GEx g J P E)(h:OrdOk J.S P)(hl:P.length<=256){M:List (er×R)}(I:BQ Z g J P M)(s:v<P.length){σ:vb}(G:At P v σ)(H:ZfA σ):∀v' (τ:vb),v'<P.length->At P v' τ->ZfA τ->(zY v (iY J.S P v) σ).data.toList=L0 v' (iY J.S P v') τ->fw Z g J P v σ=fw Z g J P v' τ:=λv' τ hv' hτ hz' e=>N9 Z j h hl s hv' G hτ H hz' (by simpa[zY]using e)
theorem Sd(rep:R->PV){M:List (er×R)}(H:BQ Z g J P M)(I:v<P.length){σ:vb}(T:At P v σ)(U:ZfA σ):
  lP (.str (zY v (iY J.S P v) σ)) (M.map λp=> .str p.1) (M.map λp=>rep p.2)=WB (if ∃p∈M,p.1=zY v (iY J.S P v) σ then WB (rep (fw Z g J P v σ))else WC):=by
 obtain⟨⟨r,h1⟩,h2,h3⟩:=qt (zY v (iY J.S P v) σ) rep M 0;unfold lP;rw[h1];cases r with
 | none=>
   have:=h2 h1;rw[AS (fun⟨p,hp,e⟩=>this p hp e)]
 | some j=>
   obtain⟨_,w,h4⟩:=h3 j h1;simp only[Nat.sub_zero]at h4;have s:=W8 h4;rw[IT ⟨_,s,O⟩];have G:w=fw Z g J P v σ:=H _ s v σ I T U (by simp[zY]);simp[h4,G]
theorem Ul(rep:R->PV)(H:GEx g J P E)(h:OrdOk J.S P)(hl:P.length<=256){M:List (er×R)}(G:BQ Z g J P M)(I:v<P.length){σ:vb}(T:At P v σ)(U:ZfA σ):
  ∃M',BQ Z g J P M'/\pK (.str (zY v (iY J.S P v) σ)) (M.map λp=> .str p.1)=M'.map (λp=> .str p.1)/\pN (.str (zY v (iY J.S P v) σ)) (rep (fw Z g J P v σ)) (M.map λp=> .str p.1) (M.map λp=>rep p.2)=M'.map λp=>rep p.2:=by
 obtain⟨⟨r,h1⟩,_,_⟩:=qt (zY v (iY J.S P v) σ) rep M 0;unfold pK pN;rw[h1];have s:=BQ.add Z H h hl G I T U;cases r with
 | none=>
   refine⟨M++[(zY v (iY J.S P v) σ,fw Z g J P v σ)],λp hp=>?_,Zm,Zm⟩;rcases We.1 hp with h|h
   .exact G p h
   rw[VH.1 h];exact s
 | some j=>
   refine⟨M.set j (zY v (iY J.S P v) σ,fw Z g J P v σ),λp hp=>?_,by simp[Wp],by simp[Wp]⟩;rcases Xm hp with h|h
   .exact G p h
   rw[h];exact s
section
variable {J:JD}{P:cP}{E:Int->cP}(hg:GEx g J P E)(h:OrdOk J.S P)
include hg h
theorem qC{v:Int}(s:∀c∈aB P v,(bG P k c).Sep (dom (RJ J)) E):∀(l:cP),l.Nodup->(∀c∈l,c∈aB P v)->SepL (dom (RJ J)) E (l.map (bG P k))
 |[],_,_=>trivial
 | c::l,hn,hl=>by
   rw[WW]at hn;have hne:∀c'∈l,c≠c':=λc' hc' e=>hn.1 (by rw[e];exact hc')
   rw[ed,SepL,fF,YA];have one:∀{D:Int->cP},(∀w,∀a∈D w,∃r∈J.S.aU,w∈r.2/\a∈r.2)->∀w∈(bG P k c).vs,∀a∈D w,a∉l.flatMap λa=>(bG P k a).vs:=λhD w hw a ha ha2=>by
    obtain⟨c',hc',ha2⟩:=V6.1 ha2;exact zI h hD (hl c Zm) (hl c' (by simp[hc'])) (hne c' hc') w hw a ha ha2
   have j:∀{D:Int->cP},(∀w,∀a∈D w,∃r∈J.S.aU,w∈r.2/\a∈r.2)->∀w∈(l.flatMap λa=>(bG P k a).vs),∀a∈D w,a∉(bG P k c).vs:=λhD w hw a ha ha2=>by
    obtain⟨c',hc',hw⟩:=V6.1 hw;exact zI h hD (hl c' (by simp[hc'])) (hl c Zm) (λe=>hne c' hc' e.symm) w hw a ha ha2
   exact⟨s c (hl c Zm),qC s l hn.2 λx hx=>hl x (by simp[hx]),λw hw=>⟨one IG w hw,one hg.lk w hw⟩,λw hw=>⟨j IG w hw,j hg.lk w hw⟩⟩
theorem xQ:∀(k:Nat)(v:Nat),v<P.length->(bG P k v).Sep (dom (RJ J)) E
 |0,v,_=>by rw[bG,Tr.Sep];exact⟨λ_ _=>by simp[vsL],Zp⟩
 | k+1,v,hv=>by
   rw[bG,Tr.Sep];have hP:=h.jv;refine⟨λa ha hb=>?_,qC hg h (λc hc=>?_) _ (rM P v) λ_ hc=>hc⟩
   .rw[fF,YA]at hb;obtain⟨c,hc,hb⟩:=V6.1 hb;obtain⟨n,hn,rfl,hp⟩:=bz.1 hc;obtain⟨m,hm,rfl,hu⟩:=jl hP k n hn a hb;have j:(v:Int)∈bU P m:=by
     have e:=dE hP hn hv hp;rcases By.1 hu with e2|e2
     .have:n=m:=Zi;subst this;rw[e];simp
     exact fL hP hm (by rw[e];simp) e2
    rcases By.1 (hg.up v hv _ ha)with e|e
    .have:m=v:=Zi;subst this;exact ns hP hm j
    exact ns hP hm (fL hP hm e j)
   obtain⟨n,hn,rfl,_⟩:=bz.1 hc;exact xQ k n hn
theorem Uh(σ:vb):fk Z g J P (aB P (-1)) σ=du Z ((enW (cA (RJ J) sdS) (dS P) σ).map (wts Z g (dS P))):=by unfold fk;rw[<-yX P];refine valL_sum Z (D:=dom (RJ J)) (E:=E) ⟨TL,hg.dep⟩ _ σ (qC hg h (λc hc=>?_) _ (rM P _) λ_ hc=>hc);obtain⟨n,hn,rfl,_⟩:=bz.1 hc;exact xQ hg h P.length n hn
end
end
end
section
open Mk Jn
set_option autoImplicit false
def hoN(S:ZN)(P:cP)(v:Int):ee:=(List.range S.aU.length).filter λa=>(S.aU.map λr=>jT P r.2).getD a 0==v
theorem PN(S:ZN)(P:cP)(v:Int):hoL S P v=(hoN S P v).map Int.ofNat:=rfl
theorem Bk{S:ZN}{v:Int}:k∈hoN S P v↔∃h:k<S.aU.length,jT P S.aU[k].2=v:=by
 unfold hoN;rw[VU,Wi];constructor
 .rintro⟨h,e⟩;exact⟨h,by simpa[List.getD,h]using e⟩
 rintro⟨h,e⟩;exact⟨h,by simpa[List.getD,h]using e⟩
theorem zw(S:ZN)(P:cP)(v:Int):(hoN S P v).Nodup:=List.nodup_range.filter _
theorem wE(J:JD)(v:Int)(σ:vb):(cA (RJ J) sdS v σ).Nodup:=by
 unfold cA;cases cw (RJ J) v with
 |nil=>exact List.nodup_nil
 |cons f l=>exact(zU _).filter _
section
variable {R:Type}(Z:SR R)(lf:Int->er->R)(wt:Int->R)
def gJ(J:JD)(P:cP)(v:Int)(τ:vb):R:=if 0<=v/\v<P.length then gV Z lf wt (RJ J).at (hoN J.S P) (bW J) v τ else Z.one
def EJ(J:JD)(P:cP)(v:Int):cP:=if 0<=v/\v<P.length then v::(hoN J.S P v).flatMap (RJ J).at else []
theorem gS(h:k<J.S.aU.length):(RJ J).at k=J.S.aU[k].2:=by rw[tc];simp[o9,List.getD,h]
theorem Ui(h:OrdOk J.S P)(hc:∀a:Nat,a<J.S.aj.length->cw (RJ J) (a:Int)≠[]):GEx (gJ Z lf wt J P) J P (EJ J P):=by
 refine⟨λw σ τ hh=>?_,λw a ha=>?_,λw hw a ha=>?_⟩
 .unfold gJ;unfold EJ at hh;split
  .rename_i hw;rw[IT hw]at hh;unfold gV;rw[hh w Zm]
   congr 2
   refine V9 λr s=>?_
   unfold gW;rw[show(λx:Rw=>agr ((RJ J).at r) σ x.v)=λx=>agr ((RJ J).at r) τ x.v from funext λx=>mr (λa ha=>hh a (VX _ (V6.2 ⟨r,s,ha⟩))) x.v]
  .rfl
 .unfold EJ at ha;split at ha
  .rename_i hw;rcases By.1 ha with rfl|ha
   .obtain⟨n,rfl⟩:=VG hw.1;have H:n<J.S.aj.length:=by have:=hw.2;rw[h.len]at this;omega
    obtain⟨r,l,e⟩:=List.exists_cons_of_ne_nil (hc n H);have s:r∈cw (RJ J) (n:Int):=by rw[e];simp
    have j:r<J.S.aU.length:=by
     have:=Wi.1 (VU.1 s).1;simpa[RJ]using this
    have G:=mq s;rw[gS j]at G;exact⟨_,ak j,G,G⟩
   obtain⟨k,hk,ha⟩:=V6.1 ha;obtain⟨hkl,e⟩:=Bk.1 hk;rw[gS hkl]at ha;exact⟨_,ak hkl,e▸(pW h (ak hkl)).1,ha⟩
  simp at ha
 unfold EJ at ha;split at ha
 .rcases By.1 ha with rfl|ha
  .simp
  obtain⟨k,hk,ha⟩:=V6.1 ha;obtain⟨hkl,e⟩:=Bk.1 hk;rw[gS hkl]at ha;rcases(pW h (ak hkl)).2 a ha with e2|e2
  .rw[e2,e];simp
  rw[e]at e2;exact VX _ (sU.1 e2).1
 simp at ha
def qg(J:JD)(P:cP):R:=fk Z (gJ Z lf wt J P) J P (aB P (-1)) λ_=>WC
variable {Z lf wt}{J J1 J2:JD}{P:cP}{D:VD}
theorem kO(h:CtxV J P D):qg Z lf wt J P=du Z ((enW (cA (RJ J) sdS) (dS P) λ_=>WC).map (wts Z (gV Z lf wt (RJ J).at (hoN J.S P) (bW J)) (dS P))):=by
 unfold qg;rw[Uh Z (Ui Z lf wt h.ord h.wv) h.ord];refine da Z λτ _=>qV λv hv=>?_
 obtain⟨n,hn,rfl⟩:=xA h.ord hv;unfold gJ;rw[IT ⟨Zi,Zi⟩]
theorem ow(e:J1.S=J.S):(RJ J1).at=(RJ J).at:=by funext q;rw[tc,tc];unfold o9;rw[e]
theorem nH(h:CtxV J P D):∀v∈dS P,∀σ,IsCand (RJ J) v σ (cA (RJ J) sdS v σ):=λv hv σ=>by
 obtain⟨n,hn,rfl⟩:=xA h.ord hv;exact SL h n (by rw[<-h.len];exact hn) σ
theorem Qa(e:J1.S=J.S)(j:∀q,q≠r->bW J1 q=bW J q):Dif r (RJ J) (RJ J1) (bW J) (bW J1):=⟨by unfold RJ;rw[e],eD J,eD J1,j⟩
section
variable (h:CtxV J P D){r:Nat}(hr:r<J.S.aU.length)
include h hr
theorem rU:(∃a∈dS P,a∈(RJ J).at r)/\∀a∈(RJ J).at r,a∈dS P:=by
 have s:=ak hr;have hs:∀a∈(RJ J).at r,a∈dS P:=λa ha=>by
  rw[gS hr]at ha;have G:=h.ord.val.rng _ s a ha;rw[<-h.ord.len]at G;exact(fV h.ord.jv).mem_iff.2 (bR.2 ⟨a.toNat,Zi,Zi⟩)
 have j:=(pW h.ord s).1;rw[<-gS hr]at j;exact⟨⟨_,hs _ j,j⟩,hs⟩
theorem LR:∀x∈bW J r,x.v.length=((RJ J).at r).length:=λx hx=>by
 have j:r<J.T.length:=by rw[h.ok.n];exact hr
 have e:bW J r=J.T[r]:=by unfold bW;rw[VO,AT j];rfl
 rw[e]at hx;rw[gS hr];exact h.ok.v r j hr x hx
theorem R5:∃u∈dS P,∀v,v∈dS P->(hoN J.S P v).Nodup/\(r∈hoN J.S P v↔v=u):=by have j:=(pW h.ord (ak hr)).1;exact⟨jT P J.S.aU[r].2,(rU h hr).2 _ (by rw[gS hr];exact j),λv _=>⟨zw _ _ _,Bk.trans ⟨fun⟨_,e⟩=>e.symm,λe=>⟨hr,e.symm⟩⟩⟩⟩
theorem OI(hc:∀a b,Z.add a b=Z.add b a)(s:CtxV J1 P D)(G:CtxV J2 P D)(e1:J1.S=J.S)(e2:J2.S=J.S)(t1:∀q,q≠r->bW J1 q=bW J q)(t2:∀q,q≠r->bW J2 q=bW J q)
  (hs:Spl (bW J r) (bW J1 r) (bW J2 r)) (H:(bW J r).Pairwise λx y=>x.v≠y.v):qg Z lf wt J P=Z.add (qg Z lf wt J1 P) (qg Z lf wt J2 P):=by
 rw[kO h,kO s,kO G,ow e1,ow e2,e1,e2];have j:=rU h hr;exact Se (Qa e1 t1) (Qa e2 t2) hs (by simpa[RJ]using hr) j.1 j.2 (LR h hr) H hc (kj h.ord) (nH h) (nH s) (nH G) (wE J) (wE J1) (wE J2) λ_=>rfl
theorem OX(U:CtxV J1 P D)(e1:J1.S=J.S)(t1:∀q,q≠r->bW J1 q=bW J q)(m:Int)(H:bW J1 r=iz m (bW J r))(V:∀x∈bW J r,wt (x.w*m)=Z.mul (wt m) (wt x.w))
  (W:(bW J r).Pairwise λx y=>x.v≠y.v):qg Z lf wt J1 P=Z.mul (wt m) (qg Z lf wt J P):=by
 have j:∀q,(RJ J1).rows q=(bW J q).map (·.v):=λq=>by
  rw[eD];by_cases e:q=r
  .subst e;rw[H,iz,XX];rfl
  rw[t1 q e]
 have G:=rU h hr;have s:cA (RJ J1) sdS=cA (RJ J) sdS:=by
  have I:∀q σ,dG (RJ J1) q σ=dG (RJ J) q σ:=λq σ=>by unfold dG;rw[j,eD,ow e1]
  have M:∀q,(RJ J1).rows q=(RJ J).rows q:=λq=>by rw[j,eD]
  have T:∀v,cw (RJ J1) v=cw (RJ J) v:=λv=>by unfold cw;rw[ow e1];unfold RJ;rw[e1]
  funext v σ;unfold cA;rw[T];cases cw (RJ J) v with
  |nil=>rfl
  |cons f l=>simp only[M,I,ow e1]
 rw[kO h,kO U,s,ow e1,e1];obtain⟨u,hu,hh⟩:=R5 h hr;exact Q9 (eD J) t1 m H V (by simpa[RJ]using hr) G.1 G.2 (LR h hr) W hu hh (kj h.ord) (nH h) λ_=>rfl
end
end
end
section
namespace Vw
open Mm Jn
set_option autoImplicit false
structure Sup(Q:u9)(x:ZB):Prop where
 s:∀p,p∉Q->x.s p=0
 p:∀a b,a∉Q\/b∉Q->x.p a b=0
theorem Sup.add{Q:u9}{x y:ZB}(j:Sup Q x)(G:Sup Q y):Sup Q (Mm.Sem.add x y):=
 ⟨λp h=>by show x.s p+y.s p=0;rw[j.s p h,G.s p h,Rat.add_zero],λa b h=>by show x.p a b+y.p a b=0;rw[j.p a b h,G.p a b h,Rat.add_zero]⟩
theorem Sup.mul{Q:u9}{x y:ZB}(j:Sup Q x)(G:Sup Q y):Sup Q (Mm.Sem.mul x y):=by
 refine⟨λp h=>?_,λa b h=>?_⟩
 .show x.c*y.s p+y.c*x.s p=0;rw[j.s p h,G.s p h,Rat.mul_zero,Rat.mul_zero,Rat.add_zero]
 show x.c*y.p a b+y.c*x.p a b+(x.s a*y.s b+x.s b*y.s a)=0;rw[j.p a b h,G.p a b h];rcases h with h|h
 .rw[j.s a h,G.s a h];grind
 rw[j.s b h,G.s b h];grind
theorem Sup.cnt(Q:u9)(n:Int):Sup Q (cnt n):=⟨λ_ _=>rfl,λ_ _ _=>rfl⟩
theorem Sup.lft{Q:u9}{p:ZM}(h:p∈Q)(x:Rat):Sup Q (lft p x):=by
 refine⟨λq hq=>?_,λa b hq=>?_⟩
 .unfold Mm.lft;refine AS ?_;intro e;exact hq (e▸h)
 unfold Mm.lft;refine AS ?_;rintro⟨rfl,rfl⟩;rcases hq with hq|hq<;>exact hq h
structure Gv where
 m:ZB
 n:Nat
 w:Nat
 k:Nat
def Gv.mul(a b:Gv):Gv:=⟨Mm.Sem.mul a.m b.m,a.n*b.n,a.w*b.w,a.k+b.k⟩
def Gv.add(a b:Gv):Gv:=⟨Mm.Sem.add a.m b.m,a.n+b.n,a.w+b.w,max a.k b.k⟩
def Gv.whole(w:Nat):Gv:=⟨cnt w,1,w,0⟩
structure GvOk(Q:u9)(g:Gv):Prop where
 s:SOk g.w g.k g.m
 q:Sup Q g.m
theorem GvOk.mul{Q:u9}{a b:Gv}(j:GvOk Q a)(G:GvOk Q b):GvOk Q (a.mul b):=⟨j.s.mul G.s,j.q.mul G.q⟩
theorem GvOk.add{Q:u9}{a b:Gv}(j:GvOk Q a)(G:GvOk Q b):GvOk Q (a.add b):=
 ⟨(j.s.up (BY _) (Nat.le_max_left _ _)).add (G.s.up (BY _) (Nat.le_max_right _ _)),j.q.add G.q⟩
theorem GvOk.whole(Q:u9)(w:Nat):GvOk Q (Gv.whole w):=⟨bH w,Sup.cnt Q w⟩
def dj:ee->Nat
 |[]=>1
 |a::l=>a*dj l
theorem pC:∀l m:ee,dj (l++m)=dj l*dj m
 |[],m=>by simp[dj]
 |a::l,m=>by simp only[Wu,dj,pC l m,Xr]
end Vw
end
section
open Go.RowKit Jn Mk
set_option autoImplicit false
section
open Mm (SOk cnt bH aM ZB)
theorem gI:SOk 1 0 aM.one:=bH 1
theorem we{W n:Nat}{f:β->ZB}:∀{l:List β},(∀b∈l,SOk W k (f b))->l.length<=n->SOk (n*W) k (du aM (l.map f))
 |[],_,_=>(bH 0).up (sh _) (sh _)
 | b::l,h,hn=>by
   obtain⟨n,rfl⟩:∃m,n=m+1:=⟨n-1,by have:(b::l).length=l.length+1:=rfl;omega⟩;rw[ed,du,Za,XA];exact Mm.SOk.add (h b Zm) (we (λx hx=>h x (by simp[hx])) (Nat.le_of_succ_le_succ hn))
theorem jS{n:Nat}(hB:1<=B){f:β->ZB}:∀{l:List β},(∀b∈l,SOk B 0 (f b))->l.length<=n->SOk (B^n) 0 (eP aM (l.map f))
 |[],_,_=>gI.up (YC _ _ hB) (BY _)
 | b::l,h,hn=>by
   obtain⟨n,rfl⟩:∃m,n=m+1:=⟨n-1,by have:(b::l).length=l.length+1:=rfl;omega⟩;rw[ed,eP,Wt,Wq];exact Mm.SOk.mul (h b Zm) (jS hB (λx hx=>h x (by simp[hx])) (Nat.le_of_succ_le_succ hn))
def Gh(B:Nat)(h:Int->ee)(l:cP):Nat:=12^l.length*B^(l.flatMap h).length
theorem rJ(B:Nat)(h:Int->ee)(v:Int)(l:cP):Gh B h (v::l)=12*(B^(h v).length*Gh B h l):=by
 unfold Gh;rw[VI,Wc,Hb,Wt,Nat.pow_add]
 grind
theorem M5(B:Nat)(h:Int->ee)(l m:cP):Gh B h (l++m)=Gh B h l*Gh B h m:=by
 unfold Gh;rw[Hb,Xn,Hb,Nat.pow_add,Nat.pow_add]
 grind
section
variable {cd:Int->vb->hC}{g:Int->vb->ZB}{B:Nat}{h:Int->ee}
mutual
theorem val_sok(hc:∀v σ,(cd v σ).length<=12)(hg:∀v σ,SOk (B^(h v).length) 1 (g v σ)):∀(t:Tr)(σ:vb),SOk (Gh B h t.vs) t.vs.length (Jn.val aM cd g t σ)
 | .node v ts,σ=>by
   rw[Jn.val,Tr.vs,rJ,VI,XA];exact we (λx _=>Mm.SOk.mul (hg v _) (valL_sok hc hg ts _)) (hc v σ)
theorem valL_sok(hc:∀v σ,(cd v σ).length<=12)(hg:∀v σ,SOk (B^(h v).length) 1 (g v σ)):∀(ts:List Tr)(σ:vb),SOk (Gh B h (vsL ts)) (vsL ts).length (valL aM cd g ts σ)
 |[],_=>by rw[valL,vsL];exact gI
 | t::ts,σ=>by
   rw[valL,vsL,M5,Hb];exact Mm.SOk.mul (val_sok hc hg t σ) (valL_sok hc hg ts σ)
end
end
section
variable {J:JD}{P:cP}{D:VD}(h:CtxV J P D){lf:Int->er->ZB}{B:Nat}
structure WOk(J:JD)(B:Nat):Prop where
 b:1<=B
 w:∀l∈J.T,∀x∈l,∃n:Nat,x.w=(n:Int)/\n<=B
 n:∀l∈J.T,l.length<=4
variable (hw:WOk J B)(hl:∀v x,SOk 1 1 (lf v x))
include hw
theorem PL(r:Nat)(A:cP)(τ:vb):SOk (B^4) 0 (gW aM cnt A (bW J r) τ):=by
 have s:∀x∈bW J r,∃l∈J.T,x∈l:=λx hx=>by
  unfold bW at hx;by_cases hr:r<J.T.length
  .simp only[List.getD,AT hr,Xg]at hx;exact⟨_,ak hr,hx⟩
  simp[List.getD,WT (by omega:J.T.length<=r)]at hx
 have j:(bW J r).length<=4:=by
  unfold bW;by_cases hr:r<J.T.length
  .simp only[List.getD,AT hr,Xg];exact hw.n _ (ak hr)
  simp[List.getD,WT (by omega:J.T.length<=r)]
 refine jS hw.b (λx hx=>?_) (OF (Wx ..) j);obtain⟨l,h1,h2⟩:=s x (VU.1 hx).1;obtain⟨n,e,j⟩:=hw.w l h1 x h2;rw[e];exact(bH n).up j (BY _)
include hl
theorem zB(v:Int)(τ:vb):SOk ((B^4)^(hoN J.S P v).length) 1 (gJ aM lf cnt J P v τ):=by
 have hB:1<=B^4:=YC _ _ hw.b;unfold gJ;split
 .unfold gV;rw[<-Nat.one_mul ((B^4)^_)];refine Mm.SOk.mul (k:=1) (k':=0) ?_ (jS hB (λr _=>PL hw r _ _) (BY _));split
  .exact hl _ _
  exact gI.up (BY _) Zk
 exact gI.up (YC _ _ hB) Zk
omit hl in
theorem Ia(j:l.Nodup)(hs:∀x∈l,∃a:Nat,a<P.length/\x=(a:Int)):Gh (B^4) (hoN J.S P) l<=12^P.length*(B^4)^J.S.aU.length:=by
 unfold Gh;have hB:1<=B^4:=YC _ _ hw.b;refine Xa (WJ Zk (qK j hs)) (WJ hB ?_);have s:∀{l:cP},l.Nodup->(l.flatMap (hoL J.S P)).Nodup:=by
  intro l;induction l with
  |nil=>intro _;exact List.nodup_nil
  | cons v l ih=>
    intro j;rw[WW]at j;rw[Wc,XL];refine⟨?_,ih j.2,λa ha b hb e=>?_⟩
    .rw[PN];exact List.Pairwise.map _ (λa b h e=>h (Int.ofNat.inj e)) (zw _ _ _)
    subst e;obtain⟨u,hu,hb⟩:=V6.1 hb;obtain⟨k,hk,e1,e2⟩:=lA.1 ha;obtain⟨k',hk',e3,e4⟩:=lA.1 hb;have:k=k':=Zi;subst this;exact j.1 (e2▸e4▸hu)
 have e:(l.flatMap (hoN J.S P)).length=(l.flatMap (hoL J.S P)).length:=by
  have:l.flatMap (hoL J.S P)=(l.flatMap (hoN J.S P)).map Int.ofNat:=by rw[Ym];rfl
  rw[this,IS]
 rw[e];refine qK (s j) λx hx=>?_
 obtain⟨u,_,hx⟩:=V6.1 hx;obtain⟨k,hk,e,_⟩:=lA.1 hx;exact⟨k,hk,e⟩
include h
theorem TF(cs:cP)(j:(vsL (cs.map (bG P P.length))).Nodup)(hs:∀x∈vsL (cs.map (bG P P.length)),∃a:Nat,a<P.length/\x=(a:Int))(σ:vb):
  SOk (12^P.length*(B^4)^J.S.aU.length) P.length (fk aM (gJ aM lf cnt J P) J P cs σ):=by
 unfold fk;exact(valL_sok (qN h.t12) (zB hw hl) _ σ).up (Ia hw j hs) (qK j hs)
end
end
end
section
open Go.RowKit Jn Mk
set_option autoImplicit false
section
open Mm (SOk cnt bH aM ZB)
theorem BZ(j:UpOk P)(H:v<P.length):((v:Int)::vsL ((aB P v).map (bG P P.length))).Nodup:=by
 rw[WW];refine⟨λs=>?_,?_⟩
 .rw[fF,YA]at s;obtain⟨c,hc,s⟩:=V6.1 s;obtain⟨n,hn,rfl,hp⟩:=bz.1 hc;obtain⟨m,hm,e,hu⟩:=jl j P.length n hn _ s;have:m=v:=Zi;subst this;have G:(m:Int)∈bU P m:=by
   have e:=dE j hn hm hp;rcases By.1 hu with e2|e2
   .have:n=m:=Zi;subst this;rw[e];simp
   exact fL j hm (by rw[e];simp) e2
  exact ns j hm G
 rw[show vsL ((aB P v).map (bG P P.length))=lg P (P.length+1) v from kids_vs P P.length v];exact EW j v _ λa ha e=>by omega
theorem BF(j:v<P.length):∀x∈(v:Int)::vsL ((aB P v).map (bG P P.length)),∃a:Nat,a<P.length/\x=(a:Int):=λx hx=>by
 rcases By.1 hx with rfl|hx
 .exact⟨v,j,O⟩
 rw[show vsL ((aB P v).map (bG P P.length))=lg P (P.length+1) v from kids_vs P P.length v]at hx;exact qb _ _ x hx
theorem Iq{l m:List Tr}(h:List.Sublist l m):List.Sublist (vsL l) (vsL m):=by
 rw[fF,fF];induction h with
 |slnil=>exact List.Sublist.refl _
 |cons a _ ih=>rw[Wc];exact ih.trans (List.sublist_append_right _ _)
 |cons_cons a _ ih=>rw[Wc,Wc];exact(List.Sublist.refl _).append ih
section
variable {J:JD}{P:cP}{D:VD}(h:CtxV J P D){lf:Int->er->ZB}{B:Nat}(hw:WOk J B)(hl:∀v x,SOk 1 1 (lf v x))
def Hd(J:JD)(P:cP)(B:Nat):Nat:=12^P.length*(B^4)^J.S.aU.length
include h hw hl
theorem JJ(M:v<P.length)(k:Nat)(σ:vb):SOk (Hd J P B) P.length (aM.mul (gJ aM lf cnt J P v σ) (fk aM (gJ aM lf cnt J P) J P ((aB P v).take k) σ)):=by
 have T:=h.ord.jv;have j:List.Sublist ((v:Int)::vsL (((aB P v).take k).map (bG P P.length))) ((v:Int)::vsL ((aB P v).map (bG P P.length))):=(Iq ((List.take_sublist k _).map _)).cons_cons _;have G:=WY j (BZ T M);have H:∀x∈(v:Int)::vsL (((aB P v).take k).map (bG P P.length)),∃a:Nat,a<P.length/\x=(a:Int):=λx hx=>BF M x (j.subset hx)
 have I:=Ia hw G H;rw[rJ]at I;have s:=qK G H;rw[VI,XA]at s;unfold fk;exact(Mm.SOk.mul (zB hw hl v σ) (valL_sok (qN h.t12) (zB hw hl) _ σ)).up (OF Zi I) s
theorem LH(s:v<P.length)(k:Nat)(σ:vb):SOk (Hd J P B) P.length (du aM (((cA (RJ J) sdS v σ).take k).map λx=>aM.mul (gJ aM lf cnt J P v (put σ v x)) (fk aM (gJ aM lf cnt J P) J P (aB P v) (put σ v x)))):=by
 have G:=h.ord.jv;have H:=Ia hw (BZ G s) (BF s);rw[rJ]at H;have j:=qK (BZ G s) (BF s);rw[VI,XA]at j;refine(we (n:=12) (W:=(B^4)^(hoN J.S P v).length*Gh (B^4) (hoN J.S P) (vsL ((aB P v).map (bG P P.length)))) (k:=1+(vsL ((aB P v).map (bG P P.length))).length) (λx _=>?_) ?_).up H j
 .unfold fk;exact Mm.SOk.mul (zB hw hl v _) (valL_sok (qN h.t12) (zB hw hl) _ _)
 have:=qN h.t12 v σ;rw[Vz];omega
theorem GC(j:v<P.length)(σ:vb):SOk (Hd J P B) P.length (fw aM (gJ aM lf cnt J P) J P v σ):=by have:=LH h hw hl j (cA (RJ J) sdS v σ).length σ;rw[XD]at this;rw[UM aM _ J h.ord.jv j];exact this
theorem Fi(k:Nat)(σ:vb):SOk (Hd J P B) P.length (fk aM (gJ aM lf cnt J P) J P ((aB P (-1)).take k) σ):=by have s:=h.ord.jv;have j:List.Sublist (vsL (((aB P (-1)).take k).map (bG P P.length))) (vsL ((aB P (-1)).map (bG P P.length))):=Iq ((List.take_sublist k _).map _);rw[show vsL ((aB P (-1)).map (bG P P.length))=dS P from kids_vs P P.length (-1)]at j;exact TF h hw hl _ (WY j (kj h.ord)) (λx hx=>xA h.ord (j.subset hx)) σ
end
end
end
section
open Go.RowKit Jn Mk
set_option autoImplicit false
section
open Mm (SOk cnt bH aM ZB)
theorem e8(z:ZB):aM.mul z aM.one=z:=by rw[aM.mul_comm,aM.one_mul]
def rwW(z:ZB)(A:cP)(l:om)(σ:vb)(k:Nat):ZB:=aM.mul z (eP aM (((l.take k).filter λx=>agr A σ x.v).map λx=>cnt x.w))
theorem Qx(z:ZB)(A:cP)(l:om)(σ:vb):rwW z A l σ 0=z:=by unfold rwW;rw[Yc];exact e8 z
theorem TM(z:ZB)(A:cP)(l:om)(σ:vb)(h:l.length<=k):rwW z A l σ k=aM.mul z (gW aM cnt A l σ):=by unfold rwW;rw[aG h];rfl
theorem TY(z:ZB)(A:cP){l:om}(σ:vb)(h:k<l.length)(j:agr A σ l[k].v=YK):rwW z A l σ (k+1)=aM.mul (rwW z A l σ k) (cnt l[k].w):=by
 unfold rwW;rw[AI h,Xc,WL,IT j,Wf,pA,<-aM.mul_assoc]
 congr 1
 exact e8 _
theorem rw_no(z:ZB)(A:cP){l:om}(σ:vb)(h:k<l.length)(j:agr A σ l[k].v=YL):rwW z A l σ (k+1)=rwW z A l σ k:=by unfold rwW;rw[AI h,Xc,WL,AS (by rw[j];decide),List.filter_nil,W7]
def hmW(J:JD)(z:ZB)(Hs:ee)(σ:vb)(k:Nat):ZB:=aM.mul z (eP aM ((Hs.take k).map λr=>gW aM cnt ((RJ J).at r) (bW J r) σ))
theorem Rf(J:JD)(z:ZB)(Hs:ee)(σ:vb):hmW J z Hs σ 0=z:=by unfold hmW;rw[Yc];exact e8 z
theorem Sc(J:JD)(z:ZB)(σ:vb)(h:k<Hs.length):hmW J z Hs σ (k+1)=aM.mul (hmW J z Hs σ k) (gW aM cnt ((RJ J).at Hs[k]) (bW J Hs[k]) σ):=by
 unfold hmW;rw[AI h,Wf,pA,<-aM.mul_assoc]
 congr 1
 exact e8 _
theorem Uw{lf:Int->er->ZB}(s:v<P.length){σ:vb}{x:er}(j:σ (v:Int)=WB x)(h:(hoN J.S P v).length<=k):hmW J (lf v x) (hoN J.S P v) σ k=gJ aM lf cnt J P v σ:=by unfold hmW gJ gV;rw[aG h,IT ⟨Zi,Zi⟩,j]
section
variable {J:JD}{P:cP}{B:Nat}(hw:WOk J B){z:ZB}(hz:SOk 1 1 z)
theorem Ug{J:JD}{P:cP}(v:Int):(hoN J.S P v).length<=J.S.aU.length:=by unfold hoN;exact OF (Wx ..) (by rw[List.length_range];exact BY _)
include hw hz
theorem Ud(σ:vb)(j:k<=m):SOk ((B^4)^m) 1 (hmW J z Hs σ k):=by have hB:1<=B^4:=YC _ _ hw.b;unfold hmW;rw[<-Nat.one_mul ((B^4)^m)];exact Mm.SOk.mul (k:=1) (k':=0) hz (jS hB (λr _=>PL hw r _ _) (by rw[Vz];omega))
theorem UE(σ τ:vb)(A:cP)(I:k<m)(r i:Nat):SOk ((B^4)^m) 1 (rwW (hmW J z Hs σ k) A (bW J r) τ i):=by
 have hB:1<=B^4:=YC _ _ hw.b;have s:=Ud hw hz (Hs:=Hs) σ (BY k);have G:∀x∈bW J r,∃l∈J.T,x∈l:=λx hx=>by
  unfold bW at hx;by_cases hr:r<J.T.length
  .simp only[List.getD,AT hr,Xg]at hx;exact⟨_,ak hr,hx⟩
  simp[List.getD,WT (by omega:J.T.length<=r)]at hx
 have j:(bW J r).length<=4:=by
  unfold bW;by_cases hr:r<J.T.length
  .simp only[List.getD,AT hr,Xg];exact hw.n _ (ak hr)
  simp[List.getD,WT (by omega:J.T.length<=r)]
 have H:SOk (B^4) 0 (eP aM ((((bW J r).take i).filter λx=>agr A τ x.v).map λx=>cnt x.w)):=by
  refine jS hw.b (λx hx=>?_) (OF (Wx ..) (by rw[Vz];omega));obtain⟨l,h3,h4⟩:=G x (X0 (VU.1 hx).1);obtain⟨n,e,j⟩:=hw.w l h3 x h4;rw[e];exact(bH n).up j (BY _)
 unfold rwW;refine(Mm.SOk.mul s H).up ?_ (BY _);rw[<-Wt];exact WJ hB I
end
theorem homB(hB:1<=B)(h:m<=J.S.aU.length):(B^4)^m<=Hd J P B:=by
 unfold Hd;have j:1<=12^P.length:=YC _ _ Zk;have s:=WJ (YC 4 _ hB) h
 calc (B^4)^m<=(B^4)^J.S.aU.length:=s
  _=1*(B^4)^J.S.aU.length:=(Nat.one_mul _).symm
  _<=_:=WK _ j
end
end
section
def gP(l:ee):na:=l.map fun(n:Nat)=>PV.int .i64 (n:Int)
abbrev pli(l:ee):PV:= .sl WC l.length (gP l)
abbrev bigC(z:Int):na:=[.bool (decide (z<0)),pli (ae z.natAbs)]
abbrev lZ(z:Int):PV:= .agg (bigC z)
theorem wJ(l:ee):(gP l).length=l.length:=by simp[gP]
theorem cj{l:ee}(h:k<l.length):(gP l)[k*1]? =WB (.int .i64 (lim l k:Int)):=by rw[eE h];simp[gP,h]
theorem dm{l:ee}(h:k<l.length):gP l≠[]:=λe=>by have:=wJ l;rw[e]at this;simp at this;omega
theorem Le(l:ee)(k:Nat):(gP l).take k=gP (l.take k):=by simp[gP,Zd]
theorem gU(l:ee)(k x:Nat):(gP l).set k (.int .i64 (x:Int))=gP (l.set k x):=by simp[gP,Wp]
theorem limI_snoc(l:ee)(n:Nat):gP l++[.int .i64 (n:Int)]=gP (l++[n]):=by simp[gP]
attribute [simp] wJ
theorem cV{α:Type}(l:List α)(a:α):l.length+1=(l++[a]).length:=Zm
theorem Nh(neg:Bool)(n:Nat):(neg&&decide (0<(ae n).length))=decide (sgn neg n<0):=by rw[<-BL];congr 1;rw[V0];simp
theorem PU{b:Bool}{l:ee}(H:n<=l.length)(e:ae (val l)=l.take n)(G:b=(neg&&decide (0<n))):PV.agg [.bool b,.sl WC n (gP (l.take n))]=lZ (sgn neg (val l)):=by
 have hl:(ae (val l)).length=n:=by rw[e,Vz];omega
 have j:b=decide (sgn neg (val l)<0):=by rw[G,<-Nh,hl]
 have s:(sgn neg (val l)).natAbs=val l:=vQ _ _;show _=PV.agg [.bool (decide (sgn neg (val l)<0)),.sl WC (ae (sgn neg (val l)).natAbs).length (gP (ae (sgn neg (val l)).natAbs))];rw[s,j,hl,e]
theorem uh(neg:Bool)(l:ee)(hl:l.length<=1000000000)(ho:Lok l):ZK prog 133 [.agg [.bool neg,pli l]] (· =lZ (sgn neg (val l))):=by
 refine ZD func133 O ntmps133 λ_ _ _ _=>?_
 refine Z2 O<|Gz O (st:=λZq:Nat=>([(1,WC),(2,WC)],[(0,WB (.mix 95 [.pv (.bool neg),.pv (.sl WC Zq (gP (l.take Zq)))])),(1,WC)])) 2
  (I:=λZq=>Zq<=l.length/\∀i,Zq<=i->l.getD i 0=0) (μ:=λZq=>Zq) (x0:=(l.length)) (Vn (aS O) ⟨by rw[XD];rfl,O,Zp⟩ O O) (⟨BY _,λi hi=>ju hi⟩) ?_
 rintro n ⟨hn,hz⟩;by_cases hp:0<n
 .have hil:n-1<(l.take n).length:=by simp;omega
  have M:(gP (l.take n))[(n-1)*1]? =WB (.int .i64 (lim l (n-1):Int)):=by rw[cj hil];simp[lim,List.getD,V2,show n-1<n by omega]
  have G:=dm hil;have H:n-1<n:=Zi;refine Z3 O<|Rs O (XJ.cast (v':= .pv (.bool YK)) (aY O O O) Zn)<|Ar 7 O<|Rg O (ai (n-1) aal sz3 O O Zi H G)<|A2 O Zl ?_;refine Y2 O ?_;refine Gc O (λj=>?_) (λj=>?_)
  .have hz0:lim l (n-1)=0:=by have:=sk j;omega
   exact Vl<|Gr O<|Ar 5 O<|Rs O (XJ.cast (v':= ZI ((n-1:Nat):Int)) (CF O O Zi) (ah (λi=>ZI i) Zi))<|Rs O ((dL (n-1) aal sz3 O O O Zi Zn).cast (v':= .pv (.sl WC (n-1) (gP (l.take (n-1))))) (by rw[VY,Le,Yl,W6 Zi]))<|Y2 O<|⟨(n-1),YS O,⟨Zi,λi hi=>by rcases XE i n with e|e;rw[show i=n-1 by omega];exact hz0;exact hz i e⟩,Zi⟩
  have hz0:lim l (n-1)≠0:=by have:=lT j;omega
  refine Gx O<|Z4 O<|Gc O (λs=>?_) (λs=>?_)
  .refine Z2 O<|Z2 O<|Gt O ?_;exfalso;have:=sk s;omega
  refine Vl<|Z2 O<|Gt O ?_;have e:=iE ho hn hz (.inr hz0);exact⟨_,_,O,O,⟨ar ⟨_,aar,O⟩ Fb O O O,Zp⟩,PU hn e (by simp[hp])⟩
 refine Z3 O<|Rs O (XJ.cast (v':= .pv (.bool YL)) (aY O O O) Zn)<|Ar 11 O ?_;refine Gc O (λj=>absurd j Zm) (λj=>?_);refine Gx O<|Z4 O<|Gc O (λs=>?_) (λs=>?_)
 .refine Z2 O<|Z2 O<|Gt O ?_;have e:=iE ho hn hz (.inl Zi);exact⟨_,_,O,O,⟨ar ⟨_,aar,O⟩ Fb O O O,Zp⟩,PU hn e (by simp[hp])⟩
 refine Vl<|Z2 O<|Gt O ?_;exfalso;have:=lT s;omega
theorem cG(l:ee)(j:l.length=n)(hl:n<=1000000000)(ho:Lok l)(s:val l=v):ZK prog 133 [.agg [.bool neg,.sl WC n (gP l)]] (· =lZ (sgn neg v)):=by subst j s;exact uh neg l hl ho
theorem iB(a b:Nat)(ha:(ae a).length<=1000000000)(hb:(ae b).length<=1000000000):ZK prog 181 [pli (ae a),pli (ae b)] (· = ZU (zZ a b)):=by
 refine ZC func181 O ntmps181 λ_ _ _ _=>?_
 refine Z1 O<|Gr O<|Ar 5 O<|Gc O (λs=>?_) (λs=>?_)
 .refine Gr O<|Ar 5 O ?_;refine Gp O (λT=>?_) (λT=>?_)
  .exact Z1 O<|YR O<|ah (PV.int .i64) (vC (gT Zi)).symm
  refine Vl<|Z1 O<|Gt O ?_;have Y:=CU s;exact⟨_,_,O,O,ah (PV.int .i64) (lB (gT Zi)).symm⟩
 have hlen:(ae a).length=(ae b).length:=by have:=wY s;omega
 refine Vl<|Z4 O<|Gz O (st:=λZq:Nat=>([(0,WC),(1,WC),(5,WB (ZI ((Zq:Int)-1)))],[])) 0
  (I:=λZq=>Zq<=(ae a).length/\(ae a).drop Zq=(ae b).drop Zq) (μ:=λZq=>Zq) (x0:=((ae a).length)) (Vn (aS O) trivial O O) (⟨BY _,by rw[Wy (BY _),Wy Zi]⟩) ?_
 rintro i ⟨hi,hd⟩;refine Z2 O<|Gp O (λU=>?_) (λU=>?_)
 .have hia:i-1<(ae a).length:=Zi;have j:i-1<(ae b).length:=Zi;have aa:=cj hia;have H:=dm hia;have ab:=cj j;have M:=dm j;have G:(ae a).drop (i-1+1)=(ae b).drop (i-1+1):=by rw[show i-1+1=i by omega];exact hd
  refine Vl<|VC 9 O<|Dr 2 O<|YM O (λτ h=>ai (i-1) aal sz3 (Ee h 0 O) (Ee h 1 O) Zi hia H)<|D2 O O Zl ?_;refine Dr 2 O<|YM O (λτ h=>ai (i-1) aal sz3 (Ee h 0 O) (Ee h 1 O) Zi j M)<|D2 O O Zl ?_;refine D1 O O ⟨Zj,Gp O (λW=>?_) (λW=>?_)⟩
  .refine Z1 O<|Gt O ?_;have hl:=qo (a6 a) hlen hia G (by show lim _ _<lim _ _;omega);rw[aH,aH]at hl;exact⟨_,_,O,O,ah (PV.int .i64) (vC hl).symm⟩
  refine Vl<|VC 9 O<|Dr 2 O<|YM O (λτ h=>ai (i-1) aal sz3 (Ee h 0 O) (Ee h 1 O) Zi hia H)<|D2 O O Zl ?_;refine Dr 2 O<|YM O (λτ h=>ai (i-1) aal sz3 (Ee h 0 O) (Ee h 1 O) Zi j M)<|D2 O O Zl ?_;refine D1 O O ⟨Zj,Gp O (λX=>?_) (λX=>?_)⟩
  .refine Z1 O<|Gt O ?_;have hl:=qo (a6 b) hlen.symm j G.symm (by show lim _ _<lim _ _;omega);rw[aH,aH]at hl;exact⟨_,_,O,O,ah (PV.int .i64) (lB hl).symm⟩
  exact Vl<|Z3 O<|⟨(i-1),Vn ⟨O,O,ah (λi:Int=>V.pv (PV.int .i64 i)) (show(i:Int)-1-1=((i-1:Nat):Int)-1 by omega),Zp⟩ trivial O O,⟨Zi,by rw[V1 hia,V1 j,G,<-eE hia,<-eE j];congr 1;omega⟩,Zi⟩
 refine Gx O<|Z1 O<|Gt O ?_;have h0:i=0:=Zi;subst h0;exact⟨_,_,O,O,ah (PV.int .i64) (Ka (zA (by simpa using hd))).symm⟩
theorem Ol(neg:Bool)(a:Nat):(sgn neg a).tmod 1000000000=sgn neg (a%1000000000):=by
 cases neg
 .rfl
 show(-(a:Int)).tmod 1000000000= -((a%1000000000:Nat):Int);rw[Int.neg_tmod];rfl
theorem Dq(neg:Bool)(a:Nat):(sgn neg a).tdiv 1000000000=sgn neg (a/1000000000):=by
 cases neg
 .rfl
 show(-(a:Int)).tdiv 1000000000= -((a/1000000000:Nat):Int);rw[Int.neg_tdiv];rfl
theorem B7(n:Int):sgn (decide (n<0)) n.natAbs=n:=by grind[sgn]
theorem wq(n:Int)(W: -9223372036854775808<=n)(X:n<=9223372036854775807):ZK prog 70 [ZU n] (· =lZ n):=by
 refine ZD func70 O ntmps70 λ_ _ _ _=>?_
 obtain⟨neg,hneg⟩:∃b,b=decide (n<0):=⟨_,O⟩;have H:sgn neg n.natAbs=n:=by rw[hneg];exact B7 n
 refine Z1 O<|Z1 O<|Rs O (XJ.cast (v':= .pv (.bool neg)) (aY O O O) (ah (λb=>V.pv (.bool b)) hneg.symm))<|Y3 O<|Vm (St.cD 1 1 2 1 3 O O O) ?_;refine Gz O (st:=λZq:Nat×ee=>([(0,WB (ZI (sgn neg Zq.1))),(2,WC),(3,WC)],[(0,WC),(1,WB (.mix 95 [.pv (.bool neg),.bz 2 1 Zq.2.length])),(2,WB (.bD 3 (gP Zq.2)))])) 3
  (I:=λZq=>Zq.2++ae Zq.1=ae n.natAbs/\Zq.1<=n.natAbs) (μ:=λZq=>Zq.1) (x0:=(n.natAbs,[])) (Vn ⟨ah (λi=>ZI i) H.symm,O,O,Zp⟩ (aO O) O O) (⟨O,BY _⟩) ?_
 rintro⟨a,l⟩ ⟨hla,hle⟩;try simp only at hla hle ⊢
 refine Z2 O<|Gc O (λG=>?_) (λG=>?_)
 .refine Vl ?_
  repeat apply Vy
  refine AW.block ?_;have s:a≠0:=λe=>by rw[e]at G;cases neg<;>simp[sgn]at G
  refine Z1 O<|Rs O (XJ.cast (v':= ZI (sgn neg (a%1000000000))) (fC O O Zk) (ah (λi=>ZI i) (Ol neg a)))<|A1 O<|Z2 O<|Gp O (λj=>?_) (λj=>?_)
  .refine Z1 O<|Rs O (XJ.cast (v':= ZI ((a%1000000000:Nat):Int)) (PH O (by cases neg<;>simp[sgn]<;>omega) (by cases neg<;>simp[sgn]<;>omega)) (ah (λi=>ZI i) (by cases neg<;>simp[sgn]at j ⊢ ;omega)))<|A1 O ?_;have M:l.length<=1000000:=by
    have T:=ah List.length hla;rw[Hb]at T;have U:(ae n.natAbs).length<=3:=aW.2 Zi;omega
   refine Gr O<|Ar 7 O<|Z1 O<|Rs O (XJ.cast (v':= ZI (sgn neg (a/1000000000))) (dw O O Zk) (ah (λi=>ZI i) (by rw[Dq,eS];cases neg<;>simp[sgn]<;>omega))) ?_;exact A1 O<|⟨(a/1000000000,l++[a%1000000000]),Vo [0,1,4] (aT O) ⟨O,VT (b:=WB (.mix 95 [.pv (.bool neg),.bz 4 1 (l.length+1)])) Zj (ah (λn=>WB (Ob.mix 95 [.pv (.bool neg),.bz 4 1 n])) (cV l _)),ah (λc=>WB (Ob.bD 3 c)) (limI_snoc _ _),Zp⟩ O O Zk O,⟨by rw[<-hla,dC s];simp,Zi⟩,Zi⟩
  have hd:sgn neg (a%1000000000)=((a%1000000000:Nat):Int):=by cases neg<;>simp[sgn]at j ⊢ ;omega
  refine Vl ?_;have M:l.length<=1000000:=by
   have T:=ah List.length hla;rw[Hb]at T;have U:(ae n.natAbs).length<=3:=aW.2 Zi;omega
  refine Z2 O<|Rs O (XJ.cast (v':= ZI ((a%1000000000:Nat):Int)) oJ (ah (λi=>ZI i) hd))<|Ar 4 O<|Z1 O<|Rs O (XJ.cast (v':= ZI (sgn neg (a/1000000000))) (dw O O Zk) (ah (λi=>ZI i) (by rw[Dq,eS];cases neg<;>simp[sgn]<;>omega))) ?_;exact A1 O<|⟨(a/1000000000,l++[a%1000000000]),Vo [0,1,4] (aT O) ⟨O,VT (b:=WB (.mix 95 [.pv (.bool neg),.bz 4 1 (l.length+1)])) Zj (ah (λn=>WB (Ob.mix 95 [.pv (.bool neg),.bz 4 1 n])) (cV l _)),ah (λc=>WB (Ob.bD 3 c)) (limI_snoc _ _),Zp⟩ O O Zk O,⟨by rw[<-hla,dC s];simp,Zi⟩,Zi⟩
 refine Gx O ?_;have s:a=0:=by cases neg<;>simp[sgn]at G<;>omega
 rw[s,aV,W7]at hla;exact Vm (Vq 2 O O)<|Z2 O<|YR O ⟨⟨ar ⟨_,aar,O⟩ Fb O O O,Zp⟩,by rw[hla,hneg];rfl⟩
theorem yu(h:a<=9223372036854775807):IntKind.i64.wrap ((a:Int).tdiv 1000000000)=((a/1000000000:Nat):Int):=by grind[eS]
theorem C2(j:x<1000000000)(s:y<1000000000):x*y<=999999998000000001:=Xa (show x<=999999999 by omega) (show y<=999999999 by omega)
theorem FF {o:ee} {S:Nat} (j:o.length=i) (h:val o+1000000000^i*c=S*n):
  val (o++[(c+x*n)%1000000000])+1000000000^(i+1)*((c+x*n)/1000000000)=(S+1000000000^i*x)*n:=by grind[c8,val_one,Wt,Nat.add_mul,Xr,XP,Nat.mod_add_div]
theorem Nv(j:x<1000000000)(hc:c<n\/c=0)(s:n<1000000000):(c+x*n)/1000000000<n\/(c+x*n)/1000000000=0:=by
 rcases WG n with e|e
 .grind
 left
 rw[X7 Zk];have:x*n<=999999999*n:=WK _ Zi;omega
theorem eO(a n:Nat)(ha:(ae a).length<=1000000)(hn:n<1000000000):ZK prog 240 [pli (ae a),ZU n] (· =pli (ae (a*n))):=by
 refine ZC func240 O ntmps240 λ_ _ _ _=>?_
 obtain⟨la,hla⟩:∃n:Nat,n=(ae a).length:=⟨_,O⟩;refine Z1 O<|Z1 O<|Vm (Vs 5 0 1 3 O O)<|Z1 O<|Z1 O<|Gl O (st:=λZq:Nat×Nat×ee=>ZT [(0,.pv (pli (ae a))),(1,ZI n),(5,.bz 0 1 Zq.2.2.length),(6,ZI Zq.2.1),(7,ZI Zq.1)] [(0,.bD 3 (gP Zq.2.2))] 1)
  (I:=λZq=>(Zq.2.2.length=Zq.1/\Zq.1<=la+1/\(Zq.1=la+1->Zq.2.1=0))/\(Lok Zq.2.2/\(Zq.2.1<n\/Zq.2.1=0))/\val Zq.2.2+1000000000^Zq.1*Zq.2.1=sm (lim (ae a)) Zq.1*n) (μ:=λZq=>la+1-Zq.1) (x0:=(0,0,[])) (YS O) (⟨⟨O,sh _,λ_=>rfl⟩,⟨λ_ h=>absurd h Zm,.inr O⟩,by simp[val,sm]⟩) ?_
 rintro⟨i,c,o⟩ ⟨⟨hol,hil,hic⟩,⟨hok,hc⟩,he⟩;try simp only at hol hil hic hok hc he ⊢
 refine Gr O<|Ar 5 O ?_;apply Vv 3 12 15 [13,14] O Zs
 .intro hb4;exact Y3 O<|Vp Zr O O O
 .intro hb4;exact Y3 O<|Vp Zr O O O
 refine Gc O (λj=>?_) (λj=>?_)
 .have hst:=FF (x:=lim (ae a) i) hol he;have H:=cK (a6 a) i;have hbd:=C2 H hn;have G:=Nv H hc hn;have T:sm (lim (ae a)) (i+1)=sm (lim (ae a)) i+1000000000^i*lim (ae a) i:=rfl;rw[<-T]at hst;have s:=hok.append (r:=[(c+lim (ae a) i*n)%1000000000]) (Lok.one (WI _ Zk));have hi1:i<=la:=by
   simp only[Wr,VJ]at j;rcases j with e|e<;>omega
  refine Vl<|Z4 O<|Gp O (λM=>?_) (λM=>?_)
  .have hia:i<(ae a).length:=Zi;have hva:=cj hia;have U:=dm hia;generalize lim (ae a) i=x at*;refine Z3 O<|Rs O (ai i aal sz3 O O O hia U)<|A2 O Zl ?_;exact A1 O<|Rs O (yO O O (by rw[<-XK];omega))<|Rs O (XJ.cast (v':= ZI ((c+x*n:Nat):Int)) (lx O O (by rw[<-XK];omega)) O)<|A1 O<|Z2 O<|Rs O (XJ.cast (v':= ZI (((c+x*n)%1000000000:Nat):Int)) (fC O O Zk) O)<|Y3 O<|Z1 O<|Rs O (XJ.cast (v':= ZI (((c+x*n)/1000000000:Nat):Int)) (dw O O Zk) (ah (λi=>ZI i) (yu Zi)))<|A1 O<|Z3 O<|⟨(i+1,(c+x*n)/1000000000,o++[(c+x*n)%1000000000]),Vo [2] ⟨O,O,VT (b:= .bz 2 1 (o.length+1)) O (ah (V.bz 2 1) (cV o _)),O,O,Zp⟩ ⟨ah (λc=>WB (Ob.bD 3 c)) (limI_snoc _ _),Zp⟩ O O Zk O,⟨⟨by simp only[Hb,VV];omega,Zi,λh=>by omega⟩,⟨s,G⟩,hst⟩,Zi⟩
  have hx0:lim (ae a) i=0:=ju Zi;rw[hx0,Zg,XG]at hst s G;exact Vl<|Z2 O<|Rs O (XJ.cast (v':= ZI ((c%1000000000:Nat):Int)) (fC O O Zk) O)<|Y3 O<|Z1 O<|Rs O (XJ.cast (v':= ZI ((c/1000000000:Nat):Int)) (dw O O Zk) (ah (λi=>ZI i) (yu Zi)))<|A1 O<|Z3 O<|⟨(i+1,c/1000000000,o++[c%1000000000]),Vo [2] ⟨O,O,VT (b:= .bz 2 1 (o.length+1)) O (ah (V.bz 2 1) (cV o _)),O,O,Zp⟩ ⟨ah (λc=>WB (Ob.bD 3 c)) (limI_snoc _ _),Zp⟩ O O Zk O,⟨⟨by simp only[Hb,VV];omega,Zi,λh=>by show c/1000000000=0;omega⟩,⟨s,G⟩,hst⟩,Zi⟩
 refine Gx O ?_;have W:c=0/\la<=i:=by
  simp only[V8,Xf]at j;omega
 have X:val o=a*n:=by rw[W.1,Zb,XG,eL _ Zi,aH]at he;exact he
 have Y:=cG (neg:=YL) o O Zi hok X;exact Vm (Vq 0 O O)<|Z2 O<|Rs O (aa call133 Y O)<|Rs O (j4 aar O O ⟨_,aal,O⟩ O O)<|A1 O<|YR O<|by show pli (ae (sgn YL (a*n)).natAbs)=_;rw[vQ]
def xj(l:cP):na:=l.map fun(n:Int)=>PV.int .i64 n
theorem Me(l:cP):(xj l).length=l.length:=by simp[xj]
theorem sH(h:k<l.length):(xj l)[k*1]? =WB (.int .i64 (l.getD k 0)):=by simp[xj,List.getD,h]
theorem nk(l:cP)(k:Nat)(x:Int):(xj l).set k (.int .i64 x)=xj (l.set k x):=by simp[xj,Wp]
theorem intI_nat(l:ee):gP l=xj (l.map Int.ofNat):=by simp[xj,gP]
attribute [simp] Me
theorem cF{x:Int}(j:k<l.length):(l.set k x).getD i 0=if i=k then x else l.getD i 0:=by grind
theorem Dw(l:ee)(i:Nat):(l.map Int.ofNat).getD i 0=(lim l i:Int):=by simp only[List.getD,lim,Xw];cases l[i]? <;>rfl
structure MinI(a b n i c:Nat)(L:cP):Prop where
 len:L.length=n
 ile:i<=n
 cle:c<=1
 lo:∀j,j<i->0<=L.getD j 0/\L.getD j 0<1000000000
 mid:i<n->L.getD i 0=(lim (ae a) i:Int)-c
 hi:∀j,i<j->L.getD j 0=(lim (ae a) j:Int)
 sum:sm (λj=>(L.getD j 0).toNat) i+sm (lim (ae b)) i=sm (lim (ae a)) i+1000000000^i*c
theorem jV{M:cP}(h:MinI a b n i c L)(W:i<n){x:Int}{c':Nat}(s:c'<=1)(G:0<=x/\x<1000000000)
  (he:x=(lim (ae a) i:Int)-c-lim (ae b) i+1000000000*c') (X:M.length=n) (H:∀j,j<i->M.getD j 0=L.getD j 0) (I:M.getD i 0=x)
  (Y:i+1<n->M.getD (i+1) 0=(lim (ae a) (i+1):Int)-c') (h4:∀j,i+1<j->M.getD j 0=L.getD j 0):MinI a b n (i+1) c' M:=by
 refine⟨X,W,s,λj hj=>?_,Y,λj hj=>by rw[h4 j hj,h.hi j Zi],?_⟩
 .rcases V3.1 hj with e|e
  .rw[H j e];exact h.lo j e
  rw[e,I];exact G
 have hs:=h.sum;have T:sm (λj=>(M.getD j 0).toNat) i=sm (λj=>(L.getD j 0).toNat) i:=wO λj hj=>by simp only[H j hj]
 rw[sm,sm,sm,T,Wt];simp only[I];obtain⟨y,rfl⟩:=VG G.1;rw[Wh];have U:y+lim (ae b) i+c=lim (ae a) i+1000000000*c':=Zi;generalize 1000000000^i=p at*;have V:p*(y+lim (ae b) i+c)=p*(lim (ae a) i+1000000000*c'):=by rw[U]
 rw[XP,XP,XP]at V;rw[Xr p];omega
theorem CJ(h:MinI a b n n c L)(U:n=(ae a).length)(T:b<=a):Lok (L.map Int.toNat)/\val (L.map Int.toNat)=a-b/\c=0/\xj L=gP (L.map Int.toNat):=by
 have V:(ae b).length<=n:=by rw[U];exact aW.2 (Yn T (dX a))
 have s:=h.len;have I:∀j,lim (L.map Int.toNat) j=(L.getD j 0).toNat:=λj=>by grind
 have G:Lok (L.map Int.toNat):=λx hx=>by
  obtain⟨y,hy,rfl⟩:=VS.1 hx;obtain⟨j,hj,rfl⟩:=Xp hy;have:=h.lo j Zi;simp only[List.getD,AT hj,Xg]at this;omega
 have hs:=h.sum;have W:sm (λj=>(L.getD j 0).toNat) n=val (L.map Int.toNat):=by
  rw[<-eL (L.map Int.toNat) (n:=n) Zn];exact wO λj _=>(I j).symm
 rw[W,eL _ V,eL _ (Xz U.symm),aH,aH]at hs;have M:=uc G;rw[IS,s]at M;have H:c=0:=by
  rcases WG c with e|e
  .exact e
  have:=h.cle;have:c=1:=Zi;subst this;omega
 refine⟨G,by subst H;omega,H,?_⟩;have:∀y∈L,(y.toNat:Int)=y:=λy hy=>by
  obtain⟨j,hj,rfl⟩:=Xp hy;have:=h.lo j Zi;simp only[List.getD,AT hj,Xg]at this;omega
 simp only[xj,gP,XX];refine V9 λy hy=>?_
 show PV.int .i64 y=PV.int .i64 (y.toNat:Int);rw[this y hy]
theorem Lp(h:MinI a b n i c L)(U:n=(ae a).length)(H:b<=a)(V:i<n)(M:(lim (ae a) i:Int)-c-lim (ae b) i<0):i+1<n:=by
 apply Decidable.byContradiction;intro hlast;have G:i+1=n:=Zi;have T:=cK (a6 b) i;have hc:=h.cle;have I:MinI a b n (i+1) 1 (L.set i ((lim (ae a) i:Int)-c-lim (ae b) i+1000000000)):=by
  have s:=h.len;refine jV h V (x:=(lim (ae a) i:Int)-c-lim (ae b) i+1000000000) (c':=1) Zk ⟨Zi,Zi⟩ O (by simp[s]) (λj hj=>?_) ?_ (λh=>by omega) (λj hj=>?_)
  .grind
  .rw[cF Zi,IT O]
  grind
 rw[G]at I;have:=(CJ I U H).2.2.1;cases this
theorem Ly(a b n:Nat)(s:n=(ae a).length):MinI a b n 0 0 ((ae a).map Int.ofNat):=by refine⟨by simp[s],sh _,sh _,λj hj=>absurd hj (W9 _),λ_=>?_,λj _=>Dw _ _,by simp[sm]⟩;rw[Dw];simp
theorem xG(l:ee):∀c∈gP l,c.leaf=YK:=λc hc=>by obtain⟨x,_,rfl⟩:=VS.1 hc;rfl
theorem ja(a b:Nat)(ha:(ae a).length<=1000000)(hab:b<=a)(ha0:0<a):ZK prog 182 [pli (ae a),pli (ae b)] (λv=>∃o,Lok o/\o.length=(ae a).length/\val o=a-b/\v=pli o):=by
 refine ZK.fg2 (ZC func182 O ntmps182 λ_ _ _ _=>?_);obtain⟨n,hn⟩:∃n:Nat,n=(ae a).length:=⟨_,O⟩;have hn0:0<(ae a).length:=X1 λe=>by have:=bJ.1 e;omega
 refine Z1 O<|Z1 O<|Rs O (ir 0 xg O (.inl ⟨WC,O⟩) Zm (xG _) Zi hn0 O)<|A1 O<|Z1 O<|Gz O (st:=λZq:Nat×Nat×cP=>([(1,WC),(5,WC),(6,WB (ZI Zq.1))],[(0,WB (.cells 3 (xj Zq.2.2)))])) 1
  (I:=λZq=>MinI a b n Zq.1 Zq.2.1 Zq.2.2) (μ:=λZq=>n-Zq.1) (x0:=(0,0,(ae a).map Int.ofNat)) (Vn (aS O) ⟨ah (λc=>WB (Ob.cells 3 c)) (intI_nat _),Zp⟩ O O) (Ly a b n hn) ?_
 rintro⟨i,c,L⟩ hM;try simp only at hM ⊢
 refine Z4 O<|Gp O (λhc12=>?_) (λhc12=>?_)
 .have hin:i<n:=Zi;have G:=hM.len;have Y:i<L.length:=Zi;have hLi:=hM.mid hin;have hc1:=hM.cle;have hxa:=cK (a6 a) i;have hxb:=cK (a6 b) i;have U:=Lp hM hn hab hin;have aa:=sH Y;rw[hLi]at aa
  refine Vl<|Z4 O<|Gp O (λhc18=>?_) (λhc18=>?_)
  .have hib:i<(ae b).length:=Zi;have hvb:=cj hib;have hnb:=dm hib;refine VC 11 O<|Dr 2 O<|YQ [_] O (λτ h=>ag i aal sz3 (Ee h 0 O) (Eo h 0 O) (Ee h 1 O) O Zi)<|D2 O O Zl ?_;refine Dr 2 O<|YM O (λτ h=>ai i aal sz3 (Ee h 0 O) (Ee h 1 O) O hib hnb)<|D2 O O Zl ?_;refine D1 O O<|YQ [_] O (λτ h=>ag i aal sz3 (Ee h 0 O) (Eo h 0 O) (Ee h 1 O) O Zi)<|D1 O O ?_;refine⟨Zj,?_⟩;rw[show(xj L).set (i*1) (.int .i64 ((lim (ae a) i:Int)-c-(lim (ae b) i:Int)))=xj (L.set i ((lim (ae a) i:Int)-c-lim (ae b) i)) by rw[VY,nk]];have H:∃x0,x0=(lim (ae a) i:Int)-c-lim (ae b) i:=⟨_,O⟩;obtain⟨x0,H⟩:=H;rw[<-H];have m1:(L.set i x0).length=n:=by rw[VN];exact G
   have m2:(L.set i x0).getD i 0=x0:=by rw[cF Y,IT O]
   have m3:∀j,j≠i->(L.set i x0).getD j 0=L.getD j 0:=λj hj=>by rw[cF Y,AS hj]
   generalize L.set i x0=M at*;have T:i<M.length:=Zi;have V:=sH T;rw[m2]at V;clear aa
   refine Z2 O<|Rs O (ag i aal sz3 O O O O Zi)<|A2 O Zl ?_;refine A1 O ?_;refine Gp O (λX=>?_) (λX=>?_)
   .have hi1:=U Zi;have q1:(M.set i (x0+1000000000)).length=n:=by rw[VN];exact m1
    have q2:(M.set i (x0+1000000000)).getD i 0=x0+1000000000:=by rw[cF T,IT O]
    have q3:∀j,j≠i->(M.set i (x0+1000000000)).getD j 0=L.getD j 0:=λj hj=>by rw[cF T,AS hj,m3 j hj]
    refine Z2 O<|Rs O (ag i aal sz3 O O O O Zi)<|A2 O Zl ?_;refine A1 O<|Rs O (ag i aal sz3 O O O O Zi)<|A1 O ?_;rw[show(xj M).set (i*1) (.int .i64 (x0+1000000000))=xj (M.set i (x0+1000000000)) by rw[VY,nk]];generalize M.set i (x0+1000000000)=M2 at*;have s:i+1<M2.length:=Zi;have W:=sH s;have hxa2:=cK (a6 a) (i+1);rw[q3 (i+1) Zi,hM.hi (i+1) Zi]at W;refine Z3 O<|Rs O (ag (i+1) aal sz3 O O O O Zi)<|A2 O Zl ?_;exact A1 O<|Rs O (ag (i+1) aal sz3 O O O O Zi)<|A1 O<|Z3 O<|⟨(i+1,1,M2.set (i+1) ((lim (ae a) (i+1):Int)-1)),Vn (aS O) ⟨ah (λc=>WB (Ob.cells 3 c)) (by rw[VY,nk]),Zp⟩ O O,jV hM hin (x:=x0+1000000000) (c':=1) Zk ⟨Zi,Zi⟩ Zi (by rw[VN];exact q1) (λj hj=>by rw[cF s,AS Zi,q3 j Zi]) (by rw[cF s,AS Zi,q2]) (λ_=>by rw[cF s,IT O];rfl) (λj hj=>by rw[cF s,AS Zi,q3 j Zi]),Zi⟩
   exact Vl<|Z3 O<|⟨(i+1,0,M),YS O,jV hM hin (x:=x0) (c':=0) Zk ⟨Zi,Zi⟩ Zi m1 (λj hj=>m3 j Zi) m2 (λ_=>by rw[m3 _ Zi,hM.hi _ Zi];simp) (λj hj=>m3 j Zi),Zi⟩
  have hb0:lim (ae b) i=0:=ju Zi;have H:∃x0,x0=(lim (ae a) i:Int)-c-lim (ae b) i:=⟨_,O⟩;obtain⟨x0,H⟩:=H;obtain⟨M,hMd⟩:∃M,M=L:=⟨_,O⟩;have m1:M.length=n:=by rw[hMd];exact G
  have m2:M.getD i 0=x0:=by rw[hMd,hLi,H,hb0];simp
  have m3:∀j,j≠i->M.getD j 0=L.getD j 0:=λj _=>by rw[hMd]
  rw[<-hMd];refine Vl ?_;have T:i<M.length:=Zi;have V:=sH T;rw[m2]at V;clear aa
  refine Z2 O<|Rs O (ag i aal sz3 O O O O Zi)<|A2 O Zl ?_;refine A1 O ?_;refine Gp O (λX=>?_) (λX=>?_)
  .have hi1:=U Zi;have q1:(M.set i (x0+1000000000)).length=n:=by rw[VN];exact m1
   have q2:(M.set i (x0+1000000000)).getD i 0=x0+1000000000:=by rw[cF T,IT O]
   have q3:∀j,j≠i->(M.set i (x0+1000000000)).getD j 0=L.getD j 0:=λj hj=>by rw[cF T,AS hj,m3 j hj]
   refine Z2 O<|Rs O (ag i aal sz3 O O O O Zi)<|A2 O Zl ?_;refine A1 O<|Rs O (ag i aal sz3 O O O O Zi)<|A1 O ?_;rw[show(xj M).set (i*1) (.int .i64 (x0+1000000000))=xj (M.set i (x0+1000000000)) by rw[VY,nk]];generalize M.set i (x0+1000000000)=M2 at*;have s:i+1<M2.length:=Zi;have W:=sH s;have hxa2:=cK (a6 a) (i+1);rw[q3 (i+1) Zi,hM.hi (i+1) Zi]at W;refine Z3 O<|Rs O (ag (i+1) aal sz3 O O O O Zi)<|A2 O Zl ?_;exact A1 O<|Rs O (ag (i+1) aal sz3 O O O O Zi)<|A1 O<|Z3 O<|⟨(i+1,1,M2.set (i+1) ((lim (ae a) (i+1):Int)-1)),Vn (aS O) ⟨ah (λc=>WB (Ob.cells 3 c)) (by rw[VY,nk]),Zp⟩ O O,jV hM hin (x:=x0+1000000000) (c':=1) Zk ⟨Zi,Zi⟩ Zi (by rw[VN];exact q1) (λj hj=>by rw[cF s,AS Zi,q3 j Zi]) (by rw[cF s,AS Zi,q2]) (λ_=>by rw[cF s,IT O];rfl) (λj hj=>by rw[cF s,AS Zi,q3 j Zi]),Zi⟩
  exact Vl<|Z3 O<|⟨(i+1,0,M),YS O,jV hM hin (x:=x0) (c':=0) Zk ⟨Zi,Zi⟩ Zi m1 (λj hj=>m3 j Zi) m2 (λ_=>by rw[m3 _ Zi,hM.hi _ Zi];simp) (λj hj=>m3 j Zi),Zi⟩
 refine Gx O ?_;obtain rfl:i=n:=by have:=hM.ile;omega
 obtain⟨e1,e2,_,e4⟩:=CJ hM hn hab;have G:=hM.len;exact Vm (Vq 0 O O)<|Z2 O<|YR O ⟨L.map Int.toNat,e1,by rw[IS,G,hn],e2,by rw[e4,pli,IS,G,hn];rfl⟩
theorem lq(n k:Nat):val ((ae n).drop k)=n/1000000000^k:=by
 by_cases hk:k<=(ae n).length
 .have e:=j9 (ae n) k;rw[aH,W6 hk]at e;have hl:=uc ((a6 n).take k);rw[Vz,W6 hk]at hl;have:=wU k
  conv=>rhs;rw[e]
  rw[Nat.add_mul_div_left _ _ this,Yg hl,Wm]
 rw[Wy Zi];have:=dX n;have j:1000000000^(ae n).length<=1000000000^k:=WJ Zk Zi;rw[Yg Zi];rfl
theorem U0(H:0<p)(I:t=r/p)(M:u=y/p)(j:0<u)(T:0<y):r/y<=t/u:=by rw[X9 j,I,X9 H,M];have s:y/p*p<=y:=Nat.div_mul_le_self y p;have G:r/y*y<=r:=Nat.div_mul_le_self r y;rw[Xr];exact OF (Wn _ s) G
theorem UQ(H:0<p)(I:t=r/p)(M:u=y/p)(T:0<y):t/(u+1)<=r/y:=by
 rw[X9 T];have j:y<(u+1)*p:=by rw[M,Wq];exact Nat.lt_mul_div_succ y H
 have s:t/(u+1)*(u+1)<=t:=Nat.div_mul_le_self t (u+1);have G:t*p<=r:=by rw[I];exact Nat.div_mul_le_self r p
 calc t/(u+1)*y<=t/(u+1)*((u+1)*p):=Wn _ (Yy j)
  _=t/(u+1)*(u+1)*p:=(Xr _ _ _).symm
  _<=t*p:=WK _ s
  _<=r:=G
theorem MX(j:0<y):lim (ae y) ((ae y).length-1)=y/1000000000^((ae y).length-1)/\0<lim (ae y) ((ae y).length-1):=by
 have hl:0<(ae y).length:=X1 λe=>by have:=bJ.1 e;omega
 refine⟨?_,X1 (zV Zi)⟩;rw[<-lq,V1 Zi,Wy Zi,eE Zi];simp[val]
theorem ND(j:0<n)(s:n<=(ae r).length)(G:(ae r).length<=n+1):r/1000000000^(n-1)=lim (ae r) (n-1)+lim (ae r) n*1000000000:=by
 rw[<-lq,V1 Zi,val,eE Zi,show n-1+1=n by omega,Wq]
 congr 2
 by_cases h:(ae r).length=n+1
 .grind[V1,Wy,eE,val]
 rw[Wy Zi,ju Zi];rfl
theorem Oo{x:ee}{d:Nat}(j:i<x.length)(I:q.length=x.length)(h:val (x.drop (i+1))=y*val (q.drop (i+1))+r)(H:d=(lim x i+1000000000*r)/y)(M:0<y):
  val (x.drop i)=y*val ((q.set i d).drop i)+(lim x i+1000000000*r)%y:=by
 have s:x.drop i=lim x i::x.drop (i+1):=by rw[V1 j,eE j]
 have G:(q.set i d).drop i=d::q.drop (i+1):=by grind[V1,VN,List.drop_set]
 rw[s,G,val,val,h];have e:=Yv (lim x i+1000000000*r) y;rw[<-H]at e;generalize (lim x i+1000000000*r)%y=m at*;generalize lim x i=a at*;generalize val (q.drop (i+1))=w;rw[XP,XP,Nat.mul_left_comm y];generalize y*w=u;generalize y*d=z at*;omega
theorem Oe(a r:Nat):val (a::ae r)=a+1000000000*r:=by rw[val,aH]
theorem NK(s:a<1000000000)(j:r<y):(a+1000000000*r)/y<1000000000:=by rw[X7 Zi];have:1000000000*(r+1)<=1000000000*y:=Wn _ j;omega
structure QuoI(x y i r:Nat)(q:ee):Prop where
 ile:i<=(ae x).length
 len:q.length=(ae x).length
 ok:Lok q
 rlt:r<y
 e:val ((ae x).drop i)=y*val (q.drop i)+r
theorem I6(j:0<y):QuoI x y (ae x).length 0 (List.replicate (ae x).length 0):=
 ⟨BY _,Zm,Lok.replicate _,j,by rw[Wy (BY _),Wy Zm];simp[val]⟩
theorem NU(h:QuoI x y 0 r q):val q=x/y/\r=x%y:=by
 have e:=h.e;rw[List.drop_zero,List.drop_zero,aH]at e;have j:=h.rlt;rw[e];constructor
 .rw[Nat.mul_add_div Zi,Yg j,XG]
 rw[Nat.mul_add_mod,X5 j]
theorem xl(h:a<=9223372036854775807):IntKind.i64.wrap ((a:Int).tdiv (b:Int))=((a/b:Nat):Int):=by have e:(a:Int).tdiv (b:Int)=((a/b:Nat):Int):=rfl;have j:=Zc a b;rw[e];generalize a/b=c at*;rw[eS Zi]
theorem DR(l:ee)(j:l.length=n)(hl:n<=1000000000)(ho:Lok l)(s:val l=v):ZK prog 133 [.agg [.bool YL,.sl WC n (gP l)]] (· = .agg [.bool YL,pli (ae v)]):=
 (cG (neg:=YL) l j hl ho s).mono λr h=>by
  rw[h];have e:sgn YL v=(v:Int):=rfl;show PV.agg [.bool (decide (sgn YL v<0)),pli (ae (sgn YL v).natAbs)]=_;rw[e,VL Zi,VZ]
theorem QI(x y:Int):sgn (decide (x<0) !=decide (y<0)) (x.natAbs/y.natAbs)=x.tdiv y:=by
 have e:∀a b:Nat,((a:Int).tdiv b)=((a/b:Nat):Int):=λ_ _=>rfl
 by_cases hx:x<0<;>by_cases hy:y<0
 .obtain⟨a,rfl⟩:∃a:Nat,x= -(a:Int):=⟨x.natAbs,Zi⟩;obtain⟨b,rfl⟩:∃b:Nat,y= -(b:Int):=⟨y.natAbs,Zi⟩;rw[VK hx,VK hy,Int.neg_tdiv,Int.tdiv_neg,e];simp[sgn]
 .obtain⟨a,rfl⟩:∃a:Nat,x= -(a:Int):=⟨x.natAbs,Zi⟩;obtain⟨b,rfl⟩:∃b:Nat,y=(b:Int):=⟨y.natAbs,Zi⟩;rw[VK hx,VL hy,Int.neg_tdiv,e];simp[sgn]
 .obtain⟨a,rfl⟩:∃a:Nat,x=(a:Int):=⟨x.natAbs,Zi⟩;obtain⟨b,rfl⟩:∃b:Nat,y= -(b:Int):=⟨y.natAbs,Zi⟩;rw[VL hx,VK hy,Int.tdiv_neg,e];simp[sgn]
 grind[sgn]
theorem Sl(x y:Int):sgn (decide (x<0)) (x.natAbs%y.natAbs)=x.tmod y:=by
 have e:∀a b:Nat,((a:Int).tmod b)=((a%b:Nat):Int):=λ_ _=>rfl
 have j:x.tmod y=x.tmod (y.natAbs:Int):=by grind[Int.natAbs_eq,Int.tmod_neg]
 rw[j];by_cases hx:x<0
 .obtain⟨a,rfl⟩:∃a:Nat,x= -(a:Int):=⟨x.natAbs,Zi⟩;rw[VK hx,Int.neg_tmod,e];simp[sgn]
 grind[sgn]
theorem Dl(nx ny:Bool)(a b:Nat)(hx:(ae a).length<=1000000)(hyl:(ae b).length<=100000)(hy:0<b):ZK prog 178 [.agg [.bool nx,pli (ae a)],.agg [.bool ny,pli (ae b)]] (· = .bS [lZ (sgn (nx !=ny) (a/b)),lZ (sgn nx (a%b))]):=by
 refine ZD func178 O ntmps178 λ_ _ _ _=>?_
 obtain⟨dv,hdv⟩:∃z,sgn (nx !=ny) (a/b)=z:=⟨_,O⟩;obtain⟨mo,hmo⟩:∃z,sgn nx (a%b)=z:=⟨_,O⟩;rw[hdv,hmo];have hl:0<(ae b).length:=X1 λe=>by have:=bJ.1 e;omega
 obtain⟨u,hu⟩:∃u,u=lim (ae b) ((ae b).length-1):=⟨_,O⟩;have htop:=MX hy;have hva:=cj (l:=ae b) (k:=(ae b).length-1) Zi;have hna:=dm (l:=ae b) (k:=(ae b).length-1) Zi;have hub:=cK (a6 b) ((ae b).length-1);rw[<-hu]at htop hva hub;refine Z4 O<|Z1 O<|Vm (St.rE [6])<|Z3 O<|Rs O (lN (zs:=[.int .i64 0]) 4 (ae a).length xg O O O O O Zi O)<|A1 O<|Gr O<|Ar 5 O<|Gz O (st:=λZq:Nat×Nat×ee=>([(2,WC),(3,WC),(4,WC),(5,WC),(6,WB (.pv (pli (ae Zq.2.1)))),(7,WC),(8,WB (ZI ((Zq.1:Int)-1)))],[(0,WC),(1,WC),(2,WC),(3,WC),(4,WB (.cells 3 (gP Zq.2.2)))])) 5
  (I:=λZq=>QuoI a b Zq.1 Zq.2.1 Zq.2.2) (μ:=λZq=>Zq.1) (x0:=((ae a).length,0,List.replicate (ae a).length 0)) (Vn ⟨O,O,O,O,by rw[aV];rfl,O,O,Zp⟩ ⟨O,O,O,O,ah (λc=>WB (Ob.cells 3 c)) ((ct (.int .i64 0) ((ae a).length*1)).trans (by simp[gP])),Zp⟩ O O) (I6 hy) ?_
 rintro⟨i,r,q⟩ hQ;try simp only at hQ ⊢
 refine Z2 O<|Gp O (λhc23=>?_) (λhc23=>?_)
 .have hi0:0<i:=Zi;have hile:=hQ.ile;have Y:=hQ.len;have hia:i-1<(ae a).length:=Zi;have hvi:=cj hia;have hni:=dm hia;have hxl:=cK (a6 a) (i-1);have hrl:=hQ.rlt;have X:=Oo (x:=ae a) (q:=q) (i:=i-1) (y:=b) (r:=r) hia Y (by rw[show i-1+1=i by omega];exact hQ.e) O hy;have hdl:=NK hxl hrl;have hlr:(ae r).length<=(ae b).length:=b9 (Yy hrl);have hcv:=Oe (lim (ae a) (i-1)) r;have hok1:Lok (lim (ae a) (i-1)::ae r):=λz hz=>(By.1 hz).elim (λe=>e▸hxl) (a6 r z)
  have htr:=DR (lim (ae a) (i-1)::ae r) (n:=1+(ae r).length) Zn Zi hok1 hcv;have hr2l:(ae (lim (ae a) (i-1)+1000000000*r)).length<=(ae b).length+1:=by
   refine aW.2 ?_;have h1:=dX b;rw[Wt];omega
  generalize lim (ae a) (i-1)=xi at*;refine Vl<|Z3 O<|Rs O (ai (i-1) aal sz3 O O Zi hia hni)<|A2 O Zl ?_;refine Y2 O<|Rs O (gz (6) xg O O Zm (.inl ⟨WC,O⟩) Zm (xG _) Zi O)<|RL.weaken (by first|exact aj.aw|exact aj.le|exact Vt) (Vq (6) O O)<|A1 O<|Rs O (aa call133 htr O)<|Rs O (j4 aar O O ⟨_,aal,O⟩ O O)<|A1 O ?_;have hr2:∃r2,r2=xi+1000000000*r:=⟨_,O⟩;obtain⟨r2,hr2⟩:=hr2;rw[<-hr2]at X hdl hr2l ⊢;have hsz:=iB r2 b Zi Zi;refine VC 6 O<|Dr 6 O ⟨Zj,Z3 O<|Rs O (aa call181 hsz O)<|A1 O<|Gp O (λhc44=>?_) (λhc44=>?_)⟩
  .have hrb:b<=r2:=nX.1 hc44;have hlb:(ae b).length<=(ae r2).length:=b9 hrb;have hi1:(ae b).length-1<(ae r2).length:=Zi;have hv1:=cj hi1;have hn1:=dm hi1;have ht1:=cK (a6 r2) ((ae b).length-1);have ht2:=cK (a6 r2) (ae b).length;have htt:=ND hl hlb hr2l;have hhi:=U0 (wU ((ae b).length-1)) htt.symm htop.1 htop.2 hy;have hlo:=UQ (wU ((ae b).length-1)) htt.symm htop.1 hy;have hv2:=λh=>cj (l:=ae r2) (k:=(ae b).length) h
   have hz2:=λh=>ju (l:=ae r2) (i:=(ae b).length) h
   clear htt;generalize lim (ae r2) ((ae b).length-1)=w1 at*;generalize lim (ae r2) (ae b).length=w2 at*;have hT:∃T,T=w1+w2*1000000000:=⟨_,O⟩;obtain⟨T,hT⟩:=hT;rw[<-hT]at hhi hlo;have hq1:=Zc T u;have hq2:=Zc T (u+1);refine Z3 O<|Rs O (ai ((ae b).length-1) aal sz3 O O Zi hi1 hn1)<|A2 O Zl ?_;refine A1 O<|Z4 O ?_;refine Gp O (λhc53=>?_) (λhc53=>?_)
   .have hi2:(ae b).length<(ae r2).length:=Zi;have hv2:=hv2 hi2;refine Z3 O<|Rs O (ai (ae b).length aal sz3 O O O hi2 hn1)<|A2 O Zl ?_;refine A1 O<|Rs O (XJ.cast (v':= ZI (T:Int)) (lx O O Zi) (ah (λi=>ZI i) (by rw[hT];simp)))<|A1 O<|Gr O<|Ar 5 O<|Rs O (ai ((ae b).length-1) aal sz3 O O Zi Zi hna)<|A2 O Zl ?_;refine Rs O (XJ.cast (v':= ZI ((T/u:Nat):Int)) (dw O O Zi) (ah (λi=>ZI i) (xl Zi)))<|Rs O (XJ.cast (v':= ZI ((min 999999999 (T/u):Nat):Int)) (tU O O) (ah (λi=>ZI i) (by split<;>omega)))<|A1 O<|Gr O<|Ar 6 O<|Rs O (ai ((ae b).length-1) aal sz3 O O Zi Zi hna)<|A2 O Zl ?_;refine A1 O<|Rs O (XJ.cast (v':= ZI ((T/(u+1):Nat):Int)) (dw O O Zi) (ah (λi=>ZI i) (xl Zi)))<|Rs O (XJ.cast (v':= ZI ((min (min 999999999 (T/u)) (T/(u+1)):Nat):Int)) (tU O O) (ah (λi=>ZI i) (by split<;>omega)))<|A1 O ?_;have g1:min (min 999999999 (T/u)) (T/(u+1))<=r2/b:=OF (Nat.min_le_right _ _) hlo;have g2:r2/b<=min 999999999 (T/u):=Nat.le_min.2 ⟨Zi,hhi⟩;have g3:min 999999999 (T/u)<=999999999:=Nat.min_le_left _ _;generalize min (min 999999999 (T/u)) (T/(u+1))=lo0 at*;generalize min 999999999 (T/u)=hi0 at*;refine Gz O (st:=λj:Nat×Nat=>([(2,WC),(3,WC),(4,WC),(5,WC),(6,WC),(7,WC),(8,WC),(9,WB (ZI (j.1:Int))),(10,WB (ZI (j.2:Int)))],[(0,WC),(1,WC),(2,WC),(3,WC),(4,WC)])) 7
     (I:=λj=>j.1<=r2/b/\r2/b<=j.2/\j.2<=999999999) (μ:=λj=>j.2-j.1) (x0:=(lo0,hi0)) (Vn ⟨O,O,O,O,O,O,O,by first|rfl|(rw[hlo0];rfl),by first|rfl|(rw[hhi0];rfl),Zp⟩ (aO O) O O) (⟨g1,g2,g3⟩) ?_
    rintro⟨lo,hi⟩ ⟨k1,k2,k3⟩;try simp only
    refine Z3 O<|Gp O (λal=>?_) (λal=>?_)
    .have hmd:∃md,md=(lo+hi+1)/2:=⟨_,O⟩;obtain⟨md,hmd⟩:=hmd;have U:=eO b md Zi Zi;have hml:(ae (b*md)).length<=1000000:=by
      have h2:(ae (b*md)).length<=(ae b).length+1:=by
       refine aW.2 ?_;have h1:=dX b;rw[Wt];exact VW ((Nat.mul_lt_mul_right Zi).2 h1) (Wn _ Zi)
      omega
     have hsm:=iB (b*md) r2 Zi Zi;refine Vl<|Z4 O<|Rs O (XJ.cast (v':= ZI (md:Int)) (dw O O Zk) (ah (λi=>ZI i) (by rw[hmd,show(lo:Int)+hi+1=((lo+hi+1:Nat):Int) by omega];exact xl (b:=2) Zi))) ?_;refine A1 O<|Z3 O<|Rs O (aa call240 U O)<|A1 O<|Rs O (aa call181 hsm O)<|A1 O<|Gp O (λG=>?_) (λG=>?_)
     .have hle:b*md<=r2:=by rcases XE r2 (b*md)with e|e;exact absurd G (by rw[lB e];decide);exact e
      have ab:md<=r2/b:=(X9 hy).2 (by rw[Wq];exact hle);exact Z2 O<|⟨(md,hi),YS O,⟨ab,k2,k3⟩,Zi⟩
     have hgt:r2<b*md:=by rcases XE r2 (b*md)with e|e;exact e;exact absurd (show zZ (b*md) r2<=0 by unfold zZ;split;decide;split;omega;decide) G
     have hgt2:r2/b<md:=(X7 hy).2 (by rw[Wq];exact hgt);exact Z3 O<|⟨(lo,md-1),Vn ⟨O,O,O,O,O,O,O,O,ah (λi:Int=>V.pv (PV.int .i64 i)) (show(md:Int)-1=((md-1:Nat):Int) by omega),Zp⟩ (aO O) O O,⟨k1,Zi,Zi⟩,Zi⟩
    refine Gx O ?_;have s:lo=r2/b:=Zi;rw[<-s]at X hdl;have H:r2%b=r2-b*lo:=by rw[s];have:=Yv r2 b;omega
    have M:=hQ.ok.set (k:=i-1) hdl;refine Z3 O<|Rs O (ag (i-1) aal sz3 O O O Zi hia)<|A1 O<|Z2 O<|Gp O (λW=>?_) (λW=>?_)
    .have U:=eO b lo Zi Zi;have ac:b*lo<=r2:=by rw[s];exact Nat.mul_div_le r2 b
     have ad:0<r2:=by rcases WG r2 with e|e;rw[e,Nat.zero_div]at s;omega;exact e
     have hmi:=ja r2 (b*lo) Zi ac ad;refine Z4 O<|Rs O (aa call240 U O)<|RL.call O (cT call182 hmi O ?_);rintro _ ⟨ov,v1,v2,v3,rfl⟩;exact A1 O<|Rs O (aa call133 (DR (v:=r2%b) ov O Zi v1 (by rw[v3,H])) O)<|Rs O (j4 aar O O ⟨_,aal,O⟩ O O)<|A1 O<|Z3 O<|⟨(i-1,r2%b,q.set (i-1) lo),Vn ⟨O,O,O,O,O,O,ah (λi:Int=>V.pv (PV.int .i64 i)) (show(i:Int)-1-1=((i-1:Nat):Int)-1 by omega),Zp⟩ ⟨O,O,O,O,ah (λc=>WB (Ob.cells 3 c)) (by rw[VY,gU]),Zp⟩ O O,⟨Zi,by rw[VN];exact Y,M,WI _ hy,X⟩,Zi⟩
    have hl0:lo=0:=Zi;have af:r2=r2%b:=by rw[H,hl0];simp
    exact Vl<|Z3 O<|⟨(i-1,r2%b,q.set (i-1) lo),Vn ⟨O,O,O,O,ah (λn:Nat=>V.pv (pli (ae n))) af,O,ah (λi:Int=>V.pv (PV.int .i64 i)) (show(i:Int)-1-1=((i-1:Nat):Int)-1 by omega),Zp⟩ ⟨O,O,O,O,ah (λc=>WB (Ob.cells 3 c)) (by rw[VY,gU]),Zp⟩ O O,⟨Zi,by rw[VN];exact Y,M,WI _ hy,X⟩,Zi⟩
   have hw2:w2=0:=hz2 Zi;have hTw:T=w1:=by rw[hT,hw2];omega
   rw[<-hTw];refine Vl<|Gr O<|Ar 5 O<|Rs O (ai ((ae b).length-1) aal sz3 O O Zi Zi hna)<|A2 O Zl ?_;refine Rs O (XJ.cast (v':= ZI ((T/u:Nat):Int)) (dw O O Zi) (ah (λi=>ZI i) (xl Zi)))<|Rs O (XJ.cast (v':= ZI ((min 999999999 (T/u):Nat):Int)) (tU O O) (ah (λi=>ZI i) (by split<;>omega)))<|A1 O<|Gr O<|Ar 6 O<|Rs O (ai ((ae b).length-1) aal sz3 O O Zi Zi hna)<|A2 O Zl ?_;refine A1 O<|Rs O (XJ.cast (v':= ZI ((T/(u+1):Nat):Int)) (dw O O Zi) (ah (λi=>ZI i) (xl Zi)))<|Rs O (XJ.cast (v':= ZI ((min (min 999999999 (T/u)) (T/(u+1)):Nat):Int)) (tU O O) (ah (λi=>ZI i) (by split<;>omega)))<|A1 O ?_;have g1:min (min 999999999 (T/u)) (T/(u+1))<=r2/b:=OF (Nat.min_le_right _ _) hlo;have g2:r2/b<=min 999999999 (T/u):=Nat.le_min.2 ⟨Zi,hhi⟩;have g3:min 999999999 (T/u)<=999999999:=Nat.min_le_left _ _;generalize min (min 999999999 (T/u)) (T/(u+1))=lo0 at*;generalize min 999999999 (T/u)=hi0 at*;refine Gz O (st:=λj:Nat×Nat=>([(2,WC),(3,WC),(4,WC),(5,WC),(6,WC),(7,WC),(8,WC),(9,WB (ZI (j.1:Int))),(10,WB (ZI (j.2:Int)))],[(0,WC),(1,WC),(2,WC),(3,WC),(4,WC)])) 7
    (I:=λj=>j.1<=r2/b/\r2/b<=j.2/\j.2<=999999999) (μ:=λj=>j.2-j.1) (x0:=(lo0,hi0)) (Vn ⟨O,O,O,O,O,O,O,by first|rfl|(rw[hlo0];rfl),by first|rfl|(rw[hhi0];rfl),Zp⟩ (aO O) O O) (⟨g1,g2,g3⟩) ?_
   rintro⟨lo,hi⟩ ⟨k1,k2,k3⟩;try simp only
   refine Z3 O<|Gp O (λal=>?_) (λal=>?_)
   .have hmd:∃md,md=(lo+hi+1)/2:=⟨_,O⟩;obtain⟨md,hmd⟩:=hmd;have U:=eO b md Zi Zi;have hml:(ae (b*md)).length<=1000000:=by
     have h2:(ae (b*md)).length<=(ae b).length+1:=by
      refine aW.2 ?_;have h1:=dX b;rw[Wt];exact VW ((Nat.mul_lt_mul_right Zi).2 h1) (Wn _ Zi)
     omega
    have hsm:=iB (b*md) r2 Zi Zi;refine Vl<|Z4 O<|Rs O (XJ.cast (v':= ZI (md:Int)) (dw O O Zk) (ah (λi=>ZI i) (by rw[hmd,show(lo:Int)+hi+1=((lo+hi+1:Nat):Int) by omega];exact xl (b:=2) Zi))) ?_;refine A1 O<|Z3 O<|Rs O (aa call240 U O)<|A1 O<|Rs O (aa call181 hsm O)<|A1 O<|Gp O (λG=>?_) (λG=>?_)
    .have hle:b*md<=r2:=by rcases XE r2 (b*md)with e|e;exact absurd G (by rw[lB e];decide);exact e
     have ab:md<=r2/b:=(X9 hy).2 (by rw[Wq];exact hle);exact Z2 O<|⟨(md,hi),YS O,⟨ab,k2,k3⟩,Zi⟩
    have hgt:r2<b*md:=by rcases XE r2 (b*md)with e|e;exact e;exact absurd (show zZ (b*md) r2<=0 by unfold zZ;split;decide;split;omega;decide) G
    have hgt2:r2/b<md:=(X7 hy).2 (by rw[Wq];exact hgt);exact Z3 O<|⟨(lo,md-1),Vn ⟨O,O,O,O,O,O,O,O,ah (λi:Int=>V.pv (PV.int .i64 i)) (show(md:Int)-1=((md-1:Nat):Int) by omega),Zp⟩ (aO O) O O,⟨k1,Zi,Zi⟩,Zi⟩
   refine Gx O ?_;have s:lo=r2/b:=Zi;rw[<-s]at X hdl;have H:r2%b=r2-b*lo:=by rw[s];have:=Yv r2 b;omega
   have M:=hQ.ok.set (k:=i-1) hdl;refine Z3 O<|Rs O (ag (i-1) aal sz3 O O O Zi hia)<|A1 O<|Z2 O<|Gp O (λW=>?_) (λW=>?_)
   .have U:=eO b lo Zi Zi;have ac:b*lo<=r2:=by rw[s];exact Nat.mul_div_le r2 b
    have ad:0<r2:=by rcases WG r2 with e|e;rw[e,Nat.zero_div]at s;omega;exact e
    have hmi:=ja r2 (b*lo) Zi ac ad;refine Z4 O<|Rs O (aa call240 U O)<|RL.call O (cT call182 hmi O ?_);rintro _ ⟨ov,v1,v2,v3,rfl⟩;exact A1 O<|Rs O (aa call133 (DR (v:=r2%b) ov O Zi v1 (by rw[v3,H])) O)<|Rs O (j4 aar O O ⟨_,aal,O⟩ O O)<|A1 O<|Z3 O<|⟨(i-1,r2%b,q.set (i-1) lo),Vn ⟨O,O,O,O,O,O,ah (λi:Int=>V.pv (PV.int .i64 i)) (show(i:Int)-1-1=((i-1:Nat):Int)-1 by omega),Zp⟩ ⟨O,O,O,O,ah (λc=>WB (Ob.cells 3 c)) (by rw[VY,gU]),Zp⟩ O O,⟨Zi,by rw[VN];exact Y,M,WI _ hy,X⟩,Zi⟩
   have hl0:lo=0:=Zi;have af:r2=r2%b:=by rw[H,hl0];simp
   exact Vl<|Z3 O<|⟨(i-1,r2%b,q.set (i-1) lo),Vn ⟨O,O,O,O,ah (λn:Nat=>V.pv (pli (ae n))) af,O,ah (λi:Int=>V.pv (PV.int .i64 i)) (show(i:Int)-1-1=((i-1:Nat):Int)-1 by omega),Zp⟩ ⟨O,O,O,O,ah (λc=>WB (Ob.cells 3 c)) (by rw[VY,gU]),Zp⟩ O O,⟨Zi,by rw[VN];exact Y,M,WI _ hy,X⟩,Zi⟩
  have hd0:r2/b=0:=Yg (by rcases XE r2 b with e|e;exact e;exact absurd (nX.2 e) Zi);obtain⟨lo0,hlo0⟩:∃z:Nat,z=0:=⟨_,O⟩;obtain⟨hi0,hhi0⟩:∃z:Nat,z=0:=⟨_,O⟩;have g1:lo0<=r2/b:=Zi;have g2:r2/b<=hi0:=Zi;have g3:hi0<=999999999:=Zi;refine Vl<|Gz O (st:=λj:Nat×Nat=>([(2,WC),(3,WC),(4,WC),(5,WC),(6,WC),(7,WC),(8,WC),(9,WB (ZI (j.1:Int))),(10,WB (ZI (j.2:Int)))],[(0,WC),(1,WC),(2,WC),(3,WC),(4,WC)])) 7
   (I:=λj=>j.1<=r2/b/\r2/b<=j.2/\j.2<=999999999) (μ:=λj=>j.2-j.1) (x0:=(lo0,hi0)) (Vn ⟨O,O,O,O,O,O,O,by first|rfl|(rw[hlo0];rfl),by first|rfl|(rw[hhi0];rfl),Zp⟩ (aO O) O O) (⟨g1,g2,g3⟩) ?_
  rintro⟨lo,hi⟩ ⟨k1,k2,k3⟩;try simp only
  refine Z3 O<|Gp O (λal=>?_) (λal=>?_)
  .have hmd:∃md,md=(lo+hi+1)/2:=⟨_,O⟩;obtain⟨md,hmd⟩:=hmd;have U:=eO b md Zi Zi;have hml:(ae (b*md)).length<=1000000:=by
    have h2:(ae (b*md)).length<=(ae b).length+1:=by
     refine aW.2 ?_;have h1:=dX b;rw[Wt];exact VW ((Nat.mul_lt_mul_right Zi).2 h1) (Wn _ Zi)
    omega
   have hsm:=iB (b*md) r2 Zi Zi;refine Vl<|Z4 O<|Rs O (XJ.cast (v':= ZI (md:Int)) (dw O O Zk) (ah (λi=>ZI i) (by rw[hmd,show(lo:Int)+hi+1=((lo+hi+1:Nat):Int) by omega];exact xl (b:=2) Zi))) ?_;refine A1 O<|Z3 O<|Rs O (aa call240 U O)<|A1 O<|Rs O (aa call181 hsm O)<|A1 O<|Gp O (λG=>?_) (λG=>?_)
   .have hle:b*md<=r2:=by rcases XE r2 (b*md)with e|e;exact absurd G (by rw[lB e];decide);exact e
    have ab:md<=r2/b:=(X9 hy).2 (by rw[Wq];exact hle);exact Z2 O<|⟨(md,hi),YS O,⟨ab,k2,k3⟩,Zi⟩
   have hgt:r2<b*md:=by rcases XE r2 (b*md)with e|e;exact e;exact absurd (show zZ (b*md) r2<=0 by unfold zZ;split;decide;split;omega;decide) G
   have hgt2:r2/b<md:=(X7 hy).2 (by rw[Wq];exact hgt);exact Z3 O<|⟨(lo,md-1),Vn ⟨O,O,O,O,O,O,O,O,ah (λi:Int=>V.pv (PV.int .i64 i)) (show(md:Int)-1=((md-1:Nat):Int) by omega),Zp⟩ (aO O) O O,⟨k1,Zi,Zi⟩,Zi⟩
  refine Gx O ?_;have s:lo=r2/b:=Zi;rw[<-s]at X hdl;have H:r2%b=r2-b*lo:=by rw[s];have:=Yv r2 b;omega
  have M:=hQ.ok.set (k:=i-1) hdl;refine Z3 O<|Rs O (ag (i-1) aal sz3 O O O Zi hia)<|A1 O<|Z2 O<|Gp O (λW=>?_) (λW=>?_)
  .have U:=eO b lo Zi Zi;have ac:b*lo<=r2:=by rw[s];exact Nat.mul_div_le r2 b
   have ad:0<r2:=by rcases WG r2 with e|e;rw[e,Nat.zero_div]at s;omega;exact e
   have hmi:=ja r2 (b*lo) Zi ac ad;refine Z4 O<|Rs O (aa call240 U O)<|RL.call O (cT call182 hmi O ?_);rintro _ ⟨ov,v1,v2,v3,rfl⟩;exact A1 O<|Rs O (aa call133 (DR (v:=r2%b) ov O Zi v1 (by rw[v3,H])) O)<|Rs O (j4 aar O O ⟨_,aal,O⟩ O O)<|A1 O<|Z3 O<|⟨(i-1,r2%b,q.set (i-1) lo),Vn ⟨O,O,O,O,O,O,ah (λi:Int=>V.pv (PV.int .i64 i)) (show(i:Int)-1-1=((i-1:Nat):Int)-1 by omega),Zp⟩ ⟨O,O,O,O,ah (λc=>WB (Ob.cells 3 c)) (by rw[VY,gU]),Zp⟩ O O,⟨Zi,by rw[VN];exact Y,M,WI _ hy,X⟩,Zi⟩
  have hl0:lo=0:=Zi;have af:r2=r2%b:=by rw[H,hl0];simp
  exact Vl<|Z3 O<|⟨(i-1,r2%b,q.set (i-1) lo),Vn ⟨O,O,O,O,ah (λn:Nat=>V.pv (pli (ae n))) af,O,ah (λi:Int=>V.pv (PV.int .i64 i)) (show(i:Int)-1-1=((i-1:Nat):Int)-1 by omega),Zp⟩ ⟨O,O,O,O,ah (λc=>WB (Ob.cells 3 c)) (by rw[VY,gU]),Zp⟩ O O,⟨Zi,by rw[VN];exact Y,M,WI _ hy,X⟩,Zi⟩
 refine Gx O ?_;obtain rfl:i=0:=Zi;obtain⟨hvq,hvr⟩:=NU hQ;have Y:=hQ.len;have htq:=cG (neg:=nx !=ny) q Y Zi hQ.ok hvq;have hlr:(ae r).length<=(ae b).length:=b9 (Yy hQ.rlt);have htr:=cG (neg:=nx) (ae r) O Zi (a6 r) ((aH r).trans hvr);rw[hdv]at htq;rw[hmo]at htr;refine Vm (Vq 4 O O)<|VC 15 O<|Dr 7 O<|YM O (λτ h=>aa call133 htq (h.aE O))<|Dr 4 O<|YM O (λτ h=>aa call133 htr (h.aE O))<|Dr 2 O ⟨Zj,Gt O<|⟨_,_,O,O,⟨ar ⟨_,aar,O⟩ Fb O O O,ar ⟨_,aar,O⟩ Fb O O O,Zp⟩,O⟩⟩
theorem zO(x y:Int)(s:(ae x.natAbs).length<=1000000)(j:(ae y.natAbs).length<=100000)(G:y≠0):ZK prog 178 [lZ x,lZ y] (· = .bS [lZ (x.tdiv y),lZ (x.tmod y)]):=by grind[Dl,QI,Sl]
theorem KQ(a:Nat):lZ (a:Int)= .agg [.bool YL,pli (ae a)]:=by grind
theorem OG(nx ny:Bool)(a b:Nat)(M:(ae a).length<=100000)(G:(ae b).length<=100000):ZK prog 132 [.agg [.bool nx,pli (ae a)],.agg [.bool ny,pli (ae b)]] (· = .agg [.bool YL,pli (ae (Nat.gcd a b))]):=by
 refine ZD func132 O ntmps132 λ_ _ _ _=>?_
 refine Z3 O<|Z4 O<|Gz O (st:=λZq:Nat×Nat=>([(2,WC),(3,WC),(4,WC)],[(0,WB (.mix 95 [.pv (.bool YL),.pv (pli (ae Zq.1))])),(1,WB (.mix 95 [.pv (.bool YL),.pv (pli (ae Zq.2))])),(2,WC)])) 3
  (I:=λZq=>Nat.gcd Zq.1 Zq.2=Nat.gcd a b/\(ae Zq.1).length<=100000/\(ae Zq.2).length<=100000) (μ:=λZq=>Zq.2) (x0:=(a,b)) (YS O) (⟨O,M,G⟩) ?_
 rintro⟨x,y⟩ ⟨hg,hxl,hyl2⟩;try simp only at hg hxl hyl2 ⊢
 refine Z4 O<|Gp O (λs=>?_) (λs=>?_)
 .have j:0<y:=oI Zi;have H:=Dl YL YL x y Zi hyl2 j;rw[show sgn (YL !=YL) (x/y)=((x/y:Nat):Int)from O,show sgn YL (x%y)=((x%y:Nat):Int)from O,KQ,KQ]at H;refine Vl<|Z2 O<|Rs O (aa call178 H O)<|Ar 7 O<|VC 4 O<|Dr 4 O ⟨Zj,⟨(y,x%y),YS O,⟨by rw[<-hg];exact mP x y,hyl2,K9 j hyl2⟩,WI _ j⟩⟩
 refine Gx O<|Z2 O<|Gt O ?_;have j:y=0:=bJ.1 Zi;exact⟨_,_,O,O,⟨ar ⟨_,aar,O⟩ Fb O O O,Zp⟩,by rw[<-hg,j,Nat.gcd_zero_right];rfl⟩
theorem xr(x y:Int)(s:(ae x.natAbs).length<=100000)(j:(ae y.natAbs).length<=100000):ZK prog 132 [lZ x,lZ y] (· =lZ (Int.gcd x y:Int)):=by have h:=OG (decide (x<0)) (decide (y<0)) x.natAbs y.natAbs s j;rw[KQ];exact h
theorem SD(z:Int):(!decide (z<0)&&decide (((ae z.natAbs).length:Int)>0))=decide (-z<0):=by
 have h:=BL (!decide (z<0)) z.natAbs;rw[h]
 congr 1
 by_cases hz:z<0
 .grind
 grind[sgn]
theorem yE(z:Int):ZK prog 179 [lZ z] (· =lZ (-z)):=by
 refine ZD func179 O ntmps179 λ_ _ _ _=>?_
 have j:=SD z;have s:(-z).natAbs=z.natAbs:=Int.natAbs_neg z;refine Z2 O<|Z4 O ?_;apply Vx 5 6 11 [7,8,9,10] O Zs
 .intro hb3;exact Ar 5 O<|Vp Zr O O O
 .intro hb3;exact Ar 5 O<|Vp Zr O O O
 exact Y2 O<|Z2 O<|YR O ⟨⟨ar ⟨_,aar,O⟩ Fb O O O,Zp⟩,by show _=PV.agg [.bool (decide (-z<0)),pli (ae (-z).natAbs)];rw[s,<-j];rfl⟩
def lY(n:Nat):Nat:=(Lib.decDigits n).length
theorem fX(h:10<=n):lY n=lY (n/10)+1:=by rw[lY,lY,Lib.decDigits,dif_neg Zi];simp
theorem cN(h:n<10):lY n=1:=by rw[lY,Lib.decDigits,dif_pos h];rfl
theorem Dv:∀k,10^k<=n->lY n=lY (n/10^k)+k
 |0,_=>by simp
 | k+1,h=>by
   rw[Wt]at h;have h1:10^k<=n:=OF (Nat.le_mul_of_pos_right _ Zk) h;have j:10<=n/10^k:=(X9 (Nat.pow_pos Zk)).2 (by rw[Wq];exact h);rw[Dv k h1,fX j,Nat.div_div_eq_div_mul,Wt];omega
def ndz(m:Nat):Nat:=if m=0 then 0 else lY m
theorem vx(j:0<k)(h:n<10^k):lY n<=k:=by
 induction k generalizing n with
 |zero=>omega
 | succ k ih=>
   by_cases h2:n<10
   .rw[cN h2];omega
   grind[fX,WG,X7,Wt]
theorem OZ(h:0<m):ndz m=ndz (m/10)+1:=by grind[ndz,cN,fX]
theorem N3(h:n≠0):lY n=9*((ae n).length-1)+ndz (lim (ae n) ((ae n).length-1)):=by
 induction n using Nat.strongRecOn with
 | ind n ih=>
   by_cases h2:n/1000000000=0
   .have:n<1000000000:=Zi;rw[eY h this];simp[ndz,h,lim]
   have e:=ih _ Zi h2;have hl:0<(ae (n/1000000000)).length:=X1 λe=>h2 (bJ.1 e)
   have j:10^9<=n:=Zi;rw[Dv 9 j,show(10:Nat)^9=1000000000 from O,e,dC h,VI];obtain⟨k,hk⟩:∃k,(ae (n/1000000000)).length=k+1:=⟨_,(Nat.succ_pred_eq_of_pos hl).symm⟩;rw[hk];simp only[Nat.add_sub_cancel,lim,List.getD_cons_succ];omega
theorem T3(h:a<=9223372036854775807):IntKind.i64.wrap ((a:Int).tdiv (b:Int))=((a/b:Nat):Int):=xl h
theorem zE(z:Int)(hl:(ae z.natAbs).length<=1000000):ZK prog 183 [lZ z] (· = ZU (lY z.natAbs:Int)):=by
 refine ZC func183 O ntmps183 λ_ _ _ _=>?_
 obtain⟨n,hn⟩:∃n,n=z.natAbs:=⟨_,O⟩;refine Z2 O<|Z4 O<|Gc O (λG=>?_) (λG=>?_)
 .refine Z1 O<|Gt O ?_;have W:=bJ.1 (show(ae z.natAbs).length=0 by have:=sk G;omega);exact⟨_,_,O,O,by rw[W,cN Zk];rfl⟩
 have hl0:0<(ae z.natAbs).length:=by have:=lT G;omega
 have T:z.natAbs≠0:=λe=>by rw[e,aV]at hl0;simp at hl0
 have j:(ae z.natAbs).length-1<(ae z.natAbs).length:=Zi;have hv:=cj j;have U:=dm j;have V:=N3 T;have H:=cK (a6 z.natAbs) ((ae z.natAbs).length-1);have X:ndz (lim (ae z.natAbs) ((ae z.natAbs).length-1))<=9:=by
  unfold ndz;split
  .decide
  rcases XE 9 (lY (lim (ae z.natAbs) ((ae z.natAbs).length-1)))with h|h
  .exact absurd (vx (k:=9) Zk H) Zi
  exact h
 refine Vl<|Gr O<|Ar 6 O ?_;generalize lim (ae z.natAbs) ((ae z.natAbs).length-1)=t at*;refine Gr O<|Ar 6 O<|Rs O (ai ((ae z.natAbs).length-1) aal sz3 O O Zi j U)<|A2 O Zl ?_;refine A1 O ?_;refine Gl O (st:=λZq:Nat×Nat=>ZT [(3,ZI (Zq.1:Int)),(4,ZI (Zq.2:Int))] [] 1)
  (I:=λZq=>Zq.1+ndz Zq.2=lY z.natAbs/\Zq.2<1000000000) (μ:=λZq=>Zq.2) (x0:=(9*((ae z.natAbs).length-1),t)) (Vn ⟨ah (λi=>ZI i) Zi,O,Zp⟩ trivial O O) (⟨V.symm,H⟩) ?_
 rintro⟨c,m⟩ ⟨hc,hm⟩;try simp only at hc hm ⊢
 refine Z2 O<|Gp O (λM=>?_) (λM=>?_)
 .refine Vl<|Z3 O ?_;have s:0<m:=Zi;have Y:=OZ s;exact Z1 O<|Rs O (XJ.cast (v':= ZI ((m/10:Nat):Int)) (dw O O Zk) (ah (λi=>ZI i) (T3 (b:=10) Zi)))<|A1 O<|⟨(c+1,m/10),Vn (aS O) trivial O O,⟨by show c+1+ndz (m/10)=lY z.natAbs;omega,Zi⟩,Zi⟩
 refine Gx O<|Z2 O<|Gt O ?_;have s:m=0:=Zi;rw[s]at hc;exact⟨_,_,O,O,ah (λn:Nat=>PV.int .i64 n) (by rw[<-hc];rfl)⟩
end
section
open Mk
def leD:Nat->Nat->List UInt8
 |0,_=>[]
 |k+1,n=>UInt8.ofNat (48+n%10)::leD k (n/10)
theorem leD_len:∀(k n:Nat),(leD k n).length=k
 |0,_=>rfl
 |k+1,n=>by simp[leD,leD_len k]
attribute [simp] leD_len
theorem BD:∀(a b n:Nat),leD (a+b) n=leD a n++leD b (n/10^a)
 |0,b,n=>by simp[leD]
 | a+1,b,n=>by
   rw[show a+1+b=(a+b)+1 by omega,leD,leD,BD a b,Wu,Nat.div_div_eq_div_mul,Wt,Wq 10]
theorem Ie:∀(k m n:Nat),k<=m->leD k (n%10^m)=leD k n
 |0,_,_,_=>rfl
 |k+1,0,_,h=>by omega
 | k+1,m+1,n,h=>by
   have e1:n%10^(m+1)%10=n%10:=Nat.mod_mod_of_dvd _ ⟨10^m,by rw[Wt,Wq]⟩;have j:n%10^(m+1)/10=n/10%10^m:=by rw[Wt,Wq];exact Nat.mod_mul_right_div_self n 10 (10^m)
   rw[leD,leD,e1,j,Ie k m _ Zi]
theorem C5:∀k,leD k 0=List.replicate k 48
 |0=>rfl
 |k+1=>by rw[leD,Nat.zero_mod,Nat.zero_div,C5 k];rfl
theorem QP(s:lY n<=k):leD k n=(Lib.decDigits n).reverse++List.replicate (k-lY n) 48:=by
 induction n using Nat.strongRecOn generalizing k with
 | ind n ih=>
   by_cases h:n<10
   .obtain⟨j,rfl⟩:∃j,k=j+1:=⟨k-1,by rw[cN h]at s;omega⟩;rw[cN h,leD,X5 h,Yg h,C5,Lib.decDigits,dif_pos h];rfl
   rw[fX Zi]at s;obtain⟨j,rfl⟩:∃j,k=j+1:=⟨k-1,Zi⟩;have G:Lib.decDigits n=Lib.decDigits (n/10)++[UInt8.ofNat (48+n%10)]:=by
    conv=>lhs;rw[Lib.decDigits]
    rw[dif_neg h]
   rw[leD,ih (n/10) Zi Zi,fX (n:=n) Zi,G,List.reverse_append];simp
theorem My(h:n≠0):(Lib.decDigits n).reverse.getD (lY n-1) 0≠48:=by
 induction n using Nat.strongRecOn with
 | ind n ih=>
   by_cases h2:n<10
   .rw[cN h2,Lib.decDigits,dif_pos h2];simp only[Nat.sub_self,List.reverse_singleton,List.getD_cons_zero];intro e;have:=ah UInt8.toNat e;simp at this;omega
   have:=ih (n/10) Zi Zi;rw[fX Zi,Lib.decDigits,dif_neg h2,List.reverse_append];have s:0<lY (n/10):=by grind[cN,fX]
   obtain⟨j,hj⟩:∃j,lY (n/10)=j+1:=⟨_,(Nat.succ_pred_eq_of_pos s).symm⟩;rw[hj]at this ⊢;simpa using this
theorem EH(n:Nat):lY n<=9*(ae n).length+1:=by
 by_cases h:n=0
 .grind[cN]
 have hl:=dX n;rw[show(1000000000:Nat)=10^9 from O,<-Nat.pow_mul]at hl;by_cases h0:(ae n).length=0
 .exact absurd (bJ.1 h0) h
 have:=vx Zi hl;omega
theorem A4(h:n≠0):lY n<=9*(ae n).length:=by
 have hl:=dX n;rw[show(1000000000:Nat)=10^9 from O,<-Nat.pow_mul]at hl;by_cases h0:(ae n).length=0
 .exact absurd (bJ.1 h0) h
 exact vx Zi hl
theorem Ox(n i:Nat):leD (9*(i+1)) n=leD (9*i) n++leD 9 (lim (ae n) i):=by
 rw[show 9*(i+1)=9*i+9 by omega,BD,ml]
 congr 1
 rw[show(1000000000:Nat)=10^9 from O,<-Nat.pow_mul,Ie 9 9 _ (BY _)]
theorem OE(k d:Nat):leD (k+1) d=leD k d++[UInt8.ofNat (48+d/10^k%10)]:=by rw[BD k 1];rfl
structure Rev(E e:List UInt8)(i:Nat):Prop where
 len:e.length=E.length
 ile:2*i<=E.length+1
 at_:∀j,j<E.length->e.getD j 0=if j<i\/E.length-i<=j then E.getD (E.length-1-j) 0 else E.getD j 0
theorem rev_zero(E:List UInt8):Rev E E 0:=⟨O,Zi,λj hj=>by rw[AS Zi]⟩
theorem yB{l:List UInt8}{x:UInt8}(j:k<l.length):(l.set k x).getD i 0=if i=k then x else l.getD i 0:=by grind
theorem Em{E:List UInt8}(h:Rev E e i)(G:i<E.length-1-i):Rev E ((e.set i (e.getD (E.length-1-i) 0)).set (E.length-1-i) (e.getD i 0)) (i+1):=by
 have hl:=h.len;refine⟨by simp[hl],Zi,λj hj=>?_⟩;have s:e.getD i 0=E.getD i 0:=by rw[h.at_ i Zi,AS Zi]
 have a2:e.getD (E.length-1-i) 0=E.getD (E.length-1-i) 0:=by rw[h.at_ _ Zi,AS Zi]
 rw[yB Zn,yB Zi,s,a2];by_cases h1:j=E.length-1-i
 .grind
 rw[AS h1];by_cases h2:j=i
 .grind
 rw[AS h2,h.at_ j hj];by_cases h3:j<i\/E.length-i<=j
 .rw[IT h3,IT Zi]
 rw[AS h3,AS Zi]
theorem Lk{E:List UInt8}(h:Rev E e i)(M:E.length<=2*i+1):e=E.reverse:=by
 have hl:=h.len;refine WU (by simp[hl]) λj h1 h2=>?_
 have s:j<E.length:=Zi;have G:=h.at_ j s;rw[List.getElem_reverse];have H:e.getD j 0=e[j]:=by simp[List.getD,h1]
 have I:E.getD (E.length-1-j) 0=E[E.length-1-j]:=by simp[List.getD,show E.length-1-j<E.length by omega]
 rw[<-H,G,<-I];split
 .rfl
 .congr 1;omega
theorem BP(l:List UInt8)(d:Nat)(j:d<10):aF l++[.int .u8 ((48:Int)+(d:Int))]=aF (l++[UInt8.ofNat (48+d)]):=by
 simp only[aF,Wf,ed,Wd]
 congr 3
 have:(UInt8.ofNat (48+d)).toNat=48+d:=by simp;omega
 rw[this];rfl
theorem bytesP_len(l:List UInt8):(aF l).length=l.length:=by simp[aF]
attribute [simp] bytesP_len
theorem BE(l:List UInt8)(k:Nat):(aF l).take k=aF (l.take k):=by simp[aF,Zd]
theorem kR(l:List UInt8)(k:Nat)(x:UInt8):(aF l).set k (.int .u8 (x.toNat:Int))=aF (l.set k x):=by simp[aF,Wp]
theorem iR{l:List UInt8}(h:k<l.length):(aF l)[k*1]? =WB (.int .u8 ((l.getD k 0).toNat:Int)):=by rw[rY h];simp[List.getD,h]
theorem gg(z:Int):Lib.itoa z=(if z<0 then [45]else [])++Lib.decDigits z.natAbs:=by
 unfold Lib.itoa;split
 .rfl
 grind
theorem nv:Lib.itoa 0=[48]:=by rw[gg,AS Zk,Int.natAbs_zero,Lib.decDigits,dif_pos Zk];rfl
theorem u8_48(x:UInt8):(((x.toNat:Nat):Int)==48)=YK↔x=48:=by
 rw[Xk];constructor
 .intro h;exact Yu.1 (show x.toNat=(48:UInt8).toNat from Int.ofNat_inj.1 h)
 .intro h;rw[h];rfl
theorem oa(z:Int)(hl:(ae z.natAbs).length<=1000000):ZK prog 76 [lZ z] (· = .str ⟨(Lib.itoa z).toArray⟩):=by
 refine ZC func76 O ntmps76 λ_ _ _ _=>?_
 obtain⟨n,hn⟩:∃n,n=z.natAbs:=⟨_,O⟩;refine Z2 O<|Z4 O<|Gc O (λY=>?_) (λY=>?_)
 .refine Z1 O<|Gt O ?_;have h0:=bJ.1 (show(ae z.natAbs).length=0 by have:=sk Y;omega);have hz:z=0:=Zi;exact⟨_,_,O,O,by rw[hz,nv];rfl⟩
 have hl0:0<(ae z.natAbs).length:=by have:=lT Y;omega
 have am:z.natAbs≠0:=λe=>by rw[e,aV]at hl0;simp at hl0
 refine Vl<|Z1 O<|Vm (Vs 3 1 1 5 O O)<|Z1 O<|Gz O (st:=λZq:Nat×List UInt8=>([(1,WC),(3,WB (.bz 1 1 Zq.2.length)),(4,WB (ZI Zq.1))],[(0,WC),(1,WB (.bD 5 (aF Zq.2)))])) 2
  (I:=λZq=>Zq.1<=(ae z.natAbs).length/\Zq.2=leD (9*Zq.1) z.natAbs) (μ:=λZq=>(ae z.natAbs).length-Zq.1) (x0:=(0,[])) (YS O) (⟨sh _,O⟩) ?_
 rintro⟨i,l⟩ ⟨hi,hll⟩;try simp only at hi hll ⊢
 refine Gr O<|Ar 5 O<|Gp O (λhc17=>?_) (λhc17=>?_)
 .have hil:i<(ae z.natAbs).length:=Zi;have hv:=cj hil;have hne:=dm hil;have hbd:=cK (a6 z.natAbs) i;have M:=Ox z.natAbs i;have hlen:l.length=9*i:=by rw[hll,leD_len]
  rw[<-hll]at M;clear hll;refine Vl ?_
  repeat apply Vy
  refine AW.block ?_;generalize lim (ae z.natAbs) i=d at*;refine Z4 O<|A2 O Zl ?_;refine A1 O<|Z1 O ?_;refine Gz O (st:=λG:Nat×List UInt8=>([(1,WC),(3,WB (.bz 1 1 G.2.length)),(4,WC),(5,WB (ZI ((d/10^G.1:Nat):Int))),(6,WB (ZI G.1))],[(0,WC),(1,WB (.bD 5 (aF G.2)))])) 2
   (I:=λG=>G.1<=9/\G.2=l++leD G.1 d) (μ:=λG=>9-G.1) (x0:=(0,l)) (Vn ⟨O,O,O,ah (λn:Nat=>ZI n) Zm,O,Zp⟩ (aO O) O O) (⟨sh _,by simp[leD]⟩) ?_
  rintro⟨k,m⟩ ⟨hk,hm⟩;try simp only at hk hm ⊢
  refine Z2 O<|Gp O (λhc26=>?_) (λhc26=>?_)
  .have hmlen:m.length=9*i+k:=by rw[hm];simp;omega
   have an:=OE k d;have hq:d/10^k<=d:=Zc _ _;have hq2:d/10^(k+1)=d/10^k/10:=by rw[Wt,Nat.div_div_eq_div_mul]
   have hs3:m++[UInt8.ofNat (48+d/10^k%10)]=l++leD (k+1) d:=by rw[an,hm,XO]
   have ao:d/10^k%10<10:=WI _ Zk;have hbs:=BP m (d/10^k%10) ao;clear hm an;refine Vl ?_
   repeat apply Vy
   refine AW.block ?_;generalize d/10^k=c at*;refine Z2 O<|Rs O (XJ.cast (v':= ZI ((c%10:Nat):Int)) (fC O O Zk) O)<|A1 O<|Rs O (XJ.cast (v':= .pv (.int .u8 ((48:Int)+((c%10:Nat):Int)))) (eX aan aau O) (ah (λi=>V.pv (.int .u8 i)) (by show((48:Int)+((c%10:Nat):Int))%256=_;omega))) ?_;exact Y3 O<|Z1 O<|Rs O (XJ.cast (v':= ZI ((c/10:Nat):Int)) (dw O O Zk) (ah (λi=>ZI i) (T3 (b:=10) Zi)))<|A1 O<|Z3 O<|⟨(k+1,m++[UInt8.ofNat (48+c%10)]),Vo [0,3] ⟨O,VT (b:= .bz 3 1 (m.length+1)) O (ah (V.bz 3 1) (cV m _)),O,ah (λn:Nat=>ZI n) hq2.symm,O,Zp⟩ ⟨O,ah (λc=>WB (Ob.bD 5 c)) hbs,Zp⟩ O O Zk O,⟨Zi,hs3⟩,Zi⟩
  have hk9:k=9:=Zi;rw[hk9,<-M]at hm;exact Gx O<|Z3 O<|⟨(i+1,m),YS O,⟨Zi,hm⟩,Zi⟩
 have hie:i=(ae z.natAbs).length:=Zi;rw[hie,QP (A4 am)]at hll;have H:=My am;have ap:(Lib.decDigits z.natAbs).reverse.length=lY z.natAbs:=by simp[lY]
 have hDp:0<lY z.natAbs:=by unfold lY;rw[Lib.decDigits];split<;>simp
 have ad:=gg z;have hdl:=EH z.natAbs;have hD:∃D,D=(Lib.decDigits z.natAbs).reverse:=⟨_,O⟩;obtain⟨D,hD⟩:=hD;rw[<-hD]at hll H ap;have hDr:Lib.decDigits z.natAbs=D.reverse:=by rw[hD,List.reverse_reverse]
 rw[hDr]at ad;clear hD hDr;rw[<-ap]at H hDp;have hlD:l.take D.length=D:=by rw[hll];simp
 have hge:D.length<=l.length:=by rw[hll];simp
 have hlge:∀j,D.length<=j->j<l.length->l.getD j 0=48:=λj h1 h2=>by
  rw[hll]at h2 ⊢;simp at h2;simp only[List.getD,List.getElem?_append_right h1,Yi];rw[IT Zi];rfl
 have hlt:l.getD (D.length-1) 0≠48:=by
  rw[hll];simp only[List.getD,List.getElem?_append_left (show D.length-1<D.length by omega)];simpa[List.getD]using H
 have hllen:l.length<=9000001:=by
  have:=ah List.length hll;simp at this;omega
 clear hll H;refine Vm (St.JT 3 O O Zi (rK (k:=0) Zi))<|Gx O<|Gz O (st:=λW:Nat=>([(1,WC),(3,WB (.bJ 1 1 W))],[(0,WC),(1,WC)])) 2
  (I:=λW=>D.length<=W/\W<=l.length) (μ:=λW=>W) (x0:=(l.length)) (YS O) (⟨hge,BY _⟩) ?_
 rintro k ⟨T,hk2⟩;have hkl:k-1<l.length:=Zi;have hvk:=iR hkl;have h48:=u8_48 (l.getD (k-1) 0);have hgek:=hlge (k-1);have heq:k=D.length->l.getD (k-1) 0≠48:=λe=>by rw[e];exact hlt
 generalize l.getD (k-1) 0=ck at*;refine Z4 O<|Rs O (ag (k-1) aav sz5 O O O Zi Zi)<|A2 O Zl ?_;refine A1 O ?_;refine Gc O (λaa=>?_) (λaa=>?_)
 .have hk3:D.length<=k-1:=by have h1:=h48.1 aa;rcases XE (k-1) D.length with e|e;exact absurd h1 (heq Zi);exact e
  exact Vl<|Z4 O<|Rs O (gj (k-1) aav sz5 O O O Zi Zi)<|A1 O<|⟨(k-1),YS O,⟨hk3,Zi⟩,Zi⟩
 have hk3:k=D.length:=by
  apply Decidable.byContradiction;intro hne;have:=h48.2 (hgek Zi hkl);rw[aa]at this;cases this
 refine Gx O<|Vm (St.SP (vs:=aF D) 1 k (by rfl) (by rw[BE,hk3,hlD])) ?_;rw[hk3];refine Z2 O<|Gc O (λab=>?_) (λab=>?_)
 .have hE:∃E,E=D++[45]:=⟨_,O⟩;obtain⟨E,hE⟩:=hE;have af:Lib.itoa z=E.reverse:=by rw[ad,IT (by simpa using ab),hE];simp
  have hEl:E.length=D.length+1:=by rw[hE];simp
  refine Z2 O<|Rs O (nU 3 Sh O O Zm O O O O Zi O)<|A1 O ?_;rw[show aF D++[PV.int .u8 45]=aF E by rw[hE];simp[aF],<-hEl];refine Gr O<|Ar 5 O<|Gl O (st:=λs:Nat×List UInt8=>ZT [(3,.bJ 1 1 s.2.length),(7,ZI s.1),(8,ZI ((s.2.length:Int)-1-s.1))] [(1,.cells 5 (aF s.2))] 2)
   (I:=λs=>Rev E s.2 s.1) (μ:=λs=>s.2.length-s.1) (x0:=(0,E)) (Vo [0,3] ⟨O,O,ah (λi=>ZI i) Zm,Zp⟩ (aP O) O O Zk O) (rev_zero E) ?_
  rintro⟨i,e⟩ hR;try simp only at hR ⊢
  refine Z3 O<|Gp O (λac=>?_) (λac=>?_)
  .have hel:=hR.len;have U:i<e.length:=Zi;have T:e.length-1-i<e.length:=Zi;have hvi:=iR U;have hvk:=iR T;have M:=Em hR Zi;rw[<-hel]at M;have X:((aF e).set (i*1) (.int .u8 ((e.getD (e.length-1-i) 0).toNat:Int))).set ((e.length-1-i)*1) (.int .u8 ((e.getD i 0).toNat:Int))=aF ((e.set i (e.getD (e.length-1-i) 0)).set (e.length-1-i) (e.getD i 0)):=by rw[VY,VY,kR,kR]
   have ai:((e.set i (e.getD (e.length-1-i) 0)).set (e.length-1-i) (e.getD i 0)).length=e.length:=Zm;clear hR;refine Vl ?_
   repeat apply Vy
   refine AW.block ?_;generalize (e.set i (e.getD (e.length-1-i) 0)).set (e.length-1-i) (e.getD i 0)=e2 at*;generalize e.getD (e.length-1-i) 0=ck at*;generalize e.getD i 0=ci at*;refine VC 16 O<|Dr 6 O<|YQ [_] O (λτ h=>ag (e.length-1-i) aav sz5 (Ee h 0 O) (Eo h 0 O) (Ee h 1 O) Zi T)<|D2 O O Zl ?_;refine Dr 2 O<|YQ [_] O (λτ h=>ag i aav sz5 (Ee h 0 O) (Eo h 0 O) (Ee h 1 O) O U)<|D2 O O Zl ?_;refine YQ [_] O (λτ h=>ag i aav sz5 (Ee h 0 O) (Eo h 0 O) (Ee h 1 O) O U)<|D1 O O<|YQ [_] O (λτ h=>ag (e.length-1-i) aav sz5 (Ee h 0 O) (Eo h 0 O) (Ee h 1 O) Zi T)<|D1 O O ⟨Zj,Gr O<|Ar 6 O<|⟨(i+1,e2),Vn ⟨ah (V.bJ 1 1) ai.symm,O,ah (λi:Int=>V.pv (PV.int .i64 i)) (show(e.length:Int)-1-i-1=(e2.length:Int)-1-((i+1:Nat):Int) by omega),Zp⟩ ⟨ah (λc=>WB (Ob.cells 5 c)) X,Zp⟩ O O,M,by show e2.length-(i+1)<e.length-i;omega⟩⟩
  have hel:=hR.len;have al:=Lk hR Zi;refine Gx O<|Z1 O<|Rs O (J3 e aav aau aam (.inr ⟨_,_,_,_,O,O,(by rw[VY];exact(aG Zm).symm)⟩)) ?_;exact A1 O<|YR O<|by rw[af,<-al];rfl
 have hE:∃E,E=D:=⟨_,O⟩;obtain⟨E,hE⟩:=hE;have af:Lib.itoa z=E.reverse:=by rw[ad,AS (by simpa using ab),hE];simp
 have hEl:E.length<=D.length+1:=by rw[hE];omega
 rw[<-hE];refine Vl<|Gr O<|Ar 5 O<|Gl O (st:=λs:Nat×List UInt8=>ZT [(3,.bJ 1 1 s.2.length),(7,ZI s.1),(8,ZI ((s.2.length:Int)-1-s.1))] [(1,.cells 5 (aF s.2))] 2)
  (I:=λs=>Rev E s.2 s.1) (μ:=λs=>s.2.length-s.1) (x0:=(0,E)) (Vn ⟨O,O,ah (λi=>ZI i) Zm,Zp⟩ (aO O) O O) (rev_zero E) ?_
 rintro⟨i,e⟩ hR;try simp only at hR ⊢
 refine Z3 O<|Gp O (λac=>?_) (λac=>?_)
 .have hel:=hR.len;have U:i<e.length:=Zi;have T:e.length-1-i<e.length:=Zi;have hvi:=iR U;have hvk:=iR T;have M:=Em hR Zi;rw[<-hel]at M;have X:((aF e).set (i*1) (.int .u8 ((e.getD (e.length-1-i) 0).toNat:Int))).set ((e.length-1-i)*1) (.int .u8 ((e.getD i 0).toNat:Int))=aF ((e.set i (e.getD (e.length-1-i) 0)).set (e.length-1-i) (e.getD i 0)):=by rw[VY,VY,kR,kR]
  have ai:((e.set i (e.getD (e.length-1-i) 0)).set (e.length-1-i) (e.getD i 0)).length=e.length:=Zm;clear hR;refine Vl ?_
  repeat apply Vy
  refine AW.block ?_;generalize (e.set i (e.getD (e.length-1-i) 0)).set (e.length-1-i) (e.getD i 0)=e2 at*;generalize e.getD (e.length-1-i) 0=ck at*;generalize e.getD i 0=ci at*;refine VC 16 O<|Dr 6 O<|YQ [_] O (λτ h=>ag (e.length-1-i) aav sz5 (Ee h 0 O) (Eo h 0 O) (Ee h 1 O) Zi T)<|D2 O O Zl ?_;refine Dr 2 O<|YQ [_] O (λτ h=>ag i aav sz5 (Ee h 0 O) (Eo h 0 O) (Ee h 1 O) O U)<|D2 O O Zl ?_;refine YQ [_] O (λτ h=>ag i aav sz5 (Ee h 0 O) (Eo h 0 O) (Ee h 1 O) O U)<|D1 O O<|YQ [_] O (λτ h=>ag (e.length-1-i) aav sz5 (Ee h 0 O) (Eo h 0 O) (Ee h 1 O) Zi T)<|D1 O O ⟨Zj,Gr O<|Ar 6 O<|⟨(i+1,e2),Vn ⟨ah (V.bJ 1 1) ai.symm,O,ah (λi:Int=>V.pv (PV.int .i64 i)) (show(e.length:Int)-1-i-1=(e2.length:Int)-1-((i+1:Nat):Int) by omega),Zp⟩ ⟨ah (λc=>WB (Ob.cells 5 c)) X,Zp⟩ O O,M,by show e2.length-(i+1)<e.length-i;omega⟩⟩
 have hel:=hR.len;have al:=Lk hR Zi;refine Gx O<|Z1 O<|Rs O (J3 e aav aau aam (.inr ⟨_,_,_,_,O,O,(by rw[VY];exact(aG Zm).symm)⟩)) ?_;exact A1 O<|YR O<|by rw[af,<-al];rfl
def u0(n:Nat):Bool:=decide (400<lY n)
theorem ug(z:Int)(hl:(ae z.natAbs).length<=1000000):ZK prog 130 [lZ z] (· = .bS [.str (if u0 z.natAbs=YK then⟨#[]⟩else⟨(Lib.itoa z).toArray⟩),.int .i64 (if u0 z.natAbs=YK then 3 else 0)]):=by
 refine ZC func130 O ntmps130 λ_ _ _ _=>?_
 refine Z3 O<|Z1 O<|Rs O (aa call183 (zE z hl) O)<|A1 O<|Gp O (λj=>?_) (λj=>?_)
 .exact Z2 O<|YR O<|by rw[IT (by rw[u0];simp;omega),IT (by rw[u0];simp;omega)];rfl
 exact Vl<|Z1 O<|Rs O (aa call76 (oa z hl) O)<|Y2 O<|YR O<|by rw[AS (by rw[u0];simp;omega),AS (by rw[u0];simp;omega)];rfl
end
end Go.Proofs.YthicoeegbdboeaaGreatDoor
