/- Lemmas. No condition. -/
import Derived.Test.YtkkenamefaegfaaGreatDoorJE15
set_option maxRecDepth 100000
set_option maxHeartbeats 4000000
open Go.RowKit Go.Proofs.Tryz
open Option renaming some→UF,none→UG
open Bool renaming true→VA,false→VC
namespace Go.Proofs.YtkkenamefaegfaaGreatDoor
variable{S:Sch}{a i n o v b k:Nat}{z x:Int}{dr ht:Bool}{t:ByteArray}{A K P l:List Int}{u:List ByteArray}
section
open Go.RowKit Mk Jn Mm Vw
theorem tH(n:Nat):FulR (cnt n) ((n:Int):Rat) [] []:=by
 refine⟨?_,?_,?_⟩<;>rw[sY]
 .exact T3 _
 exact T3 _
open Classical in
theorem Ba(p:Par)(x z:Rat)(s:dw 6 x)(B:bj 3 x)(D:z=x*x):FulR (lft p x) ((1:Int):Rat) (note VC [] p x) (note VC [] (cP p p) z):=by
 have j:cP p p=(p,p):=cQ (by rw[eJ.2 O];decide);rw[D,j];have q:note VC ([]:List (Par×Rat)) p x=[(p,x)]:=by simp[note]
 have r:note VC ([]:List (PP×Rat)) (p,p) (x*x)=[((p,p),x*x)]:=by simp[note]
 rw[q,r];refine⟨?_,?_,?_⟩<;>rw[NO p x s B]
 .rfl
 .by_cases h:x=0<;>simp[mcOne,nzL,h]
 by_cases h:x=0
 .simp[mcOne,nzL,h]
 have:x*x≠0:=λe=>h (Qm e)
 simp[mcOne,nzL,h,this]
structure LfI(S:Sch)(a:Int)(i:Nat)(z:Int)(dr ht:Bool):Prop where
 n:i<=S.feats.length
 c:(∃j,∃h:j<S.feats.length,j<i/\S.feats[j].1=a/\z=(j:Int)/\dr=(S.feats[j].2.2==1)/\ht=(S.feats[j].2.1==2))\/((∀j (h:j<S.feats.length),j<i->S.feats[j].1≠a)/\z=(if a=S.label then-1 else-2)/\dr=VA/\ht=VC)
theorem LfI.start(S:Sch)(a:Int):LfI S a 0 (if a=S.label then-1 else-2) VA VC:=⟨aJ _,.inr ⟨λj _ h=>absurd h Xj,O,O,O⟩⟩
theorem LfI.hit{a:Int}(h:i<S.feats.length)(e:S.feats[i].1=a):LfI S a (i+1) i (S.feats[i].2.2==1) (S.feats[i].2.1==2):=⟨h,.inl ⟨i,h,Xj,e,O,O,O⟩⟩
theorem LfI.miss{a:Int}(h:LfI S a i z dr ht)(q:i<S.feats.length)(e:S.feats[i].1≠a):LfI S a (i+1) z dr ht:=by
 refine⟨q,?_⟩;rcases h.c with⟨j,hj,h1,h2⟩|⟨h1,h2⟩
 .exact .inl ⟨j,hj,Xj,h2⟩
 refine .inr ⟨λj hj hji=>?_,h2⟩;by_cases e2:j=i
 .subst e2;exact e
 exact h1 j hj Xj
theorem LfI.end{a:Int}(h:LfI S a i z dr ht)(H:S.feats.length<=i)(G:fv S.attrs S.feats S.label n)(q:ByteArray->Rat)(v:ByteArray):
  (z= -2->liftS q S a v=cnt 1)/\(z≠ -2->(ht=VA->liftS q S a v=lft ⟨z,v⟩ 1)/\(ht=VC->(v=⟨#[]⟩->liftS q S a v=if dr=VA then cnt 0 else cnt 1)/\(v≠⟨#[]⟩->liftS q S a v=lft ⟨z,⟨#[]⟩⟩ (q v)/\(a=S.label\/∃i,S.feats.findIdx? (λf=>f.1==a)=UF i/\(S.feats.getD i default).2.1≠2)))):=by
 rcases h.c with⟨j,hj,_,h1,h2,h3,h4⟩|⟨h1,h2,h3,h4⟩
 .have hfi:S.feats.findIdx? (λf=>f.1==a)=UF j:=by
   rw[U4];refine⟨hj,by simpa using h1,λk hk=>?_⟩;have:=Uj.1 G.1 k j Xo (by simpa using hj) hk;simp only[UP]at this;simp;omega
  have E:S.feats.getD j default=S.feats[j]:=by simp[List.getD,hj]
  have s:¬a=S.label:=by
   obtain⟨b,g1,_,g2,_⟩:=G.2.1 _ (aq hj);omega
  have e:liftS q S a v=if S.feats[j].2.1=2 then lft ⟨j,v⟩ 1 else if v=⟨#[]⟩then(if S.feats[j].2.2=1 then cnt (0:Nat)else cnt (1:Nat))else lft ⟨j,⟨#[]⟩⟩ (q v):=by
   rw[liftS,sh s,hfi];simp only;rw[E]
  refine⟨λD=>by omega,λ_=>⟨λr=>?_,λr=>?_⟩⟩
  .rw[e,By (by rw[h4]at r;simpa using r),h2]
  have hk:¬S.feats[j].2.1=2:=by rw[h4]at r;simpa using r
  rw[e,sh hk];refine⟨λB=>?_,λB=>⟨by rw[sh B,h2],.inr ⟨j,hfi,by rw[E];exact hk⟩⟩⟩;rw[By B,h3];by_cases g:S.feats[j].2.2=1
  .rw[By g,By (by simpa using g)];rfl
  rw[sh g,sh (by simpa using g)];rfl
 have hfi:S.feats.findIdx? (λf=>f.1==a)=UG:=by
  rw[List.findIdx?_eq_none_iff];intro f hf2;obtain⟨j,hj,rfl⟩:=Ux hf2;simpa using h1 j hj Xj
 by_cases s:a=S.label
 .rw[By s]at h2;refine⟨λD=>by omega,λ_=>⟨λr=>absurd (h4.symm.trans r) Xl,λ_=>⟨λB=>?_,λB=>⟨?_,.inl s⟩⟩⟩⟩
  .rw[liftS,By s,By B,h3,By O];rfl
  rw[liftS,By s,sh B,h2]
 rw[sh s]at h2;refine⟨λ_=>?_,λD=>absurd h2 D⟩;rw[liftS,sh s,hfi];rfl
theorem zM(q:ByteArray->Rat)(S:Sch)(a:Int)(v:ByteArray)(hf:fv S.attrs S.feats S.label n)(hl:S.feats.length<=1000000)(hq:v≠⟨#[]⟩->(a=S.label\/∃i,S.feats.findIdx? (λf=>f.1==a)=UF i/\(S.feats.getD i default).2.1≠2)->(v=bo (q v)/\F1 (q v))/\VQ q v):
  FnO prog 51 0 2 [.pv (gC S),pIi a,.pv (.str v)] [] (λr ob'=>∃c s p,FulR (liftS q S a v) c s p/\r= .agg (bR c 0 1)/\ob'=aB [(0,.mp (aj aW s) (ay s)),(1,.mp (aj ppP p) (ay p))]):=by
 refine FnO.ofC func51 O ntmps51 Xn λ_ _ _ _=>?_
 have Z:=jh 0 Xl Xl;have W:=jh 1 Xl Xl;have ab:=mj 1 Xl Xl;have r1:RSm ((1:Int):Rat):=ca (dw.ofInt 36 1) (B:=1) ⟨by decide+kernel,by decide+kernel⟩ Xu;have he:=tc v;have V:∀{K:Type},∀e∈([]:List (K×Rat)),RSm e.2:=λe h=>absurd h Xn
 refine Z2 O<|Z3 O<|AW.cut (st:=λY:Int=>mkS [(1,pIi a),(2,.pv (.str v)),(3,.ptr 0 0),(6,.ptr 1 0),(7,pIi Y),(8,.pv (.bool VA)),(9,.pv (.bool VC))] [(0,oZ S),(1,.mix 138 [.pv (.bool VC),.pv nS,.pv (.bool VC),.pv nS,.pv .nilmap,.pv .nilmap])] 2)
  (I:=λY=>(if a=S.label then-1 else-2)=Y) ?_ ?_
 .refine Z4 O ?_;refine Gc O (λE=>?_) (λE=>?_)
  .have h0:a=S.label:=by simpa using E
   exact Z1 O<|⟨(-1),Tk (aS O) (aO Xk) O O,By h0⟩
  have h0:¬a=S.label:=by simpa using E
  exact Ti<|⟨(-2),Tk (aS O) (aO Xk) O O,sh h0⟩
 rintro z0 hz0;refine Z4 O<|Gz O (st:=λXr:Nat×Int×Bool×Bool=>([(1,UG),(2,UG),(6,UG),(7,UF (pIi Xr.2.1)),(8,UF (.pv (.bool Xr.2.2.1))),(9,UF (.pv (.bool Xr.2.2.2))),(20,UG),(21,UG),(22,UF (pIi Xr.1))],[(1,UG)])) 2
  (I:=λXr=>LfI S a Xr.1 Xr.2.1 Xr.2.2.1 Xr.2.2.2) (μ:=λXr=>S.feats.length-Xr.1) (x0:=(0,z0,VA,VC)) (Tk (aS O) (aO Xk) O O) (hz0▸LfI.start S a) ?_
 rintro⟨i,z,dr,ht⟩ hI;try simp only at hI ⊢
 refine Z1 O<|Gp O (λhc23=>?_) (λhc23=>?_)
 .have hlt:i<S.feats.length:=Xj;have ac:=kB hlt;have hne:=og hlt;refine Ti<|Z1 O<|Rs O (ag i underlying28 Mb O O O hlt hne)<|Rs O (aG ⟨_,underlying83,O⟩ Mb O ac O)<|Y3 O<|Z4 O<|Gc O (λG=>?_) (λG=>?_)
  .have h1:S.feats[i].1=a:=by simpa using G
   refine UB 10 O<|Dr 10 O ?_;refine⟨Xk,?_⟩;exact Z2 O<|⟨(i+1,(i:Int),(S.feats[i].2.2==1),(S.feats[i].2.1==2)),Tk (aS O) (aO Xk) O O,LfI.hit hlt h1,Xj⟩
  have h1:¬S.feats[i].1=a:=by simpa using G
  exact Ti<|Z2 O<|⟨(i+1,z,dr,ht),Tk (aS O) (aO Xk) O O,hI.miss hlt h1,Xj⟩
 obtain⟨k1,k2⟩:=hI.end Xj hf q v;refine Gx O<|Z2 O<|Gc O (λH=>?_) (λH=>?_)
 .have h2:=k1 (by simpa using H);exact Gr O<|Rs O (aF [] 2 call108 W O O O O trivial Xl O)<|A1 O<|Gt O<|⟨[(6,.ptr 2 0)],[(0,.mp (aj aW ([]:List (Par×Rat))) (ay ([]:List (Par×Rat)))),(1,.mp (aj ppP ([]:List (PP×Rat))) (ay ([]:List (PP×Rat)))),(2,.mix 138 (bR (((1:Int):Rat)) 0 1))],[.agg (bR (((1:Int):Rat)) 0 1)],[(0,.mp (aj aW ([]:List (Par×Rat))) (ay ([]:List (Par×Rat)))),(1,.mp (aj ppP ([]:List (PP×Rat))) (ay ([]:List (PP×Rat))))],3,Tl [2,3,1] (aT Xk) (aP Xk) O O Xl O,O,⟨ax ⟨_,underlying138,O⟩ tR O O O,Xq⟩,O,O,λi o h=>dN [(0,.mp (aj aW ([]:List (Par×Rat))) (ay ([]:List (Par×Rat)))),(1,.mp (aj ppP ([]:List (PP×Rat))) (ay ([]:List (PP×Rat))))] [(2,.mix 138 (bR (((1:Int):Rat)) 0 1))] i o h,Xl,_,_,_,h2▸tH 1,O,O⟩
 have h2:¬z= -2:=by simpa using H
 obtain⟨k3,k4⟩:=k2 h2;clear k1 k2;refine Ti<|Gr O<|Rs O (aF [] 2 call108 W O O O O trivial Xl O)<|Y2 O<|Z4 O<|Z1 O<|Gc O (λL=>?_) (λL=>?_)
 .have h3:=k3 (show ht=VA from L);have j:=jS ((1:Int):Rat) [] [] ⟨z,v⟩ ((1:Int):Rat) r1 V;have D:=dm ((1:Int):Rat) (note VC [] ⟨z,v⟩ ((1:Int):Rat)) [] ⟨z,v⟩ ⟨z,v⟩ ((1:Int):Rat) r1 V;refine Z3 O<|UB 4 O<|Dr 2 O<|TR O (λτ h=>aa call57 ab (h.aD O))<|VE [2,3] O (λτ h=>aF [2,3] 6 call109 j (h.args.trans Xk) O O O ⟨((h.o 0 _ O).trans Xk),((h.o 1 _ O).trans Xk),Xq⟩ Xl O) ?_;refine⟨Xk,?_⟩;refine UB 5 O<|Dr 3 O<|TR O (λτ h=>aa call57 ab (h.aD O))<|VE [2,3] O (λτ h=>aF [2,3] 6 call110 D (h.args.trans Xk) O O O ⟨((h.o 0 _ O).trans Xk),((h.o 1 _ O).trans Xk),Xq⟩ Xl O) ?_;refine⟨Xk,?_⟩;exact Z2 O<|Gt O<|⟨[(6,.ptr 2 0)],[(0,.mp (aj aW (note VC ([]:List (Par×Rat)) ⟨z,v⟩ ((1:Int):Rat))) (ay (note VC ([]:List (Par×Rat)) ⟨z,v⟩ ((1:Int):Rat)))),(1,.mp (aj ppP (note VC ([]:List (PP×Rat)) (cP ⟨z,v⟩ ⟨z,v⟩) ((1:Int):Rat))) (ay (note VC ([]:List (PP×Rat)) (cP ⟨z,v⟩ ⟨z,v⟩) ((1:Int):Rat)))),(2,.mix 138 (bR (((1:Int):Rat)) 0 1))],[.agg (bR (((1:Int):Rat)) 0 1)],[(0,.mp (aj aW (note VC ([]:List (Par×Rat)) ⟨z,v⟩ ((1:Int):Rat))) (ay (note VC ([]:List (Par×Rat)) ⟨z,v⟩ ((1:Int):Rat)))),(1,.mp (aj ppP (note VC ([]:List (PP×Rat)) (cP ⟨z,v⟩ ⟨z,v⟩) ((1:Int):Rat))) (ay (note VC ([]:List (PP×Rat)) (cP ⟨z,v⟩ ⟨z,v⟩) ((1:Int):Rat))))],3,Tl [2,3,1] (aT Xk) (aP Xk) O O Xl O,O,⟨ax ⟨_,underlying138,O⟩ tR O O O,Xq⟩,O,O,λi o h=>dN [(0,.mp (aj aW (note VC ([]:List (Par×Rat)) ⟨z,v⟩ ((1:Int):Rat))) (ay (note VC ([]:List (Par×Rat)) ⟨z,v⟩ ((1:Int):Rat)))),(1,.mp (aj ppP (note VC ([]:List (PP×Rat)) (cP ⟨z,v⟩ ⟨z,v⟩) ((1:Int):Rat))) (ay (note VC ([]:List (PP×Rat)) (cP ⟨z,v⟩ ⟨z,v⟩) ((1:Int):Rat))))] [(2,.mix 138 (bR (((1:Int):Rat)) 0 1))] i o h,Xl,_,_,_,h3▸Ba ⟨z,v⟩ 1 ((1:Int):Rat) (dw.ofInt 6 1) ⟨by decide+kernel,by decide+kernel⟩ Xu,O,O⟩
 obtain⟨k5,k6⟩:=k4 (show ht=VC from L);refine Ti<|Z2 O<|Gc O (λM=>?_) (λM=>?_)
 .have h4:v=⟨#[]⟩:=by have h9:(v.toList==(⟨#[]⟩:ByteArray).toList)=VA:=M;rw[he]at h9;simpa using h9
  have h5:=k5 h4;refine Z1 O<|Gc O (λU=>?_) (λU=>?_)
  .have h6:liftS q S a v=cnt 0:=h5.trans (By U);exact Gr O<|Rs O (aF [] 6 call108 Z O O O O trivial Xl O)<|A1 O<|Gt O<|⟨[(6,.ptr 2 0)],[(0,.mp (aj aW ([]:List (Par×Rat))) (ay ([]:List (Par×Rat)))),(1,.mp (aj ppP ([]:List (PP×Rat))) (ay ([]:List (PP×Rat)))),(2,.mix 138 (bR (((0:Int):Rat)) 0 1))],[.agg (bR (((0:Int):Rat)) 0 1)],[(0,.mp (aj aW ([]:List (Par×Rat))) (ay ([]:List (Par×Rat)))),(1,.mp (aj ppP ([]:List (PP×Rat))) (ay ([]:List (PP×Rat))))],3,Tl [6,7,1] (aT Xk) (aP Xk) O O Xl O,O,⟨ax ⟨_,underlying138,O⟩ tR O O O,Xq⟩,O,O,λi o h=>dN [(0,.mp (aj aW ([]:List (Par×Rat))) (ay ([]:List (Par×Rat)))),(1,.mp (aj ppP ([]:List (PP×Rat))) (ay ([]:List (PP×Rat))))] [(2,.mix 138 (bR (((0:Int):Rat)) 0 1))] i o h,Xl,_,_,_,h6▸tH 0,O,O⟩
  have h6:liftS q S a v=cnt 1:=h5.trans (sh (by rw[show dr=VC from U];decide));exact Ti<|Z2 O<|Gt O<|⟨[(6,.ptr 2 0)],[(0,.mp (aj aW ([]:List (Par×Rat))) (ay ([]:List (Par×Rat)))),(1,.mp (aj ppP ([]:List (PP×Rat))) (ay ([]:List (PP×Rat)))),(2,.mix 138 (bR (((1:Int):Rat)) 0 1))],[.agg (bR (((1:Int):Rat)) 0 1)],[(0,.mp (aj aW ([]:List (Par×Rat))) (ay ([]:List (Par×Rat)))),(1,.mp (aj ppP ([]:List (PP×Rat))) (ay ([]:List (PP×Rat))))],3,Tl [2,3,1] (aT Xk) (aP Xk) O O Xl O,O,⟨ax ⟨_,underlying138,O⟩ tR O O O,Xq⟩,O,O,λi o h=>dN [(0,.mp (aj aW ([]:List (Par×Rat))) (ay ([]:List (Par×Rat)))),(1,.mp (aj ppP ([]:List (PP×Rat))) (ay ([]:List (PP×Rat))))] [(2,.mix 138 (bR (((1:Int):Rat)) 0 1))] i o h,Xl,_,_,_,h6▸tH 1,O,O⟩
 have h4:¬v=⟨#[]⟩:=by have h9:(v.toList==(⟨#[]⟩:ByteArray).toList)=VC:=M;rw[he]at h9;simpa using h9
 obtain⟨h5,h6⟩:=k6 h4;obtain⟨⟨e1,e2⟩,hV⟩:=hq h4 h6;have hrd:=pw (q v) e2;rw[<-e1]at hrd;have rq:=e2.rsm;have hmu:=cX (q v) (q v) rq rq;have rqq:RSm (q v*q v):=ca (hV.i.mul hV.i) (hV.b.mul hV.b) Xu;have j:=jS ((1:Int):Rat) [] [] ⟨z,⟨#[]⟩⟩ (q v) rq V;have D:=dm ((1:Int):Rat) (note VC [] ⟨z,⟨#[]⟩⟩ (q v)) [] ⟨z,⟨#[]⟩⟩ ⟨z,⟨#[]⟩⟩ (q v*q v) rqq V;refine Ti<|Z1 O<|Rs O (aa call111 hrd O)<|Y2 O<|Z3 O<|Rs O (aF [2,3] 7 call109 j Xk O O O ⟨Xk,Xk,Xq⟩ Xl O)<|UB 7 O<|Dr 5 O<|TR O (λτ h=>aa call112 hmu (h.aD O))<|VE [2,3] O (λτ h=>aF [2,3] 7 call110 D (h.args.trans Xk) O O O ⟨((h.o 0 _ O).trans Xk),((h.o 1 _ O).trans Xk),Xq⟩ Xl O) ?_;refine⟨Xk,?_⟩;exact Z2 O<|Gt O<|⟨[(6,.ptr 2 0)],[(0,.mp (aj aW (note VC ([]:List (Par×Rat)) ⟨z,⟨#[]⟩⟩ (q v))) (ay (note VC ([]:List (Par×Rat)) ⟨z,⟨#[]⟩⟩ (q v)))),(1,.mp (aj ppP (note VC ([]:List (PP×Rat)) (cP ⟨z,⟨#[]⟩⟩ ⟨z,⟨#[]⟩⟩) (q v*q v))) (ay (note VC ([]:List (PP×Rat)) (cP ⟨z,⟨#[]⟩⟩ ⟨z,⟨#[]⟩⟩) (q v*q v)))),(2,.mix 138 (bR (((1:Int):Rat)) 0 1))],[.agg (bR (((1:Int):Rat)) 0 1)],[(0,.mp (aj aW (note VC ([]:List (Par×Rat)) ⟨z,⟨#[]⟩⟩ (q v))) (ay (note VC ([]:List (Par×Rat)) ⟨z,⟨#[]⟩⟩ (q v)))),(1,.mp (aj ppP (note VC ([]:List (PP×Rat)) (cP ⟨z,⟨#[]⟩⟩ ⟨z,⟨#[]⟩⟩) (q v*q v))) (ay (note VC ([]:List (PP×Rat)) (cP ⟨z,⟨#[]⟩⟩ ⟨z,⟨#[]⟩⟩) (q v*q v))))],3,Tl [2,3,1] (aT Xk) (aP Xk) O O Xl O,O,⟨ax ⟨_,underlying138,O⟩ tR O O O,Xq⟩,O,O,λi o h=>dN [(0,.mp (aj aW (note VC ([]:List (Par×Rat)) ⟨z,⟨#[]⟩⟩ (q v))) (ay (note VC ([]:List (Par×Rat)) ⟨z,⟨#[]⟩⟩ (q v)))),(1,.mp (aj ppP (note VC ([]:List (PP×Rat)) (cP ⟨z,⟨#[]⟩⟩ ⟨z,⟨#[]⟩⟩) (q v*q v))) (ay (note VC ([]:List (PP×Rat)) (cP ⟨z,⟨#[]⟩⟩ ⟨z,⟨#[]⟩⟩) (q v*q v))))] [(2,.mix 138 (bR (((1:Int):Rat)) 0 1))] i o h,Xl,_,_,_,h5▸Ba ⟨z,⟨#[]⟩⟩ (q v) _ hV.i hV.b O,O,O⟩
theorem lfG(j:Made S 5 o)(q:t∈XM S v):GS S (lfM S v t):=by
 have h:=tz j;exact⟨h.g v t q,by rw[h.w];decide,by rw[h.k];decide⟩
theorem Jw(q:Made S 5 o)(hQ:(QM S).length<=1000)(I:v<S.attrs.length)(L:t∈XM S v):FnP prog 16 [gC S,.int .i64 v,.str t] (· = .tup [lR (cn (lfM S v t).m),.int .i64 0]):=by
 refine FnP.ofC func16 O ntmps16 Xn λ_ _ _ _=>?_
 have E:=w8 S (uP q Xl);rw[kg q Xl]at E;have M:=rX q _ (aq I);have U:t∈fF S.attrs[v].2:=by
  have:=L;unfold XM at this;rwa [show S.attrs.getD v default=S.attrs[v] by simp[List.getD,I]]at this
 have V:=z7 S.attrs[v].1 t S.attrs[v].2 M U;have Z:=dS q.fs;have ab:=q.a2;have G:=zM qM S v t q.fs Xj λj hor=>⟨Pa (vz q L j hor),Sc (vz q L j hor)⟩
 have W:=fun{c s p}=>(lfG q L).give hQ (c:=c) (s:=s) (p:=p)
 have H:=ke I;have j:=gY I;have Y:FulR (lfM S v t).m=FulR (liftS qM S v t):=rfl;rw[<-Y]at G;generalize (lfM S v t).m=x at*;generalize hx:cn x=m3 at*;refine Z3 O<|Z1 O<|Rs O (aa call49 E O)<|A1 O<|Z2 O<|Gc O (λr=>absurd r Xl) (λr=>?_);refine Ti<|Z1 O<|Rs O (fI O O O (TL Xj))<|Ar 5 O<|Rg O (fI O O O (TL Xj))<|A1 O<|Gc O (λB=>absurd B Xl) (λB=>?_);refine Ti<|Z3 O<|Rs O (ag v underlying26 yF O O O I j)<|Rs O (aG ⟨_,underlying81,O⟩ yF O H O)<|A1 O<|Rs O (aa call50 V O)<|A1 O<|Gc O (λD=>absurd D Xl) (λD=>?_);refine Ti<|Z3 O<|RL.call O (cz [] 2 call51 O O O O (by exact trivial) Xl O G ?_);rintro _ _ ⟨c3,s3,p3,hF,rfl,rfl⟩;exact Rs O (aF [2,3] 4 call52 (W hF) Xk O O O ⟨Xk,Xk,Xq⟩ Xl O)<|Ar 4 O<|VF O ⟨⟨ax ⟨_,underlying45,O⟩ ER O O O,Xq⟩,O⟩
end
section
namespace Vw
open Mm Jn Mk
set_option autoImplicit false
def Has(x:Ch)(A:List Int)(V:List ByteArray):Prop:=∀j (h:j<A.length) (h2:j<V.length),x.s.getD A[j].toNat VC=VA/\x.v.getD A[j].toNat ⟨#[]⟩=V[j]
structure AOk(n:Nat)(A:List Int):Prop where
 nd:A.Nodup
 rng:∀a∈A,∃b:Nat,b<n/\a=(b:Int)
theorem AOk.tail{a:Int}(h:AOk n (a::A)):AOk n A:=⟨(Vh.1 h.nd).2,λb hb=>h.rng b (by simp[hb])⟩
theorem Md{x:Ch}(j:x.v.length=n)(q:x.s.length=n)(r:a<n)(t:ByteArray)(b:Nat):(vD x ((a:Int),t)).v.getD b ⟨#[]⟩=(if a=b then t else x.v.getD b ⟨#[]⟩)/\(vD x ((a:Int),t)).s.getD b VC=(if a=b then VA else x.s.getD b VC):=by
 simp only[vD,TU,TO,WT,j,q,r,WH];by_cases e:a=b<;>simp[e]
theorem CB:∀{A:List Int}{V:List ByteArray}{x:Ch},AOk n A->V.length=A.length->x.v.length=n->x.s.length=n->
  ((ko x A V).v.length=n/\(ko x A V).s.length=n)/\(∀b:Nat,(b:Int)∉A->(ko x A V).v.getD b ⟨#[]⟩=x.v.getD b ⟨#[]⟩/\(ko x A V).s.getD b VC=x.s.getD b VC)/\Has (ko x A V) A V
 |[],V,x,_,_,hv,hs=>⟨⟨hv,hs⟩,λ_ _=>⟨O,O⟩,λj h=>absurd h Xn⟩
 |a::A,[],x,_,hl,_,_=>absurd hl Xn
 | a::A,t::V,x,h,hl,hv,hs=>by
   obtain⟨b,hb,rfl⟩:=h.rng a Xn;have q:=Vh.1 h.nd;have B:=Md hv hs hb t;obtain⟨h1,h2,h3⟩:=CB (x:=vD x ((b:Int),t)) h.tail (by simpa using hl) (by simpa[vD]using hv) (by simpa[vD]using hs);have e:ko x ((b:Int)::A) (t::V)=ko (vD x ((b:Int),t)) A V:=rfl;rw[e];refine⟨h1,λc hc=>?_,λj hj hj2=>?_⟩
   .simp only[BY,not_or]at hc;have r:¬b=c:=λe=>hc.1 (by rw[e])
    rw[(h2 c hc.2).1,(h2 c hc.2).2,(B c).1,(B c).2,sh r,sh r];exact⟨O,O⟩
   cases j with
   | zero=>
     simp only[List.getElem_cons_zero,TU];rw[(h2 b q.1).1,(h2 b q.1).2,(B b).1,(B b).2,By O,By O];exact⟨O,O⟩
   | succ j=>
     simp only[List.getElem_cons_succ];exact h3 j (by simpa using hj) (by simpa using hj2)
section
variable {S:Sch}{P:List Int}{T:List (List Rw)}{lf:Int->ByteArray->Gv}
theorem JK(q:UpOk P){u:Nat}(s:v<P.length)(r:u<P.length)(h:(u:Int)=(v:Int)\/(v:Int)∈bU P u):(u:Int)∈(cH P P.length v).vs:=by
 rw[tree_vs];rcases h with h|h
 .rw[h];simp
 refine Ur _ (List.count_pos_iff.1 ?_);have j:∀a (ha:a<P.length),P[a]=(v:Int)->P.length+1<=(bU P a).length+P.length:=λa ha e=>by grind[dM,getD_at,IT]
 rw[j8 q P.length (v:Int) j u r,By (Wg _ h)];decide
end
end Vw
end
section
namespace Vw
open Mm Jn Mk
set_option autoImplicit false
theorem dY(a b c:Mm.Sem):Mm.Sem.add (Mm.Sem.add a b) c=Mm.Sem.add a (Mm.Sem.add b c):=rI.add_assoc a b c
theorem gb(a b:Mm.Sem):Mm.Sem.add a b=Mm.Sem.add b a:=Mm.Sem.same (by simp only[Mm.Sem.add];grind) (λx=>by simp only[Mm.Sem.add];grind) (λx y=>by simp only[Mm.Sem.add];grind)
theorem dK(a:Mm.Sem):Mm.Sem.add Mm.Sem.zero a=a:=rI.zero_add a
theorem iO(a b:Mm.Sem):Mm.Sem.mul a b=Mm.Sem.mul b a:=rI.mul_comm a b
theorem fJ(a b c:Mm.Sem):Mm.Sem.mul (Mm.Sem.mul a b) c=Mm.Sem.mul a (Mm.Sem.mul b c):=rI.mul_assoc a b c
theorem KX(a b c:Mm.Sem):Mm.Sem.mul (Mm.Sem.add a b) c=Mm.Sem.add (Mm.Sem.mul a c) (Mm.Sem.mul b c):=rI.add_mul a b c
theorem mu(a:Mm.Sem):Mm.Sem.mul (cnt 1) a=a:=rI.one_mul a
section
variable {α β:Type}
def jj(f:α->Mm.Sem):List α->Mm.Sem
 |[]=>Mm.Sem.zero
 |a::l=>Mm.Sem.add (f a) (jj f l)
theorem uA(f:α->Mm.Sem)(l m:List α):jj f (l++m)=Mm.Sem.add (jj f l) (jj f m):=by
 induction l with
 |nil=>exact(dK _).symm
 |cons a l ih=>simp only[Uz,jj,ih,dY]
theorem vT(f:α->Mm.Sem)(l m:List α)(a:α):jj f (l++a::m)=Mm.Sem.add (f a) (jj f (l++m)):=by
 rw[uA,uA,jj,<-dY,<-dY,gb (f a)]
theorem FV(f:α->Mm.Sem){l m:List α}(h:l.Perm m):jj f l=jj f m:=by
 induction h with
 |nil=>rfl
 |cons a _ ih=>simp only[jj,ih]
 |swap a b l=>simp only[jj];rw[<-dY,<-dY,gb (f a)]
 |trans _ _ h1 h2=>rw[h1,h2]
theorem kE{f g:α->Mm.Sem}{l:List α}(h:∀a∈l,f a=g a):jj f l=jj g l:=by
 induction l with
 |nil=>rfl
 |cons a l ih=>rw[jj,jj,h a Xn,ih λb hb=>h b (by simp[hb])]
theorem uL(f:β->Mm.Sem)(g:α->β)(l:List α):jj f (l.map g)=jj (λa=>f (g a)) l:=by
 induction l with
 |nil=>rfl
 |cons a l ih=>rw[cu,jj,jj,ih]
theorem GK{f:α->Mm.Sem}{l:List α}(h:∀a∈l,f a=Mm.Sem.zero):jj f l=Mm.Sem.zero:=by
 induction l with
 |nil=>rfl
 |cons a l ih=>rw[jj,h a Xn,dK,ih λb hb=>h b (by simp[hb])]
def qH(f:α->Mm.Sem):List α->Mm.Sem
 |[]=>cnt 1
 |a::l=>Mm.Sem.mul (f a) (qH f l)
theorem sL(f:α->Mm.Sem){l m:List α}(h:l.Perm m):qH f l=qH f m:=by
 induction h with
 |nil=>rfl
 |cons a _ ih=>simp only[qH,ih]
 |swap a b l=>simp only[qH];rw[<-fJ,<-fJ,iO (f a)]
 |trans _ _ h1 h2=>rw[h1,h2]
end
theorem sK:∀{x y t u:List UInt8},(0:UInt8)∉x->(0:UInt8)∉y->(t=[]\/∃s,t=0::s)->(u=[]\/∃s,u=0::s)->x++t=y++u->x=y/\t=u
 |[],[],_,_,_,_,_,_,h=>⟨O,h⟩
 | [],b::y,t,u,_,hy,ht,_,h=>by
   rcases ht with rfl|⟨s,rfl⟩
   .simp at h
   simp only[Uv,Uz,U8]at h;exact absurd (by simp[<-h.1]) hy
 | a::x,[],t,u,hx,_,_,hu,h=>by
   rcases hu with rfl|⟨s,rfl⟩
   .simp at h
   simp only[Uv,Uz,U8]at h;exact absurd (by simp[h.1]) hx
 | a::x,b::y,t,u,hx,hy,ht,hu,h=>by
   simp only[Uz,U8]at h;obtain⟨h1,h2⟩:=sK (x:=x) (y:=y) (by grind) (by grind) ht hu h.2;exact⟨by rw[h.1,h1],h2⟩
theorem BN:∀{u v:List (List UInt8)},u.length=v.length->(∀t∈u,(0:UInt8)∉t)->(∀t∈v,(0:UInt8)∉t)->Lib.joinTail [0] u=Lib.joinTail [0] v->u=v
 |[],[],_,_,_,_=>rfl
 |[],b::v,h,_,_,_=>by simp at h
 |a::u,[],h,_,_,_=>by simp at h
 | a::u,b::v,hl,hu,hv,h=>by
   have tl:∀w:List (List UInt8),Lib.joinTail [0] w=[]\/∃s,Lib.joinTail [0] w=0::s:=λw=>by
    cases w with
    |nil=>exact .inl O
    |cons c w=>exact .inr ⟨c++Lib.joinTail [0] w,by simp[Lib.joinTail]⟩
   have j:a++Lib.joinTail [0] u=b++Lib.joinTail [0] v:=by simpa[Lib.joinTail]using h
   obtain⟨e1,e2⟩:=sK (hu a Xn) (hv b Xn) (tl u) (tl v) j;rw[e1,BN (by simpa using hl) (λt ht=>hu t (by simp[ht])) (λt ht=>hv t (by simp[ht])) e2]
theorem P7{v:List ByteArray}(j:u.length=v.length)(s:∀t∈u,(0:UInt8)∉t.data.toList)(B:∀t∈v,(0:UInt8)∉t.data.toList)(h:jnt u=jnt v):u=v:=by
 have e:Lib.join (u.map (·.data.toList)) [0]=Lib.join (v.map (·.data.toList)) [0]:=by
  have:=ah (λb:ByteArray=>b.data.toList) h;simpa[jnt]using this
 have q:Lib.joinTail [0] (u.map (·.data.toList))=Lib.joinTail [0] (v.map (·.data.toList)):=by
  cases u with
  | nil=>
    cases v with
    |nil=>rfl
    |cons b v=>simp at j
  | cons a u=>
    cases v with
    |nil=>simp at j
    | cons b v=>
      rw[cu,cu,Lib.join_cons,Lib.join_cons]at e;simpa[Lib.joinTail]using e
 have r:=BN (by simpa using j) (by simpa using s) (by simpa using B) q;refine List.map_inj_right (f:=λb:ByteArray=>b.data.toList) (λa b h=>?_) |>.1 r;exact ByteArray.ext (Array.ext' (by simpa using h))
def DQ(F:List ByteArray->Mm.Sem)(E:List En):Mm.Sem:=jj (λe=>Mm.Sem.mul e.g.m (F e.v)) E
section
variable {J:List ByteArray->Prop}{F:List ByteArray->Mm.Sem}
abbrev QZ(J:List ByteArray->Prop)(E:List En):Prop:=∀e∈E,e.t=jnt e.v/\J e.v
theorem MK(s:∀u v,J u->J v->jnt u=jnt v->u=v){E:List En}(j:QZ J E){v:List ByteArray}(q:J v)(g:Gv):DQ F (uj E v g)=Mm.Sem.add (DQ F E) (Mm.Sem.mul g.m (F v))/\QZ J (uj E v g):=by
 rcases eY E v g with⟨i,hi,_,e,ht⟩|⟨_,e,_⟩<;>rw[e]
 .have h1:=j _ (aq hi);have r:E[i].v=v:=s _ _ h1.2 q (h1.1▸ht);refine⟨?_,λx hx=>?_⟩
  .have h2:E=E.take i++E[i]::E.drop (i+1):=by simp_all
   rw[VK,By hi];unfold DQ;rw[vT]
   conv=>rhs;rw[h2]
   rw[vT];simp only[r,Gv.add,KX];rw[dY,gb]
  rcases List.mem_or_eq_of_mem_set hx with hx|rfl
  .exact j x hx
  exact⟨O,q⟩
 refine⟨?_,λx hx=>?_⟩
 .unfold DQ;rw[uA];simp only[jj];rw[gb _ Mm.Sem.zero,dK]
 rcases Uf.1 hx with hx|hx
 .exact j x hx
 simp at hx;subst hx;exact⟨O,q⟩
theorem rz(j:∀u v,J u->J v->jnt u=jnt v->u=v){lf:ByteArray->Gv}{v:Int}:∀(ls:List (Ch×Gv)){E:List En},QZ J E->(∀l∈ls,J (ir K l.1))->
  DQ F (foldE lf v K E ls)=Mm.Sem.add (DQ F E) (jj (λl=>Mm.Sem.mul (l.2.mul (lf (l.1.v.getD v.toNat ⟨#[]⟩))).m (F (ir K l.1))) ls)
 |[],E,_,_=>by rw[jj,gb,dK];rfl
 | l::ls,E,hE,hl=>by
   obtain⟨h1,h2⟩:=MK (F:=F) j hE (hl l Xn) (l.2.mul (lf (l.1.v.getD v.toNat ⟨#[]⟩)));show DQ F (foldE lf v K (stepE lf v K E l) ls)=_;rw[jj];unfold stepE;split
   .rename_i h0;rw[rz j ls hE (λx hx=>hl x (by simp[hx])),h0,I4,dK]
   rw[rz j ls h2 (λx hx=>hl x (by simp[hx])),h1,dY]
end
theorem Mt(n:Nat)(A:List Int)(V:List ByteArray):EP (ch0 n) A V=VA:=by
 unfold EP;rw[OF];intro p _;have:(ch0 n).s.getD p.1.toNat VC=VC:=by
  simp only[ch0,TO,Vv];split<;>rfl
 unfold Sx;rw[this];rfl
theorem D9(p:Prt)(n:Nat)(g:Gv):leaves [p] (ch0 n) g=p.is.map λi=>(ko (ch0 n) p.a i.v,g.mul i.g):=by
 simp only[leaves,Mt,WH];induction p.is with
 |nil=>rfl
 |cons a l ih=>rw[T0,ih];rfl
theorem Br(q:AOk n A)(f:Int->ByteArray):∀a∈A,(ko (ch0 n) A (A.map f)).v.getD a.toNat ⟨#[]⟩=f a:=λa ha=>by
 obtain⟨j,hj,rfl⟩:=Ux ha;have:=((CB (V:=A.map f) q Xn (show(ch0 n).v.length=n by simp[ch0]) (by simp[ch0])).2.2 j hj (by simpa using hj)).2;rw[this];simp
theorem BU{lf:ByteArray->Gv}{v:Int}{p:Prt}{J:List ByteArray->Prop}{F:List ByteArray->Mm.Sem}(j:∀u v,J u->J v->jnt u=jnt v->u=v)(q:∀l∈leaves [p] (ch0 n) (Gv.whole 1),J (ir K l.1)):
  DQ F (viewE lf n v K [p])=jj (λi:Itm=>Mm.Sem.mul (Mm.Sem.mul i.g.m (lf ((ko (ch0 n) p.a i.v).v.getD v.toNat ⟨#[]⟩)).m) (F (ir K (ko (ch0 n) p.a i.v)))) p.is:=by
 unfold viewE;rw[rz j _ (λe he=>absurd he Xn) q,D9,uL];show Mm.Sem.add Mm.Sem.zero _=_;rw[dK];refine kE λi _=>?_
 show Mm.Sem.mul (Mm.Sem.mul (Mm.Sem.mul (cnt 1) i.g.m) _) _=_;rw[mu]
section
variable {S:Sch}{P:List Int}{T:List (List Rw)}{lf:Int->ByteArray->Gv}{Q:List Par}{X:Nat->List ByteArray}
structure One(S:Sch)(P:List Int):Prop where
 o:OrdOk S P
 r:S.rels.length=1
 a:lj S 0=upZ P.length
theorem One.any(h:One S P)(q:a<P.length)(s:b<P.length):(a:Int)=b\/(a:Int)∈bU P b\/(b:Int)∈bU P a:=by
 have j:0<S.rels.length:=by rw[h.r];decide
 have e:S.rels[0].2=upZ P.length:=by rw[<-h.a];simp[lj,List.getD,j]
 exact r8 (h.o.rt _ (aq j)) (by rw[e];exact bp.2 ⟨a,q,O⟩) (by rw[e];exact bp.2 ⟨b,s,O⟩)
theorem One.link(h:One S P)(q:a<P.length)(s:b<P.length):fa S a b=VA:=by
 have j:0<S.rels.length:=by rw[h.r];decide
 have e:S.rels[0].2=upZ P.length:=by rw[<-h.a];simp[lj,List.getD,j]
 exact Qh (aq j) (by rw[e];exact bp.2 ⟨a,q,O⟩) (by rw[e];exact bp.2 ⟨b,s,O⟩)
theorem One.key(h:One S P)(q:v<P.length):x∈cK S P v↔x∈bU P v:=by
 refine⟨λj=>(uM.1 j).1,λj=>uM.2 ⟨j,v,iF.2 ⟨⟨v,q,O⟩,.inl O⟩,?_⟩⟩;obtain⟨a,ha,rfl,_⟩:=gL h.o.jL v q x j;exact h.link ha q
theorem One.here(h:One S P)(H:v<P.length):(hoL S P v=[0]/\aE P v=[])\/∃c:Nat,c<P.length/\hoL S P v=[]/\aE P v=[(c:Int)]/\bU P c=(v:Int)::bU P v:=by
 have s:=h.o.jL;have D:0<S.rels.length:=by rw[h.r];decide
 have e:S.rels[0].2=upZ P.length:=by rw[<-h.a];simp[lj,List.getD,D]
 have I:S.rels[0].2≠[]:=h.o.val.ne _ (aq D);obtain⟨h1,h2⟩:=Bt s I (by rw[h.o.len];exact h.o.val.rng _ (aq D)) (h.o.rt _ (aq D));rw[e]at h1 h2;obtain⟨m,hm,em⟩:=bp.1 h1;have q:∀c∈aE P v,∃k:Nat,k<P.length/\c=(k:Int)/\bU P k=(v:Int)::bU P v:=λc hc=>by
  obtain⟨k,hk,rfl,hp⟩:=bu.1 hc;exact⟨k,hk,O,dM s hk H hp⟩
 have B:∀c∈aE P v,∀d∈aE P v,c=d:=λc hc d hd=>by
  obtain⟨k,hk,rfl,e1⟩:=q c hc;obtain⟨j,hj,rfl,e2⟩:=q d hd;rcases h.any hk hj with h3|h3|h3
  .exact h3
  .have:=(sB s hj h3).2;rw[e1,e2]at this;exact absurd this Xn
  have:=(sB s hk h3).2;rw[e1,e2]at this;exact absurd this Xn
 have E:hoL S P v=if m=v then [0]else []:=by
  unfold hoL;rw[h.r];have:nA (S.rels.map λr=>qm P r.2) 1 (v:Int)=if qm P S.rels[0].2=(v:Int)then [0]else []:=by
   unfold nA;simp[Wo,Wp,List.getD,D];split<;>simp_all
  rw[this,e,em];by_cases hmv:m=v
  .rw[By hmv,By (by rw[hmv])]
  rw[sh hmv,sh Xj]
 by_cases hmv:m=v
 .subst hmv;refine .inl ⟨by rw[E,By O],?_⟩;rw[List.eq_nil_iff_forall_not_mem];intro c hc;obtain⟨k,hk,rfl,e1⟩:=q c hc;have U:(m:Int)∈bU P k:=by rw[e1];simp
  have G:=(sB s hk U).2;rcases h2 (k:Int) (bp.2 ⟨k,hk,O⟩)with h3|h3
  .rw[em]at h3;have:k=m:=Xj;subst this;exact Nat.lt_irrefl _ G
  rw[em]at h3;have:=(sB s hm h3).2;omega
 refine .inr ?_;have M:(m:Int)∈(cH P P.length v).vs:=by
  refine JK s H hm (.inr ?_);rcases h2 (v:Int) (bp.2 ⟨v,H,O⟩)with h3|h3
  .rw[em]at h3;omega
  rw[em]at h3;exact h3
 rw[FX s H,Tr.vs,fe]at M;rcases BY.1 M with h3|h3
 .omega
 obtain⟨t,ht,_⟩:=Uk.1 h3;obtain⟨c,hc,rfl⟩:=TG.1 ht;obtain⟨k,hk,rfl,e1⟩:=q c hc;refine⟨k,hk,by rw[E,sh hmv],?_,e1⟩;have L:=zg P v;cases G:aE P v with
 |nil=>rw[G]at hc;simp at hc
 | cons a l=>
   rw[G]at hc B L;cases l with
   |nil=>simp at hc;rw[hc]
   |cons b l=>exact absurd (B a Xn b Xn) (by simp at L;exact L.1.1)
theorem Dz(q:UpOk P)(r:v<P.length):(bA P v).Perm ((v:Int)::(aE P v).flatMap (bA P)):=by
 have j:∀u:Nat,u<P.length->(bA P u).Perm (cH P P.length u).vs:=λu hu=>by
  refine dT ((cq _).filter _) (oy q hu).1 λx=>?_
  rw[iF];constructor
  .rintro⟨⟨a,ha,rfl⟩,h⟩;exact JK q hu ha h
  .intro hx;obtain⟨a,ha,rfl,h⟩:=uQ q _ u hu x hx;refine⟨⟨a,ha,O⟩,?_⟩;rcases BY.1 h with h|h
   .exact .inl h.symm
   exact .inr h
 refine(j v r).trans ?_;rw[FX q r,Tr.vs,fe,VT];refine List.Perm.cons _ ?_;have:∀l:List Int,(∀c∈l,∃k:Nat,k<P.length/\c=(k:Int))->(l.flatMap λc=>(cH P P.length c).vs).Perm (l.flatMap (bA P)):=λl hl=>by
  induction l with
  |nil=>exact T3 _
  | cons c l ih=>
    obtain⟨k,hk,rfl⟩:=hl c Xn;rw[T0,T0];exact(j k hk).symm.append (ih λd hd=>hl d (by simp[hd]))
 exact this _ λc hc=>by
  obtain⟨k,hk,rfl,_⟩:=bu.1 hc;exact⟨k,hk,O⟩
noncomputable def rowM(P:List Int)(lf:Int->ByteArray->Gv)(v:Int)(x:Rw):Mm.Sem:=Mm.Sem.mul (cnt x.w.toNat) (qH (λb=>(lf b (x.v.getD b.toNat ⟨#[]⟩)).m) (bA P v))
def fk(K:List Int)(x:Rw):List ByteArray:=K.map λa=>x.v.getD a.toNat ⟨#[]⟩
theorem One.aok(h:One S P)(j:v<P.length):AOk P.length (cK S P v):=by
 refine⟨?_,λa ha=>?_⟩
 .unfold cK;exact(kj _).nodup_iff.2 ((Vh.1 (fN h.o.jL v j)).2.filter _)
 obtain⟨b,hb,e,_⟩:=gL h.o.jL v j a ((h.key j).1 ha);exact⟨b,hb,e⟩
theorem Is(h:One S P)(hl:LfX Q X lf)(W:TbX X S T)(hX:∀a,∀t∈X a,(0:UInt8)∉t.data.toList):∀(k v:Nat),v<P.length->P.length<=k+1+(bU P v).length->∀F:List ByteArray->Mm.Sem,
  DQ F (vwS S P T lf v)=jj (λx=>Mm.Sem.mul (rowM P lf v x) (F (fk (cK S P v) x))) (nv T 0):=by
 have M:=h.o.jL;have E:=h.o.len;have s:∀v:Nat,v<P.length->(∀c:Nat,(c:Int)∈aE P v->∀F,DQ F (vwS S P T lf c)=jj (λx=>Mm.Sem.mul (rowM P lf c x) (F (fk (cK S P c) x))) (nv T 0))->∀F:List ByteArray->Mm.Sem,DQ F (vwS S P T lf v)=jj (λx=>Mm.Sem.mul (rowM P lf v x) (F (fk (cK S P v) x))) (nv T 0):=λv hv ih F=>by
  have Y:∀u w,VX X (cK S P v) u->VX X (cK S P v) w->jnt u=jnt w->u=w:=λu w hu hw e=>by
   have Z:∀u,VX X (cK S P v) u->∀t∈u,(0:UInt8)∉t.data.toList:=λu hu t ht=>by
    obtain⟨j,hj,rfl⟩:=Ux ht;exact hX _ _ (hu.x j hj (by rw[<-hu.len];exact hj))
   exact P7 (by rw[hu.len,hw.len]) (Z u hu) (Z w hw) e
  have r:=vC (Q:=Q) (P:=P) W (f:=vwS S P T lf) (v:=v) λc _=>Kt hl W c
  have G:∀{p:Prt},PtX Q X p->∀l∈leaves [p] (ch0 P.length) (Gv.whole 1),VX X (cK S P v) (ir (cK S P v) l.1):=fun{p} hp l hll=>Mn (uD (ps:=[p]) (λq hq=>by simp at hq;subst hq;exact hp) (QB (n:=P.length) hl.x0) (GvOk.whole Q 1) (AT 1) l hll).1
  have B:=Dz M hv;rw[qx M hv];unfold mkV fy;unfold fy at r;rw[<-E];rcases h.here hv with⟨h1,h2⟩|⟨c,hc,h1,h2,h3⟩
  .rw[h1,h2]at r ⊢;rw[h2]at B;rw[Un,Uh,cu,Un]at r ⊢;rw[BU Y (G (r _ Xn))];show jj _ ((nv T 0).map _)=_;rw[uL];refine kE λx hx=>?_
   have H:=W 0 x hx;rw[h.a]at H;have U:x.v=(upZ P.length).map λa=>x.v.getD a.toNat ⟨#[]⟩:=by
    have I:=H.len;rw[a7]at I;apply UL
    .rw[TB,a7,I]
    .intro i h4 h5;simp[upZ,List.getD,h4]
   have D:=Br (A:=upZ P.length) ⟨cq _,λa ha=>bp.1 ha⟩ λa=>x.v.getD a.toNat ⟨#[]⟩
   rw[<-U]at D;show Mm.Sem.mul (Mm.Sem.mul (cnt x.w.toNat) (lf v ((ko (ch0 P.length) (lj S 0) x.v).v.getD _ ⟨#[]⟩)).m) (F (ir (cK S P v) (ko (ch0 P.length) (lj S 0) x.v)))=_;rw[h.a,D (v:Int) (bp.2 ⟨v,hv,O⟩)];have V:ir (cK S P v) (ko (ch0 P.length) (upZ P.length) x.v)=fk (cK S P v) x:=Ud λa ha=>by
    obtain⟨b,B,rfl⟩:=(h.aok hv).rng a ha;exact D _ (bp.2 ⟨b,B,O⟩)
   rw[V];unfold rowM;rw[sL _ B];show _=Mm.Sem.mul (Mm.Sem.mul _ (Mm.Sem.mul _ (cnt 1))) _;rw[iO _ (cnt 1),mu]
  rw[h1,h2]at r ⊢;rw[h2]at B;rw[Un,Uv,cu,Un]at r ⊢;rw[BU Y (G (r _ Xn))];show jj _ ((Kh (vwS S P T lf c)).map _)=_;rw[uL,FV _ (eE _)];have hi:=ih c (by rw[h2];simp) λu=>Mm.Sem.mul (lf v ((ko (ch0 P.length) (cK S P c) u).v.getD v ⟨#[]⟩)).m (F (ir (cK S P v) (ko (ch0 P.length) (cK S P c) u)))
  refine TX (kE λe _=>?_) (hi.trans (kE λx _=>?_))
  .exact fJ _ _ _
  have D:=Br (h.aok hc) λa=>x.v.getD a.toNat ⟨#[]⟩
  have L:∀a,a=(v:Int)\/a∈cK S P v->a∈cK S P c:=λa ha=>by
   rw[h.key hc,h3];rcases ha with rfl|ha
   .simp
   exact Ur _ ((h.key hv).1 ha)
  have e1:=D (v:Int) (L _ (.inl O));have V:ir (cK S P v) (ko (ch0 P.length) (cK S P c) (fk (cK S P c) x))=fk (cK S P v) x:=Ud λa ha=>D a (L a (.inr ha))
  show Mm.Sem.mul (rowM P lf c x) (Mm.Sem.mul (lf v ((ko (ch0 P.length) (cK S P c) (fk (cK S P c) x)).v.getD (v:Int).toNat ⟨#[]⟩)).m (F (ir (cK S P v) (ko (ch0 P.length) (cK S P c) (fk (cK S P c) x)))))=_;rw[V,<-fJ]
  congr 1
  unfold rowM;rw[sL _ B];show _=Mm.Sem.mul _ (Mm.Sem.mul _ (qH _ ([(c:Int)].flatMap (bA P))));rw[T0,Wc,Uh,fJ,iO (qH _ _)];have e3:(ko (ch0 P.length) (cK S P c) (fk (cK S P c) x)).v.getD (v:Int).toNat ⟨#[]⟩=x.v.getD (v:Int).toNat ⟨#[]⟩:=e1;rw[e3]
 intro k;induction k with
 | zero=>
   intro v hv hk;exact s v hv λc hc=>by rw[mg M hv Xj]at hc;simp at hc
 | succ k ih=>
   intro v hv hk;refine s v hv λc hc=>?_
   obtain⟨j,hj,e,hp⟩:=bu.1 hc;obtain rfl:c=j:=Xj;have e:=dM M hj hv hp;exact ih c hj (by rw[e,IT];omega)
theorem HJ(h:One S P)(D:LfX Q X lf)(E:TbX X S T)(G:∀a,∀t∈X a,(0:UInt8)∉t.data.toList)(H:v<P.length){e:En}(I:e∈vwS S P T lf v):
  jj (rowM P lf v) ((nv T 0).filter λx=>decide (fk (cK S P v) x=e.v))=e.g.m:=by
 have r:=Is h D E G P.length v H Xj λu=>if u=e.v then cnt 1 else Mm.Sem.zero
 have s:DQ (λu=>if u=e.v then cnt 1 else Mm.Sem.zero) (vwS S P T lf v)=e.g.m:=by
  have j:=(II (S:=S) (P:=P) (T:=T) (lf:=lf) (v:Int)).vnd;obtain⟨A,B,hAB⟩:=List.append_of_mem I;rw[hAB]at j ⊢;unfold DQ;rw[vT,GK λx hx=>?_]
  .simp only[WH];rw[gb,dK,iO,mu]
  rw[List.pairwise_append,Ut]at j;have q:x.v≠e.v:=by
   rcases Uf.1 hx with hx|hx
   .exact j.2.2 x hx e Xn
   exact(j.2.1.1 x hx).symm
  show Mm.Sem.mul x.g.m (if x.v=e.v then cnt 1 else Mm.Sem.zero)=_;rw[sh q,xj]
 rw[<-s,r];induction nv T 0 with
 |nil=>rfl
 | cons x l ih=>
   rw[jj,Wp];by_cases hx:fk (cK S P v) x=e.v
   .rw[By (by simpa using hx),jj,ih,By hx,iO _ (cnt 1),mu]
   rw[sh (by simpa using hx),ih,sh hx,xj,dK]
end
end Vw
end
section
open Go.RowKit Mk Jn Mm Vw
namespace Vw
abbrev t1:ByteArray:=⟨#[49]⟩
abbrev t7:ByteArray:=⟨#[55]⟩
abbrev t3:ByteArray:=⟨#[51]⟩
abbrev t8:ByteArray:=⟨#[56]⟩
abbrev exD:List (List Rw):=[[⟨[t1,Vw.t7],2⟩],[⟨[Vw.t7,t3],5⟩,⟨[Vw.t8,t3],1⟩]]
abbrev cg(w n k:Nat):Gv:=⟨cnt w,n,w,k⟩
theorem AP(a b:Nat):Mm.Sem.mul (cnt a) (cnt b)=cnt ((a*b:Nat):Int):=by
 refine Mm.Sem.same ?_ (λx=>?_) (λx y=>?_)
 .show((a:Int):Rat)*((b:Int):Rat)=(((a*b:Nat):Int):Rat);rw[<-V5];rfl
 .show((a:Int):Rat)*0+((b:Int):Rat)*0=0;rw[Xf,Xf,W9]
 show((a:Int):Rat)*0+((b:Int):Rat)*0+(0*0+0*0)=0;rw[Xf,Xf,Xf,W9,W9]
theorem qL(a b n m k l:Nat):(cg a n k).mul (cg b m l)=cg (a*b) (n*m) (k+l):=by
 unfold Gv.mul;rw[AP]
theorem cg_nz(h:a≠0):(cg a n k).m≠Mm.Sem.zero:=λe=>by
 have j:((a:Int):Rat)=0:=ah Mm.Sem.c e;have q:(a:Int)=0:=Rat.intCast_inj.1 j;omega
def lfC:Int->ByteArray->Gv:=λ_ _=>cg 1 1 1
def XC:Nat->List ByteArray:=λ_=>[⟨#[]⟩,t1,Vw.t7,t3,Vw.t8]
theorem pt{v:Int}{E:List En}{x:Ch}(h:a≠0):stepE (lfC v) v K E (x,cg a n k)=uj E (ir K x) (cg a n (k+1)):=by
 unfold stepE;have e:(cg a n k).mul (lfC v (x.v.getD v.toNat ⟨#[]⟩))=cg a n (k+1):=by
  show(cg a n k).mul (cg 1 1 1)=_;rw[qL,TZ,TZ]
 rw[sh (by rw[e];exact cg_nz h),e]
theorem Hy:fG bm exD=exD:=Xk
theorem SZ:hoL bm bI ((0:Nat):Int)=[0]:=Xl
theorem Sv:hoL bm bI ((1:Nat):Int)=[]:=Xl
theorem SC:hoL bm bI ((2:Nat):Int)=[1]:=Xl
theorem SU:aE bI ((0:Nat):Int)=[]:=Xl
theorem Rx:aE bI ((1:Nat):Int)=[0,2]:=Xl
theorem S7:aE bI ((2:Nat):Int)=[]:=Xl
theorem NS:aE bI (-1)=[1]:=Xl
theorem IG:OrdOk bm bI:=(jY.1 vh).2
abbrev e7(w:Nat):En:=⟨jnt [Vw.t7],[Vw.t7],cg w 1 1⟩
abbrev e8(w:Nat):En:=⟨jnt [Vw.t8],[Vw.t8],cg w 1 1⟩
abbrev eN:En:=⟨jnt [],[],cg 10 1 3⟩
theorem M4:vwS bm bI exD lfC ((0:Nat):Int)=[e7 2]:=by
 rw[qx IG.jL (show 0<bI.length by decide),mkV];unfold fy;rw[SZ,SU,show cK bm bI ((0:Nat):Int)=[1]from FG];have e:leaves [gF (lj bm 0) (nv exD 0)] (ch0 3) (Gv.whole 1)=[(⟨[t1,Vw.t7,⟨#[]⟩],[VA,VA,VC]⟩,(Gv.whole 1).mul (Gv.whole 2))]:=Xk;show foldE (lfC _) _ [1] [] (leaves [gF (lj bm 0) (nv exD 0)] (ch0 3) (Gv.whole 1))=_;rw[e,show(Gv.whole 1).mul (Gv.whole 2)=cg 2 1 0 from qL 1 2 1 1 0 0];show stepE (lfC _) _ [1] [] _=_;rw[pt Xl]
 kernel_rfl
theorem M7:vwS bm bI exD lfC ((2:Nat):Int)=[e7 5,e8 1]:=by
 rw[qx IG.jL (show 2<bI.length by decide),mkV];unfold fy;rw[SC,S7,show cK bm bI ((2:Nat):Int)=[1]from JH];have e:leaves [gF (lj bm 1) (nv exD 1)] (ch0 3) (Gv.whole 1)=[(⟨[⟨#[]⟩,Vw.t7,t3],[VC,VA,VA]⟩,(Gv.whole 1).mul (Gv.whole 5)),(⟨[⟨#[]⟩,Vw.t8,t3],[VC,VA,VA]⟩,(Gv.whole 1).mul (Gv.whole 1))]:=Xk;show foldE (lfC _) _ [1] [] (leaves [gF (lj bm 1) (nv exD 1)] (ch0 3) (Gv.whole 1))=_;rw[e,show(Gv.whole 1).mul (Gv.whole 5)=cg 5 1 0 from qL 1 5 1 1 0 0,show(Gv.whole 1).mul (Gv.whole 1)=cg 1 1 0 from qL 1 1 1 1 0 0];show stepE (lfC _) _ [1] (stepE (lfC _) _ [1] [] _) _=_;rw[pt Xl,pt Xl]
 kernel_rfl
theorem KS(e:En):Kh [e]=[e]:=by unfold Kh;exact Wl Xn
theorem My:Kh [e7 5,e8 1]=[e7 5,e8 1]:=by
 unfold Kh;refine Wl ?_;rw[Ut];refine⟨λx hx=>?_,Xn⟩;rw[TF]at hx;subst hx;show decide (_<=_)=VA;decide+kernel
theorem Kz:vwS bm bI exD lfC ((1:Nat):Int)=[eN]:=by
 rw[qx IG.jL (show 1<bI.length by decide),mkV];unfold fy;rw[Sv,Rx,show cK bm bI ((1:Nat):Int)=[]from NQ];have j:cK bm bI 0=[1]:=FG;have q:cK bm bI 2=[1]:=JH;have v0:vwS bm bI exD lfC 0=[e7 2]:=M4;have v2:vwS bm bI exD lfC 2=[e7 5,e8 1]:=M7;rw[Un,Uv,cu,cu,Un,j,q,v0,v2];unfold dV;rw[KS,My];have e:leaves [⟨[1],[e7 2].map λe=>⟨e.v,e.g⟩⟩,⟨[1],[e7 5,e8 1].map λe=>⟨e.v,e.g⟩⟩] (ch0 3) (Gv.whole 1)=[(⟨[⟨#[]⟩,Vw.t7,⟨#[]⟩],[VC,VA,VC]⟩,((Gv.whole 1).mul (cg 2 1 1)).mul (cg 5 1 1))]:=Xk;show foldE (lfC _) _ [] [] (leaves _ (ch0 3) (Gv.whole 1))=_;rw[e,show(Gv.whole 1).mul (cg 2 1 1)=cg 2 1 1 from qL 1 2 1 1 0 1,qL];show stepE (lfC _) _ [] [] _=_;rw[pt Xl]
 kernel_rfl
theorem N3:totV bm bI exD lfC=cg 10 1 3:=by
 unfold totV totF;rw[NS];have j:vwS bm bI exD lfC 1=[eN]:=Kz;show(Gv.whole 1).mul (atV (jn (vwS bm bI exD lfC 1)) [])=_;rw[j];have e:jn [eN]=[eN]:=by unfold jn;exact Wl Xn
 rw[e];show(cg 1 1 0).mul (cg 10 1 3)=_;rw[qL]
theorem Lj:jn [e7 5,e8 1]=[e7 5,e8 1]:=by
 unfold jn;refine Wl ?_;rw[Ut];refine⟨λx hx=>?_,Xn⟩;rw[TF]at hx;subst hx;show(!bO [Vw.t8] [Vw.t7])=VA;decide+kernel
theorem K3:((List.range bI.length).map λa:Nat=>jn (vwS bm bI exD lfC a))=[[e7 2],[eN],[e7 5,e8 1]]:=by
 have v0:vwS bm bI exD lfC ((0:Nat):Int)=[e7 2]:=M4;have q:vwS bm bI exD lfC ((1:Nat):Int)=[eN]:=Kz;have v2:vwS bm bI exD lfC ((2:Nat):Int)=[e7 5,e8 1]:=M7;have j:∀e:En,jn [e]=[e]:=λe=>by unfold jn;exact Wl Xn
 show [jn (vwS bm bI exD lfC ((0:Nat):Int)),jn (vwS bm bI exD lfC ((1:Nat):Int)),jn (vwS bm bI exD lfC ((2:Nat):Int))]=_;rw[v0,q,v2,j,j,Lj]
theorem ex_vb:VB bm bI (fG bm exD) [] XC lfC:=by
 rw[Hy];have q:∀v:Nat,v<bI.length->v=0\/v=1\/v=2:=λv B=>by have B:v<3:=B;omega
 refine⟨oB,⟨Xl,Xl,Xl,Xl⟩,IG,Xl,Xl,Xl,O,Xl,Xl,Xl,?_,⟨λv t _=>⟨AD (AT 1),Sup.cnt _ _⟩,λ_ _=>rfl,λ_ _=>rfl,λ_ _=>rfl,λ_=>by simp[XC]⟩,λv B t ht=>?_,?_,λv B=>?_,λv B=>?_,?_⟩
 .intro a t ht;have:∀x∈[(⟨#[]⟩:ByteArray),t1,Vw.t7,t3,Vw.t8],x.size<=1000:=by decide+kernel
  exact this t ht
 .have h:=wb qM bm v t Xl λ_ h=>by
   rcases h with h|⟨i,hi,_⟩
   .have h:(v:Int)= -1:=h;omega
   cases hi
  have e:liftS qM bm v t=cnt 1:=by
   unfold liftS;rw[sh (show ¬ (v:Int)=bm.label from λh=>by have h:(v:Int)= -1:=h;omega)];rfl
  rw[e]at h;exact h
 .intro r x s;have h:r.toNat=0\/r.toNat=1\/2<=r.toNat:=Xj;have E:∀x∈exD[0],VX XC [0,1] x.v:=by
   intro x s;obtain rfl:x=⟨[t1,Vw.t7],2⟩:=by simpa using s
   exact⟨O,λj h1 h2=>match j,h1 with|0,_=>by simp[XC]|1,_=>by simp[XC]⟩
  have D:∀x∈exD[1],VX XC [1,2] x.v:=by
   intro x s;have s:x=⟨[Vw.t7,t3],5⟩\/x=⟨[Vw.t8,t3],1⟩:=by simpa using s
   rcases s with rfl|rfl<;>exact⟨rfl,λj h1 h2=>match j,h1 with|0,_=>by simp[XC]|1,_=>by simp[XC]⟩
  unfold nv at s;unfold lj;rcases h with h|h|h
  .rw[h]at s ⊢; exact E x s
  .rw[h]at s ⊢; exact D x s
  grind
 .rcases q v B with rfl|rfl|rfl
  .rw[M4];decide
  .rw[Kz];decide
  rw[M7];decide
 .rcases q v B with rfl|rfl|rfl
  .rw[M4];decide
  .rw[Kz];decide
  rw[M7];decide
 rw[N3];decide
end Vw
end
section
open Go.RowKit Mk Jn Mm Vw
abbrev kf(x:ByteArray):PV:= .agg [.str x,.sl UG 0 [],.sl UG 0 []]
theorem eqT0:FnP prog 131 [.sl UG 0 [],.sl UG 0 []] (· = .bool VA):=by
 refine FnP.of func131 O ntmps131 Xn λ_ _ _ _=>?_
 refine Z1 O<|Gr O<|Ar 5 O<|Gc O (λj=>absurd j Xl) (λj=>?_);refine Ti<|Z3 O<|Gz O (st:=λXr:Nat=>([(0,UG),(1,UG),(12,UG),(13,UG)],[])) 0
  (I:=λXr=>True) (μ:=λXr=>0) (x0:=0) (Tk (aS O) trivial O O) (trivial) ?_
 rintro u _;refine Z1 O<|Gp O (λq=>absurd q Xl) (λq=>?_);exact Gx O<|Z1 O<|VF O O
theorem eqP0:FnP prog 132 [.sl UG 0 [],.sl UG 0 []] (· = .bool VA):=by
 refine FnP.of func132 O ntmps132 Xn λ_ _ _ _=>?_
 refine Z1 O<|Gr O<|Ar 5 O<|Gc O (λj=>absurd j Xl) (λj=>?_);refine Ti<|Z3 O<|Gz O (st:=λXr:Nat=>([(0,UG),(1,UG),(12,UG),(13,UG)],[])) 0
  (I:=λXr=>True) (μ:=λXr=>0) (x0:=0) (Tk (aS O) trivial O O) (trivial) ?_
 rintro u _;refine Z1 O<|Gp O (λq=>absurd q Xl) (λq=>?_);exact Gx O<|Z1 O<|VF O O
theorem LB(x:ByteArray):FnP prog 65 [kf x,kf x] (· = .bool VA):=by
 refine FnP.of func65 O ntmps65 Xn λ_ _ _ _=>?_
 have j:=eqT0;have q:=eqP0;have r:(x.toList==x.toList)=VA:=Uw _;exact Z3 O<|Z4 O<|Rs O (XJ.cast (v:= .pv (.bool (x.toList==x.toList))) (v':= .pv (.bool VA)) (jm O O O) (ah (λb=>V.pv (.bool b)) r))<|Ar 5 O<|Rg O (aa call131 j O)<|Ar 6 O<|Rg O (aa call132 q O)<|Y2 O<|VF O O
theorem QA(x y:ByteArray)(j:(x.toList==y.toList)=VC):FnP prog 65 [kf x,kf y] (· = .bool VC):=by
 refine FnP.of func65 O ntmps65 Xn λ_ _ _ _=>?_
 exact Z3 O<|Z4 O<|Rs O (XJ.cast (v:= .pv (.bool (x.toList==y.toList))) (v':= .pv (.bool VC)) (jm O O O) (ah (λb=>V.pv (.bool b)) j))<|Ar 15 O<|VF O O
theorem Rr:FnP prog 128 [] (· =kf t1):=by
 refine FnP.fg2 (FnP.ofC func128 O ntmps128 Xn λ_ _ _ _=>?_);exact Z1 O<|Z2 O<|VF O ⟨⟨ax ⟨_,underlying45,O⟩ ER O O O,Xq⟩,O⟩
abbrev t0:ByteArray:=⟨#[48]⟩
theorem Pd:FnP prog 61 [] (· =kf t0):=by
 have h:=Aq;rw[tW]at h;have e:lR ⟨((0:Int):Rat),[],[]⟩=kf t0:=by show PV.agg [.str (bo ((0:Int):Rat)),_,_]=_;rw[mG];rfl
 rw[e]at h;exact h
theorem Hd:FnP prog 12 [] (· =kf t0):=by
 refine FnP.fg2 (FnP.ofC func12 O ntmps12 Xn λ_ _ _ _=>?_);exact Z1 O<|Z2 O<|VF O ⟨⟨ax ⟨_,underlying45,O⟩ ER O O O,Xq⟩,O⟩
theorem Ng:FnP prog 19 [kf t0,kf t0] (· = .bool VA):=by
 refine FnP.of func19 O ntmps19 Xn λ_ _ _ _=>?_
 refine Z3 O<|Gr O<|Ar 6 O ?_;apply Tt 8 12 20 [13,14,15,16,17,18,19] O Xt
 .intro hb5;exact Ar 8 O<|Tm Xs O O O
 .intro hb5;exact Ar 8 O<|Tm Xs O O O
 refine A1 O ?_;apply Tt 8 21 29 [22,23,24,25,26,27,28] O Xt
 .intro hb14;exact Ar 8 O<|Tm Xs O O O
 .intro hb14;exact Ar 8 O<|Tm Xs O O O
 refine Gc O (λj=>absurd j Xn) (λj=>?_);refine Ti<|Z4 O<|Gz O (st:=λXr:Nat=>([(2,UG),(3,UG),(32,UG),(33,UG)],[(0,UG),(1,UG)])) 2
  (I:=λXr=>True) (μ:=λXr=>0) (x0:=0) (WA O) (trivial) ?_
 rintro u _;refine Z1 O<|Gp O (λq=>absurd q Xl) (λq=>?_);refine Gx O<|Z4 O<|Gz O (st:=λs:Nat=>([(2,UG),(3,UG),(50,UG),(51,UG)],[(0,UG),(1,UG)])) 2
  (I:=λs=>True) (μ:=λs=>0) (x0:=0) (WA O) (trivial) ?_
 rintro u2 _;refine Z1 O<|Gp O (λr=>absurd r Xl) (λr=>?_);exact Gx O<|Z1 O<|VF O O
theorem ctT0(g:FuncId):FnP prog 189 [.sl UG 0 [],.fn (.func g) [] []] (· = .bool VC):=by
 have q:FnP prog 250 [.sl UG 0 [],.fn (.func g) [] []] (· = .int .i64 (-1)):=by
  refine FnP.of func250 O ntmps250 Xn λm0 w0 F R0=>?_
  refine Z1 O<|Z3 O<|Gz O (st:=λXr:Nat=>([(0,UG),(1,UG),(7,UG),(8,UG)],[])) 0
   (I:=λXr=>True) (μ:=λXr=>0) (x0:=0) (Tk (aS O) trivial O O) (trivial) ?_
  rintro u _;refine Z1 O<|Gp O (λj=>absurd j Xl) (λj=>?_);exact Gx O<|Z1 O<|VF O O
 refine FnP.of func189 O ntmps189 Xn λm0 w0 F R0=>?_
 exact Z1 O<|Z2 O<|Rs O (aa call250 q O)<|Y2 O<|VF O O
theorem asT0(g:FuncId):FnP prog 196 [.sl UG 0 [],.fn (.func g) [] []] (· = .bool VA):=by
 refine FnP.of func196 O ntmps196 Xn λ_ _ _ _=>?_
 refine Z1 O<|Z1 O<|Gz O (st:=λXr:Nat=>([(0,UG),(1,UG),(5,UG)],[])) 0
  (I:=λXr=>True) (μ:=λXr=>0) (x0:=0) (Tk (aS O) trivial O O) (trivial) ?_
 rintro u _;refine Z4 O<|Gp O (λj=>absurd j Xl) (λj=>?_);exact Gx O<|Z1 O<|VF O O
theorem ctP0(g:FuncId):FnP prog 193 [.sl UG 0 [],.fn (.func g) [] []] (· = .bool VC):=by
 have q:FnP prog 251 [.sl UG 0 [],.fn (.func g) [] []] (· = .int .i64 (-1)):=by
  refine FnP.of func251 O ntmps251 Xn λm0 w0 F R0=>?_
  refine Z1 O<|Z3 O<|Gz O (st:=λXr:Nat=>([(0,UG),(1,UG),(7,UG),(8,UG)],[])) 0
   (I:=λXr=>True) (μ:=λXr=>0) (x0:=0) (Tk (aS O) trivial O O) (trivial) ?_
  rintro u _;refine Z1 O<|Gp O (λj=>absurd j Xl) (λj=>?_);exact Gx O<|Z1 O<|VF O O
 refine FnP.of func193 O ntmps193 Xn λm0 w0 F R0=>?_
 exact Z1 O<|Z2 O<|Rs O (aa call251 q O)<|Y2 O<|VF O O
theorem asP0(g:FuncId):FnP prog 198 [.sl UG 0 [],.fn (.func g) [] []] (· = .bool VA):=by
 refine FnP.of func198 O ntmps198 Xn λ_ _ _ _=>?_
 refine Z1 O<|Z1 O<|Gz O (st:=λXr:Nat=>([(0,UG),(1,UG),(5,UG)],[])) 0
  (I:=λXr=>True) (μ:=λXr=>0) (x0:=0) (Tk (aS O) trivial O O) (trivial) ?_
 rintro u _;refine Z4 O<|Gp O (λj=>absurd j Xl) (λj=>?_);exact Gx O<|Z1 O<|VF O O
structure KT(x:ByteArray):Prop where
 s:x.size<4294967281
 v:dF x=VA
 b:Lb x=VA
theorem PL(x:ByteArray)(h:KT x):FnP prog 125 [kf x] (· = .bool VA):=by
 refine FnP.of func125 O ntmps125 Xn λ_ _ _ _=>?_
 have D:=lB x h.s λ_ B=>by rw[h.b]at B;cases B
 rw[h.v]at D;have E:=ctT0 190;have B:=ctP0 194;have G:=asT0 197;have H:=asP0 199;refine Z2 O<|Z2 O<|Rs O (aa call188 D O)<|A1 O<|Gc O (λq=>absurd q Xl) (λq=>?_);refine Ti<|Z2 O<|Rs O (aa call189 E O)<|Gc O (λr=>absurd r Xl) (λr=>?_);refine Ti<|Z2 O<|Rs O (aa call193 B O)<|Gc O (λj=>absurd j Xl) (λj=>?_);exact Ti<|Z2 O<|Rs O (aa call196 G O)<|Y3 O<|Rg O (aa call198 H O)<|Y2 O<|VF O O
end
section
open Go.RowKit Mk Jn Mm Vw
abbrev t10:ByteArray:=⟨#[49,48]⟩
theorem pW(n:Nat)(x:ByteArray)(h:bo ((n:Int):Rat)=x):lR (cn (cnt n))=kf x:=by
 rw[sY];show PV.agg [.str (bo ((n:Int):Rat)),_,_]=_;rw[h];rfl
theorem rt1:bo (((1:Nat):Int):Rat)=t1:=by decide+kernel
theorem Rt:bo (((10:Nat):Int):Rat)=t10:=by decide+kernel
theorem kt1:KT t1:=⟨by decide+kernel,by decide+kernel,by decide+kernel⟩
theorem kt10:KT t10:=⟨by decide+kernel,by decide+kernel,by decide+kernel⟩
theorem tN(n:Nat):GvOk [] (cg n 1 0):=⟨nW n,Sup.cnt _ _⟩
theorem QH:FnP prog 130 [kf t1,kf t10] (· = .tup [kf t10,.int .i64 0]):=by
 refine FnP.ofC func130 O ntmps130 Xn λ_ _ _ _=>?_
 have q:=PL t1 kt1;have r:=PL t10 kt10;have B:=Oq (tN 1) Xl (show 1<=40000 by decide) (aJ 8);have D:=Oq (tN 10) Xl (show 10<=40000 by decide) (aJ 8);have E:=vG (nW 1) (nW 10) Xu Xu Xl Xl;have s:=Jo (tN 10) Xl (show 10<=40000 by decide) (aJ 8);rw[show lR (cn (cg 1 1 0).m)=kf t1 from pW 1 t1 rt1]at B;rw[show lR (cn (cg 10 1 0).m)=kf t10 from pW 10 t10 Rt]at D;rw[AP]at E;unfold Rv at s;rw[show lR (cn (cg 10 1 0).m)=kf t10 from pW 10 t10 Rt]at s;refine Z4 O<|Z1 O<|Rs O (aa call125 q O)<|Y3 O<|Rg O (aa call125 r O)<|Y2 O<|Gc O (λj=>absurd j Xl) (λj=>?_);refine Ti<|UB 10 O<|D1 O<|TR O (λτ h=>aa call43 B (h.aD O))<|D1 O<|TR O (λτ h=>aa call43 D (h.aD O))<|TR O (λτ h=>aa call42 E (h.aD O))<|TR O (λτ h=>aa call36 s (h.aD O))<|Dr 4 O ?_;refine⟨Xk,?_⟩;exact VF O ⟨⟨ax ⟨_,underlying45,O⟩ ER O O O,Xq⟩,O⟩
theorem Dw(l:List (List En))(M:l.length<=1000)(c0:ByteArray)(k1 k2:Nat)(q1 q2:List PV):FnP prog 22 [.agg [.sl UG l.length (lstsC l),.str c0,.sl UG k1 q1,.sl UG k2 q2]] (· =ar (l.map λE=>(E.length:Int))):=by
 refine FnP.of func22 O ntmps22 Xn λ_ _ _ _=>?_
 obtain⟨L,hL⟩:∃L:List Int,L=l.map λE=>(E.length:Int):=⟨_,O⟩
 have G:L.length=l.length:=by rw[hL,TB]
 rw[<-hL];refine Z2 O<|Z1 O<|Tj (Tp 3 1 1 3 O O)<|Z4 O<|Gz O (st:=λXr:Nat=>([(3,UF (.gsl 1 1 Xr)),(7,UG),(8,UG),(9,UF (pIi Xr))],[(1,UF (.gro 3 (aK (L.take Xr))))])) 2
  (I:=λXr=>Xr<=l.length) (μ:=λXr=>l.length-Xr) (x0:=0) (Tk (aS O) (aO Xk) O O) (aJ _) ?_
 rintro i hi;refine Z1 O<|Gp O (λj=>?_) (λj=>?_)
 .have hlt:i<l.length:=Xj;have q:=tF hlt;have r:=uF hlt;have s:L[i]'Xj=((l[i].length:Nat):Int):=by simp[hL]
  have B:aK (L.take i)++[.int .i64 ((l[i].length:Nat):Int)]=aK (L.take (i+1)):=by rw[AI (show i<L.length by omega),s];simp
  have H:(aK (L.take i)).length=i*1:=by simp;omega
  generalize l[i]=E at*;exact Ti<|Gr O<|Rs O (ag i underlying40 sz52 O O O hlt r)<|Rs O (az ⟨_,underlying52,O⟩ O q)<|A1 O<|Gr O<|Ar 6 O<|Z2 O<|⟨(i+1),Tl [0,3] (aT O) ⟨TX (b:=UF (.gro 3 (aK (L.take i)++[.int .i64 ((E.length:Nat):Int)]))) Xk (ah (λc=>UF (Ob.gro 3 c)) B),Xq⟩ O O Xl O,hlt,Xj⟩
 have hie:L.take i=L:=aH Xj;have D:i=L.length:=Xj;rw[hie,D];exact Gx O<|Tj (Tn (o:= .gro 3 (aK L)) 1 Xk O)<|Z2 O<|VF O O
structure EOk(S:Sch)(K:List Int)(e:En):Prop where
 l:e.v.length=K.length
 v:FnP prog 125 [lR (cn e.g.m)] (· = .bool VA)
 z:FnP prog 65 [lR (cn e.g.m),kf t0] (· = .bool VC)
 s:∀j (h:j<K.length) (h2:j<e.v.length),∃a:Nat,∃ha:a<S.attrs.length,K[j]=(a:Int)/\FnP prog 126 [.agg [.str S.attrs[a].1,.int .i64 S.attrs[a].2],.str e.v[j]] (· = .bool VA)
theorem jX(S:Sch)(hSa:S.attrs.length<=1000)(K:List Int)(hK:K.length<=1000)(E:List En)(hEl:E.length<=1000)(hE:∀e∈E,EOk S K e)(ha:∀i (h:i+1<E.length),bO (E[i]'Xj).v E[i+1].v=VA):
  FnP prog 63 [gC S,ar K,.sl UG E.length (entsC E)] (· = .bool VA):=by
 refine FnP.of func63 O ntmps63 Xn λ_ _ _ _=>?_
 have hz:=Pd;refine Z2 O<|Z3 O<|Gz O (st:=λXr:Nat=>([(1,UG),(2,UG),(3,UG),(11,UG),(12,UG),(13,UF (pIi Xr))],[(0,UG)])) 1
  (I:=λXr=>Xr<=E.length) (μ:=λXr=>E.length-Xr) (x0:=0) (Tk (aS O) (aO Xk) O O) (aJ _) ?_
 rintro i hi;refine Z1 O<|Gp O (λV=>?_) (λV=>?_)
 .have hlt:i<E.length:=Xj;have L:=mf hlt;have M:=vw hlt;obtain⟨g1,g2,g3,g4⟩:=hE _ (aq hlt);have U:((E[i].v.length:Nat):Int)=((K.length:Nat):Int):=by rw[g1]
  have H:∀h:0<i,(entsC E)[(i-1)*4+0]? =UF (bh (E[i-1]'Xj).v):=λh=>by
   have Y:(((entsC E).drop ((i-1)*4)).take 4)[0]? =(entC (E[i-1]'Xj))[0]? :=by rw[mf (show i-1<E.length by omega)]
   simpa[TS,UN]using Y
  have Z:∀h:0<i,FnP prog 127 [bh (E[i-1]'Xj).v,bh E[i].v] (· = .bool VA):=λh=>by
   have Y:=sF (E[i-1]'Xj).v E[i].v (by rw[(hE _ (aq (show i-1<E.length by omega))).l];omega) (by rw[g1];omega);have h3:=ha (i-1) Xj;have e:i-1+1=i:=Xj;simp only[e]at h3;rw[h3]at Y;exact Y
  generalize E[i]=e at*;refine Ti<|Z1 O<|Rs O (ag i underlying52 Ou O O O hlt M)<|Rs O (aG ⟨_,underlying55,O⟩ Ou O L O)<|Y3 O<|UB 18 O<|Dr 5 O<|TR O (λτ h=>fI (Ee h 0 O O) (Ee h 1 O O) O (show(((e.v.length:Nat):Int) !=((K.length:Nat):Int))=VC by rw[U];simp)) ?_;refine Dr 3 O<|Dg [] O (λτ h=>aa call125 g2 (h.aD O)) O Xk<|Dr 5 O<|Dg [] O (λτ h=>aa call61 hz (h.aD O)) O Xk<|Dg [] O (λτ h=>aa call65 g3 (h.aD O)) O Xk<|D1 O ?_;refine⟨Xk,?_⟩;refine Gc O (λD=>absurd D Xl) (λD=>?_);refine Ti<|Z3 O<|Gz O (st:=λr:Nat=>([(1,UG),(2,UG),(3,UG),(7,UG),(8,UG),(11,UG),(12,UG),(13,UG),(36,UG),(37,UG),(38,UF (pIi r))],[(0,UG),(1,UG)])) 2
   (I:=λr=>r<=K.length) (μ:=λr=>K.length-r) (x0:=0) (Tk (aS O) (aO Xk) O O) (aJ _) ?_
  rintro j hj;refine Z1 O<|Gp O (λW=>?_) (λW=>?_)
  .have hjl:j<K.length:=Xj;have B:j<e.v.length:=Xj;obtain⟨a,hal,hKa,hval⟩:=g4 j hjl B;have ab:(aK K)[j*1]? =UF (.int .i64 (a:Int)):=by rw[<-hKa];simp[hjl]
   have ac:=aM hjl;have ad:=ke hal;have af:=gY hal;have ah:=bL B;have ak:=bN B;refine Ti<|Z1 O<|Rs O (ag j underlying22 sz3 O O O hjl ac)<|Rs O (az ⟨_,underlying3,O⟩ O ab)<|Y2 O<|UB 12 O<|Dr 3 O<|TR O (λτ h=>ag a underlying26 yF (Ee h 0 O O) (Ee h 1 O O) O hal af)<|TR O (λτ h=>aG ⟨_,underlying81,O⟩ yF (Ee h 0 O O) ad O)<|Dr 3 O<|TR O (λτ h=>ag j underlying53 sz9 (Ee h 0 O O) (Ee h 1 O O) O B ak)<|TR O (λτ h=>az ⟨_,underlying9,O⟩ (Ee h 0 O O) ah)<|TR O (λτ h=>aa call126 hval (h.aD O))<|D1 O ?_;refine⟨Xk,?_⟩;refine Gc O (λG=>absurd G Xl) (λG=>?_);exact Ti<|Z2 O<|⟨(j+1),Tk (aS O) (aO Xk) O O,hjl,Xj⟩
  refine Gx O ?_;by_cases h0:0<i
  .refine UB 14 O<|D1 O<|TR O (λτ h=>cU (Ee h 0 O O) (Ee h 1 O O) O (TD (show(i:Int)>0 by omega))) ?_;refine Dr 4 O<|Dg [] O (λτ h=>ag (i-1) underlying52 Ou (Ee h 0 O O) (Ee h 1 O O) Xj Xj M) O Xk<|D1 O<|Dg [] O (λτ h=>az ⟨_,underlying53,O⟩ (Ee h 0 O O) (H h0)) O Xk<|Dr 2 O<|Dg [] O (λτ h=>aa call127 (Z h0) (h.aD O)) O Xk<|Dr 2 O ?_;refine⟨Xk,?_⟩;refine Gc O (λq=>absurd q Xl) (λq=>?_);exact Ti<|Z2 O<|⟨(i+1),Tk (aS O) (aO Xk) O O,hlt,Xj⟩
  refine UB 14 O<|D1 O<|TR O (λτ h=>fI (Ee h 0 O O) (Ee h 1 O O) O (TL (show ¬ (i:Int)>0 by omega))) ?_;refine Dr 12 O ?_;refine⟨Xk,?_⟩;refine Gc O (λq=>absurd q Xl) (λq=>?_);exact Ti<|Z2 O<|⟨(i+1),Tk (aS O) (aO Xk) O O,hlt,Xj⟩
 exact Gx O<|Z1 O<|VF O O
end
section
open Go.RowKit Mk Jn Mm Vw
noncomputable abbrev exLs:List (List En):=[[e7 2],[eN],[e7 5,e8 1]]
noncomputable abbrev exW:PV:= .agg [.sl UG 3 (lstsC exLs),.str t10,.sl UG 0 [],.sl UG 0 []]
abbrev tw2:ByteArray:=⟨#[50]⟩
theorem rt2:bo (((2:Nat):Int):Rat)=tw2:=by decide+kernel
theorem OM(r:Nat)(B:r<3)(key:List ByteArray)(H:key.length<=1)(g:Gv)(x:ByteArray)(q:atV (exLs.getD r []) key=g)(D:lR (cn g.m)=kf x):FnP prog 23 [exW,.int .i64 r,bh key] (· =kf x):=by
 have G:∀w:Nat,w<=40000->MF1 (cn (cnt w)):=λw hw=>qj (tN w) Xl hw (aJ 8)
 have s:∀E∈exLs,E.length<=1000000/\∀e∈E,e.v.length<=1000000/\MF1 (cn e.g.m):=by grind
 have j:r<exLs.length:=B;obtain⟨h1,h2⟩:=s exLs[r] (aq j);have h:=RZ exLs t10 UG UG 0 0 [] [] r j key Xj h1 h2;have e:exLs.getD r []=exLs[r]:=by rw[TO,IS j];rfl
 rw[e]at q;rw[q,D]at h;exact h
theorem at_root:FnP prog 23 [exW,.int .i64 1,bh []] (· =kf t10):=
 OM 1 Xl [] Xl (cg 10 1 3) t10 Xk (pW 10 t10 Rt)
theorem at_7:FnP prog 23 [exW,.int .i64 0,bh [Vw.t7]] (· =kf tw2):=
 OM 0 Xl [Vw.t7] Xl (cg 2 1 1) tw2 Xk (pW 2 tw2 rt2)
theorem at_8:FnP prog 23 [exW,.int .i64 0,bh [Vw.t8]] (· =kf t0):=
 OM 0 Xl [Vw.t8] Xl gz t0 Xk (by rw[tW];show PV.agg [.str (bo ((0:Int):Rat)),_,_]=_;rw[mG];rfl)
def zT(i:Nat):ByteArray:=if i=0 then t1 else t10
theorem Mc:FnP prog 64 [gC bm,pY bI,exW] (· = .tup [kf t10,.int .i64 0]):=by
 refine FnP.ofC func64 O ntmps64 Xn λ_ _ _ _=>?_
 have s:=gl bm oB bI Xl;rw[vh]at s;have B:=uK bm oB bI Xl (-1);rw[sh Xl,NS]at B;have E:=Rr;have G:=at_root;have H:∀i,i<1->FnP prog 130 [kf (zT i),kf t10] (· = .tup [kf (zT (i+1)),.int .i64 0]):=λi hi=>by
  obtain rfl:i=0:=Xj;exact QH
 refine Gr O<|Ar 5 O<|Z2 O<|Rs O (aa call62 s O)<|A1 O<|Z2 O<|Gc O (λj=>absurd j Xl) (λj=>?_);refine Ti<|Gr O<|Ar 7 O<|Gc O (λq=>absurd q Xl) (λq=>?_);refine Ti<|Gr O<|Rs O (aa call128 E O)<|Y2 O<|Z2 O<|Rs O (aa call129 B O)<|Y2 O<|Gl O (st:=λXr:Nat=>mkS [(5,.ptr 2 0),(6,.ptr 3 0),(9,.ptr 4 0),(32,.pv (ar [1])),(33,pIi 1),(34,pIi Xr)] [(2,.mix 47 [.pv (.sl UG 3 (lstsC exLs)),.pv (.str t10),.pv (.sl UG 0 []),.pv (.sl UG 0 [])]),(3,.mix 45 [.pv (.str ⟨#[]⟩),.pv nS,.pv nS]),(4,.mix 45 [.pv (.str (zT Xr)),.pv (.sl UG 0 []),.pv (.sl UG 0 [])])] 5)
  (I:=λXr=>Xr<=1) (μ:=λXr=>1-Xr) (x0:=0) (Tk (aS O) (aO Xk) O O) (aJ _) ?_
 rintro i hi;refine Z1 O<|Gp O (λD=>?_) (λD=>?_)
 .have hi1:i<1:=Xj;have U:=H i hi1;have L:(aK [1])[i*1]? =UF (.int .i64 1):=by obtain rfl:i=0:=(Xj);rfl
  have M:aK [1]≠[]:=Xn;refine Ti<|Gr O<|Rs O (ag i underlying22 sz3 O O O hi1 M)<|Rs O (az ⟨_,underlying3,O⟩ O L)<|A1 O<|UB 11 O<|Dr 3 O<|TR O (λτ h=>aa call23 G (h.aD O))<|TR O (λτ h=>aa call130 U (h.aD O))<|Dr 6 O ?_;refine⟨Xk,?_⟩;refine Z2 O<|Gc O (λr=>absurd r Xl) (λr=>?_);exact Ti<|Z2 O<|Z2 O<|⟨(i+1),Tk (aS O) (aO Xk) O O,hi1,Xj⟩
 have hi1:i=1:=Xj;subst hi1;exact Gx O<|Z3 O<|VF O ⟨⟨ax ⟨_,underlying45,O⟩ ER O O O,Xq⟩,O⟩
end
section
open Go.RowKit Mk Jn Mm Vw
theorem BJ(e:En)(w:Nat)(x:ByteArray)(q:e.g.m=cnt w)(r:bo ((w:Int):Rat)=x)(s:KT x)(B:(x.toList==t0.toList)=VC)(K:List Int)(D:e.v.length=K.length)(E:∀a∈K,a=1)(G:∀y∈e.v,aN y=VA/\(rdZ y).natAbs<1000000000):EOk bm K e:=by
 have hc:lR (cn e.g.m)=kf x:=by rw[q];exact pW w x r
 refine⟨D,?_,?_,λj h1 h2=>⟨1,Xl,E _ (aq h1),pU _ _ (.inr (G _ (aq h2)))⟩⟩
 .rw[hc];exact PL x s
 rw[hc];exact QA x t0 B
theorem HX(K:List Int)(E:List En)(G:(K=[1]/\E=[e7 2])\/(K=[]/\E=[eN])\/(K=[1]/\E=[e7 5,e8 1])):FnP prog 63 [gC bm,ar K,.sl UG E.length (entsC E)] (· = .bool VA):=by
 have q:bo (((2:Nat):Int):Rat)=⟨#[50]⟩:=by decide+kernel
 have r:bo (((5:Nat):Int):Rat)=⟨#[53]⟩:=by decide+kernel
 have s:KT ⟨#[50]⟩:=⟨by decide+kernel,by decide+kernel,by decide+kernel⟩;have B:KT ⟨#[53]⟩:=⟨by decide+kernel,by decide+kernel,by decide+kernel⟩;have j:∀y∈[Vw.t7],aN y=VA/\(rdZ y).natAbs<1000000000:=λy hy=>by rw[TF]at hy;subst hy;exact⟨by decide+kernel,by decide+kernel⟩
 have D:∀y∈[Vw.t8],aN y=VA/\(rdZ y).natAbs<1000000000:=λy hy=>by rw[TF]at hy;subst hy;exact⟨by decide+kernel,by decide+kernel⟩
 rcases G with⟨rfl,rfl⟩|⟨rfl,rfl⟩|⟨rfl,rfl⟩
 .refine jX bm Xl [1] Xl [e7 2] Xl (λe he=>?_) (λi h=>absurd h Xn);rw[TF]at he;subst he;exact BJ _ 2 _ O q s Xu [1] O Xn j
 .refine jX bm Xl [] Xl [eN] Xl (λe he=>?_) (λi h=>absurd h Xn);rw[TF]at he;subst he;exact BJ _ 10 _ O Rt kt10 Xu [] O Xn Xn
 refine jX bm Xl [1] Xl [e7 5,e8 1] Xl (λe he=>?_) (λi h=>?_)
 .simp only[BY,UI,V9]at he;rcases he with rfl|rfl
  .exact BJ _ 5 _ O r B Xu [1] O Xn j
  exact BJ _ 1 _ O rt1 kt1 Xu [1] O Xn D
 obtain rfl:i=0:=by simp at h;omega
 show bO [Vw.t7] [Vw.t8]=VA;decide+kernel
theorem Ks:FnP prog 24 [gC bm,pY bI,exW] (· = .bool VA):=by
 refine FnP.of func24 O ntmps24 Xn λ_ _ _ _=>?_
 have B:=gl bm oB bI Xl;rw[vh]at B;have U:=NB bm oB bI IG;have s:=Mc;have V:=LB t10;have ac:(bF bm bI).kes.length=3:=by simp[bF,a7]
 have G:∀i (h:i<3) (h2:i<(bF bm bI).kes.length),FnP prog 63 [gC bm,ar (bF bm bI).kes[i],.sl UG (exLs[i]'h).length (entsC (exLs[i]'h))] (· = .bool VA):=λi h h2=>by
  have:i=0\/i=1\/i=2:=Xj;rcases this with rfl|rfl|rfl
  .exact HX _ _ (.inl ⟨(Iu (S:=bm) (P:=bI) (v:=0) Xl).trans FG,O⟩)
  .exact HX _ _ (.inr (.inl ⟨(Iu (S:=bm) (P:=bI) (v:=1) Xl).trans NQ,O⟩))
  exact HX _ _ (.inr (.inr ⟨(Iu (S:=bm) (P:=bI) (v:=2) Xl).trans JH,O⟩))
 obtain⟨l,hl⟩:∃l,l=exLs:=⟨_,O⟩;have ad:l.length=3:=by rw[hl];rfl
 have H:∀i (h:i<l.length) (h2:i<(bF bm bI).kes.length),FnP prog 63 [gC bm,ar (bF bm bI).kes[i],.sl UG l[i].length (entsC l[i])] (· = .bool VA):=λi h h2=>by subst hl;exact G i h h2
 unfold exW at s ⊢;rw[<-hl]at s ⊢;clear G hl;generalize bF bm bI=D at*;refine Z4 O<|Z2 O<|Rs O (aa call62 B O)<|Ar 10 O<|Gc O (λq=>absurd q Xl) (λq=>?_);refine Ti<|Z2 O<|Rs O (aa call32 U O)<|Y2 O<|Z4 O<|Gl O (st:=λXr:Nat=>mkS [(3,.ptr 0 0),(4,.ptr 1 0),(5,.ptr 2 0),(7,.ptr 3 0),(29,.pv (.sl UG 3 (lstsC l))),(30,pIi 3),(31,pIi Xr)] [(0,.mix 30 [.pv (.sl UG 3 (aU bm.attrs)),.pv (.sl UG 2 (aY bm.rels)),.pv (.sl UG 0 []),pIi (-1)]),(1,.mix 35 [.pv (ar bI)]),(2,.mix 47 [.pv (.sl UG 3 (lstsC l)),.pv (.str t10),.pv (.sl UG 0 []),.pv (.sl UG 0 [])]),(3,.mix 90 [.pv (bC D.chs),.pv (bC D.kes),.pv (bC D.hos),.pv (ar D.wa)])] 4)
  (I:=λXr=>Xr<=3) (μ:=λXr=>3-Xr) (x0:=0) (Tk (aS O) (aO Xk) O O) (aJ _) ?_
 rintro i hi;refine Z1 O<|Gp O (λM=>?_) (λM=>?_)
 .have hlt:i<l.length:=Xj;have L:i<3:=Xj;have j:i<D.kes.length:=Xj;have W:=tF hlt;have Y:=uF hlt;have Z:=gI j;have ab:=gO j;have he:=H i hlt j;generalize l[i]=E at*;generalize D.kes[i]=K at*;refine Ti<|Z1 O<|Rs O (ag i underlying40 sz52 O O O L Y)<|Rs O (az ⟨_,underlying52,O⟩ O W)<|Y2 O<|UB 9 O<|Dr 4 O<|TR O (λτ h=>ag i underlying88 sA (Ee h 0 O O) (Ee h 1 O O) O j ab)<|TR O (λτ h=>az ⟨_,underlying22,O⟩ (Ee h 0 O O) Z)<|D1 O<|TR O (λτ h=>aa call63 he (h.aD O))<|D1 O ?_;refine⟨Xk,?_⟩;refine Gc O (λr=>absurd r Xl) (λr=>?_);exact Ti<|Z2 O<|⟨(i+1),Tk (aS O) (aO Xk) O O,Xj,Xj⟩
 exact Gx O<|Z3 O<|Rs O (aa call64 s O)<|Ar 6 O<|Gr O<|Ar 6 O<|Rg O (aa call65 V O)<|Y2 O<|VF O O
end
section
open Mk
theorem NF{k':Nat}(h:upF P k x=UF l)(j:k<=k'):upF P k' x=UF l:=by
 induction j with
 |refl=>exact h
 |step _ ih=>exact pg ih
theorem tQ(h:upF P k x=UF l)(j:¬x<0):∃k' l',k=k'+1/\l=x::l'/\upF P k' (P.getD x.toNat 0)=UF l':=by
 cases k with
 |zero=>simp[upF,j]at h
 | succ k=>
   simp only[upF,sh j,Vz]at h;obtain⟨l',h1,h2⟩:=h;exact⟨k,l',O,h2.symm,h1⟩
theorem vI:∀{k:Nat}{x:Int}{l:List Int},upF P k x=UF l->∀i (j:i<l.length),∃k',upF P k' l[i]=UF (l.drop i)
 | k,x,l,h,i,j=>by
   by_cases hx:x<0
   .grind[iU]
   obtain⟨k',l',rfl,rfl,h2⟩:=tQ h hx;cases i with
   |zero=>exact⟨k'+1,h⟩
   |succ i=>exact vI h2 i (by simpa using j)
theorem KV{k':Nat}{l':List Int}(h:upF P k x=UF l)(j:upF P k' x=UF l'):l=l':=by grind[NF,Xc,Nat.le_max_right,VJ]
theorem Jg(h:upF P k x=UF l):l.Nodup:=by
 rw[List.Nodup,Uj];intro i j hi hj hij e;obtain⟨k1,h1⟩:=vI h i hi;obtain⟨k2,h2⟩:=vI h j hj;rw[e]at h1;have:=ah List.length (KV h1 h2);simp at this;omega
theorem J4(q:∀p∈P,p<P.length):∀{k:Nat}{x:Int}{l:List Int},upF P k x=UF l->x<P.length->∀y∈l,0<=y/\y<P.length
 | k,x,l,h,hx,y,hy=>by
   by_cases h0:x<0
   .grind[iU]
   obtain⟨k',l',rfl,rfl,h2⟩:=tQ h h0;rcases BY.1 hy with rfl|hy2
   .exact⟨Xj,hx⟩
   obtain⟨a,rfl⟩:=Bg (show 0<=x by omega);have j:a<P.length:=Xj;refine J4 q h2 ?_ y hy2;simp[List.getD,j];exact q _ (aq j)
theorem Hp(s:∀p∈P,p<P.length)(h:upF P k x=UF l)(j:x<P.length):l.length<=P.length:=by
 have q:=J4 s h j;have r:((upZ P.length).filter λa=>decide (a∈l)).Perm l:=dT (Vs UT (cq _)) (Jg h) λa=>by
  rw[UW,Vj];refine⟨λh=>h.2,λh=>⟨?_,h⟩⟩;obtain⟨x,j⟩:=Bg (q a h).1;exact bp.2 ⟨x,by have:=(q a h).2;omega,j⟩
 rw[<-r.length_eq];exact AS (UZ _ _) (by rw[a7];exact AT _)
theorem Az:∀{k:Nat}{x:Int}{l:List Int},upF P k x=UF l->upF P l.length x=UF l
 | k,x,l,h=>by
   by_cases h0:x<0
   .grind[iU]
   obtain⟨k',l',rfl,rfl,h2⟩:=tQ h h0;have:=Az h2;simp only[IT,upF,sh h0,this,Vu]
theorem jQ(P:List Int)(v:Nat)(B:v<P.length)(G:∀p∈P,p<P.length)(W:P.length<=1000000):FnP prog 44 [pY P,.int .i64 v] (· = .tup [ar (bU P v),.bool (abv P v).isSome]):=by
 refine FnP.of func44 O ntmps44 Xn λ_ _ _ _=>?_
 have H:=a6 B;have M:=aM B;have q:=wY B;have r:=G _ (aq B);refine Z3 O<|Z1 O<|Tj (Tp 6 1 1 3 O O)<|Z4 O<|A2 O Xm ?_;refine A1 O ?_;refine Gz O (st:=λXr:List Int×Int=>([(2,UG),(6,UF (.gsl 1 1 Xr.1.length)),(7,UF (pIi Xr.2))],[(0,UG),(1,UF (.gro 3 (aK Xr.1)))])) 2
  (I:=λXr=>Xr.1.length<=P.length+1/\Xr.2<P.length/\upF P (P.length+1) P[v]=(upF P (P.length+1-Xr.1.length) Xr.2).map (Xr.1++ ·)) (μ:=λXr=>P.length+1-Xr.1.length) (x0:=([],P[v])) (WA O) (⟨aJ _,r,Xn⟩) ?_
 rintro⟨L,x⟩ ⟨hl,hx,hu⟩;try simp only at hl hx hu ⊢
 refine Z2 O<|Gp O (λj=>?_) (λj=>?_)
 .obtain⟨a,rfl⟩:=Bg j;have D:a<P.length:=Xj;have U:=a6 D;have V:(aK L).length=L.length*1:=Xn;refine Ti<|Gr O<|Ar 6 O<|Gp O (λs=>?_) (λs=>?_)
  .have hle:L.length=P.length+1:=Xj;have E:abv P v=UG:=by
    rw[hle,Nat.sub_self,A5 Xj]at hu;rw[q];cases e:upF P P.length P[v]with
    |none=>rfl
    |some l=>rw[pg e]at hu;cases hu
   exact Tj (St.kV [])<|Z2 O<|Tj (St.kV [4])<|VF O<|by unfold bU;rw[E];rfl
  have hlt:L.length<P.length+1:=Xj;refine Ti<|Gr O<|Ar 5 O<|Z4 O<|A2 O Xm ?_;exact A1 O<|⟨(L++[(a:Int)],P[a]),Tl [0,3] ⟨O,by simp;rfl,O,Xq⟩ ⟨O,ah (λc=>UF (Ob.gro 3 c)) (fm L a).symm,Xq⟩ O O Xl O,⟨Xo,G _ (aq D),by rw[hu,show P.length+1-L.length=P.length+1-(L++[(a:Int)]).length+1 by simp;omega,tr D,Option.map_map];congr 1;funext l;simp⟩,Xo⟩
 have hso:abv P v=UF L:=by rw[iU (show x<0 by omega)]at hu;simp at hu;rw[q];exact NF (Az hu) (Hp G hu r)
 exact Gx O<|Tj (Tn 1 O O)<|Z3 O<|VF O<|by unfold bU;rw[hso];simp[Ct];rfl
theorem HT(a b:Int)(p q:Bool):((a !=b&& !p)&& !q)= !(a==b||q||p):=by
 rw[bne];cases (a==b)<;>cases p<;>cases q<;>rfl
theorem D6(S:Sch)(hS:SB S)(P:List Int)(hn:P.length<=1000000):FnP prog 47 [gC S,pY P] (· = .int .i64 (qo S P)):=by
 refine FnP.of func47 O ntmps47 Xn λ_ _ _ _=>?_
 have hb:=hS.a;refine Z3 O<|Z1 O<|Rs O (aa call49 (w8 S hS) O)<|A1 O<|Z2 O<|Gc O (λL=>?_) (λL=>?_)
 .exact Z2 O<|VF O<|ah (PV.int .i64) (by unfold qo;rw[By (inT L)])
 have h0:bV S=0:=inF L;have hV:=mW h0;have ak:=hV.rng;have hr6:=hV.r2;refine Ti<|Z4 O<|Gr O<|Ar 5 O<|Gc O (λM=>?_) (λM=>?_)
 .have hne0:¬P.length=S.attrs.length:=by have:=inT M;omega
  exact Z1 O<|VF O<|ah (PV.int .i64) (by unfold qo;rw[sh (λh=>h h0),By hne0])
 have heq:P.length=S.attrs.length:=by have:=inF M;omega
 refine Ti<|Z4 O<|Gz O (st:=λXr:Nat=>([(2,UG),(3,UG),(6,UG),(36,UG),(37,UG),(38,UF (pIi Xr))],[(0,UG),(1,UG)])) 2
  (I:=λXr=>Xr<=P.length/\((P.take Xr).any λp=>decide (p< -1)||decide ((P.length:Int)<=p))=VC) (μ:=λXr=>P.length-Xr) (x0:=0) (WA O) (⟨aJ _,O⟩) ?_
 rintro k ⟨hk,hany⟩;refine Z1 O<|Gp O (λab=>?_) (λab=>?_)
 .have hlt:k<P.length:=Xj;have hva:=a6 hlt;have al:=aM hlt;refine Ti<|Z1 O<|A2 O Xm ?_;refine A1 O<|Z3 O ?_;apply Tt 4 44 48 [45,46,47] O Xt
  .intro hb2;exact Ar 4 O<|Tm Xs O O O
  .intro hb2;exact Ar 4 O<|Tm Xs O O O
  refine Gc O (λB=>?_) (λB=>?_)
  .rw[<-heq]at B;exact Z1 O<|VF O<|ah (PV.int .i64) (by unfold qo;rw[sh (λh=>h h0),sh (λh=>h heq),By (wH hlt B)])
  rw[<-heq]at B;exact Ti<|Z2 O<|⟨(k+1),WA O,⟨Xj,jb hlt hany B⟩,Xj⟩
 rw[aH Xj]at hany;have hP:∀p∈P,p<P.length:=λp hp=>by have:=List.any_eq_false.1 hany p hp;simp at this;omega
 refine Gx O<|Z4 O<|Gz O (st:=λD:Nat=>([(2,UG),(3,UG),(52,UG),(53,UF (pIi D))],[(0,UG),(1,UG)])) 2
  (I:=λD=>D<=P.length/\((List.range D).all λv=>(abv P v).isSome)=VA) (μ:=λD=>P.length-D) (x0:=0) (WA O) (⟨aJ _,O⟩) ?_
 rintro q ⟨hq,hall⟩;refine Z1 O<|Gp O (λac=>?_) (λac=>?_)
 .have hlt:q<P.length:=Xj;refine Ti<|Z2 O<|Z2 O<|Rs O (aa call44 (jQ P q hlt hP hn) O)<|Ar 5 O<|Z2 O<|Gc O (λU=>?_) (λU=>?_)
  .have V:((List.range P.length).all λv=>(abv P v).isSome)=VC:=V0.2 ⟨q,UR.2 hlt,by simpa using U⟩;exact Z1 O<|VF O<|ah (PV.int .i64) (by unfold qo;rw[sh (λh=>h h0),sh (λh=>h heq),sh (by rw[hany];decide),By V])
  exact Ti<|Z2 O<|⟨(q+1),WA O,⟨Xj,by rw[Wo,Wz,hall];simpa using U⟩,Xj⟩
 obtain rfl:q=P.length:=Xj;refine Gx O<|Z4 O<|Gz O (st:=λE:Nat=>([(3,UG),(66,UG),(67,UG),(68,UF (pIi E))],[(1,UG)])) 2
  (I:=λE=>E<=S.rels.length/\((S.rels.take E).all λr=>dD P r.2)=VA) (μ:=λE=>S.rels.length-E) (x0:=0) (WA O) (⟨aJ _,O⟩) ?_
 rintro k ⟨hk,hrall⟩;refine Z1 O<|Gp O (λad=>?_) (λad=>?_)
 .have hlt:k<S.rels.length:=Xj;have hrow:=fb hlt;have al:=iD hlt;have W:=aq hlt;have Y:=ak _ W;have hrl:=hS.rl _ W;have V:dD P S.rels[k].2=VC->(S.rels.all λr=>dD P r.2)=VC:=λh=>qp hlt h
  refine Ti<|Z1 O<|A3 O Xm ?_;refine Y2 O<|Z4 O ?_;refine Gz O (st:=λG:Nat=>([(3,UG),(13,UG),(66,UG),(67,UG),(68,UG),(73,UG),(74,UG),(75,UF (pIi G))],[(1,UG),(2,UG)])) 3
   (I:=λG=>G<=S.rels[k].2.length/\((S.rels[k].2.take G).all λa=>S.rels[k].2.all λb=>a==b||hiB P a b||hiB P b a)=VA) (μ:=λG=>S.rels[k].2.length-G) (x0:=0) (WA O) (⟨aJ _,O⟩) ?_
  rintro i ⟨hi,hia⟩;refine Z1 O<|Gp O (λaf=>?_) (λaf=>?_)
  .have hil:i<S.rels[k].2.length:=Xj;have hvi:=a6 hil;have hnei:=aM hil;have hri:=Y _ (aq hil);obtain⟨a,hae⟩:=Bg hri.1;rw[hae]at hvi;have hal:a<P.length:=Xj;have hla:=jg P a;refine Ti<|Z1 O<|A2 O Xm ?_;refine A1 O<|Z4 O ?_;refine Gz O (st:=λH:Nat=>([(3,UG),(13,UG),(15,UG),(66,UG),(67,UG),(68,UG),(73,UG),(74,UG),(75,UG),(80,UG),(81,UG),(82,UF (pIi H))],[(1,UG),(2,UG)])) 3
    (I:=λH=>H<=S.rels[k].2.length/\((S.rels[k].2.take H).all λb=>(a:Int)==b||hiB P a b||hiB P b a)=VA) (μ:=λH=>S.rels[k].2.length-H) (x0:=0) (WA O) (⟨aJ _,O⟩) ?_
   rintro j ⟨hj,hja⟩;refine Z1 O<|Gp O (λag=>?_) (λag=>?_)
   .have hjl:j<S.rels[k].2.length:=Xj;have hvj:=a6 hjl;have hrj:=Y _ (aq hjl);obtain⟨b,hbe⟩:=Bg hrj.1;rw[hbe]at hvj;have hbl:b<P.length:=Xj;have hlb:=jg P b;refine Ti<|Z1 O<|A2 O Xm ?_;refine A1 O<|Z2 O<|Rs O (aa call44 (jQ P a hal hP hn) O)<|Ar 5 O<|Z2 O<|Rs O (aa call44 (jQ P b hbl hP hn) O)<|Ar 5 O<|Z4 O ?_;apply Tu 5 101 106 [102,103,104,105] O Xt
    .intro hb3;exact Y2 O<|Rg O (aa call45 (ns (bU P a) b Xj) O)<|Y2 O<|Tm Xs O O O
    .intro hb3;exact Ar 5 O<|Tm Xs O O O
    refine A1 O ?_;apply Tu 5 107 112 [108,109,110,111] O Xt
    .intro hb9;exact Y2 O<|Rg O (aa call45 (ns (bU P b) a Xj) O)<|Y2 O<|Tm Xs O O O
    .intro hb9;exact Ar 5 O<|Tm Xs O O O
    refine Gc O (λs=>?_) (λs=>?_)
    .rw[HT,Vg]at s;have Z:dD P S.rels[k].2=VC:=by unfold dD;rw[qp hil (qp hjl (by rw[hae,hbe];exact s))]
     exact Z1 O<|VF O<|ah (PV.int .i64) (by unfold qo;rw[sh (λh=>h h0),sh (λh=>h heq),sh (by rw[hany];decide),sh (by rw[hall];decide),By (V Z)])
    rw[HT,Bool.not_eq_false']at s;exact Ti<|Z2 O<|⟨(j+1),WA O,⟨Xj,mr hjl hja (by rw[hbe];exact s)⟩,Xj⟩
   rw[aH Xj]at hja;exact Gx O<|Z2 O<|⟨(i+1),WA O,⟨Xj,mr hil hia (by rw[hae];exact hja)⟩,Xj⟩
  rw[aH Xj]at hia;exact Gx O<|Z2 O<|⟨(k+1),WA O,⟨Xj,mr hlt hrall hia⟩,Xj⟩
 rw[aH Xj]at hrall;exact Gx O<|Z1 O<|VF O<|ah (PV.int .i64) (by unfold qo;rw[sh (λh=>h h0),sh (λh=>h heq),sh (by rw[hany];decide),sh (by rw[hall];decide),sh (by rw[hrall];decide)])
end
section
open Mk
theorem GV(S:Sch)(P:List Int)(v:Int):((qo S P !=0||decide (v<0))||decide (v>=(P.length:Int)))= !isB S P v:=by
 have j:decide (v<0)= !decide (v>=0):=by rw[TY];simp
 have q:decide (v>=(P.length:Int))= !decide (v<P.length):=by rw[TY];simp
 unfold isB;rw[j,q,bne];cases (qo S P==0)<;>cases decide (v>=0)<;>cases decide (v<(P.length:Int))<;>rfl
theorem Kj(j:v<P.length):bA P v≠[]:=λh=>by
 have:(v:Int)∈bA P v:=iF.2 ⟨⟨v,j,O⟩,.inl O⟩;rw[h]at this;cases this
theorem qb(S:Sch)(hS:SB S)(P:List Int)(M:P.length<=1000000)(v:Int):FnP prog 11 [gC S,pY P,.int .i64 v] (· =if isB S P v=VA then .sl (UF VC) (bA P v).length (aK (bA P v))else .sl (UF VA) 0 []):=by
 refine FnP.of func11 O ntmps11 Xn λ_ _ _ _=>?_
 refine Z3 O<|Z2 O<|Rs O (aa call47 (D6 S hS P M) O)<|Y2 O ?_;apply Tt 3 15 18 [16,17] O Xt
 .intro hb4;exact Y3 O<|Tm Xs O O O
 .intro hb4;exact Y3 O<|Tm Xs O O O
 refine A1 O ?_;apply Tt 6 19 25 [20,21,22,23,24] O Xt
 .intro hb8;exact Ar 6 O<|Tm Xs O O O
 .intro hb8;exact Ar 6 O<|Tm Xs O O O
 refine Gc O (λj=>?_) (λj=>?_)
 .rw[GV]at j;exact Z1 O<|VF O<|by rw[sh (by simpa using j)];rfl
 rw[GV]at j;have H:isB S P v=VA:=by simpa using j
 have B:=E4.1 H;have G:=(jY.1 B.1).2;have U:∀p∈P,p<P.length:=λp hp=>(G.rng p hp).2
 obtain⟨a,rfl⟩:=Bg B.2.1;have s:=Kj (show a<P.length by omega);refine Ti<|Z1 O<|Tj (Tp 7 2 1 3 O O)<|Z4 O<|Gz O (st:=λXr:Nat×List Int=>([(2,UG),(4,UG),(7,UF (.gsl 2 1 Xr.2.length)),(28,UG),(29,UF (pIi Xr.1))],[(1,UG),(2,UF (.gro 3 (aK Xr.2)))])) 3
  (I:=λXr=>Xr.1<=P.length/\Xr.2=(upZ Xr.1).filter (λb=>b==(a:Int)||hiB P a b)) (μ:=λXr=>P.length-Xr.1) (x0:=(0,[])) (WA O) (⟨aJ _,O⟩) ?_
 rintro⟨k,L⟩ ⟨hk,hL⟩;try simp only at hk hL ⊢
 refine Z1 O<|Gp O (λE=>?_) (λE=>?_)
 .have hlt:k<P.length:=Xj;have V:L.length<=k:=by rw[hL];exact AS (UZ _ _) (by rw[a7];exact AT _)
  have W:(aK L).length=L.length*1:=Xn;have r:=lr (λb=>b==(a:Int)||hiB P a b) k;have Y:=jg P k;refine Ti<|Z2 O<|Z2 O<|Rs O (aa call44 (jQ P k hlt U M) O)<|Ar 5 O<|Z4 O ?_;apply Tt 4 41 45 [42,43,44] O Xt
  .intro hb3;exact Ar 4 O<|Tm Xs O O O
  .intro hb3;exact Y2 O<|Rg O (aa call45 (ns (bU P k) a Xj) O)<|A1 O<|Tm Xs O O O
  refine Gc O (λq=>?_) (λq=>?_)
  .rw[By (show((k:Int)==(a:Int)||hiB P a k)=VA from q),<-hL]at r;exact Gr O<|Ar 5 O<|Z2 O<|⟨(k+1,L++[(k:Int)]),Tl [0,1,4] ⟨O,O,by simp;rfl,O,O,Xq⟩ ⟨O,ah (λc=>UF (Ob.gro 3 c)) (fm L k).symm,Xq⟩ O O Xl O,⟨Xp,r.symm⟩,Xp⟩
  rw[sh (λe=>by have Z:((k:Int)==(a:Int)||hiB P a k)=VC:=q;rw[Z]at e;cases e),<-hL,Uh]at r;exact Ti<|Z2 O<|⟨(k+1,L),WA O,⟨Xp,r.symm⟩,Xp⟩
 have hLe:L=bA P a:=by rw[hL,show k=P.length by omega];rfl
 subst hLe;have D:=Uq.2 s;exact Gx O<|Tj (St.J8 7 O O D (by simpa using s))<|Tj (Tn 2 O O)<|Z2 O<|VF O<|by rw[By H];rfl
theorem Oy(q:UpOk P)(r:v<P.length):(upZ P.length).filter (λa=>decide (a∈bU P v)&&(bA P v).any λb=>fa S a b)=cK S P v:=by
 unfold cK;refine o5 ?_ (Vs UT ((Iq P.length).imp λh=>Int.le_of_lt h));have j:=(Vh.1 (fN q v r)).2;refine dT (Vs UT (cq _)) (by unfold Ke;exact Vs UT j) λa=>?_
 unfold Ke;rw[UW,UW,du,Vj];refine⟨λh=>h.2,λh=>⟨?_,h⟩⟩;obtain⟨x,hx,e,_⟩:=gL q v r a h.1;exact bp.2 ⟨x,hx,e⟩
theorem Mu{p:Int->Bool}(j:k<l.length):(l.take (k+1)).any p=((l.take k).any p||p l[k]):=by
 rw[ct j];simp only[List.any_append,List.any_cons,List.any_nil,Vc]
theorem Fg(S:Sch)(hS:SB S)(P:List Int)(hn:P.length<=1000000)(v:Int):FnP prog 10 [gC S,pY P,.int .i64 v] (· =ar (if isB S P v=VA then cK S P v else [])):=by
 refine FnP.of func10 O ntmps10 Xn λ_ _ _ _=>?_
 have E:=qb S hS P hn v;refine Z3 O ?_;by_cases hB:isB S P v=VA
 .rw[By hB]at E;refine Z3 O<|Rs O (aa call11 E O)<|A1 O<|Z2 O<|Gc O (λq=>absurd q Xl) (λq=>?_);have G:=E4.1 hB;have H:=(jY.1 G.1).2;have hU:=H.jL;have hP:∀p∈P,p<P.length:=λp hp=>(H.rng p hp).2
  obtain⟨a,rfl⟩:=Bg G.2.1;have M:a<P.length:=Xj;have Y:=Oy (S:=S) hU M;have hab:=jg P a;have hbl:(bA P a).length<=P.length:=by unfold bA;exact AS (UZ _ _) Xn
  refine Ti<|Z2 O<|Rs O (aa call44 (jQ P a M hP hn) O)<|Ar 5 O<|Z1 O<|Tj (Tp 10 2 1 3 O O)<|Z4 O<|Gz O (st:=λXr:Nat×List Int=>([(3,UG),(7,UG),(8,UG),(10,UF (.gsl 2 1 Xr.2.length)),(29,UG),(30,UF (pIi Xr.1))],[(0,UG),(2,UF (.gro 3 (aK Xr.2)))])) 3
   (I:=λXr=>Xr.1<=P.length/\Xr.2=(upZ Xr.1).filter (λx=>decide (x∈bU P a)&&(bA P a).any λb=>fa S x b)) (μ:=λXr=>P.length-Xr.1) (x0:=(0,[])) (WA O) (⟨aJ _,O⟩) ?_
  rintro⟨k,L⟩ ⟨hk,hL⟩;try simp only at hk hL ⊢
  refine Z1 O<|Gp O (λV=>?_) (λV=>?_)
  .have hlt:k<P.length:=Xj;have hLl:L.length<=k:=by rw[hL];exact AS (UZ _ _) (by rw[a7];exact AT _)
   have hsl:(aK L).length=L.length*1:=Xn;have s:=lr (λx=>decide (x∈bU P a)&&(bA P a).any λb=>fa S x b) k;refine Ti<|Z2 O<|Z2 O<|Rs O (aa call45 (ns (bU P a) k Xj) O)<|A1 O<|Gc O (λB=>?_) (λB=>?_)
   .have hnm:decide ((k:Int)∈bU P a)=VC:=by simpa using B
    rw[sh (by rw[hnm];simp),<-hL,Uh]at s;exact Gx O<|Z2 O<|⟨(k+1,L),WA O,⟨Xp,s.symm⟩,Xp⟩
   have hnm:decide ((k:Int)∈bU P a)=VA:=by simpa using B
   refine Ti<|Z1 O<|Z3 O<|Gz O (st:=λr:Nat×Bool=>([(3,UG),(7,UG),(8,UG),(10,UG),(11,UG),(12,UF (.pv (.bool r.2))),(29,UG),(30,UG),(37,UG),(38,UG),(39,UF (pIi r.1))],[(0,UG),(2,UG)])) 3
    (I:=λr=>r.1<=(bA P a).length/\r.2=((bA P a).take r.1).any λb=>fa S k b) (μ:=λr=>(bA P a).length-r.1) (x0:=(0,VC)) (WA O) (⟨aJ _,O⟩) ?_
   rintro⟨j,fd⟩ ⟨hj,hfd⟩;try simp only at hj hfd ⊢
   refine Z1 O<|Gp O (λW=>?_) (λW=>?_)
   .have hjl:j<(bA P a).length:=Xj;have hvj:=a6 hjl;have Z:=aM hjl;have U:=Mu (p:=λb=>fa S k b) hjl;rw[<-hfd]at U;refine Ti<|Z1 O<|A2 O Xm ?_;refine A1 O<|Z2 O ?_;apply Tt 5 44 49 [45,46,47,48] O Xt
    .intro hb1;exact Ar 5 O<|Tm Xs O O O
    .intro hb1;exact Y3 O<|Rg O (aa call46 (D8 S hS k (bA P a)[j]) O)<|A1 O<|Tm Xs O O O
    exact A1 O<|Z2 O<|⟨(j+1,fd||fa S k (bA P a)[j]),WA O,⟨Xp,U.symm⟩,Xp⟩
   rw[aH Xj]at hfd;refine Gx O<|Z1 O<|Gc O (λD=>?_) (λD=>?_)
   .rw[By (by rw[hnm,<-hfd,D];rfl),<-hL]at s;exact Gr O<|Ar 5 O<|Z2 O<|⟨(k+1,L++[(k:Int)]),Tl [0,1,4] ⟨O,O,O,by simp;rfl,O,O,Xq⟩ ⟨O,ah (λc=>UF (Ob.gro 3 c)) (fm L k).symm,Xq⟩ O O Xl O,⟨Xp,s.symm⟩,Xp⟩
   rw[sh (by rw[hnm,<-hfd,D];decide),<-hL,Uh]at s;exact Ti<|Z2 O<|⟨(k+1,L),WA O,⟨Xp,s.symm⟩,Xp⟩
  have hLe:L=cK S P a:=by rw[hL,show k=P.length by omega];exact Y
  exact Gx O<|Tj (Tn 2 O O)<|Z2 O<|VF O<|by rw[By hB,<-hLe];simp[Ct];rfl
 rw[sh hB]at E;refine Z3 O<|Rs O (aa call11 E O)<|A1 O<|Z2 O<|Gc O (λq=>?_) (λq=>absurd q Xl);exact Z1 O<|Tj (St.kV [6])<|VF O<|by rw[sh hB];rfl
end

section
open Go.RowKit Mk Jn Mm Vw
theorem JB:FnP prog 20 [] (· = .tup [gC bm,pY bI]):=by
 refine FnP.fg2 (FnP.ofC func20 O ntmps20 Xn λ_ _ _ _=>?_);exact Z2 O<|Z3 O<|Rs O (au UG Xn el26 O Xl Xl O O)<|Rs O (au UG Xn vY O Xl Xl O O)<|A1 O<|Rs O (au UG Xn vY O Xl Xl O O)<|A1 O<|Rs O (au UG Xn el27 O Xl Xl O O)<|Y3 O<|Z1 O<|Rs O (au UG Xn vY O Xl Xl O O)<|Y3 O<|Gt O<|⟨_,_,O,O,⟨ax ⟨_,underlying30,O⟩ sz30 O O O,ax ⟨_,underlying35,O⟩ sz35 O O O,Xq⟩,O⟩
theorem ex_sj:SJn bm:=⟨Xl,Xl,Xl,Xl⟩
theorem G5(A:List Int)(v:List ByteArray)(w:Int)(q:v.length=A.length)(r:∀a∈A,(bm.attrs.getD a.toNat default).2=1)(s:∀y∈v,aN y=VA/\(rdZ y).natAbs<1000000000)(j:1<=w/\w<=100):RowOk bm A 1 ⟨v,w⟩:=
 ⟨q,λi h1 h2 nm=>by rw[r _ (aq h2)];exact pU nm _ (.inr (s _ (aq h1))),⟨by show w≠0;omega,j.1,j.2⟩⟩
theorem K8:FnP prog 70 [gC bm,dbP exD] (· = .int .i64 0):=by
 have j:∀y∈[t1,Vw.t7,t3,Vw.t8],aN y=VA/\(rdZ y).natAbs<1000000000:=λy hy=>by
  simp only[BY,UI,V9]at hy;rcases hy with rfl|rfl|rfl|rfl<;>exact⟨by decide+kernel,by decide+kernel⟩
 refine B7 bm oB ex_sj GA exD O Xl λr h h2=>?_
 match r,h with
 | 0,_=>
   refine⟨λx hx=>?_,?_⟩
   .obtain rfl:x=⟨[t1,Vw.t7],2⟩:=by simpa using hx
    exact G5 [0,1] _ _ O Xl (λy hy=>j y (by simp at hy ⊢; rcases hy with h|h<;>simp[h])) ⟨Xl,Xl⟩
   show NM [_];exact List.pairwise_singleton _ _
 | 1,_=>
   refine⟨λx hx=>?_,?_⟩
   .have hx:x=⟨[Vw.t7,t3],5⟩\/x=⟨[Vw.t8,t3],1⟩:=by simpa using hx
    rcases hx with rfl|rfl
    .exact G5 [1,2] _ _ O Xl (λy hy=>j y (by simp at hy ⊢; rcases hy with h|h<;>simp[h])) ⟨Xl,Xl⟩
    exact G5 [1,2] _ _ O Xl (λy hy=>j y (by simp at hy ⊢; rcases hy with h|h<;>simp[h])) ⟨Xl,Xl⟩
   show NM [_,_];refine Ut.2 ⟨λx hx=>?_,List.pairwise_singleton _ _⟩;obtain rfl:x=⟨[Vw.t8,t3],1⟩:=by simpa using hx
   show bO [Vw.t7,t3] [Vw.t8,t3]=VA;decide+kernel
theorem Lw:FnP prog 9 [gC bm,pY bI,dbP exD] (· = .tup [exW,.int .i64 0]):=by
 have h:=tj exD ex_vb O Xl (λr h q x j=>by
  match r,h with
  | 0,_=>
    obtain rfl:x=⟨[t1,Vw.t7],2⟩:=by simpa using j
    rfl
  | 1,_=>
    have j:x=⟨[Vw.t7,t3],5⟩\/x=⟨[Vw.t8,t3],1⟩:=by simpa using j
    rcases j with rfl|rfl<;>rfl) GA K8
 rw[Hy,K3,N3]at h;have e:vwsP exLs (cn (cg 10 1 3).m)=exW:=by
  show PV.agg (_::Oo (cn (cnt 10)))=_;have q:Oo (cn (cnt (10:Nat)))=[.str t10,.sl UG 0 [],.sl UG 0 []]:=by
   have:=pW 10 t10 Rt;injection this
  rw[show Oo (cn (cnt 10))=Oo (cn (cnt (10:Nat)))from O,q];rfl
 rw[e]at h;exact h
theorem SE:FnP prog 4 [] (· = .bool VA):=by
 refine FnP.of func4 O ntmps4 Xn λ_ _ _ _=>?_
 have j:=JB;have q:=Lw;have r:=Dw exLs Xl t10 0 0 [] [];have s:=FA [1,1,2] Xl;have B:=at_7;have D:=at_8;have E:=Ks;have H:=Hd;have G:=Ng;exact Z1 O<|Gr O<|Rs O (aa call20 j O)<|Ar 7 O<|Gr O<|Rs O (au UG Xn EA O Xl Xl O O)<|A1 O<|Rs O (au UG Xn N1 O Xl Xl O O)<|Rs O (au UG Xn EA O Xl Xl O O)<|A1 O<|Rs O (au UG Xn EA O Xl Xl O O)<|A1 O<|Rs O (au UG Xn N1 O Xl Xl O O)<|Rs O (au UG Xn el38 O Xl Xl O O)<|A1 O<|Z3 O<|Rs O (aa call9 q O)<|Ar 6 O<|Z4 O<|Rg O (aa call22 r O)<|Rg O (au UG Xn vY O Xl Xl O O)<|Rg O (aa call21 s O)<|Y3 O<|Rg O (au UG Xn EA O Xl Xl O O)<|Rg O (aa call23 B O)<|Rg O (im underlying45 O O ⟨_,underlying41,O⟩ O O)<|Rg O (nB O O O (Uw _))<|Ar 5 O<|Rg O (nB O O O (Uw _))<|Ar 5 O<|Rg O (aa call24 E O)<|Y3 O<|Rg O (au UG Xn EA O Xl Xl O O)<|Rg O (aa call23 D O)<|Rg O (aa call12 H O)<|Rg O (aa call19 G O)<|Y2 O<|VF O O
end
section
open Go.RowKit Mk Jn Mm Vw
theorem EB(V:List ByteArray)(K:List Int)(G:∀a∈K,0<=a/\a<V.length)(L:K.length<=1000):FnP prog 14 [bh V,ar K] (· =bh (K.map λa=>V.getD a.toNat ⟨#[]⟩)):=by
 refine FnP.of func14 O ntmps14 Xn λ_ _ _ _=>?_
 refine Z1 O<|Z1 O<|Tj (Tp 5 0 1 9 O O)<|Z3 O<|Gz O (st:=λXr:Nat=>([(0,UG),(5,UF (.gsl 0 1 Xr)),(8,UG),(9,UG),(10,UF (pIi Xr))],[(0,UF (.gro 9 (bW ((K.take Xr).map λa=>V.getD a.toNat ⟨#[]⟩))))])) 1
  (I:=λXr=>Xr<=K.length) (μ:=λXr=>K.length-Xr) (x0:=0) (WA O) (aJ _) ?_
 rintro i hi;refine Z1 O<|Gp O (λq=>?_) (λq=>?_)
 .have hlt:i<K.length:=Xj;obtain⟨h1,h2⟩:=G _ (aq hlt);have D:=a6 hlt;have E:=aM hlt;obtain⟨a,ha⟩:=Bg h1;have j:a<V.length:=Xj;have r:=bL j;have s:=bN j;have H:(bW ((K.take i).map λa=>V.getD a.toNat ⟨#[]⟩)).length=i*1:=by simp;omega
  have B:bW ((K.take i).map λa=>V.getD a.toNat ⟨#[]⟩)++[.str V[a]]=bW ((K.take (i+1)).map λa=>V.getD a.toNat ⟨#[]⟩):=by
   rw[AI hlt,Uc,cu,Un,qS];simp[ha,List.getD,j]
  refine Ti<|Z1 O<|A2 O Xm ?_;exact A1 O<|Z3 O<|Rs O (ag a underlying53 sz9 O O ha j s)<|Rs O (az ⟨_,underlying9,O⟩ O r)<|Y3 O<|Z2 O<|⟨(i+1),Tl [2] (aT O) ⟨ah (λc=>UF (Ob.gro 9 c)) B,Xq⟩ O O Xl O,hlt,Xj⟩
 have hie:K.take i=K:=aH Xj;rw[hie];exact Gx O<|Tj (Tn 0 O O)<|Z2 O<|VF O<|by rw[show i=K.length by omega];show PV.sl UG K.length _=PV.sl UG _ _;rw[TB]
namespace Vw
noncomputable def termG(lf:Int->ByteArray->Gv)(B:List Int)(x:Rw):Gv:=B.foldl (λg b=>g.mul (lf b (x.v.getD b.toNat ⟨#[]⟩))) (Gv.whole x.w.toNat)
noncomputable def accG(lf:Int->ByteArray->Gv)(B K:List Int)(u:List ByteArray)(l:List Rw):Gv:=l.foldl (λc x=>if fk K x=u then c.add (termG lf B x)else c) gz
section
variable {S:Sch}{lf:Int->ByteArray->Gv}{P:List Int}
theorem Es(B:List Int)(b:Int)(x:Rw):termG lf (B++[b]) x=(termG lf B x).mul (lf b (x.v.getD b.toNat ⟨#[]⟩)):=VN
theorem JQ(B K:List Int)(u:List ByteArray)(l:List Rw)(x:Rw):accG lf B K u (l++[x])=if fk K x=u then(accG lf B K u l).add (termG lf B x)else accG lf B K u l:=VN
theorem Ph(v:Int)(x:Rw):(termG lf (bA P v) x).m=rowM P lf v x:=by
 have j:∀(B:List Int)(g:Gv),(B.foldl (λg b=>g.mul (lf b (x.v.getD b.toNat ⟨#[]⟩))) g).m=Mm.Sem.mul g.m (qH (λb=>(lf b (x.v.getD b.toNat ⟨#[]⟩)).m) B):=λB=>by
  induction B with
  |nil=>intro g;rw[qH,iO,mu];rfl
  |cons b B ih=>intro g;rw[U0,ih,qH,<-fJ];rfl
 exact j _ _
theorem SG(v:Int)(K:List Int)(u:List ByteArray)(l:List Rw):(accG lf (bA P v) K u l).m=jj (rowM P lf v) (l.filter λx=>decide (fk K x=u)):=by
 have j:∀(l:List Rw)(c:Gv),(l.foldl (λc x=>if fk K x=u then c.add (termG lf (bA P v) x)else c) c).m=Mm.Sem.add c.m (jj (rowM P lf v) (l.filter λx=>decide (fk K x=u))):=λl=>by
  induction l with
  |nil=>intro c;show _=Mm.Sem.add _ Mm.Sem.zero;rw[gb,dK];rfl
  | cons x l ih=>
    intro c;rw[U0,ih,Wp];by_cases h:fk K x=u
    .rw[By h,By (by simpa using h),jj,<-dY,<-Ph];rfl
    rw[sh h,sh (by simpa using h)]
 unfold accG;rw[j];exact dK _
def Sj(S:Sch)(x:Rw):Prop:=x.v.length=S.attrs.length/\(∀a (h:a<x.v.length),x.v[a]∈XM S a)/\x.w.toNat<=25
theorem CZ(E:Made S 5 o){x:Rw}(s:Sj S x):∀B:List Int,(∀b∈B,∃a:Nat,a<S.attrs.length/\b=(a:Int))->GvOk (QM S) (termG (lfM S) B x)/\(termG (lfM S) B x).w=x.w.toNat/\(termG (lfM S) B x).k=B.length:=by
 have q:=tz E;have r:∀(B:List Int)(g:Gv),(∀b∈B,∃a:Nat,a<S.attrs.length/\b=(a:Int))->GvOk (QM S) g->GvOk (QM S) (B.foldl (λg b=>g.mul (lfM S b (x.v.getD b.toNat ⟨#[]⟩))) g)/\(B.foldl (λg b=>g.mul (lfM S b (x.v.getD b.toNat ⟨#[]⟩))) g).w=g.w/\(B.foldl (λg b=>g.mul (lfM S b (x.v.getD b.toNat ⟨#[]⟩))) g).k=g.k+B.length:=λB=>by
  induction B with
  |nil=>intro g _ h;exact⟨h,O,O⟩
  | cons b B ih=>
    intro g hB h;obtain⟨a,ha,rfl⟩:=hB b Xn;have j:a<x.v.length:=by rw[s.1];exact ha
    have D:x.v.getD (a:Int).toNat ⟨#[]⟩∈XM S a:=by rw[show x.v.getD (a:Int).toNat ⟨#[]⟩=x.v[a] by simp[List.getD,j]];exact s.2.1 a j
    obtain⟨h1,h2,h3⟩:=ih (g.mul (lfM S a (x.v.getD (a:Int).toNat ⟨#[]⟩))) (λc hc=>hB c (by simp[hc])) (h.mul (q.g _ _ D));refine⟨h1,h2.trans ?_,h3.trans ?_⟩
    .show g.w*(lfM S a _).w=g.w;rw[q.w,TZ]
    show g.k+(lfM S a _).k+B.length=g.k+(B.length+1);rw[q.k];omega
 intro B hB;obtain⟨h1,h2,h3⟩:=r B (Gv.whole x.w.toNat) hB (GvOk.whole _ _);exact⟨h1,h2,h3.trans (T8 _)⟩
theorem Py(r:Made S 5 o){B:List Int}(hB:∀b∈B,∃a:Nat,a<S.attrs.length/\b=(a:Int))(l:List Rw)(j:∀x∈l,Sj S x):GvOk (QM S) (accG (lfM S) B K u l)/\(accG (lfM S) B K u l).w<=25*l.length/\(accG (lfM S) B K u l).k<=B.length:=by
 have q:∀(l:List Rw)(c:Gv),(∀x∈l,Sj S x)->GvOk (QM S) c->c.k<=B.length->GvOk (QM S) (l.foldl (λc x=>if fk K x=u then c.add (termG (lfM S) B x)else c) c)/\(l.foldl (λc x=>if fk K x=u then c.add (termG (lfM S) B x)else c) c).w<=c.w+25*l.length/\(l.foldl (λc x=>if fk K x=u then c.add (termG (lfM S) B x)else c) c).k<=B.length:=λl=>by
  induction l with
  |nil=>intro c _ h hk;exact⟨h,Vf _ _,hk⟩
  | cons x l ih=>
    intro c j h hk;obtain⟨t1,t2,t3⟩:=CZ r (j x Xn) B hB;have s:=(j x Xn).2.2;rw[U0];by_cases e:fk K x=u
    .rw[By e];obtain⟨h1,h2,h3⟩:=ih (c.add (termG (lfM S) B x)) (λy hy=>j y (by simp[hy])) (h.add t1) (Nat.max_le.2 ⟨hk,Xj⟩);refine⟨h1,AS h2 ?_,h3⟩;show c.w+(termG (lfM S) B x).w+25*l.length<=c.w+25*(l.length+1);omega
    rw[sh e];obtain⟨h1,h2,h3⟩:=ih c (λy hy=>j y (by simp[hy])) h hk;exact⟨h1,AS h2 (by rw[IT];omega),h3⟩
 obtain⟨h1,h2,h3⟩:=q l gz j (NJ _) (aJ _);exact⟨h1,AS h2 (by have:gz.w=0:=rfl;omega),h3⟩
end
end Vw
theorem Pb:FnP prog 12 [] (· =lR (cn gz.m)):=by
 have e:lR (cn gz.m)=kf t0:=by rw[tW];show PV.agg [.str (bo ((0:Int):Rat)),_,_]=_;rw[mG];rfl
 rw[e];exact Hd
theorem Po(n:Nat)(h:n<=25):FnP prog 15 [.int .i64 n] (· = .str (bo ((n:Int):Rat))):=by
 have:=zO (n:Int) Xj Xj;rwa [show(⟨(Lib.itoa (n:Int)).toArray⟩:ByteArray)=bo ((n:Int):Rat)from(By (show(((n:Nat):Int):Rat).den=1 from O)).symm]at this
theorem Kx(D:l.Pairwise (· < ·))(E:∀a∈l,0<=a/\a<n)(q:l.length=n\/∀a<n,(a:Int)∈l):l=upZ n:=by
 have s:l.Nodup:=D.imp λh e=>by omega
 have B:∀a∈l,a∈upZ n:=λa ha=>by
  obtain⟨k,rfl⟩:=Bg (E a ha).1;exact bp.2 ⟨k,by have:=(E _ ha).2;omega,O⟩
 have j:∀a∈upZ n,a∈l:=by
  rcases q with q|q
  .intro a ha;refine Ui λr=>?_
   have:=Vw.mZ (Q:=(upZ n).erase a) s λb hb=>(List.mem_erase_of_ne (λe=>r (by rw[<-e];exact hb))).2 (B b hb)
   rw[List.length_erase_of_mem ha,a7]at this;have:=List.length_pos_of_mem ha;rw[a7]at this;omega
  .intro a ha;obtain⟨k,hk,rfl⟩:=bp.1 ha;exact q k hk
 exact List.Perm.eq_of_pairwise (le:=λa b:Int=>a<b) (λa b _ _ h g=>by omega) D (Iq n) (dT s (cq n) λa=>⟨B a,j a⟩)
abbrev oneR(S:Sch)(R:List (ByteArray×List Int)):Sch:=⟨S.attrs,R,S.feats,S.label⟩
def OneM(S:Sch)(R:List (ByteArray×List Int)):Prop:=R.length<=3/\(R.length<=1->(∃o,Made (oneR S R) 5 o)/\R.length=1/\lj (oneR S R) 0=upZ S.attrs.length)
theorem Jp(q:Made S 4)(D:i<S.rels.length)(h:S.rels[i].2.length=S.attrs.length\/∀a<S.attrs.length,(a:Int)∈S.rels[i].2):OneM S [S.rels[i]]:=by
 obtain⟨r1,r2,r3,r4⟩:=q.rs i D;have r:=Kx r3 r4 h;have s:=q.a2;have B:=q.r2;refine⟨Xn,λ_=>⟨⟨i,q.a1,by show S.attrs.length<=5;omega,Xn,by show 1+i<=3;omega,q.at',λj hj=>?_,λa ha=>⟨_,TF.2 O,?_⟩,q.fs⟩,O,r⟩⟩
 .obtain rfl:j=0:=by simp at hj;exact hj
  exact⟨by rw[T8];exact r1,r2,r3,r4⟩
 rw[r];exact bp.2 ⟨a,ha,O⟩
theorem Qu(j:Made S 4):OneM S S.rels:=by
 have q:=j.r2;have r:=j.r1;refine⟨Xj,λh=>?_⟩;have s:S.rels.length=1:=Xj;have e:S.rels=[S.rels[0]]:=UL (by simpa using s) λi h1 h2=>by
  obtain rfl:i=0:=Xj;rfl
 have:=(Jp j (i:=0) Xj (.inr λa ha=>by
  obtain⟨x,hx,hax⟩:=j.cv a ha;rw[e]at hx;rwa [TF.1 hx]at hax)).2 Xn
 rw[<-e]at this;exact this
theorem L0(j:S.rels.length=1)(q:lj S 0=A)(s:A.Nodup)(l:List Rw):pK S A l=l:=by
 have e:S.rels.flatMap (·.2)=A:=by
  cases h:S.rels with
  |nil=>rw[h]at j;cases j
  | cons r t=>
    rw[h]at j;cases t with
    |nil=>simp[<-q,lj,h]
    |cons _ _=>simp at j
 unfold pK;rw[e,List.filter_eq_self];intro x _;unfold cG;rw[OF];intro p hp;have:=(List.of_mem_zip hp).1;rw[Ub];right
 rw[s.count,By this];rfl
end
section
open Go.RowKit Mk Jn Mm Vw
theorem KA{g h:Gv}(q:(QM S).length<=1000)(L:GS S g)(M:GS S h)(V:GS S (g.add h)):FnP prog 18 [lR (cn g.m),lR (cn h.m)] (· = .tup [lR (cn (g.add h).m),.int .i64 0]):=by
 refine FnP.ofC func18 O ntmps18 Xn λ_ _ _ _=>?_
 have B:=ka _ (L.v10 q);have D:=ka _ (M.v10 q);have E:=L.read q;have G:=M.read q;have H:=mj 1 Xl Xl;have U:=GQ L M;have I:=fun{c s p}=>V.give q (c:=c) (s:=s) (p:=p)
 generalize hx:cn (g.add h).m=m3 at*;generalize cn g.m=m1 at*;generalize cn h.m=m2 at*;refine Z4 O<|Z1 O<|Rs O (aa call53 B O)<|Y3 O<|Rg O (aa call53 D O)<|Y2 O<|Gc O (λj=>absurd j Xl) (λj=>?_);refine Ti<|UB 11 O<|D1 O<|TR O (λτ h=>aF [] 3 call54 E (h.args.trans O) O O O trivial Xl (by show(τ.av 3&&(τ.av 4&&VA))=VA;rw[h.n 0 _ O,h.n 1 _ O];rfl)) ?_;refine D1 O<|TR O (λτ h=>aF [] 5 call54 G (h.args.trans O) O O O trivial Xl (by show(τ.av 5&&(τ.av 6&&VA))=VA;rw[h.n 0 _ O,h.n 1 _ O];rfl)) ?_;refine TR O (λτ h=>aa call57 H (h.aD O))<|DL.rel (RO [3,4,5,6] 7 0 (λr ob'=>∃c s p,FulR (g.add h).m c s p/\r= .agg (bR c big 9001)/\ob'=aB [(big,.mp (aj aW s) (ay s)),(9001,.mp (aj ppP p) (ay p))])) [3,4,5,6] [] [3,4,5,6] O O O (λτ h=>relO [3,4,5,6] 7 call56 U (h.args.trans Xk) O O O ⟨(h.o 0 _ O).trans Xk,(h.o 1 _ O).trans Xk,(h.o 2 _ O).trans Xk,(h.o 3 _ O).trans Xk,Xq⟩ Xl O) O Xk Xk Xk ?_;rintro _ ⟨_,_,⟨c3,s3,p3,hF,rfl,rfl⟩,rfl⟩ _ _;refine VE [3,4] O (λτ h=>aF [3,4] 7 call52 (I hF) (h.args.trans Xk) O O O ⟨((h.o 0 _ O).trans (TX (b:=UF (.mp (aj aW s3) (ay s3))) Xk Xk)),((h.o 1 _ O).trans (TX (b:=UF (.mp (aj ppP p3) (ay p3))) Xk Xk)),Xq⟩ Xl O)<|Dr 4 O ?_;refine⟨Xk,?_⟩;exact VF O ⟨⟨ax ⟨_,underlying45,O⟩ ER O O O,Xq⟩,O⟩
end
end Go.Proofs.YtkkenamefaegfaaGreatDoor
