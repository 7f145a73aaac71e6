/-
  Texts of ours, joined and shortened by merge2.py: JH, JI, JJ, JA, JB, JC, E32, E33, K0, Pm, K1B, K2B, K3B, KS, KT, K4B. No statement of the program is proved here.
-/
import Derived.Test.YtjlikknopfnllaaGreatDoorJ66
set_option maxRecDepth 100000
set_option maxHeartbeats 4000000
open Go.RowKit Go.Proofs.Tryz
namespace Go.Proofs.YtjlikknopfnllaaGreatDoor
section
open Go.RowKit Mk Jn
set_option maxHeartbeats 4000000
def MdV (S:Sch) (A:List Int) (v:List ByteArray):Prop:=v.length=A.length∧∀ i (h:i<v.length) (h2:i<A.length),v[i]∈gX (S.attrs.getD A[i].toNat default).2
def MdR (S:Sch) (A:List Int) (x:Rw):Prop:=(1≤x.w∧x.w≤5)∧MdV S A x.v
def MdT (S:Sch) (A:List Int) (most:Nat) (l:List Rw):Prop:=∃ l0,l=lH l0∧l0.length≤most∧∀ x∈l0,MdR S A x
theorem Gb (v:List ByteArray) (x:ByteArray):aA v++[PV.str x]=aA (v++[x]):=by simp
theorem MdV.snoc {S:Sch} {A:List Int} {v:List ByteArray} {j:Nat} (hj:j<A.length) (h:v.length=j∧∀ i (h:i<v.length) (h2:i<A.length),v[i]∈gX (S.attrs.getD A[i].toNat default).2) {x:ByteArray} (hx:x∈gX (S.attrs.getD A[j].toNat default).2):
  (v++[x]).length=j+1∧∀ i (h:i<(v++[x]).length) (h2:i<A.length),(v++[x])[i]∈gX (S.attrs.getD A[i].toNat default).2:=by
 obtain ⟨rfl,hv⟩:=h
 refine ⟨by simp,fun i h h2=>?_⟩
 rcases Nat.lt_or_ge i v.length with h3 | h3
 ·rw [List.getElem_append_left h3];exact hv i h3 h2
 ·have e:i=v.length:=by simp at h;omega
  subst e
  rw [List.getElem_append_right (Nat.le_refl _)]
  simpa using hx
theorem bW {α:Type} (l:List α) (a:α):l.length+1=(l++[a]).length:=by simp
theorem pV (L:List Int) (k:Nat) (hL:L.length≤600) (hk:k≤L.length) (S:Sch) (r most:Nat) (hm:most≤100) (hr:r<S.rels.length) (hA:S.rels[r].2.length≤1000) (hb:∀ a∈S.rels[r].2,0≤a∧a<S.attrs.length):
  FnM Tryz.prog 15 85 (jB L k) [gK S,.int .i64 r,.int .i64 most] (fun v c=>(∃ l,MdT S S.rels[r].2 most l∧v=bL l)∧∃ k',k'≤L.length∧c=jB L k'):=by
 refine FnM.of func15 rfl ntmps15 (by simp) rfl (by simp) fun m0 w0 F R0=>?_
 have hkk:∀ k,k≤L.length→sNk L k≤L.length:=fun k hk=>by unfold sNk;split<;>omega
 have hk1:=hkk _ hk
 have hn1:=zP L k ((most:Int)+1) hL hk (by omega) (by omega)
 have hb1:=uV L k ((most:Int)+1) (by omega)
 generalize sNv L k ((most:Int)+1)=nb at*
 have hrne:=ew hr
 have hra:(bj S.rels)[r*2+1]? =some (ak S.rels[r].2):=by
  have h2:(((bj S.rels).drop (r*2)).take 2)[1]? =[PV.str S.rels[r].1,ak S.rels[r].2][1]? :=by rw [cW hr]
  simpa [List.getElem?_take,List.getElem?_drop] using h2
 generalize S.rels[r].2=A at*
 refine Z2 rfl rfl rfl ?_
 refine Z1 rfl rfl ?_
 refine Im (Iu 9 1 2 49 rfl rfl) ?_
 refine Z3 rfl rfl rfl rfl ?_
 refine Rs 17 rfl rfl (iu call18 hn1 rfl rfl) ?_
 refine A1 rfl ?_
 refine Gl rfl (st:=fun x_0:Int×Nat×List Rw=>mkS [(0,.ptr big 0),(2,.pv (.int .i64 r)),(5,.ptr 0 0),(9,.gsl 1 2 x_0.2.2.length),(10,.pv (.int .i64 x_0.1))] [(big,HD L x_0.2.1),(0,.mix 34 [.pv (.sl none S.attrs.length (cc S.attrs)),.pv (.sl none S.rels.length (bj S.rels)),.pv (.sl none S.feats.length (bm S.feats)),.pv (.int .i64 S.label)]),(1,.gro 49 (aB x_0.2.2))] 2)
  (I:=fun x_0=>(((0≤x_0.1∧x_0.1≤most)∧(x_0.2.2.length:Int)+x_0.1≤most)∧x_0.2.1≤L.length)∧∀ x∈x_0.2.2,MdR S A x) (μ:=fun x_0=>x_0.1.toNat) (x0:=(nb,sNk L k,[])) (Io (aS rfl) (aO rfl) rfl rfl) (⟨⟨⟨⟨by simp only;omega,by simp only;omega⟩,by simp only [List.length_nil];omega⟩,hk1⟩,fun _ h=>absurd h (by simp)⟩) ?_
 rintro ⟨i,k2,l⟩ ⟨⟨⟨hi,hli⟩,hk2⟩,hl⟩
 try simp only at hi hli hk2 hl ⊢
 refine Z2 rfl rfl rfl ?_
 refine Gp rfl rfl (fun hc19=>?_) (fun hc19=>?_)
 ·obtain ⟨pk,hpk1,hpk⟩:=wm L k2 [1,1,2,5] hL hk2 (by simp) (by simp)
  have hpk2:1≤pk∧pk≤5:=by simp at hpk1;omega
  have hk3:=hkk _ hk2
  have hll:=aK l
  refine Il ?_
  refine Z1 rfl rfl ?_
  refine Rs 23 rfl rfl (aq none (by simp) xj rfl (by decide) (by decide) rfl rfl) ?_
  refine Rs 24 rfl rfl (iu call58 hpk rfl rfl) ?_
  refine Y3 rfl rfl rfl ?_
  refine Im (St.er (T':=49) (cs:=[.pv nS,.pv (.int .i64 pk)]) 2 0 3 1 9 (by kernel_rfl) rfl (by kernel_rfl)) ?_
  refine Z3 rfl rfl rfl rfl ?_
  refine Rs 29 rfl rfl (ag r underlying31 Eu rfl rfl rfl hr hrne) ?_
  refine A1 rfl ?_
  refine Rs 31 rfl rfl (ai ⟨_,underlying22,rfl⟩ rfl hra) ?_
  refine Y2 rfl rfl ?_
  refine Gl rfl (st:=fun x_1:Nat×Nat×List ByteArray=>mkS [(0,.ptr big 0),(2,.pv (.int .i64 r)),(5,.ptr 0 0),(9,.gsl 1 2 l.length),(10,.pv (.int .i64 i)),(11,.ptr 2 0),(31,.pv (ak A)),(32,.pv (.int .i64 A.length)),(33,.pv (.int .i64 x_1.1))] [(big,HD L x_1.2.1),(0,.mix 34 [.pv (.sl none S.attrs.length (cc S.attrs)),.pv (.sl none S.rels.length (bj S.rels)),.pv (.sl none S.feats.length (bm S.feats)),.pv (.int .i64 S.label)]),(1,.gro 49 (aB l)),(2,.mix 49 [.gsl 3 1 x_1.2.2.length,.pv (.int .i64 pk)]),(3,.gro 9 (aA x_1.2.2))] 4)
   (I:=fun x_1=>(x_1.1≤A.length∧x_1.2.1≤L.length)∧(x_1.2.2.length=x_1.1∧∀ i (h:i<x_1.2.2.length) (h2:i<A.length),x_1.2.2[i]∈gX (S.attrs.getD A[i].toNat default).2)) (μ:=fun x_1=>A.length-x_1.1) (x0:=(0,sNk L k2,[])) (Io (aS rfl) (aO rfl) rfl rfl) (⟨⟨Nat.zero_le _,hk3⟩,rfl,fun i h=>absurd h (by simp)⟩) ?_
  rintro ⟨j,k3,v⟩ ⟨⟨hj,hk4⟩,hmd⟩
  try simp only at hj hk4 hmd ⊢
  refine Z1 rfl rfl ?_
  refine Gp rfl rfl (fun hc34=>?_) (fun hc34=>?_)
  ·have hlj:j<A.length:=by omega
   obtain ⟨a,haa⟩:=Int.eq_ofNat_of_zero_le (hb _ (List.getElem_mem hlj)).1
   have hal:a<S.attrs.length:=by have:=(hb _ (List.getElem_mem hlj)).2;omega
   have hpv:(aE A)[j*1]? =some (.int .i64 (a:Int)):=by rw [← haa];simp [hlj]
   have hpn:=aH hlj
   have har:=od hal
   have han:=lq hal
   obtain ⟨x,hxm,hxs⟩:=rZ L k3 hL hk4 S.attrs[a].1 S.attrs[a].2
   have hmd2:=MdV.snoc hlj hmd (x:=x) (by rw [haa,Int.toNat_natCast];simpa [List.getD,hal] using hxm)
   have hk5:=hkk _ hk4
   have hvl:=hmd.1
   refine Il ?_
   refine Gr rfl ?_
   refine Rs 35 rfl rfl (ag j underlying22 sz3 rfl rfl rfl hlj hpn) ?_
   refine Rs 36 rfl rfl (ai ⟨_,underlying3,rfl⟩ rfl hpv) ?_
   refine A1 rfl ?_
   refine Ge rfl follows [0,1,2,3,4,5,6,7,8,9,10,11,12] (by kernel_rfl) ?_
   iterate 6 refine D1 rfl rfl ?_
   refine Ds 43 [] rfl rfl rfl (fun τ h=>ag a underlying28 G1 (Ee h 0 rfl rfl) (Ee h 1 rfl rfl) rfl hal han) rfl (by kernel_rfl) ?_
   refine Ds 44 [] rfl rfl rfl (fun τ h=>db ⟨_,underlying27,rfl⟩ G1 (Ee h 0 rfl rfl) har rfl) rfl (by kernel_rfl) ?_
   refine Ds 45 [_] rfl rfl rfl (fun τ h=>iu call59 hxs (h.args.trans rfl) (Eo h 0 rfl rfl)) rfl (by kernel_rfl) ?_
   iterate 4 refine D1 rfl rfl ?_
   refine ⟨by kernel_rfl,?_⟩
   refine Z2 rfl rfl rfl ?_
   exact ⟨(j+1,sNk L k3,v++[x]),Ip [0,1,2,5] (aT rfl) ⟨rfl,rfl,rfl,Eq.trans (b:=some (.mix 49 [.gsl 5 1 (v.length+1),.pv (.int .i64 pk)])) (by kernel_rfl) (congrArg (fun n=>some (Ob.mix 49 [.gsl 5 1 n,.pv (.int .i64 pk)])) (bW v x)),Eq.trans (b:=some (.gro 9 (aA v++[.str x]))) (by kernel_rfl) (congrArg (fun c=>some (Ob.gro 9 c)) (Gb v x)),trivial⟩ rfl rfl (by decide) rfl,⟨⟨by omega,hk5⟩,hmd2⟩,by simp only;omega⟩
  ·refine Im (Ir 3 rfl rfl) ?_
   have hmr:MdR S A ⟨v,pk⟩:=⟨hpk2,(by have:=hmd.1;omega:v.length=A.length),hmd.2⟩
   refine Gx rfl ?_
   refine Gr rfl ?_
   iterate 5 refine A1 rfl ?_
   refine Z3 rfl rfl rfl rfl ?_
   exact ⟨(i-1,k3,l++[⟨v,pk⟩]),Ip [0,5] ⟨rfl,rfl,rfl,congrArg (fun n=>V.gsl 5 2 n) (bW l ⟨v,pk⟩),rfl,trivial⟩ ⟨rfl,rfl,Eq.trans (b:=some (.gro 49 (aB l++eV ⟨v,pk⟩))) (by kernel_rfl) (congrArg (fun c=>some (Ob.gro 49 c)) (dW l ⟨v,pk⟩)),trivial⟩ rfl rfl (by decide) rfl,⟨⟨⟨by simp only;omega,by simp only [List.length_append,List.length_singleton];omega⟩,hk4⟩,fun y hy=>by rcases List.mem_append.1 hy with h | h;exact hl y h;rw [List.mem_singleton.1 h];exact hmr⟩,by simp only;omega⟩
 ·refine Im (Ir 1 rfl rfl) ?_
  have hso:=wM l (by omega) (fun x hx=>by have:=(hl x hx).2.1;omega) (fun x hx=>by have:=(hl x hx).1;omega)
  refine Gx rfl ?_
  refine Z1 rfl rfl ?_
  refine Rs 55 rfl rfl (ae call31 hso rfl) ?_
  refine A1 rfl ?_
  refine Gt rfl ?_
  exact ⟨_,jB L k2,rfl,rfl,⟨lH l,⟨l,rfl,by omega,hl⟩,rfl⟩,k2,hk2,rfl⟩
def dv (d:List (List Rw)):List PV:=d.map bL
abbrev dbP (d:List (List Rw)):PV:= .sl none d.length (dv d)
theorem jE (d:List (List Rw)) (l:List Rw):dv d++[bL l]=dv (d++[l]):=by simp [dv]
theorem dH (d:List (List Rw)):(dv d).length=d.length*1:=by simp [dv]
def MdD (S:Sch) (most n:Nat) (d:List (List Rw)):Prop:=d.length=n∧∀ i (h:i<d.length) (h2:i<S.rels.length),MdT S S.rels[i].2 most d[i]
theorem MdD.snoc {S:Sch} {most n:Nat} {d:List (List Rw)} (h:MdD S most n d) (hn:n<S.rels.length) {l:List Rw} (hl:MdT S S.rels[n].2 most l):MdD S most (n+1) (d++[l]):=by
 obtain ⟨rfl,hd⟩:=h
 refine ⟨by simp,fun i h h2=>?_⟩
 rcases Nat.lt_or_ge i d.length with h3 | h3
 ·rw [List.getElem_append_left h3];exact hd i h3 h2
 ·have e:i=d.length:=by simp at h;omega
  subst e
  rw [List.getElem_append_right (Nat.le_refl _)]
  simpa using hl
theorem nB (L:List Int) (k:Nat) (hL:L.length≤600) (hk:k≤L.length) (S:Sch) (most:Nat) (hm:most≤100) (hS:S.rels.length≤1000) (hA:∀ r∈S.rels,r.2.length≤1000∧∀ a∈r.2,0≤a∧a<S.attrs.length):
  FnM Tryz.prog 11 85 (jB L k) [gK S,.int .i64 most] (fun v c=>(∃ d,MdD S most S.rels.length d∧v=dbP d)∧∃ k',k'≤L.length∧c=jB L k'):=by
 refine FnM.of func11 rfl ntmps11 (by simp) rfl (by simp) fun m0 w0 F R0=>?_
 refine Z2 rfl rfl rfl ?_
 refine Z1 rfl rfl ?_
 refine Im (Iu 7 1 1 38 rfl rfl) ?_
 refine Z4 rfl rfl rfl rfl rfl ?_
 refine Gl rfl (st:=fun x_0:Nat×Nat×List (List Rw)=>mkS [(0,.ptr big 0),(2,.pv (.int .i64 most)),(4,.ptr 0 0),(7,.gsl 1 1 x_0.2.2.length),(11,.pv (.int .i64 S.rels.length)),(12,.pv (.int .i64 x_0.1))] [(big,HD L x_0.2.1),(0,.mix 34 [.pv (.sl none S.attrs.length (cc S.attrs)),.pv (.sl none S.rels.length (bj S.rels)),.pv (.sl none S.feats.length (bm S.feats)),.pv (.int .i64 S.label)]),(1,.gro 38 (dv x_0.2.2))] 2)
  (I:=fun x_0=>(x_0.1≤S.rels.length∧x_0.2.1≤L.length)∧MdD S most x_0.1 x_0.2.2) (μ:=fun x_0=>S.rels.length-x_0.1) (x0:=(0,k,[])) (Io (aS rfl) (aO rfl) rfl rfl) (⟨⟨Nat.zero_le _,hk⟩,rfl,fun i h=>absurd h (by simp)⟩) ?_
 rintro ⟨i,k2,d⟩ ⟨⟨hi,hk2⟩,hd⟩
 try simp only at hi hk2 hd ⊢
 refine Z1 rfl rfl ?_
 refine Gp rfl rfl (fun hc13=>?_) (fun hc13=>?_)
 ·have hlt:i<S.rels.length:=by omega
  have hrA:=hA _ (List.getElem_mem hlt)
  have hdl:=hd.1
  have htl:=dH d
  refine Il ?_
  refine Z2 rfl rfl rfl ?_
  refine Gr rfl ?_
  iterate 5 refine A1 rfl ?_
  refine RL.call rfl (jW call15 (pV L k2 hL hk2 S i most hm hlt hrA.1 hrA.2) rfl rfl ?_)
  rintro _ _ ⟨⟨l,hml,rfl⟩,k3,hk3,rfl⟩
  have hsn:=hd.snoc hlt hml
  refine Y3 rfl rfl rfl ?_
  refine Z2 rfl rfl rfl ?_
  exact ⟨(i+1,k3,d++[l]),Ip [0,3] ⟨rfl,rfl,rfl,congrArg (fun n=>V.gsl 3 1 n) (bW d l),rfl,rfl,trivial⟩ ⟨rfl,rfl,Eq.trans (b:=some (.gro 38 (dv d++[bL l]))) (by kernel_rfl) (congrArg (fun c=>some (Ob.gro 38 c)) (jE d l)),trivial⟩ rfl rfl (by decide) rfl,⟨⟨by omega,hk3⟩,hsn⟩,by simp only;omega⟩
 ·refine Im (Ir 1 rfl rfl) ?_
  have hin:i=S.rels.length:=by omega
  subst hin
  refine Gx rfl ?_
  refine Z2 rfl rfl rfl ?_
  refine Gt rfl ?_
  exact ⟨_,jB L k2,rfl,rfl,⟨d,hd,rfl⟩,k2,hk2,rfl⟩
end
section
open Go.RowKit Mk Jn
set_option maxHeartbeats 4000000
section
variable {C:Ctx} {n:Nat} {σ:St} {dst:Option Tmp} {ty t t':TypeId} {pos:String} {after:Array Edge} {gd:Option (Nat×Bool)} {x:Operand}
theorem l9 {e:TypeId} {k:Nat} {cs:List PV} {K:St→Prop} (hu:C.P.underlying t=some (.slice e)) (hx:σ.ev n x= .pv (.sl none k cs)) (hk:∀ b:Bool,(b=true→cs=[])→K (σ.app dst ⟨.pv (.bool b),[],[]⟩)):
  OJ C n ⟨dst,.binOp .eql t x (.const (.slice none 0 0)) t',ty,pos,after,gd⟩ K σ:=by
 rintro a w Q ⟨m,R,hw⟩
 have:=hw.pv hx
 simp only [RelP] at this
 obtain ⟨A,c,e1,_,_,_,_,h5⟩:=this
 have hc:a.eval (.const (.slice none 0 0))= .slice none 0 0:=rfl
 have hb:A.isNone=true→cs=[]:=fun h=>by
  cases cs with
  | nil=>rfl
  | cons c cs=>
    obtain ⟨b,off,us,rfl,_⟩:=h5 (by simp)
    cases h
 have hrun:(execOp a.eval ⟨dst,.binOp .eql t x (.const (.slice none 0 0)) t',ty,pos,after,gd⟩).run C.P w= .ok (.value (.bool A.isNone)) w:=by
  simp [execOp,e1,eqGuard,binOp,hc,run_equal_slice_nil _ _ _ _ _ _ hu]
 unfold Oper.wp
 rw [hrun]
 exact ⟨_,hk A.isNone hb,m,R,St.dX σ dst _▸hw.put dst (by simp only [Rel,RelP])⟩
theorem ek {T e:TypeId} {z:Value} {size bytes:Nat} (id:Nat) (he:ElemIs C.P T e z size bytes) (hid:σ.av id=true):
  XJ C n ⟨dst,.buildSlice T 0 #[],ty,pos,after,gd⟩ σ ⟨.osl id size 0,[(id,some (.cells e []))],[id]⟩:=by
 rintro a w Q ⟨m,R,hw⟩
 obtain ⟨i,hi,hz,hsize,hbytes⟩:=info_parts he.info
 have hrun:(execOp a.eval ⟨dst,.buildSlice T 0 #[],ty,pos,after,gd⟩).run C.P w= .ok (.value (.slice (some ⟨w.heap.size,0,none⟩) 0 0)) (w.alloc (.cells #[] e)):=by
  have hb:(Instr.buildSlice T 0 #[]).run C.P w= .ok (.slice (some ⟨w.heap.size,0,none⟩) 0 0) (w.alloc (.cells #[] e)):=by
   simp [Instr.buildSlice,run_underlying he.u,sizeOf,typeInfo,hi,Instr.fill,newRow]
   congr 2
   exact Array.eq_empty_of_size_eq_zero (by simp)
  have hm:(#[]:Array (Nat×Operand)).map (fun x=>(x.1,a.eval x.2))= #[]:=by simp
  simp only [execOp,hm,Sem.run_bind,hb,Result.andThen_ok,Sem.run_pure]
 unfold Oper.wp
 rw [hrun]
 refine ⟨_,rfl,upd m id (some (w.heap.size,0)),R,?_⟩
 rw [Iw]
 refine SW.put (hw.alloc hid #[] e (.cells e []) ?_) dst ?_
 ·intro w' m' av' hR hm ha hb
  exact ⟨_,hb,rfl,Nat.le_refl _,RelPL.nil⟩
 ·simp only [Rel]
  refine ⟨by simp [avL],fun b N h=>?_⟩
  rw [au] at h
  cases h
  exact ⟨0,rfl,Nat.le_refl _,by simp [maxLen],by simp⟩
end
theorem fX (l:List ByteArray) (hl:l.length≤1000000):FnP Tryz.prog 99 [aI l] (· =aI l):=by
 refine FnP.fg2 (FnP.of func99 rfl ntmps99 (by simp) fun m0 w0 F R0=>?_)
 refine Z1 rfl rfl ?_
 refine Z1 rfl rfl ?_
 refine RL.call rfl (l9 underlying47 rfl ?_)
 intro b hb
 refine Gc rfl rfl (fun hc4=>?_) (fun hc4=>?_)
 ·have hl0:l=[]:=List.map_eq_nil_iff.1 (hb hc4)
  refine Z1 rfl rfl ?_
  refine Gt rfl ?_
  exact ⟨_,_,rfl,rfl,by rw [hl0];rfl⟩
 ·refine Il ?_
  refine Gr rfl ?_
  refine Rs 5 rfl rfl (ek 0 uq rfl) ?_
  refine A1 rfl ?_
  refine Rs 7 rfl rfl (fc 1 uq rfl rfl rfl (.inl ⟨none,rfl⟩) (by simp) (fun c hc=>by obtain ⟨y,_,rfl⟩:=List.mem_map.1 hc;rfl) (by omega) rfl) ?_
  refine A1 rfl ?_
  refine Im (Ir 1 rfl rfl) ?_
  refine Gt rfl ?_
  exact ⟨_,_,rfl,rfl,show PV.sl none (0+l.length) ([]++aA l)=_ by rw [Nat.zero_add,List.nil_append]⟩
def eB (ls:List Int) (n:Nat):List Int:=(List.range n).map fun a:Nat=>((ls.count (a:Int):Nat):Int)
theorem p9 (ls:List Int) (n:Nat):(eB ls n).length=n:=by simp [eB]
theorem u6 {ls:List Int} {n a:Nat} (h:a<n):(aE (eB ls n))[a*1]? =some (.int .i64 ((ls.count (a:Int):Nat):Int)):=by simp [eB,h]
theorem xC {ls:List Int} {n a:Nat} (h:a<n):(aE (eB ls n)).set (a*1) (.int .i64 (((ls.count (a:Int):Nat):Int)+1))=aE (eB (ls++[(a:Int)]) n):=by
 apply List.ext_getElem
 ·simp [eB]
 ·intro i h1 h2
  simp only [eB,List.getElem_set,List.getElem_map,List.getElem_range,List.count_append,Nat.mul_one]
  by_cases e:a=i
  ·subst e
   rw [if_pos rfl]
   simp
  ·rw [if_neg e]
   have:List.count (i:Int) [(a:Int)]=0:=by rw [List.count_eq_zero];simp;omega
   rw [this,Nat.add_zero]
theorem vU (n:Nat):List.replicate n (PV.int .i64 0)=aE (eB [] n):=by
 apply List.ext_getElem
 ·simp [eB]
 ·intro i h1 h2
  simp [eB]
def bq (ls:List Int) (A:List Int) (x:Rw):Bool:=(A.zip x.v).all fun p=> !(p.2.toList==(⟨#[]⟩:ByteArray).toList)||((ls.count p.1:Nat):Int)==1
def gF (S:Sch) (A:List Int) (l:List Rw):List Rw:=l.filter (bq (S.rels.flatMap (·.2)) A)
end
section
open Go.RowKit Mk Jn
set_option maxHeartbeats 4000000
structure SJn (S:Sch):Prop where
 a:S.attrs.length≤1000
 r:S.rels.length≤1000
 l:∀ r∈S.rels,r.2.length≤1000
 b:∀ r∈S.rels,∀ a∈r.2,0≤a∧a<S.attrs.length
theorem xL {l:List (ByteArray×List Int)} {k:Nat} (h:k<l.length):(l.take (k+1)).flatMap (·.2)=(l.take k).flatMap (·.2)++l[k].2:=by
 rw [List.take_succ_eq_append_getElem h,List.flatMap_append];simp
theorem eM {A:List Int} {v:List ByteArray} (hl:v.length=A.length) {j:Nat} (hj:j<A.length) (f:Int×ByteArray→Bool):((A.zip v).take (j+1)).all f=(((A.zip v).take j).all f&&f (A[j],v[j]'(by omega))):=by
 have h:j<(A.zip v).length:=by simp;omega
 rw [List.take_succ_eq_append_getElem h,List.all_append]
 simp
theorem yO {l:List (ByteArray×List Int)} (h:∀ r∈l,r.2.length≤1000):(l.flatMap (·.2)).length≤l.length*1000:=by
 induction l with
 | nil=>simp
 | cons a l ih=>
   have h1:=h a (by simp)
   have h2:=ih fun r hr=>h r (by simp [hr])
   rw [List.flatMap_cons,List.length_append,List.length_cons]
   omega
theorem zS (S:Sch) (hS:SJn S) (r:Nat) (hr:r<S.rels.length) (l:List Rw) (hl:l.length≤1000) (hv:∀ x∈l,x.v.length=S.rels[r].2.length):
  FnP Tryz.prog 73 [gK S,.int .i64 r,bL l] (· =bL (gF S S.rels[r].2 l)):=by
 refine FnP.of func73 rfl ntmps73 (by simp) fun m0 w0 F R0=>?_
 have hll:=aK l
 have hSa:=hS.a
 have hSr:=hS.r
 have hrne:=ew hr
 have hra:(bj S.rels)[r*2+1]? =some (ak S.rels[r].2):=by
  have h2:(((bj S.rels).drop (r*2)).take 2)[1]? =[PV.str S.rels[r].1,ak S.rels[r].2][1]? :=by rw [cW hr]
  simpa [List.getElem?_take,List.getElem?_drop] using h2
 have hrl:=hS.l _ (List.getElem_mem hr)
 have hrb:=hS.b _ (List.getElem_mem hr)
 unfold gF
 generalize S.rels[r].2=A at*
 refine Z2 rfl rfl rfl ?_
 refine Gr rfl ?_
 iterate 5 refine A1 rfl ?_
 refine Z4 rfl rfl rfl rfl rfl ?_
 refine Gl rfl (st:=fun x_0:Nat=>mkS [(1,.pv (.int .i64 r)),(2,.pv (bL l)),(3,.ptr 0 0),(7,.osl 1 1 S.attrs.length),(23,.pv (.sl none S.rels.length (bj S.rels))),(24,.pv (.int .i64 S.rels.length)),(25,.pv (.int .i64 x_0))] [(0,.mix 34 [.pv (.sl none S.attrs.length (cc S.attrs)),.pv (.sl none S.rels.length (bj S.rels)),.pv (.sl none S.feats.length (bm S.feats)),.pv (.int .i64 S.label)]),(1,.cells 3 (aE (eB ((S.rels.take x_0).flatMap (·.2)) S.attrs.length)))] 2)
  (I:=fun x_0=>x_0≤S.rels.length) (μ:=fun x_0=>S.rels.length-x_0) (x0:=(0)) (Io (aS rfl) ⟨rfl,congrArg (fun c=>some (Ob.cells 3 c)) ((ct (.int .i64 0) (S.attrs.length*1)).trans (by rw [Nat.mul_one,vU];rfl)),trivial⟩ rfl rfl) (Nat.zero_le _) ?_
 rintro k hk
 refine Z1 rfl rfl ?_
 refine Gp rfl rfl (fun hc26=>?_) (fun hc26=>?_)
 ·have hlt:k<S.rels.length:=by omega
  have hrow:=cW hlt
  have hne:=ew hlt
  have hkl:=hS.l _ (List.getElem_mem hlt)
  have hkb:=hS.b _ (List.getElem_mem hlt)
  have hfs:=xL hlt
  generalize S.rels[k]=rk at*
  refine Il ?_
  refine Z1 rfl rfl ?_
  first | refine A3 rfl (by assumption) ?_ | refine A1 rfl ?_
  refine Y2 rfl rfl ?_
  refine Z4 rfl rfl rfl rfl rfl ?_
  refine Gl rfl (st:=fun x_1:Nat=>mkS [(1,.pv (.int .i64 r)),(2,.pv (bL l)),(3,.ptr 0 0),(7,.osl 1 1 S.attrs.length),(23,.pv (.sl none S.rels.length (bj S.rels))),(24,.pv (.int .i64 S.rels.length)),(25,.pv (.int .i64 k)),(30,.pv (ak rk.2)),(31,.pv (.int .i64 rk.2.length)),(32,.pv (.int .i64 x_1))] [(0,.mix 34 [.pv (.sl none S.attrs.length (cc S.attrs)),.pv (.sl none S.rels.length (bj S.rels)),.pv (.sl none S.feats.length (bm S.feats)),.pv (.int .i64 S.label)]),(1,.cells 3 (aE (eB ((S.rels.take k).flatMap (·.2)++rk.2.take x_1) S.attrs.length)))] 3)
   (I:=fun x_1=>x_1≤rk.2.length) (μ:=fun x_1=>rk.2.length-x_1) (x0:=(0)) (Io (aS rfl) ⟨rfl,congrArg (fun c=>some (Ob.cells 3 (aE (eB c S.attrs.length)))) (by simp),trivial⟩ rfl rfl) (Nat.zero_le _) ?_
  rintro j hj
  refine Z1 rfl rfl ?_
  refine Gp rfl rfl (fun hc33=>?_) (fun hc33=>?_)
  ·have hlj:j<rk.2.length:=by omega
   obtain ⟨a,haa⟩:=Int.eq_ofNat_of_zero_le (hkb _ (List.getElem_mem hlj)).1
   have hal:a<S.attrs.length:=by have:=(hkb _ (List.getElem_mem hlj)).2;omega
   have hpv:(aE rk.2)[j*1]? =some (.int .i64 (a:Int)):=by rw [← haa];simp [hlj]
   have hpn:=aH hlj
   have htk:rk.2.take (j+1)=rk.2.take j++[(a:Int)]:=by rw [List.take_succ_eq_append_getElem hlj,haa]
   have hfl:=yO (l:=S.rels.take k) fun r hr=>hS.l r (List.mem_of_mem_take hr)
   have htl:(S.rels.take k).length≤1000:=by rw [List.length_take];omega
   have hLl:((S.rels.take k).flatMap (·.2)++rk.2.take j).length≤2000000:=by rw [List.length_append,List.length_take];omega
   generalize hLS:(S.rels.take k).flatMap (·.2)++rk.2.take j=LS at*
   have hua:=u6 (ls:=LS) hal
   have hus:=xC (ls:=LS) hal
   have hul:(aE (eB LS S.attrs.length)).length=S.attrs.length:=by rw [List.length_map,p9]
   have hcb:LS.count (a:Int)≤2000000:=Nat.le_trans List.count_le_length hLl
   refine Il ?_
   refine Z1 rfl rfl ?_
   refine Rs 35 rfl rfl (ai ⟨_,underlying3,rfl⟩ rfl hpv) ?_
   refine A1 rfl ?_
   refine Z3 rfl rfl rfl rfl ?_
   refine Rs 39 rfl rfl (aC ⟨_,underlying3,rfl⟩ rfl rfl hua) ?_
   refine Y2 rfl rfl ?_
   refine RL.step (d:=none) rfl rfl (aF sz3 rfl rfl rfl rfl (by omega)) ?_
   refine Z2 rfl rfl rfl ?_
   exact ⟨(j+1),Io (aS rfl) ⟨rfl,Eq.trans (b:=some (.cells 3 ((aE (eB LS S.attrs.length)).set (a*1) (.int .i64 (((LS.count (a:Int):Nat):Int)+1))))) (by kernel_rfl) (congrArg (fun c=>some (Ob.cells 3 c)) (hus.trans (by rw [htk, ← List.append_assoc,hLS]))),trivial⟩ rfl rfl,by omega,by omega⟩
  ·refine Gx rfl ?_
   refine Z2 rfl rfl rfl ?_
   exact ⟨(k+1),Io (aS rfl) ⟨rfl,congrArg (fun c=>some (Ob.cells 3 (aE (eB c S.attrs.length)))) (by rw [hfs,show rk.2.take j=rk.2 from List.take_of_length_le (by omega)]),trivial⟩ rfl rfl,by omega,by omega⟩
 ·have hLl:=yO (l:=S.rels) fun r hr=>hS.l r hr
  rw [show S.rels.take k=S.rels from List.take_of_length_le (by omega)]
  generalize S.rels.flatMap (·.2)=LS at*
  have hul:(aE (eB LS S.attrs.length)).length=S.attrs.length:=by rw [List.length_map,p9]
  refine Gx rfl ?_
  refine Z1 rfl rfl ?_
  refine Im (Iu 12 2 2 49 rfl rfl) ?_
  refine Z3 rfl rfl rfl rfl ?_
  refine Gl rfl (st:=fun x_2:Nat×List Rw=>mkS [(1,.pv (.int .i64 r)),(3,.ptr 0 0),(7,.osl 1 1 S.attrs.length),(12,.gsl 2 2 x_2.2.length),(44,.pv (bL l)),(45,.pv (.int .i64 l.length)),(46,.pv (.int .i64 x_2.1))] [(0,.mix 34 [.pv (.sl none S.attrs.length (cc S.attrs)),.pv (.sl none S.rels.length (bj S.rels)),.pv (.sl none S.feats.length (bm S.feats)),.pv (.int .i64 S.label)]),(1,.cells 3 (aE (eB LS S.attrs.length))),(2,.gro 49 (aB x_2.2))] 3)
   (I:=fun x_2=>(x_2.1≤l.length∧x_2.2.length≤x_2.1)∧x_2.2=(l.take x_2.1).filter (bq LS A)) (μ:=fun x_2=>l.length-x_2.1) (x0:=(0,[])) (Io (aS rfl) (aO rfl) rfl rfl) (⟨⟨Nat.zero_le _,Nat.le_refl _⟩,rfl⟩) ?_
  rintro ⟨i,q⟩ ⟨hi,hq⟩
  try simp only at hi hq ⊢
  refine Z1 rfl rfl ?_
  refine Gp rfl rfl (fun hc47=>?_) (fun hc47=>?_)
  ·have hil:i<l.length:=by omega
   have hrw:=aN hil
   have hrn:=aW hil
   have hxl:=hv _ (List.getElem_mem hil)
   have hql:=aK q
   have htk2:l.take (i+1)=l.take i++[l[i]]:=List.take_succ_eq_append_getElem hil
   generalize l[i]=x at*
   refine Il ?_
   refine Z1 rfl rfl ?_
   first | refine A3 rfl (by assumption) ?_ | refine A1 rfl ?_
   refine Y2 rfl rfl ?_
   refine Z1 rfl rfl ?_
   refine Z3 rfl rfl rfl rfl ?_
   refine Rs 53 rfl rfl (ag r underlying31 Eu rfl rfl rfl hr hrne) ?_
   refine A1 rfl ?_
   refine Rs 55 rfl rfl (ai ⟨_,underlying22,rfl⟩ rfl hra) ?_
   refine Y2 rfl rfl ?_
   refine Gl rfl (st:=fun x_3:Nat×Bool=>mkS [(1,.pv (.int .i64 r)),(3,.ptr 0 0),(7,.osl 1 1 S.attrs.length),(12,.gsl 2 2 q.length),(14,.ptr 3 0),(15,.pv (.bool x_3.2)),(44,.pv (bL l)),(45,.pv (.int .i64 l.length)),(46,.pv (.int .i64 i)),(55,.pv (ak A)),(56,.pv (.int .i64 A.length)),(57,.pv (.int .i64 x_3.1))] [(0,.mix 34 [.pv (.sl none S.attrs.length (cc S.attrs)),.pv (.sl none S.rels.length (bj S.rels)),.pv (.sl none S.feats.length (bm S.feats)),.pv (.int .i64 S.label)]),(1,.cells 3 (aE (eB LS S.attrs.length))),(2,.gro 49 (aB q)),(3,.mix 49 [.pv (aI x.v),.pv (.int .i64 x.w)])] 4)
    (I:=fun x_3=>x_3.1≤A.length∧x_3.2=((A.zip x.v).take x_3.1).all fun p=> !(p.2.toList==(⟨#[]⟩:ByteArray).toList)||((LS.count p.1:Nat):Int)==1) (μ:=fun x_3=>A.length-x_3.1) (x0:=(0,true)) (Io (aS rfl) (aO rfl) rfl rfl) (⟨Nat.zero_le _,rfl⟩) ?_
   rintro ⟨j,b⟩ ⟨hj,hb⟩
   try simp only at hj hb ⊢
   refine Z1 rfl rfl ?_
   refine Gp rfl rfl (fun hc58=>?_) (fun hc58=>?_)
   ·have hlj:j<A.length:=by omega
    have hzs:=eM hxl hlj fun p=> !(p.2.toList==(⟨#[]⟩:ByteArray).toList)||((LS.count p.1:Nat):Int)==1
    obtain ⟨a,haa⟩:=Int.eq_ofNat_of_zero_le (hrb _ (List.getElem_mem hlj)).1
    have hal:a<S.attrs.length:=by have:=(hrb _ (List.getElem_mem hlj)).2;omega
    have hpv:(aE A)[j*1]? =some (.int .i64 (a:Int)):=by rw [← haa];simp [hlj]
    have hpn:=aH hlj
    have hjv:j<x.v.length:=by omega
    have hsv:=aM hjv
    have hsn:=bc hjv
    have hua:=u6 (ls:=LS) hal
    rw [← hb,haa] at hzs
    simp only at hzs
    refine Il ?_
    refine Z2 rfl rfl rfl ?_
    refine Rs 61 rfl rfl (ai ⟨_,underlying3,rfl⟩ rfl hpv) ?_
    refine Y2 rfl rfl ?_
    by_cases hbt:b=true
    ·by_cases hve:(x.v[j].toList==(⟨#[]⟩:ByteArray).toList)=true
     ·refine Gr rfl ?_
      refine Rs 62 rfl rfl (XJ.cast (v':= .pv (.bool true)) (jP rfl) (congrArg (fun b=>V.pv (.bool b)) hbt)) ?_
      iterate 5 refine A1 rfl ?_
      refine Rg 68 rfl rfl rfl (ai ⟨_,underlying9,rfl⟩ rfl hsv) ?_
      refine Rg 69 rfl rfl rfl (XJ.cast (v':= .pv (.bool false)) (cF rfl rfl rfl) (congrArg (fun b=>V.pv (.bool !b)) hve)) ?_
      iterate 4 refine A1 rfl ?_
      refine Rg 74 rfl rfl rfl (aC ⟨_,underlying3,rfl⟩ rfl rfl hua) ?_
      iterate 4 refine A1 rfl ?_
      refine Z2 rfl rfl rfl ?_
      exact ⟨(j+1,(((LS.count (a:Int):Nat):Int)==1)),Io (aS rfl) (aO rfl) rfl rfl,⟨by omega,by simp only;rw [hzs,hbt,hve];rfl⟩,by simp only;omega⟩
     ·refine Gr rfl ?_
      refine Rs 62 rfl rfl (XJ.cast (v':= .pv (.bool true)) (jP rfl) (congrArg (fun b=>V.pv (.bool b)) hbt)) ?_
      iterate 5 refine A1 rfl ?_
      refine Rg 68 rfl rfl rfl (ai ⟨_,underlying9,rfl⟩ rfl hsv) ?_
      refine Rg 69 rfl rfl rfl (XJ.cast (v':= .pv (.bool true)) (cF rfl rfl rfl) (congrArg (fun b=>V.pv (.bool !b)) (eq_false_of_ne_true hve))) ?_
      iterate 9 refine A1 rfl ?_
      refine Z2 rfl rfl rfl ?_
      exact ⟨(j+1,true),Io (aS rfl) (aO rfl) rfl rfl,⟨by omega,by simp only;rw [hzs,hbt,eq_false_of_ne_true hve];rfl⟩,by simp only;omega⟩
    ·refine Gr rfl ?_
     refine Rs 62 rfl rfl (XJ.cast (v':= .pv (.bool false)) (jP rfl) (congrArg (fun b=>V.pv (.bool b)) (eq_false_of_ne_true hbt))) ?_
     iterate 16 refine A1 rfl ?_
     refine Z2 rfl rfl rfl ?_
     exact ⟨(j+1,false),Io (aS rfl) (aO rfl) rfl rfl,⟨by omega,by simp only;rw [hzs,eq_false_of_ne_true hbt,Bool.false_and]⟩,by simp only;omega⟩
   ·have hbl:bq LS A x=b:=by unfold bq;rw [hb,List.take_of_length_le (by simp;omega)]
    refine Gx rfl ?_
    refine Z1 rfl rfl ?_
    refine Gc rfl rfl (fun hc79=>?_) (fun hc79=>?_)
    ·refine Ge rfl follows [0,1,2,3,4,5,6,7,8,9] (by kernel_rfl) ?_
     iterate 3 refine D1 rfl rfl ?_
     refine Ds 83 [] rfl rfl rfl (fun τ h=>ae call99 (fX x.v (by omega)) (h.bt rfl)) rfl (by kernel_rfl) ?_
     iterate 6 refine D1 rfl rfl ?_
     refine ⟨by kernel_rfl,?_⟩
     refine Z2 rfl rfl rfl ?_
     exact ⟨(i+1,q++[x]),Ip [0,1,5] ⟨rfl,rfl,rfl,congrArg (fun n=>V.gsl 5 2 n) (bW q x),rfl,rfl,rfl,trivial⟩ ⟨rfl,rfl,Eq.trans (b:=some (.gro 49 (aB q++eV x))) (by kernel_rfl) (congrArg (fun c=>some (Ob.gro 49 c)) (dW q x)),trivial⟩ rfl rfl (by decide) rfl,⟨⟨by omega,by simp only [List.length_append,List.length_singleton];omega⟩,by rw [htk2,List.filter_append, ← hq];simp only [List.filter_cons,List.filter_nil];rw [if_pos (hbl.trans hc79)]⟩,by simp only;omega⟩
    ·refine Il ?_
     refine Z2 rfl rfl rfl ?_
     exact ⟨(i+1,q),Io (aS rfl) (aO rfl) rfl rfl,⟨⟨by omega,by simp only;omega⟩,by rw [htk2,List.filter_append, ← hq];simp only [List.filter_cons,List.filter_nil];rw [if_neg (by rw [hbl,hc79];decide),List.append_nil]⟩,by simp only;omega⟩
  ·refine Im (Ir 2 rfl rfl) ?_
   refine Gx rfl ?_
   refine Z2 rfl rfl rfl ?_
   refine Gt rfl ?_
   exact ⟨_,_,rfl,rfl,by rw [show l.filter (bq LS A)=q by rw [hq,List.take_of_length_le (by omega)]];rfl⟩
end
namespace Jn
set_option autoImplicit false
section
variable {α:Type} [DecidableEq α]
abbrev Asg (α:Type):=Int→Option α
def put (σ:Asg α) (a:Int) (x:α):Asg α:=fun b=>if b=a then some x else σ b
def agr (A:List Int) (σ:Asg α) (row:List α):Bool:=(A.zip row).all fun p=>match σ p.1 with
 | none=>true
 | some x=>decide (x=p.2)
theorem ib {A:List Int} {σ τ:Asg α} (h:∀ a∈A,σ a=τ a) (row:List α):agr A σ row=agr A τ row:=by
 unfold agr
 rw [Bool.eq_iff_iff,List.all_eq_true,List.all_eq_true]
 constructor
 ·intro k p hp
  have:=k p hp
  rw [← h p.1 (List.of_mem_zip hp).1];exact this
 ·intro k p hp
  have:=k p hp
  rw [h p.1 (List.of_mem_zip hp).1];exact this
def Sub (σ τ:Asg α):Prop:=∀ a x,σ a=some x→τ a=some x
theorem zw {A:List Int} {σ τ:Asg α} (h:Sub σ τ) {row:List α} (k:agr A τ row=true):agr A σ row=true:=by
 unfold agr at*
 rw [List.all_eq_true] at*
 intro p hp
 have:=k p hp
 cases e:σ p.1 with
 | none=>rfl
 | some x=>rw [h _ _ e] at this;exact this
structure Rels (α:Type) where
 A:List (List Int)
 T:List (List (List α))
def Rels.at (P:Rels α) (r:Nat):List Int:=P.A.getD r []
def Rels.rows (P:Rels α) (r:Nat):List (List α):=P.T.getD r []
def bR (P:Rels α) (r:Nat) (σ:Asg α):Bool:=(P.rows r).any (agr (P.at r) σ)
def bw (P:Rels α) (v:Int):List Nat:=(List.range P.A.length).filter fun r=>decide (v∈P.at r)
structure IsCand (P:Rels α) (v:Int) (σ:Asg α) (cs:List α):Prop where
 nd:cs.Nodup
 mem:∀ x,x∈cs↔∀ r∈bw P v,bR P r (put σ v x)=true
theorem yx {P:Rels α} {r:Nat} {σ τ:Asg α} (h:Sub σ τ) (k:bR P r τ=true):bR P r σ=true:=by
 unfold bR at*
 rw [List.any_eq_true] at*
 obtain ⟨row,h1,h2⟩:=k
 exact ⟨row,h1,zw h h2⟩
theorem fZ {P:Rels α} {r:Nat} {σ τ:Asg α} (h:∀ a∈P.at r,σ a=τ a):bR P r σ=bR P r τ:=by
 unfold bR
 rw [Bool.eq_iff_iff,List.any_eq_true,List.any_eq_true]
 exact ⟨fun ⟨x,h1,h2⟩=>⟨x,h1,by rw [← ib h];exact h2⟩,fun ⟨x,h1,h2⟩=>⟨x,h1,by rw [ib h];exact h2⟩⟩
def enW (cd:Int→Asg α→List α):List Int→Asg α→List (Asg α)
 | [],σ=>[σ]
 | v::vs,σ=>(cd v σ).flatMap fun x=>enW cd vs (put σ v x)
omit [DecidableEq α] in
theorem cG (σ:Asg α) (a:Int) (x:α):put σ a x a=some x:=if_pos rfl
omit [DecidableEq α] in
theorem dZ (σ:Asg α) {a b:Int} (x:α) (h:b≠a):put σ a x b=σ b:=if_neg h
omit [DecidableEq α] in
theorem gu {cd:Int→Asg α→List α}:∀ {vs:List Int} {σ τ:Asg α},τ∈enW cd vs σ→∀ a,a∉vs→τ a=σ a
 | [],σ,τ,h,a,_=>by rw [enW,List.mem_singleton] at h;rw [h]
 | v::vs,σ,τ,h,a,ha=>by
   rw [enW,List.mem_flatMap] at h
   obtain ⟨x,_,h⟩:=h
   rw [gu h a (fun e=>ha (by simp [e])),dZ _ _ (fun e=>ha (by simp [e]))]
omit [DecidableEq α] in
theorem qM {cd:Int→Asg α→List α} (hc:∀ v σ,(cd v σ).Nodup):∀ {vs:List Int} {σ:Asg α},vs.Nodup→(enW cd vs σ).Nodup
 | [],σ,_=>by simp [enW]
 | v::vs,σ,hn=>by
   rw [List.nodup_cons] at hn
   rw [enW]
   have key:∀ (l:List α),l.Nodup→(l.flatMap fun x=>enW cd vs (put σ v x)).Nodup:=by
    intro l
    induction l with
    | nil=>intro _;simp
    | cons x l ih=>
      intro hl
      rw [List.nodup_cons] at hl
      rw [List.flatMap_cons,List.nodup_append]
      refine ⟨qM hc hn.2,ih hl.2,fun τ h1 τ' h2 e=>?_⟩
      subst e
      obtain ⟨y,hy,h2⟩:=List.mem_flatMap.1 h2
      have e1:=gu h1 v hn.1
      have e2:=gu h2 v hn.1
      rw [cG] at e1 e2
      rw [e1] at e2
      cases e2
      exact hl.1 hy
   exact key _ (hc v σ)
theorem nM {P:Rels α} {cd:Int→Asg α→List α}:∀ {vs:List Int} (_:∀ v∈vs,∀ σ,IsCand P v σ (cd v σ)) {σ τ:Asg α},vs.Nodup→(∀ a∈vs,σ a=none)→
  (τ∈enW cd vs σ↔(∀ a,a∉vs→τ a=σ a)∧(∀ a∈vs,(τ a).isSome=true)∧∀ r<P.A.length,(∃ a∈vs,a∈P.at r)→bR P r τ=true)
 | [],_,σ,τ,_,_=>by
   rw [enW,List.mem_singleton]
   constructor
   ·rintro rfl
    exact ⟨fun _ _=>rfl,fun _ h=>absurd h (by simp),fun _ _ ⟨_,h,_⟩=>absurd h (by simp)⟩
   ·intro h
    funext a
    exact h.1 a (by simp)
 | v::vs,hc,σ,τ,hn,hs=>by
   rw [List.nodup_cons] at hn
   have hc':∀ v∈vs,∀ σ,IsCand P v σ (cd v σ):=fun u hu=>hc u (by simp [hu])
   have hs':∀ x,∀ a∈vs,put σ v x a=none:=fun x a ha=>by rw [dZ _ _ (fun e:a=v=>hn.1 (by rw [← e];exact ha))];exact hs a (by simp [ha])
   rw [enW,List.mem_flatMap]
   constructor
   ·rintro ⟨x,hx,h⟩
    have hm:=(nM hc' hn.2 (hs' x)).1 h
    have hv:τ v=some x:=by rw [hm.1 v hn.1,cG]
    refine ⟨fun a ha=>?_,fun a ha=>?_,fun r hr ⟨a,ha,hra⟩=>?_⟩
    ·rw [hm.1 a (fun e=>ha (by simp [e])),dZ _ _ (fun e=>ha (by simp [e]))]
    ·rcases List.mem_cons.1 ha with rfl | ha
     ·rw [hv];rfl
     ·exact hm.2.1 a ha
    ·by_cases h2:∃ b∈vs,b∈P.at r
     ·exact hm.2.2 r hr h2
     ·have hav:a=v:=by
       rcases List.mem_cons.1 ha with e | e
       ·exact e
       ·exact absurd ⟨a,e,hra⟩ h2
      subst hav
      have:=((hc a (by simp) σ).mem x).1 hx r (List.mem_filter.2 ⟨List.mem_range.2 hr,by simpa using hra⟩)
      rw [← this]
      exact fZ fun b hb=>hm.1 b fun e=>h2 ⟨b,e,hb⟩
   ·rintro ⟨h1,h2,h3⟩
    obtain ⟨x,hx⟩:=Option.isSome_iff_exists.1 (h2 v (by simp))
    have hsub:Sub (put σ v x) τ:=fun a y e=>by
     by_cases hav:a=v
     ·subst hav;rw [cG] at e;cases e;exact hx
     ·rw [dZ _ _ hav] at e
      by_cases hvs:a∈v::vs
      ·rw [hs a hvs] at e;cases e
      ·rw [h1 a hvs];exact e
    refine ⟨x,((hc v (by simp) σ).mem x).2 fun r hr=>?_,(nM hc' hn.2 (hs' x)).2 ⟨fun a ha=>?_,fun a ha=>h2 a (by simp [ha]),fun r hr ⟨a,ha,hra⟩=>h3 r hr ⟨a,by simp [ha],hra⟩⟩⟩
    ·obtain ⟨hr1,hr2⟩:=List.mem_filter.1 hr
     exact yx hsub (h3 r (List.mem_range.1 hr1) ⟨v,by simp,by simpa using hr2⟩)
    ·by_cases hav:a=v
     ·subst hav;rw [cG,hx]
     ·rw [dZ _ _ hav];exact h1 a (by simp [hav,ha])
end
structure SR (R:Type) where
 zero:R
 one:R
 add:R→R→R
 mul:R→R→R
 add_assoc:∀ a b c,add (add a b) c=add a (add b c)
 zero_add:∀ a,add zero a=a
 add_zero:∀ a,add a zero=a
 mul_assoc:∀ a b c,mul (mul a b) c=mul a (mul b c)
 mul_comm:∀ a b,mul a b=mul b a
 one_mul:∀ a,mul one a=a
 zero_mul:∀ a,mul zero a=zero
 add_mul:∀ a b c,mul (add a b) c=add (mul a c) (mul b c)
section
variable {R:Type} (S:SR R)
def eg:List R→R
 | []=>S.zero
 | a::l=>S.add a (eg l)
theorem kK (l m:List R):eg S (l++m)=S.add (eg S l) (eg S m):=by
 induction l with
 | nil=>rw [List.nil_append,eg,S.zero_add]
 | cons a l ih=>rw [List.cons_append,eg,ih,eg,S.add_assoc]
theorem uS (l:List R) (c:R):eg S (l.map fun a=>S.mul a c)=S.mul (eg S l) c:=by
 induction l with
 | nil=>rw [List.map_nil,eg,S.zero_mul]
 | cons a l ih=>rw [List.map_cons,eg,ih,eg,S.add_mul]
theorem vq (l:List R) (c:R):eg S (l.map fun a=>S.mul c a)=S.mul c (eg S l):=by
 rw [S.mul_comm c, ← uS]
 congr 1
 exact List.map_congr_left fun a _=>S.mul_comm c a
theorem jb {β γ:Type} (l:List β) (f:β→List γ) (w:γ→R):eg S ((l.flatMap f).map w)=eg S (l.map fun b=>eg S ((f b).map w)):=by
 induction l with
 | nil=>rfl
 | cons b l ih=>rw [List.flatMap_cons,List.map_append,kK,ih,List.map_cons,eg]
theorem cx {β:Type} {l:List β} {f g:β→R} (h:∀ b∈l,f b=g b):eg S (l.map f)=eg S (l.map g):=by rw [List.map_congr_left h]
end
inductive Tr where
 | node (v:Int) (ts:List Tr)
mutual
def Tr.vs:Tr→List Int
 | .node v ts=>v::vsL ts
def vsL:List Tr→List Int
 | []=>[]
 | t::ts=>t.vs++vsL ts
end
section
variable {α R:Type} (S:SR R) (cd:Int→Asg α→List α) (g:Int→Asg α→R)
mutual
def val:Tr→Asg α→R
 | .node v ts,σ=>eg S ((cd v σ).map fun x=>S.mul (g v (put σ v x)) (valL ts (put σ v x)))
def valL:List Tr→Asg α→R
 | [],_=>S.one
 | t::ts,σ=>S.mul (val t σ) (valL ts σ)
end
def wts:List Int→Asg α→R
 | [],_=>S.one
 | v::vs,τ=>S.mul (g v τ) (wts vs τ)
theorem wy (l m:List Int) (τ:Asg α):wts S g (l++m) τ=S.mul (wts S g l τ) (wts S g m τ):=by
 induction l with
 | nil=>rw [List.nil_append,wts,S.one_mul]
 | cons v l ih=>rw [List.cons_append,wts,ih,wts,S.mul_assoc]
theorem ni (l m:List Int) (σ:Asg α):enW cd (l++m) σ=(enW cd l σ).flatMap (enW cd m):=by
 induction l generalizing σ with
 | nil=>simp [enW]
 | cons v l ih=>
   rw [List.cons_append,enW,enW,List.flatMap_assoc]
   congr 1
   funext x
   exact ih _
structure Dep (D E:Int→List Int):Prop where
 d:∀ v σ τ,(∀ a∈D v,σ a=τ a)→cd v σ=cd v τ
 e:∀ v σ τ,(∀ a∈E v,σ a=τ a)→g v σ=g v τ
variable (D E:Int→List Int)
mutual
def Tr.Sep:Tr→Prop
 | .node v ts=>(∀ a∈E v,a∉vsL ts)∧SepL ts
def SepL:List Tr→Prop
 | []=>True
 | t::ts=>t.Sep∧SepL ts∧(∀ w∈t.vs,(∀ a∈D w,a∉vsL ts)∧∀ a∈E w,a∉vsL ts)∧∀ w∈vsL ts,(∀ a∈D w,a∉t.vs)∧∀ a∈E w,a∉t.vs
end
variable {cd g D E}
theorem e8 {σ τ:Asg α} {l:List Int} (h:∀ a∈l,σ a=τ a) (v:Int) (x:α):∀ a∈l,put σ v x a=put τ v x a:=fun a ha=>by
 unfold put;split
 ·rfl
 ·exact h a ha
mutual
theorem val_congr (hd:Dep cd g D E):∀ (t:Tr) (σ τ:Asg α),(∀ w∈t.vs,(∀ a∈D w,σ a=τ a)∧∀ a∈E w,σ a=τ a)→val S cd g t σ=val S cd g t τ
 | .node v ts,σ,τ,h=>by
   have hv:=h v (by simp [Tr.vs])
   rw [val,val,hd.d v σ τ hv.1]
   refine cx S fun x _=>?_
   rw [hd.e v _ _ (e8 hv.2 v x),valL_congr hd ts _ _ fun w hw=>⟨e8 (h w (by simp [Tr.vs,hw])).1 v x,e8 (h w (by simp [Tr.vs,hw])).2 v x⟩]
theorem valL_congr (hd:Dep cd g D E):∀ (ts:List Tr) (σ τ:Asg α),(∀ w∈vsL ts,(∀ a∈D w,σ a=τ a)∧∀ a∈E w,σ a=τ a)→valL S cd g ts σ=valL S cd g ts τ
 | [],_,_,_=>by rw [valL,valL]
 | t::ts,σ,τ,h=>by
   rw [valL,valL,val_congr hd t σ τ fun w hw=>h w (by simp [vsL,hw]),valL_congr hd ts σ τ fun w hw=>h w (by simp [vsL,hw])]
end
theorem Ag (hd:Dep cd g D E) {l:List Int} {σ τ:Asg α} (h:∀ w∈l,∀ a∈E w,σ a=τ a):wts S g l σ=wts S g l τ:=by
 induction l with
 | nil=>rfl
 | cons v l ih=>rw [wts,wts,hd.e v σ τ (h v (by simp)),ih fun w hw=>h w (by simp [hw])]
mutual
theorem val_sum (hd:Dep cd g D E):∀ (t:Tr) (σ:Asg α),t.Sep D E→val S cd g t σ=eg S ((enW cd t.vs σ).map (wts S g t.vs))
 | .node v ts,σ,hs=>by
   rw [Tr.Sep] at hs
   rw [val,Tr.vs,enW,jb]
   refine cx S fun x _=>?_
   rw [valL_sum hd ts _ hs.2, ← vq,List.map_map]
   refine cx S fun τ hτ=>?_
   show S.mul _ (wts S g (vsL ts) τ)=wts S g (v::vsL ts) τ
   rw [wts,hd.e v (put σ v x) τ fun a ha=>(gu hτ a (hs.1 a ha)).symm]
theorem valL_sum (hd:Dep cd g D E):∀ (ts:List Tr) (σ:Asg α),SepL D E ts→valL S cd g ts σ=eg S ((enW cd (vsL ts) σ).map (wts S g (vsL ts)))
 | [],σ,_=>by
   rw [valL,vsL,enW,List.map_cons,List.map_nil,eg,eg,wts]
   rw [S.add_zero]
 | t::ts,σ,hs=>by
   rw [SepL] at hs
   obtain ⟨h1,h2,h3,h4⟩:=hs
   rw [valL,vsL,ni,jb,val_sum hd t σ h1, ← uS,List.map_map]
   refine cx S fun τ hτ=>?_
   show S.mul (wts S g t.vs τ) _=_
   have e1:∀ τ'∈enW cd (vsL ts) τ,wts S g (t.vs++vsL ts) τ'=S.mul (wts S g t.vs τ) (wts S g (vsL ts) τ'):=fun τ' h'=>by
    rw [wy,Ag S hd fun w hw a ha=>gu h' a ((h3 w hw).2 a ha)]
   rw [cx S e1, ← Function.comp_def (f:=fun b=>S.mul (wts S g t.vs τ) b), ← List.map_map,vq, ← valL_sum hd ts τ h2]
   rw [valL_congr S hd ts σ τ fun w hw=>⟨fun a ha=>(gu hτ a ((h4 w hw).1 a ha)).symm,fun a ha=>(gu hτ a ((h4 w hw).2 a ha)).symm⟩]
end
end
end Jn
namespace Jn
set_option autoImplicit false
def bG:SR Nat:=⟨0,1,Nat.add,Nat.mul,Nat.add_assoc,Nat.zero_add,Nat.add_zero,Nat.mul_assoc,Nat.mul_comm,Nat.one_mul,Nat.zero_mul,Nat.add_mul⟩
def aU:SR Bool:=⟨false,true,or,and,Bool.or_assoc,Bool.false_or,Bool.or_false,Bool.and_assoc,Bool.and_comm,Bool.true_and,Bool.false_and,fun a b c=>by cases a<;>cases b<;>cases c<;>rfl⟩
section
variable {α:Type} {cd:Int→Asg α→List α} {D E:Int→List Int}
theorem xD {R:Type} (S:SR R) (vs:List Int) (τ:Asg α):wts S (fun _ _=>S.one) vs τ=S.one:=by
 induction vs with
 | nil=>rfl
 | cons v vs ih=>rw [wts,ih,S.one_mul]
theorem BQ {β:Type} (l:List β):eg bG (l.map fun _=>1)=l.length:=by
 induction l with
 | nil=>rfl
 | cons a l ih=>rw [List.map_cons,eg,ih,List.length_cons,Nat.add_comm];rfl
theorem xo {β:Type} (l:List β):eg aU (l.map fun _=>true)= !l.isEmpty:=by
 cases l with
 | nil=>rfl
 | cons a l=>rw [List.map_cons,eg];rfl
def cntL (cd:Int→Asg α→List α) (ts:List Tr) (σ:Asg α):Nat:=valL bG cd (fun _ _=>1) ts σ
def GW (cd:Int→Asg α→List α) (ts:List Tr) (σ:Asg α):Bool:=valL aU cd (fun _ _=>true) ts σ
theorem qF {R:Type} {c:R} (hd:∀ v (σ τ:Asg α),(∀ a∈D v,σ a=τ a)→cd v σ=cd v τ):Dep cd (fun _ _=>c) D (fun _=>[]):=⟨hd,fun _ _ _ _=>rfl⟩
theorem BN (hd:∀ v (σ τ:Asg α),(∀ a∈D v,σ a=τ a)→cd v σ=cd v τ) {ts:List Tr} (hs:SepL D (fun _=>[]) ts) (σ:Asg α):cntL cd ts σ=(enW cd (vsL ts) σ).length:=by
 rw [cntL,valL_sum bG (qF hd) ts σ hs, ← BQ]
 exact cx bG fun τ _=>xD bG _ τ
theorem tY (hd:∀ v (σ τ:Asg α),(∀ a∈D v,σ a=τ a)→cd v σ=cd v τ) {ts:List Tr} (hs:SepL D (fun _=>[]) ts) (σ:Asg α):GW cd ts σ= !(enW cd (vsL ts) σ).isEmpty:=by
 rw [GW,valL_sum aU (qF hd) ts σ hs, ← xo]
 exact cx aU fun τ _=>xD aU _ τ
def enT (cd:Int→Asg α→List α) (br:Int→Asg α→Bool):List Int→Asg α→List (Asg α)
 | [],σ=>[σ]
 | v::vs,σ=>(cd v σ).flatMap fun x=>if br v (put σ v x)=true then enT cd br vs (put σ v x) else []
mutual
def Tr.Ch (ch:Int→List Tr):Tr→Prop
 | .node v ts=>ch v=ts∧ChL ch ts
def ChL (ch:Int→List Tr):List Tr→Prop
 | []=>True
 | t::ts=>t.Ch ch∧ChL ch ts
end
mutual
theorem enT_tree (hd:∀ v (σ τ:Asg α),(∀ a∈D v,σ a=τ a)→cd v σ=cd v τ) {ch:Int→List Tr} (rest:List Int) (hr:∀ σ,enT cd (fun v τ=>GW cd (ch v) τ) rest σ=enW cd rest σ):
  ∀ (t:Tr) (σ:Asg α),t.Sep D (fun _=>[])→t.Ch ch→enT cd (fun v τ=>GW cd (ch v) τ) (t.vs++rest) σ=enW cd (t.vs++rest) σ
 | .node v ts,σ,hs,hc=>by
   rw [Tr.Sep] at hs
   rw [Tr.Ch] at hc
   rw [Tr.vs,List.cons_append,enT,enW]
   congr 1
   funext x
   rw [hc.1,enT_forest hd rest hr ts _ hs.2 hc.2,tY hd hs.2]
   split
   ·rfl
   ·rename_i h
    rw [ni]
    have:enW cd (vsL ts) (put σ v x)=[]:=by simpa using h
    rw [this];rfl
theorem enT_forest (hd:∀ v (σ τ:Asg α),(∀ a∈D v,σ a=τ a)→cd v σ=cd v τ) {ch:Int→List Tr} (rest:List Int) (hr:∀ σ,enT cd (fun v τ=>GW cd (ch v) τ) rest σ=enW cd rest σ):
  ∀ (ts:List Tr) (σ:Asg α),SepL D (fun _=>[]) ts→ChL ch ts→enT cd (fun v τ=>GW cd (ch v) τ) (vsL ts++rest) σ=enW cd (vsL ts++rest) σ
 | [],σ,_,_=>by rw [vsL,List.nil_append];exact hr σ
 | t::ts,σ,hs,hc=>by
   rw [SepL] at hs
   rw [ChL] at hc
   rw [vsL,List.append_assoc]
   exact enT_tree hd (vsL ts++rest) (fun τ=>enT_forest hd rest hr ts τ hs.2.1 hc.2) t σ hs.1 hc.1
end
end
section
variable {α:Type} [DecidableEq α]
def gf (σ:Asg α) (v:Int):Asg α:=fun b=>if b=v then none else σ b
def bC (P:Rels α) (sd:List α→List α) (v:Int) (σ:Asg α):List α:=match bw P v with
 | []=>[]
 | f::_=>(sd (((P.rows f).filter (agr (P.at f) (gf σ v))).filterMap fun row=>row[(P.at f).idxOf v]?)).filter fun x=>(bw P v).all fun r=>bR P r (put σ v x)
def dom (P:Rels α) (v:Int):List Int:=(bw P v).flatMap P.at
omit [DecidableEq α] in
theorem Dt {P:Rels α} {v:Int} {r:Nat} (h:r∈bw P v):v∈P.at r:=by simpa using (List.mem_filter.1 h).2
theorem kI (P:Rels α) (sd:List α→List α) (v:Int) (σ τ:Asg α) (h:∀ a∈dom P v,σ a=τ a):bC P sd v σ=bC P sd v τ:=by
 unfold bC
 have hr:∀ r∈bw P v,∀ a∈P.at r,σ a=τ a:=fun r hr a ha=>h a (List.mem_flatMap.2 ⟨r,hr,ha⟩)
 cases hw:bw P v with
 | nil=>rfl
 | cons f l=>
   simp only
   rw [hw] at hr
   have e1:((P.rows f).filter (agr (P.at f) (gf σ v)))=((P.rows f).filter (agr (P.at f) (gf τ v))):=by
    refine List.filter_congr fun row _=>ib (fun a ha=>?_) row
    unfold gf
    split
    ·rfl
    ·exact hr f (by simp) a ha
   rw [e1]
   refine List.filter_congr fun x _=>?_
   rw [Bool.eq_iff_iff,List.all_eq_true,List.all_eq_true]
   constructor
   ·intro k r hm;rw [← k r hm];exact (fZ fun a ha=>e8 (hr r hm) v x a ha).symm
   ·intro k r hm;rw [← k r hm];exact fZ fun a ha=>e8 (hr r hm) v x a ha
omit [DecidableEq α] in
theorem Fi {A:List Int} {row:List α} {v:Int} (hv:v∈A) (hl:row.length=A.length):∃ x,row[A.idxOf v]? =some x∧(v,x)∈A.zip row:=by
 have h1:A.idxOf v<A.length:=List.idxOf_lt_length_of_mem hv
 have h2:A.idxOf v<row.length:=by omega
 refine ⟨row[A.idxOf v],List.getElem?_eq_getElem h2,?_⟩
 have h3:(A.zip row)[A.idxOf v]'(by simp;omega)=(A[A.idxOf v],row[A.idxOf v]):=List.getElem_zip
 have h4:A[A.idxOf v]=v:=List.getElem_idxOf h1
 rw [h4] at h3
 rw [← h3]
 exact List.getElem_mem _
theorem Dv {P:Rels α} {sd:List α→List α} (hn:∀ l,(sd l).Nodup) (hm:∀ l x,x∈sd l↔x∈l) {v:Int} (hw:bw P v≠[])
  (hl:∀ r∈bw P v,∀ row∈P.rows r,row.length=(P.at r).length) (σ:Asg α):IsCand P v σ (bC P sd v σ):=by
 unfold bC
 cases hw2:bw P v with
 | nil=>exact absurd hw2 hw
 | cons f l=>
   simp only
   refine ⟨(hn _).filter _,fun x=>?_⟩
   rw [hw2]
   rw [List.mem_filter,List.all_eq_true]
   constructor
   ·exact fun h=>h.2
   ·intro h
    refine ⟨?_,h⟩
    rw [hm,List.mem_filterMap]
    have hf:=h f (by simp)
    unfold bR at hf
    obtain ⟨row,h1,h2⟩:=List.any_eq_true.1 hf
    have hvf:v∈P.at f:=Dt (P:=P) (v:=v) (r:=f) (by rw [hw2];simp)
    obtain ⟨y,hy,hz⟩:=Fi hvf (hl f (by rw [hw2];simp) row h1)
    have h3:=List.all_eq_true.1 (show ((P.at f).zip row).all _=true from h2) (v,y) hz
    simp only [cG,decide_eq_true_eq] at h3
    refine ⟨row,List.mem_filter.2 ⟨h1,zw (fun a z e=>?_) h2⟩,by rw [hy,h3]⟩
    unfold gf at e
    split at e
    ·cases e
    ·rename_i hav;rw [dZ _ _ hav];exact e
end
end Jn
namespace Jn
open Go.RowKit Mk
def a7 (P:List Int):Nat→Int→Tr
 | 0,v=> .node v []
 | k+1,v=> .node v ((al P v).map (a7 P k))
theorem aX {P:List Int} {v c:Int}:c∈al P v↔∃ n:Nat,n<P.length∧c=(n:Int)∧P.getD n 0=v:=by
 unfold al
 rw [List.mem_filter,bx]
 constructor
 ·rintro ⟨⟨a,ha,rfl⟩,h⟩
  exact ⟨a,ha,rfl,by simpa using h⟩
 ·rintro ⟨a,ha,rfl,h⟩
  exact ⟨⟨a,ha,rfl⟩,by simpa using h⟩
theorem kD (P:List Int) (v:Int):(al P v).Nodup:=(cJ _).filter _
theorem dm (ts:List Tr):vsL ts=ts.flatMap Tr.vs:=by
 induction ts with
 | nil=>rfl
 | cons t ts ih=>rw [vsL,ih,List.flatMap_cons]
theorem rL {α β:Type} (p:α→Bool) (f:α→List β) (l:List α):(l.filter p).flatMap f=l.flatMap fun a=>if p a=true then f a else []:=by
 induction l with
 | nil=>rfl
 | cons a l ih=>
   rw [List.filter_cons,List.flatMap_cons, ← ih]
   split
   ·rw [List.flatMap_cons]
   ·rw [List.nil_append]
mutual
theorem tree_vs (P:List Int):∀ (k:Nat) (v:Int),(a7 P k v).vs=v::fy P k v
 | 0,v=>by rw [a7,Tr.vs,vsL,fy]
 | k+1,v=>by rw [a7,Tr.vs,kids_vs P k v]
theorem kids_vs (P:List Int):∀ (k:Nat) (v:Int),vsL ((al P v).map (a7 P k))=fy P (k+1) v
 | k,v=>by
   rw [dm,List.flatMap_map,fy]
   unfold al
   rw [rL]
   congr 1
   funext a
   rw [tree_vs P k a]
   simp only [beq_iff_eq]
end
theorem ij (P:List Int):vsL ((al P (-1)).map (a7 P P.length))=aD P:=kids_vs P P.length (-1)
theorem getD_at {P:List Int} {n:Nat} (hn:n<P.length):P.getD n 0=P[n]:=by simp [List.getD,hn]
theorem map_inj {α β:Type} {f:α→β}:∀ {l:List α},(l.map f).Nodup→∀ {a b:α},a∈l→b∈l→f a=f b→a=b
 | x::l,h,a,b,ha,hb,e=>by
   rw [List.map_cons,List.nodup_cons] at h
   rcases List.mem_cons.1 ha with ha | ha<;>rcases List.mem_cons.1 hb with hb | hb
   ·rw [ha,hb]
   ·exact absurd (List.mem_map.2 ⟨b,hb,by rw [← e,ha]⟩) h.1
   ·exact absurd (List.mem_map.2 ⟨a,ha,by rw [e,hb]⟩) h.1
   ·exact map_inj h.2 ha hb e
section
variable {P:List Int} (hP:UpOk P)
include hP
theorem yw {m c c':Nat} (hm:m<P.length) (hc:(c:Int)∈(m:Int)::bp P m) (hc':(c':Int)∈(m:Int)::bp P m) (h:P.getD c 0=P.getD c' 0):c=c':=by
 have hn:(((m:Int)::bp P m).map fun a=>P.getD a.toNat 0).Nodup:=by rw [kB hP m hm];exact pG hP hm
 have:=map_inj hn hc hc' (by simpa using h)
 omega
theorem bO {c:Nat} {v:Nat} (hc:c<P.length) (hv:v<P.length) (h:P.getD c 0=(v:Int)):bp P c=(v:Int)::bp P v:=
 ik hP hc hv (by rw [← getD_at hc];exact h)
theorem gR:∀ (k:Nat) (v:Nat),v<P.length→∀ x∈(a7 P k v).vs,∃ m:Nat,m<P.length∧x=(m:Int)∧(v:Int)∈(m:Int)::bp P m
 | 0,v,hv,x,hx=>by
   rw [a7,Tr.vs,vsL,List.mem_singleton] at hx
   exact ⟨v,hv,hx,by simp⟩
 | k+1,v,hv,x,hx=>by
   rw [a7,Tr.vs,dm,List.flatMap_map] at hx
   rcases List.mem_cons.1 hx with rfl | hx
   ·exact ⟨v,hv,rfl,by simp⟩
   ·obtain ⟨c,hc,hx⟩:=List.mem_flatMap.1 hx
    obtain ⟨n,hn,rfl,hp⟩:=aX.1 hc
    obtain ⟨m,hm,rfl,hu⟩:=gR k n hn x hx
    have e:=bO hP hn hv hp
    refine ⟨m,hm,rfl,List.mem_cons_of_mem _ ?_⟩
    rcases List.mem_cons.1 hu with h | h
    ·have:n=m:=by omega
     subst this
     rw [e];simp
    ·exact fH hP hm (by rw [e];simp) h
theorem lu {v:Nat} (hv:v<P.length):(bp P v).length+1≤P.length:=by
 have h1:=(jm hP hv).length_eq
 have h2:=List.length_filter_le (fun a=>decide (a∈(v:Int)::bp P v)) (upZ P.length)
 rw [h1,a8,List.length_cons] at h2
 exact h2
theorem ln {v:Nat} (hv:v<P.length) (h:P.length≤1+(bp P v).length):al P v=[]:=by
 rw [List.eq_nil_iff_forall_not_mem]
 intro c hc
 obtain ⟨n,hn,rfl,hp⟩:=aX.1 hc
 have h1:=lu hP hn
 rw [bO hP hn hv hp,List.length_cons] at h1
 omega
theorem iy:∀ (k:Nat) (v:Nat),v<P.length→P.length≤k+1+(bp P v).length→a7 P (k+1) v=a7 P k v
 | 0,v,hv,h=>by rw [a7,a7,ln hP hv (by omega)];rfl
 | k+1,v,hv,h=>by
   rw [a7,a7]
   congr 1
   refine List.map_congr_left fun c hc=>?_
   obtain ⟨n,hn,rfl,hp⟩:=aX.1 hc
   have e:=bO hP hn hv hp
   exact iy k n hn (by rw [e,List.length_cons];omega)
theorem qZ:∀ (j k:Nat) (v:Nat),v<P.length→P.length≤k+1+(bp P v).length→a7 P (k+j) v=a7 P k v
 | 0,_,_,_,_=>rfl
 | j+1,k,v,hv,h=>by
   rw [show k+(j+1)=(k+j)+1 by omega,iy hP (k+j) v hv (by omega)]
   exact qZ j k v hv h
theorem Ga {v:Nat} (hv:v<P.length):a7 P P.length v= .node v ((al P v).map (a7 P P.length)):=by
 rw [← iy hP P.length v hv (by omega),a7]
theorem zG:∀ (k:Nat) (v:Nat),v<P.length→P.length≤k+1+(bp P v).length→k≤P.length→(a7 P k v).Ch fun a=>(al P a).map (a7 P P.length)
 | 0,v,hv,h,_=>by
   rw [a7,Tr.Ch,ln hP hv (by omega)]
   exact ⟨rfl,trivial⟩
 | k+1,v,hv,h,hk=>by
   rw [a7,Tr.Ch]
   have hc:∀ c∈al P v,∃ n:Nat,n<P.length∧c=(n:Int)∧P.length≤k+1+(bp P n).length:=fun c hc=>by
    obtain ⟨n,hn,e,hp⟩:=aX.1 hc
    exact ⟨n,hn,e,by rw [bO hP hn hv hp,List.length_cons];omega⟩
   constructor
   ·refine List.map_congr_left fun c h1=>?_
    obtain ⟨n,hn,rfl,h2⟩:=hc c h1
    have:=qZ hP (P.length-k) k n hn h2
    rwa [show k+(P.length-k)=P.length by omega] at this
   ·have key:∀ l:List Int,(∀ c∈l,c∈al P v)→ChL (fun a=>(al P a).map (a7 P P.length)) (l.map (a7 P k)):=by
     intro l
     induction l with
     | nil=>intro _;trivial
     | cons c l ih=>
       intro hl
       obtain ⟨n,hn,rfl,h2⟩:=hc c (hl c (by simp))
       rw [List.map_cons,ChL]
       exact ⟨zG k n hn h2 (by omega),ih fun x hx=>hl x (by simp [hx])⟩
    exact key _ fun _ h=>h
end
section
variable {S:Sch} {P:List Int} (h:OrdOk S P) {D:Int→List Int} (hD:∀ w,∀ a∈D w,∃ r∈S.rels,w∈r.2∧a∈r.2)
include h hD
theorem px {k:Nat} {v:Int} {c c':Int} (hc:c∈al P v) (hc':c'∈al P v) (hne:c≠c'):∀ w∈(a7 P k c).vs,∀ a∈D w,a∉(a7 P k c').vs:=by
 intro w hw a ha ha2
 have hP:=h.dP
 obtain ⟨n,hn,rfl,hp⟩:=aX.1 hc
 obtain ⟨n',hn',rfl,hp'⟩:=aX.1 hc'
 obtain ⟨m,hm,rfl,hu⟩:=gR hP k n hn w hw
 obtain ⟨m',hm',rfl,hu'⟩:=gR hP k n' hn' a ha2
 obtain ⟨r,hr,h1,h2⟩:=hD _ _ ha
 have hs:P.getD n 0=P.getD n' 0:=by rw [hp,hp']
 have up:∀ {x y z:Nat},z<P.length→(x:Int)∈(y:Int)::bp P y→(y:Int)∈(z:Int)::bp P z→(x:Int)∈(z:Int)::bp P z:=by
  intro x y z hz h3 h4
  rcases List.mem_cons.1 h4 with e | h4
  ·have:y=z:=by omega
   subst this;exact h3
  ·rcases List.mem_cons.1 h3 with e | h3
   ·have:x=y:=by omega
    subst this;exact List.mem_cons_of_mem _ h4
   ·exact List.mem_cons_of_mem _ (fH hP hz h3 h4)
 have fin:n=n':=by
  rcases iU (h.rt r hr) h1 h2 with e | e | e
  ·have:m=m':=by omega
   subst this
   exact yw hP hm hu hu' hs
  ·exact yw hP hm' (up hm' hu (List.mem_cons_of_mem _ e)) hu' hs
  ·exact yw hP hm hu (up hm hu' (List.mem_cons_of_mem _ e)) hs
 exact hne (by rw [fin])
theorem oe {k:Nat} {v:Int} (ht:∀ c∈al P v,(a7 P k c).Sep D fun _=>[]):∀ (l:List Int),l.Nodup→(∀ c∈l,c∈al P v)→SepL D (fun _=>[]) (l.map (a7 P k))
 | [],_,_=>trivial
 | c::l,hn,hl=>by
   rw [List.nodup_cons] at hn
   have hne:∀ c'∈l,c≠c':=fun c' hc' e=>hn.1 (by rw [e];exact hc')
   rw [List.map_cons,SepL,dm,List.flatMap_map]
   refine ⟨ht c (hl c (by simp)),oe ht l hn.2 fun x hx=>hl x (by simp [hx]),fun w hw=>⟨fun a ha ha2=>?_,fun a ha=>absurd ha (by simp)⟩,fun w hw=>⟨fun a ha ha2=>?_,fun a ha=>absurd ha (by simp)⟩⟩
   ·obtain ⟨c',hc',ha2⟩:=List.mem_flatMap.1 ha2
    exact px h hD (hl c (by simp)) (hl c' (by simp [hc'])) (hne c' hc') w hw a ha ha2
   ·obtain ⟨c',hc',hw⟩:=List.mem_flatMap.1 hw
    exact px h hD (hl c' (by simp [hc'])) (hl c (by simp)) (fun e=>hne c' hc' e.symm) w hw a ha ha2
theorem u3:∀ (k:Nat) (v:Int),(a7 P k v).Sep D fun _=>[]
 | 0,v=>by rw [a7,Tr.Sep];exact ⟨fun _ ha=>absurd ha (by simp),trivial⟩
 | k+1,v=>by
   rw [a7,Tr.Sep]
   exact ⟨fun _ ha=>absurd ha (by simp),oe h hD (fun c _=>u3 k c) _ (kD P v) fun _ hc=>hc⟩
theorem w5 (k:Nat) (v:Int):SepL D (fun _=>[]) ((al P v).map (a7 P k)):=oe h hD (fun c _=>u3 h hD k c) _ (kD P v) fun _ hc=>hc
end
end Jn
section
section
variable {C:Ctx} {n:Nat} {σ:St} {dst:Option Tmp} {ty:TypeId} {ts:Array TypeId} {pos:String} {after:Array Edge} {gd:Option (Nat×Bool)}
theorem ah {f:FuncId} {xs:Array Operand} {args:List V} {os:List (Nat×Ob)} {k':Nat} {r:V} {X:Nat→Option Ob} (ids:List Nat) (base:Nat) (hc:bN C.P f) (hf:FnO C.P f ids.length k' args os (fun v ob'=>v=r∧ob'=X)) (hxs:xs.toList.map (σ.ev n)=V.renL (cm ids base) args)
  (ha:V.allL (okR ids.length 0) args=true) (hos:os.map (·.1)=(List.range ids.length).map (big+ ·)) (hob:os.all (fun p=>p.2.all (okR ids.length 0))=true) (hobs:dD σ (cm ids base) os)
  (hnd:ids.Nodup) (hav:(nwO base k').all σ.av=true):
  XJ C n ⟨dst,.call { callee:= .value (.func f),args:=xs,argTypes:=ts },ty,pos,after,gd⟩ σ ⟨r.ren (cm ids base),wrO ids base k' X,nwO base k'⟩:=
 dU ids base hc hxs ha hos hob hobs hnd hav hf (by rintro _ _ ⟨rfl,rfl⟩;rfl)
end
end
section
section
variable {C:Ctx} {n:Nat} {σ:St} {dst:Option Tmp} {ty t:TypeId} {pos:String} {after:Array Edge} {gd:Option (Nat×Bool)} {x:Operand}
theorem kn {e T:TypeId} {z:Value} {bytes id off k:Nat} {cs:List PV} (he:ElemIs C.P t e z 1 bytes) (h1:z.oneCell'=true) (hx:σ.ev n x= .tsl id off k) (ho:σ.ob id=some (.cells T cs)) (hle:off+k≤cs.length):
  XJ C n ⟨dst,.call { callee:= .builtin .clear,args:= #[x],argTypes:= #[t] },ty,pos,after,gd⟩ σ ⟨.pv (.tup []),[(id,some (.cells T (cs.take off)))],[]⟩:=by
 rintro a w Q ⟨m,R,hw⟩
 obtain ⟨b,N,hm,arr,hb,hN,hle',hr⟩:=hw.live ho
 have h:=hw.ev x
 rw [hx] at h
 simp only [Rel] at h
 obtain ⟨hav,A,c,hev,hA⟩:=h
 have hz:z.cells= #[z]:=by
  generalize z=u at h1
  cases u<;>simp [Value.oneCell'] at h1<;>rfl
 have hzr:∀ w,(zeroValue e).run C.P w= .ok z w:=fun w=>by
  have:=he.info
  cases hq:C.P.info? e with
  | none=>simp [hq] at this
  | some i=>simp [hq] at this;simp [zeroValue,typeInfo,hq,this.1]
 rcases Nat.eq_zero_or_pos k with h0 | hp
 ·subst h0
  have hrun:(execOp a.eval ⟨dst,.call { callee:= .builtin .clear,args:= #[x],argTypes:= #[t] },ty,pos,after,gd⟩).run C.P w= .ok (.value (.tuple #[])) w:=by
   cases A<;>simp [execOp,resolve,invoke,builtin,Builtin.clear_,hev,run_underlying he.u,Result.andThen]
  unfold Oper.wp
  rw [hrun]
  have hw':=hw.turn hm w rfl (fun _ _=>rfl) rfl rfl rfl (.cells T (cs.take off)) (fun hR=>⟨arr,hb,hN,by simp;omega,by
   have:=hr.take off
   rw [List.take_take] at this
   rw [List.length_take]
   exact this⟩)
  refine ⟨_,rfl,m,R,?_⟩
  rw [Iw]
  exact SW.put hw' dst (by simp only [Rel,RelP];exact ⟨[],rfl,RelPL.nil⟩)
 ·have hA':=hA hp b N hm
  subst hA'
  have hrep:(Builtin.zeroCells z.cells k).toList=List.replicate k z:=by
   rw [hz]
   simp [Builtin.zeroCells]
   apply List.ext_getElem
   ·simp
   ·intro i h1 h2
    simp [Nat.mod_one]
  have hst:=run_storeCells_at (P:=C.P) b off T (List.replicate k z) 0 arr w hb (by simp;omega) (fun v hv=>by rw [(List.mem_replicate.1 hv).2];exact h1)
  simp only [Nat.add_zero] at hst
  have hk0:k≠0:=by omega
  have hrun:(execOp a.eval ⟨dst,.call { callee:= .builtin .clear,args:= #[x],argTypes:= #[t] },ty,pos,after,gd⟩).run C.P w= .ok (.value (.tuple #[])) (w.setRow b (arr.toList.take off++List.replicate k z++arr.toList.drop (off+(List.replicate k z).length)).toArray):=by
   cases k with
   | zero=>omega
   | succ k=>simp [execOp,resolve,invoke,builtin,Builtin.clear_,hev,run_underlying he.u,hzr,hrep,hst,Result.andThen]
  unfold Oper.wp
  rw [hrun]
  have hw':=hw.store hm arr (arr.toList.take off++List.replicate k z++arr.toList.drop (off+(List.replicate k z).length)).toArray T hb (by simp;omega) (.cells T (cs.take off)) (fun w' hR hb'=>⟨_,hb',by simp;omega,by simp;omega,by
   have:=(hr.take off).mono hR
   rw [List.take_take] at this
   rw [List.length_take]
   have e:(arr.toList.take off++List.replicate k z++arr.toList.drop (off+(List.replicate k z).length)).toArray.toList.take (min off cs.length)=arr.toList.take (min off cs.length):=by
    show List.take _ (_++_++_)=_
    rw [List.append_assoc,List.take_append_of_le_length (by simp;omega),List.take_take]
    congr 1
    omega
   rw [e]
   exact this⟩)
  refine ⟨_,rfl,m,R,?_⟩
  rw [Iw]
  exact SW.put hw' dst (by simp only [Rel,RelP];exact ⟨[],rfl,RelPL.nil⟩)
theorem EI {e:TypeId} {id off k:Nat} (hu:C.P.underlying t=some (.slice e)) (hx:σ.ev n x= .tsl id off k):
  XJ C n ⟨dst,.call { callee:= .builtin .len,args:= #[x],argTypes:= #[t] },ty,pos,after,gd⟩ σ ⟨.pv (.int .i64 k),[],[]⟩:=
 .val fun a w m R hw=>by
  have h:=hw.ev x
  rw [hx] at h
  simp only [Rel] at h
  obtain ⟨hav,A,c,hev,hA⟩:=h
  exact ⟨.int .i64 k,by cases A<;>simp [execOp,resolve,invoke,builtin,Builtin.len_,hev,run_underlying hu,goInt,Result.andThen],by simp only [Rel,RelP]⟩
theorem eR {T e:TypeId} {s k id off:Nat} {kk:IntKind} {i:Int} {o:Ob} {y:Operand} (j:Nat) (hT:C.P.underlying T=some (.slice e)) (hs:b6 C.P e s) (hx:σ.ev n x= .tsl id off k) (ho:σ.ob id=some o) (hy:σ.ev n y= .pv (.int kk i)) (hi:i=(j:Int)) (hj:j<k) (hre:o.real=true:=by rfl):
  XJ C n ⟨dst,.indexAddr T x y,ty,pos,after,gd⟩ σ ⟨.ptr id (off+j*s),[],[]⟩:=
 .val fun a w m R hw=>by
  obtain ⟨b,N,hm,_⟩:=hw.live ho hre
  have hx':=hw.ev x
  rw [hx] at hx'
  simp only [Rel] at hx'
  obtain ⟨hav,A,c,he,hA⟩:=hx'
  have hA':=hA (by omega) b N hm
  subst hA'
  refine ⟨_,by simp only [execOp,he,hw.int hy,Sem.run_bind,gq hT hs hi hj,Result.andThen_ok];rfl,?_⟩
  simp only [Rel]
  exact ⟨hav,fun b' N' e=>by rw [hm] at e;cases e;rfl⟩
end
end
section
open Go.RowKit Mk Jn
structure JD where
 S:Sch
 T:List (List Rw)
 lp:PV
 pk:List PV
 pv:List PV
structure WD where
 ch:PV
 ke:PV
 ho:PV
 wa:PV
 g0:PV
 g1:PV
 g2:PV
 g3:PV
 g4:PV
 g5:PV
 g6:PV
 lf:PV
 wt:PV
structure JOk (J:JD):Prop where
 s:SJn J.S
 n:J.T.length=J.S.rels.length
 l:∀ l∈J.T,l.length≤1000
 v:∀ r (h:r<J.T.length) (h2:r<J.S.rels.length),∀ x∈J.T[r],x.v.length=J.S.rels[r].2.length
structure NowOk (n:Nat) (σ:Asg ByteArray) (now:List ByteArray):Prop where
 l:now.length=n
 e:∀ a (h:a<now.length) x,σ (a:Int)=some x→now[a]=x
 o:∀ a:Int,(∀ i:Nat,i<n→a≠(i:Int))→σ a=none
def stL (σ:Asg ByteArray) (n:Nat):List Bool:=(List.range n).map fun a:Nat=>(σ (a:Int)).isSome
theorem cK (σ:Asg ByteArray) (n:Nat):(stL σ n).length=n:=by simp [stL]
theorem DW {σ:Asg ByteArray} {n a:Nat} (h:a<n):(ay (stL σ n))[a*1]? =some (.bool (σ (a:Int)).isSome):=by simp [stL,h]
theorem kZ {σ:Asg ByteArray} {n a:Nat} (h:a<n) (x:ByteArray):(ay (stL σ n)).set (a*1) (.bool true)=ay (stL (put σ a x) n):=by
 apply List.ext_getElem
 ·simp [stL]
 ·intro i h1 h2
  simp only [List.length_set,List.length_map,stL,List.length_range] at h1
  simp only [stL,List.getElem_set,List.getElem_map,List.getElem_range,Nat.mul_one,put]
  by_cases e:a=i
  ·subst e;simp
  ·rw [if_neg e,if_neg (by omega)]
theorem qO {σ:Asg ByteArray} {n a:Nat} (h:a<n):(ay (stL σ n)).set (a*1) (.bool false)=ay (stL (gf σ a) n):=by
 apply List.ext_getElem
 ·simp [stL]
 ·intro i h1 h2
  simp only [List.length_set,List.length_map,stL,List.length_range] at h1
  simp only [stL,List.getElem_set,List.getElem_map,List.getElem_range,Nat.mul_one,gf]
  by_cases e:a=i
  ·subst e;simp
  ·rw [if_neg e,if_neg (by omega)]
theorem jS {l:List ByteArray} {a:Nat} (x:ByteArray):(aA l).set (a*1) (.str x)=aA (l.set a x):=by simp [List.map_set]
theorem NowOk.put {n:Nat} {σ:Asg ByteArray} {now:List ByteArray} (h:NowOk n σ now) {a:Nat} (ha:a<n) (x:ByteArray):NowOk n (put σ a x) (now.set a x):=by
 refine ⟨by simp [h.l],fun i hi y e=>?_,fun i hi=>?_⟩
 ·rw [List.getElem_set]
  by_cases ea:a=i
  ·subst ea;rw [cG] at e;cases e;simp
  ·rw [dZ _ _ (by omega)] at e
   rw [if_neg ea]
   exact h.e i (by simpa using hi) y e
 ·rw [dZ _ _ (hi a ha)];exact h.o i hi
theorem NowOk.un {n:Nat} {σ:Asg ByteArray} {now:List ByteArray} (h:NowOk n σ now) (a:Int):NowOk n (gf σ a) now:=by
 refine ⟨h.l,fun i hi y e=>?_,fun i hi=>?_⟩
 ·unfold gf at e
  split at e
  ·cases e
  ·exact h.e i hi y e
 ·unfold gf;split
  ·rfl
  ·exact h.o i hi
theorem cO {σ:Asg ByteArray} {a:Int} {x:ByteArray} (h:σ a=none):gf (put σ a x) a=σ:=by
 funext b
 unfold gf put
 split
 ·next e=>rw [e,h]
 ·rfl
abbrev sJ (x:Rw):PV:= .agg (eV x)
def cy (J:JD) (r:Nat):List Int:=(J.S.rels.getD r default).2
def dh (J:JD) (r:Nat):List Rw:=J.T.getD r []
def agP (σ:Asg ByteArray) (p:Int×ByteArray):Bool:=match σ p.1 with
 | none=>true
 | some x=>decide (x=p.2)
theorem oM {σ:Asg ByteArray} {a:Int} {y:ByteArray} (h:σ a=none):agP σ (a,y)=true:=by unfold agP;simp only [h]
theorem gW {σ:Asg ByteArray} {a:Int} {x y:ByteArray} (h:σ a=some x):agP σ (a,y)=decide (x=y):=by unfold agP;simp only [h]
theorem pq (A:List Int) (σ:Asg ByteArray) (v:List ByteArray):agr A σ v=(A.zip v).all (agP σ):=by
 unfold agr
 congr 1
 funext p
 unfold agP
 cases σ p.1 with
 | none=>rfl
 | some x=>simp
theorem Ha {a b:ByteArray} (h:(a.toList !=b.toList)=true):decide (a=b)=false:=decide_eq_false fun e=>by subst e;simp at h
theorem G6 {a b:ByteArray} (h:(a.toList !=b.toList)=false):decide (a=b)=true:=decide_eq_true (bytes_inj (by simpa using h))
theorem pZ {α:Type} {l:List α} {f:α→Bool} {k:Nat} (h:(l.take k).all f=false):l.all f=false:=by
 rw [List.all_eq_false] at*
 obtain ⟨x,hx,hf⟩:=h
 exact ⟨x,List.mem_of_mem_take hx,hf⟩
theorem jg {α:Type} (l:List α) (p:α→Bool):∃ i:Int,decide (i≥0)=l.any p∧((∀ k (h:k<l.length),p l[k]=true→(∀ j (h:j<l.length),j<k→p l[j]=false)→i=k)∧((∀ j (h:j<l.length),p l[j]=false)→i= -1)):=by
 by_cases hx:∃ k:Nat,∃ h:k<l.length,p l[k]=true∧∀ j (h:j<l.length),j<k→p l[j]=false
 ·obtain ⟨k,h,h1,h2⟩:=hx
  refine ⟨k,?_,fun k' h' a b=>?_,fun a=>?_⟩
  ·rw [List.any_eq_true.2 ⟨_,List.getElem_mem h,h1⟩];simp
  ·rcases Nat.lt_trichotomy k k' with c | c | c
   ·rw [b k h c] at h1;cases h1
   ·rw [c]
   ·rw [h2 k' h' c] at a;cases a
  ·rw [a k h] at h1;cases h1
 ·have hno:∀ k,∀ j (h:j<l.length),j<k→p l[j]=false:=by
   intro k
   induction k with
   | zero=>intro j _ h;omega
   | succ k ih=>
     intro j h hj
     rcases Nat.lt_succ_iff_lt_or_eq.1 hj with h1 | h1
     ·exact ih j h h1
     ·subst h1
      cases hp:p l[j] with
      | false=>rfl
      | true=>exact absurd ⟨j,h,hp,ih⟩ hx
  refine ⟨-1,?_,fun k h a _=>?_,fun _=>rfl⟩
  ·have:l.any p=false:=by
    rw [List.any_eq_false]
    intro x hx
    obtain ⟨j,h,rfl⟩:=List.mem_iff_getElem.1 hx
    rw [hno (j+1) j h (by omega)];decide
   rw [this];rfl
  ·rw [hno (k+1) k h (by omega)] at a;cases a
theorem cD {d:List (List Rw)} {r:Nat} (h:r<d.length):(dv d)[r*1]? =some (bL d[r]):=by simp [dv,h]
theorem dN {d:List (List Rw)} {r:Nat} (h:r<d.length):dv d≠[]:=fun e=>by have:=dH d;rw [e] at this;simp at this;omega
def RJ (J:JD):Rels ByteArray:=⟨J.S.rels.map (·.2),J.T.map fun l=>l.map (·.v)⟩
theorem qX (J:JD) (r:Nat):(RJ J).at r=cy J r:=by
 unfold Rels.at RJ cy
 simp only [List.getD_eq_getElem?_getD,List.getElem?_map]
 cases J.S.rels[r]? <;>rfl
theorem kF (J:JD) (r:Nat):(RJ J).rows r=(dh J r).map (·.v):=by
 unfold Rels.rows RJ dh
 simp only [List.getD_eq_getElem?_getD,List.getElem?_map]
 cases J.T[r]? <;>rfl
theorem oK (J:JD) (r:Nat) (σ:Asg ByteArray):bR (RJ J) r σ=(dh J r).any fun x=>agr (cy J r) σ x.v:=by
 unfold bR
 rw [kF,qX,List.any_map];rfl
theorem ix {l:List ByteArray} {a:Nat} (x:ByteArray):(aA l).set (a*1) (.str x)=aA (l.set a x):=jS x
theorem kR {α:Type} (l:List α) (p:α→Bool) (x:α):(l++[x]).filter (fun x=> !p x)=l.filter (fun x=> !p x)++if p x=true then [] else [x]:=by
 rw [List.filter_append]
 cases h:p x<;>simp [List.filter_cons,h]
def dS (J:JD) (rs:List Nat) (σ:Asg ByteArray) (a:Nat) (x:ByteArray):Bool:=rs.any fun r=> !(bR (RJ J) r (put σ a x))
def tst (now:List ByteArray) (a:Nat) (xs:List ByteArray):List ByteArray:=xs.foldl (fun z x=>z.set a x) now
theorem jJ {now l:List ByteArray} {a k:Nat} (h:k<l.length):(tst now a (l.take k)).set a l[k]=tst now a (l.take (k+1)):=by
 unfold tst;rw [List.take_succ_eq_append_getElem h,List.foldl_append];rfl
theorem NowOk.tried {n:Nat} {σ:Asg ByteArray} {now:List ByteArray} (h:NowOk n σ now) {a:Nat} (ha:a<n) (hσ:σ (a:Int)=none) (x:ByteArray):NowOk n σ (now.set a x):=by
 have:=(h.put ha x).un (a:Int)
 rwa [cO hσ] at this
theorem ki {n:Nat} {σ:Asg ByteArray} {now:List ByteArray} {a:Nat} (h:NowOk n σ now) (ha:a<n) (hσ:σ (a:Int)=none) (xs:List ByteArray):NowOk n σ (tst now a xs):=by
 unfold tst
 induction xs generalizing now with
 | nil=>exact h
 | cons x xs ih=>exact ih (h.tried ha hσ x)
theorem sH {α:Type} {l:List α} {p:α→Bool} {i:Int} (hi:decide (i≥0)=l.any p) (h1:∀ k (h:k<l.length),p l[k]=true→(∀ j (h:j<l.length),j<k→p l[j]=false)→i=k) (h2:(∀ j (h:j<l.length),p l[j]=false)→i= -1):
  (i= -1→∀ x∈l,p x=false)∧(¬ i= -1→∃ i0:Nat,i=(i0:Int)∧i0<l.length∧(l.take (i0+1)).filter (fun x=> !p x)=l.take i0):=by
 constructor
 ·intro e x hx
  rw [e] at hi
  have:l.any p=false:=by rw [← hi];decide
  rw [List.any_eq_false] at this
  have:=this x hx
  cases hp:p x with
  | false=>rfl
  | true=>exact absurd hp this
 ·intro e
  have hex:∃ k:Nat,∃ h:k<l.length,p l[k]=true∧∀ j (h:j<l.length),j<k→p l[j]=false:=by
   refine Classical.byContradiction fun hx=>e (h2 ?_)
   have hno:∀ k,∀ j (h:j<l.length),j<k→p l[j]=false:=by
    intro k
    induction k with
    | zero=>intro j _ h;omega
    | succ k ih=>
      intro j h hj
      rcases Nat.lt_succ_iff_lt_or_eq.1 hj with h1 | h1
      ·exact ih j h h1
      ·subst h1
       cases hp:p l[j] with
       | false=>rfl
       | true=>exact absurd ⟨j,h,hp,ih⟩ hx
   exact fun j h=>hno (j+1) j h (by omega)
  obtain ⟨k,h,ha,hb⟩:=hex
  refine ⟨k,h1 k h ha hb,h,?_⟩
  rw [List.take_succ_eq_append_getElem h,List.filter_append]
  have:(l.take k).filter (fun x=> !p x)=l.take k:=List.filter_eq_self.2 fun x hx=>by
   obtain ⟨j,hj,rfl⟩:=List.mem_iff_getElem.1 hx
   rw [List.length_take] at hj
   rw [List.getElem_take,hb j (by omega) (by omega)];rfl
  rw [this]
  simp [List.filter_cons,ha]
end
section
open Go.RowKit Mk Jn
abbrev oZ (S:Sch):Ob:= .mix 34 [.pv (.sl none S.attrs.length (cc S.attrs)),.pv (.sl none S.rels.length (bj S.rels)),.pv (.sl none S.feats.length (bm S.feats)),.pv (.int .i64 S.label)]
abbrev oX (S:Sch) (v l:V) (m:Nat):Ob:= .mix 127 [.pv (.sl none S.attrs.length (cc S.attrs)),.pv (.sl none S.rels.length (bj S.rels)),.pv (.sl none S.feats.length (bm S.feats)),.pv (.int .i64 S.label),v,l,.map m]
abbrev oX2 (J:JD) (m:Nat):Ob:=oX J.S (.pv (dbP J.T)) (.pv J.lp) m
abbrev oB (W:WD) (p a l b c:Nat):Ob:= .mix 155 [.ptr p 0,.pv W.ch,.pv W.ke,.pv W.ho,.pv W.wa,.pv W.g0,.pv W.g1,.pv W.g2,.pv W.g3,.pv W.g4,.pv W.lf,.pv W.wt,.pv .nilmap,.osl a 1 l,.osl b 1 l,.map c]
abbrev oN (W:WD) (p a l b c:Nat):Ob:= .mix 240 [.ptr p 0,.pv W.ch,.pv W.ke,.pv W.ho,.pv W.wa,.pv W.g0,.pv W.g1,.pv W.g2,.pv W.g3,.pv W.g4,.pv W.g5,.pv W.g6,.pv W.lf,.pv W.wt,.pv .nilmap,.osl a 1 l,.osl b 1 l,.map c]
end
section
open Go.RowKit Mk Jn
set_option maxHeartbeats 4000000
abbrev o6B (J:JD) (W:WD) (σ:Asg ByteArray) (now:List ByteArray) (mk mv:List PV):List (Nat×Ob):=[(big,oB W 1000004 1000001 J.S.attrs.length 1000002 1000003),(1000001,.cells 9 (aA now)),(1000002,.cells 4 (ay (stL σ J.S.attrs.length))),(1000003,.mp mk mv),(1000004,oX2 J 1000005),(1000005,.mp J.pk J.pv)]
theorem dV (J:JD) (hJ:JOk J) (W:WD) (σ:Asg ByteArray) (now:List ByteArray) (hn:NowOk J.S.attrs.length σ now) (mk mv:List PV) (r:Nat) (hr:r<J.S.rels.length) (x:Rw) (hx:x.v.length=J.S.rels[r].2.length):
  FnO Tryz.prog 102 6 0 [.ptr big 0,.pv (.int .i64 r),.pv (sJ x)] (o6B J W σ now mk mv) (fun v ob'=>v= .pv (.bool (agr J.S.rels[r].2 σ x.v))∧ob'=ar (o6B J W σ now mk mv)):=by
 refine FnO.of func102 rfl ntmps102 (by simp) fun m0 w0 F R0=>?_
 have hS:=hJ.s
 have hrne:=ew hr
 have hra:(bj J.S.rels)[r*2+1]? =some (ak J.S.rels[r].2):=by
  have h2:(((bj J.S.rels).drop (r*2)).take 2)[1]? =[PV.str J.S.rels[r].1,ak J.S.rels[r].2][1]? :=by rw [cW hr]
  simpa [List.getElem?_take,List.getElem?_drop] using h2
 have hrl:=hS.l _ (List.getElem_mem hr)
 have hrb:=hS.b _ (List.getElem_mem hr)
 have hSr:=hS.r
 have hnl:=hn.l
 rw [pq]
 generalize J.S.rels[r].2=A at*
 refine Z2 rfl rfl rfl ?_
 refine Gr rfl ?_
 iterate 9 refine A1 rfl ?_
 refine Rs 18 rfl rfl (ag r underlying31 Eu rfl rfl rfl hr hrne) ?_
 refine A1 rfl ?_
 refine Rs 20 rfl rfl (ai ⟨_,underlying22,rfl⟩ rfl hra) ?_
 refine Y2 rfl rfl ?_
 refine Gl rfl (st:=fun x_0:Nat=>mkS [(0,.ptr big 0),(5,.ptr 0 0),(20,.pv (ak A)),(21,.pv (.int .i64 A.length)),(22,.pv (.int .i64 x_0))] [(big,oB W 1000004 1000001 J.S.attrs.length 1000002 1000003),(0,.mix 49 [.pv (aI x.v),.pv (.int .i64 x.w)]),(1000001,.cells 9 (aA now)),(1000002,.cells 4 (ay (stL σ J.S.attrs.length))),(1000003,.mp mk mv),(1000004,oX2 J 1000005),(1000005,.mp J.pk J.pv)] 1)
  (I:=fun x_0=>x_0≤A.length∧((A.zip x.v).take x_0).all (agP σ)=true) (μ:=fun x_0=>A.length-x_0) (x0:=(0)) (Io (aS rfl) (aO rfl) rfl rfl) (⟨Nat.zero_le _,rfl⟩) ?_
 rintro j ⟨hj,hall⟩
 refine Z1 rfl rfl ?_
 refine Gp rfl rfl (fun hc23=>?_) (fun hc23=>?_)
 ·have hlj:j<A.length:=by omega
  have hzs:=eM hx hlj (agP σ)
  obtain ⟨a,haa⟩:=Int.eq_ofNat_of_zero_le (hrb _ (List.getElem_mem hlj)).1
  have hal:a<J.S.attrs.length:=by have:=(hrb _ (List.getElem_mem hlj)).2;omega
  have hpv:(aE A)[j*1]? =some (.int .i64 (a:Int)):=by rw [← haa];simp [hlj]
  have hpn:=aH hlj
  have hjv:j<x.v.length:=by omega
  have hsv:=aM hjv
  have hsn:=bc hjv
  have hset:=DW (σ:=σ) hal
  have hnow:=aM (l:=now) (k:=a) (by omega)
  have hsl:(ay (stL σ J.S.attrs.length)).length=J.S.attrs.length:=by rw [List.length_map,cK]
  have hnl2:(aA now).length=J.S.attrs.length:=by rw [List.length_map,hnl]
  rw [hall,haa,Bool.true_and] at hzs
  refine Il ?_
  refine Z2 rfl rfl rfl ?_
  refine Rs 26 rfl rfl (ai ⟨_,underlying3,rfl⟩ rfl hpv) ?_
  refine Y2 rfl rfl ?_
  by_cases hsg:(σ (a:Int)).isSome=true
  ·have hval:=Option.some_get hsg
   have hnv:now[a]'(by omega)=(σ (a:Int)).get hsg:=hn.e a (by omega) _ hval.symm
   generalize hgz:(σ (a:Int)).get hsg=z at*
   rw [gW hval.symm] at hzs
   rw [hsg] at hset
   rw [hnv] at hnow
   refine Ge rfl follows [0,1,2,3,4,5,6,7,8,9,10,11,12,13,14,15,16,17,18,19,20,21] (by kernel_rfl) ?_
   iterate 6 refine D1 rfl rfl ?_
   refine Ds 33 [_] rfl rfl rfl (fun τ h=>aC ⟨_,underlying4,rfl⟩ (Ee h 0 rfl rfl) (Eo h 0 rfl rfl) hset) rfl (by kernel_rfl) ?_
   iterate 7 refine D1 rfl rfl ?_
   refine Dg 41 [_] rfl rfl rfl rfl (fun τ h=>aC ⟨_,underlying9,rfl⟩ (Ee h 0 rfl rfl) (Eo h 0 rfl rfl) hnow) rfl (by kernel_rfl) ?_
   iterate 4 refine D1 rfl rfl ?_
   refine Dg 46 [] rfl rfl rfl rfl (fun τ h=>ai ⟨_,underlying9,rfl⟩ (Ee h 0 rfl rfl) hsv) rfl (by kernel_rfl) ?_
   iterate 2 refine D1 rfl rfl ?_
   refine ⟨by kernel_rfl,?_⟩
   refine Gc rfl rfl (fun hc48=>?_) (fun hc48=>?_)
   ·refine Z1 rfl rfl ?_
    refine Gt rfl ?_
    exact ⟨[(6,.pv (.bool false))],o6B J W σ now mk mv,[.pv (.bool false)],Io (aS rfl) (aO rfl) rfl rfl,rfl,rfl,rfl,congrArg (fun b=>V.pv (.bool b)) (pZ (hzs.trans (Ha hc48))).symm,rfl⟩
   ·refine Il ?_
    refine Z2 rfl rfl rfl ?_
    exact ⟨(j+1),Io (aS rfl) (aO rfl) rfl rfl,⟨by omega,hzs.trans (G6 hc48)⟩,by omega⟩
  ·have hno:σ (a:Int)=none:=by cases h:σ (a:Int) with | none=>rfl | some x=>rw [h] at hsg;exact absurd rfl hsg
   rw [oM hno] at hzs
   rw [eq_false_of_ne_true hsg] at hset
   refine Ge rfl follows [0,1,2,3,4,5,6,7,8,9,10,11,12,13,14,15,16,17,18,19,20,21] (by kernel_rfl) ?_
   iterate 6 refine D1 rfl rfl ?_
   refine Ds 33 [_] rfl rfl rfl (fun τ h=>aC ⟨_,underlying4,rfl⟩ (Ee h 0 rfl rfl) (Eo h 0 rfl rfl) hset) rfl (by kernel_rfl) ?_
   iterate 15 refine D1 rfl rfl ?_
   refine ⟨by kernel_rfl,?_⟩
   refine Gc rfl rfl (fun hc48=>absurd hc48 (by simp)) (fun hc48=>?_)
   refine Il ?_
   refine Z2 rfl rfl rfl ?_
   exact ⟨(j+1),Io (aS rfl) (aO rfl) rfl rfl,⟨by omega,hzs⟩,by omega⟩
 ·rw [List.take_of_length_le (by simp;omega)] at hall
  refine Gx rfl ?_
  refine Z1 rfl rfl ?_
  refine Gt rfl ?_
  exact ⟨[(6,.pv (.bool true))],o6B J W σ now mk mv,[.pv (.bool true)],Io (aS rfl) (aO rfl) rfl rfl,rfl,rfl,rfl,congrArg (fun b=>V.pv (.bool b)) hall.symm,rfl⟩
end
section
open Go.RowKit Mk Jn
set_option maxHeartbeats 4000000
abbrev o7B (J:JD) (W:WD) (σ:Asg ByteArray) (now:List ByteArray) (mk mv:List PV):List (Nat×Ob):=[(big,.mix 139 [.ptr 1000001 0]),(1000001,oB W 1000005 1000002 J.S.attrs.length 1000003 1000004),(1000002,.cells 9 (aA now)),(1000003,.cells 4 (ay (stL σ J.S.attrs.length))),(1000004,.mp mk mv),(1000005,oX2 J 1000006),(1000006,.mp J.pk J.pv)]
theorem sZ (J:JD) (hJ:JOk J) (W:WD) (σ:Asg ByteArray) (now:List ByteArray) (hn:NowOk J.S.attrs.length σ now) (mk mv:List PV) (r:Nat) (hr:r<J.S.rels.length) (x:Rw) (hx:x.v.length=J.S.rels[r].2.length):
  FnO Tryz.prog 196 7 0 [.pv (sJ x),.ptr big 0,.pv (.rp [.int .i64 r] 0)] (o7B J W σ now mk mv) (fun v ob'=>v= .pv (.bool (agr J.S.rels[r].2 σ x.v))∧ob'=ar (o7B J W σ now mk mv)):=by
 refine FnO.of func196 rfl ntmps196 (by simp) fun m0 w0 F R0=>?_
 have hgo:=dV J hJ W σ now hn mk mv r hr x hx
 generalize agr J.S.rels[r].2 σ x.v=b at*
 refine Z2 rfl rfl rfl ?_
 refine Gr rfl ?_
 first | refine A1 rfl ?_ | refine A2 rfl (by assumption) ?_
 first | refine A1 rfl ?_ | refine A2 rfl (by assumption) ?_
 refine A1 rfl ?_
 refine Rs 8 rfl rfl (ah [1000001,1000002,1000003,1000004,1000005,1000006] 1 call102 hgo rfl rfl rfl rfl ⟨rfl,rfl,rfl,rfl,rfl,rfl,trivial⟩ (by decide) rfl) ?_
 refine A1 rfl ?_
 refine Gt rfl ?_
 exact ⟨[(4,.pv (.bool b))],o7B J W σ now mk mv,[.pv (.bool b)],Io (aS rfl) (aO (by kernel_rfl)) rfl rfl,rfl,rfl,rfl,rfl,rfl⟩
abbrev sm1B (r:Nat):V:= .fn (.func 196) [] [.ptr big 0,.pv (.rp [.int .i64 r] 0)]
theorem pP (J:JD) (hJ:JOk J) (W:WD) (σ:Asg ByteArray) (now:List ByteArray) (hn:NowOk J.S.attrs.length σ now) (mk mv:List PV) (r:Nat) (hr:r<J.S.rels.length) (l:List Rw) (hl:l.length≤1000) (hx:∀ x∈l,x.v.length=J.S.rels[r].2.length):
  ∃ i:Int,decide (i≥0)=l.any (fun x=>agr J.S.rels[r].2 σ x.v)∧FnO Tryz.prog 109 7 0 [.pv (bL l),sm1B r] (o7B J W σ now mk mv) (fun v ob'=>v= .pv (.int .i64 i)∧ob'=ar (o7B J W σ now mk mv)):=by
 have hgo:∀ k (h:k<l.length),FnO Tryz.prog 196 7 0 [.pv (sJ l[k]),.ptr big 0,.pv (.rp [.int .i64 r] 0)] (o7B J W σ now mk mv) (fun v ob'=>v= .pv (.bool (agr J.S.rels[r].2 σ l[k].v))∧ob'=ar (o7B J W σ now mk mv)):=fun k h=>sZ J hJ W σ now hn mk mv r hr l[k] (hx _ (List.getElem_mem h))
 have hi:∃ i:Int,decide (i≥0)=l.any (fun x=>agr J.S.rels[r].2 σ x.v)∧((∀ k (h:k<l.length),agr J.S.rels[r].2 σ l[k].v=true→(∀ j (h:j<l.length),j<k→agr J.S.rels[r].2 σ l[j].v=false)→i=k)∧((∀ j (h:j<l.length),agr J.S.rels[r].2 σ l[j].v=false)→i= -1)):=jg l fun x=>agr J.S.rels[r].2 σ x.v
 obtain ⟨i,hi,hi1,hi2⟩:=hi
 refine ⟨i,hi,?_⟩
 refine FnO.of func109 rfl ntmps109 (by simp) fun m0 w0 F R0=>?_
 clear hi hJ hn hx
 generalize J.S.rels[r].2=A at*
 refine Z1 rfl rfl ?_
 refine Z3 rfl rfl rfl rfl ?_
 refine Gl rfl (st:=fun x_0:Nat=>mkS [(0,.pv (bL l)),(1,sm1B r),(7,.pv (.int .i64 l.length)),(8,.pv (.int .i64 x_0))] [(big,.mix 139 [.ptr 1000001 0]),(1000001,oB W 1000005 1000002 J.S.attrs.length 1000003 1000004),(1000002,.cells 9 (aA now)),(1000003,.cells 4 (ay (stL σ J.S.attrs.length))),(1000004,.mp mk mv),(1000005,oX2 J 1000006),(1000006,.mp J.pk J.pv)] 0)
  (I:=fun x_0=>x_0≤l.length∧∀ j (h:j<l.length),j<x_0→agr A σ l[j].v=false) (μ:=fun x_0=>l.length-x_0) (x0:=(0)) (Io (aS rfl) (aO (by kernel_rfl)) rfl rfl) (⟨Nat.zero_le _,fun _ _ h=>absurd h (by omega)⟩) ?_
 rintro k ⟨hk,hno⟩
 refine Z1 rfl rfl ?_
 refine Gp rfl rfl (fun hc9=>?_) (fun hc9=>?_)
 ·have hlt:k<l.length:=by omega
  have hrw:=aN hlt
  have hrn:=aW hlt
  have hgk:=hgo k hlt
  have hik:=hi1 k hlt
  generalize hbk:agr A σ l[k].v=b at*
  refine Il ?_
  refine Z2 rfl rfl rfl ?_
  refine Z4 rfl rfl rfl rfl rfl ?_
  first | refine A3 rfl (by assumption) ?_ | refine A1 rfl ?_
  refine Rs 16 rfl rfl (bJ [big,1000001,1000002,1000003,1000004,1000005,1000006] 0 call196 hgk rfl rfl rfl rfl rfl rfl ⟨rfl,rfl,rfl,rfl,rfl,rfl,rfl,trivial⟩ (by decide) rfl) ?_
  refine Gc rfl rfl (fun hc16=>?_) (fun hc16=>?_)
  ·refine Z2 rfl rfl rfl ?_
   refine Gt rfl ?_
   exact ⟨[(4,.pv (.int .i64 k))],o7B J W σ now mk mv,[.pv (.int .i64 k)],Io (aS rfl) (aO (by kernel_rfl)) rfl rfl,rfl,rfl,rfl,by rw [hik hc16 hno];rfl,rfl⟩
  ·refine Il ?_
   refine Z2 rfl rfl rfl ?_
   exact ⟨(k+1),Io (aS rfl) (aO (by kernel_rfl)) rfl rfl,⟨by omega,fun j h hj=>by rcases Nat.lt_succ_iff_lt_or_eq.1 hj with h1 | h1;exact hno j h h1;subst h1;exact hbk.trans hc16⟩,by omega⟩
 ·have hm:=hi2 fun j h=>hno j h (by omega)
  refine Gx rfl ?_
  refine Z1 rfl rfl ?_
  refine Gt rfl ?_
  exact ⟨[(4,.pv (.int .i64 (-1)))],o7B J W σ now mk mv,[.pv (.int .i64 (-1))],Io (aS rfl) (aO (by kernel_rfl)) rfl rfl,rfl,rfl,rfl,by rw [hm];rfl,rfl⟩
theorem pE (J:JD) (hJ:JOk J) (W:WD) (σ:Asg ByteArray) (now:List ByteArray) (hn:NowOk J.S.attrs.length σ now) (mk mv:List PV) (r:Nat) (hr:r<J.S.rels.length) (l:List Rw) (hl:l.length≤1000) (hx:∀ x∈l,x.v.length=J.S.rels[r].2.length):
  FnO Tryz.prog 66 7 0 [.pv (bL l),sm1B r] (o7B J W σ now mk mv) (fun v ob'=>v= .pv (.bool (l.any fun x=>agr J.S.rels[r].2 σ x.v))∧ob'=ar (o7B J W σ now mk mv)):=by
 obtain ⟨i,hi,hgo⟩:=pP J hJ W σ now hn mk mv r hr l hl hx
 refine FnO.of func66 rfl ntmps66 (by simp) fun m0 w0 F R0=>?_
 rw [← hi]
 clear hi hJ hn hx
 refine Z1 rfl rfl ?_
 refine Z2 rfl rfl rfl ?_
 refine Rs 7 rfl rfl (ah [big,1000001,1000002,1000003,1000004,1000005,1000006] 0 call109 hgo rfl rfl rfl rfl ⟨rfl,rfl,rfl,rfl,rfl,rfl,rfl,trivial⟩ (by decide) rfl) ?_
 refine Y2 rfl rfl ?_
 refine Gt rfl ?_
 exact ⟨[(4,.pv (.bool (decide (i≥0))))],o7B J W σ now mk mv,[.pv (.bool (decide (i≥0)))],Io (aS rfl) (aO (by kernel_rfl)) rfl rfl,rfl,rfl,rfl,rfl,rfl⟩
theorem wb (J:JD) (hJ:JOk J) (W:WD) (σ:Asg ByteArray) (now:List ByteArray) (hn:NowOk J.S.attrs.length σ now) (mk mv:List PV) (r:Nat) (hr:r<J.S.rels.length):
  FnO Tryz.prog 154 6 0 [.ptr big 0,.pv (.int .i64 r)] (o6B J W σ now mk mv) (fun v ob'=>v= .pv (.bool ((dh J r).any fun x=>agr (cy J r) σ x.v))∧ob'=ar (o6B J W σ now mk mv)):=by
 refine FnO.of func154 rfl ntmps154 (by simp) fun m0 w0 F R0=>?_
 have hrT:r<J.T.length:=by rw [hJ.n];exact hr
 have hgo:=pE J hJ W σ now hn mk mv r hr J.T[r] (hJ.l _ (List.getElem_mem hrT)) (hJ.v r hrT hr)
 rw [show dh J r=J.T[r] by simp [dh,List.getD,hrT],show cy J r=J.S.rels[r].2 by simp [cy,List.getD,hr]]
 have htr:=cD hrT
 have htn:=dN hrT
 have hTl:J.T.length≤1000:=by rw [hJ.n];exact hJ.s.r
 generalize J.S.rels[r].2=A at*
 generalize J.T[r]=l at*
 refine Z3 rfl rfl rfl rfl ?_
 refine Im (St.fS 1 rfl rfl) ?_
 refine Ge rfl follows [0,1,2,3,4,5,6,7,8,9,10,11,12] (by kernel_rfl) ?_
 iterate 8 refine D1 rfl rfl ?_
 refine Ds 13 [] rfl rfl rfl (fun τ h=>ag r underlying35 qk (Ee h 0 rfl rfl) (Ee h 1 rfl rfl) rfl hrT htn) rfl (by kernel_rfl) ?_
 refine Ds 14 [] rfl rfl rfl (fun τ h=>ai ⟨_,underlying38,rfl⟩ (Ee h 0 rfl rfl) htr) rfl (by kernel_rfl) ?_
 refine D1 rfl rfl ?_
 refine Ds 16 [0,big,1000001,1000002,1000003,1000004,1000005] rfl rfl rfl (fun τ h=>ah [0,big,1000001,1000002,1000003,1000004,1000005] 2 call66 hgo (h.args.trans rfl) rfl rfl rfl ⟨(Eo h 0 rfl rfl),(Eo h 1 rfl rfl),(Eo h 2 rfl rfl),(Eo h 3 rfl rfl),(Eo h 4 rfl rfl),(Eo h 5 rfl rfl),(Eo h 6 rfl rfl),trivial⟩ (by decide) rfl) rfl (by kernel_rfl) ?_
 refine D1 rfl rfl ?_
 refine ⟨by kernel_rfl,?_⟩
 refine Gt rfl ?_
 exact ⟨[(4,.pv (.bool (l.any fun x=>agr A σ x.v)))],o6B J W σ now mk mv,[.pv (.bool (l.any fun x=>agr A σ x.v))],Io (aS rfl) (aO (by kernel_rfl)) rfl rfl,rfl,rfl,rfl,rfl,rfl⟩
end
section
open Go.RowKit Mk Jn
set_option maxHeartbeats 4000000
theorem rz (J:JD) (hJ:JOk J) (W:WD) (σ:Asg ByteArray) (now:List ByteArray) (hn:NowOk J.S.attrs.length σ now) (mk mv:List PV) (r:Nat) (hr:r<J.S.rels.length):
  FnO Tryz.prog 153 7 0 [.pv (.int .i64 r),.ptr big 0] (o7B J W σ now mk mv) (fun v ob'=>v= .pv (.bool !(bR (RJ J) r σ))∧ob'=ar (o7B J W σ now mk mv)):=by
 refine FnO.of func153 rfl ntmps153 (by simp) fun m0 w0 F R0=>?_
 have hgo:=wb J hJ W σ now hn mk mv r hr
 rw [← oK] at hgo
 generalize bR (RJ J) r σ=b at*
 refine Z1 rfl rfl ?_
 refine Gr rfl ?_
 first | refine A1 rfl ?_ | refine A2 rfl (by assumption) ?_
 refine A1 rfl ?_
 refine Rs 6 rfl rfl (ah [1000001,1000002,1000003,1000004,1000005,1000006] 0 call154 hgo rfl rfl rfl rfl ⟨rfl,rfl,rfl,rfl,rfl,rfl,trivial⟩ (by decide) rfl) ?_
 refine Y2 rfl rfl ?_
 refine Gt rfl ?_
 exact ⟨[(3,.pv (.bool !b))],o7B J W σ now mk mv,[.pv (.bool !b)],Io (aS rfl) (aO (by kernel_rfl)) rfl rfl,rfl,rfl,rfl,rfl,rfl⟩
abbrev c11B:V:= .fn (.func 153) [] [.ptr big 0]
abbrev bK (rs:List Nat):List Int:=rs.map fun r:Nat=>(r:Int)
theorem qf (J:JD) (hJ:JOk J) (W:WD) (σ:Asg ByteArray) (now:List ByteArray) (hn:NowOk J.S.attrs.length σ now) (mk mv:List PV) (rs:List Nat) (hl:rs.length≤1000) (hr:∀ r∈rs,r<J.S.rels.length):
  FnO Tryz.prog 152 7 0 [.pv (ak (bK rs)),c11B] (o7B J W σ now mk mv) (fun v ob'=>v= .pv (.bool (rs.any fun r=> !(bR (RJ J) r σ)))∧ob'=ar (o7B J W σ now mk mv)):=by
 have hgo:∀ k (h:k<rs.length),FnO Tryz.prog 153 7 0 [.pv (.int .i64 rs[k]),.ptr big 0] (o7B J W σ now mk mv) (fun v ob'=>v= .pv (.bool !(bR (RJ J) rs[k] σ))∧ob'=ar (o7B J W σ now mk mv)):=fun k h=>rz J hJ W σ now hn mk mv rs[k] (hr _ (List.getElem_mem h))
 obtain ⟨i,hi,hi1,hi2⟩:=jg rs fun r=> !(bR (RJ J) r σ)
 clear hJ hn hr
 have hidx:FnO Tryz.prog 195 7 0 [.pv (ak (bK rs)),c11B] (o7B J W σ now mk mv) (fun v ob'=>v= .pv (.int .i64 i)∧ob'=ar (o7B J W σ now mk mv)):=by
  refine FnO.of func195 rfl ntmps195 (by simp) fun m0 w0 F R0=>?_
  clear hi
  have hnl:(bK rs).length=rs.length:=by simp [bK]
  refine Z1 rfl rfl ?_
  refine Z3 rfl rfl rfl rfl ?_
  refine Gl rfl (st:=fun x_0:Nat=>mkS [(0,.pv (ak (bK rs))),(1,c11B),(7,.pv (.int .i64 (bK rs).length)),(8,.pv (.int .i64 x_0))] [(big,.mix 139 [.ptr 1000001 0]),(1000001,oB W 1000005 1000002 J.S.attrs.length 1000003 1000004),(1000002,.cells 9 (aA now)),(1000003,.cells 4 (ay (stL σ J.S.attrs.length))),(1000004,.mp mk mv),(1000005,oX2 J 1000006),(1000006,.mp J.pk J.pv)] 0)
   (I:=fun x_0=>x_0≤rs.length∧∀ j (h:j<rs.length),j<x_0→(!(bR (RJ J) rs[j] σ))=false) (μ:=fun x_0=>rs.length-x_0) (x0:=(0)) (Io (aS rfl) (aO (by kernel_rfl)) rfl rfl) (⟨Nat.zero_le _,fun _ _ h=>absurd h (by omega)⟩) ?_
  rintro k ⟨hk,hno⟩
  refine Z1 rfl rfl ?_
  refine Gp rfl rfl (fun hc9=>?_) (fun hc9=>?_)
  ·have hlt:k<rs.length:=by omega
   have hpv:(aE (bK rs))[k*1]? =some (.int .i64 ((rs[k]:Nat):Int)):=by simp [hlt]
   have hpn:=aH (l:=bK rs) (k:=k) (by omega)
   have hgk:=hgo k hlt
   have hik:=hi1 k hlt
   generalize hbk:bR (RJ J) rs[k] σ=b at*
   refine Il ?_
   refine Z2 rfl rfl rfl ?_
   refine Z4 rfl rfl rfl rfl rfl ?_
   refine Rs 15 rfl rfl (ai ⟨_,underlying3,rfl⟩ rfl hpv) ?_
   refine Rs 16 rfl rfl (bJ [big,1000001,1000002,1000003,1000004,1000005,1000006] 0 call153 hgk rfl rfl rfl rfl rfl rfl ⟨rfl,rfl,rfl,rfl,rfl,rfl,rfl,trivial⟩ (by decide) rfl) ?_
   refine Gc rfl rfl (fun hc16=>?_) (fun hc16=>?_)
   ·refine Z2 rfl rfl rfl ?_
    refine Gt rfl ?_
    exact ⟨[(4,.pv (.int .i64 k))],o7B J W σ now mk mv,[.pv (.int .i64 k)],Io (aS rfl) (aO (by kernel_rfl)) rfl rfl,rfl,rfl,rfl,by rw [hik hc16 hno];rfl,rfl⟩
   ·refine Il ?_
    refine Z2 rfl rfl rfl ?_
    exact ⟨(k+1),Io (aS rfl) (aO (by kernel_rfl)) rfl rfl,⟨by omega,fun j h hj=>by rcases Nat.lt_succ_iff_lt_or_eq.1 hj with h1 | h1;exact hno j h h1;subst h1;rw [hbk];exact hc16⟩,by omega⟩
  ·have hm:=hi2 fun j h=>hno j h (by omega)
   refine Gx rfl ?_
   refine Z1 rfl rfl ?_
   refine Gt rfl ?_
   exact ⟨[(4,.pv (.int .i64 (-1)))],o7B J W σ now mk mv,[.pv (.int .i64 (-1))],Io (aS rfl) (aO (by kernel_rfl)) rfl rfl,rfl,rfl,rfl,by rw [hm];rfl,rfl⟩
 refine FnO.of func152 rfl ntmps152 (by simp) fun m0 w0 F R0=>?_
 rw [← hi]
 clear hi hgo hi1 hi2
 refine Z1 rfl rfl ?_
 refine Z2 rfl rfl rfl ?_
 refine Rs 7 rfl rfl (ah [big,1000001,1000002,1000003,1000004,1000005,1000006] 0 call195 hidx rfl rfl rfl rfl ⟨rfl,rfl,rfl,rfl,rfl,rfl,rfl,trivial⟩ (by decide) rfl) ?_
 refine Y2 rfl rfl ?_
 refine Gt rfl ?_
 exact ⟨[(4,.pv (.bool (decide (i≥0))))],o7B J W σ now mk mv,[.pv (.bool (decide (i≥0)))],Io (aS rfl) (aO (by kernel_rfl)) rfl rfl,rfl,rfl,rfl,rfl,rfl⟩
theorem mE (J:JD) (hJ:JOk J) (W:WD) (σ:Asg ByteArray) (now:List ByteArray) (hn:NowOk J.S.attrs.length σ now) (mk mv:List PV) (a:Nat) (ha:a<J.S.attrs.length) (hσ:σ (a:Int)=none) (rs:List Nat) (hl:rs.length≤1000) (hr:∀ r∈rs,r<J.S.rels.length) (x:ByteArray):
  FnO Tryz.prog 151 7 0 [.pv (.str x),.ptr big 0,.pv (.rp [.int .i64 a] 0),.pv (.rp [ak (bK rs)] 0)] (o7B J W σ now mk mv) (fun v ob'=>v= .pv (.bool (rs.any fun r=> !(bR (RJ J) r (put σ a x))))∧ob'=ar (o7B J W σ (now.set a x) mk mv)):=by
 refine FnO.of func151 rfl ntmps151 (by simp) fun m0 w0 F R0=>?_
 have hgo:=qf J hJ W (put σ a x) (now.set a x) (hn.put ha x) mk mv rs hl hr
 generalize (rs.any fun r=> !(bR (RJ J) r (put σ a x)))=b at*
 have hnl:(aA now).length=J.S.attrs.length:=by rw [List.length_map,hn.l]
 have hsl:(ay (stL σ J.S.attrs.length)).length=J.S.attrs.length:=by rw [List.length_map,cK]
 have hsl2:(ay (stL (put σ a x) J.S.attrs.length)).length=J.S.attrs.length:=by rw [List.length_map,cK]
 have h1:=ix (l:=now) (a:=a) x
 have h2:=kZ (σ:=σ) ha x
 have h3:(ay (stL (put σ a x) J.S.attrs.length)).set (a*1) (.bool false)=ay (stL σ J.S.attrs.length):=by rw [qO ha,cO hσ]
 clear hJ hn hr
 refine Z1 rfl rfl ?_
 refine Ge rfl follows [0,1,2,3,4,5,6,7,8,9,10,11,12,13,14] (by kernel_rfl) ?_
 first | refine D1 rfl rfl ?_ | refine D2 rfl rfl (by assumption) ?_
 iterate 3 refine D1 rfl rfl ?_
 first | refine D1 rfl rfl ?_ | refine D2 rfl rfl (by assumption) ?_
 first | refine D1 rfl rfl ?_ | refine D2 rfl rfl (by assumption) ?_
 iterate 3 refine D1 rfl rfl ?_
 first | refine D1 rfl rfl ?_ | refine D2 rfl rfl (by assumption) ?_
 refine D1 rfl rfl ?_
 refine Ds 18 [_] rfl rfl rfl (fun τ h=>aa a underlying47 sz9 (Ee h 0 rfl rfl) (Eo h 0 rfl rfl) (Ee h 1 rfl rfl) rfl (by omega)) rfl (by kernel_rfl) ?_
 refine DL.step (d:=none) [_] rfl rfl rfl (fun τ h=>aF sz9 (Ee h 0 rfl rfl) (Eo h 0 rfl rfl) (Ee h 1 rfl rfl) rfl (by omega)) rfl (by kernel_rfl) ?_
 refine Ds 19 [_] rfl rfl rfl (fun τ h=>aa a underlying115 sz4 (Ee h 0 rfl rfl) (Eo h 0 rfl rfl) (Ee h 1 rfl rfl) rfl (by omega)) rfl (by kernel_rfl) ?_
 refine DL.step (d:=none) [_] rfl rfl rfl (fun τ h=>aF sz4 (Ee h 0 rfl rfl) (Eo h 0 rfl rfl) (Ee h 1 rfl rfl) rfl (by omega)) rfl (by kernel_rfl) ?_
 refine ⟨by kernel_rfl,?_⟩
 refine Im (Io (l:=[(1,.ptr big 0),(2,.pv (.rp [.int .i64 a] 0)),(3,.pv (.rp [ak (bK rs)] 0))]) (os:=o7B J W (put σ a x) (now.set a x) mk mv) (k:=0) (aS rfl) ⟨rfl,rfl,congrArg (fun c=>some (Ob.cells 9 c)) h1,congrArg (fun c=>some (Ob.cells 4 c)) h2,rfl,rfl,rfl,trivial⟩ rfl rfl) ?_
 refine Gr rfl ?_
 first | refine A1 rfl ?_ | refine A2 rfl (by assumption) ?_
 refine A1 rfl ?_
 refine Rs 22 rfl rfl (ah [big,1000001,1000002,1000003,1000004,1000005,1000006] 0 call152 hgo rfl rfl rfl rfl ⟨rfl,rfl,rfl,rfl,rfl,rfl,rfl,trivial⟩ (by decide) rfl) ?_
 refine A1 rfl ?_
 refine Im (Io (l:=[(1,.ptr big 0),(2,.pv (.rp [.int .i64 a] 0)),(6,.pv (.bool b))]) (os:=o7B J W (put σ a x) (now.set a x) mk mv) (k:=0) (aS rfl) (aO (by kernel_rfl)) rfl rfl) ?_
 refine Ge rfl follows [0,1,2,3,4,5,6] (by kernel_rfl) ?_
 first | refine D1 rfl rfl ?_ | refine D2 rfl rfl (by assumption) ?_
 iterate 3 refine D1 rfl rfl ?_
 first | refine D1 rfl rfl ?_ | refine D2 rfl rfl (by assumption) ?_
 refine Ds 28 [_] rfl rfl rfl (fun τ h=>aa a underlying115 sz4 (Ee h 0 rfl rfl) (Eo h 0 rfl rfl) (Ee h 1 rfl rfl) rfl (by omega)) rfl (by kernel_rfl) ?_
 refine DL.step (d:=none) [_] rfl rfl rfl (fun τ h=>aF sz4 (Ee h 0 rfl rfl) (Eo h 0 rfl rfl) (Ee h 1 rfl rfl) rfl (by omega)) rfl (by kernel_rfl) ?_
 refine ⟨by kernel_rfl,?_⟩
 refine Z2 rfl rfl rfl ?_
 refine Gt rfl ?_
 exact ⟨[(5,.pv (.bool b))],o7B J W σ (now.set a x) mk mv,[.pv (.bool b)],Io (aS rfl) ⟨by kernel_rfl,by kernel_rfl,by kernel_rfl,congrArg (fun c=>some (Ob.cells 4 c)) h3,by kernel_rfl,by kernel_rfl,by kernel_rfl,trivial⟩ rfl rfl,rfl,rfl,rfl,rfl,rfl⟩
end
section
open Go.RowKit Mk Jn
set_option maxHeartbeats 4000000
def ltS (a b:ByteArray):Prop:=a.data.toList<b.data.toList
instance (a b:ByteArray):Decidable (ltS a b):=inferInstanceAs (Decidable (_<_))
theorem iA (a:ByteArray):¬ ltS a a:=List.lt_irrefl _
theorem kX {a b c:ByteArray} (h1:ltS a b) (h2:ltS b c):ltS a c:=List.lt_trans h1 h2
theorem tc {a b:ByteArray} (h1:¬ ltS a b) (h2:¬ ltS b a):a=b:=xu (List.le_antisymm h2 h1)
def leS (a b:ByteArray):Prop:=¬ ltS b a
instance (a b:ByteArray):Decidable (leS a b):=inferInstanceAs (Decidable (¬ _))
theorem pN {a b c:ByteArray} (h1:leS a b) (h2:leS b c):leS a c:=fun h=>by
 by_cases e:a=b
 ·subst e;exact h2 h
 ·have hab:ltS a b:=Classical.byContradiction fun k=>e (tc k h1)
  exact h2 (kX h hab)
theorem y6 (a b:ByteArray):leS a b∨leS b a:=by
 by_cases h:ltS b a
 ·exact .inr fun k=>iA a (kX k h)
 ·exact .inl h
theorem tE {a b:ByteArray} (h1:leS a b) (h2:leS b a):a=b:=tc h2 h1
theorem G7 {a b:ByteArray} (h:ltS a b):leS a b:=fun k=>iA a (kX h k)
def cR (l:List ByteArray):List ByteArray:=l.mergeSort fun a b=>decide (leS a b)
theorem cY (l:List ByteArray):(cR l).Perm l:=List.mergeSort_perm l _
theorem je (l:List ByteArray):(cR l).Pairwise leS:=by
 have:=List.pairwise_mergeSort (le:=fun a b:ByteArray=>decide (leS a b)) (by intro a b c h1 h2;simp only [decide_eq_true_eq] at *; exact pN h1 h2) (by intro a b;simp only [Bool.or_eq_true,decide_eq_true_eq];exact y6 a b) l
 exact this.imp (by simp)
theorem Dm {l r:List ByteArray} (hp:l.Perm r) (hl:l.Pairwise leS):l=cR r:=
 (hp.trans (cY r).symm).eq_of_pairwise (fun a b _ _ h1 h2=>tE h1 h2) hl (je r)
abbrev eb:ByteArray:=⟨#[]⟩
def ta (q:List ByteArray) (i k:Nat):List ByteArray:=(q.set i (q.getD k eb)).set k (q.getD i eb)
theorem me {q:List ByteArray} {i k p:Nat} (hi:i<q.length) (hk:k<q.length):(ta q i k).getD p eb=if p=k then q.getD i eb else if p=i then q.getD k eb else q.getD p eb:=by
 have e1:q.getD i eb=q[i]:=by simp [List.getD,hi]
 have e2:q.getD k eb=q[k]:=by simp [List.getD,hk]
 unfold ta
 rw [e1,e2]
 by_cases h1:p=k
 ·subst h1;simp [List.getD,hk]
 ·rw [if_neg h1]
  by_cases h2:p=i
  ·subst h2;simp only [List.getD,if_pos];rw [List.getElem?_set_ne (fun e=>h1 e.symm)];simp [hi]
  ·rw [if_neg h2];simp only [List.getD];rw [List.getElem?_set_ne (fun e=>h1 e.symm),List.getElem?_set_ne (fun e=>h2 e.symm)]
theorem vi {q:List ByteArray} {i k:Nat} (hi:i<q.length) (hk:k<q.length):ta q i k=(q.set i q[k]).set k q[i]:=by
 unfold ta;simp [List.getD,hi,hk]
theorem vM {q:List ByteArray} {i k:Nat} (hi:i<q.length) (hk:k<q.length):(ta q i k).Perm q:=by
 rw [vi hi hk]
 exact List.set_set_perm hi hk
def Dz (l:List ByteArray) (i j:Nat):Prop:=∀ p q,p<q→q≤i→(p≠j→q≠j→leS (l.getD p eb) (l.getD q eb))∧(p=j→leS (l.getD p eb) (l.getD q eb))
def G8 (l:List ByteArray) (i:Nat):Prop:=∀ p q,p<q→q<i→leS (l.getD p eb) (l.getD q eb)
theorem Dz.first {l:List ByteArray} {i:Nat} (h:G8 l i):Dz l i i:=fun p q h1 h2=>⟨fun _ h4=>h p q h1 (by omega),fun e=>by omega⟩
theorem Dz.swap {l:List ByteArray} {i j:Nat} (h:Dz l i j) (hj:0<j) (hji:j≤i) (hi:i<l.length) (hlt:ltS (l.getD j eb) (l.getD (j-1) eb)):Dz (ta l j (j-1)) i (j-1):=by
 intro p q h1 h2
 rw [me (by omega) (by omega),me (by omega) (by omega)]
 have a1:=h p q h1 h2
 have a2:=h (j-1) q
 have a3:=h p (j-1)
 have a4:=h j q
 have a5:=h p j
 by_cases e1:p=j-1
 ·rw [if_pos e1]
  refine ⟨fun h=>absurd e1 h,fun _=>?_⟩
  by_cases e2:q=j-1
  ·omega
  ·rw [if_neg e2]
   by_cases e3:q=j
   ·rw [if_pos e3];exact G7 hlt
   ·rw [if_neg e3];exact (a4 (by omega) h2).2 rfl
 ·rw [if_neg e1]
  refine ⟨fun _ h4=>?_,fun h=>absurd h e1⟩
  rw [if_neg h4]
  by_cases e3:q=j
  ·rw [if_pos e3,if_neg (by omega)]
   exact (a3 (by omega) (by omega)).1 (by omega) (by omega)
  ·rw [if_neg e3]
   by_cases e5:p=j
   ·rw [if_pos e5];exact (a2 (by omega) h2).1 (by omega) e3
   ·rw [if_neg e5];exact a1.1 e5 e3
theorem Dz.last {l:List ByteArray} {i j:Nat} (h:Dz l i j) (hji:j≤i) (hs:j=0∨leS (l.getD (j-1) eb) (l.getD j eb)):G8 l (i+1):=by
 intro p q h1 h2
 have a1:=h p q h1 (by omega)
 have a3:=h p (j-1)
 by_cases e1:p=j
 ·exact a1.2 e1
 ·by_cases e2:q=j
  ·subst e2
   rcases hs with hs | hs
   ·omega
   ·by_cases e3:p=q-1
    ·rw [e3];exact hs
    ·exact pN ((a3 (by omega) (by omega)).1 e1 (by omega)) hs
  ·exact a1.1 e1 e2
theorem G8.pw {l:List ByteArray} {i:Nat} (h:G8 l i) (hi:l.length≤i):l.Pairwise leS:=by
 rw [List.pairwise_iff_getElem]
 intro p q hp hq hpq
 have:=h p q hpq (by omega)
 simpa [List.getD,hp,hq] using this
theorem Dx (a b:ByteArray):Op.bytesLess a.toList b.toList=decide (ltS a b):=by rw [jG,ByteArray.toList_eq,ByteArray.toList_eq];rfl
theorem pd (a:ByteArray):FnP Tryz.prog 172 [.str a] (· = .bool false):=by
 refine FnP.of func172 rfl ntmps172 (by simp) fun m0 w0 F R0=>?_
 refine Z1 rfl rfl ?_
 refine Z4 rfl rfl rfl rfl rfl ?_
 refine Gt rfl ?_
 exact ⟨_,_,rfl,rfl,congrArg PV.bool (by simp)⟩
theorem wZ (a b:ByteArray):FnP Tryz.prog 235 [.str a,.str b] (· = .bool (decide (ltS a b))):=by
 refine FnP.of func235 rfl ntmps235 (by simp) fun m0 w0 F R0=>?_
 have hb:=Dx a b
 refine Z1 rfl rfl ?_
 refine Z1 rfl rfl ?_
 refine Rs 6 rfl rfl (ae call172 (pd a) rfl) ?_
 refine A1 rfl ?_
 apply Iy 4 7 11 [8,9,10] rfl (by first | exact ax.le | exact ax.aw | exact Iv)
 ·intro hb2
  refine A1 rfl ?_
  refine Rg 9 rfl rfl rfl (ae call172 (pd b) rfl) ?_
  refine Y2 rfl rfl ?_
  exact Iq (Ik (Ik (Ik (Ik (Ik (fEq.refl) rfl) rfl) rfl) rfl) rfl) rfl rfl rfl
 ·intro hb2
  iterate 4 refine A1 rfl ?_
  exact Iq (Ik (Ik (Ik (Ik (Ik (fEq.refl) rfl) rfl) rfl) rfl) rfl) rfl rfl rfl
 refine A1 rfl ?_
 apply Ix 4 12 16 [13,14,15] rfl (by first | exact ax.le | exact ax.aw | exact Iv)
 ·intro hb7
  iterate 4 refine A1 rfl ?_
  exact Iq (Ik (Ik (Ik (Ik (Ik (fEq.refl) rfl) rfl) rfl) rfl) rfl) rfl rfl rfl
 ·intro hb7
  iterate 4 refine A1 rfl ?_
  exact Iq (Ik (Ik (Ik (Ik (Ik (fEq.refl) rfl) rfl) rfl) rfl) rfl) rfl rfl rfl
 refine A1 rfl ?_
 refine Gt rfl ?_
 exact ⟨_,_,rfl,rfl,congrArg PV.bool (by rw [← hb];simp)⟩
abbrev cB (l:List ByteArray):Ob:= .cells 9 (aA l)
theorem xF (l:List ByteArray) (n:Nat) (hl:l.length=n) (hn:n≤1000):FnO Tryz.prog 229 1 0 [.osl big 1 n,.pv (.int .i64 0),.pv (.int .i64 n)] [(big,cB l)] (fun v ob'=>v= .tup []∧ob'=ar [(big,cB (cR l))]):=by
 refine FnO.of func229 rfl ntmps229 (by simp) fun m0 w0 F R0=>?_
 refine Z3 rfl rfl rfl rfl ?_
 refine Gl rfl (st:=fun x_0:Nat×List ByteArray=>mkS [(0,.osl big 1 n),(1,.pv (.int .i64 0)),(2,.pv (.int .i64 n)),(6,.pv (.int .i64 x_0.1))] [(big,cB x_0.2)] 0)
  (I:=fun x_0=>1≤x_0.1∧x_0.2.Perm l∧G8 x_0.2 x_0.1∧x_0.1≤n+1) (μ:=fun x_0=>n+1-x_0.1) (x0:=(1,l)) (Io (aS rfl) (aO rfl) rfl rfl) (⟨Nat.le_refl _,List.Perm.refl _,fun p q h1 h2=>by simp at h2;omega,by simp⟩) ?_
 rintro ⟨i,q⟩ ⟨hi,hq,ha,hin⟩
 try simp only at hi hq ha hin ⊢
 refine Z3 rfl rfl rfl rfl ?_
 refine Gp rfl rfl (fun hc12=>?_) (fun hc12=>?_)
 ·have hql:q.length=n:=by rw [hq.length_eq,hl]
  have hlt:i<n:=by omega
  refine Il ?_
  refine Z2 rfl rfl rfl ?_
  refine Gl rfl (st:=fun x_1:Nat×List ByteArray=>mkS [(0,.osl big 1 n),(1,.pv (.int .i64 0)),(2,.pv (.int .i64 n)),(6,.pv (.int .i64 i)),(7,.pv (.int .i64 x_1.1))] [(big,cB x_1.2)] 0)
   (I:=fun x_1=>x_1.1≤i∧x_1.2.Perm l∧Dz x_1.2 i x_1.1) (μ:=fun x_1=>x_1.1) (x0:=(i,q)) (Io (aS rfl) (aO rfl) rfl rfl) (⟨Nat.le_refl _,hq,Dz.first ha⟩) ?_
  rintro ⟨j,s⟩ ⟨hj,hs,hI⟩
  try simp only at hj hs hI ⊢
  have hsl:s.length=n:=by rw [hs.length_eq,hl]
  have hjl:j<s.length:=by omega
  have hv0:=aM hjl
  by_cases h:0<j
  ·have hjl1:j-1<s.length:=by omega
   have hv1:=aM hjl1
   have hd1:s.getD j eb=s[j]:=by simp [List.getD,hjl]
   have hd2:s.getD (j-1) eb=s[j-1]:=by simp [List.getD,hjl1]
   refine Ge rfl follows [0,1,2,3,4,5,6,7,8,9,10,11,12,13,14] (by kernel_rfl) ?_
   iterate 2 refine D1 rfl rfl ?_
   refine Ds 18 [] rfl rfl rfl (fun τ h=>(aQ (Ee h 0 rfl rfl) (Ee h 1 rfl rfl) rfl).cast (v':= .pv (.bool true)) (by simp;omega)) rfl (by kernel_rfl) ?_
   iterate 3 refine D1 rfl rfl ?_
   refine Dg 22 [_] rfl rfl rfl rfl (fun τ h=>aa j underlying47 sz9 (Ee h 0 rfl rfl) (Eo h 0 rfl rfl) (Ee h 1 rfl rfl) rfl (by omega)) rfl (by kernel_rfl) ?_
   refine Dg 23 [_] rfl rfl rfl rfl (fun τ h=>aC ⟨_,underlying9,rfl⟩ (Ee h 0 rfl rfl) (Eo h 0 rfl rfl) hv0) rfl (by kernel_rfl) ?_
   iterate 3 refine D1 rfl rfl ?_
   refine Dg 27 [_] rfl rfl rfl rfl (fun τ h=>aa (j-1) underlying47 sz9 (Ee h 0 rfl rfl) (Eo h 0 rfl rfl) (Ee h 1 rfl rfl) (by omega) (by omega)) rfl (by kernel_rfl) ?_
   refine Dg 28 [_] rfl rfl rfl rfl (fun τ h=>aC ⟨_,underlying9,rfl⟩ (Ee h 0 rfl rfl) (Eo h 0 rfl rfl) hv1) rfl (by kernel_rfl) ?_
   refine Dg 29 [] rfl rfl rfl rfl (fun τ h=>ae call235 (wZ s[j] s[j-1]) (h.bt rfl)) rfl (by kernel_rfl) ?_
   refine Ds 30 [] rfl rfl rfl (fun τ h=>DN (Ee h 0 rfl rfl) (Ee h 1 rfl rfl)) rfl (by kernel_rfl) ?_
   refine ⟨by kernel_rfl,?_⟩
   refine Gc rfl rfl (fun hc30=>?_) (fun hc30=>?_)
   ·have hsw:ltS (s.getD j eb) (s.getD (j-1) eb):=by rw [hd1,hd2];exact of_decide_eq_true hc30
    have hsp:=vM hjl hjl1
    have hse:=vi hjl hjl1
    refine Il ?_
    refine Ge rfl follows [0,1,2,3,4,5,6,7,8,9,10,11,12,13,14,15,16,17] (by kernel_rfl) ?_
    iterate 8 refine D1 rfl rfl ?_
    refine Ds 41 [_] rfl rfl rfl (fun τ h=>aa (j-1) underlying47 sz9 (Ee h 0 rfl rfl) (Eo h 0 rfl rfl) (Ee h 1 rfl rfl) (by omega) (by omega)) rfl (by kernel_rfl) ?_
    refine Ds 42 [_] rfl rfl rfl (fun τ h=>aC ⟨_,underlying9,rfl⟩ (Ee h 0 rfl rfl) (Eo h 0 rfl rfl) hv1) rfl (by kernel_rfl) ?_
    iterate 2 refine D1 rfl rfl ?_
    refine Ds 45 [_] rfl rfl rfl (fun τ h=>aa j underlying47 sz9 (Ee h 0 rfl rfl) (Eo h 0 rfl rfl) (Ee h 1 rfl rfl) rfl (by omega)) rfl (by kernel_rfl) ?_
    refine Ds 46 [_] rfl rfl rfl (fun τ h=>aC ⟨_,underlying9,rfl⟩ (Ee h 0 rfl rfl) (Eo h 0 rfl rfl) hv0) rfl (by kernel_rfl) ?_
    refine Ds 47 [_] rfl rfl rfl (fun τ h=>aa j underlying47 sz9 (Ee h 0 rfl rfl) (Eo h 0 rfl rfl) (Ee h 1 rfl rfl) rfl (by omega)) rfl (by kernel_rfl) ?_
    refine DL.step (d:=none) [_] rfl rfl rfl (fun τ h=>aF sz9 (Ee h 0 rfl rfl) (Eo h 0 rfl rfl) (Ee h 1 rfl rfl) rfl (by simp;omega)) rfl (by kernel_rfl) ?_
    refine Ds 48 [_] rfl rfl rfl (fun τ h=>aa (j-1) underlying47 sz9 (Ee h 0 rfl rfl) (Eo h 0 rfl rfl) (Ee h 1 rfl rfl) (by omega) (by omega)) rfl (by kernel_rfl) ?_
    refine DL.step (d:=none) [_] rfl rfl rfl (fun τ h=>aF sz9 (Ee h 0 rfl rfl) (Eo h 0 rfl rfl) (Ee h 1 rfl rfl) rfl (by simp;omega)) rfl (by kernel_rfl) ?_
    refine ⟨by kernel_rfl,?_⟩
    refine Z3 rfl rfl rfl rfl ?_
    exact ⟨(j-1,ta s j (j-1)),Io ⟨rfl,rfl,rfl,rfl,congrArg (fun i=>V.pv (PV.int .i64 i)) (by omega),trivial⟩ ⟨congrArg (fun c=>some (Ob.cells 9 c)) (by rw [hse];simp),trivial⟩ rfl rfl,⟨by simp only;omega,hsp.trans hs,hI.swap h hj (by omega) hsw⟩,by simp only;omega⟩
   ·have hst:j=0∨leS (s.getD (j-1) eb) (s.getD j eb):= .inr (by rw [hd1,hd2];exact of_decide_eq_false hc30)
    refine Gx rfl ?_
    refine Z3 rfl rfl rfl rfl ?_
    exact ⟨(i+1,s),Io (aS rfl) (aO rfl) rfl rfl,⟨by simp only;omega,hs,hI.last hj hst,by simp only;omega⟩,by simp only;omega⟩
  ·refine Ge rfl follows [0,1,2,3,4,5,6,7,8,9,10,11,12,13,14] (by kernel_rfl) ?_
   iterate 2 refine D1 rfl rfl ?_
   refine Ds 18 [] rfl rfl rfl (fun τ h=>(aQ (Ee h 0 rfl rfl) (Ee h 1 rfl rfl) rfl).cast (v':= .pv (.bool false)) (by simp;omega)) rfl (by kernel_rfl) ?_
   iterate 11 refine D1 rfl rfl ?_
   refine Ds 30 [] rfl rfl rfl (fun τ h=>CN (Ee h 0 rfl rfl) (Ee h 2 rfl rfl)) rfl (by kernel_rfl) ?_
   refine ⟨by kernel_rfl,?_⟩
   refine Gc rfl rfl (fun hc30=>absurd hc30 (Bool.false_ne_true)) (fun hc30=>?_)
   have hst:j=0∨leS (s.getD (j-1) eb) (s.getD j eb):= .inl (by omega)
   refine Gx rfl ?_
   refine Z3 rfl rfl rfl rfl ?_
   exact ⟨(i+1,s),Io (aS rfl) (aO rfl) rfl rfl,⟨by simp only;omega,hs,hI.last hj hst,by simp only;omega⟩,by simp only;omega⟩
 ·refine Gx rfl ?_
  exact ⟨[],[(big,cB (cR l))],[],Io trivial ⟨congrArg (fun c=>some (Ob.cells 9 (aA c))) (Dm hq (ha.pw (by rw [hq.length_eq,hl];omega))),trivial⟩ rfl rfl,rfl,rfl,rfl,rfl,rfl⟩
theorem Az (l:List ByteArray) (n:Nat) (e:Int) (hl:l.length=n) (hn:n≤12):FnO Tryz.prog 193 1 0 [.osl big 1 n,.pv (.int .i64 0),.pv (.int .i64 n),.pv (.int .i64 e)] [(big,cB l)] (fun v ob'=>v= .tup []∧ob'=ar [(big,cB (cR l))]):=by
 refine FnO.of func193 rfl ntmps193 (by simp) fun m0 w0 F R0=>?_
 refine Z1 rfl rfl ?_
 refine Z1 rfl rfl ?_
 refine Gl rfl (st:=fun x_0:Unit=>mkS [(0,.osl big 1 n),(1,.pv (.int .i64 0)),(2,.pv (.int .i64 n)),(3,.pv (.int .i64 e)),(8,.pv (.bool true)),(9,.pv (.bool true))] [(big,cB l)] 0)
  (I:=fun x_0=>True) (μ:=fun x_0=>0) (x0:=(())) (Io (aS rfl) (aO rfl) rfl rfl) (trivial) ?_
 rintro u hI
 refine Z4 rfl rfl rfl rfl rfl ?_
 refine Z2 rfl rfl rfl ?_
 refine Gp rfl rfl (fun hc23=>?_) (fun hc23=>absurd hc23 (fun h=>h (by omega)))
 refine Z3 rfl rfl rfl rfl ?_
 refine RL.call rfl (fA [big] 0 call229 (xF l n hl (by omega)) rfl rfl rfl rfl ⟨rfl,trivial⟩ (by decide) rfl ?_)
 rintro _ _ ⟨rfl,rfl⟩
 refine Gt rfl ?_
 exact ⟨[],[(big,cB (cR l))],[],Io trivial (aO rfl) rfl rfl,rfl,rfl,rfl,rfl,rfl⟩
theorem mX (l:List ByteArray) (n:Nat) (hl:l.length=n) (hn:n≤12):FnO Tryz.prog 148 1 0 [.osl big 1 n] [(big,cB l)] (fun v ob'=>v= .tup []∧ob'=ar [(big,cB (cR l))]):=by
 refine FnO.of func148 rfl ntmps148 (by simp) fun m0 w0 F R0=>?_
 have hw:IntKind.u64.wrap (n:Int)=(n:Int):=by
  show ((n:Int)%18446744073709551616)=n
  omega
 refine Z3 rfl rfl rfl rfl ?_
 refine Z3 rfl rfl rfl rfl ?_
 refine Rs 8 rfl rfl ((en underlying3 underlying161 rfl).cast (v':= .pv (.int .u64 n)) (by rw [hw])) ?_
 refine RL.call rfl (dE call104 (tP n hn) rfl ?_)
 rintro _ ⟨e,rfl⟩
 refine RL.call rfl (fA [big] 0 call193 (Az l n e hl hn) rfl rfl rfl rfl ⟨rfl,trivial⟩ (by decide) rfl ?_)
 rintro _ _ ⟨rfl,rfl⟩
 exact ⟨[],[(big,cB (cR l))],[],Io trivial (aO rfl) rfl rfl,rfl,rfl,rfl,rfl,rfl⟩
theorem zQ {a b:ByteArray} (h:(a.toList !=b.toList)=false):a=b:=bytes_inj (by simpa using h)
theorem du {α:Type} {l:List α} {k:Nat} {x:α} (h:k<l.length):(l.set k x).take (k+1)=l.take k++[x]:=by
 rw [List.take_succ_eq_append_getElem (by simpa using h),List.take_set_of_le (Nat.le_refl _)]
 simp
end
section
open Go.RowKit Mk Jn
set_option maxHeartbeats 4000000
theorem oR {α:Type} {P:List α→Prop} (h0:P []) (h1:∀ l x,P l→P (l++[x])) (l:List α):P l:=by
 have:∀ n (l:List α),l.length=n→P l:=by
  intro n
  induction n with
  | zero=>intro l hl;rw [List.length_eq_zero_iff.1 hl];exact h0
  | succ n ih=>
    intro l hl
    have e:l=l.take n++[l[n]]:=by
     have:=List.take_succ_eq_append_getElem (show n<l.length by omega)
     rw [List.take_of_length_le (by omega)] at this
     exact this
    rw [e]
    exact h1 _ _ (ih _ (by simp;omega))
 exact this _ l rfl
def GO (out:List ByteArray) (x:ByteArray):List ByteArray:=if out.getLast? =some x then out else out++[x]
def bD (l:List ByteArray):List ByteArray:=l.foldl GO []
theorem yf (l:List ByteArray):(bD l).getLast? =l.getLast? :=by
 refine oR (P:=fun l=>(bD l).getLast? =l.getLast?) rfl (fun l x ih=>?_) l
 ·unfold bD
  rw [List.foldl_append]
  simp only [List.foldl_cons,List.foldl_nil,GO]
  split
  ·next h=>rw [h];simp
  ·simp
theorem hY (l:List ByteArray) (x:ByteArray):bD (l++[x])=if l.getLast? =some x then bD l else bD l++[x]:=by
 rw [← yf]
 show List.foldl GO [] (l++[x])=_
 rw [List.foldl_append];rfl
theorem oc {l:List ByteArray} {y:ByteArray}:y∈bD l↔y∈l:=by
 refine oR (P:=fun l=>y∈bD l↔y∈l) Iff.rfl (fun l x ih=>?_) l
 ·rw [hY]
  split
  ·next h=>
   rw [ih,List.mem_append,List.mem_singleton]
   constructor
   ·exact .inl
   ·rintro (h1 | h1)
    ·exact h1
    ·subst h1;exact List.mem_of_getLast? h
  ·rw [List.mem_append,List.mem_append,ih]
theorem jX (l:List ByteArray):(bD l).length≤l.length:=by
 refine oR (P:=fun l=>(bD l).length≤l.length) (Nat.le_refl _) (fun l x ih=>?_) l
 rw [hY];split<;>simp<;>omega
theorem Bw {l:List ByteArray} (h:l.Pairwise leS):(bD l).Pairwise ltS:=by
 revert h
 refine oR (P:=fun l=>l.Pairwise leS→(bD l).Pairwise ltS) (fun _=>List.Pairwise.nil) (fun l x ih h=>?_) l
 ·rw [List.pairwise_append] at h
  rw [hY]
  split
  ·exact ih h.1
  ·next hne=>
   rw [List.pairwise_append]
   refine ⟨ih h.1,List.pairwise_singleton _ _,fun a ha b hb=>?_⟩
   rw [List.mem_singleton] at hb
   subst hb
   have hle:=h.2.2 a (oc.1 ha) b (by simp)
   refine Classical.byContradiction fun hlt=>hne ?_
   have heq:=tc hlt hle
   subst heq
   have hal:=oc.1 ha
   cases hl:l.getLast? with
   | none=>rw [List.getLast?_eq_none_iff] at hl;subst hl;simp at hal
   | some z=>
     obtain ⟨pre,rfl⟩:=List.getLast?_eq_some_iff.1 hl
     have hza:leS z a:=h.2.2 z (by simp) a (by simp)
     rcases List.mem_append.1 hal with h1 | h1
     ·have haz:=(List.pairwise_append.1 h.1).2.2 a h1 z (by simp)
      rw [tE haz hza]
     ·rw [List.mem_singleton.1 h1]
theorem vW {l:List ByteArray} (h:l.Pairwise leS):(bD l).Nodup:=
 (Bw h).imp fun {a b} hab e=>by subst e;exact iA _ hab
theorem xy {l:List ByteArray} {k:Nat} (h0:0<k) (h:k≤l.length):(l.take k).getLast? =some (l[k-1]'(by omega)):=by
 obtain ⟨j,rfl⟩:∃ j,k=j+1:=⟨k-1,by omega⟩
 rw [List.take_succ_eq_append_getElem (by omega)]
 simp only [List.getLast?_append,List.getLast?_singleton,Option.some_or,Nat.add_sub_cancel]
theorem p8 {l:List ByteArray} {k:Nat} (h0:0<k) (h:k<l.length):bD (l.take (k+1))=if l[k-1]'(by omega)=l[k] then bD (l.take k) else bD (l.take k)++[l[k]]:=by
 rw [List.take_succ_eq_append_getElem h,hY,xy h0 (by omega)]
 by_cases e:l[k-1]'(by omega)=l[k]
 ·rw [if_pos e,if_pos (by rw [e])]
 ·rw [if_neg e,if_neg (fun h=>e (Option.some.inj h))]
theorem uj (l:List ByteArray) (h:l.length<2):bD l=l:=by
 match l,h with
 | [],_=>rfl
 | [x],_=>rfl
theorem jh (l:List ByteArray) (n:Nat) (hl:l.length=n) (hn:n≤1000):FnO Tryz.prog 149 1 0 [.osl big 1 n] [(big,cB l)] (fun v ob'=>v= .osl big 1 (bD l).length∧ob'=ar [(big,cB (bD l))]):=by
 refine FnO.of func149 rfl ntmps149 (by simp) fun m0 w0 F R0=>?_
 refine Z1 rfl rfl ?_
 refine Z3 rfl rfl rfl rfl ?_
 refine Gp rfl rfl (fun hc8=>?_) (fun hc8=>?_)
 ·have hc1:=uj l (by omega)
  refine Z2 rfl rfl rfl ?_
  refine Gt rfl ?_
  exact ⟨[(2,.osl big 1 n)],[(big,cB l)],[.osl big 1 n],Io (aS rfl) (aO rfl) rfl rfl,rfl,rfl,rfl,by rw [hc1,hl];rfl,by rw [hc1]⟩
 ·refine Il ?_
  refine Z1 rfl rfl ?_
  refine Gl rfl (st:=fun x_0:Nat=>mkS [(0,.osl big 1 n),(3,.pv (.int .i64 x_0))] [(big,cB l)] 0)
   (I:=fun x_0=>(1≤x_0∧x_0≤n)∧bD (l.take x_0)=l.take x_0) (μ:=fun x_0=>n-x_0) (x0:=(1)) (Io (aS rfl) (aO (by kernel_rfl)) rfl rfl) (⟨⟨Nat.le_refl _,by omega⟩,uj _ (by simp;omega)⟩) ?_
  rintro k ⟨⟨hk1,hkn⟩,hck⟩
  refine Z4 rfl rfl rfl rfl rfl ?_
  refine Gp rfl rfl (fun hc13=>?_) (fun hc13=>?_)
  ·have hlt:k<l.length:=by omega
   have hlt1:k-1<l.length:=by omega
   have hv0:=aM hlt
   have hv1:=aM hlt1
   have hct:=p8 hk1 hlt
   refine Il ?_
   refine Ge rfl follows [0,1,2,3,4,5,6,7,8,9] (by kernel_rfl) ?_
   iterate 2 refine D1 rfl rfl ?_
   refine Ds 18 [_] rfl rfl rfl (fun τ h=>aa k underlying47 sz9 (Ee h 0 rfl rfl) (Eo h 0 rfl rfl) (Ee h 1 rfl rfl) rfl (by omega)) rfl (by kernel_rfl) ?_
   refine Ds 19 [_] rfl rfl rfl (fun τ h=>aC ⟨_,underlying9,rfl⟩ (Ee h 0 rfl rfl) (Eo h 0 rfl rfl) hv0) rfl (by kernel_rfl) ?_
   iterate 3 refine D1 rfl rfl ?_
   refine Ds 23 [_] rfl rfl rfl (fun τ h=>aa (k-1) underlying47 sz9 (Ee h 0 rfl rfl) (Eo h 0 rfl rfl) (Ee h 1 rfl rfl) (by omega) (by omega)) rfl (by kernel_rfl) ?_
   refine Ds 24 [_] rfl rfl rfl (fun τ h=>aC ⟨_,underlying9,rfl⟩ (Ee h 0 rfl rfl) (Eo h 0 rfl rfl) hv1) rfl (by kernel_rfl) ?_
   refine D1 rfl rfl ?_
   refine ⟨by kernel_rfl,?_⟩
   refine Gc rfl rfl (fun hc25=>?_) (fun hc25=>?_)
   ·have heq:l[k-1]=l[k]:=(baT hc25).symm
    rw [if_pos heq,hck] at hct
    refine Z2 rfl rfl rfl ?_
    refine Rs 28 rfl rfl (dK k underlying47 sz9 rfl rfl rfl rfl (by omega)) ?_
    refine A1 rfl ?_
    refine Z1 rfl rfl ?_
    refine Gl rfl (st:=fun x_1:Nat×Nat×List ByteArray=>mkS [(0,.osl big 1 n),(3,.pv (.int .i64 x_1.2.1)),(4,.tsl big (k*1) (n-k)),(5,.pv (.int .i64 x_1.1))] [(big,cB x_1.2.2)] 0)
     (I:=fun x_1=>((1≤x_1.1∧x_1.1≤n-k)∧(x_1.2.1≤k+x_1.1-1∧x_1.2.2.length=n))∧(x_1.2.2.drop (k+x_1.1-1)=l.drop (k+x_1.1-1)∧x_1.2.2.take x_1.2.1=bD (l.take (k+x_1.1))∧x_1.2.1=(bD (l.take (k+x_1.1))).length)) (μ:=fun x_1=>n-k-x_1.1) (x0:=(1,k,l)) (Io (aS rfl) (aO (by kernel_rfl)) rfl rfl) (⟨⟨⟨Nat.le_refl _,by simp only;omega⟩,by simp only;omega,hl⟩,rfl,hct.symm,by simp only;rw [hct,List.length_take];omega⟩) ?_
    rintro ⟨i,k2,q⟩ ⟨⟨⟨hi1,hin⟩,hk2,hql⟩,hqd,hqt,hk2e⟩
    try simp only at hi1 hin hk2 hql hqd hqt hk2e ⊢
    refine Z2 rfl rfl rfl ?_
    refine Rs 31 rfl rfl (EI underlying47 rfl) ?_
    refine A1 rfl ?_
    refine Gp rfl rfl (fun hc32=>?_) (fun hc32=>?_)
    ·have hpl:k+i<l.length:=by omega
     have hpl1:k+i-1<l.length:=by omega
     have hq0:q[k+i]'(by omega)=l[k+i]:=by have:=congrArg (fun z=>z[1]?) hqd;simp only [List.getElem?_drop] at this;rw [show k+i-1+1=k+i by omega,List.getElem?_eq_getElem (by omega),List.getElem?_eq_getElem hpl] at this;exact Option.some.inj this
     have hq1:q[k+i-1]'(by omega)=l[k+i-1]:=by have:=congrArg (fun z=>z[0]?) hqd;simp only [List.getElem?_drop] at this;rw [show k+i-1+0=k+i-1 by omega,List.getElem?_eq_getElem (by omega),List.getElem?_eq_getElem hpl1] at this;exact Option.some.inj this
     have hv2:(aA q)[k*1+i*1]? =some (.str l[k+i]):=by rw [Nat.mul_one,Nat.mul_one,List.getElem?_map,List.getElem?_eq_getElem (by omega),hq0];rfl
     have hv3:(aA q)[k*1+(i-1)*1]? =some (.str l[k+i-1]):=by rw [Nat.mul_one,Nat.mul_one,show k+(i-1)=k+i-1 by omega,List.getElem?_map,List.getElem?_eq_getElem (by omega),hq1];rfl
     have hct2:=p8 (l:=l) (k:=k+i) (by omega) hpl
     have hdrop:q.drop (k+i)=l.drop (k+i):=by have:=congrArg (fun z=>z.drop 1) hqd;simp only [List.drop_drop] at this;rwa [show k+i-1+1=k+i by omega] at this
     have hqln:(aA q).length=n:=by rw [List.length_map,hql]
     refine Il ?_
     refine Ge rfl follows [0,1,2,3,4,5,6,7,8,9] (by kernel_rfl) ?_
     iterate 2 refine D1 rfl rfl ?_
     refine Ds 37 [_] rfl rfl rfl (fun τ h=>eR i underlying47 sz9 (Ee h 0 rfl rfl) (Eo h 0 rfl rfl) (Ee h 1 rfl rfl) rfl (by omega)) rfl (by kernel_rfl) ?_
     refine Ds 38 [_] rfl rfl rfl (fun τ h=>aC ⟨_,underlying9,rfl⟩ (Ee h 0 rfl rfl) (Eo h 0 rfl rfl) hv2) rfl (by kernel_rfl) ?_
     iterate 3 refine D1 rfl rfl ?_
     refine Ds 42 [_] rfl rfl rfl (fun τ h=>eR (i-1) underlying47 sz9 (Ee h 0 rfl rfl) (Eo h 0 rfl rfl) (Ee h 1 rfl rfl) (by omega) (by omega)) rfl (by kernel_rfl) ?_
     refine Ds 43 [_] rfl rfl rfl (fun τ h=>aC ⟨_,underlying9,rfl⟩ (Ee h 0 rfl rfl) (Eo h 0 rfl rfl) hv3) rfl (by kernel_rfl) ?_
     refine D1 rfl rfl ?_
     refine ⟨by kernel_rfl,?_⟩
     refine Gc rfl rfl (fun hc44=>?_) (fun hc44=>?_)
     ·have hne:¬ l[k+i-1]=l[k+i]:=fun e=>by rw [e] at hc44;simp at hc44
      rw [if_neg hne] at hct2
      refine Z4 rfl rfl rfl rfl rfl ?_
      refine Rs 49 rfl rfl (eR i underlying47 sz9 rfl rfl rfl rfl (by omega)) ?_
      refine Rs 50 rfl rfl (aC ⟨_,underlying9,rfl⟩ rfl rfl hv2) ?_
      refine Rs 51 rfl rfl (aa k2 underlying47 sz9 rfl rfl rfl rfl (by omega)) ?_
      refine RL.step (d:=none) rfl rfl (aF sz9 rfl rfl rfl rfl (by omega)) ?_
      refine Z3 rfl rfl rfl rfl ?_
      refine Z3 rfl rfl rfl rfl ?_
      exact ⟨(i+1,k2+1,q.set k2 l[k+i]),Io (aS rfl) ⟨congrArg (fun c=>some (Ob.cells 9 c)) (jS l[k+i]),trivial⟩ rfl rfl,⟨⟨⟨by simp only;omega,by simp only;omega⟩,by simp only;omega,by simp only [List.length_set];exact hql⟩,by simp only;rw [show k+(i+1)-1=k+i by omega,List.drop_set_of_lt (by omega)];exact hdrop,by simp only;rw [show k+(i+1)=k+i+1 by omega,hct2, ← hqt];exact du (by omega),by simp only;rw [show k+(i+1)=k+i+1 by omega,hct2,List.length_append, ← hk2e];rfl⟩,by simp only;omega⟩
     ·refine Il ?_
      refine Z3 rfl rfl rfl rfl ?_
      exact ⟨(i+1,k2,q),Io (aS rfl) (aO (by kernel_rfl)) rfl rfl,⟨⟨⟨by simp only;omega,by simp only;omega⟩,by simp only;omega,hql⟩,by simp only;rw [show k+(i+1)-1=k+i by omega];exact hdrop,by simp only;rw [show k+(i+1)=k+i+1 by omega,hct2,if_pos (zQ hc44).symm];exact hqt,by simp only;rw [show k+(i+1)=k+i+1 by omega,hct2,if_pos (zQ hc44).symm];exact hk2e⟩,by simp only;omega⟩
    ·have hie:k+i=n:=by omega
     rw [show l.take (k+i)=l from List.take_of_length_le (by omega)] at hqt hk2e
     have hqln:(aA q).length=n:=by rw [List.length_map,hql]
     have hcl:=jX l
     have hfin:(aA q).take (k2*1)=aA (bD l):=by rw [Nat.mul_one, ← List.map_take,hqt]
     refine Gx rfl ?_
     refine Z2 rfl rfl rfl ?_
     refine Rs 56 rfl rfl (dK k2 underlying47 sz9 rfl rfl rfl rfl (by omega)) ?_
     refine RL.step (d:=none) rfl rfl (kn uq rfl rfl rfl (by omega)) ?_
     refine Z2 rfl rfl rfl ?_
     refine Rs 59 rfl rfl (dC k2 underlying47 sz9 rfl rfl rfl rfl (by omega)) ?_
     refine A1 rfl ?_
     refine Gt rfl ?_
     exact ⟨[(2,.osl big 1 k2)],[(big,cB (bD l))],[.osl big 1 k2],Io (aS rfl) ⟨congrArg (fun c=>some (Ob.cells 9 c)) hfin,trivial⟩ rfl rfl,rfl,rfl,rfl,by rw [hk2e];rfl,rfl⟩
   ·have hne:¬ l[k-1]=l[k]:=fun e=>by rw [e] at hc25;simp at hc25
    rw [if_neg hne,hck] at hct
    refine Il ?_
    refine Z3 rfl rfl rfl rfl ?_
    exact ⟨(k+1),Io (aS rfl) (aO (by kernel_rfl)) rfl rfl,⟨⟨by omega,by omega⟩,by rw [hct,List.take_succ_eq_append_getElem hlt]⟩,by omega⟩
  ·rw [List.take_of_length_le (by omega)] at hck
   refine Gx rfl ?_
   refine Z2 rfl rfl rfl ?_
   refine Gt rfl ?_
   exact ⟨[(2,.osl big 1 n)],[(big,cB l)],[.osl big 1 n],Io (aS rfl) (aO rfl) rfl rfl,rfl,rfl,rfl,by rw [hck,hl];rfl,by rw [hck]⟩
theorem uK {J:JD} (hJ:JOk J) (r:Nat):∀ x∈dh J r,x.v.length=(cy J r).length:=by
 intro x hx
 by_cases h:r<J.T.length
 ·have h2:r<J.S.rels.length:=by rw [← hJ.n];exact h
  rw [show dh J r=J.T[r] by simp [dh,List.getD,h]] at hx
  rw [hJ.v r h h2 x hx]
  simp [cy,List.getD,h2]
 ·rw [show dh J r=[] by simp [dh,List.getD,List.getElem?_eq_none (by omega:J.T.length≤r)]] at hx
  simp at hx
def sdS (l:List ByteArray):List ByteArray:=bD (cR l)
theorem qL (l:List ByteArray):(sdS l).Nodup:=vW (je l)
theorem sf (l:List ByteArray) (x:ByteArray):x∈sdS l↔x∈l:=by unfold sdS;rw [oc,(cY l).mem_iff]
theorem nG:sdS []=[]:=List.eq_nil_iff_forall_not_mem.2 fun x hx=>by rw [sf] at hx;simp at hx
def xf (J:JD) (f a:Nat) (σ:Asg ByteArray):List ByteArray:=((dh J f).filter fun x=>agr (cy J f) σ x.v).map fun x=>x.v.getD ((cy J f).idxOf (a:Int)) eb
def jx (J:JD) (a:Nat) (σ:Asg ByteArray):List ByteArray:=match bw (RJ J) (a:Int) with
 | []=>[]
 | f::_=>sdS (xf J f a σ)
def r4 (J:JD) (a k:Nat):List Nat:=(List.range k).filter fun r=>decide ((a:Int)∈(RJ J).at r)
theorem mM (J:JD) (a:Nat):r4 J a J.S.rels.length=bw (RJ J) (a:Int):=by unfold r4 bw;rw [show (RJ J).A.length=J.S.rels.length by simp [RJ]]
theorem mD (J:JD) (a:Nat) {k:Nat} (h:k<J.S.rels.length):r4 J a (k+1)=r4 J a k++if (a:Int)∈J.S.rels[k].2 then [k] else []:=by
 unfold r4
 rw [List.range_succ,List.filter_append]
 have e:(RJ J).at k=J.S.rels[k].2:=by rw [qX];simp [cy,List.getD,h]
 by_cases hm:(a:Int)∈J.S.rels[k].2
 ·simp [List.filter_cons,e,hm]
 ·simp [List.filter_cons,e,hm]
theorem kA (J:JD) (a:Nat) (r:Nat) (h:r∈bw (RJ J) (a:Int)):r<J.S.rels.length∧(a:Int)∈cy J r:=by
 have h1:=List.mem_filter.1 h
 refine ⟨by have:=List.mem_range.1 h1.1;simpa [RJ] using this,?_⟩
 rw [← qX];simpa using h1.2
theorem mq {α β:Type} {f g:α→Option β}:∀ {l:List α},(∀ x∈l,f x=g x)→l.filterMap f=l.filterMap g
 | [],_=>rfl
 | x::l,h=>by
   rw [List.filterMap_cons,List.filterMap_cons,h x (by simp),mq fun y hy=>h y (by simp [hy])]
theorem re (J:JD) (a:Nat) (σ:Asg ByteArray) (hσ:σ (a:Int)=none) {f:Nat} {rest:List Nat} (hw:bw (RJ J) (a:Int)=f::rest) (hv:∀ x∈dh J f,x.v.length=(cy J f).length):bC (RJ J) sdS (a:Int) σ=(sdS (xf J f a σ)).filter fun x=> !dS J (bw (RJ J) (a:Int)) σ a x:=by
 unfold bC
 rw [hw]
 simp only
 have hu:gf σ (a:Int)=σ:=by funext b;unfold gf;split<;>simp_all
 have hm:(a:Int)∈cy J f:=(kA J a f (by rw [hw];simp)).2
 have hi:=List.idxOf_lt_length_of_mem hm
 have e1:(((RJ J).rows f).filter (agr ((RJ J).at f) (gf σ a))).filterMap (fun row=>row[((RJ J).at f).idxOf (a:Int)]?)=xf J f a σ:=by
  rw [hu,kF,qX,List.filter_map,List.filterMap_map]
  unfold xf
  rw [← List.filterMap_eq_map]
  refine mq fun x hx=>?_
  have hxl:=hv x (List.mem_filter.1 hx).1
  simp only [Function.comp_apply]
  rw [List.getElem?_eq_getElem (by omega)]
  simp [List.getD,hxl,hi]
 rw [e1]
 refine List.filter_congr fun x _=>?_
 unfold dS
 rw [Bool.eq_iff_iff,List.all_eq_true]
 simp
end
section
open Go.RowKit Mk Jn
set_option maxHeartbeats 4000000
abbrev o8B (J:JD) (W:WD) (q:List ByteArray) (σ:Asg ByteArray) (now:List ByteArray) (mk mv:List PV):List (Nat×Ob):=[(big,cB q),(1000001,.mix 139 [.ptr 1000002 0]),(1000002,oB W 1000006 1000003 J.S.attrs.length 1000004 1000005),(1000003,.cells 9 (aA now)),(1000004,.cells 4 (ay (stL σ J.S.attrs.length))),(1000005,.mp mk mv),(1000006,oX2 J 1000007),(1000007,.mp J.pk J.pv)]
abbrev c1B (a:Nat) (rs:List Nat):V:= .fn (.func 151) [] [.ptr 1000001 0,.pv (.rp [.int .i64 a] 0),.pv (.rp [ak (bK rs)] 0)]
theorem qj (J:JD) (hJ:JOk J) (W:WD) (σ:Asg ByteArray) (now:List ByteArray) (hn:NowOk J.S.attrs.length σ now) (mk mv:List PV) (a:Nat) (ha:a<J.S.attrs.length) (hσ:σ (a:Int)=none) (rs:List Nat) (hl:rs.length≤1000) (hr:∀ r∈rs,r<J.S.rels.length) (l:List ByteArray) (n:Nat) (hln:l.length=n) (hn1:n≤1000) (i:Int)
  (hi1:∀ k (h:k<l.length),dS J rs σ a l[k]=true→(∀ j (h:j<l.length),j<k→dS J rs σ a l[j]=false)→i=k) (hi2:(∀ j (h:j<l.length),dS J rs σ a l[j]=false)→i= -1):
  FnO Tryz.prog 194 8 0 [.osl big 1 n,c1B a rs] (o8B J W l σ now mk mv) (fun v ob'=>v= .pv (.int .i64 i)∧ob'=ar (o8B J W l σ (tst now a (l.take (if i<0 then n else i.toNat+1))) mk mv)):=by
 refine FnO.of func194 rfl ntmps194 (by simp) fun m0 w0 F R0=>?_
 refine Z1 rfl rfl ?_
 refine Z3 rfl rfl rfl rfl ?_
 refine Gl rfl (st:=fun x_0:Nat=>mkS [(0,.osl big 1 n),(1,c1B a rs),(7,.pv (.int .i64 n)),(8,.pv (.int .i64 x_0))] [(big,cB l),(1000001,.mix 139 [.ptr 1000002 0]),(1000002,oB W 1000006 1000003 J.S.attrs.length 1000004 1000005),(1000003,.cells 9 (aA (tst now a (l.take x_0)))),(1000004,.cells 4 (ay (stL σ J.S.attrs.length))),(1000005,.mp mk mv),(1000006,oX2 J 1000007),(1000007,.mp J.pk J.pv)] 0)
  (I:=fun x_0=>x_0≤n∧∀ j (h:j<l.length),j<x_0→dS J rs σ a l[j]=false) (μ:=fun x_0=>n-x_0) (x0:=(0)) (Io (aS rfl) (aO (by kernel_rfl)) rfl rfl) (⟨Nat.zero_le _,fun _ _ h=>absurd h (by omega)⟩) ?_
 rintro k ⟨hk,hno⟩
 refine Z1 rfl rfl ?_
 refine Gp rfl rfl (fun hc9=>?_) (fun hc9=>?_)
 ·have hlt:k<l.length:=by omega
  have hv:=aM hlt
  have hgk:=mE J hJ W σ (tst now a (l.take k)) (ki hn ha hσ _) mk mv a ha hσ rs hl hr l[k]
  rw [jJ hlt] at hgk
  have hik:=hi1 k hlt
  rw [show (rs.any fun r=> !(bR (RJ J) r (put σ a l[k])))=dS J rs σ a l[k] from rfl] at hgk
  generalize hbk:dS J rs σ a l[k]=b at*
  refine Il ?_
  refine Z2 rfl rfl rfl ?_
  refine Z3 rfl rfl rfl rfl ?_
  refine Rs 14 rfl rfl (aa k underlying47 sz9 rfl rfl rfl rfl (by omega)) ?_
  refine Rs 15 rfl rfl (aC ⟨_,underlying9,rfl⟩ rfl rfl hv) ?_
  refine Rs 16 rfl rfl (bJ [1000001,1000002,1000003,1000004,1000005,1000006,1000007] 0 call151 hgk rfl rfl rfl rfl rfl rfl ⟨rfl,rfl,rfl,rfl,rfl,rfl,rfl,trivial⟩ (by decide) rfl) ?_
  refine Gc rfl rfl (fun hc16=>?_) (fun hc16=>?_)
  ·refine Z2 rfl rfl rfl ?_
   refine Gt rfl ?_
   exact ⟨[(4,.pv (.int .i64 k))],o8B J W l σ (tst now a (l.take (k+1))) mk mv,[.pv (.int .i64 k)],Io (aS rfl) (aO (by kernel_rfl)) rfl rfl,rfl,rfl,rfl,by rw [hik hc16 hno];rfl,by rw [hik hc16 hno,if_neg (by omega)];rfl⟩
  ·refine Il ?_
   refine Z2 rfl rfl rfl ?_
   exact ⟨(k+1),Io (aS rfl) (aO (by kernel_rfl)) rfl rfl,⟨by omega,fun j h hj=>by rcases Nat.lt_succ_iff_lt_or_eq.1 hj with h1 | h1;exact hno j h h1;subst h1;rw [hbk];exact hc16⟩,by omega⟩
 ·have hm:=hi2 fun j h=>hno j h (by omega)
  obtain rfl:n=k:=by omega
  refine Gx rfl ?_
  refine Z1 rfl rfl ?_
  refine Gt rfl ?_
  exact ⟨[(4,.pv (.int .i64 (-1)))],o8B J W l σ (tst now a (l.take n)) mk mv,[.pv (.int .i64 (-1))],Io (aS rfl) (aO (by kernel_rfl)) rfl rfl,rfl,rfl,rfl,by rw [hm];rfl,by rw [hm];rfl⟩
theorem qG (J:JD) (hJ:JOk J) (W:WD) (σ:Asg ByteArray) (now:List ByteArray) (hn:NowOk J.S.attrs.length σ now) (mk mv:List PV) (a:Nat) (ha:a<J.S.attrs.length) (hσ:σ (a:Int)=none) (rs:List Nat) (hl:rs.length≤1000) (hr:∀ r∈rs,r<J.S.rels.length) (l:List ByteArray) (n:Nat) (hln:l.length=n) (hn1:n≤1000):
  FnO Tryz.prog 150 8 0 [.osl big 1 n,c1B a rs] (o8B J W l σ now mk mv) (fun v ob'=>v= .osl big 1 (l.filter fun x=> !dS J rs σ a x).length∧ob'=ar (o8B J W (l.filter fun x=> !dS J rs σ a x) σ (tst now a l) mk mv)):=by
 obtain ⟨i,hi,hi1,hi2⟩:=jg l (dS J rs σ a)
 obtain ⟨hia,hib⟩:=sH hi hi1 hi2
 have hidx:=qj J hJ W σ now hn mk mv a ha hσ rs hl hr l n hln hn1 i hi1 hi2
 refine FnO.of func150 rfl ntmps150 (by simp) fun m0 w0 F R0=>?_
 clear hi hi1 hi2
 refine Z1 rfl rfl ?_
 refine Z2 rfl rfl rfl ?_
 refine Rs 10 rfl rfl (ah [big,1000001,1000002,1000003,1000004,1000005,1000006,1000007] 0 call194 hidx rfl rfl rfl rfl ⟨rfl,rfl,rfl,rfl,rfl,rfl,rfl,rfl,trivial⟩ (by decide) rfl) ?_
 refine A1 rfl ?_
 refine Z2 rfl rfl rfl ?_
 refine Gc rfl rfl (fun hc12=>?_) (fun hc12=>?_)
 ·have hie:i= -1:=by simpa using hc12
  have hf:(l.filter fun x=> !dS J rs σ a x)=l:=List.filter_eq_self.2 fun x hx=>by rw [hia hie x hx];rfl
  refine Z2 rfl rfl rfl ?_
  refine Gt rfl ?_
  exact ⟨[(4,.osl big 1 n)],o8B J W l σ (tst now a l) mk mv,[.osl big 1 n],Io (aS rfl) ⟨by kernel_rfl,by kernel_rfl,by kernel_rfl,Eq.trans (b:=some (Ob.cells 9 (aA (tst now a (l.take (if i<0 then n else i.toNat+1)))))) (by kernel_rfl) (by rw [hie,if_pos (by decide),List.take_of_length_le (by omega)]),by kernel_rfl,by kernel_rfl,by kernel_rfl,by kernel_rfl,trivial⟩ rfl rfl,rfl,rfl,rfl,by rw [hf,hln];rfl,by rw [hf]⟩
 ·have hne:¬ i= -1:=by intro e;rw [e] at hc12;simp at hc12
  obtain ⟨i0,rfl,hi0,hft⟩:=hib hne
  refine Il ?_
  refine Z3 rfl rfl rfl rfl ?_
  refine Gl rfl (st:=fun x_0:Nat×Nat×List ByteArray=>mkS [(0,.osl big 1 n),(1,c1B a rs),(5,.pv (.int .i64 x_0.2.1)),(6,.pv (.int .i64 x_0.1))] [(big,cB x_0.2.2),(1000001,.mix 139 [.ptr 1000002 0]),(1000002,oB W 1000006 1000003 J.S.attrs.length 1000004 1000005),(1000003,.cells 9 (aA (tst now a (l.take x_0.1)))),(1000004,.cells 4 (ay (stL σ J.S.attrs.length))),(1000005,.mp mk mv),(1000006,oX2 J 1000007),(1000007,.mp J.pk J.pv)] 0)
   (I:=fun x_0=>((x_0.1≤n∧x_0.2.1<x_0.1)∧x_0.2.2.length=n)∧(x_0.2.2.drop x_0.1=l.drop x_0.1∧x_0.2.2.take x_0.2.1=(l.take x_0.1).filter fun x=> !dS J rs σ a x)∧x_0.2.1=((l.take x_0.1).filter fun x=> !dS J rs σ a x).length) (μ:=fun x_0=>n-x_0.1) (x0:=(i0+1,i0,l)) (Io (aS rfl) ⟨by kernel_rfl,by kernel_rfl,by kernel_rfl,Eq.trans (b:=some (Ob.cells 9 (aA (tst now a (l.take (if (i0:Int)<0 then n else (i0:Int).toNat+1)))))) (by kernel_rfl) (by rw [if_neg (by omega)];rfl),by kernel_rfl,by kernel_rfl,by kernel_rfl,by kernel_rfl,trivial⟩ rfl rfl) (⟨⟨⟨by simp only;omega,by simp only;omega⟩,hln⟩,⟨rfl,by simp only;rw [hft]⟩,by simp only;rw [hft,List.length_take];omega⟩) ?_
  rintro ⟨k,m,q⟩ ⟨⟨⟨hk,hmk⟩,hql⟩,⟨hqd,hqt⟩,hme⟩
  try simp only at hk hmk hql hqd hqt hme ⊢
  have hqln:(aA q).length=n:=by rw [List.length_map,hql]
  refine Z4 rfl rfl rfl rfl rfl ?_
  refine Gp rfl rfl (fun hc19=>?_) (fun hc19=>?_)
  ·have hlt:k<l.length:=by omega
   have hq0:q[k]'(by omega)=l[k]:=by have:=congrArg (fun z=>z[0]?) hqd;simp only [List.getElem?_drop,Nat.add_zero] at this;rw [List.getElem?_eq_getElem (by omega),List.getElem?_eq_getElem hlt] at this;exact Option.some.inj this
   have hv:(aA q)[k*1]? =some (.str l[k]):=by rw [Nat.mul_one,List.getElem?_map,List.getElem?_eq_getElem (by omega),hq0];rfl
   have hgk:=mE J hJ W σ (tst now a (l.take k)) (ki hn ha hσ _) mk mv a ha hσ rs hl hr l[k]
   rw [jJ hlt] at hgk
   rw [show (rs.any fun r=> !(bR (RJ J) r (put σ a l[k])))=dS J rs σ a l[k] from rfl] at hgk
   have hdrop:q.drop (k+1)=l.drop (k+1):=by have:=congrArg (fun z=>z.drop 1) hqd;simpa only [List.drop_drop] using this
   have hfs:(l.take (k+1)).filter (fun x=> !dS J rs σ a x)=(l.take k).filter (fun x=> !dS J rs σ a x)++if dS J rs σ a l[k]=true then [] else [l[k]]:=by rw [List.take_succ_eq_append_getElem hlt];exact kR _ _ _
   generalize hbk:dS J rs σ a l[k]=b at*
   refine Il ?_
   refine Z2 rfl rfl rfl ?_
   refine Rs 24 rfl rfl (aa k underlying47 sz9 rfl rfl rfl rfl (by omega)) ?_
   refine Rs 25 rfl rfl (aC ⟨_,underlying9,rfl⟩ rfl rfl hv) ?_
   refine A1 rfl ?_
   refine Z2 rfl rfl rfl ?_
   refine Rs 28 rfl rfl (bJ [1000001,1000002,1000003,1000004,1000005,1000006,1000007] 0 call151 hgk rfl rfl rfl rfl rfl rfl ⟨rfl,rfl,rfl,rfl,rfl,rfl,rfl,trivial⟩ (by decide) rfl) ?_
   refine A1 rfl ?_
   refine Gc rfl rfl (fun hc29=>?_) (fun hc29=>?_)
   ·refine Z3 rfl rfl rfl rfl ?_
    refine Rs 33 rfl rfl (aa m underlying47 sz9 rfl rfl rfl rfl (by omega)) ?_
    refine RL.step (d:=none) rfl rfl (aF sz9 rfl rfl rfl rfl (by omega)) ?_
    refine Z3 rfl rfl rfl rfl ?_
    refine Z3 rfl rfl rfl rfl ?_
    exact ⟨(k+1,m+1,q.set m l[k]),Io (aS rfl) ⟨Eq.trans (b:=some (Ob.cells 9 ((aA q).set (m*1) (.str l[k])))) (by kernel_rfl) (congrArg (fun c=>some (Ob.cells 9 c)) (jS l[k])),by kernel_rfl,by kernel_rfl,by kernel_rfl,by kernel_rfl,by kernel_rfl,by kernel_rfl,by kernel_rfl,trivial⟩ rfl rfl,⟨⟨⟨by simp only;omega,by simp only;omega⟩,by simp only [List.length_set];exact hql⟩,⟨by simp only;rw [List.drop_set_of_lt (by omega)];exact hdrop,by simp only;rw [hfs,if_neg (by intro e;rw [e] at hc29;simp at hc29), ← hqt];exact du (by omega)⟩,by simp only;rw [hfs,if_neg (by intro e;rw [e] at hc29;simp at hc29),List.length_append, ← hme];rfl⟩,by simp only;omega⟩
   ·refine Il ?_
    refine Z3 rfl rfl rfl rfl ?_
    exact ⟨(k+1,m,q),Io (aS rfl) (aO (by kernel_rfl)) rfl rfl,⟨⟨⟨by simp only;omega,by simp only;omega⟩,hql⟩,⟨hdrop,by simp only;rw [hfs,if_pos (by simpa using hc29),List.append_nil];exact hqt⟩,by simp only;rw [hfs,if_pos (by simpa using hc29),List.append_nil];exact hme⟩,by simp only;omega⟩
  ·have hkn:l.take k=l:=List.take_of_length_le (by omega)
   rw [hkn] at hqt hme
   have hfin:(aA q).take (m*1)=aA (l.filter fun x=> !dS J rs σ a x):=by rw [Nat.mul_one, ← List.map_take,hqt]
   refine Gx rfl ?_
   refine Z2 rfl rfl rfl ?_
   refine Rs 38 rfl rfl (dK m underlying47 sz9 rfl rfl rfl rfl (by omega)) ?_
   refine RL.step (d:=none) rfl rfl (kn uq rfl rfl rfl (by omega)) ?_
   refine Z2 rfl rfl rfl ?_
   refine Rs 41 rfl rfl (dC m underlying47 sz9 rfl rfl rfl rfl (by omega)) ?_
   refine A1 rfl ?_
   refine Gt rfl ?_
   exact ⟨[(4,.osl big 1 m)],o8B J W (l.filter fun x=> !dS J rs σ a x) σ (tst now a l) mk mv,[.osl big 1 m],Io (aS rfl) ⟨Eq.trans (b:=some (Ob.cells 9 ((aA q).take (m*1)))) (by kernel_rfl) (congrArg (fun c=>some (Ob.cells 9 c)) hfin),by kernel_rfl,by kernel_rfl,Eq.trans (b:=some (Ob.cells 9 (aA (tst now a (l.take k))))) (by kernel_rfl) (by rw [hkn]),by kernel_rfl,by kernel_rfl,by kernel_rfl,by kernel_rfl,trivial⟩ rfl rfl,rfl,rfl,rfl,by rw [hme];rfl,rfl⟩
end
end Go.Proofs.YtjlikknopfnllaaGreatDoor
