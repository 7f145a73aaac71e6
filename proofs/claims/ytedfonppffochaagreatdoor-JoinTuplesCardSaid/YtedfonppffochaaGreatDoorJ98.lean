/- Lemmas. No condition. -/
import Derived.Lib.Builder
import Derived.Lib.UnsafeStr
import Derived.Lib.AppendStr
import Derived.Laws.Externs
import Derived.Laws.Pointers
import Derived.Test.YtedfonppffochaaGreatDoorJ97
set_option maxRecDepth 100000
set_option maxHeartbeats 4000000
open Go.RowKit Go.Proofs.Tryz
namespace Go.Proofs.YtedfonppffochaaGreatDoor
namespace Jn
set_option autoImplicit false
def bG:SR Nat:=⟨0,1,Nat.add,Nat.mul,Pe,Mt,Ny,Nu,MU,Nat.one_mul,OP,Nat.add_mul⟩
def aU:SR Bool:=⟨false,true,or,and,Bool.or_assoc,Bool.false_or,M7,OC,Bool.and_comm,NX,Bool.false_and,fun a b c=>by cases a<;>cases b<;>cases c<;>rfl⟩
section
variable {α:Type} {cd:Int->Asg α->List α} {D E:Int->List Int}
theorem xD {R:Type} (S:SR R) (vs:List Int) (τ:Asg α):wts S (fun _ _=>S.one) vs τ=S.one:=by
 induction vs with
 | nil=>rfl
 | cons v vs ih=>rw [wts,ih,S.one_mul]
theorem BQ {β:Type} (l:List β):eg bG (l.map fun _=>1)=l.length:=by
 induction l with
 | nil=>rfl
 | cons a l ih=>rw [oy,eg,ih,AS,ON];rfl
theorem xo {β:Type} (l:List β):eg aU (l.map fun _=>true)= !l.isEmpty:=by
 cases l with
 | nil=>rfl
 | cons a l=>rw [oy,eg];rfl
def cntL (cd:Int->Asg α->List α) (ts:List Tr) (σ:Asg α):Nat:=valL bG cd (fun _ _=>1) ts σ
def GW (cd:Int->Asg α->List α) (ts:List Tr) (σ:Asg α):Bool:=valL aU cd (fun _ _=>true) ts σ
theorem qF {R:Type} {c:R} (hd:∀ v (σ τ:Asg α),(∀ a∈D v,σ a=τ a)->cd v σ=cd v τ):Dep cd (fun _ _=>c) D (fun _=>[]):=⟨hd,fun _ _ _ _=>rfl⟩
theorem BN (hd:∀ v (σ τ:Asg α),(∀ a∈D v,σ a=τ a)->cd v σ=cd v τ) {ts:List Tr} (hs:SepL D (fun _=>[]) ts) (σ:Asg α):cntL cd ts σ=(enW cd (vsL ts) σ).length:=by
 rw [cntL,valL_sum bG (qF hd) ts σ hs,<-BQ];exact cx bG fun τ _=>xD bG _ τ
theorem tY (hd:∀ v (σ τ:Asg α),(∀ a∈D v,σ a=τ a)->cd v σ=cd v τ) {ts:List Tr} (hs:SepL D (fun _=>[]) ts) (σ:Asg α):GW cd ts σ= !(enW cd (vsL ts) σ).isEmpty:=by
 rw [GW,valL_sum aU (qF hd) ts σ hs,<-xo];exact cx aU fun τ _=>xD aU _ τ
def enT (cd:Int->Asg α->List α) (br:Int->Asg α->Bool):List Int->Asg α->List (Asg α)
 | [],σ=>[σ]
 | v::vs,σ=>(cd v σ).flatMap fun x=>if br v (put σ v x)=true then enT cd br vs (put σ v x) else []
mutual
def Tr.Ch (ch:Int->List Tr):Tr->Prop
 | .node v ts=>ch v=ts/\ChL ch ts
def ChL (ch:Int->List Tr):List Tr->Prop
 | []=>True
 | t::ts=>t.Ch ch/\ChL ch ts
end
mutual
theorem enT_tree (hd:∀ v (σ τ:Asg α),(∀ a∈D v,σ a=τ a)->cd v σ=cd v τ) {ch:Int->List Tr} (rest:List Int) (hr:∀ σ,enT cd (fun v τ=>GW cd (ch v) τ) rest σ=enW cd rest σ):
  ∀ (t:Tr) (σ:Asg α),t.Sep D (fun _=>[])->t.Ch ch->enT cd (fun v τ=>GW cd (ch v) τ) (t.vs++rest) σ=enW cd (t.vs++rest) σ
 | .node v ts,σ,hs,hc=>by
   rw [Tr.Sep] at hs;rw [Tr.Ch] at hc;rw [Tr.vs,MX,enT,enW]
   congr 1
   funext x;rw [hc.1,enT_forest hd rest hr ts _ hs.2 hc.2,tY hd hs.2];split
   ·rfl
   ·rename_i h;rw [ni];have:enW cd (vsL ts) (put σ v x)=[]:=by simpa using h
    rw [this];rfl
theorem enT_forest (hd:∀ v (σ τ:Asg α),(∀ a∈D v,σ a=τ a)->cd v σ=cd v τ) {ch:Int->List Tr} (rest:List Int) (hr:∀ σ,enT cd (fun v τ=>GW cd (ch v) τ) rest σ=enW cd rest σ):
  ∀ (ts:List Tr) (σ:Asg α),SepL D (fun _=>[]) ts->ChL ch ts->enT cd (fun v τ=>GW cd (ch v) τ) (vsL ts++rest) σ=enW cd (vsL ts++rest) σ
 | [],σ,_,_=>by rw [vsL,MZ];exact hr σ
 | t::ts,σ,hs,hc=>by
   rw [SepL] at hs;rw [ChL] at hc;rw [vsL,NG];exact enT_tree hd (vsL ts++rest) (fun τ=>enT_forest hd rest hr ts τ hs.2.1 hc.2) t σ hs.1 hc.1
end
end
section
variable {α:Type} [DecidableEq α]
def gf (σ:Asg α) (v:Int):Asg α:=fun b=>if b=v then none else σ b
def bC (P:Rels α) (sd:List α->List α) (v:Int) (σ:Asg α):List α:=match bw P v with
 | []=>[]
 | f::_=>(sd (((P.rows f).filter (agr (P.at f) (gf σ v))).filterMap fun row=>row[(P.at f).idxOf v]?)).filter fun x=>(bw P v).all fun r=>Bd P r (put σ v x)
def dom (P:Rels α) (v:Int):List Int:=(bw P v).flatMap P.at
omit [DecidableEq α] in
theorem Dt {P:Rels α} {v:Int} {r:Nat} (h:r∈bw P v):v∈P.at r:=by simpa using (L9.1 h).2
theorem kI (P:Rels α) (sd:List α->List α) (v:Int) (σ τ:Asg α) (h:∀ a∈dom P v,σ a=τ a):bC P sd v σ=bC P sd v τ:=by
 unfold bC;have hr:∀ r∈bw P v,∀ a∈P.at r,σ a=τ a:=fun r hr a ha=>h a (Mq.2 ⟨r,hr,ha⟩)
 cases hw:bw P v with
 | nil=>rfl
 | cons f l=>
   simp only;rw [hw] at hr;have e1:((P.rows f).filter (agr (P.at f) (gf σ v)))=((P.rows f).filter (agr (P.at f) (gf τ v))):=by
    refine List.filter_congr fun row _=>ib (fun a ha=>?_) row
    unfold gf;split
    ·rfl
    ·exact hr f Ps a ha
   rw [e1];refine List.filter_congr fun x _=>?_
   rw [Mg,uv,uv];constructor
   ·intro k r hm;rw [<-k r hm];exact (fZ fun a ha=>e8 (hr r hm) v x a ha).symm
   ·intro k r hm;rw [<-k r hm];exact fZ fun a ha=>e8 (hr r hm) v x a ha
omit [DecidableEq α] in
theorem Fi {A:List Int} {row:List α} {v:Int} (hv:v∈A) (hl:row.length=A.length):∃ x,row[A.idxOf v]? =some x/\(v,x)∈A.zip row:=by
 have h1:A.idxOf v<A.length:=NH hv;have h2:A.idxOf v<row.length:=Po;refine ⟨row[A.idxOf v],kJ h2,?_⟩;have h3:(A.zip row)[A.idxOf v]'Pt=(A[A.idxOf v],row[A.idxOf v]):=Oj;have h4:A[A.idxOf v]=v:=List.getElem_idxOf h1;rw [h4] at h3;rw [<-h3];exact aJ _
theorem Dv {P:Rels α} {sd:List α->List α} (hn:∀ l,(sd l).Nodup) (hm:∀ l x,x∈sd l↔x∈l) {v:Int} (hw:bw P v≠[])
  (hl:∀ r∈bw P v,∀ row∈P.rows r,row.length=(P.at r).length) (σ:Asg α):IsCand P v σ (bC P sd v σ):=by
 unfold bC;cases hw2:bw P v with
 | nil=>exact absurd hw2 hw
 | cons f l=>
   simp only;refine ⟨(hn _).filter _,fun x=>?_⟩;rw [hw2];rw [L9,uv];constructor
   ·exact fun h=>h.2
   ·intro h;refine ⟨?_,h⟩;rw [hm,List.mem_filterMap];have hf:=h f Ps;unfold Bd at hf;obtain ⟨row,h1,h2⟩:=My.1 hf;have hvf:v∈P.at f:=Dt (P:=P) (v:=v) (r:=f) (by rw [hw2];simp);obtain ⟨y,hy,hz⟩:=Fi hvf (hl f (by rw [hw2];simp) row h1);have h3:=uv.1 (show ((P.at f).zip row).all _=true from h2) (v,y) hz;simp only [cG,L6] at h3;refine ⟨row,L9.2 ⟨h1,zw (fun a z e=>?_) h2⟩,by rw [hy,h3]⟩;unfold gf at e;split at e
    ·cases e
    ·rename_i hav;rw [dZ _ _ hav];exact e
end
end Jn
namespace Jn
open Mk
def a7 (P:List Int):Nat->Int->Tr
 | 0,v=> .node v []
 | k+1,v=> .node v ((al P v).map (a7 P k))
theorem aX {P:List Int} {v c:Int}:c∈al P v↔∃ n:Nat,n<P.length/\c=(n:Int)/\P.getD n 0=v:=by
 unfold al;rw [L9,bx];constructor
 ·rintro ⟨⟨a,ha,rfl⟩,h⟩;exact ⟨a,ha,O,by simpa using h⟩
 ·rintro ⟨a,ha,rfl,h⟩;exact ⟨⟨a,ha,O⟩,by simpa using h⟩
theorem kD (P:List Int) (v:Int):(al P v).Nodup:=(cJ _).filter _
theorem dm (ts:List Tr):vsL ts=ts.flatMap Tr.vs:=by
 induction ts with
 | nil=>rfl
 | cons t ts ih=>rw [vsL,ih,M8]
theorem rL {α β:Type} (p:α->Bool) (f:α->List β) (l:List α):(l.filter p).flatMap f=l.flatMap fun a=>if p a=true then f a else []:=by
 induction l with
 | nil=>rfl
 | cons a l ih=>
   rw [MW,M8,<-ih];split
   ·rw [M8]
   ·rw [MZ]
mutual
theorem tree_vs (P:List Int):∀ (k:Nat) (v:Int),(a7 P k v).vs=v::fy P k v
 | 0,v=>by rw [a7,Tr.vs,vsL,fy]
 | k+1,v=>by rw [a7,Tr.vs,kids_vs P k v]
theorem kids_vs (P:List Int):∀ (k:Nat) (v:Int),vsL ((al P v).map (a7 P k))=fy P (k+1) v
 | k,v=>by
   rw [dm,List.flatMap_map,fy];unfold al;rw [rL]
   congr 1
   funext a;rw [tree_vs P k a];simp only [Nt]
end
theorem ij (P:List Int):vsL ((al P (-1)).map (a7 P P.length))=aD P:=kids_vs P P.length (-1)
theorem getD_at {P:List Int} {n:Nat} (hn:n<P.length):P.getD n 0=P[n]:=by simp [List.getD,hn]
theorem map_inj {α β:Type} {f:α->β}:∀ {l:List α},(l.map f).Nodup->∀ {a b:α},a∈l->b∈l->f a=f b->a=b
 | x::l,h,a,b,ha,hb,e=>by
   rw [oy,NO] at h;rcases sh.1 ha with ha | ha<;>rcases sh.1 hb with hb | hb
   ·rw [ha,hb]
   ·exact absurd (IT.2 ⟨b,hb,by rw [<-e,ha]⟩) h.1
   ·exact absurd (IT.2 ⟨a,ha,by rw [e,hb]⟩) h.1
   ·exact map_inj h.2 ha hb e
section
variable {P:List Int} (hP:UpOk P)
include hP
theorem yw {m c c':Nat} (hm:m<P.length) (hc:(c:Int)∈(m:Int)::bp P m) (hc':(c':Int)∈(m:Int)::bp P m) (h:P.getD c 0=P.getD c' 0):c=c':=by
 have hn:(((m:Int)::bp P m).map fun a=>P.getD a.toNat 0).Nodup:=by rw [kB hP m hm];exact pG hP hm
 have:=map_inj hn hc hc' (by simpa using h);omega
theorem bO {c:Nat} {v:Nat} (hc:c<P.length) (hv:v<P.length) (h:P.getD c 0=(v:Int)):bp P c=(v:Int)::bp P v:=
 ik hP hc hv (by rw [<-getD_at hc];exact h)
theorem gR:∀ (k:Nat) (v:Nat),v<P.length->∀ x∈(a7 P k v).vs,∃ m:Nat,m<P.length/\x=(m:Int)/\(v:Int)∈(m:Int)::bp P m
 | 0,v,hv,x,hx=>by
   rw [a7,Tr.vs,vsL,o7] at hx;exact ⟨v,hv,hx,Ps⟩
 | k+1,v,hv,x,hx=>by
   rw [a7,Tr.vs,dm,List.flatMap_map] at hx;rcases sh.1 hx with rfl | hx
   ·exact ⟨v,hv,O,Ps⟩
   ·obtain ⟨c,hc,hx⟩:=Mq.1 hx;obtain ⟨n,hn,rfl,hp⟩:=aX.1 hc;obtain ⟨m,hm,rfl,hu⟩:=gR k n hn x hx;have e:=bO hP hn hv hp;refine ⟨m,hm,O,L7 _ ?_⟩;rcases sh.1 hu with h | h
    ·have:n=m:=Po;subst this;rw [e];simp
    ·exact fH hP hm (by rw [e];simp) h
theorem lu {v:Nat} (hv:v<P.length):(bp P v).length+1<=P.length:=by
 have h1:=(jm hP hv).length_eq;have h2:=Mn (fun a=>decide (a∈(v:Int)::bp P v)) (upZ P.length);rw [h1,a8,AS] at h2;exact h2
theorem ln {v:Nat} (hv:v<P.length) (h:P.length<=1+(bp P v).length):al P v=[]:=by
 rw [List.eq_nil_iff_forall_not_mem];intro c hc;obtain ⟨n,hn,rfl,hp⟩:=aX.1 hc;have h1:=lu hP hn;rw [bO hP hn hv hp,AS] at h1;omega
theorem iy:∀ (k:Nat) (v:Nat),v<P.length->P.length<=k+1+(bp P v).length->a7 P (k+1) v=a7 P k v
 | 0,v,hv,h=>by rw [a7,a7,ln hP hv Po];rfl
 | k+1,v,hv,h=>by
   rw [a7,a7]
   congr 1
   refine Mr fun c hc=>?_
   obtain ⟨n,hn,rfl,hp⟩:=aX.1 hc;have e:=bO hP hn hv hp;exact iy k n hn (by rw [e,AS];omega)
theorem qZ:∀ (j k:Nat) (v:Nat),v<P.length->P.length<=k+1+(bp P v).length->a7 P (k+j) v=a7 P k v
 | 0,_,_,_,_=>rfl
 | j+1,k,v,hv,h=>by
   rw [show k+(j+1)=(k+j)+1 by omega,iy hP (k+j) v hv Po];exact qZ j k v hv h
theorem Ga {v:Nat} (hv:v<P.length):a7 P P.length v= .node v ((al P v).map (a7 P P.length)):=by
 rw [<-iy hP P.length v hv Po,a7]
theorem zG:∀ (k:Nat) (v:Nat),v<P.length->P.length<=k+1+(bp P v).length->k<=P.length->(a7 P k v).Ch fun a=>(al P a).map (a7 P P.length)
 | 0,v,hv,h,_=>by
   rw [a7,Tr.Ch,ln hP hv Po];exact ⟨O,Pw⟩
 | k+1,v,hv,h,hk=>by
   rw [a7,Tr.Ch];have hc:∀ c∈al P v,∃ n:Nat,n<P.length/\c=(n:Int)/\P.length<=k+1+(bp P n).length:=fun c hc=>by
    obtain ⟨n,hn,e,hp⟩:=aX.1 hc;exact ⟨n,hn,e,by rw [bO hP hn hv hp,AS];omega⟩
   constructor
   ·refine Mr fun c h1=>?_
    obtain ⟨n,hn,rfl,h2⟩:=hc c h1;have:=qZ hP (P.length-k) k n hn h2;rwa [show k+(P.length-k)=P.length by omega] at this
   ·have key:∀ l:List Int,(∀ c∈l,c∈al P v)->ChL (fun a=>(al P a).map (a7 P P.length)) (l.map (a7 P k)):=by
     intro l;induction l with
     | nil=>intro _;trivial
     | cons c l ih=>
       intro hl;obtain ⟨n,hn,rfl,h2⟩:=hc c (hl c Ps);rw [oy,ChL];exact ⟨zG k n hn h2 Po,ih fun x hx=>hl x (by simp [hx])⟩
    exact key _ fun _ h=>h
end
section
variable {S:Sch} {P:List Int} (h:OrdOk S P) {D:Int->List Int} (hD:∀ w,∀ a∈D w,∃ r∈S.rels,w∈r.2/\a∈r.2)
include h hD
theorem I5 {k:Nat} {v:Int} {c c':Int} (hc:c∈al P v) (hc':c'∈al P v) (hne:c≠c'):∀ w∈(a7 P k c).vs,∀ a∈D w,a∉(a7 P k c').vs:=by
 intro w hw a ha ha2;have hP:=h.dP;obtain ⟨n,hn,rfl,hp⟩:=aX.1 hc;obtain ⟨n',hn',rfl,hp'⟩:=aX.1 hc';obtain ⟨m,hm,rfl,hu⟩:=gR hP k n hn w hw;obtain ⟨m',hm',rfl,hu'⟩:=gR hP k n' hn' a ha2;obtain ⟨r,hr,h1,h2⟩:=hD _ _ ha;have hs:P.getD n 0=P.getD n' 0:=by rw [hp,hp']
 have up:∀ {x y z:Nat},z<P.length->(x:Int)∈(y:Int)::bp P y->(y:Int)∈(z:Int)::bp P z->(x:Int)∈(z:Int)::bp P z:=by
  intro x y z hz h3 h4;rcases sh.1 h4 with e | h4
  ·have:y=z:=Po;subst this;exact h3
  ·rcases sh.1 h3 with e | h3
   ·have:x=y:=Po;subst this;exact L7 _ h4
   ·exact L7 _ (fH hP hz h3 h4)
 have fin:n=n':=by
  rcases iU (h.rt r hr) h1 h2 with e | e | e
  ·have:m=m':=Po;subst this;exact yw hP hm hu hu' hs
  ·exact yw hP hm' (up hm' hu (L7 _ e)) hu' hs
  ·exact yw hP hm hu (up hm hu' (L7 _ e)) hs
 exact hne (by rw [fin])
theorem oe {k:Nat} {v:Int} (ht:∀ c∈al P v,(a7 P k c).Sep D fun _=>[]):∀ (l:List Int),l.Nodup->(∀ c∈l,c∈al P v)->SepL D (fun _=>[]) (l.map (a7 P k))
 | [],_,_=>trivial
 | c::l,hn,hl=>by
   rw [NO] at hn;have hne:∀ c'∈l,c≠c':=fun c' hc' e=>hn.1 (by rw [e];exact hc')
   rw [oy,SepL,dm,List.flatMap_map];refine ⟨ht c (hl c Ps),oe ht l hn.2 fun x hx=>hl x (by simp [hx]),fun w hw=>⟨fun a ha ha2=>?_,fun a ha=>absurd ha Ps⟩,fun w hw=>⟨fun a ha ha2=>?_,fun a ha=>absurd ha Ps⟩⟩
   ·obtain ⟨c',hc',ha2⟩:=Mq.1 ha2;exact I5 h hD (hl c Ps) (hl c' (by simp [hc'])) (hne c' hc') w hw a ha ha2
   ·obtain ⟨c',hc',hw⟩:=Mq.1 hw;exact I5 h hD (hl c' (by simp [hc'])) (hl c Ps) (fun e=>hne c' hc' e.symm) w hw a ha ha2
theorem u3:∀ (k:Nat) (v:Int),(a7 P k v).Sep D fun _=>[]
 | 0,v=>by rw [a7,Tr.Sep];exact ⟨fun _ ha=>absurd ha Ps,Pw⟩
 | k+1,v=>by
   rw [a7,Tr.Sep];exact ⟨fun _ ha=>absurd ha Ps,oe h hD (fun c _=>u3 k c) _ (kD P v) fun _ hc=>hc⟩
theorem w5 (k:Nat) (v:Int):SepL D (fun _=>[]) ((al P v).map (a7 P k)):=oe h hD (fun c _=>u3 h hD k c) _ (kD P v) fun _ hc=>hc
end
end Jn
section
section
variable {C:Ctx} {n:Nat} {σ:St} {dst:Option Tmp} {ty:TypeId} {ts:Array TypeId} {pos:String} {after:Array Edge} {gd:Option (Nat×Bool)}
theorem ah {f:FuncId} {xs:Array Operand} {args:List V} {os:List (Nat×Ob)} {k':Nat} {r:V} {X:Nat->Option Ob} (ids:List Nat) (base:Nat) (hc:bN C.P f) (hf:FnO C.P f ids.length k' args os (fun v ob'=>v=r/\ob'=X)) (hxs:xs.toList.map (σ.ev n)=V.renL (cm ids base) args)
  (ha:V.allL (okR ids.length 0) args=true) (hos:os.map (·.1)=(List.range ids.length).map (big+ ·)) (hob:os.all (fun p=>p.2.all (okR ids.length 0))=true) (hobs:dD σ (cm ids base) os)
  (hnd:ids.Nodup) (hav:(nwO base k').all σ.av=true):
  XJ C n ⟨dst,.call { callee:= .value (.func f),args:=xs,argTypes:=ts },ty,pos,after,gd⟩ σ ⟨r.ren (cm ids base),wrO ids base k' X,nwO base k'⟩:=
 dU ids base hc hxs ha hos hob hobs hnd hav hf (by rintro _ _ ⟨rfl,rfl⟩;rfl)
end
end
section
section
variable {C:Ctx} {n:Nat} {σ:St} {dst:Option Tmp} {ty t:TypeId} {pos:String} {after:Array Edge} {gd:Option (Nat×Bool)} {x:Operand}
theorem kn {e T:TypeId} {z:Value} {bytes id off k:Nat} {cs:List PV} (he:ElemIs C.P t e z 1 bytes) (h1:z.oneCell'=true) (hx:σ.ev n x= .tsl id off k) (ho:σ.ob id=some (.cells T cs)) (hle:off+k<=cs.length):
  XJ C n ⟨dst,.call { callee:= .builtin .clear,args:= #[x],argTypes:= #[t] },ty,pos,after,gd⟩ σ ⟨.pv (.tup []),[(id,some (.cells T (cs.take off)))],[]⟩:=by
 rintro a w Q ⟨m,R,hw⟩;obtain ⟨b,N,hm,arr,hb,hN,hle',hr⟩:=hw.live ho;have h:=hw.ev x;rw [hx] at h;simp only [Rel] at h;obtain ⟨hav,A,c,hev,hA⟩:=h;have hz:z.cells= #[z]:=by
  generalize z=u at h1;cases u<;>simp [Value.oneCell'] at h1<;>rfl
 have hzr:∀ w,(zeroValue e).run C.P w= .ok z w:=fun w=>by
  have:=he.info;cases hq:C.P.info? e with
  | none=>simp [hq] at this
  | some i=>simp [hq] at this;simp [zeroValue,typeInfo,hq,this.1]
 rcases Mv k with h0 | hp
 ·subst h0;have hrun:(execOp a.eval ⟨dst,.call { callee:= .builtin .clear,args:= #[x],argTypes:= #[t] },ty,pos,after,gd⟩).run C.P w= .ok (.value (.tuple #[])) w:=by
   cases A<;>simp [execOp,resolve,invoke,builtin,Builtin.clear_,hev,run_underlying he.u,Result.andThen]
  unfold Oper.wp;rw [hrun];have hw':=hw.turn hm w O (fun _ _=>rfl) O O O (.cells T (cs.take off)) (fun hR=>⟨arr,hb,hN,Pt,by
   have:=hr.take off;rw [Oa] at this;rw [AI];exact this⟩)
  refine ⟨_,O,m,R,?_⟩;rw [Iw];exact SW.put hw' dst (by simp only [Rel,RelP];exact ⟨[],O,RelPL.nil⟩)
 ·have hA':=hA hp b N hm;subst hA';have hrep:(Builtin.zeroCells z.cells k).toList=List.replicate k z:=by
   rw [hz];simp [Builtin.zeroCells];apply MJ
   ·simp
   ·intro i h1 h2;simp [Nat.mod_one]
  have hst:=run_storeCells_at (P:=C.P) b off T (List.replicate k z) 0 arr w hb Pt (fun v hv=>by rw [(List.mem_replicate.1 hv).2];exact h1);simp only [Ny] at hst;have hk0:k≠0:=Po;have hrun:(execOp a.eval ⟨dst,.call { callee:= .builtin .clear,args:= #[x],argTypes:= #[t] },ty,pos,after,gd⟩).run C.P w= .ok (.value (.tuple #[])) (w.setRow b (arr.toList.take off++List.replicate k z++arr.toList.drop (off+(List.replicate k z).length)).toArray):=by
   cases k with
   | zero=>omega
   | succ k=>simp [execOp,resolve,invoke,builtin,Builtin.clear_,hev,run_underlying he.u,hzr,hrep,hst,Result.andThen]
  unfold Oper.wp;rw [hrun];have hw':=hw.store hm arr (arr.toList.take off++List.replicate k z++arr.toList.drop (off+(List.replicate k z).length)).toArray T hb Pt (.cells T (cs.take off)) (fun w' hR hb'=>⟨_,hb',Pt,Pt,by
   have:=(hr.take off).mono hR;rw [Oa] at this;rw [AI];have e:(arr.toList.take off++List.replicate k z++arr.toList.drop (off+(List.replicate k z).length)).toArray.toList.take (min off cs.length)=arr.toList.take (min off cs.length):=by
    show List.take _ (_++_++_)=_;rw [NG,OD Pt,Oa]
    congr 1
    omega
   rw [e];exact this⟩)
  refine ⟨_,O,m,R,?_⟩;rw [Iw];exact SW.put hw' dst (by simp only [Rel,RelP];exact ⟨[],O,RelPL.nil⟩)
theorem EI {e:TypeId} {id off k:Nat} (hu:C.P.underlying t=some (.slice e)) (hx:σ.ev n x= .tsl id off k):
  XJ C n ⟨dst,.call { callee:= .builtin .len,args:= #[x],argTypes:= #[t] },ty,pos,after,gd⟩ σ ⟨.pv (.int .i64 k),[],[]⟩:=
 .val fun a w m R hw=>by
  have h:=hw.ev x;rw [hx] at h;simp only [Rel] at h;obtain ⟨hav,A,c,hev,hA⟩:=h;exact ⟨.int .i64 k,by cases A<;>simp [execOp,resolve,invoke,builtin,Builtin.len_,hev,run_underlying hu,goInt,Result.andThen],by simp only [Rel,RelP]⟩
theorem eR {T e:TypeId} {s k id off:Nat} {kk:IntKind} {i:Int} {o:Ob} {y:Operand} (j:Nat) (hT:C.P.underlying T=some (.slice e)) (hs:dx C.P e s) (hx:σ.ev n x= .tsl id off k) (ho:σ.ob id=some o) (hy:σ.ev n y= .pv (.int kk i)) (hi:i=(j:Int)) (hj:j<k) (hre:o.real=true:=by rfl):
  XJ C n ⟨dst,.indexAddr T x y,ty,pos,after,gd⟩ σ ⟨.ptr id (off+j*s),[],[]⟩:=
 .val fun a w m R hw=>by
  obtain ⟨b,N,hm,_⟩:=hw.live ho hre;have hx':=hw.ev x;rw [hx] at hx';simp only [Rel] at hx';obtain ⟨hav,A,c,he,hA⟩:=hx';have hA':=hA Po b N hm;subst hA';refine ⟨_,by simp only [execOp,he,hw.int hy,Sem.run_bind,gq hT hs hi hj,Result.andThen_ok];rfl,?_⟩;simp only [Rel];exact ⟨hav,fun b' N' e=>by rw [hm] at e;cases e;rfl⟩
end
end
section
open Mk Jn
structure JD where
 S:Sch
 T:List (List Rw)
 lp:PV
 pk:List PV
 pv:List PV
structure WD where
 ch:PV
 ke:PV
 ho:PV
 wa:PV
 g0:PV
 g1:PV
 g2:PV
 g3:PV
 g4:PV
 g5:PV
 g6:PV
 lf:PV
 wt:PV
structure JOk (J:JD):Prop where
 s:SJn J.S
 n:J.T.length=J.S.rels.length
 l:∀ l∈J.T,l.length<=1000
 v:∀ r (h:r<J.T.length) (h2:r<J.S.rels.length),∀ x∈J.T[r],x.v.length=J.S.rels[r].2.length
structure NowOk (n:Nat) (σ:Asg ByteArray) (now:List ByteArray):Prop where
 l:now.length=n
 e:∀ a (h:a<now.length) x,σ (a:Int)=some x->now[a]=x
 o:∀ a:Int,(∀ i:Nat,i<n->a≠(i:Int))->σ a=none
def stL (σ:Asg ByteArray) (n:Nat):List Bool:=(List.range n).map fun a:Nat=>(σ (a:Int)).isSome
theorem cK (σ:Asg ByteArray) (n:Nat):(stL σ n).length=n:=by simp [stL]
theorem DW {σ:Asg ByteArray} {n a:Nat} (h:a<n):(ay (stL σ n))[a*1]? =some (.bool (σ (a:Int)).isSome):=by simp [stL,h]
theorem kZ {σ:Asg ByteArray} {n a:Nat} (h:a<n) (x:ByteArray):(ay (stL σ n)).set (a*1) (.bool true)=ay (stL (put σ a x) n):=by
 apply MJ
 ·simp [stL]
 ·intro i h1 h2;simp only [Md,xT,stL,List.length_range] at h1;simp only [stL,Oi,Nj,OV,Mi,put];by_cases e:a=i
  ·subst e;simp
  ·rw [kH e,kH Po]
theorem qO {σ:Asg ByteArray} {n a:Nat} (h:a<n):(ay (stL σ n)).set (a*1) (.bool false)=ay (stL (gf σ a) n):=by
 apply MJ
 ·simp [stL]
 ·intro i h1 h2;simp only [Md,xT,stL,List.length_range] at h1;simp only [stL,Oi,Nj,OV,Mi,gf];by_cases e:a=i
  ·subst e;simp
  ·rw [kH e,kH Po]
theorem jS {l:List ByteArray} {a:Nat} (x:ByteArray):(aA l).set (a*1) (.str x)=aA (l.set a x):=by simp [NF]
theorem NowOk.put {n:Nat} {σ:Asg ByteArray} {now:List ByteArray} (h:NowOk n σ now) {a:Nat} (ha:a<n) (x:ByteArray):NowOk n (put σ a x) (now.set a x):=by
 refine ⟨by simp [h.l],fun i hi y e=>?_,fun i hi=>?_⟩
 ·rw [Oi];by_cases ea:a=i
  ·subst ea;rw [cG] at e;cases e;simp
  ·rw [dZ _ _ Po] at e;rw [kH ea];exact h.e i (by simpa using hi) y e
 ·rw [dZ _ _ (hi a ha)];exact h.o i hi
theorem NowOk.un {n:Nat} {σ:Asg ByteArray} {now:List ByteArray} (h:NowOk n σ now) (a:Int):NowOk n (gf σ a) now:=by
 refine ⟨h.l,fun i hi y e=>?_,fun i hi=>?_⟩
 ·unfold gf at e;split at e
  ·cases e
  ·exact h.e i hi y e
 ·unfold gf;split
  ·rfl
  ·exact h.o i hi
theorem cO {σ:Asg ByteArray} {a:Int} {x:ByteArray} (h:σ a=none):gf (put σ a x) a=σ:=by
 funext b;unfold gf put;split
 ·next e=>rw [e,h]
 ·rfl
abbrev sJ (x:Rw):PV:= .agg (eV x)
def cy (J:JD) (r:Nat):List Int:=(J.S.rels.getD r default).2
def dh (J:JD) (r:Nat):List Rw:=J.T.getD r []
def agP (σ:Asg ByteArray) (p:Int×ByteArray):Bool:=match σ p.1 with
 | none=>true
 | some x=>decide (x=p.2)
theorem oM {σ:Asg ByteArray} {a:Int} {y:ByteArray} (h:σ a=none):agP σ (a,y)=true:=by unfold agP;simp only [h]
theorem gW {σ:Asg ByteArray} {a:Int} {x y:ByteArray} (h:σ a=some x):agP σ (a,y)=decide (x=y):=by unfold agP;simp only [h]
theorem pq (A:List Int) (σ:Asg ByteArray) (v:List ByteArray):agr A σ v=(A.zip v).all (agP σ):=by
 unfold agr
 congr 1
 funext p;unfold agP;cases σ p.1 with
 | none=>rfl
 | some x=>simp
theorem Ha {a b:ByteArray} (h:(a.toList !=b.toList)=true):decide (a=b)=false:=Mu fun e=>by subst e;simp at h
theorem G6 {a b:ByteArray} (h:(a.toList !=b.toList)=false):decide (a=b)=true:=IS (bytes_inj (by simpa using h))
theorem pZ {α:Type} {l:List α} {f:α->Bool} {k:Nat} (h:(l.take k).all f=false):l.all f=false:=by
 rw [OG] at*;obtain ⟨x,hx,hf⟩:=h;exact ⟨x,Nl hx,hf⟩
theorem jg {α:Type} (l:List α) (p:α->Bool):∃ i:Int,decide (i>=0)=l.any p/\((∀ k (h:k<l.length),p l[k]=true->(∀ j (h:j<l.length),j<k->p l[j]=false)->i=k)/\((∀ j (h:j<l.length),p l[j]=false)->i= -1)):=by
 by_cases hx:∃ k:Nat,∃ h:k<l.length,p l[k]=true/\∀ j (h:j<l.length),j<k->p l[j]=false
 ·obtain ⟨k,h,h1,h2⟩:=hx;refine ⟨k,?_,fun k' h' a b=>?_,fun a=>?_⟩
  ·rw [My.2 ⟨_,aJ h,h1⟩];simp
  ·rcases Nat.lt_trichotomy k k' with c | c | c
   ·rw [b k h c] at h1;cases h1
   ·rw [c]
   ·rw [h2 k' h' c] at a;cases a
  ·rw [a k h] at h1;cases h1
 ·have hno:∀ k,∀ j (h:j<l.length),j<k->p l[j]=false:=by
   intro k;induction k with
   | zero=>intro j _ h;omega
   | succ k ih=>
     intro j h hj;rcases Me.1 hj with h1 | h1
     ·exact ih j h h1
     ·subst h1;cases hp:p l[j] with
      | false=>rfl
      | true=>exact absurd ⟨j,h,hp,ih⟩ hx
  refine ⟨-1,?_,fun k h a _=>?_,fun _=>rfl⟩
  ·have:l.any p=false:=by
    rw [List.any_eq_false];intro x hx;obtain ⟨j,h,rfl⟩:=Nc.1 hx;rw [hno (j+1) j h Po];decide
   rw [this];rfl
  ·rw [hno (k+1) k h Po] at a;cases a
theorem cD {d:List (List Rw)} {r:Nat} (h:r<d.length):(Cq d)[r*1]? =some (bL d[r]):=by simp [Cq,h]
theorem dN {d:List (List Rw)} {r:Nat} (h:r<d.length):Cq d≠[]:=fun e=>by have:=dH d;rw [e] at this;simp at this;omega
def RJ (J:JD):Rels ByteArray:=⟨J.S.rels.map (·.2),J.T.map fun l=>l.map (·.v)⟩
theorem qX (J:JD) (r:Nat):(RJ J).at r=cy J r:=by
 unfold Rels.at RJ cy;simp only [By,Nf];cases J.S.rels[r]? <;>rfl
theorem kF (J:JD) (r:Nat):(RJ J).rows r=(dh J r).map (·.v):=by
 unfold Rels.rows RJ dh;simp only [By,Nf];cases J.T[r]? <;>rfl
theorem oK (J:JD) (r:Nat) (σ:Asg ByteArray):Bd (RJ J) r σ=(dh J r).any fun x=>agr (cy J r) σ x.v:=by
 unfold Bd;rw [kF,qX,List.any_map];rfl
theorem ix {l:List ByteArray} {a:Nat} (x:ByteArray):(aA l).set (a*1) (.str x)=aA (l.set a x):=jS x
theorem kR {α:Type} (l:List α) (p:α->Bool) (x:α):(l++[x]).filter (fun x=> !p x)=l.filter (fun x=> !p x)++if p x=true then [] else [x]:=by
 rw [MR];cases h:p x<;>simp [MW,h]
def dS (J:JD) (rs:List Nat) (σ:Asg ByteArray) (a:Nat) (x:ByteArray):Bool:=rs.any fun r=> !(Bd (RJ J) r (put σ a x))
def tst (now:List ByteArray) (a:Nat) (xs:List ByteArray):List ByteArray:=xs.foldl (fun z x=>z.set a x) now
theorem jJ {now l:List ByteArray} {a k:Nat} (h:k<l.length):(tst now a (l.take k)).set a l[k]=tst now a (l.take (k+1)):=by
 unfold tst;rw [aR h,Na];rfl
theorem NowOk.tried {n:Nat} {σ:Asg ByteArray} {now:List ByteArray} (h:NowOk n σ now) {a:Nat} (ha:a<n) (hσ:σ (a:Int)=none) (x:ByteArray):NowOk n σ (now.set a x):=by
 have:=(h.put ha x).un (a:Int);rwa [cO hσ] at this
theorem ki {n:Nat} {σ:Asg ByteArray} {now:List ByteArray} {a:Nat} (h:NowOk n σ now) (ha:a<n) (hσ:σ (a:Int)=none) (xs:List ByteArray):NowOk n σ (tst now a xs):=by
 unfold tst;induction xs generalizing now with
 | nil=>exact h
 | cons x xs ih=>exact ih (h.tried ha hσ x)
theorem sH {α:Type} {l:List α} {p:α->Bool} {i:Int} (hi:decide (i>=0)=l.any p) (h1:∀ k (h:k<l.length),p l[k]=true->(∀ j (h:j<l.length),j<k->p l[j]=false)->i=k) (h2:(∀ j (h:j<l.length),p l[j]=false)->i= -1):
  (i= -1->∀ x∈l,p x=false)/\(¬ i= -1->∃ i0:Nat,i=(i0:Int)/\i0<l.length/\(l.take (i0+1)).filter (fun x=> !p x)=l.take i0):=by
 constructor
 ·intro e x hx;rw [e] at hi;have:l.any p=false:=by rw [<-hi];decide
  rw [List.any_eq_false] at this;have:=this x hx;cases hp:p x with
  | false=>rfl
  | true=>exact absurd hp this
 ·intro e;have hex:∃ k:Nat,∃ h:k<l.length,p l[k]=true/\∀ j (h:j<l.length),j<k->p l[j]=false:=by
   refine MC fun hx=>e (h2 ?_)
   have hno:∀ k,∀ j (h:j<l.length),j<k->p l[j]=false:=by
    intro k;induction k with
    | zero=>intro j _ h;omega
    | succ k ih=>
      intro j h hj;rcases Me.1 hj with h1 | h1
      ·exact ih j h h1
      ·subst h1;cases hp:p l[j] with
       | false=>rfl
       | true=>exact absurd ⟨j,h,hp,ih⟩ hx
   exact fun j h=>hno (j+1) j h Po
  obtain ⟨k,h,ha,hb⟩:=hex;refine ⟨k,h1 k h ha hb,h,?_⟩;rw [aR h,MR];have:(l.take k).filter (fun x=> !p x)=l.take k:=O8.2 fun x hx=>by
   obtain ⟨j,hj,rfl⟩:=Nc.1 hx;rw [AI] at hj;rw [List.getElem_take,hb j Po Po];rfl
  rw [this];simp [MW,ha]
end
section
open Mk Jn
abbrev oZ (S:Sch):Ob:= .mix 34 [.pv (.sl none S.attrs.length (cc S.attrs)),.pv (.sl none S.rels.length (bj S.rels)),.pv (.sl none S.feats.length (bm S.feats)),.pv (.int .i64 S.label)]
abbrev oX (S:Sch) (v l:V) (m:Nat):Ob:= .mix 127 [.pv (.sl none S.attrs.length (cc S.attrs)),.pv (.sl none S.rels.length (bj S.rels)),.pv (.sl none S.feats.length (bm S.feats)),.pv (.int .i64 S.label),v,l,.map m]
abbrev oX2 (J:JD) (m:Nat):Ob:=oX J.S (.pv (dbP J.T)) (.pv J.lp) m
abbrev oB (W:WD) (p a l b c:Nat):Ob:= .mix 155 [.ptr p 0,.pv W.ch,.pv W.ke,.pv W.ho,.pv W.wa,.pv W.g0,.pv W.g1,.pv W.g2,.pv W.g3,.pv W.g4,.pv W.lf,.pv W.wt,.pv .nilmap,.osl a 1 l,.osl b 1 l,.map c]
abbrev oN (W:WD) (p a l b c:Nat):Ob:= .mix 240 [.ptr p 0,.pv W.ch,.pv W.ke,.pv W.ho,.pv W.wa,.pv W.g0,.pv W.g1,.pv W.g2,.pv W.g3,.pv W.g4,.pv W.g5,.pv W.g6,.pv W.lf,.pv W.wt,.pv .nilmap,.osl a 1 l,.osl b 1 l,.map c]
end
section
open Mk Jn
abbrev o6B (J:JD) (W:WD) (σ:Asg ByteArray) (now:List ByteArray) (mk mv:List PV):List (Nat×Ob):=[(big,oB W 9004 9001 J.S.attrs.length 9002 9003),(9001,.cells 9 (aA now)),(9002,.cells 4 (ay (stL σ J.S.attrs.length))),(9003,.mp mk mv),(9004,oX2 J 9005),(9005,.mp J.pk J.pv)]
theorem dV (J:JD) (hJ:JOk J) (W:WD) (σ:Asg ByteArray) (now:List ByteArray) (hn:NowOk J.S.attrs.length σ now) (mk mv:List PV) (r:Nat) (hr:r<J.S.rels.length) (x:Rw) (hx:x.v.length=J.S.rels[r].2.length):
  FnO prog 102 6 0 [.ptr big 0,.pv (.int .i64 r),.pv (sJ x)] (o6B J W σ now mk mv) (fun v ob'=>v= .pv (.bool (agr J.S.rels[r].2 σ x.v))/\ob'=ar (o6B J W σ now mk mv)):=by
 refine FnO.of func102 O ntmps102 Ps fun m0 w0 F R0=>?_
 have hS:=hJ.s;have hrne:=ew hr;have hra:(bj J.S.rels)[r*2+1]? =some (ak J.S.rels[r].2):=by
  have h2:(((bj J.S.rels).drop (r*2)).take 2)[1]? =[PV.str J.S.rels[r].1,ak J.S.rels[r].2][1]? :=by rw [cW hr]
  simpa [Ma,MA] using h2
 have hrl:=hS.l _ (aJ hr);have hrb:=hS.b _ (aJ hr);have hSr:=hS.r;have hnl:=hn.l;rw [pq];generalize J.S.rels[r].2=A at*;refine Z2 O O O<|Gr O ?_;iterate 9 refine A1 O ?_
 refine Rs 18 O O (ag r underlying31 Eu O O O hr hrne)<|A1 O<|Rs 20 O O (ai ⟨_,underlying22,O⟩ O hra)<|Y2 O O ?_;refine Gl O (st:=fun ac:Nat=>mkS [(0,.ptr big 0),(5,.ptr 0 0),(20,.pv (ak A)),(21,.pv (.int .i64 A.length)),(22,.pv (.int .i64 ac))] [(big,oB W 9004 9001 J.S.attrs.length 9002 9003),(0,.mix 49 [.pv (aI x.v),.pv (.int .i64 x.w)]),(9001,.cells 9 (aA now)),(9002,.cells 4 (ay (stL σ J.S.attrs.length))),(9003,.mp mk mv),(9004,oX2 J 9005),(9005,.mp J.pk J.pv)] 1)
  (I:=fun ac=>ac<=A.length/\((A.zip x.v).take ac).all (agP σ)=true) (μ:=fun ac=>A.length-ac) (x0:=(0)) (Io (aS O) (aO O) O O) (⟨bk _,O⟩) ?_
 rintro j ⟨hj,hall⟩;refine Z1 O O ?_;refine Gp O O (fun hc23=>?_) (fun hc23=>?_)
 ·have hlj:j<A.length:=Po;have hzs:=eM hx hlj (agP σ);obtain ⟨a,haa⟩:=so (hrb _ (aJ hlj)).1;have hal:a<J.S.attrs.length:=by have:=(hrb _ (aJ hlj)).2;omega
  have hpv:(aE A)[j*1]? =some (.int .i64 (a:Int)):=by rw [<-haa];simp [hlj]
  have hpn:=aH hlj;have hjv:j<x.v.length:=Po;have hsv:=aM hjv;have hsn:=bc hjv;have hset:=DW (σ:=σ) hal;have hnow:=aM (l:=now) (k:=a) Po;have hsl:(ay (stL σ J.S.attrs.length)).length=J.S.attrs.length:=by rw [xT,cK]
  have hnl2:(aA now).length=J.S.attrs.length:=by rw [xT,hnl]
  rw [hall,haa,NX] at hzs;refine Il<|Z2 O O O<|Rs 26 O O (ai ⟨_,underlying3,O⟩ O hpv)<|Y2 O O ?_;by_cases hsg:(σ (a:Int)).isSome=true
  ·have hval:=Option.some_get hsg;have hnv:now[a]'Po=(σ (a:Int)).get hsg:=hn.e a Po _ hval.symm;generalize hgz:(σ (a:Int)).get hsg=z at*;rw [gW hval.symm] at hzs;rw [hsg] at hset;rw [hnv] at hnow;refine Ge O follows [0,1,2,3,4,5,6,7,8,9,10,11,12,13,14,15,16,17,18,19,20,21] Pp ?_;iterate 6 refine D1 O O ?_
   refine Ds 33 [_] O O O (fun τ h=>aC ⟨_,underlying4,O⟩ (Ee h 0 O O) (Eo h 0 O O) hset) O Pp ?_;iterate 7 refine D1 O O ?_
   refine Dg 41 [_] O O O O (fun τ h=>aC ⟨_,underlying9,O⟩ (Ee h 0 O O) (Eo h 0 O O) hnow) O Pp ?_;iterate 4 refine D1 O O ?_
   refine Dg 46 [] O O O O (fun τ h=>ai ⟨_,underlying9,O⟩ (Ee h 0 O O) hsv) O Pp ?_;iterate 2 refine D1 O O ?_
   refine ⟨Pp,?_⟩;refine Gc O O (fun hc48=>?_) (fun hc48=>?_)
   ·exact Z1 O O<|Gt O<|⟨[(6,.pv (.bool false))],o6B J W σ now mk mv,[.pv (.bool false)],Io (aS O) (aO O) O O,O,O,O,af (fun b=>V.pv (.bool b)) (pZ (hzs.trans (Ha hc48))).symm,O⟩
   ·exact Il<|Z2 O O O<|⟨(j+1),Io (aS O) (aO O) O O,⟨Po,hzs.trans (G6 hc48)⟩,Po⟩
  ·have hno:σ (a:Int)=none:=by cases h:σ (a:Int) with | none=>rfl | some x=>rw [h] at hsg;exact absurd O hsg
   rw [oM hno] at hzs;rw [MH hsg] at hset;refine Ge O follows [0,1,2,3,4,5,6,7,8,9,10,11,12,13,14,15,16,17,18,19,20,21] Pp ?_;iterate 6 refine D1 O O ?_
   refine Ds 33 [_] O O O (fun τ h=>aC ⟨_,underlying4,O⟩ (Ee h 0 O O) (Eo h 0 O O) hset) O Pp ?_;iterate 15 refine D1 O O ?_
   refine ⟨Pp,?_⟩;refine Gc O O (fun hc48=>absurd hc48 Ps) (fun hc48=>?_);exact Il<|Z2 O O O<|⟨(j+1),Io (aS O) (aO O) O O,⟨Po,hzs⟩,Po⟩
 ·rw [a6 Pt] at hall;exact Gx O<|Z1 O O<|Gt O<|⟨[(6,.pv (.bool true))],o6B J W σ now mk mv,[.pv (.bool true)],Io (aS O) (aO O) O O,O,O,O,af (fun b=>V.pv (.bool b)) hall.symm,O⟩
end
section
open Mk Jn
abbrev o7B (J:JD) (W:WD) (σ:Asg ByteArray) (now:List ByteArray) (mk mv:List PV):List (Nat×Ob):=[(big,.mix 139 [.ptr 9001 0]),(9001,oB W 9005 9002 J.S.attrs.length 9003 9004),(9002,.cells 9 (aA now)),(9003,.cells 4 (ay (stL σ J.S.attrs.length))),(9004,.mp mk mv),(9005,oX2 J 9006),(9006,.mp J.pk J.pv)]
theorem sZ (J:JD) (hJ:JOk J) (W:WD) (σ:Asg ByteArray) (now:List ByteArray) (hn:NowOk J.S.attrs.length σ now) (mk mv:List PV) (r:Nat) (hr:r<J.S.rels.length) (x:Rw) (hx:x.v.length=J.S.rels[r].2.length):
  FnO prog 196 7 0 [.pv (sJ x),.ptr big 0,.pv (.rp [.int .i64 r] 0)] (o7B J W σ now mk mv) (fun v ob'=>v= .pv (.bool (agr J.S.rels[r].2 σ x.v))/\ob'=ar (o7B J W σ now mk mv)):=by
 refine FnO.of func196 O ntmps196 Ps fun m0 w0 F R0=>?_
 have hgo:=dV J hJ W σ now hn mk mv r hr x hx;generalize agr J.S.rels[r].2 σ x.v=b at*;refine Z2 O O O<|Gr O ?_;first | refine A1 O ?_ | refine A2 O Pr ?_
 first | refine A1 O ?_ | refine A2 O Pr ?_
 exact A1 O<|Rs 8 O O (ah [9001,9002,9003,9004,9005,9006] 1 call102 hgo O O O O ⟨O,O,O,O,O,O,Pw⟩ Pq O)<|A1 O<|Gt O<|⟨[(4,.pv (.bool b))],o7B J W σ now mk mv,[.pv (.bool b)],Io (aS O) (aO Pp) O O,O,O,O,O,O⟩
abbrev sm1B (r:Nat):V:= .fn (.func 196) [] [.ptr big 0,.pv (.rp [.int .i64 r] 0)]
theorem pP (J:JD) (hJ:JOk J) (W:WD) (σ:Asg ByteArray) (now:List ByteArray) (hn:NowOk J.S.attrs.length σ now) (mk mv:List PV) (r:Nat) (hr:r<J.S.rels.length) (l:List Rw) (hl:l.length<=1000) (hx:∀ x∈l,x.v.length=J.S.rels[r].2.length):
  ∃ i:Int,decide (i>=0)=l.any (fun x=>agr J.S.rels[r].2 σ x.v)/\FnO prog 109 7 0 [.pv (bL l),sm1B r] (o7B J W σ now mk mv) (fun v ob'=>v= .pv (.int .i64 i)/\ob'=ar (o7B J W σ now mk mv)):=by
 have hgo:∀ k (h:k<l.length),FnO prog 196 7 0 [.pv (sJ l[k]),.ptr big 0,.pv (.rp [.int .i64 r] 0)] (o7B J W σ now mk mv) (fun v ob'=>v= .pv (.bool (agr J.S.rels[r].2 σ l[k].v))/\ob'=ar (o7B J W σ now mk mv)):=fun k h=>sZ J hJ W σ now hn mk mv r hr l[k] (hx _ (aJ h))
 have hi:∃ i:Int,decide (i>=0)=l.any (fun x=>agr J.S.rels[r].2 σ x.v)/\((∀ k (h:k<l.length),agr J.S.rels[r].2 σ l[k].v=true->(∀ j (h:j<l.length),j<k->agr J.S.rels[r].2 σ l[j].v=false)->i=k)/\((∀ j (h:j<l.length),agr J.S.rels[r].2 σ l[j].v=false)->i= -1)):=jg l fun x=>agr J.S.rels[r].2 σ x.v
 obtain ⟨i,hi,hi1,hi2⟩:=hi;refine ⟨i,hi,?_⟩;refine FnO.of func109 O ntmps109 Ps fun m0 w0 F R0=>?_
 clear hi hJ hn hx;generalize J.S.rels[r].2=A at*;refine Z1 O O<|Z3 O O O O ?_;refine Gl O (st:=fun ac:Nat=>mkS [(0,.pv (bL l)),(1,sm1B r),(7,.pv (.int .i64 l.length)),(8,.pv (.int .i64 ac))] [(big,.mix 139 [.ptr 9001 0]),(9001,oB W 9005 9002 J.S.attrs.length 9003 9004),(9002,.cells 9 (aA now)),(9003,.cells 4 (ay (stL σ J.S.attrs.length))),(9004,.mp mk mv),(9005,oX2 J 9006),(9006,.mp J.pk J.pv)] 0)
  (I:=fun ac=>ac<=l.length/\∀ j (h:j<l.length),j<ac->agr A σ l[j].v=false) (μ:=fun ac=>l.length-ac) (x0:=(0)) (Io (aS O) (aO Pp) O O) (⟨bk _,fun _ _ h=>absurd h Po⟩) ?_
 rintro k ⟨hk,hno⟩;refine Z1 O O ?_;refine Gp O O (fun hc9=>?_) (fun hc9=>?_)
 ·have hlt:k<l.length:=Po;have hrw:=aN hlt;have hrn:=aW hlt;have hgk:=hgo k hlt;have hik:=hi1 k hlt;generalize hbk:agr A σ l[k].v=b at*;refine Il<|Z2 O O O<|Z4 O O O O O ?_;first | refine A3 O Pr ?_ | refine A1 O ?_
  refine Rs 16 O O (bJ [big,9001,9002,9003,9004,9005,9006] 0 call196 hgk O O O O O O ⟨O,O,O,O,O,O,O,Pw⟩ Pq O) ?_;refine Gc O O (fun hc16=>?_) (fun hc16=>?_)
  ·exact Z2 O O O<|Gt O<|⟨[(4,.pv (.int .i64 k))],o7B J W σ now mk mv,[.pv (.int .i64 k)],Io (aS O) (aO Pp) O O,O,O,O,by rw [hik hc16 hno];rfl,O⟩
  ·exact Il<|Z2 O O O<|⟨(k+1),Io (aS O) (aO Pp) O O,⟨Po,fun j h hj=>by rcases Me.1 hj with h1 | h1;exact hno j h h1;subst h1;exact hbk.trans hc16⟩,Po⟩
 ·have hm:=hi2 fun j h=>hno j h Po
  exact Gx O<|Z1 O O<|Gt O<|⟨[(4,.pv (.int .i64 (-1)))],o7B J W σ now mk mv,[.pv (.int .i64 (-1))],Io (aS O) (aO Pp) O O,O,O,O,by rw [hm];rfl,O⟩
theorem pE (J:JD) (hJ:JOk J) (W:WD) (σ:Asg ByteArray) (now:List ByteArray) (hn:NowOk J.S.attrs.length σ now) (mk mv:List PV) (r:Nat) (hr:r<J.S.rels.length) (l:List Rw) (hl:l.length<=1000) (hx:∀ x∈l,x.v.length=J.S.rels[r].2.length):
  FnO prog 66 7 0 [.pv (bL l),sm1B r] (o7B J W σ now mk mv) (fun v ob'=>v= .pv (.bool (l.any fun x=>agr J.S.rels[r].2 σ x.v))/\ob'=ar (o7B J W σ now mk mv)):=by
 obtain ⟨i,hi,hgo⟩:=pP J hJ W σ now hn mk mv r hr l hl hx;refine FnO.of func66 O ntmps66 Ps fun m0 w0 F R0=>?_
 rw [<-hi];clear hi hJ hn hx;exact Z1 O O<|Z2 O O O<|Rs 7 O O (ah [big,9001,9002,9003,9004,9005,9006] 0 call109 hgo O O O O ⟨O,O,O,O,O,O,O,Pw⟩ Pq O)<|Y2 O O<|Gt O<|⟨[(4,.pv (.bool (decide (i>=0))))],o7B J W σ now mk mv,[.pv (.bool (decide (i>=0)))],Io (aS O) (aO Pp) O O,O,O,O,O,O⟩
theorem wb (J:JD) (hJ:JOk J) (W:WD) (σ:Asg ByteArray) (now:List ByteArray) (hn:NowOk J.S.attrs.length σ now) (mk mv:List PV) (r:Nat) (hr:r<J.S.rels.length):
  FnO prog 154 6 0 [.ptr big 0,.pv (.int .i64 r)] (o6B J W σ now mk mv) (fun v ob'=>v= .pv (.bool ((dh J r).any fun x=>agr (cy J r) σ x.v))/\ob'=ar (o6B J W σ now mk mv)):=by
 refine FnO.of func154 O ntmps154 Ps fun m0 w0 F R0=>?_
 have hrT:r<J.T.length:=by rw [hJ.n];exact hr
 have hgo:=pE J hJ W σ now hn mk mv r hr J.T[r] (hJ.l _ (aJ hrT)) (hJ.v r hrT hr);rw [show dh J r=J.T[r] by simp [dh,List.getD,hrT],show cy J r=J.S.rels[r].2 by simp [cy,List.getD,hr]];have htr:=cD hrT;have htn:=dN hrT;have hTl:J.T.length<=1000:=by rw [hJ.n];exact hJ.s.r
 generalize J.S.rels[r].2=A at*;generalize J.T[r]=l at*;refine Z3 O O O O<|Im (St.fS 1 O O)<|Ge O follows [0,1,2,3,4,5,6,7,8,9,10,11,12] Pp ?_;iterate 8 refine D1 O O ?_
 refine Ds 13 [] O O O (fun τ h=>ag r underlying35 qk (Ee h 0 O O) (Ee h 1 O O) O hrT htn) O Pp<|Ds 14 [] O O O (fun τ h=>ai ⟨_,underlying38,O⟩ (Ee h 0 O O) htr) O Pp<|D1 O O<|Ds 16 [0,big,9001,9002,9003,9004,9005] O O O (fun τ h=>ah [0,big,9001,9002,9003,9004,9005] 2 call66 hgo (h.args.trans O) O O O ⟨(Eo h 0 O O),(Eo h 1 O O),(Eo h 2 O O),(Eo h 3 O O),(Eo h 4 O O),(Eo h 5 O O),(Eo h 6 O O),Pw⟩ Pq O) O Pp<|D1 O O ?_;refine ⟨Pp,?_⟩;exact Gt O<|⟨[(4,.pv (.bool (l.any fun x=>agr A σ x.v)))],o6B J W σ now mk mv,[.pv (.bool (l.any fun x=>agr A σ x.v))],Io (aS O) (aO Pp) O O,O,O,O,O,O⟩
end
section
open Mk Jn
theorem rz (J:JD) (hJ:JOk J) (W:WD) (σ:Asg ByteArray) (now:List ByteArray) (hn:NowOk J.S.attrs.length σ now) (mk mv:List PV) (r:Nat) (hr:r<J.S.rels.length):
  FnO prog 153 7 0 [.pv (.int .i64 r),.ptr big 0] (o7B J W σ now mk mv) (fun v ob'=>v= .pv (.bool !(Bd (RJ J) r σ))/\ob'=ar (o7B J W σ now mk mv)):=by
 refine FnO.of func153 O ntmps153 Ps fun m0 w0 F R0=>?_
 have hgo:=wb J hJ W σ now hn mk mv r hr;rw [<-oK] at hgo;generalize Bd (RJ J) r σ=b at*;refine Z1 O O<|Gr O ?_;first | refine A1 O ?_ | refine A2 O Pr ?_
 exact A1 O<|Rs 6 O O (ah [9001,9002,9003,9004,9005,9006] 0 call154 hgo O O O O ⟨O,O,O,O,O,O,Pw⟩ Pq O)<|Y2 O O<|Gt O<|⟨[(3,.pv (.bool !b))],o7B J W σ now mk mv,[.pv (.bool !b)],Io (aS O) (aO Pp) O O,O,O,O,O,O⟩
abbrev c11B:V:= .fn (.func 153) [] [.ptr big 0]
abbrev bK (rs:List Nat):List Int:=rs.map fun r:Nat=>(r:Int)
theorem qf (J:JD) (hJ:JOk J) (W:WD) (σ:Asg ByteArray) (now:List ByteArray) (hn:NowOk J.S.attrs.length σ now) (mk mv:List PV) (rs:List Nat) (hl:rs.length<=1000) (hr:∀ r∈rs,r<J.S.rels.length):
  FnO prog 152 7 0 [.pv (ak (bK rs)),c11B] (o7B J W σ now mk mv) (fun v ob'=>v= .pv (.bool (rs.any fun r=> !(Bd (RJ J) r σ)))/\ob'=ar (o7B J W σ now mk mv)):=by
 have hgo:∀ k (h:k<rs.length),FnO prog 153 7 0 [.pv (.int .i64 rs[k]),.ptr big 0] (o7B J W σ now mk mv) (fun v ob'=>v= .pv (.bool !(Bd (RJ J) rs[k] σ))/\ob'=ar (o7B J W σ now mk mv)):=fun k h=>rz J hJ W σ now hn mk mv rs[k] (hr _ (aJ h))
 obtain ⟨i,hi,hi1,hi2⟩:=jg rs fun r=> !(Bd (RJ J) r σ)
 clear hJ hn hr;have hidx:FnO prog 195 7 0 [.pv (ak (bK rs)),c11B] (o7B J W σ now mk mv) (fun v ob'=>v= .pv (.int .i64 i)/\ob'=ar (o7B J W σ now mk mv)):=by
  refine FnO.of func195 O ntmps195 Ps fun m0 w0 F R0=>?_
  clear hi;have hnl:(bK rs).length=rs.length:=by simp [bK]
  refine Z1 O O<|Z3 O O O O ?_;refine Gl O (st:=fun ac:Nat=>mkS [(0,.pv (ak (bK rs))),(1,c11B),(7,.pv (.int .i64 (bK rs).length)),(8,.pv (.int .i64 ac))] [(big,.mix 139 [.ptr 9001 0]),(9001,oB W 9005 9002 J.S.attrs.length 9003 9004),(9002,.cells 9 (aA now)),(9003,.cells 4 (ay (stL σ J.S.attrs.length))),(9004,.mp mk mv),(9005,oX2 J 9006),(9006,.mp J.pk J.pv)] 0)
   (I:=fun ac=>ac<=rs.length/\∀ j (h:j<rs.length),j<ac->(!(Bd (RJ J) rs[j] σ))=false) (μ:=fun ac=>rs.length-ac) (x0:=(0)) (Io (aS O) (aO Pp) O O) (⟨bk _,fun _ _ h=>absurd h Po⟩) ?_
  rintro k ⟨hk,hno⟩;refine Z1 O O ?_;refine Gp O O (fun hc9=>?_) (fun hc9=>?_)
  ·have hlt:k<rs.length:=Po;have hpv:(aE (bK rs))[k*1]? =some (.int .i64 ((rs[k]:Nat):Int)):=by simp [hlt]
   have hpn:=aH (l:=bK rs) (k:=k) Po;have hgk:=hgo k hlt;have hik:=hi1 k hlt;generalize hbk:Bd (RJ J) rs[k] σ=b at*;refine Il<|Z2 O O O<|Z4 O O O O O<|Rs 15 O O (ai ⟨_,underlying3,O⟩ O hpv)<|Rs 16 O O (bJ [big,9001,9002,9003,9004,9005,9006] 0 call153 hgk O O O O O O ⟨O,O,O,O,O,O,O,Pw⟩ Pq O) ?_;refine Gc O O (fun hc16=>?_) (fun hc16=>?_)
   ·exact Z2 O O O<|Gt O<|⟨[(4,.pv (.int .i64 k))],o7B J W σ now mk mv,[.pv (.int .i64 k)],Io (aS O) (aO Pp) O O,O,O,O,by rw [hik hc16 hno];rfl,O⟩
   ·exact Il<|Z2 O O O<|⟨(k+1),Io (aS O) (aO Pp) O O,⟨Po,fun j h hj=>by rcases Me.1 hj with h1 | h1;exact hno j h h1;subst h1;rw [hbk];exact hc16⟩,Po⟩
  ·have hm:=hi2 fun j h=>hno j h Po
   exact Gx O<|Z1 O O<|Gt O<|⟨[(4,.pv (.int .i64 (-1)))],o7B J W σ now mk mv,[.pv (.int .i64 (-1))],Io (aS O) (aO Pp) O O,O,O,O,by rw [hm];rfl,O⟩
 refine FnO.of func152 O ntmps152 Ps fun m0 w0 F R0=>?_
 rw [<-hi];clear hi hgo hi1 hi2;exact Z1 O O<|Z2 O O O<|Rs 7 O O (ah [big,9001,9002,9003,9004,9005,9006] 0 call195 hidx O O O O ⟨O,O,O,O,O,O,O,Pw⟩ Pq O)<|Y2 O O<|Gt O<|⟨[(4,.pv (.bool (decide (i>=0))))],o7B J W σ now mk mv,[.pv (.bool (decide (i>=0)))],Io (aS O) (aO Pp) O O,O,O,O,O,O⟩
theorem mE (J:JD) (hJ:JOk J) (W:WD) (σ:Asg ByteArray) (now:List ByteArray) (hn:NowOk J.S.attrs.length σ now) (mk mv:List PV) (a:Nat) (ha:a<J.S.attrs.length) (hσ:σ (a:Int)=none) (rs:List Nat) (hl:rs.length<=1000) (hr:∀ r∈rs,r<J.S.rels.length) (x:ByteArray):
  FnO prog 151 7 0 [.pv (.str x),.ptr big 0,.pv (.rp [.int .i64 a] 0),.pv (.rp [ak (bK rs)] 0)] (o7B J W σ now mk mv) (fun v ob'=>v= .pv (.bool (rs.any fun r=> !(Bd (RJ J) r (put σ a x))))/\ob'=ar (o7B J W σ (now.set a x) mk mv)):=by
 refine FnO.of func151 O ntmps151 Ps fun m0 w0 F R0=>?_
 have hgo:=qf J hJ W (put σ a x) (now.set a x) (hn.put ha x) mk mv rs hl hr;generalize (rs.any fun r=> !(Bd (RJ J) r (put σ a x)))=b at*;have hnl:(aA now).length=J.S.attrs.length:=by rw [xT,hn.l]
 have hsl:(ay (stL σ J.S.attrs.length)).length=J.S.attrs.length:=by rw [xT,cK]
 have hsl2:(ay (stL (put σ a x) J.S.attrs.length)).length=J.S.attrs.length:=by rw [xT,cK]
 have h1:=ix (l:=now) (a:=a) x;have h2:=kZ (σ:=σ) ha x;have h3:(ay (stL (put σ a x) J.S.attrs.length)).set (a*1) (.bool false)=ay (stL σ J.S.attrs.length):=by rw [qO ha,cO hσ]
 clear hJ hn hr;refine Z1 O O<|Ge O follows [0,1,2,3,4,5,6,7,8,9,10,11,12,13,14] Pp ?_;first | refine D1 O O ?_ | refine D2 O O Pr ?_
 iterate 3 refine D1 O O ?_
 first | refine D1 O O ?_ | refine D2 O O Pr ?_
 first | refine D1 O O ?_ | refine D2 O O Pr ?_
 iterate 3 refine D1 O O ?_
 first | refine D1 O O ?_ | refine D2 O O Pr ?_
 refine D1 O O<|Ds 18 [_] O O O (fun τ h=>aa a underlying47 sz9 (Ee h 0 O O) (Eo h 0 O O) (Ee h 1 O O) O Po) O Pp<|DL.step (d:=none) [_] O O O (fun τ h=>aF sz9 (Ee h 0 O O) (Eo h 0 O O) (Ee h 1 O O) O Po) O Pp<|Ds 19 [_] O O O (fun τ h=>aa a underlying115 sz4 (Ee h 0 O O) (Eo h 0 O O) (Ee h 1 O O) O Po) O Pp<|DL.step (d:=none) [_] O O O (fun τ h=>aF sz4 (Ee h 0 O O) (Eo h 0 O O) (Ee h 1 O O) O Po) O Pp ?_;refine ⟨Pp,?_⟩;refine Im (Io (l:=[(1,.ptr big 0),(2,.pv (.rp [.int .i64 a] 0)),(3,.pv (.rp [ak (bK rs)] 0))]) (os:=o7B J W (put σ a x) (now.set a x) mk mv) (k:=0) (aS O) ⟨O,O,af (fun c=>some (Ob.cells 9 c)) h1,af (fun c=>some (Ob.cells 4 c)) h2,O,O,O,Pw⟩ O O)<|Gr O ?_;first | refine A1 O ?_ | refine A2 O Pr ?_
 refine A1 O<|Rs 22 O O (ah [big,9001,9002,9003,9004,9005,9006] 0 call152 hgo O O O O ⟨O,O,O,O,O,O,O,Pw⟩ Pq O)<|A1 O<|Im (Io (l:=[(1,.ptr big 0),(2,.pv (.rp [.int .i64 a] 0)),(6,.pv (.bool b))]) (os:=o7B J W (put σ a x) (now.set a x) mk mv) (k:=0) (aS O) (aO Pp) O O)<|Ge O follows [0,1,2,3,4,5,6] Pp ?_;first | refine D1 O O ?_ | refine D2 O O Pr ?_
 iterate 3 refine D1 O O ?_
 first | refine D1 O O ?_ | refine D2 O O Pr ?_
 refine Ds 28 [_] O O O (fun τ h=>aa a underlying115 sz4 (Ee h 0 O O) (Eo h 0 O O) (Ee h 1 O O) O Po) O Pp<|DL.step (d:=none) [_] O O O (fun τ h=>aF sz4 (Ee h 0 O O) (Eo h 0 O O) (Ee h 1 O O) O Po) O Pp ?_;refine ⟨Pp,?_⟩;exact Z2 O O O<|Gt O<|⟨[(5,.pv (.bool b))],o7B J W σ (now.set a x) mk mv,[.pv (.bool b)],Io (aS O) ⟨Pp,Pp,Pp,af (fun c=>some (Ob.cells 4 c)) h3,Pp,Pp,Pp,Pw⟩ O O,O,O,O,O,O⟩
end
section
open Mk Jn
def ltS (a b:ByteArray):Prop:=a.data.toList<b.data.toList
instance (a b:ByteArray):Decidable (ltS a b):=inferInstanceAs (Decidable (_<_))
theorem iA (a:ByteArray):¬ ltS a a:=List.lt_irrefl _
theorem kX {a b c:ByteArray} (h1:ltS a b) (h2:ltS b c):ltS a c:=List.lt_trans h1 h2
theorem tc {a b:ByteArray} (h1:¬ ltS a b) (h2:¬ ltS b a):a=b:=xu (List.le_antisymm h2 h1)
def leS (a b:ByteArray):Prop:=¬ ltS b a
instance (a b:ByteArray):Decidable (leS a b):=inferInstanceAs (Decidable (¬ _))
theorem pN {a b c:ByteArray} (h1:leS a b) (h2:leS b c):leS a c:=fun h=>by
 by_cases e:a=b
 ·subst e;exact h2 h
 ·have hab:ltS a b:=MC fun k=>e (tc k h1)
  exact h2 (kX h hab)
theorem y6 (a b:ByteArray):leS a b\/leS b a:=by
 by_cases h:ltS b a
 ·exact .inr fun k=>iA a (kX k h)
 ·exact .inl h
theorem tE {a b:ByteArray} (h1:leS a b) (h2:leS b a):a=b:=tc h2 h1
theorem G7 {a b:ByteArray} (h:ltS a b):leS a b:=fun k=>iA a (kX h k)
def cR (l:List ByteArray):List ByteArray:=l.mergeSort fun a b=>decide (leS a b)
theorem cY (l:List ByteArray):(cR l).Perm l:=List.mergeSort_perm l _
theorem je (l:List ByteArray):(cR l).Pairwise leS:=by
 have:=List.pairwise_mergeSort (le:=fun a b:ByteArray=>decide (leS a b)) (by intro a b c h1 h2;simp only [L6] at *; exact pN h1 h2) (by intro a b;simp only [MF,L6];exact y6 a b) l;exact this.imp Ps
theorem Dm {l r:List ByteArray} (hp:l.Perm r) (hl:l.Pairwise leS):l=cR r:=
 (hp.trans (cY r).symm).eq_of_pairwise (fun a b _ _ h1 h2=>tE h1 h2) hl (je r)
abbrev eb:ByteArray:=⟨#[]⟩
def ta (q:List ByteArray) (i k:Nat):List ByteArray:=(q.set i (q.getD k eb)).set k (q.getD i eb)
theorem me {q:List ByteArray} {i k p:Nat} (hi:i<q.length) (hk:k<q.length):(ta q i k).getD p eb=if p=k then q.getD i eb else if p=i then q.getD k eb else q.getD p eb:=by
 have e1:q.getD i eb=q[i]:=by simp [List.getD,hi]
 have e2:q.getD k eb=q[k]:=by simp [List.getD,hk]
 unfold ta;rw [e1,e2];by_cases h1:p=k
 ·subst h1;simp [List.getD,hk]
 ·rw [kH h1];by_cases h2:p=i
  ·subst h2;simp only [List.getD,qY];rw [NU (fun e=>h1 e.symm)];simp [hi]
  ·rw [kH h2];simp only [List.getD];rw [NU (fun e=>h1 e.symm),NU (fun e=>h2 e.symm)]
theorem vi {q:List ByteArray} {i k:Nat} (hi:i<q.length) (hk:k<q.length):ta q i k=(q.set i q[k]).set k q[i]:=by
 unfold ta;simp [List.getD,hi,hk]
theorem vM {q:List ByteArray} {i k:Nat} (hi:i<q.length) (hk:k<q.length):(ta q i k).Perm q:=by
 rw [vi hi hk];exact List.set_set_perm hi hk
def Dz (l:List ByteArray) (i j:Nat):Prop:=∀ p q,p<q->q<=i->(p≠j->q≠j->leS (l.getD p eb) (l.getD q eb))/\(p=j->leS (l.getD p eb) (l.getD q eb))
def G8 (l:List ByteArray) (i:Nat):Prop:=∀ p q,p<q->q<i->leS (l.getD p eb) (l.getD q eb)
theorem Dz.first {l:List ByteArray} {i:Nat} (h:G8 l i):Dz l i i:=fun p q h1 h2=>⟨fun _ h4=>h p q h1 Po,fun e=>by omega⟩
theorem Dz.swap {l:List ByteArray} {i j:Nat} (h:Dz l i j) (hj:0<j) (hji:j<=i) (hi:i<l.length) (hlt:ltS (l.getD j eb) (l.getD (j-1) eb)):Dz (ta l j (j-1)) i (j-1):=by
 intro p q h1 h2;rw [me Po Po,me Po Po];have a1:=h p q h1 h2;have a2:=h (j-1) q;have a3:=h p (j-1);have a4:=h j q;have a5:=h p j;by_cases e1:p=j-1
 ·rw [qY e1];refine ⟨fun h=>absurd e1 h,fun _=>?_⟩;by_cases e2:q=j-1
  ·omega
  ·rw [kH e2];by_cases e3:q=j
   ·rw [qY e3];exact G7 hlt
   ·rw [kH e3];exact (a4 Po h2).2 O
 ·rw [kH e1];refine ⟨fun _ h4=>?_,fun h=>absurd h e1⟩;rw [kH h4];by_cases e3:q=j
  ·rw [qY e3,kH Po];exact (a3 Po Po).1 Po Po
  ·rw [kH e3];by_cases e5:p=j
   ·rw [qY e5];exact (a2 Po h2).1 Po e3
   ·rw [kH e5];exact a1.1 e5 e3
theorem Dz.last {l:List ByteArray} {i j:Nat} (h:Dz l i j) (hji:j<=i) (hs:j=0\/leS (l.getD (j-1) eb) (l.getD j eb)):G8 l (i+1):=by
 intro p q h1 h2;have a1:=h p q h1 Po;have a3:=h p (j-1);by_cases e1:p=j
 ·exact a1.2 e1
 ·by_cases e2:q=j
  ·subst e2;rcases hs with hs | hs
   ·omega
   ·by_cases e3:p=q-1
    ·rw [e3];exact hs
    ·exact pN ((a3 Po Po).1 e1 Po) hs
  ·exact a1.1 e1 e2
theorem G8.pw {l:List ByteArray} {i:Nat} (h:G8 l i) (hi:l.length<=i):l.Pairwise leS:=by
 rw [Nr];intro p q hp hq hpq;have:=h p q hpq Po;simpa [List.getD,hp,hq] using this
theorem Dx (a b:ByteArray):Op.bytesLess a.toList b.toList=decide (ltS a b):=by rw [jG,ByteArray.toList_eq,ByteArray.toList_eq];rfl
theorem pd (a:ByteArray):FnP prog 172 [.str a] (· = .bool false):=by
 refine FnP.of func172 O ntmps172 Ps fun m0 w0 F R0=>?_
 exact Z1 O O<|Z4 O O O O O<|Gt O<|⟨_,_,O,O,af PV.bool Ps⟩
theorem wZ (a b:ByteArray):FnP prog 235 [.str a,.str b] (· = .bool (decide (ltS a b))):=by
 refine FnP.of func235 O ntmps235 Ps fun m0 w0 F R0=>?_
 have hb:=Dx a b;refine Z1 O O<|Z1 O O<|Rs 6 O O (ae call172 (pd a) O)<|A1 O ?_;apply Iy 4 7 11 [8,9,10] O Py
 ·intro hb2;exact A1 O<|Rg 9 O O O (ae call172 (pd b) O)<|Y2 O O<|Iq Px O O O
 ·intro hb2;iterate 4 refine A1 O ?_
  exact Iq Px O O O
 refine A1 O ?_;apply Ix 4 12 16 [13,14,15] O Py
 ·intro hb7;iterate 4 refine A1 O ?_
  exact Iq Px O O O
 ·intro hb7;iterate 4 refine A1 O ?_
  exact Iq Px O O O
 exact A1 O<|Gt O<|⟨_,_,O,O,af PV.bool (by rw [<-hb];simp)⟩
abbrev cB (l:List ByteArray):Ob:= .cells 9 (aA l)
theorem xF (l:List ByteArray) (n:Nat) (hl:l.length=n) (hn:n<=1000):FnO prog 229 1 0 [.osl big 1 n,.pv (.int .i64 0),.pv (.int .i64 n)] [(big,cB l)] (fun v ob'=>v= .tup []/\ob'=ar [(big,cB (cR l))]):=by
 refine FnO.of func229 O ntmps229 Ps fun m0 w0 F R0=>?_
 refine Z3 O O O O ?_;refine Gl O (st:=fun ac:Nat×List ByteArray=>mkS [(0,.osl big 1 n),(1,.pv (.int .i64 0)),(2,.pv (.int .i64 n)),(6,.pv (.int .i64 ac.1))] [(big,cB ac.2)] 0)
  (I:=fun ac=>1<=ac.1/\ac.2.Perm l/\G8 ac.2 ac.1/\ac.1<=n+1) (μ:=fun ac=>n+1-ac.1) (x0:=(1,l)) (Io (aS O) (aO O) O O) (⟨xV _,List.Perm.refl _,fun p q h1 h2=>by simp at h2;omega,Ps⟩) ?_
 rintro ⟨i,q⟩ ⟨hi,hq,ha,hin⟩;try simp only at hi hq ha hin ⊢
 refine Z3 O O O O ?_;refine Gp O O (fun hc12=>?_) (fun hc12=>?_)
 ·have hql:q.length=n:=by rw [hq.length_eq,hl]
  have hlt:i<n:=Po;refine Il<|Z2 O O O ?_;refine Gl O (st:=fun x_1:Nat×List ByteArray=>mkS [(0,.osl big 1 n),(1,.pv (.int .i64 0)),(2,.pv (.int .i64 n)),(6,.pv (.int .i64 i)),(7,.pv (.int .i64 x_1.1))] [(big,cB x_1.2)] 0)
   (I:=fun x_1=>x_1.1<=i/\x_1.2.Perm l/\Dz x_1.2 i x_1.1) (μ:=fun x_1=>x_1.1) (x0:=(i,q)) (Io (aS O) (aO O) O O) (⟨xV _,hq,Dz.first ha⟩) ?_
  rintro ⟨j,s⟩ ⟨hj,hs,hI⟩;try simp only at hj hs hI ⊢
  have hsl:s.length=n:=by rw [hs.length_eq,hl]
  have hjl:j<s.length:=Po;have hv0:=aM hjl;by_cases h:0<j
  ·have hjl1:j-1<s.length:=Po;have hv1:=aM hjl1;have hd1:s.getD j eb=s[j]:=by simp [List.getD,hjl]
   have hd2:s.getD (j-1) eb=s[j-1]:=by simp [List.getD,hjl1]
   refine Ge O follows [0,1,2,3,4,5,6,7,8,9,10,11,12,13,14] Pp ?_;iterate 2 refine D1 O O ?_
   refine Ds 18 [] O O O (fun τ h=>(aQ (Ee h 0 O O) (Ee h 1 O O) O).cast (v':= .pv (.bool true)) Pt) O Pp ?_;iterate 3 refine D1 O O ?_
   refine Dg 22 [_] O O O O (fun τ h=>aa j underlying47 sz9 (Ee h 0 O O) (Eo h 0 O O) (Ee h 1 O O) O Po) O Pp<|Dg 23 [_] O O O O (fun τ h=>aC ⟨_,underlying9,O⟩ (Ee h 0 O O) (Eo h 0 O O) hv0) O Pp ?_;iterate 3 refine D1 O O ?_
   refine Dg 27 [_] O O O O (fun τ h=>aa (j-1) underlying47 sz9 (Ee h 0 O O) (Eo h 0 O O) (Ee h 1 O O) Po Po) O Pp<|Dg 28 [_] O O O O (fun τ h=>aC ⟨_,underlying9,O⟩ (Ee h 0 O O) (Eo h 0 O O) hv1) O Pp<|Dg 29 [] O O O O (fun τ h=>ae call235 (wZ s[j] s[j-1]) (h.bt O)) O Pp<|Ds 30 [] O O O (fun τ h=>DN (Ee h 0 O O) (Ee h 1 O O)) O Pp ?_;refine ⟨Pp,?_⟩;refine Gc O O (fun hc30=>?_) (fun hc30=>?_)
   ·have hsw:ltS (s.getD j eb) (s.getD (j-1) eb):=by rw [hd1,hd2];exact Ng hc30
    have hsp:=vM hjl hjl1;have hse:=vi hjl hjl1;refine Il<|Ge O follows [0,1,2,3,4,5,6,7,8,9,10,11,12,13,14,15,16,17] Pp ?_;iterate 8 refine D1 O O ?_
    refine Ds 41 [_] O O O (fun τ h=>aa (j-1) underlying47 sz9 (Ee h 0 O O) (Eo h 0 O O) (Ee h 1 O O) Po Po) O Pp<|Ds 42 [_] O O O (fun τ h=>aC ⟨_,underlying9,O⟩ (Ee h 0 O O) (Eo h 0 O O) hv1) O Pp ?_;iterate 2 refine D1 O O ?_
    refine Ds 45 [_] O O O (fun τ h=>aa j underlying47 sz9 (Ee h 0 O O) (Eo h 0 O O) (Ee h 1 O O) O Po) O Pp<|Ds 46 [_] O O O (fun τ h=>aC ⟨_,underlying9,O⟩ (Ee h 0 O O) (Eo h 0 O O) hv0) O Pp<|Ds 47 [_] O O O (fun τ h=>aa j underlying47 sz9 (Ee h 0 O O) (Eo h 0 O O) (Ee h 1 O O) O Po) O Pp<|DL.step (d:=none) [_] O O O (fun τ h=>aF sz9 (Ee h 0 O O) (Eo h 0 O O) (Ee h 1 O O) O Pt) O Pp<|Ds 48 [_] O O O (fun τ h=>aa (j-1) underlying47 sz9 (Ee h 0 O O) (Eo h 0 O O) (Ee h 1 O O) Po Po) O Pp<|DL.step (d:=none) [_] O O O (fun τ h=>aF sz9 (Ee h 0 O O) (Eo h 0 O O) (Ee h 1 O O) O Pt) O Pp ?_;refine ⟨Pp,?_⟩;exact Z3 O O O O<|⟨(j-1,ta s j (j-1)),Io ⟨O,O,O,O,af (fun i=>V.pv (PV.int .i64 i)) Po,Pw⟩ ⟨af (fun c=>some (Ob.cells 9 c)) (by rw [hse];simp),Pw⟩ O O,⟨Pv,hsp.trans hs,hI.swap h hj Po hsw⟩,Pv⟩
   ·have hst:j=0\/leS (s.getD (j-1) eb) (s.getD j eb):= .inr (by rw [hd1,hd2];exact NM hc30);exact Gx O<|Z3 O O O O<|⟨(i+1,s),Io (aS O) (aO O) O O,⟨Pv,hs,hI.last hj hst,Pv⟩,Pv⟩
  ·refine Ge O follows [0,1,2,3,4,5,6,7,8,9,10,11,12,13,14] Pp ?_;iterate 2 refine D1 O O ?_
   refine Ds 18 [] O O O (fun τ h=>(aQ (Ee h 0 O O) (Ee h 1 O O) O).cast (v':= .pv (.bool false)) Pt) O Pp ?_;iterate 11 refine D1 O O ?_
   refine Ds 30 [] O O O (fun τ h=>CN (Ee h 0 O O) (Ee h 2 O O)) O Pp ?_;refine ⟨Pp,?_⟩;refine Gc O O (fun hc30=>absurd hc30 (Bool.false_ne_true)) (fun hc30=>?_);have hst:j=0\/leS (s.getD (j-1) eb) (s.getD j eb):= .inl Po;exact Gx O<|Z3 O O O O<|⟨(i+1,s),Io (aS O) (aO O) O O,⟨Pv,hs,hI.last hj hst,Pv⟩,Pv⟩
 ·exact Gx O<|⟨[],[(big,cB (cR l))],[],Io trivial ⟨af (fun c=>some (Ob.cells 9 (aA c))) (Dm hq (ha.pw (by rw [hq.length_eq,hl];omega))),Pw⟩ O O,O,O,O,O,O⟩
theorem Az (l:List ByteArray) (n:Nat) (e:Int) (hl:l.length=n) (hn:n<=12):FnO prog 193 1 0 [.osl big 1 n,.pv (.int .i64 0),.pv (.int .i64 n),.pv (.int .i64 e)] [(big,cB l)] (fun v ob'=>v= .tup []/\ob'=ar [(big,cB (cR l))]):=by
 refine FnO.of func193 O ntmps193 Ps fun m0 w0 F R0=>?_
 refine Z1 O O<|Z1 O O ?_;refine Gl O (st:=fun ac:Unit=>mkS [(0,.osl big 1 n),(1,.pv (.int .i64 0)),(2,.pv (.int .i64 n)),(3,.pv (.int .i64 e)),(8,.pv (.bool true)),(9,.pv (.bool true))] [(big,cB l)] 0)
  (I:=fun ac=>True) (μ:=fun ac=>0) (x0:=(())) (Io (aS O) (aO O) O O) (trivial) ?_
 rintro u hI;refine Z4 O O O O O<|Z2 O O O ?_;refine Gp O O (fun hc23=>?_) (fun hc23=>absurd hc23 (fun h=>h Po));refine Z3 O O O O ?_;refine RL.call O (fA [big] 0 call229 (xF l n hl Po) O O O O ⟨O,Pw⟩ Pq O ?_);rintro _ _ ⟨rfl,rfl⟩;exact Gt O<|⟨[],[(big,cB (cR l))],[],Io trivial (aO O) O O,O,O,O,O,O⟩
theorem mX (l:List ByteArray) (n:Nat) (hl:l.length=n) (hn:n<=12):FnO prog 148 1 0 [.osl big 1 n] [(big,cB l)] (fun v ob'=>v= .tup []/\ob'=ar [(big,cB (cR l))]):=by
 refine FnO.of func148 O ntmps148 Ps fun m0 w0 F R0=>?_
 have hw:IntKind.u64.wrap (n:Int)=(n:Int):=by
  show ((n:Int)%18446744073709551616)=n;omega
 refine Z3 O O O O<|Z3 O O O O<|Rs 8 O O ((en underlying3 underlying161 O).cast (v':= .pv (.int .u64 n)) (by rw [hw])) ?_;refine RL.call O (dE call104 (tP n hn) O ?_);rintro _ ⟨e,rfl⟩;refine RL.call O (fA [big] 0 call193 (Az l n e hl hn) O O O O ⟨O,Pw⟩ Pq O ?_);rintro _ _ ⟨rfl,rfl⟩;exact ⟨[],[(big,cB (cR l))],[],Io trivial (aO O) O O,O,O,O,O,O⟩
theorem zQ {a b:ByteArray} (h:(a.toList !=b.toList)=false):a=b:=bytes_inj (by simpa using h)
theorem du {α:Type} {l:List α} {k:Nat} {x:α} (h:k<l.length):(l.set k x).take (k+1)=l.take k++[x]:=by
 rw [aR (by simpa using h),List.take_set_of_le (xV _)];simp
end
section
open Mk Jn
theorem oR {α:Type} {P:List α->Prop} (h0:P []) (h1:∀ l x,P l->P (l++[x])) (l:List α):P l:=by
 have:∀ n (l:List α),l.length=n->P l:=by
  intro n;induction n with
  | zero=>intro l hl;rw [OF.1 hl];exact h0
  | succ n ih=>
    intro l hl;have e:l=l.take n++[l[n]]:=by
     have:=aR (show n<l.length by omega);rw [a6 Po] at this;exact this
    rw [e];exact h1 _ _ (ih _ Pt)
 exact this _ l O
def GO (out:List ByteArray) (x:ByteArray):List ByteArray:=if out.getLast? =some x then out else out++[x]
def bD (l:List ByteArray):List ByteArray:=l.foldl GO []
theorem yf (l:List ByteArray):(bD l).getLast? =l.getLast? :=by
 refine oR (P:=fun l=>(bD l).getLast? =l.getLast?) O (fun l x ih=>?_) l
 ·unfold bD;rw [Na];simp only [MG,List.foldl_nil,GO];split
  ·next h=>rw [h];simp
  ·simp
theorem hY (l:List ByteArray) (x:ByteArray):bD (l++[x])=if l.getLast? =some x then bD l else bD l++[x]:=by
 rw [<-yf];show List.foldl GO [] (l++[x])=_;rw [Na];rfl
theorem oc {l:List ByteArray} {y:ByteArray}:y∈bD l↔y∈l:=by
 refine oR (P:=fun l=>y∈bD l↔y∈l) Iff.rfl (fun l x ih=>?_) l
 ·rw [hY];split
  ·next h=>
   rw [ih,Mc,o7];constructor
   ·exact .inl
   ·rintro (h1 | h1)
    ·exact h1
    ·subst h1;exact List.mem_of_getLast? h
  ·rw [Mc,Mc,ih]
theorem jX (l:List ByteArray):(bD l).length<=l.length:=by
 refine oR (P:=fun l=>(bD l).length<=l.length) (xV _) (fun l x ih=>?_) l;rw [hY];split<;>simp<;>omega
theorem Bw {l:List ByteArray} (h:l.Pairwise leS):(bD l).Pairwise ltS:=by
 revert h
 refine oR (P:=fun l=>l.Pairwise leS->(bD l).Pairwise ltS) (fun _=>List.Pairwise.nil) (fun l x ih h=>?_) l
 ·rw [OY] at h;rw [hY];split
  ·exact ih h.1
  ·next hne=>
   rw [OY];refine ⟨ih h.1,NK _ _,fun a ha b hb=>?_⟩;rw [o7] at hb;subst hb;have hle:=h.2.2 a (oc.1 ha) b Ps;refine MC fun hlt=>hne ?_
   have heq:=tc hlt hle;subst heq;have hal:=oc.1 ha;cases hl:l.getLast? with
   | none=>rw [List.getLast?_eq_none_iff] at hl;subst hl;simp at hal
   | some z=>
     obtain ⟨pre,rfl⟩:=List.getLast?_eq_some_iff.1 hl;have hza:leS z a:=h.2.2 z Ps a Ps;rcases Mc.1 hal with h1 | h1
     ·have haz:=(OY.1 h.1).2.2 a h1 z Ps;rw [tE haz hza]
     ·rw [o7.1 h1]
theorem vW {l:List ByteArray} (h:l.Pairwise leS):(bD l).Nodup:=
 (Bw h).imp fun {a b} hab e=>by subst e;exact iA _ hab
theorem xy {l:List ByteArray} {k:Nat} (h0:0<k) (h:k<=l.length):(l.take k).getLast? =some (l[k-1]'Po):=by
 obtain ⟨j,rfl⟩:∃ j,k=j+1:=⟨k-1,Po⟩;rw [aR Po];simp only [List.getLast?_append,List.getLast?_singleton,Option.some_or,Nat.add_sub_cancel]
theorem p8 {l:List ByteArray} {k:Nat} (h0:0<k) (h:k<l.length):bD (l.take (k+1))=if l[k-1]'Po=l[k] then bD (l.take k) else bD (l.take k)++[l[k]]:=by
 rw [aR h,hY,xy h0 Po];by_cases e:l[k-1]'Po=l[k]
 ·rw [qY e,qY (by rw [e])]
 ·rw [kH e,kH (fun h=>e (Nq h))]
theorem uj (l:List ByteArray) (h:l.length<2):bD l=l:=by
 match l,h with
 | [],_=>rfl
 | [x],_=>rfl
theorem jh (l:List ByteArray) (n:Nat) (hl:l.length=n) (hn:n<=1000):FnO prog 149 1 0 [.osl big 1 n] [(big,cB l)] (fun v ob'=>v= .osl big 1 (bD l).length/\ob'=ar [(big,cB (bD l))]):=by
 refine FnO.of func149 O ntmps149 Ps fun m0 w0 F R0=>?_
 refine Z1 O O<|Z3 O O O O ?_;refine Gp O O (fun hc8=>?_) (fun hc8=>?_)
 ·have hc1:=uj l Po;exact Z2 O O O<|Gt O<|⟨[(2,.osl big 1 n)],[(big,cB l)],[.osl big 1 n],Io (aS O) (aO O) O O,O,O,O,by rw [hc1,hl];rfl,by rw [hc1]⟩
 ·refine Il<|Z1 O O ?_;refine Gl O (st:=fun ac:Nat=>mkS [(0,.osl big 1 n),(3,.pv (.int .i64 ac))] [(big,cB l)] 0)
   (I:=fun ac=>(1<=ac/\ac<=n)/\bD (l.take ac)=l.take ac) (μ:=fun ac=>n-ac) (x0:=(1)) (Io (aS O) (aO Pp) O O) (⟨⟨xV _,Po⟩,uj _ Pt⟩) ?_
  rintro k ⟨⟨hk1,hkn⟩,hck⟩;refine Z4 O O O O O ?_;refine Gp O O (fun hc13=>?_) (fun hc13=>?_)
  ·have hlt:k<l.length:=Po;have hlt1:k-1<l.length:=Po;have hv0:=aM hlt;have hv1:=aM hlt1;have hct:=p8 hk1 hlt;refine Il<|Ge O follows [0,1,2,3,4,5,6,7,8,9] Pp ?_;iterate 2 refine D1 O O ?_
   refine Ds 18 [_] O O O (fun τ h=>aa k underlying47 sz9 (Ee h 0 O O) (Eo h 0 O O) (Ee h 1 O O) O Po) O Pp<|Ds 19 [_] O O O (fun τ h=>aC ⟨_,underlying9,O⟩ (Ee h 0 O O) (Eo h 0 O O) hv0) O Pp ?_;iterate 3 refine D1 O O ?_
   refine Ds 23 [_] O O O (fun τ h=>aa (k-1) underlying47 sz9 (Ee h 0 O O) (Eo h 0 O O) (Ee h 1 O O) Po Po) O Pp<|Ds 24 [_] O O O (fun τ h=>aC ⟨_,underlying9,O⟩ (Ee h 0 O O) (Eo h 0 O O) hv1) O Pp<|D1 O O ?_;refine ⟨Pp,?_⟩;refine Gc O O (fun hc25=>?_) (fun hc25=>?_)
   ·have heq:l[k-1]=l[k]:=(baT hc25).symm;rw [qY heq,hck] at hct;refine Z2 O O O<|Rs 28 O O (dK k underlying47 sz9 O O O O Po)<|A1 O<|Z1 O O ?_;refine Gl O (st:=fun x_1:Nat×Nat×List ByteArray=>mkS [(0,.osl big 1 n),(3,.pv (.int .i64 x_1.2.1)),(4,.tsl big (k*1) (n-k)),(5,.pv (.int .i64 x_1.1))] [(big,cB x_1.2.2)] 0)
     (I:=fun x_1=>((1<=x_1.1/\x_1.1<=n-k)/\(x_1.2.1<=k+x_1.1-1/\x_1.2.2.length=n))/\(x_1.2.2.drop (k+x_1.1-1)=l.drop (k+x_1.1-1)/\x_1.2.2.take x_1.2.1=bD (l.take (k+x_1.1))/\x_1.2.1=(bD (l.take (k+x_1.1))).length)) (μ:=fun x_1=>n-k-x_1.1) (x0:=(1,k,l)) (Io (aS O) (aO Pp) O O) (⟨⟨⟨xV _,Pv⟩,Pv,hl⟩,O,hct.symm,by simp only;rw [hct,AI];omega⟩) ?_
    rintro ⟨i,k2,q⟩ ⟨⟨⟨hi1,hin⟩,hk2,hql⟩,hqd,hqt,hk2e⟩;try simp only at hi1 hin hk2 hql hqd hqt hk2e ⊢
    refine Z2 O O O<|Rs 31 O O (EI underlying47 O)<|A1 O ?_;refine Gp O O (fun hc32=>?_) (fun hc32=>?_)
    ·have hpl:k+i<l.length:=Po;have hpl1:k+i-1<l.length:=Po;have hq0:q[k+i]'Po=l[k+i]:=by have:=af (fun z=>z[1]?) hqd;simp only [MA] at this;rw [show k+i-1+1=k+i by omega,kJ Po,kJ hpl] at this;exact Nq this
     have hq1:q[k+i-1]'Po=l[k+i-1]:=by have:=af (fun z=>z[0]?) hqd;simp only [MA] at this;rw [show k+i-1+0=k+i-1 by omega,kJ Po,kJ hpl1] at this;exact Nq this
     have hv2:(aA q)[k*1+i*1]? =some (.str l[k+i]):=by rw [Mi,Mi,Nf,kJ Po,hq0];rfl
     have hv3:(aA q)[k*1+(i-1)*1]? =some (.str l[k+i-1]):=by rw [Mi,Mi,show k+(i-1)=k+i-1 by omega,Nf,kJ Po,hq1];rfl
     have hct2:=p8 (l:=l) (k:=k+i) Po hpl;have hdrop:q.drop (k+i)=l.drop (k+i):=by have:=af (fun z=>z.drop 1) hqd;simp only [List.drop_drop] at this;rwa [show k+i-1+1=k+i by omega] at this
     have hqln:(aA q).length=n:=by rw [xT,hql]
     refine Il<|Ge O follows [0,1,2,3,4,5,6,7,8,9] Pp ?_;iterate 2 refine D1 O O ?_
     refine Ds 37 [_] O O O (fun τ h=>eR i underlying47 sz9 (Ee h 0 O O) (Eo h 0 O O) (Ee h 1 O O) O Po) O Pp<|Ds 38 [_] O O O (fun τ h=>aC ⟨_,underlying9,O⟩ (Ee h 0 O O) (Eo h 0 O O) hv2) O Pp ?_;iterate 3 refine D1 O O ?_
     refine Ds 42 [_] O O O (fun τ h=>eR (i-1) underlying47 sz9 (Ee h 0 O O) (Eo h 0 O O) (Ee h 1 O O) Po Po) O Pp<|Ds 43 [_] O O O (fun τ h=>aC ⟨_,underlying9,O⟩ (Ee h 0 O O) (Eo h 0 O O) hv3) O Pp<|D1 O O ?_;refine ⟨Pp,?_⟩;refine Gc O O (fun hc44=>?_) (fun hc44=>?_)
     ·have hne:¬ l[k+i-1]=l[k+i]:=fun e=>by rw [e] at hc44;simp at hc44
      rw [kH hne] at hct2;exact Z4 O O O O O<|Rs 49 O O (eR i underlying47 sz9 O O O O Po)<|Rs 50 O O (aC ⟨_,underlying9,O⟩ O O hv2)<|Rs 51 O O (aa k2 underlying47 sz9 O O O O Po)<|RL.step (d:=none) O O (aF sz9 O O O O Po)<|Z3 O O O O<|Z3 O O O O<|⟨(i+1,k2+1,q.set k2 l[k+i]),Io (aS O) ⟨af (fun c=>some (Ob.cells 9 c)) (jS l[k+i]),Pw⟩ O O,⟨⟨⟨Pv,Pv⟩,Pv,by simp only [Md];exact hql⟩,by simp only;rw [show k+(i+1)-1=k+i by omega,List.drop_set_of_lt Po];exact hdrop,by simp only;rw [show k+(i+1)=k+i+1 by omega,hct2,<-hqt];exact du Po,by simp only;rw [show k+(i+1)=k+i+1 by omega,hct2,kQ,<-hk2e];rfl⟩,Pv⟩
     ·exact Il<|Z3 O O O O<|⟨(i+1,k2,q),Io (aS O) (aO Pp) O O,⟨⟨⟨Pv,Pv⟩,Pv,hql⟩,by simp only;rw [show k+(i+1)-1=k+i by omega];exact hdrop,by simp only;rw [show k+(i+1)=k+i+1 by omega,hct2,qY (zQ hc44).symm];exact hqt,by simp only;rw [show k+(i+1)=k+i+1 by omega,hct2,qY (zQ hc44).symm];exact hk2e⟩,Pv⟩
    ·have hie:k+i=n:=Po;rw [show l.take (k+i)=l from a6 Po] at hqt hk2e;have hqln:(aA q).length=n:=by rw [xT,hql]
     have hcl:=jX l;have hfin:(aA q).take (k2*1)=aA (bD l):=by rw [Mi,<-List.map_take,hqt]
     exact Gx O<|Z2 O O O<|Rs 56 O O (dK k2 underlying47 sz9 O O O O Po)<|RL.step (d:=none) O O (kn uq O O O Po)<|Z2 O O O<|Rs 59 O O (dC k2 underlying47 sz9 O O O O Po)<|A1 O<|Gt O<|⟨[(2,.osl big 1 k2)],[(big,cB (bD l))],[.osl big 1 k2],Io (aS O) ⟨af (fun c=>some (Ob.cells 9 c)) hfin,Pw⟩ O O,O,O,O,by rw [hk2e];rfl,O⟩
   ·have hne:¬ l[k-1]=l[k]:=fun e=>by rw [e] at hc25;simp at hc25
    rw [kH hne,hck] at hct;exact Il<|Z3 O O O O<|⟨(k+1),Io (aS O) (aO Pp) O O,⟨⟨Po,Po⟩,by rw [hct,aR hlt]⟩,Po⟩
  ·rw [a6 Po] at hck;exact Gx O<|Z2 O O O<|Gt O<|⟨[(2,.osl big 1 n)],[(big,cB l)],[.osl big 1 n],Io (aS O) (aO O) O O,O,O,O,by rw [hck,hl];rfl,by rw [hck]⟩
theorem uK {J:JD} (hJ:JOk J) (r:Nat):∀ x∈dh J r,x.v.length=(cy J r).length:=by
 intro x hx;by_cases h:r<J.T.length
 ·have h2:r<J.S.rels.length:=by rw [<-hJ.n];exact h
  rw [show dh J r=J.T[r] by simp [dh,List.getD,h]] at hx;rw [hJ.v r h h2 x hx];simp [cy,List.getD,h2]
 ·rw [show dh J r=[] by simp [dh,List.getD,MV (by omega:J.T.length<=r)]] at hx;simp at hx
def sdS (l:List ByteArray):List ByteArray:=bD (cR l)
theorem qL (l:List ByteArray):(sdS l).Nodup:=vW (je l)
theorem sf (l:List ByteArray) (x:ByteArray):x∈sdS l↔x∈l:=by unfold sdS;rw [oc,(cY l).mem_iff]
theorem nG:sdS []=[]:=List.eq_nil_iff_forall_not_mem.2 fun x hx=>by rw [sf] at hx;simp at hx
def xf (J:JD) (f a:Nat) (σ:Asg ByteArray):List ByteArray:=((dh J f).filter fun x=>agr (cy J f) σ x.v).map fun x=>x.v.getD ((cy J f).idxOf (a:Int)) eb
def jx (J:JD) (a:Nat) (σ:Asg ByteArray):List ByteArray:=match bw (RJ J) (a:Int) with
 | []=>[]
 | f::_=>sdS (xf J f a σ)
def r4 (J:JD) (a k:Nat):List Nat:=(List.range k).filter fun r=>decide ((a:Int)∈(RJ J).at r)
theorem mM (J:JD) (a:Nat):r4 J a J.S.rels.length=bw (RJ J) (a:Int):=by unfold r4 bw;rw [show (RJ J).A.length=J.S.rels.length by simp [RJ]]
theorem mD (J:JD) (a:Nat) {k:Nat} (h:k<J.S.rels.length):r4 J a (k+1)=r4 J a k++if (a:Int)∈J.S.rels[k].2 then [k] else []:=by
 unfold r4;rw [NY,MR];have e:(RJ J).at k=J.S.rels[k].2:=by rw [qX];simp [cy,List.getD,h]
 by_cases hm:(a:Int)∈J.S.rels[k].2
 ·simp [MW,e,hm]
 ·simp [MW,e,hm]
theorem kA (J:JD) (a:Nat) (r:Nat) (h:r∈bw (RJ J) (a:Int)):r<J.S.rels.length/\(a:Int)∈cy J r:=by
 have h1:=L9.1 h;refine ⟨by have:=Mx.1 h1.1;simpa [RJ] using this,?_⟩;rw [<-qX];simpa using h1.2
theorem mq {α β:Type} {f g:α->Option β}:∀ {l:List α},(∀ x∈l,f x=g x)->l.filterMap f=l.filterMap g
 | [],_=>rfl
 | x::l,h=>by
   rw [List.filterMap_cons,List.filterMap_cons,h x Ps,mq fun y hy=>h y (by simp [hy])]
theorem re (J:JD) (a:Nat) (σ:Asg ByteArray) (hσ:σ (a:Int)=none) {f:Nat} {rest:List Nat} (hw:bw (RJ J) (a:Int)=f::rest) (hv:∀ x∈dh J f,x.v.length=(cy J f).length):bC (RJ J) sdS (a:Int) σ=(sdS (xf J f a σ)).filter fun x=> !dS J (bw (RJ J) (a:Int)) σ a x:=by
 unfold bC;rw [hw];simp only;have hu:gf σ (a:Int)=σ:=by funext b;unfold gf;split<;>simp_all
 have hm:(a:Int)∈cy J f:=(kA J a f (by rw [hw];simp)).2;have hi:=NH hm;have e1:(((RJ J).rows f).filter (agr ((RJ J).at f) (gf σ a))).filterMap (fun row=>row[((RJ J).at f).idxOf (a:Int)]?)=xf J f a σ:=by
  rw [hu,kF,qX,List.filter_map,List.filterMap_map];unfold xf;rw [<-List.filterMap_eq_map];refine mq fun x hx=>?_
  have hxl:=hv x (L9.1 hx).1;simp only [Function.comp_apply];rw [kJ Po];simp [List.getD,hxl,hi]
 rw [e1];refine List.filter_congr fun x _=>?_
 unfold dS;rw [Mg,uv];simp
end
section
open Mk Jn
abbrev o8B (J:JD) (W:WD) (q:List ByteArray) (σ:Asg ByteArray) (now:List ByteArray) (mk mv:List PV):List (Nat×Ob):=[(big,cB q),(9001,.mix 139 [.ptr 9002 0]),(9002,oB W 9006 9003 J.S.attrs.length 9004 9005),(9003,.cells 9 (aA now)),(9004,.cells 4 (ay (stL σ J.S.attrs.length))),(9005,.mp mk mv),(9006,oX2 J 9007),(9007,.mp J.pk J.pv)]
abbrev c1B (a:Nat) (rs:List Nat):V:= .fn (.func 151) [] [.ptr 9001 0,.pv (.rp [.int .i64 a] 0),.pv (.rp [ak (bK rs)] 0)]
theorem qj (J:JD) (hJ:JOk J) (W:WD) (σ:Asg ByteArray) (now:List ByteArray) (hn:NowOk J.S.attrs.length σ now) (mk mv:List PV) (a:Nat) (ha:a<J.S.attrs.length) (hσ:σ (a:Int)=none) (rs:List Nat) (hl:rs.length<=1000) (hr:∀ r∈rs,r<J.S.rels.length) (l:List ByteArray) (n:Nat) (hln:l.length=n) (hn1:n<=1000) (i:Int)
  (hi1:∀ k (h:k<l.length),dS J rs σ a l[k]=true->(∀ j (h:j<l.length),j<k->dS J rs σ a l[j]=false)->i=k) (hi2:(∀ j (h:j<l.length),dS J rs σ a l[j]=false)->i= -1):
  FnO prog 194 8 0 [.osl big 1 n,c1B a rs] (o8B J W l σ now mk mv) (fun v ob'=>v= .pv (.int .i64 i)/\ob'=ar (o8B J W l σ (tst now a (l.take (if i<0 then n else i.toNat+1))) mk mv)):=by
 refine FnO.of func194 O ntmps194 Ps fun m0 w0 F R0=>?_
 refine Z1 O O<|Z3 O O O O ?_;refine Gl O (st:=fun ac:Nat=>mkS [(0,.osl big 1 n),(1,c1B a rs),(7,.pv (.int .i64 n)),(8,.pv (.int .i64 ac))] [(big,cB l),(9001,.mix 139 [.ptr 9002 0]),(9002,oB W 9006 9003 J.S.attrs.length 9004 9005),(9003,.cells 9 (aA (tst now a (l.take ac)))),(9004,.cells 4 (ay (stL σ J.S.attrs.length))),(9005,.mp mk mv),(9006,oX2 J 9007),(9007,.mp J.pk J.pv)] 0)
  (I:=fun ac=>ac<=n/\∀ j (h:j<l.length),j<ac->dS J rs σ a l[j]=false) (μ:=fun ac=>n-ac) (x0:=(0)) (Io (aS O) (aO Pp) O O) (⟨bk _,fun _ _ h=>absurd h Po⟩) ?_
 rintro k ⟨hk,hno⟩;refine Z1 O O ?_;refine Gp O O (fun hc9=>?_) (fun hc9=>?_)
 ·have hlt:k<l.length:=Po;have hv:=aM hlt;have hgk:=mE J hJ W σ (tst now a (l.take k)) (ki hn ha hσ _) mk mv a ha hσ rs hl hr l[k];rw [jJ hlt] at hgk;have hik:=hi1 k hlt;rw [show (rs.any fun r=> !(Bd (RJ J) r (put σ a l[k])))=dS J rs σ a l[k] from O] at hgk;generalize hbk:dS J rs σ a l[k]=b at*;refine Il<|Z2 O O O<|Z3 O O O O<|Rs 14 O O (aa k underlying47 sz9 O O O O Po)<|Rs 15 O O (aC ⟨_,underlying9,O⟩ O O hv)<|Rs 16 O O (bJ [9001,9002,9003,9004,9005,9006,9007] 0 call151 hgk O O O O O O ⟨O,O,O,O,O,O,O,Pw⟩ Pq O) ?_;refine Gc O O (fun hc16=>?_) (fun hc16=>?_)
  ·exact Z2 O O O<|Gt O<|⟨[(4,.pv (.int .i64 k))],o8B J W l σ (tst now a (l.take (k+1))) mk mv,[.pv (.int .i64 k)],Io (aS O) (aO Pp) O O,O,O,O,by rw [hik hc16 hno];rfl,by rw [hik hc16 hno,kH Po];rfl⟩
  ·exact Il<|Z2 O O O<|⟨(k+1),Io (aS O) (aO Pp) O O,⟨Po,fun j h hj=>by rcases Me.1 hj with h1 | h1;exact hno j h h1;subst h1;rw [hbk];exact hc16⟩,Po⟩
 ·have hm:=hi2 fun j h=>hno j h Po
  obtain rfl:n=k:=Po;exact Gx O<|Z1 O O<|Gt O<|⟨[(4,.pv (.int .i64 (-1)))],o8B J W l σ (tst now a (l.take n)) mk mv,[.pv (.int .i64 (-1))],Io (aS O) (aO Pp) O O,O,O,O,by rw [hm];rfl,by rw [hm];rfl⟩
theorem qG (J:JD) (hJ:JOk J) (W:WD) (σ:Asg ByteArray) (now:List ByteArray) (hn:NowOk J.S.attrs.length σ now) (mk mv:List PV) (a:Nat) (ha:a<J.S.attrs.length) (hσ:σ (a:Int)=none) (rs:List Nat) (hl:rs.length<=1000) (hr:∀ r∈rs,r<J.S.rels.length) (l:List ByteArray) (n:Nat) (hln:l.length=n) (hn1:n<=1000):
  FnO prog 150 8 0 [.osl big 1 n,c1B a rs] (o8B J W l σ now mk mv) (fun v ob'=>v= .osl big 1 (l.filter fun x=> !dS J rs σ a x).length/\ob'=ar (o8B J W (l.filter fun x=> !dS J rs σ a x) σ (tst now a l) mk mv)):=by
 obtain ⟨i,hi,hi1,hi2⟩:=jg l (dS J rs σ a);obtain ⟨hia,hib⟩:=sH hi hi1 hi2;have hidx:=qj J hJ W σ now hn mk mv a ha hσ rs hl hr l n hln hn1 i hi1 hi2;refine FnO.of func150 O ntmps150 Ps fun m0 w0 F R0=>?_
 clear hi hi1 hi2;refine Z1 O O<|Z2 O O O<|Rs 10 O O (ah [big,9001,9002,9003,9004,9005,9006,9007] 0 call194 hidx O O O O ⟨O,O,O,O,O,O,O,O,Pw⟩ Pq O)<|A1 O<|Z2 O O O ?_;refine Gc O O (fun hc12=>?_) (fun hc12=>?_)
 ·have hie:i= -1:=by simpa using hc12
  have hf:(l.filter fun x=> !dS J rs σ a x)=l:=O8.2 fun x hx=>by rw [hia hie x hx];rfl
  exact Z2 O O O<|Gt O<|⟨[(4,.osl big 1 n)],o8B J W l σ (tst now a l) mk mv,[.osl big 1 n],Io (aS O) ⟨Pp,Pp,Pp,IN (b:=some (Ob.cells 9 (aA (tst now a (l.take (if i<0 then n else i.toNat+1)))))) Pp (by rw [hie,qY Pq,a6 Po]),Pp,Pp,Pp,Pp,Pw⟩ O O,O,O,O,by rw [hf,hln];rfl,by rw [hf]⟩
 ·have hne:¬ i= -1:=by intro e;rw [e] at hc12;simp at hc12
  obtain ⟨i0,rfl,hi0,hft⟩:=hib hne;refine Il<|Z3 O O O O ?_;refine Gl O (st:=fun ac:Nat×Nat×List ByteArray=>mkS [(0,.osl big 1 n),(1,c1B a rs),(5,.pv (.int .i64 ac.2.1)),(6,.pv (.int .i64 ac.1))] [(big,cB ac.2.2),(9001,.mix 139 [.ptr 9002 0]),(9002,oB W 9006 9003 J.S.attrs.length 9004 9005),(9003,.cells 9 (aA (tst now a (l.take ac.1)))),(9004,.cells 4 (ay (stL σ J.S.attrs.length))),(9005,.mp mk mv),(9006,oX2 J 9007),(9007,.mp J.pk J.pv)] 0)
   (I:=fun ac=>((ac.1<=n/\ac.2.1<ac.1)/\ac.2.2.length=n)/\(ac.2.2.drop ac.1=l.drop ac.1/\ac.2.2.take ac.2.1=(l.take ac.1).filter fun x=> !dS J rs σ a x)/\ac.2.1=((l.take ac.1).filter fun x=> !dS J rs σ a x).length) (μ:=fun ac=>n-ac.1) (x0:=(i0+1,i0,l)) (Io (aS O) ⟨Pp,Pp,Pp,IN (b:=some (Ob.cells 9 (aA (tst now a (l.take (if (i0:Int)<0 then n else (i0:Int).toNat+1)))))) Pp (by rw [kH Po];rfl),Pp,Pp,Pp,Pp,Pw⟩ O O) (⟨⟨⟨Pv,Pv⟩,hln⟩,⟨O,by simp only;rw [hft]⟩,by simp only;rw [hft,AI];omega⟩) ?_
  rintro ⟨k,m,q⟩ ⟨⟨⟨hk,hmk⟩,hql⟩,⟨hqd,hqt⟩,hme⟩;try simp only at hk hmk hql hqd hqt hme ⊢
  have hqln:(aA q).length=n:=by rw [xT,hql]
  refine Z4 O O O O O ?_;refine Gp O O (fun hc19=>?_) (fun hc19=>?_)
  ·have hlt:k<l.length:=Po;have hq0:q[k]'Po=l[k]:=by have:=af (fun z=>z[0]?) hqd;simp only [MA,Ny] at this;rw [kJ Po,kJ hlt] at this;exact Nq this
   have hv:(aA q)[k*1]? =some (.str l[k]):=by rw [Mi,Nf,kJ Po,hq0];rfl
   have hgk:=mE J hJ W σ (tst now a (l.take k)) (ki hn ha hσ _) mk mv a ha hσ rs hl hr l[k];rw [jJ hlt] at hgk;rw [show (rs.any fun r=> !(Bd (RJ J) r (put σ a l[k])))=dS J rs σ a l[k] from O] at hgk;have hdrop:q.drop (k+1)=l.drop (k+1):=by have:=af (fun z=>z.drop 1) hqd;simpa only [List.drop_drop] using this
   have hfs:(l.take (k+1)).filter (fun x=> !dS J rs σ a x)=(l.take k).filter (fun x=> !dS J rs σ a x)++if dS J rs σ a l[k]=true then [] else [l[k]]:=by rw [aR hlt];exact kR _ _ _
   generalize hbk:dS J rs σ a l[k]=b at*;refine Il<|Z2 O O O<|Rs 24 O O (aa k underlying47 sz9 O O O O Po)<|Rs 25 O O (aC ⟨_,underlying9,O⟩ O O hv)<|A1 O<|Z2 O O O<|Rs 28 O O (bJ [9001,9002,9003,9004,9005,9006,9007] 0 call151 hgk O O O O O O ⟨O,O,O,O,O,O,O,Pw⟩ Pq O)<|A1 O ?_;refine Gc O O (fun hc29=>?_) (fun hc29=>?_)
   ·exact Z3 O O O O<|Rs 33 O O (aa m underlying47 sz9 O O O O Po)<|RL.step (d:=none) O O (aF sz9 O O O O Po)<|Z3 O O O O<|Z3 O O O O<|⟨(k+1,m+1,q.set m l[k]),Io (aS O) ⟨IN (b:=some (Ob.cells 9 ((aA q).set (m*1) (.str l[k])))) Pp (af (fun c=>some (Ob.cells 9 c)) (jS l[k])),Pp,Pp,Pp,Pp,Pp,Pp,Pp,Pw⟩ O O,⟨⟨⟨Pv,Pv⟩,by simp only [Md];exact hql⟩,⟨by simp only;rw [List.drop_set_of_lt Po];exact hdrop,by simp only;rw [hfs,kH (by intro e;rw [e] at hc29;simp at hc29),<-hqt];exact du Po⟩,by simp only;rw [hfs,kH (by intro e;rw [e] at hc29;simp at hc29),kQ,<-hme];rfl⟩,Pv⟩
   ·exact Il<|Z3 O O O O<|⟨(k+1,m,q),Io (aS O) (aO Pp) O O,⟨⟨⟨Pv,Pv⟩,hql⟩,⟨hdrop,by simp only;rw [hfs,qY (by simpa using hc29),MN];exact hqt⟩,by simp only;rw [hfs,qY (by simpa using hc29),MN];exact hme⟩,Pv⟩
  ·have hkn:l.take k=l:=a6 Po;rw [hkn] at hqt hme;have hfin:(aA q).take (m*1)=aA (l.filter fun x=> !dS J rs σ a x):=by rw [Mi,<-List.map_take,hqt]
   exact Gx O<|Z2 O O O<|Rs 38 O O (dK m underlying47 sz9 O O O O Po)<|RL.step (d:=none) O O (kn uq O O O Po)<|Z2 O O O<|Rs 41 O O (dC m underlying47 sz9 O O O O Po)<|A1 O<|Gt O<|⟨[(4,.osl big 1 m)],o8B J W (l.filter fun x=> !dS J rs σ a x) σ (tst now a l) mk mv,[.osl big 1 m],Io (aS O) ⟨IN (b:=some (Ob.cells 9 ((aA q).take (m*1)))) Pp (af (fun c=>some (Ob.cells 9 c)) hfin),Pp,Pp,IN (b:=some (Ob.cells 9 (aA (tst now a (l.take k))))) Pp (by rw [hkn]),Pp,Pp,Pp,Pp,Pw⟩ O O,O,O,O,by rw [hme];rfl,O⟩
end
section
open Mk Jn
theorem Dy {l:List Int} {x:Int} {k:Nat} (h:k<l.length) (hx:l[k]=x) (hno:∀ j (h:j<l.length),j<k->l[j]≠x):l.idxOf x=k:=by
 have hm:x∈l:=hx▸aJ h;have h1:=NH hm;have h2:l[l.idxOf x]=x:=List.getElem_idxOf h1;rcases Nat.lt_trichotomy (l.idxOf x) k with c | c | c
 ·exact absurd h2 (hno _ h1 c)
 ·exact c
 ·exact absurd hx (by
   have:=List.not_of_lt_findIdx (p:=(· ==x)) (xs:=l) (i:=k) c;simpa using this)
theorem qb (l:List Int) (x:Int) (hl:l.length<=1000000) (hx:x∈l):FnP prog 147 [ak l,.int .i64 x] (· = .int .i64 ((l.idxOf x:Nat):Int)):=by
 refine FnP.of func147 O ntmps147 Ps fun m0 w0 F R0=>?_
 refine Z1 O O<|Z3 O O O O ?_;refine Gl O (st:=fun ac:Nat=>mkS [(0,.pv (ak l)),(1,.pv (.int .i64 x)),(7,.pv (.int .i64 l.length)),(8,.pv (.int .i64 ac))] [] 0)
  (I:=fun ac=>ac<=l.length/\∀ j (h:j<l.length),j<ac->l[j]≠x) (μ:=fun ac=>l.length-ac) (x0:=(0)) (Io (aS O) trivial O O) (⟨bk _,fun _ _ h=>absurd h Po⟩) ?_
 rintro k ⟨hk,hno⟩;refine Z1 O O ?_;refine Gp O O (fun hc9=>?_) (fun hc9=>?_)
 ·have hlt:k<l.length:=Po;have hv:=cE hlt;have hne:=aH hlt;refine Il<|Z2 O O O<|Z4 O O O O O ?_;first | refine A2 O Pr ?_ | refine A1 O ?_
  refine A1 O ?_;refine Gc O O (fun hc16=>?_) (fun hc16=>?_)
  ·exact Z2 O O O<|Gt O<|⟨_,_,O,O,by rw [Dy hlt (eq_of_beq hc16).symm hno];rfl⟩
  ·exact Il<|Z2 O O O<|⟨(k+1),Io (aS O) trivial O O,⟨Po,fun j h hj=>by rcases Me.1 hj with h1 | h1;exact hno j h h1;subst h1;intro e;rw [e] at hc16;simp at hc16⟩,Po⟩
 ·exact absurd hx (fun hm=>by obtain ⟨j,h,e⟩:=Nc.1 hm;exact hno j h Po e)
  done
theorem AZ:FnP prog 229 [aI [],.int .i64 0,.int .i64 0] (· = .tup []):=by
 refine FnP.of func229 O ntmps229 Ps fun m0 w0 F R0=>?_
 refine Z3 O O O O ?_;refine Gl O (st:=fun ac:Unit=>mkS [(0,.pv (aI [])),(1,.pv (.int .i64 0)),(2,.pv (.int .i64 0)),(6,.pv (.int .i64 1))] [] 0)
  (I:=fun ac=>True) (μ:=fun ac=>0) (x0:=(())) (Io (aS O) trivial O O) (trivial) ?_
 rintro u hI;refine Z3 O O O O ?_;refine Gp O O (fun hc12=>absurd hc12 Po) (fun hc12=>?_);exact Gx O<|⟨_,_,O,O,O⟩
theorem zh (e:Int):FnP prog 193 [aI [],.int .i64 0,.int .i64 0,.int .i64 e] (· = .tup []):=by
 refine FnP.of func193 O ntmps193 Ps fun m0 w0 F R0=>?_
 refine Z1 O O<|Z1 O O ?_;refine Gl O (st:=fun ac:Unit=>mkS [(0,.pv (aI [])),(1,.pv (.int .i64 0)),(2,.pv (.int .i64 0)),(3,.pv (.int .i64 e)),(8,.pv (.bool true)),(9,.pv (.bool true))] [] 0)
  (I:=fun ac=>True) (μ:=fun ac=>0) (x0:=(())) (Io (aS O) trivial O O) (trivial) ?_
 rintro u hI;refine Z4 O O O O O<|Z2 O O O ?_;refine Gp O O (fun hc23=>?_) (fun hc23=>absurd hc23 (fun h=>h Po));exact Z3 O O O O<|Rs 27 O O (ae call229 AZ O)<|Gt O<|⟨_,_,O,O,O⟩
theorem lT:FnP prog 148 [aI []] (· = .tup []):=by
 refine FnP.of func148 O ntmps148 Ps fun m0 w0 F R0=>?_
 refine Z3 O O O O<|Z3 O O O O<|Rs 8 O O ((en underlying3 underlying161 O).cast (v':= .pv (.int .u64 (0:Nat))) O) ?_;refine RL.call O (dE call104 (tP 0 Pq) O ?_);rintro _ ⟨e,rfl⟩;exact Rs 10 O O (ae call193 (zh e) O)<|⟨_,_,O,O,O⟩
theorem gD:FnP prog 149 [aI []] (· =aI []):=by
 refine FnP.of func149 O ntmps149 Ps fun m0 w0 F R0=>?_
 refine Z1 O O<|Z3 O O O O ?_;refine Gp O O (fun hc8=>?_) (fun hc8=>absurd hc8 (fun h=>h (by show ((0:Nat):Int)<2;omega)));exact Z2 O O O<|Gt O<|⟨_,_,O,O,O⟩
end
section
open Mk Jn
theorem vH (J:JD) (W:WD) (σ:Asg ByteArray) (now:List ByteArray) (mk mv:List PV) (a:Nat) (rs:List Nat):
  FnO prog 194 7 0 [.pv (aI []),.fn (.func 151) [] [.ptr big 0,.pv (.rp [.int .i64 a] 0),.pv (.rp [ak (bK rs)] 0)]] (o7B J W σ now mk mv) (fun v ob'=>v= .pv (.int .i64 (-1))/\ob'=ar (o7B J W σ now mk mv)):=by
 refine FnO.of func194 O ntmps194 Ps fun m0 w0 F R0=>?_
 refine Z1 O O<|Z3 O O O O ?_;refine Gl O (st:=fun ac:Unit=>mkS [(0,.pv (aI [])),(1,.fn (.func 151) [] [.ptr big 0,.pv (.rp [.int .i64 a] 0),.pv (.rp [ak (bK rs)] 0)]),(7,.pv (.int .i64 0)),(8,.pv (.int .i64 0))] [(big,.mix 139 [.ptr 9001 0]),(9001,oB W 9005 9002 J.S.attrs.length 9003 9004),(9002,.cells 9 (aA now)),(9003,.cells 4 (ay (stL σ J.S.attrs.length))),(9004,.mp mk mv),(9005,oX2 J 9006),(9006,.mp J.pk J.pv)] 0)
  (I:=fun ac=>True) (μ:=fun ac=>0) (x0:=(())) (Io (aS O) (aO O) O O) (trivial) ?_
 rintro u hI;refine Z1 O O ?_;refine Gp O O (fun hc9=>absurd hc9 Po) (fun hc9=>?_);exact Gx O<|Z1 O O<|Gt O<|⟨[(4,.pv (.int .i64 (-1)))],o7B J W σ now mk mv,[.pv (.int .i64 (-1))],Io (aS O) (aO Pp) O O,O,O,O,O,O⟩
theorem w8 (J:JD) (W:WD) (σ:Asg ByteArray) (now:List ByteArray) (mk mv:List PV) (a:Nat) (rs:List Nat):
  FnO prog 150 7 0 [.pv (aI []),.fn (.func 151) [] [.ptr big 0,.pv (.rp [.int .i64 a] 0),.pv (.rp [ak (bK rs)] 0)]] (o7B J W σ now mk mv) (fun v ob'=>v= .pv (aI [])/\ob'=ar (o7B J W σ now mk mv)):=by
 refine FnO.of func150 O ntmps150 Ps fun m0 w0 F R0=>?_
 have hgo:=vH J W σ now mk mv a rs;refine Z1 O O<|Z2 O O O<|Rs 10 O O (ah [big,9001,9002,9003,9004,9005,9006] 0 call194 hgo O O O O ⟨O,O,O,O,O,O,O,Pw⟩ Pq O)<|A1 O<|Z2 O O O ?_;refine Gc O O (fun hc12=>?_) (fun hc12=>absurd hc12 (by simp at hc12));exact Z2 O O O<|Gt O<|⟨[(4,.pv (aI []))],o7B J W σ now mk mv,[.pv (aI [])],Io (aS O) (aO Pp) O O,O,O,O,O,O⟩
theorem mK (J:JD) (hJ:JOk J) (hJ12:∀ l∈J.T,l.length<=12) (W:WD) (σ:Asg ByteArray) (now:List ByteArray) (hn:NowOk J.S.attrs.length σ now) (mk mv:List PV) (a:Nat) (ha:a<J.S.attrs.length) (hσ:σ (a:Int)=none) (hw:bw (RJ J) a≠[]):
  FnO prog 100 6 0 [.ptr big 0,.pv (.int .i64 a)] (o6B J W σ now mk mv) (fun v ob'=>v= .pv (aI (bC (RJ J) sdS a σ))/\ob'=ar (o6B J W σ (tst now a (jx J a σ)) mk mv)):=by
 refine FnO.of func100 O ntmps100 Ps fun m0 w0 F R0=>?_
 have hS:=hJ.s;have hSr:=hS.r;obtain ⟨f,rest,hwf⟩:∃ f rest,bw (RJ J) a=f::rest:=by cases h:bw (RJ J) a with | nil=>exact absurd h hw | cons f rest=>exact ⟨f,rest,rfl⟩
 have hcv:=re J a σ hσ hwf (uK hJ f);have hcl:jx J a σ=sdS (xf J f a σ):=by unfold jx;rw [hwf]
 have hwm:=kA J a;have hff:=hwm f (by rw [hwf];simp);have hfr:=hff.1;have hrsl:(bw (RJ J) a).length<=1000:=AT (Mn ..) (by simp [RJ];omega);have hrs:∀ r∈bw (RJ J) a,r<J.S.rels.length:=fun r hr=>(hwm r hr).1
 have hq0:(aE (bK (bw (RJ J) a)))[0]? =some (.int .i64 (f:Int)):=by rw [hwf];rfl
 have hqn:aE (bK (bw (RJ J) a))≠[]:=by rw [hwf];simp
 have hql:0<(bK (bw (RJ J) a)).length:=by rw [hwf];simp
 have hrne:=ew hfr;have hra:(bj J.S.rels)[f*2+1]? =some (ak J.S.rels[f].2):=by
  have h2:(((bj J.S.rels).drop (f*2)).take 2)[1]? =[PV.str J.S.rels[f].1,ak J.S.rels[f].2][1]? :=by rw [cW hfr]
  simpa [Ma,MA] using h2
 have hrl:=hS.l _ (aJ hfr);have hfT:f<J.T.length:=by rw [hJ.n];exact hfr
 have htr:=cD hfT;have htn:=dN hfT;have hTl:J.T[f].length<=12:=hJ12 _ (aJ hfT);have hxv:=hJ.v f hfT hfr;have hidx:=qb J.S.rels[f].2 a Po (by rw [<-show cy J f=J.S.rels[f].2 by simp [cy,List.getD,hfr]];exact hff.2);have hat:(J.S.rels[f].2).idxOf (a:Int)<J.S.rels[f].2.length:=NH (by rw [<-show cy J f=J.S.rels[f].2 by simp [cy,List.getD,hfr]];exact hff.2);have hraw:xf J f a σ=(J.T[f].filter fun x=>agr J.S.rels[f].2 σ x.v).map fun x=>x.v.getD ((J.S.rels[f].2).idxOf (a:Int)) eb:=by unfold xf;rw [show cy J f=J.S.rels[f].2 by simp [cy,List.getD,hfr],show dh J f=J.T[f] by simp [dh,List.getD,hfT]]
 have hagr:∀ k (h:k<J.T[f].length),FnO prog 102 6 0 [.ptr big 0,.pv (.int .i64 f),.pv (sJ J.T[f][k])] (o6B J W σ now mk mv) (fun v ob'=>v= .pv (.bool (agr J.S.rels[f].2 σ J.T[f][k].v))/\ob'=ar (o6B J W σ now mk mv)):=fun k h=>dV J hJ W σ now hn mk mv f hfr J.T[f][k] (hxv _ (aJ h))
 have hdel:=fun (l:List ByteArray) (n:Nat) (h1:l.length=n) (h2:n<=1000)=>qG J hJ W σ now hn mk mv a ha hσ (bw (RJ J) a) hrsl hrs l n h1 h2
 have hdel0:=w8 J W σ now mk mv a (bw (RJ J) a);have hwt:=mM J a;rw [hcl,hcv];clear hcl hcv hwm hff hrs hrsl hw hn;generalize J.T[f]=tf at*;generalize J.S.rels[f].2=A at*;generalize hrsg:bw (RJ J) (a:Int)=rs at*;refine Z3 O O O O<|Z1 O O<|Im (St.er 2 0 3 1 3 O O O)<|Gr O ?_;iterate 10 refine A1 O ?_
 refine Gl O (st:=fun ac:Nat×List Nat=>mkS [(2,.ptr 0 0),(3,.ptr 1 0),(5,.ptr 2 0),(22,.pv (.sl none J.S.rels.length (bj J.S.rels))),(23,.pv (.int .i64 J.S.rels.length)),(24,.pv (.int .i64 ac.1))] [(big,oB W 9004 9001 J.S.attrs.length 9002 9003),(0,.mix 139 [.ptr big 0]),(1,.mix 3 [.pv (.int .i64 a)]),(2,.mix 22 [.gsl 3 1 ac.2.length]),(3,.gro 3 (aE (bK ac.2))),(9001,.cells 9 (aA now)),(9002,.cells 4 (ay (stL σ J.S.attrs.length))),(9003,.mp mk mv),(9004,oX2 J 9005),(9005,.mp J.pk J.pv)] 4)
  (I:=fun ac=>(ac.1<=J.S.rels.length/\ac.2.length<=ac.1)/\ac.2=r4 J a ac.1) (μ:=fun ac=>J.S.rels.length-ac.1) (x0:=(0,[])) (Io (aS O) (aO Pp) O O) (⟨⟨bk _,xV _⟩,O⟩) ?_
 rintro ⟨k,q⟩ ⟨⟨hk,hqk⟩,hqe⟩;try simp only at hk hqk hqe ⊢
 refine Z1 O O ?_;refine Gp O O (fun hc25=>?_) (fun hc25=>?_)
 ·have hlt:k<J.S.rels.length:=Po;have hrow:=cW hlt;have hne:=ew hlt;have hkl:=hS.l _ (aJ hlt);have hws:=mD J a hlt;generalize J.S.rels[k]=rk at*;refine Il<|Z2 O O O ?_;first | refine A3 O Pr ?_ | refine A1 O ?_
  refine Y3 O O O<|Z3 O O O O<|Rs 32 O O (ae call146 (gY rk.2 a Po) O) ?_;refine Gc O O (fun hc32=>?_) (fun hc32=>?_)
  ·refine Gr O ?_;iterate 5 refine A1 O ?_
   exact Z2 O O O<|⟨(k+1,q++[k]),Ip [0,1,2,6] (aT O) ⟨Pp,Pp,Pp,IN (b:=some (.mix 22 [.gsl 6 1 (q.length+1)])) Pp (af (fun n=>some (Ob.mix 22 [.gsl 6 1 n])) (bW q k)),IN (b:=some (.gro 3 (aE (bK q)++[.int .i64 k]))) Pp (af (fun c=>some (Ob.gro 3 c)) Ps),Pp,Pp,Pp,Pp,Pp,Pw⟩ O O Pq O,⟨⟨Pv,by simp only [kQ,L8];omega⟩,by simp only;rw [hws,qY (Ng hc32),hqe]⟩,Pv⟩
  ·exact Il<|Z2 O O O<|⟨(k+1,q),Io (aS O) (aO Pp) O O,⟨⟨Pv,Pv⟩,by simp only;rw [hws,kH (NM hc32),MN,hqe]⟩,Pv⟩
 ·have hqrs:q=rs:=by rw [hqe,show k=J.S.rels.length by omega,hwt]
  subst hqrs;refine Im (Ir 3 O O)<|Im (St.fS 2 O O)<|Im (St.fS 1 O O)<|Im (Io (l:=[(2,.ptr 0 0),(3,.pv (.rp [.int .i64 a] 0)),(5,.pv (.rp [ak (bK q)] 0))]) (os:=(0,.mix 139 [.ptr big 0])::o6B J W σ now mk mv) (k:=1) ⟨Pp,Pp,IN (b:= .pv (.rp [.sl none q.length (aE (bK q))] 0)) Pp (af (fun n=>V.pv (.rp [.sl none n (aE (bK q))] 0)) (show q.length=(bK q).length by simp)),Pw⟩ (aO Pp) O O) ?_;refine Gx O<|Z1 O O<|Rs 39 O O (ag 0 underlying22 sz3 O O O hql hqn)<|Rs 40 O O (ai ⟨_,underlying3,O⟩ O hq0)<|A1 O<|Ge O follows [0,1,2,3,4,5,6,7,8,9,10,11,12,13,14] Pp ?_;iterate 9 refine D1 O O ?_
  refine Ds 50 [] O O O (fun τ h=>ag f underlying31 Eu (Ee h 0 O O) (Ee h 1 O O) O hfr hrne) O Pp<|D1 O O<|Ds 52 [] O O O (fun τ h=>ai ⟨_,underlying22,O⟩ (Ee h 0 O O) hra) O Pp<|D1 O O<|Ds 54 [] O O O (fun τ h=>ae call147 hidx (h.bt O)) O Pp<|D1 O O ?_;refine ⟨Pp,?_⟩;refine Z1 O O<|Im (Iu 10 1 1 9 O O)<|Gr O ?_;iterate 8 refine A1 O ?_
  refine Rs 63 O O (ag f underlying35 qk O O O hfT htn)<|Rs 64 O O (ai ⟨_,underlying38,O⟩ O htr)<|Y2 O O ?_;refine Gl O (st:=fun x_1:Nat×List ByteArray=>mkS [(2,.ptr 0 0),(3,.pv (.rp [.int .i64 a] 0)),(5,.pv (.rp [ak (bK q)] 0)),(8,.pv (.int .i64 f)),(9,.pv (.int .i64 ((A.idxOf (a:Int):Nat):Int))),(10,.gsl 1 1 x_1.2.length),(64,.pv (bL tf)),(65,.pv (.int .i64 tf.length)),(66,.pv (.int .i64 x_1.1))] [(big,oB W 9004 9001 J.S.attrs.length 9002 9003),(0,.mix 139 [.ptr big 0]),(1,.gro 9 (aA x_1.2)),(9001,.cells 9 (aA now)),(9002,.cells 4 (ay (stL σ J.S.attrs.length))),(9003,.mp mk mv),(9004,oX2 J 9005),(9005,.mp J.pk J.pv)] 2)
   (I:=fun x_1=>(x_1.1<=tf.length/\x_1.2.length<=x_1.1)/\x_1.2=((tf.take x_1.1).filter fun x=>agr A σ x.v).map fun x=>x.v.getD (A.idxOf (a:Int)) eb) (μ:=fun x_1=>tf.length-x_1.1) (x0:=(0,[])) (Io (aS O) (aO Pp) O O) (⟨⟨bk _,xV _⟩,O⟩) ?_
  rintro ⟨k2,q2⟩ ⟨⟨hk2,hqk2⟩,hqe2⟩;try simp only at hk2 hqk2 hqe2 ⊢
  refine Z1 O O ?_;refine Gp O O (fun hc67=>?_) (fun hc67=>?_)
  ·have hlt2:k2<tf.length:=Po;have hrw:=aN hlt2;have hrn:=aW hlt2;have hga:=hagr k2 hlt2;have hxl:=hxv _ (aJ hlt2);have htk2:=aR hlt2;generalize tf[k2]=x at*;have hix:A.idxOf (a:Int)<x.v.length:=Po;have hvx:(aA x.v)[A.idxOf (a:Int)*1]? =some (.str (x.v.getD (A.idxOf (a:Int)) eb)):=by simp [List.getD,hix]
   have hxn:=bc hix;refine Il<|Z1 O O ?_;first | refine A3 O Pr ?_ | refine A1 O ?_
   refine Y2 O O<|Ge O follows [0,1,2,3,4,5,6,7,8,9,10] Pp ?_;iterate 5 refine D1 O O ?_
   refine Ds 76 [] O O O (fun τ h=>cg (zp:= .str ByteArray.empty) underlying152 underlying3 (.inr (.inr ⟨(Ee h 0 O O),O,O⟩)) (Ee h 1 O O) O Ic O (r:=none) O O O) O Pp ?_;iterate 5 refine D1 O O ?_
   refine ⟨Pp,?_⟩;by_cases hag:agr A σ x.v=true
   ·rw [hag] at hga;refine Z3 O O O O<|Rs 82 O O (ah [big,9001,9002,9003,9004,9005] 0 call102 hga O O O O ⟨O,O,O,O,O,O,Pw⟩ Pq O) ?_;iterate 13 refine A1 O ?_
    refine Gc O O (fun hc95=>?_) (fun hc95=>absurd hc95 Ps);exact Z4 O O O O O<|Rs 100 O O (ag (A.idxOf (a:Int)) underlying47 sz9 O O O hix hxn)<|Rs 101 O O (ai ⟨_,underlying9,O⟩ O hvx)<|Y3 O O O<|Z2 O O O<|⟨(k2+1,q2++[x.v.getD (A.idxOf (a:Int)) eb]),Ip [0,4] ⟨O,O,O,O,O,af (fun n=>V.gsl 4 1 n) (bW q2 _),O,O,O,Pw⟩ ⟨Pp,Pp,IN (b:=some (.gro 9 (aA q2++[.str (x.v.getD (A.idxOf (a:Int)) eb)]))) Pp (af (fun c=>some (Ob.gro 9 c)) Ps),Pp,Pp,Pp,Pp,Pp,Pw⟩ O O Pq O,⟨⟨Pv,by simp only [kQ,L8];omega⟩,by simp only;rw [htk2,MR,Mw,hqe2];simp [MW,hag]⟩,Pv⟩
   ·rw [MH hag] at hga;refine Z3 O O O O<|Rs 82 O O (ah [big,9001,9002,9003,9004,9005] 0 call102 hga O O O O ⟨O,O,O,O,O,O,Pw⟩ Pq O) ?_;iterate 13 refine A1 O ?_
    refine Gc O O (fun hc95=>absurd hc95 Ps) (fun hc95=>?_);exact Il<|Z2 O O O<|⟨(k2+1,q2),Io (aS O) (aO Pp) O O,⟨⟨Pv,Pv⟩,by simp only;rw [htk2,MR,Mw,hqe2];simp [MW,hag]⟩,Pv⟩
  ·have hq12:q2.length<=12:=Po;rw [show tf.take k2=tf from a6 Po] at hqe2;have hqr:q2=xf J f a σ:=hqe2.trans hraw.symm;refine Gx O ?_;by_cases hq2:q2=[]
   ·subst hq2;exact Im (St.rB 10 O)<|Z1 O O<|Rs 106 O O (ae call148 lT O)<|Z1 O O<|Rs 108 O O (ae call149 gD O)<|A1 O<|Z2 O O O<|Rs 111 O O (ah [0,big,9001,9002,9003,9004,9005] 0 call150 hdel0 O O O O ⟨Pp,Pp,Pp,Pp,Pp,Pp,Pp,Pw⟩ Pq O)<|A1 O<|Gt O<|⟨[(4,.pv (aI []))],o6B J W σ now mk mv,[.pv (aI [])],Io (aS O) (aO Pp) O O,O,O,O,by rw [<-hqr,nG];rfl,by rw [<-hqr,nG];rfl⟩
   ·refine Im (St.ku 10 O O (MB.2 hq2) (by simpa using hq2)) ?_;have hsort:=mX q2 q2.length O hq12;have hcmp:=jh (cR q2) q2.length (cY q2).length_eq Po;have hcl2:=jX (cR q2);have hsl2:=(cY q2).length_eq;have hdl:=hdel (bD (cR q2)) (bD (cR q2)).length O Po;exact Z1 O O<|Rs 106 O O (ah [1] 0 call148 hsort O O O O ⟨O,Pw⟩ Pq O)<|Z1 O O<|Rs 108 O O (ah [1] 0 call149 hcmp O O O O ⟨O,Pw⟩ Pq O)<|A1 O<|Im (Io (l:=[(2,.ptr 0 0),(3,.pv (.rp [.int .i64 a] 0)),(5,.pv (.rp [ak (bK q)] 0)),(10,.osl 1 1 (bD (cR q2)).length)]) (os:=(1,cB (bD (cR q2)))::(0,.mix 139 [.ptr big 0])::o6B J W σ now mk mv) (k:=2) (aS Pp) (aO Pp) O O)<|Z2 O O O<|Rs 111 O O (ah [1,0,big,9001,9002,9003,9004,9005] 0 call150 hdl O O O O ⟨Pp,Pp,Pp,Pp,Pp,Pp,Pp,Pp,Pw⟩ Pq O)<|A1 O<|Im (Ir 1 O O)<|Im (St.uQ [4])<|Gt O<|⟨[(4,.pv (aI ((bD (cR q2)).filter fun x=> !dS J q σ a x)))],o6B J W σ (tst now a (bD (cR q2))) mk mv,[.pv (aI ((bD (cR q2)).filter fun x=> !dS J q σ a x))],Io (aS Pp) (aO Pp) O O,O,O,O,by rw [<-hqr];rfl,by rw [<-hqr];rfl⟩
end
section
section
variable {C:Ctx} {n:Nat} {σ:St} {dst:Option Tmp} {ty t t':TypeId} {ts:Array TypeId} {pos:String} {after:Array Edge} {gd:Option (Nat×Bool)} {x y:Operand}
theorem wR {e:TypeId} (hu:C.P.underlying t=some (.pointer e)) (hx:σ.ev n x= .pv .nilptr):
  XJ C n ⟨dst,.binOp .eql t x (.const (.pointer none)) t',ty,pos,after,gd⟩ σ ⟨.pv (.bool true),[],[]⟩:=
 .val fun a w m R hw=>by
  have h:=hw.pv hx;simp only [RelP] at h;have hc:a.eval (.const (.pointer none))= .pointer none:=rfl;have hu':C.P.underlying t=some (.pointer (C.P.pointee t)):=by simp [Program.pointee,hu]
  exact ⟨.bool true,by simp [execOp,h,eqGuard,hc,run_eql_pointer_nil _ _ _ hu'],by simp only [Rel,RelP]⟩
theorem vC {e:TypeId} {id off:Nat} {o:Ob} (hu:C.P.underlying t=some (.pointer e)) (hx:σ.ev n x= .ptr id off) (ho:σ.ob id=some o) (hre:o.real=true:=by rfl):
  XJ C n ⟨dst,.binOp .eql t x (.const (.pointer none)) t',ty,pos,after,gd⟩ σ ⟨.pv (.bool false),[],[]⟩:=
 .val fun a w m R hw=>by
  obtain ⟨b,N,h,_⟩:=hw.ptr hx ho hre;have hc:a.eval (.const (.pointer none))= .pointer none:=rfl;have hu':C.P.underlying t=some (.pointer (C.P.pointee t)):=by simp [Program.pointee,hu]
  exact ⟨.bool false,by simp [execOp,h,eqGuard,hc,run_eql_pointer_nil _ _ _ hu'],by simp only [Rel,RelP]⟩
theorem wF {e:TypeId} {j:TypeInfo} {id off:Nat} {o:Ob} (hu:C.P.underlying t=some (.pointer e)) (hj:C.P.info? e=some j) (hx:σ.ev n x= .ptr id off) (hy:σ.ev n y= .ptr id off) (ho:σ.ob id=some o) (hre:o.real=true:=by rfl):
  XJ C n ⟨dst,.binOp .neq t x y t',ty,pos,after,gd⟩ σ ⟨.pv (.bool false),[],[]⟩:=
 .val fun a w m R hw=>by
  obtain ⟨b,N,h,hm,_⟩:=hw.ptr hx ho hre;obtain ⟨b2,N2,h2,hm2,_⟩:=hw.ptr hy ho hre;rw [hm] at hm2;cases hm2;exact ⟨.bool false,by simp [execOp,h,h2,eqGuard,Lib.run_neq_ptr_same _ _ hu hj],by simp only [Rel,RelP]⟩
theorem zH {P:Program} {T:TypeId} {N d s:Nat} (hd:P.depth=d+1) (hs:P.cellsOf T=s) (h0:s≠0) (hN:s<=N):liesAt P P.depth T (N/P.cellsOf T) 0 T 1=true:=by
 have h1:0<N/s:=Nat.div_pos hN Po;have hsame:sameLayout P P.depth T T=true:=by rw [hd];unfold sameLayout;simp
 have hrow:rowAt P (sameLayout P P.depth · T) P.depth T (N/P.cellsOf T) 0 1=true:=by
  rw [show P.depth=d+1 from hd];unfold rowAt;rw [hs,kH h0];have hs2:sameLayout P (d+1) T T=true:=by rw [<-hd];exact hsame
  simp only [Nat.zero_div,Nat.zero_mod,Mt,hs2,OB,NZ,NX];rw [IS (show 1<=N/s from h1)];rfl
 rw [hd];unfold liesAt;rw [hrow];rfl
theorem CI {e T:TypeId} {j:TypeInfo} {s d:TypeId} {id:Nat} {cs:List V} (hs:C.P.underlying s=some (.pointer e)) (hd:C.P.underlying d=some .unsafePointer) (hj:C.P.info? e=some j) (hj0:j.size≠0) (hx:σ.ev n x= .ptr id 0) (ho:σ.ob id=some (.mix T cs)) (hl:cs≠[]):
  XJ C n ⟨dst,.convert s d x,ty,pos,after,gd⟩ σ ⟨.ptr id 0,[],[]⟩:=
 .val fun a w m R hw=>by
  obtain ⟨b,N,h,hm,arr,hb,hsz,hle,_⟩:=hw.ptr hx ho;have hev:=hw.ev x;rw [hx] at hev;have hpos:0<cs.length:=MB.2 hl;have hsh:w.shape? b=some (T,arr.size):=by simp [World.shape?,hb]
  refine ⟨a.eval x,?_,hev⟩;simp only [execOp,h,Sem.run_bind,Lib.run_to_unsafe w ⟨b,0,none⟩ hs hd hj hj0 hsh (show 0<arr.size by omega),Result.andThen_ok];rfl
theorem Cx {T:TypeId} {j:TypeInfo} {s d:TypeId} {id dp:Nat} {cs:List V} (hs:C.P.underlying s=some .unsafePointer) (hd:C.P.underlying d=some (.pointer T)) (hj:C.P.info? T=some j) (hdp:C.P.depth=dp+1) (hc:C.P.cellsOf T=cs.length) (hx:σ.ev n x= .ptr id 0) (ho:σ.ob id=some (.mix T cs)) (hl:cs≠[]):
  XJ C n ⟨dst,.convert s d x,ty,pos,after,gd⟩ σ ⟨.ptr id 0,[],[]⟩:=
 .val fun a w m R hw=>by
  obtain ⟨b,N,h,hm,arr,hb,hsz,hle,_⟩:=hw.ptr hx ho;have hev:=hw.ev x;rw [hx] at hev;have hpos:0<cs.length:=MB.2 hl;have hsh:w.shape? b=some (T,arr.size):=by simp [World.shape?,hb]
  refine ⟨a.eval x,?_,hev⟩;simp only [execOp,h,Sem.run_bind,Lib.run_from_unsafe w ⟨b,0,none⟩ hs hd hj hsh (zH hdp hc Po Po),Result.andThen_ok];rfl
theorem Cg {f:FuncId} {fn:Func} {v:V} (hf:C.P.funcs[f]? =some fn) (hname:(fn.name== "runtime.NumGoroutine")=false) (hb:fn.body.isNone=true) (hn:Extern.findNext fn=none) (he:Extern.find fn=some Extern.AbiNoEscape.same) (hx:σ.ev n x=v):
  XJ C n ⟨dst,.call { callee:= .value (.func f),args:= #[x],argTypes:=ts },ty,pos,after,gd⟩ σ ⟨v,[],[]⟩:=
 .val fun a w m R hw=>by
  have hev:=hw.ev x;rw [hx] at hev;refine ⟨a.eval x,?_,hev⟩;have hr:=run_callFunc_extern hf hname hb hn he #[a.eval x] w;rw [Lib.run_noEscape] at hr;simp only [Result.andThen_ok] at hr;have hc:a.eval (.func f)= .func (.func f) #[] #[]:=rfl;simp [execOp,resolve,Deferred.ofValue,invoke,hc,hr]
theorem FL {P:Program} (w:World) (t u ty e:TypeId) (i:TypeInfo) (ht:P.underlying t=some (.slice e)) (hu:P.underlying u=some .string) (hi:P.info? e=some i) (hz:i.zero=some (.int .u8 0)) (hs1:i.size=1) (hby:i.bytes=1)
  (g cap k:Nat) (cur:Array Value) (hg:w.heap[g]? =some (.cells cur e (0,0))) (hkc:k<=cap) (hcm:cap<=maxLen) (hcs:cur.size=cap) (s:ByteArray) (hb:k+s.size<=1000000000):
  ∃ g' c' w',(Builtin.append_ #[t,u] ty #[.slice (some ⟨g,0,none⟩) k cap,.string s]).run P w= .ok (.slice (some ⟨g',0,none⟩) (k+s.size) c') w'/\w.grownBy w' (some g)/\(g'=g\/g'=w.heap.size)/\
   k+s.size<=c'/\c'<=maxLen/\∃ cur',w'.heap[g']? =some (.cells cur' e (0,0))/\cur'.size=c'/\cur'.toList.take (k+s.size)=cur.toList.take k++Lib.strCells s:=by
 have hl:(cur.toList.take k++Lib.strCells s).length=k+s.size:=by
  rw [kQ,Lib.strCells_length,AI,Mh];omega
 by_cases hroom:k+s.size<=cap
 ·refine ⟨g,cap,_,Lib.run_append_room_string (P:=P) w t u ty e i ht hu hi hs1 g k cap cur hg s hroom Po,⟨O,O,O,Ps,fun q _ hq=>setRow_other w g q _ (fun e=>hq (by rw [e]))⟩,.inl O,hroom,hcm,_,setRow_heap w g cur _ e _ hg,?_,?_⟩
  ·simp only [Nh,kQ,AI,Nv,Mh,Lib.strCells_length];omega
  ·simp only [];rw [show k+s.size=(cur.toList.take k++Lib.strCells s).length from hl.symm];exact List.take_left
 ·have holds:∀ j u,(cur.toList.take k)[j]? =some u->w.cell? ((⟨g,0,none⟩:Addr).add j)=some u:=fun j u hj=>by
   rw [Addr.add_lit];simp only [Mt];rw [cell_of_row w g j cur e (0,0) hg,<-hj,Ma];have hjl:j<(cur.toList.take k).length:=by
    rcases Nx j (cur.toList.take k).length with h | h
    ·exact h
    ·rw [MV h] at hj;cases hj
   rw [AI] at hjl;rw [qY Po];simp
  have h63:k+s.size<=maxLen:=by simp only [maxLen];omega
  refine ⟨w.heap.size,_,_,Lib.run_append_grow_string (P:=P) w t u ty e i (.int .u8 0) ht hu hi hz ⟨g,0,none⟩ k cap (cur.toList.take k) (by rw [hs1,AI,Mh];omega) holds s Po Po (by rw [hby];exact growslice_fits Po Po),
   ⟨O,O,O,Ps,fun q hq _=>heap_alloc_old w.drew _ hq⟩,.inr O,grownCap_ge w (k+s.size) cap e,grownCap_le_maxLen w (k+s.size) cap e h63,_,heap_alloc_new w.drew _,?_,?_⟩
  ·have hge:=grownCap_ge w (k+s.size) cap e;have hz1:(Value.int IntKind.u8 0).cells.size=1:=rfl;simp only [Array.size_append,Nh,size_zeroCells,hz1,Lib.strCells_length,AI,Mh];omega
  ·simp only [Array.toList_append];rw [show k+s.size=(cur.toList.take k++Lib.strCells s).length from hl.symm];exact List.take_left
theorem jj {w:World} {R:Nat->Prop} (s:ByteArray):RelPL w R (az s.data.toList) (Lib.strCells s):=by
 unfold az Lib.strCells;induction s.data.toList with
 | nil=>simp [RelPL]
 | cons a l ih=>exact RelPL.cons (by simp only [RelP]) ih
theorem r6 {e:TypeId} {k id:Nat} {cs:List PV} {s:ByteArray} (id':Nat) (he:ElemIs C.P t e (.int .u8 0) 1 1) (hu:C.P.underlying t'=some .string) (hs:σ.ev n x= .gsl id 1 k) (ho:σ.ob id=some (.gro e cs)) (hcs:cs.length=k)
  (hy:σ.ev n y= .pv (.str s)) (hb:k+s.size<=1000000000) (hk0:0<k) (hid:σ.av id'=true):
  XJ C n ⟨dst,.call { callee:= .builtin .append,args:= #[x,y],argTypes:= #[t,t'] },ty,pos,after,gd⟩ σ ⟨.gsl id' 1 (k+s.size),[(id',some (.gro e (cs++az s.data.toList))),(id,none)],[id']⟩:=by
 rintro a w Q ⟨m,R,hw⟩;obtain ⟨A0,c,hev,hkc,hcm,hz,hp⟩:=hw.gsl hs;have hcne:cs≠[]:=fun e=>by rw [e] at hcs;simp at hcs;omega
 have hne:cs++az s.data.toList≠[]:=fun e=>hcne (List.append_eq_nil_iff.1 e).1
 have sub:∀ i x,upd m id none i=some x->m i=some x/\i≠id:=fun i x e=>by
  by_cases hi:i=id
  ·subst hi;rw [au] at e;cases e
  ·rw [aG _ _ hi] at e;exact ⟨e,hi⟩
 obtain ⟨b,N,hm,arr,hbk,hsz,hle,hr⟩:=hw.live ho (bQ hcne);obtain ⟨rfl,hN⟩:=hp hk0 b N hm;obtain ⟨i,hi,hzz,hsize,hbytes⟩:=info_parts he.info;have own:=hw.hr.own id b N hm;have hsv:a.eval y= .string s:=hw.str hy;obtain ⟨g,c',w',hrun,hgr,hat,hkc',hcm',cur',hg,hcs',htk⟩:=FL (P:=C.P) w t t' ty e i he.u hu hi hzz hsize hbytes b c k arr hbk hkc hcm Po s hb;have hrel:RelPL w R (cs++az s.data.toList) (arr.toList.take k++Lib.strCells s):=by
  rw [hcs] at hr;exact hr.append (jj s)
 have gprop:¬ R g/\(∀ i b' N',upd m id none i=some (b',N')->b'≠g)/\(C.F g\/C.w0.heap.size<=g):=by
  rcases hat with h | h
  ·rw [h];exact ⟨own.2.1,fun i b' N' hi e=>(sub i _ hi).2 (xx hw (sub i _ hi).1 hm e),own.2.2⟩
  ·refine ⟨fun hh=>?_,fun i b' N' hi e=>?_,.inr ?_⟩
   ·have:=hw.hr.rsz _ hh;omega
   ·have:=(hw.hr.own i b' N' (sub i _ hi).1).1;omega
   ·have:=hw.hr.frame.size;omega
 have bprop:¬ R b/\(∀ i b' N',upd m id none i=some (b',N')->b'≠b)/\(C.F b\/C.w0.heap.size<=b):=
  ⟨own.2.1,fun i b' N' hi e=>(sub i _ hi).2 (xx hw (sub i _ hi).1 hm e),own.2.2⟩
 unfold Oper.wp;have hexec:(execOp a.eval ⟨dst,.call { callee:= .builtin .append,args:= #[x,y],argTypes:= #[t,t'] },ty,pos,after,gd⟩).run C.P w= .ok (.value (.slice (some ⟨g,0,none⟩) (k+s.size) c')) w':=by
  unfold execOp;simp only [resolve,invoke,builtin,Sem.run_bind,Sem.run_pure,Result.andThen_ok,OA,oy,M9,hev,hsv,hrun]
 rw [hexec];have hul:(arr.toList.take k++Lib.strCells s).length=k+s.size:=by
  rw [kQ,Lib.strCells_length,AI,Mh];omega
 have hcl:(cs++az s.data.toList).length=k+s.size:=by rw [<-hrel.length,hul]
 refine ⟨_,O,upd (upd m id none) id' (some (g,cur'.size)),R,?_⟩;rw [Iw];refine SW.put ((hw.drop id).fresh hid hg hgr (fun q hq=>by simp at hq;subst hq;exact bprop) gprop.1 gprop.2.1 gprop.2.2 (.gro e (cs++az s.data.toList)) ?_ (bQ hne)) dst ?_
 ·intro m' av' hR _ _;refine ⟨cur',hg,O,by rw [hcl,hcs'];exact hkc',?_⟩;rw [hcl,htk];exact hrel.mono hR
 ·simp only [Rel];refine ⟨by simp [avL],_,c',O,hkc',hcm',fun h=>by omega,fun _ b' N' e'=>?_⟩;rw [au] at e';cases e';exact ⟨O,by rw [hcs',Mi]⟩
theorem D8 {id sz k:Nat} {o:Ob} (hx:σ.ev n x= .gsl id sz k) (ho:σ.ob id=some o) (hk:0<k) (hre:o.real=true):
  XJ C n ⟨dst,.call { callee:= .builtin .unsafeSliceData,args:= #[x],argTypes:=ts },ty,pos,after,gd⟩ σ ⟨.ptr id 0,[],[]⟩:=
 .val fun a w m R hw=>by
  obtain ⟨A,c,he,hkc,_,_,hp⟩:=hw.gsl hx;obtain ⟨b,N,hm,_⟩:=hw.live ho hre;obtain ⟨rfl,_⟩:=hp hk b N hm;have hav:=hw.ev x;rw [hx] at hav;simp only [Rel] at hav;refine ⟨.pointer (some ⟨b,0,none⟩),?_,?_⟩
  ·simp only [execOp,resolve,invoke,builtin,Sem.run_bind,Sem.run_pure,Result.andThen_ok,OA,oy,M9,he,Lib.run_unsafeSliceData_row w ts ty ⟨b,0,none⟩ k c Po]
  ·simp only [Rel];refine ⟨hav.1,fun b' N' e=>?_⟩;rw [hm] at e;cases e;rfl
theorem rO {h:Array Obj} {b:Nat} {x:Obj} (f:Obj->Obj) (hb:h[b]? =some x) (hf:f x=x):h.modify b f=h:=by
 apply Array.ext_getElem?;intro i;rw [Ou];split
 ·next e=>subst e;rw [hb];simp [hf]
 ·rfl
theorem yJ {w:World} {b k:Nat} {arr:Array Value} {e:TypeId} (hb:w.heap[b]? =some (.cells arr e (0,k))) (hk:k≠0):w.freeze ⟨b,0,none⟩ k=w:=by
 unfold World.freeze;rw [kH hk,rO _ hb (by
  have:(0==k)=false:=by simpa using fun e:0=k=>hk e.symm
  simp [this])]
theorem DS {w:World} {b k:Nat} {arr:Array Value} {e:TypeId} (hb:w.heap[b]? =some (.cells arr e (0,0))) (hk:k≠0):(w.freeze ⟨b,0,none⟩ k).heap[b]? =some (.cells arr e (0,k)):=by
 unfold World.freeze;rw [kH hk];simp only [];rw [Ou,qY O,hb];simp
theorem xQ {w:World} {b k q:Nat} (h:q≠b):(w.freeze ⟨b,0,none⟩ k).heap[q]? =w.heap[q]? :=by
 unfold World.freeze;split
 ·rfl
 ·simp only [];rw [Ou,kH (fun e=>h e.symm)]
theorem DV (w:World) (a:Addr) (k:Nat):(w.freeze a k).heap.size=w.heap.size/\(w.freeze a k).os=w.os/\(w.freeze a k).tape=w.tape/\(w.freeze a k).output=w.output:=by
 unfold World.freeze;split
 ·exact ⟨O,O,O,O⟩
 ·exact ⟨Ps,O,O,O⟩
theorem wI {w:World} {R:Nat->Prop} {l:List UInt8} {us:List Value} (h:RelPL w R (az l) us):us=l.map fun c=> .int .u8 c.toNat:=by
 induction l generalizing us with
 | nil=>simp [az,RelPL] at h;simp [h]
 | cons c l ih=>
   simp only [az,oy,RelPL,RelP] at h;obtain ⟨u,vs,rfl,rfl,h2⟩:=h;rw [oy,<-ih h2]
theorem BW {e it:TypeId} {id:Nat} {l:List UInt8} (hp:C.P.underlying t=some (.pointer e)) (hc:C.P.cellsOf e=1) (hx:σ.ev n x= .ptr id 0) (ho:σ.ob id=some (.gro e (az l))) (hy:σ.ev n y= .pv (.int .i64 l.length)) (h0:l≠[]) (hb:l.length<=1000000000):
  XJ C n ⟨dst,.call { callee:= .builtin .unsafeString,args:= #[x,y],argTypes:= #[t,it] },ty,pos,after,gd⟩ σ ⟨.pv (.str ⟨l.toArray⟩),[(id,some (.fro e ⟨l.toArray⟩))],[]⟩:=by
 rintro a w Q ⟨m,R,hw⟩;have hbn:az l≠[]:=by simpa [az] using h0
 obtain ⟨b,N,he,hm,arr,hbk,hsz,hle,hr⟩:=hw.ptr hx ho (bQ hbn);have hbl:(az l).length=l.length:=by simp [az]
 rw [hbl] at hle hr;have htk:=wI hr;have hyv:a.eval y= .int .i64 l.length:=hw.int hy;have hl0:l.length≠0:=by simpa using h0
 have hcell:∀ j z,l[j]? =some z->w.cell? ((⟨b,0,none⟩:Addr).add j)=some (.int .u8 z.toNat):=fun j z hj=>by
  rw [Addr.add_lit];simp only [Mt];have h2:(arr.toList.take l.length)[j]? =some (.int .u8 z.toNat):=by rw [htk,Nf,hj];rfl
  have hjl:j<l.length:=(Mm.1 hj).1;rw [cell_of_row w b j arr e (0,0) hbk,<-h2,Ma,qY hjl];simp
 have hus:=Lib.run_unsafeString_row (P:=C.P) w t it ty e hp hc b arr.size (by simp [World.shape?,hbk]) l h0 Po Po hcell;unfold Oper.wp;have hexec:(execOp a.eval ⟨dst,.call { callee:= .builtin .unsafeString,args:= #[x,y],argTypes:= #[t,it] },ty,pos,after,gd⟩).run C.P w= .ok (.value (.string ⟨l.toArray⟩)) (w.freeze ⟨b,0,none⟩ l.length):=by
  unfold execOp;simp only [resolve,invoke,builtin,Sem.run_bind,Sem.run_pure,Result.andThen_ok,OA,oy,M9,he,hyv,hus]
 rw [hexec];obtain ⟨q1,q2,q3,q4⟩:=DV w ⟨b,0,none⟩ l.length;refine ⟨_,O,m,R,?_⟩;rw [Iw];refine SW.put (hw.turn hm (w.freeze ⟨b,0,none⟩ l.length) q1 (fun k hk=>xQ hk) q2 q3 q4 (.fro e ⟨l.toArray⟩) fun hR=>?_) dst ?_
 ·refine ⟨arr,?_,hsz,?_,?_⟩
  ·rw [DS hbk hl0];rfl
  ·show l.toArray.size<=N;simp;omega
  ·show arr.toList.take l.toArray.size=_;simp [htk]
 ·simp only [Rel,RelP]
theorem CY {e it:TypeId} {id:Nat} {s:ByteArray} {k:Int} (hp:C.P.underlying t=some (.pointer e)) (hc:C.P.cellsOf e=1) (hx:σ.ev n x= .ptr id 0) (ho:σ.ob id=some (.fro e s)) (hy:σ.ev n y= .pv (.int .i64 k)) (hk:k=s.data.toList.length) (h0:s.data.toList≠[]) (hb:s.data.toList.length<=1000000000):
  XJ C n ⟨dst,.call { callee:= .builtin .unsafeString,args:= #[x,y],argTypes:= #[t,it] },ty,pos,after,gd⟩ σ ⟨.pv (.str s),[],[]⟩:=
 .val fun a w m R hw=>by
  subst hk;obtain ⟨b,N,he,hm,arr,hbk,hsz,hle,htk⟩:=hw.ptr hx ho;have hss:s.size=s.data.toList.length:=by rw [Mh];rfl
  have hyv:a.eval y= .int .i64 s.data.toList.length:=hw.int hy;have hl0:s.data.toList.length≠0:=fun e=>h0 (OF.1 e)
  have hcell:∀ j z,s.data.toList[j]? =some z->w.cell? ((⟨b,0,none⟩:Addr).add j)=some (.int .u8 z.toNat):=fun j z hj=>by
   rw [Addr.add_lit];simp only [Mt];have h2:(arr.toList.take s.size)[j]? =some (.int .u8 z.toNat):=by rw [htk,Nf,hj];rfl
   have hjl:j<s.data.toList.length:=(Mm.1 hj).1;rw [cell_of_row w b j arr e (0,s.size) hbk,<-h2,Ma,qY Po];simp
  have hus:=Lib.run_unsafeString_row (P:=C.P) w t it ty e hp hc b arr.size (by simp [World.shape?,hbk]) s.data.toList h0 Po Po hcell;rw [yJ (by rw [<-hss];exact hbk) hl0] at hus;refine ⟨.string s,?_,by simp only [Rel,RelP]⟩;unfold execOp;simp only [resolve,invoke,builtin,Sem.run_bind,Sem.run_pure,Result.andThen_ok,OA,oy,M9,he,hyv,hus]
end
end
end Go.Proofs.YtedfonppffochaaGreatDoor
