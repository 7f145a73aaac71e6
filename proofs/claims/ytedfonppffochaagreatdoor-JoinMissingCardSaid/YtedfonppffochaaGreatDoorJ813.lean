/-
  Texts of ours, joined and shortened by merge2.py: Gj, Gv, Ops, Op1. No statement of the program is proved here.
-/
import Derived.Handed
import Derived.LaidMore
import Derived.LaidLaws
import Derived.LaidHandle
import Derived.MakeChecks
import Derived.Lib.LaidTab
import Derived.Deep.Slices
import Derived.ChangeArms
import Derived.OpenShut
import Derived.Test.YtedfonppffochaaGreatDoorJ812
set_option maxRecDepth 100000
set_option maxHeartbeats 4000000
open Go.RowKit Go.Proofs.Tryz
namespace Go.Proofs.YtedfonppffochaaGreatDoor
theorem gy {P:Program} {W:World} {n:String} {g:Nat} {cs:Array Value} (hg:P.globalNamed n=some g) (h:W.var? P n=some cs):∃ t fz,W.heap[g]? =some (.cells cs t fz):=by
 simp only [World.var?,hg,Option.bind_some] at h;split at h
 ·rename_i cs' t fz hb;cases h;exact ⟨t,fz,hb⟩
 ·cases h
theorem oF {W:World} {g:Nat} {o:Obj} (h:W.heap[g]? =some o):g<W.heap.size:=(K1.1 h).1
theorem gv0:Tryz.prog.globalNamed "internal/strconv.uint64pow10" =some 0:=L9
theorem gv4:Tryz.prog.globalNamed "strconv.ErrSyntax" =some 4:=L9
theorem gv5:Tryz.prog.globalNamed "strconv.ErrRange" =some 5:=L9
theorem gt0:(Tryz.prog.globals[0]?).map (·.type)=some 283:=L9
theorem gt4:(Tryz.prog.globals[4]?).map (·.type)=some 167:=L9
theorem gt5:(Tryz.prog.globals[5]?).map (·.type)=some 167:=L9
theorem An {W:World} (h:W.ShapedOpen Tryz.prog):∃ (m:Int) (t:TypeId) (fz:Nat×Nat),W.heap[1]? =some (.cells #[.int .i64 m] t fz):=by
 obtain ⟨cs,hh,hs,hr⟩:=h.1 1 #[.int .i64 0] 3 (Kb L9) L9;obtain ⟨ts,hts,_,hall⟩:=hr L9;rw [show Tryz.prog.cellTypes Tryz.prog.depth 3=some [3] by kernel_rfl] at hts;cases hts;have h1:cs.size=1:=hs;obtain ⟨u,hu',hok⟩:=hall 0 cs[0] (by simp [h1]);obtain rfl:u=3:=by simpa using hu'.symm
 have hm:∃ m,cs[0]= .int .i64 m:=by
  unfold Cell.ok at hok;rw [underlying3] at hok;cases hv:cs[0]<;>rw [hv] at hok<;>simp at hok;rename_i k m;obtain rfl:=hok.1;exact ⟨m,rfl⟩
 obtain ⟨m,hm⟩:=hm;have:cs= #[.int .i64 m]:=by
  apply Array.ext
  ·simp [h1]
  ·intro i h2 h3;have:i=0:=L8;subst this;simpa using hm
 rw [this] at hh;exact ⟨m,_,_,hh⟩
def HP:List (String×DataW Unit):=Rows.joinProductRow.laid
theorem Fv {W:World} (hsh:W.ShapedOpen Tryz.prog) (h:laidMetH Tryz.prog HP W):lA W (fun b=>b<W.heap.size):=by
 rw [MakeChecks.laidMetH_plain _ _ _ L9] at h;obtain ⟨ps,⟨g0,t0,cs0,f0,p0,q0,hg0,ht0,hv0,hd0,⟨g1,t1,cs1,f1,p1,q1,hg1,ht1,hv1,hd1,⟨g2,t2,cs2,f2,p2,q2,hg2,ht2,hv2,hd2,⟨g4,t4,cs4,f4,p4,q4,hg4,ht4,hv4,hd4,⟨g5,t5,cs5,f5,p5,q5,hg5,ht5,hv5,hd5,_⟩,_⟩,_⟩,_⟩,_⟩,_,_⟩:=h;obtain rfl:=Ke (gv0.symm.trans hg2);obtain rfl:=Ke (gv5.symm.trans hg4);obtain rfl:=Ke (gv4.symm.trans hg5);obtain rfl:=Ke (gt0.symm.trans ht2);obtain rfl:=Ke (gt5.symm.trans ht4);obtain rfl:=Ke (gt4.symm.trans ht5);have e2:cs2.toList=Lib.pow10Tab.map fun z=>Value.int .u64 z:=Lib.cells_of_tab underlying283 underlying136 L9 L9 hd2
 obtain ⟨_,u4,v4,e4,_⟩:=iface_of_trod underlying167 hd4;obtain ⟨_,u5,v5,e5,_⟩:=iface_of_trod underlying167 hd5;obtain ⟨x2,y2,b2⟩:=gy gv0 hv2;obtain ⟨x4,y4,b4⟩:=gy gv5 hv4;obtain ⟨x5,y5,b5⟩:=gy gv4 hv5;obtain ⟨m,x1,y1,b1⟩:=An hsh;obtain ⟨l2⟩:=cs2;obtain ⟨l4⟩:=cs4;obtain ⟨l5⟩:=cs5;simp only at e2 e4 e5;subst e2 e4 e5;intro x hx;simp only [glb,Bd,K9,or_false] at hx;rcases hx with rfl | rfl | rfl | rfl
 ·exact ⟨oF b2,_,b2,_,_,rfl⟩
 ·exact ⟨oF b1,_,b1,_,_,_,rfl⟩
 ·exact ⟨oF b5,_,b5,_,_,_,_,rfl⟩
 ·exact ⟨oF b4,_,b4,_,_,_,_,rfl⟩
noncomputable def witW (os:Os):World:=World.doorLaid Tryz.prog 54 os
theorem wL (os:Os) (args:Array Value):((witW os).forCall (fun _ _=>0) ⟨#[],args,[]⟩).Shaped Tryz.prog:=World.shaped_of_RefB L9 L9
theorem Fq (os:Os) (args:Array Value):laidMetH Tryz.prog HP ((witW os).forCall (fun _ _=>0) ⟨#[],args,[]⟩).memory:=
 laidMetH_of_parts3 (fuel:=8) (laidMet_of_run' 8 L9 L9) L9 L9
section
open Go.RowKit Go.ChangeShapes Go.WideShapes Go.Deep
def OpT (P:Program) (t:TypeId) {α:Type} (f:α→List PV) (I:α→Prop):Prop:=
 ∀ (H:Type) (enc:TypeId×Value→H) (w:World) (base:Nat) (spare:Nat→Bool) (held:Bool) (fuel:Nat) (cs:List Value) (x:DataW H×List MemPlace),
  DataW.trod enc P w base spare held fuel t cs=some x→∃ a,I a∧RelPL w (fun b=>b<w.heap.size) (f a) cs
section
variable {P:Program} {t:TypeId}
theorem OpT.map {α β:Type} {f:α→List PV} {I:α→Prop} {f':β→List PV} {I':β→Prop} (h:OpT P t f I) (g:α→β) (hf:∀ a,f' (g a)=f a) (hI:∀ a,I a→I' (g a)):OpT P t f' I':=
 fun H enc w base spare held fuel cs x hx=>by
  obtain ⟨a,ha,hr⟩:=h H enc w base spare held fuel cs x hx;exact ⟨g a,hI a ha,by rw [hf];exact hr⟩
theorem RelPL.one {w:World} {R:Nat→Prop} {p:PV} {u:Value} (h:RelP w R p u):RelPL w R [p] [u]:=RelPL.cons h RelPL.nil
theorem OpT.int (ht:P.underlying t=some (.int .i64)):OpT P t (fun n:Int=>[.int .i64 n]) (fun n=> -9223372036854775808≤n∧n≤9223372036854775807):=
 fun H enc w base spare held fuel cs x hx=>by
  obtain ⟨n,rfl,_,hw⟩:=DataW.trod_int ht hx;exact ⟨n,bounds_i64 hw,RelPL.one (by simp only [RelP])⟩
theorem vJ {w:World} {R:Nat→Prop} {α:Type} {f:α→List PV}:∀ {n:Nat} {A:Nat→α} {us:Nat→List Value},(∀ i,i<n→RelPL w R (f (A i)) (us i))→RelPL w R (((List.range n).map A).flatMap f) ((List.range n).flatMap us):=by
 intro n A us h;induction n with
 | zero=>simpa using RelPL.nil
 | succ n ih=>
   rw [K8,Je,JS,JS];refine RelPL.append (ih fun i hi=>h i L8) ?_;simpa using h n L8
theorem oo {c:Nat} {us:Nat→List Value}:∀ {n:Nat},(∀ i,i<n→(us i).length=c)→((List.range n).flatMap us).length=n*c∧∀ i j,i<n→j<c→((List.range n).flatMap us)[i*c+j]? =(us i)[j]? :=by
 intro n h;induction n with
 | zero=>exact ⟨Mc,fun i j hi=>absurd hi L8⟩
 | succ n ih=>
   obtain ⟨h1,h2⟩:=ih fun i hi=>h i L8
   rw [K8,JS];refine ⟨by rw [AI,h1,List.flatMap_singleton,h n L8,L0],fun i j hi hj=>?_⟩;by_cases e:i<n
   ·rw [List.getElem?_append_left (by rw [h1];calc i*c+j<i*c+c:=L8
     _=(i+1)*c:=by rw [L0]
     _≤n*c:=J7 c e)]
    exact h2 i j e hj
   ·obtain rfl:i=n:=L8;rw [List.getElem?_append_right (by rw [h1];omega),h1,List.flatMap_singleton,show i*c+j-i*c=j by omega]
theorem OpT.sl {e:TypeId} {α:Type} {f:α→List PV} {I:α→Prop} (c:Nat) [Inhabited α] (ht:P.underlying t=some (.slice e)) (hc:P.cellsOf e=c) (h:OpT P e f I):
  OpT P t (fun l:List α=>[.sl none l.length (l.flatMap f)]) (fun l=>l.length≤maxLen∧∀ a∈l,I a):=
 fun H enc w base spare held fuel cs x hx=>by
  rcases open_slice ht hx with ⟨rfl,rfl⟩ | ⟨a,len,cap,m,n,D,Pl,rfl,hb,hl,hm,hmm,hxe,hel⟩
  ·refine ⟨[],⟨Mc,Mc⟩,RelPL.one ?_⟩;simp only [RelP];exact ⟨none,0,rfl,Cz _,by simp [maxLen],(fun _ e=>by cases e),(fun e=>by cases e),fun e=>absurd rfl e⟩
  ·have hlm:len≤m:=by rw [hmm];split<;>omega
   rw [hc] at hel;have hx2:∀ i,i<len→∃ p:α×List Value,I p.1∧RelPL w (fun b=>b<w.heap.size) (f p.1) p.2∧p.2.length=c∧∀ j,j<c→w.cell? (a.add (i*c+j))=p.2[j]? :=fun i hi=>by
    obtain ⟨cs',h1,h2⟩:=hel i L8;obtain ⟨y,hy,hr⟩:=h H enc w base spare held n cs' _ h2;obtain ⟨_,h3,h4⟩:=World.cells?_some h1;exact ⟨(y,cs'),hy,hr,h3,fun j hj=>by rw [← add_add];exact h4 j hj⟩
   obtain ⟨F,hF⟩:=choose_lt hx2;have hlen:((List.range len).map fun i=>(F i).1).length=len:=Mc;refine ⟨(List.range len).map fun i=>(F i).1,⟨by rw [hlen];omega,fun y hy=>?_⟩,RelPL.one ?_⟩
   ·obtain ⟨i,hi,rfl⟩:=Df.1 hy;exact (hF i (IG.1 hi)).1
   ·rw [hlen];simp only [RelP];refine ⟨some a,cap,rfl,hl,hm,(fun _ e=>by cases e),(fun e=>by cases e),fun hne=>?_⟩;have hrel:=vJ (w:=w) (R:=fun b=>b<w.heap.size) (f:=f) (A:=fun i=>(F i).1) (us:=fun i=>(F i).2) fun i hi=>(hF i hi).2.1
    obtain ⟨hL,hat⟩:=oo (us:=fun i=>(F i).2) (c:=c) (n:=len) fun i hi=>(hF i hi).2.2.1
    generalize hU:(List.range len).flatMap (fun i=>(F i).2)=U at hrel hL hat
    have hpos:0<len*c:=by
     rw [← hL,RelPL.length hrel];exact IT.2 hne
    have hlen0:0<len:=Nat.pos_of_mul_pos_right hpos;have hc0:0<c:=Nat.pos_of_mul_pos_left hpos;have hcell:∀ k,k<len*c→w.cell? (a.add k)=U[k]? :=fun k hk=>by
     have e:k=k/c*c+k%c:=by rw [Kx];exact (Nat.div_add_mod k c).symm
     have h1:k/c<len:=Nat.div_lt_of_lt_mul (by rw [Kx];exact hk);have h2:k%c<c:=KX _ hc0;rw [e,hat _ _ h1 h2];exact (hF _ h1).2.2.2 _ h2
    have h0:=hcell 0 hpos;rw [sh L8] at h0;obtain ⟨b,off,sp⟩:=a;have hsp:sp=none:=by
     cases sp with
     | none=>rfl
     | some s=>
       exfalso;have e:(⟨b,off,some s⟩:Addr).add 0=⟨b,off,some s⟩:=rfl;rw [e] at h0;unfold World.cell? at h0;split at h0
       ·simp at h0
       ·cases h0
    subst hsp;rw [Addr.add_lit] at h0;refine ⟨b,off,U,rfl,hrel,World.block_lt_of_cell? w _ h0,fun j hj=>?_⟩;have:=hcell j L8;rw [Addr.add_lit] at this;exact this
end
section
variable {H:Type} {enc:TypeId×Value→H} {P:Program} {w:World} {base:Nat} {spare:Nat→Bool} {held:Bool} {t:TypeId} {v:Value} {d:DataW H} {ps:List MemPlace} {r:Go.Reach} {b0:Nat}
theorem OpT.one {α:Type} {p:α→PV} {I:α→Prop} (ho:OpT P t (fun a=>[p a]) I) (hv:v.cells= #[v]) (h:DataW.Trod enc P w base spare held t v d ps):∃ a,I a∧RelP w (fun b=>b<w.heap.size) (p a) v:=by
 obtain ⟨fuel,hf⟩:=h;obtain ⟨a,ha,hr⟩:=ho _ _ _ _ _ _ _ _ _ hf;refine ⟨a,ha,?_⟩;rw [hv] at hr;simp only [RelPL] at hr;obtain ⟨u,vs,e,h1,_⟩:=hr;simp at e;rw [e.1];exact h1
end
#print axioms OpT.sl
end
theorem Hr:OpT Tryz.prog 3 (fun n:Int=>[.int .i64 n]) (fun n=> -9223372036854775808≤n∧n≤9223372036854775807):=OpT.int underlying3
theorem FC:OpT Tryz.prog 22 (fun l:List Int=>[ak l]) (fun l=>l.length≤9223372036854775807):=
 (OpT.sl 1 underlying22 L9 Hr).map id (fun l=>by
  show [PV.sl none l.length (aE l)]=[PV.sl none l.length (l.flatMap fun n=>[PV.int .i64 n])]
  congr 2
  induction l with
  | nil=>rfl
  | cons x l ih=>simp [← ih]) (fun l h=>h.1)
end Go.Proofs.YtedfonppffochaaGreatDoor
