/-
  Texts of ours, joined and shortened by merge2.py: KG, KH, KJ, KO, KC, KB, UE, UF, UG, VA, VB, Gj, Gv, Ops, Op1. No statement of the program is proved here.
-/
import Derived.Handed
import Derived.LaidMore
import Derived.LaidLaws
import Derived.LaidHandle
import Derived.MakeChecks
import Derived.Lib.LaidTab
import Derived.Deep.Slices
import Derived.ChangeArms
import Derived.OpenShut
import Derived.Test.YtedfonppffochaaGreatDoorJ711
set_option maxRecDepth 100000
set_option maxHeartbeats 4000000
open Go.RowKit Go.Proofs.Tryz
namespace Go.Proofs.YtedfonppffochaaGreatDoor
section
open Go.RowKit Mk Jn
set_option maxHeartbeats 4000000
def qp (S:Sch) (d:List (List Rw)) (k:Nat):List (List Rw):=(List.zipWith (fun r l=>gF S r.2 l) S.rels d).take k
def bf (S:Sch) (d:List (List Rw)):List (List Rw):=List.zipWith (fun r l=>gF S r.2 l) S.rels d
theorem wo {S:Sch} {d:List (List Rw)} (hd:d.length=S.rels.length) {k:Nat} (hk:k<S.rels.length):qp S d (k+1)=qp S d k++[gF S S.rels[k].2 (d[k]'(by omega))]:=by
 unfold qp;rw [List.take_succ_eq_append_getElem (by simp;omega),List.getElem_zipWith]
theorem zJ {S:Sch} {d:List (List Rw)} (hd:d.length=S.rels.length):qp S d S.rels.length=bf S d:=List.take_of_length_le (by simp;omega)
theorem ya {S:Sch} {d:List (List Rw)} (hd:d.length=S.rels.length) {k:Nat} (hk:k≤S.rels.length):(qp S d k).length=k:=by
 unfold qp;simp;omega
theorem wG (S:Sch) (hS:SB S) (hV:Valid S) (hJ:SJn S) (d:List (List Rw)) (hd:d.length=S.rels.length) (hl:∀ l∈d,l.length≤1000) (hv:∀ r (h:r<d.length) (h2:r<S.rels.length),∀ x∈d[r],x.v.length=S.rels[r].2.length):
  FnO Tryz.prog 48 0 2 [.pv (gK S),.pv (dbP d)] [] (fun v ob'=>v= .ptr 0 0∧ob'=ar [(0,oX S (.pv (dbP (bf S d))) (.pv (ak (lstL S))) 1),(1,.mp [] [])]):=by
 refine FnO.of func48 rfl ntmps48 (by simp) fun m0 w0 F R0=>?_
 have hle:=(iN S hS hV).2;have hr:=hJ.r;have hall:=zJ hd;generalize lstL S=lp at*;have hdl:=dH d;refine Z2 rfl rfl rfl<|Ge rfl follows [0,1,2,3,4,5,6] (by kernel_rfl)<|D1 rfl rfl<|D1 rfl rfl<|Ds 9 [] rfl rfl rfl (fun τ h=>ae call85 hle (h.bt rfl)) rfl (by kernel_rfl)<|Ds 10 [] rfl rfl rfl (fun τ h=>fF 1 (h.n 0 _ rfl)) rfl (by kernel_rfl)<|D1 rfl rfl<|D1 rfl rfl<|D1 rfl rfl ?_;refine ⟨by kernel_rfl,?_⟩;refine Im (St.er 2 4 3 1 38 rfl rfl rfl)<|Z4 rfl rfl rfl rfl rfl ?_;refine Gl rfl (st:=fun x_0:Nat×List (List Rw)=>mkS [(1,.pv (dbP d)),(2,.ptr 0 0),(5,.ptr 2 0),(15,.pv (.int .i64 S.rels.length)),(16,.pv (.int .i64 x_0.1))] [(0,oZ S),(1,.mp [] []),(2,oX S (.gsl 3 1 x_0.2.length) (.pv (ak lp)) 1),(3,.gro 38 (dv x_0.2))] 4)
  (I:=fun x_0=>x_0.1≤S.rels.length∧x_0.2=qp S d x_0.1) (μ:=fun x_0=>S.rels.length-x_0.1) (x0:=(0,[])) (Io (aS rfl) (aO (by kernel_rfl)) rfl rfl) (⟨Nat.zero_le _,by simp [qp]⟩) ?_
 rintro ⟨k,q⟩ ⟨hk,hq⟩;try simp only at hk hq ⊢
 refine Z1 rfl rfl ?_;refine Gp rfl rfl (fun hc17=>?_) (fun hc17=>?_)
 ·have hlt:k<S.rels.length:=by omega
  have hkd:k<d.length:=by omega
  have htr:=cD hkd;have htn:=dN hkd;have hlv:=zS S hJ k hlt d[k] (hl _ (List.getElem_mem hkd)) (hv k hkd hlt);have hsu:=wo hd hlt;have hqk:=ya hd hk;rw [← hq] at hqk hsu;have hql:(dv q).length=q.length*1:=dH q;have hsn:=jE q (gF S S.rels[k].2 d[k]);generalize gF S S.rels[k].2 d[k]=lv at*;generalize d[k]=tk at*;refine Il<|Z2 rfl rfl rfl<|Ge rfl follows [0,1,2,3,4,5,6,7,8,9,10,11,12,13,14,15,16] (by kernel_rfl) ?_;iterate 9 refine D1 rfl rfl ?_
  refine Ds 28 [] rfl rfl rfl (fun τ h=>ag k underlying36 qk (Ee h 0 rfl rfl) (Ee h 1 rfl rfl) rfl hkd htn) rfl (by kernel_rfl)<|Ds 29 [] rfl rfl rfl (fun τ h=>ai ⟨_,underlying38,rfl⟩ (Ee h 0 rfl rfl) htr) rfl (by kernel_rfl)<|Ds 30 [] rfl rfl rfl (fun τ h=>ae call73 hlv (h.bt rfl)) rfl (by kernel_rfl) ?_;iterate 5 refine D1 rfl rfl ?_
  refine ⟨by kernel_rfl,?_⟩;exact Z2 rfl rfl rfl<|⟨(k+1,q++[lv]),Ip [0,1,2,5] (aT rfl) ⟨by kernel_rfl,by kernel_rfl,Eq.trans (b:=some (oX S (.gsl 5 1 (q.length+1)) (.pv (ak lp)) 1)) (by kernel_rfl) (congrArg (fun n=>some (oX S (.gsl 5 1 n) (.pv (ak lp)) 1)) (bW q lv)),Eq.trans (b:=some (.gro 38 (dv q++[bL lv]))) (by kernel_rfl) (congrArg (fun c=>some (Ob.gro 38 c)) hsn),trivial⟩ rfl rfl (by decide) rfl,⟨by simp only;omega,by simp only;rw [hsu]⟩,by simp only;omega⟩
 ·have hqf:q=bf S d:=by rw [hq,show k=S.rels.length by omega,hall]
  rw [hqf];exact Gx rfl<|Im (Ir 3 rfl rfl)<|Z2 rfl rfl rfl<|Gt rfl<|⟨[(4,.ptr 0 0)],[(0,oX S (.pv (dbP (bf S d))) (.pv (ak lp)) 1),(1,.mp [] [])],[.ptr 0 0],Ip [2,1] (aT rfl) (aP (by kernel_rfl)) rfl rfl (by decide) rfl,rfl,rfl,rfl,rfl,rfl⟩
end
section
open Go.RowKit Mk Jn
set_option maxHeartbeats 4000000
abbrev jrO (S:Sch) (T:List (List Rw)) (lp:List Int) (D:VD) (l:List Rw):List (Nat×Ob):=[(big,oX S (.pv (dbP T)) (.pv (ak lp)) 1000001),(1000001,.mp [.int .i64 (-1)] [ca D]),(0,.gro 49 (aB l))]
theorem DA (P:List Int):Pre P 0 s0B:=fun a=>by simp
theorem now0B (n:Nat):NowOk n s0B (List.replicate n eb):=⟨by simp,fun a h x e=>(by cases e),fun a _=>rfl⟩
theorem sy (S:Sch) (T:List (List Rw)) (lp:List Int) (pk pv:List PV) (D:VD) (hpl:pr S T lp pk pv D) (P:List Int) (hc:CtxV (jdB S T lp D) P D) (hd:∀ l∈T,l.Pairwise fun a b=>a.v≠b.v) (hw100:∀ l∈T,∀ x∈l,1≤x.w∧x.w≤100) (hr6:S.rels.length≤6) (hwa:D.wa=aD P) (hho:∀ v (hv:v<D.hos.length),D.hos[v]=hoL S P v)
  (l:List Rw) (hl:o9 (jdB S T lp D) P=l) (hll:l.length≤1000000):
  FnO Tryz.prog 52 2 1 [.ptr big 0] (jnO S T lp pk pv) (fun v ob'=>v= .gsl 0 2 l.length∧ob'=ar (jrO S T lp D l)):=by
 refine FnO.of func52 rfl ntmps52 (by simp) fun m0 w0 F R0=>?_
 have hask:=vP S T lp pk pv D hc.ok.s.a hpl;have htt:=sB (jdB S T lp D) P D hc s0B (fun _=>rfl) (List.replicate S.attrs.length eb) [] (now0B _) (fun p hp=>by cases hp);have hol:=y3 hc;rw [hl] at hol;have hhas:=HO hc s0B;have hof:=iR hc;rw [zt] at hl;have hll2:([]:List Rw).length+(enC (jdB S T lp D) P (hoL (jdB S T lp D).S P) ((aD P).drop 0) s0B 1).length≤1000000:=by
  rw [List.drop_zero,List.length_nil,Nat.zero_add, ← k8 S.attrs.length];exact hl▸hll
 have hgo:=fun now2 M2 h1 h2=>Ey (jdB S T lp D) P D hc hd hw100 hr6 hwa hho (aD P).length 0 (by omega) s0B now2 M2 1 [] (DA P) (fun a x e=>(by cases e)) (fun a x e=>(by cases e)) h1 h2 (by decide) (by unfold GY;simp) hll2
 rw [List.drop_zero,List.nil_append,show (fun _=>none:Asg ByteArray)=s0B from rfl] at*;rw [show iX (jdB S T lp D).S.attrs.length (enC (jdB S T lp D) P (hoL (jdB S T lp D).S P) (aD P) s0B 1)=l from hl] at hgo;have hemp:fl aU (jdB S T lp D) P (al P (-1)) s0B=false→l=[]:=fun e=>by
  rw [e] at hhas;have h1:(enW (bC (RJ (jdB S T lp D)) sdS) (aD P) s0B).isEmpty=true:=by simpa using hhas.symm
  rw [← hl, ← List.length_eq_zero_iff,k8, ← List.length_map (f:=(·.1)),hof];exact List.length_eq_zero_iff.2 (List.isEmpty_iff.1 h1)
 clear hol hhas hof hl;generalize fl aU (jdB S T lp D) P (al P (-1)) s0B=fb at*;refine Z1 rfl rfl<|Z1 rfl rfl<|Rs 7 rfl rfl (ah [big,1000001] 0 call96 hask rfl rfl rfl rfl ⟨rfl,rfl,trivial⟩ (by decide) rfl)<|Y2 rfl rfl<|Im (Io (l:=[(3,.ptr 5 0)]) (os:=(5,.mix 139 [.ptr 4 0])::HG S T lp D) (k:=6) (aS (by kernel_rfl)) (aO (by kernel_rfl)) rfl rfl)<|Z1 rfl rfl ?_;refine RL.call rfl (dU (os:=o6B (jdB S T lp D) (wdB D) s0B (List.replicate S.attrs.length eb) [] []) [4,1,2,3,big,1000001] 0 call97 (args:=[.ptr big 0]) (k':=0) (by kernel_rfl) (by kernel_rfl) (by kernel_rfl) (by kernel_rfl) ⟨by kernel_rfl,by kernel_rfl,by kernel_rfl,by kernel_rfl,by kernel_rfl,by kernel_rfl,trivial⟩ (by decide) (by kernel_rfl) htt fun v ob' hv=>?_);obtain ⟨now2,M2,hn2,hM2,rfl,rfl⟩:=hv;refine A1 rfl ?_;have hgo2:=hgo now2 M2 hn2 hM2;refine Wk [(3,.ptr 5 0),(10,.pv (.bool (!fb)))] [(4,(oB (wdB D) big 1 S.attrs.length 2 3)),(1,.cells 9 (aA now2)),(2,.cells 4 (ay (stL s0B S.attrs.length))),(3,.mp (ba M2) (bB M2)),(5,.mix 139 [.ptr 4 0]),(big,oX S (.pv (dbP T)) (.pv (ak lp)) 1000001),(1000001,.mp [.int .i64 (-1)] [ca D])] 6 (aS (by kernel_rfl)) (aO (by kernel_rfl)) rfl rfl ?_;refine Gc rfl rfl (fun hc10=>?_) (fun hc10=>?_)
 ·have hle:=hemp (by simpa using hc10);subst hle;exact Z1 rfl rfl<|Im (Iu 2 6 2 49 rfl rfl)<|Gt rfl<|⟨[(2,.gsl 0 2 0)],jrO S T lp D [],[.gsl 0 2 0],Is [6] (aT (by kernel_rfl)) (aP (by kernel_rfl)) rfl rfl (by decide) rfl,rfl,rfl,rfl,rfl,rfl⟩
 ·refine Il<|Z1 rfl rfl<|Im (St.er 6 0 7 2 49 rfl rfl rfl)<|Z1 rfl rfl<|Z2 rfl rfl rfl<|Z1 rfl rfl ?_;refine RL.call rfl (qx [4,1,2,3,big,1000001,5,6,8,7] 9 call98 hgo2 rfl rfl rfl rfl rfl ⟨by kernel_rfl,by kernel_rfl,by kernel_rfl,by kernel_rfl,by kernel_rfl,by kernel_rfl,by kernel_rfl,by kernel_rfl,by kernel_rfl,by kernel_rfl,trivial⟩ (by decide) rfl ?_);rintro _ _ ⟨now4,M4,hn4,hM4,rfl,rfl⟩;exact Z2 rfl rfl rfl<|Gt rfl<|⟨[(2,.gsl 0 2 l.length)],jrO S T lp D l,[.gsl 0 2 l.length],Is [9] (aT (by kernel_rfl)) (aP (by kernel_rfl)) rfl rfl (by decide) rfl,rfl,rfl,rfl,rfl,rfl⟩
end
section
open Go.RowKit Mk Jn
set_option maxHeartbeats 4000000
theorem mH {w:World} {R:Nat→Prop}:∀ {l:List ByteArray} {us:List Value},RelPL w R (aA l) us→us=l.map Value.string
 | [],us,h=>by simpa [RelPL] using h
 | x::l,us,h=>by
   simp only [List.map_cons,RelPL,RelP] at h;obtain ⟨u,vs,rfl,rfl,h2⟩:=h;rw [mH h2];rfl
structure RowV (w:World) (R:Nat→Prop) where
 x:Rw
 us:List Value
 rel:RelPL w R (eV x) us
 len:x.v.length≤1000000
theorem E5 (w:World) (R:Nat→Prop):RelPL w R (eV ⟨[],0⟩) [.slice none 0 0,.int .i64 0]:=by
 refine RelPL.cons ?_ (RelPL.cons (by simp only [RelP]) RelPL.nil);simp only [RelP];refine ⟨none,0,rfl,Nat.le_refl _,by simp [maxLen],?_,?_,?_⟩
 ·intro b h;cases h
 ·intro h;cases h
 ·intro h;exact absurd rfl h
instance (w:World) (R:Nat→Prop):Inhabited (RowV w R):=⟨⟨⟨[],0⟩,_,E5 w R,by simp⟩⟩
theorem RowV.cells {w:World} {R:Nat→Prop} (hR:∀ b,R b→b<w.heap.size) (y:RowV w R):∃ A c,y.us=[.slice A y.x.v.length c,.int .i64 y.x.w]∧Row w R A (GF y.x.v):=by
 have h:=y.rel;simp only [RelPL,RelP] at h;obtain ⟨u,vs,e,⟨A,c,rfl,_,_,_,_,h5⟩,u2,vs2,rfl,rfl,rfl⟩:=h;refine ⟨A,c,e,fun hne=>?_⟩;obtain ⟨b,off,us,rfl,h6,h7,h8⟩:=h5 (fun e=>hne (by rw [List.map_eq_nil_iff] at e ⊢; exact e));have e7:=mH h6;subst e7;exact ⟨b,off,rfl,h7,hR b h7,h8⟩
theorem RowV.G0 {w:World} {R:Nat→Prop} (y:RowV w R):y.us.length=2:=y.rel.length
theorem RowV.one {w:World} {R:Nat→Prop} (y:RowV w R):∀ v∈y.us,v.oneCell'=true:=by
 have h:=y.rel;simp only [RelPL,RelP] at h;obtain ⟨u,vs,e,⟨A,c,rfl,_⟩,u2,vs2,rfl,rfl,rfl⟩:=h;rw [e];intro v hv;simp only [List.mem_cons,List.not_mem_nil,or_false] at hv;rcases hv with rfl | rfl<;>rfl
theorem tQ {w:World} {R:Nat→Prop}:∀ {l:List Rw} {us:List Value},(∀ x∈l,x.v.length≤1000000)→RelPL w R (aB l) us→∃ ds:List (RowV w R),ds.map (·.x)=l∧ds.flatMap (·.us)=us
 | [],us,_,h=>⟨[],rfl,by simp [aB,RelPL] at h;simp [h]⟩
 | x::l,us,hl,h=>by
   have h0:RelPL w R (eV x++aB l) us:=h;have h1:=h0.take 2;have h2:=h0.drop 2;rw [show (eV x++aB l).take 2=eV x from List.take_left' rfl] at h1;rw [show (eV x++aB l).drop 2=aB l from List.drop_left' rfl] at h2;obtain ⟨ds,e1,e2⟩:=tQ (fun y hy=>hl y (by simp [hy])) h2;exact ⟨⟨x,us.take 2,h1,hl x (by simp)⟩::ds,by simp [e1],by simp [e2]⟩
theorem pQ {w w':World} {R:Nat→Prop} (hk:∀ b,R b→w'.heap[b]? =w.heap[b]?):∀ (ds:List (RowV w R)),RelPL w' R (aB (ds.map (·.x))) (ds.flatMap (·.us))
 | []=>by simp [aB,RelPL]
 | y::ds=>by
   have h1:RelPL w' R (eV y.x) y.us:=RelPL.mono (fun b hb=>⟨hb,hk b hb⟩) _ _ y.rel;have:=h1.append (pQ hk ds);simpa [aB] using this
theorem EB (a b:List ByteArray):decide (lN a b<0)=aZ a b:=by
 unfold lN;cases h:aZ a b with
 | true=>rw [if_pos rfl];rfl
 | false=>rw [if_neg (by decide)];by_cases h2:a=b<;>simp [h2]
theorem H0 {i k:Nat} (h:¬ i=k):Nat.beq i k=false:=by
 cases hb:Nat.beq i k with
 | false=>rfl
 | true=>exact absurd (Nat.eq_of_beq_eq_true hb) h
theorem yP {α:Type} (f:α→List ByteArray):Go.Sort.SWO (Go.Proofs.ltOf fun x y:α=>lN (f x) (f y)):=by
 have e:∀ x y:α,Go.Proofs.ltOf (fun x y:α=>lN (f x) (f y)) x y=aZ (f x) (f y):=fun x y=>by
  exact EB (f x) (f y)
 refine ⟨fun x=>by rw [e];exact cz _,fun x y z h1 h2=>?_,fun x y z h1 h2=>?_⟩
 ·rw [e] at *; exact cT h1 h2
 ·rw [e] at*;cases h3:aZ (f x) (f z) with
  | false=>rfl
  | true=>
    cases h4:aZ (f z) (f y) with
    | true=>rw [cT h3 h4] at h1;cases h1
    | false=>rw [gO h2 h4,h3] at h1;cases h1
theorem Bh {α:Type} (f:α→List ByteArray) (x y:α):Go.Proofs.ltOf (fun x y:α=>lN (f x) (f y)) x y=aZ (f x) (f y):=by
 exact EB (f x) (f y)
theorem l3 {α:Type} [Inhabited α] (enc:α→List Value) (hk:∀ x,(enc x).length=2) (d:Array α):(Go.Sort.flatK enc 2 d).toList=d.toList.flatMap enc:=by
 have hfl:(d.toList.flatMap enc).length=d.toList.length*2:=fK enc 2 hk d.toList;apply List.ext_getElem
 ·rw [Array.length_toList,Go.Sort.size_flatK,hfl,Array.length_toList]
 ·intro i h1 h2;rw [Array.length_toList,Go.Sort.size_flatK] at h1;have hq:i/2<d.size:=by omega
  have hg:=Go.Sort.get_flatK enc 2 d i h1;rw [getElem!_pos _ i (by rw [Go.Sort.size_flatK];exact h1)] at hg;have hf:=oC enc 2 hk d.toList (i/2) (i%2) (by rw [Array.length_toList];exact hq) (by omega);rw [show i/2*2+i%2=i by omega,List.getElem?_eq_getElem h2] at hf;rw [Array.getElem_toList,hg,getElem!_pos d (i/2) hq];have hl:i%2<(enc d[i/2]).length:=by rw [hk];omega
  change _=(enc d[i/2])[i%2]? at hf
  rw [List.getElem?_eq_getElem hl] at hf;rw [getElem!_pos (enc d[i/2]) (i%2) hl];exact (Option.some.inj hf).symm
theorem nT (F arr:Array Value) (h:F.size≤arr.size):((Go.Sort.putCells id 0 F arr).toList.take F.size)=F.toList:=by
 apply List.ext_getElem
 ·simp [Go.Sort.putCells];omega
 ·intro i h1 h2;rw [Array.length_toList] at h2;simp only [List.getElem_take,Array.getElem_toList,Go.Sort.putCells,Array.getElem_mapIdx];rw [if_pos ⟨Nat.zero_le _,by omega⟩,Nat.sub_zero,getElem!_pos F i h2];rfl
theorem ie {α:Type} [Inhabited α] (enc:α→List Value) (w:World) (b n:Nat) (d:Array α) (os:Array Obj) (hb:b<w.heap.size):
  (sortWorldK enc 2 w b 0 n d os).os=w.os∧(sortWorldK enc 2 w b 0 n d os).tape=w.tape∧(sortWorldK enc 2 w b 0 n d os).output=w.output∧w.heap.size≤(sortWorldK enc 2 w b 0 n d os).heap.size∧
  (∀ k,k<w.heap.size→k≠b→(sortWorldK enc 2 w b 0 n d os).heap[k]? =w.heap[k]?)∧∀ arr ty fz,w.heap[b]? =some (.cells arr ty fz)→(sortWorldK enc 2 w b 0 n d os).heap[b]? =some (.cells (Go.Sort.putCells id 0 (Go.Sort.flatK enc 2 d) arr) ty fz):=by
 have hh:(sortWorldK enc 2 w b 0 n d os).heap=(w.heap.modify b (Go.Sort.onCells (Go.Sort.putCells id 0 (Go.Sort.flatK enc 2 d))))++os:=rfl;refine ⟨rfl,rfl,rfl,?_,fun k hk hne=>?_,fun arr ty fz h=>?_⟩
 ·rw [hh];simp
 ·rw [hh,Array.getElem?_append_left (by simpa using hk),Array.getElem?_modify,if_neg (Ne.symm hne)]
 ·rw [hh,Array.getElem?_append_left (by simpa using hb),Array.getElem?_modify,if_pos rfl,h];rfl
abbrev jz (l:List Rw):Ob:= .gro 49 (aB l)
theorem w7 (l:List Rw) (hl:l.length≤1000000) (hv:∀ x∈l,x.v.length≤1000000):
  FnO Tryz.prog 53 1 0 [.gsl big 2 l.length,.pv (.fn (.func 54) [] [])] [(big,jz l)] (fun v ob'=>∃ l',l'.Perm l∧(l'.Pairwise fun a b=>aZ b.v a.v=false)∧v= .tup []∧ob'=ar [(big,jz l')]):=by
 intro w m R us hR hrel;simp only [RelL,Rel,RelP] at hrel;obtain ⟨u1,us1,rfl,⟨_,A,c,rfl,hnc,hcm,h0,h1⟩,u2,us2,rfl,⟨fs,cs,rfl,hfs,hcs⟩,rfl⟩:=hrel;obtain rfl:=(by simpa [RelPL] using hfs:fs=[]);obtain rfl:=(by simpa [RelPL] using hcs:cs=[]);have hob:ar [(big,jz l)] big=some (jz l):=rfl;by_cases hn:l=[]
 ·subst hn;refine (AnyF.slices_SortFunc_none Tryz.sortRow A c _ w).mono ?_;rintro e w' ⟨rfl,rfl⟩;refine ⟨.tuple #[],.tup [],_,m,R.p,rfl,⟨[],List.Perm.refl _,List.Pairwise.nil,rfl,rfl⟩,rfl,?_,hR,?_⟩
  ·intro i o h;by_cases hi:i=big
   ·subst hi;rw [hob] at h;cases h;exact ⟨rfl,rfl⟩
   ·exfalso;simp only [ar] at h;rw [H0 hi] at h;cases h
  ·simp only [Rel];exact ⟨[],rfl,by simp only [RelL]⟩
 ·have hpos:0<l.length:=List.length_pos_iff.2 hn;have hcl:=aK l;have hreal:(jz l).real=true:=bQ (by intro e;rw [e] at hcl;simp at hcl;omega);have hdom:=hR.dom big;rw [hob] at hdom;obtain ⟨⟨b,N⟩,hm⟩:∃ x,m big=some x:=Option.isSome_iff_exists.1 (hdom.trans hreal);obtain ⟨rfl,hN⟩:=h1 hpos b N hm;obtain ⟨arr,hb,harr,hle,hrl⟩:=hR.obj big _ b N hob hm;obtain ⟨hbs,hbR,_⟩:=hR.own big b N hm;obtain ⟨ds,hds,hdu⟩:=tQ hv hrl;have hdl:ds.length=l.length:=by rw [← hds,List.length_map]
  have hsz:ds.toArray.size=l.length:=by rw [List.size_toArray,hdl]
  have hF:=l3 (fun y:RowV w R.p=>y.us) (fun y=>y.G0) ds.toArray;have hFs:=Go.Sort.size_flatK (fun y:RowV w R.p=>y.us) 2 ds.toArray;rw [hsz] at hFs;have hH:Go.Sort.HoldsK (fun y:RowV w R.p=>y.us) 2 w b 0 ds.toArray:=by
   intro j hj;rw [hFs] at hj;have hjl:j<(aB l).length:=by omega
   have e1:(arr.toList.take (aB l).length)[j]? =(Go.Sort.flatK (fun y:RowV w R.p=>y.us) 2 ds.toArray).toList[j]? :=by rw [hF, ← hdu]
   rw [List.getElem?_take,if_pos hjl,Array.getElem?_toList,Array.getElem?_toList] at e1;constructor
   ·simp only [World.cell?,hb,Nat.zero_add];rw [e1,getElem!_pos _ j (by rw [hFs];exact hj)];exact Array.getElem?_eq_getElem _
   ·simp [World.frozen?,hb]
  have hcmp:CmpLays Tryz.prog 54 #[] (fun y:RowV w R.p=>y.us) 2 (fun x y=>lN x.x.v y.x.v) b 0 ds.toArray.size w:=by
   intro mm os dk _ x y;obtain ⟨A1,c1,e1,r1⟩:=x.cells hR.rsz;obtain ⟨A2,c2,e2,r2⟩:=y.cells hR.rsz;obtain ⟨_,_,_,k1,k2,_⟩:=ie (fun y:RowV w R.p=>y.us) w b mm dk os hbs;have hk:∀ b',R.p b'→b'<w.heap.size→(sortWorldK (fun y:RowV w R.p=>y.us) 2 w b 0 mm dk os).heap[b']? =w.heap[b']? :=fun b' h1 h2=>k2 b' h2 fun e=>hbR (e▸h1)
   have:=sj A1 A2 c1 c2 x.x.v y.x.v x.x.w y.x.w (sortWorldK (fun y:RowV w R.p=>y.us) 2 w b 0 mm dk os) (r1.keep k1 fun b' _ _ h1 h2=>hk b' h1 h2) (r2.keep k1 fun b' _ _ h1 h2=>hk b' h1 h2) x.len y.len;show Calls _ _ (#[.agg x.us.toArray,.agg y.us.toArray]++ #[]) _ _;rw [e1,e2,Array.append_empty];exact this
  have hgo:=AnyQ.slices_SortFunc Tryz.sortRow 2 isAgg49 sizeOf49 (fun y:RowV w R.p=>y.us) (fun y=>y.G0) (fun y=>y.one) (fun x y=>lN x.x.v y.x.v) (yP fun y:RowV w R.p=>y.x.v) 54 #[] b 0 c ds.toArray w call54 hcmp hH hbs (by rw [hsz];omega);rw [hsz] at hgo;refine Calls.mono hgo ?_;rintro e w' ⟨rfl,d',n,os,⟨hp1,_,hp2⟩,hs,rfl⟩;obtain ⟨q1,q2,q3,q4,q5,q6⟩:=ie (fun y:RowV w R.p=>y.us) w b n d' os hbs;have hd':d'.size=l.length:=hp1.trans hsz;have hperm:d'.toList.Perm ds:=by
   have e1:d'.extract 0 l.length=d':=by rw [← hd'];simp
   have e2:ds.toArray.extract 0 l.length=ds.toArray:=by rw [← hsz];simp
   rw [e1,e2] at hp2;simpa using hp2
  have hpl:(d'.toList.map (·.x)).Perm l:=hds▸hperm.map (·.x);have hl':(d'.toList.map (·.x)).length=l.length:=hpl.length_eq;have hcl':=aK (d'.toList.map (·.x));have hF':=l3 (fun y:RowV w R.p=>y.us) (fun y=>y.G0) d';have hFs':=Go.Sort.size_flatK (fun y:RowV w R.p=>y.us) 2 d';have hob':ar [(big,jz (d'.toList.map (·.x)))] big=some (jz (d'.toList.map (·.x))):=rfl;have hreal':(jz (d'.toList.map (·.x))).real=true:=bQ (by intro e;rw [e] at hcl';simp only [List.length_nil] at hcl';omega);have hno:∀ {l:List Rw} {i:Nat},i≠big→ar [(big,jz l)] i=none:=fun {l i} hi=>by simp only [ar];rw [H0 hi];rfl
  refine ⟨.tuple #[],.tup [],_,m,R.p,rfl,⟨d'.toList.map (·.x),hpl,?_,rfl,rfl⟩,rfl,?_,?_,?_⟩
  ·rw [List.pairwise_map,List.pairwise_iff_getElem];intro i j h1 h2 hij;have:=hs i j (Nat.zero_le _) hij (by rw [Array.length_toList] at h2;omega);rw [Bh fun y:RowV w R.p=>y.x.v,getElem!_pos d' j (by simpa using h2),getElem!_pos d' i (by simpa using h1)] at this;simpa using this
  ·intro i o h;by_cases hi:i=big
   ·subst hi;rw [hob'] at h;cases h;exact ⟨rfl,rfl⟩
   ·rw [hno hi] at h;cases h
  ·refine ⟨fun i=>?_,fun i h=>?_,fun i o b' N' h h'=>?_,hR.inj,fun i b' N' h=>?_,fun b' h=>Nat.lt_of_lt_of_le (hR.rsz b' h) q4,fun b' h=>hR.rfr b' h,hR.r0,⟨q1,q2,q3,q4,fun k hk hF=>q5 k hk fun e=>hF (e▸⟨big,N,hm⟩)⟩,hR.keep,hR.res⟩
   ·by_cases hi:i=big
    ·subst hi;rw [hob',hm];exact hreal'.symm
    ·rw [hno hi];have:=hR.dom i;rw [hno hi] at this;exact this
   ·by_cases hi:i=big
    ·subst hi;have:=hR.free _ h;rw [hob] at this;cases this
    ·exact hno hi
   ·by_cases hi:i=big
    ·subst hi;rw [hob'] at h;cases h;rw [hm] at h';cases h';refine ⟨_,q6 arr _ _ hb,?_,?_,?_⟩
     ·simp [Go.Sort.putCells,harr]
     ·rw [hcl',hl', ← hcl];exact hle
     ·rw [show (aB (d'.toList.map (·.x))).length=(Go.Sort.flatK (fun y:RowV w R.p=>y.us) 2 d').size by rw [hFs',hcl',List.length_map,Array.length_toList],nT _ _ (by rw [hFs',hd',harr];omega),hF'];exact pQ (fun b' h=>q5 b' (hR.rsz b' h) fun e=>hbR (e▸h)) d'.toList
    ·rw [hno hi] at h;cases h
   ·have:=hR.own i b' N' h;exact ⟨Nat.lt_of_lt_of_le this.1 q4,this.2⟩
  ·simp only [Rel];exact ⟨[],rfl,by simp only [RelL]⟩
end
section
open Go.RowKit Mk Jn
set_option maxHeartbeats 4000000
structure RowOk (S:Sch) (A:List Int) (low:Int) (x:Rw):Prop where
 l:x.v.length=A.length
 v:∀ i (h:i<x.v.length) (h2:i<A.length),∀ nm,FnP Tryz.prog 179 [.agg [.str nm,.int .i64 (S.attrs.getD A[i].toNat default).2],.str x.v[i]] (· = .bool true)
 w:x.w≠0∧low≤x.w∧x.w≤100
theorem mC {S:Sch} {a:Nat} (h:a<S.attrs.length):S.attrs.getD a default=S.attrs[a]:=by simp [List.getD,h]
theorem sX (S:Sch) (hS:SJn S) (nm:ByteArray) (A:List Int) (hA:A.length≤1000) (hb:∀ a∈A,0≤a∧a<S.attrs.length) (low:Int) (x:Rw) (hx:RowOk S A low x):FnP Tryz.prog 125 [gK S,.agg [.str nm,ak A],sJ x] (· = .bool true):=by
 refine FnP.of func125 rfl ntmps125 (by simp) fun m0 w0 F R0=>?_
 have hxl:=hx.l;have hSa:=hS.a;refine Z4 rfl rfl rfl rfl rfl<|Z4 rfl rfl rfl rfl rfl ?_;refine Gl rfl (st:=fun x_0:Nat=>mkS [(3,.ptr 0 0),(5,.ptr 2 0),(10,.pv (ak A)),(11,.pv (.int .i64 A.length)),(12,.pv (.int .i64 x_0))] [(0,oZ S),(2,.mix 49 [.pv (aI x.v),.pv (.int .i64 x.w)])] 3)
  (I:=fun x_0=>x_0≤A.length) (μ:=fun x_0=>A.length-x_0) (x0:=(0)) (Io (aS rfl) (aO rfl) rfl rfl) (Nat.zero_le _) ?_
 rintro j hj;refine Z1 rfl rfl ?_;refine Gp rfl rfl (fun hc13=>?_) (fun hc13=>?_)
 ·have hlj:j<A.length:=by omega
  obtain ⟨a,haa⟩:=Int.eq_ofNat_of_zero_le (hb _ (List.getElem_mem hlj)).1;have hal:a<S.attrs.length:=by have:=(hb _ (List.getElem_mem hlj)).2;omega
  have hpv:(aE A)[j*1]? =some (.int .i64 (a:Int)):=by rw [← haa];simp [hlj]
  have hpn:=aH hlj;have hjv:j<x.v.length:=by omega
  have hsv:=aM hjv;have hsn:=bc hjv;have har:=od hal;have han:=lq hal;have hvl:=hx.v j hjv hlj S.attrs[a].1;rw [haa,Int.toNat_natCast,mC hal] at hvl;refine Il<|Z2 rfl rfl rfl<|Rs 16 rfl rfl (ai ⟨_,underlying3,rfl⟩ rfl hpv)<|Y2 rfl rfl<|Ge rfl follows [0,1,2,3,4,5,6,7,8,9,10,11] (by kernel_rfl)<|D1 rfl rfl<|D1 rfl rfl<|D1 rfl rfl<|Ds 20 [] rfl rfl rfl (fun τ h=>ag a underlying28 G1 (Ee h 0 rfl rfl) (Ee h 1 rfl rfl) rfl hal han) rfl (by kernel_rfl) ?_;first | refine D3 rfl rfl (by assumption) ?_ | refine D1 rfl rfl ?_
  refine D1 rfl rfl<|D1 rfl rfl<|D1 rfl rfl<|Ds 25 [] rfl rfl rfl (fun τ h=>ag j underlying47 sz9 (Ee h 0 rfl rfl) (Ee h 1 rfl rfl) rfl hjv hsn) rfl (by kernel_rfl)<|Ds 26 [] rfl rfl rfl (fun τ h=>ai ⟨_,underlying9,rfl⟩ (Ee h 0 rfl rfl) hsv) rfl (by kernel_rfl)<|Ds 27 [] rfl rfl rfl (fun τ h=>ae call179 hvl (h.bt rfl)) rfl (by kernel_rfl)<|D1 rfl rfl ?_;refine ⟨by kernel_rfl,?_⟩;refine Gc rfl rfl (fun hc28=>absurd hc28 (by simp)) (fun hc28=>?_);exact Il<|Z2 rfl rfl rfl<|⟨(j+1),Io (aS rfl) (aO rfl) rfl rfl,by omega,by omega⟩
 ·exact Gx rfl<|Z1 rfl rfl<|Gt rfl<|⟨_,_,rfl,rfl,rfl⟩
structure TblOk (S:Sch) (A:List Int) (low:Int) (l:List Rw):Prop where
 row:∀ x∈l,RowOk S A low x
 asc:Aj l
theorem xS {l:List Rw} (h:Aj l) {k:Nat} (hk:k+1<l.length):aZ l[k].v l[k+1].v=true:=by
 unfold Aj at h;rw [List.pairwise_iff_getElem] at h;exact h k (k+1) (by omega) hk (by omega)
theorem jd (S:Sch) (hB:SB S) (hS:SJn S) (hV:cI S=0) (r:Nat) (hr:r<S.rels.length) (l:List Rw) (most low:Int) (hm:(l.length:Int)≤most) (hl:l.length≤1000) (hT:TblOk S S.rels[r].2 low l):FnP Tryz.prog 83 [gK S,.int .i64 r,bL l,.int .i64 most,.int .i64 low] (· = .int .i64 0):=by
 refine FnP.of func83 rfl ntmps83 (by simp) fun m0 w0 F R0=>?_
 have hchk:=tN S hB;rw [hV] at hchk;have hrow:=cW hr;have hrne:=ew hr;have hrl:=hS.l _ (List.getElem_mem hr);have hrb:=hS.b _ (List.getElem_mem hr);have hSr:=hS.r;have hval:=fun (x:Rw) (hx:RowOk S S.rels[r].2 low x)=>sX S hS S.rels[r].1 S.rels[r].2 hrl hrb low x hx
 have hTr:=hT.row;have hTa:=hT.asc;clear hT;generalize S.rels[r]=rr at*;refine Z2 rfl rfl rfl<|Z1 rfl rfl<|Rs 16 rfl rfl (ae call81 hchk rfl)<|Y2 rfl rfl ?_;refine Gc rfl rfl (fun hc14=>absurd hc14 (by simp)) (fun hc14=>?_);refine Z3 rfl rfl rfl rfl ?_;apply Ix 6 23 29 [24,25,26,27,28] rfl (by first | exact ax.le | exact ax.aw | exact Iv)
 ·intro hb2;iterate 6 refine A1 rfl ?_
  exact Iq (Ik (Ik (Ik (Ik (Ik (Ik (Ik (fEq.refl) rfl) rfl) rfl) rfl) rfl) rfl) rfl) rfl rfl rfl
 ·intro hb2;iterate 6 refine A1 rfl ?_
  exact Iq (Ik (Ik (Ik (Ik (Ik (Ik (Ik (fEq.refl) rfl) rfl) rfl) rfl) rfl) rfl) rfl) rfl rfl rfl
 refine A1 rfl ?_;refine Gc rfl rfl (fun hc20=>absurd hc20 (fun h=>by simp at h;omega)) (fun hc20=>?_);refine Gr rfl ?_;iterate 5 refine A1 rfl ?_
 refine Gp rfl rfl (fun hc30=>absurd hc30 (by omega)) (fun hc30=>?_);refine Il<|Z4 rfl rfl rfl rfl rfl ?_;first | refine A3 rfl (by assumption) ?_ | refine A1 rfl ?_
 refine Y2 rfl rfl<|Z3 rfl rfl rfl rfl ?_;refine Gl rfl (st:=fun x_0:Nat=>mkS [(2,.pv (bL l)),(4,.pv (.int .i64 low)),(5,.ptr 0 0),(11,.ptr 1 0),(40,.pv (bL l)),(41,.pv (.int .i64 l.length)),(42,.pv (.int .i64 x_0))] [(0,oZ S),(1,.mix 30 [.pv (.str rr.1),.pv (ak rr.2)])] 2)
  (I:=fun x_0=>x_0≤l.length) (μ:=fun x_0=>l.length-x_0) (x0:=(0)) (Io (aS rfl) (aO rfl) rfl rfl) (Nat.zero_le _) ?_
 rintro k hk;refine Z1 rfl rfl ?_;refine Gp rfl rfl (fun hc43=>?_) (fun hc43=>?_)
 ·have hlt:k<l.length:=by omega
  have hrw:=aN hlt;have hrn:=aW hlt;have hxo:=hTr _ (List.getElem_mem hlt);have hvk:=hval _ hxo;have hxl:=hxo.l;obtain ⟨hw1,hw2,hw3⟩:=hxo.w;have hprev:0<k→∃ hq:k-1<l.length,aZ (l[k-1]'hq).v l[k].v=true:=fun h0=>by
   obtain ⟨j,rfl⟩:∃ j,k=j+1:=⟨k-1,by omega⟩;exact ⟨by simp only [Nat.add_sub_cancel];omega,by simpa using xS hTa hlt⟩
  have hpl:∀ hq:k-1<l.length,(l[k-1]'hq).v.length=rr.2.length:=fun hq=>(hTr _ (List.getElem_mem hq)).l
  have hpr:∀ hq:k-1<l.length,(aB l)[(k-1)*2]? =some (aI (l[k-1]'hq).v):=fun hq=>nr hq
  clear hxo;generalize l[k]=x at*;refine Il<|Z2 rfl rfl rfl ?_;first | refine A3 rfl (by assumption) ?_ | refine A1 rfl ?_
  refine Y3 rfl rfl rfl<|Gr rfl ?_;iterate 8 refine A1 rfl ?_
  refine Gc rfl rfl (fun hc47=>absurd hc47 (by simp;omega)) (fun hc47=>?_);refine Z3 rfl rfl rfl rfl<|Rs 59 rfl rfl (ae call125 hvk rfl)<|Y2 rfl rfl ?_;refine Gc rfl rfl (fun hc55=>absurd hc55 (by simp)) (fun hc55=>?_);refine Z4 rfl rfl rfl rfl rfl ?_;apply Ix 5 65 70 [66,67,68,69] rfl (by first | exact ax.le | exact ax.aw | exact Iv)
  ·intro hb3;iterate 5 refine A1 rfl ?_
   exact Iq (Ik (Ik (Ik (Ik (Ik (Ik (fEq.refl) rfl) rfl) rfl) rfl) rfl) rfl) rfl rfl rfl
  ·intro hb3;iterate 5 refine A1 rfl ?_
   exact Iq (Ik (Ik (Ik (Ik (Ik (Ik (fEq.refl) rfl) rfl) rfl) rfl) rfl) rfl) rfl rfl rfl
  refine A1 rfl ?_;apply Ix 4 71 75 [72,73,74] rfl (by first | exact ax.le | exact ax.aw | exact Iv)
  ·intro hb9;iterate 4 refine A1 rfl ?_
   exact Iq (Ik (Ik (Ik (Ik (Ik (fEq.refl) rfl) rfl) rfl) rfl) rfl) rfl rfl rfl
  ·intro hb9;iterate 4 refine A1 rfl ?_
   exact Iq (Ik (Ik (Ik (Ik (Ik (fEq.refl) rfl) rfl) rfl) rfl) rfl) rfl rfl rfl
  refine A1 rfl ?_;refine Gc rfl rfl (fun hc61=>absurd hc61 (fun h=>by simp at h;omega)) (fun hc61=>?_);by_cases hk0:k=0
  ·refine Ge rfl follows [0,1,2,3,4,5,6,7,8,9,10,11,12,13,14] (by kernel_rfl)<|D1 rfl rfl<|Ds 78 [] rfl rfl rfl (fun τ h=>XJ.cast (v':= .pv (.bool false)) (aQ (Ee h 0 rfl rfl) (Ee h 1 rfl rfl) rfl) (congrArg (fun b=>V.pv (.bool b)) (decide_eq_false (by omega)))) rfl (by kernel_rfl) ?_;iterate 13 refine D1 rfl rfl ?_
   refine ⟨by kernel_rfl,?_⟩;refine Gc rfl rfl (fun hc76=>absurd hc76 (by simp)) (fun hc76=>?_);exact Il<|Z2 rfl rfl rfl<|⟨(k+1),Io (aS rfl) (aO rfl) rfl rfl,by omega,by omega⟩
  ·obtain ⟨hq,hls⟩:=hprev (by omega);have hjl:=xb _ x.v (by rw [hpl hq];omega) (by omega);rw [hls] at hjl;have hpq:=hpr hq;refine Ge rfl follows [0,1,2,3,4,5,6,7,8,9,10,11,12,13,14] (by kernel_rfl)<|D1 rfl rfl<|Ds 78 [] rfl rfl rfl (fun τ h=>XJ.cast (v':= .pv (.bool true)) (aQ (Ee h 0 rfl rfl) (Ee h 1 rfl rfl) rfl) (congrArg (fun b=>V.pv (.bool b)) (decide_eq_true (by omega)))) rfl (by kernel_rfl) ?_;iterate 4 refine D1 rfl rfl ?_
   refine Dg 83 [] rfl rfl rfl rfl (fun τ h=>ag (k-1) underlying38 lM (Ee h 0 rfl rfl) (Ee h 1 rfl rfl) (by omega) hq hrn) rfl (by kernel_rfl)<|D1 rfl rfl<|Dg 85 [] rfl rfl rfl rfl (fun τ h=>ai ⟨_,underlying47,rfl⟩ (Ee h 0 rfl rfl) hpq) rfl (by kernel_rfl)<|D1 rfl rfl<|D1 rfl rfl<|Dg 88 [] rfl rfl rfl rfl (fun τ h=>ae call32 hjl (h.bt rfl)) rfl (by kernel_rfl)<|D1 rfl rfl<|D1 rfl rfl<|D1 rfl rfl ?_;refine ⟨by kernel_rfl,?_⟩;refine Gc rfl rfl (fun hc76=>absurd hc76 (by simp)) (fun hc76=>?_);exact Il<|Z2 rfl rfl rfl<|⟨(k+1),Io (aS rfl) (aO rfl) rfl rfl,by omega,by omega⟩
 ·exact Gx rfl<|Z1 rfl rfl<|Gt rfl<|⟨_,_,rfl,rfl,rfl⟩
theorem CQ (S:Sch) (hB:SB S) (hS:SJn S) (hV:cI S=0) (r:Nat) (hr:r<S.rels.length) (l:List Rw) (hl:l.length≤60) (hT:TblOk S S.rels[r].2 1 l):FnP Tryz.prog 45 [gK S,.int .i64 r,bL l] (· = .int .i64 0):=by
 refine FnP.of func45 rfl ntmps45 (by simp) fun m0 w0 F R0=>?_
 have hr:=jd S hB hS hV r hr l 60 1 (by omega) (by omega) hT;exact Z2 rfl rfl rfl<|Z3 rfl rfl rfl rfl<|Rs 10 rfl rfl (ae call83 hr rfl)<|A1 rfl<|Gt rfl<|⟨_,_,rfl,rfl,rfl⟩
theorem Cl (S:Sch) (hB:SB S) (hS:SJn S) (hV:cI S=0) (d:List (List Rw)) (hd:d.length=S.rels.length) (hl:∀ l∈d,l.length≤60) (hT:∀ r (h:r<d.length) (h2:r<S.rels.length),TblOk S S.rels[r].2 1 d[r]):FnP Tryz.prog 36 [gK S,dbP d] (· = .int .i64 0):=by
 refine FnP.of func36 rfl ntmps36 (by simp) fun m0 w0 F R0=>?_
 have hchk:=tN S hB;rw [hV] at hchk;have hSr:=hS.r;have hdl:=dH d;refine Z2 rfl rfl rfl<|Z1 rfl rfl<|Rs 10 rfl rfl (ae call81 hchk rfl)<|A1 rfl<|Z2 rfl rfl rfl ?_;refine Gc rfl rfl (fun hc12=>?_) (fun hc12=>?_)
 ·exact Z2 rfl rfl rfl<|Gt rfl<|⟨_,_,rfl,rfl,rfl⟩
 ·refine Il<|Gr rfl ?_;iterate 6 refine A1 rfl ?_
  refine Gc rfl rfl (fun hc19=>absurd hc19 (by simp;omega)) (fun hc19=>?_);refine Il<|Z3 rfl rfl rfl rfl ?_;refine Gl rfl (st:=fun x_0:Nat=>mkS [(2,.ptr 0 0),(20,.pv (dbP d)),(21,.pv (.int .i64 d.length)),(22,.pv (.int .i64 x_0))] [(0,oZ S)] 1)
   (I:=fun x_0=>x_0≤d.length) (μ:=fun x_0=>d.length-x_0) (x0:=(0)) (Io (aS rfl) (aO rfl) rfl rfl) (Nat.zero_le _) ?_
  rintro k hk;refine Z1 rfl rfl ?_;refine Gp rfl rfl (fun hc23=>?_) (fun hc23=>?_)
  ·have hlt:k<d.length:=by omega
   have htr:=cD hlt;have htn:=dN hlt;have hto:=CQ S hB hS hV k (by omega) d[k] (hl _ (List.getElem_mem hlt)) (hT k hlt (by omega));generalize d[k]=tk at*;refine Il<|Z1 rfl rfl<|Rs 25 rfl rfl (ag k underlying36 qk rfl rfl rfl hlt htn)<|Rs 26 rfl rfl (ai ⟨_,underlying38,rfl⟩ rfl htr)<|Y2 rfl rfl<|Z3 rfl rfl rfl rfl<|Rs 30 rfl rfl (ae call45 hto rfl)<|A1 rfl<|Z2 rfl rfl rfl ?_;refine Gc rfl rfl (fun hc32=>absurd hc32 (by simp)) (fun hc32=>?_);exact Il<|Z2 rfl rfl rfl<|⟨(k+1),Io (aS rfl) (aO rfl) rfl rfl,by omega,by omega⟩
  ·exact Gx rfl<|Z1 rfl rfl<|Gt rfl<|⟨_,_,rfl,rfl,rfl⟩
end
section
open Go.RowKit Mk Jn
end
section
open Go.RowKit Mk Jn
set_option maxHeartbeats 4000000
structure DbOk (S:Sch) (d:List (List Rw)):Prop where
 hB:SB S
 hc:cI S=0
 hS:SJn S
 n:d.length=S.rels.length
 l:∀ l∈d,l.length≤12
 t:∀ r (h:r<d.length) (h2:r<S.rels.length),TblOk S S.rels[r].2 1 d[r]
 zf:∀ l∈d,∀ x∈l,∀ y∈x.v,Zf y∧y.size≤10000
noncomputable abbrev jdX (S:Sch) (T:List (List Rw)):JD:=⟨S,T,ak (lstL S),[.int .i64 (-1)],[ca (planS S)]⟩
noncomputable def joinL (S:Sch) (d:List (List Rw)):List Rw:=(o9 (jdX S (bf S d)) (ordL S (lstL S))).mergeSort fun a b=> !aZ b.v a.v
theorem qz {S:Sch} {d:List (List Rw)} (h:d.length=S.rels.length):(bf S d).length=S.rels.length:=by simp [bf,h]
theorem ur {S:Sch} {d:List (List Rw)} {r:Nat} (hd:r<d.length) (hr:r<S.rels.length) (h:r<(bf S d).length):(bf S d)[r]=gF S S.rels[r].2 d[r]:=by simp [bf]
theorem qQ {S:Sch} {d:List (List Rw)} {l:List Rw} (h:l∈bf S d):∃ l'∈d,List.Sublist l l':=by
 unfold bf at h;obtain ⟨i,hi,e⟩:=List.mem_iff_getElem.1 h;rw [List.length_zipWith] at hi;refine ⟨d[i]'(by omega),List.getElem_mem _,?_⟩;rw [← e,List.getElem_zipWith];exact List.filter_sublist
section
variable {S:Sch} {d:List (List Rw)} (h:DbOk S d)
include h
theorem DbOk.val:Valid S:=jF h.hc
theorem DbOk.tab:TabOk S (bf S d) where
 n:=qz h.n
 l:=fun l hl=>by
  obtain ⟨l',h1,h2⟩:=qQ hl;exact Nat.le_trans h2.length_le (h.l l' h1)
 v:=fun r hr h2 x hx=>by
  have hd:r<d.length:=by rw [h.n];exact h2
  rw [ur hd h2] at hx;exact ((h.t r hd h2).row x (List.mem_filter.1 hx).1).l
 zf:=fun l hl x hx=>by
  obtain ⟨l',h1,h2⟩:=qQ hl;exact h.zf l' h1 x (h2.subset hx)
omit h in
theorem EF {l:List Rw} (hl:l∈bf S d):∃ (r:Nat) (hd:r<d.length) (hr:r<S.rels.length),List.Sublist l d[r]:=by
 unfold bf at hl;obtain ⟨i,hi,e⟩:=List.mem_iff_getElem.1 hl;rw [List.length_zipWith] at hi;refine ⟨i,by omega,by omega,?_⟩;rw [← e,List.getElem_zipWith];exact List.filter_sublist
theorem DbOk.dist:∀ l∈bf S d,l.Pairwise fun a b=>a.v≠b.v:=fun l hl=>by
 obtain ⟨r,hd,hr,hs⟩:=EF hl;exact List.Pairwise.sublist hs ((h.t r hd hr).asc.imp fun {a b} hab e=>by rw [e,cz] at hab;cases hab)
theorem DbOk.wts:∀ l∈bf S d,∀ x∈l,1≤x.w∧x.w≤100:=fun l hl x hx=>by
 obtain ⟨r,hd,hr,hs⟩:=EF hl;exact ((h.t r hd hr).row x (hs.subset hx)).w.2
theorem DbOk.ord:OrdOk S (ordL S (lstL S)):=G9 h.hB h.val
theorem DbOk.ctx:CtxV (jdX S (bf S d)) (ordL S (lstL S)) (planS S):=by
 have:=HF h.ord h.hS h.tab (fun a ha=>h.val.use a ha) (ak (lstL S)) [.int .i64 (-1)] [ca (planS S)];rw [← show planS S=gT S (ordL S (lstL S)) from oj h.ord] at this;exact this
theorem DbOk.out:IsJoin S (bf S d) (o9 (jdX S (bf S d)) (ordL S (lstL S))):=Hx h.ctx h.dist
theorem DbOk.hwa:(planS S).wa=aD (ordL S (lstL S)):=by rw [show planS S=gT S (ordL S (lstL S)) from oj h.ord];rfl
theorem DbOk.hho:∀ v (hv:v<(planS S).hos.length),(planS S).hos[v]=hoL S (ordL S (lstL S)) v:=by
 rw [show planS S=gT S (ordL S (lstL S)) from oj h.ord];intro v hv;simp [gT,hoL,upZ]
omit h in
theorem fh:(joinL S d).Perm (o9 (jdX S (bf S d)) (ordL S (lstL S))):=List.mergeSort_perm _ _
theorem sN:IsJoin S (bf S d) (joinL S d) where
 mem:=fun y=>by rw [(fh (S:=S) (d:=d)).mem_iff];exact h.out.mem y
 nd:=by
  have:=h.out.nd;exact (fh.pairwise_iff fun {a b} hab=>Ne.symm hab).2 this
omit h in
theorem Ek {l:List Rw} (hs:l.Pairwise fun a b=>aZ b.v a.v=false) (hn:l.Pairwise fun a b=>a.v≠b.v):Aj l:=
 (hs.and hn).imp fun {a b} ⟨h1,h2⟩=>by
  cases h3:aZ a.v b.v with
  | true=>rfl
  | false=>exact absurd (gO h3 h1) h2
theorem tG:Aj (joinL S d):=by
 refine Ek ?_ (sN h).nd;have:=List.pairwise_mergeSort (le:=fun a b:Rw=> !aZ b.v a.v) (fun a b c h1 h2=>by
  have h1':aZ b.v a.v=false:=by simpa using h1
  have h2':aZ c.v b.v=false:=by simpa using h2
  cases h3:aZ c.v a.v with
  | false=>rfl
  | true=>
    cases h4:aZ a.v b.v with
    | true=>rw [cT h3 h4] at h2';cases h2'
    | false=>rw [gO h4 h1',h2'] at h3;cases h3) (fun a b=>by
  cases h3:aZ b.v a.v with
  | false=>rfl
  | true=>
    cases h4:aZ a.v b.v with
    | false=>rfl
    | true=>have:=cT h3 h4;rw [cz] at this;cases this) (o9 (jdX S (bf S d)) (ordL S (lstL S)))
 exact this.imp fun {a b} hab=>by simpa using hab
theorem ER {l':List Rw} (hp:l'.Perm (o9 (jdX S (bf S d)) (ordL S (lstL S)))) (hs:l'.Pairwise fun a b=>aZ b.v a.v=false):l'=joinL S d:=by
 have hn:l'.Pairwise fun a b=>a.v≠b.v:=(hp.pairwise_iff fun {a b} hab=>Ne.symm hab).2 h.out.nd
 exact vd (Ek hs hn) (tG h) fun y=>by rw [hp.mem_iff,fh.mem_iff]
theorem pL:(joinL S d).length=fl bG (jdX S (bf S d)) (ordL S (lstL S)) (al (ordL S (lstL S)) (-1)) fun _=>none:=by
 rw [(fh (S:=S) (d:=d)).length_eq];exact y3 h.ctx
theorem DbOk.check:FnP Tryz.prog 36 [gK S,dbP d] (· = .int .i64 0):=Cl S h.hB h.hS h.hc d h.n (fun l hl=>by have:=h.l l hl;omega) h.t
theorem DbOk.new:FnO Tryz.prog 48 0 2 [.pv (gK S),.pv (dbP d)] [] (fun v ob'=>v= .ptr 0 0∧ob'=ar [(0,oX S (.pv (dbP (bf S d))) (.pv (ak (lstL S))) 1),(1,.mp [] [])]):=
 wG S h.hB h.val h.hS d h.n (fun l hl=>by have:=h.l l hl;omega) fun r hr h2 x hx=>((h.t r hr h2).row x hx).l
theorem DbOk.plan0:pr S (bf S d) (lstL S) [] [] (planS S):=Ax S h.hB h.val (bf S d) (lstL S) (iN S h.hB h.val).1 (planS S) (He S h.hB h.ord)
theorem DbOk.Dw:FnO Tryz.prog 49 2 0 [.ptr big 0] (jnO S (bf S d) (lstL S) [] []) (fun v ob'=>v=xg (joinL S d).length∧ob'=ar (jnO S (bf S d) (lstL S) [.int .i64 (-1)] [ca (planS S)])):=by
 have:=vD S (bf S d) (lstL S) [] [] (planS S) h.plan0 (ordL S (lstL S)) h.ctx;rw [pL h];exact this
end
def pJ (l:List Rw):PV:=if 2000<l.length then .tup [bL [],.int .i64 3] else .tup [bL l,.int .i64 0]
theorem fl_12 {S:Sch} {d:List (List Rw)} (h:DbOk S d):(joinL S d).length≤12^12:=by
 rw [pL h];have h1:=valL_le (gm (J:=jdX S (bf S d)) h.ctx.t12) ((al (ordL S (lstL S)) (-1)).map (a7 (ordL S (lstL S)) (ordL S (lstL S)).length)) (fun _=>none);have h2:=qN h.ord.dP;have h3:(ordL S (lstL S)).length≤12:=n12 h.ord;exact Nat.le_trans h1 (Nat.pow_le_pow_right (by decide) (by omega))
theorem iH (S:Sch) (d:List (List Rw)) (h:DbOk S d):FnP Tryz.prog 12 [gK S,dbP d] (· =pJ (joinL S d)):=by
 refine FnP.fg2 (FnP.of func12 rfl ntmps12 (by simp) fun m0 w0 F R0=>?_);have hchk:=h.check;have hnew:=h.new;have hsz:=h.Dw;have h12:=fl_12 h;have hll:(aj ((((joinL S d).length:Nat):Int)).natAbs).length≤1000000:=mV (ig h12 (by decide));have hof:=fO 2000 (by decide) (by decide);have hl2:(aj ((2000:Int)).natAbs).length≤1000000:=by rw [show (2000:Int).natAbs=2000 from rfl];exact mV (a:=2000) (ig (k:=4) (by decide) (by decide))
 have hcmp:=gl (((joinL S d).length:Nat):Int) 2000 hll hl2;have hpl:=Cm S (bf S d) (lstL S) (planS S);have hol:(o9 (jdX S (bf S d)) (ordL S (lstL S))).length=(joinL S d).length:=fh.length_eq.symm;have htup:=fun hll=>sy S (bf S d) (lstL S) [.int .i64 (-1)] [ca (planS S)] (planS S) hpl (ordL S (lstL S)) h.ctx h.dist h.wts h.val.r2 h.hwa h.hho (o9 (jdX S (bf S d)) (ordL S (lstL S))) rfl hll
 have hvl:∀ x∈o9 (jdX S (bf S d)) (ordL S (lstL S)),x.v.length≤1000000:=fun x hx=>by
  have:=((h.out.mem x).1 hx).1;have:=h.hB.a;omega
 have hsrt:=fun hll=>w7 (o9 (jdX S (bf S d)) (ordL S (lstL S))) hll hvl
 have hjo:=fun l'=>ER (l':=l') h
 have hbp:∀ l,pJ l=if 2000<l.length then .tup [bL [],.int .i64 3] else .tup [bL l,.int .i64 0]:=fun l=>rfl
 clear h12 hll hl2 hvl hpl;generalize joinL S d=JL at*;generalize o9 (jdX S (bf S d)) (ordL S (lstL S))=OL at*;refine Z3 rfl rfl rfl rfl<|Z2 rfl rfl rfl<|Rs 11 rfl rfl (ae call36 hchk rfl)<|A1 rfl<|Z2 rfl rfl rfl ?_;refine Gc rfl rfl (fun hc13=>absurd hc13 (by simp)) (fun hc13=>?_);refine Il<|Z2 rfl rfl rfl<|Rs 17 rfl rfl (ah [] 1 call48 hnew rfl rfl rfl rfl trivial (by decide) rfl)<|A1 rfl<|Wk [(7,.ptr 1 0)] [(1,oX S (.pv (dbP (bf S d))) (.pv (ak (lstL S))) 2),(2,.mp [] [])] 3 (aS (by kernel_rfl)) (aO (by kernel_rfl)) rfl rfl<|Z1 rfl rfl<|Rs 19 rfl rfl (ah [1,2] 3 call49 hsz rfl rfl rfl rfl ⟨by kernel_rfl,by kernel_rfl,trivial⟩ (by decide) rfl) ?_;refine Rs 20 rfl rfl (ae call51 hof rfl)<|Rs 21 rfl rfl (ae call50 hcmp rfl)<|A1 rfl<|Wk [(7,.ptr 1 0),(22,.pv (.bool (decide (((((JL.length:Nat):Int))-2000).sign>0))))] [(1,oX S (.pv (dbP (bf S d))) (.pv (ak (lstL S))) 2),(2,.mp [.int .i64 (-1)] [ca (planS S)])] 3 (aS (by kernel_rfl)) (aO (by kernel_rfl)) rfl rfl ?_;refine Gp rfl rfl (fun hc22=>?_) (fun hc22=>?_)
 ·have hbig:2000<JL.length:=by
   have:0<(((JL.length:Nat):Int)-2000).sign:=hc22;have:=Int.sign_pos_iff.1 this;omega
  exact Z2 rfl rfl rfl<|Gt rfl<|⟨_,_,rfl,rfl,by rw [hbp,if_pos hbig];rfl⟩
 ·have hsm:¬ 2000<JL.length:=fun hb=>hc22 (by
   have:0<(((JL.length:Nat):Int)-2000).sign:=Int.sign_pos_iff.2 (by omega);exact this)
  have htu:=htup (by omega);have hso:=hsrt (by omega);refine Il<|Z1 rfl rfl<|Rs 24 rfl rfl (ah [1,2] 3 call52 htu rfl rfl rfl rfl ⟨by kernel_rfl,by kernel_rfl,trivial⟩ (by decide) rfl) ?_;refine A1 rfl<|Wk [(8,.gsl 3 2 OL.length)] [(3,jz OL)] 4 (aS (by kernel_rfl)) (aO (by kernel_rfl)) rfl rfl<|Z1 rfl rfl ?_;refine RL.call rfl (dU (os:=[(big,jz OL)]) [3] 4 call53 (args:=[.gsl big 2 OL.length,.pv (.fn (.func 54) [] [])]) (k':=0) (by kernel_rfl) (by kernel_rfl) (by kernel_rfl) (by kernel_rfl) ⟨by kernel_rfl,trivial⟩ (by decide) (by kernel_rfl) hso fun v ob' hv=>?_);obtain ⟨l',hp',hs',rfl,rfl⟩:=hv;have hle:=hp'.length_eq;have hje:=hjo l' hp' hs';refine Wk [(8,.gsl 3 2 OL.length)] [(3,jz l')] 4 (aS (by kernel_rfl)) (aO (by kernel_rfl)) rfl rfl ?_;subst hje;exact Im (Ir 3 rfl rfl)<|Z3 rfl rfl rfl rfl<|Gt rfl<|⟨_,_,rfl,rfl,by rw [hbp,if_neg hsm, ← hle];rfl⟩
theorem En:∀ k n,n<10^(k+1)→(Lib.decDigits n).length≤k+1
 | 0,n,h=>by rw [Lib.decDigits,dif_pos (by omega)];simp
 | k+1,n,h=>by
   rw [Lib.decDigits];split
   ·simp
   ·have:=En k (n/10) (by rw [Nat.pow_succ] at h;omega);simp only [List.length_append,List.length_singleton];omega
theorem Ff {n:Nat} (h:n<1000000000):(Lib.decDigits n).length≤1000:=by
 have:=En 8 n (by simpa using h);omega
theorem mI (S:Sch) (d:List (List Rw)) (h:DbOk S d) (hn:(joinL S d).length<1000000000):FnP Tryz.prog 13 [gK S,dbP d] (· = .tup [.str ⟨(Lib.decDigits (joinL S d).length).toArray⟩,.int .i64 0]):=by
 refine FnP.of func13 rfl ntmps13 (by simp) fun m0 w0 F R0=>?_
 have hchk:=h.check;have hnew:=h.new;have hsz:=h.Dw;have hst:=lF (joinL S d).length hn (Ff hn);generalize joinL S d=JL at*;refine Z3 rfl rfl rfl rfl<|Z2 rfl rfl rfl<|Rs 9 rfl rfl (ae call36 hchk rfl)<|A1 rfl<|Z2 rfl rfl rfl ?_;refine Gc rfl rfl (fun hc11=>absurd hc11 (by simp)) (fun hc11=>?_);refine Il<|Z2 rfl rfl rfl<|Rs 15 rfl rfl (ah [] 1 call48 hnew rfl rfl rfl rfl trivial (by decide) rfl)<|Rs 16 rfl rfl (ah [1,2] 3 call49 hsz rfl rfl rfl rfl ⟨by kernel_rfl,by kernel_rfl,trivial⟩ (by decide) rfl) ?_;exact Rs 17 rfl rfl (ae call55 hst rfl)<|Y2 rfl rfl<|Gt rfl<|⟨_,_,rfl,rfl,rfl⟩
end
section
open Go.RowKit Mk Jn
set_option maxHeartbeats 4000000
theorem Bv (S:Sch) (hB:SB S) (hS:SJn S) (hV:cI S=0) (r:Nat) (hr:r<S.rels.length) (l:List Rw) (hl:l.length≤120) (hT:TblOk S S.rels[r].2 (-100) l):FnP Tryz.prog 40 [gK S,.agg [.int .i64 r,bL l]] (· = .int .i64 0):=by
 refine FnP.of func40 rfl ntmps40 (by simp) fun m0 w0 F R0=>?_
 have hro:=jd S hB hS hV r hr l 120 (-100) (by omega) (by omega) hT;refine Z3 rfl rfl rfl rfl<|Gr rfl ?_;iterate 5 refine A1 rfl ?_
 exact Rs 10 rfl rfl (ae call83 hro rfl)<|A1 rfl<|Gt rfl<|⟨_,_,rfl,rfl,rfl⟩
theorem wB (S:Sch) (d:List (List Rw)) (h:DbOk S d) (r:Nat) (hrd:r<d.length) (hr:r<S.rels.length) (x:List Rw) (hx:TblOk S S.rels[r].2 (-100) x) (hxl:x.length<8) (hne:d[r]≠[]) (hs:CU (d[r]++x)) (hA:S.rels[r].2.length≤1000)
  (nx:List Rw) (hnx:(((d[r]++x).foldl mgR []).filter fun x=> !isZ x)=nx) (hok:(nx.any fun x=>decide (x.w<0)||decide (x.w>100))=false) (hnl:nx.length≤60) (hnv:∀ y∈nx,y.v.length≤1000∧ -1000000≤y.w∧y.w≤1000000):
  FnP Tryz.prog 24 [gK S,dbP d,.agg [.int .i64 r,bL x]] (· = .tup [dbP (d.set r nx),.int .i64 0]):=by
 refine FnP.fg2 (FnP.of func24 rfl ntmps24 (by simp) fun m0 w0 F R0=>?_);have hchk:=h.check;have hdel:=Bv S h.hB h.hS h.hc r hr x (by omega) hx;have htr:=cD hrd;have htn:=dN hrd;have hrow:∀ k (hk:k<d.length),d[k].length≤12∧∀ y∈d[k],y.v.length≤1000∧ -1000000≤y.w∧y.w≤1000000:=fun k hk=>by
  have hk2:k<S.rels.length:=by have:=h.n;omega
  refine ⟨h.l _ (List.getElem_mem hk),fun y hy=>?_⟩;have:=(h.t k hk hk2).row y hy;have hsl:=h.hS.l _ (List.getElem_mem hk2);have hwl:=this.l;have hww:=this.w;exact ⟨by omega,by omega,by omega⟩
 have hxr:∀ y∈x,y.v.length≤1000∧ -1000000≤y.w∧y.w≤1000000:=fun y hy=>by
  have:=hx.row y hy;have hwl:=this.l;have hww:=this.w;exact ⟨by omega,by omega,by omega⟩
 have hdr:=hrow r hrd;have hcp:=mw d[r] 1 (by omega) (fun y hy=>(hdr.2 y hy).1) (fun y hy=>by have:=hdr.2 y hy;omega);rw [iT] at hcp;have hall:∀ y∈d[r]++x,y.v.length≤1000∧ -1000000≤y.w∧y.w≤1000000:=fun y hy=>by
  rcases List.mem_append.1 hy with hy | hy
  ·exact hdr.2 y hy
  ·exact hxr y hy
 have hso:=wK (d[r]++x) (by simp [hne]) (by rw [List.length_append];omega) hs (fun y hy=>(hall y hy).1) (fun y hy=>(hall y hy).2);rw [hnx] at hso;have hco:=v8 nx (by omega) 67 _ call67 (fun y _=>su y);rw [hok] at hco;have hsn:(d.set r nx).length=d.length:=List.length_set;have hcps:∀ k (hk:k<d.length),FnP Tryz.prog 65 [bL ((d.set r nx)[k]'(by omega)),.int .i64 1] (· =bL ((d.set r nx)[k]'(by omega))):=fun k hk=>by
  have:=zT ((d.set r nx)[k]'(by omega)) 1;rw [iT] at this;rw [List.getElem_set] at this ⊢;by_cases e:r=k
  ·rw [if_pos e] at this ⊢;exact this (by omega) (fun y hy=>(hnv y hy).1) (fun y hy=>by have:=hnv y hy;omega)
  ·rw [if_neg e] at this ⊢;have hk2:=hrow k hk;exact this (by omega) (fun y hy=>(hk2.2 y hy).1) (fun y hy=>by have:=hk2.2 y hy;omega)
 have hdl:=dH d;have hdn:d.length≤1000:=by have:=h.n;have:=h.hS.r;omega
 have hrp:0<d[r].length:=List.length_pos_iff.2 hne;have hrc:=aK d[r];have hxc:=aK x;have hxlf:=dw x;have hxa:=fj d[r] x;have hge:∀ k (hk:k<d.length),((d.set r nx)[k]'(by omega))=if r=k then nx else d[k]:=fun k hk=>List.getElem_set ..
 have hel:r<d.length:=hrd;have hdr12:=hdr.1;have hso2:FnP Tryz.prog 25 [.sl none (d[r].length+x.length) (aB d[r]++aB x)] (· =bL nx):=by rw [← hxa, ← List.length_append];exact hso
 clear hrow hdr hall hnx hs hok hxr;refine Z4 rfl rfl rfl rfl rfl<|Z2 rfl rfl rfl<|Rs 16 rfl rfl (ae call36 hchk rfl)<|A1 rfl<|Z2 rfl rfl rfl ?_;refine Gc rfl rfl (fun hc18=>absurd hc18 (by simp)) (fun hc18=>?_);refine Il<|Z2 rfl rfl rfl<|Rs 22 rfl rfl (ae call40 hdel rfl)<|A1 rfl<|Z2 rfl rfl rfl ?_;refine Gc rfl rfl (fun hc24=>absurd hc24 (by simp)) (fun hc24=>?_);refine Il<|Ge rfl follows [0,1,2,3,4,5,6,7,8,9,10] (by kernel_rfl)<|D1 rfl rfl<|D1 rfl rfl<|D1 rfl rfl<|Ds 29 [] rfl rfl rfl (fun τ h=>ag r underlying36 qk (Ee h 0 rfl rfl) (Ee h 1 rfl rfl) rfl hrd htn) rfl (by kernel_rfl)<|Ds 30 [] rfl rfl rfl (fun τ h=>ai ⟨_,underlying38,rfl⟩ (Ee h 0 rfl rfl) htr) rfl (by kernel_rfl)<|Ds 31 [] rfl rfl rfl (fun τ h=>ah [] 2 call65 hcp (h.args.trans rfl) rfl rfl rfl trivial (by decide) ((Bool.and_true _).trans (h.n 0 _ rfl))) rfl (by kernel_rfl)<|D1 rfl rfl<|D1 rfl rfl<|Ds 34 [2] rfl rfl rfl (fun τ h=>sG xi (Ee h 0 rfl rfl) (Eo h 0 rfl rfl) hrc (.inl ⟨none,(Ee h 1 rfl rfl)⟩) hxc hxlf (by omega) hrp) rfl (by kernel_rfl)<|Ds 35 [] rfl rfl rfl (fun τ h=>ae call25 hso2 (h.bt rfl)) rfl (by kernel_rfl)<|D1 rfl rfl ?_;refine ⟨by kernel_rfl,?_⟩;refine Wk [(1,.pv (dbP d)),(5,.ptr 1 0),(10,.pv (bL nx))] [(1,.mix 59 [.pv (.int .i64 r),.pv (bL x)])] 2 (aS (by kernel_rfl)) (aO (by kernel_rfl)) rfl rfl<|Z1 rfl rfl<|Rs 37 rfl rfl (ae call66 hco rfl) ?_;refine Gc rfl rfl (fun hc37=>absurd hc37 (by simp)) (fun hc37=>?_);refine Il<|Z3 rfl rfl rfl rfl ?_;refine Gp rfl rfl (fun hc40=>absurd hc40 (by omega)) (fun hc40=>?_);refine Il<|Z1 rfl rfl<|Im (Iu 11 2 1 38 rfl rfl)<|Z3 rfl rfl rfl rfl ?_;refine Gl rfl (st:=fun x_0:Nat×List (List Rw)=>mkS [(5,.ptr 1 0),(10,.pv (bL nx)),(11,.gsl 2 1 x_0.2.length),(41,.pv (dbP d)),(42,.pv (.int .i64 d.length)),(43,.pv (.int .i64 x_0.1))] [(1,.mix 59 [.pv (.int .i64 r),.pv (bL x)]),(2,.gro 38 (dv x_0.2))] 3)
  (I:=fun x_0=>x_0.1≤d.length∧x_0.2=(d.set r nx).take x_0.1) (μ:=fun x_0=>d.length-x_0.1) (x0:=(0,[])) (Io (aS rfl) (aO (by kernel_rfl)) rfl rfl) (⟨Nat.zero_le _,rfl⟩) ?_
 rintro ⟨k,q⟩ ⟨hk,hq⟩;try simp only at hk hq ⊢
 refine Z1 rfl rfl ?_;refine Gp rfl rfl (fun hc44=>?_) (fun hc44=>?_)
 ·have hlt:k<d.length:=by omega
  have htk:=cD hlt;have htkn:=dN hlt;have hck:=hcps k hlt;have hqs:(d.set r nx).take (k+1)=q++[(d.set r nx)[k]'(by omega)]:=by rw [List.take_succ_eq_append_getElem (by omega),hq]
  have hgk:=hge k hlt;have hql:(dv q).length=q.length*1:=dH q;have hqn:q.length=k:=by rw [hq,List.length_take];omega
  refine Il<|Z1 rfl rfl<|Rs 46 rfl rfl (ag k underlying36 qk rfl rfl rfl hlt htkn)<|Rs 47 rfl rfl (ai ⟨_,underlying38,rfl⟩ rfl htk)<|Y2 rfl rfl<|Z4 rfl rfl rfl rfl rfl ?_;refine Gc rfl rfl (fun hc51=>?_) (fun hc51=>?_)
  ·have hkr0:(k:Int)=r:=by simpa using hc51
   have hkr:r=k:=by omega
   rw [if_pos hkr] at hgk;rw [hgk] at hck hqs;have hsn2:=jE q nx;exact Z2 rfl rfl rfl<|Z2 rfl rfl rfl<|Rs 55 rfl rfl (ae call65 hck rfl)<|Y3 rfl rfl rfl<|Z2 rfl rfl rfl<|⟨(k+1,q++[nx]),Ip [0,1,4] ⟨rfl,rfl,Eq.trans (b:=V.gsl 4 1 (q.length+1)) (by kernel_rfl) (congrArg (fun n=>V.gsl 4 1 n) (bW q nx)),rfl,rfl,rfl,trivial⟩ ⟨by kernel_rfl,Eq.trans (b:=some (Ob.gro 38 (dv q++[bL nx]))) (by kernel_rfl) (congrArg (fun c=>some (Ob.gro 38 c)) hsn2),trivial⟩ rfl rfl (by decide) rfl,⟨by simp only;omega,by simp only;rw [hqs]⟩,by simp only;omega⟩
  ·have hkr:¬ r=k:=fun e=>by subst e;simp at hc51
   rw [if_neg hkr] at hgk;rw [hgk] at hck hqs;have hsn2:=jE q d[k];exact Il<|Z2 rfl rfl rfl<|Rs 55 rfl rfl (ae call65 hck rfl)<|Y3 rfl rfl rfl<|Z2 rfl rfl rfl<|⟨(k+1,q++[d[k]]),Ip [0,1,4] ⟨rfl,rfl,Eq.trans (b:=V.gsl 4 1 (q.length+1)) (by kernel_rfl) (congrArg (fun n=>V.gsl 4 1 n) (bW q d[k])),rfl,rfl,rfl,trivial⟩ ⟨by kernel_rfl,Eq.trans (b:=some (Ob.gro 38 (dv q++[bL d[k]]))) (by kernel_rfl) (congrArg (fun c=>some (Ob.gro 38 c)) hsn2),trivial⟩ rfl rfl (by decide) rfl,⟨by simp only;omega,by simp only;rw [hqs]⟩,by simp only;omega⟩
 ·have hqf:q=d.set r nx:=by rw [hq,List.take_of_length_le (by omega)]
  exact Gx rfl<|Im (Ir 2 rfl rfl)<|Z3 rfl rfl rfl rfl<|Gt rfl<|⟨_,_,rfl,rfl,by rw [hqf];rfl⟩
theorem vK (a:List Rw) (ha:a.length≤1000000) (hv:∀ x∈a,x.v.length≤1000000):FnP Tryz.prog 19 [bL a,bL a] (· = .bool true):=by
 refine FnP.of func19 rfl ntmps19 (by simp) fun m0 w0 F R0=>?_
 refine Z1 rfl rfl<|Gr rfl ?_;iterate 5 refine A1 rfl ?_
 refine Gc rfl rfl (fun hc10=>absurd hc10 (by simp)) (fun hc10=>?_);refine Il<|Z3 rfl rfl rfl rfl ?_;refine Gl rfl (st:=fun x_0:Nat=>mkS [(0,.pv (bL a)),(1,.pv (bL a)),(12,.pv (.int .i64 a.length)),(13,.pv (.int .i64 x_0))] [] 0)
  (I:=fun x_0=>x_0≤a.length) (μ:=fun x_0=>a.length-x_0) (x0:=(0)) (Io (aS rfl) trivial rfl rfl) (Nat.zero_le _) ?_
 rintro k hk;refine Z1 rfl rfl ?_;refine Gp rfl rfl (fun hc14=>?_) (fun hc14=>?_)
 ·have hlt:k<a.length:=by omega
  have hov:(aB a)[k*2+0]? =some (aI a[k].v):=nr hlt;have how:=s5 hlt;have hne:=aW hlt;have htx:=mO a[k].v a[k].v (hv _ (List.getElem_mem hlt)) (hv _ (List.getElem_mem hlt));rw [show decide (a[k].v=a[k].v)=true from decide_eq_true rfl] at htx;generalize a[k]=x at*;refine Il<|Z2 rfl rfl rfl<|Ge rfl follows [0,1,2,3,4,5,6,7,8,9,10,11,12,13,14,15,16,17,18,19,20,21,22,23,24] (by kernel_rfl)<|D1 rfl rfl<|D1 rfl rfl<|Ds 18 [] rfl rfl rfl (fun τ h=>ag k underlying38 lM (Ee h 0 rfl rfl) (Ee h 1 rfl rfl) rfl hlt hne) rfl (by kernel_rfl)<|D1 rfl rfl<|Ds 20 [] rfl rfl rfl (fun τ h=>ai ⟨_,underlying3,rfl⟩ (Ee h 0 rfl rfl) how) rfl (by kernel_rfl)<|D1 rfl rfl<|D1 rfl rfl<|Ds 23 [] rfl rfl rfl (fun τ h=>ag k underlying38 lM (Ee h 0 rfl rfl) (Ee h 1 rfl rfl) rfl hlt hne) rfl (by kernel_rfl)<|D1 rfl rfl<|Ds 25 [] rfl rfl rfl (fun τ h=>ai ⟨_,underlying3,rfl⟩ (Ee h 0 rfl rfl) how) rfl (by kernel_rfl)<|Ds 26 [] rfl rfl rfl (fun τ h=>XJ.cast (v':= .pv (.bool false)) (aQ (Ee h 0 rfl rfl) (Ee h 1 rfl rfl) rfl) (congrArg (fun b=>V.pv (.bool b)) (by simp))) rfl (by kernel_rfl)<|D1 rfl rfl<|D1 rfl rfl<|D1 rfl rfl<|Dg 30 [] rfl rfl rfl rfl (fun τ h=>ag k underlying38 lM (Ee h 0 rfl rfl) (Ee h 1 rfl rfl) rfl hlt hne) rfl (by kernel_rfl)<|D1 rfl rfl<|Dg 32 [] rfl rfl rfl rfl (fun τ h=>ai ⟨_,underlying47,rfl⟩ (Ee h 0 rfl rfl) hov) rfl (by kernel_rfl)<|D1 rfl rfl<|D1 rfl rfl<|Dg 35 [] rfl rfl rfl rfl (fun τ h=>ag k underlying38 lM (Ee h 0 rfl rfl) (Ee h 1 rfl rfl) rfl hlt hne) rfl (by kernel_rfl)<|D1 rfl rfl<|Dg 37 [] rfl rfl rfl rfl (fun τ h=>ai ⟨_,underlying47,rfl⟩ (Ee h 0 rfl rfl) hov) rfl (by kernel_rfl)<|Dg 38 [] rfl rfl rfl rfl (fun τ h=>ae call63 htx (h.bt rfl)) rfl (by kernel_rfl)<|D1 rfl rfl<|D1 rfl rfl ?_;refine ⟨by kernel_rfl,?_⟩;refine Gc rfl rfl (fun hc40=>absurd hc40 (by simp)) (fun hc40=>?_);exact Il<|Z2 rfl rfl rfl<|⟨(k+1),Io (aS rfl) trivial rfl rfl,by omega,by omega⟩
 ·exact Gx rfl<|Z1 rfl rfl<|Gt rfl<|⟨_,_,rfl,rfl,rfl⟩
end
section
open Go.RowKit Mk Jn
set_option maxHeartbeats 4000000
abbrev tA:ByteArray:=⟨#[97]⟩
abbrev tB:ByteArray:=⟨#[98]⟩
abbrev tC:ByteArray:=⟨#[99]⟩
abbrev tX:ByteArray:=⟨#[120]⟩
abbrev t1:ByteArray:=⟨#[49]⟩
abbrev t2:ByteArray:=⟨#[50]⟩
def prS:Sch:=⟨[(tA,1),(tB,3),(tC,1)],[(⟨#[114]⟩,[0,1]),(⟨#[113]⟩,[1,2])],[], -1⟩
def prD:List (List Rw):=[[⟨[t1,tX],2⟩],[⟨[tX,t2],3⟩]]
def prJ:List Rw:=[⟨[t1,tX,t2],6⟩]
theorem DX (nm:ByteArray):FnP Tryz.prog 179 [.agg [.str nm,.int .i64 1],.str t1] (· = .bool true):=kG nm t1 (.inr ⟨by kernel_rfl,by decide+kernel⟩)
theorem Hm (nm:ByteArray):FnP Tryz.prog 179 [.agg [.str nm,.int .i64 1],.str t2] (· = .bool true):=kG nm t2 (.inr ⟨by kernel_rfl,by decide+kernel⟩)
theorem Gn (nm:ByteArray):FnP Tryz.prog 179 [.agg [.str nm,.int .i64 3],.str tX] (· = .bool true):=qW nm tX (.inr ⟨by kernel_rfl,by decide⟩)
theorem E1 (low:Int) (hl:low≤ -2) (w:Int) (hw:w≠0∧ -2≤w∧w≤100):RowOk prS [0,1] low ⟨[t1,tX],w⟩:=by
 refine ⟨rfl,fun i h h2 nm=>?_,by simp only;omega⟩;match i,h with
 | 0,_=>exact DX nm
 | 1,_=>exact Gn nm
theorem Da:RowOk prS [0,1] 1 ⟨[t1,tX],2⟩:=by
 refine ⟨rfl,fun i h h2 nm=>?_,by decide⟩;match i,h with
 | 0,_=>exact DX nm
 | 1,_=>exact Gn nm
theorem Fo:RowOk prS [1,2] 1 ⟨[tX,t2],3⟩:=by
 refine ⟨rfl,fun i h h2 nm=>?_,by decide⟩;match i,h with
 | 0,_=>exact Gn nm
 | 1,_=>exact Hm nm
theorem pr_sb:SB prS:=⟨by decide,by decide,by decide,by decide,by decide,by decide⟩
theorem El:cI prS=0:=by kernel_rfl
theorem pr_sj:SJn prS:=zq (jF El) (by decide) (by decide)
theorem EN {y:ByteArray} (h:y.data.toList.all (· !=0)=true):Zf y:=fun hm=>by
 have:=List.all_eq_true.1 h _ hm;simp at this
theorem w6:DbOk prS prD where
 hB:=pr_sb
 hc:=El
 hS:=pr_sj
 n:=rfl
 l:=by decide
 t:=fun r h h2=>by
  match r,h with
  | 0,_=>
    refine ⟨fun x hx=>?_,List.pairwise_singleton _ _⟩;obtain rfl:=List.mem_singleton.1 hx;exact Da
  | 1,_=>
    refine ⟨fun x hx=>?_,List.pairwise_singleton _ _⟩;obtain rfl:=List.mem_singleton.1 hx;exact Fo
 zf:=fun l hl x hx y hy=>by
  simp only [prD,List.mem_cons,List.not_mem_nil,or_false] at hl;rcases hl with rfl | rfl
  ·obtain rfl:=List.mem_singleton.1 hx;simp only [List.mem_cons,List.not_mem_nil,or_false] at hy;rcases hy with rfl | rfl<;>exact ⟨EN (by decide),by decide⟩
  ·obtain rfl:=List.mem_singleton.1 hx;simp only [List.mem_cons,List.not_mem_nil,or_false] at hy;rcases hy with rfl | rfl<;>exact ⟨EN (by decide),by decide⟩
theorem FB:bf prS prD=prD:=by kernel_rfl
theorem pr_is:IsJoin prS prD prJ where
 mem:=fun y=>by
  rw [show iL prS prD=[([0,1],[⟨[t1,tX],2⟩]),([1,2],[⟨[tX,t2],3⟩])] from rfl];simp only [Ez,List.mem_singleton,prJ];constructor
  ·rintro rfl;exact ⟨rfl,_,rfl,rfl,_,⟨_,rfl,rfl,1,rfl,rfl⟩,rfl⟩
  ·rintro ⟨hl,x,rfl,e1,w',⟨z,rfl,e2,w2,rfl,rfl⟩,e3⟩;obtain ⟨v,w⟩:=y;match v,hl with
   | [a,b,c],_=>
     simp only [List.map_cons,List.map_nil] at e1 e2;injection e1 with h1 e1
     injection e1 with h2 e1
     injection e2 with h3 e2
     injection e2 with h4 e2
     have k1:a=t1:=h1;have k2:b=tX:=h2;have k4:c=t2:=h4;have k5:w=6:=e3;rw [k1,k2,k4,k5]
 nd:=List.pairwise_singleton _ _
theorem xB:joinL prS prD=prJ:=by
 have h:=sN w6;rw [FB] at h;exact vd (tG w6) (List.pairwise_singleton _ _) fun y=>by rw [h.mem,pr_is.mem]
theorem AU:FnP Tryz.prog 47 [] (· = .tup [gK prS,dbP prD]):=by
 refine FnP.fg2 (FnP.ofC func47 rfl ntmps47 (by simp) fun m0 w0 F R0=>?_);exact Z2 rfl rfl rfl<|Z3 rfl rfl rfl rfl<|Rs 6 rfl rfl (aq none (by simp) el28 rfl (by decide) (by decide) rfl rfl)<|Rs 7 rfl rfl (aq none (by simp) xj rfl (by decide) (by decide) rfl rfl)<|A1 rfl<|Rs 9 rfl rfl (aq none (by simp) xj rfl (by decide) (by decide) rfl rfl)<|A1 rfl<|Rs 11 rfl rfl (aq none (by simp) el31 rfl (by decide) (by decide) rfl rfl)<|Y3 rfl rfl rfl<|Z1 rfl rfl<|Rs 14 rfl rfl (aq none (by simp) uq rfl (by decide) (by decide) rfl rfl)<|A1 rfl<|Rs 16 rfl rfl (aq none (by simp) xi rfl (by decide) (by decide) rfl rfl)<|Rs 17 rfl rfl (aq none (by simp) uq rfl (by decide) (by decide) rfl rfl)<|A1 rfl<|Rs 19 rfl rfl (aq none (by simp) xi rfl (by decide) (by decide) rfl rfl)<|Rs 20 rfl rfl (aq none (by simp) el36 rfl (by decide) (by decide) rfl rfl)<|Y2 rfl rfl<|Gt rfl<|⟨_,_,rfl,rfl,⟨aY ⟨_,underlying34,rfl⟩ sz34 rfl rfl rfl,trivial⟩,rfl⟩
theorem HH:TblOk prS [0,1] (-100) [⟨[t1,tX], -2⟩]:=by
 refine ⟨fun x hx=>?_,List.pairwise_singleton _ _⟩;obtain rfl:=List.mem_singleton.1 hx;exact E1 (-100) (by decide) (-2) (by decide)
theorem CD:FnP Tryz.prog 24 [gK prS,dbP prD,.agg [.int .i64 0,bL [⟨[t1,tX], -2⟩]]] (· = .tup [dbP (prD.set 0 []),.int .i64 0]):=
 wB prS prD w6 0 (by decide) (by decide) [⟨[t1,tX], -2⟩] HH (by decide) (by simp [prD]) (by
  show CU [⟨[t1,tX],2⟩,⟨[t1,tX], -2⟩];refine List.pairwise_pair.2 ?_;exact cz _) (by decide) [] (by kernel_rfl) rfl (by decide) (fun y hy=>by simp at hy)
theorem pX:FnP Tryz.prog 9 [] (· = .bool true):=by
 refine FnP.of func9 rfl ntmps9 (by simp) fun m0 w0 F R0=>?_
 have hbu:=iH prS prD w6;have hsi:=mI prS prD w6 (by rw [xB];decide);rw [xB] at hbu hsi;rw [show pJ prJ= .tup [bL prJ,.int .i64 0] from rfl] at hbu;rw [show (⟨(Lib.decDigits prJ.length).toArray⟩:ByteArray)=⟨#[49]⟩ by rw [Lib.decDigits,dif_pos (by decide)];rfl] at hsi;have hro:=vK prJ (by decide) (by decide);have hch:=w6.check;refine Z1 rfl rfl<|Gr rfl<|Rs 10 rfl rfl (ae call47 AU rfl) ?_;iterate 6 refine A1 rfl ?_
 refine Z2 rfl rfl rfl<|Rs 16 rfl rfl (ae call12 hbu rfl) ?_;iterate 5 refine A1 rfl ?_
 refine Z2 rfl rfl rfl<|Rs 22 rfl rfl (ae call13 hsi rfl) ?_;iterate 5 refine A1 rfl ?_
 refine Z2 rfl rfl rfl<|Rs 28 rfl rfl (aq none (by simp) uq rfl (by decide) (by decide) rfl rfl)<|A1 rfl<|Rs 30 rfl rfl (aq none (by simp) xi rfl (by decide) (by decide) rfl rfl)<|A1 rfl<|Rs 32 rfl rfl (ae call24 CD rfl) ?_;iterate 5 refine A1 rfl ?_
 refine Z4 rfl rfl rfl rfl rfl<|Rg 39 rfl rfl rfl (aq none (by simp) uq rfl (by decide) (by decide) rfl rfl)<|A1 rfl<|Rg 41 rfl rfl rfl (aq none (by simp) xi rfl (by decide) (by decide) rfl rfl)<|Rg 42 rfl rfl rfl (ae call19 hro rfl) ?_;iterate 7 refine A1 rfl ?_
 refine Rg 50 rfl rfl rfl (XJ.cast (v':= .pv (.bool true)) (cF rfl rfl rfl) (congrArg (fun b=>V.pv (.bool b)) (beq_self_eq_true _))) ?_;iterate 12 refine A1 rfl ?_
 refine Rg 63 rfl rfl rfl (ag 0 underlying36 qk rfl rfl rfl (by decide) (by simp [dv,prD]))<|Rg 64 rfl rfl rfl (ai (v:=bL []) ⟨_,underlying38,rfl⟩ rfl rfl) ?_;iterate 6 refine A1 rfl ?_
 exact Rg 71 rfl rfl rfl (ae call36 hch rfl)<|Y3 rfl rfl rfl<|Gt rfl<|⟨_,_,rfl,rfl,rfl⟩
end
section
open Go.RowKit Mk Jn
set_option maxHeartbeats 4000000
theorem E4 {v:ByteArray} {kd:Int} (h:v∈gX kd):Zf v∧v.size≤10000:=by
 have hz:∀ l:List ByteArray,(∀ y∈l,y.data.toList.all (· !=0)=true∧y.size≤10000)→v∈l→Zf v∧v.size≤10000:=fun l hl hm=>⟨EN (hl v hm).1,(hl v hm).2⟩
 unfold gX at h;split at h
 ·exact hz _ (by decide) h
 ·split at h
  ·exact hz _ (by decide) h
  ·exact hz _ (by decide) h
theorem GK {l:List Rw} {B:Int} (h:∀ x∈l,x.w≤B):o0 l≤B*l.length:=by
 unfold o0;induction l with
 | nil=>simp
 | cons x l ih=>
   have h1:=h x (by simp);have h2:=ih fun y hy=>h y (by simp [hy])
   simp only [List.map_cons,List.sum_cons,List.length_cons];rw [Int.natCast_add,Int.mul_add];have:B*((1:Nat):Int)=B:=by simp
   omega
theorem nY {S:Sch} {A:List Int} (hk:∀ a∈S.attrs,a.2=1∨a.2=2∨a.2=3) (hA:∀ a∈A,0≤a∧a<S.attrs.length) {most:Nat} (hm:most≤20) {l:List Rw} (h:MdT S A most l):TblOk S A 1 l∧l.length≤most∧(∀ x∈l,∀ y∈x.v,Zf y∧y.size≤10000)∧∀ x∈l,x.w≤5*most:=by
 obtain ⟨l0,rfl,hl,hx⟩:=h;have hp:∀ z∈l0,0<z.w:=fun z hz=>by have:=(hx z hz).1;omega
 have hs:=tU hp;have ht:o0 l0≤5*l0.length:=GK fun x hx'=>(hx x hx').1.2
 have hmd:∀ x∈lH l0,MdV S A x.v:=fun x hx'=>by
  obtain ⟨z,hz,e⟩:=hs.val x hx';rw [e];exact (hx z hz).2
 have hw5:∀ x∈lH l0,x.w≤5*most:=fun x hx'=>by
  have h1:=zR (hs.pos hp) x hx';rw [hs.tot] at h1;omega
 refine ⟨⟨fun x hx'=>⟨(hmd x hx').1,fun i h1 h2 nm=>?_,?_⟩,hs.asc⟩,Nat.le_trans hs.len hl,fun x hx' y hy=>?_,hw5⟩
 ·have hv:=(hmd x hx').2 i h1 h2;have hr:=hA _ (List.getElem_mem h2);refine we nm _ _ ?_ hv;have hlt:A[i].toNat<S.attrs.length:=by omega
  rw [mC hlt];exact hk _ (List.getElem_mem hlt)
 ·have h1:=hs.pos hp x hx';have h2:=hw5 x hx';omega
 ·obtain ⟨i,hi,rfl⟩:=List.mem_iff_getElem.1 hy;have hm2:=hmd x hx';exact E4 (hm2.2 i hi (by rw [← hm2.1];exact hi))
theorem pe {S:Sch} (hB:SB S) (hc:cI S=0) (hS:SJn S) (hk:∀ a∈S.attrs,a.2=1∨a.2=2∨a.2=3) {most:Nat} (hm:most≤12) {d:List (List Rw)} (hd:d.length=S.rels.length) (ht:∀ i (h:i<d.length) (h2:i<S.rels.length),MdT S S.rels[i].2 most d[i]):DbOk S d where
 hB:=hB
 hc:=hc
 hS:=hS
 n:=hd
 l:=fun l hl=>by
  obtain ⟨i,hi,rfl⟩:=List.mem_iff_getElem.1 hl;have:=(nY hk (hS.b _ (List.getElem_mem (show i<S.rels.length by omega))) (by omega) (ht i hi (by omega))).2.1;omega
 t:=fun r h h2=>(nY hk (hS.b _ (List.getElem_mem h2)) (by omega) (ht r h h2)).1
 zf:=fun l hl=>by
  obtain ⟨i,hi,rfl⟩:=List.mem_iff_getElem.1 hl;exact (nY hk (hS.b _ (List.getElem_mem (show i<S.rels.length by omega))) (by omega) (ht i hi (by omega))).2.2.1
end
section
open Go.RowKit Mk Jn
def atL {α:Type} [Inhabited α] (P:List Nat) (l:List α):List α:=P.map fun i=>l.getD i default
theorem IE {α:Type} [Inhabited α] {P:List Nat} {l:List α}:(atL P l).length=P.length:=by simp [atL]
theorem Jl {α:Type} [Inhabited α] {P:List Nat} {l:List α} {k:Nat} (h:k<P.length) (h2:P[k]<l.length):(atL P l)[k]'(by rw [IE];exact h)=l[P[k]]:=by simp [atL,List.getD,h2]
theorem JS {α:Type} [Inhabited α] (l:List α):atL (List.range l.length) l=l:=by
 apply List.ext_getElem
 ·simp [atL]
 ·intro i h1 h2;simp [atL,List.getD,h2]
theorem ID {α:Type} [Inhabited α] {P:List Nat} {l:List α} (h:P.Perm (List.range l.length)):(atL P l).Perm l:=by
 have:=h.map fun i=>l.getD i default
 rw [show (List.range l.length).map (fun i=>l.getD i default)=l from JS l] at this;exact this
theorem IG {P:List Nat} {n k:Nat} (h:P.Perm (List.range n)) (hk:k<P.length):P[k]<n:=List.mem_range.1 (h.mem_iff.1 (List.getElem_mem hk))
theorem Jv {ls ms:List Int} (h:ls.Perm ms):bq ls=bq ms:=by
 funext A x;unfold bq;simp only [h.count_eq]
theorem I2 {S:Sch} {T:List (List Rw)} {i:Nat} (h:i<(iL S T).length) (h1:i<S.rels.length) (h2:i<T.length):(iL S T)[i]=(S.rels[i].2,T[i]):=by simp [iL]
def pmS (S:Sch) (P:List Nat):Sch:=⟨S.attrs,atL P S.rels,S.feats,S.label⟩
section
variable {S:Sch} {P:List Nat} {d:List (List Rw)} (hP:P.Perm (List.range S.rels.length))
include hP
theorem IQ:P.length=S.rels.length:=by rw [hP.length_eq,List.length_range]
theorem Je {r:ByteArray×List Int} (h:r∈(pmS S P).rels):r∈S.rels:=(ID hP).mem_iff.1 h
theorem IF:(pmS S P).rels.length=S.rels.length:=(ID hP).length_eq
theorem JN {k:Nat} (h:k<(pmS S P).rels.length):(pmS S P).rels[k]=S.rels[P[k]'(by rw [IF hP] at h;rw [IQ hP];exact h)]'(IG hP _):=
 Jl (by rw [IF hP] at h;rw [IQ hP];exact h) (IG hP _)
theorem JE (A:List Int) (l:List Rw):gF (pmS S P) A l=gF S A l:=by
 exact congrArg (fun f=>List.filter (f A) l) (Jv ((ID hP).flatMap_right (·.2)))
theorem sb_pm (h:SB S):SB (pmS S P):=⟨h.a,by rw [IF hP];exact h.r,h.f,h.an,fun x hx=>h.rn x (Je hP hx),fun x hx=>h.rl x (Je hP hx)⟩
theorem JX (h:SJn S):SJn (pmS S P):=⟨h.a,by rw [IF hP];exact h.r,fun x hx=>h.l x (Je hP hx),fun x hx=>h.b x (Je hP hx)⟩
theorem Jt (hd:d.length=S.rels.length):(iL (pmS S P) (bf (pmS S P) (atL P d))).Perm (iL S (bf S d)):=by
 have hdP:(atL P d).length=(pmS S P).rels.length:=by rw [IE,IQ hP,IF hP]
 have e1:iL (pmS S P) (bf (pmS S P) (atL P d))=P.map fun i=>((S.rels.getD i default).2,gF S (S.rels.getD i default).2 (d.getD i default)):=by
  apply List.ext_getElem
  ·unfold iL;rw [List.length_zip,List.length_map,List.length_map,qz hdP,IF hP,IQ hP];omega
  ·intro i h1 h2;have hi:i<P.length:=by simpa using h2
   have hl:=IG hP hi;have hr:i<(pmS S P).rels.length:=by rw [IF hP, ← IQ hP];exact hi
   rw [I2 h1 hr (by rw [qz hdP];exact hr),List.getElem_map,ur (by rw [IE];exact hi) hr,JN hP,JE hP,Jl hi (by omega)];simp [List.getD,hl,hd]
 have e2:iL S (bf S d)=(List.range S.rels.length).map fun i=>((S.rels.getD i default).2,gF S (S.rels.getD i default).2 (d.getD i default)):=by
  apply List.ext_getElem
  ·unfold iL;rw [List.length_zip,List.length_map,List.length_map,qz hd,List.length_range];omega
  ·intro i h1 h2;have hi:i<S.rels.length:=by simpa using h2
   rw [I2 h1 hi (by rw [qz hd];exact hi),List.getElem_map,List.getElem_range,ur (by omega) hi];simp [List.getD,hi,hd]
 rw [e1,e2];exact hP.map _
theorem Jz (h:cI S=0):cI (pmS S P)=0:=by
 have hrl:=IF hP;have hR:iM S=0→iM (pmS S P)=0:=fun hr=>by
  unfold iM at hr;by_cases h1:bZ (xe S) S.rels.length=0
  ·rw [if_neg (by simp [h1])] at hr;by_cases h2:((List.range S.attrs.length).all fun a=>DB S a)=false
   ·rw [if_pos h2] at hr;cases hr
   ·have hz:=wT.1 h1;have hk:∀ k (hk:k<S.rels.length),oS S.rels[k].1=true∧S.rels[k].1∉(S.rels.map (·.1)).take k∧S.rels[k].2≠[]∧(S.rels[k].2.all fun a=>decide (0≤a)&&decide (a<S.attrs.length))=true∧BJ S.rels[k].2=true:=fun k hk=>by
     have:=hz k hk;rw [Cj S k hk] at this;split at this
     ·cases this
     ·split at this
      ·cases this
      ·split at this
       ·cases this
       ·split at this
        ·cases this
        ·split at this
         ·cases this
         ·rename_i a b c d e;exact ⟨by simpa using a,by simpa [hasB] using b,c,by simpa using d,by simpa using e⟩
    have hnd:(S.rels.map (·.1)).Nodup:=by
     unfold List.Nodup;rw [List.pairwise_iff_getElem];intro i j hi hj hij e;refine (hk j (by simpa using hj)).2.1 ?_;rw [List.mem_take_iff_getElem];refine ⟨i,by rw [Nat.min_eq_left (by omega)];exact hij,?_⟩;rw [e];simp
    have hnd2:((pmS S P).rels.map (·.1)).Nodup:=((ID hP).map (·.1)).nodup_iff.2 hnd;refine I7 (wT.2 fun k hk2=>?_) ?_
    ·rw [Cj _ k hk2];have hk3:=JN hP hk2;obtain ⟨a,b,c,dd,e⟩:=hk (P[k]'(by rw [IQ hP, ← hrl];exact hk2)) (IG hP _);rw [← hk3] at a c dd e;rw [if_neg (by rw [a];decide),if_neg,if_neg c,if_neg (by rw [show (pmS S P).attrs=S.attrs from rfl,dd];decide),if_neg (by rw [e];decide)];unfold hasB;simp only [decide_eq_true_eq];intro hm;obtain ⟨j,hj,hjk⟩:=List.mem_take_iff_getElem.1 hm;unfold List.Nodup at hnd2;rw [List.pairwise_iff_getElem] at hnd2;have hj2:j<k:=by omega
     exact hnd2 j k (by simp;omega) (by simpa using hk2) hj2 (by rw [hjk];simp)
    ·rw [List.all_eq_true];intro a ha;have h3:DB S a=true:=by
      simp only [Bool.not_eq_false] at h2;exact List.all_eq_true.1 h2 a ha
     unfold DB at h3 ⊢;rw [List.any_eq_true] at h3 ⊢;obtain ⟨r,hr1,hr2⟩:=h3;exact ⟨r,(ID hP).mem_iff.2 hr1,hr2⟩
  ·rw [if_pos h1] at hr;exact absurd hr h1
 unfold cI at h ⊢;rw [show (pmS S P).attrs=S.attrs from rfl,show (pmS S P).feats=S.feats from rfl,show (pmS S P).label=S.label from rfl,show ju (pmS S P)=ju S from rfl,show k7 (pmS S P)=k7 S from rfl,hrl];split at h
 ·cases h
 ·split at h
  ·rename_i h1;exact absurd h h1
  ·split at h
   ·rename_i h1;exact absurd h h1
   ·rename_i h0 h1 h2;rw [if_neg h0,if_neg h1,if_neg (by simpa using hR (by simpa using h2))];exact h
theorem JQ (h:DbOk S d):DbOk (pmS S P) (atL P d) where
 hB:=sb_pm hP h.hB
 hc:=Jz hP h.hc
 hS:=JX hP h.hS
 n:=by rw [IE,IQ hP,IF hP]
 l:=fun l hl=>h.l l ((ID (by rw [h.n];exact hP)).mem_iff.1 hl)
 t:=fun r h1 h2=>by
  have hr:r<P.length:=by rw [IE] at h1;exact h1
  have:=h.t P[r] (by rw [h.n];exact IG hP hr) (IG hP hr);rw [JN hP h2,Jl hr (by rw [h.n];exact IG hP hr)];exact ⟨fun x hx=>⟨(this.row x hx).l,(this.row x hx).v,(this.row x hx).w⟩,this.asc⟩
 zf:=fun l hl=>h.zf l ((ID (by rw [h.n];exact hP)).mem_iff.1 hl)
theorem JI (h:DbOk S d):joinL (pmS S P) (atL P d)=joinL S d:=
 vd (tG (JQ hP h)) (tG h) fun y=>by
  rw [(sN (JQ hP h)).mem,(sN h).mem];exact and_congr Iff.rfl ⟨I6 (Jt hP h.n),I6 (Jt hP h.n).symm⟩
end
theorem Ja {y:List ByteArray} {A:List Int}:∀ {L:List (List Int×List Rw)} {w:Int},(A,[])∈L→¬ Ez y L w
 | [],_,h=>by simp at h
 | p::L,w,h=>by
   rintro ⟨x,hx,_,w',hw,_⟩;rcases List.mem_cons.1 h with e | h
   ·subst e;simp at hx
   ·exact Ja h hw
theorem JH {S:Sch} {d:List (List Rw)} (h:DbOk S d) (k:Nat):DbOk S (d.set k []) where
 hB:=h.hB
 hc:=h.hc
 hS:=h.hS
 n:=by rw [List.length_set];exact h.n
 l:=fun l hl=>by
  rcases List.mem_or_eq_of_mem_set hl with h2 | rfl
  ·exact h.l l h2
  ·simp
 t:=fun r h1 h2=>by
  rw [List.getElem_set];split
  ·exact ⟨fun x hx=>by simp at hx,List.Pairwise.nil⟩
  ·exact h.t r (by simpa using h1) h2
 zf:=fun l hl=>by
  rcases List.mem_or_eq_of_mem_set hl with h2 | rfl
  ·exact h.zf l h2
  ·simp
theorem join_none {S:Sch} {d:List (List Rw)} (h:DbOk S d) {k:Nat} (hk:k<d.length):joinL S (d.set k [])=[]:=by
 rw [List.eq_nil_iff_forall_not_mem];intro y hy;have h2:=JH h k;have h3:=(((sN h2).mem y).1 hy).2;have hkr:k<S.rels.length:=by rw [← h.n];exact hk
 refine Ja (A:=S.rels[k].2) ?_ h3;have hk2:k<(iL S (bf S (d.set k []))).length:=by unfold iL;rw [List.length_zip,List.length_map,qz h2.n];omega
 have e:(iL S (bf S (d.set k [])))[k]=(S.rels[k].2,[]):=by
  rw [I2 hk2 hkr (by rw [qz h2.n];exact hkr),ur (by simpa using hk) hkr,List.getElem_set_self];rfl
 exact e▸List.getElem_mem hk2
end
section
open Go.RowKit Mk Jn
theorem Jw {q:List Int} {n:Nat} (h:q.Perm (upZ n)):∃ P:List Nat,P.Perm (List.range n)∧q=P.map Int.ofNat:=by
 refine ⟨q.map Int.toNat,?_,?_⟩
 ·have:=h.map Int.toNat
  rwa [show (upZ n).map Int.toNat=List.range n by simp [upZ,Function.comp_def]] at this
 ·rw [List.map_map];have:∀ x∈q,(Int.ofNat∘Int.toNat) x=x:=fun x hx=>by
   have:=h.mem_iff.1 hx;simp only [upZ,List.mem_map,List.mem_range] at this;obtain ⟨a,_,rfl⟩:=this;rfl
  conv=>lhs;rw [← List.map_id q]
  exact (List.map_congr_left fun x hx=>(this x hx).symm)
theorem Ji {α:Type} [Inhabited α] {P:List Nat} {l:List α} {k:Nat} (hk:k<P.length) (h:P[k]<l.length):atL (P.take (k+1)) l=atL (P.take k) l++[l[P[k]]]:=by
 unfold atL;rw [List.take_succ_eq_append_getElem hk,List.map_append]
 congr 1
 simp [List.getD,h]
def bR (l:List Rw):List Rw:=if 2000<l.length then [] else l
def bE (l:List Rw):Int:=if 2000<l.length then 3 else 0
theorem I3 (l:List Rw):pJ l= .tup [bL (bR l),.int .i64 (bE l)]:=by
 unfold pJ bR bE;split<;>rfl
theorem JV (l:List Rw):(bR l).length≤2000:=by
 unfold bR;split
 ·simp
 ·omega
theorem JA (d:List (List Rw)):∀ c∈dv d,c.leaf=true:=fun c hc=>by
 simp only [dv,List.mem_map] at hc;obtain ⟨l,_,rfl⟩:=hc;rfl
theorem Jo:∀ cs:List PV,PV.fgL cs=cs.map PV.fg1
 | []=>rfl
 | _::cs=>congrArg _ (Jo cs)
theorem JR (d:List (List Rw)) (i:Nat):PV.fgL ((dv d).set (i*1) nS)=dv (d.set i []):=by
 rw [Jo,List.map_set,Nat.mul_one];unfold dv;rw [List.map_set,List.map_map];rfl
theorem Jj {S:Sch} {most:Nat} (h:Made S most):∀ a∈S.attrs,a.2=1∨a.2=2∨a.2=3:=fun a ha=>by
 obtain ⟨i,hi,rfl⟩:=List.mem_iff_getElem.1 ha;have:=h.at' i hi;omega
theorem Jh {S:Sch} (h:Made S 5):SJn S:=
 zq (jF (I0 h (by decide))) (by have:=h.r2;omega) fun x hx=>by
  obtain ⟨i,hi,rfl⟩:=List.getElem_of_mem hx;have:=IW (h.rs i hi).2.2.1 (h.rs i hi).2.2.2;have:=h.a2;omega
theorem JK {S:Sch} {d:List (List Rw)} (hM:Made S 5) (hd:MdD S 4 S.rels.length d):DbOk S d:=
 pe (JO hM (by decide)) (I0 hM (by decide)) (Jh hM) (Jj hM) (most:=4) (by decide) hd.1 hd.2
theorem bR_v {S:Sch} {d:List (List Rw)} (h:DbOk S d) (hM:Made S 5):∀ x∈bR (joinL S d),x.v.length≤1000000:=fun x hx=>by
 have hm:x∈joinL S d:=by
  unfold bR at hx;split at hx
  ·simp at hx
  ·exact hx
 have:=(((sN h).mem x).1 hm).1;have:=hM.a2;omega
theorem IP (t:List Int):FnP Tryz.prog 4 [ak t] (· = .bool true):=by
 refine FnP.of func4 rfl ntmps4 (by simp) fun m0 w0 F R0=>?_
 refine Z1 rfl rfl<|Z3 rfl rfl rfl rfl ?_;refine Gp rfl rfl (fun hc19=>?_) (fun hc19=>?_)
 ·exact Gr rfl<|Rs 20 rfl rfl (ae call9 pX rfl)<|A1 rfl<|Gt rfl<|⟨_,_,rfl,rfl,rfl⟩
 ·have hL:t.length≤400:=by omega
  refine Il<|Z1 rfl rfl ?_;refine RL.call rfl (fA [] 0 call10 (Cr t (by omega)) rfl rfl rfl rfl trivial (by decide) rfl ?_);rintro _ _ ⟨rfl,rfl⟩;refine A1 rfl<|Z1 rfl rfl ?_;refine RL.call rfl (jW call16 (Jd t 0 5 (by omega) (Nat.zero_le _) (by omega) (by omega)) rfl rfl ?_);rintro _ _ ⟨⟨S,hM,rfl⟩,k1,hk1,rfl⟩;have hS:=Jh hM;have hr1:=hM.r1;have hr2:=hM.r2;refine Y2 rfl rfl<|Z2 rfl rfl rfl ?_;refine RL.call rfl (jW call11 (nB t k1 (by omega) hk1 S 4 (by decide) (by omega) (fun r hr=>⟨hS.l r hr,hS.b r hr⟩)) rfl rfl ?_);rintro _ _ ⟨⟨d,hd,rfl⟩,k2,hk2,rfl⟩;have hdb:=JK hM hd;have hdn:=hdb.n;refine A1 rfl<|Z3 rfl rfl rfl rfl<|Z2 rfl rfl rfl<|Im (St.er (T':=34) (cs:=[.pv (.sl none S.attrs.length (cc S.attrs)),.pv nS,.pv (.sl none S.feats.length (bm S.feats)),.pv (.int .i64 S.label)]) 2 1 3 2 30 (by kernel_rfl) rfl (by kernel_rfl))<|Z1 rfl rfl<|Im (Iu 7 4 1 38 rfl rfl)<|Z4 rfl rfl rfl rfl rfl ?_;refine RL.call rfl (jW call17 (I4 t k2 S.rels.length (by omega) hk2 (by omega) (by omega)) rfl rfl ?_);rintro _ _ ⟨⟨q,hq,rfl⟩,k3,hk3,rfl⟩;obtain ⟨P,hP,rfl⟩:=Jw hq;have hPl:=IQ hP;refine Y2 rfl rfl ?_;refine Gl rfl (st:=fun x_0:Nat=>mkS [(3,.ptr 0 0),(4,.ptr 1 0),(5,.pv (dbP d)),(6,.ptr 2 0),(7,.gsl 4 1 x_0),(34,.pv (ak (P.map Int.ofNat))),(35,.pv (.int .i64 ((P.map Int.ofNat).length))),(36,.pv (.int .i64 x_0))] [(0,HD t k3),(1,oZ S),(2,.mix 34 [.pv (.sl none S.attrs.length (cc S.attrs)),.gsl 3 2 x_0,.pv (.sl none S.feats.length (bm S.feats)),.pv (.int .i64 S.label)]),(3,.gro 30 (bj (atL (P.take x_0) S.rels))),(4,.gro 38 (dv (atL (P.take x_0) d)))] 5)
   (I:=fun x_0=>x_0≤P.length) (μ:=fun x_0=>P.length-x_0) (x0:=(0)) (Io (aS rfl) (aO (by kernel_rfl)) rfl rfl) (Nat.zero_le _) ?_
  rintro k hk;refine Z1 rfl rfl ?_;refine Gp rfl rfl (fun hc37=>?_) (fun hc37=>?_)
  ·have hlt:k<P.length:=by simp at hc37;omega
   have hPr:=IG hP hlt;have hPd:P[k]<d.length:=by omega
   have hpv:(aE (P.map Int.ofNat))[k*1]? =some (.int .i64 (P[k]:Int)):=by simp [hlt]
   have hpn:=aH (l:=P.map Int.ofNat) (show k<(P.map Int.ofNat).length by simp;omega);have hrr:=cW hPr;have hrn:=ew hPr;have hl1:(bj (atL (P.take k) S.rels)).length=k*2:=by rw [yQ,IE,List.length_take];omega
   have hl2:(dv (atL (P.take k) d)).length=k:=by rw [dH,IE,List.length_take];omega
   have htn:dv d≠[]:=fun e=>by have:=dH d;rw [e] at this;simp at this;omega
   have htr:(dv d)[P[k]*1]? =some (bL d[P[k]]):=by simp [dv,hPd]
   have hsr:bj (atL (P.take k) S.rels)++[.str S.rels[P[k]].1,ak S.rels[P[k]].2]=bj (atL (P.take (k+1)) S.rels):=by rw [Ji hlt hPr,IJ]
   have hsd:dv (atL (P.take k) d)++[bL d[P[k]]]=dv (atL (P.take (k+1)) d):=by rw [Ji hlt hPd];simp [dv]
   refine Il<|Gr rfl<|Rs 38 rfl rfl (ag k underlying22 sz3 rfl rfl rfl (by simp;omega) hpn)<|Rs 39 rfl rfl (ai ⟨_,underlying3,rfl⟩ rfl hpv)<|A1 rfl<|Ge rfl follows [0,1,2,3,4,5,6,7,8,9,10,11,12,13,14,15,16,17,18] (by kernel_rfl) ?_;iterate 5 refine D1 rfl rfl ?_
   refine Ds 45 [] rfl rfl rfl (fun τ h=>ag P[k] underlying31 Eu (Ee h 0 rfl rfl) (Ee h 1 rfl rfl) rfl hPr hrn) rfl (by kernel_rfl)<|Ds 46 [] rfl rfl rfl (fun τ h=>db ⟨_,underlying30,rfl⟩ Eu (Ee h 0 rfl rfl) hrr rfl) rfl (by kernel_rfl) ?_;iterate 5 refine D1 rfl rfl ?_
   refine Ds 52 [] rfl rfl rfl (fun τ h=>ag P[k] underlying36 qk (Ee h 0 rfl rfl) (Ee h 1 rfl rfl) rfl hPd htn) rfl (by kernel_rfl)<|Ds 53 [] rfl rfl rfl (fun τ h=>ai ⟨_,underlying38,rfl⟩ (Ee h 0 rfl rfl) htr) rfl (by kernel_rfl) ?_;iterate 5 refine D1 rfl rfl ?_
   refine ⟨by kernel_rfl,?_⟩;exact Z2 rfl rfl rfl<|⟨(k+1),Ip [0,1,2,6,8] (aT rfl) ⟨by kernel_rfl,by kernel_rfl,by kernel_rfl,Eq.trans (b:=some (.gro 30 (bj (atL (P.take k) S.rels)++[.str S.rels[P[k]].1,ak S.rels[P[k]].2]))) (by kernel_rfl) (congrArg (fun c=>some (Ob.gro 30 c)) hsr),Eq.trans (b:=some (.gro 38 (dv (atL (P.take k) d)++[bL d[P[k]]]))) (by kernel_rfl) (congrArg (fun c=>some (Ob.gro 38 c)) hsd),trivial⟩ rfl rfl (by decide) rfl,by omega,by omega⟩
  ·have hke:k=P.length:=by simp at hc37;omega
   subst hke;have hbu:=iH S d hdb;rw [I3] at hbu;have hb2:=iH (pmS S P) (atL P d) (JQ hP hdb);rw [JI hP hdb,I3] at hb2;have hb3:FnP Tryz.prog 12 [.agg [.sl none S.attrs.length (cc S.attrs),.sl none (atL P S.rels).length (bj (atL P S.rels)),.sl none S.feats.length (bm S.feats),.int .i64 S.label],.sl none (atL P d).length (dv (atL P d))] (· = .tup [bL (bR (joinL S d)),.int .i64 (bE (joinL S d))]):=hb2;rw [IE,IE] at hb3;have hrl:=JV (joinL S d);have hro:=vK (bR (joinL S d)) (by omega) (bR_v hdb hM);have hdp:0<d.length:=by omega
   have hnn:=zP t k3 d.length (by omega) hk3 (by omega) (by omega);have hni:=uV t k3 d.length (by omega);obtain ⟨i,hi⟩:=Int.eq_ofNat_of_zero_le hni.1;rw [hi] at hnn;have hil:i<d.length:=by have:=hni.2;omega
   have hb4:=iH S (d.set i []) (JH hdb i);rw [join_none hdb hil,I3] at hb4;have hb5:FnP Tryz.prog 12 [gK S,.sl none (d.set i []).length (dv (d.set i []))] (· = .tup [bL [],.int .i64 0]):=hb4;rw [List.length_set] at hb5;have hfs:=JR d i;have htl:=dH d;have htl2:(dv (d.set i [])).length=d.length:=by rw [dH,List.length_set,Nat.mul_one]
   clear hb2 hb4 hni hi;generalize bR (joinL S d)=A0 at*;generalize bE (joinL S d)=e0 at*;rw [List.take_length];refine Im (Ir 3 rfl rfl)<|Im (Ir 4 rfl rfl)<|Gx rfl<|Z2 rfl rfl rfl<|Rs 61 rfl rfl (ae call12 hbu rfl) ?_;iterate 5 refine A1 rfl ?_
   refine Z2 rfl rfl rfl<|Rs 67 rfl rfl (ae call12 hb3 rfl) ?_;iterate 5 refine A1 rfl ?_
   refine Z1 rfl rfl<|Rs 71 rfl rfl (wh 5 el36 rfl (.inl ⟨none,rfl⟩) (by omega) (JA d) (by omega) hdp rfl)<|A1 rfl<|Z4 rfl rfl rfl rfl rfl ?_;refine RL.call rfl (jW call18 hnn rfl rfl ?_);rintro _ _ ⟨rfl,rfl⟩;refine Rs 77 rfl rfl (aa i underlying36 qk rfl rfl rfl rfl hil)<|A1 rfl<|Im (St.Hc (id:=5) rfl)<|Wk [(4,.ptr 1 0),(10,.pv (bL A0)),(11,.pv (.int .i64 e0)),(12,.pv (bL A0)),(13,.pv (.int .i64 e0)),(14,.osl 5 1 d.length)] [(1,oZ S),(5,.cells 38 (dv (d.set i [])))] 6 (aS rfl) ⟨by kernel_rfl,Eq.trans (b:=some (.cells 38 (PV.fgL ((dv d).set (i*1) nS)))) (by kernel_rfl) (congrArg (fun c=>some (Ob.cells 38 c)) hfs),trivial⟩ rfl rfl ?_;refine Im (St.JG 5 [14] rfl ⟨rfl,trivial⟩ (by omega)) ?_;rw [List.take_of_length_le (show (dv (d.set i [])).length≤d.length*1 by omega)];refine Z2 rfl rfl rfl<|Rs 81 rfl rfl (ae call12 hb5 rfl) ?_;iterate 5 refine A1 rfl ?_
   refine Z2 rfl rfl rfl<|Rs 86 rfl rfl (XJ.cast (v':= .pv (.bool true)) (aQ rfl rfl rfl) (congrArg (fun b=>V.pv (.bool b)) (by simp)))<|Y3 rfl rfl rfl<|Rg 90 rfl rfl rfl (ae call19 hro rfl) ?_;iterate 11 refine A1 rfl ?_
   exact Rg 102 rfl rfl rfl (ae call9 pX rfl)<|Y2 rfl rfl<|Gt rfl<|⟨_,_,rfl,rfl,rfl⟩
end
theorem gy {P:Program} {W:World} {n:String} {g:Nat} {cs:Array Value} (hg:P.globalNamed n=some g) (h:W.var? P n=some cs):∃ t fz,W.heap[g]? =some (.cells cs t fz):=by
 simp only [World.var?,hg,Option.bind_some] at h;split at h
 ·rename_i cs' t fz hb;cases h;exact ⟨t,fz,hb⟩
 ·cases h
theorem oF {W:World} {g:Nat} {o:Obj} (h:W.heap[g]? =some o):g<W.heap.size:=(Array.getElem?_eq_some_iff.1 h).1
theorem gv0:Tryz.prog.globalNamed "internal/strconv.uint64pow10" =some 0:=by kernel_rfl
theorem gv4:Tryz.prog.globalNamed "strconv.ErrSyntax" =some 4:=by kernel_rfl
theorem gv5:Tryz.prog.globalNamed "strconv.ErrRange" =some 5:=by kernel_rfl
theorem gt0:(Tryz.prog.globals[0]?).map (·.type)=some 283:=by kernel_rfl
theorem gt4:(Tryz.prog.globals[4]?).map (·.type)=some 167:=by kernel_rfl
theorem gt5:(Tryz.prog.globals[5]?).map (·.type)=some 167:=by kernel_rfl
theorem An {W:World} (h:W.ShapedOpen Tryz.prog):∃ (m:Int) (t:TypeId) (fz:Nat×Nat),W.heap[1]? =some (.cells #[.int .i64 m] t fz):=by
 obtain ⟨cs,hh,hs,hr⟩:=h.1 1 #[.int .i64 0] 3 (of_decide_eq_true (by kernel_rfl)) (by kernel_rfl);obtain ⟨ts,hts,_,hall⟩:=hr (by kernel_rfl);rw [show Tryz.prog.cellTypes Tryz.prog.depth 3=some [3] by kernel_rfl] at hts;cases hts;have h1:cs.size=1:=hs;obtain ⟨u,hu',hok⟩:=hall 0 cs[0] (by simp [h1]);obtain rfl:u=3:=by simpa using hu'.symm
 have hm:∃ m,cs[0]= .int .i64 m:=by
  unfold Cell.ok at hok;rw [underlying3] at hok;cases hv:cs[0]<;>rw [hv] at hok<;>simp at hok;rename_i k m;obtain rfl:=hok.1;exact ⟨m,rfl⟩
 obtain ⟨m,hm⟩:=hm;have:cs= #[.int .i64 m]:=by
  apply Array.ext
  ·simp [h1]
  ·intro i h2 h3;have:i=0:=by omega
   subst this;simpa using hm
 rw [this] at hh;exact ⟨m,_,_,hh⟩
def HP:List (String×DataW Unit):=Rows.joinProductRow.laid
theorem Fv {W:World} (hsh:W.ShapedOpen Tryz.prog) (h:laidMetH Tryz.prog HP W):lA W (fun b=>b<W.heap.size):=by
 rw [MakeChecks.laidMetH_plain _ _ _ (by kernel_rfl)] at h;obtain ⟨ps,⟨g0,t0,cs0,f0,p0,q0,hg0,ht0,hv0,hd0,⟨g1,t1,cs1,f1,p1,q1,hg1,ht1,hv1,hd1,⟨g2,t2,cs2,f2,p2,q2,hg2,ht2,hv2,hd2,⟨g4,t4,cs4,f4,p4,q4,hg4,ht4,hv4,hd4,⟨g5,t5,cs5,f5,p5,q5,hg5,ht5,hv5,hd5,_⟩,_⟩,_⟩,_⟩,_⟩,_,_⟩:=h;obtain rfl:=Option.some.inj (gv0.symm.trans hg2);obtain rfl:=Option.some.inj (gv5.symm.trans hg4);obtain rfl:=Option.some.inj (gv4.symm.trans hg5);obtain rfl:=Option.some.inj (gt0.symm.trans ht2);obtain rfl:=Option.some.inj (gt5.symm.trans ht4);obtain rfl:=Option.some.inj (gt4.symm.trans ht5);have e2:cs2.toList=Lib.pow10Tab.map fun z=>Value.int .u64 z:=Lib.cells_of_tab underlying283 underlying136 (by kernel_rfl) (by kernel_rfl) hd2
 obtain ⟨_,u4,v4,e4,_⟩:=iface_of_trod underlying167 hd4;obtain ⟨_,u5,v5,e5,_⟩:=iface_of_trod underlying167 hd5;obtain ⟨x2,y2,b2⟩:=gy gv0 hv2;obtain ⟨x4,y4,b4⟩:=gy gv5 hv4;obtain ⟨x5,y5,b5⟩:=gy gv4 hv5;obtain ⟨m,x1,y1,b1⟩:=An hsh;obtain ⟨l2⟩:=cs2;obtain ⟨l4⟩:=cs4;obtain ⟨l5⟩:=cs5;simp only at e2 e4 e5;subst e2 e4 e5;intro x hx;simp only [glb,List.mem_cons,List.not_mem_nil,or_false] at hx;rcases hx with rfl | rfl | rfl | rfl
 ·exact ⟨oF b2,_,b2,_,_,rfl⟩
 ·exact ⟨oF b1,_,b1,_,_,_,rfl⟩
 ·exact ⟨oF b5,_,b5,_,_,_,_,rfl⟩
 ·exact ⟨oF b4,_,b4,_,_,_,_,rfl⟩
noncomputable def witW (os:Os):World:=World.doorLaid Tryz.prog 54 os
theorem wL (os:Os) (args:Array Value):((witW os).forCall (fun _ _=>0) ⟨#[],args,[]⟩).Shaped Tryz.prog:=World.shaped_of_RefB (by kernel_rfl) (by kernel_rfl)
theorem Fq (os:Os) (args:Array Value):laidMetH Tryz.prog HP ((witW os).forCall (fun _ _=>0) ⟨#[],args,[]⟩).memory:=
 laidMetH_of_parts3 (fuel:=8) (laidMet_of_run' 8 (by kernel_rfl) (by kernel_rfl)) (by kernel_rfl) (by kernel_rfl)
section
open Go.RowKit Go.ChangeShapes Go.WideShapes Go.Deep
def OpT (P:Program) (t:TypeId) {α:Type} (f:α→List PV) (I:α→Prop):Prop:=
 ∀ (H:Type) (enc:TypeId×Value→H) (w:World) (base:Nat) (spare:Nat→Bool) (held:Bool) (fuel:Nat) (cs:List Value) (x:DataW H×List MemPlace),
  DataW.trod enc P w base spare held fuel t cs=some x→∃ a,I a∧RelPL w (fun b=>b<w.heap.size) (f a) cs
section
variable {P:Program} {t:TypeId}
theorem OpT.map {α β:Type} {f:α→List PV} {I:α→Prop} {f':β→List PV} {I':β→Prop} (h:OpT P t f I) (g:α→β) (hf:∀ a,f' (g a)=f a) (hI:∀ a,I a→I' (g a)):OpT P t f' I':=
 fun H enc w base spare held fuel cs x hx=>by
  obtain ⟨a,ha,hr⟩:=h H enc w base spare held fuel cs x hx;exact ⟨g a,hI a ha,by rw [hf];exact hr⟩
theorem RelPL.one {w:World} {R:Nat→Prop} {p:PV} {u:Value} (h:RelP w R p u):RelPL w R [p] [u]:=RelPL.cons h RelPL.nil
theorem OpT.int (ht:P.underlying t=some (.int .i64)):OpT P t (fun n:Int=>[.int .i64 n]) (fun n=> -9223372036854775808≤n∧n≤9223372036854775807):=
 fun H enc w base spare held fuel cs x hx=>by
  obtain ⟨n,rfl,_,hw⟩:=DataW.trod_int ht hx;exact ⟨n,bounds_i64 hw,RelPL.one (by simp only [RelP])⟩
theorem vJ {w:World} {R:Nat→Prop} {α:Type} {f:α→List PV}:∀ {n:Nat} {A:Nat→α} {us:Nat→List Value},(∀ i,i<n→RelPL w R (f (A i)) (us i))→RelPL w R (((List.range n).map A).flatMap f) ((List.range n).flatMap us):=by
 intro n A us h;induction n with
 | zero=>simpa using RelPL.nil
 | succ n ih=>
   rw [List.range_succ,List.map_append,List.flatMap_append,List.flatMap_append];refine RelPL.append (ih fun i hi=>h i (by omega)) ?_;simpa using h n (by omega)
theorem oo {c:Nat} {us:Nat→List Value}:∀ {n:Nat},(∀ i,i<n→(us i).length=c)→((List.range n).flatMap us).length=n*c∧∀ i j,i<n→j<c→((List.range n).flatMap us)[i*c+j]? =(us i)[j]? :=by
 intro n h;induction n with
 | zero=>exact ⟨by simp,fun i j hi=>absurd hi (by omega)⟩
 | succ n ih=>
   obtain ⟨h1,h2⟩:=ih fun i hi=>h i (by omega)
   rw [List.range_succ,List.flatMap_append];refine ⟨by rw [List.length_append,h1,List.flatMap_singleton,h n (by omega),Nat.succ_mul],fun i j hi hj=>?_⟩;by_cases e:i<n
   ·rw [List.getElem?_append_left (by rw [h1];calc i*c+j<i*c+c:=by omega
     _=(i+1)*c:=by rw [Nat.succ_mul]
     _≤n*c:=Nat.mul_le_mul_right c e)]
    exact h2 i j e hj
   ·obtain rfl:i=n:=by omega
    rw [List.getElem?_append_right (by rw [h1];omega),h1,List.flatMap_singleton,show i*c+j-i*c=j by omega]
theorem OpT.sl {e:TypeId} {α:Type} {f:α→List PV} {I:α→Prop} (c:Nat) [Inhabited α] (ht:P.underlying t=some (.slice e)) (hc:P.cellsOf e=c) (h:OpT P e f I):
  OpT P t (fun l:List α=>[.sl none l.length (l.flatMap f)]) (fun l=>l.length≤maxLen∧∀ a∈l,I a):=
 fun H enc w base spare held fuel cs x hx=>by
  rcases open_slice ht hx with ⟨rfl,rfl⟩ | ⟨a,len,cap,m,n,D,Pl,rfl,hb,hl,hm,hmm,hxe,hel⟩
  ·refine ⟨[],⟨by simp,by simp⟩,RelPL.one ?_⟩;simp only [RelP];exact ⟨none,0,rfl,Nat.le_refl _,by simp [maxLen],(fun _ e=>by cases e),(fun e=>by cases e),fun e=>absurd rfl e⟩
  ·have hlm:len≤m:=by rw [hmm];split<;>omega
   rw [hc] at hel;have hx2:∀ i,i<len→∃ p:α×List Value,I p.1∧RelPL w (fun b=>b<w.heap.size) (f p.1) p.2∧p.2.length=c∧∀ j,j<c→w.cell? (a.add (i*c+j))=p.2[j]? :=fun i hi=>by
    obtain ⟨cs',h1,h2⟩:=hel i (by omega);obtain ⟨y,hy,hr⟩:=h H enc w base spare held n cs' _ h2;obtain ⟨_,h3,h4⟩:=World.cells?_some h1;exact ⟨(y,cs'),hy,hr,h3,fun j hj=>by rw [← add_add];exact h4 j hj⟩
   obtain ⟨F,hF⟩:=choose_lt hx2;have hlen:((List.range len).map fun i=>(F i).1).length=len:=by simp
   refine ⟨(List.range len).map fun i=>(F i).1,⟨by rw [hlen];omega,fun y hy=>?_⟩,RelPL.one ?_⟩
   ·obtain ⟨i,hi,rfl⟩:=List.mem_map.1 hy;exact (hF i (List.mem_range.1 hi)).1
   ·rw [hlen];simp only [RelP];refine ⟨some a,cap,rfl,hl,hm,(fun _ e=>by cases e),(fun e=>by cases e),fun hne=>?_⟩;have hrel:=vJ (w:=w) (R:=fun b=>b<w.heap.size) (f:=f) (A:=fun i=>(F i).1) (us:=fun i=>(F i).2) fun i hi=>(hF i hi).2.1
    obtain ⟨hL,hat⟩:=oo (us:=fun i=>(F i).2) (c:=c) (n:=len) fun i hi=>(hF i hi).2.2.1
    generalize hU:(List.range len).flatMap (fun i=>(F i).2)=U at hrel hL hat
    have hpos:0<len*c:=by
     rw [← hL,RelPL.length hrel];exact List.length_pos_iff.2 hne
    have hlen0:0<len:=Nat.pos_of_mul_pos_right hpos;have hc0:0<c:=Nat.pos_of_mul_pos_left hpos;have hcell:∀ k,k<len*c→w.cell? (a.add k)=U[k]? :=fun k hk=>by
     have e:k=k/c*c+k%c:=by rw [Nat.mul_comm];exact (Nat.div_add_mod k c).symm
     have h1:k/c<len:=Nat.div_lt_of_lt_mul (by rw [Nat.mul_comm];exact hk);have h2:k%c<c:=Nat.mod_lt _ hc0;rw [e,hat _ _ h1 h2];exact (hF _ h1).2.2.2 _ h2
    have h0:=hcell 0 hpos;rw [List.getElem?_eq_getElem (by omega)] at h0;obtain ⟨b,off,sp⟩:=a;have hsp:sp=none:=by
     cases sp with
     | none=>rfl
     | some s=>
       exfalso;have e:(⟨b,off,some s⟩:Addr).add 0=⟨b,off,some s⟩:=rfl;rw [e] at h0;unfold World.cell? at h0;split at h0
       ·simp at h0
       ·cases h0
    subst hsp;rw [Addr.add_lit] at h0;refine ⟨b,off,U,rfl,hrel,World.block_lt_of_cell? w _ h0,fun j hj=>?_⟩;have:=hcell j (by omega);rw [Addr.add_lit] at this;exact this
end
section
variable {H:Type} {enc:TypeId×Value→H} {P:Program} {w:World} {base:Nat} {spare:Nat→Bool} {held:Bool} {t:TypeId} {v:Value} {d:DataW H} {ps:List MemPlace} {r:Go.Reach} {b0:Nat}
theorem OpT.one {α:Type} {p:α→PV} {I:α→Prop} (ho:OpT P t (fun a=>[p a]) I) (hv:v.cells= #[v]) (h:DataW.Trod enc P w base spare held t v d ps):∃ a,I a∧RelP w (fun b=>b<w.heap.size) (p a) v:=by
 obtain ⟨fuel,hf⟩:=h;obtain ⟨a,ha,hr⟩:=ho _ _ _ _ _ _ _ _ _ hf;refine ⟨a,ha,?_⟩;rw [hv] at hr;simp only [RelPL] at hr;obtain ⟨u,vs,e,h1,_⟩:=hr;simp at e;rw [e.1];exact h1
end
#print axioms OpT.sl
end
theorem Hr:OpT Tryz.prog 3 (fun n:Int=>[.int .i64 n]) (fun n=> -9223372036854775808≤n∧n≤9223372036854775807):=OpT.int underlying3
theorem FC:OpT Tryz.prog 22 (fun l:List Int=>[ak l]) (fun l=>l.length≤9223372036854775807):=
 (OpT.sl 1 underlying22 (by kernel_rfl) Hr).map id (fun l=>by
  show [PV.sl none l.length (aE l)]=[PV.sl none l.length (l.flatMap fun n=>[PV.int .i64 n])]
  congr 2
  induction l with
  | nil=>rfl
  | cons x l ih=>simp [← ih]) (fun l h=>h.1)
end Go.Proofs.YtedfonppffochaaGreatDoor
