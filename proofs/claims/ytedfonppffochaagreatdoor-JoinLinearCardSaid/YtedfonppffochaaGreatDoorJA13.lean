/- Lemmas for the statement of this claim's last text. No condition. -/
import Derived.Test.YtedfonppffochaaGreatDoorJA12
set_option maxRecDepth 100000
set_option maxHeartbeats 4000000
open Go.RowKit Go.Proofs.Tryz
namespace Go.Proofs.YtedfonppffochaaGreatDoor
section
open Mk Jn
theorem mH {w:World} {R:Nat->Prop}:∀ {l:List ByteArray} {us:List Value},RelPL w R (aA l) us->us=l.map Value.string
 | [],us,h=>by simpa [RelPL] using h
 | x::l,us,h=>by
   simp only [jt,RelPL,RelP] at h;obtain ⟨u,vs,rfl,rfl,h2⟩:=h;rw [mH h2];rfl
structure RowV (w:World) (R:Nat->Prop) where
 x:Rw
 us:List Value
 rel:RelPL w R (eV x) us
 len:x.v.length<=1000000
theorem E5 (w:World) (R:Nat->Prop):RelPL w R (eV ⟨[],0⟩) [.slice none 0 0,.int .i64 0]:=by
 refine RelPL.cons ?_ (RelPL.cons (by simp only [RelP]) RelPL.nil);simp only [RelP];refine ⟨none,0,O,qT _,by simp [maxLen],?_,?_,?_⟩
 ·intro b h;cases h
 ·intro h;cases h
 ·intro h;exact absurd O h
instance (w:World) (R:Nat->Prop):Inhabited (RowV w R):=⟨⟨⟨[],0⟩,_,E5 w R,OG⟩⟩
theorem RowV.cells {w:World} {R:Nat->Prop} (hR:∀ b,R b->b<w.heap.size) (y:RowV w R):∃ A c,y.us=[.slice A y.x.v.length c,.int .i64 y.x.w]/\Row w R A (GF y.x.v):=by
 have h:=y.rel;simp only [RelPL,RelP] at h;obtain ⟨u,vs,e,⟨A,c,rfl,_,_,_,_,h5⟩,u2,vs2,rfl,rfl,rfl⟩:=h;refine ⟨A,c,e,fun hne=>?_⟩;obtain ⟨b,off,us,rfl,h6,h7,h8⟩:=h5 (fun e=>hne (by rw [List.map_eq_nil_iff] at e ⊢; exact e));have e7:=mH h6;subst e7;exact ⟨b,off,O,h7,hR b h7,h8⟩
theorem RowV.G0 {w:World} {R:Nat->Prop} (y:RowV w R):y.us.length=2:=y.rel.length
theorem RowV.one {w:World} {R:Nat->Prop} (y:RowV w R):∀ v∈y.us,v.oneCell'=true:=by
 have h:=y.rel;simp only [RelPL,RelP] at h;obtain ⟨u,vs,e,⟨A,c,rfl,_⟩,u2,vs2,rfl,rfl,rfl⟩:=h;rw [e];intro v hv;simp only [k6,Lf,or_false] at hv;rcases hv with rfl | rfl<;>rfl
theorem tQ {w:World} {R:Nat->Prop}:∀ {l:List Rw} {us:List Value},(∀ x∈l,x.v.length<=1000000)->RelPL w R (aB l) us->∃ ds:List (RowV w R),ds.map (·.x)=l/\ds.flatMap (·.us)=us
 | [],us,_,h=>⟨[],O,by simp [aB,RelPL] at h;simp [h]⟩
 | x::l,us,hl,h=>by
   have h0:RelPL w R (eV x++aB l) us:=h;have h1:=h0.take 2;have h2:=h0.drop 2;rw [show (eV x++aB l).take 2=eV x from List.take_left' O] at h1;rw [show (eV x++aB l).drop 2=aB l from List.drop_left' O] at h2;obtain ⟨ds,e1,e2⟩:=tQ (fun y hy=>hl y (by simp [hy])) h2;exact ⟨⟨x,us.take 2,h1,hl x OG⟩::ds,by simp [e1],by simp [e2]⟩
theorem pQ {w w':World} {R:Nat->Prop} (hk:∀ b,R b->w'.heap[b]? =w.heap[b]?):∀ (ds:List (RowV w R)),RelPL w' R (aB (ds.map (·.x))) (ds.flatMap (·.us))
 | []=>by simp [aB,RelPL]
 | y::ds=>by
   have h1:RelPL w' R (eV y.x) y.us:=RelPL.mono (fun b hb=>⟨hb,hk b hb⟩) _ _ y.rel;have:=h1.append (pQ hk ds);simpa [aB] using this
theorem EB (a b:List ByteArray):decide (lN a b<0)=aZ a b:=by
 unfold lN;cases h:aZ a b with
 | true=>rw [og O];rfl
 | false=>rw [ga OE];by_cases h2:a=b<;>simp [h2]
theorem H0 {i k:Nat} (h:¬ i=k):Nat.beq i k=false:=by
 cases hb:Nat.beq i k with
 | false=>rfl
 | true=>exact absurd (bR hb) h
theorem yP {α:Type} (f:α->List ByteArray):Go.Sort.SWO (Go.Proofs.ltOf fun x y:α=>lN (f x) (f y)):=by
 have e:∀ x y:α,Go.Proofs.ltOf (fun x y:α=>lN (f x) (f y)) x y=aZ (f x) (f y):=fun x y=>by
  exact EB (f x) (f y)
 refine ⟨fun x=>by rw [e];exact cz _,fun x y z h1 h2=>?_,fun x y z h1 h2=>?_⟩
 ·rw [e] at *; exact cT h1 h2
 ·rw [e] at*;cases h3:aZ (f x) (f z) with
  | false=>rfl
  | true=>
    cases h4:aZ (f z) (f y) with
    | true=>rw [cT h3 h4] at h1;cases h1
    | false=>rw [gO h2 h4,h3] at h1;cases h1
theorem Bh {α:Type} (f:α->List ByteArray) (x y:α):Go.Proofs.ltOf (fun x y:α=>lN (f x) (f y)) x y=aZ (f x) (f y):=by
 exact EB (f x) (f y)
theorem Mn {α:Type} [Inhabited α] (enc:α->List Value) (hk:∀ x,(enc x).length=2) (d:Array α):(Go.Sort.flatK enc 2 d).toList=d.toList.flatMap enc:=by
 have hfl:(d.toList.flatMap enc).length=d.toList.length*2:=fK enc 2 hk d.toList;apply H2
 ·rw [zE,Go.Sort.size_flatK,hfl,zE]
 ·intro i h1 h2;rw [zE,Go.Sort.size_flatK] at h1;have hq:i/2<d.size:=OC;have hg:=Go.Sort.get_flatK enc 2 d i h1;rw [getElem!_pos _ i (by rw [Go.Sort.size_flatK];exact h1)] at hg;have hf:=oC enc 2 hk d.toList (i/2) (i%2) (by rw [zE];exact hq) OC;rw [show i/2*2+i%2=i by omega,fI h2] at hf;rw [Array.getElem_toList,hg,getElem!_pos d (i/2) hq];have hl:i%2<(enc d[i/2]).length:=by rw [hk];omega
  change _=(enc d[i/2])[i%2]? at hf
  rw [fI hl] at hf;rw [getElem!_pos (enc d[i/2]) (i%2) hl];exact (Ki hf).symm
theorem nT (F arr:Array Value) (h:F.size<=arr.size):((Go.Sort.putCells id 0 F arr).toList.take F.size)=F.toList:=by
 apply H2
 ·simp [Go.Sort.putCells];omega
 ·intro i h1 h2;rw [zE] at h2;simp only [Lx,Array.getElem_toList,Go.Sort.putCells,Array.getElem_mapIdx];rw [og ⟨eF _,OC⟩,Ox,getElem!_pos F i h2];rfl
theorem ie {α:Type} [Inhabited α] (enc:α->List Value) (w:World) (b n:Nat) (d:Array α) (os:Array Obj) (hb:b<w.heap.size):
  (sortWorldK enc 2 w b 0 n d os).os=w.os/\(sortWorldK enc 2 w b 0 n d os).tape=w.tape/\(sortWorldK enc 2 w b 0 n d os).output=w.output/\w.heap.size<=(sortWorldK enc 2 w b 0 n d os).heap.size/\
  (∀ k,k<w.heap.size->k≠b->(sortWorldK enc 2 w b 0 n d os).heap[k]? =w.heap[k]?)/\∀ arr ty fz,w.heap[b]? =some (.cells arr ty fz)->(sortWorldK enc 2 w b 0 n d os).heap[b]? =some (.cells (Go.Sort.putCells id 0 (Go.Sort.flatK enc 2 d) arr) ty fz):=by
 have hh:(sortWorldK enc 2 w b 0 n d os).heap=(w.heap.modify b (Go.Sort.onCells (Go.Sort.putCells id 0 (Go.Sort.flatK enc 2 d))))++os:=rfl;refine ⟨O,O,O,?_,fun k hk hne=>?_,fun arr ty fz h=>?_⟩
 ·rw [hh];simp
 ·rw [hh,Array.getElem?_append_left (by simpa using hk),LI,ga (Ne.symm hne)]
 ·rw [hh,Array.getElem?_append_left (by simpa using hb),LI,og O,h];rfl
abbrev jz (l:List Rw):Ob:= .gro 49 (aB l)
theorem w7 (l:List Rw) (hl:l.length<=1000000) (hv:∀ x∈l,x.v.length<=1000000):
  FnO Tryz.prog 53 1 0 [.gsl big 2 l.length,.pv (.fn (.func 54) [] [])] [(big,jz l)] (fun v ob'=>∃ l',l'.Perm l/\(l'.Pairwise fun a b=>aZ b.v a.v=false)/\v= .tup []/\ob'=ar [(big,jz l')]):=by
 intro w m R us hR hrel;simp only [RelL,Rel,RelP] at hrel;obtain ⟨u1,us1,rfl,⟨_,A,c,rfl,hnc,hcm,h0,h1⟩,u2,us2,rfl,⟨fs,cs,rfl,hfs,hcs⟩,rfl⟩:=hrel;obtain rfl:=(by simpa [RelPL] using hfs:fs=[]);obtain rfl:=(by simpa [RelPL] using hcs:cs=[]);have hob:ar [(big,jz l)] big=some (jz l):=rfl;by_cases hn:l=[]
 ·subst hn;refine (AnyF.slices_SortFunc_none Tryz.sortRow A c _ w).mono ?_;rintro e w' ⟨rfl,rfl⟩;refine ⟨.tuple #[],.tup [],_,m,R.p,O,⟨[],List.Perm.refl _,List.Pairwise.nil,O,O⟩,O,?_,hR,?_⟩
  ·intro i o h;by_cases hi:i=big
   ·subst hi;rw [hob] at h;cases h;exact ⟨O,O⟩
   ·exfalso;simp only [ar] at h;rw [H0 hi] at h;cases h
  ·simp only [Rel];exact ⟨[],O,by simp only [RelL]⟩
 ·have hpos:0<l.length:=CG.2 hn;have hcl:=aK l;have hreal:(jz l).real=true:=bQ (by intro e;rw [e] at hcl;simp at hcl;omega);have hdom:=hR.dom big;rw [hob] at hdom;obtain ⟨⟨b,N⟩,hm⟩:∃ x,m big=some x:=tH.1 (hdom.trans hreal);obtain ⟨rfl,hN⟩:=h1 hpos b N hm;obtain ⟨arr,hb,harr,hle,hrl⟩:=hR.obj big _ b N hob hm;obtain ⟨hbs,hbR,_⟩:=hR.own big b N hm;obtain ⟨ds,hds,hdu⟩:=tQ hv hrl;have hdl:ds.length=l.length:=by rw [<-hds,rJ]
  have hsz:ds.toArray.size=l.length:=by rw [JX,hdl]
  have hF:=Mn (fun y:RowV w R.p=>y.us) (fun y=>y.G0) ds.toArray;have hFs:=Go.Sort.size_flatK (fun y:RowV w R.p=>y.us) 2 ds.toArray;rw [hsz] at hFs;have hH:Go.Sort.HoldsK (fun y:RowV w R.p=>y.us) 2 w b 0 ds.toArray:=by
   intro j hj;rw [hFs] at hj;have hjl:j<(aB l).length:=OC;have e1:(arr.toList.take (aB l).length)[j]? =(Go.Sort.flatK (fun y:RowV w R.p=>y.us) 2 ds.toArray).toList[j]? :=by rw [hF,<-hdu]
   rw [vR,og hjl,LZ,LZ] at e1;constructor
   ·simp only [World.cell?,hb,Dq];rw [e1,getElem!_pos _ j (by rw [hFs];exact hj)];exact Array.getElem?_eq_getElem _
   ·simp [World.frozen?,hb]
  have hcmp:CmpLays Tryz.prog 54 #[] (fun y:RowV w R.p=>y.us) 2 (fun x y=>lN x.x.v y.x.v) b 0 ds.toArray.size w:=by
   intro mm os dk _ x y;obtain ⟨A1,c1,e1,r1⟩:=x.cells hR.rsz;obtain ⟨A2,c2,e2,r2⟩:=y.cells hR.rsz;obtain ⟨_,_,_,k1,k2,_⟩:=ie (fun y:RowV w R.p=>y.us) w b mm dk os hbs;have hk:∀ b',R.p b'->b'<w.heap.size->(sortWorldK (fun y:RowV w R.p=>y.us) 2 w b 0 mm dk os).heap[b']? =w.heap[b']? :=fun b' h1 h2=>k2 b' h2 fun e=>hbR (e▸h1)
   have:=sj A1 A2 c1 c2 x.x.v y.x.v x.x.w y.x.w (sortWorldK (fun y:RowV w R.p=>y.us) 2 w b 0 mm dk os) (r1.keep k1 fun b' _ _ h1 h2=>hk b' h1 h2) (r2.keep k1 fun b' _ _ h1 h2=>hk b' h1 h2) x.len y.len;show Calls _ _ (#[.agg x.us.toArray,.agg y.us.toArray]++ #[]) _ _;rw [e1,e2,Array.append_empty];exact this
  have hgo:=AnyQ.slices_SortFunc Tryz.sortRow 2 isAgg49 sizeOf49 (fun y:RowV w R.p=>y.us) (fun y=>y.G0) (fun y=>y.one) (fun x y=>lN x.x.v y.x.v) (yP fun y:RowV w R.p=>y.x.v) 54 #[] b 0 c ds.toArray w call54 hcmp hH hbs (by rw [hsz];omega);rw [hsz] at hgo;refine Calls.mono hgo ?_;rintro e w' ⟨rfl,d',n,os,⟨hp1,_,hp2⟩,hs,rfl⟩;obtain ⟨q1,q2,q3,q4,q5,q6⟩:=ie (fun y:RowV w R.p=>y.us) w b n d' os hbs;have hd':d'.size=l.length:=hp1.trans hsz;have hperm:d'.toList.Perm ds:=by
   have e1:d'.extract 0 l.length=d':=by rw [<-hd'];simp
   have e2:ds.toArray.extract 0 l.length=ds.toArray:=by rw [<-hsz];simp
   rw [e1,e2] at hp2;simpa using hp2
  have hpl:(d'.toList.map (·.x)).Perm l:=hds▸hperm.map (·.x);have hl':(d'.toList.map (·.x)).length=l.length:=hpl.length_eq;have hcl':=aK (d'.toList.map (·.x));have hF':=Mn (fun y:RowV w R.p=>y.us) (fun y=>y.G0) d';have hFs':=Go.Sort.size_flatK (fun y:RowV w R.p=>y.us) 2 d';have hob':ar [(big,jz (d'.toList.map (·.x)))] big=some (jz (d'.toList.map (·.x))):=rfl;have hreal':(jz (d'.toList.map (·.x))).real=true:=bQ (by intro e;rw [e] at hcl';simp only [Ot] at hcl';omega);have hno:∀ {l:List Rw} {i:Nat},i≠big->ar [(big,jz l)] i=none:=fun {l i} hi=>by simp only [ar];rw [H0 hi];rfl
  refine ⟨.tuple #[],.tup [],_,m,R.p,O,⟨d'.toList.map (·.x),hpl,?_,O,O⟩,O,?_,?_,?_⟩
  ·rw [List.pairwise_map,Ja];intro i j h1 h2 hij;have:=hs i j (eF _) hij (by rw [zE] at h2;omega);rw [Bh fun y:RowV w R.p=>y.x.v,getElem!_pos d' j (by simpa using h2),getElem!_pos d' i (by simpa using h1)] at this;simpa using this
  ·intro i o h;by_cases hi:i=big
   ·subst hi;rw [hob'] at h;cases h;exact ⟨O,O⟩
   ·rw [hno hi] at h;cases h
  ·refine ⟨fun i=>?_,fun i h=>?_,fun i o b' N' h h'=>?_,hR.inj,fun i b' N' h=>?_,fun b' h=>IP (hR.rsz b' h) q4,fun b' h=>hR.rfr b' h,hR.r0,⟨q1,q2,q3,q4,fun k hk hF=>q5 k hk fun e=>hF (e▸⟨big,N,hm⟩)⟩,hR.keep,hR.res⟩
   ·by_cases hi:i=big
    ·subst hi;rw [hob',hm];exact hreal'.symm
    ·rw [hno hi];have:=hR.dom i;rw [hno hi] at this;exact this
   ·by_cases hi:i=big
    ·subst hi;have:=hR.free _ h;rw [hob] at this;cases this
    ·exact hno hi
   ·by_cases hi:i=big
    ·subst hi;rw [hob'] at h;cases h;rw [hm] at h';cases h';refine ⟨_,q6 arr _ _ hb,?_,?_,?_⟩
     ·simp [Go.Sort.putCells,harr]
     ·rw [hcl',hl',<-hcl];exact hle
     ·rw [show (aB (d'.toList.map (·.x))).length=(Go.Sort.flatK (fun y:RowV w R.p=>y.us) 2 d').size by rw [hFs',hcl',rJ,zE],nT _ _ (by rw [hFs',hd',harr];omega),hF'];exact pQ (fun b' h=>q5 b' (hR.rsz b' h) fun e=>hbR (e▸h)) d'.toList
    ·rw [hno hi] at h;cases h
   ·have:=hR.own i b' N' h;exact ⟨IP this.1 q4,this.2⟩
  ·simp only [Rel];exact ⟨[],O,by simp only [RelL]⟩
end
section
open Mk Jn
structure RowOk (S:Sch) (A:List Int) (low:Int) (x:Rw):Prop where
 l:x.v.length=A.length
 v:∀ i (h:i<x.v.length) (h2:i<A.length),∀ nm,FnP Tryz.prog 179 [.agg [.str nm,.int .i64 (S.attrs.getD A[i].toNat default).2],.str x.v[i]] (· = .bool true)
 w:x.w≠0/\low<=x.w/\x.w<=100
theorem mC {S:Sch} {a:Nat} (h:a<S.attrs.length):S.attrs.getD a default=S.attrs[a]:=by simp [List.getD,h]
theorem sX (S:Sch) (hS:SJn S) (nm:ByteArray) (A:List Int) (hA:A.length<=1000) (hb:∀ a∈A,0<=a/\a<S.attrs.length) (low:Int) (x:Rw) (hx:RowOk S A low x):FnP Tryz.prog 125 [gK S,.agg [.str nm,ak A],sJ x] (· = .bool true):=by
 refine FnP.of func125 O ntmps125 OG fun m0 w0 F R0=>?_
 have hxl:=hx.l;have hSa:=hS.a;refine Z4 O O O O O<|Z4 O O O O O ?_;refine Gl O (st:=fun x_0:Nat=>mkS [(3,.ptr 0 0),(5,.ptr 2 0),(10,.pv (ak A)),(11,.pv (.int .i64 A.length)),(12,.pv (.int .i64 x_0))] [(0,oZ S),(2,.mix 49 [.pv (aI x.v),.pv (.int .i64 x.w)])] 3)
  (I:=fun x_0=>x_0<=A.length) (μ:=fun x_0=>A.length-x_0) (x0:=(0)) (Io (aS O) (aO O) O O) (eF _) ?_
 rintro j hj;refine Z1 O O ?_;refine Gp O O (fun hc13=>?_) (fun hc13=>?_)
 ·have hlj:j<A.length:=OC;obtain ⟨a,haa⟩:=rK (hb _ (aJ hlj)).1;have hal:a<S.attrs.length:=by have:=(hb _ (aJ hlj)).2;omega
  have hpv:(aE A)[j*1]? =some (.int .i64 (a:Int)):=by rw [<-haa];simp [hlj]
  have hpn:=aH hlj;have hjv:j<x.v.length:=OC;have hsv:=aM hjv;have hsn:=bc hjv;have har:=od hal;have han:=lq hal;have hvl:=hx.v j hjv hlj S.attrs[a].1;rw [haa,yR,mC hal] at hvl;refine Il<|Z2 O O O<|Rs 16 O O (ai ⟨_,underlying3,O⟩ O hpv)<|Y2 O O<|Ge O follows [0,1,2,3,4,5,6,7,8,9,10,11] OD ?_;iterate 3 refine D1 O O ?_
  refine Ds 20 [] O O O (fun τ h=>ag a underlying28 G1 (Ee h 0 O O) (Ee h 1 O O) O hal han) O OD ?_;first | refine D3 O O OF ?_ | refine D1 O O ?_
  iterate 3 refine D1 O O ?_
  refine Ds 25 [] O O O (fun τ h=>ag j underlying47 sz9 (Ee h 0 O O) (Ee h 1 O O) O hjv hsn) O OD<|Ds 26 [] O O O (fun τ h=>ai ⟨_,underlying9,O⟩ (Ee h 0 O O) hsv) O OD<|Ds 27 [] O O O (fun τ h=>ae call179 hvl (h.bt O)) O OD<|D1 O O ?_;refine ⟨OD,?_⟩;refine Gc O O (fun hc28=>absurd hc28 OG) (fun hc28=>?_);exact Il<|Z2 O O O<|⟨(j+1),Io (aS O) (aO O) O O,OC,OC⟩
 ·exact Gx O<|Z1 O O<|Gt O<|⟨_,_,O,O,O⟩
structure TblOk (S:Sch) (A:List Int) (low:Int) (l:List Rw):Prop where
 row:∀ x∈l,RowOk S A low x
 asc:Aj l
theorem xS {l:List Rw} (h:Aj l) {k:Nat} (hk:k+1<l.length):aZ l[k].v l[k+1].v=true:=by
 unfold Aj at h;rw [Ja] at h;exact h k (k+1) OC hk OC
theorem jd (S:Sch) (hB:SB S) (hS:SJn S) (hV:cI S=0) (r:Nat) (hr:r<S.rels.length) (l:List Rw) (most low:Int) (hm:(l.length:Int)<=most) (hl:l.length<=1000) (hT:TblOk S S.rels[r].2 low l):FnP Tryz.prog 83 [gK S,.int .i64 r,bL l,.int .i64 most,.int .i64 low] (· = .int .i64 0):=by
 refine FnP.of func83 O ntmps83 OG fun m0 w0 F R0=>?_
 have hchk:=tN S hB;rw [hV] at hchk;have hrow:=cW hr;have hrne:=ew hr;have hrl:=hS.l _ (aJ hr);have hrb:=hS.b _ (aJ hr);have hSr:=hS.r;have hval:=fun (x:Rw) (hx:RowOk S S.rels[r].2 low x)=>sX S hS S.rels[r].1 S.rels[r].2 hrl hrb low x hx
 have hTr:=hT.row;have hTa:=hT.asc;clear hT;generalize S.rels[r]=rr at*;refine Z2 O O O<|Z1 O O<|Rs 16 O O (ae call81 hchk O)<|Y2 O O ?_;refine Gc O O (fun hc14=>absurd hc14 OG) (fun hc14=>?_);refine Z3 O O O O ?_;apply Ix 6 23 29 [24,25,26,27,28] O ON
 ·intro hb2;iterate 6 refine A1 O ?_
  exact Iq OM O O O
 ·intro hb2;iterate 6 refine A1 O ?_
  exact Iq OM O O O
 refine A1 O ?_;refine Gc O O (fun hc20=>absurd hc20 (fun h=>by simp at h;omega)) (fun hc20=>?_);refine Gr O ?_;iterate 5 refine A1 O ?_
 refine Gp O O (fun hc30=>absurd hc30 OC) (fun hc30=>?_);refine Il<|Z4 O O O O O ?_;first | refine A3 O OF ?_ | refine A1 O ?_
 refine Y2 O O<|Z3 O O O O ?_;refine Gl O (st:=fun x_0:Nat=>mkS [(2,.pv (bL l)),(4,.pv (.int .i64 low)),(5,.ptr 0 0),(11,.ptr 1 0),(40,.pv (bL l)),(41,.pv (.int .i64 l.length)),(42,.pv (.int .i64 x_0))] [(0,oZ S),(1,.mix 30 [.pv (.str rr.1),.pv (ak rr.2)])] 2)
  (I:=fun x_0=>x_0<=l.length) (μ:=fun x_0=>l.length-x_0) (x0:=(0)) (Io (aS O) (aO O) O O) (eF _) ?_
 rintro k hk;refine Z1 O O ?_;refine Gp O O (fun hc43=>?_) (fun hc43=>?_)
 ·have hlt:k<l.length:=OC;have hrw:=aN hlt;have hrn:=aW hlt;have hxo:=hTr _ (aJ hlt);have hvk:=hval _ hxo;have hxl:=hxo.l;obtain ⟨hw1,hw2,hw3⟩:=hxo.w;have hprev:0<k->∃ hq:k-1<l.length,aZ (l[k-1]'hq).v l[k].v=true:=fun h0=>by
   obtain ⟨j,rfl⟩:∃ j,k=j+1:=⟨k-1,OC⟩;exact ⟨by simp only [Nat.add_sub_cancel];omega,by simpa using xS hTa hlt⟩
  have hpl:∀ hq:k-1<l.length,(l[k-1]'hq).v.length=rr.2.length:=fun hq=>(hTr _ (aJ hq)).l
  have hpr:∀ hq:k-1<l.length,(aB l)[(k-1)*2]? =some (aI (l[k-1]'hq).v):=fun hq=>nr hq
  clear hxo;generalize l[k]=x at*;refine Il<|Z2 O O O ?_;first | refine A3 O OF ?_ | refine A1 O ?_
  refine Y3 O O O<|Gr O ?_;iterate 8 refine A1 O ?_
  refine Gc O O (fun hc47=>absurd hc47 OH) (fun hc47=>?_);refine Z3 O O O O<|Rs 59 O O (ae call125 hvk O)<|Y2 O O ?_;refine Gc O O (fun hc55=>absurd hc55 OG) (fun hc55=>?_);refine Z4 O O O O O ?_;apply Ix 5 65 70 [66,67,68,69] O ON
  ·intro hb3;iterate 5 refine A1 O ?_
   exact Iq OM O O O
  ·intro hb3;iterate 5 refine A1 O ?_
   exact Iq OM O O O
  refine A1 O ?_;apply Ix 4 71 75 [72,73,74] O ON
  ·intro hb9;iterate 4 refine A1 O ?_
   exact Iq OM O O O
  ·intro hb9;iterate 4 refine A1 O ?_
   exact Iq OM O O O
  refine A1 O ?_;refine Gc O O (fun hc61=>absurd hc61 (fun h=>by simp at h;omega)) (fun hc61=>?_);by_cases hk0:k=0
  ·refine Ge O follows [0,1,2,3,4,5,6,7,8,9,10,11,12,13,14] OD<|D1 O O<|Ds 78 [] O O O (fun τ h=>XJ.cast (v':= .pv (.bool false)) (aQ (Ee h 0 O O) (Ee h 1 O O) O) (af (fun b=>V.pv (.bool b)) (Et OC))) O OD ?_;iterate 13 refine D1 O O ?_
   refine ⟨OD,?_⟩;refine Gc O O (fun hc76=>absurd hc76 OG) (fun hc76=>?_);exact Il<|Z2 O O O<|⟨(k+1),Io (aS O) (aO O) O O,OC,OC⟩
  ·obtain ⟨hq,hls⟩:=hprev OC;have hjl:=xb _ x.v (by rw [hpl hq];omega) OC;rw [hls] at hjl;have hpq:=hpr hq;refine Ge O follows [0,1,2,3,4,5,6,7,8,9,10,11,12,13,14] OD<|D1 O O<|Ds 78 [] O O O (fun τ h=>XJ.cast (v':= .pv (.bool true)) (aQ (Ee h 0 O O) (Ee h 1 O O) O) (af (fun b=>V.pv (.bool b)) (x7 OC))) O OD ?_;iterate 4 refine D1 O O ?_
   refine Dg 83 [] O O O O (fun τ h=>ag (k-1) underlying38 lM (Ee h 0 O O) (Ee h 1 O O) OC hq hrn) O OD<|D1 O O<|Dg 85 [] O O O O (fun τ h=>ai ⟨_,underlying47,O⟩ (Ee h 0 O O) hpq) O OD ?_;iterate 2 refine D1 O O ?_
   refine Dg 88 [] O O O O (fun τ h=>ae call32 hjl (h.bt O)) O OD ?_;iterate 3 refine D1 O O ?_
   refine ⟨OD,?_⟩;refine Gc O O (fun hc76=>absurd hc76 OG) (fun hc76=>?_);exact Il<|Z2 O O O<|⟨(k+1),Io (aS O) (aO O) O O,OC,OC⟩
 ·exact Gx O<|Z1 O O<|Gt O<|⟨_,_,O,O,O⟩
theorem CQ (S:Sch) (hB:SB S) (hS:SJn S) (hV:cI S=0) (r:Nat) (hr:r<S.rels.length) (l:List Rw) (hl:l.length<=60) (hT:TblOk S S.rels[r].2 1 l):FnP Tryz.prog 45 [gK S,.int .i64 r,bL l] (· = .int .i64 0):=by
 refine FnP.of func45 O ntmps45 OG fun m0 w0 F R0=>?_
 have hr:=jd S hB hS hV r hr l 60 1 OC OC hT;exact Z2 O O O<|Z3 O O O O<|Rs 10 O O (ae call83 hr O)<|A1 O<|Gt O<|⟨_,_,O,O,O⟩
theorem Cl (S:Sch) (hB:SB S) (hS:SJn S) (hV:cI S=0) (d:List (List Rw)) (hd:d.length=S.rels.length) (hl:∀ l∈d,l.length<=60) (hT:∀ r (h:r<d.length) (h2:r<S.rels.length),TblOk S S.rels[r].2 1 d[r]):FnP Tryz.prog 36 [gK S,dbP d] (· = .int .i64 0):=by
 refine FnP.of func36 O ntmps36 OG fun m0 w0 F R0=>?_
 have hchk:=tN S hB;rw [hV] at hchk;have hSr:=hS.r;have hdl:=dH d;refine Z2 O O O<|Z1 O O<|Rs 10 O O (ae call81 hchk O)<|A1 O<|Z2 O O O ?_;refine Gc O O (fun hc12=>?_) (fun hc12=>?_)
 ·exact Z2 O O O<|Gt O<|⟨_,_,O,O,O⟩
 ·refine Il<|Gr O ?_;iterate 6 refine A1 O ?_
  refine Gc O O (fun hc19=>absurd hc19 OH) (fun hc19=>?_);refine Il<|Z3 O O O O ?_;refine Gl O (st:=fun x_0:Nat=>mkS [(2,.ptr 0 0),(20,.pv (dbP d)),(21,.pv (.int .i64 d.length)),(22,.pv (.int .i64 x_0))] [(0,oZ S)] 1)
   (I:=fun x_0=>x_0<=d.length) (μ:=fun x_0=>d.length-x_0) (x0:=(0)) (Io (aS O) (aO O) O O) (eF _) ?_
  rintro k hk;refine Z1 O O ?_;refine Gp O O (fun hc23=>?_) (fun hc23=>?_)
  ·have hlt:k<d.length:=OC;have htr:=cD hlt;have htn:=dN hlt;have hto:=CQ S hB hS hV k OC d[k] (hl _ (aJ hlt)) (hT k hlt OC);generalize d[k]=tk at*;refine Il<|Z1 O O<|Rs 25 O O (ag k underlying36 qk O O O hlt htn)<|Rs 26 O O (ai ⟨_,underlying38,O⟩ O htr)<|Y2 O O<|Z3 O O O O<|Rs 30 O O (ae call45 hto O)<|A1 O<|Z2 O O O ?_;refine Gc O O (fun hc32=>absurd hc32 OG) (fun hc32=>?_);exact Il<|Z2 O O O<|⟨(k+1),Io (aS O) (aO O) O O,OC,OC⟩
  ·exact Gx O<|Z1 O O<|Gt O<|⟨_,_,O,O,O⟩
end
section
open Mk Jn
def Lh (σ:Asg ByteArray):List Int->List ByteArray->Asg ByteArray
 | a::A,x::v=>Lh (put σ a x) A v
 | _,_=>σ
theorem Fz:∀ {A:List Int} {v:List ByteArray} {σ:Asg ByteArray} {b:Int},b∉A->Lh σ A v b=σ b
 | [],_,_,_,_=>rfl
 | _::_,[],_,_,_=>rfl
 | a::A,x::v,σ,b,h=>by
   rw [Lh,Fz fun e=>h (vf _ e),dZ _ _ fun e=>h (by rw [e];exact Kl)]
theorem Df:∀ {A:List Int} {v:List ByteArray} {σ:Asg ByteArray} {a:Int} {x:ByteArray},A.Nodup->(a,x)∈A.zip v->Lh σ A v a=some x
 | [],_,_,_,_,_,h=>by simp at h
 | _::_,[],_,_,_,_,h=>by simp at h
 | b::A,y::v,σ,a,x,hn,h=>by
   rw [Lh];rw [LX,k6] at h;rw [K1] at hn;rcases h with h | h
   ·injection h with h1 h2
    subst h1 h2;rw [Fz hn.1,cG]
   ·exact Df hn.2 h
theorem HL:∀ {A:List Int} {v:List ByteArray} {a:Int},v.length=A.length->a∈A->∃ x,(a,x)∈A.zip v
 | [],_,_,_,h=>by simp at h
 | _::_,[],_,h,_=>by simp at h
 | b::A,y::v,a,hl,h=>by
   rw [k6] at h;rcases h with rfl | h
   ·exact ⟨y,OG⟩
   ·obtain ⟨x,hx⟩:=HL (by simpa using hl) h;exact ⟨x,by rw [LX];exact vf _ hx⟩
theorem zip_fst {A:List Int} {v:List ByteArray} {a:Int} {x:ByteArray} (h:(a,x)∈A.zip v):a∈A:=(Oc h).1
theorem Jz {A:List Int} {σ:Asg ByteArray} {v:List ByteArray}:agr A σ v=true↔∀ a x,(a,x)∈A.zip v->∀ y,σ a=some y->y=x:=by
 rw [pq,nP];constructor
 ·intro h a x hm y hy;have:=h _ hm;rw [gW hy] at this;exact Kh this
 ·rintro h ⟨a,x⟩ hm;cases hs:σ a with
  | none=>exact oM hs
  | some y=>rw [gW hs];exact x7 (h a x hm y hs)
def enR:List (List Int×List Rw)->Asg ByteArray->List (Asg ByteArray)
 | [],σ=>[σ]
 | p::L,σ=>(p.2.filter fun x=>agr p.1 σ x.v).flatMap fun x=>enR L (Lh σ p.1 x.v)
def I2 (L:List (List Int×List Rw)):Prop:=∀ p∈L,p.1.Nodup/\(∀ x∈p.2,x.v.length=p.1.length)/\p.2.Pairwise fun a b=>a.v≠b.v
theorem I2.cons {p:List Int×List Rw} {L:List (List Int×List Rw)} (h:I2 (p::L)):(p.1.Nodup/\(∀ x∈p.2,x.v.length=p.1.length)/\p.2.Pairwise fun a b=>a.v≠b.v)/\I2 L:=⟨h p OG,fun q hq=>h q (by simp [hq])⟩
def In1 (τ:Asg ByteArray) (A:List Int) (v:List ByteArray):Prop:=∀ a x,(a,x)∈A.zip v->τ a=some x
theorem JE:∀ {A:List Int} {v w:List ByteArray} {τ:Asg ByteArray},v.length=A.length->w.length=A.length->In1 τ A v->In1 τ A w->v=w
 | [],[],[],_,_,_,_,_=>rfl
 | [],_::_,_,_,h,_,_,_=>by simp at h
 | [],[],_::_,_,_,h,_,_=>by simp at h
 | _::_,[],_,_,h,_,_,_=>by simp at h
 | _::_,_::_,[],_,_,h,_,_=>by simp at h
 | a::A,x::v,y::w,τ,h1,h2,k1,k2=>by
   have e1:=k1 a x OG;have e2:=k2 a y OG;rw [e1] at e2;injection e2 with e2
   rw [e2,JE (A:=A) (v:=v) (w:=w) (τ:=τ) (by simpa using h1) (by simpa using h2) (fun b z hz=>k1 b z (by rw [LX];exact vf _ hz)) (fun b z hz=>k2 b z (by rw [LX];exact vf _ hz))]
theorem Ji:∀ {L:List (List Int×List Rw)} {σ τ:Asg ByteArray},I2 L->(τ∈enR L σ↔(∀ a,(∀ p∈L,a∉p.1)->τ a=σ a)/\(∀ a x,σ a=some x->τ a=some x)/\∀ p∈L,∃ x∈p.2,In1 τ p.1 x.v)
 | [],σ,τ,_=>by
   rw [enR,fe];constructor
   ·rintro rfl;exact ⟨fun _ _=>rfl,fun _ _ e=>e,fun _ h=>by simp at h⟩
   ·rintro ⟨h,_,_⟩;funext a;exact h a fun _ hp=>by simp at hp
 | p::L,σ,τ,hR=>by
   obtain ⟨⟨hn,hl,hd⟩,hR2⟩:=hR.cons;rw [enR,AT];constructor
   ·rintro ⟨x,hx,ht⟩;obtain ⟨hx,hag⟩:=wU.1 hx;obtain ⟨h1,h2,h3⟩:=(Ji hR2).1 ht;have hag:=Jz.1 hag;refine ⟨fun a ha=>?_,fun a y hy=>?_,fun q hq=>?_⟩
    ·rw [h1 a fun q hq=>ha q (by simp [hq]),Fz (ha p OG)]
    ·by_cases hm:a∈p.1
     ·obtain ⟨z,hz⟩:=HL (hl x hx) hm;rw [hag a z hz y hy];exact h2 a z (Df hn hz)
     ·exact h2 a y (by rw [Fz hm];exact hy)
    ·rw [k6] at hq;rcases hq with rfl | hq
     ·exact ⟨x,hx,fun a z hz=>h2 a z (Df hn hz)⟩
     ·exact h3 q hq
   ·rintro ⟨h1,h2,h3⟩;obtain ⟨x,hx,hin⟩:=h3 p OG;refine ⟨x,wU.2 ⟨hx,Jz.2 fun a z hz y hy=>?_⟩,(Ji hR2).2 ⟨fun a ha=>?_,fun a y hy=>?_,fun q hq=>h3 q (by simp [hq])⟩⟩
    ·have e1:=h2 a y hy;rw [hin a z hz] at e1;exact (Ki e1).symm
    ·by_cases hm:a∈p.1
     ·obtain ⟨z,hz⟩:=HL (hl x hx) hm;rw [hin a z hz,Df hn hz]
     ·rw [Fz hm];refine h1 a fun q hq=>?_
      rw [k6] at hq;rcases hq with rfl | hq
      ·exact hm
      ·exact ha q hq
    ·by_cases hm:a∈p.1
     ·obtain ⟨z,hz⟩:=HL (hl x hx) hm;rw [Df hn hz] at hy;cases hy;exact hin a _ hz
     ·rw [Fz hm] at hy;exact h2 a y hy
theorem J7:∀ {L:List (List Int×List Rw)} {σ:Asg ByteArray},I2 L->(enR L σ).Nodup
 | [],σ,_=>by rw [enR];exact JR _ σ
 | p::L,σ,hR=>by
   obtain ⟨⟨hn,hl,hd⟩,hR2⟩:=hR.cons;rw [enR];unfold List.Nodup;rw [List.pairwise_flatMap];refine ⟨fun x _=>J7 hR2,?_⟩;have hd2:=List.Pairwise.and_mem.1 (IN (Jt (p:=fun x=>agr p.1 σ x.v)) hd);refine hd2.imp ?_;rintro x y ⟨hx,hy,hne⟩ τ hτ τ' hτ' rfl;have hx:=(wU.1 hx).1;have hy:=(wU.1 hy).1;exact hne (JE (hl x hx) (hl y hy) (fun a z hz=>((Ji hR2).1 hτ).2.1 a z (Df hn hz)) (fun a z hz=>((Ji hR2).1 hτ').2.1 a z (Df hn hz)))
theorem Lk {S:Sch} {T:List (List Rw)} {l:List Rw} (hj:IsJoin S T l) (hR:I2 (iL S T)) (hrng:∀ p∈iL S T,∀ a∈p.1,0<=a/\a<S.attrs.length) (hcov:∀ a:Nat,a<S.attrs.length->∃ p∈iL S T,(a:Int)∈p.1):l.length=(enR (iL S T) fun _=>none).length:=by
 have hmem:=fun τ=>Ji (σ:=fun _=>none) (τ:=τ) hR
 have hdom:∀ τ∈enR (iL S T) (fun _=>none),∀ a:Nat,a<S.attrs.length->(τ (a:Int)).isSome=true:=fun τ hτ a ha=>by
  obtain ⟨p,hp,hap⟩:=hcov a ha;obtain ⟨x,hx,hin⟩:=((hmem τ).1 hτ).2.2 p hp;obtain ⟨z,hz⟩:=HL ((hR p hp).2.1 x hx) hap;rw [hin _ z hz];rfl
 have hout:∀ τ∈enR (iL S T) (fun _=>none),∀ a:Int,¬ (0<=a/\a<S.attrs.length)->τ a=none:=fun τ hτ a ha=>by
  rw [((hmem τ).1 hτ).1 a fun p hp hm=>ha (hrng p hp a hm)]
 have hinj:∀ τ∈enR (iL S T) (fun _=>none),∀ τ'∈enR (iL S T) (fun _=>none),bH S.attrs.length τ=bH S.attrs.length τ'->τ=τ':=fun τ h1 τ' h2 e=>by
  funext a;by_cases ha:0<=a/\a<S.attrs.length
  ·obtain ⟨b,rfl⟩:=rK ha.1;have hb:b<S.attrs.length:=OC;obtain ⟨x,hx⟩:=tH.1 (hdom τ h1 b hb);obtain ⟨y,hy⟩:=tH.1 (hdom τ' h2 b hb);have e2:=af (fun z=>z.getD b eb) e;simp only [bH,sh,Ko,List.getElem?_range hb,LR,Lg,hx,hy] at e2;rw [hx,hy,e2]
  ·rw [hout τ h1 a ha,hout τ' h2 a ha]
 have hrow:∀ {τ:Asg ByteArray} {y:List ByteArray},(∀ a:Nat,a<S.attrs.length->τ (a:Int)=some (y.getD a eb))->∀ p∈iL S T,∀ x∈p.2,(In1 τ p.1 x.v↔p.1.map (fun a=>y.getD a.toNat eb)=x.v):=fun {τ y} hy p hp x hx=>by
  have hl:=(hR p hp).2.1 x hx;have hat:∀ a∈p.1,τ a=some (y.getD a.toNat eb):=fun a ha=>by
   have:=hrng p hp a ha;obtain ⟨b,rfl⟩:=rK this.1;rw [hy b OC,yR]
  have hA:In1 τ p.1 (p.1.map fun a=>y.getD a.toNat eb):=fun a z hz=>by
   have h1:=hat a (zip_fst hz);rw [List.zip_map_right] at hz;obtain ⟨⟨b,c⟩,hbc,e⟩:=uF.1 hz;simp only [Prod.map,id] at e;injection e with e1 e2
   have:b=c:=by
    have:=IQ.1 hbc;obtain ⟨i,hi,e3⟩:=this;rw [List.getElem_zip] at e3;injection e3 with e4 e5
    exact e4.symm.trans e5
   subst this e1;rw [h1,e2]
  constructor
  ·intro h;exact JE OG hl hA h
  ·intro h;rw [<-h];exact hA
 have hperm:(l.map (·.v)).Perm ((enR (iL S T) fun _=>none).map (bH S.attrs.length)):=by
  refine cu ?_ ?_ fun y=>?_
  ·exact List.Pairwise.map _ (fun _ _ h=>h) hj.nd
  ·unfold List.Nodup;rw [List.pairwise_map];have:=List.Pairwise.and_mem.1 (J7 (σ:=fun _=>none) hR);exact this.imp fun ⟨h1,h2,hne⟩ e=>hne (hinj _ h1 _ h2 e)
  ·constructor
   ·intro hy;obtain ⟨r,hr,rfl⟩:=uF.1 hy;obtain ⟨hl,ht⟩:=(hj.mem r).1 hr
    let τ:Asg ByteArray:=fun a=>if 0<=a/\a<S.attrs.length then some (r.v.getD a.toNat eb) else none
    have hτ:∀ a:Nat,a<S.attrs.length->τ (a:Int)=some (r.v.getD a eb):=fun a ha=>by
     show (if _ then _ else _)=_;rw [og OC,yR]
    refine uF.2 ⟨τ,(hmem τ).2 ⟨fun a ha=>ga fun hb=>?_,⟨fun a x (e:none=some x)=>(by cases e),fun p hp=>?_⟩⟩,?_⟩
    ·obtain ⟨b,rfl⟩:=rK hb.1;obtain ⟨p,hp,hm⟩:=hcov b OC;exact ha p hp hm
    ·obtain ⟨x,hx,e⟩:=j4 ht p hp;exact ⟨x,hx,(hrow hτ p hp x hx).2 e⟩
    ·apply H2
     ·rw [ef,hl]
     ·intro i h1 h2;have hi:i<S.attrs.length:=by rw [ef] at h1;exact h1
      simp only [bH,Kg,LY,hτ i hi,Lg];rw [sh,fI h2];rfl
   ·intro hy;obtain ⟨τ,hτ,rfl⟩:=uF.1 hy;have hτ2:∀ a:Nat,a<S.attrs.length->τ (a:Int)=some ((bH S.attrs.length τ).getD a eb):=fun a ha=>by
     obtain ⟨x,hx⟩:=tH.1 (hdom τ hτ a ha);simp [bH,List.getD,ha,hx]
    have hw:∃ w,Ez (bH S.attrs.length τ) (iL S T) w:=by
     have hall:∀ p∈iL S T,∃ x∈p.2,p.1.map (fun a=>(bH S.attrs.length τ).getD a.toNat eb)=x.v:=fun p hp=>by
      obtain ⟨x,hx,hin⟩:=((hmem τ).1 hτ).2.2 p hp;exact ⟨x,hx,(hrow hτ2 p hp x hx).1 hin⟩
     have:=sK (y:=bH S.attrs.length τ) (L:=iL S T) (g:=fun p=>((p.2.find? fun x=>decide (p.1.map (fun a=>(bH S.attrs.length τ).getD a.toNat eb)=x.v)).map (·.w)).getD 0) fun p hp=>by
      obtain ⟨x,hx,e⟩:=hall p hp;cases hf:p.2.find? fun x=>decide (p.1.map (fun a=>(bH S.attrs.length τ).getD a.toNat eb)=x.v) with
      | none=>exact absurd (x7 e) (by simpa using List.find?_eq_none.1 hf x hx)
      | some z=>exact ⟨z,List.mem_of_find?_eq_some hf,by simpa using List.find?_some hf,O⟩
     exact ⟨_,this⟩
    obtain ⟨w,hw⟩:=hw;exact uF.2 ⟨⟨bH S.attrs.length τ,w⟩,(hj.mem _).2 ⟨ef _ _,hw⟩,O⟩
 have:=hperm.length_eq;rwa [rJ,rJ] at this
end
section
open Mk Jn
structure DbOk (S:Sch) (d:List (List Rw)):Prop where
 hB:SB S
 hc:cI S=0
 hS:SJn S
 n:d.length=S.rels.length
 l:∀ l∈d,l.length<=12
 t:∀ r (h:r<d.length) (h2:r<S.rels.length),TblOk S S.rels[r].2 1 d[r]
 zf:∀ l∈d,∀ x∈l,∀ y∈x.v,Zf y/\y.size<=10000
noncomputable abbrev jdX (S:Sch) (T:List (List Rw)):JD:=⟨S,T,ak (lstL S),[.int .i64 (-1)],[ca (planS S)]⟩
noncomputable def joinL (S:Sch) (d:List (List Rw)):List Rw:=(o9 (jdX S (bf S d)) (ordL S (lstL S))).mergeSort fun a b=> !aZ b.v a.v
theorem qz {S:Sch} {d:List (List Rw)} (h:d.length=S.rels.length):(bf S d).length=S.rels.length:=by simp [bf,h]
theorem ur {S:Sch} {d:List (List Rw)} {r:Nat} (hd:r<d.length) (hr:r<S.rels.length) (h:r<(bf S d).length):(bf S d)[r]=gF S S.rels[r].2 d[r]:=by simp [bf]
theorem qQ {S:Sch} {d:List (List Rw)} {l:List Rw} (h:l∈bf S d):∃ l'∈d,List.Sublist l l':=by
 unfold bf at h;obtain ⟨i,hi,e⟩:=IQ.1 h;rw [List.length_zipWith] at hi;refine ⟨d[i]'OC,aJ _,?_⟩;rw [<-e,List.getElem_zipWith];exact Jt
section
variable {S:Sch} {d:List (List Rw)} (h:DbOk S d)
include h
theorem DbOk.val:Valid S:=jF h.hc
theorem DbOk.tab:TabOk S (bf S d) where
 n:=qz h.n
 l:=fun l hl=>by
  obtain ⟨l',h1,h2⟩:=qQ hl;exact uv h2.length_le (h.l l' h1)
 v:=fun r hr h2 x hx=>by
  have hd:r<d.length:=by rw [h.n];exact h2
  rw [ur hd h2] at hx;exact ((h.t r hd h2).row x (wU.1 hx).1).l
 zf:=fun l hl x hx=>by
  obtain ⟨l',h1,h2⟩:=qQ hl;exact h.zf l' h1 x (h2.subset hx)
omit h in
theorem EF {l:List Rw} (hl:l∈bf S d):∃ (r:Nat) (hd:r<d.length) (hr:r<S.rels.length),List.Sublist l d[r]:=by
 unfold bf at hl;obtain ⟨i,hi,e⟩:=IQ.1 hl;rw [List.length_zipWith] at hi;refine ⟨i,OC,OC,?_⟩;rw [<-e,List.getElem_zipWith];exact Jt
theorem DbOk.dist:∀ l∈bf S d,l.Pairwise fun a b=>a.v≠b.v:=fun l hl=>by
 obtain ⟨r,hd,hr,hs⟩:=EF hl;exact IN hs ((h.t r hd hr).asc.imp fun {a b} hab e=>by rw [e,cz] at hab;cases hab)
theorem DbOk.wts:∀ l∈bf S d,∀ x∈l,1<=x.w/\x.w<=100:=fun l hl x hx=>by
 obtain ⟨r,hd,hr,hs⟩:=EF hl;exact ((h.t r hd hr).row x (hs.subset hx)).w.2
theorem DbOk.ord:OrdOk S (ordL S (lstL S)):=G9 h.hB h.val
theorem DbOk.ctx:CtxV (jdX S (bf S d)) (ordL S (lstL S)) (planS S):=by
 have:=HF h.ord h.hS h.tab (fun a ha=>h.val.use a ha) (ak (lstL S)) [.int .i64 (-1)] [ca (planS S)];rw [<-show planS S=gT S (ordL S (lstL S)) from oj h.ord] at this;exact this
theorem DbOk.out:IsJoin S (bf S d) (o9 (jdX S (bf S d)) (ordL S (lstL S))):=Hx h.ctx h.dist
theorem DbOk.hwa:(planS S).wa=aD (ordL S (lstL S)):=by rw [show planS S=gT S (ordL S (lstL S)) from oj h.ord];rfl
theorem DbOk.hho:∀ v (hv:v<(planS S).hos.length),(planS S).hos[v]=hoL S (ordL S (lstL S)) v:=by
 rw [show planS S=gT S (ordL S (lstL S)) from oj h.ord];intro v hv;simp [gT,hoL,upZ]
omit h in
theorem fh:(joinL S d).Perm (o9 (jdX S (bf S d)) (ordL S (lstL S))):=List.mergeSort_perm _ _
theorem sN:IsJoin S (bf S d) (joinL S d) where
 mem:=fun y=>by rw [(fh (S:=S) (d:=d)).mem_iff];exact h.out.mem y
 nd:=by
  have:=h.out.nd;exact (fh.pairwise_iff fun {a b} hab=>Ne.symm hab).2 this
omit h in
theorem Ek {l:List Rw} (hs:l.Pairwise fun a b=>aZ b.v a.v=false) (hn:l.Pairwise fun a b=>a.v≠b.v):Aj l:=
 (hs.and hn).imp fun {a b} ⟨h1,h2⟩=>by
  cases h3:aZ a.v b.v with
  | true=>rfl
  | false=>exact absurd (gO h3 h1) h2
theorem tG:Aj (joinL S d):=by
 refine Ek ?_ (sN h).nd;have:=List.pairwise_mergeSort (le:=fun a b:Rw=> !aZ b.v a.v) (fun a b c h1 h2=>by
  have h1':aZ b.v a.v=false:=by simpa using h1
  have h2':aZ c.v b.v=false:=by simpa using h2
  cases h3:aZ c.v a.v with
  | false=>rfl
  | true=>
    cases h4:aZ a.v b.v with
    | true=>rw [cT h3 h4] at h2';cases h2'
    | false=>rw [gO h4 h1',h2'] at h3;cases h3) (fun a b=>by
  cases h3:aZ b.v a.v with
  | false=>rfl
  | true=>
    cases h4:aZ a.v b.v with
    | false=>rfl
    | true=>have:=cT h3 h4;rw [cz] at this;cases this) (o9 (jdX S (bf S d)) (ordL S (lstL S)))
 exact this.imp fun {a b} hab=>by simpa using hab
theorem ER {l':List Rw} (hp:l'.Perm (o9 (jdX S (bf S d)) (ordL S (lstL S)))) (hs:l'.Pairwise fun a b=>aZ b.v a.v=false):l'=joinL S d:=by
 have hn:l'.Pairwise fun a b=>a.v≠b.v:=(hp.pairwise_iff fun {a b} hab=>Ne.symm hab).2 h.out.nd
 exact vd (Ek hs hn) (tG h) fun y=>by rw [hp.mem_iff,fh.mem_iff]
theorem pL:(joinL S d).length=fl bG (jdX S (bf S d)) (ordL S (lstL S)) (bq (ordL S (lstL S)) (-1)) fun _=>none:=by
 rw [(fh (S:=S) (d:=d)).length_eq];exact y3 h.ctx
theorem DbOk.check:FnP Tryz.prog 36 [gK S,dbP d] (· = .int .i64 0):=Cl S h.hB h.hS h.hc d h.n (fun l hl=>by have:=h.l l hl;omega) h.t
theorem DbOk.new:FnO Tryz.prog 48 0 2 [.pv (gK S),.pv (dbP d)] [] (fun v ob'=>v= .ptr 0 0/\ob'=ar [(0,oX S (.pv (dbP (bf S d))) (.pv (ak (lstL S))) 1),(1,.mp [] [])]):=
 wG S h.hB h.val h.hS d h.n (fun l hl=>by have:=h.l l hl;omega) fun r hr h2 x hx=>((h.t r hr h2).row x hx).l
theorem DbOk.plan0:pr S (bf S d) (lstL S) [] [] (planS S):=Ax S h.hB h.val (bf S d) (lstL S) (iN S h.hB h.val).1 (planS S) (He S h.hB h.ord)
theorem DbOk.Dw:FnO Tryz.prog 49 2 0 [.ptr big 0] (jnO S (bf S d) (lstL S) [] []) (fun v ob'=>v=xg (joinL S d).length/\ob'=ar (jnO S (bf S d) (lstL S) [.int .i64 (-1)] [ca (planS S)])):=by
 have:=vD S (bf S d) (lstL S) [] [] (planS S) h.plan0 (ordL S (lstL S)) h.ctx;rw [pL h];exact this
end
def pJ (l:List Rw):PV:=if 2000<l.length then .tup [bL [],.int .i64 3] else .tup [bL l,.int .i64 0]
theorem fl_12 {S:Sch} {d:List (List Rw)} (h:DbOk S d):(joinL S d).length<=12^12:=by
 rw [pL h];have h1:=valL_le (gm (J:=jdX S (bf S d)) h.ctx.t12) ((bq (ordL S (lstL S)) (-1)).map (a7 (ordL S (lstL S)) (ordL S (lstL S)).length)) (fun _=>none);have h2:=qN h.ord.dP;have h3:(ordL S (lstL S)).length<=12:=n12 h.ord;exact uv h1 (Kf OE OC)
theorem iH (S:Sch) (d:List (List Rw)) (h:DbOk S d):FnP Tryz.prog 12 [gK S,dbP d] (· =pJ (joinL S d)):=by
 refine FnP.fg2 (FnP.of func12 O ntmps12 OG fun m0 w0 F R0=>?_);have hchk:=h.check;have hnew:=h.new;have hsz:=h.Dw;have h12:=fl_12 h;have hll:(aj ((((joinL S d).length:Nat):Int)).natAbs).length<=1000000:=mV (ig h12 OE);have hof:=fO 2000 OE OE;have hl2:(aj ((2000:Int)).natAbs).length<=1000000:=by rw [show (2000:Int).natAbs=2000 from O];exact mV (a:=2000) (ig (k:=4) OE OE)
 have hcmp:=gl (((joinL S d).length:Nat):Int) 2000 hll hl2;have hpl:=Cm S (bf S d) (lstL S) (planS S);have hol:(o9 (jdX S (bf S d)) (ordL S (lstL S))).length=(joinL S d).length:=fh.length_eq.symm;have htup:=fun hll=>sy S (bf S d) (lstL S) [.int .i64 (-1)] [ca (planS S)] (planS S) hpl (ordL S (lstL S)) h.ctx h.dist h.wts h.val.r2 h.hwa h.hho (o9 (jdX S (bf S d)) (ordL S (lstL S))) O hll
 have hvl:∀ x∈o9 (jdX S (bf S d)) (ordL S (lstL S)),x.v.length<=1000000:=fun x hx=>by
  have:=((h.out.mem x).1 hx).1;have:=h.hB.a;omega
 have hsrt:=fun hll=>w7 (o9 (jdX S (bf S d)) (ordL S (lstL S))) hll hvl
 have hjo:=fun l'=>ER (l':=l') h
 have hbp:∀ l,pJ l=if 2000<l.length then .tup [bL [],.int .i64 3] else .tup [bL l,.int .i64 0]:=fun l=>rfl
 clear h12 hll hl2 hvl hpl;generalize joinL S d=JL at*;generalize o9 (jdX S (bf S d)) (ordL S (lstL S))=OL at*;refine Z3 O O O O<|Z2 O O O<|Rs 11 O O (ae call36 hchk O)<|A1 O<|Z2 O O O ?_;refine Gc O O (fun hc13=>absurd hc13 OG) (fun hc13=>?_);refine Il<|Z2 O O O<|Rs 17 O O (ah [] 1 call48 hnew O O O O trivial OE O)<|A1 O<|Wk [(7,.ptr 1 0)] [(1,oX S (.pv (dbP (bf S d))) (.pv (ak (lstL S))) 2),(2,.mp [] [])] 3 (aS OD) (aO OD) O O<|Z1 O O<|Rs 19 O O (ah [1,2] 3 call49 hsz O O O O ⟨OD,OD,OK⟩ OE O)<|Rs 20 O O (ae call51 hof O)<|Rs 21 O O (ae call50 hcmp O)<|A1 O<|Wk [(7,.ptr 1 0),(22,.pv (.bool (decide (((((JL.length:Nat):Int))-2000).sign>0))))] [(1,oX S (.pv (dbP (bf S d))) (.pv (ak (lstL S))) 2),(2,.mp [.int .i64 (-1)] [ca (planS S)])] 3 (aS OD) (aO OD) O O ?_;refine Gp O O (fun hc22=>?_) (fun hc22=>?_)
 ·have hbig:2000<JL.length:=by
   have:0<(((JL.length:Nat):Int)-2000).sign:=hc22;have:=Int.sign_pos_iff.1 this;omega
  exact Z2 O O O<|Gt O<|⟨_,_,O,O,by rw [hbp,og hbig];rfl⟩
 ·have hsm:¬ 2000<JL.length:=fun hb=>hc22 (by
   have:0<(((JL.length:Nat):Int)-2000).sign:=Int.sign_pos_iff.2 OC;exact this)
  have htu:=htup OC;have hso:=hsrt OC;refine Il<|Z1 O O<|Rs 24 O O (ah [1,2] 3 call52 htu O O O O ⟨OD,OD,OK⟩ OE O)<|A1 O<|Wk [(8,.gsl 3 2 OL.length)] [(3,jz OL)] 4 (aS OD) (aO OD) O O<|Z1 O O ?_;refine RL.call O (dU (os:=[(big,jz OL)]) [3] 4 call53 (args:=[.gsl big 2 OL.length,.pv (.fn (.func 54) [] [])]) (k':=0) OD OD OD OD ⟨OD,OK⟩ OE OD hso fun v ob' hv=>?_);obtain ⟨l',hp',hs',rfl,rfl⟩:=hv;have hle:=hp'.length_eq;have hje:=hjo l' hp' hs';refine Wk [(8,.gsl 3 2 OL.length)] [(3,jz l')] 4 (aS OD) (aO OD) O O ?_;subst hje;exact Im (Ir 3 O O)<|Z3 O O O O<|Gt O<|⟨_,_,O,O,by rw [hbp,ga hsm,<-hle];rfl⟩
theorem En:∀ k n,n<10^(k+1)->(Lib.decDigits n).length<=k+1
 | 0,n,h=>by rw [Lib.decDigits,dif_pos OC];simp
 | k+1,n,h=>by
   rw [Lib.decDigits];split
   ·simp
   ·have:=En k (n/10) (by rw [Kz] at h;omega);simp only [a6,vt];omega
theorem Ff {n:Nat} (h:n<1000000000):(Lib.decDigits n).length<=1000:=by
 have:=En 8 n (by simpa using h);omega
theorem mI (S:Sch) (d:List (List Rw)) (h:DbOk S d) (hn:(joinL S d).length<1000000000):FnP Tryz.prog 13 [gK S,dbP d] (· = .tup [.str ⟨(Lib.decDigits (joinL S d).length).toArray⟩,.int .i64 0]):=by
 refine FnP.of func13 O ntmps13 OG fun m0 w0 F R0=>?_
 have hchk:=h.check;have hnew:=h.new;have hsz:=h.Dw;have hst:=lF (joinL S d).length hn (Ff hn);generalize joinL S d=JL at*;refine Z3 O O O O<|Z2 O O O<|Rs 9 O O (ae call36 hchk O)<|A1 O<|Z2 O O O ?_;refine Gc O O (fun hc11=>absurd hc11 OG) (fun hc11=>?_);exact Il<|Z2 O O O<|Rs 15 O O (ah [] 1 call48 hnew O O O O trivial OE O)<|Rs 16 O O (ah [1,2] 3 call49 hsz O O O O ⟨OD,OD,OK⟩ OE O)<|Rs 17 O O (ae call55 hst O)<|Y2 O O<|Gt O<|⟨_,_,O,O,O⟩
end
section
open Mk Jn
theorem Bv (S:Sch) (hB:SB S) (hS:SJn S) (hV:cI S=0) (r:Nat) (hr:r<S.rels.length) (l:List Rw) (hl:l.length<=120) (hT:TblOk S S.rels[r].2 (-100) l):FnP Tryz.prog 40 [gK S,.agg [.int .i64 r,bL l]] (· = .int .i64 0):=by
 refine FnP.of func40 O ntmps40 OG fun m0 w0 F R0=>?_
 have hro:=jd S hB hS hV r hr l 120 (-100) OC OC hT;refine Z3 O O O O<|Gr O ?_;iterate 5 refine A1 O ?_
 exact Rs 10 O O (ae call83 hro O)<|A1 O<|Gt O<|⟨_,_,O,O,O⟩
theorem wB (S:Sch) (d:List (List Rw)) (h:DbOk S d) (r:Nat) (hrd:r<d.length) (hr:r<S.rels.length) (x:List Rw) (hx:TblOk S S.rels[r].2 (-100) x) (hxl:x.length<8) (hne:d[r]≠[]) (hs:CU (d[r]++x)) (hA:S.rels[r].2.length<=1000)
  (nx:List Rw) (hnx:(((d[r]++x).foldl mgR []).filter fun x=> !isZ x)=nx) (hok:(nx.any fun x=>decide (x.w<0)||decide (x.w>100))=false) (hnl:nx.length<=60) (hnv:∀ y∈nx,y.v.length<=1000/\ -1000000<=y.w/\y.w<=1000000):
  FnP Tryz.prog 24 [gK S,dbP d,.agg [.int .i64 r,bL x]] (· = .tup [dbP (d.set r nx),.int .i64 0]):=by
 refine FnP.fg2 (FnP.of func24 O ntmps24 OG fun m0 w0 F R0=>?_);have hchk:=h.check;have hdel:=Bv S h.hB h.hS h.hc r hr x OC hx;have htr:=cD hrd;have htn:=dN hrd;have hrow:∀ k (hk:k<d.length),d[k].length<=12/\∀ y∈d[k],y.v.length<=1000/\ -1000000<=y.w/\y.w<=1000000:=fun k hk=>by
  have hk2:k<S.rels.length:=by have:=h.n;omega
  refine ⟨h.l _ (aJ hk),fun y hy=>?_⟩;have:=(h.t k hk hk2).row y hy;have hsl:=h.hS.l _ (aJ hk2);have hwl:=this.l;have hww:=this.w;exact ⟨OC,OC,OC⟩
 have hxr:∀ y∈x,y.v.length<=1000/\ -1000000<=y.w/\y.w<=1000000:=fun y hy=>by
  have:=hx.row y hy;have hwl:=this.l;have hww:=this.w;exact ⟨OC,OC,OC⟩
 have hdr:=hrow r hrd;have hcp:=mw d[r] 1 OC (fun y hy=>(hdr.2 y hy).1) (fun y hy=>by have:=hdr.2 y hy;omega);rw [iT] at hcp;have hall:∀ y∈d[r]++x,y.v.length<=1000/\ -1000000<=y.w/\y.w<=1000000:=fun y hy=>by
  rcases my.1 hy with hy | hy
  ·exact hdr.2 y hy
  ·exact hxr y hy
 have hso:=wK (d[r]++x) (by simp [hne]) (by rw [a6];omega) hs (fun y hy=>(hall y hy).1) (fun y hy=>(hall y hy).2);rw [hnx] at hso;have hco:=Ml nx OC 67 _ call67 (fun y _=>su y);rw [hok] at hco;have hsn:(d.set r nx).length=d.length:=tx;have hcps:∀ k (hk:k<d.length),FnP Tryz.prog 65 [bL ((d.set r nx)[k]'OC),.int .i64 1] (· =bL ((d.set r nx)[k]'OC)):=fun k hk=>by
  have:=zT ((d.set r nx)[k]'OC) 1;rw [iT] at this;rw [J2] at this ⊢;by_cases e:r=k
  ·rw [og e] at this ⊢;exact this OC (fun y hy=>(hnv y hy).1) (fun y hy=>by have:=hnv y hy;omega)
  ·rw [ga e] at this ⊢;have hk2:=hrow k hk;exact this OC (fun y hy=>(hk2.2 y hy).1) (fun y hy=>by have:=hk2.2 y hy;omega)
 have hdl:=dH d;have hdn:d.length<=1000:=by have:=h.n;have:=h.hS.r;omega
 have hrp:0<d[r].length:=CG.2 hne;have hrc:=aK d[r];have hxc:=aK x;have hxlf:=dw x;have hxa:=fj d[r] x;have hge:∀ k (hk:k<d.length),((d.set r nx)[k]'OC)=if r=k then nx else d[k]:=fun k hk=>J2 ..
 have hel:r<d.length:=hrd;have hdr12:=hdr.1;have hso2:FnP Tryz.prog 25 [.sl none (d[r].length+x.length) (aB d[r]++aB x)] (· =bL nx):=by rw [<-hxa,<-a6];exact hso
 clear hrow hdr hall hnx hs hok hxr;refine Z4 O O O O O<|Z2 O O O<|Rs 16 O O (ae call36 hchk O)<|A1 O<|Z2 O O O ?_;refine Gc O O (fun hc18=>absurd hc18 OG) (fun hc18=>?_);refine Il<|Z2 O O O<|Rs 22 O O (ae call40 hdel O)<|A1 O<|Z2 O O O ?_;refine Gc O O (fun hc24=>absurd hc24 OG) (fun hc24=>?_);refine Il<|Ge O follows [0,1,2,3,4,5,6,7,8,9,10] OD ?_;iterate 3 refine D1 O O ?_
 refine Ds 29 [] O O O (fun τ h=>ag r underlying36 qk (Ee h 0 O O) (Ee h 1 O O) O hrd htn) O OD<|Ds 30 [] O O O (fun τ h=>ai ⟨_,underlying38,O⟩ (Ee h 0 O O) htr) O OD<|Ds 31 [] O O O (fun τ h=>ah [] 2 call65 hcp (h.args.trans O) O O O trivial OE ((Lu _).trans (h.n 0 _ O))) O OD ?_;iterate 2 refine D1 O O ?_
 refine Ds 34 [2] O O O (fun τ h=>sG JM (Ee h 0 O O) (Eo h 0 O O) hrc (.inl ⟨none,(Ee h 1 O O)⟩) hxc hxlf OC hrp) O OD<|Ds 35 [] O O O (fun τ h=>ae call25 hso2 (h.bt O)) O OD<|D1 O O ?_;refine ⟨OD,?_⟩;refine Wk [(1,.pv (dbP d)),(5,.ptr 1 0),(10,.pv (bL nx))] [(1,.mix 59 [.pv (.int .i64 r),.pv (bL x)])] 2 (aS OD) (aO OD) O O<|Z1 O O<|Rs 37 O O (ae call66 hco O) ?_;refine Gc O O (fun hc37=>absurd hc37 OG) (fun hc37=>?_);refine Il<|Z3 O O O O ?_;refine Gp O O (fun hc40=>absurd hc40 OC) (fun hc40=>?_);refine Il<|Z1 O O<|Im (Iu 11 2 1 38 O O)<|Z3 O O O O ?_;refine Gl O (st:=fun x_0:Nat×List (List Rw)=>mkS [(5,.ptr 1 0),(10,.pv (bL nx)),(11,.gsl 2 1 x_0.2.length),(41,.pv (dbP d)),(42,.pv (.int .i64 d.length)),(43,.pv (.int .i64 x_0.1))] [(1,.mix 59 [.pv (.int .i64 r),.pv (bL x)]),(2,.gro 38 (Cq x_0.2))] 3)
  (I:=fun x_0=>x_0.1<=d.length/\x_0.2=(d.set r nx).take x_0.1) (μ:=fun x_0=>d.length-x_0.1) (x0:=(0,[])) (Io (aS O) (aO OD) O O) (⟨eF _,O⟩) ?_
 rintro ⟨k,q⟩ ⟨hk,hq⟩;try simp only at hk hq ⊢
 refine Z1 O O ?_;refine Gp O O (fun hc44=>?_) (fun hc44=>?_)
 ·have hlt:k<d.length:=OC;have htk:=cD hlt;have htkn:=dN hlt;have hck:=hcps k hlt;have hqs:(d.set r nx).take (k+1)=q++[(d.set r nx)[k]'OC]:=by rw [aR OC,hq]
  have hgk:=hge k hlt;have hql:(Cq q).length=q.length*1:=dH q;have hqn:q.length=k:=by rw [hq,iP];omega
  refine Il<|Z1 O O<|Rs 46 O O (ag k underlying36 qk O O O hlt htkn)<|Rs 47 O O (ai ⟨_,underlying38,O⟩ O htk)<|Y2 O O<|Z4 O O O O O ?_;refine Gc O O (fun hc51=>?_) (fun hc51=>?_)
  ·have hkr0:(k:Int)=r:=by simpa using hc51
   have hkr:r=k:=OC;rw [og hkr] at hgk;rw [hgk] at hck hqs;have hsn2:=jE q nx;exact Z2 O O O<|Z2 O O O<|Rs 55 O O (ae call65 hck O)<|Y3 O O O<|Z2 O O O<|⟨(k+1,q++[nx]),Ip [0,1,4] ⟨O,O,ry (b:=V.gsl 4 1 (q.length+1)) OD (af (fun n=>V.gsl 4 1 n) (bW q nx)),O,O,O,OK⟩ ⟨OD,ry (b:=some (Ob.gro 38 (Cq q++[bL nx]))) OD (af (fun c=>some (Ob.gro 38 c)) hsn2),OK⟩ O O OE O,⟨OI,by simp only;rw [hqs]⟩,OI⟩
  ·have hkr:¬ r=k:=fun e=>by subst e;simp at hc51
   rw [ga hkr] at hgk;rw [hgk] at hck hqs;have hsn2:=jE q d[k];exact Il<|Z2 O O O<|Rs 55 O O (ae call65 hck O)<|Y3 O O O<|Z2 O O O<|⟨(k+1,q++[d[k]]),Ip [0,1,4] ⟨O,O,ry (b:=V.gsl 4 1 (q.length+1)) OD (af (fun n=>V.gsl 4 1 n) (bW q d[k])),O,O,O,OK⟩ ⟨OD,ry (b:=some (Ob.gro 38 (Cq q++[bL d[k]]))) OD (af (fun c=>some (Ob.gro 38 c)) hsn2),OK⟩ O O OE O,⟨OI,by simp only;rw [hqs]⟩,OI⟩
 ·have hqf:q=d.set r nx:=by rw [hq,bk OC]
  exact Gx O<|Im (Ir 2 O O)<|Z3 O O O O<|Gt O<|⟨_,_,O,O,by rw [hqf];rfl⟩
theorem vK (a:List Rw) (ha:a.length<=1000000) (hv:∀ x∈a,x.v.length<=1000000):FnP Tryz.prog 19 [bL a,bL a] (· = .bool true):=by
 refine FnP.of func19 O ntmps19 OG fun m0 w0 F R0=>?_
 refine Z1 O O<|Gr O ?_;iterate 5 refine A1 O ?_
 refine Gc O O (fun hc10=>absurd hc10 OG) (fun hc10=>?_);refine Il<|Z3 O O O O ?_;refine Gl O (st:=fun x_0:Nat=>mkS [(0,.pv (bL a)),(1,.pv (bL a)),(12,.pv (.int .i64 a.length)),(13,.pv (.int .i64 x_0))] [] 0)
  (I:=fun x_0=>x_0<=a.length) (μ:=fun x_0=>a.length-x_0) (x0:=(0)) (Io (aS O) trivial O O) (eF _) ?_
 rintro k hk;refine Z1 O O ?_;refine Gp O O (fun hc14=>?_) (fun hc14=>?_)
 ·have hlt:k<a.length:=OC;have hov:(aB a)[k*2+0]? =some (aI a[k].v):=nr hlt;have how:=s5 hlt;have hne:=aW hlt;have htx:=mO a[k].v a[k].v (hv _ (aJ hlt)) (hv _ (aJ hlt));rw [show decide (a[k].v=a[k].v)=true from x7 O] at htx;generalize a[k]=x at*;refine Il<|Z2 O O O<|Ge O follows [0,1,2,3,4,5,6,7,8,9,10,11,12,13,14,15,16,17,18,19,20,21,22,23,24] OD ?_;iterate 2 refine D1 O O ?_
  refine Ds 18 [] O O O (fun τ h=>ag k underlying38 lM (Ee h 0 O O) (Ee h 1 O O) O hlt hne) O OD<|D1 O O<|Ds 20 [] O O O (fun τ h=>ai ⟨_,underlying3,O⟩ (Ee h 0 O O) how) O OD ?_;iterate 2 refine D1 O O ?_
  refine Ds 23 [] O O O (fun τ h=>ag k underlying38 lM (Ee h 0 O O) (Ee h 1 O O) O hlt hne) O OD<|D1 O O<|Ds 25 [] O O O (fun τ h=>ai ⟨_,underlying3,O⟩ (Ee h 0 O O) how) O OD<|Ds 26 [] O O O (fun τ h=>XJ.cast (v':= .pv (.bool false)) (aQ (Ee h 0 O O) (Ee h 1 O O) O) (af (fun b=>V.pv (.bool b)) OG)) O OD ?_;iterate 3 refine D1 O O ?_
  refine Dg 30 [] O O O O (fun τ h=>ag k underlying38 lM (Ee h 0 O O) (Ee h 1 O O) O hlt hne) O OD<|D1 O O<|Dg 32 [] O O O O (fun τ h=>ai ⟨_,underlying47,O⟩ (Ee h 0 O O) hov) O OD ?_;iterate 2 refine D1 O O ?_
  refine Dg 35 [] O O O O (fun τ h=>ag k underlying38 lM (Ee h 0 O O) (Ee h 1 O O) O hlt hne) O OD<|D1 O O<|Dg 37 [] O O O O (fun τ h=>ai ⟨_,underlying47,O⟩ (Ee h 0 O O) hov) O OD<|Dg 38 [] O O O O (fun τ h=>ae call63 htx (h.bt O)) O OD ?_;iterate 2 refine D1 O O ?_
  refine ⟨OD,?_⟩;refine Gc O O (fun hc40=>absurd hc40 OG) (fun hc40=>?_);exact Il<|Z2 O O O<|⟨(k+1),Io (aS O) trivial O O,OC,OC⟩
 ·exact Gx O<|Z1 O O<|Gt O<|⟨_,_,O,O,O⟩
end
section
open Mk Jn
abbrev tA:ByteArray:=⟨#[97]⟩
abbrev tB:ByteArray:=⟨#[98]⟩
abbrev tC:ByteArray:=⟨#[99]⟩
abbrev tX:ByteArray:=⟨#[120]⟩
abbrev t1:ByteArray:=⟨#[49]⟩
abbrev t2:ByteArray:=⟨#[50]⟩
def prS:Sch:=⟨[(tA,1),(tB,3),(tC,1)],[(⟨#[114]⟩,[0,1]),(⟨#[113]⟩,[1,2])],[], -1⟩
def prD:List (List Rw):=[[⟨[t1,tX],2⟩],[⟨[tX,t2],3⟩]]
def prJ:List Rw:=[⟨[t1,tX,t2],6⟩]
theorem DX (nm:ByteArray):FnP Tryz.prog 179 [.agg [.str nm,.int .i64 1],.str t1] (· = .bool true):=kG nm t1 (.inr ⟨OD,by decide+kernel⟩)
theorem Hm (nm:ByteArray):FnP Tryz.prog 179 [.agg [.str nm,.int .i64 1],.str t2] (· = .bool true):=kG nm t2 (.inr ⟨OD,by decide+kernel⟩)
theorem Gn (nm:ByteArray):FnP Tryz.prog 179 [.agg [.str nm,.int .i64 3],.str tX] (· = .bool true):=qW nm tX (.inr ⟨OD,OE⟩)
theorem E1 (low:Int) (hl:low<= -2) (w:Int) (hw:w≠0/\ -2<=w/\w<=100):RowOk prS [0,1] low ⟨[t1,tX],w⟩:=by
 refine ⟨O,fun i h h2 nm=>?_,OI⟩;match i,h with
 | 0,_=>exact DX nm
 | 1,_=>exact Gn nm
theorem Da:RowOk prS [0,1] 1 ⟨[t1,tX],2⟩:=by
 refine ⟨O,fun i h h2 nm=>?_,OE⟩;match i,h with
 | 0,_=>exact DX nm
 | 1,_=>exact Gn nm
theorem Fo:RowOk prS [1,2] 1 ⟨[tX,t2],3⟩:=by
 refine ⟨O,fun i h h2 nm=>?_,OE⟩;match i,h with
 | 0,_=>exact Gn nm
 | 1,_=>exact Hm nm
theorem pr_sb:SB prS:=⟨OE,OE,OE,OE,OE,OE⟩
theorem El:cI prS=0:=OD
theorem pr_sj:SJn prS:=zq (jF El) OE OE
theorem EN {y:ByteArray} (h:y.data.toList.all (· !=0)=true):Zf y:=fun hm=>by
 have:=nP.1 h _ hm;simp at this
theorem w6:DbOk prS prD where
 hB:=pr_sb
 hc:=El
 hS:=pr_sj
 n:=rfl
 l:=OE
 t:=fun r h h2=>by
  match r,h with
  | 0,_=>
    refine ⟨fun x hx=>?_,JR _ _⟩;obtain rfl:=fe.1 hx;exact Da
  | 1,_=>
    refine ⟨fun x hx=>?_,JR _ _⟩;obtain rfl:=fe.1 hx;exact Fo
 zf:=fun l hl x hx y hy=>by
  simp only [prD,k6,Lf,or_false] at hl;rcases hl with rfl | rfl
  ·obtain rfl:=fe.1 hx;simp only [k6,Lf,or_false] at hy;rcases hy with rfl | rfl<;>exact ⟨EN OE,OE⟩
  ·obtain rfl:=fe.1 hx;simp only [k6,Lf,or_false] at hy;rcases hy with rfl | rfl<;>exact ⟨EN OE,OE⟩
theorem FB:bf prS prD=prD:=OD
theorem pr_is:IsJoin prS prD prJ where
 mem:=fun y=>by
  rw [show iL prS prD=[([0,1],[⟨[t1,tX],2⟩]),([1,2],[⟨[tX,t2],3⟩])] from O];simp only [Ez,fe,prJ];constructor
  ·rintro rfl;exact ⟨O,_,O,O,_,⟨_,O,O,1,O,O⟩,O⟩
  ·rintro ⟨hl,x,rfl,e1,w',⟨z,rfl,e2,w2,rfl,rfl⟩,e3⟩;obtain ⟨v,w⟩:=y;match v,hl with
   | [a,b,c],_=>
     simp only [jt,Jl] at e1 e2;injection e1 with h1 e1
     injection e1 with h2 e1
     injection e2 with h3 e2
     injection e2 with h4 e2
     have k1:a=t1:=h1;have k2:b=tX:=h2;have k4:c=t2:=h4;have k5:w=6:=e3;rw [k1,k2,k4,k5]
 nd:=JR _ _
theorem xB:joinL prS prD=prJ:=by
 have h:=sN w6;rw [FB] at h;exact vd (tG w6) (JR _ _) fun y=>by rw [h.mem,pr_is.mem]
theorem AU:FnP Tryz.prog 47 [] (· = .tup [gK prS,dbP prD]):=by
 refine FnP.fg2 (FnP.ofC func47 O ntmps47 OG fun m0 w0 F R0=>?_);exact Z2 O O O<|Z3 O O O O<|Rs 6 O O (aq none OG el28 O OE OE O O)<|Rs 7 O O (aq none OG xj O OE OE O O)<|A1 O<|Rs 9 O O (aq none OG xj O OE OE O O)<|A1 O<|Rs 11 O O (aq none OG el31 O OE OE O O)<|Y3 O O O<|Z1 O O<|Rs 14 O O (aq none OG uq O OE OE O O)<|A1 O<|Rs 16 O O (aq none OG JM O OE OE O O)<|Rs 17 O O (aq none OG uq O OE OE O O)<|A1 O<|Rs 19 O O (aq none OG JM O OE OE O O)<|Rs 20 O O (aq none OG el36 O OE OE O O)<|Y2 O O<|Gt O<|⟨_,_,O,O,⟨aY ⟨_,underlying34,O⟩ sz34 O O O,OK⟩,O⟩
theorem HH:TblOk prS [0,1] (-100) [⟨[t1,tX], -2⟩]:=by
 refine ⟨fun x hx=>?_,JR _ _⟩;obtain rfl:=fe.1 hx;exact E1 (-100) OE (-2) OE
theorem CD:FnP Tryz.prog 24 [gK prS,dbP prD,.agg [.int .i64 0,bL [⟨[t1,tX], -2⟩]]] (· = .tup [dbP (prD.set 0 []),.int .i64 0]):=
 wB prS prD w6 0 OE OE [⟨[t1,tX], -2⟩] HH OE (by simp [prD]) (by
  show CU [⟨[t1,tX],2⟩,⟨[t1,tX], -2⟩];refine List.pairwise_pair.2 ?_;exact cz _) OE [] OD O OE (fun y hy=>by simp at hy)
theorem pX:FnP Tryz.prog 9 [] (· = .bool true):=by
 refine FnP.of func9 O ntmps9 OG fun m0 w0 F R0=>?_
 have hbu:=iH prS prD w6;have hsi:=mI prS prD w6 (by rw [xB];decide);rw [xB] at hbu hsi;rw [show pJ prJ= .tup [bL prJ,.int .i64 0] from O] at hbu;rw [show (⟨(Lib.decDigits prJ.length).toArray⟩:ByteArray)=⟨#[49]⟩ by rw [Lib.decDigits,dif_pos OE];rfl] at hsi;have hro:=vK prJ OE OE;have hch:=w6.check;refine Z1 O O<|Gr O<|Rs 10 O O (ae call47 AU O) ?_;iterate 6 refine A1 O ?_
 refine Z2 O O O<|Rs 16 O O (ae call12 hbu O) ?_;iterate 5 refine A1 O ?_
 refine Z2 O O O<|Rs 22 O O (ae call13 hsi O) ?_;iterate 5 refine A1 O ?_
 refine Z2 O O O<|Rs 28 O O (aq none OG uq O OE OE O O)<|A1 O<|Rs 30 O O (aq none OG JM O OE OE O O)<|A1 O<|Rs 32 O O (ae call24 CD O) ?_;iterate 5 refine A1 O ?_
 refine Z4 O O O O O<|Rg 39 O O O (aq none OG uq O OE OE O O)<|A1 O<|Rg 41 O O O (aq none OG JM O OE OE O O)<|Rg 42 O O O (ae call19 hro O) ?_;iterate 7 refine A1 O ?_
 refine Rg 50 O O O (XJ.cast (v':= .pv (.bool true)) (cF O O O) (af (fun b=>V.pv (.bool b)) (Ls _))) ?_;iterate 12 refine A1 O ?_
 refine Rg 63 O O O (ag 0 underlying36 qk O O O OE (by simp [Cq,prD]))<|Rg 64 O O O (ai (v:=bL []) ⟨_,underlying38,O⟩ O O) ?_;iterate 6 refine A1 O ?_
 exact Rg 71 O O O (ae call36 hch O)<|Y3 O O O<|Gt O<|⟨_,_,O,O,O⟩
end
section
open Mk Jn
theorem E4 {v:ByteArray} {kd:Int} (h:v∈gX kd):Zf v/\v.size<=10000:=by
 have hz:∀ l:List ByteArray,(∀ y∈l,y.data.toList.all (· !=0)=true/\y.size<=10000)->v∈l->Zf v/\v.size<=10000:=fun l hl hm=>⟨EN (hl v hm).1,(hl v hm).2⟩
 unfold gX at h;split at h
 ·exact hz _ OE h
 ·split at h
  ·exact hz _ OE h
  ·exact hz _ OE h
theorem GK {l:List Rw} {B:Int} (h:∀ x∈l,x.w<=B):o0 l<=B*l.length:=by
 unfold o0;induction l with
 | nil=>simp
 | cons x l ih=>
   have h1:=h x OG;have h2:=ih fun y hy=>h y (by simp [hy])
   simp only [jt,Oi,qU];rw [LD,Int.mul_add];have:B*((1:Nat):Int)=B:=OG;omega
theorem nY {S:Sch} {A:List Int} (hk:∀ a∈S.attrs,a.2=1\/a.2=2\/a.2=3) (hA:∀ a∈A,0<=a/\a<S.attrs.length) {most:Nat} (hm:most<=20) {l:List Rw} (h:MdT S A most l):TblOk S A 1 l/\l.length<=most/\(∀ x∈l,∀ y∈x.v,Zf y/\y.size<=10000)/\∀ x∈l,x.w<=5*most:=by
 obtain ⟨l0,rfl,hl,hx⟩:=h;have hp:∀ z∈l0,0<z.w:=fun z hz=>by have:=(hx z hz).1;omega
 have hs:=tU hp;have ht:o0 l0<=5*l0.length:=GK fun x hx'=>(hx x hx').1.2
 have hmd:∀ x∈lH l0,MdV S A x.v:=fun x hx'=>by
  obtain ⟨z,hz,e⟩:=hs.val x hx';rw [e];exact (hx z hz).2
 have hw5:∀ x∈lH l0,x.w<=5*most:=fun x hx'=>by
  have h1:=zR (hs.pos hp) x hx';rw [hs.tot] at h1;omega
 refine ⟨⟨fun x hx'=>⟨(hmd x hx').1,fun i h1 h2 nm=>?_,?_⟩,hs.asc⟩,uv hs.len hl,fun x hx' y hy=>?_,hw5⟩
 ·have hv:=(hmd x hx').2 i h1 h2;have hr:=hA _ (aJ h2);refine we nm _ _ ?_ hv;have hlt:A[i].toNat<S.attrs.length:=OC;rw [mC hlt];exact hk _ (aJ hlt)
 ·have h1:=hs.pos hp x hx';have h2:=hw5 x hx';omega
 ·obtain ⟨i,hi,rfl⟩:=IQ.1 hy;have hm2:=hmd x hx';exact E4 (hm2.2 i hi (by rw [<-hm2.1];exact hi))
theorem pe {S:Sch} (hB:SB S) (hc:cI S=0) (hS:SJn S) (hk:∀ a∈S.attrs,a.2=1\/a.2=2\/a.2=3) {most:Nat} (hm:most<=12) {d:List (List Rw)} (hd:d.length=S.rels.length) (ht:∀ i (h:i<d.length) (h2:i<S.rels.length),MdT S S.rels[i].2 most d[i]):DbOk S d where
 hB:=hB
 hc:=hc
 hS:=hS
 n:=hd
 l:=fun l hl=>by
  obtain ⟨i,hi,rfl⟩:=IQ.1 hl;have:=(nY hk (hS.b _ (aJ (show i<S.rels.length by omega))) OC (ht i hi OC)).2.1;omega
 t:=fun r h h2=>(nY hk (hS.b _ (aJ h2)) OC (ht r h h2)).1
 zf:=fun l hl=>by
  obtain ⟨i,hi,rfl⟩:=IQ.1 hl;exact (nY hk (hS.b _ (aJ (show i<S.rels.length by omega))) OC (ht i hi OC)).2.2.1
theorem J3 {S:Sch} {d:List (List Rw)} (h:DbOk S d) (hn:∀ r∈S.rels,r.2.Nodup):I2 (iL S (bf S d)):=fun p hp=>by
 unfold iL at hp;obtain ⟨i,hi,rfl⟩:=IQ.1 hp;rw [LP,rJ] at hi;have h1:i<S.rels.length:=OC;have h2:i<(bf S d).length:=OC;have h3:i<d.length:=by rw [h.n];exact h1
 rw [List.getElem_zip,Kg];refine ⟨hn _ (aJ h1),fun x hx=>?_,h.dist _ (aJ h2)⟩;rw [ur h3 h1 h2] at hx;exact ((h.t i h3 h1).row x (wU.1 hx).1).l
theorem Ju {S:Sch} {d:List (List Rw)} (h:DbOk S d) (hn:∀ r∈S.rels,r.2.Nodup):(joinL S d).length=(enR (iL S (bf S d)) fun _=>none).length:=by
 have hl:=qz h.n;refine Lk (sN h) (J3 h hn) (fun p hp=>?_) fun a ha=>?_
 ·unfold iL at hp;have:=(Oc hp).1;obtain ⟨r,hr,e⟩:=uF.1 this;rw [<-e];exact h.hS.b r hr
 ·obtain ⟨r,hr,ha2⟩:=h.val.use a ha;obtain ⟨i,hi,rfl⟩:=IQ.1 hr;refine ⟨(S.rels[i].2,(bf S d)[i]'OC),?_,ha2⟩;unfold iL;rw [IQ];exact ⟨i,by rw [LP,rJ];omega,by rw [List.getElem_zip,Kg]⟩
end
section
open Mk Jn
theorem KF {S:Sch} {T:List (List Rw)} {i:Nat} (h:i<(iL S T).length) (h1:i<S.rels.length) (h2:i<T.length):(iL S T)[i]=(S.rels[i].2,T[i]):=by simp [iL]
section
variable {S:Sch} {P:List Nat} {d:List (List Rw)} (hP:P.Perm (List.range S.rels.length))
include hP
end
end
section
open Mk Jn
def wt (u:List ByteArray):List Rw->Int
 | []=>0
 | x::l=>(if x.v=u then x.w else 0)+wt u l
theorem JV (u:List ByteArray):∀ l m:List Rw,wt u (l++m)=wt u l+wt u m
 | [],m=>by simp [wt]
 | x::l,m=>by rw [F8,wt,wt,JV u l m,Int.add_assoc]
theorem NX {u:List ByteArray} {l m:List Rw} (h:l.Perm m):wt u l=wt u m:=by
 induction h with
 | nil=>rfl
 | cons x _ ih=>rw [wt,wt,ih]
 | swap x y l=>rw [wt,wt,wt,wt];omega
 | trans _ _ h1 h2=>rw [h1,h2]
theorem zk {u:List ByteArray}:∀ {l:List Rw},(∀ x∈l,x.v≠u)->wt u l=0
 | [],_=>rfl
 | x::l,h=>by rw [wt,ga (h x OG),zk fun y hy=>h y (by simp [hy])];rfl
theorem Me:∀ {l:List Rw},Aj l->∀ x∈l,wt x.v l=x.w
 | y::l,h,x,hx=>by
   have h':=Km.1 h;have hne:∀ z∈l,z.v≠y.v:=fun z hz e=>by have:=h'.1 z hz;rw [e,cz] at this;cases this
   rw [wt];rcases k6.1 hx with rfl | hx
   ·rw [og O,zk hne];omega
   ·rw [ga fun e=>hne x hx e.symm,Me h'.2 x hx];omega
theorem MQ {l:List Rw} (h:Aj l) (hz:∀ x∈l,x.w≠0) (y:Rw):y∈l↔wt y.v l=y.w/\y.w≠0:=by
 refine ⟨fun hy=>⟨Me h y hy,hz y hy⟩,fun ⟨h1,h2⟩=>?_⟩;have hex:∃ x∈l,x.v=y.v:=CP fun hn=>by
  have:=zk (u:=y.v) (l:=l) fun x hx e=>hn ⟨x,hx,e⟩
  omega
 obtain ⟨x,hx,e⟩:=hex;have hw:=Me h x hx;rw [e,h1] at hw;have:x=y:=by
  cases x;cases y;simp only at e hw;rw [e,hw]
 rw [<-this];exact hx
theorem NQ {l m:List Rw} (hl:Aj l) (hm:Aj m) (zl:∀ x∈l,x.w≠0) (zm:∀ x∈m,x.w≠0) (h:∀ u,wt u l=wt u m):l=m:=
 vd hl hm fun y=>by rw [MQ hl zl,MQ hm zm,h]
theorem sb (u:List ByteArray):∀ l:List Rw,wt u (l.filter fun x=>x.w !=0)=wt u l
 | []=>rfl
 | x::l=>by
   rw [Hf];split
   ·rw [wt,wt,sb u l]
   ·rename_i h;have:x.w=0:=by simpa using h
    rw [wt,sb u l,this];split<;>omega
theorem NK (u:List ByteArray) (x:Rw):∀ l:List Rw,wt u (dB x l)=wt u l+(if x.v=u then x.w else 0)
 | []=>by simp only [dB,wt];omega
 | z::l=>by
   rw [dB];split
   ·rw [wt,wt,NK u x l];omega
   ·split
    ·rename_i h;simp only [wt,h];split<;>omega
    ·simp only [wt];omega
theorem M7 (u:List ByteArray):∀ (l out:List Rw),wt u (l.foldl (fun out x=>dB x out) out)=wt u out+wt u l
 | [],out=>by rw [List.foldl_nil,wt];omega
 | x::l,out=>by rw [FE,M7 u l,NK,wt];omega
theorem MM:∀ (l out:List Rw),Aj out->Aj (l.foldl (fun out x=>dB x out) out)
 | [],_,h=>h
 | x::l,out,h=>by rw [FE];exact MM l _ (Ms h)
theorem DD (u:List ByteArray) (l:List Rw):wt u (lH l)=wt u l:=by
 unfold lH;rw [sb,M7,wt];omega
theorem kQ (l:List Rw):Aj (lH l):=IN Jt (MM l [] List.Pairwise.nil)
theorem I3 (l:List Rw):∀ x∈lH l,x.w≠0:=fun x hx=>by simpa using (wU.1 hx).2
theorem Md {l:List Rw}:∀ x∈lH l,∃ z∈l,x.v=z.v:=fun x hx=>by
 have h:=As l [] [] ⟨List.Pairwise.nil,fun y hy=>absurd hy OG,O,fun _ y hy=>absurd hy OG,qT _⟩;rw [Ew] at h;exact h.val x (wU.1 hx).1
theorem Mf (l:List Rw):(lH l).length<=l.length:=by
 have h:=As l [] [] ⟨List.Pairwise.nil,fun y hy=>absurd hy OG,O,fun _ y hy=>absurd hy OG,qT _⟩;rw [Ew] at h;exact uv (IE _ _) h.len
theorem NU (init:List Rw) (y x:Rw):mgR (init++[y]) x=if y.v=x.v then init++[⟨y.v,y.w+x.w⟩] else init++[y]++[x]:=by
 have hp:0<(init++[y]).length:=OG;have hl:(init++[y]).length-1=init.length:=OG;have hg:(init++[y])[(init++[y]).length-1]'OC=y:=OG;unfold mgR;rw [dif_pos hp,hg,hl];split
 ·rw [List.set_append_right _ _ (qT _),Oy];rfl
 ·rfl
theorem Jg {l:List Rw} {x:Rw} (h:Aj l) (hx:∀ y∈l,aZ y.v x.v=true):Aj (l++[x]):=
 Kv.2 ⟨h,JR _ _,fun y hy z hz=>by rw [fe.1 hz];exact hx y hy⟩
theorem NG {init:List Rw} {y:Rw} (h:Aj (init++[y])):Aj init/\∀ z∈init,aZ z.v y.v=true:=
 ⟨(Kv.1 h).1,fun z hz=>(Kv.1 h).2.2 z hz y OG⟩
theorem Nr {x y:Rw} (h:leR x y) (hne:x.v≠y.v):aZ x.v y.v=true:=by
 cases e:aZ x.v y.v with
 | true=>rfl
 | false=>exact absurd (gO e h) hne
theorem Nl:∀ (s out:List Rw),CU s->Aj out->(∀ y∈out,∀ x∈s,leR y x)->Aj (s.foldl mgR out)/\∀ u,wt u (s.foldl mgR out)=wt u out+wt u s
 | [],out,_,h,_=>⟨h,fun u=>by rw [List.foldl_nil,wt];omega⟩
 | x::s,out,hs,h,hb=>by
   have hs':=Km.1 hs;have step:Aj (mgR out x)/\(∀ u,wt u (mgR out x)=wt u out+(if x.v=u then x.w else 0))/\∀ y∈mgR out x,∀ z∈s,leR y z:=by
    rcases List.eq_nil_or_concat out with rfl | ⟨init,y,rfl⟩
    ·have e:mgR [] x=[x]:=rfl;rw [e];refine ⟨JR _ _,fun u=>by simp only [wt];omega,fun y hy z hz=>?_⟩;rw [fe.1 hy];exact hs'.1 z hz
    ·rw [List.concat_eq_append] at h hb ⊢;rw [NU];obtain ⟨ha,hl⟩:=NG h;have hyx:=hb y OG x OG;split
     ·rename_i e;refine ⟨Jg ha hl,fun u=>?_,fun z hz w hw=>?_⟩
      ·rw [JV,JV,wt,wt,wt,wt,e];simp only;split<;>omega
      ·rcases my.1 hz with hz | hz
       ·exact hb z (by simp [hz]) w (by simp [hw])
       ·rw [fe.1 hz];exact hb y OG w (by simp [hw])
     ·rename_i e;have hyl:=Nr hyx e;refine ⟨Jg h fun z hz=>?_,fun u=>?_,fun z hz w hw=>?_⟩
      ·rcases my.1 hz with hz | hz
       ·exact cT (hl z hz) hyl
       ·rw [fe.1 hz];exact hyl
      ·rw [JV u (init++[y]),wt,wt];omega
      ·rcases my.1 hz with hz | hz
       ·exact hb z hz w (by simp [hw])
       ·rw [fe.1 hz];exact hs'.1 w hw
   obtain ⟨s1,s2,s3⟩:=step;obtain ⟨r1,r2⟩:=Nl s (mgR out x) hs'.2 s1 s3;rw [FE];exact ⟨r1,fun u=>by rw [r2,s2,wt];omega⟩
theorem NZ {l s:List Rw} (hp:s.Perm l) (hs:CU s):((s.foldl mgR []).filter fun x=> !isZ x)=lH l:=by
 obtain ⟨h1,h2⟩:=Nl s [] hs List.Pairwise.nil fun y hy=>by simp at hy
 refine NQ (IN Jt h1) (kQ l) (fun x hx=>?_) (I3 l) fun u=>?_
 ·have:=(wU.1 hx).2;simpa [isZ] using this
 ·have e:wt u ((s.foldl mgR []).filter fun x=> !isZ x)=wt u (s.foldl mgR []):=sb u _;rw [e,h2,DD,wt,NX hp];omega
def WL (v:List ByteArray):List (List Int×List Rw)->Int
 | []=>1
 | p::L=>wt (p.1.map fun a=>v.getD a.toNat eb) p.2*WL v L
theorem NP {v:List ByteArray}:∀ {L:List (List Int×List Rw)} {w:Int},(∀ p∈L,Aj p.2/\∀ x∈p.2,1<=x.w)->(Ez v L w↔w=WL v L/\WL v L≠0)
 | [],w,_=>by
   show w=1↔w=1/\(1:Int)≠0;exact ⟨fun h=>⟨h,OE⟩,fun h=>h.1⟩
 | p::L,w,h=>by
   have hp:=h p OG;have ih:=fun w'=>NP (v:=v) (L:=L) (w:=w') fun q hq=>h q (by simp [hq])
   rw [WL];constructor
   ·rintro ⟨x,hx,e,w',hw',rfl⟩;obtain ⟨e1,e2⟩:=(ih w').1 hw';rw [e,Me hp.1 x hx,<-e1];refine ⟨O,?_⟩;have:=hp.2 x hx;rw [<-e1] at e2;exact Int.mul_ne_zero OC e2
   ·rintro ⟨rfl,hne⟩;have h1:wt (p.1.map fun a=>v.getD a.toNat eb) p.2≠0:=fun e=>hne (by rw [e,Int.zero_mul])
    have h2:WL v L≠0:=fun e=>hne (by rw [e,Int.mul_zero])
    have hex:∃ x∈p.2,x.v=p.1.map fun a=>v.getD a.toNat eb:=CP fun hn=>h1 (zk fun x hx e=>hn ⟨x,hx,e⟩)
    obtain ⟨x,hx,e⟩:=hex;exact ⟨x,hx,e.symm,WL v L,(ih _).2 ⟨O,h2⟩,by rw [<-e,Me hp.1 x hx]⟩
def JW (S:Sch) (d:List (List Rw)) (v:List ByteArray):Int:=WL v (iL S (bf S d))
theorem Nk {S:Sch} {d:List (List Rw)} (h:DbOk S d):∀ p∈iL S (bf S d),Aj p.2/\∀ x∈p.2,1<=x.w:=fun p hp=>by
 have hm:=(Oc hp).2;obtain ⟨r,hd,hr,hs⟩:=EF hm;exact ⟨IN hs (h.t r hd hr).asc,fun x hx=>(h.wts _ hm x hx).1⟩
theorem Aq {S:Sch} {d:List (List Rw)} (h:DbOk S d) (y:Rw):y∈joinL S d↔y.v.length=S.attrs.length/\y.w=JW S d y.v/\JW S d y.v≠0:=by
 rw [(sN h).mem,NP (Nk h)];rfl
theorem NV {S:Sch} {d:List (List Rw)} (h:DbOk S d):∀ y∈joinL S d,y.w≠0:=fun y hy=>by
 obtain ⟨_,h1,h2⟩:=(Aq h y).1 hy;rw [h1];exact h2
theorem ME {S:Sch} {d:List (List Rw)} (h:DbOk S d) (u:List ByteArray):wt u (joinL S d)=if u.length=S.attrs.length then JW S d u else 0:=by
 by_cases hl:u.length=S.attrs.length
 ·rw [og hl];by_cases hz:JW S d u=0
  ·rw [hz];refine zk fun x hx e=>?_
   obtain ⟨_,_,h2⟩:=(Aq h x).1 hx;rw [e] at h2;exact h2 hz
  ·exact Me (tG h) ⟨u,JW S d u⟩ ((Aq h _).2 ⟨hl,O,hz⟩)
 ·rw [ga hl];refine zk fun x hx e=>hl ?_
  rw [<-e];exact ((Aq h x).1 hx).1
theorem NJ (v:List ByteArray):∀ L M:List (List Int×List Rw),WL v (L++M)=WL v L*WL v M
 | [],M=>by rw [Ew,WL,Int.one_mul]
 | p::L,M=>by rw [F8,WL,WL,NJ v L M,Ou]
theorem Ni {S:Sch} {A:List Int} (u:List ByteArray) (hu:u.length=A.length):∀ l:List Rw,wt u (gF S A l)=if bE (S.rels.flatMap (·.2)) A ⟨u,0⟩=true then wt u l else 0
 | []=>by unfold gF;rw [L4,wt];split<;>rfl
 | x::l=>by
   have ih:=Ni (S:=S) u hu l;unfold gF at ih ⊢;rw [Hf];by_cases hx:x.v=u
   ·have e:bE (S.rels.flatMap (·.2)) A x=bE (S.rels.flatMap (·.2)) A ⟨u,0⟩:=by unfold bE;rw [hx]
    rw [e];by_cases hl:bE (S.rels.flatMap (·.2)) A ⟨u,0⟩=true
    ·rw [og hl,og hl] at*;rw [wt,wt,ih]
    ·rw [ga hl,ga hl] at*;exact ih
   ·have e:wt u (x::l)=wt u l:=by rw [wt,ga hx];omega
    rw [e,<-ih];split
    ·rw [wt,ga hx];omega
    ·rfl
theorem Nq {S:Sch} {d:List (List Rw)} (hn:d.length=S.rels.length) {r:Nat} (hr:r<S.rels.length) (t:List Rw):bf S (d.set r t)=(bf S d).set r (gF S S.rels[r].2 t):=by
 have hl:=qz hn;have hl2:(bf S (d.set r t)).length=S.rels.length:=qz (by rw [tx];exact hn);apply H2
 ·rw [hl2,tx,hl]
 ·intro i h1 h2;have hi:i<S.rels.length:=OC;rw [ur (by rw [tx];omega) hi,J2,J2];by_cases e:r=i
  ·subst e;rw [og O,og O]
  ·rw [ga e,ga e,ur OC hi]
theorem NC {S:Sch} {T:List (List Rw)} (hn:T.length=S.rels.length) {r:Nat} (hr:r<S.rels.length) (t:List Rw):iL S (T.set r t)=(iL S T).set r (S.rels[r].2,t):=by
 apply H2
 ·unfold iL;simp
 ·intro i h1 h2;have hi:i<S.rels.length:=by rw [tx] at h2;unfold iL at h2;rw [LP,rJ] at h2;omega
  rw [KF h1 hi (by rw [tx];omega),J2,J2];by_cases e:r=i
  ·subst e;rw [og O,og O]
  ·rw [ga e,ga e,KF (by unfold iL;rw [LP,rJ];omega) hi OC]
def KW (S:Sch) (d:List (List Rw)) (r:Nat) (v:List ByteArray):Int:=WL v ((iL S (bf S d)).take r)*WL v ((iL S (bf S d)).drop (r+1))
def uW (S:Sch) (r:Nat) (v:List ByteArray):List ByteArray:=(S.rels.getD r default).2.map fun a=>v.getD a.toNat eb
def lW (S:Sch) (r:Nat) (v:List ByteArray):Bool:=bE (S.rels.flatMap (·.2)) (S.rels.getD r default).2 ⟨uW S r v,0⟩
theorem Nh {S:Sch} {d:List (List Rw)} (hn:d.length=S.rels.length) {r:Nat} (hr:r<S.rels.length) (t:List Rw) (v:List ByteArray):JW S (d.set r t) v=KW S d r v*(if lW S r v=true then wt (uW S r v) t else 0):=by
 have hl:=qz hn;have hrl:r<(iL S (bf S d)).length:=by unfold iL;rw [LP,rJ];omega
 have eg:S.rels.getD r default=S.rels[r]:=by simp [List.getD,hr]
 unfold JW KW lW uW;rw [Nq hn hr,NC hl hr,K5,og hrl,NJ,WL,eg];simp only;rw [Ni _ OG];rw [Int.mul_comm (ite _ _ _),<-Ou]
theorem N5 {S:Sch} {d:List (List Rw)} (hn:d.length=S.rels.length) {r:Nat} (hr:r<S.rels.length) (v:List ByteArray):JW S d v=KW S d r v*(if lW S r v=true then wt (uW S r v) (d[r]'OC) else 0):=by
 have:=Nh hn hr (d[r]'OC) v;rwa [List.set_getElem_self] at this
def o7 (z:Rw):Rw:=⟨z.v,if z.w<0 then-z.w else z.w⟩
def My (z:Rw) (l:List Rw):List Rw:=if z.w<0 then l.map fun y=>⟨y.v, -y.w⟩ else l
theorem NL (u:List ByteArray):∀ l:List Rw,wt u (l.map fun y=>(⟨y.v, -y.w⟩:Rw))= -wt u l
 | []=>rfl
 | x::l=>by
   rw [jt,wt,wt,NL u l];simp only;split<;>omega
theorem N6 (u:List ByteArray) (z:Rw) (l:List Rw):wt u (My z l)=if z.w<0 then-wt u l else wt u l:=by
 unfold My;split
 ·exact NL u l
 ·rfl
noncomputable def linL (S:Sch) (d:List (List Rw)) (r:Nat) (x:List Rw):List Rw:=x.flatMap fun z=>My z (joinL S (d.set r [o7 z]))
theorem NO {S:Sch} {d:List (List Rw)} (hn:d.length=S.rels.length) {r:Nat} (hr:r<S.rels.length) (u:List ByteArray):∀ (x:List Rw),(∀ z∈x,DbOk S (d.set r [o7 z]))->
  wt u (linL S d r x)=if u.length=S.attrs.length then KW S d r u*(if lW S r u=true then wt (uW S r u) x else 0) else 0
 | [],_=>by
   show (0:Int)=_;simp [wt]
 | z::x,h=>by
   have ih:=NO hn hr u x fun y hy=>h y (by simp [hy])
   have e:linL S d r (z::x)=My z (joinL S (d.set r [o7 z]))++linL S d r x:=by unfold linL;rw [IG]
   rw [e,JV,N6,ME (h z OG),ih];by_cases hl:u.length=S.attrs.length
   ·rw [og hl,og hl,og hl,Nh hn hr];have e2:wt (uW S r u) [o7 z]=if z.v=uW S r u then (if z.w<0 then-z.w else z.w) else 0:=by
     rw [wt,wt];unfold o7;simp only;omega
    rw [e2,wt];by_cases hw:lW S r u=true
    ·rw [og hw,og hw,og hw,Int.mul_add]
     congr 1
     by_cases hv:z.v=uW S r u
     ·rw [og hv,og hv];by_cases hz:z.w<0
      ·rw [og hz,og hz,Int.mul_neg,Int.neg_neg]
      ·rw [ga hz,ga hz]
     ·rw [ga hv,ga hv];split<;>simp
    ·rw [ga hw,ga hw,ga hw];split<;>simp
   ·rw [ga hl,ga hl,ga hl];split<;>simp
theorem MD {S:Sch} {d:List (List Rw)} (h:DbOk S d) {r:Nat} (hr:r<S.rels.length) (x:List Rw) (hx:∀ z∈x,DbOk S (d.set r [o7 z])) (hnx:DbOk S (d.set r (lH ((d[r]'(by rw [h.n];exact hr))++x)))):
  lH (joinL S d++linL S d r x)=joinL S (d.set r (lH ((d[r]'(by rw [h.n];exact hr))++x))):=by
 refine NQ (kQ _) (tG hnx) (I3 _) (NV hnx) fun u=>?_
 rw [DD,JV,ME h,NO h.n hr u x hx,ME hnx];by_cases hl:u.length=S.attrs.length
 ·rw [og hl,og hl,og hl,Nh h.n hr,N5 h.n hr,DD,JV,<-Int.mul_add]
  congr 1
  split
  ·rfl
  ·rfl
 ·rw [ga hl,ga hl,ga hl];rfl
end
section
open Mk Jn
theorem MR:FnP Tryz.prog 155 [bL [],.int .i64 0,.int .i64 0,Gg] (· = .tup []):=by
 refine FnP.of func155 O ntmps155 OG fun m0 w0 F R0=>?_
 refine Z3 O O O O ?_;refine Gl O (st:=fun x_0:Unit=>mkS [(0,.pv (bL [])),(1,.pv (.int .i64 0)),(2,.pv (.int .i64 0)),(3,.pv Gg),(8,.pv (.int .i64 (0+1)))] [] 0)
  (I:=fun x_0=>True) (μ:=fun x_0=>0) (x0:=(())) (Io (aS O) trivial O O) (trivial) ?_
 rintro u hI;refine Z3 O O O O ?_;refine Gp O O (fun hc14=>absurd hc14 OC) (fun hc14=>?_);exact Gx O<|⟨_,_,O,O,O⟩
theorem MS:FnP Tryz.prog 110 [bL [],.int .i64 0,Gg] (· = .tup []):=by
 refine FnP.of func110 O ntmps110 OG fun m0 w0 F R0=>?_
 refine Z1 O O<|Z3 O O O O ?_;refine Gl O (st:=fun x_0:Unit=>mkS [(0,.pv (bL [])),(1,.pv (.int .i64 0)),(2,.pv Gg),(6,.pv (.int .i64 20)),(7,.pv (.int .i64 0)),(8,.pv (.int .i64 20))] [] 0)
  (I:=fun x_0=>True) (μ:=fun x_0=>0) (x0:=(())) (Io (aS O) trivial O O) (trivial) ?_
 rintro u hI;refine Z3 O O O O ?_;refine Gp O O (fun hc13=>absurd hc13 OC) (fun hc13=>?_);refine Gx O<|Z4 O O O O O<|Rs 27 O O (ae call155 MR O) ?_;refine Gl O (st:=fun x_1:Unit=>mkS [(0,.pv (bL [])),(1,.pv (.int .i64 0)),(2,.pv Gg),(6,.pv (.int .i64 20))] [] 0)
  (I:=fun x_1=>True) (μ:=fun x_1=>0) (x0:=(())) (Io (aS O) trivial O O) (trivial) ?_
 rintro u hI;refine Z3 O O O O ?_;refine Gp O O (fun hc30=>absurd hc30 OC) (fun hc30=>?_);exact Gx O<|⟨_,_,O,O,O⟩
theorem Mv:FnP Tryz.prog 68 [bL [],Gg] (· = .tup []):=by
 refine FnP.of func68 O ntmps68 OG fun m0 w0 F R0=>?_
 exact Z4 O O O O O<|Rs 8 O O (ae call110 MS O)<|⟨_,_,O,O,O⟩
theorem Nj:FnP Tryz.prog 109 [bL [],zF] (· = .int .i64 (-1)):=by
 refine FnP.of func109 O ntmps109 OG fun m0 w0 F R0=>?_
 refine Z1 O O<|Z3 O O O O ?_;refine Gl O (st:=fun x_0:Unit=>mkS [(0,.pv (bL [])),(1,.pv zF),(7,.pv (.int .i64 0)),(8,.pv (.int .i64 0))] [] 0)
  (I:=fun x_0=>True) (μ:=fun x_0=>0) (x0:=(())) (Io (aS O) trivial O O) (trivial) ?_
 rintro u hI;refine Z1 O O ?_;refine Gp O O (fun hc9=>absurd hc9 OG) (fun hc9=>?_);exact Gx O<|Z1 O O<|Gt O<|⟨_,_,O,O,O⟩
theorem Ng:FnP Tryz.prog 70 [bL [],zF] (· =bL []):=by
 refine FnP.of func70 O ntmps70 OG fun m0 w0 F R0=>?_
 refine Z1 O O<|Z2 O O O<|Rs 10 O O (ae call109 Nj O)<|A1 O<|Z2 O O O ?_;refine Gc O O (fun hc12=>?_) (fun hc12=>absurd hc12 OG);exact Z2 O O O<|Gt O<|⟨_,_,O,O,O⟩
theorem MV:FnP Tryz.prog 25 [bL []] (· =bL []):=by
 refine FnP.fg2 (FnP.of func25 O ntmps25 OG fun m0 w0 F R0=>?_);have hcp:=zT [] 1 OE (fun x h=>by simp at h) (fun x h=>by simp at h);refine Z1 O O<|Z1 O O<|Rs 9 O O (ae call65 hcp O)<|A1 O<|Z1 O O<|Rs 11 O O (ae call68 Mv O)<|Z1 O O<|Z3 O O O O ?_;refine Gl O (st:=fun x_0:Unit=>mkS [(4,.pv nS),(12,.pv (bL [])),(13,.pv (.int .i64 0)),(14,.pv (.int .i64 0))] [] 0)
  (I:=fun x_0=>True) (μ:=fun x_0=>0) (x0:=(())) (Io (aS O) trivial O O) (trivial) ?_
 rintro u hI;refine Z1 O O ?_;refine Gp O O (fun hc15=>absurd hc15 OG) (fun hc15=>?_);exact Gx O<|Z1 O O<|Rs 50 O O (ae call70 Ng O)<|A1 O<|Gt O<|⟨_,_,O,O,O⟩
theorem Mi (l:List Rw) (hn:l.length<=1000) (hv:∀ x∈l,x.v.length<=1000) (hw:∀ x∈l, -1000000<=x.w/\x.w<=1000000):FnP Tryz.prog 25 [bL l] (· =bL (lH l)):=by
 by_cases h0:l=[]
 ·subst h0;exact MV
 ·refine (MT l h0 hn hv hw).mono ?_;rintro v ⟨s,hp,hs,rfl⟩;rw [NZ hp hs]
end
section
section
variable {C:Ctx} {n:Nat} {σ:St} {dst:Option Tmp} {ty t:TypeId} {pos:String} {after:Array Edge} {gd:Option (Nat×Bool)} {x y:Operand}
theorem Ka {e:TypeId} {z:Value} {size bytes j id:Nat} {news:List PV} (he:ElemIs C.P t e z size bytes) (hs:σ.ev n x= .gsl id size 0)
  (hsrc:jA n σ y j news) (hl:news.length=j*size) (hlf:∀ c∈news,c.leaf=true) (hb:j<=1000000000) (hj:0<j):
  XJ C n ⟨dst,.call { callee:= .builtin .append,args:= #[x,y],argTypes:= #[t,t] },ty,pos,after,gd⟩ σ ⟨.pv (.sl none j news),[(id,none)],[]⟩:=by
 rintro a w Q ⟨m,R,hw⟩;obtain ⟨A0,c,hev,hkc,hcm,hz,hp⟩:=hw.gsl hs;obtain ⟨rfl,rfl,hmn⟩:=hz O;obtain ⟨A,c2,us,hev2,hr2,hrow⟩:=hsrc.row hw;have sub:∀ i x,upd m id none i=some x->m i=some x/\i≠id:=fun i x e=>by
  by_cases hi:i=id
  ·subst hi;rw [au] at e;cases e
  ·rw [aG _ _ hi] at e;exact ⟨e,hi⟩
 refine iG x y t O 0 e z size bytes he.u he.info he.zs he.pos he.by_ _ 0 j c2 A _ us hev hev2 (World.ownsRow_nil w 0 e size) hrow (by rw [hr2.length,hl]) (bU hr2 hlf) OC (eF _) ?_;intro A' c' w' hown' hgr hat
 simp only [Dq,Ew] at hown' hat ⊢;rcases hown'.2 with ⟨hv,h0⟩ | ⟨g,cap,cur,hv,_,hg,hkc',hcm',hcs',htk⟩
 ·omega
 ·simp only [Value.slice.injEq] at hv;obtain ⟨rfl, -,rfl⟩:=hv;have gge:w.heap.size<=g:=by
   rcases hat with h | ⟨g',h,hle⟩
   ·simp [Value.ownBlock] at h
   ·simp only [Value.ownBlock,uT] at h;subst h;exact hle
  have hul:us.length=j*size:=hown'.1;refine ⟨_,O,upd m id none,fun b=>R b\/b=g,?_⟩;rw [Iw];refine SW.put ((hw.drop id).HI hg hgr (fun q hq=>by simp [Value.ownBlock] at hq) (fun i b' N' hi e=>?_) (.inr ?_)) dst ?_
  ·have:=(hw.hr.own i b' N' (sub i _ hi).1).1;omega
  ·have:=hw.hr.frame.size;omega
  simp only [Rel,RelP];refine ⟨_,c',O,hkc',hcm',fun b h=>(by cases h),fun h=>(by cases h),fun _=>⟨g,0,us,rfl,?_,.inr rfl,fun q hq=>?_⟩⟩
  ·exact hr2.mono fun b' hb'=>⟨.inl hb',hgr.block b' (hw.hr.rsz b' hb') fun e=>by simp [Value.ownBlock] at e⟩
  ·simp only [World.cell?,hg,Dq];rw [<-htk,<-hul,vR,og hq,LZ];rfl
theorem Mt {e:TypeId} {z:Value} {size bytes id:Nat} (he:ElemIs C.P t e z size bytes) (hs:σ.ev n x= .gsl id size 0) (hsrc:jA n σ y 0 []):
  XJ C n ⟨dst,.call { callee:= .builtin .append,args:= #[x,y],argTypes:= #[t,t] },ty,pos,after,gd⟩ σ ⟨.pv (.sl none 0 []),[(id,none)],[]⟩:=by
 rintro a w Q ⟨m,R,hw⟩;obtain ⟨A0,c,hev,hkc,hcm,hz,hp⟩:=hw.gsl hs;obtain ⟨rfl,rfl,hmn⟩:=hz O;obtain ⟨A,c2,us,hev2,hr2,hrow⟩:=hsrc.row hw;obtain ⟨i,hi,_⟩:=info_parts he.info;have hrun:(Builtin.append_ #[t,t] ty #[.slice none 0 0,.slice A 0 c2]).run C.P w= .ok (.slice none 0 0) w:=by
  cases A<;>simp [Builtin.append_,run_underlying he.u,sizeOf,typeInfo,hi,Builtin.lenOf,Builtin.firstCells,loadCells,loadCellsFrom]
 unfold Oper.wp execOp;simp only [resolve,invoke,builtin,Sem.run_bind,Sem.run_pure,Result.andThen_ok,Lq,jt,Jl,hev,hev2,hrun];refine ⟨_,O,upd m id none,R,?_⟩;rw [Iw];refine SW.put (hw.drop id) dst ?_;simp only [Rel,RelP];exact ⟨none,0,O,qT _,by simp [maxLen],fun b h=>(by cases h),fun h=>(by cases h),fun h=>absurd rfl h⟩
theorem MH {e:TypeId} {z:Value} {size bytes k j id:Nat} {cs news:List PV} (he:ElemIs C.P t e z size bytes) (hs:σ.ev n x= .gsl id size k) (ho:σ.ob id=some (.gro e cs)) (hcs:cs.length=k*size)
  (hsrc:jA n σ y j news) (hl:news.length=j*size) (hlf:∀ c∈news,c.leaf=true) (hb:k+j<=1000000000):
  XJ C n ⟨dst,.call { callee:= .builtin .append,args:= #[x,y],argTypes:= #[t,t] },ty,pos,after,gd⟩ σ ⟨.pv (.sl none (k+j) (cs++news)),[(id,none)],[]⟩:=by
 rcases J6 k with rfl | hk
 ·obtain rfl:cs=[]:=vG (by simpa using hcs);rw [Dq,Ew];rcases J6 j with rfl | hj
  ·obtain rfl:news=[]:=vG (by simpa using hl);exact Mt he hs hsrc
  ·exact Ka he hs hsrc hl hlf OC hj
 ·exact sG he hs ho hcs hsrc hl hlf hb hk
end
end
section
open Mk Jn
theorem MF (S:Sch) (d:List (List Rw)) (h:DbOk S d) (r:Nat) (hrd:r<d.length) (hr:r<S.rels.length) (x:List Rw) (hx:TblOk S S.rels[r].2 (-100) x) (hxl:x.length<8) (hA:S.rels[r].2.length<=1000) (b:Bool) (hb:((lH (d[r]++x)).any fun x=>decide (x.w<0)||decide (x.w>100))=b):
  FnP Tryz.prog 24 [gK S,dbP d,.agg [.int .i64 r,bL x]] (· =if b=true then .tup [dbP [],.int .i64 11] else .tup [dbP (d.set r (lH (d[r]++x))),.int .i64 0]):=by
 refine FnP.fg2 (FnP.of func24 O ntmps24 OG fun m0 w0 F R0=>?_);have hchk:=h.check;have hdel:=Bv S h.hB h.hS h.hc r hr x OC hx;have htr:=cD hrd;have htn:=dN hrd;have hrow:∀ k (hk:k<d.length),d[k].length<=12/\∀ y∈d[k],y.v.length<=1000/\ -1000000<=y.w/\y.w<=1000000:=fun k hk=>by
  have hk2:k<S.rels.length:=by have:=h.n;omega
  refine ⟨h.l _ (aJ hk),fun y hy=>?_⟩;have:=(h.t k hk hk2).row y hy;have hsl:=h.hS.l _ (aJ hk2);have hwl:=this.l;have hww:=this.w;exact ⟨OC,OC,OC⟩
 have hxr:∀ y∈x,y.v.length<=1000/\ -1000000<=y.w/\y.w<=1000000:=fun y hy=>by
  have:=hx.row y hy;have hwl:=this.l;have hww:=this.w;exact ⟨OC,OC,OC⟩
 have hdr:=hrow r hrd;have hcp:=mw d[r] 1 OC (fun y hy=>(hdr.2 y hy).1) (fun y hy=>by have:=hdr.2 y hy;omega);rw [iT] at hcp;have hall:∀ y∈d[r]++x,y.v.length<=1000/\ -1000000<=y.w/\y.w<=1000000:=fun y hy=>by
  rcases my.1 hy with hy | hy
  ·exact hdr.2 y hy
  ·exact hxr y hy
 have hso:=Mi (d[r]++x) (by rw [a6];omega) (fun y hy=>(hall y hy).1) (fun y hy=>(hall y hy).2);have hnl:(lH (d[r]++x)).length<=60:=by
  have:=Mf (d[r]++x);rw [a6] at this;omega
 have hnv1:∀ y∈lH (d[r]++x),y.v.length<=1000:=fun y hy=>by
  obtain ⟨z,hz,e⟩:=Md y hy;rw [e];exact (hall z hz).1
 have hnv:b=false->∀ y∈lH (d[r]++x),y.v.length<=1000/\ -1000000<=y.w/\y.w<=1000000:=fun e y hy=>by
  rw [e,List.any_eq_false] at hb;have:=hb y hy;simp at this;exact ⟨hnv1 y hy,OC,OC⟩
 generalize lH (d[r]++x)=nx at*;have hco:=Ml nx OC 67 _ call67 (fun y _=>su y);rw [hb] at hco;have hsn:(d.set r nx).length=d.length:=tx;have hcps:b=false->∀ k (hk:k<d.length),FnP Tryz.prog 65 [bL ((d.set r nx)[k]'OC),.int .i64 1] (· =bL ((d.set r nx)[k]'OC)):=fun hbf k hk=>by
  have hnv:=hnv hbf;have:=zT ((d.set r nx)[k]'OC) 1;rw [iT] at this;rw [J2] at this ⊢;by_cases e:r=k
  ·rw [og e] at this ⊢;exact this OC (fun y hy=>(hnv y hy).1) (fun y hy=>by have:=hnv y hy;omega)
  ·rw [ga e] at this ⊢;have hk2:=hrow k hk;exact this OC (fun y hy=>(hk2.2 y hy).1) (fun y hy=>by have:=hk2.2 y hy;omega)
 have hdl:=dH d;have hdn:d.length<=1000:=by have:=h.n;have:=h.hS.r;omega
 have hrc:=aK d[r];have hxc:=aK x;have hxlf:=dw x;have hxa:=fj d[r] x;have hge:∀ k (hk:k<d.length),((d.set r nx)[k]'OC)=if r=k then nx else d[k]:=fun k hk=>J2 ..
 have hel:r<d.length:=hrd;have hdr12:=hdr.1;have hso2:FnP Tryz.prog 25 [.sl none (d[r].length+x.length) (aB d[r]++aB x)] (· =bL nx):=by rw [<-hxa,<-a6];exact hso
 clear hrow hdr hall hxr;refine Z4 O O O O O<|Z2 O O O<|Rs 16 O O (ae call36 hchk O)<|A1 O<|Z2 O O O ?_;refine Gc O O (fun hc18=>absurd hc18 OG) (fun hc18=>?_);refine Il<|Z2 O O O<|Rs 22 O O (ae call40 hdel O)<|A1 O<|Z2 O O O ?_;refine Gc O O (fun hc24=>absurd hc24 OG) (fun hc24=>?_);refine Il<|Ge O follows [0,1,2,3,4,5,6,7,8,9,10] OD ?_;iterate 3 refine D1 O O ?_
 refine Ds 29 [] O O O (fun τ h=>ag r underlying36 qk (Ee h 0 O O) (Ee h 1 O O) O hrd htn) O OD<|Ds 30 [] O O O (fun τ h=>ai ⟨_,underlying38,O⟩ (Ee h 0 O O) htr) O OD<|Ds 31 [] O O O (fun τ h=>ah [] 2 call65 hcp (h.args.trans O) O O O trivial OE ((Lu _).trans (h.n 0 _ O))) O OD ?_;iterate 2 refine D1 O O ?_
 refine Ds 34 [2] O O O (fun τ h=>MH JM (Ee h 0 O O) (Eo h 0 O O) hrc (.inl ⟨none,(Ee h 1 O O)⟩) hxc hxlf OC) O OD<|Ds 35 [] O O O (fun τ h=>ae call25 hso2 (h.bt O)) O OD<|D1 O O ?_;refine ⟨OD,?_⟩;refine Wk [(1,.pv (dbP d)),(5,.ptr 1 0),(10,.pv (bL nx))] [(1,.mix 59 [.pv (.int .i64 r),.pv (bL x)])] 2 (aS OD) (aO OD) O O<|Z1 O O<|Rs 37 O O (ae call66 hco O) ?_;refine Gc O O (fun hc37=>?_) (fun hc37=>?_)
 ·exact Z2 O O O<|Gt O<|⟨_,_,O,O,by rw [og hc37];rfl⟩
 ·have hcps:=hcps hc37;have hnv:=hnv hc37;rw [ga (by rw [hc37];decide)];refine Il<|Z3 O O O O ?_;refine Gp O O (fun hc40=>absurd hc40 OC) (fun hc40=>?_);refine Il<|Z1 O O<|Im (Iu 11 2 1 38 O O)<|Z3 O O O O ?_;refine Gl O (st:=fun x_0:Nat×List (List Rw)=>mkS [(5,.ptr 1 0),(10,.pv (bL nx)),(11,.gsl 2 1 x_0.2.length),(41,.pv (dbP d)),(42,.pv (.int .i64 d.length)),(43,.pv (.int .i64 x_0.1))] [(1,.mix 59 [.pv (.int .i64 r),.pv (bL x)]),(2,.gro 38 (Cq x_0.2))] 3)
   (I:=fun x_0=>x_0.1<=d.length/\x_0.2=(d.set r nx).take x_0.1) (μ:=fun x_0=>d.length-x_0.1) (x0:=(0,[])) (Io (aS O) (aO OD) O O) (⟨eF _,O⟩) ?_
  rintro ⟨k,q⟩ ⟨hk,hq⟩;try simp only at hk hq ⊢
  refine Z1 O O ?_;refine Gp O O (fun hc44=>?_) (fun hc44=>?_)
  ·have hlt:k<d.length:=OC;have htk:=cD hlt;have htkn:=dN hlt;have hck:=hcps k hlt;have hqs:(d.set r nx).take (k+1)=q++[(d.set r nx)[k]'OC]:=by rw [aR OC,hq]
   have hgk:=hge k hlt;have hql:(Cq q).length=q.length*1:=dH q;have hqn:q.length=k:=by rw [hq,iP];omega
   refine Il<|Z1 O O<|Rs 46 O O (ag k underlying36 qk O O O hlt htkn)<|Rs 47 O O (ai ⟨_,underlying38,O⟩ O htk)<|Y2 O O<|Z4 O O O O O ?_;refine Gc O O (fun hc51=>?_) (fun hc51=>?_)
   ·have hkr0:(k:Int)=r:=by simpa using hc51
    have hkr:r=k:=OC;rw [og hkr] at hgk;rw [hgk] at hck hqs;have hsn2:=jE q nx;exact Z2 O O O<|Z2 O O O<|Rs 55 O O (ae call65 hck O)<|Y3 O O O<|Z2 O O O<|⟨(k+1,q++[nx]),Ip [0,1,4] ⟨O,O,ry (b:=V.gsl 4 1 (q.length+1)) OD (af (fun n=>V.gsl 4 1 n) (bW q nx)),O,O,O,OK⟩ ⟨OD,ry (b:=some (Ob.gro 38 (Cq q++[bL nx]))) OD (af (fun c=>some (Ob.gro 38 c)) hsn2),OK⟩ O O OE O,⟨OI,by simp only;rw [hqs]⟩,OI⟩
   ·have hkr:¬ r=k:=fun e=>by subst e;simp at hc51
    rw [ga hkr] at hgk;rw [hgk] at hck hqs;have hsn2:=jE q d[k];exact Il<|Z2 O O O<|Rs 55 O O (ae call65 hck O)<|Y3 O O O<|Z2 O O O<|⟨(k+1,q++[d[k]]),Ip [0,1,4] ⟨O,O,ry (b:=V.gsl 4 1 (q.length+1)) OD (af (fun n=>V.gsl 4 1 n) (bW q d[k])),O,O,O,OK⟩ ⟨OD,ry (b:=some (Ob.gro 38 (Cq q++[bL d[k]]))) OD (af (fun c=>some (Ob.gro 38 c)) hsn2),OK⟩ O O OE O,⟨OI,by simp only;rw [hqs]⟩,OI⟩
  ·have hqf:q=d.set r nx:=by rw [hq,bk OC]
   exact Gx O<|Im (Ir 2 O O)<|Z3 O O O O<|Gt O<|⟨_,_,O,O,by rw [hqf];rfl⟩
end
section
open Mk Jn
theorem M5 (l:List Rw) (hl:l.length<=1000) (hv:∀ x∈l,x.v.length<=1000) (hw:∀ x∈l, -1000000<=x.w/\x.w<=1000000):FnO Tryz.prog 31 0 1 [.pv (bL l)] [] (fun v ob'=>v= .gsl 0 2 (lH l).length/\ob'=ar [(0,.gro 49 (aB (lH l)))]):=by
 refine FnO.of func31 O ntmps31 OG fun m0 w0 F R0=>?_
 have hll:=aK l;refine Z1 O O<|Z1 O O<|Im (Iu 3 0 2 49 O O)<|Z3 O O O O ?_;refine Gl O (st:=fun x_0:Nat×List Rw=>mkS [(3,.gsl 0 2 x_0.2.length),(10,.pv (bL l)),(11,.pv (.int .i64 l.length)),(12,.pv (.int .i64 x_0.1))] [(0,.gro 49 (aB x_0.2))] 1)
  (I:=fun x_0=>x_0.1<=l.length/\SoF l x_0.1 x_0.2) (μ:=fun x_0=>l.length-x_0.1) (x0:=(0,[])) (Io (aS O) (aO O) O O) (⟨eF _,SoF.zero l⟩) ?_
 rintro ⟨k,out⟩ ⟨hk,hs⟩;try simp only at hk hs ⊢
 refine Z1 O O ?_;refine Gp O O (fun hc13=>?_) (fun hc13=>?_)
 ·have hlt:k<l.length:=OC;have hrow:=aN hlt;have hne:=aW hlt;have hxv:=hv _ (aJ hlt);have hxw:=hw _ (aJ hlt);have hsu:=hs.succ hlt hxv hxw;have hon:=hs.n;have hol:=aK out;have hsw:=hs.w;have hsv:=hs.v;generalize l[k]=x at*;refine Il<|Z1 O O ?_;first | refine A3 O OF ?_ | refine A1 O ?_
  refine Y2 O O ?_;by_cases he:out=[]
  ·have hl0:out.length=0:=by rw [he];rfl
   refine Im (St.rB 3 (id:=0) (sz:=2) (af (fun n=>V.gsl 0 2 n) hl0))<|Z1 O O ?_;refine Gl O (st:=fun x_1:Nat=>mkS [(3,.pv nS),(5,.ptr 1 0),(6,.pv (.int .i64 x_1)),(10,.pv (bL l)),(11,.pv (.int .i64 l.length)),(12,.pv (.int .i64 k))] [(1,.mix 49 [.pv (aI x.v),.pv (.int .i64 x.w)])] 2)
    (I:=fun x_1=>x_1<=out.length/\∀ j (hj:j<out.length),j<x_1->aZ out[j].v x.v=true) (μ:=fun x_1=>out.length-x_1) (x0:=(0)) (Io (aS O) (aO O) O O) (⟨eF _,fun j _ h=>absurd h OC⟩) ?_
   rintro i ⟨hi,hall⟩;refine Ge O follows [0,1,2,3,4,5,6,7,8,9,10,11,12,13] OD ?_;iterate 3 refine D1 O O ?_
   refine Ds 19 [] O O O (fun τ h=>XJ.cast (v':= .pv (.bool false)) (aQ (Ee h 0 O O) (Ee h 1 O O) O) (af (fun b=>V.pv (.bool b)) (Et OC))) O OD ?_;iterate 10 refine D1 O O ?_
   refine ⟨OD,?_⟩;refine Gc O O (fun hc29=>absurd hc29 OG) (fun hc29=>?_);refine Gx O<|Ge O follows [0,1,2,3,4,5,6,7,8,9,10,11,12,13] OD ?_;iterate 3 refine D1 O O ?_
   refine Ds 35 [] O O O (fun τ h=>XJ.cast (v':= .pv (.bool false)) (aQ (Ee h 0 O O) (Ee h 1 O O) O) (af (fun b=>V.pv (.bool b)) (Et OC))) O OD ?_;iterate 10 refine D1 O O ?_
   refine ⟨OD,?_⟩;refine Gc O O (fun hc45=>absurd hc45 OG) (fun hc45=>?_);refine Il ?_;obtain rfl:i=0:=OC;have hput:dB x out=[x]:=by rw [he];rfl
   refine Ge O follows [0,1,2,3,4,5,6,7,8,9,10] OD ?_;iterate 8 refine D1 O O ?_
   refine Ds 64 [_] O O O (fun τ h=>fc 3 JM (Ee h 0 O O) (Eo h 0 O O) O (.inl ⟨_,(Ee h 1 O O)⟩) O OG OC (h.n 0 _ O)) O OD<|Ds 65 [_] O O O (fun τ h=>rM 4 JM (Ee h 0 O O) (.inr ⟨_,_,_,_,(Ee h 1 O O),(Eo h 0 O O),O⟩) O (dw [x]) OC (h.n 0 _ O)) O OD<|D1 O O ?_;refine ⟨OD,?_⟩;exact Z2 O O O<|⟨(k+1,dB x out),Ip [4] ⟨af (fun n=>V.gsl 4 2 n) (show 1=(dB x out).length by rw [hput];rfl),O,O,O,OK⟩ ⟨ry (b:=some (.gro 49 (eV x))) OD (af (fun c=>some (Ob.gro 49 c)) (show eV x=aB (dB x out) by rw [hput];rfl)),OK⟩ O O OE O,⟨OC,hsu⟩,OI⟩
  ·have hpos:0<out.length:=CG.2 he;have hcne:aB out≠[]:=aW hpos;refine Im (St.ku 3 O O hpos hcne)<|Z1 O O ?_;refine Gl O (st:=fun x_1:Nat=>mkS [(3,.osl 0 2 out.length),(5,.ptr 1 0),(6,.pv (.int .i64 x_1)),(10,.pv (bL l)),(11,.pv (.int .i64 l.length)),(12,.pv (.int .i64 k))] [(0,.cells 49 (aB out)),(1,.mix 49 [.pv (aI x.v),.pv (.int .i64 x.w)])] 2)
    (I:=fun x_1=>x_1<=out.length/\∀ j (hj:j<out.length),j<x_1->aZ out[j].v x.v=true) (μ:=fun x_1=>out.length-x_1) (x0:=(0)) (Io (aS O) (aO O) O O) (⟨eF _,fun j _ h=>absurd h OC⟩) ?_
   rintro i ⟨hi,hall⟩;by_cases hi2:i<out.length
   ·have hov:(aB out)[i*2+0]? =some (aI out[i].v):=nr hi2;have how:=s5 hi2;have hom:=aJ hi2;have hob:=hsw _ hom;have hls:=vV out[i].v x.v (by have:=hsv _ hom;omega) OC;have hts:=mO out[i].v x.v (by have:=hsv _ hom;omega) OC;refine Ge O follows [0,1,2,3,4,5,6,7,8,9,10,11,12,13] OD ?_;iterate 3 refine D1 O O ?_
    refine Ds 19 [] O O O (fun τ h=>XJ.cast (v':= .pv (.bool true)) (aQ (Ee h 0 O O) (Ee h 1 O O) O) (af (fun b=>V.pv (.bool b)) (x7 OC))) O OD ?_;iterate 5 refine D1 O O ?_
    refine Dg 25 [_] O O O O (fun τ h=>aC ⟨_,underlying47,O⟩ (Ee h 0 O O) (Eo h 0 O O) hov) O OD ?_;iterate 2 refine D1 O O ?_
    refine Dg 28 [] O O O O (fun τ h=>ae call20 hls (h.bt O)) O OD<|D1 O O ?_;refine ⟨OD,?_⟩;refine Gc O O (fun hc29=>?_) (fun hc29=>?_)
    ·exact Il<|Z3 O O O O<|⟨(i+1),Io (aS O) (aO O) O O,⟨OC,fun j hj hji=>if h:j<i then hall j hj h else (by obtain rfl:j=i:=OC;exact hc29)⟩,OC⟩
    ·refine Gx O<|Ge O follows [0,1,2,3,4,5,6,7,8,9,10,11,12,13] OD ?_;iterate 3 refine D1 O O ?_
     refine Ds 35 [] O O O (fun τ h=>XJ.cast (v':= .pv (.bool true)) (aQ (Ee h 0 O O) (Ee h 1 O O) O) (af (fun b=>V.pv (.bool b)) (x7 OC))) O OD ?_;iterate 5 refine D1 O O ?_
     refine Dg 41 [_] O O O O (fun τ h=>aC ⟨_,underlying47,O⟩ (Ee h 0 O O) (Eo h 0 O O) hov) O OD ?_;iterate 2 refine D1 O O ?_
     refine Dg 44 [] O O O O (fun τ h=>ae call63 hts (h.bt O)) O OD<|D1 O O ?_;refine ⟨OD,?_⟩;refine Gc O O (fun hc45=>?_) (fun hc45=>?_)
     ·have hins:dB x out=out.set i ⟨out[i].v,out[i].w+x.w⟩:=yZ hi2 hall (by simpa using hc29) (Kh hc45);refine Ge O follows [0,1,2,3,4,5,6,7,8,9,10] OD ?_;iterate 4 refine D1 O O ?_
      refine Ds 50 [_] O O O (fun τ h=>aC ⟨_,underlying3,O⟩ (Ee h 0 O O) (Eo h 0 O O) how) O OD ?_;iterate 5 refine D1 O O ?_
      refine DL.step (d:=none) [_] O O O (fun τ h=>aF sz3 (Ee h 0 O O) (Eo h 0 O O) (Ee h 1 O O) O (by first | omega | (simp;omega))) O OD ?_;refine ⟨OD,?_⟩;refine Im (St.pn 3 O O hpos (by intro e;have h:=af List.length e;rw [tx] at h;exact hcne (vG h))) ?_;exact Gx O<|Z2 O O O<|⟨(k+1,dB x out),Io ⟨af (fun n=>V.gsl 0 2 n) (show out.length=(dB x out).length by rw [hins,tx]),O,O,O,OK⟩ ⟨ry (b:=some (.gro 49 ((aB out).set (i*2+1) (.int .i64 (out[i].w+x.w))))) OD (af (fun c=>some (Ob.gro 49 c)) (by rw [hins];exact qu hi2 _)),OK⟩ O O,⟨OC,hsu⟩,OI⟩
     ·refine Il ?_;have hput:dB x out=out.take i++x::out.drop i:=ns hi hall (fun h=>⟨by simpa using hc29,Kq hc45⟩);have hcut:=fu out i;have hdl:((aB out).drop (i*2)).length=(out.length-i)*2:=by rw [Ak];omega
      have hnews:((eV x).take (1*2)++(aB out).drop (i*2)).take ((1+(out.length-i))*2)=aB (x::out.drop i):=by
       rw [hcut.2,show (eV x).take (1*2)++aB (out.drop i)=aB (x::out.drop i) from O,bk];rw [aK,qU,Ak];omega
      have hnl:(((eV x).take (1*2)++(aB out).drop (i*2)).take ((1+(out.length-i))*2)).length=(1+(out.length-i))*2:=by rw [hnews,aK,qU,Ak];omega
      have hnf:∀ c∈((eV x).take (1*2)++(aB out).drop (i*2)).take ((1+(out.length-i))*2),c.leaf=true:=by rw [hnews];exact dw _
      have hcs:(aB out).take (i*2)++((eV x).take (1*2)++(aB out).drop (i*2)).take ((1+(out.length-i))*2)=aB (dB x out):=by rw [hnews,hcut.1,hput,fj]
      have hil:i+(1+(out.length-i))=(dB x out).length:=by rw [hput,a6,qU,iP,Ak];omega
      refine Ge O follows [0,1,2,3,4,5,6,7,8,9,10] OD ?_;iterate 2 refine D1 O O ?_
      refine Ds 58 [_] O O O (fun τ h=>dC i underlying38 lM (Ee h 0 O O) (Eo h 0 O O) (Ee h 1 O O) O hi) O OD ?_;iterate 4 refine D1 O O ?_
      refine Ds 63 [_] O O O (fun τ h=>dK i underlying38 lM (Ee h 0 O O) (Eo h 0 O O) (Ee h 1 O O) O hi) O OD<|Ds 64 [_,_] O O O (fun τ h=>eI 3 JM (Ee h 0 O O) (Eo h 0 O O) (qT _) (G4.tsl (Ee h 1 O O) (Eo h 1 O O) O hdl) hdl (fun c hc=>dw out c (LM hc)) OC (h.n 0 _ O)) O OD<|Ds 65 [_,_] O O O (fun τ h=>eI 4 JM (Ee h 0 O O) (Eo h 0 O O) OC (jA.any (.inr ⟨_,_,_,_,(Ee h 1 O O),(Eo h 1 O O),O⟩)) hnl hnf OC (h.n 0 _ O)) O OD<|D1 O O ?_;refine ⟨OD,?_⟩;exact Im (St.pn 3 O O OC (fun e=>aW (l:=dB x out) (k:=0) OC (hcs.symm.trans e)))<|Z2 O O O<|⟨(k+1,dB x out),Ip [4] ⟨af (fun n=>V.gsl 4 2 n) hil,O,O,O,OK⟩ ⟨ry (b:=some (.gro 49 ((aB out).take (i*2)++((eV x).take (1*2)++(aB out).drop (i*2)).take ((1+(out.length-i))*2)))) OD (af (fun c=>some (Ob.gro 49 c)) hcs),OK⟩ O O OE O,⟨OC,hsu⟩,OI⟩
   ·refine Ge O follows [0,1,2,3,4,5,6,7,8,9,10,11,12,13] OD ?_;iterate 3 refine D1 O O ?_
    refine Ds 19 [] O O O (fun τ h=>XJ.cast (v':= .pv (.bool false)) (aQ (Ee h 0 O O) (Ee h 1 O O) O) (af (fun b=>V.pv (.bool b)) (Et OC))) O OD ?_;iterate 10 refine D1 O O ?_
    refine ⟨OD,?_⟩;refine Gc O O (fun hc29=>absurd hc29 OG) (fun hc29=>?_);refine Gx O<|Ge O follows [0,1,2,3,4,5,6,7,8,9,10,11,12,13] OD ?_;iterate 3 refine D1 O O ?_
    refine Ds 35 [] O O O (fun τ h=>XJ.cast (v':= .pv (.bool false)) (aQ (Ee h 0 O O) (Ee h 1 O O) O) (af (fun b=>V.pv (.bool b)) (Et OC))) O OD ?_;iterate 10 refine D1 O O ?_
    refine ⟨OD,?_⟩;refine Gc O O (fun hc45=>absurd hc45 OG) (fun hc45=>?_);refine Il ?_;have hput:dB x out=out.take i++x::out.drop i:=ns hi hall (fun h=>absurd h hi2);have hcut:=fu out i;have hdl:((aB out).drop (i*2)).length=(out.length-i)*2:=by rw [Ak];omega
    have hnews:((eV x).take (1*2)++(aB out).drop (i*2)).take ((1+(out.length-i))*2)=aB (x::out.drop i):=by
     rw [hcut.2,show (eV x).take (1*2)++aB (out.drop i)=aB (x::out.drop i) from O,bk];rw [aK,qU,Ak];omega
    have hnl:(((eV x).take (1*2)++(aB out).drop (i*2)).take ((1+(out.length-i))*2)).length=(1+(out.length-i))*2:=by rw [hnews,aK,qU,Ak];omega
    have hnf:∀ c∈((eV x).take (1*2)++(aB out).drop (i*2)).take ((1+(out.length-i))*2),c.leaf=true:=by rw [hnews];exact dw _
    have hcs:(aB out).take (i*2)++((eV x).take (1*2)++(aB out).drop (i*2)).take ((1+(out.length-i))*2)=aB (dB x out):=by rw [hnews,hcut.1,hput,fj]
    have hil:i+(1+(out.length-i))=(dB x out).length:=by rw [hput,a6,qU,iP,Ak];omega
    refine Ge O follows [0,1,2,3,4,5,6,7,8,9,10] OD ?_;iterate 2 refine D1 O O ?_
    refine Ds 58 [_] O O O (fun τ h=>dC i underlying38 lM (Ee h 0 O O) (Eo h 0 O O) (Ee h 1 O O) O hi) O OD ?_;iterate 4 refine D1 O O ?_
    refine Ds 63 [_] O O O (fun τ h=>dK i underlying38 lM (Ee h 0 O O) (Eo h 0 O O) (Ee h 1 O O) O hi) O OD<|Ds 64 [_,_] O O O (fun τ h=>eI 3 JM (Ee h 0 O O) (Eo h 0 O O) (qT _) (G4.tsl (Ee h 1 O O) (Eo h 1 O O) O hdl) hdl (fun c hc=>dw out c (LM hc)) OC (h.n 0 _ O)) O OD<|Ds 65 [_,_] O O O (fun τ h=>eI 4 JM (Ee h 0 O O) (Eo h 0 O O) OC (jA.any (.inr ⟨_,_,_,_,(Ee h 1 O O),(Eo h 1 O O),O⟩)) hnl hnf OC (h.n 0 _ O)) O OD<|D1 O O ?_;refine ⟨OD,?_⟩;exact Im (St.pn 3 O O OC (fun e=>aW (l:=dB x out) (k:=0) OC (hcs.symm.trans e)))<|Z2 O O O<|⟨(k+1,dB x out),Ip [4] ⟨af (fun n=>V.gsl 4 2 n) hil,O,O,O,OK⟩ ⟨ry (b:=some (.gro 49 ((aB out).take (i*2)++((eV x).take (1*2)++(aB out).drop (i*2)).take ((1+(out.length-i))*2)))) OD (af (fun c=>some (Ob.gro 49 c)) hcs),OK⟩ O O OE O,⟨OC,hsu⟩,OI⟩
 ·refine Im (Ir 0 O O) ?_;have hon:=hs.n;have hol:=aK out;have hfin:lH l=out.filter fun y=>y.w !=0:=by rw [lH,hs.e,show k=l.length by omega,J4]
  refine Gx O<|Z1 O O<|Im (Iu 7 1 2 49 O O)<|Z3 O O O O ?_;refine Gl O (st:=fun x_2:Nat×List Rw=>mkS [(7,.gsl 1 2 x_2.2.length),(67,.pv (bL out)),(68,.pv (.int .i64 out.length)),(69,.pv (.int .i64 x_2.1))] [(1,.gro 49 (aB x_2.2))] 2)
   (I:=fun x_2=>(x_2.1<=out.length/\x_2.2.length<=x_2.1)/\x_2.2=(out.take x_2.1).filter fun y=>y.w !=0) (μ:=fun x_2=>out.length-x_2.1) (x0:=(0,[])) (Io (aS O) (aO O) O O) (⟨⟨eF _,qT _⟩,O⟩) ?_
  rintro ⟨j,q⟩ ⟨hj,hq⟩;try simp only at hj hq ⊢
  refine Z1 O O ?_;refine Gp O O (fun hc70=>?_) (fun hc70=>?_)
  ·have hlj:j<out.length:=OC;have hrj:=aN hlj;have hnj:=aW hlj;have hql:=aK q;have htk:out.take (j+1)=out.take j++[out[j]]:=aR hlj;generalize out[j]=y at*;refine Il<|Z1 O O ?_;first | refine A3 O OF ?_ | refine A1 O ?_
   refine Y2 O O<|Z3 O O O O ?_;refine Gc O O (fun hc75=>?_) (fun hc75=>?_)
   ·refine Gr O ?_;iterate 5 refine A1 O ?_
    exact Z2 O O O<|⟨(j+1,q++[y]),Ip [0,4] ⟨af (fun n=>V.gsl 4 2 n) (show q.length+1=(q++[y]).length by simp),O,O,O,OK⟩ ⟨ry (b:=some (.gro 49 (aB q++eV y))) OD (af (fun c=>some (Ob.gro 49 c)) (dW q y)),OK⟩ O O OE O,⟨⟨OC,by simp only [a6,vt];omega⟩,by rw [htk,Jm,<-hq];simp only [Hf,L4];rw [og hc75]⟩,OI⟩
   ·exact Il<|Z2 O O O<|⟨(j+1,q),Io (aS O) (aO O) O O,⟨⟨OC,OI⟩,by rw [htk,Jm,<-hq];simp only [Hf,L4];rw [ga (by rw [hc75];decide),xd]⟩,OI⟩
  ·have hqf:q=lH l:=by rw [hfin,hq,bk OC]
   exact Gx O<|Z2 O O O<|Gt O<|⟨[(2,.gsl 0 2 (lH l).length)],[(0,.gro 49 (aB (lH l)))],[.gsl 0 2 (lH l).length],Ip [1] ⟨ry (b:=V.gsl 1 2 q.length) O (by rw [hqf];rfl),OK⟩ ⟨ry (b:=some (.gro 49 (aB q))) O (by rw [hqf];rfl),OK⟩ O O OE O,O,O,O,O,O⟩
theorem Nu (L:List Int) (k:Nat) (hL:L.length<=600) (hk:k<=L.length) (S:Sch) (r most:Nat) (hm:most<=100) (hr:r<S.rels.length) (hA:S.rels[r].2.length<=1000) (hb:∀ a∈S.rels[r].2,0<=a/\a<S.attrs.length):
  FnO Tryz.prog 15 1 1 [.ptr big 0,.pv (gK S),.pv (.int .i64 r),.pv (.int .i64 most)] [(big,HD L k)] (fun v ob'=>∃ l,MdT S S.rels[r].2 most l/\v= .gsl 0 2 l.length/\∃ k',k'<=L.length/\ob'=ar [(big,HD L k'),(0,.gro 49 (aB l))]):=by
 refine FnO.of func15 O ntmps15 OG fun m0 w0 F R0=>?_
 have hkk:∀ k,k<=L.length->sNk L k<=L.length:=fun k hk=>by unfold sNk;split<;>omega
 have hk1:=hkk _ hk;have hn1:=zP L k ((most:Int)+1) hL hk OC OC;have hb1:=uV L k ((most:Int)+1) OC;generalize sNv L k ((most:Int)+1)=nb at*;have hrne:=ew hr;have hra:(bj S.rels)[r*2+1]? =some (ak S.rels[r].2):=by
  have h2:(((bj S.rels).drop (r*2)).take 2)[1]? =[PV.str S.rels[r].1,ak S.rels[r].2][1]? :=by rw [cW hr]
  simpa [vR,FJ] using h2
 generalize S.rels[r].2=A at*;refine Z2 O O O<|Z1 O O<|Im (Iu 9 1 2 49 O O)<|Z3 O O O O<|Rs 17 O O (iu call18 hn1 O O)<|A1 O ?_;refine Gl O (st:=fun x_0:Int×Nat×List Rw=>mkS [(0,.ptr big 0),(2,.pv (.int .i64 r)),(5,.ptr 0 0),(9,.gsl 1 2 x_0.2.2.length),(10,.pv (.int .i64 x_0.1))] [(big,HD L x_0.2.1),(0,oZ S),(1,.gro 49 (aB x_0.2.2))] 2)
  (I:=fun x_0=>(((0<=x_0.1/\x_0.1<=most)/\(x_0.2.2.length:Int)+x_0.1<=most)/\x_0.2.1<=L.length)/\∀ x∈x_0.2.2,MdR S A x) (μ:=fun x_0=>x_0.1.toNat) (x0:=(nb,sNk L k,[])) (Io (aS O) (aO O) O O) (⟨⟨⟨⟨OI,OI⟩,by simp only [Ot];omega⟩,hk1⟩,fun _ h=>absurd h OG⟩) ?_
 rintro ⟨i,k2,l⟩ ⟨⟨⟨hi,hli⟩,hk2⟩,hl⟩;try simp only at hi hli hk2 hl ⊢
 refine Z2 O O O ?_;refine Gp O O (fun hc19=>?_) (fun hc19=>?_)
 ·obtain ⟨pk,hpk1,hpk⟩:=wm L k2 [1,1,2,5] hL hk2 OG OG;have hpk2:1<=pk/\pk<=5:=by simp at hpk1;omega
  have hk3:=hkk _ hk2;have hll:=aK l;refine Il<|Z1 O O<|Rs 23 O O (aq none OG xj O OE OE O O)<|Rs 24 O O (iu call58 hpk O O)<|Y3 O O O<|Im (St.er (T':=49) (cs:=[.pv nS,.pv (.int .i64 pk)]) 2 0 3 1 9 OD O OD)<|Z3 O O O O<|Rs 29 O O (ag r underlying31 Eu O O O hr hrne)<|A1 O<|Rs 31 O O (ai ⟨_,underlying22,O⟩ O hra)<|Y2 O O ?_;refine Gl O (st:=fun x_1:Nat×Nat×List ByteArray=>mkS [(0,.ptr big 0),(2,.pv (.int .i64 r)),(5,.ptr 0 0),(9,.gsl 1 2 l.length),(10,.pv (.int .i64 i)),(11,.ptr 2 0),(31,.pv (ak A)),(32,.pv (.int .i64 A.length)),(33,.pv (.int .i64 x_1.1))] [(big,HD L x_1.2.1),(0,oZ S),(1,.gro 49 (aB l)),(2,.mix 49 [.gsl 3 1 x_1.2.2.length,.pv (.int .i64 pk)]),(3,.gro 9 (aA x_1.2.2))] 4)
   (I:=fun x_1=>(x_1.1<=A.length/\x_1.2.1<=L.length)/\(x_1.2.2.length=x_1.1/\∀ i (h:i<x_1.2.2.length) (h2:i<A.length),x_1.2.2[i]∈gX (S.attrs.getD A[i].toNat default).2)) (μ:=fun x_1=>A.length-x_1.1) (x0:=(0,sNk L k2,[])) (Io (aS O) (aO O) O O) (⟨⟨eF _,hk3⟩,O,fun i h=>absurd h OG⟩) ?_
  rintro ⟨j,k3,v⟩ ⟨⟨hj,hk4⟩,hmd⟩;try simp only at hj hk4 hmd ⊢
  refine Z1 O O ?_;refine Gp O O (fun hc34=>?_) (fun hc34=>?_)
  ·have hlj:j<A.length:=OC;obtain ⟨a,haa⟩:=rK (hb _ (aJ hlj)).1;have hal:a<S.attrs.length:=by have:=(hb _ (aJ hlj)).2;omega
   have hpv:(aE A)[j*1]? =some (.int .i64 (a:Int)):=by rw [<-haa];simp [hlj]
   have hpn:=aH hlj;have har:=od hal;have han:=lq hal;obtain ⟨x,hxm,hxs⟩:=rZ L k3 hL hk4 S.attrs[a].1 S.attrs[a].2;have hmd2:=MdV.snoc hlj hmd (x:=x) (by rw [haa,yR];simpa [List.getD,hal] using hxm);have hk5:=hkk _ hk4;have hvl:=hmd.1;refine Il<|Gr O<|Rs 35 O O (ag j underlying22 sz3 O O O hlj hpn)<|Rs 36 O O (ai ⟨_,underlying3,O⟩ O hpv)<|A1 O<|Ge O follows [0,1,2,3,4,5,6,7,8,9,10,11,12] OD ?_;iterate 6 refine D1 O O ?_
   refine Ds 43 [] O O O (fun τ h=>ag a underlying28 G1 (Ee h 0 O O) (Ee h 1 O O) O hal han) O OD<|Ds 44 [] O O O (fun τ h=>db ⟨_,underlying27,O⟩ G1 (Ee h 0 O O) har O) O OD<|Ds 45 [_] O O O (fun τ h=>iu call59 hxs (h.args.trans O) (Eo h 0 O O)) O OD ?_;iterate 4 refine D1 O O ?_
   refine ⟨OD,?_⟩;exact Z2 O O O<|⟨(j+1,sNk L k3,v++[x]),Ip [0,1,2,5] (aT O) ⟨O,O,O,ry (b:=some (.mix 49 [.gsl 5 1 (v.length+1),.pv (.int .i64 pk)])) OD (af (fun n=>some (Ob.mix 49 [.gsl 5 1 n,.pv (.int .i64 pk)])) (bW v x)),ry (b:=some (.gro 9 (aA v++[.str x]))) OD (af (fun c=>some (Ob.gro 9 c)) (Gb v x)),OK⟩ O O OE O,⟨⟨OC,hk5⟩,hmd2⟩,OI⟩
  ·refine Im (Ir 3 O O) ?_;have hmr:MdR S A ⟨v,pk⟩:=⟨hpk2,(by have:=hmd.1;omega:v.length=A.length),hmd.2⟩;refine Gx O<|Gr O ?_;iterate 5 refine A1 O ?_
   exact Z3 O O O O<|⟨(i-1,k3,l++[⟨v,pk⟩]),Ip [0,5] ⟨O,O,O,af (fun n=>V.gsl 5 2 n) (bW l ⟨v,pk⟩),O,OK⟩ ⟨O,O,ry (b:=some (.gro 49 (aB l++eV ⟨v,pk⟩))) OD (af (fun c=>some (Ob.gro 49 c)) (dW l ⟨v,pk⟩)),OK⟩ O O OE O,⟨⟨⟨OI,by simp only [a6,vt];omega⟩,hk4⟩,fun y hy=>by rcases my.1 hy with h | h;exact hl y h;rw [fe.1 h];exact hmr⟩,OI⟩
 ·refine Im (Ir 1 O O) ?_;have hso:=M5 l OC (fun x hx=>by have:=(hl x hx).2.1;omega) (fun x hx=>by have:=(hl x hx).1;omega);exact Gx O<|Z1 O O<|Rs 55 O O (ah [] 2 call31 hso O O O O trivial OE O)<|A1 O<|Gt O<|⟨[(8,.gsl 0 2 (lH l).length)],[(big,HD L k2),(0,.gro 49 (aB (lH l)))],[.gsl 0 2 (lH l).length],Ip [2] (aT O) (aP OD) O O OE O,O,O,O,lH l,⟨l,O,OC,hl⟩,O,k2,hk2,O⟩
end
end Go.Proofs.YtedfonppffochaaGreatDoor
