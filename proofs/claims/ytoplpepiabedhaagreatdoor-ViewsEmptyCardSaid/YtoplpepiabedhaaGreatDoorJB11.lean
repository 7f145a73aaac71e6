/- Lemmas. No condition. -/
import Derived.StillTail
import Derived.Deep.Quiet
import Derived.Shelf.SlSortCmp.QuietGrown
import Derived.Test.YtoplpepiabedhaaGreatDoorRows
import Derived.Test.YtoplpepiabedhaaGreatDoorProg
import Derived.Shelf.SlSortCmp.NoneTotal
import Derived.Shelf.Lay
import Derived.Ground.SlsfProg
import Derived.Ground.NamesProg
import Derived.Lib.Join
import Derived.Test.YtoplpepiabedhaaGreatDoorJB10
set_option maxRecDepth 100000
set_option maxHeartbeats 4000000
open Go.RowKit Go.Proofs.Tryz
namespace Go.Proofs.YtoplpepiabedhaaGreatDoor
section
open Go Go.RowKit
section
variable {P:Program}{ops:Array Oper}{C:World->Prop}
def oK(P:Program)(ops:Array Oper)(C:World->Prop)(n:Nat)(L:Array Bool->Act->Prop):Nat->Array Bool->Act->Prop
 |0,listed,a=>L listed a
 |f+1,listed,a=>Region.ready .any ops listed≠[]/\∀i∈Region.ready .any ops listed,i<n/\qOp P ops C i (oK P ops C n L f (listed.setIfInBounds i true)) a
theorem oK.any{n g:Nat}{L:Array Bool->Act->Prop}{Q':Exit->Act->World->Prop}(hL:∀listed a w,C w->L listed a->wpAny P .any ops Q' g listed a w)(f:Nat):
  ∀(listed:Array Bool)(a:Act)(w:World),C w->oK P ops C n L f listed a->wpAny P .any ops Q' (f+g) listed a w:=by
 induction f with
 |zero=>intro listed a w hw h;rw[PJ];exact hL _ _ _ hw h
 | succ f ih=>
   intro listed a w hw h;rw[Nat.add_right_comm];exact⟨fun e=>absurd e h.1,fun i hi=>wpOp_of_qOp hw (fun a' w' hw' h'=>ih _ a' w' hw' h') (h.2 i hi).2⟩
theorem oK.take{n i:Nat}{o:Oper}{v:Value}{L:Array Bool->Act->Prop}(ho:ops[i]? =some o)(hsel:∀(j:Nat)(o:Oper) cs b,ops[j]? =some o->o.op≠ .select cs b)
  (hs:Region.sinkB .any ops n=true) (hc:Region.chainB .any ops n=true) (hn:n<ops.size) (hin:i<n) (hL:∀listed a,L listed a->∀j∈Region.ready .any ops listed,n<=j) (f:Nat):
  ∀(listed:Array Bool)(a:Act),HeadInv .any ops n listed->(∀j oj,ops[j]? =some oj->j≠i->listed.getD j true=false->(∀e∈oj.after,Region.binds .any e=true->e.on≠i)->o.apart ops oj=true)->
   i∈Region.ready .any ops listed->YieldsIn P ops C o v a->oK P ops C n L f (listed.setIfInBounds i true) (a.put o.dst v)->oK P ops C n L (f+1) listed a:=by
 induction f with
 | zero=>
   intro listed a inv _ hr hy H;refine⟨List.ne_nil_of_mem hr,fun j hj=>?_⟩;have hjn:j<n:=Nat.lt_of_not_le fun h=>tail_waits hs hc hn inv _ i O hin (mem_ready.1 hr).1 j h hj
   refine⟨hjn,?_⟩;by_cases e:j=i
   ·subst e;exact hy.qOp ho H
   ·exact absurd (hL _ _ H j (ready_mono hj e)) Ts
 | succ f ih=>
   intro listed a inv hap hr hy H;refine⟨List.ne_nil_of_mem hr,fun j hj=>?_⟩;have hjn:j<n:=Nat.lt_of_not_le fun h=>tail_waits hs hc hn inv _ i O hin (mem_ready.1 hr).1 j h hj
   refine⟨hjn,?_⟩;by_cases e:j=i
   ·subst e;exact hy.qOp ho H
   ·obtain⟨hj0,oj,hoj,hw⟩:=mem_ready.1 hj;have hno:∀x∈oj.after,Region.binds .any x=true->x.on≠i:=fun x hx hb he=>by
     have h1:=hw x hx hb;rw[he,getD_both (mem_ready.1 hr).1]at h1;cases h1
    have hq:=qOp_put hoj (hap j oj hoj e hj0 hno) (fun cs b=>hsel i o cs b ho) (fun cs b=>hsel j oj cs b hoj) hy (H.2 j (ready_mono hj e)).2;refine qOp_mono (fun a' h=>ih _ a' (inv.set hj hjn) (fun k ok hk hki hun=>hap k ok hk hki ?_) (ready_mono hr (Ne.symm e)) h.1 (by rw[Array.setIfInBounds_comm _ _ e];exact h.2)) hq;by_cases ek:j=k
    ·subst ek;exact hj0
    ·rwa [getD_set_ne true ek]at hun
theorem oK.lex{n g:Nat}{Lq:Act->Prop}(hsel:Region.noSelect ops=true)(hs:Region.sinkB .any ops n=true)(hc:Region.chainB .any ops n=true)(hn:n<ops.size):
  ∀(l:List Oper)(k:Nat)(listed:Array Bool)(a:Act),(∀j,j<l.length->l[j]? =ops[k+j]?)->k+l.length=n->HeadInv .any ops n listed->
  Region.lexHead .any ops g l.length k listed=true->wpQuiet P ops C Lq l a->oK P ops C n (fun listed' a'=>Region.seqB .any ops g n listed'=true/\Lq a') l.length listed a:=by
 intro l;induction l with
 | nil=>
   intro k listed a _ hk _ hB h;obtain rfl:k=n:=by simpa using hk
   exact⟨by simpa[Region.lexHead]using hB,h⟩
 | cons o l ih=>
   intro k listed a hl hk inv hB h;have ho:ops[k]? =some o:=by simpa using(hl 0 Tw).symm
   simp only[Pd,Region.lexHead,sh]at hB hk;have hr:k∈Region.ready .any ops listed:=by simpa using hB.1.1
   obtain⟨v,hy,hK⟩:=yieldsIn_of_qOp (K:=wpQuiet P ops C Lq l) ho (by unfold qOp;simp only[ho];exact h);refine oK.take ho (Region.noSelect_spec hsel) hs hc hn Ts (fun listed' a' hL=>seqB_ready hL.1) l.length listed a inv (Region.free_spec ho hB.1.2) hr hy (ih (k+1) _ _ (fun j hj=>?_) Ts (inv.set hr Ts) hB.2 hK);have:=hl (j+1) Tx;simpa[Nat.add_assoc,SN 1 j]using this
theorem fW{id:Nat}{Q:Exit->Act->World->Prop}{a:Act}{w:World}{l:List Oper}(n:Nat)(hd tl:List Oper)(h1:l.take n=hd)(h2:l.drop n=tl)(hm:P.follows .mixedOrders=true)(hB:Region.lexTailB .any l.toArray n=true)(hC:C { w with drawn:=w.drawn+1 })
  (h:wpQuiet P l.toArray C (fun a'=>∀w',C w'->wpList P l.toArray Q tl a' w') hd a):(Code.region id l.toArray true).wp P Q a w:=by
 subst h1 h2;simp only[Region.lexTailB,sh,Po]at hB;obtain⟨⟨⟨⟨hsel,hn⟩,hs⟩,hc⟩,hlex⟩:=hB;have hn':n<l.length:=by simpa using hn
 have htl:(l.take n).length=n:=by simp;omega
 have inv0:HeadInv .any l.toArray n (Array.replicate l.toArray.size false):=
  ⟨Tw,fun j oj _ hl=>(by rw[getD_replicate_false]at hl;cases hl),fun t _ ht=>getD_in (by simpa using ht) (getD_replicate_false _ _)⟩
 have H:=oK.lex (C:=C) (g:=l.toArray.size-n) hsel hs hc hn (l.take n) 0 _ a (fun j hj=>by rw[htl]at hj;simp[hj]) (by simpa using htl) inv0 (by rw[htl];exact hlex) h;refine wp_region_any hm ?_;have hdl:(l.drop n).length=l.toArray.size-n:=Tw;have:=oK.any (Q':=Q) (g:=l.toArray.size-n) (fun listed a' w' hw hL=>by
  have:=wpAny_of_seq (md:= .any) (Q':=Q) (l.drop n) n listed a' w' (fun j=>by simp[Qf]) (by rw[hdl];exact hL.1) (hL.2 w' hw);rwa [hdl]at this) _ _ _ _ hC H
 rw[htl,show n+(l.toArray.size-n)=l.toArray.size by omega]at this;exact this
end
end
end Go.Proofs.YtoplpepiabedhaaGreatDoor
namespace Go.Proofs
open Go.Proofs.YtoplpepiabedhaaGreatDoor
end Go.Proofs
namespace Go.Proofs.YtoplpepiabedhaaGreatDoor
section
open Mk Jn
def wS(s t:ByteArray):Int:=if Op.bytesLess s.toList t.toList=true then-1 else if(s.toList==t.toList)=true then 0 else 1
def qR(a b:List ByteArray):Int:=if bl a b=true then-1 else if a=b then 0 else 1
theorem Dx(s:ByteArray)(w:World):Calls prog 226 #[.string s] w fun e w'=>e= .returned (.bool false)/\w=w':=by
 have hs:(s.toList !=s.toList)=false:=Tw
 go_enter func226,ntmps226
 go_wp2
 go_ret
 exact⟨O,O⟩
theorem xj(s t:ByteArray)(w:World):Calls prog 135 #[.string s,.string t] w fun e w'=>e= .returned (.int .i64 (wS s t))/\w=w':=by
 have hn:=Dx
 go_enter func135,ntmps135
 go_wp2_with (go_at_call 226;refine(hn _ _).mono ?_;rintro e w' ⟨rfl,rfl⟩)
 ·have h1:Op.bytesLess s.toList t.toList=true:=Tv
  go_ret
  exact⟨c7 (by unfold wS;rw[AT h1]),O⟩
 ·have h1:Op.bytesLess s.toList t.toList=false:=Tv;have h2:(!s.toList==t.toList)=true:=Tv
  go_ret
  refine⟨c7 ?_,O⟩;unfold wS;rw[h1,dw Tu,dw (by simpa using h2)]
 ·have h1:Op.bytesLess s.toList t.toList=false:=Tv;have h2:(!s.toList==t.toList)=false:=Tv
  go_ret
  refine⟨c7 ?_,O⟩;unfold wS;rw[h1,dw Tu,AT (by simpa using h2)]
theorem Cf{s t:ByteArray}(h:wS s t=0):s=t:=by
 unfold wS at h;split at h
 ·cases h
 ·split at h
  ·next h2=>exact bytes_inj (by simpa using h2)
  ·cases h
theorem KR{a b:List ByteArray}{k:Nat}(ha:k<a.length)(hb:k<b.length)(e:a.take k=b.take k)(hne:wS a[k] b[k]≠0):qR a b=wS a[k] b[k]:=by
 have hd:a[k]≠b[k]:=fun e2=>hne (by
  unfold wS;rw[e2,dw (by rw[lZ];simp),AT Tw])
 have hl:=sg ha hb e hd;have hab:a≠b:=fun e2=>by subst e2;exact hd O
 have ht:(a[k].toList==b[k].toList)=false:=by
  cases hh:(a[k].toList==b[k].toList)with
  |false=>rfl
  |true=>exact absurd (bytes_inj (by simpa using hh)) hd
 unfold qR wS;rw[hl,dw hab,ht];simp
theorem CR{a b:List ByteArray}{k:Nat}(ha:k<a.length)(hb:k=b.length)(e:a.take k=b.take k):qR a b=1:=by
 have hl:=kn (a:=a) (b:=b) (i:=k) Ts Ts (.inr hb) e;unfold qR;rw[hl,dw Tx,dw (by rintro rfl;omega)]
theorem xK{a b:List ByteArray}{k:Nat}(ha:k=a.length)(hb:k<=b.length)(e:a.take k=b.take k):qR a b=if(a.length:Int)<b.length then-1 else 0:=by
 have hl:=kn (a:=a) (b:=b) (i:=k) Ts Ts (.inl ha) e;unfold qR;rw[hl];by_cases h:(a.length:Int)<b.length
 ·rw[Pn h];simp[h]
 ·rw[Pt h,dw Tu,AT,dw h];rw[aX Ts,aX Ts]at e;exact e
theorem yS(A B:Option Addr)(c d:Nat)(l m:List ByteArray)(w:World){R:Nat->Prop}(h:Row w R A (K5 l)){R':Nat->Prop}(h':Row w R' B (K5 m))(hl:l.length<=1000000)(hm:m.length<=1000000):
  Calls prog 53 #[.slice A l.length c,.slice B m.length d] w fun e w'=>e= .returned (.int .i64 (qR l m))/\w=w':=by
 have hcc:=xj;have hA:=@Row.JE _ _ _ _ h;have hB:=@Row.JE _ _ _ _ h';clear h h'
 go_enter func53,ntmps53
 go_wp2
 go_loop [11] (fun i=>∃k:Nat,k<=l.length/\k<=m.length/\i= .int .i64 k/\l.take k=m.take k) (fun i=>l.length-(intOf i).toNat)
 case atStart=>exact⟨0,cd _,cd _,O,Tw⟩
 case round=>
  obtain⟨k,hk,hkm,rfl,hno⟩:=hrel;have HN:=Lib.hid hno;clear hno;by_cases hlt:k<l.length
  ·obtain⟨b,off,rfl,hb,hck⟩:=hA hlt;by_cases hlt':k<m.length
   ·obtain⟨b',off',rfl,hb',hck'⟩:=hB hlt';clear hA hB
    go_wp2_with (go_at_call 135;refine(hcc _ _ _).mono ?_;rintro e w' ⟨rfl,rfl⟩)
    ·have he:(wS l[k] m[k] !=0)=true:=Tv
     go_ret
     exact⟨c7 (KR hlt hlt' HN.out (by simpa using he)).symm,O⟩
    ·have he:(wS l[k] m[k] !=0)=false:=Tv;refine⟨⟨k+1,Ts,Ts,by go_num,?_⟩,by simp[intOf];omega⟩;have hn:=HN.out;rw[AI hlt,AI hlt',hn,Cf (s:=l[k]) (t:=m[k]) (by simpa using he)]
   ·obtain rfl:k=m.length:=Ts;clear hA hB
    go_wp2
    go_ret
    exact⟨c7 (CR hlt O HN.out).symm,O⟩
  ·clear hA hB
   go_wp2
   ·have he:l.length<m.length:=Tv
    go_ret
    refine⟨c7 ?_,O⟩;rw[xK Ts hkm HN.out,AT Ts]
   ·have he:¬l.length<m.length:=Tv
    go_ret
    refine⟨c7 ?_,O⟩;rw[xK Ts hkm HN.out,dw Ts]
end
section
open Go.RowKit Mm Jn Go.Sort
theorem Ai(a:Int)(w:World):Calls prog 291 #[.int .i64 a] w fun e w'=>e= .returned (.bool false)/\w=w':=by
 have hs:(a !=a)=false:=Tw
 go_enter func291,ntmps291
 go_wp2
 go_ret
 exact⟨O,O⟩
theorem CK(a b:Int)(w:World):Calls prog 212 #[.int .i64 a,.int .i64 b] w fun e w'=>e= .returned (.int .i64 (tK a b))/\w=w':=by
 have hn:=Ai
 go_enter func212,ntmps212
 go_wp2_with (go_at_call 291;refine(hn _ _).mono ?_;rintro e w' ⟨rfl,rfl⟩)
 ·have h1:a<b:=Tv
  go_ret
  exact⟨c7 (by unfold tK;rw[AT h1]),O⟩
 ·have h1:¬a<b:=Ts;have h2:b<a:=Ts
  go_ret
  exact⟨c7 (by unfold tK;rw[dw h1,AT h2]),O⟩
 ·have h1:¬a<b:=Ts;have h2:¬b<a:=Ts
  go_ret
  exact⟨c7 (by unfold tK;rw[dw h1,dw h2]),O⟩
theorem Ng(s t:ByteArray):wS s t=sr s t:=by
 unfold wS sr;by_cases h:Op.bytesLess s.toList t.toList=true
 ·rw[AT h,AT h]
 ·rw[dw h,dw h];cases h2:(s.toList==t.toList)
  ·simp at h;simp[h]
  ·simp at h;simp[h]
theorem Cd(x y:Int)(b c:Nat)(w:World)(h0:w.cell? ⟨b,0,none⟩=some (.int .i64 x))(h1:w.cell? ⟨b,1,none⟩=some (.int .i64 y)):
  Calls prog 211 #[.slice (some ⟨b,0,none⟩) 2 c] w fun e w'=>e= .returned (.int .i64 (orI [x,y]))/\w=w':=by
 go_enter func211,ntmps211
 go_wp2
 go_loop [8] (fun i=>i= .int .i64 0\/(i= .int .i64 1/\x=0)\/(i= .int .i64 2/\x=0/\y=0)) (fun i=>2-(intOf i).toNat)
 case atStart=>exact .inl O
 case round=>
  rcases hrel with rfl|⟨rfl,hx⟩|⟨rfl,hx,hy⟩
  ·go_wp2
   ·have h2:(x !=0)=true:=Tv
    go_ret
    refine⟨c7 ?_,O⟩;rw[orI2,AT (by simpa using h2)]
   ·have h2:(x !=0)=false:=Tv;refine⟨.inr (.inl ⟨by go_num,by simpa using h2⟩),by simp[intOf]⟩
  ·go_wp2
   ·have h2:(y !=0)=true:=Tv
    go_ret
    refine⟨c7 ?_,O⟩;rw[orI2,dw (by simp[hx])]
   ·have h2:(y !=0)=false:=Tv;refine⟨.inr (.inr ⟨by go_num,hx,by simpa using h2⟩),by simp[intOf]⟩
  ·go_wp2
   go_ret
   refine⟨c7 ?_,O⟩;subst hx hy;rfl
theorem pM{P:Program}{f:FuncId}{args:Array Value}{w:World}{n:Nat}{os:Array Obj}{v:Value}(h:Calls P f args (grow (w.drewN n) os) fun e w'=>e= .returned v/\grow (w.drewN n) os=w'):
  Calls P f args (grow (w.drewN n) os) fun e w''=>e= .returned v/\∃p:GrownBy,w''=grow (w.drewN p.n) p.os:=
 h.mono fun _ _ ⟨he,hq⟩=>⟨he,⟨n,os⟩,hq.symm⟩
theorem kj(w:World)(a1:Array Value)(ty:TypeId)(o2:Obj)(k:Nat)(n:Nat)(os:Array Obj):(grow (((w.alloc (.cells a1 ty)).alloc o2).drewN n) os).cell? ⟨w.heap.size,k,none⟩=a1[k]? :=by
 rw[cell?_grow _ _ _ (by show w.heap.size<((w.alloc _).alloc _).heap.size;simp;omega)];have e:(((w.alloc (.cells a1 ty)).alloc o2).drewN n).heap[w.heap.size]? =some (.cells a1 ty):=(Below.heap_alloc (w.alloc (.cells a1 ty)) o2 _ Tw).trans (World.alloc_heap_new w _);simp only[World.cell?,e];rfl
theorem iL(w:World)(o1:Obj)(a2:Array Value)(ty:TypeId)(k:Nat)(n:Nat)(os:Array Obj):(grow (((w.alloc o1).alloc (.cells a2 ty)).drewN n) os).cell? ⟨w.heap.size+1,k,none⟩=a2[k]? :=by
 rw[cell?_grow _ _ _ (by show w.heap.size+1<((w.alloc _).alloc _).heap.size;simp)];have e:(((w.alloc o1).alloc (.cells a2 ty)).drewN n).heap[w.heap.size+1]? =some (.cells a2 ty):=by
  have:=World.alloc_heap_new (w.alloc o1) (.cells a2 ty);rwa [World.size_alloc]at this
 simp only[World.cell?,e];rfl
theorem x3(w:World)(o1 o2:Obj)(n:Nat)(os:Array Obj):∃q os',grow (((w.alloc o1).alloc o2).drewN n) os=grow (w.drewN q) os':=
 ⟨n, #[o1]++(#[o2]++os),by
  rw[alloc_eq_grow,alloc_eq_grow];show grow (grow (grow (w.drewN n) #[o1]) #[o2]) os=_;rw[grow_grow,grow_grow]⟩
theorem A9(W:World){N:Nat}(hN:W.heap.size=N)(n:Nat)(os:Array Obj)(x y:Int)(c:Nat):Calls prog 211 #[.slice (some ⟨N+os.size,0,none⟩) 2 c] ((grow (W.drewN n) os).alloc (.cells #[.int .i64 x,.int .i64 y] 3)) fun e w'=>
  e= .returned (.int .i64 (orI [x,y]))/\(grow (W.drewN n) os).alloc (.cells #[.int .i64 x,.int .i64 y] 3)=w':=by
 have hs:(grow (W.drewN n) os).heap.size=N+os.size:=by simp[grow,World.drewN,hN]
 have e:=World.alloc_heap_new (grow (W.drewN n) os) (.cells #[.int .i64 x,.int .i64 y] 3);rw[hs]at e;refine Cd x y _ c _ ?_ ?_<;>simp only[World.cell?,e]<;>rfl
theorem xp(p q:Par)(w:World):Calls prog 129 #[cf p,cf q] w fun e w'=>e= .returned (.int .i64 (cq p q))/\∃n os',w'=grow (w.drewN n) os':=by
 obtain⟨pf,pc⟩:=p;obtain⟨qf,qc⟩:=q;have hI:=CK;have hS:=xj;have hO:=Cd;have hv:cq ⟨pf,pc⟩ ⟨qf,qc⟩=orI [tK pf qf,wS pc qc]:=by rw[Ng];rfl
 rw[hv];clear hv;simp only[cf]
 go_enter func129,ntmps129
 go_wp2
 have c1:∀n os,_=some _:=fun n os=>(kj w #[.int .i64 pf,.string pc] 147 (.cells #[.int .i64 qf,.string qc] 147) 0 n os).trans O
 have c2:∀n os,_=some _:=fun n os=>(kj w #[.int .i64 pf,.string pc] 147 (.cells #[.int .i64 qf,.string qc] 147) 1 n os).trans O
 have c3:∀n os,_=some _:=fun n os=>(iL w (.cells #[.int .i64 pf,.string pc] 147) #[.int .i64 qf,.string qc] 147 0 n os).trans O
 have c4:∀n os,_=some _:=fun n os=>(iL w (.cells #[.int .i64 pf,.string pc] 147) #[.int .i64 qf,.string qc] 147 1 n os).trans O
 have hback:=x3 w (.cells #[.int .i64 pf,.string pc] 147) (.cells #[.int .i64 qf,.string qc] 147);have hws:((w.alloc (.cells #[.int .i64 pf,.string pc] 147)).alloc (.cells #[.int .i64 qf,.string qc] 147)).heap.size=w.heap.size+2:=Tw;generalize hW:(w.alloc (.cells #[.int .i64 pf,.string pc] 147)).alloc (.cells #[.int .i64 qf,.string qc] 147)=W at*;clear hW;have hO2:=A9 W hws;refine fW (C:=fun w'=>∃p:GrownBy,w'=grow (W.drewN p.n) p.os) 10 _ _ O O Tt Tt ⟨⟨1, #[]⟩,by rw[grow_empty];rfl⟩ ?_
 repeat (quiet_step (first|(go_at_call 212;exact pM (hI _ _ _))|(go_at_call 135;exact pM (hS _ _ _))))
 refine wpQuiet_nil ?_;intro _ hw';obtain⟨⟨nq,osq⟩,hw''⟩:=hw';subst hw'';simp only[List.drop_succ_cons,List.drop_zero]
 go_wp2_with (go_at_call 211;refine(hO2 _ _ _ _ _).mono ?_;rintro e w' ⟨rfl,rfl⟩)
 go_ret
 obtain⟨q,os',hq⟩:=hback nq osq;exact⟨O,q,_,by rw[hq,alloc_eq_grow,grow_grow]⟩
theorem xV{W:World}{B off:Nat}{arr:Array Value}{cs:List Value}(h:∀j,W.cell? ⟨B,off+j,none⟩=arr[off+j]?)(hc:cs=(arr.toList.drop off).take cs.length):∀j v,cs[j]? =some v->W.cell? ⟨B,off+j,none⟩=some v:=by
 intro j v hv;refine(h j).trans ?_;rw[hc,Pw]at hv;split at hv
 ·rw[Qf]at hv;simpa using hv
 ·cases hv
theorem iD{P:Program}{ops:Array Oper}{C:World->Prop}{Q:Act->Prop}{rest:List Oper}{a:Act}{dst:Option Tmp}{T ty:TypeId}{x:Operand}{pos:String}{after:Array Edge}{us:List Value}{b off:Nat}(hT:isRow P T)(hk:bQ P T us.length)
  (hx:a.eval x= .pointer (some ⟨b,off,none⟩)) (hc:∀w,C w->∀j u,us[j]? =some u->w.cell? ⟨b,off+j,none⟩=some u) (h:wpQuiet P ops C Q rest (a.put dst (.agg us.toArray))):wpQuiet P ops C Q (⟨dst,.load T x,ty,pos,after,none⟩::rest) a:=by
 refine wpQuiet_step fun K hK=>?_
 simp only[Region.wanted,Te];refine⟨_,fun w hw=>?_,hK _ h⟩;obtain⟨d,hu,hd⟩:=hT;have:=run_loadAt_mid (P:=P) w b off T us d (hc w hw) hu hd hk;unfold Oper.quietAt;simp only[execOp,hx,Sem.run_bind,this,Result.andThen_ok];exact⟨O,O⟩
theorem BQ(p q:PP)(w:World):Calls prog 132 #[dR p,dR q] w fun e w'=>e= .returned (.int .i64 (dz p q))/\∃n os',w'=grow (w.drewN n) os':=by
 obtain⟨⟨af,ac⟩,⟨bf,bc⟩⟩:=p;obtain⟨⟨df,dc⟩,⟨ef,ec⟩⟩:=q;have hM:=xp;simp only[cf]at hM;have hM1:=fun w=>hM ⟨af,ac⟩ ⟨df,dc⟩ w
 have hM2:=fun w=>hM ⟨bf,bc⟩ ⟨ef,ec⟩ w
 simp only at hM1 hM2;clear hM;have hv:dz (⟨af,ac⟩,⟨bf,bc⟩) (⟨df,dc⟩,⟨ef,ec⟩)=orI [cq ⟨af,ac⟩ ⟨df,dc⟩,cq ⟨bf,bc⟩ ⟨ef,ec⟩]:=rfl;rw[hv];clear hv;generalize cq ⟨af,ac⟩ ⟨df,dc⟩=u1 at*;generalize cq ⟨bf,bc⟩ ⟨ef,ec⟩=u2 at*;simp only[dR]
 go_enter func132,ntmps132
 go_wp2
 have l0:∀n os j u,[.int .i64 af,.string ac][j]? =some u->(grow (((w.alloc (.cells #[.int .i64 af,.string ac,.int .i64 bf,.string bc] 238)).alloc (.cells #[.int .i64 df,.string dc,.int .i64 ef,.string ec] 238)).drewN n) os).cell? ⟨w.heap.size,0+j,none⟩=some u:=fun n os=>xV (fun j=>kj w #[.int .i64 af,.string ac,.int .i64 bf,.string bc] 238 (.cells #[.int .i64 df,.string dc,.int .i64 ef,.string ec] 238) (0+j) n os) O
 have l1:∀n os j u,[.int .i64 bf,.string bc][j]? =some u->(grow (((w.alloc (.cells #[.int .i64 af,.string ac,.int .i64 bf,.string bc] 238)).alloc (.cells #[.int .i64 df,.string dc,.int .i64 ef,.string ec] 238)).drewN n) os).cell? ⟨w.heap.size,2+j,none⟩=some u:=fun n os=>xV (fun j=>kj w #[.int .i64 af,.string ac,.int .i64 bf,.string bc] 238 (.cells #[.int .i64 df,.string dc,.int .i64 ef,.string ec] 238) (2+j) n os) O
 have l2:∀n os j u,[.int .i64 df,.string dc][j]? =some u->(grow (((w.alloc (.cells #[.int .i64 af,.string ac,.int .i64 bf,.string bc] 238)).alloc (.cells #[.int .i64 df,.string dc,.int .i64 ef,.string ec] 238)).drewN n) os).cell? ⟨w.heap.size+1,0+j,none⟩=some u:=fun n os=>xV (fun j=>iL w (.cells #[.int .i64 af,.string ac,.int .i64 bf,.string bc] 238) #[.int .i64 df,.string dc,.int .i64 ef,.string ec] 238 (0+j) n os) O
 have l3:∀n os j u,[.int .i64 ef,.string ec][j]? =some u->(grow (((w.alloc (.cells #[.int .i64 af,.string ac,.int .i64 bf,.string bc] 238)).alloc (.cells #[.int .i64 df,.string dc,.int .i64 ef,.string ec] 238)).drewN n) os).cell? ⟨w.heap.size+1,2+j,none⟩=some u:=fun n os=>xV (fun j=>iL w (.cells #[.int .i64 af,.string ac,.int .i64 bf,.string bc] 238) #[.int .i64 df,.string dc,.int .i64 ef,.string ec] 238 (2+j) n os) O
 have hback:=x3 w (.cells #[.int .i64 af,.string ac,.int .i64 bf,.string bc] 238) (.cells #[.int .i64 df,.string dc,.int .i64 ef,.string ec] 238);have hws:((w.alloc (.cells #[.int .i64 af,.string ac,.int .i64 bf,.string bc] 238)).alloc (.cells #[.int .i64 df,.string dc,.int .i64 ef,.string ec] 238)).heap.size=w.heap.size+2:=Tw;generalize hW:(w.alloc (.cells #[.int .i64 af,.string ac,.int .i64 bf,.string bc] 238)).alloc (.cells #[.int .i64 df,.string dc,.int .i64 ef,.string ec] 238)=W at*;clear hW;have hO2:=A9 W hws;refine fW (C:=fun w'=>∃p:GrownBy,w'=grow (W.drewN p.n) p.os) 10 _ _ O O Tt Tt ⟨⟨1, #[]⟩,by rw[grow_empty];rfl⟩ ?_;simp only[SM,List.take_zero]
 quiet_step (fail)
 refine iD (us:=[.int .i64 af,.string ac]) ⟨_,underlying147,O⟩ zz (b:=w.heap.size) (off:=0) O (fun w' hw j u hj=>by obtain⟨p,rfl⟩:=hw;exact l0 p.n p.os j u hj) ?_
 quiet_step (fail)
 refine iD (us:=[.int .i64 df,.string dc]) ⟨_,underlying147,O⟩ zz (b:=w.heap.size+1) (off:=0) O (fun w' hw j u hj=>by obtain⟨p,rfl⟩:=hw;exact l2 p.n p.os j u hj) ?_
 quiet_step (first|(go_at_call 129;exact Calls.grown_of (hM1 _)))
 quiet_step (fail)
 refine iD (us:=[.int .i64 bf,.string bc]) ⟨_,underlying147,O⟩ zz (b:=w.heap.size) (off:=2) O (fun w' hw j u hj=>by obtain⟨p,rfl⟩:=hw;exact l1 p.n p.os j u hj) ?_
 quiet_step (fail)
 refine iD (us:=[.int .i64 ef,.string ec]) ⟨_,underlying147,O⟩ zz (b:=w.heap.size+1) (off:=2) O (fun w' hw j u hj=>by obtain⟨p,rfl⟩:=hw;exact l3 p.n p.os j u hj) ?_
 quiet_step (first|(go_at_call 129;exact Calls.grown_of (hM2 _)))
 refine wpQuiet_nil ?_;intro _ hw';obtain⟨⟨nq,osq⟩,hw''⟩:=hw';subst hw'';simp only[List.drop_succ_cons,List.drop_zero]
 go_wp2_with (go_at_call 211;refine(hO2 _ _ _ _ _).mono ?_;rintro e w' ⟨rfl,rfl⟩)
 go_ret
 obtain⟨q,os',hq⟩:=hback nq osq;exact⟨O,q,_,by rw[hq,alloc_eq_grow,grow_grow]⟩
end
section
open Mk Jn
theorem qe{w:World}{R:Nat->Prop}:∀{l:List ByteArray}{us:List Value},RelPL w R (bO l) us->us=l.map Value.string
 |[],us,h=>by simpa[RelPL]using h
 | x::l,us,h=>by
   simp only[bL,RelPL,RelP]at h;obtain⟨u,vs,rfl,rfl,h2⟩:=h;rw[qe h2];rfl

theorem Jc(a b:List ByteArray):decide (qR a b<0)=bl a b:=by
 unfold qR;cases h:bl a b with
 |true=>rw[AT O];rfl
 |false=>rw[dw Tu];by_cases h2:a=b<;>simp[h2]
theorem nbeqJ{i k:Nat}(h:¬i=k):Nat.beq i k=false:=by
 cases hb:Nat.beq i k with
 |false=>rfl
 |true=>exact absurd (aI hb) h
theorem FE{α:Type}(f:α->List ByteArray):Go.Sort.SWO (Go.Proofs.ltOf fun x y:α=>qR (f x) (f y)):=by
 have e:∀x y:α,Go.Proofs.ltOf (fun x y:α=>qR (f x) (f y)) x y=bl (f x) (f y):=fun x y=>by
  exact Jc (f x) (f y)
 refine⟨fun x=>by rw[e];exact lD _,fun x y z h1 h2=>?_,fun x y z h1 h2=>?_⟩
 ·rw[e]at *; exact eQ h1 h2
 ·rw[e]at*;cases h3:bl (f x) (f z)with
  |false=>rfl
  | true=>
    cases h4:bl (f z) (f y)with
    |true=>rw[eQ h3 h4]at h1;cases h1
    |false=>rw[ky h2 h4,h3]at h1;cases h1
theorem Cp{α:Type}(f:α->List ByteArray)(x y:α):Go.Proofs.ltOf (fun x y:α=>qR (f x) (f y)) x y=bl (f x) (f y):=by
 exact Jc (f x) (f y)
theorem rN(F arr:Array Value)(h:F.size<=arr.size):((Go.Sort.putCells id 0 F arr).toList.take F.size)=F.toList:=by
 apply Qu
 ·simp[Go.Sort.putCells];omega
 ·intro i h1 h2;rw[Px]at h2;simp only[List.getElem_take,Array.getElem_toList,Go.Sort.putCells,Array.getElem_mapIdx];rw[AT ⟨cd _,Ts⟩,S8,getElem!_pos F i h2];rfl
end
section
section
variable {α:Type}
structure SrtW(enc:α->List Value)(b:Nat)(w w':World)(ds:List α):Prop where
 os:w'.os=w.os
 tape:w'.tape=w.tape
 output:w'.output=w.output
 size:w.heap.size<=w'.heap.size
 block:∀k,k<w.heap.size->k≠b->w'.heap[k]? =w.heap[k]?
 cells:∀(arr:Array Value)(ty:TypeId)(fz:Nat×Nat),w.heap[b]? =some (.cells arr ty fz)->(ds.flatMap enc).length<=arr.size->∃arr':Array Value,w'.heap[b]? =some (.cells arr' ty fz)/\arr'.size=arr.size/\arr'.toList.take (ds.flatMap enc).length=ds.flatMap enc
theorem sP[Inhabited α]{k:Nat}(hk0:0<k)(enc:α->List Value)(hk:∀x,(enc x).length=k)(d:Array α):(Go.Sort.flatK enc k d).toList=d.toList.flatMap enc:=by
 have hfl:(d.toList.flatMap enc).length=d.toList.length*k:=bV enc k hk d.toList;apply Qu
 ·rw[Px,Go.Sort.size_flatK,hfl,Px]
 ·intro i h1 h2;rw[Px,Go.Sort.size_flatK]at h1;have hq:i/k<d.size:=Nat.div_lt_of_lt_mul (by rwa [Q4]);have hr:i%k<k:=Rb _ hk0;have hg:=Go.Sort.get_flatK enc k d i h1;rw[getElem!_pos _ i (by rw[Go.Sort.size_flatK];exact h1)]at hg;have hf:=fD enc k hk d.toList (i/k) (i%k) (by rw[Px];exact hq) hr;rw[show i/k*k+i%k=i by rw[Q4];exact Nat.div_add_mod i k,By h2]at hf;rw[Array.getElem_toList,hg,getElem!_pos d (i/k) hq];have hl:i%k<(enc d[i/k]).length:=by rw[hk];exact hr
  change _=(enc d[i/k])[i%k]? at hf
  rw[By hl]at hf;rw[getElem!_pos (enc d[i/k]) (i%k) hl];exact(Ru hf).symm
theorem qS[Inhabited α]{k:Nat}(hk0:0<k)(enc:α->List Value)(hk:∀x,(enc x).length=k)(w:World)(b n:Nat)(d:Array α)(os:Array Obj)(hb:b<w.heap.size):SrtW enc b w (sortWorldK enc k w b 0 n d os) d.toList:=by
 have hh:(sortWorldK enc k w b 0 n d os).heap=(w.heap.modify b (Go.Sort.onCells (Go.Sort.putCells id 0 (Go.Sort.flatK enc k d))))++os:=rfl;have hF:=sP hk0 enc hk d;have hl:(d.toList.flatMap enc).length=(Go.Sort.flatK enc k d).size:=by rw[<-hF,Px]
 refine⟨O,O,O,?_,fun j hj hne=>?_,fun arr ty fz h hle=>?_⟩
 ·rw[hh];simp
 ·rw[hh,Sj (by simpa using hj),RG,dw (Ne.symm hne)]
 ·refine⟨Go.Sort.putCells id 0 (Go.Sort.flatK enc k d) arr,?_,by simp[Go.Sort.putCells],?_⟩
  ·rw[hh,Sj (by simpa using hb),RG,AT O,h];rfl
  ·rw[hl]at hle ⊢;rw[rN _ _ hle,hF]
theorem mU[Inhabited α]{k:Nat}(hk0:0<k)(enc:α->List Value)(hk:∀x,(enc x).length=k){w:World}{b:Nat}{arr:Array Value}{ty:TypeId}{ds:List α}(hb:w.heap[b]? =some (.cells arr ty (0,0)))(h:arr.toList.take (ds.flatMap enc).length=ds.flatMap enc):Go.Sort.HoldsK enc k w b 0 ds.toArray:=by
 intro j hj;have hF:=sP hk0 enc hk ds.toArray;have hl:(ds.flatMap enc).length=(Go.Sort.flatK enc k ds.toArray).size:=by
  have:=ag List.length hF;rw[Px]at this;exact this.symm
 have e1:(arr.toList.take (ds.flatMap enc).length)[j]? =(Go.Sort.flatK enc k ds.toArray).toList[j]? :=by rw[h,hF]
 rw[Pw,AT Ts,SY,SY]at e1;constructor
 ·simp only[World.cell?,hb,PJ];rw[e1,getElem!_pos _ j hj];exact Array.getElem?_eq_getElem _
 ·simp[World.frozen?,hb]
theorem permIn_all{d d':Array α}[Inhabited α]{n:Nat}(hn:d.size=n)(h:Go.Sort.PermIn 0 n d d'):d'.toList.Perm d.toList:=by
 obtain⟨h1,_,h2⟩:=h;have e1:d'.extract 0 n=d':=by rw[<-hn,<-h1];simp
 have e2:d.extract 0 n=d:=by rw[<-hn];simp
 rwa [e1,e2]at h2
theorem gZ{d:Array α}[Inhabited α]{lt:α->α->Bool}{n:Nat}(hn:d.size=n)(h:Go.Sort.SortedIn lt 0 n d):d.toList.Pairwise fun a b=>lt b a=false:=by
 rw[P6];intro i j h1 h2 hij;rw[Px]at h1 h2;have:=h i j (cd _) hij Ts;rwa [getElem!_pos d j h2,getElem!_pos d i h1]at this
theorem kz{P:Program}{f:FuncId}{β:Type}{k:Nat}(enc:α->List Value)(hk:∀x,(enc x).length=k)(kc:β->List PV)(hkc:∀x,(kc x).length=k)(hk0:0<k)(xf:α->β)(Srt:List α->Prop)(hS0:Srt []){ty:TypeId}{rest:List Value}{w:World}{m:Gm}{R:RT w (dj m)}{l:List β}{A:Option Addr}{c:Nat}
  (hR:HR ⟨P,m,w,dj m,R⟩ m R.p (ax [(big,.gro ty (l.flatMap kc))]) (avK 0) w) (h0:l.length=0->A=none) (h1:0<l.length->∀b N,m big=some (b,N)->A=some ⟨b,0,none⟩/\N=c*k)
  (hex:∀us,RelPL w R.p (l.flatMap kc) us->∃ds:List α,ds.map xf=l/\ds.flatMap enc=us)
  (hback:∀w':World,(∀b,R.p b->w'.heap[b]? =w.heap[b]?)->∀ds:List α,RelPL w' R.p ((ds.map xf).flatMap kc) (ds.flatMap enc))
  (hnone:Calls P f (Value.slice none 0 c::rest).toArray w fun e w'=>e= .returned (.tuple #[])/\w'=w)
  (hsort:∀(b:Nat)(ds:List α)(arr:Array Value),ds.map xf=l->0<l.length->w.heap[b]? =some (.cells arr ty (0,0))->arr.toList.take (ds.flatMap enc).length=ds.flatMap enc->b<w.heap.size->¬R.p b->
   Calls P f (Value.slice (some ⟨b,0,none⟩) l.length c::rest).toArray w fun e w'=>e= .returned (.tuple #[])/\∃ds':List α,ds'.Perm ds/\Srt ds'/\SrtW enc b w w' ds'):
  Calls P f (Value.slice A l.length c::rest).toArray w fun e w'=>∃u v ob' m' R',e= .returned u/\(∃(l':List β)(ds':List α),l'.Perm l/\ds'.map xf=l'/\Srt ds'/\v= .tup []/\ob'=ax [(big,.gro ty (l'.flatMap kc))])/\
   v.all (okR 1 0)=true/\(∀i o,ob' i=some o->okR 1 0 i=true/\o.all (okR 1 0)=true)/\HR ⟨P,m,w,dj m,R⟩ m' R' ob' (avK 0) w'/\Rel w' m' (avK 0) R' v u:=by
 have hob:∀l:List β,ax [(big,Ob.gro ty (l.flatMap kc))] big=some (.gro ty (l.flatMap kc)):=fun _=>rfl
 have hno:∀{l:List β}{i:Nat},i≠big->ax [(big,Ob.gro ty (l.flatMap kc))] i=none:=fun{l i} hi=>by simp only[ax];rw[nbeqJ hi];rfl
 have hall:∀(l:List β) i o,ax [(big,Ob.gro ty (l.flatMap kc))] i=some o->okR 1 0 i=true/\o.all (okR 1 0)=true:=fun l i o h=>by
  by_cases hi:i=big
  ·subst hi;rw[hob]at h;cases h;exact⟨O,O⟩
  ·rw[hno hi]at h;cases h
 by_cases hn:l=[]
 ·subst hn;obtain rfl:=h0 O;refine hnone.mono ?_;rintro e w' ⟨rfl,rfl⟩;exact⟨.tuple #[],.tup [],_,m,R.p,O,⟨[],[],PY _,O,hS0,O,O⟩,O,hall [],hR,by simp only[Rel];exact⟨[],O,by simp only[RelL]⟩⟩
 ·have hpos:0<l.length:=Qe.2 hn;have hcl:∀l:List β,(l.flatMap kc).length=l.length*k:=bV kc k hkc;have hpk:0<l.length*k:=Tk hpos hk0;have hreal:∀l':List β,l'.length=l.length->(Ob.gro ty (l'.flatMap kc)).real=true:=fun l' e=>cL (by intro h;have:=hcl l';rw[h,e]at this;simp at this;omega)
  have hdom:=hR.dom big;rw[hob]at hdom;obtain⟨⟨b,N⟩,hm⟩:∃x,m big=some x:=PB.1 (hdom.trans (hreal l O));obtain⟨rfl,hN⟩:=h1 hpos b N hm;obtain⟨arr,hb,harr,hle,hrl⟩:=hR.obj big _ b N (hob l) hm;obtain⟨hbs,hbR,_⟩:=hR.own big b N hm;obtain⟨ds,hds,hdu⟩:=hex _ hrl;have hel:∀d:List α,(d.flatMap enc).length=d.length*k:=bV enc k hk;have hdl:ds.length=l.length:=by rw[<-hds,Pg]
  refine(hsort b ds arr hds hpos hb (by rw[show(ds.flatMap enc).length=(l.flatMap kc).length by rw[hel,hdl,hcl]];exact hdu.symm) hbs hbR).mono ?_;rintro e w' ⟨rfl,ds',hp,hs,q⟩;have hpl:(ds'.map xf).Perm l:=hds▸hp.map xf;have hl':(ds'.map xf).length=l.length:=hpl.length_eq;have hdl':ds'.length=l.length:=by rw[<-hl',Pg]
  obtain⟨arr',hb',hs',ht'⟩:=q.cells arr _ _ hb (by rw[hel,hdl',<-hcl,harr];exact hle);refine⟨.tuple #[],.tup [],_,m,R.p,O,⟨ds'.map xf,ds',hpl,O,hs,O,O⟩,O,hall _,?_,by simp only[Rel];exact⟨[],O,by simp only[RelL]⟩⟩;refine⟨fun i=>?_,fun i h=>?_,fun i o b' N' h h'=>?_,hR.inj,fun i b' N' h=>?_,fun b' h=>Ps (hR.rsz b' h) q.size,fun b' h=>hR.rfr b' h,hR.r0,⟨q.os,q.tape,q.output,q.size,fun k hk hF=>q.block k hk fun e=>hF (e▸⟨big,N,hm⟩)⟩,hR.keep,hR.res⟩
  ·by_cases hi:i=big
   ·subst hi;rw[hob,hm];exact(hreal _ hl').symm
   ·rw[hno hi];have:=hR.dom i;rw[hno hi]at this;exact this
  ·by_cases hi:i=big
   ·subst hi;have:=hR.free _ h;rw[hob]at this;cases this
   ·exact hno hi
  ·by_cases hi:i=big
   ·subst hi;rw[hob]at h;cases h;rw[hm]at h';cases h';refine⟨arr',hb',hs'.trans harr,by rw[hcl,hl',<-hcl];exact hle,?_⟩;have e:((ds'.map xf).flatMap kc).length=(ds'.flatMap enc).length:=by rw[hcl,hel,hl',hdl']
    rw[e,ht'];exact hback w' (fun b2 h2=>q.block b2 (hR.rsz b2 h2) fun e=>hbR (e▸h2)) ds'
   ·rw[hno hi]at h;cases h
  ·have:=hR.own i b' N' h;exact⟨Ps this.1 q.size,this.2⟩
end
end
end Go.Proofs.YtoplpepiabedhaaGreatDoor
namespace Go.Proofs
open Go.Proofs.YtoplpepiabedhaaGreatDoor
open Go.Shelf
def Tryz.sortPar_ren:Go.Shelf.Ren:=⟨fun|6=>209|15=>134|14=>290|28=>224|29=>225|20=>346|21=>347|22=>348|23=>349|24=>350|25=>351|26=>352|27=>353|46=>391|47=>295|48=>296|49=>392|50=>393|57=>429|n=>n,fun|22=>171|24=>147|25=>234|3=>3|39=>205|0=>0|53=>344|55=>300|4=>4|46=>338|45=>337|50=>281|5=>5|9=>9|66=>401|70=>405|76=>454|77=>455|n=>n,fun|n=>n⟩
theorem Tryz.sortPar:Go.Proofs.SlLaysF0.n6 prog Tryz.sortPar_ren:={
 mixed:=Tt
 f6:=⟨Tryz.f209.name,Tu,func209.trans (ag some Tt)⟩
 f14:=⟨Tryz.f290.name,Tu,func290.trans (ag some Tt)⟩
 f15:=func134.trans (ag some Tt)
 f20:=⟨Tryz.f346.name,Tu,func346.trans (ag some Tt)⟩
 f21:=⟨Tryz.f347.name,Tu,func347.trans (ag some Tt)⟩
 f22:=⟨Tryz.f348.name,Tu,func348.trans (ag some Tt)⟩
 f23:=⟨Tryz.f349.name,Tu,func349.trans (ag some Tt)⟩
 f24:=⟨Tryz.f350.name,Tu,func350.trans (ag some Tt)⟩
 f25:=⟨Tryz.f351.name,Tu,func351.trans (ag some Tt)⟩
 f26:=⟨Tryz.f352.name,Tu,func352.trans (ag some Tt)⟩
 f27:=⟨Tryz.f353.name,Tu,func353.trans (ag some Tt)⟩
 f28:=func224.trans (ag some Tt)
 f29:=func225.trans (ag some Tt)
 f46:=⟨Tryz.f391.name,Tu,func391.trans (ag some Tt)⟩
 f47:=func295.trans (ag some Tt)
 f48:=func296.trans (ag some Tt)
 f49:=⟨Tryz.f392.name,Tu,func392.trans (ag some Tt)⟩
 f50:=⟨Tryz.f393.name,Tu,func393.trans (ag some Tt)⟩
 f57:=⟨Tryz.f429.name,Tu,func429.trans (ag some Tt)⟩
 t0:=underlying0
 a0:=isAgg0
 z0:=sizeOf0
 v0:=zeroValue0
 t3:=underlying3
 a3:=isAgg3
 z3:=sizeOf3
 v3:=zeroValue3
 t4:=underlying4
 a4:=isAgg4
 z4:=sizeOf4
 v4:=zeroValue4
 t5:=underlying5
 a5:=isAgg5
 z5:=sizeOf5
 v5:=zeroValue5
 t9:=underlying9
 a9:=isAgg9
 z9:=sizeOf9
 v9:=zeroValue9
 t22:=underlying171
 a22:=isAgg171
 z22:=sizeOf171
 v22:=zeroValue171
 t25:=underlying234
 a25:=isAgg234
 z25:=sizeOf234
 v25:=zeroValue234
 t39:=underlying205
 a39:=isAgg205
 z39:=sizeOf205
 v39:=zeroValue205
 t45:=underlying337
 a45:=isAgg337
 z45:=sizeOf337
 v45:=zeroValue337
 t46:=underlying338
 a46:=isAgg338
 z46:=sizeOf338
 v46:=zeroValue338
 t50:=underlying281
 a50:=isAgg281
 z50:=sizeOf281
 v50:=zeroValue281
 t53:=underlying344
 a53:=isAgg344
 z53:=sizeOf344
 v53:=zeroValue344
 t55:=underlying300
 a55:=isAgg300
 z55:=sizeOf300
 v55:=zeroValue300
 t66:=underlying401
 a66:=isAgg401
 z66:=sizeOf401
 v66:=zeroValue401
 t70:=underlying405
 a70:=isAgg405
 z70:=sizeOf405
 v70:=zeroValue405
 t76:=underlying454
 a76:=isAgg454
 z76:=sizeOf454
 v76:=zeroValue454
 t77:=underlying455
 a77:=isAgg455
 z77:=sizeOf455
 v77:=zeroValue455 }
def Tryz.sortPP_ren:Go.Shelf.Ren:=⟨fun|6=>214|15=>134|14=>293|28=>224|29=>225|20=>354|21=>355|22=>356|23=>357|24=>358|25=>359|26=>360|27=>361|46=>394|47=>295|48=>296|49=>395|50=>396|57=>430|n=>n,fun|22=>235|24=>238|25=>242|3=>3|39=>205|0=>0|53=>344|55=>300|4=>4|46=>338|45=>337|50=>281|5=>5|9=>9|66=>401|70=>405|76=>454|77=>455|n=>n,fun|n=>n⟩
theorem Tryz.sortPP:Go.Proofs.SlLaysF0.n6 prog Tryz.sortPP_ren:={
 mixed:=Tt
 f6:=⟨Tryz.f214.name,Tu,func214.trans (ag some Tt)⟩
 f14:=⟨Tryz.f293.name,Tu,func293.trans (ag some Tt)⟩
 f15:=func134.trans (ag some Tt)
 f20:=⟨Tryz.f354.name,Tu,func354.trans (ag some Tt)⟩
 f21:=⟨Tryz.f355.name,Tu,func355.trans (ag some Tt)⟩
 f22:=⟨Tryz.f356.name,Tu,func356.trans (ag some Tt)⟩
 f23:=⟨Tryz.f357.name,Tu,func357.trans (ag some Tt)⟩
 f24:=⟨Tryz.f358.name,Tu,func358.trans (ag some Tt)⟩
 f25:=⟨Tryz.f359.name,Tu,func359.trans (ag some Tt)⟩
 f26:=⟨Tryz.f360.name,Tu,func360.trans (ag some Tt)⟩
 f27:=⟨Tryz.f361.name,Tu,func361.trans (ag some Tt)⟩
 f28:=func224.trans (ag some Tt)
 f29:=func225.trans (ag some Tt)
 f46:=⟨Tryz.f394.name,Tu,func394.trans (ag some Tt)⟩
 f47:=func295.trans (ag some Tt)
 f48:=func296.trans (ag some Tt)
 f49:=⟨Tryz.f395.name,Tu,func395.trans (ag some Tt)⟩
 f50:=⟨Tryz.f396.name,Tu,func396.trans (ag some Tt)⟩
 f57:=⟨Tryz.f430.name,Tu,func430.trans (ag some Tt)⟩
 t0:=underlying0
 a0:=isAgg0
 z0:=sizeOf0
 v0:=zeroValue0
 t3:=underlying3
 a3:=isAgg3
 z3:=sizeOf3
 v3:=zeroValue3
 t4:=underlying4
 a4:=isAgg4
 z4:=sizeOf4
 v4:=zeroValue4
 t5:=underlying5
 a5:=isAgg5
 z5:=sizeOf5
 v5:=zeroValue5
 t9:=underlying9
 a9:=isAgg9
 z9:=sizeOf9
 v9:=zeroValue9
 t22:=underlying235
 a22:=isAgg235
 z22:=sizeOf235
 v22:=zeroValue235
 t25:=underlying242
 a25:=isAgg242
 z25:=sizeOf242
 v25:=zeroValue242
 t39:=underlying205
 a39:=isAgg205
 z39:=sizeOf205
 v39:=zeroValue205
 t45:=underlying337
 a45:=isAgg337
 z45:=sizeOf337
 v45:=zeroValue337
 t46:=underlying338
 a46:=isAgg338
 z46:=sizeOf338
 v46:=zeroValue338
 t50:=underlying281
 a50:=isAgg281
 z50:=sizeOf281
 v50:=zeroValue281
 t53:=underlying344
 a53:=isAgg344
 z53:=sizeOf344
 v53:=zeroValue344
 t55:=underlying300
 a55:=isAgg300
 z55:=sizeOf300
 v55:=zeroValue300
 t66:=underlying401
 a66:=isAgg401
 z66:=sizeOf401
 v66:=zeroValue401
 t70:=underlying405
 a70:=isAgg405
 z70:=sizeOf405
 v70:=zeroValue405
 t76:=underlying454
 a76:=isAgg454
 z76:=sizeOf454
 v76:=zeroValue454
 t77:=underlying455
 a77:=isAgg455
 z77:=sizeOf455
 v77:=zeroValue455 }
def Tryz.sortEnt_ren:Go.Shelf.Ren:=⟨fun|6=>51|15=>134|14=>133|28=>224|29=>225|20=>216|21=>217|22=>218|23=>219|24=>220|25=>221|26=>222|27=>223|46=>294|47=>295|48=>296|49=>297|50=>298|57=>362|n=>n,fun|22=>57|24=>59|25=>124|3=>3|39=>205|0=>0|53=>344|55=>300|4=>4|46=>338|45=>337|50=>281|5=>5|9=>9|66=>401|70=>405|76=>454|77=>455|n=>n,fun|n=>n⟩
theorem Tryz.sortEnt:Go.Proofs.SlLaysF0.n6 prog Tryz.sortEnt_ren:={
 mixed:=Tt
 f6:=⟨Tryz.f51.name,Tu,func51.trans (ag some Tt)⟩
 f14:=⟨Tryz.f133.name,Tu,func133.trans (ag some Tt)⟩
 f15:=func134.trans (ag some Tt)
 f20:=⟨Tryz.f216.name,Tu,func216.trans (ag some Tt)⟩
 f21:=⟨Tryz.f217.name,Tu,func217.trans (ag some Tt)⟩
 f22:=⟨Tryz.f218.name,Tu,func218.trans (ag some Tt)⟩
 f23:=⟨Tryz.f219.name,Tu,func219.trans (ag some Tt)⟩
 f24:=⟨Tryz.f220.name,Tu,func220.trans (ag some Tt)⟩
 f25:=⟨Tryz.f221.name,Tu,func221.trans (ag some Tt)⟩
 f26:=⟨Tryz.f222.name,Tu,func222.trans (ag some Tt)⟩
 f27:=⟨Tryz.f223.name,Tu,func223.trans (ag some Tt)⟩
 f28:=func224.trans (ag some Tt)
 f29:=func225.trans (ag some Tt)
 f46:=⟨Tryz.f294.name,Tu,func294.trans (ag some Tt)⟩
 f47:=func295.trans (ag some Tt)
 f48:=func296.trans (ag some Tt)
 f49:=⟨Tryz.f297.name,Tu,func297.trans (ag some Tt)⟩
 f50:=⟨Tryz.f298.name,Tu,func298.trans (ag some Tt)⟩
 f57:=⟨Tryz.f362.name,Tu,func362.trans (ag some Tt)⟩
 t0:=underlying0
 a0:=isAgg0
 z0:=sizeOf0
 v0:=zeroValue0
 t3:=underlying3
 a3:=isAgg3
 z3:=sizeOf3
 v3:=zeroValue3
 t4:=underlying4
 a4:=isAgg4
 z4:=sizeOf4
 v4:=zeroValue4
 t5:=underlying5
 a5:=isAgg5
 z5:=sizeOf5
 v5:=zeroValue5
 t9:=underlying9
 a9:=isAgg9
 z9:=sizeOf9
 v9:=zeroValue9
 t22:=underlying57
 a22:=isAgg57
 z22:=sizeOf57
 v22:=zeroValue57
 t25:=underlying124
 a25:=isAgg124
 z25:=sizeOf124
 v25:=zeroValue124
 t39:=underlying205
 a39:=isAgg205
 z39:=sizeOf205
 v39:=zeroValue205
 t45:=underlying337
 a45:=isAgg337
 z45:=sizeOf337
 v45:=zeroValue337
 t46:=underlying338
 a46:=isAgg338
 z46:=sizeOf338
 v46:=zeroValue338
 t50:=underlying281
 a50:=isAgg281
 z50:=sizeOf281
 v50:=zeroValue281
 t53:=underlying344
 a53:=isAgg344
 z53:=sizeOf344
 v53:=zeroValue344
 t55:=underlying300
 a55:=isAgg300
 z55:=sizeOf300
 v55:=zeroValue300
 t66:=underlying401
 a66:=isAgg401
 z66:=sizeOf401
 v66:=zeroValue401
 t70:=underlying405
 a70:=isAgg405
 z70:=sizeOf405
 v70:=zeroValue405
 t76:=underlying454
 a76:=isAgg454
 z76:=sizeOf454
 v76:=zeroValue454
 t77:=underlying455
 a77:=isAgg455
 z77:=sizeOf455
 v77:=zeroValue455 }
end Go.Proofs
namespace Go.Proofs.YtoplpepiabedhaaGreatDoor
section
open Go.RowKit Mm Jn
theorem JA{K:Type}{cmp:K->K->Int}(h:Mm.Cmp cmp):Go.Sort.SWO (Go.Proofs.ltOf cmp):=by
 have e:∀x y,Go.Proofs.ltOf cmp x y=decide (cmp x y<0):=fun _ _=>rfl
 refine⟨fun x=>?_,fun x y z h1 h2=>?_,fun x y z h1 h2=>?_⟩
 ·rw[e];have:=h.swap x x;exact Pt Ts
 ·rw[e]at*;exact Pn (h.trans (Q8 h1) (Q8 h2))
 ·rw[e]at*;have h1:=Rc h1;have h2:=Rc h2;refine Pt fun h3=>?_
  by_cases h0:cmp x y=0
  ·rw[h.zero h0]at h3;exact h2 h3
  ·exact h2 (h.trans (by have:=h.swap x y;omega:cmp y x<0) h3)
theorem rL{K:Type}{cmp:K->K->Int}(h:Mm.Cmp cmp):∀{xs l:List K},l.Perm xs->xs.Pairwise (fun a b=>cmp a b<0)->l.Pairwise (fun a b=>¬cmp b a<0)->l=xs
 |[],l,hp,_,_=>List.Perm.eq_nil hp
 |x::xs,[],hp,_,_=>absurd hp.length_eq Tw
 | x::xs,y::t,hp,ha,hb=>by
   obtain⟨a1,a2⟩:=PW.1 ha;obtain⟨b1,b2⟩:=PW.1 hb;have hy:y=x:=by
    rcases AS.1 (hp.subset (PU))with e|hy
    ·exact e
    ·rcases AS.1 (hp.symm.subset (PU))with e|hx
     ·exact e.symm
     ·exact absurd (a1 y hy) (b1 x hx)
   subst hy;rw[rL h hp.cons_inv a2 b2]
def tE(x:Par):List Value:=[.int .i64 x.f,.string x.c]
instance :Inhabited Par:=⟨⟨0,⟨#[]⟩⟩⟩
theorem Jj:∀{l:List Par}{w:World}{R:Nat->Prop}{us:List Value},RelPL w R (l.flatMap oR) us->l.flatMap tE=us
 |[],_,_,us,h=>by simp only[Sx,RelPL]at h;rw[h];rfl
 | x::l,w,R,us,h=>by
   rw[Py]at h;have h1:RelPL w R (oR x) (us.take 2):=by have:=h.take 2;rwa [show(oR x++l.flatMap oR).take 2=oR x from List.take_left' O]at this
   have h2:RelPL w R (l.flatMap oR) (us.drop 2):=by have:=h.drop 2;rwa [show(oR x++l.flatMap oR).drop 2=l.flatMap oR from List.drop_left' O]at this
   rw[Py,Jj h2];have e:us.take 2=tE x:=by
    simp only[RelPL,RelP]at h1;obtain⟨_,_,e,rfl,_,_,rfl,rfl,rfl⟩:=h1;exact e
   rw[<-e,PK]
theorem NO(w:World)(R:Nat->Prop):∀(l:List Par),RelPL w R (l.flatMap oR) (l.flatMap tE)
 |[]=>by simp[RelPL]
 | x::l=>by
   rw[Py,Py];exact RelPL.append (RelPL.cons (by simp only[RelP]) (RelPL.cons (by simp only[RelP]) RelPL.nil)) (NO w R l)
theorem Ag(l:List Par)(hl:l.length<=1000000):
  FnO prog 209 1 0 [.gsl big 2 l.length,.pv (.fn (.func 129) [] [])] [(big,.gro 147 (r9 l))] (fun v ob'=>∃l',l'.Perm l/\(l'.Pairwise fun a b=>¬cq b a<0)/\v= .tup []/\ob'=ax [(big,.gro 147 (r9 l'))]):=by
 intro w m R us hR hrel;simp only[RelL,Rel,RelP]at hrel;obtain⟨u1,us1,rfl,⟨_,A,c,rfl,hnc,hcm,h0,h1⟩,u2,us2,rfl,⟨fs,cs,rfl,hfs,hcs⟩,rfl⟩:=hrel;obtain rfl:=(by simpa[RelPL]using hfs:fs=[]);obtain rfl:=(by simpa[RelPL]using hcs:cs=[]);refine(kz (α:=Par) tE (fun _=>rfl) oR (fun _=>rfl) Tu id (fun ds=>ds.Pairwise fun a b=>Go.Proofs.ltOf cq b a=false) List.Pairwise.nil hR (fun h=>(h0 h).1) h1 (fun us h=>⟨l,Tl _,Jj h⟩) (fun w' _ ds=>by rw[Tl];exact NO w' R.p ds)
  (AnyF.slices_SortFunc_none Tryz.sortPar none c _ w) ?_).mono ?_
 ·intro b ds arr hds hpos hb ht hbs hbR;rw[Tl]at hds;subst hds;have hgo:=AnyQ.slices_SortFunc Tryz.sortPar 2 isAgg147 sizeOf147 tE (fun _=>rfl) (fun x v hv=>by simp only[tE,AS,P7,R6]at hv;rcases hv with hv|hv<;>(rw[hv];rfl)) cq (JA eF) 129 #[] b 0 c ds.toArray w call129
   (fun mm os dk _ x y=>xp x y _) (mU Tu tE (fun _=>rfl) hb ht) hbs (by rw[Pv];omega)
  rw[Pv]at hgo;refine Calls.mono hgo ?_;rintro e w' ⟨rfl,d',n,os,hp,hs,rfl⟩;have hd':d'.size=ds.length:=hp.1.trans Pv;exact⟨O,d'.toList,permIn_all Pv hp,gZ hd' hs,qS Tu tE (fun _=>rfl) w b n d' os hbs⟩
 ·rintro e w' ⟨u,v,ob',m',R',rfl,⟨l',ds',hp,rfl,hs,rfl,rfl⟩,r⟩;refine⟨u,_,_,m',R',O,⟨_,hp,?_,O,O⟩,r⟩;rw[Tl];exact hs.imp fun h=>Rc h
theorem vX(ks vs:List PV):FnP prog 128 [.mp ks vs] (· = .fn (.func 210) [] [.rp [.mp ks vs] 0]):=by
 refine FnP.of func128 O ntmps128 Tw fun m0 w0 F R0=>?_
 exact Z2 O O O<|OT (St.iB 0 O O)<|Z2 O O O<|Gt O<|⟨_,_,O,O,O⟩
theorem sI(xs:List Par)(vs:List PV)(hn:xs.length<=1000000)(ha:xs.Pairwise fun a b=>cq a b<0):
  FnP prog 127 [.fn (.func 210) [] [.rp [.mp (xs.map cP) vs] 0],.fn (.func 129) [] []] (· = .sl none xs.length (r9 xs)):=by
 have hcol:=Ef xs vs hn;refine FnP.of func127 O ntmps127 Tw fun m0 w0 F R0=>?_
 refine Z1 O O<|Z1 O O ?_;refine RL.call O (bM [] 0 call208 O O O O (by exact trivial) Tu O hcol ?_);rintro _ _ ⟨ss,hS,rfl,rfl⟩;refine A1 O ?_;have hsl:ss.length<=1000000:=by rw[hS.length_eq];exact hn
 have hso:=Ag ss hsl;refine Z2 O O O ?_;refine RL.call O (bM [0] 1 call209 O O O O (by exact⟨Tt,TB⟩) Tu O hso ?_);rintro _ _ ⟨l',hp,ho,rfl,rfl⟩;obtain rfl:l'=xs:=rL eF (hp.trans hS) ha ho;have hle:ss.length=l'.length:=hS.length_eq;rw[hle]at*;exact Z2 O O O<|Gt O<|⟨_,_,O,O,O⟩
def ug(x:PP):List Value:=[.int .i64 x.1.f,.string x.1.c,.int .i64 x.2.f,.string x.2.c]
instance :Inhabited PP:=⟨(⟨0,⟨#[]⟩⟩,⟨0,⟨#[]⟩⟩)⟩
theorem JT:∀{l:List PP}{w:World}{R:Nat->Prop}{us:List Value},RelPL w R (l.flatMap ppC) us->l.flatMap ug=us
 |[],_,_,us,h=>by simp only[Sx,RelPL]at h;rw[h];rfl
 | x::l,w,R,us,h=>by
   rw[Py]at h;have h1:RelPL w R (ppC x) (us.take 4):=by have:=h.take 4;rwa [show(ppC x++l.flatMap ppC).take 4=ppC x from List.take_left' O]at this
   have h2:RelPL w R (l.flatMap ppC) (us.drop 4):=by have:=h.drop 4;rwa [show(ppC x++l.flatMap ppC).drop 4=l.flatMap ppC from List.drop_left' O]at this
   rw[Py,JT h2];have e:us.take 4=ug x:=by
    simp only[RelPL,RelP]at h1;obtain⟨_,_,e,rfl,_,_,rfl,rfl,_,_,rfl,rfl,_,_,rfl,rfl,rfl⟩:=h1;exact e
   rw[<-e,PK]
theorem OD(w:World)(R:Nat->Prop):∀(l:List PP),RelPL w R (l.flatMap ppC) (l.flatMap ug)
 |[]=>by simp[RelPL]
 | x::l=>by
   rw[Py,Py];exact RelPL.append (RelPL.cons (by simp only[RelP]) (RelPL.cons (by simp only[RelP]) (RelPL.cons (by simp only[RelP]) (RelPL.cons (by simp only[RelP]) RelPL.nil)))) (OD w R l)
theorem zY(l:List PP)(hl:l.length<=1000000):
  FnO prog 214 1 0 [.gsl big 4 l.length,.pv (.fn (.func 132) [] [])] [(big,.gro 238 (sq l))] (fun v ob'=>∃l',l'.Perm l/\(l'.Pairwise fun a b=>¬dz b a<0)/\v= .tup []/\ob'=ax [(big,.gro 238 (sq l'))]):=by
 intro w m R us hR hrel;simp only[RelL,Rel,RelP]at hrel;obtain⟨u1,us1,rfl,⟨_,A,c,rfl,hnc,hcm,h0,h1⟩,u2,us2,rfl,⟨fs,cs,rfl,hfs,hcs⟩,rfl⟩:=hrel;obtain rfl:=(by simpa[RelPL]using hfs:fs=[]);obtain rfl:=(by simpa[RelPL]using hcs:cs=[]);refine(kz (α:=PP) ug (fun _=>rfl) ppC (fun _=>rfl) Tu id (fun ds=>ds.Pairwise fun a b=>Go.Proofs.ltOf dz b a=false) List.Pairwise.nil hR (fun h=>(h0 h).1) h1 (fun us h=>⟨l,Tl _,JT h⟩) (fun w' _ ds=>by rw[Tl];exact OD w' R.p ds)
  (AnyF.slices_SortFunc_none Tryz.sortPP none c _ w) ?_).mono ?_
 ·intro b ds arr hds hpos hb ht hbs hbR;rw[Tl]at hds;subst hds;have hgo:=AnyQ.slices_SortFunc Tryz.sortPP 4 isAgg238 sizeOf238 ug (fun _=>rfl) (fun x v hv=>by simp only[ug,AS,P7,R6]at hv;rcases hv with hv|hv|hv|hv<;>(rw[hv];rfl)) dz (JA cV) 132 #[] b 0 c ds.toArray w call132
   (fun mm os dk _ x y=>BQ x y _) (mU Tu ug (fun _=>rfl) hb ht) hbs (by rw[Pv];omega)
  rw[Pv]at hgo;refine Calls.mono hgo ?_;rintro e w' ⟨rfl,d',n,os,hp,hs,rfl⟩;have hd':d'.size=ds.length:=hp.1.trans Pv;exact⟨O,d'.toList,permIn_all Pv hp,gZ hd' hs,qS Tu ug (fun _=>rfl) w b n d' os hbs⟩
 ·rintro e w' ⟨u,v,ob',m',R',rfl,⟨l',ds',hp,rfl,hs,rfl,rfl⟩,r⟩;refine⟨u,_,_,m',R',O,⟨_,hp,?_,O,O⟩,r⟩;rw[Tl];exact hs.imp fun h=>Rc h
theorem wC(ks vs:List PV):FnP prog 131 [.mp ks vs] (· = .fn (.func 215) [] [.rp [.mp ks vs] 0]):=by
 refine FnP.of func131 O ntmps131 Tw fun m0 w0 F R0=>?_
 exact Z2 O O O<|OT (St.iB 0 O O)<|Z2 O O O<|Gt O<|⟨_,_,O,O,O⟩
theorem uq(xs:List PP)(vs:List PV)(hn:xs.length<=1000000)(ha:xs.Pairwise fun a b=>dz a b<0):
  FnP prog 130 [.fn (.func 215) [] [.rp [.mp (xs.map ppP) vs] 0],.fn (.func 132) [] []] (· = .sl none xs.length (sq xs)):=by
 have hcol:=Dt xs vs hn;refine FnP.of func130 O ntmps130 Tw fun m0 w0 F R0=>?_
 refine Z1 O O<|Z1 O O ?_;refine RL.call O (bM [] 0 call213 O O O O (by exact trivial) Tu O hcol ?_);rintro _ _ ⟨ss,hS,rfl,rfl⟩;refine A1 O ?_;have hsl:ss.length<=1000000:=by rw[hS.length_eq];exact hn
 have hso:=zY ss hsl;refine Z2 O O O ?_;refine RL.call O (bM [0] 1 call214 O O O O (by exact⟨Tt,TB⟩) Tu O hso ?_);rintro _ _ ⟨l',hp,ho,rfl,rfl⟩;obtain rfl:l'=xs:=rL cV (hp.trans hS) ha ho;have hle:ss.length=l'.length:=hS.length_eq;rw[hle]at*;exact Z2 O O O<|Gt O<|⟨_,_,O,O,O⟩
end
section
namespace Vw
open Mm Jn
set_option autoImplicit false
structure Sup(Q:List Par)(x:Mm.Sem):Prop where
 s:∀p,p∉Q->x.s p=0
 p:∀a b,a∉Q\/b∉Q->x.p a b=0
theorem Sup.add{Q:List Par}{x y:Mm.Sem}(hx:Sup Q x)(hy:Sup Q y):Sup Q (Mm.Sem.add x y):=
 ⟨fun p h=>by show x.s p+y.s p=0;rw[hx.s p h,hy.s p h,S7],fun a b h=>by show x.p a b+y.p a b=0;rw[hx.p a b h,hy.p a b h,S7]⟩
theorem Sup.mul{Q:List Par}{x y:Mm.Sem}(hx:Sup Q x)(hy:Sup Q y):Sup Q (Mm.Sem.mul x y):=by
 refine⟨fun p h=>?_,fun a b h=>?_⟩
 ·show x.c*y.s p+y.c*x.s p=0;rw[hx.s p h,hy.s p h,Tp,Tp,S7]
 ·show x.c*y.p a b+y.c*x.p a b+(x.s a*y.s b+x.s b*y.s a)=0;rw[hx.p a b h,hy.p a b h];rcases h with h|h
  ·rw[hx.s a h,hy.s a h];grind
  ·rw[hx.s b h,hy.s b h];grind
theorem Sup.cnt(Q:List Par)(n:Int):Sup Q (cnt n):=⟨fun _ _=>rfl,fun _ _ _=>rfl⟩
theorem Sup.lft{Q:List Par}{p:Par}(h:p∈Q)(x:Rat):Sup Q (lft p x):=by
 refine⟨fun q hq=>?_,fun a b hq=>?_⟩
 ·unfold Mm.lft;refine dw ?_;intro e;exact hq (e▸h)
 ·unfold Mm.lft;refine dw ?_;rintro⟨rfl,rfl⟩;rcases hq with hq|hq<;>exact hq h
structure Gv where
 m:Mm.Sem
 n:Nat
 w:Nat
 k:Nat
def Gv.mul(a b:Gv):Gv:=⟨Mm.Sem.mul a.m b.m,a.n*b.n,a.w*b.w,a.k+b.k⟩
def Gv.add(a b:Gv):Gv:=⟨Mm.Sem.add a.m b.m,a.n+b.n,a.w+b.w,max a.k b.k⟩
def Gv.whole(w:Nat):Gv:=⟨cnt w,1,w,0⟩
structure GvOk(Q:List Par)(g:Gv):Prop where
 s:SOk g.w g.k g.m
 q:Sup Q g.m
theorem GvOk.mul{Q:List Par}{a b:Gv}(ha:GvOk Q a)(hb:GvOk Q b):GvOk Q (a.mul b):=⟨ha.s.mul hb.s,ha.q.mul hb.q⟩
theorem GvOk.add{Q:List Par}{a b:Gv}(ha:GvOk Q a)(hb:GvOk Q b):GvOk Q (a.add b):=
 ⟨(ha.s.up (BY _) (Nat.le_max_left _ _)).add (hb.s.up (BY _) (Nat.le_max_right _ _)),ha.q.add hb.q⟩
theorem GvOk.whole(Q:List Par)(w:Nat):GvOk Q (Gv.whole w):=⟨kU w,Sup.cnt Q w⟩
structure Msr(f:Gv->Nat):Prop where
 mul:∀a b,f (a.mul b)=f a*f b
 add:∀a b,f (a.add b)=f a+f b
theorem msr_n:Msr Gv.n:=⟨fun _ _=>rfl,fun _ _=>rfl⟩
theorem EN:Msr Gv.w:=⟨fun _ _=>rfl,fun _ _=>rfl⟩
structure Itm where
 v:List ByteArray
 g:Gv
structure Prt where
 a:List Int
 is:List Itm
structure Ch where
 v:List ByteArray
 s:List Bool
def agr1(x:Ch)(p:Int×ByteArray):Bool:= !x.s.getD p.1.toNat false||decide (x.v.getD p.1.toNat ⟨#[]⟩=p.2)
def FI(x:Ch)(A:List Int)(V:List ByteArray):Bool:=(A.zip V).all (agr1 x)
def AR(x:Ch)(p:Int×ByteArray):Ch:=⟨x.v.set p.1.toNat p.2,x.s.set p.1.toNat true⟩
def xy(x:Ch)(A:List Int)(V:List ByteArray):Ch:=(A.zip V).foldl AR x
def leaves:List Prt->Ch->Gv->List (Ch×Gv)
 |[],x,g=>[(x,g)]
 |p::ps,x,g=>p.is.flatMap fun i=>if FI x p.a i.v=true then leaves ps (xy x p.a i.v) (g.mul i.g)else []
theorem yx:∀(Z:List (Int×ByteArray))(x:Ch),(Z.foldl AR x).v.length=x.v.length/\(Z.foldl AR x).s.length=x.s.length
 |[],x=>⟨O,O⟩
 | p::Z,x=>by
   have h:=yx Z (AR x p);simp only[AR,PO]at h;exact h
theorem AP{ps:List Prt}:∀{x:Ch}{g:Gv},(∃p∈ps,p.is=[])->leaves ps x g=[]:=by
 induction ps with
 |nil=>rintro x g ⟨p,hp,_⟩;simp at hp
 | cons p ps ih=>
   rintro x g ⟨q,hq,he⟩;rcases AS.1 hq with rfl|hq
   ·rw[leaves,he];rfl
   ·rw[leaves,List.flatMap_eq_nil_iff];intro i _;split
    ·exact ih ⟨q,hq,he⟩
    ·rfl
theorem Aa{I:Ch->Gv->Prop}{ps:List Prt}:∀{x:Ch}{g:Gv},I x g->(∀p∈ps,∀i∈p.is,∀x g,I x g->FI x p.a i.v=true->I (xy x p.a i.v) (g.mul i.g))->∀l∈leaves ps x g,I l.1 l.2:=by
 induction ps with
 |nil=>intro x g h _ l hl;simp only[leaves,OF]at hl;subst hl;exact h
 | cons p ps ih=>
   intro x g h hs l hl;rw[leaves,P5]at hl;obtain⟨i,hi,hl⟩:=hl;split at hl
   ·rename_i ha;exact ih (hs p Tw i hi x g h ha) (fun q hq=>hs q (by simp[hq])) l hl
   ·simp at hl
def c6:List Nat->Nat
 |[]=>1
 |a::l=>a*c6 l
theorem dx:∀l m:List Nat,c6 (l++m)=c6 l*c6 m
 |[],m=>by simp[c6]
 |a::l,m=>by simp only[Qq,c6,dx l m,Q6]
theorem mK{M:Nat}(hM:1<=M):∀{l:List Nat}{j:Nat},(∀a∈l,a<=M)->l.length<=j->c6 l<=M^j
 |[],j,_,_=>Nat.one_le_pow _ _ hM
 |a::l,0,_,h=>by simp at h
 | a::l,j+1,ha,h=>by
   rw[c6,Rq,Q4];exact Qc (mK hM (fun b hb=>ha b (by simp[hb])) (by simpa using h)) (ha a Tw)
theorem k7{α:Type}{f g:α->Nat}:∀{l:List α},(∀a∈l,f a<=g a)->c6 (l.map f)<=c6 (l.map g)
 |[],_=>BY _
 |a::l,h=>Qc (h a Tw) (k7 fun b hb=>h b (by simp[hb]))
def Prt.tot(f:Gv->Nat)(p:Prt):Nat:=(p.is.map fun i=>f i.g).sum
theorem xb{α:Type}(f:α->List Nat):∀l:List α,(l.flatMap f).sum=(l.map fun a=>(f a).sum).sum
 |[]=>rfl
 |a::l=>by rw[Py,List.sum_append,bL,PM,xb f l]
theorem tQ{α:Type}{f g:α->Nat}:∀{l:List α},(∀a∈l,f a<=g a)->(l.map f).sum<=(l.map g).sum
 |[],_=>BY _
 |a::l,h=>by simp only[bL,PM];exact Nat.add_le_add (h a Tw) (tQ fun b hb=>h b (by simp[hb]))
theorem xQ(c:Nat):∀l:List Nat,(l.map fun a=>c*a).sum=c*l.sum
 |[]=>by simp
 |a::l=>by simp only[bL,PM,xQ c l,RF]
theorem Ar{f:Gv->Nat}(hf:Msr f){ps:List Prt}:∀{x:Ch}{g:Gv},((leaves ps x g).map fun l=>f l.2).sum<=f g*c6 (ps.map (Prt.tot f)):=by
 induction ps with
 |nil=>intro x g;simp[leaves,c6]
 | cons p ps ih=>
   intro x g;rw[leaves,R4,xb,bL,c6];have h1:(p.is.map fun i=>((if FI x p.a i.v=true then leaves ps (xy x p.a i.v) (g.mul i.g)else []).map fun l=>f l.2).sum).sum<=(p.is.map fun i=>f g*c6 (ps.map (Prt.tot f))*f i.g).sum:=by
    refine tQ fun i _=>?_
    split
    ·have:=ih (x:=xy x p.a i.v) (g:=g.mul i.g);rw[hf.mul]at this;refine IS this (Qp ?_);rw[Q6,Q4 (f i.g),<-Q6]
    ·simp
   refine IS h1 (Qp ?_);have h2:=xQ (f g*c6 (ps.map (Prt.tot f))) (p.is.map fun i=>f i.g);rw[Q3]at h2;refine PG h2 ?_;show f g*c6 _*Prt.tot f p=f g*(Prt.tot f p*c6 _);rw[Q6,Q4 (c6 _)]
def Prt.km(p:Prt):Nat:=p.is.foldr (fun i z=>max i.g.k z) 0
theorem mk_le{p:Prt}{i:Itm}(h:i∈p.is):i.g.k<=p.km:=by
 unfold Prt.km
 revert h
 induction p.is with
 |nil=>intro h;simp at h
 | cons j l ih=>
   intro h;simp only[List.foldr_cons];rcases AS.1 h with rfl|h
   ·exact Nat.le_max_left _ _
   ·exact IS (ih h) (Nat.le_max_right _ _)
theorem K9{p:Prt}{K:Nat}(h:∀i∈p.is,i.g.k<=K):p.km<=K:=by
 unfold Prt.km
 revert h
 induction p.is with
 |nil=>intro _;exact cd _
 |cons j l ih=>intro h;exact Nat.max_le.2 ⟨h j Tw,ih fun i hi=>h i (by simp[hi])⟩
theorem yq{ps:List Prt}:∀{x:Ch}{g:Gv},∀l∈leaves ps x g,l.2.k<=g.k+(ps.map Prt.km).sum:=by
 induction ps with
 |nil=>intro x g l hl;simp only[leaves,OF]at hl;subst hl;simp
 | cons p ps ih=>
   intro x g l hl;rw[leaves,P5]at hl;obtain⟨i,hi,hl⟩:=hl;split at hl
   ·have:=ih l hl;have h2:=mk_le hi;simp only[bL,PM];have e:(g.mul i.g).k=g.k+i.g.k:=rfl;omega
   ·simp at hl
structure En where
 t:ByteArray
 v:List ByteArray
 g:Gv
def jnt(v:List ByteArray):ByteArray:=⟨(Lib.join (v.map (·.data.toList)) [0]).toArray⟩
def uX(E:List En)(t:ByteArray):Option Nat:=E.findIdx? fun e=>decide (e.t=t)
def s5(E:List En)(v:List ByteArray)(g:Gv):List En:=match uX E (jnt v)with
 |some i=>E.set i ⟨jnt v,v,g.add (E.getD i ⟨jnt v,v,g⟩).g⟩
 |none=>E++[⟨jnt v,v,g⟩]
theorem eD{E:List En}{t:ByteArray}{i:Nat}(h:uX E t=some i):∃hi:i<E.length,E[i].t=t/\∀j (hj:j<i),(E[j]'Ts).t≠t:=by
 obtain⟨hi,h1,h2⟩:=Rj.1 h;exact⟨hi,by simpa using h1,fun j hj=>by have:=h2 j hj;simpa using this⟩
theorem jO{E:List En}{t:ByteArray}(h:uX E t=none):∀e∈E,e.t≠t:=by
 intro e he;have:=Sv.1 h e he;simpa using this
theorem ed(E:List En)(v:List ByteArray)(g:Gv):(∃i,∃hi:i<E.length,uX E (jnt v)=some i/\s5 E v g=E.set i ⟨jnt v,v,g.add E[i].g⟩/\E[i].t=jnt v)\/(uX E (jnt v)=none/\s5 E v g=E++[⟨jnt v,v,g⟩]/\∀e∈E,e.t≠jnt v):=by
 unfold s5;cases h:uX E (jnt v)with
 | some i=>
   obtain⟨hi,h1,_⟩:=eD h;exact .inl ⟨i,hi,O,by simp[List.getD,hi],h1⟩
 |none=>exact .inr ⟨O,O,jO h⟩
theorem FU(E:List En)(v:List ByteArray)(g:Gv):E.length<=(s5 E v g).length:=by
 rcases ed E v g with⟨i,hi,_,e,_⟩|⟨_,e,_⟩<;>rw[e]<;>simp
structure EnOk(E:List En):Prop where
 nd:(E.map (·.t)).Nodup
 t:∀e∈E,e.t=jnt e.v
theorem EnOk.nil:EnOk []:=⟨List.nodup_nil,fun _ h=>absurd h Tw⟩
theorem Le{E:List En}(h:EnOk E)(v:List ByteArray)(g:Gv):EnOk (s5 E v g):=by
 rcases ed E v g with⟨i,hi,_,e,ht⟩|⟨_,e,hn⟩<;>rw[e]
 ·refine⟨?_,fun x hx=>?_⟩
  ·rw[Qi];have h3:(E.map (·.t)).set i ((E.map (·.t))[i]'(by simpa using hi))=E.map (·.t):=List.set_getElem_self _;simp only[Qm,ht]at h3;show((E.map (·.t)).set i (jnt v)).Nodup;rw[h3];exact h.nd
  ·rcases RR hx with hx|rfl
   ·exact h.t x hx
   ·rfl
 ·refine⟨?_,fun x hx=>?_⟩
  ·rw[PD,Sg];refine⟨h.nd,Tw,fun a ha b hb e2=>?_⟩;obtain⟨x,hx,rfl⟩:=IT.1 ha;simp at hb;exact hn x hx (e2.trans hb)
  ·rcases Pq.1 hx with hx|hx
   ·exact h.t x hx
   ·simp at hx;subst hx;rfl
theorem IW{E:List En}{v:List ByteArray}{g:Gv}{x:En}(h:x∈s5 E v g):x∈E\/(x.v=v/\(x.g=g\/∃y∈E,y.t=jnt v/\x.g=g.add y.g)):=by
 rcases ed E v g with⟨i,hi,_,e,ht⟩|⟨_,e,hn⟩<;>rw[e]at h
 ·rcases RR h with h|rfl
  ·exact .inl h
  ·exact .inr ⟨O,.inr ⟨E[i],ar hi,ht,O⟩⟩
 ·rcases Pq.1 h with h|h
  ·exact .inl h
  ·simp at h;subst h;exact .inr ⟨O,.inl O⟩
def gO(f:Gv->Nat)(E:List En):Nat:=(E.map fun e=>f e.g).sum
theorem EK{f:Gv->Nat}:∀{E:List En}{i:Nat}(hi:i<E.length)(e:En),gO f (E.set i e)+f E[i].g=gO f E+f e.g
 |x::E,0,_,e=>by simp only[gO,List.set_cons_zero,bL,PM,List.getElem_cons_zero];omega
 | x::E,i+1,hi,e=>by
   have:=EK (f:=f) (E:=E) (i:=i) (by simpa using hi) e;simp only[gO,List.set_cons_succ,bL,PM,List.getElem_cons_succ]at this ⊢;omega
theorem rX{f:Gv->Nat}(hf:Msr f)(E:List En)(v:List ByteArray)(g:Gv):gO f (s5 E v g)=gO f E+f g:=by
 rcases ed E v g with⟨i,hi,_,e,ht⟩|⟨_,e,hn⟩<;>rw[e]
 ·have:=EK (f:=f) hi ⟨jnt v,v,g.add E[i].g⟩;simp only[hf.add]at this;omega
 ·simp[gO]
def jl(K:List Int)(x:Ch):List ByteArray:=K.map fun a=>x.v.getD a.toNat ⟨#[]⟩
open Classical in
noncomputable def stepE(lf:ByteArray->Gv)(v:Int)(K:List Int)(E:List En)(l:Ch×Gv):List En:=
 if(l.2.mul (lf (l.1.v.getD v.toNat ⟨#[]⟩))).m=Mm.Sem.zero then E else s5 E (jl K l.1) (l.2.mul (lf (l.1.v.getD v.toNat ⟨#[]⟩)))
noncomputable def foldE(lf:ByteArray->Gv)(v:Int)(K:List Int)(E:List En)(ls:List (Ch×Gv)):List En:=ls.foldl (stepE lf v K) E
def ch0(n:Nat):Ch:=⟨List.replicate n ⟨#[]⟩,List.replicate n false⟩
noncomputable def viewE(lf:ByteArray->Gv)(n:Nat)(v:Int)(K:List Int)(ps:List Prt):List En:=foldE lf v K [] (leaves ps (ch0 n) (Gv.whole 1))
section
variable {lf:ByteArray->Gv}{v:Int}{K:List Int}
theorem eS(E:List En)(l:Ch×Gv):stepE lf v K E l=E\/stepE lf v K E l=s5 E (jl K l.1) (l.2.mul (lf (l.1.v.getD v.toNat ⟨#[]⟩))):=by
 unfold stepE;split
 ·exact .inl O
 ·exact .inr O
theorem CP(E:List En)(l:Ch×Gv):E.length<=(stepE lf v K E l).length:=by
 rcases eS (lf:=lf) (v:=v) (K:=K) E l with e|e<;>rw[e]
 ·exact BY _
 ·exact FU _ _ _
theorem tm:∀(ls:List (Ch×Gv))(E:List En),E.length<=(foldE lf v K E ls).length
 |[],_=>BY _
 |l::ls,E=>IS (CP E l) (tm ls _)
theorem oe(E:List En)(a b:List (Ch×Gv)):foldE lf v K E (a++b)=foldE lf v K (foldE lf v K E a) b:=Sk
theorem xt:∀(ls:List (Ch×Gv)){E:List En},EnOk E->EnOk (foldE lf v K E ls)
 |[],_,h=>h
 | l::ls,E,h=>by
   refine xt ls ?_;rcases eS (lf:=lf) (v:=v) (K:=K) E l with e|e<;>rw[e]
   ·exact h
   ·exact Le h _ _
theorem j4{I:En->Prop}(ha:∀x y:En,I x->I y->∀t,I ⟨t,x.v,x.g.add y.g⟩):∀(ls:List (Ch×Gv)){E:List En},(∀e∈E,I e)->(∀l∈ls,I ⟨jnt (jl K l.1),jl K l.1,l.2.mul (lf (l.1.v.getD v.toNat ⟨#[]⟩))⟩)->∀e∈foldE lf v K E ls,I e
 |[],_,h,_=>h
 | l::ls,E,h,hl=>by
   refine j4 ha ls ?_ fun x hx=>hl x (by simp[hx])
   rcases eS (lf:=lf) (v:=v) (K:=K) E l with e|e<;>rw[e]
   ·exact h
   ·intro x hx;have h0:=hl l Tw;obtain⟨t,xv,xg⟩:=x;have ht:t=jnt xv\/⟨t,xv,xg⟩∈E:=by
     rcases ed E (jl K l.1) (l.2.mul (lf (l.1.v.getD v.toNat ⟨#[]⟩)))with⟨i,hi,_,e2,_⟩|⟨_,e2,_⟩<;>rw[e2]at hx
     ·rcases RR hx with hx|hx
      ·exact .inr hx
      ·cases hx;exact .inl O
     ·rcases Pq.1 hx with hx|hx
      ·exact .inr hx
      ·simp at hx;obtain⟨rfl,rfl,rfl⟩:=hx;exact .inl O
    rcases IW hx with hx|⟨rfl,rfl|⟨y,hy,_,rfl⟩⟩
    ·exact h _ hx
    ·rcases ht with rfl|ht
     ·exact h0
     ·exact h _ ht
    ·exact ha _ y h0 (h y hy) t
theorem uD{f:Gv->Nat}(hf:Msr f)(h1:∀t,f (lf t)=1):∀(ls:List (Ch×Gv))(E:List En),gO f (foldE lf v K E ls)<=gO f E+(ls.map fun l=>f l.2).sum
 |[],E=>by simp[foldE]
 | l::ls,E=>by
   have:=uD hf h1 ls (stepE lf v K E l);have e:gO f (stepE lf v K E l)<=gO f E+f l.2:=by
    rcases eS (lf:=lf) (v:=v) (K:=K) E l with e|e<;>rw[e]
    ·omega
    ·rw[rX hf,hf.mul,h1,PX];exact BY _
   simp only[bL,PM];show gO f (foldE lf v K (stepE lf v K E l) ls)<=_;omega
theorem xh{f:Gv->Nat}(hf:Msr f):∀(ls:List (Ch×Gv))(E:List En),gO f E<=gO f (foldE lf v K E ls)
 |[],E=>BY _
 | l::ls,E=>by
   refine IS ?_ (xh hf ls (stepE lf v K E l));rcases eS (lf:=lf) (v:=v) (K:=K) E l with e|e<;>rw[e]
   ·exact BY _
   ·rw[rX hf];omega
theorem sG{f:Gv->Nat}(hf:Msr f)(h1:∀t,f (lf t)=1)(h2:f (Gv.whole 1)=1)(n:Nat)(ps:List Prt):gO f (viewE lf n v K ps)<=c6 (ps.map (Prt.tot f)):=by
 have h3:=uD (lf:=lf) (v:=v) (K:=K) hf h1 (leaves ps (ch0 n) (Gv.whole 1)) [];have h4:=Ar hf (ps:=ps) (x:=ch0 n) (g:=Gv.whole 1);rw[h2,Nat.one_mul]at h4;have h5:gO f []=0:=rfl;unfold viewE;omega
theorem uL{n:Nat}{ps:List Prt}(h:∃p∈ps,p.is=[]):viewE lf n v K ps=[]:=by
 unfold viewE;rw[AP h];rfl
end
theorem FZ:∀(v:List ByteArray)(M:Nat),(∀t∈v,t.size<=M)->(Lib.join (v.map (·.data.toList)) [0]).length<=v.length*(M+1)
 |[],M,_=>by simp[Lib.join]
 | x::r,M,h=>by
   rw[bL,Lib.join_cons,Ph];have h1:x.data.toList.length<=M:=by rw[Px];exact h x Tw
   have h2:∀r:List ByteArray,(∀t∈r,t.size<=M)->(Lib.joinTail [0] (r.map (·.data.toList))).length<=r.length*(M+1):=fun r=>by
    induction r with
    |nil=>intro _;simp[Lib.joinTail]
    | cons y r ih=>
      intro hy;have h3:=ih fun t ht=>hy t (by simp[ht])
      have h4:y.data.toList.length<=M:=by rw[Px];exact hy y Tw
      simp only[Lib.joinTail,bL,List.flatten_cons,Ph,PI,Pd,Rt]at h3 ⊢;rw[Nat.add_mul];omega
   have h3:=h2 r fun t ht=>h t (by simp[ht])
   rw[Pd,Nat.add_mul];omega
theorem LI{E:List En}(h:∀e∈E,1<=e.g.n):E.length<=gO Gv.n E:=by
 induction E with
 |nil=>exact cd _
 | cons e E ih=>
   have h1:=h e Tw;have h2:=ih fun x hx=>h x (by simp[hx])
   simp only[gO,bL,PM,Pd]at h2 ⊢;omega
theorem u7{f:Gv->Nat}{E:List En}{e:En}(h:e∈E):f e.g<=gO f E:=by
 induction E with
 |nil=>simp at h
 | cons x E ih=>
   simp only[gO,bL,PM];rcases AS.1 h with rfl|h
   ·omega
   ·have:=ih h;simp only[gO]at this;omega
end Vw
end
section
open Mk Jn
set_option autoImplicit false

def Zf(x:ByteArray):Prop:=(0:UInt8)∉x.data.toList


end
section
open Mk Jn
theorem Agr.Ld{n:Nat}{ops:Array Oper}{σ τ:St}{s:OS}{rd:List Nat}{y:Operand}{xs:Array Operand}{ts:Array TypeId}{dst:Option Tmp}{ty:TypeId}{pos:String}{after:Array Edge}{gd:Option (Nat×Bool)}
  (h:Agr n ops ⟨dst,.call { callee:= .value y,args:=xs,argTypes:=ts },ty,pos,after,gd⟩ σ τ s rd):xs.toList.map (τ.ev n)=xs.toList.map (σ.ev n):=by
 apply PR;intro x hx;obtain⟨i,hi⟩:=Qr hx;exact h.e (i+1) x (by simpa[Op.operands,Call.operands,SN]using hi)

abbrev ba(ll:List (List Int)):PV:= .sl none ll.length (ll.map ai)
theorem fo{ll:List (List Int)}{k:Nat}(h:k<ll.length):(ll.map ai)[k*1]? =some (ai ll[k]):=by simp[h]
theorem fu{ll:List (List Int)}{k:Nat}(h:k<ll.length):ll.map ai≠[]:=fun e=>by have:=ag List.length e;simp at this;rw[this]at h;simp at h
structure VD where
 chs:List (List Int)
 kes:List (List Int)
 hos:List (List Int)
 wa:List Int
section
theorem vT(S:Sch)(P:List Int)(v:Int):(fh S P v).length<=P.length:=by
 unfold fh JB;rw[(ln _).length_eq];exact IS (Re ..) (iI P v)
end
end
section
def pcN(k n:Nat):Nat:=(List.range k).countP fun i=>n.testBit i
theorem xa(k n:Nat):pcN (k+1) n=n%2+pcN k (n/2):=by
 unfold pcN;rw[List.range_succ_eq_map,List.countP_cons,List.countP_map];have e:((fun i=>n.testBit i)∘Nat.succ)=fun i=>(n/2).testBit i:=by
  funext i;simp[Nat.testBit_succ]
 rw[e,SN]
 congr 1
 rw[Nat.testBit_zero];rcases Nat.mod_two_eq_zero_or_one n with h|h<;>simp[h]
theorem uu{n:Nat}(h:n≠0):(n&&&(n-1))%2=0/\(n&&&(n-1))/2=if n%2=0 then(n/2)&&&(n/2-1)else n/2:=by
 constructor
 ·have:=Nat.and_mod_two_pow (a:=n) (b:=n-1) (n:=1);simp only[Nat.pow_one]at this;rw[this];rcases Nat.mod_two_eq_zero_or_one n with e|e
  ·rw[e];simp
  ·rw[e,show(n-1)%2=0 by omega];simp
 ·have:(n&&&(n-1))/2=n/2&&&(n-1)/2:=by
   apply Nat.eq_of_testBit_eq;intro i;rw[<-Nat.testBit_succ,Nat.testBit_and,Nat.testBit_and,Nat.testBit_succ,Nat.testBit_succ]
  rw[this];split
  ·rw[show(n-1)/2=n/2-1 by omega]
  ·rw[show(n-1)/2=n/2 by omega,Nat.and_self]
theorem xT:∀k n,n<2^k->n≠0->pcN k (n&&&(n-1))+1=pcN k n
 |0,n,h,h0=>by simp at h;omega
 | k+1,n,h,h0=>by
   rw[xa,xa];obtain⟨h1,h2⟩:=uu h0;rw[h1,h2];split
   ·rename_i e;have:=xT k (n/2) (by rw[Rq]at h;omega) Ts;omega
   ·omega
theorem Ir{x:B64}(h:x≠0#64):jL (x&&&(x-1#64))+1=jL x:=by
 have h0:x.toNat≠0:=fun e=>h (BitVec.eq_of_toNat_eq (by simpa using e))
 have hl:=x.isLt;have e:(x&&&(x-1#64)).toNat=x.toNat&&&(x.toNat-1):=by
  rw[BitVec.toNat_and,BitVec.toNat_sub]
  congr 1
  simp;omega
 have:=xT 64 x.toNat hl h0;rw[<-e]at this;exact this
noncomputable def widW(p:B64->Nat)(G:List B64)(rest:B64):Nat:=(compsN G rest G.length).1.foldl (fun m c=>max m (p c)) 0
noncomputable def minW(w:B64->Nat)(G:List B64)(c:B64)(k:Nat):Nat:=(List.range k).foldl (fun m a=>if c.getLsbD a=true then min m (w (c&&& ~~~(BitVec.twoPow 64 a)))else m) (G.length+1)
noncomputable def nearB(G:List B64)(c:B64):B64:=bitsOf fun i=>(List.range G.length).any fun b=>c.getLsbD b&&(G.getD b 0#64).getLsbD i
noncomputable def keyN(G:List B64)(c:B64):Nat:=jL (nearB G c&&& ~~~c)
noncomputable def parF(G:List B64):Nat->B64->Nat
 |0,_=>0
 |f+1,c=>max (minW (widW (parF G f) G) G c G.length) (keyN G c+1)
noncomputable def partV(G:List B64)(c:B64):Nat:=parF G 64 c
noncomputable def widV(G:List B64)(rest:B64):Nat:=widW (partV G) G rest
def InB(n:Nat)(c:B64):Prop:=∀i,c.getLsbD i=true->i<n

noncomputable def leastF(G:List B64)(most:Nat):Nat->B64->List Int
 |0,_=>[]
 | f+1,rest=>match (List.range G.length).find? (fun a=>rest.getLsbD a&&decide (widV G (compB G rest a&&& ~~~(BitVec.twoPow 64 a))<=most))with
   |some a=>(a:Int)::leastF G most f (rest&&& ~~~(BitVec.twoPow 64 a))
   |none=>[]
noncomputable def leastL(G:List B64):List Int:=leastF G (widV G (FJ G.length)) G.length (FJ G.length)
end
section
open Mk
theorem Ft(x:B64):FnP prog 114 [fF x] (· = .int .i64 (jL x)):=by
 refine FnP.of func114 O ntmps114 Tw fun m0 w0 F R0=>?_
 refine Z1 O O<|Z1 O O ?_;refine Gl O (st:=fun TC:B64×Nat=>mkS [(0,.pv (fF TC.1)),(3,pIi TC.2)] [] 0)
  (I:=fun TC=>TC.2+jL TC.1=jL x) (μ:=fun TC=>jL TC.1) (x0:=(x,0)) (OU (aS O) trivial O O) Tw ?_
 rintro⟨y,k⟩ hk;try simp only at hk ⊢
 have h64:=FB x;refine Z1 O O<|Rs 5 O O (CE (Y:=0#64) O O) ?_;refine Gp O O (fun hc5=>?_) (fun hc5=>?_)
 ·have hp:=Ir hc5;exact OR<|Z3 O O O O<|Z2 O O O<|Rs 8 O O (Lb (Y:=1#64) O O)<|Rs 9 O O (u6 O O)<|A1 O<|⟨(y&&&(y-1#64),k+1),OU (aS O) trivial O O,Tz,Tz⟩
 ·have hz:y=0#64:=PT hc5;subst hz;exact Gx O<|Z2 O O O<|Gt O<|⟨_,_,O,O,by rw[<-hk];rfl⟩
end
section
open Mk Jn
def j6(X:B64)(k:Nat):List Int:=((List.range k).filter fun a=>X.getLsbD a).map Int.ofNat
theorem pD(X:B64)(k:Nat):j6 X (k+1)=j6 X k++if X.getLsbD k=true then [(k:Int)]else []:=by
 unfold j6;rw[SL,Sw,PD];by_cases h:X.getLsbD k=true
 ·simp[RE,h]
 ·simp[RE,h]
theorem Gg{X:B64}{a:Nat}(h:X>>>a=0#64):∀b,a<=b->X.getLsbD b=false:=by
 intro b hb;have:=ag (fun z=>z.getLsbD (b-a)) h;simp only[BitVec.getLsbD_ushiftRight,BitVec.getLsbD_zero]at this;rwa [show a+(b-a)=b by omega]at this
theorem Ka{n:Nat}{X:B64}(h:InB n X):X>>>n=0#64:=by
 apply BitVec.eq_of_getLsbD_eq;intro i hi;simp only[BitVec.getLsbD_ushiftRight,BitVec.getLsbD_zero];cases hb:X.getLsbD (n+i)with
 |false=>rfl
 |true=>have:=h _ hb;omega
theorem DR{X:B64}{a n:Nat}(h:X>>>a=0#64)(ha:a<=n):j6 X n=j6 X a:=by
 induction n with
 |zero=>rw[show a=0 by omega]
 | succ n ih=>
   rcases SZ n a with h1|h1
   ·rw[show a=n+1 by omega]
   ·rw[pD,Gg h n h1,dw Tw,PZ,ih h1]
theorem BV(X:B64)(n:Nat)(hn:n<=60)(hX:InB n X):FnP prog 116 [fF X] (· =ai (j6 X n)):=by
 refine FnP.of func116 O ntmps116 Tw fun m0 w0 F R0=>?_
 have hso:=Ka hX;refine Z1 O O<|Z1 O O<|OT (OZ 3 0 1 3 O O)<|Z1 O O ?_;refine Gl O (st:=fun TC:Nat×List Int=>mkS [(0,.pv (fF X)),(3,.gsl 0 1 TC.2.length),(4,pIi TC.1)] [(0,.gro 3 (aF TC.2))] 1)
  (I:=fun TC=>(TC.1<=n/\TC.2.length<=TC.1)/\TC.2=j6 X TC.1) (μ:=fun TC=>n-TC.1) (x0:=(0,[])) (OU (aS O) (aO O) O O) (⟨⟨cd _,BY _⟩,O⟩) ?_
 rintro⟨a,q⟩ ⟨⟨ha,hqa⟩,hq⟩;try simp only at ha hqa hq ⊢
 refine Z2 O O O<|Rs 7 O O (Bq a O O O Ts)<|Rs 8 O O (CE (Y:=0#64) O O) ?_;refine Gp O O (fun hc8=>?_) (fun hc8=>?_)
 ·have hlt:a<n:=by rcases SZ a n with h|h;exact h;exact absurd (by rw[show a=n by omega];exact hso) hc8
  have hsl:(aF q).length=q.length*1:=Tw;have hls:=pD X a;refine OR<|Z2 O O O<|Rs 13 O O (aa call198 (Oa X a Ts) O) ?_;refine Gc O O (fun hc13=>?_) (fun hc13=>?_)
  ·refine Gr O ?_;iterate 5 refine A1 O ?_
   exact Z3 O O O O<|⟨(a+1,q++[(a:Int)]),OV [2] ⟨O,ag (fun n=>V.gsl 2 1 n) (jJ q _),O,TB⟩ ⟨ag (fun c=>some (Ob.gro 3 c)) Tw,TB⟩ O O Tu O,⟨⟨Tz,by simp only[Ph,PI];omega⟩,by simp only;rw[hls,AT hc13,<-hq]⟩,Tz⟩
  ·exact OR<|Z3 O O O O<|⟨(a+1,q),OU (aS O) (aO O) O O,⟨⟨Tz,Tz⟩,by simp only;rw[hls,dw (by rw[hc13];decide),PZ,<-hq]⟩,Tz⟩
 ·have hz:X>>>a=0#64:=PT hc8;rw[<-DR hz ha]at hq;exact OT (OX 0 O O)<|Gx O<|Z2 O O O<|Gt O<|⟨_,_,O,O,by rw[<-hq];rfl⟩
def bH{α:Type}(D:List α)(us:List (Nat×α)):List α:=us.foldl (fun D u=>D.set u.1 u.2) D
theorem cS{α:Type}(D:List α)(us:List (Nat×α)):(bH D us).length=D.length:=by
 unfold bH;induction us generalizing D with
 |nil=>rfl
 |cons u us ih=>rw[QQ,ih,PO]
theorem ga{α:Type}(D:List α)(us vs:List (Nat×α)):bH D (us++vs)=bH (bH D us) vs:=Sk
section
variable (P:List Int)(G:List B64)
def gP:Nat->Int->B64
 |0,v=>G.getD v.toNat 0#64
 |k+1,v=>(aA P v).foldl (fun z c=>z|||gP k c) (G.getD v.toNat 0#64)
def jx:Nat->Int->List Int
 |0,v=>[v]
 |k+1,v=>v::(aA P v).flatMap (jx k)
def uU:Nat->Int->B64->List (Nat×Int)
 |0,v,ab=>[(v.toNat,(jL ab:Int))]
 |k+1,v,ab=>(v.toNat,(jL ab:Int))::(aA P v).flatMap fun c=>uU k c (ab|||BitVec.twoPow 64 v.toNat)
def jb(n:Nat):Nat->Int->B64->List (Nat×List Int)
 |0,v,ab=>[(v.toNat,j6 (gP P G 0 v&&&ab) n)]
 |k+1,v,ab=>((aA P v).flatMap fun c=>jb n k c (ab|||BitVec.twoPow 64 v.toNat))++[(v.toNat,j6 (gP P G (k+1) v&&&ab) n)]
end
abbrev layA(G:List B64)(v:Int)(ab:B64):List V:=[pIi v,.pv (fF ab),.ptr big 0,.ptr 9004 0,.pv (.rp [jd G] 0),.ptr 9006 0]
abbrev Km(n:Nat)(G:List B64)(chs:List (List Int))(w:Nat)(L:List Int)(D:List Int)(K:List (List Int))(hs:List PV):List (Nat×Ob):=[(big,.mix 97 [.pv (ba chs),.osl 9001 1 n,.osl 9002 1 n,.gsl w 1 L.length]),(9001,.cells 22 (K.map ai)),(9002,.cells 22 hs),(w,.gro 3 (aF L)),(9004,.mix 22 [.osl 9005 1 n]),(9005,.cells 3 (aF D)),(9006,.mix 204 [.fn (.func 113) [] [.ptr big 0,.ptr 9004 0,.pv (.rp [jd G] 0),.ptr 9006 0]])]
theorem nw2{av:Av}{b:Nat}(h0:av b=true)(h1:av (b+1)=true):(nwO b 2).all av=true:=by
 show(av (b+0)&&(av (b+1)&&true))=true;rw[SC,h0,h1];rfl
theorem qV{n:Nat}{NR:Int->B64}:∀(cs:List Int)(g:B64),InB n g->(∀c∈cs,InB n (NR c))->InB n (cs.foldl (fun z c=>z|||NR c) g)
 |[],g,hg,_=>hg
 | c::cs,g,hg,h=>by
   rw[QQ];refine qV cs _ (fun i hi=>?_) fun d hd=>h d (by simp[hd])
   rw[BitVec.getLsbD_or,PQ]at hi;rcases hi with hi|hi
   ·exact hg i hi
   ·exact h c Tw i hi
theorem fK{α:Type}{cs:List Int}{j:Nat}(h:j<cs.length)(f:Int->List α):(cs.take (j+1)).flatMap f=(cs.take j).flatMap f++f cs[j]:=by
 rw[AI h,PS];simp
theorem yZ{α:Type}(f:Int->List α)(cs:List Int)(j:Nat):((cs.take j).flatMap f).length<=(cs.flatMap f).length:=by
 have e:cs.flatMap f=(cs.take j).flatMap f++(cs.drop j).flatMap f:=by rw[<-PS,PK]
 rw[e,Ph];omega
theorem pH(n:Nat)(hn:n<=12)(G:List B64)(hGn:G.length=n)(chs:List (List Int))(hcl:chs.length<=64)(v:Nat)(hv:v<n)(hvc:v<chs.length)(CS:List Int)(hCS:chs[v]=CS)(hCl:CS.length<=64)(hCm:∀c∈CS,∃m:Nat,c=(m:Int))(ab:B64)
  (NR:Int->B64) (WS:Int->List Int) (DU:Int->List (Nat×Int)) (KU:Int->List (Nat×List Int)) (hg:InB n (G[v]'Ts)) (hNR:∀c∈CS,InB n (NR c)) (hs:List PV)
  (hrec:∀c∈CS,∀(L D:List Int)(K:List (List Int)),D.length=n->K.length=n->L.length+(WS c).length<=1000->FnO prog 113 7 2 (layA G c (ab|||BitVec.twoPow 64 v)) (Km n G chs 9003 L D K hs) (fun r ob'=>r= .pv (fF (NR c))/\ob'=ax (Km n G chs 1 (L++WS c) (bH D (DU c)) (bH K (KU c)) hs)))
  (L D:List Int) (K:List (List Int)) (hD:D.length=n) (hK:K.length=n) (hL:L.length+1+(CS.flatMap WS).length<=1000):
  FnO prog 113 7 2 (layA G v ab) (Km n G chs 9003 L D K hs) (fun r ob'=>r= .pv (fF (CS.foldl (fun z c=>z|||NR c) (G[v]'Ts)))/\ob'=ax (Km n G chs 1 (L++(v:Int)::CS.flatMap WS) (bH (D.set v (jL ab)) (CS.flatMap DU)) ((bH K (CS.flatMap KU)).set v (j6 (CS.foldl (fun z c=>z|||NR c) (G[v]'Ts)&&&ab) n)) hs)):=by
 refine FnO.of func113 O ntmps113 Tw fun m0 w0 F R0=>?_
 have hvG:v<G.length:=Ts;have hgv:=x6 hvG;have hgn:=GY hvG;have hcv:=fo hvc;have hcn:=fu hvc;rw[hCS]at hcv;have hin:=qV CS G[v] hg hNR;generalize G[v]=g0 at*;have hlist:=BV (CS.foldl (fun z c=>z|||NR c) g0&&&ab) n Ts (fun i hi=>hin i (by rw[Sz,sh]at hi;exact hi.1));have hDl:(aF D).length=n:=by rw[Pg,hD]
 have hpl:=FB ab;refine Z1 O O ?_;have hsl0:(aF L).length=L.length*1:=Tw;refine Z1 O O ?_;first|refine A1 O ?_|refine A2 O Tv ?_
 iterate 5 refine A1 O ?_
 refine Ge O follows [0,1,2,3,4,5] Tt ?_;first|refine D1 O O ?_|refine D2 O O Tv ?_
 iterate 2 refine D1 O O ?_
 refine Ds 21 [] O O O (fun τ h=>aa call114 (Ft _) (h.aL O)) O Tt<|Ds 22 [_] O O O (fun τ h=>aq v underlying22 sz3 (Ee h 0 O O) (Eo h 0 O O) (Ee h 1 O O) O Ts) O Tt<|DL.step (d:=none) [_] O O O (fun τ h=>bK sz3 (Ee h 0 O O) (Eo h 0 O O) (Ee h 1 O O) O Ts) O Tt ?_;refine⟨Tt,?_⟩;refine Gr O ?_;first|refine A1 O ?_|refine A2 O Tv ?_
 refine A1 O<|Rs 25 O O (ae v underlying202 F2 O O O hvG hgn)<|Rs 26 O O (au ⟨_,underlying206,O⟩ O hgv)<|A1 O<|Z1 O O ?_;first|refine A1 O ?_|refine A2 O Tv ?_
 refine A1 O<|Rs 30 O O (ae v underlying95 pN O O O hvc hcn)<|Rs 31 O O (au ⟨_,underlying22,O⟩ O hcv)<|Y2 O O ?_;refine Gl O (st:=fun TC:Nat×List Int×List Int×List (List Int)=>mkS [(0,pIi v),(1,.pv (fF ab)),(2,.ptr big 0),(5,.ptr 9006 0),(9,.pv (fF ((CS.take TC.1).foldl (fun z c=>z|||NR c) g0))),(31,.pv (ai CS)),(32,pIi CS.length),(33,pIi TC.1)] [(big,.mix 97 [.pv (ba chs),.osl 9001 1 n,.osl 9002 1 n,.gsl 1 1 TC.2.1.length]),(1,.gro 3 (aF TC.2.1)),(9001,.cells 22 (TC.2.2.2.map ai)),(9002,.cells 22 hs),(9004,.mix 22 [.osl 9005 1 n]),(9005,.cells 3 (aF TC.2.2.1)),(9006,.mix 204 [.fn (.func 113) [] [.ptr big 0,.ptr 9004 0,.pv (.rp [jd G] 0),.ptr 9006 0]])] 2)
  (I:=fun TC=>(TC.1<=CS.length/\TC.2.1=L++(v:Int)::(CS.take TC.1).flatMap WS)/\TC.2.2.1=bH (D.set v (jL ab)) ((CS.take TC.1).flatMap DU)/\TC.2.2.2=bH K ((CS.take TC.1).flatMap KU)) (μ:=fun TC=>CS.length-TC.1) (x0:=(0,L++[(v:Int)],D.set v (jL ab),K)) (OU (aS O) ⟨PG (b:=some (.mix 97 [.pv (ba chs),.osl 9001 1 n,.osl 9002 1 n,.gsl 1 1 (L.length+1)])) Tt (ag (fun q=>some (Ob.mix 97 [.pv (ba chs),.osl 9001 1 n,.osl 9002 1 n,.gsl 1 1 q])) (jJ L _)),PG (b:=some (.gro 3 (aF L++[.int .i64 v]))) Tt (ag (fun c=>some (Ob.gro 3 c)) Tw),Tt,Tt,Tt,PG (b:=some (.cells 3 ((aF D).set (v*1) (.int .i64 (jL ab))))) Tt (ag (fun c=>some (Ob.cells 3 c)) (by simp[Qi])),Tt,TB⟩ O O) (⟨⟨cd _,O⟩,O,O⟩) ?_
 rintro⟨j,M,D2,K2⟩ ⟨⟨hj,hM⟩,hD2,hK2⟩;try simp only at hj hM hD2 hK2 ⊢
 refine Z1 O O ?_;refine Gp O O (fun hc34=>?_) (fun hc34=>?_)
 ·have hlt:j<CS.length:=Ts;have hcm:=ar hlt;obtain⟨c,hc⟩:=hCm _ hcm;have hpv:(aF CS)[j*1]? =some (.int .i64 (c:Int)):=by rw[<-hc];simp[hlt]
  have hpn:=aE hlt;have htf:=fK hlt WS;have htd:=fK hlt DU;have htk:=fK hlt KU;have hacc:(CS.take (j+1)).foldl (fun z c=>z|||NR c) g0=(CS.take j).foldl (fun z c=>z|||NR c) g0|||NR CS[j]:=by rw[AI hlt,Sk];rfl
  have hfl:((CS.take (j+1)).flatMap WS).length<=(CS.flatMap WS).length:=yZ WS CS (j+1);have hgo:=hrec _ hcm M D2 K2 (by rw[hD2,cS,PO,hD]) (by rw[hK2,cS,hK]) (by rw[htf,Ph]at hfl;rw[hM];simp only[Ph,Pd];omega);rw[hc]at hgo htf htd htk hacc;generalize (CS.take j).foldl (fun z c=>z|||NR c) g0=acc at*;refine OR<|Z1 O O<|Rs 36 O O (au ⟨_,underlying3,O⟩ O hpv)<|A1 O<|Ge O follows [0,1,2,3,4,5,6,7,8,9] Tt<|D1 O O ?_;first|refine D1 O O ?_|refine D2 O O Tv ?_
  iterate 3 refine D1 O O ?_
  refine Ds 42 [] O O O (fun τ h=>aa call115 (wh v Ts) (h.aL O)) O Tt<|Ds 43 [] O O O (fun τ h=>yU (Ee h 0 O O) (Ee h 1 O O)) O Tt<|Ds 44 [big,9001,9002,1,9004,9005,9006] O O O (fun τ h=>ki (vs:=[pIi (c:Int),.pv (fF (ab|||BitVec.twoPow 64 v))]) [big,9001,9002,1,9004,9005,9006] 2 call113 hgo (Ee h 0 O O) (h.Ld.trans O) O O O O ⟨(Eo h 0 O O),(Eo h 1 O O),(Eo h 2 O O),(Eo h 3 O O),(Eo h 4 O O),(Eo h 5 O O),(Eo h 6 O O),TB⟩ Tu (nw2 (h.n 0 _ O) (h.n 1 _ O))) O Tt<|Ds 45 [] O O O (fun τ h=>yU (Ee h 0 O O) (Ee h 1 O O)) O Tt<|D1 O O ?_;refine⟨Tt,?_⟩;exact Z2 O O O<|⟨(j+1,M++WS (c:Int),bH D2 (DU (c:Int)),bH K2 (KU (c:Int))),OV [0,3] ⟨O,O,O,O,ag (fun z=>V.pv (fF z)) hacc.symm,O,O,O,TB⟩ (aP Tt) O O Tu O,⟨⟨Tz,by simp only;rw[htf,hM];simp⟩,by simp only;rw[htd,ga,<-hD2],by simp only;rw[htk,ga,<-hK2]⟩,Tz⟩
 ·rw[show CS.take j=CS from aX Ts]at hM hD2 hK2 ⊢;have hKl2:(K2.map ai).length=n:=by rw[Pg,hK2,cS,hK]
  generalize CS.foldl (fun z c=>z|||NR c) g0=near at*;refine Gx O<|Ge O follows [0,1,2,3,4,5,6,7,8] Tt<|D1 O O ?_;first|refine D1 O O ?_|refine D2 O O Tv ?_
  iterate 3 refine D1 O O ?_
  refine Ds 52 [] O O O (fun τ h=>u6 (Ee h 0 O O) (Ee h 1 O O)) O Tt<|Ds 53 [] O O O (fun τ h=>aa call116 hlist (h.aL O)) O Tt<|Ds 54 [_] O O O (fun τ h=>aq v underlying95 pN (Ee h 0 O O) (Eo h 0 O O) (Ee h 1 O O) O Ts) O Tt<|DL.step (d:=none) [_] O O O (fun τ h=>bK pN (Ee h 0 O O) (Eo h 0 O O) (Ee h 1 O O) O Ts) O Tt ?_;refine⟨Tt,?_⟩;exact Z2 O O O<|Gt O<|⟨[(8,.pv (fF near))],Km n G chs 1 (L++(v:Int)::CS.flatMap WS) (bH (D.set v (jL ab)) (CS.flatMap DU)) ((bH K (CS.flatMap KU)).set v (j6 (near&&&ab) n)) hs,[.pv (fF near)],OU (aS O) (by rw[<-hM,<-hD2,<-hK2];exact⟨Tt,PG (b:=some (.cells 22 ((K2.map ai).set (v*1) (ai (j6 (near&&&ab) n))))) Tt (ag (fun c=>some (Ob.cells 22 c)) (by simp[Qi])),Tt,Tt,Tt,Tt,Tt,TB⟩) O O,O,O,O,O,O⟩
end
section
open Mk Jn
def lS(P:List Int)(k:Nat)(v:Int):List Int:=((List.range k).filter fun a=>P.getD a 0==v).map Int.ofNat
theorem jP(P:List Int)(v:Int):lS P P.length v=aA P v:=by
 unfold lS aA upZ;rw[List.filter_map];rfl
theorem ke(P:List Int)(k:Nat)(v:Int):lS P (k+1) v=lS P k v++if P.getD k 0=v then [(k:Int)]else []:=by
 unfold lS;rw[SL,Sw,PD];by_cases h:P.getD k 0=v
 ·rw[AT h,RE,AT (by rw[h];simp)];rfl
 ·rw[dw h,RE,dw (by simpa using h)];rfl
theorem iR(P:List Int)(k:Nat)(v:Int):(lS P k v).length<=k:=by
 unfold lS;rw[Pg];exact IS (Re ..) Tw
def lsT(P:List Int)(k:Nat):List (List Int):=(upZ P.length).map (lS P k)++[lS P k (-1)]
theorem cB(P:List Int)(k:Nat):(lsT P k).length=P.length+1:=by simp[lsT,aW]
theorem pT(P:List Int)(k:Nat){i:Nat}(h:i<P.length):(lsT P k)[i]'(by rw[cB];omega)=lS P k i:=by
 unfold lsT;rw[SA (by simp[aW,h])];simp[upZ]
theorem iH(P:List Int)(k:Nat):(lsT P k)[P.length]'(by rw[cB];omega)=lS P k (-1):=by
 unfold lsT;rw[List.getElem_append_right (by simp[aW])];simp[aW]
theorem xG(P:List Int):lsT P 0=List.replicate (P.length+1) []:=by
 apply Qu
 ·simp[cB]
 ·intro i h1 h2;rw[List.getElem_replicate];by_cases hi:i<P.length
  ·rw[pT P 0 hi];rfl
  ·have hi':i=P.length:=by rw[cB]at h1;omega
   subst hi';rw[iH P 0];rfl
theorem yy{P:List Int}(hP:∀p∈P, -1<=p/\p<P.length){k:Nat}(hk:k<P.length)(U:Nat)(hU:(P[k]= -1/\U=P.length)\/(P[k]=(U:Int)/\U<P.length)):
  lsT P (k+1)=(lsT P k).set U ((lsT P k)[U]'(by rw[cB];rcases hU with h|h<;>omega)++[(k:Int)]):=by
 have hkd:P.getD k 0=P[k]:=by simp[List.getD,hk]
 apply Qu
 ·simp[cB]
 ·intro i h1 h2;rw[cB]at h1;rw[SQ];by_cases hi:i<P.length
  ·rw[pT P (k+1) hi,ke,hkd];by_cases e:U=i
   ·subst e;rw[AT O];rcases hU with h|h
    ·omega
    ·rw[AT h.1,pT P k hi]
   ·rw[dw e,pT P k hi];rcases hU with h|h
    ·rw[dw (by rw[h.1];omega),PZ]
    ·rw[dw (by rw[h.1];omega),PZ]
  ·have hi':i=P.length:=Ts;subst hi';rw[iH P (k+1),ke,hkd];by_cases e:U=P.length
   ·subst e;rw[AT O];rcases hU with h|h
    ·rw[AT h.1,iH P k]
    ·omega
   ·rw[dw e,iH P k];rcases hU with h|h
    ·omega
    ·rw[dw (by rw[h.1];omega),PZ]
def lsP(ls:List (List Int)):List (List PV):=ls.map fun l=>l.map fun i=> .int .i64 i
theorem dm(ls:List (List Int)):(lsP ls).length=ls.length:=by simp[lsP]
theorem wv(ls:List (List Int))(U:Nat)(hU:U<ls.length)(x:Int):lsP (ls.set U (ls[U]++[x]))=(lsP ls).set U ((lsP ls)[U]'(by rw[dm];exact hU)++[.int .i64 x]):=by
 unfold lsP;rw[Qi];simp
theorem BX(ls:List (List Int)):chP (lsP ls)=ls.map fun l=> .pv (ai l):=by
 unfold chP lsP;rw[Q3];apply PR;intro l _;simp
theorem M9(P:List Int)(k:Nat){U:Nat}(h:U<(lsP (lsT P k)).length):((lsP (lsT P k))[U]).length<=k:=by
 have h2:U<(lsT P k).length:=by rwa [dm]at h
 have e:(lsP (lsT P k))[U]=(lsT P k)[U].map fun i=>PV.int .i64 i:=by simp[lsP]
 rw[e,Pg];by_cases hU:U<P.length
 ·rw[pT P k hU];exact iR P k _
 ·have:U=P.length:=by rw[cB]at h2;omega
  subst this;rw[iH P k];exact iR P k _
theorem rO(cs:List V)(j:Nat)(v:V)(h:j<cs.length):fy cs j [v]=cs.set j v:=by
 unfold fy;rw[Se,AT h,Si];rfl
def gQ(D:List Int)(l:List Int)(j:Nat):Int:=(l.take j).foldl (fun h a=>if D.getD a.toNat 0>D.getD h.toNat 0 then a else h) (l.headD 0)
theorem zE(D l:List Int){j:Nat}(h:j<l.length):gQ D l (j+1)=if D.getD l[j].toNat 0>D.getD (gQ D l j).toNat 0 then l[j]else gQ D l j:=by
 unfold gQ;rw[AI h,Sk];rfl
theorem s6(D:List Int){l:List Int}(hl:l≠[])(j:Nat):gQ D l j∈l:=by
 have key:∀(k:List Int)(h0:Int),(∀a∈k,a∈l)->h0∈l->k.foldl (fun h a=>if D.getD a.toNat 0>D.getD h.toNat 0 then a else h) h0∈l:=by
  intro k;induction k with
  |nil=>exact fun h0 _ h=>h
  | cons a k ih=>
    intro h0 hk hh;rw[QQ];refine ih _ (fun b hb=>hk b (by simp[hb])) ?_;split
    ·exact hk a Tw
    ·exact hh
 unfold gQ;refine key _ _ (fun a ha=>S0 ha) ?_;cases l with
 |nil=>exact absurd O hl
 |cons x l=>simp
def hpL(D:List Int)(S:Sch):List Int:=S.rels.map fun r=>gQ D r.2 r.2.length
theorem ML(D:List Int)(S:Sch):(hpL D S).length=S.rels.length:=by simp[hpL]
def hsT(n:Nat)(H:List Int)(k:Nat):List (List Int):=(upZ n).map (lS H k)
theorem cU(n:Nat)(H:List Int)(k:Nat):(hsT n H k).length=n:=by simp[hsT,aW]
theorem uk(n:Nat)(H:List Int)(k:Nat){i:Nat}(h:i<n):(hsT n H k)[i]'(by rw[cU];exact h)=lS H k i:=by simp[hsT,upZ]
theorem xI(n:Nat)(H:List Int):hsT n H 0=List.replicate n []:=by
 apply Qu
 ·simp[cU]
 ·intro i h1 h2;rw[List.getElem_replicate,uk n H 0 (by rwa [cU]at h1)];rfl
theorem Hj{n:Nat}{H:List Int}{k U:Nat}(hk:k<H.length)(hU:U<n)(e:H[k]=(U:Int)):hsT n H (k+1)=(hsT n H k).set U ((hsT n H k)[U]'(by rw[cU];exact hU)++[(k:Int)]):=by
 have hkd:H.getD k 0=H[k]:=by simp[List.getD,hk]
 apply Qu
 ·simp[cU]
 ·intro i h1 h2;rw[cU]at h1;rw[SQ,uk n H (k+1) h1,ke,hkd,e];by_cases e2:U=i
  ·subst e2;rw[AT O,AT O,uk n H k h1]
  ·rw[dw e2,dw Ts,PZ,uk n H k h1]
theorem Oe(n:Nat)(H:List Int)(k:Nat){U:Nat}(h:U<(lsP (hsT n H k)).length):((lsP (hsT n H k))[U]).length<=k:=by
 have h2:U<(hsT n H k).length:=by rwa [dm]at h
 have e:(lsP (hsT n H k))[U]=(hsT n H k)[U].map fun i=>PV.int .i64 i:=by simp[lsP]
 rw[e,Pg,uk n H k (by rwa [cU]at h2)];exact iR H k _
end
section
open Mk
noncomputable def lstL(S:Sch):List Int:=leastL (gr S)
end
end Go.Proofs.YtoplpepiabedhaaGreatDoor
