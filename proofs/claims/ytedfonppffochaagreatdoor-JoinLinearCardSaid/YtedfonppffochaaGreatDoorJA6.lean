/- Lemmas for the statement of this claim's last text. No condition. -/
import Derived.MapKept
import Derived.Carry
import Derived.Laws.RangeString
import Derived.Test.YtedfonppffochaaGreatDoorJA5
set_option maxRecDepth 100000
set_option maxHeartbeats 4000000
open Go.RowKit Go.Proofs.Tryz
namespace Go.Proofs.YtedfonppffochaaGreatDoor
section
open Go.RowKit Go.MapKept
def keq:PV->PV->Option Bool
 | .int k a,.int k' b=>bif kEq k k' then some (a==b) else none
 | .str a,.str b=>some (a==b)
 | .bool a,.bool b=>some (a==b)
 | _,_=>none
def eG (k:PV):List PV->Nat->Option (Option Nat)
 | [],_=>some none
 | x::l,i=>match keq k x with
   | some true=>some (some i)
   | some false=>eG k l (i+1)
   | none=>none
def Eh:TypeDesc->PV->Bool
 | .int k,.int k' _=>kEq k' k
 | .string,.str _=>true
 | .bool,.bool _=>true
 | _,_=>false
section
variable {w:World} {R:Nat->Prop}
theorem yM {d:TypeDesc} {k x:PV} {u y:Value} (hd:Eh d k=true) (hk:RelP w R k u) (hx:RelP w R x y) {b:Bool} (h:keq k x=some b):Instr.sameNow d u y=some b:=by
 cases k<;>cases d<;>simp only [Eh,Lp] at hd<;>cases x<;>simp only [keq,reduceCtorEq] at h<;>simp only [RelP] at hk hx<;>subst hk hx
 ·replace h:=aL h;have:=fT h.1;subst this;simpa [Instr.sameNow] using h.2
 ·simpa [Instr.sameNow] using h
 ·simpa [Instr.sameNow] using h
theorem jY {d:TypeDesc} {k:PV} {u:Value} (hd:Eh d k=true) (hk:RelP w R k u):∀ {ks:List PV} {es:List MapEntry} {i:Nat} {r:Option Nat},RelPL w R ks (es.map (·.key))->eG k ks i=some r->
  match r with
  | none=>Instr.findNow d u es i=some none
  | some j=>∃ q e,j=i+q/\es[q]? =some e/\Instr.findNow d u es i=some (some (j,e.val))
 | [],[],i,r,_,h=>by simp only [eG,uT] at h;subst h;rfl
 | [],_::_,_,_,hr,_=>by simp [RelPL] at hr
 | x::ks,[],_,_,hr,_=>by simp [RelPL] at hr
 | x::ks,e::es,i,r,hr,h=>by
   simp only [jt,RelPL,Lo] at hr;obtain ⟨y,ys,⟨rfl,rfl⟩,h1,h2⟩:=hr;simp only [eG] at h;split at h
   ·rename_i hb;cases h;have:=yM hd hk h1 hb;exact ⟨0,e,O,O,by simp [Instr.findNow,this]⟩
   ·rename_i hb;have hs:=yM hd hk h1 hb;have ih:=jY hd hk h2 h;cases r with
    | none=>simpa [Instr.findNow,hs] using ih
    | some j=>
      obtain ⟨q,e',hj,he,hf⟩:=ih;exact ⟨q+1,e',OC,by simpa using he,by simpa [Instr.findNow,hs] using hf⟩
   ·cases h
theorem Jv {d:TypeDesc} {k:PV} {u:Value} (hd:Eh d k=true) (hk:RelP w R k u):IsKey d u:=by
 cases k<;>cases d<;>simp only [Eh,Lp] at hd<;>simp only [RelP] at hk<;>subst hk<;>first | exact fT hd | trivial
theorem ui {k:PV}:∀ {ks:List PV} {i j:Nat},eG k ks i=some (some j)->∃ q x,j=i+q/\ks[q]? =some x/\keq k x=some true
 | [],_,_,h=>by simp [eG] at h
 | x::ks,i,j,h=>by
   simp only [eG] at h;split at h
   ·rename_i hb;cases h;exact ⟨0,x,O,O,hb⟩
   ·obtain ⟨q,y,e,h1,h2⟩:=ui h;exact ⟨q+1,y,OC,by simpa using h1,h2⟩
   ·cases h
theorem ue {a b:ByteArray} (h:(a==b)=true):a=b:=by
 have:(a.data==b.data)=true:=h;exact ByteArray.ext (eq_of_beq this)
theorem l6 (a:ByteArray):(a==a)=true:=by
 have:(a.data==a.data)=true:=Ls a.data;exact this
theorem CT {k x:PV} {u y:Value} (h:keq k x=some true) (hk:RelP w R k u) (hx:RelP w R x y):u=y/\Instr.sameBits 10000 y u=true:=by
 cases k<;>cases x<;>simp only [keq,reduceCtorEq,uT] at h<;>simp only [RelP] at hk hx<;>subst hk hx
 ·replace h:=aL h;have h1:=fT h.1;have h2:=h.2;simp only [uT,Li] at h2;subst h1 h2;simp [Instr.sameBits]
 ·simp at h;subst h;simp [Instr.sameBits]
 ·have:=ue h;subst this;exact ⟨O,by show (_==_)=true;exact l6 _⟩
end
def uJ (n:Nat) (σ:St) (x:Operand) (ks vs:List PV):Prop:=
 (∃ id,σ.ev n x= .map id/\σ.ob id=some (.mp ks vs))\/σ.ev n x= .pv (.mp ks vs)\/(σ.ev n x= .pv .nilmap/\ks=[]/\vs=[])
section
variable {C:Ctx} {n:Nat} {σ:St} {a:Act} {w:World} {m:Gm} {R:Nat->Prop} {x y z:Operand} {dst:Option Tmp} {ty t kt et:TypeId} {pos:String} {after:Array Edge} {gd:Option (Nat×Bool)} {ks vs:List PV}
theorem uJ.at (hw:SW C n σ a w m R) (h:uJ n σ x ks vs):(∃ b es clock,a.eval x= .map (some b)/\w.heap[b]? =some (.map es clock)/\RelPL w R ks (es.toList.map (·.key))/\RelPL w R vs (es.toList.map (·.val)))\/(a.eval x= .map none/\ks=[]/\vs=[]):=by
 rcases h with ⟨id,hx,ho⟩ | hx | ⟨hx,h1,h2⟩
 ·obtain ⟨b,N,hm,hr⟩:=hw.live ho;have:=hw.ev x;rw [hx] at this;simp only [Rel] at this;obtain ⟨es,clock,q1,q2,q3,_⟩:=hr;exact .inl ⟨b,es,clock,this.2 b N hm,q1,q2,q3⟩
 ·have:=hw.pv hx;simp only [RelP] at this;obtain ⟨b,e,_,es,clock,q1,q2,q3,_⟩:=this;exact .inl ⟨b,es,clock,e,q1,q2,q3⟩
 ·have:=hw.pv hx;simp only [RelP] at this;exact .inr ⟨this,h1,h2⟩
theorem run_map {P:Program} {w:World} {r:Nat} {es:Array MapEntry} {clock:Nat} (hb:w.heap[r]? =some (.map es clock)):(getObj r).run P w= .ok (.map es clock) w:=by
 simp [getObj,Sem.run,hb]
theorem mZ {P:Program} {w:World} {r:Nat} {es:Array MapEntry} {clock:Nat} (o:Obj) (hb:w.heap[r]? =some (.map es clock)):(setObj r o).run P w= .ok () { w with heap:=w.heap.setIfInBounds r o }:=by
 simp [setObj,Sem.run,hb]
def qH (k:PV) (ks vs:List PV):Option (Option PV):=
 match eG k ks 0 with
 | some none=>some none
 | some (some j)=>(vs[j]?).map some
 | none=>none
theorem RelPL.at {ps:List PV} {us:List Value} (h:RelPL w R ps us) {i:Nat} {p:PV} {u:Value} (hp:ps[i]? =some p) (hu:us[i]? =some u):RelP w R p u:=by
 obtain ⟨u',h1,h2⟩:=h.get hp;rw [hu] at h1;cases h1;exact h2
theorem DE (hw:SW C n σ a w m R) {d:TypeDesc} {key zp:PV} {zv:Value} {r:Option PV} (ht:C.P.underlying t=some (.map kt et)) (hk:C.P.underlying kt=some d) (hd:Eh d key=true) (hx:uJ n σ x ks vs) (hy:σ.ev n y= .pv key) (hz:(C.P.info? et).map (·.zero)=some (some zv)) (hzp:ofC zv=zp) (hl:qH key ks vs=some r) (ok:Bool):
  ∃ u,RelP w R (r.getD zp) u/\(Instr.lookup t (a.eval x) (a.eval y) ok).run C.P w= .ok (if ok then .tuple #[u,.bool r.isSome] else u) w:=by
 have hkey:=hw.pv hy;have hzr:(zeroValue et).run C.P w= .ok zv w:=by
  cases hq:C.P.info? et with
  | none=>simp [hq] at hz
  | some i=>simp [hq] at hz;simp [zeroValue,typeInfo,hq,hz]
 have hzrel:RelP w R zp zv:=hzp▸ye w R zv;have hIs:=Jv hd hkey;rcases hx.at hw with ⟨b,es,clock,e,hb,q2,q3⟩ | ⟨e,rfl,rfl⟩
 ·unfold qH at hl;split at hl
  ·rename_i hf;cases hl;have:=jY hd hkey q2 hf;simp only at this;refine ⟨zv,hzrel,?_⟩;simp [Instr.lookup,e,run_underlying ht,run_map hb,run_checkKey hk hIs,run_findKey hk this,hzr,Result.andThen]
  ·rename_i j hf;obtain ⟨q,e',hj,he,hfn⟩:=jY hd hkey q2 hf;simp only [Dq] at hj;subst hj;cases hv:vs[j]? with
   | none=>rw [hv] at hl;cases hl
   | some p=>
     rw [hv] at hl;simp at hl;subst hl;refine ⟨e'.val,RelPL.at q3 hv (by simp [he]),?_⟩;simp [Instr.lookup,e,run_underlying ht,run_map hb,run_checkKey hk hIs,run_findKey hk hfn,Result.andThen]
  ·cases hl
 ·simp only [qH,eG,uT] at hl;subst hl;refine ⟨zv,hzrel,?_⟩;have hf:Instr.findNow d (a.eval y) (#[]:Array MapEntry).toList 0=some none:=rfl;simp [Instr.lookup,e,run_underlying ht,run_checkKey hk hIs,run_findKey hk hf,hzr,Result.andThen]
theorem cg {d:TypeDesc} {key zp p:PV} {zv:Value} {r:Option PV} {b:Bool} (ht:C.P.underlying t=some (.map kt et)) (hk:C.P.underlying kt=some d) (hx:uJ n σ x ks vs) (hy:σ.ev n y= .pv key) (hd:Eh d key=true) (hz:(C.P.info? et).map (·.zero)=some (some zv)) (hzp:ofC zv=zp) (hl:qH key ks vs=some r) (hp:r.getD zp=p) (hb:r.isSome=b):
  XJ C n ⟨dst,.lookup t x y true,ty,pos,after,gd⟩ σ ⟨.pv (.tup [p,.bool b]),[],[]⟩:=
 .val fun a w m R hw=>by
  obtain ⟨u,hr,hrun⟩:=DE hw ht hk hd hx hy hz hzp hl true;subst hp hb;refine ⟨_,by simp only [execOp,Sem.run_bind,hrun,Result.andThen_ok];rfl,?_⟩;simp only [Rel,RelP];exact ⟨[u,.bool r.isSome],O,RelPL.cons hr (RelPL.cons (by simp only [RelP]) RelPL.nil)⟩
theorem SW.HZ (h:SW C n σ a w m R) {id:Nat} (hid:σ.av id=true) (obj:Obj) (N:Nat) (o:Ob)
  (ho:∀ (w':World) (m':Gm) (av':Av),(∀ b,R b->R b/\w'.heap[b]? =w.heap[b]?)->w'.heap[w.heap.size]? =some obj->lD w' m' av' R w.heap.size N o) (hre:o.real=true:=by rfl):
  SW C n ⟨σ.sl,obL [(id,some o)] σ.ob,avL [id] σ.av⟩ a (w.alloc obj) (upd m id (some (w.heap.size,N))) R:=by
 have hR:∀ b,R b->R b/\(w.alloc obj).heap[b]? =w.heap[b]? :=fun b hb=>⟨hb,Below.heap_alloc w _ b (h.hr.rsz b hb)⟩
 have hne:∀ i,σ.av i=false->i≠id:=fun i hi e=>by rw [e,hid] at hi;cases hi
 have hm:∀ i x,σ.av i=false->upd m id (some (w.heap.size,N)) i=some x->m i=some x:=fun i x hi e=>by rwa [aG _ _ (hne i hi)] at e
 have ha:∀ i,σ.av i=false->avL [id] σ.av i=false:=fun i hi=>by
  simp only [avL];cases Nat.beq i id<;>simp [hi]
 have hsz:(w.alloc obj).heap.size=w.heap.size+1:=OG;have obe:∀ i,i≠id->obL [(id,some o)] σ.ob i=σ.ob i:=fun i hi=>by
  have:Nat.beq i id=false:=by cases hb:Nat.beq i id;rfl;exact absurd (bR hb) hi
  simp [obL,this]
 have obs:obL [(id,some o)] σ.ob id=some o:=by simp [obL]
 refine h.world ⟨?_,?_,?_,?_,?_,?_,h.hr.rfr,h.hr.r0,?_,?_,fun i hi=>ha i (h.hr.res i hi)⟩ hR hm ha
 ·intro i;by_cases e:i=id
  ·subst e;rw [au,obs];exact hre.symm
  ·rw [aG _ _ e,obe i e];exact h.hr.dom i
 ·intro i hi;simp only [avL] at hi;cases hb:Nat.beq i id with
  | true=>rw [hb] at hi;simp at hi
  | false=>
    rw [hb] at hi;rw [obe i (fun e=>by subst e;simp at hb)];exact h.hr.free i (by simpa using hi)
 ·intro i o' b N h1 h2;by_cases e:i=id
  ·subst e;rw [obs] at h1;rw [au] at h2;cases h1;cases h2;exact ho _ _ _ hR (heap_alloc_new w _)
  ·rw [obe i e] at h1;rw [aG _ _ e] at h2;exact (h.hr.obj i o' b N h1 h2).mono hR hm ha (Below.heap_alloc w _ b (h.hr.own i b N h2).1)
 ·intro i j b N N' h1 h2;by_cases e1:i=id<;>by_cases e2:j=id
  ·rw [e1,e2]
  ·subst e1;rw [au] at h1;rw [aG _ _ e2] at h2;cases h1;have:=(h.hr.own j _ _ h2).1;omega
  ·subst e2;rw [au] at h2;rw [aG _ _ e1] at h1;cases h2;have:=(h.hr.own i _ _ h1).1;omega
  ·rw [aG _ _ e1] at h1;rw [aG _ _ e2] at h2;exact h.hr.inj i j b N N' h1 h2
 ·intro i b N h1;by_cases e:i=id
  ·subst e;rw [au] at h1;cases h1;exact ⟨OC,fun hb=>by have:=h.hr.rsz _ hb;omega,.inr h.hr.frame.size⟩
  ·rw [aG _ _ e] at h1;obtain ⟨h2,h3,h4⟩:=h.hr.own i b N h1;exact ⟨OC,h3,h4⟩
 ·intro b hb;have:=h.hr.rsz b hb;omega
 ·refine ⟨h.hr.frame.os,h.hr.frame.tape,h.hr.frame.output,?_,?_⟩
  ·have:=h.hr.frame.size;omega
  ·intro k hk hF;rw [Below.heap_alloc w _ k (by have:=h.hr.frame.size;omega)];exact h.hr.frame.block k hk hF
 ·intro i x hi e;have hne':i≠id:=fun e'=>by subst e';rw [h.hr.res i hi] at hid;cases hid
  rw [aG _ _ hne'] at e;exact h.hr.keep i x hi e
theorem SW.turn (h:SW C n σ a w m R) {id b N:Nat} (hm0:m id=some (b,N)) (w':World) (hs:w'.heap.size=w.heap.size) (hoth:∀ k,k≠b->w'.heap[k]? =w.heap[k]?) (e1:w'.os=w.os) (e2:w'.tape=w.tape) (e3:w'.output=w.output) (o:Ob)
  (ho:(∀ b,R b->R b/\w'.heap[b]? =w.heap[b]?)->lD w' m σ.av R b N o) (hre:o.real=true:=by rfl):
  SW C n ⟨σ.sl,obL [(id,some o)] σ.ob,avL [] σ.av⟩ a w' m R:=by
 have own:=h.hr.own id b N hm0;have hR:∀ k,R k->R k/\w'.heap[k]? =w.heap[k]? :=fun k hk=>⟨hk,hoth k (fun e=>own.2.1 (e▸hk))⟩
 have obe:∀ i,i≠id->obL [(id,some o)] σ.ob i=σ.ob i:=fun i hi=>by
  have:Nat.beq i id=false:=by cases hb:Nat.beq i id;rfl;exact absurd (bR hb) hi
  simp [obL,this]
 have obs:obL [(id,some o)] σ.ob id=some o:=by simp [obL]
 have hm:∀ i x,σ.av i=false->m i=some x->m i=some x:=fun _ _ _ e=>e
 have ha:∀ i,σ.av i=false->avL [] σ.av i=false:=fun _ hi=>hi
 refine h.world ⟨?_,?_,?_,h.hr.inj,?_,?_,h.hr.rfr,h.hr.r0,?_,h.hr.keep,h.hr.res⟩ hR hm ha
 ·intro i;by_cases e:i=id
  ·subst e;rw [hm0,obs];exact hre.symm
  ·rw [obe i e];exact h.hr.dom i
 ·intro i hi;have e:i≠id:=fun e=>by
   subst e;have:=h.hr.dom i;rw [h.hr.free i hi,hm0] at this;cases this
  rw [obe i e];exact h.hr.free i hi
 ·intro i o' b' N' h1 h2;by_cases e:i=id
  ·subst e;rw [obs] at h1;rw [hm0] at h2;cases h1;cases h2;exact ho hR
  ·rw [obe i e] at h1;exact (h.hr.obj i o' b' N' h1 h2).mono hR hm ha (hoth b' (fun e'=>e (h.hr.inj i id b N' N (e'▸h2) hm0)))
 ·intro i b' N' h1;obtain ⟨h2,h3,h4⟩:=h.hr.own i b' N' h1;exact ⟨OC,h3,h4⟩
 ·intro b' hb';have:=h.hr.rsz b' hb';omega
 ·refine ⟨e1.trans h.hr.frame.os,e2.trans h.hr.frame.tape,e3.trans h.hr.frame.output,?_,?_⟩
  ·have:=h.hr.frame.size;omega
  ·intro k hk hF;rw [hoth k (fun e=>by subst e;rcases own.2.2 with h' | h';exact hF h';omega)];exact h.hr.frame.block k hk hF
theorem fF (id:Nat) (hid:σ.av id=true):XJ C n ⟨dst,.makeMap t none,ty,pos,after,gd⟩ σ ⟨.map id,[(id,some (.mp [] []))],[id]⟩:=by
 rintro a w Q ⟨m,R,hw⟩;unfold Oper.wp;have hrun:(execOp a.eval ⟨dst,.makeMap t none,ty,pos,after,gd⟩).run C.P w= .ok (.value (.map (some w.heap.size))) (w.alloc (.map #[] 0)):=by
  simp only [execOp,Option.map_none,Sem.run_bind,run_makeMap,Result.andThen_ok];rfl
 rw [hrun];refine ⟨_,O,upd m id (some (w.heap.size,0)),R,?_⟩;rw [Iw];refine SW.put (hw.HZ hid (.map #[] 0) 0 (.mp [] []) ?_) dst ?_
 ·intro w' m' av' hR hb;exact ⟨#[],0,hb,RelPL.nil,RelPL.nil,by simp [pT]⟩
 ·simp only [Rel];refine ⟨by simp [avL],fun b N e=>?_⟩;rw [au] at e;cases e;rfl
def s6 (k:PV) (ks:List PV):List PV:=match eG k ks 0 with
 | some (some j)=>ks.set j k
 | _=>ks++[k]
def tg (k v:PV) (ks vs:List PV):List PV:=match eG k ks 0 with
 | some (some j)=>vs.set j v
 | _=>vs++[v]
theorem ed {d:TypeDesc} {key v:PV} {id:Nat} {r:Option Nat} {ks' vs':List PV} (ht:C.P.underlying t=some (.map kt et)) (hk:C.P.underlying kt=some d) (hx:σ.ev n x= .map id) (ho:σ.ob id=some (.mp ks vs)) (hy:σ.ev n y= .pv key) (hz:σ.ev n z= .pv v) (hd:Eh d key=true) (hf:eG key ks 0=some r)
  (hks:s6 key ks=ks') (hvs:tg key v ks vs=vs'):XJ C n ⟨none,.mapUpdate t x y z,ty,pos,after,gd⟩ σ ⟨.pv .any,[(id,some (.mp ks' vs'))],[]⟩:=by
 rintro a w Q ⟨m,R,hw⟩;obtain ⟨b,N,hm,es,clock,hb,q2,q3,q4⟩:=hw.live ho;have hxv:=hw.ev x;rw [hx] at hxv;simp only [Rel] at hxv;have hx:=hxv.2 b N hm;have hkey:=hw.pv hy;have hval:=hw.pv hz;have hIs:=Jv hd hkey;have hlt:b<w.heap.size:=(Ld.1 hb).1;have fin:∀ (es':Array MapEntry) (clock':Nat),(Instr.mapUpdate t (a.eval x) (a.eval y) (a.eval z)).run C.P w= .ok () { w with heap:=w.heap.setIfInBounds b (.map es' clock') }->
   RelPL w R ks' (es'.toList.map (·.key))->RelPL w R vs' (es'.toList.map (·.val))->pT es'.toList clock'->Oper.wp C.P ⟨none,.mapUpdate t x y z,ty,pos,after,gd⟩ a w (fun a' w'=>∃ σ',σ'=σ.app none ⟨.pv .any,[(id,some (.mp ks' vs'))],[]⟩/\SJ C n σ' a' w') Q:=by
  intro es' clock' hrun h1 h2 h3;unfold Oper.wp;have hrun':(execOp a.eval ⟨none,.mapUpdate t x y z,ty,pos,after,gd⟩).run C.P w= .ok .skip { w with heap:=w.heap.setIfInBounds b (.map es' clock') }:=by
   simp only [execOp,Sem.run_bind,hrun,Result.andThen_ok,Sem.run_pure]
  rw [hrun'];refine ⟨_,O,m,R,hw.turn hm { w with heap:=w.heap.setIfInBounds b (.map es' clock') } OG (fun k hk=>by simp only;rw [Array.getElem?_setIfInBounds_ne (fun e=>hk e.symm)]) O O O (.mp ks' vs') fun hR=>?_⟩;exact ⟨es',clock',by simp only;rw [Array.getElem?_setIfInBounds];simp [hlt],h1.mono hR,h2.mono hR,h3⟩
 have hl:=q2.length;have hl2:=q3.length;simp only [rJ] at hl hl2;cases r with
 | none=>
   have hfn:=jY hd hkey q2 hf;simp only at hfn;refine fin (es.push ⟨a.eval y,a.eval z,clock⟩) (clock+1) ?_ ?_ ?_ ?_
   ·simp [Instr.mapUpdate,hx,run_underlying ht,run_map hb,run_checkKey hk hIs,run_findKey hk hfn,mZ _ hb,Result.andThen]
   ·rw [<-hks];simp only [s6,hf,Array.toList_push,Ho,jt,Jl];exact q2.append (RelPL.cons hkey RelPL.nil)
   ·rw [<-hvs];simp only [tg,hf,Array.toList_push,Ho,jt,Jl];exact q3.append (RelPL.cons hval RelPL.nil)
   ·simp only [pT,Array.toList_push,Ho,jt,Jl];refine ⟨List.nodup_append.2 ⟨q4.1,OG,fun x hx y hy e=>?_⟩,fun e he=>?_⟩
    ·obtain ⟨e',he',rfl⟩:=uF.1 hx;have:=q4.2 e' he';simp at hy;omega
    ·rcases my.1 he with h | h
     ·exact Nat.lt_succ_of_lt (q4.2 e h)
     ·simp at h;subst h;exact Nat.lt_succ_self _
 | some j=>
   obtain ⟨q,e',hj,he,hfn⟩:=jY hd hkey q2 hf;obtain ⟨q',x',hj',hx',hkq⟩:=ui hf;simp only [Dq] at hj hj';subst hj';subst hj;have hrel:=RelPL.at q2 hx' (by simp [he]:(es.toList.map (·.key))[j]? =some e'.key);have hsame:=CT hkq hkey hrel;have hjl:j<es.size:=(C4.1 he).1 |> fun h=>by simpa using h
   have hek:es[j]? =some e':=by simpa using he
   have hge:es[j]=e':=by have:=Array.getElem?_eq_getElem hjl;rw [hek] at this;exact (Ki this).symm
   have hmod:(es.modify j fun e=>{ e with key:=a.eval y,val:=a.eval z }).toList=es.toList.set j ⟨a.eval y,a.eval z,e'.born⟩:=by
    apply List.ext_getElem?;intro i;rw [LZ,LI,List.getElem?_set];by_cases e:j=i
    ·subst e;simp [hjl,hge]
    ·simp [e]
   refine fin (es.modify j fun e=>{ e with key:=a.eval y,val:=a.eval z }) clock ?_ ?_ ?_ ?_
   ·simp [Instr.mapUpdate,hx,run_underlying ht,run_map hb,run_checkKey hk hIs,run_findKey hk hfn,mZ _ hb,Result.andThen,Instr.keyThatStays,hek,hsame.2]
   ·rw [hmod,<-hks];simp only [s6,hf,Kx];exact q2.set j hkey
   ·rw [hmod,<-hvs];simp only [tg,hf,Kx];exact q3.set j hval
   ·rw [hmod];have hborn:(es.toList.set j ⟨a.eval y,a.eval z,e'.born⟩).map (·.born)=es.toList.map (·.born):=by
     rw [Kx];apply List.ext_getElem?;intro i;rw [List.getElem?_set];by_cases e:j=i
     ·subst e;simp [hjl,hge]
     ·simp [e]
    refine ⟨by rw [hborn];exact q4.1,fun e hm=>?_⟩;have:e.born∈es.toList.map (·.born):=by rw [<-hborn];exact uF.2 ⟨e,hm,O⟩
    obtain ⟨e2,h2,h3⟩:=uF.1 this;rw [<-h3];exact q4.2 e2 h2
def RO (ids:List Nat) (base k':Nat) (Q:V->(Nat->Option Ob)->Prop) (s:OS):Prop:=∃ v ob',Q v ob'/\s=⟨v.ren (cm ids base),wrO ids base k' ob',nwO base k'⟩
theorem DK (ids:List Nat) (base k':Nat) (ob':Nat->Option Ob):(wrO ids base k' ob').map (·.1)=ids++nwO base k':=by
 have h:∀ (l:List Nat) (j:Nat),(l.zipIdx j).map (fun p=>p.1)=l:=by
  intro l;induction l with
  | nil=>intro j;rfl
  | cons x l ih=>intro j;rw [On,jt,ih]
 unfold wrO nwO;rw [Ho,Of,Of];exact congr (af _ (h ids 0)) O
theorem relO {f:FuncId} {xs:Array Operand} {ts:Array TypeId} {args:List V} {os:List (Nat×Ob)} {k':Nat} {Q:V->(Nat->Option Ob)->Prop} (ids:List Nat) (base:Nat) (hc:bN C.P f) (hf:FnO C.P f ids.length k' args os Q) (hargs:xs.toList.map (σ.ev n)=V.renL (cm ids base) args)
  (ha:V.allL (okR ids.length 0) args=true) (hos:os.map (·.1)=(List.range ids.length).map (big+ ·)) (hob:os.all (fun p=>p.2.all (okR ids.length 0))=true) (hobs:dD σ (cm ids base) os) (hnd:ids.Nodup) (hav:(nwO base k').all σ.av=true):
  OJ C n ⟨dst,.call { callee:= .value (.func f),args:=xs,argTypes:=ts },ty,pos,after,gd⟩ (fun τ'=>∃ s,RO ids base k' Q s/\s.wr.map (·.1)=ids++nwO base k'/\s.nw=nwO base k'/\τ'=σ.app dst s) σ:=
 dU ids base hc hargs ha hos hob hobs hnd hav hf fun v ob' h=>⟨_,⟨v,ob',h,O⟩,DK _ _ _ _,O,O⟩
end
end
section
section
variable {C:Ctx} {n:Nat} {σ:St} {dst:Option Tmp} {ty t t':TypeId} {pos:String} {after:Array Edge} {gd:Option (Nat×Bool)} {x y:Operand}
theorem rM {e:TypeId} {z:Value} {size bytes j:Nat} {news:List PV} (id':Nat) (he:ElemIs C.P t e z size bytes) (hs:σ.ev n x= .pv nS)
  (hsrc:jA n σ y j news) (hl:news.length=j*size) (hlf:∀ c∈news,c.leaf=true) (hb:j<=1000000000) (hid:σ.av id'=true):
  XJ C n ⟨dst,.call { callee:= .builtin .append,args:= #[x,y],argTypes:= #[t,t] },ty,pos,after,gd⟩ σ ⟨.gsl id' size j,[(id',some (.gro e news))],[id']⟩:=by
 rintro a w Q ⟨m,R,hw⟩;have hx:=hw.pv hs;simp only [RelP] at hx;obtain ⟨A0,c0,hev,_,_,hn,hc0,_⟩:=hx;have hA0:A0=none:=by cases A0;rfl;have:=hn true O;simp at this
 subst hA0;rw [hc0 trivial] at hev;obtain ⟨A,c2,us,hev2,hr2,hrow⟩:=hsrc.row hw;rcases J6 j with rfl | hj
 ·obtain rfl:news=[]:=vG (by simpa using hl);obtain ⟨i,hi,_⟩:=info_parts he.info;have hrun:(Builtin.append_ #[t,t] ty #[.slice none 0 0,.slice A 0 c2]).run C.P w= .ok (.slice none 0 0) w:=by
   cases A<;>simp [Builtin.append_,run_underlying he.u,sizeOf,typeInfo,hi,Builtin.lenOf,Builtin.firstCells,loadCells,loadCellsFrom]
  unfold Oper.wp execOp;simp only [resolve,invoke,builtin,Sem.run_bind,Sem.run_pure,Result.andThen_ok,Lq,jt,Jl,hev,hev2,hrun];obtain ⟨h,hmn⟩:=hw.gro0 hid e;refine ⟨_,O,m,R,?_⟩;rw [Iw];exact SW.put h dst<|tl (by simp only [RelP];exact ⟨none,0,O,qT _,by simp [maxLen],(fun _ e=>by cases e;rfl),(fun _=>rfl),fun e=>absurd O e⟩) hmn (by simp [avL])
 ·have hnl:0<news.length:=by rw [hl];exact Nat.mul_pos hj he.pos
  have hne:news≠[]:=CG.1 hnl;refine iG x y t O 0 e z size bytes he.u he.info he.zs he.pos he.by_ _ 0 j c2 A _ us hev hev2 (World.ownsRow_nil w 0 e size) hrow (by rw [hr2.length,hl]) (bU hr2 hlf) OC (eF _) ?_;intro A' c' w' hown' hgr hat
  simp only [Dq,Ew] at hown' hat ⊢;rcases hown'.2 with ⟨hv,h0⟩ | ⟨g,cap,cur,hv,_,hg,hkc',hcm',hcs',htk⟩
  ·omega
  ·simp only [Value.slice.injEq] at hv;obtain ⟨rfl, -,rfl⟩:=hv;have gge:w.heap.size<=g:=by
    rcases hat with h | ⟨g',h,hle⟩
    ·simp [Value.ownBlock] at h
    ·simp only [Value.ownBlock,uT] at h;subst h;exact hle
   refine ⟨_,O,upd m id' (some (g,cur.size)),R,?_⟩;rw [Iw];refine SW.put (hw.fresh hid hg hgr (fun q hq=>by simp [Value.ownBlock] at hq) (fun h=>by have:=hw.hr.rsz _ h;omega) (fun i b N hi e=>by have:=(hw.hr.own i b N hi).1;omega) (.inr (by have:=hw.hr.frame.size;omega)) (.gro e news) ?_ (bQ hne)) dst ?_
   ·intro m' av' hR _ _;refine ⟨cur,hg,O,?_,?_⟩
    ·rw [hcs',<-hr2.length,hown'.1];exact JQ _ hkc'
    ·rw [<-hr2.length,hown'.1,htk];exact hr2.mono hR
   ·simp only [Rel];refine ⟨by simp [avL],_,c',O,hkc',hcm',fun h=>by omega,fun _ b N e=>?_⟩;rw [au] at e;cases e;exact ⟨O,hcs'⟩
end
end
section
section
variable {C:Ctx} {n:Nat} {σ:St} {dst:Option Tmp} {ty:TypeId} {pos:String} {after:Array Edge} {gd:Option (Nat×Bool)} {x:Operand}
end
end
section
section
variable {C:Ctx} {n:Nat} {σ:St} {dst:Option Tmp} {ty:TypeId} {pos:String} {after:Array Edge} {gd:Option (Nat×Bool)} {x y:Operand}
theorem dC {T e:TypeId} {id s k:Nat} {kh:IntKind} {ih:Int} {o:Ob} (h:Nat) (hT:C.P.underlying T=some (.slice e)) (hs:dx C.P e s) (hx:σ.ev n x= .osl id s k) (ho:σ.ob id=some o) (hy:σ.ev n y= .pv (.int kh ih)) (hi:ih=(h:Int)) (h2:h<=k) (hre:o.real=true:=by rfl):
  XJ C n ⟨dst,.slice T x none (some y) none,ty,pos,after,gd⟩ σ ⟨.osl id s h,[],[]⟩:=
 .val fun a w m R hw=>by
  obtain ⟨b,N,c,he,hkc,hcm,hN,hm,hor⟩:=hw.osl hx ho hre;have e2:a.eval y= .int kh h:=by rw [hw.int hy,hi]
  have hlc:h<=c:=OC;have hav:σ.av id=false:=by
   cases hv:σ.av id with
   | false=>rfl
   | true=>have:=hw.hr.free id hv;rw [ho] at this;cases this
  refine ⟨.slice (some ⟨b,0,none⟩) h c,?_,?_⟩
  ·by_cases hc0:c=0
   ·subst hc0;have:h=0:=OC;subst this;simp [execOp,he,e2,Instr.sliceAt,Instr.slice,Instr.sliceBounds,Instr.sliceBound,asIntOf,run_underlying hT,hs.run]
   ·simp [execOp,he,e2,Instr.sliceAt,Instr.slice,Instr.sliceBounds,Instr.sliceBound,asIntOf,run_underlying hT,hs.run,hlc,Addr.add_lit,hc0]
  ·simp only [Rel];refine ⟨hav,fun b' N' e=>?_⟩;rw [hm] at e;cases e;exact ⟨c,O,hlc,hcm,hN⟩
end
end
section
section
variable {C:Ctx} {n:Nat} {σ:St} {dst:Option Tmp} {ty t:TypeId} {pos:String} {after:Array Edge} {gd:Option (Nat×Bool)} {x:Operand}
end
end
section
section
variable {C:Ctx} {n:Nat} {σ:St} {dst:Option Tmp} {ty:TypeId} {ts:Array TypeId} {pos:String} {after:Array Edge} {gd:Option (Nat×Bool)}
theorem fA {f:FuncId} {xs:Array Operand} {args:List V} {os:List (Nat×Ob)} {k':Nat} {Q:V->(Nat->Option Ob)->Prop} {K:St->Prop} (ids:List Nat) (base:Nat) (hc:bN C.P f) (hf:FnO C.P f ids.length k' args os Q) (hargs:xs.toList.map (σ.ev n)=V.renL (cm ids base) args)
  (ha:V.allL (okR ids.length 0) args=true) (hos:os.map (·.1)=(List.range ids.length).map (big+ ·)) (hob:os.all (fun p=>p.2.all (okR ids.length 0))=true) (hobs:dD σ (cm ids base) os)
  (hnd:ids.Nodup) (hav:(nwO base k').all σ.av=true)
  (hk:∀ v ob',Q v ob'->K (σ.app dst ⟨v.ren (cm ids base),wrO ids base k' ob',nwO base k'⟩)):
  OJ C n ⟨dst,.call { callee:= .value (.func f),args:=xs,argTypes:=ts },ty,pos,after,gd⟩ K σ:=dU ids base hc hargs ha hos hob hobs hnd hav hf hk
end
end
section
open Mk
def Aw (l:List Int):List Int:=l.mergeSort (fun a b=>decide (a<=b))
theorem iY (l:List Int):(Aw l).Perm l:=List.mergeSort_perm l _
theorem o8 (l:List Int):(Aw l).Pairwise (· <= ·):=by
 have:=List.pairwise_mergeSort (le:=fun a b:Int=>decide (a<=b)) (by intro a b c;simp;omega) (by intro a b;simp;omega) l;exact this.imp OG
theorem yg {l r:List Int} (hp:l.Perm r) (hl:l.Pairwise (· <= ·)) (hr:r.Pairwise (· <= ·)):l=r:=
 hp.eq_of_pairwise (fun a b _ _ h1 h2=>Int.le_antisymm h1 h2) hl hr
theorem CV {l r:List Int} (hp:l.Perm r) (hl:l.Pairwise (· <= ·)):l=Aw r:=yg (hp.trans (iY r).symm) hl (o8 r)
theorem wV (k:Nat) (hk:k<=12):FnP Tryz.prog 164 [.int .u64 k] (fun v=>∃ i,v= .int .i64 i):=by
 refine FnP.of func164 O ntmps164 OG fun m0 w0 F R0=>?_
 have hw:IntKind.u8.wrap (k:Int)=(k:Int):=by
  have:k<256:=OC;show ((k:Int)%256)=k;omega
 refine Z1 O O<|Z2 O O O ?_;refine Gp O O (fun hc4=>absurd hc4 OC) (fun hc4=>?_);refine Il<|Z2 O O O ?_;refine Gp O O (fun hc8=>absurd hc8 OC) (fun hc8=>?_);refine Il<|Z2 O O O ?_;refine Gp O O (fun hc14=>absurd hc14 OC) (fun hc14=>?_);refine Il<|Z2 O O O<|Rs 21 O O ((en underlying136 underlying5 O).cast (v':= .pv (.int .u8 k)) (by rw [hw]))<|Rs 22 O O (pz k underlying9 O O O (by show k<256;omega)) ?_;exact A1 O<|Rs 24 O O (aQ O O O)<|A1 O<|Gt O<|⟨_,_,O,O,_,O⟩
theorem tP (k:Nat) (hk:k<=12):FnP Tryz.prog 104 [.int .u64 k] (fun v=>∃ i,v= .int .i64 i):=by
 refine FnP.of func104 O ntmps104 OG fun m0 w0 F R0=>?_
 refine Z1 O O ?_;refine Gc O O (fun hcK=>absurd hcK (Bool.false_ne_true)) (fun hcK=>?_);refine Il<|Z1 O O ?_;refine RL.call O (dE call164 (wV k hk) O ?_);rintro _ ⟨i,rfl⟩;exact A1 O<|Gt O<|⟨_,_,O,O,_,O⟩
abbrev EW (l:List Int):Ob:= .cells 3 (aE l)
end
section
open Mk
structure OrdOk (S:Sch) (P:List Int):Prop where
 val:Valid S
 len:P.length=S.attrs.length
 rng:∀ p∈P, -1<=p/\p<P.length
 up:∀ v,v<P.length->(abv P (v:Int)).isSome=true
 rt:∀ r∈S.rels,mu P r.2=true
def dq (S:Sch) (P:List Int) (v:Int):List Int:=Aw (H7 S P v)
end
section
open Mk
def bq (P:List Int) (v:Int):List Int:=(upZ P.length).filter fun a=>P.getD a.toNat 0==v
def JA (P:List Int) (h a:Int):Int:=if hiB P h a=true then a else h
def ka (P:List Int) (l:List Int):Int:=l.foldl (JA P) (l.getD 0 0)
def fy (P:List Int):Nat->Int->List Int
 | 0,_=>[]
 | f+1,v=>(upZ P.length).flatMap fun a=>if P.getD a.toNat 0=v then a::fy P f a else []
section
variable {C:Ctx} {n:Nat} {σ:St} {dst:Option Tmp} {ty:TypeId} {ts:Array TypeId} {pos:String} {after:Array Edge} {gd:Option (Nat×Bool)}
theorem qx {f:FuncId} {xs:Array Operand} {y:Operand} {fs cs:List V} {args:List V} {os:List (Nat×Ob)} {k':Nat} {Q:V->(Nat->Option Ob)->Prop} {K:St->Prop} (ids:List Nat) (base:Nat) (hc:bN C.P f) (hf:FnO C.P f ids.length k' args os Q) (hy:σ.ev n y= .fn (.func f) fs cs) (hargs:fs++xs.toList.map (σ.ev n)++cs=V.renL (cm ids base) args)
  (ha:V.allL (okR ids.length 0) args=true) (hos:os.map (·.1)=(List.range ids.length).map (big+ ·)) (hob:os.all (fun p=>p.2.all (okR ids.length 0))=true) (hobs:dD σ (cm ids base) os)
  (hnd:ids.Nodup) (hav:(nwO base k').all σ.av=true)
  (hk:∀ v ob',Q v ob'->K (σ.app dst ⟨v.ren (cm ids base),wrO ids base k' ob',nwO base k'⟩)):
  OJ C n ⟨dst,.call { callee:= .value y,args:=xs,argTypes:=ts },ty,pos,after,gd⟩ K σ:=pf ids base hc hy hargs ha hos hob hobs hnd hav hf hk
end
end
section
open Mk
abbrev B64:=BitVec 64
abbrev bz (x:B64):PV:= .int .u64 (x.toNat:Int)
theorem JG (i:Int):IntKind.u64.wrap i=i%18446744073709551616:=by
 unfold IntKind.wrap;simp [IntKind.signed,IntKind.bits]
theorem rU (x:B64):IntKind.u64.wrap (x.toNat:Int)=x.toNat:=by
 rw [JG];have:=x.isLt;omega
theorem ofInt64 (x:B64):BitVec.ofInt IntKind.u64.bits (x.toNat:Int)=x:=by
 show BitVec.ofInt 64 _=x;rw [BitVec.ofInt_natCast,BitVec.ofNat_toNat,BitVec.setWidth_eq]
section
variable {C:Ctx} {n:Nat} {σ:St} {dst:Option Tmp} {ty t t':TypeId} {pos:String} {after:Array Edge} {gd:Option (Nat×Bool)} {x y:Operand} {X Y:B64}
theorem nK (hx:σ.ev n x= .pv (bz X)) (hy:σ.ev n y= .pv (bz Y)):XJ C n ⟨dst,.binOp .and t x y t',ty,pos,after,gd⟩ σ ⟨.pv (bz (X&&&Y)),[],[]⟩:=
 aQ hx hy (by simp only [qP,ofInt64];exact af (fun i=>some (PV.int .u64 i)) (rU _))
theorem kW (hx:σ.ev n x= .pv (bz X)) (hy:σ.ev n y= .pv (bz Y)):XJ C n ⟨dst,.binOp .or t x y t',ty,pos,after,gd⟩ σ ⟨.pv (bz (X|||Y)),[],[]⟩:=
 aQ hx hy (by simp only [qP,ofInt64];exact af (fun i=>some (PV.int .u64 i)) (rU _))
theorem tm (hx:σ.ev n x= .pv (bz X)) (hy:σ.ev n y= .pv (bz Y)):XJ C n ⟨dst,.binOp .andNot t x y t',ty,pos,after,gd⟩ σ ⟨.pv (bz (X&&& ~~~Y)),[],[]⟩:=
 aQ hx hy (by simp only [qP,ofInt64];exact af (fun i=>some (PV.int .u64 i)) (rU _))
theorem zx (hx:σ.ev n x= .pv (bz X)) (hy:σ.ev n y= .pv (bz Y)):XJ C n ⟨dst,.binOp .sub t x y t',ty,pos,after,gd⟩ σ ⟨.pv (bz (X-Y)),[],[]⟩:=
 aQ hx hy (by
  simp only [qP,JG];refine af (fun i=>some (PV.int .u64 i)) ?_;have:=X.isLt;have:=Y.isLt;rw [BitVec.toNat_sub];omega)
theorem nt (X Y:B64):((X.toNat:Int)==(Y.toNat:Int))=decide (X=Y):=by
 rw [BY];simp only [Li,AS];exact ⟨fun h=>BitVec.eq_of_toNat_eq OC,fun h=>by rw [h]⟩
theorem E7 (hx:σ.ev n x= .pv (bz X)) (hy:σ.ev n y= .pv (bz Y)):XJ C n ⟨dst,.binOp .eql t x y t',ty,pos,after,gd⟩ σ ⟨.pv (.bool (decide (X=Y))),[],[]⟩:=
 aQ hx hy (by simp only [qP,nt])
theorem nA (hx:σ.ev n x= .pv (bz X)) (hy:σ.ev n y= .pv (bz Y)):XJ C n ⟨dst,.binOp .neq t x y t',ty,pos,after,gd⟩ σ ⟨.pv (.bool (decide (X≠Y))),[],[]⟩:=
 aQ hx hy (by simp only [qP,bne,nt,decide_not])
theorem Fl (a:Nat) {i:Int} {k':IntKind} (hx:σ.ev n x= .pv (bz 1#64)) (hy:σ.ev n y= .pv (.int k' i)) (hi:i=(a:Int)) (ha:a<64):XJ C n ⟨dst,.binOp .shl t x y t',ty,pos,after,gd⟩ σ ⟨.pv (bz (BitVec.twoPow 64 a)),[],[]⟩:=by
 subst hi;refine XJ.cast (H3 hx hy OC)<|af (fun i=>V.pv (PV.int .u64 i)) ?_;show IntKind.u64.wrap (1*2^(min (Int.toNat (a:Int)) 64))=_;rw [show min (Int.toNat (a:Int)) 64=a by omega,BitVec.toNat_twoPow,JG];simp
theorem xU (a:Nat) {i:Int} {k':IntKind} (hx:σ.ev n x= .pv (bz X)) (hy:σ.ev n y= .pv (.int k' i)) (hi:i=(a:Int)) (ha:a<64):XJ C n ⟨dst,.binOp .shr t x y t',ty,pos,after,gd⟩ σ ⟨.pv (bz (X>>>a)),[],[]⟩:=by
 subst hi;refine XJ.cast (Ii hx hy OC)<|af (fun i=>V.pv (PV.int .u64 i)) ?_;show Int.fdiv (X.toNat:Int) (2^(min (Int.toNat (a:Int)) 64))=_;rw [show min (Int.toNat (a:Int)) 64=a by omega,BitVec.toNat_ushiftRight,Nat.shiftRight_eq_div_pow];have e:(2:Int)^a=((2^a:Nat):Int):=OG;rw [e,Int.fdiv_eq_ediv_of_nonneg _ (Int.natCast_nonneg _)];simp
end
theorem GS (X:B64) (a:Nat):decide ((X>>>a)&&&1#64=1#64)=X.getLsbD a:=by
 rw [BY,AS];constructor
 ·intro h;have:=af (fun z:B64=>z.getLsbD 0) h;simpa using this
 ·intro h;apply Ku;intro i hi;rw [Ky,BitVec.getLsbD_one];by_cases e:i=0
  ·subst e;simp [h]
  ·simp [e]
theorem fi (a:Nat) (ha:a<64):FnP Tryz.prog 132 [.int .i64 a] (· =bz (BitVec.twoPow 64 a)):=by
 refine FnP.of func132 O ntmps132 OG fun m0 w0 F R0=>?_
 exact Z1 O O<|Z1 O O<|Rs 4 O O (Fl a O O O ha)<|A1 O<|Gt O<|⟨_,_,O,O,O⟩
theorem lr (X:B64) (a:Nat) (ha:a<64):FnP Tryz.prog 130 [bz X,.int .i64 a] (· = .bool (X.getLsbD a)):=by
 refine FnP.of func130 O ntmps130 OG fun m0 w0 F R0=>?_
 exact Z1 O O<|Z2 O O O<|Rs 7 O O (xU a O O O ha)<|Rs 8 O O (nK (Y:=1#64) O O)<|Rs 9 O O (E7 (Y:=1#64) O O)<|A1 O<|Gt O<|⟨_,_,O,O,af PV.bool (GS X a)⟩
abbrev kz (G:List B64):List PV:=G.map bz
abbrev bS (G:List B64):PV:= .sl none G.length (kz G)
theorem fJ {l:List B64} {k:Nat} (h:k<l.length):(kz l)[k*1]? =some (bz l[k]):=by simp [h]
theorem gN {l:List B64} {k:Nat} (h:k<l.length):kz l≠[]:=by intro e;simp at e;subst e;simp at h
def gI (n:Nat):B64:=BitVec.twoPow 64 n-1#64
theorem fB {n:Nat} (hn:n<64) (i:Nat):(gI n).getLsbD i=decide (i<n):=by
 have e:gI n=BitVec.ofNat 64 (2^n-1):=by
  apply BitVec.eq_of_toNat_eq;unfold gI;have h1:2^n<2^64:=Nat.pow_lt_pow_right OE hn;have h2:0<2^n:=Nat.pow_pos OE;rw [BitVec.toNat_sub,BitVec.toNat_twoPow,BitVec.toNat_ofNat,Nat.mod_eq_of_lt h1];simp only [BitVec.toNat_ofNat];omega
 rw [e,BitVec.getLsbD_ofNat,Nat.testBit_two_pow_sub_one];by_cases h:i<n
 ·simp [h];omega
 ·simp [h]
theorem qh (G:List B64) (hn:G.length<64):FnP Tryz.prog 128 [bS G] (· =bz (gI G.length)):=by
 refine FnP.of func128 O ntmps128 OG fun m0 w0 F R0=>?_
 exact Z1 O O<|Z2 O O O<|Rs 5 O O (ae call132 (fi G.length hn) O)<|Rs 6 O O (zx (Y:=1#64) O O)<|A1 O<|Gt O<|⟨_,_,O,O,O⟩
end
theorem MK (f:Nat->Bool):∀ w:Nat,∃ x:BitVec w,∀ i,i<w->x.getLsbD i=f i
 | 0=>⟨0#0,fun i h=>absurd h (Nat.not_lt_zero _)⟩
 | w+1=>by
   obtain ⟨x,hx⟩:=MK f w;refine ⟨BitVec.cons (f w) x,fun i hi=>?_⟩;rw [BitVec.getLsbD_cons];by_cases e:i=w
   ·rw [og e,e]
   ·rw [ga e,hx i OC]
noncomputable def bitsOf (f:Nat->Bool):BitVec 64:=Classical.choose (MK f 64)
theorem fN (f:Nat->Bool) {i:Nat} (h:i<64):(bitsOf f).getLsbD i=f i:=Classical.choose_spec (MK f 64) i h
theorem cq {x:BitVec 64} {i:Nat} (h:x.getLsbD i=true):i<64:=CP fun e=>by
 rw [BitVec.getLsbD_of_ge _ _ OC] at h;cases h
inductive Reach (G:List (BitVec 64)) (rest:BitVec 64) (a:Nat):Nat->Prop
 | refl:Reach G rest a a
 | step {b c:Nat}:Reach G rest a b->(G.getD b 0#64).getLsbD c=true->rest.getLsbD c=true->Reach G rest a c
noncomputable def compB (G:List (BitVec 64)) (rest:BitVec 64) (a:Nat):BitVec 64:=bitsOf fun b=>@decide (Reach G rest a b) (Classical.propDecidable _)
theorem eH {G:List (BitVec 64)} {rest:BitVec 64} {a b:Nat} (hb:b<64):(compB G rest a).getLsbD b=true↔Reach G rest a b:=by
 unfold compB;rw [fN _ hb];exact @BX _ (Classical.propDecidable _)
theorem dG {G:List (BitVec 64)} {rest:BitVec 64} {a b:Nat} (h:(compB G rest a).getLsbD b=true):Reach G rest a b:=(eH (cq h)).1 h
structure CInv (G:List (BitVec 64)) (rest:BitVec 64) (a:Nat) (out next:BitVec 64):Prop where
 h1:out.getLsbD a=true
 h2:∀ b,out.getLsbD b=true->Reach G rest a b
 h3:∀ b,next.getLsbD b=true->out.getLsbD b=true
 h4:∀ b c,out.getLsbD b=true->next.getLsbD b=false->(G.getD b 0#64).getLsbD c=true->rest.getLsbD c=true->out.getLsbD c=true
theorem CInv.first {G:List (BitVec 64)} {rest:BitVec 64} {a:Nat} (ha:a<64):CInv G rest a (BitVec.twoPow 64 a) (BitVec.twoPow 64 a):=by
 refine ⟨by rw [LG];simp [ha],fun b hb=>?_,fun _ h=>h,fun b c h1 h2=>by rw [h1] at h2;cases h2⟩;rw [LG] at hb;have:a=b:=by simpa [ha] using hb
 subst this;exact .refl
theorem CInv.last {G:List (BitVec 64)} {rest:BitVec 64} {a:Nat} {out:BitVec 64} (h:CInv G rest a out 0#64):out=compB G rest a:=by
 apply Ku;intro i hi;rw [BY,eH hi];refine ⟨h.h2 i,fun hr=>?_⟩;clear hi;induction hr with
 | refl=>exact h.h1
 | step _ h1 h2 ih=>exact h.h4 _ _ ih OG h1 h2
theorem CInv.next {G:List (BitVec 64)} {rest:BitVec 64} {a:Nat} {out next near:BitVec 64} (h:CInv G rest a out next)
  (hn:∀ c,near.getLsbD c=(List.range G.length).any fun b=>next.getLsbD b&&(G.getD b 0#64).getLsbD c):
  CInv G rest a (out|||(near&&&rest&&& ~~~out)) (near&&&rest&&& ~~~out):=by
 have hnear:∀ c,near.getLsbD c=true↔∃ b,next.getLsbD b=true/\(G.getD b 0#64).getLsbD c=true:=by
  intro c;rw [hn,IF];constructor
  ·rintro ⟨b,_,h⟩;rw [cH] at h;exact ⟨b,h⟩
  ·rintro ⟨b,h1,h2⟩;refine ⟨b,?_,by rw [h1,h2];rfl⟩;rw [Hq];apply CP;intro e;rw [List.getD,IT OC] at h2;simp at h2
 have hbit:∀ c,(near&&&rest&&& ~~~out).getLsbD c=true↔near.getLsbD c=true/\rest.getLsbD c=true/\out.getLsbD c=false:=by
  intro c;rw [Ky,Ky,BitVec.getLsbD_not];constructor
  ·intro h;simp at h;exact ⟨h.1.1,h.1.2,h.2.2⟩
  ·rintro ⟨h1,h2,h3⟩;have:=cq h1;rw [h1,h2,h3,x7 this];rfl
 have hor:∀ c,(out|||(near&&&rest&&& ~~~out)).getLsbD c=true↔out.getLsbD c=true\/(near&&&rest&&& ~~~out).getLsbD c=true:=by
  intro c;rw [Lj,Jy]
 refine ⟨(hor _).2 (.inl h.h1),fun b hb=>?_,fun b hb=>(hor b).2 (.inr hb),fun b c h1 h2 h3 h4=>?_⟩
 ·rcases (hor b).1 hb with h1 | h1
  ·exact h.h2 b h1
  ·obtain ⟨g1,g2,_⟩:=(hbit b).1 h1;obtain ⟨d,g3,g4⟩:=(hnear b).1 g1;exact .step (h.h2 d (h.h3 d g3)) g4 g2
 ·rw [hor];by_cases hc:out.getLsbD c=true
  ·exact .inl hc
  ·right
   have hb:out.getLsbD b=true:=by
    rcases (hor b).1 h1 with h5 | h5
    ·exact h5
    ·rw [h5] at h2;cases h2
   rw [hbit];refine ⟨?_,h4,by simpa using hc⟩;rw [hnear];by_cases hnb:next.getLsbD b=true
   ·exact ⟨b,hnb,h3⟩
   ·exact absurd (h.h4 b c hb (by simpa using hnb) h3 h4) hc
def y9 (x:BitVec 64):Nat:=(List.range 64).countP fun i=> !x.getLsbD i
theorem lx {α:Type} {p q:α->Bool}:∀ {l:List α},(∀ a∈l,p a=true->q a=true)->(∃ a∈l,p a=false/\q a=true)->l.countP p<l.countP q
 | [],_,⟨a,h,_⟩=>by cases h
 | x::l,h,⟨a,ha,h1,h2⟩=>by
   have hm:l.countP p<=l.countP q:=List.countP_mono_left fun y hy=>h y (vf _ hy)
   rw [List.countP_cons,List.countP_cons];by_cases e:a=x
   ·subst e;rw [h1,h2];simp;omega
   ·have hr:=lx (l:=l) (fun y hy=>h y (vf _ hy)) ⟨a,(k6.1 ha).resolve_left e,h1,h2⟩;have:=h x (Kl ..);by_cases ep:p x=true
    ·rw [ep,this ep];simp;omega
    ·by_cases eq:q x=true<;>simp [ep,eq]<;>omega
theorem Ct {x y:BitVec 64} (h:∀ i,x.getLsbD i=true->y.getLsbD i=true) {j:Nat} (h1:x.getLsbD j=false) (h2:y.getLsbD j=true):y9 y<y9 x:=by
 refine lx (fun a _ ha=>?_) ⟨j,Hq.2 (cq h2),by rw [h2];rfl,by rw [h1];rfl⟩;cases hx:x.getLsbD a with
 | false=>rfl
 | true=>rw [h a hx] at ha;cases ha
theorem D5 {x:BitVec 64} (h:x≠0#64):∃ i,x.getLsbD i=true:=by
 apply CP;intro hn;apply h;apply Ku;intro i _;rw [BitVec.getLsbD_zero];cases e:x.getLsbD i with
 | false=>rfl
 | true=>exact absurd ⟨i,e⟩ hn
def Cv (out next:BitVec 64):Nat:=2*y9 out+(if next=0#64 then 0 else 1)
theorem ET {out next x rest:BitVec 64} (hn:next≠0#64):Cv (out|||(x&&&rest&&& ~~~out)) (x&&&rest&&& ~~~out)<Cv out next:=by
 unfold Cv;rw [ga hn];by_cases e:(x&&&rest&&& ~~~out)=0#64
 ·rw [og e,e];have:out|||0#64=out:=OG;rw [this];omega
 ·rw [ga e];obtain ⟨i,hi⟩:=D5 e;have h1:out.getLsbD i=false:=by
   rw [Ky,BitVec.getLsbD_not] at hi;simp at hi;exact hi.2.2
  have:=Ct (x:=out) (y:=out|||(x&&&rest&&& ~~~out)) (fun j hj=>by rw [Lj,hj];rfl) h1 (by rw [Lj,hi,OA]);omega
noncomputable def compsN (G:List (BitVec 64)) (rest:BitVec 64):Nat->List (BitVec 64)×BitVec 64
 | 0=>([],rest)
 | k+1=>if (compsN G rest k).2.getLsbD k=true then ((compsN G rest k).1++[compB G (compsN G rest k).2 k],(compsN G rest k).2&&& ~~~compB G (compsN G rest k).2 k) else compsN G rest k
structure IsG (S:Sch) (G:List (BitVec 64)):Prop where
 len:G.length=S.attrs.length
 bit:∀ a,a<G.length->∀ b:Nat,(G.getD a 0#64).getLsbD b=(decide (a≠b)&&eS S a b)
section
open Mk
theorem getD_eq {α:Type} {l:List α} {k:Nat} (h:k<l.length) (d:α):l.getD k d=l[k]:=by simp [List.getD,h]
def yV (n:Nat) (G:List B64) (p:Nat->Nat->Bool):Prop:=G.length=n/\∀ a,a<n->∀ b:Nat,(G.getD a 0#64).getLsbD b=p a b
theorem yV.zero (n:Nat):yV n (List.replicate n 0#64) (fun _ _=>false):=⟨OG,fun a ha b=>by simp [List.getD,ha]⟩
theorem yV.congr {n:Nat} {G:List B64} {p q:Nat->Nat->Bool} (h:yV n G p) (e:∀ a,a<n->∀ b,p a b=q a b):yV n G q:=⟨h.1,fun a ha b=>by rw [h.2 a ha b,e a ha b]⟩
theorem yV.or {n:Nat} {G:List B64} {p:Nat->Nat->Bool} (h:yV n G p) {i:Nat} (hi:i<n) (x:B64):yV n (G.set i (G[i]'(by rw [h.1];exact hi)|||x)) (fun a b=>p a b||(decide (a=i)&&x.getLsbD b)):=by
 refine ⟨by simp [h.1],fun a ha b=>?_⟩;have hl:i<G.length:=by rw [h.1];exact hi
 by_cases e:a=i
 ·subst e;have:=h.2 a ha b;rw [getD_eq hl] at this;simp [List.getD,hl,Lj,this]
 ·have:=h.2 a ha b;simp only [List.getD] at this ⊢;rw [Kj (fun e'=>e e'.symm),this];simp [e]
def ou (rs:List (ByteArray×List Int)) (a b:Nat):Bool:=rs.any fun r=>decide ((a:Int)∈r.2)&&decide ((b:Int)∈r.2)
theorem gS {l:List Int} {q i:Nat} (hq:q<l.length) (hi:l[q]=(i:Int)) (a:Nat):(a:Int)∈l.take (q+1)↔(a:Int)∈l.take q\/a=i:=by
 rw [bT hq,my,fe,hi];exact or_congr Iff.rfl ⟨fun h=>by omega,fun h=>by rw [h]⟩
theorem B5 {rs:List (ByteArray×List Int)} {l:List Int} {q i a b:Nat} {all:B64} (hq:q<l.length) (hi:l[q]=(i:Int)) (hall:∀ b:Nat,all.getLsbD b=decide ((b:Int)∈l)):
  ((decide (a≠b)&&(ou rs a b||(decide ((a:Int)∈l.take q)&&decide ((b:Int)∈l))))||(decide (a=i)&&(all&&& ~~~(BitVec.twoPow 64 i)).getLsbD b))=
  (decide (a≠b)&&(ou rs a b||(decide ((a:Int)∈l.take (q+1))&&decide ((b:Int)∈l)))):=by
 have hm:decide ((a:Int)∈l.take (q+1))=(decide ((a:Int)∈l.take q)||decide (a=i)):=by
  rw [BY,Jy,BX,BX,BX,gS hq hi]
 rw [hm,Ky,BitVec.getLsbD_not,LG,hall];by_cases hb:(b:Int)∈l
 ·have hb64:b<64:=cq (x:=all) (by rw [hall];simpa using hb);by_cases e:a=i
  ·subst e;by_cases e2:a=b
   ·subst e2;simp [hb64]
   ·simp [e2,hb,hb64]
  ·simp [e]
 ·simp [hb]
theorem wO {rs:List (ByteArray×List Int)} {k a b:Nat} (hk:k<rs.length):ou (rs.take (k+1)) a b=(ou (rs.take k) a b||(decide ((a:Int)∈rs[k].2)&&decide ((b:Int)∈rs[k].2))):=by
 unfold ou;rw [bT hk];simp only [List.any_append,List.any_cons,List.any_nil,J9]
theorem iE (S:Sch) (hS:SB S) (hV:Valid S):FnP Tryz.prog 127 [gK S] (fun v=>∃ G,v=bS G/\IsG S G):=by
 refine FnP.of func127 O ntmps127 OG fun m0 w0 F R0=>?_
 have hb:=hV.n2;have hb2:=hV.r2;refine Z2 O O O<|Gr O ?_;iterate 5 refine A1 O ?_
 refine Z4 O O O O O ?_;refine Gl O (st:=fun x_0:Nat×List B64=>mkS [(3,.osl 1 1 S.attrs.length),(16,.pv (.sl none S.rels.length (bj S.rels))),(17,.pv (.int .i64 S.rels.length)),(18,.pv (.int .i64 x_0.1))] [(1,.cells 191 (kz x_0.2))] 2)
  (I:=fun x_0=>x_0.1<=S.rels.length/\yV S.attrs.length x_0.2 (fun a b=>decide (a≠b)&&ou (S.rels.take x_0.1) a b)) (μ:=fun x_0=>S.rels.length-x_0.1) (x0:=(0,List.replicate S.attrs.length 0#64)) (Io (aS O) ⟨af (fun c=>some (Ob.cells 191 c)) ((ct (.int .u64 0) (S.attrs.length*1)).trans OG),OK⟩ O O) (⟨eF _,(yV.zero _).congr (fun a _ b=>by simp [ou])⟩) ?_
 rintro ⟨k,G⟩ ⟨hk,hG⟩;try simp only at hk hG ⊢
 refine Z1 O O ?_;refine Gp O O (fun hc19=>?_) (fun hc19=>?_)
 ·have hlt:k<S.rels.length:=OC;have hrow:=cW hlt;have hne:=ew hlt;have hll:=hS.rl _ (aJ hlt);have hrng:=hV.rng _ (aJ hlt);refine Il<|Z1 O O<|Rs 21 O O (db ⟨_,underlying30,O⟩ Eu O hrow O)<|Y2 O O<|Z1 O O<|Z4 O O O O O ?_;refine Gl O (st:=fun x_1:Nat×B64=>mkS [(3,.osl 1 1 S.attrs.length),(5,.ptr 2 0),(6,.pv (bz x_1.2)),(16,.pv (.sl none S.rels.length (bj S.rels))),(17,.pv (.int .i64 S.rels.length)),(18,.pv (.int .i64 k)),(23,.pv (ak S.rels[k].2)),(24,.pv (.int .i64 S.rels[k].2.length)),(25,.pv (.int .i64 x_1.1))] [(1,.cells 191 (kz G)),(2,.mix 30 [.pv (.str S.rels[k].1),.pv (ak S.rels[k].2)])] 3)
   (I:=fun x_1=>x_1.1<=S.rels[k].2.length/\∀ b:Nat,x_1.2.getLsbD b=decide ((b:Int)∈S.rels[k].2.take x_1.1)) (μ:=fun x_1=>S.rels[k].2.length-x_1.1) (x0:=(0,0#64)) (Io (aS O) (aO O) O O) (⟨eF _,fun b=>by simp⟩) ?_
  rintro ⟨q,all⟩ ⟨hq,hall⟩;try simp only at hq hall ⊢
  refine Z1 O O ?_;refine Gp O O (fun hc26=>?_) (fun hc26=>?_)
  ·have hql:q<S.rels[k].2.length:=OC;have hv:=cE hql;have hne2:=aH hql;have hrq:=hrng _ (aJ hql);obtain ⟨i,hi⟩:=rK hrq.1;have hof:FnP Tryz.prog 132 [.int .i64 S.rels[k].2[q]] (· =bz (BitVec.twoPow 64 i)):=by rw [hi];exact fi i OC
   refine Il<|Z1 O O ?_;first | refine A2 O OF ?_ | refine A1 O ?_
   exact A1 O<|Z2 O O O<|Rs 31 O O (ae call132 hof O)<|Rs 32 O O (kW O O)<|A1 O<|Z2 O O O<|⟨(q+1,all|||BitVec.twoPow 64 i),Io (aS O) (aO O) O O,⟨OI,fun b=>by simp only;rw [Lj,hall,LG,BY,Jy,BX,BX,gS hql hi,cH,BX,BX];exact or_congr Iff.rfl ⟨fun h=>h.2.symm,fun h=>⟨OC,h.symm⟩⟩⟩,OI⟩
  ·rw [bk OC] at hall;refine Gx O<|Z4 O O O O O ?_;refine Gl O (st:=fun x_2:Nat×List B64=>mkS [(3,.osl 1 1 S.attrs.length),(6,.pv (bz all)),(16,.pv (.sl none S.rels.length (bj S.rels))),(17,.pv (.int .i64 S.rels.length)),(18,.pv (.int .i64 k)),(35,.pv (ak S.rels[k].2)),(36,.pv (.int .i64 S.rels[k].2.length)),(37,.pv (.int .i64 x_2.1))] [(1,.cells 191 (kz x_2.2))] 3)
    (I:=fun x_2=>x_2.1<=S.rels[k].2.length/\yV S.attrs.length x_2.2 (fun a b=>decide (a≠b)&&(ou (S.rels.take k) a b||(decide ((a:Int)∈S.rels[k].2.take x_2.1)&&decide ((b:Int)∈S.rels[k].2))))) (μ:=fun x_2=>S.rels[k].2.length-x_2.1) (x0:=(0,G)) (Io (aS O) (aO O) O O) (⟨eF _,hG.congr (fun a _ b=>by simp)⟩) ?_
   rintro ⟨q2,G2⟩ ⟨hq2,hG2⟩;try simp only at hq2 hG2 ⊢
   refine Z1 O O ?_;refine Gp O O (fun hc38=>?_) (fun hc38=>?_)
   ·have hql:q2<S.rels[k].2.length:=OC;have hv:=cE hql;have hne2:=aH hql;have hrq:=hrng _ (aJ hql);obtain ⟨i,hi⟩:=rK hrq.1;have hil:i<G2.length:=by rw [hG2.1];omega
    have hgl:=hG2.1;have hvi:=fJ hil;have hof:FnP Tryz.prog 132 [.int .i64 S.rels[k].2[q2]] (· =bz (BitVec.twoPow 64 i)):=by rw [hi];exact fi i OC
    refine Il<|Z1 O O ?_;first | refine A2 O OF ?_ | refine A1 O ?_
    refine A1 O<|Ge O follows [0,1,2,3,4,5,6,7,8,9,10] OD ?_;iterate 2 refine D1 O O ?_
    refine Ds 43 [_] O O O (fun τ h=>aa i underlying186 BC (Ee h 0 O O) (Eo h 0 O O) (Ee h 1 O O) hi OC) O OD<|Ds 44 [_] O O O (fun τ h=>aC ⟨_,underlying191,O⟩ (Ee h 0 O O) (Eo h 0 O O) hvi) O OD ?_;iterate 2 refine D1 O O ?_
    refine Ds 47 [] O O O (fun τ h=>ae call132 hof (h.bt O)) O OD<|Ds 48 [] O O O (fun τ h=>tm (Ee h 0 O O) (Ee h 1 O O)) O OD<|Ds 49 [] O O O (fun τ h=>kW (Ee h 0 O O) (Ee h 1 O O)) O OD<|Ds 50 [_] O O O (fun τ h=>aa i underlying186 BC (Ee h 0 O O) (Eo h 0 O O) (Ee h 1 O O) hi OC) O OD<|DL.step (d:=none) [_] O O O (fun τ h=>aF BC (Ee h 0 O O) (Eo h 0 O O) (Ee h 1 O O) O OH) O OD ?_;refine ⟨OD,?_⟩;exact Z2 O O O<|⟨(q2+1,G2.set i (G2[i]|||(all&&& ~~~(BitVec.twoPow 64 i)))),Io (aS O) ⟨by show some (Ob.cells _ _)=_;simp [Kx],OK⟩ O O,⟨OI,(hG2.or OC _).congr (fun a _ b=>B5 hql hi hall)⟩,OI⟩
   ·have hG3:=hG2.congr (q:=fun a b=>decide (a≠b)&&ou (S.rels.take (k+1)) a b) (fun a _ b=>by rw [show S.rels[k].2.take q2=S.rels[k].2 from bk OC,wO hlt]);exact Gx O<|Z2 O O O<|⟨(k+1,G2),Io (aS O) (aO O) O O,⟨OI,hG3⟩,OI⟩
 ·rw [bk OC] at hG;exact Gx O<|Im (Ir 1 O O)<|Z2 O O O<|Im (St.uQ [2])<|Gt O<|⟨_,_,O,O,G,by show PV.sl none S.attrs.length (kz G)=_;rw [<-hG.1],hG.1,fun a ha b=>by rw [hG.2 a (by rw [<-hG.1];exact ha) b];rfl⟩
theorem ir {G:List B64} {next:B64} {k c:Nat} {near:B64} (h:near.getLsbD c=(List.range k).any fun b=>next.getLsbD b&&(G.getD b 0#64).getLsbD c) (hk:k<G.length):
  (next.getLsbD k=true->(near|||G[k]).getLsbD c=(List.range (k+1)).any fun b=>next.getLsbD b&&(G.getD b 0#64).getLsbD c)/\
  (next.getLsbD k=false->near.getLsbD c=(List.range (k+1)).any fun b=>next.getLsbD b&&(G.getD b 0#64).getLsbD c):=by
 rw [LF,List.any_append,<-h,Lj];simp only [List.any_cons,List.any_nil,J9,getD_eq hk];exact ⟨fun e=>by rw [e];simp,fun e=>by rw [e];simp⟩
theorem pj (G:List B64) (hG:G.length<=12) (rest:B64) (a:Nat) (ha:a<64):FnP Tryz.prog 131 [bS G,bz rest,.int .i64 a] (· =bz (compB G rest a)):=by
 refine FnP.of func131 O ntmps131 OG fun m0 w0 F R0=>?_
 refine Z1 O O<|Z1 O O<|Rs 13 O O (ae call132 (fi a ha) O)<|A1 O<|Z2 O O O ?_;refine Gl O (st:=fun x_0:B64×B64=>mkS [(0,.pv (bS G)),(1,.pv (bz rest)),(7,.pv (bz x_0.1)),(8,.pv (bz x_0.2))] [] 0)
  (I:=fun x_0=>CInv G rest a x_0.1 x_0.2) (μ:=fun x_0=>Cv x_0.1 x_0.2) (x0:=(BitVec.twoPow 64 a,BitVec.twoPow 64 a)) (Io (aS O) trivial O O) (CInv.first ha) ?_
 rintro ⟨out,next⟩ hI;try simp only at hI ⊢
 refine Z1 O O<|Rs 16 O O (nA (Y:=0#64) O O) ?_;refine Gp O O (fun hc16=>?_) (fun hc16=>?_)
 ·refine Il<|Z1 O O<|Z3 O O O O ?_;refine Gl O (st:=fun x_1:Nat×B64=>mkS [(0,.pv (bS G)),(1,.pv (bz rest)),(7,.pv (bz out)),(8,.pv (bz next)),(9,.pv (bz x_1.2)),(17,.pv (bS G)),(18,.pv (.int .i64 G.length)),(19,.pv (.int .i64 x_1.1))] [] 0)
   (I:=fun x_1=>x_1.1<=G.length/\∀ c,x_1.2.getLsbD c=(List.range x_1.1).any fun b=>next.getLsbD b&&(G.getD b 0#64).getLsbD c) (μ:=fun x_1=>G.length-x_1.1) (x0:=(0,0#64)) (Io (aS O) trivial O O) (⟨eF _,fun c=>by simp⟩) ?_
  rintro ⟨k,near⟩ ⟨hk,hnear⟩;try simp only at hk hnear ⊢
  refine Z1 O O ?_;refine Gp O O (fun hc20=>?_) (fun hc20=>?_)
  ·have hlt:k<G.length:=OC;have hv:=fJ hlt;have hne:=gN hlt;refine Il<|Z2 O O O ?_;first | refine A2 O OF ?_ | refine A1 O ?_
   refine Y2 O O<|Z2 O O O<|Rs 26 O O (ae call130 (lr next k OC) O) ?_;refine Gc O O (fun hc26=>?_) (fun hc26=>?_)
   ·exact Z2 O O O<|Rs 29 O O (kW O O)<|A1 O<|Z2 O O O<|⟨(k+1,near|||G[k]),Io (aS O) trivial O O,⟨OI,fun c=>(ir (hnear c) hlt).1 hc26⟩,OI⟩
   ·exact Il<|Z2 O O O<|⟨(k+1,near),Io (aS O) trivial O O,⟨OI,fun c=>(ir (hnear c) hlt).2 hc26⟩,OI⟩
  ·have hkG:k=G.length:=OC;rw [hkG] at hnear;exact Gx O<|Z2 O O O<|Rs 33 O O (nK O O)<|A1 O<|Rs 35 O O (tm O O)<|A1 O<|Z2 O O O<|Rs 38 O O (kW O O)<|A1 O<|⟨(out|||(near&&&rest&&& ~~~out),near&&&rest&&& ~~~out),Io (aS O) trivial O O,hI.next hnear,ET hc16⟩
 ·have hz:next=0#64:=CP hc16;subst hz;exact Gx O<|Z2 O O O<|Gt O<|⟨_,_,O,O,af (fun x=>bz x) hI.last⟩
theorem gU (G:List B64) (rest:B64):∀ k,(compsN G rest k).1.length<=k
 | 0=>qT _
 | k+1=>by
   have:=gU G rest k;simp only [compsN];split
   ·simp;omega
   ·omega
theorem AY (L:List B64) (x:B64):kz (L++[x])=kz L++[bz x]:=OG
theorem lO (G:List B64) (hG:G.length<=12) (rest:B64):FnP Tryz.prog 182 [bS G,bz rest] (· =bS (compsN G rest G.length).1):=by
 refine FnP.of func182 O ntmps182 OG fun m0 w0 F R0=>?_
 refine Z1 O O<|Z1 O O<|Im (Iu 5 0 1 191 O O)<|Z3 O O O O ?_;refine Gl O (st:=fun x_0:Nat×List B64×B64=>mkS [(0,.pv (bS G)),(1,.pv (bz x_0.2.2)),(5,.gsl 0 1 x_0.2.1.length),(9,.pv (.int .i64 G.length)),(10,.pv (.int .i64 x_0.1))] [(0,.gro 191 (kz x_0.2.1))] 1)
  (I:=fun x_0=>x_0.1<=G.length/\compsN G rest x_0.1=(x_0.2.1,x_0.2.2)) (μ:=fun x_0=>G.length-x_0.1) (x0:=(0,[],rest)) (Io (aS O) (aO O) O O) (⟨eF _,O⟩) ?_
 rintro ⟨k,L,R⟩ ⟨hk,hc⟩;try simp only at hk hc ⊢
 refine Z1 O O ?_;refine Gp O O (fun hc11=>?_) (fun hc11=>?_)
 ·have hlt:k<G.length:=OC;have hsl:(kz L).length=L.length*1:=OG;have hLl:L.length<=k:=by have:=gU G rest k;rw [hc] at this;exact this
  have hn:compsN G rest (k+1)=if R.getLsbD k=true then (L++[compB G R k],R&&& ~~~compB G R k) else (L,R):=by simp only [compsN,hc]
  refine Il<|Z2 O O O<|Z2 O O O<|Rs 15 O O (ae call130 (lr R k OC) O) ?_;refine Gc O O (fun hc15=>?_) (fun hc15=>?_)
  ·rw [og hc15] at hn;refine Z3 O O O O<|Rs 19 O O (ae call131 (pj G hG R k OC) O)<|A1 O<|Gr O ?_;iterate 5 refine A1 O ?_
   exact Z2 O O O<|Rs 26 O O (tm O O)<|A1 O<|Z2 O O O<|⟨(k+1,L++[compB G R k],R&&& ~~~compB G R k),Ip [2] ⟨O,O,by simp;rfl,O,O,OK⟩ ⟨af (fun c=>some (Ob.gro 191 c)) (AY L _).symm,OK⟩ O O OE O,⟨OI,hn⟩,OI⟩
  ·rw [ga (by rw [hc15];decide)] at hn;exact Il<|Z2 O O O<|⟨(k+1,L,R),Io (aS O) (aO O) O O,⟨OI,hn⟩,OI⟩
 ·exact Gx O<|Im (Ir 0 O O)<|Z2 O O O<|Gt O<|⟨_,_,O,O,by rw [show G.length=k by omega,hc];simp;rfl⟩
end
section
open Mk
section
variable {C:Ctx} {n:Nat} {σ τ:St} {ops:Array Oper} {dst:Option Tmp} {ty:TypeId} {ts:Array TypeId} {pos:String} {after:Array Edge} {gd:Option (Nat×Bool)}
theorem Agr.e9 {s:OS} {rd:List Nat} {y:Operand} {xs:Array Operand} (h:Agr n ops ⟨dst,.call { callee:= .value y,args:=xs,argTypes:=ts },ty,pos,after,gd⟩ σ τ s rd):xs.toList.map (τ.ev n)=xs.toList.map (σ.ev n):=by
 apply Cz;intro x hx;obtain ⟨i,hi⟩:=Kc hx;exact h.e (i+1) x (by simpa [Op.operands,Call.operands,LL] using hi)
theorem bJ {f:FuncId} {xs:Array Operand} {y:Operand} {fs cs:List V} {args:List V} {os:List (Nat×Ob)} {k':Nat} {r:V} {X:Nat->Option Ob} {vs:List V} (ids:List Nat) (base:Nat) (hc:bN C.P f) (hf:FnO C.P f ids.length k' args os (fun v ob'=>v=r/\ob'=X)) (hy:σ.ev n y= .fn (.func f) fs cs) (hxs:xs.toList.map (σ.ev n)=vs) (hargs:fs++vs++cs=V.renL (cm ids base) args)
  (ha:V.allL (okR ids.length 0) args=true) (hos:os.map (·.1)=(List.range ids.length).map (big+ ·)) (hob:os.all (fun p=>p.2.all (okR ids.length 0))=true) (hobs:dD σ (cm ids base) os)
  (hnd:ids.Nodup) (hav:(nwO base k').all σ.av=true):
  XJ C n ⟨dst,.call { callee:= .value y,args:=xs,argTypes:=ts },ty,pos,after,gd⟩ σ ⟨r.ren (cm ids base),wrO ids base k' X,nwO base k'⟩:=
 pf ids base hc hy (by rw [hxs];exact hargs) ha hos hob hobs hnd hav hf (by rintro _ _ ⟨rfl,rfl⟩;rfl)
end
def dd (q:List Int) (W:B64->Int->List Int->List Int) (par:Int) (P:List Int) (c:B64):List Int:=
 match q.find? (fun a=>c.getLsbD a.toNat) with
 | some a=>W (c&&& ~~~(BitVec.twoPow 64 a.toNat)) a (P.set a.toNat par)
 | none=>P
noncomputable def placeF (G:List B64) (q:List Int):Nat->B64->Int->List Int->List Int
 | 0,_,_,P=>P
 | f+1,rest,par,P=>(compsN G rest G.length).1.foldl (dd q (placeF G q f) par) P
abbrev plF (G:List B64) (q:List Int):V:= .fn (.func 255) [] [.pv (.rp [bS G] 0),.pv (.rp [ak q] 0),.ptr big 0,.ptr 9001 0]
abbrev plA (G:List B64) (q:List Int) (rest:B64) (par:Int):List V:=[.pv (bz rest),.pv (.int .i64 par),.pv (.rp [bS G] 0),.pv (.rp [ak q] 0),.ptr big 0,.ptr 9001 0]
abbrev plO (G:List B64) (q:List Int) (P:List Int):List (Nat×Ob):=[(big,.mix 271 [.osl 9002 1 G.length]),(9001,.mix 295 [plF G q]),(9002,EW P)]
theorem z6 {q:List Int} {p:Int->Bool} {k:Nat} (hk:k<q.length) (hno:q.take k |>.all (fun a=> !p a)) (h:p q[k]=true):q.find? p=some q[k]:=by
 rw [List.find?_eq_some_iff_append];refine ⟨h,q.take k,q.drop (k+1),?_,fun a ha=>nP.1 hno a ha⟩
 conv=>lhs;rw [<-zj k q]
 rw [C0 hk]
theorem lZ (G:List B64) (hG:G.length<=12) (q:List Int) (hq:∀ a∈q,0<=a/\a<G.length) (hql:q.length<=1000) (W:B64->Int->List Int->List Int) (hWl:∀ r p P,(W r p P).length=P.length) (rest:B64) (par:Int)
  (hrec:∀ c∈(compsN G rest G.length).1,∀ (a:Nat) (P:List Int),a<G.length->c.getLsbD a=true->P.length=G.length->FnO Tryz.prog 255 3 0 (plA G q (c&&& ~~~(BitVec.twoPow 64 a)) a) (plO G q P) (fun r ob'=>r= .tup []/\ob'=ar (plO G q (W (c&&& ~~~(BitVec.twoPow 64 a)) a P))))
  (P:List Int) (hP:P.length=G.length):
  FnO Tryz.prog 255 3 0 (plA G q rest par) (plO G q P) (fun r ob'=>r= .tup []/\ob'=ar (plO G q ((compsN G rest G.length).1.foldl (dd q W par) P))):=by
 refine FnO.of func255 O ntmps255 OG fun m0 w0 F R0=>?_
 have hcl:=gU G rest G.length;have hlen:∀ (Q:List Int) c,(dd q W par Q c).length=Q.length:=by
  intro Q c;unfold dd;split
  ·rw [hWl];simp
  ·rfl
 refine Gr O ?_;first | refine A1 O ?_ | refine A2 O OF ?_
 refine A1 O<|Rs 14 O O (ae call182 (lO G hG rest) O)<|Y2 O O ?_;refine Gl O (st:=fun x_0:Nat×List Int=>mkS [(1,.pv (.int .i64 par)),(3,.pv (.rp [ak q] 0)),(4,.ptr big 0),(5,.ptr 9001 0),(14,.pv (bS (compsN G rest G.length).1)),(15,.pv (.int .i64 (compsN G rest G.length).1.length)),(16,.pv (.int .i64 x_0.1))] [(big,.mix 271 [.osl 9002 1 G.length]),(9001,.mix 295 [plF G q]),(9002,EW x_0.2)] 0)
  (I:=fun x_0=>x_0.1<=(compsN G rest G.length).1.length/\x_0.2.length=P.length/\x_0.2=((compsN G rest G.length).1.take x_0.1).foldl (dd q W par) P) (μ:=fun x_0=>(compsN G rest G.length).1.length-x_0.1) (x0:=(0,P)) (Io (aS O) (aO O) O O) (⟨eF _,O,O⟩) ?_
 rintro ⟨k,Q⟩ ⟨hk,hQl,hQ⟩;try simp only at hk hQl hQ ⊢
 refine Z1 O O ?_;refine Gp O O (fun hc17=>?_) (fun hc17=>?_)
 ·have hlt:k<(compsN G rest G.length).1.length:=OC;have hv:=fJ hlt;have hne:=gN hlt;have hcm:=aJ hlt;have hfs:((compsN G rest G.length).1.take (k+1)).foldl (dd q W par) P=dd q W par Q (compsN G rest G.length).1[k]:=by rw [bT hlt,J0,<-hQ];rfl
  generalize hcd:(compsN G rest G.length).1[k]=c at*;refine Il<|Z1 O O ?_;first | refine A2 O OF ?_ | refine A1 O ?_
  refine A1 O<|Gr O ?_;first | refine A1 O ?_ | refine A2 O OF ?_
  refine Y2 O O ?_;refine Gl O (st:=fun x_1:Nat=>mkS [(1,.pv (.int .i64 par)),(3,.pv (.rp [ak q] 0)),(4,.ptr big 0),(5,.ptr 9001 0),(9,.pv (bz c)),(14,.pv (bS (compsN G rest G.length).1)),(15,.pv (.int .i64 (compsN G rest G.length).1.length)),(16,.pv (.int .i64 k)),(20,.pv (ak q)),(21,.pv (.int .i64 q.length)),(22,.pv (.int .i64 x_1))] [(big,.mix 271 [.osl 9002 1 G.length]),(9001,.mix 295 [plF G q]),(9002,EW Q)] 0)
   (I:=fun x_1=>x_1<=q.length/\(q.take x_1).all (fun a=> !c.getLsbD a.toNat)=true) (μ:=fun x_1=>q.length-x_1) (x0:=(0)) (Io (aS O) (aO O) O O) (⟨eF _,O⟩) ?_
  rintro j ⟨hj,hno⟩;refine Z1 O O ?_;refine Gp O O (fun hc23=>?_) (fun hc23=>?_)
  ·have hjl:j<q.length:=OC;have hvj:=cE hjl;have hnej:=aH hjl;have hqj:=hq _ (aJ hjl);obtain ⟨a,ha⟩:=rK hqj.1;have hat:q[j].toNat=a:=OC;have hhas:FnP Tryz.prog 130 [bz c,.int .i64 q[j]] (· = .bool (c.getLsbD a)):=by rw [ha];exact lr c a OC
   have hof:FnP Tryz.prog 132 [.int .i64 q[j]] (· =bz (BitVec.twoPow 64 a)):=by rw [ha];exact fi a OC
   refine Il<|Z1 O O ?_;first | refine A2 O OF ?_ | refine A1 O ?_
   refine A1 O<|Z2 O O O<|Rs 28 O O (ae call130 hhas O) ?_;refine Gc O O (fun hc28=>?_) (fun hc28=>?_)
   ·have hgo:=hrec c hcm a (Q.set a par) OC hc28 OH;have hpl:dd q W par Q c=W (c&&& ~~~(BitVec.twoPow 64 a)) a (Q.set a par):=by unfold dd;rw [z6 hjl hno (by rw [hat];exact hc28)];simp only [hat,ha,yR]
    have hlW:(W (c&&& ~~~(BitVec.twoPow 64 a)) a (Q.set a par)).length=P.length:=by rw [hWl];simp;omega
    have hset:aE (Q.set a par)=(aE Q).set (a*1) (.int .i64 par):=by simp [Kx]
    refine Z1 O O ?_;first | refine A1 O ?_ | refine A2 O OF ?_
    refine Y2 O O<|Rs 33 O O (aa a underlying22 sz3 O O O ha OC)<|RL.step (d:=none) O O (aF sz3 O O O O OH)<|Ge O follows [0,1,2,3,4,5,6] OD ?_;first | refine D1 O O ?_ | refine D2 O O OF ?_
    iterate 2 refine D1 O O ?_
    refine Ds 37 [] O O O (fun τ h=>ae call132 hof (h.bt O)) O OD<|Ds 38 [] O O O (fun τ h=>tm (Ee h 0 O O) (Ee h 1 O O)) O OD<|D1 O O<|Ds 40 [big,9001,9002] O O O (fun τ h=>bJ [big,9001,9002] 0 call255 hgo (Ee h 0 O O) (h.e9.trans O) (by rw [<-ha];rfl) O O O ⟨(Eo h 0 O O),(Eo h 1 O O),((h.o 2 _ O).trans (af (fun c=>some (Ob.cells 3 c)) hset.symm)),OK⟩ OE O) O OD ?_;refine ⟨OD,?_⟩;exact Gx O<|Z2 O O O<|⟨(k+1,W (c&&& ~~~(BitVec.twoPow 64 a)) a (Q.set a par)),Io (aS O) (aO O) O O,⟨OI,hlW,by simp only;rw [hfs,hpl]⟩,OI⟩
   ·exact Il<|Z2 O O O<|⟨(j+1),Io (aS O) (aO O) O O,⟨OC,BE hjl hno (by rw [hat,hc28];rfl)⟩,OC⟩
  ·have hnone:q.find? (fun a=>c.getLsbD a.toNat)=none:=by rw [bk OC] at hno;rw [List.find?_eq_none];intro x hx;have:=nP.1 hno x hx;simpa using this
   have hpl:dd q W par Q c=Q:=by unfold dd;rw [hnone]
   exact Gx O<|Z2 O O O<|⟨(k+1,Q),Io (aS O) (aO O) O O,⟨OI,hQl,by simp only;rw [hfs,hpl]⟩,OI⟩
 ·exact Gx O<|⟨[],plO G q ((compsN G rest G.length).1.foldl (dd q W par) P),[],Io trivial (by rw [bk OC] at hQ;rw [<-hQ];exact ⟨OD,OD,OD,OK⟩) O O,O,O,O,O,O⟩
theorem kr {G:List B64} {R:B64} {a i:Nat} (ha:R.getLsbD a=true) (h:(compB G R a).getLsbD i=true):R.getLsbD i=true:=by
 cases dG h with
 | refl=>exact ha
 | step _ _ h=>exact h
theorem ky (G:List B64) (rest:B64):∀ k,(∀ i,(compsN G rest k).2.getLsbD i=true->rest.getLsbD i=true)/\∀ c∈(compsN G rest k).1,∀ i,c.getLsbD i=true->rest.getLsbD i=true
 | 0=>⟨fun _ h=>h,fun c hc=>by simp [compsN] at hc⟩
 | k+1=>by
   obtain ⟨h1,h2⟩:=ky G rest k;simp only [compsN];split
   ·rename_i hk;refine ⟨fun i hi=>?_,fun c hc i hi=>?_⟩
    ·rw [Ky,cH] at hi;exact h1 i hi.1
    ·rcases my.1 hc with h | h
     ·exact h2 c h i hi
     ·rw [fe.1 h] at hi;exact h1 i (kr hk hi)
   ·exact ⟨h1,h2⟩
def cC (x:B64):Nat:=(List.range 64).countP fun i=>x.getLsbD i
theorem pb {x y:B64} (h:∀ i,x.getLsbD i=true->y.getLsbD i=true) {j:Nat} (h1:x.getLsbD j=false) (h2:y.getLsbD j=true):cC x<cC y:=
 lx (fun a _ ha=>h a ha) ⟨j,Hq.2 (cq h2),h1,h2⟩
theorem bA (c:B64) (a i:Nat):(c&&& ~~~(BitVec.twoPow 64 a)).getLsbD i=(c.getLsbD i&&decide (a≠i)):=by
 rw [Ky,BitVec.getLsbD_not,LG];by_cases hi:i<64
 ·by_cases e:a=i
  ·subst e;simp [hi]
  ·simp [hi,e]
 ·rw [BitVec.getLsbD_of_ge c i OC];rfl
theorem tO {G:List B64} {rest c:B64} {k a:Nat} (hc:c∈(compsN G rest k).1) (ha:c.getLsbD a=true):cC (c&&& ~~~(BitVec.twoPow 64 a))<cC rest:=by
 have hs:=(ky G rest k).2 c hc;refine pb (fun i hi=>?_) (j:=a) ?_ (hs a ha)
 ·rw [bA,cH] at hi;exact hs i hi.1
 ·rw [bA];simp
theorem oh {x:B64} (h:cC x=0) (i:Nat):x.getLsbD i=false:=by
 cases e:x.getLsbD i with
 | false=>rfl
 | true=>
   have:=List.countP_eq_zero.1 h i (Hq.2 (cq e));exact absurd e this
theorem mN (G:List B64) {rest:B64} (h:∀ i,rest.getLsbD i=false):∀ k,compsN G rest k=([],rest)
 | 0=>rfl
 | k+1=>by simp only [compsN,mN G h k,h k];simp
theorem iv (G:List B64) (q:List Int):∀ (f:Nat) (rest:B64) (par:Int) (P:List Int),(placeF G q f rest par P).length=P.length
 | 0,_,_,_=>rfl
 | f+1,rest,par,P=>by
   simp only [placeF];generalize (compsN G rest G.length).1=cs;induction cs generalizing P with
   | nil=>rfl
   | cons c cs ih=>
     rw [FE,ih];unfold dd;split
     ·rw [iv G q f];simp
     ·rfl
theorem rf (G:List B64) (hG:G.length<=12) (q:List Int) (hq:∀ a∈q,0<=a/\a<G.length) (hql:q.length<=1000):∀ (f:Nat) (rest:B64) (par:Int) (P:List Int),cC rest<=f->P.length=G.length->
  FnO Tryz.prog 255 3 0 (plA G q rest par) (plO G q P) (fun r ob'=>r= .tup []/\ob'=ar (plO G q (placeF G q f rest par P)))
 | 0,rest,par,P,hf,hP=>by
   have hz:=mN G (oh (Nat.le_zero.1 hf)) G.length;have:=lZ G hG q hq hql (fun _ _ P=>P) (fun _ _ _=>rfl) rest par (by rw [hz];intro c hc;cases hc) P hP;rw [hz] at this;exact this
 | f+1,rest,par,P,hf,hP=>lZ G hG q hq hql (placeF G q f) (iv G q f) rest par (fun c hc a P' ha hca hP'=>rf G hG q hq hql f _ _ P' (by have:=tO hc hca;omega) hP') P hP
theorem jk (x:B64):cC x<=64:=uv List.countP_le_length OG
noncomputable def ofL (G:List B64) (q:List Int):List Int:=placeF G q 64 (gI G.length) (-1) (List.replicate G.length 0)
theorem Bf (G:List B64) (q:List Int):(ofL G q).length=G.length:=by unfold ofL;rw [iv];simp
theorem yn (S:Sch) (hS:SB S) (hV:Valid S) (q:List Int) (hq:∀ a∈q,0<=a/\a<S.attrs.length) (hql:q.length<=1000):FnP Tryz.prog 226 [gK S,ak q] (fun v=>∃ G,IsG S G/\v=Fe (ofL G q)):=by
 refine FnP.fg2 (FnP.ofC func226 O ntmps226 OG fun m0 w0 F R0=>?_);have hn12:=hV.n2;refine Z3 O O O O<|Z1 O O ?_;refine RL.call O (dE call127 (iE S hS hV) O ?_);rintro _ ⟨G,rfl,hG⟩;have hGl:=hG.len;refine Y2 O O<|Gr O ?_;iterate 6 refine A1 O ?_
 refine Z1 O O<|Im (St.fS 1 O O)<|Im (St.fS 3 O O) ?_;have hgo:=rf G OC q (by rw [hGl];exact hq) hql 64 (gI G.length) (-1) (List.replicate G.length 0) (jk _) OG;refine Z2 O O O<|Ge O follows [0,1,2,3] OD ?_;iterate 2 refine D1 O O ?_
 refine Ds 17 [] O O O (fun τ h=>ae call128 (qh G OC) (h.bt O)) O OD<|Ds 18 [5,6,4] O O O (fun τ h=>bJ [5,6,4] 7 call255 hgo (Ee h 0 O O) (h.e9.trans O) O O O O ⟨(Eo h 0 O O),(Eo h 1 O O),((h.o 2 _ O).trans (af (fun c=>some (Ob.cells 3 c)) ((ct (.int .i64 0) (G.length*1)).trans OG))),OK⟩ OE O) O OD ?_;refine ⟨OD,?_⟩;exact Z2 O O O<|Gt O<|⟨_,_,O,O,⟨aY ⟨_,underlying271,O⟩ sz271 O O O,OK⟩,G,hG,by show PV.agg [.sl none G.length (aE (ofL G q))]=_;rw [Fe,ak,Bf]⟩
end
section
open Mk
noncomputable def gr (S:Sch):List B64:=(List.range S.attrs.length).map fun a=>bitsOf fun b=>decide (a≠b)&&eS S a b
theorem fR (S:Sch):(gr S).length=S.attrs.length:=by simp [gr]
theorem ow {S:Sch} (hV:Valid S) {a b:Int} (h:eS S a b=true):(0<=a/\a<S.attrs.length)/\(0<=b/\b<S.attrs.length):=by
 unfold eS at h;obtain ⟨r,hr,h2⟩:=IF.1 h;simp at h2;exact ⟨hV.rng r hr a h2.1,hV.rng r hr b h2.2⟩
theorem pC {S:Sch} (hV:Valid S) {a:Nat} (ha:a<S.attrs.length) (b:Nat):((gr S).getD a 0#64).getLsbD b=(decide (a≠b)&&eS S a b):=by
 have e:(gr S).getD a 0#64=bitsOf fun b=>decide (a≠b)&&eS S a b:=by simp [gr,List.getD,ha]
 rw [e];by_cases hb:b<64
 ·rw [fN _ hb]
 ·rw [BitVec.getLsbD_of_ge _ _ OC];cases hl:eS S a b with
  | false=>simp
  | true=>have:=(ow hV hl).2;have:=hV.n2;omega
theorem uw {S:Sch} (hV:Valid S) {G:List B64} (h:IsG S G):G=gr S:=by
 apply H2
 ·rw [h.len,fR]
 ·intro a h1 h2;apply Ku;intro b _;have e1:=h.bit a h1 b;have e2:=pC hV (a:=a) (by rw [<-h.len];exact h1) b;rw [getD_eq h1] at e1;rw [getD_eq h2] at e2;rw [e1,e2]
noncomputable def ordL (S:Sch) (q:List Int):List Int:=ofL (gr S) q
theorem Gu (S:Sch) (hS:SB S) (hV:Valid S) (q:List Int) (hq:∀ a∈q,0<=a/\a<S.attrs.length) (hql:q.length<=1000):FnP Tryz.prog 226 [gK S,ak q] (· =Fe (ordL S q)):=
 (yn S hS hV q hq hql).mono fun v ⟨G,hG,e⟩=>by rw [e,uw hV hG];rfl
def dupB (q:List Int):Nat->Bool
 | 0=>false
 | k+1=>dupB q k||decide (q.getD k 0∈q.take k)
def ofE (S:Sch) (q:List Int):Int:=
 if cI S≠0 then cI S
 else if q.length≠S.attrs.length then 5
 else if (q.any fun a=>decide (a<0)||decide (a>=(q.length:Int)))=true then 2
 else if dupB q q.length=true then 9 else 0
noncomputable def ofV (S:Sch) (q:List Int):PV:= .tup [Fe (if ofE S q=0 then ordL S q else []),.int .i64 (ofE S q)]
end
section
theorem cu {α:Type} [DecidableEq α] {l r:List α} (hl:l.Nodup) (hr:r.Nodup) (h:∀ a,a∈l↔a∈r):l.Perm r:=by
 rw [List.perm_iff_count];intro a;rw [hl.count,hr.count];by_cases e:a∈l
 ·rw [og e,og ((h a).1 e)]
 ·rw [ga e,ga (fun x=>e ((h a).2 x))]
theorem bx {n:Nat} {x:Int}:x∈upZ n↔∃ a:Nat,a<n/\x=(a:Int):=by
 unfold upZ;rw [uF];constructor
 ·rintro ⟨a,ha,rfl⟩;exact ⟨a,Hq.1 ha,O⟩
 ·rintro ⟨a,ha,rfl⟩;exact ⟨a,Hq.2 ha,O⟩
theorem cJ (n:Nat):(upZ n).Nodup:=by
 unfold upZ;exact List.Pairwise.map _ (fun a b h e=>h (Int.ofNat.inj e)) List.nodup_range
theorem Hj (n:Nat):(upZ n).Pairwise (· < ·):=by
 unfold upZ;exact List.Pairwise.map _ (fun a b h=>by simpa using h) List.pairwise_lt_range
structure UpOk (P:List Int):Prop where
 rng:∀ p∈P, -1<=p/\p<P.length
 up:∀ v,v<P.length->(abv P (v:Int)).isSome=true
theorem uG {P:List Int}:∀ {k:Nat} {x:Int} {l:List Int},upF P k x=some l->upF P (k+1) x=some l
 | 0,x,l,h=>by
   simp only [upF] at h ⊢;split at h
   ·rename_i hx;rw [og hx];exact h
   ·cases h
 | k+1,x,l,h=>by
   simp only [upF] at h;unfold upF;split at h
   ·rename_i hx;rw [og hx];exact h
   ·rename_i hx;rw [ga hx];cases e:upF P k (P.getD x.toNat 0) with
    | none=>rw [e] at h;cases h
    | some l'=>
      rw [e] at h;rw [uG e];exact h
section
variable {P:List Int} (hP:UpOk P)
include hP
theorem qE {v:Nat} (hv:v<P.length):P[v]= -1\/∃ a:Nat,a<P.length/\P[v]=(a:Int):=by
 have:=hP.rng _ (aJ hv);by_cases h:P[v]= -1
 ·exact .inl h
 ·obtain ⟨a,ha⟩:=rK (show 0<=P[v] by omega);exact .inr ⟨a,OC,ha⟩
omit hP in
theorem uR {v:Nat} (hv:v<P.length):abv P v=upF P P.length P[v]:=by simp [abv,List.getD,hv]
omit hP in
theorem eJ {v:Nat} (hv:v<P.length) (h:P[v]= -1):bp P v=[]:=by
 unfold bp;rw [uR hv,h,sW OE];rfl
theorem ik {v a:Nat} (hv:v<P.length) (ha:a<P.length) (h:P[v]=(a:Int)):bp P v=(a:Int)::bp P a:=by
 have hs:=hP.up v hv;have e:=uR hv;rw [h] at e;obtain ⟨k,hk⟩:∃ k,P.length=k+1:=⟨P.length-1,OC⟩;rw [hk,ym ha] at e;cases e2:upF P k P[a] with
 | none=>rw [e,e2] at hs;cases hs
 | some l=>
   have e3:abv P a=some l:=by rw [uR ha,hk];exact uG e2
   unfold bp;rw [e,e2,e3];rfl
theorem pt {motive:Nat->Prop} (root:∀ v (hv:v<P.length),P[v]= -1->bp P v=[]->motive v)
  (step:∀ v (hv:v<P.length) a (_:a<P.length),P[v]=(a:Int)->bp P v=(a:Int)::bp P a->motive a->motive v):∀ v,v<P.length->motive v:=by
 have key:∀ m v,v<P.length->(bp P v).length<=m->motive v:=by
  intro m;induction m with
  | zero=>
    intro v hv hl;rcases qE hP hv with h | ⟨a,ha,h⟩
    ·exact root v hv h (eJ hv h)
    ·rw [ik hP hv ha h] at hl;simp at hl
  | succ m ih=>
    intro v hv hl;rcases qE hP hv with h | ⟨a,ha,h⟩
    ·exact root v hv h (eJ hv h)
    ·have e:=ik hP hv ha h;rw [e] at hl;exact step v hv a ha h e (ih a ha (by simpa using hl))
 exact fun v hv=>key _ v hv (qT _)
theorem gE:∀ v,v<P.length->∀ x∈bp P v,∃ a:Nat,a<P.length/\x=(a:Int)/\∃ pre,bp P v=pre++(a:Int)::bp P a:=by
 refine pt hP (fun v hv h e x hx=>?_) (fun v hv a ha h e ih x hx=>?_)
 ·rw [e] at hx;cases hx
 ·rw [e] at hx ⊢;rcases k6.1 hx with rfl | hx
  ·exact ⟨a,ha,O,[],O⟩
  ·obtain ⟨b,hb,rfl,pre,e2⟩:=ih x hx;exact ⟨b,hb,O,(a:Int)::pre,by rw [e2];rfl⟩
theorem ED {v a:Nat} (hv:v<P.length) (h:(a:Int)∈bp P v):a<P.length/\(bp P a).length<(bp P v).length:=by
 obtain ⟨b,hb,e,pre,e2⟩:=gE hP v hv _ h;have:a=b:=OC;subst this;refine ⟨hb,?_⟩;rw [e2];simp;omega
theorem jl {v:Nat} (hv:v<P.length):(v:Int)∉bp P v:=fun h=>Nat.lt_irrefl _ (ED hP hv h).2
theorem fH {a b c:Nat} (hc:c<P.length) (h1:(a:Int)∈bp P b) (h2:(b:Int)∈bp P c):(a:Int)∈bp P c:=by
 obtain ⟨b',hb,e,pre,e2⟩:=gE hP c hc _ h2;have:b=b':=OC;subst this;rw [e2];exact Ll _ (vf _ h1)
theorem fP:∀ v,v<P.length->((v:Int)::bp P v).Nodup:=by
 refine pt hP (fun v hv h e=>by rw [e];simp) (fun v hv a ha h e ih=>?_);rw [K1];refine ⟨jl hP hv,?_⟩;rw [e];exact ih
theorem kB:∀ v,v<P.length->((v:Int)::bp P v).map (fun a=>P.getD a.toNat 0)=bp P v++[-1]:=by
 refine pt hP (fun v hv h e=>?_) (fun v hv a ha h e ih=>?_)
 ·rw [e];simp [List.getD,hv,h]
 ·rw [e,jt,ih];simp [List.getD,hv,h]
theorem gB {v:Nat} (hv:v<P.length) {x:Int} (h:x∈(v:Int)::bp P v):∃ a:Nat,a<P.length/\x=(a:Int):=by
 rcases k6.1 h with rfl | h
 ·exact ⟨v,hv,O⟩
 ·obtain ⟨a,ha,e,_⟩:=gE hP v hv x h;exact ⟨a,ha,e⟩
theorem pG {v:Nat} (hv:v<P.length):(bp P v++[-1]).Nodup:=by
 rw [List.nodup_append];refine ⟨(K1.1 (fP hP v hv)).2,OG,?_⟩;intro a ha b hb;rw [fe.1 hb];obtain ⟨c,_,rfl⟩:=gB hP hv (vf _ ha);omega
omit hP in
theorem yu {α:Type} (p:α->Bool):∀ l:List α,(l.map fun a=>if p a=true then 1 else 0).sum=l.countP p
 | []=>rfl
 | a::l=>by rw [jt,Oi,yu p l,List.countP_cons];omega
theorem jm {v:Nat} (hv:v<P.length):((upZ P.length).filter fun a=>decide (a∈(v:Int)::bp P v)).Perm ((v:Int)::bp P v):=by
 refine cu (IN Jt (cJ _)) (fP hP v hv) fun a=>?_
 rw [wU,BX,bx];exact ⟨fun h=>h.2,fun h=>⟨gB hP hv h,h⟩⟩
theorem iO:∀ (f:Nat) (v:Int),(∀ a (ha:a<P.length),P[a]=v->P.length+1<=(bp P a).length+f)->∀ x,x<P.length->(fy P f v).count (x:Int)=if v∈bp P x++[-1] then 1 else 0:=by
 intro f;induction f with
 | zero=>
   intro v hf x hx;rw [ga]
   ·rfl
   ·intro hm;rw [<-kB hP x hx] at hm;obtain ⟨a,ha,e⟩:=uF.1 hm;obtain ⟨b,hb,rfl⟩:=gB hP hx ha;have h1:=hf b hb (by simpa [List.getD,hb] using e);have:=vg P (b:Int);omega
 | succ f ih=>
   intro v hf x hx;have term:∀ a∈upZ P.length,(List.count (x:Int)∘fun a=>if P.getD a.toNat 0=v then a::fy P f a else []) a=if (decide (P.getD a.toNat 0=v)&&decide (a∈(x:Int)::bp P x))=true then 1 else 0:=by
    intro a ha;obtain ⟨b,hb,rfl⟩:=bx.1 ha;have hgd:P.getD (b:Int).toNat 0=P[b]:=by simp [List.getD,hb]
    simp only [Function.comp,hgd];by_cases e:P[b]=v
    ·rw [og e,List.count_cons,ih (b:Int) ?_ x hx]
     ·simp only [e,decide_true,Oh,AS,k6,my,fe];by_cases e1:b=x
      ·subst e1;rw [ga]
       ·simp
       ·rintro (h | h)
        ·exact jl hP hb h
        ·simp at h
      ·have e2:¬ (b:Int)=x:=OC;have e3:¬ (b:Int)= -1:=OC;have e4:((b:Int)==(x:Int))=false:=by simpa using e2
       simp [e2,e3,e4]
     ·intro c hc hcb;have h1:=hf b hb e;rw [ik hP hc hb hcb];simp;omega
    ·rw [ga e];simp [e]
   unfold fy;rw [List.count_flatMap,Cz term,yu,<-List.countP_filter,(jm hP hx).countP_eq];have e1:List.countP (fun a=>decide (P.getD a.toNat 0=v)) ((x:Int)::bp P x)=List.count v (((x:Int)::bp P x).map fun a=>P.getD a.toNat 0):=by
    rw [List.count,List.countP_map];refine List.countP_congr fun a _=>?_
    simp
   rw [e1,kB hP x hx,(pG hP hx).count]
omit hP in
theorem jN:∀ (f:Nat) (v:Int),∀ x∈fy P f v,∃ a:Nat,a<P.length/\x=(a:Int)
 | 0,v,x,hx=>by simp [fy] at hx
 | f+1,v,x,hx=>by
   simp only [fy] at hx;obtain ⟨a,ha,hx⟩:=AT.1 hx;split at hx
   ·rcases k6.1 hx with rfl | hx
    ·exact bx.1 ha
    ·exact jN f a x hx
   ·cases hx
def aD (P:List Int):List Int:=fy P (P.length+1) (-1)
theorem cf:(aD P).Perm (upZ P.length):=by
 rw [List.perm_iff_count];intro x;rw [(cJ _).count];by_cases h:x∈upZ P.length
 ·rw [og h];obtain ⟨a,ha,rfl⟩:=bx.1 h;unfold aD;rw [iO hP _ _ (fun b hb e=>by omega) a ha,og OG]
 ·rw [ga h,List.count_eq_zero];exact fun hx=>h (bx.2 (jN _ _ x hx))
end
def Bef (P:List Int) (v:Int) (w:List Int):Prop:=∀ pre x post,w=pre++x::post->P.getD x.toNat 0=v\/P.getD x.toNat 0∈pre
theorem Bef.nil {P:List Int} {v:Int}:Bef P v []:=fun pre x post h=>by simp at h
theorem Bef.append {P:List Int} {v:Int} {w1 w2:List Int} (h1:Bef P v w1) (h2:Bef P v w2):Bef P v (w1++w2):=by
 intro pre x post e;rcases List.append_eq_append_iff.1 e with ⟨us,e1,e2⟩ | ⟨bs,e1,e2⟩
 ·rcases h2 us x post e2 with h | h
  ·exact .inl h
  ·right;rw [e1];exact Ll _ h
 ·cases bs with
  | nil=>
    simp at e1 e2;rcases h2 [] x post (by simpa using e2.symm) with h | h
    ·exact .inl h
    ·cases h
  | cons b bs=>
    simp at e2;exact h1 pre x bs (by rw [e1,<-e2.1])
theorem Bef.cons {P:List Int} {v a:Int} {w:List Int} (ha:P.getD a.toNat 0=v) (h:Bef P a w):Bef P v (a::w):=by
 intro pre x post e;cases pre with
 | nil=>simp at e;rw [<-e.1];exact .inl ha
 | cons b pre=>
   simp at e;rcases h pre x post e.2 with h | h
   ·right;rw [h,e.1];exact Kl ..
   ·right;exact vf _ h
theorem Bef.flat {P:List Int} {v:Int} {f:Int->List Int}:∀ {l:List Int},(∀ a∈l,Bef P v (f a))->Bef P v (l.flatMap f)
 | [],_=>Bef.nil
 | a::l,h=>by
   rw [IG];exact (h a (Kl ..)).append (Bef.flat fun b hb=>h b (vf _ hb))
theorem uo (P:List Int):∀ (f:Nat) (v:Int),Bef P v (fy P f v)
 | 0,_=>Bef.nil
 | f+1,v=>by
   unfold fy;refine Bef.flat fun a _=>?_
   split
   ·rename_i h;exact Bef.cons h (uo P f a)
   ·exact Bef.nil
theorem Bi {P:List Int} (hP:UpOk P) {i:Nat} (hi:i<(aD P).length):(aD P)[i]∉(aD P).take i/\(P.getD (aD P)[i].toNat 0= -1\/P.getD (aD P)[i].toNat 0∈(aD P).take i):=by
 have e:aD P=(aD P).take i++(aD P)[i]::(aD P).drop (i+1):=by
  conv=>lhs;rw [<-zj i (aD P)]
  rw [C0 hi]
 refine ⟨?_,uo P _ _ _ _ _ e⟩;have hnd:(aD P).Nodup:=(cf hP).nodup_iff.2 (cJ _);intro hm;obtain ⟨j,hj,e2⟩:=List.mem_take_iff_getElem.1 hm;exact Ja.1 hnd j i OC hi OC e2
theorem BM {l:List Int} {x:Int}:x∈Aw l↔x∈l:=(iY l).mem_iff
theorem r9 {S:Sch} {P:List Int} {v x:Int}:x∈dq S P v↔x∈bp P v/\∃ b∈fk P v,eS S x b=true:=by
 unfold dq H7;rw [BM,wU,IF]
theorem da {P:List Int} {v b:Int}:b∈fk P v↔(∃ a:Nat,a<P.length/\b=(a:Int))/\(b=v\/v∈bp P b):=by
 have e:fk P v=(upZ P.length).filter fun a=>a==v||hiB P v a:=rfl
 rw [e,wU,bx];simp [hiB]
theorem AN {S:Sch} {r:ByteArray×List Int} (hr:r∈S.rels) {a b:Int} (ha:a∈r.2) (hb:b∈r.2):eS S a b=true:=by
 unfold eS;rw [IF];exact ⟨r,hr,by simp [ha,hb]⟩
theorem iU {P l:List Int} (h:mu P l=true) {a b:Int} (ha:a∈l) (hb:b∈l):a=b\/a∈bp P b\/b∈bp P a:=by
 unfold mu at h;have:=nP.1 (nP.1 h a ha) b hb;simp [hiB,or_assoc] at this;exact this
theorem qg {P l:List Int} (hP:UpOk P) (hr:∀ a∈l,0<=a/\a<P.length) (hl:mu P l=true):∀ (k:List Int) (done:List Int) (h:Int),(∀ a∈k,a∈l)->(∀ a∈done,a∈l)->h∈l->(∀ a∈done,a=h\/a∈bp P h)->
  k.foldl (JA P) h∈l/\∀ a,a∈done\/a∈k->a=k.foldl (JA P) h\/a∈bp P (k.foldl (JA P) h)
 | [],done,h,_,_,hh,hd=>⟨hh,fun a ha=>hd a (ha.resolve_right OG)⟩
 | x::k,done,h,hk,hdn,hh,hd=>by
   have hx:=hk x (Kl ..);have nat:∀ {a:Int},a∈l->∃ n:Nat,n<P.length/\a=(n:Int):=fun {a} ha=>by
    obtain ⟨n,hn⟩:=rK (hr a ha).1;have:=(hr a ha).2;exact ⟨n,OC,hn⟩
   have step:JA P h x∈l/\∀ a∈done++[x],a=JA P h x\/a∈bp P (JA P h x):=by
    unfold JA;by_cases e:hiB P h x=true
    ·rw [og e];have e':h∈bp P x:=by simpa [hiB] using e
     refine ⟨hx,fun a ha=>?_⟩;rcases my.1 ha with had | ha
     ·right
      rcases hd a had with rfl | h3
      ·exact e'
      ·obtain ⟨n,_,rfl⟩:=nat hh;obtain ⟨m,hm,rfl⟩:=nat hx;obtain ⟨p,_,rfl⟩:=nat (hdn a had);exact fH hP hm h3 e'
     ·left;exact fe.1 ha
    ·rw [ga e];have e':h∉bp P x:=by simpa [hiB] using e
     refine ⟨hh,fun a ha=>?_⟩;rcases my.1 ha with ha | ha
     ·exact hd a ha
     ·rw [fe.1 ha];rcases iU hl hx hh with h1 | h1 | h1
      ·exact .inl h1
      ·exact .inr h1
      ·exact absurd h1 e'
   have:=qg hP hr hl k (done++[x]) (JA P h x) (fun a ha=>hk a (vf _ ha)) (fun a ha=>by
    rcases my.1 ha with h | h
    ·exact hdn a h
    ·rw [fe.1 h];exact hx) step.1 step.2
   rw [FE];refine ⟨this.1,fun a ha=>this.2 a ?_⟩;rcases ha with ha | ha
   ·exact .inl (Lt _ ha)
   ·rcases k6.1 ha with rfl | ha
    ·exact .inl OG
    ·exact .inr ha
theorem nI {P l:List Int} (hP:UpOk P) (hne:l≠[]) (hr:∀ a∈l,0<=a/\a<P.length) (hl:mu P l=true):ka P l∈l/\∀ a∈l,a=ka P l\/a∈bp P (ka P l):=by
 cases l with
 | nil=>exact absurd O hne
 | cons x l=>
   have:=qg hP hr hl (x::l) [] x (fun a h=>h) OG (Kl ..) OG;unfold ka;exact ⟨this.1,fun a ha=>this.2 a (.inr ha)⟩
theorem OrdOk.dP {S:Sch} {P:List Int} (h:OrdOk S P):UpOk P:=⟨h.rng,h.up⟩
end
section
inductive Path (adj:Nat->Nat->Prop) (ok:Nat->Prop) (a:Nat):Nat->Prop
 | refl:Path adj ok a a
 | step {b c:Nat}:Path adj ok a b->adj b c->ok c->Path adj ok a c
section
variable {adj:Nat->Nat->Prop} {ok ok':Nat->Prop}
theorem Path.trans {a b c:Nat} (h1:Path adj ok a b) (h2:Path adj ok b c):Path adj ok a c:=by
 induction h2 with
 | refl=>exact h1
 | step _ h3 h4 ih=>exact .step ih h3 h4
theorem Path.one {a b:Nat} (h:adj a b) (hb:ok b):Path adj ok a b:= .step .refl h hb
theorem Path.mono {a b:Nat} (h:Path adj ok a b) (hm:∀ c,ok c->ok' c):Path adj ok' a b:=by
 induction h with
 | refl=>exact .refl
 | step _ h3 h4 ih=>exact .step ih h3 (hm _ h4)
theorem Path.fin {a b:Nat} (h:Path adj ok a b) (ha:ok a):ok b:=by
 cases h with
 | refl=>exact ha
 | step _ _ h=>exact h
theorem Path.symm (hs:∀ a b,adj a b->adj b a) {a b:Nat} (h:Path adj ok a b) (ha:ok a):Path adj ok b a:=by
 induction h with
 | refl=>exact .refl
 | step h1 h3 h4 ih=>exact (Path.one (hs _ _ h3) (h1.fin ha)).trans ih
theorem Path.stay {inn:Nat->Prop} {a b:Nat} (h:Path adj ok a b) (ha:inn a) (hc:∀ x y,inn x->adj x y->ok y->inn y):Path adj (fun c=>ok c/\inn c) a b/\inn b:=by
 induction h with
 | refl=>exact ⟨.refl,ha⟩
 | step _ h3 h4 ih=>exact ⟨.step ih.1 h3 ⟨h4,hc _ _ ih.2 h3 h4⟩,hc _ _ ih.2 h3 h4⟩
end
def Anc (adj:Nat->Nat->Prop) (pos:Nat->Nat) (a b:Nat):Prop:=pos a<pos b/\Path adj (fun c=>pos a<=pos c) a b
section
variable {adj:Nat->Nat->Prop} {pos:Nat->Nat} (hs:∀ a b,adj a b->adj b a)
theorem Anc.trans {a b c:Nat} (h1:Anc adj pos a b) (h2:Anc adj pos b c):Anc adj pos a c:=by
 have h3:=h1.1;exact ⟨Nat.lt_trans h1.1 h2.1,h1.2.trans (h2.2.mono fun d hd=>by omega)⟩
include hs in
end
structure IsOrd (n:Nat) (adj:Nat->Nat->Prop) (pos:Nat->Nat) (P:List Int):Prop where
 len:P.length=n
 par:∀ b,b<n->(P.getD b 0= -1/\∀ a,a<n->¬ Anc adj pos a b)\/(∃ a:Nat,a<n/\P.getD b 0=(a:Int)/\Anc adj pos a b/\∀ a',a'<n->Anc adj pos a' b->a'=a\/Anc adj pos a' a)
section
variable {n:Nat} {adj:Nat->Nat->Prop} {pos:Nat->Nat} {P:List Int}
theorem IsOrd.upF (h:IsOrd n adj pos P):∀ (m b k:Nat),b<n->pos b<=m->pos b<=k->(upF P k (P.getD b 0)).isSome=true:=by
 intro m;induction m with
 | zero=>
   intro b k hb hm hk;rcases h.par b hb with ⟨h1,_⟩ | ⟨a,ha,h1,h2,_⟩
   ·rw [h1,sW OE];rfl
   ·have:=h2.1;omega
 | succ m ih=>
   intro b k hb hm hk;rcases h.par b hb with ⟨h1,_⟩ | ⟨a,ha,h1,h2,_⟩
   ·rw [h1,sW OE];rfl
   ·have:=h2.1;obtain ⟨k',rfl⟩:∃ k',k=k'+1:=⟨k-1,OC⟩;rw [h1,ym (by rw [h.len];exact ha),Option.isSome_map];have:=ih a k' ha OC OC;rwa [getD_eq (by rw [h.len];exact ha)] at this
theorem IsOrd.dP (h:IsOrd n adj pos P) (hp:∀ b,b<n->pos b<n):UpOk P:=by
 refine ⟨fun p hp=>?_,fun v hv=>?_⟩
 ·obtain ⟨b,hb,e⟩:=By hp;rw [<-getD_eq hb 0] at e;have hb':b<n:=by rw [<-h.len];exact hb
  have:=h.len;rcases h.par b hb' with ⟨h1,_⟩ | ⟨a,ha,h1,_,_⟩<;>omega
 ·have hv':v<n:=by rw [<-h.len];exact hv
  have:=h.upF (pos v) v P.length hv' (qT _) (by rw [h.len];exact Nat.le_of_lt (hp v hv'));rwa [uR hv,<-getD_eq hv 0]
theorem IsOrd.mem (h:IsOrd n adj pos P) (hp:∀ b,b<n->pos b<n):∀ b,b<P.length->∀ a:Nat,(a:Int)∈bp P b↔a<n/\Anc adj pos a b:=by
 have hl:=h.len;refine pt (h.dP hp) (fun v hv hr e a=>?_) (fun v hv p hpl hr e ih a=>?_)
 ·rw [e];rcases h.par v OC with ⟨_,h2⟩ | ⟨c,hc,h1,_,_⟩
  ·exact ⟨fun hh=>absurd hh Lf,fun hh=>absurd hh.2 (h2 a hh.1)⟩
  ·rw [getD_eq hv,hr] at h1;omega
 ·rw [e,k6,ih a];rcases h.par v OC with ⟨h1,_⟩ | ⟨c,hc,h1,h2,h3⟩
  ·rw [getD_eq hv,hr] at h1;omega
  ·rw [getD_eq hv,hr] at h1;have:c=p:=OC;subst this;constructor
   ·rintro (h4 | h4)
    ·have:a=c:=OC;subst this;exact ⟨hc,h2⟩
    ·exact ⟨h4.1,h4.2.trans h2⟩
   ·rintro ⟨h4,h5⟩;rcases h3 a h4 h5 with rfl | h6
    ·exact .inl O
    ·exact .inr ⟨h4,h6⟩
end
def Ex (S:Sch) (a b:Nat):Prop:=a≠b/\eS S a b=true
theorem kL {S:Sch} {a b:Int} (h:eS S a b=true):eS S b a=true:=by
 unfold eS at h ⊢;obtain ⟨r,hr,h2⟩:=IF.1 h;rw [IF];exact ⟨r,hr,by rw [Bool.and_comm];exact h2⟩
theorem L8 (S:Sch):∀ a b,Ex S a b->Ex S b a:=fun _ _ h=>⟨fun e=>h.1 e.symm,kL h.2⟩
def jM (q:List Int) (a:Nat):Nat:=q.idxOf (a:Int)
theorem ES {n:Nat} {q:List Int} (hq:q.Perm (upZ n)) {a:Nat} (ha:a<n):jM q a<n:=by
 have:q.idxOf (a:Int)<q.length:=Kr (hq.mem_iff.2 (bx.2 ⟨a,ha,O⟩));rwa [hq.length_eq,a8] at this
theorem nq {n:Nat} {q:List Int} (hq:q.Perm (upZ n)) {a b:Nat} (ha:a<n) (h:jM q a=jM q b):a=b:=by
 have h1:q.idxOf (a:Int)<q.length:=Kr (hq.mem_iff.2 (bx.2 ⟨a,ha,O⟩));have h2:q.idxOf (b:Int)<q.length:=by unfold jM at h;rw [<-h];exact h1
 have e1:q[q.idxOf (a:Int)]=(a:Int):=List.getElem_idxOf h1;have e2:q[q.idxOf (b:Int)]=(b:Int):=List.getElem_idxOf h2;have e3:q[q.idxOf (a:Int)]=q[q.idxOf (b:Int)]:=by unfold jM at h;congr 1
 rw [e1,e2] at e3;omega
theorem IsOrd.ok {S:Sch} (hV:Valid S) {q:List Int} (hq:q.Perm (upZ S.attrs.length)) {P:List Int} (h:IsOrd S.attrs.length (Ex S) (jM q) P):OrdOk S P:=by
 have hp:∀ b,b<S.attrs.length->jM q b<S.attrs.length:=fun b hb=>ES hq hb
 have hu:=h.dP hp;refine ⟨hV,h.len,hu.rng,hu.up,fun r hr=>?_⟩;unfold mu;rw [nP];intro a ha;rw [nP];intro b hb;obtain ⟨x,hx⟩:=rK (hV.rng r hr a ha).1;obtain ⟨y,hy⟩:=rK (hV.rng r hr b hb).1;have hxl:x<S.attrs.length:=by have:=(hV.rng r hr a ha).2;omega
 have hyl:y<S.attrs.length:=by have:=(hV.rng r hr b hb).2;omega
 by_cases e:a=b
 ·simp [e]
 ·have hxy:x≠y:=OC;have hadj:Ex S x y:=⟨hxy,by rw [<-hx,<-hy];exact AN hr ha hb⟩;have hl:=h.len;rcases Nat.lt_or_gt_of_ne (fun e=>hxy (nq hq hxl e)) with h1 | h1
  ·have:(x:Int)∈bp P y:=(h.mem hp y OC x).2 ⟨hxl,h1,.one hadj (Nat.le_of_lt h1)⟩;rw [hx,hy];simp [hiB,this]
  ·have:(y:Int)∈bp P x:=(h.mem hp x OC y).2 ⟨hyl,h1,.one (L8 S _ _ hadj) (Nat.le_of_lt h1)⟩;rw [hx,hy];simp [hiB,this]
end
section
def eu (G:List B64) (a b:Nat):Prop:=(G.getD a 0#64).getLsbD b=true
theorem ma {G:List B64} {rest:B64} {a b:Nat}:Reach G rest a b↔Path (eu G) (fun c=>rest.getLsbD c=true) a b:=by
 constructor
 ·intro h;induction h with
  | refl=>exact .refl
  | step _ h1 h2 ih=>exact .step ih h1 h2
 ·intro h;induction h with
  | refl=>exact .refl
  | step _ h1 h2 ih=>exact .step ih h1 h2
structure Comp (adj:Nat->Nat->Prop) (rest c:B64):Prop where
 sub:∀ i,c.getLsbD i=true->rest.getLsbD i=true
 clo:∀ i j,c.getLsbD i=true->adj i j->rest.getLsbD j=true->c.getLsbD j=true
 con:∀ i j,c.getLsbD i=true->c.getLsbD j=true->Path adj (fun x=>c.getLsbD x=true) i j
 ne:∃ i,c.getLsbD i=true
structure CompsI (adj:Nat->Nat->Prop) (rest:B64) (k:Nat) (cs:List B64) (R:B64):Prop where
 all:∀ c∈cs,Comp adj rest c
 cov:∀ i,rest.getLsbD i=true↔R.getLsbD i=true\/∃ c∈cs,c.getLsbD i=true
 dis:∀ i,R.getLsbD i=true->∀ c∈cs,¬ c.getLsbD i=true
 pw:cs.Pairwise (fun c d=>∀ i,c.getLsbD i=true->¬ d.getLsbD i=true)
 low:∀ i,i<k->¬ R.getLsbD i=true
theorem fa (x y:B64) (i:Nat):(x&&& ~~~y).getLsbD i=true↔x.getLsbD i=true/\¬ y.getLsbD i=true:=by
 rw [Ky,BitVec.getLsbD_not];constructor
 ·intro h;simp at h;exact ⟨h.1,by rw [h.2.2];decide⟩
 ·rintro ⟨h1,h2⟩;have:=cq h1;have h3:y.getLsbD i=false:=by simpa using h2
  rw [h1,h3,x7 this];rfl
theorem kT (G:List B64) (rest:B64) (hs:∀ a b,eu G a b->eu G b a):∀ k,CompsI (eu G) rest k (compsN G rest k).1 (compsN G rest k).2
 | 0=>⟨by simp [compsN],by simp [compsN],by simp [compsN],by simp [compsN],by intro i h;omega⟩
 | k+1=>by
   have h:=kT G rest hs k;simp only [compsN];generalize compsN G rest k=cr at*;obtain ⟨cs,R⟩:=cr;simp only at h ⊢;by_cases hk:R.getLsbD k=true
   ·rw [og hk];have hcR:∀ i,(compB G R k).getLsbD i=true->R.getLsbD i=true:=fun i hi=>kr hk hi
    have hkc:(compB G R k).getLsbD k=true:=(eH (cq hk)).2 .refl;have hclR:∀ i j,(compB G R k).getLsbD i=true->eu G i j->R.getLsbD j=true->(compB G R k).getLsbD j=true:=fun i j h1 h2 h3=>
     (eH (cq h3)).2 (.step (dG h1) h2 h3)
    have hC:Comp (eu G) rest (compB G R k):=by
     refine ⟨fun i hi=>(h.cov i).2 (.inl (hcR i hi)),fun i j h1 h2 h3=>?_,?_,⟨k,hkc⟩⟩
     ·rcases (h.cov j).1 h3 with h4 | ⟨d,hd,h4⟩
      ·exact hclR i j h1 h2 h4
      ·exact absurd ((h.all d hd).clo j i h4 (hs i j h2) ((h.cov i).2 (.inl (hcR i h1)))) (h.dis i (hcR i h1) d hd)
     ·have one:∀ i,(compB G R k).getLsbD i=true->Path (eu G) (fun x=>(compB G R k).getLsbD x=true) k i:=fun i hi=>
       ((ma.1 (dG hi)).stay (inn:=fun x=>(compB G R k).getLsbD x=true) hkc hclR).1.mono fun c hc=>hc.2
      exact fun i j hi hj=>((one i hi).symm hs hkc).trans (one j hj)
    refine ⟨fun c hc=>?_,fun i=>?_,fun i hi c hc=>?_,?_,fun i hi hR=>?_⟩
    ·rcases my.1 hc with hc | hc
     ·exact h.all c hc
     ·rw [fe.1 hc];exact hC
    ·rw [h.cov i,fa];constructor
     ·rintro (h1 | ⟨c,hc,h1⟩)
      ·by_cases h2:(compB G R k).getLsbD i=true
       ·exact .inr ⟨_,Ll _ (fe.2 O),h2⟩
       ·exact .inl ⟨h1,h2⟩
      ·exact .inr ⟨c,Lt _ hc,h1⟩
     ·rintro (h1 | ⟨c,hc,h1⟩)
      ·exact .inl h1.1
      ·rcases my.1 hc with hc | hc
       ·exact .inr ⟨c,hc,h1⟩
       ·rw [fe.1 hc] at h1;exact .inl (hcR i h1)
    ·rw [fa] at hi;rcases my.1 hc with hc | hc
     ·exact h.dis i hi.1 c hc
     ·rw [fe.1 hc];exact hi.2
    ·rw [Kv];refine ⟨h.pw,OG,fun c hc d hd i h1 h2=>?_⟩;rw [fe.1 hd] at h2;exact h.dis i (hcR i h2) c hc h1
    ·rw [fa] at hR;by_cases e:i=k
     ·subst e;exact hR.2 hkc
     ·exact h.low i OC hR.1
   ·rw [ga hk];refine ⟨h.all,h.cov,h.dis,h.pw,fun i hi=>?_⟩;by_cases e:i=k
    ·subst e;exact hk
    ·exact h.low i OC
def xh (adj:Nat->Nat->Prop) (pos:Nat->Nat) (rest:B64) (a b:Nat):Prop:=
 rest.getLsbD a=true/\rest.getLsbD b=true/\pos a<pos b/\Path adj (fun c=>rest.getLsbD c=true/\pos a<=pos c) a b
def DT (adj:Nat->Nat->Prop) (pos:Nat->Nat) (rest:B64) (par:Int) (b:Nat) (x:Int):Prop:=
 (x=par/\∀ a,¬ xh adj pos rest a b)\/∃ a:Nat,x=(a:Int)/\xh adj pos rest a b/\∀ a',xh adj pos rest a' b->a'=a\/xh adj pos rest a' a
theorem BR {n:Nat} {q:List Int} (hq:q.Perm (upZ n)) {c:B64} (hc:∀ i,c.getLsbD i=true->i<n) (hne:∃ i,c.getLsbD i=true):
  ∃ a:Nat,a<n/\q.find? (fun x=>c.getLsbD x.toNat)=some (a:Int)/\c.getLsbD a=true/\∀ i,c.getLsbD i=true->jM q a<=jM q i:=by
 cases hf:q.find? (fun x=>c.getLsbD x.toNat) with
 | none=>
   obtain ⟨i,hi⟩:=hne;have:=List.find?_eq_none.1 hf (i:Int) (hq.mem_iff.2 (bx.2 ⟨i,hc i hi,O⟩));simp at this;rw [hi] at this;cases this
 | some x=>
   obtain ⟨h1,us,vs,h2,h3⟩:=List.find?_eq_some_iff_append.1 hf;have hxm:x∈q:=by rw [h2];simp
   obtain ⟨a,ha,rfl⟩:=bx.1 (hq.mem_iff.1 hxm);have h1':c.getLsbD a=true:=by simpa using h1
   refine ⟨a,ha,O,h1',fun i hi=>?_⟩;have no:∀ j:Nat,c.getLsbD j=true->(j:Int)∉us:=fun j hj hm=>by
    have:=h3 _ hm;simp at this;rw [hj] at this;cases this
   unfold jM;rw [h2,List.idxOf_append,List.idxOf_append,ga (no a h1'),ga (no i hi)];simp
section
variable {n:Nat} {G:List B64} {q:List Int} (hG:G.length=n) (hs:∀ a b,eu G a b->eu G b a) (hq:q.Perm (upZ n))
theorem xh.sub {adj:Nat->Nat->Prop} {pos:Nat->Nat} {r r':B64} (h:∀ i,r.getLsbD i=true->r'.getLsbD i=true) {a b:Nat} (k:xh adj pos r a b):xh adj pos r' a b:=
 ⟨h _ k.1,h _ k.2.1,k.2.2.1,k.2.2.2.mono fun c hc=>⟨h _ hc.1,hc.2⟩⟩
include hs hq in
theorem tu {f:Nat} (IH:∀ rest par P,cC rest<=f->(∀ i,rest.getLsbD i=true->i<n)->P.length=n->∀ b,b<n->(rest.getLsbD b=false->(placeF G q f rest par P).getD b 0=P.getD b 0)/\(rest.getLsbD b=true->DT (eu G) (jM q) rest par b ((placeF G q f rest par P).getD b 0)))
  {rest c:B64} (hc:Comp (eu G) rest c) (hpop:∀ a,c.getLsbD a=true->cC (c&&& ~~~(BitVec.twoPow 64 a))<=f) (hr:∀ i,rest.getLsbD i=true->i<n) (par:Int) (P:List Int) (hP:P.length=n) (b:Nat) (hb:b<n):
  (c.getLsbD b=false->(dd q (placeF G q f) par P c).getD b 0=P.getD b 0)/\(c.getLsbD b=true->DT (eu G) (jM q) rest par b ((dd q (placeF G q f) par P c).getD b 0)):=by
 obtain ⟨a,ha,hfind,hca,hmin⟩:=BR hq (fun i hi=>hr i (hc.sub i hi)) hc.ne;have e:dd q (placeF G q f) par P c=placeF G q f (c&&& ~~~(BitVec.twoPow 64 a)) a (P.set a par):=by unfold dd;rw [hfind];rfl
 rw [e];have hbit:∀ i,(c&&& ~~~(BitVec.twoPow 64 a)).getLsbD i=true↔c.getLsbD i=true/\a≠i:=fun i=>by rw [bA,cH,BX]
 have hih:=IH (c&&& ~~~(BitVec.twoPow 64 a)) a (P.set a par) (hpop a hca) (fun i hi=>hr i (hc.sub i ((hbit i).1 hi).1)) (by simp [hP]) b hb;have stay:∀ a' b',xh (eu G) (jM q) rest a' b'->c.getLsbD b'=true->c.getLsbD a'=true:=by
  intro a' b' h1 h2;have hpath:=(h1.2.2.2.symm hs ⟨h1.1,qT _⟩);exact (hpath.stay (inn:=fun x=>c.getLsbD x=true) h2 (fun x y hx hxy hy=>hc.clo x y hx hxy hy.1)).2
 have inside:∀ a' b',xh (eu G) (jM q) rest a' b'->c.getLsbD b'=true->a'≠a->xh (eu G) (jM q) (c&&& ~~~(BitVec.twoPow 64 a)) a' b':=by
  intro a' b' h1 h2 h3;have hca':=stay a' b' h1 h2;have hpa:jM q a<jM q a':=Nat.lt_of_le_of_ne (hmin a' hca') (fun e=>h3 (nq hq ha e).symm);have hpb:=h1.2.2.1;refine ⟨(hbit a').2 ⟨hca',fun e=>h3 e.symm⟩,(hbit b').2 ⟨h2,fun e=>by subst e;omega⟩,h1.2.2.1,?_⟩;refine ((h1.2.2.2.stay (inn:=fun x=>c.getLsbD x=true) hca' (fun x y hx hxy hy=>hc.clo x y hx hxy hy.1)).1.mono fun x hx=>?_);exact ⟨(hbit x).2 ⟨hx.2,fun e=>by have:=hx.1.2;subst e;omega⟩,hx.1.2⟩
 have root:∀ b',c.getLsbD b'=true->a≠b'->xh (eu G) (jM q) rest a b':=fun b' h1 h2=>
  ⟨hc.sub a hca,hc.sub b' h1,Nat.lt_of_le_of_ne (hmin b' h1) (fun e=>h2 (nq hq ha e)),(hc.con a b' hca h1).mono fun x hx=>⟨hc.sub x hx,hmin x hx⟩⟩
 have hsub:∀ i,(c&&& ~~~(BitVec.twoPow 64 a)).getLsbD i=true->rest.getLsbD i=true:=fun i hi=>hc.sub i ((hbit i).1 hi).1
 constructor
 ·intro hcb;have hab:a≠b:=fun e=>by subst e;rw [hca] at hcb;cases hcb
  have h1:(c&&& ~~~(BitVec.twoPow 64 a)).getLsbD b=false:=by
   cases h2:(c&&& ~~~(BitVec.twoPow 64 a)).getLsbD b with
   | false=>rfl
   | true=>rw [((hbit b).1 h2).1] at hcb;cases hcb
  rw [hih.1 h1,List.getD,List.getD,Kj hab]
 ·intro hcb;by_cases hab:a=b
  ·subst hab;have h1:(c&&& ~~~(BitVec.twoPow 64 a)).getLsbD a=false:=by rw [bA];simp
   left
   refine ⟨by rw [hih.1 h1,List.getD];simp [hP,ha],fun a' h2=>?_⟩;have h3:=stay a' a h2 hca;have:=hmin a' h3;have:=h2.2.2.1;omega
  ·have h1:(c&&& ~~~(BitVec.twoPow 64 a)).getLsbD b=true:=(hbit b).2 ⟨hcb,hab⟩;right
   rcases hih.2 h1 with ⟨h2,h3⟩ | ⟨d,h2,h3,h4⟩
   ·refine ⟨a,h2,root b hcb hab,fun a' h5=>?_⟩;by_cases e2:a'=a
    ·exact .inl e2
    ·exact absurd (inside a' b h5 hcb e2) (h3 a')
   ·refine ⟨d,h2,h3.sub hsub,fun a' h5=>?_⟩;have hd:=(hbit d).1 h3.1;by_cases e2:a'=a
    ·right;rw [e2];exact root d hd.1 hd.2
    ·rcases h4 a' (inside a' b h5 hcb e2) with h6 | h6
     ·exact .inl h6
     ·exact .inr (h6.sub hsub)
include hG hs hq in
theorem vI:∀ (f:Nat) (rest:B64) (par:Int) (P:List Int),cC rest<=f->(∀ i,rest.getLsbD i=true->i<n)->P.length=n->∀ b,b<n->(rest.getLsbD b=false->(placeF G q f rest par P).getD b 0=P.getD b 0)/\(rest.getLsbD b=true->DT (eu G) (jM q) rest par b ((placeF G q f rest par P).getD b 0)):=by
 intro f;induction f with
 | zero=>
   intro rest par P hf hr hP b hb;refine ⟨fun _=>rfl,fun h=>?_⟩;rw [oh (Nat.le_zero.1 hf) b] at h;cases h
 | succ f IH=>
   intro rest par P hf hr hP b hb;have hI:=kT G rest hs G.length;have hpop:∀ c∈(compsN G rest G.length).1,∀ a,c.getLsbD a=true->cC (c&&& ~~~(BitVec.twoPow 64 a))<=f:=fun c hc a ha=>by have:=tO hc ha;omega
   have fold:∀ (cs:List B64) (P:List Int),(∀ c∈cs,Comp (eu G) rest c)->(∀ c∈cs,∀ a,c.getLsbD a=true->cC (c&&& ~~~(BitVec.twoPow 64 a))<=f)->cs.Pairwise (fun c d=>∀ i,c.getLsbD i=true->¬ d.getLsbD i=true)->P.length=n->
     ((∀ c∈cs,¬ c.getLsbD b=true)->(cs.foldl (dd q (placeF G q f) par) P).getD b 0=P.getD b 0)/\(∀ c∈cs,c.getLsbD b=true->DT (eu G) (jM q) rest par b ((cs.foldl (dd q (placeF G q f) par) P).getD b 0)):=by
    intro cs;induction cs with
    | nil=>intro P _ _ _ _;exact ⟨fun _=>rfl,fun c hc=>by cases hc⟩
    | cons c cs ih=>
      intro P h1 h2 h3 h4;have hl:(dd q (placeF G q f) par P c).length=n:=by
       unfold dd;split
       ·rw [iv];simp [h4]
       ·exact h4
      have hg:=tu hs hq IH (h1 c (Kl ..)) (h2 c (Kl ..)) hr par P h4 b hb;have hi:=ih (dd q (placeF G q f) par P c) (fun d hd=>h1 d (vf _ hd)) (fun d hd=>h2 d (vf _ hd)) (Km.1 h3).2 hl;rw [FE];constructor
      ·intro h5;rw [hi.1 (fun d hd=>h5 d (vf _ hd))];exact hg.1 (by simpa using h5 c (Kl ..))
      ·intro d hd h5;rcases k6.1 hd with rfl | hd
       ·rw [hi.1 (fun e he=>(Km.1 h3).1 e he b h5)];exact hg.2 h5
       ·exact hi.2 d hd h5
   have hfold:=fold (compsN G rest G.length).1 P hI.all hpop hI.pw hP;simp only [placeF];constructor
   ·intro h1;refine hfold.1 fun c hc h2=>?_
    rw [(hI.all c hc).sub b h2] at h1;cases h1
   ·intro h1;rcases (hI.cov b).1 h1 with h2 | ⟨c,hc,h2⟩
    ·exact absurd h2 (hI.low b OC)
    ·exact hfold.2 c hc h2
include hG hs hq in
theorem GH (hn:n<64) (hadj:∀ a b,eu G a b->b<n):IsOrd n (eu G) (jM q) (ofL G q):=by
 have hall:∀ i,(gI G.length).getLsbD i=true↔i<n:=fun i=>by rw [fB OC,BX,hG]
 have anc:∀ a b,a<n->b<n->(xh (eu G) (jM q) (gI G.length) a b↔Anc (eu G) (jM q) a b):=by
  intro a b ha hb;constructor
  ·intro h;exact ⟨h.2.2.1,h.2.2.2.mono fun c hc=>hc.2⟩
  ·intro h;refine ⟨(hall a).2 ha,(hall b).2 hb,h.1,?_⟩;exact (h.2.stay (inn:=fun x=>(gI G.length).getLsbD x=true) ((hall a).2 ha) (fun x y _ hxy _=>(hall y).2 (hadj x y hxy))).1.mono fun c hc=>⟨hc.2,hc.1⟩
 refine ⟨by rw [Bf,hG],fun b hb=>?_⟩;have:=(vI hG hs hq 64 (gI G.length) (-1) (List.replicate G.length 0) (jk _) (fun i hi=>(hall i).1 hi) (by simp [hG]) b hb).2 ((hall b).2 hb);rcases this with ⟨h1,h2⟩ | ⟨a,h1,h2,h3⟩
 ·exact .inl ⟨h1,fun a ha h3=>h2 a ((anc a b ha hb).2 h3)⟩
 ·have ha:=(hall a).1 h2.1;refine .inr ⟨a,ha,h1,(anc a b ha hb).1 h2,fun a' ha' h4=>?_⟩;rcases h3 a' ((anc a' b ha' hb).2 h4) with h5 | h5
  ·exact .inl h5
  ·exact .inr ((anc a' a ha' ha).1 h5)
end
theorem BO {S:Sch} (hV:Valid S) (a b:Nat):eu (gr S) a b↔Ex S a b:=by
 unfold eu Ex;by_cases ha:a<S.attrs.length
 ·rw [pC hV ha,cH,BX]
 ·rw [List.getD,IT (by rw [fR];omega)];constructor
  ·intro h;simp at h
  ·rintro ⟨_,h⟩;have:=(ow hV h).1;omega
theorem A8 {S:Sch} (hV:Valid S):eu (gr S)=Ex S:=by
 funext a b;exact propext (BO hV a b)
theorem C9 {S:Sch} (hV:Valid S) {q:List Int} (hq:q.Perm (upZ S.attrs.length)):IsOrd S.attrs.length (Ex S) (jM q) (ordL S q):=by
 have h1:=A8 hV;have h2:=hV.n2;have:=GH (G:=gr S) (q:=q) (n:=S.attrs.length) (fR S) (by rw [h1];exact L8 S) hq OC (by rw [h1];intro a b h;have:=(ow hV h.2).2;omega);rw [h1] at this;exact this
end
section
open Mk
end
section
open Mk
end
section
open Mk
end
section
open Mk
theorem Aa {P:List Int} (hP:UpOk P):(aD P).length=P.length:=by rw [(cf hP).length_eq,a8]
end
theorem Bs {P:Program} {f:FuncId} {args:List PV} {us:List Value} (h:FnP P f args (· = .bool true)) (w:World) (hG:lA w (fun b=>b<w.heap.size)) (hrel:RelPL w (fun b=>b<w.heap.size) args us):
  Calls P f us.toArray w fun e w'=>e= .returned (.bool true)/\Below w.heap.size w w':=
 (h w _ us hG (fun _ hb=>hb) hrel).mono fun _ _ ⟨u,v,e,hv,hb,hr⟩=>by
  subst hv;simp only [RelP] at hr;subst hr;exact ⟨e,hb⟩
section
open Mk
theorem IW {n:Nat}:∀ {l:List Int},l.Pairwise (· < ·)->(∀ a∈l,0<=a/\a<n)->l.length<=n:=by
 intro l hp hr;have hnd:l.Nodup:=hp.imp (fun h e=>by omega);have hsub:∀ a∈l,a∈upZ n:=fun a ha=>by
  obtain ⟨x,hx⟩:=rK (hr a ha).1;exact bx.2 ⟨x,by have:=(hr a ha).2;omega,hx⟩
 have:(((upZ n).filter fun a=>decide (a∈l))).Perm l:=cu (IN Jt (cJ _)) hnd fun a=>by
  rw [wU,BX];exact ⟨fun h=>h.2,fun h=>⟨hsub a h,h⟩⟩
 rw [<-this.length_eq];exact uv (IE _ _) (by rw [a8];exact qT _)
theorem Jq (p:UInt8) (i:Nat):(nm p i).size=2:=by
 unfold nm chr;simp [ByteArray.size_append];rfl
theorem JO {S:Sch} {most:Nat} (h:Made S most) (hm:most<=8):SB S:=by
 have h1:=h.a2;have h2:=h.r2;have h3:=IM h.fs;refine ⟨OC,OC,OC,fun x hx=>?_,fun x hx=>?_,fun x hx=>?_⟩
 ·obtain ⟨i,hi,rfl⟩:=By hx;rw [(h.at' i hi).1,Jq];decide
 ·obtain ⟨i,hi,rfl⟩:=By hx;rw [(h.rs i hi).1,Jq];decide
 ·obtain ⟨i,hi,rfl⟩:=By hx;have:=IW (h.rs i hi).2.2.1 (h.rs i hi).2.2.2;omega
section
variable {C:Ctx} {n:Nat} {σ:St} {dst:Option Tmp} {ty:TypeId} {ts:Array TypeId} {pos:String} {after:Array Edge} {gd:Option (Nat×Bool)}
end
end
section
open Mk
end
section
open Mk
end
section
open Mk
end
section
open Mk Jn
theorem jG:∀ (x y:List UInt8),Op.bytesLess x y=decide (x<y)
 | [],[]=>by simp [Op.bytesLess]
 | _::_,[]=>by simp [Op.bytesLess]
 | [],_::_=>by simp [Op.bytesLess]
 | a::x,b::y=>by
   rw [Op.bytesLess,jG x y];simp only [List.cons_lt_cons_iff];by_cases h1:a<b<;>by_cases h2:a=b<;>by_cases h3:x<y<;>simp [h1,h2,h3]
theorem mg (x:ByteArray) (a b:List ByteArray):aZ (x::a) (x::b)=aZ a b:=by
 unfold aZ vZ;rw [BY,AS,AS,jt,jt,List.cons_lt_cons_iff];simp [List.lt_irrefl]
theorem Dr {x y:ByteArray} (h:x≠y) (a b:List ByteArray):aZ (x::a) (y::b)=Op.bytesLess x.toList y.toList:=by
 unfold aZ vZ;rw [jG,ByteArray.toList_eq,ByteArray.toList_eq,BY,AS,AS,jt,jt,List.cons_lt_cons_iff];exact ⟨fun k=>k.elim id fun e=>absurd (xu e.1) h,.inl⟩
theorem oD:∀ {i:Nat} {a b:List ByteArray} (ha:i<a.length) (hb:i<b.length),a.take i=b.take i->a[i]≠b[i]->aZ a b=Op.bytesLess a[i].toList b[i].toList
 | 0,x::a,y::b,_,_,_,h=>Dr h a b
 | i+1,x::a,y::b,ha,hb,ht,h=>by
   rw [Oj,Oj,Lo] at ht;obtain ⟨rfl,ht⟩:=ht;rw [mg];exact oD (by simpa using ha) (by simpa using hb) ht h
theorem gL:∀ {i:Nat} {a b:List ByteArray},i<=a.length->i<=b.length->(i=a.length\/i=b.length)->a.take i=b.take i->aZ a b=decide ((a.length:Int)<b.length)
 | _,[],[],_,_,_,_=>by simp [aZ,vZ]
 | _,[],y::b,_,_,_,_=>by simp [aZ,vZ]
 | _,x::a,[],_,_,_,_=>by simp [aZ,vZ];omega
 | 0,x::a,y::b,_,_,h,_=>by simp at h
 | i+1,x::a,y::b,ha,hb,h,ht=>by
   rw [Oj,Oj,Lo] at ht;obtain ⟨rfl,ht⟩:=ht;rw [mg,gL (i:=i) (by simpa using ha) (by simpa using hb) (by simpa using h) ht];simp
theorem vV (a b:List ByteArray) (ha:a.length<=1000000) (hb:b.length<=1000000):FnP Tryz.prog 20 [aI a,aI b] (· = .bool (aZ a b)):=by
 refine FnP.of func20 O ntmps20 OG fun m0 w0 F R0=>?_
 refine Z1 O O<|Z1 O O ?_;refine Gl O (st:=fun x_0:Nat=>mkS [(0,.pv (aI a)),(1,.pv (aI b)),(5,.pv (.int .i64 x_0))] [] 0)
  (I:=fun x_0=>(x_0<=a.length/\x_0<=b.length)/\a.take x_0=b.take x_0) (μ:=fun x_0=>a.length-x_0) (x0:=(0)) (Io (aS O) trivial O O) (⟨⟨eF _,eF _⟩,O⟩) ?_
 rintro i ⟨hi,ht⟩;refine Gr O ?_;iterate 5 refine A1 O ?_
 apply Iy 5 10 15 [11,12,13,14] O ON
 ·intro hb4;iterate 5 refine A1 O ?_
  exact Iq OM O O O
 ·intro hb4;iterate 5 refine A1 O ?_
  exact Iq OM O O O
 refine Gc O O (fun hc15=>?_) (fun hc15=>?_)
 ·have hab:i<a.length/\i<b.length:=by simp at hc15;omega
  have va:=aM hab.1;have na:=bc hab.1;have vb:=aM hab.2;have nb:=bc hab.2;refine Il<|Ge O follows [0,1,2,3,4,5,6,7,8] OD ?_;iterate 3 refine D1 O O ?_
  first | refine D2 O O OF ?_ | refine D1 O O ?_
  iterate 3 refine D1 O O ?_
  first | refine D2 O O OF ?_ | refine D1 O O ?_
  refine D1 O O ?_;refine ⟨OD,?_⟩;refine Gc O O (fun hc26=>?_) (fun hc26=>?_)
  ·refine Ge O follows [0,1,2,3,4,5,6,7,8,9] OD ?_;iterate 3 refine D1 O O ?_
   first | refine D2 O O OF ?_ | refine D1 O O ?_
   iterate 3 refine D1 O O ?_
   first | refine D2 O O OF ?_ | refine D1 O O ?_
   iterate 2 refine D1 O O ?_
   refine ⟨OD,?_⟩;exact Gt O<|⟨_,_,O,O,af PV.bool (oD hab.1 hab.2 ht (fun e=>by rw [e] at hc26;simp at hc26)).symm⟩
  ·exact Il<|Z3 O O O O<|⟨(i+1),Io (aS O) trivial O O,⟨⟨OC,OC⟩,by rw [aR hab.1,aR hab.2,ht,show a[i]=b[i] from baT (by simpa using hc26)]⟩,OC⟩
 ·refine Gx O<|Gr O ?_;iterate 6 refine A1 O ?_
  exact Gt O<|⟨_,_,O,O,af PV.bool (gL (i:=i) hi.1 hi.2 (by simp at hc15;omega) ht).symm⟩
theorem mO (a b:List ByteArray) (ha:a.length<=1000000) (hb:b.length<=1000000):FnP Tryz.prog 63 [aI a,aI b] (· = .bool (decide (a=b))):=by
 refine FnP.of func63 O ntmps63 OG fun m0 w0 F R0=>?_
 refine Z1 O O<|Gr O ?_;iterate 5 refine A1 O ?_
 refine Gc O O (fun hc10=>?_) (fun hc10=>?_)
 ·exact Z1 O O<|Gt O<|⟨_,_,O,O,af PV.bool (Et (fun e=>by rw [e] at hc10;simp at hc10)).symm⟩
 ·have hl:a.length=b.length:=by simp at hc10;omega
  refine Il<|Z3 O O O O ?_;refine Gl O (st:=fun x_0:Nat=>mkS [(0,.pv (aI a)),(1,.pv (aI b)),(12,.pv (.int .i64 a.length)),(13,.pv (.int .i64 x_0))] [] 0)
   (I:=fun x_0=>x_0<=a.length/\a.take x_0=b.take x_0) (μ:=fun x_0=>a.length-x_0) (x0:=(0)) (Io (aS O) trivial O O) (⟨eF _,O⟩) ?_
  rintro i ⟨hi,ht⟩;refine Z1 O O ?_;refine Gp O O (fun hc14=>?_) (fun hc14=>?_)
  ·have ha1:i<a.length:=OC;have hb1:i<b.length:=OC;have va:=aM ha1;have na:=bc ha1;have vb:=aM hb1;have nb:=bc hb1;refine Il<|Z2 O O O<|Ge O follows [0,1,2,3,4,5,6,7,8] OD ?_;iterate 3 refine D1 O O ?_
   first | refine D2 O O OF ?_ | refine D1 O O ?_
   iterate 3 refine D1 O O ?_
   first | refine D2 O O OF ?_ | refine D1 O O ?_
   refine D1 O O ?_;refine ⟨OD,?_⟩;refine Gc O O (fun hc24=>?_) (fun hc24=>?_)
   ·exact Z1 O O<|Gt O<|⟨_,_,O,O,af PV.bool (Et (fun e=>by subst e;simp at hc24)).symm⟩
   ·exact Il<|Z2 O O O<|⟨(i+1),Io (aS O) trivial O O,⟨OC,by rw [aR ha1,aR hb1,ht,show a[i]=b[i] from baT (by simpa using hc24)]⟩,OC⟩
  ·exact Gx O<|Z1 O O<|Gt O<|⟨_,_,O,O,af PV.bool (x7 (by rwa [bk OC,bk OC] at ht)).symm⟩
end
section
section
variable {C:Ctx} {n:Nat} {σ:St} {dst:Option Tmp} {ty t:TypeId} {pos:String} {after:Array Edge} {gd:Option (Nat×Bool)} {x y:Operand}
theorem dK {T e:TypeId} {id s k:Nat} {kl:IntKind} {il:Int} {o:Ob} (l:Nat) (hT:C.P.underlying T=some (.slice e)) (hs:dx C.P e s) (hx:σ.ev n x= .osl id s k) (ho:σ.ob id=some o) (hy:σ.ev n y= .pv (.int kl il)) (hi:il=(l:Int)) (h1:l<=k) (hre:o.real=true:=by rfl):
  XJ C n ⟨dst,.slice T x (some y) none none,ty,pos,after,gd⟩ σ ⟨.tsl id (l*s) (k-l),[],[]⟩:=
 .val fun a w m R hw=>by
  obtain ⟨b,N,c,he,hkc,hcm,hN,hm,hor⟩:=hw.osl hx ho hre;have e1:a.eval y= .int kl l:=by rw [hw.int hy,hi]
  have hav:σ.av id=false:=by
   cases hv:σ.av id with
   | false=>rfl
   | true=>have:=hw.hr.free id hv;rw [ho] at this;cases this
  refine ⟨.slice (if c=l then some ⟨b,0,none⟩ else (some ⟨b,0,none⟩:Option Addr).map (·.add (l*s))) (k-l) (c-l),?_,?_⟩
  ·simp [execOp,he,e1,Instr.sliceAt,Instr.slice,Instr.sliceBounds,Instr.sliceBound,asIntOf,run_underlying hT,hs.run,h1]
  ·simp only [Rel];refine ⟨hav,_,_,O,fun hp b' N' e=>?_⟩;rw [hm] at e;cases e;rw [ga OC];simp [Addr.add_lit]
theorem G4.tsl {id off j size:Nat} {T:TypeId} {cs news:List PV} (hx:σ.ev n y= .tsl id off j) (ho:σ.ob id=some (.cells T cs)) (hn:news=cs.drop off) (hl:news.length=j*size):G4 C n σ y j news:=by
 intro a w m R hw;have h:=hw.ev y;rw [hx] at h;simp only [Rel] at h;obtain ⟨hav,A,c,he,hA⟩:=h;obtain ⟨b,N,hm,arr,hb,hsz,hle,hr⟩:=hw.live ho;refine ⟨A,c,(arr.toList.take cs.length).drop off,he,by rw [hn];exact hr.drop off,fun hne=>?_⟩;have hj:0<j:=by
  rcases J6 j with h0 | h0
  ·exfalso;apply hne;rw [h0,OB,hn,Ak] at hl;rw [List.drop_eq_nil_iff,iP];omega
  ·exact h0
 refine ⟨b,off,hA hj b N hm,OK,(hw.hr.own id b N hm).1,fun i hi=>?_⟩;simp only [Ak,iP] at hi;rw [cell_of_row w b (off+i) arr T (0,0) hb,FJ,vR,og OC];simp
theorem jA.any {j:Nat} {news:List PV} (h:jA n σ y j news):G4 C n σ y j news:=fun hw=>h.row hw
end
end
def St.gsO (σ:St) (t id sz n:Nat) (T:TypeId) (cs:List PV):St:=⟨upd σ.sl t (.gsl id sz n),obL [(id,some (.gro T cs))] σ.ob,σ.av⟩
theorem St.pn {σ:St} {id sz n:Nat} {T:TypeId} {cs:List PV} (t:Nat) (ht:σ.sl t= .osl id sz n) (ho:σ.ob id=some (.cells T cs)) (hn:0<n) (hc:cs≠[]):σ.le (σ.gsO t id sz n T cs):=by
 rintro C nn a w ⟨m,R,hw⟩;have hs:∀ i,i≠id->obL [(id,some (Ob.gro T cs))] σ.ob i=σ.ob i:=fun i hi=>dJ _ _ _ (by simpa using hi)
 have hi:obL [(id,some (Ob.gro T cs))] σ.ob id=some (.gro T cs):=by simp [obL]
 refine ⟨m,R,⟨?_,?_,?_,hw.hr.inj,hw.hr.own,hw.hr.rsz,hw.hr.rfr,hw.hr.r0,hw.hr.frame,hw.hr.keep,hw.hr.res⟩,hw.df,hw.sz,?_⟩
 ·intro i;by_cases e:i=id
  ·subst e;rw [hw.hr.dom,ho];show _=bl (obL _ _ _);rw [hi];exact (bQ hc).symm
  ·show _=bl (obL _ _ _);rw [hs i e];exact hw.hr.dom i
 ·intro i h;by_cases e:i=id
  ·subst e;have:=hw.hr.free i h;rw [ho] at this;cases this
  ·show obL _ _ _=none;rw [hs i e];exact hw.hr.free i h
 ·intro i o b N h1 h2;by_cases e:i=id
  ·subst e;have h1':obL [(i,some (Ob.gro T cs))] σ.ob i=some o:=h1;rw [hi] at h1';cases h1';have q:=hw.hr.obj i _ b N ho h2;exact q
  ·have h1':obL [(id,some (Ob.gro T cs))] σ.ob i=some o:=h1;rw [hs i e] at h1';exact hw.hr.obj i o b N h1' h2
 ·intro q hq;show Rel w m σ.av R (upd σ.sl t (.gsl id sz n) q) _;by_cases e:q=t
  ·subst e;rw [au];have:=hw.sl q hq;rw [ht] at this;simp only [Rel] at this ⊢;obtain ⟨b,N,hm,_⟩:=hw.live ho;obtain ⟨h0,h1⟩:=this;obtain ⟨c,he,h2,h3,h4⟩:=h1 b N hm;exact ⟨h0,_,c,he,h2,h3,fun e=>by omega,fun _ b' N' hm'=>by rw [hm] at hm';cases hm';exact ⟨O,h4⟩⟩
  ·rw [aG _ _ e];exact hw.sl q hq
def St.nilS (σ:St) (t:Nat):St:=⟨upd σ.sl t (.pv nS),σ.ob,σ.av⟩
theorem St.rB {σ:St} {id sz:Nat} (t:Nat) (ht:σ.sl t= .gsl id sz 0):σ.le (σ.nilS t):=by
 rintro C nn a w ⟨m,R,hw⟩;refine ⟨m,R,hw.hr,hw.df,hw.sz,fun q hq=>?_⟩;show Rel w m σ.av R (upd σ.sl t (.pv nS) q) _;by_cases e:q=t
 ·subst e;rw [au];have:=hw.sl q hq;rw [ht] at this;simp only [Rel,RelP] at this ⊢;obtain ⟨_,A,c,he,h1,h2,h3,_⟩:=this;obtain ⟨rfl,rfl,_⟩:=h3 trivial;exact ⟨none,0,he,h1,h2,(fun _ e=>by cases e;rfl),(fun _=>rfl),fun e=>absurd O e⟩
 ·rw [aG _ _ e];exact hw.sl q hq
end Go.Proofs.YtedfonppffochaaGreatDoor
