/- Lemmas. No condition. -/
import Derived.Test.YtoplpepiabedhaaGreatDoorJC12
set_option maxRecDepth 100000
set_option maxHeartbeats 4000000
open Go.RowKit Go.Proofs.Tryz
open Option renaming some→Sh,none→Sl
open Bool renaming true→Sm,false→S1
namespace Go.Proofs.YtoplpepiabedhaaGreatDoor
variable{t:ByteArray}{i k j n:Nat}{l:List Bool}{S:Sch}{w w0 W:World}{R:Nat->Prop}{A:List Int}{T:TypeId}{cs:List PV}{z x y:Code}{u:Value}{m:Gm}{P:Program}{Q:PV->Prop}{σ:St}
section
open Go.RowKit Mk Jn Mm Vw
abbrev bV(E:List En):List PV:=E.map λe=>PV.str e.t
abbrev jU(E:List En):List PV:=E.map λe=>a7 e.v
noncomputable abbrev gvsV(E:List En):List PV:=E.map λe=>momP e.g.m
theorem jY(s t:ByteArray):keq (.str s) (.str t)=Sh (decide (t=s)):=by
 show Sh (s==t)=_;rw[jl]
 congr 1
 rw[RJ,Rt,S0];exact⟨λh=>(bytes_inj h).symm,λh=>by rw[h]⟩
theorem sf(t:ByteArray):∀(E:List En)(i:Nat),b8 (.str t) (bV E) i=Sh ((wb E t).map (i+ ·))
 |[],i=>rfl
 | e::E,i=>by
   show(match keq (.str t) (.str e.t)with|some Sm=>Sh (Sh i)|some S1=>b8 (.str t) (bV E) (i+1)|none=>Sl)=_;rw[jY,wb,List.findIdx?_cons];cases h:decide (e.t=t)with
   |true=>simp
   | false=>
     simp only[Sz,Up];rw[sf t E (i+1),wb];cases E.findIdx? λe=>decide (e.t=t)with
     |none=>rfl
     |some j=>simp;omega
theorem xK{E:List En}(h:wb E t=Sh i):b8 (.str t) (bV E) 0=Sh (Sh i):=by rw[sf,h];simp
theorem xw{E:List En}(h:wb E t=Sl):b8 (.str t) (bV E) 0=Sh Sl:=by rw[sf,h];rfl
theorem uc{E:List En}(h:wb E t=Sh i)(d:i<E.length)(f:En->PV):gy (.str t) (bV E) (E.map f)=Sh (Sh (f E[i])):=by
 unfold gy;rw[xK h];simp[d]
theorem F7{E:List En}(h:wb E t=Sl)(f:En->PV):gy (.str t) (bV E) (E.map f)=Sh Sl:=by
 unfold gy;rw[xw h]
theorem rH{E:List En}(r:EnOk E){e:En}(d:e∈E)(f:En->PV):gy (.str e.t) (bV E) (E.map f)=Sh (Sh (f e)):=by
 cases h:wb E e.t with
 |none=>exact absurd O (kF h e d)
 | some i=>
   obtain⟨hi,h1,_⟩:=Vw.fw h;rw[uc h hi];obtain⟨j,hj,rfl⟩:=Sp d;have:i=j:=by
    have q:(E.map (·.t))[i]'(by simpa using hi)=(E.map (·.t))[j]'(by simpa using hj):=by simpa using h1
    exact(List.getElem_inj r.nd).1 q
   subst this;rfl
theorem Lv{E:List En}(d:EnOk E):sX (bV E):=by
 unfold sX;rw[SM];have:=d.nd;rw[List.Nodup,SM]at this;exact this.imp fun{a b} h=>by rw[jY,Rv λe=>h e.symm]
theorem zL{E:List En}(h:wb E t=Sh i)(q:i<E.length)(x:En)(d:x.t=t)(f:En->PV):kN (.str t) (bV E)=bV (E.set i x)/\jS (.str t) (f x) (bV E) (E.map f)=(E.set i x).map f:=by
 unfold kN jS;rw[xK h];simp only;exact⟨by rw[<-d];simp[SH],by simp[SH]⟩
theorem zm{E:List En}(h:wb E t=Sl)(x:En)(d:x.t=t)(f:En->PV):kN (.str t) (bV E)=bV (E++[x])/\jS (.str t) (f x) (bV E) (E.map f)=(E++[x]).map f:=by
 unfold kN jS;rw[xw h];simp only;exact⟨by rw[<-d];simp,Vj⟩
theorem Hk{Q:List Par}(E:List En)(v:List ByteArray)(g:Gv)(J:∀e∈E,GvOk Q e.g/\e.g.w<=10^50/\e.g.k<=50)(L:GvOk Q g)(M:g.w<=10^50)(U:g.k<=50)(Y:v.length<=1000000)(V:(Lib.join (v.map (·.data.toList)) [0]).length<=140737488355328):
  FnO prog 123 2 0 [.agg [.map big,.map 9001],.pv (a7 v),.pv (momP g.m)] [(big,.mp (bV E) (jU E)),(9001,.mp (bV E) (gvsV E))] (λr ob'=>r= .tup []/\ob'=ax [(big,.mp (bV (vg E v g)) (jU (vg E v g))),(9001,.mp (bV (vg E v g)) (gvsV (vg E v g)))]):=by
 refine FnO.of func123 O ntmps123 Vj λm0 w0 F R0=>?_
 have I:FnP prog 204 [a7 v,.str ⟨#[0]⟩] (· = .str (jnt v)):=NN v ⟨#[0]⟩ Vf V;rcases eR E v g with⟨i,hi,hf,he,ht⟩|⟨hf,he,hn⟩
 .have hlk:=uc hf hi λe=>momP e.g.m
  obtain⟨hpk,hpv⟩:=zL hf hi ⟨jnt v,v,g.add E[i].g⟩ O λe=>a7 e.v
  have B:=(zL hf hi ⟨jnt v,v,g.add E[i].g⟩ O λe=>momP e.g.m).2;have G:=xK hf;obtain⟨o1,o2,o3⟩:=J _ (au hi);have H:=N8 (L.s.up (BY _) (Nat.le_max_left _ _)) (o1.s.up (BY _) (Nat.le_max_right g.k _)) M o2 (Nat.max_le.2 ⟨U,o3⟩);rw[he];simp only at B hpv;change jS _ (momP (Mm.Sem.add g.m E[i].g.m)) _ _=_ at B
  generalize E.set i ⟨jnt v,v,g.add E[i].g⟩=E' at*;generalize hD:E[i]=D at*;refine Z2 O<|Z1 O<|Rs O (aa call204 I O)<|A1 O<|Z3 O<|Rs O (uJ (zp:= .agg [.bool S1,.sl (Sh Sm) 0 [],.bool S1,.sl (Sh Sm) 0 [],.nilmap,.nilmap]) underlying108 underlying9 (.inl ⟨9001,O,O⟩) O O r9 O hlk O O) ?_;iterate 6 refine A1 O ?_
  refine Z1 O<|Gc O (λq=>?_) (λq=>absurd q Vj);refine Z2 O<|Rs O (aa call177 H O)<|A1 O<|RW 10 O ?_;iterate 8 refine D1 O ?_
  refine DL.step (d:=Sl) [_] O O O (λτ h=>cH underlying107 underlying9 (Ee h 0 O O) (Eo h 0 O O) (Ee h 1 O O) (Ee h 2 O O) O G hpk hpv) O Vg<|DL.step (d:=Sl) [_] O O O (λτ h=>cH underlying108 underlying9 (Ee h 0 O O) (Eo h 0 O O) (Ee h 1 O O) (Ee h 2 O O) O G hpk B) O Vg ?_;refine⟨Vg,?_⟩;exact⟨[],[(big,.mp (bV E') (jU E')),(9001,.mp (bV E') (gvsV E'))],[],Q5 trivial (aO Vg) O O,O,O,O,O,O⟩
 .have hlk:=F7 hf λe=>momP e.g.m
  obtain⟨hpk,hpv⟩:=zm hf ⟨jnt v,v,g⟩ O λe=>a7 e.v
  have B:=(zm hf ⟨jnt v,v,g⟩ O λe=>momP e.g.m).2;have G:=xw hf;rw[he];simp only at B hpv;generalize E++[⟨jnt v,v,g⟩]=E' at*;refine Z2 O<|Z1 O<|Rs O (aa call204 I O)<|A1 O<|Z3 O<|Rs O (uJ (zp:= .agg [.bool S1,.sl (Sh Sm) 0 [],.bool S1,.sl (Sh Sm) 0 [],.nilmap,.nilmap]) underlying108 underlying9 (.inl ⟨9001,O,O⟩) O O r9 O hlk O O) ?_;iterate 6 refine A1 O ?_
  refine Z1 O<|Gc O (λq=>absurd q Vj) (λq=>?_);refine Q3<|RW 10 O ?_;iterate 8 refine D1 O ?_
  refine DL.step (d:=Sl) [_] O O O (λτ h=>cH underlying107 underlying9 (Ee h 0 O O) (Eo h 0 O O) (Ee h 1 O O) (Ee h 2 O O) O G hpk hpv) O Vg<|DL.step (d:=Sl) [_] O O O (λτ h=>cH underlying108 underlying9 (Ee h 0 O O) (Eo h 0 O O) (Ee h 1 O O) (Ee h 2 O O) O G hpk B) O Vg ?_;refine⟨Vg,?_⟩;exact⟨[],[(big,.mp (bV E') (jU E')),(9001,.mp (bV E') (gvsV E'))],[],Q5 trivial (aO Vg) O O,O,O,O,O,O⟩
noncomputable abbrev itC(i:Itm):List PV:=a7 i.v::mcC (cn i.g.m)
noncomputable def itsC(l:List Itm):List PV:=l.flatMap itC
noncomputable abbrev ptC(p:Prt):List PV:=[aj p.a,.sl Sl p.is.length (itsC p.is)]
noncomputable abbrev ptP(p:Prt):PV:= .agg (ptC p)
noncomputable def ptsC(l:List Prt):List PV:=l.flatMap ptC
theorem rM(l:List Itm):(itsC l).length=l.length*7:=bY _ 7 (λ_=>rfl) l
theorem sH(l:List Prt):(ptsC l).length=l.length*2:=bY _ 2 (λ_=>rfl) l
theorem Kz{l:List Itm}(h:k<l.length):((itsC l).drop (k*7)).take 7=itC l[k]:=cC _ 7 (λ_=>rfl) l k h
theorem zJ{l:List Prt}(h:k<l.length):((ptsC l).drop (k*2)).take 2=ptC l[k]:=cC _ 2 (λ_=>rfl) l k h
theorem u7{l:List Itm}(h:i<l.length):itsC (l.take i)++itC l[i]=itsC (l.take (i+1)):=by
 rw[AI h];simp only[itsC,Sc,RC,Uu,Sk]
theorem OC{l:List Itm}(h:k<l.length):itsC l≠[]:=λe=>by have:=rM l;rw[e]at this;simp at this;omega
theorem Mq{l:List Prt}(h:k<l.length):ptsC l≠[]:=λe=>by have:=sH l;rw[e]at this;simp at this;omega
noncomputable abbrev vwP(E:List En):PV:= .agg [.mp (bV E) (jU E),.mp (bV E) (gvsV E)]
theorem DB(E:List En):p8 (E.map (·.t))=(HM E).map (·.t):=by
 refine(tz ((cT E).map _) ?_).symm;rw[SM];have:=Uz (le:=λa b:En=>decide (a.t.data.toList<=b.t.data.toList)) (by intro a b c h1 h2;simp only[Rt]at *; exact List.le_trans h1 h2) (by intro a b;simp only[Sg,Rt];exact List.le_total _ _) E;exact this.imp fun{a b} h=>K9.2 (by simpa using h)
theorem BQ(E:List En)(K:List Int)(hE:EnOk E)(hn:E.length<=1000000):FnP prog 199 [vwP E,aj K] (· =ptP (cW K E)):=by
 refine FnP.ofC func199 O ntmps199 Vj λm0 w0 F R0=>?_
 have G:=wG (bV E) (jU E);have d:=uz (E.map (·.t)) (jU E) (by simpa using hn);rw[show(E.map (·.t)).map PV.str=bV E by simp,DB]at d;have hd:=Lv hE;obtain⟨L,hL⟩:∃L,L=HM E:=⟨_,O⟩;have hLl:L.length=E.length:=by rw[hL];exact(cT E).length_eq
 have q:∀e∈L,e∈E:=λe he=>by rw[hL]at he;exact(cT E).mem_iff.1 he
 obtain⟨I,hI⟩:∃I:List Itm,I=L.map λe=>⟨e.v,e.g⟩:=⟨_,O⟩
 have hIl:I.length=L.length:=by rw[hI];simp
 have hv:cW K E=⟨K,I⟩:=by rw[hI,hL];rfl
 obtain⟨ts,hts⟩:∃ts:List ByteArray,ts=L.map (·.t):=⟨_,O⟩;have htl:ts.length=L.length:=by rw[hts];simp
 rw[<-hL,<-hts]at d;refine Z2 O<|Z4 O<|Q4 (St.da (T':=222) (cs:=[.pv (aj K),.pv nS]) 2 1 3 7 224 Vg O O)<|Z2 O<|Rs O (aa call288 G O)<|Rs O (aa call287 d O)<|Y2 O<|Gl O (st:=λVn:Nat=>mkS [(2,.ptr 0 0),(4,.ptr 1 0),(5,.ptr 2 0),(13,.pv (a7 ts)),(14,pIi ts.length),(15,pIi Vn)] [(0,.mix 110 [.pv (.mp (bV E) (jU E)),.pv (.mp (bV E) (gvsV E))]),(1,.mix 222 [.pv nS,.pv nS]),(2,.mix 222 [.pv (aj K),.gsl 3 7 Vn]),(3,.gro 224 (itsC (I.take Vn)))] 4)
  (I:=λVn=>Vn<=L.length) (μ:=λVn=>L.length-Vn) (x0:=(0)) (Q5 (aS O) (aO Vg) O O) (cd _) ?_
 rintro i hi;refine Z1 O<|Gp O (λB=>?_) (λB=>?_)
 .have hlt:i<L.length:=Vf;have r:i<ts.length:=Vf;have H:i<I.length:=Vf;have J:ts[i]=L[i].t:=by simp[hts]
  have M:I[i]=⟨L[i].v,L[i].g⟩:=by simp[hI]
  have U:=bE r;have hne:=bA r;rw[J]at U;have V:=rH hE (q _ (au hlt)) λe=>a7 e.v
  have Y:=rH hE (q _ (au hlt)) λe=>momP e.g.m
  have s:=u7 H;rw[M]at s;have htk:(itsC (I.take i)).length=i*7:=by rw[rM,Rr,SG Vf]
  generalize L[i]=e at*;refine Q3<|Z1 O ?_;first|refine A2 O Vi ?_|refine A1 O ?_
  refine A1 O<|Gr O ?_;iterate 5 refine A1 O ?_
  refine Rs O (gM (zp:= .sl (Sh Sm) 0 []) underlying107 underlying9 (.inr (.inl ⟨O,hd⟩)) O O Qw O V O)<|Y3 O<|Rs O (gM (zp:= .agg [.bool S1,.sl (Sh Sm) 0 [],.bool S1,.sl (Sh Sm) 0 [],.nilmap,.nilmap]) underlying108 underlying9 (.inr (.inl ⟨O,hd⟩)) O O r9 O Y O) ?_;iterate 5 refine A1 O ?_
  exact Z2 O<|⟨(i+1),Q6 [0,1,2,5] (aT O) ⟨Vg,Vg,Vg,RI (b:=Sh (.gro 224 (itsC (I.take i)++itC ⟨e.v,e.g⟩))) Vg (ag (λc=>Sh (Ob.gro 224 c)) s),Vm⟩ O O Vh O,hlt,Vf⟩
 .have hie:I.take i=I:=aQ Vf;have Z:i=I.length:=Vf;rw[hie,Z];exact Gx O<|Q4 (Q8 (o:= .gro 224 (itsC I)) 3 Vg O)<|Z2 O<|Gt O<|⟨_,_,O,O,⟨az ⟨_,underlying222,O⟩ JO O O O,Vm⟩,by rw[hv];rfl⟩
abbrev Pn(l:List Bool):PV:= .sl Sl l.length (l.map PV.bool)
abbrev chsC(x:Ch):List PV:=[a7 x.v,Pn x.s]
abbrev QU(x:Ch):PV:= .agg (chsC x)
theorem QR(h:k<l.length):(l.map PV.bool)[k*1]? =Sh (.bool l[k]):=by simp[h]
theorem QN(h:k<l.length):l.map PV.bool≠[]:=λe=>by rw[TN]at e;subst e;simp at h
theorem vz(l:List ByteArray)(q:0<l.length)(r:l.length<=1000000):FnO prog 117 0 1 [.pv (a7 l)] [] (λv ob'=>v= .osl 0 1 l.length/\ob'=ax [(0,.cells 9 (bD l))]):=by
 refine FnO.of func117 O ntmps117 Vj λm0 w0 F R0=>?_
 refine Z1 O<|Z1 O<|RL.call O (eP underlying39 O ?_);intro b hb;refine Gc O (λd=>absurd d (by have:=TN.1 (hb d);subst this;simp at q)) (λd=>?_);refine Q3<|Gr O<|Rs O (cz 0 Cr O)<|A1 O<|Rs O (dB 1 Cr O O O (.inl ⟨Sl,O⟩) Vj (λc hc=>by obtain⟨y,_,rfl⟩:=By.1 hc;rfl) Vf O) ?_;exact A1 O<|Gt O<|⟨[(2,.osl 0 1 l.length)],[(0,.cells 9 (bD l))],[.osl 0 1 l.length],Q6 [1] ⟨RI (b:=V.osl 1 1 (0+l.length)) O (by rw[RV];rfl),Vm⟩ ⟨RI (b:=Sh (Ob.cells 9 ([]++bD l))) O (by rw[Sr];rfl),Vm⟩ O O Vh O,O,O,O,O,O⟩
end


















section
open Mk Jn
def pZ(S:Sch)(d:List (List Rw))(k:Nat):List (List Rw):=(List.zipWith (λr l=>nT S r.2 l) S.rels d).take k
def cM(S:Sch)(d:List (List Rw)):List (List Rw):=List.zipWith (λr l=>nT S r.2 l) S.rels d
theorem qD{d:List (List Rw)}(q:d.length=S.rels.length)(r:k<S.rels.length):pZ S d (k+1)=pZ S d k++[nT S S.rels[k].2 (d[k]'Vf)]:=by
 unfold pZ;rw[AI Vk,List.getElem_zipWith]
theorem tO{d:List (List Rw)}(q:d.length=S.rels.length):pZ S d S.rels.length=cM S d:=aQ Vk
theorem vL{d:List (List Rw)}(q:d.length=S.rels.length)(r:k<=S.rels.length):(pZ S d k).length=k:=by
 unfold pZ;simp;omega
end



section
open Mk Jn
theorem n0:NumOk ⟨#[48]⟩:=⟨Vh,Vg,⟨Vg,by decide+kernel⟩,λh=>absurd h (by decide+kernel)⟩
theorem n1:NumOk ⟨#[49]⟩:=⟨Vh,Vg,⟨Vg,by decide+kernel⟩,λh=>absurd h (by decide+kernel)⟩
theorem n2:NumOk ⟨#[50]⟩:=⟨Vh,Vg,⟨Vg,by decide+kernel⟩,λh=>absurd h (by decide+kernel)⟩
theorem n3:NumOk ⟨#[51]⟩:=⟨Vh,Vg,⟨Vg,by decide+kernel⟩,λh=>absurd h (by decide+kernel)⟩
theorem nm2:NumOk ⟨#[45,50]⟩:=⟨Vh,Vg,⟨Vg,by decide+kernel⟩,λh=>absurd h (by decide+kernel)⟩
theorem nh:NumOk ⟨#[49,47,50]⟩:=⟨Vh,Vg,⟨Vg,by decide+kernel⟩,λ_=>⟨Vg,by decide+kernel,by decide+kernel⟩⟩
theorem n53:NumOk ⟨#[53,47,51]⟩:=⟨Vh,Vg,⟨Vg,by decide+kernel⟩,λ_=>⟨Vg,by decide+kernel,by decide+kernel⟩⟩
theorem Cj(nm v:ByteArray)(kd:Int)(q:kd=1\/kd=2\/kd=3)(d:v∈iB kd):FnP prog 166 [.agg [.str nm,.int .i64 kd],.str v] (· = .bool Sm):=by
 rcases q with rfl|rfl|rfl
 .refine pM nm v ?_;simp only[iB,uZ,AS,Sn,T7]at d;rcases d with rfl|d
  .exact .inl O
  .right
   simp at d;rcases d with rfl|rfl|rfl<;>exact⟨Vg,by decide+kernel⟩
 .by_cases hne:v=⟨#[]⟩
  .rw[hne];exact Br nm
  .refine FZ nm v ?_ hne;simp only[iB,CF,AS,Sn,T7]at d;have d:=d.resolve_left hne;simp at d;rcases d with rfl|rfl|rfl|rfl|rfl|rfl|rfl|rfl
   .exact n0
   .exact n1
   .exact nm2
   .exact nh
   .exact n3
   .exact n53
   .exact n1
   .exact n2
 .refine F8 nm v ?_;simp only[iB,Lp,AS,Sn,T7]at d;rcases d with rfl|d
  .exact .inl O
  .right
   simp at d;rcases d with rfl|rfl|rfl<;>exact⟨Vg,Vh⟩
theorem qR:∀{l:List ByteArray}{us:List Value},RelPL w R (bD l) us->us=l.map Value.string
 |[],us,h=>by simpa[RelPL]using h
 | x::l,us,h=>by
   simp only[bP,RelPL,RelP]at h;obtain⟨u,vs,rfl,rfl,h2⟩:=h;rw[qR h2];rfl
theorem Ai(r:∀b,R b->b<w.heap.size){l:List ByteArray}{us:List Value}{ps:List PV}(h:RelPL w R (a7 l::ps) us):∃A c vs,us= .slice A l.length c::vs/\Row w R A (Oy l)/\RelPL w R ps vs:=by
 simp only[RelPL,RelP]at h;obtain⟨u,vs,rfl,⟨A,c,rfl,_,_,_,_,h5⟩,h6⟩:=h;refine⟨A,c,vs,O,λd=>?_,h6⟩;obtain⟨b,off,us,rfl,h6,h7,h8⟩:=h5 (λe=>d (by rw[TN]at e ⊢; exact e));have q:us=l.map Value.string:=qR h6;subst q;exact⟨b,off,O,h7,r b h7,h8⟩
theorem Nr(a b:List ByteArray)(q:a.length<=1000000)(r:b.length<=1000000):FnP prog 53 [a7 a,a7 b] (· = .int .i64 (tf a b)):=by
 intro w R us hG hR hrel;obtain⟨A,c,vs,rfl,r1,h1⟩:=Ai hR hrel;obtain⟨B,d,vs,rfl,r2,h2⟩:=Ai hR h1;obtain rfl:=(by simpa[RelPL]using h2:vs=[]);exact(zV A B c d a b w r1 r2 q r).mono λe w' ⟨he,hw⟩=>⟨_,_,he,O,by rw[<-hw];exact Below.refl _ _,by simp only[RelP]⟩
theorem PN(a b:List ByteArray):decide (tf a b<0)=br a b:=by
 unfold tf;cases h:br a b with
 |true=>rw[AT O];rfl
 |false=>rw[dt Vh];by_cases h2:a=b<;>simp[h2]
theorem qU(a b:List ByteArray)(d:a.length<=1000000)(q:b.length<=1000000):FnP prog 167 [a7 a,a7 b] (· = .bool (br a b)):=by
 refine FnP.of func167 O ntmps167 Vj λm0 w0 F R0=>?_
 have hc:=Nr a b d q;exact Z1 O<|Z2 O<|Rs O (aa call53 hc O)<|Y2 O<|Gt O<|⟨_,_,O,O,ag PV.bool (PN a b)⟩
end
section
open Mk Jn
structure RowOk(S:Sch)(A:List Int)(low:Int)(x:Rw):Prop where
 l:x.v.length=A.length
 v:∀i (h:i<x.v.length) (h2:i<A.length),∀nm,FnP prog 166 [.agg [.str nm,.int .i64 (S.attrs.getD A[i].toNat default).2],.str x.v[i]] (· = .bool Sm)
 w:x.w≠0/\low<=x.w/\x.w<=100
theorem qY{a:Nat}(h:a<S.attrs.length):S.attrs.getD a default=S.attrs[a]:=by simp[List.getD,h]
theorem wh(S:Sch)(hS:SJn S)(nm:ByteArray)(A:List Int)(hA:A.length<=1000)(L:∀a∈A,0<=a/\a<S.attrs.length)(low:Int)(x:Rw)(M:RowOk S A low x):FnP prog 342 [eS S,.agg [.str nm,aj A],rowP x] (· = .bool Sm):=by
 refine FnP.of func342 O ntmps342 Vj λm0 w0 F R0=>?_
 have U:=M.l;have V:=hS.a;refine Z4 O<|Z4 O<|Gl O (st:=λVn:Nat=>mkS [(3,.ptr 0 0),(5,.ptr 2 0),(10,.pv (aj A)),(11,pIi A.length),(12,pIi Vn)] [(0,oZ S),(2,.mix 41 [.pv (a7 x.v),pIi x.w])] 3)
  (I:=λVn=>Vn<=A.length) (μ:=λVn=>A.length-Vn) (x0:=(0)) (Q5 (aS O) (aO O) O O) (cd _) ?_
 rintro j hj;refine Z1 O<|Gp O (λB=>?_) (λB=>?_)
 .have hlj:j<A.length:=Vf;obtain⟨a,haa⟩:=Rm (L _ (au hlj)).1;have d:a<S.attrs.length:=by have:=(L _ (au hlj)).2;omega
  have E:(aE A)[j*1]? =Sh (.int .i64 (a:Int)):=by rw[<-haa];simp[hlj]
  have Y:=aD hlj;have q:j<x.v.length:=Vf;have G:=bE q;have H:=bA q;have Z:=ln d;have J:=iu d;have s:=M.v j q hlj S.attrs[a].1;rw[haa,RH,qY d]at s;refine Q3<|Z2 O<|Rs O (aq ⟨_,underlying3,O⟩ O E)<|Y2 O<|RW 12 O ?_;iterate 3 refine D1 O ?_
  refine Ds [] O (λτ h=>ae a underlying26 lZ (Ee h 0 O O) (Ee h 1 O O) O d J) O Vg ?_;first|refine D3 O O Vi ?_|refine D1 O ?_
  iterate 3 refine D1 O ?_
  refine Ds [] O (λτ h=>ae j underlying39 sz9 (Ee h 0 O O) (Ee h 1 O O) O q H) O Vg<|Ds [] O (λτ h=>aq ⟨_,underlying9,O⟩ (Ee h 0 O O) G) O Vg<|Ds [] O (λτ h=>aa call166 s (h.aK O)) O Vg<|D1 O ?_;refine⟨Vg,?_⟩;refine Gc O (λr=>absurd r Vj) (λr=>?_);exact Q3<|Z2 O<|⟨(j+1),Q5 (aS O) (aO O) O O,Vf,Vf⟩
 .exact Gx O<|Z1 O<|Gt O<|⟨_,_,O,O,O⟩
structure TblOk(S:Sch)(A:List Int)(low:Int)(l:List Rw):Prop where
 row:∀x∈l,RowOk S A low x
 asc:LO l
theorem F6{l:List Rw}(h:LO l)(d:k+1<l.length):br l[k].v l[k+1].v=Sm:=by
 unfold LO at h;rw[Sv]at h;exact h k (k+1) Vf d Vf
theorem uS(S:Sch)(hB:SB S)(hS:SJn S)(hV:bz S=0)(r:Nat)(hr:r<S.rels.length)(l:List Rw)(most low:Int)(hm:(l.length:Int)<=most)(hl:l.length<=1000)(hT:TblOk S S.rels[r].2 low l):FnP prog 286 [eS S,.int .i64 r,mH l,.int .i64 most,.int .i64 low] (· = .int .i64 0):=by
 refine FnP.of func286 O ntmps286 Vj λm0 w0 F R0=>?_
 have B:=sD S hB;rw[hV]at B;have hrow:=dK hr;have hrne:=gF hr;have hrl:=hS.l _ (au hr);have hrb:=hS.b _ (au hr);have hSr:=hS.r;have Y:=fun(x:Rw)(hx:RowOk S S.rels[r].2 low x)=>wh S hS S.rels[r].1 S.rels[r].2 hrl hrb low x hx
 have Z:=hT.row;have hTa:=hT.asc;clear hT;generalize S.rels[r]=rr at*;refine Z2 O<|Z1 O<|Rs O (aa call159 B O)<|Y2 O<|Gc O (λE=>absurd E Vj) (λE=>?_);refine Z3 O ?_;apply Re 6 23 29 [24,25,26,27,28] O Vp
 .intro hb2;iterate 6 refine A1 O ?_
  exact Q7 Vo O O O
 .intro hb2;iterate 6 refine A1 O ?_
  exact Q7 Vo O O O
 refine A1 O<|Gc O (λG=>absurd G (λh=>by simp at h;omega)) (λG=>?_);refine Gr O ?_;iterate 5 refine A1 O ?_
 refine Gp O (λH=>absurd H Vf) (λH=>?_);refine Q3<|Z4 O ?_;first|refine A3 O Vi ?_|refine A1 O ?_
 refine Y2 O<|Z3 O<|Gl O (st:=λVn:Nat=>mkS [(2,.pv (mH l)),(4,pIi low),(5,.ptr 0 0),(11,.ptr 1 0),(40,.pv (mH l)),(41,pIi l.length),(42,pIi Vn)] [(0,oZ S),(1,.mix 74 [.pv (.str rr.1),.pv (aj rr.2)])] 2)
  (I:=λVn=>Vn<=l.length) (μ:=λVn=>l.length-Vn) (x0:=(0)) (Q5 (aS O) (aO O) O O) (cd _) ?_
 rintro k hk;refine Z1 O<|Gp O (λac=>?_) (λac=>?_)
 .have hlt:k<l.length:=Vf;have hrw:=dY hlt;have hrn:=gV hlt;have s:=Z _ (au hlt);have hvk:=Y _ s;have hxl:=s.l;obtain⟨hw1,hw2,hw3⟩:=s.w;have U:0<k->∃q:k-1<l.length,br (l[k-1]'q).v l[k].v=Sm:=λh0=>by
   obtain⟨j,rfl⟩:∃j,k=j+1:=⟨k-1,Vf⟩;exact⟨by simp only[Nat.add_sub_cancel];omega,by simpa using F6 hTa hlt⟩
  have hpl:∀q:k-1<l.length,(l[k-1]'q).v.length=rr.2.length:=λq=>(Z _ (au q)).l
  have hpr:∀q:k-1<l.length,(a8 l)[(k-1)*2]? =Sh (a7 (l[k-1]'q).v):=λq=>El q
  clear s;generalize l[k]=x at*;refine Q3<|Z2 O ?_;first|refine A3 O Vi ?_|refine A1 O ?_
  refine Y3 O<|Gr O ?_;iterate 8 refine A1 O ?_
  refine Gc O (λJ=>absurd J Vk) (λJ=>?_);refine Z3 O<|Rs O (aa call342 hvk O)<|Y2 O<|Gc O (λL=>absurd L Vj) (λL=>?_);refine Z4 O ?_;apply Re 5 65 70 [66,67,68,69] O Vp
  .intro hb3;iterate 5 refine A1 O ?_
   exact Q7 Vo O O O
  .intro hb3;iterate 5 refine A1 O ?_
   exact Q7 Vo O O O
  refine A1 O ?_;apply Re 4 71 75 [72,73,74] O Vp
  .intro hb9;iterate 4 refine A1 O ?_
   exact Q7 Vo O O O
  .intro hb9;iterate 4 refine A1 O ?_
   exact Q7 Vo O O O
  refine A1 O<|Gc O (λM=>absurd M (λh=>by simp at h;omega)) (λM=>?_);by_cases hk0:k=0
  .refine RW 15 O<|D1 O<|Ds [] O (λτ h=>XJ.cast (v':= .pv (.bool S1)) (aC (Ee h 0 O O) (Ee h 1 O O) O) (ag (λb=>V.pv (.bool b)) (Rv Vf))) O Vg ?_;iterate 13 refine D1 O ?_
   refine⟨Vg,?_⟩;refine Gc O (λd=>absurd d Vj) (λd=>?_);exact Q3<|Z2 O<|⟨(k+1),Q5 (aS O) (aO O) O O,Vf,Vf⟩
  .obtain⟨q,hls⟩:=U Vf;have ab:=qU _ x.v (by rw[hpl q];omega) Vf;rw[hls]at ab;have hpq:=hpr q;refine RW 15 O<|D1 O<|Ds [] O (λτ h=>XJ.cast (v':= .pv (.bool Sm)) (aC (Ee h 0 O O) (Ee h 1 O O) O) (ag (λb=>V.pv (.bool b)) (Ru Vf))) O Vg ?_;iterate 4 refine D1 O ?_
   refine Dg [] O (λτ h=>ae (k-1) underlying38 Kh (Ee h 0 O O) (Ee h 1 O O) Vf q hrn) O Vg<|D1 O<|Dg [] O (λτ h=>aq ⟨_,underlying39,O⟩ (Ee h 0 O O) hpq) O Vg ?_;iterate 2 refine D1 O ?_
   refine Dg [] O (λτ h=>aa call167 ab (h.aK O)) O Vg ?_;iterate 3 refine D1 O ?_
   refine⟨Vg,?_⟩;refine Gc O (λd=>absurd d Vj) (λd=>?_);exact Q3<|Z2 O<|⟨(k+1),Q5 (aS O) (aO O) O O,Vf,Vf⟩
 .exact Gx O<|Z1 O<|Gt O<|⟨_,_,O,O,O⟩
theorem KY(S:Sch)(hB:SB S)(hS:SJn S)(q:bz S=0)(r:Nat)(d:r<S.rels.length)(l:List Rw)(B:l.length<=60)(s:TblOk S S.rels[r].2 1 l):FnP prog 197 [eS S,.int .i64 r,mH l] (· = .int .i64 0):=by
 refine FnP.of func197 O ntmps197 Vj λm0 w0 F R0=>?_
 have d:=uS S hB hS q r d l 60 1 Vf Vf s;exact Z2 O<|Z3 O<|Rs O (aa call286 d O)<|A1 O<|Gt O<|⟨_,_,O,O,O⟩
theorem yO(S:Sch)(hB:SB S)(hS:SJn S)(M:bz S=0)(d:List (List Rw))(hd:d.length=S.rels.length)(Y:∀l∈d,l.length<=60)(Z:∀r (h:r<d.length) (h2:r<S.rels.length),TblOk S S.rels[r].2 1 d[r]):FnP prog 111 [eS S,dbP d] (· = .int .i64 0):=by
 refine FnP.of func111 O ntmps111 Vj λm0 w0 F R0=>?_
 have q:=sD S hB;rw[M]at q;have U:=hS.r;have V:=gB d;refine Z2 O<|Z1 O<|Rs O (aa call159 q O)<|A1 O<|Z2 O<|Gc O (λE=>?_) (λE=>?_)
 .exact Z2 O<|Gt O<|⟨_,_,O,O,O⟩
 .refine Q3<|Gr O ?_;iterate 6 refine A1 O ?_
  refine Gc O (λs=>absurd s Vk) (λs=>?_);refine Q3<|Z3 O<|Gl O (st:=λVn:Nat=>mkS [(2,.ptr 0 0),(20,.pv (dbP d)),(21,pIi d.length),(22,pIi Vn)] [(0,oZ S)] 1)
   (I:=λVn=>Vn<=d.length) (μ:=λVn=>d.length-Vn) (x0:=(0)) (Q5 (aS O) (aO O) O O) (cd _) ?_
  rintro k hk;refine Z1 O<|Gp O (λG=>?_) (λG=>?_)
  .have hlt:k<d.length:=Vf;have H:=r7 hlt;have J:=lJ hlt;have L:=KY S hB hS M k Vf d[k] (Y _ (au hlt)) (Z k hlt Vf);generalize d[k]=tk at*;refine Q3<|Z1 O<|Rs O (ae k underlying34 Pf O O O hlt J)<|Rs O (aq ⟨_,underlying38,O⟩ O H)<|Y2 O<|Z3 O<|Rs O (aa call197 L O)<|A1 O<|Z2 O<|Gc O (λB=>absurd B Vj) (λB=>?_);exact Q3<|Z2 O<|⟨(k+1),Q5 (aS O) (aO O) O O,Vf,Vf⟩
  .exact Gx O<|Z1 O<|Gt O<|⟨_,_,O,O,O⟩
end

section
open Mk Jn
structure DbOk(S:Sch)(d:List (List Rw)):Prop where
 hB:SB S
 hc:bz S=0
 hS:SJn S
 n:d.length=S.rels.length
 l:∀l∈d,l.length<=12
 t:∀r (h:r<d.length) (h2:r<S.rels.length),TblOk S S.rels[r].2 1 d[r]
 zf:∀l∈d,∀x∈l,∀y∈x.v,Zf y/\y.size<=10000



end
section
open Go.RowKit Mk Jn Mm Vw
theorem ux(l:List Bool)(q:0<l.length)(r:l.length<=1000000):FnO prog 205 0 1 [.pv (Pn l)] [] (λv ob'=>v= .osl 0 1 l.length/\ob'=ax [(0,.cells 4 (cj l))]):=by
 refine FnO.of func205 O ntmps205 Vj λm0 w0 F R0=>?_
 refine Z1 O<|Z1 O<|RL.call O (eP underlying215 O ?_);intro b hb;refine Gc O (λd=>absurd d (by have:=TN.1 (hb d);subst this;simp at q)) (λd=>?_);refine Q3<|Gr O<|Rs O (cz 0 KW O)<|A1 O<|Rs O (dB 1 KW O O O (.inl ⟨Sl,O⟩) Vj (λc hc=>by obtain⟨y,_,rfl⟩:=By.1 hc;rfl) Vf O) ?_;exact A1 O<|Gt O<|⟨[(2,.osl 0 1 l.length)],[(0,.cells 4 (cj l))],[.osl 0 1 l.length],Q6 [1] ⟨RI (b:=V.osl 1 1 (0+l.length)) O (by rw[RV];rfl),Vm⟩ ⟨RI (b:=Sh (Ob.cells 4 ([]++cj l))) O (by rw[Sr];rfl),Vm⟩ O O Vh O,O,O,O,O,O⟩
theorem nw1{av:Av}{b:Nat}(d:av b=Sm):(nwO b 1).all av=Sm:=by
 show(av (b+0)&&Sm)=Sm;rw[Uv,d];rfl
theorem Qe{V:List ByteArray}(h:V.length=A.length)(d:j<A.length):(A.zip V)[j]? =Sh (A[j],V[j]'Vf):=by
 rw[Hj Vk,List.getElem_zip]
theorem zc{V:List ByteArray}(h:V.length=A.length)(d:j<A.length):(A.zip V).take (j+1)=(A.zip V).take j++[(A[j],V[j]'Vf)]:=by
 rw[List.take_add_one,Qe h d];rfl
def EO(x:Ch)(A:List Int)(V:List ByteArray):PV:=if B5 x A V=Sm then .tup [QU (pR x A V),.bool Sm]else .tup [.agg [.sl Sl 0 [],.sl Sl 0 []],.bool S1]
theorem D8(x:Ch)(A:List Int)(V:List ByteArray)(n:Nat)(h0:0<n)(hn:n<=1000000)(hx:x.v.length=n)(hs:x.s.length=n)(hA:A.length<=1000000)(hV:V.length=A.length)(hr:∀a∈A,0<=a/\a<n):FnP prog 124 [QU x,aj A,a7 V] (· =EO x A V):=by
 refine FnP.fg2 (FnP.ofC func124 O ntmps124 Vj λm0 w0 F R0=>?_);have hc1:=vz x.v Vf Vf;have hc2:=ux x.s Vf Vf;have hzl:(A.zip V).length=A.length:=by simp;omega
 refine Z3 O<|Z3 O<|Gl O (st:=λVn:Nat=>mkS [(1,.pv (aj A)),(2,.pv (a7 V)),(3,.ptr 0 0),(6,.ptr 1 0),(13,.pv (aj A)),(14,pIi A.length),(15,pIi Vn)] [(0,.mix 217 [.pv (a7 x.v),.pv (Pn x.s)]),(1,.mix 217 [.pv nS,.pv nS])] 2)
  (I:=λVn=>Vn<=A.length/\((A.zip V).take Vn).all (Qx x)=Sm) (μ:=λVn=>A.length-Vn) (x0:=(0)) (Q5 (aS O) (aO Vg) O O) (⟨cd _,O⟩) ?_
 rintro j ⟨hj,hall⟩;refine Z1 O<|Gp O (λaa=>?_) (λaa=>?_)
 .have hlj:j<A.length:=Vf;have G:=zc hV hlj;obtain⟨a,haa⟩:=Rm (hr _ (au hlj)).1;have hal:a<n:=by have:=(hr _ (au hlj)).2;omega
  have L:(aE A)[j*1]? =Sh (.int .i64 (a:Int)):=by rw[<-haa];simp[hlj]
  have hpn:=aD hlj;have H:j<V.length:=Vf;have M:=bE H;have hsn:=bA H;have U:a<x.v.length:=Vf;have Y:a<x.s.length:=Vf;have J:=QR Y;have hbn:=QN Y;have hnv:=bE U;have hnn:=bA U;have B:Qx x (A[j],V[j])=(!x.s[a]||decide (x.v[a]=V[j])):=by simp[Qx,haa,List.getD,U,Y]
  refine Q3<|Z2 O<|Rs O (aq ⟨_,underlying3,O⟩ O L)<|Y2 O ?_;by_cases hsg:x.s[a]=Sm
  .rw[hsg]at J B;refine RW 17 O ?_;iterate 4 refine D1 O ?_
   refine Ds [] O (λτ h=>aq ⟨_,underlying4,O⟩ (Ee h 0 O O) J) O Vg ?_;iterate 5 refine D1 O ?_
   refine Dg [] O (λτ h=>aq ⟨_,underlying9,O⟩ (Ee h 0 O O) hnv) O Vg ?_;iterate 3 refine D1 O ?_
   refine Dg [] O (λτ h=>aq ⟨_,underlying9,O⟩ (Ee h 0 O O) M) O Vg ?_;iterate 2 refine D1 O ?_
   refine⟨Vg,?_⟩;refine Gc O (λq=>?_) (λq=>?_)
   .have hne:x.v[a]≠V[j]:=λe=>by rw[e]at q;simp at q
    have hf:B5 x A V=S1:=by
     unfold B5;rw[<-Sb (j+1) (A.zip V),US,G,US];simp[B,hne]
    exact Z3 O<|Gt O<|⟨_,_,O,O,⟨az ⟨_,underlying217,O⟩ QC O O O,Vm⟩,by rw[EO,dt (by rw[hf];decide)];rfl⟩
   .have heq:x.v[a]=V[j]:=Nz q;exact Q3<|Z2 O<|⟨(j+1),Q5 (aS O) (aO Vg) O O,⟨Vf,by rw[G,US,hall];simp[B,heq]⟩,Vf⟩
  .rw[Tq hsg]at J B;refine RW 17 O ?_;iterate 4 refine D1 O ?_
   refine Ds [] O (λτ h=>aq ⟨_,underlying4,O⟩ (Ee h 0 O O) J) O Vg ?_;iterate 12 refine D1 O ?_
   refine⟨Vg,?_⟩;refine Gc O (λq=>?_) (λq=>?_)
   .exact absurd q Vh
    done
   .exact Q3<|Z2 O<|⟨(j+1),Q5 (aS O) (aO Vg) O O,⟨Vf,by rw[G,US,hall];simp[B]⟩,Vf⟩
 .have B:B5 x A V=Sm:=by rw[aQ Vf]at hall;exact hall
  refine Gx O<|RW 9 O ?_;iterate 2 refine D1 O ?_
  refine Ds [] O (λτ h=>bt [] 2 call117 hc1 (h.args.trans O) O O O trivial Vh (nw1 (h.n 0 _ O))) O Vg ?_;iterate 2 refine D1 O ?_
  refine Ds [] O (λτ h=>bt [] 3 call205 hc2 (h.args.trans O) O O O trivial Vh (nw1 (h.n 0 _ O))) O Vg ?_;iterate 3 refine D1 O ?_
  refine⟨Vg,?_⟩;refine Z3 O<|Gl O (st:=λr:Nat×Ch=>mkS [(2,.pv (a7 V)),(6,.ptr 1 0),(10,.ptr 4 0),(46,.pv (aj A)),(47,pIi A.length),(48,pIi r.1)] [(1,.mix 217 [.pv nS,.pv nS]),(2,.cells 9 (bD r.2.v)),(3,.cells 4 (cj r.2.s)),(4,.mix 217 [.osl 2 1 x.v.length,.osl 3 1 x.s.length])] 5)
   (I:=λr=>r.1<=A.length/\r.2=((A.zip V).take r.1).foldl rO x) (μ:=λr=>A.length-r.1) (x0:=(0,x)) (Q5 (aS O) (aO Vg) O O) (⟨cd _,O⟩) ?_
  rintro⟨j,y⟩ ⟨hj,hy⟩;try simp only at hj hy ⊢
  have E:=yJ ((A.zip V).take j) x;rw[<-hy]at E;refine Z1 O<|Gp O (λab=>?_) (λab=>?_)
  .have hlj:j<A.length:=Vf;have G:=zc hV hlj;obtain⟨a,haa⟩:=Rm (hr _ (au hlj)).1;have hal:a<n:=by have:=(hr _ (au hlj)).2;omega
   have L:(aE A)[j*1]? =Sh (.int .i64 (a:Int)):=by rw[<-haa];simp[hlj]
   have hpn:=aD hlj;have H:j<V.length:=Vf;have M:=bE H;have hsn:=bA H;have Z:rO y (A[j],V[j])=⟨y.v.set a V[j],y.s.set a Sm⟩:=by simp[rO,haa]
   have e1:(bD y.v).set (a*1) (.str V[j])=bD (y.v.set a V[j]):=by simp[SH]
   have e2:(cj y.s).set (a*1) (.bool Sm)=cj (y.s.set a Sm):=by simp[SH]
   have hl1:(bD y.v).length=x.v.length:=by simp[E.1]
   have hl2:(cj y.s).length=x.s.length:=by simp[E.2]
   refine Q3<|Z2 O<|Rs O (aq ⟨_,underlying3,O⟩ O L)<|Y2 O<|RW 14 O ?_;iterate 9 refine D1 O ?_
   refine Ds [] O (λτ h=>aq ⟨_,underlying9,O⟩ (Ee h 0 O O) M) O Vg<|Ds [_] O (λτ h=>ak a underlying39 sz9 (Ee h 0 O O) (Eo h 0 O O) (Ee h 1 O O) O Vf) O Vg<|DL.step (d:=Sl) [_] O O O (λτ h=>bQ sz9 (Ee h 0 O O) (Eo h 0 O O) (Ee h 1 O O) O Vf) O Vg<|Ds [_] O (λτ h=>ak a underlying215 sz4 (Ee h 0 O O) (Eo h 0 O O) (Ee h 1 O O) O Vf) O Vg<|DL.step (d:=Sl) [_] O O O (λτ h=>bQ sz4 (Ee h 0 O O) (Eo h 0 O O) (Ee h 1 O O) O Vf) O Vg ?_;refine⟨Vg,?_⟩;exact Z2 O<|⟨(j+1,⟨y.v.set a V[j],y.s.set a Sm⟩),Q5 (aS O) ⟨Vg,ag (λc=>Sh (Ob.cells 9 c)) e1,ag (λc=>Sh (Ob.cells 4 c)) e2,Vg,Vm⟩ O O,⟨Vl,by simp only;rw[G,Uf,<-hy,Tf,List.foldl_nil,Z]⟩,Vl⟩
  .have hye:y=pR x A V:=by rw[hy,aQ Vf];rfl
   rw[hye]at E;rw[hye];exact Gx O<|Q4 (Q8 (o:= .cells 9 (bD (pR x A V).v)) 2 Vg O)<|Q4 (Q8 (o:= .cells 4 (cj (pR x A V).s)) 3 Vg O)<|Z3 O<|Gt O<|⟨_,_,O,O,⟨az ⟨_,underlying217,O⟩ QC O O O,Vm⟩,by rw[EO,AT B,<-E.1,<-E.2];rfl⟩
end
section
open Go.RowKit Mk Jn Mm Vw
noncomputable abbrev vwC:Option (List En)->List PV
 |none=>[.nilmap,.nilmap]
 |some E=>[.mp (bV E) (jU E),.mp (bV E) (gvsV E)]
noncomputable def vwsC(vs:List (Option (List En))):List PV:=vs.flatMap vwC
theorem wK(o:Option (List En)):(vwC o).length=2:=by cases o<;>rfl
theorem nE(vs:List (Option (List En))):(vwsC vs).length=vs.length*2:=bY _ 2 wK vs
theorem AR{vs:List (Option (List En))}(h:k<vs.length):((vwsC vs).drop (k*2)).take 2=vwC vs[k]:=cC _ 2 wK vs k h
noncomputable abbrev bldM(S:Sch)(D:VD)(T:List (List Rw))(n:Nat)(left:Int):List V:=[.pv (.sl Sl S.attrs.length (aG S.attrs)),.pv (.sl Sl S.rels.length (aM S.rels)),.pv (.sl Sl S.feats.length (aH S.feats)),pIi S.label,.pv (aW D.chs),.pv (aW D.kes),.pv (aW D.hos),.pv (aj D.wa),.pv (dbP T),.osl 9001 2 n,pIi left]
noncomputable abbrev bldO(S:Sch)(D:VD)(T:List (List Rw))(n:Nat)(left:Int)(vs:List (Option (List En))):List (Nat×Ob):=[(big,.mix 101 (bldM S D T n left)),(9001,.cells 110 (vwsC vs))]
theorem xl{T:List (List Rw)}{r:Nat}(h:r<T.length):(gX T)[r*1]? =Sh (mH T[r]):=by simp[gX,h]
def EU(x:Rw):Itm:=⟨x.v,Gv.whole x.w.toNat⟩
theorem tX{l:List Prt}(h:i<l.length):ptsC (l.take i)++ptC l[i]=ptsC (l.take (i+1)):=by
 rw[AI h];simp only[ptsC,Sc,RC,Uu,Sk]
theorem Aj(a b:List Prt):ptsC (a++b)=ptsC a++ptsC b:=by simp[ptsC]
noncomputable abbrev ptsP(l:List Prt):PV:= .sl Sl l.length (ptsC l)
theorem wC(S:Sch)(hSr:S.rels.length<=1000)(D:VD)(T:List (List Rw))(n:Nat)(left:Int)(vs:List (Option (List En)))(hvs:vs.length=n)(hT:T.length=S.rels.length)(a4:∀l∈T,l.length<=1000)(hw:∀l∈T,∀x∈l,0<=x.w/\x.w<=9223372036854775807)
  (v:Nat) (HS CS:List Int) (M:v<D.hos.length) (U:v<D.chs.length) (a5:D.hos[v]=HS) (a7:D.chs[v]=CS) (hHl:HS.length<=1000) (hCl:CS.length<=1000) (hH:∀r∈HS,∃k:Nat,k<S.rels.length/\r=(k:Int))
  (hC:∀c∈CS,∃k:Nat,k<n/\k<D.kes.length/\c=(k:Int)) (f:Int->List En) (K:Int->List Int) (hf:∀(k:Nat)(h:k<vs.length)(h':k<D.kes.length),(k:Int)∈CS->vs[k]=Sh (f k)/\D.kes[k]=K k/\EnOk (f k)/\(f k).length<=1000000):
  FnO prog 119 2 0 [.ptr big 0,pIi v] (bldO S D T n left vs) (λr ob'=>r= .pv (ptsP ((HS.map λr=>dZ (cY S r) (gK T r))++CS.map λc=>cW (K c) (f c)))/\ob'=ax (bldO S D T n left vs)):=by
 refine FnO.of func119 O ntmps119 Vj λm0 w0 F R0=>?_
 have V:=dx M;have ao:=dz M;have Y:=dx U;have ap:=dz U;rw[a5]at V;rw[a7]at Y;obtain⟨hp,hhp⟩:∃hp:List Prt,hp=HS.map λr=>dZ (cY S r) (gK T r):=⟨_,O⟩
 obtain⟨cp,hcp⟩:∃cp:List Prt,cp=CS.map λc=>cW (K c) (f c):=⟨_,O⟩
 have a9:hp.length=HS.length:=by rw[hhp,OF]
 have bb:cp.length=CS.length:=by rw[hcp,OF]
 rw[<-hhp,<-hcp];refine Z1 O<|Z1 O<|Q4 (Ra 5 0 2 222 O O)<|Gr O ?_;iterate 6 refine A1 O ?_
 refine Rs O (ae v underlying95 nv O O O M ao)<|Rs O (aq ⟨_,underlying22,O⟩ O V)<|Y2 O<|Gl O (st:=λVn:Nat=>mkS [(0,.ptr big 0),(1,pIi v),(5,.gsl 0 2 Vn),(20,.pv (aj HS)),(21,pIi HS.length),(22,pIi Vn)] [(big,.mix 101 [.pv (.sl Sl S.attrs.length (aG S.attrs)),.pv (.sl Sl S.rels.length (aM S.rels)),.pv (.sl Sl S.feats.length (aH S.feats)),pIi S.label,.pv (aW D.chs),.pv (aW D.kes),.pv (aW D.hos),.pv (aj D.wa),.pv (dbP T),.osl 9001 2 n,pIi left]),(0,.gro 222 (ptsC (hp.take Vn))),(9001,.cells 110 (vwsC vs))] 1)
  (I:=λVn=>Vn<=HS.length) (μ:=λVn=>HS.length-Vn) (x0:=(0)) (Q5 (aS O) (aO Vg) O O) (cd _) ?_
 rintro k hk;refine Z1 O<|Gp O (λal=>?_) (λal=>?_)
 .have hlt:k<HS.length:=Vf;have ar:k<hp.length:=Vf;obtain⟨r,hr,hre⟩:=hH _ (au hlt);have B:r<T.length:=Vf;have J:(aE HS)[k*1]? =Sh (.int .i64 (r:Int)):=by rw[<-hre];simp[hlt]
  have ay:=aD hlt;have Z:=gF hr;have az:(aM S.rels)[r*2+1]? =Sh (aj S.rels[r].2):=by
   have h2:(((aM S.rels).drop (r*2)).take 2)[1]? =[PV.str S.rels[r].1,aj S.rels[r].2][1]? :=by rw[dK hr]
   simpa[Ry,Sq]using h2
  have aA:=xl B;have aB:=lJ B;have aC:=hw _ (au B);have hlT:=a4 _ (au B);have L:hp[k]=⟨S.rels[r].2,T[r].map EU⟩:=by
   simp only[hhp,SE,hre];simp[dZ,cY,gK,List.getD,hr,B,EU]
  have G:=tX ar;rw[L]at G;have aJ:(ptsC (hp.take k)).length=k*2:=by rw[sH,Rr,SG Vf]
  generalize S.rels[r].2=A at*;generalize T[r]=l at*;obtain⟨I,hI⟩:∃I:List Itm,I=l.map EU:=⟨_,O⟩;have hIl:I.length=l.length:=by rw[hI,OF]
  rw[<-hI]at G;refine Q3<|Z1 O<|Rs O (aq ⟨_,underlying3,O⟩ O J)<|A1 O<|Gr O ?_;iterate 6 refine A1 O ?_
  refine Rs O (ae r underlying27 E6 O O O hr Z)<|A1 O<|Rs O (aq ⟨_,underlying22,O⟩ O az)<|Y3 O<|Q4 (St.da (T':=222) (cs:=[.pv (aj A),.pv nS]) 1 1 2 7 224 Vg O O)<|Gr O ?_;iterate 5 refine A1 O ?_
  refine Rs O (ae r underlying33 Pf O O O B aB)<|Rs O (aq ⟨_,underlying38,O⟩ O aA)<|Y2 O<|Gl O (st:=λd:Nat=>mkS [(0,.ptr big 0),(1,pIi v),(5,.gsl 0 2 k),(8,.ptr 1 0),(20,.pv (aj HS)),(21,pIi HS.length),(22,pIi k),(42,.pv (mH l)),(43,pIi l.length),(44,pIi d)] [(big,.mix 101 [.pv (.sl Sl S.attrs.length (aG S.attrs)),.pv (.sl Sl S.rels.length (aM S.rels)),.pv (.sl Sl S.feats.length (aH S.feats)),pIi S.label,.pv (aW D.chs),.pv (aW D.kes),.pv (aW D.hos),.pv (aj D.wa),.pv (dbP T),.osl 9001 2 n,pIi left]),(0,.gro 222 (ptsC (hp.take k))),(1,.mix 222 [.pv (aj A),.gsl 2 7 d]),(2,.gro 224 (itsC (I.take d))),(9001,.cells 110 (vwsC vs))] 3)
   (I:=λd=>d<=l.length) (μ:=λd=>l.length-d) (x0:=(0)) (Q5 (aS O) (aO Vg) O O) (cd _) ?_
  rintro i hi;refine Z1 O<|Gp O (λam=>?_) (λam=>?_)
  .have hli:i<l.length:=Vf;have aL:i<I.length:=Vf;have s:=dY hli;have aP:a8 l≠[]:=λe=>by have:=bK l;rw[e]at this;simp at this;omega
   obtain⟨hw0,hw1⟩:=aC _ (au hli);have aR:I[i]=EU l[i]:=by simp[hI]
   have ab:=u7 aL;rw[aR]at ab;have hik:(itsC (I.take i)).length=i*7:=by rw[rM,Rr,SG Vf]
   generalize l[i]=x at*;have ac:=kH x.w.toNat Vf;have aV:PV.int .i64 ((x.w.toNat:Nat):Int)= .int .i64 x.w:=by rw[Int.toNat_of_nonneg hw0]
   rw[aV]at ac;refine Q3<|Gr O<|Rs O (ae i underlying38 Kh O O O hli aP)<|Rs O (aU ⟨_,underlying41,O⟩ Kh O s O)<|Y2 O<|RW 12 O ?_;iterate 6 refine D1 O ?_
   refine Ds [] O (λτ h=>aa call54 ac (h.aK O)) O Vg ?_;iterate 5 refine D1 O ?_
   refine⟨Vg,?_⟩;exact Z2 O<|⟨(i+1),Q6 [0,1,5] (aT O) ⟨Vg,Vg,Vg,RI (b:=Sh (.gro 224 (itsC (I.take i)++itC (EU x)))) Vg (ag (λc=>Sh (Ob.gro 224 c)) ab),Vg,Vm⟩ O O Vh O,hli,Vf⟩
  .have hie:I.take i=I:=aQ Vf;have aX:i=I.length:=Vf;rw[hie,aX];refine Gx O<|Q4 (Q8 (o:= .gro 224 (itsC I)) 2 Vg O)<|Gr O ?_;iterate 5 refine A1 O ?_
   exact Z2 O<|⟨(k+1),Q6 [4] (aT O) ⟨Vg,RI (b:=Sh (.gro 222 (ptsC (hp.take k)++ptC ⟨A,I⟩))) Vg (ag (λc=>Sh (Ob.gro 222 c)) G),Vg,Vm⟩ O O Vh O,hlt,Vf⟩
 .have hke:hp.take k=hp:=aQ Vf;have aZ:k=hp.length:=Vf;rw[hke,aZ];refine Gx O<|Gr O ?_;iterate 6 refine A1 O ?_
  refine Rs O (ae v underlying95 nv O O O U ap)<|Rs O (aq ⟨_,underlying22,O⟩ O Y)<|Y2 O<|Gl O (st:=λq:Nat=>mkS [(0,.ptr big 0),(5,.gsl 0 2 (hp.length+q)),(72,.pv (aj CS)),(73,pIi CS.length),(74,pIi q)] [(big,.mix 101 [.pv (.sl Sl S.attrs.length (aG S.attrs)),.pv (.sl Sl S.rels.length (aM S.rels)),.pv (.sl Sl S.feats.length (aH S.feats)),pIi S.label,.pv (aW D.chs),.pv (aW D.kes),.pv (aW D.hos),.pv (aj D.wa),.pv (dbP T),.osl 9001 2 n,pIi left]),(0,.gro 222 (ptsC (hp++cp.take q))),(9001,.cells 110 (vwsC vs))] 1)
   (I:=λq=>q<=CS.length) (μ:=λq=>CS.length-q) (x0:=(0)) (Q5 (aS O) ⟨Vg,ag (λc=>Sh (Ob.gro 222 (ptsC c))) Vj,Vg,Vm⟩ O O) (cd _) ?_
  rintro j hj;refine Z1 O<|Gp O (λan=>?_) (λan=>?_)
  .have hlj:j<CS.length:=Vf;have a0:j<cp.length:=Vf;obtain⟨c,hcn2,hck,hce⟩:=hC _ (au hlj);have H:c<vs.length:=Vf;obtain⟨g1,g2,g3,g4⟩:=hf c H hck (by rw[<-hce];exact au hlj);have J:(aE CS)[j*1]? =Sh (.int .i64 (c:Int)):=by rw[<-hce];simp[hlj]
   have ay:=aD hlj;have ad:=dx hck;have a1:=dz hck;rw[g2]at ad;have s:=AR H;rw[g1]at s;have L:cp[j]=cW (K c) (f c):=by simp[hcp,hce]
   have G:=tX a0;rw[L]at G;have af:ptsC (hp++cp.take j)++ptC (cW (K c) (f c))=ptsC (hp++cp.take (j+1)):=by rw[Aj,Aj,TC,G]
   have aJ:(ptsC (hp++cp.take j)).length=(hp.length+j)*2:=by rw[sH,IS,Rr,SG Vf]
   have a2:=BQ (f c) (K c) g3 g4;generalize cW (K c) (f c)=p at*;generalize f c=E at*;refine Q3<|Z1 O<|Rs O (aq ⟨_,underlying3,O⟩ O J)<|A1 O<|RW 20 O ?_;iterate 6 refine D1 O ?_
   refine Ds [_] O (λτ h=>ak c underlying99 A8 (Ee h 0 O O) (Eo h 0 O O) (Ee h 1 O O) O hcn2) O Vg<|Ds [_] O (λτ h=>tG ⟨_,underlying110,O⟩ A8 (Ee h 0 O O) (Eo h 0 O O) s O) O Vg ?_;iterate 6 refine D1 O ?_
   refine Ds [] O (λτ h=>ae c underlying95 nv (Ee h 0 O O) (Ee h 1 O O) O hck a1) O Vg<|Ds [] O (λτ h=>aq ⟨_,underlying22,O⟩ (Ee h 0 O O) ad) O Vg<|Ds [] O (λτ h=>aa call199 a2 (h.aK O)) O Vg ?_;iterate 3 refine D1 O ?_
   refine⟨Vg,?_⟩;exact Z2 O<|⟨(j+1),Q6 [2] (aT O) ⟨Vg,RI (b:=Sh (.gro 222 (ptsC (hp++cp.take j)++ptC p))) Vg (ag (λc=>Sh (Ob.gro 222 c)) af),Vg,Vm⟩ O O Vh O,hlj,Vf⟩
  .have hje:cp.take j=cp:=aQ Vf;have a3:hp.length+j=(hp++cp).length:=by rw[IS];omega
   rw[hje,a3];exact Gx O<|Q4 (Q8 (o:= .gro 222 (ptsC (hp++cp))) 0 Vg O)<|Z2 O<|Gt O<|⟨[(4,.pv (ptsP (hp++cp)))],bldO S D T n left vs,[.pv (ptsP (hp++cp))],Q5 (aS O) (aO Vg) O O,O,O,O,O,O⟩
end
section
section
variable {C:Ctx}{n:Nat}{σ:St}{x y:Operand}{dst:Option Tmp}{ty:TypeId}{pos:String}{after:Array Edge}{gd:Option (Nat×Bool)}
theorem oY:∀{vs:List PV}{us:List Value},RelPL w R vs us->vs.all PV.leaf=Sm->∀v∈us,v.oneCell'=Sm
 |[],us,h,_,v,hv=>by simp only[RelPL]at h;subst h;simp at hv
 | c::cs,us,h,hl,v,hv=>by
   simp only[RelPL]at h;obtain⟨u,vs',rfl,h1,h2⟩:=h;simp only[TG,sh]at hl;rcases AS.1 hv with rfl|hv
   .exact h1.leaf hl.1
   .exact oY h2 hl.2 v hv
theorem Cc{T':TypeId}{id off:Nat}{vs:List PV}(I:bN C.P T k)(J:σ.ev n x= .ptr id off)(L:σ.ob id=Sh (.cells T' cs))(M:σ.ev n y= .pv (.agg vs))(B:vs.length=k)(G:vs.all PV.leaf=Sm)(U:off+k<=cs.length):
  XJ C n ⟨Sl,.store T x y,ty,pos,after,gd⟩ σ ⟨.pv .any,[(id,Sh (.cells T' (fX cs off vs)))],[]⟩:=by
 rintro a w Q ⟨m,R,hw⟩;obtain⟨b,N,he,hm,arr,hb,hN,hle',hr⟩:=hw.ptr J L;have d:=hw.pv M;simp only[RelP]at d;obtain⟨us,hu,d⟩:=d;have H:=oY d G;have E:=d.length;have q:(a.eval y).cells=us.toArray:=by rw[hu];rfl
 have s:=jR (P:=C.P) (T:=T) (u:=a.eval y) (off:=off) hb (by rw[q];simp only[RB];rw[E,B];exact I) (by rw[q];simp;omega) (by rw[q];simpa using H);unfold Oper.wp;have r:(execOp a.eval ⟨Sl,.store T x y,ty,pos,after,gd⟩).run C.P w= .ok .skip (w.setRow b (fX arr.toList off us).toArray):=by
  simp only[execOp,he,Sem.run_bind,s,Result.andThen_ok,Sem.run_pure,q]
 rw[r];refine⟨_,O,m,R,?_⟩;refine hw.store hm arr _ T' hb (by simp only[RB];rw[bJ _ _ _ Vk];simpa using hN) _ ?_;intro w' hR hb';refine⟨_,hb',by simp only[RB];rw[bJ _ _ _ Vk];simpa using hN,by rw[bJ _ _ _ Vf];exact hle',?_⟩;rw[bJ cs off vs Vf];have e:(fX arr.toList off us).toArray.toList.take cs.length=fX (arr.toList.take cs.length) off us:=by
  simp only[fX];exact kg _ _ _ _ Vf Vk
 rw[e];exact(hr.fX off d).mono hR
theorem I0{e:TypeId}{z:Value}{size bytes:Nat}{kl kc:IntKind}{il ic:Int}(id k:Nat)(B:ElemIs C.P T e z size bytes)(L:σ.ev n x= .pv (.int kl il))(M:σ.ev n y= .pv (.int kc ic))(E:il=0)(G:ic=(k:Int))(U:k<=1000000000)(H:σ.av id=Sm):
  XJ C n ⟨dst,.makeSlice T x y,ty,pos,after,gd⟩ σ ⟨.osl id size 0,[(id,Sh (.cells e []))],[id]⟩:=by
 subst E G;rintro a w Q ⟨m,R,hw⟩;obtain⟨i,hi,hz,hsize,hbytes⟩:=info_parts B.info;have r:(i.bytes:Int)*(k:Int)<=281474976710656:=by
  have I:bytes*k<=1000*1000000000:=Sw B.by_ U;rw[hbytes];have J:((bytes*k:Nat):Int)<=((1000*1000000000:Nat):Int):=Int.ofNat_le.2 I;rw[TZ]at J;omega
 have d:=run_make (P:=C.P) w T e i z B.u hi hz kl kc 0 k Vf Vf r Vf;simp only[RH,hsize]at d;have q:(execOp a.eval ⟨dst,.makeSlice T x y,ty,pos,after,gd⟩).run C.P w= .ok (.value (.slice (Sh ⟨w.heap.size,0,Sl⟩) 0 k)) (w.alloc (.cells (madeCells z.cells (k*size)) e)):=by
  simp only[execOp,hw.int L,hw.int M,Sem.run_bind,d,Result.andThen_ok,Sem.run_pure];rfl
 unfold Oper.wp;rw[q];have s:(madeCells z.cells (k*size)).size=k*size:=size_madeCells _ _;refine⟨_,O,upd m id (Sh (w.heap.size,(madeCells z.cells (k*size)).size)),R,?_⟩;rw[Rc];refine SW.put (hw.alloc H _ e (.cells e []) ?_) dst ?_
 .intro w' m' av' hR hm ha hb;exact⟨_,hb,O,cd _,by simp[RelPL]⟩
 .simp only[Rel];refine⟨by simp[avL],λb N e=>?_⟩;rw[aA]at e;cases e;exact⟨k,O,cd _,by simp only[maxLen];omega,s⟩
end
end
section
open Go.RowKit Mk Jn Mm Vw
noncomputable abbrev viF(ps:List Prt)(v:Nat)(a b c:Nat):V:= .fn (.func 120) [] [.pv (.rp [ptsP ps] 0),.ptr a 0,.pv (.rp [.int .i64 v] 0),.ptr b 0,.ptr c 0]
noncomputable abbrev viA(ps:List Prt)(v:Nat)(k:Int)(x:Ch)(g:Gv):List V:=[pIi k,.pv (QU x),.pv (momP g.m),.pv (.rp [ptsP ps] 0),.ptr big 0,.pv (.rp [.int .i64 v] 0),.ptr 9001 0,.ptr 9002 0]
noncomputable abbrev bldM2(S:Sch)(D:VD)(T:List (List Rw))(n:Nat)(left:Int)(b:Nat):List V:=[.pv (.sl Sl S.attrs.length (aG S.attrs)),.pv (.sl Sl S.rels.length (aM S.rels)),.pv (.sl Sl S.feats.length (aH S.feats)),pIi S.label,.pv (aW D.chs),.pv (aW D.kes),.pv (aW D.hos),.pv (aj D.wa),.pv (dbP T),.osl b 2 n,pIi left]
noncomputable abbrev viO(S:Sch)(D:VD)(T:List (List Rw))(n:Nat)(left:Int)(vs:List (Option (List En)))(ps:List Prt)(v:Nat)(E:List En):List (Nat×Ob):=
 [(big,.mix 94 [.ptr 9003 0]),(9001,.mix 110 [.map 9005,.map 9006]),(9002,.mix 214 [viF ps v big 9001 9002]),
   (9003,.mix 101 (bldM2 S D T n left 9004)),(9004,.cells 110 (vwsC vs)),(9005,.mp (bV E) (jU E)),(9006,.mp (bV E) (gvsV E))]
structure PtY(n:Nat)(Q:List Par)(X:Nat->List ByteArray)(p:Prt):Prop where
 x:PtX Q X p
 w:∀i∈p.is,i.g.w<=10^5
 k:∀i∈p.is,i.g.k<=6
 a:∀a∈p.a,0<=a/\a<n
 al:p.a.length<=1000
 il:p.is.length<=1000000
structure BC(S:Sch)(D:VD)(n:Nat)(v:Nat)(K:List Int)(Q:List Par)(X:Nat->List ByteArray)(lf:Int->ByteArray->Gv)(ps:List Prt):Prop where
 n0:0<n
 n1:n<=1000
 hv:v<n
 kl:v<D.kes.length
 kv:D.kes[v]=K
 K0:K.length<=1000
 K1:∀a∈K,0<=a/\a<n
 X1:∀a,∀t∈X a,t.size<=1000
 lfx:LfX Q X lf
 lift:∀t∈X v,FnP prog 121 [eS S,.int .i64 v,.str t] (· =momP (lf v t).m)
 hps:∀p∈ps,PtY n Q X p
 pl:ps.length<=8
structure EI(Q:List Par)(X:Nat->List ByteArray)(K:List Int)(e:En):Prop where
 x:ItX Q X K e.v e.g
 k:e.g.k<=49
structure CI(n:Nat)(Q:List Par)(X:Nat->List ByteArray)(K:List Int)(d:Nat)(x:Ch)(g:Gv)(E:List En):Prop where
 cx:ChX n X x
 cg:GvOk Q g
 gn:1<=g.n
 gw:g.w<=(10^5)^d
 gk:g.k<=6*d
 E:∀e∈E,EI Q X K e
theorem pw5{d:Nat}(h:d<=8):(10^5)^d<=10^40:=by
 rw[<-Nat.pow_mul];exact S6 Vh Vf
theorem Ow:(10:Nat)^45<=10^50:=by decide+kernel
theorem tc:(10:Nat)^40<=10^50:=by decide+kernel
theorem Iy:(10:Nat)^5<=10^50:=by decide+kernel
section
variable {S:Sch}{D:VD}{T:List (List Rw)}{n:Nat}{left:Int}{vs:List (Option (List En))}{ps:List Prt}{v:Nat}{K:List Int}{Q:List Par}{X:Nat->List ByteArray}{lf:Int->ByteArray->Gv}
open Classical in
theorem J8(h:BC S D n v K Q X lf ps)(x:Ch)(g:Gv)(E:List En)(hc:CI n Q X K ps.length x g E)(hl:((stepE (lf v) v K E (x,g)).length:Int)<=left)(hw:iE Gv.w (stepE (lf v) v K E (x,g))<=10^45):
  FnO prog 120 7 0 (viA ps v ps.length x g) (viO S D T n left vs ps v E) (λr ob'=>r= .pv (.bool Sm)/\ob'=ax (viO S D T n left vs ps v (stepE (lf v) v K E (x,g)))):=by
 refine FnO.of func120 O ntmps120 Vj λm0 w0 F R0=>?_
 have d:v<x.v.length:=by rw[hc.cx.v];exact h.hv
 have al:=bE d;have am:=bA d;have H:x.v[v]∈X v:=by have:=hc.cx.x v;simpa[List.getD,d]using this
 have an:x.v.getD v ⟨#[]⟩=x.v[v]:=by simp[List.getD,d]
 have ao:=h.lift _ H;have U:=h.lfx.g v _ (show x.v[v]∈X (v:Int).toNat by simpa using H);have Y:=IT hc.gw (pw5 h.pl);have ap:(lf v x.v[v]).w<=10^50:=by rw[h.lfx.w];decide+kernel
 have hlk:(lf v x.v[v]).k=1:=h.lfx.k _ _;have hps8:=h.pl;have hgk:=hc.gk;have Z:=sr hc.cg.s U.s (IT Y tc) ap Vf Vf;have ab:GvOk Q (g.mul (lf v x.v[v])):=hc.cg.mul U;have ar:=QS ab.s;have ay:stepE (lf v) v K E (x,g)=if(g.mul (lf v x.v[v])).m=Mm.Sem.zero then E else vg E (iD K x) (g.mul (lf v x.v[v])):=by
  unfold stepE;rw[RH,an]
 rw[ay]at hl hw ⊢;have az:(g.mul (lf v x.v[v])).k<=50:=by show g.k+(lf v x.v[v]).k<=50;omega
 have aA:(g.mul (lf v x.v[v])).w<=10^50:=by show g.w*(lf v x.v[v]).w<=_;rw[h.lfx.w,R6];exact IT Y tc
 change FnP _ _ _ (· =momP (g.mul (lf v x.v[v])).m)at Z
 generalize g.mul (lf v x.v[v])=G at*;have L:=dx h.kl;have ac:=dz h.kl;rw[h.kv]at L;have ad:=h.kl;have aB:=h.K0;refine Z3 O<|Z1 O ?_;first|refine A1 O ?_|refine A2 O Vi ?_
 refine Y2 O<|Gc O (λJ=>?_) (λJ=>absurd J Vj);refine RW 14 O<|D1 O ?_;first|refine D1 O ?_|refine D2 O O Vi ?_
 iterate 3 refine D1 O ?_
 first|refine D1 O ?_|refine D2 O O Vi ?_
 iterate 2 refine D1 O ?_
 first|refine D1 O ?_|refine D2 O O Vi ?_
 refine Ds [] O (λτ h=>ae v underlying39 sz9 (Ee h 0 O O) (Ee h 1 O O) O d am) O Vg<|Ds [] O (λτ h=>aq ⟨_,underlying9,O⟩ (Ee h 0 O O) al) O Vg<|Ds [] O (λτ h=>aa call121 ao (h.aK O)) O Vg<|Ds [] O (λτ h=>aa call56 Z (h.aK O)) O Vg<|D1 O ?_;refine⟨Vg,?_⟩;refine Z1 O<|Rs O (aa call122 ar O)<|Gc O (λq=>?_) (λq=>?_)
 .have hz:G.m=Mm.Sem.zero:=Tm q;rw[AT hz];exact Z1 O<|Gt O<|⟨[(11,.pv (.bool Sm))],viO S D T n left vs ps v E,[.pv (.bool Sm)],Q5 (aS O) (aO Vg) O O,O,O,O,O,O⟩
 .have hz:¬G.m=Mm.Sem.zero:=Tn q;rw[dt hz]at hl hw ⊢;refine Q3<|RW 11 O ?_;first|refine D1 O ?_|refine D2 O O Vi ?_
  iterate 4 refine D1 O ?_
  first|refine D1 O ?_|refine D2 O O Vi ?_
  refine Ds [] O (λτ h=>ae v underlying95 nv (Ee h 0 O O) (Ee h 1 O O) O ad ac) O Vg<|Ds [] O (λτ h=>aq ⟨_,underlying22,O⟩ (Ee h 0 O O) L) O Vg<|D1 O<|Ds [] O (λτ h=>I0 2 _ Cr (Ee h 0 O O) (Ee h 1 O O) O O Vf (h.n 0 _ O)) O Vg<|D1 O ?_;refine⟨Vg,?_⟩;refine RW 10 O ?_;first|refine D1 O ?_|refine D2 O O Vi ?_
  iterate 4 refine D1 O ?_
  first|refine D1 O ?_|refine D2 O O Vi ?_
  refine Ds [] O (λτ h=>ae v underlying95 nv (Ee h 0 O O) (Ee h 1 O O) O ad ac) O Vg<|Ds [] O (λτ h=>aq ⟨_,underlying22,O⟩ (Ee h 0 O O) L) O Vg ?_;iterate 2 refine D1 O ?_
  refine⟨Vg,?_⟩;refine Gl O (st:=λVn:Nat=>mkS [(4,.ptr big 0),(6,.ptr 9001 0),(9,.ptr 0 0),(10,.ptr 1 0),(12,.osl 2 1 Vn),(55,.pv (aj K)),(56,pIi K.length),(57,pIi Vn)] [(big,.mix 94 [.ptr 9003 0]),(0,.mix 217 [.pv (a7 x.v),.pv (Pn x.s)]),(1,.mix 120 [.pv (.bool (decide ((cn G.m).c.num<0))),.pv (bF (cn G.m).c.num.natAbs),.pv (.bool (decide (((cn G.m).c.den:Int)<0))),.pv (bF ((cn G.m).c.den:Int).natAbs),.pv (.mp (aI dr (cn G.m).s) (aN (cn G.m).s)),.pv (.mp (aI ppP (cn G.m).p) (aN (cn G.m).p))]),(2,.cells 9 (bD ((iD K x).take Vn))),(9001,.mix 110 [.map 9005,.map 9006]),(9002,.mix 214 [viF ps v big 9001 9002]),(9003,.mix 101 (bldM2 S D T n left 9004)),(9004,.cells 110 (vwsC vs)),(9005,.mp (bV E) (jU E)),(9006,.mp (bV E) (gvsV E))] 3)
   (I:=λVn=>Vn<=K.length) (μ:=λVn=>K.length-Vn) (x0:=(0)) (Q5 (aS O) (aO Vg) O O) (cd _) ?_
  rintro j hj;refine Z1 O<|Gp O (λak=>?_) (λak=>?_)
  .have hlt:j<K.length:=Vf;obtain⟨a,haa⟩:=Rm (h.K1 _ (au hlt)).1;have B:a<x.v.length:=by have:=(h.K1 _ (au hlt)).2;rw[hc.cx.v];omega
   have aC:(aE K)[j*1]? =Sh (.int .i64 (a:Int)):=by rw[<-haa];simp[hlt]
   have hpn:=aD hlt;have aJ:=bE B;have aL:=bA B;have aP:j<(iD K x).length:=by simpa[iD]using hlt
   have aR:(iD K x)[j]=x.v[a]:=by simp[iD,haa,List.getD,B]
   have aU:(iD K x).take (j+1)=(iD K x).take j++[x.v[a]]:=by rw[AI aP,aR]
   have hsl:(bD ((iD K x).take j)).length=j*1:=by simp[iD];omega
   exact Q3<|Z1 O<|Rs O (aq ⟨_,underlying3,O⟩ O aC)<|A1 O<|Z4 O<|Rs O (ae a underlying39 sz9 O O O B aL)<|Rs O (aq ⟨_,underlying9,O⟩ O aJ)<|Y3 O<|Z2 O<|⟨(j+1),Q6 [0,1,4] (aT O) ⟨Vg,Vg,Vg,RI (b:=Sh (.cells 9 (bD ((iD K x).take j)++[.str x.v[a]]))) Vg (ag (λc=>Sh (Ob.cells 9 c)) (by rw[aU];simp)),Vg,Vg,Vg,Vg,Vg,Vg,Vm⟩ O O Vh O,hlt,Vf⟩
  .have hje:(iD K x).take j=iD K x:=aQ (by simp[iD];omega);have aV:j=(iD K x).length:=by simp[iD];omega
   rw[hje,aV];have M:=Nh (K:=K) hc.cx;have aW:=Vw.KF (iD K x) 1000 λt ht=>by obtain⟨i,hi,rfl⟩:=Sp ht;exact h.X1 _ _ (M.x i hi (by rw[<-M.len];exact hi))
   have af:(iD K x).length<=1000:=by rw[M.len];exact aB
   have aX:∀e∈E,GvOk Q e.g/\e.g.w<=10^50/\e.g.k<=50:=λe he=>⟨(hc.E e he).x.ok,IT (w6 (f:=Gv.w) he) (IT (by rw[sq EE]at hw;omega) Ow),IT (hc.E e he).k Vh⟩
   have aZ:=Hk E (iD K x) G aX ab aA az Vf (IT aW (IT (SV _ af) Vh));have a0:decide (((bV (vg E (iD K x) G)).length:Int)<=left)=Sm:=Ru (by simpa using hl);generalize vg E (iD K x) G=E' at*;generalize iD K x=key at*;refine Gx O<|Q4 (Q8 (o:= .cells 9 (bD key)) 2 Vg O)<|Q4 (St.qq [12])<|Gr O ?_;first|refine A1 O ?_|refine A3 O Vi ?_
   refine Y2 O<|Rs O (bt [9005,9006] 3 call123 aZ O O O O ⟨O,O,Vm⟩ Vh O)<|RW 9 O<|D1 O ?_;first|refine D1 O ?_|refine D2 O O Vi ?_
   refine Ds [_] O (λτ h=>ov underlying107 (.inl ⟨9005,(Ee h 0 O O),(Eo h 0 O O)⟩)) O Vg ?_;first|refine D1 O ?_|refine D2 O O Vi ?_
   iterate 5 refine D1 O ?_
   refine⟨Vg,?_⟩;exact Gt O<|⟨[(11,.pv (.bool Sm))],viO S D T n left vs ps v E',[.pv (.bool Sm)],Q5 ⟨RI (b:=V.pv (.bool (decide (((bV E').length:Int)<=left)))) Vg (ag (λb=>V.pv (.bool b)) a0),Vm⟩ (aO Vg) O O,O,O,O,O,O⟩
theorem Mw(d:LfX Q X lf):∀(ls:List (Ch×Gv)){E:List En},(∀l∈ls,ChX n X l.1/\GvOk Q l.2/\1<=l.2.n/\l.2.k<=48)->(∀e∈E,EI Q X K e)->∀e∈foldE (lf v) v K E ls,EI Q X K e:=λls E hl hE=>by
 refine gh (I:=EI Q X K) (λx y hx hy t=>⟨⟨hx.x.ok.add hy.x.ok,IT hx.x.n (TH _ _),hx.x.v⟩,Nat.max_le.2 ⟨hx.k,hy.k⟩⟩) ls hE λl h=>?_
 obtain⟨h1,h2,h3,h4⟩:=hl l h;refine⟨⟨h2.mul (d.g _ _ (h1.x _)),?_,Nh h1⟩,?_⟩
 .show 1<=l.2.n*(lf v _).n;rw[d.n];omega
 .show l.2.k+(lf v _).k<=49;rw[d.k];omega
theorem lv_ok(h:BC S D n v K Q X lf ps)(G:k<=ps.length){x:Ch}{g:Gv}{E:List En}(hc:CI n Q X K k x g E):∀l∈leaves (ps.drop k) x g,ChX n X l.1/\GvOk Q l.2/\1<=l.2.n/\l.2.k<=48:=λl hl=>by
 have d:∀p∈ps.drop k,PtX Q X p:=λp d=>(h.hps p (TX d)).x
 obtain⟨h1,h2,h3⟩:=Az d hc.cx hc.cg hc.gn l hl;have B:=AU l hl;have r:((ps.drop k).map Prt.km).sum<=((ps.drop k).map λ_=>6).sum:=uV λp d=>Mi (h.hps p (TX d)).k
 have s:∀q:List Prt,(q.map λ_=>6).sum=6*q.length:=λq=>by
  induction q with
  |nil=>rfl
  |cons a q ih=>rw[bP,Se,ih,Rk];omega
 rw[s,Td]at r;have:=hc.gk;have:=h.pl;exact⟨h1,h2,h3,Vf⟩
def lvI(ps:List Prt)(k:Nat)(hk:k<ps.length)(x:Ch)(g:Gv)(i:Itm):List (Ch×Gv):=if B5 x ps[k].a i.v=Sm then leaves (ps.drop (k+1)) (pR x ps[k].a i.v) (g.mul i.g)else []
theorem MT(d:k<ps.length)(x:Ch)(g:Gv):leaves (ps.drop k) x g=ps[k].is.flatMap (lvI ps k d x g):=by
 rw[RF d,leaves];rfl
theorem Ko(h:BC S D n v K Q X lf ps)(k:Nat)(L:k<ps.length)(x:Ch)(g:Gv)(E:List En)(hc:CI n Q X K k x g E)
  (hrec:∀(y:Ch)(g':Gv)(E':List En),CI n Q X K (k+1) y g' E'->((foldE (lf v) v K E' (leaves (ps.drop (k+1)) y g')).length:Int)<=left->iE Gv.w (foldE (lf v) v K E' (leaves (ps.drop (k+1)) y g'))<=10^45->
   FnO prog 120 7 0 (viA ps v ((k:Int)+1) y g') (viO S D T n left vs ps v E') (λr ob'=>r= .pv (.bool Sm)/\ob'=ax (viO S D T n left vs ps v (foldE (lf v) v K E' (leaves (ps.drop (k+1)) y g')))))
  (hl:((foldE (lf v) v K E (leaves (ps.drop k) x g)).length:Int)<=left) (hw:iE Gv.w (foldE (lf v) v K E (leaves (ps.drop k) x g))<=10^45):
  FnO prog 120 7 0 (viA ps v k x g) (viO S D T n left vs ps v E) (λr ob'=>r= .pv (.bool Sm)/\ob'=ax (viO S D T n left vs ps v (foldE (lf v) v K E (leaves (ps.drop k) x g)))):=by
 have M:=lv_ok h (Vc L) hc;have B:=h.hps _ (au L);have hps8:=h.pl;have hgk:=hc.gk;have Z:=IT hc.gw (pw5 (d:=k) Vf);rw[MT L]at hl hw M ⊢;obtain⟨F,hF⟩:∃F,F=lvI ps k L x g:=⟨_,O⟩;have hFi:=λi=>show F i=if B5 x ps[k].a i.v=Sm then leaves (ps.drop (k+1)) (pR x ps[k].a i.v) (g.mul i.g)else [] by rw[hF];rfl
 rw[<-hF]at hl hw M ⊢;have hit:(ptsC ps)[k*2+1]? =Sh (.sl Sl ps[k].is.length (itsC ps[k].is)):=by
  have h2:(((ptsC ps).drop (k*2)).take 2)[1]? =(ptC ps[k])[1]? :=by rw[zJ L]
  simpa[Ry,Sq]using h2
 have ab:(ptsC ps)[k*2]? =Sh (aj ps[k].a):=by
  have h2:(((ptsC ps).drop (k*2)).take 2)[0]? =(ptC ps[k])[0]? :=by rw[zJ L]
  simpa[Ry,Sq]using h2
 have H:=Mq L;obtain⟨A,hA⟩:∃A,A=ps[k].a:=⟨_,O⟩;obtain⟨I,hI⟩:∃I,I=ps[k].is:=⟨_,O⟩;have hx':=B.x;have hw':=B.w;have hk':=B.k;have ha':=B.a;have hal:=B.al;have hIl:=B.il;rw[<-hA]at hFi ab ha' hal;rw[<-hI]at hit hl hw M hw' hk' hIl ⊢;have hxI:∀i∈I,ItX Q X A i.v i.g:=λi hi=>by rw[hA];exact hx' i (by rw[<-hI];exact hi)
 clear hx' B hA hI;have ac:=call120;refine FnO.of func120 O ntmps120 Vj λm0 w0 F0 R0=>?_
 refine Z3 O<|Z1 O ?_;first|refine A1 O ?_|refine A2 O Vi ?_
 refine Y2 O<|Gc O (λY=>absurd Y Vk) (λY=>?_);refine Q3<|Gr O ?_;first|refine A1 O ?_|refine A2 O Vi ?_
 refine A1 O<|Rs O (ae k underlying212 JO O O O L H)<|A1 O<|Rs O (aq ⟨_,underlying220,O⟩ O hit)<|Y2 O<|Gl O (st:=λVn:Nat×List En=>mkS [(0,pIi (k:Int)),(3,.pv (.rp [ptsP ps] 0)),(7,.ptr 9002 0),(9,.ptr 0 0),(10,.ptr 1 0),(86,.pv (.sl Sl I.length (itsC I))),(87,pIi I.length),(88,pIi Vn.1)] [(big,.mix 94 [.ptr 9003 0]),(0,.mix 217 [.pv (a7 x.v),.pv (Pn x.s)]),(1,.mix 120 [.pv (.bool (decide ((cn g.m).c.num<0))),.pv (bF (cn g.m).c.num.natAbs),.pv (.bool (decide (((cn g.m).c.den:Int)<0))),.pv (bF ((cn g.m).c.den:Int).natAbs),.pv (.mp (aI dr (cn g.m).s) (aN (cn g.m).s)),.pv (.mp (aI ppP (cn g.m).p) (aN (cn g.m).p))]),(9001,.mix 110 [.map 9005,.map 9006]),(9002,.mix 214 [viF ps v big 9001 9002]),(9003,.mix 101 (bldM2 S D T n left 9004)),(9004,.cells 110 (vwsC vs)),(9005,.mp (bV Vn.2) (jU Vn.2)),(9006,.mp (bV Vn.2) (gvsV Vn.2))] 2)
  (I:=λVn=>Vn.1<=I.length/\Vn.2=foldE (lf v) v K E ((I.take Vn.1).flatMap F)) (μ:=λVn=>I.length-Vn.1) (x0:=(0,E)) (Q5 (aS O) (aO Vg) O O) (⟨cd _,O⟩) ?_
 rintro⟨i,E'⟩ ⟨hi,hE'⟩;try simp only at hi hE' ⊢
 refine Z1 O<|Gp O (λhc89=>?_) (λhc89=>?_)
 .have hlt:i<I.length:=Vf;have hrow:=Kz hlt;have hne:=OC hlt;have ad:=au hlt;have hsp:I.flatMap F=(I.take (i+1)).flatMap F++(I.drop (i+1)).flatMap F:=by rw[<-Sc,Sb]
  have G:foldE (lf v) v K E ((I.take (i+1)).flatMap F)=foldE (lf v) v K E' (F I[i]):=by rw[AI hlt,Sc,o0,<-hE'];simp
  have af:((foldE (lf v) v K E' (F I[i])).length:Int)<=left:=by
   rw[hsp,o0,G]at hl;have:=uo (lf:=lf v) (v:=v) (K:=K) ((I.drop (i+1)).flatMap F) (foldE (lf v) v K E' (F I[i]));omega
  have J:iE Gv.w (foldE (lf v) v K E' (F I[i]))<=10^45:=by
   rw[hsp,o0,G]at hw;exact IT (yW EE _ _) hw
  have hEI:∀e∈E',EI Q X K e:=by
   rw[hE'];exact Mw h.lfx _ (λl hl=>M l (by rw[<-Sb i I,Sc];exact S7 _ hl)) hc.E
  obtain⟨hig,hin,hiv⟩:=hxI _ ad;have U:=hw' _ ad;have hik:=hk' _ ad;rw[hFi]at G af J;generalize I[i]=it at*;have V:=D8 x A it.v n h.n0 (IT h.n1 Vh) hc.cx.v hc.cx.s Vf hiv.len ha';have hmu:=sr hc.cg.s hig.s (IT Z tc) (IT U Iy) Vf Vf;refine Q3<|Gr O<|Rs O (ae i underlying220 PX O O O hlt hne)<|Rs O (aU ⟨_,underlying224,O⟩ PX O hrow O)<|Y2 O ?_;by_cases hag:B5 x A it.v=Sm
  .rw[EO,AT hag]at V;rw[AT hag]at G af J;have hgo:=hrec (pR x A it.v) (g.mul it.g) E' ⟨E3 hiv hc.cx,hc.cg.mul hig,Sw hc.gn hin,by rw[Tc];exact Sw hc.gw U,by show g.k+it.g.k<=_;omega,hEI⟩ af J;generalize pR x A it.v=y at*;generalize foldE (lf v) v K E' (leaves (ps.drop (k+1)) y (g.mul it.g))=E2 at*;clear hw J Z U;refine RW 15 O<|D1 O ?_;first|refine D1 O ?_|refine D2 O O Vi ?_
   refine D1 O<|Ds [] O (λτ h=>ae k underlying212 JO (Ee h 0 O O) (Ee h 1 O O) O L H) O Vg<|D1 O<|Ds [] O (λτ h=>aq ⟨_,underlying22,O⟩ (Ee h 0 O O) ab) O Vg ?_;iterate 2 refine D1 O ?_
   refine Ds [] O (λτ h=>aa call124 V (h.aK O)) O Vg ?_;iterate 6 refine D1 O ?_
   refine⟨Vg,?_⟩;refine RW 13 O ?_;iterate 2 refine D1 O ?_
   first|refine D1 O ?_|refine D2 O O Vi ?_
   iterate 6 refine D1 O ?_
   refine Dg [] O (λτ h=>aa call56 hmu (h.aK O)) O Vg<|Dg [big,9001,9002,9003,9004,9005,9006] O (λτ h=>kX (vs:=[pIi ((k:Int)+1),.pv (QU y),.pv (momP (Mm.Sem.mul g.m it.g.m))]) [big,9001,9002,9003,9004,9005,9006] 4 ac hgo (Ee h 0 O O) (h.Ou.trans O) O O O O ⟨(Eo h 0 O O),(Eo h 1 O O),(Eo h 2 O O),(Eo h 3 O O),(Eo h 4 O O),(Eo h 5 O O),(Eo h 6 O O),Vm⟩ Vh O) O Vg ?_;iterate 2 refine D1 O ?_
   refine⟨Vg,?_⟩;refine Gc O (λq=>absurd q Vh) (λq=>?_);exact Q3<|Z2 O<|⟨(i+1,E2),Q5 (aS O) (aO Vg) O O,⟨Vl,by simp only;exact G.symm⟩,Vl⟩
  .rw[EO,dt hag]at V;rw[dt hag]at G;clear hw J Z U;refine RW 15 O<|D1 O ?_;first|refine D1 O ?_|refine D2 O O Vi ?_
   refine D1 O<|Ds [] O (λτ h=>ae k underlying212 JO (Ee h 0 O O) (Ee h 1 O O) O L H) O Vg<|D1 O<|Ds [] O (λτ h=>aq ⟨_,underlying22,O⟩ (Ee h 0 O O) ab) O Vg ?_;iterate 2 refine D1 O ?_
   refine Ds [] O (λτ h=>aa call124 V (h.aK O)) O Vg ?_;iterate 6 refine D1 O ?_
   refine⟨Vg,?_⟩;refine RW 13 O ?_;iterate 13 refine D1 O ?_
   refine⟨Vg,?_⟩;refine Gc O (λq=>absurd q Vh) (λq=>?_);exact Q3<|Z2 O<|⟨(i+1,E'),Q5 (aS O) (aO Vg) O O,⟨Vl,by simp only;exact G.symm⟩,Vl⟩
 .have hie:I.take i=I:=aQ Vf;rw[hie]at hE';rw[<-hE'];exact Gx O<|Z1 O<|Gt O<|⟨[(11,.pv (.bool Sm))],viO S D T n left vs ps v E',[.pv (.bool Sm)],Q5 (aS O) (aO Vg) O O,O,O,O,O,O⟩
theorem Aq(h:BC S D n v K Q X lf ps):∀(d k:Nat),k+d=ps.length->∀(x:Ch)(g:Gv)(E:List En),CI n Q X K k x g E->((foldE (lf v) v K E (leaves (ps.drop k) x g)).length:Int)<=left->iE Gv.w (foldE (lf v) v K E (leaves (ps.drop k) x g))<=10^45->
  FnO prog 120 7 0 (viA ps v k x g) (viO S D T n left vs ps v E) (λr ob'=>r= .pv (.bool Sm)/\ob'=ax (viO S D T n left vs ps v (foldE (lf v) v K E (leaves (ps.drop k) x g))))
 | 0,k,hk,x,g,E,hc,hl,hw=>by
   obtain rfl:k=ps.length:=Vf;rw[List.drop_length]at hl hw ⊢;exact J8 h x g E hc hl hw
 | d+1,k,hk,x,g,E,hc,hl,hw=>Ko h k Vf x g E hc (λy g' E' hc' hl' hw'=>by
   have:=Aq h d (k+1) Vf y g' E' hc' hl' hw';exact this) hl hw
end
end
section
open Go.RowKit Mk Jn Mm Vw
theorem Gh{b:Option Bool}(h:RelP w R (.sl b n cs) u):RelP w R (.sl Sl n cs) u:=by
 simp only[RelP]at h ⊢;obtain⟨A,c,e,h1,h2,_,_,h5⟩:=h;exact⟨A,c,e,h1,h2,(λ_ e=>by cases e),(λe=>by cases e),h5⟩
theorem BW{av:Av}{p q p' q':PV}(d:∀u,RelP w R p u->RelP w R p' u)(r:∀u,RelP w R q u->RelP w R q' u)(h:Rel w m av R (.agg [.pv p,.pv q]) u):Rel w m av R (.pv (.agg [p',q'])) u:=by
 simp only[Rel,RelL,RelP,RelPL]at h ⊢;obtain⟨us,rfl,u1,v1,rfl,h1,u2,v2,rfl,h2,rfl⟩:=h;exact⟨_,O,u1,_,O,d _ h1,u2,_,O,r _ h2,O⟩
section
variable {S:Sch}{D:VD}{T:List (List Rw)}{n:Nat}{left:Int}{vs:List (Option (List En))}{ps:List Prt}{v:Nat}{K:List Int}{Q:List Par}{X:Nat->List ByteArray}{lf:Int->ByteArray->Gv}
theorem JH(h:BC S D n v K Q X lf ps)(J:((viewE (lf v) n v K ps).length:Int)<=left)(L:iE Gv.w (viewE (lf v) n v K ps)<=10^45):
  FnO prog 120 9 0 [pIi 0,.agg [.osl 9007 1 n,.osl 9008 1 n],.pv (momP (Gv.whole 1).m),.pv (.rp [ptsP ps] 0),.ptr big 0,.pv (.rp [.int .i64 v] 0),.ptr 9001 0,.ptr 9002 0]
   [(big,.mix 94 [.ptr 9003 0]),(9001,.mix 110 [.map 9005,.map 9006]),(9002,.mix 214 [viF ps v big 9001 9002]),
     (9003,.mix 101 (bldM2 S D T n left 9004)),(9004,.cells 110 (vwsC vs)),(9005,.mp [] []),(9006,.mp [] []),(9007,.cells 9 (List.replicate n (.str ⟨#[]⟩))),(9008,.cells 4 (List.replicate n (.bool S1)))]
   (λr ob'=>r= .pv (.bool Sm)/\ob'=ax (viO S D T n left vs ps v (viewE (lf v) n v K ps))):=by
 have hc:CI n Q X K 0 (ch0 n) (Gv.whole 1) []:=⟨QT h.lfx.x0,GvOk.whole Q 1,BY 1,BY 1,cd _,λe he=>absurd he Vj⟩;have B:=Aq (left:=left) (vs:=vs) (T:=T) h ps.length 0 Vf (ch0 n) (Gv.whole 1) [] hc J L;refine FnO.weak B Vh O<|St.le.trans (Q8 (o:= .cells 9 (List.replicate n (.str ⟨#[]⟩))) 9007 Vg O)<|St.le.trans (Q8 (o:= .cells 4 (List.replicate n (.bool S1))) 9008 Vg O)<|St.le.trans (Q5 (l:=cU 0 [pIi 0,.agg [.pv (.sl (Sh S1) n (List.replicate n (.str ⟨#[]⟩))),.pv (.sl (Sh S1) n (List.replicate n (.bool S1)))],.pv (momP (Gv.whole 1).m),.pv (.rp [ptsP ps] 0),.ptr big 0,.pv (.rp [.int .i64 v] 0),.ptr 9001 0,.ptr 9002 0])
  (os:=viO S D T n left vs ps v []) (k:=0) ⟨O,O,O,O,O,O,O,O,Vm⟩ ⟨Vg,Vg,Vg,Vg,Vg,Vg,Vg,Vm⟩ O O) ?_
 refine St.AF O O λt w m R u hu=>?_
 by_cases h1:t=1
 .subst h1;have E:bD (ch0 n).v=List.replicate n (PV.str ⟨#[]⟩):=by simp[ch0,bD]
  have G:(ch0 n).s.map PV.bool=List.replicate n (PV.bool S1):=by simp[ch0]
  have H:(ch0 n).v.length=n:=by simp[ch0]
  have I:(ch0 n).s.length=n:=by simp[ch0]
  have d:Rel w m (avK 0) R (.agg [.pv (.sl (Sh S1) n (List.replicate n (.str ⟨#[]⟩))),.pv (.sl (Sh S1) n (List.replicate n (.bool S1)))]) u:=hu;show Rel w m (avK 0) R (.pv (QU (ch0 n))) u;have:=BW (p':= .sl Sl n (List.replicate n (.str ⟨#[]⟩))) (q':= .sl Sl n (List.replicate n (.bool S1))) (λ_=>Gh) (λ_=>Gh) d;show Rel w m (avK 0) R (.pv (.agg [.sl Sl (ch0 n).v.length (bD (ch0 n).v),.sl Sl (ch0 n).s.length ((ch0 n).s.map PV.bool)])) u;rw[E,G,H,I];exact this
 .have e:(mkS (cU 0 [pIi 0,.agg [.pv (.sl (Sh S1) n (List.replicate n (.str ⟨#[]⟩))),.pv (.sl (Sh S1) n (List.replicate n (.bool S1)))],.pv (momP (Gv.whole 1).m),.pv (.rp [ptsP ps] 0),.ptr big 0,.pv (.rp [.int .i64 v] 0),.ptr 9001 0,.ptr 9002 0]) (viO S D T n left vs ps v []) 0).sl t=
   (mkS (cU 0 (viA ps v 0 (ch0 n) (Gv.whole 1))) (viO S D T n left vs ps v []) 0).sl t:=by
   have q:Nat.beq t 1=S1:=by cases q:Nat.beq t 1;rfl;exact absurd (aJ q) h1
   simp only[mkS,cU,look,RV,q,RR]
  exact e▸hu
theorem Ke{vs:List (Option (List En))}(h:k<vs.length)(o:Option (List En)):fX (vwsC vs) (k*2) (vwC o)=vwsC (vs.set k o):=by
 unfold fX;rw[wK];have d:(vwsC vs).take (k*2)=vwsC (vs.take k):=by
  have:vwsC vs=vwsC (vs.take k)++vwsC (vs.drop k):=by rw[vwsC,vwsC,vwsC,<-Sc,Sb]
  rw[this,List.take_left'];rw[nE,Rr,SG Vf]
 have q:(vwsC vs).drop (k*2+2)=vwsC (vs.drop (k+1)):=by
  have:vwsC vs=vwsC (vs.take (k+1))++vwsC (vs.drop (k+1)):=by rw[vwsC,vwsC,vwsC,<-Sc,Sb]
  rw[this,List.drop_left'];rw[nE,Rr,SG Vf];omega
 rw[d,q,Ud,AT h];simp[vwsC,Sc]
theorem xU(M:S.rels.length<=1000)(U:vs.length=n)(V:S.attrs.length=n)(hT:T.length=S.rels.length)(Y:∀l∈T,l.length<=1000)(Z:∀l∈T,∀x∈l,0<=x.w/\x.w<=9223372036854775807)
  (HS CS:List Int) (ab:v<D.hos.length) (ac:v<D.chs.length) (ad:D.hos[v]=HS) (ae:D.chs[v]=CS) (af:HS.length<=1000) (aj:CS.length<=1000) (hH:∀r∈HS,∃k:Nat,k<S.rels.length/\r=(k:Int))
  (hC:∀c∈CS,∃k:Nat,k<n/\k<D.kes.length/\c=(k:Int)) (f:Int->List En) (KK:Int->List Int) (hf:∀(k:Nat)(h:k<vs.length)(h':k<D.kes.length),(k:Int)∈CS->vs[k]=Sh (f k)/\D.kes[k]=KK k/\EnOk (f k)/\(f k).length<=1000000)
  (al:ps=(HS.map λr=>dZ (cY S r) (gK T r))++CS.map λc=>cW (KK c) (f c))
  (h:BC S D n v K Q X lf ps) (hl0:left<=3000) (hl:((viewE (lf v) n v K ps).length:Int)<=left) (hw:iE Gv.w (viewE (lf v) n v K ps)<=10^45):
  FnO prog 49 2 0 [.ptr big 0,pIi v] (bldO S D T n left vs) (λr ob'=>r= .pv (.bool Sm)/\ob'=ax (bldO S D T n (left-(viewE (lf v) n v K ps).length) (vs.set v (Sh (viewE (lf v) n v K ps))))):=by
 refine FnO.of func49 O ntmps49 Vj λm0 w0 F R0=>?_
 have B:=wC S M D T n left vs U hT Y Z v HS CS ab ac ad ae af aj hH hC f KK hf;rw[<-al]at B;have H:=JH (left:=left) (vs:=vs) (T:=T) h hl hw;have I:=kH 1 Vh;have s:=call120;have am:=h.n1;have J:=h.hv;have G:=Ke (vs:=vs) (k:=v) Vf (Sh (viewE (lf v) n v K ps));have an:=nE vs;generalize viewE (lf v) n v K ps=E at*;have L:(bV E).length=E.length:=OF _;subst V;refine Z3 O<|Gr O<|Rs O (cL 2 O)<|Rs O (cL 3 O)<|Y3 O<|Z2 O<|Rs O (bt [big,9001] 5 call119 B O O O O ⟨O,O,Vm⟩ Vh O)<|Y2 O<|Z1 O<|Q4 (St.fG (o:= .mix 212 [.pv (ptsP ps)]) 5 Vg O)<|Q4 (St.fG (o:= .mix 3 [pIi v]) 1 Vg O)<|Z2 O<|Gr O ?_;iterate 7 refine A1 O ?_
 refine RW 9 O ?_;iterate 6 refine D1 O ?_
 refine Ds [] O (λτ h=>aa call54 I (h.aK O)) O Vg<|Ds [0,4,6,big,9001,2,3,7,8] O (λτ h=>kX (vs:=[pIi 0,.agg [.osl 7 1 S.attrs.length,.osl 8 1 S.attrs.length],.pv (momP (Gv.whole 1).m)]) [0,4,6,big,9001,2,3,7,8] 9 s H (Ee h 0 O O) (h.Ou.trans O) O O O O ⟨(Eo h 0 O O),(Eo h 1 O O),(Eo h 2 O O),(Eo h 3 O O),(Eo h 4 O O),(Eo h 5 O O),(Eo h 6 O O),((h.o 7 _ O).trans (ag (λc=>Sh (Ob.cells 9 c)) ((cB (.str ⟨#[]⟩) (S.attrs.length*1)).trans (by rw[R6])))),((h.o 8 _ O).trans (ag (λc=>Sh (Ob.cells 4 c)) ((cB (.bool S1) (S.attrs.length*1)).trans (by rw[R6])))),Vm⟩ Vh O) O Vg<|D1 O ?_;refine⟨Vg,?_⟩;refine Gc O (λq=>absurd q Vh) (λq=>?_);refine Q3<|RW 11 O ?_;iterate 6 refine D1 O ?_
 refine Ds [_] O (λτ h=>ov underlying107 (.inl ⟨2,(Ee h 0 O O),(Eo h 0 O O)⟩)) O Vg ?_;iterate 4 refine D1 O ?_
 refine⟨Vg,?_⟩;refine Q4 (St.cw (ks:=bV E) (vs:=jU E) 2 Vg Vj (RY _))<|Q4 (St.cw (ks:=bV E) (vs:=gvsV E) 3 Vg Vj (RY _))<|RW 8 O ?_;iterate 6 refine D1 O ?_
 refine Ds [_] O (λτ h=>ak v underlying99 A8 (Ee h 0 O O) (Eo h 0 O O) (Ee h 1 O O) O J) O Vg<|DL.step (d:=Sl) [_] O O O (λτ h=>Cc A8 (Ee h 0 O O) (Eo h 0 O O) (Ee h 1 O O) O O Vf) O Vg ?_;refine⟨Vg,?_⟩;exact Z1 O<|Gt O<|⟨[(4,.pv (.bool Sm))],bldO S D T S.attrs.length (left-E.length) (vs.set v (Sh E)),[.pv (.bool Sm)],Q5 (aS O) ⟨RI (b:=Sh (Ob.mix 101 (bldM S D T S.attrs.length (left-(bV E).length)))) Vg (by rw[L]),RI (b:=Sh (Ob.cells 110 (fX (vwsC vs) (v*2) (vwC (Sh E))))) Vg (by rw[G]),Vm⟩ O O,O,O,O,O,O⟩
end
end
section
section
variable {C:Ctx}{n:Nat}{σ:St}{Post:Exit->Act->World->Prop}
def AWX(C:Ctx)(n:Nat)(c:Code)(Post:Exit->Act->World->Prop)(σ:St):Prop:=∀a w,SJ C n σ a w->c.wp C.P Post a w
def PK(K:St->Prop)(C:Ctx)(n:Nat)(Post:Exit->Act->World->Prop):Exit->St->Prop
 | .normal,s=>K s
 |ex,s=>∀a w,SJ C n s a w->Post ex a w
theorem AWX.seq(h:AW C n x (PK (AWX C n y Post) C n Post) σ):AWX C n (.seq x y) Post σ:=by
 intro a w hs;refine wp_seq (wp_mono (h.go a w hs) ?_);rintro e a' w' ⟨s,q,r⟩;cases e<;>exact q a' w' r
theorem AWX.seq2(h:AW C n x (PK (AWX C n y (Exit.then (z.wp C.P Post) Post)) C n Post) σ):AWX C n (.seq (.seq x y) z) Post σ:=by
 intro a w hs;refine wp_seq (wp_seq (wp_mono (h.go a w hs) ?_));rintro e a' w' ⟨s,q,r⟩;cases e<;>exact q a' w' r
end
abbrev CM(w0:World)(R0:Nat->Prop)(Q:PV->Prop):Ending->World->Prop:=λe w'=>∃u v,e= .returned u/\Q v/\Below w0.heap.size w0 w'/\RelP w' (λb=>R0 b\/(w0.heap.size<=b/\b<w'.heap.size)) v u
theorem FnP.marks{f:FuncId}{fn:Func}{c:Code}{args:List PV}(s:P.funcs[f]? =Sh fn)(d:fn.body=Sh c)(G:fn.ntmps=n)(B:args.length<=n)
  (h:∀(w:World)(R0:RT w (λ_=>False)),R0.df=[]->AWX ⟨P,λ_=>Sl,w,λ_=>False,R0⟩ n c (bodyPostM Fence.wide 2 P fn (CM w R0.p Q)) (mkS (iz 0 args) [] 0)):FnP P f args Q:=by
 intro w R us hG hR hrel;refine callsIn_wide.1 (callsIn_of_wp_marks (n:=2) s d trivial (wpIn_wide.2 ?_) O);have E:=hrel.length;refine h w ⟨R,hG,λb h=>⟨hR b h,id⟩,[]⟩ O _ w ⟨λ_=>Sl,R,⟨⟨λ_=>rfl,λ_ _=>rfl,λ_ _ _ _ h=>(by cases h),λ_ _ _ _ _ h=>(by cases h),λ_ _ _ h=>(by cases h),hR,λb h=> .inl h,λb h=>h,Fr.refl _ _,λ_ _ _ h=>(by cases h),λid hi=>cR (k:=0) hi⟩,rfl,Vk,?_⟩⟩;intro t ht;show Rel w _ (avK 0) R (look (iz 0 args) t) ((us.toArray++Array.replicate (fn.ntmps-us.toArray.size) undef).getD t undef);have q:∀(ps:List PV)(vs:List Value)(k:Nat),RelPL w R ps vs->k<=t->∀z:Value,Rel w (λ_=>Sl) (avK 0) R (look (iz k ps) t) (vs[t-k]?.getD z):=by
  intro ps;induction ps with
  |nil=>intro vs k _ _ z;simp only[iz,look,Rel,RelP]
  | cons p ps ih=>
    intro vs k hr hk z;simp only[RelPL]at hr;obtain⟨u,vs',rfl,h1,h2⟩:=hr;simp only[iz,look];by_cases e:t=k
    .subst e;simp only[Ug,Sy,Ux];simpa[Rel]using h1
    .have d:Nat.beq t k=S1:=by cases d:Nat.beq t k;rfl;exact absurd (aJ d) e
     rw[d];have:=ih vs' (k+1) h2 Vf z;have r:t-k=(t-(k+1))+1:=Vf;rw[r];simpa using this
 have:=q args us 0 hrel (cd _) undef;simp only[UU]at this;rw[Sf,UQ];by_cases e:t<us.length
 .simpa[e]using this
 .rw[SF Vf]at this;simp only[RB,e,Up,TJ];split<;>simpa using this
theorem OD{R0:RT w0 (λ_=>False)}{a:Act}(H:SW ⟨P,λ_=>Sl,w0,λ_=>False,R0⟩ n σ a W m R)(ids:List Nat)(os:List (Nat×Ob))
  (hos:os.map (·.1)=(List.range ids.length).map (big+ ·)) (hob:os.all (λp=>p.2.all (okR ids.length 0))=Sm) (aa:fO σ (dV ids 0) os) (I:os.all (λp=>p.2.real)=Sm) (hnd:ids.Nodup):
  ∃bs:List Nat,bs.length=ids.length/\Btw P w0 R bs [] os 0 W/\∀(j id b:Nat),ids[j]? =Sh id->bs[j]? =Sh b->∃N,m id=Sh (b,N):=by
 have ρb:∀j,dV ids 0 (big+j)=ids.getD j 0:=λj=>by
  have:Nat.ble big (big+j)=Sm:=TP (TH _ _);simp only[dV,this,Sy,Nat.add_sub_cancel_left]
 have ρj:∀(j id:Nat),ids[j]? =Sh id->dV ids 0 (big+j)=id:=λj id h=>by rw[ρb,Rj,h];rfl
 have s:∀i o,ax os i=Sh o->∃j id:Nat,i=big+j/\ids[j]? =Sh id:=by
  intro i o h;have:i∈os.map (·.1):=By.2 ⟨(i,o),bG h,O⟩;rw[hos]at this;obtain⟨j,hj,rfl⟩:=By.1 this;have U:j<ids.length:=by simpa using hj
  exact⟨j,ids[j],O,Hj U⟩
 have M:∀(j id:Nat),ids[j]? =Sh id->∃o,ax os (big+j)=Sh o:=by
  intro j id h;apply mr;rw[hos];exact By.2 ⟨j,by simpa using(Rp.1 h).1,O⟩
 have V:∀i o,ax os i=Sh o->σ.ob (dV ids 0 i)=Sh (o.ren (dV ids 0)):=λi o h=>eQ aa i o (bG h)
 have B:∀(j id:Nat),ids[j]? =Sh id->(m id).isSome=Sm:=by
  intro j id h;obtain⟨o,ho⟩:=M j id h;have q:=V _ _ ho;rw[ρj j id h]at q;rw[H.hr.dom,q];exact(Ob.jo _ o).trans (Ri.1 I _ (bG ho))
 have E:∀i,okR ids.length 0 i=Sm->∃j id:Nat,i=big+j/\ids[j]? =Sh id:=by
  intro i hi;simp only[okR,Sg,sh]at hi;rcases hi with h|⟨q,J⟩
  .simp[Nat.blt]at h
  .have q:=Rz q;have J:i<big+ids.length:=by simpa[Tw]using J
   exact⟨i-big,ids[i-big]'Vf,Vf,Hj _⟩
 obtain⟨mc,hmc⟩:∃mc:Gm,mc=λi=>if(ax os i).isSome then m (dV ids 0 i)else Sl:=⟨_,O⟩
 have d:∀i x,mc i=Sh x->∃j id:Nat,i=big+j/\ids[j]? =Sh id/\m id=Sh x:=by
  intro i x h;rw[hmc]at h;simp only at h;split at h
  .rename_i hs;obtain⟨o,ho⟩:=RQ.1 hs;obtain⟨j,id,rfl,hj⟩:=s i o ho;rw[ρj j id hj]at h;exact⟨j,id,O,hj,h⟩
  .cases h
 have Y:∀(j id:Nat),ids[j]? =Sh id->mc (big+j)=m id:=by
  intro j id h;obtain⟨o,ho⟩:=M j id h;rw[hmc];simp only[ho,Option.isSome_some,UP,ρj j id h]
 have L:∀(i j id:Nat),ids[i]? =Sh id->ids[j]? =Sh id->i=j:=by
  intro i j id q J;have l1:=(Rp.1 q).1;have l2:=(Rp.1 J).1;have Z:=Sv.1 hnd;have e1:=(Rp.1 q).2;have r:=(Rp.1 J).2;rcases Nat.lt_trichotomy i j with h|h|h
  .exact absurd (e1.trans r.symm) (Z i j l1 l2 h)
  .exact h
  .exact absurd (r.trans e1.symm) (Z j i l2 l1 h)
 have hF:∀id b N,m id=Sh (b,N)->w0.heap.size<=b:=λid b N e=>(H.hr.own id b N e).2.2.elim False.elim λh=>h
 have G:=H.hr.frame;refine⟨ids.map λid=>((m id).getD (0,0)).1,Vj,⟨⟨mc,⟨R,H.hr.gi,λb hb=>⟨H.hr.rsz b hb,fun⟨i,N,e⟩=>?_⟩,[]⟩,?_,?_,?_,λb hb=>hb,?_⟩,⟨G.os,G.tape,G.output,G.size,λk hk=>G.block k hk id⟩,λx hx=>absurd hx Vj⟩,?_⟩
 .obtain⟨j,id,_,_,r⟩:=d i _ e;exact(H.hr.own id b N r).2.1 hb
 .refine⟨λi=>?_,λi h=>?_,λi o b N h e=>?_,λi j b N N' q J=>?_,λi b N e=>?_,H.hr.rsz,λb h=> .inl h,λb h=>h,Fr.refl _ _,λi x _ h=>h,λi h=>cR h⟩
  .cases ho:ax os i with
   |none=>rw[hmc];simp[ho,bI]
   | some o=>
     obtain⟨j,id,rfl,hj⟩:=s i o ho;rw[Y j id hj,B j id hj];exact(Ri.1 I _ (bG ho)).symm
  .cases ho:ax os i with
   |none=>rfl
   | some o=>
     obtain⟨j,id,rfl,hj⟩:=s i o ho;rw[cR (TH _ _)]at h;cases h
  .obtain⟨j,id,rfl,hj,r⟩:=d i _ e;have q:=V _ _ h;rw[ρj j id hj]at q;have J:=H.hr.obj id _ b N q r;refine lz.gx (dV ids 0) (okR ids.length 0) (λi x Z hx=>?_) (λi Z=>?_) (Ri.1 hob _ (bG h)) J
   .obtain⟨j',id',rfl,U,e3⟩:=d i x hx;rw[ρj j' id' U];exact e3
   .obtain⟨j',id',rfl,_⟩:=E i Z;exact cR (TH _ _)
  .obtain⟨i1,id1,rfl,g1,e1⟩:=d i _ q;obtain⟨i2,id2,rfl,g2,r⟩:=d j _ J;have:=H.hr.inj id1 id2 b N N' e1 r;subst this;rw[L i1 i2 id1 g1 g2]
  .obtain⟨j,id,_,_,r⟩:=d i _ e;exact⟨(H.hr.own id b N r).1,(H.hr.own id b N r).2.1,.inl ⟨i,N,e⟩⟩
 .intro j b hj;rw[TD]at hj;cases hi:ids[j]? with
  |none=>rw[hi]at hj;cases hj
  | some id=>
    rw[hi]at hj;obtain⟨⟨b',N⟩,hm⟩:=RQ.1 (B j id hi);simp only[hm,Tt,Ub,Rq]at hj;subst hj;exact⟨N,by rw[Y j id hi,hm]⟩
 .intro i b N e;obtain⟨j,id,_,_,r⟩:=d i _ e;exact⟨hF id b N r,Vj⟩
 .intro b hb;exact⟨.inl hb,Vj⟩
 .intro j id b hi hj;rw[TD,hi]at hj;obtain⟨⟨b',N⟩,hm⟩:=RQ.1 (B j id hi);simp only[hm,Tt,Ub,Rq]at hj;subst hj;exact⟨N,hm⟩
def Fp(P:Program)(fn:Func)(n:Nat)(σ:St)(vs:List V):Prop:=∀m0 w0 F R0 (a:Act) (w:World) (m:Gm) (R:Nat->Prop),SW ⟨P,m0,w0,F,R0⟩ n σ a w m R->∃us:List Value,(results fn a.tmps).run P w= .ok (if h:us.toArray.size=1 then us.toArray[0]else .tuple us.toArray) w/\RelL w m σ.av R vs us
theorem res2{fn:Func}{x y:Nat}{t1 t2:TypeId}(B:fn.results.toList=[.cell x t1,.cell y t2]){T1 T2:TypeId}{cs:List V}{v:V}(E:isRow P t1)(G:bN P t1 k)(H:cs.length=k)(e1:σ.ev n (.tmp x)= .ptr i 0)(o1:σ.ob i=Sh (.mix T1 cs))
  (I:fF P t2) (e2:σ.ev n (.tmp y)= .ptr j 0) (o2:σ.ob j=Sh (.mix T2 [v])):Fp P fn n σ [.agg cs,v]:=by
 intro m0 w0 F R0 a w m R hw;obtain⟨us,hr,hrel⟩:=mZ hw (fun| .tmp t=>pure (a.tmps.getD t undef)| .cell ad t=>do loadVar t (← asAddr (a.tmps.getD ad undef))) (λ_=>rfl) (λ_ _=>rfl) (l:=[.cell x t1]) (vs:=[.agg cs]) (by simp only[yy,e1,o1]) ⟨az E G e1 o1 H,Vm⟩;simp only[RelL]at hrel;obtain⟨u1,us',rfl,hr1,rfl⟩:=hrel;obtain⟨b,N,hev,hm,arr,hb,hN,hle,hrl⟩:=hw.ptr e2 o2;obtain⟨u2,hu2,hr2⟩:=hrl.get (show [v][0]? =Sh v from O);have hc:w.cell? ⟨b,0,Sl⟩=Sh u2:=by rw[kQ hb O (show 0<[v].length from Nat.zero_lt_one)];exact hu2
 have d:a.tmps.getD y undef= .pointer (Sh ⟨b,0,Sl⟩):=hev;refine⟨[u1,u2],?_,RelL.cons hr1 (RelL.cons hr2 RelL.nil)⟩;have s:Sem.run P (loadVar t2 ⟨b,0,Sl⟩) w= .ok u2 w:=by simp[loadVar,I.run,load,Sem.run,hc]
 rw[List.mapM_cons,List.mapM_nil]at hr;have r:Sem.run P (do loadVar t1 (← asAddr (a.tmps.getD x undef))) w= .ok u1 w:=by
  revert hr
  simp only[Sem.run_bind];cases hq:Sem.run P (asAddr (a.tmps.getD x undef)) w with
  | ok q wq=>
    simp only[Result.andThen_ok];cases hq2:Sem.run P (loadVar t1 q) wq with
    |ok q2 wq2=>simp
    |_=>simp[Result.andThen]
  |_=>simp[Result.andThen]
 unfold results;rw[Array.mapM_eq_mapM_toList,B];rw[Sem.run_bind]at r;simp only[List.mapM_cons,List.mapM_nil,Sem.run_bind,Sem.run_map];rw[r];simp[d,asAddr,s]
def Jy(P:Program)(fn:Func)(n:Nat)(Q:PV->Prop):Exit->St->Prop
 | .ret,σ| .normal,σ=>∃vs ps,Fp P fn n σ vs/\V.args σ.ob vs=Sh ps/\Q (fh ps)
 |_,_=>False
theorem Btw.tail{R0:Nat->Prop}{bs X:List Nat}{os:List (Nat×Ob)}{D:Nat}{slots:List (Nat×V)}{fn:Func}
  (hT:∀m0 w0 F R0,AW ⟨P,m0,w0,F,R0⟩ n z (Jy P fn n Q) (mkS slots os k)) (hB:Btw P w0 R0 bs X os k W) (hD:D∈X) (Y:W.heap[D]? =Sh (.deferred (Sh []))) (a:Act) (hdf:a.defers=[{ target:= .collected D,args:= #[] }]) (hsz:a.tmps.size=n)
  (hsl:∀(m:Gm)(R:Nat->Prop),(∀j b,bs[j]? =Sh b->∃N,m (big+j)=Sh (b,N))->(∀b,R0 b->R b)->∀t,t<n->Rel W m (avK k) R (look slots t) (a.eval (.tmp t))):
  z.wp P (bodyPostM Fence.wide 2 P fn (CM w0 R0 Q)) a W:=by
 obtain⟨m,rt0,hr0,h1,h2,h3,h4⟩:=hB.ex;obtain⟨rt,hp,hd0⟩:∃rt:RT W (dG m),rt.p=rt0.p/\rt.df=a.defers:=⟨⟨rt0.p,rt0.g,rt0.d,a.defers⟩,O,O⟩;have hr:=hr0.dfs hp;rw[<-hp]at hr h3 h4;refine wp_mono ((hT m W (dG m) rt).go a W ⟨m,rt.p,hr,hd0.symm,hsz,hsl m rt.p h1 h3⟩) ?_;rintro ex a2 w2 ⟨σ',hq,m2,R2,hw⟩;have r:Fr (dG m) W w2:=hw.hr.frame;have Z:=(hB.xs D hD);have E:¬dG m D:=fun⟨id,N,e⟩=>(h2 id D N e).2 hD
 have aa:w2.heap[D]? =Sh (.deferred (Sh [])):=(r.block D Z.1 E).trans Y;have ab:¬R2 D:=λh=>by
  rcases hw.hr.rfr D h with e|e|e
  .exact(h4 D e).2 hD
  .have:W.heap.size<=D:=e;omega
  .exact E e
 have ac:∀id N,m2 id≠Sh (D,N):=λid N e=>by
  rcases(hw.hr.own id D N e).2.2 with h|h
  .exact E h
  .have:W.heap.size<=D:=h;omega
 obtain⟨w3,hw3⟩:∃w3,w3=w2.putObj D (.deferred Sl):=⟨_,O⟩;have G:∀q,q≠D->w3.heap[q]? =w2.heap[q]? :=λq hq=>by rw[hw3];exact World.putObj_heap_other hq
 have s:w3.heap.size=w2.heap.size:=by rw[hw3];simp
 have H:∀b,R2 b->R2 b/\w3.heap[b]? =w2.heap[b]? :=λb hb=>⟨hb,G b λe=>ab (e▸hb)⟩
 obtain⟨rt3,hp3,hd3⟩:∃rt3:RT w3 (dG m2),rt3.p=R2/\rt3.df=a2.defers:=⟨⟨R2,hw.hr.gi.mono H,λb hb=>⟨by rw[s];exact hw.hr.rsz b hb,fun⟨id,N,e⟩=>(hw.hr.own id b N e).2.1 hb⟩,a2.defers⟩,O,O⟩;have I:SW ⟨P,m2,w3,dG m2,rt3⟩ n σ' a2 w3 m2 R2:=by
  refine⟨⟨hw.hr.dom,hw.hr.free,λid o b N g1 g2=>lz.mono H (λ_ _ _ e=>e) (λ_ e=>e) (G b λe=>ac id N (e▸g2)) (hw.hr.obj id o b N g1 g2),hw.hr.inj,λid b N e=>⟨by rw[s];exact(hw.hr.own id b N e).1,(hw.hr.own id b N e).2.1,.inl ⟨id,N,e⟩⟩,λb hb=>by rw[s];exact hw.hr.rsz b hb,λb hb=> .inl (by show rt3.p b;rw[hp3];exact hb),λb hb=>by have:rt3.p b:=hb;rw[hp3]at this;exact this,Fr.refl _ _,λ_ _ _ e=>e,hw.hr.res⟩,hd3.symm,hw.sz,λt ht=>(hw.sl t ht).mono H (λ_ _ _ e=>e) λ_ e=>e⟩
 have J:a2.defers=[{ target:= .collected D,args:= #[] }]:=hw.df.trans (hd0.trans hdf);have ad:∀id b N,m2 id=Sh (b,N)->w0.heap.size<=b:=λid b N e=>by
  rcases(hw.hr.own id b N e).2.2 with⟨id2,N2,e2⟩|h
  .exact(h2 id2 b N2 e2).1
  .have:W.heap.size<=b:=h;exact IT hB.bel.size this
 have ae:∀b,R2 b->R0 b\/w0.heap.size<=b:=λb hb=>by
  rcases hw.hr.rfr b hb with e|e|⟨id,N,e⟩
  .exact(h4 b e).1
  .have:W.heap.size<=b:=e;exact .inr (IT hB.bel.size this)
  .exact .inr (h2 id b N e).1
 have L:Below w0.heap.size w0 w3:=by
  have af:Below w0.heap.size W w3:=⟨by rw[hw3];exact r.os,by rw[hw3];exact r.tape,by rw[hw3];exact r.output,by rw[s];exact r.size,λq hq=>(G q Vf).trans (r.block q (RA hq hB.bel.size) fun⟨id,N,e⟩=>by have:=(h2 id q N e).1;omega)⟩;exact hB.bel.trans af
 have M:∀vs ps,Fp P fn n σ' vs->V.args σ'.ob vs=Sh ps->Q (fh ps)->LeavesInM Fence.wide 2 P fn a2.tmps (CM w0 R0 Q) a2.defers .returning w2:=by
  intro vs ps g1 g2 g3;obtain⟨us',hrun,hrl⟩:=g1 _ _ _ _ _ _ _ _ I;have ag:=I.args hrl g2;have B:RelPL w3 (λb=>R0 b\/(w0.heap.size<=b/\b<w3.heap.size)) ps us':=ag.mono λb hb=>⟨by
   rcases hb with hb|⟨id,N,hb⟩
   .rcases ae b hb with h|h
    .exact .inl h
    .exact .inr ⟨h,by rw[s];exact hw.hr.rsz b hb⟩
   .exact .inr ⟨ad id b N hb,by rw[s];exact(hw.hr.own id b N hb).1⟩,O⟩
  have U:=B.length;rw[J];refine⟨Vj,.inl ⟨D,w3,O,by rw[hw3];exact run_takeDeferred aa,?_⟩⟩;refine⟨_,hrun,_,_,O,g3,L,?_⟩;cases ps with
  | nil=>
    simp only[RelPL]at B;subst B;simp only[fh,RelP];exact⟨[],Vj,RelPL.nil⟩
  | cons p ps=>
    cases ps with
    | nil=>
      simp only[RelPL]at B;obtain⟨u,vs',rfl,h5,rfl⟩:=B;simpa[fh]using h5
    | cons p2 ps=>
      simp only[fh,RelP];refine⟨us',?_,B⟩;rw[dif_neg (by simp at U ⊢; omega)]
 cases ex with
 |normal=>obtain⟨vs,ps,g1,g2,g3⟩:=hq;exact M vs ps g1 g2 g3
 |ret=>obtain⟨vs,ps,g1,g2,g3⟩:=hq;exact M vs ps g1 g2 g3
 |_=>exact hq.elim
end
section
open Go.RowKit Go.Shelf
attribute [local go_sem] Oper.semAt_some
theorem GI(b off bk o:Nat)(L:List Int)(A:Option Addr)(c:Nat)(w:World)(M:b<w.heap.size)(s:L≠[]->A=Sh ⟨bk,o,Sl⟩/\bk<w.heap.size)(G:w.cell? ⟨b,off,Sl⟩=Sh (.slice A L.length c))
  (H:∀j (h:j<L.length),w.cell? ⟨bk,o+j,Sl⟩=Sh (.int .i64 L[j])) (ac:L.length<=1000000):
  QY S1 prog 118 #[.pointer (Sh ⟨b,off,Sl⟩)] (λx:Nat×Int=> #[.int .i64 (x.1:Int),.int .i64 x.2]) (λU V=>∀q,q=b\/(L≠[]/\q=bk)->V.heap[q]? =U.heap[q]?)
   (λpre x=>pre.length<L.length/\x=(L.length-1-pre.length,L.getD (L.length-1-pre.length) 0)) (λxs=>xs.length=L.length) w:=by
 intro l J W hW hJ hY I;have I:J [] W:=I (.cells #[] 0 (0,0));have hc:W.cell? ⟨b,off,Sl⟩=Sh (.slice A L.length c):=(hW.cell (p:=⟨b,off,Sl⟩) M).trans G;have Y:∀j (h:j<L.length),W.cell? ⟨bk,o+j,Sl⟩=Sh (.int .i64 L[j]):=λj h=>(hW.cell (p:=⟨bk,o+j,Sl⟩) (s (by intro e;subst e;simp at h)).2).trans (H j h)
 have Z:L≠[]->A=Sh ⟨bk,o,Sl⟩:=λh=>(s h).1
 clear G H hJ hW;refine callsIn_of_wp func118 O trivial ?_ O;simp only[ntmps118,RB,Rk,Tx,Nat.reduceAdd,Nat.reduceSub,Uc,Ua,UH,Um,Sr,SN]
 gi_wp2
 gi_loopw [3] (λi wr=>∃pre:List (Nat×Int),pre.length<=L.length/\i= .int .i64 ((L.length:Int)-1-pre.length)/\J pre wr/\wr.cell? ⟨b,off,Sl⟩=Sh (.slice A L.length c)/\∀j (h:j<L.length),wr.cell? ⟨bk,o+j,Sl⟩=Sh (.int .i64 L[j]))
  (λi _=>(intOf i+1).toNat)
 case atStart=>
  exact⟨[],cd _,Vj,I,hc,Y⟩
 case round=>
  obtain⟨pre,hpl,rfl,hJp,hcp,hrp⟩:=hrel;by_cases hlt:pre.length<L.length
  .obtain⟨k,hk⟩:∃k:Nat,k=L.length-1-pre.length:=⟨_,O⟩;have d:k<L.length:=Vf;have r:(L.length:Int)-1-pre.length=(k:Int):=Vf;have B:L≠[]:=λe=>by subst e;simp at d
   obtain rfl:=Z B;have aa:=hrp k d;have ab:decide ((k:Int)>=0)=Sm:=Ru Vf;obtain⟨fn,tmps,assign,body,hy,hR⟩:=hY pre (k,L[k]) wr hJp ⟨hlt,by subst hk;simp[List.getD,d]⟩;simp only at hy;have E:(k:Int)-1=(L.length:Int)-1-((pre.length+1:Nat):Int):=Vf;rw[r];have HK:=Lib.hid (And.intro r E);have HC:=Lib.hid hrp;have HP:=Lib.hid hcp;clear hY hc Y hrp hk r E Z s
   gi_wp2
   refine hR.mono ?_;rintro e W4 ⟨rfl,hJ4,hk4⟩
   gi_wp2
   go_roundw
   case rel=>
    refine⟨pre++[(k,L[k])],Vk,?_,hJ4,?_,λj h=>?_⟩
    .rw[HK.out.2];simp
    .rw[<-HP.out];exact World.cell?_of_block (hk4 b (.inl O))
    .rw[<-HC.out j h];exact World.cell?_of_block (hk4 bk (.inr ⟨B,O⟩))
   case measure=>simp[intOf]
  .have hpe:pre.length=L.length:=Vf
   gi_wp2
   go_end0
   exact⟨⟨_,O⟩,pre,hpe,hJp⟩
end
section
namespace Vw
open Mm Jn Mk
set_option autoImplicit false
theorem ky{α:Type}[BEq α][LawfulBEq α]:∀{l Q:List α},l.Nodup->(∀a∈l,a∈Q)->l.length<=Q.length
 |[],_,_,_=>cd _
 | a::l,Q,hn,hs=>by
   obtain⟨h1,h2⟩:=Sx.1 hn;have d:=hs a Vj;have:=ky (l:=l) (Q:=Q.erase a) h2 λb hb=>(List.mem_erase_of_ne (λe=>h1 (by rw[<-e];exact hb))).2 (hs b (by simp[hb]))
   rw[List.length_erase_of_mem d]at this;have:=List.length_pos_of_mem d;rw[Rk];omega
def sqL(Q:List Par):List PP:=Q.flatMap λa=>Q.map λb=>(a,b)
theorem M8(Q:List Par):(sqL Q).length=Q.length*Q.length:=by
 unfold sqL;have:∀l:List Par,(l.flatMap λa=>Q.map λb=>(a,b)).length=l.length*Q.length:=λl=>by
  induction l with
  |nil=>simp
  |cons a l ih=>rw[RC,IS,ih,OF,Rk,Va];omega
 exact this Q
theorem ML{Q:List Par}{a b:Par}(d:a∈Q)(q:b∈Q):(a,b)∈sqL Q:=RN.2 ⟨a,d,By.2 ⟨b,q,O⟩⟩
theorem PT{D:Int}{B:Nat}{q:Rat}(r:0<D)(s:D<=36)(E:dM D q)(G:bl B q)(h:B*36<1000000000):F1 q:=by
 have H:=E.LH r;have d:q.den<=36:=Vf;exact⟨UN (IT G.num (Ss _ d)) h,Vf⟩
theorem P8{Q:List Par}{W:Nat}{x:Mm.Sem}(V:SOk W k x)(B:Sup Q x)(L:Q.length<=1000)(q:9*k*k*W*36<1000000000)(Y:W*36<1000000000)(E:3*k*W*36<1000000000):MF1 (cn x):=by
 obtain⟨h,hx,_,_⟩:=V.cn;refine⟨?_,λe he=>PT Vh Vh (h.s.it e he) (h.sb e he) E,λe he=>PT Vh Vh (h.p.it e he) (h.pb e he) q,?_,?_⟩
 .obtain⟨z,hz⟩:=h.ci;have q:=h.cb;rw[hz]at q ⊢;have M:=q.num;have G:((z:Int):Rat).den=1:=rfl;rw[G,R6]at M;exact⟨Vf,by rw[G];decide⟩
 .have h2:((cn x).s.map (·.1)).length<=Q.length:=ky h.s.nd λa ha=>by
   obtain⟨e,he,rfl⟩:=By.1 ha;refine RZ λd=>?_
   have H:=B.s _ d;rw[<-hx]at H;have r:lk (cn x).s e.1=e.2:=fM h.s.nd he;exact h.s.nz e he (r.symm.trans H)
  rw[OF]at h2;omega
 .have h2:((cn x).p.map (·.1)).length<=(sqL Q).length:=ky h.p.nd λa ha=>by
   obtain⟨e,he,rfl⟩:=By.1 ha;have r:lk (cn x).p e.1=e.2:=fM h.p.nd he;have U:(cn x).sem.p e.1.1 e.1.2=e.2:=by
    rw[<-r];show lk (cn x).p (eH e.1.1 e.1.2)=_;rw[fp (h.po e he)]
   have I:x.p e.1.1 e.1.2≠0:=by rw[<-hx,U];exact h.p.nz e he
   have J:e.1.1∈Q/\e.1.2∈Q:=by
    refine⟨RZ λd=>I (B.p _ _ (.inl d)),RZ λd=>I (B.p _ _ (.inr d))⟩
   exact ML J.1 J.2
  rw[OF,M8]at h2;exact IT h2 (IT (Sw L L) Vh)
theorem r6{Q:List Par}{g:Gv}(h:GvOk Q g)(B:Q.length<=1000)(r:g.w<=40000)(d:g.k<=8):MF1 (cn g.m):=by
 have E:9*g.k*g.k*g.w<=9*8*8*40000:=Sw (Sw (Ss 9 d) d) r;have G:3*g.k*g.w<=3*8*40000:=Sw (Ss 3 d) r;exact P8 h.s h.q B Vf Vf Vf
end Vw
end


section
open Mk Jn

theorem xn(a b:List ByteArray)(J:a.length<=1000000)(L:b.length<=1000000):FnP prog 105 [a7 a,a7 b] (· = .bool (decide (a=b))):=by
 refine FnP.of func105 O ntmps105 Vj λm0 w0 F R0=>?_
 refine Z1 O<|Gr O ?_;iterate 5 refine A1 O ?_
 refine Gc O (λd=>?_) (λd=>?_)
 .exact Z1 O<|Gt O<|⟨_,_,O,O,ag PV.bool (Rv (λe=>by rw[e]at d;simp at d)).symm⟩
 .have hl:a.length=b.length:=by simp at d;omega
  refine Q3<|Z3 O<|Gl O (st:=λVn:Nat=>mkS [(0,.pv (a7 a)),(1,.pv (a7 b)),(12,pIi a.length),(13,pIi Vn)] [] 0)
   (I:=λVn=>Vn<=a.length/\a.take Vn=b.take Vn) (μ:=λVn=>a.length-Vn) (x0:=(0)) (Q5 (aS O) trivial O O) (⟨cd _,O⟩) ?_
  rintro i ⟨hi,ht⟩;refine Z1 O<|Gp O (λs=>?_) (λs=>?_)
  .have ha1:i<a.length:=Vf;have r:i<b.length:=Vf;have B:=bE ha1;have E:=bA ha1;have G:=bE r;have H:=bA r;refine Q3<|Z2 O<|RW 9 O ?_;iterate 3 refine D1 O ?_
   first|refine D2 O O Vi ?_|refine D1 O ?_
   iterate 3 refine D1 O ?_
   first|refine D2 O O Vi ?_|refine D1 O ?_
   refine D1 O ?_;refine⟨Vg,?_⟩;refine Gc O (λq=>?_) (λq=>?_)
   .exact Z1 O<|Gt O<|⟨_,_,O,O,ag PV.bool (Rv (λe=>by subst e;simp at q)).symm⟩
   .exact Q3<|Z2 O<|⟨(i+1),Q5 (aS O) trivial O O,⟨Vf,by rw[AI ha1,AI r,ht,show a[i]=b[i]from baT (by simpa using q)]⟩,Vf⟩
  .exact Gx O<|Z1 O<|Gt O<|⟨_,_,O,O,ag PV.bool (Ru (by rwa [aQ Vf,aQ Vf]at ht)).symm⟩
end
section
open Go.RowKit Mk Jn Mm Vw
theorem H6(l:List Int)(E:l.length<=1000000):FnP prog 110 [aj l] (· = .int .i64 (orI l)):=by
 refine FnP.of func110 O ntmps110 Vj λm0 w0 F R0=>?_
 refine Z1 O<|Z1 O<|Z3 O<|Gl O (st:=λVn:Nat=>mkS [(3,pIi 0),(6,.pv (aj l)),(7,pIi l.length),(8,pIi Vn)] [] 0)
  (I:=λVn=>Vn<=l.length/\∀i∈l.take Vn,i=0) (μ:=λVn=>l.length-Vn) (x0:=(0)) (Q5 (aS O) trivial O O) (⟨cd _,λi hi=>by simp at hi⟩) ?_
 rintro k ⟨hk,hz⟩;refine Z1 O<|Gp O (λr=>?_) (λr=>?_)
 .have hlt:k<l.length:=Vf;have B:=aX hlt;have s:=aD hlt;have q:=λh=>yZ hlt hz h
  refine Q3<|Z1 O ?_;first|refine A2 O Vi ?_|refine A1 O ?_
  refine A1 O<|Z3 O<|Gc O (λd=>?_) (λd=>?_)
  .exact Z2 O<|Gt O<|⟨_,_,O,O,ag (PV.int .i64) (q (by simpa using d)).symm⟩
  .exact Q3<|Z2 O<|⟨(k+1),Q5 (aS O) trivial O O,⟨Vf,λi hi=>by rw[bX hlt,Rx,Rn]at hi;rcases hi with h|rfl;exact hz i h;simpa using d⟩,Vf⟩
 .exact Gx O<|Z2 O<|Gt O<|⟨_,_,O,O,ag (PV.int .i64) (yK λi hi=>hz i (by rwa [aQ Vf])).symm⟩
theorem zn(S:Sch)(hB:SB S)(P:List Int)(s:P.length<=1000000)(B:Cf S P=0)(d:List (List Rw))(hc:FnP prog 111 [eS S,dbP d] (· = .int .i64 0)):FnP prog 45 [eS S,og P,dbP d] (· = .int .i64 0):=by
 refine FnP.of func45 O ntmps45 Vj λm0 w0 F R0=>?_
 have r:=ff S hB P s;rw[B]at r;have q:=H6 [0,0] Vh;refine Z3 O<|RW 9 O ?_;iterate 2 refine D1 O ?_
 refine Ds [] O (λτ h=>aa call72 r (h.aK O)) O Vg ?_;iterate 2 refine D1 O ?_
 refine Ds [] O (λτ h=>aa call111 hc (h.aK O)) O Vg<|Ds [] O (λτ h=>ar Sl Vj el320 O Vh Vh (h.Er O O) O) O Vg<|Ds [] O (λτ h=>aa call110 q (h.aK O)) O Vg<|D1 O ?_;refine⟨Vg,?_⟩;exact Gt O<|⟨_,_,O,O,O⟩
theorem CX(S:Sch)(hS:SB S)(P:List Int)(d:OrdOk S P):FnP prog 46 [eS S,og P] (· =tx (bg S P)):=
 (IU S hS P d).mono λv ⟨G,hG,e⟩=>by rw[e,PF d.val hG,Jv d]
theorem Qs(L:List Int):FnP prog 48 [aj L] (· = .fn (.func 118) [] [.rp [aj L] 0]):=by
 refine FnP.of func48 O ntmps48 Vj λm0 w0 F R0=>?_
 exact Z2 O<|Q4 (St.fG 0 O O)<|Z2 O<|Gt O<|⟨_,_,O,O,O⟩
theorem EW(D:VD)(n:Nat)(B:D.chs.length=n+1)(r:n<=1000)(L:List Int)(s:D.chs[n]'Vf=L):FnP prog 55 [tx D] (· =aj L):=by
 refine FnP.of func55 O ntmps55 Vj λm0 w0 F R0=>?_
 have d:=dx (ll:=D.chs) (k:=n) Vf;have q:=dz (ll:=D.chs) (k:=n) Vf;rw[s]at d;have e:((D.chs.length:Nat):Int)-1=(n:Int):=Vf;refine Z2 O<|Gr O ?_;iterate 6 refine A1 O ?_
 exact Rs O (ae n underlying95 nv O O e Vf q)<|Rs O (aq ⟨_,underlying22,O⟩ O d)<|A1 O<|Gt O<|⟨_,_,O,O,O⟩
theorem wH(l:List Trm)(q:l.length<=1000000):FnP prog 106 [.sl Sl l.length (fD l)] (· = .sl Sl l.length (fD l)):=by
 refine FnP.fg2 (FnP.of func106 O ntmps106 Vj λm0 w0 F R0=>?_);have hc:=n9 l;refine Z1 O<|Z1 O<|RL.call O (eP underlying44 O ?_);intro b hb;refine Gc O (λd=>?_) (λd=>?_)
 .have hl0:l=[]:=by have h:=hb d;rw[h]at hc;simp at hc;exact RU Vf
  exact Z1 O<|Gt O<|⟨_,_,O,O,by rw[hl0];rfl⟩
 .refine Q3<|Gr O<|Rs O (cz 0 el44 O)<|A1 O<|Rs O (dB 1 el44 O O O (.inl ⟨Sl,O⟩) Vf (λc hc=>by obtain⟨y,_,hy⟩:=RN.1 hc;simp only[AS,Sn,T7]at hy;rcases hy with rfl|rfl|rfl<;>rfl) Vf O) ?_;exact A1 O<|Q4 (Q8 1 O O)<|Gt O<|⟨_,_,O,O,show PV.sl Sl (0+l.length) ([]++fD l)=_ by rw[RV,Sr]⟩
theorem vJ(l:List Prr)(q:l.length<=1000000):FnP prog 107 [.sl Sl l.length (fE l)] (· = .sl Sl l.length (fE l)):=by
 refine FnP.fg2 (FnP.of func107 O ntmps107 Vj λm0 w0 F R0=>?_);have hc:=oA l;refine Z1 O<|Z1 O<|RL.call O (eP underlying45 O ?_);intro b hb;refine Gc O (λd=>?_) (λd=>?_)
 .have hl0:l=[]:=by have h:=hb d;rw[h]at hc;simp at hc;exact RU Vf
  exact Z1 O<|Gt O<|⟨_,_,O,O,by rw[hl0];rfl⟩
 .refine Q3<|Gr O<|Rs O (cz 0 el45 O)<|A1 O<|Rs O (dB 1 el45 O O O (.inl ⟨Sl,O⟩) Vf (λc hc=>by obtain⟨y,_,hy⟩:=RN.1 hc;simp only[AS,Sn,T7]at hy;rcases hy with rfl|rfl|rfl|rfl|rfl<;>rfl) Vf O) ?_;exact A1 O<|Q4 (Q8 1 O O)<|Gt O<|⟨_,_,O,O,show PV.sl Sl (0+l.length) ([]++fE l)=_ by rw[RV,Sr]⟩
noncomputable abbrev entC(e:En):List PV:=a7 e.v::NI (cn e.g.m)
noncomputable def entsC(l:List En):List PV:=l.flatMap entC
theorem vo(l:List En):(entsC l).length=l.length*4:=bY _ 4 (λ_=>rfl) l
theorem nX{l:List En}(h:k<l.length):((entsC l).drop (k*4)).take 4=entC l[k]:=cC _ 4 (λ_=>rfl) l k h
theorem za{l:List En}(h:k<l.length):entsC l≠[]:=λe=>by have:=vo l;rw[e]at this;simp at this;omega
theorem Cd(l:List En)(e:En):entsC l++entC e=entsC (l++[e]):=by simp only[entsC,Sc,RC,Uu,Sk]
noncomputable def lstsC(l:List (List En)):List PV:=l.map λE=> .sl Sl E.length (entsC E)
theorem wW{l:List (List En)}(h:k<l.length):(lstsC l)[k*1]? =Sh (.sl Sl l[k].length (entsC l[k])):=by simp[lstsC,h]
theorem x7{l:List (List En)}(h:k<l.length):lstsC l≠[]:=λe=>by rw[lstsC,TN]at e;subst e;simp at h
noncomputable abbrev vwsP(l:List (List En))(t:MC):PV:= .agg (.sl Sl l.length (lstsC l)::NI t)
theorem w7:cn gz.m=⟨((0:Int):Rat),[],[]⟩:=by
 have h:gz.m=cnt ((0:Nat):Int):=Mm.Sem.same (by show(0:Rat)=(((0:Nat):Int):Rat);rfl) (λ_=>rfl) (λ_ _=>rfl);rw[h];exact Ag 0
theorem pA:gb ((0:Int):Rat)=⟨#[48]⟩:=by decide+kernel
theorem yP:FnP prog 108 [] (· =wc (cn gz.m)):=by
 refine FnP.fg2 (FnP.ofC func108 O ntmps108 Vj λm0 w0 F R0=>?_);exact Z1 O<|Z2 O<|Gt O<|⟨_,_,O,O,⟨az ⟨_,underlying47,O⟩ L5 O O O,Vm⟩,by rw[w7];show _=PV.agg [.str (gb ((0:Int):Rat)),_,_];rw[pA];rfl⟩
theorem Nc{L:List En}{key:List ByteArray}(d:i<L.length)(q:∀e∈L.take i,e.v≠key)(s:L[i].v=key):atV L key=L[i].g:=by
 have r:L.find? (λe=>decide (e.v=key))=Sh L[i]:=by
  rw[List.find?_eq_some_iff_append];exact⟨by simpa using s,L.take i,L.drop (i+1),by rw[<-RF d,Sb],λe he=>by simpa using q e he⟩
 unfold atV;rw[r];rfl
theorem Px(l:List (List En))(c0:ByteArray)(b1 b2:Option Bool)(k1 k2:Nat)(q1 q2:List PV)(r:Nat)(hr:r<l.length)(key:List ByteArray)(hk:key.length<=1000000)(hl:l[r].length<=1000000)(he:∀e∈l[r],e.v.length<=1000000/\MF1 (cn e.g.m)):FnP prog 42 [.agg [.sl Sl l.length (lstsC l),.str c0,.sl b1 k1 q1,.sl b2 k2 q2],.int .i64 r,a7 key] (· =wc (cn (atV l[r] key).m)):=by
 refine FnP.ofC func42 O ntmps42 Vj λm0 w0 F R0=>?_
 have J:=wW hr;have M:=x7 hr;have hz:=yP;generalize l[r]=L at*;refine Z2 O ?_;have U:decide ((r:Int)>=0)=Sm:=Ru Vf;have Y:decide ((r:Int)<(l.length:Int))=Sm:=Ru Vf;refine Z1 O<|Rs O (XJ.cast (v':= .pv (.bool Sm)) (aC O O O) (ag (λb=>V.pv (.bool b)) U)) ?_;iterate 5 refine A1 O ?_
 refine Rg O (XJ.cast (v':= .pv (.bool Sm)) (aC O O O) (ag (λb=>V.pv (.bool b)) Y))<|A1 O ?_;refine Gc O (λq=>?_) (λq=>absurd q Vj);refine Z3 O<|Rs O (ae r underlying42 sz57 O O O hr M)<|Rs O (aq ⟨_,underlying57,O⟩ O J)<|Y2 O<|Gl O (st:=λVn:Nat=>mkS [(2,.pv (a7 key)),(6,.ptr 1 0),(22,.pv (.sl Sl L.length (entsC L))),(23,pIi L.length),(24,pIi Vn)] [(1,.mix 47 [.pv (.str ⟨#[]⟩),.pv nS,.pv nS])] 2)
  (I:=λVn=>Vn<=L.length/\∀e∈L.take Vn,e.v≠key) (μ:=λVn=>L.length-Vn) (x0:=(0)) (Q5 (aS O) (aO Vg) O O) (⟨cd _,λe h=>absurd h Vj⟩) ?_
 rintro i ⟨hi,hno⟩;refine Z1 O<|Gp O (λH=>?_) (λH=>?_)
 .have hlt:i<L.length:=Vf;have B:=nX hlt;have Z:=za hlt;obtain⟨hev,hem⟩:=he _ (au hlt);have ab:=xn L[i].v key hev hk;have E:=wH (tmL (cn L[i].g.m).s) (by rw[oN];exact hem.ls);have G:=vJ (prL (cn L[i].g.m).p) (by rw[pj];exact hem.lp);rw[oN]at E;rw[pj]at G;have ac:L.take (i+1)=L.take i++[L[i]]:=AI hlt;have ad:L[i].v=key->atV L key=L[i].g:=Nc hlt hno;generalize L[i]=en at*;refine Q3<|Gr O<|Rs O (ae i underlying57 Ps O O O hlt Z)<|Rs O (aU ⟨_,underlying59,O⟩ Ps O B O)<|Y2 O<|Z3 O<|Rs O (aa call105 ab O)<|Gc O (λd=>?_) (λd=>?_)
  .have hv:=ad (Tm d);refine RW 13 O ?_;iterate 6 refine D1 O ?_
   refine Ds [] O (λτ h=>aa call106 E (h.aK O)) O Vg ?_;iterate 3 refine D1 O ?_
   refine Ds [] O (λτ h=>aa call107 G (h.aK O)) O Vg ?_;iterate 2 refine D1 O ?_
   refine⟨Vg,?_⟩;exact Gt O<|⟨_,_,O,O,⟨az ⟨_,underlying47,O⟩ L5 O O O,Vm⟩,by rw[hv];rfl⟩
  .have hv:en.v≠key:=Tn d;exact Q3<|Z2 O<|⟨(i+1),Q5 (aS O) (aO Vg) O O,⟨Vf,λe h=>by rw[ac,Rx,Rn]at h;rcases h with h|rfl;exact hno e h;exact hv⟩,Vf⟩
 .have hmi:atV L key=gz:=by
   have e1:L.find? (λe=>decide (e.v=key))=Sl:=List.find?_eq_none.2 (λe h=>by have:=hno e (by rw[aQ Vf];exact h);simpa using this);unfold atV;rw[e1];rfl
  exact Gx O<|Gr O<|Rs O (aa call108 hz O)<|A1 O<|Gt O<|⟨_,_,O,O,⟨az ⟨_,underlying47,O⟩ L5 O O O,Vm⟩,by rw[hmi];rfl⟩
end
end Go.Proofs.YtoplpepiabedhaaGreatDoor
