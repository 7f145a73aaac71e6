/- Lemmas. No condition. -/
import Derived.Test.YtameambcolibjaaGreatDoorJD13
set_option maxRecDepth 100000
set_option maxHeartbeats 4000000
open Go.RowKit Go.Proofs.Tryz
open Option renaming some→UF,none→UG
open Bool renaming true→VA,false→WA
namespace Go.Proofs.YtameambcolibjaaGreatDoor
variable{k n:Nat}{w:World}{ty:TypeId}
section
section
variable {α:Type}
structure SrtW(enc:α->List Value)(b:Nat)(w w':World)(ds:List α):Prop where
 os:w'.os=w.os
 tape:w'.tape=w.tape
 output:w'.output=w.output
 size:w.heap.size<=w'.heap.size
 block:∀k,k<w.heap.size->k≠b->w'.heap[k]? =w.heap[k]?
 cells:∀(arr:Array Value)(ty:TypeId)(fz:Nat×Nat),w.heap[b]? =UF (.cells arr ty fz)->(ds.flatMap enc).length<=arr.size->∃arr':Array Value,w'.heap[b]? =UF (.cells arr' ty fz)/\arr'.size=arr.size/\arr'.toList.take (ds.flatMap enc).length=ds.flatMap enc
theorem wu[Inhabited α](q:0<k)(enc:α->List Value)(r:∀x,(enc x).length=k)(d:Array α):(Go.Sort.flatK enc k d).toList=d.toList.flatMap enc:=by
 have A:(d.toList.flatMap enc).length=d.toList.length*k:=bL enc k r d.toList;apply Vq
 .simp_all
 .intro i h1 h2;rw[UR,Go.Sort.size_flatK]at h1;have s:i/k<d.size:=Nat.div_lt_of_lt_mul (by rwa [U8]);have t:i%k<k:=Vi _ q;have u:=Go.Sort.get_flatK enc k d i h1;rw[getElem!_pos _ i (by rw[Go.Sort.size_flatK];exact h1)]at u;have j:=ib enc k r d.toList (i/k) (i%k) (by rw[UR];exact s) t;rw[show i/k*k+i%k=i by rw[U8];exact Xl i k,BY h2]at j;rw[Array.getElem_toList,u,getElem!_pos d (i/k) s];have z:i%k<(enc d[i/k]).length:=by rw[r];exact t
  change _=(enc d[i/k])[i%k]? at j
  rw[BY z]at j;rw[getElem!_pos (enc d[i/k]) (i%k) z];exact(Wn j).symm
theorem vJ[Inhabited α](q:0<k)(enc:α->List Value)(t:∀x,(enc x).length=k)(w:World)(b n:Nat)(d:Array α)(os:Array Obj)(u:b<w.heap.size):SrtW enc b w (sortWorldK enc k w b 0 n d os) d.toList:=by
 have r:(sortWorldK enc k w b 0 n d os).heap=(w.heap.modify b (Go.Sort.onCells (Go.Sort.putCells id 0 (Go.Sort.flatK enc k d))))++os:=rfl;have s:=wu q enc t d;have z:(d.toList.flatMap enc).length=(Go.Sort.flatK enc k d).size:=by rw[<-s,UR]
 refine⟨O,O,O,?_,λj hj hne=>?_,λarr ty fz h hle=>?_⟩
 .rw[r];simp
 .grind
 refine⟨Go.Sort.putCells id 0 (Go.Sort.flatK enc k d) arr,?_,by simp[Go.Sort.putCells],?_⟩
 .rw[r,Array.getElem?_append_left (by simpa using u),Xu,AT O,h];rfl
 grind[vh]
theorem qz[Inhabited α](d:0<k)(enc:α->List Value)(t:∀x,(enc x).length=k){b:Nat}{arr:Array Value}{ds:List α}(r:w.heap[b]? =UF (.cells arr ty (0,0)))(h:arr.toList.take (ds.flatMap enc).length=ds.flatMap enc):Go.Sort.HoldsK enc k w b 0 ds.toArray:=by
 intro j hj;have s:=wu d enc t ds.toArray;have u:(ds.flatMap enc).length=(Go.Sort.flatK enc k ds.toArray).size:=by grind
 have q:(arr.toList.take (ds.flatMap enc).length)[j]? =(Go.Sort.flatK enc k ds.toArray).toList[j]? :=by rw[h,s]
 rw[Uw,AT XX,Xv,Xv]at q;constructor
 .simp only[World.cell?,r,UQ];rw[q,getElem!_pos _ j hj];exact Array.getElem?_eq_getElem _
 simp[World.frozen?,r]
theorem permIn_all{d d':Array α}[Inhabited α](j:d.size=n)(h:Go.Sort.PermIn 0 n d d'):d'.toList.Perm d.toList:=by
 obtain⟨h1,_,h2⟩:=h;have q:d'.extract 0 n=d':=by rw[<-j,<-h1];simp
 have r:d.extract 0 n=d:=by rw[<-j];simp
 rwa [q,r]at h2
theorem jM{d:Array α}[Inhabited α]{lt:α->α->Bool}(q:d.size=n)(h:Go.Sort.SortedIn lt 0 n d):d.toList.Pairwise λa b=>lt b a=WA:=by
 rw[UY];intro i j h1 h2 hij;rw[UR]at h1 h2;have:=h i j (aJ _) hij XX;rwa [getElem!_pos d j h2,getElem!_pos d i h1]at this
theorem lO{P:Program}{f:FuncId}{β:Type}(enc:α->List Value)(V:∀x,(enc x).length=k)(kc:β->List PV)(W:∀x,(kc x).length=k)(X:0<k)(xf:α->β)(Srt:List α->Prop)(Y:Srt []){rest:List Value}{m:Gm}{R:RT w (eG m)}{l:List β}{A:Option Addr}{c:Nat}
  (j:HR ⟨P,m,w,eG m,R⟩ m R.p (aA [(big,.gro ty (l.flatMap kc))]) (avK 0) w) (h0:l.length=0->A=UG) (h1:0<l.length->∀b N,m big=UF (b,N)->A=UF ⟨b,0,UG⟩/\N=c*k)
  (Z:∀us,RelPL w R.p (l.flatMap kc) us->∃ds:List α,ds.map xf=l/\ds.flatMap enc=us)
  (I:∀w':World,(∀b,R.p b->w'.heap[b]? =w.heap[b]?)->∀ds:List α,RelPL w' R.p ((ds.map xf).flatMap kc) (ds.flatMap enc))
  (J:Calls P f (Value.slice UG 0 c::rest).toArray w λe w'=>e= .returned (.tuple #[])/\w'=w)
  (L:∀(b:Nat)(ds:List α)(arr:Array Value),ds.map xf=l->0<l.length->w.heap[b]? =UF (.cells arr ty (0,0))->arr.toList.take (ds.flatMap enc).length=ds.flatMap enc->b<w.heap.size->¬R.p b->
   Calls P f (Value.slice (UF ⟨b,0,UG⟩) l.length c::rest).toArray w λe w'=>e= .returned (.tuple #[])/\∃ds':List α,ds'.Perm ds/\Srt ds'/\SrtW enc b w w' ds'):
  Calls P f (Value.slice A l.length c::rest).toArray w λe w'=>∃u v ob' m' R',e= .returned u/\(∃(l':List β)(ds':List α),l'.Perm l/\ds'.map xf=l'/\Srt ds'/\v= .tup []/\ob'=aA [(big,.gro ty (l'.flatMap kc))])/\
   v.all (okR 1 0)=VA/\(∀i o,ob' i=UF o->okR 1 0 i=VA/\o.all (okR 1 0)=VA)/\HR ⟨P,m,w,eG m,R⟩ m' R' ob' (avK 0) w'/\Rel w' m' (avK 0) R' v u:=by
 have r:∀l:List β,aA [(big,Ob.gro ty (l.flatMap kc))] big=UF (.gro ty (l.flatMap kc)):=λ_=>rfl
 have t:∀{l:List β}{i:Nat},i≠big->aA [(big,Ob.gro ty (l.flatMap kc))] i=UG:=fun{l i} hi=>by simp only[aA];rw[nbeqJ hi];rfl
 have D:∀(l:List β) i o,aA [(big,Ob.gro ty (l.flatMap kc))] i=UF o->okR 1 0 i=VA/\o.all (okR 1 0)=VA:=λl i o h=>by
  by_cases hi:i=big
  .subst hi;rw[r]at h;cases h;exact⟨O,O⟩
  rw[t hi]at h;cases h
 by_cases hn:l=[]
 .subst hn;obtain rfl:=h0 O;refine J.mono ?_;rintro e w' ⟨rfl,rfl⟩;exact⟨.tuple #[],.tup [],_,m,R.p,O,⟨[],[],UX _,O,Y,O,O⟩,O,D [],j,by simp only[Rel];exact⟨[],O,by simp only[RelL]⟩⟩
 have hpos:0<l.length:=U7.2 hn;have s:∀l:List β,(l.flatMap kc).length=l.length*k:=bL kc k W;have aa:0<l.length*k:=XL hpos X;have z:∀l':List β,l'.length=l.length->(Ob.gro ty (l'.flatMap kc)).real=VA:=λl' e=>cY (by intro h;have:=s l';rw[h,e]at this;simp at this;omega)
 have E:=j.dom big;rw[r]at E;obtain⟨⟨b,N⟩,hm⟩:∃x,m big=UF x:=UP.1 (E.trans (z l O));obtain⟨rfl,hN⟩:=h1 hpos b N hm;obtain⟨arr,hb,harr,hle,hrl⟩:=j.obj big _ b N (r l) hm;obtain⟨hbs,hbR,_⟩:=j.own big b N hm;obtain⟨ds,hds,hdu⟩:=Z _ hrl;have H:∀d:List α,(d.flatMap enc).length=d.length*k:=bL enc k V;have U:ds.length=l.length:=by rw[<-hds,AS]
 refine(L b ds arr hds hpos hb (by rw[show(ds.flatMap enc).length=(l.flatMap kc).length by rw[H,U,s]];exact hdu.symm) hbs hbR).mono ?_;rintro e w' ⟨rfl,ds',hp,hs,q⟩;have M:(ds'.map xf).Perm l:=hds▸hp.map xf;have B:(ds'.map xf).length=l.length:=M.length_eq;have G:ds'.length=l.length:=by rw[<-B,AS]
 obtain⟨arr',hb',hs',ht'⟩:=q.cells arr _ _ hb (by rw[H,G,<-s,harr];exact hle);refine⟨.tuple #[],.tup [],_,m,R.p,O,⟨ds'.map xf,ds',M,O,hs,O,O⟩,O,D _,?_,by simp only[Rel];exact⟨[],O,by simp only[RelL]⟩⟩;refine⟨λi=>?_,λi h=>?_,λi o b' N' h h'=>?_,j.inj,λi b' N' h=>?_,λb' h=>Uq (j.rsz b' h) q.size,λb' h=>j.rfr b' h,j.r0,⟨q.os,q.tape,q.output,q.size,λk V hF=>q.block k V λe=>hF (e▸⟨big,N,hm⟩)⟩,j.gY,j.res⟩
 .by_cases hi:i=big
  .subst hi;rw[r,hm];exact(z _ B).symm
  rw[t hi];have:=j.dom i;rw[t hi]at this;exact this
 .by_cases hi:i=big
  .subst hi;have:=j.free _ h;rw[r]at this;cases this
  exact t hi
 .by_cases hi:i=big
  .subst hi;rw[r]at h;cases h;rw[hm]at h';cases h';refine⟨arr',hb',hs'.trans harr,by rw[s,B,<-s];exact hle,?_⟩;have e:((ds'.map xf).flatMap kc).length=(ds'.flatMap enc).length:=by rw[s,H,B,G]
   rw[e,ht'];exact I w' (λb2 h2=>q.block b2 (j.rsz b2 h2) λe=>hbR (e▸h2)) ds'
  rw[t hi]at h;cases h
 have:=j.own i b' N' h;exact⟨Uq this.1 q.size,this.2⟩
end
end
end Go.Proofs.YtameambcolibjaaGreatDoor
namespace Go.Proofs
open Go.Proofs.YtameambcolibjaaGreatDoor
open Go.Shelf
def Tryz.sortPar_ren:Go.Shelf.Ren:=⟨fun|6=>143|15=>88|14=>212|28=>158|29=>159|20=>260|21=>261|22=>262|23=>263|24=>264|25=>265|26=>266|27=>267|46=>303|47=>217|48=>218|49=>304|50=>305|57=>339|n=>n,fun|22=>186|24=>136|25=>191|3=>3|39=>161|0=>0|53=>260|55=>262|4=>4|46=>253|45=>252|50=>257|5=>5|9=>9|66=>312|70=>316|76=>356|77=>357|n=>n,fun|n=>n⟩
theorem Tryz.sortPar:Go.Proofs.SlLaysF0.n6 prog Tryz.sortPar_ren:={
 mixed:=XY
 f6:=⟨Tryz.f143.name,XZ,func143.trans (ah UF XY)⟩
 f14:=⟨Tryz.f212.name,XZ,func212.trans (ah UF XY)⟩
 f15:=func88.trans (ah UF XY)
 f20:=⟨Tryz.f260.name,XZ,func260.trans (ah UF XY)⟩
 f21:=⟨Tryz.f261.name,XZ,func261.trans (ah UF XY)⟩
 f22:=⟨Tryz.f262.name,XZ,func262.trans (ah UF XY)⟩
 f23:=⟨Tryz.f263.name,XZ,func263.trans (ah UF XY)⟩
 f24:=⟨Tryz.f264.name,XZ,func264.trans (ah UF XY)⟩
 f25:=⟨Tryz.f265.name,XZ,func265.trans (ah UF XY)⟩
 f26:=⟨Tryz.f266.name,XZ,func266.trans (ah UF XY)⟩
 f27:=⟨Tryz.f267.name,XZ,func267.trans (ah UF XY)⟩
 f28:=func158.trans (ah UF XY)
 f29:=func159.trans (ah UF XY)
 f46:=⟨Tryz.f303.name,XZ,func303.trans (ah UF XY)⟩
 f47:=func217.trans (ah UF XY)
 f48:=func218.trans (ah UF XY)
 f49:=⟨Tryz.f304.name,XZ,func304.trans (ah UF XY)⟩
 f50:=⟨Tryz.f305.name,XZ,func305.trans (ah UF XY)⟩
 f57:=⟨Tryz.f339.name,XZ,func339.trans (ah UF XY)⟩
 t0:=underlying0
 a0:=isAgg0
 z0:=sizeOf0
 v0:=zeroValue0
 t3:=underlying3
 a3:=isAgg3
 z3:=sizeOf3
 v3:=zeroValue3
 t4:=underlying4
 a4:=isAgg4
 z4:=sizeOf4
 v4:=zeroValue4
 t5:=underlying5
 a5:=isAgg5
 z5:=sizeOf5
 v5:=zeroValue5
 t9:=underlying9
 a9:=isAgg9
 z9:=sizeOf9
 v9:=zeroValue9
 t22:=underlying186
 a22:=isAgg186
 z22:=sizeOf186
 v22:=zeroValue186
 t25:=underlying191
 a25:=isAgg191
 z25:=sizeOf191
 v25:=zeroValue191
 t39:=underlying161
 a39:=isAgg161
 z39:=sizeOf161
 v39:=zeroValue161
 t45:=underlying252
 a45:=isAgg252
 z45:=sizeOf252
 v45:=zeroValue252
 t46:=underlying253
 a46:=isAgg253
 z46:=sizeOf253
 v46:=zeroValue253
 t50:=underlying257
 a50:=isAgg257
 z50:=sizeOf257
 v50:=zeroValue257
 t53:=underlying260
 a53:=isAgg260
 z53:=sizeOf260
 v53:=zeroValue260
 t55:=underlying262
 a55:=isAgg262
 z55:=sizeOf262
 v55:=zeroValue262
 t66:=underlying312
 a66:=isAgg312
 z66:=sizeOf312
 v66:=zeroValue312
 t70:=underlying316
 a70:=isAgg316
 z70:=sizeOf316
 v70:=zeroValue316
 t76:=underlying356
 a76:=isAgg356
 z76:=sizeOf356
 v76:=zeroValue356
 t77:=underlying357
 a77:=isAgg357
 z77:=sizeOf357
 v77:=zeroValue357 }
def Tryz.sortPP_ren:Go.Shelf.Ren:=⟨fun|6=>148|15=>88|14=>215|28=>158|29=>159|20=>268|21=>269|22=>270|23=>271|24=>272|25=>273|26=>274|27=>275|46=>306|47=>217|48=>218|49=>307|50=>308|57=>340|n=>n,fun|22=>192|24=>195|25=>199|3=>3|39=>161|0=>0|53=>260|55=>262|4=>4|46=>253|45=>252|50=>257|5=>5|9=>9|66=>312|70=>316|76=>356|77=>357|n=>n,fun|n=>n⟩
theorem Tryz.sortPP:Go.Proofs.SlLaysF0.n6 prog Tryz.sortPP_ren:={
 mixed:=XY
 f6:=⟨Tryz.f148.name,XZ,func148.trans (ah UF XY)⟩
 f14:=⟨Tryz.f215.name,XZ,func215.trans (ah UF XY)⟩
 f15:=func88.trans (ah UF XY)
 f20:=⟨Tryz.f268.name,XZ,func268.trans (ah UF XY)⟩
 f21:=⟨Tryz.f269.name,XZ,func269.trans (ah UF XY)⟩
 f22:=⟨Tryz.f270.name,XZ,func270.trans (ah UF XY)⟩
 f23:=⟨Tryz.f271.name,XZ,func271.trans (ah UF XY)⟩
 f24:=⟨Tryz.f272.name,XZ,func272.trans (ah UF XY)⟩
 f25:=⟨Tryz.f273.name,XZ,func273.trans (ah UF XY)⟩
 f26:=⟨Tryz.f274.name,XZ,func274.trans (ah UF XY)⟩
 f27:=⟨Tryz.f275.name,XZ,func275.trans (ah UF XY)⟩
 f28:=func158.trans (ah UF XY)
 f29:=func159.trans (ah UF XY)
 f46:=⟨Tryz.f306.name,XZ,func306.trans (ah UF XY)⟩
 f47:=func217.trans (ah UF XY)
 f48:=func218.trans (ah UF XY)
 f49:=⟨Tryz.f307.name,XZ,func307.trans (ah UF XY)⟩
 f50:=⟨Tryz.f308.name,XZ,func308.trans (ah UF XY)⟩
 f57:=⟨Tryz.f340.name,XZ,func340.trans (ah UF XY)⟩
 t0:=underlying0
 a0:=isAgg0
 z0:=sizeOf0
 v0:=zeroValue0
 t3:=underlying3
 a3:=isAgg3
 z3:=sizeOf3
 v3:=zeroValue3
 t4:=underlying4
 a4:=isAgg4
 z4:=sizeOf4
 v4:=zeroValue4
 t5:=underlying5
 a5:=isAgg5
 z5:=sizeOf5
 v5:=zeroValue5
 t9:=underlying9
 a9:=isAgg9
 z9:=sizeOf9
 v9:=zeroValue9
 t22:=underlying192
 a22:=isAgg192
 z22:=sizeOf192
 v22:=zeroValue192
 t25:=underlying199
 a25:=isAgg199
 z25:=sizeOf199
 v25:=zeroValue199
 t39:=underlying161
 a39:=isAgg161
 z39:=sizeOf161
 v39:=zeroValue161
 t45:=underlying252
 a45:=isAgg252
 z45:=sizeOf252
 v45:=zeroValue252
 t46:=underlying253
 a46:=isAgg253
 z46:=sizeOf253
 v46:=zeroValue253
 t50:=underlying257
 a50:=isAgg257
 z50:=sizeOf257
 v50:=zeroValue257
 t53:=underlying260
 a53:=isAgg260
 z53:=sizeOf260
 v53:=zeroValue260
 t55:=underlying262
 a55:=isAgg262
 z55:=sizeOf262
 v55:=zeroValue262
 t66:=underlying312
 a66:=isAgg312
 z66:=sizeOf312
 v66:=zeroValue312
 t70:=underlying316
 a70:=isAgg316
 z70:=sizeOf316
 v70:=zeroValue316
 t76:=underlying356
 a76:=isAgg356
 z76:=sizeOf356
 v76:=zeroValue356
 t77:=underlying357
 a77:=isAgg357
 z77:=sizeOf357
 v77:=zeroValue357 }
def Tryz.sortEnt_ren:Go.Shelf.Ren:=⟨fun|6=>32|15=>88|14=>87|28=>158|29=>159|20=>150|21=>151|22=>152|23=>153|24=>154|25=>155|26=>156|27=>157|46=>216|47=>217|48=>218|49=>219|50=>220|57=>276|n=>n,fun|22=>57|24=>59|25=>109|3=>3|39=>161|0=>0|53=>260|55=>262|4=>4|46=>253|45=>252|50=>257|5=>5|9=>9|66=>312|70=>316|76=>356|77=>357|n=>n,fun|n=>n⟩
theorem Tryz.sortEnt:Go.Proofs.SlLaysF0.n6 prog Tryz.sortEnt_ren:={
 mixed:=XY
 f6:=⟨Tryz.f32.name,XZ,func32.trans (ah UF XY)⟩
 f14:=⟨Tryz.f87.name,XZ,func87.trans (ah UF XY)⟩
 f15:=func88.trans (ah UF XY)
 f20:=⟨Tryz.f150.name,XZ,func150.trans (ah UF XY)⟩
 f21:=⟨Tryz.f151.name,XZ,func151.trans (ah UF XY)⟩
 f22:=⟨Tryz.f152.name,XZ,func152.trans (ah UF XY)⟩
 f23:=⟨Tryz.f153.name,XZ,func153.trans (ah UF XY)⟩
 f24:=⟨Tryz.f154.name,XZ,func154.trans (ah UF XY)⟩
 f25:=⟨Tryz.f155.name,XZ,func155.trans (ah UF XY)⟩
 f26:=⟨Tryz.f156.name,XZ,func156.trans (ah UF XY)⟩
 f27:=⟨Tryz.f157.name,XZ,func157.trans (ah UF XY)⟩
 f28:=func158.trans (ah UF XY)
 f29:=func159.trans (ah UF XY)
 f46:=⟨Tryz.f216.name,XZ,func216.trans (ah UF XY)⟩
 f47:=func217.trans (ah UF XY)
 f48:=func218.trans (ah UF XY)
 f49:=⟨Tryz.f219.name,XZ,func219.trans (ah UF XY)⟩
 f50:=⟨Tryz.f220.name,XZ,func220.trans (ah UF XY)⟩
 f57:=⟨Tryz.f276.name,XZ,func276.trans (ah UF XY)⟩
 t0:=underlying0
 a0:=isAgg0
 z0:=sizeOf0
 v0:=zeroValue0
 t3:=underlying3
 a3:=isAgg3
 z3:=sizeOf3
 v3:=zeroValue3
 t4:=underlying4
 a4:=isAgg4
 z4:=sizeOf4
 v4:=zeroValue4
 t5:=underlying5
 a5:=isAgg5
 z5:=sizeOf5
 v5:=zeroValue5
 t9:=underlying9
 a9:=isAgg9
 z9:=sizeOf9
 v9:=zeroValue9
 t22:=underlying57
 a22:=isAgg57
 z22:=sizeOf57
 v22:=zeroValue57
 t25:=underlying109
 a25:=isAgg109
 z25:=sizeOf109
 v25:=zeroValue109
 t39:=underlying161
 a39:=isAgg161
 z39:=sizeOf161
 v39:=zeroValue161
 t45:=underlying252
 a45:=isAgg252
 z45:=sizeOf252
 v45:=zeroValue252
 t46:=underlying253
 a46:=isAgg253
 z46:=sizeOf253
 v46:=zeroValue253
 t50:=underlying257
 a50:=isAgg257
 z50:=sizeOf257
 v50:=zeroValue257
 t53:=underlying260
 a53:=isAgg260
 z53:=sizeOf260
 v53:=zeroValue260
 t55:=underlying262
 a55:=isAgg262
 z55:=sizeOf262
 v55:=zeroValue262
 t66:=underlying312
 a66:=isAgg312
 z66:=sizeOf312
 v66:=zeroValue312
 t70:=underlying316
 a70:=isAgg316
 z70:=sizeOf316
 v70:=zeroValue316
 t76:=underlying356
 a76:=isAgg356
 z76:=sizeOf356
 v76:=zeroValue356
 t77:=underlying357
 a77:=isAgg357
 z77:=sizeOf357
 v77:=zeroValue357 }
end Go.Proofs
namespace Go.Proofs.YtameambcolibjaaGreatDoor
section
open Go.RowKit Mm Jn
theorem Oi{K:Type}{cmp:K->K->Int}(h:Mm.Cmp cmp):Go.Sort.SWO (Go.Proofs.ltOf cmp):=by
 have e:∀x y,Go.Proofs.ltOf cmp x y=decide (cmp x y<0):=λ_ _=>rfl
 refine⟨λx=>?_,λx y z j d=>?_,λx y z j d=>?_⟩
 .rw[e];have:=h.swap x x;exact Up XX
 .rw[e]at*;exact SR (h.trans (V9 j) (V9 d))
 rw[e]at*;have j:=VY j;have d:=VY d;refine Up λq=>?_
 by_cases h0:cmp x y=0
 .rw[h.zero h0]at q;exact d q
 exact d (h.trans (by have:=h.swap x y;omega:cmp y x<0) q)
theorem uw{K:Type}{cmp:K->K->Int}(h:Mm.Cmp cmp):∀{xs l:List K},l.Perm xs->xs.Pairwise (λa b=>cmp a b<0)->l.Pairwise (λa b=>¬cmp b a<0)->l=xs
 |[],l,hp,_,_=>List.Perm.eq_nil hp
 |x::xs,[],hp,_,_=>absurd hp.length_eq X2
 | x::xs,y::t,hp,ha,hb=>by
   obtain⟨a1,a2⟩:=Vd.1 ha;obtain⟨b1,b2⟩:=Vd.1 hb;have d:y=x:=by grind[By.1,Vx]
   subst d;rw[uw h hp.cons_inv a2 b2]
def xl(x:Par):List Value:=[.int .i64 x.f,.string x.c]
instance :Inhabited Par:=⟨⟨0,⟨#[]⟩⟩⟩
theorem Ox:∀{l:List Par}{w:World}{R:Nat->Prop}{us:List Value},RelPL w R (l.flatMap rR) us->l.flatMap xl=us
 |[],_,_,us,h=>by simp only[W9,RelPL]at h;rw[h];rfl
 | x::l,w,R,us,h=>by
   rw[UJ]at h;have h1:RelPL w R (rR x) (us.take 2):=by have:=h.take 2;rwa [show(rR x++l.flatMap rR).take 2=rR x from XQ O]at this
   have d:RelPL w R (l.flatMap rR) (us.drop 2):=by have:=h.drop 2;rwa [show(rR x++l.flatMap rR).drop 2=l.flatMap rR from List.drop_left' O]at this
   rw[UJ,Ox d];have e:us.take 2=xl x:=by
    simp only[RelPL,RelP]at h1;obtain⟨_,_,e,rfl,_,_,rfl,rfl,rfl⟩:=h1;exact e
   rw[<-e,U3]
theorem SH(w:World)(R:Nat->Prop):∀(l:List Par),RelPL w R (l.flatMap rR) (l.flatMap xl)
 |[]=>by simp[RelPL]
 | x::l=>by
   rw[UJ,UJ];exact RelPL.append (RelPL.cons (by simp only[RelP]) (RelPL.cons (by simp only[RelP]) RelPL.nil)) (SH w R l)
theorem EJ(l:List Par)(s:l.length<=1000000):
  FnO prog 143 1 0 [.gsl big 2 l.length,.pv (.fn (.func 83) [] [])] [(big,.gro 136 (tF l))] (λv ob'=>∃l',l'.Perm l/\(l'.Pairwise λa b=>¬bX b a<0)/\v= .tup []/\ob'=aA [(big,.gro 136 (tF l'))]):=by
 intro w m R us hR hrel;simp only[RelL,Rel,RelP]at hrel;obtain⟨u1,us1,rfl,⟨_,A,c,rfl,hnc,hcm,h0,h1⟩,u2,us2,rfl,⟨fs,cs,rfl,hfs,hcs⟩,rfl⟩:=hrel;obtain rfl:=(by simpa[RelPL]using hfs:fs=[]);obtain rfl:=(by simpa[RelPL]using hcs:cs=[]);refine(lO (α:=Par) xl (λ_=>rfl) rR (λ_=>rfl) XZ id (λd=>d.Pairwise λa b=>Go.Proofs.ltOf bX b a=WA) List.Pairwise.nil hR (λh=>(h0 h).1) h1 (λus h=>⟨l,XB _,Ox h⟩) (λw' _ d=>by rw[XB];exact SH w' R.p d)
  (AnyF.slices_SortFunc_none Tryz.sortPar UG c _ w) ?_).mono ?_
 .intro b d arr hds hpos hb ht hbs hbR;rw[XB]at hds;subst hds;have j:=AnyQ.slices_SortFunc Tryz.sortPar 2 isAgg136 sizeOf136 xl (λ_=>rfl) (λx v hv=>by simp only[xl,By,Vy,Xd]at hv;rcases hv with hv|hv<;>(rw[hv];rfl)) bX (Oi dI) 83 #[] b 0 c d.toArray w call83
   (λmm os dk _ x y=>BT x y _) (qz XZ xl (λ_=>rfl) hb ht) hbs (by rw[UL];omega)
  rw[UL]at j;refine Calls.mono j ?_;rintro e w' ⟨rfl,d',n,os,hp,hs,rfl⟩;have q:d'.size=d.length:=hp.1.trans UL;exact⟨O,d'.toList,permIn_all UL hp,jM q hs,vJ XZ xl (λ_=>rfl) w b n d' os hbs⟩
 rintro e w' ⟨u,v,ob',m',R',rfl,⟨l',ds',hp,rfl,hs,rfl,rfl⟩,r⟩;refine⟨u,_,_,m',R',O,⟨_,hp,?_,O,O⟩,r⟩;rw[XB];exact hs.imp λh=>VY h
theorem yB(ks vs:List PV):FnP prog 82 [.mp ks vs] (· = .fn (.func 144) [] [.rp [.mp ks vs] 0]):=by
 refine FnP.of func82 O ntmps82 X2 λ_ _ _ _=>?_
 exact Z2 O<|TN (St.jC 0 O O)<|Z2 O<|Gt O<|⟨_,_,O,O,O⟩
theorem x7(xs:List Par)(vs:List PV)(s:xs.length<=1000000)(t:xs.Pairwise λa b=>bX a b<0):
  FnP prog 81 [.fn (.func 144) [] [.rp [.mp (xs.map bT) vs] 0],.fn (.func 83) [] []] (· = .sl UG xs.length (tF xs)):=by
 have d:=GN xs vs s;refine FnP.of func81 O ntmps81 X2 λ_ _ _ _=>?_
 refine Z1 O<|Z1 O<|RL.call O (cj [] 0 call142 O O O O (by exact trivial) XZ O d ?_);rintro _ _ ⟨ss,hS,rfl,rfl⟩;refine A1 O ?_;have j:ss.length<=1000000:=by rw[hS.length_eq];exact s
 have q:=EJ ss j;refine Z2 O<|RL.call O (cj [0] 1 call143 O O O O (by exact⟨XY,X5⟩) XZ O q ?_);rintro _ _ ⟨l',hp,ho,rfl,rfl⟩;obtain rfl:l'=xs:=uw dI (hp.trans hS) t ho;have r:ss.length=l'.length:=hS.length_eq;rw[r]at*;exact Z2 O<|Gt O<|⟨_,_,O,O,O⟩
def yb(x:PP):List Value:=[.int .i64 x.1.f,.string x.1.c,.int .i64 x.2.f,.string x.2.c]
instance :Inhabited PP:=⟨(⟨0,⟨#[]⟩⟩,⟨0,⟨#[]⟩⟩)⟩
theorem NJ:∀{l:List PP}{w:World}{R:Nat->Prop}{us:List Value},RelPL w R (l.flatMap ppC) us->l.flatMap yb=us
 |[],_,_,us,h=>by simp only[W9,RelPL]at h;rw[h];rfl
 | x::l,w,R,us,h=>by
   rw[UJ]at h;have h1:RelPL w R (ppC x) (us.take 4):=by have:=h.take 4;rwa [show(ppC x++l.flatMap ppC).take 4=ppC x from XQ O]at this
   have d:RelPL w R (l.flatMap ppC) (us.drop 4):=by have:=h.drop 4;rwa [show(ppC x++l.flatMap ppC).drop 4=l.flatMap ppC from List.drop_left' O]at this
   rw[UJ,NJ d];have e:us.take 4=yb x:=by
    simp only[RelPL,RelP]at h1;obtain⟨_,_,e,rfl,_,_,rfl,rfl,_,_,rfl,rfl,_,_,rfl,rfl,rfl⟩:=h1;exact e
   rw[<-e,U3]
theorem Tv(w:World)(R:Nat->Prop):∀(l:List PP),RelPL w R (l.flatMap ppC) (l.flatMap yb)
 |[]=>by simp[RelPL]
 | x::l=>by
   rw[UJ,UJ];exact RelPL.append (RelPL.cons (by simp only[RelP]) (RelPL.cons (by simp only[RelP]) (RelPL.cons (by simp only[RelP]) (RelPL.cons (by simp only[RelP]) RelPL.nil)))) (Tv w R l)
theorem Ei(l:List PP)(s:l.length<=1000000):
  FnO prog 148 1 0 [.gsl big 4 l.length,.pv (.fn (.func 86) [] [])] [(big,.gro 195 (vt l))] (λv ob'=>∃l',l'.Perm l/\(l'.Pairwise λa b=>¬ca b a<0)/\v= .tup []/\ob'=aA [(big,.gro 195 (vt l'))]):=by
 intro w m R us hR hrel;simp only[RelL,Rel,RelP]at hrel;obtain⟨u1,us1,rfl,⟨_,A,c,rfl,hnc,hcm,h0,h1⟩,u2,us2,rfl,⟨fs,cs,rfl,hfs,hcs⟩,rfl⟩:=hrel;obtain rfl:=(by simpa[RelPL]using hfs:fs=[]);obtain rfl:=(by simpa[RelPL]using hcs:cs=[]);refine(lO (α:=PP) yb (λ_=>rfl) ppC (λ_=>rfl) XZ id (λd=>d.Pairwise λa b=>Go.Proofs.ltOf ca b a=WA) List.Pairwise.nil hR (λh=>(h0 h).1) h1 (λus h=>⟨l,XB _,NJ h⟩) (λw' _ d=>by rw[XB];exact Tv w' R.p d)
  (AnyF.slices_SortFunc_none Tryz.sortPP UG c _ w) ?_).mono ?_
 .intro b d arr hds hpos hb ht hbs hbR;rw[XB]at hds;subst hds;have j:=AnyQ.slices_SortFunc Tryz.sortPP 4 isAgg195 sizeOf195 yb (λ_=>rfl) (λx v hv=>by simp only[yb,By,Vy,Xd]at hv;rcases hv with hv|hv|hv|hv<;>(rw[hv];rfl)) ca (Oi cN) 86 #[] b 0 c d.toArray w call86
   (λmm os dk _ x y=>Jk x y _) (qz XZ yb (λ_=>rfl) hb ht) hbs (by rw[UL];omega)
  rw[UL]at j;refine Calls.mono j ?_;rintro e w' ⟨rfl,d',n,os,hp,hs,rfl⟩;have q:d'.size=d.length:=hp.1.trans UL;exact⟨O,d'.toList,permIn_all UL hp,jM q hs,vJ XZ yb (λ_=>rfl) w b n d' os hbs⟩
 rintro e w' ⟨u,v,ob',m',R',rfl,⟨l',ds',hp,rfl,hs,rfl,rfl⟩,r⟩;refine⟨u,_,_,m',R',O,⟨_,hp,?_,O,O⟩,r⟩;rw[XB];exact hs.imp λh=>VY h
theorem zH(ks vs:List PV):FnP prog 85 [.mp ks vs] (· = .fn (.func 149) [] [.rp [.mp ks vs] 0]):=by
 refine FnP.of func85 O ntmps85 X2 λ_ _ _ _=>?_
 exact Z2 O<|TN (St.jC 0 O O)<|Z2 O<|Gt O<|⟨_,_,O,O,O⟩
theorem xU(xs:List PP)(vs:List PV)(s:xs.length<=1000000)(t:xs.Pairwise λa b=>ca a b<0):
  FnP prog 84 [.fn (.func 149) [] [.rp [.mp (xs.map ppP) vs] 0],.fn (.func 86) [] []] (· = .sl UG xs.length (vt xs)):=by
 have d:=GH xs vs s;refine FnP.of func84 O ntmps84 X2 λ_ _ _ _=>?_
 refine Z1 O<|Z1 O<|RL.call O (cj [] 0 call147 O O O O (by exact trivial) XZ O d ?_);rintro _ _ ⟨ss,hS,rfl,rfl⟩;refine A1 O ?_;have j:ss.length<=1000000:=by rw[hS.length_eq];exact s
 have q:=Ei ss j;refine Z2 O<|RL.call O (cj [0] 1 call148 O O O O (by exact⟨XY,X5⟩) XZ O q ?_);rintro _ _ ⟨l',hp,ho,rfl,rfl⟩;obtain rfl:l'=xs:=uw cN (hp.trans hS) t ho;have r:ss.length=l'.length:=hS.length_eq;rw[r]at*;exact Z2 O<|Gt O<|⟨_,_,O,O,O⟩
end
section
section
variable {w:World}{m:Gm}{av:Av}{R:Nat->Prop}
theorem BL:∀(ps:List V)(vs:List Value)(k t:Nat),RelL w m av R ps vs->k<=t->∀z:Value,Rel w m av R (look (dD k ps) t) (vs[t-k]?.getD z)
 |[],vs,k,t,_,_,z=>by simp only[dD,look,Rel,RelP]
 | p::ps,vs,k,t,hr,hk,z=>by
   simp only[RelL]at hr;obtain⟨u,vs',rfl,h1,h2⟩:=hr;simp only[dD,look];by_cases e:t=k
   .simp_all
   have hb:Nat.beq t k=WA:=by cases hb:Nat.beq t k;rfl;exact absurd (bZ hb) e
   rw[hb];have:=BL ps vs' (k+1) t h2 XX z;have d:t-k=(t-(k+1))+1:=XX;rw[d];simpa using this
theorem Cy:∀(ps:List V)(vs:List Value)(k:Nat),ps.length=vs.length->(∀t,k<=t->t<k+vs.length->∀z:Value,Rel w m av R (look (dD k ps) t) (vs[t-k]?.getD z))->RelL w m av R ps vs
 |[],[],_,_,_=>by simp only[RelL]
 |[],v::vs,_,h,_=>by simp at h
 |p::ps,[],_,h,_=>by simp at h
 | p::ps,v::vs,k,h,hs=>by
   refine RelL.cons ?_ (Cy ps vs (k+1) (by simpa using h) λt h1 h2 z=>?_)
   .have:=hs k (tJ _) X2 v;simpa[dD,look]using this
   have:=hs t XX X3 z;have d:Nat.beq t k=WA:=by cases d:Nat.beq t k;rfl;have:=bZ d;omega
   simp only[dD,look,d,UZ]at this;have j:t-k=(t-(k+1))+1:=XX;rw[j]at this;simpa using this
end
theorem Ht{k k1 k' i:Nat}(d:k<=k1)(h:okR k k' i=VA):okR k1 k' i=VA:=by
 unfold okR at*;simp only[UW,dO]at h ⊢;rcases h with h|⟨h1,h2⟩
 .exact .inl h
 refine .inr ⟨h1,?_⟩;have:i<big+k:=Uy h2;exact WL (by omega:i+1<=big+k1)
mutual
theorem V.B0{p q:Nat->Bool}(h:∀i,p i=VA->q i=VA):∀v:V,v.all p=VA->v.all q=VA
 |.pv _,_=>rfl
 |.ptr i _,hv=>h i hv
 |.osl i _ _,hv=>h i hv
 |.tsl i _ _,hv=>h i hv
 |.gsl i _ _,hv=>h i hv
 |.map i,hv=>h i hv
 |.agg vs,hv=>V.allL_up h vs hv
 |.tup vs,hv=>V.allL_up h vs hv
 |.fn _ a b,hv=>by
   simp only[V.all,dO]at hv ⊢;exact⟨V.allL_up h a hv.1,V.allL_up h b hv.2⟩
theorem V.allL_up{p q:Nat->Bool}(h:∀i,p i=VA->q i=VA):∀vs:List V,V.allL p vs=VA->V.allL q vs=VA
 |[],_=>rfl
 | v::vs,hv=>by
   simp only[V.allL,dO]at hv ⊢;exact⟨V.B0 h v hv.1,V.allL_up h vs hv.2⟩
end
theorem Ob.B0{p q:Nat->Bool}(h:∀i,p i=VA->q i=VA):∀o:Ob,o.all p=VA->o.all q=VA
 |.mix _ vs,hv=>V.allL_up h vs hv
 |.cells _ _,_=>rfl
 |.gro _ _,_=>rfl
 |.mp _ _,_=>rfl
 |.it _ _,_=>rfl
 |.fro _ _,_=>rfl
 |.mi _ _ _,_=>rfl
theorem St.Bl{σ τ:St}(j:σ.ob=τ.ob)(d:σ.av=τ.av)(q:∀t w m R u,Rel w m σ.av R (σ.sl t) u->Rel w m σ.av R (τ.sl t) u):σ.le τ:=by
 rintro C n a w ⟨m,R,hw⟩;refine⟨m,R,⟨?_,hw.df,hw.sz,λt ht=>?_⟩⟩
 .have:=hw.hr;rw[j,d]at this;exact this
 rw[<-d];exact q t w m R _ (hw.sl t ht)
def St.setSl(σ:St)(t:Nat)(v:V):St:=⟨λi=>bif Nat.beq i t then v else σ.sl i,σ.ob,σ.av⟩
theorem St.S7{σ:St}{f:Fn}{fs cs:List PV}(t:Nat)(h:σ.sl t= .fn f (fs.map V.pv) (cs.map V.pv)):σ.le (σ.setSl t (.pv (.fn f fs cs))):=by
 refine St.Bl O O λi w m R u hu=>?_
 show Rel w m σ.av R (bif Nat.beq i t then _ else σ.sl i) u;cases hb:Nat.beq i t with
 |false=>exact hu
 | true=>
   obtain rfl:=bZ hb;rw[h]at hu;simp only[VG,Rel,RelP]at hu ⊢;obtain⟨us,vs,rfl,h1,h2⟩:=hu;exact⟨us,vs,O,h1.toP,h2.toP⟩
theorem FnO.weak{P:Program}{f:FuncId}{k k1 k':Nat}{args args1:List V}{os os1:List (Nat×Ob)}{Q:V->(Nat->Option Ob)->Prop}(h:FnO P f k k' args os Q)(B:k<=k1)(I:args.length=args1.length)(H:(mkS (dD 0 args1) os1 0).le (mkS (dD 0 args) os 0)):
  FnO P f k1 k' args1 os1 Q:=by
 intro w m R us hHR hrel;have J:=hrel.length;obtain⟨R1,hp1,hd1⟩:∃R1:RT w (eG m),R1.p=R.p/\R1.df=[]:=⟨⟨R.p,R.g,R.d,[]⟩,O,O⟩;have s:SJ ⟨P,m,w,eG m,R1⟩ us.length (mkS (dD 0 args1) os1 0) { tmps:=us.toArray,defers:=[] } w:=by
  refine⟨m,R.p,⟨hHR.dfs hp1,hd1.symm,X2,λt ht=>?_⟩⟩;show Rel w m (avK 0) R.p (look (dD 0 args1) t) (us.toArray.getD t undef);have:=BL args1 us 0 t hrel (aJ _) undef;rw[VU];simpa using this
 obtain⟨m2,R2,hw⟩:=H _ _ _ _ s;have j:=hw.hr;have D:∀b,eG m2 b->eG m b:=λb ⟨id,N,e⟩=>by
  obtain⟨h1,_,h3⟩:=j.own id b N e;rcases h3 with h3|h3
  .exact h3
  have:w.heap.size<=b:=h3;omega
 have A:∀b,R.p b->R2 b:=λb hb=>j.r0 b (by show R1.p b;rw[hp1];exact hb)
 have E:∃R3:RT w (eG m2),R3.p=R2:=⟨⟨R2,R.g.mono λb hb=>⟨A b hb,O⟩,λb hb=>⟨j.rsz b hb,fun⟨id,N,e⟩=>(j.own id b N e).2.1 hb⟩,[]⟩,O⟩;obtain⟨R3,hR3⟩:=E;have G:HR ⟨P,m2,w,eG m2,R3⟩ m2 R3.p (aA os) (avK 0) w:=by
  rw[hR3];exact⟨j.dom,j.free,j.obj,j.inj,λid b N e=>⟨(j.own id b N e).1,(j.own id b N e).2.1,.inl ⟨id,N,e⟩⟩,j.rsz,λb hb=> .inl (by show R3.p b;rw[hR3];exact hb),λb hb=>by have:R3.p b:=hb;rw[hR3]at this;exact this,Fr.refl _ _,λ_ _ _ e=>e,j.res⟩
 have r:RelL w m2 (avK 0) R3.p args us:=by
  rw[hR3];refine Cy args us 0 XX λt _ ht z=>?_
  have:=hw.sl t XX;have e:us[t-0]?.getD z=us.toArray.getD t undef:=by simp_all
  rw[e];exact this
 refine(h w m2 R3 us G r).mono ?_;rintro e w' ⟨u,v,ob',m',R',rfl,hq,hv,hall,hH,hrv⟩;refine⟨u,v,ob',m',R',O,hq,V.B0 (λi=>Ht B) v hv,λi o ho=>⟨Ht B (hall i o ho).1,Ob.B0 (λi=>Ht B) o (hall i o ho).2⟩,?_,hrv⟩;have q:=hH.frame;refine⟨hH.dom,hH.free,hH.obj,hH.inj,λid b N e=>⟨(hH.own id b N e).1,(hH.own id b N e).2.1,(hH.own id b N e).2.2.imp (D b) λh=>h⟩,hH.rsz,λb hb=>?_,λb hb=>hH.r0 b (by show R3.p b;rw[hR3];exact A b hb),⟨q.os,q.tape,q.output,q.size,λk B hn=>q.block k B λh=>hn (D k h)⟩,λid x hid e=>j.gY id x hid (hH.gY id x hid e),hH.res⟩;rcases hH.rfr b hb with h1|h1|h1
 .have h2:R2 b:=by have:R3.p b:=h1;rw[hR3]at this;exact this
  rcases j.rfr b h2 with h3|h3|h3
  .grind
  .exact .inr (.inl h3)
  exact .inr (.inr h3)
 .exact .inr (.inl h1)
 exact .inr (.inr (D b h1))
end
section
open Go.RowKit Mk Jn Mm
theorem qx(q:Rat)(h:F1 q):FnP prog 79 [frP q,.rp [.int .i64 0] 0] (· = .str (a6 q)):=by
 refine FnP.of func79 O ntmps79 X2 λ_ _ _ _=>?_
 have j:=DD q h;refine Z2 O<|Z1 O<|Rs O (aa call80 j O)<|Ar 5 O<|Z2 O<|Gc O (λd=>absurd d X2) (λd=>?_);exact TM<|Z2 O<|Gt O<|⟨_,_,O,O,O⟩
theorem Ol{K:Type}[BEq K][LawfulBEq K]{l:List (K×Rat)}(s:(l.map (·.1)).Nodup){i:Nat}(q:i<l.length):wY l l[i].1=UF l[i].2:=by
 have r:l.findIdx? (λe=>e.1==l[i].1)=UF i:=by
  rw[V4];refine⟨q,X2,λj hj=>?_⟩;have d:=UY.1 s j i X3 X3 hj;simp only[VC]at d;simpa using d
 unfold wY;rw[r];simp[q]
theorem BU{K:Type}{cmp:K->K->Int}(h:Mm.Cmp cmp){l:List (K×Rat)}(d:l.Pairwise λa b=>cmp a.1 b.1<0):(l.map (·.1)).Nodup:=by
 rw[List.Nodup,VW];refine d.imp fun{a b} h1 e=>?_
 rw[e]at h1;have:=h.swap b.1 b.1;omega
theorem MF{l:List (Par×Rat)}{k:Nat}(h:k<l.length):((tF (l.map (·.1))).drop (k*2)).take 2=[.int .i64 l[k].1.f,.str l[k].1.c]:=by simp_all[cZ,rR,tF]
theorem Rq{l:List (PP×Rat)}{k:Nat}(h:k<l.length):((vt (l.map (·.1))).drop (k*4)).take 4=[.int .i64 l[k].1.1.f,.str l[k].1.1.c,.int .i64 l[k].1.2.f,.str l[k].1.2.c]:=by simp_all[cZ,ppC,vt]
theorem Qf{l:List (Par×Rat)}{k:Nat}(h:k<l.length):tF (l.map (·.1))≠[]:=λe=>by have:=AG (l.map (·.1));rw[e]at this;simp at this;omega
theorem SD{l:List (PP×Rat)}{k:Nat}(h:k<l.length):vt (l.map (·.1))≠[]:=λe=>by have:=Br (l.map (·.1));rw[e]at this;simp at this;omega
theorem QX{l:List (Par×Rat)}{i:Nat}(d:i<l.length):bd (tmL (l.take i))++[.int .i64 l[i].1.f,.str l[i].1.c,.str (a6 l[i].2)]=bd (tmL (l.take (i+1))):=by
 rw[bH d];simp only[tmL,bd,UO,U6,cd,Vn,UJ,W9,Vg]
theorem Q2{l:List (PP×Rat)}{i:Nat}(d:i<l.length):bj (prL (l.take i))++[.int .i64 l[i].1.1.f,.str l[i].1.1.c,.int .i64 l[i].1.2.f,.str l[i].1.2.c,.str (a6 l[i].2)]=bj (prL (l.take (i+1))):=by
 rw[bH d];simp only[prL,bj,UO,U6,cd,Vn,UJ,W9,Vg]
theorem Hc(m:MC)(hs:m.s.Pairwise λa b=>bX a.1 b.1<0)(hp:m.p.Pairwise λa b=>ca a.1 b.1<0)(L:MF1 m):FnP prog 31 [mcP m] (· = .tup [kA m,.int .i64 0]):=by
 refine FnP.ofC func31 O ntmps31 X2 λ_ _ _ _=>?_
 have M:=qx m.c L.c;have U:=L.ls;have W:=L.lp;have X:=yB (ay bT m.s) (aV m.s);have Y:=zH (ay ppP m.p) (aV m.p);have Z:(m.s.map (·.1)).map bT=ay bT m.s:=by simp[ay]
 have ab:(m.p.map (·.1)).map ppP=ay ppP m.p:=by simp[ay]
 have t:=x7 (m.s.map (·.1)) (aV m.s) (by simpa using U) (by rw[VW];exact hs);have u:=xU (m.p.map (·.1)) (aV m.p) (by simpa using W) (by rw[VW];exact hp);rw[Z,AS]at t;rw[ab,AS]at u;have E:=BU dI hs;have G:=BU cN hp;have ac:=Bf cy E;have ad:=Bf c6 G;refine Z3 O<|Z2 O<|TN (St.jC 2 O O)<|Z2 O<|TN (St.S7 (fs:=[]) (cs:=[.rp [.int .i64 0] 0]) 5 O)<|Z3 O<|Rs O (ja (fs:=[]) (ps:=[frP m.c]) (cs:=[.rp [.int .i64 0] 0]) call79 O M O)<|Y3 O<|TN (St.cV (T':=47) (cs:=[.pv (.str (a6 m.c)),.pv nS,.pv nS]) 3 1 4 3 138 XY O O)<|TN (St.cV (T':=47) (cs:=[.pv (.str (a6 m.c)),.gsl 4 3 0,.pv nS]) 3 2 5 5 140 XY O O)<|Z2 O<|Rs O (aa call82 X O)<|Rs O (aa call81 t O)<|Y2 O<|Gz O (st:=λX6:Nat=>([(1,UG),(2,UG),(4,UG),(5,UG),(6,UG),(20,UG),(21,UG),(22,UF (pIi X6))],[(0,UG),(1,UG),(3,UF (.mix 47 [.pv (.str (a6 m.c)),.gsl 4 3 X6,.gsl 5 5 0])),(4,UF (.gro 138 (bd (tmL (m.s.take X6))))),(5,UG)])) 6
  (I:=λX6=>X6<=m.s.length) (μ:=λX6=>m.s.length-X6) (x0:=(0)) (TO (aS O) (aO XY) O O) (aJ _) ?_
 rintro i hi;refine Z1 O<|Gp O (λH=>?_) (λH=>?_)
 .have hlt:i<m.s.length:=XX;have q:=MF hlt;have A:=Qf hlt;have B:=qx m.s[i].2 (L.s _ (ak hlt));have r:=pG cy m.s m.s[i].1;rw[Ol E hlt]at r;have D:=ni (tmL (m.s.take i));rw[gR,OF,U5 hi]at D;refine TM<|Gr O<|Rs O (ag i underlying186 o7 O O O hlt A)<|Rs O (aF ⟨_,underlying136,O⟩ o7 O q O)<|Y2 O<|UB 14 O<|Dr 7 O<|Ds [] O (λτ h=>p8 jq underlying102 (.inr (.inl ⟨(Ee h 0 O O),ac⟩)) (Ee h 1 O O) ⟨m.s[i].1,O⟩ oz O r O) O XY<|Ds [] O (λτ h=>ja (fs:=[]) (ps:=[frP m.s[i].2]) (cs:=[.rp [.int .i64 0] 0]) call79 (Ee h 0 O O) B ((ah (λl=>(V.args (λ_=>UG) l).map PV.fgA) h.dD).trans O)) O XY<|Dr 5 O ?_;refine⟨XY,?_⟩;exact Z2 O<|⟨(i+1),TP [0,1,2,3,8,5] (aT O) ⟨XY,XY,XY,UI (b:=UF (.gro 138 (bd (tmL (m.s.take i))++[.int .i64 m.s[i].1.f,.str m.s[i].1.c,.str (a6 m.s[i].2)]))) XY (ah (λc=>UF (Ob.gro 138 c)) (QX hlt)),XY,X5⟩ O O XZ O,hlt,XX⟩
 have hie:m.s.take i=m.s:=aG XX;have af:i=m.s.length:=XX;rw[hie,af];refine Gx O<|Z2 O<|Rs O (aa call85 Y O)<|Rs O (aa call84 u O)<|Y2 O<|Gz O (st:=λd:Nat=>([(1,UG),(2,UG),(4,UG),(5,UG),(6,UG),(43,UG),(44,UG),(45,UF (pIi d))],[(0,UG),(1,UG),(3,UF (.mix 47 [.pv (.str (a6 m.c)),.gsl 4 3 m.s.length,.gsl 5 5 d])),(4,UG),(5,UF (.gro 140 (bj (prL (m.p.take d)))))])) 6
  (I:=λd=>d<=m.p.length) (μ:=λd=>m.p.length-d) (x0:=(0)) (TO (aS O) (aO XY) O O) (aJ _) ?_
 rintro j hj;refine Z1 O<|Gp O (λJ=>?_) (λJ=>?_)
 .have hlt:j<m.p.length:=XX;have q:=Rq hlt;have A:=SD hlt;have B:=qx m.p[j].2 (L.p _ (ak hlt));have r:=pG c6 m.p m.p[j].1;rw[Ol G hlt]at r;have D:=nj (prL (m.p.take j));rw[gQ,OF,U5 hj]at D;refine TM<|Gr O<|Rs O (ag j underlying192 KY O O O hlt A)<|Rs O (aF ⟨_,underlying195,O⟩ KY O q O)<|Y2 O<|UB 17 O<|Dr 10 O<|Ds [] O (λτ h=>p8 tQ underlying103 (.inr (.inl ⟨(Ee h 0 O O),ad⟩)) (Ee h 1 O O) ⟨m.p[j].1,O⟩ oz O r O) O XY<|Ds [] O (λτ h=>ja (fs:=[]) (ps:=[frP m.p[j].2]) (cs:=[.rp [.int .i64 0] 0]) call79 (Ee h 0 O O) B ((ah (λl=>(V.args (λ_=>UG) l).map PV.fgA) h.dD).trans O)) O XY<|Dr 5 O ?_;refine⟨XY,?_⟩;exact Z2 O<|⟨(j+1),TP [0,1,2,3,4,8] (aT O) ⟨XY,XY,XY,XY,UI (b:=UF (.gro 140 (bj (prL (m.p.take j))++[.int .i64 m.p[j].1.1.f,.str m.p[j].1.1.c,.int .i64 m.p[j].1.2.f,.str m.p[j].1.2.c,.str (a6 m.p[j].2)]))) XY (ah (λc=>UF (Ob.gro 140 c)) (Q2 hlt)),X5⟩ O O XZ O,hlt,XX⟩
 have hje:m.p.take j=m.p:=aG XX;have aj:j=m.p.length:=XX;rw[hje,aj];refine Gx O<|Z2 O<|Gc O (λz=>absurd z X2) (λz=>?_);exact TM<|TN (TR (o:=.gro 138 (bd (tmL m.s))) 4 XY O)<|TN (TR (o:=.gro 140 (bj (prL m.p))) 5 XY O)<|Z3 O<|Gt O<|⟨_,_,O,O,⟨au ⟨_,underlying47,O⟩ EV O O O,X5⟩,O⟩
end
section
namespace Vw
open Mm Jn Mk
set_option autoImplicit false
theorem qj{α:Type}[BEq α][LawfulBEq α]:∀{l Q:List α},l.Nodup->(∀a∈l,a∈Q)->l.length<=Q.length
 |[],_,_,_=>aJ _
 | a::l,Q,hn,hs=>by
   obtain⟨h1,h2⟩:=Wm.1 hn;have d:=hs a X2;have:=qj (l:=l) (Q:=Q.erase a) h2 λb hb=>(List.mem_erase_of_ne (λe=>h1 (by rw[<-e];exact hb))).2 (hs b (by simp[hb]))
   rw[List.length_erase_of_mem d]at this;have:=List.length_pos_of_mem d;rw[IN];omega
def sqL(Q:List Par):List PP:=Q.flatMap λa=>Q.map λb=>(a,b)
theorem PA(Q:List Par):(sqL Q).length=Q.length*Q.length:=by
 unfold sqL;have:∀l:List Par,(l.flatMap λa=>Q.map λb=>(a,b)).length=l.length*Q.length:=λl=>by
  induction l with
  |nil=>simp
  |cons a l ih=>rw[UJ,D8,ih,AS,IN,XT];omega
 exact this Q
theorem Qs{Q:List Par}{a b:Par}(d:a∈Q)(j:b∈Q):(a,b)∈sqL Q:=UU.2 ⟨a,d,IS.2 ⟨b,j,O⟩⟩
theorem Si{D:Int}{B:Nat}{q:Rat}(j:0<D)(r:D<=36)(s:eC D q)(t:bp B q)(h:B*36<1000000000):F1 q:=by
 have u:=s.NG j;have d:q.den<=36:=XX;exact⟨Xa (AI t.num (US _ d)) h,XX⟩
theorem RR{Q:List Par}{W k:Nat}{x:Mm.Sem}(I:SOk W k x)(r:Sup Q x)(E:Q.length<=1000)(j:9*k*k*W*36<1000000000)(J:W*36<1000000000)(t:3*k*W*36<1000000000):MF1 (cn x):=by
 obtain⟨h,hx,_,_⟩:=I.cn;refine⟨?_,λe he=>Si XZ XZ (h.s.it e he) (h.sb e he) t,λe he=>Si XZ XZ (h.p.it e he) (h.pb e he) j,?_,?_⟩
 .obtain⟨z,hz⟩:=h.ci;have j:=h.cb;rw[hz]at j ⊢;have G:=j.num;have u:((z:Int):Rat).den=1:=rfl;rw[u,Uv]at G;exact⟨XX,by rw[u];decide⟩
 .have h2:((cn x).s.map (·.1)).length<=Q.length:=qj h.s.nd λa ha=>by
   obtain⟨e,he,rfl⟩:=IS.1 ha;refine U1 λd=>?_
   have A:=r.s _ d;rw[<-hx]at A;have q:lk (cn x).s e.1=e.2:=fo h.s.nd he;exact h.s.nz e he (q.symm.trans A)
  rw[AS]at h2;omega
 have h2:((cn x).p.map (·.1)).length<=(sqL Q).length:=qj h.p.nd λa ha=>by
  obtain⟨e,he,rfl⟩:=IS.1 ha;have q:lk (cn x).p e.1=e.2:=fo h.p.nd he;have H:(cn x).sem.p e.1.1 e.1.2=e.2:=by
   rw[<-q];show lk (cn x).p (fl e.1.1 e.1.2)=_;rw[eZ (h.po e he)]
  have B:x.p e.1.1 e.1.2≠0:=by rw[<-hx,H];exact h.p.nz e he
  have D:e.1.1∈Q/\e.1.2∈Q:=by
   refine⟨U1 λd=>B (r.p _ _ (.inl d)),U1 λd=>B (r.p _ _ (.inr d))⟩
  exact Qs D.1 D.2
 rw[AS,PA]at h2;exact AI h2 (AI (Va E E) XZ)
theorem oH{Q:List Par}{g:Gv}(h:GvOk Q g)(r:Q.length<=1000)(j:g.w<=40000)(d:g.k<=8):MF1 (cn g.m):=by
 have t:9*g.k*g.k*g.w<=9*8*8*40000:=Va (Va (US 9 d) d) j;have u:3*g.k*g.w<=3*8*40000:=Va (US 3 d) j;exact RR h.s h.q r XX XX XX
end Vw
end
section
namespace Vw
open Mm Jn Mk
set_option autoImplicit false
section
variable {S:Sch}{P:List Int}{T:List (List Rw)}{lf:Int->ByteArray->Gv}
theorem yj(j:UpOk P):∀(k:Nat)(v:Nat),v<P.length->∀r∈qg S P k v,∃u∈dL P v,r∈hoL S P u
 |0,v,hv,r,hr=>⟨v,dC.2 ⟨⟨v,hv,O⟩,.inl O⟩,hr⟩
 | k+1,v,hv,r,hr=>by
   rw[qg]at hr;rcases UN.1 hr with hr|hr
   .exact⟨v,dC.2 ⟨⟨v,hv,O⟩,.inl O⟩,hr⟩
   obtain⟨c,hc,hr⟩:=UU.1 hr;obtain⟨m,hm,rfl,hp⟩:=bg.1 hc;obtain⟨u,hu,h⟩:=yj j k m hm r hr;refine⟨u,?_,h⟩;obtain⟨⟨a,ha,rfl⟩,h2⟩:=dC.1 hu;have e:=dF j hm hv hp;have d:(v:Int)∈cm P m:=by rw[e];simp
   refine dC.2 ⟨⟨a,ha,O⟩,.inr ?_⟩;rcases h2 with h2|h2
   .rw[h2];exact d
   exact pA j ha d h2
theorem OD(j:UpOk P){v u:Nat}(r:v<P.length)(q:u<P.length)(h:(u:Int)=(v:Int)\/(v:Int)∈cm P u):(u:Int)∈(cM P P.length v).vs:=by
 rw[tree_vs];rcases h with h|h
 .rw[h];simp
 refine U0 _ (List.count_pos_iff.1 ?_);have d:∀a (ha:a<P.length),P[a]=(v:Int)->P.length+1<=(cm P a).length+P.length:=λa ha e=>by grind[dF,getD_at,IN]
 rw[j9 j P.length (v:Int) d u q,AT (Ws _ h)];decide
end
end Vw
end
section
namespace Vw
open Mm Jn Mk
set_option autoImplicit false
def scM(k:Nat)(x:Mm.Sem):Mm.Sem:=⟨(k:Rat)*x.c,λp=>(k:Rat)*x.s p,λp q=>(k:Rat)*x.p p q⟩
def scG(k:Nat)(g:Gv):Gv:=⟨scM k g.m,g.n,k*g.w,g.k⟩
def scE(k:Nat)(e:En):En:=⟨e.t,e.v,scG k e.g⟩
def scP(k:Nat)(p:Prt):Prt:=⟨p.a,p.is.map λi=>⟨i.v,scG k i.g⟩⟩
theorem Rx(x:Mm.Sem):scM 1 x=x:=by simp_all[scM,Rat.one_mul]
theorem uY(g:Gv):scG 1 g=g:=by
 obtain⟨m,n,w,k⟩:=g;simp only[scG,Rx,XK]
theorem QH(j k:Nat)(x y:Mm.Sem):Mm.Sem.mul (scM j x) (scM k y)=scM (j*k) (Mm.Sem.mul x y):=
 Mm.Sem.same (by simp only[scM,Mm.Sem.mul,Rat.natCast_mul];grind) (λ_=>by simp only[scM,Mm.Sem.mul,Rat.natCast_mul];grind) (λ_ _=>by simp only[scM,Mm.Sem.mul,Rat.natCast_mul];grind)
theorem OM(k:Nat)(x y:Mm.Sem):Mm.Sem.add (scM k x) (scM k y)=scM k (Mm.Sem.add x y):=
 Mm.Sem.same (by simp only[scM,Mm.Sem.add];grind) (λ_=>by simp only[scM,Mm.Sem.add];grind) (λ_ _=>by simp only[scM,Mm.Sem.add];grind)
theorem zW(j k:Nat)(a b:Gv):(scG j a).mul (scG k b)=scG (j*k) (a.mul b):=by
 simp only[scG,Gv.mul,QH]
 congr 1
 rw[Nat.mul_mul_mul_comm]
theorem PN(k:Nat)(a b:Gv):(scG k a).add (scG k b)=scG k (a.add b):=by
 simp only[scG,Gv.add,OM,Wd]
theorem Mn(k:Nat)(a b:Gv):(scG k a).mul b=scG k (a.mul b):=by
 have:=zW k 1 a b;rwa [uY,Uv]at this
theorem Bg{k:Nat}(z:k≠0)(x:Mm.Sem):scM k x=Mm.Sem.zero↔x=Mm.Sem.zero:=by
 have j:(k:Rat)≠0:=by
  intro h;exact z (by exact_mod_cast h)
 have d:∀a:Rat,(k:Rat)*a=0->a=0:=λa h=>(Rat.mul_eq_zero.1 h).resolve_left j
 constructor
 .intro h;have r:=ah Mm.Sem.c h;have t:=ah Mm.Sem.s h;have u:=ah Mm.Sem.p h;exact Mm.Sem.same (d _ r) (λp=>d _ (congrFun t p)) (λp q=>d _ (congrFun (congrFun u p) q))
 .intro h;subst h;exact Mm.Sem.same (by simp[scM,Mm.Sem.zero,WW]) (λ_=>by simp[scM,Mm.Sem.zero,WW]) (λ_ _=>by simp[scM,Mm.Sem.zero,WW])
theorem Bj{α β:Type}{f g:α->List β}:∀{l:List α},(∀a∈l,f a=g a)->l.flatMap f=l.flatMap g
 |[],_=>rfl
 |a::l,h=>by rw[UJ,UJ,h a X2,Bj λb hb=>h b (by simp[hb])]
theorem xp:∀{L:List (Nat×Prt)}{x:Ch}{g:Gv}{k:Nat},leaves (L.map λq=>scP q.1 q.2) x (scG k g)=(leaves (L.map (·.2)) x g).map λl=>(l.1,scG (k*cD (L.map (·.1))) l.2)
 |[],x,g,k=>by simp[leaves,cD]
 | q::L,x,g,k=>by
   simp only[cd];rw[leaves,leaves,Wv,cD];show(q.2.is.map λi=>(⟨i.v,scG q.1 i.g⟩:Itm)).flatMap _=_;rw[Wh];refine Bj λi _=>?_
   show(if ER x q.2.a i.v=VA then leaves (L.map λq=>scP q.1 q.2) (yz x q.2.a i.v) ((scG k g).mul (scG q.1 i.g))else [])=List.map _ (if ER x q.2.a i.v=VA then leaves (L.map (·.2)) (yz x q.2.a i.v) (g.mul i.g)else []);split
   .rw[zW,xp,Vm]
   .rfl
theorem PT(k:Nat)(E:List En)(t:ByteArray):sO (E.map (scE k)) t=sO E t:=by
 unfold sO;rw[List.findIdx?_map];rfl
theorem OK(k:Nat)(E:List En)(v:List ByteArray)(g:Gv):sw (E.map (scE k)) v (scG k g)=(sw E v g).map (scE k):=by
 unfold sw;rw[PT];cases h:sO E (jnt v)with
 |none=>simp[scE]
 | some i=>
   obtain⟨hi,_,_⟩:=fe h;simp only[U9,Ur,Wc,BY hi,V5,Ww];simp only[scE,PN]
theorem CG{lf:ByteArray->Gv}{v:Int}{K:List Int}{k:Nat}(r:k≠0):∀(ls:List (Ch×Gv))(E:List En),foldE lf v K (E.map (scE k)) (ls.map λl=>(l.1,scG k l.2))=(foldE lf v K E ls).map (scE k)
 |[],E=>rfl
 | l::ls,E=>by
   have e:stepE lf v K (E.map (scE k)) (l.1,scG k l.2)=(stepE lf v K E l).map (scE k):=by
    unfold stepE;have d:=Mn k l.2 (lf (l.1.v.getD v.toNat ⟨#[]⟩));have j:=Bg r (l.2.mul (lf (l.1.v.getD v.toNat ⟨#[]⟩))).m;by_cases h:(l.2.mul (lf (l.1.v.getD v.toNat ⟨#[]⟩))).m=Mm.Sem.zero
    .rw[AT h];exact AT (by show((scG k l.2).mul _).m=_;rw[d];exact j.2 h)
    rw[pF h,<-OK,<-d];exact pF λq=>h (j.1 (by rw[d]at q;exact q))
   show foldE lf v K (stepE lf v K (E.map (scE k)) (l.1,scG k l.2)) (ls.map _)=_;rw[e,CG r ls];rfl
theorem LB{lf:ByteArray->Gv}{n:Nat}{v:Int}{K:List Int}{L:List (Nat×Prt)}(d:cD (L.map (·.1))≠0):viewE lf n v K (L.map λq=>scP q.1 q.2)=(viewE lf n v K (L.map (·.2))).map (scE (cD (L.map (·.1)))):=by
 unfold viewE;have h:=xp (L:=L) (x:=ch0 n) (g:=Gv.whole 1) (k:=1);rw[uY,XK]at h;rw[h];exact CG d _ []
theorem Rf(k:Nat)(E:List En):EW (E.map (scE k))=(EW E).map (scE k):=by
 unfold EW;exact(List.map_mergeSort (f:=scE k) (l:=E) (r:=λa b=>decide (a.t.data.toList<=b.t.data.toList)) (s:=λa b=>decide (a.t.data.toList<=b.t.data.toList)) λa _ b _=>rfl).symm
theorem G8(k:Nat)(K:List Int)(E:List En):cK K (E.map (scE k))=scP k (cK K E):=by
 unfold cK scP;rw[Rf];simp[scE]
def scT(T:List (List Rw))(r m:Nat):List (List Rw):=T.set r ((T.getD r []).map λx=>⟨x.v,x.w*(m:Int)⟩)
theorem Jw{T:List (List Rw)}{r m:Nat}(d:r<T.length)(q:Nat):gT (scT T r m) (q:Int)=if q=r then(gT T (r:Int)).map λx=>⟨x.v,x.w*(m:Int)⟩else gT T (q:Int):=by
 unfold gT scT;simp only[Ux,Ur,WX];by_cases h:q=r
 .subst h;simp[d]
 rw[pF h,pF λe=>h e.symm]
theorem Ie{A:List Int}{l:List Rw}{m:Nat}(d:∀x∈l,0<=x.w):dd A (l.map λx=>⟨x.v,x.w*(m:Int)⟩)=scP m (dd A l):=by
 unfold dd scP;simp only[Vb]
 congr 1
 refine UT λx hx=>?_
 obtain⟨w,hw⟩:=tI (d x hx);have e:(x.w*(m:Int)).toNat=m*w:=by rw[hw,<-VN,Ux,U8]
 show(⟨x.v,Gv.whole (x.w*(m:Int)).toNat⟩:Itm)=⟨x.v,scG m (Gv.whole x.w.toNat)⟩;rw[e,hw,Ux]
 congr 1
 unfold Gv.whole scG
 congr 1
 unfold cnt scM;refine Mm.Sem.same ?_ (λ_=>by simp[WW]) (λ_ _=>by simp[WW]);simp only;rw[show(((m*w:Nat):Int):Rat)=((m:Int):Rat)*((w:Int):Rat) by rw[VN,Wp]];rfl
section
variable {S:Sch}{P:List Int}{T:List (List Rw)}{lf:Int->ByteArray->Gv}
def rv(S:Sch)(P:List Int)(r m:Nat)(v:Int):Nat:=if(r:Int)∈qg S P P.length v then m else 1
theorem pE{α:Type}{f:α->Nat}{l:List α}(h:∀a∈l,f a=1):cD (l.map f)=1:=by
 induction l with
 |nil=>rfl
 |cons a l ih=>rw[cd,cD,h a X2,ih λb hb=>h b (by simp[hb])]
theorem mI{α:Type}[DecidableEq α]{f:α->Nat}{m:Nat}:∀{l:List α},l.Nodup->∀{a:α},a∈l->f a=m->(∀b∈l,b≠a->f b=1)->cD (l.map f)=m
 |[],_,a,ha,_,_=>absurd ha X2
 | x::l,hn,a,ha,hf,h1=>by
   obtain⟨g1,g2⟩:=Wm.1 hn;rw[cd,cD];by_cases e:x=a
   .subst e;rw[hf,pE λb hb=>h1 b (by simp[hb]) λd=>g1 (d▸hb),Uv]
   rw[h1 x X2 e,XK];exact mI g2 ((By.1 ha).resolve_left λd=>e d.symm) hf λb hb=>h1 b (by simp[hb])
theorem C7(v:Int):(hoL S P v).Nodup:=by grind[hoL,nE,Int.ofNat.inj,VR,List.nodup_range]
theorem I7(d:UpOk P){v:Nat}(j:v<P.length):(qg S P P.length v).Nodup:=by
 rw[gI];unfold List.Nodup;rw[List.pairwise_flatMap];refine⟨λv _=>C7 v,(nK d j).1.imp λhne r hr q hq e=>?_⟩;obtain⟨k,hk,e1,e2⟩:=lE.1 hr;obtain⟨k',hk',e3,e4⟩:=lE.1 hq;have:k=k':=XX;subst this;exact hne (e2.symm.trans e4)
theorem HL(d:UpOk P){v:Nat}(j:v<P.length):qg S P P.length v=hoL S P v++(aC P v).flatMap (qg S P P.length):=by
 rw[gI,O8 d j,Tr.vs,eT,UJ,Wh,List.flatMap_assoc];rw[show qg S P P.length=λc=>(cM P P.length c).vs.flatMap (hoL S P)from funext (gI _)]
theorem qG{α β:Type}{f:α->List β}:∀{l:List α},(l.flatMap f).Nodup->∀{a b:α}{x:β},a∈l->b∈l->x∈f a->x∈f b->a=b
 |[],_,_,_,_,h,_,_,_=>absurd h X2
 | c::l,hn,a,b,x,ha,hb,hxa,hxb=>by
   rw[UJ,Wi]at hn;obtain⟨_,g2,g3⟩:=hn;rcases By.1 ha with e1|h1<;>rcases By.1 hb with e2|h2
   .rw[e1,e2]
   .grind
   .grind
   exact qG g2 h1 h2 hxa hxb
theorem KZ(s:UpOk P){r m v:Nat}(t:v<P.length):cD ((hoL S P v).map λq=>if q=(r:Int)then m else 1)*cD ((aC P v).map (rv S P r m))=rv S P r m v:=by
 have d:=I7 (S:=S) s t;have j:=HL (S:=S) s t;rw[j,Wi]at d;obtain⟨n1,n2,n3⟩:=d;unfold rv;rw[j];by_cases h1:(r:Int)∈hoL S P v
 .rw[mI n1 h1 (AT O) λb _ hb=>pF hb,pE λc hc=>pF λh=>n3 _ h1 _ (UU.2 ⟨c,hc,h⟩) O,Uv,AT (Ws _ h1)]
 rw[pE λq hq=>pF (λe:q=(r:Int)=>h1 (e▸hq)),XK];by_cases h2:(r:Int)∈(aC P v).flatMap (qg S P P.length)
 .obtain⟨c,hc,hr⟩:=UU.1 h2;rw[AT (Xw _ h2)];exact mI (qZ P v) hc (AT hr) λb hb hne=>pF λh=>hne (qG n2 hb hc h hr)
 rw[pE λc hc=>pF λh=>h2 (UU.2 ⟨c,hc,h⟩),pF λh=>(UN.1 h).elim h1 h2]
theorem NA{r m:Nat}(d:m≠0)(v:Int):rv S P r m v≠0:=by
 unfold rv;split
 .exact d
 decide
theorem O4(s:UpOk P){r m:Nat}(A:r<T.length)(D:∀x∈gT T (r:Int),0<=x.w)(B:m≠0):∀(k v:Nat),v<P.length->P.length<=k+1+(cm P v).length->vwS S P (scT T r m) lf v=(vwS S P T lf v).map (scE (rv S P r m v)):=by
 have d:∀v:Nat,v<P.length->(∀c∈aC P v,vwS S P (scT T r m) lf c=(vwS S P T lf c).map (scE (rv S P r m c)))->vwS S P (scT T r m) lf v=(vwS S P T lf v).map (scE (rv S P r m v)):=λv hv hc=>by
  rw[oN s hv,oN s hv];unfold mkV;have t:eE S P (scT T r m) (vwS S P (scT T r m) lf) v=(((hoL S P v).map λq=>((if q=(r:Int)then m else 1:Nat),dd (oU S q) (gT T q)))++(aC P v).map λc=>(rv S P r m c,cK (gh S P c) (vwS S P T lf c))).map λq=>scP q.1 q.2:=by
   unfold eE;rw[UO,Vb,Vb]
   congr 1
   .refine UT λq u=>?_
    obtain⟨j,hj,rfl,_⟩:=lE.1 u;show dd _ (gT (scT T r m) (j:Int))=scP (if(j:Int)=(r:Int)then m else 1) (dd _ (gT T (j:Int)));rw[Jw A];by_cases e:j=r
    .grind[Ie]
    rw[pF e,pF XX];have:∀p:Prt,p=scP 1 p:=λp=>by
     obtain⟨a,is⟩:=p;simp only[scP,uY]
     congr 1
     exact(XB _).symm
    exact this _
   grind[UT,cK,vwS,scT,G8]
  have u:eE S P T (vwS S P T lf) v=(((hoL S P v).map λq=>((if q=(r:Int)then m else 1:Nat),dd (oU S q) (gT T q)))++(aC P v).map λc=>(rv S P r m c,cK (gh S P c) (vwS S P T lf c))).map (·.2):=by
   unfold eE;rw[UO,Vb,Vb];rfl
  have z:cD ((((hoL S P v).map λq=>((if q=(r:Int)then m else 1:Nat),dd (oU S q) (gT T q)))++(aC P v).map λc=>(rv S P r m c,cK (gh S P c) (vwS S P T lf c))).map (·.1))=rv S P r m v:=by
   rw[UO,dS,Vb,Vb];exact KZ s hv
  rw[t,u,LB (by rw[z];exact NA B _),z]
 intro k;induction k with
 | zero=>
   intro v hv h;exact d v hv λc hc=>by rw[mv s hv XX]at hc;simp at hc
 | succ k ih=>
   intro v hv h;refine d v hv λc hc=>?_
   obtain⟨j,hj,rfl,t⟩:=bg.1 hc;have e:=dF s hj hv t;exact ih j hj (by rw[e,IN];omega)
end
end Vw
end
section
open Go.RowKit Mk Jn Mm Vw
theorem Lf{α:Type}[Inhabited α](enc:α->Value)(w:World)(b n:Nat)(d:Array α)(os:Array Obj)(s:b<w.heap.size):SrtW (λx=>[enc x]) b w (Go.Sort.grow (Go.Sort.putRow enc (Go.Sort.ahead w n) b 0 d) os) d.toList:=by
 have r:(Go.Sort.grow (Go.Sort.putRow enc (Go.Sort.ahead w n) b 0 d) os).heap=(w.heap.modify b (Go.Sort.onCells (Go.Sort.putCells enc 0 d)))++os:=rfl;have q:(d.toList.flatMap λx=>[enc x])=d.toList.map enc:=by rw[XE]
 refine⟨O,O,O,?_,λj hj hne=>?_,λarr ty fz h hle=>?_⟩
 .rw[r];simp
 .grind
 refine⟨Go.Sort.putCells enc 0 d arr,?_,by simp[Go.Sort.putCells],?_⟩
 .rw[r,Array.getElem?_append_left (by simpa using s),Xu,AT O,h];rfl
 rw[q]at hle ⊢;apply Vq
 .simp[Go.Sort.putCells]at hle ⊢; omega
 .intro i h1 h2;simp only[AS,UR]at h2 hle;simp only[List.getElem_take,Array.getElem_toList,Go.Sort.putCells,Array.getElem_mapIdx,VC];rw[AT ⟨aJ _,XX⟩,Nat.sub_zero,getElem!_pos d i h2]
theorem zx(l:List ByteArray):yy l=ct l:=(XE ..).symm
theorem Nv{a b:ByteArray}:leS a b↔a.data.toList<=b.data.toList:=by
 unfold leS ltS;exact List.not_lt
theorem Hx{enc:List UInt8->Value}{w:World}{b:Nat}{arr:Array Value}{ty:TypeId}{ds:List (List UInt8)}(r:w.heap[b]? =UF (.cells arr ty (0,0)))(h:arr.toList.take (ds.flatMap λx=>[enc x]).length=ds.flatMap λx=>[enc x]):Go.Sort.Holds enc w b 0 ds.toArray:=by
 have d:(ds.flatMap λx=>[enc x])=ds.map enc:=by rw[XE]
 rw[d]at h;intro j hj;rw[UL]at hj;have q:(arr.toList.take (ds.map enc).length)[j]? =(ds.map enc)[j]? :=by rw[h]
 rw[Uw,AT (by simpa using hj),Xv,Wc,BY hj]at q;constructor
 .simp only[World.cell?,r,UQ];rw[q,getElem!_pos ds.toArray j (by simpa using hj)];simp
 simp[World.frozen?,r]
theorem xF(l:List ByteArray)(z:l.length<=1000000):FnO prog 254 1 0 [.gsl big 1 l.length] [(big,.gro 9 (yy l))] (λv ob'=>v= .tup []/\ob'=aA [(big,.gro 9 (yy (rX l)))]):=by
 intro w m R us hR hrel;simp only[RelL,Rel]at hrel;obtain⟨u1,us1,rfl,⟨_,A,c,rfl,hnc,hcm,h0,h1⟩,rfl⟩:=hrel;refine(lO (α:=List UInt8) (λx=>[Go.Proofs.encStr x]) (λ_=>rfl) RV (λ_=>rfl) XZ (λx=>⟨x.toArray⟩) (λd=>d.Pairwise λa b=>a<=b) List.Pairwise.nil hR (λh=>(h0 h).1) h1 (λus h=>?_) (λw' _ d=>?_)
  (Tryz.slices_Sort_string_none UG c w) ?_).mono ?_
 .refine⟨l.map (·.data.toList),by rw[Vb];exact(UT λx _=>rfl).trans (XB l),?_⟩;have q:RelPL w R.p (ct l) us:=by
   rw[<-zx];exact h
  rw[pX q,Wh,XE]
 .have e:((d.map λx=>(⟨x.toArray⟩:ByteArray)).flatMap RV)=ct (d.map λx=>(⟨x.toArray⟩:ByteArray)):=zx _;have t:(d.flatMap λx=>[Go.Proofs.encStr x])=(d.map λx=>(⟨x.toArray⟩:ByteArray)).map Value.string:=by rw[Vb,XE];rfl
  rw[e,t];exact Lc _
 .intro b d arr hds hpos hb ht hbs hbR;have s:d.length=l.length:=by rw[<-hds,AS]
  have j:=Tryz.slices_Sort_string b 0 c d w (Hx hb ht) hbs XX;rw[s]at j;refine Calls.mono j ?_;rintro e w' ⟨rfl,n,os,rfl⟩;refine⟨O,d.mergeSort λx y=>decide (x<=y),XF _ _,?_,Lf Go.Proofs.encStr w b n _ os hbs⟩;have:=Xj (le:=λa b:List UInt8=>decide (a<=b)) (by intro a b c h1 q;simp only[OC]at *; exact List.le_trans h1 q) (by intro a b;simp only[UW,OC];exact List.le_total a b) d;exact this.imp X2
 rintro e w' ⟨u,v,ob',m',R',rfl,⟨l',ds',hp,rfl,hs,rfl,rfl⟩,r⟩;refine⟨u,_,_,m',R',O,⟨O,?_⟩,r⟩;have e:ds'.map (λx=>(⟨x.toArray⟩:ByteArray))=rX l:=by
  refine vn hp ?_;rw[VW];exact hs.imp fun{a b} h=>Nv.2 (by simpa using h)
 rw[e];rfl
theorem Ac(ks vs:List PV):FnP prog 204 [.mp ks vs] (· = .fn (.func 255) [] [.rp [.mp ks vs] 0]):=by
 refine FnP.of func204 O ntmps204 X2 λ_ _ _ _=>?_
 exact Z2 O<|TN (St.jC 0 O O)<|Z2 O<|Gt O<|⟨_,_,O,O,O⟩
theorem wN(xs:List ByteArray)(vs:List PV)(t:xs.length<=1000000):
  FnP prog 203 [.fn (.func 255) [] [.rp [.mp (xs.map PV.str) vs] 0]] (· =bh (rX xs)):=by
 have d:=JA xs vs t;refine FnP.of func203 O ntmps203 X2 λ_ _ _ _=>?_
 refine Z1 O<|Z1 O<|RL.call O (cj [] 0 call253 O O O O (by exact trivial) XZ O d ?_);rintro _ _ ⟨ss,hS,rfl,rfl⟩;refine A1 O ?_;have q:ss.length<=1000000:=by rw[hS.length_eq];exact t
 have r:=xF ss q;refine Z1 O<|RL.call O (cj [0] 1 call254 O O O O (by exact⟨XY,X5⟩) XZ O r ?_);rintro _ _ ⟨rfl,rfl⟩;have j:rX ss=rX xs:=vn ((nD ss).trans hS) (oT ss);have s:ss.length=(rX xs).length:=by rw[<-j,(nD ss).length_eq]
 rw[j,s];exact Z2 O<|Gt O<|⟨_,_,O,O,by show PV.sl UG _ (yy _)=_;rw[zx]⟩
end
section
open Go.RowKit Mk Jn Mm Vw
abbrev cu(E:List En):List PV:=E.map λe=>PV.str e.t
abbrev kY(E:List En):List PV:=E.map λe=>bh e.v
noncomputable abbrev gvsV(E:List En):List PV:=E.map λe=>momP e.g.m
theorem J2(s t:ByteArray):keq (.str s) (.str t)=UF (decide (t=s)):=by
 show UF (s==t)=_;rw[ig]
 congr 1
 rw[UH,OC,VK];exact⟨λh=>(bytes_inj h).symm,λh=>by rw[h]⟩
theorem tK(t:ByteArray):∀(E:List En)(i:Nat),cG (.str t) (cu E) i=UF ((sO E t).map (i+ ·))
 |[],i=>rfl
 | e::E,i=>by
   show(match keq (.str t) (.str e.t)with|some VA=>UF (UF i)|some WA=>cG (.str t) (cu E) (i+1)|none=>UG)=_;rw[J2,sO,List.findIdx?_cons];cases h:decide (e.t=t)with
   |true=>simp
   | false=>
     simp only[Vv,XR];rw[tK t E (i+1),sO];cases E.findIdx? λe=>decide (e.t=t)with
     |none=>rfl
     |some j=>simp;omega
theorem Aq{E:List En}{t:ByteArray}{i:Nat}(h:sO E t=UF i):cG (.str t) (cu E) 0=UF (UF i):=by rw[tK,h];simp
theorem zZ{E:List En}{t:ByteArray}(h:sO E t=UG):cG (.str t) (cu E) 0=UF UG:=by rw[tK,h];rfl
theorem xj{E:List En}{t:ByteArray}{i:Nat}(h:sO E t=UF i)(d:i<E.length)(f:En->PV):jf (.str t) (cu E) (E.map f)=UF (UF (f E[i])):=by
 unfold jf;rw[Aq h];simp[d]
theorem F4{E:List En}{t:ByteArray}(h:sO E t=UG)(f:En->PV):jf (.str t) (cu E) (E.map f)=UF UG:=by
 unfold jf;rw[zZ h]
theorem uN{E:List En}(r:EnOk E){e:En}(d:e∈E)(f:En->PV):jf (.str e.t) (cu E) (E.map f)=UF (UF (f e)):=by
 cases h:sO E e.t with
 |none=>exact absurd O (mz h e d)
 | some i=>
   obtain⟨hi,h1,_⟩:=Vw.fe h;rw[xj h hi];obtain⟨j,hj,rfl⟩:=Vz d;have:i=j:=by
    have q:(E.map (·.t))[i]'(by simpa using hi)=(E.map (·.t))[j]'(by simpa using hj):=by simpa using h1
    exact(List.getElem_inj r.nd).1 q
   subst this;rfl
theorem NQ{E:List En}(d:EnOk E):Ai (cu E):=by
 unfold Ai;rw[VW];have:=d.nd;rw[List.Nodup,VW]at this;exact this.imp fun{a b} h=>by rw[J2,Up λe=>h e.symm]
theorem AQ{E:List En}{t:ByteArray}{i:Nat}(h:sO E t=UF i)(d:i<E.length)(x:En)(j:x.t=t)(f:En->PV):mS (.str t) (cu E)=cu (E.set i x)/\T8 (.str t) (f x) (cu E) (E.map f)=(E.set i x).map f:=by grind[mS,T8,Aq,U9]
theorem BH{E:List En}{t:ByteArray}(h:sO E t=UG)(x:En)(d:x.t=t)(f:En->PV):mS (.str t) (cu E)=cu (E++[x])/\T8 (.str t) (f x) (cu E) (E.map f)=(E++[x]).map f:=by grind[mS,T8,zZ]
theorem Ih{Q:List Par}(E:List En)(v:List ByteArray)(g:Gv)(A:∀e∈E,GvOk Q e.g/\e.g.w<=10^50/\e.g.k<=50)(B:GvOk Q g)(G:g.w<=10^50)(H:g.k<=50)(J:v.length<=1000000)(I:(Lib.join (v.map (·.data.toList)) [0]).length<=140737488355328):
  FnO prog 77 2 0 [.agg [.map big,.map 9001],.pv (bh v),.pv (momP g.m)] [(big,.mp (cu E) (kY E)),(9001,.mp (cu E) (gvsV E))] (λr ob'=>r= .tup []/\ob'=aA [(big,.mp (cu (sw E v g)) (kY (sw E v g))),(9001,.mp (cu (sw E v g)) (gvsV (sw E v g)))]):=by
 refine FnO.of func77 O ntmps77 X2 λ_ _ _ _=>?_
 have z:FnP prog 137 [bh v,.str ⟨#[0]⟩] (· = .str (jnt v)):=PB v ⟨#[0]⟩ XX I;rcases fy E v g with⟨i,hi,hf,he,ht⟩|⟨hf,he,hn⟩
 .have hlk:=xj hf hi λe=>momP e.g.m
  obtain⟨hpk,hpv⟩:=AQ hf hi ⟨jnt v,v,g.add E[i].g⟩ O λe=>bh e.v
  have q:=(AQ hf hi ⟨jnt v,v,g.add E[i].g⟩ O λe=>momP e.g.m).2;have t:=Aq hf;obtain⟨o1,o2,o3⟩:=A _ (ak hi);have u:=QN (B.s.up (tJ _) (Nat.le_max_left _ _)) (o1.s.up (tJ _) (Nat.le_max_right g.k _)) G o2 (Nat.max_le.2 ⟨H,o3⟩);rw[he];simp only at q hpv;change T8 _ (momP (Mm.Sem.add g.m E[i].g.m)) _ _=_ at q
  generalize E.set i ⟨jnt v,v,g.add E[i].g⟩=E' at*;generalize hD:E[i]=D at*;refine Z2 O<|Z1 O<|Rs O (aa call137 z O)<|A1 O<|Z3 O<|Rs O (vV (zp:=.agg [.bool WA,.sl (UF VA) 0 [],.bool WA,.sl (UF VA) 0 [],.nilmap,.nilmap]) underlying93 underlying9 (.inl ⟨9001,O,O⟩) O O tY O hlk O O)<|Ar 6 O<|Z1 O<|Gc O (λj=>?_) (λj=>absurd j X2);refine Z2 O<|Rs O (aa call138 u O)<|A1 O<|UB 10 O<|Dr 8 O<|DL.step (d:=UG) [_] O O O (λτ h=>gC underlying92 underlying9 (Ee h 0 O O) (Eo h 0 O O) (Ee h 1 O O) (Ee h 2 O O) O t hpk hpv) O XY<|DL.step (d:=UG) [_] O O O (λτ h=>gC underlying93 underlying9 (Ee h 0 O O) (Eo h 0 O O) (Ee h 1 O O) (Ee h 2 O O) O t hpk q) O XY ?_;refine⟨XY,?_⟩;exact⟨[],[(big,.mp (cu E') (kY E')),(9001,.mp (cu E') (gvsV E'))],[],TO trivial (aO XY) O O,O,O,O,O,O⟩
 have hlk:=F4 hf λe=>momP e.g.m
 obtain⟨hpk,hpv⟩:=BH hf ⟨jnt v,v,g⟩ O λe=>bh e.v
 have q:=(BH hf ⟨jnt v,v,g⟩ O λe=>momP e.g.m).2;have t:=zZ hf;rw[he];simp only at q hpv;generalize E++[⟨jnt v,v,g⟩]=E' at*;refine Z2 O<|Z1 O<|Rs O (aa call137 z O)<|A1 O<|Z3 O<|Rs O (vV (zp:=.agg [.bool WA,.sl (UF VA) 0 [],.bool WA,.sl (UF VA) 0 [],.nilmap,.nilmap]) underlying93 underlying9 (.inl ⟨9001,O,O⟩) O O tY O hlk O O)<|Ar 6 O<|Z1 O<|Gc O (λj=>absurd j X2) (λj=>?_);refine TM<|UB 10 O<|Dr 8 O<|DL.step (d:=UG) [_] O O O (λτ h=>gC underlying92 underlying9 (Ee h 0 O O) (Eo h 0 O O) (Ee h 1 O O) (Ee h 2 O O) O t hpk hpv) O XY<|DL.step (d:=UG) [_] O O O (λτ h=>gC underlying93 underlying9 (Ee h 0 O O) (Eo h 0 O O) (Ee h 1 O O) (Ee h 2 O O) O t hpk q) O XY ?_;refine⟨XY,?_⟩;exact⟨[],[(big,.mp (cu E') (kY E')),(9001,.mp (cu E') (gvsV E'))],[],TO trivial (aO XY) O O,O,O,O,O,O⟩
noncomputable abbrev itC(i:Itm):List PV:=bh i.v::mcC (cn i.g.m)
noncomputable def itsC(l:List Itm):List PV:=l.flatMap itC
noncomputable abbrev ptC(p:Prt):List PV:=[aq p.a,.sl UG p.is.length (itsC p.is)]
noncomputable abbrev ptP(p:Prt):PV:=.agg (ptC p)
noncomputable def ptsC(l:List Prt):List PV:=l.flatMap ptC
theorem tP(l:List Itm):(itsC l).length=l.length*7:=bL _ 7 (λ_=>rfl) l
theorem uO(l:List Prt):(ptsC l).length=l.length*2:=bL _ 2 (λ_=>rfl) l
theorem LW{l:List Itm}{k:Nat}(h:k<l.length):((itsC l).drop (k*7)).take 7=itC l[k]:=cZ _ 7 (λ_=>rfl) l k h
theorem CT{l:List Prt}{k:Nat}(h:k<l.length):((ptsC l).drop (k*2)).take 2=ptC l[k]:=cZ _ 2 (λ_=>rfl) l k h
theorem xB{l:List Itm}{i:Nat}(h:i<l.length):itsC (l.take i)++itC l[i]=itsC (l.take (i+1)):=by
 rw[sh h];simp only[itsC,U6,UJ,W9,Vg]
theorem QE{l:List Itm}{k:Nat}(h:k<l.length):itsC l≠[]:=λe=>by have:=tP l;rw[e]at this;simp at this;omega
theorem OO{l:List Prt}{k:Nat}(h:k<l.length):ptsC l≠[]:=λe=>by have:=uO l;rw[e]at this;simp at this;omega
noncomputable abbrev vwP(E:List En):PV:=.agg [.mp (cu E) (kY E),.mp (cu E) (gvsV E)]
theorem G4(E:List En):rX (E.map (·.t))=(EW E).map (·.t):=by
 refine(vn ((eW E).map _) ?_).symm;rw[VW];have:=Xj (le:=λa b:En=>decide (a.t.data.toList<=b.t.data.toList)) (by intro a b c h1 h2;simp only[OC]at *; exact List.le_trans h1 h2) (by intro a b;simp only[UW,OC];exact List.le_total _ _) E;exact this.imp fun{a b} h=>Nv.2 (by simpa using h)
theorem Dj(E:List En)(K:List Int)(M:EnOk E)(hn:E.length<=1000000):FnP prog 132 [vwP E,aq K] (· =ptP (cK K E)):=by
 refine FnP.ofC func132 O ntmps132 X2 λ_ _ _ _=>?_
 have u:=Ac (cu E) (kY E);have d:=wN (E.map (·.t)) (kY E) (by simpa using hn);rw[show(E.map (·.t)).map PV.str=cu E by simp,G4]at d;have U:=NQ M;obtain⟨L,hL⟩:∃L,L=EW E:=⟨_,O⟩;have V:L.length=E.length:=by rw[hL];exact(eW E).length_eq
 have j:∀e∈L,e∈E:=λe he=>by rw[hL]at he;exact(eW E).mem_iff.1 he
 obtain⟨I,hI⟩:∃I:List Itm,I=L.map λe=>⟨e.v,e.g⟩:=⟨_,O⟩
 have W:I.length=L.length:=by rw[hI];simp
 have X:cK K E=⟨K,I⟩:=by rw[hI,hL];rfl
 obtain⟨ts,hts⟩:∃ts:List ByteArray,ts=L.map (·.t):=⟨_,O⟩;have Y:ts.length=L.length:=by rw[hts];simp
 rw[<-hL,<-hts]at d;refine Z2 O<|Z4 O<|TN (St.cV (T':=178) (cs:=[.pv (aq K),.pv nS]) 2 1 3 7 180 XY O O)<|Z2 O<|Rs O (aa call204 u O)<|Rs O (aa call203 d O)<|Y2 O<|Gz O (st:=λX6:Nat=>([(2,UG),(4,UG),(5,UG),(13,UG),(14,UG),(15,UF (pIi X6))],[(0,UG),(1,UG),(2,UF (.mix 178 [.pv (aq K),.gsl 3 7 X6])),(3,UF (.gro 180 (itsC (I.take X6))))])) 4
  (I:=λX6=>X6<=L.length) (μ:=λX6=>L.length-X6) (x0:=(0)) (TO (aS O) (aO XY) O O) (aJ _) ?_
 rintro i hi;refine Z1 O<|Gp O (λs=>?_) (λs=>?_)
 .have hlt:i<L.length:=XX;have q:i<ts.length:=XX;have z:i<I.length:=XX;have A:ts[i]=L[i].t:=by simp[hts]
  have B:I[i]=⟨L[i].v,L[i].g⟩:=by simp[hI]
  have D:=bP q;have Z:=bO q;rw[A]at D;have G:=uN M (j _ (ak hlt)) λe=>bh e.v
  have H:=uN M (j _ (ak hlt)) λe=>momP e.g.m
  have r:=xB z;rw[B]at r;have ab:(itsC (I.take i)).length=i*7:=by rw[tP,OF,U5 XX]
  generalize L[i]=e at*;refine TM<|Z1 O ?_;first|refine A2 O X0 ?_|refine A1 O ?_
  exact A1 O<|Gr O<|Ar 5 O<|Rs O (oa (zp:=.sl (UF VA) 0 []) underlying92 underlying9 (.inr (.inl ⟨O,U⟩)) O O S2 O G O)<|Y3 O<|Rs O (oa (zp:=.agg [.bool WA,.sl (UF VA) 0 [],.bool WA,.sl (UF VA) 0 [],.nilmap,.nilmap]) underlying93 underlying9 (.inr (.inl ⟨O,U⟩)) O O tY O H O)<|Ar 5 O<|Z2 O<|⟨(i+1),TP [0,1,2,5] (aT O) ⟨XY,XY,XY,UI (b:=UF (.gro 180 (itsC (I.take i)++itC ⟨e.v,e.g⟩))) XY (ah (λc=>UF (Ob.gro 180 c)) r),X5⟩ O O XZ O,hlt,XX⟩
 have hie:I.take i=I:=aG XX;have J:i=I.length:=XX;rw[hie,J];exact Gx O<|TN (TR (o:=.gro 180 (itsC I)) 3 XY O)<|Z2 O<|Gt O<|⟨_,_,O,O,⟨au ⟨_,underlying178,O⟩ Lp O O O,X5⟩,by rw[X];rfl⟩
abbrev TE(l:List Bool):PV:=.sl UG l.length (l.map PV.bool)
abbrev chsC(x:Ch):List PV:=[bh x.v,TE x.s]
abbrev SZ(x:Ch):PV:=.agg (chsC x)
theorem SQ{l:List Bool}{k:Nat}(h:k<l.length):(l.map PV.bool)[k*1]? =UF (.bool l[k]):=by simp[h]
theorem S0{l:List Bool}{k:Nat}(h:k<l.length):l.map PV.bool≠[]:=λe=>by rw[Wz]at e;subst e;simp at h
theorem xt(l:List ByteArray)(j:0<l.length)(q:l.length<=1000000):FnO prog 71 0 1 [.pv (bh l)] [] (λv ob'=>v= .osl 0 1 l.length/\ob'=aA [(0,.cells 9 (ct l))]):=by
 refine FnO.of func71 O ntmps71 X2 λ_ _ _ _=>?_
 refine Z1 O<|Z1 O<|RL.call O (iG underlying39 O ?_);intro b hb;refine Gc O (λd=>absurd d (by have:=Wz.1 (hb d);subst this;simp at j)) (λd=>?_);refine TM<|Gr O<|Rs O (dz 0 De O)<|A1 O<|Rs O (dx 1 De O O O (.inl ⟨UG,O⟩) X2 (λc hc=>by obtain⟨y,_,rfl⟩:=IS.1 hc;rfl) XX O) ?_;exact A1 O<|Gt O<|⟨[(2,.osl 0 1 l.length)],[(0,.cells 9 (ct l))],[.osl 0 1 l.length],TP [1] ⟨UI (b:=V.osl 1 1 (0+l.length)) O (by rw[UQ];rfl),X5⟩ ⟨UI (b:=UF (Ob.cells 9 ([]++ct l))) O (by rw[Vo];rfl),X5⟩ O O XZ O,O,O,O,O,O⟩
end


















section
open Mk Jn
def yr(S:Sch)(d:List (List Rw))(k:Nat):List (List Rw):=(List.zipWith (λr l=>kX S r.2 l) S.rels d).take k
def cw(S:Sch)(d:List (List Rw)):List (List Rw):=List.zipWith (λr l=>kX S r.2 l) S.rels d
theorem C9{S:Sch}{d:List (List Rw)}(j:d.length=S.rels.length){k:Nat}(q:k<S.rels.length):yr S d (k+1)=yr S d k++[kX S S.rels[k].2 (d[k]'XX)]:=by grind[yr,sh]
theorem FD{S:Sch}{d:List (List Rw)}(j:d.length=S.rels.length):yr S d S.rels.length=cw S d:=aG X3
theorem FK{S:Sch}{d:List (List Rw)}(j:d.length=S.rels.length){k:Nat}(q:k<=S.rels.length):(yr S d k).length=k:=by
 unfold yr;simp;omega
end



section
open Mk Jn
theorem n0:NumOk ⟨#[48]⟩:=⟨XZ,XY,⟨XY,by decide+kernel⟩,λh=>absurd h (by decide+kernel)⟩
theorem n1:NumOk ⟨#[49]⟩:=⟨XZ,XY,⟨XY,by decide+kernel⟩,λh=>absurd h (by decide+kernel)⟩
theorem n2:NumOk ⟨#[50]⟩:=⟨XZ,XY,⟨XY,by decide+kernel⟩,λh=>absurd h (by decide+kernel)⟩
theorem n3:NumOk ⟨#[51]⟩:=⟨XZ,XY,⟨XY,by decide+kernel⟩,λh=>absurd h (by decide+kernel)⟩
theorem nm2:NumOk ⟨#[45,50]⟩:=⟨XZ,XY,⟨XY,by decide+kernel⟩,λh=>absurd h (by decide+kernel)⟩
theorem nh:NumOk ⟨#[49,47,50]⟩:=⟨XZ,XY,⟨XY,by decide+kernel⟩,λ_=>⟨XY,by decide+kernel,by decide+kernel⟩⟩
theorem n53:NumOk ⟨#[53,47,51]⟩:=⟨XZ,XY,⟨XY,by decide+kernel⟩,λ_=>⟨XY,by decide+kernel,by decide+kernel⟩⟩
theorem Dt(nm v:ByteArray)(kd:Int)(j:kd=1\/kd=2\/kd=3)(d:v∈jl kd):FnP prog 120 [.agg [.str nm,.int .i64 kd],.str v] (· = .bool VA):=by
 rcases j with rfl|rfl|rfl
 .refine qW nm v ?_;simp only[jl,xQ,By,Vy,Xd]at d;rcases d with rfl|d
  .exact .inl O
  right
  simp at d;rcases d with rfl|rfl|rfl<;>exact⟨XY,by decide+kernel⟩
 .by_cases hne:v=⟨#[]⟩
  .rw[hne];exact DW nm
  refine Ju nm v ?_ hne;simp only[jl,ET,By,Vy,Xd]at d;have d:=d.resolve_left hne;simp at d;rcases d with rfl|rfl|rfl|rfl|rfl|rfl|rfl|rfl
  .exact n0
  .exact n1
  .exact nm2
  .exact nh
  .exact n3
  .exact n53
  .exact n1
  exact n2
 refine HB nm v ?_;simp only[jl,Kb,By,Vy,Xd]at d;rcases d with rfl|d
 .exact .inl O
 right
 simp at d;rcases d with rfl|rfl|rfl<;>exact⟨XY,XZ⟩
theorem sG{w:World}{R:Nat->Prop}:∀{l:List ByteArray}{us:List Value},RelPL w R (ct l) us->us=l.map Value.string
 |[],us,h=>by simpa[RelPL]using h
 | x::l,us,h=>by
   simp only[cd,RelPL,RelP]at h;obtain⟨u,vs,rfl,rfl,h2⟩:=h;rw[sG h2];rfl
theorem BA{w:World}{R:Nat->Prop}(q:∀b,R b->b<w.heap.size){l:List ByteArray}{us:List Value}{ps:List PV}(h:RelPL w R (bh l::ps) us):∃A c vs,us= .slice A l.length c::vs/\Row w R A (PC l)/\RelPL w R ps vs:=by
 simp only[RelPL,RelP]at h;obtain⟨u,vs,rfl,⟨A,c,rfl,_,_,_,_,h5⟩,h6⟩:=h;refine⟨A,c,vs,O,λd=>?_,h6⟩;obtain⟨b,off,us,rfl,h6,h7,h8⟩:=h5 (λe=>d (by rw[Wz]at e ⊢; exact e));have j:us=l.map Value.string:=sG h6;subst j;exact⟨b,off,O,h7,q b h7,h8⟩
theorem Pz(a b:List ByteArray)(j:a.length<=1000000)(q:b.length<=1000000):FnP prog 34 [bh a,bh b] (· = .int .i64 (tA a b)):=by
 intro w R us hG hR hrel;obtain⟨A,c,vs,rfl,r1,h1⟩:=BA hR hrel;obtain⟨B,d,vs,rfl,r2,h2⟩:=BA hR h1;obtain rfl:=(by simpa[RelPL]using h2:vs=[]);exact(BW A B c d a b w r1 r2 j q).mono λe w' ⟨he,hw⟩=>⟨_,_,he,O,by rw[<-hw];exact Below.refl _ _,by simp only[RelP]⟩
theorem Sx(a b:List ByteArray):decide (tA a b<0)=bB a b:=by grind[tA,bB]
theorem sQ(a b:List ByteArray)(d:a.length<=1000000)(j:b.length<=1000000):FnP prog 121 [bh a,bh b] (· = .bool (bB a b)):=by
 refine FnP.of func121 O ntmps121 X2 λ_ _ _ _=>?_
 have hc:=Pz a b d j;exact Z1 O<|Z2 O<|Rs O (aa call34 hc O)<|Y2 O<|Gt O<|⟨_,_,O,O,ah PV.bool (Sx a b)⟩
end
section
open Mk Jn
structure RowOk(S:Sch)(A:List Int)(low:Int)(x:Rw):Prop where
 l:x.v.length=A.length
 v:∀i (h:i<x.v.length) (h2:i<A.length),∀nm,FnP prog 120 [.agg [.str nm,.int .i64 (S.attrs.getD A[i].toNat default).2],.str x.v[i]] (· = .bool VA)
 w:x.w≠0/\low<=x.w/\x.w<=100
theorem s6{S:Sch}{a:Nat}(h:a<S.attrs.length):S.attrs.getD a default=S.attrs[a]:=by simp[List.getD,h]
theorem zR(S:Sch)(hS:SJn S)(nm:ByteArray)(A:List Int)(U:A.length<=1000)(E:∀a∈A,0<=a/\a<S.attrs.length)(low:Int)(x:Rw)(G:RowOk S A low x):FnP prog 252 [gg S,.agg [.str nm,aq A],rowP x] (· = .bool VA):=by
 refine FnP.of func252 O ntmps252 X2 λ_ _ _ _=>?_
 have H:=G.l;have J:=hS.a;refine Z4 O<|Z4 O<|Gz O (st:=λX6:Nat=>([(3,UG),(5,UG),(10,UG),(11,UG),(12,UF (pIi X6))],[(0,UG),(2,UG)])) 3
  (I:=λX6=>X6<=A.length) (μ:=λX6=>A.length-X6) (x0:=(0)) (TO (aS O) (aO O) O O) (aJ _) ?_
 rintro j hj;refine Z1 O<|Gp O (λt=>?_) (λt=>?_)
 .have hlj:j<A.length:=XX;obtain⟨a,haa⟩:=tI (E _ (ak hlj)).1;have d:a<S.attrs.length:=by have:=(E _ (ak hlj)).2;omega
  have u:(aN A)[j*1]? =UF (.int .i64 (a:Int)):=by rw[<-haa];simp[hlj]
  have L:=aM hlj;have q:j<x.v.length:=XX;have z:=bP q;have B:=bO q;have M:=mj d;have D:=iZ d;have s:=G.v j q hlj S.attrs[a].1;rw[haa,Ux,s6 d]at s;refine TM<|Z2 O<|Rs O (ar ⟨_,underlying3,O⟩ O u)<|Y2 O<|UB 12 O<|Dr 3 O<|Ds [] O (λτ h=>ag a underlying26 nM (Ee h 0 O O) (Ee h 1 O O) O d D) O XY ?_;first|refine D3 O O X0 ?_|refine D1 O ?_
  refine Dr 3 O<|Ds [] O (λτ h=>ag j underlying39 sz9 (Ee h 0 O O) (Ee h 1 O O) O q B) O XY<|Ds [] O (λτ h=>ar ⟨_,underlying9,O⟩ (Ee h 0 O O) z) O XY<|Ds [] O (λτ h=>aa call120 s (h.aE O)) O XY<|D1 O ?_;refine⟨XY,?_⟩;refine Gc O (λr=>absurd r X2) (λr=>?_);exact TM<|Z2 O<|⟨(j+1),TO (aS O) (aO O) O O,XX,XX⟩
 exact Gx O<|Z1 O<|Gt O<|⟨_,_,O,O,O⟩
structure TblOk(S:Sch)(A:List Int)(low:Int)(l:List Rw):Prop where
 row:∀x∈l,RowOk S A low x
 asc:ML l
theorem GA{l:List Rw}(h:ML l){k:Nat}(d:k+1<l.length):bB l[k].v l[k+1].v=VA:=by grind[ML,UY]
theorem xq(S:Sch)(hB:SB S)(hS:SJn S)(hV:bG S=0)(r:Nat)(U:r<S.rels.length)(l:List Rw)(most low:Int)(hm:(l.length:Int)<=most)(hl:l.length<=1000)(hT:TblOk S S.rels[r].2 low l):FnP prog 202 [gg S,.int .i64 r,oS l,.int .i64 most,.int .i64 low] (· = .int .i64 0):=by
 refine FnP.of func202 O ntmps202 X2 λ_ _ _ _=>?_
 have t:=uR S hB;rw[hV]at t;have hrow:=fi U;have hrne:=ij U;have V:=hS.l _ (ak U);have W:=hS.b _ (ak U);have hSr:=hS.r;have H:=fun(x:Rw)(hx:RowOk S S.rels[r].2 low x)=>zR S hS S.rels[r].1 S.rels[r].2 V W low x hx
 have J:=hT.row;have X:=hT.asc;clear hT;generalize S.rels[r]=rr at*;refine Z2 O<|Z1 O<|Rs O (aa call114 t O)<|Y2 O<|Gc O (λu=>absurd u X2) (λu=>?_);refine Z3 O ?_;apply TX 6 23 29 [24,25,26,27,28] O X8
 .intro hb2;exact Ar 6 O<|TQ X7 O O O
 .intro hb2;exact Ar 6 O<|TQ X7 O O O
 refine A1 O<|Gc O (λz=>absurd z (λh=>by simp at h;omega)) (λz=>?_);refine Gr O<|Ar 5 O<|Gp O (λA=>absurd A XX) (λA=>?_);refine TM<|Z4 O ?_;first|refine A3 O X0 ?_|refine A1 O ?_
 refine Y2 O<|Z3 O<|Gz O (st:=λX6:Nat=>([(2,UG),(4,UG),(5,UG),(11,UG),(40,UG),(41,UG),(42,UF (pIi X6))],[(0,UG),(1,UG)])) 2
  (I:=λX6=>X6<=l.length) (μ:=λX6=>l.length-X6) (x0:=(0)) (TO (aS O) (aO O) O O) (aJ _) ?_
 rintro k hk;refine Z1 O<|Gp O (λM=>?_) (λM=>?_)
 .have hlt:k<l.length:=XX;have hrw:=fa hlt;have Y:=gL hlt;have s:=J _ (ak hlt);have Z:=H _ s;have hxl:=s.l;obtain⟨hw1,hw2,hw3⟩:=s.w;have G:0<k->∃q:k-1<l.length,bB (l[k-1]'q).v l[k].v=VA:=λh0=>by
   obtain⟨j,rfl⟩:∃j,k=j+1:=⟨k-1,XX⟩;exact⟨by simp only[Nat.add_sub_cancel];omega,by simpa using GA X hlt⟩
  have ab:∀q:k-1<l.length,(l[k-1]'q).v.length=rr.2.length:=λq=>(J _ (ak q)).l
  have ac:∀q:k-1<l.length,(a8 l)[(k-1)*2]? =UF (bh (l[k-1]'q).v):=λq=>Io q
  clear s;generalize l[k]=x at*;refine TM<|Z2 O ?_;first|refine A3 O X0 ?_|refine A1 O ?_
  refine Y3 O<|Gr O<|Ar 8 O<|Gc O (λB=>absurd B X3) (λB=>?_);refine Z3 O<|Rs O (aa call252 Z O)<|Y2 O<|Gc O (λD=>absurd D X2) (λD=>?_);refine Z4 O ?_;apply TX 5 65 70 [66,67,68,69] O X8
  .intro hb3;exact Ar 5 O<|TQ X7 O O O
  .intro hb3;exact Ar 5 O<|TQ X7 O O O
  refine A1 O ?_;apply TX 4 71 75 [72,73,74] O X8
  .intro hb9;exact Ar 4 O<|TQ X7 O O O
  .intro hb9;exact Ar 4 O<|TQ X7 O O O
  refine A1 O<|Gc O (λE=>absurd E (λh=>by simp at h;omega)) (λE=>?_);by_cases hk0:k=0
  .refine UB 15 O<|D1 O<|Ds [] O (λτ h=>T6 (Ee h 0 O O) (Ee h 1 O O) O (Up XX)) O XY<|Dr 13 O ?_;refine⟨XY,?_⟩;refine Gc O (λd=>absurd d X2) (λd=>?_);exact TM<|Z2 O<|⟨(k+1),TO (aS O) (aO O) O O,XX,XX⟩
  obtain⟨q,hls⟩:=G XX;have L:=sQ _ x.v (by rw[ab q];omega) XX;rw[hls]at L;have ad:=ac q;refine UB 15 O<|D1 O<|Ds [] O (λτ h=>T4 (Ee h 0 O O) (Ee h 1 O O) O (SR XX)) O XY<|Dr 4 O<|Dg [] O (λτ h=>ag (k-1) underlying38 Ko (Ee h 0 O O) (Ee h 1 O O) XX q Y) O XY<|D1 O<|Dg [] O (λτ h=>ar ⟨_,underlying39,O⟩ (Ee h 0 O O) ad) O XY<|Dr 2 O<|Dg [] O (λτ h=>aa call121 L (h.aE O)) O XY<|Dr 3 O ?_;refine⟨XY,?_⟩;refine Gc O (λd=>absurd d X2) (λd=>?_);exact TM<|Z2 O<|⟨(k+1),TO (aS O) (aO O) O O,XX,XX⟩
 exact Gx O<|Z1 O<|Gt O<|⟨_,_,O,O,O⟩
theorem K9(S:Sch)(hB:SB S)(hS:SJn S)(j:bG S=0)(r:Nat)(d:r<S.rels.length)(l:List Rw)(s:l.length<=60)(q:TblOk S S.rels[r].2 1 l):FnP prog 130 [gg S,.int .i64 r,oS l] (· = .int .i64 0):=by
 refine FnP.of func130 O ntmps130 X2 λ_ _ _ _=>?_
 have d:=xq S hB hS j r d l 60 1 XX XX q;exact Z2 O<|Z3 O<|Rs O (aa call202 d O)<|A1 O<|Gt O<|⟨_,_,O,O,O⟩
theorem u6(S:Sch)(hB:SB S)(hS:SJn S)(D:bG S=0)(d:List (List Rw))(L:d.length=S.rels.length)(H:∀l∈d,l.length<=60)(J:∀r (h:r<d.length) (M:r<S.rels.length),TblOk S S.rels[r].2 1 d[r]):FnP prog 65 [gg S,dbP d] (· = .int .i64 0):=by
 refine FnP.of func65 O ntmps65 X2 λ_ _ _ _=>?_
 have j:=uR S hB;rw[D]at j;have E:=hS.r;have G:=dy d;refine Z2 O<|Z1 O<|Rs O (aa call114 j O)<|A1 O<|Z2 O<|Gc O (λt=>?_) (λt=>?_)
 .exact Z2 O<|Gt O<|⟨_,_,O,O,O⟩
 refine TM<|Gr O<|Ar 6 O ?_;refine Gc O (λq=>absurd q X3) (λq=>?_);refine TM<|Z3 O<|Gz O (st:=λX6:Nat=>([(2,UG),(20,UG),(21,UG),(22,UF (pIi X6))],[(0,UG)])) 1
  (I:=λX6=>X6<=d.length) (μ:=λX6=>d.length-X6) (x0:=(0)) (TO (aS O) (aO O) O O) (aJ _) ?_
 rintro k hk;refine Z1 O<|Gp O (λu=>?_) (λu=>?_)
 .have hlt:k<d.length:=XX;have z:=vB hlt;have A:=vi hlt;have B:=K9 S hB hS D k XX d[k] (H _ (ak hlt)) (J k hlt XX);generalize d[k]=tk at*;refine TM<|Z1 O<|Rs O (ag k underlying34 NZ O O O hlt A)<|Rs O (ar ⟨_,underlying38,O⟩ O z)<|Y2 O<|Z3 O<|Rs O (aa call130 B O)<|A1 O<|Z2 O<|Gc O (λs=>absurd s X2) (λs=>?_);exact TM<|Z2 O<|⟨(k+1),TO (aS O) (aO O) O O,XX,XX⟩
 exact Gx O<|Z1 O<|Gt O<|⟨_,_,O,O,O⟩
end

section
open Mk Jn
structure DbOk(S:Sch)(d:List (List Rw)):Prop where
 hB:SB S
 hc:bG S=0
 hS:SJn S
 n:d.length=S.rels.length
 l:∀l∈d,l.length<=12
 t:∀r (h:r<d.length) (h2:r<S.rels.length),TblOk S S.rels[r].2 1 d[r]
 zf:∀l∈d,∀x∈l,∀y∈x.v,Zf y/\y.size<=10000



end
section
open Go.RowKit Mk Jn Mm Vw
theorem yg(l:List Bool)(j:0<l.length)(q:l.length<=1000000):FnO prog 139 0 1 [.pv (TE l)] [] (λv ob'=>v= .osl 0 1 l.length/\ob'=aA [(0,.cells 4 (cI l))]):=by
 refine FnO.of func139 O ntmps139 X2 λ_ _ _ _=>?_
 refine Z1 O<|Z1 O<|RL.call O (iG underlying171 O ?_);intro b hb;refine Gc O (λd=>absurd d (by have:=Wz.1 (hb d);subst this;simp at j)) (λd=>?_);refine TM<|Gr O<|Rs O (dz 0 Lm O)<|A1 O<|Rs O (dx 1 Lm O O O (.inl ⟨UG,O⟩) X2 (λc hc=>by obtain⟨y,_,rfl⟩:=IS.1 hc;rfl) XX O) ?_;exact A1 O<|Gt O<|⟨[(2,.osl 0 1 l.length)],[(0,.cells 4 (cI l))],[.osl 0 1 l.length],TP [1] ⟨UI (b:=V.osl 1 1 (0+l.length)) O (by rw[UQ];rfl),X5⟩ ⟨UI (b:=UF (Ob.cells 4 ([]++cI l))) O (by rw[Vo];rfl),X5⟩ O O XZ O,O,O,O,O,O⟩
theorem nw1{av:Av}{b:Nat}(d:av b=VA):(nwO b 1).all av=VA:=by
 show(av (b+0)&&VA)=VA;rw[Wf,d];rfl
theorem TC{A:List Int}{V:List ByteArray}(h:V.length=A.length){j:Nat}(d:j<A.length):(A.zip V)[j]? =UF (A[j],V[j]'XX):=by
 rw[BY X3,List.getElem_zip]
theorem CQ{A:List Int}{V:List ByteArray}(h:V.length=A.length){j:Nat}(d:j<A.length):(A.zip V).take (j+1)=(A.zip V).take j++[(A[j],V[j]'XX)]:=by
 rw[List.take_add_one,TC h d];rfl
def JO(x:Ch)(A:List Int)(V:List ByteArray):PV:=if ER x A V=VA then .tup [SZ (yz x A V),.bool VA]else .tup [.agg [.sl UG 0 [],.sl UG 0 []],.bool WA]
theorem IA(x:Ch)(A:List Int)(V:List ByteArray)(n:Nat)(h0:0<n)(hn:n<=1000000)(hx:x.v.length=n)(hs:x.s.length=n)(hA:A.length<=1000000)(hV:V.length=A.length)(W:∀a∈A,0<=a/\a<n):FnP prog 78 [SZ x,aq A,bh V] (· =JO x A V):=by
 refine FnP.fg2 (FnP.ofC func78 O ntmps78 X2 λ_ _ _ _=>?_);have X:=xt x.v XX XX;have Y:=yg x.s XX XX;have hzl:(A.zip V).length=A.length:=by simp;omega
 refine Z3 O<|Z3 O<|Gz O (st:=λX6:Nat=>([(1,UG),(2,UG),(3,UG),(6,UG),(13,UG),(14,UG),(15,UF (pIi X6))],[(0,UG),(1,UG)])) 2
  (I:=λX6=>X6<=A.length/\((A.zip V).take X6).all (agr1 x)=VA) (μ:=λX6=>A.length-X6) (x0:=(0)) (TO (aS O) (aO XY) O O) (⟨aJ _,O⟩) ?_
 rintro j ⟨hj,hall⟩;refine Z1 O<|Gp O (λM=>?_) (λM=>?_)
 .have hlj:j<A.length:=XX;have z:=CQ hV hlj;obtain⟨a,haa⟩:=tI (W _ (ak hlj)).1;have Z:a<n:=by have:=(W _ (ak hlj)).2;omega
  have E:(aN A)[j*1]? =UF (.int .i64 (a:Int)):=by rw[<-haa];simp[hlj]
  have aa:=aM hlj;have B:j<V.length:=XX;have G:=bP B;have ab:=bO B;have H:a<x.v.length:=XX;have J:a<x.s.length:=XX;have D:=SQ J;have hbn:=S0 J;have ac:=bP H;have hnn:=bO H;have t:agr1 x (A[j],V[j])=(!x.s[a]||decide (x.v[a]=V[j])):=by simp[agr1,haa,List.getD,H,J]
  refine TM<|Z2 O<|Rs O (ar ⟨_,underlying3,O⟩ O E)<|Y2 O ?_;by_cases hsg:x.s[a]=VA
  .rw[hsg]at D t;refine UB 17 O<|Dr 4 O<|Ds [] O (λτ h=>ar ⟨_,underlying4,O⟩ (Ee h 0 O O) D) O XY<|Dr 5 O<|Dg [] O (λτ h=>ar ⟨_,underlying9,O⟩ (Ee h 0 O O) ac) O XY<|Dr 3 O<|Dg [] O (λτ h=>ar ⟨_,underlying9,O⟩ (Ee h 0 O O) G) O XY<|Dr 2 O ?_;refine⟨XY,?_⟩;refine Gc O (λq=>?_) (λq=>?_)
   .have hne:x.v[a]≠V[j]:=λe=>by rw[e]at q;simp at q
    have hf:ER x A V=WA:=by
     unfold ER;rw[<-U3 (j+1) (A.zip V),Xk,z,Xk];simp[t,hne]
    exact Z3 O<|Gt O<|⟨_,_,O,O,⟨au ⟨_,underlying173,O⟩ Td O O O,X5⟩,by rw[JO,pF (by rw[hf];decide)];rfl⟩
   have heq:x.v[a]=V[j]:=O7 q;exact TM<|Z2 O<|⟨(j+1),TO (aS O) (aO XY) O O,⟨XX,by rw[z,Xk,hall];simp[t,heq]⟩,XX⟩
  rw[WE hsg]at D t;refine UB 17 O<|Dr 4 O<|Ds [] O (λτ h=>ar ⟨_,underlying4,O⟩ (Ee h 0 O O) D) O XY<|Dr 12 O ?_;refine⟨XY,?_⟩;refine Gc O (λq=>?_) (λq=>?_)
  .exact absurd q XZ
   done
  exact TM<|Z2 O<|⟨(j+1),TO (aS O) (aO XY) O O,⟨XX,by rw[z,Xk,hall];simp[t]⟩,XX⟩
 have t:ER x A V=VA:=by rw[aG XX]at hall;exact hall
 refine Gx O<|UB 9 O<|Dr 2 O<|Ds [] O (λτ h=>bl [] 2 call71 X (h.args.trans O) O O O trivial XZ (nw1 (h.n 0 _ O))) O XY<|Dr 2 O<|Ds [] O (λτ h=>bl [] 3 call139 Y (h.args.trans O) O O O trivial XZ (nw1 (h.n 0 _ O))) O XY<|Dr 3 O ?_;refine⟨XY,?_⟩;refine Z3 O<|Gz O (st:=λr:Nat×Ch=>([(2,UG),(6,UG),(10,UG),(46,UG),(47,UG),(48,UF (pIi r.1))],[(1,UG),(2,UF (.cells 9 (ct r.2.v))),(3,UF (.cells 4 (cI r.2.s))),(4,UG)])) 5
  (I:=λr=>r.1<=A.length/\r.2=((A.zip V).take r.1).foldl EX x) (μ:=λr=>A.length-r.1) (x0:=(0,x)) (TO (aS O) (aO XY) O O) (⟨aJ _,O⟩) ?_
 rintro⟨j,y⟩ ⟨hj,hy⟩;try simp only at hj hy ⊢
 have u:=BG ((A.zip V).take j) x;rw[<-hy]at u;refine Z1 O<|Gp O (λU=>?_) (λU=>?_)
 .have hlj:j<A.length:=XX;have z:=CQ hV hlj;obtain⟨a,haa⟩:=tI (W _ (ak hlj)).1;have Z:a<n:=by have:=(W _ (ak hlj)).2;omega
  have E:(aN A)[j*1]? =UF (.int .i64 (a:Int)):=by rw[<-haa];simp[hlj]
  have aa:=aM hlj;have B:j<V.length:=XX;have G:=bP B;have ab:=bO B;have L:EX y (A[j],V[j])=⟨y.v.set a V[j],y.s.set a VA⟩:=by simp[EX,haa]
  have e1:(ct y.v).set (a*1) (.str V[j])=ct (y.v.set a V[j]):=by simp[U9]
  have e2:(cI y.s).set (a*1) (.bool VA)=cI (y.s.set a VA):=by simp[U9]
  have hl1:(ct y.v).length=x.v.length:=by simp[u.1]
  have hl2:(cI y.s).length=x.s.length:=by simp[u.2]
  refine TM<|Z2 O<|Rs O (ar ⟨_,underlying3,O⟩ O E)<|Y2 O<|UB 14 O<|Dr 9 O<|Ds [] O (λτ h=>ar ⟨_,underlying9,O⟩ (Ee h 0 O O) G) O XY<|Ds [_] O (λτ h=>aj a underlying39 sz9 (Ee h 0 O O) (Eo h 0 O O) (Ee h 1 O O) O XX) O XY<|DL.step (d:=UG) [_] O O O (λτ h=>bY sz9 (Ee h 0 O O) (Eo h 0 O O) (Ee h 1 O O) O XX) O XY<|Ds [_] O (λτ h=>aj a underlying171 sz4 (Ee h 0 O O) (Eo h 0 O O) (Ee h 1 O O) O XX) O XY<|DL.step (d:=UG) [_] O O O (λτ h=>bY sz4 (Ee h 0 O O) (Eo h 0 O O) (Ee h 1 O O) O XX) O XY ?_;refine⟨XY,?_⟩;exact Z2 O<|⟨(j+1,⟨y.v.set a V[j],y.s.set a VA⟩),TO (aS O) ⟨XY,ah (λc=>UF (Ob.cells 9 c)) e1,ah (λc=>UF (Ob.cells 4 c)) e2,XY,X5⟩ O O,⟨X4,by simp only;rw[z,W5,<-hy,VO,List.foldl_nil,L]⟩,X4⟩
 have hye:y=yz x A V:=by rw[hy,aG XX];rfl
 rw[hye]at u;rw[hye];exact Gx O<|TN (TR (o:=.cells 9 (ct (yz x A V).v)) 2 XY O)<|TN (TR (o:=.cells 4 (cI (yz x A V).s)) 3 XY O)<|Z3 O<|Gt O<|⟨_,_,O,O,⟨au ⟨_,underlying173,O⟩ Td O O O,X5⟩,by rw[JO,AT t,<-u.1,<-u.2];rfl⟩
end
section
open Go.RowKit Mk Jn Mm Vw
noncomputable abbrev vwC:Option (List En)->List PV
 |none=>[.nilmap,.nilmap]
 |some E=>[.mp (cu E) (kY E),.mp (cu E) (gvsV E)]
noncomputable def vwsC(vs:List (Option (List En))):List PV:=vs.flatMap vwC
theorem yQ(o:Option (List En)):(vwC o).length=2:=by cases o<;>rfl
theorem o8(vs:List (Option (List En))):(vwsC vs).length=vs.length*2:=bL _ 2 yQ vs
theorem CU{vs:List (Option (List En))}{k:Nat}(h:k<vs.length):((vwsC vs).drop (k*2)).take 2=vwC vs[k]:=cZ _ 2 yQ vs k h
noncomputable abbrev bldM(S:Sch)(D:VD)(T:List (List Rw))(n:Nat)(left:Int):List V:=[.pv (.sl UG S.attrs.length (aK S.attrs)),.pv (.sl UG S.rels.length (aU S.rels)),.pv (.sl UG S.feats.length (aL S.feats)),pIi S.label,.pv (bA D.chs),.pv (bA D.kes),.pv (bA D.hos),.pv (aq D.wa),.pv (dbP T),.osl 9001 2 n,pIi left]
noncomputable abbrev bldO(S:Sch)(D:VD)(T:List (List Rw))(n:Nat)(left:Int)(vs:List (Option (List En))):List (Nat×Ob):=[(big,.mix 86 (bldM S D T n left)),(9001,.cells 95 (vwsC vs))]
theorem QB{T:List (List Rw)}{r:Nat}(h:r<T.length):(dj T)[r*1]? =UF (oS T[r]):=by simp[dj,h]
def GK(x:Rw):Itm:=⟨x.v,Gv.whole x.w.toNat⟩
theorem wz{l:List Prt}{i:Nat}(h:i<l.length):ptsC (l.take i)++ptC l[i]=ptsC (l.take (i+1)):=by
 rw[sh h];simp only[ptsC,U6,UJ,W9,Vg]
theorem BI(a b:List Prt):ptsC (a++b)=ptsC a++ptsC b:=by simp[ptsC]
noncomputable abbrev ptsP(l:List Prt):PV:=.sl UG l.length (ptsC l)
theorem yG(S:Sch)(hSr:S.rels.length<=1000)(D:VD)(T:List (List Rw))(n:Nat)(left:Int)(vs:List (Option (List En)))(hvs:vs.length=n)(hT:T.length=S.rels.length)(a2:∀l∈T,l.length<=1000)(hw:∀l∈T,∀x∈l,0<=x.w/\x.w<=9223372036854775807)
  (v:Nat) (HS CS:List Int) (H:v<D.hos.length) (J:v<D.chs.length) (a3:D.hos[v]=HS) (a4:D.chs[v]=CS) (hHl:HS.length<=1000) (hCl:CS.length<=1000) (hH:∀r∈HS,∃k:Nat,k<S.rels.length/\r=(k:Int))
  (hC:∀c∈CS,∃k:Nat,k<n/\k<D.kes.length/\c=(k:Int)) (f:Int->List En) (K:Int->List Int) (hf:∀(k:Nat)(h:k<vs.length)(h':k<D.kes.length),(k:Int)∈CS->vs[k]=UF (f k)/\D.kes[k]=K k/\EnOk (f k)/\(f k).length<=1000000):
  FnO prog 73 2 0 [.ptr big 0,pIi v] (bldO S D T n left vs) (λr ob'=>r= .pv (ptsP ((HS.map λr=>dd (oU S r) (gT T r))++CS.map λc=>cK (K c) (f c)))/\ob'=aA (bldO S D T n left vs)):=by
 refine FnO.of func73 O ntmps73 X2 λ_ _ _ _=>?_
 have L:=gM H;have ad:=gv H;have M:=gM J;have af:=gv J;rw[a3]at L;rw[a4]at M;obtain⟨hp,hhp⟩:∃hp:List Prt,hp=HS.map λr=>dd (oU S r) (gT T r):=⟨_,O⟩
 obtain⟨cp,hcp⟩:∃cp:List Prt,cp=CS.map λc=>cK (K c) (f c):=⟨_,O⟩
 have a5:hp.length=HS.length:=by rw[hhp,AS]
 have a6:cp.length=CS.length:=by rw[hcp,AS]
 rw[<-hhp,<-hcp];refine Z1 O<|Z1 O<|TN (TU 5 0 2 178 O O)<|Gr O<|Ar 6 O<|Rs O (ag v underlying80 sT O O O H ad)<|Rs O (ar ⟨_,underlying22,O⟩ O L)<|Y2 O<|Gz O (st:=λX6:Nat=>([(0,UG),(1,UG),(5,UF (.gsl 0 2 X6)),(20,UG),(21,UG),(22,UF (pIi X6))],[(big,UG),(0,UF (.gro 178 (ptsC (hp.take X6)))),(9001,UG)])) 1
  (I:=λX6=>X6<=HS.length) (μ:=λX6=>HS.length-X6) (x0:=(0)) (TO (aS O) (aO XY) O O) (aJ _) ?_
 rintro k hk;refine Z1 O<|Gp O (λZ=>?_) (λZ=>?_)
 .have hlt:k<HS.length:=XX;have al:k<hp.length:=XX;obtain⟨r,hr,hre⟩:=hH _ (ak hlt);have t:r<T.length:=XX;have B:(aN HS)[k*1]? =UF (.int .i64 (r:Int)):=by rw[<-hre];simp[hlt]
  have am:=aM hlt;have U:=ij hr;have an:(aU S.rels)[r*2+1]? =UF (aq S.rels[r].2):=by
   have h2:(((aU S.rels).drop (r*2)).take 2)[1]? =[PV.str S.rels[r].1,aq S.rels[r].2][1]? :=by rw[fi hr]
   simpa[Uw,Vp]using h2
  have ao:=QB t;have ap:=vi t;have au:=hw _ (ak t);have hlT:=a2 _ (ak t);have G:hp[k]=⟨S.rels[r].2,T[r].map GK⟩:=by
   simp only[hhp,VC,hre];simp[dd,oU,gT,List.getD,hr,t,GK]
  have u:=wz al;rw[G]at u;have ax:(ptsC (hp.take k)).length=k*2:=by rw[uO,OF,U5 XX]
  generalize S.rels[r].2=A at*;generalize T[r]=l at*;obtain⟨I,hI⟩:∃I:List Itm,I=l.map GK:=⟨_,O⟩;have hIl:I.length=l.length:=by rw[hI,AS]
  rw[<-hI]at u;refine TM<|Z1 O<|Rs O (ar ⟨_,underlying3,O⟩ O B)<|A1 O<|Gr O<|Ar 6 O<|Rs O (ag r underlying27 xS O O O hr U)<|A1 O<|Rs O (ar ⟨_,underlying22,O⟩ O an)<|Y3 O<|TN (St.cV (T':=178) (cs:=[.pv (aq A),.pv nS]) 1 1 2 7 180 XY O O)<|Gr O<|Ar 5 O<|Rs O (ag r underlying33 NZ O O O t ap)<|Rs O (ar ⟨_,underlying38,O⟩ O ao)<|Y2 O<|Gz O (st:=λd:Nat=>([(0,UG),(1,UG),(5,UG),(8,UG),(20,UG),(21,UG),(22,UG),(42,UG),(43,UG),(44,UF (pIi d))],[(big,UG),(0,UG),(1,UF (.mix 178 [.pv (aq A),.gsl 2 7 d])),(2,UF (.gro 180 (itsC (I.take d)))),(9001,UG)])) 3
   (I:=λd=>d<=l.length) (μ:=λd=>l.length-d) (x0:=(0)) (TO (aS O) (aO XY) O O) (aJ _) ?_
  rintro i hi;refine Z1 O<|Gp O (λab=>?_) (λab=>?_)
  .have hli:i<l.length:=XX;have az:i<I.length:=XX;have s:=fa hli;have aB:a8 l≠[]:=λe=>by have:=bS l;rw[e]at this;simp at this;omega
   obtain⟨hw0,hw1⟩:=au _ (ak hli);have aD:I[i]=GK l[i]:=by simp[hI]
   have V:=xB az;rw[aD]at V;have hik:(itsC (I.take i)).length=i*7:=by rw[tP,OF,U5 XX]
   generalize l[i]=x at*;have W:=lV x.w.toNat XX;have aP:PV.int .i64 ((x.w.toNat:Nat):Int)= .int .i64 x.w:=by rw[Int.toNat_of_nonneg hw0]
   rw[aP]at W;refine TM<|Gr O<|Rs O (ag i underlying38 Ko O O O hli aB)<|Rs O (aF ⟨_,underlying41,O⟩ Ko O s O)<|Y2 O<|UB 12 O<|Dr 6 O<|Ds [] O (λτ h=>aa call35 W (h.aE O)) O XY<|Dr 5 O ?_;refine⟨XY,?_⟩;exact Z2 O<|⟨(i+1),TP [0,1,5] (aT O) ⟨XY,XY,XY,UI (b:=UF (.gro 180 (itsC (I.take i)++itC (GK x)))) XY (ah (λc=>UF (Ob.gro 180 c)) V),XY,X5⟩ O O XZ O,hli,XX⟩
  have hie:I.take i=I:=aG XX;have aR:i=I.length:=XX;rw[hie,aR];exact Gx O<|TN (TR (o:=.gro 180 (itsC I)) 2 XY O)<|Gr O<|Ar 5 O<|Z2 O<|⟨(k+1),TP [4] (aT O) ⟨XY,UI (b:=UF (.gro 178 (ptsC (hp.take k)++ptC ⟨A,I⟩))) XY (ah (λc=>UF (Ob.gro 178 c)) u),XY,X5⟩ O O XZ O,hlt,XX⟩
 have hke:hp.take k=hp:=aG XX;have aW:k=hp.length:=XX;rw[hke,aW];refine Gx O<|Gr O<|Ar 6 O<|Rs O (ag v underlying80 sT O O O J af)<|Rs O (ar ⟨_,underlying22,O⟩ O M)<|Y2 O<|Gz O (st:=λq:Nat=>([(0,UG),(5,UF (.gsl 0 2 (hp.length+q))),(72,UG),(73,UG),(74,UF (pIi q))],[(big,UG),(0,UF (.gro 178 (ptsC (hp++cp.take q)))),(9001,UG)])) 1
  (I:=λq=>q<=CS.length) (μ:=λq=>CS.length-q) (x0:=(0)) (TO (aS O) ⟨XY,ah (λc=>UF (Ob.gro 178 (ptsC c))) X2,XY,X5⟩ O O) (aJ _) ?_
 rintro j hj;refine Z1 O<|Gp O (λac=>?_) (λac=>?_)
 .have hlj:j<CS.length:=XX;have aY:j<cp.length:=XX;obtain⟨c,hcn2,hck,hce⟩:=hC _ (ak hlj);have z:c<vs.length:=XX;obtain⟨g1,g2,g3,g4⟩:=hf c z hck (by rw[<-hce];exact ak hlj);have B:(aN CS)[j*1]? =UF (.int .i64 (c:Int)):=by rw[<-hce];simp[hlj]
  have am:=aM hlj;have X:=gM hck;have aZ:=gv hck;rw[g2]at X;have s:=CU z;rw[g1]at s;have G:cp[j]=cK (K c) (f c):=by simp[hcp,hce]
  have u:=wz aY;rw[G]at u;have Y:ptsC (hp++cp.take j)++ptC (cK (K c) (f c))=ptsC (hp++cp.take (j+1)):=by rw[BI,BI,WH,u]
  have ax:(ptsC (hp++cp.take j)).length=(hp.length+j)*2:=by rw[uO,D8,OF,U5 XX]
  have a0:=Dj (f c) (K c) g3 g4;generalize cK (K c) (f c)=p at*;generalize f c=E at*;refine TM<|Z1 O<|Rs O (ar ⟨_,underlying3,O⟩ O B)<|A1 O<|UB 20 O<|Dr 6 O<|Ds [_] O (λτ h=>aj c underlying84 RH (Ee h 0 O O) (Eo h 0 O O) (Ee h 1 O O) O hcn2) O XY<|Ds [_] O (λτ h=>ma ⟨_,underlying95,O⟩ RH (Ee h 0 O O) (Eo h 0 O O) s O) O XY<|Dr 6 O<|Ds [] O (λτ h=>ag c underlying80 sT (Ee h 0 O O) (Ee h 1 O O) O hck aZ) O XY<|Ds [] O (λτ h=>ar ⟨_,underlying22,O⟩ (Ee h 0 O O) X) O XY<|Ds [] O (λτ h=>aa call132 a0 (h.aE O)) O XY<|Dr 3 O ?_;refine⟨XY,?_⟩;exact Z2 O<|⟨(j+1),TP [2] (aT O) ⟨XY,UI (b:=UF (.gro 178 (ptsC (hp++cp.take j)++ptC p))) XY (ah (λc=>UF (Ob.gro 178 c)) Y),XY,X5⟩ O O XZ O,hlj,XX⟩
 have hje:cp.take j=cp:=aG XX;have a1:hp.length+j=(hp++cp).length:=by rw[D8];omega
 rw[hje,a1];exact Gx O<|TN (TR (o:=.gro 178 (ptsC (hp++cp))) 0 XY O)<|Z2 O<|Gt O<|⟨[(4,.pv (ptsP (hp++cp)))],bldO S D T n left vs,[.pv (ptsP (hp++cp))],TO (aS O) (aO XY) O O,O,O,O,O,O⟩
end
section
section
variable {C:Ctx}{n:Nat}{σ:St}{x y:Operand}{dst:Option Tmp}{ty:TypeId}{pos:String}{after:Array Edge}{gd:Option (Nat×Bool)}
theorem rf{w:World}{R:Nat->Prop}:∀{vs:List PV}{us:List Value},RelPL w R vs us->vs.all PV.leaf=VA->∀v∈us,v.oneCell'=VA
 |[],us,h,_,v,hv=>by simp only[RelPL]at h;subst h;simp at hv
 | c::cs,us,h,hl,v,hv=>by
   simp only[RelPL]at h;obtain⟨u,vs',rfl,h1,h2⟩:=h;simp only[V1,dO]at hl;rcases By.1 hv with rfl|hv
   .exact h1.leaf hl.1
   exact rf h2 hl.2 v hv
theorem D9{T T':TypeId}{id off k:Nat}{cs vs:List PV}(B:bR C.P T k)(D:σ.ev n x= .ptr id off)(E:σ.ob id=UF (.cells T' cs))(G:σ.ev n y= .pv (.agg vs))(s:vs.length=k)(z:vs.all PV.leaf=VA)(H:off+k<=cs.length):
  XJ C n ⟨UG,.store T x y,ty,pos,after,gd⟩ σ ⟨.pv .any,[(id,UF (.cells T' (gj cs off vs)))],[]⟩:=by
 rintro a w Q ⟨m,R,hw⟩;obtain⟨b,N,he,hm,arr,hb,hN,hle',hr⟩:=hw.ptr D E;have d:=hw.pv G;simp only[RelP]at d;obtain⟨us,hu,d⟩:=d;have A:=rf d z;have t:=d.length;have j:(a.eval y).cells=us.toArray:=by rw[hu];rfl
 have r:=lI (P:=C.P) (T:=T) (u:=a.eval y) (off:=off) hb (by rw[j];simp only[UL];rw[t,s];exact B) (by rw[j];simp;omega) (by rw[j];simpa using A);unfold Oper.wp;have q:(execOp a.eval ⟨UG,.store T x y,ty,pos,after,gd⟩).run C.P w= .ok .skip (w.setRow b (gj arr.toList off us).toArray):=by
  simp only[execOp,he,Sem.run_bind,r,Result.andThen_ok,Sem.run_pure,j]
 rw[q];refine⟨_,O,m,R,?_⟩;refine hw.store hm arr _ T' hb (by simp only[UL];rw[bQ _ _ _ X3];simpa using hN) _ ?_;intro w' hR hb';refine⟨_,hb',by simp only[UL];rw[bQ _ _ _ X3];simpa using hN,by rw[bQ _ _ _ XX];exact hle',?_⟩;rw[bQ cs off vs XX];have e:(gj arr.toList off us).toArray.toList.take cs.length=gj (arr.toList.take cs.length) off us:=by grind[gj,lh]
 rw[e];exact(hr.gj off d).mono hR
theorem Ks{e:TypeId}{T:TypeId}{z:Value}{size bytes:Nat}{kl kc:IntKind}{il ic:Int}(id k:Nat)(s:ElemIs C.P T e z size bytes)(G:σ.ev n x= .pv (.int kl il))(H:σ.ev n y= .pv (.int kc ic))(t:il=0)(A:ic=(k:Int))(I:k<=1000000000)(B:σ.av id=VA):
  XJ C n ⟨dst,.makeSlice T x y,ty,pos,after,gd⟩ σ ⟨.osl id size 0,[(id,UF (.cells e []))],[id]⟩:=by
 subst t A;rintro a w Q ⟨m,R,hw⟩;obtain⟨i,hi,hz,hsize,hbytes⟩:=info_parts s.info;have q:(i.bytes:Int)*(k:Int)<=281474976710656:=by
  have D:bytes*k<=1000*1000000000:=Va s.by_ I;rw[hbytes];have E:((bytes*k:Nat):Int)<=((1000*1000000000:Nat):Int):=Int.ofNat_le.2 D;rw[VN]at E;omega
 have d:=run_make (P:=C.P) w T e i z s.u hi hz kl kc 0 k XX XX q XX;simp only[Ux,hsize]at d;have j:(execOp a.eval ⟨dst,.makeSlice T x y,ty,pos,after,gd⟩).run C.P w= .ok (.value (.slice (UF ⟨w.heap.size,0,UG⟩) 0 k)) (w.alloc (.cells (madeCells z.cells (k*size)) e)):=by
  simp only[execOp,hw.int G,hw.int H,Sem.run_bind,d,Result.andThen_ok,Sem.run_pure];rfl
 unfold Oper.wp;rw[j];have r:(madeCells z.cells (k*size)).size=k*size:=size_madeCells _ _;refine⟨_,O,upd m id (UF (w.heap.size,(madeCells z.cells (k*size)).size)),R,?_⟩;rw[TW];refine SW.put (hw.alloc B _ e (.cells e []) ?_) dst ?_
 .intro w' m' av' hR hm ha hb;exact⟨_,hb,O,aJ _,by simp[RelPL]⟩
 simp only[Rel];refine⟨by simp[avL],λb N e=>?_⟩;rw[aB]at e;cases e;exact⟨k,O,aJ _,by simp only[maxLen];omega,r⟩
end
end
end Go.Proofs.YtameambcolibjaaGreatDoor
