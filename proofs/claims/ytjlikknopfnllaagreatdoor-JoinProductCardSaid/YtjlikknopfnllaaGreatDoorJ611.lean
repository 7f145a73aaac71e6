/-
  Texts of ours, joined and shortened by merge2.py: KF, E36, UA, UB, UC, UD, Fu, KA, KG, KH, KJ, KO, KC. No statement of the program is proved here.
-/
import Derived.Lib.Walk
import Derived.Lib.ItoaMem
import Derived.WalkKit
import Derived.BigCall
import Derived.BigGuard
import Derived.Test.YtjlikknopfnllaaGreatDoorJ610
set_option maxRecDepth 100000
set_option maxHeartbeats 4000000
open Go.RowKit Go.Proofs.Tryz
namespace Go.Proofs.YtjlikknopfnllaaGreatDoor
section
open Go.RowKit Mk Jn
set_option maxHeartbeats 4000000
section
variable {C:Ctx} {n:Nat} {σ:St} {dst:Option Tmp} {ty t t':TypeId} {pos:String} {after:Array Edge} {gd:Option (Nat×Bool)} {x:Operand}
theorem v7 {e:TypeId} {id sz k:Nat} {o:Ob} (hu:C.P.underlying t=some (.slice e)) (hx:σ.ev n x= .osl id sz k) (ho:σ.ob id=some o) (hre:o.real=true:=by rfl):
  XJ C n ⟨dst,.binOp .eql t x (.const (.slice none 0 0)) t',ty,pos,after,gd⟩ σ ⟨.pv (.bool false),[],[]⟩:=by
 rintro a w Q ⟨m,R,hw⟩
 obtain ⟨b,N,c,e1,_,_,_,_,_⟩:=hw.osl hx ho hre
 have hc:a.eval (.const (.slice none 0 0))= .slice none 0 0:=rfl
 have hrun:(execOp a.eval ⟨dst,.binOp .eql t x (.const (.slice none 0 0)) t',ty,pos,after,gd⟩).run C.P w= .ok (.value (.bool false)) w:=by
  simp [execOp,e1,eqGuard,binOp,hc,run_equal_slice_nil _ _ _ _ _ _ hu]
 unfold Oper.wp
 rw [hrun]
 exact ⟨_,rfl,m,R,St.dX σ dst _▸hw.put dst (by simp only [Rel,RelP])⟩
end
theorem rS (l:List ByteArray) (n:Nat) (hn:l.length=n) (hl:n≤1000000):FnO Tryz.prog 99 1 0 [.osl big 1 n] [(big,cB l)] (fun v ob'=>v= .pv (aI l)∧ob'=ar [(big,cB l)]):=by
 refine FnO.of func99 rfl ntmps99 (by simp) fun m0 w0 F R0=>?_
 refine Z1 rfl rfl ?_
 refine Z1 rfl rfl ?_
 refine Rs 4 rfl rfl (v7 underlying47 rfl rfl) ?_
 refine Gc rfl rfl (fun hc4=>absurd hc4 (by simp)) (fun hc4=>?_)
 refine Il ?_
 refine Gr rfl ?_
 refine Rs 5 rfl rfl (ek 0 uq rfl) ?_
 refine A1 rfl ?_
 refine Rs 7 rfl rfl (fc 1 uq rfl rfl rfl (.inr ⟨_,_,_,_,rfl,rfl,rfl⟩) (by simp [hn]) (fun c hc=>by obtain ⟨y,_,rfl⟩:=List.mem_map.1 (List.mem_of_mem_take hc);rfl) (by omega) rfl) ?_
 refine A1 rfl ?_
 refine Im (Ir 1 rfl rfl) ?_
 refine Im (St.uQ [2]) ?_
 refine Gt rfl ?_
 exact ⟨[(2,.pv (aI l))],[(big,cB l)],[.pv (aI l)],Io ⟨(show V.pv (.sl none (0+n) ([]++(aA l).take (n*1)))= .pv (.sl none l.length (aA l)) by rw [Nat.zero_add,List.nil_append,List.take_of_length_le (by simp [hn]),hn]),trivial⟩ (aO (by kernel_rfl)) rfl rfl,rfl,rfl,rfl,rfl,rfl⟩
abbrev choV:V:= .fn (.func 98) [] [.ptr 1000006 0,.ptr 1000007 0,.ptr 1000008 0]
abbrev choA (i:Nat) (w:Int):List V:=[.pv (.int .i64 i),.pv (.int .i64 w),.ptr 1000006 0,.ptr 1000007 0,.ptr 1000008 0]
abbrev oT (J:JD) (D:VD) (σ:Asg ByteArray) (now:List ByteArray) (M:List (ByteArray×Bool)) (g:Nat) (L:List Rw):List (Nat×Ob):=[(big,oB (wdB D) 1000004 1000001 J.S.attrs.length 1000002 1000003),(1000001,.cells 9 (aA now)),(1000002,.cells 4 (ay (stL σ J.S.attrs.length))),(1000003,.mp (ba M) (bB M)),(1000004,oX2 J 1000005),(1000005,.mp J.pk J.pv),(1000006,.mix 139 [.ptr big 0]),(1000007,.mix 38 [.gsl g 2 L.length]),(1000008,.mix 141 [choV]),(g,.gro 49 (aB L))]
def GY (J:JD) (P:List Int) (i:Nat):Nat:=(((aD P).take i).flatMap (hoL J.S P)).length
def DG (J:JD) (P:List Int) (D:VD) (i:Nat):Prop:=∀ σ now M w L,Pre P i σ→ZfA σ→SzA σ→NowOk J.S.attrs.length σ now→iz aU J P M→1≤w→w≤(100:Int)^GY J P i→L.length+(enC J P (hoL J.S P) ((aD P).drop i) σ w).length≤1000000→
 FnO Tryz.prog 98 10 1 (choA i w) (oT J D σ now M 1000009 L) (fun v ob'=>∃ now' M',NowOk J.S.attrs.length σ now'∧iz aU J P M'∧v= .tup []∧ob'=ar (oT J D σ now' M' 0 (L++iX J.S.attrs.length (enC J P (hoL J.S P) ((aD P).drop i) σ w))))
theorem CF (J:JD) (P:List Int) (D:VD) (h:CtxV J P D) (hwa:D.wa=aD P):DG J P D (aD P).length:=by
 intro σ now M w L hpre hz hsz hn hM hw1 hw2 hL
 rw [List.drop_length] at hL ⊢
 have hfull:=Bz h.ord hn hpre
 have hnl:=hn.l
 have hna:=h.ok.s.a
 have hcl:=rS now J.S.attrs.length hnl (by omega)
 have hLl:L.length+1≤1000000:=hL
 have hsl:(aB L).length=L.length*2:=aK L
 have hfin:L++iX J.S.attrs.length (enC J P (hoL J.S P) [] σ w)=L++[⟨now,w⟩]:=by rw [enC,hfull];rfl
 have hlen:(L++[(⟨now,w⟩:Rw)]).length=L.length+1:=by simp
 rw [hfin]
 refine FnO.of func98 rfl ntmps98 (by simp) fun m0 w0 F R0=>?_
 rw [← hwa] at*
 refine Z1 rfl rfl ?_
 first | refine A1 rfl ?_ | refine A2 rfl (by assumption) ?_
 iterate 6 refine A1 rfl ?_
 refine Gc rfl rfl (fun hc22=>?_) (fun hc22=>absurd hc22 (by simp))
 refine Ge rfl follows [0,1,2,3,4,5,6,7,8,9,10] (by kernel_rfl) ?_
 first | refine D1 rfl rfl ?_ | refine D2 rfl rfl (by assumption) ?_
 first | refine D1 rfl rfl ?_ | refine D2 rfl rfl (by assumption) ?_
 iterate 3 refine D1 rfl rfl ?_
 refine Ds 28 [1000001] rfl rfl rfl (fun τ h=>ah [1000001] 0 call99 hcl (h.args.trans rfl) rfl rfl rfl ⟨(Eo h 0 rfl rfl),trivial⟩ (by decide) rfl) rfl (by kernel_rfl) ?_
 iterate 5 refine D1 rfl rfl ?_
 refine ⟨by kernel_rfl,?_⟩
 refine Gt rfl ?_
 exact ⟨[],oT J D σ now M 0 (L++[⟨now,w⟩]),[],Is [1] trivial ⟨by kernel_rfl,by kernel_rfl,by kernel_rfl,by kernel_rfl,by kernel_rfl,by kernel_rfl,by kernel_rfl,Eq.trans (b:=some (.mix 38 [.gsl 1 2 (L.length+1)])) (by kernel_rfl) (congrArg (fun n=>some (Ob.mix 38 [.gsl 1 2 n])) hlen.symm),by kernel_rfl,Eq.trans (b:=some (.gro 49 (aB L++eV ⟨now,w⟩))) (by kernel_rfl) (congrArg (fun c=>some (Ob.gro 49 c)) (dW L ⟨now,w⟩)),trivial⟩ rfl rfl (by decide) rfl,rfl,rfl,rfl,now,M,hn,hM,rfl,rfl⟩
theorem H9 {a b:Int} (h1:1≤a) (h2:a≤(100:Int)^7) (h3:1≤b) (h4:b≤100): -9223372036854775808≤a*b∧a*b≤9223372036854775807:=by
 have:=mF (m:=7) h1 h2 h3 h4
 have e:(100:Int)^(7+1)=10000000000000000:=by decide
 rw [e] at this
 omega
theorem F1 {w:Int} {m:Nat} (h:w≤(100:Int)^m) (hm:m≤7):w≤(100:Int)^7:=Int.le_trans h (by
 have:(100:Nat)^m≤100^7:=Nat.pow_le_pow_right (by decide) hm
 exact_mod_cast this)
theorem CK (J:JD) (P:List Int) (D:VD) (h:CtxV J P D) (hd:∀ l∈J.T,l.Pairwise fun a b=>a.v≠b.v) (hw100:∀ l∈J.T,∀ x∈l,1≤x.w∧x.w≤100) (hr6:J.S.rels.length≤6) (hwa:D.wa=aD P) (hho:∀ v (hv:v<D.hos.length),D.hos[v]=hoL J.S P v)
  (i:Nat) (hi:i<(aD P).length) (hrec:DG J P D (i+1)):DG J P D i:=by
 intro σ now M w L hpre hz hsz hn hM hw1 hw2 hL
 obtain ⟨n,hnP,hwn,hat⟩:=hpre.at h.ord hi
 have hP:=h.ord.dP
 have hlen:=h.len
 have hn64:=h.n64
 have hJ:=h.ok
 have hva:n<J.S.attrs.length:=by omega
 have hself:=hat.self hnP
 have hdr:(aD P).drop i=(n:Int)::(aD P).drop (i+1):=by rw [List.drop_eq_getElem_cons hi,hwn]
 rw [hdr,Co] at hL ⊢
 have hmi:GY J P (i+1)=GY J P i+(hoL J.S P n).length:=by unfold GY;rw [GB hi,hwn]
 have hm6:GY J P (i+1)≤6:=Nat.le_trans (Hk h.ord (i+1)) hr6
 have hcand:=mK J h.ok h.t12 (wdB D) σ now hn (ba M) (bB M) n hva hself (h.wv n hva)
 have htn:=ki hn hva hself (jx J n σ)
 have hcok:=h.s8 n σ
 have hcle:=gm h.t12 n σ
 have hbr:=fun now2 M2 x hx1 hx2 h2 h3=>w3 J P D h n hnP σ now2 M2 x hat hz hsz hx1 hx2 h2 h3
 have hvo:n<D.hos.length:=by rw [h.hl];exact hnP
 have hov:=cM hvo
 have hon:=cQ hvo
 have hoh:=h.ho _ (List.getElem_mem hvo)
 rw [hho n hvo] at hov hoh
 have hset:=fun x=>H4 h.ord hnP hat x
 have hagr:=fun x now2 M2 (h2:NowOk J.S.attrs.length σ now2) r (hr:r<J.S.rels.length) y (hy:y.v.length=J.S.rels[r].2.length)=>dV J hJ (wdB D) (put σ n x) (now2.set n x) (h2.put hva x) (ba M2) (bB M2) r hr y hy
 have hvb:=fun x=>zX h hd hw100 (hset x) hw1 hw2
 have hrb:=fun x (r:Nat) (hr:r<J.S.rels.length) (ht:∀ a∈cy J r,(put σ n x a).isSome=true) (w2:Int) (m:Nat) (h1:1≤w2) (h2:w2≤(100:Int)^m) k=>yi h hd hw100 hr ht h1 h2 k
 have hpp:=fun x=>hpre.put hi x
 rw [hwn] at hpp
 have hgo:=fun x now2 M2 L2 (hx1:Zf x) (hx2:x.size≤10000) (h2:NowOk J.S.attrs.length σ now2) (h3:iz aU J P M2) h4 h5 h6=>hrec (put σ n x) (now2.set n x) M2 (rh J (put σ n x) w (hoL J.S P n)) L2 (hpp x) (hz.put n hx1) (hsz.put n hx2) (h2.put hva x) h3 h4 h5 h6
 have hwl:i<D.wa.length:=by rw [hwa];exact hi
 have hwp:(aE D.wa)[i*1]? =some (.int .i64 (n:Int)):=by
  have:D.wa[i]'hwl=(n:Int):=by rw [← hwn];congr 1
  rw [← this];simp [hwl]
 have hwne:=aH hwl
 have hwll:D.wa.length≤1000:=by rw [hwa,(cf hP).length_eq,a8];omega
 have hun:∀ x now2,NowOk J.S.attrs.length (put σ n x) now2→NowOk J.S.attrs.length σ now2:=fun x now2 h4=>by have:=h4.un (n:Int);rwa [cO hself] at this
 have hnl:∀ now2,NowOk J.S.attrs.length σ now2→(aA now2).length=J.S.attrs.length:=fun now2 h2=>by rw [List.length_map,h2.l]
 have hsl:(ay (stL σ J.S.attrs.length)).length=J.S.attrs.length:=by rw [List.length_map,cK]
 have hsl2:∀ x,(ay (stL (put σ n x) J.S.attrs.length)).length=J.S.attrs.length:=fun x=>by rw [List.length_map,cK]
 have hs1:=fun (now2:List ByteArray) x=>ix (l:=now2) (a:=n) x
 have hs2:=fun x=>kZ (σ:=σ) hva x
 have hs3:∀ x,(ay (stL (put σ n x) J.S.attrs.length)).set (n*1) (.bool false)=ay (stL σ J.S.attrs.length):=fun x=>by rw [qO hva,cO hself]
 have hfx:∀ x,enF J P n ((aD P).drop (i+1)) σ w x=if fl aU J P (al P n) (put σ n x)=true then enC J P (hoL J.S P) ((aD P).drop (i+1)) (put σ n x) (rh J (put σ n x) w (hoL J.S P n)) else []:=fun x=>rfl
 have hiv:¬ (i:Int)=D.wa.length:=by omega
 refine FnO.of func98 rfl ntmps98 (by simp) fun m0 w0 F R0=>?_
 have hsetk:=hset
 clear hrec hpp hset hpre hwn hdr hho hwa
 generalize jx J n σ=CL at*
 generalize bC (RJ J) sdS n σ=C at*
 generalize enF J P n ((aD P).drop (i+1)) σ w=fx at*
 generalize hoL J.S P n=Hs at*
 refine Z1 rfl rfl ?_
 first | refine A1 rfl ?_ | refine A2 rfl (by assumption) ?_
 iterate 6 refine A1 rfl ?_
 refine Gc rfl rfl (fun hc22=>absurd hc22 (fun e=>hiv (by simpa using e))) (fun hc22=>?_)
 refine Il ?_
 refine Gr rfl ?_
 first | refine A1 rfl ?_ | refine A2 rfl (by assumption) ?_
 iterate 5 refine A1 rfl ?_
 refine Rs 39 rfl rfl (ag i underlying22 sz3 rfl rfl rfl hwl hwne) ?_
 refine Rs 40 rfl rfl (ai ⟨_,underlying3,rfl⟩ rfl hwp) ?_
 refine A1 rfl ?_
 refine Gr rfl ?_
 first | refine A1 rfl ?_ | refine A2 rfl (by assumption) ?_
 refine A1 rfl ?_
 refine Rs 43 rfl rfl (ah six 0 call100 hcand rfl rfl rfl rfl ⟨rfl,rfl,rfl,rfl,rfl,rfl,trivial⟩ (by decide) rfl) ?_
 refine Y2 rfl rfl ?_
 refine Gl rfl (st:=fun x_0:Nat×List ByteArray×List (ByteArray×Bool)×List Rw=>mkS [(0,.pv (.int .i64 i)),(1,.pv (.int .i64 w)),(2,.ptr 1000006 0),(4,.ptr 1000008 0),(7,.pv (.int .i64 n)),(43,.pv (aI C)),(44,.pv (.int .i64 C.length)),(45,.pv (.int .i64 x_0.1))] [(big,oB (wdB D) 1000004 1000001 J.S.attrs.length 1000002 1000003),(0,.gro 49 (aB x_0.2.2.2)),(1000001,.cells 9 (aA x_0.2.1)),(1000002,.cells 4 (ay (stL σ J.S.attrs.length))),(1000003,.mp (ba x_0.2.2.1) (bB x_0.2.2.1)),(1000004,oX2 J 1000005),(1000005,.mp J.pk J.pv),(1000006,.mix 139 [.ptr big 0]),(1000007,.mix 38 [.gsl 0 2 x_0.2.2.2.length]),(1000008,.mix 141 [choV])] 1)
  (I:=fun x_0=>(x_0.1≤C.length∧NowOk J.S.attrs.length σ x_0.2.1)∧iz aU J P x_0.2.2.1∧x_0.2.2.2=L++iX J.S.attrs.length ((C.take x_0.1).flatMap fx)) (μ:=fun x_0=>C.length-x_0.1) (x0:=(0,tst now n CL,M,L)) (Is [1000009] (aT rfl) (aP (by kernel_rfl)) rfl rfl (by decide) rfl) (⟨⟨Nat.zero_le _,htn⟩,hM,by simp [iX]⟩) ?_
 rintro ⟨k,now2,M2,L2⟩ ⟨⟨hk,hn2⟩,hM2,hL2⟩
 try simp only at hk hn2 hM2 hL2 ⊢
 refine Z1 rfl rfl ?_
 refine Gp rfl rfl (fun hc46=>?_) (fun hc46=>?_)
 ·have hlt:k<C.length:=by omega
  have hv2:=aM hlt
  have hne2:=bc hlt
  obtain ⟨hx1,hx2⟩:=hcok _ (List.getElem_mem hlt)
  have hbk:=fun now2 M2=>hbr now2 M2 C[k] hx1 hx2
  have hsucc:=lY hlt fx
  have hle:=Dh fx C (k+1)
  have hfk:=hfx C[k]
  have hagk:=hagr C[k]
  have hvbk:=hvb C[k]
  have hrbk:=hrb C[k]
  have hgk:=fun now2 M2 L2=>hgo C[k] now2 M2 L2 hx1 hx2
  have hunk:=hun C[k]
  have hsl2k:=hsl2 C[k]
  have hs1k:=fun now2=>hs1 now2 C[k]
  have hs2k:=hs2 C[k]
  have hs3k:=hs3 C[k]
  have hsek:=hsetk C[k]
  generalize C[k]=x at*
  generalize hfg:fl aU J P (al P n) (put σ n x)=fb at*
  generalize put σ n x=σ2 at*
  refine Il ?_
  refine Z1 rfl rfl ?_
  first | refine A2 rfl (by assumption) ?_ | refine A1 rfl ?_
  refine A1 rfl ?_
  refine Gr rfl ?_
  first | refine A1 rfl ?_ | refine A2 rfl (by assumption) ?_
  refine Y2 rfl rfl ?_
  refine RL.call rfl (OJ.mono (Gh call101 (hbk now2 M2 hn2 hM2) vj rfl rfl rfl ⟨rfl,rfl,rfl,rfl,rfl,rfl,trivial⟩) ?_)
  rintro _ ⟨_,⟨_,_,_,⟨now3,M3,hn3,hM3,rfl,rfl,rfl⟩,rfl⟩,_,_,rfl⟩
  refine A1 rfl ?_
  refine Gc rfl rfl (fun hc53=>?_) (fun hc53=>?_)
  ·have hff:fb=false:=by simpa using hc53
   rw [hff,if_neg (by decide)] at hfk
   rw [hfk,List.append_nil] at hsucc
   refine Gx rfl ?_
   refine Z2 rfl rfl rfl ?_
   exact ⟨(k+1,now3,M3,L2),Io (aS rfl) (aO (by kernel_rfl)) rfl rfl,⟨⟨by simp only;omega,hn3⟩,hM3,by simp only;rw [hsucc];exact hL2⟩,by simp only;omega⟩
  ·have hff:fb=true:=by simpa using hc53
   rw [hff,if_pos rfl] at hfk
   have hnl3:=hnl now3 hn3
   have hnp3:=hs1k now3
   have hag3:=hagk now3 M3 hn3
   refine Il ?_
   refine Ge rfl follows [0,1,2,3,4,5,6,7,8,9,10,11,12,13,14] (by kernel_rfl) ?_
   first | refine D1 rfl rfl ?_ | refine D2 rfl rfl (by assumption) ?_
   iterate 4 refine D1 rfl rfl ?_
   first | refine D1 rfl rfl ?_ | refine D2 rfl rfl (by assumption) ?_
   iterate 5 refine D1 rfl rfl ?_
   refine Ds 65 [_] rfl rfl rfl (fun τ h=>aa n underlying47 sz9 (Ee h 0 rfl rfl) (Eo h 0 rfl rfl) (Ee h 1 rfl rfl) rfl (by omega)) rfl (by kernel_rfl) ?_
   refine DL.step (d:=none) [_] rfl rfl rfl (fun τ h=>aF sz9 (Ee h 0 rfl rfl) (Eo h 0 rfl rfl) (Ee h 1 rfl rfl) rfl (by omega)) rfl (by kernel_rfl) ?_
   refine Ds 66 [_] rfl rfl rfl (fun τ h=>aa n underlying115 sz4 (Ee h 0 rfl rfl) (Eo h 0 rfl rfl) (Ee h 1 rfl rfl) rfl (by omega)) rfl (by kernel_rfl) ?_
   refine DL.step (d:=none) [_] rfl rfl rfl (fun τ h=>aF sz4 (Ee h 0 rfl rfl) (Eo h 0 rfl rfl) (Ee h 1 rfl rfl) rfl (by omega)) rfl (by kernel_rfl) ?_
   refine ⟨by kernel_rfl,?_⟩
   refine Im (Io (l:=[(0,.pv (.int .i64 i)),(1,.pv (.int .i64 w)),(2,.ptr 1000006 0),(4,.ptr 1000008 0),(7,.pv (.int .i64 n)),(9,.pv (.str x)),(43,.pv (aI C)),(44,.pv (.int .i64 C.length)),(45,.pv (.int .i64 k))]) (os:=oT J D σ2 (now3.set n x) M3 0 L2) (k:=1) (aS rfl) ⟨by kernel_rfl,congrArg (fun c=>some (Ob.cells 9 c)) hnp3,congrArg (fun c=>some (Ob.cells 4 c)) hs2k,by kernel_rfl,by kernel_rfl,by kernel_rfl,by kernel_rfl,by kernel_rfl,by kernel_rfl,by kernel_rfl,trivial⟩ rfl rfl) ?_
   refine Z2 rfl rfl rfl ?_
   refine Gr rfl ?_
   first | refine A1 rfl ?_ | refine A2 rfl (by assumption) ?_
   iterate 5 refine A1 rfl ?_
   refine Rs 74 rfl rfl (ag n underlying142 ly rfl rfl rfl hvo hon) ?_
   refine Rs 75 rfl rfl (ai ⟨_,underlying22,rfl⟩ rfl hov) ?_
   refine Y2 rfl rfl ?_
   refine Gl rfl (st:=fun x_1:Nat=>mkS [(0,.pv (.int .i64 i)),(1,.pv (.int .i64 w)),(2,.ptr 1000006 0),(4,.ptr 1000008 0),(7,.pv (.int .i64 n)),(10,.pv (.int .i64 (rh J σ2 w (Hs.take x_1)))),(43,.pv (aI C)),(44,.pv (.int .i64 C.length)),(45,.pv (.int .i64 k)),(75,.pv (ak Hs)),(76,.pv (.int .i64 Hs.length)),(77,.pv (.int .i64 x_1))] [(big,oB (wdB D) 1000004 1000001 J.S.attrs.length 1000002 1000003),(0,.gro 49 (aB L2)),(1000001,.cells 9 (aA (now3.set n x))),(1000002,.cells 4 (ay (stL σ2 J.S.attrs.length))),(1000003,.mp (ba M3) (bB M3)),(1000004,oX2 J 1000005),(1000005,.mp J.pk J.pv),(1000006,.mix 139 [.ptr big 0]),(1000007,.mix 38 [.gsl 0 2 L2.length]),(1000008,.mix 141 [choV])] 1)
    (I:=fun x_1=>x_1≤Hs.length) (μ:=fun x_1=>Hs.length-x_1) (x0:=(0)) (Io (aS rfl) (aO (by kernel_rfl)) rfl rfl) (Nat.zero_le _) ?_
   rintro j hj
   refine Z1 rfl rfl ?_
   refine Gp rfl rfl (fun hc78=>?_) (fun hc78=>?_)
   ·have hltj:j<Hs.length:=by omega
    have hHl:=hoh.1
    obtain ⟨hr0,hr1⟩:=hoh.2 _ (List.getElem_mem hltj)
    obtain ⟨r',hre,_,hset'⟩:=hsek _ (List.getElem_mem hltj)
    obtain ⟨r,hr⟩:=Int.eq_ofNat_of_zero_le hr0
    have hrr:r'=r:=by omega
    subst hrr
    have hrl:r'<J.S.rels.length:=by omega
    have hpv:(aE Hs)[j*1]? =some (.int .i64 (r':Int)):=by rw [← hr];simp [hltj]
    have hpn:=aH hltj
    have hrT:r'<J.T.length:=by rw [hJ.n];exact hrl
    have htr:=cD hrT
    have htn:=dN hrT
    have hTl:=hJ.l _ (List.getElem_mem hrT)
    have hxv:=hJ.v r' hrT hrl
    have hwv:=hw100 _ (List.getElem_mem hrT)
    have hga:=fun (q:Nat) (hq:q<J.T[r'].length)=>hag3 r' hrl J.T[r'][q] (hxv _ (List.getElem_mem hq))
    have hvj:=hvbk j (by omega)
    have hwt:=pc J σ2 w hltj
    rw [hr,Int.toNat_natCast] at hwt
    have htb:dh J r'=J.T[r']:=by unfold dh;rw [List.getD_eq_getElem?_getD,List.getElem?_eq_getElem hrT];rfl
    have hrj:=hrbk r' hrl hset' _ _ hvj.1 hvj.2
    have hrt:=fun (q:Nat) (hq:q<J.T[r'].length)=>Ba J σ2 r' (rh J σ2 w (Hs.take j)) hq
    rw [ft hrl] at hrt
    rw [htb] at hrj hwt
    generalize J.T[r']=tf at*
    generalize hwj:rh J σ2 w (Hs.take j)=wj at*
    refine Il ?_
    refine Z1 rfl rfl ?_
    refine Rs 80 rfl rfl (ai ⟨_,underlying3,rfl⟩ rfl hpv) ?_
    refine A1 rfl ?_
    refine Gr rfl ?_
    first | refine A1 rfl ?_ | refine A2 rfl (by assumption) ?_
    iterate 7 refine A1 rfl ?_
    refine Rs 89 rfl rfl (ag r' underlying35 qk rfl rfl rfl hrT htn) ?_
    refine Rs 90 rfl rfl (ai ⟨_,underlying38,rfl⟩ rfl htr) ?_
    refine Y2 rfl rfl ?_
    refine Gl rfl (st:=fun x_2:Nat=>mkS [(0,.pv (.int .i64 i)),(1,.pv (.int .i64 w)),(2,.ptr 1000006 0),(4,.ptr 1000008 0),(7,.pv (.int .i64 n)),(10,.pv (.int .i64 (tW J σ2 r' wj (tf.take x_2)))),(12,.pv (.int .i64 (r':Int))),(43,.pv (aI C)),(44,.pv (.int .i64 C.length)),(45,.pv (.int .i64 k)),(75,.pv (ak Hs)),(76,.pv (.int .i64 Hs.length)),(77,.pv (.int .i64 j)),(90,.pv (bL tf)),(91,.pv (.int .i64 tf.length)),(92,.pv (.int .i64 x_2))] [(big,oB (wdB D) 1000004 1000001 J.S.attrs.length 1000002 1000003),(0,.gro 49 (aB L2)),(1000001,.cells 9 (aA (now3.set n x))),(1000002,.cells 4 (ay (stL σ2 J.S.attrs.length))),(1000003,.mp (ba M3) (bB M3)),(1000004,oX2 J 1000005),(1000005,.mp J.pk J.pv),(1000006,.mix 139 [.ptr big 0]),(1000007,.mix 38 [.gsl 0 2 L2.length]),(1000008,.mix 141 [choV])] 1)
     (I:=fun x_2=>x_2≤tf.length) (μ:=fun x_2=>tf.length-x_2) (x0:=(0)) (Io (aS rfl) (aO (by kernel_rfl)) rfl rfl) (Nat.zero_le _) ?_
    rintro k3 hk3
    refine Z1 rfl rfl ?_
    refine Gp rfl rfl (fun hc93=>?_) (fun hc93=>?_)
    ·have hlt3:k3<tf.length:=by omega
     have hrw:=aN hlt3
     have hrn:=aW hlt3
     have hgk3:=hga k3 hlt3
     have hwk3:=hwv _ (List.getElem_mem hlt3)
     have hrk3:=hrt k3 hlt3
     have hbk3:=hrj k3
     have hmul:=H9 hbk3.1 (F1 hbk3.2 (by omega)) hwk3.1 hwk3.2
     generalize tW J σ2 r' wj (tf.take k3)=wz at*
     generalize tf[k3]=y at*
     generalize hbg:agr J.S.rels[r'].2 σ2 y.v=b at*
     refine Il ?_
     refine Z1 rfl rfl ?_
     first | refine A3 rfl (by assumption) ?_ | refine A1 rfl ?_
     refine Y2 rfl rfl ?_
     refine Gr rfl ?_
     first | refine A1 rfl ?_ | refine A2 rfl (by assumption) ?_
     refine Y2 rfl rfl ?_
     refine Rs 99 rfl rfl (ah six 2 call102 hgk3 rfl rfl rfl rfl ⟨by kernel_rfl,by kernel_rfl,by kernel_rfl,by kernel_rfl,by kernel_rfl,by kernel_rfl,trivial⟩ (by decide) rfl) ?_
     refine Gc rfl rfl (fun hc99=>?_) (fun hc99=>?_)
     ·rw [if_pos hc99] at hrk3
      refine Z3 rfl rfl rfl rfl ?_
      refine Rs 103 rfl rfl (qa rfl rfl hmul) ?_
      refine A1 rfl ?_
      refine Z2 rfl rfl rfl ?_
      exact ⟨(k3+1),Io ⟨rfl,rfl,rfl,rfl,rfl,congrArg (fun z=>V.pv (.int .i64 z)) hrk3.symm,rfl,rfl,rfl,rfl,rfl,rfl,rfl,rfl,rfl,rfl,trivial⟩ (aO (by kernel_rfl)) rfl rfl,by omega,by omega⟩
     ·rw [if_neg (by rw [hc99];decide)] at hrk3
      refine Il ?_
      refine Z2 rfl rfl rfl ?_
      exact ⟨(k3+1),Io ⟨rfl,rfl,rfl,rfl,rfl,congrArg (fun z=>V.pv (.int .i64 z)) hrk3.symm,rfl,rfl,rfl,rfl,rfl,rfl,rfl,rfl,rfl,rfl,trivial⟩ (aO (by kernel_rfl)) rfl rfl,by omega,by omega⟩
    ·rw [show tf.take k3=tf from List.take_of_length_le (by omega)]
     refine Gx rfl ?_
     refine Z2 rfl rfl rfl ?_
     exact ⟨(j+1),Io ⟨rfl,rfl,rfl,rfl,rfl,congrArg (fun z=>V.pv (.int .i64 z)) hwt.symm,rfl,rfl,rfl,rfl,rfl,rfl,trivial⟩ (aO (by kernel_rfl)) rfl rfl,by omega,by omega⟩
   ·rw [show Hs.take j=Hs from List.take_of_length_le (by omega)]
    have hvn:=hvbk Hs.length (Nat.le_refl _)
    rw [List.take_length] at hvn
    rw [hsucc,List.length_append,hfk] at hle
    have hL2l:L2.length=L.length+((C.take k).flatMap fx).length:=by rw [hL2,List.length_append,k8]
    have hgo4:=hgk now3 M3 L2 hn3 hM3 hvn.1 (by rw [hmi];exact hvn.2) (by omega)
    generalize hEg:enC J P (hoL J.S P) ((aD P).drop (i+1)) σ2 (rh J σ2 w Hs)=E at*
    refine Gx rfl ?_
    refine Gr rfl ?_
    first | refine A1 rfl ?_ | refine A2 rfl (by assumption) ?_
    refine Y3 rfl rfl rfl ?_
    refine RL.call rfl (qx [big,1000001,1000002,1000003,1000004,1000005,1000006,1000007,1000008,0] 1 call98 hgo4 rfl rfl rfl rfl rfl ⟨by kernel_rfl,by kernel_rfl,by kernel_rfl,by kernel_rfl,by kernel_rfl,by kernel_rfl,by kernel_rfl,by kernel_rfl,by kernel_rfl,by kernel_rfl,trivial⟩ (by decide) rfl ?_)
    rintro _ _ ⟨now4,M4,hn4,hM4,rfl,rfl⟩
    refine Gr rfl ?_
    first | refine A1 rfl ?_ | refine A2 rfl (by assumption) ?_
    iterate 4 refine A1 rfl ?_
    refine Rs 116 rfl rfl (aa n underlying115 sz4 rfl rfl rfl rfl (by omega)) ?_
    refine RL.step (d:=none) rfl rfl (aF sz4 rfl rfl rfl rfl (by omega)) ?_
    refine Z2 rfl rfl rfl ?_
    exact ⟨(k+1,now4,M4,L2++iX J.S.attrs.length E),Ip [1] (aT rfl) ⟨by kernel_rfl,by kernel_rfl,by kernel_rfl,Eq.trans (b:=some (Ob.cells 4 ((ay (stL σ2 J.S.attrs.length)).set (n*1) (.bool false)))) (by kernel_rfl) (congrArg (fun c=>some (Ob.cells 4 c)) hs3k),by kernel_rfl,by kernel_rfl,by kernel_rfl,by kernel_rfl,by kernel_rfl,by kernel_rfl,trivial⟩ rfl rfl (by decide) rfl,⟨⟨by simp only;omega,hunk _ hn4⟩,hM4,by simp only;rw [hsucc,hfk,yU,hL2,List.append_assoc]⟩,by simp only;omega⟩
 ·rw [show C.take k=C from List.take_of_length_le (by omega)] at hL2
  refine Gx rfl ?_
  exact ⟨[],oT J D σ now2 M2 0 L2,[],Io trivial (aO (by kernel_rfl)) rfl rfl,rfl,rfl,rfl,now2,M2,hn2,hM2,rfl,by rw [← hL2]⟩
theorem Ey (J:JD) (P:List Int) (D:VD) (h:CtxV J P D) (hd:∀ l∈J.T,l.Pairwise fun a b=>a.v≠b.v) (hw100:∀ l∈J.T,∀ x∈l,1≤x.w∧x.w≤100) (hr6:J.S.rels.length≤6) (hwa:D.wa=aD P) (hho:∀ v (hv:v<D.hos.length),D.hos[v]=hoL J.S P v):∀ k i,i+k=(aD P).length→DG J P D i
 | 0,i,e=>by
   obtain rfl:i=(aD P).length:=by omega
   exact CF J P D h hwa
 | k+1,i,e=>CK J P D h hd hw100 hr6 hwa hho i (by omega) (Ey J P D h hd hw100 hr6 hwa hho k (i+1) (by omega))
end
section
section
variable {C:Ctx} {n:Nat} {σ:St} {a:Act} {w:World} {m:Gm} {R:Nat→Prop}
theorem SW.HI (h:SW C n σ a w m R) {w':World} {g:Nat} {arr:Array Value} {ty:TypeId} (hg:w'.heap[g]? =some (.cells arr ty (0,0))) {row:Option Nat} (hgr:w.grownBy w' row) (hrow:∀ k,row=some k→¬ R k∧(∀ i b N,m i=some (b,N)→b≠k)∧(C.F k∨C.w0.heap.size≤k))
  (hgm:∀ i b N,m i=some (b,N)→b≠g) (hgF:C.F g∨C.w0.heap.size≤g):SW C n σ a w' m (fun b=>R b∨b=g):=by
 have hblk:∀ k,k<w.heap.size→(∀ q,row=some q→k≠q)→w'.heap[k]? =w.heap[k]? :=fun k hk hne=>hgr.block k hk (fun e=>hne k e.symm rfl)
 have hgs:g<w'.heap.size:=(Array.getElem?_eq_some_iff.1 hg).1
 have hR:∀ b,R b→(R b∨b=g)∧w'.heap[b]? =w.heap[b]? :=fun b hb=>⟨.inl hb,hblk b (h.hr.rsz b hb) (fun q hq e=>(hrow q hq).1 (e▸hb))⟩
 refine h.world ⟨h.hr.dom,h.hr.free,?_,h.hr.inj,?_,?_,?_,fun b hb=> .inl (h.hr.r0 b hb),?_,h.hr.keep,h.hr.res⟩ hR (fun _ _ _ e=>e) (fun _ e=>e)
 ·intro i o b N h1 h2
  exact (h.hr.obj i o b N h1 h2).mono hR (fun _ _ _ e=>e) (fun _ e=>e) (hblk b (h.hr.own i b N h2).1 (fun q hq=>(hrow q hq).2.1 i b N h2))
 ·intro i b N h1
  obtain ⟨h2,h3,h4⟩:=h.hr.own i b N h1
  refine ⟨Nat.lt_of_lt_of_le h2 hgr.size,?_,h4⟩
  rintro (h5 | h5)
  ·exact h3 h5
  ·exact hgm i b N h1 h5
 ·rintro b (hb | hb)
  ·exact Nat.lt_of_lt_of_le (h.hr.rsz b hb) hgr.size
  ·rw [hb];exact hgs
 ·rintro b (hb | hb)
  ·exact h.hr.rfr b hb
  ·rw [hb];exact .inr (hgF.symm)
 ·refine ⟨hgr.os.trans h.hr.frame.os,hgr.tape.trans h.hr.frame.tape,hgr.output.trans h.hr.frame.output,Nat.le_trans h.hr.frame.size hgr.size,?_⟩
  intro k hk hF
  rw [hblk k (Nat.lt_of_lt_of_le hk h.hr.frame.size) (fun q hq e=>by subst e;rcases (hrow k hq).2.2 with h' | h';exact hF h';omega)]
  exact h.hr.frame.block k hk hF
end
section
variable {C:Ctx} {n:Nat} {σ:St} {dst:Option Tmp} {ty t t':TypeId} {pos:String} {after:Array Edge} {gd:Option (Nat×Bool)} {x y:Operand}
theorem sG {e:TypeId} {z:Value} {size bytes k j id:Nat} {cs news:List PV} (he:ElemIs C.P t e z size bytes) (hs:σ.ev n x= .gsl id size k) (ho:σ.ob id=some (.gro e cs)) (hcs:cs.length=k*size)
  (hsrc:jA n σ y j news) (hl:news.length=j*size) (hlf:∀ c∈news,c.leaf=true) (hb:k+j≤1000000000) (hk0:0<k):
  XJ C n ⟨dst,.call { callee:= .builtin .append,args:= #[x,y],argTypes:= #[t,t] },ty,pos,after,gd⟩ σ ⟨.pv (.sl none (k+j) (cs++news)),[(id,none)],[]⟩:=by
 rintro a w Q ⟨m,R,hw⟩
 obtain ⟨A0,c,hev,hkc,hcm,hz,hp⟩:=hw.gsl hs
 obtain ⟨A,c2,us,hev2,hr2,hrow⟩:=hsrc.row hw
 have sub:∀ i x,upd m id none i=some x→m i=some x∧i≠id:=fun i x e=>by
  by_cases hi:i=id
  ·subst hi;rw [au] at e;cases e
  ·rw [aG _ _ hi] at e;exact ⟨e,hi⟩
 have hcne:cs≠[]:=fun e=>by
  rw [e] at hcs
  have:=Nat.mul_pos hk0 he.pos
  simp at hcs
  omega
 obtain ⟨b,N,hm,arr,hbk,hsz,hle,hr⟩:=hw.live ho (bQ hcne)
 obtain ⟨rfl,hN⟩:=hp hk0 b N hm
 have hown:w.ownsRow 0 e size (.slice (some ⟨b,0,none⟩) k c) k (arr.toList.take (k*size)):=by
  refine ⟨?_,.inr ⟨b,c,arr,rfl,Nat.zero_le _,hbk,hkc,hcm,by rw [hsz,hN],rfl⟩⟩
  have:=Nat.mul_le_mul_right size hkc
  simp only [List.length_take,Array.length_toList]
  omega
 refine iG x y t rfl 0 e z size bytes he.u he.info he.zs he.pos he.by_ _ k j c2 A _ us hev hev2 hown hrow (by rw [hr2.length,hl]) (bU hr2 hlf) hb (Nat.zero_le _) ?_
 intro A' c' w' hown' hgr hat
 have own:=hw.hr.own id b N hm
 have hrel:RelPL w R (cs++news) (arr.toList.take (k*size)++us):=by
  rw [hcs] at hr
  exact hr.append hr2
 have bprop:¬ R b∧(∀ i b' N',upd m id none i=some (b',N')→b'≠b)∧(C.F b∨C.w0.heap.size≤b):=
  ⟨own.2.1,fun i b' N' hi e=>(sub i _ hi).2 (xx hw (sub i _ hi).1 hm e),own.2.2⟩
 rcases hown'.2 with ⟨hv,h0⟩ | ⟨g,cap,cur,hv,_,hg,hkc',hcm',hcs',htk⟩
 ·exfalso
  simp only [Value.slice.injEq] at hv
  obtain ⟨rfl,_,_⟩:=hv
  rcases hat with h | ⟨g',h,_⟩<;>simp [Value.ownBlock] at h
 ·simp only [Value.slice.injEq] at hv
  obtain ⟨rfl, -,rfl⟩:=hv
  have gprop:¬ R g∧(∀ i b' N',upd m id none i=some (b',N')→b'≠g)∧(C.F g∨C.w0.heap.size≤g):=by
   rcases hat with h | ⟨g',h,hle⟩
   ·simp only [Value.ownBlock,Option.some.injEq] at h
    rw [h];exact bprop
   ·simp only [Value.ownBlock,Option.some.injEq] at h
    subst h
    refine ⟨fun h=>?_,fun i b' N' hi e=>?_,.inr ?_⟩
    ·have:=hw.hr.rsz _ h;omega
    ·have:=(hw.hr.own i b' N' (sub i _ hi).1).1;omega
    ·have:=hw.hr.frame.size;omega
  have hul:(arr.toList.take (k*size)++us).length=(k+j)*size:=hown'.1
  refine ⟨_,rfl,upd m id none,fun b=>R b∨b=g,?_⟩
  rw [Iw]
  have hgrow:=hgr
  refine SW.put ((hw.drop id).HI hg hgr (fun q hq=>by simp [Value.ownBlock] at hq;subst hq;exact bprop) gprop.2.1 gprop.2.2) dst ?_
  simp only [Rel,RelP]
  refine ⟨_,c',rfl,hkc',hcm',fun b h=>(by cases h),fun h=>(by cases h),fun _=>⟨g,0,arr.toList.take (k*size)++us,rfl,?_,.inr rfl,fun q hq=>?_⟩⟩
  ·refine hrel.mono fun b' hb'=>⟨.inl hb',?_⟩
   refine hgr.block b' (hw.hr.rsz b' hb') fun e=>?_
   simp only [Value.ownBlock,Option.some.injEq] at e
   exact bprop.1 (e▸hb')
  ·simp only [World.cell?,hg,Nat.zero_add]
   rw [← htk, ← hul,List.getElem?_take,if_pos hq,Array.getElem?_toList];rfl
end
end
section
open Go.RowKit Mk Jn
set_option maxHeartbeats 4000000
section
variable {C:Ctx} {n:Nat} {σ:St} {dst:Option Tmp} {ty t:TypeId} {pos:String} {after:Array Edge} {gd:Option (Nat×Bool)} {x:Operand}
theorem nO {cells:Array Value} {k:Nat} (h0:0<cells.size) {v:Value} (h:v∈(Builtin.zeroCells cells k).toList):v∈cells.toList:=by
 unfold Builtin.zeroCells at h
 simp only [Array.toList_map,List.mem_map] at h
 obtain ⟨i,_,rfl⟩:=h
 rw [getElem!_pos cells _ (Nat.mod_lt _ h0)]
 exact Array.getElem_mem_toList _
theorem vv {e T:TypeId} {z:Value} {size bytes id off k:Nat} {cs:List PV} (he:ElemIs C.P t e z size bytes) (h1:∀ v∈z.cells.toList,v.oneCell'=true) (hx:σ.ev n x= .tsl id off k) (ho:σ.ob id=some (.cells T cs)) (hle:off+k*size≤cs.length):
  XJ C n ⟨dst,.call { callee:= .builtin .clear,args:= #[x],argTypes:= #[t] },ty,pos,after,gd⟩ σ ⟨.pv (.tup []),[(id,some (.cells T (cs.take off)))],[]⟩:=by
 rintro a w Q ⟨m,R,hw⟩
 obtain ⟨b,N,hm,arr,hb,hN,hle',hr⟩:=hw.live ho
 have h:=hw.ev x
 rw [hx] at h
 simp only [Rel] at h
 obtain ⟨hav,A,c,hev,hA⟩:=h
 have hzr:∀ w,(zeroValue e).run C.P w= .ok z w:=fun w=>by
  have:=he.info
  cases hq:C.P.info? e with
  | none=>simp [hq] at this
  | some i=>simp [hq] at this;simp [zeroValue,typeInfo,hq,this.1]
 rcases Nat.eq_zero_or_pos k with h0 | hp
 ·subst h0
  have hrun:(execOp a.eval ⟨dst,.call { callee:= .builtin .clear,args:= #[x],argTypes:= #[t] },ty,pos,after,gd⟩).run C.P w= .ok (.value (.tuple #[])) w:=by
   cases A<;>simp [execOp,resolve,invoke,builtin,Builtin.clear_,hev,run_underlying he.u,Result.andThen]
  unfold Oper.wp
  rw [hrun]
  have hw':=hw.turn hm w rfl (fun _ _=>rfl) rfl rfl rfl (.cells T (cs.take off)) (fun hR=>⟨arr,hb,hN,by simp;omega,by
   have:=hr.take off
   rw [List.take_take] at this
   rw [List.length_take]
   exact this⟩)
  refine ⟨_,rfl,m,R,?_⟩
  rw [Iw]
  exact SW.put hw' dst (by simp only [Rel,RelP];exact ⟨[],rfl,RelPL.nil⟩)
 ·have hA':=hA hp b N hm
  subst hA'
  have hZl:(Builtin.zeroCells z.cells k).toList.length=k*size:=by rw [Array.length_toList,size_zeroCells,he.zs]
  have hZ1:∀ v∈(Builtin.zeroCells z.cells k).toList,v.oneCell'=true:=fun v hv=>h1 v (nO (by rw [he.zs];exact he.pos) hv)
  generalize hZ:(Builtin.zeroCells z.cells k).toList=Z at hZl hZ1
  have hst:=run_storeCells_at (P:=C.P) b off T Z 0 arr w hb (by omega) hZ1
  simp only [Nat.add_zero] at hst
  have hrun:(execOp a.eval ⟨dst,.call { callee:= .builtin .clear,args:= #[x],argTypes:= #[t] },ty,pos,after,gd⟩).run C.P w= .ok (.value (.tuple #[])) (w.setRow b (arr.toList.take off++Z++arr.toList.drop (off+Z.length)).toArray):=by
   cases k with
   | zero=>omega
   | succ k=>simp [execOp,resolve,invoke,builtin,Builtin.clear_,hev,run_underlying he.u,hzr,hZ,hst,Result.andThen]
  unfold Oper.wp
  rw [hrun]
  have hw':=hw.store hm arr (arr.toList.take off++Z++arr.toList.drop (off+Z.length)).toArray T hb (by simp;omega) (.cells T (cs.take off)) (fun w' hR hb'=>⟨_,hb',by simp;omega,by simp;omega,by
   have:=(hr.take off).mono hR
   rw [List.take_take] at this
   rw [List.length_take]
   have e:(arr.toList.take off++Z++arr.toList.drop (off+Z.length)).toArray.toList.take (min off cs.length)=arr.toList.take (min off cs.length):=by
    show List.take _ (_++_++_)=_
    rw [List.append_assoc,List.take_append_of_le_length (by simp;omega),List.take_take]
    congr 1
    omega
   rw [e]
   exact this⟩)
  refine ⟨_,rfl,m,R,?_⟩
  rw [Iw]
  exact SW.put hw' dst (by simp only [Rel,RelP];exact ⟨[],rfl,RelPL.nil⟩)
end
theorem vO (a b:Rw) (ha:a.v.length≤1000000) (hb:b.v.length≤1000000):FnP Tryz.prog 54 [sJ a,sJ b] (· = .int .i64 (lN a.v b.v)):=by
 refine FnP.of func54 rfl ntmps54 (by simp) fun m0 w0 F R0=>?_
 have hc:=x9 a.v b.v ha hb
 refine Z3 rfl rfl rfl rfl ?_
 refine Z4 rfl rfl rfl rfl rfl ?_
 refine Rs 9 rfl rfl (ae call74 hc rfl) ?_
 refine A1 rfl ?_
 refine Gt rfl ?_
 exact ⟨_,_,rfl,rfl,rfl⟩
def dL (f:Int) (l:List Rw):List Rw:=l.map fun x=>⟨x.v,f*x.w⟩
theorem iT (l:List Rw):dL 1 l=l:=by simp [dL]
theorem kv (f:Int) {l:List Rw} {k:Nat} (h:k<l.length):dL f (l.take (k+1))=dL f (l.take k)++[⟨l[k].v,f*l[k].w⟩]:=by
 unfold dL;rw [List.take_succ_eq_append_getElem h,List.map_append];rfl
theorem mw (l:List Rw) (f:Int) (hl:l.length≤1000) (hv:∀ x∈l,x.v.length≤1000) (hw:∀ x∈l, -9223372036854775808≤f*x.w∧f*x.w≤9223372036854775807):FnO Tryz.prog 65 0 1 [.pv (bL l),.pv (.int .i64 f)] [] (fun v ob'=>v= .gsl 0 2 l.length∧ob'=ar [(0,.gro 49 (aB (dL f l)))]):=by
 refine FnO.of func65 rfl ntmps65 (by simp) fun m0 w0 F R0=>?_
 refine Z1 rfl rfl ?_
 refine Z1 rfl rfl ?_
 refine Im (Iu 5 0 2 49 rfl rfl) ?_
 refine Z3 rfl rfl rfl rfl ?_
 refine Gl rfl (st:=fun x_0:Nat×List Rw=>mkS [(1,.pv (.int .i64 f)),(5,.gsl 0 2 x_0.2.length),(8,.pv (bL l)),(9,.pv (.int .i64 l.length)),(10,.pv (.int .i64 x_0.1))] [(0,.gro 49 (aB x_0.2))] 1)
  (I:=fun x_0=>x_0.1≤l.length∧x_0.2=dL f (l.take x_0.1)) (μ:=fun x_0=>l.length-x_0.1) (x0:=(0,[])) (Io (aS rfl) (aO rfl) rfl rfl) (⟨Nat.zero_le _,rfl⟩) ?_
 rintro ⟨k,q⟩ ⟨hk,hq⟩
 try simp only at hk hq ⊢
 refine Z1 rfl rfl ?_
 refine Gp rfl rfl (fun hc11=>?_) (fun hc11=>?_)
 ·have hlt:k<l.length:=by omega
  have hrow:=aN hlt
  have hne:=aW hlt
  have hxv:=hv _ (List.getElem_mem hlt)
  have hxw:=hw _ (List.getElem_mem hlt)
  have hsn:=kv f hlt
  have hql:q.length=k:=by rw [hq];simp [dL];omega
  have hqc:=aK q
  generalize l[k]=x at*
  have hcl:=fX x.v (by omega)
  have hsn2:=dW q ⟨x.v,f*x.w⟩
  refine Il ?_
  refine Z1 rfl rfl ?_
  first | refine A3 rfl (by assumption) ?_ | refine A1 rfl ?_
  refine Y2 rfl rfl ?_
  refine Ge rfl follows [0,1,2,3,4,5,6,7,8,9,10,11] (by kernel_rfl) ?_
  iterate 3 refine D1 rfl rfl ?_
  refine Ds 17 [] rfl rfl rfl (fun τ h=>ae call99 hcl (h.bt rfl)) rfl (by kernel_rfl) ?_
  iterate 3 refine D1 rfl rfl ?_
  refine Ds 21 [] rfl rfl rfl (fun τ h=>qa (Ee h 0 rfl rfl) (Ee h 1 rfl rfl) hxw) rfl (by kernel_rfl) ?_
  iterate 4 refine D1 rfl rfl ?_
  refine ⟨by kernel_rfl,?_⟩
  refine Z2 rfl rfl rfl ?_
  exact ⟨(k+1,q++[⟨x.v,f*x.w⟩]),Ip [3] ⟨rfl,Eq.trans (b:=V.gsl 3 2 (q.length+1)) rfl (congrArg (fun n=>V.gsl 3 2 n) (bW q (⟨x.v,f*x.w⟩:Rw))),rfl,rfl,rfl,trivial⟩ ⟨Eq.trans (b:=some (.gro 49 (aB q++eV ⟨x.v,f*x.w⟩))) (by kernel_rfl) (congrArg (fun c=>some (Ob.gro 49 c)) hsn2),trivial⟩ rfl rfl (by decide) rfl,⟨by simp only;omega,by simp only;rw [hsn,hq]⟩,by simp only;omega⟩
 ·have hqf:q=dL f l:=by rw [hq,show l.take k=l from List.take_of_length_le (by omega)]
  have hqn:q.length=l.length:=by rw [hqf];simp [dL]
  refine Gx rfl ?_
  refine Z2 rfl rfl rfl ?_
  refine Gt rfl ?_
  exact ⟨[(4,.gsl 0 2 l.length)],[(0,.gro 49 (aB (dL f l)))],[.gsl 0 2 l.length],Io ⟨Eq.trans (b:=V.gsl 0 2 q.length) rfl (by rw [hqn]),trivial⟩ ⟨Eq.trans (b:=some (.gro 49 (aB q))) rfl (by rw [hqf]),trivial⟩ rfl rfl,rfl,rfl,rfl,rfl,rfl⟩
theorem zT (l:List Rw) (f:Int) (hl:l.length≤1000) (hv:∀ x∈l,x.v.length≤1000) (hw:∀ x∈l, -9223372036854775808≤f*x.w∧f*x.w≤9223372036854775807):FnP Tryz.prog 65 [bL l,.int .i64 f] (· =bL (dL f l)):=by
 refine FnP.of func65 rfl ntmps65 (by simp) fun m0 w0 F R0=>?_
 refine Z1 rfl rfl ?_
 refine Z1 rfl rfl ?_
 refine Im (Iu 5 0 2 49 rfl rfl) ?_
 refine Z3 rfl rfl rfl rfl ?_
 refine Gl rfl (st:=fun x_0:Nat×List Rw=>mkS [(1,.pv (.int .i64 f)),(5,.gsl 0 2 x_0.2.length),(8,.pv (bL l)),(9,.pv (.int .i64 l.length)),(10,.pv (.int .i64 x_0.1))] [(0,.gro 49 (aB x_0.2))] 1)
  (I:=fun x_0=>x_0.1≤l.length∧x_0.2=dL f (l.take x_0.1)) (μ:=fun x_0=>l.length-x_0.1) (x0:=(0,[])) (Io (aS rfl) (aO rfl) rfl rfl) (⟨Nat.zero_le _,rfl⟩) ?_
 rintro ⟨k,q⟩ ⟨hk,hq⟩
 try simp only at hk hq ⊢
 refine Z1 rfl rfl ?_
 refine Gp rfl rfl (fun hc11=>?_) (fun hc11=>?_)
 ·have hlt:k<l.length:=by omega
  have hrow:=aN hlt
  have hne:=aW hlt
  have hxv:=hv _ (List.getElem_mem hlt)
  have hxw:=hw _ (List.getElem_mem hlt)
  have hsn:=kv f hlt
  have hql:q.length=k:=by rw [hq];simp [dL];omega
  have hqc:=aK q
  generalize l[k]=x at*
  have hcl:=fX x.v (by omega)
  have hsn2:=dW q ⟨x.v,f*x.w⟩
  refine Il ?_
  refine Z1 rfl rfl ?_
  first | refine A3 rfl (by assumption) ?_ | refine A1 rfl ?_
  refine Y2 rfl rfl ?_
  refine Ge rfl follows [0,1,2,3,4,5,6,7,8,9,10,11] (by kernel_rfl) ?_
  iterate 3 refine D1 rfl rfl ?_
  refine Ds 17 [] rfl rfl rfl (fun τ h=>ae call99 hcl (h.bt rfl)) rfl (by kernel_rfl) ?_
  iterate 3 refine D1 rfl rfl ?_
  refine Ds 21 [] rfl rfl rfl (fun τ h=>qa (Ee h 0 rfl rfl) (Ee h 1 rfl rfl) hxw) rfl (by kernel_rfl) ?_
  iterate 4 refine D1 rfl rfl ?_
  refine ⟨by kernel_rfl,?_⟩
  refine Z2 rfl rfl rfl ?_
  exact ⟨(k+1,q++[⟨x.v,f*x.w⟩]),Ip [3] ⟨rfl,Eq.trans (b:=V.gsl 3 2 (q.length+1)) rfl (congrArg (fun n=>V.gsl 3 2 n) (bW q (⟨x.v,f*x.w⟩:Rw))),rfl,rfl,rfl,trivial⟩ ⟨Eq.trans (b:=some (.gro 49 (aB q++eV ⟨x.v,f*x.w⟩))) (by kernel_rfl) (congrArg (fun c=>some (Ob.gro 49 c)) hsn2),trivial⟩ rfl rfl (by decide) rfl,⟨by simp only;omega,by simp only;rw [hsn,hq]⟩,by simp only;omega⟩
 ·have hqf:q=dL f l:=by rw [hq,show l.take k=l from List.take_of_length_le (by omega)]
  refine Im (Ir 0 rfl rfl) ?_
  refine Gx rfl ?_
  refine Z2 rfl rfl rfl ?_
  refine Gt rfl ?_
  exact ⟨_,_,rfl,rfl,by rw [hqf];rfl⟩
end
section
open Go.RowKit Mk Jn
set_option maxHeartbeats 4000000
abbrev di (l:List Rw):Ob:= .cells 49 (aB l)
abbrev Gg:PV:= .fn (.func 54) [] []
def CU (l:List Rw):Prop:=l.Pairwise fun a b=>aZ b.v a.v=false
theorem CU.at {l:List Rw} (h:CU l) {i:Nat} (h0:0<i) (hi:i<l.length):aZ l[i].v (l[i-1]'(by omega)).v=false:=by
 unfold CU at h
 rw [List.pairwise_iff_getElem] at h
 exact h (i-1) i (by omega) hi (by omega)
theorem rW (l:List Rw) (n:Nat) (hl:l.length=n) (hn:n≤1000) (hs:CU l) (hv:∀ x∈l,x.v.length≤1000):FnO Tryz.prog 155 1 0 [.osl big 2 n,.pv (.int .i64 0),.pv (.int .i64 n),.pv Gg] [(big,di l)] (fun v ob'=>v= .tup []∧ob'=ar [(big,di l)]):=by
 refine FnO.of func155 rfl ntmps155 (by simp) fun m0 w0 F R0=>?_
 have hll:=aK l
 refine Z3 rfl rfl rfl rfl ?_
 refine Gl rfl (st:=fun x_0:Nat=>mkS [(0,.osl big 2 n),(1,.pv (.int .i64 0)),(2,.pv (.int .i64 n)),(3,.pv Gg),(8,.pv (.int .i64 x_0))] [(big,di l)] 0)
  (I:=fun x_0=>1≤x_0) (μ:=fun x_0=>n-x_0) (x0:=(1)) (Io (aS rfl) (aO (by kernel_rfl)) rfl rfl) (Nat.le_refl _) ?_
 rintro i hi
 refine Z3 rfl rfl rfl rfl ?_
 refine Gp rfl rfl (fun hc14=>?_) (fun hc14=>?_)
 ·have hlt:i<l.length:=by omega
  have hlt2:i-1<l.length:=by omega
  have hrow:=aN hlt
  have hrow2:=aN hlt2
  have hne:=aW hlt
  have hls:=hs.at hi hlt
  have hxv:=hv _ (List.getElem_mem hlt)
  have hyv:=hv _ (List.getElem_mem hlt2)
  have hcm:=vO l[i] l[i-1] (by omega) (by omega)
  have hcz:=Eb l[i].v l[i-1].v
  rw [hls] at hcz
  generalize l[i]=x at*
  generalize l[i-1]=y at*
  refine Il ?_
  refine Z2 rfl rfl rfl ?_
  refine Gl rfl (st:=fun x_1:Unit=>mkS [(0,.osl big 2 n),(1,.pv (.int .i64 0)),(2,.pv (.int .i64 n)),(3,.pv Gg),(8,.pv (.int .i64 i)),(9,.pv (.int .i64 i))] [(big,di l)] 0)
   (I:=fun x_1=>True) (μ:=fun x_1=>0) (x0:=(())) (Io (aS rfl) (aO (by kernel_rfl)) rfl rfl) (trivial) ?_
  rintro u hI
  refine Ge rfl follows [0,1,2,3,4,5,6,7,8,9,10,11,12,13,14,15,16] (by kernel_rfl) ?_
  iterate 2 refine D1 rfl rfl ?_
  refine Ds 20 [] rfl rfl rfl (fun τ h=>XJ.cast (v':= .pv (.bool true)) (aQ (Ee h 0 rfl rfl) (Ee h 1 rfl rfl) rfl) (congrArg (fun b=>V.pv (.bool b)) (decide_eq_true (by omega)))) rfl (by kernel_rfl) ?_
  iterate 4 refine D1 rfl rfl ?_
  refine Dg 25 [_] rfl rfl rfl rfl (fun τ h=>aa i underlying38 lM (Ee h 0 rfl rfl) (Eo h 0 rfl rfl) (Ee h 1 rfl rfl) rfl (by omega)) rfl (by kernel_rfl) ?_
  first | refine D3 rfl rfl (by assumption) ?_ | refine D1 rfl rfl ?_
  iterate 3 refine D1 rfl rfl ?_
  refine Dg 30 [_] rfl rfl rfl rfl (fun τ h=>aa (i-1) underlying38 lM (Ee h 0 rfl rfl) (Eo h 0 rfl rfl) (Ee h 1 rfl rfl) (by omega) (by omega)) rfl (by kernel_rfl) ?_
  first | refine D3 rfl rfl (by assumption) ?_ | refine D1 rfl rfl ?_
  refine Dg 32 [] rfl rfl rfl rfl (fun τ h=>bb call54 (Ee h 0 rfl rfl) hcm (h.jv rfl)) rfl (by kernel_rfl) ?_
  refine Dg 33 [] rfl rfl rfl rfl (fun τ h=>XJ.cast (v':= .pv (.bool false)) (aQ (Ee h 0 rfl rfl) (Ee h 1 rfl rfl) rfl) (congrArg (fun b=>V.pv (.bool b)) hcz)) rfl (by kernel_rfl) ?_
  refine D1 rfl rfl ?_
  refine ⟨by kernel_rfl,?_⟩
  refine Gc rfl rfl (fun hc34=>absurd hc34 (by simp)) (fun hc34=>?_)
  refine Gx rfl ?_
  refine Z3 rfl rfl rfl rfl ?_
  exact ⟨(i+1),Io (aS rfl) (aO (by kernel_rfl)) rfl rfl,by omega,by omega⟩
 ·refine Gx rfl ?_
  exact ⟨[],[(big,di l)],[],Io trivial (aO (by kernel_rfl)) rfl rfl,rfl,rfl,rfl,rfl,rfl⟩
theorem AP (l:List Rw) (n:Nat) (hl:l.length=n) (hn:n<20) (hs:CU l) (hv:∀ x∈l,x.v.length≤1000):FnO Tryz.prog 110 1 0 [.osl big 2 n,.pv (.int .i64 n),.pv Gg] [(big,di l)] (fun v ob'=>v= .tup []∧ob'=ar [(big,di l)]):=by
 refine FnO.of func110 rfl ntmps110 (by simp) fun m0 w0 F R0=>?_
 have hin:=rW l n hl (by omega) hs hv
 refine Z1 rfl rfl ?_
 refine Z3 rfl rfl rfl rfl ?_
 refine Gl rfl (st:=fun x_0:Unit=>mkS [(0,.osl big 2 n),(1,.pv (.int .i64 n)),(2,.pv Gg),(6,.pv (.int .i64 20)),(7,.pv (.int .i64 0)),(8,.pv (.int .i64 20))] [(big,di l)] 0)
  (I:=fun x_0=>True) (μ:=fun x_0=>0) (x0:=(())) (Io (aS rfl) (aO (by kernel_rfl)) rfl rfl) (trivial) ?_
 rintro u hI
 refine Z3 rfl rfl rfl rfl ?_
 refine Gp rfl rfl (fun hc13=>absurd hc13 (by omega)) (fun hc13=>?_)
 refine Gx rfl ?_
 refine Z4 rfl rfl rfl rfl rfl ?_
 refine Rs 27 rfl rfl (ah [big] 0 call155 hin rfl rfl rfl rfl ⟨rfl,trivial⟩ (by decide) rfl) ?_
 refine Gl rfl (st:=fun x_1:Unit=>mkS [(0,.osl big 2 n),(1,.pv (.int .i64 n)),(2,.pv Gg),(6,.pv (.int .i64 20))] [(big,di l)] 0)
  (I:=fun x_1=>True) (μ:=fun x_1=>0) (x0:=(())) (Io (aS rfl) (aO (by kernel_rfl)) rfl rfl) (trivial) ?_
 rintro u hI
 refine Z3 rfl rfl rfl rfl ?_
 refine Gp rfl rfl (fun hc30=>absurd hc30 (by omega)) (fun hc30=>?_)
 refine Gx rfl ?_
 exact ⟨[],[(big,di l)],[],Io trivial (aO (by kernel_rfl)) rfl rfl,rfl,rfl,rfl,rfl,rfl⟩
theorem rX (l:List Rw) (n:Nat) (hl:l.length=n) (hn:n<20) (hs:CU l) (hv:∀ x∈l,x.v.length≤1000):FnO Tryz.prog 68 1 0 [.osl big 2 n,.pv Gg] [(big,di l)] (fun v ob'=>v= .tup []∧ob'=ar [(big,di l)]):=by
 refine FnO.of func68 rfl ntmps68 (by simp) fun m0 w0 F R0=>?_
 have hst:=AP l n hl hn hs hv
 refine Z4 rfl rfl rfl rfl rfl ?_
 refine Rs 8 rfl rfl (ah [big] 0 call110 hst rfl rfl rfl rfl ⟨rfl,trivial⟩ (by decide) rfl) ?_
 exact ⟨[],[(big,di l)],[],Io trivial (aO (by kernel_rfl)) rfl rfl,rfl,rfl,rfl,rfl,rfl⟩
end
section
open Go.RowKit Mk Jn
set_option maxHeartbeats 4000000
section
variable {C:Ctx} {n:Nat} {σ:St} {ty:TypeId} {pos:String} {after:Array Edge} {gd:Option (Nat×Bool)} {x y:Operand}
theorem wD {T T':TypeId} {id off k:Nat} {cs vs:List PV} (hk:b6 C.P T k) (hx:σ.ev n x= .ptr id off) (ho:σ.ob id=some (.cells T' cs)) (hv:σ.ev n y= .pv (.agg vs)) (hlen:vs.length=k) (hlf:∀ c∈vs,c.leaf=true) (hle:off+k≤cs.length):
  XJ C n ⟨none,.store T x y,ty,pos,after,gd⟩ σ ⟨.pv .any,[(id,some (.cells T' (eY cs off vs)))],[]⟩:=by
 rintro a w Q ⟨m,R,hw⟩
 obtain ⟨b,N,he,hm,arr,hb,hN,hle',hr⟩:=hw.ptr hx ho
 have hrel:=hw.pv hv
 simp only [RelP] at hrel
 obtain ⟨us,hev,hus⟩:=hrel
 have hcl:(a.eval y).cells=us.toArray:=by rw [hev];rfl
 have hul:us.length=k:=by rw [hus.length,hlen]
 have hrun:=gv (P:=C.P) (T:=T) (u:=a.eval y) (off:=off) hb (by rw [hcl,List.size_toArray,hul];exact hk) (by rw [hcl,List.size_toArray];omega) (by rw [hcl];simpa using bU hus hlf)
 unfold Oper.wp
 have hrun':(execOp a.eval ⟨none,.store T x y,ty,pos,after,gd⟩).run C.P w= .ok .skip (w.setRow b (eY arr.toList off us).toArray):=by
  simp only [execOp,he,Sem.run_bind,hrun,Result.andThen_ok,Sem.run_pure,hcl]
 rw [hrun']
 refine ⟨_,rfl,m,R,?_⟩
 refine hw.store hm arr _ T' hb (by simp only [List.size_toArray];rw [bd _ _ _ (by simp;omega)];simpa using hN) _ ?_
 intro w' hR hb'
 refine ⟨_,hb',by simp only [List.size_toArray];rw [bd _ _ _ (by simp;omega)];simpa using hN,by rw [bd _ _ _ (by omega)];exact hle',?_⟩
 rw [bd cs off vs (by omega)]
 have e:(eY arr.toList off us).toArray.toList.take cs.length=eY (arr.toList.take cs.length) off us:=by
  simp only [eY]
  exact gn _ _ _ _ (by first | omega | (simp;omega)) (by first | omega | (simp;omega))
 rw [e]
 have:RelPL w R (eY cs off vs) (eY (arr.toList.take cs.length) off us):=by
  show RelPL w R (cs.take off++vs++cs.drop (off+vs.length)) (_++us++_)
  rw [← hus.length]
  exact ((hr.take off).append hus).append (hr.drop _)
 exact this.mono hR
end
theorem sb (a b:List ByteArray) (ha:a.length≤1000000) (hb:b.length≤1000000):FnP Tryz.prog 69 [aI a,aI b] (· = .bool (decide (a=b))):=by
 refine FnP.of func69 rfl ntmps69 (by simp) fun m0 w0 F R0=>?_
 refine Z1 rfl rfl ?_
 refine Gr rfl ?_
 iterate 5 refine A1 rfl ?_
 refine Gc rfl rfl (fun hc10=>?_) (fun hc10=>?_)
 ·refine Z1 rfl rfl ?_
  refine Gt rfl ?_
  exact ⟨_,_,rfl,rfl,congrArg PV.bool (decide_eq_false (fun e=>by rw [e] at hc10;simp at hc10)).symm⟩
 ·have hl:a.length=b.length:=by simp at hc10;omega
  refine Il ?_
  refine Z3 rfl rfl rfl rfl ?_
  refine Gl rfl (st:=fun x_0:Nat=>mkS [(0,.pv (aI a)),(1,.pv (aI b)),(12,.pv (.int .i64 a.length)),(13,.pv (.int .i64 x_0))] [] 0)
   (I:=fun x_0=>x_0≤a.length∧a.take x_0=b.take x_0) (μ:=fun x_0=>a.length-x_0) (x0:=(0)) (Io (aS rfl) trivial rfl rfl) (⟨Nat.zero_le _,rfl⟩) ?_
  rintro i ⟨hi,ht⟩
  refine Z1 rfl rfl ?_
  refine Gp rfl rfl (fun hc14=>?_) (fun hc14=>?_)
  ·have ha1:i<a.length:=by omega
   have hb1:i<b.length:=by omega
   have va:=aM ha1
   have na:=bc ha1
   have vb:=aM hb1
   have nb:=bc hb1
   refine Il ?_
   refine Z2 rfl rfl rfl ?_
   refine Ge rfl follows [0,1,2,3,4,5,6,7,8] (by kernel_rfl) ?_
   iterate 3 refine D1 rfl rfl ?_
   first | refine D2 rfl rfl (by assumption) ?_ | refine D1 rfl rfl ?_
   iterate 3 refine D1 rfl rfl ?_
   first | refine D2 rfl rfl (by assumption) ?_ | refine D1 rfl rfl ?_
   refine D1 rfl rfl ?_
   refine ⟨by kernel_rfl,?_⟩
   refine Gc rfl rfl (fun hc24=>?_) (fun hc24=>?_)
   ·refine Z1 rfl rfl ?_
    refine Gt rfl ?_
    exact ⟨_,_,rfl,rfl,congrArg PV.bool (decide_eq_false (fun e=>by subst e;simp at hc24)).symm⟩
   ·refine Il ?_
    refine Z2 rfl rfl rfl ?_
    exact ⟨(i+1),Io (aS rfl) trivial rfl rfl,⟨by omega,by rw [List.take_succ_eq_append_getElem ha1,List.take_succ_eq_append_getElem hb1,ht,show a[i]=b[i] from baT (by simpa using hc24)]⟩,by omega⟩
  ·refine Gx rfl ?_
   refine Z1 rfl rfl ?_
   refine Gt rfl ?_
   exact ⟨_,_,rfl,rfl,congrArg PV.bool (decide_eq_true (by rwa [List.take_of_length_le (by omega),List.take_of_length_le (by omega)] at ht)).symm⟩
theorem lS (x:Rw):FnP Tryz.prog 71 [sJ x] (· = .bool (x.w==0)):=by
 refine FnP.of func71 rfl ntmps71 (by simp) fun m0 w0 F R0=>?_
 refine Z2 rfl rfl rfl ?_
 refine Z4 rfl rfl rfl rfl rfl ?_
 refine Gt rfl ?_
 exact ⟨_,_,rfl,rfl,rfl⟩
theorem su (x:Rw):FnP Tryz.prog 67 [sJ x] (· = .bool (decide (x.w<0)||decide (x.w>100))):=by
 refine FnP.of func67 rfl ntmps67 (by simp) fun m0 w0 F R0=>?_
 refine Z2 rfl rfl rfl ?_
 refine Z4 rfl rfl rfl rfl rfl ?_
 apply Ix 4 6 10 [7,8,9] rfl (by first | exact ax.le | exact ax.aw | exact Iv)
 ·intro hb3
  iterate 4 refine A1 rfl ?_
  exact Iq (Ik (Ik (Ik (Ik (Ik (fEq.refl) rfl) rfl) rfl) rfl) rfl) rfl rfl rfl
 ·intro hb3
  iterate 4 refine A1 rfl ?_
  exact Iq (Ik (Ik (Ik (Ik (Ik (fEq.refl) rfl) rfl) rfl) rfl) rfl) rfl rfl rfl
 refine A1 rfl ?_
 refine Gt rfl ?_
 exact ⟨_,_,rfl,rfl,rfl⟩
theorem vx (l:List Rw) (hl:l.length≤1000) (g:FuncId) (p:Rw→Bool) (hc:bN Tryz.prog g) (hg:∀ x∈l,FnP Tryz.prog g ([]++[sJ x]++[]) (· = .bool (p x))):∃ i:Int,decide (i≥0)=l.any p∧FnP Tryz.prog 109 [bL l,.fn (.func g) [] []] (· = .int .i64 i):=by
 obtain ⟨i,hi,hi1,hi2⟩:=jg l p
 refine ⟨i,hi,?_⟩
 refine FnP.of func109 rfl ntmps109 (by simp) fun m0 w0 F R0=>?_
 refine Z1 rfl rfl ?_
 refine Z3 rfl rfl rfl rfl ?_
 refine Gl rfl (st:=fun x_0:Nat=>mkS [(0,.pv (bL l)),(1,.pv (.fn (.func g) [] [])),(7,.pv (.int .i64 l.length)),(8,.pv (.int .i64 x_0))] [] 0)
  (I:=fun x_0=>x_0≤l.length∧∀ j (h:j<l.length),j<x_0→p l[j]=false) (μ:=fun x_0=>l.length-x_0) (x0:=(0)) (Io (aS rfl) trivial rfl rfl) (⟨Nat.zero_le _,fun _ _ h=>absurd h (by omega)⟩) ?_
 rintro k ⟨hk,hno⟩
 refine Z1 rfl rfl ?_
 refine Gp rfl rfl (fun hc9=>?_) (fun hc9=>?_)
 ·have hlt:k<l.length:=by omega
  have hrw:=aN hlt
  have hrn:=aW hlt
  have hgk:=hg _ (List.getElem_mem hlt)
  have hik:=hi1 k hlt
  generalize hbk:p l[k]=b at*
  refine Il ?_
  refine Z2 rfl rfl rfl ?_
  refine Z4 rfl rfl rfl rfl rfl ?_
  first | refine A3 rfl (by assumption) ?_ | refine A1 rfl ?_
  refine Rs 16 rfl rfl (bb hc rfl hgk rfl) ?_
  refine Gc rfl rfl (fun hc16=>?_) (fun hc16=>?_)
  ·refine Z2 rfl rfl rfl ?_
   refine Gt rfl ?_
   exact ⟨_,_,rfl,rfl,by rw [hik hc16 hno];rfl⟩
  ·refine Il ?_
   refine Z2 rfl rfl rfl ?_
   exact ⟨(k+1),Io (aS rfl) trivial rfl rfl,⟨by omega,fun j h hj=>by rcases Nat.lt_succ_iff_lt_or_eq.1 hj with h1 | h1;exact hno j h h1;subst h1;exact hbk.trans hc16⟩,by omega⟩
 ·have hm:=hi2 fun j h=>hno j h (by omega)
  refine Gx rfl ?_
  refine Z1 rfl rfl ?_
  refine Gt rfl ?_
  exact ⟨_,_,rfl,rfl,by rw [hm];rfl⟩
theorem v8 (l:List Rw) (hl:l.length≤1000) (g:FuncId) (p:Rw→Bool) (hc:bN Tryz.prog g) (hg:∀ x∈l,FnP Tryz.prog g ([]++[sJ x]++[]) (· = .bool (p x))):FnP Tryz.prog 66 [bL l,.fn (.func g) [] []] (· = .bool (l.any p)):=by
 obtain ⟨i,hi,hx⟩:=vx l hl g p hc hg
 refine FnP.of func66 rfl ntmps66 (by simp) fun m0 w0 F R0=>?_
 refine Z1 rfl rfl ?_
 refine Z2 rfl rfl rfl ?_
 refine Rs 7 rfl rfl (ae call109 hx rfl) ?_
 refine Y2 rfl rfl ?_
 refine Gt rfl ?_
 exact ⟨_,_,rfl,rfl,congrArg PV.bool hi⟩
def isZ (x:Rw):Bool:=x.w==0
abbrev zF:PV:= .fn (.func 71) [] []
theorem xa (l:List Rw) (n:Nat) (hln:l.length=n) (hn:n≤1000) (i:Int)
  (hi1:∀ k (h:k<l.length),isZ l[k]=true→(∀ j (h:j<l.length),j<k→isZ l[j]=false)→i=k) (hi2:(∀ j (h:j<l.length),isZ l[j]=false)→i= -1):FnO Tryz.prog 109 1 0 [.osl big 2 n,.pv zF] [(big,di l)] (fun v ob'=>v= .pv (.int .i64 i)∧ob'=ar [(big,di l)]):=by
 refine FnO.of func109 rfl ntmps109 (by simp) fun m0 w0 F R0=>?_
 refine Z1 rfl rfl ?_
 refine Z3 rfl rfl rfl rfl ?_
 refine Gl rfl (st:=fun x_0:Nat=>mkS [(0,.osl big 2 n),(1,.pv zF),(7,.pv (.int .i64 n)),(8,.pv (.int .i64 x_0))] [(big,di l)] 0)
  (I:=fun x_0=>x_0≤n∧∀ j (h:j<l.length),j<x_0→isZ l[j]=false) (μ:=fun x_0=>n-x_0) (x0:=(0)) (Io (aS rfl) (aO (by kernel_rfl)) rfl rfl) (⟨Nat.zero_le _,fun _ _ h=>absurd h (by omega)⟩) ?_
 rintro k ⟨hk,hno⟩
 refine Z1 rfl rfl ?_
 refine Gp rfl rfl (fun hc9=>?_) (fun hc9=>?_)
 ·have hlt:k<l.length:=by omega
  have hrw:=aN hlt
  have hgk:=lS l[k]
  rw [show (l[k].w==0)=isZ l[k] from rfl] at hgk
  have hik:=hi1 k hlt
  generalize hbk:isZ l[k]=b at*
  refine Il ?_
  refine Z2 rfl rfl rfl ?_
  refine Z3 rfl rfl rfl rfl ?_
  refine Rs 14 rfl rfl (aa k underlying38 lM rfl rfl rfl rfl (by omega)) ?_
  first | refine A3 rfl (by assumption) ?_ | refine A1 rfl ?_
  refine Rs 16 rfl rfl (bb call71 rfl hgk rfl) ?_
  refine Gc rfl rfl (fun hc16=>?_) (fun hc16=>?_)
  ·refine Z2 rfl rfl rfl ?_
   refine Gt rfl ?_
   exact ⟨[(4,.pv (.int .i64 k))],[(big,di l)],[.pv (.int .i64 k)],Io (aS rfl) (aO (by kernel_rfl)) rfl rfl,rfl,rfl,rfl,by rw [hik hc16 hno];rfl,rfl⟩
  ·refine Il ?_
   refine Z2 rfl rfl rfl ?_
   exact ⟨(k+1),Io (aS rfl) (aO (by kernel_rfl)) rfl rfl,⟨by omega,fun j h hj=>by rcases Nat.lt_succ_iff_lt_or_eq.1 hj with h1 | h1;exact hno j h h1;subst h1;exact hbk.trans hc16⟩,by omega⟩
 ·have hm:=hi2 fun j h=>hno j h (by omega)
  refine Gx rfl ?_
  refine Z1 rfl rfl ?_
  refine Gt rfl ?_
  exact ⟨[(4,.pv (.int .i64 (-1)))],[(big,di l)],[.pv (.int .i64 (-1))],Io (aS rfl) (aO (by kernel_rfl)) rfl rfl,rfl,rfl,rfl,by rw [hm];rfl,rfl⟩
theorem AQ {l:List Rw} {k:Nat} (h:k<l.length) (x:Rw):(((aB l).take (k*2))++eV x++(aB l).drop (k*2+2))=aB (l.set k x):=by
 rw [List.set_eq_take_append_cons_drop,if_pos h,fj,(fu l k).1,show k*2+2=(k+1)*2 by omega,(fu l (k+1)).2,List.append_assoc];rfl
theorem rF (l:List Rw) (n:Nat) (hln:l.length=n) (hn1:n≤1000):FnO Tryz.prog 70 1 0 [.osl big 2 n,.pv zF] [(big,di l)] (fun v ob'=>v= .osl big 2 (l.filter fun x=> !isZ x).length∧ob'=ar [(big,di (l.filter fun x=> !isZ x))]):=by
 obtain ⟨i,hi,hi1,hi2⟩:=jg l isZ
 obtain ⟨hia,hib⟩:=sH hi hi1 hi2
 have hidx:=xa l n hln hn1 i hi1 hi2
 refine FnO.of func70 rfl ntmps70 (by simp) fun m0 w0 F R0=>?_
 clear hi hi1 hi2
 refine Z1 rfl rfl ?_
 refine Z2 rfl rfl rfl ?_
 refine Rs 10 rfl rfl (ah [big] 0 call109 hidx rfl rfl rfl rfl ⟨rfl,trivial⟩ (by decide) rfl) ?_
 refine A1 rfl ?_
 refine Z2 rfl rfl rfl ?_
 refine Gc rfl rfl (fun hc12=>?_) (fun hc12=>?_)
 ·have hie:i= -1:=by simpa using hc12
  have hf:(l.filter fun x=> !isZ x)=l:=List.filter_eq_self.2 fun x hx=>by rw [hia hie x hx];rfl
  refine Z2 rfl rfl rfl ?_
  refine Gt rfl ?_
  exact ⟨[(4,.osl big 2 n)],[(big,di l)],[.osl big 2 n],Io (aS rfl) (aO (by kernel_rfl)) rfl rfl,rfl,rfl,rfl,by rw [hf,hln];rfl,by rw [hf]⟩
 ·have hne:¬ i= -1:=by intro e;rw [e] at hc12;simp at hc12
  obtain ⟨i0,rfl,hi0,hft⟩:=hib hne
  refine Il ?_
  refine Z3 rfl rfl rfl rfl ?_
  refine Gl rfl (st:=fun x_0:Nat×Nat×List Rw=>mkS [(0,.osl big 2 n),(1,.pv zF),(5,.pv (.int .i64 x_0.2.1)),(6,.pv (.int .i64 x_0.1))] [(big,di x_0.2.2)] 0)
   (I:=fun x_0=>((x_0.1≤n∧x_0.2.1<x_0.1)∧x_0.2.2.length=n)∧(x_0.2.2.drop x_0.1=l.drop x_0.1∧x_0.2.2.take x_0.2.1=(l.take x_0.1).filter fun x=> !isZ x)∧x_0.2.1=((l.take x_0.1).filter fun x=> !isZ x).length) (μ:=fun x_0=>n-x_0.1) (x0:=(i0+1,i0,l)) (Io (aS rfl) (aO (by kernel_rfl)) rfl rfl) (⟨⟨⟨by simp only;omega,by simp only;omega⟩,hln⟩,⟨rfl,by simp only;rw [hft]⟩,by simp only;rw [hft,List.length_take];omega⟩) ?_
  rintro ⟨k,m,q⟩ ⟨⟨⟨hk,hmk⟩,hql⟩,⟨hqd,hqt⟩,hme⟩
  try simp only at hk hmk hql hqd hqt hme ⊢
  have hqln:(aB q).length=n*2:=by rw [aK,hql]
  refine Z4 rfl rfl rfl rfl rfl ?_
  refine Gp rfl rfl (fun hc19=>?_) (fun hc19=>?_)
  ·have hlt:k<l.length:=by omega
   have hq0:q[k]'(by omega)=l[k]:=by have:=congrArg (fun z=>z[0]?) hqd;simp only [List.getElem?_drop,Nat.add_zero] at this;rw [List.getElem?_eq_getElem (by omega),List.getElem?_eq_getElem hlt] at this;exact Option.some.inj this
   have hv:((aB q).drop (k*2)).take 2=eV l[k]:=by rw [aN (show k<q.length by omega),hq0]
   have hgk:=lS l[k]
   rw [show (l[k].w==0)=isZ l[k] from rfl] at hgk
   have hdrop:q.drop (k+1)=l.drop (k+1):=by have:=congrArg (fun z=>z.drop 1) hqd;simpa only [List.drop_drop] using this
   have hfs:(l.take (k+1)).filter (fun x=> !isZ x)=(l.take k).filter (fun x=> !isZ x)++if isZ l[k]=true then [] else [l[k]]:=by rw [List.take_succ_eq_append_getElem hlt];exact kR _ _ _
   generalize hbk:isZ l[k]=b at*
   have hput:=AQ (show m<q.length by omega) l[k]
   generalize l[k]=x at*
   refine Il ?_
   refine Z2 rfl rfl rfl ?_
   refine Rs 24 rfl rfl (aa k underlying38 lM rfl rfl rfl rfl (by omega)) ?_
   first | refine A3 rfl (by assumption) ?_ | refine A1 rfl ?_
   refine Y2 rfl rfl ?_
   refine Z2 rfl rfl rfl ?_
   refine Rs 28 rfl rfl (bb call71 rfl hgk rfl) ?_
   refine A1 rfl ?_
   refine Gc rfl rfl (fun hc29=>?_) (fun hc29=>?_)
   ·refine Z3 rfl rfl rfl rfl ?_
    refine Rs 33 rfl rfl (aa m underlying38 lM rfl rfl rfl rfl (by omega)) ?_
    refine RL.step (d:=none) rfl rfl (wD lM rfl rfl rfl rfl (by simp;exact ⟨rfl,rfl⟩) (by omega)) ?_
    refine Z3 rfl rfl rfl rfl ?_
    refine Z3 rfl rfl rfl rfl ?_
    exact ⟨(k+1,m+1,q.set m x),Io (aS rfl) ⟨Eq.trans (b:=some (Ob.cells 49 ((aB q).take (m*2)++eV x++(aB q).drop (m*2+2)))) (by kernel_rfl) (congrArg (fun c=>some (Ob.cells 49 c)) hput),trivial⟩ rfl rfl,⟨⟨⟨by simp only;omega,by simp only;omega⟩,by simp only [List.length_set];exact hql⟩,⟨by simp only;rw [List.drop_set_of_lt (by omega)];exact hdrop,by simp only;rw [hfs,if_neg (by intro e;rw [e] at hc29;simp at hc29), ← hqt];exact du (by omega)⟩,by simp only;rw [hfs,if_neg (by intro e;rw [e] at hc29;simp at hc29),List.length_append, ← hme];rfl⟩,by simp only;omega⟩
   ·refine Il ?_
    refine Z3 rfl rfl rfl rfl ?_
    exact ⟨(k+1,m,q),Io (aS rfl) (aO (by kernel_rfl)) rfl rfl,⟨⟨⟨by simp only;omega,by simp only;omega⟩,hql⟩,⟨hdrop,by simp only;rw [hfs,if_pos (by simpa using hc29),List.append_nil];exact hqt⟩,by simp only;rw [hfs,if_pos (by simpa using hc29),List.append_nil];exact hme⟩,by simp only;omega⟩
  ·have hkn:l.take k=l:=List.take_of_length_le (by omega)
   rw [hkn] at hqt hme
   have hfin:(aB q).take (m*2)=aB (l.filter fun x=> !isZ x):=by rw [(fu q m).1,hqt]
   refine Gx rfl ?_
   refine Z2 rfl rfl rfl ?_
   refine Rs 38 rfl rfl (dK m underlying38 lM rfl rfl rfl rfl (by omega)) ?_
   refine RL.step (d:=none) rfl rfl (vv xi (by decide) rfl rfl (by omega)) ?_
   refine Z2 rfl rfl rfl ?_
   refine Rs 41 rfl rfl (dC m underlying38 lM rfl rfl rfl rfl (by omega)) ?_
   refine A1 rfl ?_
   refine Gt rfl ?_
   exact ⟨[(4,.osl big 2 m)],[(big,di (l.filter fun x=> !isZ x))],[.osl big 2 m],Io (aS rfl) ⟨Eq.trans (b:=some (Ob.cells 49 ((aB q).take (m*2)))) (by kernel_rfl) (congrArg (fun c=>some (Ob.cells 49 c)) hfin),trivial⟩ rfl rfl,rfl,rfl,rfl,by rw [hme];rfl,rfl⟩
end
section
open Go.RowKit Mk Jn
set_option maxHeartbeats 4000000
def mgR (out:List Rw) (x:Rw):List Rw:=if h:0<out.length then (if out[out.length-1].v=x.v then out.set (out.length-1) ⟨out[out.length-1].v,out[out.length-1].w+x.w⟩ else out++[x]) else out++[x]
structure MgI (out:List Rw) (k:Nat):Prop where
 n:out.length≤k
 v:∀ y∈out,y.v.length≤1000
 w:∀ y∈out, -(1000000*(k:Int))≤y.w∧y.w≤1000000*(k:Int)
 z:0<k→0<out.length
theorem MgI.put {out:List Rw} {k:Nat} (h:MgI out k) {x:Rw} (hv:x.v.length≤1000) (hw: -1000000≤x.w∧x.w≤1000000):MgI (out++[x]) (k+1):=by
 refine ⟨by simp only [List.length_append,List.length_singleton];have:=h.n;omega,fun y hy=>?_,fun y hy=>?_,fun _=>by simp⟩
 ·rw [List.mem_append,List.mem_singleton] at hy
  rcases hy with hy | rfl
  ·exact h.v y hy
  ·exact hv
 ·rw [List.mem_append,List.mem_singleton] at hy
  rcases hy with hy | rfl
  ·have:=h.w y hy;omega
  ·omega
theorem MgI.set {out:List Rw} {k:Nat} (h:MgI out k) {i:Nat} (hi:i<out.length) {w:Int} (hw: -1000000≤w∧w≤1000000):MgI (out.set i ⟨out[i].v,out[i].w+w⟩) (k+1):=by
 refine ⟨by simp only [List.length_set];have:=h.n;omega,fun y hy=>?_,fun y hy=>?_,fun _=>by simp only [List.length_set];omega⟩
 ·rcases List.mem_or_eq_of_mem_set hy with hy | rfl
  ·exact h.v y hy
  ·show out[i].v.length≤1000
   exact h.v _ (List.getElem_mem hi)
 ·rcases List.mem_or_eq_of_mem_set hy with hy | rfl
  ·have:=h.w y hy;omega
  ·have:=h.w _ (List.getElem_mem hi);simp only;omega
theorem wK (l:List Rw) (h0:l≠[]) (hn:l.length<20) (hs:CU l) (hv:∀ x∈l,x.v.length≤1000) (hw:∀ x∈l, -1000000≤x.w∧x.w≤1000000):FnP Tryz.prog 25 [bL l] (· =bL ((l.foldl mgR []).filter fun x=> !isZ x)):=by
 refine FnP.fg2 (FnP.of func25 rfl ntmps25 (by simp) fun m0 w0 F R0=>?_)
 have hcp:=mw l 1 (by omega) hv (fun x hx=>by have:=hw x hx;omega)
 rw [iT] at hcp
 have hst:=rX l l.length rfl hn hs hv
 have hlp:0<l.length:=List.length_pos_iff.2 h0
 have hlc:aB l≠[]:=aW hlp
 have hll:=aK l
 refine Z1 rfl rfl ?_
 refine Z1 rfl rfl ?_
 refine Rs 9 rfl rfl (ah [] 0 call65 hcp rfl rfl rfl rfl trivial (by decide) rfl) ?_
 refine A1 rfl ?_
 refine Im (St.ku 3 rfl rfl hlp hlc) ?_
 refine Wk [(3,.osl 0 2 l.length)] [(0,di l)] 1 (aS (by kernel_rfl)) (aO (by kernel_rfl)) rfl rfl ?_
 refine Z1 rfl rfl ?_
 refine Rs 11 rfl rfl (ah [0] 1 call68 hst rfl rfl rfl rfl ⟨rfl,trivial⟩ (by decide) rfl) ?_
 refine Z1 rfl rfl ?_
 refine Im (Iu 4 1 2 49 rfl rfl) ?_
 refine Z3 rfl rfl rfl rfl ?_
 refine Gl rfl (st:=fun x_0:Nat×List Rw=>mkS [(4,.gsl 1 2 x_0.2.length),(12,.osl 0 2 l.length),(13,.pv (.int .i64 l.length)),(14,.pv (.int .i64 x_0.1))] [(0,di l),(1,.gro 49 (aB x_0.2))] 2)
  (I:=fun x_0=>(x_0.1≤l.length∧MgI x_0.2 x_0.1)∧x_0.2=(l.take x_0.1).foldl mgR []) (μ:=fun x_0=>l.length-x_0.1) (x0:=(0,[])) (Io (aS rfl) (aO (by kernel_rfl)) rfl rfl) (⟨⟨Nat.zero_le _,⟨Nat.le_refl _,fun _ h=>by simp at h,fun _ h=>by simp at h,fun h=>absurd h (by simp)⟩⟩,rfl⟩) ?_
 rintro ⟨k,out⟩ ⟨⟨hk,hI⟩,ho⟩
 try simp only at hk hI ho ⊢
 have hol:=aK out
 refine Z1 rfl rfl ?_
 refine Gp rfl rfl (fun hc15=>?_) (fun hc15=>?_)
 ·have hlt:k<l.length:=by omega
  have hrow:=aN hlt
  have hxv:=hv _ (List.getElem_mem hlt)
  have hxw:=hw _ (List.getElem_mem hlt)
  have hfo:(l.take (k+1)).foldl mgR []=mgR out l[k]:=by rw [List.take_succ_eq_append_getElem hlt,List.foldl_append, ← ho];rfl
  have hpu:=hI.put hxv hxw
  have hse:=fun i (hi:i<out.length)=>hI.set hi hxw
  have hkn:=hI.n
  have hkw:=hI.w
  have hkv:=hI.v
  generalize l[k]=x at*
  refine Il ?_
  refine Gr rfl ?_
  refine Rs 16 rfl rfl (aa k underlying38 lM rfl rfl rfl rfl (by omega)) ?_
  first | refine A3 rfl (by assumption) ?_ | refine A1 rfl ?_
  refine Y2 rfl rfl ?_
  refine Z3 rfl rfl rfl rfl ?_
  by_cases he:out=[]
  ·refine Ge rfl follows [0,1,2,3,4,5,6,7,8,9,10,11,12] (by kernel_rfl) ?_
   refine D1 rfl rfl ?_
   refine Ds 21 [] rfl rfl rfl (fun τ h=>XJ.cast (v':= .pv (.bool false)) (aQ (Ee h 0 rfl rfl) (Ee h 1 rfl rfl) rfl) (congrArg (fun b=>V.pv (.bool b)) (decide_eq_false (by rw [he];decide)))) rfl (by kernel_rfl) ?_
   iterate 11 refine D1 rfl rfl ?_
   refine ⟨by kernel_rfl,?_⟩
   refine Gc rfl rfl (fun hc32=>absurd hc32 (by simp)) (fun hc32=>?_)
   have hmg:mgR out x=out++[x]:=by unfold mgR;rw [dif_neg (by rw [he];decide)]
   have hsn2:=dW out x
   refine Il ?_
   refine Gr rfl ?_
   iterate 5 refine A1 rfl ?_
   refine Z2 rfl rfl rfl ?_
   exact ⟨(k+1,out++[x]),Ip [0,4] ⟨Eq.trans (b:=V.gsl 4 2 (out.length+1)) (by kernel_rfl) (congrArg (fun n=>V.gsl 4 2 n) (bW out x)),rfl,rfl,rfl,trivial⟩ ⟨by kernel_rfl,Eq.trans (b:=some (Ob.gro 49 (aB out++eV x))) (by kernel_rfl) (congrArg (fun c=>some (Ob.gro 49 c)) hsn2),trivial⟩ rfl rfl (by decide) rfl,⟨⟨by simp only;omega,hpu⟩,by simp only;rw [hfo,hmg]⟩,by simp only;omega⟩
  ·have hpos:0<out.length:=List.length_pos_iff.2 he
   have hcne:aB out≠[]:=aW hpos
   have hq:out.length-1<out.length:=by omega
   have hov:(aB out)[(out.length-1)*2+0]? =some (aI out[out.length-1].v):=nr hq
   have how:=s5 hq
   have hom:=List.getElem_mem hq
   have hob:=hkw _ hom
   have heq:=sb out[out.length-1].v x.v (by have:=hkv _ hom;omega) (by omega)
   refine Im (St.ku 4 rfl rfl hpos hcne) ?_
   refine Ge rfl follows [0,1,2,3,4,5,6,7,8,9,10,11,12] (by kernel_rfl) ?_
   refine D1 rfl rfl ?_
   refine Ds 21 [] rfl rfl rfl (fun τ h=>XJ.cast (v':= .pv (.bool true)) (aQ (Ee h 0 rfl rfl) (Ee h 1 rfl rfl) rfl) (congrArg (fun b=>V.pv (.bool b)) (decide_eq_true (by omega)))) rfl (by kernel_rfl) ?_
   iterate 4 refine D1 rfl rfl ?_
   refine Dg 26 [_] rfl rfl rfl rfl (fun τ h=>aa (out.length-1) underlying38 lM (Ee h 0 rfl rfl) (Eo h 0 rfl rfl) (Ee h 1 rfl rfl) (by omega) hq) rfl (by kernel_rfl) ?_
   refine D1 rfl rfl ?_
   refine Dg 28 [_] rfl rfl rfl rfl (fun τ h=>aC ⟨_,underlying47,rfl⟩ (Ee h 0 rfl rfl) (Eo h 0 rfl rfl) hov) rfl (by kernel_rfl) ?_
   iterate 2 refine D1 rfl rfl ?_
   refine Dg 31 [] rfl rfl rfl rfl (fun τ h=>ae call69 heq (h.bt rfl)) rfl (by kernel_rfl) ?_
   refine D1 rfl rfl ?_
   refine ⟨by kernel_rfl,?_⟩
   refine Gc rfl rfl (fun hc32=>?_) (fun hc32=>?_)
   ·have hee:out[out.length-1].v=x.v:=of_decide_eq_true hc32
    have hmg:mgR out x=out.set (out.length-1) ⟨out[out.length-1].v,out[out.length-1].w+x.w⟩:=by unfold mgR;rw [dif_pos hpos,if_pos hee]
    have hst9:=qu hq (out[out.length-1].w+x.w)
    have hse9:=hse _ hq
    refine Ge rfl follows [0,1,2,3,4,5,6,7,8,9,10,11] (by kernel_rfl) ?_
    iterate 3 refine D1 rfl rfl ?_
    refine Ds 36 [_] rfl rfl rfl (fun τ h=>aa (out.length-1) underlying38 lM (Ee h 0 rfl rfl) (Eo h 0 rfl rfl) (Ee h 1 rfl rfl) (by omega) hq) rfl (by kernel_rfl) ?_
    refine D1 rfl rfl ?_
    refine Ds 38 [_] rfl rfl rfl (fun τ h=>aC ⟨_,underlying3,rfl⟩ (Ee h 0 rfl rfl) (Eo h 0 rfl rfl) how) rfl (by kernel_rfl) ?_
    iterate 2 refine D1 rfl rfl ?_
    refine Ds 41 [] rfl rfl rfl (fun τ h=>zl (Ee h 0 rfl rfl) (Ee h 1 rfl rfl) (by omega)) rfl (by kernel_rfl) ?_
    refine Ds 42 [_] rfl rfl rfl (fun τ h=>aa (out.length-1) underlying38 lM (Ee h 0 rfl rfl) (Eo h 0 rfl rfl) (Ee h 1 rfl rfl) (by omega) hq) rfl (by kernel_rfl) ?_
    refine D1 rfl rfl ?_
    refine DL.step (d:=none) [_] rfl rfl rfl (fun τ h=>aF sz3 (Ee h 0 rfl rfl) (Eo h 0 rfl rfl) (Ee h 1 rfl rfl) rfl (by first | omega | (simp;omega))) rfl (by kernel_rfl) ?_
    refine ⟨by kernel_rfl,?_⟩
    refine Im (St.pn 4 rfl rfl hpos (by intro e;have h:=congrArg List.length e;rw [List.length_set] at h;exact hcne (List.eq_nil_of_length_eq_zero h))) ?_
    refine Gx rfl ?_
    refine Z2 rfl rfl rfl ?_
    exact ⟨(k+1,out.set (out.length-1) ⟨out[out.length-1].v,out[out.length-1].w+x.w⟩),Io ⟨Eq.trans (b:=V.gsl 1 2 out.length) (by kernel_rfl) (congrArg (fun n=>V.gsl 1 2 n) (List.length_set).symm),rfl,rfl,rfl,trivial⟩ ⟨by kernel_rfl,Eq.trans (b:=some (Ob.gro 49 ((aB out).set ((out.length-1)*2+1) (.int .i64 (out[out.length-1].w+x.w))))) (by kernel_rfl) (congrArg (fun c=>some (Ob.gro 49 c)) hst9),trivial⟩ rfl rfl,⟨⟨by simp only;omega,hse9⟩,by simp only;rw [hfo,hmg]⟩,by simp only;omega⟩
   ·have hmg:mgR out x=out++[x]:=by unfold mgR;rw [dif_pos hpos,if_neg (of_decide_eq_false hc32)]
    have hsn2:=dW out x
    refine Il ?_
    refine Im (St.pn 4 rfl rfl hpos hcne) ?_
    refine Gr rfl ?_
    iterate 5 refine A1 rfl ?_
    refine Z2 rfl rfl rfl ?_
    exact ⟨(k+1,out++[x]),Ip [0,4] ⟨Eq.trans (b:=V.gsl 4 2 (out.length+1)) (by kernel_rfl) (congrArg (fun n=>V.gsl 4 2 n) (bW out x)),rfl,rfl,rfl,trivial⟩ ⟨by kernel_rfl,Eq.trans (b:=some (Ob.gro 49 (aB out++eV x))) (by kernel_rfl) (congrArg (fun c=>some (Ob.gro 49 c)) hsn2),trivial⟩ rfl rfl (by decide) rfl,⟨⟨by simp only;omega,hpu⟩,by simp only;rw [hfo,hmg]⟩,by simp only;omega⟩
 ·have hof:out=l.foldl mgR []:=by rw [ho,show l.take k=l from List.take_of_length_le (by omega)]
  have hpos:0<out.length:=hI.z (by omega)
  have hcne:aB out≠[]:=aW hpos
  have hde:=rF out out.length rfl (by have:=hI.n;omega)
  refine Im (St.ku 4 rfl rfl hpos hcne) ?_
  refine Gx rfl ?_
  refine Z1 rfl rfl ?_
  refine Rs 50 rfl rfl (ah [1] 2 call70 hde rfl rfl rfl rfl ⟨rfl,trivial⟩ (by decide) rfl) ?_
  refine A1 rfl ?_
  refine Im (Ir 1 rfl rfl) ?_
  refine Gt rfl ?_
  exact ⟨_,_,rfl,rfl,by rw [hof];rfl⟩
end
section
open Go.RowKit Go.Sort Go.Lib
theorem H8 (w:World) (T:TypeId) (nd:Nat) (hs:nd≤24):Holds (fun (b:UInt8)=>Value.int .u8 (b.toNat:Int)) (w.alloc (.cells zeros24 T)) w.heap.size 0 (Array.replicate nd (0:UInt8)):=fun j hj=>by
 have hj':j<nd:=by simpa using hj
 refine ⟨?_,World.frozen?_alloc_new _ _ _ _⟩
 rw [World.cell?_alloc_new,zeros24_at _ (by omega),getElem!_pos _ j hj]
 simp
theorem fin0 (w:World) (o:Obj) (dk:Array UInt8) (k:Nat):∃ os,(putRow (fun (b:UInt8)=>Value.int .u8 (b.toNat:Int)) (w.alloc o) w.heap.size 0 dk).drewN k=grow (w.drewN k) os:=by
 rw [alloc_eq_grow]
 obtain ⟨os',_,e⟩:=putRow_grow_new (fun (b:UInt8)=>Value.int .u8 (b.toNat:Int)) w #[o] w.heap.size 0 dk (Nat.le_refl _)
 exact ⟨os',by rw [e];rfl⟩
set_option maxHeartbeats 6400000
theorem pB (u:Nat) (hu64:u<18446744073709551616) (w:World) (htab:Lib.TabIs Tryz.prog w "internal/strconv.uint64pow10" .u64 Lib.pow10Tab):
  Calls Tryz.prog 166 #[.int .u64 u,.int .i64 10] w fun e w'=>e= .returned (.string ⟨(Lib.decDigits u).toArray⟩)∧∃ k os,w'=grow (w.drewN k) os:=by
 by_cases hs:u<100
 ·have hwr:IntKind.i64.wrap (u:Int)=(u:Int):=eT (by omega)
  have hlt:((u:Int)<100):=by omega
  go_enter func166,ntmps166
  go_wp2_with (fail)
  refine (Tryz.internal_strconv_small u hs _).mono ?_
  rintro e w' ⟨rfl,rfl⟩
  go_wp2
  go_ret
  exact ⟨rfl,0, #[],by simp [World.drewN_zero]⟩
 ·have hu1:1≤u:=by omega
  have hge:¬ ((u:Int)<100):=by omega
  have hnd20:Lib.nDigits u≤20:=by have:=Lib.numDigits_eq u hu1 hu64;split at this<;>omega
  have hb3:Lib.nDigits u≤23:=by omega
  have hal:Tryz.prog.arrayLen 255=24:=by simp [Program.arrayLen,underlying255]
  have hsl1:∀ W,(Instr.sliceAt 255 (.pointer (some ⟨w.heap.size,0,none⟩)) none (some (.int .i64 (Lib.nDigits u:Int))) none).run Tryz.prog W= .ok (.slice (some ⟨w.heap.size,0,none⟩) (Lib.nDigits u) 24) W:=fun W=>by
   rw [run_sliceAt_array_h W 255 ⟨w.heap.size,0,none⟩ (by simp [Program.arrayLen,Program.elem,underlying255]) .i64 (Lib.nDigits u:Int) (by omega) (by rw [hal];omega)]
   go_simp
  have hH0:=H8 w 255 (Lib.nDigits u) (by omega)
  have hfmt:=Tryz.internal_strconv_formatBase10 w.heap.size 0 24 u (Array.replicate (Lib.nDigits u) 0) (w.alloc (.cells Lib.zeros24 255)) hH0 (by rw [Array.size_replicate];exact Lib.lt_pow_nDigits u) hu64 (by rw [Array.size_replicate];omega)
  rw [Array.size_replicate] at hfmt
  have HH0:=Lib.hid hH0
  clear hH0 hal
  go_enter func166,ntmps166
  go_wp2_with (fail)
  refine (Tryz.internal_strconv_numDigits u hu1 hu64 _ (Lib.tabIs_alloc htab _)).mono ?_
  rintro e w' ⟨rfl,rfl⟩
  go_wp2_with (fail)
  refine hfmt.mono ?_
  rintro e w' ⟨rfl,k,v',dk,rfl,hF⟩
  have hcv:(convert 163 9 (.slice (some ⟨w.heap.size,0,none⟩) (Lib.nDigits u) 24)).run Tryz.prog ((putRow (fun (b:UInt8)=>Value.int .u8 (b.toNat:Int)) (w.alloc (.cells Lib.zeros24 255)) w.heap.size 0 dk).drewN k)= .ok (.string ⟨(Lib.decDigits u).toArray⟩) ((putRow (fun (b:UInt8)=>Value.int .u8 (b.toNat:Int)) (w.alloc (.cells Lib.zeros24 255)) w.heap.size 0 dk).drewN k):=by
   have h:=run_convert_bytes_back (P:=Tryz.prog) ((putRow (fun (b:UInt8)=>Value.int .u8 (b.toNat:Int)) (w.alloc (.cells Lib.zeros24 255)) w.heap.size 0 dk).drewN k) 163 9 5 ⟨w.heap.size,0,none⟩ 24 (Lib.decDigits u) underlying163 underlying5 underlying9 (fun j hj=>by
    rw [Lib.row_is_numeral hF j hj,Lib.add_plain,World.cell?_drewN]
    exact cell?_putRow (fun (b:UInt8)=>Value.int .u8 (b.toNat:Int)) _ w.heap.size 0 _ dk HH0.out (by rw [hF.size,Array.size_replicate]) j (by rw [hF.size];rw [Lib.decDigits_length] at hj;exact hj))
   rw [Lib.decDigits_length] at h
   exact h
  go_wp2
  go_ret
  obtain ⟨os,eo⟩:=fin0 w (.cells Lib.zeros24 255) dk k
  exact ⟨rfl,k,os,eo⟩
theorem nE (u:Nat) (hu64:u<18446744073709551616):FnP Tryz.prog 106 [.int .u64 u,.int .i64 10] (· = .str ⟨(Lib.decDigits u).toArray⟩):=by
 have hin:FnP Tryz.prog 166 [.int .u64 u,.int .i64 10] (· = .str ⟨(Lib.decDigits u).toArray⟩):=by
  intro w R us hG hR hrel
  obtain ⟨v11,rfl,h11⟩:=nJ hrel
  obtain ⟨v12,rfl,h12⟩:=nJ h11
  obtain rfl:=kj h12
  exact (pB u hu64 w (GQ hG)).mono fun e w' ⟨he,k,os,hw⟩=>⟨_,_,he,rfl,by rw [hw];exact tn w k os,by simp only [RelP]⟩
 refine FnP.of func106 rfl ntmps106 (by simp) fun m0 w0 F R0=>?_
 refine Z1 rfl rfl ?_
 refine Z2 rfl rfl rfl ?_
 refine Rs 7 rfl rfl (ae call166 hin rfl) ?_
 refine A1 rfl ?_
 refine Gt rfl ?_
 exact ⟨_,_,rfl,rfl,rfl⟩
end
section
open Go.RowKit Mk Jn
set_option maxHeartbeats 4000000
section
variable {C:Ctx} {n:Nat} {σ:St} {dst:Option Tmp} {ty t t':TypeId} {pos:String} {after:Array Edge} {gd:Option (Nat×Bool)} {x y:Operand}
theorem pI {e:TypeId} {id:Nat} {s:ByteArray} (id':Nat) (he:ElemIs C.P t e (.int .u8 0) 1 1) (hu:C.P.underlying t'=some .string) (hs:σ.ev n x= .gsl id 1 0) (ho:σ.ob id=some (.gro e []))
  (hy:σ.ev n y= .pv (.str s)) (hb:s.size≤1000000000) (h0:0<s.size) (hid:σ.av id'=true):
  XJ C n ⟨dst,.call { callee:= .builtin .append,args:= #[x,y],argTypes:= #[t,t'] },ty,pos,after,gd⟩ σ ⟨.gsl id' 1 s.size,[(id',some (.gro e (az s.data.toList))),(id,none)],[id']⟩:=by
 rintro a w Q ⟨m,R,hw⟩
 obtain ⟨A0,c,hev,hkc,hcm,hz,hp⟩:=hw.gsl hs
 obtain ⟨rfl,rfl,hmn⟩:=hz rfl
 obtain ⟨i,hi,hzz,hsize,hbytes⟩:=info_parts he.info
 have hsv:a.eval y= .string s:=hw.str hy
 have h63:s.size≤maxLen:=by simp only [maxLen];omega
 have hsl:s.data.toList.length=s.size:=by rw [Array.length_toList];rfl
 have hne:az s.data.toList≠[]:=fun e=>by
  have:=congrArg List.length e
  simp only [az,List.length_map,hsl,List.length_nil] at this
  omega
 have hrun:=Go.run_append_nil_string (P:=C.P) w t t' ty e i (.int .u8 0) he.u hu hi hzz s (by omega) (by omega) (by rw [hbytes];omega)
 have hgr:w.grownBy (w.drew.alloc (.cells (s.data.map (fun b=>Value.int .u8 b.toNat)++Builtin.zeroCells (Value.int .u8 0).cells (grownCap w s.size 0 e-s.size)) e)) none:=⟨rfl,rfl,rfl,by simp,fun q hq _=>heap_alloc_old w.drew _ hq⟩
 have hge:=grownCap_ge w s.size 0 e
 have hlm:=grownCap_le_maxLen w s.size 0 e h63
 have hz1:(Value.int IntKind.u8 0).cells.size=1:=rfl
 have hg:=heap_alloc_new w.drew (.cells (s.data.map (fun b=>Value.int .u8 b.toNat)++Builtin.zeroCells (Value.int .u8 0).cells (grownCap w s.size 0 e-s.size)) e)
 have hcs':(s.data.map (fun b=>Value.int .u8 b.toNat)++Builtin.zeroCells (Value.int .u8 0).cells (grownCap w s.size 0 e-s.size)).size=grownCap w s.size 0 e:=by
  have:s.data.size=s.size:=rfl
  simp only [Array.size_append,Array.size_map,size_zeroCells,hz1];omega
 have htk:(s.data.map (fun b=>Value.int .u8 b.toNat)++Builtin.zeroCells (Value.int .u8 0).cells (grownCap w s.size 0 e-s.size)).toList.take s.size=Lib.strCells s:=by
  rw [Array.toList_append,List.take_left' (by rw [Array.length_toList,Array.size_map];rfl),Array.toList_map];rfl
 generalize (s.data.map (fun b=>Value.int .u8 b.toNat)++Builtin.zeroCells (Value.int .u8 0).cells (grownCap w s.size 0 e-s.size))=cur' at*
 generalize grownCap w s.size 0 e=c' at*
 generalize hw':w.drew.alloc (.cells cur' e)=w' at*
 have hg2:w'.heap[w.heap.size]? =some (.cells cur' e (0,0)):=hg
 unfold Oper.wp
 have hexec:(execOp a.eval ⟨dst,.call { callee:= .builtin .append,args:= #[x,y],argTypes:= #[t,t'] },ty,pos,after,gd⟩).run C.P w= .ok (.value (.slice (some ⟨w.heap.size,0,none⟩) s.size c')) w':=by
  unfold execOp
  simp only [resolve,invoke,builtin,Sem.run_bind,Sem.run_pure,Result.andThen_ok,List.map_toArray,List.map_cons,List.map_nil,hev,hsv,hrun]
 rw [hexec]
 have hcl:(az s.data.toList).length=s.size:=by simp only [az,List.length_map,hsl]
 refine ⟨_,rfl,upd (upd m id none) id' (some (w.heap.size,cur'.size)),R,?_⟩
 rw [Iw]
 have sub:∀ i x,upd m id none i=some x→m i=some x∧i≠id:=fun i x e=>by
  by_cases hi:i=id
  ·subst hi;rw [au] at e;cases e
  ·rw [aG _ _ hi] at e;exact ⟨e,hi⟩
 refine SW.put ((hw.drop id).fresh hid hg2 hgr (fun q hq=>by cases hq) (fun hh=>?_) (fun i b' N' hi e=>?_) (.inr ?_) (.gro e (az s.data.toList)) ?_ (bQ hne)) dst ?_
 ·have:=hw.hr.rsz _ hh;omega
 ·have:=(hw.hr.own i b' N' (sub i _ hi).1).1;omega
 ·have:=hw.hr.frame.size;omega
 ·intro m' av' hR _ _
  refine ⟨cur',hg2,rfl,by rw [hcl,hcs'];exact hge,?_⟩
  rw [hcl,htk]
  exact (jj s).mono hR
 ·simp only [Rel]
  refine ⟨by simp [avL],_,c',rfl,hge,hlm,fun h=>by omega,fun _ b' N' e'=>?_⟩
  rw [au] at e'
  cases e'
  exact ⟨rfl,by rw [hcs',Nat.mul_one]⟩
end
theorem w4 (s:ByteArray) (h0:0<s.size) (hb:s.size≤1000000000):FnO Tryz.prog 105 2 1 [.ptr big 0,.pv (.str s)] [(big,.mix 165 [.pv .nilptr,.gsl 1000001 1 0]),(1000001,.gro 5 [])] (fun v ob'=>v= .tup [.pv (.int .i64 s.size),.pv .niliface]∧ob'=ar [(big,.mix 165 [.ptr big 0,.gsl 0 1 s.size]),(0,.gro 5 (az s.data.toList))]):=by
 refine FnO.of func105 rfl ntmps105 (by simp) fun m0 w0 F R0=>?_
 have hcc:=u7 0 []
 refine Z2 rfl rfl rfl ?_
 refine Z1 rfl rfl ?_
 refine Rs 7 rfl rfl (ah [big,1000001] 0 call165 hcc rfl rfl rfl rfl ⟨rfl,rfl,trivial⟩ (by decide) rfl) ?_
 refine Gr rfl ?_
 iterate 6 refine A1 rfl ?_
 refine Rs 14 rfl rfl (pI 0 F4 underlying9 rfl rfl rfl hb h0 rfl) ?_
 refine Y3 rfl rfl rfl ?_
 refine Z4 rfl rfl rfl rfl rfl ?_
 refine Gt rfl ?_
 exact ⟨[(4,.pv (.int .i64 s.size)),(5,.pv .niliface)],[(big,.mix 165 [.ptr big 0,.gsl 0 1 s.size]),(0,.gro 5 (az s.data.toList))],[.pv (.int .i64 s.size),.pv .niliface],Io (aS rfl) (aO (by kernel_rfl)) rfl rfl,rfl,rfl,rfl,rfl,rfl⟩
theorem FH (n:Nat):0<(Lib.decDigits n).length:=by
 cases h:Lib.decDigits n with
 | nil=>
   exfalso
   rw [Lib.decDigits] at h
   split at h<;>simp at h
 | cons a l=>simp
theorem lF (n:Nat) (hn:n<1000000000) (hl:(Lib.decDigits n).length≤1000):FnP Tryz.prog 55 [ec (n:Int)] (· = .str ⟨(Lib.decDigits n).toArray⟩):=by
 refine FnP.of func55 rfl ntmps55 (by simp) fun m0 w0 F R0=>?_
 have hz:decide ((n:Int)<0)=false:=decide_eq_false (by omega)
 have hfu:=nE n (by omega)
 have hdp:=FH n
 rw [show ec (n:Int)= .agg [.bool false,.sl none (aj n).length (bX (aj n))] by show PV.agg [.bool (decide ((n:Int)<0)),dd ((n:Int).natAbs)]=_;rw [hz];rfl]
 by_cases h0:n=0
 ·subst h0
  rw [aV]
  refine Z2 rfl rfl rfl ?_
  refine Z4 rfl rfl rfl rfl rfl ?_
  refine Gc rfl rfl (fun hc9=>?_) (fun hc9=>absurd hc9 (by simp))
  refine Z1 rfl rfl ?_
  refine Gt rfl ?_
  exact ⟨_,_,rfl,rfl,by show PV.str ⟨#[48]⟩=_;rw [Lib.decDigits,dif_pos (by decide)];rfl⟩
 ·have hlm:aj n=[n]:=by
   rw [aj,if_neg h0,show n/1000000000=0 by omega,aV,Nat.mod_eq_of_lt hn]
  rw [hlm]
  have hg0:(bX [n])[0]? =some (.int .u64 (n:Int)):=rfl
  generalize hD:Lib.decDigits n=D at*
  have hDn:D≠[]:=fun e=>by rw [e] at hdp;simp at hdp
  have hws:=w4 ⟨D.toArray⟩ (show 0<D.length from hdp) (show D.length≤1000000000 by omega)
  have hbs:=j8 D hDn (by omega)
  refine Z2 rfl rfl rfl ?_
  refine Z4 rfl rfl rfl rfl rfl ?_
  refine Gc rfl rfl (fun hc=>absurd hc (by simp)) (fun hc=>?_)
  refine Il ?_
  refine Z1 rfl rfl ?_
  refine Im (St.er 1 1 2 1 5 rfl rfl rfl) ?_
  refine Z2 rfl rfl rfl ?_
  refine Gc rfl rfl (fun hc=>absurd hc (by simp)) (fun hc=>?_)
  refine Il ?_
  refine Gr rfl ?_
  iterate 5 refine A1 rfl ?_
  refine Gl rfl (st:=fun b:Bool=>bif b then mkS [(1,.ptr 0 0),(3,.ptr 1 0),(4,.pv (.int .i64 0))] [(0,.mix 91 [.pv (.bool false),.pv (.sl none 1 (bX [n]))]),(1,.mix 165 [.pv .nilptr,.gsl 2 1 0]),(2,.gro 5 [])] 3 else mkS [(1,.ptr 0 0),(3,.ptr 1 0),(4,.pv (.int .i64 (-1)))] [(0,.mix 91 [.pv (.bool false),.pv (.sl none 1 (bX [n]))]),(1,.mix 165 [.ptr 1 0,.gsl 2 1 D.length]),(2,.gro 5 (az D))] 3)
   (I:=fun _=>True) (μ:=fun b=>bif b then 1 else 0) (x0:=true) (Io (aS rfl) (aO rfl) rfl rfl) trivial ?_
  rintro (_ | _) _
  ·simp only [cond_false]
   refine Z2 rfl rfl rfl ?_
   refine Gp rfl rfl (fun hc=>absurd hc (by decide)) (fun hc=>?_)
   refine Gx rfl ?_
   refine Gr rfl ?_
   refine Rs 40 rfl rfl (ah [1,2] 3 call108 hbs rfl rfl rfl rfl ⟨rfl,rfl,trivial⟩ (by decide) rfl) ?_
   refine A1 rfl ?_
   refine Gt rfl ?_
   exact ⟨_,_,rfl,rfl,rfl⟩
  ·simp only [cond_true]
   refine Z2 rfl rfl rfl ?_
   refine Gp rfl rfl (fun hc=>?_) (fun hc=>absurd hc (by decide))
   refine Il ?_
   refine Z3 rfl rfl rfl rfl ?_
   refine Rs 24 rfl rfl (ag 0 underlying89 gk rfl rfl rfl (by decide) (by simp [bX])) ?_
   refine Rs 25 rfl rfl (ai ⟨_,underlying136,rfl⟩ rfl hg0) ?_
   refine Rs 26 rfl rfl (ae call106 hfu rfl) ?_
   refine A1 rfl ?_
   refine Gr rfl ?_
   iterate 6 refine A1 rfl ?_
   refine Gp rfl rfl (fun hc=>absurd hc (by simp)) (fun hc=>?_)
   refine Il ?_
   refine Z1 rfl rfl ?_
   refine Rs 39 rfl rfl (ah [1,2] 3 call105 hws rfl rfl rfl rfl ⟨rfl,rfl,trivial⟩ (by decide) rfl) ?_
   refine Z3 rfl rfl rfl rfl ?_
   exact ⟨false,Ip [0,1,3] (aT rfl) (aP (by kernel_rfl)) rfl rfl (by decide) rfl,trivial,by decide⟩
end
section
open Go.RowKit Mk Jn
set_option maxHeartbeats 4000000
def qp (S:Sch) (d:List (List Rw)) (k:Nat):List (List Rw):=(List.zipWith (fun r l=>gF S r.2 l) S.rels d).take k
def bf (S:Sch) (d:List (List Rw)):List (List Rw):=List.zipWith (fun r l=>gF S r.2 l) S.rels d
theorem wo {S:Sch} {d:List (List Rw)} (hd:d.length=S.rels.length) {k:Nat} (hk:k<S.rels.length):qp S d (k+1)=qp S d k++[gF S S.rels[k].2 (d[k]'(by omega))]:=by
 unfold qp
 rw [List.take_succ_eq_append_getElem (by simp;omega),List.getElem_zipWith]
theorem zJ {S:Sch} {d:List (List Rw)} (hd:d.length=S.rels.length):qp S d S.rels.length=bf S d:=List.take_of_length_le (by simp;omega)
theorem ya {S:Sch} {d:List (List Rw)} (hd:d.length=S.rels.length) {k:Nat} (hk:k≤S.rels.length):(qp S d k).length=k:=by
 unfold qp;simp;omega
theorem wG (S:Sch) (hS:SB S) (hV:Valid S) (hJ:SJn S) (d:List (List Rw)) (hd:d.length=S.rels.length) (hl:∀ l∈d,l.length≤1000) (hv:∀ r (h:r<d.length) (h2:r<S.rels.length),∀ x∈d[r],x.v.length=S.rels[r].2.length):
  FnO Tryz.prog 48 0 2 [.pv (gK S),.pv (dbP d)] [] (fun v ob'=>v= .ptr 0 0∧ob'=ar [(0,oX S (.pv (dbP (bf S d))) (.pv (ak (lstL S))) 1),(1,.mp [] [])]):=by
 refine FnO.of func48 rfl ntmps48 (by simp) fun m0 w0 F R0=>?_
 have hle:=(iN S hS hV).2
 have hr:=hJ.r
 have hall:=zJ hd
 generalize lstL S=lp at*
 have hdl:=dH d
 refine Z2 rfl rfl rfl ?_
 refine Ge rfl follows [0,1,2,3,4,5,6] (by kernel_rfl) ?_
 iterate 2 refine D1 rfl rfl ?_
 refine Ds 9 [] rfl rfl rfl (fun τ h=>ae call85 hle (h.bt rfl)) rfl (by kernel_rfl) ?_
 refine Ds 10 [] rfl rfl rfl (fun τ h=>fF 1 (h.n 0 _ rfl)) rfl (by kernel_rfl) ?_
 iterate 3 refine D1 rfl rfl ?_
 refine ⟨by kernel_rfl,?_⟩
 refine Im (St.er 2 4 3 1 38 rfl rfl rfl) ?_
 refine Z4 rfl rfl rfl rfl rfl ?_
 refine Gl rfl (st:=fun x_0:Nat×List (List Rw)=>mkS [(1,.pv (dbP d)),(2,.ptr 0 0),(5,.ptr 2 0),(15,.pv (.int .i64 S.rels.length)),(16,.pv (.int .i64 x_0.1))] [(0,oZ S),(1,.mp [] []),(2,oX S (.gsl 3 1 x_0.2.length) (.pv (ak lp)) 1),(3,.gro 38 (dv x_0.2))] 4)
  (I:=fun x_0=>x_0.1≤S.rels.length∧x_0.2=qp S d x_0.1) (μ:=fun x_0=>S.rels.length-x_0.1) (x0:=(0,[])) (Io (aS rfl) (aO (by kernel_rfl)) rfl rfl) (⟨Nat.zero_le _,by simp [qp]⟩) ?_
 rintro ⟨k,q⟩ ⟨hk,hq⟩
 try simp only at hk hq ⊢
 refine Z1 rfl rfl ?_
 refine Gp rfl rfl (fun hc17=>?_) (fun hc17=>?_)
 ·have hlt:k<S.rels.length:=by omega
  have hkd:k<d.length:=by omega
  have htr:=cD hkd
  have htn:=dN hkd
  have hlv:=zS S hJ k hlt d[k] (hl _ (List.getElem_mem hkd)) (hv k hkd hlt)
  have hsu:=wo hd hlt
  have hqk:=ya hd hk
  rw [← hq] at hqk hsu
  have hql:(dv q).length=q.length*1:=dH q
  have hsn:=jE q (gF S S.rels[k].2 d[k])
  generalize gF S S.rels[k].2 d[k]=lv at*
  generalize d[k]=tk at*
  refine Il ?_
  refine Z2 rfl rfl rfl ?_
  refine Ge rfl follows [0,1,2,3,4,5,6,7,8,9,10,11,12,13,14,15,16] (by kernel_rfl) ?_
  iterate 9 refine D1 rfl rfl ?_
  refine Ds 28 [] rfl rfl rfl (fun τ h=>ag k underlying36 qk (Ee h 0 rfl rfl) (Ee h 1 rfl rfl) rfl hkd htn) rfl (by kernel_rfl) ?_
  refine Ds 29 [] rfl rfl rfl (fun τ h=>ai ⟨_,underlying38,rfl⟩ (Ee h 0 rfl rfl) htr) rfl (by kernel_rfl) ?_
  refine Ds 30 [] rfl rfl rfl (fun τ h=>ae call73 hlv (h.bt rfl)) rfl (by kernel_rfl) ?_
  iterate 5 refine D1 rfl rfl ?_
  refine ⟨by kernel_rfl,?_⟩
  refine Z2 rfl rfl rfl ?_
  exact ⟨(k+1,q++[lv]),Ip [0,1,2,5] (aT rfl) ⟨by kernel_rfl,by kernel_rfl,Eq.trans (b:=some (oX S (.gsl 5 1 (q.length+1)) (.pv (ak lp)) 1)) (by kernel_rfl) (congrArg (fun n=>some (oX S (.gsl 5 1 n) (.pv (ak lp)) 1)) (bW q lv)),Eq.trans (b:=some (.gro 38 (dv q++[bL lv]))) (by kernel_rfl) (congrArg (fun c=>some (Ob.gro 38 c)) hsn),trivial⟩ rfl rfl (by decide) rfl,⟨by simp only;omega,by simp only;rw [hsu]⟩,by simp only;omega⟩
 ·have hqf:q=bf S d:=by rw [hq,show k=S.rels.length by omega,hall]
  rw [hqf]
  refine Gx rfl ?_
  refine Im (Ir 3 rfl rfl) ?_
  refine Z2 rfl rfl rfl ?_
  refine Gt rfl ?_
  exact ⟨[(4,.ptr 0 0)],[(0,oX S (.pv (dbP (bf S d))) (.pv (ak lp)) 1),(1,.mp [] [])],[.ptr 0 0],Ip [2,1] (aT rfl) (aP (by kernel_rfl)) rfl rfl (by decide) rfl,rfl,rfl,rfl,rfl,rfl⟩
end
section
open Go.RowKit Mk Jn
set_option maxHeartbeats 4000000
abbrev jrO (S:Sch) (T:List (List Rw)) (lp:List Int) (D:VD) (l:List Rw):List (Nat×Ob):=[(big,oX S (.pv (dbP T)) (.pv (ak lp)) 1000001),(1000001,.mp [.int .i64 (-1)] [ca D]),(0,.gro 49 (aB l))]
theorem DA (P:List Int):Pre P 0 s0B:=fun a=>by simp
theorem now0B (n:Nat):NowOk n s0B (List.replicate n eb):=⟨by simp,fun a h x e=>(by cases e),fun a _=>rfl⟩
theorem sy (S:Sch) (T:List (List Rw)) (lp:List Int) (pk pv:List PV) (D:VD) (hpl:pr S T lp pk pv D) (P:List Int) (hc:CtxV (jdB S T lp D) P D) (hd:∀ l∈T,l.Pairwise fun a b=>a.v≠b.v) (hw100:∀ l∈T,∀ x∈l,1≤x.w∧x.w≤100) (hr6:S.rels.length≤6) (hwa:D.wa=aD P) (hho:∀ v (hv:v<D.hos.length),D.hos[v]=hoL S P v)
  (l:List Rw) (hl:o9 (jdB S T lp D) P=l) (hll:l.length≤1000000):
  FnO Tryz.prog 52 2 1 [.ptr big 0] (jnO S T lp pk pv) (fun v ob'=>v= .gsl 0 2 l.length∧ob'=ar (jrO S T lp D l)):=by
 refine FnO.of func52 rfl ntmps52 (by simp) fun m0 w0 F R0=>?_
 have hask:=vP S T lp pk pv D hc.ok.s.a hpl
 have htt:=sB (jdB S T lp D) P D hc s0B (fun _=>rfl) (List.replicate S.attrs.length eb) [] (now0B _) (fun p hp=>by cases hp)
 have hol:=y3 hc
 rw [hl] at hol
 have hhas:=HO hc s0B
 have hof:=iR hc
 rw [zt] at hl
 have hll2:([]:List Rw).length+(enC (jdB S T lp D) P (hoL (jdB S T lp D).S P) ((aD P).drop 0) s0B 1).length≤1000000:=by
  rw [List.drop_zero,List.length_nil,Nat.zero_add, ← k8 S.attrs.length]
  exact hl▸hll
 have hgo:=fun now2 M2 h1 h2=>Ey (jdB S T lp D) P D hc hd hw100 hr6 hwa hho (aD P).length 0 (by omega) s0B now2 M2 1 [] (DA P) (fun a x e=>(by cases e)) (fun a x e=>(by cases e)) h1 h2 (by decide) (by unfold GY;simp) hll2
 rw [List.drop_zero,List.nil_append,show (fun _=>none:Asg ByteArray)=s0B from rfl] at*
 rw [show iX (jdB S T lp D).S.attrs.length (enC (jdB S T lp D) P (hoL (jdB S T lp D).S P) (aD P) s0B 1)=l from hl] at hgo
 have hemp:fl aU (jdB S T lp D) P (al P (-1)) s0B=false→l=[]:=fun e=>by
  rw [e] at hhas
  have h1:(enW (bC (RJ (jdB S T lp D)) sdS) (aD P) s0B).isEmpty=true:=by simpa using hhas.symm
  rw [← hl, ← List.length_eq_zero_iff,k8, ← List.length_map (f:=(·.1)),hof]
  exact List.length_eq_zero_iff.2 (List.isEmpty_iff.1 h1)
 clear hol hhas hof hl
 generalize fl aU (jdB S T lp D) P (al P (-1)) s0B=fb at*
 refine Z1 rfl rfl ?_
 refine Z1 rfl rfl ?_
 refine Rs 7 rfl rfl (ah [big,1000001] 0 call96 hask rfl rfl rfl rfl ⟨rfl,rfl,trivial⟩ (by decide) rfl) ?_
 refine Y2 rfl rfl ?_
 refine Im (Io (l:=[(3,.ptr 5 0)]) (os:=(5,.mix 139 [.ptr 4 0])::HG S T lp D) (k:=6) (aS (by kernel_rfl)) (aO (by kernel_rfl)) rfl rfl) ?_
 refine Z1 rfl rfl ?_
 refine RL.call rfl (dU (os:=o6B (jdB S T lp D) (wdB D) s0B (List.replicate S.attrs.length eb) [] []) [4,1,2,3,big,1000001] 0 call97 (args:=[.ptr big 0]) (k':=0) (by kernel_rfl) (by kernel_rfl) (by kernel_rfl) (by kernel_rfl) ⟨by kernel_rfl,by kernel_rfl,by kernel_rfl,by kernel_rfl,by kernel_rfl,by kernel_rfl,trivial⟩ (by decide) (by kernel_rfl) htt fun v ob' hv=>?_)
 obtain ⟨now2,M2,hn2,hM2,rfl,rfl⟩:=hv
 refine A1 rfl ?_
 have hgo2:=hgo now2 M2 hn2 hM2
 refine Wk [(3,.ptr 5 0),(10,.pv (.bool (!fb)))] [(4,(oB (wdB D) big 1 S.attrs.length 2 3)),(1,.cells 9 (aA now2)),(2,.cells 4 (ay (stL s0B S.attrs.length))),(3,.mp (ba M2) (bB M2)),(5,.mix 139 [.ptr 4 0]),(big,oX S (.pv (dbP T)) (.pv (ak lp)) 1000001),(1000001,.mp [.int .i64 (-1)] [ca D])] 6 (aS (by kernel_rfl)) (aO (by kernel_rfl)) rfl rfl ?_
 refine Gc rfl rfl (fun hc10=>?_) (fun hc10=>?_)
 ·have hle:=hemp (by simpa using hc10)
  subst hle
  refine Z1 rfl rfl ?_
  refine Im (Iu 2 6 2 49 rfl rfl) ?_
  refine Gt rfl ?_
  exact ⟨[(2,.gsl 0 2 0)],jrO S T lp D [],[.gsl 0 2 0],Is [6] (aT (by kernel_rfl)) (aP (by kernel_rfl)) rfl rfl (by decide) rfl,rfl,rfl,rfl,rfl,rfl⟩
 ·refine Il ?_
  refine Z1 rfl rfl ?_
  refine Im (St.er 6 0 7 2 49 rfl rfl rfl) ?_
  refine Z1 rfl rfl ?_
  refine Z2 rfl rfl rfl ?_
  refine Z1 rfl rfl ?_
  refine RL.call rfl (qx [4,1,2,3,big,1000001,5,6,8,7] 9 call98 hgo2 rfl rfl rfl rfl rfl ⟨by kernel_rfl,by kernel_rfl,by kernel_rfl,by kernel_rfl,by kernel_rfl,by kernel_rfl,by kernel_rfl,by kernel_rfl,by kernel_rfl,by kernel_rfl,trivial⟩ (by decide) rfl ?_)
  rintro _ _ ⟨now4,M4,hn4,hM4,rfl,rfl⟩
  refine Z2 rfl rfl rfl ?_
  refine Gt rfl ?_
  exact ⟨[(2,.gsl 0 2 l.length)],jrO S T lp D l,[.gsl 0 2 l.length],Is [9] (aT (by kernel_rfl)) (aP (by kernel_rfl)) rfl rfl (by decide) rfl,rfl,rfl,rfl,rfl,rfl⟩
end
section
open Go.RowKit Mk Jn
set_option maxHeartbeats 4000000
theorem mH {w:World} {R:Nat→Prop}:∀ {l:List ByteArray} {us:List Value},RelPL w R (aA l) us→us=l.map Value.string
 | [],us,h=>by simpa [RelPL] using h
 | x::l,us,h=>by
   simp only [List.map_cons,RelPL,RelP] at h
   obtain ⟨u,vs,rfl,rfl,h2⟩:=h
   rw [mH h2];rfl
structure RowV (w:World) (R:Nat→Prop) where
 x:Rw
 us:List Value
 rel:RelPL w R (eV x) us
 len:x.v.length≤1000000
theorem E5 (w:World) (R:Nat→Prop):RelPL w R (eV ⟨[],0⟩) [.slice none 0 0,.int .i64 0]:=by
 refine RelPL.cons ?_ (RelPL.cons (by simp only [RelP]) RelPL.nil)
 simp only [RelP]
 refine ⟨none,0,rfl,Nat.le_refl _,by simp [maxLen],?_,?_,?_⟩
 ·intro b h;cases h
 ·intro h;cases h
 ·intro h;exact absurd rfl h
instance (w:World) (R:Nat→Prop):Inhabited (RowV w R):=⟨⟨⟨[],0⟩,_,E5 w R,by simp⟩⟩
theorem RowV.cells {w:World} {R:Nat→Prop} (hR:∀ b,R b→b<w.heap.size) (y:RowV w R):∃ A c,y.us=[.slice A y.x.v.length c,.int .i64 y.x.w]∧Row w R A (GF y.x.v):=by
 have h:=y.rel
 simp only [RelPL,RelP] at h
 obtain ⟨u,vs,e,⟨A,c,rfl,_,_,_,_,h5⟩,u2,vs2,rfl,rfl,rfl⟩:=h
 refine ⟨A,c,e,fun hne=>?_⟩
 obtain ⟨b,off,us,rfl,h6,h7,h8⟩:=h5 (fun e=>hne (by rw [List.map_eq_nil_iff] at e ⊢; exact e))
 have e7:=mH h6
 subst e7
 exact ⟨b,off,rfl,h7,hR b h7,h8⟩
theorem RowV.G0 {w:World} {R:Nat→Prop} (y:RowV w R):y.us.length=2:=y.rel.length
theorem RowV.one {w:World} {R:Nat→Prop} (y:RowV w R):∀ v∈y.us,v.oneCell'=true:=by
 have h:=y.rel
 simp only [RelPL,RelP] at h
 obtain ⟨u,vs,e,⟨A,c,rfl,_⟩,u2,vs2,rfl,rfl,rfl⟩:=h
 rw [e]
 intro v hv
 simp only [List.mem_cons,List.not_mem_nil,or_false] at hv
 rcases hv with rfl | rfl<;>rfl
theorem tQ {w:World} {R:Nat→Prop}:∀ {l:List Rw} {us:List Value},(∀ x∈l,x.v.length≤1000000)→RelPL w R (aB l) us→∃ ds:List (RowV w R),ds.map (·.x)=l∧ds.flatMap (·.us)=us
 | [],us,_,h=>⟨[],rfl,by simp [aB,RelPL] at h;simp [h]⟩
 | x::l,us,hl,h=>by
   have h0:RelPL w R (eV x++aB l) us:=h
   have h1:=h0.take 2
   have h2:=h0.drop 2
   rw [show (eV x++aB l).take 2=eV x from List.take_left' rfl] at h1
   rw [show (eV x++aB l).drop 2=aB l from List.drop_left' rfl] at h2
   obtain ⟨ds,e1,e2⟩:=tQ (fun y hy=>hl y (by simp [hy])) h2
   exact ⟨⟨x,us.take 2,h1,hl x (by simp)⟩::ds,by simp [e1],by simp [e2]⟩
theorem pQ {w w':World} {R:Nat→Prop} (hk:∀ b,R b→w'.heap[b]? =w.heap[b]?):∀ (ds:List (RowV w R)),RelPL w' R (aB (ds.map (·.x))) (ds.flatMap (·.us))
 | []=>by simp [aB,RelPL]
 | y::ds=>by
   have h1:RelPL w' R (eV y.x) y.us:=RelPL.mono (fun b hb=>⟨hb,hk b hb⟩) _ _ y.rel
   have:=h1.append (pQ hk ds)
   simpa [aB] using this
theorem EB (a b:List ByteArray):decide (lN a b<0)=aZ a b:=by
 unfold lN
 cases h:aZ a b with
 | true=>rw [if_pos rfl];rfl
 | false=>rw [if_neg (by decide)];by_cases h2:a=b<;>simp [h2]
theorem H0 {i k:Nat} (h:¬ i=k):Nat.beq i k=false:=by
 cases hb:Nat.beq i k with
 | false=>rfl
 | true=>exact absurd (Nat.eq_of_beq_eq_true hb) h
theorem yP {α:Type} (f:α→List ByteArray):Go.Sort.SWO (Go.Proofs.ltOf fun x y:α=>lN (f x) (f y)):=by
 have e:∀ x y:α,Go.Proofs.ltOf (fun x y:α=>lN (f x) (f y)) x y=aZ (f x) (f y):=fun x y=>by
  exact EB (f x) (f y)
 refine ⟨fun x=>by rw [e];exact cz _,fun x y z h1 h2=>?_,fun x y z h1 h2=>?_⟩
 ·rw [e] at *; exact cT h1 h2
 ·rw [e] at*
  cases h3:aZ (f x) (f z) with
  | false=>rfl
  | true=>
    cases h4:aZ (f z) (f y) with
    | true=>rw [cT h3 h4] at h1;cases h1
    | false=>rw [gO h2 h4,h3] at h1;cases h1
theorem Bh {α:Type} (f:α→List ByteArray) (x y:α):Go.Proofs.ltOf (fun x y:α=>lN (f x) (f y)) x y=aZ (f x) (f y):=by
 exact EB (f x) (f y)
theorem l3 {α:Type} [Inhabited α] (enc:α→List Value) (hk:∀ x,(enc x).length=2) (d:Array α):(Go.Sort.flatK enc 2 d).toList=d.toList.flatMap enc:=by
 have hfl:(d.toList.flatMap enc).length=d.toList.length*2:=fK enc 2 hk d.toList
 apply List.ext_getElem
 ·rw [Array.length_toList,Go.Sort.size_flatK,hfl,Array.length_toList]
 ·intro i h1 h2
  rw [Array.length_toList,Go.Sort.size_flatK] at h1
  have hq:i/2<d.size:=by omega
  have hg:=Go.Sort.get_flatK enc 2 d i h1
  rw [getElem!_pos _ i (by rw [Go.Sort.size_flatK];exact h1)] at hg
  have hf:=oC enc 2 hk d.toList (i/2) (i%2) (by rw [Array.length_toList];exact hq) (by omega)
  rw [show i/2*2+i%2=i by omega,List.getElem?_eq_getElem h2] at hf
  rw [Array.getElem_toList,hg,getElem!_pos d (i/2) hq]
  have hl:i%2<(enc d[i/2]).length:=by rw [hk];omega
  change _=(enc d[i/2])[i%2]? at hf
  rw [List.getElem?_eq_getElem hl] at hf
  rw [getElem!_pos (enc d[i/2]) (i%2) hl]
  exact (Option.some.inj hf).symm
theorem nT (F arr:Array Value) (h:F.size≤arr.size):((Go.Sort.putCells id 0 F arr).toList.take F.size)=F.toList:=by
 apply List.ext_getElem
 ·simp [Go.Sort.putCells];omega
 ·intro i h1 h2
  rw [Array.length_toList] at h2
  simp only [List.getElem_take,Array.getElem_toList,Go.Sort.putCells,Array.getElem_mapIdx]
  rw [if_pos ⟨Nat.zero_le _,by omega⟩,Nat.sub_zero,getElem!_pos F i h2];rfl
theorem ie {α:Type} [Inhabited α] (enc:α→List Value) (w:World) (b n:Nat) (d:Array α) (os:Array Obj) (hb:b<w.heap.size):
  (sortWorldK enc 2 w b 0 n d os).os=w.os∧(sortWorldK enc 2 w b 0 n d os).tape=w.tape∧(sortWorldK enc 2 w b 0 n d os).output=w.output∧w.heap.size≤(sortWorldK enc 2 w b 0 n d os).heap.size∧
  (∀ k,k<w.heap.size→k≠b→(sortWorldK enc 2 w b 0 n d os).heap[k]? =w.heap[k]?)∧∀ arr ty fz,w.heap[b]? =some (.cells arr ty fz)→(sortWorldK enc 2 w b 0 n d os).heap[b]? =some (.cells (Go.Sort.putCells id 0 (Go.Sort.flatK enc 2 d) arr) ty fz):=by
 have hh:(sortWorldK enc 2 w b 0 n d os).heap=(w.heap.modify b (Go.Sort.onCells (Go.Sort.putCells id 0 (Go.Sort.flatK enc 2 d))))++os:=rfl
 refine ⟨rfl,rfl,rfl,?_,fun k hk hne=>?_,fun arr ty fz h=>?_⟩
 ·rw [hh];simp
 ·rw [hh,Array.getElem?_append_left (by simpa using hk),Array.getElem?_modify,if_neg (Ne.symm hne)]
 ·rw [hh,Array.getElem?_append_left (by simpa using hb),Array.getElem?_modify,if_pos rfl,h];rfl
abbrev jz (l:List Rw):Ob:= .gro 49 (aB l)
theorem w7 (l:List Rw) (hl:l.length≤1000000) (hv:∀ x∈l,x.v.length≤1000000):
  FnO Tryz.prog 53 1 0 [.gsl big 2 l.length,.pv (.fn (.func 54) [] [])] [(big,jz l)] (fun v ob'=>∃ l',l'.Perm l∧(l'.Pairwise fun a b=>aZ b.v a.v=false)∧v= .tup []∧ob'=ar [(big,jz l')]):=by
 intro w m R us hR hrel
 simp only [RelL,Rel,RelP] at hrel
 obtain ⟨u1,us1,rfl,⟨_,A,c,rfl,hnc,hcm,h0,h1⟩,u2,us2,rfl,⟨fs,cs,rfl,hfs,hcs⟩,rfl⟩:=hrel
 obtain rfl:=(by simpa [RelPL] using hfs:fs=[])
 obtain rfl:=(by simpa [RelPL] using hcs:cs=[])
 have hob:ar [(big,jz l)] big=some (jz l):=rfl
 by_cases hn:l=[]
 ·subst hn
  refine (AnyF.slices_SortFunc_none Tryz.sortRow A c _ w).mono ?_
  rintro e w' ⟨rfl,rfl⟩
  refine ⟨.tuple #[],.tup [],_,m,R.p,rfl,⟨[],List.Perm.refl _,List.Pairwise.nil,rfl,rfl⟩,rfl,?_,hR,?_⟩
  ·intro i o h
   by_cases hi:i=big
   ·subst hi;rw [hob] at h;cases h;exact ⟨rfl,rfl⟩
   ·exfalso;simp only [ar] at h;rw [H0 hi] at h;cases h
  ·simp only [Rel];exact ⟨[],rfl,by simp only [RelL]⟩
 ·have hpos:0<l.length:=List.length_pos_iff.2 hn
  have hcl:=aK l
  have hreal:(jz l).real=true:=bQ (by intro e;rw [e] at hcl;simp at hcl;omega)
  have hdom:=hR.dom big
  rw [hob] at hdom
  obtain ⟨⟨b,N⟩,hm⟩:∃ x,m big=some x:=Option.isSome_iff_exists.1 (hdom.trans hreal)
  obtain ⟨rfl,hN⟩:=h1 hpos b N hm
  obtain ⟨arr,hb,harr,hle,hrl⟩:=hR.obj big _ b N hob hm
  obtain ⟨hbs,hbR,_⟩:=hR.own big b N hm
  obtain ⟨ds,hds,hdu⟩:=tQ hv hrl
  have hdl:ds.length=l.length:=by rw [← hds,List.length_map]
  have hsz:ds.toArray.size=l.length:=by rw [List.size_toArray,hdl]
  have hF:=l3 (fun y:RowV w R.p=>y.us) (fun y=>y.G0) ds.toArray
  have hFs:=Go.Sort.size_flatK (fun y:RowV w R.p=>y.us) 2 ds.toArray
  rw [hsz] at hFs
  have hH:Go.Sort.HoldsK (fun y:RowV w R.p=>y.us) 2 w b 0 ds.toArray:=by
   intro j hj
   rw [hFs] at hj
   have hjl:j<(aB l).length:=by omega
   have e1:(arr.toList.take (aB l).length)[j]? =(Go.Sort.flatK (fun y:RowV w R.p=>y.us) 2 ds.toArray).toList[j]? :=by rw [hF, ← hdu]
   rw [List.getElem?_take,if_pos hjl,Array.getElem?_toList,Array.getElem?_toList] at e1
   constructor
   ·simp only [World.cell?,hb,Nat.zero_add]
    rw [e1,getElem!_pos _ j (by rw [hFs];exact hj)]
    exact Array.getElem?_eq_getElem _
   ·simp [World.frozen?,hb]
  have hcmp:CmpLays Tryz.prog 54 #[] (fun y:RowV w R.p=>y.us) 2 (fun x y=>lN x.x.v y.x.v) b 0 ds.toArray.size w:=by
   intro mm os dk _ x y
   obtain ⟨A1,c1,e1,r1⟩:=x.cells hR.rsz
   obtain ⟨A2,c2,e2,r2⟩:=y.cells hR.rsz
   obtain ⟨_,_,_,k1,k2,_⟩:=ie (fun y:RowV w R.p=>y.us) w b mm dk os hbs
   have hk:∀ b',R.p b'→b'<w.heap.size→(sortWorldK (fun y:RowV w R.p=>y.us) 2 w b 0 mm dk os).heap[b']? =w.heap[b']? :=fun b' h1 h2=>k2 b' h2 fun e=>hbR (e▸h1)
   have:=sj A1 A2 c1 c2 x.x.v y.x.v x.x.w y.x.w (sortWorldK (fun y:RowV w R.p=>y.us) 2 w b 0 mm dk os) (r1.keep k1 fun b' _ _ h1 h2=>hk b' h1 h2) (r2.keep k1 fun b' _ _ h1 h2=>hk b' h1 h2) x.len y.len
   show Calls _ _ (#[.agg x.us.toArray,.agg y.us.toArray]++ #[]) _ _
   rw [e1,e2,Array.append_empty]
   exact this
  have hgo:=AnyQ.slices_SortFunc Tryz.sortRow 2 isAgg49 sizeOf49 (fun y:RowV w R.p=>y.us) (fun y=>y.G0) (fun y=>y.one) (fun x y=>lN x.x.v y.x.v) (yP fun y:RowV w R.p=>y.x.v) 54 #[] b 0 c ds.toArray w call54 hcmp hH hbs (by rw [hsz];omega)
  rw [hsz] at hgo
  refine Calls.mono hgo ?_
  rintro e w' ⟨rfl,d',n,os,⟨hp1,_,hp2⟩,hs,rfl⟩
  obtain ⟨q1,q2,q3,q4,q5,q6⟩:=ie (fun y:RowV w R.p=>y.us) w b n d' os hbs
  have hd':d'.size=l.length:=hp1.trans hsz
  have hperm:d'.toList.Perm ds:=by
   have e1:d'.extract 0 l.length=d':=by rw [← hd'];simp
   have e2:ds.toArray.extract 0 l.length=ds.toArray:=by rw [← hsz];simp
   rw [e1,e2] at hp2
   simpa using hp2
  have hpl:(d'.toList.map (·.x)).Perm l:=hds▸hperm.map (·.x)
  have hl':(d'.toList.map (·.x)).length=l.length:=hpl.length_eq
  have hcl':=aK (d'.toList.map (·.x))
  have hF':=l3 (fun y:RowV w R.p=>y.us) (fun y=>y.G0) d'
  have hFs':=Go.Sort.size_flatK (fun y:RowV w R.p=>y.us) 2 d'
  have hob':ar [(big,jz (d'.toList.map (·.x)))] big=some (jz (d'.toList.map (·.x))):=rfl
  have hreal':(jz (d'.toList.map (·.x))).real=true:=bQ (by intro e;rw [e] at hcl';simp only [List.length_nil] at hcl';omega)
  have hno:∀ {l:List Rw} {i:Nat},i≠big→ar [(big,jz l)] i=none:=fun {l i} hi=>by simp only [ar];rw [H0 hi];rfl
  refine ⟨.tuple #[],.tup [],_,m,R.p,rfl,⟨d'.toList.map (·.x),hpl,?_,rfl,rfl⟩,rfl,?_,?_,?_⟩
  ·rw [List.pairwise_map,List.pairwise_iff_getElem]
   intro i j h1 h2 hij
   have:=hs i j (Nat.zero_le _) hij (by rw [Array.length_toList] at h2;omega)
   rw [Bh fun y:RowV w R.p=>y.x.v,getElem!_pos d' j (by simpa using h2),getElem!_pos d' i (by simpa using h1)] at this
   simpa using this
  ·intro i o h
   by_cases hi:i=big
   ·subst hi;rw [hob'] at h;cases h;exact ⟨rfl,rfl⟩
   ·rw [hno hi] at h;cases h
  ·refine ⟨fun i=>?_,fun i h=>?_,fun i o b' N' h h'=>?_,hR.inj,fun i b' N' h=>?_,fun b' h=>Nat.lt_of_lt_of_le (hR.rsz b' h) q4,fun b' h=>hR.rfr b' h,hR.r0,⟨q1,q2,q3,q4,fun k hk hF=>q5 k hk fun e=>hF (e▸⟨big,N,hm⟩)⟩,hR.keep,hR.res⟩
   ·by_cases hi:i=big
    ·subst hi;rw [hob',hm];exact hreal'.symm
    ·rw [hno hi]
     have:=hR.dom i
     rw [hno hi] at this
     exact this
   ·by_cases hi:i=big
    ·subst hi
     have:=hR.free _ h
     rw [hob] at this;cases this
    ·exact hno hi
   ·by_cases hi:i=big
    ·subst hi
     rw [hob'] at h
     cases h
     rw [hm] at h'
     cases h'
     refine ⟨_,q6 arr _ _ hb,?_,?_,?_⟩
     ·simp [Go.Sort.putCells,harr]
     ·rw [hcl',hl', ← hcl];exact hle
     ·rw [show (aB (d'.toList.map (·.x))).length=(Go.Sort.flatK (fun y:RowV w R.p=>y.us) 2 d').size by rw [hFs',hcl',List.length_map,Array.length_toList],nT _ _ (by rw [hFs',hd',harr];omega),hF']
      exact pQ (fun b' h=>q5 b' (hR.rsz b' h) fun e=>hbR (e▸h)) d'.toList
    ·rw [hno hi] at h;cases h
   ·have:=hR.own i b' N' h
    exact ⟨Nat.lt_of_lt_of_le this.1 q4,this.2⟩
  ·simp only [Rel];exact ⟨[],rfl,by simp only [RelL]⟩
end
section
open Go.RowKit Mk Jn
set_option maxHeartbeats 4000000
structure RowOk (S:Sch) (A:List Int) (low:Int) (x:Rw):Prop where
 l:x.v.length=A.length
 v:∀ i (h:i<x.v.length) (h2:i<A.length),∀ nm,FnP Tryz.prog 179 [.agg [.str nm,.int .i64 (S.attrs.getD A[i].toNat default).2],.str x.v[i]] (· = .bool true)
 w:x.w≠0∧low≤x.w∧x.w≤100
theorem mC {S:Sch} {a:Nat} (h:a<S.attrs.length):S.attrs.getD a default=S.attrs[a]:=by simp [List.getD,h]
theorem sX (S:Sch) (hS:SJn S) (nm:ByteArray) (A:List Int) (hA:A.length≤1000) (hb:∀ a∈A,0≤a∧a<S.attrs.length) (low:Int) (x:Rw) (hx:RowOk S A low x):FnP Tryz.prog 125 [gK S,.agg [.str nm,ak A],sJ x] (· = .bool true):=by
 refine FnP.of func125 rfl ntmps125 (by simp) fun m0 w0 F R0=>?_
 have hxl:=hx.l
 have hSa:=hS.a
 refine Z4 rfl rfl rfl rfl rfl ?_
 refine Z4 rfl rfl rfl rfl rfl ?_
 refine Gl rfl (st:=fun x_0:Nat=>mkS [(3,.ptr 0 0),(5,.ptr 2 0),(10,.pv (ak A)),(11,.pv (.int .i64 A.length)),(12,.pv (.int .i64 x_0))] [(0,oZ S),(2,.mix 49 [.pv (aI x.v),.pv (.int .i64 x.w)])] 3)
  (I:=fun x_0=>x_0≤A.length) (μ:=fun x_0=>A.length-x_0) (x0:=(0)) (Io (aS rfl) (aO rfl) rfl rfl) (Nat.zero_le _) ?_
 rintro j hj
 refine Z1 rfl rfl ?_
 refine Gp rfl rfl (fun hc13=>?_) (fun hc13=>?_)
 ·have hlj:j<A.length:=by omega
  obtain ⟨a,haa⟩:=Int.eq_ofNat_of_zero_le (hb _ (List.getElem_mem hlj)).1
  have hal:a<S.attrs.length:=by have:=(hb _ (List.getElem_mem hlj)).2;omega
  have hpv:(aE A)[j*1]? =some (.int .i64 (a:Int)):=by rw [← haa];simp [hlj]
  have hpn:=aH hlj
  have hjv:j<x.v.length:=by omega
  have hsv:=aM hjv
  have hsn:=bc hjv
  have har:=od hal
  have han:=lq hal
  have hvl:=hx.v j hjv hlj S.attrs[a].1
  rw [haa,Int.toNat_natCast,mC hal] at hvl
  refine Il ?_
  refine Z2 rfl rfl rfl ?_
  refine Rs 16 rfl rfl (ai ⟨_,underlying3,rfl⟩ rfl hpv) ?_
  refine Y2 rfl rfl ?_
  refine Ge rfl follows [0,1,2,3,4,5,6,7,8,9,10,11] (by kernel_rfl) ?_
  iterate 3 refine D1 rfl rfl ?_
  refine Ds 20 [] rfl rfl rfl (fun τ h=>ag a underlying28 G1 (Ee h 0 rfl rfl) (Ee h 1 rfl rfl) rfl hal han) rfl (by kernel_rfl) ?_
  first | refine D3 rfl rfl (by assumption) ?_ | refine D1 rfl rfl ?_
  iterate 3 refine D1 rfl rfl ?_
  refine Ds 25 [] rfl rfl rfl (fun τ h=>ag j underlying47 sz9 (Ee h 0 rfl rfl) (Ee h 1 rfl rfl) rfl hjv hsn) rfl (by kernel_rfl) ?_
  refine Ds 26 [] rfl rfl rfl (fun τ h=>ai ⟨_,underlying9,rfl⟩ (Ee h 0 rfl rfl) hsv) rfl (by kernel_rfl) ?_
  refine Ds 27 [] rfl rfl rfl (fun τ h=>ae call179 hvl (h.bt rfl)) rfl (by kernel_rfl) ?_
  refine D1 rfl rfl ?_
  refine ⟨by kernel_rfl,?_⟩
  refine Gc rfl rfl (fun hc28=>absurd hc28 (by simp)) (fun hc28=>?_)
  refine Il ?_
  refine Z2 rfl rfl rfl ?_
  exact ⟨(j+1),Io (aS rfl) (aO rfl) rfl rfl,by omega,by omega⟩
 ·refine Gx rfl ?_
  refine Z1 rfl rfl ?_
  refine Gt rfl ?_
  exact ⟨_,_,rfl,rfl,rfl⟩
structure TblOk (S:Sch) (A:List Int) (low:Int) (l:List Rw):Prop where
 row:∀ x∈l,RowOk S A low x
 asc:Aj l
theorem xS {l:List Rw} (h:Aj l) {k:Nat} (hk:k+1<l.length):aZ l[k].v l[k+1].v=true:=by
 unfold Aj at h
 rw [List.pairwise_iff_getElem] at h
 exact h k (k+1) (by omega) hk (by omega)
theorem jd (S:Sch) (hB:SB S) (hS:SJn S) (hV:cI S=0) (r:Nat) (hr:r<S.rels.length) (l:List Rw) (most low:Int) (hm:(l.length:Int)≤most) (hl:l.length≤1000) (hT:TblOk S S.rels[r].2 low l):FnP Tryz.prog 83 [gK S,.int .i64 r,bL l,.int .i64 most,.int .i64 low] (· = .int .i64 0):=by
 refine FnP.of func83 rfl ntmps83 (by simp) fun m0 w0 F R0=>?_
 have hchk:=tN S hB
 rw [hV] at hchk
 have hrow:=cW hr
 have hrne:=ew hr
 have hrl:=hS.l _ (List.getElem_mem hr)
 have hrb:=hS.b _ (List.getElem_mem hr)
 have hSr:=hS.r
 have hval:=fun (x:Rw) (hx:RowOk S S.rels[r].2 low x)=>sX S hS S.rels[r].1 S.rels[r].2 hrl hrb low x hx
 have hTr:=hT.row
 have hTa:=hT.asc
 clear hT
 generalize S.rels[r]=rr at*
 refine Z2 rfl rfl rfl ?_
 refine Z1 rfl rfl ?_
 refine Rs 16 rfl rfl (ae call81 hchk rfl) ?_
 refine Y2 rfl rfl ?_
 refine Gc rfl rfl (fun hc14=>absurd hc14 (by simp)) (fun hc14=>?_)
 refine Z3 rfl rfl rfl rfl ?_
 apply Ix 6 23 29 [24,25,26,27,28] rfl (by first | exact ax.le | exact ax.aw | exact Iv)
 ·intro hb2
  iterate 6 refine A1 rfl ?_
  exact Iq (Ik (Ik (Ik (Ik (Ik (Ik (Ik (fEq.refl) rfl) rfl) rfl) rfl) rfl) rfl) rfl) rfl rfl rfl
 ·intro hb2
  iterate 6 refine A1 rfl ?_
  exact Iq (Ik (Ik (Ik (Ik (Ik (Ik (Ik (fEq.refl) rfl) rfl) rfl) rfl) rfl) rfl) rfl) rfl rfl rfl
 refine A1 rfl ?_
 refine Gc rfl rfl (fun hc20=>absurd hc20 (fun h=>by simp at h;omega)) (fun hc20=>?_)
 refine Gr rfl ?_
 iterate 5 refine A1 rfl ?_
 refine Gp rfl rfl (fun hc30=>absurd hc30 (by omega)) (fun hc30=>?_)
 refine Il ?_
 refine Z4 rfl rfl rfl rfl rfl ?_
 first | refine A3 rfl (by assumption) ?_ | refine A1 rfl ?_
 refine Y2 rfl rfl ?_
 refine Z3 rfl rfl rfl rfl ?_
 refine Gl rfl (st:=fun x_0:Nat=>mkS [(2,.pv (bL l)),(4,.pv (.int .i64 low)),(5,.ptr 0 0),(11,.ptr 1 0),(40,.pv (bL l)),(41,.pv (.int .i64 l.length)),(42,.pv (.int .i64 x_0))] [(0,oZ S),(1,.mix 30 [.pv (.str rr.1),.pv (ak rr.2)])] 2)
  (I:=fun x_0=>x_0≤l.length) (μ:=fun x_0=>l.length-x_0) (x0:=(0)) (Io (aS rfl) (aO rfl) rfl rfl) (Nat.zero_le _) ?_
 rintro k hk
 refine Z1 rfl rfl ?_
 refine Gp rfl rfl (fun hc43=>?_) (fun hc43=>?_)
 ·have hlt:k<l.length:=by omega
  have hrw:=aN hlt
  have hrn:=aW hlt
  have hxo:=hTr _ (List.getElem_mem hlt)
  have hvk:=hval _ hxo
  have hxl:=hxo.l
  obtain ⟨hw1,hw2,hw3⟩:=hxo.w
  have hprev:0<k→∃ hq:k-1<l.length,aZ (l[k-1]'hq).v l[k].v=true:=fun h0=>by
   obtain ⟨j,rfl⟩:∃ j,k=j+1:=⟨k-1,by omega⟩
   exact ⟨by simp only [Nat.add_sub_cancel];omega,by simpa using xS hTa hlt⟩
  have hpl:∀ hq:k-1<l.length,(l[k-1]'hq).v.length=rr.2.length:=fun hq=>(hTr _ (List.getElem_mem hq)).l
  have hpr:∀ hq:k-1<l.length,(aB l)[(k-1)*2]? =some (aI (l[k-1]'hq).v):=fun hq=>nr hq
  clear hxo
  generalize l[k]=x at*
  refine Il ?_
  refine Z2 rfl rfl rfl ?_
  first | refine A3 rfl (by assumption) ?_ | refine A1 rfl ?_
  refine Y3 rfl rfl rfl ?_
  refine Gr rfl ?_
  iterate 8 refine A1 rfl ?_
  refine Gc rfl rfl (fun hc47=>absurd hc47 (by simp;omega)) (fun hc47=>?_)
  refine Z3 rfl rfl rfl rfl ?_
  refine Rs 59 rfl rfl (ae call125 hvk rfl) ?_
  refine Y2 rfl rfl ?_
  refine Gc rfl rfl (fun hc55=>absurd hc55 (by simp)) (fun hc55=>?_)
  refine Z4 rfl rfl rfl rfl rfl ?_
  apply Ix 5 65 70 [66,67,68,69] rfl (by first | exact ax.le | exact ax.aw | exact Iv)
  ·intro hb3
   iterate 5 refine A1 rfl ?_
   exact Iq (Ik (Ik (Ik (Ik (Ik (Ik (fEq.refl) rfl) rfl) rfl) rfl) rfl) rfl) rfl rfl rfl
  ·intro hb3
   iterate 5 refine A1 rfl ?_
   exact Iq (Ik (Ik (Ik (Ik (Ik (Ik (fEq.refl) rfl) rfl) rfl) rfl) rfl) rfl) rfl rfl rfl
  refine A1 rfl ?_
  apply Ix 4 71 75 [72,73,74] rfl (by first | exact ax.le | exact ax.aw | exact Iv)
  ·intro hb9
   iterate 4 refine A1 rfl ?_
   exact Iq (Ik (Ik (Ik (Ik (Ik (fEq.refl) rfl) rfl) rfl) rfl) rfl) rfl rfl rfl
  ·intro hb9
   iterate 4 refine A1 rfl ?_
   exact Iq (Ik (Ik (Ik (Ik (Ik (fEq.refl) rfl) rfl) rfl) rfl) rfl) rfl rfl rfl
  refine A1 rfl ?_
  refine Gc rfl rfl (fun hc61=>absurd hc61 (fun h=>by simp at h;omega)) (fun hc61=>?_)
  by_cases hk0:k=0
  ·refine Ge rfl follows [0,1,2,3,4,5,6,7,8,9,10,11,12,13,14] (by kernel_rfl) ?_
   refine D1 rfl rfl ?_
   refine Ds 78 [] rfl rfl rfl (fun τ h=>XJ.cast (v':= .pv (.bool false)) (aQ (Ee h 0 rfl rfl) (Ee h 1 rfl rfl) rfl) (congrArg (fun b=>V.pv (.bool b)) (decide_eq_false (by omega)))) rfl (by kernel_rfl) ?_
   iterate 13 refine D1 rfl rfl ?_
   refine ⟨by kernel_rfl,?_⟩
   refine Gc rfl rfl (fun hc76=>absurd hc76 (by simp)) (fun hc76=>?_)
   refine Il ?_
   refine Z2 rfl rfl rfl ?_
   exact ⟨(k+1),Io (aS rfl) (aO rfl) rfl rfl,by omega,by omega⟩
  ·obtain ⟨hq,hls⟩:=hprev (by omega)
   have hjl:=xb _ x.v (by rw [hpl hq];omega) (by omega)
   rw [hls] at hjl
   have hpq:=hpr hq
   refine Ge rfl follows [0,1,2,3,4,5,6,7,8,9,10,11,12,13,14] (by kernel_rfl) ?_
   refine D1 rfl rfl ?_
   refine Ds 78 [] rfl rfl rfl (fun τ h=>XJ.cast (v':= .pv (.bool true)) (aQ (Ee h 0 rfl rfl) (Ee h 1 rfl rfl) rfl) (congrArg (fun b=>V.pv (.bool b)) (decide_eq_true (by omega)))) rfl (by kernel_rfl) ?_
   iterate 4 refine D1 rfl rfl ?_
   refine Dg 83 [] rfl rfl rfl rfl (fun τ h=>ag (k-1) underlying38 lM (Ee h 0 rfl rfl) (Ee h 1 rfl rfl) (by omega) hq hrn) rfl (by kernel_rfl) ?_
   refine D1 rfl rfl ?_
   refine Dg 85 [] rfl rfl rfl rfl (fun τ h=>ai ⟨_,underlying47,rfl⟩ (Ee h 0 rfl rfl) hpq) rfl (by kernel_rfl) ?_
   iterate 2 refine D1 rfl rfl ?_
   refine Dg 88 [] rfl rfl rfl rfl (fun τ h=>ae call32 hjl (h.bt rfl)) rfl (by kernel_rfl) ?_
   iterate 3 refine D1 rfl rfl ?_
   refine ⟨by kernel_rfl,?_⟩
   refine Gc rfl rfl (fun hc76=>absurd hc76 (by simp)) (fun hc76=>?_)
   refine Il ?_
   refine Z2 rfl rfl rfl ?_
   exact ⟨(k+1),Io (aS rfl) (aO rfl) rfl rfl,by omega,by omega⟩
 ·refine Gx rfl ?_
  refine Z1 rfl rfl ?_
  refine Gt rfl ?_
  exact ⟨_,_,rfl,rfl,rfl⟩
theorem CQ (S:Sch) (hB:SB S) (hS:SJn S) (hV:cI S=0) (r:Nat) (hr:r<S.rels.length) (l:List Rw) (hl:l.length≤60) (hT:TblOk S S.rels[r].2 1 l):FnP Tryz.prog 45 [gK S,.int .i64 r,bL l] (· = .int .i64 0):=by
 refine FnP.of func45 rfl ntmps45 (by simp) fun m0 w0 F R0=>?_
 have hr:=jd S hB hS hV r hr l 60 1 (by omega) (by omega) hT
 refine Z2 rfl rfl rfl ?_
 refine Z3 rfl rfl rfl rfl ?_
 refine Rs 10 rfl rfl (ae call83 hr rfl) ?_
 refine A1 rfl ?_
 refine Gt rfl ?_
 exact ⟨_,_,rfl,rfl,rfl⟩
theorem Cl (S:Sch) (hB:SB S) (hS:SJn S) (hV:cI S=0) (d:List (List Rw)) (hd:d.length=S.rels.length) (hl:∀ l∈d,l.length≤60) (hT:∀ r (h:r<d.length) (h2:r<S.rels.length),TblOk S S.rels[r].2 1 d[r]):FnP Tryz.prog 36 [gK S,dbP d] (· = .int .i64 0):=by
 refine FnP.of func36 rfl ntmps36 (by simp) fun m0 w0 F R0=>?_
 have hchk:=tN S hB
 rw [hV] at hchk
 have hSr:=hS.r
 have hdl:=dH d
 refine Z2 rfl rfl rfl ?_
 refine Z1 rfl rfl ?_
 refine Rs 10 rfl rfl (ae call81 hchk rfl) ?_
 refine A1 rfl ?_
 refine Z2 rfl rfl rfl ?_
 refine Gc rfl rfl (fun hc12=>?_) (fun hc12=>?_)
 ·refine Z2 rfl rfl rfl ?_
  refine Gt rfl ?_
  exact ⟨_,_,rfl,rfl,rfl⟩
 ·refine Il ?_
  refine Gr rfl ?_
  iterate 6 refine A1 rfl ?_
  refine Gc rfl rfl (fun hc19=>absurd hc19 (by simp;omega)) (fun hc19=>?_)
  refine Il ?_
  refine Z3 rfl rfl rfl rfl ?_
  refine Gl rfl (st:=fun x_0:Nat=>mkS [(2,.ptr 0 0),(20,.pv (dbP d)),(21,.pv (.int .i64 d.length)),(22,.pv (.int .i64 x_0))] [(0,oZ S)] 1)
   (I:=fun x_0=>x_0≤d.length) (μ:=fun x_0=>d.length-x_0) (x0:=(0)) (Io (aS rfl) (aO rfl) rfl rfl) (Nat.zero_le _) ?_
  rintro k hk
  refine Z1 rfl rfl ?_
  refine Gp rfl rfl (fun hc23=>?_) (fun hc23=>?_)
  ·have hlt:k<d.length:=by omega
   have htr:=cD hlt
   have htn:=dN hlt
   have hto:=CQ S hB hS hV k (by omega) d[k] (hl _ (List.getElem_mem hlt)) (hT k hlt (by omega))
   generalize d[k]=tk at*
   refine Il ?_
   refine Z1 rfl rfl ?_
   refine Rs 25 rfl rfl (ag k underlying36 qk rfl rfl rfl hlt htn) ?_
   refine Rs 26 rfl rfl (ai ⟨_,underlying38,rfl⟩ rfl htr) ?_
   refine Y2 rfl rfl ?_
   refine Z3 rfl rfl rfl rfl ?_
   refine Rs 30 rfl rfl (ae call45 hto rfl) ?_
   refine A1 rfl ?_
   refine Z2 rfl rfl rfl ?_
   refine Gc rfl rfl (fun hc32=>absurd hc32 (by simp)) (fun hc32=>?_)
   refine Il ?_
   refine Z2 rfl rfl rfl ?_
   exact ⟨(k+1),Io (aS rfl) (aO rfl) rfl rfl,by omega,by omega⟩
  ·refine Gx rfl ?_
   refine Z1 rfl rfl ?_
   refine Gt rfl ?_
   exact ⟨_,_,rfl,rfl,rfl⟩
end
section
open Go.RowKit Mk Jn
def Ew (σ:Asg ByteArray):List Int→List ByteArray→Asg ByteArray
 | a::A,x::v=>Ew (put σ a x) A v
 | _,_=>σ
theorem iP:∀ {A:List Int} {v:List ByteArray} {σ:Asg ByteArray} {b:Int},b∉A→Ew σ A v b=σ b
 | [],_,_,_,_=>rfl
 | _::_,[],_,_,_=>rfl
 | a::A,x::v,σ,b,h=>by
   rw [Ew,iP fun e=>h (List.mem_cons_of_mem _ e),dZ _ _ fun e=>h (by rw [e];exact List.mem_cons_self)]
theorem ga:∀ {A:List Int} {v:List ByteArray} {σ:Asg ByteArray} {a:Int} {x:ByteArray},A.Nodup→(a,x)∈A.zip v→Ew σ A v a=some x
 | [],_,_,_,_,_,h=>by simp at h
 | _::_,[],_,_,_,_,h=>by simp at h
 | b::A,y::v,σ,a,x,hn,h=>by
   rw [Ew]
   rw [List.zip_cons_cons,List.mem_cons] at h
   rw [List.nodup_cons] at hn
   rcases h with h | h
   ·injection h with h1 h2
    subst h1 h2
    rw [iP hn.1,cG]
   ·exact ga hn.2 h
theorem j0:∀ {A:List Int} {v:List ByteArray} {a:Int},v.length=A.length→a∈A→∃ x,(a,x)∈A.zip v
 | [],_,_,_,h=>by simp at h
 | _::_,[],_,h,_=>by simp at h
 | b::A,y::v,a,hl,h=>by
   rw [List.mem_cons] at h
   rcases h with rfl | h
   ·exact ⟨y,by simp⟩
   ·obtain ⟨x,hx⟩:=j0 (by simpa using hl) h
    exact ⟨x,by rw [List.zip_cons_cons];exact List.mem_cons_of_mem _ hx⟩
theorem zip_fst {A:List Int} {v:List ByteArray} {a:Int} {x:ByteArray} (h:(a,x)∈A.zip v):a∈A:=(List.of_mem_zip h).1
theorem yR {A:List Int} {σ:Asg ByteArray} {v:List ByteArray}:agr A σ v=true↔∀ a x,(a,x)∈A.zip v→∀ y,σ a=some y→y=x:=by
 rw [pq,List.all_eq_true]
 constructor
 ·intro h a x hm y hy
  have:=h _ hm
  rw [gW hy] at this
  exact of_decide_eq_true this
 ·rintro h ⟨a,x⟩ hm
  cases hs:σ a with
  | none=>exact oM hs
  | some y=>rw [gW hs];exact decide_eq_true (h a x hm y hs)
def enR:List (List Int×List Rw)→Asg ByteArray→List (Asg ByteArray)
 | [],σ=>[σ]
 | p::L,σ=>(p.2.filter fun x=>agr p.1 σ x.v).flatMap fun x=>enR L (Ew σ p.1 x.v)
def kJ (L:List (List Int×List Rw)):Prop:=∀ p∈L,p.1.Nodup∧(∀ x∈p.2,x.v.length=p.1.length)∧p.2.Pairwise fun a b=>a.v≠b.v
theorem kJ.cons {p:List Int×List Rw} {L:List (List Int×List Rw)} (h:kJ (p::L)):(p.1.Nodup∧(∀ x∈p.2,x.v.length=p.1.length)∧p.2.Pairwise fun a b=>a.v≠b.v)∧kJ L:=⟨h p (by simp),fun q hq=>h q (by simp [hq])⟩
def In1 (τ:Asg ByteArray) (A:List Int) (v:List ByteArray):Prop:=∀ a x,(a,x)∈A.zip v→τ a=some x
theorem oy:∀ {A:List Int} {v w:List ByteArray} {τ:Asg ByteArray},v.length=A.length→w.length=A.length→In1 τ A v→In1 τ A w→v=w
 | [],[],[],_,_,_,_,_=>rfl
 | [],_::_,_,_,h,_,_,_=>by simp at h
 | [],[],_::_,_,_,h,_,_=>by simp at h
 | _::_,[],_,_,h,_,_,_=>by simp at h
 | _::_,_::_,[],_,_,h,_,_=>by simp at h
 | a::A,x::v,y::w,τ,h1,h2,k1,k2=>by
   have e1:=k1 a x (by simp)
   have e2:=k2 a y (by simp)
   rw [e1] at e2
   injection e2 with e2
   rw [e2,oy (A:=A) (v:=v) (w:=w) (τ:=τ) (by simpa using h1) (by simpa using h2) (fun b z hz=>k1 b z (by rw [List.zip_cons_cons];exact List.mem_cons_of_mem _ hz)) (fun b z hz=>k2 b z (by rw [List.zip_cons_cons];exact List.mem_cons_of_mem _ hz))]
theorem kH:∀ {L:List (List Int×List Rw)} {σ τ:Asg ByteArray},kJ L→(τ∈enR L σ↔(∀ a,(∀ p∈L,a∉p.1)→τ a=σ a)∧(∀ a x,σ a=some x→τ a=some x)∧∀ p∈L,∃ x∈p.2,In1 τ p.1 x.v)
 | [],σ,τ,_=>by
   rw [enR,List.mem_singleton]
   constructor
   ·rintro rfl;exact ⟨fun _ _=>rfl,fun _ _ e=>e,fun _ h=>by simp at h⟩
   ·rintro ⟨h,_,_⟩;funext a;exact h a fun _ hp=>by simp at hp
 | p::L,σ,τ,hR=>by
   obtain ⟨⟨hn,hl,hd⟩,hR2⟩:=hR.cons
   rw [enR,List.mem_flatMap]
   constructor
   ·rintro ⟨x,hx,ht⟩
    obtain ⟨hx,hag⟩:=List.mem_filter.1 hx
    obtain ⟨h1,h2,h3⟩:=(kH hR2).1 ht
    have hag:=yR.1 hag
    refine ⟨fun a ha=>?_,fun a y hy=>?_,fun q hq=>?_⟩
    ·rw [h1 a fun q hq=>ha q (by simp [hq]),iP (ha p (by simp))]
    ·by_cases hm:a∈p.1
     ·obtain ⟨z,hz⟩:=j0 (hl x hx) hm
      rw [hag a z hz y hy]
      exact h2 a z (ga hn hz)
     ·exact h2 a y (by rw [iP hm];exact hy)
    ·rw [List.mem_cons] at hq
     rcases hq with rfl | hq
     ·exact ⟨x,hx,fun a z hz=>h2 a z (ga hn hz)⟩
     ·exact h3 q hq
   ·rintro ⟨h1,h2,h3⟩
    obtain ⟨x,hx,hin⟩:=h3 p (by simp)
    refine ⟨x,List.mem_filter.2 ⟨hx,yR.2 fun a z hz y hy=>?_⟩,(kH hR2).2 ⟨fun a ha=>?_,fun a y hy=>?_,fun q hq=>h3 q (by simp [hq])⟩⟩
    ·have e1:=h2 a y hy
     rw [hin a z hz] at e1
     exact (Option.some.inj e1).symm
    ·by_cases hm:a∈p.1
     ·obtain ⟨z,hz⟩:=j0 (hl x hx) hm
      rw [hin a z hz,ga hn hz]
     ·rw [iP hm]
      refine h1 a fun q hq=>?_
      rw [List.mem_cons] at hq
      rcases hq with rfl | hq
      ·exact hm
      ·exact ha q hq
    ·by_cases hm:a∈p.1
     ·obtain ⟨z,hz⟩:=j0 (hl x hx) hm
      rw [ga hn hz] at hy
      cases hy
      exact hin a _ hz
     ·rw [iP hm] at hy;exact h2 a y hy
theorem qY:∀ {L:List (List Int×List Rw)} {σ:Asg ByteArray},kJ L→(enR L σ).Nodup
 | [],σ,_=>by rw [enR];exact List.pairwise_singleton _ σ
 | p::L,σ,hR=>by
   obtain ⟨⟨hn,hl,hd⟩,hR2⟩:=hR.cons
   rw [enR]
   unfold List.Nodup
   rw [List.pairwise_flatMap]
   refine ⟨fun x _=>qY hR2,?_⟩
   have hd2:=List.Pairwise.and_mem.1 (List.Pairwise.sublist (List.filter_sublist (p:=fun x=>agr p.1 σ x.v)) hd)
   refine hd2.imp ?_
   rintro x y ⟨hx,hy,hne⟩ τ hτ τ' hτ' rfl
   have hx:=(List.mem_filter.1 hx).1
   have hy:=(List.mem_filter.1 hy).1
   exact hne (oy (hl x hx) (hl y hy) (fun a z hz=>((kH hR2).1 hτ).2.1 a z (ga hn hz)) (fun a z hz=>((kH hR2).1 hτ').2.1 a z (ga hn hz)))
theorem BX {S:Sch} {T:List (List Rw)} {l:List Rw} (hj:IsJoin S T l) (hR:kJ (iL S T)) (hrng:∀ p∈iL S T,∀ a∈p.1,0≤a∧a<S.attrs.length) (hcov:∀ a:Nat,a<S.attrs.length→∃ p∈iL S T,(a:Int)∈p.1):l.length=(enR (iL S T) fun _=>none).length:=by
 have hmem:=fun τ=>kH (σ:=fun _=>none) (τ:=τ) hR
 have hdom:∀ τ∈enR (iL S T) (fun _=>none),∀ a:Nat,a<S.attrs.length→(τ (a:Int)).isSome=true:=fun τ hτ a ha=>by
  obtain ⟨p,hp,hap⟩:=hcov a ha
  obtain ⟨x,hx,hin⟩:=((hmem τ).1 hτ).2.2 p hp
  obtain ⟨z,hz⟩:=j0 ((hR p hp).2.1 x hx) hap
  rw [hin _ z hz];rfl
 have hout:∀ τ∈enR (iL S T) (fun _=>none),∀ a:Int,¬ (0≤a∧a<S.attrs.length)→τ a=none:=fun τ hτ a ha=>by
  rw [((hmem τ).1 hτ).1 a fun p hp hm=>ha (hrng p hp a hm)]
 have hinj:∀ τ∈enR (iL S T) (fun _=>none),∀ τ'∈enR (iL S T) (fun _=>none),bH S.attrs.length τ=bH S.attrs.length τ'→τ=τ':=fun τ h1 τ' h2 e=>by
  funext a
  by_cases ha:0≤a∧a<S.attrs.length
  ·obtain ⟨b,rfl⟩:=Int.eq_ofNat_of_zero_le ha.1
   have hb:b<S.attrs.length:=by omega
   obtain ⟨x,hx⟩:=Option.isSome_iff_exists.1 (hdom τ h1 b hb)
   obtain ⟨y,hy⟩:=Option.isSome_iff_exists.1 (hdom τ' h2 b hb)
   have e2:=congrArg (fun z=>z.getD b eb) e
   simp only [bH,List.getD_eq_getElem?_getD,List.getElem?_map,List.getElem?_range hb,Option.map_some,Option.getD_some,hx,hy] at e2
   rw [hx,hy,e2]
  ·rw [hout τ h1 a ha,hout τ' h2 a ha]
 have hrow:∀ {τ:Asg ByteArray} {y:List ByteArray},(∀ a:Nat,a<S.attrs.length→τ (a:Int)=some (y.getD a eb))→∀ p∈iL S T,∀ x∈p.2,(In1 τ p.1 x.v↔p.1.map (fun a=>y.getD a.toNat eb)=x.v):=fun {τ y} hy p hp x hx=>by
  have hl:=(hR p hp).2.1 x hx
  have hat:∀ a∈p.1,τ a=some (y.getD a.toNat eb):=fun a ha=>by
   have:=hrng p hp a ha
   obtain ⟨b,rfl⟩:=Int.eq_ofNat_of_zero_le this.1
   rw [hy b (by omega),Int.toNat_natCast]
  have hA:In1 τ p.1 (p.1.map fun a=>y.getD a.toNat eb):=fun a z hz=>by
   have h1:=hat a (zip_fst hz)
   rw [List.zip_map_right] at hz
   obtain ⟨⟨b,c⟩,hbc,e⟩:=List.mem_map.1 hz
   simp only [Prod.map,id] at e
   injection e with e1 e2
   have:b=c:=by
    have:=List.mem_iff_getElem.1 hbc
    obtain ⟨i,hi,e3⟩:=this
    rw [List.getElem_zip] at e3
    injection e3 with e4 e5
    exact e4.symm.trans e5
   subst this e1
   rw [h1,e2]
  constructor
  ·intro h;exact oy (by simp) hl hA h
  ·intro h;rw [← h];exact hA
 have hperm:(l.map (·.v)).Perm ((enR (iL S T) fun _=>none).map (bH S.attrs.length)):=by
  refine cu ?_ ?_ fun y=>?_
  ·exact List.Pairwise.map _ (fun _ _ h=>h) hj.nd
  ·unfold List.Nodup
   rw [List.pairwise_map]
   have:=List.Pairwise.and_mem.1 (qY (σ:=fun _=>none) hR)
   exact this.imp fun ⟨h1,h2,hne⟩ e=>hne (hinj _ h1 _ h2 e)
  ·constructor
   ·intro hy
    obtain ⟨r,hr,rfl⟩:=List.mem_map.1 hy
    obtain ⟨hl,ht⟩:=(hj.mem r).1 hr
    let τ:Asg ByteArray:=fun a=>if 0≤a∧a<S.attrs.length then some (r.v.getD a.toNat eb) else none
    have hτ:∀ a:Nat,a<S.attrs.length→τ (a:Int)=some (r.v.getD a eb):=fun a ha=>by
     show (if _ then _ else _)=_
     rw [if_pos (by omega),Int.toNat_natCast]
    refine List.mem_map.2 ⟨τ,(hmem τ).2 ⟨fun a ha=>if_neg fun hb=>?_,⟨fun a x (e:none=some x)=>(by cases e),fun p hp=>?_⟩⟩,?_⟩
    ·obtain ⟨b,rfl⟩:=Int.eq_ofNat_of_zero_le hb.1
     obtain ⟨p,hp,hm⟩:=hcov b (by omega)
     exact ha p hp hm
    ·obtain ⟨x,hx,e⟩:=j4 ht p hp
     exact ⟨x,hx,(hrow hτ p hp x hx).2 e⟩
    ·apply List.ext_getElem
     ·rw [ef,hl]
     ·intro i h1 h2
      have hi:i<S.attrs.length:=by rw [ef] at h1;exact h1
      simp only [bH,List.getElem_map,List.getElem_range,hτ i hi,Option.getD_some]
      rw [List.getD_eq_getElem?_getD,List.getElem?_eq_getElem h2];rfl
   ·intro hy
    obtain ⟨τ,hτ,rfl⟩:=List.mem_map.1 hy
    have hτ2:∀ a:Nat,a<S.attrs.length→τ (a:Int)=some ((bH S.attrs.length τ).getD a eb):=fun a ha=>by
     obtain ⟨x,hx⟩:=Option.isSome_iff_exists.1 (hdom τ hτ a ha)
     simp [bH,List.getD,ha,hx]
    have hw:∃ w,Ez (bH S.attrs.length τ) (iL S T) w:=by
     have hall:∀ p∈iL S T,∃ x∈p.2,p.1.map (fun a=>(bH S.attrs.length τ).getD a.toNat eb)=x.v:=fun p hp=>by
      obtain ⟨x,hx,hin⟩:=((hmem τ).1 hτ).2.2 p hp
      exact ⟨x,hx,(hrow hτ2 p hp x hx).1 hin⟩
     have:=sK (y:=bH S.attrs.length τ) (L:=iL S T) (g:=fun p=>((p.2.find? fun x=>decide (p.1.map (fun a=>(bH S.attrs.length τ).getD a.toNat eb)=x.v)).map (·.w)).getD 0) fun p hp=>by
      obtain ⟨x,hx,e⟩:=hall p hp
      cases hf:p.2.find? fun x=>decide (p.1.map (fun a=>(bH S.attrs.length τ).getD a.toNat eb)=x.v) with
      | none=>exact absurd (decide_eq_true e) (by simpa using List.find?_eq_none.1 hf x hx)
      | some z=>exact ⟨z,List.mem_of_find?_eq_some hf,by simpa using List.find?_some hf,rfl⟩
     exact ⟨_,this⟩
    obtain ⟨w,hw⟩:=hw
    exact List.mem_map.2 ⟨⟨bH S.attrs.length τ,w⟩,(hj.mem _).2 ⟨ef _ _,hw⟩,rfl⟩
 have:=hperm.length_eq
 rwa [List.length_map,List.length_map] at this
end
end Go.Proofs.YtjlikknopfnllaaGreatDoor
