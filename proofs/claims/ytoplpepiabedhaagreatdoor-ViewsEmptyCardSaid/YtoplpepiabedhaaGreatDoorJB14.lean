/- Lemmas. No condition. -/
import Derived.Handed
import Derived.LaidMore
import Derived.LaidLaws
import Derived.LaidHandle
import Derived.MakeChecks
import Derived.Lib.LaidTab
import Derived.Test.YtoplpepiabedhaaGreatDoorJB13
set_option maxRecDepth 100000
set_option maxHeartbeats 4000000
open Go.RowKit Go.Proofs.Tryz
namespace Go.Proofs.YtoplpepiabedhaaGreatDoor
section
open Go.RowKit Go.Shelf Mk Jn Mm Vw
theorem CW(l:List (List En))(E:List En):lstsC l++[.sl none E.length (entsC E)]=lstsC (l++[E]):=by simp[lstsC]
abbrev N8(g:Gv):Prop:=FnP prog 50 [momP g.m] (· = .tup [uT (cn g.m),.int .i64 0])
theorem HX{S:Sch}{D:VD}{T:List (List Rw)}{n:Nat}{left:Int}(VS LS:List (List En))(hn:VS.length=n)(hn2:n<=1000)(hL:LS=VS.map fG)(hE:∀E∈VS,EnOk E/\E.length<=1000/\∀e∈E,e.v.length<=1000/\N8 e.g/\MF1 (cn e.g.m))
  (hD:D.chs.length=n+1) (RS:List Int) (hR:D.chs[n]'Ts=RS) (hRl:RS.length<=1000) (Z:Nat->Gv) (h0:Z 0=Gv.whole 1)
  (hZ:∀i (hi:i<RS.length),∃r,∃hr:r<LS.length,RS[i]=(r:Int)/\FnP prog 57 [uT (cn (atV LS[r] []).m)] (· =momP (atV LS[r] []).m)/\FnP prog 56 [momP (Z i).m,momP (atV LS[r] []).m] (· =momP (Z (i+1)).m))
  (hC:N8 (Z RS.length)):∀m0 w0 F R0,AW ⟨prog,m0,w0,F,R0⟩ Tryz.f13.ntmps vbTail (HE prog Tryz.f13 Tryz.f13.ntmps (· = .tup [vwsP LS (cn (Z RS.length).m),.int .i64 0])) (mkS [(6,.ptr 9001 0),(7,.ptr 9002 0),(9,.ptr big 0)] (vbO S D T n left (VS.map some)) 0):=by
 intro m0 w0 F R0;have hLl:LS.length=n:=by rw[hL,Pg,hn]
 have hvl:(vwsC (VS.map some)).length=n*2:=by rw[ml,Pg,hn]
 have hwh:FnP prog 54 [.int .i64 1] (· =momP (Z 0).m):=by rw[h0];exact ka 1 Tu
 have hro:=Dv D n hD hn2 RS hR;refine Z1 O O<|OT (OX (o:= .cells 110 (vwsC (VS.map some))) 9004 Tt O)<|OT (St.c8 (T':=49) (cs:=[.pv nS,.pv (.str ⟨#[]⟩),.pv nS,.pv nS]) 0 0 1 1 57 Tt O O)<|Gr O ?_;iterate 6 refine A1 O ?_
 refine Gl O (st:=fun TC:Nat=>mkS [(6,.ptr 9001 0),(7,.ptr 9002 0),(9,.ptr big 0),(13,.ptr 0 0),(81,.pv (.sl (some false) n (vwsC (VS.map some)))),(82,pIi n),(83,pIi TC)] [(big,.mix 94 [.ptr 9003 0]),(0,.mix 49 [.gsl 1 1 TC,.pv (.str ⟨#[]⟩),.pv nS,.pv nS]),(1,.gro 57 (lstsC (LS.take TC))),(9001,.mix 49 [.pv nS,.pv (.str ⟨#[]⟩),.pv nS,.pv nS]),(9002,.mix 50 [pIi 0]),(9003,.mix 101 [.pv (.sl none S.attrs.length (aB S.attrs)),.pv (.sl none S.rels.length (aJ S.rels)),.pv (.sl none S.feats.length (aC S.feats)),pIi S.label,.pv (ba D.chs),.pv (ba D.kes),.pv (ba D.hos),.pv (ai D.wa),.pv (dbP T),.pv (.sl (some false) n (vwsC (VS.map some))),pIi left])] 2)
  (I:=fun TC=>TC<=n) (μ:=fun TC=>n-TC) (x0:=(0)) (OU (aS O) (aO Tt) O O) (cd _) ?_
 rintro i hi;refine Z1 O O ?_;refine Gp O O (fun hc84=>?_) (fun hc84=>?_)
 ·have hlt:i<n:=Ts;have hlV:i<VS.length:=Ts;have hlL:i<LS.length:=Ts;have hlm:i<(VS.map some).length:=by rw[Pg];exact hlV
  have hrow:=xH hlm;rw[Qm]at hrow;have hne:vwsC (VS.map some)≠[]:=fun e=>by rw[e]at hvl;simp at hvl;omega
  obtain⟨hok,hEl,hEe⟩:=hE _ (ar hlV);have hLi:LS[i]=fG VS[i]:=by simp[hL]
  have hsn:=CW (LS.take i) LS[i];rw[<-AI hlL,hLi]at hsn;have hlt2:(lstsC (LS.take i)).length=i*1:=by simp[lstsC];omega
  have hd:=JJ hok;generalize VS[i]=E at*;refine OR<|Gr O<|Rs 85 O O (ae i underlying99 zb O O O hlt hne)<|Rs 86 O O (aR ⟨_,underlying110,O⟩ zb O hrow O)<|Y2 O O<|Z1 O O<|OT (OZ 16 3 4 59 O O)<|Z2 O O O<|Rs 89 O O (iw 4 underlying107 O O) ?_;refine Gl O (st:=fun x_1:Nat×List En×List En×List PV=>mkS [(6,.ptr 9001 0),(7,.ptr 9002 0),(9,.ptr big 0),(13,.ptr 0 0),(15,.ptr 2 0),(16,.gsl 3 4 x_1.1),(81,.pv (.sl (some false) n (vwsC (VS.map some)))),(82,pIi n),(83,pIi i),(89,.ptr 4 0)] [(big,.mix 94 [.ptr 9003 0]),(0,.mix 49 [.gsl 1 1 i,.pv (.str ⟨#[]⟩),.pv nS,.pv nS]),(1,.gro 57 (lstsC (LS.take i))),(2,.mix 110 [.pv (.mp (bR E) (jA E)),.pv (.mp (bR E) (gvsV E))]),(3,.gro 59 (entsC x_1.2.2.1)),(4,.mi x_1.2.2.2 (bR x_1.2.1) (jA x_1.2.1)),(9001,.mix 49 [.pv nS,.pv (.str ⟨#[]⟩),.pv nS,.pv nS]),(9002,.mix 50 [pIi 0]),(9003,.mix 101 [.pv (.sl none S.attrs.length (aB S.attrs)),.pv (.sl none S.rels.length (aJ S.rels)),.pv (.sl none S.feats.length (aC S.feats)),pIi S.label,.pv (ba D.chs),.pv (ba D.kes),.pv (ba D.hos),.pv (ai D.wa),.pv (dbP T),.pv (.sl (some false) n (vwsC (VS.map some))),pIi left])] 5)
   (I:=fun x_1=>x_1.1=x_1.2.2.1.length/\(x_1.2.2.1++x_1.2.1).Perm E) (μ:=fun x_1=>x_1.2.1.length) (x0:=(0,E,[],[])) (OU (aS O) (aO Tt) O O) (⟨O,PY _⟩) ?_
  rintro⟨k,todo,acc,cur⟩ ⟨hk,hp⟩;try simp only at hk hp ⊢
  refine Gr O ?_;refine RL.call O (j8 O O ?_);rintro b rest cur2 ks2 vs2 hN;refine Rs 91 O O (di O O) ?_;refine Gc O O (fun hc91=>?_) (fun hc91=>?_)
  ·obtain⟨_,l1,e,l2,rfl,rfl,rfl,rfl,rfl⟩:=(jc.of hN).resolve_left (by rintro⟨h,_⟩;rw[h]at hc91;cases hc91);have hem:e∈E:=hp.mem_iff.1 Tw;obtain⟨hev,hco,_⟩:=hEe e hem;have hl2:=qt hok hem fun e=>momP e.g.m
   have hlen:acc.length<=1000:=by have:=hp.length_eq;simp at this;omega
   have hel:=tx acc;rw[<-hk]at hel hlen;have hes:=Am acc e;have hpn:((acc++[e])++(l1++l2)).Perm E:=by
    refine List.Perm.trans ?_ hp;rw[Si];exact List.Perm.append_left _ (show(e::(l1++l2)).Perm (l1++e::l2)from SU.symm)
   refine OR<|Gr O<|Rs 92 O O (iA O O) ?_;iterate 4 refine A1 O ?_
   refine Z3 O O O O<|Rs 99 O O (kW (zp:= .agg [.bool false,.sl (some true) 0 [],.bool false,.sl (some true) 0 [],.nilmap,.nilmap]) underlying108 underlying9 (.inr (.inl ⟨O,hd⟩)) O O r8 O hl2 O)<|Rs 100 O O (aa call50 hco O) ?_;iterate 6 refine A1 O ?_
   refine Gr O ?_;iterate 7 refine A1 O ?_
   exact⟨(k+1,l1++l2,acc++[e],[.str e.t,aZ e.v]),OV [0,1,2,7,4] (aT O) ⟨Tt,Tt,Tt,Tt,PG (b:=some (.gro 59 (entsC acc++entC e))) Tt (ag (fun c=>some (Ob.gro 59 c)) hes),Tt,Tt,Tt,Tt,TB⟩ O O Tu O,⟨by simp[hk],hpn⟩,Tw⟩
  ·obtain⟨_,rfl,_⟩:=(jc.of hN).resolve_right (by rintro⟨h,_⟩;rw[h]at hc91;cases hc91);rw[PZ]at hp;have hso:=zV acc (by have:=hp.length_eq;omega) (fun x hx=>by have:=(hEe x (hp.mem_iff.1 hx)).1;omega);subst hk;refine Gx O<|Z1 O O ?_;refine RL.call O (bM [3] 5 call51 O O O O (by exact⟨Tt,TB⟩) Tu O hso ?_);rintro _ _ ⟨l',hp2,ho,rfl,rfl⟩;obtain rfl:l'=fG E:=Lw hok (hp2.trans hp) ho;have hle:acc.length=(fG E).length:=hp2.length_eq.symm;rw[hle];refine OT (OX (o:= .gro 59 (entsC (fG E))) 3 Tt O)<|Gr O ?_;iterate 7 refine A1 O ?_
   exact Z2 O O O<|⟨(i+1),OV [0,6] (aT O) ⟨Tt,Tt,PG (b:=some (.gro 57 (lstsC (LS.take i)++[.sl none (fG E).length (entsC (fG E))]))) Tt (ag (fun c=>some (Ob.gro 57 c)) hsn),Tt,Tt,Tt,TB⟩ O O Tu O,hlt,Ts⟩
 ·have hie:LS.take i=LS:=aX Ts;have hil:i=LS.length:=Ts;rw[hie,hil];refine Gx O<|OT (OX (o:= .gro 57 (lstsC LS)) 1 Tt O)<|Gr O<|Rs 118 O O (aa call54 hwh O)<|Y2 O O ?_;show AW _ _ _ _ _;refine Z4 O O O O O<|Rs 123 O O (aa call55 hro O)<|Y2 O O ?_;refine Gl O (st:=fun x_2:Nat=>mkS [(6,.ptr 9001 0),(7,.ptr 9002 0),(13,.ptr 0 0),(21,.ptr 2 0),(123,.pv (ai RS)),(124,pIi RS.length),(125,pIi x_2)] [(big,.mix 94 [.ptr 9003 0]),(0,.mix 49 [.pv (.sl none LS.length (lstsC LS)),.pv (.str ⟨#[]⟩),.pv nS,.pv nS]),(2,.mix 120 [.pv (.bool (decide ((cn (Z x_2).m).c.num<0))),.pv (bF (cn (Z x_2).m).c.num.natAbs),.pv (.bool (decide (((cn (Z x_2).m).c.den:Int)<0))),.pv (bF ((cn (Z x_2).m).c.den:Int).natAbs),.pv (.mp (aD cP (cn (Z x_2).m).s) (aK (cn (Z x_2).m).s)),.pv (.mp (aD ppP (cn (Z x_2).m).p) (aK (cn (Z x_2).m).p))]),(9001,.mix 49 [.pv nS,.pv (.str ⟨#[]⟩),.pv nS,.pv nS]),(9002,.mix 50 [pIi 0]),(9003,.mix 101 [.pv (.sl none S.attrs.length (aB S.attrs)),.pv (.sl none S.rels.length (aJ S.rels)),.pv (.sl none S.feats.length (aC S.feats)),pIi S.label,.pv (ba D.chs),.pv (ba D.kes),.pv (ba D.hos),.pv (ai D.wa),.pv (dbP T),.pv (.sl (some false) n (vwsC (VS.map some))),pIi left])] 3)
   (I:=fun x_2=>x_2<=RS.length) (μ:=fun x_2=>RS.length-x_2) (x0:=(0)) (OU (aS O) (aO Tt) O O) (cd _) ?_
  rintro j hj;refine Z1 O O ?_;refine Gp O O (fun hc126=>?_) (fun hc126=>?_)
  ·have hlj:j<RS.length:=Ts;obtain⟨r,hr,hre,hof,hmu⟩:=hZ j hlj;have hrv:r<VS.length:=Ts;have hpv:(aF RS)[j*1]? =some (.int .i64 (r:Int)):=by rw[<-hre];simp[hlj]
   have hpn:=aE hlj;have hLr:LS[r]=fG VS[r]:=by simp[hL]
   obtain⟨_,hrl,hrE⟩:=hE _ (ar hrv);have hat:=Od LS ⟨#[]⟩ none none 0 0 [] [] r hr [] Tu (by rw[hLr,(fU _).length_eq];omega) (fun e he=>by rw[hLr]at he;have:=hrE e ((fU _).mem_iff.1 he);exact⟨Ts,this.2.2⟩);refine OR<|Gr O<|Rs 127 O O (ae j underlying22 sz3 O O O hlj hpn)<|Rs 128 O O (au ⟨_,underlying3,O⟩ O hpv)<|A1 O<|Ge O follows [0,1,2,3,4,5,6] Tt ?_;iterate 3 refine D1 O O ?_
   refine Ds 132 [] O O O (fun τ h=>aa call42 hat (h.aL O)) O Tt<|Ds 133 [] O O O (fun τ h=>aa call57 hof (h.aL O)) O Tt<|Ds 134 [] O O O (fun τ h=>aa call56 hmu (h.aL O)) O Tt<|D1 O O ?_;refine⟨Tt,?_⟩;exact Z2 O O O<|⟨(j+1),OU (aS O) (aO Tt) O O,hlj,Ts⟩
  ·have hje:j=RS.length:=Ts;subst hje;refine Gx O<|Z1 O O<|Rs 138 O O (aa call50 hC O) ?_;iterate 5 refine A1 O ?_
   exact Z3 O O O O<|Gt O<|⟨[.agg (.pv (.sl none LS.length (lstsC LS))::[.pv (.str (fL (cn (Z RS.length).m).c)),.pv (.sl none (cn (Z RS.length).m).s.length (gj (tmL (cn (Z RS.length).m).s))),.pv (.sl none (cn (Z RS.length).m).p.length (gm (prL (cn (Z RS.length).m).p)))]),pIi 0],[vwsP LS (cn (Z RS.length).m),.int .i64 0],res2 (T1:=49) (T2:=50) (i:=9001) (j:=9002) O ⟨_,underlying49,O⟩ sz49 O O Tt ⟨_,underlying50,O⟩ O Tt,O,O⟩
end
section
open Go.RowKit Go.Shelf Mk Jn Mm Vw
theorem AWX.weaken{C:Ctx}{n:Nat}{c:Code}{Post:Exit->Act->World->Prop}{σ τ:St}(hle:σ.le τ)(h:AWX C n c Post τ):AWX C n c Post σ:=fun a w hs=>h a w (hle C n a w hs)
section
variable {S:Sch}{P:List Int}{T:List (List Rw)}{Q:List Par}{X:Nat->List ByteArray}{lf:Int->ByteArray->Gv}
theorem A4{g:Gv}(h:GvOk Q g)(hQ:Q.length<=1000)(hw:g.w<=40000)(hk:g.k<=8):N8 g:=
 Fp (cn g.m) h.s.cn.2.2.1 h.s.cn.2.2.2 (rR h hQ hw hk)
theorem KG{g:Gv}(h:GvOk Q g)(hQ:Q.length<=1000)(hw:g.w<=40000)(hk:g.k<=8):FnP prog 57 [uT (cn g.m)] (· =momP g.m):=
 Hq (cn g.m) (xo eF h.s.cn.2.2.1) (xo cV h.s.cn.2.2.2) (rR h hQ hw hk)
theorem VB.Nb(h:VB S P T Q X lf){r:Nat}(hr:r<P.length):GvOk Q (atV (fG (vwS S P T lf r)) [])/\(atV (fG (vwS S P T lf r)) []).w<=40000/\(atV (fG (vwS S P T lf r)) []).k<=5:=by
 have hm:∀e∈fG (vwS S P T lf r),e∈vwS S P T lf r:=fun e he=>(fU _).mem_iff.1 he
 refine⟨Ou (fun e he=>(h.ev hr (hm e he)).1.ok) [],?_,?_⟩<;>
 ·unfold atV;cases he:(fG (vwS S P T lf r)).find? fun e=>decide (e.v=[])with
  |none=>exact cd _
  |some e=>first|exact(h.ev hr (hm e (RQ he))).2.1|exact(h.ev hr (hm e (RQ he))).2.2
theorem sO(rs:List Int)(r:Int)(z:Gv):totF S P T lf (rs++[r]) z=(totF S P T lf rs z).mul (atV (fG (vwS S P T lf r)) []):=by
 unfold totF;rw[Sk];rfl
theorem VB.part(h:VB S P T Q X lf):∀i,i<=(aA P (-1)).length->GvOk Q (totF S P T lf ((aA P (-1)).take i) (Gv.whole 1))/\(totF S P T lf ((aA P (-1)).take i) (Gv.whole 1)).w<=40000^i/\(totF S P T lf ((aA P (-1)).take i) (Gv.whole 1)).k<=5*i
 |0,_=>⟨GvOk.whole Q 1,BY 1,cd _⟩
 | i+1,hi=>by
   have hlt:i<(aA P (-1)).length:=Ts;obtain⟨h1,h2,h3⟩:=h.part i Ts;obtain⟨r,hr,e,_⟩:=a7.1 (ar hlt);obtain⟨g1,g2,g3⟩:=h.Nb hr;rw[AI hlt,sO,e];refine⟨h1.mul g1,?_,?_⟩
   ·show _*_<=_;rw[Rq];exact Qc h2 g2
   ·show _+_<=_;omega
theorem K6(h:VB S P T Q X lf):∀m0 w0 F R0,AW ⟨prog,m0,w0,F,R0⟩ Tryz.f13.ntmps vbTail (HE prog Tryz.f13 Tryz.f13.ntmps (· = .tup [vwsP ((List.range P.length).map fun a:Nat=>fG (vwS S P T lf a)) (cn (totV S P T lf).m),.int .i64 0])) (mkS [(6,.ptr 9001 0),(7,.ptr 9002 0),(9,.ptr big 0)] (vbO S (bh S P) T S.attrs.length (3000-(lnV S P T lf (aH P):Int)) (stV S P T lf (aH P))) 0):=by
 have hP:=h.ord.jo;have hlen:=h.ord.len;have hp5:=h.p5;have e1:stV S P T lf (aH P)=((List.range P.length).map fun a:Nat=>vwS S P T lf a).map some:=by rw[LN hP,Q3];rfl
 have hrl:=oI P (-1);have key:=HX (S:=S) (D:=bh S P) (T:=T) (n:=S.attrs.length) (left:=3000-(lnV S P T lf (aH P):Int)) ((List.range P.length).map fun a:Nat=>vwS S P T lf a) ((List.range P.length).map fun a:Nat=>fG (vwS S P T lf a)) (by simp[hlen]) Ts (by rw[Q3];rfl)
  (fun E hE=>by
   obtain⟨a,ha,rfl⟩:=IT.1 hE;have ha:=P0.1 ha;refine⟨I9 a,by have:=h.len ha;omega,fun e he=>?_⟩;obtain⟨g1,g2,g3⟩:=h.ev ha he;refine⟨?_,A4 g1.ok h.q g2 Ts,rR g1.ok h.q g2 Ts⟩;rw[g1.v.len];have:=vT S P a;omega)
  (by simp[bh,aW,hlen]) (aA P (-1)) (by simp[bh,List.getElem_append,aW,hlen]) Ts
  (fun i=>totF S P T lf ((aA P (-1)).take i) (Gv.whole 1)) O
  (fun i hi=>by
   obtain⟨r,hr,e,_⟩:=a7.1 (ar hi);obtain⟨g1,g2,g3⟩:=h.Nb hr;obtain⟨p1,p2,p3⟩:=h.part i Ts;refine⟨r,by simpa using hr,e,?_,?_⟩
   ·rw[Qm,List.getElem_range];exact KG g1 h.q g2 Ts
   ·rw[Qm,List.getElem_range];have hw:40000^i<=10^50:=IS (Ro Tu (show i<=5 by omega)) (by decide+kernel);have hm:=rf p1.s g1.s (IS p2 hw) (IS g2 (by decide+kernel)) Ts Ts;have e2:totF S P T lf ((aA P (-1)).take (i+1)) (Gv.whole 1)=(totF S P T lf ((aA P (-1)).take i) (Gv.whole 1)).mul (atV (fG (vwS S P T lf r)) []):=by
     rw[AI hi,sO,e]
    show FnP _ _ _ (· =momP (totF S P T lf ((aA P (-1)).take (i+1)) (Gv.whole 1)).m);rw[e2];exact hm)
  (by
   show N8 (totF S P T lf ((aA P (-1)).take (aA P (-1)).length) (Gv.whole 1));have hk:=(h.part (aA P (-1)).length (BY _)).1;rw[SS]at hk ⊢;exact A4 hk h.q h.tot (IS (M4 hP fun v t=>Qp (h.lfx.k v t)) Ts))
 rw[<-e1]at key;simp only[SS]at key;exact key
theorem Kx(z:PV)(m:Nat):mkZ [z,z] m=List.replicate m z:=by
 unfold mkZ;apply Qu
 ·simp
 ·intro i h1 h2;simp only[Qm,List.getElem_range,List.getElem_replicate,Pd,Rt];have:i%2=0\/i%2=1:=Ts;rcases this with e|e<;>simp[e]
theorem KH:vwsC (stV S P T lf [])=List.replicate (P.length*2) .nilmap:=by
 have e:stV S P T lf []=List.replicate P.length none:=by
  unfold stV;apply Qu
  ·simp
  ·intro i h1 h2;simp
 rw[e];have:∀n,vwsC (List.replicate n none)=List.replicate (n*2) PV.nilmap:=fun n=>by
  induction n with
  |zero=>rfl
  | succ n ih=>
    rw[Ss];show vwC none++vwsC (List.replicate n none)=_;rw[ih,show(n+1)*2=n*2+1+1 by omega,Ss,Ss];rfl
 exact this _
end
section
variable {S:Sch}{P:List Int}{Q:List Par}{X:Nat->List ByteArray}{lf:Int->ByteArray->Gv}
theorem pn(d:List (List Rw))(h:VB S P (dM S d) Q X lf)(hd:d.length=S.rels.length)(hl:∀l∈d,l.length<=60)(hv:∀r (h:r<d.length) (h2:r<S.rels.length),∀x∈d[r],x.v.length=S.rels[r].2.length)(h0:bp S=0)(hck:FnP prog 111 [eZ S,dbP d] (· = .int .i64 0)):
  FnP prog 13 [eZ S,lR P,dbP d] (· = .tup [vwsP ((List.range P.length).map fun a:Nat=>fG (vwS S P (dM S d) lf a)) (cn (totV S P (dM S d) lf).m),.int .i64 0]):=by
 have hT:=K6 h;have hp5:=h.p5;have hlen:=h.ord.len;have hbe:=GA S h.sb P Ts (gU.2 ⟨h0,h.ord⟩) d hck;have hly:=JN S h.sb P h.ord;have hbw:=MY (aH P);have hr:=h.sj.r;have hall:=Ec hd;have hdl:=er d;have hz:mkZ [PV.nilmap,PV.nilmap] (S.attrs.length*2)=vwsC (stV S P (dM S d) lf []):=by rw[Kx,KH,hlen]
 have hpl:(dM S d).length=S.rels.length:=by unfold dM;simp[hd]
 refine FnP.marks func13 O (n:=Tryz.f13.ntmps) O (by rw[ntmps13];show 3<=143;decide) fun w R0 hdf=>?_
 have hlo:=L9 h hT w R0 hdf;have han:S.attrs.length<=1000:=h.sj.a;clear hT
 repeat first|refine O4 ?_|refine AWX.seq ?_
 refine AW.region ?_;iterate 4 refine A1 O ?_
 repeat first|refine O4 ?_|refine AWX.seq ?_
 refine AW.region<|Y3 O O O<|Rs 27 O O (aa call45 hbe O)<|A1 O ?_
 repeat first|refine O4 ?_|refine AWX.seq ?_
 refine AW.region<|Y2 O O ?_;refine Gc O O (fun hc29=>absurd hc29 Tu) (fun hc29=>?_);refine OR ?_
 repeat first|refine O4 ?_|refine AWX.seq ?_
 refine AW.draw follows [[],[],[],[2,1],[],[4],[5,4],[6,5,4],[7,3,0,2,1,6,5,4],[8,7,3,0,2,1,6,5,4],[],[9,10,8,7,3,0,2,1,6,5,4]] [0,1,2,3,4,5,6,7,8,9,10,11] Tt Tt ?_;iterate 3 refine D1 O O ?_
 refine Ds 35 [] O O O (fun τ h=>aa call46 hly (h.aL O)) O Tt ?_;iterate 8 refine D1 O O ?_
 refine⟨Tt,?_⟩;refine AWX.weaken (St.c8 (T':=101) (cs:=[.pv (.sl none S.attrs.length (aB S.attrs)),.pv (.sl none S.rels.length (aJ S.rels)),.pv (.sl none S.feats.length (aC S.feats)),pIi S.label,.pv (ba (bh S P).chs),.pv (ba (bh S P).kes),.pv (ba (bh S P).hos),.pv (ai (bh S P).wa),.pv nS,.osl 4 2 S.attrs.length,pIi 3000]) 5 8 7 1 38 Tt O O) ?_
 repeat first|refine O4 ?_|refine AWX.seq ?_
 refine AW.region ?_;iterate 4 refine A1 O ?_
 refine Gl O (st:=fun TC:Nat×List (List Rw)=>mkS [(2,.pv (dbP d)),(3,.ptr 0 0),(6,.ptr 2 0),(7,.ptr 3 0),(9,.ptr 6 0),(44,pIi S.rels.length),(45,pIi TC.1)] [(0,oZ S),(2,.mix 49 [.pv nS,.pv (.str ⟨#[]⟩),.pv nS,.pv nS]),(3,.mix 50 [pIi 0]),(4,.cells 110 (mkZ [PV.nilmap,PV.nilmap] (S.attrs.length*2))),(5,.mix 101 [.pv (.sl none S.attrs.length (aB S.attrs)),.pv (.sl none S.rels.length (aJ S.rels)),.pv (.sl none S.feats.length (aC S.feats)),pIi S.label,.pv (ba (bh S P).chs),.pv (ba (bh S P).kes),.pv (ba (bh S P).hos),.pv (ai (bh S P).wa),.gsl 7 1 TC.2.length,.osl 4 2 S.attrs.length,pIi 3000]),(6,.mix 94 [.ptr 5 0]),(7,.gro 38 (dC TC.2))] 8)
  (I:=fun TC=>TC.1<=S.rels.length/\TC.2=sE S d TC.1) (μ:=fun TC=>S.rels.length-TC.1) (x0:=(0,[])) (OU (aS O) (aO Tt) O O) (⟨cd _,by simp[sE]⟩) ?_
 rintro⟨k,q⟩ ⟨hk,hq⟩;try simp only at hk hq ⊢
 repeat first|refine O4 ?_|refine AWX.seq ?_
 refine AW.region<|A1 O ?_;refine Gp O O (fun hc46=>?_) (fun hc46=>?_)
 ·have hlt:k<S.rels.length:=Ts;have hkd:k<d.length:=Ts;have htr:=xO hkd;have htn:=wG hkd;have hlv:=Be S h.sj k hlt d[k] (by have:=hl _ (ar hkd);omega) (hv k hkd hlt);have hsu:=Al hd hlt;have hqk:=El hd hk;rw[<-hq]at hqk hsu;have hql:(dC q).length=q.length*1:=er q;have hsn:=w4 q (o6 S S.rels[k].2 d[k]);generalize o6 S S.rels[k].2 d[k]=lv at*;generalize d[k]=tk at*;refine OR ?_
  repeat apply O4
  refine AW.block ?_
  repeat first|refine O4 ?_|refine AWX.seq ?_
  refine AW.region<|Y2 O O ?_
  repeat first|refine O4 ?_|refine AWX.seq ?_
  refine AW.draw follows [[],[],[1],[2,1],[3,2,1],[],[],[],[],[8,7],[9,8,7],[10,6,5,9,8,7],[11,10,6,5,9,8,7],[12,4,3,2,1,11,10,6,5,9,8,7],[13,12,11,10,9,8,7,6,5,4,3,2,1,0],[14,13,12,11,10,9,8,7,6,5,4,3,2,1,0],[15,14,13,12,11,10,9,8,7,6,5,4,3,2,1,0]] [0,1,2,3,4,5,6,7,8,9,10,11,12,13,14,15,16] Tt Tt ?_;iterate 9 refine D1 O O ?_
  refine Ds 57 [] O O O (fun τ h=>ae k underlying34 sz38 (Ee h 0 O O) (Ee h 1 O O) O hkd htn) O Tt<|Ds 58 [] O O O (fun τ h=>au ⟨_,underlying38,O⟩ (Ee h 0 O O) htr) O Tt<|Ds 59 [] O O O (fun τ h=>aa call47 hlv (h.aL O)) O Tt ?_;iterate 5 refine D1 O O ?_
  refine⟨Tt,?_⟩
  repeat first|refine O4 ?_|refine AWX.seq ?_
  exact AW.region<|Y2 O O<|⟨(k+1,q++[lv]),OV [0,1,2,3,4,5,6,9] (aT O) ⟨Tt,Tt,Tt,Tt,PG (b:=some (.mix 101 [.pv (.sl none S.attrs.length (aB S.attrs)),.pv (.sl none S.rels.length (aJ S.rels)),.pv (.sl none S.feats.length (aC S.feats)),pIi S.label,.pv (ba (bh S P).chs),.pv (ba (bh S P).kes),.pv (ba (bh S P).hos),.pv (ai (bh S P).wa),.gsl 9 1 (q.length+1),.osl 4 2 S.attrs.length,pIi 3000])) Tt (ag (fun n=>some (Ob.mix 101 [.pv (.sl none S.attrs.length (aB S.attrs)),.pv (.sl none S.rels.length (aJ S.rels)),.pv (.sl none S.feats.length (aC S.feats)),pIi S.label,.pv (ba (bh S P).chs),.pv (ba (bh S P).kes),.pv (ba (bh S P).hos),.pv (ai (bh S P).wa),.gsl 9 1 n,.osl 4 2 S.attrs.length,pIi 3000])) (jJ q lv)),Tt,PG (b:=some (.gro 38 (dC q++[mf lv]))) Tt (ag (fun c=>some (Ob.gro 38 c)) hsn),TB⟩ O O Tu O,⟨Tz,by simp only;rw[hsu]⟩,Tz⟩
 ·have hqf:q=dM S d:=by rw[hq,show k=S.rels.length by omega,hall]
  rw[hqf];refine Gx O<|AWX.weaken (OX 7 O O)<|AWX.seq2<|AW.region ?_;iterate 5 refine A1 O ?_
  refine Rs 70 O O (aa call48 hbw O) ?_;refine AWX.weaken (τ:=mkS [(6,.ptr 2 0),(7,.ptr 3 0),(9,.ptr 6 0),(70,.pv (.fn (.func 118) [] [.rp [ai (aH P)] 0]))] (vbS S (bh S P) (dM S d) S.attrs.length 3000 (stV S P (dM S d) lf [])) 7) (OU (aS O) ⟨Tt,Tt,?_,Tt,Tt,TB⟩ O O) hlo;exact PG (b:=some (Ob.cells 110 (mkZ [PV.nilmap,PV.nilmap] (S.attrs.length*2)))) Tt (ag (fun c=>some (Ob.cells 110 c)) hz)
end
end


section
open Mk Jn
abbrev t1:ByteArray:=⟨#[49]⟩
theorem zf_of{y:ByteArray}(h:y.data.toList.all (· !=0)=true):Zf y:=fun hm=>by
 have:=IN.1 h _ hm;simp at this
end
section
open Mk Jn
theorem LK{v:ByteArray}{kd:Int}(h:v∈gM kd):Zf v/\v.size<=10000:=by
 have hz:∀l:List ByteArray,(∀y∈l,y.data.toList.all (· !=0)=true/\y.size<=10000)->v∈l->Zf v/\v.size<=10000:=fun l hl hm=>⟨zf_of (hl v hm).1,(hl v hm).2⟩
 unfold gM at h;split at h
 ·exact hz _ Tu h
 ·split at h
  ·exact hz _ Tu h
  ·exact hz _ Tu h
theorem CC{l:List Rw}{B:Int}(h:∀x∈l,x.w<=B):lT l<=B*l.length:=by
 unfold lT;induction l with
 |nil=>simp
 | cons x l ih=>
   have h1:=h x Tw;have h2:=ih fun y hy=>h y (by simp[hy])
   simp only[bL,PM,Pd];rw[Int.natCast_add,Int.mul_add];have:B*((1:Nat):Int)=B:=Tw;omega
theorem qy{S:Sch}{A:List Int}(hk:∀a∈S.attrs,a.2=1\/a.2=2\/a.2=3)(hA:∀a∈A,0<=a/\a<S.attrs.length){most:Nat}(hm:most<=20){l:List Rw}(h:MdT S A most l):TblOk S A 1 l/\l.length<=most/\(∀x∈l,∀y∈x.v,Zf y/\y.size<=10000)/\∀x∈l,x.w<=5*most:=by
 obtain⟨l0,rfl,hl,hx⟩:=h;have hp:∀z∈l0,0<z.w:=fun z hz=>by have:=(hx z hz).1;omega
 have hs:=iN hp;have ht:lT l0<=5*l0.length:=CC fun x hx'=>(hx x hx').1.2
 have hmd:∀x∈lY l0,MdV S A x.v:=fun x hx'=>by
  obtain⟨z,hz,e⟩:=hs.val x hx';rw[e];exact(hx z hz).2
 have hw5:∀x∈lY l0,x.w<=5*most:=fun x hx'=>by
  have h1:=EE (hs.pos hp) x hx';rw[hs.tot]at h1;omega
 refine⟨⟨fun x hx'=>⟨(hmd x hx').1,fun i h1 h2 nm=>?_,?_⟩,hs.asc⟩,IS hs.len hl,fun x hx' y hy=>?_,hw5⟩
 ·have hv:=(hmd x hx').2 i h1 h2;have hr:=hA _ (ar h2);refine AD nm _ _ ?_ hv;have hlt:A[i].toNat<S.attrs.length:=Ts;rw[pt hlt];exact hk _ (ar hlt)
 ·have h1:=hs.pos hp x hx';have h2:=hw5 x hx';omega
 ·obtain⟨i,hi,rfl⟩:=Sb.1 hy;have hm2:=hmd x hx';exact LK (hm2.2 i hi (by rw[<-hm2.1];exact hi))
theorem CV{S:Sch}(hB:SB S)(hc:bp S=0)(hS:SJn S)(hk:∀a∈S.attrs,a.2=1\/a.2=2\/a.2=3){most:Nat}(hm:most<=12){d:List (List Rw)}(hd:d.length=S.rels.length)(ht:∀i (h:i<d.length) (h2:i<S.rels.length),MdT S S.rels[i].2 most d[i]):DbOk S d where
 hB:=hB
 hc:=hc
 hS:=hS
 n:=hd
 l:=fun l hl=>by
  obtain⟨i,hi,rfl⟩:=Sb.1 hl;have:=(qy hk (hS.b _ (ar (show i<S.rels.length by omega))) Ts (ht i hi Ts)).2.1;omega
 t:=fun r h h2=>(qy hk (hS.b _ (ar h2)) Ts (ht r h h2)).1
 zf:=fun l hl=>by
  obtain⟨i,hi,rfl⟩:=Sb.1 hl;exact(qy hk (hS.b _ (ar (show i<S.rels.length by omega))) Ts (ht i hi Ts)).2.2.1
def v0(x:Rw):ByteArray:=x.v.getD 0 eb
end
section
open Mk Jn

theorem M6{S:Sch}{d:List (List Rw)}(h:DbOk S d)(k:Nat):DbOk S (d.set k []) where
 hB:=h.hB
 hc:=h.hc
 hS:=h.hS
 n:=by rw[PO];exact h.n
 l:=fun l hl=>by
  rcases RR hl with h2|rfl
  ·exact h.l l h2
  ·simp
 t:=fun r h1 h2=>by
  rw[SQ];split
  ·exact⟨fun x hx=>by simp at hx,List.Pairwise.nil⟩
  ·exact h.t r (by simpa using h1) h2
 zf:=fun l hl=>by
  rcases RR hl with h2|rfl
  ·exact h.zf l h2
  ·simp
end
section
open Mk Jn
theorem Iq(d:List (List Rw)):∀c∈dC d,c.leaf=true:=fun c hc=>by
 simp only[dC,IT]at hc;obtain⟨l,_,rfl⟩:=hc;rfl
theorem Bj:∀cs:List PV,PV.fgL cs=cs.map PV.fg1
 |[]=>rfl
 |_::cs=>ag _ (Bj cs)
theorem Mz(d:List (List Rw))(i:Nat):PV.fgL ((dC d).set (i*1) nS)=dC (d.set i []):=by
 rw[Bj,Qi,PX];unfold dC;rw[Qi,Q3];rfl
theorem zj{S:Sch}{most:Nat}(h:Made S most):∀a∈S.attrs,a.2=1\/a.2=2\/a.2=3:=fun a ha=>by
 obtain⟨i,hi,rfl⟩:=Sb.1 ha;have:=h.at' i hi;omega
theorem rq{S:Sch}(h:Made S 5):SJn S:=
 Oh (gH (iS h Tu)) (by have:=h.r2;omega) fun x hx=>by
  obtain⟨i,hi,rfl⟩:=Q0 hx;have:=nv (h.rs i hi).2.2.1 (h.rs i hi).2.2.2;have:=h.a2;omega
theorem LD{S:Sch}{d:List (List Rw)}(hM:Made S 5)(hd:MdD S 4 S.rels.length d):DbOk S d:=
 CV (qU hM Tu) (iS hM Tu) (rq hM) (zj hM) (most:=4) Tu hd.1 hd.2
end
section
open Go.RowKit Mk Jn Mm Vw
namespace Vw
def dF:List (ByteArray×Rat):=[(⟨#[48]⟩,0),(⟨#[49]⟩,1),(⟨#[45,50]⟩, -2),(⟨#[49,47,50]⟩,1/2),(⟨#[51]⟩,3),(⟨#[53,47,51]⟩,5/3),(⟨#[50]⟩,2)]
def qM(v:ByteArray):Rat:=match dF.find? (fun p=>decide (p.1=v))with|some p=>p.2|none=>0
theorem H3(v:ByteArray):db 6 (qM v)/\a6 3 (qM v):=by
 have key:∀p∈dF,db 6 p.2/\a6 3 p.2:=by
  intro p hp;simp only[dF,AS,P7,R6]at hp;rcases hp with rfl|rfl|rfl|rfl|rfl|rfl|rfl
  ·exact⟨⟨0,by decide+kernel⟩,⟨by decide+kernel,by decide+kernel⟩⟩
  ·exact⟨⟨6,by decide+kernel⟩,⟨by decide+kernel,by decide+kernel⟩⟩
  ·exact⟨⟨-12,by decide+kernel⟩,⟨by decide+kernel,by decide+kernel⟩⟩
  ·exact⟨⟨3,by decide+kernel⟩,⟨by decide+kernel,by decide+kernel⟩⟩
  ·exact⟨⟨18,by decide+kernel⟩,⟨by decide+kernel,by decide+kernel⟩⟩
  ·exact⟨⟨10,by decide+kernel⟩,⟨by decide+kernel,by decide+kernel⟩⟩
  ·exact⟨⟨12,by decide+kernel⟩,⟨by decide+kernel,by decide+kernel⟩⟩
 unfold qM;cases h:dF.find? (fun p=>decide (p.1=v))with
 |none=>exact⟨⟨0,by decide+kernel⟩,a6.zero 3⟩
 |some p=>exact key p (RQ h)
theorem qM_vq{v:ByteArray}(h:v∈AQ):VQ qM v:=by
 have key:∀x:ByteArray,x=fL (qM x)->F1 (qM x)->VQ qM x:=fun x e h1=>by
  refine⟨?_,(H3 x).1,(H3 x).2⟩;have h2:=mq (qM x) h1;rw[<-e]at h2;exact h2
 simp only[AQ,AS,P7,R6]at h;rcases h with rfl|rfl|rfl|rfl|rfl|rfl|rfl|rfl<;>exact key _ (by decide+kernel) ⟨by decide+kernel,by decide+kernel⟩
def Jb:List ByteArray:=⟨#[]⟩::(Jx++(sV++AQ))
theorem sK{kd:Int}{v:ByteArray}(h:v∈gM kd):v∈Jb:=by
 unfold gM at h;unfold Jb;rcases AS.1 h with h|h
 ·simp[h]
 ·refine PH _ ?_;split at h
  ·exact Rn _ h
  ·split at h
   ·exact Rh _ (Rn _ h)
   ·exact Rh _ (Rh _ h)
def QM(S:Sch):List Par:=⟨-1,⟨#[]⟩⟩::(List.range S.feats.length).flatMap fun i:Nat=>Jb.map fun t=>⟨(i:Int),t⟩
theorem Ja{S:Sch}{i:Nat}(hi:i<S.feats.length){t:ByteArray}(ht:t∈Jb):(⟨(i:Int),t⟩:Par)∈QM S:=
 PH _ (P5.2 ⟨i,P0.2 hi,IT.2 ⟨t,ht,O⟩⟩)
theorem Nk(S:Sch):(QM S).length=S.feats.length*15+1:=by
 unfold QM;rw[Pd];have:∀n,((List.range n).flatMap fun i:Nat=>Jb.map fun t=>(⟨(i:Int),t⟩:Par)).length=n*15:=fun n=>by
  induction n with
  |zero=>rfl
  | succ n ih=>
    rw[SL,PS,Ph,ih,Py,Sx,PZ,Pg,show Jb.length=15 from O];omega
 rw[this]
noncomputable def lfM(S:Sch):Int->ByteArray->Gv:=fun v t=>⟨liftS qM S v t,1,1,1⟩
def XM(S:Sch)(a:Nat):List ByteArray:=gM (S.attrs.getD a default).2
theorem xk{n:Nat}(h:n<=1):SOk 1 1 (cnt n):=(kU n).up h Tu
theorem Gb(S:Sch):LfX (QM S) (XM S) (lfM S):=by
 refine⟨fun v t ht=>?_,fun _ _=>rfl,fun _ _=>rfl,fun _ _=>rfl,fun a=>PU⟩;have hta:t∈Jb:=sK ht;have hlf:∀p∈QM S,GvOk (QM S) ⟨lft p (qM t),1,1,1⟩:=fun p hp=>⟨C9 p (qM t) (H3 t).1 (H3 t).2,Sup.lft hp _⟩
 have hc:∀n:Nat,n<=1->GvOk (QM S) ⟨cnt n,1,1,1⟩:=fun n hn=>⟨xk hn,Sup.cnt _ _⟩
 show GvOk (QM S) ⟨liftS qM S v t,1,1,1⟩;unfold liftS;split
 ·split
  ·exact hc 0 Tu
  ·exact hlf _ PU
 ·cases hf:S.feats.findIdx? (fun f=>f.1==v)with
  |none=>exact hc 1 Tu
  | some i=>
    have hi:i<S.feats.length:=(Rj.1 hf).1;simp only;split
    ·exact⟨C9 _ 1 (db.ofInt 6 1) ⟨by decide+kernel,by decide+kernel⟩,Sup.lft (Ja hi hta) _⟩
    ·split
     ·split
      ·exact hc 0 Tu
      ·exact hc 1 Tu
     ·exact hlf _ (Ja hi PU)
theorem Ff{S:Sch}(hM:Made S 5)(v:Nat)(t:ByteArray)(ht:t∈XM S v):FnP prog 121 [eZ S,.int .i64 v,.str t] (· =momP (lfM S v t).m):=by
 have hfl:=eu hM.fs;have ha:=hM.a2;refine tg qM S v t Ts fun hne hor=>?_
 have hk:(S.attrs.getD v default).2=2:=by
  rcases hor with e|⟨i,hi,hk⟩
  ·rcases hM.fs.2.2 with h|⟨a,h1,h2,h3⟩
   ·omega
   ·have:a=v:=Ts;subst this;exact h3
  ·obtain⟨hlt,hp,_⟩:=Rj.1 hi;obtain⟨a,h1,h2,h3,h4⟩:=hM.fs.2.1 _ (ar hlt);have e:S.feats.getD i default=S.feats[i]:=by simp[List.getD,hlt]
   rw[e]at hk;have:a=v:=by
    have hp2:S.feats[i].1=(v:Int):=by simpa using hp
    omega
   subst this;rcases h4 with h4|h4
   ·exact h4.2.1
   ·exact absurd h4.1 hk
 have hm:t∈gM 2:=by
  have:=ht;unfold XM at this;rw[hk]at this;exact this
 rcases AS.1 hm with h|h
 ·exact absurd h hne
 ·exact qM_vq (by simpa using h)
structure WD(S:Sch)(T:List (List Rw)):Prop where
 len:T.length=S.rels.length
 l:∀l∈T,l.length<=4
 w:∀l∈T,∀x∈l,0<=x.w
 s:∀l∈T,lT l<=20
 v:∀r (h:r<T.length) (h2:r<S.rels.length),∀x∈T[r],MdV S S.rels[r].2 x.v
theorem H2{l m:List Rw}(h:List.Sublist l m)(hw:∀x∈m,0<=x.w):lT l<=lT m:=by
 induction h with
 |slnil=>exact Int.le_refl _
 | cons a h ih=>
   have h1:=ih fun x hx=>hw x (by simp[hx])
   have h2:=hw a Tw;simp only[lT,bL,PM]at h1 ⊢;omega
 | cons_cons a h ih=>
   have h1:=ih fun x hx=>hw x (by simp[hx])
   simp only[lT,bL,PM]at h1 ⊢;omega
theorem J6{S:Sch}{d:List (List Rw)}(hd:MdD S 4 S.rels.length d)(k:Nat):WD S (dM S (d.set k [])):=by
 have hlen:(dM S (d.set k [])).length=S.rels.length:=by unfold dM;simp[hd.1]
 have key:∀r (h:r<(dM S (d.set k [])).length),∃(h1:r<d.length)(h2:r<S.rels.length)(l0:List Rw),d[r]=lY l0/\l0.length<=4/\(∀x∈l0,MdR S S.rels[r].2 x)/\List.Sublist (dM S (d.set k []))[r] (lY l0):=fun r h=>by
  have h2:r<S.rels.length:=Ts;have h1:r<d.length:=by have:=hd.1;omega
  obtain⟨l0,e,hl,hx⟩:=hd.2 r h1 h2;refine⟨h1,h2,l0,e,hl,hx,?_⟩;have e2:(dM S (d.set k []))[r]=o6 S S.rels[r].2 ((d.set k [])[r]'(by rw[PO];exact h1)):=by simp[dM]
  rw[e2,SQ];split
  ·have:o6 S S.rels[r].2 []=[]:=rfl;rw[this];exact List.nil_sublist _
  ·rw[e];exact Ri
 have pos:∀{A:List Int}{l0:List Rw},(∀x∈l0,MdR S A x)->∀z∈l0,0<z.w:=fun h z hz=>by have:=(h z hz).1;omega
 refine⟨hlen,fun l hl=>?_,fun l hl x hx=>?_,fun l hl=>?_,fun r h h2 x hx=>?_⟩
 ·obtain⟨r,hr,rfl⟩:=Sb.1 hl;obtain⟨h1,h2,l0,e,hl0,hx0,hs⟩:=key r hr;exact IS hs.length_le (IS (iN (pos hx0)).len hl0)
 ·obtain⟨r,hr,rfl⟩:=Sb.1 hl;obtain⟨h1,h2,l0,e,hl0,hx0,hs⟩:=key r hr;have:=(iN (pos hx0)).pos (pos hx0) x (hs.subset hx);omega
 ·obtain⟨r,hr,rfl⟩:=Sb.1 hl;obtain⟨h1,h2,l0,e,hl0,hx0,hs⟩:=key r hr;have h3:=H2 hs fun x hx=>by have:=(iN (pos hx0)).pos (pos hx0) x hx;omega
  rw[(iN (pos hx0)).tot]at h3;have h4:lT l0<=5*l0.length:=CC fun x hx=>(hx0 x hx).1.2
  omega
 ·obtain⟨h1,_,l0,e,hl0,hx0,hs⟩:=key r h;obtain⟨z,hz,ez⟩:=(iN (pos hx0)).val x (hs.subset hx);rw[ez];exact(hx0 z hz).2
theorem nL:∀{l:List Rw},(∀x∈l,0<=x.w)->(((l.map fun x=>x.w.toNat).sum:Nat):Int)=lT l
 |[],_=>rfl
 | x::l,h=>by
   have h1:=nL (l:=l) fun y hy=>h y (by simp[hy])
   have h2:=h x Tw;simp only[lT,bL,PM]at h1 ⊢;omega
theorem NB{S:Sch}{T:List (List Rw)}(h:WD S T)(r:Int):wT S T Gv.n r<=4:=by
 unfold wT Prt.tot eT;simp only[Q3];have e:∀l:List Rw,(l.map ((fun i:Itm=>i.g.n)∘fun x:Rw=>(⟨x.v,Gv.whole x.w.toNat⟩:Itm))).sum=l.length:=fun l=>by
  induction l with
  |nil=>rfl
  |cons a l ih=>rw[bL,PM,ih,Pd];show 1+_=_;omega
 rw[e];unfold l6;rw[Pk];cases hg:T[r.toNat]? with
 |none=>exact cd _
 |some l=>exact h.l l (Qv hg)
theorem Jw{S:Sch}{T:List (List Rw)}(h:WD S T)(r:Int):wT S T Gv.w r<=20:=by
 unfold wT Prt.tot eT;simp only[Q3];show(List.map (fun x:Rw=>x.w.toNat) (l6 T r)).sum<=20;unfold l6;rw[Pk];cases hg:T[r.toNat]? with
 |none=>exact cd _
 | some l=>
   have hm:=Qv hg;have h1:=nL (h.w l hm);have h2:=h.s l hm;show(List.map (fun x:Rw=>x.w.toNat) l).sum<=20;omega
theorem L0{S:Sch}{P:List Int}{T:List (List Rw)}(hM:Made S 5)(hO:OrdOk S P)(hT:WD S T):VB S P T (QM S) (XM S) (lfM S):=by
 have hP:=hO.jo;have hlen:=hO.len;have ha1:=hM.a1;have ha2:=hM.a2;have hr2:=hM.r2;have hfl:=eu hM.fs;have p4:4^S.rels.length<=64:=IS (Ro Tu hr2) Tu;have p20:20^S.rels.length<=8000:=IS (Ro Tu hr2) Tu;have hn:=fun{v:Nat}(hv:v<P.length)=>Cg (S:=S) (T:=T) (lf:=lfM S) hP msr_n (fun _ _=>rfl) O (show 1<=4 by decide) (NB hT) hv
 have hw:=fun{v:Nat}(hv:v<P.length)=>Cg (S:=S) (T:=T) (lf:=lfM S) hP EN (fun _ _=>rfl) O (show 1<=20 by decide) (Jw hT) hv
 refine⟨qU hM Tu,rq hM,hO,Ts,Ts,hr2,hT.len,fun l hl=>by have:=hT.l l hl;omega,fun l hl x hx=>⟨hT.w l hl x hx,?_⟩,by rw[Nk];omega,fun a t ht=>?_,Gb S,fun v hv t ht=>Ff hM v t ht,fun r x hx=>?_,fun v hv=>by have:=hn hv;omega,fun v hv=>by have:=hw hv;omega,?_⟩
 ·have h1:=hT.s l hl;have h2:=nL (hT.w l hl);have h3:x.w.toNat<=(l.map fun x=>x.w.toNat).sum:=by
   have:∀m:List Rw,x∈m->x.w.toNat<=(m.map fun x=>x.w.toNat).sum:=fun m hm=>by
    induction m with
    |nil=>simp at hm
    | cons b m ih=>
      rw[bL,PM];rcases AS.1 hm with rfl|hm
      ·omega
      ·have:=ih hm;omega
   exact this l hx
  omega
 ·have h1:=sK ht;have:∀x∈Jb,x.size<=1000:=by decide+kernel
  exact this t h1
 ·unfold l6 at hx;rw[Pk]at hx;cases hg:T[r.toNat]? with
  |none=>rw[hg]at hx;simp at hx
  | some l=>
    obtain⟨hr,e⟩:=Pf.1 hg;rw[hg]at hx;have hr3:r.toNat<S.rels.length:=by have:=hT.len;omega
    have hm:=hT.v r.toNat hr hr3 x (by rw[e];exact hx);have e2:oT S r=S.rels[r.toNat].2:=by simp[oT,List.getD,hr3]
    rw[e2];exact⟨hm.1,hm.2⟩
 ·have h1:=xN (S:=S) (P:=P) (T:=T) (lf:=lfM S) EN O (rs:=aA P (-1)) (z:=Gv.whole 1);have h2:=A8 (S:=S) (T:=T) (lf:=lfM S) hP EN (fun _ _=>rfl) O (show 1<=20 by decide) (Jw hT);have e:(Gv.whole 1).w=1:=rfl;rw[e,Nat.one_mul]at h1;unfold totV;omega
end Vw
end
section
open Go.RowKit Mk Jn Mm Vw
namespace Vw
abbrev t1:ByteArray:=⟨#[49]⟩
abbrev t7:ByteArray:=⟨#[55]⟩
abbrev t3:ByteArray:=⟨#[51]⟩
abbrev t8:ByteArray:=⟨#[56]⟩
abbrev exD:List (List Rw):=[[⟨[t1,t7],2⟩],[⟨[t7,t3],5⟩,⟨[t8,t3],1⟩]]
abbrev cg(w n k:Nat):Gv:=⟨cnt w,n,w,k⟩
theorem xP(a b:Nat):Mm.Sem.mul (cnt a) (cnt b)=cnt ((a*b:Nat):Int):=by
 refine Mm.Sem.same ?_ (fun x=>?_) (fun x y=>?_)
 ·show((a:Int):Rat)*((b:Int):Rat)=(((a*b:Nat):Int):Rat);rw[<-RY];rfl
 ·show((a:Int):Rat)*0+((b:Int):Rat)*0=0;rw[Tp,Tp,S7]
 ·show((a:Int):Rat)*0+((b:Int):Rat)*0+(0*0+0*0)=0;rw[Tp,Tp,Tp,S7,S7]
theorem oq(a b n m k l:Nat):(cg a n k).mul (cg b m l)=cg (a*b) (n*m) (k+l):=by
 unfold Gv.mul;rw[xP]
theorem cg_nz{a n k:Nat}(h:a≠0):(cg a n k).m≠Mm.Sem.zero:=fun e=>by
 have h1:((a:Int):Rat)=0:=ag Mm.Sem.c e;have h2:(a:Int)=0:=Rat.intCast_inj.1 h1;omega
def lfC:Int->ByteArray->Gv:=fun _ _=>cg 1 1 1
def XC:Nat->List ByteArray:=fun _=>[⟨#[]⟩,t1,t7,t3,t8]
theorem mG{v:Int}{K:List Int}{E:List En}{x:Ch}{a n k:Nat}(h:a≠0):stepE (lfC v) v K E (x,cg a n k)=s5 E (jl K x) (cg a n (k+1)):=by
 unfold stepE;have e:(cg a n k).mul (lfC v (x.v.getD v.toNat ⟨#[]⟩))=cg a n (k+1):=by
  show(cg a n k).mul (cg 1 1 1)=_;rw[oq,PX,PX]
 rw[dw (by rw[e];exact cg_nz h),e]
theorem CM:dM aV exD=exD:=Tt
theorem Oy:hoL aV bm ((0:Nat):Int)=[0]:=Tu
theorem Oj:hoL aV bm ((1:Nat):Int)=[]:=Tu
theorem Oq:hoL aV bm ((2:Nat):Int)=[1]:=Tu
theorem NV:aA bm ((0:Nat):Int)=[]:=Tu
theorem OE:aA bm ((1:Nat):Int)=[0,2]:=Tu
theorem Nv:aA bm ((2:Nat):Int)=[]:=Tu
theorem JQ:aA bm (-1)=[1]:=Tu
theorem DH:OrdOk aV bm:=(gU.1 rW).2
abbrev e7(w:Nat):En:=⟨jnt [t7],[t7],cg w 1 1⟩
abbrev e8(w:Nat):En:=⟨jnt [t8],[t8],cg w 1 1⟩
abbrev eN:En:=⟨jnt [],[],cg 10 1 3⟩
theorem I1:vwS aV bm exD lfC ((0:Nat):Int)=[e7 2]:=by
 rw[lL DH.jo (show 0<bm.length by decide),mkV];unfold fe;rw[Oy,NV,show fh aV bm ((0:Nat):Int)=[1]from Cm];have e:leaves [eT (oT aV 0) (l6 exD 0)] (ch0 3) (Gv.whole 1)=[(⟨[t1,t7,⟨#[]⟩],[true,true,false]⟩,(Gv.whole 1).mul (Gv.whole 2))]:=Tt;show foldE (lfC _) _ [1] [] (leaves [eT (oT aV 0) (l6 exD 0)] (ch0 3) (Gv.whole 1))=_;rw[e,show(Gv.whole 1).mul (Gv.whole 2)=cg 2 1 0 from oq 1 2 1 1 0 0];show stepE (lfC _) _ [1] [] _=_;rw[mG Tu]
 kernel_rfl
theorem Hb:vwS aV bm exD lfC ((2:Nat):Int)=[e7 5,e8 1]:=by
 rw[lL DH.jo (show 2<bm.length by decide),mkV];unfold fe;rw[Oq,Nv,show fh aV bm ((2:Nat):Int)=[1]from Ci];have e:leaves [eT (oT aV 1) (l6 exD 1)] (ch0 3) (Gv.whole 1)=[(⟨[⟨#[]⟩,t7,t3],[false,true,true]⟩,(Gv.whole 1).mul (Gv.whole 5)),(⟨[⟨#[]⟩,t8,t3],[false,true,true]⟩,(Gv.whole 1).mul (Gv.whole 1))]:=Tt;show foldE (lfC _) _ [1] [] (leaves [eT (oT aV 1) (l6 exD 1)] (ch0 3) (Gv.whole 1))=_;rw[e,show(Gv.whole 1).mul (Gv.whole 5)=cg 5 1 0 from oq 1 5 1 1 0 0,show(Gv.whole 1).mul (Gv.whole 1)=cg 1 1 0 from oq 1 1 1 1 0 0];show stepE (lfC _) _ [1] (stepE (lfC _) _ [1] [] _) _=_;rw[mG Tu,mG Tu]
 kernel_rfl
theorem GS(e:En):FO [e]=[e]:=by unfold FO;exact Sp Tw
theorem IK:FO [e7 5,e8 1]=[e7 5,e8 1]:=by
 unfold FO;refine Sp ?_;rw[PW];refine⟨fun x hx=>?_,Tw⟩;rw[OF]at hx;subst hx;show decide (_<=_)=true;decide+kernel
theorem II:vwS aV bm exD lfC ((1:Nat):Int)=[eN]:=by
 rw[lL DH.jo (show 1<bm.length by decide),mkV];unfold fe;rw[Oj,OE,show fh aV bm ((1:Nat):Int)=[]from JY];have k0:fh aV bm 0=[1]:=Cm;have k2:fh aV bm 2=[1]:=Ci;have v0:vwS aV bm exD lfC 0=[e7 2]:=I1;have v2:vwS aV bm exD lfC 2=[e7 5,e8 1]:=Hb;rw[Qh,Qa,bL,bL,Qh,k0,k2,v0,v2];unfold ct;rw[GS,IK];have e:leaves [⟨[1],[e7 2].map fun e=>⟨e.v,e.g⟩⟩,⟨[1],[e7 5,e8 1].map fun e=>⟨e.v,e.g⟩⟩] (ch0 3) (Gv.whole 1)=[(⟨[⟨#[]⟩,t7,⟨#[]⟩],[false,true,false]⟩,((Gv.whole 1).mul (cg 2 1 1)).mul (cg 5 1 1))]:=Tt;show foldE (lfC _) _ [] [] (leaves _ (ch0 3) (Gv.whole 1))=_;rw[e,show(Gv.whole 1).mul (cg 2 1 1)=cg 2 1 1 from oq 1 2 1 1 0 1,oq];show stepE (lfC _) _ [] [] _=_;rw[mG Tu]
 kernel_rfl
theorem JC:totV aV bm exD lfC=cg 10 1 3:=by
 unfold totV totF;rw[JQ];have v1:vwS aV bm exD lfC 1=[eN]:=II;show(Gv.whole 1).mul (atV (fG (vwS aV bm exD lfC 1)) [])=_;rw[v1];have e:fG [eN]=[eN]:=by unfold fG;exact Sp Tw
 rw[e];show(cg 1 1 0).mul (cg 10 1 3)=_;rw[oq]
theorem GD:fG [e7 5,e8 1]=[e7 5,e8 1]:=by
 unfold fG;refine Sp ?_;rw[PW];refine⟨fun x hx=>?_,Tw⟩;rw[OF]at hx;subst hx;show(!bl [t8] [t7])=true;decide+kernel
theorem IP:((List.range bm.length).map fun a:Nat=>fG (vwS aV bm exD lfC a))=[[e7 2],[eN],[e7 5,e8 1]]:=by
 have v0:vwS aV bm exD lfC ((0:Nat):Int)=[e7 2]:=I1;have v1:vwS aV bm exD lfC ((1:Nat):Int)=[eN]:=II;have v2:vwS aV bm exD lfC ((2:Nat):Int)=[e7 5,e8 1]:=Hb;have s1:∀e:En,fG [e]=[e]:=fun e=>by unfold fG;exact Sp Tw
 show [fG (vwS aV bm exD lfC ((0:Nat):Int)),fG (vwS aV bm exD lfC ((1:Nat):Int)),fG (vwS aV bm exD lfC ((2:Nat):Int))]=_;rw[v0,v1,v2,s1,s1,GD]
theorem ex_vb:VB aV bm (dM aV exD) [] XC lfC:=by
 rw[CM];have three:∀v:Nat,v<bm.length->v=0\/v=1\/v=2:=fun v hv=>by have hv:v<3:=hv;omega
 refine⟨lq,⟨Tu,Tu,Tu,Tu⟩,DH,Tu,Tu,Tu,O,Tu,Tu,Tu,?_,⟨fun v t _=>⟨xk (BY 1),Sup.cnt _ _⟩,fun _ _=>rfl,fun _ _=>rfl,fun _ _=>rfl,fun _=>by simp[XC]⟩,fun v hv t ht=>?_,?_,fun v hv=>?_,fun v hv=>?_,?_⟩
 ·intro a t ht;have:∀x∈[(⟨#[]⟩:ByteArray),t1,t7,t3,t8],x.size<=1000:=by decide+kernel
  exact this t ht
 ·have h:=tg qM aV v t Tu fun _ h=>by
   rcases h with h|⟨i,hi,_⟩
   ·have h:(v:Int)= -1:=h;omega
   ·cases hi
  have e:liftS qM aV v t=cnt 1:=by
   unfold liftS;rw[dw (show ¬ (v:Int)=aV.label from fun h=>by have h:(v:Int)= -1:=h;omega)];rfl
  rw[e]at h;exact h
 ·intro r x hx;have h:r.toNat=0\/r.toNat=1\/2<=r.toNat:=Ts;have key:∀x∈exD[0],VX XC [0,1] x.v:=by
   intro x hx;obtain rfl:x=⟨[t1,t7],2⟩:=by simpa using hx
   exact⟨O,fun j h1 h2=>match j,h1 with|0,_=>by simp[XC]|1,_=>by simp[XC]⟩
  have key2:∀x∈exD[1],VX XC [1,2] x.v:=by
   intro x hx;have hx:x=⟨[t7,t3],5⟩\/x=⟨[t8,t3],1⟩:=by simpa using hx
   rcases hx with rfl|rfl<;>exact⟨rfl,fun j h1 h2=>match j,h1 with|0,_=>by simp[XC]|1,_=>by simp[XC]⟩
  unfold l6 at hx;unfold oT;rcases h with h|h|h
  ·rw[h]at hx ⊢; exact key x hx
  ·rw[h]at hx ⊢; exact key2 x hx
  ·have:exD.getD r.toNat []=[]:=by rw[Pk,Qg (by exact h)];rfl
   rw[this]at hx;simp at hx
 ·rcases three v hv with rfl|rfl|rfl
  ·rw[I1];decide
  ·rw[II];decide
  ·rw[Hb];decide
 ·rcases three v hv with rfl|rfl|rfl
  ·rw[I1];decide
  ·rw[II];decide
  ·rw[Hb];decide
 ·rw[JC];decide
end Vw
end
section
open Go.RowKit Mk Jn Mm Vw
abbrev kf(x:ByteArray):PV:= .agg [.str x,.sl none 0 [],.sl none 0 []]
theorem eqT0:FnP prog 168 [.sl none 0 [],.sl none 0 []] (· = .bool true):=by
 refine FnP.of func168 O ntmps168 Tw fun m0 w0 F R0=>?_
 refine Z1 O O<|Gr O ?_;iterate 5 refine A1 O ?_
 refine Gc O O (fun hc10=>absurd hc10 Tu) (fun hc10=>?_);refine OR<|Z3 O O O O ?_;refine Gl O (st:=fun TC:Nat=>mkS [(0,.pv (.sl none 0 [])),(1,.pv (.sl none 0 [])),(12,pIi 0),(13,pIi 0)] [] 0)
  (I:=fun TC=>True) (μ:=fun TC=>0) (x0:=(0)) (OU (aS O) trivial O O) (trivial) ?_
 rintro u _;refine Z1 O O ?_;refine Gp O O (fun hc14=>absurd hc14 Tu) (fun hc14=>?_);exact Gx O<|Z1 O O<|Gt O<|⟨_,_,O,O,O⟩
theorem eqP0:FnP prog 169 [.sl none 0 [],.sl none 0 []] (· = .bool true):=by
 refine FnP.of func169 O ntmps169 Tw fun m0 w0 F R0=>?_
 refine Z1 O O<|Gr O ?_;iterate 5 refine A1 O ?_
 refine Gc O O (fun hc10=>absurd hc10 Tu) (fun hc10=>?_);refine OR<|Z3 O O O O ?_;refine Gl O (st:=fun TC:Nat=>mkS [(0,.pv (.sl none 0 [])),(1,.pv (.sl none 0 [])),(12,pIi 0),(13,pIi 0)] [] 0)
  (I:=fun TC=>True) (μ:=fun TC=>0) (x0:=(0)) (OU (aS O) trivial O O) (trivial) ?_
 rintro u _;refine Z1 O O ?_;refine Gp O O (fun hc14=>absurd hc14 Tu) (fun hc14=>?_);exact Gx O<|Z1 O O<|Gt O<|⟨_,_,O,O,O⟩
theorem HW(x:ByteArray):FnP prog 77 [kf x,kf x] (· = .bool true):=by
 refine FnP.of func77 O ntmps77 Tw fun m0 w0 F R0=>?_
 have h1:=eqT0;have h2:=eqP0;have hx:(x.toList==x.toList)=true:=Qz _;refine Z3 O O O O<|Z4 O O O O O<|Rs 9 O O (XJ.cast (v:= .pv (.bool (x.toList==x.toList))) (v':= .pv (.bool true)) (dh O O O) (ag (fun b=>V.pv (.bool b)) hx)) ?_;iterate 5 refine A1 O ?_
 refine Rg 15 O O O (aa call168 h1 O) ?_;iterate 6 refine A1 O ?_
 exact Rg 22 O O O (aa call169 h2 O)<|Y2 O O<|Gt O<|⟨_,_,O,O,O⟩
theorem Lk(x y:ByteArray)(hx:(x.toList==y.toList)=false):FnP prog 77 [kf x,kf y] (· = .bool false):=by
 refine FnP.of func77 O ntmps77 Tw fun m0 w0 F R0=>?_
 refine Z3 O O O O<|Z4 O O O O O<|Rs 9 O O (XJ.cast (v:= .pv (.bool (x.toList==y.toList))) (v':= .pv (.bool false)) (dh O O O) (ag (fun b=>V.pv (.bool b)) hx)) ?_;iterate 15 refine A1 O ?_
 exact Gt O<|⟨_,_,O,O,O⟩
theorem NW:FnP prog 73 [] (· =kf t1):=by
 refine FnP.fg2 (FnP.ofC func73 O ntmps73 Tw fun m0 w0 F R0=>?_);exact Z1 O O<|Z2 O O O<|Gt O<|⟨_,_,O,O,⟨az ⟨_,underlying47,O⟩ J2 O O O,TB⟩,O⟩
abbrev t0:ByteArray:=⟨#[48]⟩
theorem Kh:FnP prog 108 [] (· =kf t0):=by
 have h:=yN;rw[sf]at h;have e:uT ⟨((0:Int):Rat),[],[]⟩=kf t0:=by show PV.agg [.str (fL ((0:Int):Rat)),_,_]=_;rw[jW];rfl
 rw[e]at h;exact h
theorem Di:FnP prog 21 [] (· =kf t0):=by
 refine FnP.fg2 (FnP.ofC func21 O ntmps21 Tw fun m0 w0 F R0=>?_);exact Z1 O O<|Z2 O O O<|Gt O<|⟨_,_,O,O,⟨az ⟨_,underlying47,O⟩ J2 O O O,TB⟩,O⟩
theorem xi:FnP prog 20 [kf t0,kf t0] (· = .bool true):=by
 refine FnP.of func20 O ntmps20 Tw fun m0 w0 F R0=>?_
 refine Z3 O O O O<|Gr O ?_;iterate 6 refine A1 O ?_
 apply O2 8 12 20 [13,14,15,16,17,18,19] O TE
 ·intro hb5;iterate 8 refine A1 O ?_
  exact OW TD O O O
 ·intro hb5;iterate 8 refine A1 O ?_
  exact OW TD O O O
 refine A1 O ?_;apply O2 8 21 29 [22,23,24,25,26,27,28] O TE
 ·intro hb14;iterate 8 refine A1 O ?_
  exact OW TD O O O
 ·intro hb14;iterate 8 refine A1 O ?_
  exact OW TD O O O
 refine Gc O O (fun hc29=>absurd hc29 Tw) (fun hc29=>?_);refine OR<|Z4 O O O O O ?_;refine Gl O (st:=fun TC:Nat=>mkS [(2,.ptr 0 0),(3,.ptr 1 0),(32,pIi 0),(33,pIi 0)] [(0,.mix 47 [.pv (.str t0),.pv (.sl none 0 []),.pv (.sl none 0 [])]),(1,.mix 47 [.pv (.str t0),.pv (.sl none 0 []),.pv (.sl none 0 [])])] 2)
  (I:=fun TC=>True) (μ:=fun TC=>0) (x0:=(0)) (OU (aS O) (aO O) O O) (trivial) ?_
 rintro u _;refine Z1 O O ?_;refine Gp O O (fun hc34=>absurd hc34 Tu) (fun hc34=>?_);refine Gx O<|Z4 O O O O O ?_;refine Gl O (st:=fun x_1:Nat=>mkS [(2,.ptr 0 0),(3,.ptr 1 0),(50,pIi 0),(51,pIi 0)] [(0,.mix 47 [.pv (.str t0),.pv (.sl none 0 []),.pv (.sl none 0 [])]),(1,.mix 47 [.pv (.str t0),.pv (.sl none 0 []),.pv (.sl none 0 [])])] 2)
  (I:=fun x_1=>True) (μ:=fun x_1=>0) (x0:=(0)) (OU (aS O) (aO O) O O) (trivial) ?_
 rintro u2 _;refine Z1 O O ?_;refine Gp O O (fun hc52=>absurd hc52 Tu) (fun hc52=>?_);exact Gx O<|Z1 O O<|Gt O<|⟨_,_,O,O,O⟩
theorem ctT0(g:FuncId):FnP prog 253 [.sl none 0 [],.fn (.func g) [] []] (· = .bool false):=by
 have hi:FnP prog 324 [.sl none 0 [],.fn (.func g) [] []] (· = .int .i64 (-1)):=by
  refine FnP.of func324 O ntmps324 Tw fun m0 w0 F R0=>?_
  refine Z1 O O<|Z3 O O O O ?_;refine Gl O (st:=fun TC:Nat=>mkS [(0,.pv (.sl none 0 [])),(1,.pv (.fn (.func g) [] [])),(7,pIi 0),(8,pIi 0)] [] 0)
   (I:=fun TC=>True) (μ:=fun TC=>0) (x0:=(0)) (OU (aS O) trivial O O) (trivial) ?_
  rintro u _;refine Z1 O O ?_;refine Gp O O (fun hc9=>absurd hc9 Tu) (fun hc9=>?_);exact Gx O<|Z1 O O<|Gt O<|⟨_,_,O,O,O⟩
 refine FnP.of func253 O ntmps253 Tw fun m0 w0 F R0=>?_
 exact Z1 O O<|Z2 O O O<|Rs 7 O O (aa call324 hi O)<|Y2 O O<|Gt O<|⟨_,_,O,O,O⟩
theorem asT0(g:FuncId):FnP prog 260 [.sl none 0 [],.fn (.func g) [] []] (· = .bool true):=by
 refine FnP.of func260 O ntmps260 Tw fun m0 w0 F R0=>?_
 refine Z1 O O<|Z1 O O ?_;refine Gl O (st:=fun TC:Nat=>mkS [(0,.pv (.sl none 0 [])),(1,.pv (.fn (.func g) [] [])),(5,pIi 1)] [] 0)
  (I:=fun TC=>True) (μ:=fun TC=>0) (x0:=(0)) (OU (aS O) trivial O O) (trivial) ?_
 rintro u _;refine Z4 O O O O O ?_;refine Gp O O (fun hc9=>absurd hc9 Tu) (fun hc9=>?_);exact Gx O<|Z1 O O<|Gt O<|⟨_,_,O,O,O⟩
theorem ctP0(g:FuncId):FnP prog 257 [.sl none 0 [],.fn (.func g) [] []] (· = .bool false):=by
 have hi:FnP prog 325 [.sl none 0 [],.fn (.func g) [] []] (· = .int .i64 (-1)):=by
  refine FnP.of func325 O ntmps325 Tw fun m0 w0 F R0=>?_
  refine Z1 O O<|Z3 O O O O ?_;refine Gl O (st:=fun TC:Nat=>mkS [(0,.pv (.sl none 0 [])),(1,.pv (.fn (.func g) [] [])),(7,pIi 0),(8,pIi 0)] [] 0)
   (I:=fun TC=>True) (μ:=fun TC=>0) (x0:=(0)) (OU (aS O) trivial O O) (trivial) ?_
  rintro u _;refine Z1 O O ?_;refine Gp O O (fun hc9=>absurd hc9 Tu) (fun hc9=>?_);exact Gx O<|Z1 O O<|Gt O<|⟨_,_,O,O,O⟩
 refine FnP.of func257 O ntmps257 Tw fun m0 w0 F R0=>?_
 exact Z1 O O<|Z2 O O O<|Rs 7 O O (aa call325 hi O)<|Y2 O O<|Gt O<|⟨_,_,O,O,O⟩
theorem asP0(g:FuncId):FnP prog 262 [.sl none 0 [],.fn (.func g) [] []] (· = .bool true):=by
 refine FnP.of func262 O ntmps262 Tw fun m0 w0 F R0=>?_
 refine Z1 O O<|Z1 O O ?_;refine Gl O (st:=fun TC:Nat=>mkS [(0,.pv (.sl none 0 [])),(1,.pv (.fn (.func g) [] [])),(5,pIi 1)] [] 0)
  (I:=fun TC=>True) (μ:=fun TC=>0) (x0:=(0)) (OU (aS O) trivial O O) (trivial) ?_
 rintro u _;refine Z4 O O O O O ?_;refine Gp O O (fun hc9=>absurd hc9 Tu) (fun hc9=>?_);exact Gx O<|Z1 O O<|Gt O<|⟨_,_,O,O,O⟩
structure KT(x:ByteArray):Prop where
 s:x.size<4294967281
 v:mO x=true
 b:MN x=true
theorem Kl(x:ByteArray)(h:KT x):FnP prog 165 [kf x] (· = .bool true):=by
 refine FnP.of func165 O ntmps165 Tw fun m0 w0 F R0=>?_
 have hv:=jG x h.s fun _ h2=>by rw[h.b]at h2;cases h2
 rw[h.v]at hv;have h1:=ctT0 254;have h2:=ctP0 258;have h3:=asT0 261;have h4:=asP0 263;refine Z2 O O O<|Z2 O O O<|Rs 5 O O (aa call252 hv O)<|A1 O ?_;refine Gc O O (fun hc6=>absurd hc6 Tu) (fun hc6=>?_);refine OR<|Z2 O O O<|Rs 9 O O (aa call253 h1 O) ?_;refine Gc O O (fun hc9=>absurd hc9 Tu) (fun hc9=>?_);refine OR<|Z2 O O O<|Rs 12 O O (aa call257 h2 O) ?_;refine Gc O O (fun hc12=>absurd hc12 Tu) (fun hc12=>?_);exact OR<|Z2 O O O<|Rs 15 O O (aa call260 h3 O)<|Y3 O O O<|Rg 19 O O O (aa call262 h4 O)<|Y2 O O<|Gt O<|⟨_,_,O,O,O⟩
end
section
open Go.RowKit Mk Jn Mm Vw
abbrev t10:ByteArray:=⟨#[49,48]⟩
theorem oN(n:Nat)(x:ByteArray)(h:fL ((n:Int):Rat)=x):uT (cn (cnt n))=kf x:=by
 rw[xx];show PV.agg [.str (fL ((n:Int):Rat)),_,_]=_;rw[h];rfl
theorem rt1:fL (((1:Nat):Int):Rat)=t1:=by decide+kernel
theorem Nr:fL (((10:Nat):Int):Rat)=t10:=by decide+kernel
theorem kt1:KT t1:=⟨by decide+kernel,by decide+kernel,by decide+kernel⟩
theorem kt10:KT t10:=⟨by decide+kernel,by decide+kernel,by decide+kernel⟩
theorem se(n:Nat):GvOk [] (cg n 1 0):=⟨kU n,Sup.cnt _ _⟩
theorem Lv:FnP prog 75 [kf t1,kf t10] (· = .tup [kf t10,.int .i64 0]):=by
 refine FnP.ofC func75 O ntmps75 Tw fun m0 w0 F R0=>?_
 have hv1:=Kl t1 kt1;have hv2:=Kl t10 kt10;have h1:=KG (se 1) Tu (show 1<=40000 by decide) (cd 8);have h2:=KG (se 10) Tu (show 10<=40000 by decide) (cd 8);have h3:=rf (kU 1) (kU 10) (by decide+kernel) (by decide+kernel) Tu Tu;have h4:=A4 (se 10) Tu (show 10<=40000 by decide) (cd 8);rw[show uT (cn (cg 1 1 0).m)=kf t1 from oN 1 t1 rt1]at h1;rw[show uT (cn (cg 10 1 0).m)=kf t10 from oN 10 t10 Nr]at h2;rw[xP]at h3;unfold N8 at h4;rw[show uT (cn (cg 10 1 0).m)=kf t10 from oN 10 t10 Nr]at h4;refine Z4 O O O O O<|Z1 O O<|Rs 7 O O (aa call165 hv1 O)<|Y3 O O O<|Rg 11 O O O (aa call165 hv2 O)<|Y2 O O ?_;refine Gc O O (fun hc13=>absurd hc13 Tu) (fun hc13=>?_);refine OR<|Ge O follows [0,1,2,3,4,5,6,7,8,9] Tt<|D1 O O<|Ds 16 [] O O O (fun τ h=>aa call57 h1 (h.aL O)) O Tt<|D1 O O<|Ds 18 [] O O O (fun τ h=>aa call57 h2 (h.aL O)) O Tt<|Ds 19 [] O O O (fun τ h=>aa call56 h3 (h.aL O)) O Tt<|Ds 20 [] O O O (fun τ h=>aa call50 h4 (h.aL O)) O Tt ?_;iterate 4 refine D1 O O ?_
 refine⟨Tt,?_⟩;exact Gt O<|⟨_,_,O,O,⟨az ⟨_,underlying47,O⟩ J2 O O O,TB⟩,O⟩
theorem An(l:List (List En))(hl:l.length<=1000)(c0:ByteArray)(k1 k2:Nat)(q1 q2:List PV):FnP prog 37 [.agg [.sl none l.length (lstsC l),.str c0,.sl none k1 q1,.sl none k2 q2]] (· =ai (l.map fun E=>(E.length:Int))):=by
 refine FnP.of func37 O ntmps37 Tw fun m0 w0 F R0=>?_
 obtain⟨L,hL⟩:∃L:List Int,L=l.map fun E=>(E.length:Int):=⟨_,O⟩
 have hLl:L.length=l.length:=by rw[hL,Pg]
 rw[<-hL];refine Z2 O O O<|Z1 O O<|OT (OZ 3 1 1 3 O O)<|Z4 O O O O O ?_;refine Gl O (st:=fun TC:Nat=>mkS [(3,.gsl 1 1 TC),(7,.pv (.sl none l.length (lstsC l))),(8,pIi l.length),(9,pIi TC)] [(1,.gro 3 (aF (L.take TC)))] 2)
  (I:=fun TC=>TC<=l.length) (μ:=fun TC=>l.length-TC) (x0:=(0)) (OU (aS O) (aO Tt) O O) (cd _) ?_
 rintro i hi;refine Z1 O O ?_;refine Gp O O (fun hc10=>?_) (fun hc10=>?_)
 ·have hlt:i<l.length:=Ts;have hla:=qA hlt;have hln:=qu hlt;have hLi:L[i]'Ts=((l[i].length:Nat):Int):=by simp[hL]
  have hsn:aF (L.take i)++[.int .i64 ((l[i].length:Nat):Int)]=aF (L.take (i+1)):=by rw[AI (show i<L.length by omega),hLi];simp
  have htl:(aF (L.take i)).length=i*1:=by simp;omega
  generalize l[i]=E at*;refine OR<|Gr O<|Rs 11 O O (ae i underlying42 sz57 O O O hlt hln)<|Rs 12 O O (au ⟨_,underlying57,O⟩ O hla)<|A1 O<|Gr O ?_;iterate 6 refine A1 O ?_
  exact Z2 O O O<|⟨(i+1),OV [0,3] (aT O) ⟨PG (b:=some (.gro 3 (aF (L.take i)++[.int .i64 ((E.length:Nat):Int)]))) Tt (ag (fun c=>some (Ob.gro 3 c)) hsn),TB⟩ O O Tu O,hlt,Ts⟩
 ·have hie:L.take i=L:=aX Ts;have hil:i=L.length:=Ts;rw[hie,hil];exact Gx O<|OT (OX (o:= .gro 3 (aF L)) 1 Tt O)<|Z2 O O O<|Gt O<|⟨_,_,O,O,O⟩
structure EOk(S:Sch)(K:List Int)(e:En):Prop where
 l:e.v.length=K.length
 v:FnP prog 165 [uT (cn e.g.m)] (· = .bool true)
 z:FnP prog 77 [uT (cn e.g.m),kf t0] (· = .bool false)
 s:∀j (h:j<K.length) (h2:j<e.v.length),∃a:Nat,∃ha:a<S.attrs.length,K[j]=(a:Int)/\FnP prog 166 [.agg [.str S.attrs[a].1,.int .i64 S.attrs[a].2],.str e.v[j]] (· = .bool true)
theorem ib(S:Sch)(hSa:S.attrs.length<=1000)(K:List Int)(hK:K.length<=1000)(E:List En)(hEl:E.length<=1000)(hE:∀e∈E,EOk S K e)(ha:∀i (h:i+1<E.length),bl (E[i]'Ts).v E[i+1].v=true):
  FnP prog 76 [eZ S,ai K,.sl none E.length (entsC E)] (· = .bool true):=by
 refine FnP.of func76 O ntmps76 Tw fun m0 w0 F R0=>?_
 have hz:=Kh;refine Z2 O O O<|Z3 O O O O ?_;refine Gl O (st:=fun TC:Nat=>mkS [(1,.pv (ai K)),(2,.pv (.sl none E.length (entsC E))),(3,.ptr 0 0),(11,.pv (.sl none E.length (entsC E))),(12,pIi E.length),(13,pIi TC)] [(0,oZ S)] 1)
  (I:=fun TC=>TC<=E.length) (μ:=fun TC=>E.length-TC) (x0:=(0)) (OU (aS O) (aO Tt) O O) (cd _) ?_
 rintro i hi;refine Z1 O O ?_;refine Gp O O (fun hc14=>?_) (fun hc14=>?_)
 ·have hlt:i<E.length:=Ts;have hrow:=ov hlt;have hne:=xM hlt;obtain⟨g1,g2,g3,g4⟩:=hE _ (ar hlt);have hlen:((E[i].v.length:Nat):Int)=((K.length:Nat):Int):=by rw[g1]
  have hprev:∀h:0<i,(entsC E)[(i-1)*4+0]? =some (aZ (E[i-1]'Ts).v):=fun h=>by
   have h2:(((entsC E).drop ((i-1)*4)).take 4)[0]? =(entC (E[i-1]'Ts))[0]? :=by rw[ov (show i-1<E.length by omega)]
   simpa[Pw,Qf]using h2
  have hls:∀h:0<i,FnP prog 167 [aZ (E[i-1]'Ts).v,aZ E[i].v] (· = .bool true):=fun h=>by
   have h2:=qh (E[i-1]'Ts).v E[i].v (by rw[(hE _ (ar (show i-1<E.length by omega))).l];omega) (by rw[g1];omega);have h3:=ha (i-1) Ts;have e:i-1+1=i:=Ts;simp only[e]at h3;rw[h3]at h2;exact h2
  generalize E[i]=e at*;refine OR<|Z1 O O<|Rs 16 O O (ae i underlying57 NG O O O hlt hne)<|Rs 17 O O (aR ⟨_,underlying59,O⟩ NG O hrow O)<|Y3 O O O<|Ge O follows [0,1,2,3,4,5,6,7,8,9,10,11,12,13,14,15,16,17] Tt ?_;iterate 5 refine D1 O O ?_
  refine Ds 23 [] O O O (fun τ h=>XJ.cast (v':= .pv (.bool false)) (aG (Ee h 0 O O) (Ee h 1 O O) O) (ag (fun b=>V.pv (.bool b)) (show(((e.v.length:Nat):Int) !=((K.length:Nat):Int))=false by rw[hlen];simp))) O Tt ?_;iterate 3 refine D1 O O ?_
  refine Dg 27 [] O O O O (fun τ h=>aa call165 g2 (h.aL O)) O Tt ?_;iterate 5 refine D1 O O ?_
  refine Dg 33 [] O O O O (fun τ h=>aa call108 hz (h.aL O)) O Tt<|Dg 34 [] O O O O (fun τ h=>aa call77 g3 (h.aL O)) O Tt<|D1 O O ?_;refine⟨Tt,?_⟩;refine Gc O O (fun hc35=>absurd hc35 Tu) (fun hc35=>?_);refine OR<|Z3 O O O O ?_;refine Gl O (st:=fun x_1:Nat=>mkS [(1,.pv (ai K)),(2,.pv (.sl none E.length (entsC E))),(3,.ptr 0 0),(7,pIi i),(8,.ptr 1 0),(11,.pv (.sl none E.length (entsC E))),(12,pIi E.length),(13,pIi i),(36,.pv (ai K)),(37,pIi K.length),(38,pIi x_1)] [(0,oZ S),(1,.mix 59 [.pv (aZ e.v),.pv (.str (fL (cn e.g.m).c)),.pv (.sl none (cn e.g.m).s.length (gj (tmL (cn e.g.m).s))),.pv (.sl none (cn e.g.m).p.length (gm (prL (cn e.g.m).p)))])] 2)
   (I:=fun x_1=>x_1<=K.length) (μ:=fun x_1=>K.length-x_1) (x0:=(0)) (OU (aS O) (aO Tt) O O) (cd _) ?_
  rintro j hj;refine Z1 O O ?_;refine Gp O O (fun hc39=>?_) (fun hc39=>?_)
  ·have hjl:j<K.length:=Ts;have hjv:j<e.v.length:=Ts;obtain⟨a,hal,hKa,hval⟩:=g4 j hjl hjv;have hpv:(aF K)[j*1]? =some (.int .i64 (a:Int)):=by rw[<-hKa];simp[hjl]
   have hpn:=aE hjl;have har:=kB hal;have han:=gB hal;have hsv:=bz hjv;have hsn:=bA hjv;refine OR<|Z1 O O<|Rs 41 O O (ae j underlying22 sz3 O O O hjl hpn)<|Rs 42 O O (au ⟨_,underlying3,O⟩ O hpv)<|Y2 O O<|Ge O follows [0,1,2,3,4,5,6,7,8,9,10,11] Tt ?_;iterate 3 refine D1 O O ?_
   refine Ds 46 [] O O O (fun τ h=>ae a underlying26 kT (Ee h 0 O O) (Ee h 1 O O) O hal han) O Tt<|Ds 47 [] O O O (fun τ h=>aR ⟨_,underlying162,O⟩ kT (Ee h 0 O O) har O) O Tt ?_;iterate 3 refine D1 O O ?_
   refine Ds 51 [] O O O (fun τ h=>ae j underlying39 sz9 (Ee h 0 O O) (Ee h 1 O O) O hjv hsn) O Tt<|Ds 52 [] O O O (fun τ h=>au ⟨_,underlying9,O⟩ (Ee h 0 O O) hsv) O Tt<|Ds 53 [] O O O (fun τ h=>aa call166 hval (h.aL O)) O Tt<|D1 O O ?_;refine⟨Tt,?_⟩;refine Gc O O (fun hc54=>absurd hc54 Tu) (fun hc54=>?_);exact OR<|Z2 O O O<|⟨(j+1),OU (aS O) (aO Tt) O O,hjl,Ts⟩
  ·refine Gx O ?_;by_cases h0:0<i
   ·refine Ge O follows [0,1,2,3,4,5,6,7,8,9,10,11,12,13] Tt<|D1 O O<|Ds 57 [] O O O (fun τ h=>XJ.cast (v':= .pv (.bool true)) (aG (Ee h 0 O O) (Ee h 1 O O) O) (ag (fun b=>V.pv (.bool b)) (Pn (show(i:Int)>0 by omega)))) O Tt ?_;iterate 4 refine D1 O O ?_
    refine Dg 62 [] O O O O (fun τ h=>ae (i-1) underlying57 NG (Ee h 0 O O) (Ee h 1 O O) Ts Ts hne) O Tt<|D1 O O<|Dg 64 [] O O O O (fun τ h=>au ⟨_,underlying39,O⟩ (Ee h 0 O O) (hprev h0)) O Tt ?_;iterate 2 refine D1 O O ?_
    refine Dg 67 [] O O O O (fun τ h=>aa call167 (hls h0) (h.aL O)) O Tt ?_;iterate 2 refine D1 O O ?_
    refine⟨Tt,?_⟩;refine Gc O O (fun hc69=>absurd hc69 Tu) (fun hc69=>?_);exact OR<|Z2 O O O<|⟨(i+1),OU (aS O) (aO Tt) O O,hlt,Ts⟩
   ·refine Ge O follows [0,1,2,3,4,5,6,7,8,9,10,11,12,13] Tt<|D1 O O<|Ds 57 [] O O O (fun τ h=>XJ.cast (v':= .pv (.bool false)) (aG (Ee h 0 O O) (Ee h 1 O O) O) (ag (fun b=>V.pv (.bool b)) (Pt (show ¬ (i:Int)>0 by omega)))) O Tt ?_;iterate 12 refine D1 O O ?_
    refine⟨Tt,?_⟩;refine Gc O O (fun hc69=>absurd hc69 Tu) (fun hc69=>?_);exact OR<|Z2 O O O<|⟨(i+1),OU (aS O) (aO Tt) O O,hlt,Ts⟩
 ·exact Gx O<|Z1 O O<|Gt O<|⟨_,_,O,O,O⟩
end
section
open Go.RowKit Mk Jn Mm Vw
noncomputable abbrev exLs:List (List En):=[[e7 2],[eN],[e7 5,e8 1]]
noncomputable abbrev exW:PV:= .agg [.sl none 3 (lstsC exLs),.str t10,.sl none 0 [],.sl none 0 []]
abbrev tw2:ByteArray:=⟨#[50]⟩
theorem rt2:fL (((2:Nat):Int):Rat)=tw2:=by decide+kernel
theorem LR(r:Nat)(hr:r<3)(key:List ByteArray)(hk:key.length<=1)(g:Gv)(x:ByteArray)(hg:atV (exLs.getD r []) key=g)(hx:uT (cn g.m)=kf x):FnP prog 42 [exW,.int .i64 r,aZ key] (· =kf x):=by
 have hm:∀w:Nat,w<=40000->MF1 (cn (cnt w)):=fun w hw=>rR (se w) Tu hw (cd 8)
 have hs:∀E∈exLs,E.length<=1000000/\∀e∈E,e.v.length<=1000000/\MF1 (cn e.g.m):=by
  intro E hE;simp only[exLs,AS,P7,R6]at hE;rcases hE with rfl|rfl|rfl
  ·exact⟨Tw,fun e he=>by simp only[AS,P7,R6]at he;subst he;exact⟨Tw,hm 2 Tu⟩⟩
  ·exact⟨Tw,fun e he=>by simp only[AS,P7,R6]at he;subst he;exact⟨Tw,hm 10 Tu⟩⟩
  ·exact⟨Tw,fun e he=>by simp only[AS,P7,R6]at he;rcases he with rfl|rfl;exact⟨Tw,hm 5 Tu⟩;exact⟨Tw,hm 1 Tu⟩⟩
 have hr3:r<exLs.length:=hr;obtain⟨h1,h2⟩:=hs exLs[r] (ar hr3);have h:=Od exLs t10 none none 0 0 [] [] r hr3 key Ts h1 h2;have e:exLs.getD r []=exLs[r]:=by rw[Pk,By hr3];rfl
 rw[e]at hg;rw[hg,hx]at h;exact h
theorem at_root:FnP prog 42 [exW,.int .i64 1,aZ []] (· =kf t10):=
 LR 1 Tu [] Tu (cg 10 1 3) t10 Tt (oN 10 t10 Nr)
theorem at_7:FnP prog 42 [exW,.int .i64 0,aZ [t7]] (· =kf tw2):=
 LR 0 Tu [t7] Tu (cg 2 1 1) tw2 Tt (oN 2 tw2 rt2)
theorem at_8:FnP prog 42 [exW,.int .i64 0,aZ [t8]] (· =kf t0):=
 LR 0 Tu [t8] Tu gz t0 Tt (by rw[sf];show PV.agg [.str (fL ((0:Int):Rat)),_,_]=_;rw[jW];rfl)
def zT(i:Nat):ByteArray:=if i=0 then t1 else t10
theorem G8:FnP prog 24 [eZ aV,lR bm,exW] (· = .tup [kf t10,.int .i64 0]):=by
 refine FnP.ofC func24 O ntmps24 Tw fun m0 w0 F R0=>?_
 have hck:=eB aV lq bm Tu;rw[rW]at hck;have hch:=qp aV lq bm Tu (-1);rw[dw Tu,JQ]at hch;have hon:=NW;have hat:=at_root;have hmu:∀i,i<1->FnP prog 75 [kf (zT i),kf t10] (· = .tup [kf (zT (i+1)),.int .i64 0]):=fun i hi=>by
  obtain rfl:i=0:=Ts;exact Lv
 refine Gr O ?_;iterate 5 refine A1 O ?_
 refine Z2 O O O<|Rs 16 O O (aa call72 hck O)<|A1 O<|Z2 O O O ?_;refine Gc O O (fun hc18=>absurd hc18 Tu) (fun hc18=>?_);refine OR<|Gr O ?_;iterate 7 refine A1 O ?_
 refine Gc O O (fun hc27=>absurd hc27 Tu) (fun hc27=>?_);refine OR<|Gr O<|Rs 29 O O (aa call73 hon O)<|Y2 O O<|Z2 O O O<|Rs 32 O O (aa call74 hch O)<|Y2 O O ?_;refine Gl O (st:=fun TC:Nat=>mkS [(5,.ptr 2 0),(6,.ptr 3 0),(9,.ptr 4 0),(32,.pv (ai [1])),(33,pIi 1),(34,pIi TC)] [(2,.mix 49 [.pv (.sl none 3 (lstsC exLs)),.pv (.str t10),.pv (.sl none 0 []),.pv (.sl none 0 [])]),(3,.mix 47 [.pv (.str ⟨#[]⟩),.pv nS,.pv nS]),(4,.mix 47 [.pv (.str (zT TC)),.pv (.sl none 0 []),.pv (.sl none 0 [])])] 5)
  (I:=fun TC=>TC<=1) (μ:=fun TC=>1-TC) (x0:=(0)) (OU (aS O) (aO Tt) O O) (cd _) ?_
 rintro i hi;refine Z1 O O ?_;refine Gp O O (fun hc35=>?_) (fun hc35=>?_)
 ·have hi1:i<1:=Ts;have hm:=hmu i hi1;have hpv:(aF [1])[i*1]? =some (.int .i64 1):=by obtain rfl:i=0:=(Ts);rfl
  have hpn:aF [1]≠[]:=Tw;refine OR<|Gr O<|Rs 36 O O (ae i underlying22 sz3 O O O hi1 hpn)<|Rs 37 O O (au ⟨_,underlying3,O⟩ O hpv)<|A1 O<|Ge O follows [0,1,2,3,4,5,6,7,8,9,10] Tt ?_;iterate 3 refine D1 O O ?_
  refine Ds 42 [] O O O (fun τ h=>aa call42 hat (h.aL O)) O Tt<|Ds 43 [] O O O (fun τ h=>aa call75 hm (h.aL O)) O Tt ?_;iterate 6 refine D1 O O ?_
  refine⟨Tt,?_⟩;refine Z2 O O O ?_;refine Gc O O (fun hc47=>absurd hc47 Tu) (fun hc47=>?_);exact OR<|Z2 O O O<|Z2 O O O<|⟨(i+1),OU (aS O) (aO Tt) O O,hi1,Ts⟩
 ·have hi1:i=1:=Ts;subst hi1;exact Gx O<|Z3 O O O O<|Gt O<|⟨_,_,O,O,⟨az ⟨_,underlying47,O⟩ J2 O O O,TB⟩,O⟩
end
section
open Go.RowKit Mk Jn Mm Vw
theorem xL(e:En)(w:Nat)(x:ByteArray)(hg:e.g.m=cnt w)(hx:fL ((w:Int):Rat)=x)(hk:KT x)(hz:(x.toList==t0.toList)=false)(K:List Int)(hl:e.v.length=K.length)(hK:∀a∈K,a=1)(hv:∀y∈e.v,bd y=true/\(rdZ y).natAbs<1000000000):EOk aV K e:=by
 have hc:uT (cn e.g.m)=kf x:=by rw[hg];exact oN w x hx
 refine⟨hl,?_,?_,fun j h1 h2=>⟨1,Tu,hK _ (ar h1),oJ _ _ (.inr (hv _ (ar h2)))⟩⟩
 ·rw[hc];exact Kl x hk
 ·rw[hc];exact Lk x t0 hz
theorem CA(K:List Int)(E:List En)(hE:(K=[1]/\E=[e7 2])\/(K=[]/\E=[eN])\/(K=[1]/\E=[e7 5,e8 1])):FnP prog 76 [eZ aV,ai K,.sl none E.length (entsC E)] (· = .bool true):=by
 have r2:fL (((2:Nat):Int):Rat)=⟨#[50]⟩:=by decide+kernel
 have r5:fL (((5:Nat):Int):Rat)=⟨#[53]⟩:=by decide+kernel
 have k2:KT ⟨#[50]⟩:=⟨by decide+kernel,by decide+kernel,by decide+kernel⟩;have k5:KT ⟨#[53]⟩:=⟨by decide+kernel,by decide+kernel,by decide+kernel⟩;have v7:∀y∈[Vw.t7],bd y=true/\(rdZ y).natAbs<1000000000:=fun y hy=>by rw[OF]at hy;subst hy;exact⟨by decide+kernel,by decide+kernel⟩
 have v8:∀y∈[Vw.t8],bd y=true/\(rdZ y).natAbs<1000000000:=fun y hy=>by rw[OF]at hy;subst hy;exact⟨by decide+kernel,by decide+kernel⟩
 rcases hE with⟨rfl,rfl⟩|⟨rfl,rfl⟩|⟨rfl,rfl⟩
 ·refine ib aV Tu [1] Tu [e7 2] Tu (fun e he=>?_) (fun i h=>absurd h Tw);rw[OF]at he;subst he;exact xL _ 2 _ O r2 k2 (by decide+kernel) [1] O Tw v7
 ·refine ib aV Tu [] Tu [eN] Tu (fun e he=>?_) (fun i h=>absurd h Tw);rw[OF]at he;subst he;exact xL _ 10 _ O Nr kt10 (by decide+kernel) [] O Tw Tw
 ·refine ib aV Tu [1] Tu [e7 5,e8 1] Tu (fun e he=>?_) (fun i h=>?_)
  ·simp only[AS,P7,R6]at he;rcases he with rfl|rfl
   ·exact xL _ 5 _ O r5 k5 (by decide+kernel) [1] O Tw v7
   ·exact xL _ 1 _ O rt1 kt1 (by decide+kernel) [1] O Tw v8
  ·obtain rfl:i=0:=by simp at h;omega
   show bl [t7] [t8]=true;decide+kernel
theorem I5:FnP prog 25 [eZ aV,lR bm,exW] (· = .bool true):=by
 refine FnP.of func25 O ntmps25 Tw fun m0 w0 F R0=>?_
 have hck:=eB aV lq bm Tu;rw[rW]at hck;have hly:=JN aV lq bm DH;have hto:=G8;have hsa:=HW t10;have hkl:(bh aV bm).kes.length=3:=by simp[bh,aW]
 have hen:∀i (h:i<3) (h2:i<(bh aV bm).kes.length),FnP prog 76 [eZ aV,ai (bh aV bm).kes[i],.sl none (exLs[i]'h).length (entsC (exLs[i]'h))] (· = .bool true):=fun i h h2=>by
  have:i=0\/i=1\/i=2:=Ts;rcases this with rfl|rfl|rfl
  ·exact CA _ _ (.inl ⟨(ER (S:=aV) (P:=bm) (v:=0) Tu).trans Cm,O⟩)
  ·exact CA _ _ (.inr (.inl ⟨(ER (S:=aV) (P:=bm) (v:=1) Tu).trans JY,O⟩))
  ·exact CA _ _ (.inr (.inr ⟨(ER (S:=aV) (P:=bm) (v:=2) Tu).trans Ci,O⟩))
 obtain⟨l,hl⟩:∃l,l=exLs:=⟨_,O⟩;have hll:l.length=3:=by rw[hl];rfl
 have hen2:∀i (h:i<l.length) (h2:i<(bh aV bm).kes.length),FnP prog 76 [eZ aV,ai (bh aV bm).kes[i],.sl none l[i].length (entsC l[i])] (· = .bool true):=fun i h h2=>by subst hl;exact hen i h h2
 unfold exW at hto ⊢;rw[<-hl]at hto ⊢;clear hen hl;generalize bh aV bm=D at*;refine Z4 O O O O O<|Z2 O O O<|Rs 14 O O (aa call72 hck O) ?_;iterate 10 refine A1 O ?_
 refine Gc O O (fun hc24=>absurd hc24 Tu) (fun hc24=>?_);refine OR<|Z2 O O O<|Rs 27 O O (aa call46 hly O)<|Y2 O O<|Z4 O O O O O ?_;refine Gl O (st:=fun TC:Nat=>mkS [(3,.ptr 0 0),(4,.ptr 1 0),(5,.ptr 2 0),(7,.ptr 3 0),(29,.pv (.sl none 3 (lstsC l))),(30,pIi 3),(31,pIi TC)] [(0,.mix 30 [.pv (.sl none 3 (aB aV.attrs)),.pv (.sl none 2 (aJ aV.rels)),.pv (.sl none 0 []),pIi (-1)]),(1,.mix 32 [.pv (ai bm)]),(2,.mix 49 [.pv (.sl none 3 (lstsC l)),.pv (.str t10),.pv (.sl none 0 []),.pv (.sl none 0 [])]),(3,.mix 97 [.pv (ba D.chs),.pv (ba D.kes),.pv (ba D.hos),.pv (ai D.wa)])] 4)
  (I:=fun TC=>TC<=3) (μ:=fun TC=>3-TC) (x0:=(0)) (OU (aS O) (aO Tt) O O) (cd _) ?_
 rintro i hi;refine Z1 O O ?_;refine Gp O O (fun hc32=>?_) (fun hc32=>?_)
 ·have hlt:i<l.length:=Ts;have hlt3:i<3:=Ts;have hlk:i<D.kes.length:=Ts;have hla:=qA hlt;have hln:=qu hlt;have hka:=fo hlk;have hkn:=fu hlk;have he:=hen2 i hlt hlk;generalize l[i]=E at*;generalize D.kes[i]=K at*;refine OR<|Z1 O O<|Rs 34 O O (ae i underlying42 sz57 O O O hlt3 hln)<|Rs 35 O O (au ⟨_,underlying57,O⟩ O hla)<|Y2 O O<|Ge O follows [0,1,2,3,4,5,6,7,8] Tt ?_;iterate 4 refine D1 O O ?_
  refine Ds 40 [] O O O (fun τ h=>ae i underlying95 pN (Ee h 0 O O) (Ee h 1 O O) O hlk hkn) O Tt<|Ds 41 [] O O O (fun τ h=>au ⟨_,underlying22,O⟩ (Ee h 0 O O) hka) O Tt<|D1 O O<|Ds 43 [] O O O (fun τ h=>aa call76 he (h.aL O)) O Tt<|D1 O O ?_;refine⟨Tt,?_⟩;refine Gc O O (fun hc44=>absurd hc44 Tu) (fun hc44=>?_);exact OR<|Z2 O O O<|⟨(i+1),OU (aS O) (aO Tt) O O,Ts,Ts⟩
 ·refine Gx O<|Z3 O O O O<|Rs 50 O O (aa call24 hto O) ?_;iterate 6 refine A1 O ?_
  refine Gr O ?_;iterate 6 refine A1 O ?_
  exact Rg 59 O O O (aa call77 hsa O)<|Y2 O O<|Gt O<|⟨_,_,O,O,O⟩
end
section
open Mk
theorem AY{P:List Int}{k k':Nat}{x:Int}{l:List Int}(h:upF P k x=some l)(hk:k<=k'):upF P k' x=some l:=by
 induction hk with
 |refl=>exact h
 |step _ ih=>exact me ih
theorem qq{P:List Int}{k:Nat}{x:Int}{l:List Int}(h:upF P k x=some l)(hx:¬x<0):∃k' l',k=k'+1/\l=x::l'/\upF P k' (P.getD x.toNat 0)=some l':=by
 cases k with
 |zero=>simp[upF,hx]at h
 | succ k=>
   simp only[upF,dw hx,Rx]at h;obtain⟨l',h1,h2⟩:=h;exact⟨k,l',O,h2.symm,h1⟩
theorem qP{P:List Int}:∀{k:Nat}{x:Int}{l:List Int},upF P k x=some l->∀i (hi:i<l.length),∃k',upF P k' l[i]=some (l.drop i)
 | k,x,l,h,i,hi=>by
   by_cases hx:x<0
   ·rw[fA hx]at h;cases h;simp at hi
   ·obtain⟨k',l',rfl,rfl,h2⟩:=qq h hx;cases i with
    |zero=>exact⟨k'+1,h⟩
    |succ i=>exact qP h2 i (by simpa using hi)
theorem IU{P:List Int}{k k':Nat}{x:Int}{l l':List Int}(h:upF P k x=some l)(h':upF P k' x=some l'):l=l':=by
 have h1:=AY h (Nat.le_max_left k k');have h2:=AY h' (Nat.le_max_right k k');rw[h1]at h2;exact Ru h2
theorem D9{P:List Int}{k:Nat}{x:Int}{l:List Int}(h:upF P k x=some l):l.Nodup:=by
 rw[List.Nodup,P6];intro i j hi hj hij e;obtain⟨k1,h1⟩:=qP h i hi;obtain⟨k2,h2⟩:=qP h j hj;rw[e]at h1;have:=ag List.length (IU h1 h2);simp at this;omega
theorem DP{P:List Int}(hP:∀p∈P,p<P.length):∀{k:Nat}{x:Int}{l:List Int},upF P k x=some l->x<P.length->∀y∈l,0<=y/\y<P.length
 | k,x,l,h,hx,y,hy=>by
   by_cases h0:x<0
   ·rw[fA h0]at h;cases h;simp at hy
   ·obtain⟨k',l',rfl,rfl,h2⟩:=qq h h0;rcases AS.1 hy with rfl|hy2
    ·exact⟨Ts,hx⟩
    ·obtain⟨a,rfl⟩:=Bb (show 0<=x by omega);have ha:a<P.length:=Ts;refine DP hP h2 ?_ y hy2;simp[List.getD,ha];exact hP _ (ar ha)
theorem E6{P:List Int}(hP:∀p∈P,p<P.length){k:Nat}{x:Int}{l:List Int}(h:upF P k x=some l)(hx:x<P.length):l.length<=P.length:=by
 have hm:=DP hP h hx;have hp:((upZ P.length).filter fun a=>decide (a∈l)).Perm l:=dU (RH Ri (cG _)) (D9 h) fun a=>by
  rw[Qn,P9];refine⟨fun h=>h.2,fun h=>⟨?_,h⟩⟩;obtain⟨x,hx⟩:=Bb (hm a h).1;exact bI.2 ⟨x,by have:=(hm a h).2;omega,hx⟩
 rw[<-hp.length_eq];exact IS (Re _ _) (by rw[aW];exact BY _)
theorem xd{P:List Int}:∀{k:Nat}{x:Int}{l:List Int},upF P k x=some l->upF P l.length x=some l
 | k,x,l,h=>by
   by_cases h0:x<0
   ·rw[fA h0]at h;cases h;exact fA h0
   ·obtain⟨k',l',rfl,rfl,h2⟩:=qq h h0;have:=xd h2;simp only[Pd,upF,dw h0,this,Ra]
theorem iq(P:List Int)(v:Nat)(hv:v<P.length)(hP:∀p∈P,p<P.length)(hn:P.length<=1000000):FnP prog 59 [lR P,.int .i64 v] (· = .tup [ai (bP P v),.bool (abv P v).isSome]):=by
 refine FnP.of func59 O ntmps59 Tw fun m0 w0 F R0=>?_
 have hv0:=aQ hv;have hne:=aE hv;have hab:=tU hv;have hpv:=hP _ (ar hv);refine Z3 O O O O<|Z1 O O<|OT (OZ 6 1 1 3 O O)<|Z4 O O O O O ?_;first|refine A2 O Tv ?_|refine A1 O ?_
 refine A1 O ?_;refine Gl O (st:=fun TC:List Int×Int=>mkS [(2,.ptr 0 0),(6,.gsl 1 1 TC.1.length),(7,pIi TC.2)] [(0,.mix 32 [.pv (ai P)]),(1,.gro 3 (aF TC.1))] 2)
  (I:=fun TC=>TC.1.length<=P.length+1/\TC.2<P.length/\upF P (P.length+1) P[v]=(upF P (P.length+1-TC.1.length) TC.2).map (TC.1++ ·)) (μ:=fun TC=>P.length+1-TC.1.length) (x0:=([],P[v])) (OU (aS O) (aO O) O O) (⟨cd _,hpv,Tw⟩) ?_
 rintro⟨L,x⟩ ⟨hl,hx,hu⟩;try simp only at hl hx hu ⊢
 refine Z2 O O O ?_;refine Gp O O (fun hc14=>?_) (fun hc14=>?_)
 ·obtain⟨a,rfl⟩:=Bb hc14;have ha:a<P.length:=Ts;have hva:=aQ ha;have hsl:(aF L).length=L.length*1:=Tw;refine OR<|Gr O ?_;iterate 6 refine A1 O ?_
  refine Gp O O (fun hc25=>?_) (fun hc25=>?_)
  ·have hle:L.length=P.length+1:=Ts;have hno:abv P v=none:=by
    rw[hle,SO,yz Ts]at hu;rw[hab];cases e:upF P P.length P[v]with
    |none=>rfl
    |some l=>rw[me e]at hu;cases hu
   exact OT (St.lK [])<|Z2 O O O<|OT (St.lK [4])<|Gt O<|⟨_,_,O,O,by unfold bP;rw[hno];rfl⟩
  ·have hlt:L.length<P.length+1:=Ts;refine OR<|Gr O ?_;iterate 5 refine A1 O ?_
   refine Z4 O O O O O ?_;first|refine A2 O Tv ?_|refine A1 O ?_
   exact A1 O<|⟨(L++[(a:Int)],P[a]),OV [0,3] ⟨O,by simp;rfl,O,TB⟩ ⟨O,ag (fun c=>some (Ob.gro 3 c)) (eI L a).symm,TB⟩ O O Tu O,⟨Tx,hP _ (ar ha),by rw[hu,show P.length+1-L.length=P.length+1-(L++[(a:Int)]).length+1 by simp;omega,sn ha,Option.map_map];congr 1;funext l;simp⟩,Tx⟩
 ·have hso:abv P v=some L:=by rw[fA (show x<0 by omega)]at hu;simp at hu;rw[hab];exact AY (xd hu) (E6 hP hu hpv)
  exact Gx O<|OT (OX 1 O O)<|Z3 O O O O<|Gt O<|⟨_,_,O,O,by unfold bP;rw[hso];simp[O9];rfl⟩
theorem BI(a b:Int)(p q:Bool):((a !=b&& !p)&& !q)= !(a==b||q||p):=by
 rw[bne];cases (a==b)<;>cases p<;>cases q<;>rfl
theorem pg(S:Sch)(hS:SB S)(P:List Int)(hn:P.length<=1000000):FnP prog 58 [eZ S,lR P] (· = .int .i64 (lW S P)):=by
 refine FnP.of func58 O ntmps58 Tw fun m0 w0 F R0=>?_
 have hb:=hS.a;refine Z3 O O O O<|Z1 O O<|Rs 23 O O (aa call83 (sA S hS) O)<|A1 O<|Z2 O O O ?_;refine Gc O O (fun hc25=>?_) (fun hc25=>?_)
 ·exact Z2 O O O<|Gt O<|⟨_,_,O,O,ag (PV.int .i64) (by unfold lW;rw[AT (inT hc25)])⟩
 ·have h0:bp S=0:=inF hc25;have hV:=gH h0;have hra:=hV.rng;have hr6:=hV.r2;refine OR<|Z4 O O O O O<|Gr O ?_;iterate 5 refine A1 O ?_
  refine Gc O O (fun hc34=>?_) (fun hc34=>?_)
  ·have hne0:¬P.length=S.attrs.length:=by have:=inT hc34;omega
   exact Z1 O O<|Gt O<|⟨_,_,O,O,ag (PV.int .i64) (by unfold lW;rw[dw (fun h=>h h0),AT hne0])⟩
  ·have heq:P.length=S.attrs.length:=by have:=inF hc34;omega
   refine OR<|Z4 O O O O O ?_;refine Gl O (st:=fun TC:Nat=>mkS [(2,.ptr 0 0),(3,.ptr 1 0),(6,pIi S.attrs.length),(36,.pv (ai P)),(37,pIi P.length),(38,pIi TC)] [(0,oZ S),(1,.mix 32 [.pv (ai P)])] 2)
    (I:=fun TC=>TC<=P.length/\((P.take TC).any fun p=>decide (p< -1)||decide ((P.length:Int)<=p))=false) (μ:=fun TC=>P.length-TC) (x0:=(0)) (OU (aS O) (aO O) O O) (⟨cd _,O⟩) ?_
   rintro k ⟨hk,hany⟩;refine Z1 O O ?_;refine Gp O O (fun hc39=>?_) (fun hc39=>?_)
   ·have hlt:k<P.length:=Ts;have hva:=aQ hlt;have hne:=aE hlt;refine OR<|Z1 O O ?_;first|refine A2 O Tv ?_|refine A1 O ?_
    refine A1 O<|Z3 O O O O ?_;apply O2 4 44 48 [45,46,47] O TE
    ·intro hb2;iterate 4 refine A1 O ?_
     exact OW TD O O O
    ·intro hb2;iterate 4 refine A1 O ?_
     exact OW TD O O O
    refine Gc O O (fun hc48=>?_) (fun hc48=>?_)
    ·rw[<-heq]at hc48;exact Z1 O O<|Gt O<|⟨_,_,O,O,ag (PV.int .i64) (by unfold lW;rw[dw (fun h=>h h0),dw (fun h=>h heq),AT (pJ hlt hc48)])⟩
    ·rw[<-heq]at hc48;exact OR<|Z2 O O O<|⟨(k+1),OU (aS O) (aO O) O O,⟨Ts,fr hlt hany hc48⟩,Ts⟩
   ·rw[aX Ts]at hany;have hP:∀p∈P,p<P.length:=fun p hp=>by have:=S9.1 hany p hp;simp at this;omega
    refine Gx O<|Z4 O O O O O ?_;refine Gl O (st:=fun x_1:Nat=>mkS [(2,.ptr 0 0),(3,.ptr 1 0),(52,pIi P.length),(53,pIi x_1)] [(0,oZ S),(1,.mix 32 [.pv (ai P)])] 2)
     (I:=fun x_1=>x_1<=P.length/\((List.range x_1).all fun v=>(abv P v).isSome)=true) (μ:=fun x_1=>P.length-x_1) (x0:=(0)) (OU (aS O) (aO O) O O) (⟨cd _,O⟩) ?_
    rintro q ⟨hq,hall⟩;refine Z1 O O ?_;refine Gp O O (fun hc54=>?_) (fun hc54=>?_)
    ·have hlt:q<P.length:=Ts;refine OR<|Z2 O O O<|Z2 O O O<|Rs 59 O O (aa call59 (iq P q hlt hP hn) O) ?_;iterate 5 refine A1 O ?_
     refine Z2 O O O ?_;refine Gc O O (fun hc63=>?_) (fun hc63=>?_)
     ·have hno:((List.range P.length).all fun v=>(abv P v).isSome)=false:=RV.2 ⟨q,P0.2 hlt,by simpa using hc63⟩;exact Z1 O O<|Gt O<|⟨_,_,O,O,ag (PV.int .i64) (by unfold lW;rw[dw (fun h=>h h0),dw (fun h=>h heq),dw (by rw[hany];decide),AT hno])⟩
     ·exact OR<|Z2 O O O<|⟨(q+1),OU (aS O) (aO O) O O,⟨Ts,by rw[SL,SI,hall];simpa using hc63⟩,Ts⟩
    ·obtain rfl:q=P.length:=Ts;refine Gx O<|Z4 O O O O O ?_;refine Gl O (st:=fun x_2:Nat=>mkS [(3,.ptr 1 0),(66,.pv (.sl none S.rels.length (aJ S.rels))),(67,pIi S.rels.length),(68,pIi x_2)] [(1,.mix 32 [.pv (ai P)])] 2)
      (I:=fun x_2=>x_2<=S.rels.length/\((S.rels.take x_2).all fun r=>cH P r.2)=true) (μ:=fun x_2=>S.rels.length-x_2) (x0:=(0)) (OU (aS O) (aO O) O O) (⟨cd _,O⟩) ?_
     rintro k ⟨hk,hrall⟩;refine Z1 O O ?_;refine Gp O O (fun hc69=>?_) (fun hc69=>?_)
     ·have hlt:k<S.rels.length:=Ts;have hrow:=dJ hlt;have hne:=fY hlt;have hrm:=ar hlt;have hrr:=hra _ hrm;have hrl:=hS.rl _ hrm;have hno:cH P S.rels[k].2=false->(S.rels.all fun r=>cH P r.2)=false:=fun h=>mY hlt h
      refine OR<|Z1 O O ?_;first|refine A3 O Tv ?_|refine A1 O ?_
      refine Y2 O O<|Z4 O O O O O ?_;refine Gl O (st:=fun x_3:Nat=>mkS [(3,.ptr 1 0),(13,.ptr 2 0),(66,.pv (.sl none S.rels.length (aJ S.rels))),(67,pIi S.rels.length),(68,pIi k),(73,.pv (ai S.rels[k].2)),(74,.pv (.int .i64 S.rels[k].2.length)),(75,pIi x_3)] [(1,.mix 32 [.pv (ai P)]),(2,.mix 74 [.pv (.str S.rels[k].1),.pv (ai S.rels[k].2)])] 3)
       (I:=fun x_3=>x_3<=S.rels[k].2.length/\((S.rels[k].2.take x_3).all fun a=>S.rels[k].2.all fun b=>a==b||hiB P a b||hiB P b a)=true) (μ:=fun x_3=>S.rels[k].2.length-x_3) (x0:=(0)) (OU (aS O) (aO O) O O) (⟨cd _,O⟩) ?_
      rintro i ⟨hi,hia⟩;refine Z1 O O ?_;refine Gp O O (fun hc76=>?_) (fun hc76=>?_)
      ·have hil:i<S.rels[k].2.length:=Ts;have hvi:=aQ hil;have hnei:=aE hil;have hri:=hrr _ (ar hil);obtain⟨a,hae⟩:=Bb hri.1;rw[hae]at hvi;have hal:a<P.length:=Ts;have hla:=iI P a;refine OR<|Z1 O O ?_;first|refine A2 O Tv ?_|refine A1 O ?_
       refine A1 O<|Z4 O O O O O ?_;refine Gl O (st:=fun x_4:Nat=>mkS [(3,.ptr 1 0),(13,.ptr 2 0),(15,pIi a),(66,.pv (.sl none S.rels.length (aJ S.rels))),(67,pIi S.rels.length),(68,pIi k),(73,.pv (ai S.rels[k].2)),(74,.pv (.int .i64 S.rels[k].2.length)),(75,pIi i),(80,.pv (ai S.rels[k].2)),(81,.pv (.int .i64 S.rels[k].2.length)),(82,pIi x_4)] [(1,.mix 32 [.pv (ai P)]),(2,.mix 74 [.pv (.str S.rels[k].1),.pv (ai S.rels[k].2)])] 3)
        (I:=fun x_4=>x_4<=S.rels[k].2.length/\((S.rels[k].2.take x_4).all fun b=>(a:Int)==b||hiB P a b||hiB P b a)=true) (μ:=fun x_4=>S.rels[k].2.length-x_4) (x0:=(0)) (OU (aS O) (aO O) O O) (⟨cd _,O⟩) ?_
       rintro j ⟨hj,hja⟩;refine Z1 O O ?_;refine Gp O O (fun hc83=>?_) (fun hc83=>?_)
       ·have hjl:j<S.rels[k].2.length:=Ts;have hvj:=aQ hjl;have hrj:=hrr _ (ar hjl);obtain⟨b,hbe⟩:=Bb hrj.1;rw[hbe]at hvj;have hbl:b<P.length:=Ts;have hlb:=iI P b;refine OR<|Z1 O O ?_;first|refine A2 O Tv ?_|refine A1 O ?_
        refine A1 O<|Z2 O O O<|Rs 89 O O (aa call59 (iq P a hal hP hn) O) ?_;iterate 5 refine A1 O ?_
        refine Z2 O O O<|Rs 95 O O (aa call59 (iq P b hbl hP hn) O) ?_;iterate 5 refine A1 O ?_
        refine Z4 O O O O O ?_;apply O3 5 101 106 [102,103,104,105] O TE
        ·intro hb3;exact Y2 O O<|Rg 104 O O O (aa call60 (jn (bP P a) b Ts) O)<|Y2 O O<|OW TD O O O
        ·intro hb3;iterate 5 refine A1 O ?_
         exact OW TD O O O
        refine A1 O ?_;apply O3 5 107 112 [108,109,110,111] O TE
        ·intro hb9;exact Y2 O O<|Rg 110 O O O (aa call60 (jn (bP P b) a Ts) O)<|Y2 O O<|OW TD O O O
        ·intro hb9;iterate 5 refine A1 O ?_
         exact OW TD O O O
        refine Gc O O (fun hc112=>?_) (fun hc112=>?_)
        ·rw[BI,Rm]at hc112;have hbad:cH P S.rels[k].2=false:=by unfold cH;rw[mY hil (mY hjl (by rw[hae,hbe];exact hc112))]
         exact Z1 O O<|Gt O<|⟨_,_,O,O,ag (PV.int .i64) (by unfold lW;rw[dw (fun h=>h h0),dw (fun h=>h heq),dw (by rw[hany];decide),dw (by rw[hall];decide),AT (hno hbad)])⟩
        ·rw[BI,Bool.not_eq_false']at hc112;exact OR<|Z2 O O O<|⟨(j+1),OU (aS O) (aO O) O O,⟨Ts,j0 hjl hja (by rw[hbe];exact hc112)⟩,Ts⟩
       ·rw[aX Ts]at hja;exact Gx O<|Z2 O O O<|⟨(i+1),OU (aS O) (aO O) O O,⟨Ts,j0 hil hia (by rw[hae];exact hja)⟩,Ts⟩
      ·rw[aX Ts]at hia;exact Gx O<|Z2 O O O<|⟨(k+1),OU (aS O) (aO O) O O,⟨Ts,j0 hlt hrall hia⟩,Ts⟩
     ·rw[aX Ts]at hrall;exact Gx O<|Z1 O O<|Gt O<|⟨_,_,O,O,ag (PV.int .i64) (by unfold lW;rw[dw (fun h=>h h0),dw (fun h=>h heq),dw (by rw[hany];decide),dw (by rw[hall];decide),dw (by rw[hrall];decide)])⟩
end
section
open Mk
theorem CN(S:Sch)(P:List Int)(v:Int):((lW S P !=0||decide (v<0))||decide (v>=(P.length:Int)))= !isB S P v:=by
 have h1:decide (v<0)= !decide (v>=0):=by rw[PA];simp
 have h2:decide (v>=(P.length:Int))= !decide (v<P.length):=by rw[PA];simp
 unfold isB;rw[h1,h2,bne];cases (lW S P==0)<;>cases decide (v>=0)<;>cases decide (v<(P.length:Int))<;>rfl
theorem GR{P:List Int}{v:Nat}(hv:v<P.length):dD P v≠[]:=fun h=>by
 have:(v:Int)∈dD P v:=gX.2 ⟨⟨v,hv,O⟩,.inl O⟩;rw[h]at this;cases this
theorem vy(S:Sch)(hS:SB S)(P:List Int)(hn:P.length<=1000000)(v:Int):FnP prog 16 [eZ S,lR P,.int .i64 v] (· =if isB S P v=true then .sl (some false) (dD P v).length (aF (dD P v))else .sl (some true) 0 []):=by
 refine FnP.of func16 O ntmps16 Tw fun m0 w0 F R0=>?_
 refine Z3 O O O O<|Z2 O O O<|Rs 13 O O (aa call58 (pg S hS P hn) O)<|Y2 O O ?_;apply O2 3 15 18 [16,17] O TE
 ·intro hb4;exact Y3 O O O<|OW TD O O O
 ·intro hb4;exact Y3 O O O<|OW TD O O O
 refine A1 O ?_;apply O2 6 19 25 [20,21,22,23,24] O TE
 ·intro hb8;iterate 6 refine A1 O ?_
  exact OW TD O O O
 ·intro hb8;iterate 6 refine A1 O ?_
  exact OW TD O O O
 refine Gc O O (fun hc25=>?_) (fun hc25=>?_)
 ·rw[CN]at hc25;exact Z1 O O<|Gt O<|⟨_,_,O,O,by rw[dw (by simpa using hc25)];rfl⟩
 ·rw[CN]at hc25;have hi:isB S P v=true:=by simpa using hc25
  have hi2:=Ks.1 hi;have hok:=(gU.1 hi2.1).2;have hP:∀p∈P,p<P.length:=fun p hp=>(hok.rng p hp).2
  obtain⟨a,rfl⟩:=Bb hi2.2.1;have hbne:=GR (show a<P.length by omega);refine OR<|Z1 O O<|OT (OZ 7 2 1 3 O O)<|Z4 O O O O O ?_;refine Gl O (st:=fun TC:Nat×List Int=>mkS [(2,pIi a),(4,.ptr 1 0),(7,.gsl 2 1 TC.2.length),(28,pIi P.length),(29,pIi TC.1)] [(1,.mix 32 [.pv (ai P)]),(2,.gro 3 (aF TC.2))] 3)
   (I:=fun TC=>TC.1<=P.length/\TC.2=(upZ TC.1).filter (fun b=>b==(a:Int)||hiB P a b)) (μ:=fun TC=>P.length-TC.1) (x0:=(0,[])) (OU (aS O) (aO O) O O) (⟨cd _,O⟩) ?_
  rintro⟨k,L⟩ ⟨hk,hL⟩;try simp only at hk hL ⊢
  refine Z1 O O ?_;refine Gp O O (fun hc30=>?_) (fun hc30=>?_)
  ·have hlt:k<P.length:=Ts;have hLl:L.length<=k:=by rw[hL];exact IS (Re _ _) (by rw[aW];exact BY _)
   have hsl:(aF L).length=L.length*1:=Tw;have hfs:=oH (fun b=>b==(a:Int)||hiB P a b) k;have hab:=iI P k;refine OR<|Z2 O O O<|Z2 O O O<|Rs 35 O O (aa call59 (iq P k hlt hP hn) O) ?_;iterate 5 refine A1 O ?_
   refine Z4 O O O O O ?_;apply O2 4 41 45 [42,43,44] O TE
   ·intro hb3;iterate 4 refine A1 O ?_
    exact OW TD O O O
   ·intro hb3;exact Y2 O O<|Rg 44 O O O (aa call60 (jn (bP P k) a Ts) O)<|A1 O<|OW TD O O O
   refine Gc O O (fun hc45=>?_) (fun hc45=>?_)
   ·rw[AT (show((k:Int)==(a:Int)||hiB P a k)=true from hc45),<-hL]at hfs;refine Gr O ?_;iterate 5 refine A1 O ?_
    exact Z2 O O O<|⟨(k+1,L++[(k:Int)]),OV [0,1,4] ⟨O,O,by simp;rfl,O,O,TB⟩ ⟨O,ag (fun c=>some (Ob.gro 3 c)) (eI L k).symm,TB⟩ O O Tu O,⟨Tz,hfs.symm⟩,Tz⟩
   ·rw[dw (fun e=>by have e2:((k:Int)==(a:Int)||hiB P a k)=false:=hc45;rw[e2]at e;cases e),<-hL,PZ]at hfs;exact OR<|Z2 O O O<|⟨(k+1,L),OU (aS O) (aO O) O O,⟨Tz,hfs.symm⟩,Tz⟩
  ·have hLe:L=dD P a:=by rw[hL,show k=P.length by omega];rfl
   subst hLe;have hpos:=Qe.2 hbne;exact Gx O<|OT (St.JU 7 O O hpos (by simpa using hbne))<|OT (OX 2 O O)<|Z2 O O O<|Gt O<|⟨_,_,O,O,by rw[AT hi];rfl⟩
end
section
open Mk
structure Deep(P l:List Int)(k:Nat)(b m:Int):Prop where
 zero:k=0->m= -1/\b= -1
 pos:0<k->b∈l/\m=(bP P b).length/\∀a∈l.take k,((bP P a).length:Int)<=m
theorem Deep.next{P l:List Int}{k:Nat}{b m:Int}(h:Deep P l k b m)(hk:k<l.length):
  (((bP P l[k]).length:Int)>m->Deep P l (k+1) l[k] (bP P l[k]).length)/\(¬ ((bP P l[k]).length:Int)>m->Deep P l (k+1) b m):=by
 refine⟨fun hg=>⟨fun e=>by omega,fun _=>⟨ar hk,O,fun a ha=>?_⟩⟩,fun hg=>⟨fun e=>by omega,fun _=>?_⟩⟩
 ·rw[bC hk,Pq,OF]at ha;rcases ha with ha|rfl
  ·have hp:0<k:=by rcases Qj k with e|e;subst e;simp at ha;exact e
   have:=(h.pos hp).2.2 a ha;omega
  ·exact Int.le_refl _
 ·have hp:0<k:=by
   rcases Qj k with e|e
   ·have:=(h.zero e).1;omega
   ·exact e
  obtain⟨h1,h2,h3⟩:=h.pos hp;refine⟨h1,h2,fun a ha=>?_⟩;rw[bC hk,Pq,OF]at ha;rcases ha with ha|rfl
  ·exact h3 a ha
  ·omega
theorem zP(S:Sch)(hS:SB S)(P:List Int)(hn:P.length<=1000000)(r:Int):FnP prog 14 [eZ S,lR P,.int .i64 r] (· = .int .i64 (if zm S P r=true then-1 else iy P (S.rels.getD r.toNat default).2)):=by
 refine FnP.of func14 O ntmps14 Tw fun m0 w0 F R0=>?_
 refine Z3 O O O O<|Z2 O O O<|Rs 15 O O (aa call58 (pg S hS P hn) O)<|Y2 O O ?_;apply O2 3 17 20 [18,19] O TE
 ·intro hb4;exact Y3 O O O<|OW TD O O O
 ·intro hb4;exact Y3 O O O<|OW TD O O O
 refine A1 O ?_;apply O2 6 21 27 [22,23,24,25,26] O TE
 ·intro hb8;iterate 6 refine A1 O ?_
  exact OW TD O O O
 ·intro hb8;iterate 6 refine A1 O ?_
  exact OW TD O O O
 refine Gc O O (fun hc27=>?_) (fun hc27=>?_)
 ·exact Z1 O O<|Gt O<|⟨_,_,O,O,by unfold zm;rw[AT hc27];rfl⟩
 ·have hno:zm S P r=false:=hc27;have h3:lW S P=0/\0<=r/\r<S.rels.length:=by unfold zm at hno;simp at hno;omega
  have hok:=(gU.1 h3.1).2;have hU:=hok.jo;have hP:∀p∈P,p<P.length:=fun p hp=>(hok.rng p hp).2
  obtain⟨q,rfl⟩:=Bb h3.2.1;have hql:q<S.rels.length:=Ts;have hrow:(aJ S.rels)[q*2+1]? =some (ai S.rels[q].2):=fD _ 2 (fun _=>rfl) S.rels q 1 hql Tu;have hrne:=fY hql;have hrm:=ar hql;have hrl:=hS.rl _ hrm;have hrr:∀a∈S.rels[q].2,0<=a/\a<P.length:=by rw[hok.len];exact hok.val.rng _ hrm
  have hrp:0<S.rels[q].2.length:=Qe.2 (hok.val.ne _ hrm);have hgd:S.rels.getD (q:Int).toNat default=S.rels[q]:=by simp[List.getD,hql]
  have hha:=qO hU (hok.val.ne _ hrm) hrr (hok.rt _ hrm);refine OR<|Z2 O O O<|Gr O ?_;iterate 5 refine A1 O ?_
  first|refine A2 O Tv ?_|refine A1 O ?_
  refine Y2 O O ?_;refine Gl O (st:=fun TC:Nat×Int×Int=>mkS [(4,.ptr 1 0),(7,pIi TC.2.1),(8,pIi TC.2.2),(33,.pv (ai S.rels[q].2)),(34,.pv (.int .i64 S.rels[q].2.length)),(35,pIi TC.1)] [(1,.mix 32 [.pv (ai P)])] 2)
   (I:=fun TC=>TC.1<=S.rels[q].2.length/\Deep P S.rels[q].2 TC.1 TC.2.1 TC.2.2) (μ:=fun TC=>S.rels[q].2.length-TC.1) (x0:=(0, -1, -1)) (OU (aS O) (aO O) O O) (⟨cd _,⟨fun _=>⟨O,O⟩,fun h=>absurd h (Nat.lt_irrefl _)⟩⟩) ?_
  rintro⟨k,b,m⟩ ⟨hk,hD⟩;try simp only at hk hD ⊢
  refine Z1 O O ?_;refine Gp O O (fun hc36=>?_) (fun hc36=>?_)
  ·have hlt:k<S.rels[q].2.length:=Ts;have hva:=aQ hlt;have hne:=aE hlt;have hka:=hrr _ (ar hlt);have hnx:=hD.next hlt;obtain⟨a,hae⟩:=Bb hka.1;rw[hae]at hva hnx;have hal:a<P.length:=Ts;refine OR<|Z1 O O ?_;first|refine A2 O Tv ?_|refine A1 O ?_
   refine A1 O<|Z2 O O O<|Rs 42 O O (aa call59 (iq P a hal hP hn) O) ?_;iterate 5 refine A1 O ?_
   refine Z4 O O O O O ?_;refine Gp O O (fun hc48=>?_) (fun hc48=>?_)
   ·refine Gr O ?_;iterate 5 refine A1 O ?_
    exact Z2 O O O<|⟨(k+1,(a:Int),((bP P (a:Int)).length:Int)),OU (aS O) (aO O) O O,⟨Tz,hnx.1 hc48⟩,Tz⟩
   ·exact OR<|Z2 O O O<|⟨(k+1,b,m),OU (aS O) (aO O) O O,⟨Tz,hnx.2 hc48⟩,Tz⟩
  ·have hkl:k=S.rels[q].2.length:=Ts;have hbe:b=iy P S.rels[q].2:=by
    obtain⟨h4,h5,h6⟩:=hD.pos Ts;rw[aX Ts]at h6;rcases hha.2 b h4 with e|e
    ·exact e
    ·have h7:=h6 _ hha.1;obtain⟨x,hx⟩:=Bb (hrr _ hha.1).1;obtain⟨y,hy⟩:=Bb (hrr _ h4).1;rw[hx,hy]at e;rw[hx,h5,hy]at h7;have:=(Bk hU (by have:=(hrr _ hha.1).2;omega) e).2;omega
   exact Gx O<|Z2 O O O<|Gt O<|⟨_,_,O,O,by rw[dw (by rw[hno];decide),hgd,hbe];rfl⟩
end
section
open Go.RowKit Mk Jn Mm Vw
theorem B7:FnP prog 40 [] (· = .tup [eZ aV,lR bm]):=by
 refine FnP.fg2 (FnP.ofC func40 O ntmps40 Tw fun m0 w0 F R0=>?_);exact Z2 O O O<|Z3 O O O O<|Rs 6 O O (ak none Tw el26 O Tu Tu O O)<|Rs 7 O O (ak none Tw vL O Tu Tu O O)<|A1 O<|Rs 9 O O (ak none Tw vL O Tu Tu O O)<|A1 O<|Rs 11 O O (ak none Tw el27 O Tu Tu O O)<|Y3 O O O<|Z1 O O<|Rs 14 O O (ak none Tw vL O Tu Tu O O)<|Y3 O O O<|Gt O<|⟨_,_,O,O,⟨az ⟨_,underlying30,O⟩ sz30 O O O,az ⟨_,underlying32,O⟩ H7 O O O,TB⟩,O⟩
theorem ex_sj:SJn aV:=⟨Tu,Tu,Tu,Tu⟩
theorem DB(A:List Int)(v:List ByteArray)(w:Int)(hl:v.length=A.length)(hA:∀a∈A,(aV.attrs.getD a.toNat default).2=1)(hv:∀y∈v,bd y=true/\(rdZ y).natAbs<1000000000)(hw:1<=w/\w<=100):RowOk aV A 1 ⟨v,w⟩:=
 ⟨hl,fun i h1 h2 nm=>by rw[hA _ (ar h2)];exact oJ nm _ (.inr (hv _ (ar h1))),⟨by show w≠0;omega,hw.1,hw.2⟩⟩
theorem G6:FnP prog 111 [eZ aV,dbP exD] (· = .int .i64 0):=by
 have hv:∀y∈[t1,t7,t3,t8],bd y=true/\(rdZ y).natAbs<1000000000:=fun y hy=>by
  simp only[AS,P7,R6]at hy;rcases hy with rfl|rfl|rfl|rfl<;>exact⟨by decide+kernel,by decide+kernel⟩
 refine xX aV lq ex_sj Fg exD O Tu fun r h h2=>?_
 match r,h with
 | 0,_=>
   refine⟨fun x hx=>?_,?_⟩
   ·obtain rfl:x=⟨[t1,t7],2⟩:=by simpa using hx
    exact DB [0,1] _ _ O Tu (fun y hy=>hv y (by simp at hy ⊢; rcases hy with h|h<;>simp[h])) ⟨Tu,Tu⟩
   ·show Je [_];exact List.pairwise_singleton _ _
 | 1,_=>
   refine⟨fun x hx=>?_,?_⟩
   ·have hx:x=⟨[t7,t3],5⟩\/x=⟨[t8,t3],1⟩:=by simpa using hx
    rcases hx with rfl|rfl
    ·exact DB [1,2] _ _ O Tu (fun y hy=>hv y (by simp at hy ⊢; rcases hy with h|h<;>simp[h])) ⟨Tu,Tu⟩
    ·exact DB [1,2] _ _ O Tu (fun y hy=>hv y (by simp at hy ⊢; rcases hy with h|h<;>simp[h])) ⟨Tu,Tu⟩
   ·show Je [_,_];refine PW.2 ⟨fun x hx=>?_,List.pairwise_singleton _ _⟩;obtain rfl:x=⟨[t8,t3],1⟩:=by simpa using hx
    show bl [t7,t3] [t8,t3]=true;decide+kernel
theorem I2:FnP prog 13 [eZ aV,lR bm,dbP exD] (· = .tup [exW,.int .i64 0]):=by
 have h:=pn exD ex_vb O Tu (fun r h h2 x hx=>by
  match r,h with
  | 0,_=>
    obtain rfl:x=⟨[t1,t7],2⟩:=by simpa using hx
    rfl
  | 1,_=>
    have hx:x=⟨[t7,t3],5⟩\/x=⟨[t8,t3],1⟩:=by simpa using hx
    rcases hx with rfl|rfl<;>rfl) Fg G6
 rw[CM,IP,JC]at h;have e:vwsP exLs (cn (cg 10 1 3).m)=exW:=by
  show PV.agg (_::Jm (cn (cnt 10)))=_;have h2:Jm (cn (cnt (10:Nat)))=[.str t10,.sl none 0 [],.sl none 0 []]:=by
   have:=oN 10 t10 Nr;injection this
  rw[show Jm (cn (cnt 10))=Jm (cn (cnt (10:Nat)))from O,h2];rfl
 rw[e]at h;exact h
theorem NP:FnP prog 9 [] (· = .bool true):=by
 refine FnP.of func9 O ntmps9 Tw fun m0 w0 F R0=>?_
 have hex:=B7;have hbu:=I2;have hsz:=An exLs Tu t10 0 0 [] [];have hin:=CF [1,1,2] Tu;have ha7:=at_7;have ha8:=at_8;have hch:=I5;have hz:=Di;have hs0:=xi;refine Z1 O O<|Gr O<|Rs 7 O O (aa call40 hex O) ?_;iterate 7 refine A1 O ?_
 refine Gr O<|Rs 10 O O (ak none Tw zX O Tu Tu O O)<|A1 O<|Rs 12 O O (ak none Tw Jr O Tu Tu O O)<|Rs 13 O O (ak none Tw zX O Tu Tu O O)<|A1 O<|Rs 15 O O (ak none Tw zX O Tu Tu O O)<|A1 O<|Rs 17 O O (ak none Tw Jr O Tu Tu O O)<|Rs 18 O O (ak none Tw el34 O Tu Tu O O)<|A1 O<|Z3 O O O O<|Rs 23 O O (aa call13 hbu O) ?_;iterate 6 refine A1 O ?_
 refine Z4 O O O O O<|Rg 30 O O O (aa call37 hsz O)<|Rg 31 O O O (ak none Tw vL O Tu Tu O O)<|Rg 32 O O O (aa call41 hin O)<|Y3 O O O<|Rg 36 O O O (ak none Tw zX O Tu Tu O O)<|Rg 37 O O O (aa call42 ha7 O)<|Rg 38 O O O (EP underlying47 O O ⟨_,underlying43,O⟩ O O)<|Rg 39 O O O (XJ.cast (v':= .pv (.bool true)) (dh O O O) (ag (fun b=>V.pv (.bool b)) (Qz _))) ?_;iterate 5 refine A1 O ?_
 refine Rg 45 O O O (XJ.cast (v':= .pv (.bool true)) (dh O O O) (ag (fun b=>V.pv (.bool b)) (Qz _))) ?_;iterate 5 refine A1 O ?_
 exact Rg 51 O O O (aa call25 hch O)<|Y3 O O O<|Rg 55 O O O (ak none Tw zX O Tu Tu O O)<|Rg 56 O O O (aa call42 ha8 O)<|Rg 57 O O O (aa call21 hz O)<|Rg 58 O O O (aa call20 hs0 O)<|Y2 O O<|Gt O<|⟨_,_,O,O,O⟩
end


section
open Go.RowKit Mk Jn Mm Vw
theorem Ay(t:List Int)(k0:Nat)(hL:t.length<=600)(hk0:k0<=t.length):FnO prog 11 1 0 [.ptr big 0] [(big,tG t k0)] (fun v ob'=>∃(S:Sch)(q:List Int)(d:List (List Rw))(k':Nat),Made S 5/\q.Perm (upZ S.attrs.length)/\MdD S 4 S.rels.length d/\k'<=t.length/\
  v= .tup [.agg (sCc S),.agg [.pv (ai (ordL S q))],.pv (dbP d)]/\ob'=ax [(big,tG t k')]):=by
 refine FnO.ofC func11 O ntmps11 Tw fun m0 w0 F R0=>?_
 refine Z3 O O O O<|Z1 O O ?_;refine RL.call O (kr call26 (vu t k0 5 Ts hk0 Ts Ts) O O ?_);rintro _ _ ⟨⟨S,hM,rfl⟩,k1,hk1,rfl⟩;have h0:=iS hM Ts;have hSB:=qU hM Ts;have hS:=rq hM;have hr2:=hM.r2;refine Y2 O O<|Ge O follows [0,1,2,4,5,3,6,7,8,9] Tt ?_;iterate 5 refine D1 O O ?_
 refine DL.rel (RM 91 big (fun v c=>(∃q:List Int,q.Perm (upZ S.attrs.length)/\v=lR (ordL S q))/\∃k',k'<=t.length/\c=gx t k')) [big] [] [big] O O O (fun τ h=>relM call43 (tu t k1 Ts hk1 S hSB h0) (h.args.trans O) (Eo h 0 O O)) O Tt Tt Tt ?_;rintro _ ⟨_,_,⟨⟨q,hq,rfl⟩,k2,hk2,rfl⟩,rfl⟩ _ _;refine DL.rel (RM 91 big (fun v c=>(∃d,MdD S 4 S.rels.length d/\v=dbP d)/\∃k',k'<=t.length/\c=gx t k')) [big] [] [big] O O O (fun τ h=>relM call27 (rv t k2 Ts hk2 S 4 Tu Ts (fun r hr=>⟨hS.l r hr,hS.b r hr⟩)) (h.args.trans O) (Eo h 0 O O)) O Tt Tt Tt ?_;rintro _ ⟨_,_,⟨⟨d,hd,rfl⟩,k3,hk3,rfl⟩,rfl⟩ _ _;iterate 3 refine D1 O O ?_
 refine⟨Tt,?_⟩;exact Gt O<|⟨[(2,.ptr 0 0),(3,.ptr 1 0),(4,.pv (dbP d))],[(big,tG t k3),(0,oZ S),(1,.mix 32 [.pv (ai (ordL S q))])],[.agg (sCc S),.agg [.pv (ai (ordL S q))],.pv (dbP d)],[(big,tG t k3)],2,OU (aS Tt) (aO Tt) O O,O,⟨az ⟨_,underlying30,O⟩ sz30 O O O,az ⟨_,underlying32,O⟩ H7 O O O,TB⟩,O,O,fun i o h=>by simp only[ax]at h ⊢; cases hb:Nat.beq i big<;>simp_all,cd _,S,q,d,k3,hM,hq,hd,hk3,O,O⟩
end
section
open Go.RowKit Mk Jn Mm Vw
namespace Vw
theorem z6{P:List Int}(hP:UpOk P):∀v:Nat,v<P.length->∃r:Nat,(r:Int)∈aA P (-1)/\(r:Int)∈(v:Int)::bP P v:=by
 refine pZ hP (fun v hv hp hab=>⟨v,a7.2 ⟨v,hv,O,by rw[getD_at hv];exact hp⟩,PU⟩) (fun v hv p hpl hp hab ih=>?_);obtain⟨r,h1,h2⟩:=ih;exact⟨r,h1,by rw[hab];exact PH _ h2⟩
theorem Ep{S:Sch}{P:List Int}{T:List (List Rw)}{lf:Int->ByteArray->Gv}(hO:OrdOk S P){k:Nat}(hk:k<S.rels.length)(hT:T.getD k []=[]):
  ∃h:Nat,iy P S.rels[k].2=(h:Int)/\(totV S P T lf).m=Mm.Sem.zero/\∀a:Nat,(h:Int)∈dD P a->vwS S P T lf a=[]:=by
 have hP:=hO.jo;have hV:=hO.val;have hr:=ar hk;have h1:=(HF hO hr).1;have h2:=hV.rng _ hr _ h1;obtain⟨h,hh⟩:=Bb h2.1;have hlt:h<P.length:=by have:=hO.len;omega
 have he:vwS S P T lf h=[]:=HH hP hlt (r:=(k:Int)) (LG.2 ⟨k,hk,O,hh⟩) (by unfold l6;rw[Pz];exact hT);have hab:=DZ hP hlt he;refine⟨h,hh,?_,fun a ha=>?_⟩
 ·obtain⟨r,g1,g2⟩:=z6 hP h hlt;exact tT (.inr ⟨r,g1,hab r g2⟩)
 ·refine hab a ?_;rcases(gX.1 ha).2 with e|e
  ·rw[<-e];exact PU
  ·exact PH _ e
end Vw
theorem mL(t:List Int):FnP prog 4 [ai t] (· = .bool true):=by
 refine FnP.of func4 O ntmps4 Tw fun m0 w0 F R0=>?_
 have hsa:=NP;have hz:=Di;have hs0:=xi;refine Z1 O O<|Z3 O O O O ?_;refine Gp O O (fun hc15=>?_) (fun hc15=>?_)
 ·exact Gr O<|Rs 16 O O (aa call9 hsa O)<|A1 O<|Gt O<|⟨_,_,O,O,O⟩
 ·have hL:t.length<=400:=Ts;refine OR<|Z1 O O ?_;refine RL.call O (uB [] 0 call10 (Ik t Ts) O O O O trivial Tu O ?_);rintro _ _ ⟨rfl,rfl⟩;refine A1 O<|Z1 O O ?_;refine RL.call O (bM [0] 1 call11 O O O O (by exact⟨Tt,TB⟩) Tu O (Ay t 0 Ts (cd _)) ?_);rintro _ _ ⟨S,q,d,k1,hM,hq,hd,hk1,rfl,rfl⟩;iterate 9 refine A1 O ?_
  have h0:=iS hM Ts;have hV:=gH h0;have hSB:=qU hM Ts;have hO:OrdOk S (ordL S q):=(xC hV hq).ok hV hq;have hlen:=hO.len;have hP0:=gU.2 ⟨h0,hO⟩;have hdb:=LD hM hd;have hdn:=hdb.n;have hr1:=hM.r1;have hr2:=hM.r2;have ha2:=hM.a2;have hnn:=fk t k1 d.length Ts hk1 Ts Ts;have hni:=gY t k1 d.length Ts;obtain⟨k,hk⟩:=Bb hni.1;rw[hk]at hnn;have hkl:k<d.length:=by have:=hni.2;omega
  have hkr:k<S.rels.length:=Ts;clear hni hk;have hwd:=J6 hd k;have hvb:=L0 hM hO hwd;have hd2:=M6 hdb k;have hbu:=pn (d.set k []) hvb (by rw[PO];exact hdn) (fun l hl=>by have:=hd2.l l hl;omega) (fun r h h2 x hx=>((hd2.t r h h2).row x hx).l) h0 (xX S hSB hd2.hS h0 _ (by rw[PO];exact hdn) (fun l hl=>by have:=hd2.l l hl;omega) hd2.t);have hTk:(dM S (d.set k [])).getD k []=[]:=by
   have e1:k<(dM S (d.set k [])).length:=by rw[hwd.len];exact hkr
   rw[Pk,By e1];simp[dM,o6]
  obtain⟨h,hh,htz,hbe⟩:=Ep (lf:=lfM S) hO hkr hTk;obtain⟨LS,hLS⟩:∃LS:List (List En),LS=(List.range (ordL S q).length).map fun a:Nat=>fG (vwS S (ordL S q) (dM S (d.set k [])) (lfM S) a):=⟨_,O⟩
  have hLl:LS.length=S.attrs.length:=by rw[hLS,Pg,List.length_range];exact hlen
  have hLe:∀a (ha:a<LS.length),(h:Int)∈dD (ordL S q) a->LS[a]=[]:=fun a ha hb=>by
   have e:=hbe a hb;simp only[hLS,Qm,List.getElem_range,e];simp[fG]
  have hgz:Jm (cn Mm.Sem.zero)=[.str t0,.sl none 0 [],.sl none 0 []]:=by
   have:=sf;rw[show cn Mm.Sem.zero=cn gz.m from O,this];show [PV.str (fL ((0:Int):Rat)),_,_]=_;rw[jW];rfl
  rw[htz,<-hLS]at hbu;unfold vwsP at hbu;rw[hgz,hLl]at hbu;have hho:=zP S hSB (ordL S q) Ts k;rw[dw (show ¬zm S (ordL S q) k=true by unfold zm;rw[hP0];simp;omega),show(S.rels.getD ((k:Nat):Int).toNat default).2=S.rels[k].2 by simp[List.getD,hkr],hh]at hho;have hbl:=fun i:Nat=>vy S hSB (ordL S q) Ts (i:Int)
  have hisB:∀i:Nat,i<S.attrs.length->isB S (ordL S q) i=true:=fun i hi=>by unfold isB;rw[hP0];simp;omega
  have hbln:∀i:Nat,(dD (ordL S q) i).length<=1000:=fun i=>by have:=Re (fun a=>a==(i:Int)||hiB (ordL S q) i a) ((List.range (ordL S q).length).map Int.ofNat);rw[Pg,List.length_range]at this;show(List.filter _ _).length<=_;omega
  generalize ordL S q=P at*;have hfs:=Mz d k;have hdp:0<d.length:=Ts;have htl:=er d;have htl2:(dC (d.set k [])).length=d.length:=by rw[er,PO,PX]
  have hbu2:FnP prog 13 [eZ S,lR P,.sl none (d.set k []).length (dC (d.set k []))] (· = .tup [.agg [.sl none S.attrs.length (lstsC LS),.str t0,.sl none 0 [],.sl none 0 []],.int .i64 0]):=hbu;rw[PO]at hbu2;clear hbu hvb hwd hTk hbe htz hLS;refine Z3 O O O O ?_;refine RL.call O (kr call12 hnn O O ?_);rintro _ _ ⟨rfl,rfl⟩;refine A1 O<|Z1 O O<|Rs 30 O O (pR 3 el34 O (.inl ⟨none,O⟩) Ts (Iq d) Ts hdp O)<|A1 O<|Z2 O O O<|Rs 33 O O (aq k underlying34 sz38 O O O O hkl)<|A1 O<|OT (St.JP (id:=3) O)<|Wk [(4,.ptr 1 0),(5,.ptr 2 0),(7,pIi k),(8,.osl 3 1 d.length)] [(1,oZ S),(2,.mix 32 [.pv (ai P)]),(3,.cells 38 (dC (d.set k [])))] 4 (aS O) ⟨Tt,Tt,PG (b:=some (.cells 38 (PV.fgL ((dC d).set (k*1) nS)))) Tt (ag (fun c=>some (Ob.cells 38 c)) hfs),TB⟩ O O<|OT (St.Jf 3 [8] O ⟨O,TB⟩ Ts) ?_;rw[aX (show(dC (d.set k [])).length<=d.length*1 by omega)];refine Z3 O O O O<|Rs 38 O O (aa call13 hbu2 O) ?_;iterate 6 refine A1 O ?_
  refine Ge O follows [0,1,2,3,4,5,6,7,8,9,10,11,12,13,14,15,16,17] Tt ?_;iterate 9 refine D1 O O ?_
  refine Dg 50 [] O O O O (fun τ h=>XJ.cast (v':= .pv (.bool false)) (aG (Ee h 0 O O) (Ee h 1 O O) O) (ag (fun b=>V.pv (.bool b)) (bne_self_eq_false _))) O Tt ?_;iterate 4 refine D1 O O ?_
  refine Dg 55 [] O O O O (fun τ h=>aa call21 hz (h.aL O)) O Tt<|Dg 56 [] O O O O (fun τ h=>aa call20 hs0 (h.aL O)) O Tt ?_;iterate 2 refine D1 O O ?_
  refine⟨Tt,?_⟩;refine Gc O O (fun hc58=>absurd hc58 Tu) (fun hc58=>?_);refine OR<|Z3 O O O O<|Rs 62 O O (aa call14 hho O)<|A1 O<|Z4 O O O O O ?_;refine Gl O (st:=fun TC:Nat=>mkS [(4,.ptr 1 0),(5,.ptr 2 0),(9,.ptr 4 0),(11,pIi (h:Int)),(65,pIi S.attrs.length),(66,pIi TC)] [(1,oZ S),(2,.mix 32 [.pv (ai P)]),(4,.mix 49 [.pv (.sl none S.attrs.length (lstsC LS)),.pv (.str t0),.pv (.sl none 0 []),.pv (.sl none 0 [])])] 5)
   (I:=fun TC=>TC<=S.attrs.length) (μ:=fun TC=>S.attrs.length-TC) (x0:=(0)) (OU (aS O) (aO Tt) O O) (cd _) ?_
  rintro i hi;refine Z1 O O ?_;refine Gp O O (fun hc67=>?_) (fun hc67=>?_)
  ·have hlt:i<S.attrs.length:=Ts;have hlL:i<LS.length:=Ts;have hb1:=hbl i;rw[AT (hisB i hlt)]at hb1;have hin:=BE (dD P i) (h:Int) (by have:=hbln i;omega);have hla:=qA hlL;have hln:=qu hlL;have hle:=hLe i hlL;refine OR<|Z2 O O O ?_;by_cases hb:(h:Int)∈dD P (i:Int)
   ·rw[hle hb]at hla;refine Z3 O O O O<|Rs 72 O O (aa call16 hb1 O)<|A1 O<|Rs 74 O O (XJ.cast (v':= .pv (.bool true)) (aa call15 hin O) (ag (fun b=>V.pv (.bool b)) (Pn hb))) ?_;iterate 4 refine A1 O ?_
    refine Rg 79 O O O (ae i underlying42 sz57 O O O hlt hln)<|Rg 80 O O O (au ⟨_,underlying57,O⟩ O hla)<|Y3 O O O ?_;refine Gc O O (fun hc83=>absurd hc83 Tu) (fun hc83=>?_);exact OR<|Z2 O O O<|⟨(i+1),OU (aS O) (aO Tt) O O,hlt,Ts⟩
   ·refine Z3 O O O O<|Rs 72 O O (aa call16 hb1 O)<|A1 O<|Rs 74 O O (XJ.cast (v':= .pv (.bool false)) (aa call15 hin O) (ag (fun b=>V.pv (.bool b)) (Pt hb))) ?_;iterate 9 refine A1 O ?_
    refine Gc O O (fun hc83=>absurd hc83 Tu) (fun hc83=>?_);exact OR<|Z2 O O O<|⟨(i+1),OU (aS O) (aO Tt) O O,hlt,Ts⟩
  ·exact Gx O<|Gr O<|Rs 85 O O (aa call9 hsa O)<|A1 O<|Gt O<|⟨_,_,O,O,O⟩
end
theorem jt{P:Program}{W:World}{n:String}{g:Nat}{cs:Array Value}(hg:P.globalNamed n=some g)(h:W.var? P n=some cs):∃t fz,W.heap[g]? =some (.cells cs t fz):=by
 simp only[World.var?,hg,Option.bind_some]at h;split at h
 ·rename_i cs' t fz hb;cases h;exact⟨t,fz,hb⟩
 ·cases h
theorem rK{W:World}{g:Nat}{o:Obj}(h:W.heap[g]? =some o):g<W.heap.size:=(Pc.1 h).1
theorem gv0:prog.globalNamed "internal/strconv.uint64pow10" =some 0:=Tt
theorem gv4:prog.globalNamed "strconv.ErrSyntax" =some 2:=Tt
theorem gv5:prog.globalNamed "strconv.ErrRange" =some 3:=Tt
theorem gt0:(prog.globals[0]?).map (·.type)=some 470:=Tt
theorem gt4:(prog.globals[2]?).map (·.type)=some 313:=Tt
theorem gt5:(prog.globals[3]?).map (·.type)=some 313:=Tt
theorem E5{W:World}(h:W.ShapedOpen prog):∃(m:Int)(t:TypeId)(fz:Nat×Nat),W.heap[1]? =some (.cells #[.int .i64 m] t fz):=by
 obtain⟨cs,hh,hs,hr⟩:=h.1 1 #[.int .i64 0] 3 (Q8 Tt) Tt;obtain⟨ts,hts,_,hall⟩:=hr Tt;rw[show prog.cellTypes prog.depth 3=some [3] by kernel_rfl]at hts;cases hts;have h1:cs.size=1:=hs;obtain⟨u,hu',hok⟩:=hall 0 cs[0] (by simp[h1]);obtain rfl:u=3:=by simpa using hu'.symm
 have hm:∃m,cs[0]= .int .i64 m:=by
  unfold Cell.ok at hok;rw[underlying3]at hok;cases hv:cs[0]<;>rw[hv]at hok<;>simp at hok;rename_i k m;obtain rfl:=hok.1;exact⟨m,O⟩
 obtain⟨m,hm⟩:=hm;have:cs= #[.int .i64 m]:=by
  apply Array.ext
  ·simp[h1]
  ·intro i h2 h3;have:i=0:=Ts;subst this;simpa using hm
 rw[this]at hh;exact⟨m,_,_,hh⟩
def N5:List (String×DataW Unit):=Rows.viewsEmptyRow.laid
theorem Mx{W:World}(hsh:W.ShapedOpen prog)(h:laidMetH prog N5 W):nU W (fun b=>b<W.heap.size):=by
 rw[MakeChecks.laidMetH_plain _ _ _ Tt]at h;obtain⟨ps,⟨g0,t0,cs0,f0,p0,q0,hg0,ht0,hv0,hd0,⟨g1,t1,cs1,f1,p1,q1,hg1,ht1,hv1,hd1,⟨g2,t2,cs2,f2,p2,q2,hg2,ht2,hv2,hd2,⟨g4,t4,cs4,f4,p4,q4,hg4,ht4,hv4,hd4,⟨g5,t5,cs5,f5,p5,q5,hg5,ht5,hv5,hd5,_⟩,_⟩,_⟩,_⟩,_⟩,_,_⟩:=h;obtain rfl:=Ru (gv0.symm.trans hg2);obtain rfl:=Ru (gv5.symm.trans hg4);obtain rfl:=Ru (gv4.symm.trans hg5);obtain rfl:=Ru (gt0.symm.trans ht2);obtain rfl:=Ru (gt5.symm.trans ht4);obtain rfl:=Ru (gt4.symm.trans ht5);have e2:cs2.toList=Lib.pow10Tab.map fun z=>Value.int .u64 z:=Lib.cells_of_tab underlying470 underlying300 Tt Tt hd2
 obtain⟨_,u4,v4,e4,_⟩:=iface_of_trod underlying313 hd4;obtain⟨_,u5,v5,e5,_⟩:=iface_of_trod underlying313 hd5;obtain⟨x2,y2,b2⟩:=jt gv0 hv2;obtain⟨x4,y4,b4⟩:=jt gv5 hv4;obtain⟨x5,y5,b5⟩:=jt gv4 hv5;obtain⟨m,x1,y1,b1⟩:=E5 hsh;obtain⟨l2⟩:=cs2;obtain⟨l4⟩:=cs4;obtain⟨l5⟩:=cs5;simp only at e2 e4 e5;subst e2 e4 e5;intro x hx;simp only[glb,AS,P7,R6]at hx;rcases hx with rfl|rfl|rfl|rfl
 ·exact⟨rK b2,_,b2,_,_,O⟩
 ·exact⟨rK b1,_,b1,_,_,_,O⟩
 ·exact⟨rK b5,_,b5,_,_,_,_,O⟩
 ·exact⟨rK b4,_,b4,_,_,_,_,O⟩
noncomputable def witW(os:Os):World:=World.doorLaid prog 54 os
theorem As(os:Os)(args:Array Value):((witW os).forCall (fun _ _=>0) ⟨#[],args,[]⟩).Shaped prog:=World.shaped_of_RefB Tt Tt
theorem Mf(os:Os)(args:Array Value):laidMetH prog N5 ((witW os).forCall (fun _ _=>0) ⟨#[],args,[]⟩).memory:=
 laidMetH_of_parts3 (fuel:=8) (laidMet_of_run' 8 Tt Tt) Tt Tt
end Go.Proofs.YtoplpepiabedhaaGreatDoor
