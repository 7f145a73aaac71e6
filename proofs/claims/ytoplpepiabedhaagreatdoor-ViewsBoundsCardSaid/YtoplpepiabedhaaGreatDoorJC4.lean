/- Lemmas. No condition. -/
import Derived.Test.YtoplpepiabedhaaGreatDoorJC3
set_option maxRecDepth 100000
set_option maxHeartbeats 4000000
open Go.RowKit Go.Proofs.Tryz
open Option renaming some→Sh,none→Sl
open Bool renaming true→Sm,false→S1
namespace Go.Proofs.YtoplpepiabedhaaGreatDoor
variable{p:Prop}{n j k i m most:Nat}{o:Operand}{x b lb a:Int}{y:Code}{t:Tmp}{want:Bool}{ρ:Nat->Nat}{rd:List Nat}{l r q:List Int}{f:Nat->Int}{α β:Type}
theorem JD{α β:Type _}{a c:α}{b d:β}(h:(a,b)=(c,d)):a=c/\b=d:=Prod.mk.inj h
section
abbrev pIi(i:Int):V:=.pv (.int .i64 i)
abbrev Vr:TI:=⟨.other,1,8,Sh [.nilfn]⟩
abbrev R9:PV:= .sl (Sh Sm) 0 []
abbrev R5(n:Nat):TI:=⟨.sl n,1,24,Sh [R9]⟩
abbrev R8(n:Nat)(x:TI):TT:= .node n x .nil .nil
def tb:TT:=
 .node 171 (R5 147) (.node 57 (R5 59) (.node 28 (R5 164) (.node 8 ⟨(.st [(0,1),(1,1),(2,1),(3,1)]),4,24,Sh [(.int .i64 0),(.int .i64 0),(.bool S1),(.int .u8 0)]⟩ (.node 4 ⟨.bool,1,1,Sh [(.bool S1)]⟩ (.node 2 ⟨(.int .i64),1,8,Sh [(.int .i64 0)]⟩ (R8 1 Vr) (R8 3 ⟨(.int .i64),1,8,Sh [(.int .i64 0)]⟩)) (.node 6 ⟨(.int .u8),1,1,Sh [(.int .u8 0)]⟩ (R8 5 ⟨(.int .u8),1,1,Sh [(.int .u8 0)]⟩) (R8 7 ⟨(.st [(0,1),(1,1),(2,1),(3,1)]),4,24,Sh [(.int .i64 0),(.int .i64 0),(.bool S1),(.int .u8 0)]⟩))) (.node 22 (R5 3) (.node 20 ⟨.other,1,16,Sh [.niliface]⟩ (R8 9 ⟨.str,1,16,Sh [(.str ⟨#[]⟩)]⟩) (R8 21 ⟨(.int .i32),1,4,Sh [(.int .i32 0)]⟩)) (.node 26 (R5 162) (R8 24 ⟨.other,1,8,Sh [.nilptr]⟩) (R8 27 (R5 74))))) (.node 42 (R5 57) (.node 34 (R5 38) (.node 32 ⟨(.st [(0,1)]),1,24,Sh [R9]⟩ (R8 30 ⟨(.st [(0,1),(1,1),(2,1),(3,1)]),4,80,Sh [R9,R9,R9,(.int .i64 0)]⟩) (R8 33 (R5 38))) (.node 39 (R5 9) (R8 38 (R5 41)) (R8 41 ⟨(.st [(0,1),(1,1)]),2,32,Sh [R9,(.int .i64 0)]⟩))) (.node 47 ⟨(.st [(0,1),(1,1),(2,1)]),3,64,Sh [(.str ⟨#[]⟩),R9,R9]⟩ (.node 44 (R5 149) (R8 43 ⟨.str,1,16,Sh [(.str ⟨#[]⟩)]⟩) (R8 45 (R5 151))) (.node 50 ⟨(.int .i64),1,8,Sh [(.int .i64 0)]⟩ (R8 49 ⟨(.st [(0,1),(1,3)]),4,88,Sh [R9,(.str ⟨#[]⟩),R9,R9]⟩) .nil)))) (.node 110 ⟨(.st [(0,1),(1,1)]),2,16,Sh [.nilmap,.nilmap]⟩ (.node 97 ⟨(.st [(0,1),(1,1),(2,1),(3,1)]),4,96,Sh [R9,R9,R9,R9]⟩ (.node 84 ⟨.str,1,16,Sh [(.str ⟨#[]⟩)]⟩ (.node 74 ⟨(.st [(0,1),(1,1)]),2,40,Sh [(.str ⟨#[]⟩),R9]⟩ (R8 59 ⟨(.st [(0,1),(1,3)]),4,88,Sh [R9,(.str ⟨#[]⟩),R9,R9]⟩) (R8 79 (R5 84))) (.node 94 ⟨.other,1,8,Sh [.nilptr]⟩ (R8 91 ⟨(.st [(0,1),(1,1)]),2,32,Sh [R9,(.int .i64 0)]⟩) (R8 95 (R5 22)))) (.node 104 Vr (.node 101 ⟨(.st [(0,4),(4,4),(8,1),(9,1),(10,1)]),11,232,Sh [R9,R9,R9,(.int .i64 0),R9,R9,R9,R9,R9,R9,(.int .i64 0)]⟩ (R8 99 (R5 110)) (R8 103 Vr)) (.node 107 ⟨.other,1,8,Sh [.nilmap]⟩ (R8 106 Vr) (R8 108 ⟨.other,1,8,Sh [.nilmap]⟩)))) (.node 135 ⟨(.st [(0,1),(1,1)]),2,32,Sh [(.bool S1),R9]⟩ (.node 117 ⟨.other,1,8,Sh [.nilmap]⟩ (.node 114 ⟨(.st [(0,1),(1,1)]),2,32,Sh [(.bool S1),R9]⟩ (R8 112 (R5 300)) (R8 116 ⟨(.st [(0,2),(2,2)]),4,64,Sh [(.bool S1),R9,(.bool S1),R9]⟩)) (.node 120 ⟨(.st [(0,4),(4,1),(5,1)]),6,80,Sh [(.bool S1),R9,(.bool S1),R9,.nilmap,.nilmap]⟩ (R8 118 ⟨.other,1,8,Sh [.nilmap]⟩) (R8 124 Vr))) (.node 162 ⟨(.st [(0,1),(1,1)]),2,24,Sh [(.str ⟨#[]⟩),(.int .i64 0)]⟩ (.node 149 ⟨(.st [(0,2),(2,1)]),3,40,Sh [(.int .i64 0),(.str ⟨#[]⟩),(.str ⟨#[]⟩)]⟩ (R8 147 ⟨(.st [(0,1),(1,1)]),2,24,Sh [(.int .i64 0),(.str ⟨#[]⟩)]⟩) (R8 151 ⟨(.st [(0,2),(2,2),(4,1)]),5,64,Sh [(.int .i64 0),(.str ⟨#[]⟩),(.int .i64 0),(.str ⟨#[]⟩),(.str ⟨#[]⟩)]⟩)) (.node 167 Vr (R8 164 ⟨(.st [(0,1),(1,1),(2,1)]),3,24,Sh [(.int .i64 0),(.int .i64 0),(.int .i64 0)]⟩) .nil))))) (.node 309 ⟨.other,1,8,Sh [.nilptr]⟩ (.node 234 Vr (.node 215 (R5 4) (.node 206 ⟨(.int .u64),1,8,Sh [(.int .u64 0)]⟩ (.node 204 Vr (R8 202 (R5 206)) (R8 205 ⟨(.int .u64),1,8,Sh [(.int .u64 0)]⟩)) (.node 212 (R5 222) (R8 211 Vr) (R8 214 Vr))) (.node 224 ⟨(.st [(0,1),(1,6)]),7,104,Sh [R9,(.bool S1),R9,(.bool S1),R9,.nilmap,.nilmap]⟩ (.node 220 (R5 224) (R8 217 ⟨(.st [(0,1),(1,1)]),2,48,Sh [R9,R9]⟩) (R8 222 ⟨(.st [(0,1),(1,1)]),2,48,Sh [R9,R9]⟩)) (.node 231 Vr (R8 229 Vr) (R8 232 Vr)))) (.node 273 Vr (.node 240 Vr (.node 238 ⟨(.st [(0,2),(2,2)]),4,48,Sh [(.int .i64 0),(.str ⟨#[]⟩),(.int .i64 0),(.str ⟨#[]⟩)]⟩ (R8 235 (R5 238)) (R8 239 Vr)) (.node 253 Vr (R8 242 Vr) (R8 255 Vr))) (.node 304 ⟨.other,1,8,Sh [.nilmap]⟩ (.node 280 Vr (R8 277 (R5 5)) (R8 300 ⟨(.int .u64),1,8,Sh [(.int .u64 0)]⟩)) (.node 307 ⟨.other,1,8,Sh [.nilmap]⟩ (R8 306 ⟨.other,1,8,Sh [.nilmap]⟩) .nil)))) (.node 395 Vr (.node 347 ⟨.other,1,8,Sh [.nilptr]⟩ (.node 324 Vr (.node 313 ⟨.other,1,16,Sh [.niliface]⟩ (R8 311 ⟨(.st [(0,1),(1,1)]),2,32,Sh [.nilptr,R9]⟩) (R8 320 (R5 50))) (.node 337 ⟨(.int .i64),1,8,Sh [(.int .i64 0)]⟩ (R8 335 Vr) (R8 344 ⟨(.int .u32),1,4,Sh [(.int .u32 0)]⟩))) (.node 372 Vr (.node 368 Vr (R8 364 (R5 167)) (R8 370 Vr)) (.node 394 Vr (R8 390 ⟨.other,1,8,Sh [.nilptr]⟩) .nil))) (.node 483 ⟨(.int .i64),1,8,Sh [(.int .i64 0)]⟩ (.node 434 ⟨(.arr 24 5),24,24,Sh (List.replicate 24 (.int .u8 0))⟩ (.node 405 ⟨.other,1,8,Sh [.nilptr]⟩ (R8 401 ⟨(.int .u64),1,8,Sh [(.int .u64 0)]⟩) (R8 431 ⟨.other,1,8,Sh [.nilptr]⟩)) (.node 470 ⟨(.arr 20 300),20,160,Sh (List.replicate 20 (.int .u64 0))⟩ (R8 454 ⟨.other,1,8,Sh [.nilptr]⟩) (R8 471 ⟨(.arr 65 5),65,65,Sl⟩))) (.node 508 ⟨(.arr 64 5),64,64,Sl⟩ (.node 502 ⟨(.st [(0,1),(1,1),(2,1)]),3,48,Sh [(.str ⟨#[]⟩),(.str ⟨#[]⟩),.niliface]⟩ (R8 485 ⟨.other,1,8,Sh [.nilptr]⟩) (R8 507 ⟨(.arr 32 5),32,32,Sh (List.replicate 32 (.int .u8 0))⟩)) (.node 513 ⟨(.st [(0,1)]),1,16,Sh [(.str ⟨#[]⟩)]⟩ (R8 511 ⟨.other,1,8,Sh [.nilptr]⟩) .nil)))))
theorem B6:tb.Ok prog:=TT.ok_of Vg
theorem RP(h:p:=by first|exact trivial|omega|exact⟨Vf,by first|assumption|(simp;done)⟩|exact⟨by first|assumption|(simp;done),Vf⟩|(simp;done)|exact⟨by first|omega|decide,by first|omega|assumption⟩|(simp;omega)):p:=h
section
variable {m0:Gm}{w0:World}{F:Nat->Prop}{R0:RT w0 F}{n:Nat}{σ:St}{ops:Array Oper}{o:Oper}{os:List Oper}{K:St->Prop}{d:Option Tmp}{s:OS}{rd:List Nat}{φ:Prop}{cs:List PV}{off sz:Nat}{p:PV}{vs:List PV}{cl:List (List Nat)}{i:Nat}{is:List Nat}{acc:List It}
theorem A1(h:ed tb ops n σ o=Sh (d,⟨s,rd,φ⟩))(k:RL ⟨prog,m0,w0,F,R0⟩ n ops os K (σ.app d s))(u:φ:=by exact RP):RL ⟨prog,m0,w0,F,R0⟩ n ops (o::os) K σ:=RL.auto B6 h k u
theorem A2(h:JY tb ops n σ o=Sh (d,cs,off,rd))(u:cs[off]? =Sh p)(k:RL ⟨prog,m0,w0,F,R0⟩ n ops os K (σ.app d ⟨.pv p,[],[]⟩)):RL ⟨prog,m0,w0,F,R0⟩ n ops (o::os) K σ:=
 have ⟨h1,h2,h3⟩:=q9 B6 h u
 RL.with h1 h2 (h3 σ (λ_ _=>rfl) (λ_ _=>rfl)) k
theorem A3(h:Kg tb ops n σ o=Sh (d,cs,off,sz,rd))(u:(cs.drop off).take sz=vs)(k:RL ⟨prog,m0,w0,F,R0⟩ n ops os K (σ.app d ⟨.pv (.agg vs),[],[]⟩))(z:vs.length=sz:=by rfl):RL ⟨prog,m0,w0,F,R0⟩ n ops (o::os) K σ:=
 have ⟨h1,h2,h3⟩:=qn B6 h u z
 RL.with h1 h2 (h3 σ (λ_ _=>rfl) (λ_ _=>rfl)) k
theorem D1(u:(ops[i]?,ed tb ops n σ o)=(Sh o,Sh (d,⟨s,rd,φ⟩)))(k:DL ⟨prog,m0,w0,F,R0⟩ n ops cl is (⟨i,o,s,s.wr.map (·.1),s.nw,rd⟩::acc) K (σ.app d s))(hc:gU ops n cl ⟨i,o,s,s.wr.map (·.1),s.nw,rd⟩ acc=Sm:=by kernel_rfl)(hφ:φ:=by exact RP):DL ⟨prog,m0,w0,F,R0⟩ n ops cl (i::is) acc K σ:=have ⟨u,h⟩:=JD u;DL.auto B6 u h k hφ hc
theorem D2(u:ops[i]? =Sh o)(h:JY tb ops n σ o=Sh (d,cs,off,rd))(z:cs[off]? =Sh p)(k:DL ⟨prog,m0,w0,F,R0⟩ n ops cl is (⟨i,o,⟨.pv p,[],[]⟩,[],[],rd⟩::acc) K (σ.app d ⟨.pv p,[],[]⟩))(hc:gU ops n cl ⟨i,o,⟨.pv p,[],[]⟩,[],[],rd⟩ acc=Sm:=by kernel_rfl):
  DL ⟨prog,m0,w0,F,R0⟩ n ops cl (i::is) acc K σ:=
 have ⟨h1,h2,h3⟩:=q9 B6 h z
 DL.with rd u h1 h2 (λτ ha=>h3 τ (PS ha) (PR ha)) k hc
theorem D3(u:ops[i]? =Sh o)(h:Kg tb ops n σ o=Sh (d,cs,off,sz,rd))(z:(cs.drop off).take sz=vs)(k:DL ⟨prog,m0,w0,F,R0⟩ n ops cl is (⟨i,o,⟨.pv (.agg vs),[],[]⟩,[],[],rd⟩::acc) K (σ.app d ⟨.pv (.agg vs),[],[]⟩))(A:vs.length=sz:=by rfl)
  (hc:gU ops n cl ⟨i,o,⟨.pv (.agg vs),[],[]⟩,[],[],rd⟩ acc=Sm:=by kernel_rfl):DL ⟨prog,m0,w0,F,R0⟩ n ops cl (i::is) acc K σ:=
 have ⟨h1,h2,h3⟩:=qn B6 h z A
 DL.with rd u h1 h2 (λτ ha=>h3 τ (PS ha) (PR ha)) k hc
end
end
section
def iT(C:Ctx)(n:Nat):Code->(Exit->St->Prop)->Code×(Exit->St->Prop)
 | .seq x y,Q=>iT C n x (FC (AW C n y Q) Q)
 | .block id x,Q=>iT C n x (tV id Q)
 |c,Q=>(c,Q)
theorem dS{C:Ctx}{σ:St}:∀(c:Code)(Q:Exit->St->Prop),AW C n (iT C n c Q).1 (iT C n c Q).2 σ->AW C n c Q σ
 | .seq x y,Q,h=>Rh (dS x _ h)
 | .block _ x,Q,h=>AW.block (dS x _ h)
 | .skip,_,h=>h
 | .region ..,_,h=>h
 | .cond ..,_,h=>h
 | .loop ..,_,h=>h
 | .rangeFunc ..,_,h=>h
 | .exit ..,_,h=>h
 | .scope ..,_,h=>h
 | .label ..,_,h=>h
 | .goto ..,_,h=>h
 | .ret,_,h=>h
 | .refuse ..,_,h=>h
section
variable {C:Ctx}{n:Nat}{c:Code}{Q Q':Exit->St->Prop}{σ:St}{id:Nat}{ops:Array Oper}
theorem Gr(h:iT C n c Q=(.region id ops S1,Q'))(k:RL C n ops ops.toList (Q' .normal) σ):AW C n c Q σ:=
 dS c Q (h▸AW.region k)
theorem Gt(h:iT C n c Q=(.ret,Q'))(k:Q' .ret σ):AW C n c Q σ:=dS c Q (h▸AW.ret k)
theorem Gk(h:iT C n c Q=(.skip,Q'))(k:Q' .normal σ):AW C n c Q σ:=dS c Q (h▸Q3 k)
theorem Gx(h:iT C n c Q=(.exit id,Q'))(k:Q' (.exit id) σ):AW C n c Q σ:=dS c Q (h▸AW.exit k)
theorem Gp{x:Code}[Decidable p](h:(iT C n c Q,σ.ev n o)=((.cond o x y,Q'),.pv (.bool (decide p))))(u:p->AW C n x Q' σ)(z:¬p->AW C n y Q' σ):AW C n c Q σ:=have ⟨h,hc⟩:=JD h;dS c Q (h▸AW.jT hc u z)
theorem Gc{x:Code}{b:Bool}(h:(iT C n c Q,σ.ev n o)=((.cond o x y,Q'),.pv (.bool b)))(u:b=Sm->AW C n x Q' σ)(z:b=S1->AW C n y Q' σ):AW C n c Q σ:=have ⟨h,hc⟩:=JD h;dS c Q (h▸AW.cond hc u z)
theorem Gl {b:Code} {X:Type} (h:iT C n c Q=(.loop b,Q')) (st:X->St) (I:X->Prop) (μ:X->Nat) (x0:X) (u:σ.le (st x0)) (z:I x0)
  (round:∀x,I x->AW C n b (FC (λs=>∃x',s.le (st x')/\I x'/\μ x'<μ x) Q') (st x)):AW C n c Q σ:=dS c Q (h▸AW.loop st I μ x0 u z round)
theorem Gd(h:iT C n c Q=(.region id ops Sm,Q'))(A:C.P.follows .mixedOrders=Sm)(cl:List (List Nat))(is:List Nat)(z:HG ops.toList []=cl)(u:iL 0 ops.toList=Sm)(k:DL C n ops cl is [] (Q' .normal) σ):AW C n c Q σ:=
 dS c Q (h▸AW.draw A cl is z u k)
end
section
variable {m0:Gm}{w0:World}{F:Nat->Prop}{R0:RT w0 F}{n id:Nat}{σ:St}{c:Code}{Q Q':Exit->St->Prop}{ops:Array Oper}{o o1 o2 o3 o4:Oper}{os:List Oper}{K:St->Prop}{d d1 d2 d3 d4:Option Tmp}{s s1 s2 s3 s4:OS}{rd rd1 rd2 rd3 rd4:List Nat}{φ φ1 φ2 φ3 φ4:Prop}
theorem Y2(u:(ed tb ops n σ o1,ed tb ops n (σ.app d1 s1) o2)=(Sh (d1,⟨s1,rd1,φ1⟩),Sh (d2,⟨s2,rd2,φ2⟩)))(k:RL ⟨prog,m0,w0,F,R0⟩ n ops os K ((σ.app d1 s1).app d2 s2))(g1:φ1:=by exact RP)(g2:φ2:=by exact RP):RL ⟨prog,m0,w0,F,R0⟩ n ops (o1::o2::os) K σ:=have ⟨u,h2⟩:=JD u;(A1 u (A1 h2 k g2) g1)
theorem Y3(u:(ed tb ops n σ o1,ed tb ops n (σ.app d1 s1) o2,ed tb ops n ((σ.app d1 s1).app d2 s2) o3)=(Sh (d1,⟨s1,rd1,φ1⟩),Sh (d2,⟨s2,rd2,φ2⟩),Sh (d3,⟨s3,rd3,φ3⟩)))(k:RL ⟨prog,m0,w0,F,R0⟩ n ops os K (((σ.app d1 s1).app d2 s2).app d3 s3))(g1:φ1:=by exact RP)(g2:φ2:=by exact RP)(g3:φ3:=by exact RP):RL ⟨prog,m0,w0,F,R0⟩ n ops (o1::o2::o3::os) K σ:=have ⟨u,q_⟩:=JD u;have ⟨h2,h3⟩:=JD q_;(A1 u (A1 h2 (A1 h3 k g3) g2) g1)
theorem Y4(u:(ed tb ops n σ o1,ed tb ops n (σ.app d1 s1) o2,ed tb ops n ((σ.app d1 s1).app d2 s2) o3,ed tb ops n (((σ.app d1 s1).app d2 s2).app d3 s3) o4)=(Sh (d1,⟨s1,rd1,φ1⟩),Sh (d2,⟨s2,rd2,φ2⟩),Sh (d3,⟨s3,rd3,φ3⟩),Sh (d4,⟨s4,rd4,φ4⟩)))(k:RL ⟨prog,m0,w0,F,R0⟩ n ops os K ((((σ.app d1 s1).app d2 s2).app d3 s3).app d4 s4))(g1:φ1:=by exact RP)(g2:φ2:=by exact RP)(g3:φ3:=by exact RP)(g4:φ4:=by exact RP):RL ⟨prog,m0,w0,F,R0⟩ n ops (o1::o2::o3::o4::os) K σ:=have ⟨u,q_⟩:=JD u;have ⟨h2,q_⟩:=JD q_;have ⟨h3,h4⟩:=JD q_;(A1 u (A1 h2 (A1 h3 (A1 h4 k g4) g3) g2) g1)
theorem Z1(h:(iT ⟨prog,m0,w0,F,R0⟩ n c Q,ed tb ⟨o1::os⟩ n σ o1)=((.region id ⟨o1::os⟩ S1,Q'),Sh (d1,⟨s1,rd1,φ1⟩)))(k:RL ⟨prog,m0,w0,F,R0⟩ n ⟨o1::os⟩ os (Q' .normal) (σ.app d1 s1))(g1:φ1:=by exact RP):AW ⟨prog,m0,w0,F,R0⟩ n c Q σ:=have ⟨h,h1⟩:=JD h;Gr h (A1 h1 k g1)
theorem Z2(h:(iT ⟨prog,m0,w0,F,R0⟩ n c Q,ed tb ⟨o1::o2::os⟩ n σ o1,ed tb ⟨o1::o2::os⟩ n (σ.app d1 s1) o2)=((.region id ⟨o1::o2::os⟩ S1,Q'),Sh (d1,⟨s1,rd1,φ1⟩),Sh (d2,⟨s2,rd2,φ2⟩)))(k:RL ⟨prog,m0,w0,F,R0⟩ n ⟨o1::o2::os⟩ os (Q' .normal) ((σ.app d1 s1).app d2 s2))(g1:φ1:=by exact RP)(g2:φ2:=by exact RP):AW ⟨prog,m0,w0,F,R0⟩ n c Q σ:=have ⟨h,q_⟩:=JD h;have ⟨h1,h2⟩:=JD q_;Gr h (A1 h1 (A1 h2 k g2) g1)
theorem Z3(h:(iT ⟨prog,m0,w0,F,R0⟩ n c Q,ed tb ⟨o1::o2::o3::os⟩ n σ o1,ed tb ⟨o1::o2::o3::os⟩ n (σ.app d1 s1) o2,ed tb ⟨o1::o2::o3::os⟩ n ((σ.app d1 s1).app d2 s2) o3)=((.region id ⟨o1::o2::o3::os⟩ S1,Q'),Sh (d1,⟨s1,rd1,φ1⟩),Sh (d2,⟨s2,rd2,φ2⟩),Sh (d3,⟨s3,rd3,φ3⟩)))(k:RL ⟨prog,m0,w0,F,R0⟩ n ⟨o1::o2::o3::os⟩ os (Q' .normal) (((σ.app d1 s1).app d2 s2).app d3 s3))(g1:φ1:=by exact RP)(g2:φ2:=by exact RP)(g3:φ3:=by exact RP):AW ⟨prog,m0,w0,F,R0⟩ n c Q σ:=have ⟨h,q_⟩:=JD h;have ⟨h1,q_⟩:=JD q_;have ⟨h2,h3⟩:=JD q_;Gr h (A1 h1 (A1 h2 (A1 h3 k g3) g2) g1)
theorem Z4(h:(iT ⟨prog,m0,w0,F,R0⟩ n c Q,ed tb ⟨o1::o2::o3::o4::os⟩ n σ o1,ed tb ⟨o1::o2::o3::o4::os⟩ n (σ.app d1 s1) o2,ed tb ⟨o1::o2::o3::o4::os⟩ n ((σ.app d1 s1).app d2 s2) o3,ed tb ⟨o1::o2::o3::o4::os⟩ n (((σ.app d1 s1).app d2 s2).app d3 s3) o4)=((.region id ⟨o1::o2::o3::o4::os⟩ S1,Q'),Sh (d1,⟨s1,rd1,φ1⟩),Sh (d2,⟨s2,rd2,φ2⟩),Sh (d3,⟨s3,rd3,φ3⟩),Sh (d4,⟨s4,rd4,φ4⟩)))(k:RL ⟨prog,m0,w0,F,R0⟩ n ⟨o1::o2::o3::o4::os⟩ os (Q' .normal) ((((σ.app d1 s1).app d2 s2).app d3 s3).app d4 s4))(g1:φ1:=by exact RP)(g2:φ2:=by exact RP)(g3:φ3:=by exact RP)(g4:φ4:=by exact RP):AW ⟨prog,m0,w0,F,R0⟩ n c Q σ:=have ⟨h,q_⟩:=JD h;have ⟨h1,q_⟩:=JD q_;have ⟨h2,q_⟩:=JD q_;have ⟨h3,h4⟩:=JD q_;Gr h (A1 h1 (A1 h2 (A1 h3 (A1 h4 k g4) g3) g2) g1)
end
section
variable {C:Ctx}{n i:Nat}{σ:St}{ops:Array Oper}{o:Oper}{os:List Oper}{K:St->Prop}{s:OS}{cl:List (List Nat)}{is:List Nat}{acc:List It}
theorem Rs(u:(o.guard,o.dst)=(Sl,Sh t))(z:XJ C n o σ s)(h:RL C n ops os K (σ.app (Sh t) s)):RL C n ops (o::os) K σ:=have ⟨u,hd⟩:=JD u;RL.step u hd z h
theorem Rg(u:(o.guard,o.dst,σ.ev n (.tmp (((ops[j]?).bind (·.dst)).getD n)))=(Sh (j,want),Sh t,.pv (.bool want)))(z:XJ C n o σ s)(h:RL C n ops os K (σ.app (Sh t) s)):RL C n ops (o::os) K σ:=have ⟨u,q_⟩:=JD u;have ⟨hd,hb⟩:=JD q_;RL.stepG u hd hb z h
theorem Ds(rd:List Nat)(u:(ops[i]?,o.guard,o.dst)=(Sh o,Sl,Sh t))(z:∀ τ,Agr n ops o σ τ s rd->XJ C n o τ s)(A:s.nw.all σ.av=Sm)(hc:gU ops n cl ⟨i,o,s,s.wr.map (·.1),s.nw,rd⟩ acc=Sm)(h:DL C n ops cl is (⟨i,o,s,s.wr.map (·.1),s.nw,rd⟩::acc) K (σ.app (Sh t) s)):DL C n ops cl (i::is) acc K σ:=have ⟨u,q_⟩:=JD u;have ⟨hg,hd⟩:=JD q_;DL.step rd u hg hd z A hc h
theorem Dg(rd:List Nat)(u:(ops[i]?,o.guard,o.dst,σ.ev n (.tmp (((ops[j]?).bind (·.dst)).getD n)))=(Sh o,Sh (j,want),Sh t,.pv (.bool want)))(z:∀τ,Agr n ops o σ τ s rd->XJ C n o τ s)(A:s.nw.all σ.av=Sm)(hc:gU ops n cl ⟨i,o,s,s.wr.map (·.1),s.nw,rd⟩ acc=Sm)(h:DL C n ops cl is (⟨i,o,s,s.wr.map (·.1),s.nw,rd⟩::acc) K (σ.app (Sh t) s)):DL C n ops cl (i::is) acc K σ:=have ⟨u,q_⟩:=JD u;have ⟨hg,q_⟩:=JD q_;have ⟨hd,hb⟩:=JD q_;DL.stepG rd u hg hd hb z A hc h
theorem aS:∀{l:List (Nat×V)},l.map (λp=>σ.sl p.1)=l.map (·.2)->CZ σ l
 |[],_=>trivial
 |_::_,h=>⟨(UX h).1,aS (UX h).2⟩
theorem aO:∀{l:List (Nat×Ob)},l.map (λp=>σ.ob p.1)=l.map (λp=>Sh p.2)->GY σ l
 |[],_=>trivial
 |_::_,h=>⟨(UX h).1,aO (UX h).2⟩
theorem aT:∀{l:List (Nat×V)},l.map (λp=>σ.sl p.1)=l.map (λp=>p.2.ren ρ)->qL σ ρ l
 |[],_=>trivial
 |_::_,h=>⟨(UX h).1,aT (UX h).2⟩
theorem aP:∀{l:List (Nat×Ob)},l.map (λp=>σ.ob (ρ p.1))=l.map (λp=>Sh (p.2.ren ρ))->fO σ ρ l
 |[],_=>trivial
 |_::_,h=>⟨(UX h).1,aP (UX h).2⟩
end
section
variable {C:Ctx}{n i:Nat}{σ τ:St}{ops:Array Oper}{o:Oper}{s:OS}{c:Code}{Q Q':Exit->St->Prop}{id:Nat}
theorem Ee(h:Agr n ops o σ τ s rd)(i:Nat){x:Operand}{v:V}(u:o.op.operands.toList[i]? =Sh x)(z:σ.ev n x=v):τ.ev n x=v:=(h.e i x u).trans z
theorem Eo(h:Agr n ops o σ τ s rd)(i:Nat){id:Nat}{v:Option Ob}(u:rd[i]? =Sh id)(z:σ.ob id=v):τ.ob id=v:=(h.o i id u).trans z
theorem Wk(l:List (Nat×V))(os:List (Nat×Ob))(k:Nat)(u:CZ σ l)(z:GY σ os)(A:l.all (λp=>p.2.okA k)=Sm)(B:os.all (λp=>(Nat.blt p.1 k||Nat.ble big p.1)&&p.2.okA k)=Sm)(h:AW C n c Q (mkS l os k)):AW C n c Q σ:=
 Q4 (Q5 u z A B) h
theorem Ge(h:iT C n c Q=(.region id ops Sm,Q'))(z:C.P.follows .mixedOrders=Sm)(is:List Nat)(u:iL 0 ops.toList=Sm)(k:DL C n ops (HG ops.toList []) is [] (Q' .normal) σ):AW C n c Q σ:=
 Gd h z _ is O u k
theorem RW(m:Nat){m0:Gm}{w0:World}{F:Nat->Prop}{R0:RT w0 F}(h:iT ⟨prog,m0,w0,F,R0⟩ n c Q=(.region id ops Sm,Q'))(k:DL ⟨prog,m0,w0,F,R0⟩ n ops (HG ops.toList []) (List.range m) [] (Q' .normal) σ)(u:iL 0 ops.toList=Sm:=by kernel_rfl):AW ⟨prog,m0,w0,F,R0⟩ n c Q σ:=Ge h follows (List.range m) u k
abbrev nS:PV:= .sl (Sh Sm) 0 []
end
end
abbrev aj(l:List Int):PV:= .sl Sl l.length (l.map (.int .i64))
theorem aX(h:k<l.length):(l.map (PV.int .i64))[k*1]? =Sh (.int .i64 l[k]):=by simp[h]
theorem aD(h:k<l.length):l.map (PV.int .i64)≠[]:=by intro e;simp at e;subst e;simp at h
theorem fL(z:k<l.length)(h:¬x∈l.take k)(u:¬l[k]=x):¬x∈l.take (k+1):=by
 rw[AI z];simp only[Rx,Rn];rintro(h'|h')
 .exact h h'
 .exact u h'.symm
theorem wF(l:List Int)(x:Int)(A:l.length<=1000000000):FnP prog 60 [aj l,.int .i64 x] (· = .bool (decide (x∈l))):=by
 refine FnP.of func60 O ntmps60 Vj λm0 w0 F R0=>?_
 refine Rh<|AW.region<|A1 O<|Rh<|Rh<|AW.region<|Y3 O<|AW.block<|AW.loop (st:=λk:Nat=>mkS [(1,pIi x),(7,.pv (aj l)),(8,pIi l.length),(9,pIi k)] [] 0) (I:=λk=>k<=l.length/\¬x∈l.take k) (μ:=λk=>l.length-k) (x0:=0) (Q5 (aS O) trivial O O) Vj (λk hx=>?_);obtain⟨hk,hno⟩:=hx;refine Rh<|AW.region<|A1 O<|Rh<|AW.jT O (λhc=>?_) (λhc=>?_)
 .have hlt:k<l.length:=Vf;have z:=aX hlt;have u:=aD hlt;refine Q3<|Rh<|AW.block<|Rh<|AW.region<|A1 O ?_;first|refine A2 O Vi ?_|refine A1 O ?_
  refine A1 O<|Rh<|AW.region<|Y3 O<|AW.cond O (λhc=>?_) (λhc=>?_)
  .refine Rh<|AW.region<|A1 O<|AW.ret ?_;refine⟨_,_,O,O,ag PV.bool (?_:Sm=_)⟩;have:l[k]=x:=by simpa using hc
   simp[<-this]
  .refine Q3<|AW.region<|Y2 O ?_;refine⟨k+1,Q5 (aS O) trivial O O,⟨Vf,fL hlt hno (by simpa using hc)⟩,Vf⟩
 .refine AW.exit<|Rh<|AW.region<|A1 O<|AW.ret ?_;refine⟨_,_,O,O,ag PV.bool (?_:S1=_)⟩;rw[aQ Vf]at hno;simp[hno]
theorem Cb(u:l.length=r.length)(k:Nat)(z:l.length<=k)(h:l.take k=r.take k):l=r:=by
 rwa [aQ z,aQ Vf]at h
theorem FN(u:k<l.length)(z:k<r.length)(h:l.take k=r.take k)(A:l[k]=r[k]):l.take (k+1)=r.take (k+1):=by
 rw[AI u,AI z,h,A]
theorem GM(l r:List Int)(G:l.length<=1000000000)(H:r.length<=1000000000):FnP prog 41 [aj l,aj r] (· = .bool (decide (l=r))):=by
 refine FnP.of func41 O ntmps41 Vj λm0 w0 F R0=>?_
 refine Rh<|AW.region<|A1 O<|Rh<|Rh<|AW.region ?_;iterate 5 refine A1 O ?_
 refine AW.cond O (λhc=>?_) (λhc=>?_)
 .refine Rh<|AW.region<|A1 O<|AW.ret ?_;refine⟨_,_,O,O,ag PV.bool (?_:S1=_)⟩;have z:l.length≠r.length:=by intro e;simp[e]at hc
  simp only[Bool.false_eq,S8];intro e;exact z (by rw[e])
 refine Q3 ?_;have A:l.length=r.length:=by simp at hc;omega
 refine Rh<|Rh<|AW.region<|Y3 O<|AW.block<|AW.loop (st:=λk:Nat=>mkS [(0,.pv (aj l)),(1,.pv (aj r)),(12,pIi l.length),(13,pIi k)] [] 0) (I:=λk=>k<=l.length/\l.take k=r.take k) (μ:=λk=>l.length-k) (x0:=0) (Q5 (aS O) trivial O O) Vj (λk hx=>?_);obtain⟨hk,heq⟩:=hx;refine Rh<|AW.region<|A1 O<|Rh<|AW.jT O (λhc=>?_) (λhc=>?_)
 .have hlt:k<l.length:=Vf;have u:k<r.length:=Vf;have E:=aX hlt;have z:=aD hlt;have D:=aX u;have B:=aD u;refine Q3<|Rh<|AW.block<|Rh<|AW.region<|Y2 O<|Rh<|RW 9 O ?_;iterate 3 refine D1 O ?_
  first|refine D2 O O Vi ?_|refine D1 O ?_
  iterate 3 refine D1 O ?_
  first|refine D2 O O Vi ?_|refine D1 O ?_
  refine D1 O ?_;refine⟨Vg,?_⟩;refine AW.cond O (λhc=>?_) (λhc=>?_)
  .refine Rh<|AW.region<|A1 O<|AW.ret ?_;refine⟨_,_,O,O,ag PV.bool (?_:S1=_)⟩;have z:l[k]≠r[k]:=by simpa using hc
   simp only[Bool.false_eq,S8];intro e;subst e;exact z O
  .refine Q3<|AW.region<|Y2 O ?_;refine⟨k+1,Q5 (aS O) trivial O O,⟨Vf,FN hlt u heq (by simpa using hc)⟩,Vf⟩
 .refine AW.exit<|Rh<|AW.region<|A1 O<|AW.ret ?_;refine⟨_,_,O,O,ag PV.bool (?_:Sm=_)⟩;simp[Cb A k Vf heq]
theorem mod_eq(x n:Int)(h:1<=n):(x.tmod n+n).tmod n=x%n:=by
 have u:n≠0:=Vf;by_cases hx:0<=x
 .rw[Int.tmod_eq_emod_of_nonneg hx,Int.tmod_eq_emod_of_nonneg (by have:=Int.emod_nonneg x u;omega),Int.add_emod_right,Int.emod_emod_of_dvd _ (Int.dvd_refl n)]
 .have h1:x.tmod n= -((-x)%n):=by
   rw[show x= -(-x) by omega,Int.neg_tmod,Int.tmod_eq_emod_of_nonneg Vf,Int.neg_neg]
  have z:=Int.emod_nonneg (-x) u;have A:=Int.emod_lt_of_pos (-x) (show 0<n by omega);rw[h1,Int.tmod_eq_emod_of_nonneg Vf,Int.add_emod_right];rw[<-Int.zero_sub,Int.sub_emod,Int.emod_emod_of_dvd _ (Int.dvd_refl n),<-Int.sub_emod,Int.zero_sub,Int.neg_neg]
theorem O1(x n:Int)(h:1<=n): -n<x.tmod n/\x.tmod n<n:=by
 have u:=Int.tmod_lt_of_pos x (show 0<n by omega);have z:=Int.lt_tmod_of_pos x (show 0<n by omega);omega
theorem Io(x n:Int)(u:1<=n)(A:n<=1000000):FnP prog 44 [.int .i64 x,.int .i64 n] (· = .int .i64 (x%n)):=by
 refine FnP.of func44 O ntmps44 Vj λm0 w0 F R0=>?_
 refine Rh<|AW.region<|A1 O<|Rh<|Rh<|AW.region<|Y2 O<|AW.jT O (λhc=>absurd hc Vf) (λhc=>?_);refine Q3 ?_;have z:=O1 x n u;refine Rh<|AW.region ?_;iterate 8 refine A1 O ?_
 exact AW.ret<|⟨_,_,O,O,ag (PV.int .i64) (mod_eq x n u)⟩
abbrev ig(L:List Int)(k:Nat):List PV:=[aj L,.int .i64 k]
def sNv(L:List Int)(k:Nat)(n:Int):Int:=match L[k]? with|some x=>x%n|none=>0
def sNk(L:List Int)(k:Nat):Nat:=if k<L.length then k+1 else k
theorem jP(L:List Int)(k:Nat)(n:Int)(h:1<=n):0<=sNv L k n/\sNv L k n<n:=by
 unfold sNv;split
 .exact⟨Int.emod_nonneg _ Vf,Int.emod_lt_of_pos _ Vf⟩
 .omega
theorem gG(L:List Int)(k:Nat)(n:Int)(G:L.length<=600)(H:k<=L.length)(B:1<=n)(D:n<=1000000):FnM prog 12 91 (ig L k) [.int .i64 n] (λv c=>v= .int .i64 (sNv L k n)/\c=ig L (sNk L k)):=by
 refine FnM.of func12 O ntmps12 Vj O Vj λm0 w0 F R0=>?_
 refine Rh<|AW.region<|A1 O<|Rh<|Rh<|RW 10 O ?_;iterate 10 refine D1 O ?_
 refine⟨Vg,?_⟩;refine AW.jT O (λhc=>?_) (λhc=>?_)
 .refine Rh<|AW.region<|A1 O<|AW.ret ?_;have z:L[k]? =Sl:=by simp;omega
  exact⟨_,ig L k,O,O,by simp[sNv,z],by simp only[sNk];rw[dt Vf]⟩
 refine Q3 ?_;have u:k<L.length:=Vf;have E:=aX u;have A:=aD u;refine Rh<|AW.region ?_;iterate 8 refine A1 O ?_
 refine Rh<|RW 14 O ?_;iterate 9 refine D1 O ?_
 refine Ds [] O (λτ h=>ae k underlying22 sz3 (Ee h 0 O O) (Ee h 1 O O) Vf Vf A) O Vg ?_;first|refine D2 O O Vi ?_|refine D1 O ?_
 refine D1 O<|Ds [] O (λτ h=>aa call44 (Io L[k] n B D) (h.aK O)) O Vg<|D1 O ?_;refine⟨Vg,?_⟩;exact AW.ret<|⟨_,ig L (k+1),O,O,by simp[sNv,u],by simp only[sNk];rw[AT u]⟩
theorem CB(L:List Int)(k:Nat)(lo hi:Int)(u:L.length<=600)(z:k<=L.length)(B:lo<=hi)(D: -1000<=lo)(E:hi<=1000):FnM prog 78 91 (ig L k) [.int .i64 lo,.int .i64 hi] (λv c=>v= .int .i64 (lo+sNv L k (hi-lo+1))/\c=ig L (sNk L k)):=by
 refine FnM.of func78 O ntmps78 Vj O Vj λm0 w0 F R0=>?_
 have A:=jP L k (hi-lo+1) Vf;refine Rh<|AW.region<|A1 O<|Rh<|AW.region ?_;iterate 6 refine A1 O ?_
 exact Rs O (bS call12 (gG L k (hi-lo+1) u z Vf Vf) O O)<|Y2 O<|AW.ret<|⟨_,ig L (sNk L k),O,O,O,O⟩
def upZ(j:Nat):List Int:=(List.range j).map Int.ofNat
theorem a6(j:Nat):(upZ j).length=j:=by simp[upZ]
theorem zu(j:Nat):upZ (j+1)=upZ j++[(j:Int)]:=by simp[upZ,UJ]
abbrev aE(l:List Int):List PV:=l.map (.int .i64)
def DO(q:List Int)(i k:Nat):List Int:=(q.set i (q.getD k 0)).set k (q.getD i 0)
theorem swap_perm(u:i<q.length)(z:k<q.length):(DO q i k).Perm q:=by
 unfold DO;simp only[List.getD,Hj u,Hj z,Ub];exact List.set_set_perm u z
theorem Ik(u:i<q.length)(z:k<q.length):((aE q).set i (.int .i64 q[k])).set k (.int .i64 q[i])=aE (DO q i k):=by
 simp[DO,SH,List.getD,u,z]
theorem HX(l:List Int)(u:l.length<=600):FnO prog 10 0 1 [.pv (aj l)] [] (λv ob'=>v= .ptr 0 0/\ob'=ax [(0,.mix 91 ((ig l 0).map .pv))]):=by
 refine FnO.of func10 O ntmps10 Vj λm0 w0 F R0=>?_
 exact Rh<|AW.region<|A1 O<|Rh<|AW.region<|Y3 O<|Rs O ((Li O O).cast (v':= pIi l.length) (by rw[dt Vf]))<|Rs O ((di l.length underlying22 sz3 O O O (BY _) Vj).cast (v':= .pv (aj l)) (by rw[aQ Vj]))<|Y3 O<|AW.ret<|⟨[(2,.ptr 0 0)],[(0,.mix 91 ((ig l 0).map .pv))],[.ptr 0 0],Q5 (aS O) (aO O) O O,O,O,O,O,O⟩
abbrev vx(L:List Int)(k:Nat):Ob:= .mix 91 ((ig L k).map .pv)
theorem uK(L:List Int)(k n:Nat)(H:L.length<=600)(J:k<=L.length)(T:1<=n)(M:n<=1000):FnM prog 71 91 (ig L k) [.int .i64 n] (λv c=>(∃q:List Int,q.Perm (upZ n)/\v=aj q)/\∃k',k'<=L.length/\c=ig L k'):=by
 refine FnM.of func71 O ntmps71 Vj O Vj λm0 w0 F R0=>?_
 refine Z1 O<|Z1 O<|Z1 O<|AW.block<|AW.loop (st:=λj:Nat=>match j with
  |0=>mkS [(0,.ptr big 0),(1,pIi n),(6,pIi (0:Nat)),(5,.pv nS)] [(big,vx L k)] 1
  |j+1=>mkS [(0,.ptr big 0),(1,pIi n),(6,pIi (j+1:Nat)),(5,.osl 0 1 (j+1))] [(big,vx L k),(0,.cells 3 (aE (upZ (j+1))))] 1) (I:=λj=>j<=n) (μ:=λj=>n-j) (x0:=0) (Q5 (aS O) (aO O) O O) Vf (λj hj=>?_)
 cases j with
 | zero=>
   refine Z3 O<|AW.jT O (λhc=>?_) (λhc=>?_)
   .refine Q3<|Gr O ?_;iterate 5 refine A1 O ?_
    exact Z3 O<|⟨0+1,Q6 [2] (aT O) (aP O) O O Vj O,Vf,Vf⟩
   .omega
 | succ j=>
   have G:(aE (upZ (j+1))).length=(j+1)*1:=by simp[a6]
   have A:aE (upZ (j+1+1))=aE (upZ (j+1))++[.int .i64 ((j+1:Nat):Int)]:=by rw[zu];simp
   refine Z3 O<|AW.jT O (λhc=>?_) (λhc=>?_)
   .refine Q3<|Gr O ?_;iterate 5 refine A1 O ?_
    exact Z3 O<|⟨(j+1)+1,Q6 [2] (aT O) ⟨O,(by rw[A];rfl),Vm⟩ O O Vj O,Vf,Vf⟩
   .obtain rfl:n=j+1:=Vf;refine AW.exit<|Z3 O<|AW.block<|AW.loop (st:=λx:Nat×List Int×Nat=>mkS [(0,.ptr big 0),(7,pIi x.1),(5,.osl 0 1 (j+1))] [(big,vx L x.2.2),(0,.cells 3 (aE x.2.1))] 1) (I:=λx=>x.1<=j/\x.2.1.Perm (upZ (j+1))/\x.2.2<=L.length) (μ:=λx=>x.1) (x0:=(j,upZ (j+1),k)) (Q5 ⟨O,ag (λi=>V.pv (PV.int .i64 i)) Vf,O,Vm⟩ (aO O) O O) ⟨BY _,RY _,J⟩ ?_;rintro⟨i,q,k2⟩ ⟨hi,hq,hk2⟩;simp only at hi hq hk2 ⊢;have B:q.length=j+1:=by rw[hq.length_eq,a6]
    refine Z2 O<|AW.jT O (λhc=>?_) (λhc=>?_)
    .refine Q3 ?_;have D:=jP L k2 (i+1) Vf;obtain⟨t,ht⟩:=Rm D.1;have u:t<q.length:=Vf;have z:i<q.length:=Vf;have E:sNk L k2<=L.length:=by unfold sNk;split<;>omega
     have P:(aE q)[t*1]? =Sh (.int .i64 q[t]):=by simp[u]
     have v2:(aE q)[i*1]? =Sh (.int .i64 q[i]):=by simp[z]
     refine Z3 O<|Rs O (XJ.cast (v':= pIi (t:Int)) (bS call12 (gG L k2 (i+1) H hk2 Vf Vf) O O) (by rw[ht]))<|A1 O<|RW 16 O ?_;iterate 7 refine D1 O ?_
     first|refine D2 O O Vi ?_|refine D1 O ?_
     iterate 3 refine D1 O ?_
     first|refine D2 O O Vi ?_|refine D1 O ?_
     refine D1 O<|DL.step (d:=Sl) [_] O O O (λτ h=>bQ sz3 (Ee h 0 O O) (Eo h 0 O O) (Ee h 1 O O) O Vk) O Vg<|D1 O<|DL.step (d:=Sl) [_] O O O (λτ h=>bQ sz3 (Ee h 0 O O) (Eo h 0 O O) (Ee h 1 O O) O Vk) O Vg ?_;refine⟨Vg,?_⟩;refine Z3 O ?_;refine⟨(i-1,DO q i t,sNk L k2),Q5 ⟨O,ag (λi=>V.pv (PV.int .i64 i)) Vf,O,Vm⟩ ⟨O,?_,Vm⟩ O O,⟨Vf,(swap_perm z u).trans hq,E⟩,Vf⟩;show Sh (Ob.cells _ _)=_;rw[<-Ik z u];simp
    .exact AW.exit<|Q4 (St.PA 0 [5] O ⟨O,Vm⟩ Vk)<|Z2 O<|AW.ret<|⟨_,ig L k2,O,O,⟨q,hq,by simp[aj,B,aQ]⟩,k2,hk2,O⟩
def inB(l:List Int)(x:Int):Bool:=l.contains x
def hasB{α:Type}[DecidableEq α](l:List α)(x:α):Bool:=decide (x∈l)
def bO(f:Nat->Int):Nat->Int
 |0=>0
 |n+1=>if bO f n=0 then f n else bO f n
theorem dh(h:bO f n=0):bO f (n+1)=f n:=by simp[bO,h]
theorem BT(h:bO f k≠0)(n:Nat)(u:k<=n):bO f n=bO f k:=by
 induction n with
 | zero=>have:k=0:=Vf
         subst this;rfl
 | succ n ih=>
   by_cases hk:k=n+1
   .rw[hk]
   .have e:=ih Vf;simp only[bO];rw[dt (by rw[e];exact h),e]
theorem fJ(h:bO f k=0)(u:f k≠0)(z:k<n):bO f n=f k:=by
 have e:=dh h;rw[BT (k:=k+1) (by rw[e];exact u) n z,e]
theorem jA:bO f n=0↔∀k,k<n->f k=0:=by
 induction n with
 |zero=>simp[bO]
 | succ n ih=>
   constructor
   .intro h k hk;simp only[bO]at h;by_cases h0:bO f n=0
    .rw[AT h0]at h;by_cases hkn:k=n
     .rw[hkn];exact h
     .exact ih.1 h0 k Vf
    .rw[dt h0]at h;exact absurd h h0
   .intro h;rw[dh (ih.2 λk hk=>h k Vf)];exact h n Vf
def oz(c:UInt8):Bool:=97<=c&&c<=122
def Nd(c:UInt8):Bool:=oz c||(48<=c&&c<=57)||c==45
def Js(s:List UInt8):Bool:=match s with|[]=>S1|c::r=>oz c&&r.all Nd&&decide (r.length<=11)
def gL(s:ByteArray):Bool:=Js s.data.toList
structure Sch where
 attrs:List (ByteArray×Int)
 rels:List (ByteArray×List Int)
 feats:List (Int×Int×Int)
 label:Int
variable{S:Sch}
def eX(names:List ByteArray)(i:Nat):Int:=
 if gL (names.getD i default)=S1 then 14 else if hasB (names.take i) (names.getD i default)=Sm then 9 else 0
def fU(S:Sch)(i:Nat):Int:=
 if eX (S.attrs.map (·.1)) i≠0 then eX (S.attrs.map (·.1)) i
 else if(S.attrs.getD i default).2<1\/3<(S.attrs.getD i default).2 then 7 else 0
def CD(l:List Int):Bool:=(List.range (l.length-1)).all λk=>decide (l.getD k 0<l.getD (k+1) 0)
def ue(S:Sch)(i:Nat):Int:=
 if eX (S.rels.map (·.1)) i≠0 then eX (S.rels.map (·.1)) i
 else if(S.rels.getD i default).2=[]then 7
 else if((S.rels.getD i default).2.all λa=>decide (0<=a)&&decide (a<S.attrs.length))=S1 then 2
 else if CD (S.rels.getD i default).2=S1 then 10 else 0
def sn(S:Sch)(a:Nat):Bool:=S.rels.any λr=>inB r.2 a
def fR(S:Sch):Int:=
 if bO (ue S) S.rels.length≠0 then bO (ue S) S.rels.length
 else if((List.range S.attrs.length).all λa=>sn S a)=S1 then 7 else 0
def jM(S:Sch)(i:Nat):Int:=
 let f:=S.feats.getD i default
 let kind:=(S.attrs.getD f.1.toNat default).2
 if f.1<0\/(S.attrs.length:Int)<=f.1 then 2
 else if((f.2.1==1&&kind==2&&(f.2.2==0||f.2.2==1))||(f.2.1==2&&kind==3&&f.2.2==0))=S1 then 7
 else if(f.1==S.label||(S.feats.take i).any λg=>g.1==f.1)=Sm then 9 else 0
def bz(S:Sch):Int:=
 if S.attrs.length=0\/12<S.attrs.length\/S.rels.length=0\/6<S.rels.length\/8<S.feats.length then 3
 else if bO (fU S) S.attrs.length≠0 then bO (fU S) S.attrs.length
 else if fR S≠0 then fR S
 else if bO (jM S) S.feats.length≠0 then bO (jM S) S.feats.length
 else if S.label< -1\/(S.attrs.length:Int)<=S.label then 2
 else if 0<=S.label/\(S.attrs.getD S.label.toNat default).2≠2 then 7 else 0
namespace Mk
open Go.Proofs.YtoplpepiabedhaaGreatDoor
def chr(n:Int):ByteArray:=⟨#[UInt8.ofNat n.toNat]⟩
def nm(p:UInt8)(i:Nat):ByteArray:=⟨#[p]⟩++chr (97+i)
theorem ot:∀(l:List Int)(lo hi:Int),l.Pairwise (· < ·)->(∀a∈l,lo<=a/\a<=hi)->(l.length:Int)<=max 0 (hi+1-lo):=by
 intro l;induction l with
 |nil=>intro lo hi _ _;simp;omega
 | cons x t ih=>
   intro lo hi hp hb;have u:=Sa.1 hp;have z:=hb x Vj;have:=ih (x+1) hi u.2 (λa ha=>⟨by have:=u.1 a ha;omega,(hb a (by simp[ha])).2⟩);simp only[Rk];omega
theorem LF{q:Nat}(A:1<=q)(z:q<l.length)(h:l[q]<=l[q-1]):CD l=S1:=by
 unfold CD;rw[Uj];refine⟨q-1,Vk,?_⟩;have e:l.getD (q-1+1) 0=l[q]:=by
  simp only[show q-1+1=q by omega,List.getD,Hj z];rfl
 have u:l.getD (q-1) 0=l[q-1]:=by
  simp only[List.getD,Hj (show q-1<l.length by omega)];rfl
 rw[e,u];simp;omega
theorem wT(h:∀p,p+1<l.length->l.getD p 0<l.getD (p+1) 0):CD l=Sm:=by
 unfold CD;rw[Ri];intro p hp;simp only[Si]at hp;simpa using h p Vf
theorem Kx(h:CD l=Sm):l.Pairwise (· < ·):=by
 unfold CD at h;rw[Ri]at h;have z:∀p (hp:p+1<l.length),l[p]<l[p+1]:=λp hp=>by
  have:=h p Vk;simpa[List.getD,hp,show p<l.length by omega]using this
 clear h;induction l with
 |nil=>exact List.Pairwise.nil
 | cons x t ih=>
   have A:=ih λp hp=>z (p+1) (by simpa using hp)
   refine Sa.2 ⟨?_,A⟩;cases t with
   |nil=>intro a ha;simp at ha
   | cons y t=>
     have u:=z 0 Vj;simp at u;intro a ha;rcases AS.1 ha with e|e
     .rw[e];exact u
     .have:=(Sa.1 A).1 a e;omega
theorem K7{q:Nat}(u:q<l.length)(h:¬ (0<=l[q]/\l[q]<n)):(l.all λa=>decide (0<=a)&&decide (a<n))=S1:=by
 rw[Uj];exact⟨l[q],au u,Vk⟩
theorem xi(h:∀a∈l,0<=a/\a<n):(l.all λa=>decide (0<=a)&&decide (a<n))=Sm:=by
 rw[Ri];intro a ha;have:=h a ha;simp;omega
theorem PB(h:l.Pairwise (· < ·)):CD l=Sm:=by
 apply wT;intro p hp;have:=Sv.1 h p (p+1) Vf hp Vf;simpa[List.getD,hp,show p<l.length by omega]using this
theorem rW(S:Sch)(k:Nat)(u:k<S.rels.length):ue S k=if gL S.rels[k].1=S1 then 14 else if hasB ((S.rels.map (·.1)).take k) S.rels[k].1=Sm then 9 else if S.rels[k].2=[]then 7
  else if(S.rels[k].2.all λa=>decide (0<=a)&&decide (a<S.attrs.length))=S1 then 2 else if CD S.rels[k].2=S1 then 10 else 0:=by
 have z:(S.rels.map (·.1)).getD k default=S.rels[k].1:=by simp[List.getD,u]
 have A:S.rels.getD k default=S.rels[k]:=by simp[List.getD,u]
 unfold ue eX;rw[z,A];by_cases h1:gL S.rels[k].1=S1
 .simp[h1]
 .by_cases h2:hasB ((S.rels.map (·.1)).take k) S.rels[k].1=Sm
  .simp[h1,h2]
  .simp[h1,h2]
theorem yo(S:Sch)(k:Nat)(u:k<S.attrs.length):fU S k=if gL S.attrs[k].1=S1 then 14 else if hasB ((S.attrs.map (·.1)).take k) S.attrs[k].1=Sm then 9 else if S.attrs[k].2<1\/3<S.attrs[k].2 then 7 else 0:=by
 have z:(S.attrs.map (·.1)).getD k default=S.attrs[k].1:=by simp[List.getD,u]
 have A:S.attrs.getD k default=S.attrs[k]:=by simp[List.getD,u]
 unfold fU eX;rw[z,A];by_cases h1:gL S.attrs[k].1=S1
 .simp[h1]
 .by_cases h2:hasB ((S.attrs.map (·.1)).take k) S.attrs[k].1=Sm
  .simp[h1,h2]
  .simp[h1,h2]
theorem od(S:Sch)(k:Nat)(u:k<S.feats.length):jM S k=if S.feats[k].1<0\/(S.attrs.length:Int)<=S.feats[k].1 then 2
  else if((S.feats[k].2.1==1&&(S.attrs.getD S.feats[k].1.toNat default).2==2&&(S.feats[k].2.2==0||S.feats[k].2.2==1))||(S.feats[k].2.1==2&&(S.attrs.getD S.feats[k].1.toNat default).2==3&&S.feats[k].2.2==0))=S1 then 7
  else if(S.feats[k].1==S.label||(S.feats.take k).any λg=>g.1==S.feats[k].1)=Sm then 9 else 0:=by
 have e:S.feats.getD k default=S.feats[k]:=by simp[List.getD,u]
 unfold jM;rw[e]
theorem vV(u:bO (ue S) S.rels.length=0)(z:((List.range S.attrs.length).all λa=>sn S a)=Sm):fR S=0:=by
 unfold fR;rw[dt (by simp[u]),dt (by rw[z];decide)]
def limB(S:Sch):Prop:=¬ (S.attrs.length=0\/12<S.attrs.length\/S.rels.length=0\/6<S.rels.length\/8<S.feats.length)
theorem pE(h:limB S)(u:bO (fU S) S.attrs.length=0)(z:fR S=0)(A:bO (jM S) S.feats.length=0):bz S=if S.label< -1\/(S.attrs.length:Int)<=S.label then 2 else if 0<=S.label/\(S.attrs.getD S.label.toNat default).2≠2 then 7 else 0:=by
 unfold bz;rw[dt h,dt (by simp[u]),dt (by simp[z]),dt (by simp[A])]
def pW(i n:Nat):Bool:=decide (97<=n/\n<=122)||(decide (i≠0)&&(n==45||decide (48<=n/\n<=57)))
theorem tS(c:UInt8):pW 0 c.toNat=oz c:=by
 rw[RJ];simp[pW,oz,UInt8.le_iff_toNat_le]
theorem uW(k:Nat)(c:UInt8):pW (k+1) c.toNat=Nd c:=by
 rw[RJ];have e:c=45↔c.toNat=45:=by
  constructor
  .rintro rfl;rfl
  .intro h;exact UInt8.toNat_inj.1 h
 simp[pW,Nd,oz,UInt8.le_iff_toNat_le,e];omega
theorem sQ(l:List UInt8):Js l=(((List.range l.length).all λk=>pW k (l.getD k 0).toNat)&&decide (1<=l.length)&&decide (l.length<=12)):=by
 cases l with
 |nil=>simp[Js]
 | cons c r=>
   rw[RJ];simp only[Js,sh,Ri,Rt,Si,Rk];constructor
   .rintro⟨⟨h1,h2⟩,h3⟩;refine⟨⟨λk hk=>?_,Vf⟩,Vf⟩;cases k with
    |zero=>rw[List.getD_cons_zero,tS];exact h1
    | succ k=>
      rw[List.getD_cons_succ,uW];have u:k<r.length:=Vf;rw[List.getD,Hj u];exact h2 _ (au u)
   .rintro⟨⟨h1,_⟩,h3⟩;refine⟨⟨?_,λx hx=>?_⟩,Vf⟩
    .have:=h1 0 Vf;rwa [List.getD_cons_zero,tS]at this
    .obtain⟨k,hk,rfl⟩:=Sp hx;have:=h1 (k+1) Vf;rwa [List.getD_cons_succ,uW,List.getD,Hj hk]at this
theorem xH(s:ByteArray)(k:Nat)(u:k<s.size)(h:pW k (s.data.toList.getD k 0).toNat=S1):gL s=S1:=by
 unfold gL;rw[sQ];have:((List.range s.data.toList.length).all λk=>pW k (s.data.toList.getD k 0).toNat)=S1:=by
  rw[Uj];exact⟨k,by simp;exact u,by rw[h];simp⟩
 rw[this];rfl
theorem yD(s:ByteArray)(h:∀k,k<s.size->pW k (s.data.toList.getD k 0).toNat=Sm):gL s=(decide (1<=s.size)&&decide (s.size<=12)):=by
 unfold gL;rw[sQ];have:((List.range s.data.toList.length).all λk=>pW k (s.data.toList.getD k 0).toNat)=Sm:=by
  rw[Ri];intro k hk;exact h k (by simpa using hk)
 rw[this];simp
theorem Pt:∀i,i<26->∀j,j<26->nm 97 i=nm 97 j->i=j:=Vh
theorem II:∀i,i<6->∀j,j<6->nm 114 i=nm 114 j->i=j:=Vh
theorem Oi:∀i,i<26->gL (nm 97 i)=Sm:=Vh
theorem Fl:∀i,i<6->gL (nm 114 i)=Sm:=Vh
def pn(at':List (ByteArray×Int)):Prop:=∀j (hj:j<at'.length),at'[j].1=nm 97 j/\1<=at'[j].2/\at'[j].2<=3
def rq(rs:List (ByteArray×List Int))(n:Nat):Prop:=∀j (hj:j<rs.length),rs[j].1=nm 114 j/\rs[j].2≠[]/\rs[j].2.Pairwise (· < ·)/\∀a∈rs[j].2,0<=a/\a<n
def CV(rs:List (ByteArray×List Int))(n:Nat):Prop:=∀a,a<n->∃x∈rs,(a:Int)∈x.2
def Qv(at':List (ByteArray×Int))(lb:Int)(k:Nat)(f:Int×Int×Int):Prop:=
 ∃a:Nat,f.1=(a:Int)/\a<k/\(a:Int)≠lb/\((f.2.1=1/\(at'.getD a default).2=2/\(f.2.2=0\/f.2.2=1))\/(f.2.1=2/\(at'.getD a default).2=3/\f.2.2=0))
def fY(at':List (ByteArray×Int))(fs:List (Int×Int×Int))(lb:Int)(k:Nat):Prop:=
 (fs.map (·.1)).Pairwise (· < ·)/\(∀f∈fs,Qv at' lb k f)/\(lb= -1\/∃a:Nat,lb=(a:Int)/\a<k/\(at'.getD a default).2=2)
theorem vF{at':List (ByteArray×Int)}(h:pn at')(u:1<=x)(z:x<=3):pn (at'++[(nm 97 at'.length,x)]):=by
 intro j hj;by_cases e:j<at'.length
 .rw[T6 e];exact h j e
 .obtain rfl:j=at'.length:=by simp at hj;omega
  simpa using⟨u,z⟩
theorem xI{rs:List (ByteArray×List Int)}(h:rq rs n)(u:n<=m):rq rs m:=by
 intro j hj;obtain⟨h1,h2,h3,h4⟩:=h j hj;exact⟨h1,h2,h3,λa ha=>by have:=h4 a ha;omega⟩
theorem wX{rs:List (ByteArray×List Int)}(h:rq rs n)(u:l≠[])(z:l.Pairwise (· < ·))(A:∀a∈l,0<=a/\a<n):rq (rs++[(nm 114 rs.length,l)]) n:=by
 intro j hj;by_cases e:j<rs.length
 .rw[T6 e];exact h j e
 .obtain rfl:j=rs.length:=by simp at hj;omega
  simpa using⟨u,z,A⟩
theorem zz(h:l.Pairwise (· < ·))(u:∀a∈l,a<x):(l++[x]).Pairwise (· < ·):=by
 rw[List.pairwise_append];exact⟨h,Vj,λa ha b hb=>by simp at hb;rw[hb];exact u a ha⟩
theorem dd{at':List (ByteArray×Int)}{fs:List (Int×Int×Int)}(h:fY at' fs lb k):fY at' fs lb (k+1):=by
 refine⟨h.1,λf hf=>?_,?_⟩
 .obtain⟨a,h1,h2,h3⟩:=h.2.1 f hf;exact⟨a,h1,Vf,h3⟩
 .rcases h.2.2 with h1|⟨a,h1,h2,h3⟩
  .exact .inl h1
  .exact .inr ⟨a,h1,Vf,h3⟩
theorem so{at':List (ByteArray×Int)}{fs:List (Int×Int×Int)}(h:fY at' fs lb k)(u:(at'.getD k default).2=2):fY at' fs (k:Int) (k+1):=by
 refine⟨h.1,λf hf=>?_,.inr ⟨k,O,Vf,u⟩⟩;obtain⟨a,h1,h2,_,h3⟩:=h.2.1 f hf;exact⟨a,h1,Vf,Vf,h3⟩
theorem iZ{at':List (ByteArray×Int)}{fs:List (Int×Int×Int)}(h:fY at' fs lb k){y:Int}(u:lb= -1\/lb<k)
  (z:(x=1/\(at'.getD k default).2=2/\(y=0\/y=1))\/(x=2/\(at'.getD k default).2=3/\y=0)):fY at' (fs++[((k:Int),x,y)]) lb (k+1):=by
 refine⟨?_,λf hf=>?_,(dd h).2.2⟩
 .rw[RG];refine zz h.1 λa ha=>?_
  obtain⟨f,hf,rfl⟩:=By.1 ha;obtain⟨a,h1,h2,_⟩:=h.2.1 f hf;show f.1<(k:Int);omega
 .rcases Rx.1 hf with hf|hf
  .exact(dd h).2.1 f hf
  .simp at hf;subst hf;exact⟨k,O,Vf,Vf,z⟩
theorem qC{at':List (ByteArray×Int)}{fs:List (Int×Int×Int)}(h:fY at' fs lb k): -1<=lb/\lb<k:=by
 rcases h.2.2 with h1|⟨a,h1,h2,_⟩<;>omega
theorem eV{at':List (ByteArray×Int)}{fs:List (Int×Int×Int)}(h:fY at' fs lb k):fs.length<=k:=by
 have:=ot (fs.map (·.1)) 0 (k-1) h.1 (λa ha=>by
  obtain⟨f,hf,rfl⟩:=By.1 ha;obtain⟨a,h1,h2,_⟩:=h.2.1 f hf;omega)
 simp at this;omega
structure Made(S:Sch)(most:Nat):Prop where
 a1:1<=S.attrs.length
 a2:S.attrs.length<=most
 r1:1<=S.rels.length
 r2:S.rels.length<=3
 at':pn S.attrs
 rs:rq S.rels S.attrs.length
 cv:CV S.rels S.attrs.length
 fs:fY S.attrs S.feats S.label S.attrs.length
theorem jD(h:Made S most)(L:most<=8):bz S=0:=by
 have B:=h.a2;have D:=h.r2;have E:bO (fU S) S.attrs.length=0:=by
  rw[jA];intro k hk;rw[yo S k hk];obtain⟨h1,h2,h3⟩:=h.at' k hk;rw[dt (by rw[h1,Oi k Vf];decide),dt,dt Vf];unfold hasB;simp only[Rt];intro hmem;obtain⟨j,hj,hjk⟩:=Tg.1 hmem;have u:j<S.attrs.length:=by simp at hj;omega
  rw[SE,(h.at' j u).1,h1]at hjk;have:=Pt j Vf k Vf hjk;simp at hj;omega
 have G:bO (ue S) S.rels.length=0:=by
  rw[jA];intro k hk;rw[rW S k hk];obtain⟨h1,h2,h3,h4⟩:=h.rs k hk;rw[dt (by rw[h1,Fl k Vf];decide),dt,dt h2,dt (by rw[xi h4];decide),dt (by rw[PB h3];decide)];unfold hasB;simp only[Rt];intro hmem;obtain⟨j,hj,hjk⟩:=Tg.1 hmem;have u:j<S.rels.length:=by simp at hj;omega
  rw[SE,(h.rs j u).1,h1]at hjk;have:=II j Vf k Vf hjk;simp at hj;omega
 have A:fR S=0:=by
  refine vV G ?_;rw[Ri];intro a ha;obtain⟨x,hx,hax⟩:=h.cv a (by simpa using ha);unfold sn;rw[SR];exact⟨x,hx,by simpa[inB]using hax⟩
 have H:=eV h.fs;have I:bO (jM S) S.feats.length=0:=by
  rw[jA];intro k hk;rw[od S k hk];obtain⟨a,h1,h2,h3,h4⟩:=h.fs.2.1 _ (au hk);rw[h1,RH,dt Vf,dt,dt]
  .rw[Sg,not_or];refine⟨by simpa using h3,?_⟩;rw[SR];rintro⟨f,hf,hfa⟩;obtain⟨j,hj,rfl⟩:=Tg.1 hf;have:=Sv.1 h.fs.1 j k Vk (by simpa using hk) Vf;simp at this hfa;omega
  .rcases h4 with⟨g1,g2,g3⟩|⟨g1,g2,g3⟩
   .rw[g1,g2];rcases g3 with g3|g3<;>rw[g3]<;>decide
   .rw[g1,g2,g3];decide
 have z:limB S:=by unfold limB;have:=h.a1;have:=h.r1;omega
 rw[pE z E A I];have J:=qC h.fs;rw[dt Vf,dt];rintro⟨g1,g2⟩;rcases h.fs.2.2 with g3|⟨a,g3,g4,g5⟩
 .omega
 .rw[g3,RH]at g2;exact g2 g5
def jN(l:List Int)(n:Nat):Prop:=l.Pairwise (· < ·)/\(∀a∈l,0<=a/\a<n)
theorem jN.len(h:jN l n):l.length<=n:=by
 have:=ot l 0 (n-1) h.1 (λa ha=>by have:=h.2 a ha;omega);omega
theorem jN.snoc(h:jN l n):jN (l++[(n:Int)]) (n+1):=by
 refine⟨zz h.1 λa ha=>(h.2 a ha).2,λa ha=>?_⟩;rcases Rx.1 ha with h1|h1
 .have:=h.2 a h1;omega
 .simp at h1;omega
theorem jN.mono(h:jN l n)(u:n<=m):jN l m:=⟨h.1,λa ha=>by have:=h.2 a ha;omega⟩
def Ha(at':List (ByteArray×Int))(rs:List (ByteArray×List Int))(most k:Nat):Prop:=
 pn at'/\rq rs at'.length/\CV rs at'.length/\at'.length<=most/\rs.length=k/\(1<=k->1<=at'.length)
def JA(at' at2:List (ByteArray×Int))(l:List Int)(most:Nat):Prop:=
 pn at2/\at2.length<=most/\at'.length<=at2.length/\jN l at2.length/\∀a:Nat,at'.length<=a->a<at2.length->(a:Int)∈l
theorem ze{at' at2:List (ByteArray×Int)}(h:JA at' at2 l most)(z:at2.length<most)(u:x∈[1,2,2,3]):JA at' (at2++[(nm 97 at2.length,x)]) (l++[(at2.length:Int)]) most:=by
 obtain⟨h1,h2,h3,h4,h5⟩:=h;refine⟨vF h1 (by simp at u;omega) (by simp at u;omega),Vk,Vk,by simpa using h4.snoc,λa ha1 ha2=>?_⟩;by_cases e:a<at2.length
 .exact S7 _ (h5 a ha1 e)
 .have:a=at2.length:=by simp at ha2;omega
  subst this;simp
def Ii(at' at2:List (ByteArray×Int))(l:List Int)(most:Nat):Prop:=JA at' at2 l most/\l≠[]/\1<=at2.length
theorem py{at' at2:List (ByteArray×Int)}{rs:List (ByteArray×List Int)}(h:Ha at' rs most k)(u:Ii at' at2 l most):Ha at2 (rs++[(nm 114 k,l)]) most (k+1):=by
 obtain⟨h1,h2,h3,h4,h5,h6⟩:=h;obtain⟨⟨g1,g2,g3,g4,g5⟩,g6,g7⟩:=u;subst h5;refine⟨g1,wX (xI h2 g3) g6 g4.1 g4.2,λa ha=>?_,g2,Vj,λ_=>g7⟩;by_cases e:a<at'.length
 .obtain⟨x,hx,hax⟩:=h3 a e;exact⟨x,S7 _ hx,hax⟩
 .exact⟨(nm 114 rs.length,l),To _ Vj,g5 a Vf ha⟩
end Mk
section
open Mk
theorem fB(p:ByteArray)(i:Nat)(A:p.size<=1000)(B:i<26):FnP prog 79 [.str p,.int .i64 i] (· = .str (p++chr (97+i))):=by
 refine FnP.of func79 O ntmps79 Vj λm0 w0 F R0=>?_
 have u:(i:Int).tmod 26=i:=Int.tmod_eq_of_lt Vf Vf;have z:(97+i:Int)=((UInt8.ofNat (97+i)).toNat:Int):=by
  simp[Ut (show 97+i<256 by omega)]
 refine Z1 O<|Z2 O<|Rs O (XJ.cast (v':= pIi i) (oW O O Vf) (by rw[u]))<|A1 O<|Rs O (XJ.cast (v':= .pv (.int .u8 (((UInt8.ofNat (97+i)).toNat:Nat):Int))) (iM underlying3 underlying5 O) (by rw[<-z,IntWalk.u8_in _ Vf]))<|A1 O<|Rs O (Fz [UInt8.ofNat (97+i)] underlying277 underlying5 underlying9 (.inr ⟨_,_,_,_,O,O,O⟩))<|Rs O (yF O O (show p.size+1<=_ by omega))<|A1 O<|AW.ret ?_;refine⟨_,_,O,O,ag PV.str ?_⟩
 congr 1
end
section
open Mk
theorem qB(L:List Int)(k:Nat)(l:List Int)(D:L.length<=600)(E:k<=L.length)(G:l≠[])(H:l.length<=1000):∃x∈l,FnM prog 80 91 (ig L k) [aj l] (λv c=>v= .int .i64 x/\c=ig L (sNk L k)):=by
 have A:0<l.length:=SS.2 G;have B:=jP L k l.length Vf;obtain⟨j,hj⟩:=Rm B.1;have u:j<l.length:=Vf;refine⟨l[j],au u,?_⟩;refine FnM.of func80 O ntmps80 Vj O Vj λm0 w0 F R0=>?_
 have I:=aX u;have z:=aD u;refine Z1 O<|Z4 O<|Rs O (bS call12 (gG L k l.length D E Vf Vf) O O)<|Rs O (ae j underlying22 sz3 O O hj u z) ?_;first|refine A2 O Vi ?_|refine A1 O ?_
 exact A1 O<|AW.ret<|⟨_,ig L (sNk L k),O,O,O,O⟩
theorem gQ{L:List Int}(h:k<=L.length):sNk L k<=L.length:=by unfold sNk;split<;>omega
def aG(l:List (ByteArray×Int)):List PV:=l.flatMap λa=>[.str a.1,.int .i64 a.2]
def aM(l:List (ByteArray×List Int)):List PV:=l.flatMap λr=>[.str r.1,aj r.2]
def aH(l:List (Int×Int×Int)):List PV:=l.flatMap λf=>[.int .i64 f.1,.int .i64 f.2.1,.int .i64 f.2.2]
abbrev schC(S:Sch):List PV:=[.sl Sl S.attrs.length (aG S.attrs),.sl Sl S.rels.length (aM S.rels),.sl Sl S.feats.length (aH S.feats),.int .i64 S.label]
abbrev eS(S:Sch):PV:= .agg (schC S)
theorem bY(f:α->List β)(n:Nat)(h:∀a,(f a).length=n):∀l:List α,(l.flatMap f).length=l.length*n
 |[]=>by simp
 |a::l=>by rw[RC,IS,h,bY f n h l,Rk,Vb,UL]
theorem gW(f:α->List β)(n:Nat)(h:∀a,(f a).length=n):∀(l:List α)(k j:Nat)(hk:k<l.length),j<n->(l.flatMap f)[k*n+j]? =(f l[k])[j]?
 |[],_,_,hk,_=>by simp at hk
 | a::l,0,j,_,hj=>by
   rw[RC,U8,RV,Uo (by rw[h];exact hj)];rfl
 | a::l,k+1,j,hk,hj=>by
   rw[RC,List.getElem?_append_right (by rw[h,Vb];omega),h,show(k+1)*n+j-n=k*n+j by rw[Vb];omega];rw[gW f n h l k j (by simpa using hk) hj];simp
theorem js(l:List (ByteArray×Int)):(aG l).length=l.length*2:=bY _ 2 (λ_=>rfl) l
theorem uB(l:List (ByteArray×List Int)):(aM l).length=l.length*2:=bY _ 2 (λ_=>rfl) l
theorem gg(l:List (Int×Int×Int)):(aH l).length=l.length*3:=bY _ 3 (λ_=>rfl) l
theorem oc(l:List (ByteArray×Int))(x:ByteArray×Int):aG (l++[x])=aG l++[.str x.1,.int .i64 x.2]:=by simp[aG]
theorem l8(l:List (ByteArray×List Int))(x:ByteArray×List Int):aM (l++[x])=aM l++[.str x.1,aj x.2]:=by simp[aM]
theorem j4(l:List (Int×Int×Int))(x:Int×Int×Int):aH (l++[x])=aH l++[.int .i64 x.1,.int .i64 x.2.1,.int .i64 x.2.2]:=by simp[aH]
theorem jc(l:List Int)(x:Int):aE (l++[x])=aE l++[.int .i64 x]:=Vj
abbrev OO:Ob:= .mix 30 [.pv nS,.pv nS,.pv nS,pIi 0]
abbrev O8(a r f:Nat)(lb:Int):Ob:= .mix 30 [.gsl 2 2 a,.gsl 3 2 r,.gsl 4 3 f,pIi lb]
theorem cC(f:α->List β)(n:Nat)(h:∀a,(f a).length=n):∀(l:List α)(k:Nat)(hk:k<l.length),((l.flatMap f).drop (k*n)).take n=f l[k]
 |[],_,hk=>by simp at hk
 | a::l,0,_=>by
   rw[RC,U8,List.drop_zero,List.take_append_of_le_length (by rw[h];exact BY _),aQ (by rw[h];exact BY _)];rfl
 | a::l,k+1,hk=>by
   rw[RC,List.drop_append,Tv (by rw[h,Vb];omega),Sr,h,show(k+1)*n-n=k*n by rw[Vb];omega];rw[cC f n h l k (by simpa using hk)];simp
theorem xB(L:List Int)(k0 most:Nat)(D:L.length<=600)(V:k0<=L.length)(hm1:1<=most)(hm2:most<=8):FnM prog 26 91 (ig L k0) [.int .i64 most] (λv c=>(∃S,Made S most/\v=eS S)/\∃k',k'<=L.length/\c=ig L k'):=by
 refine FnM.ofC (rt:=30) (k:=4) func26 O ntmps26 Vj O Vj ⟨_,underlying30,O⟩ sz30 λm0 w0 F R0=>?_
 have hb:=jP L k0 3 Vf;obtain⟨nn,hnn⟩:=Rm (show 0<=1+sNv L k0 3 by omega);have H:=gQ V;generalize hke:sNk L k0=k1 at H;refine Z1 O<|Z3 O<|Z1 O<|Rs O (XJ.cast (v':= pIi nn) (bS call78 (CB L k0 1 3 D V Vf Vf Vf) O O) (by rw[<-hnn];rfl))<|A1 O ?_;rw[hke];refine Q4 (St.da 1 0 2 2 162 O O O)<|Q4 (St.da 1 1 3 2 74 O O O)<|Q4 (St.da 1 2 4 3 164 O O O)<|Z1 O<|AW.block<|AW.loop (st:=λx:Nat×List (ByteArray×Int)×List (ByteArray×List Int)×Nat=>mkS [(0,.ptr big 0),(1,pIi most),(4,.ptr 0 0),(5,.ptr 1 0),(6,pIi nn),(7,pIi x.1)] [(big,vx L x.2.2.2),(0,OO),(1,O8 x.2.1.length x.2.2.1.length 0 (-1)),(2,.gro 162 (aG x.2.1)),(3,.gro 74 (aM x.2.2.1)),(4,.gro 164 [])] 5)
  (I:=λx=>x.1<=nn/\Ha x.2.1 x.2.2.1 most x.1/\x.2.2.2<=L.length) (μ:=λx=>nn-x.1) (x0:=(0,[],[],k1)) (Q5 (aS O) (aO O) O O) ⟨cd _,⟨λj hj=>by simp at hj,λj hj=>by simp at hj,λa ha=>by simp at ha,Vj,O,λh=>by omega⟩,H⟩ ?_
 rintro⟨k,at',rs,k2⟩ ⟨hk,hhead,hk2⟩;simp only at hk hhead hk2 ⊢;have J:at'.length<=most:=hhead.2.2.2.1;have hrl:rs.length=k:=hhead.2.2.2.2.1;have M:=js at';have hRl:=uB rs;refine Z3 O<|AW.jT O (λhc=>?_) (λhc=>?_)
 .refine Q3<|Z1 O<|Q4 (Ra 8 5 1 3 O O)<|Z4 O<|AW.block ?_;refine AW.loop (st:=λx:Nat×List Int×Nat=>mkS [(0,.ptr big 0),(1,pIi most),(4,.ptr 0 0),(5,.ptr 1 0),(6,pIi nn),(7,pIi k),(8,.gsl 5 1 x.2.1.length),(23,pIi at'.length),(24,pIi x.1)] [(big,vx L x.2.2),(0,OO),(1,O8 at'.length rs.length 0 (-1)),(2,.gro 162 (aG at')),(3,.gro 74 (aM rs)),(4,.gro 164 []),(5,.gro 3 (aE x.2.1))] 6)
   (I:=λx=>x.1<=at'.length/\jN x.2.1 x.1/\x.2.2<=L.length) (μ:=λx=>at'.length-x.1) (x0:=(0,[],k2)) (Q5 (aS O) (aO O) O O) ⟨cd _,⟨Vj,Vj⟩,hk2⟩ ?_
  rintro⟨j,l,k3⟩ ⟨hj,hlok,hk3⟩;simp only at hj hlok hk3 ⊢;have P:=hlok.len;refine Z1 O<|Gp O (λhc=>?_) (λhc=>?_)
  .refine Q3<|Z2 O<|Z1 O<|Rs O (bS call12 (gG L k3 3 D hk3 Vf Vf) O O)<|A1 O ?_;refine AW.cond O (λhc=>?_) (λhc=>?_)
   .refine Gr O ?_;iterate 5 refine A1 O ?_
    exact Z2 O<|⟨(j+1,l++[(j:Int)],sNk L k3),Q6 [0,1,2,3,4,7] ⟨O,O,O,O,O,O,by simp;rfl,O,O,Vm⟩ ⟨O,O,O,O,O,O,by rw[jc];rfl,Vm⟩ O O Vj O,⟨Vf,hlok.snoc,gQ hk3⟩,Vf⟩
   .exact Q3<|Z2 O<|⟨(j+1,l,sNk L k3),Q5 (aS O) (aO O) O O,⟨Vf,hlok.mono Vf,gQ hk3⟩,Vf⟩
  .obtain rfl:j=at'.length:=Vf;refine AW.exit ?_;have W:=jP L k3 3 Vf;refine Z1 O<|Rs O (bS call12 (gG L k3 3 D hk3 Vf Vf) O O)<|A1 O<|AW.block<|AW.loop (st:=λx:List (ByteArray×Int)×List Int×Int×Nat=>mkS [(0,.ptr big 0),(1,pIi most),(4,.ptr 0 0),(5,.ptr 1 0),(6,pIi nn),(7,pIi k),(8,.gsl 5 1 x.2.1.length),(10,pIi x.2.2.1)] [(big,vx L x.2.2.2),(0,OO),(1,O8 x.1.length rs.length 0 (-1)),(2,.gro 162 (aG x.1)),(3,.gro 74 (aM rs)),(4,.gro 164 []),(5,.gro 3 (aE x.2.1))] 6)
    (I:=λx=>JA at' x.1 x.2.1 most/\ -1000+x.1.length*(-1)<=x.2.2.1/\x.2.2.1<=1000/\x.2.2.2<=L.length) (μ:=λx=>most-x.1.length) (x0:=(at',l,sNv L k3 3,sNk L k3)) (Q5 (aS O) (aO O) O O) ⟨⟨hhead.1,J,BY _,hlok,λa h1 h2=>absurd h2 (Nat.not_lt.2 h1)⟩,Vl,Vl,gQ hk3⟩ ?_
   clear hlok P W hk3;rintro⟨at2,l,c,k3⟩ ⟨hmid,hc1,hc2,hk3⟩;simp only at hmid hc1 hc2 hk3 ⊢;have Y:at2.length<=most:=hmid.2.1;have P:=hmid.2.2.2.1.len;have Z:=js at2;obtain⟨px,hpx,hpick⟩:=qB L k3 [1,2,2,3] D hk3 Vj Vj;by_cases hcp:0<c
   .refine Z1 O<|Rs O (XJ.cast (v':= .pv (.bool Sm)) (aC O O O) Vk) ?_;iterate 12 refine A1 O ?_
    refine AW.jT O (λhc=>?_) (λhc=>?_)
    .refine Q3<|Gr O ?_;iterate 7 refine A1 O ?_
     refine RW 14 O ?_;iterate 5 refine D1 O ?_
     refine Ds [] O (λτ h=>aa call79 (fB ⟨#[97]⟩ at2.length Vh Vf) (h.aK O)) O Vg<|D1 O<|Ds [] O (λτ h=>ar Sl Vj tm O Vh Vh (h.Er O O) O) O Vg<|Ds [_] O (λτ h=>bS call80 hpick (h.args.trans O) (Eo h 0 O O)) O Vg ?_;iterate 5 refine D1 O ?_
     refine⟨Vg,?_⟩;refine Z3 O ?_;refine⟨(at2++[(nm 97 at2.length,px)],l++[(at2.length:Int)],c-1,sNk L k3),Q6 [0,1,9,3,4,7] ⟨O,O,O,O,O,O,by simp;rfl,O,Vm⟩ ⟨O,O,by simp;rfl,by rw[oc];rfl,O,O,by rw[jc];rfl,Vm⟩ O O Vj O,⟨ze hmid Vf hpx,by simp only[IS,RD];omega,Vl,gQ hk3⟩,?_⟩;simp only[IS,RD];omega
    .refine AW.exit ?_;refine AW.cut (st:=λl:List Int=>mkS [(0,.ptr big 0),(1,pIi most),(4,.ptr 0 0),(5,.ptr 1 0),(6,pIi nn),(7,pIi k),(8,.pv (aj l))] [(big,vx L k3),(0,OO),(1,O8 at2.length rs.length 0 (-1)),(2,.gro 162 (aG at2)),(3,.gro 74 (aM rs)),(4,.gro 164 [])] 5) (I:=λl=>Ii at' at2 l most) ?_ ?_
     .refine Z3 O ?_;have A:l.length=0->most<=at2.length:=Vf;refine AW.cond O (λhc=>?_) (λhc=>?_)
      .have hl0':l=[]:=RU (by simpa using hc);subst hl0';have hf:=A O;exact Gr O<|Rs O (ar Sl Vj tm O Vh Vh O O)<|A1 O<|⟨[0],Q5 (aS O) (aO O) O O,⟨hmid.1,hmid.2.1,hmid.2.2.1,⟨Vj,Vk⟩,λa h1 h2=>absurd (hmid.2.2.2.2 a h1 h2) Vj⟩,Vj,Vf⟩
      .have u:l≠[]:=λe=>by subst e;simp at hc
       have G:0<l.length:=SS.2 u;exact Q3<|⟨l,St.le.trans (Q8 5 O O) (Q5 ⟨O,O,O,O,O,O,by simp[aj];rfl,Vm⟩ (aO O) O O),hmid,u,Vf⟩
     .intro l2 hend;refine RW 10 O ?_;iterate 3 refine D1 O ?_
      refine Ds [] O (λτ h=>aa call79 (fB ⟨#[114]⟩ k Vh Vf) (h.aK O)) O Vg ?_;iterate 6 refine D1 O ?_
      refine⟨Vg,?_⟩;refine Z3 O ?_;refine⟨(k+1,at2,rs++[(nm 114 k,l2)],k3),Q6 [0,1,2,6,4] (aT O) ⟨O,O,by simp;rfl,O,by rw[l8];rfl,O,Vm⟩ O O Vj O,⟨Vl,py hhead hend,hk3⟩,Vl⟩
   .by_cases hl0:l.length=0
    .refine Z1 O<|Rs O (XJ.cast (v':= .pv (.bool S1)) (aC O O O) Vk)<|Y3 O<|Rg O (XJ.cast (v':= .pv (.bool Sm)) (aC O O O) (by simp[hl0])) ?_;iterate 8 refine A1 O ?_
     refine AW.jT O (λhc=>?_) (λhc=>?_)
     .refine Q3<|Gr O ?_;iterate 7 refine A1 O ?_
      refine RW 14 O ?_;iterate 5 refine D1 O ?_
      refine Ds [] O (λτ h=>aa call79 (fB ⟨#[97]⟩ at2.length Vh Vf) (h.aK O)) O Vg<|D1 O<|Ds [] O (λτ h=>ar Sl Vj tm O Vh Vh (h.Er O O) O) O Vg<|Ds [_] O (λτ h=>bS call80 hpick (h.args.trans O) (Eo h 0 O O)) O Vg ?_;iterate 5 refine D1 O ?_
      refine⟨Vg,?_⟩;refine Z3 O ?_;refine⟨(at2++[(nm 97 at2.length,px)],l++[(at2.length:Int)],c-1,sNk L k3),Q6 [0,1,9,3,4,7] ⟨O,O,O,O,O,O,by simp;rfl,O,Vm⟩ ⟨O,O,by simp;rfl,by rw[oc];rfl,O,O,by rw[jc];rfl,Vm⟩ O O Vj O,⟨ze hmid Vf hpx,by simp only[IS,RD];omega,Vl,gQ hk3⟩,?_⟩;simp only[IS,RD];omega
     .refine AW.exit ?_;refine AW.cut (st:=λl:List Int=>mkS [(0,.ptr big 0),(1,pIi most),(4,.ptr 0 0),(5,.ptr 1 0),(6,pIi nn),(7,pIi k),(8,.pv (aj l))] [(big,vx L k3),(0,OO),(1,O8 at2.length rs.length 0 (-1)),(2,.gro 162 (aG at2)),(3,.gro 74 (aM rs)),(4,.gro 164 [])] 5) (I:=λl=>Ii at' at2 l most) ?_ ?_
      .refine Z3 O ?_;have A:l.length=0->most<=at2.length:=Vf;refine AW.cond O (λhc=>?_) (λhc=>?_)
       .have hl0':l=[]:=RU (by simpa using hc);subst hl0';have hf:=A O;exact Gr O<|Rs O (ar Sl Vj tm O Vh Vh O O)<|A1 O<|⟨[0],Q5 (aS O) (aO O) O O,⟨hmid.1,hmid.2.1,hmid.2.2.1,⟨Vj,Vk⟩,λa h1 h2=>absurd (hmid.2.2.2.2 a h1 h2) Vj⟩,Vj,Vf⟩
       .have u:l≠[]:=λe=>by subst e;simp at hc
        have G:0<l.length:=SS.2 u;exact Q3<|⟨l,St.le.trans (Q8 5 O O) (Q5 ⟨O,O,O,O,O,O,by simp[aj];rfl,Vm⟩ (aO O) O O),hmid,u,Vf⟩
      .intro l2 hend;refine RW 10 O ?_;iterate 3 refine D1 O ?_
       refine Ds [] O (λτ h=>aa call79 (fB ⟨#[114]⟩ k Vh Vf) (h.aK O)) O Vg ?_;iterate 6 refine D1 O ?_
       refine⟨Vg,?_⟩;refine Z3 O ?_;refine⟨(k+1,at2,rs++[(nm 114 k,l2)],k3),Q6 [0,1,2,6,4] (aT O) ⟨O,O,by simp;rfl,O,by rw[l8];rfl,O,Vm⟩ O O Vj O,⟨Vl,py hhead hend,hk3⟩,Vl⟩
    .have T:((l.length:Int)==0)=S1:=by rw[SL];omega
     refine Z1 O<|Rs O (XJ.cast (v':= .pv (.bool S1)) (aC O O O) Vk)<|Y3 O<|Rg O (XJ.cast (v':= .pv (.bool S1)) (aC O O O) (by rw[T])) ?_;iterate 8 refine A1 O ?_
     refine AW.cond O (λhc=>absurd hc Vj) (λhc=>?_);refine AW.exit<|AW.cut (st:=λl:List Int=>mkS [(0,.ptr big 0),(1,pIi most),(4,.ptr 0 0),(5,.ptr 1 0),(6,pIi nn),(7,pIi k),(8,.pv (aj l))] [(big,vx L k3),(0,OO),(1,O8 at2.length rs.length 0 (-1)),(2,.gro 162 (aG at2)),(3,.gro 74 (aM rs)),(4,.gro 164 [])] 5) (I:=λl=>Ii at' at2 l most) ?_ ?_
     .refine Z3 O ?_;have A:l.length=0->most<=at2.length:=Vf;refine AW.cond O (λhc=>?_) (λhc=>?_)
      .have hl0':l=[]:=RU (by simpa using hc);subst hl0';have hf:=A O;exact Gr O<|Rs O (ar Sl Vj tm O Vh Vh O O)<|A1 O<|⟨[0],Q5 (aS O) (aO O) O O,⟨hmid.1,hmid.2.1,hmid.2.2.1,⟨Vj,Vk⟩,λa h1 h2=>absurd (hmid.2.2.2.2 a h1 h2) Vj⟩,Vj,Vf⟩
      .have u:l≠[]:=λe=>by subst e;simp at hc
       have G:0<l.length:=SS.2 u;exact Q3<|⟨l,St.le.trans (Q8 5 O O) (Q5 ⟨O,O,O,O,O,O,by simp[aj];rfl,Vm⟩ (aO O) O O),hmid,u,Vf⟩
     .intro l2 hend;refine RW 10 O ?_;iterate 3 refine D1 O ?_
      refine Ds [] O (λτ h=>aa call79 (fB ⟨#[114]⟩ k Vh Vf) (h.aK O)) O Vg ?_;iterate 6 refine D1 O ?_
      refine⟨Vg,?_⟩;refine Z3 O ?_;refine⟨(k+1,at2,rs++[(nm 114 k,l2)],k3),Q6 [0,1,2,6,4] (aT O) ⟨O,O,by simp;rfl,O,by rw[l8];rfl,O,Vm⟩ O O Vj O,⟨Vl,py hhead hend,hk3⟩,Vl⟩
 .obtain rfl:k=nn:=Vf;have X:1<=at'.length:=hhead.2.2.2.2.2 Vf;refine AW.exit<|Q4 (Q8 2 O O)<|Q4 (Q8 3 O O)<|Z4 O<|AW.block<|AW.loop (st:=λx:Nat×List (Int×Int×Int)×Int×Nat=>mkS [(0,.ptr big 0),(4,.ptr 0 0),(5,.ptr 1 0),(86,.pv (.sl Sl at'.length (aG at'))),(87,pIi at'.length),(88,pIi x.1)] [(big,vx L x.2.2.2),(0,OO),(1,.mix 30 [.pv (.sl Sl at'.length (aG at')),.pv (.sl Sl rs.length (aM rs)),.gsl 2 3 x.2.1.length,pIi x.2.2.1]),(2,.gro 164 (aH x.2.1))] 3)
   (I:=λx=>x.1<=at'.length/\fY at' x.2.1 x.2.2.1 x.1/\x.2.2.2<=L.length) (μ:=λx=>at'.length-x.1) (x0:=(0,[], -1,k2)) (Q6 [0,1,4] (aT O) (aP O) O O Vj O) ⟨cd _,⟨Vj,Vj,.inl O⟩,hk2⟩ ?_
  rintro⟨j,fs,lb,k3⟩ ⟨hj,hfs,hk3⟩;simp only at hj hfs hk3 ⊢;have hFl:=gg fs;have hfl:=eV hfs;have T:=qC hfs;refine Z1 O<|Gp O (λhc=>?_) (λhc=>?_)
  .have hjl:j<at'.length:=Vf;have u:aG at'≠[]:=λe=>by rw[e]at M;simp at M;omega
   have U:((aG at').drop (j*2)).take 2=[.str at'[j].1,.int .i64 at'[j].2]:=cC _ 2 (λ_=>rfl) at' j hjl;have B:(at'.getD j default).2=at'[j].2:=by simp[List.getD,hjl]
   refine Q3<|Z2 O<|Rs O (aU ⟨_,underlying162,O⟩ lZ O U O)<|Y3 O<|AW.block ?_;generalize at'[j].2=K at B ⊢;generalize at'[j].1=nme;by_cases hK:K=2
   .subst hK;by_cases hl0:lb<0
    .refine Z2 O<|Rs O (XJ.cast (v':= .pv (.bool Sm)) (aC O O O) Vj)<|Y3 O<|Rg O (XJ.cast (v':= .pv (.bool Sm)) (aC O O O) Vk)<|Y3 O<|Rg O (bS call12 (gG L k3 2 D hk3 Vf Vf) O O)<|Y3 O ?_;have E:=gQ hk3;generalize sNk L k3=k4 at E ⊢;refine AW.cond O (λhc=>?_) (λhc=>?_)
     .exact Z3 O<|Z2 O<|⟨(j+1,fs,(j:Int),k4),Q5 (aS O) (aO O) O O,⟨Vl,so hfs B,E⟩,Vl⟩
     .refine Z2 O<|Rs O (XJ.cast (v':= .pv (.bool Sm)) (aC O O O) Vj)<|Y2 O<|Rg O (bS call12 (gG L k4 4 D E Vf Vf) O O)<|Y3 O ?_;have z:=gQ E;generalize sNk L k4=k5 at z ⊢;refine AW.jT O (λhc=>?_) (λhc=>?_)
      .have hnb:=jP L k5 2 Vf;refine RW 10 O ?_;iterate 4 refine D1 O ?_
       refine Ds [_] O (λτ h=>bS call12 (gG L k5 2 D z Vf Vf) (h.args.trans O) (Eo h 0 O O)) O Vg ?_;iterate 5 refine D1 O ?_
       refine⟨Vg,?_⟩;exact Z2 O<|⟨(j+1,fs++[((j:Int),1,sNv L k5 2)],lb,sNk L k5),Q6 [0,1,5] (aT O) ⟨O,O,by simp only[IS,RD];rfl,ag (λc=>Sh (Ob.gro 164 c)) (j4 fs ((j:Int),1,sNv L k5 2)).symm,Vm⟩ O O Vj O,⟨Vl,iZ hfs Vf (.inl ⟨O,B,Vf⟩),gQ z⟩,Vl⟩
      .refine Z2 O<|Rs O (XJ.cast (v':= .pv (.bool S1)) (aC O O O) Vj) ?_;iterate 6 refine A1 O ?_
       refine AW.cond O (λhc=>absurd hc Vj) (λhc=>?_);exact Q3<|Z2 O<|⟨(j+1,fs,lb,k5),Q5 (aS O) (aO O) O O,⟨Vl,dd hfs,z⟩,Vl⟩
    .refine Z2 O<|Rs O (XJ.cast (v':= .pv (.bool Sm)) (aC O O O) Vj)<|Y3 O<|Rg O (XJ.cast (v':= .pv (.bool S1)) (aC O O O) Vk) ?_;iterate 7 refine A1 O ?_
     refine AW.cond O (λhc=>absurd hc Vj) (λhc=>?_);refine Z2 O<|Rs O (XJ.cast (v':= .pv (.bool Sm)) (aC O O O) Vj)<|Y2 O<|Rg O (bS call12 (gG L k3 4 D hk3 Vf Vf) O O)<|Y3 O ?_;have z:=gQ hk3;generalize sNk L k3=k5 at z ⊢;refine AW.jT O (λhc=>?_) (λhc=>?_)
     .have hnb:=jP L k5 2 Vf;refine RW 10 O ?_;iterate 4 refine D1 O ?_
      refine Ds [_] O (λτ h=>bS call12 (gG L k5 2 D z Vf Vf) (h.args.trans O) (Eo h 0 O O)) O Vg ?_;iterate 5 refine D1 O ?_
      refine⟨Vg,?_⟩;exact Z2 O<|⟨(j+1,fs++[((j:Int),1,sNv L k5 2)],lb,sNk L k5),Q6 [0,1,5] (aT O) ⟨O,O,by simp only[IS,RD];rfl,ag (λc=>Sh (Ob.gro 164 c)) (j4 fs ((j:Int),1,sNv L k5 2)).symm,Vm⟩ O O Vj O,⟨Vl,iZ hfs Vf (.inl ⟨O,B,Vf⟩),gQ z⟩,Vl⟩
     .refine Z2 O<|Rs O (XJ.cast (v':= .pv (.bool S1)) (aC O O O) Vj) ?_;iterate 6 refine A1 O ?_
      refine AW.cond O (λhc=>absurd hc Vj) (λhc=>?_);exact Q3<|Z2 O<|⟨(j+1,fs,lb,k5),Q5 (aS O) (aO O) O O,⟨Vl,dd hfs,z⟩,Vl⟩
   .have hKb:(K==2)=S1:=by simpa using hK
    refine Z2 O<|Rs O (XJ.cast (v':= .pv (.bool S1)) (aC O O O) (by rw[hKb])) ?_;iterate 11 refine A1 O ?_
    refine AW.cond O (λhc=>absurd hc Vj) (λhc=>?_);refine Z2 O<|Rs O (XJ.cast (v':= .pv (.bool S1)) (aC O O O) (by rw[hKb])) ?_;iterate 6 refine A1 O ?_
    refine AW.cond O (λhc=>absurd hc Vj) (λhc=>?_);by_cases hK3:K=3
    .subst hK3;refine Z2 O<|Rs O (XJ.cast (v':= .pv (.bool Sm)) (aC O O O) Vj)<|Y2 O<|Rg O (bS call12 (gG L k3 4 D hk3 Vf Vf) O O)<|Y3 O<|AW.jT O (λhc=>?_) (λhc=>?_)
     .refine Gr O ?_;iterate 8 refine A1 O ?_
      exact Z2 O<|⟨(j+1,fs++[((j:Int),2,0)],lb,sNk L k3),Q6 [0,1,5] (aT O) ⟨O,O,by simp only[IS,RD];rfl,ag (λc=>Sh (Ob.gro 164 c)) (j4 fs ((j:Int),2,0)).symm,Vm⟩ O O Vj O,⟨Vl,iZ hfs Vf (.inr ⟨O,B,O⟩),gQ hk3⟩,Vl⟩
     .exact Q3<|Z2 O<|⟨(j+1,fs,lb,sNk L k3),Q5 (aS O) (aO O) O O,⟨Vl,dd hfs,gQ hk3⟩,Vl⟩
    .have hKb3:(K==3)=S1:=by simpa using hK3
     refine Z2 O<|Rs O (XJ.cast (v':= .pv (.bool S1)) (aC O O O) (by rw[hKb3])) ?_;iterate 6 refine A1 O ?_
     refine AW.cond O (λhc=>absurd hc Vj) (λhc=>?_);exact Q3<|Z2 O<|⟨(j+1,fs,lb,k3),Q5 (aS O) (aO O) O O,⟨Vl,dd hfs,hk3⟩,Vl⟩
  .obtain rfl:j=at'.length:=Vf;refine AW.exit<|Z4 O<|AW.jT O (λhc=>absurd hc Vf) (λhc=>?_);exact Q3<|Q4 (Q8 2 O O)<|Z2 O<|AW.ret<|⟨0,_,schC ⟨at',rs,fs,lb⟩,ig L k3,O,O,O,O,O,⟨⟨at',rs,fs,lb⟩,⟨X,J,Vl,Vl,hhead.1,hhead.2.1,hhead.2.2.1,hfs⟩,O⟩,k3,hk3,O⟩
end
theorem ibT(h:(a==b)=Sm):a=b:=S0.1 h
theorem ibF(h:(a==b)=S1):¬a=b:=λe=>by rw[S0.2 e]at h;cases h
theorem inT(h:(a !=b)=Sm):¬a=b:=bne_iff_ne.1 h
theorem inF(h:(a !=b)=S1):a=b:=by
 by_cases e:a=b
 .exact e
 .rw[bne_iff_ne.2 e]at h;cases h
theorem zS(l:List Int)(x:Int)(D:l.length<=1000000000):FnP prog 185 [aj l,.int .i64 x] (λv=>∃i:Int,v= .int .i64 i/\(0<=i↔x∈l)/\ -1<=i/\i<1000000001):=by
 refine FnP.of func185 O ntmps185 Vj λm0 w0 F R0=>?_
 refine Z1 O<|Z3 O<|Gl O (st:=λVn:Nat=>mkS [(0,.pv (aj l)),(1,pIi x),(7,pIi l.length),(8,pIi Vn)] [] 0)
  (I:=λVn=>Vn<=l.length/\¬x∈l.take Vn) (μ:=λVn=>l.length-Vn) (x0:=(0)) (Q5 (aS O) trivial O O) Vj ?_
 rintro k ⟨hk,hno⟩;refine Z1 O<|Gp O (λz=>?_) (λz=>?_)
 .have hlt:k<l.length:=Vf;have B:=aX hlt;have A:=aD hlt;refine Q3<|Z2 O<|Z4 O ?_;first|refine A2 O Vi ?_|refine A1 O ?_
  refine A1 O<|Gc O (λu=>?_) (λu=>?_)
  .have hx:l[k]=x:=(ibT u).symm;exact Z2 O<|Gt O<|⟨_,_,O,O,_,O,⟨λ_=>hx▸au hlt,λ_=>by omega⟩,Vf,Vf⟩
  .exact Q3<|Z2 O<|⟨(k+1),Q5 (aS O) trivial O O,⟨Vf,fL hlt hno (λe=>ibF u e.symm)⟩,Vf⟩
 .exact Gx O<|Z1 O<|Gt O<|⟨_,_,O,O,_,O,⟨λh=>absurd h Vh,λh=>absurd (by rwa [aQ Vf]) hno⟩,Vf,Vf⟩
theorem tB(l:List Int)(x:Int)(u:l.length<=1000000000):FnP prog 321 [aj l,.int .i64 x] (· = .bool (decide (x∈l))):=by
 refine FnP.of func321 O ntmps321 Vj λm0 w0 F R0=>?_
 refine Z1 O<|Z2 O<|RL.call O (eW call185 (zS l x u) O ?_);rintro _ ⟨i,rfl,hi,_,_⟩;exact Y2 O<|Gt O<|⟨_,_,O,O,ag PV.bool (U3.2 hi)⟩
section
open Mk
abbrev bD(l:List ByteArray):List PV:=l.map .str
abbrev a7(l:List ByteArray):PV:= .sl Sl l.length (bD l)
theorem bE{l:List ByteArray}(h:k<l.length):(bD l)[k*1]? =Sh (.str l[k]):=by simp[h]
theorem bA{l:List ByteArray}(h:k<l.length):bD l≠[]:=by intro e;simp at e;subst e;simp at h
theorem fP{l:List α}{x:α}(z:k<l.length)(h:¬x∈l.take k)(u:¬l[k]=x):¬x∈l.take (k+1):=by
 rw[AI z];simp only[Rx,Rn];rintro(h'|h')
 .exact h h'
 .exact u h'.symm
theorem bytes_inj{a b:ByteArray}(h:a.toList=b.toList):a=b:=by
 rw[ByteArray.toList_eq,ByteArray.toList_eq]at h;exact ByteArray.ext (Array.toList_inj.1 h)
theorem baT{a b:ByteArray}(h:(a.toList==b.toList)=Sm):a=b:=bytes_inj (S0.1 h)
theorem baF{a b:ByteArray}(h:(a.toList==b.toList)=S1):¬a=b:=by
 rintro rfl;simp at h
theorem FH(l:List ByteArray)(x:ByteArray)(D:l.length<=1000000000):FnP prog 409 [a7 l,.str x] (λv=>∃i:Int,v= .int .i64 i/\(0<=i↔x∈l)/\ -1<=i/\i<1000000001):=by
 refine FnP.of func409 O ntmps409 Vj λm0 w0 F R0=>?_
 refine Z1 O<|Z3 O<|Gl O (st:=λVn:Nat=>mkS [(0,.pv (a7 l)),(1,.pv (.str x)),(7,pIi l.length),(8,pIi Vn)] [] 0)
  (I:=λVn=>Vn<=l.length/\¬x∈l.take Vn) (μ:=λVn=>l.length-Vn) (x0:=(0)) (Q5 (aS O) trivial O O) Vj ?_
 rintro k ⟨hk,hno⟩;refine Z1 O<|Gp O (λz=>?_) (λz=>?_)
 .have hlt:k<l.length:=Vf;have B:=bE hlt;have A:=bA hlt;refine Q3<|Z2 O<|Z4 O ?_;first|refine A2 O Vi ?_|refine A1 O ?_
  refine A1 O<|Gc O (λu=>?_) (λu=>?_)
  .have hx:l[k]=x:=(baT u).symm;exact Z2 O<|Gt O<|⟨_,_,O,O,_,O,⟨λ_=>hx▸au hlt,λ_=>by omega⟩,Vf,Vf⟩
  .exact Q3<|Z2 O<|⟨(k+1),Q5 (aS O) trivial O O,⟨Vf,fP hlt hno (λe=>baF u e.symm)⟩,Vf⟩
 .exact Gx O<|Z1 O<|Gt O<|⟨_,_,O,O,_,O,⟨λh=>absurd h Vh,λh=>absurd (by rwa [aQ Vf]) hno⟩,Vf,Vf⟩
theorem qa(l:List ByteArray)(x:ByteArray)(u:l.length<=1000000000):FnP prog 373 [a7 l,.str x] (· = .bool (hasB l x)):=by
 refine FnP.of func373 O ntmps373 Vj λm0 w0 F R0=>?_
 refine Z1 O<|Z2 O<|RL.call O (eW call409 (FH l x u) O ?_);rintro _ ⟨i,rfl,hi,_,_⟩;exact Y2 O<|Gt O<|⟨_,_,O,O,ag PV.bool (U3.2 hi)⟩
abbrev cj(l:List Bool):List PV:=l.map .bool
abbrev kO(l:List Bool):PV:= .sl Sl l.length (cj l)
theorem FA{l:List Bool}(h:k<l.length):(cj l)[k*1]? =Sh (.bool l[k]):=by simp[h]
theorem vC{l:List Bool}(h:k<l.length):cj l≠[]:=by intro e;simp at e;subst e;simp at h
theorem HA(l:List Bool)(x:Bool)(D:l.length<=1000000000):FnP prog 374 [kO l,.bool x] (λv=>∃i:Int,v= .int .i64 i/\(0<=i↔x∈l)/\ -1<=i/\i<1000000001):=by
 refine FnP.of func374 O ntmps374 Vj λm0 w0 F R0=>?_
 refine Z1 O<|Z3 O<|Gl O (st:=λVn:Nat=>mkS [(0,.pv (kO l)),(1,.pv (.bool x)),(7,pIi l.length),(8,pIi Vn)] [] 0)
  (I:=λVn=>Vn<=l.length/\¬x∈l.take Vn) (μ:=λVn=>l.length-Vn) (x0:=(0)) (Q5 (aS O) trivial O O) Vj ?_
 rintro k ⟨hk,hno⟩;refine Z1 O<|Gp O (λz=>?_) (λz=>?_)
 .have hlt:k<l.length:=Vf;have B:=FA hlt;have A:=vC hlt;refine Q3<|Z2 O<|Z4 O ?_;first|refine A2 O Vi ?_|refine A1 O ?_
  refine A1 O<|Gc O (λu=>?_) (λu=>?_)
  .have hx:l[k]=x:=(S0.1 u).symm;exact Z2 O<|Gt O<|⟨_,_,O,O,_,O,⟨λ_=>hx▸au hlt,λ_=>by omega⟩,Vf,Vf⟩
  .exact Q3<|Z2 O<|⟨(k+1),Q5 (aS O) trivial O O,⟨Vf,fP hlt hno (λe=>SL.1 u e.symm)⟩,Vf⟩
 .exact Gx O<|Z1 O<|Gt O<|⟨_,_,O,O,_,O,⟨λh=>absurd h Vh,λh=>absurd (by rwa [aQ Vf]) hno⟩,Vf,Vf⟩
theorem p9(l:List Bool)(x:Bool)(u:l.length<=1000000000):FnP prog 318 [kO l,.bool x] (· = .bool (decide (x∈l))):=by
 refine FnP.of func318 O ntmps318 Vj λm0 w0 F R0=>?_
 refine Z1 O<|Z2 O<|RL.call O (eW call374 (HA l x u) O ?_);rintro _ ⟨i,rfl,hi,_,_⟩;exact Y2 O<|Gt O<|⟨_,_,O,O,ag PV.bool (U3.2 hi)⟩
theorem oD{l:List UInt8}(h:k<l.length):(aF l)[k*1]? =Sh (.int .u8 (l[k].toNat:Int)):=by simp[aF,h]
theorem nK{l:List UInt8}(h:k<l.length):aF l≠[]:=by intro e;simp[aF]at e;subst e;simp at h
def DF(k:Nat)(c:UInt8):Bool:= !(decide ((97:Int)<=c.toNat)&&decide ((c.toNat:Int)<=122))&&(((k:Int)==0)||(((c.toNat:Int) !=45)&&(decide ((c.toNat:Int)<48)||decide ((57:Int)<c.toNat))))
theorem Ah(k:Nat)(c:UInt8):DF k c= !pW k c.toNat:=by
 unfold DF pW;generalize c.toNat=n;have z:((k:Int)==0)= !decide (k≠0):=by
  by_cases h:k=0
  .subst h;rfl
  .have:((k:Int)==0)=S1:=by rw[SL];omega
   rw[this];simp[h]
 have A:((n:Int) !=45)= !(n==45):=by
  by_cases h:n=45
  .subst h;rfl
  .have u:(n:Int)≠45:=Vf;rw[bne_iff_ne.2 u,SL.2 h];rfl
 have u:(decide ((97:Int)<=n)&&decide ((n:Int)<=122))=decide (97<=n/\n<=122):=by
  rw[RJ];simp;omega
 have B:(decide ((n:Int)<48)||decide ((57:Int)<n))= !decide (48<=n/\n<=57):=by
  rw[RJ];simp;omega
 rw[z,A,u,B];cases decide (97<=n/\n<=122)<;>cases decide (k≠0)<;>cases (n==45)<;>cases decide (48<=n/\n<=57)<;>rfl
theorem Vp(h:p:=by first|exact ah.le|exact ah.aw|exact Rb):p:=h
theorem vX(s:ByteArray)(H:s.size<=9223372036854775807):FnP prog 267 [.str s] (· = .bool (gL s)):=by
 refine FnP.of func267 O ntmps267 Vj λm0 w0 F R0=>?_
 have B:s.data.toList.length=s.size:=RE;refine Z1 O<|Z4 O<|Gl O (st:=λVn:Nat=>mkS [(0,.pv (.str s)),(7,.pv (.sl (Sh S1) s.data.toList.length (aF s.data.toList))),(8,pIi s.data.toList.length),(9,pIi Vn)] [] 0)
  (I:=λVn=>Vn<=s.data.toList.length/\∀j,j<Vn->pW j (s.data.toList.getD j 0).toNat=Sm) (μ:=λVn=>s.data.toList.length-Vn) (x0:=(0)) (Q5 (aS O) trivial O O) (⟨cd _,λj hj=>absurd hj (Tu _)⟩) ?_
 rintro k ⟨hk,hall⟩;refine Z1 O<|Gp O (λA=>?_) (λA=>?_)
 .have hlt:k<s.data.toList.length:=Vf;have E:=oD hlt;have D:=nK hlt;have z:s.data.toList.getD k 0=s.data.toList[k]:=by rw[Rj,Hj hlt];rfl
  refine Q3<|Z2 O ?_;first|refine A2 O Vi ?_|refine A1 O ?_
  refine Y2 O ?_;generalize s.data.toList[k]=c at z ⊢;refine Z3 O ?_;apply Rf 3 16 19 [17,18] O Vp
  .intro hb2;exact Y3 O<|Q7 Vo O O O
  .intro hb2;exact Y3 O<|Q7 Vo O O O
  refine A1 O<|Z3 O ?_;apply Rf 15 22 37 [23,24,25,26,27,28,29,30,31,32,33,34,35,36] O Vp
  .intro hb2;refine Y3 O ?_;apply Re 11 25 36 [26,27,28,29,30,31,32,33,34,35] O Vp
   .intro hb5;iterate 11 refine A1 O ?_
    exact Q7 Vo O O O
   .intro hb5;refine Y3 O ?_;apply Rf 7 28 35 [29,30,31,32,33,34] O Vp
    .intro hb8;refine Y3 O ?_;apply Re 3 31 34 [32,33] O Vp
     .intro hb11;exact Y3 O<|Q7 Vo O O O
     .intro hb11;exact Y3 O<|Q7 Vo O O O
     exact A1 O<|Q7 Vo O O O
    .intro hb8;iterate 7 refine A1 O ?_
     exact Q7 Vo O O O
    exact A1 O<|Q7 Vo O O O
   exact A1 O<|Q7 Vo O O O
  .intro hb2;iterate 15 refine A1 O ?_
   exact Q7 Vo O O O
  have G:_=Sm\/_=S1:=Bool.eq_false_or_eq_true (DF k c);refine Gc O (λu=>?_) (λu=>?_)
  .have hc:DF k c=Sm:=u;exact Z1 O<|Gt O<|⟨_,_,O,O,ag PV.bool (xH s k Vf (by rw[z];rw[Ah]at hc;simpa using hc)).symm⟩
  .have hc:DF k c=S1:=u;exact Q3<|Z2 O<|⟨(k+1),Q5 (aS O) trivial O O,⟨Vf,λj hj=>by rcases SP.1 hj with h|rfl;exact hall j h;rw[z];rw[Ah]at hc;simpa using hc⟩,Vf⟩
 .refine Gx O<|Z4 O ?_;apply Rf 4 42 46 [43,44,45] O Vp
  .intro hb3;iterate 4 refine A1 O ?_
   exact Q7 Vo O O O
  .intro hb3;iterate 4 refine A1 O ?_
   exact Q7 Vo O O O
  exact A1 O<|Gt O<|⟨_,_,O,O,ag PV.bool (by rw[yD s (λj hj=>hall j Vf)];rw[RJ];simp;omega)⟩
end
end Go.Proofs.YtoplpepiabedhaaGreatDoor
