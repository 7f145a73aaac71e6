/- Lemmas. No condition. -/
import Derived.Test.YtkkenamefaegfaaGreatDoorJE3
set_option maxRecDepth 100000
set_option maxHeartbeats 4000000
open Go.RowKit Go.Proofs.Tryz
open Option renaming some→UF,none→UG
open Bool renaming true→VA,false→VC
namespace Go.Proofs.YtkkenamefaegfaaGreatDoor
variable{p:Prop}{n x b j k i m most a c d:Nat}{o:Operand}{y:Code}{X α β:Type}{t:Tmp}{want:Bool}{ρ g:Nat->Nat}{rd:List Nat}{l r q:List Int}{f:Nat->Int}{lb:Int}
theorem JD{α β:Type _}{a c:α}{b d:β}(h:(a,b)=(c,d)):a=c/\b=d:=Prod.mk.inj h
section
abbrev pIi(i:Int):V:=.pv (.int .i64 i)
abbrev Xw:TI:=⟨.other,1,8,UF [.nilfn]⟩
abbrev UE:PV:= .sl (UF VA) 0 []
abbrev UC(n:Nat):TI:=⟨.sl n,1,24,UF [UE]⟩
abbrev UD(n:Nat)(x:TI):TT:= .node n x .nil .nil
def tb:TT:=
 .node 148 ⟨(.st [(0,2),(2,1)]),3,40,UF [(.int .i64 0),(.str ⟨#[]⟩),(.str ⟨#[]⟩)]⟩ (.node 55 ⟨(.st [(0,1),(1,3)]),4,88,UF [UE,(.str ⟨#[]⟩),UE,UE]⟩ (.node 28 (UC 83) (.node 8 ⟨(.st [(0,1),(1,1),(2,1),(3,1)]),4,24,UF [(.int .i64 0),(.int .i64 0),(.bool VC),(.int .u8 0)]⟩ (.node 4 ⟨.bool,1,1,UF [(.bool VC)]⟩ (.node 2 ⟨(.int .i64),1,8,UF [(.int .i64 0)]⟩ (UD 1 Xw) (UD 3 ⟨(.int .i64),1,8,UF [(.int .i64 0)]⟩)) (.node 6 ⟨(.int .u8),1,1,UF [(.int .u8 0)]⟩ (UD 5 ⟨(.int .u8),1,1,UF [(.int .u8 0)]⟩) (UD 7 ⟨(.st [(0,1),(1,1),(2,1),(3,1)]),4,24,UF [(.int .i64 0),(.int .i64 0),(.bool VC),(.int .u8 0)]⟩))) (.node 22 (UC 3) (.node 20 ⟨.other,1,16,UF [.niliface]⟩ (UD 9 ⟨.str,1,16,UF [(.str ⟨#[]⟩)]⟩) (UD 21 ⟨(.int .i32),1,4,UF [(.int .i32 0)]⟩)) (.node 26 (UC 81) (UD 24 ⟨.other,1,8,UF [.nilptr]⟩) (UD 27 (UC 33))))) (.node 42 (UC 148) (.node 37 (UC 57) (.node 33 ⟨(.st [(0,1),(1,1)]),2,40,UF [(.str ⟨#[]⟩),UE]⟩ (UD 30 ⟨(.st [(0,1),(1,1),(2,1),(3,1)]),4,80,UF [UE,UE,UE,(.int .i64 0)]⟩) (UD 35 ⟨(.st [(0,1)]),1,24,UF [UE]⟩)) (.node 40 (UC 52) (UD 38 (UC 57)) (UD 41 ⟨.str,1,16,UF [(.str ⟨#[]⟩)]⟩))) (.node 48 ⟨(.int .i64),1,8,UF [(.int .i64 0)]⟩ (.node 45 ⟨(.st [(0,1),(1,1),(2,1)]),3,64,UF [(.str ⟨#[]⟩),UE,UE]⟩ (UD 43 (UC 150)) (UD 47 ⟨(.st [(0,1),(1,3)]),4,88,UF [UE,(.str ⟨#[]⟩),UE,UE]⟩)) (.node 53 (UC 9) (UD 52 (UC 55)) .nil)))) (.node 105 (UC 261) (.node 90 ⟨(.st [(0,1),(1,1),(2,1),(3,1)]),4,96,UF [UE,UE,UE,UE]⟩ (.node 81 ⟨(.st [(0,1),(1,1)]),2,24,UF [(.str ⟨#[]⟩),(.int .i64 0)]⟩ (.node 59 ⟨(.st [(0,1),(1,1)]),2,32,UF [UE,(.int .i64 0)]⟩ (UD 57 (UC 59)) (UD 75 ⟨(.st [(0,1),(1,1)]),2,32,UF [UE,(.int .i64 0)]⟩)) (.node 87 ⟨.other,1,8,UF [.nilptr]⟩ (UD 83 ⟨(.st [(0,1),(1,1),(2,1)]),3,24,UF [(.int .i64 0),(.int .i64 0),(.int .i64 0)]⟩) (UD 88 (UC 22)))) (.node 97 Xw (.node 94 ⟨(.st [(0,4),(4,4),(8,1),(9,1),(10,1)]),11,232,UF [UE,UE,UE,(.int .i64 0),UE,UE,UE,UE,UE,UE,(.int .i64 0)]⟩ (UD 92 (UC 103)) (UD 96 Xw)) (.node 101 ⟨.other,1,8,UF [.nilmap]⟩ (UD 100 ⟨.other,1,8,UF [.nilmap]⟩) (UD 103 ⟨(.st [(0,1),(1,1)]),2,16,UF [.nilmap,.nilmap]⟩)))) (.node 129 Xw (.node 111 ⟨.other,1,8,UF [.nilmap]⟩ (.node 109 ⟨(.st [(0,2),(2,2)]),4,64,UF [(.bool VC),UE,(.bool VC),UE]⟩ (UD 107 ⟨(.st [(0,1),(1,1)]),2,32,UF [(.bool VC),UE]⟩) (UD 110 ⟨.other,1,8,UF [.nilmap]⟩)) (.node 117 Xw (UD 113 ⟨(.st [(0,4),(4,1),(5,1)]),6,80,UF [(.bool VC),UE,(.bool VC),UE,.nilmap,.nilmap]⟩) (UD 127 ⟨.str,1,16,UF [(.str ⟨#[]⟩)]⟩))) (.node 136 ⟨.other,1,8,UF [.nilmap]⟩ (.node 134 ⟨(.st [(0,2),(2,2)]),4,64,UF [(.bool VC),UE,(.bool VC),UE]⟩ (UD 132 ⟨(.st [(0,1),(1,1)]),2,32,UF [(.bool VC),UE]⟩) (UD 135 ⟨.other,1,8,UF [.nilmap]⟩)) (.node 146 ⟨(.st [(0,1),(1,1)]),2,24,UF [(.int .i64 0),(.str ⟨#[]⟩)]⟩ (UD 138 ⟨(.st [(0,4),(4,1),(5,1)]),6,80,UF [(.bool VC),UE,(.bool VC),UE,.nilmap,.nilmap]⟩) .nil))))) (.node 239 Xw (.node 189 (UC 146) (.node 171 (UC 181) (.node 163 Xw (.node 155 (UC 5) (UD 150 ⟨(.st [(0,2),(2,2),(4,1)]),5,64,UF [(.int .i64 0),(.str ⟨#[]⟩),(.int .i64 0),(.str ⟨#[]⟩),(.str ⟨#[]⟩)]⟩) (UD 161 (UC 165))) (.node 165 ⟨(.int .u64),1,8,UF [(.int .u64 0)]⟩ (UD 164 ⟨(.int .u64),1,8,UF [(.int .u64 0)]⟩) (UD 170 Xw))) (.node 179 (UC 183) (.node 174 (UC 4) (UD 173 Xw) (UD 176 ⟨(.st [(0,1),(1,1)]),2,48,UF [UE,UE]⟩)) (.node 183 ⟨(.st [(0,1),(1,6)]),7,104,UF [UE,(.bool VC),UE,(.bool VC),UE,.nilmap,.nilmap]⟩ (UD 181 ⟨(.st [(0,1),(1,1)]),2,48,UF [UE,UE]⟩) (UD 188 Xw)))) (.node 202 Xw (.node 195 (UC 198) (.node 192 Xw (UD 191 Xw) (UD 194 Xw)) (.node 199 Xw (UD 198 ⟨(.st [(0,2),(2,2)]),4,48,UF [(.int .i64 0),(.str ⟨#[]⟩),(.int .i64 0),(.str ⟨#[]⟩)]⟩) (UD 200 Xw))) (.node 229 Xw (.node 226 ⟨(.arr 2 146),4,48,UF [(.int .i64 0),(.str ⟨#[]⟩),(.int .i64 0),(.str ⟨#[]⟩)]⟩ (UD 215 Xw) (UD 227 Xw)) (.node 235 (UC 48) (UD 232 Xw) .nil)))) (.node 309 ⟨(.int .u64),1,8,UF [(.int .u64 0)]⟩ (.node 286 Xw (.node 261 ⟨(.int .u64),1,8,UF [(.int .u64 0)]⟩ (.node 252 ⟨(.int .i64),1,8,UF [(.int .i64 0)]⟩ (UD 250 Xw) (UD 259 ⟨(.int .u32),1,4,UF [(.int .u32 0)]⟩)) (.node 280 (UC 129) (UD 264 ⟨.other,1,8,UF [.nilptr]⟩) (UD 284 Xw))) (.node 296 ⟨.other,1,8,UF [.nilptr]⟩ (.node 293 Xw (UD 288 Xw) (UD 294 Xw)) (.node 301 ⟨.other,1,16,UF [.niliface]⟩ (UD 298 ⟨(.st [(0,1),(1,1)]),2,32,UF [.nilptr,UE]⟩) .nil))) (.node 397 ⟨(.arr 20 261),20,160,UF (List.replicate 20 (.int .u64 0))⟩ (.node 366 ⟨.other,1,8,UF [.nilptr]⟩ (.node 341 ⟨.other,1,8,UF [.nilptr]⟩ (UD 313 ⟨.other,1,8,UF [.nilptr]⟩) (UD 352 ⟨.other,1,8,UF [.nilptr]⟩)) (.node 385 ⟨(.int .i64),1,8,UF [(.int .i64 0)]⟩ (UD 370 ⟨(.arr 24 5),24,24,UF (List.replicate 24 (.int .u8 0))⟩) (UD 387 ⟨.other,1,8,UF [.nilptr]⟩))) (.node 414 ⟨(.st [(0,1)]),1,16,UF [(.str ⟨#[]⟩)]⟩ (.node 408 ⟨(.st [(0,1),(1,1),(2,1)]),3,48,UF [(.str ⟨#[]⟩),(.str ⟨#[]⟩),.niliface]⟩ (UD 398 ⟨(.arr 65 5),65,65,UG⟩) (UD 412 ⟨.other,1,8,UF [.nilptr]⟩)) (.node 417 ⟨(.arr 64 5),64,64,UG⟩ (UD 416 ⟨(.arr 32 5),32,32,UF (List.replicate 32 (.int .u8 0))⟩) .nil)))))
theorem yk:tb.Ok prog:=TT.ok_of Xk
theorem UA(h:p:=by first|exact trivial|omega|exact⟨Xj,by first|assumption|(simp;done)⟩|exact⟨by first|assumption|(simp;done),Xj⟩|(simp;done)|exact⟨by first|omega|decide,by first|omega|assumption⟩|(simp;omega)):p:=h
section
variable {m0:Gm}{w0:World}{F:Nat->Prop}{R0:RT w0 F}{n:Nat}{σ:St}{ops:Array Oper}{o:Oper}{os:List Oper}{K:St->Prop}{d:Option Tmp}{s:OS}{rd:List Nat}{φ:Prop}{cs:List PV}{off sz:Nat}{p:PV}{vs:List PV}{cl:List (List Nat)}{i:Nat}{is:List Nat}{acc:List It}
theorem A1(h:eP tb ops n σ o=UF (d,⟨s,rd,φ⟩))(k:RL ⟨prog,m0,w0,F,R0⟩ n ops os K (σ.app d s))(u:φ:=by exact UA):RL ⟨prog,m0,w0,F,R0⟩ n ops (o::os) K σ:=RL.auto yk h k u
theorem A2(h:MJ tb ops n σ o=UF (d,cs,off,rd))(u:cs[off]? =UF p)(k:RL ⟨prog,m0,w0,F,R0⟩ n ops os K (σ.app d ⟨.pv p,[],[]⟩)):RL ⟨prog,m0,w0,F,R0⟩ n ops (o::os) K σ:=
 have ⟨h1,h2,h3⟩:=sS yk h u
 RL.with h1 h2 (h3 σ (λ_ _=>rfl) (λ_ _=>rfl)) k
theorem A3(h:LO tb ops n σ o=UF (d,cs,off,sz,rd))(u:(cs.drop off).take sz=vs)(k:RL ⟨prog,m0,w0,F,R0⟩ n ops os K (σ.app d ⟨.pv (.agg vs),[],[]⟩))(z:vs.length=sz:=by rfl):RL ⟨prog,m0,w0,F,R0⟩ n ops (o::os) K σ:=
 have ⟨h1,h2,h3⟩:=sg yk h u z
 RL.with h1 h2 (h3 σ (λ_ _=>rfl) (λ_ _=>rfl)) k
theorem D1(u:(ops[i]?,eP tb ops n σ o)=(UF o,UF (d,⟨s,rd,φ⟩)))(k:DL ⟨prog,m0,w0,F,R0⟩ n ops cl is (⟨i,o,s,s.wr.map (·.1),s.nw,rd⟩::acc) K (σ.app d s))(hc:gW ops n cl ⟨i,o,s,s.wr.map (·.1),s.nw,rd⟩ acc=VA:=by kernel_rfl)(hφ:φ:=by exact UA):DL ⟨prog,m0,w0,F,R0⟩ n ops cl (i::is) acc K σ:=have ⟨u,h⟩:=JD u;DL.auto yk u h k hφ hc
theorem D2(u:ops[i]? =UF o)(h:MJ tb ops n σ o=UF (d,cs,off,rd))(z:cs[off]? =UF p)(k:DL ⟨prog,m0,w0,F,R0⟩ n ops cl is (⟨i,o,⟨.pv p,[],[]⟩,[],[],rd⟩::acc) K (σ.app d ⟨.pv p,[],[]⟩))(hc:gW ops n cl ⟨i,o,⟨.pv p,[],[]⟩,[],[],rd⟩ acc=VA:=by kernel_rfl):
  DL ⟨prog,m0,w0,F,R0⟩ n ops cl (i::is) acc K σ:=
 have ⟨h1,h2,h3⟩:=sS yk h z
 DL.with rd u h1 h2 (λτ ha=>h3 τ (SF ha) (Sd ha)) k hc
theorem D3(u:ops[i]? =UF o)(h:LO tb ops n σ o=UF (d,cs,off,sz,rd))(z:(cs.drop off).take sz=vs)(k:DL ⟨prog,m0,w0,F,R0⟩ n ops cl is (⟨i,o,⟨.pv (.agg vs),[],[]⟩,[],[],rd⟩::acc) K (σ.app d ⟨.pv (.agg vs),[],[]⟩))(A:vs.length=sz:=by rfl)
  (hc:gW ops n cl ⟨i,o,⟨.pv (.agg vs),[],[]⟩,[],[],rd⟩ acc=VA:=by kernel_rfl):DL ⟨prog,m0,w0,F,R0⟩ n ops cl (i::is) acc K σ:=
 have ⟨h1,h2,h3⟩:=sg yk h z A
 DL.with rd u h1 h2 (λτ ha=>h3 τ (SF ha) (Sd ha)) k hc
end
end
section
def jx(C:Ctx)(n:Nat):Code->(Exit->St->Prop)->Code×(Exit->St->Prop)
 | .seq x y,Q=>jx C n x (Db (AW C n y Q) Q)
 | .block id x,Q=>jx C n x (ya id Q)
 |c,Q=>(c,Q)
theorem eK{C:Ctx}{σ:St}:∀(c:Code)(Q:Exit->St->Prop),AW C n (jx C n c Q).1 (jx C n c Q).2 σ->AW C n c Q σ
 | .seq x y,Q,h=>Tv (eK x _ h)
 | .block _ x,Q,h=>AW.block (eK x _ h)
 | .skip,_,h=>h
 | .region ..,_,h=>h
 | .cond ..,_,h=>h
 | .loop ..,_,h=>h
 | .rangeFunc ..,_,h=>h
 | .exit ..,_,h=>h
 | .scope ..,_,h=>h
 | .label ..,_,h=>h
 | .goto ..,_,h=>h
 | .ret,_,h=>h
 | .refuse ..,_,h=>h
section
variable {C:Ctx}{n:Nat}{c:Code}{Q Q':Exit->St->Prop}{σ:St}{id:Nat}{ops:Array Oper}
theorem Gr(h:jx C n c Q=(.region id ops VC,Q'))(k:RL C n ops ops.toList (Q' .normal) σ):AW C n c Q σ:=
 eK c Q (h▸AW.region k)
theorem Gt(h:jx C n c Q=(.ret,Q'))(k:Q' .ret σ):AW C n c Q σ:=eK c Q (h▸AW.ret k)
theorem VF{α β:Type}{r:Option α}{s:α->Option β}{q:α->β->Prop}{v:α}{w:β}(h:(jx C n c Q,Q' .ret σ,r,s v)=((.ret,Q'),(∃a b,r=UF a∧s a=UF b∧q a b),UF v,UF w))(k:q v w):AW C n c Q σ:=have ⟨h,e⟩:=JD h;have ⟨e,f⟩:=JD e;have ⟨f,g⟩:=JD f;Gt h (e▸⟨_,_,f,g,k⟩)
theorem Gx(h:jx C n c Q=(.exit id,Q'))(k:Q' (.exit id) σ):AW C n c Q σ:=eK c Q (h▸AW.exit k)
theorem Gp{x:Code}[Decidable p](h:(jx C n c Q,σ.ev n o)=((.cond o x y,Q'),.pv (.bool (decide p))))(u:p->AW C n x Q' σ)(z:¬p->AW C n y Q' σ):AW C n c Q σ:=have ⟨h,hc⟩:=JD h;eK c Q (h▸AW.k8 hc u z)
theorem Gc{x:Code}{b:Bool}(h:(jx C n c Q,σ.ev n o)=((.cond o x y,Q'),.pv (.bool b)))(u:b=VA->AW C n x Q' σ)(z:b=VC->AW C n y Q' σ):AW C n c Q σ:=have ⟨h,hc⟩:=JD h;eK c Q (h▸AW.cond hc u z)
theorem Gl {b:Code}  (h:jx C n c Q=(.loop b,Q')) (st:X->St) (I:X->Prop) (μ:X->Nat) (x0:X) (u:σ.le (st x0)) (z:I x0)
  (round:∀x,I x->AW C n b (Db (λs=>∃x',s.le (st x')/\I x'/\μ x'<μ x) Q') (st x)):AW C n c Q σ:=eK c Q (h▸AW.loop st I μ x0 u z round)
def kS(σ:St)(q:List (Nat×Option V)×List (Nat×Option Ob))(k:Nat):St:=mkS (q.1.map λp=>(p.1,p.2.getD (σ.sl p.1))) (q.2.map λp=>(p.1,p.2.getD ((σ.ob p.1).getD (.gro 0 [])))) k
theorem Gz {b:Code}  (h:jx C n c Q=(.loop b,Q')) (st:X->List (Nat×Option V)×List (Nat×Option Ob)) (k:Nat) (I:X->Prop) (μ:X->Nat) (x0:X) (u:σ.le (kS σ (st x0) k)) (z:I x0)
  (round:∀x,I x->AW C n b (Db (λs=>∃x',s.le (kS σ (st x') k)/\I x'/\μ x'<μ x) Q') (kS σ (st x) k)):AW C n c Q σ:=eK c Q (h▸AW.loop (λx=>kS σ (st x) k) I μ x0 u z round)
theorem Gd(h:jx C n c Q=(.region id ops VA,Q'))(A:C.P.follows .mixedOrders=VA)(cl:List (List Nat))(is:List Nat)(z:Ki ops.toList []=cl)(u:jD 0 ops.toList=VA)(k:DL C n ops cl is [] (Q' .normal) σ):AW C n c Q σ:=
 eK c Q (h▸AW.draw A cl is z u k)
end
section
variable {m0:Gm}{w0:World}{F:Nat->Prop}{R0:RT w0 F}{n id:Nat}{σ:St}{c:Code}{Q Q':Exit->St->Prop}{ops:Array Oper}{o o1 o2 o3 o4:Oper}{os:List Oper}{K:St->Prop}{d d1 d2 d3 d4:Option Tmp}{s s1 s2 s3 s4:OS}{rd rd1 rd2 rd3 rd4:List Nat}{φ φ1 φ2 φ3 φ4:Prop}
theorem Y2(u:(eP tb ops n σ o1,eP tb ops n (σ.app d1 s1) o2)=(UF (d1,⟨s1,rd1,φ1⟩),UF (d2,⟨s2,rd2,φ2⟩)))(k:RL ⟨prog,m0,w0,F,R0⟩ n ops os K ((σ.app d1 s1).app d2 s2))(g1:φ1:=by exact UA)(g2:φ2:=by exact UA):RL ⟨prog,m0,w0,F,R0⟩ n ops (o1::o2::os) K σ:=have ⟨u,h2⟩:=JD u;(A1 u (A1 h2 k g2) g1)
theorem Y3(u:(eP tb ops n σ o1,eP tb ops n (σ.app d1 s1) o2,eP tb ops n ((σ.app d1 s1).app d2 s2) o3)=(UF (d1,⟨s1,rd1,φ1⟩),UF (d2,⟨s2,rd2,φ2⟩),UF (d3,⟨s3,rd3,φ3⟩)))(k:RL ⟨prog,m0,w0,F,R0⟩ n ops os K (((σ.app d1 s1).app d2 s2).app d3 s3))(g1:φ1:=by exact UA)(g2:φ2:=by exact UA)(g3:φ3:=by exact UA):RL ⟨prog,m0,w0,F,R0⟩ n ops (o1::o2::o3::os) K σ:=have ⟨u,q_⟩:=JD u;have ⟨h2,h3⟩:=JD q_;(A1 u (A1 h2 (A1 h3 k g3) g2) g1)
theorem Z1(h:(jx ⟨prog,m0,w0,F,R0⟩ n c Q,eP tb ⟨o1::os⟩ n σ o1)=((.region id ⟨o1::os⟩ VC,Q'),UF (d1,⟨s1,rd1,φ1⟩)))(k:RL ⟨prog,m0,w0,F,R0⟩ n ⟨o1::os⟩ os (Q' .normal) (σ.app d1 s1))(g1:φ1:=by exact UA):AW ⟨prog,m0,w0,F,R0⟩ n c Q σ:=have ⟨h,h1⟩:=JD h;Gr h (A1 h1 k g1)
theorem Z2(h:(jx ⟨prog,m0,w0,F,R0⟩ n c Q,eP tb ⟨o1::o2::os⟩ n σ o1,eP tb ⟨o1::o2::os⟩ n (σ.app d1 s1) o2)=((.region id ⟨o1::o2::os⟩ VC,Q'),UF (d1,⟨s1,rd1,φ1⟩),UF (d2,⟨s2,rd2,φ2⟩)))(k:RL ⟨prog,m0,w0,F,R0⟩ n ⟨o1::o2::os⟩ os (Q' .normal) ((σ.app d1 s1).app d2 s2))(g1:φ1:=by exact UA)(g2:φ2:=by exact UA):AW ⟨prog,m0,w0,F,R0⟩ n c Q σ:=have ⟨h,q_⟩:=JD h;have ⟨h1,h2⟩:=JD q_;Gr h (A1 h1 (A1 h2 k g2) g1)
theorem Z3(h:(jx ⟨prog,m0,w0,F,R0⟩ n c Q,eP tb ⟨o1::o2::o3::os⟩ n σ o1,eP tb ⟨o1::o2::o3::os⟩ n (σ.app d1 s1) o2,eP tb ⟨o1::o2::o3::os⟩ n ((σ.app d1 s1).app d2 s2) o3)=((.region id ⟨o1::o2::o3::os⟩ VC,Q'),UF (d1,⟨s1,rd1,φ1⟩),UF (d2,⟨s2,rd2,φ2⟩),UF (d3,⟨s3,rd3,φ3⟩)))(k:RL ⟨prog,m0,w0,F,R0⟩ n ⟨o1::o2::o3::os⟩ os (Q' .normal) (((σ.app d1 s1).app d2 s2).app d3 s3))(g1:φ1:=by exact UA)(g2:φ2:=by exact UA)(g3:φ3:=by exact UA):AW ⟨prog,m0,w0,F,R0⟩ n c Q σ:=have ⟨h,q_⟩:=JD h;have ⟨h1,q_⟩:=JD q_;have ⟨h2,h3⟩:=JD q_;Gr h (A1 h1 (A1 h2 (A1 h3 k g3) g2) g1)
theorem Z4(h:(jx ⟨prog,m0,w0,F,R0⟩ n c Q,eP tb ⟨o1::o2::o3::o4::os⟩ n σ o1,eP tb ⟨o1::o2::o3::o4::os⟩ n (σ.app d1 s1) o2,eP tb ⟨o1::o2::o3::o4::os⟩ n ((σ.app d1 s1).app d2 s2) o3,eP tb ⟨o1::o2::o3::o4::os⟩ n (((σ.app d1 s1).app d2 s2).app d3 s3) o4)=((.region id ⟨o1::o2::o3::o4::os⟩ VC,Q'),UF (d1,⟨s1,rd1,φ1⟩),UF (d2,⟨s2,rd2,φ2⟩),UF (d3,⟨s3,rd3,φ3⟩),UF (d4,⟨s4,rd4,φ4⟩)))(k:RL ⟨prog,m0,w0,F,R0⟩ n ⟨o1::o2::o3::o4::os⟩ os (Q' .normal) ((((σ.app d1 s1).app d2 s2).app d3 s3).app d4 s4))(g1:φ1:=by exact UA)(g2:φ2:=by exact UA)(g3:φ3:=by exact UA)(g4:φ4:=by exact UA):AW ⟨prog,m0,w0,F,R0⟩ n c Q σ:=have ⟨h,q_⟩:=JD h;have ⟨h1,q_⟩:=JD q_;have ⟨h2,q_⟩:=JD q_;have ⟨h3,h4⟩:=JD q_;Gr h (A1 h1 (A1 h2 (A1 h3 (A1 h4 k g4) g3) g2) g1)
end
section
variable {C:Ctx}{n i:Nat}{σ:St}{ops:Array Oper}{o:Oper}{os:List Oper}{K:St->Prop}{s:OS}{cl:List (List Nat)}{is:List Nat}{acc:List It}
theorem Rs(u:(o.guard,o.dst)=(UG,UF t))(z:XJ C n o σ s)(h:RL C n ops os K (σ.app (UF t) s)):RL C n ops (o::os) K σ:=have ⟨u,hd⟩:=JD u;RL.step u hd z h
theorem Rg(u:(o.guard,o.dst,σ.ev n (.tmp (((ops[j]?).bind (·.dst)).getD n)))=(UF (j,want),UF t,.pv (.bool want)))(z:XJ C n o σ s)(h:RL C n ops os K (σ.app (UF t) s)):RL C n ops (o::os) K σ:=have ⟨u,q_⟩:=JD u;have ⟨hd,hb⟩:=JD q_;RL.stepG u hd hb z h
theorem Ds(rd:List Nat)(u:(ops[i]?,o.guard,o.dst)=(UF o,UG,UF t))(z:∀ τ,Agr n ops o σ τ s rd->XJ C n o τ s)(A:s.nw.all σ.av=VA)(hc:gW ops n cl ⟨i,o,s,s.wr.map (·.1),s.nw,rd⟩ acc=VA)(h:DL C n ops cl is (⟨i,o,s,s.wr.map (·.1),s.nw,rd⟩::acc) K (σ.app (UF t) s)):DL C n ops cl (i::is) acc K σ:=have ⟨u,q_⟩:=JD u;have ⟨hg,hd⟩:=JD q_;DL.step rd u hg hd z A hc h
theorem TR(u:(ops[i]?,o.guard,o.dst)=(UF o,UG,UF t))(z:∀ τ,Agr n ops o σ τ s []->XJ C n o τ s)(h:DL C n ops cl is (⟨i,o,s,s.wr.map (·.1),s.nw,[]⟩::acc) K (σ.app (UF t) s))(A:s.nw.all σ.av=VA:=by rfl)(hc:gW ops n cl ⟨i,o,s,s.wr.map (·.1),s.nw,[]⟩ acc=VA:=by kernel_rfl):DL C n ops cl (i::is) acc K σ:=Ds [] u z A hc h
theorem VE(rd:List Nat)(u:(ops[i]?,o.guard,o.dst)=(UF o,UG,UF t))(z:∀ τ,Agr n ops o σ τ s rd->XJ C n o τ s)(h:DL C n ops cl is (⟨i,o,s,s.wr.map (·.1),s.nw,rd⟩::acc) K (σ.app (UF t) s))(A:s.nw.all σ.av=VA:=by rfl)(hc:gW ops n cl ⟨i,o,s,s.wr.map (·.1),s.nw,rd⟩ acc=VA:=by kernel_rfl):DL C n ops cl (i::is) acc K σ:=Ds rd u z A hc h
theorem Dg(rd:List Nat)(u:(ops[i]?,o.guard,o.dst,σ.ev n (.tmp (((ops[j]?).bind (·.dst)).getD n)))=(UF o,UF (j,want),UF t,.pv (.bool want)))(z:∀τ,Agr n ops o σ τ s rd->XJ C n o τ s)(A:s.nw.all σ.av=VA)(hc:gW ops n cl ⟨i,o,s,s.wr.map (·.1),s.nw,rd⟩ acc=VA)(h:DL C n ops cl is (⟨i,o,s,s.wr.map (·.1),s.nw,rd⟩::acc) K (σ.app (UF t) s)):DL C n ops cl (i::is) acc K σ:=have ⟨u,q_⟩:=JD u;have ⟨hg,q_⟩:=JD q_;have ⟨hd,hb⟩:=JD q_;DL.stepG rd u hg hd hb z A hc h
theorem aS:∀{l:List (Nat×V)},l.map (λp=>σ.sl p.1)=l.map (·.2)->Gn σ l
 |[],_=>trivial
 |_::_,h=>⟨(WU h).1,aS (WU h).2⟩
theorem aO:∀{l:List (Nat×Ob)},l.map (λp=>σ.ob p.1)=l.map (λp=>UF p.2)->IJ σ l
 |[],_=>trivial
 |_::_,h=>⟨(WU h).1,aO (WU h).2⟩
theorem WA{l:List (Nat×V)}{os:List (Nat×Ob)}{k:Nat}(h:(l.map (λp=>σ.sl p.1),os.map (λp=>σ.ob p.1),l.all (λp=>p.2.okA k),os.all (λp=>(Nat.blt p.1 k||Nat.ble big p.1)&&p.2.okA k))=(l.map (·.2),os.map (λp=>UF p.2),VA,VA)):σ.le (mkS l os k):=have ⟨a,h⟩:=JD h;have ⟨b,h⟩:=JD h;have ⟨c,d⟩:=JD h;Tk (aS a) (aO b) c d
theorem aT:∀{l:List (Nat×V)},l.map (λp=>σ.sl p.1)=l.map (λp=>p.2.ren ρ)->rY σ ρ l
 |[],_=>trivial
 |_::_,h=>⟨(WU h).1,aT (WU h).2⟩
theorem aP:∀{l:List (Nat×Ob)},l.map (λp=>σ.ob (ρ p.1))=l.map (λp=>UF (p.2.ren ρ))->gU σ ρ l
 |[],_=>trivial
 |_::_,h=>⟨(WU h).1,aP (WU h).2⟩
end
section
variable {C:Ctx}{n i:Nat}{σ τ:St}{ops:Array Oper}{o:Oper}{s:OS}{c:Code}{Q Q':Exit->St->Prop}{id:Nat}
theorem Ee(h:Agr n ops o σ τ s rd)(i:Nat){x:Operand}{v:V}(u:o.op.operands.toList[i]? =UF x)(z:σ.ev n x=v):τ.ev n x=v:=(h.e i x u).trans z
theorem Eo(h:Agr n ops o σ τ s rd)(i:Nat){id:Nat}{v:Option Ob}(u:rd[i]? =UF id)(z:σ.ob id=v):τ.ob id=v:=(h.o i id u).trans z
theorem Wk(l:List (Nat×V))(os:List (Nat×Ob))(k:Nat)(u:Gn σ l)(z:IJ σ os)(A:l.all (λp=>p.2.okA k)=VA)(B:os.all (λp=>(Nat.blt p.1 k||Nat.ble big p.1)&&p.2.okA k)=VA)(h:AW C n c Q (mkS l os k)):AW C n c Q σ:=
 Tj (Tk u z A B) h
theorem Ge(h:jx C n c Q=(.region id ops VA,Q'))(z:C.P.follows .mixedOrders=VA)(is:List Nat)(u:jD 0 ops.toList=VA)(k:DL C n ops (Ki ops.toList []) is [] (Q' .normal) σ):AW C n c Q σ:=
 Gd h z _ is O u k
theorem UB(m:Nat){m0:Gm}{w0:World}{F:Nat->Prop}{R0:RT w0 F}(h:jx ⟨prog,m0,w0,F,R0⟩ n c Q=(.region id ops VA,Q'))(k:DL ⟨prog,m0,w0,F,R0⟩ n ops (Ki ops.toList []) (List.range m) [] (Q' .normal) σ)(u:jD 0 ops.toList=VA:=by kernel_rfl):AW ⟨prog,m0,w0,F,R0⟩ n c Q σ:=Ge h follows (List.range m) u k
abbrev nS:PV:= .sl (UF VA) 0 []
end
def runA(ops:Array Oper)(n:Nat):Nat->St->List Oper->Option (St×List Oper×Prop)
 |0,σ,os=>UF (σ,os,True)
 |_+1,_,[]=>UG
 | k+1,σ,o::os=>match eP tb ops n σ o with
   | some (d,⟨s,_,φ⟩)=>match runA ops n k (σ.app d s) os with
     |some (τ,os',ψ)=>UF (τ,os',φ/\ψ)
     |none=>UG
   |none=>UG
def runD(ops:Array Oper)(n:Nat):Nat->St->List Nat->List It->Option (St×List Nat×List It×Prop)
 |0,σ,is,acc=>UF (σ,is,acc,True)
 |_+1,_,[],_=>UG
 | k+1,σ,i::is,acc=>match ops[i]? with
   | some o=>match eP tb ops n σ o with
     | some (d,⟨s,rd,φ⟩)=>match runD ops n k (σ.app d s) is (⟨i,o,s,s.wr.map (·.1),s.nw,rd⟩::acc)with
       |some (τ,is',acc',ψ)=>UF (τ,is',acc',φ/\ψ)
       |none=>UG
     |none=>UG
   |none=>UG
def okD(ops:Array Oper)(n:Nat)(cl:List (List Nat)):Nat->St->List Nat->List It->Bool
 |0,_,_,_=>VA
 |_+1,_,[],_=>VC
 | k+1,σ,i::is,acc=>match ops[i]? with
   | some o=>match eP tb ops n σ o with
     |some (d,⟨s,rd,_⟩)=>gW ops n cl ⟨i,o,s,s.wr.map (·.1),s.nw,rd⟩ acc&&okD ops n cl k (σ.app d s) is (⟨i,o,s,s.wr.map (·.1),s.nw,rd⟩::acc)
     |none=>VC
   |none=>VC
section
variable {m0:Gm}{w0:World}{F:Nat->Prop}{R0:RT w0 F}{n:Nat}{σ τ:St}{ops:Array Oper}{os os':List Oper}{K:St->Prop}{φ:Prop}{cl:List (List Nat)}{is is':List Nat}{acc acc':List It}
theorem Ar(k:Nat)(h:runA ops n k σ os=UF (τ,os',φ))(r:RL ⟨prog,m0,w0,F,R0⟩ n ops os' K τ)(u:φ:=by repeat' (first|with_reducible refine And.intro ?_ ?_|exact trivial|omega|assumption|decide|(simp;done)|(simp;omega))):RL ⟨prog,m0,w0,F,R0⟩ n ops os K σ:=by
 induction k generalizing σ os φ with
 |zero=>cases h;exact r
 | succ k ih=>
   cases os with
   |nil=>cases h
   | cons o os=>
     unfold runA at h;split at h
     .rename_i h1;split at h
      .rename_i h2;cases h;exact RL.auto yk h1 (ih h2 u.2) u.1
      cases h
     cases h
theorem Dr(k:Nat)(h:runD ops n k σ is acc=UF (τ,is',acc',φ))(r:DL ⟨prog,m0,w0,F,R0⟩ n ops cl is' acc' K τ)(hc:okD ops n cl k σ is acc=VA:=by kernel_rfl)(hφ:φ:=by repeat' (first|with_reducible refine And.intro ?_ ?_|exact trivial|omega|assumption|decide|(simp;done)|(simp;omega))):DL ⟨prog,m0,w0,F,R0⟩ n ops cl is acc K σ:=by
 induction k generalizing σ is acc φ with
 |zero=>cases h;exact r
 | succ k ih=>
   cases is with
   |nil=>cases h
   | cons i is=>
     unfold runD at h;unfold okD at hc;split at h
     .rename_i ho;rw[ho]at hc;simp only at hc;split at h
      .rename_i h1;rw[h1]at hc;simp only[du]at hc;split at h
       .rename_i h2;cases h;exact DL.auto yk ho h1 (ih h2 hc.2 hφ.2) hφ.1 hc.1
       cases h
      cases h
     cases h
end
end
abbrev ar(l:List Int):PV:= .sl UG l.length (l.map (.int .i64))
theorem a6(h:k<l.length):(l.map (PV.int .i64))[k*1]? =UF (.int .i64 l[k]):=by simp[h]
theorem aM(h:k<l.length):l.map (PV.int .i64)≠[]:=by intro e;simp at e;subst e;simp at h
theorem gJ{x:Int}(z:k<l.length)(h:¬x∈l.take k)(u:¬l[k]=x):¬x∈l.take (k+1):=by grind[AI,TF]
theorem ns(l:List Int)(x:Int)(A:l.length<=1000000000):FnP prog 45 [ar l,.int .i64 x] (· = .bool (decide (x∈l))):=by
 refine FnP.of func45 O ntmps45 Xn λ_ _ _ _=>?_
 refine Tv<|AW.region<|A1 O<|Tv<|Tv<|AW.region<|Y3 O<|AW.block<|AW.loop (st:=λk:Nat=>mkS [(1,pIi x),(7,.pv (ar l)),(8,pIi l.length),(9,pIi k)] [] 0) (I:=λk=>k<=l.length/\¬x∈l.take k) (μ:=λk=>l.length-k) (x0:=0) (Tk (aS O) trivial O O) Xn (λk hx=>?_);obtain⟨hk,hno⟩:=hx;refine Tv<|AW.region<|A1 O<|Tv<|AW.k8 O (λhc=>?_) (λhc=>?_)
 .have hlt:k<l.length:=Xj;have z:=a6 hlt;have u:=aM hlt;refine Ti<|Tv<|AW.block<|Tv<|AW.region<|A1 O<|A2 O Xm ?_;refine A1 O<|Tv<|AW.region<|Y3 O ?_;refine AW.cond O (λhc=>?_) (λhc=>?_)
  .refine Tv<|AW.region<|A1 O<|AW.ret ?_;refine⟨_,_,O,O,ah PV.bool (?_:VA=_)⟩;have:l[k]=x:=by simpa using hc
   simp[<-this]
  refine Ti<|AW.region<|Y2 O ?_;refine⟨k+1,Tk (aS O) trivial O O,⟨Xj,gJ hlt hno (by simpa using hc)⟩,Xj⟩
 refine AW.exit<|Tv<|AW.region<|A1 O<|AW.ret ?_;refine⟨_,_,O,O,ah PV.bool (?_:VC=_)⟩;rw[aH Xj]at hno;simp[hno]
theorem Ef(u:l.length=r.length)(k:Nat)(z:l.length<=k)(h:l.take k=r.take k):l=r:=by
 rwa [aH z,aH Xj]at h
theorem Ia(u:k<l.length)(z:k<r.length)(h:l.take k=r.take k)(A:l[k]=r[k]):l.take (k+1)=r.take (k+1):=by
 rw[AI u,AI z,h,A]
theorem GX(l r:List Int)(G:l.length<=1000000000)(H:r.length<=1000000000):FnP prog 21 [ar l,ar r] (· = .bool (decide (l=r))):=by
 refine FnP.of func21 O ntmps21 Xn λ_ _ _ _=>?_
 refine Tv<|AW.region<|A1 O<|Tv<|Tv<|AW.region<|Ar 5 O<|AW.cond O (λhc=>?_) (λhc=>?_)
 .refine Tv<|AW.region<|A1 O<|AW.ret ?_;refine⟨_,_,O,O,ah PV.bool (?_:VC=_)⟩;have z:l.length≠r.length:=by intro e;simp[e]at hc
  simp only[Bool.false_eq,U7];intro e;exact z (by rw[e])
 refine Ti ?_;have A:l.length=r.length:=by simp at hc;omega
 refine Tv<|Tv<|AW.region<|Y3 O<|AW.block<|AW.loop (st:=λk:Nat=>mkS [(0,.pv (ar l)),(1,.pv (ar r)),(12,pIi l.length),(13,pIi k)] [] 0) (I:=λk=>k<=l.length/\l.take k=r.take k) (μ:=λk=>l.length-k) (x0:=0) (Tk (aS O) trivial O O) Xn (λk hx=>?_);obtain⟨hk,heq⟩:=hx;refine Tv<|AW.region<|A1 O<|Tv<|AW.k8 O (λhc=>?_) (λhc=>?_)
 .have hlt:k<l.length:=Xj;have u:k<r.length:=Xj;have E:=a6 hlt;have z:=aM hlt;have D:=a6 u;have B:=aM u;refine Ti<|Tv<|AW.block<|Tv<|AW.region<|Y2 O<|Tv<|UB 9 O<|Dr 3 O<|D2 O O Xm ?_;refine Dr 3 O<|D2 O O Xm ?_;refine D1 O ?_;refine⟨Xk,?_⟩;refine AW.cond O (λhc=>?_) (λhc=>?_)
  .refine Tv<|AW.region<|A1 O<|AW.ret ?_;refine⟨_,_,O,O,ah PV.bool (?_:VC=_)⟩;have z:l[k]≠r[k]:=by simpa using hc
   simp only[Bool.false_eq,U7];intro e;subst e;exact z O
  refine Ti<|AW.region<|Y2 O ?_;refine⟨k+1,Tk (aS O) trivial O O,⟨Xj,Ia hlt u heq (by simpa using hc)⟩,Xj⟩
 refine AW.exit<|Tv<|AW.region<|A1 O<|AW.ret ?_;refine⟨_,_,O,O,ah PV.bool (?_:VA=_)⟩;simp[Ef A k Xj heq]
theorem mod_eq(x n:Int)(h:1<=n):(x.tmod n+n).tmod n=x%n:=by
 have u:n≠0:=Xj;by_cases hx:0<=x
 .rw[Int.tmod_eq_emod_of_nonneg hx,Int.tmod_eq_emod_of_nonneg (by have:=Int.emod_nonneg x u;omega),Int.add_emod_right,Int.emod_emod_of_dvd _ (Int.dvd_refl n)]
 have h1:x.tmod n= -((-x)%n):=by
  rw[show x= -(-x) by omega,Int.neg_tmod,Int.tmod_eq_emod_of_nonneg Xj,Int.neg_neg]
 have z:=Int.emod_nonneg (-x) u;have A:=Int.emod_lt_of_pos (-x) (show 0<n by omega);rw[h1,Int.tmod_eq_emod_of_nonneg Xj,Int.add_emod_right];rw[<-Int.zero_sub,Int.sub_emod,Int.emod_emod_of_dvd _ (Int.dvd_refl n),<-Int.sub_emod,Int.zero_sub,Int.neg_neg]
theorem Q6(x n:Int)(h:1<=n): -n<x.tmod n/\x.tmod n<n:=by
 have u:=Int.tmod_lt_of_pos x (show 0<n by omega);have z:=Int.lt_tmod_of_pos x (show 0<n by omega);omega
theorem Lc(x n:Int)(u:1<=n)(A:n<=1000000):FnP prog 66 [.int .i64 x,.int .i64 n] (· = .int .i64 (x%n)):=by
 refine FnP.of func66 O ntmps66 Xn λ_ _ _ _=>?_
 refine Tv<|AW.region<|A1 O<|Tv<|Tv<|AW.region<|Y2 O<|AW.k8 O (λhc=>absurd hc Xj) (λhc=>?_);refine Ti ?_;have z:=Q6 x n u;exact Tv<|AW.region<|Ar 8 O<|AW.ret<|⟨_,_,O,O,ah (PV.int .i64) (mod_eq x n u)⟩
abbrev jq(L:List Int)(k:Nat):List PV:=[ar L,.int .i64 k]
def sNv(L:List Int)(k:Nat)(n:Int):Int:=match L[k]? with|some x=>x%n|none=>0
def sNk(L:List Int)(k:Nat):Nat:=if k<L.length then k+1 else k
theorem kW(L:List Int)(k:Nat)(n:Int)(h:1<=n):0<=sNv L k n/\sNv L k n<n:=by
 unfold sNv;split
 .exact⟨Int.emod_nonneg _ Xj,Int.emod_lt_of_pos _ Xj⟩
 omega
theorem iK(L:List Int)(k:Nat)(n:Int)(G:L.length<=600)(H:k<=L.length)(B:1<=n)(D:n<=1000000):FnM prog 26 75 (jq L k) [.int .i64 n] (λv c=>v= .int .i64 (sNv L k n)/\c=jq L (sNk L k)):=by
 refine FnM.of func26 O ntmps26 Xn O Xn λ_ _ _ _=>?_
 refine Tv<|AW.region<|A1 O<|Tv<|Tv<|UB 10 O<|Dr 10 O ?_;refine⟨Xk,?_⟩;refine AW.k8 O (λhc=>?_) (λhc=>?_)
 .refine Tv<|AW.region<|A1 O<|AW.ret ?_;have z:L[k]? =UG:=by simp;omega
  exact⟨_,jq L k,O,O,by simp[sNv,z],by simp only[sNk];rw[sh Xj]⟩
 refine Ti ?_;have u:k<L.length:=Xj;have E:=a6 u;have A:=aM u;refine Tv<|AW.region<|Ar 8 O<|Tv<|UB 14 O<|Dr 9 O<|TR O (λτ h=>ag k underlying22 sz3 (Ee h 0 O O) (Ee h 1 O O) Xj Xj A)<|D2 O O Xm ?_;refine D1 O<|TR O (λτ h=>aa call66 (Lc L[k] n B D) (h.aD O))<|D1 O ?_;refine⟨Xk,?_⟩;exact AW.ret<|⟨_,jq L (k+1),O,O,by simp[sNv,u],by simp only[sNk];rw[By u]⟩
theorem Dx(L:List Int)(k:Nat)(lo hi:Int)(u:L.length<=600)(z:k<=L.length)(B:lo<=hi)(D: -1000<=lo)(E:hi<=1000):FnM prog 25 75 (jq L k) [.int .i64 lo,.int .i64 hi] (λv c=>v= .int .i64 (lo+sNv L k (hi-lo+1))/\c=jq L (sNk L k)):=by
 refine FnM.of func25 O ntmps25 Xn O Xn λ_ _ _ _=>?_
 have A:=kW L k (hi-lo+1) Xj;exact Tv<|AW.region<|A1 O<|Tv<|AW.region<|Ar 6 O<|Rs O (cy call26 (iK L k (hi-lo+1) u z Xj Xj) O O)<|Y2 O<|AW.ret<|⟨_,jq L (sNk L k),O,O,O,O⟩
def upZ(j:Nat):List Int:=(List.range j).map Int.ofNat
theorem a7(j:Nat):(upZ j).length=j:=by simp[upZ]
theorem Ce(j:Nat):upZ (j+1)=upZ j++[(j:Int)]:=by simp[upZ,Wo]
abbrev aK(l:List Int):List PV:=l.map (.int .i64)
def JW(q:List Int)(i k:Nat):List Int:=(q.set i (q.getD k 0)).set k (q.getD i 0)
theorem swap_perm(u:i<q.length)(z:k<q.length):(JW q i k).Perm q:=by
 unfold JW;simp only[List.getD,IS u,IS z,V8];exact List.set_set_perm u z
theorem Mg(u:i<q.length)(z:k<q.length):((aK q).set i (.int .i64 q[k])).set k (.int .i64 q[i])=aK (JW q i k):=by
 simp[JW,US,List.getD,u,z]
theorem LC(l:List Int)(u:l.length<=600):FnO prog 5 0 1 [.pv (ar l)] [] (λv ob'=>v= .ptr 0 0/\ob'=aB [(0,.mix 75 ((jq l 0).map .pv))]):=by
 refine FnO.of func5 O ntmps5 Xn λ_ _ _ _=>?_
 exact Tv<|AW.region<|A1 O<|Tv<|AW.region<|Y3 O<|Rs O ((sG O O).cast (v':= pIi l.length) (by rw[sh Xj]))<|Rs O ((eS l.length underlying22 sz3 O O O (AT _) Xn).cast (v':= .pv (ar l)) (by rw[aH Xn]))<|Y3 O<|AW.ret<|⟨[(2,.ptr 0 0)],[(0,.mix 75 ((jq l 0).map .pv))],[.ptr 0 0],WA O,O,O,O,O,O⟩
abbrev yy(L:List Int)(k:Nat):Ob:= .mix 75 ((jq L k).map .pv)
theorem wM(L:List Int)(k n:Nat)(H:L.length<=600)(J:k<=L.length)(T:1<=n)(M:n<=1000):FnM prog 29 75 (jq L k) [.int .i64 n] (λv c=>(∃q:List Int,q.Perm (upZ n)/\v=ar q)/\∃k',k'<=L.length/\c=jq L k'):=by
 refine FnM.of func29 O ntmps29 Xn O Xn λ_ _ _ _=>?_
 refine Z1 O<|Z1 O<|Z1 O<|AW.block<|AW.loop (st:=λj:Nat=>match j with
  |0=>mkS [(0,.ptr big 0),(1,pIi n),(6,pIi (0:Nat)),(5,.pv nS)] [(big,yy L k)] 1
  |j+1=>mkS [(0,.ptr big 0),(1,pIi n),(6,pIi (j+1:Nat)),(5,.osl 0 1 (j+1))] [(big,yy L k),(0,.cells 3 (aK (upZ (j+1))))] 1) (I:=λj=>j<=n) (μ:=λj=>n-j) (x0:=0) (WA O) Xj (λj hj=>?_)
 cases j with
 | zero=>
   refine Z3 O<|AW.k8 O (λhc=>?_) (λhc=>?_)
   .exact Ti<|Gr O<|Ar 5 O<|Z3 O<|⟨0+1,Tl [2] (aT O) (aP O) O O Xn O,Xj,Xj⟩
   omega
 | succ j=>
   have G:(aK (upZ (j+1))).length=(j+1)*1:=by simp[a7]
   have A:aK (upZ (j+1+1))=aK (upZ (j+1))++[.int .i64 ((j+1:Nat):Int)]:=by rw[Ce];simp
   refine Z3 O<|AW.k8 O (λhc=>?_) (λhc=>?_)
   .exact Ti<|Gr O<|Ar 5 O<|Z3 O<|⟨(j+1)+1,Tl [2] (aT O) ⟨O,(by rw[A];rfl),Xq⟩ O O Xn O,Xj,Xj⟩
   obtain rfl:n=j+1:=Xj;refine AW.exit<|Z3 O<|AW.block<|AW.loop (st:=λx:Nat×List Int×Nat=>mkS [(0,.ptr big 0),(7,pIi x.1),(5,.osl 0 1 (j+1))] [(big,yy L x.2.2),(0,.cells 3 (aK x.2.1))] 1) (I:=λx=>x.1<=j/\x.2.1.Perm (upZ (j+1))/\x.2.2<=L.length) (μ:=λx=>x.1) (x0:=(j,upZ (j+1),k)) (Tk ⟨O,ah (λi=>V.pv (PV.int .i64 i)) Xj,O,Xq⟩ (aO O) O O) ⟨AT _,T3 _,J⟩ ?_;rintro⟨i,q,k2⟩ ⟨hi,hq,hk2⟩;simp only at hi hq hk2 ⊢;have B:q.length=j+1:=by rw[hq.length_eq,a7]
   refine Z2 O<|AW.k8 O (λhc=>?_) (λhc=>?_)
   .refine Ti ?_;have D:=kW L k2 (i+1) Xj;obtain⟨t,ht⟩:=Bg D.1;have u:t<q.length:=Xj;have z:i<q.length:=Xj;have E:sNk L k2<=L.length:=by unfold sNk;split<;>omega
    have P:(aK q)[t*1]? =UF (.int .i64 q[t]):=by simp[u]
    have v2:(aK q)[i*1]? =UF (.int .i64 q[i]):=by simp[z]
    refine Z3 O<|Rs O (XJ.cast (v':= pIi (t:Int)) (cy call26 (iK L k2 (i+1) H hk2 Xj Xj) O O) (by rw[ht]))<|A1 O<|UB 16 O<|Dr 7 O<|D2 O O Xm ?_;refine Dr 3 O<|D2 O O Xm ?_;refine D1 O<|DL.step (d:=UG) [_] O O O (λτ h=>dB sz3 (Ee h 0 O O) (Eo h 0 O O) (Ee h 1 O O) O Xo) O Xk<|D1 O<|DL.step (d:=UG) [_] O O O (λτ h=>dB sz3 (Ee h 0 O O) (Eo h 0 O O) (Ee h 1 O O) O Xo) O Xk ?_;refine⟨Xk,?_⟩;refine Z3 O ?_;refine⟨(i-1,JW q i t,sNk L k2),Tk ⟨O,ah (λi=>V.pv (PV.int .i64 i)) Xj,O,Xq⟩ ⟨O,?_,Xq⟩ O O,⟨Xj,(swap_perm z u).trans hq,E⟩,Xj⟩;show UF (Ob.cells _ _)=_;rw[<-Mg z u];simp
   exact AW.exit<|Tj (St.SL 0 [5] O ⟨O,Xq⟩ Xo)<|Z2 O<|AW.ret<|⟨_,jq L k2,O,O,⟨q,hq,by simp[ar,B,aH]⟩,k2,hk2,O⟩
def inB(l:List Int)(x:Int):Bool:=l.contains x
def hasB{α:Type}[DecidableEq α](l:List α)(x:α):Bool:=decide (x∈l)
def b8(f:Nat->Int):Nat->Int
 |0=>0
 |n+1=>if b8 f n=0 then f n else b8 f n
theorem dU(h:b8 f n=0):b8 f (n+1)=f n:=by simp[b8,h]
theorem DB(h:b8 f k≠0)(n:Nat)(u:k<=n):b8 f n=b8 f k:=by
 induction n with
 | zero=>have:k=0:=Xj
         subst this;rfl
 | succ n ih=>
   by_cases hk:k=n+1
   .rw[hk]
   grind[b8]
theorem gG(h:b8 f k=0)(u:f k≠0)(z:k<n):b8 f n=f k:=by
 have e:=dU h;rw[DB (k:=k+1) (by rw[e];exact u) n z,e]
theorem kG:b8 f n=0↔∀k,k<n->f k=0:=by
 induction n with
 |zero=>simp[b8]
 | succ n ih=>
   constructor
   .grind[b8]
   grind[dU]
def pZ(c:UInt8):Bool:=97<=c&&c<=122
def Pt(c:UInt8):Bool:=pZ c||(48<=c&&c<=57)||c==45
def Mv(s:List UInt8):Bool:=match s with|[]=>VC|c::r=>pZ c&&r.all Pt&&decide (r.length<=11)
def fE(s:ByteArray):Bool:=Mv s.data.toList
structure Sch where
 attrs:List (ByteArray×Int)
 rels:List (ByteArray×List Int)
 feats:List (Int×Int×Int)
 label:Int
variable{S:Sch}
def gg(names:List ByteArray)(i:Nat):Int:=
 if fE (names.getD i default)=VC then 14 else if hasB (names.take i) (names.getD i default)=VA then 9 else 0
def gX(S:Sch)(i:Nat):Int:=
 if gg (S.attrs.map (·.1)) i≠0 then gg (S.attrs.map (·.1)) i
 else if(S.attrs.getD i default).2<1\/3<(S.attrs.getD i default).2 then 7 else 0
def Kd(l:List Int):Bool:=(List.range (l.length-1)).all λk=>decide (l.getD k 0<l.getD (k+1) 0)
def yg(S:Sch)(i:Nat):Int:=
 if gg (S.rels.map (·.1)) i≠0 then gg (S.rels.map (·.1)) i
 else if(S.rels.getD i default).2=[]then 7
 else if((S.rels.getD i default).2.all λa=>decide (0<=a)&&decide (a<S.attrs.length))=VC then 2
 else if Kd (S.rels.getD i default).2=VC then 10 else 0
def tY(S:Sch)(a:Nat):Bool:=S.rels.any λr=>inB r.2 a
def ia(S:Sch):Int:=
 if b8 (yg S) S.rels.length≠0 then b8 (yg S) S.rels.length
 else if((List.range S.attrs.length).all λa=>tY S a)=VC then 7 else 0
def kO(S:Sch)(i:Nat):Int:=
 let f:=S.feats.getD i default
 let kind:=(S.attrs.getD f.1.toNat default).2
 if f.1<0\/(S.attrs.length:Int)<=f.1 then 2
 else if((f.2.1==1&&kind==2&&(f.2.2==0||f.2.2==1))||(f.2.1==2&&kind==3&&f.2.2==0))=VC then 7
 else if(f.1==S.label||(S.feats.take i).any λg=>g.1==f.1)=VA then 9 else 0
def bV(S:Sch):Int:=
 if S.attrs.length=0\/12<S.attrs.length\/S.rels.length=0\/6<S.rels.length\/8<S.feats.length then 3
 else if b8 (gX S) S.attrs.length≠0 then b8 (gX S) S.attrs.length
 else if ia S≠0 then ia S
 else if b8 (kO S) S.feats.length≠0 then b8 (kO S) S.feats.length
 else if S.label< -1\/(S.attrs.length:Int)<=S.label then 2
 else if 0<=S.label/\(S.attrs.getD S.label.toNat default).2≠2 then 7 else 0
namespace Mk
open Go.Proofs.YtkkenamefaegfaaGreatDoor
def chr(n:Int):ByteArray:=⟨#[UInt8.ofNat n.toNat]⟩
def nm(p:UInt8)(i:Nat):ByteArray:=⟨#[p]⟩++chr (97+i)
theorem qv:∀(l:List Int)(lo hi:Int),l.Pairwise (· < ·)->(∀a∈l,lo<=a/\a<=hi)->(l.length:Int)<=max 0 (hi+1-lo):=by
 intro l;induction l with
 |nil=>intro lo hi _ _;simp;omega
 | cons x t ih=>
   intro lo hi hp hb;have u:=Ut.1 hp;have z:=hb x Xn;have:=ih (x+1) hi u.2 (λa ha=>⟨by have:=u.1 a ha;omega,(hb a (by simp[ha])).2⟩);simp only[IT];omega
theorem ND{q:Nat}(z:1<=q)(A:q<l.length)(h:l[q]<=l[q-1]):Kd l=VC:=by
 unfold Kd;rw[V0];refine⟨q-1,Xo,?_⟩;have e:l.getD (q-1+1) 0=l[q]:=by grind
 have u:l.getD (q-1) 0=l[q-1]:=by grind
 rw[e,u];simp;omega
theorem Am(h:∀p,p+1<l.length->l.getD p 0<l.getD (p+1) 0):Kd l=VA:=by grind[Kd,OF]
theorem NW{q:Nat}(u:q<l.length)(h:¬ (0<=l[q]/\l[q]<n)):(l.all λa=>decide (0<=a)&&decide (a<n))=VC:=by
 rw[V0];exact⟨l[q],aq u,Xo⟩
theorem zE(h:∀a∈l,0<=a/\a<n):(l.all λa=>decide (0<=a)&&decide (a<n))=VA:=by
 rw[OF];intro a ha;have:=h a ha;simp;omega
theorem S2(h:l.Pairwise (· < ·)):Kd l=VA:=by grind[Am,Uj.1,List.getD]
theorem tu(S:Sch)(k:Nat)(u:k<S.rels.length):yg S k=if fE S.rels[k].1=VC then 14 else if hasB ((S.rels.map (·.1)).take k) S.rels[k].1=VA then 9 else if S.rels[k].2=[]then 7
  else if(S.rels[k].2.all λa=>decide (0<=a)&&decide (a<S.attrs.length))=VC then 2 else if Kd S.rels[k].2=VC then 10 else 0:=by
 have z:(S.rels.map (·.1)).getD k default=S.rels[k].1:=by simp[List.getD,u]
 have A:S.rels.getD k default=S.rels[k]:=by simp[List.getD,u]
 unfold yg gg;rw[z,A];by_cases h1:fE S.rels[k].1=VC
 .simp[h1]
 grind
theorem B9(S:Sch)(k:Nat)(u:k<S.attrs.length):gX S k=if fE S.attrs[k].1=VC then 14 else if hasB ((S.attrs.map (·.1)).take k) S.attrs[k].1=VA then 9 else if S.attrs[k].2<1\/3<S.attrs[k].2 then 7 else 0:=by
 have z:(S.attrs.map (·.1)).getD k default=S.attrs[k].1:=by simp[List.getD,u]
 have A:S.attrs.getD k default=S.attrs[k]:=by simp[List.getD,u]
 unfold gX gg;rw[z,A];by_cases h1:fE S.attrs[k].1=VC
 .simp[h1]
 grind
theorem qZ (S:Sch) (k:Nat) (u:k<S.feats.length):kO S k=if S.feats[k].1<0\/(S.attrs.length:Int)<=S.feats[k].1 then 2
  else if((S.feats[k].2.1==1&&(S.attrs.getD S.feats[k].1.toNat default).2==2&&(S.feats[k].2.2==0||S.feats[k].2.2==1))||(S.feats[k].2.1==2&&(S.attrs.getD S.feats[k].1.toNat default).2==3&&S.feats[k].2.2==0))=VC then 7
  else if(S.feats[k].1==S.label||(S.feats.take k).any λg=>g.1==S.feats[k].1)=VA then 9 else 0:=by grind[List.getD,kO]
theorem w4(u:b8 (yg S) S.rels.length=0)(z:((List.range S.attrs.length).all λa=>tY S a)=VA):ia S=0:=by
 unfold ia;rw[sh (by simp[u]),sh (by rw[z];decide)]
def limB(S:Sch):Prop:=¬ (S.attrs.length=0\/12<S.attrs.length\/S.rels.length=0\/6<S.rels.length\/8<S.feats.length)
theorem q9(h:limB S)(u:b8 (gX S) S.attrs.length=0)(z:ia S=0)(A:b8 (kO S) S.feats.length=0):bV S=if S.label< -1\/(S.attrs.length:Int)<=S.label then 2 else if 0<=S.label/\(S.attrs.getD S.label.toNat default).2≠2 then 7 else 0:=by
 unfold bV;rw[sh h,sh (by simp[u]),sh (by simp[z]),sh (by simp[A])]
def rM(i n:Nat):Bool:=decide (97<=n/\n<=122)||(decide (i≠0)&&(n==45||decide (48<=n/\n<=57)))
theorem xO(c:UInt8):rM 0 c.toNat=pZ c:=by
 rw[TY];simp[rM,pZ,UInt8.le_iff_toNat_le]
theorem xC(k:Nat)(c:UInt8):rM (k+1) c.toNat=Pt c:=by
 rw[TY];have e:c=45↔c.toNat=45:=by
  constructor
  .rintro rfl;rfl
  .intro h;exact Wy.1 h
 simp[rM,Pt,pZ,UInt8.le_iff_toNat_le,e];omega
theorem tK(l:List UInt8):Mv l=(((List.range l.length).all λk=>rM k (l.getD k 0).toNat)&&decide (1<=l.length)&&decide (l.length<=12)):=by
 cases l with
 |nil=>simp[Mv]
 | cons c r=>
   rw[TY];simp only[Mv,du,OF,Tz,UR,IT];constructor
   .rintro⟨⟨h1,h2⟩,h3⟩;refine⟨⟨λk hk=>?_,Xj⟩,Xj⟩;cases k with
    |zero=>rw[List.getD_cons_zero,xO];exact h1
    | succ k=>
      rw[List.getD_cons_succ,xC];have u:k<r.length:=Xj;rw[List.getD,IS u];exact h2 _ (aq u)
   rintro⟨⟨h1,_⟩,h3⟩;refine⟨⟨?_,λx hx=>?_⟩,Xj⟩
   .have:=h1 0 Xj;rwa [List.getD_cons_zero,xO]at this
   obtain⟨k,hk,rfl⟩:=Ux hx;have:=h1 (k+1) Xj;rwa [List.getD_cons_succ,xC,List.getD,IS hk]at this
theorem yI(s:ByteArray)(k:Nat)(u:k<s.size)(h:rM k (s.data.toList.getD k 0).toNat=VC):fE s=VC:=by
 unfold fE;rw[tK];have:((List.range s.data.toList.length).all λk=>rM k (s.data.toList.getD k 0).toNat)=VC:=by
  rw[V0];exact⟨k,by simp;exact u,by rw[h];simp⟩
 rw[this];rfl
theorem BL(s:ByteArray)(h:∀k,k<s.size->rM k (s.data.toList.getD k 0).toNat=VA):fE s=(decide (1<=s.size)&&decide (s.size<=12)):=by
 unfold fE;rw[tK];have:((List.range s.data.toList.length).all λk=>rM k (s.data.toList.getD k 0).toNat)=VA:=by simp_all
 rw[this];simp
theorem RX:∀i,i<26->∀j,j<26->nm 97 i=nm 97 j->i=j:=Xl
theorem M5:∀i,i<6->∀j,j<6->nm 114 i=nm 114 j->i=j:=Xl
theorem Pz:∀i,i<26->fE (nm 97 i)=VA:=Xl
theorem I0:∀i,i<6->fE (nm 114 i)=VA:=Xl
def pH(at':List (ByteArray×Int)):Prop:=∀j (hj:j<at'.length),at'[j].1=nm 97 j/\1<=at'[j].2/\at'[j].2<=3
def sk(rs:List (ByteArray×List Int))(n:Nat)(o:Nat:=0):Prop:=∀j (hj:j<rs.length),rs[j].1=nm 114 (j+o)/\rs[j].2≠[]/\rs[j].2.Pairwise (· < ·)/\∀a∈rs[j].2,0<=a/\a<n
def JT(rs:List (ByteArray×List Int))(n:Nat):Prop:=∀a,a<n->∃x∈rs,(a:Int)∈x.2
def RW(at':List (ByteArray×Int))(lb:Int)(k:Nat)(f:Int×Int×Int):Prop:=
 ∃a:Nat,f.1=(a:Int)/\a<k/\(a:Int)≠lb/\((f.2.1=1/\(at'.getD a default).2=2/\(f.2.2=0\/f.2.2=1))\/(f.2.1=2/\(at'.getD a default).2=3/\f.2.2=0))
def fv(at':List (ByteArray×Int))(fs:List (Int×Int×Int))(lb:Int)(k:Nat):Prop:=
 (fs.map (·.1)).Pairwise (· < ·)/\(∀f∈fs,RW at' lb k f)/\(lb= -1\/∃a:Nat,lb=(a:Int)/\a<k/\(at'.getD a default).2=2)
theorem xo{at':List (ByteArray×Int)}(h:pH at'){x:Int}(u:1<=x)(z:x<=3):pH (at'++[(nm 97 at'.length,x)]):=by
 intro j hj;by_cases e:j<at'.length
 .rw[List.getElem_append_left e];exact h j e
 grind
theorem za{rs:List (ByteArray×List Int)}(h:sk rs n)(u:n<=m):sk rs m:=by
 intro j hj;obtain⟨h1,h2,h3,h4⟩:=h j hj;exact⟨h1,h2,h3,λa ha=>by have:=h4 a ha;omega⟩
theorem zq{rs:List (ByteArray×List Int)}(h:sk rs n)(u:l≠[])(z:l.Pairwise (· < ·))(A:∀a∈l,0<=a/\a<n):sk (rs++[(nm 114 rs.length,l)]) n:=by
 intro j hj;by_cases e:j<rs.length
 .rw[List.getElem_append_left e];exact h j e
 grind
theorem Cl{x:Int}(h:l.Pairwise (· < ·))(u:∀a∈l,a<x):(l++[x]).Pairwise (· < ·):=by grind
theorem dX{at':List (ByteArray×Int)}{fs:List (Int×Int×Int)}(h:fv at' fs lb k):fv at' fs lb (k+1):=by
 refine⟨h.1,λf hf=>?_,?_⟩
 .obtain⟨a,h1,h2,h3⟩:=h.2.1 f hf;exact⟨a,h1,Xj,h3⟩
 rcases h.2.2 with h1|⟨a,h1,h2,h3⟩
 .exact .inl h1
 exact .inr ⟨a,h1,Xj,h3⟩
theorem ui{at':List (ByteArray×Int)}{fs:List (Int×Int×Int)}(h:fv at' fs lb k)(u:(at'.getD k default).2=2):fv at' fs (k:Int) (k+1):=by
 refine⟨h.1,λf hf=>?_,.inr ⟨k,O,Xj,u⟩⟩;obtain⟨a,h1,h2,_,h3⟩:=h.2.1 f hf;exact⟨a,h1,Xj,Xj,h3⟩
theorem jA{at':List (ByteArray×Int)}{fs:List (Int×Int×Int)}(h:fv at' fs lb k){x y:Int}(u:lb= -1\/lb<k)
  (z:(x=1/\(at'.getD k default).2=2/\(y=0\/y=1))\/(x=2/\(at'.getD k default).2=3/\y=0)):fv at' (fs++[((k:Int),x,y)]) lb (k+1):=by
 refine⟨?_,λf hf=>?_,(dX h).2.2⟩
 .rw[Uc];refine Cl h.1 λa ha=>?_
  obtain⟨f,hf,rfl⟩:=TG.1 ha;obtain⟨a,h1,h2,_⟩:=h.2.1 f hf;show f.1<(k:Int);omega
 rcases Uf.1 hf with hf|hf
 .exact(dX h).2.1 f hf
 simp at hf;subst hf;exact⟨k,O,Xj,Xj,z⟩
theorem si{at':List (ByteArray×Int)}{fs:List (Int×Int×Int)}(h:fv at' fs lb k): -1<=lb/\lb<k:=by
 rcases h.2.2 with h1|⟨a,h1,h2,_⟩<;>omega
theorem dS{at':List (ByteArray×Int)}{fs:List (Int×Int×Int)}(h:fv at' fs lb k):fs.length<=k:=by
 have:=qv (fs.map (·.1)) 0 (k-1) h.1 (λa ha=>by
  obtain⟨f,hf,rfl⟩:=TG.1 ha;obtain⟨a,h1,h2,_⟩:=h.2.1 f hf;omega)
 simp at this;omega
structure Made(S:Sch)(most:Nat)(o:Nat:=0):Prop where
 a1:1<=S.attrs.length
 a2:S.attrs.length<=most
 r1:1<=S.rels.length
 r2:S.rels.length+o<=3
 at':pH S.attrs
 rs:sk S.rels S.attrs.length o
 cv:JT S.rels S.attrs.length
 fs:fv S.attrs S.feats S.label S.attrs.length
theorem kg{o:Nat}(h:Made S most o)(L:most<=8):bV S=0:=by
 have B:=h.a2;have D:=h.r2;have E:b8 (gX S) S.attrs.length=0:=by
  rw[kG];intro k hk;rw[B9 S k hk];obtain⟨h1,h2,h3⟩:=h.at' k hk;rw[sh (by rw[h1,Pz k Xj];decide),sh,sh Xj];unfold hasB;simp only[Tz];intro hmem;obtain⟨j,hj,hjk⟩:=Vm.1 hmem;have u:j<S.attrs.length:=by simp at hj;omega
  rw[UP,(h.at' j u).1,h1]at hjk;have:=RX j Xj k Xj hjk;simp at hj;omega
 have G:b8 (yg S) S.rels.length=0:=by
  rw[kG];intro k hk;rw[tu S k hk];obtain⟨h1,h2,h3,h4⟩:=h.rs k hk;rw[sh (by rw[h1,I0 (k+o) Xj];decide),sh,sh h2,sh (by rw[zE h4];decide),sh (by rw[S2 h3];decide)];unfold hasB;simp only[Tz];intro hmem;obtain⟨j,hj,hjk⟩:=Vm.1 hmem;have u:j<S.rels.length:=by simp at hj;omega
  rw[UP,(h.rs j u).1,h1]at hjk;have:=M5 (j+o) Xj (k+o) Xj hjk;simp at hj;omega
 have A:ia S=0:=by
  refine w4 G ?_;rw[OF];intro a ha;obtain⟨x,hx,hax⟩:=h.cv a (by simpa using ha);unfold tY;rw[Ve];exact⟨x,hx,by simpa[inB]using hax⟩
 have H:=dS h.fs;have I:b8 (kO S) S.feats.length=0:=by
  rw[kG];intro k hk;rw[qZ S k hk];obtain⟨a,h1,h2,h3,h4⟩:=h.fs.2.1 _ (aq hk);rw[h1,TU,sh Xj,sh,sh]
  .rw[Ub,not_or];refine⟨by simpa using h3,?_⟩;rw[Ve];rintro⟨f,hf,hfa⟩;obtain⟨j,hj,rfl⟩:=Vm.1 hf;have:=Uj.1 h.fs.1 j k Xo (by simpa using hk) Xj;simp at this hfa;omega
  grind
 have z:limB S:=by unfold limB;have:=h.a1;have:=h.r1;omega
 rw[q9 z E A I];have J:=si h.fs;rw[sh Xj,sh];rintro⟨g1,g2⟩;rcases h.fs.2.2 with g3|⟨a,g3,g4,g5⟩
 .omega
 grind
def kQ(l:List Int)(n:Nat):Prop:=l.Pairwise (· < ·)/\(∀a∈l,0<=a/\a<n)
theorem kQ.len(h:kQ l n):l.length<=n:=by
 have:=qv l 0 (n-1) h.1 (λa ha=>by have:=h.2 a ha;omega);omega
theorem kQ.snoc(h:kQ l n):kQ (l++[(n:Int)]) (n+1):=by
 refine⟨Cl h.1 λa ha=>(h.2 a ha).2,λa ha=>?_⟩;rcases Uf.1 ha with h1|h1
 .have:=h.2 a h1;omega
 simp at h1;omega
theorem kQ.mono(h:kQ l n)(u:n<=m):kQ l m:=⟨h.1,λa ha=>by have:=h.2 a ha;omega⟩
def Jh(at':List (ByteArray×Int))(rs:List (ByteArray×List Int))(most k:Nat):Prop:=
 pH at'/\sk rs at'.length/\JT rs at'.length/\at'.length<=most/\rs.length=k/\(1<=k->1<=at'.length)
def L3(at' at2:List (ByteArray×Int))(l:List Int)(most:Nat):Prop:=
 pH at2/\at2.length<=most/\at'.length<=at2.length/\kQ l at2.length/\∀a:Nat,at'.length<=a->a<at2.length->(a:Int)∈l
theorem Bq{at' at2:List (ByteArray×Int)}(h:L3 at' at2 l most)(z:at2.length<most){x:Int}(u:x∈[1,2,2,3]):L3 at' (at2++[(nm 97 at2.length,x)]) (l++[(at2.length:Int)]) most:=by
 obtain⟨h1,h2,h3,h4,h5⟩:=h;refine⟨xo h1 (by simp at u;omega) (by simp at u;omega),Xo,Xo,by simpa using h4.snoc,λa ha1 ha2=>?_⟩;by_cases e:a<at2.length
 .grind
 grind
def LP(at' at2:List (ByteArray×Int))(l:List Int)(most:Nat):Prop:=L3 at' at2 l most/\l≠[]/\1<=at2.length
theorem qt{at' at2:List (ByteArray×Int)}{rs:List (ByteArray×List Int)}(h:Jh at' rs most k)(u:LP at' at2 l most):Jh at2 (rs++[(nm 114 k,l)]) most (k+1):=by
 obtain⟨h1,h2,h3,h4,h5,h6⟩:=h;obtain⟨⟨g1,g2,g3,g4,g5⟩,g6,g7⟩:=u;subst h5;refine⟨g1,zq (za h2 g3) g6 g4.1 g4.2,λa ha=>?_,g2,Xn,λ_=>g7⟩;by_cases e:a<at'.length
 .obtain⟨x,hx,hax⟩:=h3 a e;exact⟨x,Wg _ hx,hax⟩
 simp_all
end Mk
section
open Mk
theorem fW(p:ByteArray)(i:Nat)(A:p.size<=1000)(B:i<26):FnP prog 27 [.str p,.int .i64 i] (· = .str (p++chr (97+i))):=by
 refine FnP.of func27 O ntmps27 Xn λ_ _ _ _=>?_
 have u:(i:Int).tmod 26=i:=Int.tmod_eq_of_lt Xj Xj;have z:(97+i:Int)=((UInt8.ofNat (97+i)).toNat:Int):=by
  simp[VU (show 97+i<256 by omega)]
 refine Z1 O<|Z2 O<|Rs O (XJ.cast (v':= pIi i) (fZ O O Xj) (by rw[u]))<|A1 O<|Rs O (XJ.cast (v':= .pv (.int .u8 (((UInt8.ofNat (97+i)).toNat:Nat):Int))) (jC underlying3 underlying5 O) (by rw[<-z,IntWalk.u8_in _ Xj]))<|A1 O<|Rs O (HQ [UInt8.ofNat (97+i)] underlying155 underlying5 underlying9 (.inr ⟨_,_,_,_,O,O,O⟩))<|Rs O (tf O O (show p.size+1<=_ by omega))<|A1 O<|AW.ret ?_;refine⟨_,_,O,O,ah PV.str ?_⟩
 congr 1
end
section
open Mk
theorem sQ(L:List Int)(k:Nat)(l:List Int)(D:L.length<=600)(E:k<=L.length)(G:l≠[])(H:l.length<=1000):∃x∈l,FnM prog 28 75 (jq L k) [ar l] (λv c=>v= .int .i64 x/\c=jq L (sNk L k)):=by
 have A:0<l.length:=Uq.2 G;have B:=kW L k l.length Xj;obtain⟨j,hj⟩:=Bg B.1;have u:j<l.length:=Xj;refine⟨l[j],aq u,?_⟩;refine FnM.of func28 O ntmps28 Xn O Xn λ_ _ _ _=>?_
 have I:=a6 u;have z:=aM u;refine Z1 O<|Z4 O<|Rs O (cy call26 (iK L k l.length D E Xj Xj) O O)<|Rs O (ag j underlying22 sz3 O O hj u z)<|A2 O Xm ?_;exact A1 O<|AW.ret<|⟨_,jq L (sNk L k),O,O,O,O⟩
theorem iN{L:List Int}(h:k<=L.length):sNk L k<=L.length:=by unfold sNk;split<;>omega
def aU(l:List (ByteArray×Int)):List PV:=l.flatMap λa=>[.str a.1,.int .i64 a.2]
def aY(l:List (ByteArray×List Int)):List PV:=l.flatMap λr=>[.str r.1,ar r.2]
def aX(l:List (Int×Int×Int)):List PV:=l.flatMap λf=>[.int .i64 f.1,.int .i64 f.2.1,.int .i64 f.2.2]
abbrev schC(S:Sch):List PV:=[.sl UG S.attrs.length (aU S.attrs),.sl UG S.rels.length (aY S.rels),.sl UG S.feats.length (aX S.feats),.int .i64 S.label]
abbrev gC(S:Sch):PV:= .agg (schC S)
theorem bM(f:α->List β)(n:Nat)(h:∀a,(f a).length=n):∀l:List α,(l.flatMap f).length=l.length*n
 |[]=>by simp
 |a::l=>by rw[T0,IN,h,bM f n h l,IT,Xg,Wi]
theorem ib(f:α->List β)(n:Nat)(h:∀a,(f a).length=n):∀(l:List α)(k j:Nat)(hk:k<l.length),j<n->(l.flatMap f)[k*n+j]? =(f l[k])[j]?
 |[],_,_,hk,_=>by simp at hk
 |a::l,0,j,_,hj=>by grind
 | a::l,k+1,j,hk,hj=>by
   rw[T0,List.getElem?_append_right (by rw[h,Xg];omega),h,show(k+1)*n+j-n=k*n+j by rw[Xg];omega];rw[ib f n h l k j (by simpa using hk) hj];simp
theorem kI(l:List (ByteArray×Int)):(aU l).length=l.length*2:=bM _ 2 (λ_=>rfl) l
theorem ym(l:List (ByteArray×List Int)):(aY l).length=l.length*2:=bM _ 2 (λ_=>rfl) l
theorem kC(l:List (Int×Int×Int)):(aX l).length=l.length*3:=bM _ 3 (λ_=>rfl) l
theorem pX(l:List (ByteArray×Int))(x:ByteArray×Int):aU (l++[x])=aU l++[.str x.1,.int .i64 x.2]:=by simp[aU]
theorem nK(l:List (ByteArray×List Int))(x:ByteArray×List Int):aY (l++[x])=aY l++[.str x.1,ar x.2]:=by simp[aY]
theorem lK(l:List (Int×Int×Int))(x:Int×Int×Int):aX (l++[x])=aX l++[.int .i64 x.1,.int .i64 x.2.1,.int .i64 x.2.2]:=by simp[aX]
theorem fm(l:List Int)(x:Int):aK (l++[x])=aK l++[.int .i64 x]:=Xn
abbrev QS:Ob:= .mix 30 [.pv nS,.pv nS,.pv nS,pIi 0]
abbrev Re(a r f:Nat)(lb:Int):Ob:= .mix 30 [.gsl 2 2 a,.gsl 3 2 r,.gsl 4 3 f,pIi lb]
theorem cZ(f:α->List β)(n:Nat)(h:∀a,(f a).length=n):∀(l:List α)(k:Nat)(hk:k<l.length),((l.flatMap f).drop (k*n)).take n=f l[k]
 |[],_,hk=>by simp at hk
 |a::l,0,_=>by grind
 | a::l,k+1,hk=>by
   rw[T0,List.drop_append,Uu (by rw[h,Xg];omega),Uv,h,show(k+1)*n-n=k*n by rw[Xg];omega];rw[cZ f n h l k (by simpa using hk)];simp
theorem yJ(L:List Int)(k0 most:Nat)(D:L.length<=600)(V:k0<=L.length)(hm1:1<=most)(hm2:most<=8):FnM prog 6 75 (jq L k0) [.int .i64 most] (λv c=>(∃S,Made S most/\v=gC S)/\∃k',k'<=L.length/\c=jq L k'):=by
 refine FnM.ofC (rt:=30) (k:=4) func6 O ntmps6 Xn O Xn ⟨_,underlying30,O⟩ sz30 λ_ _ _ _=>?_
 have hb:=kW L k0 3 Xj;obtain⟨nn,hnn⟩:=Bg (show 0<=1+sNv L k0 3 by omega);have H:=iN V;generalize hke:sNk L k0=k1 at H;refine Z1 O<|Z3 O<|Z1 O<|Rs O (XJ.cast (v':= pIi nn) (cy call25 (Dx L k0 1 3 D V Xj Xj Xj) O O) (by rw[<-hnn];rfl))<|A1 O ?_;rw[hke];refine Tj (St.da 1 0 2 2 81 O O O)<|Tj (St.da 1 1 3 2 33 O O O)<|Tj (St.da 1 2 4 3 83 O O O)<|Z1 O<|AW.block<|AW.loop (st:=λx:Nat×List (ByteArray×Int)×List (ByteArray×List Int)×Nat=>mkS [(0,.ptr big 0),(1,pIi most),(4,.ptr 0 0),(5,.ptr 1 0),(6,pIi nn),(7,pIi x.1)] [(big,yy L x.2.2.2),(0,QS),(1,Re x.2.1.length x.2.2.1.length 0 (-1)),(2,.gro 81 (aU x.2.1)),(3,.gro 33 (aY x.2.2.1)),(4,.gro 83 [])] 5)
  (I:=λx=>x.1<=nn/\Jh x.2.1 x.2.2.1 most x.1/\x.2.2.2<=L.length) (μ:=λx=>nn-x.1) (x0:=(0,[],[],k1)) (WA O) ⟨aJ _,⟨λj hj=>by simp at hj,λj hj=>by simp at hj,λa ha=>by simp at ha,Xn,O,λh=>by omega⟩,H⟩ ?_
 rintro⟨k,at',rs,k2⟩ ⟨hk,hhead,hk2⟩;simp only at hk hhead hk2 ⊢;have J:at'.length<=most:=hhead.2.2.2.1;have hrl:rs.length=k:=hhead.2.2.2.2.1;have M:=kI at';have hRl:=ym rs;refine Z3 O<|AW.k8 O (λhc=>?_) (λhc=>?_)
 .refine Ti<|Z1 O<|Tj (Tp 8 5 1 3 O O)<|Z4 O<|AW.block ?_;refine AW.loop (st:=λx:Nat×List Int×Nat=>mkS [(0,.ptr big 0),(1,pIi most),(4,.ptr 0 0),(5,.ptr 1 0),(6,pIi nn),(7,pIi k),(8,.gsl 5 1 x.2.1.length),(23,pIi at'.length),(24,pIi x.1)] [(big,yy L x.2.2),(0,QS),(1,Re at'.length rs.length 0 (-1)),(2,.gro 81 (aU at')),(3,.gro 33 (aY rs)),(4,.gro 83 []),(5,.gro 3 (aK x.2.1))] 6)
   (I:=λx=>x.1<=at'.length/\kQ x.2.1 x.1/\x.2.2<=L.length) (μ:=λx=>at'.length-x.1) (x0:=(0,[],k2)) (WA O) ⟨aJ _,⟨Xn,Xn⟩,hk2⟩ ?_
  rintro⟨j,l,k3⟩ ⟨hj,hlok,hk3⟩;simp only at hj hlok hk3 ⊢;have P:=hlok.len;refine Z1 O<|Gp O (λhc=>?_) (λhc=>?_)
  .refine Ti<|Z2 O<|Z1 O<|Rs O (cy call26 (iK L k3 3 D hk3 Xj Xj) O O)<|A1 O ?_;refine AW.cond O (λhc=>?_) (λhc=>?_)
   .exact Gr O<|Ar 5 O<|Z2 O<|⟨(j+1,l++[(j:Int)],sNk L k3),Tl [0,1,2,3,4,7] ⟨O,O,O,O,O,O,by simp;rfl,O,O,Xq⟩ ⟨O,O,O,O,O,O,by rw[fm];rfl,Xq⟩ O O Xn O,⟨Xj,hlok.snoc,iN hk3⟩,Xj⟩
   exact Ti<|Z2 O<|⟨(j+1,l,sNk L k3),WA O,⟨Xj,hlok.mono Xj,iN hk3⟩,Xj⟩
  obtain rfl:j=at'.length:=Xj;refine AW.exit ?_;have W:=kW L k3 3 Xj;refine Z1 O<|Rs O (cy call26 (iK L k3 3 D hk3 Xj Xj) O O)<|A1 O<|AW.block<|AW.loop (st:=λx:List (ByteArray×Int)×List Int×Int×Nat=>mkS [(0,.ptr big 0),(1,pIi most),(4,.ptr 0 0),(5,.ptr 1 0),(6,pIi nn),(7,pIi k),(8,.gsl 5 1 x.2.1.length),(10,pIi x.2.2.1)] [(big,yy L x.2.2.2),(0,QS),(1,Re x.1.length rs.length 0 (-1)),(2,.gro 81 (aU x.1)),(3,.gro 33 (aY rs)),(4,.gro 83 []),(5,.gro 3 (aK x.2.1))] 6)
   (I:=λx=>L3 at' x.1 x.2.1 most/\ -1000+x.1.length*(-1)<=x.2.2.1/\x.2.2.1<=1000/\x.2.2.2<=L.length) (μ:=λx=>most-x.1.length) (x0:=(at',l,sNv L k3 3,sNk L k3)) (WA O) ⟨⟨hhead.1,J,AT _,hlok,λa h1 h2=>absurd h2 (Nat.not_lt.2 h1)⟩,Xp,Xp,iN hk3⟩ ?_
  clear hlok P W hk3;rintro⟨at2,l,c,k3⟩ ⟨hmid,hc1,hc2,hk3⟩;simp only at hmid hc1 hc2 hk3 ⊢;have Z:at2.length<=most:=hmid.2.1;have P:=hmid.2.2.2.1.len;have ab:=kI at2;obtain⟨px,hpx,hpick⟩:=sQ L k3 [1,2,2,3] D hk3 Xn Xn;by_cases hcp:0<c
  .refine Z1 O<|Rs O (XJ.cast (v':= .pv (.bool VA)) (ba O O O) Xo)<|Ar 12 O ?_;refine AW.k8 O (λhc=>?_) (λhc=>?_)
   .refine Ti<|Gr O<|Ar 7 O<|UB 14 O<|Dr 5 O<|TR O (λτ h=>aa call27 (fW ⟨#[97]⟩ at2.length Xl Xj) (h.aD O))<|D1 O<|TR O (λτ h=>au UG Xn vY O Xl Xl (h.E0 O O) O)<|VE [_] O (λτ h=>cy call28 hpick (h.args.trans O) (Eo h 0 O O))<|Dr 5 O ?_;refine⟨Xk,?_⟩;refine Z3 O ?_;refine⟨(at2++[(nm 97 at2.length,px)],l++[(at2.length:Int)],c-1,sNk L k3),Tl [0,1,9,3,4,7] ⟨O,O,O,O,O,O,by simp;rfl,O,Xq⟩ ⟨O,O,by simp;rfl,by rw[pX];rfl,O,O,by rw[fm];rfl,Xq⟩ O O Xn O,⟨Bq hmid Xj hpx,by simp only[IN,TP];omega,Xp,iN hk3⟩,?_⟩;simp only[IN,TP];omega
   refine AW.exit ?_;refine AW.cut (st:=λl:List Int=>mkS [(0,.ptr big 0),(1,pIi most),(4,.ptr 0 0),(5,.ptr 1 0),(6,pIi nn),(7,pIi k),(8,.pv (ar l))] [(big,yy L k3),(0,QS),(1,Re at2.length rs.length 0 (-1)),(2,.gro 81 (aU at2)),(3,.gro 33 (aY rs)),(4,.gro 83 [])] 5) (I:=λl=>LP at' at2 l most) ?_ ?_
   .refine Z3 O ?_;have A:l.length=0->most<=at2.length:=Xj;refine AW.cond O (λhc=>?_) (λhc=>?_)
    .have hl0':l=[]:=T6 (by simpa using hc);subst hl0';have hf:=A O;exact Gr O<|Rs O (au UG Xn vY O Xl Xl O O)<|A1 O<|⟨[0],WA O,⟨hmid.1,hmid.2.1,hmid.2.2.1,⟨Xn,Xo⟩,λa h1 h2=>absurd (hmid.2.2.2.2 a h1 h2) Xn⟩,Xn,Xj⟩
    have u:l≠[]:=λe=>by subst e;simp at hc
    have G:0<l.length:=Uq.2 u;exact Ti<|⟨l,St.le.trans (Tn 5 O O) (Tk ⟨O,O,O,O,O,O,by simp[ar];rfl,Xq⟩ (aO O) O O),hmid,u,Xj⟩
   .intro l2 hend;refine UB 10 O<|Dr 3 O<|TR O (λτ h=>aa call27 (fW ⟨#[114]⟩ k Xl Xj) (h.aD O))<|Dr 6 O ?_;refine⟨Xk,?_⟩;refine Z3 O ?_;refine⟨(k+1,at2,rs++[(nm 114 k,l2)],k3),Tl [0,1,2,6,4] (aT O) ⟨O,O,by simp;rfl,O,by rw[nK];rfl,O,Xq⟩ O O Xn O,⟨Xp,qt hhead hend,hk3⟩,Xp⟩
  by_cases hl0:l.length=0
  .refine Z1 O<|Rs O (XJ.cast (v':= .pv (.bool VC)) (ba O O O) Xo)<|Y3 O<|Rg O (XJ.cast (v':= .pv (.bool VA)) (ba O O O) (by simp[hl0]))<|Ar 8 O ?_;refine AW.k8 O (λhc=>?_) (λhc=>?_)
   .refine Ti<|Gr O<|Ar 7 O<|UB 14 O<|Dr 5 O<|TR O (λτ h=>aa call27 (fW ⟨#[97]⟩ at2.length Xl Xj) (h.aD O))<|D1 O<|TR O (λτ h=>au UG Xn vY O Xl Xl (h.E0 O O) O)<|VE [_] O (λτ h=>cy call28 hpick (h.args.trans O) (Eo h 0 O O))<|Dr 5 O ?_;refine⟨Xk,?_⟩;refine Z3 O ?_;refine⟨(at2++[(nm 97 at2.length,px)],l++[(at2.length:Int)],c-1,sNk L k3),Tl [0,1,9,3,4,7] ⟨O,O,O,O,O,O,by simp;rfl,O,Xq⟩ ⟨O,O,by simp;rfl,by rw[pX];rfl,O,O,by rw[fm];rfl,Xq⟩ O O Xn O,⟨Bq hmid Xj hpx,by simp only[IN,TP];omega,Xp,iN hk3⟩,?_⟩;simp only[IN,TP];omega
   refine AW.exit ?_;refine AW.cut (st:=λl:List Int=>mkS [(0,.ptr big 0),(1,pIi most),(4,.ptr 0 0),(5,.ptr 1 0),(6,pIi nn),(7,pIi k),(8,.pv (ar l))] [(big,yy L k3),(0,QS),(1,Re at2.length rs.length 0 (-1)),(2,.gro 81 (aU at2)),(3,.gro 33 (aY rs)),(4,.gro 83 [])] 5) (I:=λl=>LP at' at2 l most) ?_ ?_
   .refine Z3 O ?_;have A:l.length=0->most<=at2.length:=Xj;refine AW.cond O (λhc=>?_) (λhc=>?_)
    .have hl0':l=[]:=T6 (by simpa using hc);subst hl0';have hf:=A O;exact Gr O<|Rs O (au UG Xn vY O Xl Xl O O)<|A1 O<|⟨[0],WA O,⟨hmid.1,hmid.2.1,hmid.2.2.1,⟨Xn,Xo⟩,λa h1 h2=>absurd (hmid.2.2.2.2 a h1 h2) Xn⟩,Xn,Xj⟩
    have u:l≠[]:=λe=>by subst e;simp at hc
    have G:0<l.length:=Uq.2 u;exact Ti<|⟨l,St.le.trans (Tn 5 O O) (Tk ⟨O,O,O,O,O,O,by simp[ar];rfl,Xq⟩ (aO O) O O),hmid,u,Xj⟩
   .intro l2 hend;refine UB 10 O<|Dr 3 O<|TR O (λτ h=>aa call27 (fW ⟨#[114]⟩ k Xl Xj) (h.aD O))<|Dr 6 O ?_;refine⟨Xk,?_⟩;refine Z3 O ?_;refine⟨(k+1,at2,rs++[(nm 114 k,l2)],k3),Tl [0,1,2,6,4] (aT O) ⟨O,O,by simp;rfl,O,by rw[nK];rfl,O,Xq⟩ O O Xn O,⟨Xp,qt hhead hend,hk3⟩,Xp⟩
  have T:((l.length:Int)==0)=VC:=by rw[UU];omega
  refine Z1 O<|Rs O (XJ.cast (v':= .pv (.bool VC)) (ba O O O) Xo)<|Y3 O<|Rg O (XJ.cast (v':= .pv (.bool VC)) (ba O O O) (by rw[T]))<|Ar 8 O<|AW.cond O (λhc=>absurd hc Xn) (λhc=>?_);refine AW.exit<|AW.cut (st:=λl:List Int=>mkS [(0,.ptr big 0),(1,pIi most),(4,.ptr 0 0),(5,.ptr 1 0),(6,pIi nn),(7,pIi k),(8,.pv (ar l))] [(big,yy L k3),(0,QS),(1,Re at2.length rs.length 0 (-1)),(2,.gro 81 (aU at2)),(3,.gro 33 (aY rs)),(4,.gro 83 [])] 5) (I:=λl=>LP at' at2 l most) ?_ ?_
  .refine Z3 O ?_;have A:l.length=0->most<=at2.length:=Xj;refine AW.cond O (λhc=>?_) (λhc=>?_)
   .have hl0':l=[]:=T6 (by simpa using hc);subst hl0';have hf:=A O;exact Gr O<|Rs O (au UG Xn vY O Xl Xl O O)<|A1 O<|⟨[0],WA O,⟨hmid.1,hmid.2.1,hmid.2.2.1,⟨Xn,Xo⟩,λa h1 h2=>absurd (hmid.2.2.2.2 a h1 h2) Xn⟩,Xn,Xj⟩
   have u:l≠[]:=λe=>by subst e;simp at hc
   have G:0<l.length:=Uq.2 u;exact Ti<|⟨l,St.le.trans (Tn 5 O O) (Tk ⟨O,O,O,O,O,O,by simp[ar];rfl,Xq⟩ (aO O) O O),hmid,u,Xj⟩
  .intro l2 hend;refine UB 10 O<|Dr 3 O<|TR O (λτ h=>aa call27 (fW ⟨#[114]⟩ k Xl Xj) (h.aD O))<|Dr 6 O ?_;refine⟨Xk,?_⟩;refine Z3 O ?_;refine⟨(k+1,at2,rs++[(nm 114 k,l2)],k3),Tl [0,1,2,6,4] (aT O) ⟨O,O,by simp;rfl,O,by rw[nK];rfl,O,Xq⟩ O O Xn O,⟨Xp,qt hhead hend,hk3⟩,Xp⟩
 obtain rfl:k=nn:=Xj;have Y:1<=at'.length:=hhead.2.2.2.2.2 Xj;refine AW.exit<|Tj (Tn 2 O O)<|Tj (Tn 3 O O)<|Z4 O<|AW.block<|AW.loop (st:=λx:Nat×List (Int×Int×Int)×Int×Nat=>mkS [(0,.ptr big 0),(4,.ptr 0 0),(5,.ptr 1 0),(86,.pv (.sl UG at'.length (aU at'))),(87,pIi at'.length),(88,pIi x.1)] [(big,yy L x.2.2.2),(0,QS),(1,.mix 30 [.pv (.sl UG at'.length (aU at')),.pv (.sl UG rs.length (aY rs)),.gsl 2 3 x.2.1.length,pIi x.2.2.1]),(2,.gro 83 (aX x.2.1))] 3)
  (I:=λx=>x.1<=at'.length/\fv at' x.2.1 x.2.2.1 x.1/\x.2.2.2<=L.length) (μ:=λx=>at'.length-x.1) (x0:=(0,[], -1,k2)) (Tl [0,1,4] (aT O) (aP O) O O Xn O) ⟨aJ _,⟨Xn,Xn,.inl O⟩,hk2⟩ ?_
 rintro⟨j,fs,lb,k3⟩ ⟨hj,hfs,hk3⟩;simp only at hj hfs hk3 ⊢;have hFl:=kC fs;have hfl:=dS hfs;have T:=si hfs;refine Z1 O<|Gp O (λhc=>?_) (λhc=>?_)
 .have hjl:j<at'.length:=Xj;have u:aU at'≠[]:=λe=>by rw[e]at M;simp at M;omega
  have U:((aU at').drop (j*2)).take 2=[.str at'[j].1,.int .i64 at'[j].2]:=cZ _ 2 (λ_=>rfl) at' j hjl;have B:(at'.getD j default).2=at'[j].2:=by simp[List.getD,hjl]
  refine Ti<|Z2 O<|Rs O (aG ⟨_,underlying81,O⟩ yF O U O)<|Y3 O<|AW.block ?_;generalize at'[j].2=K at B ⊢;generalize at'[j].1=nme;by_cases hK:K=2
  .subst hK;by_cases hl0:lb<0
   .refine Z2 O<|Rs O (XJ.cast (v':= .pv (.bool VA)) (ba O O O) Xn)<|Y3 O<|Rg O (XJ.cast (v':= .pv (.bool VA)) (ba O O O) Xo)<|Y3 O<|Rg O (cy call26 (iK L k3 2 D hk3 Xj Xj) O O)<|Y3 O ?_;have E:=iN hk3;generalize sNk L k3=k4 at E ⊢;refine AW.cond O (λhc=>?_) (λhc=>?_)
    .exact Z3 O<|Z2 O<|⟨(j+1,fs,(j:Int),k4),WA O,⟨Xp,ui hfs B,E⟩,Xp⟩
    refine Z2 O<|Rs O (XJ.cast (v':= .pv (.bool VA)) (ba O O O) Xn)<|Y2 O<|Rg O (cy call26 (iK L k4 4 D E Xj Xj) O O)<|Y3 O ?_;have z:=iN E;generalize sNk L k4=k5 at z ⊢;refine AW.k8 O (λhc=>?_) (λhc=>?_)
    .have hnb:=kW L k5 2 Xj;refine UB 10 O<|Dr 4 O<|VE [_] O (λτ h=>cy call26 (iK L k5 2 D z Xj Xj) (h.args.trans O) (Eo h 0 O O))<|Dr 5 O ?_;refine⟨Xk,?_⟩;exact Z2 O<|⟨(j+1,fs++[((j:Int),1,sNv L k5 2)],lb,sNk L k5),Tl [0,1,5] (aT O) ⟨O,O,by simp only[IN,TP];rfl,ah (λc=>UF (Ob.gro 83 c)) (lK fs ((j:Int),1,sNv L k5 2)).symm,Xq⟩ O O Xn O,⟨Xp,jA hfs Xj (.inl ⟨O,B,Xj⟩),iN z⟩,Xp⟩
    refine Z2 O<|Rs O (XJ.cast (v':= .pv (.bool VC)) (ba O O O) Xn)<|Ar 6 O ?_;refine AW.cond O (λhc=>absurd hc Xn) (λhc=>?_);exact Ti<|Z2 O<|⟨(j+1,fs,lb,k5),WA O,⟨Xp,dX hfs,z⟩,Xp⟩
   refine Z2 O<|Rs O (XJ.cast (v':= .pv (.bool VA)) (ba O O O) Xn)<|Y3 O<|Rg O (XJ.cast (v':= .pv (.bool VC)) (ba O O O) Xo)<|Ar 7 O ?_;refine AW.cond O (λhc=>absurd hc Xn) (λhc=>?_);refine Z2 O<|Rs O (XJ.cast (v':= .pv (.bool VA)) (ba O O O) Xn)<|Y2 O<|Rg O (cy call26 (iK L k3 4 D hk3 Xj Xj) O O)<|Y3 O ?_;have z:=iN hk3;generalize sNk L k3=k5 at z ⊢;refine AW.k8 O (λhc=>?_) (λhc=>?_)
   .have hnb:=kW L k5 2 Xj;refine UB 10 O<|Dr 4 O<|VE [_] O (λτ h=>cy call26 (iK L k5 2 D z Xj Xj) (h.args.trans O) (Eo h 0 O O))<|Dr 5 O ?_;refine⟨Xk,?_⟩;exact Z2 O<|⟨(j+1,fs++[((j:Int),1,sNv L k5 2)],lb,sNk L k5),Tl [0,1,5] (aT O) ⟨O,O,by simp only[IN,TP];rfl,ah (λc=>UF (Ob.gro 83 c)) (lK fs ((j:Int),1,sNv L k5 2)).symm,Xq⟩ O O Xn O,⟨Xp,jA hfs Xj (.inl ⟨O,B,Xj⟩),iN z⟩,Xp⟩
   refine Z2 O<|Rs O (XJ.cast (v':= .pv (.bool VC)) (ba O O O) Xn)<|Ar 6 O ?_;refine AW.cond O (λhc=>absurd hc Xn) (λhc=>?_);exact Ti<|Z2 O<|⟨(j+1,fs,lb,k5),WA O,⟨Xp,dX hfs,z⟩,Xp⟩
  have hKb:(K==2)=VC:=by simpa using hK
  refine Z2 O<|Rs O (XJ.cast (v':= .pv (.bool VC)) (ba O O O) (by rw[hKb]))<|Ar 11 O<|AW.cond O (λhc=>absurd hc Xn) (λhc=>?_);refine Z2 O<|Rs O (XJ.cast (v':= .pv (.bool VC)) (ba O O O) (by rw[hKb]))<|Ar 6 O<|AW.cond O (λhc=>absurd hc Xn) (λhc=>?_);by_cases hK3:K=3
  .subst hK3;refine Z2 O<|Rs O (XJ.cast (v':= .pv (.bool VA)) (ba O O O) Xn)<|Y2 O<|Rg O (cy call26 (iK L k3 4 D hk3 Xj Xj) O O)<|Y3 O<|AW.k8 O (λhc=>?_) (λhc=>?_)
   .exact Gr O<|Ar 8 O<|Z2 O<|⟨(j+1,fs++[((j:Int),2,0)],lb,sNk L k3),Tl [0,1,5] (aT O) ⟨O,O,by simp only[IN,TP];rfl,ah (λc=>UF (Ob.gro 83 c)) (lK fs ((j:Int),2,0)).symm,Xq⟩ O O Xn O,⟨Xp,jA hfs Xj (.inr ⟨O,B,O⟩),iN hk3⟩,Xp⟩
   exact Ti<|Z2 O<|⟨(j+1,fs,lb,sNk L k3),WA O,⟨Xp,dX hfs,iN hk3⟩,Xp⟩
  have hKb3:(K==3)=VC:=by simpa using hK3
  refine Z2 O<|Rs O (XJ.cast (v':= .pv (.bool VC)) (ba O O O) (by rw[hKb3]))<|Ar 6 O<|AW.cond O (λhc=>absurd hc Xn) (λhc=>?_);exact Ti<|Z2 O<|⟨(j+1,fs,lb,k3),WA O,⟨Xp,dX hfs,hk3⟩,Xp⟩
 obtain rfl:j=at'.length:=Xj;refine AW.exit<|Z4 O<|AW.k8 O (λhc=>absurd hc Xj) (λhc=>?_);exact Ti<|Tj (Tn 2 O O)<|Z2 O<|AW.ret<|⟨0,_,schC ⟨at',rs,fs,lb⟩,jq L k3,O,O,O,O,O,⟨⟨at',rs,fs,lb⟩,⟨Y,J,Xp,Xp,hhead.1,hhead.2.1,hhead.2.2.1,hfs⟩,O⟩,k3,hk3,O⟩
end
theorem ibT{a b:Int}(h:(a==b)=VA):a=b:=U6.1 h
theorem ibF{a b:Int}(h:(a==b)=VC):¬a=b:=λe=>by rw[U6.2 e]at h;cases h
theorem inT{a b:Int}(h:(a !=b)=VA):¬a=b:=bne_iff_ne.1 h
theorem inF{a b:Int}(h:(a !=b)=VC):a=b:=by
 by_cases e:a=b
 .exact e
 rw[bne_iff_ne.2 e]at h;cases h
theorem KC(l:List Int)(x:Int)(D:l.length<=1000000000):FnP prog 291 [ar l,.int .i64 x] (λv=>∃i:Int,v= .int .i64 i/\(0<=i↔x∈l)/\ -1<=i/\i<1000000001):=by
 refine FnP.of func291 O ntmps291 Xn λ_ _ _ _=>?_
 refine Z1 O<|Z3 O<|Gz O (st:=λXr:Nat=>([(0,UG),(1,UG),(7,UG),(8,UF (pIi Xr))],[])) 0
  (I:=λXr=>Xr<=l.length/\¬x∈l.take Xr) (μ:=λXr=>l.length-Xr) (x0:=0) (Tk (aS O) trivial O O) Xn ?_
 rintro k ⟨hk,hno⟩;refine Z1 O<|Gp O (λz=>?_) (λz=>?_)
 .have hlt:k<l.length:=Xj;have B:=a6 hlt;have A:=aM hlt;refine Ti<|Z2 O<|Z4 O<|A2 O Xm ?_;refine A1 O ?_;refine Gc O (λu=>?_) (λu=>?_)
  .have hx:l[k]=x:=(ibT u).symm;exact Z2 O<|VF O ⟨_,O,⟨λ_=>hx▸aq hlt,λ_=>by omega⟩,Xj,Xj⟩
  exact Ti<|Z2 O<|⟨(k+1),Tk (aS O) trivial O O,⟨Xj,gJ hlt hno (λe=>ibF u e.symm)⟩,Xj⟩
 exact Gx O<|Z1 O<|VF O ⟨_,O,⟨λh=>absurd h Xl,λh=>absurd (by rwa [aH Xj]) hno⟩,Xj,Xj⟩
theorem uz(l:List Int)(x:Int)(u:l.length<=1000000000):FnP prog 247 [ar l,.int .i64 x] (· = .bool (decide (x∈l))):=by
 refine FnP.of func247 O ntmps247 Xn λ_ _ _ _=>?_
 refine Z1 O<|Z2 O<|RL.call O (ie call291 (KC l x u) O ?_);rintro _ ⟨i,rfl,hi,_,_⟩;exact Y2 O<|VF O<|ah PV.bool (WX.2 hi)
section
open Mk
abbrev bW(l:List ByteArray):List PV:=l.map .str
abbrev bh(l:List ByteArray):PV:= .sl UG l.length (bW l)
theorem bL{l:List ByteArray}(h:k<l.length):(bW l)[k*1]? =UF (.str l[k]):=by simp[h]
theorem bN{l:List ByteArray}(h:k<l.length):bW l≠[]:=by intro e;simp at e;subst e;simp at h
theorem gM{l:List α}{x:α}(z:k<l.length)(h:¬x∈l.take k)(u:¬l[k]=x):¬x∈l.take (k+1):=by grind[AI,TF]
theorem bytes_inj{a b:ByteArray}(h:a.toList=b.toList):a=b:=by grind[ByteArray.toList_eq,ByteArray.ext,Array.toList_inj.1]
theorem baT{a b:ByteArray}(h:(a.toList==b.toList)=VA):a=b:=bytes_inj (U6.1 h)
theorem baF{a b:ByteArray}(h:(a.toList==b.toList)=VC):¬a=b:=by
 rintro rfl;simp at h
theorem H2(l:List ByteArray)(x:ByteArray)(D:l.length<=1000000000):FnP prog 324 [bh l,.str x] (λv=>∃i:Int,v= .int .i64 i/\(0<=i↔x∈l)/\ -1<=i/\i<1000000001):=by
 refine FnP.of func324 O ntmps324 Xn λ_ _ _ _=>?_
 refine Z1 O<|Z3 O<|Gz O (st:=λXr:Nat=>([(0,UG),(1,UG),(7,UG),(8,UF (pIi Xr))],[])) 0
  (I:=λXr=>Xr<=l.length/\¬x∈l.take Xr) (μ:=λXr=>l.length-Xr) (x0:=0) (Tk (aS O) trivial O O) Xn ?_
 rintro k ⟨hk,hno⟩;refine Z1 O<|Gp O (λz=>?_) (λz=>?_)
 .have hlt:k<l.length:=Xj;have B:=bL hlt;have A:=bN hlt;refine Ti<|Z2 O<|Z4 O<|A2 O Xm ?_;refine A1 O ?_;refine Gc O (λu=>?_) (λu=>?_)
  .have hx:l[k]=x:=(baT u).symm;exact Z2 O<|VF O ⟨_,O,⟨λ_=>hx▸aq hlt,λ_=>by omega⟩,Xj,Xj⟩
  exact Ti<|Z2 O<|⟨(k+1),Tk (aS O) trivial O O,⟨Xj,gM hlt hno (λe=>baF u e.symm)⟩,Xj⟩
 exact Gx O<|Z1 O<|VF O ⟨_,O,⟨λh=>absurd h Xl,λh=>absurd (by rwa [aH Xj]) hno⟩,Xj,Xj⟩
theorem rN(l:List ByteArray)(x:ByteArray)(u:l.length<=1000000000):FnP prog 289 [bh l,.str x] (· = .bool (hasB l x)):=by
 refine FnP.of func289 O ntmps289 Xn λ_ _ _ _=>?_
 refine Z1 O<|Z2 O<|RL.call O (ie call324 (H2 l x u) O ?_);rintro _ ⟨i,rfl,hi,_,_⟩;exact Y2 O<|VF O<|ah PV.bool (WX.2 hi)
abbrev c7(l:List Bool):List PV:=l.map .bool
abbrev AJ(l:List Bool):PV:= .sl UG l.length (c7 l)
theorem JL{l:List Bool}(h:k<l.length):(c7 l)[k*1]? =UF (.bool l[k]):=by simp[h]
theorem E9{l:List Bool}(h:k<l.length):c7 l≠[]:=by intro e;simp at e;subst e;simp at h
theorem Js(l:List Bool)(x:Bool)(D:l.length<=1000000000):FnP prog 290 [AJ l,.bool x] (λv=>∃i:Int,v= .int .i64 i/\(0<=i↔x∈l)/\ -1<=i/\i<1000000001):=by
 refine FnP.of func290 O ntmps290 Xn λ_ _ _ _=>?_
 refine Z1 O<|Z3 O<|Gz O (st:=λXr:Nat=>([(0,UG),(1,UG),(7,UG),(8,UF (pIi Xr))],[])) 0
  (I:=λXr=>Xr<=l.length/\¬x∈l.take Xr) (μ:=λXr=>l.length-Xr) (x0:=0) (Tk (aS O) trivial O O) Xn ?_
 rintro k ⟨hk,hno⟩;refine Z1 O<|Gp O (λz=>?_) (λz=>?_)
 .have hlt:k<l.length:=Xj;have B:=JL hlt;have A:=E9 hlt;refine Ti<|Z2 O<|Z4 O<|A2 O Xm ?_;refine A1 O ?_;refine Gc O (λu=>?_) (λu=>?_)
  .have hx:l[k]=x:=(U6.1 u).symm;exact Z2 O<|VF O ⟨_,O,⟨λ_=>hx▸aq hlt,λ_=>by omega⟩,Xj,Xj⟩
  exact Ti<|Z2 O<|⟨(k+1),Tk (aS O) trivial O O,⟨Xj,gM hlt hno (λe=>UU.1 u e.symm)⟩,Xj⟩
 exact Gx O<|Z1 O<|VF O ⟨_,O,⟨λh=>absurd h Xl,λh=>absurd (by rwa [aH Xj]) hno⟩,Xj,Xj⟩
theorem rQ(l:List Bool)(x:Bool)(u:l.length<=1000000000):FnP prog 244 [AJ l,.bool x] (· = .bool (decide (x∈l))):=by
 refine FnP.of func244 O ntmps244 Xn λ_ _ _ _=>?_
 refine Z1 O<|Z2 O<|RL.call O (ie call290 (Js l x u) O ?_);rintro _ ⟨i,rfl,hi,_,_⟩;exact Y2 O<|VF O<|ah PV.bool (WX.2 hi)
theorem pL{l:List UInt8}(h:k<l.length):(aI l)[k*1]? =UF (.int .u8 (l[k].toNat:Int)):=by simp[aI,h]
theorem qa{l:List UInt8}(h:k<l.length):aI l≠[]:=by intro e;simp[aI]at e;subst e;simp at h
def GD(k:Nat)(c:UInt8):Bool:= !(decide ((97:Int)<=c.toNat)&&decide ((c.toNat:Int)<=122))&&(((k:Int)==0)||(((c.toNat:Int) !=45)&&(decide ((c.toNat:Int)<48)||decide ((57:Int)<c.toNat))))
theorem BZ(k:Nat)(c:UInt8):GD k c= !rM k c.toNat:=by
 unfold GD rM;generalize c.toNat=n;have u:((k:Int)==0)= !decide (k≠0):=by grind
 have z:((n:Int) !=45)= !(n==45):=by grind
 have A:(decide ((97:Int)<=n)&&decide ((n:Int)<=122))=decide (97<=n/\n<=122):=by
  rw[TY];simp;omega
 have B:(decide ((n:Int)<48)||decide ((57:Int)<n))= !decide (48<=n/\n<=57):=by
  rw[TY];simp;omega
 rw[u,z,A,B];cases decide (97<=n/\n<=122)<;>cases decide (k≠0)<;>cases (n==45)<;>cases decide (48<=n/\n<=57)<;>rfl
theorem Xt(h:p:=by first|exact ai.le|exact ai.aw|exact Tq):p:=h
theorem xk(s:ByteArray)(H:s.size<=9223372036854775807):FnP prog 203 [.str s] (· = .bool (fE s)):=by
 refine FnP.of func203 O ntmps203 Xn λ_ _ _ _=>?_
 have B:s.data.toList.length=s.size:=Ua;refine Z1 O<|Z4 O<|Gz O (st:=λXr:Nat=>([(0,UG),(7,UG),(8,UG),(9,UF (pIi Xr))],[])) 0
  (I:=λXr=>Xr<=s.data.toList.length/\∀j,j<Xr->rM j (s.data.toList.getD j 0).toNat=VA) (μ:=λXr=>s.data.toList.length-Xr) (x0:=0) (Tk (aS O) trivial O O) (⟨aJ _,λj hj=>absurd hj (VP _)⟩) ?_
 rintro k ⟨hk,hall⟩;refine Z1 O<|Gp O (λA=>?_) (λA=>?_)
 .have hlt:k<s.data.toList.length:=Xj;have E:=pL hlt;have D:=qa hlt;have z:s.data.toList.getD k 0=s.data.toList[k]:=by rw[TO,IS hlt];rfl
  refine Ti<|Z2 O<|A2 O Xm ?_;refine Y2 O ?_;generalize s.data.toList[k]=c at z ⊢;refine Z3 O ?_;apply Tu 3 16 19 [17,18] O Xt
  .intro hb2;exact Y3 O<|Tm Xs O O O
  .intro hb2;exact Y3 O<|Tm Xs O O O
  refine A1 O<|Z3 O ?_;apply Tu 15 22 37 [23,24,25,26,27,28,29,30,31,32,33,34,35,36] O Xt
  .intro hb2;refine Y3 O ?_;apply Tt 11 25 36 [26,27,28,29,30,31,32,33,34,35] O Xt
   .intro hb5;exact Ar 11 O<|Tm Xs O O O
   .intro hb5;refine Y3 O ?_;apply Tu 7 28 35 [29,30,31,32,33,34] O Xt
    .intro hb8;refine Y3 O ?_;apply Tt 3 31 34 [32,33] O Xt
     .intro hb11;exact Y3 O<|Tm Xs O O O
     .intro hb11;exact Y3 O<|Tm Xs O O O
     exact A1 O<|Tm Xs O O O
    .intro hb8;exact Ar 7 O<|Tm Xs O O O
    exact A1 O<|Tm Xs O O O
   exact A1 O<|Tm Xs O O O
  .intro hb2;exact Ar 15 O<|Tm Xs O O O
  have G:_=VA\/_=VC:=Bool.eq_false_or_eq_true (GD k c);refine Gc O (λu=>?_) (λu=>?_)
  .have hc:GD k c=VA:=u;exact Z1 O<|VF O<|ah PV.bool (yI s k Xj (by rw[z];rw[BZ]at hc;simpa using hc)).symm
  have hc:GD k c=VC:=u;exact Ti<|Z2 O<|⟨(k+1),Tk (aS O) trivial O O,⟨Xj,λj hj=>by rcases Vd.1 hj with h|rfl;exact hall j h;rw[z];rw[BZ]at hc;simpa using hc⟩,Xj⟩
 refine Gx O<|Z4 O ?_;apply Tu 4 42 46 [43,44,45] O Xt
 .intro hb3;exact Ar 4 O<|Tm Xs O O O
 .intro hb3;exact Ar 4 O<|Tm Xs O O O
 exact A1 O<|VF O<|ah PV.bool (by rw[BL s (λj hj=>hall j Xj)];rw[TY];simp;omega)
end
def val:List Nat->Nat
 |[]=>0
 |a::l=>a+1000000000*val l
def ae(n:Nat):List Nat:=if n=0 then []else n%1000000000::ae (n/1000000000)
termination_by n
decreasing_by omega
def Lok(l:List Nat):Prop:=∀a∈l,a<1000000000
theorem aV:ae 0=[]:=by rw[ae];rfl
theorem dE(h:n≠0):ae n=n%1000000000::ae (n/1000000000):=by
 conv=>lhs;rw[ae]
 rw[sh h]
theorem aL(n:Nat):val (ae n)=n:=by
 induction n using Nat.strongRecOn with
 | ind n ih=>
   by_cases h:n=0
   .subst h;rw[aV];rfl
   grind[dE,val]
theorem aZ(n:Nat):Lok (ae n):=by
 induction n using Nat.strongRecOn with
 | ind n ih=>
   by_cases h:n=0
   .subst h;rw[aV];intro a ha;simp at ha
   rw[dE h];intro a ha;rcases BY.1 ha with rfl|ha
   .exact UH _ Xl
   exact ih _ Xj a ha
theorem Lok.cons{l:List Nat}(h:Lok (a::l)):a<1000000000/\Lok l:=⟨h a Xn,λb hb=>h b (by simp[hb])⟩
theorem Lok.at{l:List Nat}(h:Lok l)(i:Nat):l.getD i 0<1000000000:=by
 by_cases hi:i<l.length
 .simp only[List.getD,IS hi,V8];exact h _ (aq hi)
 grind
theorem Lok.take{l:List Nat}(h:Lok l)(k:Nat):Lok (l.take k):=λa ha=>h a (Vp ha)
theorem Lok.set{l:List Nat}(h:Lok l)(u:x<1000000000):Lok (l.set k x):=λa ha=>by
 rcases List.mem_or_eq_of_mem_set ha with e|e
 .exact h a e
 rw[e];exact u
theorem Lok.append{l r:List Nat}(h:Lok l)(u:Lok r):Lok (l++r):=λa ha=>(Uf.1 ha).elim (h a) (u a)
theorem Lok.replicate(k:Nat):Lok (List.replicate k 0):=λa ha=>by rw[List.eq_of_mem_replicate ha];decide
theorem dq(l r:List Nat):val (l++r)=val l+1000000000^l.length*val r:=by
 induction l with
 |nil=>simp[val]
 |cons a l ih=>rw[Uz,val,val,ih,IT,Um,Vy,<-U1,Uo (1000000000^l.length) 1000000000,Nat.add_assoc]
theorem jT(l:List Nat)(k:Nat):val l=val (l.take k)+1000000000^(min k l.length)*val (l.drop k):=by
 conv=>lhs;rw[<-Ug k l]
 rw[dq,TC]
theorem sV{l:List Nat}(h:Lok l):val l<1000000000^l.length:=by
 induction l with
 |nil=>simp[val]
 | cons a l ih=>
   have u:=h.cons;have z:=ih u.2;rw[val,IT,Um];have:val l+1<=1000000000^l.length:=z;have:=T9 1000000000 this;rw[Uo (1000000000^l.length)];omega
theorem val_zero{l:List Nat}(h:∀i,l.getD i 0=0):val l=0:=by
 induction l with
 |nil=>rfl
 | cons a l ih=>
   have u:=h 0;simp at u;rw[val,ih (λi=>by simpa using h (i+1)),u]
theorem iH{l:List Nat}(h:Lok l):∀{n:Nat},n<=l.length->(∀i,n<=i->l.getD i 0=0)->(n=0\/l.getD (n-1) 0≠0)->ae (val l)=l.take n:=by
 induction l with
 |nil=>intro n _ _ _;simp[val,aV]
 | cons a l ih=>
   intro n hn hz hl;cases n with
   | zero=>
     have:val (a::l)=0:=val_zero λi=>hz i (aJ _)
     rw[this,aV];rfl
   | succ n=>
     have A:=h.cons;have e:=ih A.2 (n:=n) (by simpa using hn) (λi hi=>by simpa using hz (i+1) Xj) (by grind);have z:val (a::l)≠0:=by
      intro h0;rw[val]at h0;have G:a=0:=Xj;have B:val l=0:=Xj;rw[B,aV]at e;have u:=ah List.length e;simp at u hn;rcases hl with hl|hl
      .omega
      grind
     rw[dE z,val,WE];have D:(a+1000000000*val l)%1000000000=a:=Xj;have E:(a+1000000000*val l)/1000000000=val l:=Xj;rw[D,E,e]
theorem wI(h:n≠0):(ae n).getD ((ae n).length-1) 0≠0:=by
 induction n using Nat.strongRecOn with
 | ind n ih=>
   rw[dE h];by_cases h2:n/1000000000=0
   .rw[h2,aV];simp;omega
   grind
theorem bJ:(ae n).length=0↔n=0:=by grind[aL,T6,aV]
theorem er(n:Nat):n<1000000000^(ae n).length:=by
 have:=sV (aZ n);rwa [aL]at this
theorem AR(h:n≠0):1000000000^((ae n).length-1)<=n:=by
 have z:(ae n).length≠0:=λe=>h (bJ.1 e)
 have A:=wI h;have e:=jT (ae n) ((ae n).length-1);rw[aL,Ul Xj]at e;have u:(ae n).drop ((ae n).length-1)=[(ae n).getD ((ae n).length-1) 0]:=by
  rw[TN Xj,Uu Xj];simp[List.getD,show(ae n).length-1<(ae n).length by omega]
 rw[u]at e;simp only[val,Xa,Vt]at e;have:1000000000^((ae n).length-1)*1<=1000000000^((ae n).length-1)*(ae n).getD ((ae n).length-1) 0:=T9 _ Xj;omega
theorem aR:(ae n).length<=k↔n<1000000000^k:=by
 constructor
 .grind[TM,er,UY]
 .intro h;by_cases h0:n=0
  .subst h0;rw[aV];simp
  apply Nat.le_of_not_lt;intro hk;have u:=AR h0;have z:1000000000^k<=1000000000^((ae n).length-1):=UY Xl Xj;omega
theorem gP(h:(ae a).length<(ae b).length):a<b:=by
 by_cases h0:b=0
 .grind[aV]
 have h1:=AR h0;have u:=er a;have z:1000000000^(ae a).length<=1000000000^((ae b).length-1):=UY Xl Xj;omega
theorem wE(h:ae a=ae b):a=b:=by rw[<-aL a,h,aL]
theorem eV(u:n≠0)(h:n<1000000000):ae n=[n]:=by
 rw[dE u,VU h,VR h,aV]
theorem ph{l r:List Nat}(H:Lok l)(A:l.length=r.length)(B:i<l.length)(I:l.drop (i+1)=r.drop (i+1))(h:l.getD i 0<r.getD i 0):val l<val r:=by
 have u:=jT l i;have z:=jT r i;rw[Ul Xj]at u z;have D:l.drop i=l.getD i 0::l.drop (i+1):=by rw[TN B];simp[List.getD,B]
 have E:r.drop i=r.getD i 0::r.drop (i+1):=by rw[TN Xj];simp[List.getD,show i<r.length by omega]
 rw[D,val]at u;rw[E,val,<-I]at z;have G:=sV (H.take i);rw[TC,Ul Xj]at G;generalize val (l.drop (i+1))=t at*;generalize l.getD i 0=x at*;generalize r.getD i 0=y at*;generalize 1000000000^i=p at*;have J:p*(x+1000000000*t)+p<=p*(y+1000000000*t):=by rw[<-Nat.mul_succ];exact T9 _ Xj
 omega
def sm(f:Nat->Nat):Nat->Nat
 |0=>0
 |i+1=>sm f i+1000000000^i*f i
abbrev lim(l:List Nat)(i:Nat):Nat:=l.getD i 0
theorem eL{l:List Nat}(h:i<l.length):lim l i=l[i]:=by simp[lim,List.getD,h]
theorem js{l:List Nat}(h:l.length<=i):lim l i=0:=by simp[lim,List.getD,h]
theorem vk{f:Nat->Nat}(h:∀i,i<n->f i=g i):sm f n=sm g n:=by
 induction n with
 |zero=>rfl
 |succ n ih=>rw[sm,sm,ih λi hi=>h i Xj,h n Xj]
theorem PI(l:List Nat)(u:n<=l.length):sm (lim l) n=val (l.take n):=by
 induction n with
 |zero=>rw[WI];rfl
 | succ n ih=>
   rw[sm,ih Xj,AI Xj,dq,TC,Ul Xj,eL Xj];simp[val]
theorem eR(l:List Nat)(u:l.length<=n):sm (lim l) n=val l:=by
 induction n with
 | zero=>
   rw[T6 (by omega:l.length=0)];rfl
 | succ n ih=>
   by_cases h:l.length=n+1
   .rw[PI l Xj,aH Xj]
   rw[sm,ih Xj,js Xj,Xa,Vt]
theorem ja{l:List Nat}(u:k<l.length):lim (l.set k x) i=if i=k then x else lim l i:=by grind
theorem Ol{l:List Nat}(u:k<l.length)(z:n<=k):sm (lim (l.set k x)) n=sm (lim l) n:=vk λi hi=>by rw[ja u,sh Xj]
theorem Im{l:List Nat}(u:k<l.length):val (l.set k x)+1000000000^k*l[k]=val l+1000000000^k*x:=by grind[dq,TN,Ug,VK,val,Vy,TC,Ul,WG]
theorem cR{l:List Nat}(h:Lok l)(i:Nat):lim l i<1000000000:=h.at i
theorem MO{f:Nat->Nat}{out:List Nat}(u:i<out.length)(h:sm (lim out) i+1000000000^i*c=sm f i+sm g i):
  sm (lim (out.set i ((f i+g i+c)%1000000000))) (i+1)+1000000000^(i+1)*((f i+g i+c)/1000000000)=sm f (i+1)+sm g (i+1):=by
 rw[sm,Ol u (AT _),ja u,By O,sm,sm,Um];generalize 1000000000^i=p at*;generalize ht:f i+g i+c=t;have e:p*(t%1000000000)+p*1000000000*(t/1000000000)=p*t:=by
  rw[U1,<-Vy,Nat.mod_add_div]
 have z:p*t=p*f i+p*g i+p*c:=by rw[<-ht,Vy,Vy]
 omega
theorem KF{f:Nat->Nat}{out:List Nat}{b':Nat}(u:i<out.length)(h:sm (lim out) i+sm g i=sm f i+1000000000^i*b)(z:x+g i+b=f i+1000000000*b'):
  sm (lim (out.set i x)) (i+1)+sm g (i+1)=sm f (i+1)+1000000000^(i+1)*b':=by
 rw[sm,Ol u (AT _),ja u,By O,sm,sm,Um];generalize 1000000000^i=p at*;have e:p*x+p*g i+p*b=p*f i+p*1000000000*b':=by grind
 omega
theorem vL(n:Nat):0<1000000000^n:=Nat.pow_pos Xl
theorem Qo{V p B:Nat}(h:V+p*B*c=a+b)(D:a<p)(E:b<p)(hB:2<=B):V=a+b:=by
 rcases UJ c with h0|h0
 .grind
 exfalso;have u:p*2<=p*B:=T9 _ hB;have A:p*B*1<=p*B*c:=T9 _ h0;generalize p*B*c=z at*;generalize p*B=y at*;omega
theorem Pw{V p:Nat}(h:V+b=a+p*c)(B:V<p)(u:b<=a):V=a-b:=by
 rcases UJ c with h0|h0
 .grind
 exfalso;have A:p*1<=p*c:=T9 _ h0;generalize p*c=z at*;omega
theorem Pv{out:List Nat}(u:out.length=n+1)(z:a<1000000000^n)(A:b<1000000000^n)(h:sm (lim out) (n+1)+1000000000^(n+1)*c=a+b):val out=a+b:=by
 rw[eR out (UM u),Um]at h;exact Qo h z A Xl
theorem PS{out:List Nat}(z:out.length=n)(A:Lok out)(u:b<=a)(h:sm (lim out) n+b=a+1000000000^n*c):val out=a-b:=by
 rw[eR out (UM z)]at h;have:=sV A;rw[z]at this;exact Pw h this u
theorem BT{out:List Nat}{V y:Nat}{S:Nat}(u:i+k<out.length)(h:val out+1000000000^(i+k)*c=V+1000000000^i*(x*S)):
  val (out.set (i+k) ((lim out (i+k)+x*y+c)%1000000000))+1000000000^(i+k+1)*((lim out (i+k)+x*y+c)/1000000000)=V+1000000000^i*(x*(S+1000000000^k*y)):=by
 have e:=Im (x:=(lim out (i+k)+x*y+c)%1000000000) u;rw[<-eL u]at e;have z:1000000000^i*(x*(S+1000000000^k*y))=1000000000^i*(x*S)+1000000000^(i+k)*(x*y):=by grind
 rw[z,Um 1000000000 (i+k)];generalize 1000000000^(i+k)=p at*;generalize lim out (i+k)=o at*;generalize ht:o+x*y+c=t at*;have A:p*(t%1000000000)+p*1000000000*(t/1000000000)=p*t:=by
  rw[U1,<-Vy,Nat.mod_add_div]
 have B:p*t=p*o+p*(x*y)+p*c:=by rw[<-ht,Vy,Vy]
 omega
theorem EK{a q:List Nat}{r:Nat}(z:i<a.length)(D:q.length=a.length)(E:0<d)(h:val (a.drop (i+1))=d*val (q.drop (i+1))+r):
  val (a.drop i)=d*val ((q.set i ((r*1000000000+lim a i)/d)).drop i)+(r*1000000000+lim a i)%d:=by
 have A:a.drop i=lim a i::a.drop (i+1):=by rw[TN z,eL z]
 have B:(q.set i ((r*1000000000+lim a i)/d)).drop i=((r*1000000000+lim a i)/d)::q.drop (i+1):=by grind[TN,TQ,List.drop_set]
 rw[A,B,val,val,h];generalize lim a i=x;generalize val (q.drop (i+1))=w;have e:=Wx (r*1000000000+x) d;generalize (r*1000000000+x)/d=u at*;generalize (r*1000000000+x)%d=v at*;rw[Vy,Vy,Uo d (1000000000*w),U1,Uo w d];omega
theorem Ht{r:Nat}(u:0<d)(z:r<d)(A:x<1000000000):(r*1000000000+x)/d<1000000000/\(r*1000000000+x)%d<d:=by
 refine⟨?_,UH _ u⟩;rw[V2 u];have:(r+1)*1000000000<=d*1000000000:=UK _ z;rw[Uo 1000000000 d];omega
end Go.Proofs.YtkkenamefaegfaaGreatDoor
