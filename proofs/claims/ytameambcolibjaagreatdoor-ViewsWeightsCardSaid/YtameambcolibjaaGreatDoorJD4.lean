/- Lemmas. No condition. -/
import Derived.Test.YtameambcolibjaaGreatDoorJD3
set_option maxRecDepth 100000
set_option maxHeartbeats 4000000
open Go.RowKit Go.Proofs.Tryz
open Option renaming some→UF,none→UG
open Bool renaming true→VA,false→WA
namespace Go.Proofs.YtameambcolibjaaGreatDoor
variable{p:Prop}{n x b j k i m most a c d:Nat}{o:Operand}{y:Code}{X α β:Type}{t:Tmp}{want:Bool}{ρ g:Nat->Nat}{rd:List Nat}{l r q:List Int}{f:Nat->Int}{lb:Int}
theorem JD{α β:Type _}{a c:α}{b d:β}(h:(a,b)=(c,d)):a=c/\b=d:=Prod.mk.inj h
section
abbrev pIi(i:Int):V:=.pv (.int .i64 i)
abbrev Ya:TI:=⟨.other,1,8,UF [.nilfn]⟩
abbrev UE:PV:=.sl (UF VA) 0 []
abbrev UC(n:Nat):TI:=⟨.sl n,1,24,UF [UE]⟩
abbrev UD(n:Nat)(x:TI):TT:=.node n x .nil .nil
def tb:TT:=
 .node 150 ⟨(.st [(0,1),(1,1),(2,1)]),3,24,UF [(.int .i64 0),(.int .i64 0),(.int .i64 0)]⟩ (.node 57 (UC 59) (.node 28 (UC 150) (.node 8 ⟨(.st [(0,1),(1,1),(2,1),(3,1)]),4,24,UF [(.int .i64 0),(.int .i64 0),(.bool WA),(.int .u8 0)]⟩ (.node 4 ⟨.bool,1,1,UF [(.bool WA)]⟩ (.node 2 ⟨(.int .i64),1,8,UF [(.int .i64 0)]⟩ (UD 1 Ya) (UD 3 ⟨(.int .i64),1,8,UF [(.int .i64 0)]⟩)) (.node 6 ⟨(.int .u8),1,1,UF [(.int .u8 0)]⟩ (UD 5 ⟨(.int .u8),1,1,UF [(.int .u8 0)]⟩) (UD 7 ⟨(.st [(0,1),(1,1),(2,1),(3,1)]),4,24,UF [(.int .i64 0),(.int .i64 0),(.bool WA),(.int .u8 0)]⟩))) (.node 22 (UC 3) (.node 20 ⟨.other,1,16,UF [.niliface]⟩ (UD 9 ⟨.str,1,16,UF [(.str ⟨#[]⟩)]⟩) (UD 21 ⟨(.int .i32),1,4,UF [(.int .i32 0)]⟩)) (.node 26 (UC 142) (UD 24 ⟨.other,1,8,UF [.nilptr]⟩) (UD 27 (UC 116))))) (.node 42 (UC 57) (.node 34 (UC 38) (.node 32 ⟨(.st [(0,1)]),1,24,UF [UE]⟩ (UD 30 ⟨(.st [(0,1),(1,1),(2,1),(3,1)]),4,80,UF [UE,UE,UE,(.int .i64 0)]⟩) (UD 33 (UC 38))) (.node 39 (UC 9) (UD 38 (UC 41)) (UD 41 ⟨(.st [(0,1),(1,1)]),2,32,UF [UE,(.int .i64 0)]⟩))) (.node 47 ⟨(.st [(0,1),(1,1),(2,1)]),3,64,UF [(.str ⟨#[]⟩),UE,UE]⟩ (.node 44 (UC 138) (UD 43 ⟨.str,1,16,UF [(.str ⟨#[]⟩)]⟩) (UD 45 (UC 140))) (.node 50 ⟨(.int .i64),1,8,UF [(.int .i64 0)]⟩ (UD 49 ⟨(.st [(0,1),(1,3)]),4,88,UF [UE,(.str ⟨#[]⟩),UE,UE]⟩) .nil)))) (.node 102 ⟨.other,1,8,UF [.nilmap]⟩ (.node 88 Ya (.node 80 (UC 22) (.node 73 ⟨(.st [(0,1),(1,1)]),2,32,UF [UE,(.int .i64 0)]⟩ (UD 59 ⟨(.st [(0,1),(1,3)]),4,88,UF [UE,(.str ⟨#[]⟩),UE,UE]⟩) (UD 79 ⟨.other,1,8,UF [.nilptr]⟩)) (.node 84 (UC 95) (UD 82 ⟨(.st [(0,1),(1,1),(2,1),(3,1)]),4,96,UF [UE,UE,UE,UE]⟩) (UD 86 ⟨(.st [(0,4),(4,4),(8,1),(9,1),(10,1)]),11,232,UF [UE,UE,UE,(.int .i64 0),UE,UE,UE,UE,UE,UE,(.int .i64 0)]⟩))) (.node 95 ⟨(.st [(0,1),(1,1)]),2,16,UF [.nilmap,.nilmap]⟩ (.node 92 ⟨.other,1,8,UF [.nilmap]⟩ (UD 89 Ya) (UD 93 ⟨.other,1,8,UF [.nilmap]⟩)) (.node 99 ⟨(.st [(0,1),(1,1)]),2,32,UF [(.bool WA),UE]⟩ (UD 97 (UC 262)) (UD 101 ⟨(.st [(0,2),(2,2)]),4,64,UF [(.bool WA),UE,(.bool WA),UE]⟩)))) (.node 127 ⟨.other,1,8,UF [.nilmap]⟩ (.node 116 ⟨(.st [(0,1),(1,1)]),2,40,UF [(.str ⟨#[]⟩),UE]⟩ (.node 105 ⟨(.st [(0,4),(4,1),(5,1)]),6,80,UF [(.bool WA),UE,(.bool WA),UE,.nilmap,.nilmap]⟩ (UD 103 ⟨.other,1,8,UF [.nilmap]⟩) (UD 109 Ya)) (.node 124 ⟨(.st [(0,1),(1,1)]),2,32,UF [(.bool WA),UE]⟩ (UD 119 ⟨.str,1,16,UF [(.str ⟨#[]⟩)]⟩) (UD 126 ⟨(.st [(0,2),(2,2)]),4,64,UF [(.bool WA),UE,(.bool WA),UE]⟩))) (.node 138 ⟨(.st [(0,2),(2,1)]),3,40,UF [(.int .i64 0),(.str ⟨#[]⟩),(.str ⟨#[]⟩)]⟩ (.node 130 ⟨(.st [(0,4),(4,1),(5,1)]),6,80,UF [(.bool WA),UE,(.bool WA),UE,.nilmap,.nilmap]⟩ (UD 128 ⟨.other,1,8,UF [.nilmap]⟩) (UD 136 ⟨(.st [(0,1),(1,1)]),2,24,UF [(.int .i64 0),(.str ⟨#[]⟩)]⟩)) (.node 142 ⟨(.st [(0,1),(1,1)]),2,24,UF [(.str ⟨#[]⟩),(.int .i64 0)]⟩ (UD 140 ⟨(.st [(0,2),(2,2),(4,1)]),5,64,UF [(.int .i64 0),(.str ⟨#[]⟩),(.int .i64 0),(.str ⟨#[]⟩),(.str ⟨#[]⟩)]⟩) .nil))))) (.node 250 Ya (.node 189 Ya (.node 171 (UC 4) (.node 162 ⟨(.int .u64),1,8,UF [(.int .u64 0)]⟩ (.node 160 Ya (UD 158 (UC 162)) (UD 161 ⟨(.int .u64),1,8,UF [(.int .u64 0)]⟩)) (.node 168 (UC 178) (UD 167 Ya) (UD 170 Ya))) (.node 180 ⟨(.st [(0,1),(1,6)]),7,104,UF [UE,(.bool WA),UE,(.bool WA),UE,.nilmap,.nilmap]⟩ (.node 176 (UC 180) (UD 173 ⟨(.st [(0,1),(1,1)]),2,48,UF [UE,UE]⟩) (UD 178 ⟨(.st [(0,1),(1,1)]),2,48,UF [UE,UE]⟩)) (.node 186 (UC 136) (UD 185 Ya) (UD 188 Ya)))) (.node 213 Ya (.node 196 Ya (.node 192 (UC 195) (UD 191 Ya) (UD 195 ⟨(.st [(0,2),(2,2)]),4,48,UF [(.int .i64 0),(.str ⟨#[]⟩),(.int .i64 0),(.str ⟨#[]⟩)]⟩)) (.node 199 Ya (UD 197 Ya) (UD 210 Ya))) (.node 231 (UC 5) (.node 221 ⟨(.arr 2 136),4,48,UF [(.int .i64 0),(.str ⟨#[]⟩),(.int .i64 0),(.str ⟨#[]⟩)]⟩ (UD 215 Ya) (UD 226 Ya)) (.node 239 Ya (UD 235 (UC 50)) .nil)))) (.node 312 ⟨(.int .u64),1,8,UF [(.int .u64 0)]⟩ (.node 287 Ya (.node 263 Ya (.node 260 ⟨(.int .u32),1,4,UF [(.int .u32 0)]⟩ (UD 252 ⟨(.int .i64),1,8,UF [(.int .i64 0)]⟩) (UD 262 ⟨(.int .u64),1,8,UF [(.int .u64 0)]⟩)) (.node 281 (UC 210) (UD 266 ⟨.other,1,8,UF [.nilptr]⟩) (UD 285 Ya))) (.node 299 ⟨.other,1,8,UF [.nilptr]⟩ (.node 296 Ya (UD 289 Ya) (UD 297 Ya)) (.node 304 ⟨.other,1,16,UF [.niliface]⟩ (UD 301 ⟨(.st [(0,1),(1,1)]),2,32,UF [.nilptr,UE]⟩) .nil))) (.node 401 ⟨(.arr 20 262),20,160,UF (List.replicate 20 (.int .u64 0))⟩ (.node 370 ⟨.other,1,8,UF [.nilptr]⟩ (.node 345 ⟨.other,1,8,UF [.nilptr]⟩ (UD 316 ⟨.other,1,8,UF [.nilptr]⟩) (UD 356 ⟨.other,1,8,UF [.nilptr]⟩)) (.node 389 ⟨(.int .i64),1,8,UF [(.int .i64 0)]⟩ (UD 374 ⟨(.arr 24 5),24,24,UF (List.replicate 24 (.int .u8 0))⟩) (UD 391 ⟨.other,1,8,UF [.nilptr]⟩))) (.node 418 ⟨(.st [(0,1)]),1,16,UF [(.str ⟨#[]⟩)]⟩ (.node 412 ⟨(.st [(0,1),(1,1),(2,1)]),3,48,UF [(.str ⟨#[]⟩),(.str ⟨#[]⟩),.niliface]⟩ (UD 402 ⟨(.arr 65 5),65,65,UG⟩) (UD 416 ⟨.other,1,8,UF [.nilptr]⟩)) (.node 421 ⟨(.arr 64 5),64,64,UG⟩ (UD 420 ⟨(.arr 32 5),32,32,UF (List.replicate 32 (.int .u8 0))⟩) .nil)))))
theorem Ez:tb.Ok prog:=TT.ok_of XY
theorem UA(h:p:=by first|exact trivial|omega|exact⟨XX,by first|assumption|(simp;done)⟩|exact⟨by first|assumption|(simp;done),XX⟩|(simp;done)|exact⟨by first|omega|decide,by first|omega|assumption⟩|(simp;omega)):p:=h
section
variable {m0:Gm}{w0:World}{F:Nat->Prop}{R0:RT w0 F}{n:Nat}{σ:St}{ops:Array Oper}{o:Oper}{os:List Oper}{K:St->Prop}{d:Option Tmp}{s:OS}{rd:List Nat}{φ:Prop}{cs:List PV}{off sz:Nat}{p:PV}{vs:List PV}{cl:List (List Nat)}{i:Nat}{is:List Nat}{acc:List It}
theorem A1(h:fj tb ops n σ o=UF (d,⟨s,rd,φ⟩))(k:RL ⟨prog,m0,w0,F,R0⟩ n ops os K (σ.app d s))(u:φ:=by exact UA):RL ⟨prog,m0,w0,F,R0⟩ n ops (o::os) K σ:=RL.auto Ez h k u
theorem A2(h:L6 tb ops n σ o=UF (d,cs,off,rd))(u:cs[off]? =UF p)(k:RL ⟨prog,m0,w0,F,R0⟩ n ops os K (σ.app d ⟨.pv p,[],[]⟩)):RL ⟨prog,m0,w0,F,R0⟩ n ops (o::os) K σ:=
 have ⟨h1,h2,h3⟩:=tz Ez h u
 RL.with h1 h2 (h3 σ (λ_ _=>rfl) (λ_ _=>rfl)) k
theorem A3(h:Kz tb ops n σ o=UF (d,cs,off,sz,rd))(u:(cs.drop off).take sz=vs)(k:RL ⟨prog,m0,w0,F,R0⟩ n ops os K (σ.app d ⟨.pv (.agg vs),[],[]⟩))(z:vs.length=sz:=by rfl):RL ⟨prog,m0,w0,F,R0⟩ n ops (o::os) K σ:=
 have ⟨h1,h2,h3⟩:=tc Ez h u z
 RL.with h1 h2 (h3 σ (λ_ _=>rfl) (λ_ _=>rfl)) k
theorem D1(u:(ops[i]?,fj tb ops n σ o)=(UF o,UF (d,⟨s,rd,φ⟩)))(k:DL ⟨prog,m0,w0,F,R0⟩ n ops cl is (⟨i,o,s,s.wr.map (·.1),s.nw,rd⟩::acc) K (σ.app d s))(hc:iw ops n cl ⟨i,o,s,s.wr.map (·.1),s.nw,rd⟩ acc=VA:=by kernel_rfl)(hφ:φ:=by exact UA):DL ⟨prog,m0,w0,F,R0⟩ n ops cl (i::is) acc K σ:=have ⟨u,h⟩:=JD u;DL.auto Ez u h k hφ hc
theorem D2(u:ops[i]? =UF o)(h:L6 tb ops n σ o=UF (d,cs,off,rd))(z:cs[off]? =UF p)(k:DL ⟨prog,m0,w0,F,R0⟩ n ops cl is (⟨i,o,⟨.pv p,[],[]⟩,[],[],rd⟩::acc) K (σ.app d ⟨.pv p,[],[]⟩))(hc:iw ops n cl ⟨i,o,⟨.pv p,[],[]⟩,[],[],rd⟩ acc=VA:=by kernel_rfl):
  DL ⟨prog,m0,w0,F,R0⟩ n ops cl (i::is) acc K σ:=
 have ⟨h1,h2,h3⟩:=tz Ez h z
 DL.with rd u h1 h2 (λτ ha=>h3 τ (Ty ha) (SL ha)) k hc
theorem D3(u:ops[i]? =UF o)(h:Kz tb ops n σ o=UF (d,cs,off,sz,rd))(z:(cs.drop off).take sz=vs)(k:DL ⟨prog,m0,w0,F,R0⟩ n ops cl is (⟨i,o,⟨.pv (.agg vs),[],[]⟩,[],[],rd⟩::acc) K (σ.app d ⟨.pv (.agg vs),[],[]⟩))(A:vs.length=sz:=by rfl)
  (hc:iw ops n cl ⟨i,o,⟨.pv (.agg vs),[],[]⟩,[],[],rd⟩ acc=VA:=by kernel_rfl):DL ⟨prog,m0,w0,F,R0⟩ n ops cl (i::is) acc K σ:=
 have ⟨h1,h2,h3⟩:=tc Ez h z A
 DL.with rd u h1 h2 (λτ ha=>h3 τ (Ty ha) (SL ha)) k hc
end
end
section
def jG(C:Ctx)(n:Nat):Code->(Exit->St->Prop)->Code×(Exit->St->Prop)
 |.seq x y,Q=>jG C n x (E1 (AW C n y Q) Q)
 |.block id x,Q=>jG C n x (yn id Q)
 |c,Q=>(c,Q)
theorem eS{C:Ctx}{σ:St}:∀(c:Code)(Q:Exit->St->Prop),AW C n (jG C n c Q).1 (jG C n c Q).2 σ->AW C n c Q σ
 |.seq x y,Q,h=>TZ (eS x _ h)
 |.block _ x,Q,h=>AW.block (eS x _ h)
 |.skip,_,h=>h
 |.region ..,_,h=>h
 |.cond ..,_,h=>h
 |.loop ..,_,h=>h
 |.rangeFunc ..,_,h=>h
 |.exit ..,_,h=>h
 |.scope ..,_,h=>h
 |.label ..,_,h=>h
 |.goto ..,_,h=>h
 |.ret,_,h=>h
 |.refuse ..,_,h=>h
section
variable {C:Ctx}{n:Nat}{c:Code}{Q Q':Exit->St->Prop}{σ:St}{id:Nat}{ops:Array Oper}
theorem Gr(h:jG C n c Q=(.region id ops WA,Q'))(k:RL C n ops ops.toList (Q' .normal) σ):AW C n c Q σ:=
 eS c Q (h▸AW.region k)
theorem Gt(h:jG C n c Q=(.ret,Q'))(k:Q' .ret σ):AW C n c Q σ:=eS c Q (h▸AW.ret k)
theorem Gx(h:jG C n c Q=(.exit id,Q'))(k:Q' (.exit id) σ):AW C n c Q σ:=eS c Q (h▸AW.exit k)
theorem Gp{x:Code}[Decidable p](h:(jG C n c Q,σ.ev n o)=((.cond o x y,Q'),.pv (.bool (decide p))))(u:p->AW C n x Q' σ)(z:¬p->AW C n y Q' σ):AW C n c Q σ:=have ⟨h,hc⟩:=JD h;eS c Q (h▸AW.k7 hc u z)
theorem Gc{x:Code}{b:Bool}(h:(jG C n c Q,σ.ev n o)=((.cond o x y,Q'),.pv (.bool b)))(u:b=VA->AW C n x Q' σ)(z:b=WA->AW C n y Q' σ):AW C n c Q σ:=have ⟨h,hc⟩:=JD h;eS c Q (h▸AW.cond hc u z)
theorem Gl {b:Code}  (h:jG C n c Q=(.loop b,Q')) (st:X->St) (I:X->Prop) (μ:X->Nat) (x0:X) (u:σ.le (st x0)) (z:I x0)
  (round:∀x,I x->AW C n b (E1 (λs=>∃x',s.le (st x')/\I x'/\μ x'<μ x) Q') (st x)):AW C n c Q σ:=eS c Q (h▸AW.loop st I μ x0 u z round)
def kS(σ:St)(q:List (Nat×Option V)×List (Nat×Option Ob))(k:Nat):St:=mkS (q.1.map λp=>(p.1,p.2.getD (σ.sl p.1))) (q.2.map λp=>(p.1,p.2.getD ((σ.ob p.1).getD (.gro 0 [])))) k
theorem Gz {b:Code}  (h:jG C n c Q=(.loop b,Q')) (st:X->List (Nat×Option V)×List (Nat×Option Ob)) (k:Nat) (I:X->Prop) (μ:X->Nat) (x0:X) (u:σ.le (kS σ (st x0) k)) (z:I x0)
  (round:∀x,I x->AW C n b (E1 (λs=>∃x',s.le (kS σ (st x') k)/\I x'/\μ x'<μ x) Q') (kS σ (st x) k)):AW C n c Q σ:=eS c Q (h▸AW.loop (λx=>kS σ (st x) k) I μ x0 u z round)
theorem Gd(h:jG C n c Q=(.region id ops VA,Q'))(A:C.P.follows .mixedOrders=VA)(cl:List (List Nat))(is:List Nat)(z:Kc ops.toList []=cl)(u:jH 0 ops.toList=VA)(k:DL C n ops cl is [] (Q' .normal) σ):AW C n c Q σ:=
 eS c Q (h▸AW.draw A cl is z u k)
end
section
variable {m0:Gm}{w0:World}{F:Nat->Prop}{R0:RT w0 F}{n id:Nat}{σ:St}{c:Code}{Q Q':Exit->St->Prop}{ops:Array Oper}{o o1 o2 o3 o4:Oper}{os:List Oper}{K:St->Prop}{d d1 d2 d3 d4:Option Tmp}{s s1 s2 s3 s4:OS}{rd rd1 rd2 rd3 rd4:List Nat}{φ φ1 φ2 φ3 φ4:Prop}
theorem Y2(u:(fj tb ops n σ o1,fj tb ops n (σ.app d1 s1) o2)=(UF (d1,⟨s1,rd1,φ1⟩),UF (d2,⟨s2,rd2,φ2⟩)))(k:RL ⟨prog,m0,w0,F,R0⟩ n ops os K ((σ.app d1 s1).app d2 s2))(g1:φ1:=by exact UA)(g2:φ2:=by exact UA):RL ⟨prog,m0,w0,F,R0⟩ n ops (o1::o2::os) K σ:=have ⟨u,h2⟩:=JD u;(A1 u (A1 h2 k g2) g1)
theorem Y3(u:(fj tb ops n σ o1,fj tb ops n (σ.app d1 s1) o2,fj tb ops n ((σ.app d1 s1).app d2 s2) o3)=(UF (d1,⟨s1,rd1,φ1⟩),UF (d2,⟨s2,rd2,φ2⟩),UF (d3,⟨s3,rd3,φ3⟩)))(k:RL ⟨prog,m0,w0,F,R0⟩ n ops os K (((σ.app d1 s1).app d2 s2).app d3 s3))(g1:φ1:=by exact UA)(g2:φ2:=by exact UA)(g3:φ3:=by exact UA):RL ⟨prog,m0,w0,F,R0⟩ n ops (o1::o2::o3::os) K σ:=have ⟨u,q_⟩:=JD u;have ⟨h2,h3⟩:=JD q_;(A1 u (A1 h2 (A1 h3 k g3) g2) g1)
theorem Z1(h:(jG ⟨prog,m0,w0,F,R0⟩ n c Q,fj tb ⟨o1::os⟩ n σ o1)=((.region id ⟨o1::os⟩ WA,Q'),UF (d1,⟨s1,rd1,φ1⟩)))(k:RL ⟨prog,m0,w0,F,R0⟩ n ⟨o1::os⟩ os (Q' .normal) (σ.app d1 s1))(g1:φ1:=by exact UA):AW ⟨prog,m0,w0,F,R0⟩ n c Q σ:=have ⟨h,h1⟩:=JD h;Gr h (A1 h1 k g1)
theorem Z2(h:(jG ⟨prog,m0,w0,F,R0⟩ n c Q,fj tb ⟨o1::o2::os⟩ n σ o1,fj tb ⟨o1::o2::os⟩ n (σ.app d1 s1) o2)=((.region id ⟨o1::o2::os⟩ WA,Q'),UF (d1,⟨s1,rd1,φ1⟩),UF (d2,⟨s2,rd2,φ2⟩)))(k:RL ⟨prog,m0,w0,F,R0⟩ n ⟨o1::o2::os⟩ os (Q' .normal) ((σ.app d1 s1).app d2 s2))(g1:φ1:=by exact UA)(g2:φ2:=by exact UA):AW ⟨prog,m0,w0,F,R0⟩ n c Q σ:=have ⟨h,q_⟩:=JD h;have ⟨h1,h2⟩:=JD q_;Gr h (A1 h1 (A1 h2 k g2) g1)
theorem Z3(h:(jG ⟨prog,m0,w0,F,R0⟩ n c Q,fj tb ⟨o1::o2::o3::os⟩ n σ o1,fj tb ⟨o1::o2::o3::os⟩ n (σ.app d1 s1) o2,fj tb ⟨o1::o2::o3::os⟩ n ((σ.app d1 s1).app d2 s2) o3)=((.region id ⟨o1::o2::o3::os⟩ WA,Q'),UF (d1,⟨s1,rd1,φ1⟩),UF (d2,⟨s2,rd2,φ2⟩),UF (d3,⟨s3,rd3,φ3⟩)))(k:RL ⟨prog,m0,w0,F,R0⟩ n ⟨o1::o2::o3::os⟩ os (Q' .normal) (((σ.app d1 s1).app d2 s2).app d3 s3))(g1:φ1:=by exact UA)(g2:φ2:=by exact UA)(g3:φ3:=by exact UA):AW ⟨prog,m0,w0,F,R0⟩ n c Q σ:=have ⟨h,q_⟩:=JD h;have ⟨h1,q_⟩:=JD q_;have ⟨h2,h3⟩:=JD q_;Gr h (A1 h1 (A1 h2 (A1 h3 k g3) g2) g1)
theorem Z4(h:(jG ⟨prog,m0,w0,F,R0⟩ n c Q,fj tb ⟨o1::o2::o3::o4::os⟩ n σ o1,fj tb ⟨o1::o2::o3::o4::os⟩ n (σ.app d1 s1) o2,fj tb ⟨o1::o2::o3::o4::os⟩ n ((σ.app d1 s1).app d2 s2) o3,fj tb ⟨o1::o2::o3::o4::os⟩ n (((σ.app d1 s1).app d2 s2).app d3 s3) o4)=((.region id ⟨o1::o2::o3::o4::os⟩ WA,Q'),UF (d1,⟨s1,rd1,φ1⟩),UF (d2,⟨s2,rd2,φ2⟩),UF (d3,⟨s3,rd3,φ3⟩),UF (d4,⟨s4,rd4,φ4⟩)))(k:RL ⟨prog,m0,w0,F,R0⟩ n ⟨o1::o2::o3::o4::os⟩ os (Q' .normal) ((((σ.app d1 s1).app d2 s2).app d3 s3).app d4 s4))(g1:φ1:=by exact UA)(g2:φ2:=by exact UA)(g3:φ3:=by exact UA)(g4:φ4:=by exact UA):AW ⟨prog,m0,w0,F,R0⟩ n c Q σ:=have ⟨h,q_⟩:=JD h;have ⟨h1,q_⟩:=JD q_;have ⟨h2,q_⟩:=JD q_;have ⟨h3,h4⟩:=JD q_;Gr h (A1 h1 (A1 h2 (A1 h3 (A1 h4 k g4) g3) g2) g1)
end
section
variable {C:Ctx}{n i:Nat}{σ:St}{ops:Array Oper}{o:Oper}{os:List Oper}{K:St->Prop}{s:OS}{cl:List (List Nat)}{is:List Nat}{acc:List It}
theorem Rs(u:(o.guard,o.dst)=(UG,UF t))(z:XJ C n o σ s)(h:RL C n ops os K (σ.app (UF t) s)):RL C n ops (o::os) K σ:=have ⟨u,hd⟩:=JD u;RL.step u hd z h
theorem Rg(u:(o.guard,o.dst,σ.ev n (.tmp (((ops[j]?).bind (·.dst)).getD n)))=(UF (j,want),UF t,.pv (.bool want)))(z:XJ C n o σ s)(h:RL C n ops os K (σ.app (UF t) s)):RL C n ops (o::os) K σ:=have ⟨u,q_⟩:=JD u;have ⟨hd,hb⟩:=JD q_;RL.stepG u hd hb z h
theorem Ds(rd:List Nat)(u:(ops[i]?,o.guard,o.dst)=(UF o,UG,UF t))(z:∀ τ,Agr n ops o σ τ s rd->XJ C n o τ s)(A:s.nw.all σ.av=VA)(hc:iw ops n cl ⟨i,o,s,s.wr.map (·.1),s.nw,rd⟩ acc=VA)(h:DL C n ops cl is (⟨i,o,s,s.wr.map (·.1),s.nw,rd⟩::acc) K (σ.app (UF t) s)):DL C n ops cl (i::is) acc K σ:=have ⟨u,q_⟩:=JD u;have ⟨hg,hd⟩:=JD q_;DL.step rd u hg hd z A hc h
theorem Dg(rd:List Nat)(u:(ops[i]?,o.guard,o.dst,σ.ev n (.tmp (((ops[j]?).bind (·.dst)).getD n)))=(UF o,UF (j,want),UF t,.pv (.bool want)))(z:∀τ,Agr n ops o σ τ s rd->XJ C n o τ s)(A:s.nw.all σ.av=VA)(hc:iw ops n cl ⟨i,o,s,s.wr.map (·.1),s.nw,rd⟩ acc=VA)(h:DL C n ops cl is (⟨i,o,s,s.wr.map (·.1),s.nw,rd⟩::acc) K (σ.app (UF t) s)):DL C n ops cl (i::is) acc K σ:=have ⟨u,q_⟩:=JD u;have ⟨hg,q_⟩:=JD q_;have ⟨hd,hb⟩:=JD q_;DL.stepG rd u hg hd hb z A hc h
theorem aS:∀{l:List (Nat×V)},l.map (λp=>σ.sl p.1)=l.map (·.2)->GY σ l
 |[],_=>trivial
 |_::_,h=>⟨(XD h).1,aS (XD h).2⟩
theorem aO:∀{l:List (Nat×Ob)},l.map (λp=>σ.ob p.1)=l.map (λp=>UF p.2)->Jj σ l
 |[],_=>trivial
 |_::_,h=>⟨(XD h).1,aO (XD h).2⟩
theorem aT:∀{l:List (Nat×V)},l.map (λp=>σ.sl p.1)=l.map (λp=>p.2.ren ρ)->sL σ ρ l
 |[],_=>trivial
 |_::_,h=>⟨(XD h).1,aT (XD h).2⟩
theorem aP:∀{l:List (Nat×Ob)},l.map (λp=>σ.ob (ρ p.1))=l.map (λp=>UF (p.2.ren ρ))->gJ σ ρ l
 |[],_=>trivial
 |_::_,h=>⟨(XD h).1,aP (XD h).2⟩
end
section
variable {C:Ctx}{n i:Nat}{σ τ:St}{ops:Array Oper}{o:Oper}{s:OS}{c:Code}{Q Q':Exit->St->Prop}{id:Nat}
theorem Ee(h:Agr n ops o σ τ s rd)(i:Nat){x:Operand}{v:V}(u:o.op.operands.toList[i]? =UF x)(z:σ.ev n x=v):τ.ev n x=v:=(h.e i x u).trans z
theorem Eo(h:Agr n ops o σ τ s rd)(i:Nat){id:Nat}{v:Option Ob}(u:rd[i]? =UF id)(z:σ.ob id=v):τ.ob id=v:=(h.o i id u).trans z
theorem Wk(l:List (Nat×V))(os:List (Nat×Ob))(k:Nat)(u:GY σ l)(z:Jj σ os)(A:l.all (λp=>p.2.okA k)=VA)(B:os.all (λp=>(Nat.blt p.1 k||Nat.ble big p.1)&&p.2.okA k)=VA)(h:AW C n c Q (mkS l os k)):AW C n c Q σ:=
 TN (TO u z A B) h
theorem Ge(h:jG C n c Q=(.region id ops VA,Q'))(z:C.P.follows .mixedOrders=VA)(is:List Nat)(u:jH 0 ops.toList=VA)(k:DL C n ops (Kc ops.toList []) is [] (Q' .normal) σ):AW C n c Q σ:=
 Gd h z _ is O u k
theorem UB(m:Nat){m0:Gm}{w0:World}{F:Nat->Prop}{R0:RT w0 F}(h:jG ⟨prog,m0,w0,F,R0⟩ n c Q=(.region id ops VA,Q'))(k:DL ⟨prog,m0,w0,F,R0⟩ n ops (Kc ops.toList []) (List.range m) [] (Q' .normal) σ)(u:jH 0 ops.toList=VA:=by kernel_rfl):AW ⟨prog,m0,w0,F,R0⟩ n c Q σ:=Ge h follows (List.range m) u k
abbrev nS:PV:=.sl (UF VA) 0 []
end
def runA(ops:Array Oper)(n:Nat):Nat->St->List Oper->Option (St×List Oper×Prop)
 |0,σ,os=>UF (σ,os,True)
 |_+1,_,[]=>UG
 | k+1,σ,o::os=>match fj tb ops n σ o with
   | some (d,⟨s,_,φ⟩)=>match runA ops n k (σ.app d s) os with
     |some (τ,os',ψ)=>UF (τ,os',φ/\ψ)
     |none=>UG
   |none=>UG
def runD(ops:Array Oper)(n:Nat):Nat->St->List Nat->List It->Option (St×List Nat×List It×Prop)
 |0,σ,is,acc=>UF (σ,is,acc,True)
 |_+1,_,[],_=>UG
 | k+1,σ,i::is,acc=>match ops[i]? with
   | some o=>match fj tb ops n σ o with
     | some (d,⟨s,rd,φ⟩)=>match runD ops n k (σ.app d s) is (⟨i,o,s,s.wr.map (·.1),s.nw,rd⟩::acc)with
       |some (τ,is',acc',ψ)=>UF (τ,is',acc',φ/\ψ)
       |none=>UG
     |none=>UG
   |none=>UG
def okD(ops:Array Oper)(n:Nat)(cl:List (List Nat)):Nat->St->List Nat->List It->Bool
 |0,_,_,_=>VA
 |_+1,_,[],_=>WA
 | k+1,σ,i::is,acc=>match ops[i]? with
   | some o=>match fj tb ops n σ o with
     |some (d,⟨s,rd,_⟩)=>iw ops n cl ⟨i,o,s,s.wr.map (·.1),s.nw,rd⟩ acc&&okD ops n cl k (σ.app d s) is (⟨i,o,s,s.wr.map (·.1),s.nw,rd⟩::acc)
     |none=>WA
   |none=>WA
section
variable {m0:Gm}{w0:World}{F:Nat->Prop}{R0:RT w0 F}{n:Nat}{σ τ:St}{ops:Array Oper}{os os':List Oper}{K:St->Prop}{φ:Prop}{cl:List (List Nat)}{is is':List Nat}{acc acc':List It}
theorem Ar(k:Nat)(h:runA ops n k σ os=UF (τ,os',φ))(r:RL ⟨prog,m0,w0,F,R0⟩ n ops os' K τ)(u:φ:=by repeat' (first|with_reducible refine And.intro ?_ ?_|exact trivial|omega|assumption|decide|(simp;done)|(simp;omega))):RL ⟨prog,m0,w0,F,R0⟩ n ops os K σ:=by
 induction k generalizing σ os φ with
 |zero=>cases h;exact r
 | succ k ih=>
   cases os with
   |nil=>cases h
   | cons o os=>
     unfold runA at h;split at h
     .rename_i h1;split at h
      .rename_i h2;cases h;exact RL.auto Ez h1 (ih h2 u.2) u.1
      cases h
     cases h
theorem Dr(k:Nat)(h:runD ops n k σ is acc=UF (τ,is',acc',φ))(r:DL ⟨prog,m0,w0,F,R0⟩ n ops cl is' acc' K τ)(hc:okD ops n cl k σ is acc=VA:=by kernel_rfl)(hφ:φ:=by repeat' (first|with_reducible refine And.intro ?_ ?_|exact trivial|omega|assumption|decide|(simp;done)|(simp;omega))):DL ⟨prog,m0,w0,F,R0⟩ n ops cl is acc K σ:=by
 induction k generalizing σ is acc φ with
 |zero=>cases h;exact r
 | succ k ih=>
   cases is with
   |nil=>cases h
   | cons i is=>
     unfold runD at h;unfold okD at hc;split at h
     .rename_i ho;rw[ho]at hc;simp only at hc;split at h
      .rename_i h1;rw[h1]at hc;simp only[dO]at hc;split at h
       .rename_i h2;cases h;exact DL.auto Ez ho h1 (ih h2 hc.2 hφ.2) hφ.1 hc.1
       cases h
      cases h
     cases h
end
end
abbrev aq(l:List Int):PV:=.sl UG l.length (l.map (.int .i64))
theorem a7(h:k<l.length):(l.map (PV.int .i64))[k*1]? =UF (.int .i64 l[k]):=by simp[h]
theorem aM(h:k<l.length):l.map (PV.int .i64)≠[]:=by intro e;simp at e;subst e;simp at h
theorem gE{x:Int}(z:k<l.length)(h:¬x∈l.take k)(u:¬l[k]=x):¬x∈l.take (k+1):=by grind[sh,IT]
theorem ln(l:List Int)(x:Int)(A:l.length<=1000000000):FnP prog 41 [aq l,.int .i64 x] (· = .bool (decide (x∈l))):=by
 refine FnP.of func41 O ntmps41 X2 λ_ _ _ _=>?_
 refine TZ<|AW.region<|A1 O<|TZ<|TZ<|AW.region<|Y3 O<|AW.block<|AW.loop (st:=λk:Nat=>mkS [(1,pIi x),(7,.pv (aq l)),(8,pIi l.length),(9,pIi k)] [] 0) (I:=λk=>k<=l.length/\¬x∈l.take k) (μ:=λk=>l.length-k) (x0:=0) (TO (aS O) trivial O O) X2 (λk hx=>?_);obtain⟨hk,hno⟩:=hx;refine TZ<|AW.region<|A1 O<|TZ<|AW.k7 O (λhc=>?_) (λhc=>?_)
 .have hlt:k<l.length:=XX;have z:=a7 hlt;have u:=aM hlt;refine TM<|TZ<|AW.block<|TZ<|AW.region<|A1 O ?_;first|refine A2 O X0 ?_|refine A1 O ?_
  refine A1 O<|TZ<|AW.region<|Y3 O<|AW.cond O (λhc=>?_) (λhc=>?_)
  .refine TZ<|AW.region<|A1 O<|AW.ret ?_;refine⟨_,_,O,O,ah PV.bool (?_:VA=_)⟩;have:l[k]=x:=by simpa using hc
   simp[<-this]
  refine TM<|AW.region<|Y2 O ?_;refine⟨k+1,TO (aS O) trivial O O,⟨XX,gE hlt hno (by simpa using hc)⟩,XX⟩
 refine AW.exit<|TZ<|AW.region<|A1 O<|AW.ret ?_;refine⟨_,_,O,O,ah PV.bool (?_:WA=_)⟩;rw[aG XX]at hno;simp[hno]
theorem HF(l:List Int)(x:Int)(u:l.length<=1000000000):FnP prog 10 [aq l,.int .i64 x] (· = .bool (decide (x∈l))):=by
 refine FnP.of func10 O ntmps10 X2 λ_ _ _ _=>?_
 exact TZ<|AW.region<|A1 O<|TZ<|AW.region<|Y2 O<|Rs O (aa call41 (ln l x u) O)<|A1 O<|AW.ret<|⟨_,_,O,O,O⟩
theorem Ew(u:l.length=r.length)(k:Nat)(z:l.length<=k)(h:l.take k=r.take k):l=r:=by
 rwa [aG z,aG XX]at h
theorem Ii(u:k<l.length)(z:k<r.length)(h:l.take k=r.take k)(A:l[k]=r[k]):l.take (k+1)=r.take (k+1):=by
 rw[sh u,sh z,h,A]
theorem Hm(l r:List Int)(G:l.length<=1000000000)(H:r.length<=1000000000):FnP prog 17 [aq l,aq r] (· = .bool (decide (l=r))):=by
 refine FnP.of func17 O ntmps17 X2 λ_ _ _ _=>?_
 refine TZ<|AW.region<|A1 O<|TZ<|TZ<|AW.region<|Ar 5 O<|AW.cond O (λhc=>?_) (λhc=>?_)
 .refine TZ<|AW.region<|A1 O<|AW.ret ?_;refine⟨_,_,O,O,ah PV.bool (?_:WA=_)⟩;have z:l.length≠r.length:=by intro e;simp[e]at hc
  simp only[Bool.false_eq,Vt];intro e;exact z (by rw[e])
 refine TM ?_;have A:l.length=r.length:=by simp at hc;omega
 refine TZ<|TZ<|AW.region<|Y3 O<|AW.block<|AW.loop (st:=λk:Nat=>mkS [(0,.pv (aq l)),(1,.pv (aq r)),(12,pIi l.length),(13,pIi k)] [] 0) (I:=λk=>k<=l.length/\l.take k=r.take k) (μ:=λk=>l.length-k) (x0:=0) (TO (aS O) trivial O O) X2 (λk hx=>?_);obtain⟨hk,heq⟩:=hx;refine TZ<|AW.region<|A1 O<|TZ<|AW.k7 O (λhc=>?_) (λhc=>?_)
 .have hlt:k<l.length:=XX;have u:k<r.length:=XX;have E:=a7 hlt;have z:=aM hlt;have D:=a7 u;have B:=aM u;refine TM<|TZ<|AW.block<|TZ<|AW.region<|Y2 O<|TZ<|UB 9 O<|Dr 3 O ?_;first|refine D2 O O X0 ?_|refine D1 O ?_
  refine Dr 3 O ?_;first|refine D2 O O X0 ?_|refine D1 O ?_
  refine D1 O ?_;refine⟨XY,?_⟩;refine AW.cond O (λhc=>?_) (λhc=>?_)
  .refine TZ<|AW.region<|A1 O<|AW.ret ?_;refine⟨_,_,O,O,ah PV.bool (?_:WA=_)⟩;have z:l[k]≠r[k]:=by simpa using hc
   simp only[Bool.false_eq,Vt];intro e;subst e;exact z O
  refine TM<|AW.region<|Y2 O ?_;refine⟨k+1,TO (aS O) trivial O O,⟨XX,Ii hlt u heq (by simpa using hc)⟩,XX⟩
 refine AW.exit<|TZ<|AW.region<|A1 O<|AW.ret ?_;refine⟨_,_,O,O,ah PV.bool (?_:VA=_)⟩;simp[Ew A k XX heq]
theorem mod_eq(x n:Int)(h:1<=n):(x.tmod n+n).tmod n=x%n:=by
 have u:n≠0:=XX;by_cases hx:0<=x
 .rw[Int.tmod_eq_emod_of_nonneg hx,Int.tmod_eq_emod_of_nonneg (by have:=Int.emod_nonneg x u;omega),Int.add_emod_right,Int.emod_emod_of_dvd _ (Int.dvd_refl n)]
 have h1:x.tmod n= -((-x)%n):=by
  rw[show x= -(-x) by omega,Int.neg_tmod,Int.tmod_eq_emod_of_nonneg XX,Int.neg_neg]
 have z:=Int.emod_nonneg (-x) u;have A:=Int.emod_lt_of_pos (-x) (show 0<n by omega);rw[h1,Int.tmod_eq_emod_of_nonneg XX,Int.add_emod_right];rw[<-Int.zero_sub,Int.sub_emod,Int.emod_emod_of_dvd _ (Int.dvd_refl n),<-Int.sub_emod,Int.zero_sub,Int.neg_neg]
theorem PG(x n:Int)(h:1<=n): -n<x.tmod n/\x.tmod n<n:=by
 have u:=Int.tmod_lt_of_pos x (show 0<n by omega);have z:=Int.lt_tmod_of_pos x (show 0<n by omega);omega
theorem LV(x n:Int)(u:1<=n)(A:n<=1000000):FnP prog 25 [.int .i64 x,.int .i64 n] (· = .int .i64 (x%n)):=by
 refine FnP.of func25 O ntmps25 X2 λ_ _ _ _=>?_
 refine TZ<|AW.region<|A1 O<|TZ<|TZ<|AW.region<|Y2 O<|AW.k7 O (λhc=>absurd hc XX) (λhc=>?_);refine TM ?_;have z:=PG x n u;exact TZ<|AW.region<|Ar 8 O<|AW.ret<|⟨_,_,O,O,ah (PV.int .i64) (mod_eq x n u)⟩
abbrev jh(L:List Int)(k:Nat):List PV:=[aq L,.int .i64 k]
def sNv(L:List Int)(k:Nat)(n:Int):Int:=match L[k]? with|some x=>x%n|none=>0
def sNk(L:List Int)(k:Nat):Nat:=if k<L.length then k+1 else k
theorem jL(L:List Int)(k:Nat)(n:Int)(h:1<=n):0<=sNv L k n/\sNv L k n<n:=by
 unfold sNv;split
 .exact⟨Int.emod_nonneg _ XX,Int.emod_lt_of_pos _ XX⟩
 omega
theorem gB(L:List Int)(k:Nat)(n:Int)(G:L.length<=600)(H:k<=L.length)(B:1<=n)(D:n<=1000000):FnM prog 7 73 (jh L k) [.int .i64 n] (λv c=>v= .int .i64 (sNv L k n)/\c=jh L (sNk L k)):=by
 refine FnM.of func7 O ntmps7 X2 O X2 λ_ _ _ _=>?_
 refine TZ<|AW.region<|A1 O<|TZ<|TZ<|UB 10 O<|Dr 10 O ?_;refine⟨XY,?_⟩;refine AW.k7 O (λhc=>?_) (λhc=>?_)
 .refine TZ<|AW.region<|A1 O<|AW.ret ?_;have z:L[k]? =UG:=by simp;omega
  exact⟨_,jh L k,O,O,by simp[sNv,z],by simp only[sNk];rw[pF XX]⟩
 refine TM ?_;have u:k<L.length:=XX;have E:=a7 u;have A:=aM u;refine TZ<|AW.region<|Ar 8 O<|TZ<|UB 14 O<|Dr 9 O<|Ds [] O (λτ h=>ag k underlying22 sz3 (Ee h 0 O O) (Ee h 1 O O) XX XX A) O XY ?_;first|refine D2 O O X0 ?_|refine D1 O ?_
 refine D1 O<|Ds [] O (λτ h=>aa call25 (LV L[k] n B D) (h.aE O)) O XY<|D1 O ?_;refine⟨XY,?_⟩;exact AW.ret<|⟨_,jh L (k+1),O,O,by simp[sNv,u],by simp only[sNk];rw[AT u]⟩
theorem DK(L:List Int)(k:Nat)(lo hi:Int)(u:L.length<=600)(z:k<=L.length)(B:lo<=hi)(D: -1000<=lo)(E:hi<=1000):FnM prog 58 73 (jh L k) [.int .i64 lo,.int .i64 hi] (λv c=>v= .int .i64 (lo+sNv L k (hi-lo+1))/\c=jh L (sNk L k)):=by
 refine FnM.of func58 O ntmps58 X2 O X2 λ_ _ _ _=>?_
 have A:=jL L k (hi-lo+1) XX;exact TZ<|AW.region<|A1 O<|TZ<|AW.region<|Ar 6 O<|Rs O (cq call7 (gB L k (hi-lo+1) u z XX XX) O O)<|Y2 O<|AW.ret<|⟨_,jh L (sNk L k),O,O,O,O⟩
def upZ(j:Nat):List Int:=(List.range j).map Int.ofNat
theorem bo(j:Nat):(upZ j).length=j:=by simp[upZ]
theorem BE(j:Nat):upZ (j+1)=upZ j++[(j:Int)]:=by simp[upZ,Xn]
abbrev aN(l:List Int):List PV:=l.map (.int .i64)
def Gi(q:List Int)(i k:Nat):List Int:=(q.set i (q.getD k 0)).set k (q.getD i 0)
theorem swap_perm(u:i<q.length)(z:k<q.length):(Gi q i k).Perm q:=by
 unfold Gi;simp only[List.getD,BY u,BY z,Ww];exact List.set_set_perm u z
theorem KN(u:i<q.length)(z:k<q.length):((aN q).set i (.int .i64 q[k])).set k (.int .i64 q[i])=aN (Gi q i k):=by
 simp[Gi,U9,List.getD,u,z]
theorem Lb(l:List Int)(u:l.length<=600):FnO prog 5 0 1 [.pv (aq l)] [] (λv ob'=>v= .ptr 0 0/\ob'=aA [(0,.mix 73 ((jh l 0).map .pv))]):=by
 refine FnO.of func5 O ntmps5 X2 λ_ _ _ _=>?_
 exact TZ<|AW.region<|A1 O<|TZ<|AW.region<|Y3 O<|Rs O ((tv O O).cast (v':= pIi l.length) (by rw[pF XX]))<|Rs O ((dR l.length underlying22 sz3 O O O (tJ _) X2).cast (v':=.pv (aq l)) (by rw[aG X2]))<|Y3 O<|AW.ret<|⟨[(2,.ptr 0 0)],[(0,.mix 73 ((jh l 0).map .pv))],[.ptr 0 0],TO (aS O) (aO O) O O,O,O,O,O,O⟩
abbrev yq(L:List Int)(k:Nat):Ob:=.mix 73 ((jh L k).map .pv)
theorem xH(L:List Int)(k n:Nat)(H:L.length<=600)(J:k<=L.length)(T:1<=n)(M:n<=1000):FnM prog 62 73 (jh L k) [.int .i64 n] (λv c=>(∃q:List Int,q.Perm (upZ n)/\v=aq q)/\∃k',k'<=L.length/\c=jh L k'):=by
 refine FnM.of func62 O ntmps62 X2 O X2 λ_ _ _ _=>?_
 refine Z1 O<|Z1 O<|Z1 O<|AW.block<|AW.loop (st:=λj:Nat=>match j with
  |0=>mkS [(0,.ptr big 0),(1,pIi n),(6,pIi (0:Nat)),(5,.pv nS)] [(big,yq L k)] 1
  |j+1=>mkS [(0,.ptr big 0),(1,pIi n),(6,pIi (j+1:Nat)),(5,.osl 0 1 (j+1))] [(big,yq L k),(0,.cells 3 (aN (upZ (j+1))))] 1) (I:=λj=>j<=n) (μ:=λj=>n-j) (x0:=0) (TO (aS O) (aO O) O O) XX (λj hj=>?_)
 cases j with
 | zero=>
   refine Z3 O<|AW.k7 O (λhc=>?_) (λhc=>?_)
   .exact TM<|Gr O<|Ar 5 O<|Z3 O<|⟨0+1,TP [2] (aT O) (aP O) O O X2 O,XX,XX⟩
   omega
 | succ j=>
   have G:(aN (upZ (j+1))).length=(j+1)*1:=by simp[bo]
   have A:aN (upZ (j+1+1))=aN (upZ (j+1))++[.int .i64 ((j+1:Nat):Int)]:=by rw[BE];simp
   refine Z3 O<|AW.k7 O (λhc=>?_) (λhc=>?_)
   .exact TM<|Gr O<|Ar 5 O<|Z3 O<|⟨(j+1)+1,TP [2] (aT O) ⟨O,(by rw[A];rfl),X5⟩ O O X2 O,XX,XX⟩
   obtain rfl:n=j+1:=XX;refine AW.exit<|Z3 O<|AW.block<|AW.loop (st:=λx:Nat×List Int×Nat=>mkS [(0,.ptr big 0),(7,pIi x.1),(5,.osl 0 1 (j+1))] [(big,yq L x.2.2),(0,.cells 3 (aN x.2.1))] 1) (I:=λx=>x.1<=j/\x.2.1.Perm (upZ (j+1))/\x.2.2<=L.length) (μ:=λx=>x.1) (x0:=(j,upZ (j+1),k)) (TO ⟨O,ah (λi=>V.pv (PV.int .i64 i)) XX,O,X5⟩ (aO O) O O) ⟨tJ _,UX _,J⟩ ?_;rintro⟨i,q,k2⟩ ⟨hi,hq,hk2⟩;simp only at hi hq hk2 ⊢;have B:q.length=j+1:=by rw[hq.length_eq,bo]
   refine Z2 O<|AW.k7 O (λhc=>?_) (λhc=>?_)
   .refine TM ?_;have D:=jL L k2 (i+1) XX;obtain⟨t,ht⟩:=tI D.1;have u:t<q.length:=XX;have z:i<q.length:=XX;have E:sNk L k2<=L.length:=by unfold sNk;split<;>omega
    have P:(aN q)[t*1]? =UF (.int .i64 q[t]):=by simp[u]
    have v2:(aN q)[i*1]? =UF (.int .i64 q[i]):=by simp[z]
    refine Z3 O<|Rs O (XJ.cast (v':= pIi (t:Int)) (cq call7 (gB L k2 (i+1) H hk2 XX XX) O O) (by rw[ht]))<|A1 O<|UB 16 O<|Dr 7 O ?_;first|refine D2 O O X0 ?_|refine D1 O ?_
    refine Dr 3 O ?_;first|refine D2 O O X0 ?_|refine D1 O ?_
    refine D1 O<|DL.step (d:=UG) [_] O O O (λτ h=>bY sz3 (Ee h 0 O O) (Eo h 0 O O) (Ee h 1 O O) O X3) O XY<|D1 O<|DL.step (d:=UG) [_] O O O (λτ h=>bY sz3 (Ee h 0 O O) (Eo h 0 O O) (Ee h 1 O O) O X3) O XY ?_;refine⟨XY,?_⟩;refine Z3 O ?_;refine⟨(i-1,Gi q i t,sNk L k2),TO ⟨O,ah (λi=>V.pv (PV.int .i64 i)) XX,O,X5⟩ ⟨O,?_,X5⟩ O O,⟨XX,(swap_perm z u).trans hq,E⟩,XX⟩;show UF (Ob.cells _ _)=_;rw[<-KN z u];simp
   exact AW.exit<|TN (St.Oc 0 [5] O ⟨O,X5⟩ X3)<|Z2 O<|AW.ret<|⟨_,jh L k2,O,O,⟨q,hq,by simp[aq,B,aG]⟩,k2,hk2,O⟩
def inB(l:List Int)(x:Int):Bool:=l.contains x
def hasB{α:Type}[DecidableEq α](l:List α)(x:α):Bool:=decide (x∈l)
def bV(f:Nat->Int):Nat->Int
 |0=>0
 |n+1=>if bV f n=0 then f n else bV f n
theorem dM(h:bV f n=0):bV f (n+1)=f n:=by simp[bV,h]
theorem T3(h:bV f k≠0)(n:Nat)(u:k<=n):bV f n=bV f k:=by
 induction n with
 | zero=>have:k=0:=XX
         subst this;rfl
 | succ n ih=>
   by_cases hk:k=n+1
   .rw[hk]
   grind[bV]
theorem gH(h:bV f k=0)(u:f k≠0)(z:k<n):bV f n=f k:=by
 have e:=dM h;rw[T3 (k:=k+1) (by rw[e];exact u) n z,e]
theorem ko:bV f n=0↔∀k,k<n->f k=0:=by
 induction n with
 |zero=>simp[bV]
 | succ n ih=>
   constructor
   .grind[bV]
   grind[dM]
def qB(c:UInt8):Bool:=97<=c&&c<=122
def OI(c:UInt8):Bool:=qB c||(48<=c&&c<=57)||c==45
def LO(s:List UInt8):Bool:=match s with|[]=>WA|c::r=>qB c&&r.all OI&&decide (r.length<=11)
def fI(s:ByteArray):Bool:=LO s.data.toList
structure Sch where
 attrs:List (ByteArray×Int)
 rels:List (ByteArray×List Int)
 feats:List (Int×Int×Int)
 label:Int
variable{S:Sch}
def fL(names:List ByteArray)(i:Nat):Int:=
 if fI (names.getD i default)=WA then 14 else if hasB (names.take i) (names.getD i default)=VA then 9 else 0
def gW(S:Sch)(i:Nat):Int:=
 if fL (S.attrs.map (·.1)) i≠0 then fL (S.attrs.map (·.1)) i
 else if(S.attrs.getD i default).2<1\/3<(S.attrs.getD i default).2 then 7 else 0
def J7(l:List Int):Bool:=(List.range (l.length-1)).all λk=>decide (l.getD k 0<l.getD (k+1) 0)
def xd(S:Sch)(i:Nat):Int:=
 if fL (S.rels.map (·.1)) i≠0 then fL (S.rels.map (·.1)) i
 else if(S.rels.getD i default).2=[]then 7
 else if((S.rels.getD i default).2.all λa=>decide (0<=a)&&decide (a<S.attrs.length))=WA then 2
 else if J7 (S.rels.getD i default).2=WA then 10 else 0
def uh(S:Sch)(a:Nat):Bool:=S.rels.any λr=>inB r.2 a
def ia(S:Sch):Int:=
 if bV (xd S) S.rels.length≠0 then bV (xd S) S.rels.length
 else if((List.range S.attrs.length).all λa=>uh S a)=WA then 7 else 0
def kH(S:Sch)(i:Nat):Int:=
 let f:=S.feats.getD i default
 let kind:=(S.attrs.getD f.1.toNat default).2
 if f.1<0\/(S.attrs.length:Int)<=f.1 then 2
 else if((f.2.1==1&&kind==2&&(f.2.2==0||f.2.2==1))||(f.2.1==2&&kind==3&&f.2.2==0))=WA then 7
 else if(f.1==S.label||(S.feats.take i).any λg=>g.1==f.1)=VA then 9 else 0
def bG(S:Sch):Int:=
 if S.attrs.length=0\/12<S.attrs.length\/S.rels.length=0\/6<S.rels.length\/8<S.feats.length then 3
 else if bV (gW S) S.attrs.length≠0 then bV (gW S) S.attrs.length
 else if ia S≠0 then ia S
 else if bV (kH S) S.feats.length≠0 then bV (kH S) S.feats.length
 else if S.label< -1\/(S.attrs.length:Int)<=S.label then 2
 else if 0<=S.label/\(S.attrs.getD S.label.toNat default).2≠2 then 7 else 0
namespace Mk
open Go.Proofs.YtameambcolibjaaGreatDoor
def chr(n:Int):ByteArray:=⟨#[UInt8.ofNat n.toNat]⟩
def nm(p:UInt8)(i:Nat):ByteArray:=⟨#[p]⟩++chr (97+i)
theorem qT:∀(l:List Int)(lo hi:Int),l.Pairwise (· < ·)->(∀a∈l,lo<=a/\a<=hi)->(l.length:Int)<=max 0 (hi+1-lo):=by
 intro l;induction l with
 |nil=>intro lo hi _ _;simp;omega
 | cons x t ih=>
   intro lo hi hp hb;have u:=Vd.1 hp;have z:=hb x X2;have:=ih (x+1) hi u.2 (λa ha=>⟨by have:=u.1 a ha;omega,(hb a (by simp[ha])).2⟩);simp only[IN];omega
theorem N3{q:Nat}(z:1<=q)(A:q<l.length)(h:l[q]<=l[q-1]):J7 l=WA:=by
 unfold J7;rw[WG];refine⟨q-1,X3,?_⟩;have e:l.getD (q-1+1) 0=l[q]:=by grind
 have u:l.getD (q-1) 0=l[q-1]:=by grind
 rw[e,u];simp;omega
theorem zi(h:∀p,p+1<l.length->l.getD p 0<l.getD (p+1) 0):J7 l=VA:=by grind[J7,IX]
theorem Ow{q:Nat}(u:q<l.length)(h:¬ (0<=l[q]/\l[q]<n)):(l.all λa=>decide (0<=a)&&decide (a<n))=WA:=by
 rw[WG];exact⟨l[q],ak u,X3⟩
theorem yW(h:∀a∈l,0<=a/\a<n):(l.all λa=>decide (0<=a)&&decide (a<n))=VA:=by
 rw[IX];intro a ha;have:=h a ha;simp;omega
theorem Su(h:l.Pairwise (· < ·)):J7 l=VA:=by grind[zi,UY.1,List.getD]
theorem tW(S:Sch)(k:Nat)(u:k<S.rels.length):xd S k=if fI S.rels[k].1=WA then 14 else if hasB ((S.rels.map (·.1)).take k) S.rels[k].1=VA then 9 else if S.rels[k].2=[]then 7
  else if(S.rels[k].2.all λa=>decide (0<=a)&&decide (a<S.attrs.length))=WA then 2 else if J7 S.rels[k].2=WA then 10 else 0:=by
 have z:(S.rels.map (·.1)).getD k default=S.rels[k].1:=by simp[List.getD,u]
 have A:S.rels.getD k default=S.rels[k]:=by simp[List.getD,u]
 unfold xd fL;rw[z,A];by_cases h1:fI S.rels[k].1=WA
 .simp[h1]
 grind
theorem CB(S:Sch)(k:Nat)(u:k<S.attrs.length):gW S k=if fI S.attrs[k].1=WA then 14 else if hasB ((S.attrs.map (·.1)).take k) S.attrs[k].1=VA then 9 else if S.attrs[k].2<1\/3<S.attrs[k].2 then 7 else 0:=by
 have z:(S.attrs.map (·.1)).getD k default=S.attrs[k].1:=by simp[List.getD,u]
 have A:S.attrs.getD k default=S.attrs[k]:=by simp[List.getD,u]
 unfold gW fL;rw[z,A];by_cases h1:fI S.attrs[k].1=WA
 .simp[h1]
 grind
theorem ry (S:Sch) (k:Nat) (u:k<S.feats.length):kH S k=if S.feats[k].1<0\/(S.attrs.length:Int)<=S.feats[k].1 then 2
  else if((S.feats[k].2.1==1&&(S.attrs.getD S.feats[k].1.toNat default).2==2&&(S.feats[k].2.2==0||S.feats[k].2.2==1))||(S.feats[k].2.1==2&&(S.attrs.getD S.feats[k].1.toNat default).2==3&&S.feats[k].2.2==0))=WA then 7
  else if(S.feats[k].1==S.label||(S.feats.take k).any λg=>g.1==S.feats[k].1)=VA then 9 else 0:=by grind[List.getD,kH]
theorem vW(u:bV (xd S) S.rels.length=0)(z:((List.range S.attrs.length).all λa=>uh S a)=VA):ia S=0:=by
 unfold ia;rw[pF (by simp[u]),pF (by rw[z];decide)]
def limB(S:Sch):Prop:=¬ (S.attrs.length=0\/12<S.attrs.length\/S.rels.length=0\/6<S.rels.length\/8<S.feats.length)
theorem rA(h:limB S)(u:bV (gW S) S.attrs.length=0)(z:ia S=0)(A:bV (kH S) S.feats.length=0):bG S=if S.label< -1\/(S.attrs.length:Int)<=S.label then 2 else if 0<=S.label/\(S.attrs.getD S.label.toNat default).2≠2 then 7 else 0:=by
 unfold bG;rw[pF h,pF (by simp[u]),pF (by simp[z]),pF (by simp[A])]
def rT(i n:Nat):Bool:=decide (97<=n/\n<=122)||(decide (i≠0)&&(n==45||decide (48<=n/\n<=57)))
theorem wA(c:UInt8):rT 0 c.toNat=qB c:=by
 rw[UH];simp[rT,qB,UInt8.le_iff_toNat_le]
theorem wh(k:Nat)(c:UInt8):rT (k+1) c.toNat=OI c:=by
 rw[UH];have e:c=45↔c.toNat=45:=by
  constructor
  .rintro rfl;rfl
  .intro h;exact Xm.1 h
 simp[rT,OI,qB,UInt8.le_iff_toNat_le,e];omega
theorem uj(l:List UInt8):LO l=(((List.range l.length).all λk=>rT k (l.getD k 0).toNat)&&decide (1<=l.length)&&decide (l.length<=12)):=by
 cases l with
 |nil=>simp[LO]
 | cons c r=>
   rw[UH];simp only[LO,dO,IX,OC,Vj,IN];constructor
   .rintro⟨⟨h1,h2⟩,h3⟩;refine⟨⟨λk hk=>?_,XX⟩,XX⟩;cases k with
    |zero=>rw[List.getD_cons_zero,wA];exact h1
    | succ k=>
      rw[List.getD_cons_succ,wh];have u:k<r.length:=XX;rw[List.getD,BY u];exact h2 _ (ak u)
   rintro⟨⟨h1,_⟩,h3⟩;refine⟨⟨?_,λx hx=>?_⟩,XX⟩
   .have:=h1 0 XX;rwa [List.getD_cons_zero,wA]at this
   obtain⟨k,hk,rfl⟩:=Vz hx;have:=h1 (k+1) XX;rwa [List.getD_cons_succ,wh,List.getD,BY hk]at this
theorem zJ(s:ByteArray)(k:Nat)(u:k<s.size)(h:rT k (s.data.toList.getD k 0).toNat=WA):fI s=WA:=by
 unfold fI;rw[uj];have:((List.range s.data.toList.length).all λk=>rT k (s.data.toList.getD k 0).toNat)=WA:=by
  rw[WG];exact⟨k,by simp;exact u,by rw[h];simp⟩
 rw[this];rfl
theorem AX(s:ByteArray)(h:∀k,k<s.size->rT k (s.data.toList.getD k 0).toNat=VA):fI s=(decide (1<=s.size)&&decide (s.size<=12)):=by
 unfold fI;rw[uj];have:((List.range s.data.toList.length).all λk=>rT k (s.data.toList.getD k 0).toNat)=VA:=by simp_all
 rw[this];simp
theorem TB:∀i,i<26->∀j,j<26->nm 97 i=nm 97 j->i=j:=XZ
theorem L3:∀i,i<6->∀j,j<6->nm 114 i=nm 114 j->i=j:=XZ
theorem OW:∀i,i<26->fI (nm 97 i)=VA:=XZ
theorem Ig:∀i,i<6->fI (nm 114 i)=VA:=XZ
def rP(at':List (ByteArray×Int)):Prop:=∀j (hj:j<at'.length),at'[j].1=nm 97 j/\1<=at'[j].2/\at'[j].2<=3
def sW(rs:List (ByteArray×List Int))(n:Nat):Prop:=∀j (hj:j<rs.length),rs[j].1=nm 114 j/\rs[j].2≠[]/\rs[j].2.Pairwise (· < ·)/\∀a∈rs[j].2,0<=a/\a<n
def JY(rs:List (ByteArray×List Int))(n:Nat):Prop:=∀a,a<n->∃x∈rs,(a:Int)∈x.2
def RX(at':List (ByteArray×Int))(lb:Int)(k:Nat)(f:Int×Int×Int):Prop:=
 ∃a:Nat,f.1=(a:Int)/\a<k/\(a:Int)≠lb/\((f.2.1=1/\(at'.getD a default).2=2/\(f.2.2=0\/f.2.2=1))\/(f.2.1=2/\(at'.getD a default).2=3/\f.2.2=0))
def gX(at':List (ByteArray×Int))(fs:List (Int×Int×Int))(lb:Int)(k:Nat):Prop:=
 (fs.map (·.1)).Pairwise (· < ·)/\(∀f∈fs,RX at' lb k f)/\(lb= -1\/∃a:Nat,lb=(a:Int)/\a<k/\(at'.getD a default).2=2)
theorem vO{at':List (ByteArray×Int)}(h:rP at'){x:Int}(u:1<=x)(z:x<=3):rP (at'++[(nm 97 at'.length,x)]):=by
 intro j hj;by_cases e:j<at'.length
 .rw[List.getElem_append_left e];exact h j e
 grind
theorem yO{rs:List (ByteArray×List Int)}(h:sW rs n)(u:n<=m):sW rs m:=by
 intro j hj;obtain⟨h1,h2,h3,h4⟩:=h j hj;exact⟨h1,h2,h3,λa ha=>by have:=h4 a ha;omega⟩
theorem zU{rs:List (ByteArray×List Int)}(h:sW rs n)(u:l≠[])(z:l.Pairwise (· < ·))(A:∀a∈l,0<=a/\a<n):sW (rs++[(nm 114 rs.length,l)]) n:=by
 intro j hj;by_cases e:j<rs.length
 .rw[List.getElem_append_left e];exact h j e
 grind
theorem BR{x:Int}(h:l.Pairwise (· < ·))(u:∀a∈l,a<x):(l++[x]).Pairwise (· < ·):=by grind
theorem dN{at':List (ByteArray×Int)}{fs:List (Int×Int×Int)}(h:gX at' fs lb k):gX at' fs lb (k+1):=by
 refine⟨h.1,λf hf=>?_,?_⟩
 .obtain⟨a,h1,h2,h3⟩:=h.2.1 f hf;exact⟨a,h1,XX,h3⟩
 rcases h.2.2 with h1|⟨a,h1,h2,h3⟩
 .exact .inl h1
 exact .inr ⟨a,h1,XX,h3⟩
theorem tE{at':List (ByteArray×Int)}{fs:List (Int×Int×Int)}(h:gX at' fs lb k)(u:(at'.getD k default).2=2):gX at' fs (k:Int) (k+1):=by
 refine⟨h.1,λf hf=>?_,.inr ⟨k,O,XX,u⟩⟩;obtain⟨a,h1,h2,_,h3⟩:=h.2.1 f hf;exact⟨a,h1,XX,XX,h3⟩
theorem jB{at':List (ByteArray×Int)}{fs:List (Int×Int×Int)}(h:gX at' fs lb k){x y:Int}(u:lb= -1\/lb<k)
  (z:(x=1/\(at'.getD k default).2=2/\(y=0\/y=1))\/(x=2/\(at'.getD k default).2=3/\y=0)):gX at' (fs++[((k:Int),x,y)]) lb (k+1):=by
 refine⟨?_,λf hf=>?_,(dN h).2.2⟩
 .rw[UO];refine BR h.1 λa ha=>?_
  obtain⟨f,hf,rfl⟩:=IS.1 ha;obtain⟨a,h1,h2,_⟩:=h.2.1 f hf;show f.1<(k:Int);omega
 rcases UN.1 hf with hf|hf
 .exact(dN h).2.1 f hf
 simp at hf;subst hf;exact⟨k,O,XX,XX,z⟩
theorem s9{at':List (ByteArray×Int)}{fs:List (Int×Int×Int)}(h:gX at' fs lb k): -1<=lb/\lb<k:=by
 rcases h.2.2 with h1|⟨a,h1,h2,_⟩<;>omega
theorem eO{at':List (ByteArray×Int)}{fs:List (Int×Int×Int)}(h:gX at' fs lb k):fs.length<=k:=by
 have:=qT (fs.map (·.1)) 0 (k-1) h.1 (λa ha=>by
  obtain⟨f,hf,rfl⟩:=IS.1 ha;obtain⟨a,h1,h2,_⟩:=h.2.1 f hf;omega)
 simp at this;omega
structure Made(S:Sch)(most:Nat):Prop where
 a1:1<=S.attrs.length
 a2:S.attrs.length<=most
 r1:1<=S.rels.length
 r2:S.rels.length<=3
 at':rP S.attrs
 rs:sW S.rels S.attrs.length
 cv:JY S.rels S.attrs.length
 fs:gX S.attrs S.feats S.label S.attrs.length
theorem kg(h:Made S most)(L:most<=8):bG S=0:=by
 have B:=h.a2;have D:=h.r2;have E:bV (gW S) S.attrs.length=0:=by
  rw[ko];intro k hk;rw[CB S k hk];obtain⟨h1,h2,h3⟩:=h.at' k hk;rw[pF (by rw[h1,OW k XX];decide),pF,pF XX];unfold hasB;simp only[OC];intro hmem;obtain⟨j,hj,hjk⟩:=VF.1 hmem;have u:j<S.attrs.length:=by simp at hj;omega
  rw[VC,(h.at' j u).1,h1]at hjk;have:=TB j XX k XX hjk;simp at hj;omega
 have G:bV (xd S) S.rels.length=0:=by
  rw[ko];intro k hk;rw[tW S k hk];obtain⟨h1,h2,h3,h4⟩:=h.rs k hk;rw[pF (by rw[h1,Ig k XX];decide),pF,pF h2,pF (by rw[yW h4];decide),pF (by rw[Su h3];decide)];unfold hasB;simp only[OC];intro hmem;obtain⟨j,hj,hjk⟩:=VF.1 hmem;have u:j<S.rels.length:=by simp at hj;omega
  rw[VC,(h.rs j u).1,h1]at hjk;have:=L3 j XX k XX hjk;simp at hj;omega
 have A:ia S=0:=by
  refine vW G ?_;rw[IX];intro a ha;obtain⟨x,hx,hax⟩:=h.cv a (by simpa using ha);unfold uh;rw[VL];exact⟨x,hx,by simpa[inB]using hax⟩
 have H:=eO h.fs;have I:bV (kH S) S.feats.length=0:=by
  rw[ko];intro k hk;rw[ry S k hk];obtain⟨a,h1,h2,h3,h4⟩:=h.fs.2.1 _ (ak hk);rw[h1,Ux,pF XX,pF,pF]
  .rw[UW,not_or];refine⟨by simpa using h3,?_⟩;rw[VL];rintro⟨f,hf,hfa⟩;obtain⟨j,hj,rfl⟩:=VF.1 hf;have:=UY.1 h.fs.1 j k X3 (by simpa using hk) XX;simp at this hfa;omega
  grind
 have z:limB S:=by unfold limB;have:=h.a1;have:=h.r1;omega
 rw[rA z E A I];have J:=s9 h.fs;rw[pF XX,pF];rintro⟨g1,g2⟩;rcases h.fs.2.2 with g3|⟨a,g3,g4,g5⟩
 .omega
 grind
def kK(l:List Int)(n:Nat):Prop:=l.Pairwise (· < ·)/\(∀a∈l,0<=a/\a<n)
theorem kK.len(h:kK l n):l.length<=n:=by
 have:=qT l 0 (n-1) h.1 (λa ha=>by have:=h.2 a ha;omega);omega
theorem kK.snoc(h:kK l n):kK (l++[(n:Int)]) (n+1):=by
 refine⟨BR h.1 λa ha=>(h.2 a ha).2,λa ha=>?_⟩;rcases UN.1 ha with h1|h1
 .have:=h.2 a h1;omega
 simp at h1;omega
theorem kK.mono(h:kK l n)(u:n<=m):kK l m:=⟨h.1,λa ha=>by have:=h.2 a ha;omega⟩
def GZ(at':List (ByteArray×Int))(rs:List (ByteArray×List Int))(most k:Nat):Prop:=
 rP at'/\sW rs at'.length/\JY rs at'.length/\at'.length<=most/\rs.length=k/\(1<=k->1<=at'.length)
def MR(at' at2:List (ByteArray×Int))(l:List Int)(most:Nat):Prop:=
 rP at2/\at2.length<=most/\at'.length<=at2.length/\kK l at2.length/\∀a:Nat,at'.length<=a->a<at2.length->(a:Int)∈l
theorem CZ{at' at2:List (ByteArray×Int)}(h:MR at' at2 l most)(z:at2.length<most){x:Int}(u:x∈[1,2,2,3]):MR at' (at2++[(nm 97 at2.length,x)]) (l++[(at2.length:Int)]) most:=by
 obtain⟨h1,h2,h3,h4,h5⟩:=h;refine⟨vO h1 (by simp at u;omega) (by simp at u;omega),X3,X3,by simpa using h4.snoc,λa ha1 ha2=>?_⟩;by_cases e:a<at2.length
 .grind
 grind
def Kk(at' at2:List (ByteArray×Int))(l:List Int)(most:Nat):Prop:=MR at' at2 l most/\l≠[]/\1<=at2.length
theorem p6{at' at2:List (ByteArray×Int)}{rs:List (ByteArray×List Int)}(h:GZ at' rs most k)(u:Kk at' at2 l most):GZ at2 (rs++[(nm 114 k,l)]) most (k+1):=by
 obtain⟨h1,h2,h3,h4,h5,h6⟩:=h;obtain⟨⟨g1,g2,g3,g4,g5⟩,g6,g7⟩:=u;subst h5;refine⟨g1,zU (yO h2 g3) g6 g4.1 g4.2,λa ha=>?_,g2,X2,λ_=>g7⟩;by_cases e:a<at'.length
 .obtain⟨x,hx,hax⟩:=h3 a e;exact⟨x,Ws _ hx,hax⟩
 simp_all
end Mk
section
open Mk
theorem fO(p:ByteArray)(i:Nat)(A:p.size<=1000)(B:i<26):FnP prog 59 [.str p,.int .i64 i] (· = .str (p++chr (97+i))):=by
 refine FnP.of func59 O ntmps59 X2 λ_ _ _ _=>?_
 have u:(i:Int).tmod 26=i:=Int.tmod_eq_of_lt XX XX;have z:(97+i:Int)=((UInt8.ofNat (97+i)).toNat:Int):=by
  simp[Wx (show 97+i<256 by omega)]
 refine Z1 O<|Z2 O<|Rs O (XJ.cast (v':= pIi i) (fp O O XX) (by rw[u]))<|A1 O<|Rs O (XJ.cast (v':=.pv (.int .u8 (((UInt8.ofNat (97+i)).toNat:Nat):Int))) (jk underlying3 underlying5 O) (by rw[<-z,IntWalk.u8_in _ XX]))<|A1 O<|Rs O (HV [UInt8.ofNat (97+i)] underlying231 underlying5 underlying9 (.inr ⟨_,_,_,_,O,O,O⟩))<|Rs O (sI O O (show p.size+1<=_ by omega))<|A1 O<|AW.ret ?_;refine⟨_,_,O,O,ah PV.str ?_⟩
 congr 1
end
section
open Mk
theorem sV(L:List Int)(k:Nat)(l:List Int)(D:L.length<=600)(E:k<=L.length)(G:l≠[])(H:l.length<=1000):∃x∈l,FnM prog 60 73 (jh L k) [aq l] (λv c=>v= .int .i64 x/\c=jh L (sNk L k)):=by
 have A:0<l.length:=U7.2 G;have B:=jL L k l.length XX;obtain⟨j,hj⟩:=tI B.1;have u:j<l.length:=XX;refine⟨l[j],ak u,?_⟩;refine FnM.of func60 O ntmps60 X2 O X2 λ_ _ _ _=>?_
 have I:=a7 u;have z:=aM u;refine Z1 O<|Z4 O<|Rs O (cq call7 (gB L k l.length D E XX XX) O O)<|Rs O (ag j underlying22 sz3 O O hj u z) ?_;first|refine A2 O X0 ?_|refine A1 O ?_
 exact A1 O<|AW.ret<|⟨_,jh L (sNk L k),O,O,O,O⟩
theorem iP{L:List Int}(h:k<=L.length):sNk L k<=L.length:=by unfold sNk;split<;>omega
def aK(l:List (ByteArray×Int)):List PV:=l.flatMap λa=>[.str a.1,.int .i64 a.2]
def aU(l:List (ByteArray×List Int)):List PV:=l.flatMap λr=>[.str r.1,aq r.2]
def aL(l:List (Int×Int×Int)):List PV:=l.flatMap λf=>[.int .i64 f.1,.int .i64 f.2.1,.int .i64 f.2.2]
abbrev schC(S:Sch):List PV:=[.sl UG S.attrs.length (aK S.attrs),.sl UG S.rels.length (aU S.rels),.sl UG S.feats.length (aL S.feats),.int .i64 S.label]
abbrev gg(S:Sch):PV:=.agg (schC S)
theorem bL(f:α->List β)(n:Nat)(h:∀a,(f a).length=n):∀l:List α,(l.flatMap f).length=l.length*n
 |[]=>by simp
 |a::l=>by rw[UJ,D8,h,bL f n h l,IN,XV,WZ]
theorem ib(f:α->List β)(n:Nat)(h:∀a,(f a).length=n):∀(l:List α)(k j:Nat)(hk:k<l.length),j<n->(l.flatMap f)[k*n+j]? =(f l[k])[j]?
 |[],_,_,hk,_=>by simp at hk
 |a::l,0,j,_,hj=>by grind
 | a::l,k+1,j,hk,hj=>by
   rw[UJ,List.getElem?_append_right (by rw[h,XV];omega),h,show(k+1)*n+j-n=k*n+j by rw[XV];omega];rw[ib f n h l k j (by simpa using hk) hj];simp
theorem ky(l:List (ByteArray×Int)):(aK l).length=l.length*2:=bL _ 2 (λ_=>rfl) l
theorem wJ(l:List (ByteArray×List Int)):(aU l).length=l.length*2:=bL _ 2 (λ_=>rfl) l
theorem iE(l:List (Int×Int×Int)):(aL l).length=l.length*3:=bL _ 3 (λ_=>rfl) l
theorem p9(l:List (ByteArray×Int))(x:ByteArray×Int):aK (l++[x])=aK l++[.str x.1,.int .i64 x.2]:=by simp[aK]
theorem nH(l:List (ByteArray×List Int))(x:ByteArray×List Int):aU (l++[x])=aU l++[.str x.1,aq x.2]:=by simp[aU]
theorem kP(l:List (Int×Int×Int))(x:Int×Int×Int):aL (l++[x])=aL l++[.int .i64 x.1,.int .i64 x.2.1,.int .i64 x.2.2]:=by simp[aL]
theorem fZ(l:List Int)(x:Int):aN (l++[x])=aN l++[.int .i64 x]:=X2
abbrev Ra:Ob:=.mix 30 [.pv nS,.pv nS,.pv nS,pIi 0]
abbrev RD(a r f:Nat)(lb:Int):Ob:=.mix 30 [.gsl 2 2 a,.gsl 3 2 r,.gsl 4 3 f,pIi lb]
theorem cZ(f:α->List β)(n:Nat)(h:∀a,(f a).length=n):∀(l:List α)(k:Nat)(hk:k<l.length),((l.flatMap f).drop (k*n)).take n=f l[k]
 |[],_,hk=>by simp at hk
 |a::l,0,_=>by grind
 | a::l,k+1,hk=>by
   rw[UJ,List.drop_append,Vf (by rw[h,XV];omega),Vo,h,show(k+1)*n-n=k*n by rw[XV];omega];rw[cZ f n h l k (by simpa using hk)];simp
theorem yN(L:List Int)(k0 most:Nat)(D:L.length<=600)(V:k0<=L.length)(hm1:1<=most)(hm2:most<=8):FnM prog 22 73 (jh L k0) [.int .i64 most] (λv c=>(∃S,Made S most/\v=gg S)/\∃k',k'<=L.length/\c=jh L k'):=by
 refine FnM.ofC (rt:=30) (k:=4) func22 O ntmps22 X2 O X2 ⟨_,underlying30,O⟩ sz30 λ_ _ _ _=>?_
 have hb:=jL L k0 3 XX;obtain⟨nn,hnn⟩:=tI (show 0<=1+sNv L k0 3 by omega);have H:=iP V;generalize hke:sNk L k0=k1 at H;refine Z1 O<|Z3 O<|Z1 O<|Rs O (XJ.cast (v':= pIi nn) (cq call58 (DK L k0 1 3 D V XX XX XX) O O) (by rw[<-hnn];rfl))<|A1 O ?_;rw[hke];refine TN (St.cV 1 0 2 2 142 O O O)<|TN (St.cV 1 1 3 2 116 O O O)<|TN (St.cV 1 2 4 3 150 O O O)<|Z1 O<|AW.block<|AW.loop (st:=λx:Nat×List (ByteArray×Int)×List (ByteArray×List Int)×Nat=>mkS [(0,.ptr big 0),(1,pIi most),(4,.ptr 0 0),(5,.ptr 1 0),(6,pIi nn),(7,pIi x.1)] [(big,yq L x.2.2.2),(0,Ra),(1,RD x.2.1.length x.2.2.1.length 0 (-1)),(2,.gro 142 (aK x.2.1)),(3,.gro 116 (aU x.2.2.1)),(4,.gro 150 [])] 5)
  (I:=λx=>x.1<=nn/\GZ x.2.1 x.2.2.1 most x.1/\x.2.2.2<=L.length) (μ:=λx=>nn-x.1) (x0:=(0,[],[],k1)) (TO (aS O) (aO O) O O) ⟨aJ _,⟨λj hj=>by simp at hj,λj hj=>by simp at hj,λa ha=>by simp at ha,X2,O,λh=>by omega⟩,H⟩ ?_
 rintro⟨k,at',rs,k2⟩ ⟨hk,hhead,hk2⟩;simp only at hk hhead hk2 ⊢;have J:at'.length<=most:=hhead.2.2.2.1;have hrl:rs.length=k:=hhead.2.2.2.2.1;have M:=ky at';have hRl:=wJ rs;refine Z3 O<|AW.k7 O (λhc=>?_) (λhc=>?_)
 .refine TM<|Z1 O<|TN (TU 8 5 1 3 O O)<|Z4 O<|AW.block ?_;refine AW.loop (st:=λx:Nat×List Int×Nat=>mkS [(0,.ptr big 0),(1,pIi most),(4,.ptr 0 0),(5,.ptr 1 0),(6,pIi nn),(7,pIi k),(8,.gsl 5 1 x.2.1.length),(23,pIi at'.length),(24,pIi x.1)] [(big,yq L x.2.2),(0,Ra),(1,RD at'.length rs.length 0 (-1)),(2,.gro 142 (aK at')),(3,.gro 116 (aU rs)),(4,.gro 150 []),(5,.gro 3 (aN x.2.1))] 6)
   (I:=λx=>x.1<=at'.length/\kK x.2.1 x.1/\x.2.2<=L.length) (μ:=λx=>at'.length-x.1) (x0:=(0,[],k2)) (TO (aS O) (aO O) O O) ⟨aJ _,⟨X2,X2⟩,hk2⟩ ?_
  rintro⟨j,l,k3⟩ ⟨hj,hlok,hk3⟩;simp only at hj hlok hk3 ⊢;have P:=hlok.len;refine Z1 O<|Gp O (λhc=>?_) (λhc=>?_)
  .refine TM<|Z2 O<|Z1 O<|Rs O (cq call7 (gB L k3 3 D hk3 XX XX) O O)<|A1 O ?_;refine AW.cond O (λhc=>?_) (λhc=>?_)
   .exact Gr O<|Ar 5 O<|Z2 O<|⟨(j+1,l++[(j:Int)],sNk L k3),TP [0,1,2,3,4,7] ⟨O,O,O,O,O,O,by simp;rfl,O,O,X5⟩ ⟨O,O,O,O,O,O,by rw[fZ];rfl,X5⟩ O O X2 O,⟨XX,hlok.snoc,iP hk3⟩,XX⟩
   exact TM<|Z2 O<|⟨(j+1,l,sNk L k3),TO (aS O) (aO O) O O,⟨XX,hlok.mono XX,iP hk3⟩,XX⟩
  obtain rfl:j=at'.length:=XX;refine AW.exit ?_;have W:=jL L k3 3 XX;refine Z1 O<|Rs O (cq call7 (gB L k3 3 D hk3 XX XX) O O)<|A1 O<|AW.block<|AW.loop (st:=λx:List (ByteArray×Int)×List Int×Int×Nat=>mkS [(0,.ptr big 0),(1,pIi most),(4,.ptr 0 0),(5,.ptr 1 0),(6,pIi nn),(7,pIi k),(8,.gsl 5 1 x.2.1.length),(10,pIi x.2.2.1)] [(big,yq L x.2.2.2),(0,Ra),(1,RD x.1.length rs.length 0 (-1)),(2,.gro 142 (aK x.1)),(3,.gro 116 (aU rs)),(4,.gro 150 []),(5,.gro 3 (aN x.2.1))] 6)
   (I:=λx=>MR at' x.1 x.2.1 most/\ -1000+x.1.length*(-1)<=x.2.2.1/\x.2.2.1<=1000/\x.2.2.2<=L.length) (μ:=λx=>most-x.1.length) (x0:=(at',l,sNv L k3 3,sNk L k3)) (TO (aS O) (aO O) O O) ⟨⟨hhead.1,J,tJ _,hlok,λa h1 h2=>absurd h2 (Nat.not_lt.2 h1)⟩,X4,X4,iP hk3⟩ ?_
  clear hlok P W hk3;rintro⟨at2,l,c,k3⟩ ⟨hmid,hc1,hc2,hk3⟩;simp only at hmid hc1 hc2 hk3 ⊢;have Z:at2.length<=most:=hmid.2.1;have P:=hmid.2.2.2.1.len;have ab:=ky at2;obtain⟨px,hpx,hpick⟩:=sV L k3 [1,2,2,3] D hk3 X2 X2;by_cases hcp:0<c
  .refine Z1 O<|Rs O (XJ.cast (v':=.pv (.bool VA)) (aD O O O) X3)<|Ar 12 O ?_;refine AW.k7 O (λhc=>?_) (λhc=>?_)
   .refine TM<|Gr O<|Ar 7 O<|UB 14 O<|Dr 5 O<|Ds [] O (λτ h=>aa call59 (fO ⟨#[97]⟩ at2.length XZ XX) (h.aE O)) O XY<|D1 O<|Ds [] O (λτ h=>ax UG X2 vN O XZ XZ (h.Fm O O) O) O XY<|Ds [_] O (λτ h=>cq call60 hpick (h.args.trans O) (Eo h 0 O O)) O XY<|Dr 5 O ?_;refine⟨XY,?_⟩;refine Z3 O ?_;refine⟨(at2++[(nm 97 at2.length,px)],l++[(at2.length:Int)],c-1,sNk L k3),TP [0,1,9,3,4,7] ⟨O,O,O,O,O,O,by simp;rfl,O,X5⟩ ⟨O,O,by simp;rfl,by rw[p9];rfl,O,O,by rw[fZ];rfl,X5⟩ O O X2 O,⟨CZ hmid XX hpx,by simp only[D8,Uu];omega,X4,iP hk3⟩,?_⟩;simp only[D8,Uu];omega
   refine AW.exit ?_;refine AW.cut (st:=λl:List Int=>mkS [(0,.ptr big 0),(1,pIi most),(4,.ptr 0 0),(5,.ptr 1 0),(6,pIi nn),(7,pIi k),(8,.pv (aq l))] [(big,yq L k3),(0,Ra),(1,RD at2.length rs.length 0 (-1)),(2,.gro 142 (aK at2)),(3,.gro 116 (aU rs)),(4,.gro 150 [])] 5) (I:=λl=>Kk at' at2 l most) ?_ ?_
   .refine Z3 O ?_;have A:l.length=0->most<=at2.length:=XX;refine AW.cond O (λhc=>?_) (λhc=>?_)
    .have hl0':l=[]:=UM (by simpa using hc);subst hl0';have hf:=A O;exact Gr O<|Rs O (ax UG X2 vN O XZ XZ O O)<|A1 O<|⟨[0],TO (aS O) (aO O) O O,⟨hmid.1,hmid.2.1,hmid.2.2.1,⟨X2,X3⟩,λa h1 h2=>absurd (hmid.2.2.2.2 a h1 h2) X2⟩,X2,XX⟩
    have u:l≠[]:=λe=>by subst e;simp at hc
    have G:0<l.length:=U7.2 u;exact TM<|⟨l,St.le.trans (TR 5 O O) (TO ⟨O,O,O,O,O,O,by simp[aq];rfl,X5⟩ (aO O) O O),hmid,u,XX⟩
   .intro l2 hend;refine UB 10 O<|Dr 3 O<|Ds [] O (λτ h=>aa call59 (fO ⟨#[114]⟩ k XZ XX) (h.aE O)) O XY<|Dr 6 O ?_;refine⟨XY,?_⟩;refine Z3 O ?_;refine⟨(k+1,at2,rs++[(nm 114 k,l2)],k3),TP [0,1,2,6,4] (aT O) ⟨O,O,by simp;rfl,O,by rw[nH];rfl,O,X5⟩ O O X2 O,⟨X4,p6 hhead hend,hk3⟩,X4⟩
  by_cases hl0:l.length=0
  .refine Z1 O<|Rs O (XJ.cast (v':=.pv (.bool WA)) (aD O O O) X3)<|Y3 O<|Rg O (XJ.cast (v':=.pv (.bool VA)) (aD O O O) (by simp[hl0]))<|Ar 8 O ?_;refine AW.k7 O (λhc=>?_) (λhc=>?_)
   .refine TM<|Gr O<|Ar 7 O<|UB 14 O<|Dr 5 O<|Ds [] O (λτ h=>aa call59 (fO ⟨#[97]⟩ at2.length XZ XX) (h.aE O)) O XY<|D1 O<|Ds [] O (λτ h=>ax UG X2 vN O XZ XZ (h.Fm O O) O) O XY<|Ds [_] O (λτ h=>cq call60 hpick (h.args.trans O) (Eo h 0 O O)) O XY<|Dr 5 O ?_;refine⟨XY,?_⟩;refine Z3 O ?_;refine⟨(at2++[(nm 97 at2.length,px)],l++[(at2.length:Int)],c-1,sNk L k3),TP [0,1,9,3,4,7] ⟨O,O,O,O,O,O,by simp;rfl,O,X5⟩ ⟨O,O,by simp;rfl,by rw[p9];rfl,O,O,by rw[fZ];rfl,X5⟩ O O X2 O,⟨CZ hmid XX hpx,by simp only[D8,Uu];omega,X4,iP hk3⟩,?_⟩;simp only[D8,Uu];omega
   refine AW.exit ?_;refine AW.cut (st:=λl:List Int=>mkS [(0,.ptr big 0),(1,pIi most),(4,.ptr 0 0),(5,.ptr 1 0),(6,pIi nn),(7,pIi k),(8,.pv (aq l))] [(big,yq L k3),(0,Ra),(1,RD at2.length rs.length 0 (-1)),(2,.gro 142 (aK at2)),(3,.gro 116 (aU rs)),(4,.gro 150 [])] 5) (I:=λl=>Kk at' at2 l most) ?_ ?_
   .refine Z3 O ?_;have A:l.length=0->most<=at2.length:=XX;refine AW.cond O (λhc=>?_) (λhc=>?_)
    .have hl0':l=[]:=UM (by simpa using hc);subst hl0';have hf:=A O;exact Gr O<|Rs O (ax UG X2 vN O XZ XZ O O)<|A1 O<|⟨[0],TO (aS O) (aO O) O O,⟨hmid.1,hmid.2.1,hmid.2.2.1,⟨X2,X3⟩,λa h1 h2=>absurd (hmid.2.2.2.2 a h1 h2) X2⟩,X2,XX⟩
    have u:l≠[]:=λe=>by subst e;simp at hc
    have G:0<l.length:=U7.2 u;exact TM<|⟨l,St.le.trans (TR 5 O O) (TO ⟨O,O,O,O,O,O,by simp[aq];rfl,X5⟩ (aO O) O O),hmid,u,XX⟩
   .intro l2 hend;refine UB 10 O<|Dr 3 O<|Ds [] O (λτ h=>aa call59 (fO ⟨#[114]⟩ k XZ XX) (h.aE O)) O XY<|Dr 6 O ?_;refine⟨XY,?_⟩;refine Z3 O ?_;refine⟨(k+1,at2,rs++[(nm 114 k,l2)],k3),TP [0,1,2,6,4] (aT O) ⟨O,O,by simp;rfl,O,by rw[nH];rfl,O,X5⟩ O O X2 O,⟨X4,p6 hhead hend,hk3⟩,X4⟩
  have T:((l.length:Int)==0)=WA:=by rw[VP];omega
  refine Z1 O<|Rs O (XJ.cast (v':=.pv (.bool WA)) (aD O O O) X3)<|Y3 O<|Rg O (XJ.cast (v':=.pv (.bool WA)) (aD O O O) (by rw[T]))<|Ar 8 O<|AW.cond O (λhc=>absurd hc X2) (λhc=>?_);refine AW.exit<|AW.cut (st:=λl:List Int=>mkS [(0,.ptr big 0),(1,pIi most),(4,.ptr 0 0),(5,.ptr 1 0),(6,pIi nn),(7,pIi k),(8,.pv (aq l))] [(big,yq L k3),(0,Ra),(1,RD at2.length rs.length 0 (-1)),(2,.gro 142 (aK at2)),(3,.gro 116 (aU rs)),(4,.gro 150 [])] 5) (I:=λl=>Kk at' at2 l most) ?_ ?_
  .refine Z3 O ?_;have A:l.length=0->most<=at2.length:=XX;refine AW.cond O (λhc=>?_) (λhc=>?_)
   .have hl0':l=[]:=UM (by simpa using hc);subst hl0';have hf:=A O;exact Gr O<|Rs O (ax UG X2 vN O XZ XZ O O)<|A1 O<|⟨[0],TO (aS O) (aO O) O O,⟨hmid.1,hmid.2.1,hmid.2.2.1,⟨X2,X3⟩,λa h1 h2=>absurd (hmid.2.2.2.2 a h1 h2) X2⟩,X2,XX⟩
   have u:l≠[]:=λe=>by subst e;simp at hc
   have G:0<l.length:=U7.2 u;exact TM<|⟨l,St.le.trans (TR 5 O O) (TO ⟨O,O,O,O,O,O,by simp[aq];rfl,X5⟩ (aO O) O O),hmid,u,XX⟩
  .intro l2 hend;refine UB 10 O<|Dr 3 O<|Ds [] O (λτ h=>aa call59 (fO ⟨#[114]⟩ k XZ XX) (h.aE O)) O XY<|Dr 6 O ?_;refine⟨XY,?_⟩;refine Z3 O ?_;refine⟨(k+1,at2,rs++[(nm 114 k,l2)],k3),TP [0,1,2,6,4] (aT O) ⟨O,O,by simp;rfl,O,by rw[nH];rfl,O,X5⟩ O O X2 O,⟨X4,p6 hhead hend,hk3⟩,X4⟩
 obtain rfl:k=nn:=XX;have Y:1<=at'.length:=hhead.2.2.2.2.2 XX;refine AW.exit<|TN (TR 2 O O)<|TN (TR 3 O O)<|Z4 O<|AW.block<|AW.loop (st:=λx:Nat×List (Int×Int×Int)×Int×Nat=>mkS [(0,.ptr big 0),(4,.ptr 0 0),(5,.ptr 1 0),(86,.pv (.sl UG at'.length (aK at'))),(87,pIi at'.length),(88,pIi x.1)] [(big,yq L x.2.2.2),(0,Ra),(1,.mix 30 [.pv (.sl UG at'.length (aK at')),.pv (.sl UG rs.length (aU rs)),.gsl 2 3 x.2.1.length,pIi x.2.2.1]),(2,.gro 150 (aL x.2.1))] 3)
  (I:=λx=>x.1<=at'.length/\gX at' x.2.1 x.2.2.1 x.1/\x.2.2.2<=L.length) (μ:=λx=>at'.length-x.1) (x0:=(0,[], -1,k2)) (TP [0,1,4] (aT O) (aP O) O O X2 O) ⟨aJ _,⟨X2,X2,.inl O⟩,hk2⟩ ?_
 rintro⟨j,fs,lb,k3⟩ ⟨hj,hfs,hk3⟩;simp only at hj hfs hk3 ⊢;have hFl:=iE fs;have hfl:=eO hfs;have T:=s9 hfs;refine Z1 O<|Gp O (λhc=>?_) (λhc=>?_)
 .have hjl:j<at'.length:=XX;have u:aK at'≠[]:=λe=>by rw[e]at M;simp at M;omega
  have U:((aK at').drop (j*2)).take 2=[.str at'[j].1,.int .i64 at'[j].2]:=cZ _ 2 (λ_=>rfl) at' j hjl;have B:(at'.getD j default).2=at'[j].2:=by simp[List.getD,hjl]
  refine TM<|Z2 O<|Rs O (aF ⟨_,underlying142,O⟩ nM O U O)<|Y3 O<|AW.block ?_;generalize at'[j].2=K at B ⊢;generalize at'[j].1=nme;by_cases hK:K=2
  .subst hK;by_cases hl0:lb<0
   .refine Z2 O<|Rs O (XJ.cast (v':=.pv (.bool VA)) (aD O O O) X2)<|Y3 O<|Rg O (XJ.cast (v':=.pv (.bool VA)) (aD O O O) X3)<|Y3 O<|Rg O (cq call7 (gB L k3 2 D hk3 XX XX) O O)<|Y3 O ?_;have E:=iP hk3;generalize sNk L k3=k4 at E ⊢;refine AW.cond O (λhc=>?_) (λhc=>?_)
    .exact Z3 O<|Z2 O<|⟨(j+1,fs,(j:Int),k4),TO (aS O) (aO O) O O,⟨X4,tE hfs B,E⟩,X4⟩
    refine Z2 O<|Rs O (XJ.cast (v':=.pv (.bool VA)) (aD O O O) X2)<|Y2 O<|Rg O (cq call7 (gB L k4 4 D E XX XX) O O)<|Y3 O ?_;have z:=iP E;generalize sNk L k4=k5 at z ⊢;refine AW.k7 O (λhc=>?_) (λhc=>?_)
    .have hnb:=jL L k5 2 XX;refine UB 10 O<|Dr 4 O<|Ds [_] O (λτ h=>cq call7 (gB L k5 2 D z XX XX) (h.args.trans O) (Eo h 0 O O)) O XY<|Dr 5 O ?_;refine⟨XY,?_⟩;exact Z2 O<|⟨(j+1,fs++[((j:Int),1,sNv L k5 2)],lb,sNk L k5),TP [0,1,5] (aT O) ⟨O,O,by simp only[D8,Uu];rfl,ah (λc=>UF (Ob.gro 150 c)) (kP fs ((j:Int),1,sNv L k5 2)).symm,X5⟩ O O X2 O,⟨X4,jB hfs XX (.inl ⟨O,B,XX⟩),iP z⟩,X4⟩
    refine Z2 O<|Rs O (XJ.cast (v':=.pv (.bool WA)) (aD O O O) X2)<|Ar 6 O ?_;refine AW.cond O (λhc=>absurd hc X2) (λhc=>?_);exact TM<|Z2 O<|⟨(j+1,fs,lb,k5),TO (aS O) (aO O) O O,⟨X4,dN hfs,z⟩,X4⟩
   refine Z2 O<|Rs O (XJ.cast (v':=.pv (.bool VA)) (aD O O O) X2)<|Y3 O<|Rg O (XJ.cast (v':=.pv (.bool WA)) (aD O O O) X3)<|Ar 7 O ?_;refine AW.cond O (λhc=>absurd hc X2) (λhc=>?_);refine Z2 O<|Rs O (XJ.cast (v':=.pv (.bool VA)) (aD O O O) X2)<|Y2 O<|Rg O (cq call7 (gB L k3 4 D hk3 XX XX) O O)<|Y3 O ?_;have z:=iP hk3;generalize sNk L k3=k5 at z ⊢;refine AW.k7 O (λhc=>?_) (λhc=>?_)
   .have hnb:=jL L k5 2 XX;refine UB 10 O<|Dr 4 O<|Ds [_] O (λτ h=>cq call7 (gB L k5 2 D z XX XX) (h.args.trans O) (Eo h 0 O O)) O XY<|Dr 5 O ?_;refine⟨XY,?_⟩;exact Z2 O<|⟨(j+1,fs++[((j:Int),1,sNv L k5 2)],lb,sNk L k5),TP [0,1,5] (aT O) ⟨O,O,by simp only[D8,Uu];rfl,ah (λc=>UF (Ob.gro 150 c)) (kP fs ((j:Int),1,sNv L k5 2)).symm,X5⟩ O O X2 O,⟨X4,jB hfs XX (.inl ⟨O,B,XX⟩),iP z⟩,X4⟩
   refine Z2 O<|Rs O (XJ.cast (v':=.pv (.bool WA)) (aD O O O) X2)<|Ar 6 O ?_;refine AW.cond O (λhc=>absurd hc X2) (λhc=>?_);exact TM<|Z2 O<|⟨(j+1,fs,lb,k5),TO (aS O) (aO O) O O,⟨X4,dN hfs,z⟩,X4⟩
  have hKb:(K==2)=WA:=by simpa using hK
  refine Z2 O<|Rs O (XJ.cast (v':=.pv (.bool WA)) (aD O O O) (by rw[hKb]))<|Ar 11 O<|AW.cond O (λhc=>absurd hc X2) (λhc=>?_);refine Z2 O<|Rs O (XJ.cast (v':=.pv (.bool WA)) (aD O O O) (by rw[hKb]))<|Ar 6 O<|AW.cond O (λhc=>absurd hc X2) (λhc=>?_);by_cases hK3:K=3
  .subst hK3;refine Z2 O<|Rs O (XJ.cast (v':=.pv (.bool VA)) (aD O O O) X2)<|Y2 O<|Rg O (cq call7 (gB L k3 4 D hk3 XX XX) O O)<|Y3 O<|AW.k7 O (λhc=>?_) (λhc=>?_)
   .exact Gr O<|Ar 8 O<|Z2 O<|⟨(j+1,fs++[((j:Int),2,0)],lb,sNk L k3),TP [0,1,5] (aT O) ⟨O,O,by simp only[D8,Uu];rfl,ah (λc=>UF (Ob.gro 150 c)) (kP fs ((j:Int),2,0)).symm,X5⟩ O O X2 O,⟨X4,jB hfs XX (.inr ⟨O,B,O⟩),iP hk3⟩,X4⟩
   exact TM<|Z2 O<|⟨(j+1,fs,lb,sNk L k3),TO (aS O) (aO O) O O,⟨X4,dN hfs,iP hk3⟩,X4⟩
  have hKb3:(K==3)=WA:=by simpa using hK3
  refine Z2 O<|Rs O (XJ.cast (v':=.pv (.bool WA)) (aD O O O) (by rw[hKb3]))<|Ar 6 O<|AW.cond O (λhc=>absurd hc X2) (λhc=>?_);exact TM<|Z2 O<|⟨(j+1,fs,lb,k3),TO (aS O) (aO O) O O,⟨X4,dN hfs,hk3⟩,X4⟩
 obtain rfl:j=at'.length:=XX;refine AW.exit<|Z4 O<|AW.k7 O (λhc=>absurd hc XX) (λhc=>?_);exact TM<|TN (TR 2 O O)<|Z2 O<|AW.ret<|⟨0,_,schC ⟨at',rs,fs,lb⟩,jh L k3,O,O,O,O,O,⟨⟨at',rs,fs,lb⟩,⟨Y,J,X4,X4,hhead.1,hhead.2.1,hhead.2.2.1,hfs⟩,O⟩,k3,hk3,O⟩
end
theorem ibT{a b:Int}(h:(a==b)=VA):a=b:=VK.1 h
theorem ibF{a b:Int}(h:(a==b)=WA):¬a=b:=λe=>by rw[VK.2 e]at h;cases h
theorem inT{a b:Int}(h:(a !=b)=VA):¬a=b:=bne_iff_ne.1 h
theorem inF{a b:Int}(h:(a !=b)=WA):a=b:=by
 by_cases e:a=b
 .exact e
 rw[bne_iff_ne.2 e]at h;cases h
theorem KM(l:List Int)(x:Int)(D:l.length<=1000000000):FnP prog 289 [aq l,.int .i64 x] (λv=>∃i:Int,v= .int .i64 i/\(0<=i↔x∈l)/\ -1<=i/\i<1000000001):=by
 refine FnP.of func289 O ntmps289 X2 λ_ _ _ _=>?_
 refine Z1 O<|Z3 O<|Gz O (st:=λX6:Nat=>([(0,UG),(1,UG),(7,UG),(8,UF (pIi X6))],[])) 0
  (I:=λX6=>X6<=l.length/\¬x∈l.take X6) (μ:=λX6=>l.length-X6) (x0:=(0)) (TO (aS O) trivial O O) X2 ?_
 rintro k ⟨hk,hno⟩;refine Z1 O<|Gp O (λz=>?_) (λz=>?_)
 .have hlt:k<l.length:=XX;have B:=a7 hlt;have A:=aM hlt;refine TM<|Z2 O<|Z4 O ?_;first|refine A2 O X0 ?_|refine A1 O ?_
  refine A1 O<|Gc O (λu=>?_) (λu=>?_)
  .have hx:l[k]=x:=(ibT u).symm;exact Z2 O<|Gt O<|⟨_,_,O,O,_,O,⟨λ_=>hx▸ak hlt,λ_=>by omega⟩,XX,XX⟩
  exact TM<|Z2 O<|⟨(k+1),TO (aS O) trivial O O,⟨XX,gE hlt hno (λe=>ibF u e.symm)⟩,XX⟩
 exact Gx O<|Z1 O<|Gt O<|⟨_,_,O,O,_,O,⟨λh=>absurd h XZ,λh=>absurd (by rwa [aG XX]) hno⟩,XX,XX⟩
theorem tU(l:List Int)(x:Int)(u:l.length<=1000000000):FnP prog 244 [aq l,.int .i64 x] (· = .bool (decide (x∈l))):=by
 refine FnP.of func244 O ntmps244 X2 λ_ _ _ _=>?_
 refine Z1 O<|Z2 O<|RL.call O (gZ call289 (KM l x u) O ?_);rintro _ ⟨i,rfl,hi,_,_⟩;exact Y2 O<|Gt O<|⟨_,_,O,O,ah PV.bool (XH.2 hi)⟩
section
open Mk
abbrev ct(l:List ByteArray):List PV:=l.map .str
abbrev bh(l:List ByteArray):PV:=.sl UG l.length (ct l)
theorem bP{l:List ByteArray}(h:k<l.length):(ct l)[k*1]? =UF (.str l[k]):=by simp[h]
theorem bO{l:List ByteArray}(h:k<l.length):ct l≠[]:=by intro e;simp at e;subst e;simp at h
theorem gy{l:List α}{x:α}(z:k<l.length)(h:¬x∈l.take k)(u:¬l[k]=x):¬x∈l.take (k+1):=by grind[sh,IT]
theorem bytes_inj{a b:ByteArray}(h:a.toList=b.toList):a=b:=by grind[ByteArray.toList_eq,ByteArray.ext,Array.toList_inj.1]
theorem baT{a b:ByteArray}(h:(a.toList==b.toList)=VA):a=b:=bytes_inj (VK.1 h)
theorem baF{a b:ByteArray}(h:(a.toList==b.toList)=WA):¬a=b:=by
 rintro rfl;simp at h
theorem Fk(l:List ByteArray)(x:ByteArray)(D:l.length<=1000000000):FnP prog 322 [bh l,.str x] (λv=>∃i:Int,v= .int .i64 i/\(0<=i↔x∈l)/\ -1<=i/\i<1000000001):=by
 refine FnP.of func322 O ntmps322 X2 λ_ _ _ _=>?_
 refine Z1 O<|Z3 O<|Gz O (st:=λX6:Nat=>([(0,UG),(1,UG),(7,UG),(8,UF (pIi X6))],[])) 0
  (I:=λX6=>X6<=l.length/\¬x∈l.take X6) (μ:=λX6=>l.length-X6) (x0:=(0)) (TO (aS O) trivial O O) X2 ?_
 rintro k ⟨hk,hno⟩;refine Z1 O<|Gp O (λz=>?_) (λz=>?_)
 .have hlt:k<l.length:=XX;have B:=bP hlt;have A:=bO hlt;refine TM<|Z2 O<|Z4 O ?_;first|refine A2 O X0 ?_|refine A1 O ?_
  refine A1 O<|Gc O (λu=>?_) (λu=>?_)
  .have hx:l[k]=x:=(baT u).symm;exact Z2 O<|Gt O<|⟨_,_,O,O,_,O,⟨λ_=>hx▸ak hlt,λ_=>by omega⟩,XX,XX⟩
  exact TM<|Z2 O<|⟨(k+1),TO (aS O) trivial O O,⟨XX,gy hlt hno (λe=>baF u e.symm)⟩,XX⟩
 exact Gx O<|Z1 O<|Gt O<|⟨_,_,O,O,_,O,⟨λh=>absurd h XZ,λh=>absurd (by rwa [aG XX]) hno⟩,XX,XX⟩
theorem r4(l:List ByteArray)(x:ByteArray)(u:l.length<=1000000000):FnP prog 287 [bh l,.str x] (· = .bool (hasB l x)):=by
 refine FnP.of func287 O ntmps287 X2 λ_ _ _ _=>?_
 refine Z1 O<|Z2 O<|RL.call O (gZ call322 (Fk l x u) O ?_);rintro _ ⟨i,rfl,hi,_,_⟩;exact Y2 O<|Gt O<|⟨_,_,O,O,ah PV.bool (XH.2 hi)⟩
abbrev cI(l:List Bool):List PV:=l.map .bool
abbrev mV(l:List Bool):PV:=.sl UG l.length (cI l)
theorem FL{l:List Bool}(h:k<l.length):(cI l)[k*1]? =UF (.bool l[k]):=by simp[h]
theorem xa{l:List Bool}(h:k<l.length):cI l≠[]:=by intro e;simp at e;subst e;simp at h
theorem I6(l:List Bool)(x:Bool)(D:l.length<=1000000000):FnP prog 288 [mV l,.bool x] (λv=>∃i:Int,v= .int .i64 i/\(0<=i↔x∈l)/\ -1<=i/\i<1000000001):=by
 refine FnP.of func288 O ntmps288 X2 λ_ _ _ _=>?_
 refine Z1 O<|Z3 O<|Gz O (st:=λX6:Nat=>([(0,UG),(1,UG),(7,UG),(8,UF (pIi X6))],[])) 0
  (I:=λX6=>X6<=l.length/\¬x∈l.take X6) (μ:=λX6=>l.length-X6) (x0:=(0)) (TO (aS O) trivial O O) X2 ?_
 rintro k ⟨hk,hno⟩;refine Z1 O<|Gp O (λz=>?_) (λz=>?_)
 .have hlt:k<l.length:=XX;have B:=FL hlt;have A:=xa hlt;refine TM<|Z2 O<|Z4 O ?_;first|refine A2 O X0 ?_|refine A1 O ?_
  refine A1 O<|Gc O (λu=>?_) (λu=>?_)
  .have hx:l[k]=x:=(VK.1 u).symm;exact Z2 O<|Gt O<|⟨_,_,O,O,_,O,⟨λ_=>hx▸ak hlt,λ_=>by omega⟩,XX,XX⟩
  exact TM<|Z2 O<|⟨(k+1),TO (aS O) trivial O O,⟨XX,gy hlt hno (λe=>VP.1 u e.symm)⟩,XX⟩
 exact Gx O<|Z1 O<|Gt O<|⟨_,_,O,O,_,O,⟨λh=>absurd h XZ,λh=>absurd (by rwa [aG XX]) hno⟩,XX,XX⟩
theorem r6(l:List Bool)(x:Bool)(u:l.length<=1000000000):FnP prog 241 [mV l,.bool x] (· = .bool (decide (x∈l))):=by
 refine FnP.of func241 O ntmps241 X2 λ_ _ _ _=>?_
 refine Z1 O<|Z2 O<|RL.call O (gZ call288 (I6 l x u) O ?_);rintro _ ⟨i,rfl,hi,_,_⟩;exact Y2 O<|Gt O<|⟨_,_,O,O,ah PV.bool (XH.2 hi)⟩
theorem qK{l:List UInt8}(h:k<l.length):(aH l)[k*1]? =UF (.int .u8 (l[k].toNat:Int)):=by simp[aH,h]
theorem pP{l:List UInt8}(h:k<l.length):aH l≠[]:=by intro e;simp[aH]at e;subst e;simp at h
def JU(k:Nat)(c:UInt8):Bool:= !(decide ((97:Int)<=c.toNat)&&decide ((c.toNat:Int)<=122))&&(((k:Int)==0)||(((c.toNat:Int) !=45)&&(decide ((c.toNat:Int)<48)||decide ((57:Int)<c.toNat))))
theorem Bo(k:Nat)(c:UInt8):JU k c= !rT k c.toNat:=by
 unfold JU rT;generalize c.toNat=n;have u:((k:Int)==0)= !decide (k≠0):=by grind
 have z:((n:Int) !=45)= !(n==45):=by grind
 have A:(decide ((97:Int)<=n)&&decide ((n:Int)<=122))=decide (97<=n/\n<=122):=by
  rw[UH];simp;omega
 have B:(decide ((n:Int)<48)||decide ((57:Int)<n))= !decide (48<=n/\n<=57):=by
  rw[UH];simp;omega
 rw[u,z,A,B];cases decide (97<=n/\n<=122)<;>cases decide (k≠0)<;>cases (n==45)<;>cases decide (48<=n/\n<=57)<;>rfl
theorem X8(h:p:=by first|exact ai.le|exact ai.aw|exact TV):p:=h
theorem wW(s:ByteArray)(H:s.size<=9223372036854775807):FnP prog 198 [.str s] (· = .bool (fI s)):=by
 refine FnP.of func198 O ntmps198 X2 λ_ _ _ _=>?_
 have B:s.data.toList.length=s.size:=UR;refine Z1 O<|Z4 O<|Gz O (st:=λX6:Nat=>([(0,UG),(7,UG),(8,UG),(9,UF (pIi X6))],[])) 0
  (I:=λX6=>X6<=s.data.toList.length/\∀j,j<X6->rT j (s.data.toList.getD j 0).toNat=VA) (μ:=λX6=>s.data.toList.length-X6) (x0:=(0)) (TO (aS O) trivial O O) (⟨aJ _,λj hj=>absurd hj (VV _)⟩) ?_
 rintro k ⟨hk,hall⟩;refine Z1 O<|Gp O (λA=>?_) (λA=>?_)
 .have hlt:k<s.data.toList.length:=XX;have E:=qK hlt;have D:=pP hlt;have z:s.data.toList.getD k 0=s.data.toList[k]:=by rw[Ur,BY hlt];rfl
  refine TM<|Z2 O ?_;first|refine A2 O X0 ?_|refine A1 O ?_
  refine Y2 O ?_;generalize s.data.toList[k]=c at z ⊢;refine Z3 O ?_;apply TY 3 16 19 [17,18] O X8
  .intro hb2;exact Y3 O<|TQ X7 O O O
  .intro hb2;exact Y3 O<|TQ X7 O O O
  refine A1 O<|Z3 O ?_;apply TY 15 22 37 [23,24,25,26,27,28,29,30,31,32,33,34,35,36] O X8
  .intro hb2;refine Y3 O ?_;apply TX 11 25 36 [26,27,28,29,30,31,32,33,34,35] O X8
   .intro hb5;exact Ar 11 O<|TQ X7 O O O
   .intro hb5;refine Y3 O ?_;apply TY 7 28 35 [29,30,31,32,33,34] O X8
    .intro hb8;refine Y3 O ?_;apply TX 3 31 34 [32,33] O X8
     .intro hb11;exact Y3 O<|TQ X7 O O O
     .intro hb11;exact Y3 O<|TQ X7 O O O
     exact A1 O<|TQ X7 O O O
    .intro hb8;exact Ar 7 O<|TQ X7 O O O
    exact A1 O<|TQ X7 O O O
   exact A1 O<|TQ X7 O O O
  .intro hb2;exact Ar 15 O<|TQ X7 O O O
  have G:_=VA\/_=WA:=Bool.eq_false_or_eq_true (JU k c);refine Gc O (λu=>?_) (λu=>?_)
  .have hc:JU k c=VA:=u;exact Z1 O<|Gt O<|⟨_,_,O,O,ah PV.bool (zJ s k XX (by rw[z];rw[Bo]at hc;simpa using hc)).symm⟩
  have hc:JU k c=WA:=u;exact TM<|Z2 O<|⟨(k+1),TO (aS O) trivial O O,⟨XX,λj hj=>by rcases Vu.1 hj with h|rfl;exact hall j h;rw[z];rw[Bo]at hc;simpa using hc⟩,XX⟩
 refine Gx O<|Z4 O ?_;apply TY 4 42 46 [43,44,45] O X8
 .intro hb3;exact Ar 4 O<|TQ X7 O O O
 .intro hb3;exact Ar 4 O<|TQ X7 O O O
 exact A1 O<|Gt O<|⟨_,_,O,O,ah PV.bool (by rw[AX s (λj hj=>hall j XX)];rw[UH];simp;omega)⟩
end
def val:List Nat->Nat
 |[]=>0
 |a::l=>a+1000000000*val l
def ae(n:Nat):List Nat:=if n=0 then []else n%1000000000::ae (n/1000000000)
termination_by n
decreasing_by omega
def Lok(l:List Nat):Prop:=∀a∈l,a<1000000000
theorem aX:ae 0=[]:=by rw[ae];rfl
theorem c8(h:n≠0):ae n=n%1000000000::ae (n/1000000000):=by
 conv=>lhs;rw[ae]
 rw[pF h]
theorem aI(n:Nat):val (ae n)=n:=by
 induction n using Nat.strongRecOn with
 | ind n ih=>
   by_cases h:n=0
   .subst h;rw[aX];rfl
   grind[c8,val]
theorem aZ(n:Nat):Lok (ae n):=by
 induction n using Nat.strongRecOn with
 | ind n ih=>
   by_cases h:n=0
   .subst h;rw[aX];intro a ha;simp at ha
   rw[c8 h];intro a ha;rcases By.1 ha with rfl|ha
   .exact Vi _ XZ
   exact ih _ XX a ha
theorem Lok.cons{l:List Nat}(h:Lok (a::l)):a<1000000000/\Lok l:=⟨h a X2,λb hb=>h b (by simp[hb])⟩
theorem Lok.at{l:List Nat}(h:Lok l)(i:Nat):l.getD i 0<1000000000:=by
 by_cases hi:i<l.length
 .simp only[List.getD,BY hi,Ww];exact h _ (ak hi)
 grind
theorem Lok.take{l:List Nat}(h:Lok l)(k:Nat):Lok (l.take k):=λa ha=>h a (Xe ha)
theorem Lok.set{l:List Nat}(h:Lok l)(u:x<1000000000):Lok (l.set k x):=λa ha=>by
 rcases List.mem_or_eq_of_mem_set ha with e|e
 .exact h a e
 rw[e];exact u
theorem Lok.append{l r:List Nat}(h:Lok l)(u:Lok r):Lok (l++r):=λa ha=>(UN.1 ha).elim (h a) (u a)
theorem Lok.replicate(k:Nat):Lok (List.replicate k 0):=λa ha=>by rw[List.eq_of_mem_replicate ha];decide
theorem cU(l r:List Nat):val (l++r)=val l+1000000000^l.length*val r:=by
 induction l with
 |nil=>simp[val]
 |cons a l ih=>rw[VI,val,val,ih,IN,Vc,Wd,<-Vm,U8 (1000000000^l.length) 1000000000,Nat.add_assoc]
theorem jQ(l:List Nat)(k:Nat):val l=val (l.take k)+1000000000^(min k l.length)*val (l.drop k):=by
 conv=>lhs;rw[<-U3 k l]
 rw[cU,OF]
theorem sy{l:List Nat}(h:Lok l):val l<1000000000^l.length:=by
 induction l with
 |nil=>simp[val]
 | cons a l ih=>
   have u:=h.cons;have z:=ih u.2;rw[val,IN,Vc];have:val l+1<=1000000000^l.length:=z;have:=US 1000000000 this;rw[U8 (1000000000^l.length)];omega
theorem val_zero{l:List Nat}(h:∀i,l.getD i 0=0):val l=0:=by
 induction l with
 |nil=>rfl
 | cons a l ih=>
   have u:=h 0;simp at u;rw[val,ih (λi=>by simpa using h (i+1)),u]
theorem iO{l:List Nat}(h:Lok l):∀{n:Nat},n<=l.length->(∀i,n<=i->l.getD i 0=0)->(n=0\/l.getD (n-1) 0≠0)->ae (val l)=l.take n:=by
 induction l with
 |nil=>intro n _ _ _;simp[val,aX]
 | cons a l ih=>
   intro n hn hz hl;cases n with
   | zero=>
     have:val (a::l)=0:=val_zero λi=>hz i (aJ _)
     rw[this,aX];rfl
   | succ n=>
     have A:=h.cons;have e:=ih A.2 (n:=n) (by simpa using hn) (λi hi=>by simpa using hz (i+1) XX) (by grind);have z:val (a::l)≠0:=by
      intro h0;rw[val]at h0;have G:a=0:=XX;have B:val l=0:=XX;rw[B,aX]at e;have u:=ah List.length e;simp at u hn;rcases hl with hl|hl
      .omega
      grind
     rw[c8 z,val,Xo];have D:(a+1000000000*val l)%1000000000=a:=XX;have E:(a+1000000000*val l)/1000000000=val l:=XX;rw[D,E,e]
theorem xZ(h:n≠0):(ae n).getD ((ae n).length-1) 0≠0:=by
 induction n using Nat.strongRecOn with
 | ind n ih=>
   rw[c8 h];by_cases h2:n/1000000000=0
   .rw[h2,aX];simp;omega
   grind
theorem bI:(ae n).length=0↔n=0:=by grind[aI,UM,aX]
theorem dV(n:Nat):n<1000000000^(ae n).length:=by
 have:=sy (aZ n);rwa [aI]at this
theorem AN(h:n≠0):1000000000^((ae n).length-1)<=n:=by
 have z:(ae n).length≠0:=λe=>h (bI.1 e)
 have A:=xZ h;have e:=jQ (ae n) ((ae n).length-1);rw[aI,U5 XX]at e;have u:(ae n).drop ((ae n).length-1)=[(ae n).getD ((ae n).length-1) 0]:=by
  rw[Us XX,Vf XX];simp[List.getD,show(ae n).length-1<(ae n).length by omega]
 rw[u]at e;simp only[val,Xz,Wf]at e;have:1000000000^((ae n).length-1)*1<=1000000000^((ae n).length-1)*(ae n).getD ((ae n).length-1) 0:=US _ XX;omega
theorem aY:(ae n).length<=k↔n<1000000000^k:=by
 constructor
 .grind[Uq,dV,Vr]
 .intro h;by_cases h0:n=0
  .subst h0;rw[aX];simp
  apply Nat.le_of_not_lt;intro hk;have u:=AN h0;have z:1000000000^k<=1000000000^((ae n).length-1):=Vr XZ XX;omega
theorem gx(h:(ae a).length<(ae b).length):a<b:=by
 by_cases h0:b=0
 .grind[aX]
 have h1:=AN h0;have u:=dV a;have z:1000000000^(ae a).length<=1000000000^((ae b).length-1):=Vr XZ XX;omega
theorem wi(h:ae a=ae b):a=b:=by rw[<-aI a,h,aI]
theorem eJ(u:n≠0)(h:n<1000000000):ae n=[n]:=by
 rw[c8 u,Wx h,WU h,aX]
theorem pJ{l r:List Nat}(H:Lok l)(A:l.length=r.length)(B:i<l.length)(I:l.drop (i+1)=r.drop (i+1))(h:l.getD i 0<r.getD i 0):val l<val r:=by
 have u:=jQ l i;have z:=jQ r i;rw[U5 XX]at u z;have D:l.drop i=l.getD i 0::l.drop (i+1):=by rw[Us B];simp[List.getD,B]
 have E:r.drop i=r.getD i 0::r.drop (i+1):=by rw[Us XX];simp[List.getD,show i<r.length by omega]
 rw[D,val]at u;rw[E,val,<-I]at z;have G:=sy (H.take i);rw[OF,U5 XX]at G;generalize val (l.drop (i+1))=t at*;generalize l.getD i 0=x at*;generalize r.getD i 0=y at*;generalize 1000000000^i=p at*;have J:p*(x+1000000000*t)+p<=p*(y+1000000000*t):=by rw[<-Nat.mul_succ];exact US _ XX
 omega
def sm(f:Nat->Nat):Nat->Nat
 |0=>0
 |i+1=>sm f i+1000000000^i*f i
abbrev lim(l:List Nat)(i:Nat):Nat:=l.getD i 0
theorem dZ{l:List Nat}(h:i<l.length):lim l i=l[i]:=by simp[lim,List.getD,h]
theorem jn{l:List Nat}(h:l.length<=i):lim l i=0:=by simp[lim,List.getD,h]
theorem vz{f:Nat->Nat}(h:∀i,i<n->f i=g i):sm f n=sm g n:=by
 induction n with
 |zero=>rfl
 |succ n ih=>rw[sm,sm,ih λi hi=>h i XX,h n XX]
theorem OZ(l:List Nat)(u:n<=l.length):sm (lim l) n=val (l.take n):=by
 induction n with
 |zero=>rw[Xt];rfl
 | succ n ih=>
   rw[sm,ih XX,sh XX,cU,OF,U5 XX,dZ XX];simp[val]
theorem eD(l:List Nat)(u:l.length<=n):sm (lim l) n=val l:=by
 induction n with
 | zero=>
   rw[UM (by omega:l.length=0)];rfl
 | succ n ih=>
   by_cases h:l.length=n+1
   .rw[OZ l XX,aG XX]
   rw[sm,ih XX,jn XX,Xz,Wf]
theorem jm{l:List Nat}(u:k<l.length):lim (l.set k x) i=if i=k then x else lim l i:=by grind
theorem NP{l:List Nat}(u:k<l.length)(z:n<=k):sm (lim (l.set k x)) n=sm (lim l) n:=vz λi hi=>by rw[jm u,pF XX]
theorem EZ{l:List Nat}(u:k<l.length):val (l.set k x)+1000000000^k*l[k]=val l+1000000000^k*x:=by grind[cU,Us,U3,V3,val,Wd,OF,U5,Xc]
theorem cR{l:List Nat}(h:Lok l)(i:Nat):lim l i<1000000000:=h.at i
theorem L7{f:Nat->Nat}{out:List Nat}(u:i<out.length)(h:sm (lim out) i+1000000000^i*c=sm f i+sm g i):
  sm (lim (out.set i ((f i+g i+c)%1000000000))) (i+1)+1000000000^(i+1)*((f i+g i+c)/1000000000)=sm f (i+1)+sm g (i+1):=by
 rw[sm,NP u (tJ _),jm u,AT O,sm,sm,Vc];generalize 1000000000^i=p at*;generalize ht:f i+g i+c=t;have e:p*(t%1000000000)+p*1000000000*(t/1000000000)=p*t:=by
  rw[Vm,<-Wd,Nat.mod_add_div]
 have z:p*t=p*f i+p*g i+p*c:=by rw[<-ht,Wd,Wd]
 omega
theorem KG{f:Nat->Nat}{out:List Nat}{b':Nat}(u:i<out.length)(h:sm (lim out) i+sm g i=sm f i+1000000000^i*b)(z:x+g i+b=f i+1000000000*b'):
  sm (lim (out.set i x)) (i+1)+sm g (i+1)=sm f (i+1)+1000000000^(i+1)*b':=by
 rw[sm,NP u (tJ _),jm u,AT O,sm,sm,Vc];generalize 1000000000^i=p at*;have e:p*x+p*g i+p*b=p*f i+p*1000000000*b':=by grind
 omega
theorem vw(n:Nat):0<1000000000^n:=Nat.pow_pos XZ
theorem P3{V p B:Nat}(h:V+p*B*c=a+b)(D:a<p)(E:b<p)(hB:2<=B):V=a+b:=by
 rcases Ve c with h0|h0
 .grind
 exfalso;have u:p*2<=p*B:=US _ hB;have A:p*B*1<=p*B*c:=US _ h0;generalize p*B*c=z at*;generalize p*B=y at*;omega
theorem Qt{V p:Nat}(h:V+b=a+p*c)(B:V<p)(u:b<=a):V=a-b:=by
 rcases Ve c with h0|h0
 .grind
 exfalso;have A:p*1<=p*c:=US _ h0;generalize p*c=z at*;omega
theorem Pk{out:List Nat}(u:out.length=n+1)(z:a<1000000000^n)(A:b<1000000000^n)(h:sm (lim out) (n+1)+1000000000^(n+1)*c=a+b):val out=a+b:=by
 rw[eD out (Vl u),Vc]at h;exact P3 h z A XZ
theorem Ru{out:List Nat}(z:out.length=n)(A:Lok out)(u:b<=a)(h:sm (lim out) n+b=a+1000000000^n*c):val out=a-b:=by
 rw[eD out (Vl z)]at h;have:=sy A;rw[z]at this;exact Qt h this u
theorem A5{out:List Nat}{V y:Nat}{S:Nat}(u:i+k<out.length)(h:val out+1000000000^(i+k)*c=V+1000000000^i*(x*S)):
  val (out.set (i+k) ((lim out (i+k)+x*y+c)%1000000000))+1000000000^(i+k+1)*((lim out (i+k)+x*y+c)/1000000000)=V+1000000000^i*(x*(S+1000000000^k*y)):=by
 have e:=EZ (x:=(lim out (i+k)+x*y+c)%1000000000) u;rw[<-dZ u]at e;have z:1000000000^i*(x*(S+1000000000^k*y))=1000000000^i*(x*S)+1000000000^(i+k)*(x*y):=by grind
 rw[z,Vc 1000000000 (i+k)];generalize 1000000000^(i+k)=p at*;generalize lim out (i+k)=o at*;generalize ht:o+x*y+c=t at*;have A:p*(t%1000000000)+p*1000000000*(t/1000000000)=p*t:=by
  rw[Vm,<-Wd,Nat.mod_add_div]
 have B:p*t=p*o+p*(x*y)+p*c:=by rw[<-ht,Wd,Wd]
 omega
theorem Er{a q:List Nat}{r:Nat}(z:i<a.length)(D:q.length=a.length)(E:0<d)(h:val (a.drop (i+1))=d*val (q.drop (i+1))+r):
  val (a.drop i)=d*val ((q.set i ((r*1000000000+lim a i)/d)).drop i)+(r*1000000000+lim a i)%d:=by
 have A:a.drop i=lim a i::a.drop (i+1):=by rw[Us z,dZ z]
 have B:(q.set i ((r*1000000000+lim a i)/d)).drop i=((r*1000000000+lim a i)/d)::q.drop (i+1):=by grind[Us,Ut,List.drop_set]
 rw[A,B,val,val,h];generalize lim a i=x;generalize val (q.drop (i+1))=w;have e:=Xl (r*1000000000+x) d;generalize (r*1000000000+x)/d=u at*;generalize (r*1000000000+x)%d=v at*;rw[Wd,Wd,U8 d (1000000000*w),Vm,U8 w d];omega
theorem Jq{r:Nat}(u:0<d)(z:r<d)(A:x<1000000000):(r*1000000000+x)/d<1000000000/\(r*1000000000+x)%d<d:=by
 refine⟨?_,Vi _ u⟩;rw[WJ u];have:(r+1)*1000000000<=d*1000000000:=Vk _ z;rw[U8 1000000000 d];omega
end Go.Proofs.YtameambcolibjaaGreatDoor
