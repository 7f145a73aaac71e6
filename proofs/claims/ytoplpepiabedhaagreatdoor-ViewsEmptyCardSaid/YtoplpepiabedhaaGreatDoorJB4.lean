/- Lemmas. No condition. -/
import Init
import Derived.Test.YtoplpepiabedhaaGreatDoorJB3
set_option maxRecDepth 100000
set_option maxHeartbeats 4000000
open Go.RowKit Go.Proofs.Tryz
namespace Go.Proofs.YtoplpepiabedhaaGreatDoor
section
abbrev pIi(i:Int):V:=.pv (.int .i64 i)
abbrev TG:TI:=⟨.other,1,8,some [.nilfn]⟩
def tb:TT:=
 .node 171 ⟨(.sl 147),1,24,some [(.sl (some true) 0 [])]⟩ (.node 50 ⟨(.int .i64),1,8,some [(.int .i64 0)]⟩ (.node 27 ⟨(.sl 74),1,24,some [(.sl (some true) 0 [])]⟩ (.node 8 ⟨(.st [(0,1),(1,1),(2,1),(3,1)]),4,24,some [(.int .i64 0),(.int .i64 0),(.bool false),(.int .u8 0)]⟩ (.node 4 ⟨.bool,1,1,some [(.bool false)]⟩ (.node 2 ⟨(.int .i64),1,8,some [(.int .i64 0)]⟩ (.node 1 TG .nil .nil) (.node 3 ⟨(.int .i64),1,8,some [(.int .i64 0)]⟩ .nil .nil)) (.node 6 ⟨(.int .u8),1,1,some [(.int .u8 0)]⟩ (.node 5 ⟨(.int .u8),1,1,some [(.int .u8 0)]⟩ .nil .nil) (.node 7 ⟨(.st [(0,1),(1,1),(2,1),(3,1)]),4,24,some [(.int .i64 0),(.int .i64 0),(.bool false),(.int .u8 0)]⟩ .nil .nil))) (.node 22 ⟨(.sl 3),1,24,some [(.sl (some true) 0 [])]⟩ (.node 20 ⟨.other,1,16,some [.niliface]⟩ (.node 9 ⟨.str,1,16,some [(.str ⟨#[]⟩)]⟩ .nil .nil) (.node 21 ⟨(.int .i32),1,4,some [(.int .i32 0)]⟩ .nil .nil)) (.node 26 ⟨(.sl 162),1,24,some [(.sl (some true) 0 [])]⟩ (.node 24 ⟨.other,1,8,some [.nilptr]⟩ .nil .nil) .nil))) (.node 41 ⟨(.st [(0,1),(1,1)]),2,32,some [(.sl (some true) 0 []),(.int .i64 0)]⟩ (.node 33 ⟨(.sl 38),1,24,some [(.sl (some true) 0 [])]⟩ (.node 30 ⟨(.st [(0,1),(1,1),(2,1),(3,1)]),4,80,some [(.sl (some true) 0 []),(.sl (some true) 0 []),(.sl (some true) 0 []),(.int .i64 0)]⟩ (.node 28 ⟨(.sl 164),1,24,some [(.sl (some true) 0 [])]⟩ .nil .nil) (.node 32 ⟨(.st [(0,1)]),1,24,some [(.sl (some true) 0 [])]⟩ .nil .nil)) (.node 38 ⟨(.sl 41),1,24,some [(.sl (some true) 0 [])]⟩ (.node 34 ⟨(.sl 38),1,24,some [(.sl (some true) 0 [])]⟩ .nil .nil) (.node 39 ⟨(.sl 9),1,24,some [(.sl (some true) 0 [])]⟩ .nil .nil))) (.node 45 ⟨(.sl 151),1,24,some [(.sl (some true) 0 [])]⟩ (.node 43 ⟨.str,1,16,some [(.str ⟨#[]⟩)]⟩ (.node 42 ⟨(.sl 57),1,24,some [(.sl (some true) 0 [])]⟩ .nil .nil) (.node 44 ⟨(.sl 149),1,24,some [(.sl (some true) 0 [])]⟩ .nil .nil)) (.node 49 ⟨(.st [(0,1),(1,3)]),4,88,some [(.sl (some true) 0 []),(.str ⟨#[]⟩),(.sl (some true) 0 []),(.sl (some true) 0 [])]⟩ (.node 47 ⟨(.st [(0,1),(1,1),(2,1)]),3,64,some [(.str ⟨#[]⟩),(.sl (some true) 0 []),(.sl (some true) 0 [])]⟩ .nil .nil) .nil)))) (.node 110 ⟨(.st [(0,1),(1,1)]),2,16,some [.nilmap,.nilmap]⟩ (.node 97 ⟨(.st [(0,1),(1,1),(2,1),(3,1)]),4,96,some [(.sl (some true) 0 []),(.sl (some true) 0 []),(.sl (some true) 0 []),(.sl (some true) 0 [])]⟩ (.node 84 ⟨.str,1,16,some [(.str ⟨#[]⟩)]⟩ (.node 59 ⟨(.st [(0,1),(1,3)]),4,88,some [(.sl (some true) 0 []),(.str ⟨#[]⟩),(.sl (some true) 0 []),(.sl (some true) 0 [])]⟩ (.node 57 ⟨(.sl 59),1,24,some [(.sl (some true) 0 [])]⟩ .nil .nil) (.node 74 ⟨(.st [(0,1),(1,1)]),2,40,some [(.str ⟨#[]⟩),(.sl (some true) 0 [])]⟩ .nil .nil)) (.node 94 ⟨.other,1,8,some [.nilptr]⟩ (.node 91 ⟨(.st [(0,1),(1,1)]),2,32,some [(.sl (some true) 0 []),(.int .i64 0)]⟩ .nil .nil) (.node 95 ⟨(.sl 22),1,24,some [(.sl (some true) 0 [])]⟩ .nil .nil))) (.node 104 TG (.node 101 ⟨(.st [(0,4),(4,4),(8,1),(9,1),(10,1)]),11,232,some [(.sl (some true) 0 []),(.sl (some true) 0 []),(.sl (some true) 0 []),(.int .i64 0),(.sl (some true) 0 []),(.sl (some true) 0 []),(.sl (some true) 0 []),(.sl (some true) 0 []),(.sl (some true) 0 []),(.sl (some true) 0 []),(.int .i64 0)]⟩ (.node 99 ⟨(.sl 110),1,24,some [(.sl (some true) 0 [])]⟩ .nil .nil) (.node 103 TG .nil .nil)) (.node 108 ⟨.other,1,8,some [.nilmap]⟩ (.node 107 ⟨.other,1,8,some [.nilmap]⟩ .nil .nil) .nil))) (.node 124 TG (.node 117 ⟨.other,1,8,some [.nilmap]⟩ (.node 114 ⟨(.st [(0,1),(1,1)]),2,32,some [(.bool false),(.sl (some true) 0 [])]⟩ (.node 112 ⟨(.sl 300),1,24,some [(.sl (some true) 0 [])]⟩ .nil .nil) (.node 116 ⟨(.st [(0,2),(2,2)]),4,64,some [(.bool false),(.sl (some true) 0 []),(.bool false),(.sl (some true) 0 [])]⟩ .nil .nil)) (.node 120 ⟨(.st [(0,4),(4,1),(5,1)]),6,80,some [(.bool false),(.sl (some true) 0 []),(.bool false),(.sl (some true) 0 []),.nilmap,.nilmap]⟩ (.node 118 ⟨.other,1,8,some [.nilmap]⟩ .nil .nil) .nil)) (.node 162 ⟨(.st [(0,1),(1,1)]),2,24,some [(.str ⟨#[]⟩),(.int .i64 0)]⟩ (.node 149 ⟨(.st [(0,2),(2,1)]),3,40,some [(.int .i64 0),(.str ⟨#[]⟩),(.str ⟨#[]⟩)]⟩ (.node 147 ⟨(.st [(0,1),(1,1)]),2,24,some [(.int .i64 0),(.str ⟨#[]⟩)]⟩ .nil .nil) (.node 151 ⟨(.st [(0,2),(2,2),(4,1)]),5,64,some [(.int .i64 0),(.str ⟨#[]⟩),(.int .i64 0),(.str ⟨#[]⟩),(.str ⟨#[]⟩)]⟩ .nil .nil)) (.node 167 TG (.node 164 ⟨(.st [(0,1),(1,1),(2,1)]),3,24,some [(.int .i64 0),(.int .i64 0),(.int .i64 0)]⟩ .nil .nil) .nil))))) (.node 311 ⟨(.st [(0,1),(1,1)]),2,32,some [.nilptr,(.sl (some true) 0 [])]⟩ (.node 232 TG (.node 215 ⟨(.sl 4),1,24,some [(.sl (some true) 0 [])]⟩ (.node 206 ⟨(.int .u64),1,8,some [(.int .u64 0)]⟩ (.node 204 TG (.node 202 ⟨(.sl 206),1,24,some [(.sl (some true) 0 [])]⟩ .nil .nil) (.node 205 ⟨(.int .u64),1,8,some [(.int .u64 0)]⟩ .nil .nil)) (.node 212 ⟨(.sl 222),1,24,some [(.sl (some true) 0 [])]⟩ (.node 211 TG .nil .nil) (.node 214 TG .nil .nil))) (.node 224 ⟨(.st [(0,1),(1,6)]),7,104,some [(.sl (some true) 0 []),(.bool false),(.sl (some true) 0 []),(.bool false),(.sl (some true) 0 []),.nilmap,.nilmap]⟩ (.node 220 ⟨(.sl 224),1,24,some [(.sl (some true) 0 [])]⟩ (.node 217 ⟨(.st [(0,1),(1,1)]),2,48,some [(.sl (some true) 0 []),(.sl (some true) 0 [])]⟩ .nil .nil) (.node 222 ⟨(.st [(0,1),(1,1)]),2,48,some [(.sl (some true) 0 []),(.sl (some true) 0 [])]⟩ .nil .nil)) (.node 231 TG (.node 229 TG .nil .nil) .nil))) (.node 253 TG (.node 239 TG (.node 235 ⟨(.sl 238),1,24,some [(.sl (some true) 0 [])]⟩ (.node 234 TG .nil .nil) (.node 238 ⟨(.st [(0,2),(2,2)]),4,48,some [(.int .i64 0),(.str ⟨#[]⟩),(.int .i64 0),(.str ⟨#[]⟩)]⟩ .nil .nil)) (.node 242 TG (.node 240 TG .nil .nil) .nil)) (.node 280 TG (.node 273 TG (.node 255 TG .nil .nil) (.node 277 ⟨(.sl 5),1,24,some [(.sl (some true) 0 [])]⟩ .nil .nil)) (.node 309 ⟨.other,1,8,some [.nilptr]⟩ (.node 300 ⟨(.int .u64),1,8,some [(.int .u64 0)]⟩ .nil .nil) .nil)))) (.node 401 ⟨(.int .u64),1,8,some [(.int .u64 0)]⟩ (.node 364 ⟨(.sl 167),1,24,some [(.sl (some true) 0 [])]⟩ (.node 335 TG (.node 320 ⟨(.sl 50),1,24,some [(.sl (some true) 0 [])]⟩ (.node 313 ⟨.other,1,16,some [.niliface]⟩ .nil .nil) (.node 324 TG .nil .nil)) (.node 344 ⟨(.int .u32),1,4,some [(.int .u32 0)]⟩ (.node 337 ⟨(.int .i64),1,8,some [(.int .i64 0)]⟩ .nil .nil) (.node 347 ⟨.other,1,8,some [.nilptr]⟩ .nil .nil))) (.node 390 ⟨.other,1,8,some [.nilptr]⟩ (.node 370 TG (.node 368 TG .nil .nil) (.node 372 TG .nil .nil)) (.node 395 TG (.node 394 TG .nil .nil) .nil))) (.node 483 ⟨(.int .i64),1,8,some [(.int .i64 0)]⟩ (.node 454 ⟨.other,1,8,some [.nilptr]⟩ (.node 431 ⟨.other,1,8,some [.nilptr]⟩ (.node 405 ⟨.other,1,8,some [.nilptr]⟩ .nil .nil) (.node 434 ⟨(.arr 24 5),24,24,some [(.int .u8 0),(.int .u8 0),(.int .u8 0),(.int .u8 0),(.int .u8 0),(.int .u8 0),(.int .u8 0),(.int .u8 0),(.int .u8 0),(.int .u8 0),(.int .u8 0),(.int .u8 0),(.int .u8 0),(.int .u8 0),(.int .u8 0),(.int .u8 0),(.int .u8 0),(.int .u8 0),(.int .u8 0),(.int .u8 0),(.int .u8 0),(.int .u8 0),(.int .u8 0),(.int .u8 0)]⟩ .nil .nil)) (.node 471 ⟨(.arr 65 5),65,65,none⟩ (.node 470 ⟨(.arr 20 300),20,160,some [(.int .u64 0),(.int .u64 0),(.int .u64 0),(.int .u64 0),(.int .u64 0),(.int .u64 0),(.int .u64 0),(.int .u64 0),(.int .u64 0),(.int .u64 0),(.int .u64 0),(.int .u64 0),(.int .u64 0),(.int .u64 0),(.int .u64 0),(.int .u64 0),(.int .u64 0),(.int .u64 0),(.int .u64 0),(.int .u64 0)]⟩ .nil .nil) .nil)) (.node 508 ⟨(.arr 64 5),64,64,none⟩ (.node 502 ⟨(.st [(0,1),(1,1),(2,1)]),3,48,some [(.str ⟨#[]⟩),(.str ⟨#[]⟩),.niliface]⟩ (.node 485 ⟨.other,1,8,some [.nilptr]⟩ .nil .nil) (.node 507 ⟨(.arr 32 5),32,32,some [(.int .u8 0),(.int .u8 0),(.int .u8 0),(.int .u8 0),(.int .u8 0),(.int .u8 0),(.int .u8 0),(.int .u8 0),(.int .u8 0),(.int .u8 0),(.int .u8 0),(.int .u8 0),(.int .u8 0),(.int .u8 0),(.int .u8 0),(.int .u8 0),(.int .u8 0),(.int .u8 0),(.int .u8 0),(.int .u8 0),(.int .u8 0),(.int .u8 0),(.int .u8 0),(.int .u8 0),(.int .u8 0),(.int .u8 0),(.int .u8 0),(.int .u8 0),(.int .u8 0),(.int .u8 0),(.int .u8 0),(.int .u8 0)]⟩ .nil .nil)) (.node 513 ⟨(.st [(0,1)]),1,16,some [(.str ⟨#[]⟩)]⟩ (.node 511 ⟨.other,1,8,some [.nilptr]⟩ .nil .nil) .nil)))))
theorem Az:tb.Ok prog:=TT.ok_of Tt
section
variable {m0:Gm}{w0:World}{F:Nat->Prop}{R0:RT w0 F}{n:Nat}{σ:St}{ops:Array Oper}{o:Oper}{os:List Oper}{K:St->Prop}{d:Option Tmp}{s:OS}{rd:List Nat}{φ:Prop}{cs:List PV}{off sz:Nat}{p:PV}{vs:List PV}{cl:List (List Nat)}{i:Nat}{is:List Nat}{acc:List It}
theorem A1(h:dK tb ops n σ o=some (d,⟨s,rd,φ⟩))(k:RL ⟨prog,m0,w0,F,R0⟩ n ops os K (σ.app d s))(hφ:φ:=by first|exact trivial|omega|exact⟨Ts,by first|assumption|(simp;done)⟩|exact⟨by first|assumption|(simp;done),Ts⟩|(simp;done)|exact⟨by first|omega|decide,by first|omega|assumption⟩|(simp;omega)):RL ⟨prog,m0,w0,F,R0⟩ n ops (o::os) K σ:=RL.auto Az h k hφ
theorem A2(h:IA tb ops n σ o=some (d,cs,off,rd))(hv:cs[off]? =some p)(k:RL ⟨prog,m0,w0,F,R0⟩ n ops os K (σ.app d ⟨.pv p,[],[]⟩)):RL ⟨prog,m0,w0,F,R0⟩ n ops (o::os) K σ:=
 have ⟨h1,h2,h3⟩:=pY Az h hv
 RL.with h1 h2 (h3 σ (fun _ _=>rfl) (fun _ _=>rfl)) k
theorem A3(h:HI tb ops n σ o=some (d,cs,off,sz,rd))(hv:(cs.drop off).take sz=vs)(k:RL ⟨prog,m0,w0,F,R0⟩ n ops os K (σ.app d ⟨.pv (.agg vs),[],[]⟩))(hl:vs.length=sz:=by rfl):RL ⟨prog,m0,w0,F,R0⟩ n ops (o::os) K σ:=
 have ⟨h1,h2,h3⟩:=qa Az h hv hl
 RL.with h1 h2 (h3 σ (fun _ _=>rfl) (fun _ _=>rfl)) k
theorem D1 (ho:ops[i]? =some o) (h:dK tb ops n σ o=some (d,⟨s,rd,φ⟩)) (k:DL ⟨prog,m0,w0,F,R0⟩ n ops cl is (⟨i,o,s,s.wr.map (·.1),s.nw,rd⟩::acc) K (σ.app d s)) (hc:gp ops n cl ⟨i,o,s,s.wr.map (·.1),s.nw,rd⟩ acc=true:=by kernel_rfl)
  (hφ:φ:=by first|exact trivial|omega|exact⟨Ts,by first|assumption|(simp;done)⟩|exact⟨by first|assumption|(simp;done),Ts⟩|(simp;done)|exact⟨by first|omega|decide,by first|omega|assumption⟩|(simp;omega)):DL ⟨prog,m0,w0,F,R0⟩ n ops cl (i::is) acc K σ:=DL.auto Az ho h k hφ hc
theorem D2(ho:ops[i]? =some o)(h:IA tb ops n σ o=some (d,cs,off,rd))(hv:cs[off]? =some p)(k:DL ⟨prog,m0,w0,F,R0⟩ n ops cl is (⟨i,o,⟨.pv p,[],[]⟩,[],[],rd⟩::acc) K (σ.app d ⟨.pv p,[],[]⟩))(hc:gp ops n cl ⟨i,o,⟨.pv p,[],[]⟩,[],[],rd⟩ acc=true:=by kernel_rfl):
  DL ⟨prog,m0,w0,F,R0⟩ n ops cl (i::is) acc K σ:=
 have ⟨h1,h2,h3⟩:=pY Az h hv
 DL.with rd ho h1 h2 (fun τ ha=>h3 τ (Nt ha) (NX ha)) k hc
theorem D3(ho:ops[i]? =some o)(h:HI tb ops n σ o=some (d,cs,off,sz,rd))(hv:(cs.drop off).take sz=vs)(k:DL ⟨prog,m0,w0,F,R0⟩ n ops cl is (⟨i,o,⟨.pv (.agg vs),[],[]⟩,[],[],rd⟩::acc) K (σ.app d ⟨.pv (.agg vs),[],[]⟩))(hl:vs.length=sz:=by rfl)
  (hc:gp ops n cl ⟨i,o,⟨.pv (.agg vs),[],[]⟩,[],[],rd⟩ acc=true:=by kernel_rfl):DL ⟨prog,m0,w0,F,R0⟩ n ops cl (i::is) acc K σ:=
 have ⟨h1,h2,h3⟩:=qa Az h hv hl
 DL.with rd ho h1 h2 (fun τ ha=>h3 τ (Nt ha) (NX ha)) k hc
end
end
section
def gW(C:Ctx)(n:Nat):Code->(Exit->St->Prop)->Code×(Exit->St->Prop)
 | .seq x y,Q=>gW C n x (Bn (AW C n y Q) Q)
 | .block id x,Q=>gW C n x (uo id Q)
 |c,Q=>(c,Q)
theorem dt{C:Ctx}{n:Nat}{σ:St}:∀(c:Code)(Q:Exit->St->Prop),AW C n (gW C n c Q).1 (gW C n c Q).2 σ->AW C n c Q σ
 | .seq x y,Q,h=>O4 (dt x _ h)
 | .block _ x,Q,h=>AW.block (dt x _ h)
 | .skip,_,h=>h
 | .region ..,_,h=>h
 | .cond ..,_,h=>h
 | .loop ..,_,h=>h
 | .rangeFunc ..,_,h=>h
 | .exit ..,_,h=>h
 | .scope ..,_,h=>h
 | .label ..,_,h=>h
 | .goto ..,_,h=>h
 | .ret,_,h=>h
 | .refuse ..,_,h=>h
section
variable {C:Ctx}{n:Nat}{c:Code}{Q Q':Exit->St->Prop}{σ:St}{id:Nat}{ops:Array Oper}
theorem Gr(h:gW C n c Q=(.region id ops false,Q'))(k:RL C n ops ops.toList (Q' .normal) σ):AW C n c Q σ:=
 dt c Q (h▸AW.region k)
theorem Gt(h:gW C n c Q=(.ret,Q'))(k:Q' .ret σ):AW C n c Q σ:=dt c Q (h▸AW.ret k)
theorem Gk(h:gW C n c Q=(.skip,Q'))(k:Q' .normal σ):AW C n c Q σ:=dt c Q (h▸OR k)
theorem Gx(h:gW C n c Q=(.exit id,Q'))(k:Q' (.exit id) σ):AW C n c Q σ:=dt c Q (h▸AW.exit k)
theorem Gp{o:Operand}{x y:Code}{p:Prop}[Decidable p](h:gW C n c Q=(.cond o x y,Q'))(hc:σ.ev n o= .pv (.bool (decide p)))(ht:p->AW C n x Q' σ)(hf:¬p->AW C n y Q' σ):AW C n c Q σ:=dt c Q (h▸AW.jm hc ht hf)
theorem Gc{o:Operand}{x y:Code}{b:Bool}(h:gW C n c Q=(.cond o x y,Q'))(hc:σ.ev n o= .pv (.bool b))(ht:b=true->AW C n x Q' σ)(hf:b=false->AW C n y Q' σ):AW C n c Q σ:=dt c Q (h▸AW.cond hc ht hf)
theorem Gl {b:Code} {X:Type} (h:gW C n c Q=(.loop b,Q')) (st:X->St) (I:X->Prop) (μ:X->Nat) (x0:X) (h0:σ.le (st x0)) (hi:I x0)
  (round:∀x,I x->AW C n b (Bn (fun s=>∃x',s.le (st x')/\I x'/\μ x'<μ x) Q') (st x)):AW C n c Q σ:=dt c Q (h▸AW.loop st I μ x0 h0 hi round)
theorem Gd(h:gW C n c Q=(.region id ops true,Q'))(hm:C.P.follows .mixedOrders=true)(cl:List (List Nat))(is:List Nat)(hcl:FN ops.toList []=cl)(hedge:ij 0 ops.toList=true)(k:DL C n ops cl is [] (Q' .normal) σ):AW C n c Q σ:=
 dt c Q (h▸AW.draw hm cl is hcl hedge k)
end
section
variable {m0:Gm}{w0:World}{F:Nat->Prop}{R0:RT w0 F}{n id:Nat}{σ:St}{c:Code}{Q Q':Exit->St->Prop}{ops:Array Oper}{o o1 o2 o3 o4:Oper}{os:List Oper}{K:St->Prop}{d d1 d2 d3 d4:Option Tmp}{s s1 s2 s3 s4:OS}{rd rd1 rd2 rd3 rd4:List Nat}{φ φ1 φ2 φ3 φ4:Prop}
theorem Y2(h1:dK tb ops n σ o1=some (d1,⟨s1,rd1,φ1⟩))(h2:dK tb ops n (σ.app d1 s1) o2=some (d2,⟨s2,rd2,φ2⟩))(k:RL ⟨prog,m0,w0,F,R0⟩ n ops os K ((σ.app d1 s1).app d2 s2))(g1:φ1:=by first|exact trivial|omega|exact⟨Ts,by first|assumption|(simp;done)⟩|exact⟨by first|assumption|(simp;done),Ts⟩|(simp;done)|exact⟨by first|omega|decide,by first|omega|assumption⟩|(simp;omega))(g2:φ2:=by first|exact trivial|omega|exact⟨Ts,by first|assumption|(simp;done)⟩|exact⟨by first|assumption|(simp;done),Ts⟩|(simp;done)|exact⟨by first|omega|decide,by first|omega|assumption⟩|(simp;omega)):RL ⟨prog,m0,w0,F,R0⟩ n ops (o1::o2::os) K σ:=(A1 h1 (A1 h2 k g2) g1)
theorem Y3(h1:dK tb ops n σ o1=some (d1,⟨s1,rd1,φ1⟩))(h2:dK tb ops n (σ.app d1 s1) o2=some (d2,⟨s2,rd2,φ2⟩))(h3:dK tb ops n ((σ.app d1 s1).app d2 s2) o3=some (d3,⟨s3,rd3,φ3⟩))(k:RL ⟨prog,m0,w0,F,R0⟩ n ops os K (((σ.app d1 s1).app d2 s2).app d3 s3))(g1:φ1:=by first|exact trivial|omega|exact⟨Ts,by first|assumption|(simp;done)⟩|exact⟨by first|assumption|(simp;done),Ts⟩|(simp;done)|exact⟨by first|omega|decide,by first|omega|assumption⟩|(simp;omega))(g2:φ2:=by first|exact trivial|omega|exact⟨Ts,by first|assumption|(simp;done)⟩|exact⟨by first|assumption|(simp;done),Ts⟩|(simp;done)|exact⟨by first|omega|decide,by first|omega|assumption⟩|(simp;omega))(g3:φ3:=by first|exact trivial|omega|exact⟨Ts,by first|assumption|(simp;done)⟩|exact⟨by first|assumption|(simp;done),Ts⟩|(simp;done)|exact⟨by first|omega|decide,by first|omega|assumption⟩|(simp;omega)):RL ⟨prog,m0,w0,F,R0⟩ n ops (o1::o2::o3::os) K σ:=(A1 h1 (A1 h2 (A1 h3 k g3) g2) g1)
theorem Y4(h1:dK tb ops n σ o1=some (d1,⟨s1,rd1,φ1⟩))(h2:dK tb ops n (σ.app d1 s1) o2=some (d2,⟨s2,rd2,φ2⟩))(h3:dK tb ops n ((σ.app d1 s1).app d2 s2) o3=some (d3,⟨s3,rd3,φ3⟩))(h4:dK tb ops n (((σ.app d1 s1).app d2 s2).app d3 s3) o4=some (d4,⟨s4,rd4,φ4⟩))(k:RL ⟨prog,m0,w0,F,R0⟩ n ops os K ((((σ.app d1 s1).app d2 s2).app d3 s3).app d4 s4))(g1:φ1:=by first|exact trivial|omega|exact⟨Ts,by first|assumption|(simp;done)⟩|exact⟨by first|assumption|(simp;done),Ts⟩|(simp;done)|exact⟨by first|omega|decide,by first|omega|assumption⟩|(simp;omega))(g2:φ2:=by first|exact trivial|omega|exact⟨Ts,by first|assumption|(simp;done)⟩|exact⟨by first|assumption|(simp;done),Ts⟩|(simp;done)|exact⟨by first|omega|decide,by first|omega|assumption⟩|(simp;omega))(g3:φ3:=by first|exact trivial|omega|exact⟨Ts,by first|assumption|(simp;done)⟩|exact⟨by first|assumption|(simp;done),Ts⟩|(simp;done)|exact⟨by first|omega|decide,by first|omega|assumption⟩|(simp;omega))(g4:φ4:=by first|exact trivial|omega|exact⟨Ts,by first|assumption|(simp;done)⟩|exact⟨by first|assumption|(simp;done),Ts⟩|(simp;done)|exact⟨by first|omega|decide,by first|omega|assumption⟩|(simp;omega)):RL ⟨prog,m0,w0,F,R0⟩ n ops (o1::o2::o3::o4::os) K σ:=(A1 h1 (A1 h2 (A1 h3 (A1 h4 k g4) g3) g2) g1)
theorem Z1(h:gW ⟨prog,m0,w0,F,R0⟩ n c Q=(.region id ⟨o1::os⟩ false,Q'))(h1:dK tb ⟨o1::os⟩ n σ o1=some (d1,⟨s1,rd1,φ1⟩))(k:RL ⟨prog,m0,w0,F,R0⟩ n ⟨o1::os⟩ os (Q' .normal) (σ.app d1 s1))(g1:φ1:=by first|exact trivial|omega|exact⟨Ts,by first|assumption|(simp;done)⟩|exact⟨by first|assumption|(simp;done),Ts⟩|(simp;done)|exact⟨by first|omega|decide,by first|omega|assumption⟩|(simp;omega)):AW ⟨prog,m0,w0,F,R0⟩ n c Q σ:=Gr h (A1 h1 k g1)
theorem Z2(h:gW ⟨prog,m0,w0,F,R0⟩ n c Q=(.region id ⟨o1::o2::os⟩ false,Q'))(h1:dK tb ⟨o1::o2::os⟩ n σ o1=some (d1,⟨s1,rd1,φ1⟩))(h2:dK tb ⟨o1::o2::os⟩ n (σ.app d1 s1) o2=some (d2,⟨s2,rd2,φ2⟩))(k:RL ⟨prog,m0,w0,F,R0⟩ n ⟨o1::o2::os⟩ os (Q' .normal) ((σ.app d1 s1).app d2 s2))(g1:φ1:=by first|exact trivial|omega|exact⟨Ts,by first|assumption|(simp;done)⟩|exact⟨by first|assumption|(simp;done),Ts⟩|(simp;done)|exact⟨by first|omega|decide,by first|omega|assumption⟩|(simp;omega))(g2:φ2:=by first|exact trivial|omega|exact⟨Ts,by first|assumption|(simp;done)⟩|exact⟨by first|assumption|(simp;done),Ts⟩|(simp;done)|exact⟨by first|omega|decide,by first|omega|assumption⟩|(simp;omega)):AW ⟨prog,m0,w0,F,R0⟩ n c Q σ:=Gr h (A1 h1 (A1 h2 k g2) g1)
theorem Z3(h:gW ⟨prog,m0,w0,F,R0⟩ n c Q=(.region id ⟨o1::o2::o3::os⟩ false,Q'))(h1:dK tb ⟨o1::o2::o3::os⟩ n σ o1=some (d1,⟨s1,rd1,φ1⟩))(h2:dK tb ⟨o1::o2::o3::os⟩ n (σ.app d1 s1) o2=some (d2,⟨s2,rd2,φ2⟩))(h3:dK tb ⟨o1::o2::o3::os⟩ n ((σ.app d1 s1).app d2 s2) o3=some (d3,⟨s3,rd3,φ3⟩))(k:RL ⟨prog,m0,w0,F,R0⟩ n ⟨o1::o2::o3::os⟩ os (Q' .normal) (((σ.app d1 s1).app d2 s2).app d3 s3))(g1:φ1:=by first|exact trivial|omega|exact⟨Ts,by first|assumption|(simp;done)⟩|exact⟨by first|assumption|(simp;done),Ts⟩|(simp;done)|exact⟨by first|omega|decide,by first|omega|assumption⟩|(simp;omega))(g2:φ2:=by first|exact trivial|omega|exact⟨Ts,by first|assumption|(simp;done)⟩|exact⟨by first|assumption|(simp;done),Ts⟩|(simp;done)|exact⟨by first|omega|decide,by first|omega|assumption⟩|(simp;omega))(g3:φ3:=by first|exact trivial|omega|exact⟨Ts,by first|assumption|(simp;done)⟩|exact⟨by first|assumption|(simp;done),Ts⟩|(simp;done)|exact⟨by first|omega|decide,by first|omega|assumption⟩|(simp;omega)):AW ⟨prog,m0,w0,F,R0⟩ n c Q σ:=Gr h (A1 h1 (A1 h2 (A1 h3 k g3) g2) g1)
theorem Z4(h:gW ⟨prog,m0,w0,F,R0⟩ n c Q=(.region id ⟨o1::o2::o3::o4::os⟩ false,Q'))(h1:dK tb ⟨o1::o2::o3::o4::os⟩ n σ o1=some (d1,⟨s1,rd1,φ1⟩))(h2:dK tb ⟨o1::o2::o3::o4::os⟩ n (σ.app d1 s1) o2=some (d2,⟨s2,rd2,φ2⟩))(h3:dK tb ⟨o1::o2::o3::o4::os⟩ n ((σ.app d1 s1).app d2 s2) o3=some (d3,⟨s3,rd3,φ3⟩))(h4:dK tb ⟨o1::o2::o3::o4::os⟩ n (((σ.app d1 s1).app d2 s2).app d3 s3) o4=some (d4,⟨s4,rd4,φ4⟩))(k:RL ⟨prog,m0,w0,F,R0⟩ n ⟨o1::o2::o3::o4::os⟩ os (Q' .normal) ((((σ.app d1 s1).app d2 s2).app d3 s3).app d4 s4))(g1:φ1:=by first|exact trivial|omega|exact⟨Ts,by first|assumption|(simp;done)⟩|exact⟨by first|assumption|(simp;done),Ts⟩|(simp;done)|exact⟨by first|omega|decide,by first|omega|assumption⟩|(simp;omega))(g2:φ2:=by first|exact trivial|omega|exact⟨Ts,by first|assumption|(simp;done)⟩|exact⟨by first|assumption|(simp;done),Ts⟩|(simp;done)|exact⟨by first|omega|decide,by first|omega|assumption⟩|(simp;omega))(g3:φ3:=by first|exact trivial|omega|exact⟨Ts,by first|assumption|(simp;done)⟩|exact⟨by first|assumption|(simp;done),Ts⟩|(simp;done)|exact⟨by first|omega|decide,by first|omega|assumption⟩|(simp;omega))(g4:φ4:=by first|exact trivial|omega|exact⟨Ts,by first|assumption|(simp;done)⟩|exact⟨by first|assumption|(simp;done),Ts⟩|(simp;done)|exact⟨by first|omega|decide,by first|omega|assumption⟩|(simp;omega)):AW ⟨prog,m0,w0,F,R0⟩ n c Q σ:=Gr h (A1 h1 (A1 h2 (A1 h3 (A1 h4 k g4) g3) g2) g1)
end
section
variable {C:Ctx}{n i:Nat}{σ:St}{ops:Array Oper}{o:Oper}{os:List Oper}{K:St->Prop}{s:OS}{cl:List (List Nat)}{is:List Nat}{acc:List It}
theorem Rs(t:Tmp)(hg:o.guard=none)(hd:o.dst=some t)(hx:XJ C n o σ s)(h:RL C n ops os K (σ.app (some t) s)):RL C n ops (o::os) K σ:=RL.step hg hd hx h
theorem Rg (t:Tmp) {j:Nat} {want:Bool} (hg:o.guard=some (j,want)) (hd:o.dst=some t) (hb:σ.ev n (.tmp (((ops[j]?).bind (·.dst)).getD n))= .pv (.bool want))
  (hx:XJ C n o σ s) (h:RL C n ops os K (σ.app (some t) s)):RL C n ops (o::os) K σ:=RL.stepG hg hd hb hx h
theorem Ds (t:Tmp) (rd:List Nat) (ho:ops[i]? =some o) (hg:o.guard=none) (hd:o.dst=some t) (hx:∀ τ,Agr n ops o σ τ s rd->XJ C n o τ s) (hn:s.nw.all σ.av=true) (hc:gp ops n cl ⟨i,o,s,s.wr.map (·.1),s.nw,rd⟩ acc=true)
  (h:DL C n ops cl is (⟨i,o,s,s.wr.map (·.1),s.nw,rd⟩::acc) K (σ.app (some t) s)):DL C n ops cl (i::is) acc K σ:=DL.step rd ho hg hd hx hn hc h
theorem Dg (t:Tmp) (rd:List Nat) {j:Nat} {want:Bool} (ho:ops[i]? =some o) (hg:o.guard=some (j,want)) (hd:o.dst=some t) (hb:σ.ev n (.tmp (((ops[j]?).bind (·.dst)).getD n))= .pv (.bool want))
  (hx:∀τ,Agr n ops o σ τ s rd->XJ C n o τ s) (hn:s.nw.all σ.av=true) (hc:gp ops n cl ⟨i,o,s,s.wr.map (·.1),s.nw,rd⟩ acc=true)
  (h:DL C n ops cl is (⟨i,o,s,s.wr.map (·.1),s.nw,rd⟩::acc) K (σ.app (some t) s)):DL C n ops cl (i::is) acc K σ:=DL.stepG rd ho hg hd hb hx hn hc h
theorem aS:∀{l:List (Nat×V)},l.map (fun p=>σ.sl p.1)=l.map (·.2)->D6 σ l
 |[],_=>trivial
 |_::_,h=>⟨(Ta h).1,aS (Ta h).2⟩
theorem aO:∀{l:List (Nat×Ob)},l.map (fun p=>σ.ob p.1)=l.map (fun p=>some p.2)->Co σ l
 |[],_=>trivial
 |_::_,h=>⟨(Ta h).1,aO (Ta h).2⟩
theorem aT{ρ:Nat->Nat}:∀{l:List (Nat×V)},l.map (fun p=>σ.sl p.1)=l.map (fun p=>p.2.ren ρ)->p7 σ ρ l
 |[],_=>trivial
 |_::_,h=>⟨(Ta h).1,aT (Ta h).2⟩
theorem aP{ρ:Nat->Nat}:∀{l:List (Nat×Ob)},l.map (fun p=>σ.ob (ρ p.1))=l.map (fun p=>some (p.2.ren ρ))->ff σ ρ l
 |[],_=>trivial
 |_::_,h=>⟨(Ta h).1,aP (Ta h).2⟩
end
section
variable {C:Ctx}{n i:Nat}{σ τ:St}{ops:Array Oper}{o:Oper}{s:OS}{c:Code}{Q Q':Exit->St->Prop}{id:Nat}
theorem Ee{rd:List Nat}(h:Agr n ops o σ τ s rd)(i:Nat){x:Operand}{v:V}(h1:o.op.operands.toList[i]? =some x)(h2:σ.ev n x=v):τ.ev n x=v:=(h.e i x h1).trans h2
theorem Eo{rd:List Nat}(h:Agr n ops o σ τ s rd)(i:Nat){id:Nat}{v:Option Ob}(h1:rd[i]? =some id)(h2:σ.ob id=v):τ.ob id=v:=(h.o i id h1).trans h2
theorem Wk(l:List (Nat×V))(os:List (Nat×Ob))(k:Nat)(hl:D6 σ l)(ho:Co σ os)(h1:l.all (fun p=>p.2.okA k)=true)(h2:os.all (fun p=>(Nat.blt p.1 k||Nat.ble big p.1)&&p.2.okA k)=true)(h:AW C n c Q (mkS l os k)):AW C n c Q σ:=
 OT (OU hl ho h1 h2) h
theorem Ge(h:gW C n c Q=(.region id ops true,Q'))(hm:C.P.follows .mixedOrders=true)(is:List Nat)(hedge:ij 0 ops.toList=true)(k:DL C n ops (FN ops.toList []) is [] (Q' .normal) σ):AW C n c Q σ:=
 Gd h hm _ is O hedge k
abbrev nS:PV:= .sl (some true) 0 []
end
end
abbrev ai(l:List Int):PV:= .sl none l.length (l.map (.int .i64))
theorem aQ{l:List Int}{k:Nat}(h:k<l.length):(l.map (PV.int .i64))[k*1]? =some (.int .i64 l[k]):=by simp[h]
theorem aE{l:List Int}{k:Nat}(h:k<l.length):l.map (PV.int .i64)≠[]:=by intro e;simp at e;subst e;simp at h
theorem ft{l:List Int}{k:Nat}{x:Int}(hk:k<l.length)(h:¬x∈l.take k)(hne:¬l[k]=x):¬x∈l.take (k+1):=by
 rw[AI hk];simp only[Pq,OF];rintro(h'|h')
 ·exact h h'
 ·exact hne h'.symm
theorem jn(l:List Int)(x:Int)(hl:l.length<=1000000000):FnP prog 60 [ai l,.int .i64 x] (· = .bool (decide (x∈l))):=by
 refine FnP.of func60 O ntmps60 Tw fun m0 w0 F R0=>?_
 refine O4<|AW.region<|A1 O<|O4<|O4<|AW.region<|Y3 O O O<|AW.block ?_;refine AW.loop (st:=fun k:Nat=>mkS [(1,pIi x),(7,.pv (ai l)),(8,pIi l.length),(9,pIi k)] [] 0) (I:=fun k=>k<=l.length/\¬x∈l.take k) (μ:=fun k=>l.length-k) (x0:=0) (OU (aS O) trivial O O) Tw (fun k hx=>?_);obtain⟨hk,hno⟩:=hx;refine O4<|AW.region<|A1 O<|O4 ?_;refine AW.jm O (fun hc=>?_) (fun hc=>?_)
 ·have hlt:k<l.length:=Ts;have hv:=aQ hlt;have hne:=aE hlt;refine OR<|O4<|AW.block<|O4<|AW.region<|A1 O ?_;first|refine A2 O Tv ?_|refine A1 O ?_
  refine A1 O<|O4<|AW.region<|Y3 O O O ?_;refine AW.cond O (fun hc=>?_) (fun hc=>?_)
  ·refine O4<|AW.region<|A1 O<|AW.ret ?_;refine⟨_,_,O,O,ag PV.bool (?_:true=_)⟩;have:l[k]=x:=by simpa using hc
   simp[<-this]
  ·refine OR<|AW.region<|Y2 O O ?_;refine⟨k+1,OU (aS O) trivial O O,⟨Ts,ft hlt hno (by simpa using hc)⟩,Ts⟩
 ·refine AW.exit<|O4<|AW.region<|A1 O<|AW.ret ?_;refine⟨_,_,O,O,ag PV.bool (?_:false=_)⟩;rw[aX Ts]at hno;simp[hno]
theorem BE(l:List Int)(x:Int)(hl:l.length<=1000000000):FnP prog 15 [ai l,.int .i64 x] (· = .bool (decide (x∈l))):=by
 refine FnP.of func15 O ntmps15 Tw fun m0 w0 F R0=>?_
 exact O4<|AW.region<|A1 O<|O4<|AW.region<|Y2 O O<|Rs 7 O O (aa call60 (jn l x hl) O)<|A1 O<|AW.ret<|⟨_,_,O,O,O⟩
theorem zI{l r:List Int}(hlen:l.length=r.length)(k:Nat)(hk:l.length<=k)(h:l.take k=r.take k):l=r:=by
 rwa [aX hk,aX Ts]at h
theorem EG{l r:List Int}{k:Nat}(hl:k<l.length)(hr:k<r.length)(h:l.take k=r.take k)(he:l[k]=r[k]):l.take (k+1)=r.take (k+1):=by
 rw[AI hl,AI hr,h,he]
theorem Fa(l r:List Int)(hl:l.length<=1000000000)(hr:r.length<=1000000000):FnP prog 41 [ai l,ai r] (· = .bool (decide (l=r))):=by
 refine FnP.of func41 O ntmps41 Tw fun m0 w0 F R0=>?_
 refine O4<|AW.region<|A1 O<|O4<|O4<|AW.region ?_;iterate 5 refine A1 O ?_
 refine AW.cond O (fun hc=>?_) (fun hc=>?_)
 ·refine O4<|AW.region<|A1 O<|AW.ret ?_;refine⟨_,_,O,O,ag PV.bool (?_:false=_)⟩;have hne:l.length≠r.length:=by intro e;simp[e]at hc
  simp only[Bool.false_eq,Qx];intro e;exact hne (by rw[e])
 refine OR ?_;have hlen:l.length=r.length:=by simp at hc;omega
 refine O4<|O4<|AW.region<|Y3 O O O<|AW.block ?_;refine AW.loop (st:=fun k:Nat=>mkS [(0,.pv (ai l)),(1,.pv (ai r)),(12,pIi l.length),(13,pIi k)] [] 0) (I:=fun k=>k<=l.length/\l.take k=r.take k) (μ:=fun k=>l.length-k) (x0:=0) (OU (aS O) trivial O O) Tw (fun k hx=>?_);obtain⟨hk,heq⟩:=hx;refine O4<|AW.region<|A1 O<|O4 ?_;refine AW.jm O (fun hc=>?_) (fun hc=>?_)
 ·have hlt:k<l.length:=Ts;have hlt2:k<r.length:=Ts;have hv:=aQ hlt;have hne:=aE hlt;have hv2:=aQ hlt2;have hne2:=aE hlt2;refine OR<|O4<|AW.block<|O4<|AW.region<|Y2 O O<|O4<|Ge O follows [0,1,2,3,4,5,6,7,8] Tt ?_;iterate 3 refine D1 O O ?_
  first|refine D2 O O Tv ?_|refine D1 O O ?_
  iterate 3 refine D1 O O ?_
  first|refine D2 O O Tv ?_|refine D1 O O ?_
  refine D1 O O ?_;refine⟨Tt,?_⟩;refine AW.cond O (fun hc=>?_) (fun hc=>?_)
  ·refine O4<|AW.region<|A1 O<|AW.ret ?_;refine⟨_,_,O,O,ag PV.bool (?_:false=_)⟩;have hne:l[k]≠r[k]:=by simpa using hc
   simp only[Bool.false_eq,Qx];intro e;subst e;exact hne O
  ·refine OR<|AW.region<|Y2 O O ?_;refine⟨k+1,OU (aS O) trivial O O,⟨Ts,EG hlt hlt2 heq (by simpa using hc)⟩,Ts⟩
 ·refine AW.exit<|O4<|AW.region<|A1 O<|AW.ret ?_;refine⟨_,_,O,O,ag PV.bool (?_:true=_)⟩;simp[zI hlen k Ts heq]
theorem mod_eq(x n:Int)(h:1<=n):(x.tmod n+n).tmod n=x%n:=by
 have hn:n≠0:=Ts;by_cases hx:0<=x
 ·rw[Int.tmod_eq_emod_of_nonneg hx,Int.tmod_eq_emod_of_nonneg (by have:=Int.emod_nonneg x hn;omega),Int.add_emod_right,Int.emod_emod_of_dvd _ (Int.dvd_refl n)]
 ·have h1:x.tmod n= -((-x)%n):=by
   rw[show x= -(-x) by omega,Int.neg_tmod,Int.tmod_eq_emod_of_nonneg Ts,Int.neg_neg]
  have h2:=Int.emod_nonneg (-x) hn;have h3:=Int.emod_lt_of_pos (-x) (show 0<n by omega);rw[h1,Int.tmod_eq_emod_of_nonneg Ts,Int.add_emod_right];rw[<-Int.zero_sub,Int.sub_emod,Int.emod_emod_of_dvd _ (Int.dvd_refl n),<-Int.sub_emod,Int.zero_sub,Int.neg_neg]
theorem KF(x n:Int)(h:1<=n): -n<x.tmod n/\x.tmod n<n:=by
 have h1:=Int.tmod_lt_of_pos x (show 0<n by omega);have h2:=Int.lt_tmod_of_pos x (show 0<n by omega);omega
theorem GV(x n:Int)(h1:1<=n)(h2:n<=1000000):FnP prog 44 [.int .i64 x,.int .i64 n] (· = .int .i64 (x%n)):=by
 refine FnP.of func44 O ntmps44 Tw fun m0 w0 F R0=>?_
 refine O4<|AW.region<|A1 O<|O4<|O4<|AW.region<|Y2 O O ?_;refine AW.jm O (fun hc=>absurd hc Ts) (fun hc=>?_);refine OR ?_;have hb:=KF x n h1;refine O4<|AW.region ?_;iterate 8 refine A1 O ?_
 exact AW.ret<|⟨_,_,O,O,ag (PV.int .i64) (mod_eq x n h1)⟩
abbrev gx(L:List Int)(k:Nat):List PV:=[ai L,.int .i64 k]
def sNv(L:List Int)(k:Nat)(n:Int):Int:=match L[k]? with|some x=>x%n|none=>0
def sNk(L:List Int)(k:Nat):Nat:=if k<L.length then k+1 else k
theorem gY(L:List Int)(k:Nat)(n:Int)(h:1<=n):0<=sNv L k n/\sNv L k n<n:=by
 unfold sNv;split
 ·exact⟨Int.emod_nonneg _ Ts,Int.emod_lt_of_pos _ Ts⟩
 ·omega
theorem fk(L:List Int)(k:Nat)(n:Int)(hL:L.length<=600)(hk:k<=L.length)(h1:1<=n)(h2:n<=1000000):FnM prog 12 91 (gx L k) [.int .i64 n] (fun v c=>v= .int .i64 (sNv L k n)/\c=gx L (sNk L k)):=by
 refine FnM.of func12 O ntmps12 Tw O Tw fun m0 w0 F R0=>?_
 refine O4<|AW.region<|A1 O<|O4<|O4<|Ge O follows [0,1,2,3,4,5,6,7,8,9] Tt ?_;iterate 10 refine D1 O O ?_
 refine⟨Tt,?_⟩;refine AW.jm O (fun hc=>?_) (fun hc=>?_)
 ·refine O4<|AW.region<|A1 O<|AW.ret ?_;have hkl:L[k]? =none:=by simp;omega
  exact⟨_,gx L k,O,O,by simp[sNv,hkl],by simp only[sNk];rw[dw Ts]⟩
 refine OR ?_;have hlt:k<L.length:=Ts;have hv:=aQ hlt;have hne:=aE hlt;refine O4<|AW.region ?_;iterate 8 refine A1 O ?_
 refine O4<|Ge O follows [0,1,2,3,4,5,6,7,8,9,10,11,12,13] Tt ?_;iterate 9 refine D1 O O ?_
 refine Ds 31 [] O O O (fun τ h=>ae k underlying22 sz3 (Ee h 0 O O) (Ee h 1 O O) Ts Ts hne) O Tt ?_;first|refine D2 O O Tv ?_|refine D1 O O ?_
 refine D1 O O<|Ds 34 [] O O O (fun τ h=>aa call44 (GV L[k] n h1 h2) (h.aL O)) O Tt<|D1 O O ?_;refine⟨Tt,?_⟩;exact AW.ret<|⟨_,gx L (k+1),O,O,by simp[sNv,hlt],by simp only[sNk];rw[AT hlt]⟩
theorem Ah(L:List Int)(k:Nat)(lo hi:Int)(hL:L.length<=600)(hk:k<=L.length)(h1:lo<=hi)(h2: -1000<=lo)(h3:hi<=1000):FnM prog 78 91 (gx L k) [.int .i64 lo,.int .i64 hi] (fun v c=>v= .int .i64 (lo+sNv L k (hi-lo+1))/\c=gx L (sNk L k)):=by
 refine FnM.of func78 O ntmps78 Tw O Tw fun m0 w0 F R0=>?_
 have hb:=gY L k (hi-lo+1) Ts;refine O4<|AW.region<|A1 O<|O4<|AW.region ?_;iterate 6 refine A1 O ?_
 exact Rs 13 O O (bN call12 (fk L k (hi-lo+1) hL hk Ts Ts) O O)<|Y2 O O<|AW.ret<|⟨_,gx L (sNk L k),O,O,O,O⟩
def upZ(j:Nat):List Int:=(List.range j).map Int.ofNat
theorem aW(j:Nat):(upZ j).length=j:=by simp[upZ]
theorem xw(j:Nat):upZ (j+1)=upZ j++[(j:Int)]:=by simp[upZ,SL]
abbrev aF(l:List Int):List PV:=l.map (.int .i64)
def Es(q:List Int)(i k:Nat):List Int:=(q.set i (q.getD k 0)).set k (q.getD i 0)
theorem swap_perm{q:List Int}{i k:Nat}(hi:i<q.length)(hk:k<q.length):(Es q i k).Perm q:=by
 unfold Es;simp only[List.getD,By hi,By hk,Sc];exact List.set_set_perm hi hk
theorem FY{q:List Int}{i k:Nat}(hi:i<q.length)(hk:k<q.length):((aF q).set i (.int .i64 q[k])).set k (.int .i64 q[i])=aF (Es q i k):=by
 simp[Es,Qi,List.getD,hi,hk]
theorem Ik(l:List Int)(hl:l.length<=600):FnO prog 10 0 1 [.pv (ai l)] [] (fun v ob'=>v= .ptr 0 0/\ob'=ax [(0,.mix 91 ((gx l 0).map .pv))]):=by
 refine FnO.of func10 O ntmps10 Tw fun m0 w0 F R0=>?_
 exact O4<|AW.region<|A1 O<|O4<|AW.region<|Y3 O O O<|Rs 6 O O ((Ji O O).cast (v':= pIi l.length) (by rw[dw Ts]))<|Rs 7 O O ((dq l.length underlying22 sz3 O O O (BY _) Tw).cast (v':= .pv (ai l)) (by rw[aX Tw]))<|Y3 O O O<|AW.ret<|⟨[(2,.ptr 0 0)],[(0,.mix 91 ((gx l 0).map .pv))],[.ptr 0 0],OU (aS O) (aO O) O O,O,O,O,O,O⟩
abbrev tG(L:List Int)(k:Nat):Ob:= .mix 91 ((gx L k).map .pv)
theorem sY(L:List Int)(k n:Nat)(hL:L.length<=600)(hk:k<=L.length)(hn:1<=n)(hn2:n<=1000):FnM prog 71 91 (gx L k) [.int .i64 n] (fun v c=>(∃q:List Int,q.Perm (upZ n)/\v=ai q)/\∃k',k'<=L.length/\c=gx L k'):=by
 refine FnM.of func71 O ntmps71 Tw O Tw fun m0 w0 F R0=>?_
 refine Z1 O O<|Z1 O O<|Z1 O O<|AW.block ?_;refine AW.loop (st:=fun j:Nat=>match j with
  |0=>mkS [(0,.ptr big 0),(1,pIi n),(6,pIi (0:Nat)),(5,.pv nS)] [(big,tG L k)] 1
  |j+1=>mkS [(0,.ptr big 0),(1,pIi n),(6,pIi (j+1:Nat)),(5,.osl 0 1 (j+1))] [(big,tG L k),(0,.cells 3 (aF (upZ (j+1))))] 1) (I:=fun j=>j<=n) (μ:=fun j=>n-j) (x0:=0) (OU (aS O) (aO O) O O) Ts (fun j hj=>?_)
 cases j with
 | zero=>
   refine Z3 O O O O ?_;refine AW.jm O (fun hc=>?_) (fun hc=>?_)
   ·refine OR<|Gr O ?_;iterate 5 refine A1 O ?_
    exact Z3 O O O O<|⟨0+1,OV [2] (aT O) (aP O) O O Tw O,Ts,Ts⟩
   ·omega
 | succ j=>
   have hlen:(aF (upZ (j+1))).length=(j+1)*1:=by simp[aW]
   have hup:aF (upZ (j+1+1))=aF (upZ (j+1))++[.int .i64 ((j+1:Nat):Int)]:=by rw[xw];simp
   refine Z3 O O O O ?_;refine AW.jm O (fun hc=>?_) (fun hc=>?_)
   ·refine OR<|Gr O ?_;iterate 5 refine A1 O ?_
    exact Z3 O O O O<|⟨(j+1)+1,OV [2] (aT O) ⟨O,(by rw[hup];rfl),TB⟩ O O Tw O,Ts,Ts⟩
   ·obtain rfl:n=j+1:=Ts;refine AW.exit<|Z3 O O O O<|AW.block<|AW.loop (st:=fun x:Nat×List Int×Nat=>mkS [(0,.ptr big 0),(7,pIi x.1),(5,.osl 0 1 (j+1))] [(big,tG L x.2.2),(0,.cells 3 (aF x.2.1))] 1) (I:=fun x=>x.1<=j/\x.2.1.Perm (upZ (j+1))/\x.2.2<=L.length) (μ:=fun x=>x.1) (x0:=(j,upZ (j+1),k)) (OU ⟨O,ag (fun i=>V.pv (PV.int .i64 i)) Ts,O,TB⟩ (aO O) O O) ⟨BY _,PY _,hk⟩ ?_;rintro⟨i,q,k2⟩ ⟨hi,hq,hk2⟩;simp only at hi hq hk2 ⊢;have hql:q.length=j+1:=by rw[hq.length_eq,aW]
    refine Z2 O O O ?_;refine AW.jm O (fun hc=>?_) (fun hc=>?_)
    ·refine OR ?_;have hbd:=gY L k2 (i+1) Ts;obtain⟨t,ht⟩:=Bb hbd.1;have htl:t<q.length:=Ts;have hil:i<q.length:=Ts;have hkk:sNk L k2<=L.length:=by unfold sNk;split<;>omega
     have v1:(aF q)[t*1]? =some (.int .i64 q[t]):=by simp[htl]
     have v2:(aF q)[i*1]? =some (.int .i64 q[i]):=by simp[hil]
     refine Z3 O O O O<|Rs 27 O O (XJ.cast (v':= pIi (t:Int)) (bN call12 (fk L k2 (i+1) hL hk2 Ts Ts) O O) (by rw[ht]))<|A1 O<|Ge O follows [0,1,2,3,4,5,6,7,8,9,10,11,12,13,14,15] Tt ?_;iterate 7 refine D1 O O ?_
     first|refine D2 O O Tv ?_|refine D1 O O ?_
     iterate 3 refine D1 O O ?_
     first|refine D2 O O Tv ?_|refine D1 O O ?_
     refine D1 O O<|DL.step (d:=none) [_] O O O (fun τ h=>bK sz3 (Ee h 0 O O) (Eo h 0 O O) (Ee h 1 O O) O Tx) O Tt<|D1 O O<|DL.step (d:=none) [_] O O O (fun τ h=>bK sz3 (Ee h 0 O O) (Eo h 0 O O) (Ee h 1 O O) O Tx) O Tt ?_;refine⟨Tt,?_⟩;refine Z3 O O O O ?_;refine⟨(i-1,Es q i t,sNk L k2),OU ⟨O,ag (fun i=>V.pv (PV.int .i64 i)) Ts,O,TB⟩ ⟨O,?_,TB⟩ O O,⟨Ts,(swap_perm hil htl).trans hq,hkk⟩,Ts⟩;show some (Ob.cells _ _)=_;rw[<-FY hil htl];simp
    ·exact AW.exit<|OT (St.Jf 0 [5] O ⟨O,TB⟩ Tx)<|Z2 O O O<|AW.ret<|⟨_,gx L k2,O,O,⟨q,hq,by simp[ai,hql,aX]⟩,k2,hk2,O⟩
def inB(l:List Int)(x:Int):Bool:=l.contains x
def hasB{α:Type}[DecidableEq α](l:List α)(x:α):Bool:=decide (x∈l)
def bG(f:Nat->Int):Nat->Int
 |0=>0
 |n+1=>if bG f n=0 then f n else bG f n
theorem cR{f:Nat->Int}{n:Nat}(h:bG f n=0):bG f (n+1)=f n:=by simp[bG,h]
theorem zu{f:Nat->Int}{k:Nat}(h:bG f k≠0)(n:Nat)(hn:k<=n):bG f n=bG f k:=by
 induction n with
 | zero=>have:k=0:=Ts
         subst this;rfl
 | succ n ih=>
   by_cases hk:k=n+1
   ·rw[hk]
   ·have e:=ih Ts;simp only[bG];rw[dw (by rw[e];exact h),e]
theorem fi{f:Nat->Int}{k n:Nat}(h:bG f k=0)(hf:f k≠0)(hn:k<n):bG f n=f k:=by
 have e:=cR h;rw[zu (k:=k+1) (by rw[e];exact hf) n hn,e]
theorem iJ{f:Nat->Int}{n:Nat}:bG f n=0↔∀k,k<n->f k=0:=by
 induction n with
 |zero=>simp[bG]
 | succ n ih=>
   constructor
   ·intro h k hk;simp only[bG]at h;by_cases h0:bG f n=0
    ·rw[AT h0]at h;by_cases hkn:k=n
     ·rw[hkn];exact h
     ·exact ih.1 h0 k Ts
    ·rw[dw h0]at h;exact absurd h h0
   ·intro h;rw[cR (ih.2 fun k hk=>h k Ts)];exact h n Ts
def nA(c:UInt8):Bool:=97<=c&&c<=122
def Lc(c:UInt8):Bool:=nA c||(48<=c&&c<=57)||c==45
def G4(s:List UInt8):Bool:=match s with|[]=>false|c::r=>nA c&&r.all Lc&&decide (r.length<=11)
def fI(s:ByteArray):Bool:=G4 s.data.toList
structure Sch where
 attrs:List (ByteArray×Int)
 rels:List (ByteArray×List Int)
 feats:List (Int×Int×Int)
 label:Int
def eG(names:List ByteArray)(i:Nat):Int:=
 if fI (names.getD i default)=false then 14 else if hasB (names.take i) (names.getD i default)=true then 9 else 0
def fC(S:Sch)(i:Nat):Int:=
 if eG (S.attrs.map (·.1)) i≠0 then eG (S.attrs.map (·.1)) i
 else if(S.attrs.getD i default).2<1\/3<(S.attrs.getD i default).2 then 7 else 0
def FL(l:List Int):Bool:=(List.range (l.length-1)).all fun k=>decide (l.getD k 0<l.getD (k+1) 0)
def ue(S:Sch)(i:Nat):Int:=
 if eG (S.rels.map (·.1)) i≠0 then eG (S.rels.map (·.1)) i
 else if(S.rels.getD i default).2=[]then 7
 else if((S.rels.getD i default).2.all fun a=>decide (0<=a)&&decide (a<S.attrs.length))=false then 2
 else if FL (S.rels.getD i default).2=false then 10 else 0
def rG(S:Sch)(a:Nat):Bool:=S.rels.any fun r=>inB r.2 a
def fE(S:Sch):Int:=
 if bG (ue S) S.rels.length≠0 then bG (ue S) S.rels.length
 else if((List.range S.attrs.length).all fun a=>rG S a)=false then 7 else 0
def jf(S:Sch)(i:Nat):Int:=
 let f:=S.feats.getD i default
 let kind:=(S.attrs.getD f.1.toNat default).2
 if f.1<0\/(S.attrs.length:Int)<=f.1 then 2
 else if((f.2.1==1&&kind==2&&(f.2.2==0||f.2.2==1))||(f.2.1==2&&kind==3&&f.2.2==0))=false then 7
 else if(f.1==S.label||(S.feats.take i).any fun g=>g.1==f.1)=true then 9 else 0
def bp(S:Sch):Int:=
 if S.attrs.length=0\/12<S.attrs.length\/S.rels.length=0\/6<S.rels.length\/8<S.feats.length then 3
 else if bG (fC S) S.attrs.length≠0 then bG (fC S) S.attrs.length
 else if fE S≠0 then fE S
 else if bG (jf S) S.feats.length≠0 then bG (jf S) S.feats.length
 else if S.label< -1\/(S.attrs.length:Int)<=S.label then 2
 else if 0<=S.label/\(S.attrs.getD S.label.toNat default).2≠2 then 7 else 0
namespace Mk
open Go.Proofs.YtoplpepiabedhaaGreatDoor
def chr(n:Int):ByteArray:=⟨#[UInt8.ofNat n.toNat]⟩
def nm(p:UInt8)(i:Nat):ByteArray:=⟨#[p]⟩++chr (97+i)
theorem nv:∀(l:List Int)(lo hi:Int),l.Pairwise (· < ·)->(∀a∈l,lo<=a/\a<=hi)->(l.length:Int)<=max 0 (hi+1-lo):=by
 intro l;induction l with
 |nil=>intro lo hi _ _;simp;omega
 | cons x t ih=>
   intro lo hi hp hb;have hp':=PW.1 hp;have hx:=hb x Tw;have:=ih (x+1) hi hp'.2 (fun a ha=>⟨by have:=hp'.1 a ha;omega,(hb a (by simp[ha])).2⟩);simp only[Pd];omega
theorem JS{l:List Int}{q:Nat}(h1:1<=q)(h2:q<l.length)(h:l[q]<=l[q-1]):FL l=false:=by
 unfold FL;rw[RV];refine⟨q-1,Tx,?_⟩;have e:l.getD (q-1+1) 0=l[q]:=by
  simp only[show q-1+1=q by omega,List.getD,By h2];rfl
 have e2:l.getD (q-1) 0=l[q-1]:=by
  simp only[List.getD,By (show q-1<l.length by omega)];rfl
 rw[e,e2];simp;omega
theorem ve{l:List Int}(h:∀p,p+1<l.length->l.getD p 0<l.getD (p+1) 0):FL l=true:=by
 unfold FL;rw[IN];intro p hp;simp only[P0]at hp;simpa using h p Ts
theorem Jy{l:List Int}{n q:Nat}(hq:q<l.length)(h:¬ (0<=l[q]/\l[q]<n)):(l.all fun a=>decide (0<=a)&&decide (a<n))=false:=by
 rw[RV];exact⟨l[q],ar hq,Tx⟩
theorem wM{l:List Int}{n:Nat}(h:∀a∈l,0<=a/\a<n):(l.all fun a=>decide (0<=a)&&decide (a<n))=true:=by
 rw[IN];intro a ha;have:=h a ha;simp;omega
theorem NN{l:List Int}(h:l.Pairwise (· < ·)):FL l=true:=by
 apply ve;intro p hp;have:=P6.1 h p (p+1) Ts hp Ts;simpa[List.getD,hp,show p<l.length by omega]using this
theorem qW(S:Sch)(k:Nat)(hk:k<S.rels.length):ue S k=if fI S.rels[k].1=false then 14 else if hasB ((S.rels.map (·.1)).take k) S.rels[k].1=true then 9 else if S.rels[k].2=[]then 7
  else if(S.rels[k].2.all fun a=>decide (0<=a)&&decide (a<S.attrs.length))=false then 2 else if FL S.rels[k].2=false then 10 else 0:=by
 have e1:(S.rels.map (·.1)).getD k default=S.rels[k].1:=by simp[List.getD,hk]
 have e2:S.rels.getD k default=S.rels[k]:=by simp[List.getD,hk]
 unfold ue eG;rw[e1,e2];by_cases h1:fI S.rels[k].1=false
 ·simp[h1]
 ·by_cases h2:hasB ((S.rels.map (·.1)).take k) S.rels[k].1=true
  ·simp[h1,h2]
  ·simp[h1,h2]
theorem yk(S:Sch)(k:Nat)(hk:k<S.attrs.length):fC S k=if fI S.attrs[k].1=false then 14 else if hasB ((S.attrs.map (·.1)).take k) S.attrs[k].1=true then 9 else if S.attrs[k].2<1\/3<S.attrs[k].2 then 7 else 0:=by
 have e1:(S.attrs.map (·.1)).getD k default=S.attrs[k].1:=by simp[List.getD,hk]
 have e2:S.attrs.getD k default=S.attrs[k]:=by simp[List.getD,hk]
 unfold fC eG;rw[e1,e2];by_cases h1:fI S.attrs[k].1=false
 ·simp[h1]
 ·by_cases h2:hasB ((S.attrs.map (·.1)).take k) S.attrs[k].1=true
  ·simp[h1,h2]
  ·simp[h1,h2]
theorem n5(S:Sch)(k:Nat)(hk:k<S.feats.length):jf S k=if S.feats[k].1<0\/(S.attrs.length:Int)<=S.feats[k].1 then 2
  else if((S.feats[k].2.1==1&&(S.attrs.getD S.feats[k].1.toNat default).2==2&&(S.feats[k].2.2==0||S.feats[k].2.2==1))||(S.feats[k].2.1==2&&(S.attrs.getD S.feats[k].1.toNat default).2==3&&S.feats[k].2.2==0))=false then 7
  else if(S.feats[k].1==S.label||(S.feats.take k).any fun g=>g.1==S.feats[k].1)=true then 9 else 0:=by
 have e:S.feats.getD k default=S.feats[k]:=by simp[List.getD,hk]
 unfold jf;rw[e]
theorem sL{S:Sch}(hr:bG (ue S) S.rels.length=0)(hu:((List.range S.attrs.length).all fun a=>rG S a)=true):fE S=0:=by
 unfold fE;rw[dw (by simp[hr]),dw (by rw[hu];decide)]
def limB(S:Sch):Prop:=¬ (S.attrs.length=0\/12<S.attrs.length\/S.rels.length=0\/6<S.rels.length\/8<S.feats.length)
theorem nk{S:Sch}(h:limB S)(ha:bG (fC S) S.attrs.length=0)(hr:fE S=0)(hf:bG (jf S) S.feats.length=0):bp S=if S.label< -1\/(S.attrs.length:Int)<=S.label then 2 else if 0<=S.label/\(S.attrs.getD S.label.toNat default).2≠2 then 7 else 0:=by
 unfold bp;rw[dw h,dw (by simp[ha]),dw (by simp[hr]),dw (by simp[hf])]
def o7(i n:Nat):Bool:=decide (97<=n/\n<=122)||(decide (i≠0)&&(n==45||decide (48<=n/\n<=57)))
theorem sN(c:UInt8):o7 0 c.toNat=nA c:=by
 rw[PA];simp[o7,nA,UInt8.le_iff_toNat_le]
theorem tA(k:Nat)(c:UInt8):o7 (k+1) c.toNat=Lc c:=by
 rw[PA];have e:c=45↔c.toNat=45:=by
  constructor
  ·rintro rfl;rfl
  ·intro h;exact UInt8.toNat_inj.1 h
 simp[o7,Lc,nA,UInt8.le_iff_toNat_le,e];omega
theorem qD(l:List UInt8):G4 l=(((List.range l.length).all fun k=>o7 k (l.getD k 0).toNat)&&decide (1<=l.length)&&decide (l.length<=12)):=by
 cases l with
 |nil=>simp[G4]
 | cons c r=>
   rw[PA];simp only[G4,sh,IN,Po,P0,Pd];constructor
   ·rintro⟨⟨h1,h2⟩,h3⟩;refine⟨⟨fun k hk=>?_,Ts⟩,Ts⟩;cases k with
    |zero=>rw[List.getD_cons_zero,sN];exact h1
    | succ k=>
      rw[List.getD_cons_succ,tA];have hk':k<r.length:=Ts;rw[List.getD,By hk'];exact h2 _ (ar hk')
   ·rintro⟨⟨h1,_⟩,h3⟩;refine⟨⟨?_,fun x hx=>?_⟩,Ts⟩
    ·have:=h1 0 Ts;rwa [List.getD_cons_zero,sN]at this
    ·obtain⟨k,hk,rfl⟩:=Q0 hx;have:=h1 (k+1) Ts;rwa [List.getD_cons_succ,tA,List.getD,By hk]at this
theorem vY(s:ByteArray)(k:Nat)(hk:k<s.size)(h:o7 k (s.data.toList.getD k 0).toNat=false):fI s=false:=by
 unfold fI;rw[qD];have:((List.range s.data.toList.length).all fun k=>o7 k (s.data.toList.getD k 0).toNat)=false:=by
  rw[RV];exact⟨k,by simp;exact hk,by rw[h];simp⟩
 rw[this];rfl
theorem ya(s:ByteArray)(h:∀k,k<s.size->o7 k (s.data.toList.getD k 0).toNat=true):fI s=(decide (1<=s.size)&&decide (s.size<=12)):=by
 unfold fI;rw[qD];have:((List.range s.data.toList.length).all fun k=>o7 k (s.data.toList.getD k 0).toNat)=true:=by
  rw[IN];intro k hk;exact h k (by simpa using hk)
 rw[this];simp
theorem Ox:∀i,i<26->∀j,j<26->nm 97 i=nm 97 j->i=j:=Tu
theorem Ic:∀i,i<6->∀j,j<6->nm 114 i=nm 114 j->i=j:=Tu
theorem KQ:∀i,i<26->fI (nm 97 i)=true:=Tu
theorem FC:∀i,i<6->fI (nm 114 i)=true:=Tu
def nT(at':List (ByteArray×Int)):Prop:=∀j (hj:j<at'.length),at'[j].1=nm 97 j/\1<=at'[j].2/\at'[j].2<=3
def pF(rs:List (ByteArray×List Int))(n:Nat):Prop:=∀j (hj:j<rs.length),rs[j].1=nm 114 j/\rs[j].2≠[]/\rs[j].2.Pairwise (· < ·)/\∀a∈rs[j].2,0<=a/\a<n
def Cn(rs:List (ByteArray×List Int))(n:Nat):Prop:=∀a,a<n->∃x∈rs,(a:Int)∈x.2
def NS(at':List (ByteArray×Int))(lb:Int)(k:Nat)(f:Int×Int×Int):Prop:=
 ∃a:Nat,f.1=(a:Int)/\a<k/\(a:Int)≠lb/\((f.2.1=1/\(at'.getD a default).2=2/\(f.2.2=0\/f.2.2=1))\/(f.2.1=2/\(at'.getD a default).2=3/\f.2.2=0))
def fx(at':List (ByteArray×Int))(fs:List (Int×Int×Int))(lb:Int)(k:Nat):Prop:=
 (fs.map (·.1)).Pairwise (· < ·)/\(∀f∈fs,NS at' lb k f)/\(lb= -1\/∃a:Nat,lb=(a:Int)/\a<k/\(at'.getD a default).2=2)
theorem uw{at':List (ByteArray×Int)}(h:nT at'){x:Int}(h1:1<=x)(h2:x<=3):nT (at'++[(nm 97 at'.length,x)]):=by
 intro j hj;by_cases e:j<at'.length
 ·rw[SA e];exact h j e
 ·obtain rfl:j=at'.length:=by simp at hj;omega
  simpa using⟨h1,h2⟩
theorem vz{rs:List (ByteArray×List Int)}{n m:Nat}(h:pF rs n)(hm:n<=m):pF rs m:=by
 intro j hj;obtain⟨h1,h2,h3,h4⟩:=h j hj;exact⟨h1,h2,h3,fun a ha=>by have:=h4 a ha;omega⟩
theorem wU{rs:List (ByteArray×List Int)}{n:Nat}(h:pF rs n){l:List Int}(h1:l≠[])(h2:l.Pairwise (· < ·))(h3:∀a∈l,0<=a/\a<n):pF (rs++[(nm 114 rs.length,l)]) n:=by
 intro j hj;by_cases e:j<rs.length
 ·rw[SA e];exact h j e
 ·obtain rfl:j=rs.length:=by simp at hj;omega
  simpa using⟨h1,h2,h3⟩
theorem yR{l:List Int}{x:Int}(h:l.Pairwise (· < ·))(hx:∀a∈l,a<x):(l++[x]).Pairwise (· < ·):=by
 rw[List.pairwise_append];exact⟨h,Tw,fun a ha b hb=>by simp at hb;rw[hb];exact hx a ha⟩
theorem cO{at':List (ByteArray×Int)}{fs:List (Int×Int×Int)}{lb:Int}{k:Nat}(h:fx at' fs lb k):fx at' fs lb (k+1):=by
 refine⟨h.1,fun f hf=>?_,?_⟩
 ·obtain⟨a,h1,h2,h3⟩:=h.2.1 f hf;exact⟨a,h1,Ts,h3⟩
 ·rcases h.2.2 with h1|⟨a,h1,h2,h3⟩
  ·exact .inl h1
  ·exact .inr ⟨a,h1,Ts,h3⟩
theorem rA{at':List (ByteArray×Int)}{fs:List (Int×Int×Int)}{k:Nat}{lb:Int}(h:fx at' fs lb k)(hk:(at'.getD k default).2=2):fx at' fs (k:Int) (k+1):=by
 refine⟨h.1,fun f hf=>?_,.inr ⟨k,O,Ts,hk⟩⟩;obtain⟨a,h1,h2,_,h3⟩:=h.2.1 f hf;exact⟨a,h1,Ts,Ts,h3⟩
theorem iv{at':List (ByteArray×Int)}{fs:List (Int×Int×Int)}{k:Nat}{lb:Int}(h:fx at' fs lb k){x y:Int}(hlb:lb= -1\/lb<k)
  (hk:(x=1/\(at'.getD k default).2=2/\(y=0\/y=1))\/(x=2/\(at'.getD k default).2=3/\y=0)):fx at' (fs++[((k:Int),x,y)]) lb (k+1):=by
 refine⟨?_,fun f hf=>?_,(cO h).2.2⟩
 ·rw[PD];refine yR h.1 fun a ha=>?_
  obtain⟨f,hf,rfl⟩:=IT.1 ha;obtain⟨a,h1,h2,_⟩:=h.2.1 f hf;show f.1<(k:Int);omega
 ·rcases Pq.1 hf with hf|hf
  ·exact(cO h).2.1 f hf
  ·simp at hf;subst hf;exact⟨k,O,Ts,Ts,hk⟩
theorem pK{at':List (ByteArray×Int)}{fs:List (Int×Int×Int)}{k:Nat}{lb:Int}(h:fx at' fs lb k): -1<=lb/\lb<k:=by
 rcases h.2.2 with h1|⟨a,h1,h2,_⟩<;>omega
theorem eu{at':List (ByteArray×Int)}{fs:List (Int×Int×Int)}{k:Nat}{lb:Int}(h:fx at' fs lb k):fs.length<=k:=by
 have:=nv (fs.map (·.1)) 0 (k-1) h.1 (fun a ha=>by
  obtain⟨f,hf,rfl⟩:=IT.1 ha;obtain⟨a,h1,h2,_⟩:=h.2.1 f hf;omega)
 simp at this;omega
structure Made(S:Sch)(most:Nat):Prop where
 a1:1<=S.attrs.length
 a2:S.attrs.length<=most
 r1:1<=S.rels.length
 r2:S.rels.length<=3
 at':nT S.attrs
 rs:pF S.rels S.attrs.length
 cv:Cn S.rels S.attrs.length
 fs:fx S.attrs S.feats S.label S.attrs.length
theorem iS{S:Sch}{most:Nat}(h:Made S most)(hm:most<=8):bp S=0:=by
 have hal:=h.a2;have hrl:=h.r2;have hA:bG (fC S) S.attrs.length=0:=by
  rw[iJ];intro k hk;rw[yk S k hk];obtain⟨h1,h2,h3⟩:=h.at' k hk;rw[dw (by rw[h1,KQ k Ts];decide),dw,dw Ts];unfold hasB;simp only[Po];intro hmem;obtain⟨j,hj,hjk⟩:=QS.1 hmem;have hj2:j<S.attrs.length:=by simp at hj;omega
  rw[Qm,(h.at' j hj2).1,h1]at hjk;have:=Ox j Ts k Ts hjk;simp at hj;omega
 have hR:bG (ue S) S.rels.length=0:=by
  rw[iJ];intro k hk;rw[qW S k hk];obtain⟨h1,h2,h3,h4⟩:=h.rs k hk;rw[dw (by rw[h1,FC k Ts];decide),dw,dw h2,dw (by rw[wM h4];decide),dw (by rw[NN h3];decide)];unfold hasB;simp only[Po];intro hmem;obtain⟨j,hj,hjk⟩:=QS.1 hmem;have hj2:j<S.rels.length:=by simp at hj;omega
  rw[Qm,(h.rs j hj2).1,h1]at hjk;have:=Ic j Ts k Ts hjk;simp at hj;omega
 have hRS:fE S=0:=by
  refine sL hR ?_;rw[IN];intro a ha;obtain⟨x,hx,hax⟩:=h.cv a (by simpa using ha);unfold rG;rw[Qy];exact⟨x,hx,by simpa[inB]using hax⟩
 have hfl:=eu h.fs;have hF:bG (jf S) S.feats.length=0:=by
  rw[iJ];intro k hk;rw[n5 S k hk];obtain⟨a,h1,h2,h3,h4⟩:=h.fs.2.1 _ (ar hk);rw[h1,Pz,dw Ts,dw,dw]
  ·rw[PQ,not_or];refine⟨by simpa using h3,?_⟩;rw[Qy];rintro⟨f,hf,hfa⟩;obtain⟨j,hj,rfl⟩:=QS.1 hf;have:=P6.1 h.fs.1 j k Tx (by simpa using hk) Ts;simp at this hfa;omega
  ·rcases h4 with⟨g1,g2,g3⟩|⟨g1,g2,g3⟩
   ·rw[g1,g2];rcases g3 with g3|g3<;>rw[g3]<;>decide
   ·rw[g1,g2,g3];decide
 have hlim:limB S:=by unfold limB;have:=h.a1;have:=h.r1;omega
 rw[nk hlim hA hRS hF];have hlb:=pK h.fs;rw[dw Ts,dw];rintro⟨g1,g2⟩;rcases h.fs.2.2 with g3|⟨a,g3,g4,g5⟩
 ·omega
 ·rw[g3,Pz]at g2;exact g2 g5
def jh(l:List Int)(n:Nat):Prop:=l.Pairwise (· < ·)/\(∀a∈l,0<=a/\a<n)
theorem jh.len{l:List Int}{n:Nat}(h:jh l n):l.length<=n:=by
 have:=nv l 0 (n-1) h.1 (fun a ha=>by have:=h.2 a ha;omega);omega
theorem jh.snoc{l:List Int}{n:Nat}(h:jh l n):jh (l++[(n:Int)]) (n+1):=by
 refine⟨yR h.1 fun a ha=>(h.2 a ha).2,fun a ha=>?_⟩;rcases Pq.1 ha with h1|h1
 ·have:=h.2 a h1;omega
 ·simp at h1;omega
theorem jh.mono{l:List Int}{n m:Nat}(h:jh l n)(hm:n<=m):jh l m:=⟨h.1,fun a ha=>by have:=h.2 a ha;omega⟩
def CT(at':List (ByteArray×Int))(rs:List (ByteArray×List Int))(most k:Nat):Prop:=
 nT at'/\pF rs at'.length/\Cn rs at'.length/\at'.length<=most/\rs.length=k/\(1<=k->1<=at'.length)
def GX(at' at2:List (ByteArray×Int))(l:List Int)(most:Nat):Prop:=
 nT at2/\at2.length<=most/\at'.length<=at2.length/\jh l at2.length/\∀a:Nat,at'.length<=a->a<at2.length->(a:Int)∈l
theorem y7{at' at2:List (ByteArray×Int)}{l:List Int}{most:Nat}(h:GX at' at2 l most)(hm:at2.length<most){x:Int}(hx:x∈[1,2,2,3]):GX at' (at2++[(nm 97 at2.length,x)]) (l++[(at2.length:Int)]) most:=by
 obtain⟨h1,h2,h3,h4,h5⟩:=h;refine⟨uw h1 (by simp at hx;omega) (by simp at hx;omega),Tx,Tx,by simpa using h4.snoc,fun a ha1 ha2=>?_⟩;by_cases e:a<at2.length
 ·exact Rn _ (h5 a ha1 e)
 ·have:a=at2.length:=by simp at ha2;omega
  subst this;simp
def Hc(at' at2:List (ByteArray×Int))(l:List Int)(most:Nat):Prop:=GX at' at2 l most/\l≠[]/\1<=at2.length
theorem mZ{at' at2:List (ByteArray×Int)}{rs:List (ByteArray×List Int)}{l:List Int}{most k:Nat}(h:CT at' rs most k)(he:Hc at' at2 l most):CT at2 (rs++[(nm 114 k,l)]) most (k+1):=by
 obtain⟨h1,h2,h3,h4,h5,h6⟩:=h;obtain⟨⟨g1,g2,g3,g4,g5⟩,g6,g7⟩:=he;subst h5;refine⟨g1,wU (vz h2 g3) g6 g4.1 g4.2,fun a ha=>?_,g2,Tw,fun _=>g7⟩;by_cases e:a<at'.length
 ·obtain⟨x,hx,hax⟩:=h3 a e;exact⟨x,Rn _ hx,hax⟩
 ·exact⟨(nm 114 rs.length,l),Rh _ Tw,g5 a Ts ha⟩
end Mk
section
open Mk
theorem eV(p:ByteArray)(i:Nat)(hp:p.size<=1000)(hi:i<26):FnP prog 79 [.str p,.int .i64 i] (· = .str (p++chr (97+i))):=by
 refine FnP.of func79 O ntmps79 Tw fun m0 w0 F R0=>?_
 have hr:(i:Int).tmod 26=i:=Int.tmod_eq_of_lt Ts Ts;have hb:(97+i:Int)=((UInt8.ofNat (97+i)).toNat:Int):=by
  simp[SP (show 97+i<256 by omega)]
 refine Z1 O O<|Z2 O O O<|Rs 7 O O (XJ.cast (v':= pIi i) (tv O O Ts) (by rw[hr]))<|A1 O<|Rs 9 O O (XJ.cast (v':= .pv (.int .u8 (((UInt8.ofNat (97+i)).toNat:Nat):Int))) (mP underlying3 underlying5 O) (by rw[<-hb,IntWalk.u8_in _ Ts]))<|A1 O<|Rs 11 O O (OM [UInt8.ofNat (97+i)] underlying277 underlying5 underlying9 (.inr ⟨_,_,_,_,O,O,O⟩))<|Rs 12 O O (y3 O O (show p.size+1<=_ by omega)) ?_;refine A1 O<|AW.ret ?_;refine⟨_,_,O,O,ag PV.str ?_⟩
 congr 1
end
section
open Mk
theorem pI(L:List Int)(k:Nat)(l:List Int)(hL:L.length<=600)(hk:k<=L.length)(hl:l≠[])(hl2:l.length<=1000):∃x∈l,FnM prog 80 91 (gx L k) [ai l] (fun v c=>v= .int .i64 x/\c=gx L (sNk L k)):=by
 have hpos:0<l.length:=Qe.2 hl;have hb:=gY L k l.length Ts;obtain⟨j,hj⟩:=Bb hb.1;have hjl:j<l.length:=Ts;refine⟨l[j],ar hjl,?_⟩;refine FnM.of func80 O ntmps80 Tw O Tw fun m0 w0 F R0=>?_
 have hv:=aQ hjl;have hne:=aE hjl;refine Z1 O O<|Z4 O O O O O<|Rs 9 O O (bN call12 (fk L k l.length hL hk Ts Ts) O O)<|Rs 10 O O (ae j underlying22 sz3 O O hj hjl hne) ?_;first|refine A2 O Tv ?_|refine A1 O ?_
 exact A1 O<|AW.ret<|⟨_,gx L (sNk L k),O,O,O,O⟩
theorem fM{L:List Int}{k:Nat}(h:k<=L.length):sNk L k<=L.length:=by unfold sNk;split<;>omega
def aB(l:List (ByteArray×Int)):List PV:=l.flatMap fun a=>[.str a.1,.int .i64 a.2]
def aJ(l:List (ByteArray×List Int)):List PV:=l.flatMap fun r=>[.str r.1,ai r.2]
def aC(l:List (Int×Int×Int)):List PV:=l.flatMap fun f=>[.int .i64 f.1,.int .i64 f.2.1,.int .i64 f.2.2]
abbrev schC(S:Sch):List PV:=[.sl none S.attrs.length (aB S.attrs),.sl none S.rels.length (aJ S.rels),.sl none S.feats.length (aC S.feats),.int .i64 S.label]
abbrev eZ(S:Sch):PV:= .agg (schC S)
theorem bV{α β:Type}(f:α->List β)(n:Nat)(h:∀a,(f a).length=n):∀l:List α,(l.flatMap f).length=l.length*n
 |[]=>by simp
 |a::l=>by rw[Py,Ph,h,bV f n h l,Pd,Tn,SN]
theorem fD{α β:Type}(f:α->List β)(n:Nat)(h:∀a,(f a).length=n):∀(l:List α)(k j:Nat)(hk:k<l.length),j<n->(l.flatMap f)[k*n+j]? =(f l[k])[j]?
 |[],_,_,hk,_=>by simp at hk
 | a::l,0,j,_,hj=>by
   rw[Py,Nat.zero_mul,PJ,List.getElem?_append_left (by rw[h];exact hj)];rfl
 | a::l,k+1,j,hk,hj=>by
   rw[Py,List.getElem?_append_right (by rw[h,Tn];omega),h,show(k+1)*n+j-n=k*n+j by rw[Tn];omega];rw[fD f n h l k j (by simpa using hk) hj];simp
theorem iX(l:List (ByteArray×Int)):(aB l).length=l.length*2:=bV _ 2 (fun _=>rfl) l
theorem sU(l:List (ByteArray×List Int)):(aJ l).length=l.length*2:=bV _ 2 (fun _=>rfl) l
theorem fP(l:List (Int×Int×Int)):(aC l).length=l.length*3:=bV _ 3 (fun _=>rfl) l
theorem mN(l:List (ByteArray×Int))(x:ByteArray×Int):aB (l++[x])=aB l++[.str x.1,.int .i64 x.2]:=by simp[aB]
theorem kJ(l:List (ByteArray×List Int))(x:ByteArray×List Int):aJ (l++[x])=aJ l++[.str x.1,ai x.2]:=by simp[aJ]
theorem js(l:List (Int×Int×Int))(x:Int×Int×Int):aC (l++[x])=aC l++[.int .i64 x.1,.int .i64 x.2.1,.int .i64 x.2.2]:=by simp[aC]
theorem eI(l:List Int)(x:Int):aF (l++[x])=aF l++[.int .i64 x]:=Tw
abbrev K3:Ob:= .mix 30 [.pv nS,.pv nS,.pv nS,pIi 0]
abbrev MR(a r f:Nat)(lb:Int):Ob:= .mix 30 [.gsl 2 2 a,.gsl 3 2 r,.gsl 4 3 f,pIi lb]
theorem cm{α β:Type}(f:α->List β)(n:Nat)(h:∀a,(f a).length=n):∀(l:List α)(k:Nat)(hk:k<l.length),((l.flatMap f).drop (k*n)).take n=f l[k]
 |[],_,hk=>by simp at hk
 | a::l,0,_=>by
   rw[Py,Nat.zero_mul,List.drop_zero,List.take_append_of_le_length (by rw[h];exact BY _),aX (by rw[h];exact BY _)];rfl
 | a::l,k+1,hk=>by
   rw[Py,List.drop_append,RN (by rw[h,Tn];omega),Qa,h,show(k+1)*n-n=k*n by rw[Tn];omega];rw[cm f n h l k (by simpa using hk)];simp
theorem vu(L:List Int)(k0 most:Nat)(hL:L.length<=600)(hk0:k0<=L.length)(hm1:1<=most)(hm2:most<=8):FnM prog 26 91 (gx L k0) [.int .i64 most] (fun v c=>(∃S,Made S most/\v=eZ S)/\∃k',k'<=L.length/\c=gx L k'):=by
 refine FnM.ofC (rt:=30) (k:=4) func26 O ntmps26 Tw O Tw ⟨_,underlying30,O⟩ sz30 fun m0 w0 F R0=>?_
 have hb:=gY L k0 3 Ts;obtain⟨nn,hnn⟩:=Bb (show 0<=1+sNv L k0 3 by omega);have hk1:=fM hk0;generalize hke:sNk L k0=k1 at hk1;refine Z1 O O<|Z3 O O O O<|Z1 O O<|Rs 15 O O (XJ.cast (v':= pIi nn) (bN call78 (Ah L k0 1 3 hL hk0 Ts Ts Ts) O O) (by rw[<-hnn];rfl))<|A1 O ?_;rw[hke];refine OT (St.c8 1 0 2 2 162 O O O)<|OT (St.c8 1 1 3 2 74 O O O)<|OT (St.c8 1 2 4 3 164 O O O)<|Z1 O O<|AW.block ?_;refine AW.loop (st:=fun x:Nat×List (ByteArray×Int)×List (ByteArray×List Int)×Nat=>mkS [(0,.ptr big 0),(1,pIi most),(4,.ptr 0 0),(5,.ptr 1 0),(6,pIi nn),(7,pIi x.1)] [(big,tG L x.2.2.2),(0,K3),(1,MR x.2.1.length x.2.2.1.length 0 (-1)),(2,.gro 162 (aB x.2.1)),(3,.gro 74 (aJ x.2.2.1)),(4,.gro 164 [])] 5)
  (I:=fun x=>x.1<=nn/\CT x.2.1 x.2.2.1 most x.1/\x.2.2.2<=L.length) (μ:=fun x=>nn-x.1) (x0:=(0,[],[],k1)) (OU (aS O) (aO O) O O) ⟨cd _,⟨fun j hj=>by simp at hj,fun j hj=>by simp at hj,fun a ha=>by simp at ha,Tw,O,fun h=>by omega⟩,hk1⟩ ?_
 rintro⟨k,at',rs,k2⟩ ⟨hk,hhead,hk2⟩;simp only at hk hhead hk2 ⊢;have hal:at'.length<=most:=hhead.2.2.2.1;have hrl:rs.length=k:=hhead.2.2.2.2.1;have hAl:=iX at';have hRl:=sU rs;refine Z3 O O O O ?_;refine AW.jm O (fun hc=>?_) (fun hc=>?_)
 ·refine OR<|Z1 O O<|OT (OZ 8 5 1 3 O O)<|Z4 O O O O O<|AW.block ?_;refine AW.loop (st:=fun x:Nat×List Int×Nat=>mkS [(0,.ptr big 0),(1,pIi most),(4,.ptr 0 0),(5,.ptr 1 0),(6,pIi nn),(7,pIi k),(8,.gsl 5 1 x.2.1.length),(23,pIi at'.length),(24,pIi x.1)] [(big,tG L x.2.2),(0,K3),(1,MR at'.length rs.length 0 (-1)),(2,.gro 162 (aB at')),(3,.gro 74 (aJ rs)),(4,.gro 164 []),(5,.gro 3 (aF x.2.1))] 6)
   (I:=fun x=>x.1<=at'.length/\jh x.2.1 x.1/\x.2.2<=L.length) (μ:=fun x=>at'.length-x.1) (x0:=(0,[],k2)) (OU (aS O) (aO O) O O) ⟨cd _,⟨Tw,Tw⟩,hk2⟩ ?_
  rintro⟨j,l,k3⟩ ⟨hj,hlok,hk3⟩;simp only at hj hlok hk3 ⊢;have hll:=hlok.len;refine Z1 O O ?_;refine Gp O O (fun hc=>?_) (fun hc=>?_)
  ·refine OR<|Z2 O O O<|Z1 O O<|Rs 28 O O (bN call12 (fk L k3 3 hL hk3 Ts Ts) O O)<|A1 O ?_;refine AW.cond O (fun hc=>?_) (fun hc=>?_)
   ·refine Gr O ?_;iterate 5 refine A1 O ?_
    exact Z2 O O O<|⟨(j+1,l++[(j:Int)],sNk L k3),OV [0,1,2,3,4,7] ⟨O,O,O,O,O,O,by simp;rfl,O,O,TB⟩ ⟨O,O,O,O,O,O,by rw[eI];rfl,TB⟩ O O Tw O,⟨Ts,hlok.snoc,fM hk3⟩,Ts⟩
   ·exact OR<|Z2 O O O<|⟨(j+1,l,sNk L k3),OU (aS O) (aO O) O O,⟨Ts,hlok.mono Ts,fM hk3⟩,Ts⟩
  ·obtain rfl:j=at'.length:=Ts;refine AW.exit ?_;have hb2:=gY L k3 3 Ts;refine Z1 O O<|Rs 36 O O (bN call12 (fk L k3 3 hL hk3 Ts Ts) O O)<|A1 O<|AW.block ?_;refine AW.loop (st:=fun x:List (ByteArray×Int)×List Int×Int×Nat=>mkS [(0,.ptr big 0),(1,pIi most),(4,.ptr 0 0),(5,.ptr 1 0),(6,pIi nn),(7,pIi k),(8,.gsl 5 1 x.2.1.length),(10,pIi x.2.2.1)] [(big,tG L x.2.2.2),(0,K3),(1,MR x.1.length rs.length 0 (-1)),(2,.gro 162 (aB x.1)),(3,.gro 74 (aJ rs)),(4,.gro 164 []),(5,.gro 3 (aF x.2.1))] 6)
    (I:=fun x=>GX at' x.1 x.2.1 most/\ -1000+x.1.length*(-1)<=x.2.2.1/\x.2.2.1<=1000/\x.2.2.2<=L.length) (μ:=fun x=>most-x.1.length) (x0:=(at',l,sNv L k3 3,sNk L k3)) (OU (aS O) (aO O) O O) ⟨⟨hhead.1,hal,BY _,hlok,fun a h1 h2=>absurd h2 (Nat.not_lt.2 h1)⟩,Tz,Tz,fM hk3⟩ ?_
   clear hlok hll hb2 hk3;rintro⟨at2,l,c,k3⟩ ⟨hmid,hc1,hc2,hk3⟩;simp only at hmid hc1 hc2 hk3 ⊢;have hal2:at2.length<=most:=hmid.2.1;have hll:=hmid.2.2.2.1.len;have hAl2:=iX at2;obtain⟨px,hpx,hpick⟩:=pI L k3 [1,2,2,3] hL hk3 Tw Tw;by_cases hcp:0<c
   ·refine Z1 O O<|Rs 38 O O (XJ.cast (v':= .pv (.bool true)) (aG O O O) Tx) ?_;iterate 12 refine A1 O ?_
    refine AW.jm O (fun hc=>?_) (fun hc=>?_)
    ·refine OR<|Gr O ?_;iterate 7 refine A1 O ?_
     refine Ge O follows [0,1,2,3,4,5,6,7,8,9,10,11,12,13] Tt ?_;iterate 5 refine D1 O O ?_
     refine Ds 64 [] O O O (fun τ h=>aa call79 (eV ⟨#[97]⟩ at2.length Tu Ts) (h.aL O)) O Tt<|D1 O O<|Ds 66 [] O O O (fun τ h=>ak none Tw vL O Tu Tu (h.Cc O O) O) O Tt<|Ds 67 [_] O O O (fun τ h=>bN call80 hpick (h.args.trans O) (Eo h 0 O O)) O Tt ?_;iterate 5 refine D1 O O ?_
     refine⟨Tt,?_⟩;refine Z3 O O O O ?_;refine⟨(at2++[(nm 97 at2.length,px)],l++[(at2.length:Int)],c-1,sNk L k3),OV [0,1,9,3,4,7] ⟨O,O,O,O,O,O,by simp;rfl,O,TB⟩ ⟨O,O,by simp;rfl,by rw[mN];rfl,O,O,by rw[eI];rfl,TB⟩ O O Tw O,⟨y7 hmid Ts hpx,by simp only[Ph,PI];omega,Tz,fM hk3⟩,?_⟩;simp only[Ph,PI];omega
    ·refine AW.exit ?_;refine AW.cut (st:=fun l:List Int=>mkS [(0,.ptr big 0),(1,pIi most),(4,.ptr 0 0),(5,.ptr 1 0),(6,pIi nn),(7,pIi k),(8,.pv (ai l))] [(big,tG L k3),(0,K3),(1,MR at2.length rs.length 0 (-1)),(2,.gro 162 (aB at2)),(3,.gro 74 (aJ rs)),(4,.gro 164 [])] 5) (I:=fun l=>Hc at' at2 l most) ?_ ?_
     ·refine Z3 O O O O ?_;have hfin:l.length=0->most<=at2.length:=Ts;refine AW.cond O (fun hc=>?_) (fun hc=>?_)
      ·have hl0':l=[]:=PF (by simpa using hc);subst hl0';have hf:=hfin O;exact Gr O<|Rs 75 O O (ak none Tw vL O Tu Tu O O)<|A1 O<|⟨[0],OU (aS O) (aO O) O O,⟨hmid.1,hmid.2.1,hmid.2.2.1,⟨Tw,Tx⟩,fun a h1 h2=>absurd (hmid.2.2.2.2 a h1 h2) Tw⟩,Tw,Ts⟩
      ·have hne:l≠[]:=fun e=>by subst e;simp at hc
       have hpos:0<l.length:=Qe.2 hne;exact OR<|⟨l,St.le.trans (OX 5 O O) (OU ⟨O,O,O,O,O,O,by simp[ai];rfl,TB⟩ (aO O) O O),hmid,hne,Ts⟩
     ·intro l2 hend;refine Ge O follows [0,1,2,3,4,5,6,7,8,9] Tt ?_;iterate 3 refine D1 O O ?_
      refine Ds 79 [] O O O (fun τ h=>aa call79 (eV ⟨#[114]⟩ k Tu Ts) (h.aL O)) O Tt ?_;iterate 6 refine D1 O O ?_
      refine⟨Tt,?_⟩;refine Z3 O O O O ?_;refine⟨(k+1,at2,rs++[(nm 114 k,l2)],k3),OV [0,1,2,6,4] (aT O) ⟨O,O,by simp;rfl,O,by rw[kJ];rfl,O,TB⟩ O O Tw O,⟨Tz,mZ hhead hend,hk3⟩,Tz⟩
   ·by_cases hl0:l.length=0
    ·refine Z1 O O<|Rs 38 O O (XJ.cast (v':= .pv (.bool false)) (aG O O O) Tx)<|Y3 O O O<|Rg 42 O O O (XJ.cast (v':= .pv (.bool true)) (aG O O O) (by simp[hl0])) ?_;iterate 8 refine A1 O ?_
     refine AW.jm O (fun hc=>?_) (fun hc=>?_)
     ·refine OR<|Gr O ?_;iterate 7 refine A1 O ?_
      refine Ge O follows [0,1,2,3,4,5,6,7,8,9,10,11,12,13] Tt ?_;iterate 5 refine D1 O O ?_
      refine Ds 64 [] O O O (fun τ h=>aa call79 (eV ⟨#[97]⟩ at2.length Tu Ts) (h.aL O)) O Tt<|D1 O O<|Ds 66 [] O O O (fun τ h=>ak none Tw vL O Tu Tu (h.Cc O O) O) O Tt<|Ds 67 [_] O O O (fun τ h=>bN call80 hpick (h.args.trans O) (Eo h 0 O O)) O Tt ?_;iterate 5 refine D1 O O ?_
      refine⟨Tt,?_⟩;refine Z3 O O O O ?_;refine⟨(at2++[(nm 97 at2.length,px)],l++[(at2.length:Int)],c-1,sNk L k3),OV [0,1,9,3,4,7] ⟨O,O,O,O,O,O,by simp;rfl,O,TB⟩ ⟨O,O,by simp;rfl,by rw[mN];rfl,O,O,by rw[eI];rfl,TB⟩ O O Tw O,⟨y7 hmid Ts hpx,by simp only[Ph,PI];omega,Tz,fM hk3⟩,?_⟩;simp only[Ph,PI];omega
     ·refine AW.exit ?_;refine AW.cut (st:=fun l:List Int=>mkS [(0,.ptr big 0),(1,pIi most),(4,.ptr 0 0),(5,.ptr 1 0),(6,pIi nn),(7,pIi k),(8,.pv (ai l))] [(big,tG L k3),(0,K3),(1,MR at2.length rs.length 0 (-1)),(2,.gro 162 (aB at2)),(3,.gro 74 (aJ rs)),(4,.gro 164 [])] 5) (I:=fun l=>Hc at' at2 l most) ?_ ?_
      ·refine Z3 O O O O ?_;have hfin:l.length=0->most<=at2.length:=Ts;refine AW.cond O (fun hc=>?_) (fun hc=>?_)
       ·have hl0':l=[]:=PF (by simpa using hc);subst hl0';have hf:=hfin O;exact Gr O<|Rs 75 O O (ak none Tw vL O Tu Tu O O)<|A1 O<|⟨[0],OU (aS O) (aO O) O O,⟨hmid.1,hmid.2.1,hmid.2.2.1,⟨Tw,Tx⟩,fun a h1 h2=>absurd (hmid.2.2.2.2 a h1 h2) Tw⟩,Tw,Ts⟩
       ·have hne:l≠[]:=fun e=>by subst e;simp at hc
        have hpos:0<l.length:=Qe.2 hne;exact OR<|⟨l,St.le.trans (OX 5 O O) (OU ⟨O,O,O,O,O,O,by simp[ai];rfl,TB⟩ (aO O) O O),hmid,hne,Ts⟩
      ·intro l2 hend;refine Ge O follows [0,1,2,3,4,5,6,7,8,9] Tt ?_;iterate 3 refine D1 O O ?_
       refine Ds 79 [] O O O (fun τ h=>aa call79 (eV ⟨#[114]⟩ k Tu Ts) (h.aL O)) O Tt ?_;iterate 6 refine D1 O O ?_
       refine⟨Tt,?_⟩;refine Z3 O O O O ?_;refine⟨(k+1,at2,rs++[(nm 114 k,l2)],k3),OV [0,1,2,6,4] (aT O) ⟨O,O,by simp;rfl,O,by rw[kJ];rfl,O,TB⟩ O O Tw O,⟨Tz,mZ hhead hend,hk3⟩,Tz⟩
    ·have hlb:((l.length:Int)==0)=false:=by rw[Ql];omega
     refine Z1 O O<|Rs 38 O O (XJ.cast (v':= .pv (.bool false)) (aG O O O) Tx)<|Y3 O O O<|Rg 42 O O O (XJ.cast (v':= .pv (.bool false)) (aG O O O) (by rw[hlb])) ?_;iterate 8 refine A1 O ?_
     refine AW.cond O (fun hc=>absurd hc Tw) (fun hc=>?_);refine AW.exit ?_;refine AW.cut (st:=fun l:List Int=>mkS [(0,.ptr big 0),(1,pIi most),(4,.ptr 0 0),(5,.ptr 1 0),(6,pIi nn),(7,pIi k),(8,.pv (ai l))] [(big,tG L k3),(0,K3),(1,MR at2.length rs.length 0 (-1)),(2,.gro 162 (aB at2)),(3,.gro 74 (aJ rs)),(4,.gro 164 [])] 5) (I:=fun l=>Hc at' at2 l most) ?_ ?_
     ·refine Z3 O O O O ?_;have hfin:l.length=0->most<=at2.length:=Ts;refine AW.cond O (fun hc=>?_) (fun hc=>?_)
      ·have hl0':l=[]:=PF (by simpa using hc);subst hl0';have hf:=hfin O;exact Gr O<|Rs 75 O O (ak none Tw vL O Tu Tu O O)<|A1 O<|⟨[0],OU (aS O) (aO O) O O,⟨hmid.1,hmid.2.1,hmid.2.2.1,⟨Tw,Tx⟩,fun a h1 h2=>absurd (hmid.2.2.2.2 a h1 h2) Tw⟩,Tw,Ts⟩
      ·have hne:l≠[]:=fun e=>by subst e;simp at hc
       have hpos:0<l.length:=Qe.2 hne;exact OR<|⟨l,St.le.trans (OX 5 O O) (OU ⟨O,O,O,O,O,O,by simp[ai];rfl,TB⟩ (aO O) O O),hmid,hne,Ts⟩
     ·intro l2 hend;refine Ge O follows [0,1,2,3,4,5,6,7,8,9] Tt ?_;iterate 3 refine D1 O O ?_
      refine Ds 79 [] O O O (fun τ h=>aa call79 (eV ⟨#[114]⟩ k Tu Ts) (h.aL O)) O Tt ?_;iterate 6 refine D1 O O ?_
      refine⟨Tt,?_⟩;refine Z3 O O O O ?_;refine⟨(k+1,at2,rs++[(nm 114 k,l2)],k3),OV [0,1,2,6,4] (aT O) ⟨O,O,by simp;rfl,O,by rw[kJ];rfl,O,TB⟩ O O Tw O,⟨Tz,mZ hhead hend,hk3⟩,Tz⟩
 ·obtain rfl:k=nn:=Ts;have ha1:1<=at'.length:=hhead.2.2.2.2.2 Ts;refine AW.exit<|OT (OX 2 O O)<|OT (OX 3 O O)<|Z4 O O O O O<|AW.block ?_;refine AW.loop (st:=fun x:Nat×List (Int×Int×Int)×Int×Nat=>mkS [(0,.ptr big 0),(4,.ptr 0 0),(5,.ptr 1 0),(86,.pv (.sl none at'.length (aB at'))),(87,pIi at'.length),(88,pIi x.1)] [(big,tG L x.2.2.2),(0,K3),(1,.mix 30 [.pv (.sl none at'.length (aB at')),.pv (.sl none rs.length (aJ rs)),.gsl 2 3 x.2.1.length,pIi x.2.2.1]),(2,.gro 164 (aC x.2.1))] 3)
   (I:=fun x=>x.1<=at'.length/\fx at' x.2.1 x.2.2.1 x.1/\x.2.2.2<=L.length) (μ:=fun x=>at'.length-x.1) (x0:=(0,[], -1,k2)) (OV [0,1,4] (aT O) (aP O) O O Tw O) ⟨cd _,⟨Tw,Tw,.inl O⟩,hk2⟩ ?_
  rintro⟨j,fs,lb,k3⟩ ⟨hj,hfs,hk3⟩;simp only at hj hfs hk3 ⊢;have hFl:=fP fs;have hfl:=eu hfs;have hlb:=pK hfs;refine Z1 O O ?_;refine Gp O O (fun hc=>?_) (fun hc=>?_)
  ·have hjl:j<at'.length:=Ts;have hne:aB at'≠[]:=fun e=>by rw[e]at hAl;simp at hAl;omega
   have hrow:((aB at').drop (j*2)).take 2=[.str at'[j].1,.int .i64 at'[j].2]:=cm _ 2 (fun _=>rfl) at' j hjl;have hgd:(at'.getD j default).2=at'[j].2:=by simp[List.getD,hjl]
   refine OR<|Z2 O O O<|Rs 92 O O (aR ⟨_,underlying162,O⟩ kT O hrow O)<|Y3 O O O<|AW.block ?_;generalize at'[j].2=K at hgd ⊢;generalize at'[j].1=nme;by_cases hK:K=2
   ·subst hK;by_cases hl0:lb<0
    ·refine Z2 O O O<|Rs 96 O O (XJ.cast (v':= .pv (.bool true)) (aG O O O) Tw)<|Y3 O O O<|Rg 100 O O O (XJ.cast (v':= .pv (.bool true)) (aG O O O) Tx)<|Y3 O O O<|Rg 104 O O O (bN call12 (fk L k3 2 hL hk3 Ts Ts) O O)<|Y3 O O O ?_;have hk4:=fM hk3;generalize sNk L k3=k4 at hk4 ⊢;refine AW.cond O (fun hc=>?_) (fun hc=>?_)
     ·exact Z3 O O O O<|Z2 O O O<|⟨(j+1,fs,(j:Int),k4),OU (aS O) (aO O) O O,⟨Tz,rA hfs hgd,hk4⟩,Tz⟩
     ·refine Z2 O O O<|Rs 112 O O (XJ.cast (v':= .pv (.bool true)) (aG O O O) Tw)<|Y2 O O<|Rg 115 O O O (bN call12 (fk L k4 4 hL hk4 Ts Ts) O O)<|Y3 O O O ?_;have hk5:=fM hk4;generalize sNk L k4=k5 at hk5 ⊢;refine AW.jm O (fun hc=>?_) (fun hc=>?_)
      ·have hnb:=gY L k5 2 Ts;refine Ge O follows [0,1,2,3,4,5,6,7,8,9] Tt ?_;iterate 4 refine D1 O O ?_
       refine Ds 122 [_] O O O (fun τ h=>bN call12 (fk L k5 2 hL hk5 Ts Ts) (h.args.trans O) (Eo h 0 O O)) O Tt ?_;iterate 5 refine D1 O O ?_
       refine⟨Tt,?_⟩;exact Z2 O O O<|⟨(j+1,fs++[((j:Int),1,sNv L k5 2)],lb,sNk L k5),OV [0,1,5] (aT O) ⟨O,O,by simp only[Ph,PI];rfl,ag (fun c=>some (Ob.gro 164 c)) (js fs ((j:Int),1,sNv L k5 2)).symm,TB⟩ O O Tw O,⟨Tz,iv hfs Ts (.inl ⟨O,hgd,Ts⟩),fM hk5⟩,Tz⟩
      ·refine Z2 O O O<|Rs 130 O O (XJ.cast (v':= .pv (.bool false)) (aG O O O) Tw) ?_;iterate 6 refine A1 O ?_
       refine AW.cond O (fun hc=>absurd hc Tw) (fun hc=>?_);exact OR<|Z2 O O O<|⟨(j+1,fs,lb,k5),OU (aS O) (aO O) O O,⟨Tz,cO hfs,hk5⟩,Tz⟩
    ·refine Z2 O O O<|Rs 96 O O (XJ.cast (v':= .pv (.bool true)) (aG O O O) Tw)<|Y3 O O O<|Rg 100 O O O (XJ.cast (v':= .pv (.bool false)) (aG O O O) Tx) ?_;iterate 7 refine A1 O ?_
     refine AW.cond O (fun hc=>absurd hc Tw) (fun hc=>?_);refine Z2 O O O<|Rs 112 O O (XJ.cast (v':= .pv (.bool true)) (aG O O O) Tw)<|Y2 O O<|Rg 115 O O O (bN call12 (fk L k3 4 hL hk3 Ts Ts) O O)<|Y3 O O O ?_;have hk5:=fM hk3;generalize sNk L k3=k5 at hk5 ⊢;refine AW.jm O (fun hc=>?_) (fun hc=>?_)
     ·have hnb:=gY L k5 2 Ts;refine Ge O follows [0,1,2,3,4,5,6,7,8,9] Tt ?_;iterate 4 refine D1 O O ?_
      refine Ds 122 [_] O O O (fun τ h=>bN call12 (fk L k5 2 hL hk5 Ts Ts) (h.args.trans O) (Eo h 0 O O)) O Tt ?_;iterate 5 refine D1 O O ?_
      refine⟨Tt,?_⟩;exact Z2 O O O<|⟨(j+1,fs++[((j:Int),1,sNv L k5 2)],lb,sNk L k5),OV [0,1,5] (aT O) ⟨O,O,by simp only[Ph,PI];rfl,ag (fun c=>some (Ob.gro 164 c)) (js fs ((j:Int),1,sNv L k5 2)).symm,TB⟩ O O Tw O,⟨Tz,iv hfs Ts (.inl ⟨O,hgd,Ts⟩),fM hk5⟩,Tz⟩
     ·refine Z2 O O O<|Rs 130 O O (XJ.cast (v':= .pv (.bool false)) (aG O O O) Tw) ?_;iterate 6 refine A1 O ?_
      refine AW.cond O (fun hc=>absurd hc Tw) (fun hc=>?_);exact OR<|Z2 O O O<|⟨(j+1,fs,lb,k5),OU (aS O) (aO O) O O,⟨Tz,cO hfs,hk5⟩,Tz⟩
   ·have hKb:(K==2)=false:=by simpa using hK
    refine Z2 O O O<|Rs 96 O O (XJ.cast (v':= .pv (.bool false)) (aG O O O) (by rw[hKb])) ?_;iterate 11 refine A1 O ?_
    refine AW.cond O (fun hc=>absurd hc Tw) (fun hc=>?_);refine Z2 O O O<|Rs 112 O O (XJ.cast (v':= .pv (.bool false)) (aG O O O) (by rw[hKb])) ?_;iterate 6 refine A1 O ?_
    refine AW.cond O (fun hc=>absurd hc Tw) (fun hc=>?_);by_cases hK3:K=3
    ·subst hK3;refine Z2 O O O<|Rs 130 O O (XJ.cast (v':= .pv (.bool true)) (aG O O O) Tw)<|Y2 O O<|Rg 133 O O O (bN call12 (fk L k3 4 hL hk3 Ts Ts) O O)<|Y3 O O O ?_;refine AW.jm O (fun hc=>?_) (fun hc=>?_)
     ·refine Gr O ?_;iterate 8 refine A1 O ?_
      exact Z2 O O O<|⟨(j+1,fs++[((j:Int),2,0)],lb,sNk L k3),OV [0,1,5] (aT O) ⟨O,O,by simp only[Ph,PI];rfl,ag (fun c=>some (Ob.gro 164 c)) (js fs ((j:Int),2,0)).symm,TB⟩ O O Tw O,⟨Tz,iv hfs Ts (.inr ⟨O,hgd,O⟩),fM hk3⟩,Tz⟩
     ·exact OR<|Z2 O O O<|⟨(j+1,fs,lb,sNk L k3),OU (aS O) (aO O) O O,⟨Tz,cO hfs,fM hk3⟩,Tz⟩
    ·have hKb3:(K==3)=false:=by simpa using hK3
     refine Z2 O O O<|Rs 130 O O (XJ.cast (v':= .pv (.bool false)) (aG O O O) (by rw[hKb3])) ?_;iterate 6 refine A1 O ?_
     refine AW.cond O (fun hc=>absurd hc Tw) (fun hc=>?_);exact OR<|Z2 O O O<|⟨(j+1,fs,lb,k3),OU (aS O) (aO O) O O,⟨Tz,cO hfs,hk3⟩,Tz⟩
  ·obtain rfl:j=at'.length:=Ts;refine AW.exit<|Z4 O O O O O ?_;refine AW.jm O (fun hc=>absurd hc Ts) (fun hc=>?_);exact OR<|OT (OX 2 O O)<|Z2 O O O<|AW.ret<|⟨0,_,schC ⟨at',rs,fs,lb⟩,gx L k3,O,O,O,O,O,⟨⟨at',rs,fs,lb⟩,⟨ha1,hal,Tz,Tz,hhead.1,hhead.2.1,hhead.2.2.1,hfs⟩,O⟩,k3,hk3,O⟩
end
theorem ibT{a b:Int}(h:(a==b)=true):a=b:=Rk.1 h
theorem ibF{a b:Int}(h:(a==b)=false):¬a=b:=fun e=>by rw[Rk.2 e]at h;cases h
theorem inT{a b:Int}(h:(a !=b)=true):¬a=b:=bne_iff_ne.1 h
theorem inF{a b:Int}(h:(a !=b)=false):a=b:=by
 by_cases e:a=b
 ·exact e
 ·rw[bne_iff_ne.2 e]at h;cases h
theorem FX(l:List Int)(x:Int)(hl:l.length<=1000000000):FnP prog 185 [ai l,.int .i64 x] (fun v=>∃i:Int,v= .int .i64 i/\(0<=i↔x∈l)/\ -1<=i/\i<1000000001):=by
 refine FnP.of func185 O ntmps185 Tw fun m0 w0 F R0=>?_
 refine Z1 O O<|Z3 O O O O ?_;refine Gl O (st:=fun TC:Nat=>mkS [(0,.pv (ai l)),(1,pIi x),(7,pIi l.length),(8,pIi TC)] [] 0)
  (I:=fun TC=>TC<=l.length/\¬x∈l.take TC) (μ:=fun TC=>l.length-TC) (x0:=(0)) (OU (aS O) trivial O O) Tw ?_
 rintro k ⟨hk,hno⟩;refine Z1 O O ?_;refine Gp O O (fun hc9=>?_) (fun hc9=>?_)
 ·have hlt:k<l.length:=Ts;have hv:=aQ hlt;have hne:=aE hlt;refine OR<|Z2 O O O<|Z4 O O O O O ?_;first|refine A2 O Tv ?_|refine A1 O ?_
  refine A1 O ?_;refine Gc O O (fun hc16=>?_) (fun hc16=>?_)
  ·have hx:l[k]=x:=(ibT hc16).symm;exact Z2 O O O<|Gt O<|⟨_,_,O,O,_,O,⟨fun _=>hx▸ar hlt,fun _=>by omega⟩,Ts,Ts⟩
  ·exact OR<|Z2 O O O<|⟨(k+1),OU (aS O) trivial O O,⟨Ts,ft hlt hno (fun e=>ibF hc16 e.symm)⟩,Ts⟩
 ·exact Gx O<|Z1 O O<|Gt O<|⟨_,_,O,O,_,O,⟨fun h=>absurd h Tu,fun h=>absurd (by rwa [aX Ts]) hno⟩,Ts,Ts⟩
theorem r4(l:List Int)(x:Int)(hl:l.length<=1000000000):FnP prog 321 [ai l,.int .i64 x] (· = .bool (decide (x∈l))):=by
 refine FnP.of func321 O ntmps321 Tw fun m0 w0 F R0=>?_
 refine Z1 O O<|Z2 O O O ?_;refine RL.call O (jz call185 (FX l x hl) O ?_);rintro _ ⟨i,rfl,hi,_,_⟩;exact Y2 O O<|Gt O<|⟨_,_,O,O,ag PV.bool (Tj.2 hi)⟩
section
open Mk
abbrev bO(l:List ByteArray):List PV:=l.map .str
abbrev aZ(l:List ByteArray):PV:= .sl none l.length (bO l)
theorem bz{l:List ByteArray}{k:Nat}(h:k<l.length):(bO l)[k*1]? =some (.str l[k]):=by simp[h]
theorem bA{l:List ByteArray}{k:Nat}(h:k<l.length):bO l≠[]:=by intro e;simp at e;subst e;simp at h
theorem fp{α:Type}{l:List α}{k:Nat}{x:α}(hk:k<l.length)(h:¬x∈l.take k)(hne:¬l[k]=x):¬x∈l.take (k+1):=by
 rw[AI hk];simp only[Pq,OF];rintro(h'|h')
 ·exact h h'
 ·exact hne h'.symm
theorem bytes_inj{a b:ByteArray}(h:a.toList=b.toList):a=b:=by
 rw[ByteArray.toList_eq,ByteArray.toList_eq]at h;exact ByteArray.ext (Array.toList_inj.1 h)
theorem baT{a b:ByteArray}(h:(a.toList==b.toList)=true):a=b:=bytes_inj (Rk.1 h)
theorem baF{a b:ByteArray}(h:(a.toList==b.toList)=false):¬a=b:=by
 rintro rfl;simp at h
theorem CJ(l:List ByteArray)(x:ByteArray)(hl:l.length<=1000000000):FnP prog 409 [aZ l,.str x] (fun v=>∃i:Int,v= .int .i64 i/\(0<=i↔x∈l)/\ -1<=i/\i<1000000001):=by
 refine FnP.of func409 O ntmps409 Tw fun m0 w0 F R0=>?_
 refine Z1 O O<|Z3 O O O O ?_;refine Gl O (st:=fun TC:Nat=>mkS [(0,.pv (aZ l)),(1,.pv (.str x)),(7,pIi l.length),(8,pIi TC)] [] 0)
  (I:=fun TC=>TC<=l.length/\¬x∈l.take TC) (μ:=fun TC=>l.length-TC) (x0:=(0)) (OU (aS O) trivial O O) Tw ?_
 rintro k ⟨hk,hno⟩;refine Z1 O O ?_;refine Gp O O (fun hc9=>?_) (fun hc9=>?_)
 ·have hlt:k<l.length:=Ts;have hv:=bz hlt;have hne:=bA hlt;refine OR<|Z2 O O O<|Z4 O O O O O ?_;first|refine A2 O Tv ?_|refine A1 O ?_
  refine A1 O ?_;refine Gc O O (fun hc16=>?_) (fun hc16=>?_)
  ·have hx:l[k]=x:=(baT hc16).symm;exact Z2 O O O<|Gt O<|⟨_,_,O,O,_,O,⟨fun _=>hx▸ar hlt,fun _=>by omega⟩,Ts,Ts⟩
  ·exact OR<|Z2 O O O<|⟨(k+1),OU (aS O) trivial O O,⟨Ts,fp hlt hno (fun e=>baF hc16 e.symm)⟩,Ts⟩
 ·exact Gx O<|Z1 O O<|Gt O<|⟨_,_,O,O,_,O,⟨fun h=>absurd h Tu,fun h=>absurd (by rwa [aX Ts]) hno⟩,Ts,Ts⟩
theorem oV(l:List ByteArray)(x:ByteArray)(hl:l.length<=1000000000):FnP prog 373 [aZ l,.str x] (· = .bool (hasB l x)):=by
 refine FnP.of func373 O ntmps373 Tw fun m0 w0 F R0=>?_
 refine Z1 O O<|Z2 O O O ?_;refine RL.call O (jz call409 (CJ l x hl) O ?_);rintro _ ⟨i,rfl,hi,_,_⟩;exact Y2 O O<|Gt O<|⟨_,_,O,O,ag PV.bool (Tj.2 hi)⟩
abbrev bZ(l:List Bool):List PV:=l.map .bool
abbrev jX(l:List Bool):PV:= .sl none l.length (bZ l)
theorem EU{l:List Bool}{k:Nat}(h:k<l.length):(bZ l)[k*1]? =some (.bool l[k]):=by simp[h]
theorem uF{l:List Bool}{k:Nat}(h:k<l.length):bZ l≠[]:=by intro e;simp at e;subst e;simp at h
theorem B9(l:List Bool)(x:Bool)(hl:l.length<=1000000000):FnP prog 374 [jX l,.bool x] (fun v=>∃i:Int,v= .int .i64 i/\(0<=i↔x∈l)/\ -1<=i/\i<1000000001):=by
 refine FnP.of func374 O ntmps374 Tw fun m0 w0 F R0=>?_
 refine Z1 O O<|Z3 O O O O ?_;refine Gl O (st:=fun TC:Nat=>mkS [(0,.pv (jX l)),(1,.pv (.bool x)),(7,pIi l.length),(8,pIi TC)] [] 0)
  (I:=fun TC=>TC<=l.length/\¬x∈l.take TC) (μ:=fun TC=>l.length-TC) (x0:=(0)) (OU (aS O) trivial O O) Tw ?_
 rintro k ⟨hk,hno⟩;refine Z1 O O ?_;refine Gp O O (fun hc9=>?_) (fun hc9=>?_)
 ·have hlt:k<l.length:=Ts;have hv:=EU hlt;have hne:=uF hlt;refine OR<|Z2 O O O<|Z4 O O O O O ?_;first|refine A2 O Tv ?_|refine A1 O ?_
  refine A1 O ?_;refine Gc O O (fun hc16=>?_) (fun hc16=>?_)
  ·have hx:l[k]=x:=(Rk.1 hc16).symm;exact Z2 O O O<|Gt O<|⟨_,_,O,O,_,O,⟨fun _=>hx▸ar hlt,fun _=>by omega⟩,Ts,Ts⟩
  ·exact OR<|Z2 O O O<|⟨(k+1),OU (aS O) trivial O O,⟨Ts,fp hlt hno (fun e=>Ql.1 hc16 e.symm)⟩,Ts⟩
 ·exact Gx O<|Z1 O O<|Gt O<|⟨_,_,O,O,_,O,⟨fun h=>absurd h Tu,fun h=>absurd (by rwa [aX Ts]) hno⟩,Ts,Ts⟩
theorem oS(l:List Bool)(x:Bool)(hl:l.length<=1000000000):FnP prog 318 [jX l,.bool x] (· = .bool (decide (x∈l))):=by
 refine FnP.of func318 O ntmps318 Tw fun m0 w0 F R0=>?_
 refine Z1 O O<|Z2 O O O ?_;refine RL.call O (jz call374 (B9 l x hl) O ?_);rintro _ ⟨i,rfl,hi,_,_⟩;exact Y2 O O<|Gt O<|⟨_,_,O,O,ag PV.bool (Tj.2 hi)⟩
theorem sH{l:List UInt8}{k:Nat}(h:k<l.length):(aN l)[k*1]? =some (.int .u8 (l[k].toNat:Int)):=by simp[aN,h]
theorem tF{l:List UInt8}{k:Nat}(h:k<l.length):aN l≠[]:=by intro e;simp[aN]at e;subst e;simp at h
def Ck(k:Nat)(c:UInt8):Bool:= !(decide ((97:Int)<=c.toNat)&&decide ((c.toNat:Int)<=122))&&(((k:Int)==0)||(((c.toNat:Int) !=45)&&(decide ((c.toNat:Int)<48)||decide ((57:Int)<c.toNat))))
theorem ye(k:Nat)(c:UInt8):Ck k c= !o7 k c.toNat:=by
 unfold Ck o7;generalize c.toNat=n;have h1:((k:Int)==0)= !decide (k≠0):=by
  by_cases h:k=0
  ·subst h;rfl
  ·have:((k:Int)==0)=false:=by rw[Ql];omega
   rw[this];simp[h]
 have h2:((n:Int) !=45)= !(n==45):=by
  by_cases h:n=45
  ·subst h;rfl
  ·have h3:(n:Int)≠45:=Ts;rw[bne_iff_ne.2 h3,Ql.2 h];rfl
 have h3:(decide ((97:Int)<=n)&&decide ((n:Int)<=122))=decide (97<=n/\n<=122):=by
  rw[PA];simp;omega
 have h4:(decide ((n:Int)<48)||decide ((57:Int)<n))= !decide (48<=n/\n<=57):=by
  rw[PA];simp;omega
 rw[h1,h2,h3,h4];cases decide (97<=n/\n<=122)<;>cases decide (k≠0)<;>cases (n==45)<;>cases decide (48<=n/\n<=57)<;>rfl
theorem TE{p:Prop}(h:p:=by first|exact ah.le|exact ah.aw|exact O0):p:=h
theorem tq(s:ByteArray)(hs:s.size<=9223372036854775807):FnP prog 267 [.str s] (· = .bool (fI s)):=by
 refine FnP.of func267 O ntmps267 Tw fun m0 w0 F R0=>?_
 have hsz:s.data.toList.length=s.size:=Px;refine Z1 O O<|Z4 O O O O O ?_;refine Gl O (st:=fun TC:Nat=>mkS [(0,.pv (.str s)),(7,.pv (.sl (some false) s.data.toList.length (aN s.data.toList))),(8,pIi s.data.toList.length),(9,pIi TC)] [] 0)
  (I:=fun TC=>TC<=s.data.toList.length/\∀j,j<TC->o7 j (s.data.toList.getD j 0).toNat=true) (μ:=fun TC=>s.data.toList.length-TC) (x0:=(0)) (OU (aS O) trivial O O) (⟨cd _,fun j hj=>absurd hj (RJ _)⟩) ?_
 rintro k ⟨hk,hall⟩;refine Z1 O O ?_;refine Gp O O (fun hc10=>?_) (fun hc10=>?_)
 ·have hlt:k<s.data.toList.length:=Ts;have hv:=sH hlt;have hne:=tF hlt;have hgd:s.data.toList.getD k 0=s.data.toList[k]:=by rw[Pk,By hlt];rfl
  refine OR<|Z2 O O O ?_;first|refine A2 O Tv ?_|refine A1 O ?_
  refine Y2 O O ?_;generalize s.data.toList[k]=c at hgd ⊢;refine Z3 O O O O ?_;apply O3 3 16 19 [17,18] O TE
  ·intro hb2;exact Y3 O O O<|OW TD O O O
  ·intro hb2;exact Y3 O O O<|OW TD O O O
  refine A1 O<|Z3 O O O O ?_;apply O3 15 22 37 [23,24,25,26,27,28,29,30,31,32,33,34,35,36] O TE
  ·intro hb2;refine Y3 O O O ?_;apply O2 11 25 36 [26,27,28,29,30,31,32,33,34,35] O TE
   ·intro hb5;iterate 11 refine A1 O ?_
    exact OW TD O O O
   ·intro hb5;refine Y3 O O O ?_;apply O3 7 28 35 [29,30,31,32,33,34] O TE
    ·intro hb8;refine Y3 O O O ?_;apply O2 3 31 34 [32,33] O TE
     ·intro hb11;exact Y3 O O O<|OW TD O O O
     ·intro hb11;exact Y3 O O O<|OW TD O O O
     exact A1 O<|OW TD O O O
    ·intro hb8;iterate 7 refine A1 O ?_
     exact OW TD O O O
    exact A1 O<|OW TD O O O
   exact A1 O<|OW TD O O O
  ·intro hb2;iterate 15 refine A1 O ?_
   exact OW TD O O O
  have hw:_=true\/_=false:=Bool.eq_false_or_eq_true (Ck k c);refine Gc O O (fun hc37=>?_) (fun hc37=>?_)
  ·have hc:Ck k c=true:=hc37;exact Z1 O O<|Gt O<|⟨_,_,O,O,ag PV.bool (vY s k Ts (by rw[hgd];rw[ye]at hc;simpa using hc)).symm⟩
  ·have hc:Ck k c=false:=hc37;exact OR<|Z2 O O O<|⟨(k+1),OU (aS O) trivial O O,⟨Ts,fun j hj=>by rcases RC.1 hj with h|rfl;exact hall j h;rw[hgd];rw[ye]at hc;simpa using hc⟩,Ts⟩
 ·refine Gx O<|Z4 O O O O O ?_;apply O3 4 42 46 [43,44,45] O TE
  ·intro hb3;iterate 4 refine A1 O ?_
   exact OW TD O O O
  ·intro hb3;iterate 4 refine A1 O ?_
   exact OW TD O O O
  exact A1 O<|Gt O<|⟨_,_,O,O,ag PV.bool (by rw[ya s (fun j hj=>hall j Ts)];rw[PA];simp;omega)⟩
end
def val:List Nat->Nat
 |[]=>0
 |a::l=>a+1000000000*val l
def aj(n:Nat):List Nat:=if n=0 then []else n%1000000000::aj (n/1000000000)
termination_by n
decreasing_by omega
def Lok(l:List Nat):Prop:=∀a∈l,a<1000000000
theorem bg:aj 0=[]:=by rw[aj];rfl
theorem dB{n:Nat}(h:n≠0):aj n=n%1000000000::aj (n/1000000000):=by
 conv=>lhs;rw[aj]
 rw[dw h]
theorem bD(n:Nat):val (aj n)=n:=by
 induction n using Nat.strongRecOn with
 | ind n ih=>
   by_cases h:n=0
   ·subst h;rw[bg];rfl
   ·rw[dB h,val,ih _ Ts];omega
theorem du(n:Nat):Lok (aj n):=by
 induction n using Nat.strongRecOn with
 | ind n ih=>
   by_cases h:n=0
   ·subst h;rw[bg];intro a ha;simp at ha
   ·rw[dB h];intro a ha;rcases AS.1 ha with rfl|ha
    ·exact Rb _ Tu
    ·exact ih _ Ts a ha
theorem Lok.cons{a:Nat}{l:List Nat}(h:Lok (a::l)):a<1000000000/\Lok l:=⟨h a Tw,fun b hb=>h b (by simp[hb])⟩
theorem Lok.at{l:List Nat}(h:Lok l)(i:Nat):l.getD i 0<1000000000:=by
 by_cases hi:i<l.length
 ·simp only[List.getD,By hi,Sc];exact h _ (ar hi)
 ·simp[List.getD,Qg (Nat.le_of_not_lt hi)]
theorem Lok.take{l:List Nat}(h:Lok l)(k:Nat):Lok (l.take k):=fun a ha=>h a (S0 ha)
theorem Lok.set{l:List Nat}(h:Lok l){k x:Nat}(hx:x<1000000000):Lok (l.set k x):=fun a ha=>by
 rcases RR ha with e|e
 ·exact h a e
 ·rw[e];exact hx
theorem Lok.append{l r:List Nat}(h:Lok l)(h2:Lok r):Lok (l++r):=fun a ha=>(Pq.1 ha).elim (h a) (h2 a)
theorem Lok.replicate(k:Nat):Lok (List.replicate k 0):=fun a ha=>by rw[List.eq_of_mem_replicate ha];decide
theorem gu(l r:List Nat):val (l++r)=val l+1000000000^l.length*val r:=by
 induction l with
 |nil=>simp[val]
 |cons a l ih=>rw[Qq,val,val,ih,Pd,Rq,RF,<-Q6,Q4 (1000000000^l.length) 1000000000,Nat.add_assoc]
theorem nP(l:List Nat)(k:Nat):val l=val (l.take k)+1000000000^(min k l.length)*val (l.drop k):=by
 conv=>lhs;rw[<-PK k l]
 rw[gu,Pj]
theorem BA{l:List Nat}(h:Lok l):val l<1000000000^l.length:=by
 induction l with
 |nil=>simp[val]
 | cons a l ih=>
   have h1:=h.cons;have h2:=ih h1.2;rw[val,Pd,Rq];have:val l+1<=1000000000^l.length:=h2;have:=P8 1000000000 this;rw[Q4 (1000000000^l.length)];omega
theorem val_zero{l:List Nat}(h:∀i,l.getD i 0=0):val l=0:=by
 induction l with
 |nil=>rfl
 | cons a l ih=>
   have h0:=h 0;simp at h0;rw[val,ih (fun i=>by simpa using h (i+1)),h0]
theorem pW{l:List Nat}(h:Lok l):∀{n:Nat},n<=l.length->(∀i,n<=i->l.getD i 0=0)->(n=0\/l.getD (n-1) 0≠0)->aj (val l)=l.take n:=by
 induction l with
 |nil=>intro n _ _ _;simp[val,bg]
 | cons a l ih=>
   intro n hn hz hl;cases n with
   | zero=>
     have:val (a::l)=0:=val_zero fun i=>hz i (cd _)
     rw[this,bg];rfl
   | succ n=>
     have h1:=h.cons;have e:=ih h1.2 (n:=n) (by simpa using hn) (fun i hi=>by simpa using hz (i+1) Ts) (by
      rcases Qj n with e|e
      ·exact .inl e
      ·right
       rcases hl with hl|hl
       ·omega
       ·rw[Nat.add_sub_cancel]at hl;obtain⟨m,rfl⟩:∃m,n=m+1:=⟨n-1,Ts⟩;simpa using hl)
     have hne:val (a::l)≠0:=by
      intro h0;rw[val]at h0;have ha:a=0:=Ts;have hv:val l=0:=Ts;rw[hv,bg]at e;have hlen:=ag List.length e;simp at hlen hn;rcases hl with hl|hl
      ·omega
      ·have hn0:n=0:=Ts;subst hn0;simp at hl;exact hl ha
     rw[dB hne,val,SM];have e1:(a+1000000000*val l)%1000000000=a:=Ts;have e2:(a+1000000000*val l)/1000000000=val l:=Ts;rw[e1,e2,e]
theorem DE{n:Nat}(h:n≠0):(aj n).getD ((aj n).length-1) 0≠0:=by
 induction n using Nat.strongRecOn with
 | ind n ih=>
   rw[dB h];by_cases h2:n/1000000000=0
   ·rw[h2,bg];simp;omega
   ·have:=ih _ Ts h2;have hl:0<(aj (n/1000000000)).length:=by rw[dB h2];simp
    obtain⟨m,hm⟩:∃m,(aj (n/1000000000)).length=m+1:=⟨_,(Nat.succ_pred_eq_of_pos hl).symm⟩;rw[Pd,hm];rw[hm]at this;simpa using this
theorem gh{n:Nat}:(aj n).length=0↔n=0:=by
 constructor
 ·intro h;have:=bD n;rw[PF h]at this;exact this.symm
 ·rintro rfl;rw[bg];rfl
theorem qF(n:Nat):n<1000000000^(aj n).length:=by
 have:=BA (du n);rwa [bD]at this
theorem w9{n:Nat}(h:n≠0):1000000000^((aj n).length-1)<=n:=by
 have hl:(aj n).length≠0:=fun e=>h (gh.1 e)
 have ht:=DE h;have e:=nP (aj n) ((aj n).length-1);rw[bD,Qt Ts]at e;have hd:(aj n).drop ((aj n).length-1)=[(aj n).getD ((aj n).length-1) 0]:=by
  rw[PC Ts,RN Ts];simp[List.getD,show(aj n).length-1<(aj n).length by omega]
 rw[hd]at e;simp only[val,Nat.mul_zero,SC]at e;have:1000000000^((aj n).length-1)*1<=1000000000^((aj n).length-1)*(aj n).getD ((aj n).length-1) 0:=P8 _ Ts;omega
theorem bt{n k:Nat}:(aj n).length<=k↔n<1000000000^k:=by
 constructor
 ·intro h;exact Ps (qF n) (Ro Tu h)
 ·intro h;by_cases h0:n=0
  ·subst h0;rw[bg];simp
  ·apply Nat.le_of_not_lt;intro hk;have h1:=w9 h0;have h2:1000000000^k<=1000000000^((aj n).length-1):=Ro Tu Ts;omega
theorem lQ{a b:Nat}(h:(aj a).length<(aj b).length):a<b:=by
 by_cases h0:b=0
 ·subst h0;rw[bg]at h;simp at h
 ·have h1:=w9 h0;have h2:=qF a;have h3:1000000000^(aj a).length<=1000000000^((aj b).length-1):=Ro Tu Ts;omega
theorem Bx{a b:Nat}(h:aj a=aj b):a=b:=by rw[<-bD a,h,bD]
theorem eU{n:Nat}(h0:n≠0)(h:n<1000000000):aj n=[n]:=by
 rw[dB h0,SP h,Nat.div_eq_of_lt h,bg]
theorem xY{l r:List Nat}(hl:Lok l)(hlen:l.length=r.length){i:Nat}(hi:i<l.length)(hd:l.drop (i+1)=r.drop (i+1))(h:l.getD i 0<r.getD i 0):val l<val r:=by
 have e1:=nP l i;have e2:=nP r i;rw[Qt Ts]at e1 e2;have d1:l.drop i=l.getD i 0::l.drop (i+1):=by rw[PC hi];simp[List.getD,hi]
 have d2:r.drop i=r.getD i 0::r.drop (i+1):=by rw[PC Ts];simp[List.getD,show i<r.length by omega]
 rw[d1,val]at e1;rw[d2,val,<-hd]at e2;have h1:=BA (hl.take i);rw[Pj,Qt Ts]at h1;generalize val (l.drop (i+1))=t at*;generalize l.getD i 0=x at*;generalize r.getD i 0=y at*;generalize 1000000000^i=p at*;have h2:p*(x+1000000000*t)+p<=p*(y+1000000000*t):=by rw[<-Nat.mul_succ];exact P8 _ Ts
 omega
end Go.Proofs.YtoplpepiabedhaaGreatDoor
