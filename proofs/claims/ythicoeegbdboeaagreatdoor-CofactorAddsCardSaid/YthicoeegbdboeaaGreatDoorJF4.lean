/- Lemmas. No condition. -/
import Derived.Test.YthicoeegbdboeaaGreatDoorJF3
set_option maxRecDepth 100000
set_option maxHeartbeats 4000000
open Go.RowKit Go.Proofs.Tryz
open Option renaming some→WB,none→WC
open Bool renaming true→YK,false→YL
namespace Go.Proofs.YthicoeegbdboeaaGreatDoor
variable{p:Prop}{n j k i m most:Nat}{o:Operand}{x b lb a:Int}{y:Code}{X α β:Type}{t:Tmp}{want:Bool}{ρ:Nat->Nat}{rd:ee}{l q:cP}{f:Nat->Int}
theorem VA{α β:Type _}{a c:α}{b d:β}(h:(a,b)=(c,d)):a=c/\b=d:=Prod.mk.inj h
section
abbrev ZI(i:Int):V:=.pv (.int .i64 i)
abbrev Zv:TI:=⟨.other,1,8,WB [.nilfn]⟩
abbrev WA:PV:= .sl (WB YK) 0 []
abbrev VE(n:Nat):TI:=⟨.sl n,1,24,WB [WA]⟩
abbrev VF(n:Nat)(x:TI):TT:= .node n x .nil .nil
def tb:TT:=
 .node 147 Zv (.node 60 ⟨(.st [(0,1),(1,1),(2,1)]),3,24,WB [(.int .i64 0),(.int .i64 0),(.int .i64 0)]⟩ (.node 28 (VE 60) (.node 8 ⟨(.st [(0,1),(1,1),(2,1),(3,1)]),4,24,WB [(.int .i64 0),(.int .i64 0),(.bool YL),(.int .u8 0)]⟩ (.node 4 ⟨.bool,1,1,WB [(.bool YL)]⟩ (.node 2 ⟨(.int .i64),1,8,WB [(.int .i64 0)]⟩ (VF 1 Zv) (VF 3 ⟨(.int .i64),1,8,WB [(.int .i64 0)]⟩)) (.node 6 ⟨(.int .u8),1,1,WB [(.int .u8 0)]⟩ (VF 5 ⟨(.int .u8),1,1,WB [(.int .u8 0)]⟩) (VF 7 ⟨(.st [(0,1),(1,1),(2,1),(3,1)]),4,24,WB [(.int .i64 0),(.int .i64 0),(.bool YL),(.int .u8 0)]⟩))) (.node 22 (VE 3) (.node 20 ⟨.other,1,16,WB [.niliface]⟩ (VF 9 ⟨.str,1,16,WB [(.str ⟨#[]⟩)]⟩) (VF 21 ⟨(.int .i32),1,4,WB [(.int .i32 0)]⟩)) (.node 26 (VE 56) (VF 24 ⟨.other,1,8,WB [.nilptr]⟩) (VF 27 (VE 58))))) (.node 42 ⟨.str,1,16,WB [(.str ⟨#[]⟩)]⟩ (.node 34 (VE 38) (.node 32 ⟨(.st [(0,1)]),1,24,WB [WA]⟩ (VF 30 ⟨(.st [(0,1),(1,1),(2,1),(3,1)]),4,80,WB [WA,WA,WA,(.int .i64 0)]⟩) (VF 33 (VE 38))) (.node 39 (VE 9) (VF 38 (VE 41)) (VF 41 ⟨(.st [(0,1),(1,1)]),2,32,WB [WA,(.int .i64 0)]⟩))) (.node 47 ⟨(.int .i64),1,8,WB [(.int .i64 0)]⟩ (.node 44 (VE 115) (VF 43 (VE 113)) (VF 46 ⟨(.st [(0,1),(1,1),(2,1)]),3,64,WB [(.str ⟨#[]⟩),WA,WA]⟩)) (.node 58 ⟨(.st [(0,1),(1,1)]),2,40,WB [(.str ⟨#[]⟩),WA]⟩ (VF 56 ⟨(.st [(0,1),(1,1)]),2,24,WB [(.str ⟨#[]⟩),(.int .i64 0)]⟩) .nil)))) (.node 98 ⟨.other,1,8,WB [.nilmap]⟩ (.node 84 ⟨(.st [(0,2),(2,2)]),4,64,WB [(.bool YL),WA,(.bool YL),WA]⟩ (.node 66 ⟨(.st [(0,1),(1,1),(2,1)]),3,72,WB [WA,WA,WA]⟩ (.node 63 (VE 64) (VF 61 (VE 111)) (VF 64 (VE 42))) (.node 80 (VE 268) (VF 73 ⟨(.st [(0,1),(1,1)]),2,32,WB [WA,(.int .i64 0)]⟩) (VF 82 ⟨(.st [(0,1),(1,1)]),2,32,WB [(.bool YL),WA]⟩))) (.node 90 ⟨.other,1,8,WB [.nilptr]⟩ (.node 86 ⟨.other,1,8,WB [.nilmap]⟩ (VF 85 ⟨.other,1,8,WB [.nilmap]⟩) (VF 88 ⟨(.st [(0,4),(4,1),(5,1)]),6,80,WB [(.bool YL),WA,(.bool YL),WA,.nilmap,.nilmap]⟩)) (.node 97 ⟨(.st [(0,2),(2,2)]),4,64,WB [(.bool YL),WA,(.bool YL),WA]⟩ (VF 95 ⟨(.st [(0,1),(1,1)]),2,32,WB [(.bool YL),WA]⟩) .nil))) (.node 131 Zv (.node 111 ⟨(.st [(0,1),(1,1)]),2,24,WB [(.int .i64 0),(.str ⟨#[]⟩)]⟩ (.node 101 ⟨(.st [(0,4),(4,1),(5,1)]),6,80,WB [(.bool YL),WA,(.bool YL),WA,.nilmap,.nilmap]⟩ (VF 99 ⟨.other,1,8,WB [.nilmap]⟩) (VF 108 ⟨.str,1,16,WB [(.str ⟨#[]⟩)]⟩)) (.node 115 ⟨(.st [(0,2),(2,2),(4,1)]),5,64,WB [(.int .i64 0),(.str ⟨#[]⟩),(.int .i64 0),(.str ⟨#[]⟩),(.str ⟨#[]⟩)]⟩ (VF 113 ⟨(.st [(0,2),(2,1)]),3,40,WB [(.int .i64 0),(.str ⟨#[]⟩),(.str ⟨#[]⟩)]⟩) (VF 130 ⟨.other,1,8,WB [.nilmap]⟩))) (.node 139 Zv (.node 134 Zv (VF 132 Zv) (VF 136 ⟨(.st [(0,6),(6,6),(12,1),(13,1),(14,1)]),15,184,WB [(.bool YL),WA,(.bool YL),WA,.nilmap,.nilmap,(.bool YL),WA,(.bool YL),WA,.nilmap,.nilmap,.nilfn,.nilfn,.nilfn]⟩)) (.node 143 ⟨(.st [(0,4),(4,1),(5,1),(6,1)]),7,136,WB [WA,WA,WA,(.int .i64 0),WA,WA,.nilmap]⟩ (VF 141 ⟨.other,1,8,WB [.nilmap]⟩) .nil))))) (.node 242 (VE 4) (.node 188 Zv (.node 160 Zv (.node 153 (VE 156) (.node 150 Zv (VF 149 Zv) (VF 152 Zv)) (.node 157 Zv (VF 156 ⟨(.st [(0,2),(2,2)]),4,48,WB [(.int .i64 0),(.str ⟨#[]⟩),(.int .i64 0),(.str ⟨#[]⟩)]⟩) (VF 158 Zv))) (.node 173 Zv (.node 163 Zv (VF 161 Zv) (VF 164 ⟨(.arr 2 111),4,48,WB [(.int .i64 0),(.str ⟨#[]⟩),(.int .i64 0),(.str ⟨#[]⟩)]⟩)) (.node 178 (VE 5) (VF 176 Zv) (VF 183 (VE 47))))) (.node 211 ⟨(.int .u64),1,8,WB [(.int .u64 0)]⟩ (.node 205 (VE 211) (.node 201 Zv (VF 197 ⟨.other,1,8,WB [.nilptr]⟩) (VF 204 (VE 211))) (.node 209 ⟨(.st [(0,1),(1,1)]),2,32,WB [WA,.nilmap]⟩ (VF 207 ⟨.other,1,8,WB [.nilmap]⟩) (VF 210 ⟨(.int .u64),1,8,WB [(.int .u64 0)]⟩))) (.node 233 (VE 173) (.node 224 Zv (VF 214 Zv) (VF 225 Zv)) (.node 237 Zv (VF 235 Zv) .nil)))) (.node 344 Zv (.node 291 ⟨(.int .u32),1,4,WB [(.int .u32 0)]⟩ (.node 259 ⟨.other,1,8,WB [.nilmap]⟩ (.node 255 (VE 22) (VF 250 ⟨.other,1,8,WB [.nilptr]⟩) (VF 257 ⟨(.st [(0,1),(1,1),(2,1),(3,1)]),4,96,WB [WA,WA,WA,WA]⟩)) (.node 268 ⟨(.int .u64),1,8,WB [(.int .u64 0)]⟩ (VF 261 ⟨(.st [(0,1),(1,4),(5,15),(20,1),(21,1),(22,1),(23,1),(24,1),(25,1)]),26,368,WB [.nilptr,WA,WA,WA,WA,(.bool YL),WA,(.bool YL),WA,.nilmap,.nilmap,(.bool YL),WA,(.bool YL),WA,.nilmap,.nilmap,.nilfn,.nilfn,.nilfn,.nilfn,.nilfn,.nilmap,WA,WA,.nilmap]⟩) (VF 283 ⟨(.int .i64),1,8,WB [(.int .i64 0)]⟩))) (.node 330 ⟨(.int .u64),1,8,WB [(.int .u64 0)]⟩ (.node 308 ⟨(.st [(0,1),(1,1)]),2,32,WB [.nilptr,WA]⟩ (VF 306 ⟨.other,1,8,WB [.nilptr]⟩) (VF 310 ⟨.other,1,16,WB [.niliface]⟩)) (.node 343 Zv (VF 334 ⟨.other,1,8,WB [.nilptr]⟩) .nil))) (.node 383 ⟨(.arr 20 268),20,160,WB (List.replicate 20 (.int .u64 0))⟩ (.node 370 ⟨.other,1,8,WB [.nilptr]⟩ (.node 352 ⟨(.arr 24 5),24,24,WB (List.replicate 24 (.int .u8 0))⟩ (VF 345 ⟨.other,1,8,WB [.nilptr]⟩) (VF 363 ⟨.other,1,8,WB [.nilptr]⟩)) (.node 377 ⟨(.int .i64),1,8,WB [(.int .i64 0)]⟩ (VF 375 Zv) (VF 379 ⟨.other,1,8,WB [.nilptr]⟩))) (.node 407 ⟨(.st [(0,1)]),1,16,WB [(.str ⟨#[]⟩)]⟩ (.node 400 ⟨(.st [(0,1),(1,1),(2,1)]),3,48,WB [(.str ⟨#[]⟩),(.str ⟨#[]⟩),.niliface]⟩ (VF 384 ⟨(.arr 65 5),65,65,WC⟩) (VF 405 ⟨.other,1,8,WB [.nilptr]⟩)) (.node 409 ⟨(.arr 64 5),64,64,WC⟩ (VF 408 ⟨(.arr 32 5),32,32,WB (List.replicate 32 (.int .u8 0))⟩) .nil)))))
theorem zG:tb.Ok prog:=TT.ok_of Zj
theorem VB(h:p:=by first|exact trivial|omega|exact⟨Zi,by first|assumption|(simp;done)⟩|exact⟨by first|assumption|(simp;done),Zi⟩|(simp;done)|exact⟨by first|omega|decide,by first|omega|assumption⟩|(simp;omega)):p:=h
section
variable {m0:Gm}{w0:World}{F:ew}{R0:RT w0 F}{n:Nat}{σ:St}{ops:YZ}{o:Oper}{os:Zw}{K:ZA}{d:YX}{s:OS}{rd:ee}{φ:Prop}{cs:na}{off sz:Nat}{p:PV}{vs:na}{cl:List ee}{i:Nat}{is:ee}{acc:List It}
theorem A1(h:eK tb ops n σ o=WB (d,⟨s,rd,φ⟩))(k:RL ⟨prog,m0,w0,F,R0⟩ n ops os K (σ.app d s))(r:φ:=by exact VB):RL ⟨prog,m0,w0,F,R0⟩ n ops (o::os) K σ:=RL.auto zG h k r
theorem A2(h:Pm tb ops n σ o=WB (d,cs,off,rd))(r:cs[off]? =WB p)(k:RL ⟨prog,m0,w0,F,R0⟩ n ops os K (σ.app d ⟨.pv p,[],[]⟩)):RL ⟨prog,m0,w0,F,R0⟩ n ops (o::os) K σ:=
 have ⟨h1,h2,h3⟩:=uS zG h r
 RL.with h1 h2 (h3 σ (λ_ _=>rfl) (λ_ _=>rfl)) k
theorem A3(h:Nq tb ops n σ o=WB (d,cs,off,sz,rd))(r:(cs.drop off).take sz=vs)(k:RL ⟨prog,m0,w0,F,R0⟩ n ops os K (σ.app d ⟨.pv (.agg vs),[],[]⟩))(hl:vs.length=sz:=by rfl):RL ⟨prog,m0,w0,F,R0⟩ n ops (o::os) K σ:=
 have ⟨h1,h2,h3⟩:=ud zG h r hl
 RL.with h1 h2 (h3 σ (λ_ _=>rfl) (λ_ _=>rfl)) k
theorem D1 (ho:ops[i]? =WB o) (h:eK tb ops n σ o=WB (d,⟨s,rd,φ⟩)) (k:DL ⟨prog,m0,w0,F,R0⟩ n ops cl is (⟨i,o,s,s.wr.map (·.1),s.nw,rd⟩::acc) K (σ.app d s)) (hc:gA ops n cl ⟨i,o,s,s.wr.map (·.1),s.nw,rd⟩ acc=YK:=by kernel_rfl)
  (hφ:φ:=by exact VB):DL ⟨prog,m0,w0,F,R0⟩ n ops cl (i::is) acc K σ:=DL.auto zG ho h k hφ hc
theorem D2(ho:ops[i]? =WB o)(h:Pm tb ops n σ o=WB (d,cs,off,rd))(r:cs[off]? =WB p)(k:DL ⟨prog,m0,w0,F,R0⟩ n ops cl is (⟨i,o,⟨.pv p,[],[]⟩,[],[],rd⟩::acc) K (σ.app d ⟨.pv p,[],[]⟩))(hc:gA ops n cl ⟨i,o,⟨.pv p,[],[]⟩,[],[],rd⟩ acc=YK:=by kernel_rfl):
  DL ⟨prog,m0,w0,F,R0⟩ n ops cl (i::is) acc K σ:=
 have ⟨h1,h2,h3⟩:=uS zG h r
 DL.with rd ho h1 h2 (λτ ha=>h3 τ (UF ha) (U5 ha)) k hc
theorem D3(ho:ops[i]? =WB o)(h:Nq tb ops n σ o=WB (d,cs,off,sz,rd))(r:(cs.drop off).take sz=vs)(k:DL ⟨prog,m0,w0,F,R0⟩ n ops cl is (⟨i,o,⟨.pv (.agg vs),[],[]⟩,[],[],rd⟩::acc) K (σ.app d ⟨.pv (.agg vs),[],[]⟩))(hl:vs.length=sz:=by rfl)
  (hc:gA ops n cl ⟨i,o,⟨.pv (.agg vs),[],[]⟩,[],[],rd⟩ acc=YK:=by kernel_rfl):DL ⟨prog,m0,w0,F,R0⟩ n ops cl (i::is) acc K σ:=
 have ⟨h1,h2,h3⟩:=ud zG h r hl
 DL.with rd ho h1 h2 (λτ ha=>h3 τ (UF ha) (U5 ha)) k hc
end
end
section
def jG(C:Ctx)(n:Nat):Code->(Exit->ZA)->Code×(Exit->ZA)
 | .seq x y,Q=>jG C n x (Be (AW C n y Q) Q)
 | .block id x,Q=>jG C n x (y6 id Q)
 |c,Q=>(c,Q)
theorem eH{C:Ctx}{σ:St}:∀(c:Code)(Q:Exit->ZA),AW C n (jG C n c Q).1 (jG C n c Q).2 σ->AW C n c Q σ
 | .seq x y,Q,h=>Vy (eH x _ h)
 | .block _ x,Q,h=>AW.block (eH x _ h)
 | .skip,_,h=>h
 | .region ..,_,h=>h
 | .cond ..,_,h=>h
 | .loop ..,_,h=>h
 | .rangeFunc ..,_,h=>h
 | .exit ..,_,h=>h
 | .scope ..,_,h=>h
 | .label ..,_,h=>h
 | .goto ..,_,h=>h
 | .ret,_,h=>h
 | .refuse ..,_,h=>h
section
variable {C:Ctx}{n:Nat}{c:Code}{Q Q':Exit->ZA}{σ:St}{id:Nat}{ops:YZ}
theorem Gr(h:jG C n c Q=(.region id ops YL,Q'))(k:RL C n ops ops.toList (Q' .normal) σ):AW C n c Q σ:=
 eH c Q (h▸AW.region k)
theorem Gt(h:jG C n c Q=(.ret,Q'))(k:Q' .ret σ):AW C n c Q σ:=eH c Q (h▸AW.ret k)
theorem YR{α β:Type}{r:Option α}{s:α->Option β}{q:α->β->Prop}{v:α}{w:β}(h:(jG C n c Q,Q' .ret σ,r,s v)=((.ret,Q'),(∃a b,r=WB a∧s a=WB b∧q a b),WB v,WB w))(k:q v w):AW C n c Q σ:=have ⟨h,e⟩:=VA h;have ⟨e,f⟩:=VA e;have ⟨f,g⟩:=VA f;Gt h (e▸⟨_,_,f,g,k⟩)
theorem Gx(h:jG C n c Q=(.exit id,Q'))(k:Q' (.exit id) σ):AW C n c Q σ:=eH c Q (h▸AW.exit k)
theorem Gp{x:Code}[Decidable p](h:(jG C n c Q,σ.ev n o)=((.cond o x y,Q'),.pv (.bool (decide p))))(r:p->AW C n x Q' σ)(u:¬p->AW C n y Q' σ):AW C n c Q σ:=have ⟨h,hc⟩:=VA h;eH c Q (h▸AW.mM hc r u)
theorem Gc{x:Code}{b:Bool}(h:(jG C n c Q,σ.ev n o)=((.cond o x y,Q'),.pv (.bool b)))(r:b=YK->AW C n x Q' σ)(u:b=YL->AW C n y Q' σ):AW C n c Q σ:=have ⟨h,hc⟩:=VA h;eH c Q (h▸AW.cond hc r u)
theorem Gl {b:Code}  (h:jG C n c Q=(.loop b,Q')) (st:X->St) (I:X->Prop) (μ:X->Nat) (x0:X) (r:σ.le (st x0)) (u:I x0)
  (round:∀x,I x->AW C n b (Be (λs=>∃x',s.le (st x')/\I x'/\μ x'<μ x) Q') (st x)):AW C n c Q σ:=eH c Q (h▸AW.loop st I μ x0 r u round)
def kS(σ:St)(q:List (Nat×Option V)×List (Nat×va))(k:Nat):St:=ZT (q.1.map λp=>(p.1,p.2.getD (σ.sl p.1))) (q.2.map λp=>(p.1,p.2.getD ((σ.ob p.1).getD (.bD 0 [])))) k
theorem Gz {b:Code}  (h:jG C n c Q=(.loop b,Q')) (st:X->List (Nat×Option V)×List (Nat×va)) (k:Nat) (I:X->Prop) (μ:X->Nat) (x0:X) (r:σ.le (kS σ (st x0) k)) (u:I x0)
  (round:∀x,I x->AW C n b (Be (λs=>∃x',s.le (kS σ (st x') k)/\I x'/\μ x'<μ x) Q') (kS σ (st x) k)):AW C n c Q σ:=eH c Q (h▸AW.loop (λx=>kS σ (st x) k) I μ x0 r u round)
theorem Gd(h:jG C n c Q=(.region id ops YK,Q'))(z:C.P.follows .mixedOrders=YK)(cl:List ee)(is:ee)(u:LZ ops.toList []=cl)(r:kg 0 ops.toList=YK)(k:DL C n ops cl is [] (Q' .normal) σ):AW C n c Q σ:=
 eH c Q (h▸AW.draw z cl is u r k)
end
section
variable {m0:Gm}{w0:World}{F:ew}{R0:RT w0 F}{n id:Nat}{σ:St}{c:Code}{Q Q':Exit->ZA}{ops:YZ}{o o1 o2 o3 o4:Oper}{os:Zw}{K:ZA}{d d1 d2 d3 d4:YX}{s s1 s2 s3 s4:OS}{rd rd1 rd2 rd3 rd4:ee}{φ φ1 φ2 φ3 φ4:Prop}
theorem Y2(r:(eK tb ops n σ o1,eK tb ops n (σ.app d1 s1) o2)=(WB (d1,⟨s1,rd1,φ1⟩),WB (d2,⟨s2,rd2,φ2⟩)))(k:RL ⟨prog,m0,w0,F,R0⟩ n ops os K ((σ.app d1 s1).app d2 s2))(g1:φ1:=by exact VB)(g2:φ2:=by exact VB):RL ⟨prog,m0,w0,F,R0⟩ n ops (o1::o2::os) K σ:=have ⟨r,h2⟩:=VA r;(A1 r (A1 h2 k g2) g1)
theorem Y3(r:(eK tb ops n σ o1,eK tb ops n (σ.app d1 s1) o2,eK tb ops n ((σ.app d1 s1).app d2 s2) o3)=(WB (d1,⟨s1,rd1,φ1⟩),WB (d2,⟨s2,rd2,φ2⟩),WB (d3,⟨s3,rd3,φ3⟩)))(k:RL ⟨prog,m0,w0,F,R0⟩ n ops os K (((σ.app d1 s1).app d2 s2).app d3 s3))(g1:φ1:=by exact VB)(g2:φ2:=by exact VB)(g3:φ3:=by exact VB):RL ⟨prog,m0,w0,F,R0⟩ n ops (o1::o2::o3::os) K σ:=have ⟨r,q_⟩:=VA r;have ⟨h2,h3⟩:=VA q_;(A1 r (A1 h2 (A1 h3 k g3) g2) g1)
theorem Z1(h:(jG ⟨prog,m0,w0,F,R0⟩ n c Q,eK tb ⟨o1::os⟩ n σ o1)=((.region id ⟨o1::os⟩ YL,Q'),WB (d1,⟨s1,rd1,φ1⟩)))(k:RL ⟨prog,m0,w0,F,R0⟩ n ⟨o1::os⟩ os (Q' .normal) (σ.app d1 s1))(g1:φ1:=by exact VB):AW ⟨prog,m0,w0,F,R0⟩ n c Q σ:=have ⟨h,h1⟩:=VA h;Gr h (A1 h1 k g1)
theorem Z2(h:(jG ⟨prog,m0,w0,F,R0⟩ n c Q,eK tb ⟨o1::o2::os⟩ n σ o1,eK tb ⟨o1::o2::os⟩ n (σ.app d1 s1) o2)=((.region id ⟨o1::o2::os⟩ YL,Q'),WB (d1,⟨s1,rd1,φ1⟩),WB (d2,⟨s2,rd2,φ2⟩)))(k:RL ⟨prog,m0,w0,F,R0⟩ n ⟨o1::o2::os⟩ os (Q' .normal) ((σ.app d1 s1).app d2 s2))(g1:φ1:=by exact VB)(g2:φ2:=by exact VB):AW ⟨prog,m0,w0,F,R0⟩ n c Q σ:=have ⟨h,q_⟩:=VA h;have ⟨h1,h2⟩:=VA q_;Gr h (A1 h1 (A1 h2 k g2) g1)
theorem Z3(h:(jG ⟨prog,m0,w0,F,R0⟩ n c Q,eK tb ⟨o1::o2::o3::os⟩ n σ o1,eK tb ⟨o1::o2::o3::os⟩ n (σ.app d1 s1) o2,eK tb ⟨o1::o2::o3::os⟩ n ((σ.app d1 s1).app d2 s2) o3)=((.region id ⟨o1::o2::o3::os⟩ YL,Q'),WB (d1,⟨s1,rd1,φ1⟩),WB (d2,⟨s2,rd2,φ2⟩),WB (d3,⟨s3,rd3,φ3⟩)))(k:RL ⟨prog,m0,w0,F,R0⟩ n ⟨o1::o2::o3::os⟩ os (Q' .normal) (((σ.app d1 s1).app d2 s2).app d3 s3))(g1:φ1:=by exact VB)(g2:φ2:=by exact VB)(g3:φ3:=by exact VB):AW ⟨prog,m0,w0,F,R0⟩ n c Q σ:=have ⟨h,q_⟩:=VA h;have ⟨h1,q_⟩:=VA q_;have ⟨h2,h3⟩:=VA q_;Gr h (A1 h1 (A1 h2 (A1 h3 k g3) g2) g1)
theorem Z4(h:(jG ⟨prog,m0,w0,F,R0⟩ n c Q,eK tb ⟨o1::o2::o3::o4::os⟩ n σ o1,eK tb ⟨o1::o2::o3::o4::os⟩ n (σ.app d1 s1) o2,eK tb ⟨o1::o2::o3::o4::os⟩ n ((σ.app d1 s1).app d2 s2) o3,eK tb ⟨o1::o2::o3::o4::os⟩ n (((σ.app d1 s1).app d2 s2).app d3 s3) o4)=((.region id ⟨o1::o2::o3::o4::os⟩ YL,Q'),WB (d1,⟨s1,rd1,φ1⟩),WB (d2,⟨s2,rd2,φ2⟩),WB (d3,⟨s3,rd3,φ3⟩),WB (d4,⟨s4,rd4,φ4⟩)))(k:RL ⟨prog,m0,w0,F,R0⟩ n ⟨o1::o2::o3::o4::os⟩ os (Q' .normal) ((((σ.app d1 s1).app d2 s2).app d3 s3).app d4 s4))(g1:φ1:=by exact VB)(g2:φ2:=by exact VB)(g3:φ3:=by exact VB)(g4:φ4:=by exact VB):AW ⟨prog,m0,w0,F,R0⟩ n c Q σ:=have ⟨h,q_⟩:=VA h;have ⟨h1,q_⟩:=VA q_;have ⟨h2,q_⟩:=VA q_;have ⟨h3,h4⟩:=VA q_;Gr h (A1 h1 (A1 h2 (A1 h3 (A1 h4 k g4) g3) g2) g1)
end
section
variable {C:Ctx}{n i:Nat}{σ:St}{ops:YZ}{o:Oper}{os:Zw}{K:ZA}{s:OS}{cl:List ee}{is:ee}{acc:List It}
theorem Rs(r:(o.guard,o.dst)=(WC,WB t))(u:XJ C n o σ s)(h:RL C n ops os K (σ.app (WB t) s)):RL C n ops (o::os) K σ:=have ⟨r,hd⟩:=VA r;RL.step r hd u h
theorem Rg(r:(o.guard,o.dst,σ.ev n (.tmp (((ops[j]?).bind (·.dst)).getD n)))=(WB (j,want),WB t,.pv (.bool want)))(u:XJ C n o σ s)(h:RL C n ops os K (σ.app (WB t) s)):RL C n ops (o::os) K σ:=have ⟨r,q_⟩:=VA r;have ⟨hd,hb⟩:=VA q_;RL.stepG r hd hb u h
theorem Ds(rd:ee)(ho:(ops[i]?,o.guard,o.dst)=(WB o,WC,WB t))(r:∀ τ,Agr n ops o σ τ s rd->XJ C n o τ s)(u:s.nw.all σ.av=YK)(hc:gA ops n cl ⟨i,o,s,s.wr.map (·.1),s.nw,rd⟩ acc=YK)(h:DL C n ops cl is (⟨i,o,s,s.wr.map (·.1),s.nw,rd⟩::acc) K (σ.app (WB t) s)):DL C n ops cl (i::is) acc K σ:=have ⟨ho,q_⟩:=VA ho;have ⟨hg,hd⟩:=VA q_;DL.step rd ho hg hd r u hc h
theorem YM(ho:(ops[i]?,o.guard,o.dst)=(WB o,WC,WB t))(r:∀ τ,Agr n ops o σ τ s []->XJ C n o τ s)(h:DL C n ops cl is (⟨i,o,s,s.wr.map (·.1),s.nw,[]⟩::acc) K (σ.app (WB t) s))(u:s.nw.all σ.av=YK:=by rfl)(hc:gA ops n cl ⟨i,o,s,s.wr.map (·.1),s.nw,[]⟩ acc=YK:=by kernel_rfl):DL C n ops cl (i::is) acc K σ:=Ds [] ho r u hc h
theorem YQ(rd:ee)(ho:(ops[i]?,o.guard,o.dst)=(WB o,WC,WB t))(r:∀ τ,Agr n ops o σ τ s rd->XJ C n o τ s)(h:DL C n ops cl is (⟨i,o,s,s.wr.map (·.1),s.nw,rd⟩::acc) K (σ.app (WB t) s))(u:s.nw.all σ.av=YK:=by rfl)(hc:gA ops n cl ⟨i,o,s,s.wr.map (·.1),s.nw,rd⟩ acc=YK:=by kernel_rfl):DL C n ops cl (i::is) acc K σ:=Ds rd ho r u hc h
theorem Dg(rd:ee)(ho:(ops[i]?,o.guard,o.dst,σ.ev n (.tmp (((ops[j]?).bind (·.dst)).getD n)))=(WB o,WB (j,want),WB t,.pv (.bool want)))(r:∀τ,Agr n ops o σ τ s rd->XJ C n o τ s)(u:s.nw.all σ.av=YK)(hc:gA ops n cl ⟨i,o,s,s.wr.map (·.1),s.nw,rd⟩ acc=YK)(h:DL C n ops cl is (⟨i,o,s,s.wr.map (·.1),s.nw,rd⟩::acc) K (σ.app (WB t) s)):DL C n ops cl (i::is) acc K σ:=have ⟨ho,q_⟩:=VA ho;have ⟨hg,q_⟩:=VA q_;have ⟨hd,hb⟩:=VA q_;DL.stepG rd ho hg hd hb r u hc h
theorem aS:∀{l:Zx},l.map (λp=>σ.sl p.1)=l.map (·.2)->GB σ l
 |[],_=>trivial
 |_::_,h=>⟨(Y6 h).1,aS (Y6 h).2⟩
theorem aO:∀{l:Zy},l.map (λp=>σ.ob p.1)=l.map (λp=>WB p.2)->KH σ l
 |[],_=>trivial
 |_::_,h=>⟨(Y6 h).1,aO (Y6 h).2⟩
theorem YS{l:Zx}{os:Zy}{k:Nat}(h:(l.map (λp=>σ.sl p.1),os.map (λp=>σ.ob p.1),l.all (λp=>p.2.okA k),os.all (λp=>(Nat.blt p.1 k||Nat.ble big p.1)&&p.2.okA k))=(l.map (·.2),os.map (λp=>WB p.2),YK,YK)):σ.le (ZT l os k):=have ⟨a,h⟩:=VA h;have ⟨b,h⟩:=VA h;have ⟨c,d⟩:=VA h;Vn (aS a) (aO b) c d
theorem aT:∀{l:Zx},l.map (λp=>σ.sl p.1)=l.map (λp=>p.2.ren ρ)->uF σ ρ l
 |[],_=>trivial
 |_::_,h=>⟨(Y6 h).1,aT (Y6 h).2⟩
theorem aP:∀{l:Zy},l.map (λp=>σ.ob (ρ p.1))=l.map (λp=>WB (p.2.ren ρ))->gL σ ρ l
 |[],_=>trivial
 |_::_,h=>⟨(Y6 h).1,aP (Y6 h).2⟩
end
section
variable {C:Ctx}{n i:Nat}{σ τ:St}{ops:YZ}{o:Oper}{s:OS}{c:Code}{Q Q':Exit->ZA}{id:Nat}
theorem Ee(h:Agr n ops o σ τ s rd)(i:Nat){x:Operand}{v:V}(r:(o.op.operands.toList[i]?,σ.ev n x)=(WB x,v)):τ.ev n x=v:=have ⟨r,u⟩:=VA r;(h.e i x r).trans u
theorem Eo(h:Agr n ops o σ τ s rd)(i:Nat){id:Nat}{v:va}(r:(rd[i]?,σ.ob id)=(WB id,v)):τ.ob id=v:=have ⟨r,u⟩:=VA r;(h.o i id r).trans u
theorem Wk(l:Zx)(os:Zy)(k:Nat)(hl:GB σ l)(ho:KH σ os)(r:l.all (λp=>p.2.okA k)=YK)(u:os.all (λp=>(Nat.blt p.1 k||Nat.ble big p.1)&&p.2.okA k)=YK)(h:AW C n c Q (ZT l os k)):AW C n c Q σ:=
 Vm (Vn hl ho r u) h
theorem Ge(h:jG C n c Q=(.region id ops YK,Q'))(u:C.P.follows .mixedOrders=YK)(is:ee)(r:kg 0 ops.toList=YK)(k:DL C n ops (LZ ops.toList []) is [] (Q' .normal) σ):AW C n c Q σ:=
 Gd h u _ is O r k
theorem VC(m:Nat){m0:Gm}{w0:World}{F:ew}{R0:RT w0 F}(h:jG ⟨prog,m0,w0,F,R0⟩ n c Q=(.region id ops YK,Q'))(k:DL ⟨prog,m0,w0,F,R0⟩ n ops (LZ ops.toList []) (List.range m) [] (Q' .normal) σ)(r:kg 0 ops.toList=YK:=by kernel_rfl):AW ⟨prog,m0,w0,F,R0⟩ n c Q σ:=Ge h follows (List.range m) r k
abbrev nS:PV:= .sl (WB YK) 0 []
end
def runA(ops:YZ)(n:Nat):Nat->St->Zw->Option (St×Zw×Prop)
 |0,σ,os=>WB (σ,os,True)
 |_+1,_,[]=>WC
 | k+1,σ,o::os=>match eK tb ops n σ o with
   | some (d,⟨s,_,φ⟩)=>match runA ops n k (σ.app d s) os with
     |some (τ,os',ψ)=>WB (τ,os',φ/\ψ)
     |none=>WC
   |none=>WC
def runD(ops:YZ)(n:Nat):Nat->St->ee->List It->Option (St×ee×List It×Prop)
 |0,σ,is,acc=>WB (σ,is,acc,True)
 |_+1,_,[],_=>WC
 | k+1,σ,i::is,acc=>match ops[i]? with
   | some o=>match eK tb ops n σ o with
     | some (d,⟨s,rd,φ⟩)=>match runD ops n k (σ.app d s) is (⟨i,o,s,s.wr.map (·.1),s.nw,rd⟩::acc)with
       |some (τ,is',acc',ψ)=>WB (τ,is',acc',φ/\ψ)
       |none=>WC
     |none=>WC
   |none=>WC
def okD(ops:YZ)(n:Nat)(cl:List ee):Nat->St->ee->List It->Bool
 |0,_,_,_=>YK
 |_+1,_,[],_=>YL
 | k+1,σ,i::is,acc=>match ops[i]? with
   | some o=>match eK tb ops n σ o with
     |some (d,⟨s,rd,_⟩)=>gA ops n cl ⟨i,o,s,s.wr.map (·.1),s.nw,rd⟩ acc&&okD ops n cl k (σ.app d s) is (⟨i,o,s,s.wr.map (·.1),s.nw,rd⟩::acc)
     |none=>YL
   |none=>YL
section
variable {m0:Gm}{w0:World}{F:ew}{R0:RT w0 F}{n:Nat}{σ τ:St}{ops:YZ}{os os':Zw}{K:ZA}{φ:Prop}{cl:List ee}{is is':ee}{acc acc':List It}
theorem Ar(k:Nat)(h:runA ops n k σ os=WB (τ,os',φ))(r:RL ⟨prog,m0,w0,F,R0⟩ n ops os' K τ)(u:φ:=by repeat' (first|with_reducible refine And.intro ?_ ?_|exact trivial|omega|assumption|decide|(simp;done)|(simp;omega))):RL ⟨prog,m0,w0,F,R0⟩ n ops os K σ:=by
 induction k generalizing σ os φ with
 |zero=>cases h;exact r
 | succ k ih=>
   cases os with
   |nil=>cases h
   | cons o os=>
     unfold runA at h;split at h
     .rename_i h1;split at h
      .rename_i h2;cases h;exact RL.auto zG h1 (ih h2 u.2) u.1
      cases h
     cases h
theorem Dr(k:Nat)(h:runD ops n k σ is acc=WB (τ,is',acc',φ))(r:DL ⟨prog,m0,w0,F,R0⟩ n ops cl is' acc' K τ)(hc:okD ops n cl k σ is acc=YK:=by kernel_rfl)(hφ:φ:=by repeat' (first|with_reducible refine And.intro ?_ ?_|exact trivial|omega|assumption|decide|(simp;done)|(simp;omega))):DL ⟨prog,m0,w0,F,R0⟩ n ops cl is acc K σ:=by
 induction k generalizing σ is acc φ with
 |zero=>cases h;exact r
 | succ k ih=>
   cases is with
   |nil=>cases h
   | cons i is=>
     unfold runD at h;unfold okD at hc;split at h
     .rename_i ho;rw[ho]at hc;simp only at hc;split at h
      .rename_i h1;rw[h1]at hc;simp only[aJ]at hc;split at h
       .rename_i h2;cases h;exact DL.auto zG ho h1 (ih h2 hc.2 hφ.2) hφ.1 hc.1
       cases h
      cases h
     cases h
end
end
abbrev al(l:cP):PV:= .sl WC l.length (l.map (.int .i64))
theorem bo(h:k<l.length):(l.map (PV.int .i64))[k*1]? =WB (.int .i64 l[k]):=by simp[h]
theorem aU(h:k<l.length):l.map (PV.int .i64)≠[]:=by intro e;simp at e;subst e;simp at h
theorem gO(u:k<l.length)(h:¬x∈l.take k)(r:¬l[k]=x):¬x∈l.take (k+1):=by grind[AI,VH]
theorem Bo(l:cP)(x:Int)(hl:l.length<=1000000000):ZK prog 86 [al l,ZU x] (· = .bool (decide (x∈l))):=by
 refine ZC func86 O ntmps86 λ_ _ _ _=>?_
 refine Vy<|AW.region<|A1 O<|Vy<|Vy<|AW.region<|Y3 O<|AW.block<|AW.loop (st:=λk:Nat=>ZT [(1,ZI x),(7,.pv (al l)),(8,ZI l.length),(9,ZI k)] [] 0) (I:=λk=>k<=l.length/\¬x∈l.take k) (μ:=λk=>l.length-k) (x0:=0) (Vn (aS O) trivial O O) Zm (λk hx=>?_);obtain⟨hk,hno⟩:=hx;refine Vy<|AW.region<|A1 O<|Vy<|AW.mM O (λhc=>?_) (λhc=>?_)
 .have hlt:k<l.length:=Zi;have u:=bo hlt;have r:=aU hlt;refine Vl<|Vy<|AW.block<|Vy<|AW.region<|A1 O<|A2 O Zl ?_;refine A1 O<|Vy<|AW.region<|Y3 O ?_;refine AW.cond O (λhc=>?_) (λhc=>?_)
  .refine Vy<|AW.region<|A1 O<|AW.ret ?_;refine⟨_,_,O,O,ah PV.bool (?_:YK=_)⟩;have:l[k]=x:=by simpa using hc
   simp[<-this]
  refine Vl<|AW.region<|Y2 O ?_;refine⟨k+1,Vn (aS O) trivial O O,⟨Zi,gO hlt hno (by simpa using hc)⟩,Zi⟩
 refine AW.exit<|Vy<|AW.region<|A1 O<|AW.ret ?_;refine⟨_,_,O,O,ah PV.bool (?_:YL=_)⟩;rw[aG Zi]at hno;simp[hno]
theorem mod_eq(x n:Int)(h:1<=n):(x.tmod n+n).tmod n=x%n:=by
 have r:n≠0:=Zi;by_cases hx:0<=x
 .rw[Int.tmod_eq_emod_of_nonneg hx,Int.tmod_eq_emod_of_nonneg (by have:=Int.emod_nonneg x r;omega),Int.add_emod_right,Int.emod_emod_of_dvd _ (Int.dvd_refl n)]
 have h1:x.tmod n= -((-x)%n):=by
  rw[show x= -(-x) by omega,Int.neg_tmod,Int.tmod_eq_emod_of_nonneg Zi,Int.neg_neg]
 have u:=Int.emod_nonneg (-x) r;have z:=Int.emod_lt_of_pos (-x) (show 0<n by omega);rw[h1,Int.tmod_eq_emod_of_nonneg Zi,Int.add_emod_right];rw[<-Int.zero_sub,Int.sub_emod,Int.emod_emod_of_dvd _ (Int.dvd_refl n),<-Int.sub_emod,Int.zero_sub,Int.neg_neg]
theorem SG(x n:Int)(h:1<=n): -n<x.tmod n/\x.tmod n<n:=by have r:=Int.tmod_lt_of_pos x (show 0<n by omega);have u:=Int.lt_tmod_of_pos x (show 0<n by omega);omega
theorem Nt(x n:Int)(r:1<=n)(z:n<=1000000):ZK prog 20 [ZU x,ZU n] (· = ZU (x%n)):=by
 refine ZC func20 O ntmps20 λ_ _ _ _=>?_
 refine Vy<|AW.region<|A1 O<|Vy<|Vy<|AW.region<|Y2 O<|AW.mM O (λhc=>absurd hc Zi) (λhc=>?_);refine Vl ?_;have u:=SG x n r;exact Vy<|AW.region<|Ar 8 O<|AW.ret<|⟨_,_,O,O,ah (PV.int .i64) (mod_eq x n r)⟩
abbrev jo(L:cP)(k:Nat):na:=[al L,.int .i64 k]
def sNv(L:cP)(k:Nat)(n:Int):Int:=match L[k]? with|some x=>x%n|none=>0
def sNk(L:cP)(k:Nat):Nat:=if k<L.length then k+1 else k
theorem j1(L:cP)(k:Nat)(n:Int)(h:1<=n):0<=sNv L k n/\sNv L k n<n:=by
 unfold sNv;split
 .exact⟨Int.emod_nonneg _ Zi,Int.emod_lt_of_pos _ Zi⟩
 omega
theorem gu(L:cP)(k:Nat)(n:Int)(G:L.length<=600)(H:k<=L.length)(B:1<=n)(D:n<=1000000):FnM prog 7 73 (jo L k) [.int .i64 n] (λv c=>v= .int .i64 (sNv L k n)/\c=jo L (sNk L k)):=by
 refine FnM.of func7 O ntmps7 Zm O Zm λ_ _ _ _=>?_
 refine Vy<|AW.region<|A1 O<|Vy<|Vy<|VC 10 O<|Dr 10 O ⟨Zj,AW.mM O (λhc=>?_) (λhc=>?_)⟩
 .refine Vy<|AW.region<|A1 O<|AW.ret ?_;have u:L[k]? =WC:=by simp;omega
  exact⟨_,jo L k,O,O,by simp[sNv,u],by simp only[sNk];rw[AS Zi]⟩
 refine Vl ?_;have r:k<L.length:=Zi;have E:=bo r;have z:=aU r;refine Vy<|AW.region<|Ar 8 O<|Vy<|VC 14 O<|Dr 9 O<|YM O (λτ h=>ai k aal sz3 (Ee h 0 O) (Ee h 1 O) Zi Zi z)<|D2 O O Zl ?_;refine D1 O O<|YM O (λτ h=>aa call20 (Nt L[k] n B D) (h.aE O))<|D1 O O ⟨Zj,AW.ret<|⟨_,jo L (k+1),O,O,by simp[sNv,r],by simp only[sNk];rw[IT r]⟩⟩
theorem FQ(L:cP)(k:Nat)(lo hi:Int)(r:L.length<=600)(u:k<=L.length)(B:lo<=hi)(D: -1000<=lo)(E:hi<=1000):FnM prog 37 73 (jo L k) [.int .i64 lo,.int .i64 hi] (λv c=>v= .int .i64 (lo+sNv L k (hi-lo+1))/\c=jo L (sNk L k)):=by
 refine FnM.of func37 O ntmps37 Zm O Zm λ_ _ _ _=>?_
 have z:=j1 L k (hi-lo+1) Zi;exact Vy<|AW.region<|A1 O<|Vy<|AW.region<|Ar 6 O<|Rs O (bV call7 (gu L k (hi-lo+1) r u Zi Zi) O O)<|Y2 O<|AW.ret<|⟨_,jo L (sNk L k),O,O,O,O⟩
def upZ(j:Nat):cP:=(List.range j).map Int.ofNat
theorem bt(j:Nat):(upZ j).length=j:=by simp[upZ]
theorem NG(j:Nat):upZ (j+1)=upZ j++[(j:Int)]:=by simp[upZ,XC]
abbrev aI(l:cP):na:=l.map (.int .i64)
def KK(q:cP)(i k:Nat):cP:=(q.set i (q.getD k 0)).set k (q.getD i 0)
theorem swap_perm(r:i<q.length)(u:k<q.length):(KK q i k).Perm q:=by unfold KK;simp only[List.getD,AT r,AT u,Xg];exact List.set_set_perm r u
theorem On(r:i<q.length)(u:k<q.length):((aI q).set i (.int .i64 q[k])).set k (.int .i64 q[i])=aI (KK q i k):=by simp[KK,Wp,List.getD,r,u]
theorem Oq(l:cP)(hl:l.length<=600):ZS prog 5 0 1 [.pv (al l)] [] (λv ob'=>v= .ptr 0 0/\ob'=au [(0,.mix 73 ((jo l 0).map .pv))]):=by
 refine ZE func5 O ntmps5 λ_ _ _ _=>?_
 exact Vy<|AW.region<|A1 O<|Vy<|AW.region<|Y3 O<|Rs O ((tU O O).cast (v':= ZI l.length) (by rw[AS Zi]))<|Rs O ((dL l.length aal sz3 O O O (BY _) Zm).cast (v':= .pv (al l)) (by rw[aG Zm]))<|Y3 O<|AW.ret<|⟨[(2,.ptr 0 0)],[(0,.mix 73 ((jo l 0).map .pv))],[.ptr 0 0],YS O,O,O,O,O,O⟩
abbrev xe(L:cP)(k:Nat):Ob:= .mix 73 ((jo L k).map .pv)
theorem yz(L:cP)(k n:Nat)(H:L.length<=600)(M:k<=L.length)(U:1<=n)(P:n<=1000):FnM prog 41 73 (jo L k) [.int .i64 n] (λv c=>(∃q:cP,q.Perm (upZ n)/\v=al q)/\∃k',k'<=L.length/\c=jo L k'):=by
 refine FnM.of func41 O ntmps41 Zm O Zm λ_ _ _ _=>?_
 refine Z1 O<|Z1 O<|Z1 O<|AW.block<|AW.loop (st:=λj:Nat=>match j with
  |0=>ZT [(0,.ptr big 0),(1,ZI n),(6,ZI (0:Nat)),(5,.pv nS)] [(big,xe L k)] 1
  |j+1=>ZT [(0,.ptr big 0),(1,ZI n),(6,ZI (j+1:Nat)),(5,.bJ 0 1 (j+1))] [(big,xe L k),(0,.cells 3 (aI (upZ (j+1))))] 1) (I:=λj=>j<=n) (μ:=λj=>n-j) (x0:=0) (YS O) Zi (λj hj=>?_)
 cases j with
 | zero=>
   refine Z3 O<|AW.mM O (λhc=>?_) (λhc=>?_)
   .exact Vl<|Gr O<|Ar 5 O<|Z3 O<|⟨0+1,Vo [2] (aT O) (aP O) O O Zm O,Zi,Zi⟩
   omega
 | succ j=>
   have G:(aI (upZ (j+1))).length=(j+1)*1:=by simp[bt]
   have z:aI (upZ (j+1+1))=aI (upZ (j+1))++[.int .i64 ((j+1:Nat):Int)]:=by rw[NG];simp
   refine Z3 O<|AW.mM O (λhc=>?_) (λhc=>?_)
   .exact Vl<|Gr O<|Ar 5 O<|Z3 O<|⟨(j+1)+1,Vo [2] (aT O) ⟨O,(by rw[z];rfl),Zp⟩ O O Zm O,Zi,Zi⟩
   obtain rfl:n=j+1:=Zi;refine AW.exit<|Z3 O<|AW.block<|AW.loop (st:=λx:Nat×cP×Nat=>ZT [(0,.ptr big 0),(7,ZI x.1),(5,.bJ 0 1 (j+1))] [(big,xe L x.2.2),(0,.cells 3 (aI x.2.1))] 1) (I:=λx=>x.1<=j/\x.2.1.Perm (upZ (j+1))/\x.2.2<=L.length) (μ:=λx=>x.1) (x0:=(j,upZ (j+1),k)) (Vn ⟨O,ah (λi=>V.pv (PV.int .i64 i)) Zi,O,Zp⟩ (aO O) O O) ⟨BY _,WH _,M⟩ ?_;rintro⟨i,q,k2⟩ ⟨hi,hq,hk2⟩;simp only at hi hq hk2 ⊢;have B:q.length=j+1:=by rw[hq.length_eq,bt]
   refine Z2 O<|AW.mM O (λhc=>?_) (λhc=>?_)
   .refine Vl ?_;have D:=j1 L k2 (i+1) Zi;obtain⟨t,ht⟩:=VG D.1;have r:t<q.length:=Zi;have u:i<q.length:=Zi;have E:sNk L k2<=L.length:=by unfold sNk;split<;>omega
    have T:(aI q)[t*1]? =WB (.int .i64 q[t]):=by simp[r]
    have v2:(aI q)[i*1]? =WB (.int .i64 q[i]):=by simp[u]
    refine Z3 O<|Rs O (XJ.cast (v':= ZI (t:Int)) (bV call7 (gu L k2 (i+1) H hk2 Zi Zi) O O) (by rw[ht]))<|A1 O<|VC 16 O<|Dr 7 O<|D2 O O Zl ?_;refine Dr 3 O<|D2 O O Zl ?_;refine D1 O O<|DL.step (d:=WC) [_] O O O (λτ h=>ba sz3 (Ee h 0 O) (Eo h 0 O) (Ee h 1 O) O Zn) O Zj<|D1 O O<|DL.step (d:=WC) [_] O O O (λτ h=>ba sz3 (Ee h 0 O) (Eo h 0 O) (Ee h 1 O) O Zn) O Zj ⟨Zj,Z3 O ?_⟩;refine⟨(i-1,KK q i t,sNk L k2),Vn ⟨O,ah (λi=>V.pv (PV.int .i64 i)) Zi,O,Zp⟩ ⟨O,?_,Zp⟩ O O,⟨Zi,(swap_perm u r).trans hq,E⟩,Zi⟩;show WB (Ob.cells _ _)=_;rw[<-On u r];simp
   exact AW.exit<|Vm (St.Ct 0 [5] O ⟨O,Zp⟩ Zn)<|Z2 O<|AW.ret<|⟨_,jo L k2,O,O,⟨q,hq,by simp[al,B,aG]⟩,k2,hk2,O⟩
def inB(l:cP)(x:Int):Bool:=l.contains x
def hasB{α:Type}[DecidableEq α](l:List α)(x:α):Bool:=decide (x∈l)
def bQ(f:Nat->Int):Nat->Int
 |0=>0
 |n+1=>if bQ f n=0 then f n else bQ f n
theorem dH(h:bQ f n=0):bQ f (n+1)=f n:=by simp[bQ,h]
theorem EC(h:bQ f k≠0)(n:Nat)(r:k<=n):bQ f n=bQ f k:=by
 induction n with
 | zero=>have:k=0:=Zi
         subst this;rfl
 | succ n ih=>
   by_cases hk:k=n+1
   .rw[hk]
   grind[bQ]
theorem gK(h:bQ f k=0)(r:f k≠0)(u:k<n):bQ f n=f k:=by have e:=dH h;rw[EC (k:=k+1) (by rw[e];exact r) n u,e]
theorem km:bQ f n=0↔∀k,k<n->f k=0:=by
 induction n with
 |zero=>simp[bQ]
 | succ n ih=>
   constructor
   .grind[bQ]
   grind[dH]
def ru(c:UInt8):Bool:=97<=c&&c<=122
def Rq(c:UInt8):Bool:=ru c||(48<=c&&c<=57)||c==45
def Mt(s:List UInt8):Bool:=match s with|[]=>YL|c::r=>ru c&&r.all Rq&&decide (r.length<=11)
def fJ(s:er):Bool:=Mt s.data.toList
structure ZN where
 aj:List (er×Int)
 aU:List (er×cP)
 bo:List (Int×Int×Int)
 label:Int
variable{S:ZN}
def fU(names:hC)(i:Nat):Int:=
 if fJ (names.getD i default)=YL then 14 else if hasB (names.take i) (names.getD i default)=YK then 9 else 0
def hZ(S:ZN)(i:Nat):Int:=
 if fU (S.aj.map (·.1)) i≠0 then fU (S.aj.map (·.1)) i
 else if(S.aj.getD i default).2<1\/3<(S.aj.getD i default).2 then 7 else 0
def LY(l:cP):Bool:=(List.range (l.length-1)).all λk=>decide (l.getD k 0<l.getD (k+1) 0)
def zl(S:ZN)(i:Nat):Int:=
 if fU (S.aU.map (·.1)) i≠0 then fU (S.aU.map (·.1)) i
 else if(S.aU.getD i default).2=[]then 7
 else if((S.aU.getD i default).2.all λa=>decide (0<=a)&&decide (a<S.aj.length))=YL then 2
 else if LY (S.aU.getD i default).2=YL then 10 else 0
def vE(S:ZN)(a:Nat):Bool:=S.aU.any λr=>inB r.2 a
def ib(S:ZN):Int:=
 if bQ (zl S) S.aU.length≠0 then bQ (zl S) S.aU.length
 else if((List.range S.aj.length).all λa=>vE S a)=YL then 7 else 0
def lh(S:ZN)(i:Nat):Int:=
 let f:=S.bo.getD i default
 let kind:=(S.aj.getD f.1.toNat default).2
 if f.1<0\/(S.aj.length:Int)<=f.1 then 2
 else if((f.2.1==1&&kind==2&&(f.2.2==0||f.2.2==1))||(f.2.1==2&&kind==3&&f.2.2==0))=YL then 7
 else if(f.1==S.label||(S.bo.take i).any λg=>g.1==f.1)=YK then 9 else 0
def bF(S:ZN):Int:=
 if S.aj.length=0\/12<S.aj.length\/S.aU.length=0\/6<S.aU.length\/8<S.bo.length then 3
 else if bQ (hZ S) S.aj.length≠0 then bQ (hZ S) S.aj.length
 else if ib S≠0 then ib S
 else if bQ (lh S) S.bo.length≠0 then bQ (lh S) S.bo.length
 else if S.label< -1\/(S.aj.length:Int)<=S.label then 2
 else if 0<=S.label/\(S.aj.getD S.label.toNat default).2≠2 then 7 else 0
namespace Mk
open Go.Proofs.YthicoeegbdboeaaGreatDoor
def chr(n:Int):er:=⟨#[UInt8.ofNat n.toNat]⟩
def nm(p:UInt8)(i:Nat):er:=⟨#[p]⟩++chr (97+i)
theorem sw:∀(l:cP)(lo hi:Int),l.Pairwise (· < ·)->(∀a∈l,lo<=a/\a<=hi)->(l.length:Int)<=max 0 (hi+1-lo):=by
 intro l;induction l with
 |nil=>intro lo hi _ _;simp;omega
 | cons x t ih=>
   intro lo hi hp hb;have r:=WX.1 hp;have u:=hb x Zm;have:=ih (x+1) hi r.2 (λa ha=>⟨by have:=r.1 a ha;omega,(hb a (by simp[ha])).2⟩);simp only[VI];omega
theorem P6{q:Nat}(u:1<=q)(z:q<l.length)(h:l[q]<=l[q-1]):LY l=YL:=by
 unfold LY;rw[X6];refine⟨q-1,Zn,?_⟩;have e:l.getD (q-1+1) 0=l[q]:=by grind
 have r:l.getD (q-1) 0=l[q-1]:=by grind
 rw[e,r];simp;omega
theorem A5(h:∀p,p+1<l.length->l.getD p 0<l.getD (p+1) 0):LY l=YK:=by grind[LY,IN]
theorem P3{q:Nat}(r:q<l.length)(h:¬ (0<=l[q]/\l[q]<n)):(l.all λa=>decide (0<=a)&&decide (a<n))=YL:=by rw[X6];exact⟨l[q],ak r,Zn⟩
theorem Bf(h:∀a∈l,0<=a/\a<n):(l.all λa=>decide (0<=a)&&decide (a<n))=YK:=by rw[IN];intro a ha;have:=h a ha;simp;omega
theorem UB(h:l.Pairwise (· < ·)):LY l=YK:=by grind[A5,Wz.1,List.getD]
theorem wG(S:ZN)(k:Nat)(r:k<S.aU.length):zl S k=if fJ S.aU[k].1=YL then 14 else if hasB ((S.aU.map (·.1)).take k) S.aU[k].1=YK then 9 else if S.aU[k].2=[]then 7
  else if(S.aU[k].2.all λa=>decide (0<=a)&&decide (a<S.aj.length))=YL then 2 else if LY S.aU[k].2=YL then 10 else 0:=by
 have u:(S.aU.map (·.1)).getD k default=S.aU[k].1:=by simp[List.getD,r]
 have z:S.aU.getD k default=S.aU[k]:=by simp[List.getD,r]
 unfold zl fU;rw[u,z];by_cases h1:fJ S.aU[k].1=YL
 .simp[h1]
 grind
theorem D4(S:ZN)(k:Nat)(r:k<S.aj.length):hZ S k=if fJ S.aj[k].1=YL then 14 else if hasB ((S.aj.map (·.1)).take k) S.aj[k].1=YK then 9 else if S.aj[k].2<1\/3<S.aj[k].2 then 7 else 0:=by
 have u:(S.aj.map (·.1)).getD k default=S.aj[k].1:=by simp[List.getD,r]
 have z:S.aj.getD k default=S.aj[k]:=by simp[List.getD,r]
 unfold hZ fU;rw[u,z];by_cases h1:fJ S.aj[k].1=YL
 .simp[h1]
 grind
theorem sD (S:ZN) (k:Nat) (r:k<S.bo.length):lh S k=if S.bo[k].1<0\/(S.aj.length:Int)<=S.bo[k].1 then 2
  else if((S.bo[k].2.1==1&&(S.aj.getD S.bo[k].1.toNat default).2==2&&(S.bo[k].2.2==0||S.bo[k].2.2==1))||(S.bo[k].2.1==2&&(S.aj.getD S.bo[k].1.toNat default).2==3&&S.bo[k].2.2==0))=YL then 7
  else if(S.bo[k].1==S.label||(S.bo.take k).any λg=>g.1==S.bo[k].1)=YK then 9 else 0:=by grind[List.getD,lh]
theorem yh(r:bQ (zl S) S.aU.length=0)(u:((List.range S.aj.length).all λa=>vE S a)=YK):ib S=0:=by unfold ib;rw[AS (by simp[r]),AS (by rw[u];decide)]
def limB(S:ZN):Prop:=¬ (S.aj.length=0\/12<S.aj.length\/S.aU.length=0\/6<S.aU.length\/8<S.bo.length)
theorem sY(h:limB S)(r:bQ (hZ S) S.aj.length=0)(u:ib S=0)(z:bQ (lh S) S.bo.length=0):bF S=if S.label< -1\/(S.aj.length:Int)<=S.label then 2 else if 0<=S.label/\(S.aj.getD S.label.toNat default).2≠2 then 7 else 0:=by unfold bF;rw[AS h,AS (by simp[r]),AS (by simp[u]),AS (by simp[z])]
def tm(i n:Nat):Bool:=decide (97<=n/\n<=122)||(decide (i≠0)&&(n==45||decide (48<=n/\n<=57)))
theorem zP(c:UInt8):tm 0 c.toNat=ru c:=by rw[V0];simp[tm,ru,UInt8.le_iff_toNat_le]
theorem x8(k:Nat)(c:UInt8):tm (k+1) c.toNat=Rq c:=by
 rw[V0];have e:c=45↔c.toNat=45:=by
  constructor
  .rintro rfl;rfl
  .intro h;exact Yu.1 h
 simp[tm,Rq,ru,UInt8.le_iff_toNat_le,e];omega
theorem vg(l:List UInt8):Mt l=(((List.range l.length).all λk=>tm k (l.getD k 0).toNat)&&decide (1<=l.length)&&decide (l.length<=12)):=by
 cases l with
 |nil=>simp[Mt]
 | cons c r=>
   rw[V0];simp only[Mt,aJ,IN,VJ,Wi,VI];constructor
   .rintro⟨⟨h1,h2⟩,h3⟩;refine⟨⟨λk hk=>?_,Zi⟩,Zi⟩;cases k with
    |zero=>rw[List.getD_cons_zero,zP];exact h1
    | succ k=>
      rw[List.getD_cons_succ,x8];have u:k<r.length:=Zi;rw[List.getD,AT u];exact h2 _ (ak u)
   rintro⟨⟨h1,_⟩,h3⟩;refine⟨⟨?_,λx hx=>?_⟩,Zi⟩
   .have:=h1 0 Zi;rwa [List.getD_cons_zero,zP]at this
   obtain⟨k,hk,rfl⟩:=Xp hx;have:=h1 (k+1) Zi;rwa [List.getD_cons_succ,x8,List.getD,AT hk]at this
theorem AX(s:er)(k:Nat)(r:k<s.size)(h:tm k (s.data.toList.getD k 0).toNat=YL):fJ s=YL:=by
 unfold fJ;rw[vg];have:((List.range s.data.toList.length).all λk=>tm k (s.data.toList.getD k 0).toNat)=YL:=by
  rw[X6];exact⟨k,by simp;exact r,by rw[h];simp⟩
 rw[this];rfl
theorem DD(s:er)(h:∀k,k<s.size->tm k (s.data.toList.getD k 0).toNat=YK):fJ s=(decide (1<=s.size)&&decide (s.size<=12)):=by
 unfold fJ;rw[vg];have:((List.range s.data.toList.length).all λk=>tm k (s.data.toList.getD k 0).toNat)=YK:=by simp_all
 rw[this];simp
theorem Uy:∀i,i<26->∀j,j<26->nm 97 i=nm 97 j->i=j:=Zk
theorem MB:∀i,i<6->∀j,j<6->nm 114 i=nm 114 j->i=j:=Zk
theorem RI:∀i,i<26->fJ (nm 97 i)=YK:=Zk
theorem LV:∀i,i<6->fJ (nm 114 i)=YK:=Zk
def sj(at':List (er×Int)):Prop:=∀j (hj:j<at'.length),at'[j].1=nm 97 j/\1<=at'[j].2/\at'[j].2<=3
def uP(rs:List (er×cP))(n:Nat)(o:Nat:=0):Prop:=∀j (hj:j<rs.length),rs[j].1=nm 114 (j+o)/\rs[j].2≠[]/\rs[j].2.Pairwise (· < ·)/\∀a∈rs[j].2,0<=a/\a<n
def HE(rs:List (er×cP))(n:Nat):Prop:=∀a,a<n->∃x∈rs,(a:Int)∈x.2
def Ut(at':List (er×Int))(lb:Int)(k:Nat)(f:Int×Int×Int):Prop:=
 ∃a:Nat,f.1=(a:Int)/\a<k/\(a:Int)≠lb/\((f.2.1=1/\(at'.getD a default).2=2/\(f.2.2=0\/f.2.2=1))\/(f.2.1=2/\(at'.getD a default).2=3/\f.2.2=0))
def cW(at':List (er×Int))(fs:List (Int×Int×Int))(lb:Int)(k:Nat):Prop:=
 (fs.map (·.1)).Pairwise (· < ·)/\(∀f∈fs,Ut at' lb k f)/\(lb= -1\/∃a:Nat,lb=(a:Int)/\a<k/\(at'.getD a default).2=2)
theorem yq{at':List (er×Int)}(h:sj at')(r:1<=x)(u:x<=3):sj (at'++[(nm 97 at'.length,x)]):=by
 intro j hj;by_cases e:j<at'.length
 .rw[List.getElem_append_left e];exact h j e
 grind
theorem AE{rs:List (er×cP)}(h:uP rs n)(r:n<=m):uP rs m:=by intro j hj;obtain⟨h1,h2,h3,h4⟩:=h j hj;exact⟨h1,h2,h3,λa ha=>by have:=h4 a ha;omega⟩
theorem Bv{rs:List (er×cP)}(h:uP rs n)(r:l≠[])(u:l.Pairwise (· < ·))(z:∀a∈l,0<=a/\a<n):uP (rs++[(nm 114 rs.length,l)]) n:=by
 intro j hj;by_cases e:j<rs.length
 .rw[List.getElem_append_left e];exact h j e
 grind
theorem Es(h:l.Pairwise (· < ·))(r:∀a∈l,a<x):(l++[x]).Pairwise (· < ·):=by grind
theorem dJ{at':List (er×Int)}{fs:List (Int×Int×Int)}(h:cW at' fs lb k):cW at' fs lb (k+1):=by
 refine⟨h.1,λf hf=>?_,?_⟩
 .obtain⟨a,h1,h2,h3⟩:=h.2.1 f hf;exact⟨a,h1,Zi,h3⟩
 rcases h.2.2 with h1|⟨a,h1,h2,h3⟩
 .exact .inl h1
 exact .inr ⟨a,h1,Zi,h3⟩
theorem wP{at':List (er×Int)}{fs:List (Int×Int×Int)}(h:cW at' fs lb k)(r:(at'.getD k default).2=2):cW at' fs (k:Int) (k+1):=by refine⟨h.1,λf hf=>?_,.inr ⟨k,O,Zi,r⟩⟩;obtain⟨a,h1,h2,_,h3⟩:=h.2.1 f hf;exact⟨a,h1,Zi,Zi,h3⟩
theorem j5{at':List (er×Int)}{fs:List (Int×Int×Int)}(h:cW at' fs lb k){y:Int}(r:lb= -1\/lb<k)
  (u:(x=1/\(at'.getD k default).2=2/\(y=0\/y=1))\/(x=2/\(at'.getD k default).2=3/\y=0)):cW at' (fs++[((k:Int),x,y)]) lb (k+1):=by
 refine⟨?_,λf hf=>?_,(dJ h).2.2⟩
 .rw[Wf];refine Es h.1 λa ha=>?_
  obtain⟨f,hf,rfl⟩:=VS.1 ha;obtain⟨a,h1,h2,_⟩:=h.2.1 f hf;show f.1<(k:Int);omega
 rcases We.1 hf with hf|hf
 .exact(dJ h).2.1 f hf
 simp at hf;subst hf;exact⟨k,O,Zi,Zi,u⟩
theorem uo{at':List (er×Int)}{fs:List (Int×Int×Int)}(h:cW at' fs lb k): -1<=lb/\lb<k:=by rcases h.2.2 with h1|⟨a,h1,h2,_⟩<;>omega
theorem eW{at':List (er×Int)}{fs:List (Int×Int×Int)}(h:cW at' fs lb k):fs.length<=k:=by
 have:=sw (fs.map (·.1)) 0 (k-1) h.1 (λa ha=>by
  obtain⟨f,hf,rfl⟩:=VS.1 ha;obtain⟨a,h1,h2,_⟩:=h.2.1 f hf;omega)
 simp at this;omega
structure Made(S:ZN)(most:Nat)(o:Nat:=0):Prop where
 a1:1<=S.aj.length
 a2:S.aj.length<=most
 r1:1<=S.aU.length
 r2:S.aU.length+o<=3
 at':sj S.aj
 rs:uP S.aU S.aj.length o
 cv:HE S.aU S.aj.length
 fs:cW S.aj S.bo S.label S.aj.length
theorem ko{o:Nat}(h:Made S most o)(M:most<=8):bF S=0:=by
 have B:=h.a2;have D:=h.r2;have E:bQ (hZ S) S.aj.length=0:=by
  rw[km];intro k hk;rw[D4 S k hk];obtain⟨h1,h2,h3⟩:=h.at' k hk;rw[AS (by rw[h1,RI k Zi];decide),AS,AS Zi];unfold hasB;simp only[VJ];intro hmem;obtain⟨j,hj,hjk⟩:=XQ.1 hmem;have r:j<S.aj.length:=by simp at hj;omega
  rw[X4,(h.at' j r).1,h1]at hjk;have:=Uy j Zi k Zi hjk;simp at hj;omega
 have G:bQ (zl S) S.aU.length=0:=by
  rw[km];intro k hk;rw[wG S k hk];obtain⟨h1,h2,h3,h4⟩:=h.rs k hk;rw[AS (by rw[h1,LV (k+o) Zi];decide),AS,AS h2,AS (by rw[Bf h4];decide),AS (by rw[UB h3];decide)];unfold hasB;simp only[VJ];intro hmem;obtain⟨j,hj,hjk⟩:=XQ.1 hmem;have r:j<S.aU.length:=by simp at hj;omega
  rw[X4,(h.rs j r).1,h1]at hjk;have:=MB (j+o) Zi (k+o) Zi hjk;simp at hj;omega
 have z:ib S=0:=by
  refine yh G ?_;rw[IN];intro a ha;obtain⟨x,hx,hax⟩:=h.cv a (by simpa using ha);unfold vE;rw[Wv];exact⟨x,hx,by simpa[inB]using hax⟩
 have H:=eW h.fs;have I:bQ (lh S) S.bo.length=0:=by
  rw[km];intro k hk;rw[sD S k hk];obtain⟨a,h1,h2,h3,h4⟩:=h.fs.2.1 _ (ak hk);rw[h1,Wh,AS Zi,AS,AS]
  .rw[Wr,not_or];refine⟨by simpa using h3,?_⟩;rw[Wv];rintro⟨f,hf,hfa⟩;obtain⟨j,hj,rfl⟩:=XQ.1 hf;have:=Wz.1 h.fs.1 j k Zn (by simpa using hk) Zi;simp at this hfa;omega
  grind
 have u:limB S:=by unfold limB;have:=h.a1;have:=h.r1;omega
 rw[sY u E z I];have L:=uo h.fs;rw[AS Zi,AS];rintro⟨g1,g2⟩;rcases h.fs.2.2 with g3|⟨a,g3,g4,g5⟩
 .omega
 grind
def ln(l:cP)(n:Nat):Prop:=l.Pairwise (· < ·)/\(∀a∈l,0<=a/\a<n)
theorem ln.len(h:ln l n):l.length<=n:=by have:=sw l 0 (n-1) h.1 (λa ha=>by have:=h.2 a ha;omega);omega
theorem ln.snoc(h:ln l n):ln (l++[(n:Int)]) (n+1):=by
 refine⟨Es h.1 λa ha=>(h.2 a ha).2,λa ha=>?_⟩;rcases We.1 ha with h1|h1
 .have:=h.2 a h1;omega
 simp at h1;omega
theorem ln.mono(h:ln l n)(r:n<=m):ln l m:=⟨h.1,λa ha=>by have:=h.2 a ha;omega⟩
def G5(at':List (er×Int))(rs:List (er×cP))(most k:Nat):Prop:=
 sj at'/\uP rs at'.length/\HE rs at'.length/\at'.length<=most/\rs.length=k/\(1<=k->1<=at'.length)
def M9(at' at2:List (er×Int))(l:cP)(most:Nat):Prop:=
 sj at2/\at2.length<=most/\at'.length<=at2.length/\ln l at2.length/\∀a:Nat,at'.length<=a->a<at2.length->(a:Int)∈l
theorem Dp{at' at2:List (er×Int)}(h:M9 at' at2 l most)(u:at2.length<most)(r:x∈[1,2,2,3]):M9 at' (at2++[(nm 97 at2.length,x)]) (l++[(at2.length:Int)]) most:=by
 obtain⟨h1,h2,h3,h4,h5⟩:=h;refine⟨yq h1 (by simp at r;omega) (by simp at r;omega),Zn,Zn,by simpa using h4.snoc,λa ha1 ha2=>?_⟩;by_cases e:a<at2.length
 .grind
 grind
def Ni(at' at2:List (er×Int))(l:cP)(most:Nat):Prop:=M9 at' at2 l most/\l≠[]/\1<=at2.length
theorem rq{at' at2:List (er×Int)}{rs:List (er×cP)}(h:G5 at' rs most k)(r:Ni at' at2 l most):G5 at2 (rs++[(nm 114 k,l)]) most (k+1):=by
 obtain⟨h1,h2,h3,h4,h5,h6⟩:=h;obtain⟨⟨g1,g2,g3,g4,g5⟩,g6,g7⟩:=r;subst h5;refine⟨g1,Bv (AE h2 g3) g6 g4.1 g4.2,λa ha=>?_,g2,Zm,λ_=>g7⟩;by_cases e:a<at'.length
 .obtain⟨x,hx,hax⟩:=h3 a e;exact⟨x,Y5 _ hx,hax⟩
 simp_all
end Mk
section
open Mk
theorem gm(p:er)(i:Nat)(z:p.size<=1000)(B:i<26):ZK prog 38 [.str p,ZU i] (· = .str (p++chr (97+i))):=by
 refine ZC func38 O ntmps38 λ_ _ _ _=>?_
 have r:(i:Int).tmod 26=i:=Int.tmod_eq_of_lt Zi Zi;have u:(97+i:Int)=((UInt8.ofNat (97+i)).toNat:Int):=by
  simp[X5 (show 97+i<256 by omega)]
 refine Z1 O<|Z2 O<|Rs O (XJ.cast (v':= ZI i) (fC O O Zi) (by rw[r]))<|A1 O<|Rs O (XJ.cast (v':= .pv (.int .u8 (((UInt8.ofNat (97+i)).toNat:Nat):Int))) (eX aan aau O) (by rw[<-u,IntWalk.u8_in _ Zi]))<|A1 O<|Rs O (J3 [UInt8.ofNat (97+i)] aav aau aam (.inr ⟨_,_,_,_,O,O,O⟩))<|Rs O (rS O O (show p.size+1<=_ by omega))<|A1 O<|AW.ret ?_;refine⟨_,_,O,O,ah PV.str ?_⟩
 congr 1
theorem uz(L:cP)(k:Nat)(l:cP)(D:L.length<=600)(E:k<=L.length)(hl:l≠[])(G:l.length<=1000):∃x∈l,FnM prog 39 73 (jo L k) [al l] (λv c=>v= .int .i64 x/\c=jo L (sNk L k)):=by
 have z:0<l.length:=Ww.2 hl;have B:=j1 L k l.length Zi;obtain⟨j,hj⟩:=VG B.1;have r:j<l.length:=Zi;refine⟨l[j],ak r,?_⟩;refine FnM.of func39 O ntmps39 Zm O Zm λ_ _ _ _=>?_
 have H:=bo r;have u:=aU r;refine Z1 O<|Z4 O<|Rs O (bV call7 (gu L k l.length D E Zi Zi) O O)<|Rs O (ai j aal sz3 O O hj r u)<|A2 O Zl ?_;exact A1 O<|AW.ret<|⟨_,jo L (sNk L k),O,O,O,O⟩
theorem gn{L:cP}(h:k<=L.length):sNk L k<=L.length:=by unfold sNk;split<;>omega
def aR(l:List (er×Int)):na:=l.flatMap λa=>[.str a.1,.int .i64 a.2]
def aZ(l:List (er×cP)):na:=l.flatMap λr=>[.str r.1,al r.2]
def aK(l:List (Int×Int×Int)):na:=l.flatMap λf=>[.int .i64 f.1,.int .i64 f.2.1,.int .i64 f.2.2]
abbrev schC(S:ZN):na:=[.sl WC S.aj.length (aR S.aj),.sl WC S.aU.length (aZ S.aU),.sl WC S.bo.length (aK S.bo),.int .i64 S.label]
abbrev fp(S:ZN):PV:= .agg (schC S)
theorem cg(f:α->List β)(n:Nat)(h:∀a,(f a).length=n):∀l:List α,(l.flatMap f).length=l.length*n
 |[]=>by simp
 |a::l=>by rw[Wc,Hb,h,cg f n h l,VI,Za,XA]
theorem jk(f:α->List β)(n:Nat)(h:∀a,(f a).length=n):∀(l:List α)(k j:Nat)(hk:k<l.length),j<n->(l.flatMap f)[k*n+j]? =(f l[k])[j]?
 |[],_,_,hk,_=>by simp at hk
 |a::l,0,j,_,hj=>by grind
 | a::l,k+1,j,hk,hj=>by
   rw[Wc,List.getElem?_append_right (by rw[h,Za];omega),h,show(k+1)*n+j-n=k*n+j by rw[Za];omega];rw[jk f n h l k j (by simpa using hk) hj];simp
theorem kn(l:List (er×Int)):(aR l).length=l.length*2:=cg _ 2 (λ_=>rfl) l
theorem zd(l:List (er×cP)):(aZ l).length=l.length*2:=cg _ 2 (λ_=>rfl) l
theorem kH(l:List (Int×Int×Int)):(aK l).length=l.length*3:=cg _ 3 (λ_=>rfl) l
theorem qR(l:List (er×Int))(x:er×Int):aR (l++[x])=aR l++[.str x.1,.int .i64 x.2]:=by simp[aR]
theorem oo(l:List (er×cP))(x:er×cP):aZ (l++[x])=aZ l++[.str x.1,al x.2]:=by simp[aZ]
theorem lC(l:List (Int×Int×Int))(x:Int×Int×Int):aK (l++[x])=aK l++[.int .i64 x.1,.int .i64 x.2.1,.int .i64 x.2.2]:=by simp[aK]
theorem jW(l:cP)(x:Int):aI (l++[x])=aI l++[.int .i64 x]:=Zm
abbrev Sj:Ob:= .mix 30 [.pv nS,.pv nS,.pv nS,ZI 0]
abbrev Tx(a r f:Nat)(lb:Int):Ob:= .mix 30 [.bz 2 2 a,.bz 3 2 r,.bz 4 3 f,ZI lb]
noncomputable section
open Mk Jn
abbrev aad(a:List Int)(b:Nat)(c:List (ByteArray×Int))(d:List (ByteArray×List Int)):List (Nat×Ob):=[(big,xe a b),(0,Sj),(1,Tx c.length d.length 0 (-1)),(2,.bD 56 (aR c)),(3,.bD 58 (aZ d)),(4,.bD 60 [])]
end
theorem eZ(f:α->List β)(n:Nat)(h:∀a,(f a).length=n):∀(l:List α)(k:Nat)(hk:k<l.length),((l.flatMap f).drop (k*n)).take n=f l[k]
 |[],_,hk=>by simp at hk
 |a::l,0,_=>by grind
 | a::l,k+1,hk=>by
   rw[Wc,List.drop_append,Wy (by rw[h,Za];omega),WZ,h,show(k+1)*n-n=k*n by rw[Za];omega];rw[eZ f n h l k (by simpa using hk)];simp
theorem Ab(L:cP)(k0 most:Nat)(D:L.length<=600)(W:k0<=L.length)(hm1:1<=most)(hm2:most<=8):FnM prog 17 73 (jo L k0) [.int .i64 most] (λv c=>(∃S,Made S most/\v=fp S)/\∃k',k'<=L.length/\c=jo L k'):=by
 refine FnM.ofC (rt:=30) (k:=4) func17 O ntmps17 Zm O Zm ⟨_,underlying30,O⟩ sz30 λ_ _ _ _=>?_
 have hb:=j1 L k0 3 Zi;obtain⟨nn,hnn⟩:=VG (show 0<=1+sNv L k0 3 by omega);have H:=gn W;generalize hke:sNk L k0=k1 at H;refine Z1 O<|Z3 O<|Z1 O<|Rs O (XJ.cast (v':= ZI nn) (bV call37 (FQ L k0 1 3 D W Zi Zi Zi) O O) (by rw[<-hnn];rfl))<|A1 O ?_;rw[hke];refine Vm (St.cD 1 0 2 2 56 O O O)<|Vm (St.cD 1 1 3 2 58 O O O)<|Vm (St.cD 1 2 4 3 60 O O O)<|Z1 O<|AW.block<|AW.loop (st:=λx:Nat×List (er×Int)×List (er×cP)×Nat=>ZT [(0,.ptr big 0),(1,ZI most),(4,.ptr 0 0),(5,.ptr 1 0),(6,ZI nn),(7,ZI x.1)] [(big,xe L x.2.2.2),(0,Sj),(1,Tx x.2.1.length x.2.2.1.length 0 (-1)),(2,.bD 56 (aR x.2.1)),(3,.bD 58 (aZ x.2.2.1)),(4,.bD 60 [])] 5)
  (I:=λx=>x.1<=nn/\G5 x.2.1 x.2.2.1 most x.1/\x.2.2.2<=L.length) (μ:=λx=>nn-x.1) (x0:=(0,[],[],k1)) (YS O) ⟨sh _,⟨λj hj=>by simp at hj,λj hj=>by simp at hj,λa ha=>by simp at ha,Zm,O,λh=>by omega⟩,H⟩ ?_
 rintro⟨k,at',rs,k2⟩ ⟨hk,hhead,hk2⟩;simp only at hk hhead hk2 ⊢;have M:at'.length<=most:=hhead.2.2.2.1;have hrl:rs.length=k:=hhead.2.2.2.2.1;have P:=kn at';have hRl:=zd rs;refine Z3 O<|AW.mM O (λhc=>?_) (λhc=>?_)
 .refine Vl<|Z1 O<|Vm (Vs 8 5 1 3 O O)<|Z4 O<|AW.block ?_;refine AW.loop (st:=λx:Nat×cP×Nat=>ZT [(0,.ptr big 0),(1,ZI most),(4,.ptr 0 0),(5,.ptr 1 0),(6,ZI nn),(7,ZI k),(8,.bz 5 1 x.2.1.length),(23,ZI at'.length),(24,ZI x.1)] [(big,xe L x.2.2),(0,Sj),(1,Tx at'.length rs.length 0 (-1)),(2,.bD 56 (aR at')),(3,.bD 58 (aZ rs)),(4,.bD 60 []),(5,.bD 3 (aI x.2.1))] 6)
   (I:=λx=>x.1<=at'.length/\ln x.2.1 x.1/\x.2.2<=L.length) (μ:=λx=>at'.length-x.1) (x0:=(0,[],k2)) (YS O) ⟨sh _,⟨Zm,Zm⟩,hk2⟩ ?_
  rintro⟨j,l,k3⟩ ⟨hj,hlok,hk3⟩;simp only at hj hlok hk3 ⊢;have T:=hlok.len;refine Z1 O<|Gp O (λhc=>?_) (λhc=>?_)
  .refine Vl<|Z2 O<|Z1 O<|Rs O (bV call7 (gu L k3 3 D hk3 Zi Zi) O O)<|A1 O ?_;refine AW.cond O (λhc=>?_) (λhc=>?_)
   .exact Gr O<|Ar 5 O<|Z2 O<|⟨(j+1,l++[(j:Int)],sNk L k3),Vo [0,1,2,3,4,7] ⟨O,O,O,O,O,O,by simp;rfl,O,O,Zp⟩ ⟨O,O,O,O,O,O,by rw[jW];rfl,Zp⟩ O O Zm O,⟨Zi,hlok.snoc,gn hk3⟩,Zi⟩
   exact Vl<|Z2 O<|⟨(j+1,l,sNk L k3),YS O,⟨Zi,hlok.mono Zi,gn hk3⟩,Zi⟩
  obtain rfl:j=at'.length:=Zi;refine AW.exit ?_;have Y:=j1 L k3 3 Zi;refine Z1 O<|Rs O (bV call7 (gu L k3 3 D hk3 Zi Zi) O O)<|A1 O<|AW.block<|AW.loop (st:=λx:List (er×Int)×cP×Int×Nat=>ZT [(0,.ptr big 0),(1,ZI most),(4,.ptr 0 0),(5,.ptr 1 0),(6,ZI nn),(7,ZI k),(8,.bz 5 1 x.2.1.length),(10,ZI x.2.2.1)] [(big,xe L x.2.2.2),(0,Sj),(1,Tx x.1.length rs.length 0 (-1)),(2,.bD 56 (aR x.1)),(3,.bD 58 (aZ rs)),(4,.bD 60 []),(5,.bD 3 (aI x.2.1))] 6)
   (I:=λx=>M9 at' x.1 x.2.1 most/\ -1000+x.1.length*(-1)<=x.2.2.1/\x.2.2.1<=1000/\x.2.2.2<=L.length) (μ:=λx=>most-x.1.length) (x0:=(at',l,sNv L k3 3,sNk L k3)) (YS O) ⟨⟨hhead.1,M,BY _,hlok,λa h1 h2=>absurd h2 (Nat.not_lt.2 h1)⟩,Zo,Zo,gn hk3⟩ ?_
  clear hlok T Y hk3;rintro⟨at2,l,c,k3⟩ ⟨hmid,hc1,hc2,hk3⟩;simp only at hmid hc1 hc2 hk3 ⊢;have ab:at2.length<=most:=hmid.2.1;have T:=hmid.2.2.2.1.len;have ac:=kn at2;obtain⟨px,hpx,hpick⟩:=uz L k3 [1,2,2,3] D hk3 Zm Zm;by_cases hcp:0<c
  .refine Z1 O<|Rs O (XJ.cast (v':= .pv (.bool YK)) (aY O O O) Zn)<|Ar 12 O ?_;refine AW.mM O (λhc=>?_) (λhc=>?_)
   .refine Vl<|Gr O<|Ar 7 O<|VC 14 O<|Dr 5 O<|YM O (λτ h=>aa call38 (gm ⟨#[97]⟩ at2.length Zk Zi) (h.aE O))<|D1 O O<|YM O (λτ h=>ax WC Zm xg O Zk Zk (h.uU O O) O)<|YQ [_] O (λτ h=>bV call39 hpick (h.args.trans O) (Eo h 0 O))<|Dr 5 O ⟨Zj,Z3 O ?_⟩;refine⟨(at2++[(nm 97 at2.length,px)],l++[(at2.length:Int)],c-1,sNk L k3),Vo [0,1,9,3,4,7] ⟨O,O,O,O,O,O,by simp;rfl,O,Zp⟩ ⟨O,O,by simp;rfl,by rw[qR];rfl,O,O,by rw[jW];rfl,Zp⟩ O O Zm O,⟨Dp hmid Zi hpx,by simp only[Hb,VV];omega,Zo,gn hk3⟩,?_⟩;simp only[Hb,VV];omega
   refine AW.exit ?_;refine AW.cut (st:=λl:cP=>ZT [(0,.ptr big 0),(1,ZI most),(4,.ptr 0 0),(5,.ptr 1 0),(6,ZI nn),(7,ZI k),(8,.pv (al l))] (aad L k3 at2 rs) 5) (I:=λl=>Ni at' at2 l most) ?_ ?_
   .refine Z3 O ?_;have z:l.length=0->most<=at2.length:=Zi;refine AW.cond O (λhc=>?_) (λhc=>?_)
    .have hl0':l=[]:=Wl (by simpa using hc);subst hl0';have hf:=z O;exact Gr O<|Rs O (ax WC Zm xg O Zk Zk O O)<|A1 O<|⟨[0],YS O,⟨hmid.1,hmid.2.1,hmid.2.2.1,⟨Zm,Zn⟩,λa h1 h2=>absurd (hmid.2.2.2.2 a h1 h2) Zm⟩,Zm,Zi⟩
    have r:l≠[]:=λe=>by subst e;simp at hc
    have G:0<l.length:=Ww.2 r;exact Vl<|⟨l,St.le.trans (Vq 5 O O) (Vn ⟨O,O,O,O,O,O,by simp[al];rfl,Zp⟩ (aO O) O O),hmid,r,Zi⟩
   .intro l2 hend;refine VC 10 O<|Dr 3 O<|YM O (λτ h=>aa call38 (gm ⟨#[114]⟩ k Zk Zi) (h.aE O))<|Dr 6 O ⟨Zj,Z3 O ?_⟩;refine⟨(k+1,at2,rs++[(nm 114 k,l2)],k3),Vo [0,1,2,6,4] (aT O) ⟨O,O,by simp;rfl,O,by rw[oo];rfl,O,Zp⟩ O O Zm O,⟨Zo,rq hhead hend,hk3⟩,Zo⟩
  by_cases hl0:l.length=0
  .refine Z1 O<|Rs O (XJ.cast (v':= .pv (.bool YL)) (aY O O O) Zn)<|Y3 O<|Rg O (XJ.cast (v':= .pv (.bool YK)) (aY O O O) (by simp[hl0]))<|Ar 8 O ?_;refine AW.mM O (λhc=>?_) (λhc=>?_)
   .refine Vl<|Gr O<|Ar 7 O<|VC 14 O<|Dr 5 O<|YM O (λτ h=>aa call38 (gm ⟨#[97]⟩ at2.length Zk Zi) (h.aE O))<|D1 O O<|YM O (λτ h=>ax WC Zm xg O Zk Zk (h.uU O O) O)<|YQ [_] O (λτ h=>bV call39 hpick (h.args.trans O) (Eo h 0 O))<|Dr 5 O ⟨Zj,Z3 O ?_⟩;refine⟨(at2++[(nm 97 at2.length,px)],l++[(at2.length:Int)],c-1,sNk L k3),Vo [0,1,9,3,4,7] ⟨O,O,O,O,O,O,by simp;rfl,O,Zp⟩ ⟨O,O,by simp;rfl,by rw[qR];rfl,O,O,by rw[jW];rfl,Zp⟩ O O Zm O,⟨Dp hmid Zi hpx,by simp only[Hb,VV];omega,Zo,gn hk3⟩,?_⟩;simp only[Hb,VV];omega
   refine AW.exit ?_;refine AW.cut (st:=λl:cP=>ZT [(0,.ptr big 0),(1,ZI most),(4,.ptr 0 0),(5,.ptr 1 0),(6,ZI nn),(7,ZI k),(8,.pv (al l))] (aad L k3 at2 rs) 5) (I:=λl=>Ni at' at2 l most) ?_ ?_
   .refine Z3 O ?_;have z:l.length=0->most<=at2.length:=Zi;refine AW.cond O (λhc=>?_) (λhc=>?_)
    .have hl0':l=[]:=Wl (by simpa using hc);subst hl0';have hf:=z O;exact Gr O<|Rs O (ax WC Zm xg O Zk Zk O O)<|A1 O<|⟨[0],YS O,⟨hmid.1,hmid.2.1,hmid.2.2.1,⟨Zm,Zn⟩,λa h1 h2=>absurd (hmid.2.2.2.2 a h1 h2) Zm⟩,Zm,Zi⟩
    have r:l≠[]:=λe=>by subst e;simp at hc
    have G:0<l.length:=Ww.2 r;exact Vl<|⟨l,St.le.trans (Vq 5 O O) (Vn ⟨O,O,O,O,O,O,by simp[al];rfl,Zp⟩ (aO O) O O),hmid,r,Zi⟩
   .intro l2 hend;refine VC 10 O<|Dr 3 O<|YM O (λτ h=>aa call38 (gm ⟨#[114]⟩ k Zk Zi) (h.aE O))<|Dr 6 O ⟨Zj,Z3 O ?_⟩;refine⟨(k+1,at2,rs++[(nm 114 k,l2)],k3),Vo [0,1,2,6,4] (aT O) ⟨O,O,by simp;rfl,O,by rw[oo];rfl,O,Zp⟩ O O Zm O,⟨Zo,rq hhead hend,hk3⟩,Zo⟩
  have U:((l.length:Int)==0)=YL:=by rw[Xo];omega
  refine Z1 O<|Rs O (XJ.cast (v':= .pv (.bool YL)) (aY O O O) Zn)<|Y3 O<|Rg O (XJ.cast (v':= .pv (.bool YL)) (aY O O O) (by rw[U]))<|Ar 8 O<|AW.cond O (λhc=>absurd hc Zm) (λhc=>?_);refine AW.exit<|AW.cut (st:=λl:cP=>ZT [(0,.ptr big 0),(1,ZI most),(4,.ptr 0 0),(5,.ptr 1 0),(6,ZI nn),(7,ZI k),(8,.pv (al l))] (aad L k3 at2 rs) 5) (I:=λl=>Ni at' at2 l most) ?_ ?_
  .refine Z3 O ?_;have z:l.length=0->most<=at2.length:=Zi;refine AW.cond O (λhc=>?_) (λhc=>?_)
   .have hl0':l=[]:=Wl (by simpa using hc);subst hl0';have hf:=z O;exact Gr O<|Rs O (ax WC Zm xg O Zk Zk O O)<|A1 O<|⟨[0],YS O,⟨hmid.1,hmid.2.1,hmid.2.2.1,⟨Zm,Zn⟩,λa h1 h2=>absurd (hmid.2.2.2.2 a h1 h2) Zm⟩,Zm,Zi⟩
   have r:l≠[]:=λe=>by subst e;simp at hc
   have G:0<l.length:=Ww.2 r;exact Vl<|⟨l,St.le.trans (Vq 5 O O) (Vn ⟨O,O,O,O,O,O,by simp[al];rfl,Zp⟩ (aO O) O O),hmid,r,Zi⟩
  .intro l2 hend;refine VC 10 O<|Dr 3 O<|YM O (λτ h=>aa call38 (gm ⟨#[114]⟩ k Zk Zi) (h.aE O))<|Dr 6 O ⟨Zj,Z3 O ?_⟩;refine⟨(k+1,at2,rs++[(nm 114 k,l2)],k3),Vo [0,1,2,6,4] (aT O) ⟨O,O,by simp;rfl,O,by rw[oo];rfl,O,Zp⟩ O O Zm O,⟨Zo,rq hhead hend,hk3⟩,Zo⟩
 obtain rfl:k=nn:=Zi;have Z:1<=at'.length:=hhead.2.2.2.2.2 Zi;refine AW.exit<|Vm (Vq 2 O O)<|Vm (Vq 3 O O)<|Z4 O<|AW.block<|AW.loop (st:=λx:Nat×List (Int×Int×Int)×Int×Nat=>ZT [(0,.ptr big 0),(4,.ptr 0 0),(5,.ptr 1 0),(86,.pv (.sl WC at'.length (aR at'))),(87,ZI at'.length),(88,ZI x.1)] [(big,xe L x.2.2.2),(0,Sj),(1,.mix 30 [.pv (.sl WC at'.length (aR at')),.pv (.sl WC rs.length (aZ rs)),.bz 2 3 x.2.1.length,ZI x.2.2.1]),(2,.bD 60 (aK x.2.1))] 3)
  (I:=λx=>x.1<=at'.length/\cW at' x.2.1 x.2.2.1 x.1/\x.2.2.2<=L.length) (μ:=λx=>at'.length-x.1) (x0:=(0,[], -1,k2)) (Vo [0,1,4] (aT O) (aP O) O O Zm O) ⟨sh _,⟨Zm,Zm,.inl O⟩,hk2⟩ ?_
 rintro⟨j,fs,lb,k3⟩ ⟨hj,hfs,hk3⟩;simp only at hj hfs hk3 ⊢;have hFl:=kH fs;have hfl:=eW hfs;have U:=uo hfs;refine Z1 O<|Gp O (λhc=>?_) (λhc=>?_)
 .have hjl:j<at'.length:=Zi;have r:aR at'≠[]:=λe=>by rw[e]at P;simp at P;omega
  have V:((aR at').drop (j*2)).take 2=[.str at'[j].1,.int .i64 at'[j].2]:=eZ _ 2 (λ_=>rfl) at' j hjl;have B:(at'.getD j default).2=at'[j].2:=by simp[List.getD,hjl]
  refine Vl<|Z2 O<|Rs O (aD ⟨_,underlying56,O⟩ Hg O V O)<|Y3 O<|AW.block ?_;generalize at'[j].2=K at B ⊢;generalize at'[j].1=nme;by_cases hK:K=2
  .subst hK;by_cases hl0:lb<0
   .refine Z2 O<|Rs O (XJ.cast (v':= .pv (.bool YK)) (aY O O O) Zm)<|Y3 O<|Rg O (XJ.cast (v':= .pv (.bool YK)) (aY O O O) Zn)<|Y3 O<|Rg O (bV call7 (gu L k3 2 D hk3 Zi Zi) O O)<|Y3 O ?_;have E:=gn hk3;generalize sNk L k3=k4 at E ⊢;refine AW.cond O (λhc=>?_) (λhc=>?_)
    .exact Z3 O<|Z2 O<|⟨(j+1,fs,(j:Int),k4),YS O,⟨Zo,wP hfs B,E⟩,Zo⟩
    refine Z2 O<|Rs O (XJ.cast (v':= .pv (.bool YK)) (aY O O O) Zm)<|Y2 O<|Rg O (bV call7 (gu L k4 4 D E Zi Zi) O O)<|Y3 O ?_;have u:=gn E;generalize sNk L k4=k5 at u ⊢;refine AW.mM O (λhc=>?_) (λhc=>?_)
    .have hnb:=j1 L k5 2 Zi;refine VC 10 O<|Dr 4 O<|YQ [_] O (λτ h=>bV call7 (gu L k5 2 D u Zi Zi) (h.args.trans O) (Eo h 0 O))<|Dr 5 O ⟨Zj,Z2 O<|⟨(j+1,fs++[((j:Int),1,sNv L k5 2)],lb,sNk L k5),Vo [0,1,5] (aT O) ⟨O,O,by simp only[Hb,VV];rfl,ah (λc=>WB (Ob.bD 60 c)) (lC fs ((j:Int),1,sNv L k5 2)).symm,Zp⟩ O O Zm O,⟨Zo,j5 hfs Zi (.inl ⟨O,B,Zi⟩),gn u⟩,Zo⟩⟩
    refine Z2 O<|Rs O (XJ.cast (v':= .pv (.bool YL)) (aY O O O) Zm)<|Ar 6 O ?_;refine AW.cond O (λhc=>absurd hc Zm) (λhc=>?_);exact Vl<|Z2 O<|⟨(j+1,fs,lb,k5),YS O,⟨Zo,dJ hfs,u⟩,Zo⟩
   refine Z2 O<|Rs O (XJ.cast (v':= .pv (.bool YK)) (aY O O O) Zm)<|Y3 O<|Rg O (XJ.cast (v':= .pv (.bool YL)) (aY O O O) Zn)<|Ar 7 O ?_;refine AW.cond O (λhc=>absurd hc Zm) (λhc=>?_);refine Z2 O<|Rs O (XJ.cast (v':= .pv (.bool YK)) (aY O O O) Zm)<|Y2 O<|Rg O (bV call7 (gu L k3 4 D hk3 Zi Zi) O O)<|Y3 O ?_;have u:=gn hk3;generalize sNk L k3=k5 at u ⊢;refine AW.mM O (λhc=>?_) (λhc=>?_)
   .have hnb:=j1 L k5 2 Zi;refine VC 10 O<|Dr 4 O<|YQ [_] O (λτ h=>bV call7 (gu L k5 2 D u Zi Zi) (h.args.trans O) (Eo h 0 O))<|Dr 5 O ⟨Zj,Z2 O<|⟨(j+1,fs++[((j:Int),1,sNv L k5 2)],lb,sNk L k5),Vo [0,1,5] (aT O) ⟨O,O,by simp only[Hb,VV];rfl,ah (λc=>WB (Ob.bD 60 c)) (lC fs ((j:Int),1,sNv L k5 2)).symm,Zp⟩ O O Zm O,⟨Zo,j5 hfs Zi (.inl ⟨O,B,Zi⟩),gn u⟩,Zo⟩⟩
   refine Z2 O<|Rs O (XJ.cast (v':= .pv (.bool YL)) (aY O O O) Zm)<|Ar 6 O ?_;refine AW.cond O (λhc=>absurd hc Zm) (λhc=>?_);exact Vl<|Z2 O<|⟨(j+1,fs,lb,k5),YS O,⟨Zo,dJ hfs,u⟩,Zo⟩
  have hKb:(K==2)=YL:=by simpa using hK
  refine Z2 O<|Rs O (XJ.cast (v':= .pv (.bool YL)) (aY O O O) (by rw[hKb]))<|Ar 11 O<|AW.cond O (λhc=>absurd hc Zm) (λhc=>?_);refine Z2 O<|Rs O (XJ.cast (v':= .pv (.bool YL)) (aY O O O) (by rw[hKb]))<|Ar 6 O<|AW.cond O (λhc=>absurd hc Zm) (λhc=>?_);by_cases hK3:K=3
  .subst hK3;refine Z2 O<|Rs O (XJ.cast (v':= .pv (.bool YK)) (aY O O O) Zm)<|Y2 O<|Rg O (bV call7 (gu L k3 4 D hk3 Zi Zi) O O)<|Y3 O<|AW.mM O (λhc=>?_) (λhc=>?_)
   .exact Gr O<|Ar 8 O<|Z2 O<|⟨(j+1,fs++[((j:Int),2,0)],lb,sNk L k3),Vo [0,1,5] (aT O) ⟨O,O,by simp only[Hb,VV];rfl,ah (λc=>WB (Ob.bD 60 c)) (lC fs ((j:Int),2,0)).symm,Zp⟩ O O Zm O,⟨Zo,j5 hfs Zi (.inr ⟨O,B,O⟩),gn hk3⟩,Zo⟩
   exact Vl<|Z2 O<|⟨(j+1,fs,lb,sNk L k3),YS O,⟨Zo,dJ hfs,gn hk3⟩,Zo⟩
  have hKb3:(K==3)=YL:=by simpa using hK3
  refine Z2 O<|Rs O (XJ.cast (v':= .pv (.bool YL)) (aY O O O) (by rw[hKb3]))<|Ar 6 O<|AW.cond O (λhc=>absurd hc Zm) (λhc=>?_);exact Vl<|Z2 O<|⟨(j+1,fs,lb,k3),YS O,⟨Zo,dJ hfs,hk3⟩,Zo⟩
 obtain rfl:j=at'.length:=Zi;refine AW.exit<|Z4 O<|AW.mM O (λhc=>absurd hc Zi) (λhc=>?_);exact Vl<|Vm (Vq 2 O O)<|Z2 O<|AW.ret<|⟨0,_,schC ⟨at',rs,fs,lb⟩,jo L k3,O,O,O,O,O,⟨⟨at',rs,fs,lb⟩,⟨Z,M,Zo,Zo,hhead.1,hhead.2.1,hhead.2.2.1,hfs⟩,O⟩,k3,hk3,O⟩
end
theorem ibT(h:(a==b)=YK):a=b:=Xk.1 h
theorem ibF(h:(a==b)=YL):¬a=b:=λe=>by rw[Xk.2 e]at h;cases h
theorem inT(h:(a !=b)=YK):¬a=b:=bne_iff_ne.1 h
theorem inF(h:(a !=b)=YL):a=b:=by
 by_cases e:a=b
 .exact e
 rw[bne_iff_ne.2 e]at h;cases h
noncomputable section
open Mk Jn
abbrev ZZ(a:Int):List (Nat×Option V):=[(0,WC),(1,WC),(7,WC),(8,WB (ZI a))]
end
theorem Mj(l:cP)(x:Int)(hl:l.length<=1000000000):ZK prog 252 [al l,ZU x] (λv=>∃i:Int,v= ZU i/\(0<=i↔x∈l)/\ -1<=i/\i<1000000001):=by
 refine ZC func252 O ntmps252 λ_ _ _ _=>?_
 refine Z1 O<|Z3 O<|Gz O (st:=λZq:Nat=>((ZZ Zq),[])) 0
  (I:=λZq=>Zq<=l.length/\¬x∈l.take Zq) (μ:=λZq=>l.length-Zq) (x0:=0) (Vn (aS O) trivial O O) Zm ?_
 rintro k ⟨hk,hno⟩;refine Z1 O<|Gp O (λu=>?_) (λu=>?_)
 .have hlt:k<l.length:=Zi;have B:=bo hlt;have z:=aU hlt;refine Vl<|Z2 O<|Z4 O<|A2 O Zl ?_;refine A1 O ?_;refine Gc O (λr=>?_) (λr=>?_)
  .have hx:l[k]=x:=(ibT r).symm;exact Z2 O<|YR O ⟨_,O,⟨λ_=>hx▸ak hlt,λ_=>by omega⟩,Zi,Zi⟩
  exact Vl<|Z2 O<|⟨(k+1),Vn (aS O) trivial O O,⟨Zi,gO hlt hno (λe=>ibF r e.symm)⟩,Zi⟩
 exact Gx O<|Z1 O<|YR O ⟨_,O,⟨λh=>absurd h Zk,λh=>absurd (by rwa [aG Zi]) hno⟩,Zi,Zi⟩
theorem mN(l:cP)(x:Int)(hl:l.length<=1000000000):ZK prog 205 [al l,ZU x] (· = .bool (decide (x∈l))):=by
 refine ZC func205 O ntmps205 λ_ _ _ _=>?_
 refine Z1 O<|Z2 O<|RL.call O (cT call252 (Mj l x hl) O ?_);rintro _ ⟨i,rfl,hi,_,_⟩;exact Y2 O<|YR O<|ah PV.bool (Y7.2 hi)
section
open Mk
abbrev bj(l:hC):na:=l.map .str
abbrev bh(l:hC):PV:= .sl WC l.length (bj l)
theorem bD{l:hC}(h:k<l.length):(bj l)[k*1]? =WB (.str l[k]):=by simp[h]
theorem cz{l:hC}(h:k<l.length):bj l≠[]:=by intro e;simp at e;subst e;simp at h
theorem gY{l:List α}{x:α}(u:k<l.length)(h:¬x∈l.take k)(r:¬l[k]=x):¬x∈l.take (k+1):=by grind[AI,VH]
theorem bytes_inj{a b:er}(h:a.toList=b.toList):a=b:=by grind[ByteArray.toList_eq,ByteArray.ext,Array.toList_inj.1]
theorem baT{a b:er}(h:(a.toList==b.toList)=YK):a=b:=bytes_inj (Xk.1 h)
theorem baF{a b:er}(h:(a.toList==b.toList)=YL):¬a=b:=by rintro rfl;simp at h
theorem GN(l:hC)(x:er)(hl:l.length<=1000000000):ZK prog 287 [bh l,.str x] (λv=>∃i:Int,v= ZU i/\(0<=i↔x∈l)/\ -1<=i/\i<1000000001):=by
 refine ZC func287 O ntmps287 λ_ _ _ _=>?_
 refine Z1 O<|Z3 O<|Gz O (st:=λZq:Nat=>((ZZ Zq),[])) 0
  (I:=λZq=>Zq<=l.length/\¬x∈l.take Zq) (μ:=λZq=>l.length-Zq) (x0:=0) (Vn (aS O) trivial O O) Zm ?_
 rintro k ⟨hk,hno⟩;refine Z1 O<|Gp O (λu=>?_) (λu=>?_)
 .have hlt:k<l.length:=Zi;have B:=bD hlt;have z:=cz hlt;refine Vl<|Z2 O<|Z4 O<|A2 O Zl ?_;refine A1 O ?_;refine Gc O (λr=>?_) (λr=>?_)
  .have hx:l[k]=x:=(baT r).symm;exact Z2 O<|YR O ⟨_,O,⟨λ_=>hx▸ak hlt,λ_=>by omega⟩,Zi,Zi⟩
  exact Vl<|Z2 O<|⟨(k+1),Vn (aS O) trivial O O,⟨Zi,gY hlt hno (λe=>baF r e.symm)⟩,Zi⟩
 exact Gx O<|Z1 O<|YR O ⟨_,O,⟨λh=>absurd h Zk,λh=>absurd (by rwa [aG Zi]) hno⟩,Zi,Zi⟩
theorem s6(l:hC)(x:er)(hl:l.length<=1000000000):ZK prog 241 [bh l,.str x] (· = .bool (hasB l x)):=by
 refine ZC func241 O ntmps241 λ_ _ _ _=>?_
 refine Z1 O<|Z2 O<|RL.call O (cT call287 (GN l x hl) O ?_);rintro _ ⟨i,rfl,hi,_,_⟩;exact Y2 O<|YR O<|ah PV.bool (Y7.2 hi)
abbrev a8(l:List Bool):na:=l.map .bool
abbrev nI(l:List Bool):PV:= .sl WC l.length (a8 l)
theorem Kj{l:List Bool}(h:k<l.length):(a8 l)[k*1]? =WB (.bool l[k]):=by simp[h]
theorem xN{l:List Bool}(h:k<l.length):a8 l≠[]:=by intro e;simp at e;subst e;simp at h
theorem G9(l:List Bool)(x:Bool)(hl:l.length<=1000000000):ZK prog 242 [nI l,.bool x] (λv=>∃i:Int,v= ZU i/\(0<=i↔x∈l)/\ -1<=i/\i<1000000001):=by
 refine ZC func242 O ntmps242 λ_ _ _ _=>?_
 refine Z1 O<|Z3 O<|Gz O (st:=λZq:Nat=>((ZZ Zq),[])) 0
  (I:=λZq=>Zq<=l.length/\¬x∈l.take Zq) (μ:=λZq=>l.length-Zq) (x0:=0) (Vn (aS O) trivial O O) Zm ?_
 rintro k ⟨hk,hno⟩;refine Z1 O<|Gp O (λu=>?_) (λu=>?_)
 .have hlt:k<l.length:=Zi;have B:=Kj hlt;have z:=xN hlt;refine Vl<|Z2 O<|Z4 O<|A2 O Zl ?_;refine A1 O ?_;refine Gc O (λr=>?_) (λr=>?_)
  .have hx:l[k]=x:=(Xk.1 r).symm;exact Z2 O<|YR O ⟨_,O,⟨λ_=>hx▸ak hlt,λ_=>by omega⟩,Zi,Zi⟩
  exact Vl<|Z2 O<|⟨(k+1),Vn (aS O) trivial O O,⟨Zi,gY hlt hno (λe=>Xo.1 r e.symm)⟩,Zi⟩
 exact Gx O<|Z1 O<|YR O ⟨_,O,⟨λh=>absurd h Zk,λh=>absurd (by rwa [aG Zi]) hno⟩,Zi,Zi⟩
theorem tg(l:List Bool)(x:Bool)(hl:l.length<=1000000000):ZK prog 185 [nI l,.bool x] (· = .bool (decide (x∈l))):=by
 refine ZC func185 O ntmps185 λ_ _ _ _=>?_
 refine Z1 O<|Z2 O<|RL.call O (cT call242 (G9 l x hl) O ?_);rintro _ ⟨i,rfl,hi,_,_⟩;exact Y2 O<|YR O<|ah PV.bool (Y7.2 hi)
theorem rY{l:List UInt8}(h:k<l.length):(aF l)[k*1]? =WB (.int .u8 (l[k].toNat:Int)):=by simp[aF,h]
theorem rK{l:List UInt8}(h:k<l.length):aF l≠[]:=by intro e;simp[aF]at e;subst e;simp at h
def GK(k:Nat)(c:UInt8):Bool:= !(decide ((97:Int)<=c.toNat)&&decide ((c.toNat:Int)<=122))&&(((k:Int)==0)||(((c.toNat:Int) !=45)&&(decide ((c.toNat:Int)<48)||decide ((57:Int)<c.toNat))))
theorem Cv(k:Nat)(c:UInt8):GK k c= !tm k c.toNat:=by
 unfold GK tm;generalize c.toNat=n;have r:((k:Int)==0)= !decide (k≠0):=by grind
 have u:((n:Int) !=45)= !(n==45):=by grind
 have z:(decide ((97:Int)<=n)&&decide ((n:Int)<=122))=decide (97<=n/\n<=122):=by
  rw[V0];simp;omega
 have B:(decide ((n:Int)<48)||decide ((57:Int)<n))= !decide (48<=n/\n<=57):=by
  rw[V0];simp;omega
 rw[r,u,z,B];cases decide (97<=n/\n<=122)<;>cases decide (k≠0)<;>cases (n==45)<;>cases decide (48<=n/\n<=57)<;>rfl
theorem Zs(h:p:=by first|exact aj.le|exact aj.aw|exact Vt):p:=h
theorem q9(s:er)(hs:s.size<=9223372036854775807):ZK prog 192 [.str s] (· = .bool (fJ s)):=by
 refine ZC func192 O ntmps192 λ_ _ _ _=>?_
 have B:s.data.toList.length=s.size:=Wg;refine Z1 O<|Z4 O<|Gz O (st:=λZq:Nat=>([(0,WC),(7,WC),(8,WC),(9,WB (ZI Zq))],[])) 0
  (I:=λZq=>Zq<=s.data.toList.length/\∀j,j<Zq->tm j (s.data.toList.getD j 0).toNat=YK) (μ:=λZq=>s.data.toList.length-Zq) (x0:=0) (Vn (aS O) trivial O O) (⟨sh _,λj hj=>absurd hj (W9 _)⟩) ?_
 rintro k ⟨hk,hall⟩;refine Z1 O<|Gp O (λz=>?_) (λz=>?_)
 .have hlt:k<s.data.toList.length:=Zi;have E:=rY hlt;have D:=rK hlt;have u:s.data.toList.getD k 0=s.data.toList[k]:=by rw[VO,AT hlt];rfl
  refine Vl<|Z2 O<|A2 O Zl ?_;refine Y2 O ?_;generalize s.data.toList[k]=c at u ⊢;refine Z3 O ?_;apply Vx 3 16 19 [17,18] O Zs
  .intro hb2;exact Y3 O<|Vp Zr O O O
  .intro hb2;exact Y3 O<|Vp Zr O O O
  refine A1 O<|Z3 O ?_;apply Vx 15 22 37 [23,24,25,26,27,28,29,30,31,32,33,34,35,36] O Zs
  .intro hb2;refine Y3 O ?_;apply Vv 11 25 36 [26,27,28,29,30,31,32,33,34,35] O Zs
   .intro hb5;exact Ar 11 O<|Vp Zr O O O
   .intro hb5;refine Y3 O ?_;apply Vx 7 28 35 [29,30,31,32,33,34] O Zs
    .intro hb8;refine Y3 O ?_;apply Vv 3 31 34 [32,33] O Zs
     .intro hb11;exact Y3 O<|Vp Zr O O O
     .intro hb11;exact Y3 O<|Vp Zr O O O
     exact A1 O<|Vp Zr O O O
    .intro hb8;exact Ar 7 O<|Vp Zr O O O
    exact A1 O<|Vp Zr O O O
   exact A1 O<|Vp Zr O O O
  .intro hb2;exact Ar 15 O<|Vp Zr O O O
  have G:_=YK\/_=YL:=Bool.eq_false_or_eq_true (GK k c);refine Gc O (λr=>?_) (λr=>?_)
  .have hc:GK k c=YK:=r;exact Z1 O<|YR O<|ah PV.bool (AX s k Zi (by rw[u];rw[Cv]at hc;simpa using hc)).symm
  have hc:GK k c=YL:=r;exact Vl<|Z2 O<|⟨(k+1),Vn (aS O) trivial O O,⟨Zi,λj hj=>by rcases V3.1 hj with h|rfl;exact hall j h;rw[u];rw[Cv]at hc;simpa using hc⟩,Zi⟩
 refine Gx O<|Z4 O ?_;apply Vx 4 42 46 [43,44,45] O Zs
 .intro hb3;exact Ar 4 O<|Vp Zr O O O
 .intro hb3;exact Ar 4 O<|Vp Zr O O O
 exact A1 O<|YR O<|ah PV.bool (by rw[DD s (λj hj=>hall j Zi)];rw[V0];simp;omega)
theorem ur(l:hC)(k:Nat)(E:k<l.length)(hl:l.length<=1000000)(H:l[k].size<=9223372036854775807):ZK prog 184 [bh l,ZU k] (· = ZU (fU l k)):=by
 refine ZC func184 O ntmps184 λ_ _ _ _=>?_
 have I:=bD E;have G:=cz E;have z:l.getD k default=l[k]:=by simp[List.getD,E]
 have B:(bj l).take (k*1)=bj (l.take k):=Zm;have D:PV.sl WC k (bj (l.take k))=bh (l.take k):=by simp[bh];omega
 refine Z1 O<|Z3 O<|A2 O Zl ?_;refine Rs O (aa call192 (q9 l[k] H) O)<|Y2 O ?_;refine Gc O (λu=>?_) (λu=>?_)
 .exact Z1 O<|YR O<|ah (PV.int .i64) (by unfold fU;rw[z,IT (by simpa using u)])
 refine VC 9 O<|Dr 2 O<|YM O (λτ h=>XJ.cast (v':= .pv (bh (l.take k))) (dL k aao sz9 (Ee h 0 O) (Ee h 1 O) O Zi Zm) (by rw[B,D]))<|Dr 3 O<|D2 O O Zl ?_;refine YM O (λτ h=>aa call241 (s6 (l.take k) l[k] Zn) (h.aE O))<|D1 O O ⟨Zj,Gc O (λr=>?_) (λr=>?_)⟩
 .exact Z1 O<|YR O<|ah (PV.int .i64) (by unfold fU;rw[z,AS (by simpa using u),IT r])
 exact Vl<|Z1 O<|YR O<|ah (PV.int .i64) (by unfold fU;rw[z,AS (by simpa using u),AS (by simp[r])])
structure SB(S:ZN):Prop where
 a:S.aj.length<=1000000
 r:S.aU.length<=1000000
 f:S.bo.length<=1000000
 an:∀x∈S.aj,x.1.size<=9223372036854775807
 rn:∀x∈S.aU,x.1.size<=9223372036854775807
 rl:∀x∈S.aU,x.2.length<=1000000
theorem qu{l:List (er×Int)}(h:k<l.length):((aR l).drop (k*2)).take 2=[.str l[k].1,.int .i64 l[k].2]:=eZ _ 2 (λ_=>rfl) l k h
theorem jO{l:List (er×Int)}(h:k<l.length):aR l≠[]:=λe=>by have:=kn l;rw[e]at this;simp at this;omega
theorem xu(L:hC)(x:er):bj (L++[x])=bj L++[.str x]:=Zm
theorem uB(L:hC)(x:er):bh (L++[x])= .sl WC (L.length+1) (bj L++[.str x]):=Zm
theorem tz{l:hC}(h:k<n):fU (l.take n) k=fU l k:=by
 unfold fU;have r:(l.take n).getD k default=l.getD k default:=by simp[List.getD,V2,h]
 have u:(l.take n).take k=l.take k:=by rw[Yl,W6 Zi]
 rw[r,u]
theorem bP{l:List α}(h:k<l.length):l.take (k+1)=l.take k++[l[k]]:=AI h
theorem sg(S:ZN)(hS:SB S):ZK prog 134 [fp S] (· = ZU (bQ (hZ S) S.aj.length)):=by
 refine ZC func134 O ntmps134 λ_ _ _ _=>?_
 have U:=hS.a;have M:=kn S.aj;refine Z2 O<|Z1 O<|Vm (Vs 3 1 1 9 O O)<|Z4 O<|Gz O (st:=λZq:Nat×hC=>([(3,WB (.bz 1 1 Zq.2.length)),(8,WC),(9,WC),(10,WB (ZI Zq.1))],[(1,WB (.bD 9 (bj Zq.2)))])) 2
  (I:=λZq=>Zq.1<=S.aj.length/\Zq.2=(S.aj.map (·.1)).take Zq.1/\bQ (hZ S) Zq.1=0) (μ:=λZq=>S.aj.length-Zq.1) (x0:=(0,[])) (YS O) (⟨sh _,O,O⟩) ?_
 rintro⟨k,L⟩ ⟨hk,hL,hs⟩;try simp only at hk hL hs ⊢
 refine Z1 O<|Gp O (λG=>?_) (λG=>?_)
 .have hlt:k<S.aj.length:=Zi;have z:=qu hlt;have P:=jO hlt;have H:L.length=k:=by rw[hL];simp;omega
  have B:L++[S.aj[k].1]=(S.aj.map (·.1)).take (k+1):=by rw[bP (by simpa using hlt),hL];simp
  have D:=ur (L++[S.aj[k].1]) k Zn Zn (by simp only[<-H];simp;exact hS.an _ (ak _));rw[uB,B,tz Zi]at D;have E:S.aj.getD k default=S.aj[k]:=by simp[List.getD,hlt]
  have T:(bj L).length=L.length*1:=Zm;refine Vl<|Z2 O<|Rs O (aD ⟨_,underlying56,O⟩ Hg O z O)<|Y3 O<|Gr O<|Ar 6 O<|Z2 O<|Rs O (vH call184 D O O)<|A1 O<|Z2 O<|Gc O (λr=>?_) (λr=>?_)
  .exact Z2 O<|YR O<|ah (PV.int .i64) (by rw[gK hs (by unfold hZ;rw[IT (inT r)];exact inT r) hlt];unfold hZ;rw[IT (inT r)])
  refine Vl<|Z4 O ?_;apply Vv 4 29 33 [30,31,32] O Zs
  .intro hb3;exact Ar 4 O<|Vp Zr O O O
  .intro hb3;exact Ar 4 O<|Vp Zr O O O
  refine Gc O (λu=>?_) (λu=>?_)
  .exact Z1 O<|YR O<|ah (PV.int .i64) (by have e:hZ S k=7:=(by unfold hZ;rw[AS (by simp[inF r]),E,IT (by simpa using u)]);rw[gK hs (by rw[e];decide) hlt,e])
  exact Vl<|Z2 O<|⟨(k+1,L++[S.aj[k].1]),Vo [0,4] ⟨by simp;rfl,O,O,O,Zp⟩ ⟨ah (λc=>WB (Ob.bD 9 c)) (xu L S.aj[k].1).symm,Zp⟩ O O Zk O,⟨Zo,B,by simp only;rw[dH hs];unfold hZ;rw[AS (by simp[inF r]),E,AS (by simpa using u)]⟩,Zo⟩
 exact Gx O<|Z1 O<|YR O<|ah (PV.int .i64) (by rw[show S.aj.length=k by omega,hs])
end
end Go.Proofs.YthicoeegbdboeaaGreatDoor
