/-
  Texts of ours, joined and shortened by merge2.py: Sh, Lb, NP, N7, RW, N8, JD, S2, S3, S4, S5, R5, OSp, O2, E22, E23, E26, E27, E28, E29, So, O3, O4, B1, Gr. No statement of the program is proved here.
-/
import Derived.Shelf.Strings.Builder1
import Derived.Shelf.Strings.Builder2
import Derived.Shelf.Small.Bits
import Derived.Shelf.Small.Wraps
import Derived.Shelf.Strings.BuilderF
import Derived.Shelf.Strings.BuilderK
import Derived.Shelf.Strings.Builder2Cap
import Derived.Shelf.Strconv.Itoa0
import Derived.Shelf.Strconv.Itoa1
import Derived.Shelf.LaysM
import Derived.Shelf.Strconv.Itoa2
import Derived.Shelf.Strconv.Itoa3
import Derived.Shelf.Strconv.Clone
import Derived.Shelf.Strconv.SyntaxError
import Derived.Shelf.LaysC
import Derived.Shelf.Strconv.ToError
import Derived.Shelf.Strconv.Lower
import Derived.Shelf.Strconv.ParseUint10
import Derived.Shelf.Strconv.ParseUint10Empty
import Derived.Shelf.Strconv.ParseUint10Any
import Derived.Shelf.Strconv.RangeError
import Derived.Shelf.Strconv.ToErrorRange
import Derived.Shelf.Strconv.ParseUintEmpty
import Derived.Shelf.Strconv.ParseUint10b64
import Derived.Shelf.Strconv.ParseUint10b32
import Derived.Shelf.Strconv.ParseUint10b16
import Derived.Shelf.Strconv.ParseUint10b8
import Derived.Shelf.Strconv.ParseUint10At
import Derived.Ground.MpProg
import Derived.Shelf.Pu.ParseUintPublic10
import Derived.Shelf.Pu.ErrVarParseUint
import Derived.Shelf.Strings.Search1
import Derived.Shelf.Strings.Search2
import Derived.Shelf.Strings.Cut
import Derived.Shelf.Strings.Shaped
import Derived.Shelf.Sort.Plain
import Derived.Shelf.Strings.Prefix
import Derived.Shelf.Bits.Mul64
import Derived.Shelf.Strings.Repeat
import Derived.Shelf.Strings.BuilderCap
import Derived.Shelf.Slices.Turned
import Derived.Shelf.Slices.Equal
import Derived.Ground.Names2Prog
import Derived.Shelf.Slices.Clone
import Derived.Shelf.Slices.CompactS
import Derived.Shelf.Slices.Cells
import Derived.Shelf.Slices.In.SortNone
import Derived.Shelf.Slices.Empties2
import Derived.Ground.SlgnProg
import Derived.Shelf.SlicesE.Clone
import Derived.Test.YtjlikknopfnllaaGreatDoorProg
import Derived.MapKept
import Derived.Carry
import Derived.Laws.RangeString
import Derived.Test.YtjlikknopfnllaaGreatDoorJ64
set_option maxRecDepth 100000
set_option maxHeartbeats 4000000
open Go.RowKit Go.Proofs.Tryz
namespace Go.Proofs.YtjlikknopfnllaaGreatDoor
end Go.Proofs.YtjlikknopfnllaaGreatDoor
namespace Go.Proofs
open Go.Shelf
def Tryz.rY:Go.Shelf.Ren:=⟨fun | 103=>275 | 210=>280 | 206=>209 | n=>n,fun | 9=>9 | 4=>4 | 24=>205 | 3=>3 | n=>n,fun | n=>n⟩
theorem Tryz.FT:Go.Proofs.Lays.n103 Tryz.prog Tryz.rY:={
 mixed:=by kernel_rfl
 f103:=Tryz.func275.trans (congrArg some (by kernel_rfl))
 f206:=Tryz.func209.trans (congrArg some (by kernel_rfl))
 f210:=Tryz.func280.trans (congrArg some (by kernel_rfl))
 t3:=Tryz.underlying3
 a3:=Tryz.isAgg3
 z3:=Tryz.sizeOf3
 v3:=Tryz.zeroValue3
 t4:=Tryz.underlying4
 a4:=Tryz.isAgg4
 z4:=Tryz.sizeOf4
 v4:=Tryz.zeroValue4
 t9:=Tryz.underlying9
 a9:=Tryz.isAgg9
 z9:=Tryz.sizeOf9
 v9:=Tryz.zeroValue9
 t24:=Tryz.underlying205
 a24:=Tryz.isAgg205
 z24:=Tryz.sizeOf205
 v24:=Tryz.zeroValue205 }
open Go.RowKit in
theorem Tryz.strings_CutPrefix (s p:ByteArray) (w:World):
  Calls Tryz.prog 275 #[.string s,.string p] w fun e w'=>e= .returned (.tuple #[.string ⟨(Lib.trimPrefix s.data.toList p.data.toList).toArray⟩,.bool (Lib.hasPrefix s.data.toList p.data.toList)])∧w'=w:=Any.strings_CutPrefix Tryz.FT s p w
def Tryz.tr:Go.Shelf.Ren:=⟨fun | 283=>203 | n=>n,fun | 3=>3 | 9=>9 | 4=>4 | n=>n,fun | n=>n⟩
theorem Tryz.EY:Go.Proofs.Lays.n283 Tryz.prog Tryz.tr:={
 mixed:=by kernel_rfl
 f283:=Tryz.func203.trans (congrArg some (by kernel_rfl))
 t3:=Tryz.underlying3
 a3:=Tryz.isAgg3
 z3:=Tryz.sizeOf3
 v3:=Tryz.zeroValue3
 t4:=Tryz.underlying4
 a4:=Tryz.isAgg4
 z4:=Tryz.sizeOf4
 v4:=Tryz.zeroValue4
 t9:=Tryz.underlying9
 a9:=Tryz.isAgg9
 z9:=Tryz.sizeOf9
 v9:=Tryz.zeroValue9 }
open Go.Lib in
theorem Tryz.internal_strconv_small (i:Nat) (h:i<100) (w:World):
  Calls Tryz.prog 203 #[.int .i64 i] w fun e w'=>e= .returned (.string ⟨(Lib.decDigits i).toArray⟩)∧w'=w:=Any.internal_strconv_small Tryz.EY i h w
def Tryz.qA:Go.Shelf.Ren:=⟨fun | 284=>204 | 129=>164 | 317=>239 | 318=>240 | n=>n,fun | 53=>136 | 3=>3 | 212=>283 | 0=>0 | 4=>4 | 46=>161 | 5=>5 | 9=>9 | n=>n,fun | 17=>0 | n=>n⟩
theorem Tryz.BZ:Go.Proofs.LaysM.n284 Tryz.prog Tryz.qA:={
 mixed:=by kernel_rfl
 f129:=Tryz.func164.trans (congrArg some (by kernel_rfl))
 f284:=Tryz.func204.trans (congrArg some (by kernel_rfl))
 f317:=Tryz.func239.trans (congrArg some (by kernel_rfl))
 f318:=Tryz.func240.trans (congrArg some (by kernel_rfl))
 t0:=Tryz.underlying0
 a0:=Tryz.isAgg0
 z0:=Tryz.sizeOf0
 v0:=Tryz.zeroValue0
 t3:=Tryz.underlying3
 a3:=Tryz.isAgg3
 z3:=Tryz.sizeOf3
 v3:=Tryz.zeroValue3
 t4:=Tryz.underlying4
 a4:=Tryz.isAgg4
 z4:=Tryz.sizeOf4
 v4:=Tryz.zeroValue4
 t5:=Tryz.underlying5
 a5:=Tryz.isAgg5
 z5:=Tryz.sizeOf5
 v5:=Tryz.zeroValue5
 t9:=Tryz.underlying9
 a9:=Tryz.isAgg9
 z9:=Tryz.sizeOf9
 v9:=Tryz.zeroValue9
 t46:=Tryz.underlying161
 a46:=Tryz.isAgg161
 z46:=Tryz.sizeOf161
 v46:=Tryz.zeroValue161
 t53:=Tryz.underlying136
 a53:=Tryz.isAgg136
 z53:=Tryz.sizeOf136
 v53:=Tryz.zeroValue136
 t212:=Tryz.underlying283
 a212:=Tryz.isAgg283
 z212:=Tryz.sizeOf283
 v212:=Tryz.zeroValue283
 g17:=by kernel_rfl
 i0:=by kernel_rfl
 i3:=by kernel_rfl
 i4:=by kernel_rfl
 i5:=by kernel_rfl
 i9:=by kernel_rfl
 i46:=by kernel_rfl
 i53:=by kernel_rfl
 i212:=by kernel_rfl
 m17:=by kernel_rfl }
open Go.Lib in
theorem Tryz.internal_strconv_numDigits (u:Nat) (h1:1≤u) (h2:u<18446744073709551616) (w:World) (htab:Lib.TabIs Tryz.prog w "internal/strconv.uint64pow10" .u64 Lib.pow10Tab):
  Calls Tryz.prog 204 #[.int .u64 u] w fun e w'=>e= .returned (.int .i64 (Lib.nDigits u))∧w'=w:=Any.internal_strconv_numDigits Tryz.BZ u h1 h2 w htab
def Tryz.sU:Go.Shelf.Ren:=⟨fun | 285=>205 | n=>n,fun | 37=>163 | 53=>136 | 3=>3 | 4=>4 | 51=>218 | 9=>9 | 5=>5 | 0=>0 | n=>n,fun | n=>n⟩
theorem Tryz.Gf:Go.Proofs.Lays.n285 Tryz.prog Tryz.sU:={
 mixed:=by kernel_rfl
 f285:=Tryz.func205.trans (congrArg some (by kernel_rfl))
 t0:=Tryz.underlying0
 a0:=Tryz.isAgg0
 z0:=Tryz.sizeOf0
 v0:=Tryz.zeroValue0
 t3:=Tryz.underlying3
 a3:=Tryz.isAgg3
 z3:=Tryz.sizeOf3
 v3:=Tryz.zeroValue3
 t4:=Tryz.underlying4
 a4:=Tryz.isAgg4
 z4:=Tryz.sizeOf4
 v4:=Tryz.zeroValue4
 t5:=Tryz.underlying5
 a5:=Tryz.isAgg5
 z5:=Tryz.sizeOf5
 v5:=Tryz.zeroValue5
 t9:=Tryz.underlying9
 a9:=Tryz.isAgg9
 z9:=Tryz.sizeOf9
 v9:=Tryz.zeroValue9
 t37:=Tryz.underlying163
 a37:=Tryz.isAgg163
 z37:=Tryz.sizeOf163
 v37:=Tryz.zeroValue163
 t51:=Tryz.underlying218
 a51:=Tryz.isAgg218
 z51:=Tryz.sizeOf218
 v51:=Tryz.zeroValue218
 t53:=Tryz.underlying136
 a53:=Tryz.isAgg136
 z53:=Tryz.sizeOf136
 v53:=Tryz.zeroValue136 }
open Go.RowKit Go.Sort Go.Lib in
theorem Tryz.internal_strconv_formatBase10 (blk off cap:Nat) (u:Nat) (d:Array UInt8) (w:World) (hH:Holds (fun (b:UInt8)=>Value.int .u8 (b.toNat:Int)) w blk off d) (hu:u<10^d.size) (hu64:u<18446744073709551616) (hsz:d.size<4611686018427387904):
  Calls Tryz.prog 205 #[.slice (some ⟨blk,off,none⟩) d.size cap,.int .u64 u] w fun e w'=>
   e= .returned (.tuple #[])∧∃ (n v':Nat) (dk:Array UInt8),w'=(putRow (fun (b:UInt8)=>Value.int .u8 (b.toNat:Int)) w blk off dk).drewN n∧FmtInv d.size u 0 v' dk:=Any.internal_strconv_formatBase10 Tryz.Gf blk off cap u d w hH hu hu64 hsz
def Tryz.pF:Go.Shelf.Ren:=⟨fun | 14=>276 | 16=>281 | 17=>282 | 19=>288 | 20=>289 | 21=>290 | 22=>291 | 23=>292 | 24=>293 | 25=>298 | 27=>300 | 26=>299 | 28=>301 | 29=>302 | 30=>203 | 31=>204 | 32=>205 | 33=>206 | 35=>164 | 34=>239 | 36=>240 | 37=>241 | 38=>242 | 39=>263 | 40=>264 | n=>n,fun | 9=>9 | 3=>3 | 22=>136 | 24=>167 | 25=>306 | 4=>4 | 34=>312 | 5=>5 | 36=>161 | 37=>163 | 0=>0 | 39=>314 | 21=>21 | 44=>323 | 47=>224 | 50=>327 | 48=>325 | 2=>2 | 52=>255 | 55=>257 | 59=>283 | 60=>218 | 20=>20 | 61=>284 | 65=>303 | 66=>304 | 67=>98 | n=>n,fun | 0=>4 | 1=>5 | 2=>0 | 3=>2 | 4=>3 | n=>n⟩
theorem Tryz.B4:Go.Proofs.LaysPu.n14 Tryz.prog Tryz.pF:={
 mixed:=by kernel_rfl
 f14:=Tryz.func276.trans (congrArg some (by kernel_rfl))
 f16:=Tryz.func281.trans (congrArg some (by kernel_rfl))
 f17:=Tryz.func282.trans (congrArg some (by kernel_rfl))
 f19:=Tryz.func288.trans (congrArg some (by kernel_rfl))
 f20:=Tryz.func289.trans (congrArg some (by kernel_rfl))
 f21:=Tryz.func290.trans (congrArg some (by kernel_rfl))
 f22:=Tryz.func291.trans (congrArg some (by kernel_rfl))
 f23:=Tryz.func292.trans (congrArg some (by kernel_rfl))
 f24:=Tryz.func293.trans (congrArg some (by kernel_rfl))
 f25:=Tryz.func298.trans (congrArg some (by kernel_rfl))
 f26:=Tryz.func299.trans (congrArg some (by kernel_rfl))
 f27:=Tryz.func300.trans (congrArg some (by kernel_rfl))
 f28:=Tryz.func301.trans (congrArg some (by kernel_rfl))
 f29:=Tryz.func302.trans (congrArg some (by kernel_rfl))
 f30:=Tryz.func203.trans (congrArg some (by kernel_rfl))
 f31:=Tryz.func204.trans (congrArg some (by kernel_rfl))
 f32:=Tryz.func205.trans (congrArg some (by kernel_rfl))
 f33:=Tryz.func206.trans (congrArg some (by kernel_rfl))
 f34:=Tryz.func239.trans (congrArg some (by kernel_rfl))
 f35:=Tryz.func164.trans (congrArg some (by kernel_rfl))
 f36:=Tryz.func240.trans (congrArg some (by kernel_rfl))
 f37:=Tryz.func241.trans (congrArg some (by kernel_rfl))
 f38:=Tryz.func242.trans (congrArg some (by kernel_rfl))
 f39:=Tryz.func263.trans (congrArg some (by kernel_rfl))
 f40:=Tryz.func264.trans (congrArg some (by kernel_rfl))
 t0:=Tryz.underlying0
 a0:=Tryz.isAgg0
 z0:=Tryz.sizeOf0
 v0:=Tryz.zeroValue0
 i0:=by kernel_rfl
 t2:=Tryz.underlying2
 a2:=Tryz.isAgg2
 z2:=Tryz.sizeOf2
 v2:=Tryz.zeroValue2
 i2:=by kernel_rfl
 t3:=Tryz.underlying3
 a3:=Tryz.isAgg3
 z3:=Tryz.sizeOf3
 v3:=Tryz.zeroValue3
 i3:=by kernel_rfl
 t4:=Tryz.underlying4
 a4:=Tryz.isAgg4
 z4:=Tryz.sizeOf4
 v4:=Tryz.zeroValue4
 i4:=by kernel_rfl
 t5:=Tryz.underlying5
 a5:=Tryz.isAgg5
 z5:=Tryz.sizeOf5
 v5:=Tryz.zeroValue5
 i5:=by kernel_rfl
 t9:=Tryz.underlying9
 a9:=Tryz.isAgg9
 z9:=Tryz.sizeOf9
 v9:=Tryz.zeroValue9
 i9:=by kernel_rfl
 t20:=Tryz.underlying20
 a20:=Tryz.isAgg20
 z20:=Tryz.sizeOf20
 v20:=Tryz.zeroValue20
 i20:=by kernel_rfl
 t21:=Tryz.underlying21
 a21:=Tryz.isAgg21
 z21:=Tryz.sizeOf21
 v21:=Tryz.zeroValue21
 i21:=by kernel_rfl
 t22:=Tryz.underlying136
 a22:=Tryz.isAgg136
 z22:=Tryz.sizeOf136
 v22:=Tryz.zeroValue136
 i22:=by kernel_rfl
 t24:=Tryz.underlying167
 a24:=Tryz.isAgg167
 z24:=Tryz.sizeOf167
 v24:=Tryz.zeroValue167
 i24:=by kernel_rfl
 t25:=Tryz.underlying306
 a25:=Tryz.isAgg306
 z25:=Tryz.sizeOf306
 v25:=Tryz.zeroValue306
 i25:=by kernel_rfl
 t34:=Tryz.underlying312
 a34:=Tryz.isAgg312
 z34:=Tryz.sizeOf312
 v34:=Tryz.zeroValue312
 i34:=by kernel_rfl
 c34:=by kernel_rfl
 t36:=Tryz.underlying161
 a36:=Tryz.isAgg161
 z36:=Tryz.sizeOf161
 v36:=Tryz.zeroValue161
 i36:=by kernel_rfl
 t37:=Tryz.underlying163
 a37:=Tryz.isAgg163
 z37:=Tryz.sizeOf163
 v37:=Tryz.zeroValue163
 i37:=by kernel_rfl
 t39:=Tryz.underlying314
 a39:=Tryz.isAgg314
 z39:=Tryz.sizeOf314
 v39:=Tryz.zeroValue314
 i39:=by kernel_rfl
 t44:=Tryz.underlying323
 a44:=Tryz.isAgg323
 z44:=Tryz.sizeOf323
 v44:=Tryz.zeroValue323
 i44:=by kernel_rfl
 t47:=Tryz.underlying224
 a47:=Tryz.isAgg224
 z47:=Tryz.sizeOf224
 v47:=Tryz.zeroValue224
 i47:=by kernel_rfl
 t48:=Tryz.underlying325
 a48:=Tryz.isAgg325
 z48:=Tryz.sizeOf325
 v48:=Tryz.zeroValue325
 i48:=by kernel_rfl
 t50:=Tryz.underlying327
 a50:=Tryz.isAgg327
 z50:=Tryz.sizeOf327
 v50:=Tryz.zeroValue327
 i50:=by kernel_rfl
 t52:=Tryz.underlying255
 a52:=Tryz.isAgg255
 z52:=Tryz.sizeOf255
 v52:=Tryz.zeroValue255
 i52:=by kernel_rfl
 t55:=Tryz.underlying257
 a55:=Tryz.isAgg257
 z55:=Tryz.sizeOf257
 v55:=Tryz.zeroValue257
 i55:=by kernel_rfl
 t59:=Tryz.underlying283
 a59:=Tryz.isAgg283
 z59:=Tryz.sizeOf283
 v59:=Tryz.zeroValue283
 i59:=by kernel_rfl
 t60:=Tryz.underlying218
 a60:=Tryz.isAgg218
 z60:=Tryz.sizeOf218
 v60:=Tryz.zeroValue218
 i60:=by kernel_rfl
 t61:=Tryz.underlying284
 a61:=Tryz.isAgg284
 z61:=Tryz.sizeOf284
 t65:=Tryz.underlying303
 a65:=Tryz.isAgg303
 z65:=Tryz.sizeOf303
 v65:=Tryz.zeroValue303
 i65:=by kernel_rfl
 t66:=Tryz.underlying304
 a66:=Tryz.isAgg304
 z66:=Tryz.sizeOf304
 v66:=Tryz.zeroValue304
 i66:=by kernel_rfl
 t67:=Tryz.underlying98
 a67:=Tryz.isAgg98
 z67:=Tryz.sizeOf98
 v67:=Tryz.zeroValue98
 i67:=by kernel_rfl
 g0:=by kernel_rfl
 m0:=by kernel_rfl
 g1:=by kernel_rfl
 m1:=by kernel_rfl
 g2:=by kernel_rfl
 m2:=by kernel_rfl
 g3:=by kernel_rfl
 m3:=by kernel_rfl
 g4:=by kernel_rfl
 m4:=by kernel_rfl }
open Go.RowKit in
theorem Tryz.strconv_ParseUint_10_at64_ok (s:ByteArray) (hmax:s.size≤9223372036854775806) (u:Nat) (h:Lib.parseUintB 64 s.data.toList= .ok u) (w:World):
  Calls Tryz.prog 276 #[.string s,.int .i64 10,.int .i64 64] w fun e w'=>e= .returned (.tuple #[.int .u64 u,.nilIface])∧(w'=w∨w'=Lib.bytesWorld w 5 s):=Any.strconv_ParseUint_10_at64_ok Tryz.B4 s hmax u h w
def Tryz.sV:Go.Shelf.Ren:=⟨fun | 145=>247 | 220=>268 | 219=>278 | 217=>284 | 225=>285 | 224=>286 | 267=>287 | 266=>296 | 314=>297 | n=>n,fun | 9=>9 | 4=>4 | 59=>288 | 3=>3 | 5=>5 | 46=>161 | 146=>259 | 51=>218 | n=>n,fun | 1=>1 | n=>n⟩
theorem Tryz.FP:Go.Proofs.Lays.n145 Tryz.prog Tryz.sV:={
 mixed:=by kernel_rfl
 f145:=Tryz.func247.trans (congrArg some (by kernel_rfl))
 f217:=Tryz.func284.trans (congrArg some (by kernel_rfl))
 f219:=Tryz.func278.trans (congrArg some (by kernel_rfl))
 f220:=Tryz.func268.trans (congrArg some (by kernel_rfl))
 f224:=Tryz.func286.trans (congrArg some (by kernel_rfl))
 f225:=Tryz.func285.trans (congrArg some (by kernel_rfl))
 f266:=Tryz.func296.trans (congrArg some (by kernel_rfl))
 f267:=Tryz.func287.trans (congrArg some (by kernel_rfl))
 f314:=Tryz.func297.trans (congrArg some (by kernel_rfl))
 t3:=Tryz.underlying3
 a3:=Tryz.isAgg3
 z3:=Tryz.sizeOf3
 v3:=Tryz.zeroValue3
 t4:=Tryz.underlying4
 a4:=Tryz.isAgg4
 z4:=Tryz.sizeOf4
 v4:=Tryz.zeroValue4
 t5:=Tryz.underlying5
 a5:=Tryz.isAgg5
 z5:=Tryz.sizeOf5
 v5:=Tryz.zeroValue5
 t9:=Tryz.underlying9
 a9:=Tryz.isAgg9
 z9:=Tryz.sizeOf9
 v9:=Tryz.zeroValue9
 t46:=Tryz.underlying161
 a46:=Tryz.isAgg161
 z46:=Tryz.sizeOf161
 v46:=Tryz.zeroValue161
 t51:=Tryz.underlying218
 a51:=Tryz.isAgg218
 z51:=Tryz.sizeOf218
 v51:=Tryz.zeroValue218
 t59:=Tryz.underlying288
 a59:=Tryz.isAgg288
 z59:=Tryz.sizeOf288
 v59:=Tryz.zeroValue288
 t146:=Tryz.underlying259
 a146:=Tryz.isAgg259
 z146:=Tryz.sizeOf259
 v146:=Tryz.zeroValue259
 g1:=by kernel_rfl }
open Go.RowKit Go.Lib in
theorem Tryz.strings_Cut (s sep:ByteArray) (m:Int) (w:World) (hs:s.size<4294967281) (hm:w.cell? ⟨1,0,none⟩=some (.int .i64 m)):
  Calls Tryz.prog 247 #[.string s,.string sep] w fun e w'=>e= .returned (.tuple #[.string ⟨(Lib.cut s.data.toList sep.data.toList).1.toArray⟩,.string ⟨(Lib.cut s.data.toList sep.data.toList).2.1.toArray⟩,.bool (Lib.cut s.data.toList sep.data.toList).2.2])∧∃ n,w'=w.drewN n:=Any.strings_Cut Tryz.FP s sep m w hs hm
def Tryz.sD:Go.Shelf.Ren:=⟨fun | 101=>269 | 208=>279 | 206=>209 | n=>n,fun | 9=>9 | 4=>4 | 3=>3 | n=>n,fun | n=>n⟩
theorem Tryz.Ft:Go.Proofs.Lays.n101 Tryz.prog Tryz.sD:={
 mixed:=by kernel_rfl
 f101:=Tryz.func269.trans (congrArg some (by kernel_rfl))
 f206:=Tryz.func209.trans (congrArg some (by kernel_rfl))
 f208:=Tryz.func279.trans (congrArg some (by kernel_rfl))
 t3:=Tryz.underlying3
 a3:=Tryz.isAgg3
 z3:=Tryz.sizeOf3
 v3:=Tryz.zeroValue3
 t4:=Tryz.underlying4
 a4:=Tryz.isAgg4
 z4:=Tryz.sizeOf4
 v4:=Tryz.zeroValue4
 t9:=Tryz.underlying9
 a9:=Tryz.isAgg9
 z9:=Tryz.sizeOf9
 v9:=Tryz.zeroValue9 }
open Go.RowKit Go.Lib in
theorem Tryz.strings_TrimPrefix (s p:ByteArray) (w:World):
  Calls Tryz.prog 269 #[.string s,.string p] w fun e w'=>e= .returned (.string ⟨(Lib.trimPrefix s.data.toList p.data.toList).toArray⟩)∧w'=w:=Any.strings_TrimPrefix Tryz.Ft s p w
end Go.Proofs
namespace Go.Proofs.YtjlikknopfnllaaGreatDoor
section
theorem vX (w:World) (n:Nat):Below w.heap.size w (w.drewN n):=⟨rfl,rfl,rfl,Nat.le_refl _,fun _ _=>rfl⟩
theorem tn (w:World) (n:Nat) (os:Array Obj):Below w.heap.size w (Go.Sort.grow (w.drewN n) os):=by
 refine ⟨rfl,rfl,rfl,?_,fun k hk=>?_⟩
 ·show w.heap.size≤(w.heap++os).size
  simp
 ·show (w.heap++os)[k]? =w.heap[k]?
  rw [Array.getElem?_append_left hk]
theorem sC (w:World) (e:TypeId) (s:ByteArray):Below w.heap.size w (Lib.bytesWorld w e s):=by
 refine ⟨rfl,rfl,rfl,?_,fun k hk=>Lib.bytesWorld_at_old w e s k hk⟩
 rw [Lib.bytesWorld_size];omega
section
variable {P:Program} {f:FuncId}
theorem gw {w:World} {R:Nat→Prop} {s:ByteArray} {us:List Value} {ps:List PV} (h:RelPL w R (.str s::ps) us):∃ vs,us= .string s::vs∧RelPL w R ps vs:=by
 simp only [RelPL] at h
 obtain ⟨u,vs,rfl,h1,h2⟩:=h
 simp only [RelP] at h1
 exact ⟨vs,by rw [h1],h2⟩
theorem nJ {w:World} {R:Nat→Prop} {k:IntKind} {n:Int} {us:List Value} {ps:List PV} (h:RelPL w R (.int k n::ps) us):∃ vs,us= .int k n::vs∧RelPL w R ps vs:=by
 simp only [RelPL] at h
 obtain ⟨u,vs,rfl,h1,h2⟩:=h
 simp only [RelP] at h1
 exact ⟨vs,by rw [h1],h2⟩
theorem kj {w:World} {R:Nat→Prop} {us:List Value} (h:RelPL w R [] us):us=[]:=by simpa only [RelPL] using h
end
theorem GQ {w:World} {R:Nat→Prop} (h:lA w R):Lib.TabIs Tryz.prog w "internal/strconv.uint64pow10" .u64 Lib.pow10Tab:=by
 obtain ⟨_,o,h1,t,fz,rfl⟩:=h (0,_) (by simp only [glb];exact List.mem_cons_self)
 have hg:Tryz.prog.globalNamed "internal/strconv.uint64pow10" =some 0:=by kernel_rfl
 simp only [Lib.TabIs,World.var?,hg,Option.bind_some,h1]
 rfl
theorem FG {w:World} {R:Nat→Prop} (h:lA w R):∃ m:Int,w.cell? ⟨1,0,none⟩=some (.int .i64 m):=by
 obtain ⟨_,o,h1,m,t,fz,rfl⟩:=h (1,_) (by simp only [glb];exact List.mem_cons_of_mem _ List.mem_cons_self)
 exact ⟨m,by simp [World.cell?,h1]⟩
theorem DY (s sep:ByteArray) (hs:s.size<4294967281):FnP Tryz.prog 247 [.str s,.str sep] (· = .tup [.str ⟨(Lib.cut s.data.toList sep.data.toList).1.toArray⟩,.str ⟨(Lib.cut s.data.toList sep.data.toList).2.1.toArray⟩,.bool (Lib.cut s.data.toList sep.data.toList).2.2]):=by
 intro w R us hG hR hrel
 obtain ⟨v11,rfl,h11⟩:=gw hrel
 obtain ⟨v12,rfl,h12⟩:=gw h11
 obtain rfl:=kj h12
 obtain ⟨m,hm⟩:=FG hG
 exact (Tryz.strings_Cut s sep m w hs hm).mono fun e w' ⟨he,n,hw⟩=>⟨_,_,he,rfl,by rw [hw];exact vX w n,by simp [RelP,RelPL]⟩
theorem qy (s p:ByteArray):FnP Tryz.prog 275 [.str s,.str p] (· = .tup [.str ⟨(Lib.trimPrefix s.data.toList p.data.toList).toArray⟩,.bool (Lib.hasPrefix s.data.toList p.data.toList)]):=by
 intro w R us hG hR hrel
 obtain ⟨v11,rfl,h11⟩:=gw hrel
 obtain ⟨v12,rfl,h12⟩:=gw h11
 obtain rfl:=kj h12
 exact (Tryz.strings_CutPrefix s p w).mono fun e w' ⟨he,hw⟩=>⟨_,_,he,rfl,by rw [hw];exact Below.refl _ _,by simp [RelP,RelPL]⟩
theorem oI (s p:ByteArray):FnP Tryz.prog 269 [.str s,.str p] (· = .str ⟨(Lib.trimPrefix s.data.toList p.data.toList).toArray⟩):=by
 intro w R us hG hR hrel
 obtain ⟨v11,rfl,h11⟩:=gw hrel
 obtain ⟨v12,rfl,h12⟩:=gw h11
 obtain rfl:=kj h12
 exact (Tryz.strings_TrimPrefix s p w).mono fun e w' ⟨he,hw⟩=>⟨_,_,he,rfl,by rw [hw];exact Below.refl _ _,by simp only [RelP]⟩
theorem po (s:ByteArray) (hmax:s.size≤9223372036854775806) (u:Nat) (hu:Lib.parseUintB 64 s.data.toList= .ok u):FnP Tryz.prog 276 [.str s,.int .i64 10,.int .i64 64] (· = .tup [.int .u64 (u:Int),.niliface]):=by
 intro w R us hG hR hrel
 obtain ⟨v11,rfl,h11⟩:=gw hrel
 obtain ⟨v12,rfl,h12⟩:=nJ h11
 obtain ⟨v13,rfl,h13⟩:=nJ h12
 obtain rfl:=kj h13
 refine (Tryz.strconv_ParseUint_10_at64_ok s hmax u hu w).mono fun e w' ⟨he,hw⟩=>⟨_,_,he,rfl,?_,by simp [RelP,RelPL]⟩
 rcases hw with rfl | rfl
 ·exact Below.refl _ _
 ·exact sC w _ s
end
def oY (c:UInt8):Bool:=decide (48≤c.toNat)&&decide (c.toNat≤57)
def jy (l:List UInt8):Nat:=l.foldl (fun a c=>a*10+(c.toNat-48)) 0
theorem yN (l:List UInt8) (a:Nat):l.foldl (fun a c=>a*10+(c.toNat-48)) a=a*10^l.length+jy l:=by
 induction l generalizing a with
 | nil=>simp [jy]
 | cons c l ih=>
   have e:jy (c::l)=(0*10+(c.toNat-48))*10^l.length+jy l:=by rw [jy,List.foldl_cons,ih]
   rw [List.foldl_cons,ih,e,List.length_cons,Nat.pow_succ,Nat.add_mul,Nat.zero_mul,Nat.zero_add,Nat.mul_assoc,Nat.mul_comm 10,Nat.add_assoc]
theorem sA (a b:List UInt8):jy (a++b)=jy a*10^b.length+jy b:=by
 rw [jy,List.foldl_append,yN];rfl
theorem yA {l:List UInt8} (h:∀ c∈l,oY c=true):jy l<10^l.length:=by
 suffices ∀ a,l.foldl (fun a c=>a*10+(c.toNat-48)) a<(a+1)*10^l.length by simpa [jy] using this 0
 induction l with
 | nil=>intro a;simp
 | cons c l ih=>
   intro a
   have hc:=h c (by simp)
   simp only [oY,Bool.and_eq_true,decide_eq_true_eq] at hc
   have:=ih (fun d hd=>h d (by simp [hd])) (a*10+(c.toNat-48))
   rw [List.foldl_cons,List.length_cons,Nat.pow_succ,Nat.mul_comm (10^l.length), ← Nat.mul_assoc]
   exact Nat.lt_of_lt_of_le this (Nat.mul_le_mul_right _ (by omega))
theorem wQ {l:List UInt8} (h:∀ c∈l,oY c=true) (a:Nat) (hl:(a+1)*10^l.length≤1000000000000000000):Lib.parseUintM (2^64-1) a l= .ok (l.foldl (fun a c=>a*10+(c.toNat-48)) a):=by
 induction l generalizing a with
 | nil=>rfl
 | cons c l ih=>
   have hc:=h c (by simp)
   simp only [oY,Bool.and_eq_true,decide_eq_true_eq] at hc
   rw [List.length_cons,Nat.pow_succ,Nat.mul_comm (10^l.length), ← Nat.mul_assoc] at hl
   have hp:1≤10^l.length:=Nat.pow_pos (by decide)
   have h1:(a+1)*10*1≤(a+1)*10*10^l.length:=Nat.mul_le_mul_left _ hp
   have h2:(a+1)*10≤1000000000000000000:=by omega
   rw [Lib.parseUintM,if_pos hc,if_neg (by omega),if_neg (by omega),List.foldl_cons]
   exact ih (fun d hd=>h d (by simp [hd])) _ (Nat.le_trans (Nat.mul_le_mul_right _ (by omega)) hl)
theorem C5 {l:List UInt8} (h:∀ c∈l,oY c=true) (h0:l≠[]) (hl:l.length≤9):Lib.parseUintB 64 l= .ok (jy l):=by
 rw [Lib.parseUintB,if_neg h0]
 refine wQ h 0 ?_
 have:10^l.length≤10^9:=Nat.pow_le_pow_right (by decide) hl
 omega
def bP (s:ByteArray):List UInt8:=Lib.trimPrefix s.data.toList [45]
def Fg (s:ByteArray):Bool:=Lib.hasPrefix s.data.toList [45]
def rdZ (s:ByteArray):Int:=sgn (Fg s) (jy (bP s))
theorem read_step {D:List UInt8} {z lo k V:Nat} (hz:z≤D.length) (hlo:lo=z-9) (h:jy D=jy (D.take z)*1000000000^k+V):
  jy D=jy (D.take lo)*1000000000^(k+1)+(V+1000000000^k*jy ((D.drop lo).take (z-lo))):=by
 have e:D.take z=D.take lo++(D.drop lo).take (z-lo):=by
  rw [← List.take_add,show lo+(z-lo)=z by omega]
 have hl:((D.drop lo).take (z-lo)).length=z-lo:=by simp;omega
 rw [e,sA,hl] at h
 rw [h]
 generalize jy ((D.drop lo).take (z-lo))=u
 by_cases h9:9≤z
 ·have:z-lo=9:=by omega
  rw [this,show (10:Nat)^9=1000000000 from rfl,Nat.pow_succ,Nat.add_mul,Nat.mul_comm u,Nat.mul_assoc,Nat.mul_comm 1000000000 (1000000000^k)]
  omega
 ·have:lo=0:=by omega
  subst this
  rw [List.take_zero]
  simp only [jy,List.foldl_nil,Nat.zero_mul,Nat.zero_add]
  rw [Nat.mul_comm u,Nat.add_comm]
attribute [simp] dc
theorem vu (l:List Nat) (n:Nat):bX l++[.int .u64 (n:Int)]=bX (l++[n]):=by simp [bX]
def zO (D:List UInt8) (z:Nat):Nat:=jy ((D.drop (z-9)).take (z-(z-9)))
theorem Cu (D:List UInt8) (a b:Nat):((⟨D.toArray⟩:ByteArray).extract a b).data.toList=(D.drop a).take (b-a):=by
 rw [ByteArray.extract_mk]
theorem xI {D:List UInt8} (hd:∀ c∈D,oY c=true) {z:Nat} (hz:0<z∧z≤D.length):Lib.parseUintB 64 ((⟨D.toArray⟩:ByteArray).extract (z-9) z).data.toList= .ok (zO D z):=by
 rw [Cu]
 refine C5 (fun c hc=>hd c (List.mem_of_mem_drop (List.mem_of_mem_take hc))) (fun e=>?_) (by simp;omega)
 have:=congrArg List.length e
 simp at this
 omega
theorem yq {D:List UInt8} (hd:∀ c∈D,oY c=true) (z:Nat):zO D z<1000000000:=by
 have:=yA (l:=(D.drop (z-9)).take (z-(z-9))) (fun c hc=>hd c (List.mem_of_mem_drop (List.mem_of_mem_take hc)))
 refine Nat.lt_of_lt_of_le this ?_
 have h9:((D.drop (z-9)).take (z-(z-9))).length≤9:=by simp;omega
 exact Nat.le_trans (Nat.pow_le_pow_right (by decide) h9) (by decide)
section
set_option maxHeartbeats 4000000
theorem iB (s:ByteArray) (hd:∀ c∈bP s,oY c=true) (hl:(bP s).length≤1000000):FnP Tryz.prog 266 [.str s] (· =ec (rdZ s)):=by
 refine FnP.ofC func266 rfl ntmps266 (by simp) fun m0 w0 F R0=>?_
 have hcp:FnP Tryz.prog 275 [.str s,.str ⟨#[45]⟩] (· = .tup [.str ⟨(bP s).toArray⟩,.bool (Fg s)]):=qy s ⟨#[45]⟩
 have hsz:(⟨(bP s).toArray⟩:ByteArray).size=(bP s).length:=by simp [ByteArray.size]
 refine Z1 rfl rfl ?_
 refine Z1 rfl rfl ?_
 refine Rs 11 rfl rfl (ae call275 hcp rfl) ?_
 iterate 5 refine A1 rfl ?_
 refine Z1 rfl rfl ?_
 refine Im (Iu 5 1 1 136 rfl rfl) ?_
 refine Z1 rfl rfl ?_
 refine Rs 15 rfl rfl (XJ.cast (v':= .pv (.int .i64 ((bP s).length:Int))) (Ap underlying9 rfl) (congrArg (fun (i:Nat)=>V.pv (.int .i64 (i:Int))) hsz)) ?_
 refine A1 rfl ?_
 refine Gl rfl (st:=fun x_0:Int×List Nat=>mkS [(2,.ptr 0 0),(3,.pv (.str ⟨(bP s).toArray⟩)),(4,.pv (.bool (Fg s))),(5,.gsl 1 1 x_0.2.length),(6,.pv (.int .i64 x_0.1))] [(0,.mix 91 [.pv (.bool false),.pv nS]),(1,.gro 136 (bX x_0.2))] 2)
  (I:=fun x_0=>x_0.1≤((bP s).length:Int)∧ -9<x_0.1∧Lok x_0.2∧x_0.2.length+x_0.1.toNat≤(bP s).length∧jy (bP s)=jy ((bP s).take x_0.1.toNat)*1000000000^x_0.2.length+val x_0.2) (μ:=fun x_0=>x_0.1.toNat) (x0:=(((bP s).length:Int),[])) (Io (aS rfl) (aO rfl) rfl rfl) (⟨Int.le_refl _,by omega,fun _ h=>absurd h (by simp),by simp,by simp [val]⟩) ?_
 rintro ⟨z,l⟩ ⟨hz,hz9,hok,hll,hv⟩
 try simp only at hz hz9 hok hll hv ⊢
 refine Z2 rfl rfl rfl ?_
 refine Gp rfl rfl (fun hc17=>?_) (fun hc17=>?_)
 ·refine Il ?_
  repeat apply Iz
  refine AW.block ?_
  have hzp:0<z:=hc17
  have hmx:(if z-9>0 then z-9 else 0)=((z.toNat-9:Nat):Int):=by split<;>omega
  have hzz:z=((z.toNat:Nat):Int):=by omega
  have hpu:=xI hd (z:=z.toNat) ⟨by omega,by omega⟩
  refine Z3 rfl rfl rfl rfl ?_
  refine Rs 24 rfl rfl (XJ.cast (v':= .pv (.int .i64 ((z.toNat-9:Nat):Int))) (yX rfl rfl) (congrArg (fun i=>V.pv (.int .i64 i)) hmx)) ?_
  refine Rs 25 rfl rfl (XJ.cast (v':= .pv (.int .i64 ((z.toNat:Nat):Int))) iZ (congrArg (fun i=>V.pv (.int .i64 i)) hzz)) ?_
  refine A1 rfl ?_
  refine Rs 27 rfl rfl (ae call276 (po _ (by simp;omega) _ hpu) rfl) ?_
  iterate 5 refine A1 rfl ?_
  refine Gr rfl ?_
  iterate 5 refine A1 rfl ?_
  refine Z3 rfl rfl rfl rfl ?_
  exact ⟨(z-9,l++[zO (bP s) z.toNat]),Ip [0,3] ⟨rfl,rfl,rfl,by simp only [List.length_append,List.length_singleton];rfl,rfl,trivial⟩ ⟨rfl,congrArg (fun c=>some (Ob.gro 136 c)) (vu _ _),trivial⟩ rfl rfl (by decide) rfl,⟨by omega,by omega,hok.append (fun b hb=>by rw [List.mem_singleton.1 hb];exact yq hd _),by rw [List.length_append,List.length_singleton];omega,by rw [List.length_append,List.length_singleton,ez,val_one,show (z-9).toNat=z.toNat-9 by omega];exact read_step (by omega) rfl hv⟩,by omega⟩
 ·refine Gx rfl ?_
  refine Im (Ir 1 rfl rfl) ?_
  have hz0:z.toNat=0:=by omega
  rw [hz0,List.take_zero,show jy []=0 from rfl,Nat.zero_mul,Nat.zero_add] at hv
  refine Z2 rfl rfl rfl ?_
  refine Rs 36 rfl rfl (ae call95 (cw l rfl (by omega) hok hv.symm) rfl) ?_
  refine Rs 37 rfl rfl (ae call94 (bE _ _) rfl) ?_
  refine A1 rfl ?_
  refine Gt rfl ?_
  exact ⟨_,_,rfl,rfl,⟨aY ⟨_,underlying91,rfl⟩ lK rfl rfl rfl,trivial⟩,rfl⟩
end
section
open Go.RowKit Mk
set_option maxHeartbeats 4000000
theorem HY (s:ByteArray) (k:Nat) (h:k<s.size):s.data.toList.getD k 0=s[k]'h:=by
 rw [List.getD_eq_getElem?_getD,List.getElem?_eq_getElem (by simpa using h)]
 rfl
end
section
open Go.RowKit Mk
set_option maxHeartbeats 4000000
def pW (D:List UInt8):Bool:= !D.isEmpty&&decide (D.length≤400)&&(D.getD 0 0 !=48)&&D.all oY
def bo (s:ByteArray):Bool:=(s.toList==(⟨#[48]⟩:ByteArray).toList)||pW (bP s)
theorem r7 {s:ByteArray} (h:(s.toList==(⟨#[48]⟩:ByteArray).toList)=true):bo s=true:=by rw [bo,h];rfl
theorem rH {s:ByteArray} (h:(s.toList==(⟨#[48]⟩:ByteArray).toList)=false):bo s=pW (bP s):=by rw [bo,h];rfl
def mb (x:ByteArray):Bool:=(((x.toList==(⟨#[]⟩:ByteArray).toList)||decide ((x.size:Int)>400))||((((x.data.toList.getD 0 0).toNat:Nat):Int)==48))
theorem p7 (x:ByteArray):(x.toList==(⟨#[]⟩:ByteArray).toList)=x.data.toList.isEmpty:=by
 rw [Lib.toList_data,Lib.toList_data]
 cases x.data.toList with
 | nil=>rfl
 | cons a l=>rfl
theorem HE (c:UInt8):(((c.toNat:Nat):Int)==48)=(c==48):=by
 rw [Bool.eq_iff_iff,beq_iff_eq,beq_iff_eq]
 constructor
 ·intro h;exact UInt8.toNat_inj.1 (show c.toNat=(48:UInt8).toNat from Int.ofNat_inj.1 h)
 ·intro h;rw [h];rfl
theorem pM (D:List UInt8):mb ⟨D.toArray⟩= !(!D.isEmpty&&decide (D.length≤400)&&(D.getD 0 0 !=48)):=by
 have hsz:(⟨D.toArray⟩:ByteArray).size=D.length:=by simp [ByteArray.size]
 rw [mb,p7,HE,hsz]
 have h2:decide ((D.length:Int)>400)= !decide (D.length≤400):=by
  rw [Bool.eq_iff_iff];simp;omega
 rw [h2]
 show (D.isEmpty|| !decide (D.length≤400)||(D.getD 0 0==48))=_
 rw [bne]
 cases D.isEmpty<;>cases decide (D.length≤400)<;>cases (D.getD 0 0==48)<;>rfl
theorem Dd {D:List UInt8} (h:mb ⟨D.toArray⟩=true):pW D=false:=by
 rw [pM] at h
 rw [pW]
 simp only [Bool.not_eq_true'] at h
 rw [h];rfl
theorem DQ {D:List UInt8} (h:mb ⟨D.toArray⟩=false):pW D=D.all oY∧0<D.length∧D.length≤400:=by
 rw [pM] at h
 simp only [Bool.not_eq_false'] at h
 rw [pW,h]
 simp only [Bool.and_eq_true,decide_eq_true_eq] at h
 refine ⟨rfl,?_,h.1.2⟩
 cases D with
 | nil=>simp at h
 | cons a l=>simp
def B8 (c:UInt8):Bool:=decide ((c.toNat:Int)<48)||decide ((c.toNat:Int)>57)
theorem uY (c:UInt8):B8 c= !oY c:=by
 rw [B8,oY,Bool.eq_iff_iff];simp;omega
theorem Hz {D:List UInt8} {k:Nat} (hk:k<D.length) (h:B8 (D[k]'hk)=true):D.all oY=false:=by
 rw [uY] at h
 rw [List.all_eq_false]
 exact ⟨_,List.getElem_mem hk,by simpa using h⟩
theorem Fm {D:List UInt8} (h:∀ j,j<D.length→oY (D.getD j 0)=true):D.all oY=true:=by
 rw [List.all_eq_true]
 intro c hc
 obtain ⟨j,hj,rfl⟩:=List.getElem_of_mem hc
 have:=h j hj
 rwa [List.getD_eq_getElem?_getD,List.getElem?_eq_getElem hj] at this
theorem F2 {D:List UInt8} {k:Nat} (hk:k<D.length) (h:B8 (D[k]'hk)=false):oY (D.getD k 0)=true:=by
 rw [uY] at h
 rw [List.getD_eq_getElem?_getD,List.getElem?_eq_getElem hk]
 simpa using h
theorem vpos {x:ByteArray} (h:((x.toList==(⟨#[]⟩:ByteArray).toList)||decide ((x.size:Int)>400))=false):0<x.size:=by
 rw [Bool.or_eq_false_iff,p7] at h
 have h1:=h.1
 rw [Lib.size_eq]
 cases e:x.data.toList with
 | nil=>rw [e] at h1;simp at h1
 | cons a l=>simp
theorem cV (s:ByteArray):FnP Tryz.prog 248 [.str s] (· = .bool (bo s)):=by
 refine FnP.of func248 rfl ntmps248 (by simp) fun m0 w0 F R0=>?_
 have hcp:FnP Tryz.prog 269 [.str s,.str ⟨#[45]⟩] (· = .str ⟨(bP s).toArray⟩):=oI s ⟨#[45]⟩
 refine Z1 rfl rfl ?_
 refine Z2 rfl rfl rfl ?_
 refine Gc rfl rfl (fun hc7=>?_) (fun hc7=>?_)
 ·refine Z1 rfl rfl ?_
  refine Gt rfl ?_
  exact ⟨_,_,rfl,rfl,congrArg PV.bool (r7 hc7).symm⟩
 ·have hs:bo s=pW (bP s):=rH hc7
  clear hc7
  generalize bP s=D at*
  have hgn:=@Dd D
  have hgg:=@DQ D
  have hdl:(⟨D.toArray⟩:ByteArray).data.toList=D:=rfl
  have hsz:(⟨D.toArray⟩:ByteArray).size=D.length:=by simp [ByteArray.size]
  refine Il ?_
  refine Z1 rfl rfl ?_
  refine Rs 9 rfl rfl (ae call269 hcp rfl) ?_
  refine A1 rfl ?_
  refine Z3 rfl rfl rfl rfl ?_
  apply Ix 4 12 16 [13,14,15] rfl (by first | exact ax.le | exact ax.aw | exact Iv)
  ·intro hb2
   iterate 4 refine A1 rfl ?_
   exact Iq (Ik (Ik (Ik (Ik (Ik (fEq.refl) rfl) rfl) rfl) rfl) rfl) rfl rfl rfl
  ·intro hb2
   iterate 4 refine A1 rfl ?_
   exact Iq (Ik (Ik (Ik (Ik (Ik (fEq.refl) rfl) rfl) rfl) rfl) rfl) rfl rfl rfl
  refine A1 rfl ?_
  apply Ix 4 17 21 [18,19,20] rfl (by first | exact ax.le | exact ax.aw | exact Iv)
  ·intro hb7
   iterate 4 refine A1 rfl ?_
   exact Iq (Ik (Ik (Ik (Ik (Ik (fEq.refl) rfl) rfl) rfl) rfl) rfl) rfl rfl rfl
  ·intro hb7
   have hp:=vpos hb7
   refine A1 rfl ?_
   refine Rg 19 rfl rfl rfl (pz 0 underlying9 rfl rfl rfl hp) ?_
   refine Rg 20 rfl rfl rfl ((aQ rfl rfl rfl).cast (v':= .pv (.bool ((((((⟨D.toArray⟩:ByteArray).data.toList.getD 0 0).toNat:Nat):Int)==48)))) (by rw [HY _ 0 hp])) ?_
   refine A1 rfl ?_
   exact Iq (Ik (Ik (Ik (Ik (Ik (fEq.refl) rfl) rfl) rfl) rfl) rfl) rfl rfl rfl
  refine Gc rfl rfl (fun hc21=>?_) (fun hc21=>?_)
  ·have hv:mb ⟨D.toArray⟩=true:=hc21
   refine Z1 rfl rfl ?_
   refine Gt rfl ?_
   exact ⟨_,_,rfl,rfl,congrArg PV.bool (hs.trans (hgn hv)).symm⟩
  ·obtain ⟨hg2,hD0,hD4⟩:=hgg (show mb ⟨D.toArray⟩=false from hc21)
   refine Il ?_
   refine Z4 rfl rfl rfl rfl rfl ?_
   refine Gl rfl (st:=fun x_0:Nat=>mkS [(23,.pv (.sl (some false) D.length (az D))),(24,.pv (.int .i64 D.length)),(25,.pv (.int .i64 x_0))] [] 0)
    (I:=fun x_0=>x_0≤D.length∧∀ j,j<x_0→oY (D.getD j 0)=true) (μ:=fun x_0=>D.length-x_0) (x0:=(0)) (Io (aS rfl) trivial rfl rfl) (⟨Nat.zero_le _,fun j hj=>absurd hj (Nat.not_lt_zero _)⟩) ?_
   rintro k ⟨hk,hall⟩
   refine Z1 rfl rfl ?_
   refine Gp rfl rfl (fun hc26=>?_) (fun hc26=>?_)
   ·have hlt:k<D.length:=by omega
    have hv:=kp hlt
    have hne:=jZ hlt
    have hno:=Hz hlt
    have hye:=F2 hlt
    refine Il ?_
    repeat apply Iz
    refine AW.block ?_
    generalize D[k]=c at hno hye hv ⊢
    refine Z1 rfl rfl ?_
    first | refine A2 rfl (by assumption) ?_ | refine A1 rfl ?_
    refine A1 rfl ?_
    refine Z3 rfl rfl rfl rfl ?_
    apply Ix 3 31 34 [32,33] rfl (by first | exact ax.le | exact ax.aw | exact Iv)
    ·intro hb2
     refine Y3 rfl rfl rfl ?_
     exact Iq (Ik (Ik (Ik (Ik (fEq.refl) rfl) rfl) rfl) rfl) rfl rfl rfl
    ·intro hb2
     refine Y3 rfl rfl rfl ?_
     exact Iq (Ik (Ik (Ik (Ik (fEq.refl) rfl) rfl) rfl) rfl) rfl rfl rfl
    refine Gc rfl rfl (fun hc34=>?_) (fun hc34=>?_)
    ·have hc:=hno hc34
     refine Z1 rfl rfl ?_
     refine Gt rfl ?_
     exact ⟨_,_,rfl,rfl,congrArg PV.bool (by rw [hs,hg2,hc])⟩
    ·have hc:=hye hc34
     refine Il ?_
     refine Z2 rfl rfl rfl ?_
     exact ⟨(k+1),Io (aS rfl) trivial rfl rfl,⟨by omega,fun j hj=>by rcases Nat.lt_succ_iff_lt_or_eq.1 hj with h | rfl;exact hall j h;exact hc⟩,by omega⟩
   ·refine Gx rfl ?_
    refine Z1 rfl rfl ?_
    refine Gt rfl ?_
    exact ⟨_,_,rfl,rfl,congrArg PV.bool (by rw [hs,hg2,Fm fun j hj=>hall j (by omega)])⟩
theorem dA {s:ByteArray} (h:bo s=true):(∀ c∈bP s,oY c=true)∧(bP s).length≤400:=by
 rw [bo,Bool.or_eq_true] at h
 rcases h with h | h
 ·rw [Lib.toList_data,Lib.toList_data,beq_iff_eq] at h
  have e:bP s=[48]:=by rw [bP,h];rfl
  rw [e]
  exact ⟨fun c hc=>by rw [List.mem_singleton.1 hc];rfl,by decide⟩
 ·simp only [pW,Bool.and_eq_true,decide_eq_true_eq,List.all_eq_true] at h
  exact ⟨h.2,h.1.1.2⟩
theorem EH (s:ByteArray):(rdZ s).natAbs=jy (bP s):=yc _ _
theorem FO {n k:Nat} (h:n≤9*k):10^n≤1000000000^k:=by
 rw [show (1000000000:Nat)=10^9 from rfl, ← Nat.pow_mul]
 exact Nat.pow_le_pow_right (by decide) h
theorem vY {a b:Nat} (h:a≤b):(aj a).length≤(aj b).length:=bF.2 (Nat.lt_of_le_of_lt h (bF.1 (Nat.le_refl _)))
theorem oq {s:ByteArray} (h:bo s=true):(aj (rdZ s).natAbs).length≤400:=by
 obtain ⟨h1,h2⟩:=dA h
 rw [EH]
 obtain ⟨k,hk⟩:∃ k,k=400:=⟨_,rfl⟩
 rw [← hk] at h2 ⊢
 exact bF.2 (Nat.lt_of_lt_of_le (yA h1) (FO (by omega)))
theorem iC (s:ByteArray) (h:bo s=true):FnP Tryz.prog 249 [.str s] (· =ec (rdZ s)):=by
 refine FnP.ofC func249 rfl ntmps249 (by simp) fun m0 w0 F R0=>?_
 have hd:=dA h
 refine Z1 rfl rfl ?_
 refine Z1 rfl rfl ?_
 refine Rs 4 rfl rfl (ae call266 (iB s hd.1 (by omega)) rfl) ?_
 refine A1 rfl ?_
 refine Gt rfl ?_
 exact ⟨_,_,rfl,rfl,⟨aY ⟨_,underlying91,rfl⟩ lK rfl rfl rfl,trivial⟩,rfl⟩
theorem xW (a b:ByteArray) (ha:bo a=true) (hb:bo b=true):FnP Tryz.prog 265 [.str a,.str b] (· = .int .i64 (rdZ a-rdZ b).sign):=by
 refine FnP.of func265 rfl ntmps265 (by simp) fun m0 w0 F R0=>?_
 have hva:=cV a
 have hvb:=cV b
 have hla:=oq ha
 have hlb:=oq hb
 have hra:=iC a ha
 have hrb:=iC b hb
 rw [ha] at hva
 rw [hb] at hvb
 refine Z1 rfl rfl ?_
 refine Z1 rfl rfl ?_
 refine Rs 6 rfl rfl (ae call248 hva rfl) ?_
 refine Y2 rfl rfl ?_
 apply Ix 4 8 12 [9,10,11] rfl (by first | exact ax.le | exact ax.aw | exact Iv)
 ·intro hb3
  iterate 4 refine A1 rfl ?_
  exact Iq (Ik (Ik (Ik (Ik (Ik (fEq.refl) rfl) rfl) rfl) rfl) rfl) rfl rfl rfl
 ·intro hb3
  refine A1 rfl ?_
  refine Rg 10 rfl rfl rfl (ae call248 hvb rfl) ?_
  refine Y2 rfl rfl ?_
  exact Iq (Ik (Ik (Ik (Ik (Ik (fEq.refl) rfl) rfl) rfl) rfl) rfl) rfl rfl rfl
 refine Gc rfl rfl (fun hc12=>absurd hc12 (by simp)) (fun hc12=>?_)
 refine Il ?_
 refine Z1 rfl rfl ?_
 refine Rs 14 rfl rfl (ae call249 hra rfl) ?_
 refine A1 rfl ?_
 refine Rs 16 rfl rfl (ae call249 hrb rfl) ?_
 refine Rs 17 rfl rfl (ae call50 (gl _ _ (by omega) (by omega)) rfl) ?_
 refine A1 rfl ?_
 refine Gt rfl ?_
 exact ⟨_,_,rfl,rfl,rfl⟩
def Gy (x y:Int):Prop:=FnP Tryz.prog 267 [ec x,ec y] (· =ec (Int.gcd x y:Int))
def sO (s:ByteArray):ByteArray:=⟨(Lib.cut s.data.toList [47]).1.toArray⟩
def o5 (s:ByteArray):ByteArray:=⟨(Lib.cut s.data.toList [47]).2.1.toArray⟩
def cS (s:ByteArray):Bool:=(Lib.cut s.data.toList [47]).2.2
def EE:ByteArray:=⟨#[49]⟩
def zeroT:ByteArray:=⟨#[48]⟩
def HA (s:ByteArray):Bool:=((sO s).toList==zeroT.toList)|| !bo (o5 s)||decide (rdZ (o5 s)≤1)
def mP (s:ByteArray):Bool:=if (!bo (sO s)|| !cS s)=true then !cS s&&bo (sO s) else !HA s&&decide (Int.gcd (rdZ (sO s)) (rdZ (o5 s))=1)
theorem se:rdZ EE=1:=by decide
theorem nk:bo EE=true:=by rw [bo,Bool.or_eq_true];exact .inr (by decide)
theorem F5 (a:Int):decide ((a-1).sign≤0)=decide (a≤1):=by
 rw [Bool.eq_iff_iff,decide_eq_true_eq,decide_eq_true_eq]
 rcases Int.lt_trichotomy (a-1) 0 with h | h | h
 ·rw [Int.sign_eq_neg_one_of_neg h];omega
 ·rw [h];simp;omega
 ·rw [Int.sign_eq_one_of_pos h];omega
theorem sign_eq (a:Int):((a-1).sign==0)=decide (a=1):=by
 rw [Bool.eq_iff_iff,decide_eq_true_eq,beq_iff_eq,Int.sign_eq_zero_iff_zero];omega
theorem j9 (s:ByteArray) (hs:s.size<4294967281) (hG:bo (sO s)=true→HA s=false→Gy (rdZ (sO s)) (rdZ (o5 s))):FnP Tryz.prog 246 [.str s] (· = .bool (mP s)):=by
 refine FnP.of func246 rfl ntmps246 (by simp) fun m0 w0 F R0=>?_
 have hcut:FnP Tryz.prog 247 [.str s,.str ⟨#[47]⟩] (· = .tup [.str (sO s),.str (o5 s),.bool (cS s)]):=DY s ⟨#[47]⟩ hs
 have hv:=mP.eq_1 s
 have hb:=HA.eq_1 s
 generalize mP s=v at*
 generalize HA s=bad at*
 generalize sO s=nu at*
 generalize o5 s=de at*
 generalize cS s=ok at*
 have hvn:=cV nu
 have hvd:=cV de
 refine Z1 rfl rfl ?_
 refine Z1 rfl rfl ?_
 refine Rs 8 rfl rfl (ae call247 hcut rfl) ?_
 iterate 7 refine A1 rfl ?_
 refine Z1 rfl rfl ?_
 refine Rs 13 rfl rfl (ae call248 hvn rfl) ?_
 refine Y2 rfl rfl ?_
 apply Ix 3 15 18 [16,17] rfl (by first | exact ax.le | exact ax.aw | exact Iv)
 ·intro hb3
  refine Y3 rfl rfl rfl ?_
  exact Iq (Ik (Ik (Ik (Ik (fEq.refl) rfl) rfl) rfl) rfl) rfl rfl rfl
 ·intro hb3
  refine Y3 rfl rfl rfl ?_
  exact Iq (Ik (Ik (Ik (Ik (fEq.refl) rfl) rfl) rfl) rfl) rfl rfl rfl
 refine Gc rfl rfl (fun hc18=>?_) (fun hc18=>?_)
 ·rw [if_pos hc18] at hv
  refine Z3 rfl rfl rfl rfl ?_
  apply Iy 3 21 24 [22,23] rfl (by first | exact ax.le | exact ax.aw | exact Iv)
  ·intro hb2
   refine A1 rfl ?_
   refine Rg 23 rfl rfl rfl (ae call248 hvn rfl) ?_
   refine A1 rfl ?_
   exact Iq (Ik (Ik (Ik (Ik (fEq.refl) rfl) rfl) rfl) rfl) rfl rfl rfl
  ·intro hb2
   refine Y3 rfl rfl rfl ?_
   exact Iq (Ik (Ik (Ik (Ik (fEq.refl) rfl) rfl) rfl) rfl) rfl rfl rfl
  refine A1 rfl ?_
  refine Gt rfl ?_
  exact ⟨_,_,rfl,rfl,congrArg PV.bool hv.symm⟩
 ·rw [if_neg (by simpa using hc18)] at hv
  have hin:bo nu=true:=by simp only [Bool.or_eq_false_iff] at hc18;simpa using hc18.1
  refine Il ?_
  refine Z3 rfl rfl rfl rfl ?_
  apply Ix 4 27 31 [28,29,30] rfl (by first | exact ax.le | exact ax.aw | exact Iv)
  ·intro hb2
   iterate 4 refine A1 rfl ?_
   exact Iq (Ik (Ik (Ik (Ik (Ik (fEq.refl) rfl) rfl) rfl) rfl) rfl) rfl rfl rfl
  ·intro hb2
   refine A1 rfl ?_
   refine Rg 29 rfl rfl rfl (ae call248 hvd rfl) ?_
   refine Y2 rfl rfl ?_
   exact Iq (Ik (Ik (Ik (Ik (Ik (fEq.refl) rfl) rfl) rfl) rfl) rfl) rfl rfl rfl
  refine A1 rfl ?_
  apply Ix 4 32 36 [33,34,35] rfl (by first | exact ax.le | exact ax.aw | exact Iv)
  ·intro hb7
   iterate 4 refine A1 rfl ?_
   exact Iq (Ik (Ik (Ik (Ik (Ik (fEq.refl) rfl) rfl) rfl) rfl) rfl) rfl rfl rfl
  ·intro hb7
   have hid:bo de=true:=by simp only [Bool.or_eq_false_iff] at hb7;simpa using hb7.2
   refine A1 rfl ?_
   refine Rg 34 rfl rfl rfl (ae call265 (xW de EE hid nk) rfl) ?_
   refine Rg 35 rfl rfl rfl ((aQ rfl rfl rfl).cast (v':= .pv (.bool (decide (rdZ de≤1)))) (congrArg (fun b=>V.pv (.bool b)) (by rw [se,F5]))) ?_
   refine A1 rfl ?_
   exact Iq (Ik (Ik (Ik (Ik (Ik (fEq.refl) rfl) rfl) rfl) rfl) rfl) rfl rfl rfl
  refine Gc rfl rfl (fun hc36=>?_) (fun hc36=>?_)
  ·have hbt:bad=true:=hb.trans hc36
   refine Z1 rfl rfl ?_
   refine Gt rfl ?_
   exact ⟨_,_,rfl,rfl,congrArg PV.bool (by rw [hv,hbt];rfl)⟩
  ·have hbt:bad=false:=hb.trans hc36
   have hgc:=hG hin hbt
   refine Il ?_
   have hid:bo de=true:=by simp only [Bool.or_eq_false_iff] at hc36;simpa using hc36.1.2
   have hln:=oq hin
   have hld:=oq hid
   have hrn:=iB nu (dA hin).1 (by have:=(dA hin).2;omega)
   have hrd:=iB de (dA hid).1 (by have:=(dA hid).2;omega)
   have hdp:1<rdZ de:=by simp only [Bool.or_eq_false_iff,decide_eq_false_iff_not] at hc36;omega
   have hlg:(aj (Int.gcd (rdZ nu) (rdZ de):Int).natAbs).length≤1000000:=by rw [Int.natAbs_natCast];exact Nat.le_trans (vY (Nat.le_of_dvd (by omega) (Nat.gcd_dvd_right _ _))) (by omega)
   refine Z1 rfl rfl ?_
   refine Rs 38 rfl rfl (ae call266 hrn rfl) ?_
   refine A1 rfl ?_
   refine Rs 40 rfl rfl (ae call266 hrd rfl) ?_
   refine Rs 41 rfl rfl (ae call267 hgc rfl) ?_
   refine Rs 42 rfl rfl (ae call51 (fO 1 (by decide) (by decide)) rfl) ?_
   refine Rs 43 rfl rfl (ae call50 (gl _ _ hlg (by rw [ru (by decide) (by decide)];decide)) rfl) ?_
   refine Y2 rfl rfl ?_
   refine Gt rfl ?_
   exact ⟨_,_,rfl,rfl,congrArg PV.bool (by rw [hv,hbt,sign_eq];simp;omega)⟩
end
namespace Jn
structure Rw where
 v:List ByteArray
 w:Int
theorem xu {a b:ByteArray} (h:a.data.toList=b.data.toList):a=b:=ByteArray.ext (Array.ext' h)
def vZ (v:List ByteArray):List (List UInt8):=v.map (·.data.toList)
theorem uH:∀ {a b:List ByteArray},vZ a=vZ b→a=b
 | [],[],_=>rfl
 | [],_::_,h=>by simp [vZ] at h
 | _::_,[],h=>by simp [vZ] at h
 | x::a,y::b,h=>by
   rw [vZ,List.map_cons,vZ,List.map_cons,List.cons.injEq] at h
   rw [xu h.1,uH (a:=a) (b:=b) h.2]
def aZ (a b:List ByteArray):Bool:=decide (vZ a<vZ b)
theorem cz (a:List ByteArray):aZ a a=false:=decide_eq_false (List.lt_irrefl _)
theorem cT {a b c:List ByteArray} (h1:aZ a b=true) (h2:aZ b c=true):aZ a c=true:=
 decide_eq_true (List.lt_trans (of_decide_eq_true h1) (of_decide_eq_true h2))
theorem gO {a b:List ByteArray} (h1:aZ a b=false) (h2:aZ b a=false):a=b:=
 uH (List.le_antisymm (List.not_lt.1 (of_decide_eq_false h2)) (List.not_lt.1 (of_decide_eq_false h1)))
def dB (x:Rw):List Rw→List Rw
 | []=>[x]
 | y::l=>if aZ y.v x.v=true then y::dB x l else if y.v=x.v then ⟨y.v,y.w+x.w⟩::l else x::y::l
def lH (l:List Rw):List Rw:=(l.foldl (fun out x=>dB x out) []).filter fun x=>x.w !=0
def Aj (l:List Rw):Prop:=l.Pairwise fun a b=>aZ a.v b.v=true
theorem jL {x:Rw}:∀ {l:List Rw} {y:Rw},y∈dB x l→y.v=x.v∨∃ z∈l,y.v=z.v
 | [],y,h=>by rw [dB,List.mem_singleton] at h;exact .inl (by rw [h])
 | z::l,y,h=>by
   rw [dB] at h
   split at h
   ·rcases List.mem_cons.1 h with rfl | h
    ·exact .inr ⟨_,by simp,rfl⟩
    ·rcases jL h with e | ⟨z',hz,e⟩
     ·exact .inl e
     ·exact .inr ⟨z',by simp [hz],e⟩
   ·split at h
    ·rcases List.mem_cons.1 h with rfl | h
     ·exact .inr ⟨z,by simp,rfl⟩
     ·exact .inr ⟨y,by simp [h],rfl⟩
    ·rcases List.mem_cons.1 h with rfl | h
     ·exact .inl rfl
     ·exact .inr ⟨y,h,rfl⟩
theorem uW {x:Rw}:∀ {l:List Rw},Aj l→Aj (dB x l)
 | [],_=>by rw [dB];exact List.pairwise_singleton _ _
 | z::l,h=>by
   have h':=List.pairwise_cons.1 h
   rw [dB]
   split
   ·rename_i hz
    refine List.pairwise_cons.2 ⟨fun y hy=>?_,uW h'.2⟩
    rcases jL hy with e | ⟨y',hy',e⟩
    ·rw [e];exact hz
    ·rw [e];exact h'.1 y' hy'
   ·rename_i hz
    split
    ·exact List.pairwise_cons.2 ⟨fun y hy=>h'.1 y hy,h'.2⟩
    ·rename_i hne
     have hlt:aZ x.v z.v=true:=by
      cases e:aZ x.v z.v with
      | true=>rfl
      | false=>exact absurd (gO (by simpa using hz) e) hne
     refine List.pairwise_cons.2 ⟨fun y hy=>?_,h⟩
     rcases List.mem_cons.1 hy with rfl | hy
     ·exact hlt
     ·exact cT hlt (h'.1 y hy)
def o0 (l:List Rw):Int:=(l.map (·.w)).sum
theorem tS (x:Rw):∀ l:List Rw,o0 (dB x l)=o0 l+x.w
 | []=>by simp [dB,o0]
 | z::l=>by
   rw [dB]
   split
   ·have:=tS x l
    simp only [o0,List.map_cons,List.sum_cons] at *; omega
   ·split<;>(simp only [o0,List.map_cons,List.sum_cons];omega)
theorem uI {x:Rw} (hx:0<x.w):∀ {l:List Rw},(∀ y∈l,0<y.w)→∀ y∈dB x l,0<y.w
 | [],_,y,hy=>by rw [dB,List.mem_singleton] at hy;rw [hy];exact hx
 | z::l,h,y,hy=>by
   have hz:=h z (by simp)
   have hl:∀ y∈l,0<y.w:=fun y hy=>h y (by simp [hy])
   rw [dB] at hy
   split at hy
   ·rcases List.mem_cons.1 hy with rfl | hy
    ·exact hz
    ·exact uI hx hl y hy
   ·split at hy
    ·rcases List.mem_cons.1 hy with rfl | hy
     ·show 0<z.w+x.w;omega
     ·exact hl y hy
    ·rcases List.mem_cons.1 hy with rfl | hy
     ·exact hx
     ·exact h y hy
theorem nU (x:Rw):∀ l:List Rw,(dB x l).length≤l.length+1
 | []=>by simp [dB]
 | z::l=>by
   rw [dB]
   split
   ·have:=nU x l
    simp only [List.length_cons];omega
   ·split<;>simp
structure SortOk (l out:List Rw):Prop where
 asc:Aj out
 val:∀ y∈out,∃ z∈l,y.v=z.v
 tot:o0 out=o0 l
 pos:(∀ z∈l,0<z.w)→∀ y∈out,0<y.w
 len:out.length≤l.length
theorem As:∀ (l pre out:List Rw),SortOk pre out→SortOk (pre++l) (l.foldl (fun out x=>dB x out) out)
 | [],pre,out,h=>by simpa using h
 | x::l,pre,out,h=>by
   have:=As l (pre++[x]) (dB x out) ⟨uW h.asc,fun y hy=>by
    rcases jL hy with e | ⟨z,hz,e⟩
    ·exact ⟨x,by simp,e⟩
    ·obtain ⟨z',hz',e'⟩:=h.val z hz
     exact ⟨z',by simp [hz'],e.trans e'⟩,by rw [tS,h.tot];simp [o0],fun hp=>uI (hp x (by simp)) (h.pos fun z hz=>hp z (by simp [hz])),by
    have h1:=nU x out
    have h2:=h.len
    simp only [List.length_append,List.length_singleton];omega⟩
   rw [List.foldl_cons,show pre++x::l=(pre++[x])++l by simp]
   exact this
theorem tU {l:List Rw} (hp:∀ z∈l,0<z.w):SortOk l (lH l):=by
 have h:=As l [] [] ⟨List.Pairwise.nil,fun y hy=>absurd hy (by simp),rfl,fun _ y hy=>absurd hy (by simp),Nat.le_refl _⟩
 rw [List.nil_append] at h
 have hpos:=h.pos hp
 have e:lH l=l.foldl (fun out x=>dB x out) []:=by
  rw [lH,List.filter_eq_self]
  intro y hy
  have:=hpos y hy
  simp only [bne_iff_ne,ne_eq];omega
 rw [e];exact h
theorem zR:∀ {l:List Rw},(∀ y∈l,0<y.w)→∀ y∈l,y.w≤o0 l
 | z::l,h,y,hy=>by
   have hl:∀ y∈l,0<y.w:=fun y hy=>h y (by simp [hy])
   have h0:0≤o0 l:=by
    clear h hy
    induction l with
    | nil=>simp [o0]
    | cons a l ih=>
      have:=ih fun y hy=>hl y (by simp [hy])
      have:=hl a (by simp)
      simp only [o0,List.map_cons,List.sum_cons] at *; omega
   have hz:=h z (by simp)
   have e:o0 (z::l)=z.w+o0 l:=by simp [o0]
   rcases List.mem_cons.1 hy with rfl | hy
   ·omega
   ·have:=zR hl y hy
    omega
end Jn
section
open Go.RowKit Mk
set_option maxHeartbeats 1000000
theorem lV (l:List ByteArray) (k:Nat) (hk:k<l.length) (hl:l.length≤1000000) (hw:l[k].size≤9223372036854775807):FnP Tryz.prog 175 [aI l,.int .i64 k] (· = .int .i64 (dY l k)):=by
 refine FnP.of func175 rfl ntmps175 (by simp) fun m0 w0 F R0=>?_
 have hv:=aM hk
 have hne:=bc hk
 have hgd:l.getD k default=l[k]:=by simp [List.getD,hk]
 have htk:(aA l).take (k*1)=aA (l.take k):=by simp
 have hsl:PV.sl none k (aA (l.take k))=aI (l.take k):=by simp [aI];omega
 refine Z1 rfl rfl ?_
 refine Z3 rfl rfl rfl rfl ?_
 first | refine A2 rfl (by assumption) ?_ | refine A1 rfl ?_
 refine Rs 10 rfl rfl (ae call212 (q9 l[k] hw) rfl) ?_
 refine Y2 rfl rfl ?_
 refine Gc rfl rfl (fun hc5=>?_) (fun hc5=>?_)
 ·refine Z1 rfl rfl ?_
  refine Gt rfl ?_
  exact ⟨_,_,rfl,rfl,congrArg (PV.int .i64) (by unfold dY;rw [hgd,if_pos (by simpa using hc5)])⟩
 ·refine Ge rfl follows [0,1,2,3,4,5,6,7,8] (by kernel_rfl) ?_
  iterate 2 refine D1 rfl rfl ?_
  refine Ds 15 [] rfl rfl rfl (fun τ h=>XJ.cast (v':= .pv (aI (l.take k))) (dz k underlying47 sz9 (Ee h 0 rfl rfl) (Ee h 1 rfl rfl) rfl (by omega) (by simp)) (by rw [htk,hsl])) rfl (by kernel_rfl) ?_
  iterate 3 refine D1 rfl rfl ?_
  first | refine D2 rfl rfl (by assumption) ?_ | refine D1 rfl rfl ?_
  refine Ds 20 [] rfl rfl rfl (fun τ h=>ae call213 (lC (l.take k) l[k] (by simp;omega)) (h.bt rfl)) rfl (by kernel_rfl) ?_
  refine D1 rfl rfl ?_
  refine ⟨by kernel_rfl,?_⟩
  refine Gc rfl rfl (fun hc12=>?_) (fun hc12=>?_)
  ·refine Z1 rfl rfl ?_
   refine Gt rfl ?_
   exact ⟨_,_,rfl,rfl,congrArg (PV.int .i64) (by unfold dY;rw [hgd,if_neg (by simpa using hc5),if_pos hc12])⟩
  ·refine Il ?_
   refine Z1 rfl rfl ?_
   refine Gt rfl ?_
   exact ⟨_,_,rfl,rfl,congrArg (PV.int .i64) (by unfold dY;rw [hgd,if_neg (by simpa using hc5),if_neg (by simp [hc12])])⟩
structure SB (S:Sch):Prop where
 a:S.attrs.length≤1000000
 r:S.rels.length≤1000000
 f:S.feats.length≤1000000
 an:∀ x∈S.attrs,x.1.size≤9223372036854775807
 rn:∀ x∈S.rels,x.1.size≤9223372036854775807
 rl:∀ x∈S.rels,x.2.length≤1000000
theorem od {l:List (ByteArray×Int)} {k:Nat} (h:k<l.length):((cc l).drop (k*2)).take 2=[.str l[k].1,.int .i64 l[k].2]:=iq _ 2 (fun _=>rfl) l k h
theorem lq {l:List (ByteArray×Int)} {k:Nat} (h:k<l.length):cc l≠[]:=fun e=>by have:=mi l;rw [e] at this;simp at this;omega
theorem qi (L:List ByteArray) (x:ByteArray):aA (L++[x])=aA L++[.str x]:=by simp
theorem ml (L:List ByteArray) (x:ByteArray):aI (L++[x])= .sl none (L.length+1) (aA L++[.str x]):=by simp
theorem lW {l:List ByteArray} {k n:Nat} (h:k<n):dY (l.take n) k=dY l k:=by
 unfold dY
 have e1:(l.take n).getD k default=l.getD k default:=by simp [List.getD,List.getElem?_take,h]
 have e2:(l.take n).take k=l.take k:=by rw [List.take_take,Nat.min_eq_left (by omega)]
 rw [e1,e2]
theorem bT {α:Type} {l:List α} {k:Nat} (h:k<l.length):l.take (k+1)=l.take k++[l[k]]:=List.take_succ_eq_append_getElem h
theorem kx (S:Sch) (hS:SB S):FnP Tryz.prog 121 [gK S] (· = .int .i64 (bZ (ju S) S.attrs.length)):=by
 refine FnP.of func121 rfl ntmps121 (by simp) fun m0 w0 F R0=>?_
 have hb:=hS.a
 have hAl:=mi S.attrs
 refine Z2 rfl rfl rfl ?_
 refine Z1 rfl rfl ?_
 refine Im (Iu 3 1 1 9 rfl rfl) ?_
 refine Z4 rfl rfl rfl rfl rfl ?_
 refine Gl rfl (st:=fun x_0:Nat×List ByteArray=>mkS [(3,.gsl 1 1 x_0.2.length),(8,.pv (.sl none S.attrs.length (cc S.attrs))),(9,.pv (.int .i64 S.attrs.length)),(10,.pv (.int .i64 x_0.1))] [(1,.gro 9 (aA x_0.2))] 2)
  (I:=fun x_0=>x_0.1≤S.attrs.length∧x_0.2=(S.attrs.map (·.1)).take x_0.1∧bZ (ju S) x_0.1=0) (μ:=fun x_0=>S.attrs.length-x_0.1) (x0:=(0,[])) (Io (aS rfl) (aO rfl) rfl rfl) (⟨Nat.zero_le _,rfl,rfl⟩) ?_
 rintro ⟨k,L⟩ ⟨hk,hL,hs⟩
 try simp only at hk hL hs ⊢
 refine Z1 rfl rfl ?_
 refine Gp rfl rfl (fun hc11=>?_) (fun hc11=>?_)
 ·have hlt:k<S.attrs.length:=by omega
  have hrow:=od hlt
  have hne:=lq hlt
  have hnl:L.length=k:=by rw [hL];simp;omega
  have htk:L++[S.attrs[k].1]=(S.attrs.map (·.1)).take (k+1):=by rw [bT (by simpa using hlt),hL];simp
  have hns:=lV (L++[S.attrs[k].1]) k (by simp;omega) (by simp;omega) (by simp only [← hnl];simp;exact hS.an _ (List.getElem_mem _))
  rw [ml,htk,lW (by omega)] at hns
  have hgd:S.attrs.getD k default=S.attrs[k]:=by simp [List.getD,hlt]
  have hsl:(aA L).length=L.length*1:=by simp
  refine Il ?_
  refine Z2 rfl rfl rfl ?_
  refine Rs 14 rfl rfl (db ⟨_,underlying27,rfl⟩ G1 rfl hrow rfl) ?_
  refine Y3 rfl rfl rfl ?_
  refine Gr rfl ?_
  iterate 6 refine A1 rfl ?_
  refine Z2 rfl rfl rfl ?_
  refine Rs 22 rfl rfl (oQ call175 hns rfl rfl) ?_
  refine A1 rfl ?_
  refine Z2 rfl rfl rfl ?_
  refine Gc rfl rfl (fun hc24=>?_) (fun hc24=>?_)
  ·refine Z2 rfl rfl rfl ?_
   refine Gt rfl ?_
   exact ⟨_,_,rfl,rfl,congrArg (PV.int .i64) (by rw [gQ hs (by unfold ju;rw [if_pos (inT hc24)];exact inT hc24) hlt];unfold ju;rw [if_pos (inT hc24)])⟩
  ·refine Il ?_
   refine Z4 rfl rfl rfl rfl rfl ?_
   apply Ix 4 29 33 [30,31,32] rfl (by first | exact ax.le | exact ax.aw | exact Iv)
   ·intro hb3
    iterate 4 refine A1 rfl ?_
    exact Iq (Ik (Ik (Ik (Ik (Ik (fEq.refl) rfl) rfl) rfl) rfl) rfl) rfl rfl rfl
   ·intro hb3
    iterate 4 refine A1 rfl ?_
    exact Iq (Ik (Ik (Ik (Ik (Ik (fEq.refl) rfl) rfl) rfl) rfl) rfl) rfl rfl rfl
   refine Gc rfl rfl (fun hc33=>?_) (fun hc33=>?_)
   ·refine Z1 rfl rfl ?_
    refine Gt rfl ?_
    exact ⟨_,_,rfl,rfl,congrArg (PV.int .i64) (by have e:ju S k=7:=(by unfold ju;rw [if_neg (by simp [inF hc24]),hgd,if_pos (by simpa using hc33)]);rw [gQ hs (by rw [e];decide) hlt,e])⟩
   ·refine Il ?_
    refine Z2 rfl rfl rfl ?_
    exact ⟨(k+1,L++[S.attrs[k].1]),Ip [0,4] ⟨by simp;rfl,rfl,rfl,rfl,trivial⟩ ⟨congrArg (fun c=>some (Ob.gro 9 c)) (qi L S.attrs[k].1).symm,trivial⟩ rfl rfl (by decide) rfl,⟨by simp only;omega,htk,by simp only;rw [eA hs];unfold ju;rw [if_neg (by simp [inF hc24]),hgd,if_neg (by simpa using hc33)]⟩,by simp only;omega⟩
 ·refine Gx rfl ?_
  refine Z1 rfl rfl ?_
  refine Gt rfl ?_
  exact ⟨_,_,rfl,rfl,congrArg (PV.int .i64) (by rw [show S.attrs.length=k by omega,hs])⟩
end
section
open Go.RowKit Mk
set_option maxHeartbeats 1000000
theorem cW {l:List (ByteArray×List Int)} {k:Nat} (h:k<l.length):((bj l).drop (k*2)).take 2=[.str l[k].1,ak l[k].2]:=iq _ 2 (fun _=>rfl) l k h
theorem ew {l:List (ByteArray×List Int)} {k:Nat} (h:k<l.length):bj l≠[]:=fun e=>by have:=yQ l;rw [e] at this;simp at this;omega
def ey (n:Nat) (U:List Bool) (p:Nat→Bool):Prop:=U.length=n∧∀ a,a<n→U[a]? =some (p a)
theorem ey.zero (n:Nat):ey n (List.replicate n false) (fun _=>false):=⟨by simp,fun a ha=>by simp [ha]⟩
theorem ey.set {n:Nat} {U:List Bool} {p:Nat→Bool} (h:ey n U p) {a:Nat} (ha:a<n):ey n (U.set a true) (fun b=>p b||(b==a)):=by
 refine ⟨by simp [h.1],fun b hb=>?_⟩
 by_cases e:b=a
 ·subst e;simp [h.1,hb]
 ·rw [List.getElem?_set_ne (fun e'=>e e'.symm),h.2 b hb];simp [e]
theorem ey.congr {n:Nat} {U:List Bool} {p q:Nat→Bool} (h:ey n U p) (e:∀ a,a<n→p a=q a):ey n U q:=⟨h.1,fun a ha=>by rw [h.2 a ha,e a ha]⟩
theorem ey.mem {n:Nat} {U:List Bool} {p:Nat→Bool} (h:ey n U p):decide (false∈U)= !((List.range n).all p):=by
 rw [Bool.eq_iff_iff]
 simp only [decide_eq_true_eq,Bool.not_eq_true',List.all_eq_false,List.mem_range]
 constructor
 ·intro hm
  obtain ⟨a,ha,e⟩:=List.getElem_of_mem hm
  refine ⟨a,by rw [← h.1];exact ha,?_⟩
  have:=h.2 a (by rw [← h.1];exact ha)
  rw [List.getElem?_eq_getElem ha,e] at this
  simpa using this.symm
 ·rintro ⟨a,ha,e⟩
  have:=h.2 a ha
  have e':p a=false:=by simpa using e
  rw [e'] at this
  exact List.mem_of_getElem? this
theorem xX (U:List Bool) (a:Nat):(ay U).set a (.bool true)=ay (U.set a true):=by simp [List.map_set]
theorem Aq {b:Bool} {l:List Int} {q j a:Nat} (hq:q<l.length) (hj:l[q]=(j:Int)):((b||inB (l.take q) a)||(a==j))=(b||inB (l.take (q+1)) a):=by
 rw [bT hq,Bool.or_assoc]
 congr 1
 rw [Bool.eq_iff_iff]
 simp [inB,hj]
 exact or_congr Iff.rfl ⟨fun h=>by rw [h],fun h=>by omega⟩
theorem Dj {l:List Int} {q n:Nat} (hq:q<l.length) (h:∀ a∈l.take q,0≤a∧a<(n:Int)) (hx:0≤l[q]∧l[q]<n):∀ a∈l.take (q+1),0≤a∧a<(n:Int):=by
 rw [bT hq]
 intro a ha
 rcases List.mem_append.1 ha with h1 | h1
 ·exact h a h1
 ·rw [List.mem_singleton.1 h1];exact hx
theorem Br {l:List Int} {p:Nat} (hp:p<l.length) (hp1:1≤p) (h:∀ i,i+1<p→i+1<l.length→l.getD i 0<l.getD (i+1) 0) (hx:l[p-1]'(by omega)<l[p]):∀ i,i+1<p+1→i+1<l.length→l.getD i 0<l.getD (i+1) 0:=by
 intro i h1 h2
 by_cases e:i+1=p
 ·have e2:i=p-1:=by omega
  subst e2
  have e3:p-1+1=p:=by omega
  simp only [e3,List.getD,List.getElem?_eq_getElem hp,List.getElem?_eq_getElem (show p-1<l.length by omega)]
  exact hx
 ·exact h i (by omega) h2
theorem CZ {rs:List (ByteArray×List Int)} {k q a:Nat} (hk:k<rs.length) (hq:rs[k].2.length≤q):(((rs.take k).any fun r=>inB r.2 a)||inB (rs[k].2.take q) a)=((rs.take (k+1)).any fun r=>inB r.2 a):=by
 rw [bT hk,List.take_of_length_le hq]
 simp only [List.any_append,List.any_cons,List.any_nil,Bool.or_false]
theorem lE (S:Sch) (hS:SB S):FnP Tryz.prog 122 [gK S] (· = .int .i64 (iM S)):=by
 refine FnP.of func122 rfl ntmps122 (by simp) fun m0 w0 F R0=>?_
 have hb:=hS.a
 have hb2:=hS.r
 refine Z2 rfl rfl rfl ?_
 refine Z1 rfl rfl ?_
 refine Im (Iu 3 1 1 9 rfl rfl) ?_
 refine Gr rfl ?_
 iterate 5 refine A1 rfl ?_
 refine Z4 rfl rfl rfl rfl rfl ?_
 refine Gl rfl (st:=fun x_0:Nat×List ByteArray×List Bool=>mkS [(3,.gsl 1 1 x_0.2.1.length),(4,.osl 2 1 S.attrs.length),(16,.pv (.sl none S.rels.length (bj S.rels))),(17,.pv (.int .i64 S.rels.length)),(18,.pv (.int .i64 x_0.1))] [(1,.gro 9 (aA x_0.2.1)),(2,.cells 4 (ay x_0.2.2))] 3)
  (I:=fun x_0=>x_0.1≤S.rels.length∧x_0.2.1=(S.rels.map (·.1)).take x_0.1∧ey S.attrs.length x_0.2.2 (fun a=>(S.rels.take x_0.1).any fun r=>inB r.2 a)∧bZ (xe S) x_0.1=0) (μ:=fun x_0=>S.rels.length-x_0.1) (x0:=(0,[],List.replicate S.attrs.length false)) (Io (aS rfl) ⟨rfl,congrArg (fun c=>some (Ob.cells 4 c)) ((ct (.bool false) (S.attrs.length*1)).trans (by simp)),trivial⟩ rfl rfl) (⟨Nat.zero_le _,rfl,ey.zero _,rfl⟩) ?_
 rintro ⟨k,L,U⟩ ⟨hk,hL,hU,hs⟩
 try simp only at hk hL hU hs ⊢
 refine Z1 rfl rfl ?_
 refine Gp rfl rfl (fun hc19=>?_) (fun hc19=>?_)
 ·have hlt:k<S.rels.length:=by omega
  have hrow:=cW hlt
  have hne:=ew hlt
  have hnl:L.length=k:=by rw [hL];simp;omega
  have htk:L++[S.rels[k].1]=(S.rels.map (·.1)).take (k+1):=by rw [bT (by simpa using hlt),hL];simp
  have hns:=lV (L++[S.rels[k].1]) k (by simp;omega) (by simp;omega) (by simp only [← hnl];simp;exact hS.rn _ (List.getElem_mem _))
  rw [ml,htk,lW (by omega)] at hns
  have hre:=Cj S k hlt
  have hgd:S.rels.getD k default=S.rels[k]:=by simp [List.getD,hlt]
  have hsl:(aA L).length=L.length*1:=by simp
  have hll:=hS.rl _ (List.getElem_mem hlt)
  have hul:=hU.1
  refine Il ?_
  refine Z2 rfl rfl rfl ?_
  refine Rs 22 rfl rfl (db ⟨_,underlying30,rfl⟩ Eu rfl hrow rfl) ?_
  refine Y3 rfl rfl rfl ?_
  refine Gr rfl ?_
  iterate 6 refine A1 rfl ?_
  refine Z2 rfl rfl rfl ?_
  refine Rs 30 rfl rfl (oQ call175 hns rfl rfl) ?_
  refine A1 rfl ?_
  refine Z2 rfl rfl rfl ?_
  refine Gc rfl rfl (fun hc32=>?_) (fun hc32=>?_)
  ·refine Z2 rfl rfl rfl ?_
   refine Gt rfl ?_
   exact ⟨_,_,rfl,rfl,congrArg (PV.int .i64) (by have e:xe S k=dY (S.rels.map (·.1)) k:=(by unfold xe;rw [if_pos (inT hc32)]);unfold iM;rw [gQ hs (by rw [e];exact inT hc32) hlt,if_pos (by rw [e];exact inT hc32),e])⟩
  ·have hn0:dY (S.rels.map (·.1)) k=0:=inF hc32
   have hre:xe S k=if S.rels[k].2=[] then 7 else if (S.rels[k].2.all fun a=>decide (0≤a)&&decide (a<S.attrs.length))=false then 2 else if BJ S.rels[k].2=false then 10 else 0:=by unfold xe;rw [if_neg (by simp [hn0]),hgd]
   have hfin:∀ e:Int,e≠0→xe S k=e→PV.int .i64 e= .int .i64 (iM S):=fun e h0 h1=>congrArg (PV.int .i64) (by unfold iM;rw [gQ hs (by rw [h1];exact h0) hlt,if_pos (by rw [h1];exact h0),h1])
   refine Il ?_
   refine Z4 rfl rfl rfl rfl rfl ?_
   refine Gc rfl rfl (fun hc37=>?_) (fun hc37=>?_)
   ·refine Z1 rfl rfl ?_
    refine Gt rfl ?_
    exact ⟨_,_,rfl,rfl,hfin 7 (by decide) (by rw [hre,if_pos (by have:=ibT hc37;apply List.eq_nil_of_length_eq_zero;omega)])⟩
   ·have hl0:¬ S.rels[k].2=[]:=fun e=>by rw [e] at hc37;simp at hc37
    refine Il ?_
    refine Z4 rfl rfl rfl rfl rfl ?_
    refine Gl rfl (st:=fun x_1:Nat×List Bool=>mkS [(3,.gsl 5 1 (L.length+1)),(4,.osl 2 1 S.attrs.length),(6,.ptr 3 0),(16,.pv (.sl none S.rels.length (bj S.rels))),(17,.pv (.int .i64 S.rels.length)),(18,.pv (.int .i64 k)),(39,.pv (ak S.rels[k].2)),(40,.pv (.int .i64 S.rels[k].2.length)),(41,.pv (.int .i64 x_1.1))] [(2,.cells 4 (ay x_1.2)),(3,.mix 30 [.pv (.str S.rels[k].1),.pv (ak S.rels[k].2)]),(5,.gro 9 (aA L++[.str S.rels[k].1]))] 6)
     (I:=fun x_1=>x_1.1≤S.rels[k].2.length∧ey S.attrs.length x_1.2 (fun a=>((S.rels.take k).any fun r=>inB r.2 a)||inB (S.rels[k].2.take x_1.1) a)∧∀ a∈S.rels[k].2.take x_1.1,0≤a∧a<S.attrs.length) (μ:=fun x_1=>S.rels[k].2.length-x_1.1) (x0:=(0,U)) (Io (aS rfl) (aO rfl) rfl rfl) (⟨Nat.zero_le _,hU.congr (fun a _=>by simp [inB]),by simp⟩) ?_
    rintro ⟨q,U2⟩ ⟨hq,hU2,hr⟩
    try simp only at hq hU2 hr ⊢
    refine Z1 rfl rfl ?_
    refine Gp rfl rfl (fun hc42=>?_) (fun hc42=>?_)
    ·have hql:q<S.rels[k].2.length:=by omega
     have hv:=cE hql
     have hne2:=aH hql
     have hul2:=hU2.1
     refine Il ?_
     refine Z1 rfl rfl ?_
     first | refine A2 rfl (by assumption) ?_ | refine A1 rfl ?_
     refine A1 rfl ?_
     refine Z3 rfl rfl rfl rfl ?_
     apply Ix 5 47 52 [48,49,50,51] rfl (by first | exact ax.le | exact ax.aw | exact Iv)
     ·intro hb2
      iterate 5 refine A1 rfl ?_
      exact Iq (Ik (Ik (Ik (Ik (Ik (Ik (fEq.refl) rfl) rfl) rfl) rfl) rfl) rfl) rfl rfl rfl
     ·intro hb2
      iterate 5 refine A1 rfl ?_
      exact Iq (Ik (Ik (Ik (Ik (Ik (Ik (fEq.refl) rfl) rfl) rfl) rfl) rfl) rfl) rfl rfl rfl
     refine Gc rfl rfl (fun hc52=>?_) (fun hc52=>?_)
     ·refine Z1 rfl rfl ?_
      refine Gt rfl ?_
      exact ⟨_,_,rfl,rfl,hfin 2 (by decide) (by rw [hre,if_neg hl0,if_pos (HB hql (by simp at hc52;omega))])⟩
     ·have hx:0≤S.rels[k].2[q]∧S.rels[k].2[q]<S.attrs.length:=by simp only [Bool.or_eq_false_iff,decide_eq_false_iff_not] at hc52;omega
      obtain ⟨j,hj⟩:=Int.eq_ofNat_of_zero_le hx.1
      refine Il ?_
      refine Z2 rfl rfl rfl ?_
      refine Rs 55 rfl rfl (aa j underlying115 sz4 rfl rfl rfl hj (by omega)) ?_
      refine A1 rfl ?_
      refine Z2 rfl rfl rfl ?_
      exact ⟨(q+1,U2.set j true),Io (aS rfl) ⟨by show some (Ob.cells _ _)=_;rw [← xX];simp,rfl,rfl,trivial⟩ rfl rfl,⟨by simp only;omega,(hU2.set (a:=j) (by omega)).congr (fun a _=>Aq hql hj),Dj hql hr hx⟩,by simp only;omega⟩
    ·have hrng:(S.rels[k].2.all fun a=>decide (0≤a)&&decide (a<S.attrs.length))=true:=FZ (fun a ha=>hr a (by rw [List.take_of_length_le (by omega)];exact ha))
     refine Gx rfl ?_
     refine Z1 rfl rfl ?_
     refine Gl rfl (st:=fun x_2:Nat=>mkS [(3,.gsl 5 1 (L.length+1)),(4,.osl 2 1 S.attrs.length),(6,.ptr 3 0),(10,.pv (.int .i64 x_2)),(16,.pv (.sl none S.rels.length (bj S.rels))),(17,.pv (.int .i64 S.rels.length)),(18,.pv (.int .i64 k))] [(2,.cells 4 (ay U2)),(3,.mix 30 [.pv (.str S.rels[k].1),.pv (ak S.rels[k].2)]),(5,.gro 9 (aA L++[.str S.rels[k].1]))] 6)
      (I:=fun x_2=>1≤x_2∧∀ i,i+1<x_2→i+1<S.rels[k].2.length→S.rels[k].2.getD i 0<S.rels[k].2.getD (i+1) 0) (μ:=fun x_2=>S.rels[k].2.length-x_2) (x0:=(1)) (Io (aS rfl) (aO rfl) rfl rfl) (⟨Nat.le_refl _,fun i hi=>by omega⟩) ?_
     rintro p ⟨hp1,hasc⟩
     refine Gr rfl ?_
     iterate 5 refine A1 rfl ?_
     refine Gp rfl rfl (fun hc61=>?_) (fun hc61=>?_)
     ·have hpl:p<S.rels[k].2.length:=by omega
      have hpl1:p-1<S.rels[k].2.length:=by omega
      have hv:=cE hpl
      have hv1:=cE hpl1
      have hne2:=aH hpl
      refine Il ?_
      refine Ge rfl follows [0,1,2,3,4,5,6,7,8,9,10,11] (by kernel_rfl) ?_
      iterate 4 refine D1 rfl rfl ?_
      first | refine D2 rfl rfl (by assumption) ?_ | refine D1 rfl rfl ?_
      iterate 4 refine D1 rfl rfl ?_
      refine Ds 73 [] rfl rfl rfl (fun τ h=>ag (p-1) underlying22 sz3 (Ee h 0 rfl rfl) (Ee h 1 rfl rfl) (by omega) (by omega) hne2) rfl (by kernel_rfl) ?_
      first | refine D2 rfl rfl (by assumption) ?_ | refine D1 rfl rfl ?_
      refine D1 rfl rfl ?_
      refine ⟨by kernel_rfl,?_⟩
      refine Gp rfl rfl (fun hc75=>?_) (fun hc75=>?_)
      ·refine Z1 rfl rfl ?_
       refine Gt rfl ?_
       exact ⟨_,_,rfl,rfl,hfin 10 (by decide) (by rw [hre,if_neg hl0,if_neg (by rw [hrng];decide),if_pos (HQ hp1 hpl hc75)])⟩
      ·refine Il ?_
       refine Z3 rfl rfl rfl rfl ?_
       exact ⟨(p+1),Io (aS rfl) (aO rfl) rfl rfl,⟨by omega,Br hpl hp1 hasc (by omega)⟩,by omega⟩
     ·refine Gx rfl ?_
      refine Z2 rfl rfl rfl ?_
      exact ⟨(k+1,L++[S.rels[k].1],U2),Ip [0,5,2] ⟨by simp;rfl,rfl,rfl,rfl,rfl,trivial⟩ ⟨congrArg (fun c=>some (Ob.gro 9 c)) (qi L S.rels[k].1).symm,rfl,trivial⟩ rfl rfl (by decide) rfl,⟨by simp only;omega,htk,hU2.congr (fun a _=>CZ hlt (by omega)),by simp only;rw [eA hs,hre,if_neg hl0,if_neg (by rw [hrng];decide),if_neg (by rw [GI (fun i hi=>hasc i (by omega) hi)];decide)]⟩,by simp only;omega⟩
 ·have hfull:((List.range S.attrs.length).all fun a=>(S.rels.take k).any fun r=>inB r.2 a)=((List.range S.attrs.length).all fun a=>DB S a):=by rw [List.take_of_length_le (by omega)];rfl
  refine Gx rfl ?_
  refine Z1 rfl rfl ?_
  refine Rs 78 rfl rfl (oQ call176 (lI U false (by have:=hU.1;omega)) (by rw [uN,hU.1];rfl) rfl) ?_
  refine Gc rfl rfl (fun hc78=>?_) (fun hc78=>?_)
  ·refine Z1 rfl rfl ?_
   refine Gt rfl ?_
   exact ⟨_,_,rfl,rfl,congrArg (PV.int .i64) (by unfold iM;rw [show S.rels.length=k by omega,if_neg (by simp [hs]),if_pos (by rw [← hfull];rw [hU.mem] at hc78;simpa using hc78)])⟩
  ·refine Il ?_
   refine Z1 rfl rfl ?_
   refine Gt rfl ?_
   exact ⟨_,_,rfl,rfl,congrArg (PV.int .i64) (by unfold iM;rw [show S.rels.length=k by omega,if_neg (by simp [hs]),if_neg (by rw [← hfull];rw [hU.mem] at hc78;simpa using hc78)])⟩
end
section
open Go.RowKit Mk
set_option maxHeartbeats 1000000
abbrev zn (f:Int×Int×Int):List PV:=[.int .i64 f.1,.int .i64 f.2.1,.int .i64 f.2.2]
theorem vp {l:List (Int×Int×Int)} {k:Nat} (h:k<l.length):((bm l).drop (k*3)).take 3=zn l[k]:=iq _ 3 (fun _=>rfl) l k h
theorem AH {l:List (Int×Int×Int)} {k:Nat} (h:k<l.length):bm l≠[]:=fun e=>by have:=fL l;rw [e] at this;simp at this;omega
theorem DH {α:Type} {l:List α} {p:α→Bool} {k:Nat} (hk:k<l.length) (h:(l.take k).any p=false) (hn:p l[k]=false):(l.take (k+1)).any p=false:=by
 rw [bT hk];simp only [List.any_append,h,List.any_cons,hn,List.any_nil,Bool.or_false]
theorem HS {α:Type} {l:List α} {p:α→Bool} {k:Nat} (hk:k<l.length) (h:p l[k]=true):l.any p=true:=List.any_eq_true.2 ⟨_,List.getElem_mem hk,h⟩
theorem AL (l:List (Int×Int×Int)) (g:FuncId) (caps:List PV) (p:Int×Int×Int→Bool) (hl:l.length≤1000000) (hc:bN Tryz.prog g) (hg:∀ f∈l,FnP Tryz.prog g ([]++[.agg (zn f)]++caps) (· = .bool (p f))):
  FnP Tryz.prog 215 [.sl none l.length (bm l),.fn (.func g) [] caps] (fun v=>∃ i:Int,v= .int .i64 i∧decide (0≤i)=l.any p):=by
 refine FnP.of func215 rfl ntmps215 (by simp) fun m0 w0 F R0=>?_
 refine Z1 rfl rfl ?_
 refine Z3 rfl rfl rfl rfl ?_
 refine Gl rfl (st:=fun x_0:Nat=>mkS [(0,.pv (.sl none l.length (bm l))),(1,.pv (.fn (.func g) [] caps)),(7,.pv (.int .i64 l.length)),(8,.pv (.int .i64 x_0))] [] 0)
  (I:=fun x_0=>x_0≤l.length∧(l.take x_0).any p=false) (μ:=fun x_0=>l.length-x_0) (x0:=(0)) (Io (aS rfl) trivial rfl rfl) (⟨Nat.zero_le _,rfl⟩) ?_
 rintro k ⟨hk,hno⟩
 refine Z1 rfl rfl ?_
 refine Gp rfl rfl (fun hc9=>?_) (fun hc9=>?_)
 ·have hlt:k<l.length:=by omega
  have hrow:=vp hlt
  have hne:=AH hlt
  have hgk:=hg _ (List.getElem_mem hlt)
  refine Il ?_
  refine Z2 rfl rfl rfl ?_
  refine Z4 rfl rfl rfl rfl rfl ?_
  refine Rs 15 rfl rfl (db ⟨_,underlying107,rfl⟩ EJ rfl hrow rfl) ?_
  refine Rs 16 rfl rfl (bb hc rfl hgk rfl) ?_
  refine Gc rfl rfl (fun hc16=>?_) (fun hc16=>?_)
  ·refine Z2 rfl rfl rfl ?_
   refine Gt rfl ?_
   exact ⟨_,_,rfl,rfl,_,rfl,by rw [HS hlt hc16];exact decide_eq_true (by omega)⟩
  ·refine Il ?_
   refine Z2 rfl rfl rfl ?_
   exact ⟨(k+1),Io (aS rfl) trivial rfl rfl,⟨by omega,DH hlt hno hc16⟩,by omega⟩
 ·refine Gx rfl ?_
  refine Z1 rfl rfl ?_
  refine Gt rfl ?_
  exact ⟨_,_,rfl,rfl,_,rfl,by rw [List.take_of_length_le (by omega)] at hno;rw [hno];rfl⟩
theorem lL (l:List (Int×Int×Int)) (g:FuncId) (caps:List PV) (p:Int×Int×Int→Bool) (hl:l.length≤1000000) (hc:bN Tryz.prog g) (hg:∀ f∈l,FnP Tryz.prog g ([]++[.agg (zn f)]++caps) (· = .bool (p f))):
  FnP Tryz.prog 177 [.sl none l.length (bm l),.fn (.func g) [] caps] (· = .bool (l.any p)):=by
 refine FnP.of func177 rfl ntmps177 (by simp) fun m0 w0 F R0=>?_
 refine Z1 rfl rfl ?_
 refine Z2 rfl rfl rfl ?_
 refine RL.call rfl (dE call215 (AL l g caps p hl hc hg) rfl ?_)
 rintro _ ⟨i,rfl,hi⟩
 refine Y2 rfl rfl ?_
 refine Gt rfl ?_
 exact ⟨_,_,rfl,rfl,congrArg PV.bool hi⟩
theorem wq (f:Int×Int×Int) (c:List PV) (a:Int) (hc:c[0]? =some (.int .i64 a)):FnP Tryz.prog 178 [.agg (zn f),.rp c 0] (· = .bool (f.1==a)):=by
 refine FnP.of func178 rfl ntmps178 (by simp) fun m0 w0 F R0=>?_
 refine Z2 rfl rfl rfl ?_
 refine Z3 rfl rfl rfl rfl ?_
 first | refine A1 rfl ?_ | refine A2 rfl (by assumption) ?_
 refine Y2 rfl rfl ?_
 refine Gt rfl ?_
 exact ⟨_,_,rfl,rfl,rfl⟩
theorem vN (l:List (Int×Int×Int)) (k:Nat) (hk:k≤l.length):PV.sl none k ((bm l).take (k*3))= .sl none (l.take k).length (bm (l.take k)):=by
 have e:(bm l).take (k*3)=bm (l.take k):=by
  conv=>lhs;rw [← List.take_append_drop k l]
  have:bm (l.take k++l.drop k)=bm (l.take k)++bm (l.drop k):=by unfold bm;rw [List.flatMap_append]
  rw [this,List.take_append_of_le_length (by rw [fL];simp;omega),List.take_of_length_le (by rw [fL];simp;omega)]
 rw [e];simp;omega
theorem nz (S:Sch) (hS:SB S):FnP Tryz.prog 123 [gK S] (· = .int .i64 (bZ (k7 S) S.feats.length)):=by
 refine FnP.of func123 rfl ntmps123 (by simp) fun m0 w0 F R0=>?_
 have hb:=hS.a
 have hb2:=hS.f
 have hFl:=fL S.feats
 refine Z2 rfl rfl rfl ?_
 refine Z4 rfl rfl rfl rfl rfl ?_
 refine Gl rfl (st:=fun x_0:Nat=>mkS [(1,.ptr 0 0),(9,.pv (.sl none S.feats.length (bm S.feats))),(10,.pv (.int .i64 S.feats.length)),(11,.pv (.int .i64 x_0))] [(0,.mix 34 [.pv (.sl none S.attrs.length (cc S.attrs)),.pv (.sl none S.rels.length (bj S.rels)),.pv (.sl none S.feats.length (bm S.feats)),.pv (.int .i64 S.label)])] 1)
  (I:=fun x_0=>x_0≤S.feats.length∧bZ (k7 S) x_0=0) (μ:=fun x_0=>S.feats.length-x_0) (x0:=(0)) (Io (aS rfl) (aO rfl) rfl rfl) (⟨Nat.zero_le _,rfl⟩) ?_
 rintro k ⟨hk,hs⟩
 refine Z1 rfl rfl ?_
 refine Gp rfl rfl (fun hc12=>?_) (fun hc12=>?_)
 ·have hlt:k<S.feats.length:=by omega
  have hrow:=vp hlt
  have hne:=AH hlt
  have hfe:=yF S k hlt
  have hfin:∀ e:Int,e≠0→k7 S k=e→PV.int .i64 e= .int .i64 (bZ (k7 S) S.feats.length):=fun e h0 h1=>congrArg (PV.int .i64) (by rw [gQ hs (by rw [h1];exact h0) hlt,h1])
  refine Il ?_
  refine Z2 rfl rfl rfl ?_
  refine Rs 15 rfl rfl (db ⟨_,underlying107,rfl⟩ EJ rfl hrow rfl) ?_
  refine Y3 rfl rfl rfl ?_
  refine Z4 rfl rfl rfl rfl rfl ?_
  apply Ix 7 19 26 [20,21,22,23,24,25] rfl (by first | exact ax.le | exact ax.aw | exact Iv)
  ·intro hb3
   iterate 7 refine A1 rfl ?_
   exact Iq (Ik (Ik (Ik (Ik (Ik (Ik (Ik (Ik (fEq.refl) rfl) rfl) rfl) rfl) rfl) rfl) rfl) rfl) rfl rfl rfl
  ·intro hb3
   iterate 7 refine A1 rfl ?_
   exact Iq (Ik (Ik (Ik (Ik (Ik (Ik (Ik (Ik (fEq.refl) rfl) rfl) rfl) rfl) rfl) rfl) rfl) rfl) rfl rfl rfl
  refine Gc rfl rfl (fun hc26=>?_) (fun hc26=>?_)
  ·refine Z1 rfl rfl ?_
   refine Gt rfl ?_
   exact ⟨_,_,rfl,rfl,hfin 2 (by decide) (by rw [hfe,if_pos (by simpa using hc26)])⟩
  ·have hx:0≤S.feats[k].1∧S.feats[k].1<S.attrs.length:=by simp only [Bool.or_eq_false_iff,decide_eq_false_iff_not] at hc26;omega
   obtain ⟨a,ha⟩:=Int.eq_ofNat_of_zero_le hx.1
   have hal:a<S.attrs.length:=by omega
   have hk2:(cc S.attrs)[a*2+1]? =some (.int .i64 S.attrs[a].2):=oC _ 2 (fun _=>rfl) S.attrs a 1 hal (by decide)
   have hane:=lq hal
   have hkd:(S.attrs.getD S.feats[k].1.toNat default).2=S.attrs[a].2:=by rw [ha];simp [List.getD,hal]
   refine Il ?_
   refine Z4 rfl rfl rfl rfl rfl ?_
   refine Rs 31 rfl rfl (ag a underlying28 G1 rfl rfl ha hal hane) ?_
   refine A1 rfl ?_
   first | refine A2 rfl (by assumption) ?_ | refine A1 rfl ?_
   refine A1 rfl ?_
   refine Z4 rfl rfl rfl rfl rfl ?_
   apply Iy 3 37 40 [38,39] rfl (by first | exact ax.le | exact ax.aw | exact Iv)
   ·intro hb3
    refine Y3 rfl rfl rfl ?_
    exact Iq (Ik (Ik (Ik (Ik (fEq.refl) rfl) rfl) rfl) rfl) rfl rfl rfl
   ·intro hb3
    refine Y3 rfl rfl rfl ?_
    exact Iq (Ik (Ik (Ik (Ik (fEq.refl) rfl) rfl) rfl) rfl) rfl rfl rfl
   refine A1 rfl ?_
   apply Iy 9 41 50 [42,43,44,45,46,47,48,49] rfl (by first | exact ax.le | exact ax.aw | exact Iv)
   ·intro hb7
    iterate 4 refine A1 rfl ?_
    apply Ix 4 45 49 [46,47,48] rfl (by first | exact ax.le | exact ax.aw | exact Iv)
    ·intro hb11
     iterate 4 refine A1 rfl ?_
     exact Iq (Ik (Ik (Ik (Ik (Ik (fEq.refl) rfl) rfl) rfl) rfl) rfl) rfl rfl rfl
    ·intro hb11
     iterate 4 refine A1 rfl ?_
     exact Iq (Ik (Ik (Ik (Ik (Ik (fEq.refl) rfl) rfl) rfl) rfl) rfl) rfl rfl rfl
    refine A1 rfl ?_
    exact Iq (Ik (Ik (Ik (Ik (Ik (Ik (Ik (Ik (Ik (Ik (Ik (fEq.refl) rfl) rfl) rfl) rfl) rfl) rfl) rfl) rfl) rfl) rfl) rfl) rfl rfl rfl
   ·intro hb7
    iterate 9 refine A1 rfl ?_
    exact Iq (Ik (Ik (Ik (Ik (Ik (Ik (Ik (Ik (Ik (Ik (fEq.refl) rfl) rfl) rfl) rfl) rfl) rfl) rfl) rfl) rfl) rfl) rfl rfl rfl
   refine A1 rfl ?_
   refine Z4 rfl rfl rfl rfl rfl ?_
   apply Iy 3 54 57 [55,56] rfl (by first | exact ax.le | exact ax.aw | exact Iv)
   ·intro hb3
    refine Y3 rfl rfl rfl ?_
    exact Iq (Ik (Ik (Ik (Ik (fEq.refl) rfl) rfl) rfl) rfl) rfl rfl rfl
   ·intro hb3
    refine Y3 rfl rfl rfl ?_
    exact Iq (Ik (Ik (Ik (Ik (fEq.refl) rfl) rfl) rfl) rfl) rfl rfl rfl
   refine A1 rfl ?_
   apply Iy 4 58 62 [59,60,61] rfl (by first | exact ax.le | exact ax.aw | exact Iv)
   ·intro hb7
    iterate 4 refine A1 rfl ?_
    exact Iq (Ik (Ik (Ik (Ik (Ik (fEq.refl) rfl) rfl) rfl) rfl) rfl) rfl rfl rfl
   ·intro hb7
    iterate 4 refine A1 rfl ?_
    exact Iq (Ik (Ik (Ik (Ik (Ik (fEq.refl) rfl) rfl) rfl) rfl) rfl) rfl rfl rfl
   refine A1 rfl ?_
   refine Z3 rfl rfl rfl rfl ?_
   apply Iy 3 65 68 [66,67] rfl (by first | exact ax.le | exact ax.aw | exact Iv)
   ·intro hb2
    refine Y3 rfl rfl rfl ?_
    exact Iq (Ik (Ik (Ik (Ik (fEq.refl) rfl) rfl) rfl) rfl) rfl rfl rfl
   ·intro hb2
    refine Y3 rfl rfl rfl ?_
    exact Iq (Ik (Ik (Ik (Ik (fEq.refl) rfl) rfl) rfl) rfl) rfl rfl rfl
   refine Gc rfl rfl (fun hc68=>?_) (fun hc68=>?_)
   ·refine Z1 rfl rfl ?_
    refine Gt rfl ?_
    exact ⟨_,_,rfl,rfl,hfin 7 (by decide) (by rw [hfe,if_neg (by omega),hkd,if_pos (by rw [Bool.or_eq_false_iff];rw [Bool.and_eq_true,Bool.not_eq_true',Bool.not_eq_true'] at hc68;exact hc68)])⟩
   ·refine Il ?_
    refine Im (St.fS 1 rfl rfl) ?_
    refine Gr rfl ?_
    iterate 6 refine A1 rfl ?_
    apply Ix 7 74 81 [75,76,77,78,79,80] rfl (by first | exact ax.le | exact ax.aw | exact Iv)
    ·intro hb5
     iterate 7 refine A1 rfl ?_
     exact Iq (Ik (Ik (Ik (Ik (Ik (Ik (Ik (Ik (fEq.refl) rfl) rfl) rfl) rfl) rfl) rfl) rfl) rfl) rfl rfl rfl
    ·intro hb5
     refine Y3 rfl rfl rfl ?_
     refine Rg 78 rfl rfl rfl (XJ.cast (v':= .pv (.sl none (S.feats.take k).length (bm (S.feats.take k)))) (dz k underlying32 EJ rfl rfl rfl (by omega) hFl) (by rw [vN _ _ hk])) ?_
     refine A1 rfl ?_
     refine Rg 80 rfl rfl rfl (ae call177 (lL (S.feats.take k) 178 [.rp (zn S.feats[k]) 0] (fun g=>g.1==S.feats[k].1) (by simp;omega) call178 (fun f _=>wq f _ _ rfl)) rfl) ?_
     refine A1 rfl ?_
     exact Iq (Ik (Ik (Ik (Ik (Ik (Ik (Ik (Ik (fEq.refl) rfl) rfl) rfl) rfl) rfl) rfl) rfl) rfl) rfl rfl rfl
    refine Gc rfl rfl (fun hc81=>?_) (fun hc81=>?_)
    ·refine Z1 rfl rfl ?_
     refine Gt rfl ?_
     exact ⟨_,_,rfl,rfl,hfin 9 (by decide) (by rw [hfe,if_neg (by omega),hkd,if_neg (by intro h;rw [Bool.or_eq_false_iff] at h;rw [h.1,h.2] at hc68;cases hc68),if_pos hc81])⟩
    ·refine Il ?_
     refine Z2 rfl rfl rfl ?_
     exact ⟨(k+1),Io (aS rfl) (aO rfl) rfl rfl,⟨by omega,by rw [eA hs,hfe,if_neg (by omega),hkd,if_neg (by intro h;rw [Bool.or_eq_false_iff] at h;rw [h.1,h.2] at hc68;cases hc68),if_neg (by rw [hc81];decide)]⟩,by omega⟩
 ·refine Gx rfl ?_
  refine Z1 rfl rfl ?_
  refine Gt rfl ?_
  exact ⟨_,_,rfl,rfl,congrArg (PV.int .i64) (by rw [show S.feats.length=k by omega,hs])⟩
end
section
open Go.RowKit Mk
set_option maxHeartbeats 2000000
theorem D9 (S:Sch):((((((S.attrs.length:Int)==0)||decide ((12:Int)<S.attrs.length))||((S.rels.length:Int)==0))||decide ((6:Int)<S.rels.length))||decide ((8:Int)<S.feats.length))=true↔S.attrs.length=0∨12<S.attrs.length∨S.rels.length=0∨6<S.rels.length∨8<S.feats.length:=by
 simp only [Bool.or_eq_true,beq_iff_eq,decide_eq_true_eq]
 omega
def AA (S:Sch):Nat→Int
 | 0=>bZ (ju S) S.attrs.length
 | 1=>iM S
 | _=>bZ (k7 S) S.feats.length
def FI:Nat→FuncId
 | 0=>121
 | 1=>122
 | _=>123
theorem wi (S:Sch) (hS:SB S) (k:Nat):FnP Tryz.prog (FI k) [gK S] (· = .int .i64 (AA S k)):=by
 match k with
 | 0=>exact kx S hS
 | 1=>exact lE S hS
 | k+2=>exact nz S hS
theorem DO (k:Nat):bN Tryz.prog (FI k):=by
 match k with
 | 0=>exact call121
 | 1=>exact call122
 | k+2=>exact call123
theorem Ck (k:Nat) (hk:k<3):([.fn (.func 121) [] [],.fn (.func 122) [] [],.fn (.func 123) [] []]:List PV)[k*1]? =some (.fn (.func (FI k)) [] []):=by
 match k,hk with
 | 0,_=>rfl
 | 1,_=>rfl
 | 2,_=>rfl
theorem CB {S:Sch} {k:Nat} (hlim:¬ (S.attrs.length=0∨12<S.attrs.length∨S.rels.length=0∨6<S.rels.length∨8<S.feats.length)) (hk:k<3) (hz:∀ j,j<k→AA S j=0) (h:¬ AA S k=0):AA S k=cI S:=by
 unfold cI
 rw [if_neg hlim]
 match k,hk with
 | 0,_=>rw [if_pos (show bZ (ju S) S.attrs.length≠0 from h)];rfl
 | 1,_=>have h0:=hz 0 (by omega);rw [if_neg (fun e=>e h0),if_pos (show iM S≠0 from h)];rfl
 | 2,_=>have h0:=hz 0 (by omega);have h1:=hz 1 (by omega);rw [if_neg (fun e=>e h0),if_neg (fun e=>e h1),if_pos (show bZ (k7 S) S.feats.length≠0 from h)];rfl
theorem tN (S:Sch) (hS:SB S):FnP Tryz.prog 81 [gK S] (· = .int .i64 (cI S)):=by
 refine FnP.of func81 rfl ntmps81 (by simp) fun m0 w0 F R0=>?_
 have hb:=hS.a
 refine Z2 rfl rfl rfl ?_
 refine Gr rfl ?_
 iterate 5 refine A1 rfl ?_
 apply Ix 5 10 15 [11,12,13,14] rfl (by first | exact ax.le | exact ax.aw | exact Iv)
 ·intro hb4
  iterate 5 refine A1 rfl ?_
  exact Iq (Ik (Ik (Ik (Ik (Ik (Ik (fEq.refl) rfl) rfl) rfl) rfl) rfl) rfl) rfl rfl rfl
 ·intro hb4
  iterate 5 refine A1 rfl ?_
  exact Iq (Ik (Ik (Ik (Ik (Ik (Ik (fEq.refl) rfl) rfl) rfl) rfl) rfl) rfl) rfl rfl rfl
 refine A1 rfl ?_
 apply Ix 5 16 21 [17,18,19,20] rfl (by first | exact ax.le | exact ax.aw | exact Iv)
 ·intro hb10
  iterate 5 refine A1 rfl ?_
  exact Iq (Ik (Ik (Ik (Ik (Ik (Ik (fEq.refl) rfl) rfl) rfl) rfl) rfl) rfl) rfl rfl rfl
 ·intro hb10
  iterate 5 refine A1 rfl ?_
  exact Iq (Ik (Ik (Ik (Ik (Ik (Ik (fEq.refl) rfl) rfl) rfl) rfl) rfl) rfl) rfl rfl rfl
 refine A1 rfl ?_
 apply Ix 5 22 27 [23,24,25,26] rfl (by first | exact ax.le | exact ax.aw | exact Iv)
 ·intro hb16
  iterate 5 refine A1 rfl ?_
  exact Iq (Ik (Ik (Ik (Ik (Ik (Ik (fEq.refl) rfl) rfl) rfl) rfl) rfl) rfl) rfl rfl rfl
 ·intro hb16
  iterate 5 refine A1 rfl ?_
  exact Iq (Ik (Ik (Ik (Ik (Ik (Ik (fEq.refl) rfl) rfl) rfl) rfl) rfl) rfl) rfl rfl rfl
 refine A1 rfl ?_
 apply Ix 5 28 33 [29,30,31,32] rfl (by first | exact ax.le | exact ax.aw | exact Iv)
 ·intro hb22
  iterate 5 refine A1 rfl ?_
  exact Iq (Ik (Ik (Ik (Ik (Ik (Ik (fEq.refl) rfl) rfl) rfl) rfl) rfl) rfl) rfl rfl rfl
 ·intro hb22
  iterate 5 refine A1 rfl ?_
  exact Iq (Ik (Ik (Ik (Ik (Ik (Ik (fEq.refl) rfl) rfl) rfl) rfl) rfl) rfl) rfl rfl rfl
 refine Gc rfl rfl (fun hc33=>?_) (fun hc33=>?_)
 ·refine Z1 rfl rfl ?_
  refine Gt rfl ?_
  exact ⟨_,_,rfl,rfl,congrArg (PV.int .i64) (by unfold cI;rw [if_pos ((D9 S).1 hc33)])⟩
 ·have hlim:¬ (S.attrs.length=0∨12<S.attrs.length∨S.rels.length=0∨6<S.rels.length∨8<S.feats.length):=fun h=>by rw [(D9 S).2 h] at hc33;cases hc33
  refine Il ?_
  refine Gr rfl ?_
  refine Rs 34 rfl rfl (aq none (by simp) el181 rfl (by decide) (by decide) rfl rfl) ?_
  refine Y2 rfl rfl ?_
  refine Gl rfl (st:=fun x_0:Nat=>mkS [(1,.ptr 0 0),(34,.pv (.sl none 3 [.fn (.func 121) [] [],.fn (.func 122) [] [],.fn (.func 123) [] []])),(35,.pv (.int .i64 3)),(36,.pv (.int .i64 x_0))] [(0,.mix 34 [.pv (.sl none S.attrs.length (cc S.attrs)),.pv (.sl none S.rels.length (bj S.rels)),.pv (.sl none S.feats.length (bm S.feats)),.pv (.int .i64 S.label)])] 1)
   (I:=fun x_0=>x_0≤3∧∀ j,j<x_0→AA S j=0) (μ:=fun x_0=>3-x_0) (x0:=(0)) (Io (aS rfl) (aO rfl) rfl rfl) (⟨by omega,fun j hj=>absurd hj (Nat.not_lt_zero _)⟩) ?_
  rintro k ⟨hk,hz⟩
  refine Z1 rfl rfl ?_
  refine Gp rfl rfl (fun hc37=>?_) (fun hc37=>?_)
  ·have hlt:k<3:=by omega
   have hv:=Ck k hlt
   refine Il ?_
   refine Gr rfl ?_
   refine Rs 38 rfl rfl (ag k underlying181 sz123 rfl rfl rfl hlt (by simp)) ?_
   first | refine A2 rfl (by assumption) ?_ | refine A1 rfl ?_
   refine A1 rfl ?_
   refine Z2 rfl rfl rfl ?_
   refine Rs 42 rfl rfl (bb (DO k) rfl (wi S hS k) rfl) ?_
   refine A1 rfl ?_
   refine Z2 rfl rfl rfl ?_
   refine Gc rfl rfl (fun hc44=>?_) (fun hc44=>?_)
   ·refine Z2 rfl rfl rfl ?_
    refine Gt rfl ?_
    exact ⟨_,_,rfl,rfl,congrArg (PV.int .i64) (CB hlim hlt hz (inT hc44))⟩
   ·refine Il ?_
    refine Z2 rfl rfl rfl ?_
    exact ⟨(k+1),Io (aS rfl) (aO rfl) rfl rfl,⟨by omega,fun j hj=>by rcases Nat.lt_succ_iff_lt_or_eq.1 hj with h | rfl;exact hz j h;exact inF hc44⟩,by omega⟩
  ·have h0:=hz 0 (by omega)
   have h1:=hz 1 (by omega)
   have h2:=hz 2 (by omega)
   have hcl:=zL hlim h0 h1 h2
   refine Gx rfl ?_
   refine Z4 rfl rfl rfl rfl rfl ?_
   apply Ix 7 51 58 [52,53,54,55,56,57] rfl (by first | exact ax.le | exact ax.aw | exact Iv)
   ·intro hb3
    iterate 7 refine A1 rfl ?_
    exact Iq (Ik (Ik (Ik (Ik (Ik (Ik (Ik (Ik (fEq.refl) rfl) rfl) rfl) rfl) rfl) rfl) rfl) rfl) rfl rfl rfl
   ·intro hb3
    iterate 7 refine A1 rfl ?_
    exact Iq (Ik (Ik (Ik (Ik (Ik (Ik (Ik (Ik (fEq.refl) rfl) rfl) rfl) rfl) rfl) rfl) rfl) rfl) rfl rfl rfl
   refine A1 rfl ?_
   refine Gc rfl rfl (fun hc47=>?_) (fun hc47=>?_)
   ·refine Z1 rfl rfl ?_
    refine Gt rfl ?_
    exact ⟨_,_,rfl,rfl,congrArg (PV.int .i64) (by rw [hcl,if_pos (by simpa using hc47)])⟩
   ·have hn:¬ (S.label< -1∨(S.attrs.length:Int)≤S.label):=by simpa using hc47
    have hlv:0≤S.label→∃ (a:Nat),S.label=(a:Int)∧a<S.attrs.length∧(cc S.attrs)[a*2+1]? =some (.int .i64 (S.attrs.getD S.label.toNat default).2):=fun h=>by obtain ⟨a,ha⟩:=Int.eq_ofNat_of_zero_le h;have hal:a<S.attrs.length:=(by omega);refine ⟨a,ha,hal,?_⟩;rw [ha];simp only [Int.toNat_natCast,List.getD,List.getElem?_eq_getElem hal];exact oC _ 2 (fun _=>rfl) S.attrs a 1 hal (by decide)
    refine Z4 rfl rfl rfl rfl rfl ?_
    apply Iy 9 63 72 [64,65,66,67,68,69,70,71] rfl (by first | exact ax.le | exact ax.aw | exact Iv)
    ·intro hb3
     obtain ⟨a,ha,hal,hk2⟩:=hlv (of_decide_eq_true hb3)
     have hane:=lq hal
     iterate 4 refine A1 rfl ?_
     refine Rg 68 rfl rfl rfl (ag a underlying28 G1 rfl rfl ha hal hane) ?_
     refine A1 rfl ?_
     first | refine A2 rfl (by assumption) ?_ | refine A1 rfl ?_
     refine Y2 rfl rfl ?_
     exact Iq (Ik (Ik (Ik (Ik (Ik (Ik (Ik (Ik (Ik (Ik (fEq.refl) rfl) rfl) rfl) rfl) rfl) rfl) rfl) rfl) rfl) rfl) rfl rfl rfl
    ·intro hb3
     iterate 9 refine A1 rfl ?_
     exact Iq (Ik (Ik (Ik (Ik (Ik (Ik (Ik (Ik (Ik (Ik (fEq.refl) rfl) rfl) rfl) rfl) rfl) rfl) rfl) rfl) rfl) rfl) rfl rfl rfl
    refine A1 rfl ?_
    refine Gc rfl rfl (fun hc59=>?_) (fun hc59=>?_)
    ·refine Z1 rfl rfl ?_
     refine Gt rfl ?_
     exact ⟨_,_,rfl,rfl,congrArg (PV.int .i64) (by rw [hcl,if_neg hn,if_pos (by simpa using hc59)])⟩
    ·refine Il ?_
     refine Z1 rfl rfl ?_
     refine Gt rfl ?_
     exact ⟨_,_,rfl,rfl,congrArg (PV.int .i64) (by rw [hcl,if_neg hn,if_neg (by rintro ⟨h1,h2⟩;rw [decide_eq_true (show S.label≥0 from h1),Bool.true_and,bne_eq_false_iff_eq] at hc59;exact h2 hc59)])⟩
end
section
open Go.RowKit Mk
set_option maxHeartbeats 4000000
end
def upF (P:List Int):Nat→Int→Option (List Int)
 | 0,x=>if x<0 then some [] else none
 | k+1,x=>if x<0 then some [] else (upF P k (P.getD x.toNat 0)).map (x:: ·)
def abv (P:List Int) (v:Int):Option (List Int):=upF P P.length (P.getD v.toNat 0)
def bp (P:List Int) (v:Int):List Int:=(abv P v).getD []
def hiB (P:List Int) (a b:Int):Bool:=decide (a∈bp P b)
def mu (P:List Int) (l:List Int):Bool:=l.all fun a=>l.all fun b=>a==b||hiB P a b||hiB P b a
def fk (P:List Int) (v:Int):List Int:=((List.range P.length).map Int.ofNat).filter fun a=>a==v||hiB P v a
def eS (S:Sch) (a b:Int):Bool:=S.rels.any fun r=>decide (a∈r.2)&&decide (b∈r.2)
def H7 (S:Sch) (P:List Int) (v:Int):List Int:=(bp P v).filter fun a=>(fk P v).any fun b=>eS S a b
theorem sW {P:List Int} {k:Nat} {x:Int} (h:x<0):upF P k x=some []:=by
 cases k<;>simp [upF,h]
theorem ym {P:List Int} {k a:Nat} (ha:a<P.length):upF P (k+1) (a:Int)=(upF P k P[a]).map ((a:Int):: ·):=by
 have h:¬ ((a:Int)<0):=by omega
 simp [upF,List.getD,ha,h]
theorem zg {P:List Int}:∀ {k:Nat} {x:Int} {l:List Int},upF P k x=some l→l.length≤k
 | 0,x,l,h=>by
   simp only [upF] at h
   split at h
   ·cases h;simp
   ·cases h
 | k+1,x,l,h=>by
   simp only [upF] at h
   split at h
   ·cases h;simp
   ·cases e:upF P k (P.getD x.toNat 0) with
    | none=>rw [e] at h;cases h
    | some l'=>rw [e] at h;cases h;simp;exact zg e
theorem vg (P:List Int) (v:Int):(bp P v).length≤P.length:=by
 unfold bp
 cases h:abv P v with
 | none=>simp
 | some l=>exact zg h
section
open Go.RowKit Mk
set_option maxHeartbeats 1000000
abbrev Fe (P:List Int):PV:= .agg [ak P]
theorem BE {α:Type} {l:List α} {p:α→Bool} {k:Nat} (hk:k<l.length) (h:(l.take k).all p=true) (hn:p l[k]=true):(l.take (k+1)).all p=true:=by
 rw [bT hk];simp only [List.all_append,h,List.all_cons,hn,List.all_nil,Bool.and_true]
structure Valid (S:Sch):Prop where
 n1:1≤S.attrs.length
 n2:S.attrs.length≤12
 r1:1≤S.rels.length
 r2:S.rels.length≤6
 ne:∀ r∈S.rels,r.2≠[]
 rng:∀ r∈S.rels,∀ a∈r.2,0≤a∧a<S.attrs.length
 asc:∀ r∈S.rels,BJ r.2=true
 use:∀ a,a<S.attrs.length→∃ r∈S.rels,(a:Int)∈r.2
theorem jF {S:Sch} (h:cI S=0):Valid S:=by
 unfold cI at h
 split at h
 ·cases h
 ·rename_i hlim
  split at h
  ·rename_i h1;exact absurd h h1
  ·split at h
   ·rename_i h1;exact absurd h h1
   ·rename_i _ hr
    have hr:iM S=0:=Classical.byContradiction hr
    unfold iM at hr
    split at hr
    ·rename_i h1;exact absurd hr h1
    ·rename_i hs
     have hs:bZ (xe S) S.rels.length=0:=Classical.byContradiction hs
     split at hr
     ·cases hr
     ·rename_i hu
      have hrel:∀ r∈S.rels,r.2≠[]∧(r.2.all fun a=>decide (0≤a)&&decide (a<S.attrs.length))=true∧BJ r.2=true:=by
       intro r hr
       obtain ⟨i,hi,rfl⟩:=List.getElem_of_mem hr
       have he:=wT.1 hs i hi
       unfold xe at he
       rw [show S.rels.getD i default=S.rels[i] by simp [List.getD,hi]] at he
       split at he
       ·rename_i h1;exact absurd he h1
       ·split at he
        ·cases he
        ·split at he
         ·cases he
         ·split at he
          ·cases he
          ·rename_i h1 h2 h3
           exact ⟨h1,by simpa using h2,by simpa using h3⟩
      refine ⟨by omega,by omega,by omega,by omega,fun r hr=>(hrel r hr).1,fun r hr a ha=>?_,fun r hr=>(hrel r hr).2.2,fun a ha=>?_⟩
      ·have:=List.all_eq_true.1 (hrel r hr).2.1 a ha
       simpa using this
      ·have hu:((List.range S.attrs.length).all fun a=>DB S a)=true:=by simpa using hu
       have:=List.all_eq_true.1 hu a (List.mem_range.2 ha)
       unfold DB at this
       obtain ⟨r,hr,hm⟩:=List.any_eq_true.1 this
       exact ⟨r,hr,by simpa [inB] using hm⟩
end
section
open Go.RowKit Go.MapKept
def keq:PV→PV→Option Bool
 | .int k a,.int k' b=>bif kEq k k' then some (a==b) else none
 | .str a,.str b=>some (a==b)
 | .bool a,.bool b=>some (a==b)
 | _,_=>none
def dR (k:PV):List PV→Nat→Option (Option Nat)
 | [],_=>some none
 | x::l,i=>match keq k x with
   | some true=>some (some i)
   | some false=>dR k l (i+1)
   | none=>none
def Eh:TypeDesc→PV→Bool
 | .int k,.int k' _=>kEq k' k
 | .string,.str _=>true
 | .bool,.bool _=>true
 | _,_=>false
section
variable {w:World} {R:Nat→Prop}
theorem yM {d:TypeDesc} {k x:PV} {u y:Value} (hd:Eh d k=true) (hk:RelP w R k u) (hx:RelP w R x y) {b:Bool} (h:keq k x=some b):Instr.sameNow d u y=some b:=by
 cases k<;>cases d<;>simp only [Eh,Bool.false_eq_true] at hd<;>cases x<;>simp only [keq,reduceCtorEq] at h<;>simp only [RelP] at hk hx<;>subst hk hx
 ·replace h:=aL h
  have:=fT h.1
  subst this
  simpa [Instr.sameNow] using h.2
 ·simpa [Instr.sameNow] using h
 ·simpa [Instr.sameNow] using h
theorem jY {d:TypeDesc} {k:PV} {u:Value} (hd:Eh d k=true) (hk:RelP w R k u):∀ {ks:List PV} {es:List MapEntry} {i:Nat} {r:Option Nat},RelPL w R ks (es.map (·.key))→dR k ks i=some r→
  match r with
  | none=>Instr.findNow d u es i=some none
  | some j=>∃ q e,j=i+q∧es[q]? =some e∧Instr.findNow d u es i=some (some (j,e.val))
 | [],[],i,r,_,h=>by simp only [dR,Option.some.injEq] at h;subst h;rfl
 | [],_::_,_,_,hr,_=>by simp [RelPL] at hr
 | x::ks,[],_,_,hr,_=>by simp [RelPL] at hr
 | x::ks,e::es,i,r,hr,h=>by
   simp only [List.map_cons,RelPL,List.cons.injEq] at hr
   obtain ⟨y,ys,⟨rfl,rfl⟩,h1,h2⟩:=hr
   simp only [dR] at h
   split at h
   ·rename_i hb
    cases h
    have:=yM hd hk h1 hb
    exact ⟨0,e,rfl,rfl,by simp [Instr.findNow,this]⟩
   ·rename_i hb
    have hs:=yM hd hk h1 hb
    have ih:=jY hd hk h2 h
    cases r with
    | none=>simpa [Instr.findNow,hs] using ih
    | some j=>
      obtain ⟨q,e',hj,he,hf⟩:=ih
      exact ⟨q+1,e',by omega,by simpa using he,by simpa [Instr.findNow,hs] using hf⟩
   ·cases h
theorem ng {d:TypeDesc} {k:PV} {u:Value} (hd:Eh d k=true) (hk:RelP w R k u):IsKey d u:=by
 cases k<;>cases d<;>simp only [Eh,Bool.false_eq_true] at hd<;>simp only [RelP] at hk<;>subst hk<;>first | exact fT hd | trivial
theorem ui {k:PV}:∀ {ks:List PV} {i j:Nat},dR k ks i=some (some j)→∃ q x,j=i+q∧ks[q]? =some x∧keq k x=some true
 | [],_,_,h=>by simp [dR] at h
 | x::ks,i,j,h=>by
   simp only [dR] at h
   split at h
   ·rename_i hb;cases h;exact ⟨0,x,rfl,rfl,hb⟩
   ·obtain ⟨q,y,e,h1,h2⟩:=ui h
    exact ⟨q+1,y,by omega,by simpa using h1,h2⟩
   ·cases h
theorem ue {a b:ByteArray} (h:(a==b)=true):a=b:=by
 have:(a.data==b.data)=true:=h
 exact ByteArray.ext (eq_of_beq this)
theorem l6 (a:ByteArray):(a==a)=true:=by
 have:(a.data==a.data)=true:=beq_self_eq_true a.data
 exact this
theorem CT {k x:PV} {u y:Value} (h:keq k x=some true) (hk:RelP w R k u) (hx:RelP w R x y):u=y∧Instr.sameBits 10000 y u=true:=by
 cases k<;>cases x<;>simp only [keq,reduceCtorEq,Option.some.injEq] at h<;>simp only [RelP] at hk hx<;>subst hk hx
 ·replace h:=aL h
  have h1:=fT h.1
  have h2:=h.2
  simp only [Option.some.injEq,beq_iff_eq] at h2
  subst h1 h2
  simp [Instr.sameBits]
 ·simp at h;subst h;simp [Instr.sameBits]
 ·have:=ue h;subst this;exact ⟨rfl,by show (_==_)=true;exact l6 _⟩
end
def uJ (n:Nat) (σ:St) (x:Operand) (ks vs:List PV):Prop:=
 (∃ id,σ.ev n x= .map id∧σ.ob id=some (.mp ks vs))∨σ.ev n x= .pv (.mp ks vs)∨(σ.ev n x= .pv .nilmap∧ks=[]∧vs=[])
section
variable {C:Ctx} {n:Nat} {σ:St} {a:Act} {w:World} {m:Gm} {R:Nat→Prop} {x y z:Operand} {dst:Option Tmp} {ty t kt et:TypeId} {pos:String} {after:Array Edge} {gd:Option (Nat×Bool)} {ks vs:List PV}
theorem uJ.at (hw:SW C n σ a w m R) (h:uJ n σ x ks vs):(∃ b es clock,a.eval x= .map (some b)∧w.heap[b]? =some (.map es clock)∧RelPL w R ks (es.toList.map (·.key))∧RelPL w R vs (es.toList.map (·.val)))∨(a.eval x= .map none∧ks=[]∧vs=[]):=by
 rcases h with ⟨id,hx,ho⟩ | hx | ⟨hx,h1,h2⟩
 ·obtain ⟨b,N,hm,hr⟩:=hw.live ho
  have:=hw.ev x
  rw [hx] at this
  simp only [Rel] at this
  obtain ⟨es,clock,q1,q2,q3,_⟩:=hr
  exact .inl ⟨b,es,clock,this.2 b N hm,q1,q2,q3⟩
 ·have:=hw.pv hx
  simp only [RelP] at this
  obtain ⟨b,e,_,es,clock,q1,q2,q3,_⟩:=this
  exact .inl ⟨b,es,clock,e,q1,q2,q3⟩
 ·have:=hw.pv hx
  simp only [RelP] at this
  exact .inr ⟨this,h1,h2⟩
theorem run_map {P:Program} {w:World} {r:Nat} {es:Array MapEntry} {clock:Nat} (hb:w.heap[r]? =some (.map es clock)):(getObj r).run P w= .ok (.map es clock) w:=by
 simp [getObj,Sem.run,hb]
theorem mZ {P:Program} {w:World} {r:Nat} {es:Array MapEntry} {clock:Nat} (o:Obj) (hb:w.heap[r]? =some (.map es clock)):(setObj r o).run P w= .ok () { w with heap:=w.heap.setIfInBounds r o }:=by
 simp [setObj,Sem.run,hb]
def qH (k:PV) (ks vs:List PV):Option (Option PV):=
 match dR k ks 0 with
 | some none=>some none
 | some (some j)=>(vs[j]?).map some
 | none=>none
theorem RelPL.at {ps:List PV} {us:List Value} (h:RelPL w R ps us) {i:Nat} {p:PV} {u:Value} (hp:ps[i]? =some p) (hu:us[i]? =some u):RelP w R p u:=by
 obtain ⟨u',h1,h2⟩:=h.get hp
 rw [hu] at h1
 cases h1
 exact h2
theorem DE (hw:SW C n σ a w m R) {d:TypeDesc} {key zp:PV} {zv:Value} {r:Option PV} (ht:C.P.underlying t=some (.map kt et)) (hk:C.P.underlying kt=some d) (hd:Eh d key=true) (hx:uJ n σ x ks vs) (hy:σ.ev n y= .pv key) (hz:(C.P.info? et).map (·.zero)=some (some zv)) (hzp:ofC zv=zp) (hl:qH key ks vs=some r) (ok:Bool):
  ∃ u,RelP w R (r.getD zp) u∧(Instr.lookup t (a.eval x) (a.eval y) ok).run C.P w= .ok (if ok then .tuple #[u,.bool r.isSome] else u) w:=by
 have hkey:=hw.pv hy
 have hzr:(zeroValue et).run C.P w= .ok zv w:=by
  cases hq:C.P.info? et with
  | none=>simp [hq] at hz
  | some i=>simp [hq] at hz;simp [zeroValue,typeInfo,hq,hz]
 have hzrel:RelP w R zp zv:=hzp▸ye w R zv
 have hIs:=ng hd hkey
 rcases hx.at hw with ⟨b,es,clock,e,hb,q2,q3⟩ | ⟨e,rfl,rfl⟩
 ·unfold qH at hl
  split at hl
  ·rename_i hf
   cases hl
   have:=jY hd hkey q2 hf
   simp only at this
   refine ⟨zv,hzrel,?_⟩
   simp [Instr.lookup,e,run_underlying ht,run_map hb,run_checkKey hk hIs,run_findKey hk this,hzr,Result.andThen]
  ·rename_i j hf
   obtain ⟨q,e',hj,he,hfn⟩:=jY hd hkey q2 hf
   simp only [Nat.zero_add] at hj
   subst hj
   cases hv:vs[j]? with
   | none=>rw [hv] at hl;cases hl
   | some p=>
     rw [hv] at hl
     simp at hl
     subst hl
     refine ⟨e'.val,RelPL.at q3 hv (by simp [he]),?_⟩
     simp [Instr.lookup,e,run_underlying ht,run_map hb,run_checkKey hk hIs,run_findKey hk hfn,Result.andThen]
  ·cases hl
 ·simp only [qH,dR,Option.some.injEq] at hl
  subst hl
  refine ⟨zv,hzrel,?_⟩
  have hf:Instr.findNow d (a.eval y) (#[]:Array MapEntry).toList 0=some none:=rfl
  simp [Instr.lookup,e,run_underlying ht,run_checkKey hk hIs,run_findKey hk hf,hzr,Result.andThen]
theorem cg {d:TypeDesc} {key zp p:PV} {zv:Value} {r:Option PV} {b:Bool} (ht:C.P.underlying t=some (.map kt et)) (hk:C.P.underlying kt=some d) (hx:uJ n σ x ks vs) (hy:σ.ev n y= .pv key) (hd:Eh d key=true) (hz:(C.P.info? et).map (·.zero)=some (some zv)) (hzp:ofC zv=zp) (hl:qH key ks vs=some r) (hp:r.getD zp=p) (hb:r.isSome=b):
  XJ C n ⟨dst,.lookup t x y true,ty,pos,after,gd⟩ σ ⟨.pv (.tup [p,.bool b]),[],[]⟩:=
 .val fun a w m R hw=>by
  obtain ⟨u,hr,hrun⟩:=DE hw ht hk hd hx hy hz hzp hl true
  subst hp hb
  refine ⟨_,by simp only [execOp,Sem.run_bind,hrun,Result.andThen_ok];rfl,?_⟩
  simp only [Rel,RelP]
  exact ⟨[u,.bool r.isSome],rfl,RelPL.cons hr (RelPL.cons (by simp only [RelP]) RelPL.nil)⟩
theorem SW.HZ (h:SW C n σ a w m R) {id:Nat} (hid:σ.av id=true) (obj:Obj) (N:Nat) (o:Ob)
  (ho:∀ (w':World) (m':Gm) (av':Av),(∀ b,R b→R b∧w'.heap[b]? =w.heap[b]?)→w'.heap[w.heap.size]? =some obj→lD w' m' av' R w.heap.size N o) (hre:o.real=true:=by rfl):
  SW C n ⟨σ.sl,obL [(id,some o)] σ.ob,avL [id] σ.av⟩ a (w.alloc obj) (upd m id (some (w.heap.size,N))) R:=by
 have hR:∀ b,R b→R b∧(w.alloc obj).heap[b]? =w.heap[b]? :=fun b hb=>⟨hb,Below.heap_alloc w _ b (h.hr.rsz b hb)⟩
 have hne:∀ i,σ.av i=false→i≠id:=fun i hi e=>by rw [e,hid] at hi;cases hi
 have hm:∀ i x,σ.av i=false→upd m id (some (w.heap.size,N)) i=some x→m i=some x:=fun i x hi e=>by rwa [aG _ _ (hne i hi)] at e
 have ha:∀ i,σ.av i=false→avL [id] σ.av i=false:=fun i hi=>by
  simp only [avL]
  cases Nat.beq i id<;>simp [hi]
 have hsz:(w.alloc obj).heap.size=w.heap.size+1:=by simp
 have obe:∀ i,i≠id→obL [(id,some o)] σ.ob i=σ.ob i:=fun i hi=>by
  have:Nat.beq i id=false:=by cases hb:Nat.beq i id;rfl;exact absurd (Nat.eq_of_beq_eq_true hb) hi
  simp [obL,this]
 have obs:obL [(id,some o)] σ.ob id=some o:=by simp [obL]
 refine h.world ⟨?_,?_,?_,?_,?_,?_,h.hr.rfr,h.hr.r0,?_,?_,fun i hi=>ha i (h.hr.res i hi)⟩ hR hm ha
 ·intro i
  by_cases e:i=id
  ·subst e;rw [au,obs];exact hre.symm
  ·rw [aG _ _ e,obe i e];exact h.hr.dom i
 ·intro i hi
  simp only [avL] at hi
  cases hb:Nat.beq i id with
  | true=>rw [hb] at hi;simp at hi
  | false=>
    rw [hb] at hi
    rw [obe i (fun e=>by subst e;simp at hb)]
    exact h.hr.free i (by simpa using hi)
 ·intro i o' b N h1 h2
  by_cases e:i=id
  ·subst e
   rw [obs] at h1
   rw [au] at h2
   cases h1;cases h2
   exact ho _ _ _ hR (heap_alloc_new w _)
  ·rw [obe i e] at h1
   rw [aG _ _ e] at h2
   exact (h.hr.obj i o' b N h1 h2).mono hR hm ha (Below.heap_alloc w _ b (h.hr.own i b N h2).1)
 ·intro i j b N N' h1 h2
  by_cases e1:i=id<;>by_cases e2:j=id
  ·rw [e1,e2]
  ·subst e1
   rw [au] at h1
   rw [aG _ _ e2] at h2
   cases h1
   have:=(h.hr.own j _ _ h2).1
   omega
  ·subst e2
   rw [au] at h2
   rw [aG _ _ e1] at h1
   cases h2
   have:=(h.hr.own i _ _ h1).1
   omega
  ·rw [aG _ _ e1] at h1
   rw [aG _ _ e2] at h2
   exact h.hr.inj i j b N N' h1 h2
 ·intro i b N h1
  by_cases e:i=id
  ·subst e
   rw [au] at h1
   cases h1
   exact ⟨by omega,fun hb=>by have:=h.hr.rsz _ hb;omega,.inr h.hr.frame.size⟩
  ·rw [aG _ _ e] at h1
   obtain ⟨h2,h3,h4⟩:=h.hr.own i b N h1
   exact ⟨by omega,h3,h4⟩
 ·intro b hb
  have:=h.hr.rsz b hb
  omega
 ·refine ⟨h.hr.frame.os,h.hr.frame.tape,h.hr.frame.output,?_,?_⟩
  ·have:=h.hr.frame.size;omega
  ·intro k hk hF
   rw [Below.heap_alloc w _ k (by have:=h.hr.frame.size;omega)]
   exact h.hr.frame.block k hk hF
 ·intro i x hi e
  have hne':i≠id:=fun e'=>by subst e';rw [h.hr.res i hi] at hid;cases hid
  rw [aG _ _ hne'] at e
  exact h.hr.keep i x hi e
theorem SW.turn (h:SW C n σ a w m R) {id b N:Nat} (hm0:m id=some (b,N)) (w':World) (hs:w'.heap.size=w.heap.size) (hoth:∀ k,k≠b→w'.heap[k]? =w.heap[k]?) (e1:w'.os=w.os) (e2:w'.tape=w.tape) (e3:w'.output=w.output) (o:Ob)
  (ho:(∀ b,R b→R b∧w'.heap[b]? =w.heap[b]?)→lD w' m σ.av R b N o) (hre:o.real=true:=by rfl):
  SW C n ⟨σ.sl,obL [(id,some o)] σ.ob,avL [] σ.av⟩ a w' m R:=by
 have own:=h.hr.own id b N hm0
 have hR:∀ k,R k→R k∧w'.heap[k]? =w.heap[k]? :=fun k hk=>⟨hk,hoth k (fun e=>own.2.1 (e▸hk))⟩
 have obe:∀ i,i≠id→obL [(id,some o)] σ.ob i=σ.ob i:=fun i hi=>by
  have:Nat.beq i id=false:=by cases hb:Nat.beq i id;rfl;exact absurd (Nat.eq_of_beq_eq_true hb) hi
  simp [obL,this]
 have obs:obL [(id,some o)] σ.ob id=some o:=by simp [obL]
 have hm:∀ i x,σ.av i=false→m i=some x→m i=some x:=fun _ _ _ e=>e
 have ha:∀ i,σ.av i=false→avL [] σ.av i=false:=fun _ hi=>hi
 refine h.world ⟨?_,?_,?_,h.hr.inj,?_,?_,h.hr.rfr,h.hr.r0,?_,h.hr.keep,h.hr.res⟩ hR hm ha
 ·intro i
  by_cases e:i=id
  ·subst e;rw [hm0,obs];exact hre.symm
  ·rw [obe i e];exact h.hr.dom i
 ·intro i hi
  have e:i≠id:=fun e=>by
   subst e
   have:=h.hr.dom i
   rw [h.hr.free i hi,hm0] at this
   cases this
  rw [obe i e]
  exact h.hr.free i hi
 ·intro i o' b' N' h1 h2
  by_cases e:i=id
  ·subst e
   rw [obs] at h1
   rw [hm0] at h2
   cases h1;cases h2
   exact ho hR
  ·rw [obe i e] at h1
   exact (h.hr.obj i o' b' N' h1 h2).mono hR hm ha (hoth b' (fun e'=>e (h.hr.inj i id b N' N (e'▸h2) hm0)))
 ·intro i b' N' h1
  obtain ⟨h2,h3,h4⟩:=h.hr.own i b' N' h1
  exact ⟨by omega,h3,h4⟩
 ·intro b' hb'
  have:=h.hr.rsz b' hb'
  omega
 ·refine ⟨e1.trans h.hr.frame.os,e2.trans h.hr.frame.tape,e3.trans h.hr.frame.output,?_,?_⟩
  ·have:=h.hr.frame.size;omega
  ·intro k hk hF
   rw [hoth k (fun e=>by subst e;rcases own.2.2 with h' | h';exact hF h';omega)]
   exact h.hr.frame.block k hk hF
theorem fF (id:Nat) (hid:σ.av id=true):XJ C n ⟨dst,.makeMap t none,ty,pos,after,gd⟩ σ ⟨.map id,[(id,some (.mp [] []))],[id]⟩:=by
 rintro a w Q ⟨m,R,hw⟩
 unfold Oper.wp
 have hrun:(execOp a.eval ⟨dst,.makeMap t none,ty,pos,after,gd⟩).run C.P w= .ok (.value (.map (some w.heap.size))) (w.alloc (.map #[] 0)):=by
  simp only [execOp,Option.map_none,Sem.run_bind,run_makeMap,Result.andThen_ok]
  rfl
 rw [hrun]
 refine ⟨_,rfl,upd m id (some (w.heap.size,0)),R,?_⟩
 rw [Iw]
 refine SW.put (hw.HZ hid (.map #[] 0) 0 (.mp [] []) ?_) dst ?_
 ·intro w' m' av' hR hb
  exact ⟨#[],0,hb,RelPL.nil,RelPL.nil,by simp [pT]⟩
 ·simp only [Rel]
  refine ⟨by simp [avL],fun b N e=>?_⟩
  rw [au] at e
  cases e
  rfl
def s6 (k:PV) (ks:List PV):List PV:=match dR k ks 0 with
 | some (some j)=>ks.set j k
 | _=>ks++[k]
def tg (k v:PV) (ks vs:List PV):List PV:=match dR k ks 0 with
 | some (some j)=>vs.set j v
 | _=>vs++[v]
theorem ed {d:TypeDesc} {key v:PV} {id:Nat} {r:Option Nat} {ks' vs':List PV} (ht:C.P.underlying t=some (.map kt et)) (hk:C.P.underlying kt=some d) (hx:σ.ev n x= .map id) (ho:σ.ob id=some (.mp ks vs)) (hy:σ.ev n y= .pv key) (hz:σ.ev n z= .pv v) (hd:Eh d key=true) (hf:dR key ks 0=some r)
  (hks:s6 key ks=ks') (hvs:tg key v ks vs=vs'):XJ C n ⟨none,.mapUpdate t x y z,ty,pos,after,gd⟩ σ ⟨.pv .any,[(id,some (.mp ks' vs'))],[]⟩:=by
 rintro a w Q ⟨m,R,hw⟩
 obtain ⟨b,N,hm,es,clock,hb,q2,q3,q4⟩:=hw.live ho
 have hxv:=hw.ev x
 rw [hx] at hxv
 simp only [Rel] at hxv
 have hx:=hxv.2 b N hm
 have hkey:=hw.pv hy
 have hval:=hw.pv hz
 have hIs:=ng hd hkey
 have hlt:b<w.heap.size:=(Array.getElem?_eq_some_iff.1 hb).1
 have fin:∀ (es':Array MapEntry) (clock':Nat),(Instr.mapUpdate t (a.eval x) (a.eval y) (a.eval z)).run C.P w= .ok () { w with heap:=w.heap.setIfInBounds b (.map es' clock') }→
   RelPL w R ks' (es'.toList.map (·.key))→RelPL w R vs' (es'.toList.map (·.val))→pT es'.toList clock'→Oper.wp C.P ⟨none,.mapUpdate t x y z,ty,pos,after,gd⟩ a w (fun a' w'=>∃ σ',σ'=σ.app none ⟨.pv .any,[(id,some (.mp ks' vs'))],[]⟩∧SJ C n σ' a' w') Q:=by
  intro es' clock' hrun h1 h2 h3
  unfold Oper.wp
  have hrun':(execOp a.eval ⟨none,.mapUpdate t x y z,ty,pos,after,gd⟩).run C.P w= .ok .skip { w with heap:=w.heap.setIfInBounds b (.map es' clock') }:=by
   simp only [execOp,Sem.run_bind,hrun,Result.andThen_ok,Sem.run_pure]
  rw [hrun']
  refine ⟨_,rfl,m,R,hw.turn hm { w with heap:=w.heap.setIfInBounds b (.map es' clock') } (by simp) (fun k hk=>by simp only;rw [Array.getElem?_setIfInBounds_ne (fun e=>hk e.symm)]) rfl rfl rfl (.mp ks' vs') fun hR=>?_⟩
  exact ⟨es',clock',by simp only;rw [Array.getElem?_setIfInBounds];simp [hlt],h1.mono hR,h2.mono hR,h3⟩
 have hl:=q2.length
 have hl2:=q3.length
 simp only [List.length_map] at hl hl2
 cases r with
 | none=>
   have hfn:=jY hd hkey q2 hf
   simp only at hfn
   refine fin (es.push ⟨a.eval y,a.eval z,clock⟩) (clock+1) ?_ ?_ ?_ ?_
   ·simp [Instr.mapUpdate,hx,run_underlying ht,run_map hb,run_checkKey hk hIs,run_findKey hk hfn,mZ _ hb,Result.andThen]
   ·rw [← hks]
    simp only [s6,hf,Array.toList_push,List.map_append,List.map_cons,List.map_nil]
    exact q2.append (RelPL.cons hkey RelPL.nil)
   ·rw [← hvs]
    simp only [tg,hf,Array.toList_push,List.map_append,List.map_cons,List.map_nil]
    exact q3.append (RelPL.cons hval RelPL.nil)
   ·simp only [pT,Array.toList_push,List.map_append,List.map_cons,List.map_nil]
    refine ⟨List.nodup_append.2 ⟨q4.1,by simp,fun x hx y hy e=>?_⟩,fun e he=>?_⟩
    ·obtain ⟨e',he',rfl⟩:=List.mem_map.1 hx
     have:=q4.2 e' he'
     simp at hy
     omega
    ·rcases List.mem_append.1 he with h | h
     ·exact Nat.lt_succ_of_lt (q4.2 e h)
     ·simp at h;subst h;exact Nat.lt_succ_self _
 | some j=>
   obtain ⟨q,e',hj,he,hfn⟩:=jY hd hkey q2 hf
   obtain ⟨q',x',hj',hx',hkq⟩:=ui hf
   simp only [Nat.zero_add] at hj hj'
   subst hj'
   subst hj
   have hrel:=RelPL.at q2 hx' (by simp [he]:(es.toList.map (·.key))[j]? =some e'.key)
   have hsame:=CT hkq hkey hrel
   have hjl:j<es.size:=(List.getElem?_eq_some_iff.1 he).1 |> fun h=>by simpa using h
   have hek:es[j]? =some e':=by simpa using he
   have hge:es[j]=e':=by have:=Array.getElem?_eq_getElem hjl;rw [hek] at this;exact (Option.some.inj this).symm
   have hmod:(es.modify j fun e=>{ e with key:=a.eval y,val:=a.eval z }).toList=es.toList.set j ⟨a.eval y,a.eval z,e'.born⟩:=by
    apply List.ext_getElem?
    intro i
    rw [Array.getElem?_toList,Array.getElem?_modify,List.getElem?_set]
    by_cases e:j=i
    ·subst e;simp [hjl,hge]
    ·simp [e]
   refine fin (es.modify j fun e=>{ e with key:=a.eval y,val:=a.eval z }) clock ?_ ?_ ?_ ?_
   ·simp [Instr.mapUpdate,hx,run_underlying ht,run_map hb,run_checkKey hk hIs,run_findKey hk hfn,mZ _ hb,Result.andThen,Instr.keyThatStays,hek,hsame.2]
   ·rw [hmod, ← hks]
    simp only [s6,hf,List.map_set]
    exact q2.set j hkey
   ·rw [hmod, ← hvs]
    simp only [tg,hf,List.map_set]
    exact q3.set j hval
   ·rw [hmod]
    have hborn:(es.toList.set j ⟨a.eval y,a.eval z,e'.born⟩).map (·.born)=es.toList.map (·.born):=by
     rw [List.map_set]
     apply List.ext_getElem?
     intro i
     rw [List.getElem?_set]
     by_cases e:j=i
     ·subst e;simp [hjl,hge]
     ·simp [e]
    refine ⟨by rw [hborn];exact q4.1,fun e hm=>?_⟩
    have:e.born∈es.toList.map (·.born):=by rw [← hborn];exact List.mem_map.2 ⟨e,hm,rfl⟩
    obtain ⟨e2,h2,h3⟩:=List.mem_map.1 this
    rw [← h3]
    exact q4.2 e2 h2
def RO (ids:List Nat) (base k':Nat) (Q:V→(Nat→Option Ob)→Prop) (s:OS):Prop:=∃ v ob',Q v ob'∧s=⟨v.ren (cm ids base),wrO ids base k' ob',nwO base k'⟩
theorem DK (ids:List Nat) (base k':Nat) (ob':Nat→Option Ob):(wrO ids base k' ob').map (·.1)=ids++nwO base k':=by
 have h:∀ (l:List Nat) (j:Nat),(l.zipIdx j).map (fun p=>p.1)=l:=by
  intro l
  induction l with
  | nil=>intro j;rfl
  | cons x l ih=>intro j;rw [List.zipIdx_cons,List.map_cons,ih]
 unfold wrO nwO
 rw [List.map_append,List.map_map,List.map_map]
 exact congr (congrArg _ (h ids 0)) rfl
theorem relO {f:FuncId} {xs:Array Operand} {ts:Array TypeId} {args:List V} {os:List (Nat×Ob)} {k':Nat} {Q:V→(Nat→Option Ob)→Prop} (ids:List Nat) (base:Nat) (hc:bN C.P f) (hf:FnO C.P f ids.length k' args os Q) (hargs:xs.toList.map (σ.ev n)=V.renL (cm ids base) args)
  (ha:V.allL (okR ids.length 0) args=true) (hos:os.map (·.1)=(List.range ids.length).map (big+ ·)) (hob:os.all (fun p=>p.2.all (okR ids.length 0))=true) (hobs:dD σ (cm ids base) os) (hnd:ids.Nodup) (hav:(nwO base k').all σ.av=true):
  OJ C n ⟨dst,.call { callee:= .value (.func f),args:=xs,argTypes:=ts },ty,pos,after,gd⟩ (fun τ'=>∃ s,RO ids base k' Q s∧s.wr.map (·.1)=ids++nwO base k'∧s.nw=nwO base k'∧τ'=σ.app dst s) σ:=
 dU ids base hc hargs ha hos hob hobs hnd hav hf fun v ob' h=>⟨_,⟨v,ob',h,rfl⟩,DK _ _ _ _,rfl,rfl⟩
end
end
section
section
variable {C:Ctx} {n:Nat} {σ:St} {dst:Option Tmp} {ty t t':TypeId} {pos:String} {after:Array Edge} {gd:Option (Nat×Bool)} {x y:Operand}
theorem rM {e:TypeId} {z:Value} {size bytes j:Nat} {news:List PV} (id':Nat) (he:ElemIs C.P t e z size bytes) (hs:σ.ev n x= .pv nS)
  (hsrc:jA n σ y j news) (hl:news.length=j*size) (hlf:∀ c∈news,c.leaf=true) (hb:j≤1000000000) (hid:σ.av id'=true):
  XJ C n ⟨dst,.call { callee:= .builtin .append,args:= #[x,y],argTypes:= #[t,t] },ty,pos,after,gd⟩ σ ⟨.gsl id' size j,[(id',some (.gro e news))],[id']⟩:=by
 rintro a w Q ⟨m,R,hw⟩
 have hx:=hw.pv hs
 simp only [RelP] at hx
 obtain ⟨A0,c0,hev,_,_,hn,hc0,_⟩:=hx
 have hA0:A0=none:=by cases A0;rfl;have:=hn true rfl;simp at this
 subst hA0
 rw [hc0 trivial] at hev
 obtain ⟨A,c2,us,hev2,hr2,hrow⟩:=hsrc.row hw
 rcases Nat.eq_zero_or_pos j with rfl | hj
 ·obtain rfl:news=[]:=List.eq_nil_of_length_eq_zero (by simpa using hl)
  obtain ⟨i,hi,_⟩:=info_parts he.info
  have hrun:(Builtin.append_ #[t,t] ty #[.slice none 0 0,.slice A 0 c2]).run C.P w= .ok (.slice none 0 0) w:=by
   cases A<;>simp [Builtin.append_,run_underlying he.u,sizeOf,typeInfo,hi,Builtin.lenOf,Builtin.firstCells,loadCells,loadCellsFrom]
  unfold Oper.wp execOp
  simp only [resolve,invoke,builtin,Sem.run_bind,Sem.run_pure,Result.andThen_ok,List.map_toArray,List.map_cons,List.map_nil,hev,hev2,hrun]
  obtain ⟨h,hmn⟩:=hw.gro0 hid e
  refine ⟨_,rfl,m,R,?_⟩
  rw [Iw]
  refine SW.put h dst ?_
  exact tl (by simp only [RelP];exact ⟨none,0,rfl,Nat.le_refl _,by simp [maxLen],(fun _ e=>by cases e;rfl),(fun _=>rfl),fun e=>absurd rfl e⟩) hmn (by simp [avL])
 ·have hnl:0<news.length:=by rw [hl];exact Nat.mul_pos hj he.pos
  have hne:news≠[]:=List.length_pos_iff.1 hnl
  refine iG x y t rfl 0 e z size bytes he.u he.info he.zs he.pos he.by_ _ 0 j c2 A _ us hev hev2 (World.ownsRow_nil w 0 e size) hrow (by rw [hr2.length,hl]) (bU hr2 hlf) (by omega) (Nat.zero_le _) ?_
  intro A' c' w' hown' hgr hat
  simp only [Nat.zero_add,List.nil_append] at hown' hat ⊢
  rcases hown'.2 with ⟨hv,h0⟩ | ⟨g,cap,cur,hv,_,hg,hkc',hcm',hcs',htk⟩
  ·omega
  ·simp only [Value.slice.injEq] at hv
   obtain ⟨rfl, -,rfl⟩:=hv
   have gge:w.heap.size≤g:=by
    rcases hat with h | ⟨g',h,hle⟩
    ·simp [Value.ownBlock] at h
    ·simp only [Value.ownBlock,Option.some.injEq] at h
     subst h;exact hle
   refine ⟨_,rfl,upd m id' (some (g,cur.size)),R,?_⟩
   rw [Iw]
   refine SW.put (hw.fresh hid hg hgr (fun q hq=>by simp [Value.ownBlock] at hq) (fun h=>by have:=hw.hr.rsz _ h;omega) (fun i b N hi e=>by have:=(hw.hr.own i b N hi).1;omega) (.inr (by have:=hw.hr.frame.size;omega)) (.gro e news) ?_ (bQ hne)) dst ?_
   ·intro m' av' hR _ _
    refine ⟨cur,hg,rfl,?_,?_⟩
    ·rw [hcs', ← hr2.length,hown'.1];exact Nat.mul_le_mul_right _ hkc'
    ·rw [← hr2.length,hown'.1,htk]
     exact hr2.mono hR
   ·simp only [Rel]
    refine ⟨by simp [avL],_,c',rfl,hkc',hcm',fun h=>by omega,fun _ b N e=>?_⟩
    rw [au] at e
    cases e
    exact ⟨rfl,hcs'⟩
end
end
section
section
variable {C:Ctx} {n:Nat} {σ:St} {dst:Option Tmp} {ty:TypeId} {pos:String} {after:Array Edge} {gd:Option (Nat×Bool)} {x:Operand}
end
end
section
section
variable {C:Ctx} {n:Nat} {σ:St} {dst:Option Tmp} {ty:TypeId} {pos:String} {after:Array Edge} {gd:Option (Nat×Bool)} {x y:Operand}
theorem dC {T e:TypeId} {id s k:Nat} {kh:IntKind} {ih:Int} {o:Ob} (h:Nat) (hT:C.P.underlying T=some (.slice e)) (hs:b6 C.P e s) (hx:σ.ev n x= .osl id s k) (ho:σ.ob id=some o) (hy:σ.ev n y= .pv (.int kh ih)) (hi:ih=(h:Int)) (h2:h≤k) (hre:o.real=true:=by rfl):
  XJ C n ⟨dst,.slice T x none (some y) none,ty,pos,after,gd⟩ σ ⟨.osl id s h,[],[]⟩:=
 .val fun a w m R hw=>by
  obtain ⟨b,N,c,he,hkc,hcm,hN,hm,hor⟩:=hw.osl hx ho hre
  have e2:a.eval y= .int kh h:=by rw [hw.int hy,hi]
  have hlc:h≤c:=by omega
  have hav:σ.av id=false:=by
   cases hv:σ.av id with
   | false=>rfl
   | true=>have:=hw.hr.free id hv;rw [ho] at this;cases this
  refine ⟨.slice (some ⟨b,0,none⟩) h c,?_,?_⟩
  ·by_cases hc0:c=0
   ·subst hc0
    have:h=0:=by omega
    subst this
    simp [execOp,he,e2,Instr.sliceAt,Instr.slice,Instr.sliceBounds,Instr.sliceBound,asIntOf,run_underlying hT,hs.run]
   ·simp [execOp,he,e2,Instr.sliceAt,Instr.slice,Instr.sliceBounds,Instr.sliceBound,asIntOf,run_underlying hT,hs.run,hlc,Addr.add_lit,hc0]
  ·simp only [Rel]
   refine ⟨hav,fun b' N' e=>?_⟩
   rw [hm] at e
   cases e
   exact ⟨c,rfl,hlc,hcm,hN⟩
def St.cutO (σ:St) (id:Nat) (T:TypeId) (cs:List PV):St:=⟨σ.sl,obL [(id,some (.cells T cs))] σ.ob,σ.av⟩
theorem St.FE {T:TypeId} {cs vs:List PV} (id j:Nat) (ho:σ.ob id=some (.cells T cs)) (hv:cs.take j=vs):σ.le (σ.cutO id T vs):=by
 subst hv
 rintro C n a w ⟨m,R,hw⟩
 have obe:∀ i,i≠id→obL [(id,some (.cells T (cs.take j)))] σ.ob i=σ.ob i:=fun i hi=>by
  have:Nat.beq i id=false:=by cases hb:Nat.beq i id;rfl;exact absurd (Nat.eq_of_beq_eq_true hb) hi
  simp [obL,this]
 have obs:obL [(id,some (.cells T (cs.take j)))] σ.ob id=some (.cells T (cs.take j)):=by simp [obL]
 refine ⟨m,R,⟨?_,?_,?_,hw.hr.inj,hw.hr.own,hw.hr.rsz,hw.hr.rfr,hw.hr.r0,hw.hr.frame,hw.hr.keep,hw.hr.res⟩,hw.df,hw.sz,hw.sl⟩
 ·intro i
  show (m i).isSome=bl (obL _ σ.ob i)
  by_cases e:i=id
  ·subst e;rw [obs,hw.hr.dom,ho];rfl
  ·rw [obe i e];exact hw.hr.dom i
 ·intro i hi
  show obL _ σ.ob i=none
  by_cases e:i=id
  ·subst e;have:=hw.hr.free i hi;rw [ho] at this;cases this
  ·rw [obe i e];exact hw.hr.free i hi
 ·intro i o b N h1 h2
  by_cases e:i=id
  ·subst e
   have h1':obL [(i,some (.cells T (cs.take j)))] σ.ob i=some o:=h1
   rw [obs] at h1'
   cases h1'
   obtain ⟨arr,q1,q2,q3,q4⟩:=hw.hr.obj i _ b N ho h2
   refine ⟨arr,q1,q2,by simp;omega,?_⟩
   have:=q4.take j
   rw [List.take_take] at this
   rw [List.length_take]
   exact this
  ·have h1':obL [(id,some (.cells T (cs.take j)))] σ.ob i=some o:=h1
   rw [obe i e] at h1'
   exact hw.hr.obj i o b N h1' h2
end
end
section
section
variable {C:Ctx} {n:Nat} {σ:St} {dst:Option Tmp} {ty t:TypeId} {pos:String} {after:Array Edge} {gd:Option (Nat×Bool)} {x:Operand}
end
end
section
section
variable {C:Ctx} {n:Nat} {σ:St} {dst:Option Tmp} {ty:TypeId} {ts:Array TypeId} {pos:String} {after:Array Edge} {gd:Option (Nat×Bool)}
theorem fA {f:FuncId} {xs:Array Operand} {args:List V} {os:List (Nat×Ob)} {k':Nat} {Q:V→(Nat→Option Ob)→Prop} {K:St→Prop} (ids:List Nat) (base:Nat) (hc:bN C.P f) (hf:FnO C.P f ids.length k' args os Q) (hargs:xs.toList.map (σ.ev n)=V.renL (cm ids base) args)
  (ha:V.allL (okR ids.length 0) args=true) (hos:os.map (·.1)=(List.range ids.length).map (big+ ·)) (hob:os.all (fun p=>p.2.all (okR ids.length 0))=true) (hobs:dD σ (cm ids base) os)
  (hnd:ids.Nodup) (hav:(nwO base k').all σ.av=true)
  (hk:∀ v ob',Q v ob'→K (σ.app dst ⟨v.ren (cm ids base),wrO ids base k' ob',nwO base k'⟩)):
  OJ C n ⟨dst,.call { callee:= .value (.func f),args:=xs,argTypes:=ts },ty,pos,after,gd⟩ K σ:=dU ids base hc hargs ha hos hob hobs hnd hav hf hk
end
end
section
open Go.RowKit Mk
set_option maxHeartbeats 1000000
def Aw (l:List Int):List Int:=l.mergeSort (fun a b=>decide (a≤b))
theorem iY (l:List Int):(Aw l).Perm l:=List.mergeSort_perm l _
theorem o8 (l:List Int):(Aw l).Pairwise (· ≤ ·):=by
 have:=List.pairwise_mergeSort (le:=fun a b:Int=>decide (a≤b)) (by intro a b c;simp;omega) (by intro a b;simp;omega) l
 exact this.imp (by simp)
theorem yg {l r:List Int} (hp:l.Perm r) (hl:l.Pairwise (· ≤ ·)) (hr:r.Pairwise (· ≤ ·)):l=r:=
 hp.eq_of_pairwise (fun a b _ _ h1 h2=>Int.le_antisymm h1 h2) hl hr
theorem CV {l r:List Int} (hp:l.Perm r) (hl:l.Pairwise (· ≤ ·)):l=Aw r:=yg (hp.trans (iY r).symm) hl (o8 r)
theorem wV (k:Nat) (hk:k≤12):FnP Tryz.prog 164 [.int .u64 k] (fun v=>∃ i,v= .int .i64 i):=by
 refine FnP.of func164 rfl ntmps164 (by simp) fun m0 w0 F R0=>?_
 have hw:IntKind.u8.wrap (k:Int)=(k:Int):=by
  have:k<256:=by omega
  show ((k:Int)%256)=k
  omega
 refine Z1 rfl rfl ?_
 refine Z2 rfl rfl rfl ?_
 refine Gp rfl rfl (fun hc4=>absurd hc4 (by omega)) (fun hc4=>?_)
 refine Il ?_
 refine Z2 rfl rfl rfl ?_
 refine Gp rfl rfl (fun hc8=>absurd hc8 (by omega)) (fun hc8=>?_)
 refine Il ?_
 refine Z2 rfl rfl rfl ?_
 refine Gp rfl rfl (fun hc14=>absurd hc14 (by omega)) (fun hc14=>?_)
 refine Il ?_
 refine Z2 rfl rfl rfl ?_
 refine Rs 21 rfl rfl ((en underlying136 underlying5 rfl).cast (v':= .pv (.int .u8 k)) (by rw [hw])) ?_
 refine Rs 22 rfl rfl (pz k underlying9 rfl rfl rfl (by show k<256;omega)) ?_
 refine A1 rfl ?_
 refine Rs 24 rfl rfl (aQ rfl rfl rfl) ?_
 refine A1 rfl ?_
 refine Gt rfl ?_
 exact ⟨_,_,rfl,rfl,_,rfl⟩
theorem tP (k:Nat) (hk:k≤12):FnP Tryz.prog 104 [.int .u64 k] (fun v=>∃ i,v= .int .i64 i):=by
 refine FnP.of func104 rfl ntmps104 (by simp) fun m0 w0 F R0=>?_
 refine Z1 rfl rfl ?_
 refine Gc rfl rfl (fun hcK=>absurd hcK (Bool.false_ne_true)) (fun hcK=>?_)
 refine Il ?_
 refine Z1 rfl rfl ?_
 refine RL.call rfl (dE call164 (wV k hk) rfl ?_)
 rintro _ ⟨i,rfl⟩
 refine A1 rfl ?_
 refine Gt rfl ?_
 exact ⟨_,_,rfl,rfl,_,rfl⟩
abbrev EW (l:List Int):Ob:= .cells 3 (aE l)
end
section
open Go.RowKit Mk
set_option maxHeartbeats 1000000
structure OrdOk (S:Sch) (P:List Int):Prop where
 val:Valid S
 len:P.length=S.attrs.length
 rng:∀ p∈P, -1≤p∧p<P.length
 up:∀ v,v<P.length→(abv P (v:Int)).isSome=true
 rt:∀ r∈S.rels,mu P r.2=true
def dq (S:Sch) (P:List Int) (v:Int):List Int:=Aw (H7 S P v)
end
section
open Go.RowKit Mk
set_option maxHeartbeats 1000000
def al (P:List Int) (v:Int):List Int:=(upZ P.length).filter fun a=>P.getD a.toNat 0==v
def ny (P:List Int) (h a:Int):Int:=if hiB P h a=true then a else h
def ka (P:List Int) (l:List Int):Int:=l.foldl (ny P) (l.getD 0 0)
def fy (P:List Int):Nat→Int→List Int
 | 0,_=>[]
 | f+1,v=>(upZ P.length).flatMap fun a=>if P.getD a.toNat 0=v then a::fy P f a else []
section
variable {C:Ctx} {n:Nat} {σ:St} {dst:Option Tmp} {ty:TypeId} {ts:Array TypeId} {pos:String} {after:Array Edge} {gd:Option (Nat×Bool)}
theorem qx {f:FuncId} {xs:Array Operand} {y:Operand} {fs cs:List V} {args:List V} {os:List (Nat×Ob)} {k':Nat} {Q:V→(Nat→Option Ob)→Prop} {K:St→Prop} (ids:List Nat) (base:Nat) (hc:bN C.P f) (hf:FnO C.P f ids.length k' args os Q) (hy:σ.ev n y= .fn (.func f) fs cs) (hargs:fs++xs.toList.map (σ.ev n)++cs=V.renL (cm ids base) args)
  (ha:V.allL (okR ids.length 0) args=true) (hos:os.map (·.1)=(List.range ids.length).map (big+ ·)) (hob:os.all (fun p=>p.2.all (okR ids.length 0))=true) (hobs:dD σ (cm ids base) os)
  (hnd:ids.Nodup) (hav:(nwO base k').all σ.av=true)
  (hk:∀ v ob',Q v ob'→K (σ.app dst ⟨v.ren (cm ids base),wrO ids base k' ob',nwO base k'⟩)):
  OJ C n ⟨dst,.call { callee:= .value y,args:=xs,argTypes:=ts },ty,pos,after,gd⟩ K σ:=pf ids base hc hy hargs ha hos hob hobs hnd hav hf hk
end
end
section
open Go.RowKit Mk
set_option maxHeartbeats 1000000
abbrev B64:=BitVec 64
abbrev bz (x:B64):PV:= .int .u64 (x.toNat:Int)
theorem ov (i:Int):IntKind.u64.wrap i=i%18446744073709551616:=by
 unfold IntKind.wrap
 simp [IntKind.signed,IntKind.bits]
theorem rU (x:B64):IntKind.u64.wrap (x.toNat:Int)=x.toNat:=by
 rw [ov]
 have:=x.isLt
 omega
theorem ofInt64 (x:B64):BitVec.ofInt IntKind.u64.bits (x.toNat:Int)=x:=by
 show BitVec.ofInt 64 _=x
 rw [BitVec.ofInt_natCast,BitVec.ofNat_toNat,BitVec.setWidth_eq]
section
variable {C:Ctx} {n:Nat} {σ:St} {dst:Option Tmp} {ty t t':TypeId} {pos:String} {after:Array Edge} {gd:Option (Nat×Bool)} {x y:Operand} {X Y:B64}
theorem nK (hx:σ.ev n x= .pv (bz X)) (hy:σ.ev n y= .pv (bz Y)):XJ C n ⟨dst,.binOp .and t x y t',ty,pos,after,gd⟩ σ ⟨.pv (bz (X&&&Y)),[],[]⟩:=
 aQ hx hy (by simp only [qP,ofInt64];exact congrArg (fun i=>some (PV.int .u64 i)) (rU _))
theorem kW (hx:σ.ev n x= .pv (bz X)) (hy:σ.ev n y= .pv (bz Y)):XJ C n ⟨dst,.binOp .or t x y t',ty,pos,after,gd⟩ σ ⟨.pv (bz (X|||Y)),[],[]⟩:=
 aQ hx hy (by simp only [qP,ofInt64];exact congrArg (fun i=>some (PV.int .u64 i)) (rU _))
theorem cv (hx:σ.ev n x= .pv (bz X)) (hy:σ.ev n y= .pv (bz Y)):XJ C n ⟨dst,.binOp .andNot t x y t',ty,pos,after,gd⟩ σ ⟨.pv (bz (X&&& ~~~Y)),[],[]⟩:=
 aQ hx hy (by simp only [qP,ofInt64];exact congrArg (fun i=>some (PV.int .u64 i)) (rU _))
theorem zx (hx:σ.ev n x= .pv (bz X)) (hy:σ.ev n y= .pv (bz Y)):XJ C n ⟨dst,.binOp .sub t x y t',ty,pos,after,gd⟩ σ ⟨.pv (bz (X-Y)),[],[]⟩:=
 aQ hx hy (by
  simp only [qP,ov]
  refine congrArg (fun i=>some (PV.int .u64 i)) ?_
  have:=X.isLt
  have:=Y.isLt
  rw [BitVec.toNat_sub]
  omega)
theorem nt (X Y:B64):((X.toNat:Int)==(Y.toNat:Int))=decide (X=Y):=by
 rw [Bool.eq_iff_iff]
 simp only [beq_iff_eq,decide_eq_true_eq]
 exact ⟨fun h=>BitVec.eq_of_toNat_eq (by omega),fun h=>by rw [h]⟩
theorem E7 (hx:σ.ev n x= .pv (bz X)) (hy:σ.ev n y= .pv (bz Y)):XJ C n ⟨dst,.binOp .eql t x y t',ty,pos,after,gd⟩ σ ⟨.pv (.bool (decide (X=Y))),[],[]⟩:=
 aQ hx hy (by simp only [qP,nt])
theorem nA (hx:σ.ev n x= .pv (bz X)) (hy:σ.ev n y= .pv (bz Y)):XJ C n ⟨dst,.binOp .neq t x y t',ty,pos,after,gd⟩ σ ⟨.pv (.bool (decide (X≠Y))),[],[]⟩:=
 aQ hx hy (by simp only [qP,bne,nt,decide_not])
theorem Fl (a:Nat) {i:Int} {k':IntKind} (hx:σ.ev n x= .pv (bz 1#64)) (hy:σ.ev n y= .pv (.int k' i)) (hi:i=(a:Int)) (ha:a<64):XJ C n ⟨dst,.binOp .shl t x y t',ty,pos,after,gd⟩ σ ⟨.pv (bz (BitVec.twoPow 64 a)),[],[]⟩:=by
 subst hi
 refine XJ.cast (H3 hx hy (by omega)) ?_
 refine congrArg (fun i=>V.pv (PV.int .u64 i)) ?_
 show IntKind.u64.wrap (1*2^(min (Int.toNat (a:Int)) 64))=_
 rw [show min (Int.toNat (a:Int)) 64=a by omega,BitVec.toNat_twoPow,ov]
 simp
theorem xU (a:Nat) {i:Int} {k':IntKind} (hx:σ.ev n x= .pv (bz X)) (hy:σ.ev n y= .pv (.int k' i)) (hi:i=(a:Int)) (ha:a<64):XJ C n ⟨dst,.binOp .shr t x y t',ty,pos,after,gd⟩ σ ⟨.pv (bz (X>>>a)),[],[]⟩:=by
 subst hi
 refine XJ.cast (Ii hx hy (by omega)) ?_
 refine congrArg (fun i=>V.pv (PV.int .u64 i)) ?_
 show Int.fdiv (X.toNat:Int) (2^(min (Int.toNat (a:Int)) 64))=_
 rw [show min (Int.toNat (a:Int)) 64=a by omega,BitVec.toNat_ushiftRight,Nat.shiftRight_eq_div_pow]
 have e:(2:Int)^a=((2^a:Nat):Int):=by simp
 rw [e,Int.fdiv_eq_ediv_of_nonneg _ (Int.natCast_nonneg _)]
 simp
end
theorem GS (X:B64) (a:Nat):decide ((X>>>a)&&&1#64=1#64)=X.getLsbD a:=by
 rw [Bool.eq_iff_iff,decide_eq_true_eq]
 constructor
 ·intro h
  have:=congrArg (fun z:B64=>z.getLsbD 0) h
  simpa using this
 ·intro h
  apply BitVec.eq_of_getLsbD_eq
  intro i hi
  rw [BitVec.getLsbD_and,BitVec.getLsbD_one]
  by_cases e:i=0
  ·subst e;simp [h]
  ·simp [e]
theorem fi (a:Nat) (ha:a<64):FnP Tryz.prog 132 [.int .i64 a] (· =bz (BitVec.twoPow 64 a)):=by
 refine FnP.of func132 rfl ntmps132 (by simp) fun m0 w0 F R0=>?_
 refine Z1 rfl rfl ?_
 refine Z1 rfl rfl ?_
 refine Rs 4 rfl rfl (Fl a rfl rfl rfl ha) ?_
 refine A1 rfl ?_
 refine Gt rfl ?_
 exact ⟨_,_,rfl,rfl,rfl⟩
theorem lr (X:B64) (a:Nat) (ha:a<64):FnP Tryz.prog 130 [bz X,.int .i64 a] (· = .bool (X.getLsbD a)):=by
 refine FnP.of func130 rfl ntmps130 (by simp) fun m0 w0 F R0=>?_
 refine Z1 rfl rfl ?_
 refine Z2 rfl rfl rfl ?_
 refine Rs 7 rfl rfl (xU a rfl rfl rfl ha) ?_
 refine Rs 8 rfl rfl (nK (Y:=1#64) rfl rfl) ?_
 refine Rs 9 rfl rfl (E7 (Y:=1#64) rfl rfl) ?_
 refine A1 rfl ?_
 refine Gt rfl ?_
 exact ⟨_,_,rfl,rfl,congrArg PV.bool (GS X a)⟩
abbrev kz (G:List B64):List PV:=G.map bz
abbrev bS (G:List B64):PV:= .sl none G.length (kz G)
theorem fJ {l:List B64} {k:Nat} (h:k<l.length):(kz l)[k*1]? =some (bz l[k]):=by simp [h]
theorem gN {l:List B64} {k:Nat} (h:k<l.length):kz l≠[]:=by intro e;simp at e;subst e;simp at h
def gI (n:Nat):B64:=BitVec.twoPow 64 n-1#64
theorem fB {n:Nat} (hn:n<64) (i:Nat):(gI n).getLsbD i=decide (i<n):=by
 have e:gI n=BitVec.ofNat 64 (2^n-1):=by
  apply BitVec.eq_of_toNat_eq
  unfold gI
  have h1:2^n<2^64:=Nat.pow_lt_pow_right (by decide) hn
  have h2:0<2^n:=Nat.pow_pos (by decide)
  rw [BitVec.toNat_sub,BitVec.toNat_twoPow,BitVec.toNat_ofNat,Nat.mod_eq_of_lt h1]
  simp only [BitVec.toNat_ofNat]
  omega
 rw [e,BitVec.getLsbD_ofNat,Nat.testBit_two_pow_sub_one]
 by_cases h:i<n
 ·simp [h];omega
 ·simp [h]
theorem qh (G:List B64) (hn:G.length<64):FnP Tryz.prog 128 [bS G] (· =bz (gI G.length)):=by
 refine FnP.of func128 rfl ntmps128 (by simp) fun m0 w0 F R0=>?_
 refine Z1 rfl rfl ?_
 refine Z2 rfl rfl rfl ?_
 refine Rs 5 rfl rfl (ae call132 (fi G.length hn) rfl) ?_
 refine Rs 6 rfl rfl (zx (Y:=1#64) rfl rfl) ?_
 refine A1 rfl ?_
 refine Gt rfl ?_
 exact ⟨_,_,rfl,rfl,rfl⟩
end
theorem s0 (f:Nat→Bool):∀ w:Nat,∃ x:BitVec w,∀ i,i<w→x.getLsbD i=f i
 | 0=>⟨0#0,fun i h=>absurd h (Nat.not_lt_zero _)⟩
 | w+1=>by
   obtain ⟨x,hx⟩:=s0 f w
   refine ⟨BitVec.cons (f w) x,fun i hi=>?_⟩
   rw [BitVec.getLsbD_cons]
   by_cases e:i=w
   ·rw [if_pos e,e]
   ·rw [if_neg e,hx i (by omega)]
noncomputable def bitsOf (f:Nat→Bool):BitVec 64:=Classical.choose (s0 f 64)
theorem fN (f:Nat→Bool) {i:Nat} (h:i<64):(bitsOf f).getLsbD i=f i:=Classical.choose_spec (s0 f 64) i h
theorem cq {x:BitVec 64} {i:Nat} (h:x.getLsbD i=true):i<64:=Classical.byContradiction fun e=>by
 rw [BitVec.getLsbD_of_ge _ _ (by omega)] at h;cases h
inductive Reach (G:List (BitVec 64)) (rest:BitVec 64) (a:Nat):Nat→Prop
 | refl:Reach G rest a a
 | step {b c:Nat}:Reach G rest a b→(G.getD b 0#64).getLsbD c=true→rest.getLsbD c=true→Reach G rest a c
noncomputable def compB (G:List (BitVec 64)) (rest:BitVec 64) (a:Nat):BitVec 64:=bitsOf fun b=>@decide (Reach G rest a b) (Classical.propDecidable _)
theorem eH {G:List (BitVec 64)} {rest:BitVec 64} {a b:Nat} (hb:b<64):(compB G rest a).getLsbD b=true↔Reach G rest a b:=by
 unfold compB
 rw [fN _ hb]
 exact @decide_eq_true_iff _ (Classical.propDecidable _)
theorem dG {G:List (BitVec 64)} {rest:BitVec 64} {a b:Nat} (h:(compB G rest a).getLsbD b=true):Reach G rest a b:=(eH (cq h)).1 h
structure CInv (G:List (BitVec 64)) (rest:BitVec 64) (a:Nat) (out next:BitVec 64):Prop where
 h1:out.getLsbD a=true
 h2:∀ b,out.getLsbD b=true→Reach G rest a b
 h3:∀ b,next.getLsbD b=true→out.getLsbD b=true
 h4:∀ b c,out.getLsbD b=true→next.getLsbD b=false→(G.getD b 0#64).getLsbD c=true→rest.getLsbD c=true→out.getLsbD c=true
theorem CInv.first {G:List (BitVec 64)} {rest:BitVec 64} {a:Nat} (ha:a<64):CInv G rest a (BitVec.twoPow 64 a) (BitVec.twoPow 64 a):=by
 refine ⟨by rw [BitVec.getLsbD_twoPow];simp [ha],fun b hb=>?_,fun _ h=>h,fun b c h1 h2=>by rw [h1] at h2;cases h2⟩
 rw [BitVec.getLsbD_twoPow] at hb
 have:a=b:=by simpa [ha] using hb
 subst this
 exact .refl
theorem CInv.last {G:List (BitVec 64)} {rest:BitVec 64} {a:Nat} {out:BitVec 64} (h:CInv G rest a out 0#64):out=compB G rest a:=by
 apply BitVec.eq_of_getLsbD_eq
 intro i hi
 rw [Bool.eq_iff_iff,eH hi]
 refine ⟨h.h2 i,fun hr=>?_⟩
 clear hi
 induction hr with
 | refl=>exact h.h1
 | step _ h1 h2 ih=>exact h.h4 _ _ ih (by simp) h1 h2
theorem CInv.next {G:List (BitVec 64)} {rest:BitVec 64} {a:Nat} {out next near:BitVec 64} (h:CInv G rest a out next)
  (hn:∀ c,near.getLsbD c=(List.range G.length).any fun b=>next.getLsbD b&&(G.getD b 0#64).getLsbD c):
  CInv G rest a (out|||(near&&&rest&&& ~~~out)) (near&&&rest&&& ~~~out):=by
 have hnear:∀ c,near.getLsbD c=true↔∃ b,next.getLsbD b=true∧(G.getD b 0#64).getLsbD c=true:=by
  intro c
  rw [hn,List.any_eq_true]
  constructor
  ·rintro ⟨b,_,h⟩
   rw [Bool.and_eq_true] at h
   exact ⟨b,h⟩
  ·rintro ⟨b,h1,h2⟩
   refine ⟨b,?_,by rw [h1,h2];rfl⟩
   rw [List.mem_range]
   apply Classical.byContradiction
   intro e
   rw [List.getD,List.getElem?_eq_none (by omega)] at h2
   simp at h2
 have hbit:∀ c,(near&&&rest&&& ~~~out).getLsbD c=true↔near.getLsbD c=true∧rest.getLsbD c=true∧out.getLsbD c=false:=by
  intro c
  rw [BitVec.getLsbD_and,BitVec.getLsbD_and,BitVec.getLsbD_not]
  constructor
  ·intro h;simp at h;exact ⟨h.1.1,h.1.2,h.2.2⟩
  ·rintro ⟨h1,h2,h3⟩;have:=cq h1;rw [h1,h2,h3,decide_eq_true this];rfl
 have hor:∀ c,(out|||(near&&&rest&&& ~~~out)).getLsbD c=true↔out.getLsbD c=true∨(near&&&rest&&& ~~~out).getLsbD c=true:=by
  intro c;rw [BitVec.getLsbD_or,Bool.or_eq_true]
 refine ⟨(hor _).2 (.inl h.h1),fun b hb=>?_,fun b hb=>(hor b).2 (.inr hb),fun b c h1 h2 h3 h4=>?_⟩
 ·rcases (hor b).1 hb with h1 | h1
  ·exact h.h2 b h1
  ·obtain ⟨g1,g2,_⟩:=(hbit b).1 h1
   obtain ⟨d,g3,g4⟩:=(hnear b).1 g1
   exact .step (h.h2 d (h.h3 d g3)) g4 g2
 ·rw [hor]
  by_cases hc:out.getLsbD c=true
  ·exact .inl hc
  ·right
   have hb:out.getLsbD b=true:=by
    rcases (hor b).1 h1 with h5 | h5
    ·exact h5
    ·rw [h5] at h2;cases h2
   rw [hbit]
   refine ⟨?_,h4,by simpa using hc⟩
   rw [hnear]
   by_cases hnb:next.getLsbD b=true
   ·exact ⟨b,hnb,h3⟩
   ·exact absurd (h.h4 b c hb (by simpa using hnb) h3 h4) hc
def y9 (x:BitVec 64):Nat:=(List.range 64).countP fun i=> !x.getLsbD i
theorem lx {α:Type} {p q:α→Bool}:∀ {l:List α},(∀ a∈l,p a=true→q a=true)→(∃ a∈l,p a=false∧q a=true)→l.countP p<l.countP q
 | [],_,⟨a,h,_⟩=>by cases h
 | x::l,h,⟨a,ha,h1,h2⟩=>by
   have hm:l.countP p≤l.countP q:=List.countP_mono_left fun y hy=>h y (List.mem_cons_of_mem _ hy)
   rw [List.countP_cons,List.countP_cons]
   by_cases e:a=x
   ·subst e
    rw [h1,h2]
    simp;omega
   ·have hr:=lx (l:=l) (fun y hy=>h y (List.mem_cons_of_mem _ hy)) ⟨a,(List.mem_cons.1 ha).resolve_left e,h1,h2⟩
    have:=h x (List.mem_cons_self ..)
    by_cases ep:p x=true
    ·rw [ep,this ep];simp;omega
    ·by_cases eq:q x=true<;>simp [ep,eq]<;>omega
theorem Ct {x y:BitVec 64} (h:∀ i,x.getLsbD i=true→y.getLsbD i=true) {j:Nat} (h1:x.getLsbD j=false) (h2:y.getLsbD j=true):y9 y<y9 x:=by
 refine lx (fun a _ ha=>?_) ⟨j,List.mem_range.2 (cq h2),by rw [h2];rfl,by rw [h1];rfl⟩
 cases hx:x.getLsbD a with
 | false=>rfl
 | true=>rw [h a hx] at ha;cases ha
theorem D5 {x:BitVec 64} (h:x≠0#64):∃ i,x.getLsbD i=true:=by
 apply Classical.byContradiction
 intro hn
 apply h
 apply BitVec.eq_of_getLsbD_eq
 intro i _
 rw [BitVec.getLsbD_zero]
 cases e:x.getLsbD i with
 | false=>rfl
 | true=>exact absurd ⟨i,e⟩ hn
def Cv (out next:BitVec 64):Nat:=2*y9 out+(if next=0#64 then 0 else 1)
theorem ET {out next x rest:BitVec 64} (hn:next≠0#64):Cv (out|||(x&&&rest&&& ~~~out)) (x&&&rest&&& ~~~out)<Cv out next:=by
 unfold Cv
 rw [if_neg hn]
 by_cases e:(x&&&rest&&& ~~~out)=0#64
 ·rw [if_pos e,e]
  have:out|||0#64=out:=by simp
  rw [this];omega
 ·rw [if_neg e]
  obtain ⟨i,hi⟩:=D5 e
  have h1:out.getLsbD i=false:=by
   rw [BitVec.getLsbD_and,BitVec.getLsbD_not] at hi
   simp at hi;exact hi.2.2
  have:=Ct (x:=out) (y:=out|||(x&&&rest&&& ~~~out)) (fun j hj=>by rw [BitVec.getLsbD_or,hj];rfl) h1 (by rw [BitVec.getLsbD_or,hi,Bool.or_true])
  omega
noncomputable def compsN (G:List (BitVec 64)) (rest:BitVec 64):Nat→List (BitVec 64)×BitVec 64
 | 0=>([],rest)
 | k+1=>if (compsN G rest k).2.getLsbD k=true then ((compsN G rest k).1++[compB G (compsN G rest k).2 k],(compsN G rest k).2&&& ~~~compB G (compsN G rest k).2 k) else compsN G rest k
structure IsG (S:Sch) (G:List (BitVec 64)):Prop where
 len:G.length=S.attrs.length
 bit:∀ a,a<G.length→∀ b:Nat,(G.getD a 0#64).getLsbD b=(decide (a≠b)&&eS S a b)
end Go.Proofs.YtjlikknopfnllaaGreatDoor
