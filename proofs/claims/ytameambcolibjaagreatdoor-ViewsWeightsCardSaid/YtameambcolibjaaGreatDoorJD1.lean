/- Lemmas. No condition. -/
import Derived.Test.YtameambcolibjaaGreatDoorRows
import Derived.WalkKit
import Derived.WalkSpells
import Derived.WalkLawsBesides
import Derived.Maps.AppendAt
import Derived.Orders
import Derived.Deep.QuietTactic
import Derived.BigQuiet
import Derived.Deep.Draws
import Derived.Lib.Hide
import Derived.RegionTactic
import Derived.Deep.RegionLaw
import Derived.Deep.MidRow
set_option maxRecDepth 100000
set_option maxHeartbeats 4000000
open Go.RowKit Go.Proofs.Tryz
open Option renaming some→UF,none→UG
open Bool renaming true→VA,false→WA
namespace Go.Proofs.YtameambcolibjaaGreatDoor
variable{p:Prop}{b:Bool}{off N id k sz size n o bytes:Nat}{us:List Value}{u z:Value}{α:Type}{w:World}{R:Nat->Prop}{P:Program}{t s e T:TypeId}{c x y:Code}{a:Act}{j i il ih:Int}{xs:Array Operand}{kk kl kh:IntKind}{bn:Option Bool}{f:FuncId}
theorem ah:type_of% @congrArg:=@congrArg
theorem ak:type_of% @List.getElem_mem:=@List.getElem_mem
theorem aG:type_of% @List.take_of_length_le:=@List.take_of_length_le
theorem aJ:type_of% @Nat.zero_le:=@Nat.zero_le
theorem bZ:type_of% @Nat.eq_of_beq_eq_true:=@Nat.eq_of_beq_eq_true
theorem cd:type_of% @List.map_cons:=@List.map_cons
theorem dO:type_of% @Bool.and_eq_true:=@Bool.and_eq_true
theorem pF:type_of% @if_neg:=@if_neg
theorem sh:type_of% @List.take_succ_eq_append_getElem:=@List.take_succ_eq_append_getElem
theorem tI:type_of% @Int.eq_ofNat_of_zero_le:=@Int.eq_ofNat_of_zero_le
theorem tJ:type_of% @Nat.le_refl:=@Nat.le_refl
theorem AI:type_of% @Nat.le_trans:=@Nat.le_trans
theorem AS:type_of% @List.length_map:=@List.length_map
theorem AT:type_of% @if_pos:=@if_pos
theorem By:type_of% @List.mem_cons:=@List.mem_cons
theorem BY:type_of% @List.getElem?_eq_getElem:=@List.getElem?_eq_getElem
theorem D8:type_of% @List.length_append:=@List.length_append
theorem IN:type_of% @List.length_cons:=@List.length_cons
theorem IS:type_of% @List.mem_map:=@List.mem_map
theorem IT:type_of% @List.mem_singleton:=@List.mem_singleton
theorem IX:type_of% @List.all_eq_true:=@List.all_eq_true
theorem OC:type_of% @decide_eq_true_eq:=@decide_eq_true_eq
theorem OF:type_of% @List.length_take:=@List.length_take
theorem RE:type_of% @List.getElem?_eq_some_iff:=@List.getElem?_eq_some_iff
theorem SR:type_of% @decide_eq_true:=@decide_eq_true
theorem S8:type_of% @Array.getElem?_eq_some_iff:=@Array.getElem?_eq_some_iff
theorem Uo:type_of% @Option.some.injEq:=@Option.some.injEq
theorem Up:type_of% @decide_eq_false:=@decide_eq_false
theorem Uq:type_of% @Nat.lt_of_lt_of_le:=@Nat.lt_of_lt_of_le
theorem Ur:type_of% @List.getD_eq_getElem?_getD:=@List.getD_eq_getElem?_getD
theorem Us:type_of% @List.drop_eq_getElem_cons:=@List.drop_eq_getElem_cons
theorem Ut:type_of% @List.length_set:=@List.length_set
theorem Uu:type_of% @List.length_singleton:=@List.length_singleton
theorem Uv:type_of% @Nat.mul_one:=@Nat.mul_one
theorem Uw:type_of% @List.getElem?_take:=@List.getElem?_take
theorem Ux:type_of% @Int.toNat_natCast:=@Int.toNat_natCast
theorem Uy:type_of% @Nat.le_of_ble_eq_true:=@Nat.le_of_ble_eq_true
theorem Uz:type_of% @Int.natAbs_natCast:=@Int.natAbs_natCast
theorem UH:type_of% @Bool.eq_iff_iff:=@Bool.eq_iff_iff
theorem UI:type_of% @Eq.trans:=@Eq.trans
theorem UJ:type_of% @List.flatMap_cons:=@List.flatMap_cons
theorem UK:type_of% @Bool.or_eq_false_iff:=@Bool.or_eq_false_iff
theorem UL:type_of% @List.size_toArray:=@List.size_toArray
theorem UM:type_of% @List.eq_nil_of_length_eq_zero:=@List.eq_nil_of_length_eq_zero
theorem UN:type_of% @List.mem_append:=@List.mem_append
theorem UO:type_of% @List.map_append:=@List.map_append
theorem UP:type_of% @Option.isSome_iff_exists:=@Option.isSome_iff_exists
theorem UQ:type_of% @Nat.zero_add:=@Nat.zero_add
theorem UR:type_of% @Array.length_toList:=@Array.length_toList
theorem US:type_of% @Nat.mul_le_mul_left:=@Nat.mul_le_mul_left
theorem UT:type_of% @List.map_congr_left:=@List.map_congr_left
theorem UU:type_of% @List.mem_flatMap:=@List.mem_flatMap
theorem UW:type_of% @Bool.or_eq_true:=@Bool.or_eq_true
theorem UX:type_of% @List.Perm.refl:=@List.Perm.refl
theorem UY:type_of% @List.pairwise_iff_getElem:=@List.pairwise_iff_getElem
theorem UZ:type_of% @cond_false:=@cond_false
theorem U0:type_of% @List.mem_cons_of_mem:=@List.mem_cons_of_mem
theorem U1:type_of% @Classical.byContradiction:=@Classical.byContradiction
theorem U3:type_of% @List.take_append_drop:=@List.take_append_drop
theorem U4:type_of% @List.sum_cons:=@List.sum_cons
theorem U5:type_of% @Nat.min_eq_left:=@Nat.min_eq_left
theorem U6:type_of% @List.flatMap_append:=@List.flatMap_append
theorem U7:type_of% @List.length_pos_iff:=@List.length_pos_iff
theorem U8:type_of% @Nat.mul_comm:=@Nat.mul_comm
theorem U9:type_of% @List.map_set:=@List.map_set
theorem Va:type_of% @Nat.mul_le_mul:=@Nat.mul_le_mul
theorem Vb:type_of% @List.map_map:=@List.map_map
theorem Vc:type_of% @Nat.pow_succ:=@Nat.pow_succ
theorem Vd:type_of% @List.pairwise_cons:=@List.pairwise_cons
theorem Ve:type_of% @Nat.eq_zero_or_pos:=@Nat.eq_zero_or_pos
theorem Vf:type_of% @List.drop_of_length_le:=@List.drop_of_length_le
theorem Vg:type_of% @List.append_nil:=@List.append_nil
theorem Vh:type_of% @beq_self_eq_true:=@beq_self_eq_true
theorem Vi:type_of% @Nat.mod_lt:=@Nat.mod_lt
theorem Vj:type_of% @List.mem_range:=@List.mem_range
theorem Vk:type_of% @Nat.mul_le_mul_right:=@Nat.mul_le_mul_right
theorem Vl:type_of% @Nat.le_of_eq:=@Nat.le_of_eq
theorem Vm:type_of% @Nat.mul_assoc:=@Nat.mul_assoc
theorem Vn:type_of% @List.map_nil:=@List.map_nil
theorem Vo:type_of% @List.nil_append:=@List.nil_append
theorem Vp:type_of% @List.getElem?_drop:=@List.getElem?_drop
theorem Vq:type_of% @List.ext_getElem:=@List.ext_getElem
theorem Vr:type_of% @Nat.pow_le_pow_right:=@Nat.pow_le_pow_right
theorem Vs:type_of% @List.length_drop:=@List.length_drop
theorem Vt:type_of% @decide_eq_false_iff_not:=@decide_eq_false_iff_not
theorem Vu:type_of% @Nat.lt_succ_iff_lt_or_eq:=@Nat.lt_succ_iff_lt_or_eq
theorem Vv:type_of% @Bool.false_eq_true:=@Bool.false_eq_true
theorem Vx:type_of% @List.mem_cons_self:=@List.mem_cons_self
theorem Vy:type_of% @List.not_mem_nil:=@List.not_mem_nil
theorem Vz:type_of% @List.getElem_of_mem:=@List.getElem_of_mem
theorem VC:type_of% @List.getElem_map:=@List.getElem_map
theorem VE:type_of% @List.getElem?_of_mem:=@List.getElem?_of_mem
theorem VF:type_of% @List.mem_take_iff_getElem:=@List.mem_take_iff_getElem
theorem VG:type_of% @cond_true:=@cond_true
theorem VH:type_of% @decide_eq_true_iff:=@decide_eq_true_iff
theorem VI:type_of% @List.cons_append:=@List.cons_append
theorem VJ:type_of% @List.mem_of_getElem?:=@List.mem_of_getElem?
theorem VK:type_of% @beq_iff_eq:=@beq_iff_eq
theorem VL:type_of% @List.any_eq_true:=@List.any_eq_true
theorem VM:type_of% @Bool.not_eq_true':=@Bool.not_eq_true'
theorem VN:type_of% @Int.natCast_mul:=@Int.natCast_mul
theorem VO:type_of% @List.foldl_cons:=@List.foldl_cons
theorem VP:type_of% @beq_eq_false_iff_ne:=@beq_eq_false_iff_ne
theorem VR:type_of% @List.filter_sublist:=@List.filter_sublist
theorem VT:type_of% @Array.getElem?_setIfInBounds_ne:=@Array.getElem?_setIfInBounds_ne
theorem VU:type_of% @Array.getD_eq_getD_getElem?:=@Array.getD_eq_getD_getElem?
theorem VV:type_of% @Nat.not_lt_zero:=@Nat.not_lt_zero
theorem VW:type_of% @List.pairwise_map:=@List.pairwise_map
theorem VY:type_of% @of_decide_eq_false:=@of_decide_eq_false
theorem VZ:type_of% @List.length_filter_le:=@List.length_filter_le
theorem V0:type_of% @List.length_replicate:=@List.length_replicate
theorem V1:type_of% @List.all_cons:=@List.all_cons
theorem V2:type_of% @Bool.or_false:=@Bool.or_false
theorem V3:type_of% @List.set_eq_take_append_cons_drop:=@List.set_eq_take_append_cons_drop
theorem V4:type_of% @List.findIdx?_eq_some_iff_getElem:=@List.findIdx?_eq_some_iff_getElem
theorem V5:type_of% @Option.map_some:=@Option.map_some
theorem V6:type_of% @List.length_nil:=@List.length_nil
theorem V7:type_of% @List.take_length:=@List.take_length
theorem V8:type_of% @List.mem_of_mem_drop:=@List.mem_of_mem_drop
theorem V9:type_of% @of_decide_eq_true:=@of_decide_eq_true
theorem Wc:type_of% @List.getElem?_map:=@List.getElem?_map
theorem Wd:type_of% @Nat.mul_add:=@Nat.mul_add
theorem We:type_of% @Nat.lt_or_ge:=@Nat.lt_or_ge
theorem Wf:type_of% @Nat.add_zero:=@Nat.add_zero
theorem Wg:type_of% @List.cons.injEq:=@List.cons.injEq
theorem Wh:type_of% @List.flatMap_map:=@List.flatMap_map
theorem Wi:type_of% @List.nodup_append:=@List.nodup_append
theorem Wj:type_of% @Option.map_eq_some_iff:=@Option.map_eq_some_iff
theorem Wl:type_of% @Nat.blt_eq:=@Nat.blt_eq
theorem Wm:type_of% @List.nodup_cons:=@List.nodup_cons
theorem Wn:type_of% @Option.some.inj:=@Option.some.inj
theorem Wo:type_of% @Array.getElem?_setIfInBounds:=@Array.getElem?_setIfInBounds
theorem Wp:type_of% @Rat.intCast_mul:=@Rat.intCast_mul
theorem Wq:type_of% @Nat.le_add_right:=@Nat.le_add_right
theorem Wr:type_of% @List.getElem?_replicate:=@List.getElem?_replicate
theorem Ws:type_of% @List.mem_append_left:=@List.mem_append_left
theorem Wt:type_of% @List.mem_filter:=@List.mem_filter
theorem Wu:type_of% @Bool.and_true:=@Bool.and_true
theorem Wv:type_of% @List.map_flatMap:=@List.map_flatMap
theorem Ww:type_of% @Option.getD_some:=@Option.getD_some
theorem Wx:type_of% @Nat.mod_eq_of_lt:=@Nat.mod_eq_of_lt
theorem Wy:type_of% @List.mem_of_find?_eq_some:=@List.mem_of_find?_eq_some
theorem Wz:type_of% @List.map_eq_nil_iff:=@List.map_eq_nil_iff
theorem WE:type_of% @eq_false_of_ne_true:=@eq_false_of_ne_true
theorem WG:type_of% @List.all_eq_false:=@List.all_eq_false
theorem WH:type_of% @List.append_assoc:=@List.append_assoc
theorem WI:type_of% @List.Pairwise.sublist:=@List.Pairwise.sublist
theorem WJ:type_of% @Nat.div_lt_iff_lt_mul:=@Nat.div_lt_iff_lt_mul
theorem WK:type_of% @Nat.le_div_iff_mul_le:=@Nat.le_div_iff_mul_le
theorem WL:type_of% @Nat.ble_eq_true_of_le:=@Nat.ble_eq_true_of_le
theorem WM:type_of% @ByteArray.size_append:=@ByteArray.size_append
theorem WN:type_of% @Nat.pos_of_ne_zero:=@Nat.pos_of_ne_zero
theorem WO:type_of% @Array.replicate_zero:=@Array.replicate_zero
theorem WQ:type_of% @List.getElem?_set_ne:=@List.getElem?_set_ne
theorem WR:type_of% @Array.replicate_succ:=@Array.replicate_succ
theorem WT:type_of% @List.mem_iff_getElem:=@List.mem_iff_getElem
theorem WU:type_of% @Nat.div_eq_of_lt:=@Nat.div_eq_of_lt
theorem WV:type_of% @Bool.true_and:=@Bool.true_and
theorem WW:type_of% @Rat.mul_zero:=@Rat.mul_zero
theorem WX:type_of% @List.getElem?_set:=@List.getElem?_set
theorem WY:type_of% @List.mergeSort_of_pairwise:=@List.mergeSort_of_pairwise
theorem WZ:type_of% @Nat.add_comm:=@Nat.add_comm
theorem W5:type_of% @List.foldl_append:=@List.foldl_append
theorem W6:type_of% @List.replicate_succ:=@List.replicate_succ
theorem W7:type_of% @List.append_toArray:=@List.append_toArray
theorem W8:type_of% @List.getElem?_eq_none:=@List.getElem?_eq_none
theorem W9:type_of% @List.flatMap_nil:=@List.flatMap_nil
theorem Xa:type_of% @Nat.lt_of_le_of_lt:=@Nat.lt_of_le_of_lt
theorem Xb:type_of% @List.map_toArray:=@List.map_toArray
theorem Xc:type_of% @Nat.le_of_lt:=@Nat.le_of_lt
theorem Xd:type_of% @or_false:=@or_false
theorem Xe:type_of% @List.mem_of_mem_take:=@List.mem_of_mem_take
theorem Xf:type_of% @bne_self_eq_false:=@bne_self_eq_false
theorem Xg:type_of% @List.push_toArray:=@List.push_toArray
theorem Xh:type_of% @List.ext_getElem?:=@List.ext_getElem?
theorem Xi:type_of% @List.length_eq_zero_iff:=@List.length_eq_zero_iff
theorem Xj:type_of% @List.pairwise_mergeSort:=@List.pairwise_mergeSort
theorem Xk:type_of% @List.all_append:=@List.all_append
theorem Xl:type_of% @Nat.div_add_mod:=@Nat.div_add_mod
theorem Xm:type_of% @UInt8.toNat_inj:=@UInt8.toNat_inj
theorem Xn:type_of% @List.range_succ:=@List.range_succ
theorem Xo:type_of% @List.take_succ_cons:=@List.take_succ_cons
theorem Xp:type_of% @Nat.lt_trans:=@Nat.lt_trans
theorem Xq:type_of% @List.perm_middle:=@List.perm_middle
theorem Xr:type_of% @List.take_take:=@List.take_take
theorem Xs:type_of% @Int.natAbs_mul:=@Int.natAbs_mul
theorem Xt:type_of% @List.take_zero:=@List.take_zero
theorem Xu:type_of% @Array.getElem?_modify:=@Array.getElem?_modify
theorem Xv:type_of% @Array.getElem?_toList:=@Array.getElem?_toList
theorem Xw:type_of% @List.mem_append_right:=@List.mem_append_right
theorem Xx:type_of% @List.all_nil:=@List.all_nil
theorem Xy:type_of% @List.any_eq_false:=@List.any_eq_false
theorem Xz:type_of% @Nat.mul_zero:=@Nat.mul_zero
theorem XA:type_of% @Array.toList_push:=@Array.toList_push
theorem XB:type_of% @List.map_id:=@List.map_id
theorem XD:type_of% @List.cons.inj:=@List.cons.inj
theorem XE:type_of% @List.map_eq_flatMap:=@List.map_eq_flatMap
theorem XF:type_of% @List.mergeSort_perm:=@List.mergeSort_perm
theorem XG:type_of% @List.map_fst_zip:=@List.map_fst_zip
theorem XH:type_of% @decide_eq_decide:=@decide_eq_decide
theorem XI:type_of% @List.getElem_set:=@List.getElem_set
theorem XK:type_of% @Nat.one_mul:=@Nat.one_mul
theorem XL:type_of% @Nat.mul_pos:=@Nat.mul_pos
theorem XN:type_of% @Rat.add_zero:=@Rat.add_zero
theorem XO:type_of% @if_true:=@if_true
theorem XP:type_of% @Bool.or_true:=@Bool.or_true
theorem XQ:type_of% @List.take_left':=@List.take_left'
theorem XR:type_of% @if_false:=@if_false
theorem XS:type_of% @Nat.div_le_self:=@Nat.div_le_self
theorem XT:type_of% @Nat.add_mul:=@Nat.add_mul
theorem XU:type_of% @Nat.beq_refl:=@Nat.beq_refl
theorem XV:type_of% @Nat.succ_mul:=@Nat.succ_mul
theorem XW:type_of% @Nat.zero_mul:=@Nat.zero_mul
theorem XX(h:p:=by omega):p:=h
theorem XY(h:p:=by kernel_rfl):p:=h
theorem XZ(h:p:=by decide):p:=h
theorem X0(h:p:=by assumption):p:=h
theorem X2(h:p:=by simp):p:=h
theorem X3(h:p:=by simp;omega):p:=h
theorem X4(h:p:=by simp only;omega):p:=h
theorem X5:True:=True.intro
theorem O{α:Sort _}{a:α}:a=a:=rfl
section
inductive PV where
 |int (k:IntKind) (n:Int)
 |bool (b:Bool)
 |str (s:ByteArray)
 |agg (cs:List PV)
 |tup (cs:List PV)
 |sl (nil:Option Bool) (n:Nat) (cs:List PV)
 |rp (cs:List PV) (off:Nat)
 |fn (f:Fn) (first captured:List PV)
 |nilfn
 |nilptr
 |nilmap
 |iface (t:TypeId) (v:PV)
 |niliface
 |mp (ks vs:List PV)
 |any
 deriving Inhabited
def tL(w:World)(R:Nat->Prop)(b off:Nat)(us:List Value):Prop:=
 R b/\∀j,j<us.length->w.cell? ⟨b,off+j,UG⟩=us[j]?
def dT(es:List MapEntry)(clock:Nat):Prop:=(es.map (·.born)).Nodup/\∀e∈es,e.born<clock
mutual
def RelP(w:World)(R:Nat->Prop):PV->Value->Prop
 |.int k n,u=>u= .int k n
 |.bool b,u=>u= .bool b
 |.str s,u=>u= .string s
 |.agg cs,u=>∃us:List Value,u= .agg us.toArray/\RelPL w R cs us
 |.tup cs,u=>∃us:List Value,u= .tuple us.toArray/\RelPL w R cs us
 |.sl nil n cs,u=>∃A c,u= .slice A n c/\n<=c/\c<=maxLen/\(∀b,nil=UF b->b=A.isNone)/\(nil=UF VA->c=0)/\
   (cs≠[]->∃b off us,A=UF ⟨b,off,UG⟩/\RelPL w R cs us/\tL w R b off us)
 |.rp cs o,u=>∃b off us,u= .pointer (UF ⟨b,off+o,UG⟩)/\RelPL w R cs us/\tL w R b off us
 |.fn f fs cs,u=>∃us vs:List Value,u= .func f us.toArray vs.toArray/\RelPL w R fs us/\RelPL w R cs vs
 |.nilfn,u=>u= .nilFunc
 |.nilptr,u=>u= .pointer UG
 |.nilmap,u=>u= .map UG
 |.iface t v,u=>∃x,u= .iface t x/\RelP w R v x
 |.niliface,u=>u= .nilIface
 |.mp ks vs,u=>∃b,u= .map (UF b)/\R b/\∃(es:Array MapEntry)(clock:Nat)(l:List MapEntry),w.heap[b]? =UF (.map es clock)/\RelPL w R ks (l.map (·.key))/\RelPL w R vs (l.map (·.val))/\dT es.toList clock/\l.Perm es.toList
 |.any,_=>True
def RelPL(w:World)(R:Nat->Prop):List PV->List Value->Prop
 |[],us=>us=[]
 |c::cs,us=>∃u vs,us=u::vs/\RelP w R c u/\RelPL w R cs vs
end
section
variable {w w':World}{R R':Nat->Prop}
theorem tL.mono(d:∀b,R b->R' b/\w'.heap[b]? =w.heap[b]?){b:Nat}(h:tL w R b off us):tL w' R' b off us:=
 ⟨(d b h.1).1,λj hj=>(World.cell?_of_block (w:=w) (a:=⟨b,off+j,UG⟩) (d b h.1).2).trans (h.2 j hj)⟩
mutual
theorem RelP.mono(d:∀b,R b->R' b/\w'.heap[b]? =w.heap[b]?):∀(p:PV)(u:Value),RelP w R p u->RelP w' R' p u
 |.int _ _,_,h=>h
 |.bool _,_,h=>h
 |.str _,_,h=>h
 |.agg cs,_,h=>by
   simp only[RelP]at h ⊢;obtain⟨us,e,h⟩:=h;exact⟨us,e,RelPL.mono d cs us h⟩
 |.tup cs,_,h=>by
   simp only[RelP]at h ⊢;obtain⟨us,e,h⟩:=h;exact⟨us,e,RelPL.mono d cs us h⟩
 |.sl nil n cs,_,h=>by
   simp only[RelP]at h ⊢;obtain⟨A,c,e,h1,h2,h3,h4,h5⟩:=h;refine⟨A,c,e,h1,h2,h3,h4,λq=>?_⟩;obtain⟨b,off,us,e,hl,hs⟩:=h5 q;exact⟨b,off,us,e,RelPL.mono d cs us hl,hs.mono d⟩
 |.rp cs o,_,h=>by
   simp only[RelP]at h ⊢;obtain⟨b,off,us,e,hl,hs⟩:=h;exact⟨b,off,us,e,RelPL.mono d cs us hl,hs.mono d⟩
 |.fn f fs cs,_,h=>by
   simp only[RelP]at h ⊢;obtain⟨us,vs,e,h1,h2⟩:=h;exact⟨us,vs,e,RelPL.mono d fs us h1,RelPL.mono d cs vs h2⟩
 |.nilfn,_,h=>h
 |.nilptr,_,h=>h
 |.nilmap,_,h=>h
 |.iface t v,_,h=>by
   simp only[RelP]at h ⊢;obtain⟨x,e,h⟩:=h;exact⟨x,e,RelP.mono d v x h⟩
 |.niliface,_,h=>h
 |.mp ks vs,_,h=>by
   simp only[RelP]at h ⊢;obtain⟨b,e,hb,es,clock,l,h1,h2,h3,h4⟩:=h;exact⟨b,e,(d b hb).1,es,clock,l,(d b hb).2.trans h1,RelPL.mono d ks _ h2,RelPL.mono d vs _ h3,h4⟩
 |.any,_,_=>trivial
theorem RelPL.mono(d:∀b,R b->R' b/\w'.heap[b]? =w.heap[b]?):∀(ps:List PV)(us:List Value),RelPL w R ps us->RelPL w' R' ps us
 |[],_,h=>h
 | c::cs,_,h=>by
   simp only[RelPL]at h ⊢;obtain⟨u,vs,e,h1,h2⟩:=h;exact⟨u,vs,e,RelP.mono d c u h1,RelPL.mono d cs vs h2⟩
end
theorem RelPL.length:∀{ps:List PV}{us:List Value},RelPL w R ps us->us.length=ps.length
 |[],_,h=>by simp only[RelPL]at h;simp[h]
 | c::cs,_,h=>by
   simp only[RelPL]at h;obtain⟨u,vs,rfl,_,h2⟩:=h;simp[RelPL.length h2]
theorem RelPL.get:∀{ps:List PV}{us:List Value},RelPL w R ps us->∀{i:Nat}{p:PV},ps[i]? =UF p->∃u,us[i]? =UF u/\RelP w R p u
 |[],_,_,i,p,hp=>by simp at hp
 | c::cs,_,h,i,p,hp=>by
   simp only[RelPL]at h;obtain⟨u,vs,rfl,h1,h2⟩:=h;cases i with
   |zero=>simp at hp;subst hp;exact⟨u,X2,h1⟩
   |succ i=>simp at hp;obtain⟨x,hx,hr⟩:=RelPL.get h2 hp;exact⟨x,by simpa using hx,hr⟩
theorem RelPL.nil:RelPL w R [] []:=by simp[RelPL]
theorem RelPL.cons{p:PV}{ps:List PV}(h:RelP w R p u)(d:RelPL w R ps us):RelPL w R (p::ps) (u::us):=by
 simp only[RelPL];exact⟨u,us,O,h,d⟩
theorem RelPL.append:∀{ps qs:List PV}{us vs:List Value},RelPL w R ps us->RelPL w R qs vs->RelPL w R (ps++qs) (us++vs)
 |[],_,_,_,h,k=>by simp only[RelPL]at h;subst h;simpa using k
 | c::cs,_,_,_,h,k=>by
   simp only[RelPL]at h;obtain⟨u,xs,rfl,h1,h2⟩:=h;exact RelPL.cons h1 (RelPL.append h2 k)
theorem RelPL.take:∀{ps:List PV}{us:List Value}(n:Nat),RelPL w R ps us->RelPL w R (ps.take n) (us.take n)
 |[],_,n,h=>by simp only[RelPL]at h;subst h;simpa using RelPL.nil
 |c::cs,_,0,h=>by simpa using RelPL.nil
 | c::cs,_,n+1,h=>by
   simp only[RelPL]at h;obtain⟨u,xs,rfl,h1,h2⟩:=h;simpa using RelPL.cons h1 (RelPL.take n h2)
theorem RelPL.drop:∀{ps:List PV}{us:List Value}(n:Nat),RelPL w R ps us->RelPL w R (ps.drop n) (us.drop n)
 |[],_,n,h=>by simp only[RelPL]at h;subst h;simpa using RelPL.nil
 |c::cs,_,0,h=>by simpa using h
 | c::cs,_,n+1,h=>by
   simp only[RelPL]at h;obtain⟨u,xs,rfl,h1,h2⟩:=h;simpa using RelPL.drop n h2
theorem RelPL.set:∀{ps:List PV}{us:List Value}(i:Nat){p:PV}{u:Value},RelPL w R ps us->RelP w R p u->RelPL w R (ps.set i p) (us.set i u)
 |[],_,n,_,_,h,_=>by simp only[RelPL]at h;subst h;simpa using RelPL.nil
 |c::cs,_,0,_,_,h,k=>by grind[RelPL]
 | c::cs,_,n+1,_,_,h,k=>by
   simp only[RelPL]at h;obtain⟨u,xs,rfl,h1,h2⟩:=h;simpa using RelPL.cons h1 (RelPL.set n h2 k)
end
inductive V where
 |pv (p:PV)
 |ptr (id off:Nat)
 |osl (id sz n:Nat)
 |tsl (id off n:Nat)
 |gsl (id sz n:Nat)
 |map (id:Nat)
 |agg (cs:List V)
 |tup (cs:List V)
 |fn (f:Fn) (first captured:List V)
 deriving Inhabited
abbrev Gm:=Nat->Option (Nat×Nat)
abbrev Av:=Nat->Bool
mutual
def Rel(w:World)(m:Gm)(av:Av)(R:Nat->Prop):V->Value->Prop
 |.pv p,u=>RelP w R p u
 |.ptr id off,u=>av id=WA/\∀b N,m id=UF (b,N)->u= .pointer (UF ⟨b,off,UG⟩)
 |.osl id sz n,u=>av id=WA/\∀b N,m id=UF (b,N)->∃c,u= .slice (UF ⟨b,0,UG⟩) n c/\n<=c/\c<=maxLen/\N=c*sz
 |.tsl id off n,u=>av id=WA/\∃A c,u= .slice A n c/\(0<n->∀b N,m id=UF (b,N)->A=UF ⟨b,off,UG⟩)
 |.gsl id sz n,u=>av id=WA/\∃A c,u= .slice A n c/\n<=c/\c<=maxLen/\(n=0->A=UG/\c=0/\m id=UG)/\(0<n->∀b N,m id=UF (b,N)->A=UF ⟨b,0,UG⟩/\N=c*sz)
 |.map id,u=>av id=WA/\∀b N,m id=UF (b,N)->u= .map (UF b)
 |.agg cs,u=>∃us:List Value,u= .agg us.toArray/\RelL w m av R cs us
 |.tup cs,u=>∃us:List Value,u= .tuple us.toArray/\RelL w m av R cs us
 |.fn f fs cs,u=>∃us vs:List Value,u= .func f us.toArray vs.toArray/\RelL w m av R fs us/\RelL w m av R cs vs
def RelL(w:World)(m:Gm)(av:Av)(R:Nat->Prop):List V->List Value->Prop
 |[],us=>us=[]
 |c::cs,us=>∃u vs,us=u::vs/\Rel w m av R c u/\RelL w m av R cs vs
end
theorem py{a b:Option α}(h:∀x,a=UF x->b=UF x)(d:b=UG):a=UG:=by
 cases a with
 |none=>rfl
 |some x=>rw[h x O]at d;cases d
section
variable {w w':World}{R R':Nat->Prop}{m m':Gm}{av av':Av}
mutual
theorem Rel.mono(r:∀b,R b->R' b/\w'.heap[b]? =w.heap[b]?)(d:∀id x,av id=WA->m' id=UF x->m id=UF x)(q:∀id,av id=WA->av' id=WA):
  ∀(p:V)(u:Value),Rel w m av R p u->Rel w' m' av' R' p u
 |.pv p,u,h=>by simp only[Rel]at h ⊢; exact h.mono r
 |.ptr id off,_,h=>by simp only[Rel]at h ⊢; exact⟨q id h.1,λb N e=>h.2 b N (d _ _ h.1 e)⟩
 |.osl id sz n,_,h=>by simp only[Rel]at h ⊢; exact⟨q id h.1,λb N e=>h.2 b N (d _ _ h.1 e)⟩
 |.tsl id off n,_,h=>by grind[Rel]
 |.gsl id sz n,_,h=>by
   simp only[Rel]at h ⊢;obtain⟨h0,A,c,e,h1,h2,h3,h4⟩:=h;exact⟨q id h0,A,c,e,h1,h2,λB=>⟨(h3 B).1,(h3 B).2.1,py (λx=>d id x h0) (h3 B).2.2⟩,λhp b N e=>h4 hp b N (d _ _ h0 e)⟩
 |.map id,_,h=>by simp only[Rel]at h ⊢; exact⟨q id h.1,λb N e=>h.2 b N (d _ _ h.1 e)⟩
 |.agg cs,_,h=>by
   simp only[Rel]at h ⊢;obtain⟨us,e,h⟩:=h;exact⟨us,e,RelL.mono r d q cs us h⟩
 |.tup cs,_,h=>by
   simp only[Rel]at h ⊢;obtain⟨us,e,h⟩:=h;exact⟨us,e,RelL.mono r d q cs us h⟩
 |.fn f fs cs,_,h=>by
   simp only[Rel]at h ⊢;obtain⟨us,vs,e,h1,h2⟩:=h;exact⟨us,vs,e,RelL.mono r d q fs us h1,RelL.mono r d q cs vs h2⟩
theorem RelL.mono(d:∀b,R b->R' b/\w'.heap[b]? =w.heap[b]?)(q:∀id x,av id=WA->m' id=UF x->m id=UF x)(r:∀id,av id=WA->av' id=WA):
  ∀(ps:List V)(us:List Value),RelL w m av R ps us->RelL w' m' av' R' ps us
 |[],_,h=>by simpa only[RelL]using h
 | c::cs,_,h=>by
   simp only[RelL]at h ⊢;obtain⟨u,vs,e,h1,h2⟩:=h;exact⟨u,vs,e,Rel.mono d q r c u h1,RelL.mono d q r cs vs h2⟩
end
theorem RelL.length:∀{ps:List V}{us:List Value},RelL w m av R ps us->us.length=ps.length
 |[],_,h=>by simp only[RelL]at h;simp[h]
 | c::cs,_,h=>by
   simp only[RelL]at h;obtain⟨u,vs,rfl,_,h2⟩:=h;simp[RelL.length h2]
theorem RelL.get:∀{ps:List V}{us:List Value},RelL w m av R ps us->∀{i:Nat}{p:V},ps[i]? =UF p->∃u,us[i]? =UF u/\Rel w m av R p u
 |[],_,_,i,p,hp=>by simp at hp
 | c::cs,_,h,i,p,hp=>by
   simp only[RelL]at h;obtain⟨u,vs,rfl,h1,h2⟩:=h;cases i with
   |zero=>simp at hp;subst hp;exact⟨u,X2,h1⟩
   |succ i=>simp at hp;obtain⟨x,hx,hr⟩:=RelL.get h2 hp;exact⟨x,by simpa using hx,hr⟩
theorem RelL.nil:RelL w m av R [] []:=by simp[RelL]
theorem RelL.cons{p:V}{ps:List V}(h:Rel w m av R p u)(d:RelL w m av R ps us):RelL w m av R (p::ps) (u::us):=by
 simp only[RelL];exact⟨u,us,O,h,d⟩
theorem RelL.append:∀{ps qs:List V}{us vs:List Value},RelL w m av R ps us->RelL w m av R qs vs->RelL w m av R (ps++qs) (us++vs)
 |[],_,_,_,h,k=>by simp only[RelL]at h;subst h;simpa using k
 | c::cs,_,_,_,h,k=>by
   simp only[RelL]at h;obtain⟨u,xs,rfl,h1,h2⟩:=h;exact RelL.cons h1 (RelL.append h2 k)
theorem RelL.take:∀{ps:List V}{us:List Value}(n:Nat),RelL w m av R ps us->RelL w m av R (ps.take n) (us.take n)
 |[],_,n,h=>by simp only[RelL]at h;subst h;simpa using RelL.nil
 |c::cs,_,0,h=>by simpa using RelL.nil
 | c::cs,_,n+1,h=>by
   simp only[RelL]at h;obtain⟨u,xs,rfl,h1,h2⟩:=h;simpa using RelL.cons h1 (RelL.take n h2)
theorem RelL.drop:∀{ps:List V}{us:List Value}(n:Nat),RelL w m av R ps us->RelL w m av R (ps.drop n) (us.drop n)
 |[],_,n,h=>by simp only[RelL]at h;subst h;simpa using RelL.nil
 |c::cs,_,0,h=>by simpa using h
 | c::cs,_,n+1,h=>by
   simp only[RelL]at h;obtain⟨u,xs,rfl,h1,h2⟩:=h;simpa using RelL.drop n h2
theorem RelL.set:∀{ps:List V}{us:List Value}(i:Nat){p:V}{u:Value},RelL w m av R ps us->Rel w m av R p u->RelL w m av R (ps.set i p) (us.set i u)
 |[],_,n,_,_,h,_=>by simp only[RelL]at h;subst h;simpa using RelL.nil
 |c::cs,_,0,_,_,h,k=>by grind[RelL]
 | c::cs,_,n+1,_,_,h,k=>by
   simp only[RelL]at h;obtain⟨u,xs,rfl,h1,h2⟩:=h;simpa using RelL.cons h1 (RelL.set n h2 k)
theorem RelL.ofP:∀{ps:List PV}{us:List Value},RelPL w R ps us->RelL w m av R (ps.map V.pv) us
 |[],_,h=>by simpa only[RelL,RelPL,Vn]using h
 | c::cs,_,h=>by
   simp only[RelPL]at h;obtain⟨u,vs,rfl,h1,h2⟩:=h;exact RelL.cons (by simpa only[Rel]using h1) (RelL.ofP h2)
theorem RelL.toP:∀{ps:List PV}{us:List Value},RelL w m av R (ps.map V.pv) us->RelPL w R ps us
 |[],_,h=>by simpa only[RelL,RelPL,Vn]using h
 | c::cs,_,h=>by
   simp only[cd,RelL]at h;obtain⟨u,vs,rfl,h1,h2⟩:=h;exact RelPL.cons (by simpa only[Rel]using h1) (RelL.toP h2)
end
inductive Ob where
 |cells (ty:TypeId) (cs:List PV)
 |mix (ty:TypeId) (cs:List V)
 |gro (ty:TypeId) (cs:List PV)
 |mp (ks vs:List PV)
 |it (s:ByteArray) (pos:Nat)
 |fro (ty:TypeId) (s:ByteArray)
 |mi (cur ks vs:List PV)
def Ob.real:Ob->Bool
 |.gro _ []=>WA
 |_=>VA
def bM:Option Ob->Bool
 |some o=>o.real
 |none=>WA
def w8(w:World)(R:Nat->Prop)(b:Nat)(cur ks vs:List PV):Prop:=
 ∃(mb:Nat)(es:Array MapEntry)(clock:Nat)(seen:Array Nat)(l:List MapEntry),R mb/\w.heap[mb]? =UF (.map es clock)/\dT es.toList clock/\w.heap[b]? =UF (.mapIter (UF mb) clock seen clock)/\
  l.Perm (es.toList.filter λe=> !seen.contains e.born)/\RelPL w R ks (l.map (·.key))/\RelPL w R vs (l.map (·.val))/\
  (cur=[]\/∃e∈es.toList,seen.back? =UF e.born/\RelPL w R cur [e.key,e.val])
theorem w8.mono{w':World}{R':Nat->Prop}{b:Nat}{cur ks vs:List PV}(d:∀b,R b->R' b/\w'.heap[b]? =w.heap[b]?)(q:w'.heap[b]? =w.heap[b]?)(h:w8 w R b cur ks vs):w8 w' R' b cur ks vs:=by
 obtain⟨mb,es,clock,seen,l,h1,h2,h3,h4,h0,h5,h6,h7⟩:=h;refine⟨mb,es,clock,seen,l,(d _ h1).1,(d _ h1).2.trans h2,h3,q.trans h4,h0,h5.mono d,h6.mono d,?_⟩;rcases h7 with h|⟨e,h8,h9,h10⟩
 .exact .inl h
 exact .inr ⟨e,h8,h9,h10.mono d⟩
def nv(w:World)(m:Gm)(av:Av)(R:Nat->Prop)(b N:Nat):Ob->Prop
 |.cells ty cs=>∃arr:Array Value,w.heap[b]? =UF (.cells arr ty (0,0))/\arr.size=N/\cs.length<=N/\RelPL w R cs (arr.toList.take cs.length)
 |.gro ty cs=>∃arr:Array Value,w.heap[b]? =UF (.cells arr ty (0,0))/\arr.size=N/\cs.length<=N/\RelPL w R cs (arr.toList.take cs.length)
 |.mix ty cs=>∃arr:Array Value,w.heap[b]? =UF (.cells arr ty (0,0))/\arr.size=N/\cs.length<=N/\RelL w m av R cs (arr.toList.take cs.length)
 |.mp ks vs=>∃es clock,w.heap[b]? =UF (.map es clock)/\RelPL w R ks (es.toList.map (·.key))/\RelPL w R vs (es.toList.map (·.val))/\dT es.toList clock
 |.it s pos=>w.heap[b]? =UF (.stringIter s pos)
 |.mi cur ks vs=>w8 w R b cur ks vs
 |.fro ty s=>∃arr:Array Value,w.heap[b]? =UF (.cells arr ty (0,s.size))/\arr.size=N/\s.size<=N/\arr.toList.take s.size=s.data.toList.map λc=> .int .u8 c.toNat
theorem nv.mono{w':World}{R':Nat->Prop}{m m':Gm}{av av':Av}{b:Nat}{o:Ob}(q:∀b,R b->R' b/\w'.heap[b]? =w.heap[b]?)
  (r:∀id x,av id=WA->m' id=UF x->m id=UF x) (B:∀id,av id=WA->av' id=WA) (d:w'.heap[b]? =w.heap[b]?) (h:nv w m av R b N o):nv w' m' av' R' b N o:=by
 cases o with
 | cells ty cs=>
   obtain⟨arr,h1,h2,h3,h4⟩:=h;exact⟨arr,d.trans h1,h2,h3,h4.mono q⟩
 | mix ty cs=>
   obtain⟨arr,h1,h2,h3,h4⟩:=h;exact⟨arr,d.trans h1,h2,h3,h4.mono q r B⟩
 | gro ty cs=>
   obtain⟨arr,h1,h2,h3,h4⟩:=h;exact⟨arr,d.trans h1,h2,h3,h4.mono q⟩
 | mp ks vs=>
   obtain⟨es,clock,h1,h2,h3,h4⟩:=h;exact⟨es,clock,d.trans h1,h2.mono q,h3.mono q,h4⟩
 |it s pos=>exact d.trans h
 |mi cur ks vs=>exact w8.mono q d h
 |fro ty s=>obtain⟨arr,h1,h2⟩:=h;exact⟨arr,d.trans h1,h2⟩
def gInt(o:Obj):Prop:=∃(m:Int)(t:TypeId)(f:Nat×Nat),o= .cells #[.int .i64 m] t f
def gTab(k:IntKind)(zs:List Int)(o:Obj):Prop:=∃(t:TypeId)(f:Nat×Nat),o= .cells (zs.map (Value.int k)).toArray t f
def NY(o:Obj):Prop:=∃(tp:TypeId)(p:Value)(t:TypeId)(f:Nat×Nat),o= .cells #[.iface tp p] t f
def glb:List (Nat×(Obj->Prop)):=[(1,gTab .u64 [1,10,100,1000,10000,100000,1000000,10000000,100000000,1000000000,10000000000,100000000000,1000000000000,10000000000000,100000000000000,1000000000000000,10000000000000000,100000000000000000,1000000000000000000,10000000000000000000]),(0,gInt),(2,NY),(3,NY)]
def rN(w:World)(R:Nat->Prop):Prop:=∀x∈glb,R x.1/\∃o,w.heap[x.1]? =UF o/\x.2 o
theorem rN.mono{w':World}{R':Nat->Prop}(h:rN w R)(d:∀b,R b->R' b/\w'.heap[b]? =w.heap[b]?):rN w' R':=λx hx=>by
 obtain⟨h0,o,h1,h2⟩:=h x hx;exact⟨(d _ h0).1,o,(d _ h0).2.trans h1,h2⟩
structure RT(w:World)(F:Nat->Prop) where
 p:Nat->Prop
 g:rN w p
 d:∀b,p b->b<w.heap.size/\¬F b
 df:List Deferred:=[]
structure Ctx where
 P:Program
 m0:Gm
 w0:World
 F:Nat->Prop
 R0:RT w0 F
abbrev big:Nat:=9000
structure St where
 sl:Nat->V
 ob:Nat->Option Ob
 av:Av
structure Fr(F:Nat->Prop)(w w':World):Prop where
 os:w'.os=w.os
 tape:w'.tape=w.tape
 output:w'.output=w.output
 size:w.heap.size<=w'.heap.size
 block:∀k,k<w.heap.size->¬F k->w'.heap[k]? =w.heap[k]?
theorem Fr.refl(F:Nat->Prop)(w:World):Fr F w w:=⟨O,O,O,tJ _,λ_ _ _=>rfl⟩
theorem Fr.Pf{w':World}(h:Below w.heap.size w w')(F:Nat->Prop):Fr F w w':=⟨h.os,h.tape,h.output,h.size,λk hk _=>h.block k hk⟩
structure HR(C:Ctx)(m:Gm)(R:Nat->Prop)(ob:Nat->Option Ob)(av:Av)(w:World):Prop where
 dom:∀id,(m id).isSome=bM (ob id)
 free:∀id,av id=VA->ob id=UG
 obj:∀id o b N,ob id=UF o->m id=UF (b,N)->nv w m av R b N o
 inj:∀i j b N N',m i=UF (b,N)->m j=UF (b,N')->i=j
 own:∀id b N,m id=UF (b,N)->b<w.heap.size/\¬R b/\(C.F b\/C.w0.heap.size<=b)
 rsz:∀b,R b->b<w.heap.size
 rfr:∀b,R b->C.R0.p b\/C.w0.heap.size<=b\/C.F b
 r0:∀b,C.R0.p b->R b
 frame:Fr C.F C.w0 w
 gY:∀id x,big<=id->m id=UF x->C.m0 id=UF x
 res:∀id,big<=id->av id=WA
theorem HR.dfs{m0:Gm}{w0:World}{F:Nat->Prop}{R0 R1:RT w0 F}{m:Gm}{ob:Nat->Option Ob}{av:Av}(h:HR ⟨P,m0,w0,F,R0⟩ m R ob av w)(e:R1.p=R0.p):HR ⟨P,m0,w0,F,R1⟩ m R ob av w:=
 ⟨h.dom,h.free,h.obj,h.inj,h.own,h.rsz,λb hb=>by have:=h.rfr b hb;simp only[e]at this ⊢; exact this,λb hb=>h.r0 b (by simp only[e]at hb;exact hb),h.frame,h.gY,h.res⟩
theorem HR.gi{C:Ctx}{m:Gm}{ob:Nat->Option Ob}{av:Av}(h:HR C m R ob av w):rN w R:=
 C.R0.g.mono λb hb=>⟨h.r0 b hb,h.frame.block b (C.R0.d b hb).1 (C.R0.d b hb).2⟩
end
variable{m:Gm}
section
def upd{α:Type}(f:Nat->α)(d:Nat)(v:α):Nat->α:=λt=>bif Nat.beq t d then v else f t
theorem aB(f:Nat->α)(d:Nat)(v:α):upd f d v d=v:=by simp[upd]
theorem aW(f:Nat->α){d t:Nat}(v:α)(h:t≠d):upd f d v t=f t:=by grind[Nat.beq,bZ,upd]
def gl:Value->PV
 |.int k n=> .int k n
 |.bool b=> .bool b
 |.string s=> .str s
 |.slice UG 0 0=> .sl (UF VA) 0 []
 |.pointer UG=> .nilptr
 |.map UG=> .nilmap
 |.nilFunc=> .nilfn
 |.nilIface=> .niliface
 |_=> .any
def ofC:Value->PV
 |.agg cs=> .agg (cs.toList.map gl)
 |v=>gl v
theorem fU(w:World)(R:Nat->Prop):∀v,RelP w R (gl v) v:=by
 intro v;unfold gl;split<;>simp[RelP];exact⟨UG,0,⟨O,O⟩,by simp[maxLen],O,O⟩
theorem zm(w:World)(R:Nat->Prop):∀v,RelP w R (ofC v) v:=by
 intro v;unfold ofC;split
 .rename_i cs;simp only[RelP];refine⟨cs.toList,X2,?_⟩;generalize cs.toList=l;induction l with
  |nil=>simpa using RelPL.nil
  |cons x l ih=>simpa using RelPL.cons (fU w R x) ih
 exact fU w R v
def St.ev(n:Nat)(σ:St):Operand->V
 |.tmp t=>bif Nat.blt t n then σ.sl t else .pv .any
 |.const c=> .pv (ofC c)
 |.global _=> .pv .any
 |.func f=> .pv (.fn (.func f) [] [])
def St.put(σ:St)(d:Option Tmp)(v:V):St:=match d with|some d=>{ σ with sl:=upd σ.sl d v } |none=>σ
structure SW(C:Ctx)(n:Nat)(σ:St)(a:Act)(w:World)(m:Gm)(R:Nat->Prop):Prop where
 hr:HR C m R σ.ob σ.av w
 df:a.defers=C.R0.df
 sz:a.tmps.size=n
 sl:∀t,t<n->Rel w m σ.av R (σ.sl t) (a.eval (.tmp t))
def SJ(C:Ctx)(n:Nat)(σ:St)(a:Act)(w:World):Prop:=∃m R,SW C n σ a w m R
section
variable {C:Ctx}{n:Nat}{σ τ:St}{a:Act}{w:World}{m:Gm}{R:Nat->Prop}
theorem SW.ev(h:SW C n σ a w m R)(x:Operand):Rel w m σ.av R (σ.ev n x) (a.eval x):=by
 cases x with
 | tmp t=>
   by_cases ht:t<n
   .have hb:Nat.blt t n=VA:=by simpa[Wl]using ht
    simpa only[St.ev,hb,VG]using h.sl t ht
   have hb:Nat.blt t n=WA:=by cases e:Nat.blt t n;rfl;exact absurd (by simpa[Wl]using e) ht
   simp only[St.ev,hb,UZ,Rel,RelP]
 |const c=>simpa only[St.ev,Rel,Act.eval]using zm w R c
 |global g=>simp only[St.ev,Rel,RelP]
 | func f=>
   simp only[St.ev,Rel,RelP,Act.eval];exact⟨[],[],O,by simp[RelPL],by simp[RelPL]⟩
theorem yI(a:Act)(d:Nat)(u:Value)(t:Nat):(a.put (UF d) u).eval (.tmp t)=if d=t/\d<a.tmps.size then u else a.eval (.tmp t):=by
 simp only[Act.put,Act.eval,VU,Wo];by_cases h:d=t
 .grind
 simp[h]
theorem SW.put(h:SW C n σ a w m R)(d:Option Tmp){v:V}(r:Rel w m σ.av R v u):SW C n (σ.put d v) (a.put d u) w m R:=by
 cases d with
 |none=>exact h
 | some d=>
   refine⟨h.hr,h.df,by simpa[Act.put]using h.sz,λt ht=>?_⟩;rw[yI];show Rel w m σ.av R (upd σ.sl d v t) _;by_cases e:d=t
   .subst e;rw[aB,AT ⟨O,by rw[h.sz];exact ht⟩];exact r
   rw[aW _ _ (λq=>e q.symm),pF (λq=>e q.1)];exact h.sl t ht
end
structure AW(C:Ctx)(n:Nat)(c:Code)(Q:Exit->St->Prop)(σ:St):Prop where
 go:∀a w,SJ C n σ a w->c.wp C.P (λex a' w'=>∃σ',Q ex σ'/\SJ C n σ' a' w') a w
def E1(K:St->Prop)(Q:Exit->St->Prop):Exit->St->Prop
 |.normal,σ=>K σ
 |e,σ=>Q e σ
def yn(id:Nat)(Q:Exit->St->Prop):Exit->St->Prop
 |.exit id',σ=>if id'=id then Q .normal σ else Q (.exit id') σ
 |e,σ=>Q e σ
section
variable {C:Ctx}{n:Nat}{Q:Exit->St->Prop}{σ τ:St}
theorem AW.mono{Q':Exit->St->Prop}(h:AW C n c Q σ)(d:∀e s,Q e s->Q' e s):AW C n c Q' σ:=
 ⟨λa w hs=>wp_mono (h.go a w hs) λe _ _ ⟨s,q,r⟩=>⟨s,d e s q,r⟩⟩
theorem TM(h:Q .normal σ):AW C n .skip Q σ:=⟨λ_ _ hs=>wp_skip ⟨σ,h,hs⟩⟩
theorem AW.exit(h:Q (.exit id) σ):AW C n (.exit id) Q σ:=⟨λ_ _ hs=>wp_exit ⟨σ,h,hs⟩⟩
theorem AW.ret(h:Q .ret σ):AW C n .ret Q σ:=⟨λ_ _ hs=>wp_ret ⟨σ,h,hs⟩⟩
theorem TZ(h:AW C n x (E1 (AW C n y Q) Q) σ):AW C n (.seq x y) Q σ:=by
 refine⟨λa w hs=>?_⟩;refine wp_seq (wp_mono (h.go a w hs) ?_);rintro e a' w' ⟨s,q,r⟩;cases e<;>first|exact AW.go q a' w' r|exact⟨s,q,r⟩
theorem AW.block(h:AW C n c (yn id Q) σ):AW C n (.block id c) Q σ:=by
 refine⟨λa w hs=>?_⟩;refine wp_block (wp_mono (h.go a w hs) ?_);rintro e a' w' ⟨s,q,r⟩;cases e with
 | exit id'=>
   simp only[yn]at q;simp only[Exit.inBlock];split
   .grind
   grind
 |_=>exact⟨s,q,r⟩
theorem AW.k7{c:Operand}[Decidable p](hc:σ.ev n c= .pv (.bool (decide p)))(q:p->AW C n x Q σ)(r:¬p->AW C n y Q σ):AW C n (.cond c x y) Q σ:=by
 refine⟨λa w hs=>?_⟩;obtain⟨m,R,hw⟩:=hs;have d:=hw.ev c;rw[hc]at d;simp only[Rel,RelP]at d;exact wp_cond_split d (λe=>(q (V9 e)).go a w ⟨m,R,hw⟩) (λe=>(r (VY e)).go a w ⟨m,R,hw⟩)
theorem AW.cond{c:Operand}(hc:σ.ev n c= .pv (.bool b))(q:b=VA->AW C n x Q σ)(r:b=WA->AW C n y Q σ):AW C n (.cond c x y) Q σ:=by
 refine⟨λa w hs=>?_⟩;obtain⟨m,R,hw⟩:=hs;have d:=hw.ev c;rw[hc]at d;simp only[Rel,RelP]at d;exact wp_cond_split d (λe=>(q e).go a w ⟨m,R,hw⟩) (λe=>(r e).go a w ⟨m,R,hw⟩)
def St.le(σ τ:St):Prop:=∀(C:Ctx)(n:Nat)(a:Act)(w:World),SJ C n σ a w->SJ C n τ a w
theorem TN(d:σ.le τ)(h:AW C n c Q τ):AW C n c Q σ:=⟨λa w hs=>h.go a w (d C n a w hs)⟩
theorem AW.loop{X:Type}(st:X->St)(I:X->Prop)(μ:X->Nat)(x0:X)(B:σ.le (st x0))(D:I x0)
  (round:∀x,I x->AW C n c (E1 (λs=>∃x',s.le (st x')/\I x'/\μ x'<μ x) Q) (st x)):AW C n (.loop c) Q σ:=by
 refine⟨λa w hs=>?_⟩;have d:∀k x,μ x=k->I x->∀a w,SJ C n (st x) a w->∀(b:Frame)(kk:List Item)(cs:List Frame),
   ∃e a' w',(∃σ',Q e σ'/\SJ C n σ' a' w')/\Arrives C.P (lone (b.at a (.code c:: .inLoop c::kk)) cs w) b kk cs e a' w':=by
  intro k;induction k using Nat.strongRecOn with
  | _ k ih=>
    intro x hk hx a w hs b kk cs;obtain⟨e,a₁,w₁,hq,harr⟩:=(round x hx).go a w hs b (.inLoop c::kk) cs;obtain⟨s,q,r⟩:=hq;cases e with
    | normal=>
      obtain⟨x',hl,hx',hlt⟩:=q;obtain⟨e₂,a₂,w₂,hq₂,harr₂⟩:=ih (μ x') (hk▸hlt) x' O hx' a₁ w₁ (hl C n a₁ w₁ r) b kk cs;exact⟨e₂,a₂,w₂,hq₂,.of_steps (Steps.trans harr (.one step_inLoop)) harr₂⟩
    |exit id=>exact⟨_,a₁,w₁,⟨s,q,r⟩,.pass (x:=.inLoop c) O (λ_ _=> .inl X2) harr⟩
    |goto l=>exact⟨_,a₁,w₁,⟨s,q,r⟩,.pass (x:=.inLoop c) O (λ_ _=> .inl X2) harr⟩
    |ret=>exact⟨_,a₁,w₁,⟨s,q,r⟩,.pass (x:=.inLoop c) O (λ_ _=> .inl X2) harr⟩
    |panic ch=>exact⟨_,a₁,w₁,⟨s,q,r⟩,.pass (x:=.inLoop c) O (λ_ _=> .inl X2) harr⟩
    |outgrown=>exact⟨_,a₁,w₁,⟨s,q,r⟩,.pass (x:=.inLoop c) O (λ_ _=> .inl X2) harr⟩
 intro b kk cs;obtain⟨e,a',w',hq,harr⟩:=d _ x0 O D a w (B C n a w hs) b kk cs;exact⟨e,a',w',hq,.of_steps (.one step_loop) harr⟩
end
def OJ(C:Ctx)(n:Nat)(o:Oper)(K:St->Prop)(σ:St):Prop:=
 ∀a w Q,SJ C n σ a w->o.wp C.P a w (λa' w'=>∃σ',K σ'/\SJ C n σ' a' w') Q
structure OS where
 v:V
 wr:List (Nat×Option Ob):=[]
 nw:List Nat:=[]
def obL:List (Nat×Option Ob)->(Nat->Option Ob)->Nat->Option Ob
 |[],f,id=>f id
 |(i,o)::l,f,id=>bif Nat.beq id i then o else obL l f id
def avL:List Nat->Av->Av
 |[],f,id=>f id
 |i::l,f,id=>bif Nat.beq id i then WA else avL l f id
def St.app(σ:St)(d:Option Tmp)(s:OS):St:=
 { sl:=match d with|some d=>upd σ.sl d s.v|none=>σ.sl,ob:=obL s.wr σ.ob,av:=avL s.nw σ.av }
def XJ(C:Ctx)(n:Nat)(o:Oper)(σ:St)(s:OS):Prop:=OJ C n o (λτ=>τ=σ.app o.dst s) σ
def V.gd:V->Option (Option Bool)
 |.pv (.bool b)=>UF (UF b)
 |.pv (.tup [])=>UF UG
 |_=>UG
abbrev und:V:=.pv (.tup [])
theorem Fy(w:World)(m:Gm)(av:Av)(R:Nat->Prop):Rel w m av R und undef:=by
 simp only[und,Rel,RelP];exact⟨[],O,RelPL.nil⟩
theorem V.vv{v:V}(h:v= .pv (.bool b)):v.gd=UF (UF b):=by rw[h];rfl
def SK(C:Ctx)(n:Nat)(o:Oper)(K:St->Prop)(σ:St):Prop:=∀a w,SJ C n σ a w->∃s,K s/\SJ C n s (a.put o.dst undef) w
def RL(C:Ctx)(n:Nat)(ops:Array Oper):List Oper->(St->Prop)->St->Prop
 |[],K,σ=>K σ
 | o::os,K,σ=>
   match o.guard with
   |none=>OJ C n o (RL C n ops os K) σ
   |some (j,want)=>∃b,(∀a w,SJ C n σ a w->yielded ops a.tmps j=b)/\(b=UF want->OJ C n o (RL C n ops os K) σ)/\(b≠UF want->SK C n o (RL C n ops os K) σ)
section
variable {C:Ctx}{n:Nat}{Q:Exit->St->Prop}{σ τ:St}{ops:Array Oper}
theorem OJ.mono{o:Oper}{K K':St->Prop}(h:OJ C n o K σ)(d:∀s,K s->K' s):OJ C n o K' σ:=
 λa w Q hs=>Oper.wp_mono (λ_ _ ⟨s,q,r⟩=>⟨s,d s q,r⟩) (h a w Q hs)
theorem T5(h:SW C n σ a w m R){j:Nat}{b:Option Bool}(q:(σ.ev n (.tmp (((ops[j]?).bind (·.dst)).getD n))).gd=UF b):yielded ops a.tmps j=b:=by
 have B:=h.ev (.tmp (((ops[j]?).bind (·.dst)).getD n));generalize σ.ev n (.tmp (((ops[j]?).bind (·.dst)).getD n))=v at q B;have r:∃u,a.eval (.tmp (((ops[j]?).bind (·.dst)).getD n))=u/\((∃c,u= .bool c/\b=UF c)\/(u=undef/\b=UG)):=by
  unfold V.gd at q;split at q
  .grind[Uo,Rel,RelP]
  .simp only[Uo]at q;simp only[Rel,RelP]at B;obtain⟨us,hu,hr⟩:=B;simp only[RelPL]at hr;subst hr;exact⟨_,hu,.inr ⟨O,q.symm⟩⟩
  cases q
 obtain⟨u,hu,hb⟩:=r;simp only[Act.eval]at hu;unfold yielded;cases hd:(ops[j]?).bind (·.dst)with
 | none=>
   rw[hd]at hu;simp only[Option.getD_none,VU]at hu;rw[Array.getElem?_eq_none (by have:=h.sz;omega)]at hu;simp at hu;subst hu;rcases hb with⟨c,hc,_⟩|⟨_,rfl⟩
   .simp[undef]at hc
   .rfl
 | some d=>
   rw[hd]at hu;simp only[Ww,VU]at hu;simp only[Option.bind_some];cases ht:a.tmps[d]? with
   | none=>
     rw[ht]at hu;simp at hu;subst hu;rcases hb with⟨c,hc,_⟩|⟨_,rfl⟩
     .simp[undef]at hc
     .rfl
   | some u'=>
     rw[ht]at hu;simp at hu;subst hu;rcases hb with⟨c,rfl,rfl⟩|⟨rfl,rfl⟩<;>rfl
theorem RL.sound(K:St->Prop):∀(os:List Oper)(k:Nat)(σ:St),ops.toList.drop k=os->RL C n ops os K σ->∀a w,SJ C n σ a w->∀Q:Exit->Act->World->Prop,
  (∀a w,(∃s,K s/\SJ C n s a w)->Q .normal a w)->wpOps C.P ops Q (List.range' k (ops.size-k)) a w:=by
 intro os;induction os with
 | nil=>
   intro k σ hd h a w hs Q hQ;have:ops.size-k=0:=by simp_all
   rw[this];simp only[List.range'_zero,wpOps];exact hQ a w ⟨σ,h,hs⟩
 | cons o os ih=>
   intro k σ hd h a w hs Q hQ;have q:k<ops.size:=by
    have:=ah List.length hd;simp at this;omega
   have r:ops[k]? =UF o:=by
    have:=ah (·[0]?) hd;simpa using this
   have B:ops.toList.drop (k+1)=os:=by
    have:=ah (List.drop 1) hd;simpa[WZ]using this
   have e:ops.size-k=(ops.size-(k+1))+1:=XX;rw[e,List.range'_succ];have d:∀a' w',(∃s,RL C n ops os K s/\SJ C n s a' w')->wpOps C.P ops Q (List.range' (k+1) (ops.size-(k+1))) a' w':=by grind
   simp only[wpOps,r];simp only[RL]at h;cases hg:o.guard with
   | none=>
     rw[hg]at h;simp only[Region.wanted,hg,XO];exact .inl (Oper.wp_mono d (h a w Q hs))
   | some jw=>
     obtain⟨j,want⟩:=jw;rw[hg]at h;obtain⟨b,hb,h1,h2⟩:=h;have D:=hb a w hs;simp only[Region.wanted,hg,D];by_cases hbw:b=UF want
     .subst hbw;simp only[Vh,XO];exact .inl (Oper.wp_mono d (h1 O a w Q hs))
     have:(b==UF want)=WA:=by simpa using hbw
     simp only[this,Vv,XR];exact d _ _ (h2 hbw a w hs)
theorem AW.region(h:RL C n ops ops.toList (Q .normal) σ):AW C n (.region id ops WA) Q σ:=by
 refine⟨λa w hs=>?_⟩;refine wp_region ?_;have:=RL.sound (Q .normal) ops.toList 0 σ X2 h a w hs (λex a' w'=>∃σ',Q ex σ'/\SJ C n σ' a' w') (λ_ _ x=>x);rw[List.range_eq_range'];simpa using this
theorem RL.step{o:Oper}{os:List Oper}{K:St->Prop}{s:OS}{d:Option Tmp}(q:o.guard=UG)(r:o.dst=d)(B:XJ C n o σ s)(h:RL C n ops os K (σ.app d s)):RL C n ops (o::os) K σ:=by
 subst r;simp only[RL,q];exact B.mono λ_ e=>e▸h
theorem RL.stepG{o:Oper}{os:List Oper}{K:St->Prop}{s:OS}{d:Option Tmp}{j:Nat}{want:Bool}(q:o.guard=UF (j,want))(r:o.dst=d)(B:σ.ev n (.tmp (((ops[j]?).bind (·.dst)).getD n))= .pv (.bool want))
  (D:XJ C n o σ s) (h:RL C n ops os K (σ.app d s)):RL C n ops (o::os) K σ:=by
 subst r;simp only[RL,q];exact⟨UF want,λa w ⟨m,R,hw⟩=>T5 hw (V.vv B),λ_=>D.mono λ_ e=>e▸h,λe=>absurd O e⟩
theorem RL.call{o:Oper}{os:List Oper}{K:St->Prop}(d:o.guard=UG)(h:OJ C n o (RL C n ops os K) σ):RL C n ops (o::os) K σ:=by
 simp only[RL,d];exact h
end
end
section
theorem St.jc(σ:St)(d:Option Tmp)(v:V):σ.app d ⟨v,[],[]⟩=σ.put d v:=by
 cases d<;>rfl
section
variable {C:Ctx}{n:Nat}{σ:St}{dst:Option Tmp}{ty t t':TypeId}{pos:String}{after:Array Edge}{gd:Option (Nat×Bool)}{x y:Operand}
theorem XJ.val{o:Oper}{v:V}(h:∀a w m R,SW C n σ a w m R->∃u,(execOp a.eval o).run C.P w= .ok (.value u) w/\Rel w m σ.av R v u):XJ C n o σ ⟨v,[],[]⟩:=by
 rintro a w Q ⟨m,R,hw⟩;obtain⟨u,hrun,hrel⟩:=h a w m R hw;unfold Oper.wp;rw[hrun];exact⟨_,O,m,R,St.jc σ o.dst v▸hw.put o.dst hrel⟩
theorem nV:XJ C n ⟨dst,.move x,ty,pos,after,gd⟩ σ ⟨σ.ev n x,[],[]⟩:=
 .val λa w m R hw=>⟨a.eval x,O,hw.ev x⟩
theorem Gn:XJ C n ⟨dst,.assign x,ty,pos,after,gd⟩ σ ⟨σ.ev n x,[],[]⟩:=
 .val λa w m R hw=>⟨a.eval x,O,hw.ev x⟩
theorem SW.pv(h:SW C n σ a w m R){x:Operand}{p:PV}(d:σ.ev n x= .pv p):RelP w R p (a.eval x):=by
 have:=h.ev x;rw[d]at this;simpa only[Rel]using this
theorem SW.int(h:SW C n σ a w m R){x:Operand}{k:IntKind}(d:σ.ev n x= .pv (.int k i)):a.eval x= .int k i:=by
 simpa only[RelP]using h.pv d
theorem SW.bool(h:SW C n σ a w m R){x:Operand}(d:σ.ev n x= .pv (.bool b)):a.eval x= .bool b:=by
 simpa only[RelP]using h.pv d
theorem SW.str(h:SW C n σ a w m R){x:Operand}{s:ByteArray}(d:σ.ev n x= .pv (.str s)):a.eval x= .string s:=by
 simpa only[RelP]using h.pv d
theorem QA{c x y:Operand}(hc:σ.ev n c= .pv (.bool b)):XJ C n ⟨dst,.pick c x y,ty,pos,after,gd⟩ σ ⟨bif b then σ.ev n x else σ.ev n y,[],[]⟩:=
 .val λa w m R hw=>by
  refine⟨bif b then a.eval x else a.eval y,?_,?_⟩
  .simp only[execOp,hw.bool hc,asBool];cases b<;>rfl
  cases b
  .exact hw.ev y
  exact hw.ev x
def yf:PV->Value
 |.int k n=> .int k n
 |.bool b=> .bool b
 |.str s=> .string s
 |_=>undef
def PV.scal:PV->Bool
 |.int _ _|.bool _|.str _=>VA
 |_=>WA
theorem XJ.lit{o:Oper}{p:PV}(d:p.scal=VA)(h:∀a w m R,SW C n σ a w m R->(execOp a.eval o).run C.P w= .ok (.value (yf p)) w):XJ C n o σ ⟨.pv p,[],[]⟩:=
 .val λa w m R hw=>⟨yf p,h a w m R hw,by cases p<;>simp[PV.scal]at d<;>simp only[Rel,RelP,yf]⟩
def yh(op:BinOp)(k:IntKind)(a b:Int):Option PV:=
 match op with
 |.add=>UF (.int k (k.wrap (a+b)))
 |.sub=>UF (.int k (k.wrap (a-b)))
 |.mul=>UF (.int k (k.wrap (a*b)))
 |.eql=>UF (.bool (a==b))
 |.neq=>UF (.bool (a !=b))
 |.lss=>UF (.bool (decide (a<b)))
 |.leq=>UF (.bool (decide (a<=b)))
 |.gtr=>UF (.bool (decide (a>b)))
 |.geq=>UF (.bool (decide (a>=b)))
 |.and=>UF (.int k (k.wrap (BitVec.ofInt k.bits a&&&BitVec.ofInt k.bits b).toNat))
 |.or=>UF (.int k (k.wrap (BitVec.ofInt k.bits a|||BitVec.ofInt k.bits b).toNat))
 |.xor=>UF (.int k (k.wrap (BitVec.ofInt k.bits a^^^BitVec.ofInt k.bits b).toNat))
 |.andNot=>UF (.int k (k.wrap (BitVec.ofInt k.bits a&&& ~~~ (BitVec.ofInt k.bits b)).toNat))
 |_=>UG
theorem aD{op:BinOp}{k:IntKind}{p:PV}(B:σ.ev n x= .pv (.int k i))(D:σ.ev n y= .pv (.int k j))(d:yh op k i j=UF p):
  XJ C n ⟨dst,.binOp op t x y t',ty,pos,after,gd⟩ σ ⟨.pv p,[],[]⟩:=
 .lit (by cases op<;>simp only[yh,Uo,reduceCtorEq]at d<;>subst d<;>rfl) λa w m R hw=>by
  have q:=hw.int B;have r:=hw.int D;cases op<;>simp only[yh,Uo,reduceCtorEq]at d<;>subst d<;>
   simp[execOp,q,r,eqGuard,binOp,Op.intArith,Op.intCmp,Op.intBits,yf]
theorem eF(h: -9223372036854775808<=i/\i<=9223372036854775807):IntKind.i64.wrap i=i:=IntWalk.i64_in _ h
theorem kM(d:σ.ev n x= .pv (.int .i64 i))(q:σ.ev n y= .pv (.int .i64 j))(h: -9223372036854775808<=i+j/\i+j<=9223372036854775807):
  XJ C n ⟨dst,.binOp .add t x y t',ty,pos,after,gd⟩ σ ⟨.pv (.int .i64 (i+j)),[],[]⟩:=
 aD d q (by simp only[yh,eF h])
theorem N1(d:σ.ev n x= .pv (.int .i64 i))(q:σ.ev n y= .pv (.int .i64 j))(h: -9223372036854775808<=i-j/\i-j<=9223372036854775807):
  XJ C n ⟨dst,.binOp .sub t x y t',ty,pos,after,gd⟩ σ ⟨.pv (.int .i64 (i-j)),[],[]⟩:=
 aD d q (by simp only[yh,eF h])
theorem Cq(d:σ.ev n x= .pv (.int .i64 i))(q:σ.ev n y= .pv (.int .i64 j))(h: -9223372036854775808<=i*j/\i*j<=9223372036854775807):
  XJ C n ⟨dst,.binOp .mul t x y t',ty,pos,after,gd⟩ σ ⟨.pv (.int .i64 (i*j)),[],[]⟩:=
 aD d q (by simp only[yh,eF h])
theorem dw{k:IntKind}(d:σ.ev n x= .pv (.int k i))(q:σ.ev n y= .pv (.int k j))(h:j≠0):
  XJ C n ⟨dst,.binOp .quo t x y t',ty,pos,after,gd⟩ σ ⟨.pv (.int k (k.wrap (i.tdiv j))),[],[]⟩:=
 .lit O λa w m R hw=>by simp[execOp,hw.int d,hw.int q,eqGuard,binOp,Op.intDiv,h,yf]
theorem fp{k:IntKind}(d:σ.ev n x= .pv (.int k i))(q:σ.ev n y= .pv (.int k j))(h:j≠0):
  XJ C n ⟨dst,.binOp .rem t x y t',ty,pos,after,gd⟩ σ ⟨.pv (.int k (i.tmod j)),[],[]⟩:=
 .lit O λa w m R hw=>by simp[execOp,hw.int d,hw.int q,eqGuard,binOp,Op.intDiv,h,yf]
theorem Tq{k k':IntKind}(d:σ.ev n x= .pv (.int k i))(q:σ.ev n y= .pv (.int k' j))(h:0<=j):
  XJ C n ⟨dst,.binOp .shl t x y t',ty,pos,after,gd⟩ σ ⟨.pv (.int k (k.wrap (i*2^(min j.toNat k.bits)))),[],[]⟩:=
 .lit O λa w m R hw=>by simp[execOp,hw.int d,hw.int q,eqGuard,binOp,Op.shift,Int.not_lt.2 h,yf]
theorem Tg{k k':IntKind}(d:σ.ev n x= .pv (.int k i))(q:σ.ev n y= .pv (.int k' j))(h:0<=j):
  XJ C n ⟨dst,.binOp .shr t x y t',ty,pos,after,gd⟩ σ ⟨.pv (.int k (i.fdiv (2^(min j.toNat k.bits)))),[],[]⟩:=
 .lit O λa w m R hw=>by simp[execOp,hw.int d,hw.int q,eqGuard,binOp,Op.shift,Int.not_lt.2 h,yf]
def Ul(op:BinOp)(a b:ByteArray):Option PV:=
 match op with
 |.eql=>UF (.bool (a.toList==b.toList))
 |.neq=>UF (.bool !(a.toList==b.toList))
 |.lss=>UF (.bool (Op.bytesLess a.toList b.toList))
 |.leq=>UF (.bool (Op.bytesLess a.toList b.toList||a.toList==b.toList))
 |.gtr=>UF (.bool !(Op.bytesLess a.toList b.toList||a.toList==b.toList))
 |.geq=>UF (.bool !(Op.bytesLess a.toList b.toList))
 |_=>UG
theorem cJ{op:BinOp}{i j:ByteArray}{p:PV}(B:σ.ev n x= .pv (.str i))(D:σ.ev n y= .pv (.str j))(d:Ul op i j=UF p):
  XJ C n ⟨dst,.binOp op t x y t',ty,pos,after,gd⟩ σ ⟨.pv p,[],[]⟩:=
 .lit (by cases op<;>simp only[Ul,Uo,reduceCtorEq]at d<;>subst d<;>rfl) λa w m R hw=>by
  have q:=hw.str B;have r:=hw.str D;cases op<;>simp only[Ul,Uo,reduceCtorEq]at d<;>subst d<;>
   simp[execOp,q,r,eqGuard,binOp,Op.stringOp,yf]
theorem T4 {op:BinOp} {k:IntKind}   (d:σ.ev n x= .pv (.int k i)) (q:σ.ev n y= .pv (.int k j)) (r:yh op k i j=UF (.bool b)) (h:b=VA):
  XJ C n ⟨dst,.binOp op t x y t',ty,pos,after,gd⟩ σ ⟨.pv (.bool VA),[],[]⟩:=h▸aD d q r
theorem T6 {op:BinOp} {k:IntKind}   (d:σ.ev n x= .pv (.int k i)) (q:σ.ev n y= .pv (.int k j)) (r:yh op k i j=UF (.bool b)) (h:b=WA):
  XJ C n ⟨dst,.binOp op t x y t',ty,pos,after,gd⟩ σ ⟨.pv (.bool WA),[],[]⟩:=h▸aD d q r
theorem Ub {op:BinOp} {i j:ByteArray}  (d:σ.ev n x= .pv (.str i)) (q:σ.ev n y= .pv (.str j)) (r:Ul op i j=UF (.bool b)) (h:b=VA):
  XJ C n ⟨dst,.binOp op t x y t',ty,pos,after,gd⟩ σ ⟨.pv (.bool VA),[],[]⟩:=h▸cJ d q r
theorem T9 {op:BinOp} {i j:ByteArray}  (d:σ.ev n x= .pv (.str i)) (q:σ.ev n y= .pv (.str j)) (r:Ul op i j=UF (.bool b)) (h:b=WA):
  XJ C n ⟨dst,.binOp op t x y t',ty,pos,after,gd⟩ σ ⟨.pv (.bool WA),[],[]⟩:=h▸cJ d q r
theorem sI{i j:ByteArray}(d:σ.ev n x= .pv (.str i))(q:σ.ev n y= .pv (.str j))(h:i.size+j.size<=9223372036854775807):
  XJ C n ⟨dst,.binOp .add t x y t',ty,pos,after,gd⟩ σ ⟨.pv (.str (i++j)),[],[]⟩:=
 .val λa w m R hw=>⟨.string (i++j),by
  have r:IntKind.i64.max=9223372036854775807:=XZ;simp[execOp,hw.str d,hw.str q,eqGuard,binOp,Op.stringOp];omega,by simp only[Rel,RelP]⟩
theorem Pv{i j:Bool}(d:C.P.underlying t=UF .bool)(q:σ.ev n x= .pv (.bool i))(r:σ.ev n y= .pv (.bool j)):
  XJ C n ⟨dst,.binOp .eql t x y t',ty,pos,after,gd⟩ σ ⟨.pv (.bool (i==j)),[],[]⟩:=
 .val λa w m R hw=>⟨.bool (i==j),by
  simp[execOp,hw.bool q,hw.bool r,eqGuard,run_eql_bool _ _ _ _ d],by simp only[Rel,RelP]⟩
theorem Ph{i j:Bool}(d:C.P.underlying t=UF .bool)(q:σ.ev n x= .pv (.bool i))(r:σ.ev n y= .pv (.bool j)):
  XJ C n ⟨dst,.binOp .neq t x y t',ty,pos,after,gd⟩ σ ⟨.pv (.bool (i !=j)),[],[]⟩:=
 .val λa w m R hw=>⟨.bool (i !=j),by
  simp[execOp,hw.bool q,hw.bool r,eqGuard,run_neq_bool _ _ _ _ d];cases i<;>cases j<;>rfl,by simp only[Rel,RelP]⟩
theorem G3{cs:List PV}(q:C.P.underlying t=UF (.slice e))(r:σ.ev n x= .pv (.sl (UF b) k cs)):
  XJ C n ⟨dst,.binOp .eql t x (.const (.slice UG 0 0)) t',ty,pos,after,gd⟩ σ ⟨.pv (.bool b),[],[]⟩:=
 .val λa w m R hw=>by
  have:=hw.pv r;simp only[RelP]at this;obtain⟨A,c,e,_,_,d,_⟩:=this;have d:=d b O;have hc:a.eval (.const (.slice UG 0 0))= .slice UG 0 0:=rfl;exact⟨.bool b,by simp[execOp,e,eqGuard,binOp,hc,run_equal_slice_nil _ _ _ _ _ _ q,d],by simp only[Rel,RelP]⟩
theorem H3{cs:List PV}(q:C.P.underlying t=UF (.slice e))(r:σ.ev n x= .pv (.sl (UF b) k cs)):
  XJ C n ⟨dst,.binOp .neq t x (.const (.slice UG 0 0)) t',ty,pos,after,gd⟩ σ ⟨.pv (.bool (!b)),[],[]⟩:=
 .val λa w m R hw=>by
  have:=hw.pv r;simp only[RelP]at this;obtain⟨A,c,e,_,_,d,_⟩:=this;have d:=d b O;have hc:a.eval (.const (.slice UG 0 0))= .slice UG 0 0:=rfl;exact⟨.bool (!b),by simp[execOp,e,eqGuard,binOp,hc,run_equal_slice_nil _ _ _ _ _ _ q,d],by simp only[Rel,RelP]⟩
theorem Tx(d:σ.ev n x= .pv (.bool b)):XJ C n ⟨dst,.unOp .not t x,ty,pos,after,gd⟩ σ ⟨.pv (.bool (!b)),[],[]⟩:=
 .val λa w m R hw=>⟨.bool (!b),by simp[execOp,hw.bool d,Op.unary],by simp only[Rel,RelP]⟩
theorem NM(d:σ.ev n x= .pv (.int .i64 i))(h: -9223372036854775807<=i)(q:i<=9223372036854775807):XJ C n ⟨dst,.unOp .neg t x,ty,pos,after,gd⟩ σ ⟨.pv (.int .i64 (-i)),[],[]⟩:=
 .val λa w m R hw=>⟨.int .i64 (-i),by
  have:=eF (i:= -i) XX;simp[execOp,hw.int d,Op.unary,Op.intArith,this],by simp only[Rel,RelP]⟩
theorem jk{k k':IntKind}{src d:TypeId}{sd:TypeDesc}(q:C.P.underlying src=UF sd)(r:C.P.underlying d=UF (.int k'))(B:σ.ev n x= .pv (.int k i)):
  XJ C n ⟨dst,.convert src d x,ty,pos,after,gd⟩ σ ⟨.pv (.int k' (k'.wrap i)),[],[]⟩:=
 .val λa w m R hw=>⟨.int k' (k'.wrap i),by
  simp only[execOp,hw.int B,convert,Sem.run_bind,run_underlying q,run_underlying r,Result.andThen_ok];cases sd<;>simp[Conv.intToInt],by simp only[Rel,RelP]⟩
theorem cF{ps:List PV}{p:PV}{i:Nat}(d:σ.ev n x= .pv (.tup ps))(q:ps[i]? =UF p):XJ C n ⟨dst,.extract x i,ty,pos,after,gd⟩ σ ⟨.pv p,[],[]⟩:=
 .val λa w m R hw=>by
  have:=hw.pv d;simp only[RelP]at this;obtain⟨us,e,hl⟩:=this;obtain⟨u,hu,hr⟩:=hl.get q;exact⟨u,by simp[execOp,e,Instr.extract,hu],by simpa only[Rel]using hr⟩
theorem DI{ps:List V}{p:V}{i:Nat}(d:σ.ev n x= .tup ps)(q:ps[i]? =UF p):XJ C n ⟨dst,.extract x i,ty,pos,after,gd⟩ σ ⟨p,[],[]⟩:=
 .val λa w m R hw=>by
  have:=hw.ev x;rw[d]at this;simp only[Rel]at this;obtain⟨us,e,hl⟩:=this;obtain⟨u,hu,hr⟩:=hl.get q;exact⟨u,by simp[execOp,e,Instr.extract,hu],hr⟩
theorem J1{s:ByteArray}(d:C.P.underlying t=UF .string)(q:σ.ev n x= .pv (.str s)):
  XJ C n ⟨dst,.call { callee:=.builtin .len,args:= #[x],argTypes:= #[t] },ty,pos,after,gd⟩ σ ⟨.pv (.int .i64 s.size),[],[]⟩:=
 .val λa w m R hw=>⟨.int .i64 s.size,by simp[execOp,resolve,invoke,builtin,Builtin.len_,hw.str q,run_underlying d,goInt],by simp only[Rel,RelP]⟩
theorem R4{b:Option Bool}{cs:List PV}(d:C.P.underlying t=UF (.slice e))(q:σ.ev n x= .pv (.sl b k cs)):
  XJ C n ⟨dst,.call { callee:=.builtin .len,args:= #[x],argTypes:= #[t] },ty,pos,after,gd⟩ σ ⟨.pv (.int .i64 k),[],[]⟩:=
 .val λa w m R hw=>by
  have:=hw.pv q;simp only[RelP]at this;obtain⟨A,c,e,_⟩:=this;exact⟨.int .i64 k,by simp[execOp,resolve,invoke,builtin,Builtin.len_,e,run_underlying d,goInt],by simp only[Rel,RelP]⟩
theorem PJ{o:Ob}(r:C.P.underlying t=UF (.slice e))(B:σ.ev n x= .osl id sz k)(D:σ.ob id=UF o)(q:o.real=VA:=by rfl):
  XJ C n ⟨dst,.call { callee:=.builtin .len,args:= #[x],argTypes:= #[t] },ty,pos,after,gd⟩ σ ⟨.pv (.int .i64 k),[],[]⟩:=
 .val λa w m R hw=>by
  have:=hw.ev x;rw[B]at this;simp only[Rel]at this;have d:=hw.hr.dom id;rw[D]at d;replace d:=d.trans q;obtain⟨⟨b,N⟩,hm⟩:=UP.1 d;obtain⟨c,e,_⟩:=this.2 b N hm;exact⟨.int .i64 k,by simp[execOp,resolve,invoke,builtin,Builtin.len_,e,run_underlying r,goInt],by simp only[Rel,RelP]⟩
theorem Pq(d:C.P.underlying t=UF (.slice e))(q:σ.ev n x= .gsl id sz k):
  XJ C n ⟨dst,.call { callee:=.builtin .len,args:= #[x],argTypes:= #[t] },ty,pos,after,gd⟩ σ ⟨.pv (.int .i64 k),[],[]⟩:=
 .val λa w m R hw=>by
  have:=hw.ev x;rw[q]at this;simp only[Rel]at this;obtain⟨_,A,c,e,_⟩:=this;exact⟨.int .i64 k,by simp[execOp,resolve,invoke,builtin,Builtin.len_,e,run_underlying d,goInt],by simp only[Rel,RelP]⟩
theorem Ce{k:IntKind}(d:σ.ev n x= .pv (.int k i))(q:σ.ev n y= .pv (.int k j)):
  XJ C n ⟨dst,.call { callee:=.builtin .max,args:= #[x,y],argTypes:= #[t,t'] },ty,pos,after,gd⟩ σ ⟨.pv (.int k (if j>i then j else i)),[],[]⟩:=
 .val λa w m R hw=>⟨.int k (if j>i then j else i),by simp[execOp,resolve,invoke,builtin,Builtin.max_,Builtin.max2,hw.int d,hw.int q],by simp only[Rel,RelP]⟩
theorem tv{k:IntKind}(d:σ.ev n x= .pv (.int k i))(q:σ.ev n y= .pv (.int k j)):
  XJ C n ⟨dst,.call { callee:=.builtin .min,args:= #[x,y],argTypes:= #[t,t'] },ty,pos,after,gd⟩ σ ⟨.pv (.int k (if j<i then j else i)),[],[]⟩:=
 .val λa w m R hw=>⟨.int k (if j<i then j else i),by simp[execOp,resolve,invoke,builtin,Builtin.min_,Builtin.min2,hw.int d,hw.int q],by simp only[Rel,RelP]⟩
end
end
section
def Row(w:World)(R:Nat->Prop)(A:Option Addr)(xs:List Value):Prop:=
 xs≠[]->∃b off:Nat,A=UF ⟨b,off,UG⟩/\R b/\b<w.heap.size/\∀j,j<xs.length->w.cell? ⟨b,off+j,UG⟩=xs[j]?
abbrev PC(l:List ByteArray):List Value:=l.map Value.string
def Any(_:Nat):Prop:=True
section
variable {w w':World}{R R':Nat->Prop}{A:Option Addr}{xs:List Value}
theorem Row.nil:Row w R A []:=λh=>absurd O h
theorem Row.at_(h:Row w R A xs)(d:k<xs.length):
  ∃b off:Nat,A=UF ⟨b,off,UG⟩/\R b/\b<w.heap.size/\∀j,j<xs.length->w.cell? ⟨b,off+j,UG⟩=xs[j]? :=
 h (by rintro rfl;simp at d)
theorem Row.N7{l:List ByteArray}(h:Row w R A (PC l)){k:Nat}(d:k<l.length):
  ∃b off:Nat,A=UF ⟨b,off,UG⟩/\b<w.heap.size/\w.cell? ⟨b,off+k,UG⟩=UF (.string l[k]):=by
 obtain⟨b,off,e,_,hb,hc⟩:=h.at_ (k:=k) (by simpa using d);exact⟨b,off,e,hb,by rw[hc k (by simpa using d)];simp[d]⟩
theorem Row.gY(h:Row w R A xs)(r:w.heap.size<=w'.heap.size)
  (q:∀b off,A=UF ⟨b,off,UG⟩->R b->b<w.heap.size->w'.heap[b]? =w.heap[b]?):Row w' R A xs:=by
 intro hne;obtain⟨b,off,rfl,hR,hlt,hc⟩:=h hne;have d:=q b off O hR hlt;exact⟨b,off,O,hR,XX,λj hj=>by rw[World.cell?_of_block (w:=w) (a:=⟨b,off+j,UG⟩) d];exact hc j hj⟩
theorem Row.alloc(h:Row w R A xs)(o:Obj):Row (w.alloc o) R A xs:=
 h.gY X2 λb _ _ _ hlt=>Below.heap_alloc w o b hlt
end
theorem w7{base:Nat}{v:Value}{xs:List Value}(h:w.ownsRow base e size v n xs):∃A c,v= .slice A n c/\n<=c/\c<=maxLen:=by
 rcases h.2 with⟨rfl,rfl⟩|⟨g,cap,cur,rfl,_,_,hnc,hm,_⟩
 .grind
 exact⟨_,cap,O,hnc,hm⟩
theorem rC{W:World}{o:Oper}{K:Act->World->Prop}{Q:Exit->Act->World->Prop}(s x:Operand)(t:TypeId)
  (E:o.op= .call { callee:=.builtin .append,args:= #[s,x],argTypes:= #[t,t] })
  (base:Nat) (e:TypeId) (z:Value) (size bytes:Nat) (ht:P.underlying t=UF (.slice e)) (hinfo:(P.info? e).map (λi=>(i.zero,i.size,i.bytes))=UF (UF z,size,bytes))
  (hzs:z.cells.size=size) (hsz:0<size) (hby:bytes<=1000)
  (v:Value) (n m c:Nat) (A:Option Addr) (xs news:List Value) (hs:a.eval s=v) (hx:a.eval x= .slice A m c) (hown:W.ownsRow base e size v n xs) {R:Nat->Prop} (hr:Row W R A news)
  (hl:news.length=m*size) (h1:∀u∈news,u.oneCell'=VA) (hb:n+m<=1000000000) (hbase:base<=W.heap.size)
  (h:∀A' c' w',w'.ownsRow base e size (.slice A' (n+m) c') (n+m) (xs++news)->W.grownBy w' v.ownBlock->((Value.slice A' (n+m) c').ownBlock=v.ownBlock\/∃g,(Value.slice A' (n+m) c').ownBlock=UF g/\W.heap.size<=g)->K (a.put o.dst (.slice A' (n+m) c')) w'):
  o.wp P a W K Q:=by
 obtain⟨i,hi,hz,hsize,hbytes⟩:=info_parts hinfo;have r:(n+m)*bytes<=140737488355328:=AI (Va hb hby) XZ;unfold Oper.wp execOp;cases A with
 | none=>
   have B:news=[]:=by
    rcases Classical.em (news=[])with h0|h0
    .exact h0
    obtain⟨b,off,hh,_⟩:=hr h0;cases hh
   subst B;have G:m=0:=by
    rcases Ve m with h0|h0
    .exact h0
    have:=XL h0 hsz;simp at hl;omega
   subst G;have d:(Builtin.append_ #[t,t] o.type #[v,.slice UG 0 c]).run P W= .ok v W:=by
    rcases hown.2 with⟨rfl,rfl⟩|⟨g,cap,cur,rfl,_,_,hnc,_⟩
    .simp[Builtin.append_,run_underlying ht,sizeOf,typeInfo,hi,Builtin.lenOf,Builtin.firstCells]
    simp[Builtin.append_,run_underlying ht,sizeOf,typeInfo,hi,Builtin.lenOf,Builtin.firstCells,hnc,storeCells]
   simp only[E,resolve,invoke,builtin,Sem.run_bind,Sem.run_pure,Result.andThen_ok,Xb,cd,Vn,hs,hx,d];obtain⟨A',c',rfl,_,_⟩:=w7 hown;exact h A' c' W (by simpa using hown) (World.grownBy.refl _ _) (.inl O)
 | some ad=>
   have q:∀j u,news[j]? =UF u->W.cell? (ad.add j)=UF u:=by
    intro j u hu;have D:j<news.length:=(RE.1 hu).1;obtain⟨b,off,hh,_,_,hc⟩:=hr (by rintro rfl;simp at D);cases hh;rw[Addr.add_lit,hc j D];exact hu
   obtain⟨v',w',d,h2,h3,_,h5⟩:=run_append_own_at (P:=P) W base t o.type e i z size bytes ht hi hz hsize hbytes hzs hsz v n xs hown ad m c news
    hl q h1 (by simp only[maxLen];omega) r hbase
   simp only[E,resolve,invoke,builtin,Sem.run_bind,Sem.run_pure,Result.andThen_ok,Xb,cd,Vn,hs,hx,d];obtain⟨A',c',rfl,_,_⟩:=w7 h2;refine h A' c' w' h2 h3 ?_;rcases h5 with h5|h5
   .exact .inl h5
   exact .inr ⟨_,h5,tJ _⟩
theorem eL{k:IntKind}{a b:Int}(h:a=b):Ending.returned (.int k a)= .returned (.int k b):=by rw[h]
end
section
def V.cells:V->List V
 |.agg cs=>cs
 |.pv (.agg ps)=>ps.map .pv
 |v=>[v]
mutual
def PV.leaf:PV->Bool
 |.agg _|.tup _|.any=>WA
 |_=>VA
end
def V.leaf:V->Bool
 |.pv p=>p.leaf
 |.agg _|.tup _=>WA
 |_=>VA
section
variable {w w':World}{m m':Gm}{av av':Av}{R R':Nat->Prop}
theorem RelP.leaf{p:PV}(h:RelP w R p u)(d:p.leaf=VA):u.oneCell'=VA:=by
 cases p<;>simp only[PV.leaf,Vv]at d<;>simp only[RelP]at h
 case sl=>obtain⟨A,c,rfl,_⟩:=h;rfl
 case rp=>obtain⟨b,o,us,rfl,_⟩:=h;rfl
 case fn=>obtain⟨b,o,rfl,_⟩:=h;rfl
 case iface=>obtain⟨x,rfl,_⟩:=h;rfl
 case mp=>obtain⟨x,rfl,_⟩:=h;rfl
 all_goals (subst h;rfl)
theorem Rel.cells{v:V}(h:Rel w m av R v u)(D:∀c∈v.cells,c.leaf=VA)(B:∀id o,v= .ptr id o->(m id).isSome)(q:∀id s k,v= .osl id s k->(m id).isSome)(r:∀id,v= .map id->(m id).isSome):
  RelL w m av R v.cells u.cells.toList:=by
 have d:u.oneCell'=VA->RelL w m av R [v] u.cells.toList:=by
  intro h1;have:u.cells= #[u]:=by cases u<;>simp[Value.oneCell']at h1<;>rfl
  rw[this];exact RelL.cons h RelL.nil
 cases v with
 | agg cs=>
   simp only[Rel]at h;obtain⟨us,rfl,h⟩:=h;simpa[V.cells,Value.cells]using h
 | pv p=>
   cases p with
   | agg ps=>
     simp only[Rel,RelP]at h;obtain⟨us,rfl,h⟩:=h;simpa[V.cells,Value.cells]using RelL.ofP h
   | _=>
     refine d ?_;simp only[Rel]at h;exact h.leaf (by simpa[V.cells,V.leaf]using D)
 |tup cs=>simp[V.cells,V.leaf]at D
 | fn f a b=>
   refine d ?_;simp only[Rel]at h;obtain⟨us,vs,rfl,_⟩:=h;rfl
 | ptr id o=>
   refine d ?_;obtain⟨⟨b,N⟩,hm⟩:=UP.1 (B id o O);simp only[Rel]at h;rw[h.2 b N hm];rfl
 | osl id s k=>
   refine d ?_;obtain⟨⟨b,N⟩,hm⟩:=UP.1 (q id s k O);simp only[Rel]at h;obtain⟨c,e,_⟩:=h.2 b N hm;rw[e];rfl
 | gsl id s k=>
   refine d ?_;simp only[Rel]at h;obtain⟨_,A,c,e,_⟩:=h;rw[e];rfl
 | tsl id s k=>
   refine d ?_;simp only[Rel]at h;obtain⟨_,A,c,e,_⟩:=h;rw[e];rfl
 | map id=>
   refine d ?_;obtain⟨⟨b,N⟩,hm⟩:=UP.1 (r id O);simp only[Rel]at h;rw[h.2 b N hm];rfl
end
section
variable {C:Ctx}{n:Nat}{σ:St}{a:Act}{w:World}{m:Gm}{R:Nat->Prop}
theorem SW.world(h:SW C n σ a w m R){w':World}{m':Gm}{R':Nat->Prop}{ob':Nat->Option Ob}{av':Av}(d:HR C m' R' ob' av' w')(q:∀b,R b->R' b/\w'.heap[b]? =w.heap[b]?)
  (r:∀id x,σ.av id=WA->m' id=UF x->m id=UF x) (B:∀id,σ.av id=WA->av' id=WA):SW C n ⟨σ.sl,ob',av'⟩ a w' m' R':=
 ⟨d,h.df,h.sz,λt ht=>(h.sl t ht).mono q r B⟩
theorem SW.live(h:SW C n σ a w m R){o:Ob}(r:σ.ob id=UF o)(q:o.real=VA:=by rfl):∃b N,m id=UF (b,N)/\nv w m σ.av R b N o:=by
 have d:=h.hr.dom id;rw[r]at d;replace d:=d.trans q;obtain⟨⟨b,N⟩,hm⟩:=UP.1 d;exact⟨b,N,hm,h.hr.obj id o b N r hm⟩
theorem SW.ptr(h:SW C n σ a w m R){x:Operand}{o:Ob}(q:σ.ev n x= .ptr id off)(r:σ.ob id=UF o)(d:o.real=VA:=by rfl):
  ∃b N,a.eval x= .pointer (UF ⟨b,off,UG⟩)/\m id=UF (b,N)/\nv w m σ.av R b N o:=by
 obtain⟨b,N,hm,hr⟩:=h.live r d;have:=h.ev x;rw[q]at this;simp only[Rel]at this;exact⟨b,N,this.2 b N hm,hm,hr⟩
theorem SW.osl(h:SW C n σ a w m R){x:Operand}{o:Ob}(q:σ.ev n x= .osl id sz k)(r:σ.ob id=UF o)(d:o.real=VA:=by rfl):
  ∃b N c,a.eval x= .slice (UF ⟨b,0,UG⟩) k c/\k<=c/\c<=maxLen/\N=c*sz/\m id=UF (b,N)/\nv w m σ.av R b N o:=by
 obtain⟨b,N,hm,hr⟩:=h.live r d;have:=h.ev x;rw[q]at this;simp only[Rel]at this;obtain⟨c,e,h1,h2,h3⟩:=this.2 b N hm;exact⟨b,N,c,e,h1,h2,h3,hm,hr⟩
theorem SW.alloc(h:SW C n σ a w m R)(q:σ.av id=VA)(arr:Array Value)(ty:TypeId)(o:Ob)
  (W:∀(w':World)(m':Gm)(av':Av),(∀b,R b->R b/\w'.heap[b]? =w.heap[b]?)->(∀i x,σ.av i=WA->m' i=UF x->m i=UF x)->(∀i,σ.av i=WA->av' i=WA)->
   w'.heap[w.heap.size]? =UF (.cells arr ty (0,0))->nv w' m' av' R w.heap.size arr.size o) (J:o.real=VA:=by rfl):
  SW C n ⟨σ.sl,obL [(id,UF o)] σ.ob,avL [id] σ.av⟩ a (w.alloc (.cells arr ty)) (upd m id (UF (w.heap.size,arr.size))) R:=by
 have G:∀b,R b->R b/\(w.alloc (.cells arr ty)).heap[b]? =w.heap[b]? :=λb d=>⟨d,Below.heap_alloc w _ b (h.hr.rsz b d)⟩
 have H:∀i,σ.av i=WA->i≠id:=λi hi e=>by rw[e,q]at hi;cases hi
 have L:m id=UG:=by
  have:=h.hr.dom id;rw[h.hr.free id q]at this;simpa[bM]using this
 have I:∀i x,σ.av i=WA->upd m id (UF (w.heap.size,arr.size)) i=UF x->m i=UF x:=λi x hi e=>by rwa [aW _ _ (H i hi)]at e
 have E:∀i,σ.av i=WA->avL [id] σ.av i=WA:=λi hi=>by grind[avL,Nat.beq]
 have M:(w.alloc (.cells arr ty)).heap.size=w.heap.size+1:=X2;have r:∀i,i≠id->obL [(id,UF o)] σ.ob i=σ.ob i:=λi hi=>by grind[Nat.beq,bZ,obL]
 have B:obL [(id,UF o)] σ.ob id=UF o:=by simp[obL]
 have U:∀i,(m i).isSome=VA->σ.av i=WA:=λi hi=>by
  cases d:σ.av i
  .rfl
  have:=h.hr.dom i;rw[h.hr.free i d,hi]at this;cases this
 refine h.world ⟨?_,?_,?_,?_,?_,?_,?_,?_,?_,?_,?_⟩ G I E
 .intro i;by_cases e:i=id
  .subst e;rw[aB,B];exact J.symm
  rw[aW _ _ e,r i e];exact h.hr.dom i
 .intro i hi;simp only[avL]at hi;cases d:Nat.beq i id with
  |true=>rw[d]at hi;simp at hi
  | false=>
    rw[d]at hi;have e:i≠id:=λe=>by subst e;simp at d
    rw[r i e];exact h.hr.free i (by simpa using hi)
 .intro i o' b N h1 h2;by_cases e:i=id
  .subst e;rw[B]at h1;rw[aB]at h2;cases h1;cases h2;exact W _ _ _ G I E (heap_alloc_new w _)
  rw[r i e]at h1;rw[aW _ _ e]at h2;exact(h.hr.obj i o' b N h1 h2).mono G I E (Below.heap_alloc w _ b (h.hr.own i b N h2).1)
 .intro i j b N N' h1 h2;by_cases e1:i=id<;>by_cases e2:j=id
  .rw[e1,e2]
  .subst e1;rw[aB]at h1;rw[aW _ _ e2]at h2;cases h1;have:=(h.hr.own j _ _ h2).1;omega
  .subst e2;rw[aB]at h2;rw[aW _ _ e1]at h1;cases h2;have:=(h.hr.own i _ _ h1).1;omega
  rw[aW _ _ e1]at h1;rw[aW _ _ e2]at h2;exact h.hr.inj i j b N N' h1 h2
 .intro i b N h1;by_cases e:i=id
  .subst e;rw[aB]at h1;cases h1;exact⟨XX,λd=>by have:=h.hr.rsz _ d;omega,.inr h.hr.frame.size⟩
  rw[aW _ _ e]at h1;obtain⟨h2,h3,h4⟩:=h.hr.own i b N h1;exact⟨XX,h3,h4⟩
 .intro b d;have:=h.hr.rsz b d;omega
 .exact h.hr.rfr
 .exact h.hr.r0
 .refine⟨h.hr.frame.os,h.hr.frame.tape,h.hr.frame.output,?_,?_⟩
  .have:=h.hr.frame.size;omega
  .intro k hk hF;rw[Below.heap_alloc w _ k (by have:=h.hr.frame.size;omega)];exact h.hr.frame.block k hk hF
 .intro i x hi e;have D:i≠id:=λV=>by subst V;rw[h.hr.res i hi]at q;cases q
  rw[aW _ _ D]at e;exact h.hr.gY i x hi e
 .intro i hi;exact E i (h.hr.res i hi)
theorem SW.store(h:SW C n σ a w m R){b:Nat}(q:m id=UF (b,N))(arr arr':Array Value)(ty:TypeId)(M:w.heap[b]? =UF (.cells arr ty (0,0)))(U:arr'.size=N)(o:Ob)
  (V:∀(w':World),(∀b,R b->R b/\w'.heap[b]? =w.heap[b]?)->w'.heap[b]? =UF (.cells arr' ty (0,0))->nv w' m σ.av R b N o) (H:o.real=VA:=by rfl):
  SW C n ⟨σ.sl,obL [(id,UF o)] σ.ob,avL [] σ.av⟩ a (w.setRow b arr') m R:=by
 have D:=h.hr.own id b N q;have r:=setRow_heap w b arr arr' ty (0,0) M;have d:∀k,k≠b->(w.setRow b arr').heap[k]? =w.heap[k]? :=λk hk=>setRow_other w b k arr' hk
 have G:∀k,R k->R k/\(w.setRow b arr').heap[k]? =w.heap[k]? :=λk hk=>⟨hk,d k (λe=>D.2.1 (e▸hk))⟩
 have W:(w.setRow b arr').heap.size=w.heap.size:=X2;have B:∀i,i≠id->obL [(id,UF o)] σ.ob i=σ.ob i:=λi hi=>by grind[Nat.beq,bZ,obL]
 have E:obL [(id,UF o)] σ.ob id=UF o:=by simp[obL]
 have I:∀i x,σ.av i=WA->m i=UF x->m i=UF x:=λ_ _ _ e=>e
 have J:∀i,σ.av i=WA->avL [] σ.av i=WA:=λ_ hi=>hi
 refine h.world ⟨?_,?_,?_,?_,?_,?_,?_,?_,?_,?_,?_⟩ G I J
 .intro i;by_cases e:i=id
  .subst e;rw[q,E];exact H.symm
  rw[B i e];exact h.hr.dom i
 .intro i hi;have e:i≠id:=λe=>by
   subst e;have:=h.hr.dom i;rw[h.hr.free i hi,q]at this;cases this
  rw[B i e];exact h.hr.free i hi
 .intro i o' b' N' h1 h2;by_cases e:i=id
  .subst e;rw[E]at h1;rw[q]at h2;cases h1;cases h2;exact V _ G r
  rw[B i e]at h1;exact(h.hr.obj i o' b' N' h1 h2).mono G I J (d b' (λL=>e (h.hr.inj i id b N' N (L▸h2) q)))
 .exact h.hr.inj
 .intro i b' N' h1;obtain⟨h2,h3,h4⟩:=h.hr.own i b' N' h1;exact⟨XX,h3,h4⟩
 .intro b' hb';have:=h.hr.rsz b' hb';omega
 .exact h.hr.rfr
 .exact h.hr.r0
 .refine⟨h.hr.frame.os,h.hr.frame.tape,h.hr.frame.output,?_,?_⟩
  .have:=h.hr.frame.size;omega
  .intro k hk hF;rw[d k (λe=>by subst e;rcases D.2.2 with h'|h';exact hF h';omega)];exact h.hr.frame.block k hk hF
 .exact h.hr.gY
 exact h.hr.res
end
def bR(P:Program)(t:TypeId)(k:Nat):Prop:=(P.info? t).map (·.size)=UF k
def isRow(P:Program)(t:TypeId):Prop:=∃d,P.underlying t=UF d/\d.isRow=VA
def gN(P:Program)(t:TypeId):Prop:=∃d,P.underlying t=UF d/\d.isRow=WA
theorem gN.run(h:gN P t)(w:World):(isAgg t).run P w= .ok WA w:=by
 obtain⟨d,hu,hd⟩:=h;unfold isAgg;rw[Sem.run_bind,run_underlying hu w];cases d<;>simp_all
theorem bR.run(h:bR P t k)(w:World):(sizeOf t).run P w= .ok k w:=by
 unfold bR at h;cases hq:P.info? t with
 |none=>simp[hq]at h
 |some i=>simp[hq]at h;simp[sizeOf,typeInfo,hq,h]
section
variable {C:Ctx}{n:Nat}{σ:St}{dst:Option Tmp}{ty t t':TypeId}{pos:String}{after:Array Edge}{gd:Option (Nat×Bool)}{x y:Operand}
theorem TW(σ:St)(d:Option Tmp)(v:V)(wr:List (Nat×Option Ob))(nw:List Nat):σ.app d ⟨v,wr,nw⟩=St.put ⟨σ.sl,obL wr σ.ob,avL nw σ.av⟩ d v:=by
 cases d<;>rfl
theorem rG(id:Nat)(E:σ.av id=VA){v:V}(G:σ.ev n x=v)(H:v.cells.all V.leaf=VA)(B:∀i o,v= .ptr i o->bM (σ.ob i)=VA)(d:∀i s k,v= .osl i s k->bM (σ.ob i)=VA)(q:∀i,v= .map i->bM (σ.ob i)=VA):
  XJ C n ⟨dst,.box T x,ty,pos,after,gd⟩ σ ⟨.ptr id 0,[(id,UF (.mix T v.cells))],[id]⟩:=by
 rintro a w Q ⟨m,R,hw⟩;have r:=hw.ev x;rw[G]at r;have hc:=r.cells (by simpa using H) (λi o e=>by rw[hw.hr.dom];exact B i o e) (λi s k e=>by rw[hw.hr.dom];exact d i s k e) (λi e=>by rw[hw.hr.dom];exact q i e);unfold Oper.wp;have D:(execOp a.eval ⟨dst,.box T x,ty,pos,after,gd⟩).run C.P w= .ok (.value (.pointer (UF ⟨w.heap.size,0,UG⟩))) (w.alloc (.cells (a.eval x).cells T)):=by
  simp[execOp,Instr.box,newVar,newRow]
 rw[D];refine⟨_,O,upd m id (UF (w.heap.size,(a.eval x).cells.size)),R,?_⟩;rw[TW];refine SW.put (hw.alloc E (a.eval x).cells T (.mix T v.cells) ?_) dst ?_
 .intro w' m' av' hR hm ha hb;refine⟨_,hb,O,?_,?_⟩
  .rw[<-hc.length];simp
  have:(a.eval x).cells.toList.take v.cells.length=(a.eval x).cells.toList:=aG (by rw[<-hc.length];exact tJ _);rw[this];exact hc.mono hR hm ha
 simp only[Rel];refine⟨by simp[avL],λb N e=>?_⟩;rw[aB]at e;cases e;rfl
theorem K8(id:Nat){cs:List PV}(B:(C.P.info? T).map (·.zero)=UF (UF z))(r:z.cells.toList.map gl=cs)(D:σ.av id=VA):
  XJ C n ⟨dst,.alloc T,ty,pos,after,gd⟩ σ ⟨.ptr id 0,[(id,UF (.mix T (cs.map .pv)))],[id]⟩:=by
 rintro a w Q ⟨m,R,hw⟩;unfold Oper.wp;have q:(execOp a.eval ⟨dst,.alloc T,ty,pos,after,gd⟩).run C.P w= .ok (.value (.pointer (UF ⟨w.heap.size,0,UG⟩))) (w.alloc (.cells z.cells T)):=by
  cases hq:C.P.info? T with
  |none=>simp[hq]at B
  | some i=>
    simp[hq]at B;simp[execOp,Instr.alloc,zeroValue,typeInfo,hq,B,newVar,newRow]
 rw[q];refine⟨_,O,upd m id (UF (w.heap.size,z.cells.size)),R,?_⟩;rw[TW];refine SW.put (hw.alloc D z.cells T (.mix T (cs.map .pv)) ?_) dst ?_
 .intro w' m' av' hR hm ha hb;have d:cs.length=z.cells.size:=by rw[<-r];simp
  refine⟨_,hb,O,by simp[d],?_⟩;have:z.cells.toList.take (cs.map V.pv).length=z.cells.toList:=aG (by simp[d]);rw[this];refine RelL.ofP ?_;rw[<-r];generalize z.cells.toList=l;induction l with
  |nil=>simpa using RelPL.nil
  |cons x l ih=>simpa using RelPL.cons (fU w' R x) ih
 simp only[Rel];refine⟨by simp[avL],λb N e=>?_⟩;rw[aB]at e;cases e;rfl
theorem mZ{b:Nat}{arr:Array Value}(q:w.heap[b]? =UF (.cells arr T (0,0)))(d:arr.toList.take k=us){j:Nat}(r:j<k):
  w.cell? ⟨b,j,UG⟩=us[j]? :=by
 rw[cell_of_row w b j arr T (0,0) q,<-d,Uw,AT r];simp
theorem ns{T':TypeId}{cs:List V}{v:V}(r:gN C.P T)(B:σ.ev n x= .ptr id off)(D:σ.ob id=UF (.mix T' cs))(q:cs[off]? =UF v):
  XJ C n ⟨dst,.load T x,ty,pos,after,gd⟩ σ ⟨v,[],[]⟩:=
 .val λa w m R hw=>by
  obtain⟨b,N,he,hm,arr,hb,hN,hle,hr⟩:=hw.ptr B D;obtain⟨u,hu,hrel⟩:=hr.get q;have d:off<cs.length:=(RE.1 q).1;have hc:w.cell? ⟨b,off,UG⟩=UF u:=by rw[mZ hb O d];exact hu
  exact⟨u,by simp[execOp,he,Instr.loadAt,Instr.sureAddr,loadVar,r.run,load,Sem.run,hc],hrel⟩
theorem cL{T':TypeId}{cs:List PV}{v:PV}(r:gN C.P T)(B:σ.ev n x= .ptr id off)(D:σ.ob id=UF (.cells T' cs))(q:cs[off]? =UF v):
  XJ C n ⟨dst,.load T x,ty,pos,after,gd⟩ σ ⟨.pv v,[],[]⟩:=
 .val λa w m R hw=>by
  obtain⟨b,N,he,hm,arr,hb,hN,hle,hr⟩:=hw.ptr B D;obtain⟨u,hu,hrel⟩:=hr.get q;have d:off<cs.length:=(RE.1 q).1;have hc:w.cell? ⟨b,off,UG⟩=UF u:=by rw[mZ hb O d];exact hu
  exact⟨u,by simp[execOp,he,Instr.loadAt,Instr.sureAddr,loadVar,r.run,load,Sem.run,hc],by simpa only[Rel]using hrel⟩
theorem ar{cs:List PV}{v:PV}(q:gN C.P T)(r:σ.ev n x= .pv (.rp cs off))(B:cs[off]? =UF v):
  XJ C n ⟨dst,.load T x,ty,pos,after,gd⟩ σ ⟨.pv v,[],[]⟩:=
 .val λa w m R hw=>by
  have:=hw.pv r;simp only[RelP]at this;obtain⟨b,o,us,he,hr,hs⟩:=this;obtain⟨u,hu,hrel⟩:=hr.get B;have d:off<us.length:=(RE.1 hu).1;have hc:w.cell? ⟨b,o+off,UG⟩=UF u:=by rw[hs.2 off d];exact hu
  exact⟨u,by simp[execOp,he,Instr.loadAt,Instr.sureAddr,loadVar,q.run,load,Sem.run,hc],by simpa only[Rel]using hrel⟩
theorem LA{T':TypeId}{cs vs:List V}(G:isRow C.P T)(E:bR C.P T k)(H:σ.ev n x= .ptr id off)(I:σ.ob id=UF (.mix T' cs))(J:(cs.drop off).take k=vs)(D:vs.length=k):
  XJ C n ⟨dst,.load T x,ty,pos,after,gd⟩ σ ⟨.agg vs,[],[]⟩:=
 .val λa w m R hw=>by
  obtain⟨b,N,he,hm,arr,hb,hN,hle',hr⟩:=hw.ptr H I;have L:off+k<=cs.length\/k=0:=by grind
  have q:=(hr.drop off).take k;rw[J]at q;have r:=q.length;obtain⟨d,hu,hd⟩:=G;have:=run_loadAt_mid (P:=C.P) w b off T (((arr.toList.take cs.length).drop off).take k) d (λj u hu=>by
   rw[Uw]at hu;split at hu
   .rename_i hj;rw[Vp]at hu;have B:=(RE.1 hu).1;rw[mZ hb (k:=cs.length) O (by simp at B;omega)];exact hu
   grind) hu hd (by unfold bR at E;rw[E,r,D])
  refine⟨_,by simp only[execOp,he,Sem.run_bind,this,Result.andThen_ok];rfl,?_⟩;simp only[Rel];exact⟨_,O,q⟩
theorem ma{T':TypeId}{cs vs:List PV}(G:isRow C.P T)(E:bR C.P T k)(H:σ.ev n x= .ptr id off)(I:σ.ob id=UF (.cells T' cs))(J:(cs.drop off).take k=vs)(D:vs.length=k):
  XJ C n ⟨dst,.load T x,ty,pos,after,gd⟩ σ ⟨.pv (.agg vs),[],[]⟩:=
 .val λa w m R hw=>by
  obtain⟨b,N,he,hm,arr,hb,hN,hle',hr⟩:=hw.ptr H I;have q:=(hr.drop off).take k;rw[J]at q;have r:=q.length;obtain⟨d,hu,hd⟩:=G;have:=run_loadAt_mid (P:=C.P) w b off T (((arr.toList.take cs.length).drop off).take k) d (λj u hu=>by
   rw[Uw]at hu;split at hu
   .rename_i hj;rw[Vp]at hu;have B:=(RE.1 hu).1;rw[mZ hb (k:=cs.length) O (by simp at B;omega)];exact hu
   grind) hu hd (by unfold bR at E;rw[E,r,D])
  refine⟨_,by simp only[execOp,he,Sem.run_bind,this,Result.andThen_ok];rfl,?_⟩;simp only[Rel,RelP];exact⟨_,O,q⟩
theorem aF{cs vs:List PV}(G:isRow C.P T)(E:bR C.P T k)(H:σ.ev n x= .pv (.rp cs off))(I:(cs.drop off).take k=vs)(D:vs.length=k):
  XJ C n ⟨dst,.load T x,ty,pos,after,gd⟩ σ ⟨.pv (.agg vs),[],[]⟩:=
 .val λa w m R hw=>by
  have:=hw.pv H;simp only[RelP]at this;obtain⟨b,o,us,he,hr,hs⟩:=this;have q:=(hr.drop off).take k;rw[I]at q;have r:=q.length;obtain⟨d,hu,hd⟩:=G;have:=run_loadAt_mid (P:=C.P) w b (o+off) T ((us.drop off).take k) d (λj u hu=>by
   rw[Uw]at hu;split at hu
   .rw[Vp]at hu;have B:=(RE.1 hu).1;rw[Nat.add_assoc,hs.2 (off+j) B];exact hu
   grind) hu hd (by unfold bR at E;rw[E,r,D])
  refine⟨_,by simp only[execOp,he,Sem.run_bind,this,Result.andThen_ok];rfl,?_⟩;simp only[Rel,RelP];exact⟨_,O,q⟩
end
end
section
theorem lh(l vs:List α)(off n:Nat)(h:off+vs.length<=n)(r:n<=l.length):
  (l.take off++vs++l.drop (off+vs.length)).take n=(l.take n).take off++vs++(l.take n).drop (off+vs.length):=by
 apply Xh;intro i;have d:min off l.length=off:=XX;have q:min off (min n l.length)=off:=XX;simp only[Uw,List.getElem?_append,D8,OF,Vp,d,q];by_cases hi:i<n
 .grind
 grind
def gj{α:Type}(l:List α)(off:Nat)(vs:List α):List α:=l.take off++vs++l.drop (off+vs.length)
theorem RelL.gj{av:Av}{cs vs:List V}{xs:List Value}(off:Nat)(h:RelL w m av R cs us)(d:RelL w m av R vs xs):RelL w m av R (gj cs off vs) (gj us off xs):=by
 unfold Proofs.YtameambcolibjaaGreatDoor.gj;rw[d.length];exact(((h.take off).append d).append (h.drop _))
theorem RelPL.gj{cs vs:List PV}{xs:List Value}(off:Nat)(h:RelPL w R cs us)(d:RelPL w R vs xs):RelPL w R (gj cs off vs) (gj us off xs):=by
 unfold Proofs.YtameambcolibjaaGreatDoor.gj;rw[d.length];exact(((h.take off).append d).append (h.drop _))
theorem bQ(l:List α)(off:Nat)(vs:List α)(h:off+vs.length<=l.length):(gj l off vs).length=l.length:=by
 unfold gj;simp only[D8,OF,Vs];omega
section
variable {C:Ctx}{n:Nat}{σ:St}{dst:Option Tmp}{ty t t':TypeId}{pos:String}{after:Array Edge}{gd:Option (Nat×Bool)}{x y:Operand}
theorem lI{b:Nat}{arr:Array Value}{T':TypeId}(q:w.heap[b]? =UF (.cells arr T' (0,0)))(r:bR P T u.cells.size)(d:off+u.cells.size<=arr.size)(B:∀c∈u.cells.toList,c.oneCell'=VA):
  (Instr.storeAt T (.pointer (UF ⟨b,off,UG⟩)) u).run P w= .ok () (w.setRow b (gj arr.toList off u.cells.toList).toArray):=by
 have:=run_storeCells_at (P:=P) b off T' u.cells.toList 0 arr w q (by simpa using d) B;simp only[Wf]at this;simp[Instr.storeAt,Instr.sureAddr,storeVar,r.run,this,gj]
theorem nZ{av:Av}:∀{vs:List V}{us:List Value},RelL w m av R vs us->(∀c∈vs,c.leaf=VA)->(∀c∈vs,∀id o,c= .ptr id o->(m id).isSome)->(∀c∈vs,∀id s k,c= .osl id s k->(m id).isSome)->(∀c∈vs,∀id,c= .map id->(m id).isSome)->∀u∈us,u.oneCell'=VA
 |[],_,h,_,_,_,_=>by simp only[RelL]at h;subst h;simp
 | c::cs,_,h,hl,h1,h2,h3=>by
   simp only[RelL]at h;obtain⟨u,us,rfl,hc,hr⟩:=h;intro v hv;rcases By.1 hv with rfl|hv
   .have hlc:=hl c X2;cases c with
    |pv p=>simp only[Rel]at hc;exact hc.leaf hlc
    | ptr id o=>
      obtain⟨⟨b,N⟩,hm⟩:=UP.1 (h1 _ X2 id o O);simp only[Rel]at hc;rw[hc.2 b N hm];rfl
    | osl id s k=>
      obtain⟨⟨b,N⟩,hm⟩:=UP.1 (h2 _ X2 id s k O);simp only[Rel]at hc;obtain⟨c,e,_⟩:=hc.2 b N hm;rw[e];rfl
    |gsl id s k=>simp only[Rel]at hc;obtain⟨_,A,c,e,_⟩:=hc;rw[e];rfl
    |tsl id s k=>simp only[Rel]at hc;obtain⟨_,A,c,e,_⟩:=hc;rw[e];rfl
    | map id=>
      obtain⟨⟨b,N⟩,hm⟩:=UP.1 (h3 _ X2 id O);simp only[Rel]at hc;rw[hc.2 b N hm];rfl
    |agg _=>simp[V.leaf]at hlc
    |tup _=>simp[V.leaf]at hlc
    |fn f a b=>simp only[Rel]at hc;obtain⟨us,vs,rfl,_⟩:=hc;rfl
   exact nZ hr (λc hc=>hl c (by simp[hc])) (λc hc=>h1 c (by simp[hc])) (λc hc=>h2 c (by simp[hc])) (λc hc=>h3 c (by simp[hc])) v hv
def V.cE(ob:Nat->Option Ob):V->Bool
 |.ptr i _=>bM (ob i)
 |.osl i _ _=>bM (ob i)
 |.map i=>bM (ob i)
 |_=>VA
theorem mG{T':TypeId}{cs:List V}{v:V}(J:bR C.P T k)(L:σ.ev n x= .ptr id off)(M:σ.ob id=UF (.mix T' cs))(U:σ.ev n y=v)(H:v.cells.length=k)(W:off+k<=cs.length)
  (X:v.cells.all (λc=>c.leaf&&c.cE σ.ob)=VA) (q:v.cE σ.ob=VA):
  XJ C n ⟨UG,.store T x y,ty,pos,after,gd⟩ σ ⟨.pv .any,[(id,UF (.mix T' (gj cs off v.cells)))],[]⟩:=by
 rintro a w Q ⟨m,R,hw⟩;obtain⟨b,N,he,hm,arr,hb,hN,hle',hr⟩:=hw.ptr L M;have B:=hw.ev y;rw[U]at B;have d:∀i,bM (σ.ob i)=VA->(m i).isSome=VA:=λi hi=>by rw[hw.hr.dom];exact hi
 have r:∀c∈v.cells,c.leaf=VA/\c.cE σ.ob=VA:=by simpa using X
 have hc:=B.cells (λc hc=>(r c hc).1) (λi o e=>d _ (by rw[e]at q;exact q)) (λi s k e=>d _ (by rw[e]at q;exact q)) (λi e=>d _ (by rw[e]at q;exact q));have I:=nZ hc (λc hc=>(r c hc).1) (λc hc i o e=>d _ (by have:=(r c hc).2;rw[e]at this;exact this)) (λc hc i s k e=>d _ (by have:=(r c hc).2;rw[e]at this;exact this)) (λc hc i e=>d _ (by have:=(r c hc).2;rw[e]at this;exact this));have G:(a.eval y).cells.size=k:=by have:=hc.length;simp at this;omega
 have E:=lI (P:=C.P) (T:=T) (u:=a.eval y) (off:=off) hb (by rw[G];exact J) XX I;unfold Oper.wp;have D:(execOp a.eval ⟨UG,.store T x y,ty,pos,after,gd⟩).run C.P w= .ok .skip (w.setRow b (gj arr.toList off (a.eval y).cells.toList).toArray):=by
  simp only[execOp,he,Sem.run_bind,E,Result.andThen_ok,Sem.run_pure]
 rw[D];refine⟨_,O,m,R,?_⟩;refine hw.store hm arr _ T' hb (by simp only[UL];rw[bQ _ _ _ X3];simpa using hN) _ ?_;intro w' hR hb';refine⟨_,hb',by simp only[UL];rw[bQ _ _ _ X3];simpa using hN,by rw[bQ _ _ _ XX];exact hle',?_⟩;rw[bQ cs off v.cells XX];have e:(gj arr.toList off (a.eval y).cells.toList).toArray.toList.take cs.length=gj (arr.toList.take cs.length) off (a.eval y).cells.toList:=by grind[gj,lh]
 rw[e];exact(hr.gj off hc).mono hR (λ_ _ _ e=>e) (λ_ e=>e)
theorem bY{T':TypeId}{cs:List PV}{v:PV}(H:bR C.P T 1)(I:σ.ev n x= .ptr id off)(J:σ.ob id=UF (.cells T' cs))(L:σ.ev n y= .pv v)(E:v.leaf=VA)(M:off<cs.length):
  XJ C n ⟨UG,.store T x y,ty,pos,after,gd⟩ σ ⟨.pv .any,[(id,UF (.cells T' (cs.set off v)))],[]⟩:=by
 rintro a w Q ⟨m,R,hw⟩;obtain⟨b,N,he,hm,arr,hb,hN,hle',hr⟩:=hw.ptr I J;have q:=hw.pv L;have D:=q.leaf E;have d:(a.eval y).cells= #[a.eval y]:=by
  generalize a.eval y=u at D;cases u<;>simp[Value.oneCell']at D<;>rfl
 have B:=lI (P:=C.P) (T:=T) (u:=a.eval y) (off:=off) hb (by rw[d];exact H) (by rw[d];simp;omega) (by rw[d];simpa using D);unfold Oper.wp;have r:(execOp a.eval ⟨UG,.store T x y,ty,pos,after,gd⟩).run C.P w= .ok .skip (w.setRow b (gj arr.toList off [a.eval y]).toArray):=by
  simp only[execOp,he,Sem.run_bind,B,Result.andThen_ok,Sem.run_pure,d]
 rw[r];have G:∀{α:Type}(l:List α)(z:α),off<l.length->gj l off [z]=l.set off z:=by grind[gj,Uu,V3]
 refine⟨_,O,m,R,?_⟩;refine hw.store hm arr _ T' hb (by simp only[UL];rw[bQ _ _ _ X3];simpa using hN) _ ?_;intro w' hR hb';refine⟨_,hb',by simp only[UL];rw[bQ _ _ _ X3];simpa using hN,by simpa using hle',?_⟩;have e:(gj arr.toList off [a.eval y]).toArray.toList.take (cs.set off v).length=(arr.toList.take cs.length).set off (a.eval y):=by grind[lh,gj,Ut]
 rw[e];exact(hr.set off q).mono hR
def gD(P:Program)(s:TypeId)(i:Nat):Option Nat:=
 match P.underlying s with
 | some (.struct fs)=>
   match fs[i]? with
   | some f=>match P.info? f.type with
     |some inf=>bif Nat.beq inf.size 0 then UG else UF f.offset
     |none=>UG
   |none=>UG
 |_=>UG
theorem rj{i:Nat}(h:gD P s i=UF o)(w:World)(b off:Nat):(Instr.fieldAt s (.pointer (UF ⟨b,off,UG⟩)) i).run P w= .ok (.pointer (UF ⟨b,off+o,UG⟩)) w:=by
 unfold gD at h;split at h
 .rename_i fs hu;split at h
  .rename_i f hf;split at h
   .rename_i inf hi;have d:inf.size≠0:=by
     intro e;rw[e]at h;simp at h
    have q:Nat.beq inf.size 0=WA:=by cases q:Nat.beq inf.size 0;rfl;exact absurd (bZ q) d
    rw[q]at h;simp at h;subst h;simp[Instr.fieldAt,run_underlying hu,hf,Instr.sureAddr,fieldPlace,sizeOf,typeInfo,hi,d,Addr.add_lit]
   cases h
  cases h
 cases h
theorem wc{i:Nat}{ob:Ob}(B:gD C.P s i=UF o)(r:σ.ev n x= .ptr id off)(D:σ.ob id=UF ob)(q:ob.real=VA:=by rfl):
  XJ C n ⟨dst,.fieldAddr s x i,ty,pos,after,gd⟩ σ ⟨.ptr id (off+o),[],[]⟩:=
 .val λa w m R hw=>by
  obtain⟨b,N,he,hm,_⟩:=hw.ptr r D q;have d:=hw.ev x;rw[r]at d;simp only[Rel]at d;refine⟨_,by simp only[execOp,he,Sem.run_bind,rj B,Result.andThen_ok];rfl,?_⟩;simp only[Rel];exact⟨d.1,λb' N' e=>by rw[hm]at e;cases e;rfl⟩
theorem u7{i:Nat}{cs:List PV}(d:gD C.P s i=UF o)(q:σ.ev n x= .pv (.rp cs off)):
  XJ C n ⟨dst,.fieldAddr s x i,ty,pos,after,gd⟩ σ ⟨.pv (.rp cs (off+o)),[],[]⟩:=
 .val λa w m R hw=>by
  have:=hw.pv q;simp only[RelP]at this;obtain⟨b,o',us,he,hr,hs⟩:=this;refine⟨_,by simp only[execOp,he,Sem.run_bind,rj d,Result.andThen_ok];rfl,?_⟩;simp only[Rel,RelP];exact⟨b,o',us,by rw[Nat.add_assoc],hr,hs⟩
theorem qN{s j c:Nat}(d:P.underlying T=UF (.slice e))(q:bR P e s)(r:i=(j:Int))(B:j<k)(w:World)(b off:Nat):
  (Instr.indexAt T (.slice (UF ⟨b,off,UG⟩) k c) (.int kk i)).run P w= .ok (.pointer (UF ⟨b,off+j*s,UG⟩)) w:=by
 subst r;have D:((j:Int))<(k:Int):=XX;simp[Instr.indexAt,asIntOf,run_underlying d,q.run,B,Addr.add_lit]
theorem ag{s:Nat}{cs:List PV}(j:Nat)(q:C.P.underlying T=UF (.slice e))(r:bR C.P e s)(B:σ.ev n x= .pv (.sl bn k cs))(D:σ.ev n y= .pv (.int kk i))(E:i=(j:Int))(G:j<k)(d:cs≠[]):
  XJ C n ⟨dst,.indexAddr T x y,ty,pos,after,gd⟩ σ ⟨.pv (.rp cs (j*s)),[],[]⟩:=
 .val λa w m R hw=>by
  have:=hw.pv B;simp only[RelP]at this;obtain⟨A,c,he,_,_,_,_,h5⟩:=this;obtain⟨b,off,us,rfl,hr,hsh⟩:=h5 d;refine⟨_,by simp only[execOp,he,hw.int D,Sem.run_bind,qN q r E G,Result.andThen_ok];rfl,?_⟩;simp only[Rel,RelP];exact⟨b,off,us,O,hr,hsh⟩
theorem aj{s:Nat}{o:Ob}(j:Nat)(B:C.P.underlying T=UF (.slice e))(D:bR C.P e s)(r:σ.ev n x= .osl id sz k)(E:σ.ob id=UF o)(G:σ.ev n y= .pv (.int kk i))(H:i=(j:Int))(I:j<k)(q:o.real=VA:=by rfl):
  XJ C n ⟨dst,.indexAddr T x y,ty,pos,after,gd⟩ σ ⟨.ptr id (j*s),[],[]⟩:=
 .val λa w m R hw=>by
  obtain⟨b,N,c,he,_,_,_,hm,_⟩:=hw.osl r E q;have d:=hw.ev x;rw[r]at d;simp only[Rel]at d;refine⟨_,by simp only[execOp,he,hw.int G,Sem.run_bind,qN B D H I,Result.andThen_ok];rfl,?_⟩;simp only[Rel];exact⟨d.1,λb' N' e=>by rw[hm]at e;cases e;simp⟩
theorem iR{i:Nat}{ps:List PV}{p:PV}{f:Field}{fs:Array Field}(d:C.P.underlying s=UF (.struct fs))(q:fs[i]? =UF f)(r:f.offset=o)(B:gN C.P f.type)(D:σ.ev n x= .pv (.agg ps))(E:ps[o]? =UF p):
  XJ C n ⟨dst,.field s x i,ty,pos,after,gd⟩ σ ⟨.pv p,[],[]⟩:=
 .val λa w m R hw=>by
  have:=hw.pv D;simp only[RelP]at this;obtain⟨us,he,hr⟩:=this;obtain⟨u,hu',hrel⟩:=hr.get E;refine⟨u,?_,by simpa only[Rel]using hrel⟩;simp[execOp,he,Instr.field,run_underlying d,q,asAgg,part,B.run,r,hu']
theorem AV{s:Nat}{cs:List PV}(lo hi:Option Operand)(l h:Nat)(I:C.P.underlying T=UF (.slice e))(J:bR C.P e s)(W:σ.ev n x= .pv (.sl bn k cs))
  (E:∀y,lo=UF y->σ.ev n y= .pv (.int kl il)/\il=(l:Int)) (G:lo=UG->l=0) (H:∀y,hi=UF y->σ.ev n y= .pv (.int kh ih)/\ih=(h:Int)) (d:hi=UG->h=k) (U:l<=h) (Y:h<=k) (X:cs.length=k*s):
  XJ C n ⟨dst,.slice T x lo hi UG,ty,pos,after,gd⟩ σ ⟨.pv (.sl bn (h-l) ((cs.drop (l*s)).take ((h-l)*s))),[],[]⟩:=
 .val λa w m R hw=>by
  have:=hw.pv W;simp only[RelP]at this;obtain⟨A,c,he,hkc,hcm,hbn,hb0,h5⟩:=this;have L:∀y,lo=UF y->a.eval y= .int kl l:=λy hy=>by rw[hw.int (E y hy).1,(E y hy).2]
  have M:∀y,hi=UF y->a.eval y= .int kh h:=λy hy=>by rw[hw.int (H y hy).1,(H y hy).2]
  refine⟨.slice (if c=l then A else A.map (·.add (l*s))) (h-l) (c-l),?_,?_⟩
  .have hlc:h<=c:=XX;cases lo with
   | none=>
     have V:=G O;subst V;cases hi with
     | none=>
       have r:=d O;subst r;simp[execOp,he,Instr.sliceAt,Instr.slice,Instr.sliceBounds,run_underlying I,J.run]
     | some y2=>
       simp[execOp,he,M y2 O,Instr.sliceAt,Instr.slice,Instr.sliceBounds,Instr.sliceBound,asIntOf,run_underlying I,J.run,hlc]
   | some y1=>
     cases hi with
     | none=>
       have r:=d O;subst r;simp[execOp,he,L y1 O,Instr.sliceAt,Instr.slice,Instr.sliceBounds,Instr.sliceBound,asIntOf,run_underlying I,J.run,U]
     | some y2=>
       simp[execOp,he,L y1 O,M y2 O,Instr.sliceAt,Instr.slice,Instr.sliceBounds,Instr.sliceBound,asIntOf,run_underlying I,J.run,U,hlc]
  simp only[Rel,RelP];refine⟨_,_,O,XX,XX,?_,λe=>by have:=hb0 e;omega,?_⟩
  .intro q hq;rw[hbn q hq];split<;>simp
  .intro hne;have B:cs≠[]:=by rintro rfl;simp at hne
   obtain⟨b,off,us,rfl,hr,hsh⟩:=h5 B;have D:c≠l:=by grind
   rw[pF D];refine⟨b,off+l*s,(us.drop (l*s)).take ((h-l)*s),by simp[Addr.add_lit],(hr.drop _).take _,hsh.1,?_⟩;intro j hj;simp only[OF,Vs]at hj;rw[Uw,AT XX,Vp,Nat.add_assoc];exact hsh.2 _ XX
theorem dY{z:ByteArray}(lo hi:Option Operand)(l h:Nat)(G:C.P.underlying T=UF .string)(U:σ.ev n x= .pv (.str z))
  (r:∀y,lo=UF y->σ.ev n y= .pv (.int kl il)/\il=(l:Int)) (B:lo=UG->l=0) (D:∀y,hi=UF y->σ.ev n y= .pv (.int kh ih)/\ih=(h:Int)) (d:hi=UG->h=z.size) (J:l<=h) (L:h<=z.size):
  XJ C n ⟨dst,.slice T x lo hi UG,ty,pos,after,gd⟩ σ ⟨.pv (.str (z.extract l h)),[],[]⟩:=
 .lit O λa w m R hw=>by
  have E:=hw.str U;have H:∀y,lo=UF y->a.eval y= .int kl l:=λy hy=>by rw[hw.int (r y hy).1,(r y hy).2]
  have I:∀y,hi=UF y->a.eval y= .int kh h:=λy hy=>by rw[hw.int (D y hy).1,(D y hy).2]
  cases lo with
  | none=>
    have M:=B O;subst M;cases hi with
    | none=>
      have q:=d O;subst q;simp[execOp,E,Instr.sliceAt,Instr.slice,Instr.sliceBounds,run_underlying G,yf]
    | some y2=>
      simp[execOp,E,I y2 O,Instr.sliceAt,Instr.slice,Instr.sliceBounds,Instr.sliceBound,asIntOf,run_underlying G,L,yf]
  | some y1=>
    cases hi with
    | none=>
      have q:=d O;subst q;simp[execOp,E,H y1 O,Instr.sliceAt,Instr.slice,Instr.sliceBounds,Instr.sliceBound,asIntOf,run_underlying G,J,yf]
    | some y2=>
      simp[execOp,E,H y1 O,I y2 O,Instr.sliceAt,Instr.slice,Instr.sliceBounds,Instr.sliceBound,asIntOf,run_underlying G,J,L,yf]
theorem bz{z:ByteArray}(j:Nat)(q:C.P.underlying T=UF .string)(r:σ.ev n x= .pv (.str z))(B:σ.ev n y= .pv (.int kk i))(D:i=(j:Int))(d:j<z.size):
  XJ C n ⟨dst,.index T x y,ty,pos,after,gd⟩ σ ⟨.pv (.int .u8 (z[j]'d).toNat),[],[]⟩:=
 .lit O λa w m R hw=>by
  subst D;simp[execOp,hw.str r,hw.int B,Instr.index,asIntOf,run_underlying q,yf,d]
end
end
section
section
variable {C:Ctx}{n:Nat}{σ:St}{a:Act}{w:World}{m:Gm}{R:Nat->Prop}
theorem SW.drop(h:SW C n σ a w m R)(id:Nat):SW C n ⟨σ.sl,obL [(id,UG)] σ.ob,σ.av⟩ a w (upd m id UG) R:=by
 have q:∀i,i≠id->obL [(id,UG)] σ.ob i=σ.ob i:=λi hi=>by grind[Nat.beq,bZ,obL]
 have r:obL [(id,UG)] σ.ob id=UG:=by simp[obL]
 have d:∀i x,upd m id UG i=UF x->m i=UF x:=λi x e=>by grind[aB,aW]
 refine h.world ⟨?_,?_,?_,?_,?_,?_,?_,?_,?_,?_,?_⟩ (λb hb=>⟨hb,O⟩) (λi x _ e=>d i x e) (λ_ e=>e)
 .intro i;by_cases e:i=id
  .subst e;rw[aB,r];rfl
  rw[aW _ _ e,q i e];exact h.hr.dom i
 .intro i hi;by_cases e:i=id
  .subst e;exact r
  rw[q i e];exact h.hr.free i hi
 .intro i o b N h1 h2;have e:i≠id:=λe=>by subst e;rw[aB]at h2;cases h2
  rw[q i e]at h1;exact(h.hr.obj i o b N h1 (d _ _ h2)).mono (λb hb=>⟨hb,O⟩) (λi x _ e=>d i x e) (λ_ e=>e) O
 .intro i j b N N' h1 h2;exact h.hr.inj i j b N N' (d _ _ h1) (d _ _ h2)
 .intro i b N h1;exact h.hr.own i b N (d _ _ h1)
 .exact h.hr.rsz
 .exact h.hr.rfr
 .exact h.hr.r0
 .exact h.hr.frame
 .exact λi x hi e=>h.hr.gY i x hi (d i x e)
 exact h.hr.res
theorem SW.fresh(h:SW C n σ a w m R)(G:σ.av id=VA){w':World}{g:Nat}{arr:Array Value}{ty:TypeId}(X:w'.heap[g]? =UF (.cells arr ty (0,0))){row:Option Nat}(d:w.grownBy w' row)(B:∀k,row=UF k->¬R k/\(∀i b N,m i=UF (b,N)->b≠k)/\(C.F k\/C.w0.heap.size<=k))
  (Y:¬R g) (Z:∀i b N,m i=UF (b,N)->b≠g) (aa:C.F g\/C.w0.heap.size<=g) (o:Ob)
  (ho:∀(m':Gm)(av':Av),(∀b,R b->R b/\w'.heap[b]? =w.heap[b]?)->(∀i x,σ.av i=WA->m' i=UF x->m i=UF x)->(∀i,σ.av i=WA->av' i=WA)->nv w' m' av' R g arr.size o) (L:o.real=VA:=by rfl):
  SW C n ⟨σ.sl,obL [(id,UF o)] σ.ob,avL [id] σ.av⟩ a w' (upd m id (UF (g,arr.size))) R:=by
 have r:∀k,k<w.heap.size->(∀q,row=UF q->k≠q)->w'.heap[k]? =w.heap[k]? :=λk hk D=>d.block k hk (λe=>D k e.symm O)
 have V:g<w'.heap.size:=(S8.1 X).1;have M:∀b,R b->R b/\w'.heap[b]? =w.heap[b]? :=λb hb=>⟨hb,r b (h.hr.rsz b hb) (λq hq e=>(B q hq).1 (e▸hb))⟩
 have D:∀i,σ.av i=WA->i≠id:=λi hi e=>by rw[e,G]at hi;cases hi
 have U:∀i x,σ.av i=WA->upd m id (UF (g,arr.size)) i=UF x->m i=UF x:=λi x hi e=>by rwa [aW _ _ (D i hi)]at e
 have I:∀i,σ.av i=WA->avL [id] σ.av i=WA:=λi hi=>by grind[avL,Nat.beq]
 have E:∀i,i≠id->obL [(id,UF o)] σ.ob i=σ.ob i:=λi hi=>by grind[Nat.beq,bZ,obL]
 have J:obL [(id,UF o)] σ.ob id=UF o:=by simp[obL]
 refine h.world ⟨?_,?_,?_,?_,?_,?_,?_,?_,?_,?_,?_⟩ M U I
 .intro i;by_cases e:i=id
  .subst e;rw[aB,J];exact L.symm
  rw[aW _ _ e,E i e];exact h.hr.dom i
 .intro i hi;simp only[avL]at hi;cases hb:Nat.beq i id with
  |true=>rw[hb]at hi;simp at hi
  | false=>
    rw[hb]at hi;have e:i≠id:=λe=>by subst e;simp at hb
    rw[E i e];exact h.hr.free i (by simpa using hi)
 .intro i o' b N h1 h2;by_cases e:i=id
  .grind[aB]
  rw[E i e]at h1;rw[aW _ _ e]at h2;exact(h.hr.obj i o' b N h1 h2).mono M U I (r b (h.hr.own i b N h2).1 (λq hq=>(B q hq).2.1 i b N h2))
 .intro i j b N N' h1 h2;by_cases e1:i=id<;>by_cases e2:j=id
  .rw[e1,e2]
  .grind[aB,aW]
  .grind[aB,aW]
  rw[aW _ _ e1]at h1;rw[aW _ _ e2]at h2;exact h.hr.inj i j b N N' h1 h2
 .intro i b N h1;by_cases e:i=id
  .grind[aB]
  rw[aW _ _ e]at h1;obtain⟨h2,h3,h4⟩:=h.hr.own i b N h1;exact⟨Uq h2 d.size,h3,h4⟩
 .intro b hb;exact Uq (h.hr.rsz b hb) d.size
 .exact h.hr.rfr
 .exact h.hr.r0
 .refine⟨d.os.trans h.hr.frame.os,d.tape.trans h.hr.frame.tape,d.output.trans h.hr.frame.output,AI h.hr.frame.size d.size,?_⟩;intro k hk hF;rw[r k (Uq hk h.hr.frame.size) (λq hq e=>by subst e;rcases(B k hq).2.2 with h'|h';exact hF h';omega)];exact h.hr.frame.block k hk hF
 .intro i x hi e;have H:i≠id:=λW=>by subst W;rw[h.hr.res i hi]at G;cases G
  rw[aW _ _ H]at e;exact h.hr.gY i x hi e
 .intro i hi;exact I i (h.hr.res i hi)
end
theorem eK:∀{vs:List PV}{us:List Value},RelPL w R vs us->(∀c∈vs,c.leaf=VA)->∀u∈us,u.oneCell'=VA
 |[],_,h,_=>by simp only[RelPL]at h;subst h;simp
 | c::cs,_,h,hl=>by
   simp only[RelPL]at h;obtain⟨u,us,rfl,hc,hr⟩:=h;intro v hv;rcases By.1 hv with rfl|hv
   .exact hc.leaf (hl c X2)
   exact eK hr (λc hc=>hl c (by simp[hc])) v hv
structure ElemIs(P:Program)(t e:TypeId)(z:Value)(size bytes:Nat):Prop where
 u:P.underlying t=UF (.slice e)
 info:(P.info? e).map (λi=>(i.zero,i.size,i.bytes))=UF (UF z,size,bytes)
 zs:z.cells.size=size
 pos:0<size
 by_:bytes<=1000
theorem Im{C:Ctx}{σ:St}(d:SW C n σ a w m R){i j b b' N':Nat}(q:m i=UF (b',N'))(r:m j=UF (b,N))(e:b'=b):i=j:=by
 subst e;exact d.hr.inj i j b' N' N q r
section
variable {C:Ctx}{n:Nat}{σ:St}{dst:Option Tmp}{ty t t':TypeId}{pos:String}{after:Array Edge}{gd:Option (Nat×Bool)}{x y:Operand}
def k9(n:Nat)(σ:St)(x:Operand)(k:Nat)(news:List PV):Prop:=
 (∃b,σ.ev n x= .pv (.sl b k news))\/(∃id sz T cs,σ.ev n x= .osl id sz k/\σ.ob id=UF (.cells T cs)/\news=cs.take (k*sz))
theorem k9.row(q:SW C n σ a w m R){news:List PV}(h:k9 n σ x k news):
  ∃A c us,a.eval x= .slice A k c/\RelPL w R news us/\Row w Any A us:=by
 rcases h with⟨b,hx⟩|⟨id,sz,T,cs,hx,ho,rfl⟩
 .have:=q.pv hx;simp only[RelP]at this;obtain⟨A,c,he,_,_,_,_,h5⟩:=this;by_cases d:news=[]
  .subst d;exact⟨A,c,[],he,RelPL.nil,Row.nil⟩
  obtain⟨b,off,us,rfl,hr,hs⟩:=h5 d;refine⟨_,c,us,he,hr,λd=>⟨b,off,O,X5,q.hr.rsz b hs.1,λj hj=>hs.2 j hj⟩⟩
 obtain⟨b,N,c,he,_,_,hN,hm,arr,hb,hsz,hle,hr⟩:=q.osl hx ho;refine⟨_,c,_,he,hr.take (k*sz),λd=>⟨b,0,O,X5,(q.hr.own id b N hm).1,λj hj=>?_⟩⟩;simp only[OF]at hj;rw[UQ,cell_of_row w b j arr T (0,0) hb,Uw,AT XX,Uw,AT XX];simp
def J8(C:Ctx)(n:Nat)(σ:St)(y:Operand)(j:Nat)(news:List PV):Prop:=∀{a:Act}{w:World}{m:Gm}{R:Nat->Prop},SW C n σ a w m R->∃A c us,a.eval y= .slice A j c/\RelPL w R news us/\Row w Any A us
theorem bW{j:Nat}{cs news:List PV}(id':Nat)(I:ElemIs C.P t e z size bytes)(W:σ.ev n x= .osl id size k)(X:σ.ob id=UF (.cells e cs))(M:k*size<=cs.length)
  (J:J8 C n σ y j news) (Y:news.length=j*size) (U:∀c∈news,c.leaf=VA) (Z:k+j<=1000000000) (V:σ.av id'=VA):
  XJ C n ⟨dst,.call { callee:=.builtin .append,args:= #[x,y],argTypes:= #[t,t] },ty,pos,after,gd⟩ σ ⟨.osl id' size (k+j),[(id',UF (.cells e (cs.take (k*size)++news))),(id,UG)],[id']⟩:=by
 rintro a w Q ⟨m,R,hw⟩;obtain⟨b,N,c,hev,hkc,hcm,hN,hm,arr,hbk,hsz,hle,hr⟩:=hw.osl W X;obtain⟨A,c2,us,hev2,hr2,hrow⟩:=J hw;have E:w.ownsRow 0 e size (.slice (UF ⟨b,0,UG⟩) k c) k (arr.toList.take (k*size)):=by
  refine⟨?_,.inr ⟨b,c,arr,O,aJ _,hbk,hkc,hcm,by rw[hsz,hN],O⟩⟩;have:=Vk size hkc;simp only[OF,UR];omega
 refine rC x y t O 0 e z size bytes I.u I.info I.zs I.pos I.by_ _ k j c2 A _ us hev hev2 E hrow (by rw[hr2.length,Y]) (eK hr2 U) Z (aJ _) ?_;intro A' c' w' hown' hgr hat
 have G:=hw.hr.own id b N hm;have B:RelPL w R (cs.take (k*size)++news) (arr.toList.take (k*size)++us):=by
  have H:=hr.take (k*size);rw[Xr,U5 M]at H;exact H.append hr2
 have D:∀i x,upd m id UG i=UF x->m i=UF x/\i≠id:=λi x e=>by grind[aB,aW]
 have r:¬R b/\(∀i b' N',upd m id UG i=UF (b',N')->b'≠b)/\(C.F b\/C.w0.heap.size<=b):=
  ⟨G.2.1,λi b' N' hi e=>(D i _ hi).2 (Im hw (D i _ hi).1 hm e),G.2.2⟩
 rcases hown'.2 with⟨hv,h0⟩|⟨g,cap,cur,hv,_,hg,hkc',hcm',hcs',htk⟩
 .exfalso;simp only[Value.slice.injEq]at hv;obtain⟨rfl,_,_⟩:=hv;rcases hat with h|⟨g',h,_⟩<;>simp[Value.ownBlock]at h
 simp only[Value.slice.injEq]at hv;obtain⟨rfl, -,rfl⟩:=hv;have d:¬R g/\(∀i b' N',upd m id UG i=UF (b',N')->b'≠g)/\(C.F g\/C.w0.heap.size<=g):=by
  rcases hat with h|⟨g',h,hle⟩
  .simp only[Value.ownBlock,Uo]at h;rw[h];exact r
  simp only[Value.ownBlock,Uo]at h;subst h;refine⟨λh=>?_,λi b' N' hi e=>?_,.inr ?_⟩
  .have:=hw.hr.rsz _ h;omega
  .have:=(hw.hr.own i b' N' (D i _ hi).1).1;omega
  have:=hw.hr.frame.size;omega
 have L:(arr.toList.take (k*size)++us).length=(k+j)*size:=hown'.1;refine⟨_,O,upd (upd m id UG) id' (UF (g,cur.size)),R,?_⟩;rw[TW];refine SW.put ((hw.drop id).fresh V hg hgr (λq hq=>by simp[Value.ownBlock]at hq;subst hq;exact r) d.1 d.2.1 d.2.2 (.cells e (cs.take (k*size)++news)) ?_) dst ?_
 .intro m' av' hR _ _;refine⟨cur,hg,O,?_,?_⟩
  .grind
  rw[<-B.length,L,htk];exact B.mono hR
 simp only[Rel];refine⟨by simp[avL],λb N e=>?_⟩;rw[aB]at e;cases e;exact⟨c',O,hkc',hcm',hcs'⟩
theorem dx{j:Nat}{cs news:List PV}(id':Nat)(E:ElemIs C.P t e z size bytes)(G:σ.ev n x= .osl id size k)(H:σ.ob id=UF (.cells e cs))(d:cs.length=k*size)
  (q:k9 n σ y j news) (I:news.length=j*size) (r:∀c∈news,c.leaf=VA) (J:k+j<=1000000000) (B:σ.av id'=VA):
  XJ C n ⟨dst,.call { callee:=.builtin .append,args:= #[x,y],argTypes:= #[t,t] },ty,pos,after,gd⟩ σ ⟨.osl id' size (k+j),[(id',UF (.cells e (cs++news))),(id,UG)],[id']⟩:=by
 have h:=bW (dst:=dst) (ty:=ty) (pos:=pos) (after:=after) (gd:=gd) id' E G H (Vl d.symm) (λD=>q.row D) I r J B;rwa [<-d,V7]at h
theorem oc{j:Nat}{news:List PV}(id':Nat)(d:ElemIs C.P t e z size bytes)(I:σ.ev n x= .pv (.sl (UF VA) 0 []))
  (r:k9 n σ y j news) (J:news.length=j*size) (D:∀c∈news,c.leaf=VA) (L:j<=1000000000) (M:0<j) (E:σ.av id'=VA):
  XJ C n ⟨dst,.call { callee:=.builtin .append,args:= #[x,y],argTypes:= #[t,t] },ty,pos,after,gd⟩ σ ⟨.osl id' size j,[(id',UF (.cells e news))],[id']⟩:=by
 rintro a w Q ⟨m,R,hw⟩;have G:=hw.pv I;simp only[RelP]at G;obtain⟨A0,c0,hev,_,_,hn,hc0,_⟩:=G;have B:A0=UG:=by cases A0;rfl;have:=hn VA O;simp at this
 subst B;rw[hc0 trivial]at hev;obtain⟨A,c2,us,hev2,hr2,hrow⟩:=r.row hw;refine rC x y t O 0 e z size bytes d.u d.info d.zs d.pos d.by_ _ 0 j c2 A _ us hev hev2 (World.ownsRow_nil w 0 e size) hrow (by rw[hr2.length,J]) (eK hr2 D) XX (aJ _) ?_;intro A' c' w' hown' hgr hat
 simp only[UQ,Vo]at hown' hat ⊢;rcases hown'.2 with⟨hv,h0⟩|⟨g,cap,cur,hv,_,hg,hkc',hcm',hcs',htk⟩
 .omega
 simp only[Value.slice.injEq]at hv;obtain⟨rfl, -,rfl⟩:=hv;have H:w.heap.size<=g:=by
  rcases hat with h|⟨g',h,hle⟩
  .simp[Value.ownBlock]at h
  simp only[Value.ownBlock,Uo]at h;subst h;exact hle
 refine⟨_,O,upd m id' (UF (g,cur.size)),R,?_⟩;rw[TW];refine SW.put (hw.fresh E hg hgr (λq hq=>by simp[Value.ownBlock]at hq) (λh=>by have:=hw.hr.rsz _ h;omega) (λi b N hi e=>by have:=(hw.hr.own i b N hi).1;omega) (.inr (by have:=hw.hr.frame.size;omega)) (.cells e news) ?_) dst ?_
 .intro m' av' hR _ _;refine⟨cur,hg,O,?_,?_⟩
  .rw[hcs',<-hr2.length,hown'.1];exact Vk _ hkc'
  rw[<-hr2.length,hown'.1,htk];exact hr2.mono hR
 simp only[Rel];refine⟨by simp[avL],λb N e=>?_⟩;rw[aB]at e;cases e;exact⟨c',O,hkc',hcm',hcs'⟩
end
end
section
def look:List (Nat×V)->Nat->V
 |[],_=> .pv .any
 |(d,v)::l,t=>bif Nat.beq t d then v else look l t
def aA:List (Nat×Ob)->Nat->Option Ob
 |[],_=>UG
 |(d,v)::l,t=>bif Nat.beq t d then UF v else aA l t
def avK(k:Nat):Av:=λid=>Nat.ble k id&&Nat.blt id big
def mkS(l:List (Nat×V))(os:List (Nat×Ob))(k:Nat):St:=⟨look l,aA os,avK k⟩
mutual
def V.okA(k:Nat):V->Bool
 |.pv _=>VA
 |.ptr id _=>Nat.blt id k||Nat.ble big id
 |.osl id _ _=>Nat.blt id k||Nat.ble big id
 |.tsl id _ _=>Nat.blt id k||Nat.ble big id
 |.gsl id _ _=>Nat.blt id k||Nat.ble big id
 |.map id=>Nat.blt id k||Nat.ble big id
 |.agg cs=>V.okL k cs
 |.tup cs=>V.okL k cs
 |.fn _ a b=>V.okL k a&&V.okL k b
def V.okL(k:Nat):List V->Bool
 |[]=>VA
 |c::cs=>V.okA k c&&V.okL k cs
end
def Ob.okA(k:Nat):Ob->Bool
 |.cells _ _=>VA
 |.mix _ cs=>V.okL k cs
 |.gro _ _=>VA
 |.mp _ _=>VA
 |.it _ _=>VA
 |.fro _ _=>VA
 |.mi _ _ _=>VA
section
variable {w:World}{m m':Gm}{av:Av}{R:Nat->Prop}{k:Nat}
theorem jy{k:Nat}(h:(Nat.blt id k||Nat.ble big id)=VA):avK k id=WA:=by
 unfold avK;cases hb:Nat.ble k id
 .rfl
 cases hc:Nat.blt id big
 .rfl
 have h1:=Uy hb;have d:id<big:=by simpa[Wl]using hc
 rcases(Bool.or_eq_true_iff).1 h with h|h
 .grind[Wl]
 have h2:=Uy h;omega
theorem NW{k:Nat}(h:avK k id=VA):k<=id/\id<big:=by simp_all[avK,dO,Uy,Wl]
theorem di{k:Nat}(h:big<=id):avK k id=WA:=by
 cases hb:avK k id
 .rfl
 have:=(NW hb).2;omega
mutual
theorem Rel.okA(d:∀id x,m' id=UF x->m id=UF x):∀(v:V)(u:Value),v.okA k=VA->Rel w m av R v u->Rel w m' (avK k) R v u
 |.pv p,u,_,h=>by simpa only[Rel]using h
 |.ptr id off,_,ho,h=>by simp only[V.okA]at ho;simp only[Rel]at h ⊢; exact⟨jy ho,λb N e=>h.2 b N (d _ _ e)⟩
 |.osl id sz n,_,ho,h=>by simp only[V.okA]at ho;simp only[Rel]at h ⊢; exact⟨jy ho,λb N e=>h.2 b N (d _ _ e)⟩
 |.tsl id sz n,_,ho,h=>by
   simp only[V.okA]at ho;simp only[Rel]at h ⊢;obtain⟨h0,A,c,e,h1⟩:=h;exact⟨jy ho,A,c,e,λhq b N e=>h1 hq b N (d _ _ e)⟩
 |.gsl id sz n,_,ho,h=>by
   simp only[V.okA]at ho;simp only[Rel]at h ⊢;obtain⟨h0,A,c,e,h1,h2,h3,h4⟩:=h;exact⟨jy ho,A,c,e,h1,h2,λq=>⟨(h3 q).1,(h3 q).2.1,py (λx=>d id x) (h3 q).2.2⟩,λhp b N e=>h4 hp b N (d _ _ e)⟩
 |.map id,_,ho,h=>by simp only[V.okA]at ho;simp only[Rel]at h ⊢; exact⟨jy ho,λb N e=>h.2 b N (d _ _ e)⟩
 |.agg cs,_,ho,h=>by
   simp only[V.okA]at ho;simp only[Rel]at h ⊢;obtain⟨us,e,h⟩:=h;exact⟨us,e,RelL.okA d cs us ho h⟩
 |.tup cs,_,ho,h=>by
   simp only[V.okA]at ho;simp only[Rel]at h ⊢;obtain⟨us,e,h⟩:=h;exact⟨us,e,RelL.okA d cs us ho h⟩
 |.fn f fs cs,_,ho,h=>by
   simp only[V.okA,dO]at ho;simp only[Rel]at h ⊢;obtain⟨us,vs,e,h1,h2⟩:=h;exact⟨us,vs,e,RelL.okA d fs us ho.1 h1,RelL.okA d cs vs ho.2 h2⟩
theorem RelL.okA(d:∀id x,m' id=UF x->m id=UF x):∀(vs:List V)(us:List Value),V.okL k vs=VA->RelL w m av R vs us->RelL w m' (avK k) R vs us
 |[],_,_,h=>by simpa only[RelL]using h
 | c::cs,_,ho,h=>by
   simp only[V.okL,dO]at ho;simp only[RelL]at h ⊢;obtain⟨u,vs,e,h1,h2⟩:=h;exact⟨u,vs,e,Rel.okA d c u ho.1 h1,RelL.okA d cs vs ho.2 h2⟩
end
end
def GY(σ:St):List (Nat×V)->Prop
 |[]=>True
 |(t,v)::l=>σ.sl t=v/\GY σ l
def Jj(σ:St):List (Nat×Ob)->Prop
 |[]=>True
 |(t,v)::l=>σ.ob t=UF v/\Jj σ l
theorem vU{σ:St}:∀{l:List (Nat×V)},GY σ l->∀t,look l t= .pv .any\/look l t=σ.sl t
 |[],_,_=> .inl O
 | (d,v)::l,h,t=>by
   simp only[look];cases hb:Nat.beq t d with
   |true=>have:=bZ hb;subst this;exact .inr h.1.symm
   |false=>simpa using vU h.2 t
theorem look_ok:∀{l:List (Nat×V)},l.all (λp=>p.2.okA k)=VA->∀t,(look l t).okA k=VA
 |[],_,_=>rfl
 | (d,v)::l,h,t=>by
   simp only[V1,dO]at h;simp only[look];cases hb:Nat.beq t d with
   |true=>exact h.1
   |false=>simpa using look_ok h.2 t
theorem j4{σ:St}:∀{l:List (Nat×Ob)},Jj σ l->l.all (λp=>(Nat.blt p.1 k||Nat.ble big p.1)&&p.2.okA k)=VA->∀t o,aA l t=UF o->σ.ob t=UF o/\avK k t=WA/\o.okA k=VA
 |[],_,_,_,_,h=>by simp[aA]at h
 | (d,v)::l,h,hk,t,o,ho=>by
   simp only[V1,dO]at hk;simp only[aA]at ho;cases hb:Nat.beq t d with
   | true=>
     have:=bZ hb;subst this;rw[hb]at ho;simp at ho;subst ho;exact⟨h.1,jy hk.1.1,hk.1.2⟩
   |false=>rw[hb]at ho;exact j4 h.2 hk.2 t o (by simpa using ho)
theorem TO{σ:St}{l:List (Nat×V)}{os:List (Nat×Ob)}(G:GY σ l)(B:Jj σ os)(H:l.all (λp=>p.2.okA k)=VA)(D:os.all (λp=>(Nat.blt p.1 k||Nat.ble big p.1)&&p.2.okA k)=VA):σ.le (mkS l os k):=by
 rintro C n a w ⟨m,R,hw⟩;refine⟨λid=>if(aA os id).isSome then m id else UG,R,?_⟩;have d:∀id x,(if(aA os id).isSome then m id else UG)=UF x->m id=UF x:=λid x e=>by
  split at e
  .exact e
  cases e
 refine⟨⟨?_,?_,?_,?_,?_,?_,?_,?_,?_,?_,?_⟩,hw.df,hw.sz,?_⟩
 .intro id;show(if(aA os id).isSome then m id else UG).isSome=bM (aA os id);cases e:aA os id with
  |none=>rfl
  | some o=>
    have:=hw.hr.dom id;rw[(j4 B D id o e).1]at this;simpa using this
 .intro id hid;show aA os id=UG;cases e:aA os id with
  |none=>rfl
  | some o=>
    have:=(j4 B D id o e).2.1;have r:avK k id=VA:=hid;rw[r]at this;cases this
 .intro id o b N h3 h4;have E:=j4 B D id o h3;have q:=hw.hr.obj id o b N E.1 (d _ _ h4);cases o with
  |cells ty cs=>exact q
  |gro ty cs=>exact q
  |mp ks vs=>exact q
  |it s pos=>exact q
  |fro s pos=>exact q
  |mi cur ks vs=>exact q
  | mix ty cs=>
    obtain⟨arr,q1,q2,q3,q4⟩:=q;exact⟨arr,q1,q2,q3,q4.okA d _ _ E.2.2⟩
 .exact λi j b N N' e1 e2=>hw.hr.inj i j b N N' (d _ _ e1) (d _ _ e2)
 .exact λid b N e=>hw.hr.own id b N (d _ _ e)
 .exact hw.hr.rsz
 .exact hw.hr.rfr
 .exact hw.hr.r0
 .exact hw.hr.frame
 .exact λid x hi e=>hw.hr.gY id x hi (d id x e)
 .exact λid hi=>di hi
 .intro t ht;show Rel w _ (avK k) R (look l t) _;rcases vU G t with e|e
  .rw[e];simp only[Rel,RelP]
  have:=look_ok H t;rw[e]at this ⊢;exact(hw.sl t ht).okA d _ _ this
def St.pub(σ:St)(id:Nat)(ts:List Nat)(p:PV):St:=⟨λt=>bif ts.contains t then .pv p else σ.sl t,obL [(id,UG)] σ.ob,σ.av⟩
def Pb(σ:St)(v:V):List Nat->Prop
 |[]=>True
 |t::ts=>σ.sl t=v/\Pb σ v ts
theorem x9{σ:St}{v:V}:∀{ts:List Nat},Pb σ v ts->∀t∈ts,σ.sl t=v
 |[],_,t,h=>by simp at h
 | q::ts,h,t,hm=>by
   rcases By.1 hm with rfl|hm
   .exact h.1
   exact x9 h.2 t hm
theorem St.Oc{σ:St}{cs:List PV}(id:Nat)(ts:List Nat)(J:σ.ob id=UF (.cells T cs))(E:Pb σ (.osl id sz k) ts)(L:k*sz<=cs.length):σ.le (σ.pub id ts (.sl UG k (cs.take (k*sz)))):=by
 rintro C n a w ⟨m,R,hw⟩;have G:=x9 E;obtain⟨b,N,hm,arr,hb,hN,hle,hr⟩:=hw.live J;have H:=hw.hr.own id b N hm;have r:=hw.drop id;have d:∀q,R q->(R q\/q=b)/\w.heap[q]? =w.heap[q]? :=λq hq=>⟨.inl hq,O⟩
 have B:∀i x,upd m id UG i=UF x->m i=UF x/\i≠id:=λi x e=>by grind[aB,aW]
 refine⟨upd m id UG,λq=>R q\/q=b,?_⟩;refine⟨⟨r.hr.dom,r.hr.free,?_,r.hr.inj,?_,?_,?_,?_,hw.hr.frame,r.hr.gY,r.hr.res⟩,hw.df,hw.sz,?_⟩
 .intro i o b' N' h1 h2;exact(r.hr.obj i o b' N' h1 h2).mono d (λ_ _ _ e=>e) (λ_ e=>e) O
 .intro i b' N' h1;obtain⟨h2,h3,h4⟩:=r.hr.own i b' N' h1;refine⟨h2,?_,h4⟩;rintro(h5|h5)
  .exact h3 h5
  exact(B i _ h1).2 (Im hw (B i _ h1).1 hm h5)
 .rintro q (hq|hq)
  .exact hw.hr.rsz q hq
  rw[hq];exact H.1
 .rintro q (hq|hq)
  .exact hw.hr.rfr q hq
  grind
 .exact λq hq=> .inl (hw.hr.r0 q hq)
 .intro t ht;show Rel w _ σ.av _ (bif ts.contains t then .pv _ else σ.sl t) _;cases hc:ts.contains t with
  |false=>exact(r.sl t ht).mono d (λ_ _ _ e=>e) (λ_ e=>e)
  | true=>
    have D:t∈ts:=by simpa using hc
    have I:=hw.sl t ht;rw[G t D]at I;simp only[Rel]at I;obtain⟨c,he,h1,h2,h3⟩:=I.2 b N hm;simp only[VG,Rel,RelP];refine⟨_,c,he,h1,h2,(λ_ e=>by cases e),(λe=>by cases e),λ_=>⟨b,0,_,rfl,(hr.take (k*sz)).mono d,.inr rfl,?_⟩⟩;intro j hj;simp only[OF]at hj;rw[UQ,cell_of_row w b j arr T (0,0) hb,Uw,AT XX,Uw,AT XX];simp
def V.Ka(ob:Nat->Option Ob):V->Option PV
 |.pv p=>UF p
 |.osl id sz k=>match ob id with
   |some (.cells _ cs)=>UF (.sl (UF WA) k cs)
   |_=>UG
 |.gsl id sz k=>match ob id with
   |some (.gro _ cs)=>UF (.sl UG k cs)
   |_=>UG
 |_=>UG
def V.ES(ob:Nat->Option Ob):List V->Option (List PV)
 |[]=>UF []
 | c::cs=>match c.Ka ob,V.ES ob cs with
   |some p,UF ps=>UF (p::ps)
   |_,_=>UG
def V.toP(ob:Nat->Option Ob):V->Option PV
 |.agg cs=>match V.ES ob cs with|some ps=>UF (.agg ps)|none=>UG
 |.fn f a b=>match V.ES ob a,V.ES ob b with|some ps,UF qs=>UF (.fn f ps qs)|_,_=>UG
 |v=>v.Ka ob
def V.args(ob:Nat->Option Ob):List V->Option (List PV)
 |[]=>UF []
 | c::cs=>match c.toP ob,V.args ob cs with
   |some p,UF ps=>UF (p::ps)
   |_,_=>UG
def eG(m:Gm)(b:Nat):Prop:=∃id N,m id=UF (b,N)
section
variable {C:Ctx}{n:Nat}{σ:St}{a:Act}{w:World}{m:Gm}{R:Nat->Prop}
theorem SW.Ka(E:SW C n σ a w m R){v:V}{p:PV}(h:Rel w m σ.av R v u)(r:v.Ka σ.ob=UF p):RelP w (λb=>R b\/eG m b) p u:=by
 have d:∀q,R q->(R q\/eG m q)/\w.heap[q]? =w.heap[q]? :=λq hq=>⟨.inl hq,O⟩
 cases v with
 |pv q=>simp only[V.Ka,Uo]at r;subst r;simp only[Rel]at h;exact h.mono d
 | osl id sz k=>
   simp only[V.Ka]at r;split at r
   .rename_i T cs ho;simp at r;subst r;obtain⟨b,N,hm,arr,hbk,hN,hle',hr⟩:=E.live ho;simp only[Rel]at h;obtain⟨c,he,h1,h2,h3⟩:=h.2 b N hm;simp only[RelP];refine⟨_,c,he,h1,h2,(λ_ e=>by cases e;rfl),(λe=>by cases e),λ_=>⟨b,0,_,rfl,hr.mono d,.inr ⟨id,N,hm⟩,?_⟩⟩;intro j hj;simp only[OF]at hj;rw[UQ,cell_of_row w b j arr T (0,0) hbk,Uw,AT XX];simp
   cases r
 | gsl id sz k=>
   simp only[V.Ka]at r;split at r
   .rename_i T cs ho;simp at r;subst r;simp only[Rel]at h;obtain⟨h0,A,c,he,h1,h2,h3,h4⟩:=h;simp only[RelP];refine⟨_,c,he,h1,h2,(λ_ e=>by cases e),(λe=>by cases e),λD=>?_⟩;have B:(Ob.gro T cs).real=VA:=by cases cs;exact absurd O D;rfl
    obtain⟨b,N,hm,arr,hbk,hN,hle',hr⟩:=E.live ho B;have G:0<k:=by grind
    refine⟨b,0,_,(h4 G b N hm).1,hr.mono d,.inr ⟨id,N,hm⟩,?_⟩;intro j hj;simp only[OF]at hj;rw[UQ,cell_of_row w b j arr T (0,0) hbk,Uw,AT XX];simp
   cases r
 |_=>simp[V.Ka]at r
theorem SW.ES(d:SW C n σ a w m R):∀{vs:List V}{us:List Value}{ps:List PV},RelL w m σ.av R vs us->V.ES σ.ob vs=UF ps->RelPL w (λb=>R b\/eG m b) ps us
 |[],_,_,h,hp=>by simp only[V.ES,Uo]at hp;subst hp;simpa only[RelL,RelPL]using h
 | c::cs,_,_,h,hp=>by
   simp only[V.ES]at hp;split at hp
   .rename_i p ps h1 h2;simp at hp;subst hp;simp only[RelL]at h;obtain⟨u,us,rfl,hc,hr⟩:=h;exact RelPL.cons (d.Ka hc h1) (SW.ES d hr h2)
   cases hp
theorem SW.toP(q:SW C n σ a w m R){v:V}{p:PV}(h:Rel w m σ.av R v u)(d:v.toP σ.ob=UF p):RelP w (λb=>R b\/eG m b) p u:=by
 cases v with
 | agg cs=>
   simp only[V.toP]at d;split at d
   .rename_i ps h1;simp at d;subst d;simp only[Rel]at h;obtain⟨us,rfl,hr⟩:=h;simp only[RelP];exact⟨us,O,q.ES hr h1⟩
   cases d
 | fn f a b=>
   simp only[V.toP]at d;split at d
   .rename_i ps qs h1 h2;simp at d;subst d;simp only[Rel]at h;obtain⟨us,vs,rfl,ha,hb⟩:=h;simp only[RelP];exact⟨us,vs,O,q.ES ha h1,q.ES hb h2⟩
   cases d
 |_=>exact q.Ka h d
theorem SW.args(d:SW C n σ a w m R):∀{vs:List V}{us:List Value}{ps:List PV},RelL w m σ.av R vs us->V.args σ.ob vs=UF ps->RelPL w (λb=>R b\/eG m b) ps us
 |[],_,_,h,hp=>by simp only[V.args,Uo]at hp;subst hp;simpa only[RelL,RelPL]using h
 | c::cs,_,_,h,hp=>by
   simp only[V.args]at hp;split at hp
   .rename_i p ps h1 h2;simp at hp;subst hp;simp only[RelL]at h;obtain⟨u,us,rfl,hc,hr⟩:=h;exact RelPL.cons (d.toP hc h1) (SW.args d hr h2)
   cases hp
theorem SW.evs(hw:SW C n σ a w m R):∀(xs:List Operand),RelL w m σ.av R (xs.map (σ.ev n)) (xs.map a.eval)
 |[]=>by simpa using RelL.nil
 |x::xs=>by simpa using RelL.cons (hw.ev x) (SW.evs hw xs)
end
def PV.fg1:PV->PV
 |.sl _ n cs=> .sl UG n cs
 |p=>p
def PV.fgL:List PV->List PV
 |[]=>[]
 |p::ps=>p.fg1::PV.fgL ps
def PV.fg:PV->PV
 |.agg cs=> .agg (PV.fgL cs)
 |.tup cs=> .tup (PV.fgL cs)
 |p=>p.fg1
def PV.fgA:List PV->List PV
 |[]=>[]
 |p::ps=>p.fg::PV.fgA ps
theorem RelP.fg1{p:PV}(h:RelP w R p u):RelP w R p.fg1 u:=by
 cases p with
 | sl b n cs=>
   simp only[RelP,PV.fg1]at h ⊢;obtain⟨A,c,e,h1,h2,_,_,h5⟩:=h;exact⟨A,c,e,h1,h2,(λ_ e=>by cases e),(λe=>by cases e),h5⟩
 |_=>exact h
theorem RelPL.fgL:∀{ps:List PV}{us:List Value},RelPL w R ps us->RelPL w R (PV.fgL ps) us
 |[],_,h=>h
 | p::ps,_,h=>by
   simp only[RelPL,PV.fgL]at h ⊢;obtain⟨u,vs,e,h1,h2⟩:=h;exact⟨u,vs,e,h1.fg1,RelPL.fgL h2⟩
theorem RelP.fg{p:PV}(h:RelP w R p u):RelP w R p.fg u:=by
 cases p with
 | agg cs=>
   simp only[RelP,PV.fg]at h ⊢;obtain⟨us,e,h⟩:=h;exact⟨us,e,h.fgL⟩
 | tup cs=>
   simp only[RelP,PV.fg]at h ⊢;obtain⟨us,e,h⟩:=h;exact⟨us,e,h.fgL⟩
 |_=>exact h.fg1
theorem RelPL.fgA:∀{ps:List PV}{us:List Value},RelPL w R ps us->RelPL w R (PV.fgA ps) us
 |[],_,h=>h
 | p::ps,_,h=>by
   simp only[RelPL,PV.fgA]at h ⊢;obtain⟨u,vs,e,h1,h2⟩:=h;exact⟨u,vs,e,h1.fg,RelPL.fgA h2⟩
def St.fgS(σ:St)(ts:List Nat):St:=⟨λt=>bif ts.contains t then(match σ.sl t with|.pv p=> .pv p.fg|v=>v)else σ.sl t,σ.ob,σ.av⟩
theorem St.lT{σ:St}(ts:List Nat):σ.le (σ.fgS ts):=by
 rintro C n a w ⟨m,R,hw⟩;refine⟨m,R,hw.hr,hw.df,hw.sz,λt ht=>?_⟩;have h:=hw.sl t ht;show Rel w m σ.av R (bif ts.contains t then(match σ.sl t with|.pv p=> .pv p.fg|v=>v)else σ.sl t) _;cases ts.contains t
 .exact h
 simp only[VG];cases hv:σ.sl t with
 |pv p=>rw[hv]at h;simp only[Rel]at h ⊢; exact h.fg
 |_=>rw[hv]at h;exact h
def St.fgO(σ:St)(id:Nat)(T:TypeId)(cs:List PV):St:=⟨σ.sl,obL [(id,UF (.cells T (PV.fgL cs)))] σ.ob,σ.av⟩
theorem PV.n9:∀cs:List PV,(PV.fgL cs).length=cs.length
 |[]=>rfl
 |_::cs=>by simp[PV.fgL,PV.n9 cs]
theorem Uh:∀(wr:List (Nat×Option Ob))(f:Nat->Option Ob)(i:Nat),obL wr f i=f i\/∃p∈wr,p.1=i/\obL wr f i=p.2
 |[],_,_=> .inl O
 | (j,o)::wr,f,i=>by
   simp only[obL];cases hb:Nat.beq i j with
   |true=>exact .inr ⟨_,Vx,(bZ hb).symm,O⟩
   |false=>exact(Uh wr f i).imp id fun⟨p,hp,h⟩=>⟨p,U0 _ hp,h⟩
theorem St.Uc{σ:St}{sl':Nat->V}{wr:List (Nat×Option Ob)}(h:∀{C:Ctx}{n:Nat}{a:Act}{w:World}{m:Gm}{R:Nat->Prop},SW C n σ a w m R->(∀t,t<n->Rel w m σ.av R (sl' t) (a.eval (.tmp t)))/\
  ∀p∈wr,∃o o',σ.ob p.1=UF o/\p.2=UF o'/\o'.real=o.real/\∀b N,m p.1=UF (b,N)->nv w m σ.av R b N o->nv w m σ.av R b N o'):σ.le ⟨sl',obL wr σ.ob,σ.av⟩:=by
 rintro C n a w ⟨m,R,hw⟩;obtain⟨h1,h2⟩:=h hw;refine⟨m,R,⟨λi=>?_,λi hi=>?_,λi o b N e1 e2=>?_,hw.hr.inj,hw.hr.own,hw.hr.rsz,hw.hr.rfr,hw.hr.r0,hw.hr.frame,hw.hr.gY,hw.hr.res⟩,hw.df,hw.sz,h1⟩
 .have hd:=hw.hr.dom i;show _=bM (obL wr σ.ob i);rcases Uh wr σ.ob i with e|⟨p,hp,rfl,e⟩
  .rw[e];exact hd
  obtain⟨o,o',g1,g2,g3,_⟩:=h2 p hp;rw[e,g2];rw[g1]at hd;exact hd.trans g3.symm
 .have hf:=hw.hr.free i hi;show obL wr σ.ob i=UG;rcases Uh wr σ.ob i with e|⟨p,hp,rfl,e⟩
  .rw[e];exact hf
  obtain⟨o,o',g1,_⟩:=h2 p hp;rw[g1]at hf;cases hf
 have e1:obL wr σ.ob i=UF o:=e1;rcases Uh wr σ.ob i with e|⟨p,hp,rfl,e⟩
 .exact hw.hr.obj i o b N (e.symm.trans e1) e2
 obtain⟨o1,o',g1,g2,_,g4⟩:=h2 p hp;rw[e1,g2]at e;cases e;exact g4 b N e2 (hw.hr.obj _ o1 b N g1 e2)
theorem St.Tj{σ:St}{cs:List PV}(q:σ.ob id=UF (.cells T cs)):σ.le (σ.fgO id T cs):=
 St.Uc λd=>⟨d.sl,λp hp=>by
  obtain rfl:=IT.1 hp;exact⟨_,_,q,O,O,λb N _ ⟨arr,q1,q2,q3,q4⟩=>⟨arr,q1,q2,by rw[PV.n9];exact q3,by rw[PV.n9];exact q4.fgL⟩⟩⟩
def FnP(P:Program)(f:FuncId)(args:List PV)(Q:PV->Prop):Prop:=
 ∀(w:World)(R:Nat->Prop)(us:List Value),rN w R->(∀b,R b->b<w.heap.size)->RelPL w R args us->
  Calls P f us.toArray w λe w'=>∃u v,e= .returned u/\Q v/\Below w.heap.size w w'/\RelP w' (λb=>R b\/(w.heap.size<=b/\b<w'.heap.size)) v u
theorem FnP.mono{args:List PV}{Q Q':PV->Prop}(h:FnP P f args Q)(d:∀v,Q v->Q' v):FnP P f args Q':=
 λw R us h0 h1 h2=>(h w R us h0 h1 h2).mono λ_ _ ⟨u,v,e,q,r⟩=>⟨u,v,e,d v q,r⟩
def db(P:Program)(f:FuncId):Prop:=∀args w,(callFunc f args).run P w= .ok (.enter f args) w
def PV.flat:PV->Bool
 |.int _ _|.bool _|.str _|.nilfn|.nilptr|.nilmap|.niliface|.any=>VA
 |.tup ps=>ps.all fun|.int _ _|.bool _|.str _=>VA|_=>WA
 |.agg ps=>ps.all fun|.int _ _|.bool _|.str _=>VA|_=>WA
 |_=>WA
theorem Ps{w':World}{R':Nat->Prop}:∀{ps:List PV}{us:List Value},(ps.all fun|.int _ _|.bool _|.str _=>VA|_=>WA)=VA->RelPL w R ps us->RelPL w' R' ps us
 |[],_,_,h=>by simpa only[RelPL]using h
 | c::cs,_,hf,h=>by
   simp only[V1,dO]at hf;simp only[RelPL]at h ⊢;obtain⟨u,us,e,hc,hr⟩:=h;refine⟨u,us,e,?_,Ps hf.2 hr⟩;cases c<;>simp at hf<;>simpa only[RelP]using hc
theorem RelP.flat{w':World}{R':Nat->Prop}{p:PV}(d:p.flat=VA)(h:RelP w R p u):RelP w' R' p u:=by
 cases p<;>simp only[PV.flat,Vv]at d<;>simp only[RelP]at h ⊢
 case agg ps=>obtain⟨us,e,h⟩:=h;exact⟨us,e,Ps d h⟩
 case tup ps=>obtain⟨us,e,h⟩:=h;exact⟨us,e,Ps d h⟩
 all_goals exact h
section
variable {C:Ctx}{n:Nat}{σ:St}{dst:Option Tmp}{ty:TypeId}{ts:Array TypeId}{pos:String}{after:Array Edge}{gd:Option (Nat×Bool)}
theorem SW.called{w':World}(d:SW C n σ a w m R)(q:Below w.heap.size w w'):
  SW C n σ a w' m (λb=>R b\/(w.heap.size<=b/\b<w'.heap.size)):=by
 have r:∀b,R b->(R b\/(w.heap.size<=b/\b<w'.heap.size))/\w'.heap[b]? =w.heap[b]? :=λb h=>⟨.inl h,q.block b (d.hr.rsz b h)⟩
 have:=d.world (w':=w') (m':=m) (R':=λb=>R b\/(w.heap.size<=b/\b<w'.heap.size)) (ob':=σ.ob) (av':=σ.av) ?_ r (λ_ _ _ e=>e) (λ_ e=>e)
 .exact this
 refine⟨d.hr.dom,d.hr.free,?_,d.hr.inj,?_,?_,?_,λb h=> .inl (d.hr.r0 b h),?_,d.hr.gY,d.hr.res⟩
 .intro i o b N h1 h2;exact(d.hr.obj i o b N h1 h2).mono r (λ_ _ _ e=>e) (λ_ e=>e) (q.block b (d.hr.own i b N h2).1)
 .intro i b N h1;obtain⟨h2,h3,h4⟩:=d.hr.own i b N h1;refine⟨Uq h2 q.size,?_,h4⟩;rintro(h5|h5)
  .exact h3 h5
  omega
 .rintro b (h|h)
  .exact Uq (d.hr.rsz b h) q.size
  exact h.2
 .rintro b (h|h)
  .exact d.hr.rfr b h
  exact .inr (.inl (AI d.hr.frame.size h.1))
 refine⟨q.os.trans d.hr.frame.os,q.tape.trans d.hr.frame.tape,q.output.trans d.hr.frame.output,AI d.hr.frame.size q.size,λk hk hF=>?_⟩;rw[q.block k (Uq hk d.hr.frame.size)];exact d.hr.frame.block k hk hF
theorem oL(hc:db P f)(xs:Array Operand)(a:Act)(w:World):
  (execOp a.eval ⟨dst,.call { callee:=.value (.func f),args:=xs,argTypes:=ts },ty,pos,after,gd⟩).run P w= .ok (.enter f (xs.map a.eval)) w:=by
 simp[execOp,resolve,Deferred.ofValue,Act.eval,invoke,hc];exact hc _ _
theorem gZ{ps:List PV}{Q:PV->Prop}{K:St->Prop}(hc:db C.P f)(D:FnP C.P f ps Q)(d:(V.args (λ_=>UG) (xs.toList.map (σ.ev n))).map PV.fgA=UF ps)(E:∀v,Q v->K (σ.put dst (.pv v))):
  OJ C n ⟨dst,.call { callee:=.value (.func f),args:=xs,argTypes:=ts },ty,pos,after,gd⟩ K σ:=by
 rintro a w Q' ⟨m,R,hw⟩;unfold Oper.wp;rw[oL hc];have q:RelPL w R ps (xs.toList.map a.eval):=by
  have r:SW C n ⟨σ.sl,λ_=>UG,σ.av⟩ a w (λ_=>UG) R:=by
   refine⟨⟨λ_=>rfl,λ_ _=>rfl,λ_ _ _ _ h=>(by cases h),λ_ _ _ _ _ h=>(by cases h),λ_ _ _ h=>(by cases h),hw.hr.rsz,hw.hr.rfr,hw.hr.r0,hw.hr.frame,λ_ _ _ h=>(by cases h),hw.hr.res⟩,hw.df,hw.sz,λt ht=>(hw.sl t ht).mono (λb h=>⟨h,rfl⟩) (λ_ _ _ e=>by cases e) (λ_ e=>e)⟩
  obtain⟨ps0,hargs0,rfl⟩:=Wj.1 d;have B:=(r.args (r.evs xs.toList) hargs0).fgA;exact B.mono λb hb=>⟨hb.elim id (fun⟨_,_,h⟩=>by cases h),rfl⟩
 have:=D w R (xs.toList.map a.eval) hw.hr.gi hw.hr.rsz q;have e:(xs.toList.map a.eval).toArray=xs.map a.eval:=by rw[<-Array.toList_map,Array.toArray_toList]
 rw[e]at this;refine Calls.mono this ?_;rintro e w' ⟨u,v,rfl,hq,hb,hr⟩;exact⟨_,E v hq,m,_,(hw.called hb).put dst (by simpa only[Rel]using hr)⟩
theorem aa{ps:List PV}{r:PV}(hc:db C.P f)(q:FnP C.P f ps (· =r))(d:(V.args (λ_=>UG) (xs.toList.map (σ.ev n))).map PV.fgA=UF ps):
  XJ C n ⟨dst,.call { callee:=.value (.func f),args:=xs,argTypes:=ts },ty,pos,after,gd⟩ σ ⟨.pv r,[],[]⟩:=
 gZ hc q d (by rintro v rfl;exact(St.jc σ dst _).symm)
theorem LM{ps:List PV}{Q:PV->Prop}{K:St->Prop}(hc:db C.P f)(B:FnP C.P f ps Q)(d:(V.args σ.ob (xs.toList.map (σ.ev n))).map PV.fgA=UF ps)(r:∀v,Q v->v.flat=VA)(D:∀v,Q v->K (σ.put dst (.pv v))):
  OJ C n ⟨dst,.call { callee:=.value (.func f),args:=xs,argTypes:=ts },ty,pos,after,gd⟩ K σ:=by
 rintro a w Q' ⟨m,R,hw⟩;unfold Oper.wp;rw[oL hc];obtain⟨ps0,hargs0,rfl⟩:=Wj.1 d;have q:=(hw.args (hw.evs xs.toList) hargs0).fgA;have:=B w (λb=>R b\/eG m b) (xs.toList.map a.eval) (hw.hr.gi.mono λb hb=>⟨.inl hb,O⟩) (by rintro b (h|⟨id,N,h⟩);exact hw.hr.rsz b h;exact(hw.hr.own id b N h).1) q;have e:(xs.toList.map a.eval).toArray=xs.map a.eval:=by rw[<-Array.toList_map,Array.toArray_toList]
 rw[e]at this;refine Calls.mono this ?_;rintro e w' ⟨u,v,rfl,hq,hb,hr⟩;exact⟨_,D v hq,m,_,(hw.called hb).put dst (by simp only[Rel];exact hr.flat (r v hq))⟩
theorem uZ{ps:List PV}{r:PV}(hc:db C.P f)(B:FnP C.P f ps (· =r))(d:(V.args σ.ob (xs.toList.map (σ.ev n))).map PV.fgA=UF ps)(q:r.flat=VA):
  XJ C n ⟨dst,.call { callee:=.value (.func f),args:=xs,argTypes:=ts },ty,pos,after,gd⟩ σ ⟨.pv r,[],[]⟩:=
 LM hc B d (by rintro v rfl;exact q) (by rintro v rfl;exact(St.jc σ dst _).symm)
end
def jr:Nat->List PV->List (Nat×V)
 |_,[]=>[]
 |k,p::ps=>(k,.pv p)::jr (k+1) ps
def Be(n:Nat)(σ:St):List ResultVar->Option (List V)
 |[]=>UF []
 |.tmp t::l=>match Be n σ l with|some vs=>UF (σ.ev n (.tmp t)::vs)|none=>UG
 |_::_=>UG
def fT:List PV->PV
 |[p]=>p
 |ps=> .tup ps
def retQ(fn:Func)(n:Nat)(Q:PV->Prop):Exit->St->Prop
 |.ret,σ|.normal,σ=>∃vs ps,Be n σ fn.results.toList=UF vs/\V.args σ.ob vs=UF ps/\Q (fT ps)
 |_,_=>False
end
end Go.Proofs.YtameambcolibjaaGreatDoor
