/- Lemmas. No condition. -/
import Derived.Test.YtkkenamefaegfaaGreatDoorRows
import Derived.WalkKit
import Derived.WalkSpells
import Derived.WalkLawsBesides
import Derived.Maps.AppendAt
import Derived.Orders
import Derived.Deep.QuietTactic
import Derived.BigQuiet
import Derived.Deep.Draws
import Derived.Lib.Hide
import Derived.RegionTactic
import Derived.Deep.RegionLaw
import Derived.Deep.MidRow
set_option maxRecDepth 100000
set_option maxHeartbeats 4000000
open Go.RowKit Go.Proofs.Tryz
open Option renaming some→UF,none→UG
open Bool renaming true→VA,false→VC
namespace Go.Proofs.YtkkenamefaegfaaGreatDoor
variable{p:Prop}{b:Bool}{off N id k sz size n o bytes:Nat}{us:List Value}{u z:Value}{α:Type}{w:World}{R:Nat->Prop}{P:Program}{d:Option Tmp}{t s e T:TypeId}{c x y:Code}{a:Act}{j i il ih:Int}{xs:Array Operand}{kk kl kh:IntKind}{bn:Option Bool}{f:FuncId}
theorem ah:type_of% @congrArg:=@congrArg
theorem aq:type_of% @List.getElem_mem:=@List.getElem_mem
theorem aH:type_of% @List.take_of_length_le:=@List.take_of_length_le
theorem aJ:type_of% @Nat.zero_le:=@Nat.zero_le
theorem cd:type_of% @Nat.eq_of_beq_eq_true:=@Nat.eq_of_beq_eq_true
theorem cu:type_of% @List.map_cons:=@List.map_cons
theorem du:type_of% @Bool.and_eq_true:=@Bool.and_eq_true
theorem sh:type_of% @if_neg:=@if_neg
theorem AI:type_of% @List.take_succ_eq_append_getElem:=@List.take_succ_eq_append_getElem
theorem AS:type_of% @Nat.le_trans:=@Nat.le_trans
theorem AT:type_of% @Nat.le_refl:=@Nat.le_refl
theorem Bg:type_of% @Int.eq_ofNat_of_zero_le:=@Int.eq_ofNat_of_zero_le
theorem By:type_of% @if_pos:=@if_pos
theorem BY:type_of% @List.mem_cons:=@List.mem_cons
theorem IN:type_of% @List.length_append:=@List.length_append
theorem IS:type_of% @List.getElem?_eq_getElem:=@List.getElem?_eq_getElem
theorem IT:type_of% @List.length_cons:=@List.length_cons
theorem OF:type_of% @List.all_eq_true:=@List.all_eq_true
theorem Tz:type_of% @decide_eq_true_eq:=@decide_eq_true_eq
theorem TB:type_of% @List.length_map:=@List.length_map
theorem TC:type_of% @List.length_take:=@List.length_take
theorem TD:type_of% @decide_eq_true:=@decide_eq_true
theorem TE:type_of% @List.getElem?_eq_some_iff:=@List.getElem?_eq_some_iff
theorem TF:type_of% @List.mem_singleton:=@List.mem_singleton
theorem TG:type_of% @List.mem_map:=@List.mem_map
theorem TH:type_of% @Array.getElem?_eq_some_iff:=@Array.getElem?_eq_some_iff
theorem TJ:type_of% @Option.some.injEq:=@Option.some.injEq
theorem TL:type_of% @decide_eq_false:=@decide_eq_false
theorem TM:type_of% @Nat.lt_of_lt_of_le:=@Nat.lt_of_lt_of_le
theorem TN:type_of% @List.drop_eq_getElem_cons:=@List.drop_eq_getElem_cons
theorem TO:type_of% @List.getD_eq_getElem?_getD:=@List.getD_eq_getElem?_getD
theorem TP:type_of% @List.length_singleton:=@List.length_singleton
theorem TQ:type_of% @List.length_set:=@List.length_set
theorem TS:type_of% @List.getElem?_take:=@List.getElem?_take
theorem TU:type_of% @Int.toNat_natCast:=@Int.toNat_natCast
theorem TV:type_of% @Nat.le_of_ble_eq_true:=@Nat.le_of_ble_eq_true
theorem TW:type_of% @Int.natAbs_natCast:=@Int.natAbs_natCast
theorem TX:type_of% @Eq.trans:=@Eq.trans
theorem TY:type_of% @Bool.eq_iff_iff:=@Bool.eq_iff_iff
theorem TZ:type_of% @Nat.mul_one:=@Nat.mul_one
theorem T0:type_of% @List.flatMap_cons:=@List.flatMap_cons
theorem T3:type_of% @List.Perm.refl:=@List.Perm.refl
theorem T4:type_of% @List.size_toArray:=@List.size_toArray
theorem T5:type_of% @Bool.or_eq_false_iff:=@Bool.or_eq_false_iff
theorem T6:type_of% @List.eq_nil_of_length_eq_zero:=@List.eq_nil_of_length_eq_zero
theorem T7:type_of% @Option.isSome_iff_exists:=@Option.isSome_iff_exists
theorem T8:type_of% @Nat.zero_add:=@Nat.zero_add
theorem T9:type_of% @Nat.mul_le_mul_left:=@Nat.mul_le_mul_left
theorem Ua:type_of% @Array.length_toList:=@Array.length_toList
theorem Ub:type_of% @Bool.or_eq_true:=@Bool.or_eq_true
theorem Uc:type_of% @List.map_append:=@List.map_append
theorem Ud:type_of% @List.map_congr_left:=@List.map_congr_left
theorem Ue:type_of% @cond_false:=@cond_false
theorem Uf:type_of% @List.mem_append:=@List.mem_append
theorem Ug:type_of% @List.take_append_drop:=@List.take_append_drop
theorem Uh:type_of% @List.append_nil:=@List.append_nil
theorem Ui:type_of% @Classical.byContradiction:=@Classical.byContradiction
theorem Uj:type_of% @List.pairwise_iff_getElem:=@List.pairwise_iff_getElem
theorem Uk:type_of% @List.mem_flatMap:=@List.mem_flatMap
theorem Ul:type_of% @Nat.min_eq_left:=@Nat.min_eq_left
theorem Um:type_of% @Nat.pow_succ:=@Nat.pow_succ
theorem Un:type_of% @List.map_nil:=@List.map_nil
theorem Uo:type_of% @Nat.mul_comm:=@Nat.mul_comm
theorem Up:type_of% @List.sum_cons:=@List.sum_cons
theorem Uq:type_of% @List.length_pos_iff:=@List.length_pos_iff
theorem Ur:type_of% @List.mem_cons_of_mem:=@List.mem_cons_of_mem
theorem Us:type_of% @List.flatMap_append:=@List.flatMap_append
theorem Ut:type_of% @List.pairwise_cons:=@List.pairwise_cons
theorem Uu:type_of% @List.drop_of_length_le:=@List.drop_of_length_le
theorem Uv:type_of% @List.nil_append:=@List.nil_append
theorem Uw:type_of% @beq_self_eq_true:=@beq_self_eq_true
theorem Ux:type_of% @List.getElem_of_mem:=@List.getElem_of_mem
theorem Uy:type_of% @Nat.mul_le_mul:=@Nat.mul_le_mul
theorem Uz:type_of% @List.cons_append:=@List.cons_append
theorem UH:type_of% @Nat.mod_lt:=@Nat.mod_lt
theorem UI:type_of% @List.not_mem_nil:=@List.not_mem_nil
theorem UJ:type_of% @Nat.eq_zero_or_pos:=@Nat.eq_zero_or_pos
theorem UK:type_of% @Nat.mul_le_mul_right:=@Nat.mul_le_mul_right
theorem UL:type_of% @List.ext_getElem:=@List.ext_getElem
theorem UM:type_of% @Nat.le_of_eq:=@Nat.le_of_eq
theorem UN:type_of% @List.getElem?_drop:=@List.getElem?_drop
theorem UO:type_of% @Bool.false_eq_true:=@Bool.false_eq_true
theorem UP:type_of% @List.getElem_map:=@List.getElem_map
theorem UQ:type_of% @List.length_drop:=@List.length_drop
theorem UR:type_of% @List.mem_range:=@List.mem_range
theorem US:type_of% @List.map_set:=@List.map_set
theorem UT:type_of% @List.filter_sublist:=@List.filter_sublist
theorem UU:type_of% @beq_eq_false_iff_ne:=@beq_eq_false_iff_ne
theorem UW:type_of% @List.mem_filter:=@List.mem_filter
theorem UX:type_of% @List.getElem?_of_mem:=@List.getElem?_of_mem
theorem UY:type_of% @Nat.pow_le_pow_right:=@Nat.pow_le_pow_right
theorem UZ:type_of% @List.length_filter_le:=@List.length_filter_le
theorem U0:type_of% @List.foldl_cons:=@List.foldl_cons
theorem U1:type_of% @Nat.mul_assoc:=@Nat.mul_assoc
theorem U3:type_of% @cond_true:=@cond_true
theorem U4:type_of% @List.findIdx?_eq_some_iff_getElem:=@List.findIdx?_eq_some_iff_getElem
theorem U5:type_of% @List.mem_of_getElem?:=@List.mem_of_getElem?
theorem U6:type_of% @beq_iff_eq:=@beq_iff_eq
theorem U7:type_of% @decide_eq_false_iff_not:=@decide_eq_false_iff_not
theorem U8:type_of% @List.cons.injEq:=@List.cons.injEq
theorem U9:type_of% @Array.getElem?_setIfInBounds_ne:=@Array.getElem?_setIfInBounds_ne
theorem Va:type_of% @List.map_map:=@List.map_map
theorem Vb:type_of% @Array.getD_eq_getD_getElem?:=@Array.getD_eq_getD_getElem?
theorem Vc:type_of% @Bool.or_false:=@Bool.or_false
theorem Vd:type_of% @Nat.lt_succ_iff_lt_or_eq:=@Nat.lt_succ_iff_lt_or_eq
theorem Ve:type_of% @List.any_eq_true:=@List.any_eq_true
theorem Vf:type_of% @Nat.le_add_right:=@Nat.le_add_right
theorem Vg:type_of% @Bool.not_eq_true':=@Bool.not_eq_true'
theorem Vh:type_of% @List.nodup_cons:=@List.nodup_cons
theorem Vi:type_of% @of_decide_eq_true:=@of_decide_eq_true
theorem Vj:type_of% @decide_eq_true_iff:=@decide_eq_true_iff
theorem Vk:type_of% @of_decide_eq_false:=@of_decide_eq_false
theorem Vl:type_of% @List.length_replicate:=@List.length_replicate
theorem Vm:type_of% @List.mem_take_iff_getElem:=@List.mem_take_iff_getElem
theorem Vn:type_of% @Int.natCast_mul:=@Int.natCast_mul
theorem Vo:type_of% @Nat.lt_or_ge:=@Nat.lt_or_ge
theorem Vp:type_of% @List.mem_of_mem_take:=@List.mem_of_mem_take
theorem Vq:type_of% @List.mem_of_mem_drop:=@List.mem_of_mem_drop
theorem Vr:type_of% @List.mem_cons_self:=@List.mem_cons_self
theorem Vs:type_of% @List.Pairwise.sublist:=@List.Pairwise.sublist
theorem Vt:type_of% @Nat.add_zero:=@Nat.add_zero
theorem Vu:type_of% @Option.map_some:=@Option.map_some
theorem Vv:type_of% @List.getElem?_replicate:=@List.getElem?_replicate
theorem Vx:type_of% @List.pairwise_map:=@List.pairwise_map
theorem Vy:type_of% @Nat.mul_add:=@Nat.mul_add
theorem Vz:type_of% @Option.map_eq_some_iff:=@Option.map_eq_some_iff
theorem VG:type_of% @Nat.blt_eq:=@Nat.blt_eq
theorem VH:type_of% @Array.getElem?_setIfInBounds:=@Array.getElem?_setIfInBounds
theorem VI:type_of% @List.length_nil:=@List.length_nil
theorem VJ:type_of% @Option.some.inj:=@Option.some.inj
theorem VK:type_of% @List.set_eq_take_append_cons_drop:=@List.set_eq_take_append_cons_drop
theorem VL:type_of% @List.all_cons:=@List.all_cons
theorem VM:type_of% @List.take_length:=@List.take_length
theorem VN:type_of% @List.foldl_append:=@List.foldl_append
theorem VO:type_of% @List.getElem?_map:=@List.getElem?_map
theorem VP:type_of% @Nat.not_lt_zero:=@Nat.not_lt_zero
theorem VR:type_of% @Nat.div_eq_of_lt:=@Nat.div_eq_of_lt
theorem VT:type_of% @List.flatMap_map:=@List.flatMap_map
theorem VU:type_of% @Nat.mod_eq_of_lt:=@Nat.mod_eq_of_lt
theorem VV:type_of% @List.mem_of_find?_eq_some:=@List.mem_of_find?_eq_some
theorem VW:type_of% @eq_false_of_ne_true:=@eq_false_of_ne_true
theorem VY:type_of% @List.map_eq_nil_iff:=@List.map_eq_nil_iff
theorem VZ:type_of% @List.append_assoc:=@List.append_assoc
theorem V0:type_of% @List.all_eq_false:=@List.all_eq_false
theorem V1:type_of% @ByteArray.size_append:=@ByteArray.size_append
theorem V2:type_of% @Nat.div_lt_iff_lt_mul:=@Nat.div_lt_iff_lt_mul
theorem V3:type_of% @Nat.ble_eq_true_of_le:=@Nat.ble_eq_true_of_le
theorem V4:type_of% @Nat.le_div_iff_mul_le:=@Nat.le_div_iff_mul_le
theorem V5:type_of% @Rat.intCast_mul:=@Rat.intCast_mul
theorem V6:type_of% @Nat.pos_of_ne_zero:=@Nat.pos_of_ne_zero
theorem V7:type_of% @List.mem_iff_getElem:=@List.mem_iff_getElem
theorem V8:type_of% @Option.getD_some:=@Option.getD_some
theorem V9:type_of% @or_false:=@or_false
theorem Wc:type_of% @List.flatMap_nil:=@List.flatMap_nil
theorem Wd:type_of% @Array.replicate_succ:=@Array.replicate_succ
theorem We:type_of% @Array.replicate_zero:=@Array.replicate_zero
theorem Wf:type_of% @List.map_flatMap:=@List.map_flatMap
theorem Wg:type_of% @List.mem_append_left:=@List.mem_append_left
theorem Wh:type_of% @Bool.and_true:=@Bool.and_true
theorem Wi:type_of% @Nat.add_comm:=@Nat.add_comm
theorem Wj:type_of% @List.nodup_append:=@List.nodup_append
theorem Wl:type_of% @List.mergeSort_of_pairwise:=@List.mergeSort_of_pairwise
theorem Wm:type_of% @List.replicate_succ:=@List.replicate_succ
theorem Wn:type_of% @List.append_toArray:=@List.append_toArray
theorem Wo:type_of% @List.range_succ:=@List.range_succ
theorem Wp:type_of% @List.filter_cons:=@List.filter_cons
theorem Wq:type_of% @Nat.lt_of_le_of_lt:=@Nat.lt_of_le_of_lt
theorem Wr:type_of% @List.map_toArray:=@List.map_toArray
theorem Ws:type_of% @Bool.true_and:=@Bool.true_and
theorem Wt:type_of% @List.push_toArray:=@List.push_toArray
theorem Wu:type_of% @List.pairwise_mergeSort:=@List.pairwise_mergeSort
theorem Wv:type_of% @List.length_eq_zero_iff:=@List.length_eq_zero_iff
theorem Ww:type_of% @List.ext_getElem?:=@List.ext_getElem?
theorem Wx:type_of% @Nat.div_add_mod:=@Nat.div_add_mod
theorem Wy:type_of% @UInt8.toNat_inj:=@UInt8.toNat_inj
theorem Wz:type_of% @List.all_append:=@List.all_append
theorem WE:type_of% @List.take_succ_cons:=@List.take_succ_cons
theorem WG:type_of% @Nat.le_of_lt:=@Nat.le_of_lt
theorem WH:type_of% @if_true:=@if_true
theorem WI:type_of% @List.take_zero:=@List.take_zero
theorem WJ:type_of% @List.getElem_range:=@List.getElem_range
theorem WK:type_of% @List.filter_append:=@List.filter_append
theorem WL:type_of% @Int.natAbs_mul:=@Int.natAbs_mul
theorem WM:type_of% @List.mem_append_right:=@List.mem_append_right
theorem WN:type_of% @Array.getElem?_modify:=@Array.getElem?_modify
theorem WO:type_of% @Array.getElem?_toList:=@Array.getElem?_toList
theorem WQ:type_of% @Array.toList_push:=@Array.toList_push
theorem WR:type_of% @Nat.lt_trans:=@Nat.lt_trans
theorem WT:type_of% @List.getElem?_set:=@List.getElem?_set
theorem WU:type_of% @List.cons.inj:=@List.cons.inj
theorem WV:type_of% @List.mergeSort_perm:=@List.mergeSort_perm
theorem WW:type_of% @List.map_eq_flatMap:=@List.map_eq_flatMap
theorem WX:type_of% @decide_eq_decide:=@decide_eq_decide
theorem WY:type_of% @List.map_fst_zip:=@List.map_fst_zip
theorem WZ:type_of% @if_false:=@if_false
theorem W5:type_of% @List.take_take:=@List.take_take
theorem W6:type_of% @List.perm_middle:=@List.perm_middle
theorem W7:type_of% @List.map_id:=@List.map_id
theorem W8:type_of% @Nat.mul_pos:=@Nat.mul_pos
theorem W9:type_of% @Rat.add_zero:=@Rat.add_zero
theorem Xa:type_of% @Nat.mul_zero:=@Nat.mul_zero
theorem Xb:type_of% @Bool.or_true:=@Bool.or_true
theorem Xc:type_of% @Nat.le_max_left:=@Nat.le_max_left
theorem Xd:type_of% @Nat.div_le_self:=@Nat.div_le_self
theorem Xe:type_of% @Nat.add_mul:=@Nat.add_mul
theorem Xf:type_of% @Rat.mul_zero:=@Rat.mul_zero
theorem Xg:type_of% @Nat.succ_mul:=@Nat.succ_mul
theorem Xh:type_of% @List.all_nil:=@List.all_nil
theorem Xi:type_of% @Nat.zero_mul:=@Nat.zero_mul
theorem Xj(h:p:=by omega):p:=h
theorem Xk(h:p:=by kernel_rfl):p:=h
theorem Xl(h:p:=by decide):p:=h
theorem Xm(h:p:=by assumption):p:=h
theorem Xn(h:p:=by simp):p:=h
theorem Xo(h:p:=by simp;omega):p:=h
theorem Xp(h:p:=by simp only;omega):p:=h
theorem Xq:True:=True.intro
theorem O{α:Sort _}{a:α}:a=a:=rfl
section
inductive PV where
 |int (k:IntKind) (n:Int)
 |bool (b:Bool)
 |str (s:ByteArray)
 |agg (cs:List PV)
 |tup (cs:List PV)
 |sl (nil:Option Bool) (n:Nat) (cs:List PV)
 |rp (cs:List PV) (off:Nat)
 |fn (f:Fn) (first captured:List PV)
 |nilfn
 |nilptr
 |nilmap
 |iface (t:TypeId) (v:PV)
 |niliface
 |mp (ks vs:List PV)
 |any
 deriving Inhabited
def tB(w:World)(R:Nat->Prop)(b off:Nat)(us:List Value):Prop:=
 R b/\∀j,j<us.length->w.cell? ⟨b,off+j,UG⟩=us[j]?
def dH(es:List MapEntry)(clock:Nat):Prop:=(es.map (·.born)).Nodup/\∀e∈es,e.born<clock
mutual
def RelP(w:World)(R:Nat->Prop):PV->Value->Prop
 | .int k n,u=>u= .int k n
 | .bool b,u=>u= .bool b
 | .str s,u=>u= .string s
 | .agg cs,u=>∃us:List Value,u= .agg us.toArray/\RelPL w R cs us
 | .tup cs,u=>∃us:List Value,u= .tuple us.toArray/\RelPL w R cs us
 | .sl nil n cs,u=>∃A c,u= .slice A n c/\n<=c/\c<=maxLen/\(∀b,nil=UF b->b=A.isNone)/\(nil=UF VA->c=0)/\
   (cs≠[]->∃b off us,A=UF ⟨b,off,UG⟩/\RelPL w R cs us/\tB w R b off us)
 | .rp cs o,u=>∃b off us,u= .pointer (UF ⟨b,off+o,UG⟩)/\RelPL w R cs us/\tB w R b off us
 | .fn f fs cs,u=>∃us vs:List Value,u= .func f us.toArray vs.toArray/\RelPL w R fs us/\RelPL w R cs vs
 | .nilfn,u=>u= .nilFunc
 | .nilptr,u=>u= .pointer UG
 | .nilmap,u=>u= .map UG
 | .iface t v,u=>∃x,u= .iface t x/\RelP w R v x
 | .niliface,u=>u= .nilIface
 | .mp ks vs,u=>∃b,u= .map (UF b)/\R b/\∃(es:Array MapEntry)(clock:Nat)(l:List MapEntry),w.heap[b]? =UF (.map es clock)/\RelPL w R ks (l.map (·.key))/\RelPL w R vs (l.map (·.val))/\dH es.toList clock/\l.Perm es.toList
 | .any,_=>True
def RelPL(w:World)(R:Nat->Prop):List PV->List Value->Prop
 |[],us=>us=[]
 |c::cs,us=>∃u vs,us=u::vs/\RelP w R c u/\RelPL w R cs vs
end
section
variable {w w':World}{R R':Nat->Prop}
theorem tB.mono(q:∀b,R b->R' b/\w'.heap[b]? =w.heap[b]?){b:Nat}(h:tB w R b off us):tB w' R' b off us:=
 ⟨(q b h.1).1,λj hj=>(World.cell?_of_block (w:=w) (a:=⟨b,off+j,UG⟩) (q b h.1).2).trans (h.2 j hj)⟩
mutual
theorem RelP.mono(q:∀b,R b->R' b/\w'.heap[b]? =w.heap[b]?):∀(p:PV)(u:Value),RelP w R p u->RelP w' R' p u
 | .int _ _,_,h=>h
 | .bool _,_,h=>h
 | .str _,_,h=>h
 | .agg cs,_,h=>by
   simp only[RelP]at h ⊢;obtain⟨us,e,h⟩:=h;exact⟨us,e,RelPL.mono q cs us h⟩
 | .tup cs,_,h=>by
   simp only[RelP]at h ⊢;obtain⟨us,e,h⟩:=h;exact⟨us,e,RelPL.mono q cs us h⟩
 | .sl nil n cs,_,h=>by
   simp only[RelP]at h ⊢;obtain⟨A,c,e,h1,h2,h3,h4,h5⟩:=h;refine⟨A,c,e,h1,h2,h3,h4,λr=>?_⟩;obtain⟨b,off,us,e,hl,hs⟩:=h5 r;exact⟨b,off,us,e,RelPL.mono q cs us hl,hs.mono q⟩
 | .rp cs o,_,h=>by
   simp only[RelP]at h ⊢;obtain⟨b,off,us,e,hl,hs⟩:=h;exact⟨b,off,us,e,RelPL.mono q cs us hl,hs.mono q⟩
 | .fn f fs cs,_,h=>by
   simp only[RelP]at h ⊢;obtain⟨us,vs,e,h1,h2⟩:=h;exact⟨us,vs,e,RelPL.mono q fs us h1,RelPL.mono q cs vs h2⟩
 | .nilfn,_,h=>h
 | .nilptr,_,h=>h
 | .nilmap,_,h=>h
 | .iface t v,_,h=>by
   simp only[RelP]at h ⊢;obtain⟨x,e,h⟩:=h;exact⟨x,e,RelP.mono q v x h⟩
 | .niliface,_,h=>h
 | .mp ks vs,_,h=>by
   simp only[RelP]at h ⊢;obtain⟨b,e,hb,es,clock,l,h1,h2,h3,h4⟩:=h;exact⟨b,e,(q b hb).1,es,clock,l,(q b hb).2.trans h1,RelPL.mono q ks _ h2,RelPL.mono q vs _ h3,h4⟩
 | .any,_,_=>trivial
theorem RelPL.mono(q:∀b,R b->R' b/\w'.heap[b]? =w.heap[b]?):∀(ps:List PV)(us:List Value),RelPL w R ps us->RelPL w' R' ps us
 |[],_,h=>h
 | c::cs,_,h=>by
   simp only[RelPL]at h ⊢;obtain⟨u,vs,e,h1,h2⟩:=h;exact⟨u,vs,e,RelP.mono q c u h1,RelPL.mono q cs vs h2⟩
end
theorem RelPL.length:∀{ps:List PV}{us:List Value},RelPL w R ps us->us.length=ps.length
 |[],_,h=>by simp only[RelPL]at h;simp[h]
 | c::cs,_,h=>by
   simp only[RelPL]at h;obtain⟨u,vs,rfl,_,h2⟩:=h;simp[RelPL.length h2]
theorem RelPL.get:∀{ps:List PV}{us:List Value},RelPL w R ps us->∀{i:Nat}{p:PV},ps[i]? =UF p->∃u,us[i]? =UF u/\RelP w R p u
 |[],_,_,i,p,hp=>by simp at hp
 | c::cs,_,h,i,p,hp=>by
   simp only[RelPL]at h;obtain⟨u,vs,rfl,h1,h2⟩:=h;cases i with
   |zero=>simp at hp;subst hp;exact⟨u,Xn,h1⟩
   |succ i=>simp at hp;obtain⟨x,hx,hr⟩:=RelPL.get h2 hp;exact⟨x,by simpa using hx,hr⟩
theorem RelPL.nil:RelPL w R [] []:=by simp[RelPL]
theorem RelPL.cons{p:PV}{ps:List PV}(h:RelP w R p u)(q:RelPL w R ps us):RelPL w R (p::ps) (u::us):=by
 simp only[RelPL];exact⟨u,us,O,h,q⟩
theorem RelPL.append:∀{ps qs:List PV}{us vs:List Value},RelPL w R ps us->RelPL w R qs vs->RelPL w R (ps++qs) (us++vs)
 |[],_,_,_,h,k=>by simp only[RelPL]at h;subst h;simpa using k
 | c::cs,_,_,_,h,k=>by
   simp only[RelPL]at h;obtain⟨u,xs,rfl,h1,h2⟩:=h;exact RelPL.cons h1 (RelPL.append h2 k)
theorem RelPL.take:∀{ps:List PV}{us:List Value}(n:Nat),RelPL w R ps us->RelPL w R (ps.take n) (us.take n)
 |[],_,n,h=>by simp only[RelPL]at h;subst h;simpa using RelPL.nil
 |c::cs,_,0,h=>by simpa using RelPL.nil
 | c::cs,_,n+1,h=>by
   simp only[RelPL]at h;obtain⟨u,xs,rfl,h1,h2⟩:=h;simpa using RelPL.cons h1 (RelPL.take n h2)
theorem RelPL.drop:∀{ps:List PV}{us:List Value}(n:Nat),RelPL w R ps us->RelPL w R (ps.drop n) (us.drop n)
 |[],_,n,h=>by simp only[RelPL]at h;subst h;simpa using RelPL.nil
 |c::cs,_,0,h=>by simpa using h
 | c::cs,_,n+1,h=>by
   simp only[RelPL]at h;obtain⟨u,xs,rfl,h1,h2⟩:=h;simpa using RelPL.drop n h2
theorem RelPL.set:∀{ps:List PV}{us:List Value}(i:Nat){p:PV}{u:Value},RelPL w R ps us->RelP w R p u->RelPL w R (ps.set i p) (us.set i u)
 |[],_,n,_,_,h,_=>by simp only[RelPL]at h;subst h;simpa using RelPL.nil
 |c::cs,_,0,_,_,h,k=>by grind[RelPL]
 | c::cs,_,n+1,_,_,h,k=>by
   simp only[RelPL]at h;obtain⟨u,xs,rfl,h1,h2⟩:=h;simpa using RelPL.cons h1 (RelPL.set n h2 k)
end
inductive V where
 |pv (p:PV)
 |ptr (id off:Nat)
 |osl (id sz n:Nat)
 |tsl (id off n:Nat)
 |gsl (id sz n:Nat)
 |map (id:Nat)
 |agg (cs:List V)
 |tup (cs:List V)
 |fn (f:Fn) (first captured:List V)
 deriving Inhabited
abbrev Gm:=Nat->Option (Nat×Nat)
abbrev Av:=Nat->Bool
mutual
def Rel(w:World)(m:Gm)(av:Av)(R:Nat->Prop):V->Value->Prop
 | .pv p,u=>RelP w R p u
 | .ptr id off,u=>av id=VC/\∀b N,m id=UF (b,N)->u= .pointer (UF ⟨b,off,UG⟩)
 | .osl id sz n,u=>av id=VC/\∀b N,m id=UF (b,N)->∃c,u= .slice (UF ⟨b,0,UG⟩) n c/\n<=c/\c<=maxLen/\N=c*sz
 | .tsl id off n,u=>av id=VC/\∃A c,u= .slice A n c/\(0<n->∀b N,m id=UF (b,N)->A=UF ⟨b,off,UG⟩)
 | .gsl id sz n,u=>av id=VC/\∃A c,u= .slice A n c/\n<=c/\c<=maxLen/\(n=0->A=UG/\c=0/\m id=UG)/\(0<n->∀b N,m id=UF (b,N)->A=UF ⟨b,0,UG⟩/\N=c*sz)
 | .map id,u=>av id=VC/\∀b N,m id=UF (b,N)->u= .map (UF b)
 | .agg cs,u=>∃us:List Value,u= .agg us.toArray/\RelL w m av R cs us
 | .tup cs,u=>∃us:List Value,u= .tuple us.toArray/\RelL w m av R cs us
 | .fn f fs cs,u=>∃us vs:List Value,u= .func f us.toArray vs.toArray/\RelL w m av R fs us/\RelL w m av R cs vs
def RelL(w:World)(m:Gm)(av:Av)(R:Nat->Prop):List V->List Value->Prop
 |[],us=>us=[]
 |c::cs,us=>∃u vs,us=u::vs/\Rel w m av R c u/\RelL w m av R cs vs
end
theorem pq{a b:Option α}(h:∀x,a=UF x->b=UF x)(q:b=UG):a=UG:=by
 cases a with
 |none=>rfl
 |some x=>rw[h x O]at q;cases q
section
variable {w w':World}{R R':Nat->Prop}{m m':Gm}{av av':Av}
mutual
theorem Rel.mono(B:∀b,R b->R' b/\w'.heap[b]? =w.heap[b]?)(q:∀id x,av id=VC->m' id=UF x->m id=UF x)(r:∀id,av id=VC->av' id=VC):
  ∀(p:V)(u:Value),Rel w m av R p u->Rel w' m' av' R' p u
 | .pv p,u,h=>by simp only[Rel]at h ⊢; exact h.mono B
 | .ptr id off,_,h=>by simp only[Rel]at h ⊢; exact⟨r id h.1,λb N e=>h.2 b N (q _ _ h.1 e)⟩
 | .osl id sz n,_,h=>by simp only[Rel]at h ⊢; exact⟨r id h.1,λb N e=>h.2 b N (q _ _ h.1 e)⟩
 | .tsl id off n,_,h=>by grind[Rel]
 | .gsl id sz n,_,h=>by
   simp only[Rel]at h ⊢;obtain⟨h0,A,c,e,h1,h2,h3,h4⟩:=h;exact⟨r id h0,A,c,e,h1,h2,λD=>⟨(h3 D).1,(h3 D).2.1,pq (λx=>q id x h0) (h3 D).2.2⟩,λhp b N e=>h4 hp b N (q _ _ h0 e)⟩
 | .map id,_,h=>by simp only[Rel]at h ⊢; exact⟨r id h.1,λb N e=>h.2 b N (q _ _ h.1 e)⟩
 | .agg cs,_,h=>by
   simp only[Rel]at h ⊢;obtain⟨us,e,h⟩:=h;exact⟨us,e,RelL.mono B q r cs us h⟩
 | .tup cs,_,h=>by
   simp only[Rel]at h ⊢;obtain⟨us,e,h⟩:=h;exact⟨us,e,RelL.mono B q r cs us h⟩
 | .fn f fs cs,_,h=>by
   simp only[Rel]at h ⊢;obtain⟨us,vs,e,h1,h2⟩:=h;exact⟨us,vs,e,RelL.mono B q r fs us h1,RelL.mono B q r cs vs h2⟩
theorem RelL.mono(q:∀b,R b->R' b/\w'.heap[b]? =w.heap[b]?)(r:∀id x,av id=VC->m' id=UF x->m id=UF x)(B:∀id,av id=VC->av' id=VC):
  ∀(ps:List V)(us:List Value),RelL w m av R ps us->RelL w' m' av' R' ps us
 |[],_,h=>by simpa only[RelL]using h
 | c::cs,_,h=>by
   simp only[RelL]at h ⊢;obtain⟨u,vs,e,h1,h2⟩:=h;exact⟨u,vs,e,Rel.mono q r B c u h1,RelL.mono q r B cs vs h2⟩
end
theorem RelL.length:∀{ps:List V}{us:List Value},RelL w m av R ps us->us.length=ps.length
 |[],_,h=>by simp only[RelL]at h;simp[h]
 | c::cs,_,h=>by
   simp only[RelL]at h;obtain⟨u,vs,rfl,_,h2⟩:=h;simp[RelL.length h2]
theorem RelL.get:∀{ps:List V}{us:List Value},RelL w m av R ps us->∀{i:Nat}{p:V},ps[i]? =UF p->∃u,us[i]? =UF u/\Rel w m av R p u
 |[],_,_,i,p,hp=>by simp at hp
 | c::cs,_,h,i,p,hp=>by
   simp only[RelL]at h;obtain⟨u,vs,rfl,h1,h2⟩:=h;cases i with
   |zero=>simp at hp;subst hp;exact⟨u,Xn,h1⟩
   |succ i=>simp at hp;obtain⟨x,hx,hr⟩:=RelL.get h2 hp;exact⟨x,by simpa using hx,hr⟩
theorem RelL.nil:RelL w m av R [] []:=by simp[RelL]
theorem RelL.cons{p:V}{ps:List V}(h:Rel w m av R p u)(q:RelL w m av R ps us):RelL w m av R (p::ps) (u::us):=by
 simp only[RelL];exact⟨u,us,O,h,q⟩
theorem RelL.append:∀{ps qs:List V}{us vs:List Value},RelL w m av R ps us->RelL w m av R qs vs->RelL w m av R (ps++qs) (us++vs)
 |[],_,_,_,h,k=>by simp only[RelL]at h;subst h;simpa using k
 | c::cs,_,_,_,h,k=>by
   simp only[RelL]at h;obtain⟨u,xs,rfl,h1,h2⟩:=h;exact RelL.cons h1 (RelL.append h2 k)
theorem RelL.take:∀{ps:List V}{us:List Value}(n:Nat),RelL w m av R ps us->RelL w m av R (ps.take n) (us.take n)
 |[],_,n,h=>by simp only[RelL]at h;subst h;simpa using RelL.nil
 |c::cs,_,0,h=>by simpa using RelL.nil
 | c::cs,_,n+1,h=>by
   simp only[RelL]at h;obtain⟨u,xs,rfl,h1,h2⟩:=h;simpa using RelL.cons h1 (RelL.take n h2)
theorem RelL.drop:∀{ps:List V}{us:List Value}(n:Nat),RelL w m av R ps us->RelL w m av R (ps.drop n) (us.drop n)
 |[],_,n,h=>by simp only[RelL]at h;subst h;simpa using RelL.nil
 |c::cs,_,0,h=>by simpa using h
 | c::cs,_,n+1,h=>by
   simp only[RelL]at h;obtain⟨u,xs,rfl,h1,h2⟩:=h;simpa using RelL.drop n h2
theorem RelL.set:∀{ps:List V}{us:List Value}(i:Nat){p:V}{u:Value},RelL w m av R ps us->Rel w m av R p u->RelL w m av R (ps.set i p) (us.set i u)
 |[],_,n,_,_,h,_=>by simp only[RelL]at h;subst h;simpa using RelL.nil
 |c::cs,_,0,_,_,h,k=>by grind[RelL]
 | c::cs,_,n+1,_,_,h,k=>by
   simp only[RelL]at h;obtain⟨u,xs,rfl,h1,h2⟩:=h;simpa using RelL.cons h1 (RelL.set n h2 k)
theorem RelL.ofP:∀{ps:List PV}{us:List Value},RelPL w R ps us->RelL w m av R (ps.map V.pv) us
 |[],_,h=>by simpa only[RelL,RelPL,Un]using h
 | c::cs,_,h=>by
   simp only[RelPL]at h;obtain⟨u,vs,rfl,h1,h2⟩:=h;exact RelL.cons (by simpa only[Rel]using h1) (RelL.ofP h2)
theorem RelL.toP:∀{ps:List PV}{us:List Value},RelL w m av R (ps.map V.pv) us->RelPL w R ps us
 |[],_,h=>by simpa only[RelL,RelPL,Un]using h
 | c::cs,_,h=>by
   simp only[cu,RelL]at h;obtain⟨u,vs,rfl,h1,h2⟩:=h;exact RelPL.cons (by simpa only[Rel]using h1) (RelL.toP h2)
end
inductive Ob where
 |cells (ty:TypeId) (cs:List PV)
 |mix (ty:TypeId) (cs:List V)
 |gro (ty:TypeId) (cs:List PV)
 |mp (ks vs:List PV)
 |it (s:ByteArray) (pos:Nat)
 |fro (ty:TypeId) (s:ByteArray)
 |mi (cur ks vs:List PV)
def Ob.real:Ob->Bool
 | .gro _ []=>VC
 |_=>VA
def cL:Option Ob->Bool
 |some o=>o.real
 |none=>VC
def wx(w:World)(R:Nat->Prop)(b:Nat)(cur ks vs:List PV):Prop:=
 ∃(mb:Nat)(es:Array MapEntry)(clock:Nat)(seen:Array Nat)(l:List MapEntry),R mb/\w.heap[mb]? =UF (.map es clock)/\dH es.toList clock/\w.heap[b]? =UF (.mapIter (UF mb) clock seen clock)/\
  l.Perm (es.toList.filter λe=> !seen.contains e.born)/\RelPL w R ks (l.map (·.key))/\RelPL w R vs (l.map (·.val))/\
  (cur=[]\/∃e∈es.toList,seen.back? =UF e.born/\RelPL w R cur [e.key,e.val])
theorem wx.mono{w':World}{R':Nat->Prop}{b:Nat}{cur ks vs:List PV}(q:∀b,R b->R' b/\w'.heap[b]? =w.heap[b]?)(r:w'.heap[b]? =w.heap[b]?)(h:wx w R b cur ks vs):wx w' R' b cur ks vs:=by
 obtain⟨mb,es,clock,seen,l,h1,h2,h3,h4,h0,h5,h6,h7⟩:=h;refine⟨mb,es,clock,seen,l,(q _ h1).1,(q _ h1).2.trans h2,h3,r.trans h4,h0,h5.mono q,h6.mono q,?_⟩;rcases h7 with h|⟨e,h8,h9,h10⟩
 .exact .inl h
 exact .inr ⟨e,h8,h9,h10.mono q⟩
def lQ(w:World)(m:Gm)(av:Av)(R:Nat->Prop)(b N:Nat):Ob->Prop
 | .cells ty cs=>∃arr:Array Value,w.heap[b]? =UF (.cells arr ty (0,0))/\arr.size=N/\cs.length<=N/\RelPL w R cs (arr.toList.take cs.length)
 | .gro ty cs=>∃arr:Array Value,w.heap[b]? =UF (.cells arr ty (0,0))/\arr.size=N/\cs.length<=N/\RelPL w R cs (arr.toList.take cs.length)
 | .mix ty cs=>∃arr:Array Value,w.heap[b]? =UF (.cells arr ty (0,0))/\arr.size=N/\cs.length<=N/\RelL w m av R cs (arr.toList.take cs.length)
 | .mp ks vs=>∃es clock,w.heap[b]? =UF (.map es clock)/\RelPL w R ks (es.toList.map (·.key))/\RelPL w R vs (es.toList.map (·.val))/\dH es.toList clock
 | .it s pos=>w.heap[b]? =UF (.stringIter s pos)
 | .mi cur ks vs=>wx w R b cur ks vs
 | .fro ty s=>∃arr:Array Value,w.heap[b]? =UF (.cells arr ty (0,s.size))/\arr.size=N/\s.size<=N/\arr.toList.take s.size=s.data.toList.map λc=> .int .u8 c.toNat
theorem lQ.mono{w':World}{R':Nat->Prop}{m m':Gm}{av av':Av}{b:Nat}{o:Ob}(r:∀b,R b->R' b/\w'.heap[b]? =w.heap[b]?)
  (B:∀id x,av id=VC->m' id=UF x->m id=UF x) (D:∀id,av id=VC->av' id=VC) (q:w'.heap[b]? =w.heap[b]?) (h:lQ w m av R b N o):lQ w' m' av' R' b N o:=by
 cases o with
 | cells ty cs=>
   obtain⟨arr,h1,h2,h3,h4⟩:=h;exact⟨arr,q.trans h1,h2,h3,h4.mono r⟩
 | mix ty cs=>
   obtain⟨arr,h1,h2,h3,h4⟩:=h;exact⟨arr,q.trans h1,h2,h3,h4.mono r B D⟩
 | gro ty cs=>
   obtain⟨arr,h1,h2,h3,h4⟩:=h;exact⟨arr,q.trans h1,h2,h3,h4.mono r⟩
 | mp ks vs=>
   obtain⟨es,clock,h1,h2,h3,h4⟩:=h;exact⟨es,clock,q.trans h1,h2.mono r,h3.mono r,h4⟩
 |it s pos=>exact q.trans h
 |mi cur ks vs=>exact wx.mono r q h
 |fro ty s=>obtain⟨arr,h1,h2⟩:=h;exact⟨arr,q.trans h1,h2⟩
def gInt(o:Obj):Prop:=∃(m:Int)(t:TypeId)(f:Nat×Nat),o= .cells #[.int .i64 m] t f
def gTab(k:IntKind)(zs:List Int)(o:Obj):Prop:=∃(t:TypeId)(f:Nat×Nat),o= .cells (zs.map (Value.int k)).toArray t f
def Ns(o:Obj):Prop:=∃(tp:TypeId)(p:Value)(t:TypeId)(f:Nat×Nat),o= .cells #[.iface tp p] t f
def glb:List (Nat×(Obj->Prop)):=[(1,gTab .u64 [1,10,100,1000,10000,100000,1000000,10000000,100000000,1000000000,10000000000,100000000000,1000000000000,10000000000000,100000000000000,1000000000000000,10000000000000000,100000000000000000,1000000000000000000,10000000000000000000]),(0,gInt),(2,Ns),(3,Ns)]
def re(w:World)(R:Nat->Prop):Prop:=∀x∈glb,R x.1/\∃o,w.heap[x.1]? =UF o/\x.2 o
theorem re.mono{w':World}{R':Nat->Prop}(h:re w R)(q:∀b,R b->R' b/\w'.heap[b]? =w.heap[b]?):re w' R':=λx hx=>by
 obtain⟨h0,o,h1,h2⟩:=h x hx;exact⟨(q _ h0).1,o,(q _ h0).2.trans h1,h2⟩
structure RT(w:World)(F:Nat->Prop) where
 p:Nat->Prop
 g:re w p
 d:∀b,p b->b<w.heap.size/\¬F b
 df:List Deferred:=[]
structure Ctx where
 P:Program
 m0:Gm
 w0:World
 F:Nat->Prop
 R0:RT w0 F
abbrev big:Nat:=9000
structure St where
 sl:Nat->V
 ob:Nat->Option Ob
 av:Av
structure Fr(F:Nat->Prop)(w w':World):Prop where
 os:w'.os=w.os
 tape:w'.tape=w.tape
 output:w'.output=w.output
 size:w.heap.size<=w'.heap.size
 block:∀k,k<w.heap.size->¬F k->w'.heap[k]? =w.heap[k]?
theorem Fr.refl(F:Nat->Prop)(w:World):Fr F w w:=⟨O,O,O,AT _,λ_ _ _=>rfl⟩
theorem Fr.Qz{w':World}(h:Below w.heap.size w w')(F:Nat->Prop):Fr F w w':=⟨h.os,h.tape,h.output,h.size,λk hk _=>h.block k hk⟩
structure HR(C:Ctx)(m:Gm)(R:Nat->Prop)(ob:Nat->Option Ob)(av:Av)(w:World):Prop where
 dom:∀id,(m id).isSome=cL (ob id)
 free:∀id,av id=VA->ob id=UG
 obj:∀id o b N,ob id=UF o->m id=UF (b,N)->lQ w m av R b N o
 inj:∀i j b N N',m i=UF (b,N)->m j=UF (b,N')->i=j
 own:∀id b N,m id=UF (b,N)->b<w.heap.size/\¬R b/\(C.F b\/C.w0.heap.size<=b)
 rsz:∀b,R b->b<w.heap.size
 rfr:∀b,R b->C.R0.p b\/C.w0.heap.size<=b\/C.F b
 r0:∀b,C.R0.p b->R b
 frame:Fr C.F C.w0 w
 j4:∀id x,big<=id->m id=UF x->C.m0 id=UF x
 res:∀id,big<=id->av id=VC
theorem HR.dfs{m0:Gm}{w0:World}{F:Nat->Prop}{R0 R1:RT w0 F}{m:Gm}{ob:Nat->Option Ob}{av:Av}(h:HR ⟨P,m0,w0,F,R0⟩ m R ob av w)(e:R1.p=R0.p):HR ⟨P,m0,w0,F,R1⟩ m R ob av w:=
 ⟨h.dom,h.free,h.obj,h.inj,h.own,h.rsz,λb hb=>by have:=h.rfr b hb;simp only[e]at this ⊢; exact this,λb hb=>h.r0 b (by simp only[e]at hb;exact hb),h.frame,h.j4,h.res⟩
theorem HR.gi{C:Ctx}{m:Gm}{ob:Nat->Option Ob}{av:Av}(h:HR C m R ob av w):re w R:=
 C.R0.g.mono λb hb=>⟨h.r0 b hb,h.frame.block b (C.R0.d b hb).1 (C.R0.d b hb).2⟩
end
variable{m:Gm}
section
def upd{α:Type}(f:Nat->α)(d:Nat)(v:α):Nat->α:=λt=>bif Nat.beq t d then v else f t
theorem aC(f:Nat->α)(d:Nat)(v:α):upd f d v d=v:=by simp[upd]
theorem a8(f:Nat->α){d t:Nat}(v:α)(h:t≠d):upd f d v t=f t:=by grind[Nat.beq,cd,upd]
def gB:Value->PV
 | .int k n=> .int k n
 | .bool b=> .bool b
 | .string s=> .str s
 | .slice UG 0 0=> .sl (UF VA) 0 []
 | .pointer UG=> .nilptr
 | .map UG=> .nilmap
 | .nilFunc=> .nilfn
 | .nilIface=> .niliface
 |_=> .any
def ofC:Value->PV
 | .agg cs=> .agg (cs.toList.map gB)
 |v=>gB v
theorem gh(w:World)(R:Nat->Prop):∀v,RelP w R (gB v) v:=by
 intro v;unfold gB;split<;>simp[RelP];exact⟨UG,0,⟨O,O⟩,by simp[maxLen],O,O⟩
theorem zD(w:World)(R:Nat->Prop):∀v,RelP w R (ofC v) v:=by
 intro v;unfold ofC;split
 .rename_i cs;simp only[RelP];refine⟨cs.toList,Xn,?_⟩;generalize cs.toList=l;induction l with
  |nil=>simpa using RelPL.nil
  |cons x l ih=>simpa using RelPL.cons (gh w R x) ih
 exact gh w R v
def St.ev(n:Nat)(σ:St):Operand->V
 | .tmp t=>bif Nat.blt t n then σ.sl t else .pv .any
 | .const c=> .pv (ofC c)
 | .global _=> .pv .any
 | .func f=> .pv (.fn (.func f) [] [])
def St.put(σ:St)(d:Option Tmp)(v:V):St:=match d with|some d=>{ σ with sl:=upd σ.sl d v } |none=>σ
structure SW(C:Ctx)(n:Nat)(σ:St)(a:Act)(w:World)(m:Gm)(R:Nat->Prop):Prop where
 hr:HR C m R σ.ob σ.av w
 df:a.defers=C.R0.df
 sz:a.tmps.size=n
 sl:∀t,t<n->Rel w m σ.av R (σ.sl t) (a.eval (.tmp t))
def SJ(C:Ctx)(n:Nat)(σ:St)(a:Act)(w:World):Prop:=∃m R,SW C n σ a w m R
section
variable {C:Ctx}{n:Nat}{σ τ:St}{a:Act}{w:World}{m:Gm}{R:Nat->Prop}
theorem SW.ev(h:SW C n σ a w m R)(x:Operand):Rel w m σ.av R (σ.ev n x) (a.eval x):=by
 cases x with
 | tmp t=>
   by_cases ht:t<n
   .have hb:Nat.blt t n=VA:=by simpa[VG]using ht
    simpa only[St.ev,hb,U3]using h.sl t ht
   have hb:Nat.blt t n=VC:=by cases e:Nat.blt t n;rfl;exact absurd (by simpa[VG]using e) ht
   simp only[St.ev,hb,Ue,Rel,RelP]
 |const c=>simpa only[St.ev,Rel,Act.eval]using zD w R c
 |global g=>simp only[St.ev,Rel,RelP]
 | func f=>
   simp only[St.ev,Rel,RelP,Act.eval];exact⟨[],[],O,by simp[RelPL],by simp[RelPL]⟩
theorem zk(a:Act)(d:Nat)(u:Value)(t:Nat):(a.put (UF d) u).eval (.tmp t)=if d=t/\d<a.tmps.size then u else a.eval (.tmp t):=by
 simp only[Act.put,Act.eval,Vb,VH];by_cases h:d=t
 .grind
 simp[h]
theorem SW.put(h:SW C n σ a w m R)(d:Option Tmp){v:V}(r:Rel w m σ.av R v u):SW C n (σ.put d v) (a.put d u) w m R:=by
 cases d with
 |none=>exact h
 | some d=>
   refine⟨h.hr,h.df,by simpa[Act.put]using h.sz,λt ht=>?_⟩;rw[zk];show Rel w m σ.av R (upd σ.sl d v t) _;by_cases e:d=t
   .subst e;rw[aC,By ⟨O,by rw[h.sz];exact ht⟩];exact r
   rw[a8 _ _ (λq=>e q.symm),sh (λq=>e q.1)];exact h.sl t ht
end
structure AW(C:Ctx)(n:Nat)(c:Code)(Q:Exit->St->Prop)(σ:St):Prop where
 go:∀a w,SJ C n σ a w->c.wp C.P (λex a' w'=>∃σ',Q ex σ'/\SJ C n σ' a' w') a w
def Db(K:St->Prop)(Q:Exit->St->Prop):Exit->St->Prop
 | .normal,σ=>K σ
 |e,σ=>Q e σ
def ya(id:Nat)(Q:Exit->St->Prop):Exit->St->Prop
 | .exit id',σ=>if id'=id then Q .normal σ else Q (.exit id') σ
 |e,σ=>Q e σ
section
variable {C:Ctx}{n:Nat}{Q:Exit->St->Prop}{σ τ:St}
theorem AW.mono{Q':Exit->St->Prop}(h:AW C n c Q σ)(B:∀e s,Q e s->Q' e s):AW C n c Q' σ:=
 ⟨λa w hs=>wp_mono (h.go a w hs) λe _ _ ⟨s,q,r⟩=>⟨s,B e s q,r⟩⟩
theorem Ti(h:Q .normal σ):AW C n .skip Q σ:=⟨λ_ _ hs=>wp_skip ⟨σ,h,hs⟩⟩
theorem AW.exit(h:Q (.exit id) σ):AW C n (.exit id) Q σ:=⟨λ_ _ hs=>wp_exit ⟨σ,h,hs⟩⟩
theorem AW.ret(h:Q .ret σ):AW C n .ret Q σ:=⟨λ_ _ hs=>wp_ret ⟨σ,h,hs⟩⟩
theorem Tv(h:AW C n x (Db (AW C n y Q) Q) σ):AW C n (.seq x y) Q σ:=by
 refine⟨λa w hs=>?_⟩;refine wp_seq (wp_mono (h.go a w hs) ?_);rintro e a' w' ⟨s,q,r⟩;cases e<;>first|exact AW.go q a' w' r|exact⟨s,q,r⟩
theorem AW.block(h:AW C n c (ya id Q) σ):AW C n (.block id c) Q σ:=by
 refine⟨λa w hs=>?_⟩;refine wp_block (wp_mono (h.go a w hs) ?_);rintro e a' w' ⟨s,q,r⟩;cases e with
 | exit id'=>
   simp only[ya]at q;simp only[Exit.inBlock];split
   .grind
   grind
 |_=>exact⟨s,q,r⟩
theorem AW.k8{c:Operand}[Decidable p](hc:σ.ev n c= .pv (.bool (decide p)))(r:p->AW C n x Q σ)(B:¬p->AW C n y Q σ):AW C n (.cond c x y) Q σ:=by
 refine⟨λa w hs=>?_⟩;obtain⟨m,R,hw⟩:=hs;have q:=hw.ev c;rw[hc]at q;simp only[Rel,RelP]at q;exact wp_cond_split q (λe=>(r (Vi e)).go a w ⟨m,R,hw⟩) (λe=>(B (Vk e)).go a w ⟨m,R,hw⟩)
theorem AW.cond{c:Operand}(hc:σ.ev n c= .pv (.bool b))(r:b=VA->AW C n x Q σ)(B:b=VC->AW C n y Q σ):AW C n (.cond c x y) Q σ:=by
 refine⟨λa w hs=>?_⟩;obtain⟨m,R,hw⟩:=hs;have q:=hw.ev c;rw[hc]at q;simp only[Rel,RelP]at q;exact wp_cond_split q (λe=>(r e).go a w ⟨m,R,hw⟩) (λe=>(B e).go a w ⟨m,R,hw⟩)
def St.le(σ τ:St):Prop:=∀(C:Ctx)(n:Nat)(a:Act)(w:World),SJ C n σ a w->SJ C n τ a w
theorem Tj(q:σ.le τ)(h:AW C n c Q τ):AW C n c Q σ:=⟨λa w hs=>h.go a w (q C n a w hs)⟩
theorem AW.loop{X:Type}(st:X->St)(I:X->Prop)(μ:X->Nat)(x0:X)(D:σ.le (st x0))(E:I x0)
  (round:∀x,I x->AW C n c (Db (λs=>∃x',s.le (st x')/\I x'/\μ x'<μ x) Q) (st x)):AW C n (.loop c) Q σ:=by
 refine⟨λa w hs=>?_⟩;have B:∀k x,μ x=k->I x->∀a w,SJ C n (st x) a w->∀(b:Frame)(kk:List Item)(cs:List Frame),
   ∃e a' w',(∃σ',Q e σ'/\SJ C n σ' a' w')/\Arrives C.P (lone (b.at a (.code c:: .inLoop c::kk)) cs w) b kk cs e a' w':=by
  intro k;induction k using Nat.strongRecOn with
  | _ k ih=>
    intro x hk hx a w hs b kk cs;obtain⟨e,a₁,w₁,hq,harr⟩:=(round x hx).go a w hs b (.inLoop c::kk) cs;obtain⟨s,q,r⟩:=hq;cases e with
    | normal=>
      obtain⟨x',hl,hx',hlt⟩:=q;obtain⟨e₂,a₂,w₂,hq₂,harr₂⟩:=ih (μ x') (hk▸hlt) x' O hx' a₁ w₁ (hl C n a₁ w₁ r) b kk cs;exact⟨e₂,a₂,w₂,hq₂,.of_steps (Steps.trans harr (.one step_inLoop)) harr₂⟩
    |exit id=>exact⟨_,a₁,w₁,⟨s,q,r⟩,.pass (x:= .inLoop c) O (λ_ _=> .inl Xn) harr⟩
    |goto l=>exact⟨_,a₁,w₁,⟨s,q,r⟩,.pass (x:= .inLoop c) O (λ_ _=> .inl Xn) harr⟩
    |ret=>exact⟨_,a₁,w₁,⟨s,q,r⟩,.pass (x:= .inLoop c) O (λ_ _=> .inl Xn) harr⟩
    |panic ch=>exact⟨_,a₁,w₁,⟨s,q,r⟩,.pass (x:= .inLoop c) O (λ_ _=> .inl Xn) harr⟩
    |outgrown=>exact⟨_,a₁,w₁,⟨s,q,r⟩,.pass (x:= .inLoop c) O (λ_ _=> .inl Xn) harr⟩
 intro b kk cs;obtain⟨e,a',w',hq,harr⟩:=B _ x0 O E a w (D C n a w hs) b kk cs;exact⟨e,a',w',hq,.of_steps (.one step_loop) harr⟩
end
def OJ(C:Ctx)(n:Nat)(o:Oper)(K:St->Prop)(σ:St):Prop:=
 ∀a w Q,SJ C n σ a w->o.wp C.P a w (λa' w'=>∃σ',K σ'/\SJ C n σ' a' w') Q
structure OS where
 v:V
 wr:List (Nat×Option Ob):=[]
 nw:List Nat:=[]
def obL:List (Nat×Option Ob)->(Nat->Option Ob)->Nat->Option Ob
 |[],f,id=>f id
 |(i,o)::l,f,id=>bif Nat.beq id i then o else obL l f id
def avL:List Nat->Av->Av
 |[],f,id=>f id
 |i::l,f,id=>bif Nat.beq id i then VC else avL l f id
def St.app(σ:St)(d:Option Tmp)(s:OS):St:=
 { sl:=match d with|some d=>upd σ.sl d s.v|none=>σ.sl,ob:=obL s.wr σ.ob,av:=avL s.nw σ.av }
def XJ(C:Ctx)(n:Nat)(o:Oper)(σ:St)(s:OS):Prop:=OJ C n o (λτ=>τ=σ.app o.dst s) σ
def V.gd:V->Option (Option Bool)
 | .pv (.bool b)=>UF (UF b)
 | .pv (.tup [])=>UF UG
 |_=>UG
abbrev und:V:= .pv (.tup [])
theorem I6(w:World)(m:Gm)(av:Av)(R:Nat->Prop):Rel w m av R und undef:=by
 simp only[und,Rel,RelP];exact⟨[],O,RelPL.nil⟩
theorem V.tI{v:V}(h:v= .pv (.bool b)):v.gd=UF (UF b):=by rw[h];rfl
def SK(C:Ctx)(n:Nat)(o:Oper)(K:St->Prop)(σ:St):Prop:=∀a w,SJ C n σ a w->∃s,K s/\SJ C n s (a.put o.dst undef) w
def RL(C:Ctx)(n:Nat)(ops:Array Oper):List Oper->(St->Prop)->St->Prop
 |[],K,σ=>K σ
 | o::os,K,σ=>
   match o.guard with
   |none=>OJ C n o (RL C n ops os K) σ
   |some (j,want)=>∃b,(∀a w,SJ C n σ a w->yielded ops a.tmps j=b)/\(b=UF want->OJ C n o (RL C n ops os K) σ)/\(b≠UF want->SK C n o (RL C n ops os K) σ)
section
variable {C:Ctx}{n:Nat}{Q:Exit->St->Prop}{σ τ:St}{ops:Array Oper}
theorem OJ.mono{o:Oper}{K K':St->Prop}(h:OJ C n o K σ)(B:∀s,K s->K' s):OJ C n o K' σ:=
 λa w Q hs=>Oper.wp_mono (λ_ _ ⟨s,q,r⟩=>⟨s,B s q,r⟩) (h a w Q hs)
theorem fQ(h:SW C n σ a w m R){j:Nat}{b:Option Bool}(q:(σ.ev n (.tmp (((ops[j]?).bind (·.dst)).getD n))).gd=UF b):yielded ops a.tmps j=b:=by
 have B:=h.ev (.tmp (((ops[j]?).bind (·.dst)).getD n));generalize σ.ev n (.tmp (((ops[j]?).bind (·.dst)).getD n))=v at q B;have r:∃u,a.eval (.tmp (((ops[j]?).bind (·.dst)).getD n))=u/\((∃c,u= .bool c/\b=UF c)\/(u=undef/\b=UG)):=by
  unfold V.gd at q;split at q
  .grind[TJ,Rel,RelP]
  .simp only[TJ]at q;simp only[Rel,RelP]at B;obtain⟨us,hu,hr⟩:=B;simp only[RelPL]at hr;subst hr;exact⟨_,hu,.inr ⟨O,q.symm⟩⟩
  cases q
 obtain⟨u,hu,hb⟩:=r;simp only[Act.eval]at hu;unfold yielded;cases hd:(ops[j]?).bind (·.dst)with
 | none=>
   rw[hd]at hu;simp only[Option.getD_none,Vb]at hu;rw[Array.getElem?_eq_none (by have:=h.sz;omega)]at hu;simp at hu;subst hu;rcases hb with⟨c,hc,_⟩|⟨_,rfl⟩
   .simp[undef]at hc
   .rfl
 | some d=>
   rw[hd]at hu;simp only[V8,Vb]at hu;simp only[Option.bind_some];cases ht:a.tmps[d]? with
   | none=>
     rw[ht]at hu;simp at hu;subst hu;rcases hb with⟨c,hc,_⟩|⟨_,rfl⟩
     .simp[undef]at hc
     .rfl
   | some u'=>
     rw[ht]at hu;simp at hu;subst hu;rcases hb with⟨c,rfl,rfl⟩|⟨rfl,rfl⟩<;>rfl
theorem RL.sound(K:St->Prop):∀(os:List Oper)(k:Nat)(σ:St),ops.toList.drop k=os->RL C n ops os K σ->∀a w,SJ C n σ a w->∀Q:Exit->Act->World->Prop,
  (∀a w,(∃s,K s/\SJ C n s a w)->Q .normal a w)->wpOps C.P ops Q (List.range' k (ops.size-k)) a w:=by
 intro os;induction os with
 | nil=>
   intro k σ hd h a w hs Q hQ;have:ops.size-k=0:=by simp_all
   rw[this];simp only[List.range'_zero,wpOps];exact hQ a w ⟨σ,h,hs⟩
 | cons o os ih=>
   intro k σ hd h a w hs Q hQ;have r:k<ops.size:=by
    have:=ah List.length hd;simp at this;omega
   have B:ops[k]? =UF o:=by
    have:=ah (·[0]?) hd;simpa using this
   have D:ops.toList.drop (k+1)=os:=by
    have:=ah (List.drop 1) hd;simpa[Wi]using this
   have e:ops.size-k=(ops.size-(k+1))+1:=Xj;rw[e,List.range'_succ];have q:∀a' w',(∃s,RL C n ops os K s/\SJ C n s a' w')->wpOps C.P ops Q (List.range' (k+1) (ops.size-(k+1))) a' w':=by grind
   simp only[wpOps,B];simp only[RL]at h;cases hg:o.guard with
   | none=>
     rw[hg]at h;simp only[Region.wanted,hg,WH];exact .inl (Oper.wp_mono q (h a w Q hs))
   | some jw=>
     obtain⟨j,want⟩:=jw;rw[hg]at h;obtain⟨b,hb,h1,h2⟩:=h;have E:=hb a w hs;simp only[Region.wanted,hg,E];by_cases hbw:b=UF want
     .subst hbw;simp only[Uw,WH];exact .inl (Oper.wp_mono q (h1 O a w Q hs))
     have:(b==UF want)=VC:=by simpa using hbw
     simp only[this,UO,WZ];exact q _ _ (h2 hbw a w hs)
theorem AW.region(h:RL C n ops ops.toList (Q .normal) σ):AW C n (.region id ops VC) Q σ:=by
 refine⟨λa w hs=>?_⟩;refine wp_region ?_;have:=RL.sound (Q .normal) ops.toList 0 σ Xn h a w hs (λex a' w'=>∃σ',Q ex σ'/\SJ C n σ' a' w') (λ_ _ x=>x);rw[List.range_eq_range'];simpa using this
theorem RL.step{o:Oper}{os:List Oper}{K:St->Prop}{s:OS}(q:o.guard=UG)(r:o.dst=d)(B:XJ C n o σ s)(h:RL C n ops os K (σ.app d s)):RL C n ops (o::os) K σ:=by
 subst r;simp only[RL,q];exact B.mono λ_ e=>e▸h
theorem RL.stepG{o:Oper}{os:List Oper}{K:St->Prop}{s:OS}{j:Nat}{want:Bool}(q:o.guard=UF (j,want))(r:o.dst=d)(B:σ.ev n (.tmp (((ops[j]?).bind (·.dst)).getD n))= .pv (.bool want))
  (D:XJ C n o σ s) (h:RL C n ops os K (σ.app d s)):RL C n ops (o::os) K σ:=by
 subst r;simp only[RL,q];exact⟨UF want,λa w ⟨m,R,hw⟩=>fQ hw (V.tI B),λ_=>D.mono λ_ e=>e▸h,λe=>absurd O e⟩
theorem RL.call{o:Oper}{os:List Oper}{K:St->Prop}(q:o.guard=UG)(h:OJ C n o (RL C n ops os K) σ):RL C n ops (o::os) K σ:=by
 simp only[RL,q];exact h
end
end
section
theorem St.iV(σ:St)(d:Option Tmp)(v:V):σ.app d ⟨v,[],[]⟩=σ.put d v:=by
 cases d<;>rfl
section
variable {C:Ctx}{n:Nat}{σ:St}{dst:Option Tmp}{ty t t':TypeId}{pos:String}{after:Array Edge}{gd:Option (Nat×Bool)}{x y:Operand}
theorem XJ.val{o:Oper}{v:V}(h:∀a w m R,SW C n σ a w m R->∃u,(execOp a.eval o).run C.P w= .ok (.value u) w/\Rel w m σ.av R v u):XJ C n o σ ⟨v,[],[]⟩:=by
 rintro a w Q ⟨m,R,hw⟩;obtain⟨u,hrun,hrel⟩:=h a w m R hw;unfold Oper.wp;rw[hrun];exact⟨_,O,m,R,St.iV σ o.dst v▸hw.put o.dst hrel⟩
theorem od:XJ C n ⟨dst,.move x,ty,pos,after,gd⟩ σ ⟨σ.ev n x,[],[]⟩:=
 .val λa w m R hw=>⟨a.eval x,O,hw.ev x⟩
theorem Il:XJ C n ⟨dst,.assign x,ty,pos,after,gd⟩ σ ⟨σ.ev n x,[],[]⟩:=
 .val λa w m R hw=>⟨a.eval x,O,hw.ev x⟩
theorem SW.pv(h:SW C n σ a w m R){x:Operand}{p:PV}(q:σ.ev n x= .pv p):RelP w R p (a.eval x):=by
 have:=h.ev x;rw[q]at this;simpa only[Rel]using this
theorem SW.int(h:SW C n σ a w m R){x:Operand}{k:IntKind}(q:σ.ev n x= .pv (.int k i)):a.eval x= .int k i:=by
 simpa only[RelP]using h.pv q
theorem SW.bool(h:SW C n σ a w m R){x:Operand}(q:σ.ev n x= .pv (.bool b)):a.eval x= .bool b:=by
 simpa only[RelP]using h.pv q
theorem SW.str(h:SW C n σ a w m R){x:Operand}{s:ByteArray}(q:σ.ev n x= .pv (.str s)):a.eval x= .string s:=by
 simpa only[RelP]using h.pv q
theorem Qc{c x y:Operand}(hc:σ.ev n c= .pv (.bool b)):XJ C n ⟨dst,.pick c x y,ty,pos,after,gd⟩ σ ⟨bif b then σ.ev n x else σ.ev n y,[],[]⟩:=
 .val λa w m R hw=>by
  refine⟨bif b then a.eval x else a.eval y,?_,?_⟩
  .simp only[execOp,hw.bool hc,asBool];cases b<;>rfl
  cases b
  .exact hw.ev y
  exact hw.ev x
def yh:PV->Value
 | .int k n=> .int k n
 | .bool b=> .bool b
 | .str s=> .string s
 |_=>undef
def PV.scal:PV->Bool
 | .int _ _| .bool _| .str _=>VA
 |_=>VC
theorem XJ.lit{o:Oper}{p:PV}(q:p.scal=VA)(h:∀a w m R,SW C n σ a w m R->(execOp a.eval o).run C.P w= .ok (.value (yh p)) w):XJ C n o σ ⟨.pv p,[],[]⟩:=
 .val λa w m R hw=>⟨yh p,h a w m R hw,by cases p<;>simp[PV.scal]at q<;>simp only[Rel,RelP,yh]⟩
def vx(op:BinOp)(k:IntKind)(a b:Int):Option PV:=
 match op with
 | .add=>UF (.int k (k.wrap (a+b)))
 | .sub=>UF (.int k (k.wrap (a-b)))
 | .mul=>UF (.int k (k.wrap (a*b)))
 | .eql=>UF (.bool (a==b))
 | .neq=>UF (.bool (a !=b))
 | .lss=>UF (.bool (decide (a<b)))
 | .leq=>UF (.bool (decide (a<=b)))
 | .gtr=>UF (.bool (decide (a>b)))
 | .geq=>UF (.bool (decide (a>=b)))
 | .and=>UF (.int k (k.wrap (BitVec.ofInt k.bits a&&&BitVec.ofInt k.bits b).toNat))
 | .or=>UF (.int k (k.wrap (BitVec.ofInt k.bits a|||BitVec.ofInt k.bits b).toNat))
 | .xor=>UF (.int k (k.wrap (BitVec.ofInt k.bits a^^^BitVec.ofInt k.bits b).toNat))
 | .andNot=>UF (.int k (k.wrap (BitVec.ofInt k.bits a&&& ~~~ (BitVec.ofInt k.bits b)).toNat))
 |_=>UG
theorem ba{op:BinOp}{k:IntKind}{p:PV}(D:σ.ev n x= .pv (.int k i))(E:σ.ev n y= .pv (.int k j))(q:vx op k i j=UF p):
  XJ C n ⟨dst,.binOp op t x y t',ty,pos,after,gd⟩ σ ⟨.pv p,[],[]⟩:=
 .lit (by cases op<;>simp only[vx,TJ,reduceCtorEq]at q<;>subst q<;>rfl) λa w m R hw=>by
  have r:=hw.int D;have B:=hw.int E;cases op<;>simp only[vx,TJ,reduceCtorEq]at q<;>subst q<;>
   simp[execOp,r,B,eqGuard,binOp,Op.intArith,Op.intCmp,Op.intBits,yh]
theorem fw(h: -9223372036854775808<=i/\i<=9223372036854775807):IntKind.i64.wrap i=i:=IntWalk.i64_in _ h
theorem l9(q:σ.ev n x= .pv (.int .i64 i))(r:σ.ev n y= .pv (.int .i64 j))(h: -9223372036854775808<=i+j/\i+j<=9223372036854775807):
  XJ C n ⟨dst,.binOp .add t x y t',ty,pos,after,gd⟩ σ ⟨.pv (.int .i64 (i+j)),[],[]⟩:=
 ba q r (by simp only[vx,fw h])
theorem Np(q:σ.ev n x= .pv (.int .i64 i))(r:σ.ev n y= .pv (.int .i64 j))(h: -9223372036854775808<=i-j/\i-j<=9223372036854775807):
  XJ C n ⟨dst,.binOp .sub t x y t',ty,pos,after,gd⟩ σ ⟨.pv (.int .i64 (i-j)),[],[]⟩:=
 ba q r (by simp only[vx,fw h])
theorem GZ(q:σ.ev n x= .pv (.int .i64 i))(r:σ.ev n y= .pv (.int .i64 j))(h: -9223372036854775808<=i*j/\i*j<=9223372036854775807):
  XJ C n ⟨dst,.binOp .mul t x y t',ty,pos,after,gd⟩ σ ⟨.pv (.int .i64 (i*j)),[],[]⟩:=
 ba q r (by simp only[vx,fw h])
theorem dJ{k:IntKind}(q:σ.ev n x= .pv (.int k i))(r:σ.ev n y= .pv (.int k j))(h:j≠0):
  XJ C n ⟨dst,.binOp .quo t x y t',ty,pos,after,gd⟩ σ ⟨.pv (.int k (k.wrap (i.tdiv j))),[],[]⟩:=
 .lit O λa w m R hw=>by simp[execOp,hw.int q,hw.int r,eqGuard,binOp,Op.intDiv,h,yh]
theorem fZ{k:IntKind}(q:σ.ev n x= .pv (.int k i))(r:σ.ev n y= .pv (.int k j))(h:j≠0):
  XJ C n ⟨dst,.binOp .rem t x y t',ty,pos,after,gd⟩ σ ⟨.pv (.int k (i.tmod j)),[],[]⟩:=
 .lit O λa w m R hw=>by simp[execOp,hw.int q,hw.int r,eqGuard,binOp,Op.intDiv,h,yh]
theorem SS{k k':IntKind}(q:σ.ev n x= .pv (.int k i))(r:σ.ev n y= .pv (.int k' j))(h:0<=j):
  XJ C n ⟨dst,.binOp .shl t x y t',ty,pos,after,gd⟩ σ ⟨.pv (.int k (k.wrap (i*2^(min j.toNat k.bits)))),[],[]⟩:=
 .lit O λa w m R hw=>by simp[execOp,hw.int q,hw.int r,eqGuard,binOp,Op.shift,Int.not_lt.2 h,yh]
theorem RE{k k':IntKind}(q:σ.ev n x= .pv (.int k i))(r:σ.ev n y= .pv (.int k' j))(h:0<=j):
  XJ C n ⟨dst,.binOp .shr t x y t',ty,pos,after,gd⟩ σ ⟨.pv (.int k (i.fdiv (2^(min j.toNat k.bits)))),[],[]⟩:=
 .lit O λa w m R hw=>by simp[execOp,hw.int q,hw.int r,eqGuard,binOp,Op.shift,Int.not_lt.2 h,yh]
def Rc(op:BinOp)(a b:ByteArray):Option PV:=
 match op with
 | .eql=>UF (.bool (a.toList==b.toList))
 | .neq=>UF (.bool !(a.toList==b.toList))
 | .lss=>UF (.bool (Op.bytesLess a.toList b.toList))
 | .leq=>UF (.bool (Op.bytesLess a.toList b.toList||a.toList==b.toList))
 | .gtr=>UF (.bool !(Op.bytesLess a.toList b.toList||a.toList==b.toList))
 | .geq=>UF (.bool !(Op.bytesLess a.toList b.toList))
 |_=>UG
theorem jm{op:BinOp}{i j:ByteArray}{p:PV}(D:σ.ev n x= .pv (.str i))(E:σ.ev n y= .pv (.str j))(q:Rc op i j=UF p):
  XJ C n ⟨dst,.binOp op t x y t',ty,pos,after,gd⟩ σ ⟨.pv p,[],[]⟩:=
 .lit (by cases op<;>simp only[Rc,TJ,reduceCtorEq]at q<;>subst q<;>rfl) λa w m R hw=>by
  have r:=hw.str D;have B:=hw.str E;cases op<;>simp only[Rc,TJ,reduceCtorEq]at q<;>subst q<;>
   simp[execOp,r,B,eqGuard,binOp,Op.stringOp,yh]
theorem cU {op:BinOp} {k:IntKind}   (q:σ.ev n x= .pv (.int k i)) (r:σ.ev n y= .pv (.int k j)) (B:vx op k i j=UF (.bool b)) (h:b=VA):
  XJ C n ⟨dst,.binOp op t x y t',ty,pos,after,gd⟩ σ ⟨.pv (.bool VA),[],[]⟩:=h▸ba q r B
theorem fI {op:BinOp} {k:IntKind}   (q:σ.ev n x= .pv (.int k i)) (r:σ.ev n y= .pv (.int k j)) (B:vx op k i j=UF (.bool b)) (h:b=VC):
  XJ C n ⟨dst,.binOp op t x y t',ty,pos,after,gd⟩ σ ⟨.pv (.bool VC),[],[]⟩:=h▸ba q r B
theorem nB {op:BinOp} {i j:ByteArray}  (q:σ.ev n x= .pv (.str i)) (r:σ.ev n y= .pv (.str j)) (B:Rc op i j=UF (.bool b)) (h:b=VA):
  XJ C n ⟨dst,.binOp op t x y t',ty,pos,after,gd⟩ σ ⟨.pv (.bool VA),[],[]⟩:=h▸jm q r B
theorem jE {op:BinOp} {i j:ByteArray}  (q:σ.ev n x= .pv (.str i)) (r:σ.ev n y= .pv (.str j)) (B:Rc op i j=UF (.bool b)) (h:b=VC):
  XJ C n ⟨dst,.binOp op t x y t',ty,pos,after,gd⟩ σ ⟨.pv (.bool VC),[],[]⟩:=h▸jm q r B
theorem tf{i j:ByteArray}(q:σ.ev n x= .pv (.str i))(r:σ.ev n y= .pv (.str j))(h:i.size+j.size<=9223372036854775807):
  XJ C n ⟨dst,.binOp .add t x y t',ty,pos,after,gd⟩ σ ⟨.pv (.str (i++j)),[],[]⟩:=
 .val λa w m R hw=>⟨.string (i++j),by
  have B:IntKind.i64.max=9223372036854775807:=Xl;simp[execOp,hw.str q,hw.str r,eqGuard,binOp,Op.stringOp];omega,by simp only[Rel,RelP]⟩
theorem O0{i j:Bool}(q:C.P.underlying t=UF .bool)(r:σ.ev n x= .pv (.bool i))(B:σ.ev n y= .pv (.bool j)):
  XJ C n ⟨dst,.binOp .eql t x y t',ty,pos,after,gd⟩ σ ⟨.pv (.bool (i==j)),[],[]⟩:=
 .val λa w m R hw=>⟨.bool (i==j),by
  simp[execOp,hw.bool r,hw.bool B,eqGuard,run_eql_bool _ _ _ _ q],by simp only[Rel,RelP]⟩
theorem Pg{i j:Bool}(q:C.P.underlying t=UF .bool)(r:σ.ev n x= .pv (.bool i))(B:σ.ev n y= .pv (.bool j)):
  XJ C n ⟨dst,.binOp .neq t x y t',ty,pos,after,gd⟩ σ ⟨.pv (.bool (i !=j)),[],[]⟩:=
 .val λa w m R hw=>⟨.bool (i !=j),by
  simp[execOp,hw.bool r,hw.bool B,eqGuard,run_neq_bool _ _ _ _ q];cases i<;>cases j<;>rfl,by simp only[Rel,RelP]⟩
theorem EV{cs:List PV}(r:C.P.underlying t=UF (.slice e))(B:σ.ev n x= .pv (.sl (UF b) k cs)):
  XJ C n ⟨dst,.binOp .eql t x (.const (.slice UG 0 0)) t',ty,pos,after,gd⟩ σ ⟨.pv (.bool b),[],[]⟩:=
 .val λa w m R hw=>by
  have:=hw.pv B;simp only[RelP]at this;obtain⟨A,c,e,_,_,q,_⟩:=this;have q:=q b O;have hc:a.eval (.const (.slice UG 0 0))= .slice UG 0 0:=rfl;exact⟨.bool b,by simp[execOp,e,eqGuard,binOp,hc,run_equal_slice_nil _ _ _ _ _ _ r,q],by simp only[Rel,RelP]⟩
theorem Ih{cs:List PV}(r:C.P.underlying t=UF (.slice e))(B:σ.ev n x= .pv (.sl (UF b) k cs)):
  XJ C n ⟨dst,.binOp .neq t x (.const (.slice UG 0 0)) t',ty,pos,after,gd⟩ σ ⟨.pv (.bool (!b)),[],[]⟩:=
 .val λa w m R hw=>by
  have:=hw.pv B;simp only[RelP]at this;obtain⟨A,c,e,_,_,q,_⟩:=this;have q:=q b O;have hc:a.eval (.const (.slice UG 0 0))= .slice UG 0 0:=rfl;exact⟨.bool (!b),by simp[execOp,e,eqGuard,binOp,hc,run_equal_slice_nil _ _ _ _ _ _ r,q],by simp only[Rel,RelP]⟩
theorem R8(q:σ.ev n x= .pv (.bool b)):XJ C n ⟨dst,.unOp .not t x,ty,pos,after,gd⟩ σ ⟨.pv (.bool (!b)),[],[]⟩:=
 .val λa w m R hw=>⟨.bool (!b),by simp[execOp,hw.bool q,Op.unary],by simp only[Rel,RelP]⟩
theorem NU(q:σ.ev n x= .pv (.int .i64 i))(h: -9223372036854775807<=i)(r:i<=9223372036854775807):XJ C n ⟨dst,.unOp .neg t x,ty,pos,after,gd⟩ σ ⟨.pv (.int .i64 (-i)),[],[]⟩:=
 .val λa w m R hw=>⟨.int .i64 (-i),by
  have:=fw (i:= -i) Xj;simp[execOp,hw.int q,Op.unary,Op.intArith,this],by simp only[Rel,RelP]⟩
theorem jC{k k':IntKind}{src d:TypeId}{sd:TypeDesc}(q:C.P.underlying src=UF sd)(r:C.P.underlying d=UF (.int k'))(B:σ.ev n x= .pv (.int k i)):
  XJ C n ⟨dst,.convert src d x,ty,pos,after,gd⟩ σ ⟨.pv (.int k' (k'.wrap i)),[],[]⟩:=
 .val λa w m R hw=>⟨.int k' (k'.wrap i),by
  simp only[execOp,hw.int B,convert,Sem.run_bind,run_underlying q,run_underlying r,Result.andThen_ok];cases sd<;>simp[Conv.intToInt],by simp only[Rel,RelP]⟩
theorem bz{ps:List PV}{p:PV}{i:Nat}(q:σ.ev n x= .pv (.tup ps))(r:ps[i]? =UF p):XJ C n ⟨dst,.extract x i,ty,pos,after,gd⟩ σ ⟨.pv p,[],[]⟩:=
 .val λa w m R hw=>by
  have:=hw.pv q;simp only[RelP]at this;obtain⟨us,e,hl⟩:=this;obtain⟨u,hu,hr⟩:=hl.get r;exact⟨u,by simp[execOp,e,Instr.extract,hu],by simpa only[Rel]using hr⟩
theorem DJ{ps:List V}{p:V}{i:Nat}(q:σ.ev n x= .tup ps)(r:ps[i]? =UF p):XJ C n ⟨dst,.extract x i,ty,pos,after,gd⟩ σ ⟨p,[],[]⟩:=
 .val λa w m R hw=>by
  have:=hw.ev x;rw[q]at this;simp only[Rel]at this;obtain⟨us,e,hl⟩:=this;obtain⟨u,hu,hr⟩:=hl.get r;exact⟨u,by simp[execOp,e,Instr.extract,hu],hr⟩
theorem IL{s:ByteArray}(q:C.P.underlying t=UF .string)(r:σ.ev n x= .pv (.str s)):
  XJ C n ⟨dst,.call { callee:= .builtin .len,args:= #[x],argTypes:= #[t] },ty,pos,after,gd⟩ σ ⟨.pv (.int .i64 s.size),[],[]⟩:=
 .val λa w m R hw=>⟨.int .i64 s.size,by simp[execOp,resolve,invoke,builtin,Builtin.len_,hw.str r,run_underlying q,goInt],by simp only[Rel,RelP]⟩
theorem RV{b:Option Bool}{cs:List PV}(q:C.P.underlying t=UF (.slice e))(r:σ.ev n x= .pv (.sl b k cs)):
  XJ C n ⟨dst,.call { callee:= .builtin .len,args:= #[x],argTypes:= #[t] },ty,pos,after,gd⟩ σ ⟨.pv (.int .i64 k),[],[]⟩:=
 .val λa w m R hw=>by
  have:=hw.pv r;simp only[RelP]at this;obtain⟨A,c,e,_⟩:=this;exact⟨.int .i64 k,by simp[execOp,resolve,invoke,builtin,Builtin.len_,e,run_underlying q,goInt],by simp only[Rel,RelP]⟩
theorem QD{o:Ob}(B:C.P.underlying t=UF (.slice e))(D:σ.ev n x= .osl id sz k)(E:σ.ob id=UF o)(r:o.real=VA:=by rfl):
  XJ C n ⟨dst,.call { callee:= .builtin .len,args:= #[x],argTypes:= #[t] },ty,pos,after,gd⟩ σ ⟨.pv (.int .i64 k),[],[]⟩:=
 .val λa w m R hw=>by
  have:=hw.ev x;rw[D]at this;simp only[Rel]at this;have q:=hw.hr.dom id;rw[E]at q;replace q:=q.trans r;obtain⟨⟨b,N⟩,hm⟩:=T7.1 q;obtain⟨c,e,_⟩:=this.2 b N hm;exact⟨.int .i64 k,by simp[execOp,resolve,invoke,builtin,Builtin.len_,e,run_underlying B,goInt],by simp only[Rel,RelP]⟩
theorem OE(q:C.P.underlying t=UF (.slice e))(r:σ.ev n x= .gsl id sz k):
  XJ C n ⟨dst,.call { callee:= .builtin .len,args:= #[x],argTypes:= #[t] },ty,pos,after,gd⟩ σ ⟨.pv (.int .i64 k),[],[]⟩:=
 .val λa w m R hw=>by
  have:=hw.ev x;rw[r]at this;simp only[Rel]at this;obtain⟨_,A,c,e,_⟩:=this;exact⟨.int .i64 k,by simp[execOp,resolve,invoke,builtin,Builtin.len_,e,run_underlying q,goInt],by simp only[Rel,RelP]⟩
theorem BM{k:IntKind}(q:σ.ev n x= .pv (.int k i))(r:σ.ev n y= .pv (.int k j)):
  XJ C n ⟨dst,.call { callee:= .builtin .max,args:= #[x,y],argTypes:= #[t,t'] },ty,pos,after,gd⟩ σ ⟨.pv (.int k (if j>i then j else i)),[],[]⟩:=
 .val λa w m R hw=>⟨.int k (if j>i then j else i),by simp[execOp,resolve,invoke,builtin,Builtin.max_,Builtin.max2,hw.int q,hw.int r],by simp only[Rel,RelP]⟩
theorem sG{k:IntKind}(q:σ.ev n x= .pv (.int k i))(r:σ.ev n y= .pv (.int k j)):
  XJ C n ⟨dst,.call { callee:= .builtin .min,args:= #[x,y],argTypes:= #[t,t'] },ty,pos,after,gd⟩ σ ⟨.pv (.int k (if j<i then j else i)),[],[]⟩:=
 .val λa w m R hw=>⟨.int k (if j<i then j else i),by simp[execOp,resolve,invoke,builtin,Builtin.min_,Builtin.min2,hw.int q,hw.int r],by simp only[Rel,RelP]⟩
end
end
section
def Row(w:World)(R:Nat->Prop)(A:Option Addr)(xs:List Value):Prop:=
 xs≠[]->∃b off:Nat,A=UF ⟨b,off,UG⟩/\R b/\b<w.heap.size/\∀j,j<xs.length->w.cell? ⟨b,off+j,UG⟩=xs[j]?
abbrev PO(l:List ByteArray):List Value:=l.map Value.string
def Any(_:Nat):Prop:=True
section
variable {w w':World}{R R':Nat->Prop}{A:Option Addr}{xs:List Value}
theorem Row.nil:Row w R A []:=λh=>absurd O h
theorem Row.at_(h:Row w R A xs)(q:k<xs.length):
  ∃b off:Nat,A=UF ⟨b,off,UG⟩/\R b/\b<w.heap.size/\∀j,j<xs.length->w.cell? ⟨b,off+j,UG⟩=xs[j]? :=
 h (by rintro rfl;simp at q)
theorem Row.N5{l:List ByteArray}(h:Row w R A (PO l)){k:Nat}(q:k<l.length):
  ∃b off:Nat,A=UF ⟨b,off,UG⟩/\b<w.heap.size/\w.cell? ⟨b,off+k,UG⟩=UF (.string l[k]):=by
 obtain⟨b,off,e,_,hb,hc⟩:=h.at_ (k:=k) (by simpa using q);exact⟨b,off,e,hb,by rw[hc k (by simpa using q)];simp[q]⟩
theorem Row.j4(h:Row w R A xs)(B:w.heap.size<=w'.heap.size)
  (r:∀b off,A=UF ⟨b,off,UG⟩->R b->b<w.heap.size->w'.heap[b]? =w.heap[b]?):Row w' R A xs:=by
 intro hne;obtain⟨b,off,rfl,hR,hlt,hc⟩:=h hne;have q:=r b off O hR hlt;exact⟨b,off,O,hR,Xj,λj hj=>by rw[World.cell?_of_block (w:=w) (a:=⟨b,off+j,UG⟩) q];exact hc j hj⟩
theorem Row.alloc(h:Row w R A xs)(o:Obj):Row (w.alloc o) R A xs:=
 h.j4 Xn λb _ _ _ hlt=>Below.heap_alloc w o b hlt
end
theorem xL{base:Nat}{v:Value}{xs:List Value}(h:w.ownsRow base e size v n xs):∃A c,v= .slice A n c/\n<=c/\c<=maxLen:=by
 rcases h.2 with⟨rfl,rfl⟩|⟨g,cap,cur,rfl,_,_,hnc,hm,_⟩
 .grind
 exact⟨_,cap,O,hnc,hm⟩
theorem pV{W:World}{o:Oper}{K:Act->World->Prop}{Q:Exit->Act->World->Prop}(s x:Operand)(t:TypeId)
  (G:o.op= .call { callee:= .builtin .append,args:= #[s,x],argTypes:= #[t,t] })
  (base:Nat) (e:TypeId) (z:Value) (size bytes:Nat) (ht:P.underlying t=UF (.slice e)) (hinfo:(P.info? e).map (λi=>(i.zero,i.size,i.bytes))=UF (UF z,size,bytes))
  (hzs:z.cells.size=size) (hsz:0<size) (hby:bytes<=1000)
  (v:Value) (n m c:Nat) (A:Option Addr) (xs news:List Value) (hs:a.eval s=v) (hx:a.eval x= .slice A m c) (hown:W.ownsRow base e size v n xs) {R:Nat->Prop} (hr:Row W R A news)
  (hl:news.length=m*size) (h1:∀u∈news,u.oneCell'=VA) (hb:n+m<=1000000000) (hbase:base<=W.heap.size)
  (h:∀A' c' w',w'.ownsRow base e size (.slice A' (n+m) c') (n+m) (xs++news)->W.grownBy w' v.ownBlock->((Value.slice A' (n+m) c').ownBlock=v.ownBlock\/∃g,(Value.slice A' (n+m) c').ownBlock=UF g/\W.heap.size<=g)->K (a.put o.dst (.slice A' (n+m) c')) w'):
  o.wp P a W K Q:=by
 obtain⟨i,hi,hz,hsize,hbytes⟩:=info_parts hinfo;have B:(n+m)*bytes<=140737488355328:=AS (Uy hb hby) Xl;unfold Oper.wp execOp;cases A with
 | none=>
   have D:news=[]:=by
    rcases Classical.em (news=[])with h0|h0
    .exact h0
    obtain⟨b,off,hh,_⟩:=hr h0;cases hh
   subst D;have H:m=0:=by
    rcases UJ m with h0|h0
    .exact h0
    have:=W8 h0 hsz;simp at hl;omega
   subst H;have q:(Builtin.append_ #[t,t] o.type #[v,.slice UG 0 c]).run P W= .ok v W:=by
    rcases hown.2 with⟨rfl,rfl⟩|⟨g,cap,cur,rfl,_,_,hnc,_⟩
    .simp[Builtin.append_,run_underlying ht,sizeOf,typeInfo,hi,Builtin.lenOf,Builtin.firstCells]
    simp[Builtin.append_,run_underlying ht,sizeOf,typeInfo,hi,Builtin.lenOf,Builtin.firstCells,hnc,storeCells]
   simp only[G,resolve,invoke,builtin,Sem.run_bind,Sem.run_pure,Result.andThen_ok,Wr,cu,Un,hs,hx,q];obtain⟨A',c',rfl,_,_⟩:=xL hown;exact h A' c' W (by simpa using hown) (World.grownBy.refl _ _) (.inl O)
 | some ad=>
   have r:∀j u,news[j]? =UF u->W.cell? (ad.add j)=UF u:=by
    intro j u hu;have E:j<news.length:=(TE.1 hu).1;obtain⟨b,off,hh,_,_,hc⟩:=hr (by rintro rfl;simp at E);cases hh;rw[Addr.add_lit,hc j E];exact hu
   obtain⟨v',w',q,h2,h3,_,h5⟩:=run_append_own_at (P:=P) W base t o.type e i z size bytes ht hi hz hsize hbytes hzs hsz v n xs hown ad m c news
    hl r h1 (by simp only[maxLen];omega) B hbase
   simp only[G,resolve,invoke,builtin,Sem.run_bind,Sem.run_pure,Result.andThen_ok,Wr,cu,Un,hs,hx,q];obtain⟨A',c',rfl,_,_⟩:=xL h2;refine h A' c' w' h2 h3 ?_;rcases h5 with h5|h5
   .exact .inl h5
   exact .inr ⟨_,h5,AT _⟩
theorem eW{k:IntKind}{a b:Int}(h:a=b):Ending.returned (.int k a)= .returned (.int k b):=by rw[h]
end
section
def V.cells:V->List V
 | .agg cs=>cs
 | .pv (.agg ps)=>ps.map .pv
 |v=>[v]
mutual
def PV.leaf:PV->Bool
 | .agg _| .tup _| .any=>VC
 |_=>VA
end
def V.leaf:V->Bool
 | .pv p=>p.leaf
 | .agg _| .tup _=>VC
 |_=>VA
section
variable {w w':World}{m m':Gm}{av av':Av}{R R':Nat->Prop}
theorem RelP.leaf{p:PV}(h:RelP w R p u)(q:p.leaf=VA):u.oneCell'=VA:=by
 cases p<;>simp only[PV.leaf,UO]at q<;>simp only[RelP]at h
 case sl=>obtain⟨A,c,rfl,_⟩:=h;rfl
 case rp=>obtain⟨b,o,us,rfl,_⟩:=h;rfl
 case fn=>obtain⟨b,o,rfl,_⟩:=h;rfl
 case iface=>obtain⟨x,rfl,_⟩:=h;rfl
 case mp=>obtain⟨x,rfl,_⟩:=h;rfl
 all_goals (subst h;rfl)
theorem Rel.cells{v:V}(h:Rel w m av R v u)(D:∀c∈v.cells,c.leaf=VA)(B:∀id o,v= .ptr id o->(m id).isSome)(q:∀id s k,v= .osl id s k->(m id).isSome)(r:∀id,v= .map id->(m id).isSome):
  RelL w m av R v.cells u.cells.toList:=by
 have one:u.oneCell'=VA->RelL w m av R [v] u.cells.toList:=by
  intro h1;have:u.cells= #[u]:=by cases u<;>simp[Value.oneCell']at h1<;>rfl
  rw[this];exact RelL.cons h RelL.nil
 cases v with
 | agg cs=>
   simp only[Rel]at h;obtain⟨us,rfl,h⟩:=h;simpa[V.cells,Value.cells]using h
 | pv p=>
   cases p with
   | agg ps=>
     simp only[Rel,RelP]at h;obtain⟨us,rfl,h⟩:=h;simpa[V.cells,Value.cells]using RelL.ofP h
   | _=>
     refine one ?_;simp only[Rel]at h;exact h.leaf (by simpa[V.cells,V.leaf]using D)
 |tup cs=>simp[V.cells,V.leaf]at D
 | fn f a b=>
   refine one ?_;simp only[Rel]at h;obtain⟨us,vs,rfl,_⟩:=h;rfl
 | ptr id o=>
   refine one ?_;obtain⟨⟨b,N⟩,hm⟩:=T7.1 (B id o O);simp only[Rel]at h;rw[h.2 b N hm];rfl
 | osl id s k=>
   refine one ?_;obtain⟨⟨b,N⟩,hm⟩:=T7.1 (q id s k O);simp only[Rel]at h;obtain⟨c,e,_⟩:=h.2 b N hm;rw[e];rfl
 | gsl id s k=>
   refine one ?_;simp only[Rel]at h;obtain⟨_,A,c,e,_⟩:=h;rw[e];rfl
 | tsl id s k=>
   refine one ?_;simp only[Rel]at h;obtain⟨_,A,c,e,_⟩:=h;rw[e];rfl
 | map id=>
   refine one ?_;obtain⟨⟨b,N⟩,hm⟩:=T7.1 (r id O);simp only[Rel]at h;rw[h.2 b N hm];rfl
end
section
variable {C:Ctx}{n:Nat}{σ:St}{a:Act}{w:World}{m:Gm}{R:Nat->Prop}
theorem SW.world(h:SW C n σ a w m R){w':World}{m':Gm}{R':Nat->Prop}{ob':Nat->Option Ob}{av':Av}(q:HR C m' R' ob' av' w')(r:∀b,R b->R' b/\w'.heap[b]? =w.heap[b]?)
  (B:∀id x,σ.av id=VC->m' id=UF x->m id=UF x) (D:∀id,σ.av id=VC->av' id=VC):SW C n ⟨σ.sl,ob',av'⟩ a w' m' R':=
 ⟨q,h.df,h.sz,λt ht=>(h.sl t ht).mono r B D⟩
theorem SW.live(h:SW C n σ a w m R){o:Ob}(B:σ.ob id=UF o)(r:o.real=VA:=by rfl):∃b N,m id=UF (b,N)/\lQ w m σ.av R b N o:=by
 have q:=h.hr.dom id;rw[B]at q;replace q:=q.trans r;obtain⟨⟨b,N⟩,hm⟩:=T7.1 q;exact⟨b,N,hm,h.hr.obj id o b N B hm⟩
theorem SW.ptr(h:SW C n σ a w m R){x:Operand}{o:Ob}(r:σ.ev n x= .ptr id off)(B:σ.ob id=UF o)(q:o.real=VA:=by rfl):
  ∃b N,a.eval x= .pointer (UF ⟨b,off,UG⟩)/\m id=UF (b,N)/\lQ w m σ.av R b N o:=by
 obtain⟨b,N,hm,hr⟩:=h.live B q;have:=h.ev x;rw[r]at this;simp only[Rel]at this;exact⟨b,N,this.2 b N hm,hm,hr⟩
theorem SW.osl(h:SW C n σ a w m R){x:Operand}{o:Ob}(r:σ.ev n x= .osl id sz k)(B:σ.ob id=UF o)(q:o.real=VA:=by rfl):
  ∃b N c,a.eval x= .slice (UF ⟨b,0,UG⟩) k c/\k<=c/\c<=maxLen/\N=c*sz/\m id=UF (b,N)/\lQ w m σ.av R b N o:=by
 obtain⟨b,N,hm,hr⟩:=h.live B q;have:=h.ev x;rw[r]at this;simp only[Rel]at this;obtain⟨c,e,h1,h2,h3⟩:=this.2 b N hm;exact⟨b,N,c,e,h1,h2,h3,hm,hr⟩
theorem SW.alloc(h:SW C n σ a w m R)(r:σ.av id=VA)(arr:Array Value)(ty:TypeId)(o:Ob)
  (X:∀(w':World)(m':Gm)(av':Av),(∀b,R b->R b/\w'.heap[b]? =w.heap[b]?)->(∀i x,σ.av i=VC->m' i=UF x->m i=UF x)->(∀i,σ.av i=VC->av' i=VC)->
   w'.heap[w.heap.size]? =UF (.cells arr ty (0,0))->lQ w' m' av' R w.heap.size arr.size o) (L:o.real=VA:=by rfl):
  SW C n ⟨σ.sl,obL [(id,UF o)] σ.ob,avL [id] σ.av⟩ a (w.alloc (.cells arr ty)) (upd m id (UF (w.heap.size,arr.size))) R:=by
 have H:∀b,R b->R b/\(w.alloc (.cells arr ty)).heap[b]? =w.heap[b]? :=λb q=>⟨q,Below.heap_alloc w _ b (h.hr.rsz b q)⟩
 have I:∀i,σ.av i=VC->i≠id:=λi hi e=>by rw[e,r]at hi;cases hi
 have M:m id=UG:=by
  have:=h.hr.dom id;rw[h.hr.free id r]at this;simpa[cL]using this
 have J:∀i x,σ.av i=VC->upd m id (UF (w.heap.size,arr.size)) i=UF x->m i=UF x:=λi x hi e=>by rwa [a8 _ _ (I i hi)]at e
 have G:∀i,σ.av i=VC->avL [id] σ.av i=VC:=λi hi=>by grind[avL,Nat.beq]
 have U:(w.alloc (.cells arr ty)).heap.size=w.heap.size+1:=Xn;have B:∀i,i≠id->obL [(id,UF o)] σ.ob i=σ.ob i:=λi hi=>by grind[Nat.beq,cd,obL]
 have D:obL [(id,UF o)] σ.ob id=UF o:=by simp[obL]
 have V:∀i,(m i).isSome=VA->σ.av i=VC:=λi hi=>by
  cases q:σ.av i
  .rfl
  have:=h.hr.dom i;rw[h.hr.free i q,hi]at this;cases this
 refine h.world ⟨?_,?_,?_,?_,?_,?_,?_,?_,?_,?_,?_⟩ H J G
 .intro i;by_cases e:i=id
  .subst e;rw[aC,D];exact L.symm
  rw[a8 _ _ e,B i e];exact h.hr.dom i
 .intro i hi;simp only[avL]at hi;cases q:Nat.beq i id with
  |true=>rw[q]at hi;simp at hi
  | false=>
    rw[q]at hi;have e:i≠id:=λe=>by subst e;simp at q
    rw[B i e];exact h.hr.free i (by simpa using hi)
 .intro i o' b N h1 h2;by_cases e:i=id
  .subst e;rw[D]at h1;rw[aC]at h2;cases h1;cases h2;exact X _ _ _ H J G (heap_alloc_new w _)
  rw[B i e]at h1;rw[a8 _ _ e]at h2;exact(h.hr.obj i o' b N h1 h2).mono H J G (Below.heap_alloc w _ b (h.hr.own i b N h2).1)
 .intro i j b N N' h1 h2;by_cases e1:i=id<;>by_cases e2:j=id
  .rw[e1,e2]
  .subst e1;rw[aC]at h1;rw[a8 _ _ e2]at h2;cases h1;have:=(h.hr.own j _ _ h2).1;omega
  .subst e2;rw[aC]at h2;rw[a8 _ _ e1]at h1;cases h2;have:=(h.hr.own i _ _ h1).1;omega
  rw[a8 _ _ e1]at h1;rw[a8 _ _ e2]at h2;exact h.hr.inj i j b N N' h1 h2
 .intro i b N h1;by_cases e:i=id
  .subst e;rw[aC]at h1;cases h1;exact⟨Xj,λq=>by have:=h.hr.rsz _ q;omega,.inr h.hr.frame.size⟩
  rw[a8 _ _ e]at h1;obtain⟨h2,h3,h4⟩:=h.hr.own i b N h1;exact⟨Xj,h3,h4⟩
 .intro b q;have:=h.hr.rsz b q;omega
 .exact h.hr.rfr
 .exact h.hr.r0
 .refine⟨h.hr.frame.os,h.hr.frame.tape,h.hr.frame.output,?_,?_⟩
  .have:=h.hr.frame.size;omega
  .intro k hk hF;rw[Below.heap_alloc w _ k (by have:=h.hr.frame.size;omega)];exact h.hr.frame.block k hk hF
 .intro i x hi e;have E:i≠id:=λW=>by subst W;rw[h.hr.res i hi]at r;cases r
  rw[a8 _ _ E]at e;exact h.hr.j4 i x hi e
 .intro i hi;exact G i (h.hr.res i hi)
theorem SW.store(h:SW C n σ a w m R){b:Nat}(r:m id=UF (b,N))(arr arr':Array Value)(ty:TypeId)(U:w.heap[b]? =UF (.cells arr ty (0,0)))(V:arr'.size=N)(o:Ob)
  (W:∀(w':World),(∀b,R b->R b/\w'.heap[b]? =w.heap[b]?)->w'.heap[b]? =UF (.cells arr' ty (0,0))->lQ w' m σ.av R b N o) (I:o.real=VA:=by rfl):
  SW C n ⟨σ.sl,obL [(id,UF o)] σ.ob,avL [] σ.av⟩ a (w.setRow b arr') m R:=by
 have E:=h.hr.own id b N r;have B:=setRow_heap w b arr arr' ty (0,0) U;have q:∀k,k≠b->(w.setRow b arr').heap[k]? =w.heap[k]? :=λk hk=>setRow_other w b k arr' hk
 have H:∀k,R k->R k/\(w.setRow b arr').heap[k]? =w.heap[k]? :=λk hk=>⟨hk,q k (λe=>E.2.1 (e▸hk))⟩
 have X:(w.setRow b arr').heap.size=w.heap.size:=Xn;have D:∀i,i≠id->obL [(id,UF o)] σ.ob i=σ.ob i:=λi hi=>by grind[Nat.beq,cd,obL]
 have G:obL [(id,UF o)] σ.ob id=UF o:=by simp[obL]
 have J:∀i x,σ.av i=VC->m i=UF x->m i=UF x:=λ_ _ _ e=>e
 have L:∀i,σ.av i=VC->avL [] σ.av i=VC:=λ_ hi=>hi
 refine h.world ⟨?_,?_,?_,?_,?_,?_,?_,?_,?_,?_,?_⟩ H J L
 .intro i;by_cases e:i=id
  .subst e;rw[r,G];exact I.symm
  rw[D i e];exact h.hr.dom i
 .intro i hi;have e:i≠id:=λe=>by
   subst e;have:=h.hr.dom i;rw[h.hr.free i hi,r]at this;cases this
  rw[D i e];exact h.hr.free i hi
 .intro i o' b' N' h1 h2;by_cases e:i=id
  .subst e;rw[G]at h1;rw[r]at h2;cases h1;cases h2;exact W _ H B
  rw[D i e]at h1;exact(h.hr.obj i o' b' N' h1 h2).mono H J L (q b' (λM=>e (h.hr.inj i id b N' N (M▸h2) r)))
 .exact h.hr.inj
 .intro i b' N' h1;obtain⟨h2,h3,h4⟩:=h.hr.own i b' N' h1;exact⟨Xj,h3,h4⟩
 .intro b' hb';have:=h.hr.rsz b' hb';omega
 .exact h.hr.rfr
 .exact h.hr.r0
 .refine⟨h.hr.frame.os,h.hr.frame.tape,h.hr.frame.output,?_,?_⟩
  .have:=h.hr.frame.size;omega
  .intro k hk hF;rw[q k (λe=>by subst e;rcases E.2.2 with h'|h';exact hF h';omega)];exact h.hr.frame.block k hk hF
 .exact h.hr.j4
 exact h.hr.res
end
def bT(P:Program)(t:TypeId)(k:Nat):Prop:=(P.info? t).map (·.size)=UF k
def isRow(P:Program)(t:TypeId):Prop:=∃d,P.underlying t=UF d/\d.isRow=VA
def gT(P:Program)(t:TypeId):Prop:=∃d,P.underlying t=UF d/\d.isRow=VC
theorem gT.run(h:gT P t)(w:World):(isAgg t).run P w= .ok VC w:=by
 obtain⟨d,hu,hd⟩:=h;unfold isAgg;rw[Sem.run_bind,run_underlying hu w];cases d<;>simp_all
theorem bT.run(h:bT P t k)(w:World):(sizeOf t).run P w= .ok k w:=by
 unfold bT at h;cases hq:P.info? t with
 |none=>simp[hq]at h
 |some i=>simp[hq]at h;simp[sizeOf,typeInfo,hq,h]
section
variable {C:Ctx}{n:Nat}{σ:St}{dst:Option Tmp}{ty t t':TypeId}{pos:String}{after:Array Edge}{gd:Option (Nat×Bool)}{x y:Operand}
theorem Ts(σ:St)(d:Option Tmp)(v:V)(wr:List (Nat×Option Ob))(nw:List Nat):σ.app d ⟨v,wr,nw⟩=St.put ⟨σ.sl,obL wr σ.ob,avL nw σ.av⟩ d v:=by
 cases d<;>rfl
theorem rA(id:Nat)(G:σ.av id=VA){v:V}(H:σ.ev n x=v)(I:v.cells.all V.leaf=VA)(D:∀i o,v= .ptr i o->cL (σ.ob i)=VA)(q:∀i s k,v= .osl i s k->cL (σ.ob i)=VA)(r:∀i,v= .map i->cL (σ.ob i)=VA):
  XJ C n ⟨dst,.box T x,ty,pos,after,gd⟩ σ ⟨.ptr id 0,[(id,UF (.mix T v.cells))],[id]⟩:=by
 rintro a w Q ⟨m,R,hw⟩;have B:=hw.ev x;rw[H]at B;have hc:=B.cells (by simpa using I) (λi o e=>by rw[hw.hr.dom];exact D i o e) (λi s k e=>by rw[hw.hr.dom];exact q i s k e) (λi e=>by rw[hw.hr.dom];exact r i e);unfold Oper.wp;have E:(execOp a.eval ⟨dst,.box T x,ty,pos,after,gd⟩).run C.P w= .ok (.value (.pointer (UF ⟨w.heap.size,0,UG⟩))) (w.alloc (.cells (a.eval x).cells T)):=by
  simp[execOp,Instr.box,newVar,newRow]
 rw[E];refine⟨_,O,upd m id (UF (w.heap.size,(a.eval x).cells.size)),R,?_⟩;rw[Ts];refine SW.put (hw.alloc G (a.eval x).cells T (.mix T v.cells) ?_) dst ?_
 .intro w' m' av' hR hm ha hb;refine⟨_,hb,O,?_,?_⟩
  .rw[<-hc.length];simp
  have:(a.eval x).cells.toList.take v.cells.length=(a.eval x).cells.toList:=aH (by rw[<-hc.length];exact AT _);rw[this];exact hc.mono hR hm ha
 simp only[Rel];refine⟨by simp[avL],λb N e=>?_⟩;rw[aC]at e;cases e;rfl
theorem Mr(id:Nat){cs:List PV}(D:(C.P.info? T).map (·.zero)=UF (UF z))(B:z.cells.toList.map gB=cs)(E:σ.av id=VA):
  XJ C n ⟨dst,.alloc T,ty,pos,after,gd⟩ σ ⟨.ptr id 0,[(id,UF (.mix T (cs.map .pv)))],[id]⟩:=by
 rintro a w Q ⟨m,R,hw⟩;unfold Oper.wp;have r:(execOp a.eval ⟨dst,.alloc T,ty,pos,after,gd⟩).run C.P w= .ok (.value (.pointer (UF ⟨w.heap.size,0,UG⟩))) (w.alloc (.cells z.cells T)):=by
  cases hq:C.P.info? T with
  |none=>simp[hq]at D
  | some i=>
    simp[hq]at D;simp[execOp,Instr.alloc,zeroValue,typeInfo,hq,D,newVar,newRow]
 rw[r];refine⟨_,O,upd m id (UF (w.heap.size,z.cells.size)),R,?_⟩;rw[Ts];refine SW.put (hw.alloc E z.cells T (.mix T (cs.map .pv)) ?_) dst ?_
 .intro w' m' av' hR hm ha hb;have q:cs.length=z.cells.size:=by rw[<-B];simp
  refine⟨_,hb,O,by simp[q],?_⟩;have:z.cells.toList.take (cs.map V.pv).length=z.cells.toList:=aH (by simp[q]);rw[this];refine RelL.ofP ?_;rw[<-B];generalize z.cells.toList=l;induction l with
  |nil=>simpa using RelPL.nil
  |cons x l ih=>simpa using RelPL.cons (gh w' R x) ih
 simp only[Rel];refine⟨by simp[avL],λb N e=>?_⟩;rw[aC]at e;cases e;rfl
theorem lS{b:Nat}{arr:Array Value}(r:w.heap[b]? =UF (.cells arr T (0,0)))(q:arr.toList.take k=us){j:Nat}(B:j<k):
  w.cell? ⟨b,j,UG⟩=us[j]? :=by
 rw[cell_of_row w b j arr T (0,0) r,<-q,TS,By B];simp
theorem o6{T':TypeId}{cs:List V}{v:V}(B:gT C.P T)(D:σ.ev n x= .ptr id off)(E:σ.ob id=UF (.mix T' cs))(r:cs[off]? =UF v):
  XJ C n ⟨dst,.load T x,ty,pos,after,gd⟩ σ ⟨v,[],[]⟩:=
 .val λa w m R hw=>by
  obtain⟨b,N,he,hm,arr,hb,hN,hle,hr⟩:=hw.ptr D E;obtain⟨u,hu,hrel⟩:=hr.get r;have q:off<cs.length:=(TE.1 r).1;have hc:w.cell? ⟨b,off,UG⟩=UF u:=by rw[lS hb O q];exact hu
  exact⟨u,by simp[execOp,he,Instr.loadAt,Instr.sureAddr,loadVar,B.run,load,Sem.run,hc],hrel⟩
theorem dA{T':TypeId}{cs:List PV}{v:PV}(B:gT C.P T)(D:σ.ev n x= .ptr id off)(E:σ.ob id=UF (.cells T' cs))(r:cs[off]? =UF v):
  XJ C n ⟨dst,.load T x,ty,pos,after,gd⟩ σ ⟨.pv v,[],[]⟩:=
 .val λa w m R hw=>by
  obtain⟨b,N,he,hm,arr,hb,hN,hle,hr⟩:=hw.ptr D E;obtain⟨u,hu,hrel⟩:=hr.get r;have q:off<cs.length:=(TE.1 r).1;have hc:w.cell? ⟨b,off,UG⟩=UF u:=by rw[lS hb O q];exact hu
  exact⟨u,by simp[execOp,he,Instr.loadAt,Instr.sureAddr,loadVar,B.run,load,Sem.run,hc],by simpa only[Rel]using hrel⟩
theorem az{cs:List PV}{v:PV}(r:gT C.P T)(B:σ.ev n x= .pv (.rp cs off))(D:cs[off]? =UF v):
  XJ C n ⟨dst,.load T x,ty,pos,after,gd⟩ σ ⟨.pv v,[],[]⟩:=
 .val λa w m R hw=>by
  have:=hw.pv B;simp only[RelP]at this;obtain⟨b,o,us,he,hr,hs⟩:=this;obtain⟨u,hu,hrel⟩:=hr.get D;have q:off<us.length:=(TE.1 hu).1;have hc:w.cell? ⟨b,o+off,UG⟩=UF u:=by rw[hs.2 off q];exact hu
  exact⟨u,by simp[execOp,he,Instr.loadAt,Instr.sureAddr,loadVar,r.run,load,Sem.run,hc],by simpa only[Rel]using hrel⟩
theorem Lu{T':TypeId}{cs vs:List V}(G:isRow C.P T)(E:bT C.P T k)(H:σ.ev n x= .ptr id off)(I:σ.ob id=UF (.mix T' cs))(J:(cs.drop off).take k=vs)(D:vs.length=k):
  XJ C n ⟨dst,.load T x,ty,pos,after,gd⟩ σ ⟨.agg vs,[],[]⟩:=
 .val λa w m R hw=>by
  obtain⟨b,N,he,hm,arr,hb,hN,hle',hr⟩:=hw.ptr H I;have L:off+k<=cs.length\/k=0:=by grind
  have q:=(hr.drop off).take k;rw[J]at q;have r:=q.length;obtain⟨d,hu,hd⟩:=G;have:=run_loadAt_mid (P:=C.P) w b off T (((arr.toList.take cs.length).drop off).take k) d (λj u hu=>by
   rw[TS]at hu;split at hu
   .rename_i hj;rw[UN]at hu;have B:=(TE.1 hu).1;rw[lS hb (k:=cs.length) O (by simp at B;omega)];exact hu
   grind) hu hd (by unfold bT at E;rw[E,r,D])
  refine⟨_,by simp only[execOp,he,Sem.run_bind,this,Result.andThen_ok];rfl,?_⟩;simp only[Rel];exact⟨_,O,q⟩
theorem mH{T':TypeId}{cs vs:List PV}(G:isRow C.P T)(E:bT C.P T k)(H:σ.ev n x= .ptr id off)(I:σ.ob id=UF (.cells T' cs))(J:(cs.drop off).take k=vs)(D:vs.length=k):
  XJ C n ⟨dst,.load T x,ty,pos,after,gd⟩ σ ⟨.pv (.agg vs),[],[]⟩:=
 .val λa w m R hw=>by
  obtain⟨b,N,he,hm,arr,hb,hN,hle',hr⟩:=hw.ptr H I;have q:=(hr.drop off).take k;rw[J]at q;have r:=q.length;obtain⟨d,hu,hd⟩:=G;have:=run_loadAt_mid (P:=C.P) w b off T (((arr.toList.take cs.length).drop off).take k) d (λj u hu=>by
   rw[TS]at hu;split at hu
   .rename_i hj;rw[UN]at hu;have B:=(TE.1 hu).1;rw[lS hb (k:=cs.length) O (by simp at B;omega)];exact hu
   grind) hu hd (by unfold bT at E;rw[E,r,D])
  refine⟨_,by simp only[execOp,he,Sem.run_bind,this,Result.andThen_ok];rfl,?_⟩;simp only[Rel,RelP];exact⟨_,O,q⟩
theorem aG{cs vs:List PV}(G:isRow C.P T)(E:bT C.P T k)(H:σ.ev n x= .pv (.rp cs off))(I:(cs.drop off).take k=vs)(D:vs.length=k):
  XJ C n ⟨dst,.load T x,ty,pos,after,gd⟩ σ ⟨.pv (.agg vs),[],[]⟩:=
 .val λa w m R hw=>by
  have:=hw.pv H;simp only[RelP]at this;obtain⟨b,o,us,he,hr,hs⟩:=this;have q:=(hr.drop off).take k;rw[I]at q;have r:=q.length;obtain⟨d,hu,hd⟩:=G;have:=run_loadAt_mid (P:=C.P) w b (o+off) T ((us.drop off).take k) d (λj u hu=>by
   rw[TS]at hu;split at hu
   .rw[UN]at hu;have B:=(TE.1 hu).1;rw[Nat.add_assoc,hs.2 (off+j) B];exact hu
   grind) hu hd (by unfold bT at E;rw[E,r,D])
  refine⟨_,by simp only[execOp,he,Sem.run_bind,this,Result.andThen_ok];rfl,?_⟩;simp only[Rel,RelP];exact⟨_,O,q⟩
end
end
section
theorem lG(l vs:List α)(off n:Nat)(h:off+vs.length<=n)(B:n<=l.length):
  (l.take off++vs++l.drop (off+vs.length)).take n=(l.take n).take off++vs++(l.take n).drop (off+vs.length):=by
 apply Ww;intro i;have q:min off l.length=off:=Xj;have r:min off (min n l.length)=off:=Xj;simp only[TS,List.getElem?_append,IN,TC,UN,q,r];by_cases hi:i<n
 .grind
 grind
def ik{α:Type}(l:List α)(off:Nat)(vs:List α):List α:=l.take off++vs++l.drop (off+vs.length)
theorem RelL.ik{av:Av}{cs vs:List V}{xs:List Value}(off:Nat)(h:RelL w m av R cs us)(q:RelL w m av R vs xs):RelL w m av R (ik cs off vs) (ik us off xs):=by
 unfold Proofs.YtkkenamefaegfaaGreatDoor.ik;rw[q.length];exact(((h.take off).append q).append (h.drop _))
theorem RelPL.ik{cs vs:List PV}{xs:List Value}(off:Nat)(h:RelPL w R cs us)(q:RelPL w R vs xs):RelPL w R (ik cs off vs) (ik us off xs):=by
 unfold Proofs.YtkkenamefaegfaaGreatDoor.ik;rw[q.length];exact(((h.take off).append q).append (h.drop _))
theorem bS(l:List α)(off:Nat)(vs:List α)(h:off+vs.length<=l.length):(ik l off vs).length=l.length:=by
 unfold ik;simp only[IN,TC,UQ];omega
section
variable {C:Ctx}{n:Nat}{σ:St}{dst:Option Tmp}{ty t t':TypeId}{pos:String}{after:Array Edge}{gd:Option (Nat×Bool)}{x y:Operand}
theorem ly{b:Nat}{arr:Array Value}{T':TypeId}(r:w.heap[b]? =UF (.cells arr T' (0,0)))(B:bT P T u.cells.size)(q:off+u.cells.size<=arr.size)(D:∀c∈u.cells.toList,c.oneCell'=VA):
  (Instr.storeAt T (.pointer (UF ⟨b,off,UG⟩)) u).run P w= .ok () (w.setRow b (ik arr.toList off u.cells.toList).toArray):=by
 have:=run_storeCells_at (P:=P) b off T' u.cells.toList 0 arr w r (by simpa using q) D;simp only[Vt]at this;simp[Instr.storeAt,Instr.sureAddr,storeVar,B.run,this,ik]
theorem ot{av:Av}:∀{vs:List V}{us:List Value},RelL w m av R vs us->(∀c∈vs,c.leaf=VA)->(∀c∈vs,∀id o,c= .ptr id o->(m id).isSome)->(∀c∈vs,∀id s k,c= .osl id s k->(m id).isSome)->(∀c∈vs,∀id,c= .map id->(m id).isSome)->∀u∈us,u.oneCell'=VA
 |[],_,h,_,_,_,_=>by simp only[RelL]at h;subst h;simp
 | c::cs,_,h,hl,h1,h2,h3=>by
   simp only[RelL]at h;obtain⟨u,us,rfl,hc,hr⟩:=h;intro v hv;rcases BY.1 hv with rfl|hv
   .have hlc:=hl c Xn;cases c with
    |pv p=>simp only[Rel]at hc;exact hc.leaf hlc
    | ptr id o=>
      obtain⟨⟨b,N⟩,hm⟩:=T7.1 (h1 _ Xn id o O);simp only[Rel]at hc;rw[hc.2 b N hm];rfl
    | osl id s k=>
      obtain⟨⟨b,N⟩,hm⟩:=T7.1 (h2 _ Xn id s k O);simp only[Rel]at hc;obtain⟨c,e,_⟩:=hc.2 b N hm;rw[e];rfl
    |gsl id s k=>simp only[Rel]at hc;obtain⟨_,A,c,e,_⟩:=hc;rw[e];rfl
    |tsl id s k=>simp only[Rel]at hc;obtain⟨_,A,c,e,_⟩:=hc;rw[e];rfl
    | map id=>
      obtain⟨⟨b,N⟩,hm⟩:=T7.1 (h3 _ Xn id O);simp only[Rel]at hc;rw[hc.2 b N hm];rfl
    |agg _=>simp[V.leaf]at hlc
    |tup _=>simp[V.leaf]at hlc
    |fn f a b=>simp only[Rel]at hc;obtain⟨us,vs,rfl,_⟩:=hc;rfl
   exact ot hr (λc hc=>hl c (by simp[hc])) (λc hc=>h1 c (by simp[hc])) (λc hc=>h2 c (by simp[hc])) (λc hc=>h3 c (by simp[hc])) v hv
def V.cG(ob:Nat->Option Ob):V->Bool
 | .ptr i _=>cL (ob i)
 | .osl i _ _=>cL (ob i)
 | .map i=>cL (ob i)
 |_=>VA
theorem o8{T':TypeId}{cs:List V}{v:V}(L:bT C.P T k)(M:σ.ev n x= .ptr id off)(U:σ.ob id=UF (.mix T' cs))(W:σ.ev n y=v)(I:v.cells.length=k)(X:off+k<=cs.length)
  (Y:v.cells.all (λc=>c.leaf&&c.cG σ.ob)=VA) (r:v.cG σ.ob=VA):
  XJ C n ⟨UG,.store T x y,ty,pos,after,gd⟩ σ ⟨.pv .any,[(id,UF (.mix T' (ik cs off v.cells)))],[]⟩:=by
 rintro a w Q ⟨m,R,hw⟩;obtain⟨b,N,he,hm,arr,hb,hN,hle',hr⟩:=hw.ptr M U;have D:=hw.ev y;rw[W]at D;have q:∀i,cL (σ.ob i)=VA->(m i).isSome=VA:=λi hi=>by rw[hw.hr.dom];exact hi
 have B:∀c∈v.cells,c.leaf=VA/\c.cG σ.ob=VA:=by simpa using Y
 have hc:=D.cells (λc hc=>(B c hc).1) (λi o e=>q _ (by rw[e]at r;exact r)) (λi s k e=>q _ (by rw[e]at r;exact r)) (λi e=>q _ (by rw[e]at r;exact r));have J:=ot hc (λc hc=>(B c hc).1) (λc hc i o e=>q _ (by have:=(B c hc).2;rw[e]at this;exact this)) (λc hc i s k e=>q _ (by have:=(B c hc).2;rw[e]at this;exact this)) (λc hc i e=>q _ (by have:=(B c hc).2;rw[e]at this;exact this));have H:(a.eval y).cells.size=k:=by have:=hc.length;simp at this;omega
 have G:=ly (P:=C.P) (T:=T) (u:=a.eval y) (off:=off) hb (by rw[H];exact L) Xj J;unfold Oper.wp;have E:(execOp a.eval ⟨UG,.store T x y,ty,pos,after,gd⟩).run C.P w= .ok .skip (w.setRow b (ik arr.toList off (a.eval y).cells.toList).toArray):=by
  simp only[execOp,he,Sem.run_bind,G,Result.andThen_ok,Sem.run_pure]
 rw[E];refine⟨_,O,m,R,?_⟩;refine hw.store hm arr _ T' hb (by simp only[T4];rw[bS _ _ _ Xo];simpa using hN) _ ?_;intro w' hR hb';refine⟨_,hb',by simp only[T4];rw[bS _ _ _ Xo];simpa using hN,by rw[bS _ _ _ Xj];exact hle',?_⟩;rw[bS cs off v.cells Xj];have e:(ik arr.toList off (a.eval y).cells.toList).toArray.toList.take cs.length=ik (arr.toList.take cs.length) off (a.eval y).cells.toList:=by grind[ik,lG]
 rw[e];exact(hr.ik off hc).mono hR (λ_ _ _ e=>e) (λ_ e=>e)
theorem dB{T':TypeId}{cs:List PV}{v:PV}(I:bT C.P T 1)(J:σ.ev n x= .ptr id off)(L:σ.ob id=UF (.cells T' cs))(M:σ.ev n y= .pv v)(G:v.leaf=VA)(U:off<cs.length):
  XJ C n ⟨UG,.store T x y,ty,pos,after,gd⟩ σ ⟨.pv .any,[(id,UF (.cells T' (cs.set off v)))],[]⟩:=by
 rintro a w Q ⟨m,R,hw⟩;obtain⟨b,N,he,hm,arr,hb,hN,hle',hr⟩:=hw.ptr J L;have r:=hw.pv M;have E:=r.leaf G;have q:(a.eval y).cells= #[a.eval y]:=by
  generalize a.eval y=u at E;cases u<;>simp[Value.oneCell']at E<;>rfl
 have D:=ly (P:=C.P) (T:=T) (u:=a.eval y) (off:=off) hb (by rw[q];exact I) (by rw[q];simp;omega) (by rw[q];simpa using E);unfold Oper.wp;have B:(execOp a.eval ⟨UG,.store T x y,ty,pos,after,gd⟩).run C.P w= .ok .skip (w.setRow b (ik arr.toList off [a.eval y]).toArray):=by
  simp only[execOp,he,Sem.run_bind,D,Result.andThen_ok,Sem.run_pure,q]
 rw[B];have H:∀{α:Type}(l:List α)(z:α),off<l.length->ik l off [z]=l.set off z:=by grind[ik,TP,VK]
 refine⟨_,O,m,R,?_⟩;refine hw.store hm arr _ T' hb (by simp only[T4];rw[bS _ _ _ Xo];simpa using hN) _ ?_;intro w' hR hb';refine⟨_,hb',by simp only[T4];rw[bS _ _ _ Xo];simpa using hN,by simpa using hle',?_⟩;have e:(ik arr.toList off [a.eval y]).toArray.toList.take (cs.set off v).length=(arr.toList.take cs.length).set off (a.eval y):=by grind[lG,ik,TQ]
 rw[e];exact(hr.set off r).mono hR
def gV(P:Program)(s:TypeId)(i:Nat):Option Nat:=
 match P.underlying s with
 | some (.struct fs)=>
   match fs[i]? with
   | some f=>match P.info? f.type with
     |some inf=>bif Nat.beq inf.size 0 then UG else UF f.offset
     |none=>UG
   |none=>UG
 |_=>UG
theorem qk{i:Nat}(h:gV P s i=UF o)(w:World)(b off:Nat):(Instr.fieldAt s (.pointer (UF ⟨b,off,UG⟩)) i).run P w= .ok (.pointer (UF ⟨b,off+o,UG⟩)) w:=by
 unfold gV at h;split at h
 .rename_i fs hu;split at h
  .rename_i f hf;split at h
   .rename_i inf hi;have q:inf.size≠0:=by
     intro e;rw[e]at h;simp at h
    have r:Nat.beq inf.size 0=VC:=by cases r:Nat.beq inf.size 0;rfl;exact absurd (cd r) q
    rw[r]at h;simp at h;subst h;simp[Instr.fieldAt,run_underlying hu,hf,Instr.sureAddr,fieldPlace,sizeOf,typeInfo,hi,q,Addr.add_lit]
   cases h
  cases h
 cases h
theorem wK{i:Nat}{ob:Ob}(D:gV C.P s i=UF o)(B:σ.ev n x= .ptr id off)(E:σ.ob id=UF ob)(r:ob.real=VA:=by rfl):
  XJ C n ⟨dst,.fieldAddr s x i,ty,pos,after,gd⟩ σ ⟨.ptr id (off+o),[],[]⟩:=
 .val λa w m R hw=>by
  obtain⟨b,N,he,hm,_⟩:=hw.ptr B E r;have q:=hw.ev x;rw[B]at q;simp only[Rel]at q;refine⟨_,by simp only[execOp,he,Sem.run_bind,qk D,Result.andThen_ok];rfl,?_⟩;simp only[Rel];exact⟨q.1,λb' N' e=>by rw[hm]at e;cases e;rfl⟩
theorem ve{i:Nat}{cs:List PV}(q:gV C.P s i=UF o)(r:σ.ev n x= .pv (.rp cs off)):
  XJ C n ⟨dst,.fieldAddr s x i,ty,pos,after,gd⟩ σ ⟨.pv (.rp cs (off+o)),[],[]⟩:=
 .val λa w m R hw=>by
  have:=hw.pv r;simp only[RelP]at this;obtain⟨b,o',us,he,hr,hs⟩:=this;refine⟨_,by simp only[execOp,he,Sem.run_bind,qk q,Result.andThen_ok];rfl,?_⟩;simp only[Rel,RelP];exact⟨b,o',us,by rw[Nat.add_assoc],hr,hs⟩
theorem rf{s j c:Nat}(q:P.underlying T=UF (.slice e))(r:bT P e s)(B:i=(j:Int))(D:j<k)(w:World)(b off:Nat):
  (Instr.indexAt T (.slice (UF ⟨b,off,UG⟩) k c) (.int kk i)).run P w= .ok (.pointer (UF ⟨b,off+j*s,UG⟩)) w:=by
 subst B;have E:((j:Int))<(k:Int):=Xj;simp[Instr.indexAt,asIntOf,run_underlying q,r.run,D,Addr.add_lit]
theorem ag{s:Nat}{cs:List PV}(j:Nat)(r:C.P.underlying T=UF (.slice e))(B:bT C.P e s)(D:σ.ev n x= .pv (.sl bn k cs))(E:σ.ev n y= .pv (.int kk i))(G:i=(j:Int))(H:j<k)(q:cs≠[]):
  XJ C n ⟨dst,.indexAddr T x y,ty,pos,after,gd⟩ σ ⟨.pv (.rp cs (j*s)),[],[]⟩:=
 .val λa w m R hw=>by
  have:=hw.pv D;simp only[RelP]at this;obtain⟨A,c,he,_,_,_,_,h5⟩:=this;obtain⟨b,off,us,rfl,hr,hsh⟩:=h5 q;refine⟨_,by simp only[execOp,he,hw.int E,Sem.run_bind,rf r B G H,Result.andThen_ok];rfl,?_⟩;simp only[Rel,RelP];exact⟨b,off,us,O,hr,hsh⟩
theorem ak{s:Nat}{o:Ob}(j:Nat)(D:C.P.underlying T=UF (.slice e))(E:bT C.P e s)(B:σ.ev n x= .osl id sz k)(G:σ.ob id=UF o)(H:σ.ev n y= .pv (.int kk i))(I:i=(j:Int))(J:j<k)(r:o.real=VA:=by rfl):
  XJ C n ⟨dst,.indexAddr T x y,ty,pos,after,gd⟩ σ ⟨.ptr id (j*s),[],[]⟩:=
 .val λa w m R hw=>by
  obtain⟨b,N,c,he,_,_,_,hm,_⟩:=hw.osl B G r;have q:=hw.ev x;rw[B]at q;simp only[Rel]at q;refine⟨_,by simp only[execOp,he,hw.int H,Sem.run_bind,rf D E I J,Result.andThen_ok];rfl,?_⟩;simp only[Rel];exact⟨q.1,λb' N' e=>by rw[hm]at e;cases e;simp⟩
theorem im{i:Nat}{ps:List PV}{p:PV}{f:Field}{fs:Array Field}(q:C.P.underlying s=UF (.struct fs))(r:fs[i]? =UF f)(B:f.offset=o)(D:gT C.P f.type)(E:σ.ev n x= .pv (.agg ps))(G:ps[o]? =UF p):
  XJ C n ⟨dst,.field s x i,ty,pos,after,gd⟩ σ ⟨.pv p,[],[]⟩:=
 .val λa w m R hw=>by
  have:=hw.pv E;simp only[RelP]at this;obtain⟨us,he,hr⟩:=this;obtain⟨u,hu',hrel⟩:=hr.get G;refine⟨u,?_,by simpa only[Rel]using hrel⟩;simp[execOp,he,Instr.field,run_underlying q,r,asAgg,part,D.run,B,hu']
theorem CP{s:Nat}{cs:List PV}(lo hi:Option Operand)(l h:Nat)(J:C.P.underlying T=UF (.slice e))(L:bT C.P e s)(X:σ.ev n x= .pv (.sl bn k cs))
  (G:∀y,lo=UF y->σ.ev n y= .pv (.int kl il)/\il=(l:Int)) (H:lo=UG->l=0) (I:∀y,hi=UF y->σ.ev n y= .pv (.int kh ih)/\ih=(h:Int)) (r:hi=UG->h=k) (V:l<=h) (Z:h<=k) (Y:cs.length=k*s):
  XJ C n ⟨dst,.slice T x lo hi UG,ty,pos,after,gd⟩ σ ⟨.pv (.sl bn (h-l) ((cs.drop (l*s)).take ((h-l)*s))),[],[]⟩:=
 .val λa w m R hw=>by
  have:=hw.pv X;simp only[RelP]at this;obtain⟨A,c,he,hkc,hcm,hbn,hb0,h5⟩:=this;have M:∀y,lo=UF y->a.eval y= .int kl l:=λy hy=>by rw[hw.int (G y hy).1,(G y hy).2]
  have U:∀y,hi=UF y->a.eval y= .int kh h:=λy hy=>by rw[hw.int (I y hy).1,(I y hy).2]
  refine⟨.slice (if c=l then A else A.map (·.add (l*s))) (h-l) (c-l),?_,?_⟩
  .have hlc:h<=c:=Xj;cases lo with
   | none=>
     have W:=H O;subst W;cases hi with
     | none=>
       have B:=r O;subst B;simp[execOp,he,Instr.sliceAt,Instr.slice,Instr.sliceBounds,run_underlying J,L.run]
     | some y2=>
       simp[execOp,he,U y2 O,Instr.sliceAt,Instr.slice,Instr.sliceBounds,Instr.sliceBound,asIntOf,run_underlying J,L.run,hlc]
   | some y1=>
     cases hi with
     | none=>
       have B:=r O;subst B;simp[execOp,he,M y1 O,Instr.sliceAt,Instr.slice,Instr.sliceBounds,Instr.sliceBound,asIntOf,run_underlying J,L.run,V]
     | some y2=>
       simp[execOp,he,M y1 O,U y2 O,Instr.sliceAt,Instr.slice,Instr.sliceBounds,Instr.sliceBound,asIntOf,run_underlying J,L.run,V,hlc]
  simp only[Rel,RelP];refine⟨_,_,O,Xj,Xj,?_,λe=>by have:=hb0 e;omega,?_⟩
  .intro q hq;rw[hbn q hq];split<;>simp
  .intro hne;have D:cs≠[]:=by rintro rfl;simp at hne
   obtain⟨b,off,us,rfl,hr,hsh⟩:=h5 D;have E:c≠l:=by grind
   rw[sh E];refine⟨b,off+l*s,(us.drop (l*s)).take ((h-l)*s),by simp[Addr.add_lit],(hr.drop _).take _,hsh.1,?_⟩;intro j hj;simp only[TC,UQ]at hj;rw[TS,By Xj,UN,Nat.add_assoc];exact hsh.2 _ Xj
theorem eC{z:ByteArray}(lo hi:Option Operand)(l h:Nat)(H:C.P.underlying T=UF .string)(V:σ.ev n x= .pv (.str z))
  (B:∀y,lo=UF y->σ.ev n y= .pv (.int kl il)/\il=(l:Int)) (D:lo=UG->l=0) (E:∀y,hi=UF y->σ.ev n y= .pv (.int kh ih)/\ih=(h:Int)) (q:hi=UG->h=z.size) (L:l<=h) (M:h<=z.size):
  XJ C n ⟨dst,.slice T x lo hi UG,ty,pos,after,gd⟩ σ ⟨.pv (.str (z.extract l h)),[],[]⟩:=
 .lit O λa w m R hw=>by
  have G:=hw.str V;have I:∀y,lo=UF y->a.eval y= .int kl l:=λy hy=>by rw[hw.int (B y hy).1,(B y hy).2]
  have J:∀y,hi=UF y->a.eval y= .int kh h:=λy hy=>by rw[hw.int (E y hy).1,(E y hy).2]
  cases lo with
  | none=>
    have U:=D O;subst U;cases hi with
    | none=>
      have r:=q O;subst r;simp[execOp,G,Instr.sliceAt,Instr.slice,Instr.sliceBounds,run_underlying H,yh]
    | some y2=>
      simp[execOp,G,J y2 O,Instr.sliceAt,Instr.slice,Instr.sliceBounds,Instr.sliceBound,asIntOf,run_underlying H,M,yh]
  | some y1=>
    cases hi with
    | none=>
      have r:=q O;subst r;simp[execOp,G,I y1 O,Instr.sliceAt,Instr.slice,Instr.sliceBounds,Instr.sliceBound,asIntOf,run_underlying H,L,yh]
    | some y2=>
      simp[execOp,G,I y1 O,J y2 O,Instr.sliceAt,Instr.slice,Instr.sliceBounds,Instr.sliceBound,asIntOf,run_underlying H,L,M,yh]
theorem bB{z:ByteArray}(j:Nat)(r:C.P.underlying T=UF .string)(B:σ.ev n x= .pv (.str z))(D:σ.ev n y= .pv (.int kk i))(E:i=(j:Int))(q:j<z.size):
  XJ C n ⟨dst,.index T x y,ty,pos,after,gd⟩ σ ⟨.pv (.int .u8 (z[j]'q).toNat),[],[]⟩:=
 .lit O λa w m R hw=>by
  subst E;simp[execOp,hw.str B,hw.int D,Instr.index,asIntOf,run_underlying r,yh,q]
end
end
section
section
variable {C:Ctx}{n:Nat}{σ:St}{a:Act}{w:World}{m:Gm}{R:Nat->Prop}
theorem SW.drop(h:SW C n σ a w m R)(id:Nat):SW C n ⟨σ.sl,obL [(id,UG)] σ.ob,σ.av⟩ a w (upd m id UG) R:=by
 have r:∀i,i≠id->obL [(id,UG)] σ.ob i=σ.ob i:=λi hi=>by grind[Nat.beq,cd,obL]
 have B:obL [(id,UG)] σ.ob id=UG:=by simp[obL]
 have q:∀i x,upd m id UG i=UF x->m i=UF x:=λi x e=>by grind[aC,a8]
 refine h.world ⟨?_,?_,?_,?_,?_,?_,?_,?_,?_,?_,?_⟩ (λb hb=>⟨hb,O⟩) (λi x _ e=>q i x e) (λ_ e=>e)
 .intro i;by_cases e:i=id
  .subst e;rw[aC,B];rfl
  rw[a8 _ _ e,r i e];exact h.hr.dom i
 .intro i hi;by_cases e:i=id
  .subst e;exact B
  rw[r i e];exact h.hr.free i hi
 .intro i o b N h1 h2;have e:i≠id:=λe=>by subst e;rw[aC]at h2;cases h2
  rw[r i e]at h1;exact(h.hr.obj i o b N h1 (q _ _ h2)).mono (λb hb=>⟨hb,O⟩) (λi x _ e=>q i x e) (λ_ e=>e) O
 .intro i j b N N' h1 h2;exact h.hr.inj i j b N N' (q _ _ h1) (q _ _ h2)
 .intro i b N h1;exact h.hr.own i b N (q _ _ h1)
 .exact h.hr.rsz
 .exact h.hr.rfr
 .exact h.hr.r0
 .exact h.hr.frame
 .exact λi x hi e=>h.hr.j4 i x hi (q i x e)
 exact h.hr.res
theorem SW.fresh(h:SW C n σ a w m R)(H:σ.av id=VA){w':World}{g:Nat}{arr:Array Value}{ty:TypeId}(Y:w'.heap[g]? =UF (.cells arr ty (0,0))){row:Option Nat}(r:w.grownBy w' row)(D:∀k,row=UF k->¬R k/\(∀i b N,m i=UF (b,N)->b≠k)/\(C.F k\/C.w0.heap.size<=k))
  (Z:¬R g) (aa:∀i b N,m i=UF (b,N)->b≠g) (ab:C.F g\/C.w0.heap.size<=g) (o:Ob)
  (ho:∀(m':Gm)(av':Av),(∀b,R b->R b/\w'.heap[b]? =w.heap[b]?)->(∀i x,σ.av i=VC->m' i=UF x->m i=UF x)->(∀i,σ.av i=VC->av' i=VC)->lQ w' m' av' R g arr.size o) (M:o.real=VA:=by rfl):
  SW C n ⟨σ.sl,obL [(id,UF o)] σ.ob,avL [id] σ.av⟩ a w' (upd m id (UF (g,arr.size))) R:=by
 have B:∀k,k<w.heap.size->(∀q,row=UF q->k≠q)->w'.heap[k]? =w.heap[k]? :=λk hk E=>r.block k hk (λe=>E k e.symm O)
 have W:g<w'.heap.size:=(TH.1 Y).1;have U:∀b,R b->R b/\w'.heap[b]? =w.heap[b]? :=λb hb=>⟨hb,B b (h.hr.rsz b hb) (λq hq e=>(D q hq).1 (e▸hb))⟩
 have E:∀i,σ.av i=VC->i≠id:=λi hi e=>by rw[e,H]at hi;cases hi
 have V:∀i x,σ.av i=VC->upd m id (UF (g,arr.size)) i=UF x->m i=UF x:=λi x hi e=>by rwa [a8 _ _ (E i hi)]at e
 have J:∀i,σ.av i=VC->avL [id] σ.av i=VC:=λi hi=>by grind[avL,Nat.beq]
 have G:∀i,i≠id->obL [(id,UF o)] σ.ob i=σ.ob i:=λi hi=>by grind[Nat.beq,cd,obL]
 have L:obL [(id,UF o)] σ.ob id=UF o:=by simp[obL]
 refine h.world ⟨?_,?_,?_,?_,?_,?_,?_,?_,?_,?_,?_⟩ U V J
 .intro i;by_cases e:i=id
  .subst e;rw[aC,L];exact M.symm
  rw[a8 _ _ e,G i e];exact h.hr.dom i
 .intro i hi;simp only[avL]at hi;cases hb:Nat.beq i id with
  |true=>rw[hb]at hi;simp at hi
  | false=>
    rw[hb]at hi;have e:i≠id:=λe=>by subst e;simp at hb
    rw[G i e];exact h.hr.free i (by simpa using hi)
 .intro i o' b N h1 h2;by_cases e:i=id
  .grind[aC]
  rw[G i e]at h1;rw[a8 _ _ e]at h2;exact(h.hr.obj i o' b N h1 h2).mono U V J (B b (h.hr.own i b N h2).1 (λq hq=>(D q hq).2.1 i b N h2))
 .intro i j b N N' h1 h2;by_cases e1:i=id<;>by_cases e2:j=id
  .rw[e1,e2]
  .grind[aC,a8]
  .grind[aC,a8]
  rw[a8 _ _ e1]at h1;rw[a8 _ _ e2]at h2;exact h.hr.inj i j b N N' h1 h2
 .intro i b N h1;by_cases e:i=id
  .grind[aC]
  rw[a8 _ _ e]at h1;obtain⟨h2,h3,h4⟩:=h.hr.own i b N h1;exact⟨TM h2 r.size,h3,h4⟩
 .intro b hb;exact TM (h.hr.rsz b hb) r.size
 .exact h.hr.rfr
 .exact h.hr.r0
 .refine⟨r.os.trans h.hr.frame.os,r.tape.trans h.hr.frame.tape,r.output.trans h.hr.frame.output,AS h.hr.frame.size r.size,?_⟩;intro k hk hF;rw[B k (TM hk h.hr.frame.size) (λq hq e=>by subst e;rcases(D k hq).2.2 with h'|h';exact hF h';omega)];exact h.hr.frame.block k hk hF
 .intro i x hi e;have I:i≠id:=λX=>by subst X;rw[h.hr.res i hi]at H;cases H
  rw[a8 _ _ I]at e;exact h.hr.j4 i x hi e
 .intro i hi;exact J i (h.hr.res i hi)
end
theorem eU:∀{vs:List PV}{us:List Value},RelPL w R vs us->(∀c∈vs,c.leaf=VA)->∀u∈us,u.oneCell'=VA
 |[],_,h,_=>by simp only[RelPL]at h;subst h;simp
 | c::cs,_,h,hl=>by
   simp only[RelPL]at h;obtain⟨u,us,rfl,hc,hr⟩:=h;intro v hv;rcases BY.1 hv with rfl|hv
   .exact hc.leaf (hl c Xn)
   exact eU hr (λc hc=>hl c (by simp[hc])) v hv
structure ElemIs(P:Program)(t e:TypeId)(z:Value)(size bytes:Nat):Prop where
 u:P.underlying t=UF (.slice e)
 info:(P.info? e).map (λi=>(i.zero,i.size,i.bytes))=UF (UF z,size,bytes)
 zs:z.cells.size=size
 pos:0<size
 by_:bytes<=1000
theorem FE{C:Ctx}{σ:St}(q:SW C n σ a w m R){i j b b' N':Nat}(r:m i=UF (b',N'))(B:m j=UF (b,N))(e:b'=b):i=j:=by
 subst e;exact q.hr.inj i j b' N' N r B
section
variable {C:Ctx}{n:Nat}{σ:St}{dst:Option Tmp}{ty t t':TypeId}{pos:String}{after:Array Edge}{gd:Option (Nat×Bool)}{x y:Operand}
def ox(n:Nat)(σ:St)(x:Operand)(k:Nat)(news:List PV):Prop:=
 (∃b,σ.ev n x= .pv (.sl b k news))\/(∃id sz T cs,σ.ev n x= .osl id sz k/\σ.ob id=UF (.cells T cs)/\news=cs.take (k*sz))
theorem ox.row(r:SW C n σ a w m R){news:List PV}(h:ox n σ x k news):
  ∃A c us,a.eval x= .slice A k c/\RelPL w R news us/\Row w Any A us:=by
 rcases h with⟨b,hx⟩|⟨id,sz,T,cs,hx,ho,rfl⟩
 .have:=r.pv hx;simp only[RelP]at this;obtain⟨A,c,he,_,_,_,_,h5⟩:=this;by_cases q:news=[]
  .subst q;exact⟨A,c,[],he,RelPL.nil,Row.nil⟩
  obtain⟨b,off,us,rfl,hr,hs⟩:=h5 q;refine⟨_,c,us,he,hr,λq=>⟨b,off,O,Xq,r.hr.rsz b hs.1,λj hj=>hs.2 j hj⟩⟩
 obtain⟨b,N,c,he,_,_,hN,hm,arr,hb,hsz,hle,hr⟩:=r.osl hx ho;refine⟨_,c,_,he,hr.take (k*sz),λq=>⟨b,0,O,Xq,(r.hr.own id b N hm).1,λj hj=>?_⟩⟩;simp only[TC]at hj;rw[T8,cell_of_row w b j arr T (0,0) hb,TS,By Xj,TS,By Xj];simp
def Od(C:Ctx)(n:Nat)(σ:St)(y:Operand)(j:Nat)(news:List PV):Prop:=∀{a:Act}{w:World}{m:Gm}{R:Nat->Prop},SW C n σ a w m R->∃A c us,a.eval y= .slice A j c/\RelPL w R news us/\Row w Any A us
theorem dt{j:Nat}{cs news:List PV}(id':Nat)(J:ElemIs C.P t e z size bytes)(X:σ.ev n x= .osl id size k)(Y:σ.ob id=UF (.cells e cs))(U:k*size<=cs.length)
  (L:Od C n σ y j news) (Z:news.length=j*size) (V:∀c∈news,c.leaf=VA) (hb:k+j<=1000000000) (W:σ.av id'=VA):
  XJ C n ⟨dst,.call { callee:= .builtin .append,args:= #[x,y],argTypes:= #[t,t] },ty,pos,after,gd⟩ σ ⟨.osl id' size (k+j),[(id',UF (.cells e (cs.take (k*size)++news))),(id,UG)],[id']⟩:=by
 rintro a w Q ⟨m,R,hw⟩;obtain⟨b,N,c,hev,hkc,hcm,hN,hm,arr,hbk,hsz,hle,hr⟩:=hw.osl X Y;obtain⟨A,c2,us,hev2,hr2,hrow⟩:=L hw;have G:w.ownsRow 0 e size (.slice (UF ⟨b,0,UG⟩) k c) k (arr.toList.take (k*size)):=by
  refine⟨?_,.inr ⟨b,c,arr,O,aJ _,hbk,hkc,hcm,by rw[hsz,hN],O⟩⟩;have:=UK size hkc;simp only[TC,Ua];omega
 refine pV x y t O 0 e z size bytes J.u J.info J.zs J.pos J.by_ _ k j c2 A _ us hev hev2 G hrow (by rw[hr2.length,Z]) (eU hr2 V) hb (aJ _) ?_;intro A' c' w' hown' hgr hat
 have H:=hw.hr.own id b N hm;have D:RelPL w R (cs.take (k*size)++news) (arr.toList.take (k*size)++us):=by
  have I:=hr.take (k*size);rw[W5,Ul U]at I;exact I.append hr2
 have E:∀i x,upd m id UG i=UF x->m i=UF x/\i≠id:=λi x e=>by grind[aC,a8]
 have B:¬R b/\(∀i b' N',upd m id UG i=UF (b',N')->b'≠b)/\(C.F b\/C.w0.heap.size<=b):=
  ⟨H.2.1,λi b' N' hi e=>(E i _ hi).2 (FE hw (E i _ hi).1 hm e),H.2.2⟩
 rcases hown'.2 with⟨hv,h0⟩|⟨g,cap,cur,hv,_,hg,hkc',hcm',hcs',htk⟩
 .exfalso;simp only[Value.slice.injEq]at hv;obtain⟨rfl,_,_⟩:=hv;rcases hat with h|⟨g',h,_⟩<;>simp[Value.ownBlock]at h
 simp only[Value.slice.injEq]at hv;obtain⟨rfl, -,rfl⟩:=hv;have r:¬R g/\(∀i b' N',upd m id UG i=UF (b',N')->b'≠g)/\(C.F g\/C.w0.heap.size<=g):=by
  rcases hat with h|⟨g',h,hle⟩
  .simp only[Value.ownBlock,TJ]at h;rw[h];exact B
  simp only[Value.ownBlock,TJ]at h;subst h;refine⟨λh=>?_,λi b' N' hi e=>?_,.inr ?_⟩
  .have:=hw.hr.rsz _ h;omega
  .have:=(hw.hr.own i b' N' (E i _ hi).1).1;omega
  have:=hw.hr.frame.size;omega
 have M:(arr.toList.take (k*size)++us).length=(k+j)*size:=hown'.1;refine⟨_,O,upd (upd m id UG) id' (UF (g,cur.size)),R,?_⟩;rw[Ts];refine SW.put ((hw.drop id).fresh W hg hgr (λq hq=>by simp[Value.ownBlock]at hq;subst hq;exact B) r.1 r.2.1 r.2.2 (.cells e (cs.take (k*size)++news)) ?_) dst ?_
 .intro m' av' hR _ _;refine⟨cur,hg,O,?_,?_⟩
  .grind
  rw[<-D.length,M,htk];exact D.mono hR
 simp only[Rel];refine⟨by simp[avL],λb N e=>?_⟩;rw[aC]at e;cases e;exact⟨c',O,hkc',hcm',hcs'⟩
theorem dC{j:Nat}{cs news:List PV}(id':Nat)(G:ElemIs C.P t e z size bytes)(H:σ.ev n x= .osl id size k)(I:σ.ob id=UF (.cells e cs))(q:cs.length=k*size)
  (r:ox n σ y j news) (J:news.length=j*size) (B:∀c∈news,c.leaf=VA) (L:k+j<=1000000000) (D:σ.av id'=VA):
  XJ C n ⟨dst,.call { callee:= .builtin .append,args:= #[x,y],argTypes:= #[t,t] },ty,pos,after,gd⟩ σ ⟨.osl id' size (k+j),[(id',UF (.cells e (cs++news))),(id,UG)],[id']⟩:=by
 have h:=dt (dst:=dst) (ty:=ty) (pos:=pos) (after:=after) (gd:=gd) id' G H I (UM q.symm) (λE=>r.row E) J B L D;rwa [<-q,VM]at h
theorem s9{j:Nat}{news:List PV}(id':Nat)(r:ElemIs C.P t e z size bytes)(J:σ.ev n x= .pv (.sl (UF VA) 0 []))
  (B:ox n σ y j news) (L:news.length=j*size) (E:∀c∈news,c.leaf=VA) (M:j<=1000000000) (U:0<j) (G:σ.av id'=VA):
  XJ C n ⟨dst,.call { callee:= .builtin .append,args:= #[x,y],argTypes:= #[t,t] },ty,pos,after,gd⟩ σ ⟨.osl id' size j,[(id',UF (.cells e news))],[id']⟩:=by
 rintro a w Q ⟨m,R,hw⟩;have H:=hw.pv J;simp only[RelP]at H;obtain⟨A0,c0,hev,_,_,hn,hc0,_⟩:=H;have D:A0=UG:=by cases A0;rfl;have:=hn VA O;simp at this
 subst D;rw[hc0 trivial]at hev;obtain⟨A,c2,us,hev2,hr2,hrow⟩:=B.row hw;refine pV x y t O 0 e z size bytes r.u r.info r.zs r.pos r.by_ _ 0 j c2 A _ us hev hev2 (World.ownsRow_nil w 0 e size) hrow (by rw[hr2.length,L]) (eU hr2 E) Xj (aJ _) ?_;intro A' c' w' hown' hgr hat
 simp only[T8,Uv]at hown' hat ⊢;rcases hown'.2 with⟨hv,h0⟩|⟨g,cap,cur,hv,_,hg,hkc',hcm',hcs',htk⟩
 .omega
 simp only[Value.slice.injEq]at hv;obtain⟨rfl, -,rfl⟩:=hv;have I:w.heap.size<=g:=by
  rcases hat with h|⟨g',h,hle⟩
  .simp[Value.ownBlock]at h
  simp only[Value.ownBlock,TJ]at h;subst h;exact hle
 refine⟨_,O,upd m id' (UF (g,cur.size)),R,?_⟩;rw[Ts];refine SW.put (hw.fresh G hg hgr (λq hq=>by simp[Value.ownBlock]at hq) (λh=>by have:=hw.hr.rsz _ h;omega) (λi b N hi e=>by have:=(hw.hr.own i b N hi).1;omega) (.inr (by have:=hw.hr.frame.size;omega)) (.cells e news) ?_) dst ?_
 .intro m' av' hR _ _;refine⟨cur,hg,O,?_,?_⟩
  .rw[hcs',<-hr2.length,hown'.1];exact UK _ hkc'
  rw[<-hr2.length,hown'.1,htk];exact hr2.mono hR
 simp only[Rel];refine⟨by simp[avL],λb N e=>?_⟩;rw[aC]at e;cases e;exact⟨c',O,hkc',hcm',hcs'⟩
end
end
section
def look:List (Nat×V)->Nat->V
 |[],_=> .pv .any
 |(d,v)::l,t=>bif Nat.beq t d then v else look l t
def aB:List (Nat×Ob)->Nat->Option Ob
 |[],_=>UG
 |(d,v)::l,t=>bif Nat.beq t d then UF v else aB l t
def avK(k:Nat):Av:=λid=>Nat.ble k id&&Nat.blt id big
def mkS(l:List (Nat×V))(os:List (Nat×Ob))(k:Nat):St:=⟨look l,aB os,avK k⟩
mutual
def V.okA(k:Nat):V->Bool
 | .pv _=>VA
 | .ptr id _=>Nat.blt id k||Nat.ble big id
 | .osl id _ _=>Nat.blt id k||Nat.ble big id
 | .tsl id _ _=>Nat.blt id k||Nat.ble big id
 | .gsl id _ _=>Nat.blt id k||Nat.ble big id
 | .map id=>Nat.blt id k||Nat.ble big id
 | .agg cs=>V.okL k cs
 | .tup cs=>V.okL k cs
 | .fn _ a b=>V.okL k a&&V.okL k b
def V.okL(k:Nat):List V->Bool
 |[]=>VA
 |c::cs=>V.okA k c&&V.okL k cs
end
def Ob.okA(k:Nat):Ob->Bool
 | .cells _ _=>VA
 | .mix _ cs=>V.okL k cs
 | .gro _ _=>VA
 | .mp _ _=>VA
 | .it _ _=>VA
 | .fro _ _=>VA
 | .mi _ _ _=>VA
section
variable {w:World}{m m':Gm}{av:Av}{R:Nat->Prop}{k:Nat}
theorem mS{k:Nat}(h:(Nat.blt id k||Nat.ble big id)=VA):avK k id=VC:=by
 unfold avK;cases hb:Nat.ble k id
 .rfl
 cases hc:Nat.blt id big
 .rfl
 have h1:=TV hb;have q:id<big:=by simpa[VG]using hc
 rcases(Bool.or_eq_true_iff).1 h with h|h
 .grind[VG]
 have h2:=TV h;omega
theorem NP{k:Nat}(h:avK k id=VA):k<=id/\id<big:=by simp_all[avK,du,TV,VG]
theorem eA{k:Nat}(h:big<=id):avK k id=VC:=by
 cases hb:avK k id
 .rfl
 have:=(NP hb).2;omega
mutual
theorem Rel.okA(q:∀id x,m' id=UF x->m id=UF x):∀(v:V)(u:Value),v.okA k=VA->Rel w m av R v u->Rel w m' (avK k) R v u
 | .pv p,u,_,h=>by simpa only[Rel]using h
 | .ptr id off,_,ho,h=>by simp only[V.okA]at ho;simp only[Rel]at h ⊢; exact⟨mS ho,λb N e=>h.2 b N (q _ _ e)⟩
 | .osl id sz n,_,ho,h=>by simp only[V.okA]at ho;simp only[Rel]at h ⊢; exact⟨mS ho,λb N e=>h.2 b N (q _ _ e)⟩
 | .tsl id sz n,_,ho,h=>by
   simp only[V.okA]at ho;simp only[Rel]at h ⊢;obtain⟨h0,A,c,e,h1⟩:=h;exact⟨mS ho,A,c,e,λhq b N e=>h1 hq b N (q _ _ e)⟩
 | .gsl id sz n,_,ho,h=>by
   simp only[V.okA]at ho;simp only[Rel]at h ⊢;obtain⟨h0,A,c,e,h1,h2,h3,h4⟩:=h;exact⟨mS ho,A,c,e,h1,h2,λr=>⟨(h3 r).1,(h3 r).2.1,pq (λx=>q id x) (h3 r).2.2⟩,λhp b N e=>h4 hp b N (q _ _ e)⟩
 | .map id,_,ho,h=>by simp only[V.okA]at ho;simp only[Rel]at h ⊢; exact⟨mS ho,λb N e=>h.2 b N (q _ _ e)⟩
 | .agg cs,_,ho,h=>by
   simp only[V.okA]at ho;simp only[Rel]at h ⊢;obtain⟨us,e,h⟩:=h;exact⟨us,e,RelL.okA q cs us ho h⟩
 | .tup cs,_,ho,h=>by
   simp only[V.okA]at ho;simp only[Rel]at h ⊢;obtain⟨us,e,h⟩:=h;exact⟨us,e,RelL.okA q cs us ho h⟩
 | .fn f fs cs,_,ho,h=>by
   simp only[V.okA,du]at ho;simp only[Rel]at h ⊢;obtain⟨us,vs,e,h1,h2⟩:=h;exact⟨us,vs,e,RelL.okA q fs us ho.1 h1,RelL.okA q cs vs ho.2 h2⟩
theorem RelL.okA(q:∀id x,m' id=UF x->m id=UF x):∀(vs:List V)(us:List Value),V.okL k vs=VA->RelL w m av R vs us->RelL w m' (avK k) R vs us
 |[],_,_,h=>by simpa only[RelL]using h
 | c::cs,_,ho,h=>by
   simp only[V.okL,du]at ho;simp only[RelL]at h ⊢;obtain⟨u,vs,e,h1,h2⟩:=h;exact⟨u,vs,e,Rel.okA q c u ho.1 h1,RelL.okA q cs vs ho.2 h2⟩
end
end
def Gn(σ:St):List (Nat×V)->Prop
 |[]=>True
 |(t,v)::l=>σ.sl t=v/\Gn σ l
def IJ(σ:St):List (Nat×Ob)->Prop
 |[]=>True
 |(t,v)::l=>σ.ob t=UF v/\IJ σ l
theorem yi{σ:St}:∀{l:List (Nat×V)},Gn σ l->∀t,look l t= .pv .any\/look l t=σ.sl t
 |[],_,_=> .inl O
 | (d,v)::l,h,t=>by
   simp only[look];cases hb:Nat.beq t d with
   |true=>have:=cd hb;subst this;exact .inr h.1.symm
   |false=>simpa using yi h.2 t
theorem look_ok:∀{l:List (Nat×V)},l.all (λp=>p.2.okA k)=VA->∀t,(look l t).okA k=VA
 |[],_,_=>rfl
 | (d,v)::l,h,t=>by
   simp only[VL,du]at h;simp only[look];cases hb:Nat.beq t d with
   |true=>exact h.1
   |false=>simpa using look_ok h.2 t
theorem ku{σ:St}:∀{l:List (Nat×Ob)},IJ σ l->l.all (λp=>(Nat.blt p.1 k||Nat.ble big p.1)&&p.2.okA k)=VA->∀t o,aB l t=UF o->σ.ob t=UF o/\avK k t=VC/\o.okA k=VA
 |[],_,_,_,_,h=>by simp[aB]at h
 | (d,v)::l,h,hk,t,o,ho=>by
   simp only[VL,du]at hk;simp only[aB]at ho;cases hb:Nat.beq t d with
   | true=>
     have:=cd hb;subst this;rw[hb]at ho;simp at ho;subst ho;exact⟨h.1,mS hk.1.1,hk.1.2⟩
   |false=>rw[hb]at ho;exact ku h.2 hk.2 t o (by simpa using ho)
theorem Tk{σ:St}{l:List (Nat×V)}{os:List (Nat×Ob)}(H:Gn σ l)(D:IJ σ os)(I:l.all (λp=>p.2.okA k)=VA)(E:os.all (λp=>(Nat.blt p.1 k||Nat.ble big p.1)&&p.2.okA k)=VA):σ.le (mkS l os k):=by
 rintro C n a w ⟨m,R,hw⟩;refine⟨λid=>if(aB os id).isSome then m id else UG,R,?_⟩;have q:∀id x,(if(aB os id).isSome then m id else UG)=UF x->m id=UF x:=λid x e=>by
  split at e
  .exact e
  cases e
 refine⟨⟨?_,?_,?_,?_,?_,?_,?_,?_,?_,?_,?_⟩,hw.df,hw.sz,?_⟩
 .intro id;show(if(aB os id).isSome then m id else UG).isSome=cL (aB os id);cases e:aB os id with
  |none=>rfl
  | some o=>
    have:=hw.hr.dom id;rw[(ku D E id o e).1]at this;simpa using this
 .intro id hid;show aB os id=UG;cases e:aB os id with
  |none=>rfl
  | some o=>
    have:=(ku D E id o e).2.1;have B:avK k id=VA:=hid;rw[B]at this;cases this
 .intro id o b N h3 h4;have G:=ku D E id o h3;have r:=hw.hr.obj id o b N G.1 (q _ _ h4);cases o with
  |cells ty cs=>exact r
  |gro ty cs=>exact r
  |mp ks vs=>exact r
  |it s pos=>exact r
  |fro s pos=>exact r
  |mi cur ks vs=>exact r
  | mix ty cs=>
    obtain⟨arr,q1,q2,q3,q4⟩:=r;exact⟨arr,q1,q2,q3,q4.okA q _ _ G.2.2⟩
 .exact λi j b N N' e1 e2=>hw.hr.inj i j b N N' (q _ _ e1) (q _ _ e2)
 .exact λid b N e=>hw.hr.own id b N (q _ _ e)
 .exact hw.hr.rsz
 .exact hw.hr.rfr
 .exact hw.hr.r0
 .exact hw.hr.frame
 .exact λid x hi e=>hw.hr.j4 id x hi (q id x e)
 .exact λid hi=>eA hi
 .intro t ht;show Rel w _ (avK k) R (look l t) _;rcases yi H t with e|e
  .rw[e];simp only[Rel,RelP]
  have:=look_ok I t;rw[e]at this ⊢;exact(hw.sl t ht).okA q _ _ this
def St.pub(σ:St)(id:Nat)(ts:List Nat)(p:PV):St:=⟨λt=>bif ts.contains t then .pv p else σ.sl t,obL [(id,UG)] σ.ob,σ.av⟩
def Qd(σ:St)(v:V):List Nat->Prop
 |[]=>True
 |t::ts=>σ.sl t=v/\Qd σ v ts
theorem xy{σ:St}{v:V}:∀{ts:List Nat},Qd σ v ts->∀t∈ts,σ.sl t=v
 |[],_,t,h=>by simp at h
 | q::ts,h,t,hm=>by
   rcases BY.1 hm with rfl|hm
   .exact h.1
   exact xy h.2 t hm
theorem St.SL{σ:St}{cs:List PV}(id:Nat)(ts:List Nat)(L:σ.ob id=UF (.cells T cs))(G:Qd σ (.osl id sz k) ts)(M:k*sz<=cs.length):σ.le (σ.pub id ts (.sl UG k (cs.take (k*sz)))):=by
 rintro C n a w ⟨m,R,hw⟩;have H:=xy G;obtain⟨b,N,hm,arr,hb,hN,hle,hr⟩:=hw.live L;have I:=hw.hr.own id b N hm;have B:=hw.drop id;have r:∀q,R q->(R q\/q=b)/\w.heap[q]? =w.heap[q]? :=λq hq=>⟨.inl hq,O⟩
 have D:∀i x,upd m id UG i=UF x->m i=UF x/\i≠id:=λi x e=>by grind[aC,a8]
 refine⟨upd m id UG,λq=>R q\/q=b,?_⟩;refine⟨⟨B.hr.dom,B.hr.free,?_,B.hr.inj,?_,?_,?_,?_,hw.hr.frame,B.hr.j4,B.hr.res⟩,hw.df,hw.sz,?_⟩
 .intro i o b' N' h1 h2;exact(B.hr.obj i o b' N' h1 h2).mono r (λ_ _ _ e=>e) (λ_ e=>e) O
 .intro i b' N' h1;obtain⟨h2,h3,h4⟩:=B.hr.own i b' N' h1;refine⟨h2,?_,h4⟩;rintro(h5|h5)
  .exact h3 h5
  exact(D i _ h1).2 (FE hw (D i _ h1).1 hm h5)
 .rintro q (hq|hq)
  .exact hw.hr.rsz q hq
  rw[hq];exact I.1
 .rintro q (hq|hq)
  .exact hw.hr.rfr q hq
  grind
 .exact λq hq=> .inl (hw.hr.r0 q hq)
 .intro t ht;show Rel w _ σ.av _ (bif ts.contains t then .pv _ else σ.sl t) _;cases hc:ts.contains t with
  |false=>exact(B.sl t ht).mono r (λ_ _ _ e=>e) (λ_ e=>e)
  | true=>
    have E:t∈ts:=by simpa using hc
    have J:=hw.sl t ht;rw[H t E]at J;simp only[Rel]at J;obtain⟨c,he,h1,h2,h3⟩:=J.2 b N hm;simp only[U3,Rel,RelP];refine⟨_,c,he,h1,h2,(λ_ e=>by cases e),(λe=>by cases e),λ_=>⟨b,0,_,rfl,(hr.take (k*sz)).mono r,.inr rfl,?_⟩⟩;intro j hj;simp only[TC]at hj;rw[T8,cell_of_row w b j arr T (0,0) hb,TS,By Xj,TS,By Xj];simp
def V.Kg(ob:Nat->Option Ob):V->Option PV
 | .pv p=>UF p
 | .osl id sz k=>match ob id with
   |some (.cells _ cs)=>UF (.sl (UF VC) k cs)
   |_=>UG
 | .gsl id sz k=>match ob id with
   |some (.gro _ cs)=>UF (.sl UG k cs)
   |_=>UG
 |_=>UG
def V.ES(ob:Nat->Option Ob):List V->Option (List PV)
 |[]=>UF []
 | c::cs=>match c.Kg ob,V.ES ob cs with
   |some p,UF ps=>UF (p::ps)
   |_,_=>UG
def V.toP(ob:Nat->Option Ob):V->Option PV
 | .agg cs=>match V.ES ob cs with|some ps=>UF (.agg ps)|none=>UG
 | .fn f a b=>match V.ES ob a,V.ES ob b with|some ps,UF qs=>UF (.fn f ps qs)|_,_=>UG
 |v=>v.Kg ob
def V.args(ob:Nat->Option Ob):List V->Option (List PV)
 |[]=>UF []
 | c::cs=>match c.toP ob,V.args ob cs with
   |some p,UF ps=>UF (p::ps)
   |_,_=>UG
def fp(m:Gm)(b:Nat):Prop:=∃id N,m id=UF (b,N)
section
variable {C:Ctx}{n:Nat}{σ:St}{a:Act}{w:World}{m:Gm}{R:Nat->Prop}
theorem SW.Kg(G:SW C n σ a w m R){v:V}{p:PV}(h:Rel w m σ.av R v u)(B:v.Kg σ.ob=UF p):RelP w (λb=>R b\/fp m b) p u:=by
 have r:∀q,R q->(R q\/fp m q)/\w.heap[q]? =w.heap[q]? :=λq hq=>⟨.inl hq,O⟩
 cases v with
 |pv q=>simp only[V.Kg,TJ]at B;subst B;simp only[Rel]at h;exact h.mono r
 | osl id sz k=>
   simp only[V.Kg]at B;split at B
   .rename_i T cs ho;simp at B;subst B;obtain⟨b,N,hm,arr,hbk,hN,hle',hr⟩:=G.live ho;simp only[Rel]at h;obtain⟨c,he,h1,h2,h3⟩:=h.2 b N hm;simp only[RelP];refine⟨_,c,he,h1,h2,(λ_ e=>by cases e;rfl),(λe=>by cases e),λ_=>⟨b,0,_,rfl,hr.mono r,.inr ⟨id,N,hm⟩,?_⟩⟩;intro j hj;simp only[TC]at hj;rw[T8,cell_of_row w b j arr T (0,0) hbk,TS,By Xj];simp
   cases B
 | gsl id sz k=>
   simp only[V.Kg]at B;split at B
   .rename_i T cs ho;simp at B;subst B;simp only[Rel]at h;obtain⟨h0,A,c,he,h1,h2,h3,h4⟩:=h;simp only[RelP];refine⟨_,c,he,h1,h2,(λ_ e=>by cases e),(λe=>by cases e),λE=>?_⟩;have D:(Ob.gro T cs).real=VA:=by cases cs;exact absurd O E;rfl
    obtain⟨b,N,hm,arr,hbk,hN,hle',hr⟩:=G.live ho D;have H:0<k:=by grind
    refine⟨b,0,_,(h4 H b N hm).1,hr.mono r,.inr ⟨id,N,hm⟩,?_⟩;intro j hj;simp only[TC]at hj;rw[T8,cell_of_row w b j arr T (0,0) hbk,TS,By Xj];simp
   cases B
 |_=>simp[V.Kg]at B
theorem SW.ES(q:SW C n σ a w m R):∀{vs:List V}{us:List Value}{ps:List PV},RelL w m σ.av R vs us->V.ES σ.ob vs=UF ps->RelPL w (λb=>R b\/fp m b) ps us
 |[],_,_,h,hp=>by simp only[V.ES,TJ]at hp;subst hp;simpa only[RelL,RelPL]using h
 | c::cs,_,_,h,hp=>by
   simp only[V.ES]at hp;split at hp
   .rename_i p ps h1 h2;simp at hp;subst hp;simp only[RelL]at h;obtain⟨u,us,rfl,hc,hr⟩:=h;exact RelPL.cons (q.Kg hc h1) (SW.ES q hr h2)
   cases hp
theorem SW.toP(r:SW C n σ a w m R){v:V}{p:PV}(h:Rel w m σ.av R v u)(q:v.toP σ.ob=UF p):RelP w (λb=>R b\/fp m b) p u:=by
 cases v with
 | agg cs=>
   simp only[V.toP]at q;split at q
   .rename_i ps h1;simp at q;subst q;simp only[Rel]at h;obtain⟨us,rfl,hr⟩:=h;simp only[RelP];exact⟨us,O,r.ES hr h1⟩
   cases q
 | fn f a b=>
   simp only[V.toP]at q;split at q
   .rename_i ps qs h1 h2;simp at q;subst q;simp only[Rel]at h;obtain⟨us,vs,rfl,ha,hb⟩:=h;simp only[RelP];exact⟨us,vs,O,r.ES ha h1,r.ES hb h2⟩
   cases q
 |_=>exact r.Kg h q
theorem SW.args(q:SW C n σ a w m R):∀{vs:List V}{us:List Value}{ps:List PV},RelL w m σ.av R vs us->V.args σ.ob vs=UF ps->RelPL w (λb=>R b\/fp m b) ps us
 |[],_,_,h,hp=>by simp only[V.args,TJ]at hp;subst hp;simpa only[RelL,RelPL]using h
 | c::cs,_,_,h,hp=>by
   simp only[V.args]at hp;split at hp
   .rename_i p ps h1 h2;simp at hp;subst hp;simp only[RelL]at h;obtain⟨u,us,rfl,hc,hr⟩:=h;exact RelPL.cons (q.toP hc h1) (SW.args q hr h2)
   cases hp
theorem SW.evs(hw:SW C n σ a w m R):∀(xs:List Operand),RelL w m σ.av R (xs.map (σ.ev n)) (xs.map a.eval)
 |[]=>by simpa using RelL.nil
 |x::xs=>by simpa using RelL.cons (hw.ev x) (SW.evs hw xs)
end
def PV.fg1:PV->PV
 | .sl _ n cs=> .sl UG n cs
 |p=>p
def PV.fgL:List PV->List PV
 |[]=>[]
 |p::ps=>p.fg1::PV.fgL ps
def PV.fg:PV->PV
 | .agg cs=> .agg (PV.fgL cs)
 | .tup cs=> .tup (PV.fgL cs)
 |p=>p.fg1
def PV.fgA:List PV->List PV
 |[]=>[]
 |p::ps=>p.fg::PV.fgA ps
theorem RelP.fg1{p:PV}(h:RelP w R p u):RelP w R p.fg1 u:=by
 cases p with
 | sl b n cs=>
   simp only[RelP,PV.fg1]at h ⊢;obtain⟨A,c,e,h1,h2,_,_,h5⟩:=h;exact⟨A,c,e,h1,h2,(λ_ e=>by cases e),(λe=>by cases e),h5⟩
 |_=>exact h
theorem RelPL.fgL:∀{ps:List PV}{us:List Value},RelPL w R ps us->RelPL w R (PV.fgL ps) us
 |[],_,h=>h
 | p::ps,_,h=>by
   simp only[RelPL,PV.fgL]at h ⊢;obtain⟨u,vs,e,h1,h2⟩:=h;exact⟨u,vs,e,h1.fg1,RelPL.fgL h2⟩
theorem RelP.fg{p:PV}(h:RelP w R p u):RelP w R p.fg u:=by
 cases p with
 | agg cs=>
   simp only[RelP,PV.fg]at h ⊢;obtain⟨us,e,h⟩:=h;exact⟨us,e,h.fgL⟩
 | tup cs=>
   simp only[RelP,PV.fg]at h ⊢;obtain⟨us,e,h⟩:=h;exact⟨us,e,h.fgL⟩
 |_=>exact h.fg1
theorem RelPL.fgA:∀{ps:List PV}{us:List Value},RelPL w R ps us->RelPL w R (PV.fgA ps) us
 |[],_,h=>h
 | p::ps,_,h=>by
   simp only[RelPL,PV.fgA]at h ⊢;obtain⟨u,vs,e,h1,h2⟩:=h;exact⟨u,vs,e,h1.fg,RelPL.fgA h2⟩
def St.fgS(σ:St)(ts:List Nat):St:=⟨λt=>bif ts.contains t then(match σ.sl t with| .pv p=> .pv p.fg|v=>v)else σ.sl t,σ.ob,σ.av⟩
theorem St.kV{σ:St}(ts:List Nat):σ.le (σ.fgS ts):=by
 rintro C n a w ⟨m,R,hw⟩;refine⟨m,R,hw.hr,hw.df,hw.sz,λt ht=>?_⟩;have h:=hw.sl t ht;show Rel w m σ.av R (bif ts.contains t then(match σ.sl t with| .pv p=> .pv p.fg|v=>v)else σ.sl t) _;cases ts.contains t
 .exact h
 simp only[U3];cases hv:σ.sl t with
 |pv p=>rw[hv]at h;simp only[Rel]at h ⊢; exact h.fg
 |_=>rw[hv]at h;exact h
def St.fgO(σ:St)(id:Nat)(T:TypeId)(cs:List PV):St:=⟨σ.sl,obL [(id,UF (.cells T (PV.fgL cs)))] σ.ob,σ.av⟩
theorem PV.oo:∀cs:List PV,(PV.fgL cs).length=cs.length
 |[]=>rfl
 |_::cs=>by simp[PV.fgL,PV.oo cs]
theorem Bu:∀(wr:List (Nat×Option Ob))(f:Nat->Option Ob)(i:Nat),obL wr f i=f i\/∃p∈wr,p.1=i/\obL wr f i=p.2
 |[],_,_=> .inl O
 | (j,o)::wr,f,i=>by
   simp only[obL];cases hb:Nat.beq i j with
   |true=>exact .inr ⟨_,Vr,(cd hb).symm,O⟩
   |false=>exact(Bu wr f i).imp id fun⟨p,hp,h⟩=>⟨p,Ur _ hp,h⟩
theorem St.uT{σ:St}{sl':Nat->V}{wr:List (Nat×Option Ob)}(h:∀{C:Ctx}{n:Nat}{a:Act}{w:World}{m:Gm}{R:Nat->Prop},SW C n σ a w m R->(∀t,t<n->Rel w m σ.av R (sl' t) (a.eval (.tmp t)))/\
  ∀p∈wr,∃o o',σ.ob p.1=UF o/\p.2=UF o'/\o'.real=o.real/\∀b N,m p.1=UF (b,N)->lQ w m σ.av R b N o->lQ w m σ.av R b N o'):σ.le ⟨sl',obL wr σ.ob,σ.av⟩:=by
 rintro C n a w ⟨m,R,hw⟩;obtain⟨h1,h2⟩:=h hw;refine⟨m,R,⟨λi=>?_,λi hi=>?_,λi o b N e1 e2=>?_,hw.hr.inj,hw.hr.own,hw.hr.rsz,hw.hr.rfr,hw.hr.r0,hw.hr.frame,hw.hr.j4,hw.hr.res⟩,hw.df,hw.sz,h1⟩
 .have hd:=hw.hr.dom i;show _=cL (obL wr σ.ob i);rcases Bu wr σ.ob i with e|⟨p,hp,rfl,e⟩
  .rw[e];exact hd
  obtain⟨o,o',g1,g2,g3,_⟩:=h2 p hp;rw[e,g2];rw[g1]at hd;exact hd.trans g3.symm
 .have hf:=hw.hr.free i hi;show obL wr σ.ob i=UG;rcases Bu wr σ.ob i with e|⟨p,hp,rfl,e⟩
  .rw[e];exact hf
  obtain⟨o,o',g1,_⟩:=h2 p hp;rw[g1]at hf;cases hf
 have e1:obL wr σ.ob i=UF o:=e1;rcases Bu wr σ.ob i with e|⟨p,hp,rfl,e⟩
 .exact hw.hr.obj i o b N (e.symm.trans e1) e2
 obtain⟨o1,o',g1,g2,_,g4⟩:=h2 p hp;rw[e1,g2]at e;cases e;exact g4 b N e2 (hw.hr.obj _ o1 b N g1 e2)
theorem St.SD{σ:St}{cs:List PV}(r:σ.ob id=UF (.cells T cs)):σ.le (σ.fgO id T cs):=
 St.uT λq=>⟨q.sl,λp hp=>by
  obtain rfl:=TF.1 hp;exact⟨_,_,r,O,O,λb N _ ⟨arr,q1,q2,q3,q4⟩=>⟨arr,q1,q2,by rw[PV.oo];exact q3,by rw[PV.oo];exact q4.fgL⟩⟩⟩
def FnP(P:Program)(f:FuncId)(args:List PV)(Q:PV->Prop):Prop:=
 ∀(w:World)(R:Nat->Prop)(us:List Value),re w R->(∀b,R b->b<w.heap.size)->RelPL w R args us->
  Calls P f us.toArray w λe w'=>∃u v,e= .returned u/\Q v/\Below w.heap.size w w'/\RelP w' (λb=>R b\/(w.heap.size<=b/\b<w'.heap.size)) v u
theorem FnP.mono{args:List PV}{Q Q':PV->Prop}(h:FnP P f args Q)(B:∀v,Q v->Q' v):FnP P f args Q':=
 λw R us h0 h1 h2=>(h w R us h0 h1 h2).mono λ_ _ ⟨u,v,e,q,r⟩=>⟨u,v,e,B v q,r⟩
def db(P:Program)(f:FuncId):Prop:=∀args w,(callFunc f args).run P w= .ok (.enter f args) w
def PV.flat:PV->Bool
 | .int _ _| .bool _| .str _| .nilfn| .nilptr| .nilmap| .niliface| .any=>VA
 | .tup ps=>ps.all fun| .int _ _| .bool _| .str _=>VA|_=>VC
 | .agg ps=>ps.all fun| .int _ _| .bool _| .str _=>VA|_=>VC
 |_=>VC
theorem P4{w':World}{R':Nat->Prop}:∀{ps:List PV}{us:List Value},(ps.all fun| .int _ _| .bool _| .str _=>VA|_=>VC)=VA->RelPL w R ps us->RelPL w' R' ps us
 |[],_,_,h=>by simpa only[RelPL]using h
 | c::cs,_,hf,h=>by
   simp only[VL,du]at hf;simp only[RelPL]at h ⊢;obtain⟨u,us,e,hc,hr⟩:=h;refine⟨u,us,e,?_,P4 hf.2 hr⟩;cases c<;>simp at hf<;>simpa only[RelP]using hc
theorem RelP.flat{w':World}{R':Nat->Prop}{p:PV}(q:p.flat=VA)(h:RelP w R p u):RelP w' R' p u:=by
 cases p<;>simp only[PV.flat,UO]at q<;>simp only[RelP]at h ⊢
 case agg ps=>obtain⟨us,e,h⟩:=h;exact⟨us,e,P4 q h⟩
 case tup ps=>obtain⟨us,e,h⟩:=h;exact⟨us,e,P4 q h⟩
 all_goals exact h
section
variable {C:Ctx}{n:Nat}{σ:St}{dst:Option Tmp}{ty:TypeId}{ts:Array TypeId}{pos:String}{after:Array Edge}{gd:Option (Nat×Bool)}
theorem SW.called{w':World}(q:SW C n σ a w m R)(r:Below w.heap.size w w'):
  SW C n σ a w' m (λb=>R b\/(w.heap.size<=b/\b<w'.heap.size)):=by
 have B:∀b,R b->(R b\/(w.heap.size<=b/\b<w'.heap.size))/\w'.heap[b]? =w.heap[b]? :=λb h=>⟨.inl h,r.block b (q.hr.rsz b h)⟩
 have:=q.world (w':=w') (m':=m) (R':=λb=>R b\/(w.heap.size<=b/\b<w'.heap.size)) (ob':=σ.ob) (av':=σ.av) ?_ B (λ_ _ _ e=>e) (λ_ e=>e)
 .exact this
 refine⟨q.hr.dom,q.hr.free,?_,q.hr.inj,?_,?_,?_,λb h=> .inl (q.hr.r0 b h),?_,q.hr.j4,q.hr.res⟩
 .intro i o b N h1 h2;exact(q.hr.obj i o b N h1 h2).mono B (λ_ _ _ e=>e) (λ_ e=>e) (r.block b (q.hr.own i b N h2).1)
 .intro i b N h1;obtain⟨h2,h3,h4⟩:=q.hr.own i b N h1;refine⟨TM h2 r.size,?_,h4⟩;rintro(h5|h5)
  .exact h3 h5
  omega
 .rintro b (h|h)
  .exact TM (q.hr.rsz b h) r.size
  exact h.2
 .rintro b (h|h)
  .exact q.hr.rfr b h
  exact .inr (.inl (AS q.hr.frame.size h.1))
 refine⟨r.os.trans q.hr.frame.os,r.tape.trans q.hr.frame.tape,r.output.trans q.hr.frame.output,AS q.hr.frame.size r.size,λk hk hF=>?_⟩;rw[r.block k (TM hk q.hr.frame.size)];exact q.hr.frame.block k hk hF
theorem nk(hc:db P f)(xs:Array Operand)(a:Act)(w:World):
  (execOp a.eval ⟨dst,.call { callee:= .value (.func f),args:=xs,argTypes:=ts },ty,pos,after,gd⟩).run P w= .ok (.enter f (xs.map a.eval)) w:=by
 simp[execOp,resolve,Deferred.ofValue,Act.eval,invoke,hc];exact hc _ _
theorem ie{ps:List PV}{Q:PV->Prop}{K:St->Prop}(hc:db C.P f)(E:FnP C.P f ps Q)(q:(V.args (λ_=>UG) (xs.toList.map (σ.ev n))).map PV.fgA=UF ps)(G:∀v,Q v->K (σ.put dst (.pv v))):
  OJ C n ⟨dst,.call { callee:= .value (.func f),args:=xs,argTypes:=ts },ty,pos,after,gd⟩ K σ:=by
 rintro a w Q' ⟨m,R,hw⟩;unfold Oper.wp;rw[nk hc];have r:RelPL w R ps (xs.toList.map a.eval):=by
  have B:SW C n ⟨σ.sl,λ_=>UG,σ.av⟩ a w (λ_=>UG) R:=by
   refine⟨⟨λ_=>rfl,λ_ _=>rfl,λ_ _ _ _ h=>(by cases h),λ_ _ _ _ _ h=>(by cases h),λ_ _ _ h=>(by cases h),hw.hr.rsz,hw.hr.rfr,hw.hr.r0,hw.hr.frame,λ_ _ _ h=>(by cases h),hw.hr.res⟩,hw.df,hw.sz,λt ht=>(hw.sl t ht).mono (λb h=>⟨h,rfl⟩) (λ_ _ _ e=>by cases e) (λ_ e=>e)⟩
  obtain⟨ps0,hargs0,rfl⟩:=Vz.1 q;have D:=(B.args (B.evs xs.toList) hargs0).fgA;exact D.mono λb hb=>⟨hb.elim id (fun⟨_,_,h⟩=>by cases h),rfl⟩
 have:=E w R (xs.toList.map a.eval) hw.hr.gi hw.hr.rsz r;have e:(xs.toList.map a.eval).toArray=xs.map a.eval:=by rw[<-Array.toList_map,Array.toArray_toList]
 rw[e]at this;refine Calls.mono this ?_;rintro e w' ⟨u,v,rfl,hq,hb,hr⟩;exact⟨_,G v hq,m,_,(hw.called hb).put dst (by simpa only[Rel]using hr)⟩
theorem aa{ps:List PV}{r:PV}(hc:db C.P f)(B:FnP C.P f ps (· =r))(q:(V.args (λ_=>UG) (xs.toList.map (σ.ev n))).map PV.fgA=UF ps):
  XJ C n ⟨dst,.call { callee:= .value (.func f),args:=xs,argTypes:=ts },ty,pos,after,gd⟩ σ ⟨.pv r,[],[]⟩:=
 ie hc B q (by rintro v rfl;exact(St.iV σ dst _).symm)
theorem KN{ps:List PV}{Q:PV->Prop}{K:St->Prop}(hc:db C.P f)(D:FnP C.P f ps Q)(q:(V.args σ.ob (xs.toList.map (σ.ev n))).map PV.fgA=UF ps)(B:∀v,Q v->v.flat=VA)(E:∀v,Q v->K (σ.put dst (.pv v))):
  OJ C n ⟨dst,.call { callee:= .value (.func f),args:=xs,argTypes:=ts },ty,pos,after,gd⟩ K σ:=by
 rintro a w Q' ⟨m,R,hw⟩;unfold Oper.wp;rw[nk hc];obtain⟨ps0,hargs0,rfl⟩:=Vz.1 q;have r:=(hw.args (hw.evs xs.toList) hargs0).fgA;have:=D w (λb=>R b\/fp m b) (xs.toList.map a.eval) (hw.hr.gi.mono λb hb=>⟨.inl hb,O⟩) (by rintro b (h|⟨id,N,h⟩);exact hw.hr.rsz b h;exact(hw.hr.own id b N h).1) r;have e:(xs.toList.map a.eval).toArray=xs.map a.eval:=by rw[<-Array.toList_map,Array.toArray_toList]
 rw[e]at this;refine Calls.mono this ?_;rintro e w' ⟨u,v,rfl,hq,hb,hr⟩;exact⟨_,E v hq,m,_,(hw.called hb).put dst (by simp only[Rel];exact hr.flat (B v hq))⟩
theorem vV{ps:List PV}{r:PV}(hc:db C.P f)(D:FnP C.P f ps (· =r))(q:(V.args σ.ob (xs.toList.map (σ.ev n))).map PV.fgA=UF ps)(B:r.flat=VA):
  XJ C n ⟨dst,.call { callee:= .value (.func f),args:=xs,argTypes:=ts },ty,pos,after,gd⟩ σ ⟨.pv r,[],[]⟩:=
 KN hc D q (by rintro v rfl;exact B) (by rintro v rfl;exact(St.iV σ dst _).symm)
end
def vK:Nat->List PV->List (Nat×V)
 |_,[]=>[]
 |k,p::ps=>(k,.pv p)::vK (k+1) ps
def Pf(n:Nat)(σ:St):List ResultVar->Option (List V)
 |[]=>UF []
 | .tmp t::l=>match Pf n σ l with|some vs=>UF (σ.ev n (.tmp t)::vs)|none=>UG
 |_::_=>UG
def jB:List PV->PV
 |[p]=>p
 |ps=> .tup ps
def retQ(fn:Func)(n:Nat)(Q:PV->Prop):Exit->St->Prop
 | .ret,σ| .normal,σ=>∃vs ps,Pf n σ fn.results.toList=UF vs/\V.args σ.ob vs=UF ps/\Q (jB ps)
 |_,_=>False
end
end Go.Proofs.YtkkenamefaegfaaGreatDoor
