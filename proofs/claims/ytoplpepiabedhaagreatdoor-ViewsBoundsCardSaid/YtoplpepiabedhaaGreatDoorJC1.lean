/- Lemmas. No condition. -/
import Derived.Test.YtoplpepiabedhaaGreatDoorRows
import Derived.WalkKit
import Derived.WalkSpells
import Derived.WalkLawsBesides
import Derived.Maps.AppendAt
import Derived.Orders
import Derived.Deep.QuietTactic
import Derived.BigQuiet
import Derived.Deep.Draws
import Derived.Lib.Hide
import Derived.RegionTactic
import Derived.Deep.RegionLaw
import Derived.Deep.MidRow
set_option maxRecDepth 100000
set_option maxHeartbeats 4000000
open Go.RowKit Go.Proofs.Tryz
open Option renaming some→Sh,none→Sl
open Bool renaming true→Sm,false→S1
namespace Go.Proofs.YtoplpepiabedhaaGreatDoor
variable{p:Prop}{b off N id k sz size n o bytes:Nat}{us:List Value}{u z:Value}{α:Type}{w:World}{R:Nat->Prop}{P:Program}{t s e T:TypeId}{c x y:Code}{a:Act}{j i il ih:Int}{xs:Array Operand}{kk kl kh:IntKind}{bn:Option Bool}{f:FuncId}
theorem ag:type_of% @congrArg:=@congrArg
theorem au:type_of% @List.getElem_mem:=@List.getElem_mem
theorem aJ:type_of% @Nat.eq_of_beq_eq_true:=@Nat.eq_of_beq_eq_true
theorem aQ:type_of% @List.take_of_length_le:=@List.take_of_length_le
theorem bP:type_of% @List.map_cons:=@List.map_cons
theorem cd:type_of% @Nat.zero_le:=@Nat.zero_le
theorem dt:type_of% @if_neg:=@if_neg
theorem sh:type_of% @Bool.and_eq_true:=@Bool.and_eq_true
theorem AI:type_of% @List.take_succ_eq_append_getElem:=@List.take_succ_eq_append_getElem
theorem AS:type_of% @List.mem_cons:=@List.mem_cons
theorem AT:type_of% @if_pos:=@if_pos
theorem By:type_of% @List.mem_map:=@List.mem_map
theorem BY:type_of% @Nat.le_refl:=@Nat.le_refl
theorem Hj:type_of% @List.getElem?_eq_getElem:=@List.getElem?_eq_getElem
theorem IS:type_of% @List.length_append:=@List.length_append
theorem IT:type_of% @Nat.le_trans:=@Nat.le_trans
theorem OF:type_of% @List.length_map:=@List.length_map
theorem Ri:type_of% @List.all_eq_true:=@List.all_eq_true
theorem Rj:type_of% @List.getD_eq_getElem?_getD:=@List.getD_eq_getElem?_getD
theorem Rk:type_of% @List.length_cons:=@List.length_cons
theorem Rm:type_of% @Int.eq_ofNat_of_zero_le:=@Int.eq_ofNat_of_zero_le
theorem Rn:type_of% @List.mem_singleton:=@List.mem_singleton
theorem Ro:type_of% @Array.getElem?_eq_some_iff:=@Array.getElem?_eq_some_iff
theorem Rp:type_of% @List.getElem?_eq_some_iff:=@List.getElem?_eq_some_iff
theorem Rq:type_of% @Option.some.injEq:=@Option.some.injEq
theorem Rr:type_of% @List.length_take:=@List.length_take
theorem Rt:type_of% @decide_eq_true_eq:=@decide_eq_true_eq
theorem Ru:type_of% @decide_eq_true:=@decide_eq_true
theorem Rv:type_of% @decide_eq_false:=@decide_eq_false
theorem Rx:type_of% @List.mem_append:=@List.mem_append
theorem Ry:type_of% @List.getElem?_take:=@List.getElem?_take
theorem Rz:type_of% @Nat.le_of_ble_eq_true:=@Nat.le_of_ble_eq_true
theorem RA:type_of% @Nat.lt_of_lt_of_le:=@Nat.lt_of_lt_of_le
theorem RB:type_of% @List.size_toArray:=@List.size_toArray
theorem RC:type_of% @List.flatMap_cons:=@List.flatMap_cons
theorem RD:type_of% @List.length_singleton:=@List.length_singleton
theorem RE:type_of% @Array.length_toList:=@Array.length_toList
theorem RF:type_of% @List.drop_eq_getElem_cons:=@List.drop_eq_getElem_cons
theorem RG:type_of% @List.map_append:=@List.map_append
theorem RH:type_of% @Int.toNat_natCast:=@Int.toNat_natCast
theorem RI:type_of% @Eq.trans:=@Eq.trans
theorem RJ:type_of% @Bool.eq_iff_iff:=@Bool.eq_iff_iff
theorem RN:type_of% @List.mem_flatMap:=@List.mem_flatMap
theorem RQ:type_of% @Option.isSome_iff_exists:=@Option.isSome_iff_exists
theorem RR:type_of% @cond_false:=@cond_false
theorem RU:type_of% @List.eq_nil_of_length_eq_zero:=@List.eq_nil_of_length_eq_zero
theorem RV:type_of% @Nat.zero_add:=@Nat.zero_add
theorem RX:type_of% @List.mem_cons_of_mem:=@List.mem_cons_of_mem
theorem RY:type_of% @List.Perm.refl:=@List.Perm.refl
theorem RZ:type_of% @Classical.byContradiction:=@Classical.byContradiction
theorem R4:type_of% @Int.natAbs_natCast:=@Int.natAbs_natCast
theorem R6:type_of% @Nat.mul_one:=@Nat.mul_one
theorem R7:type_of% @Bool.or_eq_false_iff:=@Bool.or_eq_false_iff
theorem Sa:type_of% @List.pairwise_cons:=@List.pairwise_cons
theorem Sb:type_of% @List.take_append_drop:=@List.take_append_drop
theorem Sc:type_of% @List.flatMap_append:=@List.flatMap_append
theorem Sd:type_of% @List.map_congr_left:=@List.map_congr_left
theorem Se:type_of% @List.sum_cons:=@List.sum_cons
theorem Sf:type_of% @Array.getD_eq_getD_getElem?:=@Array.getD_eq_getD_getElem?
theorem Sg:type_of% @Bool.or_eq_true:=@Bool.or_eq_true
theorem Si:type_of% @List.mem_range:=@List.mem_range
theorem Sj:type_of% @List.mem_filter:=@List.mem_filter
theorem Sk:type_of% @List.append_nil:=@List.append_nil
theorem Sn:type_of% @List.not_mem_nil:=@List.not_mem_nil
theorem Sp:type_of% @List.getElem_of_mem:=@List.getElem_of_mem
theorem Sq:type_of% @List.getElem?_drop:=@List.getElem?_drop
theorem Sr:type_of% @List.nil_append:=@List.nil_append
theorem Ss:type_of% @Nat.mul_le_mul_left:=@Nat.mul_le_mul_left
theorem Su:type_of% @List.mem_cons_self:=@List.mem_cons_self
theorem Sv:type_of% @List.pairwise_iff_getElem:=@List.pairwise_iff_getElem
theorem Sw:type_of% @Nat.mul_le_mul:=@Nat.mul_le_mul
theorem Sx:type_of% @List.nodup_cons:=@List.nodup_cons
theorem Sy:type_of% @cond_true:=@cond_true
theorem Sz:type_of% @Bool.false_eq_true:=@Bool.false_eq_true
theorem SA:type_of% @decide_eq_true_iff:=@decide_eq_true_iff
theorem SC:type_of% @List.mem_of_getElem?:=@List.mem_of_getElem?
theorem SD:type_of% @List.map_nil:=@List.map_nil
theorem SE:type_of% @List.getElem_map:=@List.getElem_map
theorem SF:type_of% @List.getElem?_eq_none:=@List.getElem?_eq_none
theorem SG:type_of% @Nat.min_eq_left:=@Nat.min_eq_left
theorem SH:type_of% @List.map_set:=@List.map_set
theorem SI:type_of% @List.length_set:=@List.length_set
theorem SL:type_of% @beq_eq_false_iff_ne:=@beq_eq_false_iff_ne
theorem SM:type_of% @List.pairwise_map:=@List.pairwise_map
theorem SN:type_of% @List.cons_append:=@List.cons_append
theorem SO:type_of% @List.ext_getElem:=@List.ext_getElem
theorem SP:type_of% @Nat.lt_succ_iff_lt_or_eq:=@Nat.lt_succ_iff_lt_or_eq
theorem SQ:type_of% @Nat.le_of_eq:=@Nat.le_of_eq
theorem SR:type_of% @List.any_eq_true:=@List.any_eq_true
theorem SS:type_of% @List.length_pos_iff:=@List.length_pos_iff
theorem SU:type_of% @List.getElem?_of_mem:=@List.getElem?_of_mem
theorem SV:type_of% @Nat.mul_le_mul_right:=@Nat.mul_le_mul_right
theorem SX:type_of% @Nat.mul_comm:=@Nat.mul_comm
theorem SY:type_of% @Nat.eq_zero_or_pos:=@Nat.eq_zero_or_pos
theorem SZ:type_of% @List.filter_sublist:=@List.filter_sublist
theorem S0:type_of% @beq_iff_eq:=@beq_iff_eq
theorem S6:type_of% @Nat.pow_le_pow_right:=@Nat.pow_le_pow_right
theorem S7:type_of% @List.mem_append_left:=@List.mem_append_left
theorem S8:type_of% @decide_eq_false_iff_not:=@decide_eq_false_iff_not
theorem S9:type_of% @beq_self_eq_true:=@beq_self_eq_true
theorem Ta:type_of% @List.map_map:=@List.map_map
theorem Tc:type_of% @Nat.pow_succ:=@Nat.pow_succ
theorem Td:type_of% @List.length_drop:=@List.length_drop
theorem Te:type_of% @List.length_filter_le:=@List.length_filter_le
theorem Tf:type_of% @List.foldl_cons:=@List.foldl_cons
theorem Tg:type_of% @List.mem_take_iff_getElem:=@List.mem_take_iff_getElem
theorem Th:type_of% @Array.getElem?_setIfInBounds_ne:=@Array.getElem?_setIfInBounds_ne
theorem Ti:type_of% @Nat.mod_lt:=@Nat.mod_lt
theorem Tj:type_of% @Nat.mul_assoc:=@Nat.mul_assoc
theorem Tk:type_of% @Bool.or_false:=@Bool.or_false
theorem Tl:type_of% @List.getElem?_set_ne:=@List.getElem?_set_ne
theorem Tm:type_of% @of_decide_eq_true:=@of_decide_eq_true
theorem Tn:type_of% @of_decide_eq_false:=@of_decide_eq_false
theorem To:type_of% @List.mem_append_right:=@List.mem_append_right
theorem Tp:type_of% @List.length_replicate:=@List.length_replicate
theorem Tq:type_of% @eq_false_of_ne_true:=@eq_false_of_ne_true
theorem Ts:type_of% @List.findIdx?_eq_some_iff_getElem:=@List.findIdx?_eq_some_iff_getElem
theorem Tt:type_of% @Option.map_some:=@Option.map_some
theorem Tu:type_of% @Nat.not_lt_zero:=@Nat.not_lt_zero
theorem Tv:type_of% @List.drop_of_length_le:=@List.drop_of_length_le
theorem Tw:type_of% @Nat.blt_eq:=@Nat.blt_eq
theorem Tx:type_of% @List.length_nil:=@List.length_nil
theorem Tz:type_of% @List.cons.injEq:=@List.cons.injEq
theorem TB:type_of% @Bool.not_eq_true':=@Bool.not_eq_true'
theorem TC:type_of% @List.append_assoc:=@List.append_assoc
theorem TD:type_of% @List.getElem?_map:=@List.getElem?_map
theorem TE:type_of% @Array.getElem?_setIfInBounds:=@Array.getElem?_setIfInBounds
theorem TF:type_of% @Option.some.inj:=@Option.some.inj
theorem TG:type_of% @List.all_cons:=@List.all_cons
theorem TH:type_of% @Nat.le_add_right:=@Nat.le_add_right
theorem TJ:type_of% @Array.getElem?_replicate:=@Array.getElem?_replicate
theorem TL:type_of% @List.filter_cons:=@List.filter_cons
theorem TM:type_of% @Nat.mul_add:=@Nat.mul_add
theorem TN:type_of% @List.map_eq_nil_iff:=@List.map_eq_nil_iff
theorem TO:type_of% @List.Pairwise.sublist:=@List.Pairwise.sublist
theorem TP:type_of% @Nat.ble_eq_true_of_le:=@Nat.ble_eq_true_of_le
theorem TQ:type_of% @Array.getElem?_modify:=@Array.getElem?_modify
theorem TS:type_of% @List.idxOf_lt_length_of_mem:=@List.idxOf_lt_length_of_mem
theorem TU:type_of% @List.getElem?_set:=@List.getElem?_set
theorem TV:type_of% @List.length_eq_zero_iff:=@List.length_eq_zero_iff
theorem TW:type_of% @List.mem_iff_getElem:=@List.mem_iff_getElem
theorem TX:type_of% @List.mem_of_mem_drop:=@List.mem_of_mem_drop
theorem TY:type_of% @List.filter_append:=@List.filter_append
theorem TZ:type_of% @Int.natCast_mul:=@Int.natCast_mul
theorem T0:type_of% @List.flatMap_map:=@List.flatMap_map
theorem T3:type_of% @List.take_length:=@List.take_length
theorem T4:type_of% @Option.map_eq_some_iff:=@Option.map_eq_some_iff
theorem T5:type_of% @List.mem_of_find?_eq_some:=@List.mem_of_find?_eq_some
theorem T6:type_of% @List.getElem_append_left:=@List.getElem_append_left
theorem T7:type_of% @or_false:=@or_false
theorem T8:type_of% @Rat.intCast_mul:=@Rat.intCast_mul
theorem T9:type_of% @List.map_flatMap:=@List.map_flatMap
theorem Ua:type_of% @Array.replicate_zero:=@Array.replicate_zero
theorem Ub:type_of% @Option.getD_some:=@Option.getD_some
theorem Uc:type_of% @Array.replicate_succ:=@Array.replicate_succ
theorem Ud:type_of% @List.set_eq_take_append_cons_drop:=@List.set_eq_take_append_cons_drop
theorem Ue:type_of% @Bool.and_true:=@Bool.and_true
theorem Uf:type_of% @List.foldl_append:=@List.foldl_append
theorem Ug:type_of% @Nat.beq_refl:=@Nat.beq_refl
theorem Uh:type_of% @List.mergeSort_of_pairwise:=@List.mergeSort_of_pairwise
theorem Ui:type_of% @Array.getElem?_append_left:=@Array.getElem?_append_left
theorem Uj:type_of% @List.all_eq_false:=@List.all_eq_false
theorem Uk:type_of% @List.nodup_append:=@List.nodup_append
theorem Ul:type_of% @List.replicate_succ:=@List.replicate_succ
theorem Um:type_of% @List.append_toArray:=@List.append_toArray
theorem Un:type_of% @List.findIdx?_eq_none_iff:=@List.findIdx?_eq_none_iff
theorem Uo:type_of% @List.getElem?_append_left:=@List.getElem?_append_left
theorem Up:type_of% @if_false:=@if_false
theorem Uq:type_of% @List.perm_middle:=@List.perm_middle
theorem Ur:type_of% @List.map_toArray:=@List.map_toArray
theorem Us:type_of% @BitVec.getLsbD_and:=@BitVec.getLsbD_and
theorem Ut:type_of% @Nat.mod_eq_of_lt:=@Nat.mod_eq_of_lt
theorem Uu:type_of% @List.flatMap_nil:=@List.flatMap_nil
theorem Uv:type_of% @Nat.add_zero:=@Nat.add_zero
theorem Uw:type_of% @Nat.lt_or_ge:=@Nat.lt_or_ge
theorem Ux:type_of% @Nat.sub_self:=@Nat.sub_self
theorem Uy:type_of% @List.mem_of_mem_take:=@List.mem_of_mem_take
theorem Uz:type_of% @List.pairwise_mergeSort:=@List.pairwise_mergeSort
theorem UH:type_of% @List.push_toArray:=@List.push_toArray
theorem UI:type_of% @List.ext_getElem?:=@List.ext_getElem?
theorem UJ:type_of% @List.range_succ:=@List.range_succ
theorem UK:type_of% @List.take_succ_cons:=@List.take_succ_cons
theorem UL:type_of% @Nat.add_comm:=@Nat.add_comm
theorem UM:type_of% @Bool.true_and:=@Bool.true_and
theorem UN:type_of% @Nat.lt_of_le_of_lt:=@Nat.lt_of_le_of_lt
theorem UO:type_of% @List.take_zero:=@List.take_zero
theorem UP:type_of% @if_true:=@if_true
theorem UQ:type_of% @Array.getElem?_append:=@Array.getElem?_append
theorem UR:type_of% @Array.getElem?_toList:=@Array.getElem?_toList
theorem US:type_of% @List.all_append:=@List.all_append
theorem UT:type_of% @Rat.add_zero:=@Rat.add_zero
theorem UU:type_of% @Nat.sub_zero:=@Nat.sub_zero
theorem UW:type_of% @Array.toList_push:=@Array.toList_push
theorem UX:type_of% @List.cons.inj:=@List.cons.inj
theorem UY:type_of% @List.mergeSort_perm:=@List.mergeSort_perm
theorem UZ:type_of% @List.map_eq_flatMap:=@List.map_eq_flatMap
theorem U0:type_of% @List.filter_eq_self:=@List.filter_eq_self
theorem U1:type_of% @List.zipIdx_cons:=@List.zipIdx_cons
theorem U3:type_of% @decide_eq_decide:=@decide_eq_decide
theorem U4:type_of% @List.getElem_set:=@List.getElem_set
theorem U5:type_of% @List.map_fst_zip:=@List.map_fst_zip
theorem U6:type_of% @Nat.mul_pos:=@Nat.mul_pos
theorem U7:type_of% @List.map_id:=@List.map_id
theorem U8:type_of% @Nat.zero_mul:=@Nat.zero_mul
theorem U9:type_of% @Nat.lt_trans:=@Nat.lt_trans
theorem Va:type_of% @Nat.add_mul:=@Nat.add_mul
theorem Vb:type_of% @Nat.succ_mul:=@Nat.succ_mul
theorem Vc:type_of% @Nat.le_of_lt:=@Nat.le_of_lt
theorem Vd:type_of% @List.all_nil:=@List.all_nil
theorem Ve:type_of% @Rat.mul_zero:=@Rat.mul_zero
theorem Vf(h:p:=by omega):p:=h
theorem Vg(h:p:=by kernel_rfl):p:=h
theorem Vh(h:p:=by decide):p:=h
theorem Vi(h:p:=by assumption):p:=h
theorem Vj(h:p:=by simp):p:=h
theorem Vk(h:p:=by simp;omega):p:=h
theorem Vl(h:p:=by simp only;omega):p:=h
theorem Vm:True:=True.intro
theorem O{α:Sort _}{a:α}:a=a:=rfl
section
inductive PV where
 |int (k:IntKind) (n:Int)
 |bool (b:Bool)
 |str (s:ByteArray)
 |agg (cs:List PV)
 |tup (cs:List PV)
 |sl (nil:Option Bool) (n:Nat) (cs:List PV)
 |rp (cs:List PV) (off:Nat)
 |fn (f:Fn) (first captured:List PV)
 |nilfn
 |nilptr
 |nilmap
 |iface (t:TypeId) (v:PV)
 |niliface
 |mp (ks vs:List PV)
 |any
 deriving Inhabited
def rA(w:World)(R:Nat->Prop)(b off:Nat)(us:List Value):Prop:=
 R b/\∀j,j<us.length->w.cell? ⟨b,off+j,Sl⟩=us[j]?
def db(es:List MapEntry)(clock:Nat):Prop:=(es.map (·.born)).Nodup/\∀e∈es,e.born<clock
mutual
def RelP(w:World)(R:Nat->Prop):PV->Value->Prop
 | .int k n,u=>u= .int k n
 | .bool b,u=>u= .bool b
 | .str s,u=>u= .string s
 | .agg cs,u=>∃us:List Value,u= .agg us.toArray/\RelPL w R cs us
 | .tup cs,u=>∃us:List Value,u= .tuple us.toArray/\RelPL w R cs us
 | .sl nil n cs,u=>∃A c,u= .slice A n c/\n<=c/\c<=maxLen/\(∀b,nil=Sh b->b=A.isNone)/\(nil=Sh Sm->c=0)/\
   (cs≠[]->∃b off us,A=Sh ⟨b,off,Sl⟩/\RelPL w R cs us/\rA w R b off us)
 | .rp cs o,u=>∃b off us,u= .pointer (Sh ⟨b,off+o,Sl⟩)/\RelPL w R cs us/\rA w R b off us
 | .fn f fs cs,u=>∃us vs:List Value,u= .func f us.toArray vs.toArray/\RelPL w R fs us/\RelPL w R cs vs
 | .nilfn,u=>u= .nilFunc
 | .nilptr,u=>u= .pointer Sl
 | .nilmap,u=>u= .map Sl
 | .iface t v,u=>∃x,u= .iface t x/\RelP w R v x
 | .niliface,u=>u= .nilIface
 | .mp ks vs,u=>∃b,u= .map (Sh b)/\R b/\∃(es:Array MapEntry)(clock:Nat)(l:List MapEntry),w.heap[b]? =Sh (.map es clock)/\RelPL w R ks (l.map (·.key))/\RelPL w R vs (l.map (·.val))/\db es.toList clock/\l.Perm es.toList
 | .any,_=>True
def RelPL(w:World)(R:Nat->Prop):List PV->List Value->Prop
 |[],us=>us=[]
 |c::cs,us=>∃u vs,us=u::vs/\RelP w R c u/\RelPL w R cs vs
end
section
variable {w w':World}{R R':Nat->Prop}
theorem rA.mono(d:∀b,R b->R' b/\w'.heap[b]? =w.heap[b]?)(h:rA w R b off us):rA w' R' b off us:=
 ⟨(d b h.1).1,λj hj=>(World.cell?_of_block (w:=w) (a:=⟨b,off+j,Sl⟩) (d b h.1).2).trans (h.2 j hj)⟩
mutual
theorem RelP.mono(d:∀b,R b->R' b/\w'.heap[b]? =w.heap[b]?):∀(p:PV)(u:Value),RelP w R p u->RelP w' R' p u
 | .int _ _,_,h=>h
 | .bool _,_,h=>h
 | .str _,_,h=>h
 | .agg cs,_,h=>by
   simp only[RelP]at h ⊢;obtain⟨us,e,h⟩:=h;exact⟨us,e,RelPL.mono d cs us h⟩
 | .tup cs,_,h=>by
   simp only[RelP]at h ⊢;obtain⟨us,e,h⟩:=h;exact⟨us,e,RelPL.mono d cs us h⟩
 | .sl nil n cs,_,h=>by
   simp only[RelP]at h ⊢;obtain⟨A,c,e,h1,h2,h3,h4,h5⟩:=h;refine⟨A,c,e,h1,h2,h3,h4,λq=>?_⟩;obtain⟨b,off,us,e,hl,hs⟩:=h5 q;exact⟨b,off,us,e,RelPL.mono d cs us hl,hs.mono d⟩
 | .rp cs o,_,h=>by
   simp only[RelP]at h ⊢;obtain⟨b,off,us,e,hl,hs⟩:=h;exact⟨b,off,us,e,RelPL.mono d cs us hl,hs.mono d⟩
 | .fn f fs cs,_,h=>by
   simp only[RelP]at h ⊢;obtain⟨us,vs,e,h1,h2⟩:=h;exact⟨us,vs,e,RelPL.mono d fs us h1,RelPL.mono d cs vs h2⟩
 | .nilfn,_,h=>h
 | .nilptr,_,h=>h
 | .nilmap,_,h=>h
 | .iface t v,_,h=>by
   simp only[RelP]at h ⊢;obtain⟨x,e,h⟩:=h;exact⟨x,e,RelP.mono d v x h⟩
 | .niliface,_,h=>h
 | .mp ks vs,_,h=>by
   simp only[RelP]at h ⊢;obtain⟨b,e,hb,es,clock,l,h1,h2,h3,h4⟩:=h;exact⟨b,e,(d b hb).1,es,clock,l,(d b hb).2.trans h1,RelPL.mono d ks _ h2,RelPL.mono d vs _ h3,h4⟩
 | .any,_,_=>trivial
theorem RelPL.mono(d:∀b,R b->R' b/\w'.heap[b]? =w.heap[b]?):∀(ps:List PV)(us:List Value),RelPL w R ps us->RelPL w' R' ps us
 |[],_,h=>h
 | c::cs,_,h=>by
   simp only[RelPL]at h ⊢;obtain⟨u,vs,e,h1,h2⟩:=h;exact⟨u,vs,e,RelP.mono d c u h1,RelPL.mono d cs vs h2⟩
end
theorem RelPL.length:∀{ps:List PV}{us:List Value},RelPL w R ps us->us.length=ps.length
 |[],_,h=>by simp only[RelPL]at h;simp[h]
 | c::cs,_,h=>by
   simp only[RelPL]at h;obtain⟨u,vs,rfl,_,h2⟩:=h;simp[RelPL.length h2]
theorem RelPL.get:∀{ps:List PV}{us:List Value},RelPL w R ps us->∀{i:Nat}{p:PV},ps[i]? =Sh p->∃u,us[i]? =Sh u/\RelP w R p u
 |[],_,_,i,p,hp=>by simp at hp
 | c::cs,_,h,i,p,hp=>by
   simp only[RelPL]at h;obtain⟨u,vs,rfl,h1,h2⟩:=h;cases i with
   |zero=>simp at hp;subst hp;exact⟨u,Vj,h1⟩
   |succ i=>simp at hp;obtain⟨x,hx,hr⟩:=RelPL.get h2 hp;exact⟨x,by simpa using hx,hr⟩
theorem RelPL.nil:RelPL w R [] []:=by simp[RelPL]
theorem RelPL.cons{p:PV}{ps:List PV}(h:RelP w R p u)(d:RelPL w R ps us):RelPL w R (p::ps) (u::us):=by
 simp only[RelPL];exact⟨u,us,O,h,d⟩
theorem RelPL.append:∀{ps qs:List PV}{us vs:List Value},RelPL w R ps us->RelPL w R qs vs->RelPL w R (ps++qs) (us++vs)
 |[],_,_,_,h,k=>by simp only[RelPL]at h;subst h;simpa using k
 | c::cs,_,_,_,h,k=>by
   simp only[RelPL]at h;obtain⟨u,xs,rfl,h1,h2⟩:=h;exact RelPL.cons h1 (RelPL.append h2 k)
theorem RelPL.take:∀{ps:List PV}{us:List Value}(n:Nat),RelPL w R ps us->RelPL w R (ps.take n) (us.take n)
 |[],_,n,h=>by simp only[RelPL]at h;subst h;simpa using RelPL.nil
 |c::cs,_,0,h=>by simpa using RelPL.nil
 | c::cs,_,n+1,h=>by
   simp only[RelPL]at h;obtain⟨u,xs,rfl,h1,h2⟩:=h;simpa using RelPL.cons h1 (RelPL.take n h2)
theorem RelPL.drop:∀{ps:List PV}{us:List Value}(n:Nat),RelPL w R ps us->RelPL w R (ps.drop n) (us.drop n)
 |[],_,n,h=>by simp only[RelPL]at h;subst h;simpa using RelPL.nil
 |c::cs,_,0,h=>by simpa using h
 | c::cs,_,n+1,h=>by
   simp only[RelPL]at h;obtain⟨u,xs,rfl,h1,h2⟩:=h;simpa using RelPL.drop n h2
theorem RelPL.set:∀{ps:List PV}{us:List Value}(i:Nat){p:PV}{u:Value},RelPL w R ps us->RelP w R p u->RelPL w R (ps.set i p) (us.set i u)
 |[],_,n,_,_,h,_=>by simp only[RelPL]at h;subst h;simpa using RelPL.nil
 | c::cs,_,0,_,_,h,k=>by
   simp only[RelPL]at h;obtain⟨u,xs,rfl,h1,h2⟩:=h;simpa using RelPL.cons k h2
 | c::cs,_,n+1,_,_,h,k=>by
   simp only[RelPL]at h;obtain⟨u,xs,rfl,h1,h2⟩:=h;simpa using RelPL.cons h1 (RelPL.set n h2 k)
end
inductive V where
 |pv (p:PV)
 |ptr (id off:Nat)
 |osl (id sz n:Nat)
 |tsl (id off n:Nat)
 |gsl (id sz n:Nat)
 |map (id:Nat)
 |agg (cs:List V)
 |tup (cs:List V)
 |fn (f:Fn) (first captured:List V)
 deriving Inhabited
abbrev Gm:=Nat->Option (Nat×Nat)
abbrev Av:=Nat->Bool
mutual
def Rel(w:World)(m:Gm)(av:Av)(R:Nat->Prop):V->Value->Prop
 | .pv p,u=>RelP w R p u
 | .ptr id off,u=>av id=S1/\∀b N,m id=Sh (b,N)->u= .pointer (Sh ⟨b,off,Sl⟩)
 | .osl id sz n,u=>av id=S1/\∀b N,m id=Sh (b,N)->∃c,u= .slice (Sh ⟨b,0,Sl⟩) n c/\n<=c/\c<=maxLen/\N=c*sz
 | .tsl id off n,u=>av id=S1/\∃A c,u= .slice A n c/\(0<n->∀b N,m id=Sh (b,N)->A=Sh ⟨b,off,Sl⟩)
 | .gsl id sz n,u=>av id=S1/\∃A c,u= .slice A n c/\n<=c/\c<=maxLen/\(n=0->A=Sl/\c=0/\m id=Sl)/\(0<n->∀b N,m id=Sh (b,N)->A=Sh ⟨b,0,Sl⟩/\N=c*sz)
 | .map id,u=>av id=S1/\∀b N,m id=Sh (b,N)->u= .map (Sh b)
 | .agg cs,u=>∃us:List Value,u= .agg us.toArray/\RelL w m av R cs us
 | .tup cs,u=>∃us:List Value,u= .tuple us.toArray/\RelL w m av R cs us
 | .fn f fs cs,u=>∃us vs:List Value,u= .func f us.toArray vs.toArray/\RelL w m av R fs us/\RelL w m av R cs vs
def RelL(w:World)(m:Gm)(av:Av)(R:Nat->Prop):List V->List Value->Prop
 |[],us=>us=[]
 |c::cs,us=>∃u vs,us=u::vs/\Rel w m av R c u/\RelL w m av R cs vs
end
theorem nI{a b:Option α}(h:∀x,a=Sh x->b=Sh x)(d:b=Sl):a=Sl:=by
 cases a with
 |none=>rfl
 |some x=>rw[h x O]at d;cases d
section
variable {w w':World}{R R':Nat->Prop}{m m':Gm}{av av':Av}
mutual
theorem Rel.mono(q:∀b,R b->R' b/\w'.heap[b]? =w.heap[b]?)(d:∀id x,av id=S1->m' id=Sh x->m id=Sh x)(l:∀id,av id=S1->av' id=S1):
  ∀(p:V)(u:Value),Rel w m av R p u->Rel w' m' av' R' p u
 | .pv p,u,h=>by simp only[Rel]at h ⊢; exact h.mono q
 | .ptr id off,_,h=>by simp only[Rel]at h ⊢; exact⟨l id h.1,λb N e=>h.2 b N (d _ _ h.1 e)⟩
 | .osl id sz n,_,h=>by simp only[Rel]at h ⊢; exact⟨l id h.1,λb N e=>h.2 b N (d _ _ h.1 e)⟩
 | .tsl id off n,_,h=>by
   simp only[Rel]at h ⊢;obtain⟨h0,A,c,e,h1⟩:=h;exact⟨l id h0,A,c,e,λhp b N e=>h1 hp b N (d _ _ h0 e)⟩
 | .gsl id sz n,_,h=>by
   simp only[Rel]at h ⊢;obtain⟨h0,A,c,e,h1,h2,h3,h4⟩:=h;exact⟨l id h0,A,c,e,h1,h2,λr=>⟨(h3 r).1,(h3 r).2.1,nI (λx=>d id x h0) (h3 r).2.2⟩,λhp b N e=>h4 hp b N (d _ _ h0 e)⟩
 | .map id,_,h=>by simp only[Rel]at h ⊢; exact⟨l id h.1,λb N e=>h.2 b N (d _ _ h.1 e)⟩
 | .agg cs,_,h=>by
   simp only[Rel]at h ⊢;obtain⟨us,e,h⟩:=h;exact⟨us,e,RelL.mono q d l cs us h⟩
 | .tup cs,_,h=>by
   simp only[Rel]at h ⊢;obtain⟨us,e,h⟩:=h;exact⟨us,e,RelL.mono q d l cs us h⟩
 | .fn f fs cs,_,h=>by
   simp only[Rel]at h ⊢;obtain⟨us,vs,e,h1,h2⟩:=h;exact⟨us,vs,e,RelL.mono q d l fs us h1,RelL.mono q d l cs vs h2⟩
theorem RelL.mono(d:∀b,R b->R' b/\w'.heap[b]? =w.heap[b]?)(l:∀id x,av id=S1->m' id=Sh x->m id=Sh x)(q:∀id,av id=S1->av' id=S1):
  ∀(ps:List V)(us:List Value),RelL w m av R ps us->RelL w' m' av' R' ps us
 |[],_,h=>by simpa only[RelL]using h
 | c::cs,_,h=>by
   simp only[RelL]at h ⊢;obtain⟨u,vs,e,h1,h2⟩:=h;exact⟨u,vs,e,Rel.mono d l q c u h1,RelL.mono d l q cs vs h2⟩
end
theorem RelL.length:∀{ps:List V}{us:List Value},RelL w m av R ps us->us.length=ps.length
 |[],_,h=>by simp only[RelL]at h;simp[h]
 | c::cs,_,h=>by
   simp only[RelL]at h;obtain⟨u,vs,rfl,_,h2⟩:=h;simp[RelL.length h2]
theorem RelL.get:∀{ps:List V}{us:List Value},RelL w m av R ps us->∀{i:Nat}{p:V},ps[i]? =Sh p->∃u,us[i]? =Sh u/\Rel w m av R p u
 |[],_,_,i,p,hp=>by simp at hp
 | c::cs,_,h,i,p,hp=>by
   simp only[RelL]at h;obtain⟨u,vs,rfl,h1,h2⟩:=h;cases i with
   |zero=>simp at hp;subst hp;exact⟨u,Vj,h1⟩
   |succ i=>simp at hp;obtain⟨x,hx,hr⟩:=RelL.get h2 hp;exact⟨x,by simpa using hx,hr⟩
theorem RelL.nil:RelL w m av R [] []:=by simp[RelL]
theorem RelL.cons{p:V}{ps:List V}(h:Rel w m av R p u)(d:RelL w m av R ps us):RelL w m av R (p::ps) (u::us):=by
 simp only[RelL];exact⟨u,us,O,h,d⟩
theorem RelL.append:∀{ps qs:List V}{us vs:List Value},RelL w m av R ps us->RelL w m av R qs vs->RelL w m av R (ps++qs) (us++vs)
 |[],_,_,_,h,k=>by simp only[RelL]at h;subst h;simpa using k
 | c::cs,_,_,_,h,k=>by
   simp only[RelL]at h;obtain⟨u,xs,rfl,h1,h2⟩:=h;exact RelL.cons h1 (RelL.append h2 k)
theorem RelL.take:∀{ps:List V}{us:List Value}(n:Nat),RelL w m av R ps us->RelL w m av R (ps.take n) (us.take n)
 |[],_,n,h=>by simp only[RelL]at h;subst h;simpa using RelL.nil
 |c::cs,_,0,h=>by simpa using RelL.nil
 | c::cs,_,n+1,h=>by
   simp only[RelL]at h;obtain⟨u,xs,rfl,h1,h2⟩:=h;simpa using RelL.cons h1 (RelL.take n h2)
theorem RelL.drop:∀{ps:List V}{us:List Value}(n:Nat),RelL w m av R ps us->RelL w m av R (ps.drop n) (us.drop n)
 |[],_,n,h=>by simp only[RelL]at h;subst h;simpa using RelL.nil
 |c::cs,_,0,h=>by simpa using h
 | c::cs,_,n+1,h=>by
   simp only[RelL]at h;obtain⟨u,xs,rfl,h1,h2⟩:=h;simpa using RelL.drop n h2
theorem RelL.set:∀{ps:List V}{us:List Value}(i:Nat){p:V}{u:Value},RelL w m av R ps us->Rel w m av R p u->RelL w m av R (ps.set i p) (us.set i u)
 |[],_,n,_,_,h,_=>by simp only[RelL]at h;subst h;simpa using RelL.nil
 | c::cs,_,0,_,_,h,k=>by
   simp only[RelL]at h;obtain⟨u,xs,rfl,h1,h2⟩:=h;simpa using RelL.cons k h2
 | c::cs,_,n+1,_,_,h,k=>by
   simp only[RelL]at h;obtain⟨u,xs,rfl,h1,h2⟩:=h;simpa using RelL.cons h1 (RelL.set n h2 k)
theorem RelL.ofP:∀{ps:List PV}{us:List Value},RelPL w R ps us->RelL w m av R (ps.map V.pv) us
 |[],_,h=>by simpa only[RelL,RelPL,SD]using h
 | c::cs,_,h=>by
   simp only[RelPL]at h;obtain⟨u,vs,rfl,h1,h2⟩:=h;exact RelL.cons (by simpa only[Rel]using h1) (RelL.ofP h2)
theorem RelL.toP:∀{ps:List PV}{us:List Value},RelL w m av R (ps.map V.pv) us->RelPL w R ps us
 |[],_,h=>by simpa only[RelL,RelPL,SD]using h
 | c::cs,_,h=>by
   simp only[bP,RelL]at h;obtain⟨u,vs,rfl,h1,h2⟩:=h;exact RelPL.cons (by simpa only[Rel]using h1) (RelL.toP h2)
end
inductive Ob where
 |cells (ty:TypeId) (cs:List PV)
 |mix (ty:TypeId) (cs:List V)
 |gro (ty:TypeId) (cs:List PV)
 |mp (ks vs:List PV)
 |it (s:ByteArray) (pos:Nat)
 |fro (ty:TypeId) (s:ByteArray)
 |mi (cur ks vs:List PV)
def Ob.real:Ob->Bool
 | .gro _ []=>S1
 |_=>Sm
def bI:Option Ob->Bool
 |some o=>o.real
 |none=>S1
def vP(w:World)(R:Nat->Prop)(b:Nat)(cur ks vs:List PV):Prop:=
 ∃(mb:Nat)(es:Array MapEntry)(clock:Nat)(seen:Array Nat)(l:List MapEntry),R mb/\w.heap[mb]? =Sh (.map es clock)/\db es.toList clock/\w.heap[b]? =Sh (.mapIter (Sh mb) clock seen clock)/\
  l.Perm (es.toList.filter λe=> !seen.contains e.born)/\RelPL w R ks (l.map (·.key))/\RelPL w R vs (l.map (·.val))/\
  (cur=[]\/∃e∈es.toList,seen.back? =Sh e.born/\RelPL w R cur [e.key,e.val])
theorem vP.mono{w':World}{R':Nat->Prop}{cur ks vs:List PV}(d:∀b,R b->R' b/\w'.heap[b]? =w.heap[b]?)(q:w'.heap[b]? =w.heap[b]?)(h:vP w R b cur ks vs):vP w' R' b cur ks vs:=by
 obtain⟨mb,es,clock,seen,l,h1,h2,h3,h4,h0,h5,h6,h7⟩:=h;refine⟨mb,es,clock,seen,l,(d _ h1).1,(d _ h1).2.trans h2,h3,q.trans h4,h0,h5.mono d,h6.mono d,?_⟩;rcases h7 with h|⟨e,h8,h9,h10⟩
 .exact .inl h
 .exact .inr ⟨e,h8,h9,h10.mono d⟩
def lz(w:World)(m:Gm)(av:Av)(R:Nat->Prop)(b N:Nat):Ob->Prop
 | .cells ty cs=>∃arr:Array Value,w.heap[b]? =Sh (.cells arr ty (0,0))/\arr.size=N/\cs.length<=N/\RelPL w R cs (arr.toList.take cs.length)
 | .gro ty cs=>∃arr:Array Value,w.heap[b]? =Sh (.cells arr ty (0,0))/\arr.size=N/\cs.length<=N/\RelPL w R cs (arr.toList.take cs.length)
 | .mix ty cs=>∃arr:Array Value,w.heap[b]? =Sh (.cells arr ty (0,0))/\arr.size=N/\cs.length<=N/\RelL w m av R cs (arr.toList.take cs.length)
 | .mp ks vs=>∃es clock,w.heap[b]? =Sh (.map es clock)/\RelPL w R ks (es.toList.map (·.key))/\RelPL w R vs (es.toList.map (·.val))/\db es.toList clock
 | .it s pos=>w.heap[b]? =Sh (.stringIter s pos)
 | .mi cur ks vs=>vP w R b cur ks vs
 | .fro ty s=>∃arr:Array Value,w.heap[b]? =Sh (.cells arr ty (0,s.size))/\arr.size=N/\s.size<=N/\arr.toList.take s.size=s.data.toList.map λc=> .int .u8 c.toNat
theorem lz.mono{w':World}{R':Nat->Prop}{m m':Gm}{av av':Av}{o:Ob}(l:∀b,R b->R' b/\w'.heap[b]? =w.heap[b]?)
  (q:∀id x,av id=S1->m' id=Sh x->m id=Sh x) (r:∀id,av id=S1->av' id=S1) (d:w'.heap[b]? =w.heap[b]?) (h:lz w m av R b N o):lz w' m' av' R' b N o:=by
 cases o with
 | cells ty cs=>
   obtain⟨arr,h1,h2,h3,h4⟩:=h;exact⟨arr,d.trans h1,h2,h3,h4.mono l⟩
 | mix ty cs=>
   obtain⟨arr,h1,h2,h3,h4⟩:=h;exact⟨arr,d.trans h1,h2,h3,h4.mono l q r⟩
 | gro ty cs=>
   obtain⟨arr,h1,h2,h3,h4⟩:=h;exact⟨arr,d.trans h1,h2,h3,h4.mono l⟩
 | mp ks vs=>
   obtain⟨es,clock,h1,h2,h3,h4⟩:=h;exact⟨es,clock,d.trans h1,h2.mono l,h3.mono l,h4⟩
 |it s pos=>exact d.trans h
 |mi cur ks vs=>exact vP.mono l d h
 |fro ty s=>obtain⟨arr,h1,h2⟩:=h;exact⟨arr,d.trans h1,h2⟩
def gInt(o:Obj):Prop:=∃(m:Int)(t:TypeId)(f:Nat×Nat),o= .cells #[.int .i64 m] t f
def gTab(k:IntKind)(zs:List Int)(o:Obj):Prop:=∃(t:TypeId)(f:Nat×Nat),o= .cells (zs.map (Value.int k)).toArray t f
def Lh(o:Obj):Prop:=∃(tp:TypeId)(p:Value)(t:TypeId)(f:Nat×Nat),o= .cells #[.iface tp p] t f
def glb:List (Nat×(Obj->Prop)):=[(0,gTab .u64 [1,10,100,1000,10000,100000,1000000,10000000,100000000,1000000000,10000000000,100000000000,1000000000000,10000000000000,100000000000000,1000000000000000,10000000000000000,100000000000000000,1000000000000000000,10000000000000000000]),(1,gInt),(2,Lh),(3,Lh)]
def ow(w:World)(R:Nat->Prop):Prop:=∀x∈glb,R x.1/\∃o,w.heap[x.1]? =Sh o/\x.2 o
theorem ow.mono{w':World}{R':Nat->Prop}(h:ow w R)(d:∀b,R b->R' b/\w'.heap[b]? =w.heap[b]?):ow w' R':=λx hx=>by
 obtain⟨h0,o,h1,h2⟩:=h x hx;exact⟨(d _ h0).1,o,(d _ h0).2.trans h1,h2⟩
structure RT(w:World)(F:Nat->Prop) where
 p:Nat->Prop
 g:ow w p
 d:∀b,p b->b<w.heap.size/\¬F b
 df:List Deferred:=[]
structure Ctx where
 P:Program
 m0:Gm
 w0:World
 F:Nat->Prop
 R0:RT w0 F
abbrev big:Nat:=9000
structure St where
 sl:Nat->V
 ob:Nat->Option Ob
 av:Av
structure Fr(F:Nat->Prop)(w w':World):Prop where
 os:w'.os=w.os
 tape:w'.tape=w.tape
 output:w'.output=w.output
 size:w.heap.size<=w'.heap.size
 block:∀k,k<w.heap.size->¬F k->w'.heap[k]? =w.heap[k]?
theorem Fr.refl(F:Nat->Prop)(w:World):Fr F w w:=⟨O,O,O,BY _,λ_ _ _=>rfl⟩
theorem Fr.OP{w':World}(h:Below w.heap.size w w')(F:Nat->Prop):Fr F w w':=⟨h.os,h.tape,h.output,h.size,λk hk _=>h.block k hk⟩
structure HR(C:Ctx)(m:Gm)(R:Nat->Prop)(ob:Nat->Option Ob)(av:Av)(w:World):Prop where
 dom:∀id,(m id).isSome=bI (ob id)
 free:∀id,av id=Sm->ob id=Sl
 obj:∀id o b N,ob id=Sh o->m id=Sh (b,N)->lz w m av R b N o
 inj:∀i j b N N',m i=Sh (b,N)->m j=Sh (b,N')->i=j
 own:∀id b N,m id=Sh (b,N)->b<w.heap.size/\¬R b/\(C.F b\/C.w0.heap.size<=b)
 rsz:∀b,R b->b<w.heap.size
 rfr:∀b,R b->C.R0.p b\/C.w0.heap.size<=b\/C.F b
 r0:∀b,C.R0.p b->R b
 frame:Fr C.F C.w0 w
 keep:∀id x,big<=id->m id=Sh x->C.m0 id=Sh x
 res:∀id,big<=id->av id=S1
theorem HR.dfs{m0:Gm}{w0:World}{F:Nat->Prop}{R0 R1:RT w0 F}{m:Gm}{ob:Nat->Option Ob}{av:Av}(h:HR ⟨P,m0,w0,F,R0⟩ m R ob av w)(e:R1.p=R0.p):HR ⟨P,m0,w0,F,R1⟩ m R ob av w:=
 ⟨h.dom,h.free,h.obj,h.inj,h.own,h.rsz,λb hb=>by have:=h.rfr b hb;simp only[e]at this ⊢; exact this,λb hb=>h.r0 b (by simp only[e]at hb;exact hb),h.frame,h.keep,h.res⟩
theorem HR.gi{C:Ctx}{m:Gm}{ob:Nat->Option Ob}{av:Av}(h:HR C m R ob av w):ow w R:=
 C.R0.g.mono λb hb=>⟨h.r0 b hb,h.frame.block b (C.R0.d b hb).1 (C.R0.d b hb).2⟩
end
variable{m:Gm}{C:Ctx}
section
def upd{α:Type}(f:Nat->α)(d:Nat)(v:α):Nat->α:=λt=>bif Nat.beq t d then v else f t
theorem aA(f:Nat->α)(d:Nat)(v:α):upd f d v d=v:=by simp[upd]
theorem aR(f:Nat->α){d t:Nat}(v:α)(h:t≠d):upd f d v t=f t:=by
 have:Nat.beq t d=S1:=by cases hb:Nat.beq t d;rfl;exact absurd (aJ hb) h
 simp[upd,this]
def fC:Value->PV
 | .int k n=> .int k n
 | .bool b=> .bool b
 | .string s=> .str s
 | .slice Sl 0 0=> .sl (Sh Sm) 0 []
 | .pointer Sl=> .nilptr
 | .map Sl=> .nilmap
 | .nilFunc=> .nilfn
 | .nilIface=> .niliface
 |_=> .any
def ofC:Value->PV
 | .agg cs=> .agg (cs.toList.map fC)
 |v=>fC v
theorem fc(w:World)(R:Nat->Prop):∀v,RelP w R (fC v) v:=by
 intro v;unfold fC;split<;>simp[RelP];exact⟨Sl,0,⟨O,O⟩,by simp[maxLen],O,O⟩
theorem xV(w:World)(R:Nat->Prop):∀v,RelP w R (ofC v) v:=by
 intro v;unfold ofC;split
 .rename_i cs;simp only[RelP];refine⟨cs.toList,Vj,?_⟩;generalize cs.toList=l;induction l with
  |nil=>simpa using RelPL.nil
  |cons x l ih=>simpa using RelPL.cons (fc w R x) ih
 .exact fc w R v
def St.ev(n:Nat)(σ:St):Operand->V
 | .tmp t=>bif Nat.blt t n then σ.sl t else .pv .any
 | .const c=> .pv (ofC c)
 | .global _=> .pv .any
 | .func f=> .pv (.fn (.func f) [] [])
def St.put(σ:St)(d:Option Tmp)(v:V):St:=match d with|some d=>{ σ with sl:=upd σ.sl d v } |none=>σ
structure SW(C:Ctx)(n:Nat)(σ:St)(a:Act)(w:World)(m:Gm)(R:Nat->Prop):Prop where
 hr:HR C m R σ.ob σ.av w
 df:a.defers=C.R0.df
 sz:a.tmps.size=n
 sl:∀t,t<n->Rel w m σ.av R (σ.sl t) (a.eval (.tmp t))
def SJ(C:Ctx)(n:Nat)(σ:St)(a:Act)(w:World):Prop:=∃m R,SW C n σ a w m R
section
variable {C:Ctx}{n:Nat}{σ τ:St}{a:Act}{w:World}{m:Gm}{R:Nat->Prop}
theorem SW.ev(h:SW C n σ a w m R)(x:Operand):Rel w m σ.av R (σ.ev n x) (a.eval x):=by
 cases x with
 | tmp t=>
   by_cases ht:t<n
   .have hb:Nat.blt t n=Sm:=by simpa[Tw]using ht
    simpa only[St.ev,hb,Sy]using h.sl t ht
   .have hb:Nat.blt t n=S1:=by cases e:Nat.blt t n;rfl;exact absurd (by simpa[Tw]using e) ht
    simp only[St.ev,hb,RR,Rel,RelP]
 |const c=>simpa only[St.ev,Rel,Act.eval]using xV w R c
 |global g=>simp only[St.ev,Rel,RelP]
 | func f=>
   simp only[St.ev,Rel,RelP,Act.eval];exact⟨[],[],O,by simp[RelPL],by simp[RelPL]⟩
theorem x6(a:Act)(d:Nat)(u:Value)(t:Nat):(a.put (Sh d) u).eval (.tmp t)=if d=t/\d<a.tmps.size then u else a.eval (.tmp t):=by
 simp only[Act.put,Act.eval,Sf,TE];by_cases h:d=t
 .subst h;by_cases h2:d<a.tmps.size<;>simp[h2]
 .simp[h]
theorem SW.put(h:SW C n σ a w m R)(d:Option Tmp){v:V}(q:Rel w m σ.av R v u):SW C n (σ.put d v) (a.put d u) w m R:=by
 cases d with
 |none=>exact h
 | some d=>
   refine⟨h.hr,h.df,by simpa[Act.put]using h.sz,λt ht=>?_⟩;rw[x6];show Rel w m σ.av R (upd σ.sl d v t) _;by_cases e:d=t
   .subst e;rw[aA,AT ⟨O,by rw[h.sz];exact ht⟩];exact q
   .rw[aR _ _ (λl=>e l.symm),dt (λl=>e l.1)];exact h.sl t ht
end
structure AW(C:Ctx)(n:Nat)(c:Code)(Q:Exit->St->Prop)(σ:St):Prop where
 go:∀a w,SJ C n σ a w->c.wp C.P (λex a' w'=>∃σ',Q ex σ'/\SJ C n σ' a' w') a w
def FC(K:St->Prop)(Q:Exit->St->Prop):Exit->St->Prop
 | .normal,σ=>K σ
 |e,σ=>Q e σ
def tV(id:Nat)(Q:Exit->St->Prop):Exit->St->Prop
 | .exit id',σ=>if id'=id then Q .normal σ else Q (.exit id') σ
 |e,σ=>Q e σ
section
variable {C:Ctx}{n:Nat}{Q:Exit->St->Prop}{σ τ:St}
theorem AW.mono{Q':Exit->St->Prop}(h:AW C n c Q σ)(d:∀e s,Q e s->Q' e s):AW C n c Q' σ:=
 ⟨λa w hs=>wp_mono (h.go a w hs) λe _ _ ⟨s,q,r⟩=>⟨s,d e s q,r⟩⟩
theorem Q3(h:Q .normal σ):AW C n .skip Q σ:=⟨λ_ _ hs=>wp_skip ⟨σ,h,hs⟩⟩
theorem AW.exit(h:Q (.exit id) σ):AW C n (.exit id) Q σ:=⟨λ_ _ hs=>wp_exit ⟨σ,h,hs⟩⟩
theorem AW.ret(h:Q .ret σ):AW C n .ret Q σ:=⟨λ_ _ hs=>wp_ret ⟨σ,h,hs⟩⟩
theorem Rh(h:AW C n x (FC (AW C n y Q) Q) σ):AW C n (.seq x y) Q σ:=by
 refine⟨λa w hs=>?_⟩;refine wp_seq (wp_mono (h.go a w hs) ?_);rintro e a' w' ⟨s,q,r⟩;cases e<;>first|exact AW.go q a' w' r|exact⟨s,q,r⟩
theorem AW.block(h:AW C n c (tV id Q) σ):AW C n (.block id c) Q σ:=by
 refine⟨λa w hs=>?_⟩;refine wp_block (wp_mono (h.go a w hs) ?_);rintro e a' w' ⟨s,q,r⟩;cases e with
 | exit id'=>
   simp only[tV]at q;simp only[Exit.inBlock];split
   .rename_i hid;rw[AT hid]at q;exact⟨s,q,r⟩
   .rename_i hid;rw[dt hid]at q;exact⟨s,q,r⟩
 |_=>exact⟨s,q,r⟩
theorem AW.jT{c:Operand}[Decidable p](hc:σ.ev n c= .pv (.bool (decide p)))(l:p->AW C n x Q σ)(q:¬p->AW C n y Q σ):AW C n (.cond c x y) Q σ:=by
 refine⟨λa w hs=>?_⟩;obtain⟨m,R,hw⟩:=hs;have d:=hw.ev c;rw[hc]at d;simp only[Rel,RelP]at d;exact wp_cond_split d (λe=>(l (Tm e)).go a w ⟨m,R,hw⟩) (λe=>(q (Tn e)).go a w ⟨m,R,hw⟩)
theorem AW.cond{c:Operand}{b:Bool}(hc:σ.ev n c= .pv (.bool b))(l:b=Sm->AW C n x Q σ)(q:b=S1->AW C n y Q σ):AW C n (.cond c x y) Q σ:=by
 refine⟨λa w hs=>?_⟩;obtain⟨m,R,hw⟩:=hs;have d:=hw.ev c;rw[hc]at d;simp only[Rel,RelP]at d;exact wp_cond_split d (λe=>(l e).go a w ⟨m,R,hw⟩) (λe=>(q e).go a w ⟨m,R,hw⟩)
def St.le(σ τ:St):Prop:=∀(C:Ctx)(n:Nat)(a:Act)(w:World),SJ C n σ a w->SJ C n τ a w
theorem Q4(d:σ.le τ)(h:AW C n c Q τ):AW C n c Q σ:=⟨λa w hs=>h.go a w (d C n a w hs)⟩
theorem AW.loop{X:Type}(st:X->St)(I:X->Prop)(μ:X->Nat)(x0:X)(B:σ.le (st x0))(D:I x0)
  (round:∀x,I x->AW C n c (FC (λs=>∃x',s.le (st x')/\I x'/\μ x'<μ x) Q) (st x)):AW C n (.loop c) Q σ:=by
 refine⟨λa w hs=>?_⟩;have d:∀k x,μ x=k->I x->∀a w,SJ C n (st x) a w->∀(b:Frame)(kk:List Item)(cs:List Frame),
   ∃e a' w',(∃σ',Q e σ'/\SJ C n σ' a' w')/\Arrives C.P (lone (b.at a (.code c:: .inLoop c::kk)) cs w) b kk cs e a' w':=by
  intro k;induction k using Nat.strongRecOn with
  | _ k ih=>
    intro x hk hx a w hs b kk cs;obtain⟨e,a₁,w₁,hq,harr⟩:=(round x hx).go a w hs b (.inLoop c::kk) cs;obtain⟨s,q,r⟩:=hq;cases e with
    | normal=>
      obtain⟨x',hl,hx',hlt⟩:=q;obtain⟨e₂,a₂,w₂,hq₂,harr₂⟩:=ih (μ x') (hk▸hlt) x' O hx' a₁ w₁ (hl C n a₁ w₁ r) b kk cs;exact⟨e₂,a₂,w₂,hq₂,.of_steps (Steps.trans harr (.one step_inLoop)) harr₂⟩
    |exit id=>exact⟨_,a₁,w₁,⟨s,q,r⟩,.pass (x:= .inLoop c) O (λ_ _=> .inl Vj) harr⟩
    |goto l=>exact⟨_,a₁,w₁,⟨s,q,r⟩,.pass (x:= .inLoop c) O (λ_ _=> .inl Vj) harr⟩
    |ret=>exact⟨_,a₁,w₁,⟨s,q,r⟩,.pass (x:= .inLoop c) O (λ_ _=> .inl Vj) harr⟩
    |panic ch=>exact⟨_,a₁,w₁,⟨s,q,r⟩,.pass (x:= .inLoop c) O (λ_ _=> .inl Vj) harr⟩
    |outgrown=>exact⟨_,a₁,w₁,⟨s,q,r⟩,.pass (x:= .inLoop c) O (λ_ _=> .inl Vj) harr⟩
 intro b kk cs;obtain⟨e,a',w',hq,harr⟩:=d _ x0 O D a w (B C n a w hs) b kk cs;exact⟨e,a',w',hq,.of_steps (.one step_loop) harr⟩
end
def OJ(C:Ctx)(n:Nat)(o:Oper)(K:St->Prop)(σ:St):Prop:=
 ∀a w Q,SJ C n σ a w->o.wp C.P a w (λa' w'=>∃σ',K σ'/\SJ C n σ' a' w') Q
structure OS where
 v:V
 wr:List (Nat×Option Ob):=[]
 nw:List Nat:=[]
def obL:List (Nat×Option Ob)->(Nat->Option Ob)->Nat->Option Ob
 |[],f,id=>f id
 |(i,o)::l,f,id=>bif Nat.beq id i then o else obL l f id
def avL:List Nat->Av->Av
 |[],f,id=>f id
 |i::l,f,id=>bif Nat.beq id i then S1 else avL l f id
def St.app(σ:St)(d:Option Tmp)(s:OS):St:=
 { sl:=match d with|some d=>upd σ.sl d s.v|none=>σ.sl,ob:=obL s.wr σ.ob,av:=avL s.nw σ.av }
def XJ(C:Ctx)(n:Nat)(o:Oper)(σ:St)(s:OS):Prop:=OJ C n o (λτ=>τ=σ.app o.dst s) σ
def V.gd:V->Option (Option Bool)
 | .pv (.bool b)=>Sh (Sh b)
 | .pv (.tup [])=>Sh Sl
 |_=>Sl
abbrev und:V:= .pv (.tup [])
theorem G4(w:World)(m:Gm)(av:Av)(R:Nat->Prop):Rel w m av R und undef:=by
 simp only[und,Rel,RelP];exact⟨[],O,RelPL.nil⟩
theorem V.rX{v:V}{b:Bool}(h:v= .pv (.bool b)):v.gd=Sh (Sh b):=by rw[h];rfl
def SK(C:Ctx)(n:Nat)(o:Oper)(K:St->Prop)(σ:St):Prop:=∀a w,SJ C n σ a w->∃s,K s/\SJ C n s (a.put o.dst undef) w
def RL(C:Ctx)(n:Nat)(ops:Array Oper):List Oper->(St->Prop)->St->Prop
 |[],K,σ=>K σ
 | o::os,K,σ=>
   match o.guard with
   |none=>OJ C n o (RL C n ops os K) σ
   |some (j,want)=>∃b,(∀a w,SJ C n σ a w->yielded ops a.tmps j=b)/\(b=Sh want->OJ C n o (RL C n ops os K) σ)/\(b≠Sh want->SK C n o (RL C n ops os K) σ)
section
variable {C:Ctx}{n:Nat}{Q:Exit->St->Prop}{σ τ:St}{ops:Array Oper}
theorem OJ.mono{o:Oper}{K K':St->Prop}(h:OJ C n o K σ)(d:∀s,K s->K' s):OJ C n o K' σ:=
 λa w Q hs=>Oper.wp_mono (λ_ _ ⟨s,q,r⟩=>⟨s,d s q,r⟩) (h a w Q hs)
theorem eO(h:SW C n σ a w m R){j:Nat}{b:Option Bool}(l:(σ.ev n (.tmp (((ops[j]?).bind (·.dst)).getD n))).gd=Sh b):yielded ops a.tmps j=b:=by
 have q:=h.ev (.tmp (((ops[j]?).bind (·.dst)).getD n));generalize σ.ev n (.tmp (((ops[j]?).bind (·.dst)).getD n))=v at l q;have r:∃u,a.eval (.tmp (((ops[j]?).bind (·.dst)).getD n))=u/\((∃c,u= .bool c/\b=Sh c)\/(u=undef/\b=Sl)):=by
  unfold V.gd at l;split at l
  .simp only[Rq]at l;simp only[Rel,RelP]at q;exact⟨_,q,.inl ⟨_,O,l.symm⟩⟩
  .simp only[Rq]at l;simp only[Rel,RelP]at q;obtain⟨us,hu,hr⟩:=q;simp only[RelPL]at hr;subst hr;exact⟨_,hu,.inr ⟨O,l.symm⟩⟩
  .cases l
 obtain⟨u,hu,hb⟩:=r;simp only[Act.eval]at hu;unfold yielded;cases hd:(ops[j]?).bind (·.dst)with
 | none=>
   rw[hd]at hu;simp only[Option.getD_none,Sf]at hu;rw[Array.getElem?_eq_none (by have:=h.sz;omega)]at hu;simp at hu;subst hu;rcases hb with⟨c,hc,_⟩|⟨_,rfl⟩
   .simp[undef]at hc
   .rfl
 | some d=>
   rw[hd]at hu;simp only[Ub,Sf]at hu;simp only[Option.bind_some];cases ht:a.tmps[d]? with
   | none=>
     rw[ht]at hu;simp at hu;subst hu;rcases hb with⟨c,hc,_⟩|⟨_,rfl⟩
     .simp[undef]at hc
     .rfl
   | some u'=>
     rw[ht]at hu;simp at hu;subst hu;rcases hb with⟨c,rfl,rfl⟩|⟨rfl,rfl⟩<;>rfl
theorem RL.sound(K:St->Prop):∀(os:List Oper)(k:Nat)(σ:St),ops.toList.drop k=os->RL C n ops os K σ->∀a w,SJ C n σ a w->∀Q:Exit->Act->World->Prop,
  (∀a w,(∃s,K s/\SJ C n s a w)->Q .normal a w)->wpOps C.P ops Q (List.range' k (ops.size-k)) a w:=by
 intro os;induction os with
 | nil=>
   intro k σ hd h a w hs Q hQ;have:ops.size-k=0:=by
    have:=ag List.length hd;simpa using this
   rw[this];simp only[List.range'_zero,wpOps];exact hQ a w ⟨σ,h,hs⟩
 | cons o os ih=>
   intro k σ hd h a w hs Q hQ;have q:k<ops.size:=by
    have:=ag List.length hd;simp at this;omega
   have r:ops[k]? =Sh o:=by
    have:=ag (·[0]?) hd;simpa using this
   have l:ops.toList.drop (k+1)=os:=by
    have:=ag (List.drop 1) hd;simpa[UL]using this
   have e:ops.size-k=(ops.size-(k+1))+1:=Vf;rw[e,List.range'_succ];have d:∀a' w',(∃s,RL C n ops os K s/\SJ C n s a' w')->wpOps C.P ops Q (List.range' (k+1) (ops.size-(k+1))) a' w':=by
    rintro a' w' ⟨s,hs',hr⟩;exact ih (k+1) s l hs' a' w' hr Q hQ
   simp only[wpOps,r];simp only[RL]at h;cases hg:o.guard with
   | none=>
     rw[hg]at h;simp only[Region.wanted,hg,UP];exact .inl (Oper.wp_mono d (h a w Q hs))
   | some jw=>
     obtain⟨j,want⟩:=jw;rw[hg]at h;obtain⟨b,hb,h1,h2⟩:=h;have B:=hb a w hs;simp only[Region.wanted,hg,B];by_cases hbw:b=Sh want
     .subst hbw;simp only[S9,UP];exact .inl (Oper.wp_mono d (h1 O a w Q hs))
     .have:(b==Sh want)=S1:=by simpa using hbw
      simp only[this,Sz,Up];exact d _ _ (h2 hbw a w hs)
theorem AW.region(h:RL C n ops ops.toList (Q .normal) σ):AW C n (.region id ops S1) Q σ:=by
 refine⟨λa w hs=>?_⟩;refine wp_region ?_;have:=RL.sound (Q .normal) ops.toList 0 σ Vj h a w hs (λex a' w'=>∃σ',Q ex σ'/\SJ C n σ' a' w') (λ_ _ x=>x);rw[List.range_eq_range'];simpa using this
theorem RL.step{o:Oper}{os:List Oper}{K:St->Prop}{s:OS}{d:Option Tmp}(l:o.guard=Sl)(q:o.dst=d)(r:XJ C n o σ s)(h:RL C n ops os K (σ.app d s)):RL C n ops (o::os) K σ:=by
 subst q;simp only[RL,l];exact r.mono λ_ e=>e▸h
theorem RL.stepG{o:Oper}{os:List Oper}{K:St->Prop}{s:OS}{d:Option Tmp}{j:Nat}{want:Bool}(l:o.guard=Sh (j,want))(q:o.dst=d)(r:σ.ev n (.tmp (((ops[j]?).bind (·.dst)).getD n))= .pv (.bool want))
  (B:XJ C n o σ s) (h:RL C n ops os K (σ.app d s)):RL C n ops (o::os) K σ:=by
 subst q;simp only[RL,l];exact⟨Sh want,λa w ⟨m,R,hw⟩=>eO hw (V.rX r),λ_=>B.mono λ_ e=>e▸h,λe=>absurd O e⟩
theorem RL.call{o:Oper}{os:List Oper}{K:St->Prop}(d:o.guard=Sl)(h:OJ C n o (RL C n ops os K) σ):RL C n ops (o::os) K σ:=by
 simp only[RL,d];exact h
end
end
section
theorem St.ib(σ:St)(d:Option Tmp)(v:V):σ.app d ⟨v,[],[]⟩=σ.put d v:=by
 cases d<;>rfl
section
variable {C:Ctx}{n:Nat}{σ:St}{dst:Option Tmp}{ty t t':TypeId}{pos:String}{after:Array Edge}{gd:Option (Nat×Bool)}{x y:Operand}
theorem XJ.val{o:Oper}{v:V}(h:∀a w m R,SW C n σ a w m R->∃u,(execOp a.eval o).run C.P w= .ok (.value u) w/\Rel w m σ.av R v u):XJ C n o σ ⟨v,[],[]⟩:=by
 rintro a w Q ⟨m,R,hw⟩;obtain⟨u,hrun,hrel⟩:=h a w m R hw;unfold Oper.wp;rw[hrun];exact⟨_,O,m,R,St.ib σ o.dst v▸hw.put o.dst hrel⟩
theorem lH:XJ C n ⟨dst,.move x,ty,pos,after,gd⟩ σ ⟨σ.ev n x,[],[]⟩:=
 .val λa w m R hw=>⟨a.eval x,O,hw.ev x⟩
theorem E1:XJ C n ⟨dst,.assign x,ty,pos,after,gd⟩ σ ⟨σ.ev n x,[],[]⟩:=
 .val λa w m R hw=>⟨a.eval x,O,hw.ev x⟩
theorem SW.pv(h:SW C n σ a w m R){x:Operand}{p:PV}(d:σ.ev n x= .pv p):RelP w R p (a.eval x):=by
 have:=h.ev x;rw[d]at this;simpa only[Rel]using this
theorem SW.int(h:SW C n σ a w m R){x:Operand}{k:IntKind}(d:σ.ev n x= .pv (.int k i)):a.eval x= .int k i:=by
 simpa only[RelP]using h.pv d
theorem SW.bool(h:SW C n σ a w m R){x:Operand}{b:Bool}(d:σ.ev n x= .pv (.bool b)):a.eval x= .bool b:=by
 simpa only[RelP]using h.pv d
theorem SW.str(h:SW C n σ a w m R){x:Operand}{s:ByteArray}(d:σ.ev n x= .pv (.str s)):a.eval x= .string s:=by
 simpa only[RelP]using h.pv d
theorem Nu{c x y:Operand}{b:Bool}(hc:σ.ev n c= .pv (.bool b)):XJ C n ⟨dst,.pick c x y,ty,pos,after,gd⟩ σ ⟨bif b then σ.ev n x else σ.ev n y,[],[]⟩:=
 .val λa w m R hw=>by
  refine⟨bif b then a.eval x else a.eval y,?_,?_⟩
  .simp only[execOp,hw.bool hc,asBool];cases b<;>rfl
  .cases b
   .exact hw.ev y
   .exact hw.ev x
def wA:PV->Value
 | .int k n=> .int k n
 | .bool b=> .bool b
 | .str s=> .string s
 |_=>undef
def PV.scal:PV->Bool
 | .int _ _| .bool _| .str _=>Sm
 |_=>S1
theorem XJ.lit{o:Oper}{p:PV}(d:p.scal=Sm)(h:∀a w m R,SW C n σ a w m R->(execOp a.eval o).run C.P w= .ok (.value (wA p)) w):XJ C n o σ ⟨.pv p,[],[]⟩:=
 .val λa w m R hw=>⟨wA p,h a w m R hw,by cases p<;>simp[PV.scal]at d<;>simp only[Rel,RelP,wA]⟩
def vA(op:BinOp)(k:IntKind)(a b:Int):Option PV:=
 match op with
 | .add=>Sh (.int k (k.wrap (a+b)))
 | .sub=>Sh (.int k (k.wrap (a-b)))
 | .mul=>Sh (.int k (k.wrap (a*b)))
 | .eql=>Sh (.bool (a==b))
 | .neq=>Sh (.bool (a !=b))
 | .lss=>Sh (.bool (decide (a<b)))
 | .leq=>Sh (.bool (decide (a<=b)))
 | .gtr=>Sh (.bool (decide (a>b)))
 | .geq=>Sh (.bool (decide (a>=b)))
 | .and=>Sh (.int k (k.wrap (BitVec.ofInt k.bits a&&&BitVec.ofInt k.bits b).toNat))
 | .or=>Sh (.int k (k.wrap (BitVec.ofInt k.bits a|||BitVec.ofInt k.bits b).toNat))
 | .xor=>Sh (.int k (k.wrap (BitVec.ofInt k.bits a^^^BitVec.ofInt k.bits b).toNat))
 | .andNot=>Sh (.int k (k.wrap (BitVec.ofInt k.bits a&&& ~~~ (BitVec.ofInt k.bits b)).toNat))
 |_=>Sl
theorem aC{op:BinOp}{k:IntKind}{p:PV}(r:σ.ev n x= .pv (.int k i))(B:σ.ev n y= .pv (.int k j))(d:vA op k i j=Sh p):
  XJ C n ⟨dst,.binOp op t x y t',ty,pos,after,gd⟩ σ ⟨.pv p,[],[]⟩:=
 .lit (by cases op<;>simp only[vA,Rq,reduceCtorEq]at d<;>subst d<;>rfl) λa w m R hw=>by
  have l:=hw.int r;have q:=hw.int B;cases op<;>simp only[vA,Rq,reduceCtorEq]at d<;>subst d<;>
   simp[execOp,l,q,eqGuard,binOp,Op.intArith,Op.intCmp,Op.intBits,wA]
theorem fy(h: -9223372036854775808<=i/\i<=9223372036854775807):IntKind.i64.wrap i=i:=IntWalk.i64_in _ h
theorem L4(d:σ.ev n x= .pv (.int .i64 i))(l:σ.ev n y= .pv (.int .i64 j))(h: -9223372036854775808<=i+j/\i+j<=9223372036854775807):
  XJ C n ⟨dst,.binOp .add t x y t',ty,pos,after,gd⟩ σ ⟨.pv (.int .i64 (i+j)),[],[]⟩:=
 aC d l (by simp only[vA,fy h])
theorem L3(d:σ.ev n x= .pv (.int .i64 i))(l:σ.ev n y= .pv (.int .i64 j))(h: -9223372036854775808<=i-j/\i-j<=9223372036854775807):
  XJ C n ⟨dst,.binOp .sub t x y t',ty,pos,after,gd⟩ σ ⟨.pv (.int .i64 (i-j)),[],[]⟩:=
 aC d l (by simp only[vA,fy h])
theorem QK(d:σ.ev n x= .pv (.int .i64 i))(l:σ.ev n y= .pv (.int .i64 j))(h: -9223372036854775808<=i*j/\i*j<=9223372036854775807):
  XJ C n ⟨dst,.binOp .mul t x y t',ty,pos,after,gd⟩ σ ⟨.pv (.int .i64 (i*j)),[],[]⟩:=
 aC d l (by simp only[vA,fy h])
theorem uU{k:IntKind}(d:σ.ev n x= .pv (.int k i))(l:σ.ev n y= .pv (.int k j))(h:j≠0):
  XJ C n ⟨dst,.binOp .quo t x y t',ty,pos,after,gd⟩ σ ⟨.pv (.int k (k.wrap (i.tdiv j))),[],[]⟩:=
 .lit O λa w m R hw=>by simp[execOp,hw.int d,hw.int l,eqGuard,binOp,Op.intDiv,h,wA]
theorem oW{k:IntKind}(d:σ.ev n x= .pv (.int k i))(l:σ.ev n y= .pv (.int k j))(h:j≠0):
  XJ C n ⟨dst,.binOp .rem t x y t',ty,pos,after,gd⟩ σ ⟨.pv (.int k (i.tmod j)),[],[]⟩:=
 .lit O λa w m R hw=>by simp[execOp,hw.int d,hw.int l,eqGuard,binOp,Op.intDiv,h,wA]
theorem Lf{k k':IntKind}(d:σ.ev n x= .pv (.int k i))(l:σ.ev n y= .pv (.int k' j))(h:0<=j):
  XJ C n ⟨dst,.binOp .shl t x y t',ty,pos,after,gd⟩ σ ⟨.pv (.int k (k.wrap (i*2^(min j.toNat k.bits)))),[],[]⟩:=
 .lit O λa w m R hw=>by simp[execOp,hw.int d,hw.int l,eqGuard,binOp,Op.shift,Int.not_lt.2 h,wA]
theorem C1{k k':IntKind}(d:σ.ev n x= .pv (.int k i))(l:σ.ev n y= .pv (.int k' j))(h:0<=j):
  XJ C n ⟨dst,.binOp .shr t x y t',ty,pos,after,gd⟩ σ ⟨.pv (.int k (i.fdiv (2^(min j.toNat k.bits)))),[],[]⟩:=
 .lit O λa w m R hw=>by simp[execOp,hw.int d,hw.int l,eqGuard,binOp,Op.shift,Int.not_lt.2 h,wA]
def binS(op:BinOp)(a b:ByteArray):Option PV:=
 match op with
 | .eql=>Sh (.bool (a.toList==b.toList))
 | .neq=>Sh (.bool !(a.toList==b.toList))
 | .lss=>Sh (.bool (Op.bytesLess a.toList b.toList))
 | .leq=>Sh (.bool (Op.bytesLess a.toList b.toList||a.toList==b.toList))
 | .gtr=>Sh (.bool !(Op.bytesLess a.toList b.toList||a.toList==b.toList))
 | .geq=>Sh (.bool !(Op.bytesLess a.toList b.toList))
 |_=>Sl
theorem dv{op:BinOp}{i j:ByteArray}{p:PV}(r:σ.ev n x= .pv (.str i))(B:σ.ev n y= .pv (.str j))(d:binS op i j=Sh p):
  XJ C n ⟨dst,.binOp op t x y t',ty,pos,after,gd⟩ σ ⟨.pv p,[],[]⟩:=
 .lit (by cases op<;>simp only[binS,Rq,reduceCtorEq]at d<;>subst d<;>rfl) λa w m R hw=>by
  have l:=hw.str r;have q:=hw.str B;cases op<;>simp only[binS,Rq,reduceCtorEq]at d<;>subst d<;>
   simp[execOp,l,q,eqGuard,binOp,Op.stringOp,wA]
theorem yF{i j:ByteArray}(d:σ.ev n x= .pv (.str i))(l:σ.ev n y= .pv (.str j))(h:i.size+j.size<=9223372036854775807):
  XJ C n ⟨dst,.binOp .add t x y t',ty,pos,after,gd⟩ σ ⟨.pv (.str (i++j)),[],[]⟩:=
 .val λa w m R hw=>⟨.string (i++j),by
  have q:IntKind.i64.max=9223372036854775807:=Vh;simp[execOp,hw.str d,hw.str l,eqGuard,binOp,Op.stringOp];omega,by simp only[Rel,RelP]⟩
theorem NL{i j:Bool}(d:C.P.underlying t=Sh .bool)(l:σ.ev n x= .pv (.bool i))(q:σ.ev n y= .pv (.bool j)):
  XJ C n ⟨dst,.binOp .eql t x y t',ty,pos,after,gd⟩ σ ⟨.pv (.bool (i==j)),[],[]⟩:=
 .val λa w m R hw=>⟨.bool (i==j),by
  simp[execOp,hw.bool l,hw.bool q,eqGuard,run_eql_bool _ _ _ _ d],by simp only[Rel,RelP]⟩
theorem MR{i j:Bool}(d:C.P.underlying t=Sh .bool)(l:σ.ev n x= .pv (.bool i))(q:σ.ev n y= .pv (.bool j)):
  XJ C n ⟨dst,.binOp .neq t x y t',ty,pos,after,gd⟩ σ ⟨.pv (.bool (i !=j)),[],[]⟩:=
 .val λa w m R hw=>⟨.bool (i !=j),by
  simp[execOp,hw.bool l,hw.bool q,eqGuard,run_neq_bool _ _ _ _ d];cases i<;>cases j<;>rfl,by simp only[Rel,RelP]⟩
theorem DH{b:Bool}{cs:List PV}(l:C.P.underlying t=Sh (.slice e))(q:σ.ev n x= .pv (.sl (Sh b) k cs)):
  XJ C n ⟨dst,.binOp .eql t x (.const (.slice Sl 0 0)) t',ty,pos,after,gd⟩ σ ⟨.pv (.bool b),[],[]⟩:=
 .val λa w m R hw=>by
  have:=hw.pv q;simp only[RelP]at this;obtain⟨A,c,e,_,_,d,_⟩:=this;have d:=d b O;have hc:a.eval (.const (.slice Sl 0 0))= .slice Sl 0 0:=rfl;exact⟨.bool b,by simp[execOp,e,eqGuard,binOp,hc,run_equal_slice_nil _ _ _ _ _ _ l,d],by simp only[Rel,RelP]⟩
theorem De{b:Bool}{cs:List PV}(l:C.P.underlying t=Sh (.slice e))(q:σ.ev n x= .pv (.sl (Sh b) k cs)):
  XJ C n ⟨dst,.binOp .neq t x (.const (.slice Sl 0 0)) t',ty,pos,after,gd⟩ σ ⟨.pv (.bool (!b)),[],[]⟩:=
 .val λa w m R hw=>by
  have:=hw.pv q;simp only[RelP]at this;obtain⟨A,c,e,_,_,d,_⟩:=this;have d:=d b O;have hc:a.eval (.const (.slice Sl 0 0))= .slice Sl 0 0:=rfl;exact⟨.bool (!b),by simp[execOp,e,eqGuard,binOp,hc,run_equal_slice_nil _ _ _ _ _ _ l,d],by simp only[Rel,RelP]⟩
theorem Qz{b:Bool}(d:σ.ev n x= .pv (.bool b)):XJ C n ⟨dst,.unOp .not t x,ty,pos,after,gd⟩ σ ⟨.pv (.bool (!b)),[],[]⟩:=
 .val λa w m R hw=>⟨.bool (!b),by simp[execOp,hw.bool d,Op.unary],by simp only[Rel,RelP]⟩
theorem Ll(d:σ.ev n x= .pv (.int .i64 i))(h: -9223372036854775807<=i)(l:i<=9223372036854775807):XJ C n ⟨dst,.unOp .neg t x,ty,pos,after,gd⟩ σ ⟨.pv (.int .i64 (-i)),[],[]⟩:=
 .val λa w m R hw=>⟨.int .i64 (-i),by
  have:=fy (i:= -i) Vf;simp[execOp,hw.int d,Op.unary,Op.intArith,this],by simp only[Rel,RelP]⟩
theorem iM{k k':IntKind}{src d:TypeId}{sd:TypeDesc}(l:C.P.underlying src=Sh sd)(q:C.P.underlying d=Sh (.int k'))(r:σ.ev n x= .pv (.int k i)):
  XJ C n ⟨dst,.convert src d x,ty,pos,after,gd⟩ σ ⟨.pv (.int k' (k'.wrap i)),[],[]⟩:=
 .val λa w m R hw=>⟨.int k' (k'.wrap i),by
  simp only[execOp,hw.int r,convert,Sem.run_bind,run_underlying l,run_underlying q,Result.andThen_ok];cases sd<;>simp[Conv.intToInt],by simp only[Rel,RelP]⟩
theorem cG{ps:List PV}{p:PV}{i:Nat}(d:σ.ev n x= .pv (.tup ps))(l:ps[i]? =Sh p):XJ C n ⟨dst,.extract x i,ty,pos,after,gd⟩ σ ⟨.pv p,[],[]⟩:=
 .val λa w m R hw=>by
  have:=hw.pv d;simp only[RelP]at this;obtain⟨us,e,hl⟩:=this;obtain⟨u,hu,hr⟩:=hl.get l;exact⟨u,by simp[execOp,e,Instr.extract,hu],by simpa only[Rel]using hr⟩
theorem A6{ps:List V}{p:V}{i:Nat}(d:σ.ev n x= .tup ps)(l:ps[i]? =Sh p):XJ C n ⟨dst,.extract x i,ty,pos,after,gd⟩ σ ⟨p,[],[]⟩:=
 .val λa w m R hw=>by
  have:=hw.ev x;rw[d]at this;simp only[Rel]at this;obtain⟨us,e,hl⟩:=this;obtain⟨u,hu,hr⟩:=hl.get l;exact⟨u,by simp[execOp,e,Instr.extract,hu],hr⟩
theorem Ep{s:ByteArray}(d:C.P.underlying t=Sh .string)(l:σ.ev n x= .pv (.str s)):
  XJ C n ⟨dst,.call { callee:= .builtin .len,args:= #[x],argTypes:= #[t] },ty,pos,after,gd⟩ σ ⟨.pv (.int .i64 s.size),[],[]⟩:=
 .val λa w m R hw=>⟨.int .i64 s.size,by simp[execOp,resolve,invoke,builtin,Builtin.len_,hw.str l,run_underlying d,goInt],by simp only[Rel,RelP]⟩
theorem Qh{b:Option Bool}{cs:List PV}(d:C.P.underlying t=Sh (.slice e))(l:σ.ev n x= .pv (.sl b k cs)):
  XJ C n ⟨dst,.call { callee:= .builtin .len,args:= #[x],argTypes:= #[t] },ty,pos,after,gd⟩ σ ⟨.pv (.int .i64 k),[],[]⟩:=
 .val λa w m R hw=>by
  have:=hw.pv l;simp only[RelP]at this;obtain⟨A,c,e,_⟩:=this;exact⟨.int .i64 k,by simp[execOp,resolve,invoke,builtin,Builtin.len_,e,run_underlying d,goInt],by simp only[Rel,RelP]⟩
theorem Oa{o:Ob}(q:C.P.underlying t=Sh (.slice e))(r:σ.ev n x= .osl id sz k)(B:σ.ob id=Sh o)(l:o.real=Sm:=by rfl):
  XJ C n ⟨dst,.call { callee:= .builtin .len,args:= #[x],argTypes:= #[t] },ty,pos,after,gd⟩ σ ⟨.pv (.int .i64 k),[],[]⟩:=
 .val λa w m R hw=>by
  have:=hw.ev x;rw[r]at this;simp only[Rel]at this;have d:=hw.hr.dom id;rw[B]at d;replace d:=d.trans l;obtain⟨⟨b,N⟩,hm⟩:=RQ.1 d;obtain⟨c,e,_⟩:=this.2 b N hm;exact⟨.int .i64 k,by simp[execOp,resolve,invoke,builtin,Builtin.len_,e,run_underlying q,goInt],by simp only[Rel,RelP]⟩
theorem Mf(d:C.P.underlying t=Sh (.slice e))(l:σ.ev n x= .gsl id sz k):
  XJ C n ⟨dst,.call { callee:= .builtin .len,args:= #[x],argTypes:= #[t] },ty,pos,after,gd⟩ σ ⟨.pv (.int .i64 k),[],[]⟩:=
 .val λa w m R hw=>by
  have:=hw.ev x;rw[l]at this;simp only[Rel]at this;obtain⟨_,A,c,e,_⟩:=this;exact⟨.int .i64 k,by simp[execOp,resolve,invoke,builtin,Builtin.len_,e,run_underlying d,goInt],by simp only[Rel,RelP]⟩
theorem AK{k:IntKind}(d:σ.ev n x= .pv (.int k i))(l:σ.ev n y= .pv (.int k j)):
  XJ C n ⟨dst,.call { callee:= .builtin .max,args:= #[x,y],argTypes:= #[t,t'] },ty,pos,after,gd⟩ σ ⟨.pv (.int k (if j>i then j else i)),[],[]⟩:=
 .val λa w m R hw=>⟨.int k (if j>i then j else i),by simp[execOp,resolve,invoke,builtin,Builtin.max_,Builtin.max2,hw.int d,hw.int l],by simp only[Rel,RelP]⟩
theorem Li{k:IntKind}(d:σ.ev n x= .pv (.int k i))(l:σ.ev n y= .pv (.int k j)):
  XJ C n ⟨dst,.call { callee:= .builtin .min,args:= #[x,y],argTypes:= #[t,t'] },ty,pos,after,gd⟩ σ ⟨.pv (.int k (if j<i then j else i)),[],[]⟩:=
 .val λa w m R hw=>⟨.int k (if j<i then j else i),by simp[execOp,resolve,invoke,builtin,Builtin.min_,Builtin.min2,hw.int d,hw.int l],by simp only[Rel,RelP]⟩
end
end
section
def Row(w:World)(R:Nat->Prop)(A:Option Addr)(xs:List Value):Prop:=
 xs≠[]->∃b off:Nat,A=Sh ⟨b,off,Sl⟩/\R b/\b<w.heap.size/\∀j,j<xs.length->w.cell? ⟨b,off+j,Sl⟩=xs[j]?
abbrev Oy(l:List ByteArray):List Value:=l.map Value.string
def Any(_:Nat):Prop:=True
section
variable {w w':World}{R R':Nat->Prop}{A:Option Addr}{xs:List Value}
theorem Row.nil:Row w R A []:=λh=>absurd O h
theorem Row.at_(h:Row w R A xs)(d:k<xs.length):
  ∃b off:Nat,A=Sh ⟨b,off,Sl⟩/\R b/\b<w.heap.size/\∀j,j<xs.length->w.cell? ⟨b,off+j,Sl⟩=xs[j]? :=
 h (by rintro rfl;simp at d)
theorem Row.LW{l:List ByteArray}(h:Row w R A (Oy l)){k:Nat}(d:k<l.length):
  ∃b off:Nat,A=Sh ⟨b,off,Sl⟩/\b<w.heap.size/\w.cell? ⟨b,off+k,Sl⟩=Sh (.string l[k]):=by
 obtain⟨b,off,e,_,hb,hc⟩:=h.at_ (k:=k) (by simpa using d);exact⟨b,off,e,hb,by rw[hc k (by simpa using d)];simp[d]⟩
theorem Row.keep(h:Row w R A xs)(q:w.heap.size<=w'.heap.size)
  (l:∀b off,A=Sh ⟨b,off,Sl⟩->R b->b<w.heap.size->w'.heap[b]? =w.heap[b]?):Row w' R A xs:=by
 intro hne;obtain⟨b,off,rfl,hR,hlt,hc⟩:=h hne;have d:=l b off O hR hlt;exact⟨b,off,O,hR,Vf,λj hj=>by rw[World.cell?_of_block (w:=w) (a:=⟨b,off+j,Sl⟩) d];exact hc j hj⟩
theorem Row.alloc(h:Row w R A xs)(o:Obj):Row (w.alloc o) R A xs:=
 h.keep Vj λb _ _ _ hlt=>Below.heap_alloc w o b hlt
end
theorem vQ{base:Nat}{v:Value}{xs:List Value}(h:w.ownsRow base e size v n xs):∃A c,v= .slice A n c/\n<=c/\c<=maxLen:=by
 rcases h.2 with⟨rfl,rfl⟩|⟨g,cap,cur,rfl,_,_,hnc,hm,_⟩
 .exact⟨Sl,0,O,BY _,by simp[maxLen]⟩
 .exact⟨_,cap,O,hnc,hm⟩
theorem nN{W:World}{o:Oper}{K:Act->World->Prop}{Q:Exit->Act->World->Prop}(s x:Operand)(t:TypeId)
  (D:o.op= .call { callee:= .builtin .append,args:= #[s,x],argTypes:= #[t,t] })
  (base:Nat) (e:TypeId) (z:Value) (size bytes:Nat) (ht:P.underlying t=Sh (.slice e)) (hinfo:(P.info? e).map (λi=>(i.zero,i.size,i.bytes))=Sh (Sh z,size,bytes))
  (hzs:z.cells.size=size) (hsz:0<size) (hby:bytes<=1000)
  (v:Value) (n m c:Nat) (A:Option Addr) (xs news:List Value) (hs:a.eval s=v) (hx:a.eval x= .slice A m c) (hown:W.ownsRow base e size v n xs) {R:Nat->Prop} (hr:Row W R A news)
  (hl:news.length=m*size) (h1:∀u∈news,u.oneCell'=Sm) (hb:n+m<=1000000000) (hbase:base<=W.heap.size)
  (h:∀A' c' w',w'.ownsRow base e size (.slice A' (n+m) c') (n+m) (xs++news)->W.grownBy w' v.ownBlock->((Value.slice A' (n+m) c').ownBlock=v.ownBlock\/∃g,(Value.slice A' (n+m) c').ownBlock=Sh g/\W.heap.size<=g)->K (a.put o.dst (.slice A' (n+m) c')) w'):
  o.wp P a W K Q:=by
 obtain⟨i,hi,hz,hsize,hbytes⟩:=info_parts hinfo;have q:(n+m)*bytes<=140737488355328:=IT (Sw hb hby) Vh;unfold Oper.wp execOp;cases A with
 | none=>
   have r:news=[]:=by
    rcases Classical.em (news=[])with h0|h0
    .exact h0
    .obtain⟨b,off,hh,_⟩:=hr h0;cases hh
   subst r;have E:m=0:=by
    rcases SY m with h0|h0
    .exact h0
    .have:=U6 h0 hsz;simp at hl;omega
   subst E;have d:(Builtin.append_ #[t,t] o.type #[v,.slice Sl 0 c]).run P W= .ok v W:=by
    rcases hown.2 with⟨rfl,rfl⟩|⟨g,cap,cur,rfl,_,_,hnc,_⟩
    .simp[Builtin.append_,run_underlying ht,sizeOf,typeInfo,hi,Builtin.lenOf,Builtin.firstCells]
    .simp[Builtin.append_,run_underlying ht,sizeOf,typeInfo,hi,Builtin.lenOf,Builtin.firstCells,hnc,storeCells]
   simp only[D,resolve,invoke,builtin,Sem.run_bind,Sem.run_pure,Result.andThen_ok,Ur,bP,SD,hs,hx,d];obtain⟨A',c',rfl,_,_⟩:=vQ hown;exact h A' c' W (by simpa using hown) (World.grownBy.refl _ _) (.inl O)
 | some ad=>
   have l:∀j u,news[j]? =Sh u->W.cell? (ad.add j)=Sh u:=by
    intro j u hu;have B:j<news.length:=(Rp.1 hu).1;obtain⟨b,off,hh,_,_,hc⟩:=hr (by rintro rfl;simp at B);cases hh;rw[Addr.add_lit,hc j B];exact hu
   obtain⟨v',w',d,h2,h3,_,h5⟩:=run_append_own_at (P:=P) W base t o.type e i z size bytes ht hi hz hsize hbytes hzs hsz v n xs hown ad m c news
    hl l h1 (by simp only[maxLen];omega) q hbase
   simp only[D,resolve,invoke,builtin,Sem.run_bind,Sem.run_pure,Result.andThen_ok,Ur,bP,SD,hs,hx,d];obtain⟨A',c',rfl,_,_⟩:=vQ h2;refine h A' c' w' h2 h3 ?_;rcases h5 with h5|h5
   .exact .inl h5
   .exact .inr ⟨_,h5,BY _⟩
theorem dH{k:IntKind}{a b:Int}(h:a=b):Ending.returned (.int k a)= .returned (.int k b):=by rw[h]
end
section
def V.cells:V->List V
 | .agg cs=>cs
 | .pv (.agg ps)=>ps.map .pv
 |v=>[v]
mutual
def PV.leaf:PV->Bool
 | .agg _| .tup _| .any=>S1
 |_=>Sm
end
def V.leaf:V->Bool
 | .pv p=>p.leaf
 | .agg _| .tup _=>S1
 |_=>Sm
section
variable {w w':World}{m m':Gm}{av av':Av}{R R':Nat->Prop}
theorem RelP.leaf{p:PV}(h:RelP w R p u)(d:p.leaf=Sm):u.oneCell'=Sm:=by
 cases p<;>simp only[PV.leaf,Sz]at d<;>simp only[RelP]at h
 case sl=>obtain⟨A,c,rfl,_⟩:=h;rfl
 case rp=>obtain⟨b,o,us,rfl,_⟩:=h;rfl
 case fn=>obtain⟨b,o,rfl,_⟩:=h;rfl
 case iface=>obtain⟨x,rfl,_⟩:=h;rfl
 case mp=>obtain⟨x,rfl,_⟩:=h;rfl
 all_goals (subst h;rfl)
theorem Rel.cells{v:V}(h:Rel w m av R v u)(B:∀c∈v.cells,c.leaf=Sm)(r:∀id o,v= .ptr id o->(m id).isSome)(l:∀id s k,v= .osl id s k->(m id).isSome)(q:∀id,v= .map id->(m id).isSome):
  RelL w m av R v.cells u.cells.toList:=by
 have d:u.oneCell'=Sm->RelL w m av R [v] u.cells.toList:=by
  intro h1;have:u.cells= #[u]:=by cases u<;>simp[Value.oneCell']at h1<;>rfl
  rw[this];exact RelL.cons h RelL.nil
 cases v with
 | agg cs=>
   simp only[Rel]at h;obtain⟨us,rfl,h⟩:=h;simpa[V.cells,Value.cells]using h
 | pv p=>
   cases p with
   | agg ps=>
     simp only[Rel,RelP]at h;obtain⟨us,rfl,h⟩:=h;simpa[V.cells,Value.cells]using RelL.ofP h
   | _=>
     refine d ?_;simp only[Rel]at h;exact h.leaf (by simpa[V.cells,V.leaf]using B)
 |tup cs=>simp[V.cells,V.leaf]at B
 | fn f a b=>
   refine d ?_;simp only[Rel]at h;obtain⟨us,vs,rfl,_⟩:=h;rfl
 | ptr id o=>
   refine d ?_;obtain⟨⟨b,N⟩,hm⟩:=RQ.1 (r id o O);simp only[Rel]at h;rw[h.2 b N hm];rfl
 | osl id s k=>
   refine d ?_;obtain⟨⟨b,N⟩,hm⟩:=RQ.1 (l id s k O);simp only[Rel]at h;obtain⟨c,e,_⟩:=h.2 b N hm;rw[e];rfl
 | gsl id s k=>
   refine d ?_;simp only[Rel]at h;obtain⟨_,A,c,e,_⟩:=h;rw[e];rfl
 | tsl id s k=>
   refine d ?_;simp only[Rel]at h;obtain⟨_,A,c,e,_⟩:=h;rw[e];rfl
 | map id=>
   refine d ?_;obtain⟨⟨b,N⟩,hm⟩:=RQ.1 (q id O);simp only[Rel]at h;rw[h.2 b N hm];rfl
end
section
variable {C:Ctx}{n:Nat}{σ:St}{a:Act}{w:World}{m:Gm}{R:Nat->Prop}
theorem SW.world(h:SW C n σ a w m R){w':World}{m':Gm}{R':Nat->Prop}{ob':Nat->Option Ob}{av':Av}(d:HR C m' R' ob' av' w')(l:∀b,R b->R' b/\w'.heap[b]? =w.heap[b]?)
  (q:∀id x,σ.av id=S1->m' id=Sh x->m id=Sh x) (r:∀id,σ.av id=S1->av' id=S1):SW C n ⟨σ.sl,ob',av'⟩ a w' m' R':=
 ⟨d,h.df,h.sz,λt ht=>(h.sl t ht).mono l q r⟩
theorem SW.live(h:SW C n σ a w m R){o:Ob}(q:σ.ob id=Sh o)(l:o.real=Sm:=by rfl):∃b N,m id=Sh (b,N)/\lz w m σ.av R b N o:=by
 have d:=h.hr.dom id;rw[q]at d;replace d:=d.trans l;obtain⟨⟨b,N⟩,hm⟩:=RQ.1 d;exact⟨b,N,hm,h.hr.obj id o b N q hm⟩
theorem SW.ptr(h:SW C n σ a w m R){x:Operand}{o:Ob}(l:σ.ev n x= .ptr id off)(q:σ.ob id=Sh o)(d:o.real=Sm:=by rfl):
  ∃b N,a.eval x= .pointer (Sh ⟨b,off,Sl⟩)/\m id=Sh (b,N)/\lz w m σ.av R b N o:=by
 obtain⟨b,N,hm,hr⟩:=h.live q d;have:=h.ev x;rw[l]at this;simp only[Rel]at this;exact⟨b,N,this.2 b N hm,hm,hr⟩
theorem SW.osl(h:SW C n σ a w m R){x:Operand}{o:Ob}(l:σ.ev n x= .osl id sz k)(q:σ.ob id=Sh o)(d:o.real=Sm:=by rfl):
  ∃b N c,a.eval x= .slice (Sh ⟨b,0,Sl⟩) k c/\k<=c/\c<=maxLen/\N=c*sz/\m id=Sh (b,N)/\lz w m σ.av R b N o:=by
 obtain⟨b,N,hm,hr⟩:=h.live q d;have:=h.ev x;rw[l]at this;simp only[Rel]at this;obtain⟨c,e,h1,h2,h3⟩:=this.2 b N hm;exact⟨b,N,c,e,h1,h2,h3,hm,hr⟩
theorem SW.alloc(h:SW C n σ a w m R)(l:σ.av id=Sm)(arr:Array Value)(ty:TypeId)(o:Ob)
  (V:∀(w':World)(m':Gm)(av':Av),(∀b,R b->R b/\w'.heap[b]? =w.heap[b]?)->(∀i x,σ.av i=S1->m' i=Sh x->m i=Sh x)->(∀i,σ.av i=S1->av' i=S1)->
   w'.heap[w.heap.size]? =Sh (.cells arr ty (0,0))->lz w' m' av' R w.heap.size arr.size o) (I:o.real=Sm:=by rfl):
  SW C n ⟨σ.sl,obL [(id,Sh o)] σ.ob,avL [id] σ.av⟩ a (w.alloc (.cells arr ty)) (upd m id (Sh (w.heap.size,arr.size))) R:=by
 have E:∀b,R b->R b/\(w.alloc (.cells arr ty)).heap[b]? =w.heap[b]? :=λb d=>⟨d,Below.heap_alloc w _ b (h.hr.rsz b d)⟩
 have G:∀i,σ.av i=S1->i≠id:=λi hi e=>by rw[e,l]at hi;cases hi
 have J:m id=Sl:=by
  have:=h.hr.dom id;rw[h.hr.free id l]at this;simpa[bI]using this
 have H:∀i x,σ.av i=S1->upd m id (Sh (w.heap.size,arr.size)) i=Sh x->m i=Sh x:=λi x hi e=>by rwa [aR _ _ (G i hi)]at e
 have D:∀i,σ.av i=S1->avL [id] σ.av i=S1:=λi hi=>by
  simp only[avL];cases Nat.beq i id<;>simp[hi]
 have L:(w.alloc (.cells arr ty)).heap.size=w.heap.size+1:=Vj;have q:∀i,i≠id->obL [(id,Sh o)] σ.ob i=σ.ob i:=λi hi=>by
  have:Nat.beq i id=S1:=by cases d:Nat.beq i id;rfl;exact absurd (aJ d) hi
  simp[obL,this]
 have r:obL [(id,Sh o)] σ.ob id=Sh o:=by simp[obL]
 have M:∀i,(m i).isSome=Sm->σ.av i=S1:=λi hi=>by
  cases d:σ.av i
  .rfl
  .have:=h.hr.dom i;rw[h.hr.free i d,hi]at this;cases this
 refine h.world ⟨?_,?_,?_,?_,?_,?_,?_,?_,?_,?_,?_⟩ E H D
 .intro i;by_cases e:i=id
  .subst e;rw[aA,r];exact I.symm
  .rw[aR _ _ e,q i e];exact h.hr.dom i
 .intro i hi;simp only[avL]at hi;cases d:Nat.beq i id with
  |true=>rw[d]at hi;simp at hi
  | false=>
    rw[d]at hi;have e:i≠id:=λe=>by subst e;simp at d
    rw[q i e];exact h.hr.free i (by simpa using hi)
 .intro i o' b N h1 h2;by_cases e:i=id
  .subst e;rw[r]at h1;rw[aA]at h2;cases h1;cases h2;exact V _ _ _ E H D (heap_alloc_new w _)
  .rw[q i e]at h1;rw[aR _ _ e]at h2;exact(h.hr.obj i o' b N h1 h2).mono E H D (Below.heap_alloc w _ b (h.hr.own i b N h2).1)
 .intro i j b N N' h1 h2;by_cases e1:i=id<;>by_cases e2:j=id
  .rw[e1,e2]
  .subst e1;rw[aA]at h1;rw[aR _ _ e2]at h2;cases h1;have:=(h.hr.own j _ _ h2).1;omega
  .subst e2;rw[aA]at h2;rw[aR _ _ e1]at h1;cases h2;have:=(h.hr.own i _ _ h1).1;omega
  .rw[aR _ _ e1]at h1;rw[aR _ _ e2]at h2;exact h.hr.inj i j b N N' h1 h2
 .intro i b N h1;by_cases e:i=id
  .subst e;rw[aA]at h1;cases h1;exact⟨Vf,λd=>by have:=h.hr.rsz _ d;omega,.inr h.hr.frame.size⟩
  .rw[aR _ _ e]at h1;obtain⟨h2,h3,h4⟩:=h.hr.own i b N h1;exact⟨Vf,h3,h4⟩
 .intro b d;have:=h.hr.rsz b d;omega
 .exact h.hr.rfr
 .exact h.hr.r0
 .refine⟨h.hr.frame.os,h.hr.frame.tape,h.hr.frame.output,?_,?_⟩
  .have:=h.hr.frame.size;omega
  .intro k hk hF;rw[Below.heap_alloc w _ k (by have:=h.hr.frame.size;omega)];exact h.hr.frame.block k hk hF
 .intro i x hi e;have B:i≠id:=λU=>by subst U;rw[h.hr.res i hi]at l;cases l
  rw[aR _ _ B]at e;exact h.hr.keep i x hi e
 .intro i hi;exact D i (h.hr.res i hi)
theorem SW.store(h:SW C n σ a w m R)(l:m id=Sh (b,N))(arr arr':Array Value)(ty:TypeId)(G:w.heap[b]? =Sh (.cells arr ty (0,0)))(M:arr'.size=N)(o:Ob)
  (U:∀(w':World),(∀b,R b->R b/\w'.heap[b]? =w.heap[b]?)->w'.heap[b]? =Sh (.cells arr' ty (0,0))->lz w' m σ.av R b N o) (H:o.real=Sm:=by rfl):
  SW C n ⟨σ.sl,obL [(id,Sh o)] σ.ob,avL [] σ.av⟩ a (w.setRow b arr') m R:=by
 have B:=h.hr.own id b N l;have q:=setRow_heap w b arr arr' ty (0,0) G;have d:∀k,k≠b->(w.setRow b arr').heap[k]? =w.heap[k]? :=λk hk=>setRow_other w b k arr' hk
 have E:∀k,R k->R k/\(w.setRow b arr').heap[k]? =w.heap[k]? :=λk hk=>⟨hk,d k (λe=>B.2.1 (e▸hk))⟩
 have V:(w.setRow b arr').heap.size=w.heap.size:=Vj;have r:∀i,i≠id->obL [(id,Sh o)] σ.ob i=σ.ob i:=λi hi=>by
  have:Nat.beq i id=S1:=by cases G:Nat.beq i id;rfl;exact absurd (aJ G) hi
  simp[obL,this]
 have D:obL [(id,Sh o)] σ.ob id=Sh o:=by simp[obL]
 have I:∀i x,σ.av i=S1->m i=Sh x->m i=Sh x:=λ_ _ _ e=>e
 have J:∀i,σ.av i=S1->avL [] σ.av i=S1:=λ_ hi=>hi
 refine h.world ⟨?_,?_,?_,?_,?_,?_,?_,?_,?_,?_,?_⟩ E I J
 .intro i;by_cases e:i=id
  .subst e;rw[l,D];exact H.symm
  .rw[r i e];exact h.hr.dom i
 .intro i hi;have e:i≠id:=λe=>by
   subst e;have:=h.hr.dom i;rw[h.hr.free i hi,l]at this;cases this
  rw[r i e];exact h.hr.free i hi
 .intro i o' b' N' h1 h2;by_cases e:i=id
  .subst e;rw[D]at h1;rw[l]at h2;cases h1;cases h2;exact U _ E q
  .rw[r i e]at h1;exact(h.hr.obj i o' b' N' h1 h2).mono E I J (d b' (λL=>e (h.hr.inj i id b N' N (L▸h2) l)))
 .exact h.hr.inj
 .intro i b' N' h1;obtain⟨h2,h3,h4⟩:=h.hr.own i b' N' h1;exact⟨Vf,h3,h4⟩
 .intro b' hb';have:=h.hr.rsz b' hb';omega
 .exact h.hr.rfr
 .exact h.hr.r0
 .refine⟨h.hr.frame.os,h.hr.frame.tape,h.hr.frame.output,?_,?_⟩
  .have:=h.hr.frame.size;omega
  .intro k hk hF;rw[d k (λe=>by subst e;rcases B.2.2 with h'|h';exact hF h';omega)];exact h.hr.frame.block k hk hF
 .exact h.hr.keep
 .exact h.hr.res
end
def bN(P:Program)(t:TypeId)(k:Nat):Prop:=(P.info? t).map (·.size)=Sh k
def isRow(P:Program)(t:TypeId):Prop:=∃d,P.underlying t=Sh d/\d.isRow=Sm
def fF(P:Program)(t:TypeId):Prop:=∃d,P.underlying t=Sh d/\d.isRow=S1
theorem fF.run(h:fF P t)(w:World):(isAgg t).run P w= .ok S1 w:=by
 obtain⟨d,hu,hd⟩:=h;unfold isAgg;rw[Sem.run_bind,run_underlying hu w];cases d<;>simp_all
theorem bN.run(h:bN P t k)(w:World):(sizeOf t).run P w= .ok k w:=by
 unfold bN at h;cases hq:P.info? t with
 |none=>simp[hq]at h
 |some i=>simp[hq]at h;simp[sizeOf,typeInfo,hq,h]
section
variable {C:Ctx}{n:Nat}{σ:St}{dst:Option Tmp}{ty t t':TypeId}{pos:String}{after:Array Edge}{gd:Option (Nat×Bool)}{x y:Operand}
theorem Rc(σ:St)(d:Option Tmp)(v:V)(wr:List (Nat×Option Ob))(nw:List Nat):σ.app d ⟨v,wr,nw⟩=St.put ⟨σ.sl,obL wr σ.ob,avL nw σ.av⟩ d v:=by
 cases d<;>rfl
theorem nM(id:Nat)(D:σ.av id=Sm){v:V}(E:σ.ev n x=v)(G:v.cells.all V.leaf=Sm)(r:∀i o,v= .ptr i o->bI (σ.ob i)=Sm)(d:∀i s k,v= .osl i s k->bI (σ.ob i)=Sm)(l:∀i,v= .map i->bI (σ.ob i)=Sm):
  XJ C n ⟨dst,.box T x,ty,pos,after,gd⟩ σ ⟨.ptr id 0,[(id,Sh (.mix T v.cells))],[id]⟩:=by
 rintro a w Q ⟨m,R,hw⟩;have q:=hw.ev x;rw[E]at q;have hc:=q.cells (by simpa using G) (λi o e=>by rw[hw.hr.dom];exact r i o e) (λi s k e=>by rw[hw.hr.dom];exact d i s k e) (λi e=>by rw[hw.hr.dom];exact l i e);unfold Oper.wp;have B:(execOp a.eval ⟨dst,.box T x,ty,pos,after,gd⟩).run C.P w= .ok (.value (.pointer (Sh ⟨w.heap.size,0,Sl⟩))) (w.alloc (.cells (a.eval x).cells T)):=by
  simp[execOp,Instr.box,newVar,newRow]
 rw[B];refine⟨_,O,upd m id (Sh (w.heap.size,(a.eval x).cells.size)),R,?_⟩;rw[Rc];refine SW.put (hw.alloc D (a.eval x).cells T (.mix T v.cells) ?_) dst ?_
 .intro w' m' av' hR hm ha hb;refine⟨_,hb,O,?_,?_⟩
  .rw[<-hc.length];simp
  .have:(a.eval x).cells.toList.take v.cells.length=(a.eval x).cells.toList:=aQ (by rw[<-hc.length];exact BY _);rw[this];exact hc.mono hR hm ha
 .simp only[Rel];refine⟨by simp[avL],λb N e=>?_⟩;rw[aA]at e;cases e;rfl
theorem Kq(id:Nat){cs:List PV}(B:(C.P.info? T).map (·.zero)=Sh (Sh z))(r:z.cells.toList.map fC=cs)(D:σ.av id=Sm):
  XJ C n ⟨dst,.alloc T,ty,pos,after,gd⟩ σ ⟨.ptr id 0,[(id,Sh (.mix T (cs.map .pv)))],[id]⟩:=by
 rintro a w Q ⟨m,R,hw⟩;unfold Oper.wp;have q:(execOp a.eval ⟨dst,.alloc T,ty,pos,after,gd⟩).run C.P w= .ok (.value (.pointer (Sh ⟨w.heap.size,0,Sl⟩))) (w.alloc (.cells z.cells T)):=by
  cases hq:C.P.info? T with
  |none=>simp[hq]at B
  | some i=>
    simp[hq]at B;simp[execOp,Instr.alloc,zeroValue,typeInfo,hq,B,newVar,newRow]
 rw[q];refine⟨_,O,upd m id (Sh (w.heap.size,z.cells.size)),R,?_⟩;rw[Rc];refine SW.put (hw.alloc D z.cells T (.mix T (cs.map .pv)) ?_) dst ?_
 .intro w' m' av' hR hm ha hb;have d:cs.length=z.cells.size:=by rw[<-r];simp
  refine⟨_,hb,O,by simp[d],?_⟩;have:z.cells.toList.take (cs.map V.pv).length=z.cells.toList:=aQ (by simp[d]);rw[this];refine RelL.ofP ?_;rw[<-r];generalize z.cells.toList=l;induction l with
  |nil=>simpa using RelPL.nil
  |cons x l ih=>simpa using RelPL.cons (fc w' R x) ih
 .simp only[Rel];refine⟨by simp[avL],λb N e=>?_⟩;rw[aA]at e;cases e;rfl
theorem kQ{arr:Array Value}(l:w.heap[b]? =Sh (.cells arr T (0,0)))(d:arr.toList.take k=us){j:Nat}(q:j<k):
  w.cell? ⟨b,j,Sl⟩=us[j]? :=by
 rw[cell_of_row w b j arr T (0,0) l,<-d,Ry,AT q];simp
theorem mU{T':TypeId}{cs:List V}{v:V}(q:fF C.P T)(r:σ.ev n x= .ptr id off)(B:σ.ob id=Sh (.mix T' cs))(l:cs[off]? =Sh v):
  XJ C n ⟨dst,.load T x,ty,pos,after,gd⟩ σ ⟨v,[],[]⟩:=
 .val λa w m R hw=>by
  obtain⟨b,N,he,hm,arr,hb,hN,hle,hr⟩:=hw.ptr r B;obtain⟨u,hu,hrel⟩:=hr.get l;have d:off<cs.length:=(Rp.1 l).1;have hc:w.cell? ⟨b,off,Sl⟩=Sh u:=by rw[kQ hb O d];exact hu
  exact⟨u,by simp[execOp,he,Instr.loadAt,Instr.sureAddr,loadVar,q.run,load,Sem.run,hc],hrel⟩
theorem cm{T':TypeId}{cs:List PV}{v:PV}(q:fF C.P T)(r:σ.ev n x= .ptr id off)(B:σ.ob id=Sh (.cells T' cs))(l:cs[off]? =Sh v):
  XJ C n ⟨dst,.load T x,ty,pos,after,gd⟩ σ ⟨.pv v,[],[]⟩:=
 .val λa w m R hw=>by
  obtain⟨b,N,he,hm,arr,hb,hN,hle,hr⟩:=hw.ptr r B;obtain⟨u,hu,hrel⟩:=hr.get l;have d:off<cs.length:=(Rp.1 l).1;have hc:w.cell? ⟨b,off,Sl⟩=Sh u:=by rw[kQ hb O d];exact hu
  exact⟨u,by simp[execOp,he,Instr.loadAt,Instr.sureAddr,loadVar,q.run,load,Sem.run,hc],by simpa only[Rel]using hrel⟩
theorem aq{cs:List PV}{v:PV}(l:fF C.P T)(q:σ.ev n x= .pv (.rp cs off))(r:cs[off]? =Sh v):
  XJ C n ⟨dst,.load T x,ty,pos,after,gd⟩ σ ⟨.pv v,[],[]⟩:=
 .val λa w m R hw=>by
  have:=hw.pv q;simp only[RelP]at this;obtain⟨b,o,us,he,hr,hs⟩:=this;obtain⟨u,hu,hrel⟩:=hr.get r;have d:off<us.length:=(Rp.1 hu).1;have hc:w.cell? ⟨b,o+off,Sl⟩=Sh u:=by rw[hs.2 off d];exact hu
  exact⟨u,by simp[execOp,he,Instr.loadAt,Instr.sureAddr,loadVar,l.run,load,Sem.run,hc],by simpa only[Rel]using hrel⟩
theorem Kl{T':TypeId}{cs vs:List V}(G:isRow C.P T)(D:bN C.P T k)(H:σ.ev n x= .ptr id off)(I:σ.ob id=Sh (.mix T' cs))(E:(cs.drop off).take k=vs)(B:vs.length=k):
  XJ C n ⟨dst,.load T x,ty,pos,after,gd⟩ σ ⟨.agg vs,[],[]⟩:=
 .val λa w m R hw=>by
  obtain⟨b,N,he,hm,arr,hb,hN,hle',hr⟩:=hw.ptr H I;have J:off+k<=cs.length\/k=0:=by
   have:=ag List.length E;simp at this;omega
  have l:=(hr.drop off).take k;rw[E]at l;have q:=l.length;obtain⟨d,hu,hd⟩:=G;have:=run_loadAt_mid (P:=C.P) w b off T (((arr.toList.take cs.length).drop off).take k) d (λj u hu=>by
   rw[Ry]at hu;split at hu
   .rename_i hj;rw[Sq]at hu;have r:=(Rp.1 hu).1;rw[kQ hb (k:=cs.length) O (by simp at r;omega)];exact hu
   .cases hu) hu hd (by unfold bN at D;rw[D,q,B])
  refine⟨_,by simp only[execOp,he,Sem.run_bind,this,Result.andThen_ok];rfl,?_⟩;simp only[Rel];exact⟨_,O,l⟩
theorem tG{T':TypeId}{cs vs:List PV}(E:isRow C.P T)(D:bN C.P T k)(G:σ.ev n x= .ptr id off)(H:σ.ob id=Sh (.cells T' cs))(I:(cs.drop off).take k=vs)(B:vs.length=k):
  XJ C n ⟨dst,.load T x,ty,pos,after,gd⟩ σ ⟨.pv (.agg vs),[],[]⟩:=
 .val λa w m R hw=>by
  obtain⟨b,N,he,hm,arr,hb,hN,hle',hr⟩:=hw.ptr G H;have l:=(hr.drop off).take k;rw[I]at l;have q:=l.length;obtain⟨d,hu,hd⟩:=E;have:=run_loadAt_mid (P:=C.P) w b off T (((arr.toList.take cs.length).drop off).take k) d (λj u hu=>by
   rw[Ry]at hu;split at hu
   .rename_i hj;rw[Sq]at hu;have r:=(Rp.1 hu).1;rw[kQ hb (k:=cs.length) O (by simp at r;omega)];exact hu
   .cases hu) hu hd (by unfold bN at D;rw[D,q,B])
  refine⟨_,by simp only[execOp,he,Sem.run_bind,this,Result.andThen_ok];rfl,?_⟩;simp only[Rel,RelP];exact⟨_,O,l⟩
theorem aU{cs vs:List PV}(E:isRow C.P T)(D:bN C.P T k)(G:σ.ev n x= .pv (.rp cs off))(H:(cs.drop off).take k=vs)(B:vs.length=k):
  XJ C n ⟨dst,.load T x,ty,pos,after,gd⟩ σ ⟨.pv (.agg vs),[],[]⟩:=
 .val λa w m R hw=>by
  have:=hw.pv G;simp only[RelP]at this;obtain⟨b,o,us,he,hr,hs⟩:=this;have l:=(hr.drop off).take k;rw[H]at l;have q:=l.length;obtain⟨d,hu,hd⟩:=E;have:=run_loadAt_mid (P:=C.P) w b (o+off) T ((us.drop off).take k) d (λj u hu=>by
   rw[Ry]at hu;split at hu
   .rw[Sq]at hu;have r:=(Rp.1 hu).1;rw[Nat.add_assoc,hs.2 (off+j) r];exact hu
   .cases hu) hu hd (by unfold bN at D;rw[D,q,B])
  refine⟨_,by simp only[execOp,he,Sem.run_bind,this,Result.andThen_ok];rfl,?_⟩;simp only[Rel,RelP];exact⟨_,O,l⟩
end
end
section
theorem kg(l vs:List α)(off n:Nat)(h:off+vs.length<=n)(r:n<=l.length):
  (l.take off++vs++l.drop (off+vs.length)).take n=(l.take n).take off++vs++(l.take n).drop (off+vs.length):=by
 apply UI;intro i;have d:min off l.length=off:=Vf;have q:min off (min n l.length)=off:=Vf;simp only[Ry,List.getElem?_append,IS,Rr,Sq,d,q];by_cases hi:i<n
 .rw[AT hi];by_cases b:i<off+vs.length
  .rw[AT b,AT b];by_cases a:i<off
   .simp[a,hi]
   .simp[a]
  .rw[dt b,dt b,AT Vf]
 .rw[dt hi,dt Vf,dt Vf]
def fX{α:Type}(l:List α)(off:Nat)(vs:List α):List α:=l.take off++vs++l.drop (off+vs.length)
theorem RelL.fX{av:Av}{cs vs:List V}{xs:List Value}(off:Nat)(h:RelL w m av R cs us)(d:RelL w m av R vs xs):RelL w m av R (fX cs off vs) (fX us off xs):=by
 unfold Proofs.YtoplpepiabedhaaGreatDoor.fX;rw[d.length];exact(((h.take off).append d).append (h.drop _))
theorem RelPL.fX{cs vs:List PV}{xs:List Value}(off:Nat)(h:RelPL w R cs us)(d:RelPL w R vs xs):RelPL w R (fX cs off vs) (fX us off xs):=by
 unfold Proofs.YtoplpepiabedhaaGreatDoor.fX;rw[d.length];exact(((h.take off).append d).append (h.drop _))
theorem bJ(l:List α)(off:Nat)(vs:List α)(h:off+vs.length<=l.length):(fX l off vs).length=l.length:=by
 unfold fX;simp only[IS,Rr,Td];omega
section
variable {C:Ctx}{n:Nat}{σ:St}{dst:Option Tmp}{ty t t':TypeId}{pos:String}{after:Array Edge}{gd:Option (Nat×Bool)}{x y:Operand}
theorem jR{arr:Array Value}{T':TypeId}(l:w.heap[b]? =Sh (.cells arr T' (0,0)))(q:bN P T u.cells.size)(d:off+u.cells.size<=arr.size)(r:∀c∈u.cells.toList,c.oneCell'=Sm):
  (Instr.storeAt T (.pointer (Sh ⟨b,off,Sl⟩)) u).run P w= .ok () (w.setRow b (fX arr.toList off u.cells.toList).toArray):=by
 have:=run_storeCells_at (P:=P) b off T' u.cells.toList 0 arr w l (by simpa using d) r;simp only[Uv]at this;simp[Instr.storeAt,Instr.sureAddr,storeVar,q.run,this,fX]
theorem ma{av:Av}:∀{vs:List V}{us:List Value},RelL w m av R vs us->(∀c∈vs,c.leaf=Sm)->(∀c∈vs,∀id o,c= .ptr id o->(m id).isSome)->(∀c∈vs,∀id s k,c= .osl id s k->(m id).isSome)->(∀c∈vs,∀id,c= .map id->(m id).isSome)->∀u∈us,u.oneCell'=Sm
 |[],_,h,_,_,_,_=>by simp only[RelL]at h;subst h;simp
 | c::cs,_,h,hl,h1,h2,h3=>by
   simp only[RelL]at h;obtain⟨u,us,rfl,hc,hr⟩:=h;intro v hv;rcases AS.1 hv with rfl|hv
   .have hlc:=hl c Vj;cases c with
    |pv p=>simp only[Rel]at hc;exact hc.leaf hlc
    | ptr id o=>
      obtain⟨⟨b,N⟩,hm⟩:=RQ.1 (h1 _ Vj id o O);simp only[Rel]at hc;rw[hc.2 b N hm];rfl
    | osl id s k=>
      obtain⟨⟨b,N⟩,hm⟩:=RQ.1 (h2 _ Vj id s k O);simp only[Rel]at hc;obtain⟨c,e,_⟩:=hc.2 b N hm;rw[e];rfl
    |gsl id s k=>simp only[Rel]at hc;obtain⟨_,A,c,e,_⟩:=hc;rw[e];rfl
    |tsl id s k=>simp only[Rel]at hc;obtain⟨_,A,c,e,_⟩:=hc;rw[e];rfl
    | map id=>
      obtain⟨⟨b,N⟩,hm⟩:=RQ.1 (h3 _ Vj id O);simp only[Rel]at hc;rw[hc.2 b N hm];rfl
    |agg _=>simp[V.leaf]at hlc
    |tup _=>simp[V.leaf]at hlc
    |fn f a b=>simp only[Rel]at hc;obtain⟨us,vs,rfl,_⟩:=hc;rfl
   .exact ma hr (λc hc=>hl c (by simp[hc])) (λc hc=>h1 c (by simp[hc])) (λc hc=>h2 c (by simp[hc])) (λc hc=>h3 c (by simp[hc])) v hv
def V.cc(ob:Nat->Option Ob):V->Bool
 | .ptr i _=>bI (ob i)
 | .osl i _ _=>bI (ob i)
 | .map i=>bI (ob i)
 |_=>Sm
theorem nJ{T':TypeId}{cs:List V}{v:V}(I:bN C.P T k)(J:σ.ev n x= .ptr id off)(L:σ.ob id=Sh (.mix T' cs))(M:σ.ev n y=v)(G:v.cells.length=k)(U:off+k<=cs.length)
  (W:v.cells.all (λc=>c.leaf&&c.cc σ.ob)=Sm) (l:v.cc σ.ob=Sm):
  XJ C n ⟨Sl,.store T x y,ty,pos,after,gd⟩ σ ⟨.pv .any,[(id,Sh (.mix T' (fX cs off v.cells)))],[]⟩:=by
 rintro a w Q ⟨m,R,hw⟩;obtain⟨b,N,he,hm,arr,hb,hN,hle',hr⟩:=hw.ptr J L;have r:=hw.ev y;rw[M]at r;have d:∀i,bI (σ.ob i)=Sm->(m i).isSome=Sm:=λi hi=>by rw[hw.hr.dom];exact hi
 have q:∀c∈v.cells,c.leaf=Sm/\c.cc σ.ob=Sm:=by simpa using W
 have hc:=r.cells (λc hc=>(q c hc).1) (λi o e=>d _ (by rw[e]at l;exact l)) (λi s k e=>d _ (by rw[e]at l;exact l)) (λi e=>d _ (by rw[e]at l;exact l));have H:=ma hc (λc hc=>(q c hc).1) (λc hc i o e=>d _ (by have:=(q c hc).2;rw[e]at this;exact this)) (λc hc i s k e=>d _ (by have:=(q c hc).2;rw[e]at this;exact this)) (λc hc i e=>d _ (by have:=(q c hc).2;rw[e]at this;exact this));have E:(a.eval y).cells.size=k:=by have:=hc.length;simp at this;omega
 have D:=jR (P:=C.P) (T:=T) (u:=a.eval y) (off:=off) hb (by rw[E];exact I) Vf H;unfold Oper.wp;have B:(execOp a.eval ⟨Sl,.store T x y,ty,pos,after,gd⟩).run C.P w= .ok .skip (w.setRow b (fX arr.toList off (a.eval y).cells.toList).toArray):=by
  simp only[execOp,he,Sem.run_bind,D,Result.andThen_ok,Sem.run_pure]
 rw[B];refine⟨_,O,m,R,?_⟩;refine hw.store hm arr _ T' hb (by simp only[RB];rw[bJ _ _ _ Vk];simpa using hN) _ ?_;intro w' hR hb';refine⟨_,hb',by simp only[RB];rw[bJ _ _ _ Vk];simpa using hN,by rw[bJ _ _ _ Vf];exact hle',?_⟩;rw[bJ cs off v.cells Vf];have e:(fX arr.toList off (a.eval y).cells.toList).toArray.toList.take cs.length=fX (arr.toList.take cs.length) off (a.eval y).cells.toList:=by
  simp only[fX];exact kg _ _ _ _ Vk Vk
 rw[e];exact(hr.fX off hc).mono hR (λ_ _ _ e=>e) (λ_ e=>e)
theorem bQ{T':TypeId}{cs:List PV}{v:PV}(J:bN C.P T 1)(L:σ.ev n x= .ptr id off)(M:σ.ob id=Sh (.cells T' cs))(U:σ.ev n y= .pv v)(G:v.leaf=Sm)(V:off<cs.length):
  XJ C n ⟨Sl,.store T x y,ty,pos,after,gd⟩ σ ⟨.pv .any,[(id,Sh (.cells T' (cs.set off v)))],[]⟩:=by
 rintro a w Q ⟨m,R,hw⟩;obtain⟨b,N,he,hm,arr,hb,hN,hle',hr⟩:=hw.ptr L M;have q:=hw.pv U;have E:=q.leaf G;have d:(a.eval y).cells= #[a.eval y]:=by
  generalize a.eval y=u at E;cases u<;>simp[Value.oneCell']at E<;>rfl
 have B:=jR (P:=C.P) (T:=T) (u:=a.eval y) (off:=off) hb (by rw[d];exact J) (by rw[d];simp;omega) (by rw[d];simpa using E);unfold Oper.wp;have r:(execOp a.eval ⟨Sl,.store T x y,ty,pos,after,gd⟩).run C.P w= .ok .skip (w.setRow b (fX arr.toList off [a.eval y]).toArray):=by
  simp only[execOp,he,Sem.run_bind,B,Result.andThen_ok,Sem.run_pure,d]
 rw[r];have D:∀{α:Type}(l:List α)(z:α),off<l.length->fX l off [z]=l.set off z:=by
  intro α l z hl;simp only[fX,RD];rw[Ud,AT hl];simp
 refine⟨_,O,m,R,?_⟩;refine hw.store hm arr _ T' hb (by simp only[RB];rw[bJ _ _ _ Vk];simpa using hN) _ ?_;intro w' hR hb';refine⟨_,hb',by simp only[RB];rw[bJ _ _ _ Vk];simpa using hN,by simpa using hle',?_⟩;have e:(fX arr.toList off [a.eval y]).toArray.toList.take (cs.set off v).length=(arr.toList.take cs.length).set off (a.eval y):=by
  have I:=kg arr.toList [a.eval y] off cs.length Vk Vk;have H:=D (arr.toList.take cs.length) (a.eval y) Vk;simp only[fX]at H ⊢;simp only[SI];rw[I,H]
 rw[e];exact(hr.set off q).mono hR
def fQ(P:Program)(s:TypeId)(i:Nat):Option Nat:=
 match P.underlying s with
 | some (.struct fs)=>
   match fs[i]? with
   | some f=>match P.info? f.type with
     |some inf=>bif Nat.beq inf.size 0 then Sl else Sh f.offset
     |none=>Sl
   |none=>Sl
 |_=>Sl
theorem oE{i:Nat}(h:fQ P s i=Sh o)(w:World)(b off:Nat):(Instr.fieldAt s (.pointer (Sh ⟨b,off,Sl⟩)) i).run P w= .ok (.pointer (Sh ⟨b,off+o,Sl⟩)) w:=by
 unfold fQ at h;split at h
 .rename_i fs hu;split at h
  .rename_i f hf;split at h
   .rename_i inf hi;have d:inf.size≠0:=by
     intro e;rw[e]at h;simp at h
    have l:Nat.beq inf.size 0=S1:=by cases l:Nat.beq inf.size 0;rfl;exact absurd (aJ l) d
    rw[l]at h;simp at h;subst h;simp[Instr.fieldAt,run_underlying hu,hf,Instr.sureAddr,fieldPlace,sizeOf,typeInfo,hi,d,Addr.add_lit]
   .cases h
  .cases h
 .cases h
theorem uy{i:Nat}{ob:Ob}(r:fQ C.P s i=Sh o)(q:σ.ev n x= .ptr id off)(B:σ.ob id=Sh ob)(l:ob.real=Sm:=by rfl):
  XJ C n ⟨dst,.fieldAddr s x i,ty,pos,after,gd⟩ σ ⟨.ptr id (off+o),[],[]⟩:=
 .val λa w m R hw=>by
  obtain⟨b,N,he,hm,_⟩:=hw.ptr q B l;have d:=hw.ev x;rw[q]at d;simp only[Rel]at d;refine⟨_,by simp only[execOp,he,Sem.run_bind,oE r,Result.andThen_ok];rfl,?_⟩;simp only[Rel];exact⟨d.1,λb' N' e=>by rw[hm]at e;cases e;rfl⟩
theorem rV{i:Nat}{cs:List PV}(d:fQ C.P s i=Sh o)(l:σ.ev n x= .pv (.rp cs off)):
  XJ C n ⟨dst,.fieldAddr s x i,ty,pos,after,gd⟩ σ ⟨.pv (.rp cs (off+o)),[],[]⟩:=
 .val λa w m R hw=>by
  have:=hw.pv l;simp only[RelP]at this;obtain⟨b,o',us,he,hr,hs⟩:=this;refine⟨_,by simp only[execOp,he,Sem.run_bind,oE d,Result.andThen_ok];rfl,?_⟩;simp only[Rel,RelP];exact⟨b,o',us,by rw[Nat.add_assoc],hr,hs⟩
theorem pq{s j c:Nat}(d:P.underlying T=Sh (.slice e))(l:bN P e s)(q:i=(j:Int))(r:j<k)(w:World)(b off:Nat):
  (Instr.indexAt T (.slice (Sh ⟨b,off,Sl⟩) k c) (.int kk i)).run P w= .ok (.pointer (Sh ⟨b,off+j*s,Sl⟩)) w:=by
 subst q;have B:((j:Int))<(k:Int):=Vf;simp[Instr.indexAt,asIntOf,run_underlying d,l.run,r,Addr.add_lit]
theorem ae{s:Nat}{cs:List PV}(j:Nat)(l:C.P.underlying T=Sh (.slice e))(q:bN C.P e s)(r:σ.ev n x= .pv (.sl bn k cs))(B:σ.ev n y= .pv (.int kk i))(D:i=(j:Int))(E:j<k)(d:cs≠[]):
  XJ C n ⟨dst,.indexAddr T x y,ty,pos,after,gd⟩ σ ⟨.pv (.rp cs (j*s)),[],[]⟩:=
 .val λa w m R hw=>by
  have:=hw.pv r;simp only[RelP]at this;obtain⟨A,c,he,_,_,_,_,h5⟩:=this;obtain⟨b,off,us,rfl,hr,hsh⟩:=h5 d;refine⟨_,by simp only[execOp,he,hw.int B,Sem.run_bind,pq l q D E,Result.andThen_ok];rfl,?_⟩;simp only[Rel,RelP];exact⟨b,off,us,O,hr,hsh⟩
theorem ak{s:Nat}{o:Ob}(j:Nat)(r:C.P.underlying T=Sh (.slice e))(B:bN C.P e s)(q:σ.ev n x= .osl id sz k)(D:σ.ob id=Sh o)(E:σ.ev n y= .pv (.int kk i))(G:i=(j:Int))(H:j<k)(l:o.real=Sm:=by rfl):
  XJ C n ⟨dst,.indexAddr T x y,ty,pos,after,gd⟩ σ ⟨.ptr id (j*s),[],[]⟩:=
 .val λa w m R hw=>by
  obtain⟨b,N,c,he,_,_,_,hm,_⟩:=hw.osl q D l;have d:=hw.ev x;rw[q]at d;simp only[Rel]at d;refine⟨_,by simp only[execOp,he,hw.int E,Sem.run_bind,pq r B G H,Result.andThen_ok];rfl,?_⟩;simp only[Rel];exact⟨d.1,λb' N' e=>by rw[hm]at e;cases e;simp⟩
theorem Dz{i:Nat}{ps:List PV}{p:PV}{f:Field}{fs:Array Field}(d:C.P.underlying s=Sh (.struct fs))(l:fs[i]? =Sh f)(q:f.offset=o)(r:fF C.P f.type)(B:σ.ev n x= .pv (.agg ps))(D:ps[o]? =Sh p):
  XJ C n ⟨dst,.field s x i,ty,pos,after,gd⟩ σ ⟨.pv p,[],[]⟩:=
 .val λa w m R hw=>by
  have:=hw.pv B;simp only[RelP]at this;obtain⟨us,he,hr⟩:=this;obtain⟨u,hu',hrel⟩:=hr.get D;refine⟨u,?_,by simpa only[Rel]using hrel⟩;simp[execOp,he,Instr.field,run_underlying d,l,asAgg,part,r.run,q,hu']
theorem zI{s:Nat}{cs:List PV}(lo hi:Option Operand)(l h:Nat)(I:C.P.underlying T=Sh (.slice e))(J:bN C.P e s)(W:σ.ev n x= .pv (.sl bn k cs))
  (E:∀y,lo=Sh y->σ.ev n y= .pv (.int kl il)/\il=(l:Int)) (G:lo=Sl->l=0) (H:∀y,hi=Sh y->σ.ev n y= .pv (.int kh ih)/\ih=(h:Int)) (d:hi=Sl->h=k) (U:l<=h) (Y:h<=k) (X:cs.length=k*s):
  XJ C n ⟨dst,.slice T x lo hi Sl,ty,pos,after,gd⟩ σ ⟨.pv (.sl bn (h-l) ((cs.drop (l*s)).take ((h-l)*s))),[],[]⟩:=
 .val λa w m R hw=>by
  have:=hw.pv W;simp only[RelP]at this;obtain⟨A,c,he,hkc,hcm,hbn,hb0,h5⟩:=this;have L:∀y,lo=Sh y->a.eval y= .int kl l:=λy hy=>by rw[hw.int (E y hy).1,(E y hy).2]
  have M:∀y,hi=Sh y->a.eval y= .int kh h:=λy hy=>by rw[hw.int (H y hy).1,(H y hy).2]
  refine⟨.slice (if c=l then A else A.map (·.add (l*s))) (h-l) (c-l),?_,?_⟩
  .have hlc:h<=c:=Vf;cases lo with
   | none=>
     have V:=G O;subst V;cases hi with
     | none=>
       have r:=d O;subst r;simp[execOp,he,Instr.sliceAt,Instr.slice,Instr.sliceBounds,run_underlying I,J.run]
     | some y2=>
       simp[execOp,he,M y2 O,Instr.sliceAt,Instr.slice,Instr.sliceBounds,Instr.sliceBound,asIntOf,run_underlying I,J.run,hlc]
   | some y1=>
     cases hi with
     | none=>
       have r:=d O;subst r;simp[execOp,he,L y1 O,Instr.sliceAt,Instr.slice,Instr.sliceBounds,Instr.sliceBound,asIntOf,run_underlying I,J.run,U]
     | some y2=>
       simp[execOp,he,L y1 O,M y2 O,Instr.sliceAt,Instr.slice,Instr.sliceBounds,Instr.sliceBound,asIntOf,run_underlying I,J.run,U,hlc]
  .simp only[Rel,RelP];refine⟨_,_,O,Vf,Vf,?_,λe=>by have:=hb0 e;omega,?_⟩
   .intro q hq;rw[hbn q hq];split<;>simp
   .intro hne;have B:cs≠[]:=by rintro rfl;simp at hne
    obtain⟨b,off,us,rfl,hr,hsh⟩:=h5 B;have D:c≠l:=by
     rintro rfl;have:h-c=0:=Vf;rw[this]at hne;simp at hne
    rw[dt D];refine⟨b,off+l*s,(us.drop (l*s)).take ((h-l)*s),by simp[Addr.add_lit],(hr.drop _).take _,hsh.1,?_⟩;intro j hj;simp only[Rr,Td]at hj;rw[Ry,AT Vf,Sq,Nat.add_assoc];exact hsh.2 _ Vf
theorem fu{z:ByteArray}(lo hi:Option Operand)(l h:Nat)(G:C.P.underlying T=Sh .string)(U:σ.ev n x= .pv (.str z))
  (r:∀y,lo=Sh y->σ.ev n y= .pv (.int kl il)/\il=(l:Int)) (B:lo=Sl->l=0) (D:∀y,hi=Sh y->σ.ev n y= .pv (.int kh ih)/\ih=(h:Int)) (d:hi=Sl->h=z.size) (J:l<=h) (L:h<=z.size):
  XJ C n ⟨dst,.slice T x lo hi Sl,ty,pos,after,gd⟩ σ ⟨.pv (.str (z.extract l h)),[],[]⟩:=
 .lit O λa w m R hw=>by
  have E:=hw.str U;have H:∀y,lo=Sh y->a.eval y= .int kl l:=λy hy=>by rw[hw.int (r y hy).1,(r y hy).2]
  have I:∀y,hi=Sh y->a.eval y= .int kh h:=λy hy=>by rw[hw.int (D y hy).1,(D y hy).2]
  cases lo with
  | none=>
    have M:=B O;subst M;cases hi with
    | none=>
      have q:=d O;subst q;simp[execOp,E,Instr.sliceAt,Instr.slice,Instr.sliceBounds,run_underlying G,wA]
    | some y2=>
      simp[execOp,E,I y2 O,Instr.sliceAt,Instr.slice,Instr.sliceBounds,Instr.sliceBound,asIntOf,run_underlying G,L,wA]
  | some y1=>
    cases hi with
    | none=>
      have q:=d O;subst q;simp[execOp,E,H y1 O,Instr.sliceAt,Instr.slice,Instr.sliceBounds,Instr.sliceBound,asIntOf,run_underlying G,J,wA]
    | some y2=>
      simp[execOp,E,H y1 O,I y2 O,Instr.sliceAt,Instr.slice,Instr.sliceBounds,Instr.sliceBound,asIntOf,run_underlying G,J,L,wA]
theorem bB{z:ByteArray}(j:Nat)(l:C.P.underlying T=Sh .string)(q:σ.ev n x= .pv (.str z))(r:σ.ev n y= .pv (.int kk i))(B:i=(j:Int))(d:j<z.size):
  XJ C n ⟨dst,.index T x y,ty,pos,after,gd⟩ σ ⟨.pv (.int .u8 (z[j]'d).toNat),[],[]⟩:=
 .lit O λa w m R hw=>by
  subst B;simp[execOp,hw.str q,hw.int r,Instr.index,asIntOf,run_underlying l,wA,d]
end
end
section
section
variable {C:Ctx}{n:Nat}{σ:St}{a:Act}{w:World}{m:Gm}{R:Nat->Prop}
theorem SW.drop(h:SW C n σ a w m R)(id:Nat):SW C n ⟨σ.sl,obL [(id,Sl)] σ.ob,σ.av⟩ a w (upd m id Sl) R:=by
 have l:∀i,i≠id->obL [(id,Sl)] σ.ob i=σ.ob i:=λi hi=>by
  have:Nat.beq i id=S1:=by cases hb:Nat.beq i id;rfl;exact absurd (aJ hb) hi
  simp[obL,this]
 have q:obL [(id,Sl)] σ.ob id=Sl:=by simp[obL]
 have d:∀i x,upd m id Sl i=Sh x->m i=Sh x:=λi x e=>by
  by_cases hi:i=id
  .subst hi;rw[aA]at e;cases e
  .rwa [aR _ _ hi]at e
 refine h.world ⟨?_,?_,?_,?_,?_,?_,?_,?_,?_,?_,?_⟩ (λb hb=>⟨hb,O⟩) (λi x _ e=>d i x e) (λ_ e=>e)
 .intro i;by_cases e:i=id
  .subst e;rw[aA,q];rfl
  .rw[aR _ _ e,l i e];exact h.hr.dom i
 .intro i hi;by_cases e:i=id
  .subst e;exact q
  .rw[l i e];exact h.hr.free i hi
 .intro i o b N h1 h2;have e:i≠id:=λe=>by subst e;rw[aA]at h2;cases h2
  rw[l i e]at h1;exact(h.hr.obj i o b N h1 (d _ _ h2)).mono (λb hb=>⟨hb,O⟩) (λi x _ e=>d i x e) (λ_ e=>e) O
 .intro i j b N N' h1 h2;exact h.hr.inj i j b N N' (d _ _ h1) (d _ _ h2)
 .intro i b N h1;exact h.hr.own i b N (d _ _ h1)
 .exact h.hr.rsz
 .exact h.hr.rfr
 .exact h.hr.r0
 .exact h.hr.frame
 .exact λi x hi e=>h.hr.keep i x hi (d i x e)
 .exact h.hr.res
theorem SW.fresh(h:SW C n σ a w m R)(E:σ.av id=Sm){w':World}{g:Nat}{arr:Array Value}{ty:TypeId}(Z:w'.heap[g]? =Sh (.cells arr ty (0,0))){row:Option Nat}(d:w.grownBy w' row)(r:∀k,row=Sh k->¬R k/\(∀i b N,m i=Sh (b,N)->b≠k)/\(C.F k\/C.w0.heap.size<=k))
  (V:¬R g) (I:∀i b N,m i=Sh (b,N)->b≠g) (W:C.F g\/C.w0.heap.size<=g) (o:Ob)
  (ho:∀(m':Gm)(av':Av),(∀b,R b->R b/\w'.heap[b]? =w.heap[b]?)->(∀i x,σ.av i=S1->m' i=Sh x->m i=Sh x)->(∀i,σ.av i=S1->av' i=S1)->lz w' m' av' R g arr.size o) (X:o.real=Sm:=by rfl):
  SW C n ⟨σ.sl,obL [(id,Sh o)] σ.ob,avL [id] σ.av⟩ a w' (upd m id (Sh (g,arr.size))) R:=by
 have l:∀k,k<w.heap.size->(∀q,row=Sh q->k≠q)->w'.heap[k]? =w.heap[k]? :=λk hk B=>d.block k hk (λe=>B k e.symm O)
 have L:g<w'.heap.size:=(Ro.1 Z).1;have M:∀b,R b->R b/\w'.heap[b]? =w.heap[b]? :=λb hb=>⟨hb,l b (h.hr.rsz b hb) (λq hq e=>(r q hq).1 (e▸hb))⟩
 have B:∀i,σ.av i=S1->i≠id:=λi hi e=>by rw[e,E]at hi;cases hi
 have U:∀i x,σ.av i=S1->upd m id (Sh (g,arr.size)) i=Sh x->m i=Sh x:=λi x hi e=>by rwa [aR _ _ (B i hi)]at e
 have J:∀i,σ.av i=S1->avL [id] σ.av i=S1:=λi hi=>by
  simp only[avL];cases Nat.beq i id<;>simp[hi]
 have D:∀i,i≠id->obL [(id,Sh o)] σ.ob i=σ.ob i:=λi hi=>by
  have:Nat.beq i id=S1:=by cases hb:Nat.beq i id;rfl;exact absurd (aJ hb) hi
  simp[obL,this]
 have G:obL [(id,Sh o)] σ.ob id=Sh o:=by simp[obL]
 refine h.world ⟨?_,?_,?_,?_,?_,?_,?_,?_,?_,?_,?_⟩ M U J
 .intro i;by_cases e:i=id
  .subst e;rw[aA,G];exact X.symm
  .rw[aR _ _ e,D i e];exact h.hr.dom i
 .intro i hi;simp only[avL]at hi;cases hb:Nat.beq i id with
  |true=>rw[hb]at hi;simp at hi
  | false=>
    rw[hb]at hi;have e:i≠id:=λe=>by subst e;simp at hb
    rw[D i e];exact h.hr.free i (by simpa using hi)
 .intro i o' b N h1 h2;by_cases e:i=id
  .subst e;rw[G]at h1;rw[aA]at h2;cases h1;cases h2;exact ho _ _ M U J
  .rw[D i e]at h1;rw[aR _ _ e]at h2;exact(h.hr.obj i o' b N h1 h2).mono M U J (l b (h.hr.own i b N h2).1 (λq hq=>(r q hq).2.1 i b N h2))
 .intro i j b N N' h1 h2;by_cases e1:i=id<;>by_cases e2:j=id
  .rw[e1,e2]
  .subst e1;rw[aA]at h1;rw[aR _ _ e2]at h2;cases h1;exact absurd O (I j _ _ h2)
  .subst e2;rw[aA]at h2;rw[aR _ _ e1]at h1;cases h2;exact absurd O (I i _ _ h1)
  .rw[aR _ _ e1]at h1;rw[aR _ _ e2]at h2;exact h.hr.inj i j b N N' h1 h2
 .intro i b N h1;by_cases e:i=id
  .subst e;rw[aA]at h1;cases h1;exact⟨L,V,W⟩
  .rw[aR _ _ e]at h1;obtain⟨h2,h3,h4⟩:=h.hr.own i b N h1;exact⟨RA h2 d.size,h3,h4⟩
 .intro b hb;exact RA (h.hr.rsz b hb) d.size
 .exact h.hr.rfr
 .exact h.hr.r0
 .refine⟨d.os.trans h.hr.frame.os,d.tape.trans h.hr.frame.tape,d.output.trans h.hr.frame.output,IT h.hr.frame.size d.size,?_⟩;intro k hk hF;rw[l k (RA hk h.hr.frame.size) (λq hq e=>by subst e;rcases(r k hq).2.2 with h'|h';exact hF h';omega)];exact h.hr.frame.block k hk hF
 .intro i x hi e;have H:i≠id:=λY=>by subst Y;rw[h.hr.res i hi]at E;cases E
  rw[aR _ _ H]at e;exact h.hr.keep i x hi e
 .intro i hi;exact J i (h.hr.res i hi)
end
theorem dN:∀{vs:List PV}{us:List Value},RelPL w R vs us->(∀c∈vs,c.leaf=Sm)->∀u∈us,u.oneCell'=Sm
 |[],_,h,_=>by simp only[RelPL]at h;subst h;simp
 | c::cs,_,h,hl=>by
   simp only[RelPL]at h;obtain⟨u,us,rfl,hc,hr⟩:=h;intro v hv;rcases AS.1 hv with rfl|hv
   .exact hc.leaf (hl c Vj)
   .exact dN hr (λc hc=>hl c (by simp[hc])) v hv
structure ElemIs(P:Program)(t e:TypeId)(z:Value)(size bytes:Nat):Prop where
 u:P.underlying t=Sh (.slice e)
 info:(P.info? e).map (λi=>(i.zero,i.size,i.bytes))=Sh (Sh z,size,bytes)
 zs:z.cells.size=size
 pos:0<size
 by_:bytes<=1000
theorem Hy{σ:St}(d:SW C n σ a w m R){i j b' N':Nat}(l:m i=Sh (b',N'))(q:m j=Sh (b,N))(e:b'=b):i=j:=by
 subst e;exact d.hr.inj i j b' N' N l q
section
variable {C:Ctx}{n:Nat}{σ:St}{dst:Option Tmp}{ty t t':TypeId}{pos:String}{after:Array Edge}{gd:Option (Nat×Bool)}{x y:Operand}
def nP(n:Nat)(σ:St)(x:Operand)(k:Nat)(news:List PV):Prop:=
 (∃b,σ.ev n x= .pv (.sl b k news))\/(∃id sz T cs,σ.ev n x= .osl id sz k/\σ.ob id=Sh (.cells T cs)/\news=cs.take (k*sz))
theorem nP.row(l:SW C n σ a w m R){news:List PV}(h:nP n σ x k news):
  ∃A c us,a.eval x= .slice A k c/\RelPL w R news us/\Row w Any A us:=by
 rcases h with⟨b,hx⟩|⟨id,sz,T,cs,hx,ho,rfl⟩
 .have:=l.pv hx;simp only[RelP]at this;obtain⟨A,c,he,_,_,_,_,h5⟩:=this;by_cases d:news=[]
  .subst d;exact⟨A,c,[],he,RelPL.nil,Row.nil⟩
  .obtain⟨b,off,us,rfl,hr,hs⟩:=h5 d;refine⟨_,c,us,he,hr,λd=>⟨b,off,O,Vm,l.hr.rsz b hs.1,λj hj=>hs.2 j hj⟩⟩
 .obtain⟨b,N,c,he,_,_,hN,hm,arr,hb,hsz,hle,hr⟩:=l.osl hx ho;refine⟨_,c,_,he,hr.take (k*sz),λd=>⟨b,0,O,Vm,(l.hr.own id b N hm).1,λj hj=>?_⟩⟩;simp only[Rr]at hj;rw[RV,cell_of_row w b j arr T (0,0) hb,Ry,AT Vf,Ry,AT Vf];simp
def Pb(C:Ctx)(n:Nat)(σ:St)(y:Operand)(j:Nat)(news:List PV):Prop:=∀{a:Act}{w:World}{m:Gm}{R:Nat->Prop},SW C n σ a w m R->∃A c us,a.eval y= .slice A j c/\RelPL w R news us/\Row w Any A us
theorem gv{j:Nat}{cs news:List PV}(id':Nat)(I:ElemIs C.P t e z size bytes)(V:σ.ev n x= .osl id size k)(W:σ.ob id=Sh (.cells e cs))(L:k*size<=cs.length)
  (J:Pb C n σ y j news) (X:news.length=j*size) (M:∀c∈news,c.leaf=Sm) (Y:k+j<=1000000000) (U:σ.av id'=Sm):
  XJ C n ⟨dst,.call { callee:= .builtin .append,args:= #[x,y],argTypes:= #[t,t] },ty,pos,after,gd⟩ σ ⟨.osl id' size (k+j),[(id',Sh (.cells e (cs.take (k*size)++news))),(id,Sl)],[id']⟩:=by
 rintro a w Q ⟨m,R,hw⟩;obtain⟨b,N,c,hev,hkc,hcm,hN,hm,arr,hbk,hsz,hle,hr⟩:=hw.osl V W;obtain⟨A,c2,us,hev2,hr2,hrow⟩:=J hw;have D:w.ownsRow 0 e size (.slice (Sh ⟨b,0,Sl⟩) k c) k (arr.toList.take (k*size)):=by
  refine⟨?_,.inr ⟨b,c,arr,O,cd _,hbk,hkc,hcm,by rw[hsz,hN],O⟩⟩;have:=SV size hkc;simp only[Rr,RE];omega
 refine nN x y t O 0 e z size bytes I.u I.info I.zs I.pos I.by_ _ k j c2 A _ us hev hev2 D hrow (by rw[hr2.length,X]) (dN hr2 M) Y (cd _) ?_;intro A' c' w' hown' hgr hat
 have E:=hw.hr.own id b N hm;have l:RelPL w R (cs.take (k*size)++news) (arr.toList.take (k*size)++us):=by
  have G:=hr.take (k*size);rw[List.take_take,SG L]at G;exact G.append hr2
 have B:∀i x,upd m id Sl i=Sh x->m i=Sh x/\i≠id:=λi x e=>by
  by_cases hi:i=id
  .subst hi;rw[aA]at e;cases e
  .rw[aR _ _ hi]at e;exact⟨e,hi⟩
 have r:¬R b/\(∀i b' N',upd m id Sl i=Sh (b',N')->b'≠b)/\(C.F b\/C.w0.heap.size<=b):=
  ⟨E.2.1,λi b' N' hi e=>(B i _ hi).2 (Hy hw (B i _ hi).1 hm e),E.2.2⟩
 rcases hown'.2 with⟨hv,h0⟩|⟨g,cap,cur,hv,_,hg,hkc',hcm',hcs',htk⟩
 .exfalso;simp only[Value.slice.injEq]at hv;obtain⟨rfl,_,_⟩:=hv;rcases hat with h|⟨g',h,_⟩<;>simp[Value.ownBlock]at h
 .simp only[Value.slice.injEq]at hv;obtain⟨rfl, -,rfl⟩:=hv;have d:¬R g/\(∀i b' N',upd m id Sl i=Sh (b',N')->b'≠g)/\(C.F g\/C.w0.heap.size<=g):=by
   rcases hat with h|⟨g',h,hle⟩
   .simp only[Value.ownBlock,Rq]at h;rw[h];exact r
   .simp only[Value.ownBlock,Rq]at h;subst h;refine⟨λh=>?_,λi b' N' hi e=>?_,.inr ?_⟩
    .have:=hw.hr.rsz _ h;omega
    .have:=(hw.hr.own i b' N' (B i _ hi).1).1;omega
    .have:=hw.hr.frame.size;omega
  have H:(arr.toList.take (k*size)++us).length=(k+j)*size:=hown'.1;refine⟨_,O,upd (upd m id Sl) id' (Sh (g,cur.size)),R,?_⟩;rw[Rc];refine SW.put ((hw.drop id).fresh U hg hgr (λq hq=>by simp[Value.ownBlock]at hq;subst hq;exact r) d.1 d.2.1 d.2.2 (.cells e (cs.take (k*size)++news)) ?_) dst ?_
  .intro m' av' hR _ _;refine⟨cur,hg,O,?_,?_⟩
   .rw[hcs',<-l.length,H];exact SV _ hkc'
   .rw[<-l.length,H,htk];exact l.mono hR
  .simp only[Rel];refine⟨by simp[avL],λb N e=>?_⟩;rw[aA]at e;cases e;exact⟨c',O,hkc',hcm',hcs'⟩
theorem dB{j:Nat}{cs news:List PV}(id':Nat)(D:ElemIs C.P t e z size bytes)(E:σ.ev n x= .osl id size k)(G:σ.ob id=Sh (.cells e cs))(d:cs.length=k*size)
  (l:nP n σ y j news) (H:news.length=j*size) (q:∀c∈news,c.leaf=Sm) (I:k+j<=1000000000) (r:σ.av id'=Sm):
  XJ C n ⟨dst,.call { callee:= .builtin .append,args:= #[x,y],argTypes:= #[t,t] },ty,pos,after,gd⟩ σ ⟨.osl id' size (k+j),[(id',Sh (.cells e (cs++news))),(id,Sl)],[id']⟩:=by
 have h:=gv (dst:=dst) (ty:=ty) (pos:=pos) (after:=after) (gd:=gd) id' D E G (SQ d.symm) (λB=>l.row B) H q I r;rwa [<-d,T3]at h
theorem BP{j:Nat}{news:List PV}(id':Nat)(d:ElemIs C.P t e z size bytes)(H:σ.ev n x= .pv (.sl (Sh Sm) 0 []))
  (l:nP n σ y j news) (I:news.length=j*size) (B:∀c∈news,c.leaf=Sm) (J:j<=1000000000) (L:0<j) (D:σ.av id'=Sm):
  XJ C n ⟨dst,.call { callee:= .builtin .append,args:= #[x,y],argTypes:= #[t,t] },ty,pos,after,gd⟩ σ ⟨.osl id' size j,[(id',Sh (.cells e news))],[id']⟩:=by
 rintro a w Q ⟨m,R,hw⟩;have E:=hw.pv H;simp only[RelP]at E;obtain⟨A0,c0,hev,_,_,hn,hc0,_⟩:=E;have r:A0=Sl:=by cases A0;rfl;have:=hn Sm O;simp at this
 subst r;rw[hc0 trivial]at hev;obtain⟨A,c2,us,hev2,hr2,hrow⟩:=l.row hw;refine nN x y t O 0 e z size bytes d.u d.info d.zs d.pos d.by_ _ 0 j c2 A _ us hev hev2 (World.ownsRow_nil w 0 e size) hrow (by rw[hr2.length,I]) (dN hr2 B) Vf (cd _) ?_;intro A' c' w' hown' hgr hat
 simp only[RV,Sr]at hown' hat ⊢;rcases hown'.2 with⟨hv,h0⟩|⟨g,cap,cur,hv,_,hg,hkc',hcm',hcs',htk⟩
 .omega
 .simp only[Value.slice.injEq]at hv;obtain⟨rfl, -,rfl⟩:=hv;have G:w.heap.size<=g:=by
   rcases hat with h|⟨g',h,hle⟩
   .simp[Value.ownBlock]at h
   .simp only[Value.ownBlock,Rq]at h;subst h;exact hle
  refine⟨_,O,upd m id' (Sh (g,cur.size)),R,?_⟩;rw[Rc];refine SW.put (hw.fresh D hg hgr (λq hq=>by simp[Value.ownBlock]at hq) (λh=>by have:=hw.hr.rsz _ h;omega) (λi b N hi e=>by have:=(hw.hr.own i b N hi).1;omega) (.inr (by have:=hw.hr.frame.size;omega)) (.cells e news) ?_) dst ?_
  .intro m' av' hR _ _;refine⟨cur,hg,O,?_,?_⟩
   .rw[hcs',<-hr2.length,hown'.1];exact SV _ hkc'
   .rw[<-hr2.length,hown'.1,htk];exact hr2.mono hR
  .simp only[Rel];refine⟨by simp[avL],λb N e=>?_⟩;rw[aA]at e;cases e;exact⟨c',O,hkc',hcm',hcs'⟩
end
end
section
def look:List (Nat×V)->Nat->V
 |[],_=> .pv .any
 |(d,v)::l,t=>bif Nat.beq t d then v else look l t
def ax:List (Nat×Ob)->Nat->Option Ob
 |[],_=>Sl
 |(d,v)::l,t=>bif Nat.beq t d then Sh v else ax l t
def avK(k:Nat):Av:=λid=>Nat.ble k id&&Nat.blt id big
def mkS(l:List (Nat×V))(os:List (Nat×Ob))(k:Nat):St:=⟨look l,ax os,avK k⟩
mutual
def V.okA(k:Nat):V->Bool
 | .pv _=>Sm
 | .ptr id _=>Nat.blt id k||Nat.ble big id
 | .osl id _ _=>Nat.blt id k||Nat.ble big id
 | .tsl id _ _=>Nat.blt id k||Nat.ble big id
 | .gsl id _ _=>Nat.blt id k||Nat.ble big id
 | .map id=>Nat.blt id k||Nat.ble big id
 | .agg cs=>V.okL k cs
 | .tup cs=>V.okL k cs
 | .fn _ a b=>V.okL k a&&V.okL k b
def V.okL(k:Nat):List V->Bool
 |[]=>Sm
 |c::cs=>V.okA k c&&V.okL k cs
end
def Ob.okA(k:Nat):Ob->Bool
 | .cells _ _=>Sm
 | .mix _ cs=>V.okL k cs
 | .gro _ _=>Sm
 | .mp _ _=>Sm
 | .it _ _=>Sm
 | .fro _ _=>Sm
 | .mi _ _ _=>Sm
section
variable {w:World}{m m':Gm}{av:Av}{R:Nat->Prop}{k:Nat}
theorem iI{k:Nat}(h:(Nat.blt id k||Nat.ble big id)=Sm):avK k id=S1:=by
 unfold avK;cases hb:Nat.ble k id
 .rfl
 .cases hc:Nat.blt id big
  .rfl
  .have h1:=Rz hb;have d:id<big:=by simpa[Tw]using hc
   rcases(Bool.or_eq_true_iff).1 h with h|h
   .have h2:id<k:=by simpa[Tw]using h
    omega
   .have h2:=Rz h;omega
theorem Ly{k:Nat}(h:avK k id=Sm):k<=id/\id<big:=by
 unfold avK at h;simp only[sh]at h;exact⟨Rz h.1,by simpa[Tw]using h.2⟩
theorem cR{k:Nat}(h:big<=id):avK k id=S1:=by
 cases hb:avK k id
 .rfl
 .have:=(Ly hb).2;omega
mutual
theorem Rel.okA(d:∀id x,m' id=Sh x->m id=Sh x):∀(v:V)(u:Value),v.okA k=Sm->Rel w m av R v u->Rel w m' (avK k) R v u
 | .pv p,u,_,h=>by simpa only[Rel]using h
 | .ptr id off,_,ho,h=>by simp only[V.okA]at ho;simp only[Rel]at h ⊢; exact⟨iI ho,λb N e=>h.2 b N (d _ _ e)⟩
 | .osl id sz n,_,ho,h=>by simp only[V.okA]at ho;simp only[Rel]at h ⊢; exact⟨iI ho,λb N e=>h.2 b N (d _ _ e)⟩
 | .tsl id sz n,_,ho,h=>by
   simp only[V.okA]at ho;simp only[Rel]at h ⊢;obtain⟨h0,A,c,e,h1⟩:=h;exact⟨iI ho,A,c,e,λhq b N e=>h1 hq b N (d _ _ e)⟩
 | .gsl id sz n,_,ho,h=>by
   simp only[V.okA]at ho;simp only[Rel]at h ⊢;obtain⟨h0,A,c,e,h1,h2,h3,h4⟩:=h;exact⟨iI ho,A,c,e,h1,h2,λl=>⟨(h3 l).1,(h3 l).2.1,nI (λx=>d id x) (h3 l).2.2⟩,λhp b N e=>h4 hp b N (d _ _ e)⟩
 | .map id,_,ho,h=>by simp only[V.okA]at ho;simp only[Rel]at h ⊢; exact⟨iI ho,λb N e=>h.2 b N (d _ _ e)⟩
 | .agg cs,_,ho,h=>by
   simp only[V.okA]at ho;simp only[Rel]at h ⊢;obtain⟨us,e,h⟩:=h;exact⟨us,e,RelL.okA d cs us ho h⟩
 | .tup cs,_,ho,h=>by
   simp only[V.okA]at ho;simp only[Rel]at h ⊢;obtain⟨us,e,h⟩:=h;exact⟨us,e,RelL.okA d cs us ho h⟩
 | .fn f fs cs,_,ho,h=>by
   simp only[V.okA,sh]at ho;simp only[Rel]at h ⊢;obtain⟨us,vs,e,h1,h2⟩:=h;exact⟨us,vs,e,RelL.okA d fs us ho.1 h1,RelL.okA d cs vs ho.2 h2⟩
theorem RelL.okA(d:∀id x,m' id=Sh x->m id=Sh x):∀(vs:List V)(us:List Value),V.okL k vs=Sm->RelL w m av R vs us->RelL w m' (avK k) R vs us
 |[],_,_,h=>by simpa only[RelL]using h
 | c::cs,_,ho,h=>by
   simp only[V.okL,sh]at ho;simp only[RelL]at h ⊢;obtain⟨u,vs,e,h1,h2⟩:=h;exact⟨u,vs,e,Rel.okA d c u ho.1 h1,RelL.okA d cs vs ho.2 h2⟩
end
end
def CZ(σ:St):List (Nat×V)->Prop
 |[]=>True
 |(t,v)::l=>σ.sl t=v/\CZ σ l
def GY(σ:St):List (Nat×Ob)->Prop
 |[]=>True
 |(t,v)::l=>σ.ob t=Sh v/\GY σ l
theorem vh{σ:St}:∀{l:List (Nat×V)},CZ σ l->∀t,look l t= .pv .any\/look l t=σ.sl t
 |[],_,_=> .inl O
 | (d,v)::l,h,t=>by
   simp only[look];cases hb:Nat.beq t d with
   |true=>have:=aJ hb;subst this;exact .inr h.1.symm
   |false=>simpa using vh h.2 t
theorem look_ok:∀{l:List (Nat×V)},l.all (λp=>p.2.okA k)=Sm->∀t,(look l t).okA k=Sm
 |[],_,_=>rfl
 | (d,v)::l,h,t=>by
   simp only[TG,sh]at h;simp only[look];cases hb:Nat.beq t d with
   |true=>exact h.1
   |false=>simpa using look_ok h.2 t
theorem ji{σ:St}:∀{l:List (Nat×Ob)},GY σ l->l.all (λp=>(Nat.blt p.1 k||Nat.ble big p.1)&&p.2.okA k)=Sm->∀t o,ax l t=Sh o->σ.ob t=Sh o/\avK k t=S1/\o.okA k=Sm
 |[],_,_,_,_,h=>by simp[ax]at h
 | (d,v)::l,h,hk,t,o,ho=>by
   simp only[TG,sh]at hk;simp only[ax]at ho;cases hb:Nat.beq t d with
   | true=>
     have:=aJ hb;subst this;rw[hb]at ho;simp at ho;subst ho;exact⟨h.1,iI hk.1.1,hk.1.2⟩
   |false=>rw[hb]at ho;exact ji h.2 hk.2 t o (by simpa using ho)
theorem Q5{σ:St}{l:List (Nat×V)}{os:List (Nat×Ob)}(G:CZ σ l)(B:GY σ os)(H:l.all (λp=>p.2.okA k)=Sm)(D:os.all (λp=>(Nat.blt p.1 k||Nat.ble big p.1)&&p.2.okA k)=Sm):σ.le (mkS l os k):=by
 rintro C n a w ⟨m,R,hw⟩;refine⟨λid=>if(ax os id).isSome then m id else Sl,R,?_⟩;have d:∀id x,(if(ax os id).isSome then m id else Sl)=Sh x->m id=Sh x:=λid x e=>by
  split at e
  .exact e
  .cases e
 refine⟨⟨?_,?_,?_,?_,?_,?_,?_,?_,?_,?_,?_⟩,hw.df,hw.sz,?_⟩
 .intro id;show(if(ax os id).isSome then m id else Sl).isSome=bI (ax os id);cases e:ax os id with
  |none=>rfl
  | some o=>
    have:=hw.hr.dom id;rw[(ji B D id o e).1]at this;simpa using this
 .intro id hid;show ax os id=Sl;cases e:ax os id with
  |none=>rfl
  | some o=>
    have:=(ji B D id o e).2.1;have r:avK k id=Sm:=hid;rw[r]at this;cases this
 .intro id o b N h3 h4;have E:=ji B D id o h3;have q:=hw.hr.obj id o b N E.1 (d _ _ h4);cases o with
  |cells ty cs=>exact q
  |gro ty cs=>exact q
  |mp ks vs=>exact q
  |it s pos=>exact q
  |fro s pos=>exact q
  |mi cur ks vs=>exact q
  | mix ty cs=>
    obtain⟨arr,q1,q2,q3,q4⟩:=q;exact⟨arr,q1,q2,q3,q4.okA d _ _ E.2.2⟩
 .exact λi j b N N' e1 e2=>hw.hr.inj i j b N N' (d _ _ e1) (d _ _ e2)
 .exact λid b N e=>hw.hr.own id b N (d _ _ e)
 .exact hw.hr.rsz
 .exact hw.hr.rfr
 .exact hw.hr.r0
 .exact hw.hr.frame
 .exact λid x hi e=>hw.hr.keep id x hi (d id x e)
 .exact λid hi=>cR hi
 .intro t ht;show Rel w _ (avK k) R (look l t) _;rcases vh G t with e|e
  .rw[e];simp only[Rel,RelP]
  .have:=look_ok H t;rw[e]at this ⊢;exact(hw.sl t ht).okA d _ _ this
def St.pub(σ:St)(id:Nat)(ts:List Nat)(p:PV):St:=⟨λt=>bif ts.contains t then .pv p else σ.sl t,obL [(id,Sl)] σ.ob,σ.av⟩
def MQ(σ:St)(v:V):List Nat->Prop
 |[]=>True
 |t::ts=>σ.sl t=v/\MQ σ v ts
theorem vv{σ:St}{v:V}:∀{ts:List Nat},MQ σ v ts->∀t∈ts,σ.sl t=v
 |[],_,t,h=>by simp at h
 | q::ts,h,t,hm=>by
   rcases AS.1 hm with rfl|hm
   .exact h.1
   .exact vv h.2 t hm
theorem St.PA{σ:St}{cs:List PV}(id:Nat)(ts:List Nat)(I:σ.ob id=Sh (.cells T cs))(E:MQ σ (.osl id sz k) ts)(J:k*sz<=cs.length):σ.le (σ.pub id ts (.sl Sl k (cs.take (k*sz)))):=by
 rintro C n a w ⟨m,R,hw⟩;have G:=vv E;obtain⟨b,N,hm,arr,hb,hN,hle,hr⟩:=hw.live I;have r:=hw.hr.own id b N hm;have l:=hw.drop id;have d:∀q,R q->(R q\/q=b)/\w.heap[q]? =w.heap[q]? :=λq hq=>⟨.inl hq,O⟩
 have B:∀i x,upd m id Sl i=Sh x->m i=Sh x/\i≠id:=λi x e=>by
  by_cases hi:i=id
  .subst hi;rw[aA]at e;cases e
  .rw[aR _ _ hi]at e;exact⟨e,hi⟩
 refine⟨upd m id Sl,λq=>R q\/q=b,?_⟩;refine⟨⟨l.hr.dom,l.hr.free,?_,l.hr.inj,?_,?_,?_,?_,hw.hr.frame,l.hr.keep,l.hr.res⟩,hw.df,hw.sz,?_⟩
 .intro i o b' N' h1 h2;exact(l.hr.obj i o b' N' h1 h2).mono d (λ_ _ _ e=>e) (λ_ e=>e) O
 .intro i b' N' h1;obtain⟨h2,h3,h4⟩:=l.hr.own i b' N' h1;refine⟨h2,?_,h4⟩;rintro(h5|h5)
  .exact h3 h5
  .exact(B i _ h1).2 (Hy hw (B i _ h1).1 hm h5)
 .rintro q (hq|hq)
  .exact hw.hr.rsz q hq
  .rw[hq];exact r.1
 .rintro q (hq|hq)
  .exact hw.hr.rfr q hq
  .rw[hq];rcases r.2.2 with h|h
   .exact .inr (.inr h)
   .exact .inr (.inl h)
 .exact λq hq=> .inl (hw.hr.r0 q hq)
 .intro t ht;show Rel w _ σ.av _ (bif ts.contains t then .pv _ else σ.sl t) _;cases hc:ts.contains t with
  |false=>exact(l.sl t ht).mono d (λ_ _ _ e=>e) (λ_ e=>e)
  | true=>
    have D:t∈ts:=by simpa using hc
    have H:=hw.sl t ht;rw[G t D]at H;simp only[Rel]at H;obtain⟨c,he,h1,h2,h3⟩:=H.2 b N hm;simp only[Sy,Rel,RelP];refine⟨_,c,he,h1,h2,(λ_ e=>by cases e),(λe=>by cases e),λ_=>⟨b,0,_,rfl,(hr.take (k*sz)).mono d,.inr rfl,?_⟩⟩;intro j hj;simp only[Rr]at hj;rw[RV,cell_of_row w b j arr T (0,0) hb,Ry,AT Vf,Ry,AT Vf];simp
def V.HD(ob:Nat->Option Ob):V->Option PV
 | .pv p=>Sh p
 | .osl id sz k=>match ob id with
   |some (.cells _ cs)=>Sh (.sl (Sh S1) k cs)
   |_=>Sl
 | .gsl id sz k=>match ob id with
   |some (.gro _ cs)=>Sh (.sl Sl k cs)
   |_=>Sl
 |_=>Sl
def V.CC(ob:Nat->Option Ob):List V->Option (List PV)
 |[]=>Sh []
 | c::cs=>match c.HD ob,V.CC ob cs with
   |some p,Sh ps=>Sh (p::ps)
   |_,_=>Sl
def V.toP(ob:Nat->Option Ob):V->Option PV
 | .agg cs=>match V.CC ob cs with|some ps=>Sh (.agg ps)|none=>Sl
 | .fn f a b=>match V.CC ob a,V.CC ob b with|some ps,Sh qs=>Sh (.fn f ps qs)|_,_=>Sl
 |v=>v.HD ob
def V.args(ob:Nat->Option Ob):List V->Option (List PV)
 |[]=>Sh []
 | c::cs=>match c.toP ob,V.args ob cs with
   |some p,Sh ps=>Sh (p::ps)
   |_,_=>Sl
def dG(m:Gm)(b:Nat):Prop:=∃id N,m id=Sh (b,N)
section
variable {C:Ctx}{n:Nat}{σ:St}{a:Act}{w:World}{m:Gm}{R:Nat->Prop}
theorem SW.HD(D:SW C n σ a w m R){v:V}{p:PV}(h:Rel w m σ.av R v u)(l:v.HD σ.ob=Sh p):RelP w (λb=>R b\/dG m b) p u:=by
 have d:∀q,R q->(R q\/dG m q)/\w.heap[q]? =w.heap[q]? :=λq hq=>⟨.inl hq,O⟩
 cases v with
 |pv q=>simp only[V.HD,Rq]at l;subst l;simp only[Rel]at h;exact h.mono d
 | osl id sz k=>
   simp only[V.HD]at l;split at l
   .rename_i T cs ho;simp at l;subst l;obtain⟨b,N,hm,arr,hbk,hN,hle',hr⟩:=D.live ho;simp only[Rel]at h;obtain⟨c,he,h1,h2,h3⟩:=h.2 b N hm;simp only[RelP];refine⟨_,c,he,h1,h2,(λ_ e=>by cases e;rfl),(λe=>by cases e),λ_=>⟨b,0,_,rfl,hr.mono d,.inr ⟨id,N,hm⟩,?_⟩⟩;intro j hj;simp only[Rr]at hj;rw[RV,cell_of_row w b j arr T (0,0) hbk,Ry,AT Vf];simp
   .cases l
 | gsl id sz k=>
   simp only[V.HD]at l;split at l
   .rename_i T cs ho;simp at l;subst l;simp only[Rel]at h;obtain⟨h0,A,c,he,h1,h2,h3,h4⟩:=h;simp only[RelP];refine⟨_,c,he,h1,h2,(λ_ e=>by cases e),(λe=>by cases e),λB=>?_⟩;have r:(Ob.gro T cs).real=Sm:=by cases cs;exact absurd O B;rfl
    obtain⟨b,N,hm,arr,hbk,hN,hle',hr⟩:=D.live ho r;have E:0<k:=by
     rcases SY k with e|e
     .have:=(h3 e).2.2;rw[hm]at this;cases this
     .exact e
    refine⟨b,0,_,(h4 E b N hm).1,hr.mono d,.inr ⟨id,N,hm⟩,?_⟩;intro j hj;simp only[Rr]at hj;rw[RV,cell_of_row w b j arr T (0,0) hbk,Ry,AT Vf];simp
   .cases l
 |_=>simp[V.HD]at l
theorem SW.CC(d:SW C n σ a w m R):∀{vs:List V}{us:List Value}{ps:List PV},RelL w m σ.av R vs us->V.CC σ.ob vs=Sh ps->RelPL w (λb=>R b\/dG m b) ps us
 |[],_,_,h,hp=>by simp only[V.CC,Rq]at hp;subst hp;simpa only[RelL,RelPL]using h
 | c::cs,_,_,h,hp=>by
   simp only[V.CC]at hp;split at hp
   .rename_i p ps h1 h2;simp at hp;subst hp;simp only[RelL]at h;obtain⟨u,us,rfl,hc,hr⟩:=h;exact RelPL.cons (d.HD hc h1) (SW.CC d hr h2)
   .cases hp
theorem SW.toP(l:SW C n σ a w m R){v:V}{p:PV}(h:Rel w m σ.av R v u)(d:v.toP σ.ob=Sh p):RelP w (λb=>R b\/dG m b) p u:=by
 cases v with
 | agg cs=>
   simp only[V.toP]at d;split at d
   .rename_i ps h1;simp at d;subst d;simp only[Rel]at h;obtain⟨us,rfl,hr⟩:=h;simp only[RelP];exact⟨us,O,l.CC hr h1⟩
   .cases d
 | fn f a b=>
   simp only[V.toP]at d;split at d
   .rename_i ps qs h1 h2;simp at d;subst d;simp only[Rel]at h;obtain⟨us,vs,rfl,ha,hb⟩:=h;simp only[RelP];exact⟨us,vs,O,l.CC ha h1,l.CC hb h2⟩
   .cases d
 |_=>exact l.HD h d
theorem SW.args(d:SW C n σ a w m R):∀{vs:List V}{us:List Value}{ps:List PV},RelL w m σ.av R vs us->V.args σ.ob vs=Sh ps->RelPL w (λb=>R b\/dG m b) ps us
 |[],_,_,h,hp=>by simp only[V.args,Rq]at hp;subst hp;simpa only[RelL,RelPL]using h
 | c::cs,_,_,h,hp=>by
   simp only[V.args]at hp;split at hp
   .rename_i p ps h1 h2;simp at hp;subst hp;simp only[RelL]at h;obtain⟨u,us,rfl,hc,hr⟩:=h;exact RelPL.cons (d.toP hc h1) (SW.args d hr h2)
   .cases hp
theorem SW.evs(hw:SW C n σ a w m R):∀(xs:List Operand),RelL w m σ.av R (xs.map (σ.ev n)) (xs.map a.eval)
 |[]=>by simpa using RelL.nil
 |x::xs=>by simpa using RelL.cons (hw.ev x) (SW.evs hw xs)
end
def PV.fg1:PV->PV
 | .sl _ n cs=> .sl Sl n cs
 |p=>p
def PV.fgL:List PV->List PV
 |[]=>[]
 |p::ps=>p.fg1::PV.fgL ps
def PV.fg:PV->PV
 | .agg cs=> .agg (PV.fgL cs)
 | .tup cs=> .tup (PV.fgL cs)
 |p=>p.fg1
def PV.fgA:List PV->List PV
 |[]=>[]
 |p::ps=>p.fg::PV.fgA ps
theorem RelP.fg1{p:PV}(h:RelP w R p u):RelP w R p.fg1 u:=by
 cases p with
 | sl b n cs=>
   simp only[RelP,PV.fg1]at h ⊢;obtain⟨A,c,e,h1,h2,_,_,h5⟩:=h;exact⟨A,c,e,h1,h2,(λ_ e=>by cases e),(λe=>by cases e),h5⟩
 |_=>exact h
theorem RelPL.fgL:∀{ps:List PV}{us:List Value},RelPL w R ps us->RelPL w R (PV.fgL ps) us
 |[],_,h=>h
 | p::ps,_,h=>by
   simp only[RelPL,PV.fgL]at h ⊢;obtain⟨u,vs,e,h1,h2⟩:=h;exact⟨u,vs,e,h1.fg1,RelPL.fgL h2⟩
theorem RelP.fg{p:PV}(h:RelP w R p u):RelP w R p.fg u:=by
 cases p with
 | agg cs=>
   simp only[RelP,PV.fg]at h ⊢;obtain⟨us,e,h⟩:=h;exact⟨us,e,h.fgL⟩
 | tup cs=>
   simp only[RelP,PV.fg]at h ⊢;obtain⟨us,e,h⟩:=h;exact⟨us,e,h.fgL⟩
 |_=>exact h.fg1
theorem RelPL.fgA:∀{ps:List PV}{us:List Value},RelPL w R ps us->RelPL w R (PV.fgA ps) us
 |[],_,h=>h
 | p::ps,_,h=>by
   simp only[RelPL,PV.fgA]at h ⊢;obtain⟨u,vs,e,h1,h2⟩:=h;exact⟨u,vs,e,h1.fg,RelPL.fgA h2⟩
def St.fgS(σ:St)(ts:List Nat):St:=⟨λt=>bif ts.contains t then(match σ.sl t with| .pv p=> .pv p.fg|v=>v)else σ.sl t,σ.ob,σ.av⟩
theorem St.qq{σ:St}(ts:List Nat):σ.le (σ.fgS ts):=by
 rintro C n a w ⟨m,R,hw⟩;refine⟨m,R,hw.hr,hw.df,hw.sz,λt ht=>?_⟩;have h:=hw.sl t ht;show Rel w m σ.av R (bif ts.contains t then(match σ.sl t with| .pv p=> .pv p.fg|v=>v)else σ.sl t) _;cases ts.contains t
 .exact h
 .simp only[Sy];cases hv:σ.sl t with
  |pv p=>rw[hv]at h;simp only[Rel]at h ⊢; exact h.fg
  |_=>rw[hv]at h;exact h
def St.fgO(σ:St)(id:Nat)(T:TypeId)(cs:List PV):St:=⟨σ.sl,obL [(id,Sh (.cells T (PV.fgL cs)))] σ.ob,σ.av⟩
theorem PV.lT:∀cs:List PV,(PV.fgL cs).length=cs.length
 |[]=>rfl
 |_::cs=>by simp[PV.fgL,PV.lT cs]
theorem St.QA{σ:St}{cs:List PV}(r:σ.ob id=Sh (.cells T cs)):σ.le (σ.fgO id T cs):=by
 rintro C n a w ⟨m,R,hw⟩;have l:∀i,i≠id->obL [(id,Sh (.cells T (PV.fgL cs)))] σ.ob i=σ.ob i:=λi hi=>by
  have:Nat.beq i id=S1:=by cases hb:Nat.beq i id;rfl;exact absurd (aJ hb) hi
  simp[obL,this]
 have q:obL [(id,Sh (.cells T (PV.fgL cs)))] σ.ob id=Sh (.cells T (PV.fgL cs)):=by simp[obL]
 refine⟨m,R,⟨?_,?_,?_,hw.hr.inj,hw.hr.own,hw.hr.rsz,hw.hr.rfr,hw.hr.r0,hw.hr.frame,hw.hr.keep,hw.hr.res⟩,hw.df,hw.sz,hw.sl⟩
 .intro i;show(m i).isSome=bI (obL _ σ.ob i);by_cases e:i=id
  .subst e;rw[q,hw.hr.dom,r];rfl
  .rw[l i e];exact hw.hr.dom i
 .intro i hi;show obL _ σ.ob i=Sl;by_cases e:i=id
  .subst e;have:=hw.hr.free i hi;rw[r]at this;cases this
  .rw[l i e];exact hw.hr.free i hi
 .intro i o b N h1 h2;by_cases e:i=id
  .subst e;have d:obL [(i,Sh (.cells T (PV.fgL cs)))] σ.ob i=Sh o:=h1;rw[q]at d;cases d;obtain⟨arr,q1,q2,q3,q4⟩:=hw.hr.obj i _ b N r h2;exact⟨arr,q1,q2,by rw[PV.lT];exact q3,by rw[PV.lT];exact q4.fgL⟩
  .have d:obL [(id,Sh (.cells T (PV.fgL cs)))] σ.ob i=Sh o:=h1;rw[l i e]at d;exact hw.hr.obj i o b N d h2
def FnP(P:Program)(f:FuncId)(args:List PV)(Q:PV->Prop):Prop:=
 ∀(w:World)(R:Nat->Prop)(us:List Value),ow w R->(∀b,R b->b<w.heap.size)->RelPL w R args us->
  Calls P f us.toArray w λe w'=>∃u v,e= .returned u/\Q v/\Below w.heap.size w w'/\RelP w' (λb=>R b\/(w.heap.size<=b/\b<w'.heap.size)) v u
theorem FnP.mono{args:List PV}{Q Q':PV->Prop}(h:FnP P f args Q)(d:∀v,Q v->Q' v):FnP P f args Q':=
 λw R us h0 h1 h2=>(h w R us h0 h1 h2).mono λ_ _ ⟨u,v,e,q,r⟩=>⟨u,v,e,d v q,r⟩
def cu(P:Program)(f:FuncId):Prop:=∀args w,(callFunc f args).run P w= .ok (.enter f args) w
def PV.flat:PV->Bool
 | .int _ _| .bool _| .str _| .nilfn| .nilptr| .nilmap| .niliface| .any=>Sm
 | .tup ps=>ps.all fun| .int _ _| .bool _| .str _=>Sm|_=>S1
 | .agg ps=>ps.all fun| .int _ _| .bool _| .str _=>Sm|_=>S1
 |_=>S1
theorem ND{w':World}{R':Nat->Prop}:∀{ps:List PV}{us:List Value},(ps.all fun| .int _ _| .bool _| .str _=>Sm|_=>S1)=Sm->RelPL w R ps us->RelPL w' R' ps us
 |[],_,_,h=>by simpa only[RelPL]using h
 | c::cs,_,hf,h=>by
   simp only[TG,sh]at hf;simp only[RelPL]at h ⊢;obtain⟨u,us,e,hc,hr⟩:=h;refine⟨u,us,e,?_,ND hf.2 hr⟩;cases c<;>simp at hf<;>simpa only[RelP]using hc
theorem RelP.flat{w':World}{R':Nat->Prop}{p:PV}(d:p.flat=Sm)(h:RelP w R p u):RelP w' R' p u:=by
 cases p<;>simp only[PV.flat,Sz]at d<;>simp only[RelP]at h ⊢
 case agg ps=>obtain⟨us,e,h⟩:=h;exact⟨us,e,ND d h⟩
 case tup ps=>obtain⟨us,e,h⟩:=h;exact⟨us,e,ND d h⟩
 all_goals exact h
section
variable {C:Ctx}{n:Nat}{σ:St}{dst:Option Tmp}{ty:TypeId}{ts:Array TypeId}{pos:String}{after:Array Edge}{gd:Option (Nat×Bool)}
theorem SW.called{w':World}(d:SW C n σ a w m R)(l:Below w.heap.size w w'):
  SW C n σ a w' m (λb=>R b\/(w.heap.size<=b/\b<w'.heap.size)):=by
 have q:∀b,R b->(R b\/(w.heap.size<=b/\b<w'.heap.size))/\w'.heap[b]? =w.heap[b]? :=λb h=>⟨.inl h,l.block b (d.hr.rsz b h)⟩
 have:=d.world (w':=w') (m':=m) (R':=λb=>R b\/(w.heap.size<=b/\b<w'.heap.size)) (ob':=σ.ob) (av':=σ.av) ?_ q (λ_ _ _ e=>e) (λ_ e=>e)
 .exact this
 refine⟨d.hr.dom,d.hr.free,?_,d.hr.inj,?_,?_,?_,λb h=> .inl (d.hr.r0 b h),?_,d.hr.keep,d.hr.res⟩
 .intro i o b N h1 h2;exact(d.hr.obj i o b N h1 h2).mono q (λ_ _ _ e=>e) (λ_ e=>e) (l.block b (d.hr.own i b N h2).1)
 .intro i b N h1;obtain⟨h2,h3,h4⟩:=d.hr.own i b N h1;refine⟨RA h2 l.size,?_,h4⟩;rintro(h5|h5)
  .exact h3 h5
  .omega
 .rintro b (h|h)
  .exact RA (d.hr.rsz b h) l.size
  .exact h.2
 .rintro b (h|h)
  .exact d.hr.rfr b h
  .exact .inr (.inl (IT d.hr.frame.size h.1))
 .refine⟨l.os.trans d.hr.frame.os,l.tape.trans d.hr.frame.tape,l.output.trans d.hr.frame.output,IT d.hr.frame.size l.size,λk hk hF=>?_⟩;rw[l.block k (RA hk d.hr.frame.size)];exact d.hr.frame.block k hk hF
theorem lU(hc:cu P f)(xs:Array Operand)(a:Act)(w:World):
  (execOp a.eval ⟨dst,.call { callee:= .value (.func f),args:=xs,argTypes:=ts },ty,pos,after,gd⟩).run P w= .ok (.enter f (xs.map a.eval)) w:=by
 simp[execOp,resolve,Deferred.ofValue,Act.eval,invoke,hc];exact hc _ _
theorem eW{ps:List PV}{Q:PV->Prop}{K:St->Prop}(hc:cu C.P f)(B:FnP C.P f ps Q)(d:(V.args (λ_=>Sl) (xs.toList.map (σ.ev n))).map PV.fgA=Sh ps)(D:∀v,Q v->K (σ.put dst (.pv v))):
  OJ C n ⟨dst,.call { callee:= .value (.func f),args:=xs,argTypes:=ts },ty,pos,after,gd⟩ K σ:=by
 rintro a w Q' ⟨m,R,hw⟩;unfold Oper.wp;rw[lU hc];have l:RelPL w R ps (xs.toList.map a.eval):=by
  have q:SW C n ⟨σ.sl,λ_=>Sl,σ.av⟩ a w (λ_=>Sl) R:=by
   refine⟨⟨λ_=>rfl,λ_ _=>rfl,λ_ _ _ _ h=>(by cases h),λ_ _ _ _ _ h=>(by cases h),λ_ _ _ h=>(by cases h),hw.hr.rsz,hw.hr.rfr,hw.hr.r0,hw.hr.frame,λ_ _ _ h=>(by cases h),hw.hr.res⟩,hw.df,hw.sz,λt ht=>(hw.sl t ht).mono (λb h=>⟨h,rfl⟩) (λ_ _ _ e=>by cases e) (λ_ e=>e)⟩
  obtain⟨ps0,hargs0,rfl⟩:=T4.1 d;have r:=(q.args (q.evs xs.toList) hargs0).fgA;exact r.mono λb hb=>⟨hb.elim id (fun⟨_,_,h⟩=>by cases h),rfl⟩
 have:=B w R (xs.toList.map a.eval) hw.hr.gi hw.hr.rsz l;have e:(xs.toList.map a.eval).toArray=xs.map a.eval:=by rw[<-Array.toList_map,Array.toArray_toList]
 rw[e]at this;refine Calls.mono this ?_;rintro e w' ⟨u,v,rfl,hq,hb,hr⟩;exact⟨_,D v hq,m,_,(hw.called hb).put dst (by simpa only[Rel]using hr)⟩
theorem aa{ps:List PV}{r:PV}(hc:cu C.P f)(l:FnP C.P f ps (· =r))(d:(V.args (λ_=>Sl) (xs.toList.map (σ.ev n))).map PV.fgA=Sh ps):
  XJ C n ⟨dst,.call { callee:= .value (.func f),args:=xs,argTypes:=ts },ty,pos,after,gd⟩ σ ⟨.pv r,[],[]⟩:=
 eW hc l d (by rintro v rfl;exact(St.ib σ dst _).symm)
theorem KX{ps:List PV}{Q:PV->Prop}{K:St->Prop}(hc:cu C.P f)(r:FnP C.P f ps Q)(d:(V.args σ.ob (xs.toList.map (σ.ev n))).map PV.fgA=Sh ps)(q:∀v,Q v->v.flat=Sm)(B:∀v,Q v->K (σ.put dst (.pv v))):
  OJ C n ⟨dst,.call { callee:= .value (.func f),args:=xs,argTypes:=ts },ty,pos,after,gd⟩ K σ:=by
 rintro a w Q' ⟨m,R,hw⟩;unfold Oper.wp;rw[lU hc];obtain⟨ps0,hargs0,rfl⟩:=T4.1 d;have l:=(hw.args (hw.evs xs.toList) hargs0).fgA;have:=r w (λb=>R b\/dG m b) (xs.toList.map a.eval) (hw.hr.gi.mono λb hb=>⟨.inl hb,O⟩) (by rintro b (h|⟨id,N,h⟩);exact hw.hr.rsz b h;exact(hw.hr.own id b N h).1) l;have e:(xs.toList.map a.eval).toArray=xs.map a.eval:=by rw[<-Array.toList_map,Array.toArray_toList]
 rw[e]at this;refine Calls.mono this ?_;rintro e w' ⟨u,v,rfl,hq,hb,hr⟩;exact⟨_,B v hq,m,_,(hw.called hb).put dst (by simp only[Rel];exact hr.flat (q v hq))⟩
theorem ta{ps:List PV}{r:PV}(hc:cu C.P f)(q:FnP C.P f ps (· =r))(d:(V.args σ.ob (xs.toList.map (σ.ev n))).map PV.fgA=Sh ps)(l:r.flat=Sm):
  XJ C n ⟨dst,.call { callee:= .value (.func f),args:=xs,argTypes:=ts },ty,pos,after,gd⟩ σ ⟨.pv r,[],[]⟩:=
 KX hc q d (by rintro v rfl;exact l) (by rintro v rfl;exact(St.ib σ dst _).symm)
end
def iz:Nat->List PV->List (Nat×V)
 |_,[]=>[]
 |k,p::ps=>(k,.pv p)::iz (k+1) ps
def yT(n:Nat)(σ:St):List ResultVar->Option (List V)
 |[]=>Sh []
 | .tmp t::l=>match yT n σ l with|some vs=>Sh (σ.ev n (.tmp t)::vs)|none=>Sl
 |_::_=>Sl
def fh:List PV->PV
 |[p]=>p
 |ps=> .tup ps
def retQ(fn:Func)(n:Nat)(Q:PV->Prop):Exit->St->Prop
 | .ret,σ| .normal,σ=>∃vs ps,yT n σ fn.results.toList=Sh vs/\V.args σ.ob vs=Sh ps/\Q (fh ps)
 |_,_=>False
def Pa(a:Act):ResultVar->Value
 | .tmp t=>a.eval (.tmp t)
 | .cell _ _=>undef
theorem rQ{σ:St}(w:World)(P:Program)(f:ResultVar->Sem Value)(d:∀t,f (.tmp t)=pure (a.tmps.getD t undef)):∀{l:List ResultVar}{vs:List V},yT n σ l=Sh vs->
  Sem.run P (l.mapM f) w= .ok (l.map (Pa a)) w
 |[],vs,h=>by simp
 | .tmp t::l,vs,h=>by
   simp only[yT]at h;split at h
   .rename_i vs' h';have hr:=rQ w P f d h';rw[List.mapM_cons,d];simp[hr,Pa,Act.eval]
   .cases h
 | .cell _ _::_,_,h=>by simp[yT]at h
theorem rE{σ:St}(hw:SW C n σ a w m R):∀{l:List ResultVar}{vs:List V},yT n σ l=Sh vs->RelL w m σ.av R vs (l.map (Pa a))
 |[],vs,h=>by simp only[yT,Rq]at h;subst h;simpa using RelL.nil
 | .tmp t::l,vs,h=>by
   simp only[yT]at h;split at h
   .rename_i vs' h';simp at h;subst h;simpa[Pa]using RelL.cons (hw.ev (.tmp t)) (rE hw h')
   .cases h
 | .cell _ _::_,_,h=>by simp[yT]at h
theorem FnP.of{fn:Func}{args:List PV}{Q:PV->Prop}(J:P.funcs[f]? =Sh fn)(l:fn.body=Sh c)(X:fn.ntmps=n)(U:args.length<=n)
  (h:∀m0 w0 F R0,AW ⟨P,m0,w0,F,R0⟩ n c (retQ fn n Q) (mkS (iz 0 args) [] 0)):FnP P f args Q:=by
 intro w R us hG hR hrel;refine calls_of_wp J l ?_
 let C:Ctx:=⟨P,λ_=>Sl,w,λ_=>False,⟨R,hG,λb h=>⟨hR b h,id⟩,[]⟩⟩
 have W:=hrel.length;have B:SJ C n (mkS (iz 0 args) [] 0) { tmps:=us.toArray++Array.replicate (fn.ntmps-us.toArray.size) undef,defers:=[] } w:=by
  refine⟨λ_=>Sl,R,⟨⟨λ_=>rfl,λ_ _=>rfl,λ_ _ _ _ h=>(by cases h),λ_ _ _ _ _ h=>(by cases h),λ_ _ _ h=>(by cases h),hR,λb h=> .inl h,λb h=>h,Fr.refl _ _,λ_ _ _ h=>(by cases h),λid hi=>cR (k:=0) hi⟩,rfl,Vk,?_⟩⟩;intro t ht;show Rel w _ (avK 0) R (look (iz 0 args) t) ((us.toArray++Array.replicate (fn.ntmps-us.toArray.size) undef).getD t undef);have I:∀(ps:List PV)(vs:List Value)(k:Nat),RelPL w R ps vs->k<=t->∀z:Value,vs[t-k]?.getD z=z\/True->Rel w (λ_=>Sl) (avK 0) R (look (iz k ps) t) (vs[t-k]?.getD z):=by
   intro ps;induction ps with
   |nil=>intro vs k _ _ z _;simp only[iz,look,Rel,RelP]
   | cons p ps ih=>
     intro vs k hr hk z _;simp only[RelPL]at hr;obtain⟨u,vs',rfl,h1,h2⟩:=hr;simp only[iz,look];by_cases e:t=k
     .subst e;simp only[Nat.beq_eq_true_eq,Ug,Sy,Ux];simpa[Rel]using h1
     .have l:Nat.beq t k=S1:=by cases l:Nat.beq t k;rfl;exact absurd (aJ l) e
      rw[l];have:=ih vs' (k+1) h2 Vf z (.inr trivial);have L:t-k=(t-(k+1))+1:=Vf;rw[L];simpa using this
  have:=I args us 0 hrel (cd _) undef (.inr trivial);simp only[UU]at this;rw[Sf,UQ];by_cases e:t<us.length
  .simpa[e]using this
  .rw[SF Vf]at this;simp only[RB,e,Up,TJ];split<;>simpa using this
 have r:=(h (λ_=>Sl) w (λ_=>False) ⟨R,hG,λb h=>⟨hR b h,id⟩,[]⟩).go _ w B;refine wp_mono r ?_;rintro ex a' w' ⟨σ',hq,m,R',hw⟩;have D:∀vs ps,yT n σ' fn.results.toList=Sh vs->V.args σ'.ob vs=Sh ps->Q (fh ps)->a'.defers=[]/\∃v,(results fn a'.tmps).run P w'= .ok v w'/\
   ∃u v_1,Ending.returned v= .returned u/\Q v_1/\Below w.heap.size w w'/\RelP w' (λb=>R b\/(w.heap.size<=b/\b<w'.heap.size)) v_1 u:=by
  intro vs ps h1 h2 h3;have E:=rE hw h1;have q:=λf J=>rQ (a:=a') w' P f J h1
  generalize fn.results.toList.map (Pa a')=us' at E q;have M:=hw.args E h2;have d:RelPL w' (λb=>R b\/(w.heap.size<=b/\b<w'.heap.size)) ps us':=M.mono λb l=>⟨by
   rcases l with l|⟨id,N,l⟩
   .rcases hw.hr.rfr b l with h|h|h
    .exact .inl h
    .exact .inr ⟨h,hw.hr.rsz b l⟩
    .exact h.elim
   .rcases(hw.hr.own id b N l).2.2 with h|h
    .exact h.elim
    .exact .inr ⟨h,(hw.hr.own id b N l).1⟩,O⟩
  have G:Below w.heap.size w w':=⟨hw.hr.frame.os,hw.hr.frame.tape,hw.hr.frame.output,hw.hr.frame.size,λk hk=>hw.hr.frame.block k hk id⟩;have H:=d.length;refine⟨hw.df,(if h:us'.toArray.size=1 then us'.toArray[0]else .tuple us'.toArray),?_,?_⟩
  .unfold results;rw[Array.mapM_eq_mapM_toList];simp only[Sem.run_bind,Sem.run_map];rw[q _ (λt=>rfl)];rfl
  .refine⟨_,_,O,h3,G,?_⟩;cases ps with
   | nil=>
     simp only[RelPL]at d;subst d;simp only[fh,RelP];exact⟨[],Vj,RelPL.nil⟩
   | cons p ps=>
     cases ps with
     | nil=>
       simp only[RelPL]at d;obtain⟨u,vs',rfl,h5,rfl⟩:=d;simpa[fh]using h5
     | cons p2 ps=>
       simp only[fh,RelP];refine⟨us',?_,d⟩;rw[dif_neg (by simp at H ⊢; omega)]
 cases ex with
 |normal=>obtain⟨vs,ps,h1,h2,h3⟩:=hq;exact D vs ps h1 h2 h3
 |ret=>obtain⟨vs,ps,h1,h2,h3⟩:=hq;exact D vs ps h1 h2 h3
 |_=>exact hq.elim
end
end Go.Proofs.YtoplpepiabedhaaGreatDoor
