/- Lemmas. No condition. -/
import Derived.Test.YtoplpepiabedhaaGreatDoorRows
import Derived.WalkKit
import Derived.WalkSpells
import Derived.WalkLawsBesides
import Derived.Maps.AppendAt
import Derived.Orders
import Derived.Deep.QuietTactic
import Derived.BigQuiet
import Derived.Deep.Draws
import Derived.Lib.Hide
import Derived.RegionTactic
import Derived.Deep.RegionLaw
import Derived.Deep.MidRow
set_option maxRecDepth 100000
set_option maxHeartbeats 4000000
open Go.RowKit Go.Proofs.Tryz
namespace Go.Proofs.YtoplpepiabedhaaGreatDoor
theorem ag:type_of% @congrArg:=@congrArg
theorem ar:type_of% @List.getElem_mem:=@List.getElem_mem
theorem aI:type_of% @Nat.eq_of_beq_eq_true:=@Nat.eq_of_beq_eq_true
theorem aX:type_of% @List.take_of_length_le:=@List.take_of_length_le
theorem bL:type_of% @List.map_cons:=@List.map_cons
theorem cd:type_of% @Nat.zero_le:=@Nat.zero_le
theorem dw:type_of% @if_neg:=@if_neg
theorem sh:type_of% @Bool.and_eq_true:=@Bool.and_eq_true
theorem AI:type_of% @List.take_succ_eq_append_getElem:=@List.take_succ_eq_append_getElem
theorem AS:type_of% @List.mem_cons:=@List.mem_cons
theorem AT:type_of% @if_pos:=@if_pos
theorem Bb:type_of% @Int.eq_ofNat_of_zero_le:=@Int.eq_ofNat_of_zero_le
theorem By:type_of% @List.getElem?_eq_getElem:=@List.getElem?_eq_getElem
theorem BY:type_of% @Nat.le_refl:=@Nat.le_refl
theorem IN:type_of% @List.all_eq_true:=@List.all_eq_true
theorem IS:type_of% @Nat.le_trans:=@Nat.le_trans
theorem IT:type_of% @List.mem_map:=@List.mem_map
theorem OF:type_of% @List.mem_singleton:=@List.mem_singleton
theorem Pc:type_of% @Array.getElem?_eq_some_iff:=@Array.getElem?_eq_some_iff
theorem Pd:type_of% @List.length_cons:=@List.length_cons
theorem Pe:type_of% @Option.some.injEq:=@Option.some.injEq
theorem Pf:type_of% @List.getElem?_eq_some_iff:=@List.getElem?_eq_some_iff
theorem Pg:type_of% @List.length_map:=@List.length_map
theorem Ph:type_of% @List.length_append:=@List.length_append
theorem Pj:type_of% @List.length_take:=@List.length_take
theorem Pk:type_of% @List.getD_eq_getElem?_getD:=@List.getD_eq_getElem?_getD
theorem Pn:type_of% @decide_eq_true:=@decide_eq_true
theorem Po:type_of% @decide_eq_true_eq:=@decide_eq_true_eq
theorem Pp:type_of% @Nat.le_of_ble_eq_true:=@Nat.le_of_ble_eq_true
theorem Pq:type_of% @List.mem_append:=@List.mem_append
theorem Ps:type_of% @Nat.lt_of_lt_of_le:=@Nat.lt_of_lt_of_le
theorem Pt:type_of% @decide_eq_false:=@decide_eq_false
theorem Pv:type_of% @List.size_toArray:=@List.size_toArray
theorem Pw:type_of% @List.getElem?_take:=@List.getElem?_take
theorem Px:type_of% @Array.length_toList:=@Array.length_toList
theorem Py:type_of% @List.flatMap_cons:=@List.flatMap_cons
theorem Pz:type_of% @Int.toNat_natCast:=@Int.toNat_natCast
theorem PA:type_of% @Bool.eq_iff_iff:=@Bool.eq_iff_iff
theorem PB:type_of% @Option.isSome_iff_exists:=@Option.isSome_iff_exists
theorem PC:type_of% @List.drop_eq_getElem_cons:=@List.drop_eq_getElem_cons
theorem PD:type_of% @List.map_append:=@List.map_append
theorem PE:type_of% @cond_false:=@cond_false
theorem PF:type_of% @List.eq_nil_of_length_eq_zero:=@List.eq_nil_of_length_eq_zero
theorem PG:type_of% @Eq.trans:=@Eq.trans
theorem PH:type_of% @List.mem_cons_of_mem:=@List.mem_cons_of_mem
theorem PI:type_of% @List.length_singleton:=@List.length_singleton
theorem PJ:type_of% @Nat.zero_add:=@Nat.zero_add
theorem PK:type_of% @List.take_append_drop:=@List.take_append_drop
theorem PL:type_of% @Bool.or_eq_false_iff:=@Bool.or_eq_false_iff
theorem PM:type_of% @List.sum_cons:=@List.sum_cons
theorem PN:type_of% @Array.getD_eq_getD_getElem?:=@Array.getD_eq_getD_getElem?
theorem PO:type_of% @List.length_set:=@List.length_set
theorem PQ:type_of% @Bool.or_eq_true:=@Bool.or_eq_true
theorem PR:type_of% @List.map_congr_left:=@List.map_congr_left
theorem PS:type_of% @List.flatMap_append:=@List.flatMap_append
theorem PT:type_of% @Classical.byContradiction:=@Classical.byContradiction
theorem PU:type_of% @List.mem_cons_self:=@List.mem_cons_self
theorem PW:type_of% @List.pairwise_cons:=@List.pairwise_cons
theorem PX:type_of% @Nat.mul_one:=@Nat.mul_one
theorem PY:type_of% @List.Perm.refl:=@List.Perm.refl
theorem PZ:type_of% @List.append_nil:=@List.append_nil
theorem P0:type_of% @List.mem_range:=@List.mem_range
theorem P5:type_of% @List.mem_flatMap:=@List.mem_flatMap
theorem P6:type_of% @List.pairwise_iff_getElem:=@List.pairwise_iff_getElem
theorem P7:type_of% @List.not_mem_nil:=@List.not_mem_nil
theorem P8:type_of% @Nat.mul_le_mul_left:=@Nat.mul_le_mul_left
theorem P9:type_of% @decide_eq_true_iff:=@decide_eq_true_iff
theorem Qa:type_of% @List.nil_append:=@List.nil_append
theorem Qc:type_of% @Nat.mul_le_mul:=@Nat.mul_le_mul
theorem Qd:type_of% @cond_true:=@cond_true
theorem Qe:type_of% @List.length_pos_iff:=@List.length_pos_iff
theorem Qf:type_of% @List.getElem?_drop:=@List.getElem?_drop
theorem Qg:type_of% @List.getElem?_eq_none:=@List.getElem?_eq_none
theorem Qh:type_of% @List.map_nil:=@List.map_nil
theorem Qi:type_of% @List.map_set:=@List.map_set
theorem Qj:type_of% @Nat.eq_zero_or_pos:=@Nat.eq_zero_or_pos
theorem Qk:type_of% @Bool.false_eq_true:=@Bool.false_eq_true
theorem Ql:type_of% @beq_eq_false_iff_ne:=@beq_eq_false_iff_ne
theorem Qm:type_of% @List.getElem_map:=@List.getElem_map
theorem Qn:type_of% @List.mem_filter:=@List.mem_filter
theorem Qo:type_of% @Int.natAbs_natCast:=@Int.natAbs_natCast
theorem Qp:type_of% @Nat.le_of_eq:=@Nat.le_of_eq
theorem Qq:type_of% @List.cons_append:=@List.cons_append
theorem Qr:type_of% @List.getElem?_of_mem:=@List.getElem?_of_mem
theorem Qs:type_of% @Nat.mul_le_mul_right:=@Nat.mul_le_mul_right
theorem Qt:type_of% @Nat.min_eq_left:=@Nat.min_eq_left
theorem Qu:type_of% @List.ext_getElem:=@List.ext_getElem
theorem Qv:type_of% @List.mem_of_getElem?:=@List.mem_of_getElem?
theorem Qw:type_of% @List.length_drop:=@List.length_drop
theorem Qx:type_of% @decide_eq_false_iff_not:=@decide_eq_false_iff_not
theorem Qy:type_of% @List.any_eq_true:=@List.any_eq_true
theorem Qz:type_of% @beq_self_eq_true:=@beq_self_eq_true
theorem QQ:type_of% @List.foldl_cons:=@List.foldl_cons
theorem QS:type_of% @List.mem_take_iff_getElem:=@List.mem_take_iff_getElem
theorem Q0:type_of% @List.getElem_of_mem:=@List.getElem_of_mem
theorem Q2:type_of% @Array.getElem?_setIfInBounds_ne:=@Array.getElem?_setIfInBounds_ne
theorem Q3:type_of% @List.map_map:=@List.map_map
theorem Q4:type_of% @Nat.mul_comm:=@Nat.mul_comm
theorem Q5:type_of% @Bool.or_false:=@Bool.or_false
theorem Q6:type_of% @Nat.mul_assoc:=@Nat.mul_assoc
theorem Q7:type_of% @List.getElem?_set_ne:=@List.getElem?_set_ne
theorem Q8:type_of% @of_decide_eq_true:=@of_decide_eq_true
theorem Q9:type_of% @List.pairwise_map:=@List.pairwise_map
theorem Ra:type_of% @Option.map_some:=@Option.map_some
theorem Rb:type_of% @Nat.mod_lt:=@Nat.mod_lt
theorem Rc:type_of% @of_decide_eq_false:=@of_decide_eq_false
theorem Re:type_of% @List.length_filter_le:=@List.length_filter_le
theorem Rf:type_of% @List.length_replicate:=@List.length_replicate
theorem Rh:type_of% @List.mem_append_right:=@List.mem_append_right
theorem Ri:type_of% @List.filter_sublist:=@List.filter_sublist
theorem Rj:type_of% @List.findIdx?_eq_some_iff_getElem:=@List.findIdx?_eq_some_iff_getElem
theorem Rk:type_of% @beq_iff_eq:=@beq_iff_eq
theorem Rm:type_of% @Bool.not_eq_true':=@Bool.not_eq_true'
theorem Rn:type_of% @List.mem_append_left:=@List.mem_append_left
theorem Ro:type_of% @Nat.pow_le_pow_right:=@Nat.pow_le_pow_right
theorem Rp:type_of% @Nat.blt_eq:=@Nat.blt_eq
theorem Rq:type_of% @Nat.pow_succ:=@Nat.pow_succ
theorem Rr:type_of% @List.cons.injEq:=@List.cons.injEq
theorem Rt:type_of% @List.length_nil:=@List.length_nil
theorem Ru:type_of% @Option.some.inj:=@Option.some.inj
theorem Rv:type_of% @List.getElem?_map:=@List.getElem?_map
theorem Rx:type_of% @Option.map_eq_some_iff:=@Option.map_eq_some_iff
theorem Ry:type_of% @Array.getElem?_setIfInBounds:=@Array.getElem?_setIfInBounds
theorem Rz:type_of% @List.nodup_cons:=@List.nodup_cons
theorem RA:type_of% @Array.getElem?_replicate:=@Array.getElem?_replicate
theorem RB:type_of% @List.all_cons:=@List.all_cons
theorem RC:type_of% @Nat.lt_succ_iff_lt_or_eq:=@Nat.lt_succ_iff_lt_or_eq
theorem RD:type_of% @Nat.le_add_right:=@Nat.le_add_right
theorem RE:type_of% @List.filter_cons:=@List.filter_cons
theorem RF:type_of% @Nat.mul_add:=@Nat.mul_add
theorem RG:type_of% @Array.getElem?_modify:=@Array.getElem?_modify
theorem RH:type_of% @List.Pairwise.sublist:=@List.Pairwise.sublist
theorem RI:type_of% @Nat.ble_eq_true_of_le:=@Nat.ble_eq_true_of_le
theorem RJ:type_of% @Nat.not_lt_zero:=@Nat.not_lt_zero
theorem RN:type_of% @List.drop_of_length_le:=@List.drop_of_length_le
theorem RQ:type_of% @List.mem_of_find?_eq_some:=@List.mem_of_find?_eq_some
theorem RR:type_of% @List.mem_or_eq_of_mem_set:=@List.mem_or_eq_of_mem_set
theorem RU:type_of% @List.map_eq_nil_iff:=@List.map_eq_nil_iff
theorem RV:type_of% @List.all_eq_false:=@List.all_eq_false
theorem RX:type_of% @Int.natCast_mul:=@Int.natCast_mul
theorem RY:type_of% @Rat.intCast_mul:=@Rat.intCast_mul
theorem RZ:type_of% @Array.replicate_succ:=@Array.replicate_succ
theorem R4:type_of% @List.map_flatMap:=@List.map_flatMap
theorem R6:type_of% @or_false:=@or_false
theorem R7:type_of% @Array.replicate_zero:=@Array.replicate_zero
theorem Sa:type_of% @List.flatMap_map:=@List.flatMap_map
theorem Sb:type_of% @List.mem_iff_getElem:=@List.mem_iff_getElem
theorem Sc:type_of% @Option.getD_some:=@Option.getD_some
theorem Sd:type_of% @List.mem_of_mem_drop:=@List.mem_of_mem_drop
theorem Se:type_of% @List.set_eq_take_append_cons_drop:=@List.set_eq_take_append_cons_drop
theorem Sf:type_of% @Bool.and_true:=@Bool.and_true
theorem Sg:type_of% @List.nodup_append:=@List.nodup_append
theorem Si:type_of% @List.append_assoc:=@List.append_assoc
theorem Sj:type_of% @Array.getElem?_append_left:=@Array.getElem?_append_left
theorem Sk:type_of% @List.foldl_append:=@List.foldl_append
theorem Sn:type_of% @Nat.beq_refl:=@Nat.beq_refl
theorem Sp:type_of% @List.mergeSort_of_pairwise:=@List.mergeSort_of_pairwise
theorem Sq:type_of% @List.getElem?_set:=@List.getElem?_set
theorem Sr:type_of% @eq_false_of_ne_true:=@eq_false_of_ne_true
theorem Ss:type_of% @List.replicate_succ:=@List.replicate_succ
theorem Su:type_of% @List.append_toArray:=@List.append_toArray
theorem Sv:type_of% @List.findIdx?_eq_none_iff:=@List.findIdx?_eq_none_iff
theorem Sw:type_of% @List.filter_append:=@List.filter_append
theorem Sx:type_of% @List.flatMap_nil:=@List.flatMap_nil
theorem Sy:type_of% @List.map_toArray:=@List.map_toArray
theorem Sz:type_of% @BitVec.getLsbD_and:=@BitVec.getLsbD_and
theorem SA:type_of% @List.getElem_append_left:=@List.getElem_append_left
theorem SC:type_of% @Nat.add_zero:=@Nat.add_zero
theorem SD:type_of% @if_false:=@if_false
theorem SE:type_of% @List.pairwise_mergeSort:=@List.pairwise_mergeSort
theorem SF:type_of% @List.ext_getElem?:=@List.ext_getElem?
theorem SG:type_of% @List.length_eq_zero_iff:=@List.length_eq_zero_iff
theorem SH:type_of% @List.push_toArray:=@List.push_toArray
theorem SI:type_of% @List.all_append:=@List.all_append
theorem SL:type_of% @List.range_succ:=@List.range_succ
theorem SM:type_of% @List.take_succ_cons:=@List.take_succ_cons
theorem SN:type_of% @Nat.add_comm:=@Nat.add_comm
theorem SO:type_of% @Nat.sub_self:=@Nat.sub_self
theorem SP:type_of% @Nat.mod_eq_of_lt:=@Nat.mod_eq_of_lt
theorem SQ:type_of% @List.getElem_set:=@List.getElem_set
theorem SS:type_of% @List.take_length:=@List.take_length
theorem SU:type_of% @List.perm_middle:=@List.perm_middle
theorem SV:type_of% @Nat.lt_of_le_of_lt:=@Nat.lt_of_le_of_lt
theorem SX:type_of% @Array.getElem?_append:=@Array.getElem?_append
theorem SY:type_of% @Array.getElem?_toList:=@Array.getElem?_toList
theorem SZ:type_of% @Nat.lt_or_ge:=@Nat.lt_or_ge
theorem S0:type_of% @List.mem_of_mem_take:=@List.mem_of_mem_take
theorem S6:type_of% @Array.toList_push:=@Array.toList_push
theorem S7:type_of% @Rat.add_zero:=@Rat.add_zero
theorem S8:type_of% @Nat.sub_zero:=@Nat.sub_zero
theorem S9:type_of% @List.any_eq_false:=@List.any_eq_false
theorem Ta:type_of% @List.cons.inj:=@List.cons.inj
theorem Tc:type_of% @Bool.true_and:=@Bool.true_and
theorem Td:type_of% @List.mergeSort_perm:=@List.mergeSort_perm
theorem Te:type_of% @if_true:=@if_true
theorem Tf:type_of% @List.map_eq_flatMap:=@List.map_eq_flatMap
theorem Tg:type_of% @List.filter_eq_self:=@List.filter_eq_self
theorem Th:type_of% @List.map_fst_zip:=@List.map_fst_zip
theorem Ti:type_of% @List.zipIdx_cons:=@List.zipIdx_cons
theorem Tj:type_of% @decide_eq_decide:=@decide_eq_decide
theorem Tk:type_of% @Nat.mul_pos:=@Nat.mul_pos
theorem Tl:type_of% @List.map_id:=@List.map_id
theorem Tm:type_of% @Nat.lt_trans:=@Nat.lt_trans
theorem Tn:type_of% @Nat.succ_mul:=@Nat.succ_mul
theorem To:type_of% @List.all_nil:=@List.all_nil
theorem Tp:type_of% @Rat.mul_zero:=@Rat.mul_zero
theorem Tq:type_of% @Nat.le_of_lt:=@Nat.le_of_lt
theorem Ts{p:Prop}(h:p:=by omega):p:=h
theorem Tt{p:Prop}(h:p:=by kernel_rfl):p:=h
theorem Tu{p:Prop}(h:p:=by decide):p:=h
theorem Tv{p:Prop}(h:p:=by assumption):p:=h
theorem Tw{p:Prop}(h:p:=by simp):p:=h
theorem Tx{p:Prop}(h:p:=by simp;omega):p:=h
theorem Tz{p:Prop}(h:p:=by simp only;omega):p:=h
theorem TB:True:=True.intro
theorem O{α:Sort _}{a:α}:a=a:=rfl
section
inductive PV where
 |int (k:IntKind) (n:Int)
 |bool (b:Bool)
 |str (s:ByteArray)
 |agg (cs:List PV)
 |tup (cs:List PV)
 |sl (nil:Option Bool) (n:Nat) (cs:List PV)
 |rp (cs:List PV) (off:Nat)
 |fn (f:Fn) (first captured:List PV)
 |nilfn
 |nilptr
 |nilmap
 |iface (t:TypeId) (v:PV)
 |niliface
 |mp (ks vs:List PV)
 |any
 deriving Inhabited
def q9(w:World)(R:Nat->Prop)(b off:Nat)(us:List Value):Prop:=
 R b/\∀j,j<us.length->w.cell? ⟨b,off+j,none⟩=us[j]?
def cQ(es:List MapEntry)(clock:Nat):Prop:=(es.map (·.born)).Nodup/\∀e∈es,e.born<clock
mutual
def RelP(w:World)(R:Nat->Prop):PV->Value->Prop
 | .int k n,u=>u= .int k n
 | .bool b,u=>u= .bool b
 | .str s,u=>u= .string s
 | .agg cs,u=>∃us:List Value,u= .agg us.toArray/\RelPL w R cs us
 | .tup cs,u=>∃us:List Value,u= .tuple us.toArray/\RelPL w R cs us
 | .sl nil n cs,u=>∃A c,u= .slice A n c/\n<=c/\c<=maxLen/\(∀b,nil=some b->b=A.isNone)/\(nil=some true->c=0)/\
   (cs≠[]->∃b off us,A=some ⟨b,off,none⟩/\RelPL w R cs us/\q9 w R b off us)
 | .rp cs o,u=>∃b off us,u= .pointer (some ⟨b,off+o,none⟩)/\RelPL w R cs us/\q9 w R b off us
 | .fn f fs cs,u=>∃us vs:List Value,u= .func f us.toArray vs.toArray/\RelPL w R fs us/\RelPL w R cs vs
 | .nilfn,u=>u= .nilFunc
 | .nilptr,u=>u= .pointer none
 | .nilmap,u=>u= .map none
 | .iface t v,u=>∃x,u= .iface t x/\RelP w R v x
 | .niliface,u=>u= .nilIface
 | .mp ks vs,u=>∃b,u= .map (some b)/\R b/\∃(es:Array MapEntry)(clock:Nat)(l:List MapEntry),w.heap[b]? =some (.map es clock)/\RelPL w R ks (l.map (·.key))/\RelPL w R vs (l.map (·.val))/\cQ es.toList clock/\l.Perm es.toList
 | .any,_=>True
def RelPL(w:World)(R:Nat->Prop):List PV->List Value->Prop
 |[],us=>us=[]
 |c::cs,us=>∃u vs,us=u::vs/\RelP w R c u/\RelPL w R cs vs
end
section
variable {w w':World}{R R':Nat->Prop}
theorem q9.mono(hR:∀b,R b->R' b/\w'.heap[b]? =w.heap[b]?){b off:Nat}{us:List Value}(h:q9 w R b off us):q9 w' R' b off us:=
 ⟨(hR b h.1).1,fun j hj=>(World.cell?_of_block (w:=w) (a:=⟨b,off+j,none⟩) (hR b h.1).2).trans (h.2 j hj)⟩
mutual
theorem RelP.mono(hR:∀b,R b->R' b/\w'.heap[b]? =w.heap[b]?):∀(p:PV)(u:Value),RelP w R p u->RelP w' R' p u
 | .int _ _,_,h=>h
 | .bool _,_,h=>h
 | .str _,_,h=>h
 | .agg cs,_,h=>by
   simp only[RelP]at h ⊢;obtain⟨us,e,h⟩:=h;exact⟨us,e,RelPL.mono hR cs us h⟩
 | .tup cs,_,h=>by
   simp only[RelP]at h ⊢;obtain⟨us,e,h⟩:=h;exact⟨us,e,RelPL.mono hR cs us h⟩
 | .sl nil n cs,_,h=>by
   simp only[RelP]at h ⊢;obtain⟨A,c,e,h1,h2,h3,h4,h5⟩:=h;refine⟨A,c,e,h1,h2,h3,h4,fun hne=>?_⟩;obtain⟨b,off,us,e,hl,hs⟩:=h5 hne;exact⟨b,off,us,e,RelPL.mono hR cs us hl,hs.mono hR⟩
 | .rp cs o,_,h=>by
   simp only[RelP]at h ⊢;obtain⟨b,off,us,e,hl,hs⟩:=h;exact⟨b,off,us,e,RelPL.mono hR cs us hl,hs.mono hR⟩
 | .fn f fs cs,_,h=>by
   simp only[RelP]at h ⊢;obtain⟨us,vs,e,h1,h2⟩:=h;exact⟨us,vs,e,RelPL.mono hR fs us h1,RelPL.mono hR cs vs h2⟩
 | .nilfn,_,h=>h
 | .nilptr,_,h=>h
 | .nilmap,_,h=>h
 | .iface t v,_,h=>by
   simp only[RelP]at h ⊢;obtain⟨x,e,h⟩:=h;exact⟨x,e,RelP.mono hR v x h⟩
 | .niliface,_,h=>h
 | .mp ks vs,_,h=>by
   simp only[RelP]at h ⊢;obtain⟨b,e,hb,es,clock,l,h1,h2,h3,h4⟩:=h;exact⟨b,e,(hR b hb).1,es,clock,l,(hR b hb).2.trans h1,RelPL.mono hR ks _ h2,RelPL.mono hR vs _ h3,h4⟩
 | .any,_,_=>trivial
theorem RelPL.mono(hR:∀b,R b->R' b/\w'.heap[b]? =w.heap[b]?):∀(ps:List PV)(us:List Value),RelPL w R ps us->RelPL w' R' ps us
 |[],_,h=>h
 | c::cs,_,h=>by
   simp only[RelPL]at h ⊢;obtain⟨u,vs,e,h1,h2⟩:=h;exact⟨u,vs,e,RelP.mono hR c u h1,RelPL.mono hR cs vs h2⟩
end
theorem RelPL.length:∀{ps:List PV}{us:List Value},RelPL w R ps us->us.length=ps.length
 |[],_,h=>by simp only[RelPL]at h;simp[h]
 | c::cs,_,h=>by
   simp only[RelPL]at h;obtain⟨u,vs,rfl,_,h2⟩:=h;simp[RelPL.length h2]
theorem RelPL.get:∀{ps:List PV}{us:List Value},RelPL w R ps us->∀{i:Nat}{p:PV},ps[i]? =some p->∃u,us[i]? =some u/\RelP w R p u
 |[],_,_,i,p,hp=>by simp at hp
 | c::cs,_,h,i,p,hp=>by
   simp only[RelPL]at h;obtain⟨u,vs,rfl,h1,h2⟩:=h;cases i with
   |zero=>simp at hp;subst hp;exact⟨u,Tw,h1⟩
   |succ i=>simp at hp;obtain⟨x,hx,hr⟩:=RelPL.get h2 hp;exact⟨x,by simpa using hx,hr⟩
theorem RelPL.nil:RelPL w R [] []:=by simp[RelPL]
theorem RelPL.cons{p:PV}{u:Value}{ps:List PV}{us:List Value}(h:RelP w R p u)(hs:RelPL w R ps us):RelPL w R (p::ps) (u::us):=by
 simp only[RelPL];exact⟨u,us,O,h,hs⟩
theorem RelPL.append:∀{ps qs:List PV}{us vs:List Value},RelPL w R ps us->RelPL w R qs vs->RelPL w R (ps++qs) (us++vs)
 |[],_,_,_,h,k=>by simp only[RelPL]at h;subst h;simpa using k
 | c::cs,_,_,_,h,k=>by
   simp only[RelPL]at h;obtain⟨u,xs,rfl,h1,h2⟩:=h;exact RelPL.cons h1 (RelPL.append h2 k)
theorem RelPL.take:∀{ps:List PV}{us:List Value}(n:Nat),RelPL w R ps us->RelPL w R (ps.take n) (us.take n)
 |[],_,n,h=>by simp only[RelPL]at h;subst h;simpa using RelPL.nil
 |c::cs,_,0,h=>by simpa using RelPL.nil
 | c::cs,_,n+1,h=>by
   simp only[RelPL]at h;obtain⟨u,xs,rfl,h1,h2⟩:=h;simpa using RelPL.cons h1 (RelPL.take n h2)
theorem RelPL.drop:∀{ps:List PV}{us:List Value}(n:Nat),RelPL w R ps us->RelPL w R (ps.drop n) (us.drop n)
 |[],_,n,h=>by simp only[RelPL]at h;subst h;simpa using RelPL.nil
 |c::cs,_,0,h=>by simpa using h
 | c::cs,_,n+1,h=>by
   simp only[RelPL]at h;obtain⟨u,xs,rfl,h1,h2⟩:=h;simpa using RelPL.drop n h2
theorem RelPL.set:∀{ps:List PV}{us:List Value}(i:Nat){p:PV}{u:Value},RelPL w R ps us->RelP w R p u->RelPL w R (ps.set i p) (us.set i u)
 |[],_,n,_,_,h,_=>by simp only[RelPL]at h;subst h;simpa using RelPL.nil
 | c::cs,_,0,_,_,h,k=>by
   simp only[RelPL]at h;obtain⟨u,xs,rfl,h1,h2⟩:=h;simpa using RelPL.cons k h2
 | c::cs,_,n+1,_,_,h,k=>by
   simp only[RelPL]at h;obtain⟨u,xs,rfl,h1,h2⟩:=h;simpa using RelPL.cons h1 (RelPL.set n h2 k)
end
inductive V where
 |pv (p:PV)
 |ptr (id off:Nat)
 |osl (id sz n:Nat)
 |tsl (id off n:Nat)
 |gsl (id sz n:Nat)
 |map (id:Nat)
 |agg (cs:List V)
 |tup (cs:List V)
 |fn (f:Fn) (first captured:List V)
 deriving Inhabited
abbrev Gm:=Nat->Option (Nat×Nat)
abbrev Av:=Nat->Bool
mutual
def Rel(w:World)(m:Gm)(av:Av)(R:Nat->Prop):V->Value->Prop
 | .pv p,u=>RelP w R p u
 | .ptr id off,u=>av id=false/\∀b N,m id=some (b,N)->u= .pointer (some ⟨b,off,none⟩)
 | .osl id sz n,u=>av id=false/\∀b N,m id=some (b,N)->∃c,u= .slice (some ⟨b,0,none⟩) n c/\n<=c/\c<=maxLen/\N=c*sz
 | .tsl id off n,u=>av id=false/\∃A c,u= .slice A n c/\(0<n->∀b N,m id=some (b,N)->A=some ⟨b,off,none⟩)
 | .gsl id sz n,u=>av id=false/\∃A c,u= .slice A n c/\n<=c/\c<=maxLen/\(n=0->A=none/\c=0/\m id=none)/\(0<n->∀b N,m id=some (b,N)->A=some ⟨b,0,none⟩/\N=c*sz)
 | .map id,u=>av id=false/\∀b N,m id=some (b,N)->u= .map (some b)
 | .agg cs,u=>∃us:List Value,u= .agg us.toArray/\RelL w m av R cs us
 | .tup cs,u=>∃us:List Value,u= .tuple us.toArray/\RelL w m av R cs us
 | .fn f fs cs,u=>∃us vs:List Value,u= .func f us.toArray vs.toArray/\RelL w m av R fs us/\RelL w m av R cs vs
def RelL(w:World)(m:Gm)(av:Av)(R:Nat->Prop):List V->List Value->Prop
 |[],us=>us=[]
 |c::cs,us=>∃u vs,us=u::vs/\Rel w m av R c u/\RelL w m av R cs vs
end
theorem mF{α:Type}{a b:Option α}(h:∀x,a=some x->b=some x)(hb:b=none):a=none:=by
 cases a with
 |none=>rfl
 |some x=>rw[h x O]at hb;cases hb
section
variable {w w':World}{R R':Nat->Prop}{m m':Gm}{av av':Av}
mutual
theorem Rel.mono(hR:∀b,R b->R' b/\w'.heap[b]? =w.heap[b]?)(hm:∀id x,av id=false->m' id=some x->m id=some x)(ha:∀id,av id=false->av' id=false):
  ∀(p:V)(u:Value),Rel w m av R p u->Rel w' m' av' R' p u
 | .pv p,u,h=>by simp only[Rel]at h ⊢; exact h.mono hR
 | .ptr id off,_,h=>by simp only[Rel]at h ⊢; exact⟨ha id h.1,fun b N e=>h.2 b N (hm _ _ h.1 e)⟩
 | .osl id sz n,_,h=>by simp only[Rel]at h ⊢; exact⟨ha id h.1,fun b N e=>h.2 b N (hm _ _ h.1 e)⟩
 | .tsl id off n,_,h=>by
   simp only[Rel]at h ⊢;obtain⟨h0,A,c,e,h1⟩:=h;exact⟨ha id h0,A,c,e,fun hp b N e=>h1 hp b N (hm _ _ h0 e)⟩
 | .gsl id sz n,_,h=>by
   simp only[Rel]at h ⊢;obtain⟨h0,A,c,e,h1,h2,h3,h4⟩:=h;exact⟨ha id h0,A,c,e,h1,h2,fun hn=>⟨(h3 hn).1,(h3 hn).2.1,mF (fun x=>hm id x h0) (h3 hn).2.2⟩,fun hp b N e=>h4 hp b N (hm _ _ h0 e)⟩
 | .map id,_,h=>by simp only[Rel]at h ⊢; exact⟨ha id h.1,fun b N e=>h.2 b N (hm _ _ h.1 e)⟩
 | .agg cs,_,h=>by
   simp only[Rel]at h ⊢;obtain⟨us,e,h⟩:=h;exact⟨us,e,RelL.mono hR hm ha cs us h⟩
 | .tup cs,_,h=>by
   simp only[Rel]at h ⊢;obtain⟨us,e,h⟩:=h;exact⟨us,e,RelL.mono hR hm ha cs us h⟩
 | .fn f fs cs,_,h=>by
   simp only[Rel]at h ⊢;obtain⟨us,vs,e,h1,h2⟩:=h;exact⟨us,vs,e,RelL.mono hR hm ha fs us h1,RelL.mono hR hm ha cs vs h2⟩
theorem RelL.mono(hR:∀b,R b->R' b/\w'.heap[b]? =w.heap[b]?)(hm:∀id x,av id=false->m' id=some x->m id=some x)(ha:∀id,av id=false->av' id=false):
  ∀(ps:List V)(us:List Value),RelL w m av R ps us->RelL w' m' av' R' ps us
 |[],_,h=>by simpa only[RelL]using h
 | c::cs,_,h=>by
   simp only[RelL]at h ⊢;obtain⟨u,vs,e,h1,h2⟩:=h;exact⟨u,vs,e,Rel.mono hR hm ha c u h1,RelL.mono hR hm ha cs vs h2⟩
end
theorem RelL.length:∀{ps:List V}{us:List Value},RelL w m av R ps us->us.length=ps.length
 |[],_,h=>by simp only[RelL]at h;simp[h]
 | c::cs,_,h=>by
   simp only[RelL]at h;obtain⟨u,vs,rfl,_,h2⟩:=h;simp[RelL.length h2]
theorem RelL.get:∀{ps:List V}{us:List Value},RelL w m av R ps us->∀{i:Nat}{p:V},ps[i]? =some p->∃u,us[i]? =some u/\Rel w m av R p u
 |[],_,_,i,p,hp=>by simp at hp
 | c::cs,_,h,i,p,hp=>by
   simp only[RelL]at h;obtain⟨u,vs,rfl,h1,h2⟩:=h;cases i with
   |zero=>simp at hp;subst hp;exact⟨u,Tw,h1⟩
   |succ i=>simp at hp;obtain⟨x,hx,hr⟩:=RelL.get h2 hp;exact⟨x,by simpa using hx,hr⟩
theorem RelL.nil:RelL w m av R [] []:=by simp[RelL]
theorem RelL.cons{p:V}{u:Value}{ps:List V}{us:List Value}(h:Rel w m av R p u)(hs:RelL w m av R ps us):RelL w m av R (p::ps) (u::us):=by
 simp only[RelL];exact⟨u,us,O,h,hs⟩
theorem RelL.append:∀{ps qs:List V}{us vs:List Value},RelL w m av R ps us->RelL w m av R qs vs->RelL w m av R (ps++qs) (us++vs)
 |[],_,_,_,h,k=>by simp only[RelL]at h;subst h;simpa using k
 | c::cs,_,_,_,h,k=>by
   simp only[RelL]at h;obtain⟨u,xs,rfl,h1,h2⟩:=h;exact RelL.cons h1 (RelL.append h2 k)
theorem RelL.take:∀{ps:List V}{us:List Value}(n:Nat),RelL w m av R ps us->RelL w m av R (ps.take n) (us.take n)
 |[],_,n,h=>by simp only[RelL]at h;subst h;simpa using RelL.nil
 |c::cs,_,0,h=>by simpa using RelL.nil
 | c::cs,_,n+1,h=>by
   simp only[RelL]at h;obtain⟨u,xs,rfl,h1,h2⟩:=h;simpa using RelL.cons h1 (RelL.take n h2)
theorem RelL.drop:∀{ps:List V}{us:List Value}(n:Nat),RelL w m av R ps us->RelL w m av R (ps.drop n) (us.drop n)
 |[],_,n,h=>by simp only[RelL]at h;subst h;simpa using RelL.nil
 |c::cs,_,0,h=>by simpa using h
 | c::cs,_,n+1,h=>by
   simp only[RelL]at h;obtain⟨u,xs,rfl,h1,h2⟩:=h;simpa using RelL.drop n h2
theorem RelL.set:∀{ps:List V}{us:List Value}(i:Nat){p:V}{u:Value},RelL w m av R ps us->Rel w m av R p u->RelL w m av R (ps.set i p) (us.set i u)
 |[],_,n,_,_,h,_=>by simp only[RelL]at h;subst h;simpa using RelL.nil
 | c::cs,_,0,_,_,h,k=>by
   simp only[RelL]at h;obtain⟨u,xs,rfl,h1,h2⟩:=h;simpa using RelL.cons k h2
 | c::cs,_,n+1,_,_,h,k=>by
   simp only[RelL]at h;obtain⟨u,xs,rfl,h1,h2⟩:=h;simpa using RelL.cons h1 (RelL.set n h2 k)
theorem RelL.ofP:∀{ps:List PV}{us:List Value},RelPL w R ps us->RelL w m av R (ps.map V.pv) us
 |[],_,h=>by simpa only[RelL,RelPL,Qh]using h
 | c::cs,_,h=>by
   simp only[RelPL]at h;obtain⟨u,vs,rfl,h1,h2⟩:=h;exact RelL.cons (by simpa only[Rel]using h1) (RelL.ofP h2)
theorem RelL.toP:∀{ps:List PV}{us:List Value},RelL w m av R (ps.map V.pv) us->RelPL w R ps us
 |[],_,h=>by simpa only[RelL,RelPL,Qh]using h
 | c::cs,_,h=>by
   simp only[bL,RelL]at h;obtain⟨u,vs,rfl,h1,h2⟩:=h;exact RelPL.cons (by simpa only[Rel]using h1) (RelL.toP h2)
end
inductive Ob where
 |cells (ty:TypeId) (cs:List PV)
 |mix (ty:TypeId) (cs:List V)
 |gro (ty:TypeId) (cs:List PV)
 |mp (ks vs:List PV)
 |it (s:ByteArray) (pos:Nat)
 |fro (ty:TypeId) (s:ByteArray)
 |mi (cur ks vs:List PV)
def Ob.real:Ob->Bool
 | .gro _ []=>false
 |_=>true
def bE:Option Ob->Bool
 |some o=>o.real
 |none=>false
def sy(w:World)(R:Nat->Prop)(b:Nat)(cur ks vs:List PV):Prop:=
 ∃(mb:Nat)(es:Array MapEntry)(clock:Nat)(seen:Array Nat)(l:List MapEntry),R mb/\w.heap[mb]? =some (.map es clock)/\cQ es.toList clock/\w.heap[b]? =some (.mapIter (some mb) clock seen clock)/\
  l.Perm (es.toList.filter fun e=> !seen.contains e.born)/\RelPL w R ks (l.map (·.key))/\RelPL w R vs (l.map (·.val))/\
  (cur=[]\/∃e∈es.toList,seen.back? =some e.born/\RelPL w R cur [e.key,e.val])
theorem sy.mono{w w':World}{R R':Nat->Prop}{b:Nat}{cur ks vs:List PV}(hR:∀b,R b->R' b/\w'.heap[b]? =w.heap[b]?)(hb:w'.heap[b]? =w.heap[b]?)(h:sy w R b cur ks vs):sy w' R' b cur ks vs:=by
 obtain⟨mb,es,clock,seen,l,h1,h2,h3,h4,h0,h5,h6,h7⟩:=h;refine⟨mb,es,clock,seen,l,(hR _ h1).1,(hR _ h1).2.trans h2,h3,hb.trans h4,h0,h5.mono hR,h6.mono hR,?_⟩;rcases h7 with h|⟨e,h8,h9,h10⟩
 ·exact .inl h
 ·exact .inr ⟨e,h8,h9,h10.mono hR⟩
def kE(w:World)(m:Gm)(av:Av)(R:Nat->Prop)(b N:Nat):Ob->Prop
 | .cells ty cs=>∃arr:Array Value,w.heap[b]? =some (.cells arr ty (0,0))/\arr.size=N/\cs.length<=N/\RelPL w R cs (arr.toList.take cs.length)
 | .gro ty cs=>∃arr:Array Value,w.heap[b]? =some (.cells arr ty (0,0))/\arr.size=N/\cs.length<=N/\RelPL w R cs (arr.toList.take cs.length)
 | .mix ty cs=>∃arr:Array Value,w.heap[b]? =some (.cells arr ty (0,0))/\arr.size=N/\cs.length<=N/\RelL w m av R cs (arr.toList.take cs.length)
 | .mp ks vs=>∃es clock,w.heap[b]? =some (.map es clock)/\RelPL w R ks (es.toList.map (·.key))/\RelPL w R vs (es.toList.map (·.val))/\cQ es.toList clock
 | .it s pos=>w.heap[b]? =some (.stringIter s pos)
 | .mi cur ks vs=>sy w R b cur ks vs
 | .fro ty s=>∃arr:Array Value,w.heap[b]? =some (.cells arr ty (0,s.size))/\arr.size=N/\s.size<=N/\arr.toList.take s.size=s.data.toList.map fun c=> .int .u8 c.toNat
theorem kE.mono{w w':World}{R R':Nat->Prop}{m m':Gm}{av av':Av}{b N:Nat}{o:Ob}(hR:∀b,R b->R' b/\w'.heap[b]? =w.heap[b]?)
  (hm:∀id x,av id=false->m' id=some x->m id=some x) (ha:∀id,av id=false->av' id=false) (hb:w'.heap[b]? =w.heap[b]?) (h:kE w m av R b N o):kE w' m' av' R' b N o:=by
 cases o with
 | cells ty cs=>
   obtain⟨arr,h1,h2,h3,h4⟩:=h;exact⟨arr,hb.trans h1,h2,h3,h4.mono hR⟩
 | mix ty cs=>
   obtain⟨arr,h1,h2,h3,h4⟩:=h;exact⟨arr,hb.trans h1,h2,h3,h4.mono hR hm ha⟩
 | gro ty cs=>
   obtain⟨arr,h1,h2,h3,h4⟩:=h;exact⟨arr,hb.trans h1,h2,h3,h4.mono hR⟩
 | mp ks vs=>
   obtain⟨es,clock,h1,h2,h3,h4⟩:=h;exact⟨es,clock,hb.trans h1,h2.mono hR,h3.mono hR,h4⟩
 |it s pos=>exact hb.trans h
 |mi cur ks vs=>exact sy.mono hR hb h
 |fro ty s=>obtain⟨arr,h1,h2⟩:=h;exact⟨arr,hb.trans h1,h2⟩
def gInt(o:Obj):Prop:=∃(m:Int)(t:TypeId)(f:Nat×Nat),o= .cells #[.int .i64 m] t f
def gTab(k:IntKind)(zs:List Int)(o:Obj):Prop:=∃(t:TypeId)(f:Nat×Nat),o= .cells (zs.map (Value.int k)).toArray t f
def Jh(o:Obj):Prop:=∃(tp:TypeId)(p:Value)(t:TypeId)(f:Nat×Nat),o= .cells #[.iface tp p] t f
def glb:List (Nat×(Obj->Prop)):=[(0,gTab .u64 [1,10,100,1000,10000,100000,1000000,10000000,100000000,1000000000,10000000000,100000000000,1000000000000,10000000000000,100000000000000,1000000000000000,10000000000000000,100000000000000000,1000000000000000000,10000000000000000000]),(1,gInt),(2,Jh),(3,Jh)]
def nU(w:World)(R:Nat->Prop):Prop:=∀x∈glb,R x.1/\∃o,w.heap[x.1]? =some o/\x.2 o
theorem nU.mono{w w':World}{R R':Nat->Prop}(h:nU w R)(hR:∀b,R b->R' b/\w'.heap[b]? =w.heap[b]?):nU w' R':=fun x hx=>by
 obtain⟨h0,o,h1,h2⟩:=h x hx;exact⟨(hR _ h0).1,o,(hR _ h0).2.trans h1,h2⟩
structure RT(w:World)(F:Nat->Prop) where
 p:Nat->Prop
 g:nU w p
 d:∀b,p b->b<w.heap.size/\¬F b
 df:List Deferred:=[]
structure Ctx where
 P:Program
 m0:Gm
 w0:World
 F:Nat->Prop
 R0:RT w0 F
abbrev big:Nat:=9000
structure St where
 sl:Nat->V
 ob:Nat->Option Ob
 av:Av
structure Fr(F:Nat->Prop)(w w':World):Prop where
 os:w'.os=w.os
 tape:w'.tape=w.tape
 output:w'.output=w.output
 size:w.heap.size<=w'.heap.size
 block:∀k,k<w.heap.size->¬F k->w'.heap[k]? =w.heap[k]?
theorem Fr.refl(F:Nat->Prop)(w:World):Fr F w w:=⟨O,O,O,BY _,fun _ _ _=>rfl⟩
theorem Fr.LW{w w':World}(h:Below w.heap.size w w')(F:Nat->Prop):Fr F w w':=⟨h.os,h.tape,h.output,h.size,fun k hk _=>h.block k hk⟩
structure HR(C:Ctx)(m:Gm)(R:Nat->Prop)(ob:Nat->Option Ob)(av:Av)(w:World):Prop where
 dom:∀id,(m id).isSome=bE (ob id)
 free:∀id,av id=true->ob id=none
 obj:∀id o b N,ob id=some o->m id=some (b,N)->kE w m av R b N o
 inj:∀i j b N N',m i=some (b,N)->m j=some (b,N')->i=j
 own:∀id b N,m id=some (b,N)->b<w.heap.size/\¬R b/\(C.F b\/C.w0.heap.size<=b)
 rsz:∀b,R b->b<w.heap.size
 rfr:∀b,R b->C.R0.p b\/C.w0.heap.size<=b\/C.F b
 r0:∀b,C.R0.p b->R b
 frame:Fr C.F C.w0 w
 keep:∀id x,big<=id->m id=some x->C.m0 id=some x
 res:∀id,big<=id->av id=false
theorem HR.dfs{P:Program}{m0:Gm}{w0:World}{F:Nat->Prop}{R0 R1:RT w0 F}{m:Gm}{R:Nat->Prop}{ob:Nat->Option Ob}{av:Av}{w:World}(h:HR ⟨P,m0,w0,F,R0⟩ m R ob av w)(e:R1.p=R0.p):HR ⟨P,m0,w0,F,R1⟩ m R ob av w:=
 ⟨h.dom,h.free,h.obj,h.inj,h.own,h.rsz,fun b hb=>by have:=h.rfr b hb;simp only[e]at this ⊢; exact this,fun b hb=>h.r0 b (by simp only[e]at hb;exact hb),h.frame,h.keep,h.res⟩
theorem HR.gi{C:Ctx}{m:Gm}{R:Nat->Prop}{ob:Nat->Option Ob}{av:Av}{w:World}(h:HR C m R ob av w):nU w R:=
 C.R0.g.mono fun b hb=>⟨h.r0 b hb,h.frame.block b (C.R0.d b hb).1 (C.R0.d b hb).2⟩
end
section
def upd{α:Type}(f:Nat->α)(d:Nat)(v:α):Nat->α:=fun t=>bif Nat.beq t d then v else f t
theorem ay{α:Type}(f:Nat->α)(d:Nat)(v:α):upd f d v d=v:=by simp[upd]
theorem aM{α:Type}(f:Nat->α){d t:Nat}(v:α)(h:t≠d):upd f d v t=f t:=by
 have:Nat.beq t d=false:=by cases hb:Nat.beq t d;rfl;exact absurd (aI hb) h
 simp[upd,this]
def fb:Value->PV
 | .int k n=> .int k n
 | .bool b=> .bool b
 | .string s=> .str s
 | .slice none 0 0=> .sl (some true) 0 []
 | .pointer none=> .nilptr
 | .map none=> .nilmap
 | .nilFunc=> .nilfn
 | .nilIface=> .niliface
 |_=> .any
def ofC:Value->PV
 | .agg cs=> .agg (cs.toList.map fb)
 |v=>fb v
theorem eR(w:World)(R:Nat->Prop):∀v,RelP w R (fb v) v:=by
 intro v;unfold fb;split<;>simp[RelP];exact⟨none,0,⟨O,O⟩,by simp[maxLen],O,O⟩
theorem wb(w:World)(R:Nat->Prop):∀v,RelP w R (ofC v) v:=by
 intro v;unfold ofC;split
 ·rename_i cs;simp only[RelP];refine⟨cs.toList,Tw,?_⟩;generalize cs.toList=l;induction l with
  |nil=>simpa using RelPL.nil
  |cons x l ih=>simpa using RelPL.cons (eR w R x) ih
 ·exact eR w R v
def St.ev(n:Nat)(σ:St):Operand->V
 | .tmp t=>bif Nat.blt t n then σ.sl t else .pv .any
 | .const c=> .pv (ofC c)
 | .global _=> .pv .any
 | .func f=> .pv (.fn (.func f) [] [])
def St.put(σ:St)(d:Option Tmp)(v:V):St:=match d with|some d=>{ σ with sl:=upd σ.sl d v } |none=>σ
structure SW(C:Ctx)(n:Nat)(σ:St)(a:Act)(w:World)(m:Gm)(R:Nat->Prop):Prop where
 hr:HR C m R σ.ob σ.av w
 df:a.defers=C.R0.df
 sz:a.tmps.size=n
 sl:∀t,t<n->Rel w m σ.av R (σ.sl t) (a.eval (.tmp t))
def SJ(C:Ctx)(n:Nat)(σ:St)(a:Act)(w:World):Prop:=∃m R,SW C n σ a w m R
section
variable {C:Ctx}{n:Nat}{σ τ:St}{a:Act}{w:World}{m:Gm}{R:Nat->Prop}
theorem SW.ev(h:SW C n σ a w m R)(x:Operand):Rel w m σ.av R (σ.ev n x) (a.eval x):=by
 cases x with
 | tmp t=>
   by_cases ht:t<n
   ·have hb:Nat.blt t n=true:=by simpa[Rp]using ht
    simpa only[St.ev,hb,Qd]using h.sl t ht
   ·have hb:Nat.blt t n=false:=by cases e:Nat.blt t n;rfl;exact absurd (by simpa[Rp]using e) ht
    simp only[St.ev,hb,PE,Rel,RelP]
 |const c=>simpa only[St.ev,Rel,Act.eval]using wb w R c
 |global g=>simp only[St.ev,Rel,RelP]
 | func f=>
   simp only[St.ev,Rel,RelP,Act.eval];exact⟨[],[],O,by simp[RelPL],by simp[RelPL]⟩
theorem wF(a:Act)(d:Nat)(u:Value)(t:Nat):(a.put (some d) u).eval (.tmp t)=if d=t/\d<a.tmps.size then u else a.eval (.tmp t):=by
 simp only[Act.put,Act.eval,PN,Ry];by_cases h:d=t
 ·subst h;by_cases h2:d<a.tmps.size<;>simp[h2]
 ·simp[h]
theorem SW.put(h:SW C n σ a w m R)(d:Option Tmp){v:V}{u:Value}(hv:Rel w m σ.av R v u):SW C n (σ.put d v) (a.put d u) w m R:=by
 cases d with
 |none=>exact h
 | some d=>
   refine⟨h.hr,h.df,by simpa[Act.put]using h.sz,fun t ht=>?_⟩;rw[wF];show Rel w m σ.av R (upd σ.sl d v t) _;by_cases e:d=t
   ·subst e;rw[ay,AT ⟨O,by rw[h.sz];exact ht⟩];exact hv
   ·rw[aM _ _ (fun e'=>e e'.symm),dw (fun e'=>e e'.1)];exact h.sl t ht
end
structure AW(C:Ctx)(n:Nat)(c:Code)(Q:Exit->St->Prop)(σ:St):Prop where
 go:∀a w,SJ C n σ a w->c.wp C.P (fun ex a' w'=>∃σ',Q ex σ'/\SJ C n σ' a' w') a w
def Bn(K:St->Prop)(Q:Exit->St->Prop):Exit->St->Prop
 | .normal,σ=>K σ
 |e,σ=>Q e σ
def uo(id:Nat)(Q:Exit->St->Prop):Exit->St->Prop
 | .exit id',σ=>if id'=id then Q .normal σ else Q (.exit id') σ
 |e,σ=>Q e σ
section
variable {C:Ctx}{n:Nat}{Q:Exit->St->Prop}{σ τ:St}
theorem AW.mono{c:Code}{Q':Exit->St->Prop}(h:AW C n c Q σ)(hq:∀e s,Q e s->Q' e s):AW C n c Q' σ:=
 ⟨fun a w hs=>wp_mono (h.go a w hs) fun e _ _ ⟨s,q,r⟩=>⟨s,hq e s q,r⟩⟩
theorem OR(h:Q .normal σ):AW C n .skip Q σ:=⟨fun _ _ hs=>wp_skip ⟨σ,h,hs⟩⟩
theorem AW.exit{id:Nat}(h:Q (.exit id) σ):AW C n (.exit id) Q σ:=⟨fun _ _ hs=>wp_exit ⟨σ,h,hs⟩⟩
theorem AW.ret(h:Q .ret σ):AW C n .ret Q σ:=⟨fun _ _ hs=>wp_ret ⟨σ,h,hs⟩⟩
theorem O4{x y:Code}(h:AW C n x (Bn (AW C n y Q) Q) σ):AW C n (.seq x y) Q σ:=by
 refine⟨fun a w hs=>?_⟩;refine wp_seq (wp_mono (h.go a w hs) ?_);rintro e a' w' ⟨s,q,r⟩;cases e<;>first|exact AW.go q a' w' r|exact⟨s,q,r⟩
theorem AW.block{id:Nat}{c:Code}(h:AW C n c (uo id Q) σ):AW C n (.block id c) Q σ:=by
 refine⟨fun a w hs=>?_⟩;refine wp_block (wp_mono (h.go a w hs) ?_);rintro e a' w' ⟨s,q,r⟩;cases e with
 | exit id'=>
   simp only[uo]at q;simp only[Exit.inBlock];split
   ·rename_i hid;rw[AT hid]at q;exact⟨s,q,r⟩
   ·rename_i hid;rw[dw hid]at q;exact⟨s,q,r⟩
 |_=>exact⟨s,q,r⟩
theorem AW.jm{c:Operand}{x y:Code}{p:Prop}[Decidable p](hc:σ.ev n c= .pv (.bool (decide p)))(ht:p->AW C n x Q σ)(hf:¬p->AW C n y Q σ):AW C n (.cond c x y) Q σ:=by
 refine⟨fun a w hs=>?_⟩;obtain⟨m,R,hw⟩:=hs;have he:=hw.ev c;rw[hc]at he;simp only[Rel,RelP]at he;exact wp_cond_split he (fun e=>(ht (Q8 e)).go a w ⟨m,R,hw⟩) (fun e=>(hf (Rc e)).go a w ⟨m,R,hw⟩)
theorem AW.cond{c:Operand}{x y:Code}{b:Bool}(hc:σ.ev n c= .pv (.bool b))(ht:b=true->AW C n x Q σ)(hf:b=false->AW C n y Q σ):AW C n (.cond c x y) Q σ:=by
 refine⟨fun a w hs=>?_⟩;obtain⟨m,R,hw⟩:=hs;have he:=hw.ev c;rw[hc]at he;simp only[Rel,RelP]at he;exact wp_cond_split he (fun e=>(ht e).go a w ⟨m,R,hw⟩) (fun e=>(hf e).go a w ⟨m,R,hw⟩)
def St.le(σ τ:St):Prop:=∀(C:Ctx)(n:Nat)(a:Act)(w:World),SJ C n σ a w->SJ C n τ a w
theorem OT{c:Code}(hl:σ.le τ)(h:AW C n c Q τ):AW C n c Q σ:=⟨fun a w hs=>h.go a w (hl C n a w hs)⟩
theorem AW.loop{c:Code}{X:Type}(st:X->St)(I:X->Prop)(μ:X->Nat)(x0:X)(h0:σ.le (st x0))(hi:I x0)
  (round:∀x,I x->AW C n c (Bn (fun s=>∃x',s.le (st x')/\I x'/\μ x'<μ x) Q) (st x)):AW C n (.loop c) Q σ:=by
 refine⟨fun a w hs=>?_⟩;have key:∀k x,μ x=k->I x->∀a w,SJ C n (st x) a w->∀(b:Frame)(kk:List Item)(cs:List Frame),
   ∃e a' w',(∃σ',Q e σ'/\SJ C n σ' a' w')/\Arrives C.P (lone (b.at a (.code c:: .inLoop c::kk)) cs w) b kk cs e a' w':=by
  intro k;induction k using Nat.strongRecOn with
  | _ k ih=>
    intro x hk hx a w hs b kk cs;obtain⟨e,a₁,w₁,hq,harr⟩:=(round x hx).go a w hs b (.inLoop c::kk) cs;obtain⟨s,q,r⟩:=hq;cases e with
    | normal=>
      obtain⟨x',hl,hx',hlt⟩:=q;obtain⟨e₂,a₂,w₂,hq₂,harr₂⟩:=ih (μ x') (hk▸hlt) x' O hx' a₁ w₁ (hl C n a₁ w₁ r) b kk cs;exact⟨e₂,a₂,w₂,hq₂,.of_steps (Steps.trans harr (.one step_inLoop)) harr₂⟩
    |exit id=>exact⟨_,a₁,w₁,⟨s,q,r⟩,.pass (x:= .inLoop c) O (fun _ _=> .inl Tw) harr⟩
    |goto l=>exact⟨_,a₁,w₁,⟨s,q,r⟩,.pass (x:= .inLoop c) O (fun _ _=> .inl Tw) harr⟩
    |ret=>exact⟨_,a₁,w₁,⟨s,q,r⟩,.pass (x:= .inLoop c) O (fun _ _=> .inl Tw) harr⟩
    |panic ch=>exact⟨_,a₁,w₁,⟨s,q,r⟩,.pass (x:= .inLoop c) O (fun _ _=> .inl Tw) harr⟩
    |outgrown=>exact⟨_,a₁,w₁,⟨s,q,r⟩,.pass (x:= .inLoop c) O (fun _ _=> .inl Tw) harr⟩
 intro b kk cs;obtain⟨e,a',w',hq,harr⟩:=key _ x0 O hi a w (h0 C n a w hs) b kk cs;exact⟨e,a',w',hq,.of_steps (.one step_loop) harr⟩
end
def OJ(C:Ctx)(n:Nat)(o:Oper)(K:St->Prop)(σ:St):Prop:=
 ∀a w Q,SJ C n σ a w->o.wp C.P a w (fun a' w'=>∃σ',K σ'/\SJ C n σ' a' w') Q
structure OS where
 v:V
 wr:List (Nat×Option Ob):=[]
 nw:List Nat:=[]
def obL:List (Nat×Option Ob)->(Nat->Option Ob)->Nat->Option Ob
 |[],f,id=>f id
 |(i,o)::l,f,id=>bif Nat.beq id i then o else obL l f id
def avL:List Nat->Av->Av
 |[],f,id=>f id
 |i::l,f,id=>bif Nat.beq id i then false else avL l f id
def St.app(σ:St)(d:Option Tmp)(s:OS):St:=
 { sl:=match d with|some d=>upd σ.sl d s.v|none=>σ.sl,ob:=obL s.wr σ.ob,av:=avL s.nw σ.av }
def XJ(C:Ctx)(n:Nat)(o:Oper)(σ:St)(s:OS):Prop:=OJ C n o (fun τ=>τ=σ.app o.dst s) σ
def V.gd:V->Option (Option Bool)
 | .pv (.bool b)=>some (some b)
 | .pv (.tup [])=>some none
 |_=>none
abbrev und:V:= .pv (.tup [])
theorem Dh(w:World)(m:Gm)(av:Av)(R:Nat->Prop):Rel w m av R und undef:=by
 simp only[und,Rel,RelP];exact⟨[],O,RelPL.nil⟩
theorem V.rH{v:V}{b:Bool}(h:v= .pv (.bool b)):v.gd=some (some b):=by rw[h];rfl
def SK(C:Ctx)(n:Nat)(o:Oper)(K:St->Prop)(σ:St):Prop:=∀a w,SJ C n σ a w->∃s,K s/\SJ C n s (a.put o.dst undef) w
def RL(C:Ctx)(n:Nat)(ops:Array Oper):List Oper->(St->Prop)->St->Prop
 |[],K,σ=>K σ
 | o::os,K,σ=>
   match o.guard with
   |none=>OJ C n o (RL C n ops os K) σ
   |some (j,want)=>∃b,(∀a w,SJ C n σ a w->yielded ops a.tmps j=b)/\(b=some want->OJ C n o (RL C n ops os K) σ)/\(b≠some want->SK C n o (RL C n ops os K) σ)
section
variable {C:Ctx}{n:Nat}{Q:Exit->St->Prop}{σ τ:St}{ops:Array Oper}
theorem OJ.mono{o:Oper}{K K':St->Prop}(h:OJ C n o K σ)(hk:∀s,K s->K' s):OJ C n o K' σ:=
 fun a w Q hs=>Oper.wp_mono (fun _ _ ⟨s,q,r⟩=>⟨s,hk s q,r⟩) (h a w Q hs)
theorem dY{a:Act}{w:World}{m:Gm}{R:Nat->Prop}(h:SW C n σ a w m R){j:Nat}{b:Option Bool}(he:(σ.ev n (.tmp (((ops[j]?).bind (·.dst)).getD n))).gd=some b):yielded ops a.tmps j=b:=by
 have hv:=h.ev (.tmp (((ops[j]?).bind (·.dst)).getD n));generalize σ.ev n (.tmp (((ops[j]?).bind (·.dst)).getD n))=v at he hv;have hval:∃u,a.eval (.tmp (((ops[j]?).bind (·.dst)).getD n))=u/\((∃c,u= .bool c/\b=some c)\/(u=undef/\b=none)):=by
  unfold V.gd at he;split at he
  ·simp only[Pe]at he;simp only[Rel,RelP]at hv;exact⟨_,hv,.inl ⟨_,O,he.symm⟩⟩
  ·simp only[Pe]at he;simp only[Rel,RelP]at hv;obtain⟨us,hu,hr⟩:=hv;simp only[RelPL]at hr;subst hr;exact⟨_,hu,.inr ⟨O,he.symm⟩⟩
  ·cases he
 obtain⟨u,hu,hb⟩:=hval;simp only[Act.eval]at hu;unfold yielded;cases hd:(ops[j]?).bind (·.dst)with
 | none=>
   rw[hd]at hu;simp only[Option.getD_none,PN]at hu;rw[Array.getElem?_eq_none (by have:=h.sz;omega)]at hu;simp at hu;subst hu;rcases hb with⟨c,hc,_⟩|⟨_,rfl⟩
   ·simp[undef]at hc
   ·rfl
 | some d=>
   rw[hd]at hu;simp only[Sc,PN]at hu;simp only[Option.bind_some];cases ht:a.tmps[d]? with
   | none=>
     rw[ht]at hu;simp at hu;subst hu;rcases hb with⟨c,hc,_⟩|⟨_,rfl⟩
     ·simp[undef]at hc
     ·rfl
   | some u'=>
     rw[ht]at hu;simp at hu;subst hu;rcases hb with⟨c,rfl,rfl⟩|⟨rfl,rfl⟩<;>rfl
theorem RL.sound(K:St->Prop):∀(os:List Oper)(k:Nat)(σ:St),ops.toList.drop k=os->RL C n ops os K σ->∀a w,SJ C n σ a w->∀Q:Exit->Act->World->Prop,
  (∀a w,(∃s,K s/\SJ C n s a w)->Q .normal a w)->wpOps C.P ops Q (List.range' k (ops.size-k)) a w:=by
 intro os;induction os with
 | nil=>
   intro k σ hd h a w hs Q hQ;have:ops.size-k=0:=by
    have:=ag List.length hd;simpa using this
   rw[this];simp only[List.range'_zero,wpOps];exact hQ a w ⟨σ,h,hs⟩
 | cons o os ih=>
   intro k σ hd h a w hs Q hQ;have hlt:k<ops.size:=by
    have:=ag List.length hd;simp at this;omega
   have ho:ops[k]? =some o:=by
    have:=ag (·[0]?) hd;simpa using this
   have hd':ops.toList.drop (k+1)=os:=by
    have:=ag (List.drop 1) hd;simpa[SN]using this
   have e:ops.size-k=(ops.size-(k+1))+1:=Ts;rw[e,List.range'_succ];have next:∀a' w',(∃s,RL C n ops os K s/\SJ C n s a' w')->wpOps C.P ops Q (List.range' (k+1) (ops.size-(k+1))) a' w':=by
    rintro a' w' ⟨s,hs',hr⟩;exact ih (k+1) s hd' hs' a' w' hr Q hQ
   simp only[wpOps,ho];simp only[RL]at h;cases hg:o.guard with
   | none=>
     rw[hg]at h;simp only[Region.wanted,hg,Te];exact .inl (Oper.wp_mono next (h a w Q hs))
   | some jw=>
     obtain⟨j,want⟩:=jw;rw[hg]at h;obtain⟨b,hb,h1,h2⟩:=h;have hy:=hb a w hs;simp only[Region.wanted,hg,hy];by_cases hbw:b=some want
     ·subst hbw;simp only[Qz,Te];exact .inl (Oper.wp_mono next (h1 O a w Q hs))
     ·have:(b==some want)=false:=by simpa using hbw
      simp only[this,Qk,SD];exact next _ _ (h2 hbw a w hs)
theorem AW.region{id:Nat}(h:RL C n ops ops.toList (Q .normal) σ):AW C n (.region id ops false) Q σ:=by
 refine⟨fun a w hs=>?_⟩;refine wp_region ?_;have:=RL.sound (Q .normal) ops.toList 0 σ Tw h a w hs (fun ex a' w'=>∃σ',Q ex σ'/\SJ C n σ' a' w') (fun _ _ x=>x);rw[List.range_eq_range'];simpa using this
theorem RL.step{o:Oper}{os:List Oper}{K:St->Prop}{s:OS}{d:Option Tmp}(hg:o.guard=none)(hd:o.dst=d)(hx:XJ C n o σ s)(h:RL C n ops os K (σ.app d s)):RL C n ops (o::os) K σ:=by
 subst hd;simp only[RL,hg];exact hx.mono fun _ e=>e▸h
theorem RL.stepG{o:Oper}{os:List Oper}{K:St->Prop}{s:OS}{d:Option Tmp}{j:Nat}{want:Bool}(hg:o.guard=some (j,want))(hd:o.dst=d)(hb:σ.ev n (.tmp (((ops[j]?).bind (·.dst)).getD n))= .pv (.bool want))
  (hx:XJ C n o σ s) (h:RL C n ops os K (σ.app d s)):RL C n ops (o::os) K σ:=by
 subst hd;simp only[RL,hg];exact⟨some want,fun a w ⟨m,R,hw⟩=>dY hw (V.rH hb),fun _=>hx.mono fun _ e=>e▸h,fun e=>absurd O e⟩
theorem RL.call{o:Oper}{os:List Oper}{K:St->Prop}(hg:o.guard=none)(h:OJ C n o (RL C n ops os K) σ):RL C n ops (o::os) K σ:=by
 simp only[RL,hg];exact h
end
end
section
theorem St.gA(σ:St)(d:Option Tmp)(v:V):σ.app d ⟨v,[],[]⟩=σ.put d v:=by
 cases d<;>rfl
section
variable {C:Ctx}{n:Nat}{σ:St}{dst:Option Tmp}{ty t t':TypeId}{pos:String}{after:Array Edge}{gd:Option (Nat×Bool)}{x y:Operand}
theorem XJ.val{o:Oper}{v:V}(h:∀a w m R,SW C n σ a w m R->∃u,(execOp a.eval o).run C.P w= .ok (.value u) w/\Rel w m σ.av R v u):XJ C n o σ ⟨v,[],[]⟩:=by
 rintro a w Q ⟨m,R,hw⟩;obtain⟨u,hrun,hrel⟩:=h a w m R hw;unfold Oper.wp;rw[hrun];exact⟨_,O,m,R,St.gA σ o.dst v▸hw.put o.dst hrel⟩
theorem oP:XJ C n ⟨dst,.move x,ty,pos,after,gd⟩ σ ⟨σ.ev n x,[],[]⟩:=
 .val fun a w m R hw=>⟨a.eval x,O,hw.ev x⟩
theorem Bg:XJ C n ⟨dst,.assign x,ty,pos,after,gd⟩ σ ⟨σ.ev n x,[],[]⟩:=
 .val fun a w m R hw=>⟨a.eval x,O,hw.ev x⟩
theorem SW.pv{a:Act}{w:World}{m:Gm}{R:Nat->Prop}(h:SW C n σ a w m R){x:Operand}{p:PV}(hx:σ.ev n x= .pv p):RelP w R p (a.eval x):=by
 have:=h.ev x;rw[hx]at this;simpa only[Rel]using this
theorem SW.int{a:Act}{w:World}{m:Gm}{R:Nat->Prop}(h:SW C n σ a w m R){x:Operand}{k:IntKind}{i:Int}(hx:σ.ev n x= .pv (.int k i)):a.eval x= .int k i:=by
 simpa only[RelP]using h.pv hx
theorem SW.bool{a:Act}{w:World}{m:Gm}{R:Nat->Prop}(h:SW C n σ a w m R){x:Operand}{b:Bool}(hx:σ.ev n x= .pv (.bool b)):a.eval x= .bool b:=by
 simpa only[RelP]using h.pv hx
theorem SW.str{a:Act}{w:World}{m:Gm}{R:Nat->Prop}(h:SW C n σ a w m R){x:Operand}{s:ByteArray}(hx:σ.ev n x= .pv (.str s)):a.eval x= .string s:=by
 simpa only[RelP]using h.pv hx
theorem Ky{c x y:Operand}{b:Bool}(hc:σ.ev n c= .pv (.bool b)):XJ C n ⟨dst,.pick c x y,ty,pos,after,gd⟩ σ ⟨bif b then σ.ev n x else σ.ev n y,[],[]⟩:=
 .val fun a w m R hw=>by
  refine⟨bif b then a.eval x else a.eval y,?_,?_⟩
  ·simp only[execOp,hw.bool hc,asBool];cases b<;>rfl
  ·cases b
   ·exact hw.ev y
   ·exact hw.ev x
def uZ:PV->Value
 | .int k n=> .int k n
 | .bool b=> .bool b
 | .str s=> .string s
 |_=>undef
def PV.scal:PV->Bool
 | .int _ _| .bool _| .str _=>true
 |_=>false
theorem XJ.lit{o:Oper}{p:PV}(hp:p.scal=true)(h:∀a w m R,SW C n σ a w m R->(execOp a.eval o).run C.P w= .ok (.value (uZ p)) w):XJ C n o σ ⟨.pv p,[],[]⟩:=
 .val fun a w m R hw=>⟨uZ p,h a w m R hw,by cases p<;>simp[PV.scal]at hp<;>simp only[Rel,RelP,uZ]⟩
def tD(op:BinOp)(k:IntKind)(a b:Int):Option PV:=
 match op with
 | .add=>some (.int k (k.wrap (a+b)))
 | .sub=>some (.int k (k.wrap (a-b)))
 | .mul=>some (.int k (k.wrap (a*b)))
 | .eql=>some (.bool (a==b))
 | .neq=>some (.bool (a !=b))
 | .lss=>some (.bool (decide (a<b)))
 | .leq=>some (.bool (decide (a<=b)))
 | .gtr=>some (.bool (decide (a>b)))
 | .geq=>some (.bool (decide (a>=b)))
 | .and=>some (.int k (k.wrap (BitVec.ofInt k.bits a&&&BitVec.ofInt k.bits b).toNat))
 | .or=>some (.int k (k.wrap (BitVec.ofInt k.bits a|||BitVec.ofInt k.bits b).toNat))
 | .xor=>some (.int k (k.wrap (BitVec.ofInt k.bits a^^^BitVec.ofInt k.bits b).toNat))
 | .andNot=>some (.int k (k.wrap (BitVec.ofInt k.bits a&&& ~~~ (BitVec.ofInt k.bits b)).toNat))
 |_=>none
theorem aG{op:BinOp}{k:IntKind}{i j:Int}{p:PV}(hx:σ.ev n x= .pv (.int k i))(hy:σ.ev n y= .pv (.int k j))(hp:tD op k i j=some p):
  XJ C n ⟨dst,.binOp op t x y t',ty,pos,after,gd⟩ σ ⟨.pv p,[],[]⟩:=
 .lit (by cases op<;>simp only[tD,Pe,reduceCtorEq]at hp<;>subst hp<;>rfl) fun a w m R hw=>by
  have e1:=hw.int hx;have e2:=hw.int hy;cases op<;>simp only[tD,Pe,reduceCtorEq]at hp<;>subst hp<;>
   simp[execOp,e1,e2,eqGuard,binOp,Op.intArith,Op.intCmp,Op.intBits,uZ]
theorem lj{i:Int}(h: -9223372036854775808<=i/\i<=9223372036854775807):IntKind.i64.wrap i=i:=IntWalk.i64_in _ h
theorem I7{i j:Int}(hx:σ.ev n x= .pv (.int .i64 i))(hy:σ.ev n y= .pv (.int .i64 j))(h: -9223372036854775808<=i+j/\i+j<=9223372036854775807):
  XJ C n ⟨dst,.binOp .add t x y t',ty,pos,after,gd⟩ σ ⟨.pv (.int .i64 (i+j)),[],[]⟩:=
 aG hx hy (by simp only[tD,lj h])
theorem Ol{i j:Int}(hx:σ.ev n x= .pv (.int .i64 i))(hy:σ.ev n y= .pv (.int .i64 j))(h: -9223372036854775808<=i-j/\i-j<=9223372036854775807):
  XJ C n ⟨dst,.binOp .sub t x y t',ty,pos,after,gd⟩ σ ⟨.pv (.int .i64 (i-j)),[],[]⟩:=
 aG hx hy (by simp only[tD,lj h])
theorem Ny{i j:Int}(hx:σ.ev n x= .pv (.int .i64 i))(hy:σ.ev n y= .pv (.int .i64 j))(h: -9223372036854775808<=i*j/\i*j<=9223372036854775807):
  XJ C n ⟨dst,.binOp .mul t x y t',ty,pos,after,gd⟩ σ ⟨.pv (.int .i64 (i*j)),[],[]⟩:=
 aG hx hy (by simp only[tD,lj h])
theorem JH{k:IntKind}{i j:Int}(hx:σ.ev n x= .pv (.int k i))(hy:σ.ev n y= .pv (.int k j))(h:j≠0):
  XJ C n ⟨dst,.binOp .quo t x y t',ty,pos,after,gd⟩ σ ⟨.pv (.int k (k.wrap (i.tdiv j))),[],[]⟩:=
 .lit O fun a w m R hw=>by simp[execOp,hw.int hx,hw.int hy,eqGuard,binOp,Op.intDiv,h,uZ]
theorem tv{k:IntKind}{i j:Int}(hx:σ.ev n x= .pv (.int k i))(hy:σ.ev n y= .pv (.int k j))(h:j≠0):
  XJ C n ⟨dst,.binOp .rem t x y t',ty,pos,after,gd⟩ σ ⟨.pv (.int k (i.tmod j)),[],[]⟩:=
 .lit O fun a w m R hw=>by simp[execOp,hw.int hx,hw.int hy,eqGuard,binOp,Op.intDiv,h,uZ]
theorem OO{k k':IntKind}{i j:Int}(hx:σ.ev n x= .pv (.int k i))(hy:σ.ev n y= .pv (.int k' j))(h:0<=j):
  XJ C n ⟨dst,.binOp .shl t x y t',ty,pos,after,gd⟩ σ ⟨.pv (.int k (k.wrap (i*2^(min j.toNat k.bits)))),[],[]⟩:=
 .lit O fun a w m R hw=>by simp[execOp,hw.int hx,hw.int hy,eqGuard,binOp,Op.shift,Int.not_lt.2 h,uZ]
theorem NK{k k':IntKind}{i j:Int}(hx:σ.ev n x= .pv (.int k i))(hy:σ.ev n y= .pv (.int k' j))(h:0<=j):
  XJ C n ⟨dst,.binOp .shr t x y t',ty,pos,after,gd⟩ σ ⟨.pv (.int k (i.fdiv (2^(min j.toNat k.bits)))),[],[]⟩:=
 .lit O fun a w m R hw=>by simp[execOp,hw.int hx,hw.int hy,eqGuard,binOp,Op.shift,Int.not_lt.2 h,uZ]
def binS(op:BinOp)(a b:ByteArray):Option PV:=
 match op with
 | .eql=>some (.bool (a.toList==b.toList))
 | .neq=>some (.bool !(a.toList==b.toList))
 | .lss=>some (.bool (Op.bytesLess a.toList b.toList))
 | .leq=>some (.bool (Op.bytesLess a.toList b.toList||a.toList==b.toList))
 | .gtr=>some (.bool !(Op.bytesLess a.toList b.toList||a.toList==b.toList))
 | .geq=>some (.bool !(Op.bytesLess a.toList b.toList))
 |_=>none
theorem dh{op:BinOp}{i j:ByteArray}{p:PV}(hx:σ.ev n x= .pv (.str i))(hy:σ.ev n y= .pv (.str j))(hp:binS op i j=some p):
  XJ C n ⟨dst,.binOp op t x y t',ty,pos,after,gd⟩ σ ⟨.pv p,[],[]⟩:=
 .lit (by cases op<;>simp only[binS,Pe,reduceCtorEq]at hp<;>subst hp<;>rfl) fun a w m R hw=>by
  have e1:=hw.str hx;have e2:=hw.str hy;cases op<;>simp only[binS,Pe,reduceCtorEq]at hp<;>subst hp<;>
   simp[execOp,e1,e2,eqGuard,binOp,Op.stringOp,uZ]
theorem y3{i j:ByteArray}(hx:σ.ev n x= .pv (.str i))(hy:σ.ev n y= .pv (.str j))(h:i.size+j.size<=9223372036854775807):
  XJ C n ⟨dst,.binOp .add t x y t',ty,pos,after,gd⟩ σ ⟨.pv (.str (i++j)),[],[]⟩:=
 .val fun a w m R hw=>⟨.string (i++j),by
  have hm:IntKind.i64.max=9223372036854775807:=Tu;simp[execOp,hw.str hx,hw.str hy,eqGuard,binOp,Op.stringOp];omega,by simp only[Rel,RelP]⟩
theorem LQ{i j:Bool}(hu:C.P.underlying t=some .bool)(hx:σ.ev n x= .pv (.bool i))(hy:σ.ev n y= .pv (.bool j)):
  XJ C n ⟨dst,.binOp .eql t x y t',ty,pos,after,gd⟩ σ ⟨.pv (.bool (i==j)),[],[]⟩:=
 .val fun a w m R hw=>⟨.bool (i==j),by
  simp[execOp,hw.bool hx,hw.bool hy,eqGuard,run_eql_bool _ _ _ _ hu],by simp only[Rel,RelP]⟩
theorem Kg{i j:Bool}(hu:C.P.underlying t=some .bool)(hx:σ.ev n x= .pv (.bool i))(hy:σ.ev n y= .pv (.bool j)):
  XJ C n ⟨dst,.binOp .neq t x y t',ty,pos,after,gd⟩ σ ⟨.pv (.bool (i !=j)),[],[]⟩:=
 .val fun a w m R hw=>⟨.bool (i !=j),by
  simp[execOp,hw.bool hx,hw.bool hy,eqGuard,run_neq_bool _ _ _ _ hu];cases i<;>cases j<;>rfl,by simp only[Rel,RelP]⟩
theorem EH{e:TypeId}{b:Bool}{k:Nat}{cs:List PV}(hu:C.P.underlying t=some (.slice e))(hx:σ.ev n x= .pv (.sl (some b) k cs)):
  XJ C n ⟨dst,.binOp .eql t x (.const (.slice none 0 0)) t',ty,pos,after,gd⟩ σ ⟨.pv (.bool b),[],[]⟩:=
 .val fun a w m R hw=>by
  have:=hw.pv hx;simp only[RelP]at this;obtain⟨A,c,e,_,_,hb,_⟩:=this;have hb:=hb b O;have hc:a.eval (.const (.slice none 0 0))= .slice none 0 0:=rfl;exact⟨.bool b,by simp[execOp,e,eqGuard,binOp,hc,run_equal_slice_nil _ _ _ _ _ _ hu,hb],by simp only[Rel,RelP]⟩
theorem EB{e:TypeId}{b:Bool}{k:Nat}{cs:List PV}(hu:C.P.underlying t=some (.slice e))(hx:σ.ev n x= .pv (.sl (some b) k cs)):
  XJ C n ⟨dst,.binOp .neq t x (.const (.slice none 0 0)) t',ty,pos,after,gd⟩ σ ⟨.pv (.bool (!b)),[],[]⟩:=
 .val fun a w m R hw=>by
  have:=hw.pv hx;simp only[RelP]at this;obtain⟨A,c,e,_,_,hb,_⟩:=this;have hb:=hb b O;have hc:a.eval (.const (.slice none 0 0))= .slice none 0 0:=rfl;exact⟨.bool (!b),by simp[execOp,e,eqGuard,binOp,hc,run_equal_slice_nil _ _ _ _ _ _ hu,hb],by simp only[Rel,RelP]⟩
theorem Ns{b:Bool}(hx:σ.ev n x= .pv (.bool b)):XJ C n ⟨dst,.unOp .not t x,ty,pos,after,gd⟩ σ ⟨.pv (.bool (!b)),[],[]⟩:=
 .val fun a w m R hw=>⟨.bool (!b),by simp[execOp,hw.bool hx,Op.unary],by simp only[Rel,RelP]⟩
theorem NT{i:Int}(hx:σ.ev n x= .pv (.int .i64 i))(h: -9223372036854775807<=i)(h2:i<=9223372036854775807):XJ C n ⟨dst,.unOp .neg t x,ty,pos,after,gd⟩ σ ⟨.pv (.int .i64 (-i)),[],[]⟩:=
 .val fun a w m R hw=>⟨.int .i64 (-i),by
  have:=lj (i:= -i) Ts;simp[execOp,hw.int hx,Op.unary,Op.intArith,this],by simp only[Rel,RelP]⟩
theorem mP{k k':IntKind}{i:Int}{src d:TypeId}{sd:TypeDesc}(hs:C.P.underlying src=some sd)(hd:C.P.underlying d=some (.int k'))(hx:σ.ev n x= .pv (.int k i)):
  XJ C n ⟨dst,.convert src d x,ty,pos,after,gd⟩ σ ⟨.pv (.int k' (k'.wrap i)),[],[]⟩:=
 .val fun a w m R hw=>⟨.int k' (k'.wrap i),by
  simp only[execOp,hw.int hx,convert,Sem.run_bind,run_underlying hs,run_underlying hd,Result.andThen_ok];cases sd<;>simp[Conv.intToInt],by simp only[Rel,RelP]⟩
theorem di{ps:List PV}{p:PV}{i:Nat}(hx:σ.ev n x= .pv (.tup ps))(hp:ps[i]? =some p):XJ C n ⟨dst,.extract x i,ty,pos,after,gd⟩ σ ⟨.pv p,[],[]⟩:=
 .val fun a w m R hw=>by
  have:=hw.pv hx;simp only[RelP]at this;obtain⟨us,e,hl⟩:=this;obtain⟨u,hu,hr⟩:=hl.get hp;exact⟨u,by simp[execOp,e,Instr.extract,hu],by simpa only[Rel]using hr⟩
theorem z1{ps:List V}{p:V}{i:Nat}(hx:σ.ev n x= .tup ps)(hp:ps[i]? =some p):XJ C n ⟨dst,.extract x i,ty,pos,after,gd⟩ σ ⟨p,[],[]⟩:=
 .val fun a w m R hw=>by
  have:=hw.ev x;rw[hx]at this;simp only[Rel]at this;obtain⟨us,e,hl⟩:=this;obtain⟨u,hu,hr⟩:=hl.get hp;exact⟨u,by simp[execOp,e,Instr.extract,hu],hr⟩
theorem Fx{s:ByteArray}(hu:C.P.underlying t=some .string)(hx:σ.ev n x= .pv (.str s)):
  XJ C n ⟨dst,.call { callee:= .builtin .len,args:= #[x],argTypes:= #[t] },ty,pos,after,gd⟩ σ ⟨.pv (.int .i64 s.size),[],[]⟩:=
 .val fun a w m R hw=>⟨.int .i64 s.size,by simp[execOp,resolve,invoke,builtin,Builtin.len_,hw.str hx,run_underlying hu,goInt],by simp only[Rel,RelP]⟩
theorem Nx{e:TypeId}{b:Option Bool}{k:Nat}{cs:List PV}(hu:C.P.underlying t=some (.slice e))(hx:σ.ev n x= .pv (.sl b k cs)):
  XJ C n ⟨dst,.call { callee:= .builtin .len,args:= #[x],argTypes:= #[t] },ty,pos,after,gd⟩ σ ⟨.pv (.int .i64 k),[],[]⟩:=
 .val fun a w m R hw=>by
  have:=hw.pv hx;simp only[RelP]at this;obtain⟨A,c,e,_⟩:=this;exact⟨.int .i64 k,by simp[execOp,resolve,invoke,builtin,Builtin.len_,e,run_underlying hu,goInt],by simp only[Rel,RelP]⟩
theorem KM{e:TypeId}{id sz k:Nat}{o:Ob}(hu:C.P.underlying t=some (.slice e))(hx:σ.ev n x= .osl id sz k)(ho:σ.ob id=some o)(hre:o.real=true:=by rfl):
  XJ C n ⟨dst,.call { callee:= .builtin .len,args:= #[x],argTypes:= #[t] },ty,pos,after,gd⟩ σ ⟨.pv (.int .i64 k),[],[]⟩:=
 .val fun a w m R hw=>by
  have:=hw.ev x;rw[hx]at this;simp only[Rel]at this;have hd:=hw.hr.dom id;rw[ho]at hd;replace hd:=hd.trans hre;obtain⟨⟨b,N⟩,hm⟩:=PB.1 hd;obtain⟨c,e,_⟩:=this.2 b N hm;exact⟨.int .i64 k,by simp[execOp,resolve,invoke,builtin,Builtin.len_,e,run_underlying hu,goInt],by simp only[Rel,RelP]⟩
theorem KX{e:TypeId}{id sz k:Nat}(hu:C.P.underlying t=some (.slice e))(hx:σ.ev n x= .gsl id sz k):
  XJ C n ⟨dst,.call { callee:= .builtin .len,args:= #[x],argTypes:= #[t] },ty,pos,after,gd⟩ σ ⟨.pv (.int .i64 k),[],[]⟩:=
 .val fun a w m R hw=>by
  have:=hw.ev x;rw[hx]at this;simp only[Rel]at this;obtain⟨_,A,c,e,_⟩:=this;exact⟨.int .i64 k,by simp[execOp,resolve,invoke,builtin,Builtin.len_,e,run_underlying hu,goInt],by simp only[Rel,RelP]⟩
theorem JL{k:IntKind}{i j:Int}(hx:σ.ev n x= .pv (.int k i))(hy:σ.ev n y= .pv (.int k j)):
  XJ C n ⟨dst,.call { callee:= .builtin .max,args:= #[x,y],argTypes:= #[t,t'] },ty,pos,after,gd⟩ σ ⟨.pv (.int k (if j>i then j else i)),[],[]⟩:=
 .val fun a w m R hw=>⟨.int k (if j>i then j else i),by simp[execOp,resolve,invoke,builtin,Builtin.max_,Builtin.max2,hw.int hx,hw.int hy],by simp only[Rel,RelP]⟩
theorem Ji{k:IntKind}{i j:Int}(hx:σ.ev n x= .pv (.int k i))(hy:σ.ev n y= .pv (.int k j)):
  XJ C n ⟨dst,.call { callee:= .builtin .min,args:= #[x,y],argTypes:= #[t,t'] },ty,pos,after,gd⟩ σ ⟨.pv (.int k (if j<i then j else i)),[],[]⟩:=
 .val fun a w m R hw=>⟨.int k (if j<i then j else i),by simp[execOp,resolve,invoke,builtin,Builtin.min_,Builtin.min2,hw.int hx,hw.int hy],by simp only[Rel,RelP]⟩
end
end
section
def Row(w:World)(R:Nat->Prop)(A:Option Addr)(xs:List Value):Prop:=
 xs≠[]->∃b off:Nat,A=some ⟨b,off,none⟩/\R b/\b<w.heap.size/\∀j,j<xs.length->w.cell? ⟨b,off+j,none⟩=xs[j]?
abbrev K5(l:List ByteArray):List Value:=l.map Value.string
def Any(_:Nat):Prop:=True
section
variable {w w':World}{R R':Nat->Prop}{A:Option Addr}{xs:List Value}
theorem Row.nil:Row w R A []:=fun h=>absurd O h
theorem Row.at_(h:Row w R A xs){k:Nat}(hk:k<xs.length):
  ∃b off:Nat,A=some ⟨b,off,none⟩/\R b/\b<w.heap.size/\∀j,j<xs.length->w.cell? ⟨b,off+j,none⟩=xs[j]? :=
 h (by rintro rfl;simp at hk)
theorem Row.JE{l:List ByteArray}(h:Row w R A (K5 l)){k:Nat}(hk:k<l.length):
  ∃b off:Nat,A=some ⟨b,off,none⟩/\b<w.heap.size/\w.cell? ⟨b,off+k,none⟩=some (.string l[k]):=by
 obtain⟨b,off,e,_,hb,hc⟩:=h.at_ (k:=k) (by simpa using hk);exact⟨b,off,e,hb,by rw[hc k (by simpa using hk)];simp[hk]⟩
theorem Row.keep(h:Row w R A xs)(hs:w.heap.size<=w'.heap.size)
  (hk:∀b off,A=some ⟨b,off,none⟩->R b->b<w.heap.size->w'.heap[b]? =w.heap[b]?):Row w' R A xs:=by
 intro hne;obtain⟨b,off,rfl,hR,hlt,hc⟩:=h hne;have hb:=hk b off O hR hlt;exact⟨b,off,O,hR,Ts,fun j hj=>by rw[World.cell?_of_block (w:=w) (a:=⟨b,off+j,none⟩) hb];exact hc j hj⟩
theorem Row.alloc(h:Row w R A xs)(o:Obj):Row (w.alloc o) R A xs:=
 h.keep Tw fun b _ _ _ hlt=>Below.heap_alloc w o b hlt
end
theorem tW{w:World}{base:Nat}{e:TypeId}{size n:Nat}{v:Value}{xs:List Value}(h:w.ownsRow base e size v n xs):∃A c,v= .slice A n c/\n<=c/\c<=maxLen:=by
 rcases h.2 with⟨rfl,rfl⟩|⟨g,cap,cur,rfl,_,_,hnc,hm,_⟩
 ·exact⟨none,0,O,BY _,by simp[maxLen]⟩
 ·exact⟨_,cap,O,hnc,hm⟩
theorem oy{P:Program}{W:World}{o:Oper}{a:Act}{K:Act->World->Prop}{Q:Exit->Act->World->Prop}(s x:Operand)(t:TypeId)
  (ho:o.op= .call { callee:= .builtin .append,args:= #[s,x],argTypes:= #[t,t] })
  (base:Nat) (e:TypeId) (z:Value) (size bytes:Nat) (ht:P.underlying t=some (.slice e)) (hinfo:(P.info? e).map (fun i=>(i.zero,i.size,i.bytes))=some (some z,size,bytes))
  (hzs:z.cells.size=size) (hsz:0<size) (hby:bytes<=1000)
  (v:Value) (n m c:Nat) (A:Option Addr) (xs news:List Value) (hs:a.eval s=v) (hx:a.eval x= .slice A m c) (hown:W.ownsRow base e size v n xs) {R:Nat->Prop} (hr:Row W R A news)
  (hl:news.length=m*size) (h1:∀u∈news,u.oneCell'=true) (hb:n+m<=1000000000) (hbase:base<=W.heap.size)
  (h:∀A' c' w',w'.ownsRow base e size (.slice A' (n+m) c') (n+m) (xs++news)->W.grownBy w' v.ownBlock->((Value.slice A' (n+m) c').ownBlock=v.ownBlock\/∃g,(Value.slice A' (n+m) c').ownBlock=some g/\W.heap.size<=g)->K (a.put o.dst (.slice A' (n+m) c')) w'):
  o.wp P a W K Q:=by
 obtain⟨i,hi,hz,hsize,hbytes⟩:=info_parts hinfo;have hbb:(n+m)*bytes<=140737488355328:=IS (Qc hb hby) Tu;unfold Oper.wp execOp;cases A with
 | none=>
   have hne:news=[]:=by
    rcases Classical.em (news=[])with h0|h0
    ·exact h0
    ·obtain⟨b,off,hh,_⟩:=hr h0;cases hh
   subst hne;have hm:m=0:=by
    rcases Qj m with h0|h0
    ·exact h0
    ·have:=Tk h0 hsz;simp at hl;omega
   subst hm;have hrun:(Builtin.append_ #[t,t] o.type #[v,.slice none 0 c]).run P W= .ok v W:=by
    rcases hown.2 with⟨rfl,rfl⟩|⟨g,cap,cur,rfl,_,_,hnc,_⟩
    ·simp[Builtin.append_,run_underlying ht,sizeOf,typeInfo,hi,Builtin.lenOf,Builtin.firstCells]
    ·simp[Builtin.append_,run_underlying ht,sizeOf,typeInfo,hi,Builtin.lenOf,Builtin.firstCells,hnc,storeCells]
   simp only[ho,resolve,invoke,builtin,Sem.run_bind,Sem.run_pure,Result.andThen_ok,Sy,bL,Qh,hs,hx,hrun];obtain⟨A',c',rfl,_,_⟩:=tW hown;exact h A' c' W (by simpa using hown) (World.grownBy.refl _ _) (.inl O)
 | some ad=>
   have hcells:∀j u,news[j]? =some u->W.cell? (ad.add j)=some u:=by
    intro j u hu;have hj:j<news.length:=(Pf.1 hu).1;obtain⟨b,off,hh,_,_,hc⟩:=hr (by rintro rfl;simp at hj);cases hh;rw[Addr.add_lit,hc j hj];exact hu
   obtain⟨v',w',hrun,h2,h3,_,h5⟩:=run_append_own_at (P:=P) W base t o.type e i z size bytes ht hi hz hsize hbytes hzs hsz v n xs hown ad m c news
    hl hcells h1 (by simp only[maxLen];omega) hbb hbase
   simp only[ho,resolve,invoke,builtin,Sem.run_bind,Sem.run_pure,Result.andThen_ok,Sy,bL,Qh,hs,hx,hrun];obtain⟨A',c',rfl,_,_⟩:=tW h2;refine h A' c' w' h2 h3 ?_;rcases h5 with h5|h5
   ·exact .inl h5
   ·exact .inr ⟨_,h5,BY _⟩
theorem c7{k:IntKind}{a b:Int}(h:a=b):Ending.returned (.int k a)= .returned (.int k b):=by rw[h]
end
section
def V.cells:V->List V
 | .agg cs=>cs
 | .pv (.agg ps)=>ps.map .pv
 |v=>[v]
mutual
def PV.leaf:PV->Bool
 | .agg _| .tup _| .any=>false
 |_=>true
end
def V.leaf:V->Bool
 | .pv p=>p.leaf
 | .agg _| .tup _=>false
 |_=>true
section
variable {w w':World}{m m':Gm}{av av':Av}{R R':Nat->Prop}
theorem RelP.leaf{p:PV}{u:Value}(h:RelP w R p u)(hl:p.leaf=true):u.oneCell'=true:=by
 cases p<;>simp only[PV.leaf,Qk]at hl<;>simp only[RelP]at h
 case sl=>obtain⟨A,c,rfl,_⟩:=h;rfl
 case rp=>obtain⟨b,o,us,rfl,_⟩:=h;rfl
 case fn=>obtain⟨b,o,rfl,_⟩:=h;rfl
 case iface=>obtain⟨x,rfl,_⟩:=h;rfl
 case mp=>obtain⟨x,rfl,_⟩:=h;rfl
 all_goals (subst h;rfl)
theorem Rel.cells{v:V}{u:Value}(h:Rel w m av R v u)(hl:∀c∈v.cells,c.leaf=true)(hlive:∀id o,v= .ptr id o->(m id).isSome)(hlive2:∀id s k,v= .osl id s k->(m id).isSome)(hlive3:∀id,v= .map id->(m id).isSome):
  RelL w m av R v.cells u.cells.toList:=by
 have one:u.oneCell'=true->RelL w m av R [v] u.cells.toList:=by
  intro h1;have:u.cells= #[u]:=by cases u<;>simp[Value.oneCell']at h1<;>rfl
  rw[this];exact RelL.cons h RelL.nil
 cases v with
 | agg cs=>
   simp only[Rel]at h;obtain⟨us,rfl,h⟩:=h;simpa[V.cells,Value.cells]using h
 | pv p=>
   cases p with
   | agg ps=>
     simp only[Rel,RelP]at h;obtain⟨us,rfl,h⟩:=h;simpa[V.cells,Value.cells]using RelL.ofP h
   | _=>
     refine one ?_;simp only[Rel]at h;exact h.leaf (by simpa[V.cells,V.leaf]using hl)
 |tup cs=>simp[V.cells,V.leaf]at hl
 | fn f a b=>
   refine one ?_;simp only[Rel]at h;obtain⟨us,vs,rfl,_⟩:=h;rfl
 | ptr id o=>
   refine one ?_;obtain⟨⟨b,N⟩,hm⟩:=PB.1 (hlive id o O);simp only[Rel]at h;rw[h.2 b N hm];rfl
 | osl id s k=>
   refine one ?_;obtain⟨⟨b,N⟩,hm⟩:=PB.1 (hlive2 id s k O);simp only[Rel]at h;obtain⟨c,e,_⟩:=h.2 b N hm;rw[e];rfl
 | gsl id s k=>
   refine one ?_;simp only[Rel]at h;obtain⟨_,A,c,e,_⟩:=h;rw[e];rfl
 | tsl id s k=>
   refine one ?_;simp only[Rel]at h;obtain⟨_,A,c,e,_⟩:=h;rw[e];rfl
 | map id=>
   refine one ?_;obtain⟨⟨b,N⟩,hm⟩:=PB.1 (hlive3 id O);simp only[Rel]at h;rw[h.2 b N hm];rfl
end
section
variable {C:Ctx}{n:Nat}{σ:St}{a:Act}{w:World}{m:Gm}{R:Nat->Prop}
theorem SW.world(h:SW C n σ a w m R){w':World}{m':Gm}{R':Nat->Prop}{ob':Nat->Option Ob}{av':Av}(hHR:HR C m' R' ob' av' w')(hR:∀b,R b->R' b/\w'.heap[b]? =w.heap[b]?)
  (hm:∀id x,σ.av id=false->m' id=some x->m id=some x) (ha:∀id,σ.av id=false->av' id=false):SW C n ⟨σ.sl,ob',av'⟩ a w' m' R':=
 ⟨hHR,h.df,h.sz,fun t ht=>(h.sl t ht).mono hR hm ha⟩
theorem SW.live(h:SW C n σ a w m R){id:Nat}{o:Ob}(ho:σ.ob id=some o)(hre:o.real=true:=by rfl):∃b N,m id=some (b,N)/\kE w m σ.av R b N o:=by
 have hd:=h.hr.dom id;rw[ho]at hd;replace hd:=hd.trans hre;obtain⟨⟨b,N⟩,hm⟩:=PB.1 hd;exact⟨b,N,hm,h.hr.obj id o b N ho hm⟩
theorem SW.ptr(h:SW C n σ a w m R){x:Operand}{id off:Nat}{o:Ob}(hx:σ.ev n x= .ptr id off)(ho:σ.ob id=some o)(hre:o.real=true:=by rfl):
  ∃b N,a.eval x= .pointer (some ⟨b,off,none⟩)/\m id=some (b,N)/\kE w m σ.av R b N o:=by
 obtain⟨b,N,hm,hr⟩:=h.live ho hre;have:=h.ev x;rw[hx]at this;simp only[Rel]at this;exact⟨b,N,this.2 b N hm,hm,hr⟩
theorem SW.osl(h:SW C n σ a w m R){x:Operand}{id sz k:Nat}{o:Ob}(hx:σ.ev n x= .osl id sz k)(ho:σ.ob id=some o)(hre:o.real=true:=by rfl):
  ∃b N c,a.eval x= .slice (some ⟨b,0,none⟩) k c/\k<=c/\c<=maxLen/\N=c*sz/\m id=some (b,N)/\kE w m σ.av R b N o:=by
 obtain⟨b,N,hm,hr⟩:=h.live ho hre;have:=h.ev x;rw[hx]at this;simp only[Rel]at this;obtain⟨c,e,h1,h2,h3⟩:=this.2 b N hm;exact⟨b,N,c,e,h1,h2,h3,hm,hr⟩
theorem SW.alloc(h:SW C n σ a w m R){id:Nat}(hid:σ.av id=true)(arr:Array Value)(ty:TypeId)(o:Ob)
  (ho:∀(w':World)(m':Gm)(av':Av),(∀b,R b->R b/\w'.heap[b]? =w.heap[b]?)->(∀i x,σ.av i=false->m' i=some x->m i=some x)->(∀i,σ.av i=false->av' i=false)->
   w'.heap[w.heap.size]? =some (.cells arr ty (0,0))->kE w' m' av' R w.heap.size arr.size o) (hre:o.real=true:=by rfl):
  SW C n ⟨σ.sl,obL [(id,some o)] σ.ob,avL [id] σ.av⟩ a (w.alloc (.cells arr ty)) (upd m id (some (w.heap.size,arr.size))) R:=by
 have hR:∀b,R b->R b/\(w.alloc (.cells arr ty)).heap[b]? =w.heap[b]? :=fun b hb=>⟨hb,Below.heap_alloc w _ b (h.hr.rsz b hb)⟩
 have hne:∀i,σ.av i=false->i≠id:=fun i hi e=>by rw[e,hid]at hi;cases hi
 have hmn:m id=none:=by
  have:=h.hr.dom id;rw[h.hr.free id hid]at this;simpa[bE]using this
 have hm:∀i x,σ.av i=false->upd m id (some (w.heap.size,arr.size)) i=some x->m i=some x:=fun i x hi e=>by rwa [aM _ _ (hne i hi)]at e
 have ha:∀i,σ.av i=false->avL [id] σ.av i=false:=fun i hi=>by
  simp only[avL];cases Nat.beq i id<;>simp[hi]
 have hsz:(w.alloc (.cells arr ty)).heap.size=w.heap.size+1:=Tw;have obe:∀i,i≠id->obL [(id,some o)] σ.ob i=σ.ob i:=fun i hi=>by
  have:Nat.beq i id=false:=by cases hb:Nat.beq i id;rfl;exact absurd (aI hb) hi
  simp[obL,this]
 have obs:obL [(id,some o)] σ.ob id=some o:=by simp[obL]
 have avf:∀i,(m i).isSome=true->σ.av i=false:=fun i hi=>by
  cases hb:σ.av i
  ·rfl
  ·have:=h.hr.dom i;rw[h.hr.free i hb,hi]at this;cases this
 refine h.world ⟨?_,?_,?_,?_,?_,?_,?_,?_,?_,?_,?_⟩ hR hm ha
 ·intro i;by_cases e:i=id
  ·subst e;rw[ay,obs];exact hre.symm
  ·rw[aM _ _ e,obe i e];exact h.hr.dom i
 ·intro i hi;simp only[avL]at hi;cases hb:Nat.beq i id with
  |true=>rw[hb]at hi;simp at hi
  | false=>
    rw[hb]at hi;have e:i≠id:=fun e=>by subst e;simp at hb
    rw[obe i e];exact h.hr.free i (by simpa using hi)
 ·intro i o' b N h1 h2;by_cases e:i=id
  ·subst e;rw[obs]at h1;rw[ay]at h2;cases h1;cases h2;exact ho _ _ _ hR hm ha (heap_alloc_new w _)
  ·rw[obe i e]at h1;rw[aM _ _ e]at h2;exact(h.hr.obj i o' b N h1 h2).mono hR hm ha (Below.heap_alloc w _ b (h.hr.own i b N h2).1)
 ·intro i j b N N' h1 h2;by_cases e1:i=id<;>by_cases e2:j=id
  ·rw[e1,e2]
  ·subst e1;rw[ay]at h1;rw[aM _ _ e2]at h2;cases h1;have:=(h.hr.own j _ _ h2).1;omega
  ·subst e2;rw[ay]at h2;rw[aM _ _ e1]at h1;cases h2;have:=(h.hr.own i _ _ h1).1;omega
  ·rw[aM _ _ e1]at h1;rw[aM _ _ e2]at h2;exact h.hr.inj i j b N N' h1 h2
 ·intro i b N h1;by_cases e:i=id
  ·subst e;rw[ay]at h1;cases h1;exact⟨Ts,fun hb=>by have:=h.hr.rsz _ hb;omega,.inr h.hr.frame.size⟩
  ·rw[aM _ _ e]at h1;obtain⟨h2,h3,h4⟩:=h.hr.own i b N h1;exact⟨Ts,h3,h4⟩
 ·intro b hb;have:=h.hr.rsz b hb;omega
 ·exact h.hr.rfr
 ·exact h.hr.r0
 ·refine⟨h.hr.frame.os,h.hr.frame.tape,h.hr.frame.output,?_,?_⟩
  ·have:=h.hr.frame.size;omega
  ·intro k hk hF;rw[Below.heap_alloc w _ k (by have:=h.hr.frame.size;omega)];exact h.hr.frame.block k hk hF
 ·intro i x hi e;have hne':i≠id:=fun e'=>by subst e';rw[h.hr.res i hi]at hid;cases hid
  rw[aM _ _ hne']at e;exact h.hr.keep i x hi e
 ·intro i hi;exact ha i (h.hr.res i hi)
theorem SW.store(h:SW C n σ a w m R){id b N:Nat}(hm0:m id=some (b,N))(arr arr':Array Value)(ty:TypeId)(hb:w.heap[b]? =some (.cells arr ty (0,0)))(hsz:arr'.size=N)(o:Ob)
  (ho:∀(w':World),(∀b,R b->R b/\w'.heap[b]? =w.heap[b]?)->w'.heap[b]? =some (.cells arr' ty (0,0))->kE w' m σ.av R b N o) (hre:o.real=true:=by rfl):
  SW C n ⟨σ.sl,obL [(id,some o)] σ.ob,avL [] σ.av⟩ a (w.setRow b arr') m R:=by
 have own:=h.hr.own id b N hm0;have hheap:=setRow_heap w b arr arr' ty (0,0) hb;have hoth:∀k,k≠b->(w.setRow b arr').heap[k]? =w.heap[k]? :=fun k hk=>setRow_other w b k arr' hk
 have hR:∀k,R k->R k/\(w.setRow b arr').heap[k]? =w.heap[k]? :=fun k hk=>⟨hk,hoth k (fun e=>own.2.1 (e▸hk))⟩
 have hs:(w.setRow b arr').heap.size=w.heap.size:=Tw;have obe:∀i,i≠id->obL [(id,some o)] σ.ob i=σ.ob i:=fun i hi=>by
  have:Nat.beq i id=false:=by cases hb:Nat.beq i id;rfl;exact absurd (aI hb) hi
  simp[obL,this]
 have obs:obL [(id,some o)] σ.ob id=some o:=by simp[obL]
 have hm:∀i x,σ.av i=false->m i=some x->m i=some x:=fun _ _ _ e=>e
 have ha:∀i,σ.av i=false->avL [] σ.av i=false:=fun _ hi=>hi
 refine h.world ⟨?_,?_,?_,?_,?_,?_,?_,?_,?_,?_,?_⟩ hR hm ha
 ·intro i;by_cases e:i=id
  ·subst e;rw[hm0,obs];exact hre.symm
  ·rw[obe i e];exact h.hr.dom i
 ·intro i hi;have e:i≠id:=fun e=>by
   subst e;have:=h.hr.dom i;rw[h.hr.free i hi,hm0]at this;cases this
  rw[obe i e];exact h.hr.free i hi
 ·intro i o' b' N' h1 h2;by_cases e:i=id
  ·subst e;rw[obs]at h1;rw[hm0]at h2;cases h1;cases h2;exact ho _ hR hheap
  ·rw[obe i e]at h1;exact(h.hr.obj i o' b' N' h1 h2).mono hR hm ha (hoth b' (fun e'=>e (h.hr.inj i id b N' N (e'▸h2) hm0)))
 ·exact h.hr.inj
 ·intro i b' N' h1;obtain⟨h2,h3,h4⟩:=h.hr.own i b' N' h1;exact⟨Ts,h3,h4⟩
 ·intro b' hb';have:=h.hr.rsz b' hb';omega
 ·exact h.hr.rfr
 ·exact h.hr.r0
 ·refine⟨h.hr.frame.os,h.hr.frame.tape,h.hr.frame.output,?_,?_⟩
  ·have:=h.hr.frame.size;omega
  ·intro k hk hF;rw[hoth k (fun e=>by subst e;rcases own.2.2 with h'|h';exact hF h';omega)];exact h.hr.frame.block k hk hF
 ·exact h.hr.keep
 ·exact h.hr.res
end
def bQ(P:Program)(t:TypeId)(k:Nat):Prop:=(P.info? t).map (·.size)=some k
def isRow(P:Program)(t:TypeId):Prop:=∃d,P.underlying t=some d/\d.isRow=true
def fl(P:Program)(t:TypeId):Prop:=∃d,P.underlying t=some d/\d.isRow=false
theorem fl.run{P:Program}{t:TypeId}(h:fl P t)(w:World):(isAgg t).run P w= .ok false w:=by
 obtain⟨d,hu,hd⟩:=h;unfold isAgg;rw[Sem.run_bind,run_underlying hu w];cases d<;>simp_all
theorem bQ.run{P:Program}{t:TypeId}{k:Nat}(h:bQ P t k)(w:World):(sizeOf t).run P w= .ok k w:=by
 unfold bQ at h;cases hq:P.info? t with
 |none=>simp[hq]at h
 |some i=>simp[hq]at h;simp[sizeOf,typeInfo,hq,h]
section
variable {C:Ctx}{n:Nat}{σ:St}{dst:Option Tmp}{ty t t':TypeId}{pos:String}{after:Array Edge}{gd:Option (Nat×Bool)}{x y:Operand}
theorem O1(σ:St)(d:Option Tmp)(v:V)(wr:List (Nat×Option Ob))(nw:List Nat):σ.app d ⟨v,wr,nw⟩=St.put ⟨σ.sl,obL wr σ.ob,avL nw σ.av⟩ d v:=by
 cases d<;>rfl
theorem ou(id:Nat){T:TypeId}(hid:σ.av id=true){v:V}(hv:σ.ev n x=v)(hl:v.cells.all V.leaf=true)(hlive:∀i o,v= .ptr i o->bE (σ.ob i)=true)(hlive2:∀i s k,v= .osl i s k->bE (σ.ob i)=true)(hlive3:∀i,v= .map i->bE (σ.ob i)=true):
  XJ C n ⟨dst,.box T x,ty,pos,after,gd⟩ σ ⟨.ptr id 0,[(id,some (.mix T v.cells))],[id]⟩:=by
 rintro a w Q ⟨m,R,hw⟩;have hrel:=hw.ev x;rw[hv]at hrel;have hc:=hrel.cells (by simpa using hl) (fun i o e=>by rw[hw.hr.dom];exact hlive i o e) (fun i s k e=>by rw[hw.hr.dom];exact hlive2 i s k e) (fun i e=>by rw[hw.hr.dom];exact hlive3 i e);unfold Oper.wp;have hrun:(execOp a.eval ⟨dst,.box T x,ty,pos,after,gd⟩).run C.P w= .ok (.value (.pointer (some ⟨w.heap.size,0,none⟩))) (w.alloc (.cells (a.eval x).cells T)):=by
  simp[execOp,Instr.box,newVar,newRow]
 rw[hrun];refine⟨_,O,upd m id (some (w.heap.size,(a.eval x).cells.size)),R,?_⟩;rw[O1];refine SW.put (hw.alloc hid (a.eval x).cells T (.mix T v.cells) ?_) dst ?_
 ·intro w' m' av' hR hm ha hb;refine⟨_,hb,O,?_,?_⟩
  ·rw[<-hc.length];simp
  ·have:(a.eval x).cells.toList.take v.cells.length=(a.eval x).cells.toList:=aX (by rw[<-hc.length];exact BY _);rw[this];exact hc.mono hR hm ha
 ·simp only[Rel];refine⟨by simp[avL],fun b N e=>?_⟩;rw[ay]at e;cases e;rfl
theorem GW(id:Nat){T:TypeId}{z:Value}{cs:List PV}(hz:(C.P.info? T).map (·.zero)=some (some z))(hcs:z.cells.toList.map fb=cs)(hid:σ.av id=true):
  XJ C n ⟨dst,.alloc T,ty,pos,after,gd⟩ σ ⟨.ptr id 0,[(id,some (.mix T (cs.map .pv)))],[id]⟩:=by
 rintro a w Q ⟨m,R,hw⟩;unfold Oper.wp;have hrun:(execOp a.eval ⟨dst,.alloc T,ty,pos,after,gd⟩).run C.P w= .ok (.value (.pointer (some ⟨w.heap.size,0,none⟩))) (w.alloc (.cells z.cells T)):=by
  cases hq:C.P.info? T with
  |none=>simp[hq]at hz
  | some i=>
    simp[hq]at hz;simp[execOp,Instr.alloc,zeroValue,typeInfo,hq,hz,newVar,newRow]
 rw[hrun];refine⟨_,O,upd m id (some (w.heap.size,z.cells.size)),R,?_⟩;rw[O1];refine SW.put (hw.alloc hid z.cells T (.mix T (cs.map .pv)) ?_) dst ?_
 ·intro w' m' av' hR hm ha hb;have hlen:cs.length=z.cells.size:=by rw[<-hcs];simp
  refine⟨_,hb,O,by simp[hlen],?_⟩;have:z.cells.toList.take (cs.map V.pv).length=z.cells.toList:=aX (by simp[hlen]);rw[this];refine RelL.ofP ?_;rw[<-hcs];generalize z.cells.toList=l;induction l with
  |nil=>simpa using RelPL.nil
  |cons x l ih=>simpa using RelPL.cons (eR w' R x) ih
 ·simp only[Rel];refine⟨by simp[avL],fun b N e=>?_⟩;rw[ay]at e;cases e;rfl
theorem kg{w:World}{b:Nat}{arr:Array Value}{T:TypeId}{us:List Value}(hb:w.heap[b]? =some (.cells arr T (0,0))){k:Nat}(hus:arr.toList.take k=us){j:Nat}(hj:j<k):
  w.cell? ⟨b,j,none⟩=us[j]? :=by
 rw[cell_of_row w b j arr T (0,0) hb,<-hus,Pw,AT hj];simp
theorem mg{T:TypeId}{id off:Nat}{T':TypeId}{cs:List V}{v:V}(hT:fl C.P T)(hx:σ.ev n x= .ptr id off)(ho:σ.ob id=some (.mix T' cs))(hv:cs[off]? =some v):
  XJ C n ⟨dst,.load T x,ty,pos,after,gd⟩ σ ⟨v,[],[]⟩:=
 .val fun a w m R hw=>by
  obtain⟨b,N,he,hm,arr,hb,hN,hle,hr⟩:=hw.ptr hx ho;obtain⟨u,hu,hrel⟩:=hr.get hv;have hoff:off<cs.length:=(Pf.1 hv).1;have hc:w.cell? ⟨b,off,none⟩=some u:=by rw[kg hb O hoff];exact hu
  exact⟨u,by simp[execOp,he,Instr.loadAt,Instr.sureAddr,loadVar,hT.run,load,Sem.run,hc],hrel⟩
theorem b8{T:TypeId}{id off:Nat}{T':TypeId}{cs:List PV}{v:PV}(hT:fl C.P T)(hx:σ.ev n x= .ptr id off)(ho:σ.ob id=some (.cells T' cs))(hv:cs[off]? =some v):
  XJ C n ⟨dst,.load T x,ty,pos,after,gd⟩ σ ⟨.pv v,[],[]⟩:=
 .val fun a w m R hw=>by
  obtain⟨b,N,he,hm,arr,hb,hN,hle,hr⟩:=hw.ptr hx ho;obtain⟨u,hu,hrel⟩:=hr.get hv;have hoff:off<cs.length:=(Pf.1 hv).1;have hc:w.cell? ⟨b,off,none⟩=some u:=by rw[kg hb O hoff];exact hu
  exact⟨u,by simp[execOp,he,Instr.loadAt,Instr.sureAddr,loadVar,hT.run,load,Sem.run,hc],by simpa only[Rel]using hrel⟩
theorem au{T:TypeId}{off:Nat}{cs:List PV}{v:PV}(hT:fl C.P T)(hx:σ.ev n x= .pv (.rp cs off))(hv:cs[off]? =some v):
  XJ C n ⟨dst,.load T x,ty,pos,after,gd⟩ σ ⟨.pv v,[],[]⟩:=
 .val fun a w m R hw=>by
  have:=hw.pv hx;simp only[RelP]at this;obtain⟨b,o,us,he,hr,hs⟩:=this;obtain⟨u,hu,hrel⟩:=hr.get hv;have hoff:off<us.length:=(Pf.1 hu).1;have hc:w.cell? ⟨b,o+off,none⟩=some u:=by rw[hs.2 off hoff];exact hu
  exact⟨u,by simp[execOp,he,Instr.loadAt,Instr.sureAddr,loadVar,hT.run,load,Sem.run,hc],by simpa only[Rel]using hrel⟩
theorem GN{T:TypeId}{id off k:Nat}{T':TypeId}{cs vs:List V}(hT:isRow C.P T)(hk:bQ C.P T k)(hx:σ.ev n x= .ptr id off)(ho:σ.ob id=some (.mix T' cs))(hv:(cs.drop off).take k=vs)(hle:vs.length=k):
  XJ C n ⟨dst,.load T x,ty,pos,after,gd⟩ σ ⟨.agg vs,[],[]⟩:=
 .val fun a w m R hw=>by
  obtain⟨b,N,he,hm,arr,hb,hN,hle',hr⟩:=hw.ptr hx ho;have hl:off+k<=cs.length\/k=0:=by
   have:=ag List.length hv;simp at this;omega
  have hr2:=(hr.drop off).take k;rw[hv]at hr2;have hlen:=hr2.length;obtain⟨d,hu,hd⟩:=hT;have:=run_loadAt_mid (P:=C.P) w b off T (((arr.toList.take cs.length).drop off).take k) d (fun j u hu=>by
   rw[Pw]at hu;split at hu
   ·rename_i hj;rw[Qf]at hu;have hlt:=(Pf.1 hu).1;rw[kg hb (k:=cs.length) O (by simp at hlt;omega)];exact hu
   ·cases hu) hu hd (by unfold bQ at hk;rw[hk,hlen,hle])
  refine⟨_,by simp only[execOp,he,Sem.run_bind,this,Result.andThen_ok];rfl,?_⟩;simp only[Rel];exact⟨_,O,hr2⟩
theorem sF{T:TypeId}{id off k:Nat}{T':TypeId}{cs vs:List PV}(hT:isRow C.P T)(hk:bQ C.P T k)(hx:σ.ev n x= .ptr id off)(ho:σ.ob id=some (.cells T' cs))(hv:(cs.drop off).take k=vs)(hle:vs.length=k):
  XJ C n ⟨dst,.load T x,ty,pos,after,gd⟩ σ ⟨.pv (.agg vs),[],[]⟩:=
 .val fun a w m R hw=>by
  obtain⟨b,N,he,hm,arr,hb,hN,hle',hr⟩:=hw.ptr hx ho;have hr2:=(hr.drop off).take k;rw[hv]at hr2;have hlen:=hr2.length;obtain⟨d,hu,hd⟩:=hT;have:=run_loadAt_mid (P:=C.P) w b off T (((arr.toList.take cs.length).drop off).take k) d (fun j u hu=>by
   rw[Pw]at hu;split at hu
   ·rename_i hj;rw[Qf]at hu;have hlt:=(Pf.1 hu).1;rw[kg hb (k:=cs.length) O (by simp at hlt;omega)];exact hu
   ·cases hu) hu hd (by unfold bQ at hk;rw[hk,hlen,hle])
  refine⟨_,by simp only[execOp,he,Sem.run_bind,this,Result.andThen_ok];rfl,?_⟩;simp only[Rel,RelP];exact⟨_,O,hr2⟩
theorem aR{T:TypeId}{off k:Nat}{cs vs:List PV}(hT:isRow C.P T)(hk:bQ C.P T k)(hx:σ.ev n x= .pv (.rp cs off))(hv:(cs.drop off).take k=vs)(hle:vs.length=k):
  XJ C n ⟨dst,.load T x,ty,pos,after,gd⟩ σ ⟨.pv (.agg vs),[],[]⟩:=
 .val fun a w m R hw=>by
  have:=hw.pv hx;simp only[RelP]at this;obtain⟨b,o,us,he,hr,hs⟩:=this;have hr2:=(hr.drop off).take k;rw[hv]at hr2;have hlen:=hr2.length;obtain⟨d,hu,hd⟩:=hT;have:=run_loadAt_mid (P:=C.P) w b (o+off) T ((us.drop off).take k) d (fun j u hu=>by
   rw[Pw]at hu;split at hu
   ·rw[Qf]at hu;have hlt:=(Pf.1 hu).1;rw[Nat.add_assoc,hs.2 (off+j) hlt];exact hu
   ·cases hu) hu hd (by unfold bQ at hk;rw[hk,hlen,hle])
  refine⟨_,by simp only[execOp,he,Sem.run_bind,this,Result.andThen_ok];rfl,?_⟩;simp only[Rel,RelP];exact⟨_,O,hr2⟩
end
end
section
theorem jC{α:Type}(l vs:List α)(off n:Nat)(h:off+vs.length<=n)(hn:n<=l.length):
  (l.take off++vs++l.drop (off+vs.length)).take n=(l.take n).take off++vs++(l.take n).drop (off+vs.length):=by
 apply SF;intro i;have e1:min off l.length=off:=Ts;have e2:min off (min n l.length)=off:=Ts;simp only[Pw,List.getElem?_append,Ph,Pj,Qf,e1,e2];by_cases hi:i<n
 ·rw[AT hi];by_cases b:i<off+vs.length
  ·rw[AT b,AT b];by_cases a:i<off
   ·simp[a,hi]
   ·simp[a]
  ·rw[dw b,dw b,AT Ts]
 ·rw[dw hi,dw Ts,dw Ts]
def fy{α:Type}(l:List α)(off:Nat)(vs:List α):List α:=l.take off++vs++l.drop (off+vs.length)
theorem RelL.fy{w:World}{m:Gm}{av:Av}{R:Nat->Prop}{cs vs:List V}{us xs:List Value}(off:Nat)(h:RelL w m av R cs us)(hv:RelL w m av R vs xs):RelL w m av R (fy cs off vs) (fy us off xs):=by
 unfold Proofs.YtoplpepiabedhaaGreatDoor.fy;rw[hv.length];exact(((h.take off).append hv).append (h.drop _))
theorem RelPL.fy{w:World}{R:Nat->Prop}{cs vs:List PV}{us xs:List Value}(off:Nat)(h:RelPL w R cs us)(hv:RelPL w R vs xs):RelPL w R (fy cs off vs) (fy us off xs):=by
 unfold Proofs.YtoplpepiabedhaaGreatDoor.fy;rw[hv.length];exact(((h.take off).append hv).append (h.drop _))
theorem bB{α:Type}(l:List α)(off:Nat)(vs:List α)(h:off+vs.length<=l.length):(fy l off vs).length=l.length:=by
 unfold fy;simp only[Ph,Pj,Qw];omega
section
variable {C:Ctx}{n:Nat}{σ:St}{dst:Option Tmp}{ty t t':TypeId}{pos:String}{after:Array Edge}{gd:Option (Nat×Bool)}{x y:Operand}
theorem jF{P:Program}{w:World}{b off:Nat}{arr:Array Value}{T T':TypeId}{u:Value}(hb:w.heap[b]? =some (.cells arr T' (0,0)))(hk:bQ P T u.cells.size)(hle:off+u.cells.size<=arr.size)(h1:∀c∈u.cells.toList,c.oneCell'=true):
  (Instr.storeAt T (.pointer (some ⟨b,off,none⟩)) u).run P w= .ok () (w.setRow b (fy arr.toList off u.cells.toList).toArray):=by
 have:=run_storeCells_at (P:=P) b off T' u.cells.toList 0 arr w hb (by simpa using hle) h1;simp only[SC]at this;simp[Instr.storeAt,Instr.sureAddr,storeVar,hk.run,this,fy]
theorem lu{w:World}{m:Gm}{av:Av}{R:Nat->Prop}:∀{vs:List V}{us:List Value},RelL w m av R vs us->(∀c∈vs,c.leaf=true)->(∀c∈vs,∀id o,c= .ptr id o->(m id).isSome)->(∀c∈vs,∀id s k,c= .osl id s k->(m id).isSome)->(∀c∈vs,∀id,c= .map id->(m id).isSome)->∀u∈us,u.oneCell'=true
 |[],_,h,_,_,_,_=>by simp only[RelL]at h;subst h;simp
 | c::cs,_,h,hl,h1,h2,h3=>by
   simp only[RelL]at h;obtain⟨u,us,rfl,hc,hr⟩:=h;intro v hv;rcases AS.1 hv with rfl|hv
   ·have hlc:=hl c Tw;cases c with
    |pv p=>simp only[Rel]at hc;exact hc.leaf hlc
    | ptr id o=>
      obtain⟨⟨b,N⟩,hm⟩:=PB.1 (h1 _ Tw id o O);simp only[Rel]at hc;rw[hc.2 b N hm];rfl
    | osl id s k=>
      obtain⟨⟨b,N⟩,hm⟩:=PB.1 (h2 _ Tw id s k O);simp only[Rel]at hc;obtain⟨c,e,_⟩:=hc.2 b N hm;rw[e];rfl
    |gsl id s k=>simp only[Rel]at hc;obtain⟨_,A,c,e,_⟩:=hc;rw[e];rfl
    |tsl id s k=>simp only[Rel]at hc;obtain⟨_,A,c,e,_⟩:=hc;rw[e];rfl
    | map id=>
      obtain⟨⟨b,N⟩,hm⟩:=PB.1 (h3 _ Tw id O);simp only[Rel]at hc;rw[hc.2 b N hm];rfl
    |agg _=>simp[V.leaf]at hlc
    |tup _=>simp[V.leaf]at hlc
    |fn f a b=>simp only[Rel]at hc;obtain⟨us,vs,rfl,_⟩:=hc;rfl
   ·exact lu hr (fun c hc=>hl c (by simp[hc])) (fun c hc=>h1 c (by simp[hc])) (fun c hc=>h2 c (by simp[hc])) (fun c hc=>h3 c (by simp[hc])) v hv
def V.bX(ob:Nat->Option Ob):V->Bool
 | .ptr i _=>bE (ob i)
 | .osl i _ _=>bE (ob i)
 | .map i=>bE (ob i)
 |_=>true
theorem l9{T T':TypeId}{id off k:Nat}{cs:List V}{v:V}(hk:bQ C.P T k)(hx:σ.ev n x= .ptr id off)(ho:σ.ob id=some (.mix T' cs))(hv:σ.ev n y=v)(hlen:v.cells.length=k)(hle:off+k<=cs.length)
  (hl:v.cells.all (fun c=>c.leaf&&c.bX σ.ob)=true) (hlv:v.bX σ.ob=true):
  XJ C n ⟨none,.store T x y,ty,pos,after,gd⟩ σ ⟨.pv .any,[(id,some (.mix T' (fy cs off v.cells)))],[]⟩:=by
 rintro a w Q ⟨m,R,hw⟩;obtain⟨b,N,he,hm,arr,hb,hN,hle',hr⟩:=hw.ptr hx ho;have hrel:=hw.ev y;rw[hv]at hrel;have live:∀i,bE (σ.ob i)=true->(m i).isSome=true:=fun i hi=>by rw[hw.hr.dom];exact hi
 have hl':∀c∈v.cells,c.leaf=true/\c.bX σ.ob=true:=by simpa using hl
 have hc:=hrel.cells (fun c hc=>(hl' c hc).1) (fun i o e=>live _ (by rw[e]at hlv;exact hlv)) (fun i s k e=>live _ (by rw[e]at hlv;exact hlv)) (fun i e=>live _ (by rw[e]at hlv;exact hlv));have h1:=lu hc (fun c hc=>(hl' c hc).1) (fun c hc i o e=>live _ (by have:=(hl' c hc).2;rw[e]at this;exact this)) (fun c hc i s k e=>live _ (by have:=(hl' c hc).2;rw[e]at this;exact this)) (fun c hc i e=>live _ (by have:=(hl' c hc).2;rw[e]at this;exact this));have hcl:(a.eval y).cells.size=k:=by have:=hc.length;simp at this;omega
 have hrun:=jF (P:=C.P) (T:=T) (u:=a.eval y) (off:=off) hb (by rw[hcl];exact hk) Ts h1;unfold Oper.wp;have hrun':(execOp a.eval ⟨none,.store T x y,ty,pos,after,gd⟩).run C.P w= .ok .skip (w.setRow b (fy arr.toList off (a.eval y).cells.toList).toArray):=by
  simp only[execOp,he,Sem.run_bind,hrun,Result.andThen_ok,Sem.run_pure]
 rw[hrun'];refine⟨_,O,m,R,?_⟩;refine hw.store hm arr _ T' hb (by simp only[Pv];rw[bB _ _ _ Tx];simpa using hN) _ ?_;intro w' hR hb';refine⟨_,hb',by simp only[Pv];rw[bB _ _ _ Tx];simpa using hN,by rw[bB _ _ _ Ts];exact hle',?_⟩;rw[bB cs off v.cells Ts];have e:(fy arr.toList off (a.eval y).cells.toList).toArray.toList.take cs.length=fy (arr.toList.take cs.length) off (a.eval y).cells.toList:=by
  simp only[fy];exact jC _ _ _ _ Tx Tx
 rw[e];exact(hr.fy off hc).mono hR (fun _ _ _ e=>e) (fun _ e=>e)
theorem bK{T T':TypeId}{id off:Nat}{cs:List PV}{v:PV}(hk:bQ C.P T 1)(hx:σ.ev n x= .ptr id off)(ho:σ.ob id=some (.cells T' cs))(hv:σ.ev n y= .pv v)(hlf:v.leaf=true)(hle:off<cs.length):
  XJ C n ⟨none,.store T x y,ty,pos,after,gd⟩ σ ⟨.pv .any,[(id,some (.cells T' (cs.set off v)))],[]⟩:=by
 rintro a w Q ⟨m,R,hw⟩;obtain⟨b,N,he,hm,arr,hb,hN,hle',hr⟩:=hw.ptr hx ho;have hrel:=hw.pv hv;have h1:=hrel.leaf hlf;have hcl:(a.eval y).cells= #[a.eval y]:=by
  generalize a.eval y=u at h1;cases u<;>simp[Value.oneCell']at h1<;>rfl
 have hrun:=jF (P:=C.P) (T:=T) (u:=a.eval y) (off:=off) hb (by rw[hcl];exact hk) (by rw[hcl];simp;omega) (by rw[hcl];simpa using h1);unfold Oper.wp;have hrun':(execOp a.eval ⟨none,.store T x y,ty,pos,after,gd⟩).run C.P w= .ok .skip (w.setRow b (fy arr.toList off [a.eval y]).toArray):=by
  simp only[execOp,he,Sem.run_bind,hrun,Result.andThen_ok,Sem.run_pure,hcl]
 rw[hrun'];have setE:∀{α:Type}(l:List α)(z:α),off<l.length->fy l off [z]=l.set off z:=by
  intro α l z hl;simp only[fy,PI];rw[Se,AT hl];simp
 refine⟨_,O,m,R,?_⟩;refine hw.store hm arr _ T' hb (by simp only[Pv];rw[bB _ _ _ Tx];simpa using hN) _ ?_;intro w' hR hb';refine⟨_,hb',by simp only[Pv];rw[bB _ _ _ Tx];simpa using hN,by simpa using hle',?_⟩;have e:(fy arr.toList off [a.eval y]).toArray.toList.take (cs.set off v).length=(arr.toList.take cs.length).set off (a.eval y):=by
  have h3:=jC arr.toList [a.eval y] off cs.length Tx Tx;have h4:=setE (arr.toList.take cs.length) (a.eval y) Tx;simp only[fy]at h4 ⊢;simp only[PO];rw[h3,h4]
 rw[e];exact(hr.set off hrel).mono hR
def fj(P:Program)(s:TypeId)(i:Nat):Option Nat:=
 match P.underlying s with
 | some (.struct fs)=>
   match fs[i]? with
   | some f=>match P.info? f.type with
     |some inf=>bif Nat.beq inf.size 0 then none else some f.offset
     |none=>none
   |none=>none
 |_=>none
theorem oE{P:Program}{s:TypeId}{i o:Nat}(h:fj P s i=some o)(w:World)(b off:Nat):(Instr.fieldAt s (.pointer (some ⟨b,off,none⟩)) i).run P w= .ok (.pointer (some ⟨b,off+o,none⟩)) w:=by
 unfold fj at h;split at h
 ·rename_i fs hu;split at h
  ·rename_i f hf;split at h
   ·rename_i inf hi;have hne:inf.size≠0:=by
     intro e;rw[e]at h;simp at h
    have hb:Nat.beq inf.size 0=false:=by cases hb:Nat.beq inf.size 0;rfl;exact absurd (aI hb) hne
    rw[hb]at h;simp at h;subst h;simp[Instr.fieldAt,run_underlying hu,hf,Instr.sureAddr,fieldPlace,sizeOf,typeInfo,hi,hne,Addr.add_lit]
   ·cases h
  ·cases h
 ·cases h
theorem uH{s:TypeId}{i o id off:Nat}{ob:Ob}(hf:fj C.P s i=some o)(hx:σ.ev n x= .ptr id off)(ho:σ.ob id=some ob)(hre:ob.real=true:=by rfl):
  XJ C n ⟨dst,.fieldAddr s x i,ty,pos,after,gd⟩ σ ⟨.ptr id (off+o),[],[]⟩:=
 .val fun a w m R hw=>by
  obtain⟨b,N,he,hm,_⟩:=hw.ptr hx ho hre;have hx':=hw.ev x;rw[hx]at hx';simp only[Rel]at hx';refine⟨_,by simp only[execOp,he,Sem.run_bind,oE hf,Result.andThen_ok];rfl,?_⟩;simp only[Rel];exact⟨hx'.1,fun b' N' e=>by rw[hm]at e;cases e;rfl⟩
theorem si{s:TypeId}{i o off:Nat}{cs:List PV}(hf:fj C.P s i=some o)(hx:σ.ev n x= .pv (.rp cs off)):
  XJ C n ⟨dst,.fieldAddr s x i,ty,pos,after,gd⟩ σ ⟨.pv (.rp cs (off+o)),[],[]⟩:=
 .val fun a w m R hw=>by
  have:=hw.pv hx;simp only[RelP]at this;obtain⟨b,o',us,he,hr,hs⟩:=this;refine⟨_,by simp only[execOp,he,Sem.run_bind,oE hf,Result.andThen_ok];rfl,?_⟩;simp only[Rel,RelP];exact⟨b,o',us,by rw[Nat.add_assoc],hr,hs⟩
theorem mM{P:Program}{T e:TypeId}{s j k c:Nat}{kk:IntKind}{i:Int}(hT:P.underlying T=some (.slice e))(hs:bQ P e s)(hi:i=(j:Int))(hj:j<k)(w:World)(b off:Nat):
  (Instr.indexAt T (.slice (some ⟨b,off,none⟩) k c) (.int kk i)).run P w= .ok (.pointer (some ⟨b,off+j*s,none⟩)) w:=by
 subst hi;have h2:((j:Int))<(k:Int):=Ts;simp[Instr.indexAt,asIntOf,run_underlying hT,hs.run,hj,Addr.add_lit]
theorem ae{T e:TypeId}{s k:Nat}{kk:IntKind}{i:Int}{bn:Option Bool}{cs:List PV}(j:Nat)(hT:C.P.underlying T=some (.slice e))(hs:bQ C.P e s)(hx:σ.ev n x= .pv (.sl bn k cs))(hy:σ.ev n y= .pv (.int kk i))(hi:i=(j:Int))(hj:j<k)(hne:cs≠[]):
  XJ C n ⟨dst,.indexAddr T x y,ty,pos,after,gd⟩ σ ⟨.pv (.rp cs (j*s)),[],[]⟩:=
 .val fun a w m R hw=>by
  have:=hw.pv hx;simp only[RelP]at this;obtain⟨A,c,he,_,_,_,_,h5⟩:=this;obtain⟨b,off,us,rfl,hr,hsh⟩:=h5 hne;refine⟨_,by simp only[execOp,he,hw.int hy,Sem.run_bind,mM hT hs hi hj,Result.andThen_ok];rfl,?_⟩;simp only[Rel,RelP];exact⟨b,off,us,O,hr,hsh⟩
theorem aq{T e:TypeId}{s k id sz:Nat}{kk:IntKind}{i:Int}{o:Ob}(j:Nat)(hT:C.P.underlying T=some (.slice e))(hs:bQ C.P e s)(hx:σ.ev n x= .osl id sz k)(ho:σ.ob id=some o)(hy:σ.ev n y= .pv (.int kk i))(hi:i=(j:Int))(hj:j<k)(hre:o.real=true:=by rfl):
  XJ C n ⟨dst,.indexAddr T x y,ty,pos,after,gd⟩ σ ⟨.ptr id (j*s),[],[]⟩:=
 .val fun a w m R hw=>by
  obtain⟨b,N,c,he,_,_,_,hm,_⟩:=hw.osl hx ho hre;have hx':=hw.ev x;rw[hx]at hx';simp only[Rel]at hx';refine⟨_,by simp only[execOp,he,hw.int hy,Sem.run_bind,mM hT hs hi hj,Result.andThen_ok];rfl,?_⟩;simp only[Rel];exact⟨hx'.1,fun b' N' e=>by rw[hm]at e;cases e;simp⟩
theorem EP{s:TypeId}{i o:Nat}{ps:List PV}{p:PV}{f:Field}{fs:Array Field}(hu:C.P.underlying s=some (.struct fs))(hf:fs[i]? =some f)(ho:f.offset=o)(hT:fl C.P f.type)(hx:σ.ev n x= .pv (.agg ps))(hp:ps[o]? =some p):
  XJ C n ⟨dst,.field s x i,ty,pos,after,gd⟩ σ ⟨.pv p,[],[]⟩:=
 .val fun a w m R hw=>by
  have:=hw.pv hx;simp only[RelP]at this;obtain⟨us,he,hr⟩:=this;obtain⟨u,hu',hrel⟩:=hr.get hp;refine⟨u,?_,by simpa only[Rel]using hrel⟩;simp[execOp,he,Instr.field,run_underlying hu,hf,asAgg,part,hT.run,ho,hu']
theorem yI{T e:TypeId}{s k:Nat}{kl kh:IntKind}{il ih:Int}{bn:Option Bool}{cs:List PV}(lo hi:Option Operand)(l h:Nat)(hT:C.P.underlying T=some (.slice e))(hs:bQ C.P e s)(hx:σ.ev n x= .pv (.sl bn k cs))
  (hlo:∀y,lo=some y->σ.ev n y= .pv (.int kl il)/\il=(l:Int)) (hlo0:lo=none->l=0) (hhi:∀y,hi=some y->σ.ev n y= .pv (.int kh ih)/\ih=(h:Int)) (hhi0:hi=none->h=k) (h1:l<=h) (h2:h<=k) (hcs:cs.length=k*s):
  XJ C n ⟨dst,.slice T x lo hi none,ty,pos,after,gd⟩ σ ⟨.pv (.sl bn (h-l) ((cs.drop (l*s)).take ((h-l)*s))),[],[]⟩:=
 .val fun a w m R hw=>by
  have:=hw.pv hx;simp only[RelP]at this;obtain⟨A,c,he,hkc,hcm,hbn,hb0,h5⟩:=this;have e1:∀y,lo=some y->a.eval y= .int kl l:=fun y hy=>by rw[hw.int (hlo y hy).1,(hlo y hy).2]
  have e2:∀y,hi=some y->a.eval y= .int kh h:=fun y hy=>by rw[hw.int (hhi y hy).1,(hhi y hy).2]
  refine⟨.slice (if c=l then A else A.map (·.add (l*s))) (h-l) (c-l),?_,?_⟩
  ·have hlc:h<=c:=Ts;cases lo with
   | none=>
     have l0:=hlo0 O;subst l0;cases hi with
     | none=>
       have hh0:=hhi0 O;subst hh0;simp[execOp,he,Instr.sliceAt,Instr.slice,Instr.sliceBounds,run_underlying hT,hs.run]
     | some y2=>
       simp[execOp,he,e2 y2 O,Instr.sliceAt,Instr.slice,Instr.sliceBounds,Instr.sliceBound,asIntOf,run_underlying hT,hs.run,hlc]
   | some y1=>
     cases hi with
     | none=>
       have hh0:=hhi0 O;subst hh0;simp[execOp,he,e1 y1 O,Instr.sliceAt,Instr.slice,Instr.sliceBounds,Instr.sliceBound,asIntOf,run_underlying hT,hs.run,h1]
     | some y2=>
       simp[execOp,he,e1 y1 O,e2 y2 O,Instr.sliceAt,Instr.slice,Instr.sliceBounds,Instr.sliceBound,asIntOf,run_underlying hT,hs.run,h1,hlc]
  ·simp only[Rel,RelP];refine⟨_,_,O,Ts,Ts,?_,fun e=>by have:=hb0 e;omega,?_⟩
   ·intro q hq;rw[hbn q hq];split<;>simp
   ·intro hne;have hcs2:cs≠[]:=by rintro rfl;simp at hne
    obtain⟨b,off,us,rfl,hr,hsh⟩:=h5 hcs2;have hpos:c≠l:=by
     rintro rfl;have:h-c=0:=Ts;rw[this]at hne;simp at hne
    rw[dw hpos];refine⟨b,off+l*s,(us.drop (l*s)).take ((h-l)*s),by simp[Addr.add_lit],(hr.drop _).take _,hsh.1,?_⟩;intro j hj;simp only[Pj,Qw]at hj;rw[Pw,AT Ts,Qf,Nat.add_assoc];exact hsh.2 _ Ts
theorem nD{T:TypeId}{kl kh:IntKind}{il ih:Int}{z:ByteArray}(lo hi:Option Operand)(l h:Nat)(hT:C.P.underlying T=some .string)(hx:σ.ev n x= .pv (.str z))
  (hlo:∀y,lo=some y->σ.ev n y= .pv (.int kl il)/\il=(l:Int)) (hlo0:lo=none->l=0) (hhi:∀y,hi=some y->σ.ev n y= .pv (.int kh ih)/\ih=(h:Int)) (hhi0:hi=none->h=z.size) (h1:l<=h) (h2:h<=z.size):
  XJ C n ⟨dst,.slice T x lo hi none,ty,pos,after,gd⟩ σ ⟨.pv (.str (z.extract l h)),[],[]⟩:=
 .lit O fun a w m R hw=>by
  have he:=hw.str hx;have e1:∀y,lo=some y->a.eval y= .int kl l:=fun y hy=>by rw[hw.int (hlo y hy).1,(hlo y hy).2]
  have e2:∀y,hi=some y->a.eval y= .int kh h:=fun y hy=>by rw[hw.int (hhi y hy).1,(hhi y hy).2]
  cases lo with
  | none=>
    have l0:=hlo0 O;subst l0;cases hi with
    | none=>
      have hh0:=hhi0 O;subst hh0;simp[execOp,he,Instr.sliceAt,Instr.slice,Instr.sliceBounds,run_underlying hT,uZ]
    | some y2=>
      simp[execOp,he,e2 y2 O,Instr.sliceAt,Instr.slice,Instr.sliceBounds,Instr.sliceBound,asIntOf,run_underlying hT,h2,uZ]
  | some y1=>
    cases hi with
    | none=>
      have hh0:=hhi0 O;subst hh0;simp[execOp,he,e1 y1 O,Instr.sliceAt,Instr.slice,Instr.sliceBounds,Instr.sliceBound,asIntOf,run_underlying hT,h1,uZ]
    | some y2=>
      simp[execOp,he,e1 y1 O,e2 y2 O,Instr.sliceAt,Instr.slice,Instr.sliceBounds,Instr.sliceBound,asIntOf,run_underlying hT,h1,h2,uZ]
theorem dE{T:TypeId}{kk:IntKind}{i:Int}{z:ByteArray}(j:Nat)(hT:C.P.underlying T=some .string)(hx:σ.ev n x= .pv (.str z))(hy:σ.ev n y= .pv (.int kk i))(hi:i=(j:Int))(hj:j<z.size):
  XJ C n ⟨dst,.index T x y,ty,pos,after,gd⟩ σ ⟨.pv (.int .u8 (z[j]'hj).toNat),[],[]⟩:=
 .lit O fun a w m R hw=>by
  subst hi;simp[execOp,hw.str hx,hw.int hy,Instr.index,asIntOf,run_underlying hT,uZ,hj]
end
end
section
section
variable {C:Ctx}{n:Nat}{σ:St}{a:Act}{w:World}{m:Gm}{R:Nat->Prop}
theorem SW.drop(h:SW C n σ a w m R)(id:Nat):SW C n ⟨σ.sl,obL [(id,none)] σ.ob,σ.av⟩ a w (upd m id none) R:=by
 have obe:∀i,i≠id->obL [(id,none)] σ.ob i=σ.ob i:=fun i hi=>by
  have:Nat.beq i id=false:=by cases hb:Nat.beq i id;rfl;exact absurd (aI hb) hi
  simp[obL,this]
 have obs:obL [(id,none)] σ.ob id=none:=by simp[obL]
 have sub:∀i x,upd m id none i=some x->m i=some x:=fun i x e=>by
  by_cases hi:i=id
  ·subst hi;rw[ay]at e;cases e
  ·rwa [aM _ _ hi]at e
 refine h.world ⟨?_,?_,?_,?_,?_,?_,?_,?_,?_,?_,?_⟩ (fun b hb=>⟨hb,O⟩) (fun i x _ e=>sub i x e) (fun _ e=>e)
 ·intro i;by_cases e:i=id
  ·subst e;rw[ay,obs];rfl
  ·rw[aM _ _ e,obe i e];exact h.hr.dom i
 ·intro i hi;by_cases e:i=id
  ·subst e;exact obs
  ·rw[obe i e];exact h.hr.free i hi
 ·intro i o b N h1 h2;have e:i≠id:=fun e=>by subst e;rw[ay]at h2;cases h2
  rw[obe i e]at h1;exact(h.hr.obj i o b N h1 (sub _ _ h2)).mono (fun b hb=>⟨hb,O⟩) (fun i x _ e=>sub i x e) (fun _ e=>e) O
 ·intro i j b N N' h1 h2;exact h.hr.inj i j b N N' (sub _ _ h1) (sub _ _ h2)
 ·intro i b N h1;exact h.hr.own i b N (sub _ _ h1)
 ·exact h.hr.rsz
 ·exact h.hr.rfr
 ·exact h.hr.r0
 ·exact h.hr.frame
 ·exact fun i x hi e=>h.hr.keep i x hi (sub i x e)
 ·exact h.hr.res
theorem SW.fresh(h:SW C n σ a w m R){id:Nat}(hid:σ.av id=true){w':World}{g:Nat}{arr:Array Value}{ty:TypeId}(hg:w'.heap[g]? =some (.cells arr ty (0,0))){row:Option Nat}(hgr:w.grownBy w' row)(hrow:∀k,row=some k->¬R k/\(∀i b N,m i=some (b,N)->b≠k)/\(C.F k\/C.w0.heap.size<=k))
  (hgR:¬R g) (hgm:∀i b N,m i=some (b,N)->b≠g) (hgF:C.F g\/C.w0.heap.size<=g) (o:Ob)
  (ho:∀(m':Gm)(av':Av),(∀b,R b->R b/\w'.heap[b]? =w.heap[b]?)->(∀i x,σ.av i=false->m' i=some x->m i=some x)->(∀i,σ.av i=false->av' i=false)->kE w' m' av' R g arr.size o) (hre:o.real=true:=by rfl):
  SW C n ⟨σ.sl,obL [(id,some o)] σ.ob,avL [id] σ.av⟩ a w' (upd m id (some (g,arr.size))) R:=by
 have hblk:∀k,k<w.heap.size->(∀q,row=some q->k≠q)->w'.heap[k]? =w.heap[k]? :=fun k hk hne=>hgr.block k hk (fun e=>hne k e.symm O)
 have hgs:g<w'.heap.size:=(Pc.1 hg).1;have hR:∀b,R b->R b/\w'.heap[b]? =w.heap[b]? :=fun b hb=>⟨hb,hblk b (h.hr.rsz b hb) (fun q hq e=>(hrow q hq).1 (e▸hb))⟩
 have hne:∀i,σ.av i=false->i≠id:=fun i hi e=>by rw[e,hid]at hi;cases hi
 have hm:∀i x,σ.av i=false->upd m id (some (g,arr.size)) i=some x->m i=some x:=fun i x hi e=>by rwa [aM _ _ (hne i hi)]at e
 have ha:∀i,σ.av i=false->avL [id] σ.av i=false:=fun i hi=>by
  simp only[avL];cases Nat.beq i id<;>simp[hi]
 have obe:∀i,i≠id->obL [(id,some o)] σ.ob i=σ.ob i:=fun i hi=>by
  have:Nat.beq i id=false:=by cases hb:Nat.beq i id;rfl;exact absurd (aI hb) hi
  simp[obL,this]
 have obs:obL [(id,some o)] σ.ob id=some o:=by simp[obL]
 refine h.world ⟨?_,?_,?_,?_,?_,?_,?_,?_,?_,?_,?_⟩ hR hm ha
 ·intro i;by_cases e:i=id
  ·subst e;rw[ay,obs];exact hre.symm
  ·rw[aM _ _ e,obe i e];exact h.hr.dom i
 ·intro i hi;simp only[avL]at hi;cases hb:Nat.beq i id with
  |true=>rw[hb]at hi;simp at hi
  | false=>
    rw[hb]at hi;have e:i≠id:=fun e=>by subst e;simp at hb
    rw[obe i e];exact h.hr.free i (by simpa using hi)
 ·intro i o' b N h1 h2;by_cases e:i=id
  ·subst e;rw[obs]at h1;rw[ay]at h2;cases h1;cases h2;exact ho _ _ hR hm ha
  ·rw[obe i e]at h1;rw[aM _ _ e]at h2;exact(h.hr.obj i o' b N h1 h2).mono hR hm ha (hblk b (h.hr.own i b N h2).1 (fun q hq=>(hrow q hq).2.1 i b N h2))
 ·intro i j b N N' h1 h2;by_cases e1:i=id<;>by_cases e2:j=id
  ·rw[e1,e2]
  ·subst e1;rw[ay]at h1;rw[aM _ _ e2]at h2;cases h1;exact absurd O (hgm j _ _ h2)
  ·subst e2;rw[ay]at h2;rw[aM _ _ e1]at h1;cases h2;exact absurd O (hgm i _ _ h1)
  ·rw[aM _ _ e1]at h1;rw[aM _ _ e2]at h2;exact h.hr.inj i j b N N' h1 h2
 ·intro i b N h1;by_cases e:i=id
  ·subst e;rw[ay]at h1;cases h1;exact⟨hgs,hgR,hgF⟩
  ·rw[aM _ _ e]at h1;obtain⟨h2,h3,h4⟩:=h.hr.own i b N h1;exact⟨Ps h2 hgr.size,h3,h4⟩
 ·intro b hb;exact Ps (h.hr.rsz b hb) hgr.size
 ·exact h.hr.rfr
 ·exact h.hr.r0
 ·refine⟨hgr.os.trans h.hr.frame.os,hgr.tape.trans h.hr.frame.tape,hgr.output.trans h.hr.frame.output,IS h.hr.frame.size hgr.size,?_⟩;intro k hk hF;rw[hblk k (Ps hk h.hr.frame.size) (fun q hq e=>by subst e;rcases(hrow k hq).2.2 with h'|h';exact hF h';omega)];exact h.hr.frame.block k hk hF
 ·intro i x hi e;have hne':i≠id:=fun e'=>by subst e';rw[h.hr.res i hi]at hid;cases hid
  rw[aM _ _ hne']at e;exact h.hr.keep i x hi e
 ·intro i hi;exact ha i (h.hr.res i hi)
end
theorem da{w:World}{R:Nat->Prop}:∀{vs:List PV}{us:List Value},RelPL w R vs us->(∀c∈vs,c.leaf=true)->∀u∈us,u.oneCell'=true
 |[],_,h,_=>by simp only[RelPL]at h;subst h;simp
 | c::cs,_,h,hl=>by
   simp only[RelPL]at h;obtain⟨u,us,rfl,hc,hr⟩:=h;intro v hv;rcases AS.1 hv with rfl|hv
   ·exact hc.leaf (hl c Tw)
   ·exact da hr (fun c hc=>hl c (by simp[hc])) v hv
structure ElemIs(P:Program)(t e:TypeId)(z:Value)(size bytes:Nat):Prop where
 u:P.underlying t=some (.slice e)
 info:(P.info? e).map (fun i=>(i.zero,i.size,i.bytes))=some (some z,size,bytes)
 zs:z.cells.size=size
 pos:0<size
 by_:bytes<=1000
theorem DW{C:Ctx}{n:Nat}{σ:St}{a:Act}{w:World}{m:Gm}{R:Nat->Prop}(hw:SW C n σ a w m R){i j b b' N N':Nat}(h1:m i=some (b',N'))(h2:m j=some (b,N))(e:b'=b):i=j:=by
 subst e;exact hw.hr.inj i j b' N' N h1 h2
section
variable {C:Ctx}{n:Nat}{σ:St}{dst:Option Tmp}{ty t t':TypeId}{pos:String}{after:Array Edge}{gd:Option (Nat×Bool)}{x y:Operand}
def nM(n:Nat)(σ:St)(x:Operand)(k:Nat)(news:List PV):Prop:=
 (∃b,σ.ev n x= .pv (.sl b k news))\/(∃id sz T cs,σ.ev n x= .osl id sz k/\σ.ob id=some (.cells T cs)/\news=cs.take (k*sz))
theorem nM.row{a:Act}{w:World}{m:Gm}{R:Nat->Prop}(hw:SW C n σ a w m R){k:Nat}{news:List PV}(h:nM n σ x k news):
  ∃A c us,a.eval x= .slice A k c/\RelPL w R news us/\Row w Any A us:=by
 rcases h with⟨b,hx⟩|⟨id,sz,T,cs,hx,ho,rfl⟩
 ·have:=hw.pv hx;simp only[RelP]at this;obtain⟨A,c,he,_,_,_,_,h5⟩:=this;by_cases hne:news=[]
  ·subst hne;exact⟨A,c,[],he,RelPL.nil,Row.nil⟩
  ·obtain⟨b,off,us,rfl,hr,hs⟩:=h5 hne;refine⟨_,c,us,he,hr,fun hne=>⟨b,off,O,TB,hw.hr.rsz b hs.1,fun j hj=>hs.2 j hj⟩⟩
 ·obtain⟨b,N,c,he,_,_,hN,hm,arr,hb,hsz,hle,hr⟩:=hw.osl hx ho;refine⟨_,c,_,he,hr.take (k*sz),fun hne=>⟨b,0,O,TB,(hw.hr.own id b N hm).1,fun j hj=>?_⟩⟩;simp only[Pj]at hj;rw[PJ,cell_of_row w b j arr T (0,0) hb,Pw,AT Ts,Pw,AT Ts];simp
def MS(C:Ctx)(n:Nat)(σ:St)(y:Operand)(j:Nat)(news:List PV):Prop:=∀{a:Act}{w:World}{m:Gm}{R:Nat->Prop},SW C n σ a w m R->∃A c us,a.eval y= .slice A j c/\RelPL w R news us/\Row w Any A us
theorem fS{e:TypeId}{z:Value}{size bytes k j id:Nat}{cs news:List PV}(id':Nat)(he:ElemIs C.P t e z size bytes)(hs:σ.ev n x= .osl id size k)(ho:σ.ob id=some (.cells e cs))(hcs:k*size<=cs.length)
  (hsrc:MS C n σ y j news) (hl:news.length=j*size) (hlf:∀c∈news,c.leaf=true) (hb:k+j<=1000000000) (hid:σ.av id'=true):
  XJ C n ⟨dst,.call { callee:= .builtin .append,args:= #[x,y],argTypes:= #[t,t] },ty,pos,after,gd⟩ σ ⟨.osl id' size (k+j),[(id',some (.cells e (cs.take (k*size)++news))),(id,none)],[id']⟩:=by
 rintro a w Q ⟨m,R,hw⟩;obtain⟨b,N,c,hev,hkc,hcm,hN,hm,arr,hbk,hsz,hle,hr⟩:=hw.osl hs ho;obtain⟨A,c2,us,hev2,hr2,hrow⟩:=hsrc hw;have hown:w.ownsRow 0 e size (.slice (some ⟨b,0,none⟩) k c) k (arr.toList.take (k*size)):=by
  refine⟨?_,.inr ⟨b,c,arr,O,cd _,hbk,hkc,hcm,by rw[hsz,hN],O⟩⟩;have:=Qs size hkc;simp only[Pj,Px];omega
 refine oy x y t O 0 e z size bytes he.u he.info he.zs he.pos he.by_ _ k j c2 A _ us hev hev2 hown hrow (by rw[hr2.length,hl]) (da hr2 hlf) hb (cd _) ?_;intro A' c' w' hown' hgr hat
 have own:=hw.hr.own id b N hm;have hrel:RelPL w R (cs.take (k*size)++news) (arr.toList.take (k*size)++us):=by
  have hr3:=hr.take (k*size);rw[List.take_take,Qt hcs]at hr3;exact hr3.append hr2
 have sub:∀i x,upd m id none i=some x->m i=some x/\i≠id:=fun i x e=>by
  by_cases hi:i=id
  ·subst hi;rw[ay]at e;cases e
  ·rw[aM _ _ hi]at e;exact⟨e,hi⟩
 have bprop:¬R b/\(∀i b' N',upd m id none i=some (b',N')->b'≠b)/\(C.F b\/C.w0.heap.size<=b):=
  ⟨own.2.1,fun i b' N' hi e=>(sub i _ hi).2 (DW hw (sub i _ hi).1 hm e),own.2.2⟩
 rcases hown'.2 with⟨hv,h0⟩|⟨g,cap,cur,hv,_,hg,hkc',hcm',hcs',htk⟩
 ·exfalso;simp only[Value.slice.injEq]at hv;obtain⟨rfl,_,_⟩:=hv;rcases hat with h|⟨g',h,_⟩<;>simp[Value.ownBlock]at h
 ·simp only[Value.slice.injEq]at hv;obtain⟨rfl, -,rfl⟩:=hv;have gprop:¬R g/\(∀i b' N',upd m id none i=some (b',N')->b'≠g)/\(C.F g\/C.w0.heap.size<=g):=by
   rcases hat with h|⟨g',h,hle⟩
   ·simp only[Value.ownBlock,Pe]at h;rw[h];exact bprop
   ·simp only[Value.ownBlock,Pe]at h;subst h;refine⟨fun h=>?_,fun i b' N' hi e=>?_,.inr ?_⟩
    ·have:=hw.hr.rsz _ h;omega
    ·have:=(hw.hr.own i b' N' (sub i _ hi).1).1;omega
    ·have:=hw.hr.frame.size;omega
  have hul:(arr.toList.take (k*size)++us).length=(k+j)*size:=hown'.1;refine⟨_,O,upd (upd m id none) id' (some (g,cur.size)),R,?_⟩;rw[O1];refine SW.put ((hw.drop id).fresh hid hg hgr (fun q hq=>by simp[Value.ownBlock]at hq;subst hq;exact bprop) gprop.1 gprop.2.1 gprop.2.2 (.cells e (cs.take (k*size)++news)) ?_) dst ?_
  ·intro m' av' hR _ _;refine⟨cur,hg,O,?_,?_⟩
   ·rw[hcs',<-hrel.length,hul];exact Qs _ hkc'
   ·rw[<-hrel.length,hul,htk];exact hrel.mono hR
  ·simp only[Rel];refine⟨by simp[avL],fun b N e=>?_⟩;rw[ay]at e;cases e;exact⟨c',O,hkc',hcm',hcs'⟩
theorem eY{e:TypeId}{z:Value}{size bytes k j id:Nat}{cs news:List PV}(id':Nat)(he:ElemIs C.P t e z size bytes)(hs:σ.ev n x= .osl id size k)(ho:σ.ob id=some (.cells e cs))(hcs:cs.length=k*size)
  (hsrc:nM n σ y j news) (hl:news.length=j*size) (hlf:∀c∈news,c.leaf=true) (hb:k+j<=1000000000) (hid:σ.av id'=true):
  XJ C n ⟨dst,.call { callee:= .builtin .append,args:= #[x,y],argTypes:= #[t,t] },ty,pos,after,gd⟩ σ ⟨.osl id' size (k+j),[(id',some (.cells e (cs++news))),(id,none)],[id']⟩:=by
 have h:=fS (dst:=dst) (ty:=ty) (pos:=pos) (after:=after) (gd:=gd) id' he hs ho (Qp hcs.symm) (fun hw=>hsrc.row hw) hl hlf hb hid;rwa [<-hcs,SS]at h
theorem pR{e:TypeId}{z:Value}{size bytes j:Nat}{news:List PV}(id':Nat)(he:ElemIs C.P t e z size bytes)(hs:σ.ev n x= .pv (.sl (some true) 0 []))
  (hsrc:nM n σ y j news) (hl:news.length=j*size) (hlf:∀c∈news,c.leaf=true) (hb:j<=1000000000) (hj:0<j) (hid:σ.av id'=true):
  XJ C n ⟨dst,.call { callee:= .builtin .append,args:= #[x,y],argTypes:= #[t,t] },ty,pos,after,gd⟩ σ ⟨.osl id' size j,[(id',some (.cells e news))],[id']⟩:=by
 rintro a w Q ⟨m,R,hw⟩;have hx:=hw.pv hs;simp only[RelP]at hx;obtain⟨A0,c0,hev,_,_,hn,hc0,_⟩:=hx;have hA0:A0=none:=by cases A0;rfl;have:=hn true O;simp at this
 subst hA0;rw[hc0 trivial]at hev;obtain⟨A,c2,us,hev2,hr2,hrow⟩:=hsrc.row hw;refine oy x y t O 0 e z size bytes he.u he.info he.zs he.pos he.by_ _ 0 j c2 A _ us hev hev2 (World.ownsRow_nil w 0 e size) hrow (by rw[hr2.length,hl]) (da hr2 hlf) Ts (cd _) ?_;intro A' c' w' hown' hgr hat
 simp only[PJ,Qa]at hown' hat ⊢;rcases hown'.2 with⟨hv,h0⟩|⟨g,cap,cur,hv,_,hg,hkc',hcm',hcs',htk⟩
 ·omega
 ·simp only[Value.slice.injEq]at hv;obtain⟨rfl, -,rfl⟩:=hv;have gge:w.heap.size<=g:=by
   rcases hat with h|⟨g',h,hle⟩
   ·simp[Value.ownBlock]at h
   ·simp only[Value.ownBlock,Pe]at h;subst h;exact hle
  refine⟨_,O,upd m id' (some (g,cur.size)),R,?_⟩;rw[O1];refine SW.put (hw.fresh hid hg hgr (fun q hq=>by simp[Value.ownBlock]at hq) (fun h=>by have:=hw.hr.rsz _ h;omega) (fun i b N hi e=>by have:=(hw.hr.own i b N hi).1;omega) (.inr (by have:=hw.hr.frame.size;omega)) (.cells e news) ?_) dst ?_
  ·intro m' av' hR _ _;refine⟨cur,hg,O,?_,?_⟩
   ·rw[hcs',<-hr2.length,hown'.1];exact Qs _ hkc'
   ·rw[<-hr2.length,hown'.1,htk];exact hr2.mono hR
  ·simp only[Rel];refine⟨by simp[avL],fun b N e=>?_⟩;rw[ay]at e;cases e;exact⟨c',O,hkc',hcm',hcs'⟩
end
end
section
def look:List (Nat×V)->Nat->V
 |[],_=> .pv .any
 |(d,v)::l,t=>bif Nat.beq t d then v else look l t
def ax:List (Nat×Ob)->Nat->Option Ob
 |[],_=>none
 |(d,v)::l,t=>bif Nat.beq t d then some v else ax l t
def avK(k:Nat):Av:=fun id=>Nat.ble k id&&Nat.blt id big
def mkS(l:List (Nat×V))(os:List (Nat×Ob))(k:Nat):St:=⟨look l,ax os,avK k⟩
mutual
def V.okA(k:Nat):V->Bool
 | .pv _=>true
 | .ptr id _=>Nat.blt id k||Nat.ble big id
 | .osl id _ _=>Nat.blt id k||Nat.ble big id
 | .tsl id _ _=>Nat.blt id k||Nat.ble big id
 | .gsl id _ _=>Nat.blt id k||Nat.ble big id
 | .map id=>Nat.blt id k||Nat.ble big id
 | .agg cs=>V.okL k cs
 | .tup cs=>V.okL k cs
 | .fn _ a b=>V.okL k a&&V.okL k b
def V.okL(k:Nat):List V->Bool
 |[]=>true
 |c::cs=>V.okA k c&&V.okL k cs
end
def Ob.okA(k:Nat):Ob->Bool
 | .cells _ _=>true
 | .mix _ cs=>V.okL k cs
 | .gro _ _=>true
 | .mp _ _=>true
 | .it _ _=>true
 | .fro _ _=>true
 | .mi _ _ _=>true
section
variable {w:World}{m m':Gm}{av:Av}{R:Nat->Prop}{k:Nat}
theorem ia{k id:Nat}(h:(Nat.blt id k||Nat.ble big id)=true):avK k id=false:=by
 unfold avK;cases hb:Nat.ble k id
 ·rfl
 ·cases hc:Nat.blt id big
  ·rfl
  ·have h1:=Pp hb;have h3:id<big:=by simpa[Rp]using hc
   rcases(Bool.or_eq_true_iff).1 h with h|h
   ·have h2:id<k:=by simpa[Rp]using h
    omega
   ·have h2:=Pp h;omega
theorem J0{k id:Nat}(h:avK k id=true):k<=id/\id<big:=by
 unfold avK at h;simp only[sh]at h;exact⟨Pp h.1,by simpa[Rp]using h.2⟩
theorem cA{k id:Nat}(h:big<=id):avK k id=false:=by
 cases hb:avK k id
 ·rfl
 ·have:=(J0 hb).2;omega
mutual
theorem Rel.okA(hm:∀id x,m' id=some x->m id=some x):∀(v:V)(u:Value),v.okA k=true->Rel w m av R v u->Rel w m' (avK k) R v u
 | .pv p,u,_,h=>by simpa only[Rel]using h
 | .ptr id off,_,ho,h=>by simp only[V.okA]at ho;simp only[Rel]at h ⊢; exact⟨ia ho,fun b N e=>h.2 b N (hm _ _ e)⟩
 | .osl id sz n,_,ho,h=>by simp only[V.okA]at ho;simp only[Rel]at h ⊢; exact⟨ia ho,fun b N e=>h.2 b N (hm _ _ e)⟩
 | .tsl id sz n,_,ho,h=>by
   simp only[V.okA]at ho;simp only[Rel]at h ⊢;obtain⟨h0,A,c,e,h1⟩:=h;exact⟨ia ho,A,c,e,fun hq b N e=>h1 hq b N (hm _ _ e)⟩
 | .gsl id sz n,_,ho,h=>by
   simp only[V.okA]at ho;simp only[Rel]at h ⊢;obtain⟨h0,A,c,e,h1,h2,h3,h4⟩:=h;exact⟨ia ho,A,c,e,h1,h2,fun hn=>⟨(h3 hn).1,(h3 hn).2.1,mF (fun x=>hm id x) (h3 hn).2.2⟩,fun hp b N e=>h4 hp b N (hm _ _ e)⟩
 | .map id,_,ho,h=>by simp only[V.okA]at ho;simp only[Rel]at h ⊢; exact⟨ia ho,fun b N e=>h.2 b N (hm _ _ e)⟩
 | .agg cs,_,ho,h=>by
   simp only[V.okA]at ho;simp only[Rel]at h ⊢;obtain⟨us,e,h⟩:=h;exact⟨us,e,RelL.okA hm cs us ho h⟩
 | .tup cs,_,ho,h=>by
   simp only[V.okA]at ho;simp only[Rel]at h ⊢;obtain⟨us,e,h⟩:=h;exact⟨us,e,RelL.okA hm cs us ho h⟩
 | .fn f fs cs,_,ho,h=>by
   simp only[V.okA,sh]at ho;simp only[Rel]at h ⊢;obtain⟨us,vs,e,h1,h2⟩:=h;exact⟨us,vs,e,RelL.okA hm fs us ho.1 h1,RelL.okA hm cs vs ho.2 h2⟩
theorem RelL.okA(hm:∀id x,m' id=some x->m id=some x):∀(vs:List V)(us:List Value),V.okL k vs=true->RelL w m av R vs us->RelL w m' (avK k) R vs us
 |[],_,_,h=>by simpa only[RelL]using h
 | c::cs,_,ho,h=>by
   simp only[V.okL,sh]at ho;simp only[RelL]at h ⊢;obtain⟨u,vs,e,h1,h2⟩:=h;exact⟨u,vs,e,Rel.okA hm c u ho.1 h1,RelL.okA hm cs vs ho.2 h2⟩
end
end
def D6(σ:St):List (Nat×V)->Prop
 |[]=>True
 |(t,v)::l=>σ.sl t=v/\D6 σ l
def Co(σ:St):List (Nat×Ob)->Prop
 |[]=>True
 |(t,v)::l=>σ.ob t=some v/\Co σ l
theorem ud{σ:St}:∀{l:List (Nat×V)},D6 σ l->∀t,look l t= .pv .any\/look l t=σ.sl t
 |[],_,_=> .inl O
 | (d,v)::l,h,t=>by
   simp only[look];cases hb:Nat.beq t d with
   |true=>have:=aI hb;subst this;exact .inr h.1.symm
   |false=>simpa using ud h.2 t
theorem look_ok{k:Nat}:∀{l:List (Nat×V)},l.all (fun p=>p.2.okA k)=true->∀t,(look l t).okA k=true
 |[],_,_=>rfl
 | (d,v)::l,h,t=>by
   simp only[RB,sh]at h;simp only[look];cases hb:Nat.beq t d with
   |true=>exact h.1
   |false=>simpa using look_ok h.2 t
theorem iU{σ:St}{k:Nat}:∀{l:List (Nat×Ob)},Co σ l->l.all (fun p=>(Nat.blt p.1 k||Nat.ble big p.1)&&p.2.okA k)=true->∀t o,ax l t=some o->σ.ob t=some o/\avK k t=false/\o.okA k=true
 |[],_,_,_,_,h=>by simp[ax]at h
 | (d,v)::l,h,hk,t,o,ho=>by
   simp only[RB,sh]at hk;simp only[ax]at ho;cases hb:Nat.beq t d with
   | true=>
     have:=aI hb;subst this;rw[hb]at ho;simp at ho;subst ho;exact⟨h.1,ia hk.1.1,hk.1.2⟩
   |false=>rw[hb]at ho;exact iU h.2 hk.2 t o (by simpa using ho)
theorem OU{σ:St}{l:List (Nat×V)}{os:List (Nat×Ob)}{k:Nat}(hl:D6 σ l)(ho:Co σ os)(h1:l.all (fun p=>p.2.okA k)=true)(h2:os.all (fun p=>(Nat.blt p.1 k||Nat.ble big p.1)&&p.2.okA k)=true):σ.le (mkS l os k):=by
 rintro C n a w ⟨m,R,hw⟩;refine⟨fun id=>if(ax os id).isSome then m id else none,R,?_⟩;have sub:∀id x,(if(ax os id).isSome then m id else none)=some x->m id=some x:=fun id x e=>by
  split at e
  ·exact e
  ·cases e
 refine⟨⟨?_,?_,?_,?_,?_,?_,?_,?_,?_,?_,?_⟩,hw.df,hw.sz,?_⟩
 ·intro id;show(if(ax os id).isSome then m id else none).isSome=bE (ax os id);cases e:ax os id with
  |none=>rfl
  | some o=>
    have:=hw.hr.dom id;rw[(iU ho h2 id o e).1]at this;simpa using this
 ·intro id hid;show ax os id=none;cases e:ax os id with
  |none=>rfl
  | some o=>
    have:=(iU ho h2 id o e).2.1;have hid':avK k id=true:=hid;rw[hid']at this;cases this
 ·intro id o b N h3 h4;have h5:=iU ho h2 id o h3;have h6:=hw.hr.obj id o b N h5.1 (sub _ _ h4);cases o with
  |cells ty cs=>exact h6
  |gro ty cs=>exact h6
  |mp ks vs=>exact h6
  |it s pos=>exact h6
  |fro s pos=>exact h6
  |mi cur ks vs=>exact h6
  | mix ty cs=>
    obtain⟨arr,q1,q2,q3,q4⟩:=h6;exact⟨arr,q1,q2,q3,q4.okA sub _ _ h5.2.2⟩
 ·exact fun i j b N N' e1 e2=>hw.hr.inj i j b N N' (sub _ _ e1) (sub _ _ e2)
 ·exact fun id b N e=>hw.hr.own id b N (sub _ _ e)
 ·exact hw.hr.rsz
 ·exact hw.hr.rfr
 ·exact hw.hr.r0
 ·exact hw.hr.frame
 ·exact fun id x hi e=>hw.hr.keep id x hi (sub id x e)
 ·exact fun id hi=>cA hi
 ·intro t ht;show Rel w _ (avK k) R (look l t) _;rcases ud hl t with e|e
  ·rw[e];simp only[Rel,RelP]
  ·have:=look_ok h1 t;rw[e]at this ⊢;exact(hw.sl t ht).okA sub _ _ this
def St.pub(σ:St)(id:Nat)(ts:List Nat)(p:PV):St:=⟨fun t=>bif ts.contains t then .pv p else σ.sl t,obL [(id,none)] σ.ob,σ.av⟩
def Mo(σ:St)(v:V):List Nat->Prop
 |[]=>True
 |t::ts=>σ.sl t=v/\Mo σ v ts
theorem uN{σ:St}{v:V}:∀{ts:List Nat},Mo σ v ts->∀t∈ts,σ.sl t=v
 |[],_,t,h=>by simp at h
 | q::ts,h,t,hm=>by
   rcases AS.1 hm with rfl|hm
   ·exact h.1
   ·exact uN h.2 t hm
theorem St.Jf{σ:St}{sz k:Nat}{T:TypeId}{cs:List PV}(id:Nat)(ts:List Nat)(ho:σ.ob id=some (.cells T cs))(hts':Mo σ (.osl id sz k) ts)(hsz:k*sz<=cs.length):σ.le (σ.pub id ts (.sl none k (cs.take (k*sz)))):=by
 rintro C n a w ⟨m,R,hw⟩;have hts:=uN hts';obtain⟨b,N,hm,arr,hb,hN,hle,hr⟩:=hw.live ho;have own:=hw.hr.own id b N hm;have hd:=hw.drop id;have hmono:∀q,R q->(R q\/q=b)/\w.heap[q]? =w.heap[q]? :=fun q hq=>⟨.inl hq,O⟩
 have sub:∀i x,upd m id none i=some x->m i=some x/\i≠id:=fun i x e=>by
  by_cases hi:i=id
  ·subst hi;rw[ay]at e;cases e
  ·rw[aM _ _ hi]at e;exact⟨e,hi⟩
 refine⟨upd m id none,fun q=>R q\/q=b,?_⟩;refine⟨⟨hd.hr.dom,hd.hr.free,?_,hd.hr.inj,?_,?_,?_,?_,hw.hr.frame,hd.hr.keep,hd.hr.res⟩,hw.df,hw.sz,?_⟩
 ·intro i o b' N' h1 h2;exact(hd.hr.obj i o b' N' h1 h2).mono hmono (fun _ _ _ e=>e) (fun _ e=>e) O
 ·intro i b' N' h1;obtain⟨h2,h3,h4⟩:=hd.hr.own i b' N' h1;refine⟨h2,?_,h4⟩;rintro(h5|h5)
  ·exact h3 h5
  ·exact(sub i _ h1).2 (DW hw (sub i _ h1).1 hm h5)
 ·rintro q (hq|hq)
  ·exact hw.hr.rsz q hq
  ·rw[hq];exact own.1
 ·rintro q (hq|hq)
  ·exact hw.hr.rfr q hq
  ·rw[hq];rcases own.2.2 with h|h
   ·exact .inr (.inr h)
   ·exact .inr (.inl h)
 ·exact fun q hq=> .inl (hw.hr.r0 q hq)
 ·intro t ht;show Rel w _ σ.av _ (bif ts.contains t then .pv _ else σ.sl t) _;cases hc:ts.contains t with
  |false=>exact(hd.sl t ht).mono hmono (fun _ _ _ e=>e) (fun _ e=>e)
  | true=>
    have hmem:t∈ts:=by simpa using hc
    have h0:=hw.sl t ht;rw[hts t hmem]at h0;simp only[Rel]at h0;obtain⟨c,he,h1,h2,h3⟩:=h0.2 b N hm;simp only[Qd,Rel,RelP];refine⟨_,c,he,h1,h2,(fun _ e=>by cases e),(fun e=>by cases e),fun _=>⟨b,0,_,rfl,(hr.take (k*sz)).mono hmono,.inr rfl,?_⟩⟩;intro j hj;simp only[Pj]at hj;rw[PJ,cell_of_row w b j arr T (0,0) hb,Pw,AT Ts,Pw,AT Ts];simp
def V.FM(ob:Nat->Option Ob):V->Option PV
 | .pv p=>some p
 | .osl id sz k=>match ob id with
   |some (.cells _ cs)=>some (.sl (some false) k cs)
   |_=>none
 | .gsl id sz k=>match ob id with
   |some (.gro _ cs)=>some (.sl none k cs)
   |_=>none
 |_=>none
def V.AV(ob:Nat->Option Ob):List V->Option (List PV)
 |[]=>some []
 | c::cs=>match c.FM ob,V.AV ob cs with
   |some p,some ps=>some (p::ps)
   |_,_=>none
def V.toP(ob:Nat->Option Ob):V->Option PV
 | .agg cs=>match V.AV ob cs with|some ps=>some (.agg ps)|none=>none
 | .fn f a b=>match V.AV ob a,V.AV ob b with|some ps,some qs=>some (.fn f ps qs)|_,_=>none
 |v=>v.FM ob
def V.args(ob:Nat->Option Ob):List V->Option (List PV)
 |[]=>some []
 | c::cs=>match c.toP ob,V.args ob cs with
   |some p,some ps=>some (p::ps)
   |_,_=>none
def dj(m:Gm)(b:Nat):Prop:=∃id N,m id=some (b,N)
section
variable {C:Ctx}{n:Nat}{σ:St}{a:Act}{w:World}{m:Gm}{R:Nat->Prop}
theorem SW.FM(hw:SW C n σ a w m R){v:V}{u:Value}{p:PV}(h:Rel w m σ.av R v u)(hp:v.FM σ.ob=some p):RelP w (fun b=>R b\/dj m b) p u:=by
 have hmono:∀q,R q->(R q\/dj m q)/\w.heap[q]? =w.heap[q]? :=fun q hq=>⟨.inl hq,O⟩
 cases v with
 |pv q=>simp only[V.FM,Pe]at hp;subst hp;simp only[Rel]at h;exact h.mono hmono
 | osl id sz k=>
   simp only[V.FM]at hp;split at hp
   ·rename_i T cs ho;simp at hp;subst hp;obtain⟨b,N,hm,arr,hbk,hN,hle',hr⟩:=hw.live ho;simp only[Rel]at h;obtain⟨c,he,h1,h2,h3⟩:=h.2 b N hm;simp only[RelP];refine⟨_,c,he,h1,h2,(fun _ e=>by cases e;rfl),(fun e=>by cases e),fun _=>⟨b,0,_,rfl,hr.mono hmono,.inr ⟨id,N,hm⟩,?_⟩⟩;intro j hj;simp only[Pj]at hj;rw[PJ,cell_of_row w b j arr T (0,0) hbk,Pw,AT Ts];simp
   ·cases hp
 | gsl id sz k=>
   simp only[V.FM]at hp;split at hp
   ·rename_i T cs ho;simp at hp;subst hp;simp only[Rel]at h;obtain⟨h0,A,c,he,h1,h2,h3,h4⟩:=h;simp only[RelP];refine⟨_,c,he,h1,h2,(fun _ e=>by cases e),(fun e=>by cases e),fun hne=>?_⟩;have hre:(Ob.gro T cs).real=true:=by cases cs;exact absurd O hne;rfl
    obtain⟨b,N,hm,arr,hbk,hN,hle',hr⟩:=hw.live ho hre;have hk:0<k:=by
     rcases Qj k with e|e
     ·have:=(h3 e).2.2;rw[hm]at this;cases this
     ·exact e
    refine⟨b,0,_,(h4 hk b N hm).1,hr.mono hmono,.inr ⟨id,N,hm⟩,?_⟩;intro j hj;simp only[Pj]at hj;rw[PJ,cell_of_row w b j arr T (0,0) hbk,Pw,AT Ts];simp
   ·cases hp
 |_=>simp[V.FM]at hp
theorem SW.AV(hw:SW C n σ a w m R):∀{vs:List V}{us:List Value}{ps:List PV},RelL w m σ.av R vs us->V.AV σ.ob vs=some ps->RelPL w (fun b=>R b\/dj m b) ps us
 |[],_,_,h,hp=>by simp only[V.AV,Pe]at hp;subst hp;simpa only[RelL,RelPL]using h
 | c::cs,_,_,h,hp=>by
   simp only[V.AV]at hp;split at hp
   ·rename_i p ps h1 h2;simp at hp;subst hp;simp only[RelL]at h;obtain⟨u,us,rfl,hc,hr⟩:=h;exact RelPL.cons (hw.FM hc h1) (SW.AV hw hr h2)
   ·cases hp
theorem SW.toP(hw:SW C n σ a w m R){v:V}{u:Value}{p:PV}(h:Rel w m σ.av R v u)(hp:v.toP σ.ob=some p):RelP w (fun b=>R b\/dj m b) p u:=by
 cases v with
 | agg cs=>
   simp only[V.toP]at hp;split at hp
   ·rename_i ps h1;simp at hp;subst hp;simp only[Rel]at h;obtain⟨us,rfl,hr⟩:=h;simp only[RelP];exact⟨us,O,hw.AV hr h1⟩
   ·cases hp
 | fn f a b=>
   simp only[V.toP]at hp;split at hp
   ·rename_i ps qs h1 h2;simp at hp;subst hp;simp only[Rel]at h;obtain⟨us,vs,rfl,ha,hb⟩:=h;simp only[RelP];exact⟨us,vs,O,hw.AV ha h1,hw.AV hb h2⟩
   ·cases hp
 |_=>exact hw.FM h hp
theorem SW.args(hw:SW C n σ a w m R):∀{vs:List V}{us:List Value}{ps:List PV},RelL w m σ.av R vs us->V.args σ.ob vs=some ps->RelPL w (fun b=>R b\/dj m b) ps us
 |[],_,_,h,hp=>by simp only[V.args,Pe]at hp;subst hp;simpa only[RelL,RelPL]using h
 | c::cs,_,_,h,hp=>by
   simp only[V.args]at hp;split at hp
   ·rename_i p ps h1 h2;simp at hp;subst hp;simp only[RelL]at h;obtain⟨u,us,rfl,hc,hr⟩:=h;exact RelPL.cons (hw.toP hc h1) (SW.args hw hr h2)
   ·cases hp
theorem SW.evs(hw:SW C n σ a w m R):∀(xs:List Operand),RelL w m σ.av R (xs.map (σ.ev n)) (xs.map a.eval)
 |[]=>by simpa using RelL.nil
 |x::xs=>by simpa using RelL.cons (hw.ev x) (SW.evs hw xs)
end
def PV.fg1:PV->PV
 | .sl _ n cs=> .sl none n cs
 |p=>p
def PV.fgL:List PV->List PV
 |[]=>[]
 |p::ps=>p.fg1::PV.fgL ps
def PV.fg:PV->PV
 | .agg cs=> .agg (PV.fgL cs)
 | .tup cs=> .tup (PV.fgL cs)
 |p=>p.fg1
def PV.fgA:List PV->List PV
 |[]=>[]
 |p::ps=>p.fg::PV.fgA ps
theorem RelP.fg1{w:World}{R:Nat->Prop}{p:PV}{u:Value}(h:RelP w R p u):RelP w R p.fg1 u:=by
 cases p with
 | sl b n cs=>
   simp only[RelP,PV.fg1]at h ⊢;obtain⟨A,c,e,h1,h2,_,_,h5⟩:=h;exact⟨A,c,e,h1,h2,(fun _ e=>by cases e),(fun e=>by cases e),h5⟩
 |_=>exact h
theorem RelPL.fgL{w:World}{R:Nat->Prop}:∀{ps:List PV}{us:List Value},RelPL w R ps us->RelPL w R (PV.fgL ps) us
 |[],_,h=>h
 | p::ps,_,h=>by
   simp only[RelPL,PV.fgL]at h ⊢;obtain⟨u,vs,e,h1,h2⟩:=h;exact⟨u,vs,e,h1.fg1,RelPL.fgL h2⟩
theorem RelP.fg{w:World}{R:Nat->Prop}{p:PV}{u:Value}(h:RelP w R p u):RelP w R p.fg u:=by
 cases p with
 | agg cs=>
   simp only[RelP,PV.fg]at h ⊢;obtain⟨us,e,h⟩:=h;exact⟨us,e,h.fgL⟩
 | tup cs=>
   simp only[RelP,PV.fg]at h ⊢;obtain⟨us,e,h⟩:=h;exact⟨us,e,h.fgL⟩
 |_=>exact h.fg1
theorem RelPL.fgA{w:World}{R:Nat->Prop}:∀{ps:List PV}{us:List Value},RelPL w R ps us->RelPL w R (PV.fgA ps) us
 |[],_,h=>h
 | p::ps,_,h=>by
   simp only[RelPL,PV.fgA]at h ⊢;obtain⟨u,vs,e,h1,h2⟩:=h;exact⟨u,vs,e,h1.fg,RelPL.fgA h2⟩
def St.fgS(σ:St)(ts:List Nat):St:=⟨fun t=>bif ts.contains t then(match σ.sl t with| .pv p=> .pv p.fg|v=>v)else σ.sl t,σ.ob,σ.av⟩
theorem St.lK{σ:St}(ts:List Nat):σ.le (σ.fgS ts):=by
 rintro C n a w ⟨m,R,hw⟩;refine⟨m,R,hw.hr,hw.df,hw.sz,fun t ht=>?_⟩;have h:=hw.sl t ht;show Rel w m σ.av R (bif ts.contains t then(match σ.sl t with| .pv p=> .pv p.fg|v=>v)else σ.sl t) _;cases ts.contains t
 ·exact h
 ·simp only[Qd];cases hv:σ.sl t with
  |pv p=>rw[hv]at h;simp only[Rel]at h ⊢; exact h.fg
  |_=>rw[hv]at h;exact h
def St.fgO(σ:St)(id:Nat)(T:TypeId)(cs:List PV):St:=⟨σ.sl,obL [(id,some (.cells T (PV.fgL cs)))] σ.ob,σ.av⟩
theorem PV.kO:∀cs:List PV,(PV.fgL cs).length=cs.length
 |[]=>rfl
 |_::cs=>by simp[PV.fgL,PV.kO cs]
theorem St.JP{σ:St}{id:Nat}{T:TypeId}{cs:List PV}(ho:σ.ob id=some (.cells T cs)):σ.le (σ.fgO id T cs):=by
 rintro C n a w ⟨m,R,hw⟩;have obe:∀i,i≠id->obL [(id,some (.cells T (PV.fgL cs)))] σ.ob i=σ.ob i:=fun i hi=>by
  have:Nat.beq i id=false:=by cases hb:Nat.beq i id;rfl;exact absurd (aI hb) hi
  simp[obL,this]
 have obs:obL [(id,some (.cells T (PV.fgL cs)))] σ.ob id=some (.cells T (PV.fgL cs)):=by simp[obL]
 refine⟨m,R,⟨?_,?_,?_,hw.hr.inj,hw.hr.own,hw.hr.rsz,hw.hr.rfr,hw.hr.r0,hw.hr.frame,hw.hr.keep,hw.hr.res⟩,hw.df,hw.sz,hw.sl⟩
 ·intro i;show(m i).isSome=bE (obL _ σ.ob i);by_cases e:i=id
  ·subst e;rw[obs,hw.hr.dom,ho];rfl
  ·rw[obe i e];exact hw.hr.dom i
 ·intro i hi;show obL _ σ.ob i=none;by_cases e:i=id
  ·subst e;have:=hw.hr.free i hi;rw[ho]at this;cases this
  ·rw[obe i e];exact hw.hr.free i hi
 ·intro i o b N h1 h2;by_cases e:i=id
  ·subst e;have h1':obL [(i,some (.cells T (PV.fgL cs)))] σ.ob i=some o:=h1;rw[obs]at h1';cases h1';obtain⟨arr,q1,q2,q3,q4⟩:=hw.hr.obj i _ b N ho h2;exact⟨arr,q1,q2,by rw[PV.kO];exact q3,by rw[PV.kO];exact q4.fgL⟩
  ·have h1':obL [(id,some (.cells T (PV.fgL cs)))] σ.ob i=some o:=h1;rw[obe i e]at h1';exact hw.hr.obj i o b N h1' h2
def FnP(P:Program)(f:FuncId)(args:List PV)(Q:PV->Prop):Prop:=
 ∀(w:World)(R:Nat->Prop)(us:List Value),nU w R->(∀b,R b->b<w.heap.size)->RelPL w R args us->
  Calls P f us.toArray w fun e w'=>∃u v,e= .returned u/\Q v/\Below w.heap.size w w'/\RelP w' (fun b=>R b\/(w.heap.size<=b/\b<w'.heap.size)) v u
theorem FnP.mono{P:Program}{f:FuncId}{args:List PV}{Q Q':PV->Prop}(h:FnP P f args Q)(hq:∀v,Q v->Q' v):FnP P f args Q':=
 fun w R us h0 h1 h2=>(h w R us h0 h1 h2).mono fun _ _ ⟨u,v,e,q,r⟩=>⟨u,v,e,hq v q,r⟩
def cu(P:Program)(f:FuncId):Prop:=∀args w,(callFunc f args).run P w= .ok (.enter f args) w
def PV.flat:PV->Bool
 | .int _ _| .bool _| .str _| .nilfn| .nilptr| .nilmap| .niliface| .any=>true
 | .tup ps=>ps.all fun| .int _ _| .bool _| .str _=>true|_=>false
 | .agg ps=>ps.all fun| .int _ _| .bool _| .str _=>true|_=>false
 |_=>false
theorem MD{w w':World}{R R':Nat->Prop}:∀{ps:List PV}{us:List Value},(ps.all fun| .int _ _| .bool _| .str _=>true|_=>false)=true->RelPL w R ps us->RelPL w' R' ps us
 |[],_,_,h=>by simpa only[RelPL]using h
 | c::cs,_,hf,h=>by
   simp only[RB,sh]at hf;simp only[RelPL]at h ⊢;obtain⟨u,us,e,hc,hr⟩:=h;refine⟨u,us,e,?_,MD hf.2 hr⟩;cases c<;>simp at hf<;>simpa only[RelP]using hc
theorem RelP.flat{w w':World}{R R':Nat->Prop}{p:PV}{u:Value}(hf:p.flat=true)(h:RelP w R p u):RelP w' R' p u:=by
 cases p<;>simp only[PV.flat,Qk]at hf<;>simp only[RelP]at h ⊢
 case agg ps=>obtain⟨us,e,h⟩:=h;exact⟨us,e,MD hf h⟩
 case tup ps=>obtain⟨us,e,h⟩:=h;exact⟨us,e,MD hf h⟩
 all_goals exact h
section
variable {C:Ctx}{n:Nat}{σ:St}{dst:Option Tmp}{ty:TypeId}{ts:Array TypeId}{pos:String}{after:Array Edge}{gd:Option (Nat×Bool)}
theorem SW.called{a:Act}{w w':World}{m:Gm}{R:Nat->Prop}(hw:SW C n σ a w m R)(hb:Below w.heap.size w w'):
  SW C n σ a w' m (fun b=>R b\/(w.heap.size<=b/\b<w'.heap.size)):=by
 have hR:∀b,R b->(R b\/(w.heap.size<=b/\b<w'.heap.size))/\w'.heap[b]? =w.heap[b]? :=fun b h=>⟨.inl h,hb.block b (hw.hr.rsz b h)⟩
 have:=hw.world (w':=w') (m':=m) (R':=fun b=>R b\/(w.heap.size<=b/\b<w'.heap.size)) (ob':=σ.ob) (av':=σ.av) ?_ hR (fun _ _ _ e=>e) (fun _ e=>e)
 ·exact this
 refine⟨hw.hr.dom,hw.hr.free,?_,hw.hr.inj,?_,?_,?_,fun b h=> .inl (hw.hr.r0 b h),?_,hw.hr.keep,hw.hr.res⟩
 ·intro i o b N h1 h2;exact(hw.hr.obj i o b N h1 h2).mono hR (fun _ _ _ e=>e) (fun _ e=>e) (hb.block b (hw.hr.own i b N h2).1)
 ·intro i b N h1;obtain⟨h2,h3,h4⟩:=hw.hr.own i b N h1;refine⟨Ps h2 hb.size,?_,h4⟩;rintro(h5|h5)
  ·exact h3 h5
  ·omega
 ·rintro b (h|h)
  ·exact Ps (hw.hr.rsz b h) hb.size
  ·exact h.2
 ·rintro b (h|h)
  ·exact hw.hr.rfr b h
  ·exact .inr (.inl (IS hw.hr.frame.size h.1))
 ·refine⟨hb.os.trans hw.hr.frame.os,hb.tape.trans hw.hr.frame.tape,hb.output.trans hw.hr.frame.output,IS hw.hr.frame.size hb.size,fun k hk hF=>?_⟩;rw[hb.block k (Ps hk hw.hr.frame.size)];exact hw.hr.frame.block k hk hF
theorem kM{P:Program}{f:FuncId}(hc:cu P f)(xs:Array Operand)(a:Act)(w:World):
  (execOp a.eval ⟨dst,.call { callee:= .value (.func f),args:=xs,argTypes:=ts },ty,pos,after,gd⟩).run P w= .ok (.enter f (xs.map a.eval)) w:=by
 simp[execOp,resolve,Deferred.ofValue,Act.eval,invoke,hc];exact hc _ _
theorem jz{f:FuncId}{xs:Array Operand}{ps:List PV}{Q:PV->Prop}{K:St->Prop}(hc:cu C.P f)(hf:FnP C.P f ps Q)(hargs:(V.args (fun _=>none) (xs.toList.map (σ.ev n))).map PV.fgA=some ps)(hk:∀v,Q v->K (σ.put dst (.pv v))):
  OJ C n ⟨dst,.call { callee:= .value (.func f),args:=xs,argTypes:=ts },ty,pos,after,gd⟩ K σ:=by
 rintro a w Q' ⟨m,R,hw⟩;unfold Oper.wp;rw[kM hc];have hrel:RelPL w R ps (xs.toList.map a.eval):=by
  have h0:SW C n ⟨σ.sl,fun _=>none,σ.av⟩ a w (fun _=>none) R:=by
   refine⟨⟨fun _=>rfl,fun _ _=>rfl,fun _ _ _ _ h=>(by cases h),fun _ _ _ _ _ h=>(by cases h),fun _ _ _ h=>(by cases h),hw.hr.rsz,hw.hr.rfr,hw.hr.r0,hw.hr.frame,fun _ _ _ h=>(by cases h),hw.hr.res⟩,hw.df,hw.sz,fun t ht=>(hw.sl t ht).mono (fun b h=>⟨h,rfl⟩) (fun _ _ _ e=>by cases e) (fun _ e=>e)⟩
  obtain⟨ps0,hargs0,rfl⟩:=Rx.1 hargs;have h1:=(h0.args (h0.evs xs.toList) hargs0).fgA;exact h1.mono fun b hb=>⟨hb.elim id (fun⟨_,_,h⟩=>by cases h),rfl⟩
 have:=hf w R (xs.toList.map a.eval) hw.hr.gi hw.hr.rsz hrel;have e:(xs.toList.map a.eval).toArray=xs.map a.eval:=by rw[<-Array.toList_map,Array.toArray_toList]
 rw[e]at this;refine Calls.mono this ?_;rintro e w' ⟨u,v,rfl,hq,hb,hr⟩;exact⟨_,hk v hq,m,_,(hw.called hb).put dst (by simpa only[Rel]using hr)⟩
theorem aa{f:FuncId}{xs:Array Operand}{ps:List PV}{r:PV}(hc:cu C.P f)(hf:FnP C.P f ps (· =r))(hargs:(V.args (fun _=>none) (xs.toList.map (σ.ev n))).map PV.fgA=some ps):
  XJ C n ⟨dst,.call { callee:= .value (.func f),args:=xs,argTypes:=ts },ty,pos,after,gd⟩ σ ⟨.pv r,[],[]⟩:=
 jz hc hf hargs (by rintro v rfl;exact(St.gA σ dst _).symm)
theorem IE{f:FuncId}{xs:Array Operand}{ps:List PV}{Q:PV->Prop}{K:St->Prop}(hc:cu C.P f)(hf:FnP C.P f ps Q)(hargs:(V.args σ.ob (xs.toList.map (σ.ev n))).map PV.fgA=some ps)(hfl:∀v,Q v->v.flat=true)(hk:∀v,Q v->K (σ.put dst (.pv v))):
  OJ C n ⟨dst,.call { callee:= .value (.func f),args:=xs,argTypes:=ts },ty,pos,after,gd⟩ K σ:=by
 rintro a w Q' ⟨m,R,hw⟩;unfold Oper.wp;rw[kM hc];obtain⟨ps0,hargs0,rfl⟩:=Rx.1 hargs;have hrel:=(hw.args (hw.evs xs.toList) hargs0).fgA;have:=hf w (fun b=>R b\/dj m b) (xs.toList.map a.eval) (hw.hr.gi.mono fun b hb=>⟨.inl hb,O⟩) (by rintro b (h|⟨id,N,h⟩);exact hw.hr.rsz b h;exact(hw.hr.own id b N h).1) hrel;have e:(xs.toList.map a.eval).toArray=xs.map a.eval:=by rw[<-Array.toList_map,Array.toArray_toList]
 rw[e]at this;refine Calls.mono this ?_;rintro e w' ⟨u,v,rfl,hq,hb,hr⟩;exact⟨_,hk v hq,m,_,(hw.called hb).put dst (by simp only[Rel];exact hr.flat (hfl v hq))⟩
theorem rb{f:FuncId}{xs:Array Operand}{ps:List PV}{r:PV}(hc:cu C.P f)(hf:FnP C.P f ps (· =r))(hargs:(V.args σ.ob (xs.toList.map (σ.ev n))).map PV.fgA=some ps)(hfl:r.flat=true):
  XJ C n ⟨dst,.call { callee:= .value (.func f),args:=xs,argTypes:=ts },ty,pos,after,gd⟩ σ ⟨.pv r,[],[]⟩:=
 IE hc hf hargs (by rintro v rfl;exact hfl) (by rintro v rfl;exact(St.gA σ dst _).symm)
end
def gN:Nat->List PV->List (Nat×V)
 |_,[]=>[]
 |k,p::ps=>(k,.pv p)::gN (k+1) ps
def yn(n:Nat)(σ:St):List ResultVar->Option (List V)
 |[]=>some []
 | .tmp t::l=>match yn n σ l with|some vs=>some (σ.ev n (.tmp t)::vs)|none=>none
 |_::_=>none
def eJ:List PV->PV
 |[p]=>p
 |ps=> .tup ps
def retQ(fn:Func)(n:Nat)(Q:PV->Prop):Exit->St->Prop
 | .ret,σ| .normal,σ=>∃vs ps,yn n σ fn.results.toList=some vs/\V.args σ.ob vs=some ps/\Q (eJ ps)
 |_,_=>False
def MV(a:Act):ResultVar->Value
 | .tmp t=>a.eval (.tmp t)
 | .cell _ _=>undef
theorem rV{n:Nat}{σ:St}{a:Act}(w:World)(P:Program)(f:ResultVar->Sem Value)(hf:∀t,f (.tmp t)=pure (a.tmps.getD t undef)):∀{l:List ResultVar}{vs:List V},yn n σ l=some vs->
  Sem.run P (l.mapM f) w= .ok (l.map (MV a)) w
 |[],vs,h=>by simp
 | .tmp t::l,vs,h=>by
   simp only[yn]at h;split at h
   ·rename_i vs' h';have hr:=rV w P f hf h';rw[List.mapM_cons,hf];simp[hr,MV,Act.eval]
   ·cases h
 | .cell _ _::_,_,h=>by simp[yn]at h
theorem re{C:Ctx}{n:Nat}{σ:St}{a:Act}{w:World}{m:Gm}{R:Nat->Prop}(hw:SW C n σ a w m R):∀{l:List ResultVar}{vs:List V},yn n σ l=some vs->RelL w m σ.av R vs (l.map (MV a))
 |[],vs,h=>by simp only[yn,Pe]at h;subst h;simpa using RelL.nil
 | .tmp t::l,vs,h=>by
   simp only[yn]at h;split at h
   ·rename_i vs' h';simp at h;subst h;simpa[MV]using RelL.cons (hw.ev (.tmp t)) (re hw h')
   ·cases h
 | .cell _ _::_,_,h=>by simp[yn]at h
theorem FnP.of{P:Program}{f:FuncId}{fn:Func}{c:Code}{n:Nat}{args:List PV}{Q:PV->Prop}(hf:P.funcs[f]? =some fn)(hb:fn.body=some c)(hn:fn.ntmps=n)(hna:args.length<=n)
  (h:∀m0 w0 F R0,AW ⟨P,m0,w0,F,R0⟩ n c (retQ fn n Q) (mkS (gN 0 args) [] 0)):FnP P f args Q:=by
 intro w R us hG hR hrel;refine calls_of_wp hf hb ?_
 let C:Ctx:=⟨P,fun _=>none,w,fun _=>False,⟨R,hG,fun b h=>⟨hR b h,id⟩,[]⟩⟩
 have hl:=hrel.length;have init:SJ C n (mkS (gN 0 args) [] 0) { tmps:=us.toArray++Array.replicate (fn.ntmps-us.toArray.size) undef,defers:=[] } w:=by
  refine⟨fun _=>none,R,⟨⟨fun _=>rfl,fun _ _=>rfl,fun _ _ _ _ h=>(by cases h),fun _ _ _ _ _ h=>(by cases h),fun _ _ _ h=>(by cases h),hR,fun b h=> .inl h,fun b h=>h,Fr.refl _ _,fun _ _ _ h=>(by cases h),fun id hi=>cA (k:=0) hi⟩,rfl,Tx,?_⟩⟩;intro t ht;show Rel w _ (avK 0) R (look (gN 0 args) t) ((us.toArray++Array.replicate (fn.ntmps-us.toArray.size) undef).getD t undef);have key:∀(ps:List PV)(vs:List Value)(k:Nat),RelPL w R ps vs->k<=t->∀z:Value,vs[t-k]?.getD z=z\/True->Rel w (fun _=>none) (avK 0) R (look (gN k ps) t) (vs[t-k]?.getD z):=by
   intro ps;induction ps with
   |nil=>intro vs k _ _ z _;simp only[gN,look,Rel,RelP]
   | cons p ps ih=>
     intro vs k hr hk z _;simp only[RelPL]at hr;obtain⟨u,vs',rfl,h1,h2⟩:=hr;simp only[gN,look];by_cases e:t=k
     ·subst e;simp only[Nat.beq_eq_true_eq,Sn,Qd,SO];simpa[Rel]using h1
     ·have hb:Nat.beq t k=false:=by cases hb:Nat.beq t k;rfl;exact absurd (aI hb) e
      rw[hb];have:=ih vs' (k+1) h2 Ts z (.inr trivial);have e2:t-k=(t-(k+1))+1:=Ts;rw[e2];simpa using this
  have:=key args us 0 hrel (cd _) undef (.inr trivial);simp only[S8]at this;rw[PN,SX];by_cases e:t<us.length
  ·simpa[e]using this
  ·rw[Qg Ts]at this;simp only[Pv,e,SD,RA];split<;>simpa using this
 have hbody:=(h (fun _=>none) w (fun _=>False) ⟨R,hG,fun b h=>⟨hR b h,id⟩,[]⟩).go _ w init;refine wp_mono hbody ?_;rintro ex a' w' ⟨σ',hq,m,R',hw⟩;have fin:∀vs ps,yn n σ' fn.results.toList=some vs->V.args σ'.ob vs=some ps->Q (eJ ps)->a'.defers=[]/\∃v,(results fn a'.tmps).run P w'= .ok v w'/\
   ∃u v_1,Ending.returned v= .returned u/\Q v_1/\Below w.heap.size w w'/\RelP w' (fun b=>R b\/(w.heap.size<=b/\b<w'.heap.size)) v_1 u:=by
  intro vs ps h1 h2 h3;have hrl:=re hw h1;have hrun:=fun f hf=>rV (a:=a') w' P f hf h1
  generalize fn.results.toList.map (MV a')=us' at hrl hrun;have hp:=hw.args hrl h2;have hp2:RelPL w' (fun b=>R b\/(w.heap.size<=b/\b<w'.heap.size)) ps us':=hp.mono fun b hb=>⟨by
   rcases hb with hb|⟨id,N,hb⟩
   ·rcases hw.hr.rfr b hb with h|h|h
    ·exact .inl h
    ·exact .inr ⟨h,hw.hr.rsz b hb⟩
    ·exact h.elim
   ·rcases(hw.hr.own id b N hb).2.2 with h|h
    ·exact h.elim
    ·exact .inr ⟨h,(hw.hr.own id b N hb).1⟩,O⟩
  have hbel:Below w.heap.size w w':=⟨hw.hr.frame.os,hw.hr.frame.tape,hw.hr.frame.output,hw.hr.frame.size,fun k hk=>hw.hr.frame.block k hk id⟩;have hlen:=hp2.length;refine⟨hw.df,(if h:us'.toArray.size=1 then us'.toArray[0]else .tuple us'.toArray),?_,?_⟩
  ·unfold results;rw[Array.mapM_eq_mapM_toList];simp only[Sem.run_bind,Sem.run_map];rw[hrun _ (fun t=>rfl)];rfl
  ·refine⟨_,_,O,h3,hbel,?_⟩;cases ps with
   | nil=>
     simp only[RelPL]at hp2;subst hp2;simp only[eJ,RelP];exact⟨[],Tw,RelPL.nil⟩
   | cons p ps=>
     cases ps with
     | nil=>
       simp only[RelPL]at hp2;obtain⟨u,vs',rfl,h5,rfl⟩:=hp2;simpa[eJ]using h5
     | cons p2 ps=>
       simp only[eJ,RelP];refine⟨us',?_,hp2⟩;rw[dif_neg (by simp at hlen ⊢; omega)]
 cases ex with
 |normal=>obtain⟨vs,ps,h1,h2,h3⟩:=hq;exact fin vs ps h1 h2 h3
 |ret=>obtain⟨vs,ps,h1,h2,h3⟩:=hq;exact fin vs ps h1 h2 h3
 |_=>exact hq.elim
end
end Go.Proofs.YtoplpepiabedhaaGreatDoor
