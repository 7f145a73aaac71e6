/- Lemmas. No condition. -/
import Derived.Test.YthicoeegbdboeaaGreatDoorRows
import Derived.WalkKit
import Derived.WalkSpells
import Derived.WalkLawsBesides
import Derived.Deep.QuietTactic
import Derived.BigQuiet
import Derived.Deep.Draws
import Derived.Lib.Hide
import Derived.Maps.AppendAt
import Derived.RegionTactic
import Derived.Deep.RegionLaw
import Derived.Orders
import Derived.Deep.MidRow
set_option maxRecDepth 100000
set_option maxHeartbeats 4000000
open Go.RowKit Go.Proofs.Tryz
open Option renaming some→WB,none→WC
open Bool renaming true→YK,false→YL
namespace Go.Proofs.YthicoeegbdboeaaGreatDoor
theorem aal:type_of% @underlying22:=@underlying22
theorem aam:type_of% @underlying9:=@underlying9
theorem aan:type_of% @underlying3:=@underlying3
theorem aao:type_of% @underlying39:=@underlying39
theorem aap:type_of% @underlying88:=@underlying88
theorem aaq:type_of% @underlying80:=@underlying80
theorem aar:type_of% @underlying95:=@underlying95
theorem aas:type_of% @underlying38:=@underlying38
theorem aat:type_of% @underlying82:=@underlying82
theorem aau:type_of% @underlying5:=@underlying5
theorem aav:type_of% @underlying178:=@underlying178
theorem aaw:type_of% @underlying242:=@underlying242
theorem aax:type_of% @underlying85:=@underlying85
theorem aay:type_of% @underlying34:=@underlying34
theorem aaz:type_of% @underlying255:=@underlying255
theorem aaA:type_of% @underlying111:=@underlying111
theorem aaB:type_of% @underlying113:=@underlying113
theorem aaC:type_of% @underlying115:=@underlying115
theorem aaD:type_of% @underlying86:=@underlying86
theorem aaE:type_of% @underlying268:=@underlying268
theorem aaF:type_of% @underlying84:=@underlying84
theorem aaG:type_of% @underlying43:=@underlying43
theorem aaH:type_of% @underlying32:=@underlying32
theorem aaI:type_of% @underlying44:=@underlying44
theorem aaJ:type_of% @underlying164:=@underlying164
abbrev Y4:=Array Edge
abbrev YX:=Option Tmp
abbrev YT:=Array Value
abbrev YO:=Option Bool
abbrev e7:=List Value
abbrev ew:=Nat->Prop
abbrev er:=ByteArray
abbrev Zw:=List Oper
abbrev YZ:=Array Oper
abbrev hC:=List er
abbrev ee:=List Nat
abbrev cP:=List Int
abbrev vm:=List cP
variable{p:Prop}{k size n off N id sz o bytes:Nat}{w:World}{e t s T:TypeId}{xs:Array Operand}{P:Program}{a:Act}{b:Bool}{c x y:Code}{us:e7}{u z:Value}{α:Type}{R:ew}{j i il ih:Int}{kk kl kh:IntKind}{bn:YO}{f:FuncId}
theorem ah:type_of% @congrArg:=@congrArg
theorem ak:type_of% @List.getElem_mem:=@List.getElem_mem
theorem aG:type_of% @List.take_of_length_le:=@List.take_of_length_le
theorem aJ:type_of% @Bool.and_eq_true:=@Bool.and_eq_true
theorem bN:type_of% @Nat.eq_of_beq_eq_true:=@Nat.eq_of_beq_eq_true
theorem ed:type_of% @List.map_cons:=@List.map_cons
theorem sh:type_of% @Nat.zero_le:=@Nat.zero_le
theorem AI:type_of% @List.take_succ_eq_append_getElem:=@List.take_succ_eq_append_getElem
theorem AS:type_of% @if_neg:=@if_neg
theorem AT:type_of% @List.getElem?_eq_getElem:=@List.getElem?_eq_getElem
theorem By:type_of% @List.mem_cons:=@List.mem_cons
theorem BY:type_of% @Nat.le_refl:=@Nat.le_refl
theorem Hb:type_of% @List.length_append:=@List.length_append
theorem IN:type_of% @List.all_eq_true:=@List.all_eq_true
theorem IS:type_of% @List.length_map:=@List.length_map
theorem IT:type_of% @if_pos:=@if_pos
theorem OF:type_of% @Nat.le_trans:=@Nat.le_trans
theorem Vz:type_of% @List.length_take:=@List.length_take
theorem VG:type_of% @Int.eq_ofNat_of_zero_le:=@Int.eq_ofNat_of_zero_le
theorem VH:type_of% @List.mem_singleton:=@List.mem_singleton
theorem VI:type_of% @List.length_cons:=@List.length_cons
theorem VJ:type_of% @decide_eq_true_eq:=@decide_eq_true_eq
theorem VK:type_of% @decide_eq_true:=@decide_eq_true
theorem VL:type_of% @decide_eq_false:=@decide_eq_false
theorem VM:type_of% @Option.some.injEq:=@Option.some.injEq
theorem VN:type_of% @List.length_set:=@List.length_set
theorem VO:type_of% @List.getD_eq_getElem?_getD:=@List.getD_eq_getElem?_getD
theorem VP:type_of% @Array.getElem?_eq_some_iff:=@Array.getElem?_eq_some_iff
theorem VR:type_of% @List.getElem?_eq_some_iff:=@List.getElem?_eq_some_iff
theorem VS:type_of% @List.mem_map:=@List.mem_map
theorem VT:type_of% @Eq.trans:=@Eq.trans
theorem VU:type_of% @List.mem_filter:=@List.mem_filter
theorem VV:type_of% @List.length_singleton:=@List.length_singleton
theorem VW:type_of% @Nat.lt_of_lt_of_le:=@Nat.lt_of_lt_of_le
theorem VX:type_of% @List.mem_cons_of_mem:=@List.mem_cons_of_mem
theorem VY:type_of% @Nat.mul_one:=@Nat.mul_one
theorem VZ:type_of% @Int.natAbs_natCast:=@Int.natAbs_natCast
theorem V0:type_of% @Bool.eq_iff_iff:=@Bool.eq_iff_iff
theorem V1:type_of% @List.drop_eq_getElem_cons:=@List.drop_eq_getElem_cons
theorem V2:type_of% @List.getElem?_take:=@List.getElem?_take
theorem V3:type_of% @Nat.lt_succ_iff_lt_or_eq:=@Nat.lt_succ_iff_lt_or_eq
theorem V4:type_of% @Option.isSome_iff_exists:=@Option.isSome_iff_exists
theorem V5:type_of% @Classical.byContradiction:=@Classical.byContradiction
theorem V6:type_of% @List.mem_flatMap:=@List.mem_flatMap
theorem V7:type_of% @Nat.le_of_ble_eq_true:=@Nat.le_of_ble_eq_true
theorem V8:type_of% @Bool.or_eq_false_iff:=@Bool.or_eq_false_iff
theorem V9:type_of% @List.map_congr_left:=@List.map_congr_left
theorem Wc:type_of% @List.flatMap_cons:=@List.flatMap_cons
theorem Wd:type_of% @List.map_nil:=@List.map_nil
theorem We:type_of% @List.mem_append:=@List.mem_append
theorem Wf:type_of% @List.map_append:=@List.map_append
theorem Wg:type_of% @Array.length_toList:=@Array.length_toList
theorem Wh:type_of% @Int.toNat_natCast:=@Int.toNat_natCast
theorem Wi:type_of% @List.mem_range:=@List.mem_range
theorem Wj:type_of% @Bool.false_eq_true:=@Bool.false_eq_true
theorem Wl:type_of% @List.eq_nil_of_length_eq_zero:=@List.eq_nil_of_length_eq_zero
theorem Wm:type_of% @Nat.zero_add:=@Nat.zero_add
theorem Wn:type_of% @Nat.mul_le_mul_left:=@Nat.mul_le_mul_left
theorem Wo:type_of% @cond_false:=@cond_false
theorem Wp:type_of% @List.map_set:=@List.map_set
theorem Wq:type_of% @Nat.mul_comm:=@Nat.mul_comm
theorem Wr:type_of% @Bool.or_eq_true:=@Bool.or_eq_true
theorem Ws:type_of% @decide_eq_true_iff:=@decide_eq_true_iff
theorem Wt:type_of% @Nat.pow_succ:=@Nat.pow_succ
theorem Wu:type_of% @List.cons_append:=@List.cons_append
theorem Wv:type_of% @List.any_eq_true:=@List.any_eq_true
theorem Ww:type_of% @List.length_pos_iff:=@List.length_pos_iff
theorem Wx:type_of% @List.length_filter_le:=@List.length_filter_le
theorem Wy:type_of% @List.drop_of_length_le:=@List.drop_of_length_le
theorem Wz:type_of% @List.pairwise_iff_getElem:=@List.pairwise_iff_getElem
theorem WE:type_of% @beq_self_eq_true:=@beq_self_eq_true
theorem WG:type_of% @Nat.eq_zero_or_pos:=@Nat.eq_zero_or_pos
theorem WH:type_of% @List.Perm.refl:=@List.Perm.refl
theorem WI:type_of% @Nat.mod_lt:=@Nat.mod_lt
theorem WJ:type_of% @Nat.pow_le_pow_right:=@Nat.pow_le_pow_right
theorem WK:type_of% @Nat.mul_le_mul_right:=@Nat.mul_le_mul_right
theorem WL:type_of% @List.filter_cons:=@List.filter_cons
theorem WM:type_of% @List.getElem?_drop:=@List.getElem?_drop
theorem WN:type_of% @List.filter_sublist:=@List.filter_sublist
theorem WO:type_of% @List.getElem?_of_mem:=@List.getElem?_of_mem
theorem WQ:type_of% @List.size_toArray:=@List.size_toArray
theorem WR:type_of% @List.mem_iff_getElem:=@List.mem_iff_getElem
theorem WT:type_of% @List.getElem?_eq_none:=@List.getElem?_eq_none
theorem WU:type_of% @List.ext_getElem:=@List.ext_getElem
theorem WV:type_of% @List.take_append_drop:=@List.take_append_drop
theorem WW:type_of% @List.nodup_cons:=@List.nodup_cons
theorem WX:type_of% @List.pairwise_cons:=@List.pairwise_cons
theorem WY:type_of% @List.Pairwise.sublist:=@List.Pairwise.sublist
theorem WZ:type_of% @List.nil_append:=@List.nil_append
theorem W5:type_of% @List.foldl_cons:=@List.foldl_cons
theorem W6:type_of% @Nat.min_eq_left:=@Nat.min_eq_left
theorem W7:type_of% @List.append_nil:=@List.append_nil
theorem W8:type_of% @List.mem_of_getElem?:=@List.mem_of_getElem?
theorem W9:type_of% @Nat.not_lt_zero:=@Nat.not_lt_zero
theorem Xa:type_of% @Nat.mul_le_mul:=@Nat.mul_le_mul
theorem Xb:type_of% @List.length_drop:=@List.length_drop
theorem Xc:type_of% @List.filter_append:=@List.filter_append
theorem Xd:type_of% @List.cons.injEq:=@List.cons.injEq
theorem Xe:type_of% @cond_true:=@cond_true
theorem Xf:type_of% @decide_eq_false_iff_not:=@decide_eq_false_iff_not
theorem Xg:type_of% @Option.getD_some:=@Option.getD_some
theorem Xh:type_of% @of_decide_eq_true:=@of_decide_eq_true
theorem Xi:type_of% @List.all_cons:=@List.all_cons
theorem Xj:type_of% @List.mem_cons_self:=@List.mem_cons_self
theorem Xk:type_of% @beq_iff_eq:=@beq_iff_eq
theorem Xl:type_of% @Option.some.inj:=@Option.some.inj
theorem Xm:type_of% @List.mem_or_eq_of_mem_set:=@List.mem_or_eq_of_mem_set
theorem Xn:type_of% @List.flatMap_append:=@List.flatMap_append
theorem Xo:type_of% @beq_eq_false_iff_ne:=@beq_eq_false_iff_ne
theorem Xp:type_of% @List.getElem_of_mem:=@List.getElem_of_mem
theorem Xq:type_of% @Array.getElem?_setIfInBounds_ne:=@Array.getElem?_setIfInBounds_ne
theorem Xr:type_of% @Nat.mul_assoc:=@Nat.mul_assoc
theorem Xs:type_of% @List.getElem?_set_ne:=@List.getElem?_set_ne
theorem Xt:type_of% @List.sum_cons:=@List.sum_cons
theorem Xu:type_of% @Bool.or_false:=@Bool.or_false
theorem Xv:type_of% @List.not_mem_nil:=@List.not_mem_nil
theorem Xw:type_of% @List.getElem?_map:=@List.getElem?_map
theorem Xx:type_of% @of_decide_eq_false:=@of_decide_eq_false
theorem Xy:type_of% @List.length_replicate:=@List.length_replicate
theorem Xz:type_of% @Nat.le_of_eq:=@Nat.le_of_eq
theorem XA:type_of% @Nat.add_comm:=@Nat.add_comm
theorem XB:type_of% @eq_false_of_ne_true:=@eq_false_of_ne_true
theorem XC:type_of% @List.range_succ:=@List.range_succ
theorem XD:type_of% @List.take_length:=@List.take_length
theorem XE:type_of% @Nat.lt_or_ge:=@Nat.lt_or_ge
theorem XF:type_of% @Bool.not_eq_true':=@Bool.not_eq_true'
theorem XG:type_of% @Nat.add_zero:=@Nat.add_zero
theorem XH:type_of% @List.idxOf_lt_length_of_mem:=@List.idxOf_lt_length_of_mem
theorem XI:type_of% @Array.getD_eq_getD_getElem?:=@Array.getD_eq_getD_getElem?
theorem XK:type_of% @Int.natCast_mul:=@Int.natCast_mul
theorem XL:type_of% @List.nodup_append:=@List.nodup_append
theorem XN:type_of% @List.foldl_append:=@List.foldl_append
theorem XO:type_of% @List.append_assoc:=@List.append_assoc
theorem XP:type_of% @Nat.mul_add:=@Nat.mul_add
theorem XQ:type_of% @List.mem_take_iff_getElem:=@List.mem_take_iff_getElem
theorem XR:type_of% @Array.getElem?_setIfInBounds:=@Array.getElem?_setIfInBounds
theorem XS:type_of% @List.length_nil:=@List.length_nil
theorem XT:type_of% @List.findIdx?_eq_some_iff_getElem:=@List.findIdx?_eq_some_iff_getElem
theorem XU:type_of% @List.set_eq_take_append_cons_drop:=@List.set_eq_take_append_cons_drop
theorem XV:type_of% @Bool.and_true:=@Bool.and_true
theorem XW:type_of% @Nat.blt_eq:=@Nat.blt_eq
theorem XX:type_of% @List.map_map:=@List.map_map
theorem XY:type_of% @List.length_eq_zero_iff:=@List.length_eq_zero_iff
theorem XZ:type_of% @BitVec.eq_of_getLsbD_eq:=@BitVec.eq_of_getLsbD_eq
theorem X0:type_of% @List.mem_of_mem_take:=@List.mem_of_mem_take
theorem X1:type_of% @Nat.pos_of_ne_zero:=@Nat.pos_of_ne_zero
theorem X2:type_of% @List.zip_cons_cons:=@List.zip_cons_cons
theorem X3:type_of% @Option.map_eq_some_iff:=@Option.map_eq_some_iff
theorem X4:type_of% @List.getElem_map:=@List.getElem_map
theorem X5:type_of% @Nat.mod_eq_of_lt:=@Nat.mod_eq_of_lt
theorem X6:type_of% @List.all_eq_false:=@List.all_eq_false
theorem X7:type_of% @Nat.div_lt_iff_lt_mul:=@Nat.div_lt_iff_lt_mul
theorem X8:type_of% @ByteArray.size_append:=@ByteArray.size_append
theorem X9:type_of% @Nat.le_div_iff_mul_le:=@Nat.le_div_iff_mul_le
theorem Ya:type_of% @Bool.and_false:=@Bool.and_false
theorem Yb:type_of% @Bool.true_and:=@Bool.true_and
theorem Yc:type_of% @List.take_zero:=@List.take_zero
theorem Yd:type_of% @if_false:=@if_false
theorem Ye:type_of% @Rat.intCast_mul:=@Rat.intCast_mul
theorem Yf:type_of% @Option.map_some:=@Option.map_some
theorem Yg:type_of% @Nat.div_eq_of_lt:=@Nat.div_eq_of_lt
theorem Yh:type_of% @List.mem_of_mem_drop:=@List.mem_of_mem_drop
theorem Yi:type_of% @List.getElem?_replicate:=@List.getElem?_replicate
theorem Yj:type_of% @List.map_toArray:=@List.map_toArray
theorem Yk:type_of% @if_true:=@if_true
theorem Yl:type_of% @List.take_take:=@List.take_take
theorem Ym:type_of% @List.map_flatMap:=@List.map_flatMap
theorem Yn:type_of% @Nat.lt_of_le_of_lt:=@Nat.lt_of_le_of_lt
theorem Yo:type_of% @decide_false:=@decide_false
theorem Yp:type_of% @List.all_nil:=@List.all_nil
theorem Yq:type_of% @Bool.false_and:=@Bool.false_and
theorem Yr:type_of% @List.any_eq_false:=@List.any_eq_false
theorem Ys:type_of% @List.ext_getElem?:=@List.ext_getElem?
theorem Yt:type_of% @BitVec.getLsbD_or:=@BitVec.getLsbD_or
theorem Yu:type_of% @UInt8.toNat_inj:=@UInt8.toNat_inj
theorem Yv:type_of% @Nat.div_add_mod:=@Nat.div_add_mod
theorem Yw:type_of% @List.filter_eq_self:=@List.filter_eq_self
theorem Yx:type_of% @List.take_succ_cons:=@List.take_succ_cons
theorem Yy:type_of% @Nat.le_of_lt:=@Nat.le_of_lt
theorem Yz:type_of% @Nat.le_add_right:=@Nat.le_add_right
theorem YA:type_of% @List.flatMap_map:=@List.flatMap_map
theorem YB:type_of% @List.getElem_set:=@List.getElem_set
theorem YC:type_of% @Nat.one_le_pow:=@Nat.one_le_pow
theorem YD:type_of% @Int.natAbs_mul:=@Int.natAbs_mul
theorem YE:type_of% @List.singleton_append:=@List.singleton_append
theorem YF:type_of% @BitVec.getLsbD_twoPow:=@BitVec.getLsbD_twoPow
theorem YG:type_of% @Array.getElem?_modify:=@Array.getElem?_modify
theorem YH:type_of% @Nat.ble_eq_true_of_le:=@Nat.ble_eq_true_of_le
theorem YI:type_of% @List.getElem?_set:=@List.getElem?_set
theorem YJ:type_of% @decide_true:=@decide_true
theorem YN:type_of% @Array.toList_push:=@Array.toList_push
theorem YP:type_of% @Array.toArray_toList:=@Array.toArray_toList
theorem YU:type_of% @Nat.lt_trans:=@Nat.lt_trans
theorem YV:type_of% @List.pairwise_map:=@List.pairwise_map
theorem YW:type_of% @List.filter_congr:=@List.filter_congr
theorem YY:type_of% @Bool.or_true:=@Bool.or_true
theorem Y0:type_of% @or_false:=@or_false
theorem Y1:type_of% @Nat.mul_pos:=@Nat.mul_pos
theorem Y5:type_of% @List.mem_append_left:=@List.mem_append_left
theorem Y6:type_of% @List.cons.inj:=@List.cons.inj
theorem Y7:type_of% @decide_eq_decide:=@decide_eq_decide
theorem Y8:type_of% @List.map_fst_zip:=@List.map_fst_zip
theorem Y9:type_of% @Array.toList_map:=@Array.toList_map
theorem Za:type_of% @Nat.succ_mul:=@Nat.succ_mul
theorem Zb:type_of% @Nat.mul_zero:=@Nat.mul_zero
theorem Zc:type_of% @Nat.div_le_self:=@Nat.div_le_self
theorem Zd:type_of% @List.map_take:=@List.map_take
theorem Ze:type_of% @List.map_id:=@List.map_id
theorem Zg:type_of% @Nat.zero_mul:=@Nat.zero_mul
theorem Zh:type_of% @Nat.beq_refl:=@Nat.beq_refl
theorem Zi(h:p:=by omega):p:=h
theorem Zj(h:p:=by kernel_rfl):p:=h
theorem Zk(h:p:=by decide):p:=h
theorem Zl(h:p:=by assumption):p:=h
theorem Zm(h:p:=by simp):p:=h
theorem Zn(h:p:=by simp;omega):p:=h
theorem Zo(h:p:=by simp only;omega):p:=h
theorem Zp:True:=True.intro
theorem O{α:Sort _}{a:α}:a=a:=rfl
section
def Row(w:World)(R:ew)(A:Option Addr)(xs:e7):Prop:=
 xs≠[]->∃b off:Nat,A=WB ⟨b,off,WC⟩/\R b/\b<w.heap.size/\∀j,j<xs.length->w.cell? ⟨b,off+j,WC⟩=xs[j]?
abbrev strs(l:hC):e7:=l.map Value.string
def Any(_:Nat):Prop:=True
section
variable {w w':World}{R R':ew}{A:Option Addr}{xs:e7}
theorem Row.nil:Row w R A []:=λh=>absurd O h
theorem Row.at_(h:Row w R A xs)(q:k<xs.length):
  ∃b off:Nat,A=WB ⟨b,off,WC⟩/\R b/\b<w.heap.size/\∀j,j<xs.length->w.cell? ⟨b,off+j,WC⟩=xs[j]? :=
 h (by rintro rfl;simp at q)
theorem Row.Qh{l:hC}(h:Row w R A (strs l)){k:Nat}(q:k<l.length):
  ∃b off:Nat,A=WB ⟨b,off,WC⟩/\b<w.heap.size/\w.cell? ⟨b,off+k,WC⟩=WB (.string l[k]):=by
 obtain⟨b,off,e,_,hb,hc⟩:=h.at_ (k:=k) (by simpa using q);exact⟨b,off,e,hb,by rw[hc k (by simpa using q)];simp[q]⟩
end
theorem yT{base:Nat}{v:Value}{xs:e7}(h:w.ownsRow base e size v n xs):∃A c,v= .slice A n c/\n<=c/\c<=maxLen:=by
 rcases h.2 with⟨rfl,rfl⟩|⟨g,cap,cur,rfl,_,_,hnc,hm,_⟩
 .grind
 exact⟨_,cap,O,hnc,hm⟩
theorem r6{W:World}{o:Oper}{K:Act->World->Prop}{Q:Exit->Act->World->Prop}(s x:Operand)(t:TypeId)
  (ho:o.op= .call { callee:= .builtin .append,args:= #[s,x],argTypes:= #[t,t] })
  (base:Nat) (e:TypeId) (z:Value) (size bytes:Nat) (ht:P.underlying t=WB (.slice e)) (hinfo:(P.info? e).map (λi=>(i.zero,i.size,i.bytes))=WB (WB z,size,bytes))
  (hzs:z.cells.size=size) (hsz:0<size) (hby:bytes<=1000)
  (v:Value) (n m c:Nat) (A:Option Addr) (xs news:e7) (hs:a.eval s=v) (hx:a.eval x= .slice A m c) (hown:W.ownsRow base e size v n xs) {R:ew} (hr:Row W R A news)
  (hl:news.length=m*size) (h1:∀u∈news,u.oneCell'=YK) (hb:n+m<=1000000000) (hbase:base<=W.heap.size)
  (h:∀A' c' w',w'.ownsRow base e size (.slice A' (n+m) c') (n+m) (xs++news)->W.grownBy w' v.ownBlock->((Value.slice A' (n+m) c').ownBlock=v.ownBlock\/∃g,(Value.slice A' (n+m) c').ownBlock=WB g/\W.heap.size<=g)->K (a.put o.dst (.slice A' (n+m) c')) w'):
  o.wp P a W K Q:=by
 obtain⟨i,hi,hz,hsize,hbytes⟩:=info_parts hinfo;have B:(n+m)*bytes<=140737488355328:=OF (Xa hb hby) Zk;unfold Oper.wp execOp;cases A with
 | none=>
   have D:news=[]:=by
    rcases Classical.em (news=[])with h0|h0
    .exact h0
    obtain⟨b,off,hh,_⟩:=hr h0;cases hh
   subst D;have G:m=0:=by
    rcases WG m with h0|h0
    .exact h0
    have:=Y1 h0 hsz;simp at hl;omega
   subst G;have q:(Builtin.append_ #[t,t] o.type #[v,.slice WC 0 c]).run P W= .ok v W:=by
    rcases hown.2 with⟨rfl,rfl⟩|⟨g,cap,cur,rfl,_,_,hnc,_⟩
    .simp[Builtin.append_,run_underlying ht,sizeOf,typeInfo,hi,Builtin.lenOf,Builtin.firstCells]
    simp[Builtin.append_,run_underlying ht,sizeOf,typeInfo,hi,Builtin.lenOf,Builtin.firstCells,hnc,storeCells]
   simp only[ho,resolve,invoke,builtin,Sem.run_bind,Sem.run_pure,Result.andThen_ok,Yj,ed,Wd,hs,hx,q];obtain⟨A',c',rfl,_,_⟩:=yT hown;exact h A' c' W (by simpa using hown) (World.grownBy.refl _ _) (.inl O)
 | some ad=>
   have r:∀j u,news[j]? =WB u->W.cell? (ad.add j)=WB u:=by
    intro j u hu;have E:j<news.length:=(VR.1 hu).1;obtain⟨b,off,hh,_,_,hc⟩:=hr (by rintro rfl;simp at E);cases hh;rw[Addr.add_lit,hc j E];exact hu
   obtain⟨v',w',q,h2,h3,_,h5⟩:=run_append_own_at (P:=P) W base t o.type e i z size bytes ht hi hz hsize hbytes hzs hsz v n xs hown ad m c news
    hl r h1 (by simp only[maxLen];omega) B hbase
   simp only[ho,resolve,invoke,builtin,Sem.run_bind,Sem.run_pure,Result.andThen_ok,Yj,ed,Wd,hs,hx,q];obtain⟨A',c',rfl,_,_⟩:=yT h2;refine h A' c' w' h2 h3 ?_;rcases h5 with h5|h5
   .exact .inl h5
   exact .inr ⟨_,h5,BY _⟩
theorem eQ{k:IntKind}{a b:Int}(h:a=b):Ending.returned (.int k a)= .returned (.int k b):=by rw[h]
end
namespace Jn
structure Rw where
 v:hC
 w:Int
abbrev om:=List Rw
abbrev Gk:=List om
theorem GV{a b:er}(h:a.data.toList=b.data.toList):a=b:=ByteArray.ext (Array.ext' h)
def Ey(v:hC):List (List UInt8):=v.map (·.data.toList)
theorem DI:∀{a b:hC},Ey a=Ey b->a=b
 |[],[],_=>rfl
 |[],_::_,h=>by simp[Ey]at h
 |_::_,[],h=>by simp[Ey]at h
 | x::a,y::b,h=>by
   rw[Ey,ed,Ey,ed,Xd]at h;rw[GV h.1,DI (a:=a) (b:=b) h.2]
def cR(a b:hC):Bool:=decide (Ey a<Ey b)
theorem yN(a:hC):cR a a=YL:=VL (List.lt_irrefl _)
theorem Bd{a b c:hC}(q:cR a b=YK)(r:cR b c=YK):cR a c=YK:=
 VK (List.lt_trans (Xh q) (Xh r))
theorem IM{a b:hC}(q:cR a b=YL)(r:cR b a=YL):a=b:=
 DI (List.le_antisymm (List.not_lt.1 (Xx r)) (List.not_lt.1 (Xx q)))
def fR(x:Rw):om->om
 |[]=>[x]
 |y::l=>if cR y.v x.v=YK then y::fR x l else if y.v=x.v then⟨y.v,y.w+x.w⟩::l else x::y::l
def qZ(l:om):om:=(l.foldl (λout x=>fR x out) []).filter λx=>x.w !=0
def QR(l:om):Prop:=l.Pairwise λa b=>cR a.v b.v=YK
theorem qm{x:Rw}:∀{l:om}{y:Rw},y∈fR x l->y.v=x.v\/∃z∈l,y.v=z.v
 |[],y,h=>by rw[fR,VH]at h;exact .inl (by rw[h])
 | z::l,y,h=>by
   rw[fR]at h;split at h
   .rcases By.1 h with rfl|h
    .exact .inr ⟨_,Zm,O⟩
    rcases qm h with e|⟨z',hz,e⟩
    .exact .inl e
    exact .inr ⟨z',by simp[hz],e⟩
   grind
theorem C8{x:Rw}:∀{l:om},QR l->QR (fR x l)
 |[],_=>by rw[fR];exact List.pairwise_singleton _ _
 | z::l,h=>by
   have h':=WX.1 h;rw[fR];split
   .rename_i hz;refine WX.2 ⟨λy hy=>?_,C8 h'.2⟩;rcases qm hy with e|⟨y',hy',e⟩
    .rw[e];exact hz
    rw[e];exact h'.1 y' hy'
   rename_i hz;split
   .exact WX.2 ⟨λy hy=>h'.1 y hy,h'.2⟩
   rename_i hne;have q:cR x.v z.v=YK:=by grind[cR,IM]
   refine WX.2 ⟨λy hy=>?_,h⟩;rcases By.1 hy with rfl|hy
   .exact q
   exact Bd q (h'.1 y hy)
def k6(l:om):Int:=(l.map (·.w)).sum
theorem C0(x:Rw):∀l:om,k6 (fR x l)=k6 l+x.w
 |[]=>by simp[fR,k6]
 | z::l=>by
   rw[fR];split
   .have:=C0 x l;simp only[k6,ed,Xt]at *; omega
   grind[k6]
theorem DM{x:Rw}(q:0<x.w):∀{l:om},(∀y∈l,0<y.w)->∀y∈fR x l,0<y.w
 |[],_,y,hy=>by rw[fR,VH]at hy;rw[hy];exact q
 | z::l,h,y,hy=>by
   have hz:=h z Zm;have hl:∀y∈l,0<y.w:=λy hy=>h y (by simp[hy])
   rw[fR]at hy;split at hy
   .rcases By.1 hy with rfl|hy
    .exact hz
    exact DM q hl y hy
   grind
theorem uY(x:Rw):∀l:om,(fR x l).length<=l.length+1
 |[]=>by simp[fR]
 | z::l=>by
   rw[fR];split
   .have:=uY x l;simp only[VI];omega
   split<;>simp
structure SortOk(l out:om):Prop where
 asc:QR out
 val:∀y∈out,∃z∈l,y.v=z.v
 tot:k6 out=k6 l
 pos:(∀z∈l,0<z.w)->∀y∈out,0<y.w
 len:out.length<=l.length
theorem Hu:∀(l pre out:om),SortOk pre out->SortOk (pre++l) (l.foldl (λout x=>fR x out) out)
 |[],pre,out,h=>by simpa using h
 | x::l,pre,out,h=>by
   have:=Hu l (pre++[x]) (fR x out) ⟨C8 h.asc,λy hy=>by
    rcases qm hy with e|⟨z,hz,e⟩
    .exact⟨x,Zm,e⟩
    .obtain⟨z',hz',e'⟩:=h.val z hz;exact⟨z',by simp[hz'],e.trans e'⟩,by rw[C0,h.tot];simp[k6],λq=>DM (q x Zm) (h.pos λz hz=>q z (by simp[hz])),by
    have r:=uY x out;have B:=h.len;simp only[Hb,VV];omega⟩
   rw[W5,show pre++x::l=(pre++[x])++l by simp];exact this
theorem pZ{l:om}(r:∀z∈l,0<z.w):SortOk l (qZ l):=by
 have h:=Hu l [] [] ⟨List.Pairwise.nil,λy hy=>absurd hy Zm,O,λ_ y hy=>absurd hy Zm,BY _⟩;rw[WZ]at h;have q:=h.pos r;have e:qZ l=l.foldl (λout x=>fR x out) []:=by grind[qZ,Yw]
 rw[e];exact h
theorem Hc:∀{l:om},(∀y∈l,0<y.w)->∀y∈l,y.w<=k6 l
 | z::l,h,y,hy=>by
   have hl:∀y∈l,0<y.w:=λy hy=>h y (by simp[hy])
   have q:0<=k6 l:=by
    clear h hy;induction l with
    |nil=>simp[k6]
    | cons a l ih=>
      have:=ih λy hy=>hl y (by simp[hy])
      have:=hl a Zm;simp only[k6,ed,Xt]at *; omega
   have r:=h z Zm;have e:k6 (z::l)=z.w+k6 l:=by simp[k6]
   rcases By.1 hy with rfl|hy
   .omega
   have:=Hc hl y hy;omega
end Jn
section
inductive PV where
 |int (k:IntKind) (n:Int)
 |bool (b:Bool)
 |str (s:er)
 |agg (cs:List PV)
 |bS (cs:List PV)
 |sl (nil:YO) (n:Nat) (cs:List PV)
 |rp (cs:List PV) (off:Nat)
 |fn (f:Fn) (first captured:List PV)
 |nilfn
 |nilptr
 |nilmap
 |iface (t:TypeId) (v:PV)
 |niliface
 |mp (ks vs:List PV)
 |any
 deriving Inhabited
abbrev ZU(i:Int):PV:=.int .i64 i
abbrev na:=List PV
def u6(w:World)(R:ew)(b off:Nat)(us:e7):Prop:=
 R b/\∀j,j<us.length->w.cell? ⟨b,off+j,WC⟩=us[j]?
def dY(es:List MapEntry)(clock:Nat):Prop:=(es.map (·.born)).Nodup/\∀e∈es,e.born<clock
mutual
def ZH(w:World)(R:ew):PV->Value->Prop
 | .int k n,u=>u= .int k n
 | .bool b,u=>u= .bool b
 | .str s,u=>u= .string s
 | .agg cs,u=>∃us:e7,u= .agg us.toArray/\ZG w R cs us
 | .bS cs,u=>∃us:e7,u= .tuple us.toArray/\ZG w R cs us
 | .sl nil n cs,u=>∃A c,u= .slice A n c/\n<=c/\c<=maxLen/\(∀b,nil=WB b->b=A.isNone)/\(nil=WB YK->c=0)/\
   (cs≠[]->∃b off us,A=WB ⟨b,off,WC⟩/\ZG w R cs us/\u6 w R b off us)
 | .rp cs o,u=>∃b off us,u= .pointer (WB ⟨b,off+o,WC⟩)/\ZG w R cs us/\u6 w R b off us
 | .fn f fs cs,u=>∃us vs:e7,u= .func f us.toArray vs.toArray/\ZG w R fs us/\ZG w R cs vs
 | .nilfn,u=>u= .nilFunc
 | .nilptr,u=>u= .pointer WC
 | .nilmap,u=>u= .map WC
 | .iface t v,u=>∃x,u= .iface t x/\ZH w R v x
 | .niliface,u=>u= .nilIface
 | .mp ks vs,u=>∃b,u= .map (WB b)/\R b/\∃(es:Array MapEntry)(clock:Nat)(l:List MapEntry),w.heap[b]? =WB (.map es clock)/\ZG w R ks (l.map (·.key))/\ZG w R vs (l.map (·.val))/\dY es.toList clock/\l.Perm es.toList
 | .any,_=>True
def ZG(w:World)(R:ew):na->e7->Prop
 |[],us=>us=[]
 |c::cs,us=>∃u vs,us=u::vs/\ZH w R c u/\ZG w R cs vs
end
section
variable {w w':World}{R R':ew}
theorem u6.mono(q:∀b,R b->R' b/\w'.heap[b]? =w.heap[b]?){b:Nat}(h:u6 w R b off us):u6 w' R' b off us:=
 ⟨(q b h.1).1,λj hj=>(World.cell?_of_block (w:=w) (a:=⟨b,off+j,WC⟩) (q b h.1).2).trans (h.2 j hj)⟩
mutual
theorem ZH.mono(q:∀b,R b->R' b/\w'.heap[b]? =w.heap[b]?):∀(p:PV)(u:Value),ZH w R p u->ZH w' R' p u
 | .int _ _,_,h=>h
 | .bool _,_,h=>h
 | .str _,_,h=>h
 | .agg cs,_,h=>by
   simp only[ZH]at h ⊢;obtain⟨us,e,h⟩:=h;exact⟨us,e,ZG.mono q cs us h⟩
 | .bS cs,_,h=>by
   simp only[ZH]at h ⊢;obtain⟨us,e,h⟩:=h;exact⟨us,e,ZG.mono q cs us h⟩
 | .sl nil n cs,_,h=>by
   simp only[ZH]at h ⊢;obtain⟨A,c,e,h1,h2,h3,h4,h5⟩:=h;refine⟨A,c,e,h1,h2,h3,h4,λr=>?_⟩;obtain⟨b,off,us,e,hl,hs⟩:=h5 r;exact⟨b,off,us,e,ZG.mono q cs us hl,hs.mono q⟩
 | .rp cs o,_,h=>by
   simp only[ZH]at h ⊢;obtain⟨b,off,us,e,hl,hs⟩:=h;exact⟨b,off,us,e,ZG.mono q cs us hl,hs.mono q⟩
 | .fn f fs cs,_,h=>by
   simp only[ZH]at h ⊢;obtain⟨us,vs,e,h1,h2⟩:=h;exact⟨us,vs,e,ZG.mono q fs us h1,ZG.mono q cs vs h2⟩
 | .nilfn,_,h=>h
 | .nilptr,_,h=>h
 | .nilmap,_,h=>h
 | .iface t v,_,h=>by
   simp only[ZH]at h ⊢;obtain⟨x,e,h⟩:=h;exact⟨x,e,ZH.mono q v x h⟩
 | .niliface,_,h=>h
 | .mp ks vs,_,h=>by
   simp only[ZH]at h ⊢;obtain⟨b,e,hb,es,clock,l,h1,h2,h3,h4⟩:=h;exact⟨b,e,(q b hb).1,es,clock,l,(q b hb).2.trans h1,ZG.mono q ks _ h2,ZG.mono q vs _ h3,h4⟩
 | .any,_,_=>trivial
theorem ZG.mono(q:∀b,R b->R' b/\w'.heap[b]? =w.heap[b]?):∀(ps:na)(us:e7),ZG w R ps us->ZG w' R' ps us
 |[],_,h=>h
 | c::cs,_,h=>by
   simp only[ZG]at h ⊢;obtain⟨u,vs,e,h1,h2⟩:=h;exact⟨u,vs,e,ZH.mono q c u h1,ZG.mono q cs vs h2⟩
end
theorem ZG.length:∀{ps:na}{us:e7},ZG w R ps us->us.length=ps.length
 |[],_,h=>by simp only[ZG]at h;simp[h]
 | c::cs,_,h=>by
   simp only[ZG]at h;obtain⟨u,vs,rfl,_,h2⟩:=h;simp[ZG.length h2]
theorem ZG.get:∀{ps:na}{us:e7},ZG w R ps us->∀{i:Nat}{p:PV},ps[i]? =WB p->∃u,us[i]? =WB u/\ZH w R p u
 |[],_,_,i,p,hp=>by simp at hp
 | c::cs,_,h,i,p,hp=>by
   simp only[ZG]at h;obtain⟨u,vs,rfl,h1,h2⟩:=h;cases i with
   |zero=>simp at hp;subst hp;exact⟨u,Zm,h1⟩
   |succ i=>simp at hp;obtain⟨x,hx,hr⟩:=ZG.get h2 hp;exact⟨x,by simpa using hx,hr⟩
theorem ZG.nil:ZG w R [] []:=by simp[ZG]
theorem ZG.cons{p:PV}{ps:na}(h:ZH w R p u)(hs:ZG w R ps us):ZG w R (p::ps) (u::us):=by simp only[ZG];exact⟨u,us,O,h,hs⟩
theorem ZG.append:∀{ps qs:na}{us vs:e7},ZG w R ps us->ZG w R qs vs->ZG w R (ps++qs) (us++vs)
 |[],_,_,_,h,k=>by simp only[ZG]at h;subst h;simpa using k
 | c::cs,_,_,_,h,k=>by
   simp only[ZG]at h;obtain⟨u,xs,rfl,h1,h2⟩:=h;exact ZG.cons h1 (ZG.append h2 k)
theorem ZG.take:∀{ps:na}{us:e7}(n:Nat),ZG w R ps us->ZG w R (ps.take n) (us.take n)
 |[],_,n,h=>by simp only[ZG]at h;subst h;simpa using ZG.nil
 |c::cs,_,0,h=>by simpa using ZG.nil
 | c::cs,_,n+1,h=>by
   simp only[ZG]at h;obtain⟨u,xs,rfl,h1,h2⟩:=h;simpa using ZG.cons h1 (ZG.take n h2)
theorem ZG.drop:∀{ps:na}{us:e7}(n:Nat),ZG w R ps us->ZG w R (ps.drop n) (us.drop n)
 |[],_,n,h=>by simp only[ZG]at h;subst h;simpa using ZG.nil
 |c::cs,_,0,h=>by simpa using h
 | c::cs,_,n+1,h=>by
   simp only[ZG]at h;obtain⟨u,xs,rfl,h1,h2⟩:=h;simpa using ZG.drop n h2
theorem ZG.set:∀{ps:na}{us:e7}(i:Nat){p:PV}{u:Value},ZG w R ps us->ZH w R p u->ZG w R (ps.set i p) (us.set i u)
 |[],_,n,_,_,h,_=>by simp only[ZG]at h;subst h;simpa using ZG.nil
 |c::cs,_,0,_,_,h,k=>by grind[ZG]
 | c::cs,_,n+1,_,_,h,k=>by
   simp only[ZG]at h;obtain⟨u,xs,rfl,h1,h2⟩:=h;simpa using ZG.cons h1 (ZG.set n h2 k)
end
inductive V where
 |pv (p:PV)
 |ptr (id off:Nat)
 |bJ (id sz n:Nat)
 |tsl (id off n:Nat)
 |bz (id sz n:Nat)
 |map (id:Nat)
 |agg (cs:List V)
 |bS (cs:List V)
 |fn (f:Fn) (first captured:List V)
 deriving Inhabited
abbrev Zx:=List (Nat×V)
abbrev nR:=List V
abbrev Gm:=Nat->Option (Nat×Nat)
abbrev Av:=Nat->Bool
mutual
def Rel(w:World)(m:Gm)(av:Av)(R:ew):V->Value->Prop
 | .pv p,u=>ZH w R p u
 | .ptr id off,u=>av id=YL/\∀b N,m id=WB (b,N)->u= .pointer (WB ⟨b,off,WC⟩)
 | .bJ id sz n,u=>av id=YL/\∀b N,m id=WB (b,N)->∃c,u= .slice (WB ⟨b,0,WC⟩) n c/\n<=c/\c<=maxLen/\N=c*sz
 | .tsl id off n,u=>av id=YL/\∃A c,u= .slice A n c/\(0<n->∀b N,m id=WB (b,N)->A=WB ⟨b,off,WC⟩)
 | .bz id sz n,u=>av id=YL/\∃A c,u= .slice A n c/\n<=c/\c<=maxLen/\(n=0->A=WC/\c=0/\m id=WC)/\(0<n->∀b N,m id=WB (b,N)->A=WB ⟨b,0,WC⟩/\N=c*sz)
 | .map id,u=>av id=YL/\∀b N,m id=WB (b,N)->u= .map (WB b)
 | .agg cs,u=>∃us:e7,u= .agg us.toArray/\ZJ w m av R cs us
 | .bS cs,u=>∃us:e7,u= .tuple us.toArray/\ZJ w m av R cs us
 | .fn f fs cs,u=>∃us vs:e7,u= .func f us.toArray vs.toArray/\ZJ w m av R fs us/\ZJ w m av R cs vs
def ZJ(w:World)(m:Gm)(av:Av)(R:ew):nR->e7->Prop
 |[],us=>us=[]
 |c::cs,us=>∃u vs,us=u::vs/\Rel w m av R c u/\ZJ w m av R cs vs
end
theorem qx{a b:Option α}(h:∀x,a=WB x->b=WB x)(q:b=WC):a=WC:=by
 cases a with
 |none=>rfl
 |some x=>rw[h x O]at q;cases q
section
variable {w w':World}{R R':ew}{m m':Gm}{av av':Av}
mutual
theorem Rel.mono(B:∀b,R b->R' b/\w'.heap[b]? =w.heap[b]?)(q:∀id x,av id=YL->m' id=WB x->m id=WB x)(r:∀id,av id=YL->av' id=YL):
  ∀(p:V)(u:Value),Rel w m av R p u->Rel w' m' av' R' p u
 | .pv p,u,h=>by simp only[Rel]at h ⊢; exact h.mono B
 | .ptr id off,_,h=>by simp only[Rel]at h ⊢; exact⟨r id h.1,λb N e=>h.2 b N (q _ _ h.1 e)⟩
 | .bJ id sz n,_,h=>by simp only[Rel]at h ⊢; exact⟨r id h.1,λb N e=>h.2 b N (q _ _ h.1 e)⟩
 | .tsl id off n,_,h=>by grind[Rel]
 | .bz id sz n,_,h=>by
   simp only[Rel]at h ⊢;obtain⟨h0,A,c,e,h1,h2,h3,h4⟩:=h;exact⟨r id h0,A,c,e,h1,h2,λD=>⟨(h3 D).1,(h3 D).2.1,qx (λx=>q id x h0) (h3 D).2.2⟩,λhp b N e=>h4 hp b N (q _ _ h0 e)⟩
 | .map id,_,h=>by simp only[Rel]at h ⊢; exact⟨r id h.1,λb N e=>h.2 b N (q _ _ h.1 e)⟩
 | .agg cs,_,h=>by
   simp only[Rel]at h ⊢;obtain⟨us,e,h⟩:=h;exact⟨us,e,ZJ.mono B q r cs us h⟩
 | .bS cs,_,h=>by
   simp only[Rel]at h ⊢;obtain⟨us,e,h⟩:=h;exact⟨us,e,ZJ.mono B q r cs us h⟩
 | .fn f fs cs,_,h=>by
   simp only[Rel]at h ⊢;obtain⟨us,vs,e,h1,h2⟩:=h;exact⟨us,vs,e,ZJ.mono B q r fs us h1,ZJ.mono B q r cs vs h2⟩
theorem ZJ.mono(q:∀b,R b->R' b/\w'.heap[b]? =w.heap[b]?)(r:∀id x,av id=YL->m' id=WB x->m id=WB x)(B:∀id,av id=YL->av' id=YL):
  ∀(ps:nR)(us:e7),ZJ w m av R ps us->ZJ w' m' av' R' ps us
 |[],_,h=>by simpa only[ZJ]using h
 | c::cs,_,h=>by
   simp only[ZJ]at h ⊢;obtain⟨u,vs,e,h1,h2⟩:=h;exact⟨u,vs,e,Rel.mono q r B c u h1,ZJ.mono q r B cs vs h2⟩
end
theorem ZJ.length:∀{ps:nR}{us:e7},ZJ w m av R ps us->us.length=ps.length
 |[],_,h=>by simp only[ZJ]at h;simp[h]
 | c::cs,_,h=>by
   simp only[ZJ]at h;obtain⟨u,vs,rfl,_,h2⟩:=h;simp[ZJ.length h2]
theorem ZJ.get:∀{ps:nR}{us:e7},ZJ w m av R ps us->∀{i:Nat}{p:V},ps[i]? =WB p->∃u,us[i]? =WB u/\Rel w m av R p u
 |[],_,_,i,p,hp=>by simp at hp
 | c::cs,_,h,i,p,hp=>by
   simp only[ZJ]at h;obtain⟨u,vs,rfl,h1,h2⟩:=h;cases i with
   |zero=>simp at hp;subst hp;exact⟨u,Zm,h1⟩
   |succ i=>simp at hp;obtain⟨x,hx,hr⟩:=ZJ.get h2 hp;exact⟨x,by simpa using hx,hr⟩
theorem ZJ.nil:ZJ w m av R [] []:=by simp[ZJ]
theorem ZJ.cons{p:V}{ps:nR}(h:Rel w m av R p u)(hs:ZJ w m av R ps us):ZJ w m av R (p::ps) (u::us):=by simp only[ZJ];exact⟨u,us,O,h,hs⟩
theorem ZJ.append:∀{ps qs:nR}{us vs:e7},ZJ w m av R ps us->ZJ w m av R qs vs->ZJ w m av R (ps++qs) (us++vs)
 |[],_,_,_,h,k=>by simp only[ZJ]at h;subst h;simpa using k
 | c::cs,_,_,_,h,k=>by
   simp only[ZJ]at h;obtain⟨u,xs,rfl,h1,h2⟩:=h;exact ZJ.cons h1 (ZJ.append h2 k)
theorem ZJ.take:∀{ps:nR}{us:e7}(n:Nat),ZJ w m av R ps us->ZJ w m av R (ps.take n) (us.take n)
 |[],_,n,h=>by simp only[ZJ]at h;subst h;simpa using ZJ.nil
 |c::cs,_,0,h=>by simpa using ZJ.nil
 | c::cs,_,n+1,h=>by
   simp only[ZJ]at h;obtain⟨u,xs,rfl,h1,h2⟩:=h;simpa using ZJ.cons h1 (ZJ.take n h2)
theorem ZJ.drop:∀{ps:nR}{us:e7}(n:Nat),ZJ w m av R ps us->ZJ w m av R (ps.drop n) (us.drop n)
 |[],_,n,h=>by simp only[ZJ]at h;subst h;simpa using ZJ.nil
 |c::cs,_,0,h=>by simpa using h
 | c::cs,_,n+1,h=>by
   simp only[ZJ]at h;obtain⟨u,xs,rfl,h1,h2⟩:=h;simpa using ZJ.drop n h2
theorem ZJ.set:∀{ps:nR}{us:e7}(i:Nat){p:V}{u:Value},ZJ w m av R ps us->Rel w m av R p u->ZJ w m av R (ps.set i p) (us.set i u)
 |[],_,n,_,_,h,_=>by simp only[ZJ]at h;subst h;simpa using ZJ.nil
 |c::cs,_,0,_,_,h,k=>by grind[ZJ]
 | c::cs,_,n+1,_,_,h,k=>by
   simp only[ZJ]at h;obtain⟨u,xs,rfl,h1,h2⟩:=h;simpa using ZJ.cons h1 (ZJ.set n h2 k)
theorem ZJ.ofP:∀{ps:na}{us:e7},ZG w R ps us->ZJ w m av R (ps.map V.pv) us
 |[],_,h=>by simpa only[ZJ,ZG,Wd]using h
 | c::cs,_,h=>by
   simp only[ZG]at h;obtain⟨u,vs,rfl,h1,h2⟩:=h;exact ZJ.cons (by simpa only[Rel]using h1) (ZJ.ofP h2)
theorem ZJ.toP:∀{ps:na}{us:e7},ZJ w m av R (ps.map V.pv) us->ZG w R ps us
 |[],_,h=>by simpa only[ZJ,ZG,Wd]using h
 | c::cs,_,h=>by
   simp only[ed,ZJ]at h;obtain⟨u,vs,rfl,h1,h2⟩:=h;exact ZG.cons (by simpa only[Rel]using h1) (ZJ.toP h2)
end
inductive Ob where
 |cells (ty:TypeId) (cs:na)
 |mix (ty:TypeId) (cs:nR)
 |bD (ty:TypeId) (cs:na)
 |mp (ks vs:na)
 |it (s:er) (pos:Nat)
 |fro (ty:TypeId) (s:er)
 |mi (cur ks vs:na)
abbrev Zy:=List (Nat×Ob)
abbrev va:=Option Ob
def Ob.real:Ob->Bool
 | .bD _ []=>YL
 |_=>YK
def cC:va->Bool
 |some o=>o.real
 |none=>YL
def yx(w:World)(R:ew)(b:Nat)(cur ks vs:na):Prop:=
 ∃(mb:Nat)(es:Array MapEntry)(clock:Nat)(seen:Array Nat)(l:List MapEntry),R mb/\w.heap[mb]? =WB (.map es clock)/\dY es.toList clock/\w.heap[b]? =WB (.mapIter (WB mb) clock seen clock)/\
  l.Perm (es.toList.filter λe=> !seen.contains e.born)/\ZG w R ks (l.map (·.key))/\ZG w R vs (l.map (·.val))/\
  (cur=[]\/∃e∈es.toList,seen.back? =WB e.born/\ZG w R cur [e.key,e.val])
theorem yx.mono{w':World}{R':ew}{b:Nat}{cur ks vs:na}(q:∀b,R b->R' b/\w'.heap[b]? =w.heap[b]?)(r:w'.heap[b]? =w.heap[b]?)(h:yx w R b cur ks vs):yx w' R' b cur ks vs:=by
 obtain⟨mb,es,clock,seen,l,h1,h2,h3,h4,h0,h5,h6,h7⟩:=h;refine⟨mb,es,clock,seen,l,(q _ h1).1,(q _ h1).2.trans h2,h3,r.trans h4,h0,h5.mono q,h6.mono q,?_⟩;rcases h7 with h|⟨e,h8,h9,h10⟩
 .exact .inl h
 exact .inr ⟨e,h8,h9,h10.mono q⟩
def nJ(w:World)(m:Gm)(av:Av)(R:ew)(b N:Nat):Ob->Prop
 | .cells ty cs=>∃arr:YT,w.heap[b]? =WB (.cells arr ty (0,0))/\arr.size=N/\cs.length<=N/\ZG w R cs (arr.toList.take cs.length)
 | .bD ty cs=>∃arr:YT,w.heap[b]? =WB (.cells arr ty (0,0))/\arr.size=N/\cs.length<=N/\ZG w R cs (arr.toList.take cs.length)
 | .mix ty cs=>∃arr:YT,w.heap[b]? =WB (.cells arr ty (0,0))/\arr.size=N/\cs.length<=N/\ZJ w m av R cs (arr.toList.take cs.length)
 | .mp ks vs=>∃es clock,w.heap[b]? =WB (.map es clock)/\ZG w R ks (es.toList.map (·.key))/\ZG w R vs (es.toList.map (·.val))/\dY es.toList clock
 | .it s pos=>w.heap[b]? =WB (.stringIter s pos)
 | .mi cur ks vs=>yx w R b cur ks vs
 | .fro ty s=>∃arr:YT,w.heap[b]? =WB (.cells arr ty (0,s.size))/\arr.size=N/\s.size<=N/\arr.toList.take s.size=s.data.toList.map λc=> .int .u8 c.toNat
theorem nJ.mono{w':World}{R':ew}{m m':Gm}{av av':Av}{b:Nat}{o:Ob}(r:∀b,R b->R' b/\w'.heap[b]? =w.heap[b]?)
  (B:∀id x,av id=YL->m' id=WB x->m id=WB x) (D:∀id,av id=YL->av' id=YL) (q:w'.heap[b]? =w.heap[b]?) (h:nJ w m av R b N o):nJ w' m' av' R' b N o:=by
 cases o with
 | cells ty cs=>
   obtain⟨arr,h1,h2,h3,h4⟩:=h;exact⟨arr,q.trans h1,h2,h3,h4.mono r⟩
 | mix ty cs=>
   obtain⟨arr,h1,h2,h3,h4⟩:=h;exact⟨arr,q.trans h1,h2,h3,h4.mono r B D⟩
 | bD ty cs=>
   obtain⟨arr,h1,h2,h3,h4⟩:=h;exact⟨arr,q.trans h1,h2,h3,h4.mono r⟩
 | mp ks vs=>
   obtain⟨es,clock,h1,h2,h3,h4⟩:=h;exact⟨es,clock,q.trans h1,h2.mono r,h3.mono r,h4⟩
 |it s pos=>exact q.trans h
 |mi cur ks vs=>exact yx.mono r q h
 |fro ty s=>obtain⟨arr,h1,h2⟩:=h;exact⟨arr,q.trans h1,h2⟩
def gInt(o:Obj):Prop:=∃(m:Int)(t:TypeId)(f:Nat×Nat),o= .cells #[.int .i64 m] t f
def gTab(k:IntKind)(zs:cP)(o:Obj):Prop:=∃(t:TypeId)(f:Nat×Nat),o= .cells (zs.map (Value.int k)).toArray t f
def P0(o:Obj):Prop:=∃(tp:TypeId)(p:Value)(t:TypeId)(f:Nat×Nat),o= .cells #[.iface tp p] t f
def glb:List (Nat×(Obj->Prop)):=[(1,gTab .u64 [1,10,100,1000,10000,100000,1000000,10000000,100000000,1000000000,10000000000,100000000000,1000000000000,10000000000000,100000000000000,1000000000000000,10000000000000000,100000000000000000,1000000000000000000,10000000000000000000]),(0,gInt),(2,P0),(3,P0)]
def r4(w:World)(R:ew):Prop:=∀x∈glb,R x.1/\∃o,w.heap[x.1]? =WB o/\x.2 o
theorem r4.mono{w':World}{R':ew}(h:r4 w R)(q:∀b,R b->R' b/\w'.heap[b]? =w.heap[b]?):r4 w' R':=λx hx=>by
 obtain⟨h0,o,h1,h2⟩:=h x hx;exact⟨(q _ h0).1,o,(q _ h0).2.trans h1,h2⟩
structure RT(w:World)(F:ew) where
 p:ew
 g:r4 w p
 d:∀b,p b->b<w.heap.size/\¬F b
 df:List Deferred:=[]
structure Ctx where
 P:Program
 m0:Gm
 w0:World
 F:ew
 R0:RT w0 F
abbrev big:Nat:=9000
structure St where
 sl:Nat->V
 ob:Nat->va
 av:Av
abbrev ZA:=St->Prop
structure Fr(F:ew)(w w':World):Prop where
 os:w'.os=w.os
 tape:w'.tape=w.tape
 output:w'.output=w.output
 size:w.heap.size<=w'.heap.size
 block:∀k,k<w.heap.size->¬F k->w'.heap[k]? =w.heap[k]?
theorem Fr.refl(F:ew)(w:World):Fr F w w:=⟨O,O,O,BY _,λ_ _ _=>rfl⟩
theorem Fr.Qy{w':World}(h:Below w.heap.size w w')(F:ew):Fr F w w':=⟨h.os,h.tape,h.output,h.size,λk hk _=>h.block k hk⟩
structure HR(C:Ctx)(m:Gm)(R:ew)(ob:Nat->va)(av:Av)(w:World):Prop where
 dom:∀id,(m id).isSome=cC (ob id)
 free:∀id,av id=YK->ob id=WC
 obj:∀id o b N,ob id=WB o->m id=WB (b,N)->nJ w m av R b N o
 inj:∀i j b N N',m i=WB (b,N)->m j=WB (b,N')->i=j
 own:∀id b N,m id=WB (b,N)->b<w.heap.size/\¬R b/\(C.F b\/C.w0.heap.size<=b)
 rsz:∀b,R b->b<w.heap.size
 rfr:∀b,R b->C.R0.p b\/C.w0.heap.size<=b\/C.F b
 r0:∀b,C.R0.p b->R b
 frame:Fr C.F C.w0 w
 keep:∀id x,big<=id->m id=WB x->C.m0 id=WB x
 res:∀id,big<=id->av id=YL
theorem HR.dfs{m0:Gm}{w0:World}{F:ew}{R0 R1:RT w0 F}{m:Gm}{ob:Nat->va}{av:Av}(h:HR ⟨P,m0,w0,F,R0⟩ m R ob av w)(e:R1.p=R0.p):HR ⟨P,m0,w0,F,R1⟩ m R ob av w:=
 ⟨h.dom,h.free,h.obj,h.inj,h.own,h.rsz,λb hb=>by have:=h.rfr b hb;simp only[e]at this ⊢; exact this,λb hb=>h.r0 b (by simp only[e]at hb;exact hb),h.frame,h.keep,h.res⟩
theorem HR.gi{C:Ctx}{m:Gm}{ob:Nat->va}{av:Av}(h:HR C m R ob av w):r4 w R:=
 C.R0.g.mono λb hb=>⟨h.r0 b hb,h.frame.block b (C.R0.d b hb).1 (C.R0.d b hb).2⟩
end
variable{m:Gm}
section
def upd{α:Type}(f:Nat->α)(d:Nat)(v:α):Nat->α:=λt=>bif Nat.beq t d then v else f t
theorem aA(f:Nat->α)(d:Nat)(v:α):upd f d v d=v:=by simp[upd]
theorem a7(f:Nat->α){d t:Nat}(v:α)(h:t≠d):upd f d v t=f t:=by grind[Nat.beq,bN,upd]
def fq:Value->PV
 | .int k n=> .int k n
 | .bool b=> .bool b
 | .string s=> .str s
 | .slice WC 0 0=> .sl (WB YK) 0 []
 | .pointer WC=> .nilptr
 | .map WC=> .nilmap
 | .nilFunc=> .nilfn
 | .nilIface=> .niliface
 |_=> .any
def ofC:Value->PV
 | .agg cs=> .agg (cs.toList.map fq)
 |v=>fq v
theorem fl(w:World)(R:ew):∀v,ZH w R (fq v) v:=by intro v;unfold fq;split<;>simp[ZH];exact⟨WC,0,⟨O,O⟩,by simp[maxLen],O,O⟩
theorem Br(w:World)(R:ew):∀v,ZH w R (ofC v) v:=by
 intro v;unfold ofC;split
 .rename_i cs;simp only[ZH];refine⟨cs.toList,Zm,?_⟩;generalize cs.toList=l;induction l with
  |nil=>simpa using ZG.nil
  |cons x l ih=>simpa using ZG.cons (fl w R x) ih
 exact fl w R v
def St.ev(n:Nat)(σ:St):Operand->V
 | .tmp t=>bif Nat.blt t n then σ.sl t else .pv .any
 | .const c=> .pv (ofC c)
 | .global _=> .pv .any
 | .func f=> .pv (.fn (.func f) [] [])
def St.put(σ:St)(d:YX)(v:V):St:=match d with|some d=>{ σ with sl:=upd σ.sl d v } |none=>σ
structure SW(C:Ctx)(n:Nat)(σ:St)(a:Act)(w:World)(m:Gm)(R:ew):Prop where
 hr:HR C m R σ.ob σ.av w
 df:a.defers=C.R0.df
 sz:a.tmps.size=n
 sl:∀t,t<n->Rel w m σ.av R (σ.sl t) (a.eval (.tmp t))
def SJ(C:Ctx)(n:Nat)(σ:St)(a:Act)(w:World):Prop:=∃m R,SW C n σ a w m R
section
variable {C:Ctx}{n:Nat}{σ τ:St}{a:Act}{w:World}{m:Gm}{R:ew}
theorem SW.ev(h:SW C n σ a w m R)(x:Operand):Rel w m σ.av R (σ.ev n x) (a.eval x):=by
 cases x with
 | tmp t=>
   by_cases ht:t<n
   .have hb:Nat.blt t n=YK:=by simpa[XW]using ht
    simpa only[St.ev,hb,Xe]using h.sl t ht
   have hb:Nat.blt t n=YL:=by cases e:Nat.blt t n;rfl;exact absurd (by simpa[XW]using e) ht
   simp only[St.ev,hb,Wo,Rel,ZH]
 |const c=>simpa only[St.ev,Rel,Act.eval]using Br w R c
 |global g=>simp only[St.ev,Rel,ZH]
 | func f=>
   simp only[St.ev,Rel,ZH,Act.eval];exact⟨[],[],O,by simp[ZG],by simp[ZG]⟩
theorem Au(a:Act)(d:Nat)(u:Value)(t:Nat):(a.put (WB d) u).eval (.tmp t)=if d=t/\d<a.tmps.size then u else a.eval (.tmp t):=by
 simp only[Act.put,Act.eval,XI,XR];by_cases h:d=t
 .grind
 simp[h]
theorem SW.put(h:SW C n σ a w m R)(d:YX){v:V}(r:Rel w m σ.av R v u):SW C n (σ.put d v) (a.put d u) w m R:=by
 cases d with
 |none=>exact h
 | some d=>
   refine⟨h.hr,h.df,by simpa[Act.put]using h.sz,λt ht=>?_⟩;rw[Au];show Rel w m σ.av R (upd σ.sl d v t) _;by_cases e:d=t
   .subst e;rw[aA,IT ⟨O,by rw[h.sz];exact ht⟩];exact r
   rw[a7 _ _ (λq=>e q.symm),AS (λq=>e q.1)];exact h.sl t ht
end
structure AW(C:Ctx)(n:Nat)(c:Code)(Q:Exit->ZA)(σ:St):Prop where
 go:∀a w,SJ C n σ a w->c.wp C.P (λex a' w'=>∃σ',Q ex σ'/\SJ C n σ' a' w') a w
def Be(K:ZA)(Q:Exit->ZA):Exit->ZA
 | .normal,σ=>K σ
 |e,σ=>Q e σ
def y6(id:Nat)(Q:Exit->ZA):Exit->ZA
 | .exit id',σ=>if id'=id then Q .normal σ else Q (.exit id') σ
 |e,σ=>Q e σ
section
variable {C:Ctx}{n:Nat}{Q:Exit->ZA}{σ τ:St}
theorem AW.mono{Q':Exit->ZA}(h:AW C n c Q σ)(B:∀e s,Q e s->Q' e s):AW C n c Q' σ:=
 ⟨λa w hs=>wp_mono (h.go a w hs) λe _ _ ⟨s,q,r⟩=>⟨s,B e s q,r⟩⟩
theorem Vl(h:Q .normal σ):AW C n .skip Q σ:=⟨λ_ _ hs=>wp_skip ⟨σ,h,hs⟩⟩
theorem AW.exit(h:Q (.exit id) σ):AW C n (.exit id) Q σ:=⟨λ_ _ hs=>wp_exit ⟨σ,h,hs⟩⟩
theorem AW.ret(h:Q .ret σ):AW C n .ret Q σ:=⟨λ_ _ hs=>wp_ret ⟨σ,h,hs⟩⟩
theorem Vy(h:AW C n x (Be (AW C n y Q) Q) σ):AW C n (.seq x y) Q σ:=by refine⟨λa w hs=>?_⟩;refine wp_seq (wp_mono (h.go a w hs) ?_);rintro e a' w' ⟨s,q,r⟩;cases e<;>first|exact AW.go q a' w' r|exact⟨s,q,r⟩
theorem AW.block(h:AW C n c (y6 id Q) σ):AW C n (.block id c) Q σ:=by
 refine⟨λa w hs=>?_⟩;refine wp_block (wp_mono (h.go a w hs) ?_);rintro e a' w' ⟨s,q,r⟩;cases e with
 | exit id'=>
   simp only[y6]at q;simp only[Exit.inBlock];split
   .grind
   grind
 |_=>exact⟨s,q,r⟩
theorem AW.mM{c:Operand}[Decidable p](hc:σ.ev n c= .pv (.bool (decide p)))(r:p->AW C n x Q σ)(B:¬p->AW C n y Q σ):AW C n (.cond c x y) Q σ:=by refine⟨λa w hs=>?_⟩;obtain⟨m,R,hw⟩:=hs;have q:=hw.ev c;rw[hc]at q;simp only[Rel,ZH]at q;exact wp_cond_split q (λe=>(r (Xh e)).go a w ⟨m,R,hw⟩) (λe=>(B (Xx e)).go a w ⟨m,R,hw⟩)
theorem AW.cond{c:Operand}(hc:σ.ev n c= .pv (.bool b))(r:b=YK->AW C n x Q σ)(B:b=YL->AW C n y Q σ):AW C n (.cond c x y) Q σ:=by refine⟨λa w hs=>?_⟩;obtain⟨m,R,hw⟩:=hs;have q:=hw.ev c;rw[hc]at q;simp only[Rel,ZH]at q;exact wp_cond_split q (λe=>(r e).go a w ⟨m,R,hw⟩) (λe=>(B e).go a w ⟨m,R,hw⟩)
def St.le(σ τ:St):Prop:=∀(C:Ctx)(n:Nat)(a:Act)(w:World),SJ C n σ a w->SJ C n τ a w
theorem Vm(hl:σ.le τ)(h:AW C n c Q τ):AW C n c Q σ:=⟨λa w hs=>h.go a w (hl C n a w hs)⟩
theorem AW.loop{X:Type}(st:X->St)(I:X->Prop)(μ:X->Nat)(x0:X)(D:σ.le (st x0))(E:I x0)
  (round:∀x,I x->AW C n c (Be (λs=>∃x',s.le (st x')/\I x'/\μ x'<μ x) Q) (st x)):AW C n (.loop c) Q σ:=by
 refine⟨λa w hs=>?_⟩;have B:∀k x,μ x=k->I x->∀a w,SJ C n (st x) a w->∀(b:Frame)(kk:List Item)(cs:List Frame),
   ∃e a' w',(∃σ',Q e σ'/\SJ C n σ' a' w')/\Arrives C.P (lone (b.at a (.code c:: .inLoop c::kk)) cs w) b kk cs e a' w':=by
  intro k;induction k using Nat.strongRecOn with
  | _ k ih=>
    intro x hk hx a w hs b kk cs;obtain⟨e,a₁,w₁,hq,harr⟩:=(round x hx).go a w hs b (.inLoop c::kk) cs;obtain⟨s,q,r⟩:=hq;cases e with
    | normal=>
      obtain⟨x',hl,hx',hlt⟩:=q;obtain⟨e₂,a₂,w₂,hq₂,harr₂⟩:=ih (μ x') (hk▸hlt) x' O hx' a₁ w₁ (hl C n a₁ w₁ r) b kk cs;exact⟨e₂,a₂,w₂,hq₂,.of_steps (Steps.trans harr (.one step_inLoop)) harr₂⟩
    |exit id=>exact⟨_,a₁,w₁,⟨s,q,r⟩,.pass (x:= .inLoop c) O (λ_ _=> .inl Zm) harr⟩
    |goto l=>exact⟨_,a₁,w₁,⟨s,q,r⟩,.pass (x:= .inLoop c) O (λ_ _=> .inl Zm) harr⟩
    |ret=>exact⟨_,a₁,w₁,⟨s,q,r⟩,.pass (x:= .inLoop c) O (λ_ _=> .inl Zm) harr⟩
    |panic ch=>exact⟨_,a₁,w₁,⟨s,q,r⟩,.pass (x:= .inLoop c) O (λ_ _=> .inl Zm) harr⟩
    |outgrown=>exact⟨_,a₁,w₁,⟨s,q,r⟩,.pass (x:= .inLoop c) O (λ_ _=> .inl Zm) harr⟩
 intro b kk cs;obtain⟨e,a',w',hq,harr⟩:=B _ x0 O E a w (D C n a w hs) b kk cs;exact⟨e,a',w',hq,.of_steps (.one step_loop) harr⟩
end
def OJ(C:Ctx)(n:Nat)(o:Oper)(K:ZA)(σ:St):Prop:=
 ∀a w Q,SJ C n σ a w->o.wp C.P a w (λa' w'=>∃σ',K σ'/\SJ C n σ' a' w') Q
structure OS where
 v:V
 wr:List (Nat×va):=[]
 nw:ee:=[]
def obL:List (Nat×va)->(Nat->va)->Nat->va
 |[],f,id=>f id
 |(i,o)::l,f,id=>bif Nat.beq id i then o else obL l f id
def avL:ee->Av->Av
 |[],f,id=>f id
 |i::l,f,id=>bif Nat.beq id i then YL else avL l f id
def St.app(σ:St)(d:YX)(s:OS):St:=
 { sl:=match d with|some d=>upd σ.sl d s.v|none=>σ.sl,ob:=obL s.wr σ.ob,av:=avL s.nw σ.av }
def XJ(C:Ctx)(n:Nat)(o:Oper)(σ:St)(s:OS):Prop:=OJ C n o (λτ=>τ=σ.app o.dst s) σ
def V.gd:V->Option YO
 | .pv (.bool b)=>WB (WB b)
 | .pv (.bS [])=>WB WC
 |_=>WC
abbrev und:V:= .pv (.bS [])
theorem GF(w:World)(m:Gm)(av:Av)(R:ew):Rel w m av R und undef:=by simp only[und,Rel,ZH];exact⟨[],O,ZG.nil⟩
theorem V.rT{v:V}(h:v= .pv (.bool b)):v.gd=WB (WB b):=by rw[h];rfl
def SK(C:Ctx)(n:Nat)(o:Oper)(K:ZA)(σ:St):Prop:=∀a w,SJ C n σ a w->∃s,K s/\SJ C n s (a.put o.dst undef) w
def RL(C:Ctx)(n:Nat)(ops:YZ):Zw->ZA->ZA
 |[],K,σ=>K σ
 | o::os,K,σ=>
   match o.guard with
   |none=>OJ C n o (RL C n ops os K) σ
   |some (j,want)=>∃b,(∀a w,SJ C n σ a w->yielded ops a.tmps j=b)/\(b=WB want->OJ C n o (RL C n ops os K) σ)/\(b≠WB want->SK C n o (RL C n ops os K) σ)
section
variable {C:Ctx}{n:Nat}{Q:Exit->ZA}{σ τ:St}{ops:YZ}
theorem OJ.mono{o:Oper}{K K':ZA}(h:OJ C n o K σ)(B:∀s,K s->K' s):OJ C n o K' σ:=
 λa w Q hs=>Oper.wp_mono (λ_ _ ⟨s,q,r⟩=>⟨s,B s q,r⟩) (h a w Q hs)
theorem fN(h:SW C n σ a w m R){j:Nat}{b:YO}(q:(σ.ev n (.tmp (((ops[j]?).bind (·.dst)).getD n))).gd=WB b):yielded ops a.tmps j=b:=by
 have B:=h.ev (.tmp (((ops[j]?).bind (·.dst)).getD n));generalize σ.ev n (.tmp (((ops[j]?).bind (·.dst)).getD n))=v at q B;have r:∃u,a.eval (.tmp (((ops[j]?).bind (·.dst)).getD n))=u/\((∃c,u= .bool c/\b=WB c)\/(u=undef/\b=WC)):=by
  unfold V.gd at q;split at q
  .grind[VM,Rel,ZH]
  .simp only[VM]at q;simp only[Rel,ZH]at B;obtain⟨us,hu,hr⟩:=B;simp only[ZG]at hr;subst hr;exact⟨_,hu,.inr ⟨O,q.symm⟩⟩
  cases q
 obtain⟨u,hu,hb⟩:=r;simp only[Act.eval]at hu;unfold yielded;cases hd:(ops[j]?).bind (·.dst)with
 | none=>
   rw[hd]at hu;simp only[Option.getD_none,XI]at hu;rw[Array.getElem?_eq_none (by have:=h.sz;omega)]at hu;simp at hu;subst hu;rcases hb with⟨c,hc,_⟩|⟨_,rfl⟩
   .simp[undef]at hc
   .rfl
 | some d=>
   rw[hd]at hu;simp only[Xg,XI]at hu;simp only[Option.bind_some];cases ht:a.tmps[d]? with
   | none=>
     rw[ht]at hu;simp at hu;subst hu;rcases hb with⟨c,hc,_⟩|⟨_,rfl⟩
     .simp[undef]at hc
     .rfl
   | some u'=>
     rw[ht]at hu;simp at hu;subst hu;rcases hb with⟨c,rfl,rfl⟩|⟨rfl,rfl⟩<;>rfl
theorem RL.sound(K:ZA):∀(os:Zw)(k:Nat)(σ:St),ops.toList.drop k=os->RL C n ops os K σ->∀a w,SJ C n σ a w->∀Q:Exit->Act->World->Prop,
  (∀a w,(∃s,K s/\SJ C n s a w)->Q .normal a w)->wpOps C.P ops Q (List.range' k (ops.size-k)) a w:=by
 intro os;induction os with
 | nil=>
   intro k σ hd h a w hs Q hQ;have:ops.size-k=0:=by simp_all
   rw[this];simp only[List.range'_zero,wpOps];exact hQ a w ⟨σ,h,hs⟩
 | cons o os ih=>
   intro k σ hd h a w hs Q hQ;have r:k<ops.size:=by
    have:=ah List.length hd;simp at this;omega
   have ho:ops[k]? =WB o:=by
    have:=ah (·[0]?) hd;simpa using this
   have B:ops.toList.drop (k+1)=os:=by
    have:=ah (List.drop 1) hd;simpa[XA]using this
   have e:ops.size-k=(ops.size-(k+1))+1:=Zi;rw[e,List.range'_succ];have q:∀a' w',(∃s,RL C n ops os K s/\SJ C n s a' w')->wpOps C.P ops Q (List.range' (k+1) (ops.size-(k+1))) a' w':=by grind
   simp only[wpOps,ho];simp only[RL]at h;cases hg:o.guard with
   | none=>
     rw[hg]at h;simp only[Region.wanted,hg,Yk];exact .inl (Oper.wp_mono q (h a w Q hs))
   | some jw=>
     obtain⟨j,want⟩:=jw;rw[hg]at h;obtain⟨b,hb,h1,h2⟩:=h;have D:=hb a w hs;simp only[Region.wanted,hg,D];by_cases hbw:b=WB want
     .subst hbw;simp only[WE,Yk];exact .inl (Oper.wp_mono q (h1 O a w Q hs))
     have:(b==WB want)=YL:=by simpa using hbw
     simp only[this,Wj,Yd];exact q _ _ (h2 hbw a w hs)
theorem AW.region(h:RL C n ops ops.toList (Q .normal) σ):AW C n (.region id ops YL) Q σ:=by refine⟨λa w hs=>?_⟩;refine wp_region ?_;have:=RL.sound (Q .normal) ops.toList 0 σ Zm h a w hs (λex a' w'=>∃σ',Q ex σ'/\SJ C n σ' a' w') (λ_ _ x=>x);rw[List.range_eq_range'];simpa using this
theorem RL.step{o:Oper}{os:Zw}{K:ZA}{s:OS}{d:YX}(q:o.guard=WC)(r:o.dst=d)(B:XJ C n o σ s)(h:RL C n ops os K (σ.app d s)):RL C n ops (o::os) K σ:=by subst r;simp only[RL,q];exact B.mono λ_ e=>e▸h
theorem RL.stepG{o:Oper}{os:Zw}{K:ZA}{s:OS}{d:YX}{j:Nat}{want:Bool}(q:o.guard=WB (j,want))(r:o.dst=d)(B:σ.ev n (.tmp (((ops[j]?).bind (·.dst)).getD n))= .pv (.bool want))
  (D:XJ C n o σ s) (h:RL C n ops os K (σ.app d s)):RL C n ops (o::os) K σ:=by
 subst r;simp only[RL,q];exact⟨WB want,λa w ⟨m,R,hw⟩=>fN hw (V.rT B),λ_=>D.mono λ_ e=>e▸h,λe=>absurd O e⟩
theorem RL.call{o:Oper}{os:Zw}{K:ZA}(q:o.guard=WC)(h:OJ C n o (RL C n ops os K) σ):RL C n ops (o::os) K σ:=by simp only[RL,q];exact h
end
end
section
theorem St.jb(σ:St)(d:YX)(v:V):σ.app d ⟨v,[],[]⟩=σ.put d v:=by cases d<;>rfl
section
variable {C:Ctx}{n:Nat}{σ:St}{dst:YX}{ty t t':TypeId}{pos:String}{after:Y4}{gd:Option (Nat×Bool)}{x y:Operand}
theorem XJ.val{o:Oper}{v:V}(h:∀a w m R,SW C n σ a w m R->∃u,(execOp a.eval o).run C.P w= .ok (.value u) w/\Rel w m σ.av R v u):XJ C n o σ ⟨v,[],[]⟩:=by rintro a w Q ⟨m,R,hw⟩;obtain⟨u,hrun,hrel⟩:=h a w m R hw;unfold Oper.wp;rw[hrun];exact⟨_,O,m,R,St.jb σ o.dst v▸hw.put o.dst hrel⟩
theorem oJ:XJ C n ⟨dst,.move x,ty,pos,after,gd⟩ σ ⟨σ.ev n x,[],[]⟩:=
 .val λa w m R hw=>⟨a.eval x,O,hw.ev x⟩
theorem Gw:XJ C n ⟨dst,.assign x,ty,pos,after,gd⟩ σ ⟨σ.ev n x,[],[]⟩:=
 .val λa w m R hw=>⟨a.eval x,O,hw.ev x⟩
theorem SW.pv(h:SW C n σ a w m R){x:Operand}{p:PV}(q:σ.ev n x= .pv p):ZH w R p (a.eval x):=by have:=h.ev x;rw[q]at this;simpa only[Rel]using this
theorem SW.int(h:SW C n σ a w m R){x:Operand}{k:IntKind}(q:σ.ev n x= .pv (.int k i)):a.eval x= .int k i:=by simpa only[ZH]using h.pv q
theorem SW.bool(h:SW C n σ a w m R){x:Operand}(q:σ.ev n x= .pv (.bool b)):a.eval x= .bool b:=by simpa only[ZH]using h.pv q
theorem SW.str(h:SW C n σ a w m R){x:Operand}{s:er}(q:σ.ev n x= .pv (.str s)):a.eval x= .string s:=by simpa only[ZH]using h.pv q
theorem Ae{c x y:Operand}(hc:σ.ev n c= .pv (.bool b)):XJ C n ⟨dst,.pick c x y,ty,pos,after,gd⟩ σ ⟨bif b then σ.ev n x else σ.ev n y,[],[]⟩:=
 .val λa w m R hw=>by
  refine⟨bif b then a.eval x else a.eval y,?_,?_⟩
  .simp only[execOp,hw.bool hc,asBool];cases b<;>rfl
  cases b
  .exact hw.ev y
  exact hw.ev x
def zc:PV->Value
 | .int k n=> .int k n
 | .bool b=> .bool b
 | .str s=> .string s
 |_=>undef
def PV.scal:PV->Bool
 | .int _ _| .bool _| .str _=>YK
 |_=>YL
theorem XJ.lit{o:Oper}{p:PV}(q:p.scal=YK)(h:∀a w m R,SW C n σ a w m R->(execOp a.eval o).run C.P w= .ok (.value (zc p)) w):XJ C n o σ ⟨.pv p,[],[]⟩:=
 .val λa w m R hw=>⟨zc p,h a w m R hw,by cases p<;>simp[PV.scal]at q<;>simp only[Rel,ZH,zc]⟩
def wm(op:BinOp)(k:IntKind)(a b:Int):Option PV:=
 match op with
 | .add=>WB (.int k (k.wrap (a+b)))
 | .sub=>WB (.int k (k.wrap (a-b)))
 | .mul=>WB (.int k (k.wrap (a*b)))
 | .eql=>WB (.bool (a==b))
 | .neq=>WB (.bool (a !=b))
 | .lss=>WB (.bool (decide (a<b)))
 | .leq=>WB (.bool (decide (a<=b)))
 | .gtr=>WB (.bool (decide (a>b)))
 | .geq=>WB (.bool (decide (a>=b)))
 | .and=>WB (.int k (k.wrap (BitVec.ofInt k.bits a&&&BitVec.ofInt k.bits b).toNat))
 | .or=>WB (.int k (k.wrap (BitVec.ofInt k.bits a|||BitVec.ofInt k.bits b).toNat))
 | .xor=>WB (.int k (k.wrap (BitVec.ofInt k.bits a^^^BitVec.ofInt k.bits b).toNat))
 | .andNot=>WB (.int k (k.wrap (BitVec.ofInt k.bits a&&& ~~~ (BitVec.ofInt k.bits b)).toNat))
 |_=>WC
theorem aY{op:BinOp}{k:IntKind}{p:PV}(D:σ.ev n x= .pv (.int k i))(E:σ.ev n y= .pv (.int k j))(q:wm op k i j=WB p):
  XJ C n ⟨dst,.binOp op t x y t',ty,pos,after,gd⟩ σ ⟨.pv p,[],[]⟩:=
 .lit (by cases op<;>simp only[wm,VM,reduceCtorEq]at q<;>subst q<;>rfl) λa w m R hw=>by
  have r:=hw.int D;have B:=hw.int E;cases op<;>simp only[wm,VM,reduceCtorEq]at q<;>subst q<;>
   simp[execOp,r,B,eqGuard,binOp,Op.intArith,Op.intCmp,Op.intBits,zc]
theorem eS(h: -9223372036854775808<=i/\i<=9223372036854775807):IntKind.i64.wrap i=i:=IntWalk.i64_in _ h
theorem lx(q:σ.ev n x= .pv (.int .i64 i))(r:σ.ev n y= .pv (.int .i64 j))(h: -9223372036854775808<=i+j/\i+j<=9223372036854775807):
  XJ C n ⟨dst,.binOp .add t x y t',ty,pos,after,gd⟩ σ ⟨.pv (.int .i64 (i+j)),[],[]⟩:=
 aY q r (by simp only[wm,eS h])
theorem CF(q:σ.ev n x= .pv (.int .i64 i))(r:σ.ev n y= .pv (.int .i64 j))(h: -9223372036854775808<=i-j/\i-j<=9223372036854775807):
  XJ C n ⟨dst,.binOp .sub t x y t',ty,pos,after,gd⟩ σ ⟨.pv (.int .i64 (i-j)),[],[]⟩:=
 aY q r (by simp only[wm,eS h])
theorem yO(q:σ.ev n x= .pv (.int .i64 i))(r:σ.ev n y= .pv (.int .i64 j))(h: -9223372036854775808<=i*j/\i*j<=9223372036854775807):
  XJ C n ⟨dst,.binOp .mul t x y t',ty,pos,after,gd⟩ σ ⟨.pv (.int .i64 (i*j)),[],[]⟩:=
 aY q r (by simp only[wm,eS h])
theorem dw{k:IntKind}(q:σ.ev n x= .pv (.int k i))(r:σ.ev n y= .pv (.int k j))(h:j≠0):
  XJ C n ⟨dst,.binOp .quo t x y t',ty,pos,after,gd⟩ σ ⟨.pv (.int k (k.wrap (i.tdiv j))),[],[]⟩:=
 .lit O λa w m R hw=>by simp[execOp,hw.int q,hw.int r,eqGuard,binOp,Op.intDiv,h,zc]
theorem fC{k:IntKind}(q:σ.ev n x= .pv (.int k i))(r:σ.ev n y= .pv (.int k j))(h:j≠0):
  XJ C n ⟨dst,.binOp .rem t x y t',ty,pos,after,gd⟩ σ ⟨.pv (.int k (i.tmod j)),[],[]⟩:=
 .lit O λa w m R hw=>by simp[execOp,hw.int q,hw.int r,eqGuard,binOp,Op.intDiv,h,zc]
theorem Ub{k k':IntKind}(q:σ.ev n x= .pv (.int k i))(r:σ.ev n y= .pv (.int k' j))(h:0<=j):
  XJ C n ⟨dst,.binOp .shl t x y t',ty,pos,after,gd⟩ σ ⟨.pv (.int k (k.wrap (i*2^(min j.toNat k.bits)))),[],[]⟩:=
 .lit O λa w m R hw=>by simp[execOp,hw.int q,hw.int r,eqGuard,binOp,Op.shift,Int.not_lt.2 h,zc]
theorem UJ{k k':IntKind}(q:σ.ev n x= .pv (.int k i))(r:σ.ev n y= .pv (.int k' j))(h:0<=j):
  XJ C n ⟨dst,.binOp .shr t x y t',ty,pos,after,gd⟩ σ ⟨.pv (.int k (i.fdiv (2^(min j.toNat k.bits)))),[],[]⟩:=
 .lit O λa w m R hw=>by simp[execOp,hw.int q,hw.int r,eqGuard,binOp,Op.shift,Int.not_lt.2 h,zc]
def Ty(op:BinOp)(a b:er):Option PV:=
 match op with
 | .eql=>WB (.bool (a.toList==b.toList))
 | .neq=>WB (.bool !(a.toList==b.toList))
 | .lss=>WB (.bool (Op.bytesLess a.toList b.toList))
 | .leq=>WB (.bool (Op.bytesLess a.toList b.toList||a.toList==b.toList))
 | .gtr=>WB (.bool !(Op.bytesLess a.toList b.toList||a.toList==b.toList))
 | .geq=>WB (.bool !(Op.bytesLess a.toList b.toList))
 |_=>WC
theorem lH{op:BinOp}{i j:er}{p:PV}(D:σ.ev n x= .pv (.str i))(E:σ.ev n y= .pv (.str j))(q:Ty op i j=WB p):
  XJ C n ⟨dst,.binOp op t x y t',ty,pos,after,gd⟩ σ ⟨.pv p,[],[]⟩:=
 .lit (by cases op<;>simp only[Ty,VM,reduceCtorEq]at q<;>subst q<;>rfl) λa w m R hw=>by
  have r:=hw.str D;have B:=hw.str E;cases op<;>simp only[Ty,VM,reduceCtorEq]at q<;>subst q<;>
   simp[execOp,r,B,eqGuard,binOp,Op.stringOp,zc]
theorem fE {op:BinOp} {k:IntKind}   (q:σ.ev n x= .pv (.int k i)) (r:σ.ev n y= .pv (.int k j)) (B:wm op k i j=WB (.bool b)) (h:b=YK):
  XJ C n ⟨dst,.binOp op t x y t',ty,pos,after,gd⟩ σ ⟨.pv (.bool YK),[],[]⟩:=h▸aY q r B
theorem jA {op:BinOp} {k:IntKind}   (q:σ.ev n x= .pv (.int k i)) (r:σ.ev n y= .pv (.int k j)) (B:wm op k i j=WB (.bool b)) (h:b=YL):
  XJ C n ⟨dst,.binOp op t x y t',ty,pos,after,gd⟩ σ ⟨.pv (.bool YL),[],[]⟩:=h▸aY q r B
theorem wZ {op:BinOp} {i j:er}  (q:σ.ev n x= .pv (.str i)) (r:σ.ev n y= .pv (.str j)) (B:Ty op i j=WB (.bool b)) (h:b=YK):
  XJ C n ⟨dst,.binOp op t x y t',ty,pos,after,gd⟩ σ ⟨.pv (.bool YK),[],[]⟩:=h▸lH q r B
theorem pj {op:BinOp} {i j:er}  (q:σ.ev n x= .pv (.str i)) (r:σ.ev n y= .pv (.str j)) (B:Ty op i j=WB (.bool b)) (h:b=YL):
  XJ C n ⟨dst,.binOp op t x y t',ty,pos,after,gd⟩ σ ⟨.pv (.bool YL),[],[]⟩:=h▸lH q r B
theorem rS{i j:er}(q:σ.ev n x= .pv (.str i))(r:σ.ev n y= .pv (.str j))(h:i.size+j.size<=9223372036854775807):
  XJ C n ⟨dst,.binOp .add t x y t',ty,pos,after,gd⟩ σ ⟨.pv (.str (i++j)),[],[]⟩:=
 .val λa w m R hw=>⟨.string (i++j),by
  have B:IntKind.i64.max=9223372036854775807:=Zk;simp[execOp,hw.str q,hw.str r,eqGuard,binOp,Op.stringOp];omega,by simp only[Rel,ZH]⟩
theorem Rz{i j:Bool}(q:C.P.underlying t=WB .bool)(r:σ.ev n x= .pv (.bool i))(B:σ.ev n y= .pv (.bool j)):
  XJ C n ⟨dst,.binOp .eql t x y t',ty,pos,after,gd⟩ σ ⟨.pv (.bool (i==j)),[],[]⟩:=
 .val λa w m R hw=>⟨.bool (i==j),by
  simp[execOp,hw.bool r,hw.bool B,eqGuard,run_eql_bool _ _ _ _ q],by simp only[Rel,ZH]⟩
theorem RZ{i j:Bool}(q:C.P.underlying t=WB .bool)(r:σ.ev n x= .pv (.bool i))(B:σ.ev n y= .pv (.bool j)):
  XJ C n ⟨dst,.binOp .neq t x y t',ty,pos,after,gd⟩ σ ⟨.pv (.bool (i !=j)),[],[]⟩:=
 .val λa w m R hw=>⟨.bool (i !=j),by
  simp[execOp,hw.bool r,hw.bool B,eqGuard,run_neq_bool _ _ _ _ q];cases i<;>cases j<;>rfl,by simp only[Rel,ZH]⟩
theorem G4{cs:na}(r:C.P.underlying t=WB (.slice e))(B:σ.ev n x= .pv (.sl (WB b) k cs)):
  XJ C n ⟨dst,.binOp .eql t x (.const (.slice WC 0 0)) t',ty,pos,after,gd⟩ σ ⟨.pv (.bool b),[],[]⟩:=
 .val λa w m R hw=>by
  have:=hw.pv B;simp only[ZH]at this;obtain⟨A,c,e,_,_,q,_⟩:=this;have q:=q b O;have hc:a.eval (.const (.slice WC 0 0))= .slice WC 0 0:=rfl;exact⟨.bool b,by simp[execOp,e,eqGuard,binOp,hc,run_equal_slice_nil _ _ _ _ _ _ r,q],by simp only[Rel,ZH]⟩
theorem GD{cs:na}(r:C.P.underlying t=WB (.slice e))(B:σ.ev n x= .pv (.sl (WB b) k cs)):
  XJ C n ⟨dst,.binOp .neq t x (.const (.slice WC 0 0)) t',ty,pos,after,gd⟩ σ ⟨.pv (.bool (!b)),[],[]⟩:=
 .val λa w m R hw=>by
  have:=hw.pv B;simp only[ZH]at this;obtain⟨A,c,e,_,_,q,_⟩:=this;have q:=q b O;have hc:a.eval (.const (.slice WC 0 0))= .slice WC 0 0:=rfl;exact⟨.bool (!b),by simp[execOp,e,eqGuard,binOp,hc,run_equal_slice_nil _ _ _ _ _ _ r,q],by simp only[Rel,ZH]⟩
theorem TO(q:σ.ev n x= .pv (.bool b)):XJ C n ⟨dst,.unOp .not t x,ty,pos,after,gd⟩ σ ⟨.pv (.bool (!b)),[],[]⟩:=
 .val λa w m R hw=>⟨.bool (!b),by simp[execOp,hw.bool q,Op.unary],by simp only[Rel,ZH]⟩
theorem PH(q:σ.ev n x= .pv (.int .i64 i))(h: -9223372036854775807<=i)(r:i<=9223372036854775807):XJ C n ⟨dst,.unOp .neg t x,ty,pos,after,gd⟩ σ ⟨.pv (.int .i64 (-i)),[],[]⟩:=
 .val λa w m R hw=>⟨.int .i64 (-i),by
  have:=eS (i:= -i) Zi;simp[execOp,hw.int q,Op.unary,Op.intArith,this],by simp only[Rel,ZH]⟩
theorem eX{k k':IntKind}{src d:TypeId}{sd:TypeDesc}(hs:C.P.underlying src=WB sd)(q:C.P.underlying d=WB (.int k'))(r:σ.ev n x= .pv (.int k i)):
  XJ C n ⟨dst,.convert src d x,ty,pos,after,gd⟩ σ ⟨.pv (.int k' (k'.wrap i)),[],[]⟩:=
 .val λa w m R hw=>⟨.int k' (k'.wrap i),by
  simp only[execOp,hw.int r,convert,Sem.run_bind,run_underlying hs,run_underlying q,Result.andThen_ok];cases sd<;>simp[Conv.intToInt],by simp only[Rel,ZH]⟩
theorem cE{ps:na}{p:PV}{i:Nat}(q:σ.ev n x= .pv (.bS ps))(r:ps[i]? =WB p):XJ C n ⟨dst,.extract x i,ty,pos,after,gd⟩ σ ⟨.pv p,[],[]⟩:=
 .val λa w m R hw=>by
  have:=hw.pv q;simp only[ZH]at this;obtain⟨us,e,hl⟩:=this;obtain⟨u,hu,hr⟩:=hl.get r;exact⟨u,by simp[execOp,e,Instr.extract,hu],by simpa only[Rel]using hr⟩
theorem Fu{ps:nR}{p:V}{i:Nat}(q:σ.ev n x= .bS ps)(r:ps[i]? =WB p):XJ C n ⟨dst,.extract x i,ty,pos,after,gd⟩ σ ⟨p,[],[]⟩:=
 .val λa w m R hw=>by
  have:=hw.ev x;rw[q]at this;simp only[Rel]at this;obtain⟨us,e,hl⟩:=this;obtain⟨u,hu,hr⟩:=hl.get r;exact⟨u,by simp[execOp,e,Instr.extract,hu],hr⟩
theorem G3{s:er}(q:C.P.underlying t=WB .string)(r:σ.ev n x= .pv (.str s)):
  XJ C n ⟨dst,.call { callee:= .builtin .len,args:= #[x],argTypes:= #[t] },ty,pos,after,gd⟩ σ ⟨.pv (.int .i64 s.size),[],[]⟩:=
 .val λa w m R hw=>⟨.int .i64 s.size,by simp[execOp,resolve,invoke,builtin,Builtin.len_,hw.str r,run_underlying q,goInt],by simp only[Rel,ZH]⟩
theorem Uv{b:YO}{cs:na}(q:C.P.underlying t=WB (.slice e))(r:σ.ev n x= .pv (.sl b k cs)):
  XJ C n ⟨dst,.call { callee:= .builtin .len,args:= #[x],argTypes:= #[t] },ty,pos,after,gd⟩ σ ⟨.pv (.int .i64 k),[],[]⟩:=
 .val λa w m R hw=>by
  have:=hw.pv r;simp only[ZH]at this;obtain⟨A,c,e,_⟩:=this;exact⟨.int .i64 k,by simp[execOp,resolve,invoke,builtin,Builtin.len_,e,run_underlying q,goInt],by simp only[Rel,ZH]⟩
theorem Q4{o:Ob}(B:C.P.underlying t=WB (.slice e))(D:σ.ev n x= .bJ id sz k)(ho:σ.ob id=WB o)(r:o.real=YK:=by rfl):
  XJ C n ⟨dst,.call { callee:= .builtin .len,args:= #[x],argTypes:= #[t] },ty,pos,after,gd⟩ σ ⟨.pv (.int .i64 k),[],[]⟩:=
 .val λa w m R hw=>by
  have:=hw.ev x;rw[D]at this;simp only[Rel]at this;have q:=hw.hr.dom id;rw[ho]at q;replace q:=q.trans r;obtain⟨⟨b,N⟩,hm⟩:=V4.1 q;obtain⟨c,e,_⟩:=this.2 b N hm;exact⟨.int .i64 k,by simp[execOp,resolve,invoke,builtin,Builtin.len_,e,run_underlying B,goInt],by simp only[Rel,ZH]⟩
theorem Tj(q:C.P.underlying t=WB (.slice e))(r:σ.ev n x= .bz id sz k):
  XJ C n ⟨dst,.call { callee:= .builtin .len,args:= #[x],argTypes:= #[t] },ty,pos,after,gd⟩ σ ⟨.pv (.int .i64 k),[],[]⟩:=
 .val λa w m R hw=>by
  have:=hw.ev x;rw[r]at this;simp only[Rel]at this;obtain⟨_,A,c,e,_⟩:=this;exact⟨.int .i64 k,by simp[execOp,resolve,invoke,builtin,Builtin.len_,e,run_underlying q,goInt],by simp only[Rel,ZH]⟩
theorem zT{k:IntKind}(q:σ.ev n x= .pv (.int k i))(r:σ.ev n y= .pv (.int k j)):
  XJ C n ⟨dst,.call { callee:= .builtin .max,args:= #[x,y],argTypes:= #[t,t'] },ty,pos,after,gd⟩ σ ⟨.pv (.int k (if j>i then j else i)),[],[]⟩:=
 .val λa w m R hw=>⟨.int k (if j>i then j else i),by simp[execOp,resolve,invoke,builtin,Builtin.max_,Builtin.max2,hw.int q,hw.int r],by simp only[Rel,ZH]⟩
theorem tU{k:IntKind}(q:σ.ev n x= .pv (.int k i))(r:σ.ev n y= .pv (.int k j)):
  XJ C n ⟨dst,.call { callee:= .builtin .min,args:= #[x,y],argTypes:= #[t,t'] },ty,pos,after,gd⟩ σ ⟨.pv (.int k (if j<i then j else i)),[],[]⟩:=
 .val λa w m R hw=>⟨.int k (if j<i then j else i),by simp[execOp,resolve,invoke,builtin,Builtin.min_,Builtin.min2,hw.int q,hw.int r],by simp only[Rel,ZH]⟩
end
end
section
def V.cells:V->nR
 | .agg cs=>cs
 | .pv (.agg ps)=>ps.map .pv
 |v=>[v]
mutual
def PV.leaf:PV->Bool
 | .agg _| .bS _| .any=>YL
 |_=>YK
end
def V.leaf:V->Bool
 | .pv p=>p.leaf
 | .agg _| .bS _=>YL
 |_=>YK
section
variable {w w':World}{m m':Gm}{av av':Av}{R R':ew}
theorem ZH.leaf{p:PV}(h:ZH w R p u)(hl:p.leaf=YK):u.oneCell'=YK:=by
 cases p<;>simp only[PV.leaf,Wj]at hl<;>simp only[ZH]at h
 case sl=>obtain⟨A,c,rfl,_⟩:=h;rfl
 case rp=>obtain⟨b,o,us,rfl,_⟩:=h;rfl
 case fn=>obtain⟨b,o,rfl,_⟩:=h;rfl
 case iface=>obtain⟨x,rfl,_⟩:=h;rfl
 case mp=>obtain⟨x,rfl,_⟩:=h;rfl
 all_goals (subst h;rfl)
theorem Rel.cells{v:V}(h:Rel w m av R v u)(hl:∀c∈v.cells,c.leaf=YK)(B:∀id o,v= .ptr id o->(m id).isSome)(q:∀id s k,v= .bJ id s k->(m id).isSome)(r:∀id,v= .map id->(m id).isSome):
  ZJ w m av R v.cells u.cells.toList:=by
 have one:u.oneCell'=YK->ZJ w m av R [v] u.cells.toList:=by
  intro h1;have:u.cells= #[u]:=by cases u<;>simp[Value.oneCell']at h1<;>rfl
  rw[this];exact ZJ.cons h ZJ.nil
 cases v with
 | agg cs=>
   simp only[Rel]at h;obtain⟨us,rfl,h⟩:=h;simpa[V.cells,Value.cells]using h
 | pv p=>
   cases p with
   | agg ps=>
     simp only[Rel,ZH]at h;obtain⟨us,rfl,h⟩:=h;simpa[V.cells,Value.cells]using ZJ.ofP h
   | _=>
     refine one ?_;simp only[Rel]at h;exact h.leaf (by simpa[V.cells,V.leaf]using hl)
 |bS cs=>simp[V.cells,V.leaf]at hl
 | fn f a b=>
   refine one ?_;simp only[Rel]at h;obtain⟨us,vs,rfl,_⟩:=h;rfl
 | ptr id o=>
   refine one ?_;obtain⟨⟨b,N⟩,hm⟩:=V4.1 (B id o O);simp only[Rel]at h;rw[h.2 b N hm];rfl
 | bJ id s k=>
   refine one ?_;obtain⟨⟨b,N⟩,hm⟩:=V4.1 (q id s k O);simp only[Rel]at h;obtain⟨c,e,_⟩:=h.2 b N hm;rw[e];rfl
 | bz id s k=>
   refine one ?_;simp only[Rel]at h;obtain⟨_,A,c,e,_⟩:=h;rw[e];rfl
 | tsl id s k=>
   refine one ?_;simp only[Rel]at h;obtain⟨_,A,c,e,_⟩:=h;rw[e];rfl
 | map id=>
   refine one ?_;obtain⟨⟨b,N⟩,hm⟩:=V4.1 (r id O);simp only[Rel]at h;rw[h.2 b N hm];rfl
end
section
variable {C:Ctx}{n:Nat}{σ:St}{a:Act}{w:World}{m:Gm}{R:ew}
theorem SW.world(h:SW C n σ a w m R){w':World}{m':Gm}{R':ew}{ob':Nat->va}{av':Av}(q:HR C m' R' ob' av' w')(r:∀b,R b->R' b/\w'.heap[b]? =w.heap[b]?)
  (B:∀id x,σ.av id=YL->m' id=WB x->m id=WB x) (D:∀id,σ.av id=YL->av' id=YL):SW C n ⟨σ.sl,ob',av'⟩ a w' m' R':=
 ⟨q,h.df,h.sz,λt ht=>(h.sl t ht).mono r B D⟩
theorem SW.live(h:SW C n σ a w m R){o:Ob}(ho:σ.ob id=WB o)(r:o.real=YK:=by rfl):∃b N,m id=WB (b,N)/\nJ w m σ.av R b N o:=by have q:=h.hr.dom id;rw[ho]at q;replace q:=q.trans r;obtain⟨⟨b,N⟩,hm⟩:=V4.1 q;exact⟨b,N,hm,h.hr.obj id o b N ho hm⟩
theorem SW.ptr(h:SW C n σ a w m R){x:Operand}{o:Ob}(r:σ.ev n x= .ptr id off)(ho:σ.ob id=WB o)(q:o.real=YK:=by rfl):
  ∃b N,a.eval x= .pointer (WB ⟨b,off,WC⟩)/\m id=WB (b,N)/\nJ w m σ.av R b N o:=by
 obtain⟨b,N,hm,hr⟩:=h.live ho q;have:=h.ev x;rw[r]at this;simp only[Rel]at this;exact⟨b,N,this.2 b N hm,hm,hr⟩
theorem SW.bJ(h:SW C n σ a w m R){x:Operand}{o:Ob}(r:σ.ev n x= .bJ id sz k)(ho:σ.ob id=WB o)(q:o.real=YK:=by rfl):
  ∃b N c,a.eval x= .slice (WB ⟨b,0,WC⟩) k c/\k<=c/\c<=maxLen/\N=c*sz/\m id=WB (b,N)/\nJ w m σ.av R b N o:=by
 obtain⟨b,N,hm,hr⟩:=h.live ho q;have:=h.ev x;rw[r]at this;simp only[Rel]at this;obtain⟨c,e,h1,h2,h3⟩:=this.2 b N hm;exact⟨b,N,c,e,h1,h2,h3,hm,hr⟩
theorem SW.alloc(h:SW C n σ a w m R)(r:σ.av id=YK)(arr:YT)(ty:TypeId)(o:Ob)
  (ho:∀(w':World)(m':Gm)(av':Av),(∀b,R b->R b/\w'.heap[b]? =w.heap[b]?)->(∀i x,σ.av i=YL->m' i=WB x->m i=WB x)->(∀i,σ.av i=YL->av' i=YL)->
   w'.heap[w.heap.size]? =WB (.cells arr ty (0,0))->nJ w' m' av' R w.heap.size arr.size o) (M:o.real=YK:=by rfl):
  SW C n ⟨σ.sl,obL [(id,WB o)] σ.ob,avL [id] σ.av⟩ a (w.alloc (.cells arr ty)) (upd m id (WB (w.heap.size,arr.size))) R:=by
 have H:∀b,R b->R b/\(w.alloc (.cells arr ty)).heap[b]? =w.heap[b]? :=λb q=>⟨q,Below.heap_alloc w _ b (h.hr.rsz b q)⟩
 have I:∀i,σ.av i=YL->i≠id:=λi hi e=>by rw[e,r]at hi;cases hi
 have U:m id=WC:=by
  have:=h.hr.dom id;rw[h.hr.free id r]at this;simpa[cC]using this
 have L:∀i x,σ.av i=YL->upd m id (WB (w.heap.size,arr.size)) i=WB x->m i=WB x:=λi x hi e=>by rwa [a7 _ _ (I i hi)]at e
 have G:∀i,σ.av i=YL->avL [id] σ.av i=YL:=λi hi=>by grind[avL,Nat.beq]
 have V:(w.alloc (.cells arr ty)).heap.size=w.heap.size+1:=Zm;have B:∀i,i≠id->obL [(id,WB o)] σ.ob i=σ.ob i:=λi hi=>by grind[Nat.beq,bN,obL]
 have D:obL [(id,WB o)] σ.ob id=WB o:=by simp[obL]
 have W:∀i,(m i).isSome=YK->σ.av i=YL:=λi hi=>by
  cases q:σ.av i
  .rfl
  have:=h.hr.dom i;rw[h.hr.free i q,hi]at this;cases this
 refine h.world ⟨?_,?_,?_,?_,?_,?_,?_,?_,?_,?_,?_⟩ H L G
 .intro i;by_cases e:i=id
  .subst e;rw[aA,D];exact M.symm
  rw[a7 _ _ e,B i e];exact h.hr.dom i
 .intro i hi;simp only[avL]at hi;cases q:Nat.beq i id with
  |true=>rw[q]at hi;simp at hi
  | false=>
    rw[q]at hi;have e:i≠id:=λe=>by subst e;simp at q
    rw[B i e];exact h.hr.free i (by simpa using hi)
 .intro i o' b N h1 h2;by_cases e:i=id
  .subst e;rw[D]at h1;rw[aA]at h2;cases h1;cases h2;exact ho _ _ _ H L G (heap_alloc_new w _)
  rw[B i e]at h1;rw[a7 _ _ e]at h2;exact(h.hr.obj i o' b N h1 h2).mono H L G (Below.heap_alloc w _ b (h.hr.own i b N h2).1)
 .intro i j b N N' h1 h2;by_cases e1:i=id<;>by_cases e2:j=id
  .rw[e1,e2]
  .subst e1;rw[aA]at h1;rw[a7 _ _ e2]at h2;cases h1;have:=(h.hr.own j _ _ h2).1;omega
  .subst e2;rw[aA]at h2;rw[a7 _ _ e1]at h1;cases h2;have:=(h.hr.own i _ _ h1).1;omega
  rw[a7 _ _ e1]at h1;rw[a7 _ _ e2]at h2;exact h.hr.inj i j b N N' h1 h2
 .intro i b N h1;by_cases e:i=id
  .subst e;rw[aA]at h1;cases h1;exact⟨Zi,λq=>by have:=h.hr.rsz _ q;omega,.inr h.hr.frame.size⟩
  rw[a7 _ _ e]at h1;obtain⟨h2,h3,h4⟩:=h.hr.own i b N h1;exact⟨Zi,h3,h4⟩
 .intro b q;have:=h.hr.rsz b q;omega
 .exact h.hr.rfr
 .exact h.hr.r0
 .refine⟨h.hr.frame.os,h.hr.frame.tape,h.hr.frame.output,?_,?_⟩
  .have:=h.hr.frame.size;omega
  .intro k hk hF;rw[Below.heap_alloc w _ k (by have:=h.hr.frame.size;omega)];exact h.hr.frame.block k hk hF
 .intro i x hi e;have E:i≠id:=λX=>by subst X;rw[h.hr.res i hi]at r;cases r
  rw[a7 _ _ E]at e;exact h.hr.keep i x hi e
 .intro i hi;exact G i (h.hr.res i hi)
theorem SW.store(h:SW C n σ a w m R){b:Nat}(r:m id=WB (b,N))(arr arr':YT)(ty:TypeId)(V:w.heap[b]? =WB (.cells arr ty (0,0)))(W:arr'.size=N)(o:Ob)
  (ho:∀(w':World),(∀b,R b->R b/\w'.heap[b]? =w.heap[b]?)->w'.heap[b]? =WB (.cells arr' ty (0,0))->nJ w' m σ.av R b N o) (I:o.real=YK:=by rfl):
  SW C n ⟨σ.sl,obL [(id,WB o)] σ.ob,avL [] σ.av⟩ a (w.setRow b arr') m R:=by
 have E:=h.hr.own id b N r;have B:=setRow_heap w b arr arr' ty (0,0) V;have q:∀k,k≠b->(w.setRow b arr').heap[k]? =w.heap[k]? :=λk hk=>setRow_other w b k arr' hk
 have H:∀k,R k->R k/\(w.setRow b arr').heap[k]? =w.heap[k]? :=λk hk=>⟨hk,q k (λe=>E.2.1 (e▸hk))⟩
 have hs:(w.setRow b arr').heap.size=w.heap.size:=Zm;have D:∀i,i≠id->obL [(id,WB o)] σ.ob i=σ.ob i:=λi hi=>by grind[Nat.beq,bN,obL]
 have G:obL [(id,WB o)] σ.ob id=WB o:=by simp[obL]
 have L:∀i x,σ.av i=YL->m i=WB x->m i=WB x:=λ_ _ _ e=>e
 have M:∀i,σ.av i=YL->avL [] σ.av i=YL:=λ_ hi=>hi
 refine h.world ⟨?_,?_,?_,?_,?_,?_,?_,?_,?_,?_,?_⟩ H L M
 .intro i;by_cases e:i=id
  .subst e;rw[r,G];exact I.symm
  rw[D i e];exact h.hr.dom i
 .intro i hi;have e:i≠id:=λe=>by
   subst e;have:=h.hr.dom i;rw[h.hr.free i hi,r]at this;cases this
  rw[D i e];exact h.hr.free i hi
 .intro i o' b' N' h1 h2;by_cases e:i=id
  .subst e;rw[G]at h1;rw[r]at h2;cases h1;cases h2;exact ho _ H B
  rw[D i e]at h1;exact(h.hr.obj i o' b' N' h1 h2).mono H L M (q b' (λU=>e (h.hr.inj i id b N' N (U▸h2) r)))
 .exact h.hr.inj
 .intro i b' N' h1;obtain⟨h2,h3,h4⟩:=h.hr.own i b' N' h1;exact⟨Zi,h3,h4⟩
 .intro b' hb';have:=h.hr.rsz b' hb';omega
 .exact h.hr.rfr
 .exact h.hr.r0
 .refine⟨h.hr.frame.os,h.hr.frame.tape,h.hr.frame.output,?_,?_⟩
  .have:=h.hr.frame.size;omega
  .intro k hk hF;rw[q k (λe=>by subst e;rcases E.2.2 with h'|h';exact hF h';omega)];exact h.hr.frame.block k hk hF
 .exact h.hr.keep
 exact h.hr.res
end
def b8(P:Program)(t:TypeId)(k:Nat):Prop:=(P.info? t).map (·.size)=WB k
def isRow(P:Program)(t:TypeId):Prop:=∃d,P.underlying t=WB d/\d.isRow=YK
def iw(P:Program)(t:TypeId):Prop:=∃d,P.underlying t=WB d/\d.isRow=YL
theorem iw.run(h:iw P t)(w:World):(isAgg t).run P w= .ok YL w:=by obtain⟨d,hu,hd⟩:=h;unfold isAgg;rw[Sem.run_bind,run_underlying hu w];cases d<;>simp_all
theorem b8.run(h:b8 P t k)(w:World):(sizeOf t).run P w= .ok k w:=by
 unfold b8 at h;cases hq:P.info? t with
 |none=>simp[hq]at h
 |some i=>simp[hq]at h;simp[sizeOf,typeInfo,hq,h]
section
variable {C:Ctx}{n:Nat}{σ:St}{dst:YX}{ty t t':TypeId}{pos:String}{after:Y4}{gd:Option (Nat×Bool)}{x y:Operand}
theorem Vu(σ:St)(d:YX)(v:V)(wr:List (Nat×va))(nw:ee):σ.app d ⟨v,wr,nw⟩=St.put ⟨σ.sl,obL wr σ.ob,avL nw σ.av⟩ d v:=by cases d<;>rfl
theorem r8(id:Nat)(G:σ.av id=YK){v:V}(H:σ.ev n x=v)(hl:v.cells.all V.leaf=YK)(D:∀i o,v= .ptr i o->cC (σ.ob i)=YK)(q:∀i s k,v= .bJ i s k->cC (σ.ob i)=YK)(r:∀i,v= .map i->cC (σ.ob i)=YK):
  XJ C n ⟨dst,.box T x,ty,pos,after,gd⟩ σ ⟨.ptr id 0,[(id,WB (.mix T v.cells))],[id]⟩:=by
 rintro a w Q ⟨m,R,hw⟩;have B:=hw.ev x;rw[H]at B;have hc:=B.cells (by simpa using hl) (λi o e=>by rw[hw.hr.dom];exact D i o e) (λi s k e=>by rw[hw.hr.dom];exact q i s k e) (λi e=>by rw[hw.hr.dom];exact r i e);unfold Oper.wp;have E:(execOp a.eval ⟨dst,.box T x,ty,pos,after,gd⟩).run C.P w= .ok (.value (.pointer (WB ⟨w.heap.size,0,WC⟩))) (w.alloc (.cells (a.eval x).cells T)):=by
  simp[execOp,Instr.box,newVar,newRow]
 rw[E];refine⟨_,O,upd m id (WB (w.heap.size,(a.eval x).cells.size)),R,?_⟩;rw[Vu];refine SW.put (hw.alloc G (a.eval x).cells T (.mix T v.cells) ?_) dst ?_
 .intro w' m' av' hR hm ha hb;refine⟨_,hb,O,?_,?_⟩
  .rw[<-hc.length];simp
  have:(a.eval x).cells.toList.take v.cells.length=(a.eval x).cells.toList:=aG (by rw[<-hc.length];exact BY _);rw[this];exact hc.mono hR hm ha
 simp only[Rel];refine⟨by simp[avL],λb N e=>?_⟩;rw[aA]at e;cases e;rfl
theorem Nn(id:Nat){cs:na}(D:(C.P.info? T).map (·.zero)=WB (WB z))(B:z.cells.toList.map fq=cs)(E:σ.av id=YK):
  XJ C n ⟨dst,.alloc T,ty,pos,after,gd⟩ σ ⟨.ptr id 0,[(id,WB (.mix T (cs.map .pv)))],[id]⟩:=by
 rintro a w Q ⟨m,R,hw⟩;unfold Oper.wp;have r:(execOp a.eval ⟨dst,.alloc T,ty,pos,after,gd⟩).run C.P w= .ok (.value (.pointer (WB ⟨w.heap.size,0,WC⟩))) (w.alloc (.cells z.cells T)):=by
  cases hq:C.P.info? T with
  |none=>simp[hq]at D
  | some i=>
    simp[hq]at D;simp[execOp,Instr.alloc,zeroValue,typeInfo,hq,D,newVar,newRow]
 rw[r];refine⟨_,O,upd m id (WB (w.heap.size,z.cells.size)),R,?_⟩;rw[Vu];refine SW.put (hw.alloc E z.cells T (.mix T (cs.map .pv)) ?_) dst ?_
 .intro w' m' av' hR hm ha hb;have q:cs.length=z.cells.size:=by rw[<-B];simp
  refine⟨_,hb,O,by simp[q],?_⟩;have:z.cells.toList.take (cs.map V.pv).length=z.cells.toList:=aG (by simp[q]);rw[this];refine ZJ.ofP ?_;rw[<-B];generalize z.cells.toList=l;induction l with
  |nil=>simpa using ZG.nil
  |cons x l ih=>simpa using ZG.cons (fl w' R x) ih
 simp only[Rel];refine⟨by simp[avL],λb N e=>?_⟩;rw[aA]at e;cases e;rfl
theorem qp{b:Nat}{arr:YT}(r:w.heap[b]? =WB (.cells arr T (0,0)))(q:arr.toList.take k=us){j:Nat}(B:j<k):
  w.cell? ⟨b,j,WC⟩=us[j]? :=by
 rw[cell_of_row w b j arr T (0,0) r,<-q,V2,IT B];simp
theorem gN{T':TypeId}{cs:nR}{v:V}(B:iw C.P T)(D:σ.ev n x= .ptr id off)(ho:σ.ob id=WB (.mix T' cs))(r:cs[off]? =WB v):
  XJ C n ⟨dst,.load T x,ty,pos,after,gd⟩ σ ⟨v,[],[]⟩:=
 .val λa w m R hw=>by
  obtain⟨b,N,he,hm,arr,hb,hN,hle,hr⟩:=hw.ptr D ho;obtain⟨u,hu,hrel⟩:=hr.get r;have q:off<cs.length:=(VR.1 r).1;have hc:w.cell? ⟨b,off,WC⟩=WB u:=by rw[qp hb O q];exact hu
  exact⟨u,by simp[execOp,he,Instr.loadAt,Instr.sureAddr,loadVar,B.run,load,Sem.run,hc],hrel⟩
theorem aX{T':TypeId}{cs:na}{v:PV}(B:iw C.P T)(D:σ.ev n x= .ptr id off)(ho:σ.ob id=WB (.cells T' cs))(r:cs[off]? =WB v):
  XJ C n ⟨dst,.load T x,ty,pos,after,gd⟩ σ ⟨.pv v,[],[]⟩:=
 .val λa w m R hw=>by
  obtain⟨b,N,he,hm,arr,hb,hN,hle,hr⟩:=hw.ptr D ho;obtain⟨u,hu,hrel⟩:=hr.get r;have q:off<cs.length:=(VR.1 r).1;have hc:w.cell? ⟨b,off,WC⟩=WB u:=by rw[qp hb O q];exact hu
  exact⟨u,by simp[execOp,he,Instr.loadAt,Instr.sureAddr,loadVar,B.run,load,Sem.run,hc],by simpa only[Rel]using hrel⟩
theorem aC{cs:na}{v:PV}(r:iw C.P T)(B:σ.ev n x= .pv (.rp cs off))(D:cs[off]? =WB v):
  XJ C n ⟨dst,.load T x,ty,pos,after,gd⟩ σ ⟨.pv v,[],[]⟩:=
 .val λa w m R hw=>by
  have:=hw.pv B;simp only[ZH]at this;obtain⟨b,o,us,he,hr,hs⟩:=this;obtain⟨u,hu,hrel⟩:=hr.get D;have q:off<us.length:=(VR.1 hu).1;have hc:w.cell? ⟨b,o+off,WC⟩=WB u:=by rw[hs.2 off q];exact hu
  exact⟨u,by simp[execOp,he,Instr.loadAt,Instr.sureAddr,loadVar,r.run,load,Sem.run,hc],by simpa only[Rel]using hrel⟩
theorem Oy{T':TypeId}{cs vs:nR}(G:isRow C.P T)(E:b8 C.P T k)(H:σ.ev n x= .ptr id off)(ho:σ.ob id=WB (.mix T' cs))(I:(cs.drop off).take k=vs)(D:vs.length=k):
  XJ C n ⟨dst,.load T x,ty,pos,after,gd⟩ σ ⟨.agg vs,[],[]⟩:=
 .val λa w m R hw=>by
  obtain⟨b,N,he,hm,arr,hb,hN,hle',hr⟩:=hw.ptr H ho;have hl:off+k<=cs.length\/k=0:=by grind
  have q:=(hr.drop off).take k;rw[I]at q;have r:=q.length;obtain⟨d,hu,hd⟩:=G;have:=run_loadAt_mid (P:=C.P) w b off T (((arr.toList.take cs.length).drop off).take k) d (λj u hu=>by
   rw[V2]at hu;split at hu
   .rename_i hj;rw[WM]at hu;have B:=(VR.1 hu).1;rw[qp hb (k:=cs.length) O (by simp at B;omega)];exact hu
   grind) hu hd (by unfold b8 at E;rw[E,r,D])
  refine⟨_,by simp only[execOp,he,Sem.run_bind,this,Result.andThen_ok];rfl,?_⟩;simp only[Rel];exact⟨_,O,q⟩
theorem qQ{T':TypeId}{cs vs:na}(G:isRow C.P T)(E:b8 C.P T k)(H:σ.ev n x= .ptr id off)(ho:σ.ob id=WB (.cells T' cs))(I:(cs.drop off).take k=vs)(D:vs.length=k):
  XJ C n ⟨dst,.load T x,ty,pos,after,gd⟩ σ ⟨.pv (.agg vs),[],[]⟩:=
 .val λa w m R hw=>by
  obtain⟨b,N,he,hm,arr,hb,hN,hle',hr⟩:=hw.ptr H ho;have q:=(hr.drop off).take k;rw[I]at q;have r:=q.length;obtain⟨d,hu,hd⟩:=G;have:=run_loadAt_mid (P:=C.P) w b off T (((arr.toList.take cs.length).drop off).take k) d (λj u hu=>by
   rw[V2]at hu;split at hu
   .rename_i hj;rw[WM]at hu;have B:=(VR.1 hu).1;rw[qp hb (k:=cs.length) O (by simp at B;omega)];exact hu
   grind) hu hd (by unfold b8 at E;rw[E,r,D])
  refine⟨_,by simp only[execOp,he,Sem.run_bind,this,Result.andThen_ok];rfl,?_⟩;simp only[Rel,ZH];exact⟨_,O,q⟩
theorem aD{cs vs:na}(G:isRow C.P T)(E:b8 C.P T k)(H:σ.ev n x= .pv (.rp cs off))(I:(cs.drop off).take k=vs)(D:vs.length=k):
  XJ C n ⟨dst,.load T x,ty,pos,after,gd⟩ σ ⟨.pv (.agg vs),[],[]⟩:=
 .val λa w m R hw=>by
  have:=hw.pv H;simp only[ZH]at this;obtain⟨b,o,us,he,hr,hs⟩:=this;have q:=(hr.drop off).take k;rw[I]at q;have r:=q.length;obtain⟨d,hu,hd⟩:=G;have:=run_loadAt_mid (P:=C.P) w b (o+off) T ((us.drop off).take k) d (λj u hu=>by
   rw[V2]at hu;split at hu
   .rw[WM]at hu;have B:=(VR.1 hu).1;rw[Nat.add_assoc,hs.2 (off+j) B];exact hu
   grind) hu hd (by unfold b8 at E;rw[E,r,D])
  refine⟨_,by simp only[execOp,he,Sem.run_bind,this,Result.andThen_ok];rfl,?_⟩;simp only[Rel,ZH];exact⟨_,O,q⟩
end
end
section
theorem rh(l vs:List α)(off n:Nat)(h:off+vs.length<=n)(B:n<=l.length):
  (l.take off++vs++l.drop (off+vs.length)).take n=(l.take n).take off++vs++(l.take n).drop (off+vs.length):=by
 apply Ys;intro i;have q:min off l.length=off:=Zi;have r:min off (min n l.length)=off:=Zi;simp only[V2,List.getElem?_append,Hb,Vz,WM,q,r];by_cases hi:i<n
 .grind
 grind
def k7{α:Type}(l:List α)(off:Nat)(vs:List α):List α:=l.take off++vs++l.drop (off+vs.length)
theorem ZJ.k7{av:Av}{cs vs:nR}{xs:e7}(off:Nat)(h:ZJ w m av R cs us)(q:ZJ w m av R vs xs):ZJ w m av R (k7 cs off vs) (k7 us off xs):=by unfold Proofs.YthicoeegbdboeaaGreatDoor.k7;rw[q.length];exact(((h.take off).append q).append (h.drop _))
theorem cH(l:List α)(off:Nat)(vs:List α)(h:off+vs.length<=l.length):(k7 l off vs).length=l.length:=by unfold k7;simp only[Hb,Vz,Xb];omega
section
variable {C:Ctx}{n:Nat}{σ:St}{dst:YX}{ty t t':TypeId}{pos:String}{after:Y4}{gd:Option (Nat×Bool)}{x y:Operand}
theorem qS{b:Nat}{arr:YT}{T':TypeId}(r:w.heap[b]? =WB (.cells arr T' (0,0)))(B:b8 P T u.cells.size)(q:off+u.cells.size<=arr.size)(D:∀c∈u.cells.toList,c.oneCell'=YK):
  (Instr.storeAt T (.pointer (WB ⟨b,off,WC⟩)) u).run P w= .ok () (w.setRow b (k7 arr.toList off u.cells.toList).toArray):=by
 have:=run_storeCells_at (P:=P) b off T' u.cells.toList 0 arr w r (by simpa using q) D;simp only[XG]at this;simp[Instr.storeAt,Instr.sureAddr,storeVar,B.run,this,k7]
theorem oU{av:Av}:∀{vs:nR}{us:e7},ZJ w m av R vs us->(∀c∈vs,c.leaf=YK)->(∀c∈vs,∀id o,c= .ptr id o->(m id).isSome)->(∀c∈vs,∀id s k,c= .bJ id s k->(m id).isSome)->(∀c∈vs,∀id,c= .map id->(m id).isSome)->∀u∈us,u.oneCell'=YK
 |[],_,h,_,_,_,_=>by simp only[ZJ]at h;subst h;simp
 | c::cs,_,h,hl,h1,h2,h3=>by
   simp only[ZJ]at h;obtain⟨u,us,rfl,hc,hr⟩:=h;intro v hv;rcases By.1 hv with rfl|hv
   .have hlc:=hl c Zm;cases c with
    |pv p=>simp only[Rel]at hc;exact hc.leaf hlc
    | ptr id o=>
      obtain⟨⟨b,N⟩,hm⟩:=V4.1 (h1 _ Zm id o O);simp only[Rel]at hc;rw[hc.2 b N hm];rfl
    | bJ id s k=>
      obtain⟨⟨b,N⟩,hm⟩:=V4.1 (h2 _ Zm id s k O);simp only[Rel]at hc;obtain⟨c,e,_⟩:=hc.2 b N hm;rw[e];rfl
    |bz id s k=>simp only[Rel]at hc;obtain⟨_,A,c,e,_⟩:=hc;rw[e];rfl
    |tsl id s k=>simp only[Rel]at hc;obtain⟨_,A,c,e,_⟩:=hc;rw[e];rfl
    | map id=>
      obtain⟨⟨b,N⟩,hm⟩:=V4.1 (h3 _ Zm id O);simp only[Rel]at hc;rw[hc.2 b N hm];rfl
    |agg _=>simp[V.leaf]at hlc
    |bS _=>simp[V.leaf]at hlc
    |fn f a b=>simp only[Rel]at hc;obtain⟨us,vs,rfl,_⟩:=hc;rfl
   exact oU hr (λc hc=>hl c (by simp[hc])) (λc hc=>h1 c (by simp[hc])) (λc hc=>h2 c (by simp[hc])) (λc hc=>h3 c (by simp[hc])) v hv
def V.cq(ob:Nat->va):V->Bool
 | .ptr i _=>cC (ob i)
 | .bJ i _ _=>cC (ob i)
 | .map i=>cC (ob i)
 |_=>YK
theorem mY{T':TypeId}{cs:nR}{v:V}(M:b8 C.P T k)(U:σ.ev n x= .ptr id off)(ho:σ.ob id=WB (.mix T' cs))(W:σ.ev n y=v)(I:v.cells.length=k)(X:off+k<=cs.length)
  (hl:v.cells.all (λc=>c.leaf&&c.cq σ.ob)=YK) (r:v.cq σ.ob=YK):
  XJ C n ⟨WC,.store T x y,ty,pos,after,gd⟩ σ ⟨.pv .any,[(id,WB (.mix T' (k7 cs off v.cells)))],[]⟩:=by
 rintro a w Q ⟨m,R,hw⟩;obtain⟨b,N,he,hm,arr,hb,hN,hle',hr⟩:=hw.ptr U ho;have D:=hw.ev y;rw[W]at D;have q:∀i,cC (σ.ob i)=YK->(m i).isSome=YK:=λi hi=>by rw[hw.hr.dom];exact hi
 have B:∀c∈v.cells,c.leaf=YK/\c.cq σ.ob=YK:=by simpa using hl
 have hc:=D.cells (λc hc=>(B c hc).1) (λi o e=>q _ (by rw[e]at r;exact r)) (λi s k e=>q _ (by rw[e]at r;exact r)) (λi e=>q _ (by rw[e]at r;exact r));have L:=oU hc (λc hc=>(B c hc).1) (λc hc i o e=>q _ (by have:=(B c hc).2;rw[e]at this;exact this)) (λc hc i s k e=>q _ (by have:=(B c hc).2;rw[e]at this;exact this)) (λc hc i e=>q _ (by have:=(B c hc).2;rw[e]at this;exact this));have H:(a.eval y).cells.size=k:=by have:=hc.length;simp at this;omega
 have G:=qS (P:=C.P) (T:=T) (u:=a.eval y) (off:=off) hb (by rw[H];exact M) Zi L;unfold Oper.wp;have E:(execOp a.eval ⟨WC,.store T x y,ty,pos,after,gd⟩).run C.P w= .ok .skip (w.setRow b (k7 arr.toList off (a.eval y).cells.toList).toArray):=by
  simp only[execOp,he,Sem.run_bind,G,Result.andThen_ok,Sem.run_pure]
 rw[E];refine⟨_,O,m,R,?_⟩;refine hw.store hm arr _ T' hb (by simp only[WQ];rw[cH _ _ _ Zn];simpa using hN) _ ?_;intro w' hR hb';refine⟨_,hb',by simp only[WQ];rw[cH _ _ _ Zn];simpa using hN,by rw[cH _ _ _ Zi];exact hle',?_⟩;rw[cH cs off v.cells Zi];have e:(k7 arr.toList off (a.eval y).cells.toList).toArray.toList.take cs.length=k7 (arr.toList.take cs.length) off (a.eval y).cells.toList:=by grind[k7,rh]
 rw[e];exact(hr.k7 off hc).mono hR (λ_ _ _ e=>e) (λ_ e=>e)
theorem ba{T':TypeId}{cs:na}{v:PV}(I:b8 C.P T 1)(L:σ.ev n x= .ptr id off)(ho:σ.ob id=WB (.cells T' cs))(M:σ.ev n y= .pv v)(G:v.leaf=YK)(U:off<cs.length):
  XJ C n ⟨WC,.store T x y,ty,pos,after,gd⟩ σ ⟨.pv .any,[(id,WB (.cells T' (cs.set off v)))],[]⟩:=by
 rintro a w Q ⟨m,R,hw⟩;obtain⟨b,N,he,hm,arr,hb,hN,hle',hr⟩:=hw.ptr L ho;have r:=hw.pv M;have E:=r.leaf G;have q:(a.eval y).cells= #[a.eval y]:=by
  generalize a.eval y=u at E;cases u<;>simp[Value.oneCell']at E<;>rfl
 have D:=qS (P:=C.P) (T:=T) (u:=a.eval y) (off:=off) hb (by rw[q];exact I) (by rw[q];simp;omega) (by rw[q];simpa using E);unfold Oper.wp;have B:(execOp a.eval ⟨WC,.store T x y,ty,pos,after,gd⟩).run C.P w= .ok .skip (w.setRow b (k7 arr.toList off [a.eval y]).toArray):=by
  simp only[execOp,he,Sem.run_bind,D,Result.andThen_ok,Sem.run_pure,q]
 rw[B];have H:∀{α:Type}(l:List α)(z:α),off<l.length->k7 l off [z]=l.set off z:=by grind[k7,VV,XU]
 refine⟨_,O,m,R,?_⟩;refine hw.store hm arr _ T' hb (by simp only[WQ];rw[cH _ _ _ Zn];simpa using hN) _ ?_;intro w' hR hb';refine⟨_,hb',by simp only[WQ];rw[cH _ _ _ Zn];simpa using hN,by simpa using hle',?_⟩;have e:(k7 arr.toList off [a.eval y]).toArray.toList.take (cs.set off v).length=(arr.toList.take cs.length).set off (a.eval y):=by grind[rh,k7,VN]
 rw[e];exact(hr.set off r).mono hR
def gQ(P:Program)(s:TypeId)(i:Nat):Option Nat:=
 match P.underlying s with
 | some (.struct fs)=>
   match fs[i]? with
   | some f=>match P.info? f.type with
     |some inf=>bif Nat.beq inf.size 0 then WC else WB f.offset
     |none=>WC
   |none=>WC
 |_=>WC
theorem sJ{i:Nat}(h:gQ P s i=WB o)(w:World)(b off:Nat):(Instr.fieldAt s (.pointer (WB ⟨b,off,WC⟩)) i).run P w= .ok (.pointer (WB ⟨b,off+o,WC⟩)) w:=by
 unfold gQ at h;split at h
 .rename_i fs hu;split at h
  .rename_i f hf;split at h
   .rename_i inf hi;have q:inf.size≠0:=by
     intro e;rw[e]at h;simp at h
    have r:Nat.beq inf.size 0=YL:=by cases r:Nat.beq inf.size 0;rfl;exact absurd (bN r) q
    rw[r]at h;simp at h;subst h;simp[Instr.fieldAt,run_underlying hu,hf,Instr.sureAddr,fieldPlace,sizeOf,typeInfo,hi,q,Addr.add_lit]
   cases h
  cases h
 cases h
theorem ye{i:Nat}{ob:Ob}(D:gQ C.P s i=WB o)(B:σ.ev n x= .ptr id off)(ho:σ.ob id=WB ob)(r:ob.real=YK:=by rfl):
  XJ C n ⟨dst,.fieldAddr s x i,ty,pos,after,gd⟩ σ ⟨.ptr id (off+o),[],[]⟩:=
 .val λa w m R hw=>by
  obtain⟨b,N,he,hm,_⟩:=hw.ptr B ho r;have q:=hw.ev x;rw[B]at q;simp only[Rel]at q;refine⟨_,by simp only[execOp,he,Sem.run_bind,sJ D,Result.andThen_ok];rfl,?_⟩;simp only[Rel];exact⟨q.1,λb' N' e=>by rw[hm]at e;cases e;rfl⟩
theorem wD{i:Nat}{cs:na}(q:gQ C.P s i=WB o)(r:σ.ev n x= .pv (.rp cs off)):
  XJ C n ⟨dst,.fieldAddr s x i,ty,pos,after,gd⟩ σ ⟨.pv (.rp cs (off+o)),[],[]⟩:=
 .val λa w m R hw=>by
  have:=hw.pv r;simp only[ZH]at this;obtain⟨b,o',us,he,hr,hs⟩:=this;refine⟨_,by simp only[execOp,he,Sem.run_bind,sJ q,Result.andThen_ok];rfl,?_⟩;simp only[Rel,ZH];exact⟨b,o',us,by rw[Nat.add_assoc],hr,hs⟩
theorem lJ{s j c:Nat}(q:P.underlying T=WB (.slice e))(hs:b8 P e s)(r:i=(j:Int))(B:j<k)(w:World)(b off:Nat):
  (Instr.indexAt T (.slice (WB ⟨b,off,WC⟩) k c) (.int kk i)).run P w= .ok (.pointer (WB ⟨b,off+j*s,WC⟩)) w:=by
 subst r;have D:((j:Int))<(k:Int):=Zi;simp[Instr.indexAt,asIntOf,run_underlying q,hs.run,B,Addr.add_lit]
theorem ai{s:Nat}{cs:na}(j:Nat)(r:C.P.underlying T=WB (.slice e))(hs:b8 C.P e s)(B:σ.ev n x= .pv (.sl bn k cs))(D:σ.ev n y= .pv (.int kk i))(E:i=(j:Int))(G:j<k)(q:cs≠[]):
  XJ C n ⟨dst,.indexAddr T x y,ty,pos,after,gd⟩ σ ⟨.pv (.rp cs (j*s)),[],[]⟩:=
 .val λa w m R hw=>by
  have:=hw.pv B;simp only[ZH]at this;obtain⟨A,c,he,_,_,_,_,h5⟩:=this;obtain⟨b,off,us,rfl,hr,hsh⟩:=h5 q;refine⟨_,by simp only[execOp,he,hw.int D,Sem.run_bind,lJ r hs E G,Result.andThen_ok];rfl,?_⟩;simp only[Rel,ZH];exact⟨b,off,us,O,hr,hsh⟩
theorem ag{s:Nat}{o:Ob}(j:Nat)(D:C.P.underlying T=WB (.slice e))(hs:b8 C.P e s)(B:σ.ev n x= .bJ id sz k)(ho:σ.ob id=WB o)(E:σ.ev n y= .pv (.int kk i))(G:i=(j:Int))(H:j<k)(r:o.real=YK:=by rfl):
  XJ C n ⟨dst,.indexAddr T x y,ty,pos,after,gd⟩ σ ⟨.ptr id (j*s),[],[]⟩:=
 .val λa w m R hw=>by
  obtain⟨b,N,c,he,_,_,_,hm,_⟩:=hw.bJ B ho r;have q:=hw.ev x;rw[B]at q;simp only[Rel]at q;refine⟨_,by simp only[execOp,he,hw.int E,Sem.run_bind,lJ D hs G H,Result.andThen_ok];rfl,?_⟩;simp only[Rel];exact⟨q.1,λb' N' e=>by rw[hm]at e;cases e;simp⟩
theorem j4{i:Nat}{ps:na}{p:PV}{f:Field}{fs:Array Field}(q:C.P.underlying s=WB (.struct fs))(r:fs[i]? =WB f)(ho:f.offset=o)(B:iw C.P f.type)(D:σ.ev n x= .pv (.agg ps))(E:ps[o]? =WB p):
  XJ C n ⟨dst,.field s x i,ty,pos,after,gd⟩ σ ⟨.pv p,[],[]⟩:=
 .val λa w m R hw=>by
  have:=hw.pv D;simp only[ZH]at this;obtain⟨us,he,hr⟩:=this;obtain⟨u,hu',hrel⟩:=hr.get E;refine⟨u,?_,by simpa only[Rel]using hrel⟩;simp[execOp,he,Instr.field,run_underlying q,r,asAgg,part,B.run,ho,hu']
theorem CA{s:Nat}{cs:na}(lo hi:Option Operand)(l h:Nat)(L:C.P.underlying T=WB (.slice e))(hs:b8 C.P e s)(X:σ.ev n x= .pv (.sl bn k cs))
  (G:∀y,lo=WB y->σ.ev n y= .pv (.int kl il)/\il=(l:Int)) (H:lo=WC->l=0) (I:∀y,hi=WB y->σ.ev n y= .pv (.int kh ih)/\ih=(h:Int)) (r:hi=WC->h=k) (V:l<=h) (Z:h<=k) (Y:cs.length=k*s):
  XJ C n ⟨dst,.slice T x lo hi WC,ty,pos,after,gd⟩ σ ⟨.pv (.sl bn (h-l) ((cs.drop (l*s)).take ((h-l)*s))),[],[]⟩:=
 .val λa w m R hw=>by
  have:=hw.pv X;simp only[ZH]at this;obtain⟨A,c,he,hkc,hcm,hbn,hb0,h5⟩:=this;have M:∀y,lo=WB y->a.eval y= .int kl l:=λy hy=>by rw[hw.int (G y hy).1,(G y hy).2]
  have U:∀y,hi=WB y->a.eval y= .int kh h:=λy hy=>by rw[hw.int (I y hy).1,(I y hy).2]
  refine⟨.slice (if c=l then A else A.map (·.add (l*s))) (h-l) (c-l),?_,?_⟩
  .have hlc:h<=c:=Zi;cases lo with
   | none=>
     have W:=H O;subst W;cases hi with
     | none=>
       have B:=r O;subst B;simp[execOp,he,Instr.sliceAt,Instr.slice,Instr.sliceBounds,run_underlying L,hs.run]
     | some y2=>
       simp[execOp,he,U y2 O,Instr.sliceAt,Instr.slice,Instr.sliceBounds,Instr.sliceBound,asIntOf,run_underlying L,hs.run,hlc]
   | some y1=>
     cases hi with
     | none=>
       have B:=r O;subst B;simp[execOp,he,M y1 O,Instr.sliceAt,Instr.slice,Instr.sliceBounds,Instr.sliceBound,asIntOf,run_underlying L,hs.run,V]
     | some y2=>
       simp[execOp,he,M y1 O,U y2 O,Instr.sliceAt,Instr.slice,Instr.sliceBounds,Instr.sliceBound,asIntOf,run_underlying L,hs.run,V,hlc]
  simp only[Rel,ZH];refine⟨_,_,O,Zi,Zi,?_,λe=>by have:=hb0 e;omega,?_⟩
  .intro q hq;rw[hbn q hq];split<;>simp
  .intro hne;have D:cs≠[]:=by rintro rfl;simp at hne
   obtain⟨b,off,us,rfl,hr,hsh⟩:=h5 D;have E:c≠l:=by grind
   rw[AS E];refine⟨b,off+l*s,(us.drop (l*s)).take ((h-l)*s),by simp[Addr.add_lit],(hr.drop _).take _,hsh.1,?_⟩;intro j hj;simp only[Vz,Xb]at hj;rw[V2,IT Zi,WM,Nat.add_assoc];exact hsh.2 _ Zi
theorem eh{z:er}(lo hi:Option Operand)(l h:Nat)(H:C.P.underlying T=WB .string)(W:σ.ev n x= .pv (.str z))
  (B:∀y,lo=WB y->σ.ev n y= .pv (.int kl il)/\il=(l:Int)) (D:lo=WC->l=0) (E:∀y,hi=WB y->σ.ev n y= .pv (.int kh ih)/\ih=(h:Int)) (q:hi=WC->h=z.size) (M:l<=h) (U:h<=z.size):
  XJ C n ⟨dst,.slice T x lo hi WC,ty,pos,after,gd⟩ σ ⟨.pv (.str (z.extract l h)),[],[]⟩:=
 .lit O λa w m R hw=>by
  have G:=hw.str W;have I:∀y,lo=WB y->a.eval y= .int kl l:=λy hy=>by rw[hw.int (B y hy).1,(B y hy).2]
  have L:∀y,hi=WB y->a.eval y= .int kh h:=λy hy=>by rw[hw.int (E y hy).1,(E y hy).2]
  cases lo with
  | none=>
    have V:=D O;subst V;cases hi with
    | none=>
      have r:=q O;subst r;simp[execOp,G,Instr.sliceAt,Instr.slice,Instr.sliceBounds,run_underlying H,zc]
    | some y2=>
      simp[execOp,G,L y2 O,Instr.sliceAt,Instr.slice,Instr.sliceBounds,Instr.sliceBound,asIntOf,run_underlying H,U,zc]
  | some y1=>
    cases hi with
    | none=>
      have r:=q O;subst r;simp[execOp,G,I y1 O,Instr.sliceAt,Instr.slice,Instr.sliceBounds,Instr.sliceBound,asIntOf,run_underlying H,M,zc]
    | some y2=>
      simp[execOp,G,I y1 O,L y2 O,Instr.sliceAt,Instr.slice,Instr.sliceBounds,Instr.sliceBound,asIntOf,run_underlying H,M,U,zc]
theorem bp{z:er}(j:Nat)(r:C.P.underlying T=WB .string)(B:σ.ev n x= .pv (.str z))(D:σ.ev n y= .pv (.int kk i))(E:i=(j:Int))(q:j<z.size):
  XJ C n ⟨dst,.index T x y,ty,pos,after,gd⟩ σ ⟨.pv (.int .u8 (z[j]'q).toNat),[],[]⟩:=
 .lit O λa w m R hw=>by
  subst E;simp[execOp,hw.str B,hw.int D,Instr.index,asIntOf,run_underlying r,zc,q]
end
end
section
section
variable {C:Ctx}{n:Nat}{σ:St}{a:Act}{w:World}{m:Gm}{R:ew}
theorem SW.drop(h:SW C n σ a w m R)(id:Nat):SW C n ⟨σ.sl,obL [(id,WC)] σ.ob,σ.av⟩ a w (upd m id WC) R:=by
 have r:∀i,i≠id->obL [(id,WC)] σ.ob i=σ.ob i:=λi hi=>by grind[Nat.beq,bN,obL]
 have B:obL [(id,WC)] σ.ob id=WC:=by simp[obL]
 have q:∀i x,upd m id WC i=WB x->m i=WB x:=λi x e=>by grind[aA,a7]
 refine h.world ⟨?_,?_,?_,?_,?_,?_,?_,?_,?_,?_,?_⟩ (λb hb=>⟨hb,O⟩) (λi x _ e=>q i x e) (λ_ e=>e)
 .intro i;by_cases e:i=id
  .subst e;rw[aA,B];rfl
  rw[a7 _ _ e,r i e];exact h.hr.dom i
 .intro i hi;by_cases e:i=id
  .subst e;exact B
  rw[r i e];exact h.hr.free i hi
 .intro i o b N h1 h2;have e:i≠id:=λe=>by subst e;rw[aA]at h2;cases h2
  rw[r i e]at h1;exact(h.hr.obj i o b N h1 (q _ _ h2)).mono (λb hb=>⟨hb,O⟩) (λi x _ e=>q i x e) (λ_ e=>e) O
 .intro i j b N N' h1 h2;exact h.hr.inj i j b N N' (q _ _ h1) (q _ _ h2)
 .intro i b N h1;exact h.hr.own i b N (q _ _ h1)
 .exact h.hr.rsz
 .exact h.hr.rfr
 .exact h.hr.r0
 .exact h.hr.frame
 .exact λi x hi e=>h.hr.keep i x hi (q i x e)
 exact h.hr.res
theorem SW.fresh(h:SW C n σ a w m R)(H:σ.av id=YK){w':World}{g:Nat}{arr:YT}{ty:TypeId}(Z:w'.heap[g]? =WB (.cells arr ty (0,0))){row:Option Nat}(r:w.grownBy w' row)(D:∀k,row=WB k->¬R k/\(∀i b N,m i=WB (b,N)->b≠k)/\(C.F k\/C.w0.heap.size<=k))
  (aa:¬R g) (ab:∀i b N,m i=WB (b,N)->b≠g) (ac:C.F g\/C.w0.heap.size<=g) (o:Ob)
  (ho:∀(m':Gm)(av':Av),(∀b,R b->R b/\w'.heap[b]? =w.heap[b]?)->(∀i x,σ.av i=YL->m' i=WB x->m i=WB x)->(∀i,σ.av i=YL->av' i=YL)->nJ w' m' av' R g arr.size o) (U:o.real=YK:=by rfl):
  SW C n ⟨σ.sl,obL [(id,WB o)] σ.ob,avL [id] σ.av⟩ a w' (upd m id (WB (g,arr.size))) R:=by
 have B:∀k,k<w.heap.size->(∀q,row=WB q->k≠q)->w'.heap[k]? =w.heap[k]? :=λk hk E=>r.block k hk (λe=>E k e.symm O)
 have X:g<w'.heap.size:=(VP.1 Z).1;have V:∀b,R b->R b/\w'.heap[b]? =w.heap[b]? :=λb hb=>⟨hb,B b (h.hr.rsz b hb) (λq hq e=>(D q hq).1 (e▸hb))⟩
 have E:∀i,σ.av i=YL->i≠id:=λi hi e=>by rw[e,H]at hi;cases hi
 have W:∀i x,σ.av i=YL->upd m id (WB (g,arr.size)) i=WB x->m i=WB x:=λi x hi e=>by rwa [a7 _ _ (E i hi)]at e
 have L:∀i,σ.av i=YL->avL [id] σ.av i=YL:=λi hi=>by grind[avL,Nat.beq]
 have G:∀i,i≠id->obL [(id,WB o)] σ.ob i=σ.ob i:=λi hi=>by grind[Nat.beq,bN,obL]
 have M:obL [(id,WB o)] σ.ob id=WB o:=by simp[obL]
 refine h.world ⟨?_,?_,?_,?_,?_,?_,?_,?_,?_,?_,?_⟩ V W L
 .intro i;by_cases e:i=id
  .subst e;rw[aA,M];exact U.symm
  rw[a7 _ _ e,G i e];exact h.hr.dom i
 .intro i hi;simp only[avL]at hi;cases hb:Nat.beq i id with
  |true=>rw[hb]at hi;simp at hi
  | false=>
    rw[hb]at hi;have e:i≠id:=λe=>by subst e;simp at hb
    rw[G i e];exact h.hr.free i (by simpa using hi)
 .intro i o' b N h1 h2;by_cases e:i=id
  .grind[aA]
  rw[G i e]at h1;rw[a7 _ _ e]at h2;exact(h.hr.obj i o' b N h1 h2).mono V W L (B b (h.hr.own i b N h2).1 (λq hq=>(D q hq).2.1 i b N h2))
 .intro i j b N N' h1 h2;by_cases e1:i=id<;>by_cases e2:j=id
  .rw[e1,e2]
  .grind[aA,a7]
  .grind[aA,a7]
  rw[a7 _ _ e1]at h1;rw[a7 _ _ e2]at h2;exact h.hr.inj i j b N N' h1 h2
 .intro i b N h1;by_cases e:i=id
  .grind[aA]
  rw[a7 _ _ e]at h1;obtain⟨h2,h3,h4⟩:=h.hr.own i b N h1;exact⟨VW h2 r.size,h3,h4⟩
 .intro b hb;exact VW (h.hr.rsz b hb) r.size
 .exact h.hr.rfr
 .exact h.hr.r0
 .refine⟨r.os.trans h.hr.frame.os,r.tape.trans h.hr.frame.tape,r.output.trans h.hr.frame.output,OF h.hr.frame.size r.size,?_⟩;intro k hk hF;rw[B k (VW hk h.hr.frame.size) (λq hq e=>by subst e;rcases(D k hq).2.2 with h'|h';exact hF h';omega)];exact h.hr.frame.block k hk hF
 .intro i x hi e;have I:i≠id:=λY=>by subst Y;rw[h.hr.res i hi]at H;cases H
  rw[a7 _ _ I]at e;exact h.hr.keep i x hi e
 .intro i hi;exact L i (h.hr.res i hi)
end
theorem eU:∀{vs:na}{us:e7},ZG w R vs us->(∀c∈vs,c.leaf=YK)->∀u∈us,u.oneCell'=YK
 |[],_,h,_=>by simp only[ZG]at h;subst h;simp
 | c::cs,_,h,hl=>by
   simp only[ZG]at h;obtain⟨u,us,rfl,hc,hr⟩:=h;intro v hv;rcases By.1 hv with rfl|hv
   .exact hc.leaf (hl c Zm)
   exact eU hr (λc hc=>hl c (by simp[hc])) v hv
structure ZP(P:Program)(t e:TypeId)(z:Value)(size bytes:Nat):Prop where
 u:P.underlying t=WB (.slice e)
 info:(P.info? e).map (λi=>(i.zero,i.size,i.bytes))=WB (WB z,size,bytes)
 zs:z.cells.size=size
 pos:0<size
 by_:bytes<=1000
theorem Lg{C:Ctx}{σ:St}(q:SW C n σ a w m R){i j b b' N':Nat}(r:m i=WB (b',N'))(B:m j=WB (b,N))(e:b'=b):i=j:=by subst e;exact q.hr.inj i j b' N' N r B
section
variable {C:Ctx}{n:Nat}{σ:St}{dst:YX}{ty t t':TypeId}{pos:String}{after:Y4}{gd:Option (Nat×Bool)}{x y:Operand}
def oR(n:Nat)(σ:St)(x:Operand)(k:Nat)(news:na):Prop:=
 (∃b,σ.ev n x= .pv (.sl b k news))\/(∃id sz T cs,σ.ev n x= .bJ id sz k/\σ.ob id=WB (.cells T cs)/\news=cs.take (k*sz))
theorem oR.row(r:SW C n σ a w m R){news:na}(h:oR n σ x k news):
  ∃A c us,a.eval x= .slice A k c/\ZG w R news us/\Row w Any A us:=by
 rcases h with⟨b,hx⟩|⟨id,sz,T,cs,hx,ho,rfl⟩
 .have:=r.pv hx;simp only[ZH]at this;obtain⟨A,c,he,_,_,_,_,h5⟩:=this;by_cases q:news=[]
  .subst q;exact⟨A,c,[],he,ZG.nil,Row.nil⟩
  obtain⟨b,off,us,rfl,hr,hs⟩:=h5 q;refine⟨_,c,us,he,hr,λq=>⟨b,off,O,Zp,r.hr.rsz b hs.1,λj hj=>hs.2 j hj⟩⟩
 obtain⟨b,N,c,he,_,_,hN,hm,arr,hb,hsz,hle,hr⟩:=r.bJ hx ho;refine⟨_,c,_,he,hr.take (k*sz),λq=>⟨b,0,O,Zp,(r.hr.own id b N hm).1,λj hj=>?_⟩⟩;simp only[Vz]at hj;rw[Wm,cell_of_row w b j arr T (0,0) hb,V2,IT Zi,V2,IT Zi];simp
def PK(C:Ctx)(n:Nat)(σ:St)(y:Operand)(j:Nat)(news:na):Prop:=∀{a:Act}{w:World}{m:Gm}{R:ew},SW C n σ a w m R->∃A c us,a.eval y= .slice A j c/\ZG w R news us/\Row w Any A us
theorem c6{j:Nat}{cs news:na}(id':Nat)(L:ZP C.P t e z size bytes)(hs:σ.ev n x= .bJ id size k)(ho:σ.ob id=WB (.cells e cs))(V:k*size<=cs.length)
  (M:PK C n σ y j news) (hl:news.length=j*size) (W:∀c∈news,c.leaf=YK) (Y:k+j<=1000000000) (X:σ.av id'=YK):
  XJ C n ⟨dst,.call { callee:= .builtin .append,args:= #[x,y],argTypes:= #[t,t] },ty,pos,after,gd⟩ σ ⟨.bJ id' size (k+j),[(id',WB (.cells e (cs.take (k*size)++news))),(id,WC)],[id']⟩:=by
 rintro a w Q ⟨m,R,hw⟩;obtain⟨b,N,c,hev,hkc,hcm,hN,hm,arr,hbk,hsz,hle,hr⟩:=hw.bJ hs ho;obtain⟨A,c2,us,hev2,hr2,hrow⟩:=M hw;have G:w.ownsRow 0 e size (.slice (WB ⟨b,0,WC⟩) k c) k (arr.toList.take (k*size)):=by
  refine⟨?_,.inr ⟨b,c,arr,O,sh _,hbk,hkc,hcm,by rw[hsz,hN],O⟩⟩;have:=WK size hkc;simp only[Vz,Wg];omega
 refine r6 x y t O 0 e z size bytes L.u L.info L.zs L.pos L.by_ _ k j c2 A _ us hev hev2 G hrow (by rw[hr2.length,hl]) (eU hr2 W) Y (sh _) ?_;intro A' c' w' hown' hgr hat
 have H:=hw.hr.own id b N hm;have D:ZG w R (cs.take (k*size)++news) (arr.toList.take (k*size)++us):=by
  have I:=hr.take (k*size);rw[Yl,W6 V]at I;exact I.append hr2
 have E:∀i x,upd m id WC i=WB x->m i=WB x/\i≠id:=λi x e=>by grind[aA,a7]
 have B:¬R b/\(∀i b' N',upd m id WC i=WB (b',N')->b'≠b)/\(C.F b\/C.w0.heap.size<=b):=
  ⟨H.2.1,λi b' N' hi e=>(E i _ hi).2 (Lg hw (E i _ hi).1 hm e),H.2.2⟩
 rcases hown'.2 with⟨hv,h0⟩|⟨g,cap,cur,hv,_,hg,hkc',hcm',hcs',htk⟩
 .exfalso;simp only[Value.slice.injEq]at hv;obtain⟨rfl,_,_⟩:=hv;rcases hat with h|⟨g',h,_⟩<;>simp[Value.ownBlock]at h
 simp only[Value.slice.injEq]at hv;obtain⟨rfl, -,rfl⟩:=hv;have r:¬R g/\(∀i b' N',upd m id WC i=WB (b',N')->b'≠g)/\(C.F g\/C.w0.heap.size<=g):=by
  rcases hat with h|⟨g',h,hle⟩
  .simp only[Value.ownBlock,VM]at h;rw[h];exact B
  simp only[Value.ownBlock,VM]at h;subst h;refine⟨λh=>?_,λi b' N' hi e=>?_,.inr ?_⟩
  .have:=hw.hr.rsz _ h;omega
  .have:=(hw.hr.own i b' N' (E i _ hi).1).1;omega
  have:=hw.hr.frame.size;omega
 have U:(arr.toList.take (k*size)++us).length=(k+j)*size:=hown'.1;refine⟨_,O,upd (upd m id WC) id' (WB (g,cur.size)),R,?_⟩;rw[Vu];refine SW.put ((hw.drop id).fresh X hg hgr (λq hq=>by simp[Value.ownBlock]at hq;subst hq;exact B) r.1 r.2.1 r.2.2 (.cells e (cs.take (k*size)++news)) ?_) dst ?_
 .intro m' av' hR _ _;refine⟨cur,hg,O,?_,?_⟩
  .grind
  rw[<-D.length,U,htk];exact D.mono hR
 simp only[Rel];refine⟨by simp[avL],λb N e=>?_⟩;rw[aA]at e;cases e;exact⟨c',O,hkc',hcm',hcs'⟩
theorem gz{j:Nat}{cs news:na}(id':Nat)(G:ZP C.P t e z size bytes)(hs:σ.ev n x= .bJ id size k)(ho:σ.ob id=WB (.cells e cs))(q:cs.length=k*size)
  (r:oR n σ y j news) (hl:news.length=j*size) (B:∀c∈news,c.leaf=YK) (H:k+j<=1000000000) (D:σ.av id'=YK):
  XJ C n ⟨dst,.call { callee:= .builtin .append,args:= #[x,y],argTypes:= #[t,t] },ty,pos,after,gd⟩ σ ⟨.bJ id' size (k+j),[(id',WB (.cells e (cs++news))),(id,WC)],[id']⟩:=by
 have h:=c6 (dst:=dst) (ty:=ty) (pos:=pos) (after:=after) (gd:=gd) id' G hs ho (Xz q.symm) (λE=>r.row E) hl B H D;rwa [<-q,XD]at h
theorem ir{j:Nat}{news:na}(id':Nat)(r:ZP C.P t e z size bytes)(hs:σ.ev n x= .pv (.sl (WB YK) 0 []))
  (B:oR n σ y j news) (hl:news.length=j*size) (E:∀c∈news,c.leaf=YK) (L:j<=1000000000) (M:0<j) (G:σ.av id'=YK):
  XJ C n ⟨dst,.call { callee:= .builtin .append,args:= #[x,y],argTypes:= #[t,t] },ty,pos,after,gd⟩ σ ⟨.bJ id' size j,[(id',WB (.cells e news))],[id']⟩:=by
 rintro a w Q ⟨m,R,hw⟩;have H:=hw.pv hs;simp only[ZH]at H;obtain⟨A0,c0,hev,_,_,hn,hc0,_⟩:=H;have D:A0=WC:=by cases A0;rfl;have:=hn YK O;simp at this
 subst D;rw[hc0 trivial]at hev;obtain⟨A,c2,us,hev2,hr2,hrow⟩:=B.row hw;refine r6 x y t O 0 e z size bytes r.u r.info r.zs r.pos r.by_ _ 0 j c2 A _ us hev hev2 (World.ownsRow_nil w 0 e size) hrow (by rw[hr2.length,hl]) (eU hr2 E) Zi (sh _) ?_;intro A' c' w' hown' hgr hat
 simp only[Wm,WZ]at hown' hat ⊢;rcases hown'.2 with⟨hv,h0⟩|⟨g,cap,cur,hv,_,hg,hkc',hcm',hcs',htk⟩
 .omega
 simp only[Value.slice.injEq]at hv;obtain⟨rfl, -,rfl⟩:=hv;have I:w.heap.size<=g:=by
  rcases hat with h|⟨g',h,hle⟩
  .simp[Value.ownBlock]at h
  simp only[Value.ownBlock,VM]at h;subst h;exact hle
 refine⟨_,O,upd m id' (WB (g,cur.size)),R,?_⟩;rw[Vu];refine SW.put (hw.fresh G hg hgr (λq hq=>by simp[Value.ownBlock]at hq) (λh=>by have:=hw.hr.rsz _ h;omega) (λi b N hi e=>by have:=(hw.hr.own i b N hi).1;omega) (.inr (by have:=hw.hr.frame.size;omega)) (.cells e news) ?_) dst ?_
 .intro m' av' hR _ _;refine⟨cur,hg,O,?_,?_⟩
  .rw[hcs',<-hr2.length,hown'.1];exact WK _ hkc'
  rw[<-hr2.length,hown'.1,htk];exact hr2.mono hR
 simp only[Rel];refine⟨by simp[avL],λb N e=>?_⟩;rw[aA]at e;cases e;exact⟨c',O,hkc',hcm',hcs'⟩
end
end
section
def look:Zx->Nat->V
 |[],_=> .pv .any
 |(d,v)::l,t=>bif Nat.beq t d then v else look l t
def au:Zy->Nat->va
 |[],_=>WC
 |(d,v)::l,t=>bif Nat.beq t d then WB v else au l t
def avK(k:Nat):Av:=λid=>Nat.ble k id&&Nat.blt id big
def ZT(l:Zx)(os:Zy)(k:Nat):St:=⟨look l,au os,avK k⟩
mutual
def V.okA(k:Nat):V->Bool
 | .pv _=>YK
 | .ptr id _=>Nat.blt id k||Nat.ble big id
 | .bJ id _ _=>Nat.blt id k||Nat.ble big id
 | .tsl id _ _=>Nat.blt id k||Nat.ble big id
 | .bz id _ _=>Nat.blt id k||Nat.ble big id
 | .map id=>Nat.blt id k||Nat.ble big id
 | .agg cs=>V.okL k cs
 | .bS cs=>V.okL k cs
 | .fn _ a b=>V.okL k a&&V.okL k b
def V.okL(k:Nat):nR->Bool
 |[]=>YK
 |c::cs=>V.okA k c&&V.okL k cs
end
def Ob.okA(k:Nat):Ob->Bool
 | .cells _ _=>YK
 | .mix _ cs=>V.okL k cs
 | .bD _ _=>YK
 | .mp _ _=>YK
 | .it _ _=>YK
 | .fro _ _=>YK
 | .mi _ _ _=>YK
section
variable {w:World}{m m':Gm}{av:Av}{R:ew}{k:Nat}
theorem np{k:Nat}(h:(Nat.blt id k||Nat.ble big id)=YK):avK k id=YL:=by
 unfold avK;cases hb:Nat.ble k id
 .rfl
 cases hc:Nat.blt id big
 .rfl
 have h1:=V7 hb;have q:id<big:=by simpa[XW]using hc
 rcases(Bool.or_eq_true_iff).1 h with h|h
 .grind[XW]
 have h2:=V7 h;omega
theorem P7{k:Nat}(h:avK k id=YK):k<=id/\id<big:=by simp_all[avK,aJ,V7,XW]
theorem ie{k:Nat}(h:big<=id):avK k id=YL:=by
 cases hb:avK k id
 .rfl
 have:=(P7 hb).2;omega
mutual
theorem Rel.okA(q:∀id x,m' id=WB x->m id=WB x):∀(v:V)(u:Value),v.okA k=YK->Rel w m av R v u->Rel w m' (avK k) R v u
 | .pv p,u,_,h=>by simpa only[Rel]using h
 | .ptr id off,_,ho,h=>by simp only[V.okA]at ho;simp only[Rel]at h ⊢; exact⟨np ho,λb N e=>h.2 b N (q _ _ e)⟩
 | .bJ id sz n,_,ho,h=>by simp only[V.okA]at ho;simp only[Rel]at h ⊢; exact⟨np ho,λb N e=>h.2 b N (q _ _ e)⟩
 | .tsl id sz n,_,ho,h=>by
   simp only[V.okA]at ho;simp only[Rel]at h ⊢;obtain⟨h0,A,c,e,h1⟩:=h;exact⟨np ho,A,c,e,λhq b N e=>h1 hq b N (q _ _ e)⟩
 | .bz id sz n,_,ho,h=>by
   simp only[V.okA]at ho;simp only[Rel]at h ⊢;obtain⟨h0,A,c,e,h1,h2,h3,h4⟩:=h;exact⟨np ho,A,c,e,h1,h2,λr=>⟨(h3 r).1,(h3 r).2.1,qx (λx=>q id x) (h3 r).2.2⟩,λhp b N e=>h4 hp b N (q _ _ e)⟩
 | .map id,_,ho,h=>by simp only[V.okA]at ho;simp only[Rel]at h ⊢; exact⟨np ho,λb N e=>h.2 b N (q _ _ e)⟩
 | .agg cs,_,ho,h=>by
   simp only[V.okA]at ho;simp only[Rel]at h ⊢;obtain⟨us,e,h⟩:=h;exact⟨us,e,ZJ.okA q cs us ho h⟩
 | .bS cs,_,ho,h=>by
   simp only[V.okA]at ho;simp only[Rel]at h ⊢;obtain⟨us,e,h⟩:=h;exact⟨us,e,ZJ.okA q cs us ho h⟩
 | .fn f fs cs,_,ho,h=>by
   simp only[V.okA,aJ]at ho;simp only[Rel]at h ⊢;obtain⟨us,vs,e,h1,h2⟩:=h;exact⟨us,vs,e,ZJ.okA q fs us ho.1 h1,ZJ.okA q cs vs ho.2 h2⟩
theorem ZJ.okA(q:∀id x,m' id=WB x->m id=WB x):∀(vs:nR)(us:e7),V.okL k vs=YK->ZJ w m av R vs us->ZJ w m' (avK k) R vs us
 |[],_,_,h=>by simpa only[ZJ]using h
 | c::cs,_,ho,h=>by
   simp only[V.okL,aJ]at ho;simp only[ZJ]at h ⊢;obtain⟨u,vs,e,h1,h2⟩:=h;exact⟨u,vs,e,Rel.okA q c u ho.1 h1,ZJ.okA q cs vs ho.2 h2⟩
end
end
def GB(σ:St):Zx->Prop
 |[]=>True
 |(t,v)::l=>σ.sl t=v/\GB σ l
def KH(σ:St):Zy->Prop
 |[]=>True
 |(t,v)::l=>σ.ob t=WB v/\KH σ l
theorem zx{σ:St}:∀{l:Zx},GB σ l->∀t,look l t= .pv .any\/look l t=σ.sl t
 |[],_,_=> .inl O
 | (d,v)::l,h,t=>by
   simp only[look];cases hb:Nat.beq t d with
   |true=>have:=bN hb;subst this;exact .inr h.1.symm
   |false=>simpa using zx h.2 t
theorem look_ok:∀{l:Zx},l.all (λp=>p.2.okA k)=YK->∀t,(look l t).okA k=YK
 |[],_,_=>rfl
 | (d,v)::l,h,t=>by
   simp only[Xi,aJ]at h;simp only[look];cases hb:Nat.beq t d with
   |true=>exact h.1
   |false=>simpa using look_ok h.2 t
theorem kZ{σ:St}:∀{l:Zy},KH σ l->l.all (λp=>(Nat.blt p.1 k||Nat.ble big p.1)&&p.2.okA k)=YK->∀t o,au l t=WB o->σ.ob t=WB o/\avK k t=YL/\o.okA k=YK
 |[],_,_,_,_,h=>by simp[au]at h
 | (d,v)::l,h,hk,t,o,ho=>by
   simp only[Xi,aJ]at hk;simp only[au]at ho;cases hb:Nat.beq t d with
   | true=>
     have:=bN hb;subst this;rw[hb]at ho;simp at ho;subst ho;exact⟨h.1,np hk.1.1,hk.1.2⟩
   |false=>rw[hb]at ho;exact kZ h.2 hk.2 t o (by simpa using ho)
theorem Vn{σ:St}{l:Zx}{os:Zy}(hl:GB σ l)(ho:KH σ os)(G:l.all (λp=>p.2.okA k)=YK)(D:os.all (λp=>(Nat.blt p.1 k||Nat.ble big p.1)&&p.2.okA k)=YK):σ.le (ZT l os k):=by
 rintro C n a w ⟨m,R,hw⟩;refine⟨λid=>if(au os id).isSome then m id else WC,R,?_⟩;have q:∀id x,(if(au os id).isSome then m id else WC)=WB x->m id=WB x:=λid x e=>by
  split at e
  .exact e
  cases e
 refine⟨⟨?_,?_,?_,?_,?_,?_,?_,?_,?_,?_,?_⟩,hw.df,hw.sz,?_⟩
 .intro id;show(if(au os id).isSome then m id else WC).isSome=cC (au os id);cases e:au os id with
  |none=>rfl
  | some o=>
    have:=hw.hr.dom id;rw[(kZ ho D id o e).1]at this;simpa using this
 .intro id hid;show au os id=WC;cases e:au os id with
  |none=>rfl
  | some o=>
    have:=(kZ ho D id o e).2.1;have B:avK k id=YK:=hid;rw[B]at this;cases this
 .intro id o b N h3 h4;have E:=kZ ho D id o h3;have r:=hw.hr.obj id o b N E.1 (q _ _ h4);cases o with
  |cells ty cs=>exact r
  |bD ty cs=>exact r
  |mp ks vs=>exact r
  |it s pos=>exact r
  |fro s pos=>exact r
  |mi cur ks vs=>exact r
  | mix ty cs=>
    obtain⟨arr,q1,q2,q3,q4⟩:=r;exact⟨arr,q1,q2,q3,q4.okA q _ _ E.2.2⟩
 .exact λi j b N N' e1 e2=>hw.hr.inj i j b N N' (q _ _ e1) (q _ _ e2)
 .exact λid b N e=>hw.hr.own id b N (q _ _ e)
 .exact hw.hr.rsz
 .exact hw.hr.rfr
 .exact hw.hr.r0
 .exact hw.hr.frame
 .exact λid x hi e=>hw.hr.keep id x hi (q id x e)
 .exact λid hi=>ie hi
 .intro t ht;show Rel w _ (avK k) R (look l t) _;rcases zx hl t with e|e
  .rw[e];simp only[Rel,ZH]
  have:=look_ok G t;rw[e]at this ⊢;exact(hw.sl t ht).okA q _ _ this
def St.pub(σ:St)(id:Nat)(ts:ee)(p:PV):St:=⟨λt=>bif ts.contains t then .pv p else σ.sl t,obL [(id,WC)] σ.ob,σ.av⟩
def RB(σ:St)(v:V):ee->Prop
 |[]=>True
 |t::ts=>σ.sl t=v/\RB σ v ts
theorem yy{σ:St}{v:V}:∀{ts:ee},RB σ v ts->∀t∈ts,σ.sl t=v
 |[],_,t,h=>by simp at h
 | q::ts,h,t,hm=>by
   rcases By.1 hm with rfl|hm
   .exact h.1
   exact yy h.2 t hm
theorem St.Ct{σ:St}{cs:na}(id:Nat)(ts:ee)(ho:σ.ob id=WB (.cells T cs))(G:RB σ (.bJ id sz k) ts)(M:k*sz<=cs.length):σ.le (σ.pub id ts (.sl WC k (cs.take (k*sz)))):=by
 rintro C n a w ⟨m,R,hw⟩;have H:=yy G;obtain⟨b,N,hm,arr,hb,hN,hle,hr⟩:=hw.live ho;have I:=hw.hr.own id b N hm;have B:=hw.drop id;have r:∀q,R q->(R q\/q=b)/\w.heap[q]? =w.heap[q]? :=λq hq=>⟨.inl hq,O⟩
 have D:∀i x,upd m id WC i=WB x->m i=WB x/\i≠id:=λi x e=>by grind[aA,a7]
 refine⟨upd m id WC,λq=>R q\/q=b,?_⟩;refine⟨⟨B.hr.dom,B.hr.free,?_,B.hr.inj,?_,?_,?_,?_,hw.hr.frame,B.hr.keep,B.hr.res⟩,hw.df,hw.sz,?_⟩
 .intro i o b' N' h1 h2;exact(B.hr.obj i o b' N' h1 h2).mono r (λ_ _ _ e=>e) (λ_ e=>e) O
 .intro i b' N' h1;obtain⟨h2,h3,h4⟩:=B.hr.own i b' N' h1;refine⟨h2,?_,h4⟩;rintro(h5|h5)
  .exact h3 h5
  exact(D i _ h1).2 (Lg hw (D i _ h1).1 hm h5)
 .rintro q (hq|hq)
  .exact hw.hr.rsz q hq
  rw[hq];exact I.1
 .rintro q (hq|hq)
  .exact hw.hr.rfr q hq
  grind
 .exact λq hq=> .inl (hw.hr.r0 q hq)
 .intro t ht;show Rel w _ σ.av _ (bif ts.contains t then .pv _ else σ.sl t) _;cases hc:ts.contains t with
  |false=>exact(B.sl t ht).mono r (λ_ _ _ e=>e) (λ_ e=>e)
  | true=>
    have E:t∈ts:=by simpa using hc
    have L:=hw.sl t ht;rw[H t E]at L;simp only[Rel]at L;obtain⟨c,he,h1,h2,h3⟩:=L.2 b N hm;simp only[Xe,Rel,ZH];refine⟨_,c,he,h1,h2,(λ_ e=>by cases e),(λe=>by cases e),λ_=>⟨b,0,_,rfl,(hr.take (k*sz)).mono r,.inr rfl,?_⟩⟩;intro j hj;simp only[Vz]at hj;rw[Wm,cell_of_row w b j arr T (0,0) hb,V2,IT Zi,V2,IT Zi];simp
def V.L3(ob:Nat->va):V->Option PV
 | .pv p=>WB p
 | .bJ id sz k=>match ob id with
   |some (.cells _ cs)=>WB (.sl (WB YL) k cs)
   |_=>WC
 | .bz id sz k=>match ob id with
   |some (.bD _ cs)=>WB (.sl WC k cs)
   |_=>WC
 |_=>WC
def V.Gi(ob:Nat->va):nR->Option na
 |[]=>WB []
 | c::cs=>match c.L3 ob,V.Gi ob cs with
   |some p,WB ps=>WB (p::ps)
   |_,_=>WC
def V.toP(ob:Nat->va):V->Option PV
 | .agg cs=>match V.Gi ob cs with|some ps=>WB (.agg ps)|none=>WC
 | .fn f a b=>match V.Gi ob a,V.Gi ob b with|some ps,WB qs=>WB (.fn f ps qs)|_,_=>WC
 |v=>v.L3 ob
def V.args(ob:Nat->va):nR->Option na
 |[]=>WB []
 | c::cs=>match c.toP ob,V.args ob cs with
   |some p,WB ps=>WB (p::ps)
   |_,_=>WC
def jg(m:Gm)(b:Nat):Prop:=∃id N,m id=WB (b,N)
section
variable {C:Ctx}{n:Nat}{σ:St}{a:Act}{w:World}{m:Gm}{R:ew}
theorem SW.L3(G:SW C n σ a w m R){v:V}{p:PV}(h:Rel w m σ.av R v u)(B:v.L3 σ.ob=WB p):ZH w (λb=>R b\/jg m b) p u:=by
 have r:∀q,R q->(R q\/jg m q)/\w.heap[q]? =w.heap[q]? :=λq hq=>⟨.inl hq,O⟩
 cases v with
 |pv q=>simp only[V.L3,VM]at B;subst B;simp only[Rel]at h;exact h.mono r
 | bJ id sz k=>
   simp only[V.L3]at B;split at B
   .rename_i T cs ho;simp at B;subst B;obtain⟨b,N,hm,arr,hbk,hN,hle',hr⟩:=G.live ho;simp only[Rel]at h;obtain⟨c,he,h1,h2,h3⟩:=h.2 b N hm;simp only[ZH];refine⟨_,c,he,h1,h2,(λ_ e=>by cases e;rfl),(λe=>by cases e),λ_=>⟨b,0,_,rfl,hr.mono r,.inr ⟨id,N,hm⟩,?_⟩⟩;intro j hj;simp only[Vz]at hj;rw[Wm,cell_of_row w b j arr T (0,0) hbk,V2,IT Zi];simp
   cases B
 | bz id sz k=>
   simp only[V.L3]at B;split at B
   .rename_i T cs ho;simp at B;subst B;simp only[Rel]at h;obtain⟨h0,A,c,he,h1,h2,h3,h4⟩:=h;simp only[ZH];refine⟨_,c,he,h1,h2,(λ_ e=>by cases e),(λe=>by cases e),λE=>?_⟩;have D:(Ob.bD T cs).real=YK:=by cases cs;exact absurd O E;rfl
    obtain⟨b,N,hm,arr,hbk,hN,hle',hr⟩:=G.live ho D;have H:0<k:=by grind
    refine⟨b,0,_,(h4 H b N hm).1,hr.mono r,.inr ⟨id,N,hm⟩,?_⟩;intro j hj;simp only[Vz]at hj;rw[Wm,cell_of_row w b j arr T (0,0) hbk,V2,IT Zi];simp
   cases B
 |_=>simp[V.L3]at B
theorem SW.Gi(q:SW C n σ a w m R):∀{vs:nR}{us:e7}{ps:na},ZJ w m σ.av R vs us->V.Gi σ.ob vs=WB ps->ZG w (λb=>R b\/jg m b) ps us
 |[],_,_,h,hp=>by simp only[V.Gi,VM]at hp;subst hp;simpa only[ZJ,ZG]using h
 | c::cs,_,_,h,hp=>by
   simp only[V.Gi]at hp;split at hp
   .rename_i p ps h1 h2;simp at hp;subst hp;simp only[ZJ]at h;obtain⟨u,us,rfl,hc,hr⟩:=h;exact ZG.cons (q.L3 hc h1) (SW.Gi q hr h2)
   cases hp
theorem SW.toP(r:SW C n σ a w m R){v:V}{p:PV}(h:Rel w m σ.av R v u)(q:v.toP σ.ob=WB p):ZH w (λb=>R b\/jg m b) p u:=by
 cases v with
 | agg cs=>
   simp only[V.toP]at q;split at q
   .rename_i ps h1;simp at q;subst q;simp only[Rel]at h;obtain⟨us,rfl,hr⟩:=h;simp only[ZH];exact⟨us,O,r.Gi hr h1⟩
   cases q
 | fn f a b=>
   simp only[V.toP]at q;split at q
   .rename_i ps qs h1 h2;simp at q;subst q;simp only[Rel]at h;obtain⟨us,vs,rfl,ha,hb⟩:=h;simp only[ZH];exact⟨us,vs,O,r.Gi ha h1,r.Gi hb h2⟩
   cases q
 |_=>exact r.L3 h q
theorem SW.args(q:SW C n σ a w m R):∀{vs:nR}{us:e7}{ps:na},ZJ w m σ.av R vs us->V.args σ.ob vs=WB ps->ZG w (λb=>R b\/jg m b) ps us
 |[],_,_,h,hp=>by simp only[V.args,VM]at hp;subst hp;simpa only[ZJ,ZG]using h
 | c::cs,_,_,h,hp=>by
   simp only[V.args]at hp;split at hp
   .rename_i p ps h1 h2;simp at hp;subst hp;simp only[ZJ]at h;obtain⟨u,us,rfl,hc,hr⟩:=h;exact ZG.cons (q.toP hc h1) (SW.args q hr h2)
   cases hp
theorem SW.evs(hw:SW C n σ a w m R):∀(xs:List Operand),ZJ w m σ.av R (xs.map (σ.ev n)) (xs.map a.eval)
 |[]=>by simpa using ZJ.nil
 |x::xs=>by simpa using ZJ.cons (hw.ev x) (SW.evs hw xs)
end
def PV.fg1:PV->PV
 | .sl _ n cs=> .sl WC n cs
 |p=>p
def PV.fgL:na->na
 |[]=>[]
 |p::ps=>p.fg1::PV.fgL ps
def PV.fg:PV->PV
 | .agg cs=> .agg (PV.fgL cs)
 | .bS cs=> .bS (PV.fgL cs)
 |p=>p.fg1
def PV.fgA:na->na
 |[]=>[]
 |p::ps=>p.fg::PV.fgA ps
theorem ZH.fg1{p:PV}(h:ZH w R p u):ZH w R p.fg1 u:=by
 cases p with
 | sl b n cs=>
   simp only[ZH,PV.fg1]at h ⊢;obtain⟨A,c,e,h1,h2,_,_,h5⟩:=h;exact⟨A,c,e,h1,h2,(λ_ e=>by cases e),(λe=>by cases e),h5⟩
 |_=>exact h
theorem ZG.fgL:∀{ps:na}{us:e7},ZG w R ps us->ZG w R (PV.fgL ps) us
 |[],_,h=>h
 | p::ps,_,h=>by
   simp only[ZG,PV.fgL]at h ⊢;obtain⟨u,vs,e,h1,h2⟩:=h;exact⟨u,vs,e,h1.fg1,ZG.fgL h2⟩
theorem ZH.fg{p:PV}(h:ZH w R p u):ZH w R p.fg u:=by
 cases p with
 | agg cs=>
   simp only[ZH,PV.fg]at h ⊢;obtain⟨us,e,h⟩:=h;exact⟨us,e,h.fgL⟩
 | bS cs=>
   simp only[ZH,PV.fg]at h ⊢;obtain⟨us,e,h⟩:=h;exact⟨us,e,h.fgL⟩
 |_=>exact h.fg1
theorem ZG.fgA:∀{ps:na}{us:e7},ZG w R ps us->ZG w R (PV.fgA ps) us
 |[],_,h=>h
 | p::ps,_,h=>by
   simp only[ZG,PV.fgA]at h ⊢;obtain⟨u,vs,e,h1,h2⟩:=h;exact⟨u,vs,e,h1.fg,ZG.fgA h2⟩
def St.fgS(σ:St)(ts:ee):St:=⟨λt=>bif ts.contains t then(match σ.sl t with| .pv p=> .pv p.fg|v=>v)else σ.sl t,σ.ob,σ.av⟩
theorem St.rE{σ:St}(ts:ee):σ.le (σ.fgS ts):=by
 rintro C n a w ⟨m,R,hw⟩;refine⟨m,R,hw.hr,hw.df,hw.sz,λt ht=>?_⟩;have h:=hw.sl t ht;show Rel w m σ.av R (bif ts.contains t then(match σ.sl t with| .pv p=> .pv p.fg|v=>v)else σ.sl t) _;cases ts.contains t
 .exact h
 simp only[Xe];cases hv:σ.sl t with
 |pv p=>rw[hv]at h;simp only[Rel]at h ⊢; exact h.fg
 |_=>rw[hv]at h;exact h
def St.fgO(σ:St)(id:Nat)(T:TypeId)(cs:na):St:=⟨σ.sl,obL [(id,WB (.cells T (PV.fgL cs)))] σ.ob,σ.av⟩
theorem PV.nL:∀cs:na,(PV.fgL cs).length=cs.length
 |[]=>rfl
 |_::cs=>by simp[PV.fgL,PV.nL cs]
theorem Ci:∀(wr:List (Nat×va))(f:Nat->va)(i:Nat),obL wr f i=f i\/∃p∈wr,p.1=i/\obL wr f i=p.2
 |[],_,_=> .inl O
 | (j,o)::wr,f,i=>by
   simp only[obL];cases hb:Nat.beq i j with
   |true=>exact .inr ⟨_,Xj,(bN hb).symm,O⟩
   |false=>exact(Ci wr f i).imp id fun⟨p,hp,h⟩=>⟨p,VX _ hp,h⟩
theorem St.vO{σ:St}{sl':Nat->V}{wr:List (Nat×va)}(h:∀{C:Ctx}{n:Nat}{a:Act}{w:World}{m:Gm}{R:ew},SW C n σ a w m R->(∀t,t<n->Rel w m σ.av R (sl' t) (a.eval (.tmp t)))/\
  ∀p∈wr,∃o o',σ.ob p.1=WB o/\p.2=WB o'/\o'.real=o.real/\∀b N,m p.1=WB (b,N)->nJ w m σ.av R b N o->nJ w m σ.av R b N o'):σ.le ⟨sl',obL wr σ.ob,σ.av⟩:=by
 rintro C n a w ⟨m,R,hw⟩;obtain⟨h1,h2⟩:=h hw;refine⟨m,R,⟨λi=>?_,λi hi=>?_,λi o b N e1 e2=>?_,hw.hr.inj,hw.hr.own,hw.hr.rsz,hw.hr.rfr,hw.hr.r0,hw.hr.frame,hw.hr.keep,hw.hr.res⟩,hw.df,hw.sz,h1⟩
 .have hd:=hw.hr.dom i;show _=cC (obL wr σ.ob i);rcases Ci wr σ.ob i with e|⟨p,hp,rfl,e⟩
  .rw[e];exact hd
  obtain⟨o,o',g1,g2,g3,_⟩:=h2 p hp;rw[e,g2];rw[g1]at hd;exact hd.trans g3.symm
 .have hf:=hw.hr.free i hi;show obL wr σ.ob i=WC;rcases Ci wr σ.ob i with e|⟨p,hp,rfl,e⟩
  .rw[e];exact hf
  obtain⟨o,o',g1,_⟩:=h2 p hp;rw[g1]at hf;cases hf
 have e1:obL wr σ.ob i=WB o:=e1;rcases Ci wr σ.ob i with e|⟨p,hp,rfl,e⟩
 .exact hw.hr.obj i o b N (e.symm.trans e1) e2
 obtain⟨o1,o',g1,g2,_,g4⟩:=h2 p hp;rw[e1,g2]at e;cases e;exact g4 b N e2 (hw.hr.obj _ o1 b N g1 e2)
theorem St.Qc{σ:St}{cs:na}(ho:σ.ob id=WB (.cells T cs)):σ.le (σ.fgO id T cs):=
 St.vO λq=>⟨q.sl,λp hp=>by
  obtain rfl:=VH.1 hp;exact⟨_,_,ho,O,O,λb N _ ⟨arr,q1,q2,q3,q4⟩=>⟨arr,q1,q2,by rw[PV.nL];exact q3,by rw[PV.nL];exact q4.fgL⟩⟩⟩
def ZK(P:Program)(f:FuncId)(args:na)(Q:PV->Prop):Prop:=
 ∀(w:World)(R:ew)(us:e7),r4 w R->(∀b,R b->b<w.heap.size)->ZG w R args us->
  Calls P f us.toArray w λe w'=>∃u v,e= .returned u/\Q v/\Below w.heap.size w w'/\ZH w' (λb=>R b\/(w.heap.size<=b/\b<w'.heap.size)) v u
theorem ZK.mono{args:na}{Q Q':PV->Prop}(h:ZK P f args Q)(B:∀v,Q v->Q' v):ZK P f args Q':=
 λw R us h0 h1 h2=>(h w R us h0 h1 h2).mono λ_ _ ⟨u,v,e,q,r⟩=>⟨u,v,e,B v q,r⟩
def bS(P:Program)(f:FuncId):Prop:=∀args w,(callFunc f args).run P w= .ok (.enter f args) w
def PV.flat:PV->Bool
 | .int _ _| .bool _| .str _| .nilfn| .nilptr| .nilmap| .niliface| .any=>YK
 | .bS ps=>ps.all fun| .int _ _| .bool _| .str _=>YK|_=>YL
 | .agg ps=>ps.all fun| .int _ _| .bool _| .str _=>YK|_=>YL
 |_=>YL
theorem Te{w':World}{R':ew}:∀{ps:na}{us:e7},(ps.all fun| .int _ _| .bool _| .str _=>YK|_=>YL)=YK->ZG w R ps us->ZG w' R' ps us
 |[],_,_,h=>by simpa only[ZG]using h
 | c::cs,_,hf,h=>by
   simp only[Xi,aJ]at hf;simp only[ZG]at h ⊢;obtain⟨u,us,e,hc,hr⟩:=h;refine⟨u,us,e,?_,Te hf.2 hr⟩;cases c<;>simp at hf<;>simpa only[ZH]using hc
theorem ZH.flat{w':World}{R':ew}{p:PV}(q:p.flat=YK)(h:ZH w R p u):ZH w' R' p u:=by
 cases p<;>simp only[PV.flat,Wj]at q<;>simp only[ZH]at h ⊢
 case agg ps=>obtain⟨us,e,h⟩:=h;exact⟨us,e,Te q h⟩
 case bS ps=>obtain⟨us,e,h⟩:=h;exact⟨us,e,Te q h⟩
 all_goals exact h
section
variable {C:Ctx}{n:Nat}{σ:St}{dst:YX}{ty:TypeId}{ts:Array TypeId}{pos:String}{after:Y4}{gd:Option (Nat×Bool)}
theorem SW.called{w':World}(q:SW C n σ a w m R)(r:Below w.heap.size w w'):
  SW C n σ a w' m (λb=>R b\/(w.heap.size<=b/\b<w'.heap.size)):=by
 have B:∀b,R b->(R b\/(w.heap.size<=b/\b<w'.heap.size))/\w'.heap[b]? =w.heap[b]? :=λb h=>⟨.inl h,r.block b (q.hr.rsz b h)⟩
 have:=q.world (w':=w') (m':=m) (R':=λb=>R b\/(w.heap.size<=b/\b<w'.heap.size)) (ob':=σ.ob) (av':=σ.av) ?_ B (λ_ _ _ e=>e) (λ_ e=>e)
 .exact this
 refine⟨q.hr.dom,q.hr.free,?_,q.hr.inj,?_,?_,?_,λb h=> .inl (q.hr.r0 b h),?_,q.hr.keep,q.hr.res⟩
 .intro i o b N h1 h2;exact(q.hr.obj i o b N h1 h2).mono B (λ_ _ _ e=>e) (λ_ e=>e) (r.block b (q.hr.own i b N h2).1)
 .intro i b N h1;obtain⟨h2,h3,h4⟩:=q.hr.own i b N h1;refine⟨VW h2 r.size,?_,h4⟩;rintro(h5|h5)
  .exact h3 h5
  omega
 .rintro b (h|h)
  .exact VW (q.hr.rsz b h) r.size
  exact h.2
 .rintro b (h|h)
  .exact q.hr.rfr b h
  exact .inr (.inl (OF q.hr.frame.size h.1))
 refine⟨r.os.trans q.hr.frame.os,r.tape.trans q.hr.frame.tape,r.output.trans q.hr.frame.output,OF q.hr.frame.size r.size,λk hk hF=>?_⟩;rw[r.block k (VW hk q.hr.frame.size)];exact q.hr.frame.block k hk hF
theorem od(hc:bS P f)(xs:Array Operand)(a:Act)(w:World):
  (execOp a.eval ⟨dst,.call { callee:= .value (.func f),args:=xs,argTypes:=ts },ty,pos,after,gd⟩).run P w= .ok (.enter f (xs.map a.eval)) w:=by
 simp[execOp,resolve,Deferred.ofValue,Act.eval,invoke,hc];exact hc _ _
theorem cT{ps:na}{Q:PV->Prop}{K:ZA}(hc:bS C.P f)(E:ZK C.P f ps Q)(q:(V.args (λ_=>WC) (xs.toList.map (σ.ev n))).map PV.fgA=WB ps)(G:∀v,Q v->K (σ.put dst (.pv v))):
  OJ C n ⟨dst,.call { callee:= .value (.func f),args:=xs,argTypes:=ts },ty,pos,after,gd⟩ K σ:=by
 rintro a w Q' ⟨m,R,hw⟩;unfold Oper.wp;rw[od hc];have r:ZG w R ps (xs.toList.map a.eval):=by
  have B:SW C n ⟨σ.sl,λ_=>WC,σ.av⟩ a w (λ_=>WC) R:=by
   refine⟨⟨λ_=>rfl,λ_ _=>rfl,λ_ _ _ _ h=>(by cases h),λ_ _ _ _ _ h=>(by cases h),λ_ _ _ h=>(by cases h),hw.hr.rsz,hw.hr.rfr,hw.hr.r0,hw.hr.frame,λ_ _ _ h=>(by cases h),hw.hr.res⟩,hw.df,hw.sz,λt ht=>(hw.sl t ht).mono (λb h=>⟨h,rfl⟩) (λ_ _ _ e=>by cases e) (λ_ e=>e)⟩
  obtain⟨ps0,hargs0,rfl⟩:=X3.1 q;have D:=(B.args (B.evs xs.toList) hargs0).fgA;exact D.mono λb hb=>⟨hb.elim id (fun⟨_,_,h⟩=>by cases h),rfl⟩
 have:=E w R (xs.toList.map a.eval) hw.hr.gi hw.hr.rsz r;have e:(xs.toList.map a.eval).toArray=xs.map a.eval:=by rw[<-Y9,YP]
 rw[e]at this;refine Calls.mono this ?_;rintro e w' ⟨u,v,rfl,hq,hb,hr⟩;exact⟨_,G v hq,m,_,(hw.called hb).put dst (by simpa only[Rel]using hr)⟩
theorem aa{ps:na}{r:PV}(hc:bS C.P f)(B:ZK C.P f ps (· =r))(q:(V.args (λ_=>WC) (xs.toList.map (σ.ev n))).map PV.fgA=WB ps):
  XJ C n ⟨dst,.call { callee:= .value (.func f),args:=xs,argTypes:=ts },ty,pos,after,gd⟩ σ ⟨.pv r,[],[]⟩:=
 cT hc B q (by rintro v rfl;exact(St.jb σ dst _).symm)
theorem Ms{ps:na}{Q:PV->Prop}{K:ZA}(hc:bS C.P f)(D:ZK C.P f ps Q)(q:(V.args σ.ob (xs.toList.map (σ.ev n))).map PV.fgA=WB ps)(B:∀v,Q v->v.flat=YK)(E:∀v,Q v->K (σ.put dst (.pv v))):
  OJ C n ⟨dst,.call { callee:= .value (.func f),args:=xs,argTypes:=ts },ty,pos,after,gd⟩ K σ:=by
 rintro a w Q' ⟨m,R,hw⟩;unfold Oper.wp;rw[od hc];obtain⟨ps0,hargs0,rfl⟩:=X3.1 q;have r:=(hw.args (hw.evs xs.toList) hargs0).fgA;have:=D w (λb=>R b\/jg m b) (xs.toList.map a.eval) (hw.hr.gi.mono λb hb=>⟨.inl hb,O⟩) (by rintro b (h|⟨id,N,h⟩);exact hw.hr.rsz b h;exact(hw.hr.own id b N h).1) r;have e:(xs.toList.map a.eval).toArray=xs.map a.eval:=by rw[<-Y9,YP]
 rw[e]at this;refine Calls.mono this ?_;rintro e w' ⟨u,v,rfl,hq,hb,hr⟩;exact⟨_,E v hq,m,_,(hw.called hb).put dst (by simp only[Rel];exact hr.flat (B v hq))⟩
theorem vH{ps:na}{r:PV}(hc:bS C.P f)(D:ZK C.P f ps (· =r))(q:(V.args σ.ob (xs.toList.map (σ.ev n))).map PV.fgA=WB ps)(B:r.flat=YK):
  XJ C n ⟨dst,.call { callee:= .value (.func f),args:=xs,argTypes:=ts },ty,pos,after,gd⟩ σ ⟨.pv r,[],[]⟩:=
 Ms hc D q (by rintro v rfl;exact B) (by rintro v rfl;exact(St.jb σ dst _).symm)
end
def A9:Nat->na->Zx
 |_,[]=>[]
 |k,p::ps=>(k,.pv p)::A9 (k+1) ps
def Tl(n:Nat)(σ:St):List ResultVar->Option nR
 |[]=>WB []
 | .tmp t::l=>match Tl n σ l with|some vs=>WB (σ.ev n (.tmp t)::vs)|none=>WC
 |_::_=>WC
def tH:na->PV
 |[p]=>p
 |ps=> .bS ps
def retQ(fn:Func)(n:Nat)(Q:PV->Prop):Exit->ZA
 | .ret,σ| .normal,σ=>∃vs ps,Tl n σ fn.results.toList=WB vs/\V.args σ.ob vs=WB ps/\Q (tH ps)
 |_,_=>False
end
end Go.Proofs.YthicoeegbdboeaaGreatDoor
