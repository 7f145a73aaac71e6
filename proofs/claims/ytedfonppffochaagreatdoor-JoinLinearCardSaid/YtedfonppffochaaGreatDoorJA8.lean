/- Lemmas for the statement of this claim's last text. No condition. -/
import Derived.Lib.Builder
import Derived.Lib.UnsafeStr
import Derived.Lib.AppendStr
import Derived.Laws.Externs
import Derived.Laws.Pointers
import Derived.Test.YtedfonppffochaaGreatDoorJA7
set_option maxRecDepth 100000
set_option maxHeartbeats 4000000
open Go.RowKit Go.Proofs.Tryz
namespace Go.Proofs.YtedfonppffochaaGreatDoor
section
open Mk Jn
abbrev o7B (J:JD) (W:WD) (σ:Asg ByteArray) (now:List ByteArray) (mk mv:List PV):List (Nat×Ob):=[(big,.mix 139 [.ptr 9001 0]),(9001,oB W 9005 9002 J.S.attrs.length 9003 9004),(9002,.cells 9 (aA now)),(9003,.cells 4 (ay (stL σ J.S.attrs.length))),(9004,.mp mk mv),(9005,oX2 J 9006),(9006,.mp J.pk J.pv)]
theorem sZ (J:JD) (hJ:JOk J) (W:WD) (σ:Asg ByteArray) (now:List ByteArray) (hn:NowOk J.S.attrs.length σ now) (mk mv:List PV) (r:Nat) (hr:r<J.S.rels.length) (x:Rw) (hx:x.v.length=J.S.rels[r].2.length):
  FnO Tryz.prog 196 7 0 [.pv (sJ x),.ptr big 0,.pv (.rp [.int .i64 r] 0)] (o7B J W σ now mk mv) (fun v ob'=>v= .pv (.bool (agr J.S.rels[r].2 σ x.v))/\ob'=ar (o7B J W σ now mk mv)):=by
 refine FnO.of func196 O ntmps196 OG fun m0 w0 F R0=>?_
 have hgo:=dV J hJ W σ now hn mk mv r hr x hx;generalize agr J.S.rels[r].2 σ x.v=b at*;refine Z2 O O O<|Gr O ?_;first | refine A1 O ?_ | refine A2 O OF ?_
 first | refine A1 O ?_ | refine A2 O OF ?_
 exact A1 O<|Rs 8 O O (ah [9001,9002,9003,9004,9005,9006] 1 call102 hgo O O O O ⟨O,O,O,O,O,O,OK⟩ OE O)<|A1 O<|Gt O<|⟨[(4,.pv (.bool b))],o7B J W σ now mk mv,[.pv (.bool b)],Io (aS O) (aO OD) O O,O,O,O,O,O⟩
abbrev sm1B (r:Nat):V:= .fn (.func 196) [] [.ptr big 0,.pv (.rp [.int .i64 r] 0)]
theorem pP (J:JD) (hJ:JOk J) (W:WD) (σ:Asg ByteArray) (now:List ByteArray) (hn:NowOk J.S.attrs.length σ now) (mk mv:List PV) (r:Nat) (hr:r<J.S.rels.length) (l:List Rw) (hl:l.length<=1000) (hx:∀ x∈l,x.v.length=J.S.rels[r].2.length):
  ∃ i:Int,decide (i>=0)=l.any (fun x=>agr J.S.rels[r].2 σ x.v)/\FnO Tryz.prog 109 7 0 [.pv (bL l),sm1B r] (o7B J W σ now mk mv) (fun v ob'=>v= .pv (.int .i64 i)/\ob'=ar (o7B J W σ now mk mv)):=by
 have hgo:∀ k (h:k<l.length),FnO Tryz.prog 196 7 0 [.pv (sJ l[k]),.ptr big 0,.pv (.rp [.int .i64 r] 0)] (o7B J W σ now mk mv) (fun v ob'=>v= .pv (.bool (agr J.S.rels[r].2 σ l[k].v))/\ob'=ar (o7B J W σ now mk mv)):=fun k h=>sZ J hJ W σ now hn mk mv r hr l[k] (hx _ (aJ h))
 have hi:∃ i:Int,decide (i>=0)=l.any (fun x=>agr J.S.rels[r].2 σ x.v)/\((∀ k (h:k<l.length),agr J.S.rels[r].2 σ l[k].v=true->(∀ j (h:j<l.length),j<k->agr J.S.rels[r].2 σ l[j].v=false)->i=k)/\((∀ j (h:j<l.length),agr J.S.rels[r].2 σ l[j].v=false)->i= -1)):=jg l fun x=>agr J.S.rels[r].2 σ x.v
 obtain ⟨i,hi,hi1,hi2⟩:=hi;refine ⟨i,hi,?_⟩;refine FnO.of func109 O ntmps109 OG fun m0 w0 F R0=>?_
 clear hi hJ hn hx;generalize J.S.rels[r].2=A at*;refine Z1 O O<|Z3 O O O O ?_;refine Gl O (st:=fun x_0:Nat=>mkS [(0,.pv (bL l)),(1,sm1B r),(7,.pv (.int .i64 l.length)),(8,.pv (.int .i64 x_0))] [(big,.mix 139 [.ptr 9001 0]),(9001,oB W 9005 9002 J.S.attrs.length 9003 9004),(9002,.cells 9 (aA now)),(9003,.cells 4 (ay (stL σ J.S.attrs.length))),(9004,.mp mk mv),(9005,oX2 J 9006),(9006,.mp J.pk J.pv)] 0)
  (I:=fun x_0=>x_0<=l.length/\∀ j (h:j<l.length),j<x_0->agr A σ l[j].v=false) (μ:=fun x_0=>l.length-x_0) (x0:=(0)) (Io (aS O) (aO OD) O O) (⟨eF _,fun _ _ h=>absurd h OC⟩) ?_
 rintro k ⟨hk,hno⟩;refine Z1 O O ?_;refine Gp O O (fun hc9=>?_) (fun hc9=>?_)
 ·have hlt:k<l.length:=OC;have hrw:=aN hlt;have hrn:=aW hlt;have hgk:=hgo k hlt;have hik:=hi1 k hlt;generalize hbk:agr A σ l[k].v=b at*;refine Il<|Z2 O O O<|Z4 O O O O O ?_;first | refine A3 O OF ?_ | refine A1 O ?_
  refine Rs 16 O O (bJ [big,9001,9002,9003,9004,9005,9006] 0 call196 hgk O O O O O O ⟨O,O,O,O,O,O,O,OK⟩ OE O) ?_;refine Gc O O (fun hc16=>?_) (fun hc16=>?_)
  ·exact Z2 O O O<|Gt O<|⟨[(4,.pv (.int .i64 k))],o7B J W σ now mk mv,[.pv (.int .i64 k)],Io (aS O) (aO OD) O O,O,O,O,by rw [hik hc16 hno];rfl,O⟩
  ·exact Il<|Z2 O O O<|⟨(k+1),Io (aS O) (aO OD) O O,⟨OC,fun j h hj=>by rcases DJ.1 hj with h1 | h1;exact hno j h h1;subst h1;exact hbk.trans hc16⟩,OC⟩
 ·have hm:=hi2 fun j h=>hno j h OC
  exact Gx O<|Z1 O O<|Gt O<|⟨[(4,.pv (.int .i64 (-1)))],o7B J W σ now mk mv,[.pv (.int .i64 (-1))],Io (aS O) (aO OD) O O,O,O,O,by rw [hm];rfl,O⟩
theorem pE (J:JD) (hJ:JOk J) (W:WD) (σ:Asg ByteArray) (now:List ByteArray) (hn:NowOk J.S.attrs.length σ now) (mk mv:List PV) (r:Nat) (hr:r<J.S.rels.length) (l:List Rw) (hl:l.length<=1000) (hx:∀ x∈l,x.v.length=J.S.rels[r].2.length):
  FnO Tryz.prog 66 7 0 [.pv (bL l),sm1B r] (o7B J W σ now mk mv) (fun v ob'=>v= .pv (.bool (l.any fun x=>agr J.S.rels[r].2 σ x.v))/\ob'=ar (o7B J W σ now mk mv)):=by
 obtain ⟨i,hi,hgo⟩:=pP J hJ W σ now hn mk mv r hr l hl hx;refine FnO.of func66 O ntmps66 OG fun m0 w0 F R0=>?_
 rw [<-hi];clear hi hJ hn hx;exact Z1 O O<|Z2 O O O<|Rs 7 O O (ah [big,9001,9002,9003,9004,9005,9006] 0 call109 hgo O O O O ⟨O,O,O,O,O,O,O,OK⟩ OE O)<|Y2 O O<|Gt O<|⟨[(4,.pv (.bool (decide (i>=0))))],o7B J W σ now mk mv,[.pv (.bool (decide (i>=0)))],Io (aS O) (aO OD) O O,O,O,O,O,O⟩
theorem wb (J:JD) (hJ:JOk J) (W:WD) (σ:Asg ByteArray) (now:List ByteArray) (hn:NowOk J.S.attrs.length σ now) (mk mv:List PV) (r:Nat) (hr:r<J.S.rels.length):
  FnO Tryz.prog 154 6 0 [.ptr big 0,.pv (.int .i64 r)] (o6B J W σ now mk mv) (fun v ob'=>v= .pv (.bool ((dh J r).any fun x=>agr (cy J r) σ x.v))/\ob'=ar (o6B J W σ now mk mv)):=by
 refine FnO.of func154 O ntmps154 OG fun m0 w0 F R0=>?_
 have hrT:r<J.T.length:=by rw [hJ.n];exact hr
 have hgo:=pE J hJ W σ now hn mk mv r hr J.T[r] (hJ.l _ (aJ hrT)) (hJ.v r hrT hr);rw [show dh J r=J.T[r] by simp [dh,List.getD,hrT],show cy J r=J.S.rels[r].2 by simp [cy,List.getD,hr]];have htr:=cD hrT;have htn:=dN hrT;have hTl:J.T.length<=1000:=by rw [hJ.n];exact hJ.s.r
 generalize J.S.rels[r].2=A at*;generalize J.T[r]=l at*;refine Z3 O O O O<|Im (St.fS 1 O O)<|Ge O follows [0,1,2,3,4,5,6,7,8,9,10,11,12] OD ?_;iterate 8 refine D1 O O ?_
 refine Ds 13 [] O O O (fun τ h=>ag r underlying35 qk (Ee h 0 O O) (Ee h 1 O O) O hrT htn) O OD<|Ds 14 [] O O O (fun τ h=>ai ⟨_,underlying38,O⟩ (Ee h 0 O O) htr) O OD<|D1 O O<|Ds 16 [0,big,9001,9002,9003,9004,9005] O O O (fun τ h=>ah [0,big,9001,9002,9003,9004,9005] 2 call66 hgo (h.args.trans O) O O O ⟨(Eo h 0 O O),(Eo h 1 O O),(Eo h 2 O O),(Eo h 3 O O),(Eo h 4 O O),(Eo h 5 O O),(Eo h 6 O O),OK⟩ OE O) O OD<|D1 O O ?_;refine ⟨OD,?_⟩;exact Gt O<|⟨[(4,.pv (.bool (l.any fun x=>agr A σ x.v)))],o6B J W σ now mk mv,[.pv (.bool (l.any fun x=>agr A σ x.v))],Io (aS O) (aO OD) O O,O,O,O,O,O⟩
end
section
open Mk Jn
theorem rz (J:JD) (hJ:JOk J) (W:WD) (σ:Asg ByteArray) (now:List ByteArray) (hn:NowOk J.S.attrs.length σ now) (mk mv:List PV) (r:Nat) (hr:r<J.S.rels.length):
  FnO Tryz.prog 153 7 0 [.pv (.int .i64 r),.ptr big 0] (o7B J W σ now mk mv) (fun v ob'=>v= .pv (.bool !(Bd (RJ J) r σ))/\ob'=ar (o7B J W σ now mk mv)):=by
 refine FnO.of func153 O ntmps153 OG fun m0 w0 F R0=>?_
 have hgo:=wb J hJ W σ now hn mk mv r hr;rw [<-oK] at hgo;generalize Bd (RJ J) r σ=b at*;refine Z1 O O<|Gr O ?_;first | refine A1 O ?_ | refine A2 O OF ?_
 exact A1 O<|Rs 6 O O (ah [9001,9002,9003,9004,9005,9006] 0 call154 hgo O O O O ⟨O,O,O,O,O,O,OK⟩ OE O)<|Y2 O O<|Gt O<|⟨[(3,.pv (.bool !b))],o7B J W σ now mk mv,[.pv (.bool !b)],Io (aS O) (aO OD) O O,O,O,O,O,O⟩
abbrev c11B:V:= .fn (.func 153) [] [.ptr big 0]
abbrev bK (rs:List Nat):List Int:=rs.map fun r:Nat=>(r:Int)
theorem qf (J:JD) (hJ:JOk J) (W:WD) (σ:Asg ByteArray) (now:List ByteArray) (hn:NowOk J.S.attrs.length σ now) (mk mv:List PV) (rs:List Nat) (hl:rs.length<=1000) (hr:∀ r∈rs,r<J.S.rels.length):
  FnO Tryz.prog 152 7 0 [.pv (ak (bK rs)),c11B] (o7B J W σ now mk mv) (fun v ob'=>v= .pv (.bool (rs.any fun r=> !(Bd (RJ J) r σ)))/\ob'=ar (o7B J W σ now mk mv)):=by
 have hgo:∀ k (h:k<rs.length),FnO Tryz.prog 153 7 0 [.pv (.int .i64 rs[k]),.ptr big 0] (o7B J W σ now mk mv) (fun v ob'=>v= .pv (.bool !(Bd (RJ J) rs[k] σ))/\ob'=ar (o7B J W σ now mk mv)):=fun k h=>rz J hJ W σ now hn mk mv rs[k] (hr _ (aJ h))
 obtain ⟨i,hi,hi1,hi2⟩:=jg rs fun r=> !(Bd (RJ J) r σ)
 clear hJ hn hr;have hidx:FnO Tryz.prog 195 7 0 [.pv (ak (bK rs)),c11B] (o7B J W σ now mk mv) (fun v ob'=>v= .pv (.int .i64 i)/\ob'=ar (o7B J W σ now mk mv)):=by
  refine FnO.of func195 O ntmps195 OG fun m0 w0 F R0=>?_
  clear hi;have hnl:(bK rs).length=rs.length:=by simp [bK]
  refine Z1 O O<|Z3 O O O O ?_;refine Gl O (st:=fun x_0:Nat=>mkS [(0,.pv (ak (bK rs))),(1,c11B),(7,.pv (.int .i64 (bK rs).length)),(8,.pv (.int .i64 x_0))] [(big,.mix 139 [.ptr 9001 0]),(9001,oB W 9005 9002 J.S.attrs.length 9003 9004),(9002,.cells 9 (aA now)),(9003,.cells 4 (ay (stL σ J.S.attrs.length))),(9004,.mp mk mv),(9005,oX2 J 9006),(9006,.mp J.pk J.pv)] 0)
   (I:=fun x_0=>x_0<=rs.length/\∀ j (h:j<rs.length),j<x_0->(!(Bd (RJ J) rs[j] σ))=false) (μ:=fun x_0=>rs.length-x_0) (x0:=(0)) (Io (aS O) (aO OD) O O) (⟨eF _,fun _ _ h=>absurd h OC⟩) ?_
  rintro k ⟨hk,hno⟩;refine Z1 O O ?_;refine Gp O O (fun hc9=>?_) (fun hc9=>?_)
  ·have hlt:k<rs.length:=OC;have hpv:(aE (bK rs))[k*1]? =some (.int .i64 ((rs[k]:Nat):Int)):=by simp [hlt]
   have hpn:=aH (l:=bK rs) (k:=k) OC;have hgk:=hgo k hlt;have hik:=hi1 k hlt;generalize hbk:Bd (RJ J) rs[k] σ=b at*;refine Il<|Z2 O O O<|Z4 O O O O O<|Rs 15 O O (ai ⟨_,underlying3,O⟩ O hpv)<|Rs 16 O O (bJ [big,9001,9002,9003,9004,9005,9006] 0 call153 hgk O O O O O O ⟨O,O,O,O,O,O,O,OK⟩ OE O) ?_;refine Gc O O (fun hc16=>?_) (fun hc16=>?_)
   ·exact Z2 O O O<|Gt O<|⟨[(4,.pv (.int .i64 k))],o7B J W σ now mk mv,[.pv (.int .i64 k)],Io (aS O) (aO OD) O O,O,O,O,by rw [hik hc16 hno];rfl,O⟩
   ·exact Il<|Z2 O O O<|⟨(k+1),Io (aS O) (aO OD) O O,⟨OC,fun j h hj=>by rcases DJ.1 hj with h1 | h1;exact hno j h h1;subst h1;rw [hbk];exact hc16⟩,OC⟩
  ·have hm:=hi2 fun j h=>hno j h OC
   exact Gx O<|Z1 O O<|Gt O<|⟨[(4,.pv (.int .i64 (-1)))],o7B J W σ now mk mv,[.pv (.int .i64 (-1))],Io (aS O) (aO OD) O O,O,O,O,by rw [hm];rfl,O⟩
 refine FnO.of func152 O ntmps152 OG fun m0 w0 F R0=>?_
 rw [<-hi];clear hi hgo hi1 hi2;exact Z1 O O<|Z2 O O O<|Rs 7 O O (ah [big,9001,9002,9003,9004,9005,9006] 0 call195 hidx O O O O ⟨O,O,O,O,O,O,O,OK⟩ OE O)<|Y2 O O<|Gt O<|⟨[(4,.pv (.bool (decide (i>=0))))],o7B J W σ now mk mv,[.pv (.bool (decide (i>=0)))],Io (aS O) (aO OD) O O,O,O,O,O,O⟩
theorem mE (J:JD) (hJ:JOk J) (W:WD) (σ:Asg ByteArray) (now:List ByteArray) (hn:NowOk J.S.attrs.length σ now) (mk mv:List PV) (a:Nat) (ha:a<J.S.attrs.length) (hσ:σ (a:Int)=none) (rs:List Nat) (hl:rs.length<=1000) (hr:∀ r∈rs,r<J.S.rels.length) (x:ByteArray):
  FnO Tryz.prog 151 7 0 [.pv (.str x),.ptr big 0,.pv (.rp [.int .i64 a] 0),.pv (.rp [ak (bK rs)] 0)] (o7B J W σ now mk mv) (fun v ob'=>v= .pv (.bool (rs.any fun r=> !(Bd (RJ J) r (put σ a x))))/\ob'=ar (o7B J W σ (now.set a x) mk mv)):=by
 refine FnO.of func151 O ntmps151 OG fun m0 w0 F R0=>?_
 have hgo:=qf J hJ W (put σ a x) (now.set a x) (hn.put ha x) mk mv rs hl hr;generalize (rs.any fun r=> !(Bd (RJ J) r (put σ a x)))=b at*;have hnl:(aA now).length=J.S.attrs.length:=by rw [rJ,hn.l]
 have hsl:(ay (stL σ J.S.attrs.length)).length=J.S.attrs.length:=by rw [rJ,cK]
 have hsl2:(ay (stL (put σ a x) J.S.attrs.length)).length=J.S.attrs.length:=by rw [rJ,cK]
 have h1:=ix (l:=now) (a:=a) x;have h2:=kZ (σ:=σ) ha x;have h3:(ay (stL (put σ a x) J.S.attrs.length)).set (a*1) (.bool false)=ay (stL σ J.S.attrs.length):=by rw [qO ha,cO hσ]
 clear hJ hn hr;refine Z1 O O<|Ge O follows [0,1,2,3,4,5,6,7,8,9,10,11,12,13,14] OD ?_;first | refine D1 O O ?_ | refine D2 O O OF ?_
 iterate 3 refine D1 O O ?_
 first | refine D1 O O ?_ | refine D2 O O OF ?_
 first | refine D1 O O ?_ | refine D2 O O OF ?_
 iterate 3 refine D1 O O ?_
 first | refine D1 O O ?_ | refine D2 O O OF ?_
 refine D1 O O<|Ds 18 [_] O O O (fun τ h=>aa a underlying47 sz9 (Ee h 0 O O) (Eo h 0 O O) (Ee h 1 O O) O OC) O OD<|DL.step (d:=none) [_] O O O (fun τ h=>aF sz9 (Ee h 0 O O) (Eo h 0 O O) (Ee h 1 O O) O OC) O OD<|Ds 19 [_] O O O (fun τ h=>aa a underlying115 sz4 (Ee h 0 O O) (Eo h 0 O O) (Ee h 1 O O) O OC) O OD<|DL.step (d:=none) [_] O O O (fun τ h=>aF sz4 (Ee h 0 O O) (Eo h 0 O O) (Ee h 1 O O) O OC) O OD ?_;refine ⟨OD,?_⟩;refine Im (Io (l:=[(1,.ptr big 0),(2,.pv (.rp [.int .i64 a] 0)),(3,.pv (.rp [ak (bK rs)] 0))]) (os:=o7B J W (put σ a x) (now.set a x) mk mv) (k:=0) (aS O) ⟨O,O,af (fun c=>some (Ob.cells 9 c)) h1,af (fun c=>some (Ob.cells 4 c)) h2,O,O,O,OK⟩ O O)<|Gr O ?_;first | refine A1 O ?_ | refine A2 O OF ?_
 refine A1 O<|Rs 22 O O (ah [big,9001,9002,9003,9004,9005,9006] 0 call152 hgo O O O O ⟨O,O,O,O,O,O,O,OK⟩ OE O)<|A1 O<|Im (Io (l:=[(1,.ptr big 0),(2,.pv (.rp [.int .i64 a] 0)),(6,.pv (.bool b))]) (os:=o7B J W (put σ a x) (now.set a x) mk mv) (k:=0) (aS O) (aO OD) O O)<|Ge O follows [0,1,2,3,4,5,6] OD ?_;first | refine D1 O O ?_ | refine D2 O O OF ?_
 iterate 3 refine D1 O O ?_
 first | refine D1 O O ?_ | refine D2 O O OF ?_
 refine Ds 28 [_] O O O (fun τ h=>aa a underlying115 sz4 (Ee h 0 O O) (Eo h 0 O O) (Ee h 1 O O) O OC) O OD<|DL.step (d:=none) [_] O O O (fun τ h=>aF sz4 (Ee h 0 O O) (Eo h 0 O O) (Ee h 1 O O) O OC) O OD ?_;refine ⟨OD,?_⟩;exact Z2 O O O<|Gt O<|⟨[(5,.pv (.bool b))],o7B J W σ (now.set a x) mk mv,[.pv (.bool b)],Io (aS O) ⟨OD,OD,OD,af (fun c=>some (Ob.cells 4 c)) h3,OD,OD,OD,OK⟩ O O,O,O,O,O,O⟩
end
section
open Mk Jn
def ltS (a b:ByteArray):Prop:=a.data.toList<b.data.toList
instance (a b:ByteArray):Decidable (ltS a b):=inferInstanceAs (Decidable (_<_))
theorem iA (a:ByteArray):¬ ltS a a:=List.lt_irrefl _
theorem kX {a b c:ByteArray} (h1:ltS a b) (h2:ltS b c):ltS a c:=List.lt_trans h1 h2
theorem tc {a b:ByteArray} (h1:¬ ltS a b) (h2:¬ ltS b a):a=b:=xu (List.le_antisymm h2 h1)
def leS (a b:ByteArray):Prop:=¬ ltS b a
instance (a b:ByteArray):Decidable (leS a b):=inferInstanceAs (Decidable (¬ _))
theorem pN {a b c:ByteArray} (h1:leS a b) (h2:leS b c):leS a c:=fun h=>by
 by_cases e:a=b
 ·subst e;exact h2 h
 ·have hab:ltS a b:=CP fun k=>e (tc k h1)
  exact h2 (kX h hab)
theorem y6 (a b:ByteArray):leS a b\/leS b a:=by
 by_cases h:ltS b a
 ·exact .inr fun k=>iA a (kX k h)
 ·exact .inl h
theorem tE {a b:ByteArray} (h1:leS a b) (h2:leS b a):a=b:=tc h2 h1
theorem G7 {a b:ByteArray} (h:ltS a b):leS a b:=fun k=>iA a (kX h k)
def cR (l:List ByteArray):List ByteArray:=l.mergeSort fun a b=>decide (leS a b)
theorem cY (l:List ByteArray):(cR l).Perm l:=List.mergeSort_perm l _
theorem je (l:List ByteArray):(cR l).Pairwise leS:=by
 have:=List.pairwise_mergeSort (le:=fun a b:ByteArray=>decide (leS a b)) (by intro a b c h1 h2;simp only [AS] at *; exact pN h1 h2) (by intro a b;simp only [Jy,AS];exact y6 a b) l;exact this.imp OG
theorem Dm {l r:List ByteArray} (hp:l.Perm r) (hl:l.Pairwise leS):l=cR r:=
 (hp.trans (cY r).symm).eq_of_pairwise (fun a b _ _ h1 h2=>tE h1 h2) hl (je r)
abbrev eb:ByteArray:=⟨#[]⟩
def ta (q:List ByteArray) (i k:Nat):List ByteArray:=(q.set i (q.getD k eb)).set k (q.getD i eb)
theorem me {q:List ByteArray} {i k p:Nat} (hi:i<q.length) (hk:k<q.length):(ta q i k).getD p eb=if p=k then q.getD i eb else if p=i then q.getD k eb else q.getD p eb:=by
 have e1:q.getD i eb=q[i]:=by simp [List.getD,hi]
 have e2:q.getD k eb=q[k]:=by simp [List.getD,hk]
 unfold ta;rw [e1,e2];by_cases h1:p=k
 ·subst h1;simp [List.getD,hk]
 ·rw [ga h1];by_cases h2:p=i
  ·subst h2;simp only [List.getD,og];rw [Kj (fun e=>h1 e.symm)];simp [hi]
  ·rw [ga h2];simp only [List.getD];rw [Kj (fun e=>h1 e.symm),Kj (fun e=>h2 e.symm)]
theorem vi {q:List ByteArray} {i k:Nat} (hi:i<q.length) (hk:k<q.length):ta q i k=(q.set i q[k]).set k q[i]:=by
 unfold ta;simp [List.getD,hi,hk]
theorem vM {q:List ByteArray} {i k:Nat} (hi:i<q.length) (hk:k<q.length):(ta q i k).Perm q:=by
 rw [vi hi hk];exact List.set_set_perm hi hk
def Dz (l:List ByteArray) (i j:Nat):Prop:=∀ p q,p<q->q<=i->(p≠j->q≠j->leS (l.getD p eb) (l.getD q eb))/\(p=j->leS (l.getD p eb) (l.getD q eb))
def G8 (l:List ByteArray) (i:Nat):Prop:=∀ p q,p<q->q<i->leS (l.getD p eb) (l.getD q eb)
theorem Dz.first {l:List ByteArray} {i:Nat} (h:G8 l i):Dz l i i:=fun p q h1 h2=>⟨fun _ h4=>h p q h1 OC,fun e=>by omega⟩
theorem Dz.swap {l:List ByteArray} {i j:Nat} (h:Dz l i j) (hj:0<j) (hji:j<=i) (hi:i<l.length) (hlt:ltS (l.getD j eb) (l.getD (j-1) eb)):Dz (ta l j (j-1)) i (j-1):=by
 intro p q h1 h2;rw [me OC OC,me OC OC];have a1:=h p q h1 h2;have a2:=h (j-1) q;have a3:=h p (j-1);have a4:=h j q;have a5:=h p j;by_cases e1:p=j-1
 ·rw [og e1];refine ⟨fun h=>absurd e1 h,fun _=>?_⟩;by_cases e2:q=j-1
  ·omega
  ·rw [ga e2];by_cases e3:q=j
   ·rw [og e3];exact G7 hlt
   ·rw [ga e3];exact (a4 OC h2).2 O
 ·rw [ga e1];refine ⟨fun _ h4=>?_,fun h=>absurd h e1⟩;rw [ga h4];by_cases e3:q=j
  ·rw [og e3,ga OC];exact (a3 OC OC).1 OC OC
  ·rw [ga e3];by_cases e5:p=j
   ·rw [og e5];exact (a2 OC h2).1 OC e3
   ·rw [ga e5];exact a1.1 e5 e3
theorem Dz.last {l:List ByteArray} {i j:Nat} (h:Dz l i j) (hji:j<=i) (hs:j=0\/leS (l.getD (j-1) eb) (l.getD j eb)):G8 l (i+1):=by
 intro p q h1 h2;have a1:=h p q h1 OC;have a3:=h p (j-1);by_cases e1:p=j
 ·exact a1.2 e1
 ·by_cases e2:q=j
  ·subst e2;rcases hs with hs | hs
   ·omega
   ·by_cases e3:p=q-1
    ·rw [e3];exact hs
    ·exact pN ((a3 OC OC).1 e1 OC) hs
  ·exact a1.1 e1 e2
theorem G8.pw {l:List ByteArray} {i:Nat} (h:G8 l i) (hi:l.length<=i):l.Pairwise leS:=by
 rw [Ja];intro p q hp hq hpq;have:=h p q hpq OC;simpa [List.getD,hp,hq] using this
theorem Dx (a b:ByteArray):Op.bytesLess a.toList b.toList=decide (ltS a b):=by rw [jG,ByteArray.toList_eq,ByteArray.toList_eq];rfl
theorem pd (a:ByteArray):FnP Tryz.prog 172 [.str a] (· = .bool false):=by
 refine FnP.of func172 O ntmps172 OG fun m0 w0 F R0=>?_
 exact Z1 O O<|Z4 O O O O O<|Gt O<|⟨_,_,O,O,af PV.bool OG⟩
theorem wZ (a b:ByteArray):FnP Tryz.prog 235 [.str a,.str b] (· = .bool (decide (ltS a b))):=by
 refine FnP.of func235 O ntmps235 OG fun m0 w0 F R0=>?_
 have hb:=Dx a b;refine Z1 O O<|Z1 O O<|Rs 6 O O (ae call172 (pd a) O)<|A1 O ?_;apply Iy 4 7 11 [8,9,10] O ON
 ·intro hb2;exact A1 O<|Rg 9 O O O (ae call172 (pd b) O)<|Y2 O O<|Iq OM O O O
 ·intro hb2;iterate 4 refine A1 O ?_
  exact Iq OM O O O
 refine A1 O ?_;apply Ix 4 12 16 [13,14,15] O ON
 ·intro hb7;iterate 4 refine A1 O ?_
  exact Iq OM O O O
 ·intro hb7;iterate 4 refine A1 O ?_
  exact Iq OM O O O
 exact A1 O<|Gt O<|⟨_,_,O,O,af PV.bool (by rw [<-hb];simp)⟩
abbrev cB (l:List ByteArray):Ob:= .cells 9 (aA l)
theorem xF (l:List ByteArray) (n:Nat) (hl:l.length=n) (hn:n<=1000):FnO Tryz.prog 229 1 0 [.osl big 1 n,.pv (.int .i64 0),.pv (.int .i64 n)] [(big,cB l)] (fun v ob'=>v= .tup []/\ob'=ar [(big,cB (cR l))]):=by
 refine FnO.of func229 O ntmps229 OG fun m0 w0 F R0=>?_
 refine Z3 O O O O ?_;refine Gl O (st:=fun x_0:Nat×List ByteArray=>mkS [(0,.osl big 1 n),(1,.pv (.int .i64 0)),(2,.pv (.int .i64 n)),(6,.pv (.int .i64 x_0.1))] [(big,cB x_0.2)] 0)
  (I:=fun x_0=>1<=x_0.1/\x_0.2.Perm l/\G8 x_0.2 x_0.1/\x_0.1<=n+1) (μ:=fun x_0=>n+1-x_0.1) (x0:=(1,l)) (Io (aS O) (aO O) O O) (⟨qT _,List.Perm.refl _,fun p q h1 h2=>by simp at h2;omega,OG⟩) ?_
 rintro ⟨i,q⟩ ⟨hi,hq,ha,hin⟩;try simp only at hi hq ha hin ⊢
 refine Z3 O O O O ?_;refine Gp O O (fun hc12=>?_) (fun hc12=>?_)
 ·have hql:q.length=n:=by rw [hq.length_eq,hl]
  have hlt:i<n:=OC;refine Il<|Z2 O O O ?_;refine Gl O (st:=fun x_1:Nat×List ByteArray=>mkS [(0,.osl big 1 n),(1,.pv (.int .i64 0)),(2,.pv (.int .i64 n)),(6,.pv (.int .i64 i)),(7,.pv (.int .i64 x_1.1))] [(big,cB x_1.2)] 0)
   (I:=fun x_1=>x_1.1<=i/\x_1.2.Perm l/\Dz x_1.2 i x_1.1) (μ:=fun x_1=>x_1.1) (x0:=(i,q)) (Io (aS O) (aO O) O O) (⟨qT _,hq,Dz.first ha⟩) ?_
  rintro ⟨j,s⟩ ⟨hj,hs,hI⟩;try simp only at hj hs hI ⊢
  have hsl:s.length=n:=by rw [hs.length_eq,hl]
  have hjl:j<s.length:=OC;have hv0:=aM hjl;by_cases h:0<j
  ·have hjl1:j-1<s.length:=OC;have hv1:=aM hjl1;have hd1:s.getD j eb=s[j]:=by simp [List.getD,hjl]
   have hd2:s.getD (j-1) eb=s[j-1]:=by simp [List.getD,hjl1]
   refine Ge O follows [0,1,2,3,4,5,6,7,8,9,10,11,12,13,14] OD ?_;iterate 2 refine D1 O O ?_
   refine Ds 18 [] O O O (fun τ h=>(aQ (Ee h 0 O O) (Ee h 1 O O) O).cast (v':= .pv (.bool true)) OH) O OD ?_;iterate 3 refine D1 O O ?_
   refine Dg 22 [_] O O O O (fun τ h=>aa j underlying47 sz9 (Ee h 0 O O) (Eo h 0 O O) (Ee h 1 O O) O OC) O OD<|Dg 23 [_] O O O O (fun τ h=>aC ⟨_,underlying9,O⟩ (Ee h 0 O O) (Eo h 0 O O) hv0) O OD ?_;iterate 3 refine D1 O O ?_
   refine Dg 27 [_] O O O O (fun τ h=>aa (j-1) underlying47 sz9 (Ee h 0 O O) (Eo h 0 O O) (Ee h 1 O O) OC OC) O OD<|Dg 28 [_] O O O O (fun τ h=>aC ⟨_,underlying9,O⟩ (Ee h 0 O O) (Eo h 0 O O) hv1) O OD<|Dg 29 [] O O O O (fun τ h=>ae call235 (wZ s[j] s[j-1]) (h.bt O)) O OD<|Ds 30 [] O O O (fun τ h=>DN (Ee h 0 O O) (Ee h 1 O O)) O OD ?_;refine ⟨OD,?_⟩;refine Gc O O (fun hc30=>?_) (fun hc30=>?_)
   ·have hsw:ltS (s.getD j eb) (s.getD (j-1) eb):=by rw [hd1,hd2];exact Kh hc30
    have hsp:=vM hjl hjl1;have hse:=vi hjl hjl1;refine Il<|Ge O follows [0,1,2,3,4,5,6,7,8,9,10,11,12,13,14,15,16,17] OD ?_;iterate 8 refine D1 O O ?_
    refine Ds 41 [_] O O O (fun τ h=>aa (j-1) underlying47 sz9 (Ee h 0 O O) (Eo h 0 O O) (Ee h 1 O O) OC OC) O OD<|Ds 42 [_] O O O (fun τ h=>aC ⟨_,underlying9,O⟩ (Ee h 0 O O) (Eo h 0 O O) hv1) O OD ?_;iterate 2 refine D1 O O ?_
    refine Ds 45 [_] O O O (fun τ h=>aa j underlying47 sz9 (Ee h 0 O O) (Eo h 0 O O) (Ee h 1 O O) O OC) O OD<|Ds 46 [_] O O O (fun τ h=>aC ⟨_,underlying9,O⟩ (Ee h 0 O O) (Eo h 0 O O) hv0) O OD<|Ds 47 [_] O O O (fun τ h=>aa j underlying47 sz9 (Ee h 0 O O) (Eo h 0 O O) (Ee h 1 O O) O OC) O OD<|DL.step (d:=none) [_] O O O (fun τ h=>aF sz9 (Ee h 0 O O) (Eo h 0 O O) (Ee h 1 O O) O OH) O OD<|Ds 48 [_] O O O (fun τ h=>aa (j-1) underlying47 sz9 (Ee h 0 O O) (Eo h 0 O O) (Ee h 1 O O) OC OC) O OD<|DL.step (d:=none) [_] O O O (fun τ h=>aF sz9 (Ee h 0 O O) (Eo h 0 O O) (Ee h 1 O O) O OH) O OD ?_;refine ⟨OD,?_⟩;exact Z3 O O O O<|⟨(j-1,ta s j (j-1)),Io ⟨O,O,O,O,af (fun i=>V.pv (PV.int .i64 i)) OC,OK⟩ ⟨af (fun c=>some (Ob.cells 9 c)) (by rw [hse];simp),OK⟩ O O,⟨OI,hsp.trans hs,hI.swap h hj OC hsw⟩,OI⟩
   ·have hst:j=0\/leS (s.getD (j-1) eb) (s.getD j eb):= .inr (by rw [hd1,hd2];exact Kq hc30);exact Gx O<|Z3 O O O O<|⟨(i+1,s),Io (aS O) (aO O) O O,⟨OI,hs,hI.last hj hst,OI⟩,OI⟩
  ·refine Ge O follows [0,1,2,3,4,5,6,7,8,9,10,11,12,13,14] OD ?_;iterate 2 refine D1 O O ?_
   refine Ds 18 [] O O O (fun τ h=>(aQ (Ee h 0 O O) (Ee h 1 O O) O).cast (v':= .pv (.bool false)) OH) O OD ?_;iterate 11 refine D1 O O ?_
   refine Ds 30 [] O O O (fun τ h=>CN (Ee h 0 O O) (Ee h 2 O O)) O OD ?_;refine ⟨OD,?_⟩;refine Gc O O (fun hc30=>absurd hc30 (Bool.false_ne_true)) (fun hc30=>?_);have hst:j=0\/leS (s.getD (j-1) eb) (s.getD j eb):= .inl OC;exact Gx O<|Z3 O O O O<|⟨(i+1,s),Io (aS O) (aO O) O O,⟨OI,hs,hI.last hj hst,OI⟩,OI⟩
 ·exact Gx O<|⟨[],[(big,cB (cR l))],[],Io trivial ⟨af (fun c=>some (Ob.cells 9 (aA c))) (Dm hq (ha.pw (by rw [hq.length_eq,hl];omega))),OK⟩ O O,O,O,O,O,O⟩
theorem Az (l:List ByteArray) (n:Nat) (e:Int) (hl:l.length=n) (hn:n<=12):FnO Tryz.prog 193 1 0 [.osl big 1 n,.pv (.int .i64 0),.pv (.int .i64 n),.pv (.int .i64 e)] [(big,cB l)] (fun v ob'=>v= .tup []/\ob'=ar [(big,cB (cR l))]):=by
 refine FnO.of func193 O ntmps193 OG fun m0 w0 F R0=>?_
 refine Z1 O O<|Z1 O O ?_;refine Gl O (st:=fun x_0:Unit=>mkS [(0,.osl big 1 n),(1,.pv (.int .i64 0)),(2,.pv (.int .i64 n)),(3,.pv (.int .i64 e)),(8,.pv (.bool true)),(9,.pv (.bool true))] [(big,cB l)] 0)
  (I:=fun x_0=>True) (μ:=fun x_0=>0) (x0:=(())) (Io (aS O) (aO O) O O) (trivial) ?_
 rintro u hI;refine Z4 O O O O O<|Z2 O O O ?_;refine Gp O O (fun hc23=>?_) (fun hc23=>absurd hc23 (fun h=>h OC));refine Z3 O O O O ?_;refine RL.call O (fA [big] 0 call229 (xF l n hl OC) O O O O ⟨O,OK⟩ OE O ?_);rintro _ _ ⟨rfl,rfl⟩;exact Gt O<|⟨[],[(big,cB (cR l))],[],Io trivial (aO O) O O,O,O,O,O,O⟩
theorem mX (l:List ByteArray) (n:Nat) (hl:l.length=n) (hn:n<=12):FnO Tryz.prog 148 1 0 [.osl big 1 n] [(big,cB l)] (fun v ob'=>v= .tup []/\ob'=ar [(big,cB (cR l))]):=by
 refine FnO.of func148 O ntmps148 OG fun m0 w0 F R0=>?_
 have hw:IntKind.u64.wrap (n:Int)=(n:Int):=by
  show ((n:Int)%18446744073709551616)=n;omega
 refine Z3 O O O O<|Z3 O O O O<|Rs 8 O O ((en underlying3 underlying161 O).cast (v':= .pv (.int .u64 n)) (by rw [hw])) ?_;refine RL.call O (dE call104 (tP n hn) O ?_);rintro _ ⟨e,rfl⟩;refine RL.call O (fA [big] 0 call193 (Az l n e hl hn) O O O O ⟨O,OK⟩ OE O ?_);rintro _ _ ⟨rfl,rfl⟩;exact ⟨[],[(big,cB (cR l))],[],Io trivial (aO O) O O,O,O,O,O,O⟩
theorem zQ {a b:ByteArray} (h:(a.toList !=b.toList)=false):a=b:=bytes_inj (by simpa using h)
theorem du {α:Type} {l:List α} {k:Nat} {x:α} (h:k<l.length):(l.set k x).take (k+1)=l.take k++[x]:=by
 rw [aR (by simpa using h),List.take_set_of_le (qT _)];simp
end
section
open Mk Jn
theorem oR {α:Type} {P:List α->Prop} (h0:P []) (h1:∀ l x,P l->P (l++[x])) (l:List α):P l:=by
 have:∀ n (l:List α),l.length=n->P l:=by
  intro n;induction n with
  | zero=>intro l hl;rw [sg.1 hl];exact h0
  | succ n ih=>
    intro l hl;have e:l=l.take n++[l[n]]:=by
     have:=aR (show n<l.length by omega);rw [bk OC] at this;exact this
    rw [e];exact h1 _ _ (ih _ OH)
 exact this _ l O
def GO (out:List ByteArray) (x:ByteArray):List ByteArray:=if out.getLast? =some x then out else out++[x]
def bD (l:List ByteArray):List ByteArray:=l.foldl GO []
theorem yf (l:List ByteArray):(bD l).getLast? =l.getLast? :=by
 refine oR (P:=fun l=>(bD l).getLast? =l.getLast?) O (fun l x ih=>?_) l
 ·unfold bD;rw [J0];simp only [FE,List.foldl_nil,GO];split
  ·next h=>rw [h];simp
  ·simp
theorem so (l:List ByteArray) (x:ByteArray):bD (l++[x])=if l.getLast? =some x then bD l else bD l++[x]:=by
 rw [<-yf];show List.foldl GO [] (l++[x])=_;rw [J0];rfl
theorem oc {l:List ByteArray} {y:ByteArray}:y∈bD l↔y∈l:=by
 refine oR (P:=fun l=>y∈bD l↔y∈l) Iff.rfl (fun l x ih=>?_) l
 ·rw [so];split
  ·next h=>
   rw [ih,my,fe];constructor
   ·exact .inl
   ·rintro (h1 | h1)
    ·exact h1
    ·subst h1;exact List.mem_of_getLast? h
  ·rw [my,my,ih]
theorem jX (l:List ByteArray):(bD l).length<=l.length:=by
 refine oR (P:=fun l=>(bD l).length<=l.length) (qT _) (fun l x ih=>?_) l;rw [so];split<;>simp<;>omega
theorem Bw {l:List ByteArray} (h:l.Pairwise leS):(bD l).Pairwise ltS:=by
 revert h
 refine oR (P:=fun l=>l.Pairwise leS->(bD l).Pairwise ltS) (fun _=>List.Pairwise.nil) (fun l x ih h=>?_) l
 ·rw [Kv] at h;rw [so];split
  ·exact ih h.1
  ·next hne=>
   rw [Kv];refine ⟨ih h.1,JR _ _,fun a ha b hb=>?_⟩;rw [fe] at hb;subst hb;have hle:=h.2.2 a (oc.1 ha) b OG;refine CP fun hlt=>hne ?_
   have heq:=tc hlt hle;subst heq;have hal:=oc.1 ha;cases hl:l.getLast? with
   | none=>rw [List.getLast?_eq_none_iff] at hl;subst hl;simp at hal
   | some z=>
     obtain ⟨pre,rfl⟩:=List.getLast?_eq_some_iff.1 hl;have hza:leS z a:=h.2.2 z OG a OG;rcases my.1 hal with h1 | h1
     ·have haz:=(Kv.1 h.1).2.2 a h1 z OG;rw [tE haz hza]
     ·rw [fe.1 h1]
theorem vW {l:List ByteArray} (h:l.Pairwise leS):(bD l).Nodup:=
 (Bw h).imp fun {a b} hab e=>by subst e;exact iA _ hab
theorem xy {l:List ByteArray} {k:Nat} (h0:0<k) (h:k<=l.length):(l.take k).getLast? =some (l[k-1]'OC):=by
 obtain ⟨j,rfl⟩:∃ j,k=j+1:=⟨k-1,OC⟩;rw [aR OC];simp only [List.getLast?_append,List.getLast?_singleton,Option.some_or,Nat.add_sub_cancel]
theorem p8 {l:List ByteArray} {k:Nat} (h0:0<k) (h:k<l.length):bD (l.take (k+1))=if l[k-1]'OC=l[k] then bD (l.take k) else bD (l.take k)++[l[k]]:=by
 rw [aR h,so,xy h0 OC];by_cases e:l[k-1]'OC=l[k]
 ·rw [og e,og (by rw [e])]
 ·rw [ga e,ga (fun h=>e (Ki h))]
theorem uj (l:List ByteArray) (h:l.length<2):bD l=l:=by
 match l,h with
 | [],_=>rfl
 | [x],_=>rfl
theorem jh (l:List ByteArray) (n:Nat) (hl:l.length=n) (hn:n<=1000):FnO Tryz.prog 149 1 0 [.osl big 1 n] [(big,cB l)] (fun v ob'=>v= .osl big 1 (bD l).length/\ob'=ar [(big,cB (bD l))]):=by
 refine FnO.of func149 O ntmps149 OG fun m0 w0 F R0=>?_
 refine Z1 O O<|Z3 O O O O ?_;refine Gp O O (fun hc8=>?_) (fun hc8=>?_)
 ·have hc1:=uj l OC;exact Z2 O O O<|Gt O<|⟨[(2,.osl big 1 n)],[(big,cB l)],[.osl big 1 n],Io (aS O) (aO O) O O,O,O,O,by rw [hc1,hl];rfl,by rw [hc1]⟩
 ·refine Il<|Z1 O O ?_;refine Gl O (st:=fun x_0:Nat=>mkS [(0,.osl big 1 n),(3,.pv (.int .i64 x_0))] [(big,cB l)] 0)
   (I:=fun x_0=>(1<=x_0/\x_0<=n)/\bD (l.take x_0)=l.take x_0) (μ:=fun x_0=>n-x_0) (x0:=(1)) (Io (aS O) (aO OD) O O) (⟨⟨qT _,OC⟩,uj _ OH⟩) ?_
  rintro k ⟨⟨hk1,hkn⟩,hck⟩;refine Z4 O O O O O ?_;refine Gp O O (fun hc13=>?_) (fun hc13=>?_)
  ·have hlt:k<l.length:=OC;have hlt1:k-1<l.length:=OC;have hv0:=aM hlt;have hv1:=aM hlt1;have hct:=p8 hk1 hlt;refine Il<|Ge O follows [0,1,2,3,4,5,6,7,8,9] OD ?_;iterate 2 refine D1 O O ?_
   refine Ds 18 [_] O O O (fun τ h=>aa k underlying47 sz9 (Ee h 0 O O) (Eo h 0 O O) (Ee h 1 O O) O OC) O OD<|Ds 19 [_] O O O (fun τ h=>aC ⟨_,underlying9,O⟩ (Ee h 0 O O) (Eo h 0 O O) hv0) O OD ?_;iterate 3 refine D1 O O ?_
   refine Ds 23 [_] O O O (fun τ h=>aa (k-1) underlying47 sz9 (Ee h 0 O O) (Eo h 0 O O) (Ee h 1 O O) OC OC) O OD<|Ds 24 [_] O O O (fun τ h=>aC ⟨_,underlying9,O⟩ (Ee h 0 O O) (Eo h 0 O O) hv1) O OD<|D1 O O ?_;refine ⟨OD,?_⟩;refine Gc O O (fun hc25=>?_) (fun hc25=>?_)
   ·have heq:l[k-1]=l[k]:=(baT hc25).symm;rw [og heq,hck] at hct;refine Z2 O O O<|Rs 28 O O (dK k underlying47 sz9 O O O O OC)<|A1 O<|Z1 O O ?_;refine Gl O (st:=fun x_1:Nat×Nat×List ByteArray=>mkS [(0,.osl big 1 n),(3,.pv (.int .i64 x_1.2.1)),(4,.tsl big (k*1) (n-k)),(5,.pv (.int .i64 x_1.1))] [(big,cB x_1.2.2)] 0)
     (I:=fun x_1=>((1<=x_1.1/\x_1.1<=n-k)/\(x_1.2.1<=k+x_1.1-1/\x_1.2.2.length=n))/\(x_1.2.2.drop (k+x_1.1-1)=l.drop (k+x_1.1-1)/\x_1.2.2.take x_1.2.1=bD (l.take (k+x_1.1))/\x_1.2.1=(bD (l.take (k+x_1.1))).length)) (μ:=fun x_1=>n-k-x_1.1) (x0:=(1,k,l)) (Io (aS O) (aO OD) O O) (⟨⟨⟨qT _,OI⟩,OI,hl⟩,O,hct.symm,by simp only;rw [hct,iP];omega⟩) ?_
    rintro ⟨i,k2,q⟩ ⟨⟨⟨hi1,hin⟩,hk2,hql⟩,hqd,hqt,hk2e⟩;try simp only at hi1 hin hk2 hql hqd hqt hk2e ⊢
    refine Z2 O O O<|Rs 31 O O (EI underlying47 O)<|A1 O ?_;refine Gp O O (fun hc32=>?_) (fun hc32=>?_)
    ·have hpl:k+i<l.length:=OC;have hpl1:k+i-1<l.length:=OC;have hq0:q[k+i]'OC=l[k+i]:=by have:=af (fun z=>z[1]?) hqd;simp only [FJ] at this;rw [show k+i-1+1=k+i by omega,fI OC,fI hpl] at this;exact Ki this
     have hq1:q[k+i-1]'OC=l[k+i-1]:=by have:=af (fun z=>z[0]?) hqd;simp only [FJ] at this;rw [show k+i-1+0=k+i-1 by omega,fI OC,fI hpl1] at this;exact Ki this
     have hv2:(aA q)[k*1+i*1]? =some (.str l[k+i]):=by rw [ID,ID,Ko,fI OC,hq0];rfl
     have hv3:(aA q)[k*1+(i-1)*1]? =some (.str l[k+i-1]):=by rw [ID,ID,show k+(i-1)=k+i-1 by omega,Ko,fI OC,hq1];rfl
     have hct2:=p8 (l:=l) (k:=k+i) OC hpl;have hdrop:q.drop (k+i)=l.drop (k+i):=by have:=af (fun z=>z.drop 1) hqd;simp only [List.drop_drop] at this;rwa [show k+i-1+1=k+i by omega] at this
     have hqln:(aA q).length=n:=by rw [rJ,hql]
     refine Il<|Ge O follows [0,1,2,3,4,5,6,7,8,9] OD ?_;iterate 2 refine D1 O O ?_
     refine Ds 37 [_] O O O (fun τ h=>eR i underlying47 sz9 (Ee h 0 O O) (Eo h 0 O O) (Ee h 1 O O) O OC) O OD<|Ds 38 [_] O O O (fun τ h=>aC ⟨_,underlying9,O⟩ (Ee h 0 O O) (Eo h 0 O O) hv2) O OD ?_;iterate 3 refine D1 O O ?_
     refine Ds 42 [_] O O O (fun τ h=>eR (i-1) underlying47 sz9 (Ee h 0 O O) (Eo h 0 O O) (Ee h 1 O O) OC OC) O OD<|Ds 43 [_] O O O (fun τ h=>aC ⟨_,underlying9,O⟩ (Ee h 0 O O) (Eo h 0 O O) hv3) O OD<|D1 O O ?_;refine ⟨OD,?_⟩;refine Gc O O (fun hc44=>?_) (fun hc44=>?_)
     ·have hne:¬ l[k+i-1]=l[k+i]:=fun e=>by rw [e] at hc44;simp at hc44
      rw [ga hne] at hct2;exact Z4 O O O O O<|Rs 49 O O (eR i underlying47 sz9 O O O O OC)<|Rs 50 O O (aC ⟨_,underlying9,O⟩ O O hv2)<|Rs 51 O O (aa k2 underlying47 sz9 O O O O OC)<|RL.step (d:=none) O O (aF sz9 O O O O OC)<|Z3 O O O O<|Z3 O O O O<|⟨(i+1,k2+1,q.set k2 l[k+i]),Io (aS O) ⟨af (fun c=>some (Ob.cells 9 c)) (jS l[k+i]),OK⟩ O O,⟨⟨⟨OI,OI⟩,OI,by simp only [tx];exact hql⟩,by simp only;rw [show k+(i+1)-1=k+i by omega,LU OC];exact hdrop,by simp only;rw [show k+(i+1)=k+i+1 by omega,hct2,<-hqt];exact du OC,by simp only;rw [show k+(i+1)=k+i+1 by omega,hct2,a6,<-hk2e];rfl⟩,OI⟩
     ·exact Il<|Z3 O O O O<|⟨(i+1,k2,q),Io (aS O) (aO OD) O O,⟨⟨⟨OI,OI⟩,OI,hql⟩,by simp only;rw [show k+(i+1)-1=k+i by omega];exact hdrop,by simp only;rw [show k+(i+1)=k+i+1 by omega,hct2,og (zQ hc44).symm];exact hqt,by simp only;rw [show k+(i+1)=k+i+1 by omega,hct2,og (zQ hc44).symm];exact hk2e⟩,OI⟩
    ·have hie:k+i=n:=OC;rw [show l.take (k+i)=l from bk OC] at hqt hk2e;have hqln:(aA q).length=n:=by rw [rJ,hql]
     have hcl:=jX l;have hfin:(aA q).take (k2*1)=aA (bD l):=by rw [ID,<-List.map_take,hqt]
     exact Gx O<|Z2 O O O<|Rs 56 O O (dK k2 underlying47 sz9 O O O O OC)<|RL.step (d:=none) O O (kn uq O O O OC)<|Z2 O O O<|Rs 59 O O (dC k2 underlying47 sz9 O O O O OC)<|A1 O<|Gt O<|⟨[(2,.osl big 1 k2)],[(big,cB (bD l))],[.osl big 1 k2],Io (aS O) ⟨af (fun c=>some (Ob.cells 9 c)) hfin,OK⟩ O O,O,O,O,by rw [hk2e];rfl,O⟩
   ·have hne:¬ l[k-1]=l[k]:=fun e=>by rw [e] at hc25;simp at hc25
    rw [ga hne,hck] at hct;exact Il<|Z3 O O O O<|⟨(k+1),Io (aS O) (aO OD) O O,⟨⟨OC,OC⟩,by rw [hct,aR hlt]⟩,OC⟩
  ·rw [bk OC] at hck;exact Gx O<|Z2 O O O<|Gt O<|⟨[(2,.osl big 1 n)],[(big,cB l)],[.osl big 1 n],Io (aS O) (aO O) O O,O,O,O,by rw [hck,hl];rfl,by rw [hck]⟩
theorem uK {J:JD} (hJ:JOk J) (r:Nat):∀ x∈dh J r,x.v.length=(cy J r).length:=by
 intro x hx;by_cases h:r<J.T.length
 ·have h2:r<J.S.rels.length:=by rw [<-hJ.n];exact h
  rw [show dh J r=J.T[r] by simp [dh,List.getD,h]] at hx;rw [hJ.v r h h2 x hx];simp [cy,List.getD,h2]
 ·rw [show dh J r=[] by simp [dh,List.getD,IT (by omega:J.T.length<=r)]] at hx;simp at hx
def sdS (l:List ByteArray):List ByteArray:=bD (cR l)
theorem qL (l:List ByteArray):(sdS l).Nodup:=vW (je l)
theorem sf (l:List ByteArray) (x:ByteArray):x∈sdS l↔x∈l:=by unfold sdS;rw [oc,(cY l).mem_iff]
theorem nG:sdS []=[]:=List.eq_nil_iff_forall_not_mem.2 fun x hx=>by rw [sf] at hx;simp at hx
def xf (J:JD) (f a:Nat) (σ:Asg ByteArray):List ByteArray:=((dh J f).filter fun x=>agr (cy J f) σ x.v).map fun x=>x.v.getD ((cy J f).idxOf (a:Int)) eb
def jx (J:JD) (a:Nat) (σ:Asg ByteArray):List ByteArray:=match bw (RJ J) (a:Int) with
 | []=>[]
 | f::_=>sdS (xf J f a σ)
def r4 (J:JD) (a k:Nat):List Nat:=(List.range k).filter fun r=>decide ((a:Int)∈(RJ J).at r)
theorem mM (J:JD) (a:Nat):r4 J a J.S.rels.length=bw (RJ J) (a:Int):=by unfold r4 bw;rw [show (RJ J).A.length=J.S.rels.length by simp [RJ]]
theorem mD (J:JD) (a:Nat) {k:Nat} (h:k<J.S.rels.length):r4 J a (k+1)=r4 J a k++if (a:Int)∈J.S.rels[k].2 then [k] else []:=by
 unfold r4;rw [LF,Jm];have e:(RJ J).at k=J.S.rels[k].2:=by rw [qX];simp [cy,List.getD,h]
 by_cases hm:(a:Int)∈J.S.rels[k].2
 ·simp [Hf,e,hm]
 ·simp [Hf,e,hm]
theorem kA (J:JD) (a:Nat) (r:Nat) (h:r∈bw (RJ J) (a:Int)):r<J.S.rels.length/\(a:Int)∈cy J r:=by
 have h1:=wU.1 h;refine ⟨by have:=Hq.1 h1.1;simpa [RJ] using this,?_⟩;rw [<-qX];simpa using h1.2
theorem mq {α β:Type} {f g:α->Option β}:∀ {l:List α},(∀ x∈l,f x=g x)->l.filterMap f=l.filterMap g
 | [],_=>rfl
 | x::l,h=>by
   rw [List.filterMap_cons,List.filterMap_cons,h x OG,mq fun y hy=>h y (by simp [hy])]
theorem re (J:JD) (a:Nat) (σ:Asg ByteArray) (hσ:σ (a:Int)=none) {f:Nat} {rest:List Nat} (hw:bw (RJ J) (a:Int)=f::rest) (hv:∀ x∈dh J f,x.v.length=(cy J f).length):bC (RJ J) sdS (a:Int) σ=(sdS (xf J f a σ)).filter fun x=> !dS J (bw (RJ J) (a:Int)) σ a x:=by
 unfold bC;rw [hw];simp only;have hu:gf σ (a:Int)=σ:=by funext b;unfold gf;split<;>simp_all
 have hm:(a:Int)∈cy J f:=(kA J a f (by rw [hw];simp)).2;have hi:=Kr hm;have e1:(((RJ J).rows f).filter (agr ((RJ J).at f) (gf σ a))).filterMap (fun row=>row[((RJ J).at f).idxOf (a:Int)]?)=xf J f a σ:=by
  rw [hu,kF,qX,List.filter_map,List.filterMap_map];unfold xf;rw [<-List.filterMap_eq_map];refine mq fun x hx=>?_
  have hxl:=hv x (wU.1 hx).1;simp only [Function.comp_apply];rw [fI OC];simp [List.getD,hxl,hi]
 rw [e1];refine List.filter_congr fun x _=>?_
 unfold dS;rw [BY,nP];simp
end
section
open Mk Jn
abbrev o8B (J:JD) (W:WD) (q:List ByteArray) (σ:Asg ByteArray) (now:List ByteArray) (mk mv:List PV):List (Nat×Ob):=[(big,cB q),(9001,.mix 139 [.ptr 9002 0]),(9002,oB W 9006 9003 J.S.attrs.length 9004 9005),(9003,.cells 9 (aA now)),(9004,.cells 4 (ay (stL σ J.S.attrs.length))),(9005,.mp mk mv),(9006,oX2 J 9007),(9007,.mp J.pk J.pv)]
abbrev c1B (a:Nat) (rs:List Nat):V:= .fn (.func 151) [] [.ptr 9001 0,.pv (.rp [.int .i64 a] 0),.pv (.rp [ak (bK rs)] 0)]
theorem qj (J:JD) (hJ:JOk J) (W:WD) (σ:Asg ByteArray) (now:List ByteArray) (hn:NowOk J.S.attrs.length σ now) (mk mv:List PV) (a:Nat) (ha:a<J.S.attrs.length) (hσ:σ (a:Int)=none) (rs:List Nat) (hl:rs.length<=1000) (hr:∀ r∈rs,r<J.S.rels.length) (l:List ByteArray) (n:Nat) (hln:l.length=n) (hn1:n<=1000) (i:Int)
  (hi1:∀ k (h:k<l.length),dS J rs σ a l[k]=true->(∀ j (h:j<l.length),j<k->dS J rs σ a l[j]=false)->i=k) (hi2:(∀ j (h:j<l.length),dS J rs σ a l[j]=false)->i= -1):
  FnO Tryz.prog 194 8 0 [.osl big 1 n,c1B a rs] (o8B J W l σ now mk mv) (fun v ob'=>v= .pv (.int .i64 i)/\ob'=ar (o8B J W l σ (tst now a (l.take (if i<0 then n else i.toNat+1))) mk mv)):=by
 refine FnO.of func194 O ntmps194 OG fun m0 w0 F R0=>?_
 refine Z1 O O<|Z3 O O O O ?_;refine Gl O (st:=fun x_0:Nat=>mkS [(0,.osl big 1 n),(1,c1B a rs),(7,.pv (.int .i64 n)),(8,.pv (.int .i64 x_0))] [(big,cB l),(9001,.mix 139 [.ptr 9002 0]),(9002,oB W 9006 9003 J.S.attrs.length 9004 9005),(9003,.cells 9 (aA (tst now a (l.take x_0)))),(9004,.cells 4 (ay (stL σ J.S.attrs.length))),(9005,.mp mk mv),(9006,oX2 J 9007),(9007,.mp J.pk J.pv)] 0)
  (I:=fun x_0=>x_0<=n/\∀ j (h:j<l.length),j<x_0->dS J rs σ a l[j]=false) (μ:=fun x_0=>n-x_0) (x0:=(0)) (Io (aS O) (aO OD) O O) (⟨eF _,fun _ _ h=>absurd h OC⟩) ?_
 rintro k ⟨hk,hno⟩;refine Z1 O O ?_;refine Gp O O (fun hc9=>?_) (fun hc9=>?_)
 ·have hlt:k<l.length:=OC;have hv:=aM hlt;have hgk:=mE J hJ W σ (tst now a (l.take k)) (ki hn ha hσ _) mk mv a ha hσ rs hl hr l[k];rw [jJ hlt] at hgk;have hik:=hi1 k hlt;rw [show (rs.any fun r=> !(Bd (RJ J) r (put σ a l[k])))=dS J rs σ a l[k] from O] at hgk;generalize hbk:dS J rs σ a l[k]=b at*;refine Il<|Z2 O O O<|Z3 O O O O<|Rs 14 O O (aa k underlying47 sz9 O O O O OC)<|Rs 15 O O (aC ⟨_,underlying9,O⟩ O O hv)<|Rs 16 O O (bJ [9001,9002,9003,9004,9005,9006,9007] 0 call151 hgk O O O O O O ⟨O,O,O,O,O,O,O,OK⟩ OE O) ?_;refine Gc O O (fun hc16=>?_) (fun hc16=>?_)
  ·exact Z2 O O O<|Gt O<|⟨[(4,.pv (.int .i64 k))],o8B J W l σ (tst now a (l.take (k+1))) mk mv,[.pv (.int .i64 k)],Io (aS O) (aO OD) O O,O,O,O,by rw [hik hc16 hno];rfl,by rw [hik hc16 hno,ga OC];rfl⟩
  ·exact Il<|Z2 O O O<|⟨(k+1),Io (aS O) (aO OD) O O,⟨OC,fun j h hj=>by rcases DJ.1 hj with h1 | h1;exact hno j h h1;subst h1;rw [hbk];exact hc16⟩,OC⟩
 ·have hm:=hi2 fun j h=>hno j h OC
  obtain rfl:n=k:=OC;exact Gx O<|Z1 O O<|Gt O<|⟨[(4,.pv (.int .i64 (-1)))],o8B J W l σ (tst now a (l.take n)) mk mv,[.pv (.int .i64 (-1))],Io (aS O) (aO OD) O O,O,O,O,by rw [hm];rfl,by rw [hm];rfl⟩
theorem qG (J:JD) (hJ:JOk J) (W:WD) (σ:Asg ByteArray) (now:List ByteArray) (hn:NowOk J.S.attrs.length σ now) (mk mv:List PV) (a:Nat) (ha:a<J.S.attrs.length) (hσ:σ (a:Int)=none) (rs:List Nat) (hl:rs.length<=1000) (hr:∀ r∈rs,r<J.S.rels.length) (l:List ByteArray) (n:Nat) (hln:l.length=n) (hn1:n<=1000):
  FnO Tryz.prog 150 8 0 [.osl big 1 n,c1B a rs] (o8B J W l σ now mk mv) (fun v ob'=>v= .osl big 1 (l.filter fun x=> !dS J rs σ a x).length/\ob'=ar (o8B J W (l.filter fun x=> !dS J rs σ a x) σ (tst now a l) mk mv)):=by
 obtain ⟨i,hi,hi1,hi2⟩:=jg l (dS J rs σ a);obtain ⟨hia,hib⟩:=sH hi hi1 hi2;have hidx:=qj J hJ W σ now hn mk mv a ha hσ rs hl hr l n hln hn1 i hi1 hi2;refine FnO.of func150 O ntmps150 OG fun m0 w0 F R0=>?_
 clear hi hi1 hi2;refine Z1 O O<|Z2 O O O<|Rs 10 O O (ah [big,9001,9002,9003,9004,9005,9006,9007] 0 call194 hidx O O O O ⟨O,O,O,O,O,O,O,O,OK⟩ OE O)<|A1 O<|Z2 O O O ?_;refine Gc O O (fun hc12=>?_) (fun hc12=>?_)
 ·have hie:i= -1:=by simpa using hc12
  have hf:(l.filter fun x=> !dS J rs σ a x)=l:=Ol.2 fun x hx=>by rw [hia hie x hx];rfl
  exact Z2 O O O<|Gt O<|⟨[(4,.osl big 1 n)],o8B J W l σ (tst now a l) mk mv,[.osl big 1 n],Io (aS O) ⟨OD,OD,OD,ry (b:=some (Ob.cells 9 (aA (tst now a (l.take (if i<0 then n else i.toNat+1)))))) OD (by rw [hie,og OE,bk OC]),OD,OD,OD,OD,OK⟩ O O,O,O,O,by rw [hf,hln];rfl,by rw [hf]⟩
 ·have hne:¬ i= -1:=by intro e;rw [e] at hc12;simp at hc12
  obtain ⟨i0,rfl,hi0,hft⟩:=hib hne;refine Il<|Z3 O O O O ?_;refine Gl O (st:=fun x_0:Nat×Nat×List ByteArray=>mkS [(0,.osl big 1 n),(1,c1B a rs),(5,.pv (.int .i64 x_0.2.1)),(6,.pv (.int .i64 x_0.1))] [(big,cB x_0.2.2),(9001,.mix 139 [.ptr 9002 0]),(9002,oB W 9006 9003 J.S.attrs.length 9004 9005),(9003,.cells 9 (aA (tst now a (l.take x_0.1)))),(9004,.cells 4 (ay (stL σ J.S.attrs.length))),(9005,.mp mk mv),(9006,oX2 J 9007),(9007,.mp J.pk J.pv)] 0)
   (I:=fun x_0=>((x_0.1<=n/\x_0.2.1<x_0.1)/\x_0.2.2.length=n)/\(x_0.2.2.drop x_0.1=l.drop x_0.1/\x_0.2.2.take x_0.2.1=(l.take x_0.1).filter fun x=> !dS J rs σ a x)/\x_0.2.1=((l.take x_0.1).filter fun x=> !dS J rs σ a x).length) (μ:=fun x_0=>n-x_0.1) (x0:=(i0+1,i0,l)) (Io (aS O) ⟨OD,OD,OD,ry (b:=some (Ob.cells 9 (aA (tst now a (l.take (if (i0:Int)<0 then n else (i0:Int).toNat+1)))))) OD (by rw [ga OC];rfl),OD,OD,OD,OD,OK⟩ O O) (⟨⟨⟨OI,OI⟩,hln⟩,⟨O,by simp only;rw [hft]⟩,by simp only;rw [hft,iP];omega⟩) ?_
  rintro ⟨k,m,q⟩ ⟨⟨⟨hk,hmk⟩,hql⟩,⟨hqd,hqt⟩,hme⟩;try simp only at hk hmk hql hqd hqt hme ⊢
  have hqln:(aA q).length=n:=by rw [rJ,hql]
  refine Z4 O O O O O ?_;refine Gp O O (fun hc19=>?_) (fun hc19=>?_)
  ·have hlt:k<l.length:=OC;have hq0:q[k]'OC=l[k]:=by have:=af (fun z=>z[0]?) hqd;simp only [FJ,KX] at this;rw [fI OC,fI hlt] at this;exact Ki this
   have hv:(aA q)[k*1]? =some (.str l[k]):=by rw [ID,Ko,fI OC,hq0];rfl
   have hgk:=mE J hJ W σ (tst now a (l.take k)) (ki hn ha hσ _) mk mv a ha hσ rs hl hr l[k];rw [jJ hlt] at hgk;rw [show (rs.any fun r=> !(Bd (RJ J) r (put σ a l[k])))=dS J rs σ a l[k] from O] at hgk;have hdrop:q.drop (k+1)=l.drop (k+1):=by have:=af (fun z=>z.drop 1) hqd;simpa only [List.drop_drop] using this
   have hfs:(l.take (k+1)).filter (fun x=> !dS J rs σ a x)=(l.take k).filter (fun x=> !dS J rs σ a x)++if dS J rs σ a l[k]=true then [] else [l[k]]:=by rw [aR hlt];exact kR _ _ _
   generalize hbk:dS J rs σ a l[k]=b at*;refine Il<|Z2 O O O<|Rs 24 O O (aa k underlying47 sz9 O O O O OC)<|Rs 25 O O (aC ⟨_,underlying9,O⟩ O O hv)<|A1 O<|Z2 O O O<|Rs 28 O O (bJ [9001,9002,9003,9004,9005,9006,9007] 0 call151 hgk O O O O O O ⟨O,O,O,O,O,O,O,OK⟩ OE O)<|A1 O ?_;refine Gc O O (fun hc29=>?_) (fun hc29=>?_)
   ·exact Z3 O O O O<|Rs 33 O O (aa m underlying47 sz9 O O O O OC)<|RL.step (d:=none) O O (aF sz9 O O O O OC)<|Z3 O O O O<|Z3 O O O O<|⟨(k+1,m+1,q.set m l[k]),Io (aS O) ⟨ry (b:=some (Ob.cells 9 ((aA q).set (m*1) (.str l[k])))) OD (af (fun c=>some (Ob.cells 9 c)) (jS l[k])),OD,OD,OD,OD,OD,OD,OD,OK⟩ O O,⟨⟨⟨OI,OI⟩,by simp only [tx];exact hql⟩,⟨by simp only;rw [LU OC];exact hdrop,by simp only;rw [hfs,ga (by intro e;rw [e] at hc29;simp at hc29),<-hqt];exact du OC⟩,by simp only;rw [hfs,ga (by intro e;rw [e] at hc29;simp at hc29),a6,<-hme];rfl⟩,OI⟩
   ·exact Il<|Z3 O O O O<|⟨(k+1,m,q),Io (aS O) (aO OD) O O,⟨⟨⟨OI,OI⟩,hql⟩,⟨hdrop,by simp only;rw [hfs,og (by simpa using hc29),xd];exact hqt⟩,by simp only;rw [hfs,og (by simpa using hc29),xd];exact hme⟩,OI⟩
  ·have hkn:l.take k=l:=bk OC;rw [hkn] at hqt hme;have hfin:(aA q).take (m*1)=aA (l.filter fun x=> !dS J rs σ a x):=by rw [ID,<-List.map_take,hqt]
   exact Gx O<|Z2 O O O<|Rs 38 O O (dK m underlying47 sz9 O O O O OC)<|RL.step (d:=none) O O (kn uq O O O OC)<|Z2 O O O<|Rs 41 O O (dC m underlying47 sz9 O O O O OC)<|A1 O<|Gt O<|⟨[(4,.osl big 1 m)],o8B J W (l.filter fun x=> !dS J rs σ a x) σ (tst now a l) mk mv,[.osl big 1 m],Io (aS O) ⟨ry (b:=some (Ob.cells 9 ((aA q).take (m*1)))) OD (af (fun c=>some (Ob.cells 9 c)) hfin),OD,OD,ry (b:=some (Ob.cells 9 (aA (tst now a (l.take k))))) OD (by rw [hkn]),OD,OD,OD,OD,OK⟩ O O,O,O,O,by rw [hme];rfl,O⟩
end
section
open Mk Jn
theorem Dy {l:List Int} {x:Int} {k:Nat} (h:k<l.length) (hx:l[k]=x) (hno:∀ j (h:j<l.length),j<k->l[j]≠x):l.idxOf x=k:=by
 have hm:x∈l:=hx▸aJ h;have h1:=Kr hm;have h2:l[l.idxOf x]=x:=List.getElem_idxOf h1;rcases Nat.lt_trichotomy (l.idxOf x) k with c | c | c
 ·exact absurd h2 (hno _ h1 c)
 ·exact c
 ·exact absurd hx (by
   have:=List.not_of_lt_findIdx (p:=(· ==x)) (xs:=l) (i:=k) c;simpa using this)
theorem qb (l:List Int) (x:Int) (hl:l.length<=1000000) (hx:x∈l):FnP Tryz.prog 147 [ak l,.int .i64 x] (· = .int .i64 ((l.idxOf x:Nat):Int)):=by
 refine FnP.of func147 O ntmps147 OG fun m0 w0 F R0=>?_
 refine Z1 O O<|Z3 O O O O ?_;refine Gl O (st:=fun x_0:Nat=>mkS [(0,.pv (ak l)),(1,.pv (.int .i64 x)),(7,.pv (.int .i64 l.length)),(8,.pv (.int .i64 x_0))] [] 0)
  (I:=fun x_0=>x_0<=l.length/\∀ j (h:j<l.length),j<x_0->l[j]≠x) (μ:=fun x_0=>l.length-x_0) (x0:=(0)) (Io (aS O) trivial O O) (⟨eF _,fun _ _ h=>absurd h OC⟩) ?_
 rintro k ⟨hk,hno⟩;refine Z1 O O ?_;refine Gp O O (fun hc9=>?_) (fun hc9=>?_)
 ·have hlt:k<l.length:=OC;have hv:=cE hlt;have hne:=aH hlt;refine Il<|Z2 O O O<|Z4 O O O O O ?_;first | refine A2 O OF ?_ | refine A1 O ?_
  refine A1 O ?_;refine Gc O O (fun hc16=>?_) (fun hc16=>?_)
  ·exact Z2 O O O<|Gt O<|⟨_,_,O,O,by rw [Dy hlt (eq_of_beq hc16).symm hno];rfl⟩
  ·exact Il<|Z2 O O O<|⟨(k+1),Io (aS O) trivial O O,⟨OC,fun j h hj=>by rcases DJ.1 hj with h1 | h1;exact hno j h h1;subst h1;intro e;rw [e] at hc16;simp at hc16⟩,OC⟩
 ·exact absurd hx (fun hm=>by obtain ⟨j,h,e⟩:=IQ.1 hm;exact hno j h OC e)
  done
theorem AZ:FnP Tryz.prog 229 [aI [],.int .i64 0,.int .i64 0] (· = .tup []):=by
 refine FnP.of func229 O ntmps229 OG fun m0 w0 F R0=>?_
 refine Z3 O O O O ?_;refine Gl O (st:=fun x_0:Unit=>mkS [(0,.pv (aI [])),(1,.pv (.int .i64 0)),(2,.pv (.int .i64 0)),(6,.pv (.int .i64 1))] [] 0)
  (I:=fun x_0=>True) (μ:=fun x_0=>0) (x0:=(())) (Io (aS O) trivial O O) (trivial) ?_
 rintro u hI;refine Z3 O O O O ?_;refine Gp O O (fun hc12=>absurd hc12 OC) (fun hc12=>?_);exact Gx O<|⟨_,_,O,O,O⟩
theorem zh (e:Int):FnP Tryz.prog 193 [aI [],.int .i64 0,.int .i64 0,.int .i64 e] (· = .tup []):=by
 refine FnP.of func193 O ntmps193 OG fun m0 w0 F R0=>?_
 refine Z1 O O<|Z1 O O ?_;refine Gl O (st:=fun x_0:Unit=>mkS [(0,.pv (aI [])),(1,.pv (.int .i64 0)),(2,.pv (.int .i64 0)),(3,.pv (.int .i64 e)),(8,.pv (.bool true)),(9,.pv (.bool true))] [] 0)
  (I:=fun x_0=>True) (μ:=fun x_0=>0) (x0:=(())) (Io (aS O) trivial O O) (trivial) ?_
 rintro u hI;refine Z4 O O O O O<|Z2 O O O ?_;refine Gp O O (fun hc23=>?_) (fun hc23=>absurd hc23 (fun h=>h OC));exact Z3 O O O O<|Rs 27 O O (ae call229 AZ O)<|Gt O<|⟨_,_,O,O,O⟩
theorem lT:FnP Tryz.prog 148 [aI []] (· = .tup []):=by
 refine FnP.of func148 O ntmps148 OG fun m0 w0 F R0=>?_
 refine Z3 O O O O<|Z3 O O O O<|Rs 8 O O ((en underlying3 underlying161 O).cast (v':= .pv (.int .u64 (0:Nat))) O) ?_;refine RL.call O (dE call104 (tP 0 OE) O ?_);rintro _ ⟨e,rfl⟩;exact Rs 10 O O (ae call193 (zh e) O)<|⟨_,_,O,O,O⟩
theorem gD:FnP Tryz.prog 149 [aI []] (· =aI []):=by
 refine FnP.of func149 O ntmps149 OG fun m0 w0 F R0=>?_
 refine Z1 O O<|Z3 O O O O ?_;refine Gp O O (fun hc8=>?_) (fun hc8=>absurd hc8 (fun h=>h (by show ((0:Nat):Int)<2;omega)));exact Z2 O O O<|Gt O<|⟨_,_,O,O,O⟩
end
section
open Mk Jn
theorem vH (J:JD) (W:WD) (σ:Asg ByteArray) (now:List ByteArray) (mk mv:List PV) (a:Nat) (rs:List Nat):
  FnO Tryz.prog 194 7 0 [.pv (aI []),.fn (.func 151) [] [.ptr big 0,.pv (.rp [.int .i64 a] 0),.pv (.rp [ak (bK rs)] 0)]] (o7B J W σ now mk mv) (fun v ob'=>v= .pv (.int .i64 (-1))/\ob'=ar (o7B J W σ now mk mv)):=by
 refine FnO.of func194 O ntmps194 OG fun m0 w0 F R0=>?_
 refine Z1 O O<|Z3 O O O O ?_;refine Gl O (st:=fun x_0:Unit=>mkS [(0,.pv (aI [])),(1,.fn (.func 151) [] [.ptr big 0,.pv (.rp [.int .i64 a] 0),.pv (.rp [ak (bK rs)] 0)]),(7,.pv (.int .i64 0)),(8,.pv (.int .i64 0))] [(big,.mix 139 [.ptr 9001 0]),(9001,oB W 9005 9002 J.S.attrs.length 9003 9004),(9002,.cells 9 (aA now)),(9003,.cells 4 (ay (stL σ J.S.attrs.length))),(9004,.mp mk mv),(9005,oX2 J 9006),(9006,.mp J.pk J.pv)] 0)
  (I:=fun x_0=>True) (μ:=fun x_0=>0) (x0:=(())) (Io (aS O) (aO O) O O) (trivial) ?_
 rintro u hI;refine Z1 O O ?_;refine Gp O O (fun hc9=>absurd hc9 OC) (fun hc9=>?_);exact Gx O<|Z1 O O<|Gt O<|⟨[(4,.pv (.int .i64 (-1)))],o7B J W σ now mk mv,[.pv (.int .i64 (-1))],Io (aS O) (aO OD) O O,O,O,O,O,O⟩
theorem w8 (J:JD) (W:WD) (σ:Asg ByteArray) (now:List ByteArray) (mk mv:List PV) (a:Nat) (rs:List Nat):
  FnO Tryz.prog 150 7 0 [.pv (aI []),.fn (.func 151) [] [.ptr big 0,.pv (.rp [.int .i64 a] 0),.pv (.rp [ak (bK rs)] 0)]] (o7B J W σ now mk mv) (fun v ob'=>v= .pv (aI [])/\ob'=ar (o7B J W σ now mk mv)):=by
 refine FnO.of func150 O ntmps150 OG fun m0 w0 F R0=>?_
 have hgo:=vH J W σ now mk mv a rs;refine Z1 O O<|Z2 O O O<|Rs 10 O O (ah [big,9001,9002,9003,9004,9005,9006] 0 call194 hgo O O O O ⟨O,O,O,O,O,O,O,OK⟩ OE O)<|A1 O<|Z2 O O O ?_;refine Gc O O (fun hc12=>?_) (fun hc12=>absurd hc12 (by simp at hc12));exact Z2 O O O<|Gt O<|⟨[(4,.pv (aI []))],o7B J W σ now mk mv,[.pv (aI [])],Io (aS O) (aO OD) O O,O,O,O,O,O⟩
theorem mK (J:JD) (hJ:JOk J) (hJ12:∀ l∈J.T,l.length<=12) (W:WD) (σ:Asg ByteArray) (now:List ByteArray) (hn:NowOk J.S.attrs.length σ now) (mk mv:List PV) (a:Nat) (ha:a<J.S.attrs.length) (hσ:σ (a:Int)=none) (hw:bw (RJ J) a≠[]):
  FnO Tryz.prog 100 6 0 [.ptr big 0,.pv (.int .i64 a)] (o6B J W σ now mk mv) (fun v ob'=>v= .pv (aI (bC (RJ J) sdS a σ))/\ob'=ar (o6B J W σ (tst now a (jx J a σ)) mk mv)):=by
 refine FnO.of func100 O ntmps100 OG fun m0 w0 F R0=>?_
 have hS:=hJ.s;have hSr:=hS.r;obtain ⟨f,rest,hwf⟩:∃ f rest,bw (RJ J) a=f::rest:=by cases h:bw (RJ J) a with | nil=>exact absurd h hw | cons f rest=>exact ⟨f,rest,rfl⟩
 have hcv:=re J a σ hσ hwf (uK hJ f);have hcl:jx J a σ=sdS (xf J f a σ):=by unfold jx;rw [hwf]
 have hwm:=kA J a;have hff:=hwm f (by rw [hwf];simp);have hfr:=hff.1;have hrsl:(bw (RJ J) a).length<=1000:=uv (IE ..) (by simp [RJ];omega);have hrs:∀ r∈bw (RJ J) a,r<J.S.rels.length:=fun r hr=>(hwm r hr).1
 have hq0:(aE (bK (bw (RJ J) a)))[0]? =some (.int .i64 (f:Int)):=by rw [hwf];rfl
 have hqn:aE (bK (bw (RJ J) a))≠[]:=by rw [hwf];simp
 have hql:0<(bK (bw (RJ J) a)).length:=by rw [hwf];simp
 have hrne:=ew hfr;have hra:(bj J.S.rels)[f*2+1]? =some (ak J.S.rels[f].2):=by
  have h2:(((bj J.S.rels).drop (f*2)).take 2)[1]? =[PV.str J.S.rels[f].1,ak J.S.rels[f].2][1]? :=by rw [cW hfr]
  simpa [vR,FJ] using h2
 have hrl:=hS.l _ (aJ hfr);have hfT:f<J.T.length:=by rw [hJ.n];exact hfr
 have htr:=cD hfT;have htn:=dN hfT;have hTl:J.T[f].length<=12:=hJ12 _ (aJ hfT);have hxv:=hJ.v f hfT hfr;have hidx:=qb J.S.rels[f].2 a OC (by rw [<-show cy J f=J.S.rels[f].2 by simp [cy,List.getD,hfr]];exact hff.2);have hat:(J.S.rels[f].2).idxOf (a:Int)<J.S.rels[f].2.length:=Kr (by rw [<-show cy J f=J.S.rels[f].2 by simp [cy,List.getD,hfr]];exact hff.2);have hraw:xf J f a σ=(J.T[f].filter fun x=>agr J.S.rels[f].2 σ x.v).map fun x=>x.v.getD ((J.S.rels[f].2).idxOf (a:Int)) eb:=by unfold xf;rw [show cy J f=J.S.rels[f].2 by simp [cy,List.getD,hfr],show dh J f=J.T[f] by simp [dh,List.getD,hfT]]
 have hagr:∀ k (h:k<J.T[f].length),FnO Tryz.prog 102 6 0 [.ptr big 0,.pv (.int .i64 f),.pv (sJ J.T[f][k])] (o6B J W σ now mk mv) (fun v ob'=>v= .pv (.bool (agr J.S.rels[f].2 σ J.T[f][k].v))/\ob'=ar (o6B J W σ now mk mv)):=fun k h=>dV J hJ W σ now hn mk mv f hfr J.T[f][k] (hxv _ (aJ h))
 have hdel:=fun (l:List ByteArray) (n:Nat) (h1:l.length=n) (h2:n<=1000)=>qG J hJ W σ now hn mk mv a ha hσ (bw (RJ J) a) hrsl hrs l n h1 h2
 have hdel0:=w8 J W σ now mk mv a (bw (RJ J) a);have hwt:=mM J a;rw [hcl,hcv];clear hcl hcv hwm hff hrs hrsl hw hn;generalize J.T[f]=tf at*;generalize J.S.rels[f].2=A at*;generalize hrsg:bw (RJ J) (a:Int)=rs at*;refine Z3 O O O O<|Z1 O O<|Im (St.er 2 0 3 1 3 O O O)<|Gr O ?_;iterate 10 refine A1 O ?_
 refine Gl O (st:=fun x_0:Nat×List Nat=>mkS [(2,.ptr 0 0),(3,.ptr 1 0),(5,.ptr 2 0),(22,.pv (.sl none J.S.rels.length (bj J.S.rels))),(23,.pv (.int .i64 J.S.rels.length)),(24,.pv (.int .i64 x_0.1))] [(big,oB W 9004 9001 J.S.attrs.length 9002 9003),(0,.mix 139 [.ptr big 0]),(1,.mix 3 [.pv (.int .i64 a)]),(2,.mix 22 [.gsl 3 1 x_0.2.length]),(3,.gro 3 (aE (bK x_0.2))),(9001,.cells 9 (aA now)),(9002,.cells 4 (ay (stL σ J.S.attrs.length))),(9003,.mp mk mv),(9004,oX2 J 9005),(9005,.mp J.pk J.pv)] 4)
  (I:=fun x_0=>(x_0.1<=J.S.rels.length/\x_0.2.length<=x_0.1)/\x_0.2=r4 J a x_0.1) (μ:=fun x_0=>J.S.rels.length-x_0.1) (x0:=(0,[])) (Io (aS O) (aO OD) O O) (⟨⟨eF _,qT _⟩,O⟩) ?_
 rintro ⟨k,q⟩ ⟨⟨hk,hqk⟩,hqe⟩;try simp only at hk hqk hqe ⊢
 refine Z1 O O ?_;refine Gp O O (fun hc25=>?_) (fun hc25=>?_)
 ·have hlt:k<J.S.rels.length:=OC;have hrow:=cW hlt;have hne:=ew hlt;have hkl:=hS.l _ (aJ hlt);have hws:=mD J a hlt;generalize J.S.rels[k]=rk at*;refine Il<|Z2 O O O ?_;first | refine A3 O OF ?_ | refine A1 O ?_
  refine Y3 O O O<|Z3 O O O O<|Rs 32 O O (ae call146 (gY rk.2 a OC) O) ?_;refine Gc O O (fun hc32=>?_) (fun hc32=>?_)
  ·refine Gr O ?_;iterate 5 refine A1 O ?_
   exact Z2 O O O<|⟨(k+1,q++[k]),Ip [0,1,2,6] (aT O) ⟨OD,OD,OD,ry (b:=some (.mix 22 [.gsl 6 1 (q.length+1)])) OD (af (fun n=>some (Ob.mix 22 [.gsl 6 1 n])) (bW q k)),ry (b:=some (.gro 3 (aE (bK q)++[.int .i64 k]))) OD (af (fun c=>some (Ob.gro 3 c)) OG),OD,OD,OD,OD,OD,OK⟩ O O OE O,⟨⟨OI,by simp only [a6,vt];omega⟩,by simp only;rw [hws,og (Kh hc32),hqe]⟩,OI⟩
  ·exact Il<|Z2 O O O<|⟨(k+1,q),Io (aS O) (aO OD) O O,⟨⟨OI,OI⟩,by simp only;rw [hws,ga (Kq hc32),xd,hqe]⟩,OI⟩
 ·have hqrs:q=rs:=by rw [hqe,show k=J.S.rels.length by omega,hwt]
  subst hqrs;refine Im (Ir 3 O O)<|Im (St.fS 2 O O)<|Im (St.fS 1 O O)<|Im (Io (l:=[(2,.ptr 0 0),(3,.pv (.rp [.int .i64 a] 0)),(5,.pv (.rp [ak (bK q)] 0))]) (os:=(0,.mix 139 [.ptr big 0])::o6B J W σ now mk mv) (k:=1) ⟨OD,OD,ry (b:= .pv (.rp [.sl none q.length (aE (bK q))] 0)) OD (af (fun n=>V.pv (.rp [.sl none n (aE (bK q))] 0)) (show q.length=(bK q).length by simp)),OK⟩ (aO OD) O O) ?_;refine Gx O<|Z1 O O<|Rs 39 O O (ag 0 underlying22 sz3 O O O hql hqn)<|Rs 40 O O (ai ⟨_,underlying3,O⟩ O hq0)<|A1 O<|Ge O follows [0,1,2,3,4,5,6,7,8,9,10,11,12,13,14] OD ?_;iterate 9 refine D1 O O ?_
  refine Ds 50 [] O O O (fun τ h=>ag f underlying31 Eu (Ee h 0 O O) (Ee h 1 O O) O hfr hrne) O OD<|D1 O O<|Ds 52 [] O O O (fun τ h=>ai ⟨_,underlying22,O⟩ (Ee h 0 O O) hra) O OD<|D1 O O<|Ds 54 [] O O O (fun τ h=>ae call147 hidx (h.bt O)) O OD<|D1 O O ?_;refine ⟨OD,?_⟩;refine Z1 O O<|Im (Iu 10 1 1 9 O O)<|Gr O ?_;iterate 8 refine A1 O ?_
  refine Rs 63 O O (ag f underlying35 qk O O O hfT htn)<|Rs 64 O O (ai ⟨_,underlying38,O⟩ O htr)<|Y2 O O ?_;refine Gl O (st:=fun x_1:Nat×List ByteArray=>mkS [(2,.ptr 0 0),(3,.pv (.rp [.int .i64 a] 0)),(5,.pv (.rp [ak (bK q)] 0)),(8,.pv (.int .i64 f)),(9,.pv (.int .i64 ((A.idxOf (a:Int):Nat):Int))),(10,.gsl 1 1 x_1.2.length),(64,.pv (bL tf)),(65,.pv (.int .i64 tf.length)),(66,.pv (.int .i64 x_1.1))] [(big,oB W 9004 9001 J.S.attrs.length 9002 9003),(0,.mix 139 [.ptr big 0]),(1,.gro 9 (aA x_1.2)),(9001,.cells 9 (aA now)),(9002,.cells 4 (ay (stL σ J.S.attrs.length))),(9003,.mp mk mv),(9004,oX2 J 9005),(9005,.mp J.pk J.pv)] 2)
   (I:=fun x_1=>(x_1.1<=tf.length/\x_1.2.length<=x_1.1)/\x_1.2=((tf.take x_1.1).filter fun x=>agr A σ x.v).map fun x=>x.v.getD (A.idxOf (a:Int)) eb) (μ:=fun x_1=>tf.length-x_1.1) (x0:=(0,[])) (Io (aS O) (aO OD) O O) (⟨⟨eF _,qT _⟩,O⟩) ?_
  rintro ⟨k2,q2⟩ ⟨⟨hk2,hqk2⟩,hqe2⟩;try simp only at hk2 hqk2 hqe2 ⊢
  refine Z1 O O ?_;refine Gp O O (fun hc67=>?_) (fun hc67=>?_)
  ·have hlt2:k2<tf.length:=OC;have hrw:=aN hlt2;have hrn:=aW hlt2;have hga:=hagr k2 hlt2;have hxl:=hxv _ (aJ hlt2);have htk2:=aR hlt2;generalize tf[k2]=x at*;have hix:A.idxOf (a:Int)<x.v.length:=OC;have hvx:(aA x.v)[A.idxOf (a:Int)*1]? =some (.str (x.v.getD (A.idxOf (a:Int)) eb)):=by simp [List.getD,hix]
   have hxn:=bc hix;refine Il<|Z1 O O ?_;first | refine A3 O OF ?_ | refine A1 O ?_
   refine Y2 O O<|Ge O follows [0,1,2,3,4,5,6,7,8,9,10] OD ?_;iterate 5 refine D1 O O ?_
   refine Ds 76 [] O O O (fun τ h=>cg (zp:= .str ByteArray.empty) underlying152 underlying3 (.inr (.inr ⟨(Ee h 0 O O),O,O⟩)) (Ee h 1 O O) O Ic O (r:=none) O O O) O OD ?_;iterate 5 refine D1 O O ?_
   refine ⟨OD,?_⟩;by_cases hag:agr A σ x.v=true
   ·rw [hag] at hga;refine Z3 O O O O<|Rs 82 O O (ah [big,9001,9002,9003,9004,9005] 0 call102 hga O O O O ⟨O,O,O,O,O,O,OK⟩ OE O) ?_;iterate 13 refine A1 O ?_
    refine Gc O O (fun hc95=>?_) (fun hc95=>absurd hc95 OG);exact Z4 O O O O O<|Rs 100 O O (ag (A.idxOf (a:Int)) underlying47 sz9 O O O hix hxn)<|Rs 101 O O (ai ⟨_,underlying9,O⟩ O hvx)<|Y3 O O O<|Z2 O O O<|⟨(k2+1,q2++[x.v.getD (A.idxOf (a:Int)) eb]),Ip [0,4] ⟨O,O,O,O,O,af (fun n=>V.gsl 4 1 n) (bW q2 _),O,O,O,OK⟩ ⟨OD,OD,ry (b:=some (.gro 9 (aA q2++[.str (x.v.getD (A.idxOf (a:Int)) eb)]))) OD (af (fun c=>some (Ob.gro 9 c)) OG),OD,OD,OD,OD,OD,OK⟩ O O OE O,⟨⟨OI,by simp only [a6,vt];omega⟩,by simp only;rw [htk2,Jm,Ho,hqe2];simp [Hf,hag]⟩,OI⟩
   ·rw [J8 hag] at hga;refine Z3 O O O O<|Rs 82 O O (ah [big,9001,9002,9003,9004,9005] 0 call102 hga O O O O ⟨O,O,O,O,O,O,OK⟩ OE O) ?_;iterate 13 refine A1 O ?_
    refine Gc O O (fun hc95=>absurd hc95 OG) (fun hc95=>?_);exact Il<|Z2 O O O<|⟨(k2+1,q2),Io (aS O) (aO OD) O O,⟨⟨OI,OI⟩,by simp only;rw [htk2,Jm,Ho,hqe2];simp [Hf,hag]⟩,OI⟩
  ·have hq12:q2.length<=12:=OC;rw [show tf.take k2=tf from bk OC] at hqe2;have hqr:q2=xf J f a σ:=hqe2.trans hraw.symm;refine Gx O ?_;by_cases hq2:q2=[]
   ·subst hq2;exact Im (St.rB 10 O)<|Z1 O O<|Rs 106 O O (ae call148 lT O)<|Z1 O O<|Rs 108 O O (ae call149 gD O)<|A1 O<|Z2 O O O<|Rs 111 O O (ah [0,big,9001,9002,9003,9004,9005] 0 call150 hdel0 O O O O ⟨OD,OD,OD,OD,OD,OD,OD,OK⟩ OE O)<|A1 O<|Gt O<|⟨[(4,.pv (aI []))],o6B J W σ now mk mv,[.pv (aI [])],Io (aS O) (aO OD) O O,O,O,O,by rw [<-hqr,nG];rfl,by rw [<-hqr,nG];rfl⟩
   ·refine Im (St.ku 10 O O (CG.2 hq2) (by simpa using hq2)) ?_;have hsort:=mX q2 q2.length O hq12;have hcmp:=jh (cR q2) q2.length (cY q2).length_eq OC;have hcl2:=jX (cR q2);have hsl2:=(cY q2).length_eq;have hdl:=hdel (bD (cR q2)) (bD (cR q2)).length O OC;exact Z1 O O<|Rs 106 O O (ah [1] 0 call148 hsort O O O O ⟨O,OK⟩ OE O)<|Z1 O O<|Rs 108 O O (ah [1] 0 call149 hcmp O O O O ⟨O,OK⟩ OE O)<|A1 O<|Im (Io (l:=[(2,.ptr 0 0),(3,.pv (.rp [.int .i64 a] 0)),(5,.pv (.rp [ak (bK q)] 0)),(10,.osl 1 1 (bD (cR q2)).length)]) (os:=(1,cB (bD (cR q2)))::(0,.mix 139 [.ptr big 0])::o6B J W σ now mk mv) (k:=2) (aS OD) (aO OD) O O)<|Z2 O O O<|Rs 111 O O (ah [1,0,big,9001,9002,9003,9004,9005] 0 call150 hdl O O O O ⟨OD,OD,OD,OD,OD,OD,OD,OD,OK⟩ OE O)<|A1 O<|Im (Ir 1 O O)<|Im (St.uQ [4])<|Gt O<|⟨[(4,.pv (aI ((bD (cR q2)).filter fun x=> !dS J q σ a x)))],o6B J W σ (tst now a (bD (cR q2))) mk mv,[.pv (aI ((bD (cR q2)).filter fun x=> !dS J q σ a x))],Io (aS OD) (aO OD) O O,O,O,O,by rw [<-hqr];rfl,by rw [<-hqr];rfl⟩
end
section
section
variable {C:Ctx} {n:Nat} {σ:St} {dst:Option Tmp} {ty t t':TypeId} {ts:Array TypeId} {pos:String} {after:Array Edge} {gd:Option (Nat×Bool)} {x y:Operand}
theorem wR {e:TypeId} (hu:C.P.underlying t=some (.pointer e)) (hx:σ.ev n x= .pv .nilptr):
  XJ C n ⟨dst,.binOp .eql t x (.const (.pointer none)) t',ty,pos,after,gd⟩ σ ⟨.pv (.bool true),[],[]⟩:=
 .val fun a w m R hw=>by
  have h:=hw.pv hx;simp only [RelP] at h;have hc:a.eval (.const (.pointer none))= .pointer none:=rfl;have hu':C.P.underlying t=some (.pointer (C.P.pointee t)):=by simp [Program.pointee,hu]
  exact ⟨.bool true,by simp [execOp,h,eqGuard,hc,run_eql_pointer_nil _ _ _ hu'],by simp only [Rel,RelP]⟩
theorem vC {e:TypeId} {id off:Nat} {o:Ob} (hu:C.P.underlying t=some (.pointer e)) (hx:σ.ev n x= .ptr id off) (ho:σ.ob id=some o) (hre:o.real=true:=by rfl):
  XJ C n ⟨dst,.binOp .eql t x (.const (.pointer none)) t',ty,pos,after,gd⟩ σ ⟨.pv (.bool false),[],[]⟩:=
 .val fun a w m R hw=>by
  obtain ⟨b,N,h,_⟩:=hw.ptr hx ho hre;have hc:a.eval (.const (.pointer none))= .pointer none:=rfl;have hu':C.P.underlying t=some (.pointer (C.P.pointee t)):=by simp [Program.pointee,hu]
  exact ⟨.bool false,by simp [execOp,h,eqGuard,hc,run_eql_pointer_nil _ _ _ hu'],by simp only [Rel,RelP]⟩
theorem wF {e:TypeId} {j:TypeInfo} {id off:Nat} {o:Ob} (hu:C.P.underlying t=some (.pointer e)) (hj:C.P.info? e=some j) (hx:σ.ev n x= .ptr id off) (hy:σ.ev n y= .ptr id off) (ho:σ.ob id=some o) (hre:o.real=true:=by rfl):
  XJ C n ⟨dst,.binOp .neq t x y t',ty,pos,after,gd⟩ σ ⟨.pv (.bool false),[],[]⟩:=
 .val fun a w m R hw=>by
  obtain ⟨b,N,h,hm,_⟩:=hw.ptr hx ho hre;obtain ⟨b2,N2,h2,hm2,_⟩:=hw.ptr hy ho hre;rw [hm] at hm2;cases hm2;exact ⟨.bool false,by simp [execOp,h,h2,eqGuard,Lib.run_neq_ptr_same _ _ hu hj],by simp only [Rel,RelP]⟩
theorem zH {P:Program} {T:TypeId} {N d s:Nat} (hd:P.depth=d+1) (hs:P.cellsOf T=s) (h0:s≠0) (hN:s<=N):liesAt P P.depth T (N/P.cellsOf T) 0 T 1=true:=by
 have h1:0<N/s:=Nat.div_pos hN OC;have hsame:sameLayout P P.depth T T=true:=by rw [hd];unfold sameLayout;simp
 have hrow:rowAt P (sameLayout P P.depth · T) P.depth T (N/P.cellsOf T) 0 1=true:=by
  rw [show P.depth=d+1 from hd];unfold rowAt;rw [hs,ga h0];have hs2:sameLayout P (d+1) T T=true:=by rw [<-hd];exact hsame
  simp only [Nat.zero_div,Nat.zero_mod,Dq,hs2,Lu,Ls,Oh];rw [x7 (show 1<=N/s from h1)];rfl
 rw [hd];unfold liesAt;rw [hrow];rfl
theorem CI {e T:TypeId} {j:TypeInfo} {s d:TypeId} {id:Nat} {cs:List V} (hs:C.P.underlying s=some (.pointer e)) (hd:C.P.underlying d=some .unsafePointer) (hj:C.P.info? e=some j) (hj0:j.size≠0) (hx:σ.ev n x= .ptr id 0) (ho:σ.ob id=some (.mix T cs)) (hl:cs≠[]):
  XJ C n ⟨dst,.convert s d x,ty,pos,after,gd⟩ σ ⟨.ptr id 0,[],[]⟩:=
 .val fun a w m R hw=>by
  obtain ⟨b,N,h,hm,arr,hb,hsz,hle,_⟩:=hw.ptr hx ho;have hev:=hw.ev x;rw [hx] at hev;have hpos:0<cs.length:=CG.2 hl;have hsh:w.shape? b=some (T,arr.size):=by simp [World.shape?,hb]
  refine ⟨a.eval x,?_,hev⟩;simp only [execOp,h,Sem.run_bind,Lib.run_to_unsafe w ⟨b,0,none⟩ hs hd hj hj0 hsh (show 0<arr.size by omega),Result.andThen_ok];rfl
theorem Cx {T:TypeId} {j:TypeInfo} {s d:TypeId} {id dp:Nat} {cs:List V} (hs:C.P.underlying s=some .unsafePointer) (hd:C.P.underlying d=some (.pointer T)) (hj:C.P.info? T=some j) (hdp:C.P.depth=dp+1) (hc:C.P.cellsOf T=cs.length) (hx:σ.ev n x= .ptr id 0) (ho:σ.ob id=some (.mix T cs)) (hl:cs≠[]):
  XJ C n ⟨dst,.convert s d x,ty,pos,after,gd⟩ σ ⟨.ptr id 0,[],[]⟩:=
 .val fun a w m R hw=>by
  obtain ⟨b,N,h,hm,arr,hb,hsz,hle,_⟩:=hw.ptr hx ho;have hev:=hw.ev x;rw [hx] at hev;have hpos:0<cs.length:=CG.2 hl;have hsh:w.shape? b=some (T,arr.size):=by simp [World.shape?,hb]
  refine ⟨a.eval x,?_,hev⟩;simp only [execOp,h,Sem.run_bind,Lib.run_from_unsafe w ⟨b,0,none⟩ hs hd hj hsh (zH hdp hc OC OC),Result.andThen_ok];rfl
theorem Cg {f:FuncId} {fn:Func} {v:V} (hf:C.P.funcs[f]? =some fn) (hname:(fn.name== "runtime.NumGoroutine")=false) (hb:fn.body.isNone=true) (hn:Extern.findNext fn=none) (he:Extern.find fn=some Extern.AbiNoEscape.same) (hx:σ.ev n x=v):
  XJ C n ⟨dst,.call { callee:= .value (.func f),args:= #[x],argTypes:=ts },ty,pos,after,gd⟩ σ ⟨v,[],[]⟩:=
 .val fun a w m R hw=>by
  have hev:=hw.ev x;rw [hx] at hev;refine ⟨a.eval x,?_,hev⟩;have hr:=run_callFunc_extern hf hname hb hn he #[a.eval x] w;rw [Lib.run_noEscape] at hr;simp only [Result.andThen_ok] at hr;have hc:a.eval (.func f)= .func (.func f) #[] #[]:=rfl;simp [execOp,resolve,Deferred.ofValue,invoke,hc,hr]
theorem FL {P:Program} (w:World) (t u ty e:TypeId) (i:TypeInfo) (ht:P.underlying t=some (.slice e)) (hu:P.underlying u=some .string) (hi:P.info? e=some i) (hz:i.zero=some (.int .u8 0)) (hs1:i.size=1) (hby:i.bytes=1)
  (g cap k:Nat) (cur:Array Value) (hg:w.heap[g]? =some (.cells cur e (0,0))) (hkc:k<=cap) (hcm:cap<=maxLen) (hcs:cur.size=cap) (s:ByteArray) (hb:k+s.size<=1000000000):
  ∃ g' c' w',(Builtin.append_ #[t,u] ty #[.slice (some ⟨g,0,none⟩) k cap,.string s]).run P w= .ok (.slice (some ⟨g',0,none⟩) (k+s.size) c') w'/\w.grownBy w' (some g)/\(g'=g\/g'=w.heap.size)/\
   k+s.size<=c'/\c'<=maxLen/\∃ cur',w'.heap[g']? =some (.cells cur' e (0,0))/\cur'.size=c'/\cur'.toList.take (k+s.size)=cur.toList.take k++Lib.strCells s:=by
 have hl:(cur.toList.take k++Lib.strCells s).length=k+s.size:=by
  rw [a6,Lib.strCells_length,iP,zE];omega
 by_cases hroom:k+s.size<=cap
 ·refine ⟨g,cap,_,Lib.run_append_room_string (P:=P) w t u ty e i ht hu hi hs1 g k cap cur hg s hroom OC,⟨O,O,O,OG,fun q _ hq=>setRow_other w g q _ (fun e=>hq (by rw [e]))⟩,.inl O,hroom,hcm,_,setRow_heap w g cur _ e _ hg,?_,?_⟩
  ·simp only [JX,a6,iP,Ak,zE,Lib.strCells_length];omega
  ·simp only [];rw [show k+s.size=(cur.toList.take k++Lib.strCells s).length from hl.symm];exact List.take_left
 ·have holds:∀ j u,(cur.toList.take k)[j]? =some u->w.cell? ((⟨g,0,none⟩:Addr).add j)=some u:=fun j u hj=>by
   rw [Addr.add_lit];simp only [Dq];rw [cell_of_row w g j cur e (0,0) hg,<-hj,vR];have hjl:j<(cur.toList.take k).length:=by
    rcases LK j (cur.toList.take k).length with h | h
    ·exact h
    ·rw [IT h] at hj;cases hj
   rw [iP] at hjl;rw [og OC];simp
  have h63:k+s.size<=maxLen:=by simp only [maxLen];omega
  refine ⟨w.heap.size,_,_,Lib.run_append_grow_string (P:=P) w t u ty e i (.int .u8 0) ht hu hi hz ⟨g,0,none⟩ k cap (cur.toList.take k) (by rw [hs1,iP,zE];omega) holds s OC OC (by rw [hby];exact growslice_fits OC OC),
   ⟨O,O,O,OG,fun q hq _=>heap_alloc_old w.drew _ hq⟩,.inr O,grownCap_ge w (k+s.size) cap e,grownCap_le_maxLen w (k+s.size) cap e h63,_,heap_alloc_new w.drew _,?_,?_⟩
  ·have hge:=grownCap_ge w (k+s.size) cap e;have hz1:(Value.int IntKind.u8 0).cells.size=1:=rfl;simp only [Array.size_append,JX,size_zeroCells,hz1,Lib.strCells_length,iP,zE];omega
  ·simp only [Array.toList_append];rw [show k+s.size=(cur.toList.take k++Lib.strCells s).length from hl.symm];exact List.take_left
theorem jj {w:World} {R:Nat->Prop} (s:ByteArray):RelPL w R (az s.data.toList) (Lib.strCells s):=by
 unfold az Lib.strCells;induction s.data.toList with
 | nil=>simp [RelPL]
 | cons a l ih=>exact RelPL.cons (by simp only [RelP]) ih
theorem r6 {e:TypeId} {k id:Nat} {cs:List PV} {s:ByteArray} (id':Nat) (he:ElemIs C.P t e (.int .u8 0) 1 1) (hu:C.P.underlying t'=some .string) (hs:σ.ev n x= .gsl id 1 k) (ho:σ.ob id=some (.gro e cs)) (hcs:cs.length=k)
  (hy:σ.ev n y= .pv (.str s)) (hb:k+s.size<=1000000000) (hk0:0<k) (hid:σ.av id'=true):
  XJ C n ⟨dst,.call { callee:= .builtin .append,args:= #[x,y],argTypes:= #[t,t'] },ty,pos,after,gd⟩ σ ⟨.gsl id' 1 (k+s.size),[(id',some (.gro e (cs++az s.data.toList))),(id,none)],[id']⟩:=by
 rintro a w Q ⟨m,R,hw⟩;obtain ⟨A0,c,hev,hkc,hcm,hz,hp⟩:=hw.gsl hs;have hcne:cs≠[]:=fun e=>by rw [e] at hcs;simp at hcs;omega
 have hne:cs++az s.data.toList≠[]:=fun e=>hcne (List.append_eq_nil_iff.1 e).1
 have sub:∀ i x,upd m id none i=some x->m i=some x/\i≠id:=fun i x e=>by
  by_cases hi:i=id
  ·subst hi;rw [au] at e;cases e
  ·rw [aG _ _ hi] at e;exact ⟨e,hi⟩
 obtain ⟨b,N,hm,arr,hbk,hsz,hle,hr⟩:=hw.live ho (bQ hcne);obtain ⟨rfl,hN⟩:=hp hk0 b N hm;obtain ⟨i,hi,hzz,hsize,hbytes⟩:=info_parts he.info;have own:=hw.hr.own id b N hm;have hsv:a.eval y= .string s:=hw.str hy;obtain ⟨g,c',w',hrun,hgr,hat,hkc',hcm',cur',hg,hcs',htk⟩:=FL (P:=C.P) w t t' ty e i he.u hu hi hzz hsize hbytes b c k arr hbk hkc hcm OC s hb;have hrel:RelPL w R (cs++az s.data.toList) (arr.toList.take k++Lib.strCells s):=by
  rw [hcs] at hr;exact hr.append (jj s)
 have gprop:¬ R g/\(∀ i b' N',upd m id none i=some (b',N')->b'≠g)/\(C.F g\/C.w0.heap.size<=g):=by
  rcases hat with h | h
  ·rw [h];exact ⟨own.2.1,fun i b' N' hi e=>(sub i _ hi).2 (xx hw (sub i _ hi).1 hm e),own.2.2⟩
  ·refine ⟨fun hh=>?_,fun i b' N' hi e=>?_,.inr ?_⟩
   ·have:=hw.hr.rsz _ hh;omega
   ·have:=(hw.hr.own i b' N' (sub i _ hi).1).1;omega
   ·have:=hw.hr.frame.size;omega
 have bprop:¬ R b/\(∀ i b' N',upd m id none i=some (b',N')->b'≠b)/\(C.F b\/C.w0.heap.size<=b):=
  ⟨own.2.1,fun i b' N' hi e=>(sub i _ hi).2 (xx hw (sub i _ hi).1 hm e),own.2.2⟩
 unfold Oper.wp;have hexec:(execOp a.eval ⟨dst,.call { callee:= .builtin .append,args:= #[x,y],argTypes:= #[t,t'] },ty,pos,after,gd⟩).run C.P w= .ok (.value (.slice (some ⟨g,0,none⟩) (k+s.size) c')) w':=by
  unfold execOp;simp only [resolve,invoke,builtin,Sem.run_bind,Sem.run_pure,Result.andThen_ok,Lq,jt,Jl,hev,hsv,hrun]
 rw [hexec];have hul:(arr.toList.take k++Lib.strCells s).length=k+s.size:=by
  rw [a6,Lib.strCells_length,iP,zE];omega
 have hcl:(cs++az s.data.toList).length=k+s.size:=by rw [<-hrel.length,hul]
 refine ⟨_,O,upd (upd m id none) id' (some (g,cur'.size)),R,?_⟩;rw [Iw];refine SW.put ((hw.drop id).fresh hid hg hgr (fun q hq=>by simp at hq;subst hq;exact bprop) gprop.1 gprop.2.1 gprop.2.2 (.gro e (cs++az s.data.toList)) ?_ (bQ hne)) dst ?_
 ·intro m' av' hR _ _;refine ⟨cur',hg,O,by rw [hcl,hcs'];exact hkc',?_⟩;rw [hcl,htk];exact hrel.mono hR
 ·simp only [Rel];refine ⟨by simp [avL],_,c',O,hkc',hcm',fun h=>by omega,fun _ b' N' e'=>?_⟩;rw [au] at e';cases e';exact ⟨O,by rw [hcs',ID]⟩
theorem D8 {id sz k:Nat} {o:Ob} (hx:σ.ev n x= .gsl id sz k) (ho:σ.ob id=some o) (hk:0<k) (hre:o.real=true):
  XJ C n ⟨dst,.call { callee:= .builtin .unsafeSliceData,args:= #[x],argTypes:=ts },ty,pos,after,gd⟩ σ ⟨.ptr id 0,[],[]⟩:=
 .val fun a w m R hw=>by
  obtain ⟨A,c,he,hkc,_,_,hp⟩:=hw.gsl hx;obtain ⟨b,N,hm,_⟩:=hw.live ho hre;obtain ⟨rfl,_⟩:=hp hk b N hm;have hav:=hw.ev x;rw [hx] at hav;simp only [Rel] at hav;refine ⟨.pointer (some ⟨b,0,none⟩),?_,?_⟩
  ·simp only [execOp,resolve,invoke,builtin,Sem.run_bind,Sem.run_pure,Result.andThen_ok,Lq,jt,Jl,he,Lib.run_unsafeSliceData_row w ts ty ⟨b,0,none⟩ k c OC]
  ·simp only [Rel];refine ⟨hav.1,fun b' N' e=>?_⟩;rw [hm] at e;cases e;rfl
theorem rO {h:Array Obj} {b:Nat} {x:Obj} (f:Obj->Obj) (hb:h[b]? =some x) (hf:f x=x):h.modify b f=h:=by
 apply Array.ext_getElem?;intro i;rw [LI];split
 ·next e=>subst e;rw [hb];simp [hf]
 ·rfl
theorem yJ {w:World} {b k:Nat} {arr:Array Value} {e:TypeId} (hb:w.heap[b]? =some (.cells arr e (0,k))) (hk:k≠0):w.freeze ⟨b,0,none⟩ k=w:=by
 unfold World.freeze;rw [ga hk,rO _ hb (by
  have:(0==k)=false:=by simpa using fun e:0=k=>hk e.symm
  simp [this])]
theorem DS {w:World} {b k:Nat} {arr:Array Value} {e:TypeId} (hb:w.heap[b]? =some (.cells arr e (0,0))) (hk:k≠0):(w.freeze ⟨b,0,none⟩ k).heap[b]? =some (.cells arr e (0,k)):=by
 unfold World.freeze;rw [ga hk];simp only [];rw [LI,og O,hb];simp
theorem xQ {w:World} {b k q:Nat} (h:q≠b):(w.freeze ⟨b,0,none⟩ k).heap[q]? =w.heap[q]? :=by
 unfold World.freeze;split
 ·rfl
 ·simp only [];rw [LI,ga (fun e=>h e.symm)]
theorem DV (w:World) (a:Addr) (k:Nat):(w.freeze a k).heap.size=w.heap.size/\(w.freeze a k).os=w.os/\(w.freeze a k).tape=w.tape/\(w.freeze a k).output=w.output:=by
 unfold World.freeze;split
 ·exact ⟨O,O,O,O⟩
 ·exact ⟨OG,O,O,O⟩
theorem wI {w:World} {R:Nat->Prop} {l:List UInt8} {us:List Value} (h:RelPL w R (az l) us):us=l.map fun c=> .int .u8 c.toNat:=by
 induction l generalizing us with
 | nil=>simp [az,RelPL] at h;simp [h]
 | cons c l ih=>
   simp only [az,jt,RelPL,RelP] at h;obtain ⟨u,vs,rfl,rfl,h2⟩:=h;rw [jt,<-ih h2]
theorem BW {e it:TypeId} {id:Nat} {l:List UInt8} (hp:C.P.underlying t=some (.pointer e)) (hc:C.P.cellsOf e=1) (hx:σ.ev n x= .ptr id 0) (ho:σ.ob id=some (.gro e (az l))) (hy:σ.ev n y= .pv (.int .i64 l.length)) (h0:l≠[]) (hb:l.length<=1000000000):
  XJ C n ⟨dst,.call { callee:= .builtin .unsafeString,args:= #[x,y],argTypes:= #[t,it] },ty,pos,after,gd⟩ σ ⟨.pv (.str ⟨l.toArray⟩),[(id,some (.fro e ⟨l.toArray⟩))],[]⟩:=by
 rintro a w Q ⟨m,R,hw⟩;have hbn:az l≠[]:=by simpa [az] using h0
 obtain ⟨b,N,he,hm,arr,hbk,hsz,hle,hr⟩:=hw.ptr hx ho (bQ hbn);have hbl:(az l).length=l.length:=by simp [az]
 rw [hbl] at hle hr;have htk:=wI hr;have hyv:a.eval y= .int .i64 l.length:=hw.int hy;have hl0:l.length≠0:=by simpa using h0
 have hcell:∀ j z,l[j]? =some z->w.cell? ((⟨b,0,none⟩:Addr).add j)=some (.int .u8 z.toNat):=fun j z hj=>by
  rw [Addr.add_lit];simp only [Dq];have h2:(arr.toList.take l.length)[j]? =some (.int .u8 z.toNat):=by rw [htk,Ko,hj];rfl
  have hjl:j<l.length:=(C4.1 hj).1;rw [cell_of_row w b j arr e (0,0) hbk,<-h2,vR,og hjl];simp
 have hus:=Lib.run_unsafeString_row (P:=C.P) w t it ty e hp hc b arr.size (by simp [World.shape?,hbk]) l h0 OC OC hcell;unfold Oper.wp;have hexec:(execOp a.eval ⟨dst,.call { callee:= .builtin .unsafeString,args:= #[x,y],argTypes:= #[t,it] },ty,pos,after,gd⟩).run C.P w= .ok (.value (.string ⟨l.toArray⟩)) (w.freeze ⟨b,0,none⟩ l.length):=by
  unfold execOp;simp only [resolve,invoke,builtin,Sem.run_bind,Sem.run_pure,Result.andThen_ok,Lq,jt,Jl,he,hyv,hus]
 rw [hexec];obtain ⟨q1,q2,q3,q4⟩:=DV w ⟨b,0,none⟩ l.length;refine ⟨_,O,m,R,?_⟩;rw [Iw];refine SW.put (hw.turn hm (w.freeze ⟨b,0,none⟩ l.length) q1 (fun k hk=>xQ hk) q2 q3 q4 (.fro e ⟨l.toArray⟩) fun hR=>?_) dst ?_
 ·refine ⟨arr,?_,hsz,?_,?_⟩
  ·rw [DS hbk hl0];rfl
  ·show l.toArray.size<=N;simp;omega
  ·show arr.toList.take l.toArray.size=_;simp [htk]
 ·simp only [Rel,RelP]
theorem CY {e it:TypeId} {id:Nat} {s:ByteArray} {k:Int} (hp:C.P.underlying t=some (.pointer e)) (hc:C.P.cellsOf e=1) (hx:σ.ev n x= .ptr id 0) (ho:σ.ob id=some (.fro e s)) (hy:σ.ev n y= .pv (.int .i64 k)) (hk:k=s.data.toList.length) (h0:s.data.toList≠[]) (hb:s.data.toList.length<=1000000000):
  XJ C n ⟨dst,.call { callee:= .builtin .unsafeString,args:= #[x,y],argTypes:= #[t,it] },ty,pos,after,gd⟩ σ ⟨.pv (.str s),[],[]⟩:=
 .val fun a w m R hw=>by
  subst hk;obtain ⟨b,N,he,hm,arr,hbk,hsz,hle,htk⟩:=hw.ptr hx ho;have hss:s.size=s.data.toList.length:=by rw [zE];rfl
  have hyv:a.eval y= .int .i64 s.data.toList.length:=hw.int hy;have hl0:s.data.toList.length≠0:=fun e=>h0 (sg.1 e)
  have hcell:∀ j z,s.data.toList[j]? =some z->w.cell? ((⟨b,0,none⟩:Addr).add j)=some (.int .u8 z.toNat):=fun j z hj=>by
   rw [Addr.add_lit];simp only [Dq];have h2:(arr.toList.take s.size)[j]? =some (.int .u8 z.toNat):=by rw [htk,Ko,hj];rfl
   have hjl:j<s.data.toList.length:=(C4.1 hj).1;rw [cell_of_row w b j arr e (0,s.size) hbk,<-h2,vR,og OC];simp
  have hus:=Lib.run_unsafeString_row (P:=C.P) w t it ty e hp hc b arr.size (by simp [World.shape?,hbk]) s.data.toList h0 OC OC hcell;rw [yJ (by rw [<-hss];exact hbk) hl0] at hus;refine ⟨.string s,?_,by simp only [Rel,RelP]⟩;unfold execOp;simp only [resolve,invoke,builtin,Sem.run_bind,Sem.run_pure,Result.andThen_ok,Lq,jt,Jl,he,hyv,hus]
end
end
section
theorem tD:∃ j,Tryz.prog.info? 165=some j/\j.size≠0:=by
 obtain ⟨j,hj,hs⟩:=Ly.1 (show (Tryz.prog.info? 165).map (·.size)=some 2 by kernel_rfl);exact ⟨j,hj,by rw [hs];decide⟩
theorem u7 (k:Nat) (cs:List PV):FnO Tryz.prog 165 2 0 [.ptr big 0] [(big,.mix 165 [.pv .nilptr,.gsl 9001 1 k]),(9001,.gro 5 cs)] (fun v ob'=>v= .tup []/\ob'=ar [(big,.mix 165 [.ptr big 0,.gsl 9001 1 k]),(9001,.gro 5 cs)]):=by
 refine FnO.of func165 O ntmps165 OG fun m0 w0 F R0=>?_
 obtain ⟨j,hj,hj0⟩:=tD;refine Z4 O O O O O<|Rs 6 O O (wR underlying162 O) ?_;refine Gc O O (fun hc6=>?_) (fun hc6=>absurd hc6 OG);exact Z2 O O O<|Rs 9 O O (CI underlying162 underlying252 hj hj0 O O OG)<|Rs 10 O O (Cg func202 OD OD OD OD O)<|Rs 11 O O (Cx (dp:=_) underlying252 underlying162 hj O OD O O OG)<|Y3 O O O<|⟨[],[(big,.mix 165 [.ptr big 0,.gsl 9001 1 k]),(9001,.gro 5 cs)],[],Io trivial (aO O) O O,O,O,O,O,O⟩
theorem B7 (k:Nat) (cs:List PV):FnO Tryz.prog 165 2 0 [.ptr big 0] [(big,.mix 165 [.ptr big 0,.gsl 9001 1 k]),(9001,.gro 5 cs)] (fun v ob'=>v= .tup []/\ob'=ar [(big,.mix 165 [.ptr big 0,.gsl 9001 1 k]),(9001,.gro 5 cs)]):=by
 refine FnO.of func165 O ntmps165 OG fun m0 w0 F R0=>?_
 obtain ⟨j,hj,hj0⟩:=tD;refine Z4 O O O O O<|Rs 6 O O (vC underlying162 O O) ?_;refine Gc O O (fun hc6=>absurd hc6 OG) (fun hc6=>?_);refine Gr O ?_;iterate 5 refine A1 O ?_
 refine Rs 19 O O (wF underlying162 hj O O O) ?_;refine Gc O O (fun hc19=>absurd hc19 OG) (fun hc19=>?_);exact Il<|⟨[],[(big,.mix 165 [.ptr big 0,.gsl 9001 1 k]),(9001,.gro 5 cs)],[],Io trivial (aO O) O O,O,O,O,O,O⟩
theorem mS (c:UInt8):FnO Tryz.prog 192 2 2 [.ptr big 0,.pv (.int .u8 (c.toNat:Int))] [(big,.mix 165 [.pv .nilptr,.gsl 9001 1 0]),(9001,.gro 5 [])] (fun v ob'=>v= .pv .niliface/\ob'=ar [(big,.mix 165 [.ptr big 0,.gsl 1 1 1]),(1,.gro 5 (az [c]))]):=by
 refine FnO.of func192 O ntmps192 OG fun m0 w0 F R0=>?_
 have hcc:=u7 0 [];refine Z1 O O<|Z1 O O<|Rs 6 O O (ah [big,9001] 0 call165 hcc O O O O ⟨O,O,OK⟩ OE O)<|Gr O ?_;iterate 11 refine A1 O ?_
 exact Z1 O O<|Gt O<|⟨[(4,.pv .niliface)],[(big,.mix 165 [.ptr big 0,.gsl 1 1 1]),(1,.gro 5 (az [c]))],[.pv .niliface],Io (aS O) (aO OD) O O,O,O,O,O,O⟩
theorem qm (l:List UInt8) (s:ByteArray) (h0:l≠[]) (hb:l.length+s.size<=1000000000):FnO Tryz.prog 105 2 1 [.ptr big 0,.pv (.str s)] [(big,.mix 165 [.ptr big 0,.gsl 9001 1 l.length]),(9001,.gro 5 (az l))] (fun v ob'=>v= .tup [.pv (.int .i64 s.size),.pv .niliface]/\ob'=ar [(big,.mix 165 [.ptr big 0,.gsl 0 1 (l++s.data.toList).length]),(0,.gro 5 (az (l++s.data.toList)))]):=by
 refine FnO.of func105 O ntmps105 OG fun m0 w0 F R0=>?_
 have hcc:=B7 l.length (az l);have hlb:(az l).length=l.length:=by simp [az]
 have hlp:=CG.2 h0;have hll:(l++s.data.toList).length=l.length+s.size:=by rw [a6,zE];rfl
 have hbb:az (l++s.data.toList)=az l++az s.data.toList:=by simp [az]
 refine Z2 O O O<|Z1 O O<|Rs 7 O O (ah [big,9001] 0 call165 hcc O O O O ⟨O,O,OK⟩ OE O)<|Gr O ?_;iterate 6 refine A1 O ?_
 exact Rs 14 O O (r6 0 F4 underlying9 O O hlb O hb hlp O)<|Y3 O O O<|Z4 O O O O O<|Gt O<|⟨[(4,.pv (.int .i64 s.size)),(5,.pv .niliface)],[(big,.mix 165 [.ptr big 0,.gsl 0 1 (l.length+s.size)]),(0,.gro 5 (az l++az s.data.toList))],[.pv (.int .i64 s.size),.pv .niliface],Io (aS O) (aO OD) O O,O,O,O,O,by rw [hll,hbb]⟩
theorem j8 (l:List UInt8) (h0:l≠[]) (hb:l.length<=1000000000):FnO Tryz.prog 108 2 0 [.ptr big 0] [(big,.mix 165 [.ptr big 0,.gsl 9001 1 l.length]),(9001,.gro 5 (az l))] (fun v ob'=>v= .pv (.str ⟨l.toArray⟩)/\ob'=ar [(big,.mix 165 [.ptr big 0,.gsl 9001 1 l.length]),(9001,.fro 5 ⟨l.toArray⟩)]):=by
 refine FnO.of func108 O ntmps108 OG fun m0 w0 F R0=>?_
 have hlp:=CG.2 h0;have hre:(Ob.gro 5 (az l)).real=true:=bQ (by simpa [az] using h0);refine Z1 O O<|Ge O follows [0,1,2,3,4,5,6,7,8,9,10,11] OD ?_;iterate 4 refine D1 O O ?_
 refine Ds 7 [_] O O O (fun τ h=>D8 (Ee h 0 O O) (Eo h 0 O O) hlp hre) O OD ?_;iterate 5 refine D1 O O ?_
 refine Ds 13 [_] O O O (fun τ h=>BW underlying224 OD (Ee h 0 O O) (Eo h 0 O O) (Ee h 1 O O) h0 hb) O OD<|D1 O O ?_;refine ⟨OD,?_⟩;exact Gt O<|⟨[(2,.pv (.str ⟨l.toArray⟩))],[(big,.mix 165 [.ptr big 0,.gsl 9001 1 l.length]),(9001,.fro 5 ⟨l.toArray⟩)],[.pv (.str ⟨l.toArray⟩)],Io (aS O) (aO OD) O O,O,O,O,O,O⟩
theorem mW (k:Nat) (s:ByteArray) (h0:s.data.toList≠[]) (hk:k=s.data.toList.length) (hb:k<=1000000000):FnO Tryz.prog 108 2 0 [.ptr big 0] [(big,.mix 165 [.ptr big 0,.gsl 9001 1 k]),(9001,.fro 5 s)] (fun v ob'=>v= .pv (.str s)/\ob'=ar [(big,.mix 165 [.ptr big 0,.gsl 9001 1 k]),(9001,.fro 5 s)]):=by
 refine FnO.of func108 O ntmps108 OG fun m0 w0 F R0=>?_
 have hlp:0<k:=by rw [hk];exact CG.2 h0
 refine Z1 O O<|Ge O follows [0,1,2,3,4,5,6,7,8,9,10,11] OD ?_;iterate 4 refine D1 O O ?_
 refine Ds 7 [_] O O O (fun τ h=>D8 (Ee h 0 O O) (Eo h 0 O O) hlp O) O OD ?_;iterate 5 refine D1 O O ?_
 refine Ds 13 [_] O O O (fun τ h=>CY underlying224 OD (Ee h 0 O O) (Eo h 0 O O) (Ee h 1 O O) (af (fun n:Nat=>(n:Int)) hk) h0 OC) O OD<|D1 O O ?_;refine ⟨OD,?_⟩;exact Gt O<|⟨[(2,.pv (.str s))],[(big,.mix 165 [.ptr big 0,.gsl 9001 1 k]),(9001,.fro 5 s)],[.pv (.str s)],Io (aS O) (aO OD) O O,O,O,O,O,O⟩
end
section
open Mk Jn
set_option autoImplicit false
section
variable {R:Type} (Z:SR R)
theorem qK {β:Type} {l:List β} {k:Nat} (h:k<l.length) (f:β->R):kH Z ((l.take (k+1)).map f)=Z.add (kH Z ((l.take k).map f)) (f l[k]):=by
 rw [aR h,Ho,kK]
 congr 1
 show Z.add _ (kH Z [])=_;rw [kH,Z.add_zero]
theorem sv {cd:Int->Asg ByteArray->List ByteArray} {g:Int->Asg ByteArray->R} (l m:List Tr) (σ:Asg ByteArray):valL Z cd g (l++m) σ=Z.mul (valL Z cd g l σ) (valL Z cd g m σ):=by
 induction l with
 | nil=>rw [Ew,valL,Z.one_mul]
 | cons t l ih=>rw [F8,valL,ih,valL,Z.mul_assoc]
def fv (J:JD) (P:List Int) (v:Int) (σ:Asg ByteArray):R:=Jn.val Z (bC (RJ J) sdS) (fun _ _=>Z.one) (a7 P P.length v) σ
def fl (J:JD) (P:List Int) (cs:List Int) (σ:Asg ByteArray):R:=valL Z (bC (RJ J) sdS) (fun _ _=>Z.one) (cs.map (a7 P P.length)) σ
theorem uO (J:JD) (P:List Int) (σ:Asg ByteArray):fl Z J P [] σ=Z.one:=by unfold fl;rw [Jl,valL]
theorem rb (J:JD) (P cs ds:List Int) (σ:Asg ByteArray):fl Z J P (cs++ds) σ=Z.mul (fl Z J P cs σ) (fl Z J P ds σ):=by
 unfold fl;rw [Ho,sv]
theorem HM (J:JD) (P:List Int) (c:Int) (σ:Asg ByteArray):fl Z J P [c] σ=fv Z J P c σ:=by
 unfold fl fv;rw [jt,Jl,valL,valL,Z.mul_comm,Z.one_mul]
theorem oG (J:JD) (P:List Int) {cs:List Int} (σ:Asg ByteArray) {k:Nat} (h:k<cs.length):fl Z J P (cs.take (k+1)) σ=Z.mul (fl Z J P (cs.take k) σ) (fv Z J P cs[k] σ):=by
 rw [aR h,rb,HM]
theorem yv (J:JD) (P:List Int) (cs:List Int) (σ:Asg ByteArray) (k:Nat) (h:fl Z J P (cs.take k) σ=Z.zero):fl Z J P cs σ=Z.zero:=by
 have e:fl Z J P cs σ=Z.mul (fl Z J P (cs.take k) σ) (fl Z J P (cs.drop k) σ):=by rw [<-rb,zj]
 rw [e,h,Z.zero_mul]
theorem Gz (J:JD) {P:List Int} (hP:UpOk P) {v:Nat} (hv:v<P.length) (σ:Asg ByteArray):fv Z J P v σ=kH Z ((bC (RJ J) sdS v σ).map fun x=>fl Z J P (bq P v) (put σ v x)):=by
 unfold fv fl;rw [Ga hP hv,Jn.val];exact cx Z fun x _=>Z.one_mul _
structure At (P:List Int) (v:Nat) (σ:Asg ByteArray):Prop where
 up:∀ a∈bp P v,(σ a).isSome=true
 no:∀ a∈fk P v,σ a=none
theorem At.self {P:List Int} {v:Nat} {σ:Asg ByteArray} (h:At P v σ) (hv:v<P.length):σ (v:Int)=none:=h.no _ (da.2 ⟨⟨v,hv,O⟩,.inl O⟩)
theorem Ht {P:List Int} (hP:UpOk P):∀ w,w<P.length->∀ v a:Int,v∈(w:Int)::bp P w->a∈(w:Int)::bp P w->a=v\/a∈bp P v\/v∈bp P a:=by
 refine pt hP (fun w hw h e v a hv ha=>?_) (fun w hw p hp h e ih v a hv ha=>?_)
 ·rw [e,fe] at hv ha;exact .inl (by rw [hv,ha])
 ·rcases k6.1 hv with rfl | hv
  ·rcases k6.1 ha with rfl | ha
   ·exact .inl O
   ·exact .inr (.inl ha)
  ·rcases k6.1 ha with rfl | ha
   ·exact .inr (.inr hv)
   ·rw [e] at hv ha;exact ih v a hv ha
theorem At.child {P:List Int} (hP:UpOk P) {v c:Nat} {σ:Asg ByteArray} (h:At P v σ) (hv:v<P.length) (hc:c<P.length) (hp:P.getD c 0=(v:Int)) (x:ByteArray):At P c (put σ v x):=by
 have e:=bO hP hc hv hp;refine ⟨fun a ha=>?_,fun a ha=>?_⟩
 ·rw [e] at ha;rcases k6.1 ha with rfl | ha
  ·rw [cG];rfl
  ·have:a≠(v:Int):=fun e=>jl hP hv (e▸ha)
   rw [dZ _ _ this];exact h.up a ha
 ·obtain ⟨⟨b,hb,rfl⟩,h2⟩:=da.1 ha;have hvb:(v:Int)∈bp P b:=by
   rcases h2 with h2 | h2
   ·have:b=c:=OC;subst this;rw [e];simp
   ·exact fH hP hb (by rw [e];simp) h2
  have:(b:Int)≠(v:Int):=fun e=>by
   have:b=v:=OC;subst this;exact jl hP hb hvb
  rw [dZ _ _ this];exact h.no _ (da.2 ⟨⟨b,hb,O⟩,.inr hvb⟩)
theorem ud {J:JD} {w a:Int} (ha:a∈dom (RJ J) w):∃ r∈J.S.rels,w∈r.2/\a∈r.2:=by
 unfold dom at ha;obtain ⟨r,hr,ha⟩:=AT.1 ha;obtain ⟨h1,h2⟩:=wU.1 hr;have hlt:r<J.S.rels.length:=by have:=Hq.1 h1;simpa [RJ] using this
 have e:(RJ J).at r=J.S.rels[r].2:=by rw [qX];simp [cy,List.getD,hlt]
 rw [e] at ha h2;exact ⟨_,aJ hlt,by simpa using h2,ha⟩
theorem HK {J:JD} {P:List Int} (h:OrdOk J.S P) {v:Nat} (hv:v<P.length) {σ τ:Asg ByteArray} (hσ:At P v σ) (hτ:At P v τ) (hk:∀ a∈dq J.S P v,σ a=τ a):fv Z J P v σ=fv Z J P v τ:=by
 have hP:=h.dP;unfold fv;refine val_congr Z (cd:=bC (RJ J) sdS) (g:=fun _ _=>Z.one) (D:=dom (RJ J)) (E:=fun _=>[]) ⟨fun w a b hab=>kI (RJ J) sdS w a b hab,fun _ _ _ _=>rfl⟩ _ _ _ fun w hw=>⟨fun a ha=>?_,fun a ha=>absurd ha OG⟩
 obtain ⟨m,hm,rfl,hvm⟩:=gR hP _ v hv w hw;have hbm:(m:Int)∈fk P v:=da.2 ⟨⟨m,hm,O⟩,by rcases k6.1 hvm with e | e;exact .inl e.symm;exact .inr e⟩;obtain ⟨r,hr,h1,h2⟩:=ud ha;have key:a∈fk P v\/a∈dq J.S P v:=by
  obtain ⟨b,hb⟩:=rK (h.val.rng r hr a h2).1;have hbl:b<P.length:=by have:=(h.val.rng r hr a h2).2;rw [h.len];omega
  subst hb;have bel:(v:Int)∈(b:Int)::bp P b->(b:Int)∈fk P v:=fun hh=>da.2 ⟨⟨b,hbl,O⟩,by rcases k6.1 hh with e | e;exact .inl e.symm;exact .inr e⟩
  rcases iU (h.rt r hr) h1 h2 with e | e | e
  ·have:m=b:=OC;subst this;exact .inl hbm
  ·refine .inl (bel ?_);rcases k6.1 hvm with e2 | e2
   ·have:v=m:=OC;subst this;exact vf _ e
   ·exact vf _ (fH hP hbl e2 e)
  ·rcases Ht hP m hm v b hvm (vf _ e) with e2 | e2 | e2
   ·exact .inl (bel (by rw [e2];simp))
   ·exact .inr (r9.2 ⟨e2,m,hbm,AN hr h2 h1⟩)
   ·exact .inl (bel (vf _ e2))
 rcases key with hk2 | hk2
 ·rw [hσ.no a hk2,hτ.no a hk2]
 ·exact hk a hk2
end
def Zf (x:ByteArray):Prop:=(0:UInt8)∉x.data.toList
def lG (now:Int->ByteArray) (l:List Int):List UInt8:=l.flatMap fun a=>(now a).data.toList++[0]
def Bn (v:Nat) (l:List Int) (σ:Asg ByteArray):List UInt8:=UInt8.ofNat v::lG (fun a=>(σ a).getD eb) l
theorem lQ:∀ {a b c d:List UInt8},(0:UInt8)∉a->(0:UInt8)∉b->a++0::c=b++0::d->a=b/\c=d
 | [],[],c,d,_,_,h=>⟨O,by simpa using h⟩
 | [],y::b,c,d,_,hb,h=>by
   simp only [Ew,F8,Lo] at h;exact absurd (by rw [<-h.1];simp) hb
 | x::a,[],c,d,ha,_,h=>by
   simp only [Ew,F8,Lo] at h;exact absurd (by rw [h.1];simp) ha
 | x::a,y::b,c,d,ha,hb,h=>by
   simp only [F8,Lo] at h;have:=lQ (fun e=>ha (vf _ e)) (fun e=>hb (vf _ e)) h.2;exact ⟨by rw [h.1,this.1],this.2⟩
theorem tR {f g:Int->ByteArray}:∀ {l:List Int},(∀ a∈l,Zf (f a))->(∀ a∈l,Zf (g a))->lG f l=lG g l->∀ a∈l,f a=g a
 | [],_,_,_,a,ha=>by simp at ha
 | x::l,hf,hg,h,a,ha=>by
   unfold lG at h;rw [IG,IG,xJ,xJ,List.singleton_append,List.singleton_append] at h;have hs:=lQ (hf x OG) (hg x OG) h;rcases k6.1 ha with rfl | ha
   ·exact ByteArray.ext (Array.ext' hs.1)
   ·exact tR (fun b hb=>hf b (by simp [hb])) (fun b hb=>hg b (by simp [hb])) hs.2 a ha
theorem rQ (f:Int->ByteArray) (l m:List Int):lG f (l++m)=lG f l++lG f m:=Jw
theorem pg (f:Int->ByteArray) {l:List Int} {k:Nat} (h:k<l.length):lG f (l.take (k+1))=lG f (l.take k)++((f l[k]).data.toList++[0]):=by
 rw [aR h,rQ]
 congr 1
 unfold lG;simp
def ZfA (σ:Asg ByteArray):Prop:=∀ a x,σ a=some x->Zf x
theorem ZfA.put {σ:Asg ByteArray} (h:ZfA σ) (a:Int) {x:ByteArray} (hx:Zf x):ZfA (put σ a x):=fun b y e=>by
 unfold Jn.put at e;split at e
 ·cases e;exact hx
 ·exact h b y e
theorem ZfA.getD {σ:Asg ByteArray} (h:ZfA σ) (a:Int):Zf ((σ a).getD eb):=by
 cases e:σ a with
 | none=>show (0:UInt8)∉_;simp [eb]
 | some x=>exact h a x e
section
variable {R:Type} (Z:SR R)
def iz (J:JD) (P:List Int) (M:List (ByteArray×R)):Prop:=∀ p∈M,∀ (v:Nat) (σ:Asg ByteArray),v<P.length->At P v σ->ZfA σ->p.1.data.toList=Bn v (dq J.S P v) σ->p.2=fv Z J P v σ
theorem B9 {J:JD} {P:List Int} (h:OrdOk J.S P) (hl:P.length<=256) {v v':Nat} (hv:v<P.length) (hv':v'<P.length) {σ τ:Asg ByteArray} (hσ:At P v σ) (hτ:At P v' τ) (hz:ZfA σ) (hz':ZfA τ) (e:Bn v (dq J.S P v) σ=Bn v' (dq J.S P v') τ):fv Z J P v σ=fv Z J P v' τ:=by
 unfold Bn at e;rw [Lo] at e;have hvv:v=v':=by
  have:=af UInt8.toNat e.1;rw [UInt8.toNat_ofNat',UInt8.toNat_ofNat'] at this;omega
 subst hvv;refine HK Z h hv hσ hτ fun a ha=>?_
 have hk:=tR (fun a _=>hz.getD a) (fun a _=>hz'.getD a) e.2 a ha;have hu:=(r9.1 ha).1;have h1:=hσ.up a hu;have h2:=hτ.up a hu;obtain ⟨x,hx⟩:=tH.1 h1;obtain ⟨y,hy⟩:=tH.1 h2;rw [hx,hy] at hk ⊢;exact af some hk
def lz (v:Nat) (l:List Int) (σ:Asg ByteArray):ByteArray:=⟨(Bn v l σ).toArray⟩
theorem iz.add {J:JD} {P:List Int} (h:OrdOk J.S P) (hl:P.length<=256) {M:List (ByteArray×R)} (hM:iz Z J P M) {v:Nat} (hv:v<P.length) {σ:Asg ByteArray} (hσ:At P v σ) (hz:ZfA σ):∀ v' (τ:Asg ByteArray),v'<P.length->At P v' τ->ZfA τ->(lz v (dq J.S P v) σ).data.toList=Bn v' (dq J.S P v') τ->fv Z J P v σ=fv Z J P v' τ:=fun v' τ hv' hτ hz' e=>B9 Z h hl hv hv' hσ hτ hz hz' (by simpa [lz] using e)
theorem gJ (c:ByteArray) (rep:R->PV):∀ (M:List (ByteArray×R)) (i:Nat),(∃ r,eG (.str c) (M.map fun p=> .str p.1) i=some r)/\(eG (.str c) (M.map fun p=> .str p.1) i=some none->∀ p∈M,p.1≠c)/\(∀ j,eG (.str c) (M.map fun p=> .str p.1) i=some (some j)->i<=j/\∃ w,M[j-i]? =some (c,w))
 | [],i=>⟨⟨none,O⟩,fun _=>by simp,fun j h=>by simp [eG] at h⟩
 | p::M,i=>by
   obtain ⟨h1,h2,h3⟩:=gJ c rep M (i+1);have hq:keq (.str c) (.str p.1)=some (c==p.1):=rfl;simp only [jt,eG,hq];by_cases e:c=p.1
   ·rw [show (c==p.1)=true by rw [<-e];exact l6 c];refine ⟨⟨_,O⟩,fun h=>by simp at h,fun j h=>?_⟩;simp at h;subst h;exact ⟨qT _,p.2,by simp [e]⟩
   ·rw [show (c==p.1)=false from by cases h:c==p.1 with | true=>exact absurd (ue h) e | false=>rfl];refine ⟨h1,fun h q hq=>?_,fun j h=>?_⟩
    ·rcases k6.1 hq with rfl | hq
     ·exact fun e'=>e e'.symm
     ·exact h2 h q hq
    ·obtain ⟨h4,w,h5⟩:=h3 j h;exact ⟨OC,w,by rw [show j-i=(j-(i+1))+1 by omega];simpa using h5⟩
theorem tT (rep:R->PV) {J:JD} {P:List Int} {M:List (ByteArray×R)} (hM:iz Z J P M) {v:Nat} (hv:v<P.length) {σ:Asg ByteArray} (hσ:At P v σ) (hz:ZfA σ):
  qH (.str (lz v (dq J.S P v) σ)) (M.map fun p=> .str p.1) (M.map fun p=>rep p.2)=some (if ∃ p∈M,p.1=lz v (dq J.S P v) σ then some (rep (fv Z J P v σ)) else none):=by
 obtain ⟨⟨r,h1⟩,h2,h3⟩:=gJ (lz v (dq J.S P v) σ) rep M 0;unfold qH;rw [h1];cases r with
 | none=>
   have:=h2 h1;rw [ga (fun ⟨p,hp,e⟩=>this p hp e)]
 | some j=>
   obtain ⟨_,w,h4⟩:=h3 j h1;simp only [Ox] at h4;have hm:=Ke h4;rw [og ⟨_,hm,O⟩];have hw:w=fv Z J P v σ:=hM _ hm v σ hv hσ hz (by simp [lz]);simp [h4,hw]
theorem y8 (rep:R->PV) {J:JD} {P:List Int} (h:OrdOk J.S P) (hl:P.length<=256) {M:List (ByteArray×R)} (hM:iz Z J P M) {v:Nat} (hv:v<P.length) {σ:Asg ByteArray} (hσ:At P v σ) (hz:ZfA σ):
  ∃ M',iz Z J P M'/\s6 (.str (lz v (dq J.S P v) σ)) (M.map fun p=> .str p.1)=M'.map (fun p=> .str p.1)/\tg (.str (lz v (dq J.S P v) σ)) (rep (fv Z J P v σ)) (M.map fun p=> .str p.1) (M.map fun p=>rep p.2)=M'.map fun p=>rep p.2:=by
 obtain ⟨⟨r,h1⟩,_,_⟩:=gJ (lz v (dq J.S P v) σ) rep M 0;unfold s6 tg;rw [h1];have hadd:=iz.add Z h hl hM hv hσ hz;cases r with
 | none=>
   refine ⟨M++[(lz v (dq J.S P v) σ,fv Z J P v σ)],fun p hp=>?_,OG,OG⟩;rcases my.1 hp with h | h
   ·exact hM p h
   ·rw [fe.1 h];exact hadd
 | some j=>
   refine ⟨M.set j (lz v (dq J.S P v) σ,fv Z J P v σ),fun p hp=>?_,by simp [Kx],by simp [Kx]⟩;rcases JS hp with h | h
   ·exact hM p h
   ·rw [h];exact hadd
end
theorem x3 {β:Type} {l:List β} {f:β->Nat} {B:Nat} (h:∀ b∈l,f b<=B):kH bG (l.map f)<=l.length*B:=by
 induction l with
 | nil=>simp [kH,bG]
 | cons b l ih=>
   rw [jt,kH,qU,Oq];have h1:=ih fun x hx=>h x (by simp [hx])
   have h2:=h b OG;show f b+kH bG (l.map f)<=_;omega
mutual
theorem val_le {cd:Int->Asg ByteArray->List ByteArray} {K:Nat} (hK:∀ v σ,(cd v σ).length<=K):∀ (t:Tr) (σ:Asg ByteArray),Jn.val bG cd (fun _ _=>bG.one) t σ<=K^t.vs.length
 | .node v ts,σ=>by
   rw [Jn.val,Tr.vs,qU,Kz,KK];refine uv (x3 (B:=K^(vsL ts).length) fun x _=>?_) (JQ _ (hK v σ));rw [bG.one_mul];exact valL_le hK ts _
theorem valL_le {cd:Int->Asg ByteArray->List ByteArray} {K:Nat} (hK:∀ v σ,(cd v σ).length<=K):∀ (ts:List Tr) (σ:Asg ByteArray),valL bG cd (fun _ _=>bG.one) ts σ<=K^(vsL ts).length
 | [],_=>by rw [valL,vsL];exact qT _
 | t::ts,σ=>by
   rw [valL,vsL,a6,Nat.pow_add];exact Nat.mul_le_mul (val_le hK t σ) (valL_le hK ts σ)
end
theorem gm {J:JD} (h12:∀ l∈J.T,l.length<=12) (v:Int) (σ:Asg ByteArray):(bC (RJ J) sdS v σ).length<=12:=by
 unfold bC;cases bw (RJ J) v with
 | nil=>simp
 | cons f l=>
   refine uv (IE ..) (uv (jX _) ?_);rw [(cY _).length_eq];refine uv (List.length_filterMap_le ..) (uv (IE ..) ?_);rw [kF,rJ];unfold dh;by_cases hf:f<J.T.length
   ·simp only [List.getD,fI hf,Lg];exact h12 _ (aJ hf)
   ·simp [List.getD,IT (by omega:J.T.length<=f)]
theorem wH {P:List Int} (hP:UpOk P) (v:Int) (f:Nat) (hf:∀ a (ha:a<P.length),P[a]=v->P.length+1<=(bp P a).length+f):(fy P f v).Nodup:=by
 rw [List.nodup_iff_count];intro x;by_cases hx:x∈fy P f v
 ·obtain ⟨a,ha,rfl⟩:=jN f v x hx;rw [iO hP f v hf a ha];split<;>omega
 ·rw [List.count_eq_zero_of_not_mem hx];omega
theorem Gq {n:Nat} {l:List Int} (hn:l.Nodup) (h:∀ x∈l,∃ a:Nat,a<n/\x=(a:Int)):l.length<=n:=by
 have hp:((upZ n).filter fun a=>decide (a∈l)).Perm l:=by
  refine cu (IN Jt (cJ _)) hn fun a=>?_
  rw [wU,BX,bx];exact ⟨fun hh=>hh.2,fun hh=>⟨h a hh,hh⟩⟩
 rw [<-hp.length_eq];exact uv (IE ..) (by rw [a8];exact qT _)
theorem Ci {P:List Int} (hP:UpOk P) {v:Nat} (hv:v<P.length):(vsL ((bq P v).map (a7 P P.length))).length<=P.length:=by
 rw [show vsL ((bq P v).map (a7 P P.length))=fy P (P.length+1) v from kids_vs P P.length v];refine Gq (wH hP v _ fun a ha e=>by omega) fun x hx=>jN _ _ x hx
theorem sr {J:JD} (h12:∀ l∈J.T,l.length<=12) {P:List Int} (hP:UpOk P) {v:Nat} (hv:v<P.length) (cs:List Int) (hcs:cs <+: bq P v) (σ:Asg ByteArray):fl bG J P cs σ<=12^P.length:=by
 unfold fl;refine uv (valL_le (gm h12) _ _) (Kf OE (uv ?_ (Ci hP hv)));obtain ⟨ds,e⟩:=hcs;rw [<-e,Ho,dm,dm,Jw,a6];omega
theorem qN {P:List Int} (hP:UpOk P):(vsL ((bq P (-1)).map (a7 P P.length))).length<=P.length:=by
 rw [show vsL ((bq P (-1)).map (a7 P P.length))=aD P from kids_vs P P.length (-1),(cf hP).length_eq,a8];exact qT _
theorem Cd {J:JD} (h12:∀ l∈J.T,l.length<=12) {P:List Int} (hP:UpOk P) (cs:List Int) (hcs:cs <+: bq P (-1)) (σ:Asg ByteArray):fl bG J P cs σ<=12^P.length:=by
 unfold fl;refine uv (valL_le (gm h12) _ _) (Kf OE (uv ?_ (qN hP)));obtain ⟨ds,e⟩:=hcs;rw [<-e,Ho,dm,dm,Jw,a6];omega
theorem Hn {J:JD} (h12:∀ l∈J.T,l.length<=12) {P:List Int} (hP:UpOk P) {v:Nat} (hv:v<P.length) (σ:Asg ByteArray) (k:Nat):kH bG (((bC (RJ J) sdS v σ).take k).map fun x=>fl bG J P (bq P v) (put σ v x))<=12^(P.length+1):=by
 refine uv (x3 (B:=12^P.length) fun x _=>sr h12 hP hv _ (List.prefix_refl _) _) ?_;rw [Kz,KK];refine Ks _ ?_;have:=gm h12 v σ;rw [iP];omega
theorem Ed {J:JD} (h12:∀ l∈J.T,l.length<=12) {P:List Int} (hP:UpOk P) {v:Nat} (hv:v<P.length) (σ:Asg ByteArray):fv bG J P v σ<=12^(P.length+1):=by
 have:=Hn h12 hP hv σ (bC (RJ J) sdS v σ).length;rwa [J4,<-Gz bG J hP hv] at this
end
section
open Mk Jn
theorem Agr.jv {n:Nat} {ops:Array Oper} {σ τ:St} {s:OS} {rd:List Nat} {y:Operand} {xs:Array Operand} {ts:Array TypeId} {dst:Option Tmp} {ty:TypeId} {pos:String} {after:Array Edge} {gd:Option (Nat×Bool)}
  (h:Agr n ops ⟨dst,.call { callee:= .value y,args:=xs,argTypes:=ts },ty,pos,after,gd⟩ σ τ s rd) {ps:List PV} (hp:(V.args (fun _=>none) (xs.toList.map (σ.ev n))).map PV.fgA=some ps):
  (V.args (fun _=>none) (xs.toList.map (τ.ev n))).map PV.fgA=some ps:=by
 have e:xs.toList.map (τ.ev n)=xs.toList.map (σ.ev n):=by
  apply Cz;intro x hx;obtain ⟨i,hi⟩:=Kc hx;exact h.e (i+1) x (by simpa [Op.operands,Call.operands,LL] using hi)
 rw [e];exact hp
theorem Agr.argsY {n:Nat} {ops:Array Oper} {σ τ:St} {s:OS} {rd:List Nat} {y:Operand} {xs:Array Operand} {ts:Array TypeId} {dst:Option Tmp} {ty:TypeId} {pos:String} {after:Array Edge} {gd:Option (Nat×Bool)}
  (h:Agr n ops ⟨dst,.call { callee:= .value y,args:=xs,argTypes:=ts },ty,pos,after,gd⟩ σ τ s rd):xs.toList.map (τ.ev n)=xs.toList.map (σ.ev n):=by
 apply Cz;intro x hx;obtain ⟨i,hi⟩:=Kc hx;exact h.e (i+1) x (by simpa [Op.operands,Call.operands,LL] using hi)
abbrev six:List Nat:=[big,9001,9002,9003,9004,9005]
def RV (R:V->Ob->Ob->Prop) (s:OS):Prop:=∃ p o1 o3,R p o1 o3/\s=⟨p,[(9001,some o1),(9003,some o3)],[]⟩
section
variable {C:Ctx} {n:Nat} {σ:St} {dst:Option Tmp} {ty:TypeId} {ts:Array TypeId} {pos:String} {after:Array Edge} {gd:Option (Nat×Bool)}
theorem GZ {i k:Nat} (h:¬ i=k):Nat.beq i k=false:=by
 cases hb:Nat.beq i k with
 | false=>rfl
 | true=>exact absurd (bR hb) h
theorem Gh {f:FuncId} {xs:Array Operand} {args:List V} {O0 o1 O2 o3 O4 O5:Ob} {Q:V->(Nat->Option Ob)->Prop} {R:V->Ob->Ob->Prop} (hc:bN C.P f)
  (hf:FnO C.P f 6 0 args [(big,O0),(9001,o1),(9002,O2),(9003,o3),(9004,O4),(9005,O5)] Q)
  (hQ:∀ v ob',Q v ob'->∃ p a b,R p a b/\p.ren (cm six 0)=p/\a.ren (cm six 0)=a/\b.ren (cm six 0)=b/\v=p/\ob'=ar [(big,O0),(9001,a),(9002,O2),(9003,b),(9004,O4),(9005,O5)])
  (hargs:xs.toList.map (σ.ev n)=V.renL (cm six 0) args) (ha:V.allL (okR 6 0) args=true)
  (hob:[(big,O0),(9001,o1),(9002,O2),(9003,o3),(9004,O4),(9005,O5)].all (fun p=>p.2.all (okR 6 0))=true)
  (hobs:dD σ (cm six 0) [(big,O0),(9001,o1),(9002,O2),(9003,o3),(9004,O4),(9005,O5)]):
  OJ C n ⟨dst,.call { callee:= .value (.func f),args:=xs,argTypes:=ts },ty,pos,after,gd⟩ (fun τ'=>∃ s,RV R s/\s.wr.map (·.1)=[9001,9003]/\s.nw=[]/\τ'=σ.app dst s) σ:=by
 refine dU six 0 hc hargs ha O hob hobs OE O hf fun v ob' h=>?_
 obtain ⟨p,a,b,hR,ep,ea,eb,rfl,rfl⟩:=hQ v ob' h;refine ⟨_,⟨v,a,b,hR,O⟩,O,O,?_⟩;obtain ⟨h0,h1,h2,h3,h4,h5,_⟩:=hobs;have key:∀ i,obL (wrO six 0 0 (ar [(big,O0),(9001,a),(9002,O2),(9003,b),(9004,O4),(9005,O5)])) σ.ob i=obL [(9001,some a),(9003,some b)] σ.ob i:=by
  intro i;show obL [(big,some (O0.ren (cm six 0))),(9001,some (a.ren (cm six 0))),(9002,some (O2.ren (cm six 0))),(9003,some (b.ren (cm six 0))),(9004,some (O4.ren (cm six 0))),(9005,some (O5.ren (cm six 0)))] σ.ob i=_;rw [ea,eb];by_cases e0:i=big
  ·subst e0;exact h0.symm
  by_cases e1:i=9001
  ·subst e1;rfl
  by_cases e2:i=9002
  ·subst e2;exact h2.symm
  by_cases e3:i=9003
  ·subst e3;rfl
  by_cases e4:i=9004
  ·subst e4;exact h4.symm
  by_cases e5:i=9005
  ·subst e5;exact h5.symm
  simp only [obL,GZ e0,GZ e1,GZ e2,GZ e3,GZ e4,GZ e5,Hh]
 have e:=funext key;unfold St.app;simp only [ep,e];rfl
end
abbrev bu (ll:List (List Int)):PV:= .sl none ll.length (ll.map ak)
theorem cM {ll:List (List Int)} {k:Nat} (h:k<ll.length):(ll.map ak)[k*1]? =some (ak ll[k]):=by simp [h]
theorem cQ {ll:List (List Int)} {k:Nat} (h:k<ll.length):ll.map ak≠[]:=fun e=>by have:=af List.length e;simp at this;rw [this] at h;simp at h
structure VD where
 chs:List (List Int)
 kes:List (List Int)
 hos:List (List Int)
 wa:List Int
structure CtxV (J:JD) (P:List Int) (D:VD):Prop where
 ok:JOk J
 ord:OrdOk J.S P
 n64:P.length<=64
 ch:D.chs=(upZ P.length).map (bq P)++[bq P (-1)]
 ke:D.kes=(upZ P.length).map (dq J.S P)
 hl:D.hos.length=P.length
 ho:∀ h∈D.hos,h.length<=1000/\∀ r∈h,0<=r/\r<J.S.rels.length
 zf:∀ l∈J.T,∀ x∈l,∀ y∈x.v,Zf y/\y.size<=10000
 t12:∀ l∈J.T,l.length<=12
 wv:∀ a:Nat,a<J.S.attrs.length->bw (RJ J) (a:Int)≠[]
def SzA (σ:Asg ByteArray):Prop:=∀ a x,σ a=some x->x.size<=10000
theorem SzA.put {σ:Asg ByteArray} (h:SzA σ) (a:Int) {x:ByteArray} (hx:x.size<=10000):SzA (put σ a x):=fun b y e=>by
 unfold Jn.put at e;split at e
 ·cases e;exact hx
 ·exact h b y e
section
variable {J:JD} {P:List Int} {D:VD} (h:CtxV J P D)
include h
theorem CtxV.len:P.length=J.S.attrs.length:=h.ord.len
theorem CtxV.chl:D.chs.length=P.length+1:=by rw [h.ch];simp [a8]
theorem CtxV.kel:D.kes.length=P.length:=by rw [h.ke];simp [a8]
theorem CtxV.HX {v:Nat} (hv:v<P.length):D.chs[v]'(by rw [h.chl];omega)=bq P v:=by
 have hlu:v<(upZ P.length).length:=by rw [a8];exact hv
 simp only [h.ch,List.getElem_append,rJ,a8,hv,dite_true,Kg];simp [upZ]
theorem CtxV.xZ:D.chs[P.length]'(by rw [h.chl];omega)=bq P (-1):=by
 simp [h.ch,List.getElem_append,a8]
theorem CtxV.Hb {v:Nat} (hv:v<P.length):D.kes[v]'(by rw [h.kel];omega)=dq J.S P v:=by
 simp only [h.ke,Kg];simp [upZ]
theorem CtxV.xz {v:Nat} (hv:v<P.length) {a:Int} (ha:a∈dq J.S P v):∃ b:Nat,a=(b:Int)/\b<P.length/\(b:Int)∈bp P v:=by
 have h1:=(r9.1 ha).1;obtain ⟨b,hb,e⟩:=gB h.ord.dP hv (vf _ h1);exact ⟨b,e,hb,e▸h1⟩
omit h in
theorem yj (S:Sch) (P:List Int) (v:Int):(dq S P v).length<=P.length:=by
 unfold dq H7;rw [(iY _).length_eq];exact uv (IE ..) (vg P v)
theorem CtxV.s8 (v:Int) (σ:Asg ByteArray):∀ x∈bC (RJ J) sdS v σ,Zf x/\x.size<=10000:=by
 intro x hx;unfold bC at hx;cases hw:bw (RJ J) v with
 | nil=>rw [hw] at hx;simp at hx
 | cons f l=>
   rw [hw] at hx;simp only at hx;have hm:=(wU.1 hx).1;rw [sf] at hm;obtain ⟨row,hrow,e⟩:=List.mem_filterMap.1 hm;have hr:=(wU.1 hrow).1;rw [kF] at hr;obtain ⟨y,hy,rfl⟩:=uF.1 hr;have hmem:x∈y.v:=Ke e;unfold dh at hy;by_cases hf:f<J.T.length
   ·simp only [List.getD,fI hf,Lg] at hy;exact h.zf _ (aJ hf) y hy x hmem
   ·simp [List.getD,IT (by omega:J.T.length<=f)] at hy
end
theorem nQ {f:Int->ByteArray}:∀ {l:List Int},(∀ a∈l,(f a).size<=10000)->(lG f l).length<=10001*l.length
 | [],_=>by simp [lG]
 | a::l,h=>by
   have h1:=nQ (l:=l) fun b hb=>h b (by simp [hb])
   have h2:=h a OG;have h3:(f a).data.toList.length=(f a).size:=by rw [zE];rfl
   unfold lG at h1 ⊢;rw [IG,a6,a6,qU,h3];simp only [qU,Ot];omega
theorem MC (x:ByteArray):(x++(⟨#[0]⟩:ByteArray)).data.toList=x.data.toList++[0]:=by
 rw [ByteArray.data_append];simp
theorem ug (x:ByteArray):(x++(⟨#[0]⟩:ByteArray)).size=x.size+1:=by
 have e:(x++(⟨#[0]⟩:ByteArray)).data.toList.length=x.data.toList.length+1:=by rw [MC,a6];rfl
 rw [zE,zE] at e;exact e
abbrev ba {R:Type} (M:List (ByteArray×R)):List PV:=M.map fun p=> .str p.1
abbrev wdB (D:VD):WD:=⟨bu D.chs,bu D.kes,bu D.hos,ak D.wa,.bool false,.bool true,.fn (.func 189) [] [],.fn (.func 190) [] [],.fn (.func 191) [] [],.any,.any,.fn (.func 142) [] [],.fn (.func 143) [] []⟩
theorem xt (x y:Bool):FnP Tryz.prog 189 [.bool x,.bool y] (· = .bool (aU.add x y)):=by
 refine FnP.of func189 O ntmps189 OG fun m0 w0 F R0=>?_
 refine Z1 O O ?_;by_cases hx:x=true
 ·subst hx;refine Gr O ?_;iterate 5 refine A1 O ?_
  exact Gt O<|⟨_,_,O,O,O⟩
 ·obtain rfl:=J8 hx;refine Gr O ?_;iterate 5 refine A1 O ?_
  exact Gt O<|⟨_,_,O,O,O⟩
theorem kM (x y:Bool):FnP Tryz.prog 190 [.bool x,.bool y] (· = .bool (aU.mul x y)):=by
 refine FnP.of func190 O ntmps190 OG fun m0 w0 F R0=>?_
 refine Z1 O O ?_;by_cases hx:x=true
 ·subst hx;refine Gr O ?_;iterate 5 refine A1 O ?_
  exact Gt O<|⟨_,_,O,O,O⟩
 ·obtain rfl:=J8 hx;refine Gr O ?_;iterate 5 refine A1 O ?_
  exact Gt O<|⟨_,_,O,O,O⟩
theorem xv (x:Bool):FnP Tryz.prog 191 [.bool x] (· = .bool (!x)):=by
 refine FnP.of func191 O ntmps191 OG fun m0 w0 F R0=>?_
 exact Z1 O O<|Z3 O O O O<|Gt O<|⟨_,_,O,O,O⟩
theorem wg (v:Int) (x:ByteArray):FnP Tryz.prog 142 [.int .i64 v,.str x] (· = .bool true):=by
 refine FnP.of func142 O ntmps142 OG fun m0 w0 F R0=>?_
 exact Z1 O O<|Z1 O O<|Gt O<|⟨_,_,O,O,O⟩
theorem Cf (w:Int):FnP Tryz.prog 143 [.int .i64 w] (· = .bool true):=by
 refine FnP.of func143 O ntmps143 OG fun m0 w0 F R0=>?_
 exact Z1 O O<|Z1 O O<|Gt O<|⟨_,_,O,O,O⟩
end
end Go.Proofs.YtedfonppffochaaGreatDoor
