/- Printed by gen.py: the Go functions as plain functions, and that the code does what they say. -/
import Derived.Test.YtgfoabcickjphaaGreatDoorChecked
import Derived.Test.YtgfoabcickjphaaGreatDoorVcYB
import Derived.Test.YtgfoabcickjphaaGreatDoorVcZ
import Derived.Test.YtgfoabcickjphaaGreatDoorVcGC
import Derived.KernelRfl
import Derived.Test.YtgfoabcickjphaaGreatDoorVcMD
import Derived.Test.YtgfoabcickjphaaGreatDoorVcMQ
import Derived.Test.YtgfoabcickjphaaGreatDoorVcSG
import Derived.Test.YtgfoabcickjphaaGreatDoorFnsA
import Derived.Test.YtgfoabcickjphaaGreatDoorExt
import Derived.Test.YtgfoabcickjphaaGreatDoorVcGl
import Derived.Test.YtgfoabcickjphaaGreatDoorVcWS
namespace Go.Proofs.YtgfoabcickjphaaGreatDoor
open Go Go.Vc
open Tryz
open Go.Vc.OpJ (assign alloc lss pickT pickF extract lenD indexD loadD eqlI gtr callVal leq geq loadR nilP indexS buildSlice lenS fieldD neqI pickAnd pickOr)
set_option maxHeartbeats 4000000
set_option maxRecDepth 100000
noncomputable section
def slices_Index_L0 (a0:(List Int)) (a1:Int) (s1:Int):Option (((Int)⊕(Unit))⊕(Int)) :=
 (if (decide (s1<(a0.length:Int)))=true then
 (idx a0 s1).bind fun x11 =>
 (if (a1==x11)=true then
 some (.inl (.inl s1))
 else
 some (.inr (w64 (s1+1))))
 else
 some (.inl (.inr ())))
def slices_Index (a0:(List Int)) (a1:Int):Option (Int) :=
 (loop (slices_Index_L0 a0 a1) 0).bind fun x13=>match x13 with
 | (.inl p8) =>
  some p8
 | (.inr _) =>
  some (-1)
theorem slices_Index_ac (a0:(List Int)) (a1:Int) (r:Int) (h:slices_Index a0 a1=some r):AC Tryz.prog 66 [(.d (.list 1 (a0.map (eI .i64)))),(.d (.int .i64 a1))] [] (.d (.int .i64 r)) []:=by
 refine AC.of_code2 Tryz.func66 rfl rfl (Nat.le_of_ble_eq_true (by rfl)) fun B hB hN => ?_
 delta slices_Index at h
 refine sr (SQ tt) ?_
 apply AWp.seq
 refine sr (SQ tt) ?_
 apply AWp.block
 obtain⟨x13,hx14,h⟩:=bindS h
 refine lg (slices_Index_L0 a0 a1) (fun s1:Int=>([(0,(qI_1 a0)),(1,(i6 a1)),(7,(i6 (a0.length:Int))),(8,(i6 s1))]:EL)) (fun s1:Int=>([]:OL)) (fun(x:(Int)⊕(Unit)) e E' O'=>match x with | (.inl p8)=>e = .ret∧Mat B E' O' ([(4,(i6 p8))]:EL) ([]:OL) | (.inr _p)=>e = .exit 0∧Mat B E' O' ([]:EL) ([]:OL)) hx14 (mp [] _ _ hB) (fun s1 y h => ?_) (fun e E' O' hR => ?_)
 ·unfold slices_Index_L0 at h
  refine sr (SQ tt) ?_
  apply AWp.seq
  apply AWp.cond rfl<;>intro hg10
  ·have h:=ite_t hg10 h
   apply AWp.skip
   apply seqQ_n
   apply AWp.seq
   apply AWp.block
   refine sr (SQ tt) ?_
   obtain⟨_,hx11,h⟩:=bindS h
   refine sr (SQ (fa hx11 tt)) ?_
   apply AWp.cond rfl<;>intro hg12
   ·have h:=ite_t hg12 h
    refine sr (SQ tt) ?_
    apply AWp.ret
    apply blkQ_r
    apply seqQ_r
    obtain rfl:=oi h
    exact⟨(fun hc=>by cases hc),rfl,(mp [] _ _ hB)⟩
   ·have h:=ite_f hg12 h
    apply AWp.skip
    apply blkQ_n
    apply seqQ_n
    refine rg (SQ tt) ?_
    obtain rfl:=oi h
    exact⟨rfl,(mp [] _ _ hB)⟩
  ·have h:=ite_f hg10 h
   apply AWp.exit
   apply seqQ_e
   obtain rfl:=oi h
   exact⟨(fun hc=>by cases hc),rfl,(mp [] _ _ hB)⟩
 ·rcases x13 with p8 | _
  ·obtain⟨rfl,hmat⟩:=hR
   apply blkQ_r
   apply seqQ_r
   obtain rfl:=oi h
   exact rt (Mat.trans hmat (mp [] [(4,(i6 p8))] [] hB)) [(i6 p8)] (Res.tmp (by rfl) (by rfl) Res.nil) rfl
  ·obtain⟨rfl,hmat⟩:=hR
   apply blkQ_hit
   apply seqQ_n
   refine AWp.ghost hmat ?_
   refine sr (SQ tt) ?_
   apply AWp.ret
   obtain rfl:=oi h
   exact rt (kp [(4,_)] [] hB rfl rfl (by rfl)) [(i6 (-1))] (Res.tmp (by rfl) (by rfl) Res.nil) rfl
def slices_Contains (a0:(List Int)) (a1:Int):Option (Bool) :=
 (slices_Index a0 a1).bind fun r1 =>
 some (decide (0≤r1))
theorem slices_Contains_ac (a0:(List Int)) (a1:Int) (r:Bool) (h:slices_Contains a0 a1=some r):AC Tryz.prog 33 [(.d (.list 1 (a0.map (eI .i64)))),(.d (.int .i64 a1))] [] (.d (.bool r)) []:=by
 refine AC.of_code2 Tryz.func33 rfl rfl (Nat.le_of_ble_eq_true (by rfl)) fun B hB hN => ?_
 delta slices_Contains at h
 refine sr (SQ tt) ?_
 obtain⟨r1,hr1,h⟩:=bindS h
 refine sr (SQ (fa (cl [] (slices_Index_ac a0 a1 r1 hr1)) tt)) ?_
 apply AWp.ret
 obtain rfl:=oi h
 exact rt (kp [(4,_)] [] hB rfl rfl (by rfl)) [(bo (decide (0≤r1)))] (Res.tmp (by rfl) (by rfl) Res.nil) rfl
def ext34_slices_Clone_S (a0:(List Bool)):Option (List Bool):=chk (decide (a0.length≤LIM)) <|
 some a0
theorem ext34_slices_Clone_S_ac (a0:(List Bool)) (r:List Bool) (h:ext34_slices_Clone_S a0=some r):AC Tryz.prog 34 [(.sref 0 1 0 a0.length)] [(0,(.row 4 1 (a0.map eB)))] (.sref 900000 1 0 r.length) [(0,some (.row 4 1 (a0.map eB))),(900000,some (.row 4 1 (r.map eB)))]:=by
 obtain⟨hc,h⟩:=chk_some h
 obtain rfl:=oi h
 exact AC.cloneS cloneOk34 (by simp) (by rw [List.length_map];exact lim_mulN hc (by decide))
def resource_before (a0:aAddr):Option (aAddr×Bool) :=
 (if ((a0.fHi==0)&&(a0.fLo==0))=true then
 some ((aAddr.mk false 0 0),false)
 else
 jn (fun m3:aAddr =>
 some ((aAddr.mk m3.fV6 m3.fHi (IntKind.u64.wrap (m3.fLo-1))),true)) (fun j4 =>
 (if (a0.fLo==0)=true then
 j4 (aAddr.mk a0.fV6 (IntKind.u64.wrap (a0.fHi-1)) a0.fLo)
 else
 j4 a0)))
theorem resource_before_ac (a0:aAddr) (r:aAddr×Bool) (h:resource_before a0=some r):AC Tryz.prog 151 [(.d (e_aAddr a0))] [] (.tup [(.d (e_aAddr r.1)),(.d (.bool r.2))]) []:=by
 refine AC.of_code2 Tryz.func151 rfl rfl (Nat.le_of_ble_eq_true (by rfl)) fun B hB hN => ?_
 delta resource_before at h
 refine sr (SQ tt) ?_
 apply AWp.seq
 refine sr (SQ tt) ?_
 apply AWp.cond rfl<;>intro hg1
 ·have h:=ite_t hg1 h
  refine sr (SQ tt) ?_
  apply AWp.ret
  apply seqQ_r
  obtain rfl:=oi h
  exact rt (kp [(2,_),(3,_)] [(1002,some _)] hB rfl rfl (by rfl)) [(.d (.st [(.bool false),(.int .u64 0),(.int .u64 0)])),(bo false)] (Res.cell (c:=(.d (.st [(.bool false),(.int .u64 0),(.int .u64 0)]))) (by rfl) (by rfl) tyS44 (by rfl) (by rfl) (by rfl) (Res.tmp (by rfl) (by rfl) Res.nil)) rfl
 ·have h:=ite_f hg1 h
  apply AWp.skip
  apply seqQ_n
  apply AWp.seq
  refine sr (SQ tt) ?_
  refine gh [(1,_),(2,_),(15,_)] [(1001,some _),(1002,some _)] hB rfl rfl (by rfl) ?_
  refine AWp.cut h (fun m3:aAddr=>([(1,(pt 1001)),(2,(pt 1002))]:EL)) (fun m3:aAddr=>([(1001,bd 44 (e_aAddr m3)),(1002,bd 44 (.st [(.bool false),(.int .u64 0),(.int .u64 0)]))]:OL)) (fun m3 h E' O' hmat => ?_) (fun j4 hjj4 h => ?_)
  ·apply seqQ_n
   refine AWp.ghost hmat ?_
   refine sr (SQ tt) ?_
   refine sr (SQ tt) ?_
   apply AWp.ret
   obtain rfl:=oi h
   exact rt (kp [(2,_),(3,_)] [(1002,some _)] hB rfl rfl (by rfl)) [(.d (.st [(.bool m3.fV6),(.int .u64 m3.fHi),(.int .u64 (IntKind.u64.wrap (m3.fLo-1)))])),(bo true)] (Res.cell (c:=(.d (.st [(.bool m3.fV6),(.int .u64 m3.fHi),(.int .u64 (IntKind.u64.wrap (m3.fLo-1)))]))) (by rfl) (by rfl) tyS44 (by rfl) (by rfl) (by rfl) (Res.tmp (by rfl) (by rfl) Res.nil)) rfl
  ·apply AWp.cond rfl<;>intro hg5
   ·have h:=ite_t hg5 h
    refine rg (SQ tt) ?_
    exact hjj4 _ h _ _ (mp [] _ _ hB)
   ·have h:=ite_f hg5 h
    apply AWp.skip
    exact hjj4 _ h _ _ (mp [] _ _ hB)
def resource_order_minus_L1 (a1:(List aAddr_)) (s433:Int×aAddr_×(List aAddr_)):Option (((Bool×aAddr_×(List aAddr_)))⊕(Int×aAddr_×(List aAddr_))) :=
 (if (decide (s433.1<(a1.length:Int)))=true then
 jn (fun m602:aAddr_×(List aAddr_) =>
 some (.inr ((w64 (s433.1+1)),m602.1,m602.2))) (fun j603 =>
 (idx a1 s433.1).bind fun x604 =>
 jn (fun m609:Bool =>
 (if m609=true then
 j603 (s433.2.1,s433.2.2)
 else
 (resource_before x604.ffrom).bind fun r612 =>
 jn (fun m615:Bool =>
 jn (fun m619:(List aAddr_) =>
 (addr_Next x604.fto).bind fun r621 =>
 jn (fun m624:Bool =>
 (if m624=true then
 some (.inl (false,s433.2.1,m619))
 else
 j603 ((aAddr_.mk r621.1 s433.2.1.fto),m619))) (fun j625 =>
 (if (!r621.2)=true then
 j625 true
 else
 (addr_Cmp r621.1 s433.2.1.fto).bind fun r628 =>
 j625 (decide (0<r628))))) (fun j620 =>
 (if m615=true then
 chk (decide ((s433.2.2++[(aAddr_.mk s433.2.1.ffrom r612.1)]).length≤LIM)) <|
 j620 (s433.2.2++[(aAddr_.mk s433.2.1.ffrom r612.1)])
 else
 j620 s433.2.2))) (fun j616 =>
 (if r612.2=true then
 (addr_Cmp s433.2.1.ffrom r612.1).bind fun r632 =>
 j616 (decide (r632≤0))
 else
 j616 false)))) (fun j610 =>
 (addr_Cmp x604.fto s433.2.1.ffrom).bind fun r633 =>
 (if (decide (r633<0))=true then
 j610 true
 else
 (addr_Cmp x604.ffrom s433.2.1.fto).bind fun r635 =>
 j610 (decide (0<r635)))))
 else
 some (.inl (true,s433.2.1,s433.2.2)))
def resource_order_minus_L0 (a0:(List aAddr_)) (a1:(List aAddr_)) (s1:Int×(List aAddr_)):Option ((((List aAddr_)))⊕(Int×(List aAddr_))) :=
 (if (decide (s1.1<(a0.length:Int)))=true then
 (idx a0 s1.1).bind fun x432 =>
 (loop (resource_order_minus_L1 a1) (0,x432,s1.2)).bind fun p568 =>
 jn (fun m640:(List aAddr_) =>
 some (.inr ((w64 (s1.1+1)),m640))) (fun j641 =>
 (if p568.1=true then
 chk (decide ((p568.2.2++[p568.2.1]).length≤LIM)) <|
 j641 (p568.2.2++[p568.2.1])
 else
 j641 p568.2.2))
 else
 some (.inl s1.2))
def resource_order_minus (a0:(List aAddr_)) (a1:(List aAddr_)):Option ((List aAddr_)) :=
 (loop (resource_order_minus_L0 a0 a1) (0,([]:List aAddr_))).bind fun p430 =>
 some p430
theorem resource_order_minus_ac (a0:(List aAddr_)) (a1:(List aAddr_)) (r:(List aAddr_)) (h:resource_order_minus a0 a1=some r):AC Tryz.prog 103 [(.st [(.func 109 []),(.func 150 []),(.func 151 [])]),(.d (.list 6 (a0.map e_aAddr_))),(.d (.list 6 (a1.map e_aAddr_)))] [] (.d (.list 6 (r.map e_aAddr_))) []:=by
 refine ac2 Tryz.func103 rfl rfl fun B hB hN L => ?_
 delta resource_order_minus at h
 refine sr (SQ tt) ?_
 refine sr (SQ tt) ?_
 apply AWp.seq
 refine sr (SQ tt) ?_
 apply AWp.block
 obtain⟨p430,hx645,h⟩:=bindS h
 refine lg (resource_order_minus_L0 a0 a1) (fun s1:Int×(List aAddr_)=>([(2,(qe_aAddr__6 a1)),(3,(pt 1003)),(7,(.sref 3007 6 0 s1.2.length)),(17,(qe_aAddr__6 a0)),(18,(i6 (a0.length:Int))),(19,(i6 s1.1))]:EL)) (fun s1:Int×(List aAddr_)=>([(1003,some (.box 117 (.st [(.func 109 []),(.func 150 []),(.func 151 [])]))),(3007,some (we_aAddr__139_6 s1.2))]:OL)) (fun(p430:((List aAddr_))) e E' O'=>e = .exit 0∧Mat B E' O' ([(7,(.sref 3007 6 0 p430.length))]:EL) ([(3007,some (we_aAddr__139_6 p430))]:OL)) hx645 (Mat.trans (Mat.beginP (n:=3007) (e:=139) (sz:=6) (Ts:=[(7,(.sref 3007 6 0 0))]) (Bs:=[]) hB (by decide) (by rfl) (by decide) (TwT.cons (x:=.nils) (by rfl) (Tw.leaf ⟨rfl,rfl⟩) TwT.nil) TwB.nil) (mp [] _ _ hB)) (fun s1 y h => ?_) (fun e E' O' hR => ?_)
 ·unfold resource_order_minus_L0 at h
  refine sr (SQ tt) ?_
  apply AWp.seq
  apply AWp.cond rfl<;>intro hg431
  ·have h:=ite_t hg431 h
   apply AWp.skip
   apply seqQ_n
   apply AWp.seq
   apply AWp.block
   obtain⟨_,hx432,h⟩:=bindS h
   refine sr (SQ (fa hx432 tt)) ?_
   refine sr (SQ tt) ?_
   apply AWp.seq
   refine sr (SQ tt) ?_
   apply AWp.block
   obtain⟨p568,hx637,h⟩:=bindS h
   refine lg (resource_order_minus_L1 a1) (fun s433:Int×aAddr_×(List aAddr_)=>([(2,(qe_aAddr__6 a1)),(3,(pt 1003)),(7,(.sref 3007 6 0 s433.2.2.length)),(9,(pt 1009)),(10,(bo true)),(17,(qe_aAddr__6 a0)),(18,(i6 (a0.length:Int))),(19,(i6 s1.1)),(23,(qe_aAddr__6 a1)),(24,(i6 (a1.length:Int))),(25,(i6 s433.1))]:EL)) (fun s433:Int×aAddr_×(List aAddr_)=>([(1003,some (.box 117 (.st [(.func 109 []),(.func 150 []),(.func 151 [])]))),(1009,bd 139 (e_aAddr_ s433.2.1)),(3007,some (we_aAddr__139_6 s433.2.2))]:OL)) (fun(p568:(Bool×aAddr_×(List aAddr_))) e E' O'=>e = .exit 2∧Mat B E' O' ([(2,(qe_aAddr__6 a1)),(3,(pt 1003)),(7,(.sref 3007 6 0 p568.2.2.length)),(9,(pt 1009)),(10,(bo p568.1)),(17,(qe_aAddr__6 a0)),(18,(i6 (a0.length:Int))),(19,(i6 s1.1))]:EL) ([(1003,some (.box 117 (.st [(.func 109 []),(.func 150 []),(.func 151 [])]))),(1009,bd 139 (e_aAddr_ p568.2.1)),(3007,some (we_aAddr__139_6 p568.2.2))]:OL)) hx637 (mp [] _ _ hB) (fun s433 y h => ?_) (fun e E' O' hR => ?_)
   ·unfold resource_order_minus_L1 at h
    refine sr (SQ tt) ?_
    apply AWp.seq
    apply AWp.cond rfl<;>intro hg569
    ·have h:=ite_t hg569 h
     apply AWp.skip
     apply seqQ_n
     apply AWp.seq
     refine AWp.cut h (fun m602:aAddr_×(List aAddr_)=>([(2,(qe_aAddr__6 a1)),(3,(pt 1003)),(7,(.sref 3007 6 0 m602.2.length)),(9,(pt 1009)),(10,(bo true)),(17,(qe_aAddr__6 a0)),(18,(i6 (a0.length:Int))),(19,(i6 s1.1)),(23,(qe_aAddr__6 a1)),(24,(i6 (a1.length:Int))),(25,(i6 s433.1))]:EL)) (fun m602:aAddr_×(List aAddr_)=>([(1003,some (.box 117 (.st [(.func 109 []),(.func 150 []),(.func 151 [])]))),(1009,bd 139 (e_aAddr_ m602.1)),(3007,some (we_aAddr__139_6 m602.2))]:OL)) (fun m602 h E' O' hmat => ?_) (fun j603 hjj603 h => ?_)
     ·apply seqQ_n
      refine AWp.ghost hmat ?_
      refine rg (SQ tt) ?_
      obtain rfl:=oi h
      exact⟨rfl,(mp [] _ _ hB)⟩
     ·apply AWp.block
      obtain⟨x604,hx604,h⟩:=bindS h
      refine sr (SQ (fa hx604 tt)) ?_
      apply AWp.seq
      apply AWp.seq
      refine AWp.cut h (fun m609:Bool=>([(2,(qe_aAddr__6 a1)),(3,(pt 1003)),(7,(.sref 3007 6 0 s433.2.2.length)),(9,(pt 1009)),(10,(bo true)),(12,(pt 1012)),(17,(qe_aAddr__6 a0)),(18,(i6 (a0.length:Int))),(19,(i6 s1.1)),(23,(qe_aAddr__6 a1)),(24,(i6 (a1.length:Int))),(25,(i6 s433.1)),(46,(bo m609))]:EL)) (fun m609:Bool=>([(1003,some (.box 117 (.st [(.func 109 []),(.func 150 []),(.func 151 [])]))),(1009,bd 139 (e_aAddr_ s433.2.1)),(1012,bd 139 (e_aAddr_ x604)),(3007,some (we_aAddr__139_6 s433.2.2))]:OL)) (fun m609 h E' O' hmat => ?_) (fun j610 hjj610 h => ?_)
      ·apply seqQ_n
       refine AWp.ghost hmat ?_
       apply AWp.cond rfl<;>intro hg611
       ·have h:=ite_t hg611 h
        apply AWp.exit
        apply seqQ_e
        apply blkQ_hit
        exact hjj603 _ h _ _ (mp [] _ _ hB)
       ·have h:=ite_f hg611 h
        apply AWp.skip
        apply seqQ_n
        apply AWp.seq
        obtain⟨r612,hr612,h⟩:=bindS h
        refine sr (SQ (fa (cl [] (resource_before_ac x604.ffrom r612 hr612)) tt)) ?_
        apply AWp.seq
        refine AWp.cut h (fun m615:Bool=>([(2,(qe_aAddr__6 a1)),(3,(pt 1003)),(7,(.sref 3007 6 0 s433.2.2.length)),(9,(pt 1009)),(10,(bo true)),(12,(pt 1012)),(13,(pt 1013)),(17,(qe_aAddr__6 a0)),(18,(i6 (a0.length:Int))),(19,(i6 s1.1)),(23,(qe_aAddr__6 a1)),(24,(i6 (a1.length:Int))),(25,(i6 s433.1)),(64,(bo m615))]:EL)) (fun m615:Bool=>([(1003,some (.box 117 (.st [(.func 109 []),(.func 150 []),(.func 151 [])]))),(1009,bd 139 (e_aAddr_ s433.2.1)),(1012,bd 139 (e_aAddr_ x604)),(1013,bd 44 (e_aAddr r612.1)),(3007,some (we_aAddr__139_6 s433.2.2))]:OL)) (fun m615 h E' O' hmat => ?_) (fun j616 hjj616 h => ?_)
        ·apply seqQ_n
         refine AWp.ghost hmat ?_
         refine AWp.cut h (fun m619:(List aAddr_)=>([(2,(qe_aAddr__6 a1)),(3,(pt 1003)),(7,(.sref 3007 6 0 m619.length)),(9,(pt 1009)),(10,(bo true)),(12,(pt 1012)),(17,(qe_aAddr__6 a0)),(18,(i6 (a0.length:Int))),(19,(i6 s1.1)),(23,(qe_aAddr__6 a1)),(24,(i6 (a1.length:Int))),(25,(i6 s433.1))]:EL)) (fun m619:(List aAddr_)=>([(1003,some (.box 117 (.st [(.func 109 []),(.func 150 []),(.func 151 [])]))),(1009,bd 139 (e_aAddr_ s433.2.1)),(1012,bd 139 (e_aAddr_ x604)),(3007,some (we_aAddr__139_6 m619))]:OL)) (fun m619 h E' O' hmat => ?_) (fun j620 hjj620 h => ?_)
         ·apply seqQ_n
          refine AWp.ghost hmat ?_
          obtain⟨r621,hr621,h⟩:=bindS h
          refine sr (SQ (fa (cl [] (addr_Next_ac x604.fto r621 hr621)) tt)) ?_
          apply AWp.seq
          apply AWp.seq
          refine AWp.cut h (fun m624:Bool=>([(2,(qe_aAddr__6 a1)),(3,(pt 1003)),(7,(.sref 3007 6 0 m619.length)),(9,(pt 1009)),(10,(bo true)),(15,(pt 1015)),(17,(qe_aAddr__6 a0)),(18,(i6 (a0.length:Int))),(19,(i6 s1.1)),(23,(qe_aAddr__6 a1)),(24,(i6 (a1.length:Int))),(25,(i6 s433.1)),(90,(bo m624))]:EL)) (fun m624:Bool=>([(1003,some (.box 117 (.st [(.func 109 []),(.func 150 []),(.func 151 [])]))),(1009,bd 139 (e_aAddr_ s433.2.1)),(1015,bd 44 (e_aAddr r621.1)),(3007,some (we_aAddr__139_6 m619))]:OL)) (fun m624 h E' O' hmat => ?_) (fun j625 hjj625 h => ?_)
          ·apply seqQ_n
           refine AWp.ghost hmat ?_
           apply AWp.cond rfl<;>intro hg626
           ·have h:=ite_t hg626 h
            refine sr (SQ tt) ?_
            refine gh [(2,_),(3,_),(7,_),(9,_),(10,_),(17,_),(18,_),(19,_)] [(1003,some _),(1009,some _),(3007,some _)] hB rfl rfl (by rfl) ?_
            apply AWp.exit
            apply seqQ_e
            refine blkQ_miss (by rfl) ?_
            apply seqQ_e
            obtain rfl:=oi h
            exact⟨(fun hc=>by cases hc),rfl,(mp [] _ _ hB)⟩
           ·have h:=ite_f hg626 h
            apply AWp.skip
            apply seqQ_n
            refine rg (SQ tt) ?_
            apply blkQ_n
            exact hjj603 _ h _ _ (mp [] _ _ hB)
          ·rcases bft (!r621.2) with hg627 | hg627
           ·have h:=ite_t hg627 h
            refine rg (SQ (fa hg627 tt)) ?_
            exact hjj625 _ h _ _ (mp [] _ _ hB)
           ·have h:=ite_f hg627 h
            obtain⟨r628,hr628,h⟩:=bindS h
            refine rg (SQ (fa hg627 (fa (cl [] (addr_Cmp_ac r621.1 s433.2.1.fto r628 hr628)) tt))) ?_
            exact hjj625 _ h _ _ (mp [] _ _ hB)
         ·apply AWp.cond rfl<;>intro hg629
          ·have h:=ite_t hg629 h
           obtain⟨hc630,h⟩:=chk_some h
           refine rg (SQ (fa hc630 tt)) ?_
           exact hjj620 _ h _ _ (mp [(3007,1071)] _ _ hB)
          ·have h:=ite_f hg629 h
           apply AWp.skip
           exact hjj620 _ h _ _ (mp [] _ _ hB)
        ·rcases bft r612.2 with hg631 | hg631
         ·have h:=ite_t hg631 h
          obtain⟨r632,hr632,h⟩:=bindS h
          refine rg (SQ (fa hg631 (fa (cl [] (addr_Cmp_ac s433.2.1.ffrom r612.1 r632 hr632)) tt))) ?_
          exact hjj616 _ h _ _ (mp [] _ _ hB)
         ·have h:=ite_f hg631 h
          refine rg (SQ (fa hg631 tt)) ?_
          exact hjj616 _ h _ _ (mp [] _ _ hB)
      ·obtain⟨r633,hr633,h⟩:=bindS h
       rcases bft (decide (r633<0)) with hg634 | hg634
       ·have h:=ite_t hg634 h
        refine rg (SQ (fa (cl [] (addr_Cmp_ac x604.fto s433.2.1.ffrom r633 hr633)) (fa hg634 tt))) ?_
        exact hjj610 _ h _ _ (mp [] _ _ hB)
       ·have h:=ite_f hg634 h
        obtain⟨r635,hr635,h⟩:=bindS h
        refine rg (SQ (fa (cl [] (addr_Cmp_ac x604.fto s433.2.1.ffrom r633 hr633)) (fa hg634 (fa (cl [] (addr_Cmp_ac x604.ffrom s433.2.1.fto r635 hr635)) tt)))) ?_
        exact hjj610 _ h _ _ (mp [] _ _ hB)
    ·have h:=ite_f hg569 h
     apply AWp.exit
     apply seqQ_e
     obtain rfl:=oi h
     exact⟨(fun hc=>by cases hc),rfl,(mp [] _ _ hB)⟩
   ·obtain⟨rfl,hmat⟩:=hR
    apply blkQ_hit
    apply seqQ_n
    refine AWp.ghost hmat ?_
    refine sr (SQ tt) ?_
    refine gh [(2,_),(3,_),(7,_),(9,_),(17,_),(18,_),(19,_),(94,_)] [(1003,some _),(1009,some _),(3007,some _)] hB rfl rfl (by rfl) ?_
    refine AWp.cut h (fun m640:(List aAddr_)=>([(2,(qe_aAddr__6 a1)),(3,(pt 1003)),(7,(.sref 3007 6 0 m640.length)),(17,(qe_aAddr__6 a0)),(18,(i6 (a0.length:Int))),(19,(i6 s1.1))]:EL)) (fun m640:(List aAddr_)=>([(1003,some (.box 117 (.st [(.func 109 []),(.func 150 []),(.func 151 [])]))),(3007,some (we_aAddr__139_6 m640))]:OL)) (fun m640 h E' O' hmat => ?_) (fun j641 hjj641 h => ?_)
    ·apply blkQ_n
     apply seqQ_n
     refine AWp.ghost hmat ?_
     refine rg (SQ tt) ?_
     obtain rfl:=oi h
     exact⟨rfl,(mp [] _ _ hB)⟩
    ·apply AWp.cond rfl<;>intro hg642
     ·have h:=ite_t hg642 h
      obtain⟨hc643,h⟩:=chk_some h
      refine rg (SQ (fa hc643 tt)) ?_
      exact hjj641 _ h _ _ (mp [(3007,1098)] _ _ hB)
     ·have h:=ite_f hg642 h
      apply AWp.skip
      exact hjj641 _ h _ _ (mp [] _ _ hB)
  ·have h:=ite_f hg431 h
   apply AWp.exit
   apply seqQ_e
   obtain rfl:=oi h
   exact⟨(fun hc=>by cases hc),rfl,(mp [] _ _ hB)⟩
 ·obtain⟨rfl,hmat⟩:=hR
  apply blkQ_hit
  apply seqQ_n
  refine AWp.ghost hmat ?_
  refine sr (SQ tt) ?_
  apply AWp.ret
  obtain rfl:=oi h
  exact rt (Mat.trans (Mat.freezeP (n:=3007) (e:=139) (sz:=6) (es:=p430.map e_aAddr_) (Ts:=[(6,(qe_aAddr__6 p430))]) (Bs:=[]) (by rfl) (TwT.cons (x:=(.sref 3007 6 0 p430.length)) (by rfl) (FrzL.all (by first | rfl | (simp;done) | (simp;omega) | omega)) TwT.nil) TwB.nil) (mp [] [(6,(qe_aAddr__6 p430))] [] hB)) [(qe_aAddr__6 p430)] (Res.tmp (by rfl) (by rfl) Res.nil) rfl
def resource_numbers_2 (a0:Int):Option (Int×Bool) :=
 some ((w64 (a0-1)),(decide (0<a0)))
theorem resource_numbers_2_ac (a0:Int) (r:Int×Bool) (h:resource_numbers_2 a0=some r):AC Tryz.prog 153 [(.d (.int .i64 a0))] [] (.tup [(.d (.int .i64 r.1)),(.d (.bool r.2))]) []:=by
 refine AC.of_code2 Tryz.func153 rfl rfl (Nat.le_of_ble_eq_true (by rfl)) fun B hB hN => ?_
 delta resource_numbers_2 at h
 refine sr (SQ tt) ?_
 refine sr (SQ tt) ?_
 apply AWp.ret
 obtain rfl:=oi h
 exact rt (kp [(2,_),(3,_)] [] hB rfl rfl (by rfl)) [(i6 (w64 (a0-1))),(bo (decide (0<a0)))] (Res.tmp (by rfl) (by rfl) (Res.tmp (by rfl) (by rfl) Res.nil)) rfl
def resource_order_minus_2_L1 (a1:(List resource_part_int_)) (s433:Int×resource_part_int_×(List resource_part_int_)):Option (((Bool×resource_part_int_×(List resource_part_int_)))⊕(Int×resource_part_int_×(List resource_part_int_))) :=
 (if (decide (s433.1<(a1.length:Int)))=true then
 jn (fun m602:resource_part_int_×(List resource_part_int_) =>
 some (.inr ((w64 (s433.1+1)),m602.1,m602.2))) (fun j603 =>
 (idx a1 s433.1).bind fun x604 =>
 jn (fun m609:Bool =>
 (if m609=true then
 j603 (s433.2.1,s433.2.2)
 else
 (resource_numbers_2 x604.ffrom).bind fun r612 =>
 jn (fun m615:Bool =>
 jn (fun m619:(List resource_part_int_) =>
 (resource_numbers_1 x604.fto).bind fun r621 =>
 jn (fun m624:Bool =>
 (if m624=true then
 some (.inl (false,s433.2.1,m619))
 else
 j603 ((resource_part_int_.mk r621.1 s433.2.1.fto),m619))) (fun j625 =>
 (if (!r621.2)=true then
 j625 true
 else
 (cmp_Compare r621.1 s433.2.1.fto).bind fun r628 =>
 j625 (decide (0<r628))))) (fun j620 =>
 (if m615=true then
 chk (decide ((s433.2.2++[(resource_part_int_.mk s433.2.1.ffrom r612.1)]).length≤LIM)) <|
 j620 (s433.2.2++[(resource_part_int_.mk s433.2.1.ffrom r612.1)])
 else
 j620 s433.2.2))) (fun j616 =>
 (if r612.2=true then
 (cmp_Compare s433.2.1.ffrom r612.1).bind fun r632 =>
 j616 (decide (r632≤0))
 else
 j616 false)))) (fun j610 =>
 (cmp_Compare x604.fto s433.2.1.ffrom).bind fun r633 =>
 (if (decide (r633<0))=true then
 j610 true
 else
 (cmp_Compare x604.ffrom s433.2.1.fto).bind fun r635 =>
 j610 (decide (0<r635)))))
 else
 some (.inl (true,s433.2.1,s433.2.2)))
def resource_order_minus_2_L0 (a0:(List resource_part_int_)) (a1:(List resource_part_int_)) (s1:Int×(List resource_part_int_)):Option ((((List resource_part_int_)))⊕(Int×(List resource_part_int_))) :=
 (if (decide (s1.1<(a0.length:Int)))=true then
 (idx a0 s1.1).bind fun x432 =>
 (loop (resource_order_minus_2_L1 a1) (0,x432,s1.2)).bind fun p568 =>
 jn (fun m640:(List resource_part_int_) =>
 some (.inr ((w64 (s1.1+1)),m640))) (fun j641 =>
 (if p568.1=true then
 chk (decide ((p568.2.2++[p568.2.1]).length≤LIM)) <|
 j641 (p568.2.2++[p568.2.1])
 else
 j641 p568.2.2))
 else
 some (.inl s1.2))
def resource_order_minus_2 (a0:(List resource_part_int_)) (a1:(List resource_part_int_)):Option ((List resource_part_int_)) :=
 (loop (resource_order_minus_2_L0 a0 a1) (0,([]:List resource_part_int_))).bind fun p430 =>
 some p430
theorem resource_order_minus_2_ac (a0:(List resource_part_int_)) (a1:(List resource_part_int_)) (r:(List resource_part_int_)) (h:resource_order_minus_2 a0 a1=some r):AC Tryz.prog 104 [(.st [(.func 98 []),(.func 152 []),(.func 153 [])]),(.d (.list 2 (a0.map e_resource_part_int_))),(.d (.list 2 (a1.map e_resource_part_int_)))] [] (.d (.list 2 (r.map e_resource_part_int_))) []:=by
 refine ac2 Tryz.func104 rfl rfl fun B hB hN L => ?_
 delta resource_order_minus_2 at h
 refine sr (SQ tt) ?_
 refine sr (SQ tt) ?_
 apply AWp.seq
 refine sr (SQ tt) ?_
 apply AWp.block
 obtain⟨p430,hx645,h⟩:=bindS h
 refine lg (resource_order_minus_2_L0 a0 a1) (fun s1:Int×(List resource_part_int_)=>([(2,(.d (.list 2 (a1.map e_resource_part_int_)))),(3,(pt 1003)),(7,(.sref 3007 2 0 s1.2.length)),(17,(.d (.list 2 (a0.map e_resource_part_int_)))),(18,(i6 (a0.length:Int))),(19,(i6 s1.1))]:EL)) (fun s1:Int×(List resource_part_int_)=>([(1003,some (.box 121 (.st [(.func 98 []),(.func 152 []),(.func 153 [])]))),(3007,some (.row 141 2 (s1.2.map e_resource_part_int_)))]:OL)) (fun(p430:((List resource_part_int_))) e E' O'=>e = .exit 0∧Mat B E' O' ([(7,(.sref 3007 2 0 p430.length))]:EL) ([(3007,some (.row 141 2 (p430.map e_resource_part_int_)))]:OL)) hx645 (Mat.trans (Mat.beginP (n:=3007) (e:=141) (sz:=2) (Ts:=[(7,(.sref 3007 2 0 0))]) (Bs:=[]) hB (by decide) (by rfl) (by decide) (TwT.cons (x:=.nils) (by rfl) (Tw.leaf ⟨rfl,rfl⟩) TwT.nil) TwB.nil) (mp [] _ _ hB)) (fun s1 y h => ?_) (fun e E' O' hR => ?_)
 ·unfold resource_order_minus_2_L0 at h
  refine sr (SQ tt) ?_
  apply AWp.seq
  apply AWp.cond rfl<;>intro hg431
  ·have h:=ite_t hg431 h
   apply AWp.skip
   apply seqQ_n
   apply AWp.seq
   apply AWp.block
   obtain⟨_,hx432,h⟩:=bindS h
   refine sr (SQ (fa hx432 tt)) ?_
   refine sr (SQ tt) ?_
   apply AWp.seq
   refine sr (SQ tt) ?_
   apply AWp.block
   obtain⟨p568,hx637,h⟩:=bindS h
   refine lg (resource_order_minus_2_L1 a1) (fun s433:Int×resource_part_int_×(List resource_part_int_)=>([(2,(.d (.list 2 (a1.map e_resource_part_int_)))),(3,(pt 1003)),(7,(.sref 3007 2 0 s433.2.2.length)),(9,(pt 1009)),(10,(bo true)),(17,(.d (.list 2 (a0.map e_resource_part_int_)))),(18,(i6 (a0.length:Int))),(19,(i6 s1.1)),(23,(.d (.list 2 (a1.map e_resource_part_int_)))),(24,(i6 (a1.length:Int))),(25,(i6 s433.1))]:EL)) (fun s433:Int×resource_part_int_×(List resource_part_int_)=>([(1003,some (.box 121 (.st [(.func 98 []),(.func 152 []),(.func 153 [])]))),(1009,bd 141 (e_resource_part_int_ s433.2.1)),(3007,some (.row 141 2 (s433.2.2.map e_resource_part_int_)))]:OL)) (fun(p568:(Bool×resource_part_int_×(List resource_part_int_))) e E' O'=>e = .exit 2∧Mat B E' O' ([(2,(.d (.list 2 (a1.map e_resource_part_int_)))),(3,(pt 1003)),(7,(.sref 3007 2 0 p568.2.2.length)),(9,(pt 1009)),(10,(bo p568.1)),(17,(.d (.list 2 (a0.map e_resource_part_int_)))),(18,(i6 (a0.length:Int))),(19,(i6 s1.1))]:EL) ([(1003,some (.box 121 (.st [(.func 98 []),(.func 152 []),(.func 153 [])]))),(1009,bd 141 (e_resource_part_int_ p568.2.1)),(3007,some (.row 141 2 (p568.2.2.map e_resource_part_int_)))]:OL)) hx637 (mp [] _ _ hB) (fun s433 y h => ?_) (fun e E' O' hR => ?_)
   ·unfold resource_order_minus_2_L1 at h
    refine sr (SQ tt) ?_
    apply AWp.seq
    apply AWp.cond rfl<;>intro hg569
    ·have h:=ite_t hg569 h
     apply AWp.skip
     apply seqQ_n
     apply AWp.seq
     refine AWp.cut h (fun m602:resource_part_int_×(List resource_part_int_)=>([(2,(.d (.list 2 (a1.map e_resource_part_int_)))),(3,(pt 1003)),(7,(.sref 3007 2 0 m602.2.length)),(9,(pt 1009)),(10,(bo true)),(17,(.d (.list 2 (a0.map e_resource_part_int_)))),(18,(i6 (a0.length:Int))),(19,(i6 s1.1)),(23,(.d (.list 2 (a1.map e_resource_part_int_)))),(24,(i6 (a1.length:Int))),(25,(i6 s433.1))]:EL)) (fun m602:resource_part_int_×(List resource_part_int_)=>([(1003,some (.box 121 (.st [(.func 98 []),(.func 152 []),(.func 153 [])]))),(1009,bd 141 (e_resource_part_int_ m602.1)),(3007,some (.row 141 2 (m602.2.map e_resource_part_int_)))]:OL)) (fun m602 h E' O' hmat => ?_) (fun j603 hjj603 h => ?_)
     ·apply seqQ_n
      refine AWp.ghost hmat ?_
      refine rg (SQ tt) ?_
      obtain rfl:=oi h
      exact⟨rfl,(mp [] _ _ hB)⟩
     ·apply AWp.block
      obtain⟨x604,hx604,h⟩:=bindS h
      refine sr (SQ (fa hx604 tt)) ?_
      apply AWp.seq
      apply AWp.seq
      refine AWp.cut h (fun m609:Bool=>([(2,(.d (.list 2 (a1.map e_resource_part_int_)))),(3,(pt 1003)),(7,(.sref 3007 2 0 s433.2.2.length)),(9,(pt 1009)),(10,(bo true)),(12,(pt 1012)),(17,(.d (.list 2 (a0.map e_resource_part_int_)))),(18,(i6 (a0.length:Int))),(19,(i6 s1.1)),(23,(.d (.list 2 (a1.map e_resource_part_int_)))),(24,(i6 (a1.length:Int))),(25,(i6 s433.1)),(46,(bo m609))]:EL)) (fun m609:Bool=>([(1003,some (.box 121 (.st [(.func 98 []),(.func 152 []),(.func 153 [])]))),(1009,bd 141 (e_resource_part_int_ s433.2.1)),(1012,bd 141 (e_resource_part_int_ x604)),(3007,some (.row 141 2 (s433.2.2.map e_resource_part_int_)))]:OL)) (fun m609 h E' O' hmat => ?_) (fun j610 hjj610 h => ?_)
      ·apply seqQ_n
       refine AWp.ghost hmat ?_
       apply AWp.cond rfl<;>intro hg611
       ·have h:=ite_t hg611 h
        apply AWp.exit
        apply seqQ_e
        apply blkQ_hit
        exact hjj603 _ h _ _ (mp [] _ _ hB)
       ·have h:=ite_f hg611 h
        apply AWp.skip
        apply seqQ_n
        apply AWp.seq
        obtain⟨r612,hr612,h⟩:=bindS h
        refine sr (SQ (fa (cl [] (resource_numbers_2_ac x604.ffrom r612 hr612)) tt)) ?_
        apply AWp.seq
        refine AWp.cut h (fun m615:Bool=>([(2,(.d (.list 2 (a1.map e_resource_part_int_)))),(3,(pt 1003)),(7,(.sref 3007 2 0 s433.2.2.length)),(9,(pt 1009)),(10,(bo true)),(12,(pt 1012)),(13,(i6 r612.1)),(17,(.d (.list 2 (a0.map e_resource_part_int_)))),(18,(i6 (a0.length:Int))),(19,(i6 s1.1)),(23,(.d (.list 2 (a1.map e_resource_part_int_)))),(24,(i6 (a1.length:Int))),(25,(i6 s433.1)),(64,(bo m615))]:EL)) (fun m615:Bool=>([(1003,some (.box 121 (.st [(.func 98 []),(.func 152 []),(.func 153 [])]))),(1009,bd 141 (e_resource_part_int_ s433.2.1)),(1012,bd 141 (e_resource_part_int_ x604)),(3007,some (.row 141 2 (s433.2.2.map e_resource_part_int_)))]:OL)) (fun m615 h E' O' hmat => ?_) (fun j616 hjj616 h => ?_)
        ·apply seqQ_n
         refine AWp.ghost hmat ?_
         refine AWp.cut h (fun m619:(List resource_part_int_)=>([(2,(.d (.list 2 (a1.map e_resource_part_int_)))),(3,(pt 1003)),(7,(.sref 3007 2 0 m619.length)),(9,(pt 1009)),(10,(bo true)),(12,(pt 1012)),(17,(.d (.list 2 (a0.map e_resource_part_int_)))),(18,(i6 (a0.length:Int))),(19,(i6 s1.1)),(23,(.d (.list 2 (a1.map e_resource_part_int_)))),(24,(i6 (a1.length:Int))),(25,(i6 s433.1))]:EL)) (fun m619:(List resource_part_int_)=>([(1003,some (.box 121 (.st [(.func 98 []),(.func 152 []),(.func 153 [])]))),(1009,bd 141 (e_resource_part_int_ s433.2.1)),(1012,bd 141 (e_resource_part_int_ x604)),(3007,some (.row 141 2 (m619.map e_resource_part_int_)))]:OL)) (fun m619 h E' O' hmat => ?_) (fun j620 hjj620 h => ?_)
         ·apply seqQ_n
          refine AWp.ghost hmat ?_
          obtain⟨r621,hr621,h⟩:=bindS h
          refine sr (SQ (fa (cl [] (resource_numbers_1_ac x604.fto r621 hr621)) tt)) ?_
          apply AWp.seq
          apply AWp.seq
          refine AWp.cut h (fun m624:Bool=>([(2,(.d (.list 2 (a1.map e_resource_part_int_)))),(3,(pt 1003)),(7,(.sref 3007 2 0 m619.length)),(9,(pt 1009)),(10,(bo true)),(15,(i6 r621.1)),(17,(.d (.list 2 (a0.map e_resource_part_int_)))),(18,(i6 (a0.length:Int))),(19,(i6 s1.1)),(23,(.d (.list 2 (a1.map e_resource_part_int_)))),(24,(i6 (a1.length:Int))),(25,(i6 s433.1)),(90,(bo m624))]:EL)) (fun m624:Bool=>([(1003,some (.box 121 (.st [(.func 98 []),(.func 152 []),(.func 153 [])]))),(1009,bd 141 (e_resource_part_int_ s433.2.1)),(3007,some (.row 141 2 (m619.map e_resource_part_int_)))]:OL)) (fun m624 h E' O' hmat => ?_) (fun j625 hjj625 h => ?_)
          ·apply seqQ_n
           refine AWp.ghost hmat ?_
           apply AWp.cond rfl<;>intro hg626
           ·have h:=ite_t hg626 h
            refine sr (SQ tt) ?_
            refine gh [(2,_),(3,_),(7,_),(9,_),(10,_),(17,_),(18,_),(19,_)] [(1003,some _),(1009,some _),(3007,some _)] hB rfl rfl (by rfl) ?_
            apply AWp.exit
            apply seqQ_e
            refine blkQ_miss (by rfl) ?_
            apply seqQ_e
            obtain rfl:=oi h
            exact⟨(fun hc=>by cases hc),rfl,(mp [] _ _ hB)⟩
           ·have h:=ite_f hg626 h
            apply AWp.skip
            apply seqQ_n
            refine rg (SQ tt) ?_
            apply blkQ_n
            exact hjj603 _ h _ _ (mp [] _ _ hB)
          ·rcases bft (!r621.2) with hg627 | hg627
           ·have h:=ite_t hg627 h
            refine rg (SQ (fa hg627 tt)) ?_
            exact hjj625 _ h _ _ (mp [] _ _ hB)
           ·have h:=ite_f hg627 h
            obtain⟨r628,hr628,h⟩:=bindS h
            refine rg (SQ (fa hg627 (fa (cl [] (cmp_Compare_ac r621.1 s433.2.1.fto r628 hr628)) tt))) ?_
            exact hjj625 _ h _ _ (mp [] _ _ hB)
         ·apply AWp.cond rfl<;>intro hg629
          ·have h:=ite_t hg629 h
           obtain⟨hc630,h⟩:=chk_some h
           refine rg (SQ (fa hc630 tt)) ?_
           exact hjj620 _ h _ _ (mp [(3007,1071)] _ _ hB)
          ·have h:=ite_f hg629 h
           apply AWp.skip
           exact hjj620 _ h _ _ (mp [] _ _ hB)
        ·rcases bft r612.2 with hg631 | hg631
         ·have h:=ite_t hg631 h
          obtain⟨r632,hr632,h⟩:=bindS h
          refine rg (SQ (fa hg631 (fa (cl [] (cmp_Compare_ac s433.2.1.ffrom r612.1 r632 hr632)) tt))) ?_
          exact hjj616 _ h _ _ (mp [] _ _ hB)
         ·have h:=ite_f hg631 h
          refine rg (SQ (fa hg631 tt)) ?_
          exact hjj616 _ h _ _ (mp [] _ _ hB)
      ·obtain⟨r633,hr633,h⟩:=bindS h
       rcases bft (decide (r633<0)) with hg634 | hg634
       ·have h:=ite_t hg634 h
        refine rg (SQ (fa (cl [] (cmp_Compare_ac x604.fto s433.2.1.ffrom r633 hr633)) (fa hg634 tt))) ?_
        exact hjj610 _ h _ _ (mp [] _ _ hB)
       ·have h:=ite_f hg634 h
        obtain⟨r635,hr635,h⟩:=bindS h
        refine rg (SQ (fa (cl [] (cmp_Compare_ac x604.fto s433.2.1.ffrom r633 hr633)) (fa hg634 (fa (cl [] (cmp_Compare_ac x604.ffrom s433.2.1.fto r635 hr635)) tt)))) ?_
        exact hjj610 _ h _ _ (mp [] _ _ hB)
    ·have h:=ite_f hg569 h
     apply AWp.exit
     apply seqQ_e
     obtain rfl:=oi h
     exact⟨(fun hc=>by cases hc),rfl,(mp [] _ _ hB)⟩
   ·obtain⟨rfl,hmat⟩:=hR
    apply blkQ_hit
    apply seqQ_n
    refine AWp.ghost hmat ?_
    refine sr (SQ tt) ?_
    refine gh [(2,_),(3,_),(7,_),(9,_),(17,_),(18,_),(19,_),(94,_)] [(1003,some _),(1009,some _),(3007,some _)] hB rfl rfl (by rfl) ?_
    refine AWp.cut h (fun m640:(List resource_part_int_)=>([(2,(.d (.list 2 (a1.map e_resource_part_int_)))),(3,(pt 1003)),(7,(.sref 3007 2 0 m640.length)),(17,(.d (.list 2 (a0.map e_resource_part_int_)))),(18,(i6 (a0.length:Int))),(19,(i6 s1.1))]:EL)) (fun m640:(List resource_part_int_)=>([(1003,some (.box 121 (.st [(.func 98 []),(.func 152 []),(.func 153 [])]))),(3007,some (.row 141 2 (m640.map e_resource_part_int_)))]:OL)) (fun m640 h E' O' hmat => ?_) (fun j641 hjj641 h => ?_)
    ·apply blkQ_n
     apply seqQ_n
     refine AWp.ghost hmat ?_
     refine rg (SQ tt) ?_
     obtain rfl:=oi h
     exact⟨rfl,(mp [] _ _ hB)⟩
    ·apply AWp.cond rfl<;>intro hg642
     ·have h:=ite_t hg642 h
      obtain⟨hc643,h⟩:=chk_some h
      refine rg (SQ (fa hc643 tt)) ?_
      exact hjj641 _ h _ _ (mp [(3007,1098)] _ _ hB)
     ·have h:=ite_f hg642 h
      apply AWp.skip
      exact hjj641 _ h _ _ (mp [] _ _ hB)
  ·have h:=ite_f hg431 h
   apply AWp.exit
   apply seqQ_e
   obtain rfl:=oi h
   exact⟨(fun hc=>by cases hc),rfl,(mp [] _ _ hB)⟩
 ·obtain⟨rfl,hmat⟩:=hR
  apply blkQ_hit
  apply seqQ_n
  refine AWp.ghost hmat ?_
  refine sr (SQ tt) ?_
  apply AWp.ret
  obtain rfl:=oi h
  exact rt (Mat.trans (Mat.freezeP (n:=3007) (e:=141) (sz:=2) (es:=p430.map e_resource_part_int_) (Ts:=[(6,(.d (.list 2 (p430.map e_resource_part_int_))))]) (Bs:=[]) (by rfl) (TwT.cons (x:=(.sref 3007 2 0 p430.length)) (by rfl) (FrzL.all (by first | rfl | (simp;done) | (simp;omega) | omega)) TwT.nil) TwB.nil) (mp [] [(6,(.d (.list 2 (p430.map e_resource_part_int_))))] [] hB)) [(.d (.list 2 (p430.map e_resource_part_int_)))] (Res.tmp (by rfl) (by rfl) Res.nil) rfl
def resource_set_minus (a0:resource_set) (a1:resource_set):Option (resource_set) :=
 (resource_order_minus a0.faddrs a1.faddrs).bind fun r1 =>
 (resource_order_minus_2 a0.fasns a1.fasns).bind fun r2 =>
 some (resource_set.mk r1 r2)
theorem resource_set_minus_ac (a0:resource_set) (a1:resource_set) (r:resource_set) (h:resource_set_minus a0 a1=some r):AC Tryz.prog 86 [(.d (e_resource_set a0)),(.d (e_resource_set a1))] [(500,(.know (globF 0 [109,150,151]))),(501,(.know (globF 1 [98,152,153])))] (.d (e_resource_set r)) [(500,some (.know (globF 0 [109,150,151]))),(501,some (.know (globF 1 [98,152,153])))]:=by
 refine AC.of_code2 Tryz.func86 rfl rfl (Nat.le_of_ble_eq_true (by rfl)) fun B hB hN => ?_
 delta resource_set_minus at h
 refine sr (SQ tt) ?_
 obtain⟨r1,hr1,h⟩:=bindS h
 obtain⟨r2,hr2,h⟩:=bindS h
 apply sd (cg (OpJ.loadG (nm:=500) [109,150,151] tyS117 rfl (ltN hN rfl)) rfl (c (fo 1002 0 [0] hN underlying113 0 tyS110 (q 2)) rfl (c (la hN 113 tyS110 (q 6)) rfl (c (fo 1003 0 [0] hN underlying113 0 tyS110 (q 3)) rfl (c (la hN 113 tyS110 (q 8)) rfl (cg (OpJ.callFn hB fnOk103 (resource_order_minus_ac a0.faddrs a1.faddrs r1 hr1) [] (by kernel_rfl) (ltN hN rfl) (by kernel_rfl) (OpdL.cons (q 5) (OpdL.cons (q 7) (OpdL.cons (q 9) OpdL.nil)))) rfl (cg (OpJ.loadG (nm:=501) [98,152,153] tyS121 rfl (ltN hN rfl)) rfl (c (fo 1002 1 [1] hN underlying113 1 tyS111 (q 2)) rfl (c (la hN 113 tyS111 (q 12)) rfl (c (fo 1003 1 [1] hN underlying113 1 tyS111 (q 3)) rfl (c (la hN 113 tyS111 (q 14)) rfl (cg (OpJ.callFn hB fnOk104 (resource_order_minus_2_ac a0.fasns a1.fasns r2 hr2) [] (by kernel_rfl) (ltN hN rfl) (by kernel_rfl) (OpdL.cons (q 11) (OpdL.cons (q 13) (OpdL.cons (q 15) OpdL.nil)))) rfl (c (OpJ.coe (v:=(.st [(qe_aAddr__6 r1),(.d (.list 2 (r2.map e_resource_part_int_)))])) (y:=(.st [(.list 6 (r1.map e_aAddr_)),(.list 2 (r2.map e_resource_part_int_))])) (Co.st (CoL.cons (Co.d _) (CoL.cons (Co.d _) CoL.nil))) rfl (OpJ.build (places:=[(0,1),(1,1)]) ⟨underlying113,fun w=>by kernel_rfl⟩ tyZS113 (Opds.cons (q 10) (Opds.cons (q 16) Opds.nil)) (by kernel_rfl) (r:=(.st [(qe_aAddr__6 r1),(.d (.list 2 (r2.map e_resource_part_int_)))])) (by rfl) (ltN hN rfl))) rfl (cg (sB tyS113 (q 4) (q 17)) rfl cn)))))))))))))) (by kernel_rfl) (by kernel_rfl)
 apply AWp.ret
 obtain rfl:=oi h
 exact rt (kp [(4,_)] [(500,some _),(501,some _),(1004,some _)] hB rfl rfl (by rfl)) [(.d (.st [(.list 6 (r1.map e_aAddr_)),(.list 2 (r2.map e_resource_part_int_))]))] (Res.cell (c:=(.d (.st [(.list 6 (r1.map e_aAddr_)),(.list 2 (r2.map e_resource_part_int_))]))) (by rfl) (by rfl) tyS113 (by rfl) (by rfl) (by rfl) Res.nil) rfl
def resource_Covers (a0:aResources) (a1:aResources):Option (Bool) :=
 (resource_of a1).bind fun r1 =>
 (resource_of a0).bind fun r2 =>
 (resource_set_minus r1 r2).bind fun r3 =>
 some ((w64 ((r3.faddrs.length:Int)+(r3.fasns.length:Int)))==0)
theorem resource_Covers_ac (a0:aResources) (a1:aResources) (r:Bool) (h:resource_Covers a0 a1=some r):AC Tryz.prog 67 [(.d (e_aResources a0)),(.d (e_aResources a1))] [(500,(.know (globF 0 [109,150,151]))),(501,(.know (globF 1 [98,152,153])))] (.d (.bool r)) [(500,some (.know (globF 0 [109,150,151]))),(501,some (.know (globF 1 [98,152,153])))]:=by
 refine AC.of_code2 Tryz.func67 rfl rfl (Nat.le_of_ble_eq_true (by rfl)) fun B hB hN => ?_
 delta resource_Covers at h
 refine sr (SQ tt) ?_
 apply AWp.seq
 obtain⟨r1,hr1,h⟩:=bindS h
 obtain⟨r2,hr2,h⟩:=bindS h
 obtain⟨r3,hr3,h⟩:=bindS h
 refine drS (SQ (fa (cl [] (resource_of_ac a1 r1 hr1)) (fa (cl [] (resource_of_ac a0 r2 hr2)) (fa (cl [(500,500),(501,501)] (resource_set_minus_ac r1 r2 r3 hr3)) tt)))) ?_
 apply seqQ_n
 refine AWp.ghost (mp [] [(5,(pt 1005))] [(500,some (.know (globF 0 [109,150,151]))),(501,some (.know (globF 1 [98,152,153]))),(1005,bd 113 (e_resource_set r3))] hB) ?_
 refine sr (SQ tt) ?_
 apply AWp.ret
 obtain rfl:=oi h
 exact rt (kp [(4,_)] [(500,some _),(501,some _)] hB rfl rfl (by rfl)) [(bo ((w64 ((r3.faddrs.length:Int)+(r3.fasns.length:Int)))==0))] (Res.tmp (by rfl) (by rfl) Res.nil) rfl
def origin_issued_L0 (a0:(List aCert)) (a1:(List Bool)) (a2:aCert) (s1:Int):Option (((Unit)⊕(Unit))⊕(Int)) :=
 (if (decide (s1<(a0.length:Int)))=true then
 (idx a0 s1).bind fun x29 =>
 jn (fun m34:Bool =>
 (if m34=true then
 some (.inl (.inl ()))
 else
 some (.inr (w64 (s1+1))))) (fun j35 =>
 (idx a1 s1).bind fun x37 =>
 (if (x37&&(x29.fKey==a2.fIssuer))=true then
 (resource_Covers x29.fResources a2.fResources).bind fun r39 =>
 j35 r39
 else
 j35 false))
 else
 some (.inl (.inr ())))
def origin_issued (a0:(List aCert)) (a1:(List Bool)) (a2:aCert):Option (Bool) :=
 (loop (origin_issued_L0 a0 a1 a2) 0).bind fun x40=>match x40 with
 | (.inl _) =>
  some true
 | (.inr _) =>
  some false
theorem origin_issued_ac (a0:(List aCert)) (a1:(List Bool)) (a2:aCert) (r:Bool) (h:origin_issued a0 a1 a2=some r):AC Tryz.prog 35 [(.d (.list 6 (a0.map e_aCert))),(.d (.list 1 (a1.map eB))),(.d (e_aCert a2))] [(500,(.know (globF 0 [109,150,151]))),(501,(.know (globF 1 [98,152,153])))] (.d (.bool r)) [(500,some (.know (globF 0 [109,150,151]))),(501,some (.know (globF 1 [98,152,153])))]:=by
 refine ac2 Tryz.func35 rfl rfl fun B hB hN L => ?_
 delta origin_issued at h
 refine sr (SQ tt) ?_
 apply AWp.seq
 refine sr (SQ tt) ?_
 apply AWp.block
 obtain⟨x40,hx41,h⟩:=bindS h
 refine lg (origin_issued_L0 a0 a1 a2) (fun s1:Int=>([(1,(.d (.list 1 (a1.map eB)))),(5,(pt 1005)),(9,(qe_aCert_6 a0)),(10,(i6 (a0.length:Int))),(11,(i6 s1))]:EL)) (fun s1:Int=>([(500,some (.know (globF 0 [109,150,151]))),(501,some (.know (globF 1 [98,152,153]))),(1005,bd 59 (e_aCert a2))]:OL)) (fun(x:(Unit)⊕(Unit)) e E' O'=>match x with | (.inl _p)=>e = .ret∧Mat B E' O' ([(6,(bo true))]:EL) ([(500,some (.know (globF 0 [109,150,151]))),(501,some (.know (globF 1 [98,152,153])))]:OL) | (.inr _p)=>e = .exit 0∧Mat B E' O' ([]:EL) ([(500,some (.know (globF 0 [109,150,151]))),(501,some (.know (globF 1 [98,152,153])))]:OL)) hx41 (mp [] _ _ hB) (fun s1 y h => ?_) (fun e E' O' hR => ?_)
 ·unfold origin_issued_L0 at h
  refine sr (SQ tt) ?_
  apply AWp.seq
  apply AWp.cond rfl<;>intro hg28
  ·have h:=ite_t hg28 h
   apply AWp.skip
   apply seqQ_n
   apply AWp.seq
   apply AWp.block
   obtain⟨x29,hx29,h⟩:=bindS h
   refine sr (SQ (fa hx29 tt)) ?_
   apply AWp.seq
   refine AWp.cut h (fun m34:Bool=>([(1,(.d (.list 1 (a1.map eB)))),(5,(pt 1005)),(9,(qe_aCert_6 a0)),(10,(i6 (a0.length:Int))),(11,(i6 s1)),(33,(bo m34))]:EL)) (fun m34:Bool=>([(500,some (.know (globF 0 [109,150,151]))),(501,some (.know (globF 1 [98,152,153]))),(1005,bd 59 (e_aCert a2))]:OL)) (fun m34 h E' O' hmat => ?_) (fun j35 hjj35 h => ?_)
   ·apply seqQ_n
    refine AWp.ghost hmat ?_
    apply AWp.cond rfl<;>intro hg36
    ·have h:=ite_t hg36 h
     refine sr (SQ tt) ?_
     apply AWp.ret
     apply blkQ_r
     apply seqQ_r
     obtain rfl:=oi h
     exact⟨(fun hc=>by cases hc),rfl,(mp [] _ _ hB)⟩
    ·have h:=ite_f hg36 h
     apply AWp.skip
     apply blkQ_n
     apply seqQ_n
     refine rg (SQ tt) ?_
     obtain rfl:=oi h
     exact⟨rfl,(mp [] _ _ hB)⟩
   ·obtain⟨x37,hx37,h⟩:=bindS h
    rcases bft (x37&&(x29.fKey==a2.fIssuer)) with hg38 | hg38
    ·have h:=ite_t hg38 h
     obtain⟨r39,hr39,h⟩:=bindS h
     refine rg (SQ (fa hx37 (fa hg38 (fa (cl [(500,500),(501,501)] (resource_Covers_ac x29.fResources a2.fResources r39 hr39)) tt)))) ?_
     exact hjj35 _ h _ _ (mp [] _ _ hB)
    ·have h:=ite_f hg38 h
     refine rg (SQ (fa hx37 (fa hg38 tt))) ?_
     exact hjj35 _ h _ _ (mp [] _ _ hB)
  ·have h:=ite_f hg28 h
   apply AWp.exit
   apply seqQ_e
   obtain rfl:=oi h
   exact⟨(fun hc=>by cases hc),rfl,(mp [] _ _ hB)⟩
 ·rcases x40 with _ | _
  ·obtain⟨rfl,hmat⟩:=hR
   apply blkQ_r
   apply seqQ_r
   obtain rfl:=oi h
   exact rt (Mat.trans hmat (mp [] [(6,(bo true))] [(500,some (.know (globF 0 [109,150,151]))),(501,some (.know (globF 1 [98,152,153])))] hB)) [(bo true)] (Res.tmp (by rfl) (by rfl) Res.nil) rfl
  ·obtain⟨rfl,hmat⟩:=hR
   apply blkQ_hit
   apply seqQ_n
   refine AWp.ghost hmat ?_
   refine sr (SQ tt) ?_
   apply AWp.ret
   obtain rfl:=oi h
   exact rt (kp [(6,_)] [(500,some _),(501,some _)] hB rfl rfl (by rfl)) [(bo false)] (Res.tmp (by rfl) (by rfl) Res.nil) rfl
def slices_Equal_L0 (a0:(List Bool)) (a1:(List Bool)) (s2:Int):Option (((Unit)⊕(Unit))⊕(Int)) :=
 (if (decide (s2<(a0.length:Int)))=true then
 (idx a0 s2).bind fun x16 =>
 (idx a1 s2).bind fun x17 =>
 (idx a1 s2).bind fun x18 =>
 (if (x16 != x18)=true then
 some (.inl (.inl ()))
 else
 some (.inr (w64 (s2+1))))
 else
 some (.inl (.inr ())))
def slices_Equal (a0:(List Bool)) (a1:(List Bool)):Option (Bool) :=
 (if ((a0.length:Int) != (a1.length:Int))=true then
 some false
 else
 (loop (slices_Equal_L0 a0 a1) 0).bind fun x20=>match x20 with
 | (.inl _) =>
  some false
 | (.inr _) =>
  some true)
theorem slices_Equal_ac (a0:(List Bool)) (a1:(List Bool)) (r:Bool) (h:slices_Equal a0 a1=some r):AC Tryz.prog 36 [(.d (.list 1 (a0.map eB))),(.sref 0 1 0 a1.length)] [(0,(.row 4 1 (a1.map eB)))] (.d (.bool r)) [(0,some (.row 4 1 (a1.map eB)))]:=by
 refine ac2 Tryz.func36 rfl rfl fun B hB hN L => ?_
 delta slices_Equal at h
 refine sr (SQ tt) ?_
 apply AWp.seq
 refine sr (SQ tt) ?_
 apply AWp.cond rfl<;>intro hg1
 ·have h:=ite_t hg1 h
  refine sr (SQ tt) ?_
  apply AWp.ret
  apply seqQ_r
  obtain rfl:=oi h
  exact rt (kp [(4,_)] [(0,some _)] hB rfl rfl (by rfl)) [(bo false)] (Res.tmp (by rfl) (by rfl) Res.nil) rfl
 ·have h:=ite_f hg1 h
  apply AWp.skip
  apply seqQ_n
  apply AWp.seq
  refine sr (SQ tt) ?_
  apply AWp.block
  obtain⟨x20,hx21,h⟩:=bindS h
  refine lg (slices_Equal_L0 a0 a1) (fun s2:Int=>([(0,(.d (.list 1 (a0.map eB)))),(1,(.sref 0 1 0 a1.length)),(12,(i6 (a0.length:Int))),(13,(i6 s2))]:EL)) (fun s2:Int=>([(0,some (.row 4 1 (a1.map eB)))]:OL)) (fun(x:(Unit)⊕(Unit)) e E' O'=>match x with | (.inl _p)=>e = .ret∧Mat B E' O' ([(4,(bo false))]:EL) ([(0,some (.row 4 1 (a1.map eB)))]:OL) | (.inr _p)=>e = .exit 0∧Mat B E' O' ([]:EL) ([(0,some (.row 4 1 (a1.map eB)))]:OL)) hx21 (mp [] _ _ hB) (fun s2 y h => ?_) (fun e E' O' hR => ?_)
  ·unfold slices_Equal_L0 at h
   refine sr (SQ tt) ?_
   apply AWp.seq
   apply AWp.cond rfl<;>intro hg15
   ·have h:=ite_t hg15 h
    apply AWp.skip
    apply seqQ_n
    apply AWp.seq
    apply AWp.block
    refine sr (SQ tt) ?_
    obtain⟨_,hx16,h⟩:=bindS h
    obtain⟨_,hx17,h⟩:=bindS h
    obtain⟨_,hx18,h⟩:=bindS h
    refine sdS (SQ (fa hx16 (fa hx17 (fa hx18 tt)))) ?_
    apply AWp.cond rfl<;>intro hg19
    ·have h:=ite_t hg19 h
     refine sr (SQ tt) ?_
     apply AWp.ret
     apply blkQ_r
     apply seqQ_r
     obtain rfl:=oi h
     exact⟨(fun hc=>by cases hc),rfl,(mp [] _ _ hB)⟩
    ·have h:=ite_f hg19 h
     apply AWp.skip
     apply blkQ_n
     apply seqQ_n
     refine rg (SQ tt) ?_
     obtain rfl:=oi h
     exact⟨rfl,(mp [] _ _ hB)⟩
   ·have h:=ite_f hg15 h
    apply AWp.exit
    apply seqQ_e
    obtain rfl:=oi h
    exact⟨(fun hc=>by cases hc),rfl,(mp [] _ _ hB)⟩
  ·rcases x20 with _ | _
   ·obtain⟨rfl,hmat⟩:=hR
    apply blkQ_r
    apply seqQ_r
    obtain rfl:=oi h
    exact rt (Mat.trans hmat (mp [] [(4,(bo false))] [(0,some (.row 4 1 (a1.map eB)))] hB)) [(bo false)] (Res.tmp (by rfl) (by rfl) Res.nil) rfl
   ·obtain⟨rfl,hmat⟩:=hR
    apply blkQ_hit
    apply seqQ_n
    refine AWp.ghost hmat ?_
    refine sr (SQ tt) ?_
    apply AWp.ret
    obtain rfl:=oi h
    exact rt (kp [(4,_)] [(0,some _)] hB rfl rfl (by rfl)) [(bo true)] (Res.tmp (by rfl) (by rfl) Res.nil) rfl
def origin_Trusted_L0 (a0:(List aCert)) (a1:(List Int)) (a2:Int) (s3:Int×(List Bool)×(List Bool)):Option ((((List Bool)×(List Bool)))⊕(Int×(List Bool)×(List Bool))) :=
 (if (decide (s3.1<(a0.length:Int)))=true then
 (idx a0 s3.1).bind fun x84 =>
 jn (fun m93:(List Bool) =>
 jn (fun m105:(List Bool) =>
 some (.inr ((w64 (s3.1+1)),m93,m105))) (fun j106 =>
 (idx m93 s3.1).bind fun x107 =>
 (idx m93 s3.1).bind fun x108 =>
 (if (x108&&(x84.fIssuer==x84.fKey))=true then
 (slices_Contains a1 x84.fKey).bind fun r110 =>
 (idx s3.2.2 s3.1).bind fun x111 =>
 (idx s3.2.2 s3.1).bind fun x112 =>
 j106 (s3.2.2.set s3.1.toNat r110)
 else
 (idx s3.2.2 s3.1).bind fun x113 =>
 (idx s3.2.2 s3.1).bind fun x114 =>
 j106 (s3.2.2.set s3.1.toNat false)))) (fun j94 =>
 (origin_current x84.fFrom x84.fUntil a2).bind fun r115 =>
 (if r115=true then
 (resource_Valid x84.fResources).bind fun r117 =>
 (idx s3.2.1 s3.1).bind fun x118 =>
 (idx s3.2.1 s3.1).bind fun x119 =>
 j94 (s3.2.1.set s3.1.toNat r117)
 else
 (idx s3.2.1 s3.1).bind fun x120 =>
 (idx s3.2.1 s3.1).bind fun x121 =>
 j94 (s3.2.1.set s3.1.toNat false)))
 else
 some (.inl (s3.2.1,s3.2.2)))
def origin_Trusted_L2 (a0:(List aCert)) (p82:(List Bool)×(List Bool)) (r355:List Bool) (s356:Int×(List Bool)):Option ((((List Bool)))⊕(Int×(List Bool))) :=
 (if (decide (s356.1<(a0.length:Int)))=true then
 (idx a0 s356.1).bind fun x432 =>
 jn (fun m448:(List Bool) =>
 some (.inr ((w64 (s356.1+1)),m448))) (fun j449 =>
 (idx s356.2 s356.1).bind fun x450 =>
 (idx s356.2 s356.1).bind fun x451 =>
 (if x451=true then
 (idx s356.2 s356.1).bind fun x453 =>
 (idx s356.2 s356.1).bind fun x454 =>
 j449 (s356.2.set s356.1.toNat true)
 else
 (idx p82.1 s356.1).bind fun x455 =>
 (idx p82.1 s356.1).bind fun x456 =>
 (if (x456&&(x432.fIssuer != x432.fKey))=true then
 (origin_issued a0 r355 x432).bind fun r458 =>
 (idx s356.2 s356.1).bind fun x459 =>
 (idx s356.2 s356.1).bind fun x460 =>
 j449 (s356.2.set s356.1.toNat r458)
 else
 (idx s356.2 s356.1).bind fun x461 =>
 (idx s356.2 s356.1).bind fun x462 =>
 j449 (s356.2.set s356.1.toNat false))))
 else
 some (.inl s356.2))
def origin_Trusted_L1 (a0:(List aCert)) (p82:(List Bool)×(List Bool)) (s124:Int×(List Bool)):Option ((((List Bool)))⊕(Int×(List Bool))) :=
 (if (decide (s124.1<15))=true then
 (ext34_slices_Clone_S s124.2).bind fun r355 =>
 (loop (origin_Trusted_L2 a0 p82 r355) (0,s124.2)).bind fun p430 =>
 (slices_Equal r355 p430).bind fun r465 =>
 (if r465=true then
 some (.inl p430)
 else
 some (.inr ((w64 (s124.1+1)),p430)))
 else
 some (.inl s124.2))
def origin_Trusted (a0:(List aCert)) (a1:(List Int)) (a2:Int):Option ((List Bool)) :=
 chk ((decide (0≤(a0.length:Int))&&decide ((a0.length:Int)≤(a0.length:Int))&&decide ((a0.length:Int)≤(LIM:Int)))) <|
 chk ((decide (0≤(a0.length:Int))&&decide ((a0.length:Int)≤(a0.length:Int))&&decide ((a0.length:Int)≤(LIM:Int)))) <|
 (loop (origin_Trusted_L0 a0 a1 a2) (0,(List.replicate (a0.length:Int).toNat false),(List.replicate (a0.length:Int).toNat false))).bind fun p82 =>
 (loop (origin_Trusted_L1 a0 p82) (0,p82.2)).bind fun p353 =>
 some p353
theorem origin_Trusted_ac (a0:(List aCert)) (a1:(List Int)) (a2:Int) (r:(List Bool)) (h:origin_Trusted a0 a1 a2=some r):AC Tryz.prog 14 [(.d (.list 6 (a0.map e_aCert))),(.d (.list 1 (a1.map (eI .i64)))),(.d (.int .i64 a2))] [(500,(.know (globF 0 [109,150,151]))),(501,(.know (globF 1 [98,152,153])))] (.d (.list 1 (r.map eB))) [(500,some (.know (globF 0 [109,150,151]))),(501,some (.know (globF 1 [98,152,153])))]:=by
 refine ac2 Tryz.func14 rfl rfl fun B hB hN L => ?_
 delta origin_Trusted at h
 refine sr (SQ tt) ?_
 obtain⟨hc1,h⟩:=chk_some h
 refine sr (SQ (fa hc1 tt)) ?_
 obtain⟨hc2,h⟩:=chk_some h
 refine sr (SQ (fa hc2 tt)) ?_
 apply AWp.seq
 refine sr (SQ tt) ?_
 apply AWp.block
 obtain⟨p82,hx123,h⟩:=bindS h
 refine lg (origin_Trusted_L0 a0 a1 a2) (fun s3:Int×(List Bool)×(List Bool)=>([(0,(qe_aCert_6 a0)),(1,(qI_1 a1)),(2,(i6 a2)),(7,(.sref 1016 1 0 s3.2.2.length)),(8,(.sref 1019 1 0 s3.2.1.length)),(20,(qe_aCert_6 a0)),(21,(i6 (a0.length:Int))),(22,(i6 s3.1))]:EL)) (fun s3:Int×(List Bool)×(List Bool)=>([(500,some (.know (globF 0 [109,150,151]))),(501,some (.know (globF 1 [98,152,153]))),(1016,some (.row 4 1 (s3.2.2.map eB))),(1019,some (.row 4 1 (s3.2.1.map eB)))]:OL)) (fun(p82:((List Bool)×(List Bool))) e E' O'=>e = .exit 0∧Mat B E' O' ([(0,(qe_aCert_6 a0)),(7,(.sref 1016 1 0 p82.2.length)),(8,(.sref 1019 1 0 p82.1.length))]:EL) ([(500,some (.know (globF 0 [109,150,151]))),(501,some (.know (globF 1 [98,152,153]))),(1016,some (.row 4 1 (p82.2.map eB))),(1019,some (.row 4 1 (p82.1.map eB)))]:OL)) hx123 (mp [] _ _ hB) (fun s3 y h => ?_) (fun e E' O' hR => ?_)
 ·unfold origin_Trusted_L0 at h
  refine sr (SQ tt) ?_
  apply AWp.seq
  apply AWp.cond rfl<;>intro hg83
  ·have h:=ite_t hg83 h
   apply AWp.skip
   apply seqQ_n
   apply AWp.seq
   apply AWp.block
   obtain⟨x84,hx84,h⟩:=bindS h
   refine sr (SQ (fa hx84 tt)) ?_
   apply AWp.seq
   refine AWp.cut h (fun m93:(List Bool)=>([(0,(qe_aCert_6 a0)),(1,(qI_1 a1)),(2,(i6 a2)),(7,(.sref 1016 1 0 s3.2.2.length)),(8,(.sref 1019 1 0 m93.length)),(9,(i6 s3.1)),(10,(pt 1010)),(20,(qe_aCert_6 a0)),(21,(i6 (a0.length:Int))),(22,(i6 s3.1))]:EL)) (fun m93:(List Bool)=>([(500,some (.know (globF 0 [109,150,151]))),(501,some (.know (globF 1 [98,152,153]))),(1010,bd 59 (e_aCert x84)),(1016,some (.row 4 1 (s3.2.2.map eB))),(1019,some (.row 4 1 (m93.map eB)))]:OL)) (fun m93 h E' O' hmat => ?_) (fun j94 hjj94 h => ?_)
   ·apply seqQ_n
    refine AWp.ghost hmat ?_
    refine AWp.cut h (fun m105:(List Bool)=>([(0,(qe_aCert_6 a0)),(1,(qI_1 a1)),(2,(i6 a2)),(7,(.sref 1016 1 0 m105.length)),(8,(.sref 1019 1 0 m93.length)),(20,(qe_aCert_6 a0)),(21,(i6 (a0.length:Int))),(22,(i6 s3.1))]:EL)) (fun m105:(List Bool)=>([(500,some (.know (globF 0 [109,150,151]))),(501,some (.know (globF 1 [98,152,153]))),(1016,some (.row 4 1 (m105.map eB))),(1019,some (.row 4 1 (m93.map eB)))]:OL)) (fun m105 h E' O' hmat => ?_) (fun j106 hjj106 h => ?_)
    ·apply blkQ_n
     apply seqQ_n
     refine AWp.ghost hmat ?_
     refine rg (SQ tt) ?_
     obtain rfl:=oi h
     exact⟨rfl,(mp [] _ _ hB)⟩
    ·obtain⟨_,hx107,h⟩:=bindS h
     obtain⟨x108,hx108,h⟩:=bindS h
     rcases bft (x108&&(x84.fIssuer==x84.fKey)) with hg109 | hg109
     ·have h:=ite_t hg109 h
      obtain⟨r110,hr110,h⟩:=bindS h
      obtain⟨_,hx111,h⟩:=bindS h
      obtain⟨_,hx112,h⟩:=bindS h
      refine rg (SQ (fa hx107 (fa hx108 (fa hg109 (fa (cl [] (slices_Contains_ac a1 x84.fKey r110 hr110)) (fa hx111 (fa hx112 (fa (sv r110) tt)))))))) ?_
      exact hjj106 _ h _ _ (Mat.trans (mp [] [(0,(qe_aCert_6 a0)),(1,(qI_1 a1)),(2,(i6 a2)),(7,(.sref 1016 1 0 s3.2.2.length)),(8,(.sref 1019 1 0 m93.length)),(20,(qe_aCert_6 a0)),(21,(i6 (a0.length:Int))),(22,(i6 s3.1))] [(500,some (.know (globF 0 [109,150,151]))),(501,some (.know (globF 1 [98,152,153]))),(1016,some (.row 4 1 ((s3.2.2.set s3.1.toNat r110).map eB))),(1019,some (.row 4 1 (m93.map eB)))] hB) (Mat.trans (Mat.lenP (Ts:=[(7,(.sref 1016 1 0 ((s3.2.2.set s3.1.toNat r110).length)))]) (Bs:=[]) (TwT.cons (x:=(.sref 1016 1 0 s3.2.2.length)) (by rfl) (Tw.leaf ⟨_,_,_,_,_,rfl,rfl,(by first | rfl | (simp;done) | (simp;omega) | omega)⟩) TwT.nil) TwB.nil) (mp [] _ _ hB)))
     ·have h:=ite_f hg109 h
      obtain⟨_,hx113,h⟩:=bindS h
      obtain⟨_,hx114,h⟩:=bindS h
      refine rg (SQ (fa hx107 (fa hx108 (fa hg109 (fa hx113 (fa hx114 (fa (sv false) tt))))))) ?_
      exact hjj106 _ h _ _ (Mat.trans (mp [] [(0,(qe_aCert_6 a0)),(1,(qI_1 a1)),(2,(i6 a2)),(7,(.sref 1016 1 0 s3.2.2.length)),(8,(.sref 1019 1 0 m93.length)),(20,(qe_aCert_6 a0)),(21,(i6 (a0.length:Int))),(22,(i6 s3.1))] [(500,some (.know (globF 0 [109,150,151]))),(501,some (.know (globF 1 [98,152,153]))),(1016,some (.row 4 1 ((s3.2.2.set s3.1.toNat false).map eB))),(1019,some (.row 4 1 (m93.map eB)))] hB) (Mat.trans (Mat.lenP (Ts:=[(7,(.sref 1016 1 0 ((s3.2.2.set s3.1.toNat false).length)))]) (Bs:=[]) (TwT.cons (x:=(.sref 1016 1 0 s3.2.2.length)) (by rfl) (Tw.leaf ⟨_,_,_,_,_,rfl,rfl,(by first | rfl | (simp;done) | (simp;omega) | omega)⟩) TwT.nil) TwB.nil) (mp [] _ _ hB)))
   ·obtain⟨r115,hr115,h⟩:=bindS h
    rcases bft r115 with hg116 | hg116
    ·have h:=ite_t hg116 h
     obtain⟨r117,hr117,h⟩:=bindS h
     obtain⟨_,hx118,h⟩:=bindS h
     obtain⟨_,hx119,h⟩:=bindS h
     refine rg (SQ (fa (cl [] (origin_current_ac x84.fFrom x84.fUntil a2 r115 hr115)) (fa hg116 (fa (cl [(500,500),(501,501)] (resource_Valid_ac x84.fResources r117 hr117)) (fa hx118 (fa hx119 (fa (sv r117) tt))))))) ?_
     exact hjj94 _ h _ _ (Mat.trans (mp [] [(0,(qe_aCert_6 a0)),(1,(qI_1 a1)),(2,(i6 a2)),(7,(.sref 1016 1 0 s3.2.2.length)),(8,(.sref 1019 1 0 s3.2.1.length)),(9,(i6 s3.1)),(10,(pt 1010)),(20,(qe_aCert_6 a0)),(21,(i6 (a0.length:Int))),(22,(i6 s3.1))] [(500,some (.know (globF 0 [109,150,151]))),(501,some (.know (globF 1 [98,152,153]))),(1010,bd 59 (e_aCert x84)),(1016,some (.row 4 1 (s3.2.2.map eB))),(1019,some (.row 4 1 ((s3.2.1.set s3.1.toNat r117).map eB)))] hB) (Mat.trans (Mat.lenP (Ts:=[(8,(.sref 1019 1 0 ((s3.2.1.set s3.1.toNat r117).length)))]) (Bs:=[]) (TwT.cons (x:=(.sref 1019 1 0 s3.2.1.length)) (by rfl) (Tw.leaf ⟨_,_,_,_,_,rfl,rfl,(by first | rfl | (simp;done) | (simp;omega) | omega)⟩) TwT.nil) TwB.nil) (mp [] _ _ hB)))
    ·have h:=ite_f hg116 h
     obtain⟨_,hx120,h⟩:=bindS h
     obtain⟨_,hx121,h⟩:=bindS h
     refine rg (SQ (fa (cl [] (origin_current_ac x84.fFrom x84.fUntil a2 r115 hr115)) (fa hg116 (fa hx120 (fa hx121 (fa (sv false) tt)))))) ?_
     exact hjj94 _ h _ _ (Mat.trans (mp [] [(0,(qe_aCert_6 a0)),(1,(qI_1 a1)),(2,(i6 a2)),(7,(.sref 1016 1 0 s3.2.2.length)),(8,(.sref 1019 1 0 s3.2.1.length)),(9,(i6 s3.1)),(10,(pt 1010)),(20,(qe_aCert_6 a0)),(21,(i6 (a0.length:Int))),(22,(i6 s3.1))] [(500,some (.know (globF 0 [109,150,151]))),(501,some (.know (globF 1 [98,152,153]))),(1010,bd 59 (e_aCert x84)),(1016,some (.row 4 1 (s3.2.2.map eB))),(1019,some (.row 4 1 ((s3.2.1.set s3.1.toNat false).map eB)))] hB) (Mat.trans (Mat.lenP (Ts:=[(8,(.sref 1019 1 0 ((s3.2.1.set s3.1.toNat false).length)))]) (Bs:=[]) (TwT.cons (x:=(.sref 1019 1 0 s3.2.1.length)) (by rfl) (Tw.leaf ⟨_,_,_,_,_,rfl,rfl,(by first | rfl | (simp;done) | (simp;omega) | omega)⟩) TwT.nil) TwB.nil) (mp [] _ _ hB)))
  ·have h:=ite_f hg83 h
   apply AWp.exit
   apply seqQ_e
   obtain rfl:=oi h
   exact⟨(fun hc=>by cases hc),rfl,(mp [] _ _ hB)⟩
 ·obtain⟨rfl,hmat⟩:=hR
  apply blkQ_hit
  apply seqQ_n
  refine AWp.ghost hmat ?_
  apply AWp.seq
  refine sr (SQ tt) ?_
  apply AWp.block
  obtain⟨p353,hx468,h⟩:=bindS h
  refine lg (origin_Trusted_L1 a0 p82) (fun s124:Int×(List Bool)=>([(0,(qe_aCert_6 a0)),(7,(.sref 1016 1 0 s124.2.length)),(8,(.sref 1019 1 0 p82.1.length)),(62,(i6 s124.1))]:EL)) (fun s124:Int×(List Bool)=>([(500,some (.know (globF 0 [109,150,151]))),(501,some (.know (globF 1 [98,152,153]))),(1016,some (.row 4 1 (s124.2.map eB))),(1019,some (.row 4 1 (p82.1.map eB)))]:OL)) (fun(p353:((List Bool))) e E' O'=>e = .exit 2∧Mat B E' O' ([(7,(.sref 1016 1 0 p353.length))]:EL) ([(500,some (.know (globF 0 [109,150,151]))),(501,some (.know (globF 1 [98,152,153]))),(1016,some (.row 4 1 (p353.map eB)))]:OL)) hx468 (mp [] _ _ hB) (fun s124 y h => ?_) (fun e E' O' hR => ?_)
  ·unfold origin_Trusted_L1 at h
   refine sr (SQ tt) ?_
   apply AWp.seq
   apply AWp.cond rfl<;>intro hg354
   ·have h:=ite_t hg354 h
    apply AWp.skip
    apply seqQ_n
    apply AWp.seq
    apply AWp.block
    apply AWp.seq
    obtain⟨r355,hr355,h⟩:=bindS h
    refine rg (SQ (fa (cl [(0,1016),(900000,100300)] (ext34_slices_Clone_S_ac s124.2 r355 hr355)) tt)) ?_
    apply seqQ_n
    refine AWp.ghost (mp [] [(0,(qe_aCert_6 a0)),(7,(.sref 1016 1 0 s124.2.length)),(8,(.sref 1019 1 0 p82.1.length)),(11,(.sref 100300 1 0 r355.length)),(62,(i6 s124.1))] [(500,some (.know (globF 0 [109,150,151]))),(501,some (.know (globF 1 [98,152,153]))),(1016,some (.row 4 1 (s124.2.map eB))),(1019,some (.row 4 1 (p82.1.map eB))),(100300,some (.row 4 1 (r355.map eB)))] hB) ?_
    apply AWp.seq
    refine sr (SQ tt) ?_
    apply AWp.block
    obtain⟨p430,hx464,h⟩:=bindS h
    refine lg (origin_Trusted_L2 a0 p82 r355) (fun s356:Int×(List Bool)=>([(0,(qe_aCert_6 a0)),(7,(.sref 1016 1 0 s356.2.length)),(8,(.sref 1019 1 0 p82.1.length)),(11,(.d (.list 1 (r355.map eB)))),(62,(i6 s124.1)),(66,(qe_aCert_6 a0)),(67,(i6 (a0.length:Int))),(68,(i6 s356.1))]:EL)) (fun s356:Int×(List Bool)=>([(500,some (.know (globF 0 [109,150,151]))),(501,some (.know (globF 1 [98,152,153]))),(1016,some (.row 4 1 (s356.2.map eB))),(1019,some (.row 4 1 (p82.1.map eB)))]:OL)) (fun(p430:((List Bool))) e E' O'=>e = .exit 4∧Mat B E' O' ([(0,(qe_aCert_6 a0)),(7,(.sref 1016 1 0 p430.length)),(8,(.sref 1019 1 0 p82.1.length)),(11,(.d (.list 1 (r355.map eB)))),(62,(i6 s124.1))]:EL) ([(500,some (.know (globF 0 [109,150,151]))),(501,some (.know (globF 1 [98,152,153]))),(1016,some (.row 4 1 (p430.map eB))),(1019,some (.row 4 1 (p82.1.map eB)))]:OL)) hx464 (Mat.trans (Mat.freezeP (n:=100300) (e:=4) (sz:=1) (es:=r355.map eB) (Ts:=[(11,(.d (.list 1 (r355.map eB))))]) (Bs:=[]) (by rfl) (TwT.cons (x:=(.sref 100300 1 0 r355.length)) (by rfl) (FrzL.all (by first | rfl | (simp;done) | (simp;omega) | omega)) TwT.nil) TwB.nil) (mp [] _ _ hB)) (fun s356 y h => ?_) (fun e E' O' hR => ?_)
    ·unfold origin_Trusted_L2 at h
     refine sr (SQ tt) ?_
     apply AWp.seq
     apply AWp.cond rfl<;>intro hg431
     ·have h:=ite_t hg431 h
      apply AWp.skip
      apply seqQ_n
      apply AWp.seq
      apply AWp.block
      obtain⟨x432,hx432,h⟩:=bindS h
      refine sr (SQ (fa hx432 tt)) ?_
      refine gh [(0,_),(7,_),(8,_),(11,_),(12,_),(13,_),(62,_),(66,_),(67,_),(68,_)] [(500,some _),(501,some _),(1013,some _),(1016,some _),(1019,some _)] hB rfl rfl (by rfl) ?_
      refine AWp.cut h (fun m448:(List Bool)=>([(0,(qe_aCert_6 a0)),(7,(.sref 1016 1 0 m448.length)),(8,(.sref 1019 1 0 p82.1.length)),(11,(.d (.list 1 (r355.map eB)))),(62,(i6 s124.1)),(66,(qe_aCert_6 a0)),(67,(i6 (a0.length:Int))),(68,(i6 s356.1))]:EL)) (fun m448:(List Bool)=>([(500,some (.know (globF 0 [109,150,151]))),(501,some (.know (globF 1 [98,152,153]))),(1016,some (.row 4 1 (m448.map eB))),(1019,some (.row 4 1 (p82.1.map eB)))]:OL)) (fun m448 h E' O' hmat => ?_) (fun j449 hjj449 h => ?_)
      ·apply blkQ_n
       apply seqQ_n
       refine AWp.ghost hmat ?_
       refine rg (SQ tt) ?_
       obtain rfl:=oi h
       exact⟨rfl,(mp [] _ _ hB)⟩
      ·obtain⟨_,hx450,h⟩:=bindS h
       obtain⟨x451,hx451,h⟩:=bindS h
       rcases bft x451 with hg452 | hg452
       ·have h:=ite_t hg452 h
        obtain⟨_,hx453,h⟩:=bindS h
        obtain⟨_,hx454,h⟩:=bindS h
        refine rg (SQ (fa hx450 (fa hx451 (fa hg452 (fa hx453 (fa hx454 (fa (sv true) tt))))))) ?_
        exact hjj449 _ h _ _ (Mat.trans (mp [] [(0,(qe_aCert_6 a0)),(7,(.sref 1016 1 0 s356.2.length)),(8,(.sref 1019 1 0 p82.1.length)),(11,(.d (.list 1 (r355.map eB)))),(62,(i6 s124.1)),(66,(qe_aCert_6 a0)),(67,(i6 (a0.length:Int))),(68,(i6 s356.1))] [(500,some (.know (globF 0 [109,150,151]))),(501,some (.know (globF 1 [98,152,153]))),(1016,some (.row 4 1 ((s356.2.set s356.1.toNat true).map eB))),(1019,some (.row 4 1 (p82.1.map eB)))] hB) (Mat.trans (Mat.lenP (Ts:=[(7,(.sref 1016 1 0 ((s356.2.set s356.1.toNat true).length)))]) (Bs:=[]) (TwT.cons (x:=(.sref 1016 1 0 s356.2.length)) (by rfl) (Tw.leaf ⟨_,_,_,_,_,rfl,rfl,(by first | rfl | (simp;done) | (simp;omega) | omega)⟩) TwT.nil) TwB.nil) (mp [] _ _ hB)))
       ·have h:=ite_f hg452 h
        obtain⟨_,hx455,h⟩:=bindS h
        obtain⟨x456,hx456,h⟩:=bindS h
        rcases bft (x456&&(x432.fIssuer != x432.fKey)) with hg457 | hg457
        ·have h:=ite_t hg457 h
         obtain⟨r458,hr458,h⟩:=bindS h
         obtain⟨_,hx459,h⟩:=bindS h
         obtain⟨_,hx460,h⟩:=bindS h
         refine rg (SQ (fa hx450 (fa hx451 (fa hg452 (fa hx455 (fa hx456 (fa hg457 (fa (cl [(500,500),(501,501)] (origin_issued_ac a0 r355 x432 r458 hr458)) (fa hx459 (fa hx460 (fa (sv r458) tt))))))))))) ?_
         exact hjj449 _ h _ _ (Mat.trans (mp [] [(0,(qe_aCert_6 a0)),(7,(.sref 1016 1 0 s356.2.length)),(8,(.sref 1019 1 0 p82.1.length)),(11,(.d (.list 1 (r355.map eB)))),(62,(i6 s124.1)),(66,(qe_aCert_6 a0)),(67,(i6 (a0.length:Int))),(68,(i6 s356.1))] [(500,some (.know (globF 0 [109,150,151]))),(501,some (.know (globF 1 [98,152,153]))),(1016,some (.row 4 1 ((s356.2.set s356.1.toNat r458).map eB))),(1019,some (.row 4 1 (p82.1.map eB)))] hB) (Mat.trans (Mat.lenP (Ts:=[(7,(.sref 1016 1 0 ((s356.2.set s356.1.toNat r458).length)))]) (Bs:=[]) (TwT.cons (x:=(.sref 1016 1 0 s356.2.length)) (by rfl) (Tw.leaf ⟨_,_,_,_,_,rfl,rfl,(by first | rfl | (simp;done) | (simp;omega) | omega)⟩) TwT.nil) TwB.nil) (mp [] _ _ hB)))
        ·have h:=ite_f hg457 h
         obtain⟨_,hx461,h⟩:=bindS h
         obtain⟨_,hx462,h⟩:=bindS h
         refine rg (SQ (fa hx450 (fa hx451 (fa hg452 (fa hx455 (fa hx456 (fa hg457 (fa hx461 (fa hx462 (fa (sv false) tt)))))))))) ?_
         exact hjj449 _ h _ _ (Mat.trans (mp [] [(0,(qe_aCert_6 a0)),(7,(.sref 1016 1 0 s356.2.length)),(8,(.sref 1019 1 0 p82.1.length)),(11,(.d (.list 1 (r355.map eB)))),(62,(i6 s124.1)),(66,(qe_aCert_6 a0)),(67,(i6 (a0.length:Int))),(68,(i6 s356.1))] [(500,some (.know (globF 0 [109,150,151]))),(501,some (.know (globF 1 [98,152,153]))),(1016,some (.row 4 1 ((s356.2.set s356.1.toNat false).map eB))),(1019,some (.row 4 1 (p82.1.map eB)))] hB) (Mat.trans (Mat.lenP (Ts:=[(7,(.sref 1016 1 0 ((s356.2.set s356.1.toNat false).length)))]) (Bs:=[]) (TwT.cons (x:=(.sref 1016 1 0 s356.2.length)) (by rfl) (Tw.leaf ⟨_,_,_,_,_,rfl,rfl,(by first | rfl | (simp;done) | (simp;omega) | omega)⟩) TwT.nil) TwB.nil) (mp [] _ _ hB)))
     ·have h:=ite_f hg431 h
      apply AWp.exit
      apply seqQ_e
      obtain rfl:=oi h
      exact⟨(fun hc=>by cases hc),rfl,(mp [] _ _ hB)⟩
    ·obtain⟨rfl,hmat⟩:=hR
     apply blkQ_hit
     apply seqQ_n
     refine AWp.ghost hmat ?_
     apply AWp.seq
     obtain⟨r465,hr465,h⟩:=bindS h
     refine rg (SQ (fa (cl [(0,1016)] (slices_Equal_ac r355 p430 r465 hr465)) tt)) ?_
     apply seqQ_n
     refine AWp.ghost (mp [] [(0,(qe_aCert_6 a0)),(7,(.sref 1016 1 0 p430.length)),(8,(.sref 1019 1 0 p82.1.length)),(62,(i6 s124.1)),(102,(bo r465))] [(500,some (.know (globF 0 [109,150,151]))),(501,some (.know (globF 1 [98,152,153]))),(1016,some (.row 4 1 (p430.map eB))),(1019,some (.row 4 1 (p82.1.map eB)))] hB) ?_
     apply AWp.cond rfl<;>intro hg466
     ·have h:=ite_t hg466 h
      apply AWp.exit
      refine blkQ_miss (by rfl) ?_
      apply seqQ_e
      obtain rfl:=oi h
      exact⟨(fun hc=>by cases hc),rfl,(mp [] _ _ hB)⟩
     ·have h:=ite_f hg466 h
      apply AWp.skip
      apply blkQ_n
      apply seqQ_n
      refine rg (SQ tt) ?_
      obtain rfl:=oi h
      exact⟨rfl,(mp [] _ _ hB)⟩
   ·have h:=ite_f hg354 h
    apply AWp.exit
    apply seqQ_e
    obtain rfl:=oi h
    exact⟨(fun hc=>by cases hc),rfl,(mp [] _ _ hB)⟩
  ·obtain⟨rfl,hmat⟩:=hR
   apply blkQ_hit
   apply seqQ_n
   refine AWp.ghost hmat ?_
   refine sr (SQ tt) ?_
   apply AWp.ret
   obtain rfl:=oi h
   exact rt (Mat.trans (Mat.freezeP (n:=1016) (e:=4) (sz:=1) (es:=p353.map eB) (Ts:=[(6,(.d (.list 1 (p353.map eB))))]) (Bs:=[]) (by rfl) (TwT.cons (x:=(.sref 1016 1 0 p353.length)) (by rfl) (FrzL.all (by first | rfl | (simp;done) | (simp;omega) | omega)) TwT.nil) TwB.nil) (mp [] [(6,(.d (.list 1 (p353.map eB))))] [(500,some (.know (globF 0 [109,150,151]))),(501,some (.know (globF 1 [98,152,153])))] hB)) [(.d (.list 1 (p353.map eB)))] (Res.tmp (by rfl) (by rfl) Res.nil) rfl
def prefix_width (a0:aAddr):Option (Int) :=
 (if a0.fV6=true then
 some 128
 else
 some 32)
theorem prefix_width_ac (a0:aAddr) (r:Int) (h:prefix_width a0=some r):AC Tryz.prog 99 [(.d (e_aAddr a0))] [] (.d (.int .i64 r)) []:=by
 refine AC.of_code2 Tryz.func99 rfl rfl (Nat.le_of_ble_eq_true (by rfl)) fun B hB hN => ?_
 delta prefix_width at h
 refine sr (SQ tt) ?_
 apply AWp.seq
 refine sr (SQ tt) ?_
 apply AWp.cond rfl<;>intro hg1
 ·have h:=ite_t hg1 h
  refine sr (SQ tt) ?_
  apply AWp.ret
  apply seqQ_r
  obtain rfl:=oi h
  exact rt (kp [(2,_)] [] hB rfl rfl (by rfl)) [(i6 128)] (Res.tmp (by rfl) (by rfl) Res.nil) rfl
 ·have h:=ite_f hg1 h
  apply AWp.skip
  apply seqQ_n
  refine sr (SQ tt) ?_
  apply AWp.ret
  obtain rfl:=oi h
  exact rt (kp [(2,_)] [] hB rfl rfl (by rfl)) [(i6 32)] (Res.tmp (by rfl) (by rfl) Res.nil) rfl
def prefix_masks (a0:Int):Option (Int×Int) :=
 (if (decide (64<a0))=true then
 some ((IntKind.u64.wrap ((shlI .u64 1 (IntKind.u64.wrap (w64 (a0-64))))-1)),18446744073709551615)
 else
 some (0,(IntKind.u64.wrap ((shlI .u64 1 (IntKind.u64.wrap a0))-1))))
theorem prefix_masks_ac (a0:Int) (r:Int×Int) (h:prefix_masks a0=some r):AC Tryz.prog 122 [(.d (.int .i64 a0))] [] (.tup [(.d (.int .u64 r.1)),(.d (.int .u64 r.2))]) []:=by
 refine ac2 Tryz.func122 rfl rfl fun B hB hN L => ?_
 delta prefix_masks at h
 refine sr (SQ tt) ?_
 apply AWp.seq
 refine sr (SQ tt) ?_
 apply AWp.cond rfl<;>intro hg1
 ·have h:=ite_t hg1 h
  refine sr (SQ tt) ?_
  apply AWp.ret
  apply seqQ_r
  obtain rfl:=oi h
  exact rt (kp [(2,_),(3,_)] [] hB rfl rfl (by rfl)) [(.d (.int .u64 (IntKind.u64.wrap ((shlI .u64 1 (IntKind.u64.wrap (w64 (a0-64))))-1)))),(.d (.int .u64 18446744073709551615))] (Res.tmp (by rfl) (by rfl) (Res.tmp (by rfl) (by rfl) Res.nil)) rfl
 ·have h:=ite_f hg1 h
  apply AWp.skip
  apply seqQ_n
  refine sr (SQ tt) ?_
  apply AWp.ret
  obtain rfl:=oi h
  exact rt (kp [(2,_),(3,_)] [] hB rfl rfl (by rfl)) [(.d (.int .u64 0)),(.d (.int .u64 (IntKind.u64.wrap ((shlI .u64 1 (IntKind.u64.wrap a0))-1))))] (Res.tmp (by rfl) (by rfl) (Res.tmp (by rfl) (by rfl) Res.nil)) rfl
def prefix_first (a0:aAddr) (a1:Int):Option (aAddr) :=
 (prefix_width a0).bind fun r1 =>
 (prefix_masks (w64 (r1-a1))).bind fun r2 =>
 some (aAddr.mk a0.fV6 (bitI .andNot .u64 a0.fHi r2.1) (bitI .andNot .u64 a0.fLo r2.2))
theorem prefix_first_ac (a0:aAddr) (a1:Int) (r:aAddr) (h:prefix_first a0 a1=some r):AC Tryz.prog 100 [(.d (e_aAddr a0)),(.d (.int .i64 a1))] [] (.d (e_aAddr r)) []:=by
 refine AC.of_code2 Tryz.func100 rfl rfl (Nat.le_of_ble_eq_true (by rfl)) fun B hB hN => ?_
 delta prefix_first at h
 refine sr (SQ tt) ?_
 obtain⟨r1,hr1,h⟩:=bindS h
 obtain⟨r2,hr2,h⟩:=bindS h
 refine sr (SQ (fa (cl [] (prefix_width_ac a0 r1 hr1)) (fa (cl [] (prefix_masks_ac (w64 (r1-a1)) r2 hr2)) tt))) ?_
 refine sr (SQ tt) ?_
 refine sr (SQ tt) ?_
 refine sr (SQ tt) ?_
 apply AWp.ret
 obtain rfl:=oi h
 exact rt (kp [(4,_)] [(1004,some _)] hB rfl rfl (by rfl)) [(.d (.st [(.bool a0.fV6),(.int .u64 (bitI .andNot .u64 a0.fHi r2.1)),(.int .u64 (bitI .andNot .u64 a0.fLo r2.2))]))] (Res.cell (c:=(.d (.st [(.bool a0.fV6),(.int .u64 (bitI .andNot .u64 a0.fHi r2.1)),(.int .u64 (bitI .andNot .u64 a0.fLo r2.2))]))) (by rfl) (by rfl) tyS44 (by rfl) (by rfl) (by rfl) Res.nil) rfl
def prefix_Valid (a0:aPrefix):Option (Bool) :=
 jn (fun m7:Bool =>
 some m7) (fun j8 =>
 (addr_Valid a0.fAddr).bind fun r9 =>
 (if (r9&&(decide (0≤a0.fLen)))=true then
 (prefix_width a0.fAddr).bind fun r11 =>
 (if (decide (a0.fLen≤r11))=true then
 (prefix_first a0.fAddr a0.fLen).bind fun r13 =>
 j8 ((r13.fV6==a0.fAddr.fV6)&&((r13.fHi==a0.fAddr.fHi)&&((r13.fLo==a0.fAddr.fLo)&&true)))
 else
 j8 false)
 else
 j8 false))
theorem prefix_Valid_ac (a0:aPrefix) (r:Bool) (h:prefix_Valid a0=some r):AC Tryz.prog 89 [(.d (e_aPrefix a0))] [] (.d (.bool r)) []:=by
 refine ac2 Tryz.func89 rfl rfl fun B hB hN L => ?_
 delta prefix_Valid at h
 refine sr (SQ tt) ?_
 apply AWp.seq
 refine AWp.cut h (fun m7:Bool=>([(2,(bo m7))]:EL)) (fun m7:Bool=>([]:OL)) (fun m7 h E' O' hmat => ?_) (fun j8 hjj8 h => ?_)
 ·apply seqQ_n
  refine AWp.ghost hmat ?_
  apply AWp.ret
  obtain rfl:=oi h
  exact rt (kp [(2,_)] [] hB rfl rfl (by rfl)) [(bo m7)] (Res.tmp (by rfl) (by rfl) Res.nil) rfl
 ·obtain⟨r9,hr9,h⟩:=bindS h
  rcases bft (r9&&(decide (0≤a0.fLen))) with hg10 | hg10
  ·have h:=ite_t hg10 h
   obtain⟨r11,hr11,h⟩:=bindS h
   rcases bft (decide (a0.fLen≤r11)) with hg12 | hg12
   ·have h:=ite_t hg12 h
    obtain⟨r13,hr13,h⟩:=bindS h
    apply dr (c (fo 1001 0 [0] hN underlying46 0 tyS44 (q 1)) rfl (c (la hN 46 tyS44 (q 3)) rfl (cg (cf hB fnOk59 (addr_Valid_ac a0.fAddr r9 hr9) (L rfl) (OpdL.cons (q 4) OpdL.nil)) rfl (c (mv hN (q 5)) rfl (c (oq hN 6 (fo 1001 3 [1] hN underlying46 3 tyS3 (q 1)) (OptL.keep (by rfl) OptL.nil) (GuardV.plain _)) rfl (c (oq hN 6 (la hN 46 tyS3 (q 7)) (OptL.opt OptL.nil) (GuardV.plain _)) rfl (c (oq hN 6 (geq (L rfl) (q 8) (ii 0)) (OptL.opt OptL.nil) (GuardV.plain _)) rfl (c (pickAnd rfl (L rfl) (q 6) (q 9)) rfl (c (OpJ.val (v':=.d (.bool true)) (by rw [hg10]<;>rfl) (mv hN (q 10))) rfl (c (gd 11 (fo 1001 3 [1] hN underlying46 3 tyS3 (q 1))) rfl (c (gd 11 (la hN 46 tyS3 (q 12))) rfl (c (gd 11 (fo 1001 0 [0] hN underlying46 0 tyS44 (q 1))) rfl (c (gd 11 (la hN 46 tyS44 (q 14))) rfl (cg (gd 11 (cf hB fnOk99 (prefix_width_ac a0.fAddr r11 hr11) (L rfl) (OpdL.cons (q 15) OpdL.nil))) rfl (c (gd 11 (leq (L rfl) (q 13) (q 16))) rfl (c (pickT (L rfl) (q 11) (q 17)) rfl (c (OpJ.val (v':=.d (.bool true)) (by rw [hg12]<;>rfl) (mv hN (q 18))) rfl (c (gd 19 (fo 1001 0 [0] hN underlying46 0 tyS44 (q 1))) rfl (c (gd 19 (la hN 46 tyS44 (q 20))) rfl (c (gd 19 (fo 1001 3 [1] hN underlying46 3 tyS3 (q 1))) rfl (c (gd 19 (la hN 46 tyS3 (q 22))) rfl (cg (gd 19 (cf hB fnOk100 (prefix_first_ac a0.fAddr a0.fLen r13 hr13) (L rfl) (OpdL.cons (q 21) (OpdL.cons (q 23) OpdL.nil)))) rfl (c (gd 19 (fo 1001 0 [0] hN underlying46 0 tyS44 (q 1))) rfl (c (gd 19 (la hN 46 tyS44 (q 25))) rfl (c (gd 19 (OpJ.eqlD (h:=2) (FitE.st underlying44 rfl held44 (FitF.cons (x:=(.bool r13.fV6)) (y:=(.bool a0.fAddr.fV6)) (by decide) rfl tyS4 ⟨rfl,rfl⟩ ⟨rfl,rfl⟩ (FitE.bool (h:=0) r13.fV6 a0.fAddr.fV6 underlying4) (FitF.cons (x:=(.int .u64 r13.fHi)) (y:=(.int .u64 a0.fAddr.fHi)) (by decide) rfl tyS42 ⟨rfl,rfl⟩ ⟨rfl,rfl⟩ (FitE.int (h:=0) r13.fHi a0.fAddr.fHi underlying42) (FitF.cons (x:=(.int .u64 r13.fLo)) (y:=(.int .u64 a0.fAddr.fLo)) (by decide) rfl tyS42 ⟨rfl,rfl⟩ ⟨rfl,rfl⟩ (FitE.int (h:=0) r13.fLo a0.fAddr.fLo underlying42) FitF.nil)))) eqg44 ⟨rfl,rfl⟩ (by rfl) (L rfl) (q 24) (q 26))) rfl (c (pickT (L rfl) (q 19) (q 27)) rfl (c (assign (L rfl) (q 28)) rfl cn))))))))))))))))))))))))))) (by kernel_rfl) (by kernel_rfl)
    exact hjj8 _ h _ _ (mp [] _ _ hB)
   ·have h:=ite_f hg12 h
    refine drS (SQ (fa (cl [] (addr_Valid_ac a0.fAddr r9 hr9)) (fa hg10 (fa (cl [] (prefix_width_ac a0.fAddr r11 hr11)) (fa hg12 tt))))) ?_
    exact hjj8 _ h _ _ (mp [] _ _ hB)
  ·have h:=ite_f hg10 h
   refine drS (SQ (fa (cl [] (addr_Valid_ac a0.fAddr r9 hr9)) (fa hg10 tt))) ?_
   exact hjj8 _ h _ _ (mp [] _ _ hB)
def origin_width (a0:aPrefix):Option (Int) :=
 (if a0.fAddr.fV6=true then
 some 128
 else
 some 32)
theorem origin_width_ac (a0:aPrefix) (r:Int) (h:origin_width a0=some r):AC Tryz.prog 90 [(.d (e_aPrefix a0))] [] (.d (.int .i64 r)) []:=by
 refine AC.of_code2 Tryz.func90 rfl rfl (Nat.le_of_ble_eq_true (by rfl)) fun B hB hN => ?_
 delta origin_width at h
 refine sr (SQ tt) ?_
 apply AWp.seq
 refine sr (SQ tt) ?_
 apply AWp.cond rfl<;>intro hg1
 ·have h:=ite_t hg1 h
  refine sr (SQ tt) ?_
  apply AWp.ret
  apply seqQ_r
  obtain rfl:=oi h
  exact rt (kp [(2,_)] [] hB rfl rfl (by rfl)) [(i6 128)] (Res.tmp (by rfl) (by rfl) Res.nil) rfl
 ·have h:=ite_f hg1 h
  apply AWp.skip
  apply seqQ_n
  refine sr (SQ tt) ?_
  apply AWp.ret
  obtain rfl:=oi h
  exact rt (kp [(2,_)] [] hB rfl rfl (by rfl)) [(i6 32)] (Res.tmp (by rfl) (by rfl) Res.nil) rfl
def origin_formed_1 (a0:aObject) (a1:aSigned):Option (Bool) :=
 jn (fun m5:Bool =>
 some m5) (fun j6 =>
 (if (a0.fASN != a1.fASN)=true then
 j6 true
 else
 (prefix_Valid a0.fPrefix).bind fun r8 =>
 (if ((!r8) || (decide (a0.fMax<a0.fPrefix.fLen)))=true then
 j6 true
 else
 (origin_width a0.fPrefix).bind fun r10 =>
 j6 (decide (r10<a0.fMax)))))
theorem origin_formed_1_ac (a0:aObject) (a1:aSigned) (r:Bool) (h:origin_formed_1 a0 a1=some r):AC Tryz.prog 88 [(.d (e_aObject a0)),(pt 0)] [(0,(.box 66 (.d (e_aSigned a1))))] (.d (.bool r)) [(0,bd 66 (e_aSigned a1))]:=by
 refine ac2 Tryz.func88 rfl rfl fun B hB hN L => ?_
 delta origin_formed_1 at h
 refine sr (SQ tt) ?_
 apply AWp.seq
 refine AWp.cut h (fun m5:Bool=>([(3,(bo m5))]:EL)) (fun m5:Bool=>([(0,bd 66 (e_aSigned a1))]:OL)) (fun m5 h E' O' hmat => ?_) (fun j6 hjj6 h => ?_)
 ·apply seqQ_n
  refine AWp.ghost hmat ?_
  apply AWp.ret
  obtain rfl:=oi h
  exact rt (kp [(3,_)] [(0,some _)] hB rfl rfl (by rfl)) [(bo m5)] (Res.tmp (by rfl) (by rfl) Res.nil) rfl
 ·rcases bft (a0.fASN != a1.fASN) with hg7 | hg7
  ·have h:=ite_t hg7 h
   refine drS (SQ (fa hg7 tt)) ?_
   exact hjj6 _ h _ _ (mp [] _ _ hB)
  ·have h:=ite_f hg7 h
   obtain⟨r8,hr8,h⟩:=bindS h
   rcases bft ((!r8) || (decide (a0.fMax<a0.fPrefix.fLen))) with hg9 | hg9
   ·have h:=ite_t hg9 h
    refine drS (SQ (fa hg7 (fa (cl [] (prefix_Valid_ac a0.fPrefix r8 hr8)) (fa hg9 tt)))) ?_
    exact hjj6 _ h _ _ (mp [] _ _ hB)
   ·have h:=ite_f hg9 h
    obtain⟨r10,hr10,h⟩:=bindS h
    refine drS (SQ (fa hg7 (fa (cl [] (prefix_Valid_ac a0.fPrefix r8 hr8)) (fa hg9 (fa (cl [] (origin_width_ac a0.fPrefix r10 hr10)) tt))))) ?_
    exact hjj6 _ h _ _ (mp [] _ _ hB)
def slices_IndexFunc_2_L0 (a0:(List aObject)) (a1:aSigned) (s1:Int):Option (((Int)⊕(Unit))⊕(Int)) :=
 (if (decide (s1<(a0.length:Int)))=true then
 (idx a0 s1).bind fun x13 =>
 (origin_formed_1 x13 a1).bind fun r14 =>
 (if r14=true then
 some (.inl (.inl s1))
 else
 some (.inr (w64 (s1+1))))
 else
 some (.inl (.inr ())))
def slices_IndexFunc_2 (a0:(List aObject)) (a1:aSigned):Option (Int) :=
 (loop (slices_IndexFunc_2_L0 a0 a1) 0).bind fun x16=>match x16 with
 | (.inl p10) =>
  some p10
 | (.inr _) =>
  some (-1)
theorem slices_IndexFunc_2_ac (a0:(List aObject)) (a1:aSigned) (r:Int) (h:slices_IndexFunc_2 a0 a1=some r):AC Tryz.prog 106 [(.d (.list 6 (a0.map e_aObject))),(.func 88 [(pt 0)])] [(0,(.box 66 (.d (e_aSigned a1))))] (.d (.int .i64 r)) [(0,bd 66 (e_aSigned a1))]:=by
 refine AC.of_code2 Tryz.func106 rfl rfl (Nat.le_of_ble_eq_true (by rfl)) fun B hB hN => ?_
 delta slices_IndexFunc_2 at h
 refine sr (SQ tt) ?_
 apply AWp.seq
 refine sr (SQ tt) ?_
 apply AWp.block
 obtain⟨x16,hx17,h⟩:=bindS h
 refine lg (slices_IndexFunc_2_L0 a0 a1) (fun s1:Int=>([(0,(qe_aObject_6 a0)),(1,(.func 88 [(pt 0)])),(7,(i6 (a0.length:Int))),(8,(i6 s1))]:EL)) (fun s1:Int=>([(0,bd 66 (e_aSigned a1))]:OL)) (fun(x:(Int)⊕(Unit)) e E' O'=>match x with | (.inl p10)=>e = .ret∧Mat B E' O' ([(4,(i6 p10))]:EL) ([(0,bd 66 (e_aSigned a1))]:OL) | (.inr _p)=>e = .exit 0∧Mat B E' O' ([]:EL) ([(0,bd 66 (e_aSigned a1))]:OL)) hx17 (mp [] _ _ hB) (fun s1 y h => ?_) (fun e E' O' hR => ?_)
 ·unfold slices_IndexFunc_2_L0 at h
  refine sr (SQ tt) ?_
  apply AWp.seq
  apply AWp.cond rfl<;>intro hg12
  ·have h:=ite_t hg12 h
   apply AWp.skip
   apply seqQ_n
   apply AWp.seq
   apply AWp.block
   refine sr (SQ tt) ?_
   apply AWp.seq
   obtain⟨x13,hx13,h⟩:=bindS h
   obtain⟨r14,hr14,h⟩:=bindS h
   refine rg (SQ (fa hx13 (fa (cl [(0,0)] (origin_formed_1_ac x13 a1 r14 hr14)) tt))) ?_
   apply seqQ_n
   refine AWp.ghost (mp [] [(0,(qe_aObject_6 a0)),(1,(.func 88 [(pt 0)])),(5,(i6 s1)),(7,(i6 (a0.length:Int))),(8,(i6 s1)),(16,(bo r14))] [(0,bd 66 (e_aSigned a1))] hB) ?_
   apply AWp.cond rfl<;>intro hg15
   ·have h:=ite_t hg15 h
    refine sr (SQ tt) ?_
    apply AWp.ret
    apply blkQ_r
    apply seqQ_r
    obtain rfl:=oi h
    exact⟨(fun hc=>by cases hc),rfl,(mp [] _ _ hB)⟩
   ·have h:=ite_f hg15 h
    apply AWp.skip
    apply blkQ_n
    apply seqQ_n
    refine rg (SQ tt) ?_
    obtain rfl:=oi h
    exact⟨rfl,(mp [] _ _ hB)⟩
  ·have h:=ite_f hg12 h
   apply AWp.exit
   apply seqQ_e
   obtain rfl:=oi h
   exact⟨(fun hc=>by cases hc),rfl,(mp [] _ _ hB)⟩
 ·rcases x16 with p10 | _
  ·obtain⟨rfl,hmat⟩:=hR
   apply blkQ_r
   apply seqQ_r
   obtain rfl:=oi h
   exact rt (Mat.trans hmat (mp [] [(4,(i6 p10))] [(0,bd 66 (e_aSigned a1))] hB)) [(i6 p10)] (Res.tmp (by rfl) (by rfl) Res.nil) rfl
  ·obtain⟨rfl,hmat⟩:=hR
   apply blkQ_hit
   apply seqQ_n
   refine AWp.ghost hmat ?_
   refine sr (SQ tt) ?_
   apply AWp.ret
   obtain rfl:=oi h
   exact rt (kp [(4,_)] [(0,some _)] hB rfl rfl (by rfl)) [(i6 (-1))] (Res.tmp (by rfl) (by rfl) Res.nil) rfl
def slices_ContainsFunc_2 (a0:(List aObject)) (a1:aSigned):Option (Bool) :=
 (slices_IndexFunc_2 a0 a1).bind fun r1 =>
 some (decide (0≤r1))
theorem slices_ContainsFunc_2_ac (a0:(List aObject)) (a1:aSigned) (r:Bool) (h:slices_ContainsFunc_2 a0 a1=some r):AC Tryz.prog 91 [(.d (.list 6 (a0.map e_aObject))),(.func 88 [(pt 0)])] [(0,(.box 66 (.d (e_aSigned a1))))] (.d (.bool r)) [(0,bd 66 (e_aSigned a1))]:=by
 refine AC.of_code2 Tryz.func91 rfl rfl (Nat.le_of_ble_eq_true (by rfl)) fun B hB hN => ?_
 delta slices_ContainsFunc_2 at h
 refine sr (SQ tt) ?_
 apply AWp.seq
 obtain⟨r1,hr1,h⟩:=bindS h
 refine rg (SQ (fa (cl [(0,0)] (slices_IndexFunc_2_ac a0 a1 r1 hr1)) tt)) ?_
 apply seqQ_n
 refine AWp.ghost (mp [] [(4,(bo (decide (0≤r1))))] [(0,bd 66 (e_aSigned a1))] hB) ?_
 apply AWp.ret
 obtain rfl:=oi h
 exact rt (kp [(4,_)] [(0,some _)] hB rfl rfl (by rfl)) [(bo (decide (0≤r1)))] (Res.tmp (by rfl) (by rfl) Res.nil) rfl
def origin_formed (a0:aSigned):Option (Bool) :=
 jn (fun m3:Bool =>
 some m3) (fun j4 =>
 (if (((decide (0≤a0.fASN))&&(decide (a0.fASN≤4294967295)))&&(decide ((a0.fObjects.length:Int)≤512)))=true then
 (slices_ContainsFunc_2 a0.fObjects a0).bind fun r6 =>
 j4 (!r6)
 else
 j4 false))
theorem origin_formed_ac (a0:aSigned) (r:Bool) (h:origin_formed a0=some r):AC Tryz.prog 71 [(.d (e_aSigned a0))] [] (.d (.bool r)) []:=by
 refine ac2 Tryz.func71 rfl rfl fun B hB hN L => ?_
 delta origin_formed at h
 refine sr (SQ tt) ?_
 apply sr (cg (OpJ.makeF (OpdL.cons (q 1) OpdL.nil) rfl rfl (L rfl)) rfl (c (assign (L rfl) (q 4)) rfl cn))
 apply AWp.seq
 refine AWp.cut h (fun m3:Bool=>([(2,(bo m3))]:EL)) (fun m3:Bool=>([]:OL)) (fun m3 h E' O' hmat => ?_) (fun j4 hjj4 h => ?_)
 ·apply seqQ_n
  refine AWp.ghost hmat ?_
  apply AWp.ret
  obtain rfl:=oi h
  exact rt (kp [(2,_)] [] hB rfl rfl (by rfl)) [(bo m3)] (Res.tmp (by rfl) (by rfl) Res.nil) rfl
 ·rcases bft (((decide (0≤a0.fASN))&&(decide (a0.fASN≤4294967295)))&&(decide ((a0.fObjects.length:Int)≤512))) with hg5 | hg5
  ·have h:=ite_t hg5 h
   obtain⟨r6,hr6,h⟩:=bindS h
   refine rg (SQ (fa hg5 (fa (cl [(0,1001)] (slices_ContainsFunc_2_ac a0.fObjects a0 r6 hr6)) tt))) ?_
   exact hjj4 _ h _ _ (mp [] _ _ hB)
  ·have h:=ite_f hg5 h
   refine rg (SQ (fa hg5 tt)) ?_
   exact hjj4 _ h _ _ (mp [] _ _ hB)
def prefix_Last (a0:aPrefix):Option (aAddr) :=
 (prefix_Valid a0).bind fun r1 =>
 (if (!r1)=true then
 some (aAddr.mk false 0 0)
 else
 (prefix_width a0.fAddr).bind fun r3 =>
 (prefix_masks (w64 (r3-a0.fLen))).bind fun r4 =>
 some (aAddr.mk a0.fAddr.fV6 (bitI .or .u64 a0.fAddr.fHi r4.1) (bitI .or .u64 a0.fAddr.fLo r4.2)))
theorem prefix_Last_ac (a0:aPrefix) (r:aAddr) (h:prefix_Last a0=some r):AC Tryz.prog 110 [(.d (e_aPrefix a0))] [] (.d (e_aAddr r)) []:=by
 refine ac2 Tryz.func110 rfl rfl fun B hB hN L => ?_
 delta prefix_Last at h
 refine sr (SQ tt) ?_
 apply AWp.seq
 obtain⟨r1,hr1,h⟩:=bindS h
 refine sr (SQ (fa (cl [] (prefix_Valid_ac a0 r1 hr1)) tt)) ?_
 apply AWp.cond rfl<;>intro hg2
 ·have h:=ite_t hg2 h
  refine sr (SQ tt) ?_
  apply AWp.ret
  apply seqQ_r
  obtain rfl:=oi h
  exact rt (kp [(2,_)] [(1002,some _)] hB rfl rfl (by rfl)) [(.d (.st [(.bool false),(.int .u64 0),(.int .u64 0)]))] (Res.cell (c:=(.d (.st [(.bool false),(.int .u64 0),(.int .u64 0)]))) (by rfl) (by rfl) tyS44 (by rfl) (by rfl) (by rfl) Res.nil) rfl
 ·have h:=ite_f hg2 h
  apply AWp.skip
  apply seqQ_n
  obtain⟨r3,hr3,h⟩:=bindS h
  obtain⟨r4,hr4,h⟩:=bindS h
  refine sdS (SQ (fa (cl [] (prefix_width_ac a0.fAddr r3 hr3)) (fa (cl [] (prefix_masks_ac (w64 (r3-a0.fLen)) r4 hr4)) tt))) ?_
  refine sr (SQ tt) ?_
  refine sr (SQ tt) ?_
  refine sr (SQ tt) ?_
  apply AWp.ret
  obtain rfl:=oi h
  exact rt (kp [(2,_)] [(1002,some _)] hB rfl rfl (by rfl)) [(.d (.st [(.bool a0.fAddr.fV6),(.int .u64 (bitI .or .u64 a0.fAddr.fHi r4.1)),(.int .u64 (bitI .or .u64 a0.fAddr.fLo r4.2))]))] (Res.cell (c:=(.d (.st [(.bool a0.fAddr.fV6),(.int .u64 (bitI .or .u64 a0.fAddr.fHi r4.1)),(.int .u64 (bitI .or .u64 a0.fAddr.fLo r4.2))]))) (by rfl) (by rfl) tyS44 (by rfl) (by rfl) (by rfl) Res.nil) rfl
def resource_HasPrefix_1 (a0:aRange) (a1:aPrefix):Option (Bool) :=
 jn (fun m6:Bool =>
 some m6) (fun j7 =>
 (addr_Cmp a0.fFrom a1.fAddr).bind fun r8 =>
 (if (decide (r8≤0))=true then
 (prefix_Last a1).bind fun r10 =>
 (addr_Cmp r10 a0.fTo).bind fun r11 =>
 j7 (decide (r11≤0))
 else
 j7 false))
theorem resource_HasPrefix_1_ac (a0:aRange) (a1:aPrefix) (r:Bool) (h:resource_HasPrefix_1 a0 a1=some r):AC Tryz.prog 108 [(.d (e_aRange a0)),(pt 0)] [(0,(.box 46 (.d (e_aPrefix a1))))] (.d (.bool r)) [(0,bd 46 (e_aPrefix a1))]:=by
 refine ac2 Tryz.func108 rfl rfl fun B hB hN L => ?_
 delta resource_HasPrefix_1 at h
 refine sr (SQ tt) ?_
 apply AWp.seq
 refine AWp.cut h (fun m6:Bool=>([(3,(bo m6))]:EL)) (fun m6:Bool=>([(0,bd 46 (e_aPrefix a1))]:OL)) (fun m6 h E' O' hmat => ?_) (fun j7 hjj7 h => ?_)
 ·apply seqQ_n
  refine AWp.ghost hmat ?_
  apply AWp.ret
  obtain rfl:=oi h
  exact rt (kp [(3,_)] [(0,some _)] hB rfl rfl (by rfl)) [(bo m6)] (Res.tmp (by rfl) (by rfl) Res.nil) rfl
 ·obtain⟨r8,hr8,h⟩:=bindS h
  rcases bft (decide (r8≤0)) with hg9 | hg9
  ·have h:=ite_t hg9 h
   obtain⟨r10,hr10,h⟩:=bindS h
   obtain⟨r11,hr11,h⟩:=bindS h
   refine drS (SQ (fa (cl [] (addr_Cmp_ac a0.fFrom a1.fAddr r8 hr8)) (fa hg9 (fa (cl [] (prefix_Last_ac a1 r10 hr10)) (fa (cl [] (addr_Cmp_ac r10 a0.fTo r11 hr11)) tt))))) ?_
   exact hjj7 _ h _ _ (mp [] _ _ hB)
  ·have h:=ite_f hg9 h
   refine drS (SQ (fa (cl [] (addr_Cmp_ac a0.fFrom a1.fAddr r8 hr8)) (fa hg9 tt))) ?_
   exact hjj7 _ h _ _ (mp [] _ _ hB)
def slices_IndexFunc_4_L0 (a0:(List aRange)) (a1:aPrefix) (s1:Int):Option (((Int)⊕(Unit))⊕(Int)) :=
 (if (decide (s1<(a0.length:Int)))=true then
 (idx a0 s1).bind fun x13 =>
 (resource_HasPrefix_1 x13 a1).bind fun r14 =>
 (if r14=true then
 some (.inl (.inl s1))
 else
 some (.inr (w64 (s1+1))))
 else
 some (.inl (.inr ())))
def slices_IndexFunc_4 (a0:(List aRange)) (a1:aPrefix):Option (Int) :=
 (loop (slices_IndexFunc_4_L0 a0 a1) 0).bind fun x16=>match x16 with
 | (.inl p10) =>
  some p10
 | (.inr _) =>
  some (-1)
theorem slices_IndexFunc_4_ac (a0:(List aRange)) (a1:aPrefix) (r:Int) (h:slices_IndexFunc_4 a0 a1=some r):AC Tryz.prog 123 [(.d (.list 6 (a0.map e_aRange))),(.func 108 [(pt 0)])] [(0,(.box 46 (.d (e_aPrefix a1))))] (.d (.int .i64 r)) [(0,bd 46 (e_aPrefix a1))]:=by
 refine AC.of_code2 Tryz.func123 rfl rfl (Nat.le_of_ble_eq_true (by rfl)) fun B hB hN => ?_
 delta slices_IndexFunc_4 at h
 refine sr (SQ tt) ?_
 apply AWp.seq
 refine sr (SQ tt) ?_
 apply AWp.block
 obtain⟨x16,hx17,h⟩:=bindS h
 refine lg (slices_IndexFunc_4_L0 a0 a1) (fun s1:Int=>([(0,(qe_aRange_6 a0)),(1,(.func 108 [(pt 0)])),(7,(i6 (a0.length:Int))),(8,(i6 s1))]:EL)) (fun s1:Int=>([(0,bd 46 (e_aPrefix a1))]:OL)) (fun(x:(Int)⊕(Unit)) e E' O'=>match x with | (.inl p10)=>e = .ret∧Mat B E' O' ([(4,(i6 p10))]:EL) ([(0,bd 46 (e_aPrefix a1))]:OL) | (.inr _p)=>e = .exit 0∧Mat B E' O' ([]:EL) ([(0,bd 46 (e_aPrefix a1))]:OL)) hx17 (mp [] _ _ hB) (fun s1 y h => ?_) (fun e E' O' hR => ?_)
 ·unfold slices_IndexFunc_4_L0 at h
  refine sr (SQ tt) ?_
  apply AWp.seq
  apply AWp.cond rfl<;>intro hg12
  ·have h:=ite_t hg12 h
   apply AWp.skip
   apply seqQ_n
   apply AWp.seq
   apply AWp.block
   refine sr (SQ tt) ?_
   apply AWp.seq
   obtain⟨x13,hx13,h⟩:=bindS h
   obtain⟨r14,hr14,h⟩:=bindS h
   refine rg (SQ (fa hx13 (fa (cl [(0,0)] (resource_HasPrefix_1_ac x13 a1 r14 hr14)) tt))) ?_
   apply seqQ_n
   refine AWp.ghost (mp [] [(0,(qe_aRange_6 a0)),(1,(.func 108 [(pt 0)])),(5,(i6 s1)),(7,(i6 (a0.length:Int))),(8,(i6 s1)),(16,(bo r14))] [(0,bd 46 (e_aPrefix a1))] hB) ?_
   apply AWp.cond rfl<;>intro hg15
   ·have h:=ite_t hg15 h
    refine sr (SQ tt) ?_
    apply AWp.ret
    apply blkQ_r
    apply seqQ_r
    obtain rfl:=oi h
    exact⟨(fun hc=>by cases hc),rfl,(mp [] _ _ hB)⟩
   ·have h:=ite_f hg15 h
    apply AWp.skip
    apply blkQ_n
    apply seqQ_n
    refine rg (SQ tt) ?_
    obtain rfl:=oi h
    exact⟨rfl,(mp [] _ _ hB)⟩
  ·have h:=ite_f hg12 h
   apply AWp.exit
   apply seqQ_e
   obtain rfl:=oi h
   exact⟨(fun hc=>by cases hc),rfl,(mp [] _ _ hB)⟩
 ·rcases x16 with p10 | _
  ·obtain⟨rfl,hmat⟩:=hR
   apply blkQ_r
   apply seqQ_r
   obtain rfl:=oi h
   exact rt (Mat.trans hmat (mp [] [(4,(i6 p10))] [(0,bd 46 (e_aPrefix a1))] hB)) [(i6 p10)] (Res.tmp (by rfl) (by rfl) Res.nil) rfl
  ·obtain⟨rfl,hmat⟩:=hR
   apply blkQ_hit
   apply seqQ_n
   refine AWp.ghost hmat ?_
   refine sr (SQ tt) ?_
   apply AWp.ret
   obtain rfl:=oi h
   exact rt (kp [(4,_)] [(0,some _)] hB rfl rfl (by rfl)) [(i6 (-1))] (Res.tmp (by rfl) (by rfl) Res.nil) rfl
def slices_ContainsFunc_4 (a0:(List aRange)) (a1:aPrefix):Option (Bool) :=
 (slices_IndexFunc_4 a0 a1).bind fun r1 =>
 some (decide (0≤r1))
theorem slices_ContainsFunc_4_ac (a0:(List aRange)) (a1:aPrefix) (r:Bool) (h:slices_ContainsFunc_4 a0 a1=some r):AC Tryz.prog 107 [(.d (.list 6 (a0.map e_aRange))),(.func 108 [(pt 0)])] [(0,(.box 46 (.d (e_aPrefix a1))))] (.d (.bool r)) [(0,bd 46 (e_aPrefix a1))]:=by
 refine AC.of_code2 Tryz.func107 rfl rfl (Nat.le_of_ble_eq_true (by rfl)) fun B hB hN => ?_
 delta slices_ContainsFunc_4 at h
 refine sr (SQ tt) ?_
 apply AWp.seq
 obtain⟨r1,hr1,h⟩:=bindS h
 refine rg (SQ (fa (cl [(0,0)] (slices_IndexFunc_4_ac a0 a1 r1 hr1)) tt)) ?_
 apply seqQ_n
 refine AWp.ghost (mp [] [(4,(bo (decide (0≤r1))))] [(0,bd 46 (e_aPrefix a1))] hB) ?_
 apply AWp.ret
 obtain rfl:=oi h
 exact rt (kp [(4,_)] [(0,some _)] hB rfl rfl (by rfl)) [(bo (decide (0≤r1)))] (Res.tmp (by rfl) (by rfl) Res.nil) rfl
def resource_HasPrefix (a0:aResources) (a1:aPrefix):Option (Bool) :=
 (slices_ContainsFunc_4 a0.fAddrs a1).bind fun r1 =>
 some r1
theorem resource_HasPrefix_ac (a0:aResources) (a1:aPrefix) (r:Bool) (h:resource_HasPrefix a0 a1=some r):AC Tryz.prog 93 [(.d (e_aResources a0)),(.d (e_aPrefix a1))] [] (.d (.bool r)) []:=by
 refine AC.of_code2 Tryz.func93 rfl rfl (Nat.le_of_ble_eq_true (by rfl)) fun B hB hN => ?_
 delta resource_HasPrefix at h
 refine sr (SQ tt) ?_
 apply AWp.seq
 obtain⟨r1,hr1,h⟩:=bindS h
 refine AWp.region (oc (ov (.ptr 1002 0 [0]) (fp hN underlying57 0 tyS54 (.box 57 (.d (e_aResources a0))) (ot 2 (pt 1002))))
 (oc (lb hN 57 (.d (e_aResources a0)) (qe_aRange_6 a0.fAddrs) tyS54 (ad (.list 6 (a0.fAddrs.map e_aRange))) (ot 5 (.ptr 1002 0 [0])))
 (oc (OpJ.makeF (OpdL.cons (ot 3 (pt 1003)) OpdL.nil) rfl rfl (ltN hN rfl))
 (oc (OpJ.callFn hB fnOk107 (slices_ContainsFunc_4_ac a0.fAddrs a1 r1 hr1) [(0,1003)] (by kernel_rfl) (ltN hN rfl) (by kernel_rfl) (OpdL.cons (ot 6 (qe_aRange_6 a0.fAddrs)) (OpdL.cons (ot 7 (.func 108 [(pt 1003)])) OpdL.nil)))
 (oc (assign (ltN hN rfl) (ot 8 (bo r1)))
 (OpJs.nil)))))) (by rfl) (by rfl) ?_
 apply seqQ_n
 refine AWp.ghost (mp [] [(4,(bo r1))] [] hB) ?_
 apply AWp.ret
 obtain rfl:=oi h
 exact rt (kp [(4,_)] [] hB rfl rfl (by rfl)) [(bo r1)] (Res.tmp (by rfl) (by rfl) Res.nil) rfl
def origin_holds_1 (a0:aObject) (a1:aResources):Option (Bool) :=
 (resource_HasPrefix a1 a0.fPrefix).bind fun r1 =>
 some (!r1)
theorem origin_holds_1_ac (a0:aObject) (a1:aResources) (r:Bool) (h:origin_holds_1 a0 a1=some r):AC Tryz.prog 92 [(.d (e_aObject a0)),(pt 0)] [(0,(.box 57 (.d (e_aResources a1))))] (.d (.bool r)) [(0,bd 57 (e_aResources a1))]:=by
 refine AC.of_code2 Tryz.func92 rfl rfl (Nat.le_of_ble_eq_true (by rfl)) fun B hB hN => ?_
 delta origin_holds_1 at h
 refine sr (SQ tt) ?_
 obtain⟨r1,hr1,h⟩:=bindS h
 refine sr (SQ (fa (cl [] (resource_HasPrefix_ac a1 a0.fPrefix r1 hr1)) tt)) ?_
 apply AWp.ret
 obtain rfl:=oi h
 exact rt (kp [(3,_)] [(0,some _)] hB rfl rfl (by rfl)) [(bo (!r1))] (Res.tmp (by rfl) (by rfl) Res.nil) rfl
def slices_IndexFunc_3_L0 (a0:(List aObject)) (a1:aResources) (s1:Int):Option (((Int)⊕(Unit))⊕(Int)) :=
 (if (decide (s1<(a0.length:Int)))=true then
 (idx a0 s1).bind fun x13 =>
 (origin_holds_1 x13 a1).bind fun r14 =>
 (if r14=true then
 some (.inl (.inl s1))
 else
 some (.inr (w64 (s1+1))))
 else
 some (.inl (.inr ())))
def slices_IndexFunc_3 (a0:(List aObject)) (a1:aResources):Option (Int) :=
 (loop (slices_IndexFunc_3_L0 a0 a1) 0).bind fun x16=>match x16 with
 | (.inl p10) =>
  some p10
 | (.inr _) =>
  some (-1)
theorem slices_IndexFunc_3_ac (a0:(List aObject)) (a1:aResources) (r:Int) (h:slices_IndexFunc_3 a0 a1=some r):AC Tryz.prog 106 [(.d (.list 6 (a0.map e_aObject))),(.func 92 [(pt 0)])] [(0,(.box 57 (.d (e_aResources a1))))] (.d (.int .i64 r)) [(0,bd 57 (e_aResources a1))]:=by
 refine AC.of_code2 Tryz.func106 rfl rfl (Nat.le_of_ble_eq_true (by rfl)) fun B hB hN => ?_
 delta slices_IndexFunc_3 at h
 refine sr (SQ tt) ?_
 apply AWp.seq
 refine sr (SQ tt) ?_
 apply AWp.block
 obtain⟨x16,hx17,h⟩:=bindS h
 refine lg (slices_IndexFunc_3_L0 a0 a1) (fun s1:Int=>([(0,(qe_aObject_6 a0)),(1,(.func 92 [(pt 0)])),(7,(i6 (a0.length:Int))),(8,(i6 s1))]:EL)) (fun s1:Int=>([(0,bd 57 (e_aResources a1))]:OL)) (fun(x:(Int)⊕(Unit)) e E' O'=>match x with | (.inl p10)=>e = .ret∧Mat B E' O' ([(4,(i6 p10))]:EL) ([(0,bd 57 (e_aResources a1))]:OL) | (.inr _p)=>e = .exit 0∧Mat B E' O' ([]:EL) ([(0,bd 57 (e_aResources a1))]:OL)) hx17 (mp [] _ _ hB) (fun s1 y h => ?_) (fun e E' O' hR => ?_)
 ·unfold slices_IndexFunc_3_L0 at h
  refine sr (SQ tt) ?_
  apply AWp.seq
  apply AWp.cond rfl<;>intro hg12
  ·have h:=ite_t hg12 h
   apply AWp.skip
   apply seqQ_n
   apply AWp.seq
   apply AWp.block
   refine sr (SQ tt) ?_
   apply AWp.seq
   obtain⟨x13,hx13,h⟩:=bindS h
   obtain⟨r14,hr14,h⟩:=bindS h
   refine rg (SQ (fa hx13 (fa (cl [(0,0)] (origin_holds_1_ac x13 a1 r14 hr14)) tt))) ?_
   apply seqQ_n
   refine AWp.ghost (mp [] [(0,(qe_aObject_6 a0)),(1,(.func 92 [(pt 0)])),(5,(i6 s1)),(7,(i6 (a0.length:Int))),(8,(i6 s1)),(16,(bo r14))] [(0,bd 57 (e_aResources a1))] hB) ?_
   apply AWp.cond rfl<;>intro hg15
   ·have h:=ite_t hg15 h
    refine sr (SQ tt) ?_
    apply AWp.ret
    apply blkQ_r
    apply seqQ_r
    obtain rfl:=oi h
    exact⟨(fun hc=>by cases hc),rfl,(mp [] _ _ hB)⟩
   ·have h:=ite_f hg15 h
    apply AWp.skip
    apply blkQ_n
    apply seqQ_n
    refine rg (SQ tt) ?_
    obtain rfl:=oi h
    exact⟨rfl,(mp [] _ _ hB)⟩
  ·have h:=ite_f hg12 h
   apply AWp.exit
   apply seqQ_e
   obtain rfl:=oi h
   exact⟨(fun hc=>by cases hc),rfl,(mp [] _ _ hB)⟩
 ·rcases x16 with p10 | _
  ·obtain⟨rfl,hmat⟩:=hR
   apply blkQ_r
   apply seqQ_r
   obtain rfl:=oi h
   exact rt (Mat.trans hmat (mp [] [(4,(i6 p10))] [(0,bd 57 (e_aResources a1))] hB)) [(i6 p10)] (Res.tmp (by rfl) (by rfl) Res.nil) rfl
  ·obtain⟨rfl,hmat⟩:=hR
   apply blkQ_hit
   apply seqQ_n
   refine AWp.ghost hmat ?_
   refine sr (SQ tt) ?_
   apply AWp.ret
   obtain rfl:=oi h
   exact rt (kp [(4,_)] [(0,some _)] hB rfl rfl (by rfl)) [(i6 (-1))] (Res.tmp (by rfl) (by rfl) Res.nil) rfl
def slices_ContainsFunc_3 (a0:(List aObject)) (a1:aResources):Option (Bool) :=
 (slices_IndexFunc_3 a0 a1).bind fun r1 =>
 some (decide (0≤r1))
theorem slices_ContainsFunc_3_ac (a0:(List aObject)) (a1:aResources) (r:Bool) (h:slices_ContainsFunc_3 a0 a1=some r):AC Tryz.prog 91 [(.d (.list 6 (a0.map e_aObject))),(.func 92 [(pt 0)])] [(0,(.box 57 (.d (e_aResources a1))))] (.d (.bool r)) [(0,bd 57 (e_aResources a1))]:=by
 refine AC.of_code2 Tryz.func91 rfl rfl (Nat.le_of_ble_eq_true (by rfl)) fun B hB hN => ?_
 delta slices_ContainsFunc_3 at h
 refine sr (SQ tt) ?_
 apply AWp.seq
 obtain⟨r1,hr1,h⟩:=bindS h
 refine rg (SQ (fa (cl [(0,0)] (slices_IndexFunc_3_ac a0 a1 r1 hr1)) tt)) ?_
 apply seqQ_n
 refine AWp.ghost (mp [] [(4,(bo (decide (0≤r1))))] [(0,bd 57 (e_aResources a1))] hB) ?_
 apply AWp.ret
 obtain rfl:=oi h
 exact rt (kp [(4,_)] [(0,some _)] hB rfl rfl (by rfl)) [(bo (decide (0≤r1)))] (Res.tmp (by rfl) (by rfl) Res.nil) rfl
def origin_holds (a0:aResources) (a1:aSigned):Option (Bool) :=
 (slices_ContainsFunc_3 a1.fObjects a0).bind fun r1 =>
 some (!r1)
theorem origin_holds_ac (a0:aResources) (a1:aSigned) (r:Bool) (h:origin_holds a0 a1=some r):AC Tryz.prog 72 [(.d (e_aResources a0)),(.d (e_aSigned a1))] [] (.d (.bool r)) []:=by
 refine AC.of_code2 Tryz.func72 rfl rfl (Nat.le_of_ble_eq_true (by rfl)) fun B hB hN => ?_
 delta origin_holds at h
 refine sr (SQ tt) ?_
 apply AWp.seq
 obtain⟨r1,hr1,h⟩:=bindS h
 refine AWp.region (oc (ov (.ptr 1003 4 [4]) (fp hN underlying66 4 tyS38 (.box 66 (.d (e_aSigned a1))) (ot 3 (pt 1003))))
 (oc (lb hN 66 (.d (e_aSigned a1)) (qe_aObject_6 a1.fObjects) tyS38 (ad (.list 6 (a1.fObjects.map e_aObject))) (ot 5 (.ptr 1003 4 [4])))
 (oc (OpJ.makeF (OpdL.cons (ot 2 (pt 1002)) OpdL.nil) rfl rfl (ltN hN rfl))
 (oc (OpJ.callFn hB fnOk91 (slices_ContainsFunc_3_ac a1.fObjects a0 r1 hr1) [(0,1002)] (by kernel_rfl) (ltN hN rfl) (by kernel_rfl) (OpdL.cons (ot 6 (qe_aObject_6 a1.fObjects)) (OpdL.cons (ot 7 (.func 92 [(pt 1002)])) OpdL.nil)))
 (oc (OpJ.not (ltN hN rfl) (ot 8 (bo r1)))
 (oc (assign (ltN hN rfl) (ot 9 (bo (!r1))))
 (OpJs.nil))))))) (by rfl) (by rfl) ?_
 apply seqQ_n
 refine AWp.ghost (mp [] [(4,(bo (!r1)))] [] hB) ?_
 apply AWp.ret
 obtain rfl:=oi h
 exact rt (kp [(4,_)] [] hB rfl rfl (by rfl)) [(bo (!r1))] (Res.tmp (by rfl) (by rfl) Res.nil) rfl
def origin_explain_L0 (a0:(List aCert)) (a1:(List Bool)) (a2:aSigned) (s5:Int×Int):Option (((Unit)⊕(Int))⊕(Int×Int)) :=
 (if (decide (s5.2<(a0.length:Int)))=true then
 (idx a0 s5.2).bind fun x41 =>
 jn (fun m48:Int =>
 some (.inr (m48,(w64 (s5.2+1))))) (fun j49 =>
 (if (x41.fKey != a2.fKey)=true then
 j49 s5.1
 else
 (idx a1 s5.2).bind fun x51 =>
 (if (!x51)=true then
 (if (s5.1==11)=true then
 j49 16
 else
 j49 s5.1)
 else
 (origin_holds x41.fResources a2).bind fun r54 =>
 (if (!r54)=true then
 j49 17
 else
 some (.inl (.inl ()))))))
 else
 some (.inl (.inr s5.1)))
def origin_explain (a0:(List aCert)) (a1:(List Bool)) (a2:aSigned) (a3:Int):Option (Int) :=
 (origin_formed a2).bind fun r1 =>
 (if (!r1)=true then
 some 1
 else
 (origin_current a2.fFrom a2.fUntil a3).bind fun r3 =>
 (if (!r3)=true then
 some 14
 else
 (loop (origin_explain_L0 a0 a1 a2) (11,0)).bind fun x56=>match x56 with
 | (.inl _) =>
  some 0
 | (.inr p39) =>
  some p39))
theorem origin_explain_ac (a0:(List aCert)) (a1:(List Bool)) (a2:aSigned) (a3:Int) (r:Int) (h:origin_explain a0 a1 a2 a3=some r):AC Tryz.prog 41 [(.d (.list 6 (a0.map e_aCert))),(.d (.list 1 (a1.map eB))),(.d (e_aSigned a2)),(.d (.int .i64 a3))] [] (.d (.int .i64 r)) []:=by
 refine ac2 Tryz.func41 rfl rfl fun B hB hN L => ?_
 delta origin_explain at h
 refine sr (SQ tt) ?_
 apply AWp.seq
 apply AWp.block
 obtain⟨r1,hr1,h⟩:=bindS h
 refine sr (SQ (fa (cl [] (origin_formed_ac a2 r1 hr1)) tt)) ?_
 apply AWp.cond rfl<;>intro hg2
 ·have h:=ite_t hg2 h
  refine sr (SQ tt) ?_
  apply AWp.ret
  apply blkQ_r
  apply seqQ_r
  obtain rfl:=oi h
  exact rt (kp [(8,_)] [] hB rfl rfl (by rfl)) [(i6 1)] (Res.tmp (by rfl) (by rfl) Res.nil) rfl
 ·have h:=ite_f hg2 h
  obtain⟨r3,hr3,h⟩:=bindS h
  refine sr (SQ (fa (cl [] (origin_current_ac a2.fFrom a2.fUntil a3 r3 hr3)) tt)) ?_
  apply AWp.cond rfl<;>intro hg4
  ·have h:=ite_t hg4 h
   refine sr (SQ tt) ?_
   apply AWp.ret
   apply blkQ_r
   apply seqQ_r
   obtain rfl:=oi h
   exact rt (kp [(8,_)] [] hB rfl rfl (by rfl)) [(i6 14)] (Res.tmp (by rfl) (by rfl) Res.nil) rfl
  ·have h:=ite_f hg4 h
   apply AWp.skip
   apply blkQ_n
   apply seqQ_n
   refine sr (SQ tt) ?_
   apply AWp.seq
   refine sr (SQ tt) ?_
   apply AWp.block
   obtain⟨x56,hx57,h⟩:=bindS h
   refine lg (origin_explain_L0 a0 a1 a2) (fun s5:Int×Int=>([(1,(.d (.list 1 (a1.map eB)))),(6,(pt 1006)),(9,(i6 s5.1)),(24,(qe_aCert_6 a0)),(25,(i6 (a0.length:Int))),(26,(i6 s5.2))]:EL)) (fun s5:Int×Int=>([(1006,bd 66 (e_aSigned a2))]:OL)) (fun(x:(Unit)⊕(Int)) e E' O'=>match x with | (.inl _p)=>e = .ret∧Mat B E' O' ([(8,(i6 0))]:EL) ([]:OL) | (.inr p39)=>e = .exit 1∧Mat B E' O' ([(9,(i6 p39))]:EL) ([]:OL)) hx57 (mp [] _ _ hB) (fun s5 y h => ?_) (fun e E' O' hR => ?_)
   ·unfold origin_explain_L0 at h
    refine sr (SQ tt) ?_
    apply AWp.seq
    apply AWp.cond rfl<;>intro hg40
    ·have h:=ite_t hg40 h
     apply AWp.skip
     apply seqQ_n
     apply AWp.seq
     apply AWp.block
     obtain⟨x41,hx41,h⟩:=bindS h
     refine sr (SQ (fa hx41 tt)) ?_
     apply AWp.block
     refine sr (SQ tt) ?_
     refine gh [(1,_),(6,_),(9,_),(10,_),(11,_),(24,_),(25,_),(26,_),(31,_)] [(1006,some _),(1011,some _)] hB rfl rfl (by rfl) ?_
     refine AWp.cut h (fun m48:Int=>([(1,(.d (.list 1 (a1.map eB)))),(6,(pt 1006)),(9,(i6 m48)),(24,(qe_aCert_6 a0)),(25,(i6 (a0.length:Int))),(26,(i6 s5.2))]:EL)) (fun m48:Int=>([(1006,bd 66 (e_aSigned a2))]:OL)) (fun m48 h E' O' hmat => ?_) (fun j49 hjj49 h => ?_)
     ·apply blkQ_n
      apply blkQ_n
      apply seqQ_n
      refine AWp.ghost hmat ?_
      refine rg (SQ tt) ?_
      obtain rfl:=oi h
      exact⟨rfl,(mp [] _ _ hB)⟩
     ·apply AWp.cond rfl<;>intro hg50
      ·have h:=ite_t hg50 h
       apply AWp.skip
       exact hjj49 _ h _ _ (mp [] _ _ hB)
      ·have h:=ite_f hg50 h
       obtain⟨_,hx51,h⟩:=bindS h
       refine sr (SQ (fa hx51 tt)) ?_
       apply AWp.cond rfl<;>intro hg52
       ·have h:=ite_t hg52 h
        refine sr (SQ tt) ?_
        apply AWp.cond rfl<;>intro hg53
        ·have h:=ite_t hg53 h
         refine rg (SQ tt) ?_
         exact hjj49 _ h _ _ (mp [] _ _ hB)
        ·have h:=ite_f hg53 h
         apply AWp.skip
         exact hjj49 _ h _ _ (mp [] _ _ hB)
       ·have h:=ite_f hg52 h
        obtain⟨r54,hr54,h⟩:=bindS h
        refine sr (SQ (fa (cl [] (origin_holds_ac x41.fResources a2 r54 hr54)) tt)) ?_
        apply AWp.cond rfl<;>intro hg55
        ·have h:=ite_t hg55 h
         refine rg (SQ tt) ?_
         exact hjj49 _ h _ _ (mp [] _ _ hB)
        ·have h:=ite_f hg55 h
         refine sr (SQ tt) ?_
         apply AWp.ret
         apply blkQ_r
         apply blkQ_r
         apply seqQ_r
         obtain rfl:=oi h
         exact⟨(fun hc=>by cases hc),rfl,(mp [] _ _ hB)⟩
    ·have h:=ite_f hg40 h
     apply AWp.exit
     apply seqQ_e
     obtain rfl:=oi h
     exact⟨(fun hc=>by cases hc),rfl,(mp [] _ _ hB)⟩
   ·rcases x56 with _ | p39
    ·obtain⟨rfl,hmat⟩:=hR
     apply blkQ_r
     apply seqQ_r
     obtain rfl:=oi h
     exact rt (Mat.trans hmat (mp [] [(8,(i6 0))] [] hB)) [(i6 0)] (Res.tmp (by rfl) (by rfl) Res.nil) rfl
    ·obtain⟨rfl,hmat⟩:=hR
     apply blkQ_hit
     apply seqQ_n
     refine AWp.ghost hmat ?_
     refine sr (SQ tt) ?_
     apply AWp.ret
     obtain rfl:=oi h
     exact rt (kp [(8,_)] [] hB rfl rfl (by rfl)) [(i6 p39)] (Res.tmp (by rfl) (by rfl) Res.nil) rfl
def ext73_slices_Clone_R (a0:(List aObject)):Option (List aObject):=chk (decide (a0.length≤LIM)) <|
 some a0
theorem ext73_slices_Clone_R_ac (a0:(List aObject)) (r:List aObject) (h:ext73_slices_Clone_R a0=some r):AC Tryz.prog 73 [(.d (.list 6 (a0.map e_aObject)))] [] (.sref 900000 6 0 r.length) [(900000,some (.row 48 6 (r.map e_aObject)))]:=by
 obtain⟨hc,h⟩:=chk_some h
 obtain rfl:=oi h
 exact AC.cloneR cloneOk73 (by simp) (by rw [List.length_map];exact lim_mulN hc (by decide)) (map_sz (f:=e_aObject) (fun _=>rfl))
def prefix_Cmp (a0:aPrefix) (a1:aPrefix):Option (Int) :=
 (addr_Cmp a0.fAddr a1.fAddr).bind fun r1 =>
 (cmp_Compare a0.fLen a1.fLen).bind fun r2 =>
 (cmp_Or ([r1,r2]:List Int)).bind fun r3 =>
 some r3
theorem prefix_Cmp_ac (a0:aPrefix) (a1:aPrefix) (r:Int) (h:prefix_Cmp a0 a1=some r):AC Tryz.prog 97 [(.d (e_aPrefix a0)),(.d (e_aPrefix a1))] [] (.d (.int .i64 r)) []:=by
 refine AC.of_code2 Tryz.func97 rfl rfl (Nat.le_of_ble_eq_true (by rfl)) fun B hB hN => ?_
 delta prefix_Cmp at h
 refine sr (SQ tt) ?_
 obtain⟨r1,hr1,h⟩:=bindS h
 obtain⟨r2,hr2,h⟩:=bindS h
 obtain⟨r3,hr3,h⟩:=bindS h
 refine sdS (SQ (fa (cl [] (addr_Cmp_ac a0.fAddr a1.fAddr r1 hr1)) (fa (cl [] (cmp_Compare_ac a0.fLen a1.fLen r2 hr2)) (fa (cl [] (cmp_Or_ac ([r1,r2]:List Int) r3 hr3)) tt)))) ?_
 apply AWp.ret
 obtain rfl:=oi h
 exact rt (kp [(4,_)] [] hB rfl rfl (by rfl)) [(i6 r3)] (Res.tmp (by rfl) (by rfl) Res.nil) rfl
def irr_Compare (a0:aObject) (a1:aObject):Option (Int) :=
 (prefix_Cmp a0.fPrefix a1.fPrefix).bind fun r1 =>
 (cmp_Compare a0.fMax a1.fMax).bind fun r2 =>
 (cmp_Compare a0.fASN a1.fASN).bind fun r3 =>
 (cmp_Or ([r1,r2,r3]:List Int)).bind fun r4 =>
 some r4
theorem irr_Compare_ac (a0:aObject) (a1:aObject) (r:Int) (h:irr_Compare a0 a1=some r):AC Tryz.prog 75 [(.d (e_aObject a0)),(.d (e_aObject a1))] [] (.d (.int .i64 r)) []:=by
 refine AC.of_code2 Tryz.func75 rfl rfl (Nat.le_of_ble_eq_true (by rfl)) fun B hB hN => ?_
 delta irr_Compare at h
 refine sr (SQ tt) ?_
 obtain⟨r1,hr1,h⟩:=bindS h
 obtain⟨r2,hr2,h⟩:=bindS h
 obtain⟨r3,hr3,h⟩:=bindS h
 obtain⟨r4,hr4,h⟩:=bindS h
 refine sdS (SQ (fa (cl [] (prefix_Cmp_ac a0.fPrefix a1.fPrefix r1 hr1)) (fa (cl [] (cmp_Compare_ac a0.fMax a1.fMax r2 hr2)) (fa (cl [] (cmp_Compare_ac a0.fASN a1.fASN r3 hr3)) (fa (cl [] (cmp_Or_ac ([r1,r2,r3]:List Int) r4 hr4)) tt))))) ?_
 apply AWp.ret
 obtain rfl:=oi h
 exact rt (kp [(4,_)] [] hB rfl rfl (by rfl)) [(i6 r4)] (Res.tmp (by rfl) (by rfl) Res.nil) rfl
def ext74_slices_SortFunc_irr_Compare (a0:(List aObject)):Option (List aObject):=sortF a0 fun x y=>irr_Compare x y
theorem ext74_slices_SortFunc_irr_Compare_ac (a0:(List aObject)) (r:List aObject) (h:ext74_slices_SortFunc_irr_Compare a0=some r):AC Tryz.prog 74 [(.sref 0 6 0 a0.length),.func 75 []] [(0,(.row 48 6 (a0.map e_aObject)))] (.tup []) [(0,some (.row 48 6 (r.map e_aObject)))] :=
 AC.sortF e_aObject (fun x y=>irr_Compare x y) a0 r h sortOk74 fnOk75 (fun _=>rfl) rfl rfl (fun x y c hc=>irr_Compare_ac x y c hc)
def slices_Compact_L1 (a0:(List aObject)) (s2:Int) (s146:Int×Int×(List aObject)):Option (((Int×(List aObject)))⊕(Int×Int×(List aObject))) :=
 (if (decide (s146.2.1<(((a0.length-s2.toNat):Nat):Int)))=true then
 (idx ((s146.2.2.drop s2.toNat).take (a0.length-s2.toNat)) s146.2.1).bind fun x183 =>
 (idx ((s146.2.2.drop s2.toNat).take (a0.length-s2.toNat)) s146.2.1).bind fun x184 =>
 (idx ((s146.2.2.drop s2.toNat).take (a0.length-s2.toNat)) (w64 (s146.2.1-1))).bind fun x185 =>
 (idx ((s146.2.2.drop s2.toNat).take (a0.length-s2.toNat)) (w64 (s146.2.1-1))).bind fun x186 =>
 jn (fun m192:Int×(List aObject) =>
 some (.inr (m192.1,(w64 (s146.2.1+1)),m192.2))) (fun j193 =>
 (if (!((((x184.fPrefix.fAddr.fV6==x186.fPrefix.fAddr.fV6)&&((x184.fPrefix.fAddr.fHi==x186.fPrefix.fAddr.fHi)&&((x184.fPrefix.fAddr.fLo==x186.fPrefix.fAddr.fLo)&&true)))&&((x184.fPrefix.fLen==x186.fPrefix.fLen)&&true))&&((x184.fMax==x186.fMax)&&((x184.fASN==x186.fASN)&&true))))=true then
 (idx ((s146.2.2.drop s2.toNat).take (a0.length-s2.toNat)) s146.2.1).bind fun x195 =>
 (idx ((s146.2.2.drop s2.toNat).take (a0.length-s2.toNat)) s146.2.1).bind fun x196 =>
 (idx s146.2.2 s146.1).bind fun x197 =>
 (idx s146.2.2 s146.1).bind fun x198 =>
 j193 ((w64 (s146.1+1)),(s146.2.2.set s146.1.toNat x196))
 else
 j193 (s146.1,s146.2.2)))
 else
 some (.inl (s146.1,s146.2.2)))
def slices_Compact_L0 (a0:(List aObject)) (s2:Int):Option ((((List aObject))⊕(Unit))⊕(Int)) :=
 (if (decide (s2<(a0.length:Int)))=true then
 (idx a0 s2).bind fun x140 =>
 (idx a0 s2).bind fun x141 =>
 (idx a0 (w64 (s2-1))).bind fun x142 =>
 (idx a0 (w64 (s2-1))).bind fun x143 =>
 (if ((((x141.fPrefix.fAddr.fV6==x143.fPrefix.fAddr.fV6)&&((x141.fPrefix.fAddr.fHi==x143.fPrefix.fAddr.fHi)&&((x141.fPrefix.fAddr.fLo==x143.fPrefix.fAddr.fLo)&&true)))&&((x141.fPrefix.fLen==x143.fPrefix.fLen)&&true))&&((x141.fMax==x143.fMax)&&((x141.fASN==x143.fASN)&&true)))=true then
 chk ((decide (0≤s2)&&decide (s2.toNat≤a0.length)&&decide (a0.length≤a0.length))) <|
 (loop (slices_Compact_L1 a0 s2) (s2,1,a0)).bind fun p181 =>
 chk ((decide (0≤p181.1)&&decide (p181.1.toNat≤p181.2.length)&&decide (p181.2.length≤p181.2.length))) <|
 chk (decide (p181.1.toNat+(p181.2.length-p181.1.toNat)≤p181.2.length)) <|
 chk ((decide (0≤p181.1)&&decide (0≤p181.1.toNat)&&decide (p181.1.toNat≤p181.2.length))) <|
 chk (decide (p181.1.toNat≤(p181.2.take p181.1.toNat++List.replicate (p181.2.length-p181.1.toNat) (aObject.mk (aPrefix.mk (aAddr.mk false 0 0) 0) 0 0)++p181.2.drop (p181.1.toNat+(p181.2.length-p181.1.toNat))).length)) <|
 some (.inl (.inl ((p181.2.take p181.1.toNat++List.replicate (p181.2.length-p181.1.toNat) (aObject.mk (aPrefix.mk (aAddr.mk false 0 0) 0) 0 0)++p181.2.drop (p181.1.toNat+(p181.2.length-p181.1.toNat))).take p181.1.toNat)))
 else
 some (.inr (w64 (s2+1))))
 else
 some (.inl (.inr ())))
def slices_Compact (a0:(List aObject)):Option ((List aObject)) :=
 (if (decide ((a0.length:Int)<2))=true then
 some a0
 else
 (loop (slices_Compact_L0 a0) 1).bind fun x205=>match x205 with
 | (.inl p137) =>
  some p137
 | (.inr _) =>
  some a0)
theorem slices_Compact_ac (a0:(List aObject)) (r:(List aObject)) (h:slices_Compact a0=some r):AC Tryz.prog 76 [(.sref 0 6 0 a0.length)] [(0,(.row 48 6 (a0.map e_aObject)))] (.d (.list 6 (r.map e_aObject))) [(0,none)]:=by
 refine ac2 Tryz.func76 rfl rfl fun B hB hN L => ?_
 delta slices_Compact at h
 refine sr (SQ tt) ?_
 apply AWp.seq
 refine sr (SQ tt) ?_
 apply AWp.cond rfl<;>intro hg1
 ·have h:=ite_t hg1 h
  refine sr (SQ tt) ?_
  apply AWp.ret
  apply seqQ_r
  obtain rfl:=oi h
  exact rt (Mat.trans (Mat.freezeP (n:=0) (e:=48) (sz:=6) (es:=a0.map e_aObject) (Ts:=[(2,(qe_aObject_6 a0))]) (Bs:=[]) (by rfl) (TwT.cons (x:=(.sref 0 6 0 a0.length)) (by rfl) (FrzL.all (by first | rfl | (simp;done) | (simp;omega) | omega)) TwT.nil) TwB.nil) (mp [] [(2,(qe_aObject_6 a0))] [] hB)) [(qe_aObject_6 a0)] (Res.tmp (by rfl) (by rfl) Res.nil) rfl
 ·have h:=ite_f hg1 h
  apply AWp.skip
  apply seqQ_n
  apply AWp.seq
  refine sr (SQ tt) ?_
  apply AWp.block
  obtain⟨x205,hx206,h⟩:=bindS h
  refine lg (slices_Compact_L0 a0) (fun s2:Int=>([(0,(.sref 0 6 0 a0.length)),(3,(i6 s2))]:EL)) (fun s2:Int=>([(0,some (we_aObject_48_6 a0))]:OL)) (fun(x:((List aObject))⊕(Unit)) e E' O'=>match x with | (.inl p137)=>e = .ret∧Mat B E' O' ([(2,(.sref 0 6 0 p137.length))]:EL) ([(0,some (we_aObject_48_6 p137))]:OL) | (.inr _p)=>e = .exit 0∧Mat B E' O' ([(0,(.sref 0 6 0 a0.length))]:EL) ([(0,some (we_aObject_48_6 a0))]:OL)) hx206 (mp [] _ _ hB) (fun s2 y h => ?_) (fun e E' O' hR => ?_)
  ·unfold slices_Compact_L0 at h
   apply AWp.seq
   refine sr (SQ tt) ?_
   apply AWp.cond rfl<;>intro hg139
   ·have h:=ite_t hg139 h
    apply AWp.skip
    apply seqQ_n
    apply AWp.seq
    apply AWp.block
    obtain⟨_,hx140,h⟩:=bindS h
    obtain⟨x141,hx141,h⟩:=bindS h
    obtain⟨_,hx142,h⟩:=bindS h
    obtain⟨x143,hx143,h⟩:=bindS h
    apply sd (c (mv hN (q 0)) rfl (c (mv hN (q 3)) rfl (c (OpJ.val (v':=(.ptr 0 (s2.toNat*6) [s2.toNat])) (by simp) (indexS underlying38 tyS48 (idx_some hx140).1 (by have:=idx_lt hx140;first | (simpa using this) | ((try simp only [List.length_map] at this);(try simp only [List.length_map]);omega)) (L rfl) (q 16) (q 17))) rfl (c (loadR (e:=48) (sz:=6) tyS48 (get_map e_aObject (idx_some hx141).2) (o:=0) (At.here _) (by rfl) (by rfl) (by rfl) (L rfl) (q 18)) rfl (c (mv hN (q 0)) rfl (c (mv hN (q 3)) rfl (c (sub6 (L rfl) (q 21) (ii 1)) rfl (c (OpJ.val (v':=(.ptr 0 ((w64 (s2-1)).toNat*6) [(w64 (s2-1)).toNat])) (by simp) (indexS underlying38 tyS48 (idx_some hx142).1 (by have:=idx_lt hx142;first | (simpa using this) | ((try simp only [List.length_map] at this);(try simp only [List.length_map]);omega)) (L rfl) (q 20) (q 22))) rfl (c (loadR (e:=48) (sz:=6) tyS48 (get_map e_aObject (idx_some hx143).2) (o:=0) (At.here _) (by rfl) (by rfl) (by rfl) (L rfl) (q 23)) rfl (c (OpJ.eqlD (h:=4) (FitE.st underlying48 rfl held48 (FitF.cons (x:=(e_aPrefix x141.fPrefix)) (y:=(e_aPrefix x143.fPrefix)) (by decide) rfl tyS46 ⟨rfl,rfl⟩ ⟨rfl,rfl⟩ (FitE.st underlying46 rfl held46 (FitF.cons (x:=(e_aAddr x141.fPrefix.fAddr)) (y:=(e_aAddr x143.fPrefix.fAddr)) (by decide) rfl tyS44 ⟨rfl,rfl⟩ ⟨rfl,rfl⟩ (FitE.st underlying44 rfl held44 (FitF.cons (x:=(.bool x141.fPrefix.fAddr.fV6)) (y:=(.bool x143.fPrefix.fAddr.fV6)) (by decide) rfl tyS4 ⟨rfl,rfl⟩ ⟨rfl,rfl⟩ (FitE.bool (h:=0) x141.fPrefix.fAddr.fV6 x143.fPrefix.fAddr.fV6 underlying4) (FitF.cons (x:=(.int .u64 x141.fPrefix.fAddr.fHi)) (y:=(.int .u64 x143.fPrefix.fAddr.fHi)) (by decide) rfl tyS42 ⟨rfl,rfl⟩ ⟨rfl,rfl⟩ (FitE.int (h:=0) x141.fPrefix.fAddr.fHi x143.fPrefix.fAddr.fHi underlying42) (FitF.cons (x:=(.int .u64 x141.fPrefix.fAddr.fLo)) (y:=(.int .u64 x143.fPrefix.fAddr.fLo)) (by decide) rfl tyS42 ⟨rfl,rfl⟩ ⟨rfl,rfl⟩ (FitE.int (h:=0) x141.fPrefix.fAddr.fLo x143.fPrefix.fAddr.fLo underlying42) FitF.nil)))) (FitF.cons (x:=(.int .i64 x141.fPrefix.fLen)) (y:=(.int .i64 x143.fPrefix.fLen)) (by decide) rfl tyS3 ⟨rfl,rfl⟩ ⟨rfl,rfl⟩ (FitE.int (h:=1) x141.fPrefix.fLen x143.fPrefix.fLen underlying3) FitF.nil))) (FitF.cons (x:=(.int .i64 x141.fMax)) (y:=(.int .i64 x143.fMax)) (by decide) rfl tyS3 ⟨rfl,rfl⟩ ⟨rfl,rfl⟩ (FitE.int (h:=2) x141.fMax x143.fMax underlying3) (FitF.cons (x:=(.int .i64 x141.fASN)) (y:=(.int .i64 x143.fASN)) (by decide) rfl tyS3 ⟨rfl,rfl⟩ ⟨rfl,rfl⟩ (FitE.int (h:=2) x141.fASN x143.fASN underlying3) FitF.nil)))) eqg48 ⟨rfl,rfl⟩ (by rfl) (L rfl) (q 19) (q 24)) rfl cn)))))))))) (by kernel_rfl) (by kernel_rfl)
    apply AWp.cond rfl<;>intro hg144
    ·have h:=ite_t hg144 h
     obtain⟨hc145,h⟩:=chk_some h
     have hc145_o:=hc145
     simp only [Bool.and_eq_true,decide_eq_true_eq] at hc145_o
     apply sr (c (mv hN (q 0)) rfl (c (mv hN (q 3)) rfl (c (OpJ.cutS underlying38 tyS48 (l:=s2.toNat) (h:=a0.length) (off':=s2.toNat) (len':=(a0.length-s2.toNat)) (.inr ⟨_,_,_,rfl,(ot 27 (i6 s2)),(of_decide_eq_true (and_l2 (and_l2 hc145))),rfl⟩) (.inl ⟨rfl,rfl,rfl⟩) (of_decide_eq_true (and_r2 (and_l2 hc145))) (of_decide_eq_true (and_r2 hc145)) (by simp) (by simp) (L rfl) (q 26)) rfl (c (assign (L rfl) (q 28)) rfl cn))))
     apply AWp.seq
     refine sr (SQ tt) ?_
     apply AWp.block
     obtain⟨p181,hx200,h⟩:=bindS h
     refine lg (slices_Compact_L1 a0 s2) (fun s146:Int×Int×(List aObject)=>([(0,(.sref 0 6 0 s146.2.2.length)),(3,(i6 s146.1)),(4,(.sref 0 6 s2.toNat (a0.length-s2.toNat))),(5,(i6 s146.2.1))]:EL)) (fun s146:Int×Int×(List aObject)=>([(0,some (we_aObject_48_6 s146.2.2))]:OL)) (fun(p181:(Int×(List aObject))) e E' O'=>e = .exit 2∧Mat B E' O' ([(0,(.sref 0 6 0 p181.2.length)),(3,(i6 p181.1))]:EL) ([(0,some (we_aObject_48_6 p181.2))]:OL)) hx200 (mp [] _ _ hB) (fun s146 y h => ?_) (fun e E' O' hR => ?_)
     ·unfold slices_Compact_L1 at h
      apply AWp.seq
      refine sr (SQ tt) ?_
      apply AWp.cond rfl<;>intro hg182
      ·have h:=ite_t hg182 h
       apply AWp.skip
       apply seqQ_n
       apply AWp.seq
       apply AWp.block
       obtain⟨_,hx183,h⟩:=bindS h
       obtain⟨x184,hx184,h⟩:=bindS h
       obtain⟨_,hx185,h⟩:=bindS h
       obtain⟨x186,hx186,h⟩:=bindS h
       apply sd (c (mv hN (q 4)) rfl (c (mv hN (q 5)) rfl (c (indexS underlying38 tyS48 (idx_cut_lt hx183).1 (idx_cut_lt hx183).2 (L rfl) (q 35) (q 36)) rfl (c (loadR (e:=48) (sz:=6) tyS48 (get_map e_aObject (idx_cut_at hx184)) (o:=0) (At.here _) (by rfl) (by rfl) (by rfl) (L rfl) (q 37)) rfl (c (mv hN (q 4)) rfl (c (mv hN (q 5)) rfl (c (sub6 (L rfl) (q 40) (ii 1)) rfl (c (indexS underlying38 tyS48 (idx_cut_lt hx185).1 (idx_cut_lt hx185).2 (L rfl) (q 39) (q 41)) rfl (c (loadR (e:=48) (sz:=6) tyS48 (get_map e_aObject (idx_cut_at hx186)) (o:=0) (At.here _) (by rfl) (by rfl) (by rfl) (L rfl) (q 42)) rfl (c (OpJ.neqD (h:=4) (FitE.st underlying48 rfl held48 (FitF.cons (x:=(e_aPrefix x184.fPrefix)) (y:=(e_aPrefix x186.fPrefix)) (by decide) rfl tyS46 ⟨rfl,rfl⟩ ⟨rfl,rfl⟩ (FitE.st underlying46 rfl held46 (FitF.cons (x:=(e_aAddr x184.fPrefix.fAddr)) (y:=(e_aAddr x186.fPrefix.fAddr)) (by decide) rfl tyS44 ⟨rfl,rfl⟩ ⟨rfl,rfl⟩ (FitE.st underlying44 rfl held44 (FitF.cons (x:=(.bool x184.fPrefix.fAddr.fV6)) (y:=(.bool x186.fPrefix.fAddr.fV6)) (by decide) rfl tyS4 ⟨rfl,rfl⟩ ⟨rfl,rfl⟩ (FitE.bool (h:=0) x184.fPrefix.fAddr.fV6 x186.fPrefix.fAddr.fV6 underlying4) (FitF.cons (x:=(.int .u64 x184.fPrefix.fAddr.fHi)) (y:=(.int .u64 x186.fPrefix.fAddr.fHi)) (by decide) rfl tyS42 ⟨rfl,rfl⟩ ⟨rfl,rfl⟩ (FitE.int (h:=0) x184.fPrefix.fAddr.fHi x186.fPrefix.fAddr.fHi underlying42) (FitF.cons (x:=(.int .u64 x184.fPrefix.fAddr.fLo)) (y:=(.int .u64 x186.fPrefix.fAddr.fLo)) (by decide) rfl tyS42 ⟨rfl,rfl⟩ ⟨rfl,rfl⟩ (FitE.int (h:=0) x184.fPrefix.fAddr.fLo x186.fPrefix.fAddr.fLo underlying42) FitF.nil)))) (FitF.cons (x:=(.int .i64 x184.fPrefix.fLen)) (y:=(.int .i64 x186.fPrefix.fLen)) (by decide) rfl tyS3 ⟨rfl,rfl⟩ ⟨rfl,rfl⟩ (FitE.int (h:=1) x184.fPrefix.fLen x186.fPrefix.fLen underlying3) FitF.nil))) (FitF.cons (x:=(.int .i64 x184.fMax)) (y:=(.int .i64 x186.fMax)) (by decide) rfl tyS3 ⟨rfl,rfl⟩ ⟨rfl,rfl⟩ (FitE.int (h:=2) x184.fMax x186.fMax underlying3) (FitF.cons (x:=(.int .i64 x184.fASN)) (y:=(.int .i64 x186.fASN)) (by decide) rfl tyS3 ⟨rfl,rfl⟩ ⟨rfl,rfl⟩ (FitE.int (h:=2) x184.fASN x186.fASN underlying3) FitF.nil)))) eqg48 ⟨rfl,rfl⟩ (by rfl) (L rfl) (q 38) (q 43)) rfl cn)))))))))) (by kernel_rfl) (by kernel_rfl)
       refine gh [(0,_),(3,_),(4,_),(5,_),(44,_)] [(0,some _)] hB rfl rfl (by rfl) ?_
       refine AWp.cut h (fun m192:Int×(List aObject)=>([(0,(.sref 0 6 0 m192.2.length)),(3,(i6 m192.1)),(4,(.sref 0 6 s2.toNat (a0.length-s2.toNat))),(5,(i6 s146.2.1))]:EL)) (fun m192:Int×(List aObject)=>([(0,some (we_aObject_48_6 m192.2))]:OL)) (fun m192 h E' O' hmat => ?_) (fun j193 hjj193 h => ?_)
       ·apply blkQ_n
        apply seqQ_n
        refine AWp.ghost hmat ?_
        refine rg (SQ tt) ?_
        obtain rfl:=oi h
        exact⟨rfl,(mp [] _ _ hB)⟩
       ·apply AWp.cond rfl<;>intro hg194
        ·have h:=ite_t hg194 h
         obtain⟨_,hx195,h⟩:=bindS h
         obtain⟨x196,hx196,h⟩:=bindS h
         obtain⟨_,hx197,h⟩:=bindS h
         obtain⟨_,hx198,h⟩:=bindS h
         refine sr (SQ (fa hx195 (fa hx196 (fa hx197 (fa hx198 (fa (sv x196) tt)))))) ?_
         refine rg (SQ tt) ?_
         exact hjj193 _ h _ _ (Mat.trans (mp [] [(0,(.sref 0 6 0 s146.2.2.length)),(3,(i6 (w64 (s146.1+1)))),(4,(.sref 0 6 s2.toNat (a0.length-s2.toNat))),(5,(i6 s146.2.1))] [(0,some (we_aObject_48_6 (s146.2.2.set s146.1.toNat x196)))] hB) (Mat.trans (Mat.lenP (Ts:=[(0,(.sref 0 6 0 ((s146.2.2.set s146.1.toNat x196).length)))]) (Bs:=[]) (TwT.cons (x:=(.sref 0 6 0 s146.2.2.length)) (by rfl) (Tw.leaf ⟨_,_,_,_,_,rfl,rfl,(by first | rfl | (simp;done) | (simp;omega) | omega)⟩) TwT.nil) TwB.nil) (mp [] _ _ hB)))
        ·have h:=ite_f hg194 h
         apply AWp.skip
         exact hjj193 _ h _ _ (mp [] _ _ hB)
      ·have h:=ite_f hg182 h
       apply AWp.exit
       apply seqQ_e
       obtain rfl:=oi h
       exact⟨(fun hc=>by cases hc),rfl,(mp [] _ _ hB)⟩
     ·obtain⟨rfl,hmat⟩:=hR
      apply blkQ_hit
      apply seqQ_n
      refine AWp.ghost hmat ?_
      obtain⟨hc201,h⟩:=chk_some h
      have hc201_o:=hc201
      simp only [Bool.and_eq_true,decide_eq_true_eq] at hc201_o
      obtain⟨hc202,h⟩:=chk_some h
      have hc202_o:=hc202
      simp only [Bool.and_eq_true,decide_eq_true_eq] at hc202_o
      apply sr (c (mv hN (q 0)) rfl (c (mv hN (q 3)) rfl (c (OpJ.cutS underlying38 tyS48 (l:=p181.1.toNat) (h:=p181.2.length) (off':=p181.1.toNat) (len':=(p181.2.length-p181.1.toNat)) (.inr ⟨_,_,_,rfl,(ot 55 (i6 p181.1)),(of_decide_eq_true (and_l2 (and_l2 hc201))),rfl⟩) (.inl ⟨rfl,rfl,rfl⟩) (of_decide_eq_true (and_r2 (and_l2 hc201))) (of_decide_eq_true (and_r2 hc201)) (by simp) (by simp) (L rfl) (q 54)) rfl (cg (OpJ.clearS (e:=48) (z:=(.st [(.st [(.st [(.bool false),(.int .u64 0),(.int .u64 0)]),(.int .i64 0)]),(.int .i64 0),(.int .i64 0)])) (es:=p181.2.map e_aObject) (es':=(p181.2.take p181.1.toNat++List.replicate (p181.2.length-p181.1.toNat) (aObject.mk (aPrefix.mk (aAddr.mk false 0 0) 0) 0 0)++p181.2.drop (p181.1.toNat+(p181.2.length-p181.1.toNat))).map e_aObject) underlying38 tyZD48 (by rfl) (by decide) (by rw [List.length_map];exact of_decide_eq_true hc202) (by simp only [List.map_append,List.map_take,List.map_drop,List.map_replicate];rfl) (q 56)) rfl cn))))
      obtain⟨hc203,h⟩:=chk_some h
      have hc203_o:=hc203
      simp only [Bool.and_eq_true,decide_eq_true_eq] at hc203_o
      obtain⟨hc204,h⟩:=chk_some h
      have hc204_o:=hc204
      simp only [Bool.and_eq_true,decide_eq_true_eq] at hc204_o
      apply sr (c (mv hN (q 0)) rfl (c (mv hN (q 3)) rfl (cg (OpJ.val (v':=(.sref 0 6 0 (((p181.2.take p181.1.toNat++List.replicate (p181.2.length-p181.1.toNat) (aObject.mk (aPrefix.mk (aAddr.mk false 0 0) 0) 0 0)++p181.2.drop (p181.1.toNat+(p181.2.length-p181.1.toNat))).take p181.1.toNat).length))) (by rw [List.length_take,Nat.min_eq_left (of_decide_eq_true hc204)]) (OpJ.shrS (OpJ.cutS underlying38 tyS48 (l:=0) (h:=p181.1.toNat) (off':=0) (len':=p181.1.toNat) (.inl ⟨rfl,rfl,rfl⟩) (.inr ⟨_,_,_,rfl,(ot 58 (i6 p181.1)),(of_decide_eq_true (and_l2 (and_l2 hc203))),rfl⟩) (of_decide_eq_true (and_r2 (and_l2 hc203))) (of_decide_eq_true (and_r2 hc203)) (by simp) (by simp) (L rfl) (q 57)) (es':=((p181.2.take p181.1.toNat++List.replicate (p181.2.length-p181.1.toNat) (aObject.mk (aPrefix.mk (aAddr.mk false 0 0) 0) 0 0)++p181.2.drop (p181.1.toNat+(p181.2.length-p181.1.toNat))).take p181.1.toNat).map e_aObject) (by rw [List.length_map];exact(of_decide_eq_true hc204)) (by rw [List.map_take]))) rfl (c (assign (L rfl) (q 59)) rfl cn))))
      apply AWp.ret
      apply blkQ_r
      apply seqQ_r
      obtain rfl:=oi h
      exact⟨(fun hc=>by cases hc),rfl,(mp [] _ _ hB)⟩
    ·have h:=ite_f hg144 h
     apply AWp.skip
     apply blkQ_n
     apply seqQ_n
     refine rg (SQ tt) ?_
     obtain rfl:=oi h
     exact⟨rfl,(mp [] _ _ hB)⟩
   ·have h:=ite_f hg139 h
    apply AWp.exit
    apply seqQ_e
    obtain rfl:=oi h
    exact⟨(fun hc=>by cases hc),rfl,(mp [] _ _ hB)⟩
  ·rcases x205 with p137 | _
   ·obtain⟨rfl,hmat⟩:=hR
    apply blkQ_r
    apply seqQ_r
    obtain rfl:=oi h
    exact rt (Mat.trans hmat (Mat.trans (Mat.freezeP (n:=0) (e:=48) (sz:=6) (es:=p137.map e_aObject) (Ts:=[(2,(qe_aObject_6 p137))]) (Bs:=[]) (by rfl) (TwT.cons (x:=(.sref 0 6 0 p137.length)) (by rfl) (FrzL.all (by first | rfl | (simp;done) | (simp;omega) | omega)) TwT.nil) TwB.nil) (mp [] [(2,(qe_aObject_6 p137))] [] hB))) [(qe_aObject_6 p137)] (Res.tmp (by rfl) (by rfl) Res.nil) rfl
   ·obtain⟨rfl,hmat⟩:=hR
    apply blkQ_hit
    apply seqQ_n
    refine AWp.ghost hmat ?_
    refine sr (SQ tt) ?_
    apply AWp.ret
    obtain rfl:=oi h
    exact rt (Mat.trans (Mat.freezeP (n:=0) (e:=48) (sz:=6) (es:=a0.map e_aObject) (Ts:=[(2,(qe_aObject_6 a0))]) (Bs:=[]) (by rfl) (TwT.cons (x:=(.sref 0 6 0 a0.length)) (by rfl) (FrzL.all (by first | rfl | (simp;done) | (simp;omega) | omega)) TwT.nil) TwB.nil) (mp [] [(2,(qe_aObject_6 a0))] [] hB)) [(qe_aObject_6 a0)] (Res.tmp (by rfl) (by rfl) Res.nil) rfl
def irr_Ordered (a0:(List aObject)):Option ((List aObject)) :=
 (ext73_slices_Clone_R a0).bind fun r1 =>
 (ext74_slices_SortFunc_irr_Compare r1).bind fun r2 =>
 chk (decide (r2.length=r1.length)) <|
 (slices_Compact r2).bind fun r4 =>
 some r4
theorem irr_Ordered_ac (a0:(List aObject)) (r:(List aObject)) (h:irr_Ordered a0=some r):AC Tryz.prog 42 [(.d (.list 6 (a0.map e_aObject)))] [] (.d (.list 6 (r.map e_aObject))) []:=by
 refine AC.of_code2 Tryz.func42 rfl rfl (Nat.le_of_ble_eq_true (by rfl)) fun B hB hN => ?_
 delta irr_Ordered at h
 refine sr (SQ tt) ?_
 apply AWp.seq
 obtain⟨r1,hr1,h⟩:=bindS h
 refine rg (SQ (fa (cl [(900000,100000)] (ext73_slices_Clone_R_ac a0 r1 hr1)) tt)) ?_
 apply seqQ_n
 refine AWp.ghost (mp [] [(3,(.sref 100000 6 0 r1.length))] [(100000,some (we_aObject_48_6 r1))] hB) ?_
 apply AWp.seq
 obtain⟨r2,hr2,h⟩:=bindS h
 obtain⟨hc3,h⟩:=chk_some h
 have lhc3:=of_decide_eq_true hc3
 have hc3_o:=of_decide_eq_true hc3
 refine rg (SQ (fa (cl [(0,100000)] (ext74_slices_SortFunc_irr_Compare_ac r1 r2 hr2)) tt)) ?_
 apply seqQ_n
 refine AWp.ghost (mp [] [(3,(.sref 100000 6 0 r1.length))] [(100000,some (we_aObject_48_6 r2))] hB) ?_
 apply AWp.seq
 refine AWp.ghost (Mat.lenP (Ts:=[(3,(.sref 100000 6 0 r2.length))]) (Bs:=[]) (TwT.cons (x:=(.sref 100000 6 0 r1.length)) (by rfl) (Tw.leaf ⟨_,_,_,_,_,rfl,rfl,(by first | rfl | (simp;done) | (simp;omega) | omega)⟩) TwT.nil) TwB.nil) ?_
 obtain⟨r4,hr4,h⟩:=bindS h
 refine rg (SQ (fa (cl [(0,100000)] (slices_Compact_ac r2 r4 hr4)) tt)) ?_
 apply seqQ_n
 refine AWp.ghost (mp [] [(2,(qe_aObject_6 r4))] [] hB) ?_
 apply AWp.ret
 obtain rfl:=oi h
 exact rt (kp [(2,_)] [] hB rfl rfl (by rfl)) [(qe_aObject_6 r4)] (Res.tmp (by rfl) (by rfl) Res.nil) rfl
def origin_Payloads_L0 (a0:(List aCert)) (a1:(List aSigned)) (a3:Int) (r2:(List Bool)) (s3:Int×(List aObject)):Option ((((List aObject)))⊕(Int×(List aObject))) :=
 (if (decide (s3.1<(a1.length:Int)))=true then
 (idx a1 s3.1).bind fun x24 =>
 (origin_explain a0 r2 x24 a3).bind fun r25 =>
 jn (fun m28:(List aObject) =>
 some (.inr ((w64 (s3.1+1)),m28))) (fun j29 =>
 (if (r25==0)=true then
 chk (decide ((s3.2++x24.fObjects).length≤LIM)) <|
 j29 (s3.2++x24.fObjects)
 else
 j29 s3.2))
 else
 some (.inl s3.2))
def origin_Payloads (a0:(List aCert)) (a1:(List aSigned)) (a2:(List Int)) (a3:Int):Option ((List aObject)×Int) :=
 (if ((decide (512<(a0.length:Int))) || (decide (512<(a1.length:Int))))=true then
 some (([]:List aObject),3)
 else
 (origin_Trusted a0 a2 a3).bind fun r2 =>
 (loop (origin_Payloads_L0 a0 a1 a3 r2) (0,([]:List aObject))).bind fun p22 =>
 (irr_Ordered p22).bind fun r34 =>
 (if (decide (512<(r34.length:Int)))=true then
 some (([]:List aObject),3)
 else
 some (r34,0)))
theorem origin_Payloads_ac (a0:(List aCert)) (a1:(List aSigned)) (a2:(List Int)) (a3:Int) (r:(List aObject)×Int) (h:origin_Payloads a0 a1 a2 a3=some r):AC Tryz.prog 16 [(.d (.list 6 (a0.map e_aCert))),(.d (.list 5 (a1.map e_aSigned))),(.d (.list 1 (a2.map (eI .i64)))),(.d (.int .i64 a3))] [(500,(.know (globF 0 [109,150,151]))),(501,(.know (globF 1 [98,152,153])))] (.tup [(.d (.list 6 (r.1.map e_aObject))),(.d (.int .i64 r.2))]) [(500,some (.know (globF 0 [109,150,151]))),(501,some (.know (globF 1 [98,152,153])))]:=by
 refine ac2 Tryz.func16 rfl rfl fun B hB hN L => ?_
 delta origin_Payloads at h
 refine sr (SQ tt) ?_
 apply AWp.seq
 refine sr (SQ tt) ?_
 apply AWp.cond rfl<;>intro hg1
 ·have h:=ite_t hg1 h
  refine sr (SQ tt) ?_
  apply AWp.ret
  apply seqQ_r
  obtain rfl:=oi h
  exact rt (Mat.trans (Mat.coeP (Ts:=[(8,(qe_aObject_6 ([]:List aObject)))]) (Bs:=[]) (TwT.cons (x:=.nils) (by rfl) (Tw.leaf ⟨_,(Co.nils 6),rfl⟩) TwT.nil) TwB.nil) (mp [] [(8,(qe_aObject_6 ([]:List aObject))),(9,(i6 3))] [(500,some (.know (globF 0 [109,150,151]))),(501,some (.know (globF 1 [98,152,153])))] hB)) [(qe_aObject_6 ([]:List aObject)),(i6 3)] (Res.tmp (by rfl) (by rfl) (Res.tmp (by rfl) (by rfl) Res.nil)) rfl
 ·have h:=ite_f hg1 h
  apply AWp.skip
  apply seqQ_n
  apply AWp.seq
  obtain⟨r2,hr2,h⟩:=bindS h
  refine rg (SQ (fa (cl [(500,500),(501,501)] (origin_Trusted_ac a0 a2 a3 r2 hr2)) tt)) ?_
  apply seqQ_n
  refine AWp.ghost (mp [] [(0,(qe_aCert_6 a0)),(1,(qe_aSigned_5 a1)),(3,(i6 a3)),(10,(.d (.list 1 (r2.map eB))))] [(500,some (.know (globF 0 [109,150,151]))),(501,some (.know (globF 1 [98,152,153])))] hB) ?_
  refine sr (SQ tt) ?_
  apply AWp.seq
  refine sr (SQ tt) ?_
  apply AWp.block
  obtain⟨p22,hx33,h⟩:=bindS h
  refine lg (origin_Payloads_L0 a0 a1 a3 r2) (fun s3:Int×(List aObject)=>([(0,(qe_aCert_6 a0)),(3,(i6 a3)),(10,(.d (.list 1 (r2.map eB)))),(11,(.sref 3011 6 0 s3.2.length)),(26,(qe_aSigned_5 a1)),(27,(i6 (a1.length:Int))),(28,(i6 s3.1))]:EL)) (fun s3:Int×(List aObject)=>([(500,some (.know (globF 0 [109,150,151]))),(501,some (.know (globF 1 [98,152,153]))),(3011,some (we_aObject_48_6 s3.2))]:OL)) (fun(p22:((List aObject))) e E' O'=>e = .exit 0∧Mat B E' O' ([(11,(.sref 3011 6 0 p22.length))]:EL) ([(500,some (.know (globF 0 [109,150,151]))),(501,some (.know (globF 1 [98,152,153]))),(3011,some (we_aObject_48_6 p22))]:OL)) hx33 (Mat.trans (Mat.beginP (n:=3011) (e:=48) (sz:=6) (Ts:=[(11,(.sref 3011 6 0 0))]) (Bs:=[]) hB (by decide) (by rfl) (by decide) (TwT.cons (x:=.nils) (by rfl) (Tw.leaf ⟨rfl,rfl⟩) TwT.nil) TwB.nil) (mp [] _ _ hB)) (fun s3 y h => ?_) (fun e E' O' hR => ?_)
  ·unfold origin_Payloads_L0 at h
   refine sr (SQ tt) ?_
   apply AWp.seq
   apply AWp.cond rfl<;>intro hg23
   ·have h:=ite_t hg23 h
    apply AWp.skip
    apply seqQ_n
    apply AWp.seq
    apply AWp.block
    obtain⟨x24,hx24,h⟩:=bindS h
    refine sr (SQ (fa hx24 tt)) ?_
    obtain⟨r25,hr25,h⟩:=bindS h
    refine sr (SQ (fa (cl [] (origin_explain_ac a0 r2 x24 a3 r25 hr25)) tt)) ?_
    refine gh [(0,_),(3,_),(10,_),(11,_),(13,_),(26,_),(27,_),(28,_),(37,_)] [(500,some _),(501,some _),(1013,some _),(3011,some _)] hB rfl rfl (by rfl) ?_
    refine AWp.cut h (fun m28:(List aObject)=>([(0,(qe_aCert_6 a0)),(3,(i6 a3)),(10,(.d (.list 1 (r2.map eB)))),(11,(.sref 3011 6 0 m28.length)),(26,(qe_aSigned_5 a1)),(27,(i6 (a1.length:Int))),(28,(i6 s3.1))]:EL)) (fun m28:(List aObject)=>([(500,some (.know (globF 0 [109,150,151]))),(501,some (.know (globF 1 [98,152,153]))),(3011,some (we_aObject_48_6 m28))]:OL)) (fun m28 h E' O' hmat => ?_) (fun j29 hjj29 h => ?_)
    ·apply blkQ_n
     apply seqQ_n
     refine AWp.ghost hmat ?_
     refine rg (SQ tt) ?_
     obtain rfl:=oi h
     exact⟨rfl,(mp [] _ _ hB)⟩
    ·apply AWp.cond rfl<;>intro hg30
     ·have h:=ite_t hg30 h
      obtain⟨hc31,h⟩:=chk_some h
      refine rg (SQ (fa hc31 tt)) ?_
      exact hjj29 _ h _ _ (mp [(3011,1041)] _ _ hB)
     ·have h:=ite_f hg30 h
      apply AWp.skip
      exact hjj29 _ h _ _ (mp [] _ _ hB)
   ·have h:=ite_f hg23 h
    apply AWp.exit
    apply seqQ_e
    obtain rfl:=oi h
    exact⟨(fun hc=>by cases hc),rfl,(mp [] _ _ hB)⟩
  ·obtain⟨rfl,hmat⟩:=hR
   apply blkQ_hit
   apply seqQ_n
   refine AWp.ghost hmat ?_
   apply AWp.seq
   apply AWp.seq
   refine AWp.ghost (Mat.freezeP (n:=3011) (e:=48) (sz:=6) (es:=p22.map e_aObject) (Ts:=[(11,(qe_aObject_6 p22))]) (Bs:=[]) (by rfl) (TwT.cons (x:=(.sref 3011 6 0 p22.length)) (by rfl) (FrzL.all (by first | rfl | (simp;done) | (simp;omega) | omega)) TwT.nil) TwB.nil) ?_
   obtain⟨r34,hr34,h⟩:=bindS h
   refine rg (SQ (fa (cl [] (irr_Ordered_ac p22 r34 hr34)) tt)) ?_
   apply seqQ_n
   refine sr (SQ tt) ?_
   apply AWp.cond rfl<;>intro hg35
   ·have h:=ite_t hg35 h
    refine sr (SQ tt) ?_
    apply AWp.ret
    apply seqQ_r
    obtain rfl:=oi h
    exact rt (Mat.trans (Mat.coeP (Ts:=[(8,(qe_aObject_6 ([]:List aObject)))]) (Bs:=[]) (TwT.cons (x:=.nils) (by rfl) (Tw.leaf ⟨_,(Co.nils 6),rfl⟩) TwT.nil) TwB.nil) (mp [] [(8,(qe_aObject_6 ([]:List aObject))),(9,(i6 3))] [(500,some (.know (globF 0 [109,150,151]))),(501,some (.know (globF 1 [98,152,153])))] hB)) [(qe_aObject_6 ([]:List aObject)),(i6 3)] (Res.tmp (by rfl) (by rfl) (Res.tmp (by rfl) (by rfl) Res.nil)) rfl
   ·have h:=ite_f hg35 h
    apply AWp.skip
    apply seqQ_n
    refine sr (SQ tt) ?_
    apply AWp.ret
    obtain rfl:=oi h
    exact rt (kp [(8,_),(9,_)] [(500,some _),(501,some _)] hB rfl rfl (by rfl)) [(qe_aObject_6 r34),(i6 0)] (Res.tmp (by rfl) (by rfl) (Res.tmp (by rfl) (by rfl) Res.nil)) rfl
def prefix_Contains (a0:aPrefix) (a1:aAddr):Option (Bool) :=
 jn (fun m5:Bool =>
 some m5) (fun j6 =>
 (if ((a0.fAddr.fV6==a1.fV6)&&(decide (0≤a0.fLen)))=true then
 (prefix_width a1).bind fun r8 =>
 (if (decide (a0.fLen≤r8))=true then
 (prefix_first a1 a0.fLen).bind fun r10 =>
 j6 ((r10.fV6==a0.fAddr.fV6)&&((r10.fHi==a0.fAddr.fHi)&&((r10.fLo==a0.fAddr.fLo)&&true)))
 else
 j6 false)
 else
 j6 false))
theorem prefix_Contains_ac (a0:aPrefix) (a1:aAddr) (r:Bool) (h:prefix_Contains a0 a1=some r):AC Tryz.prog 80 [(.d (e_aPrefix a0)),(.d (e_aAddr a1))] [] (.d (.bool r)) []:=by
 refine ac2 Tryz.func80 rfl rfl fun B hB hN L => ?_
 delta prefix_Contains at h
 refine sr (SQ tt) ?_
 apply AWp.seq
 refine AWp.cut h (fun m5:Bool=>([(4,(bo m5))]:EL)) (fun m5:Bool=>([]:OL)) (fun m5 h E' O' hmat => ?_) (fun j6 hjj6 h => ?_)
 ·apply seqQ_n
  refine AWp.ghost hmat ?_
  apply AWp.ret
  obtain rfl:=oi h
  exact rt (kp [(4,_)] [] hB rfl rfl (by rfl)) [(bo m5)] (Res.tmp (by rfl) (by rfl) Res.nil) rfl
 ·rcases bft ((a0.fAddr.fV6==a1.fV6)&&(decide (0≤a0.fLen))) with hg7 | hg7
  ·have h:=ite_t hg7 h
   obtain⟨r8,hr8,h⟩:=bindS h
   rcases bft (decide (a0.fLen≤r8)) with hg9 | hg9
   ·have h:=ite_t hg9 h
    obtain⟨r10,hr10,h⟩:=bindS h
    apply dr (c (fo 1002 0 [0] hN underlying46 0 tyS44 (q 2)) rfl (c (fo 1002 0 [0,0] hN underlying44 0 tyS4 (q 5)) rfl (c (lb hN 46 _ _ tyS4 (At.dst1 (by rfl) (by rfl) (ad _) (by first | rfl | omega)) (q 6)) rfl (c (fo 1003 0 [0] hN underlying44 0 tyS4 (q 3)) rfl (c (la hN 44 tyS4 (q 8)) rfl (c (OpJ.eqlB underlying4 (L rfl) (q 7) (q 9)) rfl (c (mv hN (q 10)) rfl (c (oq hN 11 (fo 1002 3 [1] hN underlying46 3 tyS3 (q 2)) (OptL.keep (by rfl) OptL.nil) (GuardV.plain _)) rfl (c (oq hN 11 (la hN 46 tyS3 (q 12)) (OptL.opt OptL.nil) (GuardV.plain _)) rfl (c (oq hN 11 (geq (L rfl) (q 13) (ii 0)) (OptL.opt OptL.nil) (GuardV.plain _)) rfl (c (pickAnd rfl (L rfl) (q 11) (q 14)) rfl (c (OpJ.val (v':=.d (.bool true)) (by rw [hg7]<;>rfl) (mv hN (q 15))) rfl (c (gd 16 (fo 1002 3 [1] hN underlying46 3 tyS3 (q 2))) rfl (c (gd 16 (la hN 46 tyS3 (q 17))) rfl (c (gd 16 (lb hN 44 _ _ tyS44 (At.here _) (q 3))) rfl (cg (gd 16 (cf hB fnOk99 (prefix_width_ac a1 r8 hr8) (L rfl) (OpdL.cons (q 19) OpdL.nil))) rfl (c (gd 16 (leq (L rfl) (q 18) (q 20))) rfl (c (pickT (L rfl) (q 16) (q 21)) rfl (c (OpJ.val (v':=.d (.bool true)) (by rw [hg9]<;>rfl) (mv hN (q 22))) rfl (c (gd 23 (lb hN 44 _ _ tyS44 (At.here _) (q 3))) rfl (c (gd 23 (fo 1002 3 [1] hN underlying46 3 tyS3 (q 2))) rfl (c (gd 23 (la hN 46 tyS3 (q 25))) rfl (cg (gd 23 (cf hB fnOk100 (prefix_first_ac a1 a0.fLen r10 hr10) (L rfl) (OpdL.cons (q 24) (OpdL.cons (q 26) OpdL.nil)))) rfl (c (gd 23 (fo 1002 0 [0] hN underlying46 0 tyS44 (q 2))) rfl (c (gd 23 (la hN 46 tyS44 (q 28))) rfl (c (gd 23 (OpJ.eqlD (h:=2) (FitE.st underlying44 rfl held44 (FitF.cons (x:=(.bool r10.fV6)) (y:=(.bool a0.fAddr.fV6)) (by decide) rfl tyS4 ⟨rfl,rfl⟩ ⟨rfl,rfl⟩ (FitE.bool (h:=0) r10.fV6 a0.fAddr.fV6 underlying4) (FitF.cons (x:=(.int .u64 r10.fHi)) (y:=(.int .u64 a0.fAddr.fHi)) (by decide) rfl tyS42 ⟨rfl,rfl⟩ ⟨rfl,rfl⟩ (FitE.int (h:=0) r10.fHi a0.fAddr.fHi underlying42) (FitF.cons (x:=(.int .u64 r10.fLo)) (y:=(.int .u64 a0.fAddr.fLo)) (by decide) rfl tyS42 ⟨rfl,rfl⟩ ⟨rfl,rfl⟩ (FitE.int (h:=0) r10.fLo a0.fAddr.fLo underlying42) FitF.nil)))) eqg44 ⟨rfl,rfl⟩ (by rfl) (L rfl) (q 27) (q 29))) rfl (c (pickT (L rfl) (q 23) (q 30)) rfl (c (assign (L rfl) (q 31)) rfl cn)))))))))))))))))))))))))))) (by kernel_rfl) (by kernel_rfl)
    exact hjj6 _ h _ _ (mp [] _ _ hB)
   ·have h:=ite_f hg9 h
    refine drS (SQ (fa hg7 (fa (cl [] (prefix_width_ac a1 r8 hr8)) (fa hg9 tt)))) ?_
    exact hjj6 _ h _ _ (mp [] _ _ hB)
  ·have h:=ite_f hg7 h
   refine drS (SQ (fa hg7 tt)) ?_
   exact hjj6 _ h _ _ (mp [] _ _ hB)
def prefix_Covers (a0:aPrefix) (a1:aPrefix):Option (Bool) :=
 jn (fun m3:Bool =>
 some m3) (fun j4 =>
 (if (decide (a0.fLen≤a1.fLen))=true then
 (prefix_Contains a0 a1.fAddr).bind fun r6 =>
 j4 r6
 else
 j4 false))
theorem prefix_Covers_ac (a0:aPrefix) (a1:aPrefix) (r:Bool) (h:prefix_Covers a0 a1=some r):AC Tryz.prog 45 [(.d (e_aPrefix a0)),(.d (e_aPrefix a1))] [] (.d (.bool r)) []:=by
 refine ac2 Tryz.func45 rfl rfl fun B hB hN L => ?_
 delta prefix_Covers at h
 refine sr (SQ tt) ?_
 apply AWp.seq
 refine AWp.cut h (fun m3:Bool=>([(4,(bo m3))]:EL)) (fun m3:Bool=>([]:OL)) (fun m3 h E' O' hmat => ?_) (fun j4 hjj4 h => ?_)
 ·apply seqQ_n
  refine AWp.ghost hmat ?_
  apply AWp.ret
  obtain rfl:=oi h
  exact rt (kp [(4,_)] [] hB rfl rfl (by rfl)) [(bo m3)] (Res.tmp (by rfl) (by rfl) Res.nil) rfl
 ·rcases bft (decide (a0.fLen≤a1.fLen)) with hg5 | hg5
  ·have h:=ite_t hg5 h
   obtain⟨r6,hr6,h⟩:=bindS h
   refine rg (SQ (fa hg5 (fa (cl [] (prefix_Contains_ac a0 a1.fAddr r6 hr6)) tt))) ?_
   exact hjj4 _ h _ _ (mp [] _ _ hB)
  ·have h:=ite_f hg5 h
   refine rg (SQ (fa hg5 tt)) ?_
   exact hjj4 _ h _ _ (mp [] _ _ hB)
def origin_State_L0 (a0:(List aObject)) (a1:aPrefix) (a2:Int) (s1:Int×Int×(List aObject)):Option (((Int×(List aObject)))⊕(Int×Int×(List aObject))) :=
 (if (decide (s1.2.1<(a0.length:Int)))=true then
 jn (fun m40:Int×(List aObject) =>
 some (.inr (m40.1,(w64 (s1.2.1+1)),m40.2))) (fun j41 =>
 (idx a0 s1.2.1).bind fun x42 =>
 (prefix_Covers x42.fPrefix a1).bind fun r43 =>
 (if (!r43)=true then
 j41 (s1.1,s1.2.2)
 else
 chk (decide ((s1.2.2++[x42]).length≤LIM)) <|
 (if (((x42.fASN==a2)&&(a2 != 0))&&(decide (a1.fLen≤x42.fMax)))=true then
 j41 (1,(s1.2.2++[x42]))
 else
 (if (s1.1==0)=true then
 j41 (2,(s1.2.2++[x42]))
 else
 j41 (s1.1,(s1.2.2++[x42]))))))
 else
 some (.inl (s1.1,s1.2.2)))
def origin_State (a0:(List aObject)) (a1:aPrefix) (a2:Int):Option (Int×(List aObject)) :=
 (loop (origin_State_L0 a0 a1 a2) (0,0,([]:List aObject))).bind fun p32 =>
 some (p32.1,p32.2)
theorem origin_State_ac (a0:(List aObject)) (a1:aPrefix) (a2:Int) (r:Int×(List aObject)) (h:origin_State a0 a1 a2=some r):AC Tryz.prog 18 [(.d (.list 6 (a0.map e_aObject))),(.d (e_aPrefix a1)),(.d (.int .i64 a2))] [] (.tup [(.d (.int .i64 r.1)),(.d (.list 6 (r.2.map e_aObject)))]) []:=by
 refine ac2 Tryz.func18 rfl rfl fun B hB hN L => ?_
 delta origin_State at h
 refine sr (SQ tt) ?_
 refine sr (SQ tt) ?_
 refine sr (SQ tt) ?_
 apply AWp.seq
 refine sr (SQ tt) ?_
 apply AWp.block
 obtain⟨p32,hx49,h⟩:=bindS h
 refine lg (origin_State_L0 a0 a1 a2) (fun s1:Int×Int×(List aObject)=>([(2,(i6 a2)),(4,(pt 1004)),(8,(.sref 3008 6 0 s1.2.2.length)),(9,(i6 s1.1)),(12,(qe_aObject_6 a0)),(13,(i6 (a0.length:Int))),(14,(i6 s1.2.1))]:EL)) (fun s1:Int×Int×(List aObject)=>([(1004,bd 46 (e_aPrefix a1)),(3008,some (we_aObject_48_6 s1.2.2))]:OL)) (fun(p32:(Int×(List aObject))) e E' O'=>e = .exit 0∧Mat B E' O' ([(8,(.sref 3008 6 0 p32.2.length)),(9,(i6 p32.1))]:EL) ([(3008,some (we_aObject_48_6 p32.2))]:OL)) hx49 (Mat.trans (Mat.beginP (n:=3008) (e:=48) (sz:=6) (Ts:=[(8,(.sref 3008 6 0 0))]) (Bs:=[]) hB (by decide) (by rfl) (by decide) (TwT.cons (x:=.nils) (by rfl) (Tw.leaf ⟨rfl,rfl⟩) TwT.nil) TwB.nil) (mp [] _ _ hB)) (fun s1 y h => ?_) (fun e E' O' hR => ?_)
 ·unfold origin_State_L0 at h
  refine sr (SQ tt) ?_
  apply AWp.seq
  apply AWp.cond rfl<;>intro hg33
  ·have h:=ite_t hg33 h
   apply AWp.skip
   apply seqQ_n
   apply AWp.seq
   refine AWp.cut h (fun m40:Int×(List aObject)=>([(2,(i6 a2)),(4,(pt 1004)),(8,(.sref 3008 6 0 m40.2.length)),(9,(i6 m40.1)),(12,(qe_aObject_6 a0)),(13,(i6 (a0.length:Int))),(14,(i6 s1.2.1))]:EL)) (fun m40:Int×(List aObject)=>([(1004,bd 46 (e_aPrefix a1)),(3008,some (we_aObject_48_6 m40.2))]:OL)) (fun m40 h E' O' hmat => ?_) (fun j41 hjj41 h => ?_)
   ·apply seqQ_n
    refine AWp.ghost hmat ?_
    refine rg (SQ tt) ?_
    obtain rfl:=oi h
    exact⟨rfl,(mp [] _ _ hB)⟩
   ·apply AWp.block
    obtain⟨x42,hx42,h⟩:=bindS h
    refine sr (SQ (fa hx42 tt)) ?_
    apply AWp.seq
    obtain⟨r43,hr43,h⟩:=bindS h
    refine sr (SQ (fa (cl [] (prefix_Covers_ac x42.fPrefix a1 r43 hr43)) tt)) ?_
    apply AWp.cond rfl<;>intro hg44
    ·have h:=ite_t hg44 h
     apply AWp.exit
     apply seqQ_e
     apply blkQ_hit
     exact hjj41 _ h _ _ (mp [] _ _ hB)
    ·have h:=ite_f hg44 h
     apply AWp.skip
     apply seqQ_n
     obtain⟨hc45,h⟩:=chk_some h
     refine sr (SQ (fa hc45 tt)) ?_
     refine sr (SQ tt) ?_
     apply AWp.cond rfl<;>intro hg46
     ·have h:=ite_t hg46 h
      refine rg (SQ tt) ?_
      apply blkQ_n
      exact hjj41 _ h _ _ (mp [(3008,1026)] _ _ hB)
     ·have h:=ite_f hg46 h
      refine sr (SQ tt) ?_
      apply AWp.cond rfl<;>intro hg47
      ·have h:=ite_t hg47 h
       refine rg (SQ tt) ?_
       apply blkQ_n
       exact hjj41 _ h _ _ (mp [(3008,1026)] _ _ hB)
      ·have h:=ite_f hg47 h
       apply AWp.skip
       apply blkQ_n
       exact hjj41 _ h _ _ (mp [(3008,1026)] _ _ hB)
  ·have h:=ite_f hg33 h
   apply AWp.exit
   apply seqQ_e
   obtain rfl:=oi h
   exact⟨(fun hc=>by cases hc),rfl,(mp [] _ _ hB)⟩
 ·obtain⟨rfl,hmat⟩:=hR
  apply blkQ_hit
  apply seqQ_n
  refine AWp.ghost hmat ?_
  refine sr (SQ tt) ?_
  apply AWp.ret
  obtain rfl:=oi h
  exact rt (Mat.trans (Mat.freezeP (n:=3008) (e:=48) (sz:=6) (es:=p32.2.map e_aObject) (Ts:=[(7,(qe_aObject_6 p32.2))]) (Bs:=[]) (by rfl) (TwT.cons (x:=(.sref 3008 6 0 p32.2.length)) (by rfl) (FrzL.all (by first | rfl | (simp;done) | (simp;omega) | omega)) TwT.nil) TwB.nil) (mp [] [(6,(i6 p32.1)),(7,(qe_aObject_6 p32.2))] [] hB)) [(i6 p32.1),(qe_aObject_6 p32.2)] (Res.tmp (by rfl) (by rfl) (Res.tmp (by rfl) (by rfl) Res.nil)) rfl
def xlaw22_awake:Option (Bool) :=
 (xlaw22_awake_1 0 8).bind fun r1 =>
 (xref21_Of [r1] ([]:List aSpan)).bind fun r2 =>
 (xlaw22_awake_1 1 16).bind fun r3 =>
 (xref21_Of [r3] ([]:List aSpan)).bind fun r4 =>
 (xlaw22_awake_1 1 16).bind fun r5 =>
 (origin_Payloads [(aCert.mk 1 1 0 9 r2.1),(aCert.mk 2 1 0 9 r4.1)] ([(aSigned.mk 2 7 0 9 [(aObject.mk r5 16 7)])]:List aSigned) ([1]:List Int) 5).bind fun r6 =>
 (xlaw22_awake_1 1 16).bind fun r7 =>
 (origin_State r6.1 r7 7).bind fun r8 =>
 (xlaw22_awake_1 1 16).bind fun r9 =>
 (origin_State r6.1 r9 8).bind fun r10 =>
 some ((((r6.2==0)&&((r6.1.length:Int)==1))&&(r8.1==1))&&(r10.1==2))
theorem xlaw22_awake_ac (r:Bool) (h:xlaw22_awake=some r):AC Tryz.prog 9 [] [(500,(.know (globF 0 [109,150,151]))),(501,(.know (globF 1 [98,152,153])))] (.d (.bool r)) [(500,some (.know (globF 0 [109,150,151]))),(501,some (.know (globF 1 [98,152,153])))]:=by
 refine ac2 Tryz.func9 rfl rfl fun B hB hN L => ?_
 delta xlaw22_awake at h
 refine sr (SQ tt) ?_
 refine sr (SQ tt) ?_
 obtain⟨r1,hr1,h⟩:=bindS h
 obtain⟨r2,hr2,h⟩:=bindS h
 refine sr (SQ (fa (cl [] (xlaw22_awake_1_ac 0 8 r1 hr1)) (fa (cl [] (xref21_Of_ac [r1] ([]:List aSpan) r2 hr2)) tt))) ?_
 obtain⟨r3,hr3,h⟩:=bindS h
 obtain⟨r4,hr4,h⟩:=bindS h
 refine sr (SQ (fa (cl [] (xlaw22_awake_1_ac 1 16 r3 hr3)) (fa (cl [] (xref21_Of_ac [r3] ([]:List aSpan) r4 hr4)) tt))) ?_
 refine sr (SQ tt) ?_
 apply AWp.seq
 obtain⟨r5,hr5,h⟩:=bindS h
 obtain⟨r6,hr6,h⟩:=bindS h
 refine rg (SQ (fa (cl [] (xlaw22_awake_1_ac 1 16 r5 hr5)) (fa (cl [(500,500),(501,501)] (origin_Payloads_ac [(aCert.mk 1 1 0 9 r2.1),(aCert.mk 2 1 0 9 r4.1)] ([(aSigned.mk 2 7 0 9 [(aObject.mk r5 16 7)])]:List aSigned) ([1]:List Int) 5 r6 hr6)) tt))) ?_
 apply seqQ_n
 refine AWp.ghost (mp [] [(1,(.func 27 [])),(7,(qe_aObject_6 r6.1)),(8,(i6 r6.2))] [(500,some (.know (globF 0 [109,150,151]))),(501,some (.know (globF 1 [98,152,153])))] hB) ?_
 obtain⟨r7,hr7,h⟩:=bindS h
 obtain⟨r8,hr8,h⟩:=bindS h
 refine sr (SQ (fa (cl [] (xlaw22_awake_1_ac 1 16 r7 hr7)) (fa (cl [] (origin_State_ac r6.1 r7 7 r8 hr8)) tt))) ?_
 obtain⟨r9,hr9,h⟩:=bindS h
 obtain⟨r10,hr10,h⟩:=bindS h
 refine sr (SQ (fa (cl [] (xlaw22_awake_1_ac 1 16 r9 hr9)) (fa (cl [] (origin_State_ac r6.1 r9 8 r10 hr10)) tt))) ?_
 refine sr (SQ tt) ?_
 apply AWp.ret
 obtain rfl:=oi h
 exact rt (kp [(0,_)] [(500,some _),(501,some _)] hB rfl rfl (by rfl)) [(bo ((((r6.2==0)&&((r6.1.length:Int)==1))&&(r8.1==1))&&(r10.1==2)))] (Res.tmp (by rfl) (by rfl) Res.nil) rfl
def xmake_New (a0:(List Int)):Option (xmake_Deck) :=
 some (xmake_Deck.mk a0 0)
theorem xmake_New_ac (a0:(List Int)) (r:xmake_Deck) (h:xmake_New a0=some r):AC Tryz.prog 11 [(.d (.list 1 (a0.map (eI .i64))))] [] (pt 1005) [(1005,bd 80 (e_xmake_Deck r))]:=by
 refine AC.of_code2 Tryz.func11 rfl rfl (Nat.le_of_ble_eq_true (by rfl)) fun B hB hN => ?_
 delta xmake_New at h
 refine sr (SQ tt) ?_
 refine sr (SQ tt) ?_
 apply AWp.ret
 obtain rfl:=oi h
 exact rt (kp [(2,_)] [(1005,some _)] hB rfl rfl (by rfl)) [(pt 1005)] (Res.tmp (by rfl) (by rfl) Res.nil) rfl
def xmake_Mod (a0:Int) (a1:Int):Option (Int) :=
 chk (decide (a1≠0)) <|
 jn (fun m3:Int =>
 some m3) (fun j4 =>
 (if (decide ((Int.tmod a0 a1)<0))=true then
 j4 (w64 ((Int.tmod a0 a1)+a1))
 else
 j4 (Int.tmod a0 a1)))
theorem xmake_Mod_ac (a0:Int) (a1:Int) (r:Int) (h:xmake_Mod a0 a1=some r):AC Tryz.prog 19 [(.d (.int .i64 a0)),(.d (.int .i64 a1))] [] (.d (.int .i64 r)) []:=by
 refine AC.of_code2 Tryz.func19 rfl rfl (Nat.le_of_ble_eq_true (by rfl)) fun B hB hN => ?_
 delta xmake_Mod at h
 refine sr (SQ tt) ?_
 obtain⟨hc1,h⟩:=chk_some h
 refine sr (SQ (fa hc1 tt)) ?_
 apply AWp.seq
 refine sr (SQ tt) ?_
 refine gh [(1,_),(5,_),(10,_)] [] hB rfl rfl (by rfl) ?_
 refine AWp.cut h (fun m3:Int=>([(5,(i6 m3))]:EL)) (fun m3:Int=>([]:OL)) (fun m3 h E' O' hmat => ?_) (fun j4 hjj4 h => ?_)
 ·apply seqQ_n
  refine AWp.ghost hmat ?_
  refine sr (SQ tt) ?_
  apply AWp.ret
  obtain rfl:=oi h
  exact rt (kp [(4,_)] [] hB rfl rfl (by rfl)) [(i6 m3)] (Res.tmp (by rfl) (by rfl) Res.nil) rfl
 ·apply AWp.cond rfl<;>intro hg5
  ·have h:=ite_t hg5 h
   refine rg (SQ tt) ?_
   exact hjj4 _ h _ _ (mp [] _ _ hB)
  ·have h:=ite_f hg5 h
   apply AWp.skip
   exact hjj4 _ h _ _ (mp [] _ _ hB)
def xmake_Deck_Next (a0:xmake_Deck) (a1:Int):Option (Int×xmake_Deck) :=
 (if (decide ((a0.fL.length:Int)≤a0.fAt))=true then
 some (0,a0)
 else
 (idx a0.fL (w64 ((w64 (a0.fAt+1))-1))).bind fun x2 =>
 (xmake_Mod x2 a1).bind fun r3 =>
 some (r3,(xmake_Deck.mk a0.fL (w64 (a0.fAt+1)))))
theorem xmake_Deck_Next_ac (a0:xmake_Deck) (a1:Int) (r:Int×xmake_Deck) (h:xmake_Deck_Next a0 a1=some r):AC Tryz.prog 30 [(pt 0),(.d (.int .i64 a1))] [(0,(.box 80 (.d (e_xmake_Deck a0))))] (.d (.int .i64 r.1)) [(0,bd 80 (e_xmake_Deck r.2))]:=by
 refine ac2 Tryz.func30 rfl rfl fun B hB hN L => ?_
 delta xmake_Deck_Next at h
 refine sr (SQ tt) ?_
 apply AWp.seq
 refine sdS (SQ tt) ?_
 apply AWp.cond rfl<;>intro hg1
 ·have h:=ite_t hg1 h
  refine sr (SQ tt) ?_
  apply AWp.ret
  apply seqQ_r
  obtain rfl:=oi h
  exact rt (kp [(4,_)] [(0,some _)] hB rfl rfl (by rfl)) [(i6 0)] (Res.tmp (by rfl) (by rfl) Res.nil) rfl
 ·have h:=ite_f hg1 h
  apply AWp.skip
  apply seqQ_n
  refine sr (SQ tt) ?_
  obtain⟨x2,hx2,h⟩:=bindS h
  obtain⟨r3,hr3,h⟩:=bindS h
  refine sdS (SQ (fa hx2 (fa (cl [] (xmake_Mod_ac x2 a1 r3 hr3)) tt))) ?_
  apply AWp.ret
  obtain rfl:=oi h
  exact rt (kp [(4,_)] [(0,some _)] hB rfl rfl (by rfl)) [(i6 r3)] (Res.tmp (by rfl) (by rfl) Res.nil) rfl
end
end Go.Proofs.YtgfoabcickjphaaGreatDoor
